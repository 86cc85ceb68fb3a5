/- Types and models, printed by gen.py: plain Lean; nothing of the loaded program stands here. -/
import Derived.Test.YtoiamgpgodcioaaPvXi
namespace Go.Pv
open Go
def enc_u16 (n : Int) : List Tree := [tK .u16 n]
def enc_u64 (n : Int) : List Tree := [tK .u64 n]
def enc_u8 (n : Int) : List Tree := [tK .u8 n]
@[ext] structure SRequest where
  Source : Int
  Kind : Int
  Torque : Int
  Priority : Int
def enc_SRequest (x : SRequest) : List Tree := [tI x.Source, tI x.Kind, tI x.Torque, tI x.Priority]
abbrev A_SRequest (x : SRequest) : T := .agg [.t (tI x.Source), .t (tI x.Kind), .t (tI x.Torque), .t (tI x.Priority)]
@[ext] structure SRange where
  Low : Int
  High : Int
def enc_SRange (x : SRange) : List Tree := [tI x.Low, tI x.High]
abbrev A_SRange (x : SRange) : T := .agg [.t (tI x.Low), .t (tI x.High)]
@[ext] structure SGrant where
  Torque : Int
  Source : Int
def enc_SGrant (x : SGrant) : List Tree := [tI x.Torque, tI x.Source]
abbrev A_SGrant (x : SGrant) : T := .agg [.t (tI x.Torque), .t (tI x.Source)]
@[ext] structure Sarbiter_span where
  low : Int
  high : Int
  source : Int
def enc_Sarbiter_span (x : Sarbiter_span) : List Tree := [tI x.low, tI x.high, tI x.source]
abbrev A_Sarbiter_span (x : Sarbiter_span) : T := .agg [.t (tI x.low), .t (tI x.high), .t (tI x.source)]
/-- magneto/arbiter.torque -/
noncomputable def arbiter_torque (t2 : Int) : Option Bool :=
  some ((decide (t2 ≥ (-5000))) && (decide (t2 ≤ 10000)))
/-- slices.IndexFunc[[]magneto/api.Request,magneto/api.Request] -/
noncomputable def slices_IndexFunc_sRequest_b1 (s : List SRequest) (f2 : SRequest → Option Bool) (i : Int) (_ : Unit) : Option (Fl Unit Int) :=
  Option.bind (getI s i) fun x => Option.bind (f2 x) fun v => bif v then (some (.ret i)) else (some (.next ()))
noncomputable def slices_IndexFunc_sRequest (s : List SRequest) (f2 : SRequest → Option Bool) : Option Int :=
  Option.bind (rangeN (s.length : Int) (slices_IndexFunc_sRequest_b1 s f2) ()) fun (t : Unit ⊕ Int) => match t with | .inl _ => (some (-1)) | .inr r2 => some r2
/-- slices.ContainsFunc[[]magneto/api.Request,magneto/api.Request] -/
noncomputable def slices_ContainsFunc_sRequest (s : List SRequest) (f2 : SRequest → Option Bool) : Option Bool :=
  Option.bind (slices_IndexFunc_sRequest s f2) fun v => some (decide (v ≥ 0))
/-- magneto/arbiter.Valid -/
noncomputable def arbiter_Valid (r2 : SRequest) : Option Bool :=
  Option.bind (bif ((((decide (r2.Source < 0)) || (decide (r2.Source > 15))) || (decide (r2.Priority < 0))) || (decide (r2.Priority > 15))) then (some true) else (Option.bind (arbiter_torque r2.Torque) fun v => some (!v))) fun b2 => bif b2 then (some false) else (Option.bind (bif (r2.Kind == 1) then (some true) else (Option.bind (bif (decide (r2.Source ≤ 1)) then (some ((r2.Kind == 2) || (r2.Kind == 3))) else (some false)) fun b3 => some b3)) fun b4 => some b4)
/-- magneto/arbiter.given$1 -/
noncomputable def arbiter_given_1 (r2 : SRequest) : Option Bool :=
  Option.bind (arbiter_Valid r2) fun v => some (!v)
/-- magneto/arbiter.given -/
noncomputable def arbiter_given (l : List SRequest) (low : Int) (high : Int) : Option Int :=
  Option.bind (slices_ContainsFunc_sRequest l arbiter_given_1) fun v => bif v then (some 1) else (bif (decide ((l.length : Int) > 32)) then (some 5) else (Option.bind (arbiter_torque low) fun v2 => Option.bind (bif (!v2) then (some true) else (Option.bind (arbiter_torque high) fun v3 => some (!v3))) fun b2 => bif (b2 || (decide (low > high))) then (some 2) else (some 0)))
/-- slices.Sort[[]int,int] -/
noncomputable def slices_Sort_sint (s : List Int) : Option (List Int) :=
  sortIM s
/-- slices.Compact[[]int,int] -/
noncomputable def slices_Compact_sint (s : List Int) : Option (List Int) :=
  compactM s
/-- slices.Clone[[]magneto/api.Request,magneto/api.Request] -/
noncomputable def slices_Clone_sRequest (s : List SRequest) : Option (List SRequest) :=
  Option.bind (appendM ([] : List SRequest) s) fun l => some l
/-- slices.insertionSortCmpFunc[magneto/api.Request] -/
noncomputable def slices_insertionSortCmpFunc_Request_b2 (a : Int) (cmp : SRequest → SRequest → Option Int) (s2 : Int × List SRequest) : Option ((Int × List SRequest) ⊕ ((Int × List SRequest) ⊕ Empty)) :=
  Option.bind (bif (decide (s2.1 > a)) then (Option.bind (getI s2.2 s2.1) fun x => Option.bind (getI s2.2 (w64 (s2.1 - 1))) fun x2 => Option.bind (cmp x x2) fun v => some (decide (v < 0))) else (some false)) fun (v2 : Bool) => bif v2 then (Option.bind (Option.bind (getI s2.2 (w64 (s2.1 - 1))) fun x3 => Option.bind (getI s2.2 s2.1) fun x4 => Option.bind (setM s2.2 s2.1 x3) fun l => Option.bind (getI l (w64 (s2.1 - 1))) fun _ => Option.bind (setM l (w64 (s2.1 - 1)) x4) fun l2 => some l2) fun (f2 : List SRequest) => some (.inl (w64 (s2.1 - 1), f2))) else (some (.inr (.inl (s2.1, s2.2))))
noncomputable def slices_insertionSortCmpFunc_Request_b1 (a : Int) (b2 : Int) (cmp : SRequest → SRequest → Option Int) (s : Int × List SRequest) : Option ((Int × List SRequest) ⊕ ((Int × List SRequest) ⊕ Empty)) :=
  bif (decide (s.1 < b2)) then (Option.bind (loopM (slices_insertionSortCmpFunc_Request_b2 a cmp) (s.1, s.2)) fun (t : (Int × List SRequest) ⊕ Empty) => match t with | .inl s3 => (some (.inl (w64 (s.1 + 1), s3.2))) | .inr r => r.elim) else (some (.inr (.inl (s.1, s.2))))
noncomputable def slices_insertionSortCmpFunc_Request (data : List SRequest) (a : Int) (b2 : Int) (cmp : SRequest → SRequest → Option Int) : Option (List SRequest) :=
  Option.bind (loopM (slices_insertionSortCmpFunc_Request_b1 a b2 cmp) (w64 (a + 1), data)) fun (t : (Int × List SRequest) ⊕ Empty) => match t with | .inl s4 => (some s4.2) | .inr r => r.elim
/-- slices.swapRangeCmpFunc[magneto/api.Request] -/
noncomputable def slices_swapRangeCmpFunc_Request_b1 (a : Int) (b2 : Int) (n2 : Int) (s : Int × List SRequest) : Option ((Int × List SRequest) ⊕ ((Int × List SRequest) ⊕ Empty)) :=
  bif (decide (s.1 < n2)) then (Option.bind (Option.bind (getI s.2 (w64 (b2 + s.1))) fun x => Option.bind (getI s.2 (w64 (a + s.1))) fun x2 => Option.bind (setM s.2 (w64 (a + s.1)) x) fun l => Option.bind (getI l (w64 (b2 + s.1))) fun _ => Option.bind (setM l (w64 (b2 + s.1)) x2) fun l2 => some l2) fun (f2 : List SRequest) => some (.inl (w64 (s.1 + 1), f2))) else (some (.inr (.inl (s.1, s.2))))
noncomputable def slices_swapRangeCmpFunc_Request (data : List SRequest) (a : Int) (b2 : Int) (n2 : Int) (_ : SRequest → SRequest → Option Int) : Option (List SRequest) :=
  Option.bind (loopM (slices_swapRangeCmpFunc_Request_b1 a b2 n2) (0, data)) fun (t : (Int × List SRequest) ⊕ Empty) => match t with | .inl s2 => (some s2.2) | .inr r => r.elim
/-- slices.rotateCmpFunc[magneto/api.Request] -/
noncomputable def slices_rotateCmpFunc_Request_b1 (m2 : Int) (cmp : SRequest → SRequest → Option Int) (s : Int × Int × List SRequest) : Option ((Int × Int × List SRequest) ⊕ ((Int × Int × List SRequest) ⊕ Empty)) :=
  bif (s.1 != s.2.1) then (bif (decide (s.1 > s.2.1)) then (Option.bind (slices_swapRangeCmpFunc_Request s.2.2 (w64 (m2 - s.1)) m2 s.2.1 cmp) fun v => some (.inl (w64 (s.1 - s.2.1), s.2.1, v))) else (Option.bind (slices_swapRangeCmpFunc_Request s.2.2 (w64 (m2 - s.1)) (w64 ((w64 (m2 + s.2.1)) - s.1)) s.1 cmp) fun v2 => some (.inl (s.1, w64 (s.2.1 - s.1), v2)))) else (some (.inr (.inl (s.1, s.2.1, s.2.2))))
noncomputable def slices_rotateCmpFunc_Request (data : List SRequest) (a : Int) (m2 : Int) (b2 : Int) (cmp : SRequest → SRequest → Option Int) : Option (List SRequest) :=
  Option.bind (loopM (slices_rotateCmpFunc_Request_b1 m2 cmp) (w64 (m2 - a), w64 (b2 - m2), data)) fun (t : (Int × Int × List SRequest) ⊕ Empty) => match t with | .inl s2 => (Option.bind (slices_swapRangeCmpFunc_Request s2.2.2 (w64 (m2 - s2.1)) m2 s2.1 cmp) fun v3 => some v3) | .inr r => r.elim
/-- slices.symMergeCmpFunc[magneto/api.Request] -/
noncomputable def slices_symMergeCmpFunc_Request_b1 (data : List SRequest) (a : Int) (cmp : SRequest → SRequest → Option Int) (s : Int × Int) : Option ((Int × Int) ⊕ ((Int × Int) ⊕ Empty)) :=
  bif (decide (s.1 < s.2)) then (Option.bind (getI data (w64 (bitShr .u64 (IntKind.u64.wrap (w64 (s.1 + s.2))) 1))) fun x => Option.bind (getI data a) fun x2 => Option.bind (cmp x x2) fun v => bif (decide (v < 0)) then (some (.inl (w64 ((w64 (bitShr .u64 (IntKind.u64.wrap (w64 (s.1 + s.2))) 1)) + 1), s.2))) else (some (.inl (s.1, w64 (bitShr .u64 (IntKind.u64.wrap (w64 (s.1 + s.2))) 1))))) else (some (.inr (.inl (s.1, s.2))))
noncomputable def slices_symMergeCmpFunc_Request_b2 (s2 : Int × Int) (s3 : Int × List SRequest) : Option ((Int × List SRequest) ⊕ ((Int × List SRequest) ⊕ Empty)) :=
  bif (decide (s3.1 < (w64 (s2.1 - 1)))) then (Option.bind (Option.bind (getI s3.2 (w64 (s3.1 + 1))) fun x3 => Option.bind (getI s3.2 s3.1) fun x4 => Option.bind (setM s3.2 s3.1 x3) fun l => Option.bind (getI l (w64 (s3.1 + 1))) fun _ => Option.bind (setM l (w64 (s3.1 + 1)) x4) fun l2 => some l2) fun (f2 : List SRequest) => some (.inl (w64 (s3.1 + 1), f2))) else (some (.inr (.inl (s3.1, s3.2))))
noncomputable def slices_symMergeCmpFunc_Request_b3 (data : List SRequest) (m2 : Int) (cmp : SRequest → SRequest → Option Int) (s5 : Int × Int) : Option ((Int × Int) ⊕ ((Int × Int) ⊕ Empty)) :=
  bif (decide (s5.1 < s5.2)) then (Option.bind (getI data m2) fun x6 => Option.bind (getI data (w64 (bitShr .u64 (IntKind.u64.wrap (w64 (s5.1 + s5.2))) 1))) fun x7 => Option.bind (cmp x6 x7) fun v2 => bif (!(decide (v2 < 0))) then (some (.inl (w64 ((w64 (bitShr .u64 (IntKind.u64.wrap (w64 (s5.1 + s5.2))) 1)) + 1), s5.2))) else (some (.inl (s5.1, w64 (bitShr .u64 (IntKind.u64.wrap (w64 (s5.1 + s5.2))) 1))))) else (some (.inr (.inl (s5.1, s5.2))))
noncomputable def slices_symMergeCmpFunc_Request_b4 (s6 : Int × Int) (s7 : Int × List SRequest) : Option ((Int × List SRequest) ⊕ ((Int × List SRequest) ⊕ Empty)) :=
  bif (decide (s7.1 > s6.1)) then (Option.bind (Option.bind (getI s7.2 (w64 (s7.1 - 1))) fun x8 => Option.bind (getI s7.2 s7.1) fun x9 => Option.bind (setM s7.2 s7.1 x8) fun l3 => Option.bind (getI l3 (w64 (s7.1 - 1))) fun _ => Option.bind (setM l3 (w64 (s7.1 - 1)) x9) fun l4 => some l4) fun (f3 : List SRequest) => some (.inl (w64 (s7.1 - 1), f3))) else (some (.inr (.inl (s7.1, s7.2))))
noncomputable def slices_symMergeCmpFunc_Request_b5 (data : List SRequest) (a : Int) (m2 : Int) (b2 : Int) (cmp : SRequest → SRequest → Option Int) (s10 : Int × Int) : Option ((Int × Int) ⊕ ((Int × Int) ⊕ Empty)) :=
  bif (decide (s10.1 < s10.2)) then (Option.bind (getI data (w64 ((w64 ((w64 ((w64 (bitShr .u64 (IntKind.u64.wrap (w64 (a + b2))) 1)) + m2)) - 1)) - (w64 (bitShr .u64 (IntKind.u64.wrap (w64 (s10.1 + s10.2))) 1))))) fun x11 => Option.bind (getI data (w64 (bitShr .u64 (IntKind.u64.wrap (w64 (s10.1 + s10.2))) 1))) fun x12 => Option.bind (cmp x11 x12) fun v3 => bif (!(decide (v3 < 0))) then (some (.inl (w64 ((w64 (bitShr .u64 (IntKind.u64.wrap (w64 (s10.1 + s10.2))) 1)) + 1), s10.2))) else (some (.inl (s10.1, w64 (bitShr .u64 (IntKind.u64.wrap (w64 (s10.1 + s10.2))) 1))))) else (some (.inr (.inl (s10.1, s10.2))))
noncomputable def slices_symMergeCmpFunc_Request_s (rc : List SRequest → Int → Int → Int → (SRequest → SRequest → Option Int) → Option (List SRequest)) (data : List SRequest) (a : Int) (m2 : Int) (b2 : Int) (cmp : SRequest → SRequest → Option Int) : Option (List SRequest) :=
  bif ((w64 (m2 - a)) == 1) then (Option.bind (loopM (slices_symMergeCmpFunc_Request_b1 data a cmp) (m2, b2)) fun (t : (Int × Int) ⊕ Empty) => match t with | .inl s2 => (Option.bind (loopM (slices_symMergeCmpFunc_Request_b2 s2) (a, data)) fun (t : (Int × List SRequest) ⊕ Empty) => match t with | .inl s4 => (some s4.2) | .inr r => r.elim) | .inr r => r.elim) else (bif ((w64 (b2 - m2)) == 1) then (Option.bind (loopM (slices_symMergeCmpFunc_Request_b3 data m2 cmp) (a, m2)) fun (t : (Int × Int) ⊕ Empty) => match t with | .inl s6 => (Option.bind (loopM (slices_symMergeCmpFunc_Request_b4 s6) (m2, data)) fun (t : (Int × List SRequest) ⊕ Empty) => match t with | .inl s8 => (some s8.2) | .inr r => r.elim) | .inr r => r.elim) else (Option.bind (bif (decide (m2 > (w64 (bitShr .u64 (IntKind.u64.wrap (w64 (a + b2))) 1)))) then (some (w64 ((w64 ((w64 (bitShr .u64 (IntKind.u64.wrap (w64 (a + b2))) 1)) + m2)) - b2), w64 (bitShr .u64 (IntKind.u64.wrap (w64 (a + b2))) 1))) else (some (a, m2))) fun (s9 : Int × Int) => Option.bind (loopM (slices_symMergeCmpFunc_Request_b5 data a m2 b2 cmp) (s9.1, s9.2)) fun (t : (Int × Int) ⊕ Empty) => match t with | .inl s11 => (Option.bind (bif ((decide (s11.1 < m2)) && (decide (m2 < (w64 ((w64 ((w64 (bitShr .u64 (IntKind.u64.wrap (w64 (a + b2))) 1)) + m2)) - s11.1))))) then (Option.bind (slices_rotateCmpFunc_Request data s11.1 m2 (w64 ((w64 ((w64 (bitShr .u64 (IntKind.u64.wrap (w64 (a + b2))) 1)) + m2)) - s11.1)) cmp) fun v4 => some v4) else (some data)) fun (f4 : List SRequest) => Option.bind (bif ((decide (a < s11.1)) && (decide (s11.1 < (w64 (bitShr .u64 (IntKind.u64.wrap (w64 (a + b2))) 1))))) then (Option.bind (rc f4 a s11.1 (w64 (bitShr .u64 (IntKind.u64.wrap (w64 (a + b2))) 1)) cmp) fun v5 => some v5) else (some f4)) fun (f5 : List SRequest) => bif ((decide ((w64 (bitShr .u64 (IntKind.u64.wrap (w64 (a + b2))) 1)) < (w64 ((w64 ((w64 (bitShr .u64 (IntKind.u64.wrap (w64 (a + b2))) 1)) + m2)) - s11.1)))) && (decide ((w64 ((w64 ((w64 (bitShr .u64 (IntKind.u64.wrap (w64 (a + b2))) 1)) + m2)) - s11.1)) < b2))) then (Option.bind (rc f5 (w64 (bitShr .u64 (IntKind.u64.wrap (w64 (a + b2))) 1)) (w64 ((w64 ((w64 (bitShr .u64 (IntKind.u64.wrap (w64 (a + b2))) 1)) + m2)) - s11.1)) b2 cmp) fun v6 => some v6) else (some f5)) | .inr r => r.elim))
noncomputable def slices_symMergeCmpFunc_Request : Nat → List SRequest → Int → Int → Int → (SRequest → SRequest → Option Int) → Option (List SRequest)
  | 0 => fun _ _ _ _ _ => none
  | fu + 1 => slices_symMergeCmpFunc_Request_s (slices_symMergeCmpFunc_Request fu)
/-- slices.stableCmpFunc[magneto/api.Request] -/
noncomputable def slices_stableCmpFunc_Request_b1 (n2 : Int) (cmp : SRequest → SRequest → Option Int) (s : Int × Int × List SRequest) : Option ((Int × Int × List SRequest) ⊕ ((Int × Int × List SRequest) ⊕ Empty)) :=
  bif (decide (s.2.1 ≤ n2)) then (Option.bind (slices_insertionSortCmpFunc_Request s.2.2 s.1 s.2.1 cmp) fun v => some (.inl (s.2.1, w64 (s.2.1 + 20), v))) else (some (.inr (.inl (s.1, s.2.1, s.2.2))))
noncomputable def slices_stableCmpFunc_Request_b3 (n2 : Int) (cmp : SRequest → SRequest → Option Int) (s3 : Int × List SRequest) (s4 : Int × Int × List SRequest) : Option ((Int × Int × List SRequest) ⊕ ((Int × Int × List SRequest) ⊕ Empty)) :=
  bif (decide (s4.2.1 ≤ n2)) then (Option.bind (slices_symMergeCmpFunc_Request 64 s4.2.2 s4.1 (w64 (s4.1 + s3.1)) s4.2.1 cmp) fun v3 => some (.inl (s4.2.1, w64 (s4.2.1 + (w64 (2 * s3.1))), v3))) else (some (.inr (.inl (s4.1, s4.2.1, s4.2.2))))
noncomputable def slices_stableCmpFunc_Request_b2 (n2 : Int) (cmp : SRequest → SRequest → Option Int) (s3 : Int × List SRequest) : Option ((Int × List SRequest) ⊕ ((Int × List SRequest) ⊕ Empty)) :=
  bif (decide (s3.1 < n2)) then (Option.bind (loopM (slices_stableCmpFunc_Request_b3 n2 cmp s3) (0, w64 (2 * s3.1), s3.2)) fun (t : (Int × Int × List SRequest) ⊕ Empty) => match t with | .inl s5 => (bif (decide ((w64 (s5.1 + s3.1)) < n2)) then (Option.bind (slices_symMergeCmpFunc_Request 64 s5.2.2 s5.1 (w64 (s5.1 + s3.1)) n2 cmp) fun v4 => some (.inl (w64 (s3.1 * 2), v4))) else (some (.inl (w64 (s3.1 * 2), s5.2.2)))) | .inr r => r.elim) else (some (.inr (.inl (s3.1, s3.2))))
noncomputable def slices_stableCmpFunc_Request (data : List SRequest) (n2 : Int) (cmp : SRequest → SRequest → Option Int) : Option (List SRequest) :=
  Option.bind (loopM (slices_stableCmpFunc_Request_b1 n2 cmp) (0, 20, data)) fun (t : (Int × Int × List SRequest) ⊕ Empty) => match t with | .inl s2 => (Option.bind (slices_insertionSortCmpFunc_Request s2.2.2 s2.1 n2 cmp) fun v2 => Option.bind (loopM (slices_stableCmpFunc_Request_b2 n2 cmp) (20, v2)) fun (t : (Int × List SRequest) ⊕ Empty) => match t with | .inl s6 => (some s6.2) | .inr r => r.elim) | .inr r => r.elim
/-- slices.SortStableFunc[[]magneto/api.Request,magneto/api.Request] -/
noncomputable def slices_SortStableFunc_sRequest (x : List SRequest) (cmp : SRequest → SRequest → Option Int) : Option (List SRequest) :=
  Option.bind (slices_stableCmpFunc_Request x (x.length : Int) cmp) fun v => some v
/-- magneto/arbiter.decide$1 -/
noncomputable def arbiter_decide_1 (a : SRequest) (b2 : SRequest) : Option Int :=
  some (w64 (b2.Priority - a.Priority))
/-- (*magneto/arbiter.span).atMost -/
noncomputable def arbiter_span_atMost (s : Sarbiter_span) (t2 : Int) : Option Sarbiter_span :=
  some (⟨s.low, maxI s.low (minI s.high t2), s.source⟩ : Sarbiter_span)
/-- (*magneto/arbiter.span).atLeast -/
noncomputable def arbiter_span_atLeast (s : Sarbiter_span) (t2 : Int) : Option Sarbiter_span :=
  some (⟨minI s.high (maxI s.low t2), s.high, s.source⟩ : Sarbiter_span)
/-- magneto/arith.Clamp -/
noncomputable def arith_Clamp (x : Int) (low : Int) (high : Int) : Option Int :=
  some (minI (maxI x low) high)
/-- (*magneto/arbiter.span).exactly -/
noncomputable def arbiter_span_exactly (s : Sarbiter_span) (t2 : Int) : Option Sarbiter_span :=
  Option.bind (arith_Clamp t2 s.low s.high) fun v => some (⟨v, v, s.source⟩ : Sarbiter_span)
/-- (*magneto/arbiter.span).narrow -/
noncomputable def arbiter_span_narrow (s : Sarbiter_span) (r2 : SRequest) : Option (Bool × Sarbiter_span) :=
  Option.bind (bif (r2.Kind == 1) then (Option.bind (arbiter_span_atMost s r2.Torque) fun v => some v) else (bif (r2.Kind == 2) then (Option.bind (arbiter_span_atLeast s r2.Torque) fun v2 => some v2) else (bif (r2.Kind == 3) then (Option.bind (arbiter_span_exactly s r2.Torque) fun v3 => some v3) else (some s)))) fun (f2 : Sarbiter_span) => Option.bind (bif (f2.low != s.low) then (some r2.Source) else (some f2.source)) fun (f3 : Int) => bif (f2.low != s.low) then (some (true, (⟨f2.low, f2.high, f3⟩ : Sarbiter_span))) else (some ((f2.high != s.high), (⟨f2.low, f2.high, f3⟩ : Sarbiter_span)))
/-- magneto/arbiter.decide -/
noncomputable def arbiter_decide_b1 (_ : Int) (x : SRequest) (s : List Int × Sarbiter_span) : Option (Fl (List Int × Sarbiter_span) Empty) :=
  Option.bind (arbiter_span_narrow s.2 x) fun r2 => bif r2.1 then (Option.bind (appendM s.1 ([x.Source] : List Int)) fun l2 => some (.next (l2, r2.2))) else (some (.next (s.1, r2.2)))
noncomputable def arbiter_decide (l : List SRequest) (low : Int) (high : Int) : Option (Sarbiter_span × List Int) :=
  Option.bind (slices_Clone_sRequest l) fun v => Option.bind (slices_SortStableFunc_sRequest v arbiter_decide_1) fun v2 => Option.bind (rangeM v2 (arbiter_decide_b1) (([] : List Int), (⟨low, high, (-1)⟩ : Sarbiter_span))) fun (t : (List Int × Sarbiter_span) ⊕ Empty) => match t with | .inl s2 => (Option.bind (slices_Sort_sint s2.1) fun v3 => Option.bind (Option.bind (slices_Compact_sint v3) fun v4 => some (v4, s2.2)) fun (s3 : List Int × Sarbiter_span) => some (s3.2, s3.1)) | .inr r => r.elim
/-- magneto/arbiter.Explain -/
noncomputable def arbiter_Explain (l : List SRequest) (low : Int) (high : Int) : Option (List Int × Int) :=
  Option.bind (arbiter_given l low high) fun v => bif (v != 0) then (some (([] : List Int), v)) else (Option.bind (arbiter_decide l low high) fun r2 => some (r2.2, 0))
/-- slices.Equal[[]int,int] -/
noncomputable def slices_Equal_sint_b1 (s1 : List Int) (s2 : List Int) (i : Int) (_ : Unit) : Option (Fl Unit Bool) :=
  Option.bind (getI s1 i) fun x => Option.bind (getI s2 i) fun x2 => bif (x != x2) then (some (.ret false)) else (some (.next ()))
noncomputable def slices_Equal_sint (s1 : List Int) (s2 : List Int) : Option Bool :=
  bif ((s1.length : Int) != (s2.length : Int)) then (some false) else (Option.bind (rangeN (s1.length : Int) (slices_Equal_sint_b1 s1 s2) ()) fun (t : Unit ⊕ Bool) => match t with | .inl _ => (some true) | .inr r2 => some r2)
/-- magneto/arbiter.Decide -/
noncomputable def arbiter_Decide (l : List SRequest) (low : Int) (high : Int) : Option (SGrant × Int) :=
  Option.bind (arbiter_given l low high) fun v => bif (v != 0) then (some ((⟨0, 0⟩ : SGrant), v)) else (Option.bind (arbiter_decide l low high) fun r2 => some ((⟨r2.1.low, r2.1.source⟩ : SGrant), 0))
/-- magneto/magnetolaw36.awake -/
noncomputable def magnetolaw36_awake : Option Bool :=
  Option.bind (arbiter_Decide ([(⟨0, 3, 2000, 1⟩ : SRequest), (⟨3, 1, 1500, 5⟩ : SRequest)] : List SRequest) 0 3000) fun r2 => Option.bind (arbiter_Explain ([(⟨0, 3, 2000, 1⟩ : SRequest), (⟨3, 1, 1500, 5⟩ : SRequest)] : List SRequest) 0 3000) fun r3 => Option.bind (bif (((r2.1.Torque == 1500) && ((r2.1.Source == 0) && true)) && (r2.2 == 0)) then (Option.bind (slices_Equal_sint r3.1 ([0, 3] : List Int)) fun v => some v) else (some false)) fun b2 => some (b2 && (r3.2 == 0))
/-- magneto/magnetoref36.Torque -/
noncomputable def magnetoref36_Torque (t2 : Int) : Option Bool :=
  some ((decide (t2 ≥ (-5000))) && (decide (t2 ≤ 10000)))
/-- magneto/magnetoref36.Valid -/
noncomputable def magnetoref36_Valid (r2 : SRequest) : Option Bool :=
  Option.bind (bif ((((decide (r2.Source < 0)) || (decide (r2.Source > 15))) || (decide (r2.Priority < 0))) || (decide (r2.Priority > 15))) then (some true) else (Option.bind (magnetoref36_Torque r2.Torque) fun v => some (!v))) fun b2 => bif ((b2 || (decide (r2.Kind < 1))) || (decide (r2.Kind > 3))) then (some false) else (some ((decide (r2.Source ≤ 1)) || (r2.Kind == 1)))
/-- magneto/magnetoref36.Check -/
noncomputable def magnetoref36_Check_b1 (l : List SRequest) (i : Int) : Option (Int ⊕ (Int ⊕ Int)) :=
  bif (decide (i < (l.length : Int))) then (Option.bind (getI l i) fun x => Option.bind (magnetoref36_Valid x) fun v => bif (!v) then (some (.inr (.inr 1))) else (some (.inl (w64 (i + 1))))) else (some (.inr (.inl i)))
noncomputable def magnetoref36_Check (l : List SRequest) (low : Int) (high : Int) : Option Int :=
  Option.bind (loopM (magnetoref36_Check_b1 l) 0) fun (t : Int ⊕ Int) => match t with | .inl _ => (bif (decide ((l.length : Int) > 32)) then (some 5) else (Option.bind (magnetoref36_Torque low) fun v2 => Option.bind (bif (!v2) then (some true) else (Option.bind (magnetoref36_Torque high) fun v3 => some (!v3))) fun b2 => bif (b2 || (decide (low > high))) then (some 2) else (some 0))) | .inr r2 => some r2
/-- magneto/magnetoref36.Narrow -/
noncomputable def magnetoref36_Narrow (x : SRange) (r2 : SRequest) : Option SRange :=
  bif (r2.Kind == 1) then (some (⟨x.Low, maxI x.Low (minI x.High r2.Torque)⟩ : SRange)) else (bif (r2.Kind == 2) then (some (⟨maxI x.Low (minI x.High r2.Torque), x.High⟩ : SRange)) else (some (⟨maxI x.Low (minI x.High r2.Torque), maxI x.Low (minI x.High r2.Torque)⟩ : SRange)))
/-- magneto/magnetoref36.Interval -/
noncomputable def magnetoref36_Interval_b2 (l : List SRequest) (s : Int × Int × SRange × List Bool) (s2 : Int × Int × SRange × List Bool) : Option ((Int × Int × SRange × List Bool) ⊕ ((Int × Int × SRange × List Bool) ⊕ Empty)) :=
  bif (decide (s2.2.1 < (l.length : Int))) then (Option.bind (getI l s2.2.1) fun x => bif (x.Priority != s.2.1) then (some (.inl (s2.1, w64 (s2.2.1 + 1), s2.2.2.1, s2.2.2.2))) else (Option.bind (Option.bind (magnetoref36_Narrow s2.2.2.1 x) fun v => some v) fun (f2 : SRange) => Option.bind (bif (f2.Low != s2.2.2.1.Low) then (some x.Source) else (some s2.1)) fun (source : Int) => Option.bind (getI s2.2.2.2 s2.2.1) fun _ => Option.bind (setM s2.2.2.2 s2.2.1 (!((f2.Low == s2.2.2.1.Low) && ((f2.High == s2.2.2.1.High) && true)))) fun l3 => some (.inl (source, w64 (s2.2.1 + 1), f2, l3)))) else (some (.inr (.inl (s2.1, s2.2.1, s2.2.2.1, s2.2.2.2))))
noncomputable def magnetoref36_Interval_b1 (l : List SRequest) (s : Int × Int × SRange × List Bool) : Option ((Int × Int × SRange × List Bool) ⊕ ((Int × Int × SRange × List Bool) ⊕ Empty)) :=
  bif (decide (s.2.1 ≥ 0)) then (Option.bind (loopM (magnetoref36_Interval_b2 l s) (s.1, 0, s.2.2.1, s.2.2.2)) fun (t : (Int × Int × SRange × List Bool) ⊕ Empty) => match t with | .inl s3 => (some (.inl (s3.1, w64 (s.2.1 - 1), s3.2.2.1, s3.2.2.2))) | .inr r => r.elim) else (some (.inr (.inl (s.1, s.2.1, s.2.2.1, s.2.2.2))))
noncomputable def magnetoref36_Interval (l : List SRequest) (low : Int) (high : Int) : Option (SRange × Int × List Bool) :=
  Option.bind (makeM (l.length : Int) false) fun l2 => Option.bind (loopM (magnetoref36_Interval_b1 l) ((-1), 15, (⟨low, high⟩ : SRange), l2)) fun (t : (Int × Int × SRange × List Bool) ⊕ Empty) => match t with | .inl s4 => (some (s4.2.2.1, s4.1, s4.2.2.2)) | .inr r => r.elim
/-- magneto/arbiter.Bounds -/
noncomputable def arbiter_Bounds (l : List SRequest) (low : Int) (high : Int) : Option (SRange × Int) :=
  Option.bind (arbiter_given l low high) fun v => bif (v != 0) then (some ((⟨0, 0⟩ : SRange), v)) else (Option.bind (arbiter_decide l low high) fun r2 => some ((⟨r2.1.low, r2.1.high⟩ : SRange), 0))
/-- magneto/magnetolaw36.ArbiterDecides -/
noncomputable def magnetolaw36_ArbiterDecides_b1 (_ : Int) (x : SRequest) (_ : Unit) : Option (Fl Unit Bool) :=
  Option.bind (arbiter_Valid x) fun v3 => Option.bind (magnetoref36_Valid x) fun v4 => bif (!(v3 == v4)) then (some (.ret false)) else (some (.next ()))
noncomputable def magnetolaw36_ArbiterDecides (l : List SRequest) (low : Int) (high : Int) : Option Bool :=
  Option.bind (magnetolaw36_awake) fun v => bif ((!v) || (decide ((l.length : Int) > 100))) then (Option.bind (magnetolaw36_awake) fun v2 => some v2) else (Option.bind (arbiter_Bounds l low high) fun r2 => Option.bind (arbiter_Decide l low high) fun r3 => Option.bind (rangeM l (magnetolaw36_ArbiterDecides_b1) ()) fun (t : Unit ⊕ Bool) => match t with | .inl _ => (Option.bind (magnetoref36_Check l low high) fun v5 => bif (v5 != 0) then (Option.bind (bif (((r2.1.Low == 0) && ((r2.1.High == 0) && true)) && (r2.2 == v5)) then (some ((r3.1.Torque == 0) && ((r3.1.Source == 0) && true))) else (some false)) fun b2 => some (b2 && (r3.2 == v5))) else (Option.bind (magnetoref36_Interval l low high) fun r4 => Option.bind (bif (((r2.1.Low == r4.1.Low) && ((r2.1.High == r4.1.High) && true)) && (r2.2 == 0)) then (some ((r3.1.Torque == r4.1.Low) && ((r3.1.Source == r4.2.1) && true))) else (some false)) fun b3 => some (b3 && (r3.2 == 0)))) | .inr r5 => some r5)
/-- magneto/magnetolaw36.ArbiterExplains -/
noncomputable def magnetolaw36_ArbiterExplains_b1 (l : List SRequest) (r3 : SRange × Int × List Bool) (i : Int) (want : List Int) : Option (Fl (List Int) Empty) :=
  Option.bind (getI l i) fun x => Option.bind (getI r3.2.2 i) fun x2 => bif x2 then (Option.bind (appendM want ([x.Source] : List Int)) fun l2 => some (.next l2)) else (some (.next want))
noncomputable def magnetolaw36_ArbiterExplains (l : List SRequest) (low : Int) (high : Int) : Option Bool :=
  Option.bind (magnetolaw36_awake) fun v => bif ((!v) || (decide ((l.length : Int) > 100))) then (Option.bind (magnetolaw36_awake) fun v2 => some v2) else (Option.bind (arbiter_Explain l low high) fun r2 => Option.bind (magnetoref36_Check l low high) fun v3 => bif (v3 != 0) then (some (((r2.1.length : Int) == 0) && (r2.2 == v3))) else (Option.bind (magnetoref36_Interval l low high) fun r3 => Option.bind (rangeN (l.length : Int) (magnetolaw36_ArbiterExplains_b1 l r3) ([] : List Int)) fun (t : (List Int) ⊕ Empty) => match t with | .inl want2 => (Option.bind (slices_Sort_sint want2) fun v4 => Option.bind (slices_Compact_sint v4) fun v5 => Option.bind (slices_Equal_sint r2.1 v5) fun v6 => some (v6 && (r2.2 == 0))) | .inr r => r.elim))
/-- magneto/arbiter.Step -/
noncomputable def arbiter_Step (g : SGrant) (l : List SRequest) (low : Int) (high : Int) (up : Int) (down : Int) : Option (SGrant × Int) :=
  Option.bind (arbiter_torque g.Torque) fun v => bif (((!v) || (decide (g.Source < (-1)))) || (decide (g.Source > 15))) then (some ((⟨0, 0⟩ : SGrant), 1)) else (Option.bind (arbiter_given l low high) fun v2 => bif (v2 != 0) then (some ((⟨0, 0⟩ : SGrant), v2)) else (bif ((((decide (up < 0)) || (decide (up > 20000))) || (decide (down < 0))) || (decide (down > 20000))) then (some ((⟨0, 0⟩ : SGrant), 2)) else (Option.bind (arbiter_decide l low high) fun r2 => some ((⟨maxI (minI (minI (maxI r2.1.low (w64 (g.Torque - down))) (w64 (g.Torque + up))) r2.1.high) low, r2.1.source⟩ : SGrant), 0))))
/-- magneto/magnetolaw36.ArbiterSteps -/
noncomputable def magnetolaw36_ArbiterSteps (g : SGrant) (l : List SRequest) (low : Int) (high : Int) (up : Int) (down : Int) : Option Bool :=
  Option.bind (magnetolaw36_awake) fun v => bif ((!v) || (decide ((l.length : Int) > 100))) then (Option.bind (magnetolaw36_awake) fun v2 => some v2) else (Option.bind (arbiter_Step g l low high up down) fun r2 => Option.bind (magnetoref36_Torque g.Torque) fun v3 => bif (((!v3) || (decide (g.Source < (-1)))) || (decide (g.Source > 15))) then (some (((r2.1.Torque == 0) && ((r2.1.Source == 0) && true)) && (r2.2 == 1))) else (Option.bind (magnetoref36_Check l low high) fun v4 => bif (v4 != 0) then (some (((r2.1.Torque == 0) && ((r2.1.Source == 0) && true)) && (r2.2 == v4))) else (bif ((((decide (up < 0)) || (decide (up > 20000))) || (decide (down < 0))) || (decide (down > 20000))) then (some (((r2.1.Torque == 0) && ((r2.1.Source == 0) && true)) && (r2.2 == 2))) else (Option.bind (arbiter_Decide l low high) fun r3 => Option.bind (arbiter_Bounds l low high) fun r4 => bif (((r2.2 != 0) || (r3.2 != 0)) || (r4.2 != 0)) then (some false) else (some ((((r2.1.Torque == (maxI (minI (minI (maxI r3.1.Torque (w64 (g.Torque - down))) (w64 (g.Torque + up))) r4.1.High) low)) && ((r2.1.Source == r3.1.Source) && true)) && (decide (r2.1.Torque ≤ r4.1.High))) && (decide (r2.1.Torque ≥ low))))))))
/-- magneto/magnetolaw36.ArbiterObeys -/
noncomputable def magnetolaw36_ArbiterObeys_b1 (_ : Int) (x2 : SRequest) (f2 : SRequest) : Option (Fl SRequest Empty) :=
  bif (decide (x2.Priority > f2.Priority)) then (some (.next x2)) else (some (.next f2))
noncomputable def magnetolaw36_ArbiterObeys (l : List SRequest) (low : Int) (high : Int) : Option Bool :=
  Option.bind (magnetolaw36_awake) fun v => Option.bind (bif ((!v) || (decide ((l.length : Int) > 32))) then (some true) else (Option.bind (magnetoref36_Check l low high) fun v2 => some (v2 != 0))) fun b2 => bif b2 then (Option.bind (magnetolaw36_awake) fun v3 => some v3) else (Option.bind (arbiter_Decide l low high) fun r2 => Option.bind (arbiter_Bounds l low high) fun r3 => bif ((((((r2.2 != 0) || (r3.2 != 0)) || (r2.1.Torque != r3.1.Low)) || (decide (r3.1.Low > r3.1.High))) || (decide (r3.1.Low < low))) || (decide (r3.1.High > high))) then (some false) else (bif ((l.length : Int) == 0) then (some (((r3.1.Low == low) && ((r3.1.High == high) && true)) && (r2.1.Source == (-1)))) else (Option.bind (getI l 0) fun x => Option.bind (rangeM l (magnetolaw36_ArbiterObeys_b1) x) fun (t : SRequest ⊕ Empty) => match t with | .inl f3 => (Option.bind (bif ((f3.Kind == 2) || (decide (r3.1.High ≤ (maxI low (minI high f3.Torque))))) then (some ((f3.Kind == 1) || (decide (r3.1.Low ≥ (maxI low (minI high f3.Torque)))))) else (some false)) fun b3 => some b3) | .inr r => r.elim)))
/-- slices.Grow[[]magneto/api.Request,magneto/api.Request] -/
noncomputable def slices_Grow_sRequest (n2 : Int) : Option (List SRequest) :=
  Option.bind (bif (decide (n2 < 0)) then none else (some ())) fun (_ : Unit) => bif (decide ((w64 (n2 - (w64 (0 - 0)))) > 0)) then (Option.bind (zerosM (w64 (n2 - (w64 (0 - 0)))) (⟨0, 0, 0, 0⟩ : SRequest)) fun l => Option.bind (sliceM l 0 0) fun l2 => some l2) else (some ([] : List SRequest))
/-- slices.Concat[[]magneto/api.Request,magneto/api.Request] -/
noncomputable def slices_Concat_sRequest_b1 (_ : Int) (x : List SRequest) (size : Int) : Option (Fl Int Empty) :=
  bif (decide ((w64 (size + (x.length : Int))) < 0)) then none else (some (.next (w64 (size + (x.length : Int)))))
noncomputable def slices_Concat_sRequest_b2 (_ : Int) (x2 : List SRequest) (f2 : List SRequest) : Option (Fl (List SRequest) Empty) :=
  Option.bind (appendM f2 x2) fun l => some (.next l)
noncomputable def slices_Concat_sRequest (slices : List (List SRequest)) : Option (List SRequest) :=
  Option.bind (rangeM slices (slices_Concat_sRequest_b1) 0) fun (t : Int ⊕ Empty) => match t with | .inl size2 => (Option.bind (slices_Grow_sRequest size2) fun v => Option.bind (rangeM slices (slices_Concat_sRequest_b2) v) fun (t : (List SRequest) ⊕ Empty) => match t with | .inl f3 => (some f3) | .inr r => r.elim) | .inr r => r.elim
/-- slices.Index[[]int,int] -/
noncomputable def slices_Index_sint_b1 (s : List Int) (v : Int) (i : Int) (_ : Unit) : Option (Fl Unit Int) :=
  Option.bind (getI s i) fun x => bif (v == x) then (some (.ret i)) else (some (.next ()))
noncomputable def slices_Index_sint (s : List Int) (v : Int) : Option Int :=
  Option.bind (rangeN (s.length : Int) (slices_Index_sint_b1 s v) ()) fun (t : Unit ⊕ Int) => match t with | .inl _ => (some (-1)) | .inr r2 => some r2
/-- slices.Contains[[]int,int] -/
noncomputable def slices_Contains_sint (s : List Int) (v : Int) : Option Bool :=
  Option.bind (slices_Index_sint s v) fun v2 => some (decide (v2 ≥ 0))
/-- magneto/magnetolaw36.ArbiterLeaves -/
noncomputable def magnetolaw36_ArbiterLeaves (l : List SRequest) (low : Int) (high : Int) (which : Int) : Option Bool :=
  Option.bind (magnetolaw36_awake) fun v => Option.bind (bif (((!v) || (decide ((l.length : Int) > 32))) || ((l.length : Int) == 0)) then (some true) else (Option.bind (magnetoref36_Check l low high) fun v2 => some (v2 != 0))) fun b2 => bif b2 then (Option.bind (magnetolaw36_awake) fun v3 => some v3) else (Option.bind (remM (w64 which) (l.length : Int)) fun q => Option.bind (arbiter_Explain l low high) fun r2 => bif (r2.2 != 0) then (some false) else (Option.bind (getI l q) fun x => Option.bind (slices_Contains_sint r2.1 x.Source) fun v4 => bif v4 then (some true) else (Option.bind (Option.bind (sliceM l 0 q) fun l2 => Option.bind (sliceM l (w64 (q + 1)) (l.length : Int)) fun l3 => Option.bind (slices_Concat_sRequest ([l2, l3] : List (List SRequest))) fun v5 => some v5) fun (other : List SRequest) => Option.bind (arbiter_Decide l low high) fun r3 => Option.bind (arbiter_Decide other low high) fun r4 => Option.bind (arbiter_Bounds l low high) fun r5 => Option.bind (arbiter_Bounds other low high) fun r6 => Option.bind (arbiter_Explain other low high) fun r7 => Option.bind (bif (((((r3.2 == 0) && (r4.2 == 0)) && (r5.2 == 0)) && (r6.2 == 0)) && (r7.2 == 0)) then (some ((r3.1.Torque == r4.1.Torque) && ((r3.1.Source == r4.1.Source) && true))) else (some false)) fun b3 => Option.bind (bif b3 then (some ((r5.1.Low == r6.1.Low) && ((r5.1.High == r6.1.High) && true))) else (some false)) fun b4 => Option.bind (bif b4 then (Option.bind (slices_Equal_sint r2.1 r7.1) fun v6 => some v6) else (some false)) fun b5 => some b5)))
/-- magneto/magnetolaw36.ArbiterMonotone -/
noncomputable def magnetolaw36_ArbiterMonotone (l : List SRequest) (low : Int) (high : Int) (which : Int) (v_by : Int) : Option Bool :=
  Option.bind (magnetolaw36_awake) fun v => Option.bind (bif (((!v) || (decide ((l.length : Int) > 32))) || ((l.length : Int) == 0)) then (some true) else (Option.bind (magnetoref36_Check l low high) fun v2 => some (v2 != 0))) fun b2 => bif b2 then (Option.bind (magnetolaw36_awake) fun v3 => some v3) else (Option.bind (remM (w64 which) (l.length : Int)) fun q => Option.bind (slices_Clone_sRequest l) fun v4 => Option.bind (getI v4 q) fun x => Option.bind (setM v4 q (⟨x.Source, x.Kind, maxI (-5000) (w64 (x.Torque - (w64 v_by))), x.Priority⟩ : SRequest)) fun l2 => Option.bind (arbiter_Bounds l low high) fun r2 => Option.bind (arbiter_Bounds l2 low high) fun r3 => Option.bind (arbiter_Bounds l low (maxI low (w64 (high - (w64 v_by))))) fun r4 => some (((((((r2.2 == 0) && (r3.2 == 0)) && (r4.2 == 0)) && (decide (r3.1.Low ≤ r2.1.Low))) && (decide (r3.1.High ≤ r2.1.High))) && (decide (r4.1.Low ≤ r2.1.Low))) && (decide (r4.1.High ≤ r2.1.High))))
/-- slices.Reverse[[]magneto/api.Request,magneto/api.Request] -/
noncomputable def slices_Reverse_sRequest_b1 (s2 : Int × Int × List SRequest) : Option ((Int × Int × List SRequest) ⊕ ((Int × Int × List SRequest) ⊕ Empty)) :=
  bif (decide (s2.1 < s2.2.1)) then (Option.bind (Option.bind (getI s2.2.2 s2.2.1) fun x => Option.bind (getI s2.2.2 s2.1) fun x2 => Option.bind (setM s2.2.2 s2.1 x) fun l => Option.bind (getI l s2.2.1) fun _ => Option.bind (setM l s2.2.1 x2) fun l2 => some l2) fun (f2 : List SRequest) => some (.inl (w64 (s2.1 + 1), w64 (s2.2.1 - 1), f2))) else (some (.inr (.inl (s2.1, s2.2.1, s2.2.2))))
noncomputable def slices_Reverse_sRequest (s : List SRequest) : Option (List SRequest) :=
  Option.bind (loopM (slices_Reverse_sRequest_b1) (0, w64 ((s.length : Int) - 1), s)) fun (t : (Int × Int × List SRequest) ⊕ Empty) => match t with | .inl s3 => (some s3.2.2) | .inr r => r.elim
/-- magneto/magnetolaw36.ArbiterOrder -/
noncomputable def magnetolaw36_ArbiterOrder_b1 (i : Int) (f2 : List SRequest) : Option (Fl (List SRequest) Empty) :=
  Option.bind (getI f2 i) fun x => Option.bind (setM f2 i (⟨x.Source, x.Kind, x.Torque, w64 (15 - i)⟩ : SRequest)) fun l2 => some (.next l2)
noncomputable def magnetolaw36_ArbiterOrder (l : List SRequest) (low : Int) (high : Int) (turn : Int) : Option Bool :=
  Option.bind (magnetolaw36_awake) fun v => Option.bind (bif (((!v) || (decide ((l.length : Int) > 16))) || ((l.length : Int) == 0)) then (some true) else (Option.bind (magnetoref36_Check l low high) fun v2 => some (v2 != 0))) fun b2 => bif b2 then (Option.bind (magnetolaw36_awake) fun v3 => some v3) else (Option.bind (slices_Clone_sRequest l) fun v4 => Option.bind (rangeN (v4.length : Int) (magnetolaw36_ArbiterOrder_b1) v4) fun (t : (List SRequest) ⊕ Empty) => match t with | .inl f3 => (Option.bind (remM (w64 turn) (f3.length : Int)) fun q => Option.bind (Option.bind (sliceM f3 q (f3.length : Int)) fun l3 => Option.bind (sliceM f3 0 q) fun l4 => Option.bind (slices_Concat_sRequest ([l3, l4] : List (List SRequest))) fun v5 => some (f3, v5)) fun (s : List SRequest × List SRequest) => Option.bind (slices_Reverse_sRequest s.2) fun v6 => Option.bind (arbiter_Decide s.1 low high) fun r2 => Option.bind (arbiter_Decide v6 low high) fun r3 => Option.bind (arbiter_Explain s.1 low high) fun r4 => Option.bind (arbiter_Explain v6 low high) fun r5 => Option.bind (bif ((((r2.2 == 0) && (r3.2 == 0)) && (r4.2 == 0)) && (r5.2 == 0)) then (some ((r2.1.Torque == r3.1.Torque) && ((r2.1.Source == r3.1.Source) && true))) else (some false)) fun b3 => Option.bind (bif b3 then (Option.bind (slices_Equal_sint r4.1 r5.1) fun v7 => some v7) else (some false)) fun b4 => some b4) | .inr r => r.elim)
end Go.Pv

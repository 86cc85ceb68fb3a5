/- Types and models, printed by gen.py: plain Lean; nothing of the loaded program stands here. -/
import Derived.Test.YtbkjebepjcnklaaPvXi
namespace Go.Pv
open Go
def enc_u64 (n : Int) : List Tree := [tK .u64 n]
def enc_u8 (n : Int) : List Tree := [tK .u8 n]
@[ext] structure SChannel where
  Armed : Bool
  At : Int
  Next : Bool
  Level : Bool
def enc_SChannel (x : SChannel) : List Tree := [tB x.Armed, tI x.At, tB x.Next, tB x.Level]
abbrev A_SChannel (x : SChannel) : T := .agg [.t (tB x.Armed), .t (tI x.At), .t (tB x.Next), .t (tB x.Level)]
@[ext] structure STimer where
  Now : Int
  Channels : List SChannel
def enc_STimer (x : STimer) : List Tree := [tI x.Now, tS enc_SChannel x.Channels]
abbrev A_STimer (x : STimer) : T := .agg [.t (tI x.Now), .t (tS enc_SChannel x.Channels)]
@[ext] structure SSwitch where
  At : Int
  Channel : Int
  Level : Bool
def enc_SSwitch (x : SSwitch) : List Tree := [tI x.At, tI x.Channel, tB x.Level]
abbrev A_SSwitch (x : SSwitch) : T := .agg [.t (tI x.At), .t (tI x.Channel), .t (tB x.Level)]
@[ext] structure Smagnetolaw24_Op where
  Kind : Int
  Channel : Int
  At : Int
  Level : Bool
def enc_Smagnetolaw24_Op (x : Smagnetolaw24_Op) : List Tree := [tI x.Kind, tI x.Channel, tI x.At, tB x.Level]
abbrev A_Smagnetolaw24_Op (x : Smagnetolaw24_Op) : T := .agg [.t (tI x.Kind), .t (tI x.Channel), .t (tI x.At), .t (tB x.Level)]
/-- slices.IndexFunc[[]magneto/api.Channel,magneto/api.Channel] -/
noncomputable def slices_IndexFunc_sChannel_b1 (s : List SChannel) (f2 : SChannel → Option Bool) (i : Int) (_ : Unit) : Option (Fl Unit Int) :=
  Option.bind (getI s i) fun x => Option.bind (f2 x) fun v => bif v then (some (.ret i)) else (some (.next ()))
noncomputable def slices_IndexFunc_sChannel (s : List SChannel) (f2 : SChannel → Option Bool) : Option Int :=
  Option.bind (rangeN (s.length : Int) (slices_IndexFunc_sChannel_b1 s f2) ()) fun (t : Unit ⊕ Int) => match t with | .inl _ => (some (-1)) | .inr r2 => some r2
/-- slices.ContainsFunc[[]magneto/api.Channel,magneto/api.Channel] -/
noncomputable def slices_ContainsFunc_sChannel (s : List SChannel) (f2 : SChannel → Option Bool) : Option Bool :=
  Option.bind (slices_IndexFunc_sChannel s f2) fun v => some (decide (v ≥ 0))
/-- magneto/timer.Valid$1 -/
noncomputable def timer_Valid_1 (c : SChannel) (c2 : STimer) : Option Bool :=
  bif c.Armed then (some ((decide (c.At ≤ c2.Now)) || (decide (c.At > 1099511627776)))) else (some ((c.At != 0) || c.Next))
/-- magneto/timer.Valid -/
noncomputable def timer_Valid (t2 : STimer) : Option Bool :=
  bif ((((decide (t2.Now < 0)) || (decide (t2.Now > 1099511627776))) || (decide ((t2.Channels.length : Int) < 1))) || (decide ((t2.Channels.length : Int) > 16))) then (some false) else (Option.bind (slices_ContainsFunc_sChannel t2.Channels (fun x0 => timer_Valid_1 x0 t2)) fun v => some (!v))
/-- magneto/timer.begin -/
noncomputable def timer_begin (t2 : STimer) (channel : Int) : Option (STimer × Int) :=
  Option.bind (timer_Valid t2) fun v => bif (!v) then (some ((⟨0, ([] : List SChannel)⟩ : STimer), 1)) else (bif ((decide (channel < 0)) || (decide (channel ≥ (t2.Channels.length : Int)))) then (some ((⟨0, ([] : List SChannel)⟩ : STimer), 2)) else (Option.bind (makeM (t2.Channels.length : Int) (⟨false, 0, false, false⟩ : SChannel)) fun l => some ((⟨t2.Now, copyL l t2.Channels⟩ : STimer), 0)))
/-- slices.SortFunc[[]magneto/api.Switch,magneto/api.Switch] -/
noncomputable def slices_SortFunc_sSwitch (s : List SSwitch) (f : SSwitch → SSwitch → Option Int) : Option (List SSwitch) :=
  sortM f s
/-- cmp.Or[int] -/
noncomputable def cmp_Or_int_b1 (_ : Int) (x : Int) (_ : Unit) : Option (Fl Unit Int) :=
  bif (x != 0) then (some (.ret x)) else (some (.next ()))
noncomputable def cmp_Or_int (vals : List Int) : Option Int :=
  Option.bind (rangeM vals (cmp_Or_int_b1) ()) fun (t : Unit ⊕ Int) => match t with | .inl _ => (some 0) | .inr r2 => some r2
/-- cmp.isNaN[int] -/
noncomputable def cmp_isNaN_int (x : Int) : Option Bool :=
  some (x != x)
/-- cmp.Compare[int] -/
noncomputable def cmp_Compare_int (x : Int) (y : Int) : Option Int :=
  Option.bind (cmp_isNaN_int x) fun v => Option.bind (cmp_isNaN_int y) fun v2 => bif v then (bif v2 then (some 0) else (some (-1))) else (bif v2 then (some 1) else (bif (decide (x < y)) then (some (-1)) else (bif (decide (x > y)) then (some 1) else (some 0))))
/-- magneto/timer.Advance$1 -/
noncomputable def timer_Advance_1 (a : SSwitch) (b2 : SSwitch) : Option Int :=
  Option.bind (cmp_Compare_int a.At b2.At) fun v => Option.bind (cmp_Compare_int a.Channel b2.Channel) fun v2 => Option.bind (cmp_Or_int ([v, v2] : List Int)) fun v3 => some v3
/-- magneto/timer.Advance -/
noncomputable def timer_Advance_b1 (t2 : STimer) (v_to : Int) (i : Int) (s : List SSwitch × List SChannel) : Option (Fl (List SSwitch × List SChannel) Empty) :=
  Option.bind (getI t2.Channels i) fun x => bif ((!x.Armed) || (decide (x.At > v_to))) then (some (.next (s.1, s.2))) else (Option.bind (bif (!(x.Next == x.Level)) then (Option.bind (appendM s.1 ([(⟨x.At, i, x.Next⟩ : SSwitch)] : List SSwitch)) fun l => some l) else (some s.1)) fun (f2 : List SSwitch) => Option.bind (getI s.2 i) fun _ => Option.bind (setM s.2 i (⟨false, 0, false, x.Next⟩ : SChannel)) fun l2 => some (.next (f2, l2)))
noncomputable def timer_Advance (t2 : STimer) (v_to : Int) : Option (STimer × List SSwitch × Int) :=
  Option.bind (timer_begin t2 0) fun r2 => bif (r2.2 != 0) then (some ((⟨0, ([] : List SChannel)⟩ : STimer), ([] : List SSwitch), r2.2)) else (bif (decide (v_to < t2.Now)) then (some ((⟨0, ([] : List SChannel)⟩ : STimer), ([] : List SSwitch), 16)) else (bif (decide (v_to > 1099511627776)) then (some ((⟨0, ([] : List SChannel)⟩ : STimer), ([] : List SSwitch), 2)) else (Option.bind (rangeN (t2.Channels.length : Int) (timer_Advance_b1 t2 v_to) (([] : List SSwitch), r2.1.Channels)) fun (t : (List SSwitch × List SChannel) ⊕ Empty) => match t with | .inl s2 => (Option.bind (slices_SortFunc_sSwitch s2.1 timer_Advance_1) fun v => some ((⟨v_to, s2.2⟩ : STimer), v, 0)) | .inr r => r.elim)))
/-- magneto/timer.New -/
noncomputable def timer_New (n2 : Int) : Option (STimer × Int) :=
  bif ((decide (n2 < 1)) || (decide (n2 > 16))) then (some ((⟨0, ([] : List SChannel)⟩ : STimer), 2)) else (Option.bind (makeM n2 (⟨false, 0, false, false⟩ : SChannel)) fun l => some ((⟨0, l⟩ : STimer), 0))
/-- magneto/timer.Arm -/
noncomputable def timer_Arm (t2 : STimer) (channel : Int) (v_at : Int) (level : Bool) : Option (STimer × Int) :=
  Option.bind (timer_begin t2 channel) fun r2 => bif (r2.2 != 0) then (some ((⟨0, ([] : List SChannel)⟩ : STimer), r2.2)) else (bif (decide (v_at ≤ t2.Now)) then (some ((⟨0, ([] : List SChannel)⟩ : STimer), 16)) else (bif (decide (v_at > 1099511627776)) then (some ((⟨0, ([] : List SChannel)⟩ : STimer), 2)) else (Option.bind (getI t2.Channels channel) fun x => Option.bind (getI r2.1.Channels channel) fun _ => Option.bind (setM r2.1.Channels channel (⟨true, v_at, level, x.Level⟩ : SChannel)) fun l => some ((⟨r2.1.Now, l⟩ : STimer), 0))))
/-- slices.Equal[[]magneto/api.Switch,magneto/api.Switch] -/
noncomputable def slices_Equal_sSwitch_b1 (s1 : List SSwitch) (s2 : List SSwitch) (i : Int) (_ : Unit) : Option (Fl Unit Bool) :=
  Option.bind (getI s1 i) fun x => Option.bind (getI s2 i) fun x2 => bif (!((x.At == x2.At) && ((x.Channel == x2.Channel) && ((x.Level == x2.Level) && true)))) then (some (.ret false)) else (some (.next ()))
noncomputable def slices_Equal_sSwitch (s1 : List SSwitch) (s2 : List SSwitch) : Option Bool :=
  bif ((s1.length : Int) != (s2.length : Int)) then (some false) else (Option.bind (rangeN (s1.length : Int) (slices_Equal_sSwitch_b1 s1 s2) ()) fun (t : Unit ⊕ Bool) => match t with | .inl _ => (some true) | .inr r2 => some r2)
/-- magneto/magnetolaw24.awake -/
noncomputable def magnetolaw24_awake : Option Bool :=
  Option.bind (timer_New 2) fun r2 => Option.bind (timer_Arm r2.1 1 10 true) fun r3 => Option.bind (timer_Arm r3.1 0 10 true) fun r4 => Option.bind (timer_Advance r4.1 20) fun r5 => Option.bind (timer_Arm r5.1 1 20 false) fun r6 => Option.bind (bif ((((r2.2 == 0) && (r3.2 == 0)) && (r4.2 == 0)) && (r5.2.2 == 0)) then (Option.bind (slices_Equal_sSwitch r5.2.1 ([(⟨10, 0, true⟩ : SSwitch), (⟨10, 1, true⟩ : SSwitch)] : List SSwitch)) fun v => some v) else (some false)) fun b2 => some (b2 && (r6.2 == 16))
/-- magneto/magnetolaw24.none -/
noncomputable def magnetolaw24_none (t2 : STimer) : Option Bool :=
  some ((t2.Now == 0) && ((t2.Channels.length : Int) == 0))
/-- magneto/magnetoref24.Same -/
noncomputable def magnetoref24_Same_b1 (a : STimer) (b2 : STimer) (i : Int) : Option (Int ⊕ (Int ⊕ Bool)) :=
  bif (decide (i < (a.Channels.length : Int))) then (Option.bind (getI a.Channels i) fun x => Option.bind (getI b2.Channels i) fun x2 => bif (!((x.Armed == x2.Armed) && ((x.At == x2.At) && ((x.Next == x2.Next) && ((x.Level == x2.Level) && true))))) then (some (.inr (.inr false))) else (some (.inl (w64 (i + 1))))) else (some (.inr (.inl i)))
noncomputable def magnetoref24_Same (a : STimer) (b2 : STimer) : Option Bool :=
  bif ((a.Now != b2.Now) || ((a.Channels.length : Int) != (b2.Channels.length : Int))) then (some false) else (Option.bind (loopM (magnetoref24_Same_b1 a b2) 0) fun (t : Int ⊕ Bool) => match t with | .inl _ => (some true) | .inr r2 => some r2)
/-- magneto/timer.Disarm -/
noncomputable def timer_Disarm (t2 : STimer) (channel : Int) : Option (STimer × Int) :=
  Option.bind (timer_begin t2 channel) fun r2 => bif (r2.2 != 0) then (some ((⟨0, ([] : List SChannel)⟩ : STimer), r2.2)) else (Option.bind (getI t2.Channels channel) fun x => Option.bind (getI r2.1.Channels channel) fun _ => Option.bind (setM r2.1.Channels channel (⟨false, 0, false, x.Level⟩ : SChannel)) fun l => some ((⟨r2.1.Now, l⟩ : STimer), 0))
/-- magneto/magnetoref24.Valid -/
noncomputable def magnetoref24_Valid_b1 (t2 : STimer) (i : Int) : Option (Int ⊕ (Int ⊕ Bool)) :=
  bif (decide (i < (t2.Channels.length : Int))) then (Option.bind (getI t2.Channels i) fun x => Option.bind (bif x.Armed then (some ((decide (x.At ≤ t2.Now)) || (decide (x.At > 1099511627776)))) else (some false)) fun b2 => Option.bind (bif b2 then (some true) else (Option.bind (bif (!x.Armed) then (some ((x.At != 0) || x.Next)) else (some false)) fun b3 => some b3)) fun b4 => bif b4 then (some (.inr (.inr false))) else (some (.inl (w64 (i + 1))))) else (some (.inr (.inl i)))
noncomputable def magnetoref24_Valid (t2 : STimer) : Option Bool :=
  bif ((((decide (t2.Now < 0)) || (decide (t2.Now > 1099511627776))) || (decide ((t2.Channels.length : Int) < 1))) || (decide ((t2.Channels.length : Int) > 16))) then (some false) else (Option.bind (loopM (magnetoref24_Valid_b1 t2) 0) fun (t : Int ⊕ Bool) => match t with | .inl _ => (some true) | .inr r2 => some r2)
/-- magneto/magnetolaw24.first -/
noncomputable def magnetolaw24_first (t2 : STimer) (channel : Int) : Option Int :=
  Option.bind (magnetoref24_Valid t2) fun v => bif (!v) then (some 1) else (bif ((decide (channel < 0)) || (decide (channel ≥ (t2.Channels.length : Int)))) then (some 2) else (some 0))
/-- magneto/magnetoref24.Copy -/
noncomputable def magnetoref24_Copy (t2 : STimer) : Option STimer :=
  Option.bind (Option.bind (appendM ([] : List SChannel) t2.Channels) fun l => some (⟨t2.Now, l⟩ : STimer)) fun (f2 : STimer) => some f2
/-- magneto/magnetolaw24.TimerArms -/
noncomputable def magnetolaw24_TimerArms (t2 : STimer) (n2 : Int) (channel : Int) (v_at : Int) (level : Bool) : Option Bool :=
  Option.bind (magnetolaw24_awake) fun v => bif ((!v) || (decide ((t2.Channels.length : Int) > 100))) then (Option.bind (magnetolaw24_awake) fun v2 => some v2) else (Option.bind (timer_New n2) fun r2 => Option.bind (bif ((decide (n2 < 1)) || (decide (n2 > 16))) then (Option.bind (magnetolaw24_none r2.1) fun v3 => bif ((!v3) || (r2.2 != 2)) then (some (Sum.inr false)) else (some (Sum.inl ()))) else (Option.bind (Option.bind (makeM n2 (⟨false, 0, false, false⟩ : SChannel)) fun l => Option.bind (magnetoref24_Same r2.1 (⟨0, l⟩ : STimer)) fun v4 => some ((!v4) || (r2.2 != 0))) fun (v5 : Bool) => bif v5 then (some (Sum.inr false)) else (some (Sum.inl ())))) fun (t : Unit ⊕ Bool) => match t with | .inl _ => (Option.bind (timer_Arm t2 channel v_at level) fun r3 => Option.bind (timer_Disarm t2 channel) fun r4 => Option.bind (timer_Valid t2) fun v6 => Option.bind (magnetoref24_Valid t2) fun v7 => bif (!(v6 == v7)) then (some false) else (Option.bind (magnetolaw24_first t2 channel) fun v8 => bif (v8 != 0) then (Option.bind (magnetolaw24_none r3.1) fun v9 => Option.bind (bif (v9 && (r3.2 == v8)) then (Option.bind (magnetolaw24_none r4.1) fun v10 => some v10) else (some false)) fun b2 => some (b2 && (r4.2 == v8))) else (Option.bind (magnetoref24_Copy t2) fun v11 => Option.bind (getI t2.Channels channel) fun x => Option.bind (getI v11.Channels channel) fun _ => Option.bind (setM v11.Channels channel (⟨false, 0, false, x.Level⟩ : SChannel)) fun l2 => Option.bind (magnetoref24_Same r4.1 (⟨v11.Now, l2⟩ : STimer)) fun v12 => bif ((!v12) || (r4.2 != 0)) then (some false) else (bif (decide (v_at ≤ t2.Now)) then (Option.bind (magnetolaw24_none r3.1) fun v13 => some (v13 && (r3.2 == 16))) else (bif (decide (v_at > 1099511627776)) then (Option.bind (magnetolaw24_none r3.1) fun v14 => some (v14 && (r3.2 == 2))) else (Option.bind (Option.bind (setM l2 channel (⟨true, 0, false, x.Level⟩ : SChannel)) fun l3 => Option.bind (setM l3 channel (⟨true, v_at, false, x.Level⟩ : SChannel)) fun l4 => Option.bind (setM l4 channel (⟨true, v_at, level, x.Level⟩ : SChannel)) fun l5 => some l5) fun (f2 : List SChannel) => Option.bind (magnetoref24_Same r3.1 (⟨v11.Now, f2⟩ : STimer)) fun v15 => some (v15 && (r3.2 == 0)))))))) | .inr r5 => some r5)
/-- magneto/timer.Force -/
noncomputable def timer_Force (t2 : STimer) (channel : Int) (level : Bool) : Option (STimer × List SSwitch × Int) :=
  Option.bind (timer_begin t2 channel) fun r2 => bif (r2.2 != 0) then (some ((⟨0, ([] : List SChannel)⟩ : STimer), ([] : List SSwitch), r2.2)) else (Option.bind (getI r2.1.Channels channel) fun _ => Option.bind (setM r2.1.Channels channel (⟨false, 0, false, level⟩ : SChannel)) fun l => Option.bind (getI t2.Channels channel) fun x2 => bif (x2.Level == level) then (some ((⟨r2.1.Now, l⟩ : STimer), ([] : List SSwitch), 0)) else (Option.bind (some (([(⟨t2.Now, channel, level⟩ : SSwitch)] : List SSwitch), (⟨r2.1.Now, l⟩ : STimer))) fun (s : List SSwitch × STimer) => some (s.2, s.1, 0)))
/-- magneto/magnetolaw24.TimerForces -/
noncomputable def magnetolaw24_TimerForces (t2 : STimer) (channel : Int) (level : Bool) : Option Bool :=
  Option.bind (magnetolaw24_awake) fun v => bif ((!v) || (decide ((t2.Channels.length : Int) > 100))) then (Option.bind (magnetolaw24_awake) fun v2 => some v2) else (Option.bind (timer_Force t2 channel level) fun r2 => Option.bind (magnetolaw24_first t2 channel) fun v3 => bif (v3 != 0) then (Option.bind (magnetolaw24_none r2.1) fun v4 => some ((v4 && ((r2.2.1.length : Int) == 0)) && (r2.2.2 == v3))) else (Option.bind (magnetoref24_Copy t2) fun v5 => Option.bind (getI v5.Channels channel) fun _ => Option.bind (setM v5.Channels channel (⟨false, 0, false, level⟩ : SChannel)) fun l => Option.bind (magnetoref24_Same r2.1 (⟨v5.Now, l⟩ : STimer)) fun v6 => bif ((!v6) || (r2.2.2 != 0)) then (some false) else (Option.bind (getI t2.Channels channel) fun x2 => bif (level == x2.Level) then (some ((r2.2.1.length : Int) == 0)) else (Option.bind (slices_Equal_sSwitch r2.2.1 ([(⟨t2.Now, channel, level⟩ : SSwitch)] : List SSwitch)) fun v7 => some v7))))
/-- magneto/magnetolaw24.TimerLevels -/
noncomputable def magnetolaw24_TimerLevels_b1 (t2 : STimer) (i : Int) (f2 : List Bool) : Option (Fl (List Bool) Empty) :=
  Option.bind (getI t2.Channels i) fun x => Option.bind (getI f2 i) fun _ => Option.bind (setM f2 i x.Level) fun l2 => some (.next l2)
noncomputable def magnetolaw24_TimerLevels_b2 (t2 : STimer) (v_to : Int) (r2 : STimer × List SSwitch × Int) (i2 : Int) (f4 : List Bool) : Option (Fl (List Bool) Bool) :=
  Option.bind (getI r2.2.1 i2) fun x3 => Option.bind (bif (decide (x3.Channel < 0)) then (some true) else (bif (decide (x3.Channel ≥ (f4.length : Int))) then (some true) else (bif (decide (x3.At ≤ t2.Now)) then (some true) else (bif (decide (x3.At > v_to)) then (some true) else (Option.bind (getI f4 x3.Channel) fun x4 => bif (x4 == x3.Level) then (some true) else (bif (decide (i2 > 0)) then (Option.bind (getI r2.2.1 (w64 (i2 - 1))) fun x5 => bif (decide (x5.At > x3.At)) then (some true) else (bif (x5.At == x3.At) then (some (decide (x5.Channel ≥ x3.Channel))) else (some false))) else (some false))))))) fun (v5 : Bool) => bif v5 then (some (.ret false)) else (Option.bind (getI f4 x3.Channel) fun _ => Option.bind (setM f4 x3.Channel x3.Level) fun l3 => Option.bind (getI t2.Channels x3.Channel) fun x7 => bif (((!x7.Armed) || (x7.At != x3.At)) || (!(x7.Next == x3.Level))) then (some (.ret false)) else (some (.next l3)))
noncomputable def magnetolaw24_TimerLevels_b3 (t2 : STimer) (v_to : Int) (r2 : STimer × List SSwitch × Int) (f5 : List Bool) (i3 : Int) (_ : Unit) : Option (Fl Unit Bool) :=
  Option.bind (getI r2.1.Channels i3) fun x8 => Option.bind (getI f5 i3) fun x9 => bif (!(x8.Level == x9)) then (some (.ret false)) else (Option.bind (getI t2.Channels i3) fun x10 => bif x10.Armed then (bif (!(x8.Armed == (decide (x10.At > v_to)))) then (some (.ret false)) else (some (.next ()))) else (bif (!(x8.Armed == false)) then (some (.ret false)) else (some (.next ()))))
noncomputable def magnetolaw24_TimerLevels (t2 : STimer) (v_to : Int) : Option Bool :=
  Option.bind (magnetolaw24_awake) fun v => bif ((!v) || (decide ((t2.Channels.length : Int) > 100))) then (Option.bind (magnetolaw24_awake) fun v2 => some v2) else (Option.bind (timer_Advance t2 v_to) fun r2 => bif (r2.2.2 != 0) then (Option.bind (magnetolaw24_none r2.1) fun v3 => some (v3 && ((r2.2.1.length : Int) == 0))) else (Option.bind (bif (((r2.1.Channels.length : Int) != (t2.Channels.length : Int)) || (r2.1.Now != v_to)) then (some true) else (Option.bind (timer_Valid r2.1) fun v4 => some (!v4))) fun b2 => bif b2 then (some false) else (Option.bind (makeM (t2.Channels.length : Int) false) fun l => Option.bind (rangeN (t2.Channels.length : Int) (magnetolaw24_TimerLevels_b1 t2) l) fun (t : (List Bool) ⊕ Empty) => match t with | .inl f3 => (Option.bind (rangeN (r2.2.1.length : Int) (magnetolaw24_TimerLevels_b2 t2 v_to r2) f3) fun (t : (List Bool) ⊕ Bool) => match t with | .inl f5 => (Option.bind (rangeN (r2.1.Channels.length : Int) (magnetolaw24_TimerLevels_b3 t2 v_to r2 f5) ()) fun (t : Unit ⊕ Bool) => match t with | .inl _ => (some true) | .inr r3 => some r3) | .inr r4 => some r4) | .inr r => r.elim)))
/-- magneto/timer.Next -/
noncomputable def timer_Next_b1 (_ : Int) (x : SChannel) (s : Int × Bool) : Option (Fl (Int × Bool) Empty) :=
  Option.bind (bif x.Armed then (some ((!s.2) || (decide (x.At < s.1)))) else (some false)) fun b2 => bif b2 then (some (.next (x.At, true))) else (some (.next (s.1, s.2)))
noncomputable def timer_Next (t2 : STimer) : Option (Int × Bool) :=
  Option.bind (timer_Valid t2) fun v => bif (!v) then (some (0, false)) else (Option.bind (rangeM t2.Channels (timer_Next_b1) (0, false)) fun (t : (Int × Bool) ⊕ Empty) => match t with | .inl s2 => (some (s2.1, s2.2)) | .inr r => r.elim)
/-- slices.Equal[[]magneto/api.Channel,magneto/api.Channel] -/
noncomputable def slices_Equal_sChannel_b1 (s1 : List SChannel) (s2 : List SChannel) (i : Int) (_ : Unit) : Option (Fl Unit Bool) :=
  Option.bind (getI s1 i) fun x => Option.bind (getI s2 i) fun x2 => bif (!((x.Armed == x2.Armed) && ((x.At == x2.At) && ((x.Next == x2.Next) && ((x.Level == x2.Level) && true))))) then (some (.ret false)) else (some (.next ()))
noncomputable def slices_Equal_sChannel (s1 : List SChannel) (s2 : List SChannel) : Option Bool :=
  bif ((s1.length : Int) != (s2.length : Int)) then (some false) else (Option.bind (rangeN (s1.length : Int) (slices_Equal_sChannel_b1 s1 s2) ()) fun (t : Unit ⊕ Bool) => match t with | .inl _ => (some true) | .inr r2 => some r2)
/-- magneto/magnetolaw24.TimerQuiet -/
noncomputable def magnetolaw24_TimerQuiet_b1 (i : Int) (f2 : STimer) : Option (Fl STimer Bool) :=
  Option.bind (timer_Disarm f2 i) fun r5 => bif (r5.2 != 0) then (some (.ret false)) else (some (.next r5.1))
noncomputable def magnetolaw24_TimerQuiet (t2 : STimer) (v_to : Int) : Option Bool :=
  Option.bind (magnetolaw24_awake) fun v => Option.bind (bif ((!v) || (decide ((t2.Channels.length : Int) > 100))) then (some true) else (Option.bind (timer_Valid t2) fun v2 => some (!v2))) fun b2 => bif b2 then (Option.bind (magnetolaw24_awake) fun v3 => some v3) else (Option.bind (timer_Next t2) fun r2 => Option.bind (bif r2.2 then (Option.bind (timer_Advance t2 (w64 (r2.1 - 1))) fun r3 => Option.bind (timer_Next r3.1) fun r4 => Option.bind (bif ((((r3.2.2 != 0) || ((r3.2.1.length : Int) != 0)) || (!r4.2)) || (r4.1 != r2.1)) then (some true) else (Option.bind (slices_Equal_sChannel r3.1.Channels t2.Channels) fun v4 => some (!v4))) fun b3 => bif b3 then (some (Sum.inr false)) else (some (Sum.inl ()))) else (some (Sum.inl ()))) fun (t : Unit ⊕ Bool) => match t with | .inl _ => (Option.bind (rangeN (t2.Channels.length : Int) (magnetolaw24_TimerQuiet_b1) t2) fun (t : STimer ⊕ Bool) => match t with | .inl f3 => (Option.bind (timer_Next f3) fun r6 => bif r6.2 then (some false) else (Option.bind (timer_Advance f3 v_to) fun r7 => Option.bind (bif (r7.2.2 != 0) then (Option.bind (magnetolaw24_none r7.1) fun v5 => some v5) else (some false)) fun b4 => Option.bind (bif b4 then (some true) else (some ((r7.2.2 == 0) && ((r7.2.1.length : Int) == 0)))) fun b5 => some b5)) | .inr r8 => some r8) | .inr r9 => some r9)
/-- magneto/magnetoref24.Next -/
noncomputable def magnetoref24_Next_b1 (t2 : STimer) (s : Int × Bool × Int) : Option ((Int × Bool × Int) ⊕ ((Int × Bool × Int) ⊕ Empty)) :=
  bif (decide (s.2.2 < (t2.Channels.length : Int))) then (Option.bind (getI t2.Channels s.2.2) fun x => Option.bind (bif x.Armed then (Option.bind (bif (!s.2.1) then (some true) else (some (decide (x.At < s.1)))) fun b2 => some b2) else (some false)) fun b3 => bif b3 then (some (.inl (x.At, true, w64 (s.2.2 + 1)))) else (some (.inl (s.1, s.2.1, w64 (s.2.2 + 1))))) else (some (.inr (.inl (s.1, s.2.1, s.2.2))))
noncomputable def magnetoref24_Next (t2 : STimer) : Option (Int × Bool) :=
  Option.bind (loopM (magnetoref24_Next_b1 t2) (0, false, 0)) fun (t : (Int × Bool × Int) ⊕ Empty) => match t with | .inl s2 => (some (s2.1, s2.2.1)) | .inr r => r.elim
/-- magneto/magnetoref24.Advance -/
noncomputable def magnetoref24_Advance_b2 (s : List SSwitch × Int × Bool × List SChannel) (s2 : Int × List SChannel × List SSwitch) : Option ((Int × List SChannel × List SSwitch) ⊕ ((Int × List SChannel × List SSwitch) ⊕ Empty)) :=
  bif (decide (s2.1 < (s2.2.1.length : Int))) then (Option.bind (getI s2.2.1 s2.1) fun x => bif ((!x.Armed) || (x.At != s.2.1)) then (some (.inl (w64 (s2.1 + 1), s2.2.1, s2.2.2))) else (Option.bind (bif (!(x.Level == x.Next)) then (Option.bind (appendM s2.2.2 ([(⟨s.2.1, s2.1, x.Next⟩ : SSwitch)] : List SSwitch)) fun l => some l) else (some s2.2.2)) fun (f2 : List SSwitch) => Option.bind (setM s2.2.1 s2.1 (⟨false, 0, false, x.Next⟩ : SChannel)) fun l2 => some (.inl (w64 (s2.1 + 1), l2, f2)))) else (some (.inr (.inl (s2.1, s2.2.1, s2.2.2))))
noncomputable def magnetoref24_Advance_b1 (v_to : Int) (v : STimer) (s : List SSwitch × Int × Bool × List SChannel) : Option ((List SSwitch × Int × Bool × List SChannel) ⊕ ((List SSwitch × Int × Bool × List SChannel) ⊕ Empty)) :=
  bif (s.2.2.1 && (decide (s.2.1 ≤ v_to))) then (Option.bind (loopM (magnetoref24_Advance_b2 s) (0, s.2.2.2, s.1)) fun (t : (Int × List SChannel × List SSwitch) ⊕ Empty) => match t with | .inl s3 => (Option.bind (magnetoref24_Next (⟨v.Now, s3.2.1⟩ : STimer)) fun r3 => some (.inl (s3.2.2, r3.1, r3.2, s3.2.1))) | .inr r => r.elim) else (some (.inr (.inl (s.1, s.2.1, s.2.2.1, s.2.2.2))))
noncomputable def magnetoref24_Advance (t2 : STimer) (v_to : Int) : Option (STimer × List SSwitch) :=
  Option.bind (magnetoref24_Copy t2) fun v => Option.bind (magnetoref24_Next v) fun r2 => Option.bind (loopM (magnetoref24_Advance_b1 v_to v) (([] : List SSwitch), r2.1, r2.2, v.Channels)) fun (t : (List SSwitch × Int × Bool × List SChannel) ⊕ Empty) => match t with | .inl s4 => (some ((⟨v_to, s4.2.2.2⟩ : STimer), s4.1)) | .inr r => r.elim
/-- magneto/magnetolaw24.TimerAdvances -/
noncomputable def magnetolaw24_TimerAdvances (t2 : STimer) (v_to : Int) : Option Bool :=
  Option.bind (magnetolaw24_awake) fun v => bif ((!v) || (decide ((t2.Channels.length : Int) > 100))) then (Option.bind (magnetolaw24_awake) fun v2 => some v2) else (Option.bind (timer_Advance t2 v_to) fun r2 => Option.bind (timer_Next t2) fun r3 => Option.bind (magnetoref24_Valid t2) fun v3 => bif (!v3) then (Option.bind (magnetolaw24_none r2.1) fun v4 => some ((((v4 && ((r2.2.1.length : Int) == 0)) && (r2.2.2 == 1)) && (r3.1 == 0)) && (!r3.2))) else (Option.bind (magnetoref24_Next t2) fun r4 => bif ((r3.1 != r4.1) || (!(r3.2 == r4.2))) then (some false) else (bif (decide (v_to < t2.Now)) then (Option.bind (magnetolaw24_none r2.1) fun v5 => some ((v5 && ((r2.2.1.length : Int) == 0)) && (r2.2.2 == 16))) else (bif (decide (v_to > 1099511627776)) then (Option.bind (magnetolaw24_none r2.1) fun v6 => some ((v6 && ((r2.2.1.length : Int) == 0)) && (r2.2.2 == 2))) else (Option.bind (magnetoref24_Advance t2 v_to) fun r5 => Option.bind (magnetoref24_Same r2.1 r5.1) fun v7 => Option.bind (bif v7 then (Option.bind (slices_Equal_sSwitch r2.2.1 r5.2) fun v8 => some v8) else (some false)) fun b2 => some (b2 && (r2.2.2 == 0)))))))
/-- magneto/magnetolaw24.TimerScripts -/
noncomputable def magnetolaw24_TimerScripts_b2 (n2 : Int) (s2 : List SSwitch × Int × STimer) (_ : Int) (x2 : SSwitch) (s3 : Int × List Bool) : Option (Fl (Int × List Bool) Bool) :=
  Option.bind (bif (decide (x2.Channel < 0)) then (some true) else (bif (decide (x2.Channel ≥ (w64 (1 + (Int.tmod (w64 n2) 16))))) then (some true) else (Option.bind (getI s3.2 x2.Channel) fun x3 => bif (x2.Level == x3) then (some true) else (bif (decide (x2.At < s3.1)) then (some true) else (some (decide (x2.At > s2.2.2.Now))))))) fun (v5 : Bool) => bif v5 then (some (.ret false)) else (Option.bind (Option.bind (getI s3.2 x2.Channel) fun _ => Option.bind (setM s3.2 x2.Channel x2.Level) fun l2 => some (x2.At, l2)) fun (s4 : Int × List Bool) => some (.next (s4.1, s4.2)))
noncomputable def magnetolaw24_TimerScripts_b3 (s2 : List SSwitch × Int × STimer) (s5 : Int × List Bool) (i3 : Int) (_ : Unit) : Option (Fl Unit Bool) :=
  Option.bind (getI s2.2.2.Channels i3) fun x5 => Option.bind (getI s5.2 i3) fun x6 => bif (!(x5.Level == x6)) then (some (.ret false)) else (some (.next ()))
noncomputable def magnetolaw24_TimerScripts_b1 (n2 : Int) (_ : Int) (x : Smagnetolaw24_Op) (s : Int × STimer × List Bool) : Option (Fl (Int × STimer × List Bool) Bool) :=
  Option.bind (bif (x.Kind == 0) then (Option.bind (timer_Arm s.2.1 x.Channel x.At x.Level) fun r3 => some (([] : List SSwitch), r3.2, r3.1)) else (bif (x.Kind == 1) then (Option.bind (timer_Disarm s.2.1 x.Channel) fun r4 => some (([] : List SSwitch), r4.2, r4.1)) else (bif (x.Kind == 2) then (Option.bind (timer_Advance s.2.1 x.At) fun r5 => some (r5.2.1, r5.2.2, r5.1)) else (bif (x.Kind == 3) then (Option.bind (timer_Force s.2.1 x.Channel x.Level) fun r6 => some (r6.2.1, r6.2.2, r6.1)) else (some (([] : List SSwitch), 0, s.2.1)))))) fun (s2 : List SSwitch × Int × STimer) => bif (s2.2.1 != 0) then (Option.bind (bif ((decide (x.Kind ≤ 3)) && (decide (x.Kind ≥ 0))) then (Option.bind (magnetolaw24_none s2.2.2) fun v3 => some (!v3)) else (some false)) fun b2 => bif b2 then (some (.ret false)) else (some (.next (s.1, s.2.1, s.2.2)))) else (Option.bind (timer_Valid s2.2.2) fun v4 => bif ((!v4) || ((s2.2.2.Channels.length : Int) != (w64 (1 + (Int.tmod (w64 n2) 16))))) then (some (.ret false)) else (Option.bind (rangeM s2.1 (magnetolaw24_TimerScripts_b2 n2 s2) (s.1, s.2.2)) fun (t : (Int × List Bool) ⊕ Bool) => match t with | .inl s5 => (Option.bind (rangeN (s2.2.2.Channels.length : Int) (magnetolaw24_TimerScripts_b3 s2 s5) ()) fun (t : Unit ⊕ Bool) => match t with | .inl _ => (some (.next (s5.1, s2.2.2, s5.2))) | .inr r7 => some (.ret r7)) | .inr r8 => some (.ret r8)))
noncomputable def magnetolaw24_TimerScripts (n2 : Int) (script : List Smagnetolaw24_Op) : Option Bool :=
  Option.bind (magnetolaw24_awake) fun v => bif ((!v) || (decide ((script.length : Int) > 60))) then (Option.bind (magnetolaw24_awake) fun v2 => some v2) else (Option.bind (timer_New (w64 (1 + (Int.tmod (w64 n2) 16)))) fun r2 => bif ((r2.2 != 0) || ((r2.1.Channels.length : Int) != (w64 (1 + (Int.tmod (w64 n2) 16))))) then (some false) else (Option.bind (makeM (w64 (1 + (Int.tmod (w64 n2) 16))) false) fun l => Option.bind (rangeM script (magnetolaw24_TimerScripts_b1 n2) (0, r2.1, l)) fun (t : (Int × STimer × List Bool) ⊕ Bool) => match t with | .inl _ => (some true) | .inr r9 => some r9))
/-- slices.Grow[[]magneto/api.Switch,magneto/api.Switch] -/
noncomputable def slices_Grow_sSwitch (n2 : Int) : Option (List SSwitch) :=
  Option.bind (bif (decide (n2 < 0)) then none else (some ())) fun (_ : Unit) => bif (decide ((w64 (n2 - (w64 (0 - 0)))) > 0)) then (Option.bind (zerosM (w64 (n2 - (w64 (0 - 0)))) (⟨0, 0, false⟩ : SSwitch)) fun l => Option.bind (sliceM l 0 0) fun l2 => some l2) else (some ([] : List SSwitch))
/-- slices.Concat[[]magneto/api.Switch,magneto/api.Switch] -/
noncomputable def slices_Concat_sSwitch_b1 (_ : Int) (x : List SSwitch) (size : Int) : Option (Fl Int Empty) :=
  bif (decide ((w64 (size + (x.length : Int))) < 0)) then none else (some (.next (w64 (size + (x.length : Int)))))
noncomputable def slices_Concat_sSwitch_b2 (_ : Int) (x2 : List SSwitch) (f2 : List SSwitch) : Option (Fl (List SSwitch) Empty) :=
  Option.bind (appendM f2 x2) fun l => some (.next l)
noncomputable def slices_Concat_sSwitch (slices : List (List SSwitch)) : Option (List SSwitch) :=
  Option.bind (rangeM slices (slices_Concat_sSwitch_b1) 0) fun (t : Int ⊕ Empty) => match t with | .inl size2 => (Option.bind (slices_Grow_sSwitch size2) fun v => Option.bind (rangeM slices (slices_Concat_sSwitch_b2) v) fun (t : (List SSwitch) ⊕ Empty) => match t with | .inl f3 => (some f3) | .inr r => r.elim) | .inr r => r.elim
/-- magneto/magnetolaw24.TimerSplits -/
noncomputable def magnetolaw24_TimerSplits (t2 : STimer) (a : Int) (b2 : Int) : Option Bool :=
  Option.bind (magnetolaw24_awake) fun v => bif ((!v) || (decide ((t2.Channels.length : Int) > 100))) then (Option.bind (magnetolaw24_awake) fun v2 => some v2) else (Option.bind (timer_Advance t2 a) fun r2 => bif (r2.2.2 != 0) then (Option.bind (magnetolaw24_none r2.1) fun v3 => some (v3 && ((r2.2.1.length : Int) == 0))) else (Option.bind (timer_Advance r2.1 b2) fun r3 => Option.bind (timer_Advance t2 b2) fun r4 => bif (r3.2.2 != 0) then (Option.bind (magnetolaw24_none r3.1) fun v4 => some (v4 && ((r3.2.1.length : Int) == 0))) else (Option.bind (bif (r4.2.2 == 0) then (Option.bind (magnetoref24_Same r3.1 r4.1) fun v5 => some v5) else (some false)) fun b3 => Option.bind (bif b3 then (Option.bind (slices_Concat_sSwitch ([r2.2.1, r3.2.1] : List (List SSwitch))) fun v6 => Option.bind (slices_Equal_sSwitch v6 r4.2.1) fun v7 => some v7) else (some false)) fun b4 => some b4)))
end Go.Pv

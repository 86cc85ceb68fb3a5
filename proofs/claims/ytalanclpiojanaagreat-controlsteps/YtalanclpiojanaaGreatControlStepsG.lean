/- This file joins: Ties, printed by gen.py: each function of the loaded program computes its model. -/
import Derived.Test.YtalanclpiojanaaGreatControlStepsF
import Derived.Test.YtalanclpiojanaaGreatProg
import Derived.KernelRfl
set_option linter.unusedSimpArgs false
set_option linter.unusedVariables false
namespace Go.Proofs.YtalanclpiojanaaGreat
open Go Go.Pv Go.Proofs
set_option maxRecDepth 100000
set_option maxHeartbeats 4000000
abbrev u11_0 (s:SControls) (x:SPedal):SControls:=⟨x,s.Idle,s.Knock,s.Probe,s.Film,s.Grant⟩
abbrev u11_1 (s:SControls) (x:SIntegral):SControls:=⟨s.Pedal,x,s.Knock,s.Probe,s.Film,s.Grant⟩
abbrev u11_2 (s:SControls) (x:List SKnock):SControls:=⟨s.Pedal,s.Idle,x,s.Probe,s.Film,s.Grant⟩
abbrev u11_3 (s:SControls) (x:SProbe):SControls:=⟨s.Pedal,s.Idle,s.Knock,x,s.Film,s.Grant⟩
abbrev u11_5 (s:SControls) (x:SGrant):SControls:=⟨s.Pedal,s.Idle,s.Knock,s.Probe,s.Film,x⟩
abbrev u16_1 (s:SOutputs) (x:List SFire):SOutputs:=⟨s.Throttle,x,s.Torque⟩
abbrev u16_2 (s:SOutputs) (x:Int):SOutputs:=⟨s.Throttle,s.Fires,x⟩
abbrev u17_0 (s:Scontrol_step) (x:STables):Scontrol_step:=⟨x,s.e,s.b,s.c,s.i,s.wanted,s.charge,s.fired,s.late,s.pattern,s.time,s.out,s.fail⟩
abbrev u17_1 (s:Scontrol_step) (x:SEngine):Scontrol_step:=⟨s.t,x,s.b,s.c,s.i,s.wanted,s.charge,s.fired,s.late,s.pattern,s.time,s.out,s.fail⟩
abbrev u17_2 (s:Scontrol_step) (x:SBody):Scontrol_step:=⟨s.t,s.e,x,s.c,s.i,s.wanted,s.charge,s.fired,s.late,s.pattern,s.time,s.out,s.fail⟩
abbrev u17_3 (s:Scontrol_step) (x:SControls):Scontrol_step:=⟨s.t,s.e,s.b,x,s.i,s.wanted,s.charge,s.fired,s.late,s.pattern,s.time,s.out,s.fail⟩
abbrev u17_4 (s:Scontrol_step) (x:SInputs):Scontrol_step:=⟨s.t,s.e,s.b,s.c,x,s.wanted,s.charge,s.fired,s.late,s.pattern,s.time,s.out,s.fail⟩
abbrev u17_6 (s:Scontrol_step) (x:Int):Scontrol_step:=⟨s.t,s.e,s.b,s.c,s.i,s.wanted,x,s.fired,s.late,s.pattern,s.time,s.out,s.fail⟩
abbrev u17_7 (s:Scontrol_step) (x:Int):Scontrol_step:=⟨s.t,s.e,s.b,s.c,s.i,s.wanted,s.charge,x,s.late,s.pattern,s.time,s.out,s.fail⟩
abbrev u17_8 (s:Scontrol_step) (x:Int):Scontrol_step:=⟨s.t,s.e,s.b,s.c,s.i,s.wanted,s.charge,s.fired,x,s.pattern,s.time,s.out,s.fail⟩
abbrev u17_9 (s:Scontrol_step) (x:List Bool):Scontrol_step:=⟨s.t,s.e,s.b,s.c,s.i,s.wanted,s.charge,s.fired,s.late,x,s.time,s.out,s.fail⟩
abbrev u17_11 (s:Scontrol_step) (x:SOutputs):Scontrol_step:=⟨s.t,s.e,s.b,s.c,s.i,s.wanted,s.charge,s.fired,s.late,s.pattern,s.time,x,s.fail⟩
theorem mixed:Tryz.prog.follows .mixedOrders = true:=by kernel_rfl
def tab:Tab:=[(3,⟨1,.int .i64,[.int .i64 0]⟩),
 (4,⟨1,.bool,[.bool false]⟩),
 (5,⟨1,.int .u8,[.int .u8 0]⟩),
 (22,⟨1,.slice 3,[.slice none 0 0]⟩),
 (23,⟨1,.slice 22,[.slice none 0 0]⟩),
 (25,⟨3,.struct [(0,1),(1,1),(2,1)],[.slice none 0 0,.slice none 0 0,.slice none 0 0]⟩),
 (27,⟨2,.struct [(0,1),(1,1)],[.slice none 0 0,.slice none 0 0]⟩),
 (29,⟨4,.struct [(0,1),(1,1),(2,1),(3,1)],[.int .i64 0,.int .i64 0,.int .i64 0,.int .i64 0]⟩),
 (31,⟨24,.struct [(0,3),(3,3),(6,3),(9,3),(12,2),(14,2),(16,2),(18,2),(20,4)],[.slice none 0 0,.slice none 0 0,.slice none 0 0,.slice none 0 0,.slice none 0 0,.slice none 0 0,.slice none 0 0,.slice none 0 0,.slice none 0 0,.slice none 0 0,.slice none 0 0,.slice none 0 0,.slice none 0 0,.slice none 0 0,.slice none 0 0,.slice none 0 0,.slice none 0 0,.slice none 0 0,.slice none 0 0,.slice none 0 0,.int .i64 0,.int .i64 0,.int .i64 0,.int .i64 0]⟩),
 (33,⟨2,.struct [(0,1),(1,1)],[.slice none 0 0,.int .i64 0]⟩),
 (35,⟨3,.struct [(0,1),(1,1),(2,1)],[.int .i64 0,.int .i64 0,.bool false]⟩),
 (37,⟨1,.struct [(0,1)],[.int .i64 0]⟩),
 (38,⟨1,.slice 95,[.slice none 0 0]⟩),
 (39,⟨1,.slice 105,[.slice none 0 0]⟩),
 (41,⟨5,.struct [(0,1),(1,1),(2,1),(3,1),(4,1)],[.bool false,.bool false,.int .i64 0,.int .i64 0,.slice none 0 0]⟩),
 (43,⟨2,.struct [(0,1),(1,1)],[.int .i64 0,.int .i64 0]⟩),
 (45,⟨13,.struct [(0,3),(3,1),(4,1),(5,5),(10,1),(11,2)],[.int .i64 0,.int .i64 0,.bool false,.int .i64 0,.slice none 0 0,.bool false,.bool false,.int .i64 0,.int .i64 0,.slice none 0 0,.int .i64 0,.int .i64 0,.int .i64 0]⟩),
 (46,⟨1,.slice 73,[.slice none 0 0]⟩),
 (48,⟨10,.struct [(0,1),(1,1),(2,1),(3,1),(4,1),(5,1),(6,1),(7,1),(8,1),(9,1)],[.int .i64 0,.int .i64 0,.int .i64 0,.int .i64 0,.int .i64 0,.int .i64 0,.int .i64 0,.int .i64 0,.slice none 0 0,.slice none 0 0]⟩),
 (52,⟨1,.int .i64,[.int .i64 0]⟩),
 (62,⟨7,.struct [(0,1),(1,1),(2,1),(3,1),(4,1),(5,1),(6,1)],[.int .i64 0,.int .i64 0,.int .i64 0,.int .i64 0,.int .i64 0,.int .i64 0,.int .i64 0]⟩),
 (63,⟨1,.slice 79,[.slice none 0 0]⟩),
 (65,⟨3,.struct [(0,1),(1,1),(2,1)],[.int .i64 0,.slice none 0 0,.int .i64 0]⟩),
 (73,⟨4,.struct [(0,1),(1,1),(2,1),(3,1)],[.int .i64 0,.int .i64 0,.int .i64 0,.int .i64 0]⟩),
 (79,⟨7,.struct [(0,1),(1,1),(2,1),(3,1),(4,1),(5,1),(6,1)],[.int .i64 0,.int .i64 0,.int .i64 0,.int .i64 0,.int .i64 0,.int .i64 0,.int .i64 0]⟩),
 (82,⟨1,.slice 4,[.slice none 0 0]⟩),
 (95,⟨3,.struct [(0,1),(1,1),(2,1)],[.int .i64 0,.int .i64 0,.int .i64 0]⟩),
 (105,⟨2,.struct [(0,1),(1,1)],[.int .i64 0,.int .i64 0]⟩),
 (106,⟨1,.slice 25,[.slice none 0 0]⟩),
 (107,⟨1,.slice 27,[.slice none 0 0]⟩),
 (131,⟨66,.struct [(0,24),(24,2),(26,7),(33,13),(46,10),(56,1),(57,1),(58,1),(59,1),(60,1),(61,1),(62,3),(65,1)],[.slice none 0 0,.slice none 0 0,.slice none 0 0,.slice none 0 0,.slice none 0 0,.slice none 0 0,.slice none 0 0,.slice none 0 0,.slice none 0 0,.slice none 0 0,.slice none 0 0,.slice none 0 0,.slice none 0 0,.slice none 0 0,.slice none 0 0,.slice none 0 0,.slice none 0 0,.slice none 0 0,.slice none 0 0,.slice none 0 0,.int .i64 0,.int .i64 0,.int .i64 0,.int .i64 0,.slice none 0 0,.int .i64 0,.int .i64 0,.int .i64 0,.int .i64 0,.int .i64 0,.int .i64 0,.int .i64 0,.int .i64 0,.int .i64 0,.int .i64 0,.bool false,.int .i64 0,.slice none 0 0,.bool false,.bool false,.int .i64 0,.int .i64 0,.slice none 0 0,.int .i64 0,.int .i64 0,.int .i64 0,.int .i64 0,.int .i64 0,.int .i64 0,.int .i64 0,.int .i64 0,.int .i64 0,.int .i64 0,.int .i64 0,.slice none 0 0,.slice none 0 0,.int .i64 0,.int .i64 0,.int .i64 0,.int .i64 0,.slice none 0 0,.int .i64 0,.int .i64 0,.slice none 0 0,.int .i64 0,.int .i64 0]⟩),
 (163,⟨3,.struct [(0,1),(1,1),(2,1)],[.int .i64 0,.int .i64 0,.int .i64 0]⟩),
 (189,⟨2,.struct [(0,1),(1,1)],[.int .i64 0,.int .i64 0]⟩),
 (199,⟨1,.int .u64,[.int .u64 0]⟩),
 (222,⟨1,.int .u32,[.int .u32 0]⟩),
 (225,⟨1,.int .u64,[.int .u64 0]⟩),
 (249,⟨2,.struct [(0,1),(1,1)],[.int .u64 0,.int .u64 0]⟩)]
theorem ti3:TIok Tryz.prog 3 ⟨1,.int .i64,[.int .i64 0]⟩:=⟨Tryz.t3,_,by kernel_rfl,rfl,Tryz.underlying3,rfl,⟨_,rfl,rfl⟩,Nat.le_of_ble_eq_true rfl⟩
theorem ti4:TIok Tryz.prog 4 ⟨1,.bool,[.bool false]⟩:=⟨Tryz.t4,_,by kernel_rfl,rfl,Tryz.underlying4,rfl,⟨_,rfl,rfl⟩,Nat.le_of_ble_eq_true rfl⟩
theorem ti5:TIok Tryz.prog 5 ⟨1,.int .u8,[.int .u8 0]⟩:=⟨Tryz.t5,_,by kernel_rfl,rfl,Tryz.underlying5,rfl,⟨_,rfl,rfl⟩,Nat.le_of_ble_eq_true rfl⟩
theorem ti22:TIok Tryz.prog 22 ⟨1,.slice 3,[.slice none 0 0]⟩:=⟨Tryz.t22,_,by kernel_rfl,rfl,Tryz.underlying22,rfl,⟨_,rfl,rfl⟩,Nat.le_of_ble_eq_true rfl⟩
theorem ti23:TIok Tryz.prog 23 ⟨1,.slice 22,[.slice none 0 0]⟩:=⟨Tryz.t23,_,by kernel_rfl,rfl,Tryz.underlying23,rfl,⟨_,rfl,rfl⟩,Nat.le_of_ble_eq_true rfl⟩
theorem ti25:TIok Tryz.prog 25 ⟨3,.struct [(0,1),(1,1),(2,1)],[.slice none 0 0,.slice none 0 0,.slice none 0 0]⟩:=by
 refine ⟨Tryz.t25,_,by kernel_rfl,rfl,Tryz.underlying25,⟨_,rfl,rfl,fun f o n h=>?_⟩,⟨_,rfl,rfl⟩,Nat.le_of_ble_eq_true rfl⟩
 match f,h with
 | 0,h=>cases h; exact ⟨_,Tryz.t22,rfl,rfl,by kernel_rfl,rfl⟩
 | 1,h=>cases h; exact ⟨_,Tryz.t22,rfl,rfl,by kernel_rfl,rfl⟩
 | 2,h=>cases h; exact ⟨_,Tryz.t23,rfl,rfl,by kernel_rfl,rfl⟩
 | _ + 3,h=>simp at h
theorem ti27:TIok Tryz.prog 27 ⟨2,.struct [(0,1),(1,1)],[.slice none 0 0,.slice none 0 0]⟩:=by
 refine ⟨Tryz.t27,_,by kernel_rfl,rfl,Tryz.underlying27,⟨_,rfl,rfl,fun f o n h=>?_⟩,⟨_,rfl,rfl⟩,Nat.le_of_ble_eq_true rfl⟩
 match f,h with
 | 0,h=>cases h; exact ⟨_,Tryz.t22,rfl,rfl,by kernel_rfl,rfl⟩
 | 1,h=>cases h; exact ⟨_,Tryz.t22,rfl,rfl,by kernel_rfl,rfl⟩
 | _ + 2,h=>simp at h
theorem ti29:TIok Tryz.prog 29 ⟨4,.struct [(0,1),(1,1),(2,1),(3,1)],[.int .i64 0,.int .i64 0,.int .i64 0,.int .i64 0]⟩:=by
 refine ⟨Tryz.t29,_,by kernel_rfl,rfl,Tryz.underlying29,⟨_,rfl,rfl,fun f o n h=>?_⟩,⟨_,rfl,rfl⟩,Nat.le_of_ble_eq_true rfl⟩
 match f,h with
 | 0,h=>cases h; exact ⟨_,Tryz.t3,rfl,rfl,by kernel_rfl,rfl⟩
 | 1,h=>cases h; exact ⟨_,Tryz.t3,rfl,rfl,by kernel_rfl,rfl⟩
 | 2,h=>cases h; exact ⟨_,Tryz.t3,rfl,rfl,by kernel_rfl,rfl⟩
 | 3,h=>cases h; exact ⟨_,Tryz.t3,rfl,rfl,by kernel_rfl,rfl⟩
 | _ + 4,h=>simp at h
theorem ti31:TIok Tryz.prog 31 ⟨24,.struct [(0,3),(3,3),(6,3),(9,3),(12,2),(14,2),(16,2),(18,2),(20,4)],[.slice none 0 0,.slice none 0 0,.slice none 0 0,.slice none 0 0,.slice none 0 0,.slice none 0 0,.slice none 0 0,.slice none 0 0,.slice none 0 0,.slice none 0 0,.slice none 0 0,.slice none 0 0,.slice none 0 0,.slice none 0 0,.slice none 0 0,.slice none 0 0,.slice none 0 0,.slice none 0 0,.slice none 0 0,.slice none 0 0,.int .i64 0,.int .i64 0,.int .i64 0,.int .i64 0]⟩:=by
 refine ⟨Tryz.t31,_,by kernel_rfl,rfl,Tryz.underlying31,⟨_,rfl,rfl,fun f o n h=>?_⟩,⟨_,rfl,rfl⟩,Nat.le_of_ble_eq_true rfl⟩
 match f,h with
 | 0,h=>cases h; exact ⟨_,Tryz.t25,rfl,rfl,by kernel_rfl,rfl⟩
 | 1,h=>cases h; exact ⟨_,Tryz.t25,rfl,rfl,by kernel_rfl,rfl⟩
 | 2,h=>cases h; exact ⟨_,Tryz.t25,rfl,rfl,by kernel_rfl,rfl⟩
 | 3,h=>cases h; exact ⟨_,Tryz.t25,rfl,rfl,by kernel_rfl,rfl⟩
 | 4,h=>cases h; exact ⟨_,Tryz.t27,rfl,rfl,by kernel_rfl,rfl⟩
 | 5,h=>cases h; exact ⟨_,Tryz.t27,rfl,rfl,by kernel_rfl,rfl⟩
 | 6,h=>cases h; exact ⟨_,Tryz.t27,rfl,rfl,by kernel_rfl,rfl⟩
 | 7,h=>cases h; exact ⟨_,Tryz.t27,rfl,rfl,by kernel_rfl,rfl⟩
 | 8,h=>cases h; exact ⟨_,Tryz.t29,rfl,rfl,by kernel_rfl,rfl⟩
 | _ + 9,h=>simp at h
theorem ti33:TIok Tryz.prog 33 ⟨2,.struct [(0,1),(1,1)],[.slice none 0 0,.int .i64 0]⟩:=by
 refine ⟨Tryz.t33,_,by kernel_rfl,rfl,Tryz.underlying33,⟨_,rfl,rfl,fun f o n h=>?_⟩,⟨_,rfl,rfl⟩,Nat.le_of_ble_eq_true rfl⟩
 match f,h with
 | 0,h=>cases h; exact ⟨_,Tryz.t22,rfl,rfl,by kernel_rfl,rfl⟩
 | 1,h=>cases h; exact ⟨_,Tryz.t3,rfl,rfl,by kernel_rfl,rfl⟩
 | _ + 2,h=>simp at h
theorem ti35:TIok Tryz.prog 35 ⟨3,.struct [(0,1),(1,1),(2,1)],[.int .i64 0,.int .i64 0,.bool false]⟩:=by
 refine ⟨Tryz.t35,_,by kernel_rfl,rfl,Tryz.underlying35,⟨_,rfl,rfl,fun f o n h=>?_⟩,⟨_,rfl,rfl⟩,Nat.le_of_ble_eq_true rfl⟩
 match f,h with
 | 0,h=>cases h; exact ⟨_,Tryz.t3,rfl,rfl,by kernel_rfl,rfl⟩
 | 1,h=>cases h; exact ⟨_,Tryz.t3,rfl,rfl,by kernel_rfl,rfl⟩
 | 2,h=>cases h; exact ⟨_,Tryz.t4,rfl,rfl,by kernel_rfl,rfl⟩
 | _ + 3,h=>simp at h
theorem ti37:TIok Tryz.prog 37 ⟨1,.struct [(0,1)],[.int .i64 0]⟩:=by
 refine ⟨Tryz.t37,_,by kernel_rfl,rfl,Tryz.underlying37,⟨_,rfl,rfl,fun f o n h=>?_⟩,⟨_,rfl,rfl⟩,Nat.le_of_ble_eq_true rfl⟩
 match f,h with
 | 0,h=>cases h; exact ⟨_,Tryz.t3,rfl,rfl,by kernel_rfl,rfl⟩
 | _ + 1,h=>simp at h
theorem ti38:TIok Tryz.prog 38 ⟨1,.slice 95,[.slice none 0 0]⟩:=⟨Tryz.t38,_,by kernel_rfl,rfl,Tryz.underlying38,rfl,⟨_,rfl,rfl⟩,Nat.le_of_ble_eq_true rfl⟩
theorem ti39:TIok Tryz.prog 39 ⟨1,.slice 105,[.slice none 0 0]⟩:=⟨Tryz.t39,_,by kernel_rfl,rfl,Tryz.underlying39,rfl,⟨_,rfl,rfl⟩,Nat.le_of_ble_eq_true rfl⟩
theorem ti41:TIok Tryz.prog 41 ⟨5,.struct [(0,1),(1,1),(2,1),(3,1),(4,1)],[.bool false,.bool false,.int .i64 0,.int .i64 0,.slice none 0 0]⟩:=by
 refine ⟨Tryz.t41,_,by kernel_rfl,rfl,Tryz.underlying41,⟨_,rfl,rfl,fun f o n h=>?_⟩,⟨_,rfl,rfl⟩,Nat.le_of_ble_eq_true rfl⟩
 match f,h with
 | 0,h=>cases h; exact ⟨_,Tryz.t4,rfl,rfl,by kernel_rfl,rfl⟩
 | 1,h=>cases h; exact ⟨_,Tryz.t4,rfl,rfl,by kernel_rfl,rfl⟩
 | 2,h=>cases h; exact ⟨_,Tryz.t3,rfl,rfl,by kernel_rfl,rfl⟩
 | 3,h=>cases h; exact ⟨_,Tryz.t3,rfl,rfl,by kernel_rfl,rfl⟩
 | 4,h=>cases h; exact ⟨_,Tryz.t39,rfl,rfl,by kernel_rfl,rfl⟩
 | _ + 5,h=>simp at h
theorem ti43:TIok Tryz.prog 43 ⟨2,.struct [(0,1),(1,1)],[.int .i64 0,.int .i64 0]⟩:=by
 refine ⟨Tryz.t43,_,by kernel_rfl,rfl,Tryz.underlying43,⟨_,rfl,rfl,fun f o n h=>?_⟩,⟨_,rfl,rfl⟩,Nat.le_of_ble_eq_true rfl⟩
 match f,h with
 | 0,h=>cases h; exact ⟨_,Tryz.t3,rfl,rfl,by kernel_rfl,rfl⟩
 | 1,h=>cases h; exact ⟨_,Tryz.t3,rfl,rfl,by kernel_rfl,rfl⟩
 | _ + 2,h=>simp at h
theorem ti45:TIok Tryz.prog 45 ⟨13,.struct [(0,3),(3,1),(4,1),(5,5),(10,1),(11,2)],[.int .i64 0,.int .i64 0,.bool false,.int .i64 0,.slice none 0 0,.bool false,.bool false,.int .i64 0,.int .i64 0,.slice none 0 0,.int .i64 0,.int .i64 0,.int .i64 0]⟩:=by
 refine ⟨Tryz.t45,_,by kernel_rfl,rfl,Tryz.underlying45,⟨_,rfl,rfl,fun f o n h=>?_⟩,⟨_,rfl,rfl⟩,Nat.le_of_ble_eq_true rfl⟩
 match f,h with
 | 0,h=>cases h; exact ⟨_,Tryz.t35,rfl,rfl,by kernel_rfl,rfl⟩
 | 1,h=>cases h; exact ⟨_,Tryz.t37,rfl,rfl,by kernel_rfl,rfl⟩
 | 2,h=>cases h; exact ⟨_,Tryz.t38,rfl,rfl,by kernel_rfl,rfl⟩
 | 3,h=>cases h; exact ⟨_,Tryz.t41,rfl,rfl,by kernel_rfl,rfl⟩
 | 4,h=>cases h; exact ⟨_,Tryz.t3,rfl,rfl,by kernel_rfl,rfl⟩
 | 5,h=>cases h; exact ⟨_,Tryz.t43,rfl,rfl,by kernel_rfl,rfl⟩
 | _ + 6,h=>simp at h
theorem ti46:TIok Tryz.prog 46 ⟨1,.slice 73,[.slice none 0 0]⟩:=⟨Tryz.t46,_,by kernel_rfl,rfl,Tryz.underlying46,rfl,⟨_,rfl,rfl⟩,Nat.le_of_ble_eq_true rfl⟩
theorem ti48:TIok Tryz.prog 48 ⟨10,.struct [(0,1),(1,1),(2,1),(3,1),(4,1),(5,1),(6,1),(7,1),(8,1),(9,1)],[.int .i64 0,.int .i64 0,.int .i64 0,.int .i64 0,.int .i64 0,.int .i64 0,.int .i64 0,.int .i64 0,.slice none 0 0,.slice none 0 0]⟩:=by
 refine ⟨Tryz.t48,_,by kernel_rfl,rfl,Tryz.underlying48,⟨_,rfl,rfl,fun f o n h=>?_⟩,⟨_,rfl,rfl⟩,Nat.le_of_ble_eq_true rfl⟩
 match f,h with
 | 0,h=>cases h; exact ⟨_,Tryz.t3,rfl,rfl,by kernel_rfl,rfl⟩
 | 1,h=>cases h; exact ⟨_,Tryz.t3,rfl,rfl,by kernel_rfl,rfl⟩
 | 2,h=>cases h; exact ⟨_,Tryz.t3,rfl,rfl,by kernel_rfl,rfl⟩
 | 3,h=>cases h; exact ⟨_,Tryz.t3,rfl,rfl,by kernel_rfl,rfl⟩
 | 4,h=>cases h; exact ⟨_,Tryz.t3,rfl,rfl,by kernel_rfl,rfl⟩
 | 5,h=>cases h; exact ⟨_,Tryz.t3,rfl,rfl,by kernel_rfl,rfl⟩
 | 6,h=>cases h; exact ⟨_,Tryz.t3,rfl,rfl,by kernel_rfl,rfl⟩
 | 7,h=>cases h; exact ⟨_,Tryz.t3,rfl,rfl,by kernel_rfl,rfl⟩
 | 8,h=>cases h; exact ⟨_,Tryz.t22,rfl,rfl,by kernel_rfl,rfl⟩
 | 9,h=>cases h; exact ⟨_,Tryz.t46,rfl,rfl,by kernel_rfl,rfl⟩
 | _ + 10,h=>simp at h
theorem ti52:TIok Tryz.prog 52 ⟨1,.int .i64,[.int .i64 0]⟩:=⟨Tryz.t52,_,by kernel_rfl,rfl,Tryz.underlying52,rfl,⟨_,rfl,rfl⟩,Nat.le_of_ble_eq_true rfl⟩
theorem ti62:TIok Tryz.prog 62 ⟨7,.struct [(0,1),(1,1),(2,1),(3,1),(4,1),(5,1),(6,1)],[.int .i64 0,.int .i64 0,.int .i64 0,.int .i64 0,.int .i64 0,.int .i64 0,.int .i64 0]⟩:=by
 refine ⟨Tryz.t62,_,by kernel_rfl,rfl,Tryz.underlying62,⟨_,rfl,rfl,fun f o n h=>?_⟩,⟨_,rfl,rfl⟩,Nat.le_of_ble_eq_true rfl⟩
 match f,h with
 | 0,h=>cases h; exact ⟨_,Tryz.t3,rfl,rfl,by kernel_rfl,rfl⟩
 | 1,h=>cases h; exact ⟨_,Tryz.t3,rfl,rfl,by kernel_rfl,rfl⟩
 | 2,h=>cases h; exact ⟨_,Tryz.t3,rfl,rfl,by kernel_rfl,rfl⟩
 | 3,h=>cases h; exact ⟨_,Tryz.t3,rfl,rfl,by kernel_rfl,rfl⟩
 | 4,h=>cases h; exact ⟨_,Tryz.t3,rfl,rfl,by kernel_rfl,rfl⟩
 | 5,h=>cases h; exact ⟨_,Tryz.t3,rfl,rfl,by kernel_rfl,rfl⟩
 | 6,h=>cases h; exact ⟨_,Tryz.t3,rfl,rfl,by kernel_rfl,rfl⟩
 | _ + 7,h=>simp at h
theorem ti63:TIok Tryz.prog 63 ⟨1,.slice 79,[.slice none 0 0]⟩:=⟨Tryz.t63,_,by kernel_rfl,rfl,Tryz.underlying63,rfl,⟨_,rfl,rfl⟩,Nat.le_of_ble_eq_true rfl⟩
theorem ti65:TIok Tryz.prog 65 ⟨3,.struct [(0,1),(1,1),(2,1)],[.int .i64 0,.slice none 0 0,.int .i64 0]⟩:=by
 refine ⟨Tryz.t65,_,by kernel_rfl,rfl,Tryz.underlying65,⟨_,rfl,rfl,fun f o n h=>?_⟩,⟨_,rfl,rfl⟩,Nat.le_of_ble_eq_true rfl⟩
 match f,h with
 | 0,h=>cases h; exact ⟨_,Tryz.t3,rfl,rfl,by kernel_rfl,rfl⟩
 | 1,h=>cases h; exact ⟨_,Tryz.t63,rfl,rfl,by kernel_rfl,rfl⟩
 | 2,h=>cases h; exact ⟨_,Tryz.t3,rfl,rfl,by kernel_rfl,rfl⟩
 | _ + 3,h=>simp at h
theorem ti73:TIok Tryz.prog 73 ⟨4,.struct [(0,1),(1,1),(2,1),(3,1)],[.int .i64 0,.int .i64 0,.int .i64 0,.int .i64 0]⟩:=by
 refine ⟨Tryz.t73,_,by kernel_rfl,rfl,Tryz.underlying73,⟨_,rfl,rfl,fun f o n h=>?_⟩,⟨_,rfl,rfl⟩,Nat.le_of_ble_eq_true rfl⟩
 match f,h with
 | 0,h=>cases h; exact ⟨_,Tryz.t3,rfl,rfl,by kernel_rfl,rfl⟩
 | 1,h=>cases h; exact ⟨_,Tryz.t3,rfl,rfl,by kernel_rfl,rfl⟩
 | 2,h=>cases h; exact ⟨_,Tryz.t3,rfl,rfl,by kernel_rfl,rfl⟩
 | 3,h=>cases h; exact ⟨_,Tryz.t3,rfl,rfl,by kernel_rfl,rfl⟩
 | _ + 4,h=>simp at h
theorem ti79:TIok Tryz.prog 79 ⟨7,.struct [(0,1),(1,1),(2,1),(3,1),(4,1),(5,1),(6,1)],[.int .i64 0,.int .i64 0,.int .i64 0,.int .i64 0,.int .i64 0,.int .i64 0,.int .i64 0]⟩:=by
 refine ⟨Tryz.t79,_,by kernel_rfl,rfl,Tryz.underlying79,⟨_,rfl,rfl,fun f o n h=>?_⟩,⟨_,rfl,rfl⟩,Nat.le_of_ble_eq_true rfl⟩
 match f,h with
 | 0,h=>cases h; exact ⟨_,Tryz.t3,rfl,rfl,by kernel_rfl,rfl⟩
 | 1,h=>cases h; exact ⟨_,Tryz.t3,rfl,rfl,by kernel_rfl,rfl⟩
 | 2,h=>cases h; exact ⟨_,Tryz.t3,rfl,rfl,by kernel_rfl,rfl⟩
 | 3,h=>cases h; exact ⟨_,Tryz.t3,rfl,rfl,by kernel_rfl,rfl⟩
 | 4,h=>cases h; exact ⟨_,Tryz.t3,rfl,rfl,by kernel_rfl,rfl⟩
 | 5,h=>cases h; exact ⟨_,Tryz.t3,rfl,rfl,by kernel_rfl,rfl⟩
 | 6,h=>cases h; exact ⟨_,Tryz.t3,rfl,rfl,by kernel_rfl,rfl⟩
 | _ + 7,h=>simp at h
theorem ti82:TIok Tryz.prog 82 ⟨1,.slice 4,[.slice none 0 0]⟩:=⟨Tryz.t82,_,by kernel_rfl,rfl,Tryz.underlying82,rfl,⟨_,rfl,rfl⟩,Nat.le_of_ble_eq_true rfl⟩
theorem ti95:TIok Tryz.prog 95 ⟨3,.struct [(0,1),(1,1),(2,1)],[.int .i64 0,.int .i64 0,.int .i64 0]⟩:=by
 refine ⟨Tryz.t95,_,by kernel_rfl,rfl,Tryz.underlying95,⟨_,rfl,rfl,fun f o n h=>?_⟩,⟨_,rfl,rfl⟩,Nat.le_of_ble_eq_true rfl⟩
 match f,h with
 | 0,h=>cases h; exact ⟨_,Tryz.t3,rfl,rfl,by kernel_rfl,rfl⟩
 | 1,h=>cases h; exact ⟨_,Tryz.t3,rfl,rfl,by kernel_rfl,rfl⟩
 | 2,h=>cases h; exact ⟨_,Tryz.t3,rfl,rfl,by kernel_rfl,rfl⟩
 | _ + 3,h=>simp at h
theorem ti105:TIok Tryz.prog 105 ⟨2,.struct [(0,1),(1,1)],[.int .i64 0,.int .i64 0]⟩:=by
 refine ⟨Tryz.t105,_,by kernel_rfl,rfl,Tryz.underlying105,⟨_,rfl,rfl,fun f o n h=>?_⟩,⟨_,rfl,rfl⟩,Nat.le_of_ble_eq_true rfl⟩
 match f,h with
 | 0,h=>cases h; exact ⟨_,Tryz.t3,rfl,rfl,by kernel_rfl,rfl⟩
 | 1,h=>cases h; exact ⟨_,Tryz.t3,rfl,rfl,by kernel_rfl,rfl⟩
 | _ + 2,h=>simp at h
theorem ti106:TIok Tryz.prog 106 ⟨1,.slice 25,[.slice none 0 0]⟩:=⟨Tryz.t106,_,by kernel_rfl,rfl,Tryz.underlying106,rfl,⟨_,rfl,rfl⟩,Nat.le_of_ble_eq_true rfl⟩
theorem ti107:TIok Tryz.prog 107 ⟨1,.slice 27,[.slice none 0 0]⟩:=⟨Tryz.t107,_,by kernel_rfl,rfl,Tryz.underlying107,rfl,⟨_,rfl,rfl⟩,Nat.le_of_ble_eq_true rfl⟩
theorem ti131:TIok Tryz.prog 131 ⟨66,.struct [(0,24),(24,2),(26,7),(33,13),(46,10),(56,1),(57,1),(58,1),(59,1),(60,1),(61,1),(62,3),(65,1)],[.slice none 0 0,.slice none 0 0,.slice none 0 0,.slice none 0 0,.slice none 0 0,.slice none 0 0,.slice none 0 0,.slice none 0 0,.slice none 0 0,.slice none 0 0,.slice none 0 0,.slice none 0 0,.slice none 0 0,.slice none 0 0,.slice none 0 0,.slice none 0 0,.slice none 0 0,.slice none 0 0,.slice none 0 0,.slice none 0 0,.int .i64 0,.int .i64 0,.int .i64 0,.int .i64 0,.slice none 0 0,.int .i64 0,.int .i64 0,.int .i64 0,.int .i64 0,.int .i64 0,.int .i64 0,.int .i64 0,.int .i64 0,.int .i64 0,.int .i64 0,.bool false,.int .i64 0,.slice none 0 0,.bool false,.bool false,.int .i64 0,.int .i64 0,.slice none 0 0,.int .i64 0,.int .i64 0,.int .i64 0,.int .i64 0,.int .i64 0,.int .i64 0,.int .i64 0,.int .i64 0,.int .i64 0,.int .i64 0,.int .i64 0,.slice none 0 0,.slice none 0 0,.int .i64 0,.int .i64 0,.int .i64 0,.int .i64 0,.slice none 0 0,.int .i64 0,.int .i64 0,.slice none 0 0,.int .i64 0,.int .i64 0]⟩:=by
 refine ⟨Tryz.t131,_,by kernel_rfl,rfl,Tryz.underlying131,⟨_,rfl,rfl,fun f o n h=>?_⟩,⟨_,rfl,rfl⟩,Nat.le_of_ble_eq_true rfl⟩
 match f,h with
 | 0,h=>cases h; exact ⟨_,Tryz.t31,rfl,rfl,by kernel_rfl,rfl⟩
 | 1,h=>cases h; exact ⟨_,Tryz.t33,rfl,rfl,by kernel_rfl,rfl⟩
 | 2,h=>cases h; exact ⟨_,Tryz.t62,rfl,rfl,by kernel_rfl,rfl⟩
 | 3,h=>cases h; exact ⟨_,Tryz.t45,rfl,rfl,by kernel_rfl,rfl⟩
 | 4,h=>cases h; exact ⟨_,Tryz.t48,rfl,rfl,by kernel_rfl,rfl⟩
 | 5,h=>cases h; exact ⟨_,Tryz.t3,rfl,rfl,by kernel_rfl,rfl⟩
 | 6,h=>cases h; exact ⟨_,Tryz.t3,rfl,rfl,by kernel_rfl,rfl⟩
 | 7,h=>cases h; exact ⟨_,Tryz.t3,rfl,rfl,by kernel_rfl,rfl⟩
 | 8,h=>cases h; exact ⟨_,Tryz.t3,rfl,rfl,by kernel_rfl,rfl⟩
 | 9,h=>cases h; exact ⟨_,Tryz.t82,rfl,rfl,by kernel_rfl,rfl⟩
 | 10,h=>cases h; exact ⟨_,Tryz.t3,rfl,rfl,by kernel_rfl,rfl⟩
 | 11,h=>cases h; exact ⟨_,Tryz.t65,rfl,rfl,by kernel_rfl,rfl⟩
 | 12,h=>cases h; exact ⟨_,Tryz.t52,rfl,rfl,by kernel_rfl,rfl⟩
 | _ + 13,h=>simp at h
theorem ti163:TIok Tryz.prog 163 ⟨3,.struct [(0,1),(1,1),(2,1)],[.int .i64 0,.int .i64 0,.int .i64 0]⟩:=by
 refine ⟨Tryz.t163,_,by kernel_rfl,rfl,Tryz.underlying163,⟨_,rfl,rfl,fun f o n h=>?_⟩,⟨_,rfl,rfl⟩,Nat.le_of_ble_eq_true rfl⟩
 match f,h with
 | 0,h=>cases h; exact ⟨_,Tryz.t3,rfl,rfl,by kernel_rfl,rfl⟩
 | 1,h=>cases h; exact ⟨_,Tryz.t3,rfl,rfl,by kernel_rfl,rfl⟩
 | 2,h=>cases h; exact ⟨_,Tryz.t3,rfl,rfl,by kernel_rfl,rfl⟩
 | _ + 3,h=>simp at h
theorem ti189:TIok Tryz.prog 189 ⟨2,.struct [(0,1),(1,1)],[.int .i64 0,.int .i64 0]⟩:=by
 refine ⟨Tryz.t189,_,by kernel_rfl,rfl,Tryz.underlying189,⟨_,rfl,rfl,fun f o n h=>?_⟩,⟨_,rfl,rfl⟩,Nat.le_of_ble_eq_true rfl⟩
 match f,h with
 | 0,h=>cases h; exact ⟨_,Tryz.t3,rfl,rfl,by kernel_rfl,rfl⟩
 | 1,h=>cases h; exact ⟨_,Tryz.t3,rfl,rfl,by kernel_rfl,rfl⟩
 | _ + 2,h=>simp at h
theorem ti199:TIok Tryz.prog 199 ⟨1,.int .u64,[.int .u64 0]⟩:=⟨Tryz.t199,_,by kernel_rfl,rfl,Tryz.underlying199,rfl,⟨_,rfl,rfl⟩,Nat.le_of_ble_eq_true rfl⟩
theorem ti222:TIok Tryz.prog 222 ⟨1,.int .u32,[.int .u32 0]⟩:=⟨Tryz.t222,_,by kernel_rfl,rfl,Tryz.underlying222,rfl,⟨_,rfl,rfl⟩,Nat.le_of_ble_eq_true rfl⟩
theorem ti225:TIok Tryz.prog 225 ⟨1,.int .u64,[.int .u64 0]⟩:=⟨Tryz.t225,_,by kernel_rfl,rfl,Tryz.underlying225,rfl,⟨_,rfl,rfl⟩,Nat.le_of_ble_eq_true rfl⟩
theorem ti249:TIok Tryz.prog 249 ⟨2,.struct [(0,1),(1,1)],[.int .u64 0,.int .u64 0]⟩:=by
 refine ⟨Tryz.t249,_,by kernel_rfl,rfl,Tryz.underlying249,⟨_,rfl,rfl,fun f o n h=>?_⟩,⟨_,rfl,rfl⟩,Nat.le_of_ble_eq_true rfl⟩
 match f,h with
 | 0,h=>cases h; exact ⟨_,Tryz.t225,rfl,rfl,by kernel_rfl,rfl⟩
 | 1,h=>cases h; exact ⟨_,Tryz.t225,rfl,rfl,by kernel_rfl,rfl⟩
 | _ + 2,h=>simp at h
theorem htab:TabOk Tryz.prog tab:=by
 intro t ti h
 unfold tab at h
 refine tab_step h ti3 fun h=>?_
 refine tab_step h ti4 fun h=>?_
 refine tab_step h ti5 fun h=>?_
 refine tab_step h ti22 fun h=>?_
 refine tab_step h ti23 fun h=>?_
 refine tab_step h ti25 fun h=>?_
 refine tab_step h ti27 fun h=>?_
 refine tab_step h ti29 fun h=>?_
 refine tab_step h ti31 fun h=>?_
 refine tab_step h ti33 fun h=>?_
 refine tab_step h ti35 fun h=>?_
 refine tab_step h ti37 fun h=>?_
 refine tab_step h ti38 fun h=>?_
 refine tab_step h ti39 fun h=>?_
 refine tab_step h ti41 fun h=>?_
 refine tab_step h ti43 fun h=>?_
 refine tab_step h ti45 fun h=>?_
 refine tab_step h ti46 fun h=>?_
 refine tab_step h ti48 fun h=>?_
 refine tab_step h ti52 fun h=>?_
 refine tab_step h ti62 fun h=>?_
 refine tab_step h ti63 fun h=>?_
 refine tab_step h ti65 fun h=>?_
 refine tab_step h ti73 fun h=>?_
 refine tab_step h ti79 fun h=>?_
 refine tab_step h ti82 fun h=>?_
 refine tab_step h ti95 fun h=>?_
 refine tab_step h ti105 fun h=>?_
 refine tab_step h ti106 fun h=>?_
 refine tab_step h ti107 fun h=>?_
 refine tab_step h ti131 fun h=>?_
 refine tab_step h ti163 fun h=>?_
 refine tab_step h ti189 fun h=>?_
 refine tab_step h ti199 fun h=>?_
 refine tab_step h ti222 fun h=>?_
 refine tab_step h ti225 fun h=>?_
 refine tab_step h ti249 fun h=>?_
 cases h
theorem eqi_35 (d:Nat) (w:World) (a0:Int) (a1:Int) (a2:Bool) (b0:Int) (b1:Int) (b2:Bool):(Op.equalIn (d + 2) 35 (.agg #[.int .i64 a0,.int .i64 a1,.bool a2]) (.agg #[.int .i64 b0,.int .i64 b1,.bool b2])).run Tryz.prog w = .ok ((a0 == b0) && ((a1 == b1) && ((a2 == b2) && true))) w:=
 eq_struct (d:=d + 1) (fs:=[⟨ "Value",3,0,false,"","",0⟩,⟨ "Differ",3,1,false,"","",8⟩,⟨ "Fault",4,2,false,"","",16⟩]) (by kernel_rfl) (by kernel_rfl) (by kernel_rfl) (eqf_cons (by decide) (part_one ti3 rfl rfl) (part_one ti3 rfl rfl) (run_equalIn_int w _ 3 _ _ _ _ Tryz.underlying3) (eqf_cons (by decide) (part_one ti3 rfl rfl) (part_one ti3 rfl rfl) (run_equalIn_int w _ 3 _ _ _ _ Tryz.underlying3) (eqf_cons (by decide) (part_one ti4 rfl rfl) (part_one ti4 rfl rfl) (run_equalIn_bool' w _ 4 _ _ Tryz.underlying4) (eqf_nil))))
theorem eqv_35 (a0:Int) (a1:Int) (a2:Bool) (b0:Int) (b1:Int) (b2:Bool):EqOk Tryz.prog 35 [.int .i64 a0,.int .i64 a1,.bool a2] [.int .i64 b0,.int .i64 b1,.bool b2] ((a0 == b0) && ((a1 == b1) && ((a2 == b2) && true))):=⟨fun w=>eqi_35 9998 w a0 a1 a2 b0 b1 b2,by kernel_rfl⟩
theorem eqi_37 (d:Nat) (w:World) (a0:Int) (b0:Int):(Op.equalIn (d + 2) 37 (.agg #[.int .i64 a0]) (.agg #[.int .i64 b0])).run Tryz.prog w = .ok ((a0 == b0) && true) w:=
 eq_struct (d:=d + 1) (fs:=[⟨ "Sum",3,0,false,"","",0⟩]) (by kernel_rfl) (by kernel_rfl) (by kernel_rfl) (eqf_cons (by decide) (part_one ti3 rfl rfl) (part_one ti3 rfl rfl) (run_equalIn_int w _ 3 _ _ _ _ Tryz.underlying3) (eqf_nil))
theorem eqv_37 (a0:Int) (b0:Int):EqOk Tryz.prog 37 [.int .i64 a0] [.int .i64 b0] ((a0 == b0) && true):=⟨fun w=>eqi_37 9998 w a0 b0,by kernel_rfl⟩
theorem eqi_43 (d:Nat) (w:World) (a0:Int) (a1:Int) (b0:Int) (b1:Int):(Op.equalIn (d + 2) 43 (.agg #[.int .i64 a0,.int .i64 a1]) (.agg #[.int .i64 b0,.int .i64 b1])).run Tryz.prog w = .ok ((a0 == b0) && ((a1 == b1) && true)) w:=
 eq_struct (d:=d + 1) (fs:=[⟨ "Torque",3,0,false,"","",0⟩,⟨ "Source",3,1,false,"","",8⟩]) (by kernel_rfl) (by kernel_rfl) (by kernel_rfl) (eqf_cons (by decide) (part_one ti3 rfl rfl) (part_one ti3 rfl rfl) (run_equalIn_int w _ 3 _ _ _ _ Tryz.underlying3) (eqf_cons (by decide) (part_one ti3 rfl rfl) (part_one ti3 rfl rfl) (run_equalIn_int w _ 3 _ _ _ _ Tryz.underlying3) (eqf_nil)))
theorem eqv_43 (a0:Int) (a1:Int) (b0:Int) (b1:Int):EqOk Tryz.prog 43 [.int .i64 a0,.int .i64 a1] [.int .i64 b0,.int .i64 b1] ((a0 == b0) && ((a1 == b1) && true)):=⟨fun w=>eqi_43 9998 w a0 a1 b0 b1,by kernel_rfl⟩
theorem eqi_79 (d:Nat) (w:World) (a0:Int) (a1:Int) (a2:Int) (a3:Int) (a4:Int) (a5:Int) (a6:Int) (b0:Int) (b1:Int) (b2:Int) (b3:Int) (b4:Int) (b5:Int) (b6:Int):(Op.equalIn (d + 2) 79 (.agg #[.int .i64 a0,.int .i64 a1,.int .i64 a2,.int .i64 a3,.int .i64 a4,.int .i64 a5,.int .i64 a6]) (.agg #[.int .i64 b0,.int .i64 b1,.int .i64 b2,.int .i64 b3,.int .i64 b4,.int .i64 b5,.int .i64 b6])).run Tryz.prog w = .ok ((a0 == b0) && ((a1 == b1) && ((a2 == b2) && ((a3 == b3) && ((a4 == b4) && ((a5 == b5) && ((a6 == b6) && true))))))) w:=
 eq_struct (d:=d + 1) (fs:=[⟨ "Cylinder",3,0,false,"","",0⟩,⟨ "Spark",3,1,false,"","",8⟩,⟨ "Dwell",3,2,false,"","",16⟩,⟨ "End",3,3,false,"","",24⟩,⟨ "Inject",3,4,false,"","",32⟩,⟨ "Gap",3,5,false,"","",40⟩,⟨ "Extra",3,6,false,"","",48⟩]) (by kernel_rfl) (by kernel_rfl) (by kernel_rfl) (eqf_cons (by decide) (part_one ti3 rfl rfl) (part_one ti3 rfl rfl) (run_equalIn_int w _ 3 _ _ _ _ Tryz.underlying3) (eqf_cons (by decide) (part_one ti3 rfl rfl) (part_one ti3 rfl rfl) (run_equalIn_int w _ 3 _ _ _ _ Tryz.underlying3) (eqf_cons (by decide) (part_one ti3 rfl rfl) (part_one ti3 rfl rfl) (run_equalIn_int w _ 3 _ _ _ _ Tryz.underlying3) (eqf_cons (by decide) (part_one ti3 rfl rfl) (part_one ti3 rfl rfl) (run_equalIn_int w _ 3 _ _ _ _ Tryz.underlying3) (eqf_cons (by decide) (part_one ti3 rfl rfl) (part_one ti3 rfl rfl) (run_equalIn_int w _ 3 _ _ _ _ Tryz.underlying3) (eqf_cons (by decide) (part_one ti3 rfl rfl) (part_one ti3 rfl rfl) (run_equalIn_int w _ 3 _ _ _ _ Tryz.underlying3) (eqf_cons (by decide) (part_one ti3 rfl rfl) (part_one ti3 rfl rfl) (run_equalIn_int w _ 3 _ _ _ _ Tryz.underlying3) (eqf_nil))))))))
theorem eqv_79 (a0:Int) (a1:Int) (a2:Int) (a3:Int) (a4:Int) (a5:Int) (a6:Int) (b0:Int) (b1:Int) (b2:Int) (b3:Int) (b4:Int) (b5:Int) (b6:Int):EqOk Tryz.prog 79 [.int .i64 a0,.int .i64 a1,.int .i64 a2,.int .i64 a3,.int .i64 a4,.int .i64 a5,.int .i64 a6] [.int .i64 b0,.int .i64 b1,.int .i64 b2,.int .i64 b3,.int .i64 b4,.int .i64 b5,.int .i64 b6] ((a0 == b0) && ((a1 == b1) && ((a2 == b2) && ((a3 == b3) && ((a4 == b4) && ((a5 == b5) && ((a6 == b6) && true))))))):=⟨fun w=>eqi_79 9998 w a0 a1 a2 a3 a4 a5 a6 b0 b1 b2 b3 b4 b5 b6,by kernel_rfl⟩
theorem eqi_95 (d:Nat) (w:World) (a0:Int) (a1:Int) (a2:Int) (b0:Int) (b1:Int) (b2:Int):(Op.equalIn (d + 2) 95 (.agg #[.int .i64 a0,.int .i64 a1,.int .i64 a2]) (.agg #[.int .i64 b0,.int .i64 b1,.int .i64 b2])).run Tryz.prog w = .ok ((a0 == b0) && ((a1 == b1) && ((a2 == b2) && true))) w:=
 eq_struct (d:=d + 1) (fs:=[⟨ "Retard",3,0,false,"","",0⟩,⟨ "Noise",3,1,false,"","",8⟩,⟨ "Quiet",3,2,false,"","",16⟩]) (by kernel_rfl) (by kernel_rfl) (by kernel_rfl) (eqf_cons (by decide) (part_one ti3 rfl rfl) (part_one ti3 rfl rfl) (run_equalIn_int w _ 3 _ _ _ _ Tryz.underlying3) (eqf_cons (by decide) (part_one ti3 rfl rfl) (part_one ti3 rfl rfl) (run_equalIn_int w _ 3 _ _ _ _ Tryz.underlying3) (eqf_cons (by decide) (part_one ti3 rfl rfl) (part_one ti3 rfl rfl) (run_equalIn_int w _ 3 _ _ _ _ Tryz.underlying3) (eqf_nil))))
theorem eqv_95 (a0:Int) (a1:Int) (a2:Int) (b0:Int) (b1:Int) (b2:Int):EqOk Tryz.prog 95 [.int .i64 a0,.int .i64 a1,.int .i64 a2] [.int .i64 b0,.int .i64 b1,.int .i64 b2] ((a0 == b0) && ((a1 == b1) && ((a2 == b2) && true))):=⟨fun w=>eqi_95 9998 w a0 a1 a2 b0 b1 b2,by kernel_rfl⟩
theorem eqi_105 (d:Nat) (w:World) (a0:Int) (a1:Int) (b0:Int) (b1:Int):(Op.equalIn (d + 2) 105 (.agg #[.int .i64 a0,.int .i64 a1]) (.agg #[.int .i64 b0,.int .i64 b1])).run Tryz.prog w = .ok ((a0 == b0) && ((a1 == b1) && true)) w:=
 eq_struct (d:=d + 1) (fs:=[⟨ "Value",3,0,false,"","",0⟩,⟨ "Count",3,1,false,"","",8⟩]) (by kernel_rfl) (by kernel_rfl) (by kernel_rfl) (eqf_cons (by decide) (part_one ti3 rfl rfl) (part_one ti3 rfl rfl) (run_equalIn_int w _ 3 _ _ _ _ Tryz.underlying3) (eqf_cons (by decide) (part_one ti3 rfl rfl) (part_one ti3 rfl rfl) (run_equalIn_int w _ 3 _ _ _ _ Tryz.underlying3) (eqf_nil)))
theorem eqv_105 (a0:Int) (a1:Int) (b0:Int) (b1:Int):EqOk Tryz.prog 105 [.int .i64 a0,.int .i64 a1] [.int .i64 b0,.int .i64 b1] ((a0 == b0) && ((a1 == b1) && true)):=⟨fun w=>eqi_105 9998 w a0 a1 b0 b1,by kernel_rfl⟩
theorem eqi_189 (d:Nat) (w:World) (a0:Int) (a1:Int) (b0:Int) (b1:Int):(Op.equalIn (d + 2) 189 (.agg #[.int .i64 a0,.int .i64 a1]) (.agg #[.int .i64 b0,.int .i64 b1])).run Tryz.prog w = .ok ((a0 == b0) && ((a1 == b1) && true)) w:=
 eq_struct (d:=d + 1) (fs:=[⟨ "Low",3,0,false,"","",0⟩,⟨ "High",3,1,false,"","",8⟩]) (by kernel_rfl) (by kernel_rfl) (by kernel_rfl) (eqf_cons (by decide) (part_one ti3 rfl rfl) (part_one ti3 rfl rfl) (run_equalIn_int w _ 3 _ _ _ _ Tryz.underlying3) (eqf_cons (by decide) (part_one ti3 rfl rfl) (part_one ti3 rfl rfl) (run_equalIn_int w _ 3 _ _ _ _ Tryz.underlying3) (eqf_nil)))
theorem eqv_189 (a0:Int) (a1:Int) (b0:Int) (b1:Int):EqOk Tryz.prog 189 [.int .i64 a0,.int .i64 a1] [.int .i64 b0,.int .i64 b1] ((a0 == b0) && ((a1 == b1) && true)):=⟨fun w=>eqi_189 9998 w a0 a1 b0 b1,by kernel_rfl⟩
theorem q694 (a:Int):TieF Tryz.prog 118 [NI a] (q527 a) (fun r=>NB r):=by
 refine TieF.i htab 9 [.tmp 2] Tryz.call118 Tryz.func118 rfl rfl rfl rfl fun w0 L=>?_
 refine TieS.o 9 rfl (.selAnd (v:=decide (a < 46080)) 3 5 (fun b=>⟨[(8,NB b)],[]⟩) rfl ?_ ?_ ?_)
 ·exact TieO.l 4 rfl (lf rfl rfl)
 ·exact TieO.l 4 rfl (lf rfl rfl)
 exact TieO.r 2 rfl (rt rfl)
theorem q584 (s:List Int) (v:Int):TieF Tryz.prog 205 [NL s,NI v] (q278 s v) (fun r=>NI r):=by
 refine TieF.i htab 19 [.tmp 4] Tryz.call205 Tryz.func205 rfl rfl rfl rfl fun w0 L=>?_
 refine TieS.s 12 rfl (.loop (fun p=>⟨[(0,NL s),(1,NI v),(7,NI (s.length:Int)),(8,NI p.1)],[]⟩) (fun b e σ'=>match b with | .inl t=>e = .exit 0 ∧ Sub ⟨[],[]⟩ σ' | .inr t=>e = .ret ∧ retT tab σ' [.tmp 4] = some (((fun r=>NI r):Int → T) t)) (.of rfl rfl) ?_ ?_)
 ·rintro ⟨i,s2⟩
  refine TieS.s 5 rfl (.cond rfl ?_ ?_)
  ·refine TieS.s 2 rfl (TieX.sub (σ':=⟨[(0,NL s),(1,NI v),(7,NI (s.length:Int)),(8,NI i)],[]⟩) (.of rfl rfl) (TieS.bind (Q₁:=fun f e σ'=>match f with | .next t=>e = .normal ∧ Sub ⟨[(0,NL s),(1,NI v),(7,NI (s.length:Int)),(8,NI i)],[]⟩ σ' | .brk t=>e = .exit 0 ∧ Sub ⟨[],[]⟩ σ' | .ret t=>e = .ret ∧ retT tab σ' [.tmp 4] = some (((fun r=>NI r):Int → T) t)) ?_ ?_))
   ·refine TieS.o 11 rfl (.index rfl rfl rfl rfl rfl rfl rfl rfl (fun _=>rfl) fun x hx=>.s 3 rfl (.cond rfl ?_ ?_))
    ·exact TieS.r 5 rfl ⟨rfl,rfl⟩
    ·exact TieS.l 2 rfl (lf rfl rfl)
   rintro (t | t | t) e σ' _ hq
   ·obtain ⟨rfl,hs⟩:=hq
    exact TieX.sub hs (TieS.l 4 rfl (lf rfl rfl))
   ·obtain ⟨rfl,hs⟩:=hq
    exact TieX.exitOut rfl ⟨(fun h=>by cases h),rfl,hs⟩
   ·obtain ⟨rfl,hs⟩:=hq
    exact TieX.ret ⟨(fun h=>by cases h),rfl,hs⟩
  ·exact TieS.exitOut rfl ⟨(fun h=>by cases h),rfl,.of rfl rfl⟩
 rintro (s3 | r2) e σ' _ hq
 ·obtain ⟨rfl,hs⟩:=hq
  refine TieX.exit rfl (TieX.sub hs ?_)
  exact TieS.r 4 rfl (rt rfl)
 ·obtain ⟨rfl,hs⟩:=hq
  exact TieX.ret ⟨.inl rfl,hs⟩
theorem q510 (s:List Int) (v:Int):TieF Tryz.prog 119 [NL s,NI v] (q188 s v) (fun r=>NB r):=by
 refine TieF.i htab 9 [.tmp 4] Tryz.call119 Tryz.func119 rfl rfl rfl rfl fun w0 L=>?_
 exact TieS.o 8 rfl (.k (q584 s v) rfl fun v2=>.r 3 rfl (rt rfl))
theorem q525 (e2:SEngine):TieF Tryz.prog 30 [q190 e2] (q350 e2) (fun r=>NB r):=by
 refine TieF.i htab 30 [.tmp 2] Tryz.call30 Tryz.func30 rfl rfl rfl rfl fun w0 L=>?_
 refine TieS.o 18 rfl (.selOr (v:=decide ((e2.Order.length:Int) > 8)) 3 10 (fun b=>⟨[NP 1,(3,NI (e2.Order.length:Int)),(13,NB b)],[(1,.box [NL e2.Order,NI e2.First])]⟩) rfl ?_ ?_ ?_)
 ·exact TieO.l 4 rfl (lf rfl rfl)
 ·exact TieO.l 4 rfl (lf rfl rfl)
 refine TieO.o 1 rfl (.bind 5 (fun b2=>⟨[NP 1,(3,NI (e2.Order.length:Int)),(19,NB b2)],[(1,.box [NL e2.Order,NI e2.First])]⟩) (TieO.split 14 rfl ?_ ?_) fun b2 _=>?_)
 ·exact TieO.l 6 rfl (lf rfl rfl)
 ·exact TieO.o 2 rfl (.k (q694 e2.First) rfl fun v=>.l 3 rfl (lf rfl rfl))
 refine TieO.s 1 rfl (.cond rfl ?_ ?_)
 ·exact TieS.r 4 rfl (rt rfl)
 ·refine TieS.s 7 rfl (.loop (fun t=>⟨[NP 1,(3,NI (e2.Order.length:Int)),(4,NI t)],[(1,.box [NL e2.Order,NI e2.First])]⟩) (fun b e σ'=>match b with | .inl t=>e = .exit 0 ∧ Sub ⟨[],[]⟩ σ' | .inr t=>e = .ret ∧ retT tab σ' [.tmp 2] = some (((fun r=>NB r):Bool → T) t)) (.of rfl rfl) ?_ ?_)
  ·intro i
   refine TieS.s 7 rfl (.cond rfl ?_ ?_)
   ·refine TieS.o 8 rfl (.k (q510 e2.Order i) rfl fun v2=>.s 2 rfl (.cond rfl ?_ ?_))
    ·exact TieS.r 4 rfl ⟨(fun h=>by cases h),rfl,rfl⟩
    ·exact TieS.l 7 rfl (lf rfl rfl)
   ·exact TieS.exitOut rfl ⟨(fun h=>by cases h),rfl,.of rfl rfl⟩
  rintro (i2 | r2) e σ' _ hq
  ·obtain ⟨rfl,hs⟩:=hq
   refine TieX.exit rfl (TieX.sub hs ?_)
   exact TieS.r 4 rfl (rt rfl)
  ·obtain ⟨rfl,hs⟩:=hq
   exact TieX.ret ⟨.inl rfl,hs⟩
def q624:Go.Shelf.Ren:=⟨fun | 264=>256 | n=>n,fun | 46=>199 | 53=>225 | n=>n,fun  | n=>n⟩
open Go.Shelf in
theorem mul64L256:Lays.n264 Tryz.prog q624:={
 mixed:=by kernel_rfl,
 f264:=Tryz.func256.trans (congrArg some (by kernel_rfl)),
 t46:=Tryz.underlying199,
 a46:=Tryz.isAgg199,
 z46:=Tryz.sizeOf199,
 v46:=Tryz.zeroValue199,
 t53:=Tryz.underlying225,
 a53:=Tryz.isAgg225,
 z53:=Tryz.sizeOf225,
 v53:=Tryz.zeroValue225 }
theorem q446 (x y:Int):TieF Tryz.prog 256 [.t (tK .u64 x),.t (tK .u64 y)] (q337 x y) (fun r=>.tup [.t (tK .u64 r.1),.t (tK .u64 r.2)]):=
 mul64_tie (ρ:=q624) mul64L256 Tryz.call256 x y
theorem q675 (x:Int) (y:Int):TieF Tryz.prog 216 [.t (tK .u64 x),.t (tK .u64 y)] (q478 x y) (fun r=>.tup [.t (tK .u64 r.1),.t (tK .u64 r.2)]):=by
 refine TieF.i htab 30 [.tmp 4,.tmp 5] Tryz.call216 Tryz.func216 rfl rfl rfl rfl fun w0 L=>?_
 exact TieS.s 6 rfl (.condR rfl (.o 5 rfl (.k (q446 x y) rfl fun r2=>.r 13 rfl (rt rfl))))
theorem q517 (x:List SKnock) (count:Int):TieF Tryz.prog 137 [NS q15 x,NI count] (q181 x count) (fun r=>NS q15 r):=by
 refine TieF.i htab 48 [.tmp 4] Tryz.call137 Tryz.func137 rfl rfl rfl rfl fun w0 L=>?_
 refine TieS.s 10 rfl (.bind (Q₁:=nrm fun t=>⟨[(0,NS q15 x),(1,NI count)],[]⟩) ?_ ?_)
 ·refine TieS.cond rfl ?_ ?_
  ·exact TieS.o 1 rfl .fail
  ·exact TieS.l 1 rfl (lf rfl rfl)
 rintro s e σ' _ ⟨rfl,hs⟩
 refine TieX.sub hs (TieS.o 7 rfl (.k (q675 (IntKind.u64.wrap (x.length:Int)) (IntKind.u64.wrap count)) rfl fun r2=>.o 12 rfl (.selOr (v:=decide (r2.2 > 9223372036854775807)) 3 23 (fun b=>⟨[(0,NS q15 x),(6,.t (tK .u64 r2.2)),(26,NB b)],[]⟩) rfl ?_ ?_ ?_)))
 ·exact TieO.l 4 rfl (lf rfl rfl)
 ·exact TieO.l 4 rfl (lf rfl rfl)
 refine TieO.s 1 rfl (.bind (Q₁:=nrm fun t=>⟨[(0,NS q15 x),(6,.t (tK .u64 r2.2))],[]⟩) ?_ ?_)
 ·refine TieS.cond rfl ?_ ?_
  ·exact TieS.o 1 rfl .fail
  ·exact TieS.l 1 rfl (lf rfl rfl)
 rintro s2 e σ' _ ⟨rfl,hs⟩
 refine TieX.sub hs (TieS.o 4 rfl (.makeO (enc:=q15) 2240 (⟨0,0,0⟩:SKnock) rfl rfl rfl rfl rfl rfl rfl rfl rfl rfl rfl rfl rfl fun l hl=>.o 6 rfl (.copyO (e2:=0) (l:=l) (r:=x) rfl rfl rfl rfl (fun _=>rfl) (fun _=>rfl) rfl rfl (.inl rfl) rfl (.s 4 rfl (.loop (fun t=>⟨[(7,.own 2240),(8,NI t.1)],[(2240,.rs 95 3 t.2 q15)]⟩) (fun b e σ'=>match b with | .inl t=>e = .exit 0 ∧ Sub ⟨[(7,.own 2240)],[(2240,.rs 95 3 t.2 q15)]⟩ σ' | .inr t=>False) (.of rfl rfl) ?_ ?_)))))
 ·intro s3
  refine TieS.s 8 rfl (.cond rfl ?_ ?_)
  ·refine TieS.s 2 rfl (.bind (Q₁:=nrm fun t=>⟨[(7,.own 2240),(8,NI t.1)],[(2240,.rs 95 3 t.2 q15)]⟩) ?_ ?_)
   ·refine TieX.pre fun u hu=>TieX.pre fun u2 hu2=>TieS.draws 8 (bm 10 0) (bm 10 255) ⟨[(7,.own 2240),(8,NI s3.1),(38,NI s3.1),(45,NI ((min (Int.toNat s3.1 - Int.toNat 0) (Int.toNat (s3.2.length:Int) - Int.toNat s3.1):Nat):Int))],[(2240,.rs 95 3 (copyVM s3.2 s3.1 (s3.2.length:Int) 0 s3.1) q15)]⟩ mixed (fun _ _ _ h=>by cases h.1) rfl rfl rfl rfl ?_ ?_
    ·refine TieA.ga 5 [0,1,2,4,5] (by kernel_rfl) rfl (.all [3,6] (by kernel_rfl) rfl (AllA.cons (σ₁:=⟨[(7,.own 2240),(8,NI s3.1),(38,NI s3.1),(41,.vw 2240 (Int.toNat s3.1) (Int.toNat (s3.2.length:Int) - Int.toNat s3.1) 3),(42,.own 2240),(43,NI s3.1)],[(2240,.rs 95 3 s3.2 q15)]⟩) _ rfl rfl ?_ ?_ ?_))
     ·refine TieO.withH hu (TieO.viewO rfl rfl rfl rfl rfl rfl rfl rfl rfl rfl rfl (TieO.ifG ?_))
      exact TieO.l 1 rfl (lf rfl rfl)
     ·exact TieA.one 6 rfl (by kernel_rfl) (TieO.withH hu2 (TieO.viewO rfl rfl rfl rfl rfl rfl rfl rfl rfl rfl rfl (TieO.ifG (TieO.l 1 rfl ⟨rfl,rfl⟩)))) (.one 7 rfl (by kernel_rfl) (TieO.copyV hu hu2 chk_le chk_le rfl rfl rfl rfl (fun _=>rfl) (fun _=>rfl) rfl rfl rfl rfl (TieO.l 1 rfl ⟨rfl,rfl⟩)) (.done (.of rfl rfl)))
     refine AllA.cons (σ₁:=⟨[(7,.own 2240),(8,NI s3.1),(38,NI s3.1),(39,.own 2240),(40,NI s3.1),(44,.vw 2240 (Int.toNat 0) (Int.toNat s3.1 - Int.toNat 0) 3)],[(2240,.rs 95 3 s3.2 q15)]⟩) _ rfl rfl ?_ ?_ ?_
     ·refine TieO.withH hu2 (TieO.viewO rfl rfl rfl rfl rfl rfl rfl rfl rfl rfl rfl (TieO.ifG ?_))
      exact TieO.l 1 rfl (lf rfl rfl)
     ·exact TieA.one 3 rfl (by kernel_rfl) (TieO.withH hu (TieO.viewO rfl rfl rfl rfl rfl rfl rfl rfl rfl rfl rfl (TieO.ifG (TieO.l 1 rfl ⟨rfl,rfl⟩)))) (.one 7 rfl (by kernel_rfl) (TieO.copyV hu hu2 chk_le chk_le rfl rfl rfl rfl (fun _=>rfl) (fun _=>rfl) rfl rfl rfl rfl (TieO.l 1 rfl ⟨rfl,rfl⟩)) (.done (.of rfl rfl)))
     exact AllA.nil
    exact TieO.l 3 rfl (lf rfl rfl)
   rintro s4 e σ' _ ⟨rfl,hs⟩
   exact TieX.sub hs (TieS.l 1 rfl (lf rfl rfl))
  ·exact TieS.exitOut rfl ⟨(fun h=>by cases h),rfl,.of rfl rfl⟩
 rintro (s5 | r) e σ' _ hq
 ·obtain ⟨rfl,hs⟩:=hq
  refine TieX.exit rfl (TieX.sub hs ?_)
  exact TieS.r 5 rfl (rt rfl)
 ·exact hq.elim
theorem q768 (n2:Int):TieF Tryz.prog 46 [NI n2] (q545 n2) (fun r=>.tup [NS q15 r.1,NI r.2]):=by
 refine TieF.i htab 14 [.tmp 2,.tmp 3] Tryz.call46 Tryz.func46 rfl rfl rfl rfl fun w0 L=>?_
 refine TieS.o 11 rfl (.selOr (v:=decide (n2 > 8)) 3 6 (fun b=>⟨[(0,NI n2),(9,NB b)],[]⟩) rfl ?_ ?_ ?_)
 ·exact TieO.l 4 rfl (lf rfl rfl)
 ·exact TieO.l 4 rfl (lf rfl rfl)
 refine TieO.s 1 rfl (.cond rfl ?_ ?_)
 ·exact TieS.r 5 rfl (rt rfl)
 ·exact TieS.o 6 rfl (.frz 11 rfl (.k (q517 ([(⟨0,100,0⟩:SKnock)]:List SKnock) n2) rfl fun v=>.r 3 rfl (rt rfl)))
theorem q764:TieF Tryz.prog 47 [] (q746) (fun r=>q411 r):=by
 refine TieF.i htab 2 [.cell 0 35] Tryz.call47 Tryz.func47 rfl rfl rfl rfl fun w0 L=>?_
 exact TieS.r 9 rfl (rt rfl)
theorem q715:TieF Tryz.prog 48 [] (q581) (fun r=>q96 r):=by
 refine TieF.i htab 3 [.cell 0 41] Tryz.call48 Tryz.func48 rfl rfl rfl rfl fun w0 L=>?_
 exact TieS.o 6 rfl (.makeO (enc:=q18) 2008 (⟨0,0⟩:SCell) rfl rfl rfl rfl rfl rfl rfl rfl rfl rfl rfl rfl rfl fun l hl=>.r 3 rfl (rt rfl))
theorem q726 (e2:SEngine):TieF Tryz.prog 13 [q190 e2] (q462 e2) (fun r=>.tup [q77 r.1,NI r.2]):=by
 refine TieF.i htab 25 [.cell 2 45,.tmp 3] Tryz.call13 Tryz.func13 rfl rfl rfl rfl fun w0 L=>?_
 refine TieS.o 10 rfl (.k (q525 e2) rfl fun v=>.s 2 rfl (.cond rfl ?_ ?_))
 ·exact TieS.r 6 rfl (rt rfl)
 ·refine TieS.o 6 rfl (.k (q768 (e2.Order.length:Int)) rfl fun r2=>.s 12 rfl (.cond rfl ?_ ?_))
  ·exact TieS.r 6 rfl (rt rfl)
  ·exact TieS.o 3 rfl (.k (q764) rfl fun v2=>.o 1 rfl (.k (q715) rfl fun v3=>.r 5 rfl (rt rfl)))
theorem q548 (p2:SPedal):TieF Tryz.prog 64 [q411 p2] (q394 p2) (fun r=>NB r):=by
 refine TieF.i htab 33 [.tmp 2] Tryz.call64 Tryz.func64 rfl rfl rfl rfl fun w0 L=>?_
 refine TieS.s 15 rfl (.bind (Q₁:=nrm fun t=>⟨[NP 1,(3,NI t)],[(1,.box [NI p2.Value,NI p2.Differ,NB p2.Fault])]⟩) ?_ ?_)
 ·refine TieS.cond rfl ?_ ?_
  ·exact TieS.l 3 rfl (lf rfl rfl)
  ·exact TieS.l 1 rfl (lf rfl rfl)
 rintro most e σ' _ ⟨rfl,hs⟩
 refine TieX.sub hs (TieS.o 6 rfl (.selAnd (v:=decide (p2.Value ≤ most)) 5 9 (fun b=>⟨[NP 1,(14,NB b)],[(1,.box [NI p2.Value,NI p2.Differ,NB p2.Fault])]⟩) rfl ?_ ?_ ?_))
 ·exact TieO.l 6 rfl (lf rfl rfl)
 ·exact TieO.l 6 rfl (lf rfl rfl)
 refine TieO.o 1 rfl (.selAnd (v:=decide (p2.Differ ≥ 0)) 4 15 (fun b=>⟨[NP 1,(19,NB b)],[(1,.box [NI p2.Value,NI p2.Differ,NB p2.Fault])]⟩) rfl ?_ ?_ ?_)
 ·exact TieO.l 5 rfl (lf rfl rfl)
 ·exact TieO.l 5 rfl (lf rfl rfl)
 refine TieO.o 1 rfl (.selAnd (v:=decide (p2.Differ ≤ 3)) 4 20 (fun b=>⟨[NP 1,(24,NB b)],[(1,.box [NI p2.Value,NI p2.Differ,NB p2.Fault])]⟩) rfl ?_ ?_ ?_)
 ·exact TieO.l 5 rfl (lf rfl rfl)
 ·exact TieO.l 5 rfl (lf rfl rfl)
 refine TieO.o 1 rfl (.selAnd (v:=(p2.Fault == (p2.Differ == 3))) 7 25 (fun b=>⟨[(32,NB b)],[]⟩) rfl ?_ ?_ ?_)
 ·exact TieO.l 8 rfl (lf rfl rfl)
 ·exact TieO.l 8 rfl (lf rfl rfl)
 exact TieO.r 2 rfl (rt rfl)
theorem q130 (x:Int) (low:Int) (high:Int):TieF Tryz.prog 132 [NI x,NI low,NI high] (q80 x low high) (fun r=>NB r):=by
 refine TieF.i htab 15 [.tmp 6] Tryz.call132 Tryz.func132 rfl rfl rfl rfl fun w0 L=>?_
 refine TieS.o 10 rfl (.selAnd (v:=decide (x ≤ high)) 4 10 (fun b=>⟨[(14,NB b)],[]⟩) rfl ?_ ?_ ?_)
 ·exact TieO.l 5 rfl (lf rfl rfl)
 ·exact TieO.l 5 rfl (lf rfl rfl)
 exact TieO.r 2 rfl (rt rfl)
theorem q476 (s:List SCell) (n2:Nat) (cs:List (List Tree)) (f2:SCell → Option Bool) (h2:∀ x0,TieF Tryz.prog n2 ([A_SCell x0] ++ cs.map T.el) (f2 x0) (fun r=>NB r)):TieF Tryz.prog 223 [NS q18 s,.fz n2 cs] (q390 s f2) (fun r=>NI r):=by
 refine TieF.i htab 19 [.tmp 4] Tryz.call223 Tryz.func223 rfl rfl rfl rfl fun w0 L=>?_
 refine TieS.s 12 rfl (.loop (fun p=>⟨[(0,NS q18 s),(1,.fz n2 cs),(7,NI (s.length:Int)),(8,NI p.1)],[]⟩) (fun b e σ'=>match b with | .inl t=>e = .exit 0 ∧ Sub ⟨[],[]⟩ σ' | .inr t=>e = .ret ∧ retT tab σ' [.tmp 4] = some (((fun r=>NI r):Int → T) t)) (.of rfl rfl) ?_ ?_)
 ·rintro ⟨i,s2⟩
  refine TieS.s 5 rfl (.cond rfl ?_ ?_)
  ·refine TieS.s 2 rfl (TieX.sub (σ':=⟨[(0,NS q18 s),(1,.fz n2 cs),(7,NI (s.length:Int)),(8,NI i)],[]⟩) (.of rfl rfl) (TieS.bind (Q₁:=fun f e σ'=>match f with | .next t=>e = .normal ∧ Sub ⟨[(0,NS q18 s),(1,.fz n2 cs),(7,NI (s.length:Int)),(8,NI i)],[]⟩ σ' | .brk t=>e = .exit 0 ∧ Sub ⟨[],[]⟩ σ' | .ret t=>e = .ret ∧ retT tab σ' [.tmp 4] = some (((fun r=>NI r):Int → T) t)) ?_ ?_))
   ·refine TieS.o 11 rfl (.index rfl rfl rfl rfl rfl rfl rfl rfl (fun _=>rfl) fun x hx=>.o 1 rfl (.k (h2 x) rfl fun v=>.s 1 rfl (.cond rfl ?_ ?_)))
    ·exact TieS.r 5 rfl ⟨rfl,rfl⟩
    ·exact TieS.l 2 rfl (lf rfl rfl)
   rintro (t | t | t) e σ' _ hq
   ·obtain ⟨rfl,hs⟩:=hq
    exact TieX.sub hs (TieS.l 4 rfl (lf rfl rfl))
   ·obtain ⟨rfl,hs⟩:=hq
    exact TieX.exitOut rfl ⟨(fun h=>by cases h),rfl,hs⟩
   ·obtain ⟨rfl,hs⟩:=hq
    exact TieX.ret ⟨(fun h=>by cases h),rfl,hs⟩
  ·exact TieS.exitOut rfl ⟨(fun h=>by cases h),rfl,.of rfl rfl⟩
 rintro (s3 | r2) e σ' _ hq
 ·obtain ⟨rfl,hs⟩:=hq
  refine TieX.exit rfl (TieX.sub hs ?_)
  exact TieS.r 4 rfl (rt rfl)
 ·obtain ⟨rfl,hs⟩:=hq
  exact TieX.ret ⟨.inl rfl,hs⟩
theorem q442 (s:List SCell) (n2:Nat) (cs:List (List Tree)) (f2:SCell → Option Bool) (h2:∀ x0,TieF Tryz.prog n2 ([A_SCell x0] ++ cs.map T.el) (f2 x0) (fun r=>NB r)):TieF Tryz.prog 157 [NS q18 s,.fz n2 cs] (q177 s f2) (fun r=>NB r):=by
 refine TieF.i htab 9 [.tmp 4] Tryz.call157 Tryz.func157 rfl rfl rfl rfl fun w0 L=>?_
 exact TieS.o 8 rfl (.k (q476 s n2 cs f2 h2) rfl fun v=>.r 3 rfl (rt rfl))
theorem q632 (c:SCell):TieF Tryz.prog 158 [A_SCell c] (q120 c) (fun r=>NB r):=by
 refine TieF.i htab 13 [.tmp 2] Tryz.call158 Tryz.func158 rfl rfl rfl rfl fun w0 L=>?_
 refine TieS.o 9 rfl (.k (q130 c.Value (-100) 100) rfl fun v=>.o 2 rfl (.bind 5 (fun b2=>⟨[(12,NB b2)],[]⟩) (TieO.split 7 rfl ?_ ?_) fun b2 _=>?_))
 ·exact TieO.l 6 rfl (lf rfl rfl)
 ·exact TieO.o 2 rfl (.k (q130 c.Count 0 1000) rfl fun v2=>.l 3 rfl (lf rfl rfl))
 exact TieO.r 2 rfl (rt rfl)
abbrev x65_0 (p2:SProbe):List T:=[NB p2.Active,NB p2.Rich,NI p2.Factor,NI p2.Wait,NS q18 p2.Cells]
theorem q378 (p2:SProbe):TieF Tryz.prog 65 [q96 p2] (q217 p2) (fun r=>NB r):=by
 refine TieF.i htab 40 [.tmp 2] Tryz.call65 Tryz.func65 rfl rfl rfl rfl fun w0 L=>?_
 refine TieS.o 10 rfl (.k (q130 p2.Factor 750 1250) rfl fun v=>.o 2 rfl (.bind 5 (fun b2=>⟨[NP 1,(12,NB b2)],[(1,.box (x65_0 p2))]⟩) (TieO.split 7 rfl ?_ ?_) fun b2 _=>?_))
 ·exact TieO.l 6 rfl (lf rfl rfl)
 ·exact TieO.o 2 rfl (.k (q130 p2.Wait 0 1000) rfl fun v2=>.l 3 rfl (lf rfl rfl))
 refine TieO.o 1 rfl (.selOr (v:=((p2.Cells.length:Int) != 9)) 5 13 (fun b=>⟨[NP 1,(18,NB b)],[(1,.box (x65_0 p2))]⟩) rfl ?_ ?_ ?_)
 ·exact TieO.l 6 rfl (lf rfl rfl)
 ·exact TieO.l 6 rfl (lf rfl rfl)
 refine TieO.s 1 rfl (.cond rfl ?_ ?_)
 ·exact TieS.r 4 rfl (rt rfl)
 ·refine TieS.o 8 rfl (.bind 13 (fun b3=>⟨[NP 1,(35,NB b3)],[(1,.box (x65_0 p2))]⟩) (TieO.split 22 rfl ?_ ?_) fun b3 _=>?_)
  ·refine TieO.o 4 rfl (.selOr (v:=(p2.Wait != 0)) 4 26 (fun b=>⟨[NP 1,(22,NB true),(30,NB b)],[(1,.box (x65_0 p2))]⟩) rfl ?_ ?_ ?_)
   ·exact TieO.l 5 rfl (lf rfl rfl)
   ·exact TieO.l 5 rfl (lf rfl rfl)
   refine TieO.o 1 rfl (.selOr (v:=p2.Rich) 3 31 (fun b=>⟨[NP 1,(22,NB true),(34,NB b)],[(1,.box (x65_0 p2))]⟩) rfl ?_ ?_ ?_)
   ·exact TieO.l 4 rfl (lf rfl rfl)
   ·exact TieO.l 4 rfl (lf rfl rfl)
   exact TieO.l 2 rfl (lf rfl rfl)
  ·exact TieO.l 14 rfl (lf rfl rfl)
  refine TieO.s 1 rfl (.cond rfl ?_ ?_)
  ·exact TieS.r 4 rfl (rt rfl)
  ·exact TieS.o 5 rfl (.k (q442 p2.Cells 158 [] q120 q632) rfl fun v3=>.r 3 rfl (rt rfl))
theorem q474 (s:List SKnock) (n2:Nat) (cs:List (List Tree)) (f2:SKnock → Option Bool) (h2:∀ x0,TieF Tryz.prog n2 ([q258 x0] ++ cs.map T.el) (f2 x0) (fun r=>NB r)):TieF Tryz.prog 159 [NS q15 s,.fz n2 cs] (q369 s f2) (fun r=>NI r):=by
 refine TieF.i htab 19 [.tmp 4] Tryz.call159 Tryz.func159 rfl rfl rfl rfl fun w0 L=>?_
 refine TieS.s 12 rfl (.loop (fun p=>⟨[(0,NS q15 s),(1,.fz n2 cs),(7,NI (s.length:Int)),(8,NI p.1)],[]⟩) (fun b e σ'=>match b with | .inl t=>e = .exit 0 ∧ Sub ⟨[],[]⟩ σ' | .inr t=>e = .ret ∧ retT tab σ' [.tmp 4] = some (((fun r=>NI r):Int → T) t)) (.of rfl rfl) ?_ ?_)
 ·rintro ⟨i,s2⟩
  refine TieS.s 5 rfl (.cond rfl ?_ ?_)
  ·refine TieS.s 2 rfl (TieX.sub (σ':=⟨[(0,NS q15 s),(1,.fz n2 cs),(7,NI (s.length:Int)),(8,NI i)],[]⟩) (.of rfl rfl) (TieS.bind (Q₁:=fun f e σ'=>match f with | .next t=>e = .normal ∧ Sub ⟨[(0,NS q15 s),(1,.fz n2 cs),(7,NI (s.length:Int)),(8,NI i)],[]⟩ σ' | .brk t=>e = .exit 0 ∧ Sub ⟨[],[]⟩ σ' | .ret t=>e = .ret ∧ retT tab σ' [.tmp 4] = some (((fun r=>NI r):Int → T) t)) ?_ ?_))
   ·refine TieS.o 11 rfl (.index rfl rfl rfl rfl rfl rfl rfl rfl (fun _=>rfl) fun x hx=>.o 1 rfl (.k (h2 x) rfl fun v=>.s 1 rfl (.cond rfl ?_ ?_)))
    ·exact TieS.r 5 rfl ⟨rfl,rfl⟩
    ·exact TieS.l 2 rfl (lf rfl rfl)
   rintro (t | t | t) e σ' _ hq
   ·obtain ⟨rfl,hs⟩:=hq
    exact TieX.sub hs (TieS.l 4 rfl (lf rfl rfl))
   ·obtain ⟨rfl,hs⟩:=hq
    exact TieX.exitOut rfl ⟨(fun h=>by cases h),rfl,hs⟩
   ·obtain ⟨rfl,hs⟩:=hq
    exact TieX.ret ⟨(fun h=>by cases h),rfl,hs⟩
  ·exact TieS.exitOut rfl ⟨(fun h=>by cases h),rfl,.of rfl rfl⟩
 rintro (s3 | r2) e σ' _ hq
 ·obtain ⟨rfl,hs⟩:=hq
  refine TieX.exit rfl (TieX.sub hs ?_)
  exact TieS.r 4 rfl (rt rfl)
 ·obtain ⟨rfl,hs⟩:=hq
  exact TieX.ret ⟨.inl rfl,hs⟩
theorem q253 (s:List SKnock) (n2:Nat) (cs:List (List Tree)) (f2:SKnock → Option Bool) (h2:∀ x0,TieF Tryz.prog n2 ([q258 x0] ++ cs.map T.el) (f2 x0) (fun r=>NB r)):TieF Tryz.prog 66 [NS q15 s,.fz n2 cs] (q62 s f2) (fun r=>NB r):=by
 refine TieF.i htab 9 [.tmp 4] Tryz.call66 Tryz.func66 rfl rfl rfl rfl fun w0 L=>?_
 exact TieS.o 8 rfl (.k (q474 s n2 cs f2 h2) rfl fun v=>.r 3 rfl (rt rfl))
theorem q444 (n2:Int):TieF Tryz.prog 124 [NI n2] (q339 n2) (fun r=>NB r):=by
 refine TieF.i htab 9 [.tmp 2] Tryz.call124 Tryz.func124 rfl rfl rfl rfl fun w0 L=>?_
 refine TieS.o 9 rfl (.selAnd (v:=decide (n2 ≤ 4095)) 3 5 (fun b=>⟨[(8,NB b)],[]⟩) rfl ?_ ?_ ?_)
 ·exact TieO.l 4 rfl (lf rfl rfl)
 ·exact TieO.l 4 rfl (lf rfl rfl)
 exact TieO.r 2 rfl (rt rfl)
theorem q550 (k:SKnock):TieF Tryz.prog 68 [q258 k] (q388 k) (fun r=>NB r):=by
 refine TieF.i htab 26 [.tmp 2] Tryz.call68 Tryz.func68 rfl rfl rfl rfl fun w0 L=>?_
 refine TieS.o 11 rfl (.selAnd (v:=decide (k.Retard ≤ 960)) 4 6 (fun b=>⟨[NP 1,(10,NB b)],[(1,.box [NI k.Retard,NI k.Noise,NI k.Quiet])]⟩) rfl ?_ ?_ ?_)
 ·exact TieO.l 5 rfl (lf rfl rfl)
 ·exact TieO.l 5 rfl (lf rfl rfl)
 refine TieO.o 1 rfl (.bind 4 (fun b2=>⟨[NP 1,(15,NB b2)],[(1,.box [NI k.Retard,NI k.Noise,NI k.Quiet])]⟩) (TieO.split 11 rfl ?_ ?_) fun b2 _=>?_)
 ·exact TieO.o 2 rfl (.k (q444 k.Noise) rfl fun v=>.l 2 rfl (lf rfl rfl))
 ·exact TieO.l 5 rfl (lf rfl rfl)
 refine TieO.o 1 rfl (.selAnd (v:=decide (k.Quiet ≥ 0)) 4 16 (fun b=>⟨[NP 1,(20,NB b)],[(1,.box [NI k.Retard,NI k.Noise,NI k.Quiet])]⟩) rfl ?_ ?_ ?_)
 ·exact TieO.l 5 rfl (lf rfl rfl)
 ·exact TieO.l 5 rfl (lf rfl rfl)
 refine TieO.o 1 rfl (.selAnd (v:=decide (k.Quiet < 100)) 4 21 (fun b=>⟨[(25,NB b)],[]⟩) rfl ?_ ?_ ?_)
 ·exact TieO.l 5 rfl (lf rfl rfl)
 ·exact TieO.l 5 rfl (lf rfl rfl)
 exact TieO.r 2 rfl (rt rfl)
theorem q647 (k:SKnock):TieF Tryz.prog 67 [q258 k] (q197 k) (fun r=>NB r):=by
 refine TieF.i htab 6 [.tmp 2] Tryz.call67 Tryz.func67 rfl rfl rfl rfl fun w0 L=>?_
 exact TieS.o 8 rfl (.k (q550 k) rfl fun v=>.r 3 rfl (rt rfl))
theorem q51 (x:Int) (low:Int) (high:Int):TieF Tryz.prog 69 [NI x,NI low,NI high] (q48 x low high) (fun r=>NB r):=by
 refine TieF.i htab 15 [.tmp 6] Tryz.call69 Tryz.func69 rfl rfl rfl rfl fun w0 L=>?_
 refine TieS.o 10 rfl (.selAnd (v:=decide (x ≤ high)) 4 10 (fun b=>⟨[(14,NB b)],[]⟩) rfl ?_ ?_ ?_)
 ·exact TieO.l 5 rfl (lf rfl rfl)
 ·exact TieO.l 5 rfl (lf rfl rfl)
 exact TieO.r 2 rfl (rt rfl)
theorem q412 (e2:SEngine) (c:SControls):TieF Tryz.prog 18 [q190 e2,q77 c] (q303 e2 c) (fun r=>NB r):=by
 refine TieF.i htab 53 [.tmp 4] Tryz.call18 Tryz.func18 rfl rfl rfl rfl fun w0 L=>?_
 refine TieS.o 10 rfl (.k (q525 e2) rfl fun v=>.o 2 rfl (.bind 5 (fun b2=>⟨[NP 2,NP 3,(13,NB b2)],[(2,.box [NL e2.Order,NI e2.First]),(3,.box (q11 c))]⟩) (TieO.split 8 rfl ?_ ?_) fun b2 _=>?_))
 ·exact TieO.l 6 rfl (lf rfl rfl)
 ·exact TieO.o 2 rfl (.k (q548 c.Pedal) rfl fun v2=>.l 3 rfl (lf rfl rfl))
 refine TieO.o 1 rfl (.bind 5 (fun b3=>⟨[NP 2,NP 3,(19,NB b3)],[(2,.box [NL e2.Order,NI e2.First]),(3,.box (q11 c))]⟩) (TieO.split 14 rfl ?_ ?_) fun b3 _=>?_)
 ·exact TieO.l 6 rfl (lf rfl rfl)
 ·exact TieO.o 2 rfl (.k (q378 c.Probe) rfl fun v3=>.l 3 rfl (lf rfl rfl))
 refine TieO.o 1 rfl (.selOr (v:=((c.Knock.length:Int) != (e2.Order.length:Int))) 8 20 (fun b=>⟨[NP 3,(28,NB b)],[(3,.box (q11 c))]⟩) rfl ?_ ?_ ?_)
 ·exact TieO.l 9 rfl (lf rfl rfl)
 ·exact TieO.l 9 rfl (lf rfl rfl)
 refine TieO.s 1 rfl (.cond rfl ?_ ?_)
 ·exact TieS.r 4 rfl (rt rfl)
 ·refine TieS.o 6 rfl (.k (q253 c.Knock 67 [] q197 q647) rfl fun v4=>.s 1 rfl (.cond rfl ?_ ?_))
  ·exact TieS.r 4 rfl (rt rfl)
  ·refine TieS.o 6 rfl (.k (q51 c.Idle.Sum (-4398046511104) 4398046511104) rfl fun v5=>.o 1 rfl (.bind 4 (fun b4=>⟨[NP 3,(40,NB b4)],[(3,.box (q11 c))]⟩) (TieO.split 36 rfl ?_ ?_) fun b4 _=>?_))
   ·exact TieO.o 2 rfl (.k (q51 c.Film 0 1073741824) rfl fun v6=>.l 2 rfl (lf rfl rfl))
   ·exact TieO.l 5 rfl (lf rfl rfl)
   refine TieO.o 1 rfl (.bind 5 (fun b5=>⟨[NP 3,(46,NB b5)],[(3,.box (q11 c))]⟩) (TieO.split 41 rfl ?_ ?_) fun b5 _=>?_)
   ·exact TieO.o 3 rfl (.k (q51 c.Grant.Torque (-5000) 10000) rfl fun v7=>.l 2 rfl (lf rfl rfl))
   ·exact TieO.l 6 rfl (lf rfl rfl)
   refine TieO.o 1 rfl (.bind 5 (fun b6=>⟨[(52,NB b6)],[]⟩) (TieO.split 47 rfl ?_ ?_) fun b6 _=>?_)
   ·exact TieO.o 3 rfl (.k (q51 c.Grant.Source (-1) 15) rfl fun v8=>.l 2 rfl (lf rfl rfl))
   ·exact TieO.l 6 rfl (lf rfl rfl)
   exact TieO.r 2 rfl (rt rfl)
theorem q578:TieF Tryz.prog 10 [] (q221) (fun r=>NB r):=by
 refine TieF.i htab 30 [.tmp 0] Tryz.call10 Tryz.func10 rfl rfl rfl rfl fun w0 L=>?_
 refine TieS.o 14 rfl (.frz 4 rfl (.k (q726 (⟨([1]:List Int),0⟩:SEngine)) rfl fun r2=>.o 12 rfl (.bind 4 (fun b2=>⟨[NP 1,NP 2,(17,NB b2)],[(1,.box [NL ([1]:List Int),NI 0]),(2,.box (q11 r2.1))]⟩) (TieO.split 13 rfl ?_ ?_) fun b2 _=>?_)))
 ·exact TieO.o 2 rfl (.k (q412 (⟨([1]:List Int),0⟩:SEngine) (u11_5 (u11_3 (u11_1 (u11_0 r2.1 (⟨r2.1.Pedal.Value,r2.1.Pedal.Differ,r2.1.Pedal.Fault⟩:SPedal)) (⟨r2.1.Idle.Sum⟩:SIntegral)) (⟨r2.1.Probe.Active,r2.1.Probe.Rich,r2.1.Probe.Factor,r2.1.Probe.Wait,r2.1.Probe.Cells⟩:SProbe)) (⟨r2.1.Grant.Torque,r2.1.Grant.Source⟩:SGrant))) rfl fun v=>.l 2 rfl (lf rfl rfl))
 ·exact TieO.l 5 rfl (lf rfl rfl)
 refine TieO.o 1 rfl (.bind 5 (fun b3=>⟨[NP 2,(23,NB b3)],[(2,.box (q11 r2.1))]⟩) (TieO.split 18 rfl ?_ ?_) fun b3 _=>?_)
 ·exact TieO.o 2 rfl (.k (q412 (⟨([1]:List Int),0⟩:SEngine) (⟨(⟨0,0,false⟩:SPedal),(⟨0⟩:SIntegral),([]:List SKnock),(⟨false,false,0,0,([]:List SCell)⟩:SProbe),0,(⟨0,0⟩:SGrant)⟩:SControls)) rfl fun v2=>.l 3 rfl (lf rfl rfl))
 ·exact TieO.l 6 rfl (lf rfl rfl)
 refine TieO.o 1 rfl (.selAnd (v:=(r2.1.Grant.Source == (-1))) 5 24 (fun b=>⟨[(29,NB b)],[]⟩) rfl ?_ ?_ ?_)
 ·exact TieO.l 6 rfl (lf rfl rfl)
 ·exact TieO.l 6 rfl (lf rfl rfl)
 exact TieO.r 2 rfl (rt rfl)
theorem q491 (s:List SMap) (n2:Nat) (cs:List (List Tree)) (f2:SMap → Option Bool) (h2:∀ x0,TieF Tryz.prog n2 ([A_SMap x0] ++ cs.map T.el) (f2 x0) (fun r=>NB r)):TieF Tryz.prog 134 [NS q114 s,.fz n2 cs] (q420 s f2) (fun r=>NI r):=by
 refine TieF.i htab 19 [.tmp 4] Tryz.call134 Tryz.func134 rfl rfl rfl rfl fun w0 L=>?_
 refine TieS.s 12 rfl (.loop (fun p=>⟨[(0,NS q114 s),(1,.fz n2 cs),(7,NI (s.length:Int)),(8,NI p.1)],[]⟩) (fun b e σ'=>match b with | .inl t=>e = .exit 0 ∧ Sub ⟨[],[]⟩ σ' | .inr t=>e = .ret ∧ retT tab σ' [.tmp 4] = some (((fun r=>NI r):Int → T) t)) (.of rfl rfl) ?_ ?_)
 ·rintro ⟨i,s2⟩
  refine TieS.s 5 rfl (.cond rfl ?_ ?_)
  ·refine TieS.s 2 rfl (TieX.sub (σ':=⟨[(0,NS q114 s),(1,.fz n2 cs),(7,NI (s.length:Int)),(8,NI i)],[]⟩) (.of rfl rfl) (TieS.bind (Q₁:=fun f e σ'=>match f with | .next t=>e = .normal ∧ Sub ⟨[(0,NS q114 s),(1,.fz n2 cs),(7,NI (s.length:Int)),(8,NI i)],[]⟩ σ' | .brk t=>e = .exit 0 ∧ Sub ⟨[],[]⟩ σ' | .ret t=>e = .ret ∧ retT tab σ' [.tmp 4] = some (((fun r=>NI r):Int → T) t)) ?_ ?_))
   ·refine TieS.o 11 rfl (.index rfl rfl rfl rfl rfl rfl rfl rfl (fun _=>rfl) fun x hx=>.o 1 rfl (.k (h2 x) rfl fun v=>.s 1 rfl (.cond rfl ?_ ?_)))
    ·exact TieS.r 5 rfl ⟨rfl,rfl⟩
    ·exact TieS.l 2 rfl (lf rfl rfl)
   rintro (t | t | t) e σ' _ hq
   ·obtain ⟨rfl,hs⟩:=hq
    exact TieX.sub hs (TieS.l 4 rfl (lf rfl rfl))
   ·obtain ⟨rfl,hs⟩:=hq
    exact TieX.exitOut rfl ⟨(fun h=>by cases h),rfl,hs⟩
   ·obtain ⟨rfl,hs⟩:=hq
    exact TieX.ret ⟨(fun h=>by cases h),rfl,hs⟩
  ·exact TieS.exitOut rfl ⟨(fun h=>by cases h),rfl,.of rfl rfl⟩
 rintro (s3 | r2) e σ' _ hq
 ·obtain ⟨rfl,hs⟩:=hq
  refine TieX.exit rfl (TieX.sub hs ?_)
  exact TieS.r 4 rfl (rt rfl)
 ·obtain ⟨rfl,hs⟩:=hq
  exact TieX.ret ⟨.inl rfl,hs⟩
theorem q449 (s:List SMap) (n2:Nat) (cs:List (List Tree)) (f2:SMap → Option Bool) (h2:∀ x0,TieF Tryz.prog n2 ([A_SMap x0] ++ cs.map T.el) (f2 x0) (fun r=>NB r)):TieF Tryz.prog 40 [NS q114 s,.fz n2 cs] (q202 s f2) (fun r=>NB r):=by
 refine TieF.i htab 9 [.tmp 4] Tryz.call40 Tryz.func40 rfl rfl rfl rfl fun w0 L=>?_
 exact TieS.o 8 rfl (.k (q491 s n2 cs f2 h2) rfl fun v=>.r 3 rfl (rt rfl))
theorem q484 (s:List (List Int)) (n2:Nat) (cs:List (List Tree)) (f2:(List Int) → Option Bool) (h2:∀ x0,TieF Tryz.prog n2 ([NL x0] ++ cs.map T.el) (f2 x0) (fun r=>NB r)):TieF Tryz.prog 135 [NS (Pv.encS Pv.encI) s,.fz n2 cs] (q387 s f2) (fun r=>NI r):=by
 refine TieF.i htab 19 [.tmp 4] Tryz.call135 Tryz.func135 rfl rfl rfl rfl fun w0 L=>?_
 refine TieS.s 12 rfl (.loop (fun p=>⟨[(0,NS (Pv.encS Pv.encI) s),(1,.fz n2 cs),(7,NI (s.length:Int)),(8,NI p.1)],[]⟩) (fun b e σ'=>match b with | .inl t=>e = .exit 0 ∧ Sub ⟨[],[]⟩ σ' | .inr t=>e = .ret ∧ retT tab σ' [.tmp 4] = some (((fun r=>NI r):Int → T) t)) (.of rfl rfl) ?_ ?_)
 ·rintro ⟨i,s2⟩
  refine TieS.s 5 rfl (.cond rfl ?_ ?_)
  ·refine TieS.s 2 rfl (TieX.sub (σ':=⟨[(0,NS (Pv.encS Pv.encI) s),(1,.fz n2 cs),(7,NI (s.length:Int)),(8,NI i)],[]⟩) (.of rfl rfl) (TieS.bind (Q₁:=fun f e σ'=>match f with | .next t=>e = .normal ∧ Sub ⟨[(0,NS (Pv.encS Pv.encI) s),(1,.fz n2 cs),(7,NI (s.length:Int)),(8,NI i)],[]⟩ σ' | .brk t=>e = .exit 0 ∧ Sub ⟨[],[]⟩ σ' | .ret t=>e = .ret ∧ retT tab σ' [.tmp 4] = some (((fun r=>NI r):Int → T) t)) ?_ ?_))
   ·refine TieS.o 11 rfl (.index rfl rfl rfl rfl rfl rfl rfl rfl (fun _=>rfl) fun x hx=>.o 1 rfl (.k (h2 x) rfl fun v=>.s 1 rfl (.cond rfl ?_ ?_)))
    ·exact TieS.r 5 rfl ⟨rfl,rfl⟩
    ·exact TieS.l 2 rfl (lf rfl rfl)
   rintro (t | t | t) e σ' _ hq
   ·obtain ⟨rfl,hs⟩:=hq
    exact TieX.sub hs (TieS.l 4 rfl (lf rfl rfl))
   ·obtain ⟨rfl,hs⟩:=hq
    exact TieX.exitOut rfl ⟨(fun h=>by cases h),rfl,hs⟩
   ·obtain ⟨rfl,hs⟩:=hq
    exact TieX.ret ⟨(fun h=>by cases h),rfl,hs⟩
  ·exact TieS.exitOut rfl ⟨(fun h=>by cases h),rfl,.of rfl rfl⟩
 rintro (s3 | r2) e σ' _ hq
 ·obtain ⟨rfl,hs⟩:=hq
  refine TieX.exit rfl (TieX.sub hs ?_)
  exact TieS.r 4 rfl (rt rfl)
 ·obtain ⟨rfl,hs⟩:=hq
  exact TieX.ret ⟨.inl rfl,hs⟩
theorem q125 (s:List (List Int)) (n2:Nat) (cs:List (List Tree)) (f2:(List Int) → Option Bool) (h2:∀ x0,TieF Tryz.prog n2 ([NL x0] ++ cs.map T.el) (f2 x0) (fun r=>NB r)):TieF Tryz.prog 42 [NS (Pv.encS Pv.encI) s,.fz n2 cs] (q41 s f2) (fun r=>NB r):=by
 refine TieF.i htab 9 [.tmp 4] Tryz.call42 Tryz.func42 rfl rfl rfl rfl fun w0 L=>?_
 exact TieS.o 8 rfl (.k (q484 s n2 cs f2 h2) rfl fun v=>.r 3 rfl (rt rfl))
theorem q506 (l:List Int):TieF Tryz.prog 43 [NL l] (q117 l) (fun r=>NB r):=by
 refine TieF.i htab 6 [.tmp 2] Tryz.call43 Tryz.func43 rfl rfl rfl rfl fun w0 L=>?_
 exact TieS.r 11 rfl (rt rfl)
theorem q576 (m2:SMap):TieF Tryz.prog 41 [A_SMap m2] (q73 m2) (fun r=>NB r):=by
 refine TieF.i htab 24 [.tmp 2] Tryz.call41 Tryz.func41 rfl rfl rfl rfl fun w0 L=>?_
 refine TieS.o 12 rfl (.selOr (v:=decide ((m2.Y.length:Int) > 40)) 5 7 (fun b=>⟨[NP 1,(12,NB b)],[(1,.box [NL m2.X,NL m2.Y,NS (Pv.encS Pv.encI) m2.Z])]⟩) rfl ?_ ?_ ?_)
 ·exact TieO.l 6 rfl (lf rfl rfl)
 ·exact TieO.l 6 rfl (lf rfl rfl)
 refine TieO.o 1 rfl (.selOr (v:=decide ((m2.Z.length:Int) > 40)) 5 13 (fun b=>⟨[NP 1,(18,NB b)],[(1,.box [NL m2.X,NL m2.Y,NS (Pv.encS Pv.encI) m2.Z])]⟩) rfl ?_ ?_ ?_)
 ·exact TieO.l 6 rfl (lf rfl rfl)
 ·exact TieO.l 6 rfl (lf rfl rfl)
 refine TieO.o 1 rfl (.bind 4 (fun b2=>⟨[(23,NB b2)],[]⟩) (TieO.split 19 rfl ?_ ?_) fun b2 _=>?_)
 ·exact TieO.l 5 rfl (lf rfl rfl)
 ·exact TieO.o 2 rfl (.k (q125 m2.Z 43 [] q117 q506) rfl fun v=>.l 2 rfl (lf rfl rfl))
 exact TieO.r 2 rfl (rt rfl)
theorem q472 (s:List SCurve) (n2:Nat) (cs:List (List Tree)) (f2:SCurve → Option Bool) (h2:∀ x0,TieF Tryz.prog n2 ([q199 x0] ++ cs.map T.el) (f2 x0) (fun r=>NB r)):TieF Tryz.prog 136 [NS q93 s,.fz n2 cs] (q373 s f2) (fun r=>NI r):=by
 refine TieF.i htab 19 [.tmp 4] Tryz.call136 Tryz.func136 rfl rfl rfl rfl fun w0 L=>?_
 refine TieS.s 12 rfl (.loop (fun p=>⟨[(0,NS q93 s),(1,.fz n2 cs),(7,NI (s.length:Int)),(8,NI p.1)],[]⟩) (fun b e σ'=>match b with | .inl t=>e = .exit 0 ∧ Sub ⟨[],[]⟩ σ' | .inr t=>e = .ret ∧ retT tab σ' [.tmp 4] = some (((fun r=>NI r):Int → T) t)) (.of rfl rfl) ?_ ?_)
 ·rintro ⟨i,s2⟩
  refine TieS.s 5 rfl (.cond rfl ?_ ?_)
  ·refine TieS.s 2 rfl (TieX.sub (σ':=⟨[(0,NS q93 s),(1,.fz n2 cs),(7,NI (s.length:Int)),(8,NI i)],[]⟩) (.of rfl rfl) (TieS.bind (Q₁:=fun f e σ'=>match f with | .next t=>e = .normal ∧ Sub ⟨[(0,NS q93 s),(1,.fz n2 cs),(7,NI (s.length:Int)),(8,NI i)],[]⟩ σ' | .brk t=>e = .exit 0 ∧ Sub ⟨[],[]⟩ σ' | .ret t=>e = .ret ∧ retT tab σ' [.tmp 4] = some (((fun r=>NI r):Int → T) t)) ?_ ?_))
   ·refine TieS.o 11 rfl (.index rfl rfl rfl rfl rfl rfl rfl rfl (fun _=>rfl) fun x hx=>.o 1 rfl (.k (h2 x) rfl fun v=>.s 1 rfl (.cond rfl ?_ ?_)))
    ·exact TieS.r 5 rfl ⟨rfl,rfl⟩
    ·exact TieS.l 2 rfl (lf rfl rfl)
   rintro (t | t | t) e σ' _ hq
   ·obtain ⟨rfl,hs⟩:=hq
    exact TieX.sub hs (TieS.l 4 rfl (lf rfl rfl))
   ·obtain ⟨rfl,hs⟩:=hq
    exact TieX.exitOut rfl ⟨(fun h=>by cases h),rfl,hs⟩
   ·obtain ⟨rfl,hs⟩:=hq
    exact TieX.ret ⟨(fun h=>by cases h),rfl,hs⟩
  ·exact TieS.exitOut rfl ⟨(fun h=>by cases h),rfl,.of rfl rfl⟩
 rintro (s3 | r2) e σ' _ hq
 ·obtain ⟨rfl,hs⟩:=hq
  refine TieX.exit rfl (TieX.sub hs ?_)
  exact TieS.r 4 rfl (rt rfl)
 ·obtain ⟨rfl,hs⟩:=hq
  exact TieX.ret ⟨.inl rfl,hs⟩
theorem q438 (s:List SCurve) (n2:Nat) (cs:List (List Tree)) (f2:SCurve → Option Bool) (h2:∀ x0,TieF Tryz.prog n2 ([q199 x0] ++ cs.map T.el) (f2 x0) (fun r=>NB r)):TieF Tryz.prog 44 [NS q93 s,.fz n2 cs] (q167 s f2) (fun r=>NB r):=by
 refine TieF.i htab 9 [.tmp 4] Tryz.call44 Tryz.func44 rfl rfl rfl rfl fun w0 L=>?_
 exact TieS.o 8 rfl (.k (q472 s n2 cs f2 h2) rfl fun v=>.r 3 rfl (rt rfl))
theorem q554 (c:SCurve):TieF Tryz.prog 45 [q199 c] (q143 c) (fun r=>NB r):=by
 refine TieF.i htab 13 [.tmp 2] Tryz.call45 Tryz.func45 rfl rfl rfl rfl fun w0 L=>?_
 refine TieS.o 12 rfl (.selOr (v:=decide ((c.Y.length:Int) > 40)) 5 7 (fun b=>⟨[(12,NB b)],[]⟩) rfl ?_ ?_ ?_)
 ·exact TieO.l 6 rfl (lf rfl rfl)
 ·exact TieO.l 6 rfl (lf rfl rfl)
 exact TieO.r 2 rfl (rt rfl)
theorem q606 (t2:STables):TieF Tryz.prog 11 [q20 t2] (q321 t2) (fun r=>NB r):=by
 refine TieF.i htab 31 [.tmp 2] Tryz.call11 Tryz.func11 rfl rfl rfl rfl fun w0 L=>?_
 refine TieS.o 34 rfl (.callS _ rfl rfl rfl (q449 ([t2.Air,t2.Spark,t2.Torque,t2.Wish]:List SMap) 41 [] q73 q576) (fun _=>rfl) (fun _=>rfl) fun v=>.o 2 rfl (.bind 4 (fun b2=>⟨[(30,NB b2)],[]⟩) (TieO.split 26 rfl ?_ ?_) fun b2 _=>?_))
 ·exact TieO.o 1 rfl (.callS _ rfl rfl rfl (q438 ([t2.AirTemp,t2.Dwell,t2.Dead,t2.Efficiency]:List SCurve) 45 [] q143 q554) (fun _=>rfl) (fun _=>rfl) fun v2=>.l 3 rfl (lf rfl rfl))
 ·exact TieO.l 5 rfl (lf rfl rfl)
 exact TieO.r 2 rfl (rt rfl)
theorem q569 (e2:SEngine) (c:SControls) (v_in:SInputs):TieF Tryz.prog 12 [q190 e2,q77 c,q308 v_in] (q353 e2 c v_in) (fun r=>NB r):=by
 refine TieF.i htab 36 [.tmp 6] Tryz.call12 Tryz.func12 rfl rfl rfl rfl fun w0 L=>?_
 refine TieS.o 14 rfl (.selAnd (v:=decide ((c.Knock.length:Int) ≤ 40)) 5 11 (fun b=>⟨[NP 4,NP 5,(16,NB b)],[(4,.box (q11 c)),(5,.box (q14 v_in))]⟩) rfl ?_ ?_ ?_)
 ·exact TieO.l 6 rfl (lf rfl rfl)
 ·exact TieO.l 6 rfl (lf rfl rfl)
 refine TieO.o 1 rfl (.selAnd (v:=decide ((c.Probe.Cells.length:Int) ≤ 40)) 6 17 (fun b=>⟨[NP 5,(23,NB b)],[(5,.box (q14 v_in))]⟩) rfl ?_ ?_ ?_)
 ·exact TieO.l 7 rfl (lf rfl rfl)
 ·exact TieO.l 7 rfl (lf rfl rfl)
 refine TieO.o 1 rfl (.selAnd (v:=decide ((v_in.Intensity.length:Int) ≤ 40)) 5 24 (fun b=>⟨[NP 5,(29,NB b)],[(5,.box (q14 v_in))]⟩) rfl ?_ ?_ ?_)
 ·exact TieO.l 6 rfl (lf rfl rfl)
 ·exact TieO.l 6 rfl (lf rfl rfl)
 refine TieO.o 1 rfl (.selAnd (v:=decide ((v_in.Requests.length:Int) ≤ 40)) 5 30 (fun b=>⟨[(35,NB b)],[]⟩) rfl ?_ ?_ ?_)
 ·exact TieO.l 6 rfl (lf rfl rfl)
 ·exact TieO.l 6 rfl (lf rfl rfl)
 exact TieO.r 2 rfl (rt rfl)
abbrev x63_0 (b2:SProbe):List T:=[NB b2.Active,NB b2.Rich,NI b2.Factor,NI b2.Wait,NS q18 b2.Cells]
abbrev x63_1 (a:SProbe):List T:=[NB a.Active,NB a.Rich,NI a.Factor,NI a.Wait,NS q18 a.Cells]
theorem q593 (a:SProbe) (b2:SProbe):TieF Tryz.prog 63 [q96 a,q96 b2] (q277 a b2) (fun r=>NB r):=by
 refine TieF.i htab 59 [.tmp 4] Tryz.call63 Tryz.func63 rfl rfl rfl rfl fun w0 L=>?_
 refine TieS.o 15 rfl (.selOr (v:=(!(a.Rich == b2.Rich))) 6 11 (fun b=>⟨[NP 2,NP 3,(17,NB b)],[(2,.box (x63_1 a)),(3,.box (x63_0 b2))]⟩) rfl ?_ ?_ ?_)
 ·exact TieO.l 7 rfl (lf rfl rfl)
 ·exact TieO.l 7 rfl (lf rfl rfl)
 refine TieO.o 1 rfl (.selOr (v:=(a.Factor != b2.Factor)) 6 18 (fun b=>⟨[NP 2,NP 3,(24,NB b)],[(2,.box (x63_1 a)),(3,.box (x63_0 b2))]⟩) rfl ?_ ?_ ?_)
 ·exact TieO.l 7 rfl (lf rfl rfl)
 ·exact TieO.l 7 rfl (lf rfl rfl)
 refine TieO.o 1 rfl (.selOr (v:=(a.Wait != b2.Wait)) 6 25 (fun b=>⟨[NP 2,NP 3,(31,NB b)],[(2,.box (x63_1 a)),(3,.box (x63_0 b2))]⟩) rfl ?_ ?_ ?_)
 ·exact TieO.l 7 rfl (lf rfl rfl)
 ·exact TieO.l 7 rfl (lf rfl rfl)
 refine TieO.o 1 rfl (.selOr (v:=((a.Cells.length:Int) != (b2.Cells.length:Int))) 8 32 (fun b=>⟨[NP 2,NP 3,(40,NB b)],[(2,.box (x63_1 a)),(3,.box (x63_0 b2))]⟩) rfl ?_ ?_ ?_)
 ·exact TieO.l 9 rfl (lf rfl rfl)
 ·exact TieO.l 9 rfl (lf rfl rfl)
 refine TieO.s 1 rfl (.cond rfl ?_ ?_)
 ·exact TieS.r 4 rfl (rt rfl)
 ·refine TieS.s 7 rfl (.loop (fun t=>⟨[NP 2,NP 3,(5,NI t)],[(2,.box (x63_1 a)),(3,.box (x63_0 b2))]⟩) (fun b e σ'=>match b with | .inl t=>e = .exit 0 ∧ Sub ⟨[],[]⟩ σ' | .inr t=>e = .ret ∧ retT tab σ' [.tmp 4] = some (((fun r=>NB r):Bool → T) t)) (.of rfl rfl) ?_ ?_)
  ·intro i
   refine TieS.s 9 rfl (.cond rfl ?_ ?_)
   ·refine TieS.s 4 rfl (TieX.pre fun x hx=>TieX.pre fun x2 hx2=>TieS.dr 11 [NP 2,NP 3,(5,NI i)] [(2,.box (x63_1 a)),(3,.box (x63_0 b2))] mixed (.of rfl rfl) (.q rfl rfl rfl (.q rfl rfl rfl (.q rfl rfl rfl (.cons (.index hx rfl rfl rfl rfl rfl rfl (fun _=>rfl)) (.q rfl rfl rfl (.q rfl rfl rfl (.q rfl rfl rfl (.q rfl rfl rfl (.cons (.index hx2 rfl rfl rfl rfl rfl rfl (fun _=>rfl)) (.q rfl rfl rfl (.cons (.neS [.int .i64 x.Value,.int .i64 x.Count] [.int .i64 x2.Value,.int .i64 x2.Count] (eqv_105 x.Value x.Count x2.Value x2.Count) rfl rfl rfl rfl) (.nil)))))))))))) rfl (.s 1 rfl (.cond rfl ?_ ?_)))
    ·exact TieS.r 4 rfl ⟨(fun h=>by cases h),rfl,rfl⟩
    ·exact TieS.l 7 rfl (lf rfl rfl)
   ·exact TieS.exitOut rfl ⟨(fun h=>by cases h),rfl,.of rfl rfl⟩
  rintro (i2 | r2) e σ' _ hq
  ·obtain ⟨rfl,hs⟩:=hq
   refine TieX.exit rfl (TieX.sub hs ?_)
   exact TieS.r 4 rfl (rt rfl)
  ·obtain ⟨rfl,hs⟩:=hq
   exact TieX.ret ⟨.inl rfl,hs⟩
theorem q604 (a:SControls) (b2:SControls):TieF Tryz.prog 17 [q77 a,q77 b2] (q172 a b2) (fun r=>NB r):=by
 refine TieF.i htab 67 [.tmp 4] Tryz.call17 Tryz.func17 rfl rfl rfl rfl fun w0 L=>?_
 refine TieS.o 13 rfl (.neS [.int .i64 a.Pedal.Value,.int .i64 a.Pedal.Differ,.bool a.Pedal.Fault] [.int .i64 b2.Pedal.Value,.int .i64 b2.Pedal.Differ,.bool b2.Pedal.Fault] (eqv_35 a.Pedal.Value a.Pedal.Differ a.Pedal.Fault b2.Pedal.Value b2.Pedal.Differ b2.Pedal.Fault) rfl rfl rfl rfl rfl rfl (.o 1 rfl (.bind 6 (fun b3=>⟨[NP 2,NP 3,(17,NB b3)],[(2,.box (q11 a)),(3,.box (q11 b2))]⟩) (TieO.split 11 rfl ?_ ?_) fun b3 _=>?_)))
 ·exact TieO.l 7 rfl (lf rfl rfl)
 ·exact TieO.o 4 rfl (.neS [.int .i64 a.Idle.Sum] [.int .i64 b2.Idle.Sum] (eqv_37 a.Idle.Sum b2.Idle.Sum) rfl rfl rfl rfl rfl rfl (.l 2 rfl (lf rfl rfl)))
 refine TieO.o 1 rfl (.bind 7 (fun b4=>⟨[NP 2,NP 3,(25,NB b4)],[(2,.box (q11 a)),(3,.box (q11 b2))]⟩) (TieO.split 18 rfl ?_ ?_) fun b4 _=>?_)
 ·exact TieO.l 8 rfl (lf rfl rfl)
 ·exact TieO.o 4 rfl (.k (q593 a.Probe b2.Probe) rfl fun v=>.l 3 rfl (lf rfl rfl))
 refine TieO.o 1 rfl (.selOr (v:=(a.Film != b2.Film)) 6 26 (fun b=>⟨[NP 2,NP 3,(32,NB b)],[(2,.box (q11 a)),(3,.box (q11 b2))]⟩) rfl ?_ ?_ ?_)
 ·exact TieO.l 7 rfl (lf rfl rfl)
 ·exact TieO.l 7 rfl (lf rfl rfl)
 refine TieO.o 1 rfl (.bind 6 (fun b5=>⟨[NP 2,NP 3,(39,NB b5)],[(2,.box (q11 a)),(3,.box (q11 b2))]⟩) (TieO.split 33 rfl ?_ ?_) fun b5 _=>?_)
 ·exact TieO.l 7 rfl (lf rfl rfl)
 ·exact TieO.o 4 rfl (.neS [.int .i64 a.Grant.Torque,.int .i64 a.Grant.Source] [.int .i64 b2.Grant.Torque,.int .i64 b2.Grant.Source] (eqv_43 a.Grant.Torque a.Grant.Source b2.Grant.Torque b2.Grant.Source) rfl rfl rfl rfl rfl rfl (.l 2 rfl (lf rfl rfl)))
 refine TieO.o 1 rfl (.selOr (v:=((a.Knock.length:Int) != (b2.Knock.length:Int))) 8 40 (fun b=>⟨[NP 2,NP 3,(48,NB b)],[(2,.box (q11 a)),(3,.box (q11 b2))]⟩) rfl ?_ ?_ ?_)
 ·exact TieO.l 9 rfl (lf rfl rfl)
 ·exact TieO.l 9 rfl (lf rfl rfl)
 refine TieO.s 1 rfl (.cond rfl ?_ ?_)
 ·exact TieS.r 4 rfl (rt rfl)
 ·refine TieS.s 7 rfl (.loop (fun t=>⟨[NP 2,NP 3,(5,NI t)],[(2,.box (q11 a)),(3,.box (q11 b2))]⟩) (fun b e σ'=>match b with | .inl t=>e = .exit 0 ∧ Sub ⟨[],[]⟩ σ' | .inr t=>e = .ret ∧ retT tab σ' [.tmp 4] = some (((fun r=>NB r):Bool → T) t)) (.of rfl rfl) ?_ ?_)
  ·intro i
   refine TieS.s 9 rfl (.cond rfl ?_ ?_)
   ·refine TieS.s 4 rfl (TieX.pre fun x hx=>TieX.pre fun x2 hx2=>TieS.dr 11 [NP 2,NP 3,(5,NI i)] [(2,.box (q11 a)),(3,.box (q11 b2))] mixed (.of rfl rfl) (.q rfl rfl rfl (.q rfl rfl rfl (.q rfl rfl rfl (.cons (.index hx rfl rfl rfl rfl rfl rfl (fun _=>rfl)) (.q rfl rfl rfl (.q rfl rfl rfl (.q rfl rfl rfl (.q rfl rfl rfl (.cons (.index hx2 rfl rfl rfl rfl rfl rfl (fun _=>rfl)) (.q rfl rfl rfl (.cons (.neS [.int .i64 x.Retard,.int .i64 x.Noise,.int .i64 x.Quiet] [.int .i64 x2.Retard,.int .i64 x2.Noise,.int .i64 x2.Quiet] (eqv_95 x.Retard x.Noise x.Quiet x2.Retard x2.Noise x2.Quiet) rfl rfl rfl rfl) (.nil)))))))))))) rfl (.s 1 rfl (.cond rfl ?_ ?_)))
    ·exact TieS.r 4 rfl ⟨(fun h=>by cases h),rfl,rfl⟩
    ·exact TieS.l 7 rfl (lf rfl rfl)
   ·exact TieS.exitOut rfl ⟨(fun h=>by cases h),rfl,.of rfl rfl⟩
  rintro (i2 | r2) e σ' _ hq
  ·obtain ⟨rfl,hs⟩:=hq
   refine TieX.exit rfl (TieX.sub hs ?_)
   exact TieS.r 4 rfl (rt rfl)
  ·obtain ⟨rfl,hs⟩:=hq
   exact TieX.ret ⟨.inl rfl,hs⟩
theorem q505 (s:List Int) (n2:Nat) (cs:List (List Tree)) (f2:Int → Option Bool) (h2:∀ x0,TieF Tryz.prog n2 ([NI x0] ++ cs.map T.el) (f2 x0) (fun r=>NB r)):TieF Tryz.prog 206 [NL s,.fz n2 cs] (q415 s f2) (fun r=>NI r):=by
 refine TieF.i htab 19 [.tmp 4] Tryz.call206 Tryz.func206 rfl rfl rfl rfl fun w0 L=>?_
 refine TieS.s 12 rfl (.loop (fun p=>⟨[(0,NL s),(1,.fz n2 cs),(7,NI (s.length:Int)),(8,NI p.1)],[]⟩) (fun b e σ'=>match b with | .inl t=>e = .exit 0 ∧ Sub ⟨[],[]⟩ σ' | .inr t=>e = .ret ∧ retT tab σ' [.tmp 4] = some (((fun r=>NI r):Int → T) t)) (.of rfl rfl) ?_ ?_)
 ·rintro ⟨i,s2⟩
  refine TieS.s 5 rfl (.cond rfl ?_ ?_)
  ·refine TieS.s 2 rfl (TieX.sub (σ':=⟨[(0,NL s),(1,.fz n2 cs),(7,NI (s.length:Int)),(8,NI i)],[]⟩) (.of rfl rfl) (TieS.bind (Q₁:=fun f e σ'=>match f with | .next t=>e = .normal ∧ Sub ⟨[(0,NL s),(1,.fz n2 cs),(7,NI (s.length:Int)),(8,NI i)],[]⟩ σ' | .brk t=>e = .exit 0 ∧ Sub ⟨[],[]⟩ σ' | .ret t=>e = .ret ∧ retT tab σ' [.tmp 4] = some (((fun r=>NI r):Int → T) t)) ?_ ?_))
   ·refine TieS.o 11 rfl (.index rfl rfl rfl rfl rfl rfl rfl rfl (fun _=>rfl) fun x hx=>.o 1 rfl (.k (h2 x) rfl fun v=>.s 1 rfl (.cond rfl ?_ ?_)))
    ·exact TieS.r 5 rfl ⟨rfl,rfl⟩
    ·exact TieS.l 2 rfl (lf rfl rfl)
   rintro (t | t | t) e σ' _ hq
   ·obtain ⟨rfl,hs⟩:=hq
    exact TieX.sub hs (TieS.l 4 rfl (lf rfl rfl))
   ·obtain ⟨rfl,hs⟩:=hq
    exact TieX.exitOut rfl ⟨(fun h=>by cases h),rfl,hs⟩
   ·obtain ⟨rfl,hs⟩:=hq
    exact TieX.ret ⟨(fun h=>by cases h),rfl,hs⟩
  ·exact TieS.exitOut rfl ⟨(fun h=>by cases h),rfl,.of rfl rfl⟩
 rintro (s3 | r2) e σ' _ hq
 ·obtain ⟨rfl,hs⟩:=hq
  refine TieX.exit rfl (TieX.sub hs ?_)
  exact TieS.r 4 rfl (rt rfl)
 ·obtain ⟨rfl,hs⟩:=hq
  exact TieX.ret ⟨.inl rfl,hs⟩
theorem q28 (s:List Int) (n2:Nat) (cs:List (List Tree)) (f2:Int → Option Bool) (h2:∀ x0,TieF Tryz.prog n2 ([NI x0] ++ cs.map T.el) (f2 x0) (fun r=>NB r)):TieF Tryz.prog 122 [NL s,.fz n2 cs] (q23 s f2) (fun r=>NB r):=by
 refine TieF.i htab 9 [.tmp 4] Tryz.call122 Tryz.func122 rfl rfl rfl rfl fun w0 L=>?_
 exact TieS.o 8 rfl (.k (q505 s n2 cs f2 h2) rfl fun v=>.r 3 rfl (rt rfl))
theorem q443 (n2:Int):TieF Tryz.prog 148 [NI n2] (q240 n2) (fun r=>NB r):=by
 refine TieF.i htab 9 [.tmp 2] Tryz.call148 Tryz.func148 rfl rfl rfl rfl fun w0 L=>?_
 refine TieS.o 9 rfl (.selAnd (v:=decide (n2 ≤ 1073741824)) 3 5 (fun b=>⟨[(8,NB b)],[]⟩) rfl ?_ ?_ ?_)
 ·exact TieO.l 4 rfl (lf rfl rfl)
 ·exact TieO.l 4 rfl (lf rfl rfl)
 exact TieO.r 2 rfl (rt rfl)
theorem q528 (l:List Int):TieF Tryz.prog 146 [NL l] (q358 l) (fun r=>NB r):=by
 refine TieF.i htab 37 [.tmp 2] Tryz.call146 Tryz.func146 rfl rfl rfl rfl fun w0 L=>?_
 refine TieS.o 11 rfl (.selOr (v:=decide ((l.length:Int) > 32)) 4 8 (fun b=>⟨[(0,NL l),(12,NB b)],[]⟩) rfl ?_ ?_ ?_)
 ·exact TieO.l 5 rfl (lf rfl rfl)
 ·exact TieO.l 5 rfl (lf rfl rfl)
 refine TieO.s 1 rfl (.cond rfl ?_ ?_)
 ·exact TieS.r 4 rfl (rt rfl)
 ·refine TieS.s 9 rfl (.loop (fun p=>⟨[(0,NL l),(13,NL l),(14,NI (l.length:Int)),(15,NI p.1)],[]⟩) (fun b e σ'=>match b with | .inl t=>e = .exit 0 ∧ Sub ⟨[],[]⟩ σ' | .inr t=>e = .ret ∧ retT tab σ' [.tmp 2] = some (((fun r=>NB r):Bool → T) t)) (.of rfl rfl) ?_ ?_)
  ·rintro ⟨i,s⟩
   refine TieS.s 5 rfl (.cond rfl ?_ ?_)
   ·refine TieS.s 2 rfl (TieX.sub (σ':=⟨[(0,NL l),(13,NL l),(14,NI (l.length:Int)),(15,NI i)],[]⟩) (.of rfl rfl) (TieS.bind (Q₁:=fun f e σ'=>match f with | .next t=>e = .normal ∧ Sub ⟨[(0,NL l),(13,NL l),(14,NI (l.length:Int)),(15,NI i)],[]⟩ σ' | .brk t=>e = .exit 0 ∧ Sub ⟨[],[]⟩ σ' | .ret t=>e = .ret ∧ retT tab σ' [.tmp 2] = some (((fun r=>NB r):Bool → T) t)) ?_ ?_))
    ·refine TieS.o 4 rfl (.index rfl rfl rfl rfl rfl rfl rfl rfl (fun _=>rfl) fun x hx=>.o 7 rfl (.k (q443 x) rfl fun v=>.o 2 rfl (.bind 12 (fun b3=>⟨[(0,NL l),(13,NL l),(14,NI (l.length:Int)),(15,NI i),(35,NB b3)],[]⟩) (TieO.split 23 rfl ?_ ?_) fun b3 _=>?_)))
     ·exact TieO.l 13 rfl (lf rfl rfl)
     ·refine TieO.o 3 rfl (.bind 8 (fun b2=>⟨[(0,NL l),(13,NL l),(14,NI (l.length:Int)),(15,NI i),(23,NB false),(34,NB b2)],[]⟩) (TieO.split 26 rfl ?_ ?_) fun b2 _=>?_)
      ·exact TieO.o 4 rfl (.index rfl rfl rfl rfl rfl rfl rfl rfl (fun _=>rfl) fun x2 hx2=>.l 4 rfl (lf rfl rfl))
      ·exact TieO.l 9 rfl (lf rfl rfl)
      exact TieO.l 2 rfl (lf rfl rfl)
     refine TieO.s 1 rfl (.cond rfl ?_ ?_)
     ·exact TieS.r 4 rfl ⟨rfl,rfl⟩
     ·exact TieS.l 2 rfl (lf rfl rfl)
    rintro (t | t | t) e σ' _ hq
    ·obtain ⟨rfl,hs⟩:=hq
     exact TieX.sub hs (TieS.l 4 rfl (lf rfl rfl))
    ·obtain ⟨rfl,hs⟩:=hq
     exact TieX.exitOut rfl ⟨(fun h=>by cases h),rfl,hs⟩
    ·obtain ⟨rfl,hs⟩:=hq
     exact TieX.ret ⟨(fun h=>by cases h),rfl,hs⟩
   ·exact TieS.exitOut rfl ⟨(fun h=>by cases h),rfl,.of rfl rfl⟩
  rintro (s2 | r2) e σ' _ hq
  ·obtain ⟨rfl,hs⟩:=hq
   refine TieX.exit rfl (TieX.sub hs ?_)
   exact TieS.r 4 rfl (rt rfl)
  ·obtain ⟨rfl,hs⟩:=hq
   exact TieX.ret ⟨.inl rfl,hs⟩
theorem q631 (z:Int):TieF Tryz.prog 147 [NI z] (q153 z) (fun r=>NB r):=by
 refine TieF.i htab 6 [.tmp 2] Tryz.call147 Tryz.func147 rfl rfl rfl rfl fun w0 L=>?_
 exact TieS.o 7 rfl (.k (q443 z) rfl fun v=>.r 3 rfl (rt rfl))
abbrev x53_0 (m2:SMap):List T:=[NL m2.X,NL m2.Y,NS (Pv.encS Pv.encI) m2.Z]
theorem q84 (m2:SMap):TieF Tryz.prog 53 [A_SMap m2] (q76 m2) (fun r=>NB r):=by
 refine TieF.i htab 42 [.tmp 2] Tryz.call53 Tryz.func53 rfl rfl rfl rfl fun w0 L=>?_
 refine TieS.o 10 rfl (.k (q528 m2.X) rfl fun v=>.o 2 rfl (.bind 5 (fun b2=>⟨[NP 1,(14,NB b2)],[(1,.box (x53_0 m2))]⟩) (TieO.split 9 rfl ?_ ?_) fun b2 _=>?_))
 ·exact TieO.l 6 rfl (lf rfl rfl)
 ·exact TieO.o 2 rfl (.k (q528 m2.Y) rfl fun v2=>.l 3 rfl (lf rfl rfl))
 refine TieO.o 1 rfl (.selOr (v:=((m2.Z.length:Int) != (m2.X.length:Int))) 8 15 (fun b=>⟨[NP 1,(23,NB b)],[(1,.box (x53_0 m2))]⟩) rfl ?_ ?_ ?_)
 ·exact TieO.l 9 rfl (lf rfl rfl)
 ·exact TieO.l 9 rfl (lf rfl rfl)
 refine TieO.s 1 rfl (.cond rfl ?_ ?_)
 ·exact TieS.r 4 rfl (rt rfl)
 ·refine TieS.s 10 rfl (.loop (fun p=>⟨[NP 1,(25,NS (Pv.encS Pv.encI) m2.Z),(26,NI (m2.Z.length:Int)),(27,NI p.1)],[(1,.box (x53_0 m2))]⟩) (fun b e σ'=>match b with | .inl t=>e = .exit 0 ∧ Sub ⟨[],[]⟩ σ' | .inr t=>e = .ret ∧ retT tab σ' [.tmp 2] = some (((fun r=>NB r):Bool → T) t)) (.of rfl rfl) ?_ ?_)
  ·rintro ⟨i,s⟩
   refine TieS.s 5 rfl (.cond rfl ?_ ?_)
   ·refine TieS.s 2 rfl (TieX.pre fun x hx=>TieX.sub (σ':=⟨[NP 1,(25,NS (Pv.encS Pv.encI) m2.Z),(26,NI (m2.Z.length:Int)),(27,NI i)],[(1,.box (x53_0 m2))]⟩) (.of rfl rfl) (TieS.bind (Q₁:=fun f e σ'=>match f with | .next t=>e = .normal ∧ Sub ⟨[NP 1,(25,NS (Pv.encS Pv.encI) m2.Z),(26,NI (m2.Z.length:Int)),(27,NI i)],[(1,.box (x53_0 m2))]⟩ σ' | .brk t=>e = .exit 0 ∧ Sub ⟨[],[]⟩ σ' | .ret t=>e = .ret ∧ retT tab σ' [.tmp 2] = some (((fun r=>NB r):Bool → T) t)) ?_ ?_))
    ·refine TieS.o 3 rfl (.indexH hx rfl rfl rfl rfl rfl rfl rfl rfl (fun _=>rfl) (.o 12 rfl (.bind 3 (fun b3=>⟨[NP 1,(25,NS (Pv.encS Pv.encI) m2.Z),(26,NI (m2.Z.length:Int)),(27,NI i),(40,NB b3)],[(1,.box (x53_0 m2))]⟩) (TieO.split 37 rfl ?_ ?_) fun b3 _=>?_)))
     ·exact TieO.l 4 rfl (lf rfl rfl)
     ·exact TieO.o 1 rfl (.k (q28 x 147 [] q153 q631) rfl fun v3=>.l 2 rfl (lf rfl rfl))
     refine TieO.s 1 rfl (.cond rfl ?_ ?_)
     ·exact TieS.r 4 rfl ⟨rfl,rfl⟩
     ·exact TieS.l 2 rfl (lf rfl rfl)
    rintro (t | t | t) e σ' _ hq
    ·obtain ⟨rfl,hs⟩:=hq
     exact TieX.sub hs (TieS.l 4 rfl (lf rfl rfl))
    ·obtain ⟨rfl,hs⟩:=hq
     exact TieX.exitOut rfl ⟨(fun h=>by cases h),rfl,hs⟩
    ·obtain ⟨rfl,hs⟩:=hq
     exact TieX.ret ⟨(fun h=>by cases h),rfl,hs⟩
   ·exact TieS.exitOut rfl ⟨(fun h=>by cases h),rfl,.of rfl rfl⟩
  rintro (s2 | r2) e σ' _ hq
  ·obtain ⟨rfl,hs⟩:=hq
   refine TieX.exit rfl (TieX.sub hs ?_)
   exact TieS.r 4 rfl (rt rfl)
  ·obtain ⟨rfl,hs⟩:=hq
   exact TieX.ret ⟨.inl rfl,hs⟩
theorem q626 (n2:Int):TieF Tryz.prog 150 [NI n2] (q224 n2) (fun r=>NB r):=by
 refine TieF.i htab 9 [.tmp 2] Tryz.call150 Tryz.func150 rfl rfl rfl rfl fun w0 L=>?_
 refine TieS.o 9 rfl (.selOr (v:=decide (n2 > 1073741824)) 3 5 (fun b=>⟨[(8,NB b)],[]⟩) rfl ?_ ?_ ?_)
 ·exact TieO.l 4 rfl (lf rfl rfl)
 ·exact TieO.l 4 rfl (lf rfl rfl)
 exact TieO.r 2 rfl (rt rfl)
theorem q744 (l:List Int):TieF Tryz.prog 149 [NL l] (q493 l) (fun r=>NB r):=by
 refine TieF.i htab 33 [.tmp 2] Tryz.call149 Tryz.func149 rfl rfl rfl rfl fun w0 L=>?_
 refine TieS.o 11 rfl (.selOr (v:=decide ((l.length:Int) > 32)) 4 7 (fun b=>⟨[(0,NL l),(11,NB b)],[]⟩) rfl ?_ ?_ ?_)
 ·exact TieO.l 5 rfl (lf rfl rfl)
 ·exact TieO.l 5 rfl (lf rfl rfl)
 refine TieO.o 1 rfl (.bind 3 (fun b2=>⟨[(0,NL l),(15,NB b2)],[]⟩) (TieO.split 12 rfl ?_ ?_) fun b2 _=>?_)
 ·exact TieO.l 4 rfl (lf rfl rfl)
 ·exact TieO.o 1 rfl (.k (q28 l 150 [] q224 q626) rfl fun v=>.l 2 rfl (lf rfl rfl))
 refine TieO.s 1 rfl (.cond rfl ?_ ?_)
 ·exact TieS.r 4 rfl (rt rfl)
 ·refine TieS.s 10 rfl (.loop (fun p=>⟨[(0,NL l),(18,NI (w64 ((l.length:Int) - 1))),(19,NI p.1)],[]⟩) (fun b e σ'=>match b with | .inl t=>e = .exit 0 ∧ Sub ⟨[],[]⟩ σ' | .inr t=>e = .ret ∧ retT tab σ' [.tmp 2] = some (((fun r=>NB r):Bool → T) t)) (.of rfl rfl) ?_ ?_)
  ·rintro ⟨i,s⟩
   refine TieS.s 5 rfl (.cond rfl ?_ ?_)
   ·refine TieS.s 2 rfl (TieX.sub (σ':=⟨[(0,NL l),(18,NI (w64 ((l.length:Int) - 1))),(19,NI i)],[]⟩) (.of rfl rfl) (TieS.bind (Q₁:=fun f e σ'=>match f with | .next t=>e = .normal ∧ Sub ⟨[(0,NL l),(18,NI (w64 ((l.length:Int) - 1))),(19,NI i)],[]⟩ σ' | .brk t=>e = .exit 0 ∧ Sub ⟨[],[]⟩ σ' | .ret t=>e = .ret ∧ retT tab σ' [.tmp 2] = some (((fun r=>NB r):Bool → T) t)) ?_ ?_))
    ·refine TieS.s 7 rfl (TieX.pre fun x hx=>TieX.pre fun x2 hx2=>TieS.dr 10 [(0,NL l),(3,NI i),(18,NI (w64 ((l.length:Int) - 1))),(19,NI i)] [] mixed (.of rfl rfl) (.q rfl rfl rfl (.q rfl rfl rfl (.cons (.index hx rfl rfl rfl rfl rfl rfl (fun _=>rfl)) (.q rfl rfl rfl (.q rfl rfl rfl (.q rfl rfl rfl (.q rfl rfl rfl (.cons (.index hx2 rfl rfl rfl rfl rfl rfl (fun _=>rfl)) (.q rfl rfl rfl (.q rfl rfl rfl (.nil))))))))))) rfl (.s 1 rfl (.cond rfl ?_ ?_)))
     ·exact TieS.r 4 rfl ⟨rfl,rfl⟩
     ·exact TieS.l 2 rfl (lf rfl rfl)
    rintro (t | t | t) e σ' _ hq
    ·obtain ⟨rfl,hs⟩:=hq
     exact TieX.sub hs (TieS.l 4 rfl (lf rfl rfl))
    ·obtain ⟨rfl,hs⟩:=hq
     exact TieX.exitOut rfl ⟨(fun h=>by cases h),rfl,hs⟩
    ·obtain ⟨rfl,hs⟩:=hq
     exact TieX.ret ⟨(fun h=>by cases h),rfl,hs⟩
   ·exact TieS.exitOut rfl ⟨(fun h=>by cases h),rfl,.of rfl rfl⟩
  rintro (s2 | r2) e σ' _ hq
  ·obtain ⟨rfl,hs⟩:=hq
   refine TieX.exit rfl (TieX.sub hs ?_)
   exact TieS.r 4 rfl (rt rfl)
  ·obtain ⟨rfl,hs⟩:=hq
   exact TieX.ret ⟨.inl rfl,hs⟩
theorem q87 (c:SCurve):TieF Tryz.prog 54 [q199 c] (q90 c) (fun r=>NB r):=by
 refine TieF.i htab 21 [.tmp 2] Tryz.call54 Tryz.func54 rfl rfl rfl rfl fun w0 L=>?_
 refine TieS.o 15 rfl (.bind 4 (fun b2=>⟨[NP 1,(14,NB b2)],[(1,.box [NL c.X,NL c.Y])]⟩) (TieO.split 10 rfl ?_ ?_) fun b2 _=>?_)
 ·exact TieO.o 2 rfl (.k (q744 c.X) rfl fun v=>.l 2 rfl (lf rfl rfl))
 ·exact TieO.l 5 rfl (lf rfl rfl)
 refine TieO.o 1 rfl (.bind 5 (fun b3=>⟨[(20,NB b3)],[]⟩) (TieO.split 15 rfl ?_ ?_) fun b3 _=>?_)
 ·exact TieO.o 2 rfl (.k (q28 c.Y 150 [] q224 q626) rfl fun v2=>.l 3 rfl (lf rfl rfl))
 ·exact TieO.l 6 rfl (lf rfl rfl)
 exact TieO.r 2 rfl (rt rfl)
theorem q486 (x:Int):TieF Tryz.prog 257 [NI x] (q404 x) (fun r=>NB r):=by
 refine TieF.i htab 6 [.tmp 2] Tryz.call257 Tryz.func257 rfl rfl rfl rfl fun w0 L=>?_
 exact TieS.r 11 rfl (rt rfl)
theorem q691 (x:Int) (y:Int):TieF Tryz.prog 217 [NI x,NI y] (q436 x y) (fun r=>NB r):=by
 refine TieF.i htab 17 [.tmp 4] Tryz.call217 Tryz.func217 rfl rfl rfl rfl fun w0 L=>?_
 refine TieS.o 7 rfl (.k (q486 x) rfl fun v=>.o 1 rfl (.bind 4 (fun b2=>⟨[(0,NI x),(1,NI y),(11,NB b2)],[]⟩) (TieO.split 7 rfl ?_ ?_) fun b2 _=>?_))
 ·exact TieO.o 1 rfl (.k (q486 y) rfl fun v2=>.l 3 rfl (lf rfl rfl))
 ·exact TieO.l 5 rfl (lf rfl rfl)
 refine TieO.o 1 rfl (.selOr (v:=decide (x < y)) 4 12 (fun b=>⟨[(16,NB b)],[]⟩) rfl ?_ ?_ ?_)
 ·exact TieO.l 5 rfl (lf rfl rfl)
 ·exact TieO.l 5 rfl (lf rfl rfl)
 exact TieO.r 2 rfl (rt rfl)
theorem q357 (x:List Int):TieF Tryz.prog 139 [NL x] (q119 x) (fun r=>NB r):=by
 refine TieF.i htab 21 [.tmp 2] Tryz.call139 Tryz.func139 rfl rfl rfl rfl fun w0 L=>?_
 refine TieS.s 13 rfl (.loop (fun t=>⟨[(0,NL x),(3,NI t)],[]⟩) (fun b e σ'=>match b with | .inl t=>e = .exit 0 ∧ Sub ⟨[],[]⟩ σ' | .inr t=>e = .ret ∧ retT tab σ' [.tmp 2] = some (((fun r=>NB r):Bool → T) t)) (.of rfl rfl) ?_ ?_)
 ·intro i
  refine TieS.s 6 rfl (.cond rfl ?_ ?_)
  ·refine TieS.s 4 rfl (TieX.pre fun x2 hx2=>TieX.pre fun x3 hx3=>TieX.pre fun v hv=>TieS.dr 10 [(0,NL x),(3,NI i)] [] mixed (.of rfl rfl) (.q rfl rfl rfl (.q rfl rfl rfl (.cons (.index hx2 rfl rfl rfl rfl rfl rfl (fun _=>rfl)) (.q rfl rfl rfl (.q rfl rfl rfl (.q rfl rfl rfl (.q rfl rfl rfl (.cons (.index hx3 rfl rfl rfl rfl rfl rfl (fun _=>rfl)) (.q rfl rfl rfl (.cons (.callV (q691 x2 x3) hv rfl rfl rfl rfl) (.nil))))))))))) rfl (.s 1 rfl (.cond rfl ?_ ?_)))
   ·exact TieS.r 4 rfl ⟨(fun h=>by cases h),rfl,rfl⟩
   ·exact TieS.l 7 rfl (lf rfl rfl)
  ·exact TieS.exitOut rfl ⟨(fun h=>by cases h),rfl,.of rfl rfl⟩
 rintro (i2 | r2) e σ' _ hq
 ·obtain ⟨rfl,hs⟩:=hq
  refine TieX.exit rfl (TieX.sub hs ?_)
  exact TieS.r 4 rfl (rt rfl)
 ·obtain ⟨rfl,hs⟩:=hq
  exact TieX.ret ⟨.inl rfl,hs⟩
theorem q36 (n2:Int) (low:Int) (high:Int):TieF Tryz.prog 140 [NI n2,NI low,NI high] (q53 n2 low high) (fun r=>NB r):=by
 refine TieF.i htab 15 [.tmp 6] Tryz.call140 Tryz.func140 rfl rfl rfl rfl fun w0 L=>?_
 refine TieS.o 10 rfl (.selAnd (v:=decide (n2 ≤ high)) 4 10 (fun b=>⟨[(14,NB b)],[]⟩) rfl ?_ ?_ ?_)
 ·exact TieO.l 5 rfl (lf rfl rfl)
 ·exact TieO.l 5 rfl (lf rfl rfl)
 exact TieO.r 2 rfl (rt rfl)
theorem q730 (y:Int):TieF Tryz.prog 141 [NI y] (q460 y) (fun r=>NB r):=by
 refine TieF.i htab 6 [.tmp 2] Tryz.call141 Tryz.func141 rfl rfl rfl rfl fun w0 L=>?_
 exact TieS.o 7 rfl (.k (q36 y 100 3000) rfl fun v=>.r 3 rfl (rt rfl))
theorem q482 (t2:STables):TieF Tryz.prog 51 [q20 t2] (q417 t2) (fun r=>NB r):=by
 refine TieF.i htab 49 [.tmp 2] Tryz.call51 Tryz.func51 rfl rfl rfl rfl fun w0 L=>?_
 refine TieS.o 10 rfl (.k (q84 t2.Air) rfl fun v=>.o 2 rfl (.bind 5 (fun b2=>⟨[NP 1,(14,NB b2)],[(1,.box (q12 t2))]⟩) (TieO.split 9 rfl ?_ ?_) fun b2 _=>?_))
 ·exact TieO.l 6 rfl (lf rfl rfl)
 ·exact TieO.o 2 rfl (.k (q87 t2.AirTemp) rfl fun v2=>.l 3 rfl (lf rfl rfl))
 refine TieO.s 1 rfl (.cond rfl ?_ ?_)
 ·exact TieS.r 4 rfl (rt rfl)
 ·refine TieS.s 11 rfl (.loop (fun p=>⟨[NP 1,(17,NS (Pv.encS Pv.encI) t2.Air.Z),(18,NI (t2.Air.Z.length:Int)),(19,NI p.1)],[(1,.box (q12 t2))]⟩) (fun b e σ'=>match b with | .inl t=>e = .exit 0 ∧ Sub ⟨[NP 1],[(1,.box (q12 t2))]⟩ σ' | .inr t=>e = .ret ∧ retT tab σ' [.tmp 2] = some (((fun r=>NB r):Bool → T) t)) (.of rfl rfl) ?_ ?_)
  ·rintro ⟨i,s⟩
   refine TieS.s 5 rfl (.cond rfl ?_ ?_)
   ·refine TieS.s 2 rfl (TieX.pre fun x hx=>TieX.sub (σ':=⟨[NP 1,(17,NS (Pv.encS Pv.encI) t2.Air.Z),(18,NI (t2.Air.Z.length:Int)),(19,NI i)],[(1,.box (q12 t2))]⟩) (.of rfl rfl) (TieS.bind (Q₁:=fun f e σ'=>match f with | .next t=>e = .normal ∧ Sub ⟨[NP 1,(17,NS (Pv.encS Pv.encI) t2.Air.Z),(18,NI (t2.Air.Z.length:Int)),(19,NI i)],[(1,.box (q12 t2))]⟩ σ' | .brk t=>e = .exit 0 ∧ Sub ⟨[NP 1],[(1,.box (q12 t2))]⟩ σ' | .ret t=>e = .ret ∧ retT tab σ' [.tmp 2] = some (((fun r=>NB r):Bool → T) t)) ?_ ?_))
    ·refine TieS.o 3 rfl (.indexH hx rfl rfl rfl rfl rfl rfl rfl rfl (fun _=>rfl) (.o 6 rfl (.k (q357 x) rfl fun v3=>.o 2 rfl (.bind 6 (fun b3=>⟨[NP 1,(4,NL x),(17,NS (Pv.encS Pv.encI) t2.Air.Z),(18,NI (t2.Air.Z.length:Int)),(19,NI i),(32,NB b3)],[(1,.box (q12 t2))]⟩) (TieO.split 26 rfl ?_ ?_) fun b3 _=>?_))))
     ·exact TieO.l 7 rfl (lf rfl rfl)
     ·exact TieO.o 1 rfl (.index rfl rfl rfl rfl rfl rfl rfl rfl (fun _=>rfl) fun x2 hx2=>.o 1 rfl (.k (q36 x2 0 1048576) rfl fun v4=>.l 3 rfl (lf rfl rfl)))
     refine TieO.o 1 rfl (.bind 9 (fun b4=>⟨[NP 1,(17,NS (Pv.encS Pv.encI) t2.Air.Z),(18,NI (t2.Air.Z.length:Int)),(19,NI i),(42,NB b4)],[(1,.box (q12 t2))]⟩) (TieO.split 33 rfl ?_ ?_) fun b4 _=>?_)
     ·exact TieO.l 10 rfl (lf rfl rfl)
     ·exact TieO.o 4 rfl (.index rfl rfl rfl rfl rfl rfl rfl rfl (fun _=>rfl) fun x3 hx3=>.o 1 rfl (.k (q36 x3 0 1048576) rfl fun v5=>.l 3 rfl (lf rfl rfl)))
     refine TieO.s 1 rfl (.cond rfl ?_ ?_)
     ·exact TieS.r 4 rfl ⟨rfl,rfl⟩
     ·exact TieS.l 2 rfl (lf rfl rfl)
    rintro (t | t | t) e σ' _ hq
    ·obtain ⟨rfl,hs⟩:=hq
     exact TieX.sub hs (TieS.l 4 rfl (lf rfl rfl))
    ·obtain ⟨rfl,hs⟩:=hq
     exact TieX.exitOut rfl ⟨(fun h=>by cases h),rfl,hs⟩
    ·obtain ⟨rfl,hs⟩:=hq
     exact TieX.ret ⟨(fun h=>by cases h),rfl,hs⟩
   ·exact TieS.exitOut rfl ⟨(fun h=>by cases h),rfl,.of rfl rfl⟩
  rintro (s2 | r2) e σ' _ hq
  ·obtain ⟨rfl,hs⟩:=hq
   refine TieX.exit rfl (TieX.sub hs ?_)
   exact TieS.o 5 rfl (.k (q28 t2.AirTemp.Y 141 [] q460 q730) rfl fun v6=>.r 3 rfl (rt rfl))
  ·obtain ⟨rfl,hs⟩:=hq
   exact TieX.ret ⟨.inl rfl,hs⟩
theorem q40 (x:Int) (low:Int) (high:Int):TieF Tryz.prog 116 [NI x,NI low,NI high] (q50 x low high) (fun r=>NB r):=by
 refine TieF.i htab 15 [.tmp 6] Tryz.call116 Tryz.func116 rfl rfl rfl rfl fun w0 L=>?_
 refine TieS.o 10 rfl (.selAnd (v:=decide (x ≤ high)) 4 10 (fun b=>⟨[(14,NB b)],[]⟩) rfl ?_ ?_ ?_)
 ·exact TieO.l 5 rfl (lf rfl rfl)
 ·exact TieO.l 5 rfl (lf rfl rfl)
 exact TieO.r 2 rfl (rt rfl)
theorem q623 (x:Int) (c:Int) (c2:Int):TieF Tryz.prog 218 [NI x,.el (Pv.encI c),.el (Pv.encI c2)] (q314 x c c2) (fun r=>NB r):=by
 refine TieF.i htab 10 [.tmp 4] Tryz.call218 Tryz.func218 rfl rfl rfl rfl fun w0 L=>?_
 exact TieS.o 9 rfl (.k (q40 x c c2) rfl fun v=>.r 3 rfl (rt rfl))
theorem q469 (l:List Int) (low:Int) (high:Int):TieF Tryz.prog 142 [NL l,NI low,NI high] (q299 l low high) (fun r=>NB r):=by
 refine TieF.i htab 10 [.tmp 6] Tryz.call142 Tryz.func142 rfl rfl rfl rfl fun w0 L=>?_
 exact TieS.o 9 rfl (.frzBox 4 rfl rfl (.frzBox 5 rfl rfl (.o 1 rfl (.sub (σ':=⟨[(0,NL l),(1,NI low),(2,NI high),(4,.el (Pv.encI low)),(5,.el (Pv.encI high)),(6,NB false),(7,NL l),(8,.fz 218 [Pv.encI low,Pv.encI high])],[]⟩) (.of rfl rfl) (.k (q28 l 218 [Pv.encI low,Pv.encI high] (fun x0=>q314 x0 low high) (fun x0=>q623 x0 low high)) rfl fun v=>.r 2 rfl (rt rfl))))))
theorem q290 (x:List Int) (n2:Nat) (cs:List (List Tree)) (cmp:Int → Int → Option Int) (h2:∀ x0 x1,TieF Tryz.prog n2 ([NI x0,NI x1] ++ cs.map T.el) (cmp x0 x1) (fun r=>NI r)):TieF Tryz.prog 143 [NL x,.fz n2 cs] (q57 x cmp) (fun r=>NB r):=by
 refine TieF.i htab 25 [.tmp 4] Tryz.call143 Tryz.func143 rfl rfl rfl rfl fun w0 L=>?_
 refine TieS.s 13 rfl (.loop (fun t=>⟨[(0,NL x),(1,.fz n2 cs),(5,NI t)],[]⟩) (fun b e σ'=>match b with | .inl t=>e = .exit 0 ∧ Sub ⟨[],[]⟩ σ' | .inr t=>e = .ret ∧ retT tab σ' [.tmp 4] = some (((fun r=>NB r):Bool → T) t)) (.of rfl rfl) ?_ ?_)
 ·intro i
  refine TieS.s 6 rfl (.cond rfl ?_ ?_)
  ·refine TieS.s 4 rfl (TieX.pre fun x2 hx2=>TieX.pre fun x3 hx3=>TieX.pre fun v hv=>TieS.dr 12 [(0,NL x),(1,.fz n2 cs),(5,NI i)] [] mixed (.of rfl rfl) (.q rfl rfl rfl (.q rfl rfl rfl (.q rfl rfl rfl (.cons (.index hx2 rfl rfl rfl rfl rfl rfl (fun _=>rfl)) (.q rfl rfl rfl (.q rfl rfl rfl (.q rfl rfl rfl (.q rfl rfl rfl (.cons (.index hx3 rfl rfl rfl rfl rfl rfl (fun _=>rfl)) (.q rfl rfl rfl (.cons (.callV (h2 x2 x3) hv rfl rfl rfl rfl) (.q rfl rfl rfl (.nil))))))))))))) rfl (.s 1 rfl (.cond rfl ?_ ?_)))
   ·exact TieS.r 4 rfl ⟨(fun h=>by cases h),rfl,rfl⟩
   ·exact TieS.l 7 rfl (lf rfl rfl)
  ·exact TieS.exitOut rfl ⟨(fun h=>by cases h),rfl,.of rfl rfl⟩
 rintro (i2 | r2) e σ' _ hq
 ·obtain ⟨rfl,hs⟩:=hq
  refine TieX.exit rfl (TieX.sub hs ?_)
  exact TieS.r 4 rfl (rt rfl)
 ·obtain ⟨rfl,hs⟩:=hq
  exact TieX.ret ⟨.inl rfl,hs⟩
theorem q648 (a:Int) (b2:Int):TieF Tryz.prog 144 [NI a,NI b2] (q102 a b2) (fun r=>NI r):=by
 refine TieF.i htab 8 [.tmp 4] Tryz.call144 Tryz.func144 rfl rfl rfl rfl fun w0 L=>?_
 exact TieS.r 11 rfl (rt rfl)
theorem q660 (row:List Int):TieF Tryz.prog 145 [NL row] (q195 row) (fun r=>NB r):=by
 refine TieF.i htab 10 [.tmp 2] Tryz.call145 Tryz.func145 rfl rfl rfl rfl fun w0 L=>?_
 refine TieS.o 7 rfl (.k (q469 row 0 10000) rfl fun v=>.o 1 rfl (.bind 4 (fun b2=>⟨[(9,NB b2)],[]⟩) (TieO.split 5 rfl ?_ ?_) fun b2 _=>?_))
 ·exact TieO.l 5 rfl (lf rfl rfl)
 ·exact TieO.o 1 rfl (.k (q357 row) rfl fun v2=>.l 3 rfl (lf rfl rfl))
 exact TieO.r 2 rfl (rt rfl)
theorem q410 (t2:STables):TieF Tryz.prog 52 [q20 t2] (q286 t2) (fun r=>NB r):=by
 refine TieF.i htab 29 [.tmp 2] Tryz.call52 Tryz.func52 rfl rfl rfl rfl fun w0 L=>?_
 refine TieS.o 10 rfl (.k (q84 t2.Torque) rfl fun v=>.o 2 rfl (.bind 5 (fun b2=>⟨[NP 1,(12,NB b2)],[(1,.box (q12 t2))]⟩) (TieO.split 7 rfl ?_ ?_) fun b2 _=>?_))
 ·exact TieO.l 6 rfl (lf rfl rfl)
 ·exact TieO.o 2 rfl (.k (q87 t2.Efficiency) rfl fun v2=>.l 3 rfl (lf rfl rfl))
 refine TieO.o 1 rfl (.bind 5 (fun b3=>⟨[NP 1,(18,NB b3)],[(1,.box (q12 t2))]⟩) (TieO.split 13 rfl ?_ ?_) fun b3 _=>?_)
 ·exact TieO.l 6 rfl (lf rfl rfl)
 ·exact TieO.o 3 rfl (.k (q469 t2.Efficiency.Y 0 1000) rfl fun v3=>.l 2 rfl (lf rfl rfl))
 refine TieO.s 1 rfl (.cond rfl ?_ ?_)
 ·exact TieS.r 4 rfl (rt rfl)
 ·refine TieS.o 7 rfl (.k (q290 t2.Efficiency.Y 144 [] q102 q648) rfl fun v4=>.s 2 rfl (.cond rfl ?_ ?_))
  ·exact TieS.r 4 rfl (rt rfl)
  ·exact TieS.o 6 rfl (.k (q125 t2.Torque.Z 145 [] q195 q660) rfl fun v5=>.r 3 rfl (rt rfl))
theorem q668 (x:Int) (c:Int) (c2:Int):TieF Tryz.prog 151 [NI x,.el (Pv.encI c),.el (Pv.encI c2)] (q398 x c c2) (fun r=>NB r):=by
 refine TieF.i htab 10 [.tmp 4] Tryz.call151 Tryz.func151 rfl rfl rfl rfl fun w0 L=>?_
 exact TieS.o 9 rfl (.k (q51 x c c2) rfl fun v=>.r 3 rfl (rt rfl))
theorem q344 (l:List Int) (low:Int) (high:Int):TieF Tryz.prog 55 [NL l,NI low,NI high] (q259 l low high) (fun r=>NB r):=by
 refine TieF.i htab 11 [.tmp 6] Tryz.call55 Tryz.func55 rfl rfl rfl rfl fun w0 L=>?_
 exact TieS.o 9 rfl (.frzBox 4 rfl rfl (.frzBox 5 rfl rfl (.o 1 rfl (.sub (σ':=⟨[(0,NL l),(1,NI low),(2,NI high),(4,.el (Pv.encI low)),(5,.el (Pv.encI high)),(6,NB false),(7,NL l),(8,.fz 151 [Pv.encI low,Pv.encI high])],[]⟩) (.of rfl rfl) (.k (q28 l 151 [Pv.encI low,Pv.encI high] (fun x0=>q398 x0 low high) (fun x0=>q668 x0 low high)) rfl fun v=>.r 3 rfl (rt rfl))))))
theorem q311 (g:SGain):TieF Tryz.prog 56 [A_SGain g] (q60 g) (fun r=>NB r):=by
 refine TieF.i htab 38 [.tmp 2] Tryz.call56 Tryz.func56 rfl rfl rfl rfl fun w0 L=>?_
 refine TieS.o 11 rfl (.selAnd (v:=decide (g.P ≤ 65536)) 4 6 (fun b=>⟨[NP 1,(10,NB b)],[(1,.box [NI g.P,NI g.I,NI g.Low,NI g.High])]⟩) rfl ?_ ?_ ?_)
 ·exact TieO.l 5 rfl (lf rfl rfl)
 ·exact TieO.l 5 rfl (lf rfl rfl)
 refine TieO.o 1 rfl (.selAnd (v:=decide (g.I ≥ 0)) 4 11 (fun b=>⟨[NP 1,(15,NB b)],[(1,.box [NI g.P,NI g.I,NI g.Low,NI g.High])]⟩) rfl ?_ ?_ ?_)
 ·exact TieO.l 5 rfl (lf rfl rfl)
 ·exact TieO.l 5 rfl (lf rfl rfl)
 refine TieO.o 1 rfl (.selAnd (v:=decide (g.I ≤ 65536)) 4 16 (fun b=>⟨[NP 1,(20,NB b)],[(1,.box [NI g.P,NI g.I,NI g.Low,NI g.High])]⟩) rfl ?_ ?_ ?_)
 ·exact TieO.l 5 rfl (lf rfl rfl)
 ·exact TieO.l 5 rfl (lf rfl rfl)
 refine TieO.o 1 rfl (.selAnd (v:=decide (g.Low ≥ (-1073741824))) 4 21 (fun b=>⟨[NP 1,(25,NB b)],[(1,.box [NI g.P,NI g.I,NI g.Low,NI g.High])]⟩) rfl ?_ ?_ ?_)
 ·exact TieO.l 5 rfl (lf rfl rfl)
 ·exact TieO.l 5 rfl (lf rfl rfl)
 refine TieO.o 1 rfl (.selAnd (v:=decide (g.Low ≤ g.High)) 6 26 (fun b=>⟨[NP 1,(32,NB b)],[(1,.box [NI g.P,NI g.I,NI g.Low,NI g.High])]⟩) rfl ?_ ?_ ?_)
 ·exact TieO.l 7 rfl (lf rfl rfl)
 ·exact TieO.l 7 rfl (lf rfl rfl)
 refine TieO.o 1 rfl (.selAnd (v:=decide (g.High ≤ 1073741824)) 4 33 (fun b=>⟨[(37,NB b)],[]⟩) rfl ?_ ?_ ?_)
 ·exact TieO.l 5 rfl (lf rfl rfl)
 ·exact TieO.l 5 rfl (lf rfl rfl)
 exact TieO.r 2 rfl (rt rfl)
theorem q673 (t2:STables):TieF Tryz.prog 15 [q20 t2] (q397 t2) (fun r=>NB r):=by
 refine TieF.i htab 64 [.tmp 2] Tryz.call15 Tryz.func15 rfl rfl rfl rfl fun w0 L=>?_
 refine TieS.o 9 rfl (.k (q482 t2) rfl fun v=>.o 2 rfl (.bind 4 (fun b2=>⟨[NP 1,(12,NB b2)],[(1,.box (q12 t2))]⟩) (TieO.split 8 rfl ?_ ?_) fun b2 _=>?_))
 ·exact TieO.l 5 rfl (lf rfl rfl)
 ·exact TieO.o 1 rfl (.k (q410 t2) rfl fun v2=>.l 3 rfl (lf rfl rfl))
 refine TieO.o 1 rfl (.bind 5 (fun b3=>⟨[NP 1,(18,NB b3)],[(1,.box (q12 t2))]⟩) (TieO.split 13 rfl ?_ ?_) fun b3 _=>?_)
 ·exact TieO.l 6 rfl (lf rfl rfl)
 ·exact TieO.o 2 rfl (.k (q84 t2.Spark) rfl fun v3=>.l 3 rfl (lf rfl rfl))
 refine TieO.o 1 rfl (.bind 5 (fun b4=>⟨[NP 1,(24,NB b4)],[(1,.box (q12 t2))]⟩) (TieO.split 19 rfl ?_ ?_) fun b4 _=>?_)
 ·exact TieO.l 6 rfl (lf rfl rfl)
 ·exact TieO.o 2 rfl (.k (q84 t2.Wish) rfl fun v4=>.l 3 rfl (lf rfl rfl))
 refine TieO.o 1 rfl (.bind 5 (fun b5=>⟨[NP 1,(30,NB b5)],[(1,.box (q12 t2))]⟩) (TieO.split 25 rfl ?_ ?_) fun b5 _=>?_)
 ·exact TieO.l 6 rfl (lf rfl rfl)
 ·exact TieO.o 2 rfl (.k (q87 t2.Dwell) rfl fun v5=>.l 3 rfl (lf rfl rfl))
 refine TieO.o 1 rfl (.bind 5 (fun b6=>⟨[NP 1,(36,NB b6)],[(1,.box (q12 t2))]⟩) (TieO.split 31 rfl ?_ ?_) fun b6 _=>?_)
 ·exact TieO.l 6 rfl (lf rfl rfl)
 ·exact TieO.o 2 rfl (.k (q87 t2.Dead) rfl fun v6=>.l 3 rfl (lf rfl rfl))
 refine TieO.s 1 rfl (.cond rfl ?_ ?_)
 ·exact TieS.r 4 rfl (rt rfl)
 ·refine TieS.s 11 rfl (.loop (fun p=>⟨[NP 1,(39,NS (Pv.encS Pv.encI) t2.Spark.Z),(40,NI (t2.Spark.Z.length:Int)),(41,NI p.1)],[(1,.box (q12 t2))]⟩) (fun b e σ'=>match b with | .inl t=>e = .exit 0 ∧ Sub ⟨[NP 1],[(1,.box (q12 t2))]⟩ σ' | .inr t=>e = .ret ∧ retT tab σ' [.tmp 2] = some (((fun r=>NB r):Bool → T) t)) (.of rfl rfl) ?_ ?_)
  ·rintro ⟨i,s⟩
   refine TieS.s 5 rfl (.cond rfl ?_ ?_)
   ·refine TieS.s 2 rfl (TieX.pre fun x hx=>TieX.sub (σ':=⟨[NP 1,(39,NS (Pv.encS Pv.encI) t2.Spark.Z),(40,NI (t2.Spark.Z.length:Int)),(41,NI i)],[(1,.box (q12 t2))]⟩) (.of rfl rfl) (TieS.bind (Q₁:=fun f e σ'=>match f with | .next t=>e = .normal ∧ Sub ⟨[NP 1,(39,NS (Pv.encS Pv.encI) t2.Spark.Z),(40,NI (t2.Spark.Z.length:Int)),(41,NI i)],[(1,.box (q12 t2))]⟩ σ' | .brk t=>e = .exit 0 ∧ Sub ⟨[NP 1],[(1,.box (q12 t2))]⟩ σ' | .ret t=>e = .ret ∧ retT tab σ' [.tmp 2] = some (((fun r=>NB r):Bool → T) t)) ?_ ?_))
    ·refine TieS.o 3 rfl (.indexH hx rfl rfl rfl rfl rfl rfl rfl rfl (fun _=>rfl) (.o 6 rfl (.k (q344 x (-1280) 3840) rfl fun v7=>.s 2 rfl (.cond rfl ?_ ?_))))
     ·exact TieS.r 4 rfl ⟨rfl,rfl⟩
     ·exact TieS.l 2 rfl (lf rfl rfl)
    rintro (t | t | t) e σ' _ hq
    ·obtain ⟨rfl,hs⟩:=hq
     exact TieX.sub hs (TieS.l 4 rfl (lf rfl rfl))
    ·obtain ⟨rfl,hs⟩:=hq
     exact TieX.exitOut rfl ⟨(fun h=>by cases h),rfl,hs⟩
    ·obtain ⟨rfl,hs⟩:=hq
     exact TieX.ret ⟨(fun h=>by cases h),rfl,hs⟩
   ·exact TieS.exitOut rfl ⟨(fun h=>by cases h),rfl,.of rfl rfl⟩
  rintro (s2 | r2) e σ' _ hq
  ·obtain ⟨rfl,hs⟩:=hq
   refine TieX.exit rfl (TieX.sub hs ?_)
   refine TieS.o 5 rfl (.k (q344 t2.Dwell.Y 500 10000) rfl fun v8=>.o 1 rfl (.bind 5 (fun b7=>⟨[NP 1,(58,NB b7)],[(1,.box (q12 t2))]⟩) (TieO.split 53 rfl ?_ ?_) fun b7 _=>?_))
   ·exact TieO.o 3 rfl (.k (q344 t2.Dead.Y 0 10000) rfl fun v9=>.l 2 rfl (lf rfl rfl))
   ·exact TieO.l 6 rfl (lf rfl rfl)
   refine TieO.o 1 rfl (.bind 4 (fun b8=>⟨[(63,NB b8)],[]⟩) (TieO.split 59 rfl ?_ ?_) fun b8 _=>?_)
   ·exact TieO.o 2 rfl (.k (q311 t2.Idle) rfl fun v10=>.l 2 rfl (lf rfl rfl))
   ·exact TieO.l 5 rfl (lf rfl rfl)
   exact TieO.r 2 rfl (rt rfl)
  ·obtain ⟨rfl,hs⟩:=hq
   exact TieX.ret ⟨.inl rfl,hs⟩
theorem q440 (s:List SRequest) (n2:Nat) (cs:List (List Tree)) (f2:SRequest → Option Bool) (h2:∀ x0,TieF Tryz.prog n2 ([q33 x0] ++ cs.map T.el) (f2 x0) (fun r=>NB r)):TieF Tryz.prog 161 [NS q10 s,.fz n2 cs] (q343 s f2) (fun r=>NI r):=by
 refine TieF.i htab 19 [.tmp 4] Tryz.call161 Tryz.func161 rfl rfl rfl rfl fun w0 L=>?_
 refine TieS.s 12 rfl (.loop (fun p=>⟨[(0,NS q10 s),(1,.fz n2 cs),(7,NI (s.length:Int)),(8,NI p.1)],[]⟩) (fun b e σ'=>match b with | .inl t=>e = .exit 0 ∧ Sub ⟨[],[]⟩ σ' | .inr t=>e = .ret ∧ retT tab σ' [.tmp 4] = some (((fun r=>NI r):Int → T) t)) (.of rfl rfl) ?_ ?_)
 ·rintro ⟨i,s2⟩
  refine TieS.s 5 rfl (.cond rfl ?_ ?_)
  ·refine TieS.s 2 rfl (TieX.sub (σ':=⟨[(0,NS q10 s),(1,.fz n2 cs),(7,NI (s.length:Int)),(8,NI i)],[]⟩) (.of rfl rfl) (TieS.bind (Q₁:=fun f e σ'=>match f with | .next t=>e = .normal ∧ Sub ⟨[(0,NS q10 s),(1,.fz n2 cs),(7,NI (s.length:Int)),(8,NI i)],[]⟩ σ' | .brk t=>e = .exit 0 ∧ Sub ⟨[],[]⟩ σ' | .ret t=>e = .ret ∧ retT tab σ' [.tmp 4] = some (((fun r=>NI r):Int → T) t)) ?_ ?_))
   ·refine TieS.o 11 rfl (.index rfl rfl rfl rfl rfl rfl rfl rfl (fun _=>rfl) fun x hx=>.o 1 rfl (.k (h2 x) rfl fun v=>.s 1 rfl (.cond rfl ?_ ?_)))
    ·exact TieS.r 5 rfl ⟨rfl,rfl⟩
    ·exact TieS.l 2 rfl (lf rfl rfl)
   rintro (t | t | t) e σ' _ hq
   ·obtain ⟨rfl,hs⟩:=hq
    exact TieX.sub hs (TieS.l 4 rfl (lf rfl rfl))
   ·obtain ⟨rfl,hs⟩:=hq
    exact TieX.exitOut rfl ⟨(fun h=>by cases h),rfl,hs⟩
   ·obtain ⟨rfl,hs⟩:=hq
    exact TieX.ret ⟨(fun h=>by cases h),rfl,hs⟩
  ·exact TieS.exitOut rfl ⟨(fun h=>by cases h),rfl,.of rfl rfl⟩
 rintro (s3 | r2) e σ' _ hq
 ·obtain ⟨rfl,hs⟩:=hq
  refine TieX.exit rfl (TieX.sub hs ?_)
  exact TieS.r 4 rfl (rt rfl)
 ·obtain ⟨rfl,hs⟩:=hq
  exact TieX.ret ⟨.inl rfl,hs⟩
theorem q200 (s:List SRequest) (n2:Nat) (cs:List (List Tree)) (f2:SRequest → Option Bool) (h2:∀ x0,TieF Tryz.prog n2 ([q33 x0] ++ cs.map T.el) (f2 x0) (fun r=>NB r)):TieF Tryz.prog 76 [NS q10 s,.fz n2 cs] (q56 s f2) (fun r=>NB r):=by
 refine TieF.i htab 9 [.tmp 4] Tryz.call76 Tryz.func76 rfl rfl rfl rfl fun w0 L=>?_
 exact TieS.o 8 rfl (.k (q440 s n2 cs f2 h2) rfl fun v=>.r 3 rfl (rt rfl))
theorem q234 (t2:Int):TieF Tryz.prog 128 [NI t2] (q98 t2) (fun r=>NB r):=by
 refine TieF.i htab 9 [.tmp 2] Tryz.call128 Tryz.func128 rfl rfl rfl rfl fun w0 L=>?_
 refine TieS.o 9 rfl (.selAnd (v:=decide (t2 ≤ 10000)) 3 5 (fun b=>⟨[(8,NB b)],[]⟩) rfl ?_ ?_ ?_)
 ·exact TieO.l 4 rfl (lf rfl rfl)
 ·exact TieO.l 4 rfl (lf rfl rfl)
 exact TieO.r 2 rfl (rt rfl)
abbrev x78_0 (r2:SRequest):List T:=[NI r2.Source,NI r2.Kind,NI r2.Torque,NI r2.Priority]
theorem q485 (r2:SRequest):TieF Tryz.prog 78 [q33 r2] (q166 r2) (fun r=>NB r):=by
 refine TieF.i htab 45 [.tmp 2] Tryz.call78 Tryz.func78 rfl rfl rfl rfl fun w0 L=>?_
 refine TieS.o 12 rfl (.selOr (v:=decide (r2.Source > 15)) 4 6 (fun b=>⟨[NP 1,(10,NB b)],[(1,.box (x78_0 r2))]⟩) rfl ?_ ?_ ?_)
 ·exact TieO.l 5 rfl (lf rfl rfl)
 ·exact TieO.l 5 rfl (lf rfl rfl)
 refine TieO.o 1 rfl (.selOr (v:=decide (r2.Priority < 0)) 4 11 (fun b=>⟨[NP 1,(15,NB b)],[(1,.box (x78_0 r2))]⟩) rfl ?_ ?_ ?_)
 ·exact TieO.l 5 rfl (lf rfl rfl)
 ·exact TieO.l 5 rfl (lf rfl rfl)
 refine TieO.o 1 rfl (.selOr (v:=decide (r2.Priority > 15)) 4 16 (fun b=>⟨[NP 1,(20,NB b)],[(1,.box (x78_0 r2))]⟩) rfl ?_ ?_ ?_)
 ·exact TieO.l 5 rfl (lf rfl rfl)
 ·exact TieO.l 5 rfl (lf rfl rfl)
 refine TieO.o 1 rfl (.bind 5 (fun b2=>⟨[NP 1,(26,NB b2)],[(1,.box (x78_0 r2))]⟩) (TieO.split 21 rfl ?_ ?_) fun b2 _=>?_)
 ·exact TieO.l 6 rfl (lf rfl rfl)
 ·exact TieO.o 2 rfl (.k (q234 r2.Torque) rfl fun v=>.l 3 rfl (lf rfl rfl))
 refine TieO.s 1 rfl (.cond rfl ?_ ?_)
 ·exact TieS.r 4 rfl (rt rfl)
 ·refine TieS.o 7 rfl (.bind 14 (fun b4=>⟨[(44,NB b4)],[]⟩) (TieO.split 30 rfl ?_ ?_) fun b4 _=>?_)
  ·exact TieO.l 15 rfl (lf rfl rfl)
  ·refine TieO.o 4 rfl (.bind 9 (fun b3=>⟨[(30,NB false),(43,NB b3)],[]⟩) (TieO.split 34 rfl ?_ ?_) fun b3 _=>?_)
   ·refine TieO.o 4 rfl (.selOr (v:=(r2.Kind == 3)) 4 38 (fun b=>⟨[(30,NB false),(34,NB true),(42,NB b)],[]⟩) rfl ?_ ?_ ?_)
    ·exact TieO.l 5 rfl (lf rfl rfl)
    ·exact TieO.l 5 rfl (lf rfl rfl)
    exact TieO.l 2 rfl (lf rfl rfl)
   ·exact TieO.l 10 rfl (lf rfl rfl)
   exact TieO.l 2 rfl (lf rfl rfl)
  exact TieO.r 2 rfl (rt rfl)
theorem q630 (r2:SRequest):TieF Tryz.prog 77 [q33 r2] (q149 r2) (fun r=>NB r):=by
 refine TieF.i htab 6 [.tmp 2] Tryz.call77 Tryz.func77 rfl rfl rfl rfl fun w0 L=>?_
 exact TieS.o 8 rfl (.k (q485 r2) rfl fun v=>.r 3 rfl (rt rfl))
theorem q674 (i:SInputs) (cylinders:Int):TieF Tryz.prog 20 [q308 i,NI cylinders] (q400 i cylinders) (fun r=>NB r):=by
 refine TieF.i htab 62 [.tmp 4] Tryz.call20 Tryz.func20 rfl rfl rfl rfl fun w0 L=>?_
 refine TieS.o 9 rfl (.k (q51 cylinders 1 8) rfl fun v=>.o 2 rfl (.selOr (v:=((i.Intensity.length:Int) != cylinders)) 6 9 (fun b=>⟨[NP 2,(15,NB b)],[(2,.box (q14 i))]⟩) rfl ?_ ?_ ?_))
 ·exact TieO.l 7 rfl (lf rfl rfl)
 ·exact TieO.l 7 rfl (lf rfl rfl)
 refine TieO.o 1 rfl (.selOr (v:=decide ((i.Requests.length:Int) > 30)) 5 16 (fun b=>⟨[NP 2,(21,NB b)],[(2,.box (q14 i))]⟩) rfl ?_ ?_ ?_)
 ·exact TieO.l 6 rfl (lf rfl rfl)
 ·exact TieO.l 6 rfl (lf rfl rfl)
 refine TieO.s 1 rfl (.cond rfl ?_ ?_)
 ·exact TieS.r 4 rfl (rt rfl)
 ·refine TieS.o 5 rfl (.k (q51 i.Speed 0 12000) rfl fun v2=>.o 1 rfl (.bind 4 (fun b2=>⟨[NP 2,(29,NB b2)],[(2,.box (q14 i))]⟩) (TieO.split 25 rfl ?_ ?_) fun b2 _=>?_))
  ·exact TieO.o 2 rfl (.k (q51 i.Pressure 50 3000) rfl fun v3=>.l 2 rfl (lf rfl rfl))
  ·exact TieO.l 5 rfl (lf rfl rfl)
  refine TieO.o 1 rfl (.bind 4 (fun b3=>⟨[NP 2,(34,NB b3)],[(2,.box (q14 i))]⟩) (TieO.split 30 rfl ?_ ?_) fun b3 _=>?_)
  ·exact TieO.o 2 rfl (.k (q51 i.AirTemp (-40) 150) rfl fun v4=>.l 2 rfl (lf rfl rfl))
  ·exact TieO.l 5 rfl (lf rfl rfl)
  refine TieO.o 1 rfl (.bind 4 (fun b4=>⟨[NP 2,(39,NB b4)],[(2,.box (q14 i))]⟩) (TieO.split 35 rfl ?_ ?_) fun b4 _=>?_)
  ·exact TieO.o 2 rfl (.k (q51 i.Coolant (-40) 150) rfl fun v5=>.l 2 rfl (lf rfl rfl))
  ·exact TieO.l 5 rfl (lf rfl rfl)
  refine TieO.o 1 rfl (.bind 4 (fun b5=>⟨[NP 2,(44,NB b5)],[(2,.box (q14 i))]⟩) (TieO.split 40 rfl ?_ ?_) fun b5 _=>?_)
  ·exact TieO.o 2 rfl (.k (q51 i.Voltage 0 20000) rfl fun v6=>.l 2 rfl (lf rfl rfl))
  ·exact TieO.l 5 rfl (lf rfl rfl)
  refine TieO.o 1 rfl (.bind 4 (fun b6=>⟨[NP 2,(49,NB b6)],[(2,.box (q14 i))]⟩) (TieO.split 45 rfl ?_ ?_) fun b6 _=>?_)
  ·exact TieO.o 2 rfl (.k (q51 i.Lambda 0 20000) rfl fun v7=>.l 2 rfl (lf rfl rfl))
  ·exact TieO.l 5 rfl (lf rfl rfl)
  refine TieO.o 6 rfl (.bind 4 (fun b7=>⟨[NP 2,(55,NB b7)],[(2,.box (q14 i))]⟩) (TieO.split 51 rfl ?_ ?_) fun b7 _=>?_)
  ·exact TieO.o 2 rfl (.k (q344 i.Intensity 0 4095) rfl fun v8=>.l 2 rfl (lf rfl rfl))
  ·exact TieO.l 5 rfl (lf rfl rfl)
  refine TieO.o 1 rfl (.bind 5 (fun b8=>⟨[(61,NB b8)],[]⟩) (TieO.split 56 rfl ?_ ?_) fun b8 _=>?_)
  ·exact TieO.o 2 rfl (.k (q200 i.Requests 77 [] q149 q630) rfl fun v9=>.l 3 rfl (lf rfl rfl))
  ·exact TieO.l 6 rfl (lf rfl rfl)
  exact TieO.r 2 rfl (rt rfl)
theorem q94 (x:Int) (low:Int) (high:Int):TieF Tryz.prog 162 [NI x,NI low,NI high] (q113 x low high) (fun r=>NB r):=by
 refine TieF.i htab 15 [.tmp 6] Tryz.call162 Tryz.func162 rfl rfl rfl rfl fun w0 L=>?_
 refine TieS.o 10 rfl (.selAnd (v:=decide (x ≤ high)) 4 10 (fun b=>⟨[(14,NB b)],[]⟩) rfl ?_ ?_ ?_)
 ·exact TieO.l 5 rfl (lf rfl rfl)
 ·exact TieO.l 5 rfl (lf rfl rfl)
 exact TieO.r 2 rfl (rt rfl)
abbrev x81_0 (b2:SBody):List T:=[NI b2.Inertia,NI b2.Friction,NI b2.Volume,NI b2.Throttle,NI b2.Film,NI b2.Evaporate,NI b2.Delay]
theorem q540 (b2:SBody):TieF Tryz.prog 81 [A_SBody b2] (q393 b2) (fun r=>NB r):=by
 refine TieF.i htab 36 [.tmp 2] Tryz.call81 Tryz.func81 rfl rfl rfl rfl fun w0 L=>?_
 refine TieS.o 9 rfl (.k (q94 b2.Inertia 100 1048576) rfl fun v=>.o 1 rfl (.bind 4 (fun b3=>⟨[NP 1,(10,NB b3)],[(1,.box (x81_0 b2))]⟩) (TieO.split 6 rfl ?_ ?_) fun b3 _=>?_))
 ·exact TieO.o 2 rfl (.k (q94 b2.Friction 0 65536) rfl fun v2=>.l 2 rfl (lf rfl rfl))
 ·exact TieO.l 5 rfl (lf rfl rfl)
 refine TieO.o 1 rfl (.bind 4 (fun b4=>⟨[NP 1,(15,NB b4)],[(1,.box (x81_0 b2))]⟩) (TieO.split 11 rfl ?_ ?_) fun b4 _=>?_)
 ·exact TieO.o 2 rfl (.k (q94 b2.Throttle 0 65536) rfl fun v3=>.l 2 rfl (lf rfl rfl))
 ·exact TieO.l 5 rfl (lf rfl rfl)
 refine TieO.o 1 rfl (.bind 4 (fun b5=>⟨[NP 1,(20,NB b5)],[(1,.box (x81_0 b2))]⟩) (TieO.split 16 rfl ?_ ?_) fun b5 _=>?_)
 ·exact TieO.o 2 rfl (.k (q94 b2.Volume 1 65536) rfl fun v4=>.l 2 rfl (lf rfl rfl))
 ·exact TieO.l 5 rfl (lf rfl rfl)
 refine TieO.o 1 rfl (.bind 4 (fun b6=>⟨[NP 1,(25,NB b6)],[(1,.box (x81_0 b2))]⟩) (TieO.split 21 rfl ?_ ?_) fun b6 _=>?_)
 ·exact TieO.o 2 rfl (.k (q94 b2.Film 0 1023) rfl fun v5=>.l 2 rfl (lf rfl rfl))
 ·exact TieO.l 5 rfl (lf rfl rfl)
 refine TieO.o 1 rfl (.bind 4 (fun b7=>⟨[NP 1,(30,NB b7)],[(1,.box (x81_0 b2))]⟩) (TieO.split 26 rfl ?_ ?_) fun b7 _=>?_)
 ·exact TieO.o 2 rfl (.k (q94 b2.Evaporate 1 1024) rfl fun v6=>.l 2 rfl (lf rfl rfl))
 ·exact TieO.l 5 rfl (lf rfl rfl)
 refine TieO.o 1 rfl (.bind 4 (fun b8=>⟨[(35,NB b8)],[]⟩) (TieO.split 31 rfl ?_ ?_) fun b8 _=>?_)
 ·exact TieO.o 2 rfl (.k (q94 b2.Delay 0 20) rfl fun v7=>.l 2 rfl (lf rfl rfl))
 ·exact TieO.l 5 rfl (lf rfl rfl)
 exact TieO.r 2 rfl (rt rfl)
theorem q429 (n2:Int):TieF Tryz.prog 109 [NI n2] (q135 n2) (fun r=>NB r):=by
 refine TieF.i htab 9 [.tmp 2] Tryz.call109 Tryz.func109 rfl rfl rfl rfl fun w0 L=>?_
 refine TieS.o 9 rfl (.selAnd (v:=decide (n2 ≤ 12000)) 3 5 (fun b=>⟨[(8,NB b)],[]⟩) rfl ?_ ?_ ?_)
 ·exact TieO.l 4 rfl (lf rfl rfl)
 ·exact TieO.l 4 rfl (lf rfl rfl)
 exact TieO.r 2 rfl (rt rfl)
theorem q70 (coolant:Int):TieF Tryz.prog 36 [NI coolant] (q389 coolant) (fun r=>NI r):=by
 refine TieF.i htab 14 [.tmp 2] Tryz.call36 Tryz.func36 rfl rfl rfl rfl fun w0 L=>?_
 refine TieS.s 12 rfl (.cond rfl ?_ ?_)
 ·exact TieS.r 4 rfl (rt rfl)
 ·refine TieS.s 6 rfl (.cond rfl ?_ ?_)
  ·exact TieS.r 4 rfl (rt rfl)
  ·exact TieS.r 11 rfl (rt rfl)
theorem q765 (speed:Int) (coolant:Int):TieF Tryz.prog 110 [NI speed,NI coolant] (q646 speed coolant) (fun r=>NB r):=by
 refine TieF.i htab 10 [.tmp 4] Tryz.call110 Tryz.func110 rfl rfl rfl rfl fun w0 L=>?_
 exact TieS.o 8 rfl (.k (q70 coolant) rfl fun v=>.r 4 rfl (rt rfl))
theorem q723 (pedal:Int) (speed:Int) (coolant:Int):TieF Tryz.prog 25 [NI pedal,NI speed,NI coolant] (q459 pedal speed coolant) (fun r=>NB r):=by
 refine TieF.i htab 22 [.tmp 6] Tryz.call25 Tryz.func25 rfl rfl rfl rfl fun w0 L=>?_
 refine TieS.o 9 rfl (.selAnd (v:=decide (pedal < 20)) 3 9 (fun b=>⟨[(1,NI speed),(2,NI coolant),(12,NB b)],[]⟩) rfl ?_ ?_ ?_)
 ·exact TieO.l 4 rfl (lf rfl rfl)
 ·exact TieO.l 4 rfl (lf rfl rfl)
 refine TieO.o 1 rfl (.bind 3 (fun b2=>⟨[(1,NI speed),(2,NI coolant),(16,NB b2)],[]⟩) (TieO.split 13 rfl ?_ ?_) fun b2 _=>?_)
 ·exact TieO.o 1 rfl (.k (q429 speed) rfl fun v=>.l 2 rfl (lf rfl rfl))
 ·exact TieO.l 4 rfl (lf rfl rfl)
 refine TieO.o 1 rfl (.bind 4 (fun b3=>⟨[(21,NB b3)],[]⟩) (TieO.split 17 rfl ?_ ?_) fun b3 _=>?_)
 ·exact TieO.o 2 rfl (.k (q765 speed coolant) rfl fun v2=>.l 2 rfl (lf rfl rfl))
 ·exact TieO.l 5 rfl (lf rfl rfl)
 exact TieO.r 2 rfl (rt rfl)
theorem q31 (x:Int) (low:Int) (high:Int):TieF Tryz.prog 111 [NI x,NI low,NI high] (q38 x low high) (fun r=>NI r):=by
 refine TieF.i htab 12 [.tmp 6] Tryz.call111 Tryz.func111 rfl rfl rfl rfl fun w0 L=>?_
 exact TieS.r 13 rfl (rt rfl)
theorem q161 (n2:Int) (n3:Nat) (cs:List (List Tree)) (f2:Int → Option Bool) (h2:∀ x0,TieF Tryz.prog n3 ([NI x0] ++ cs.map T.el) (f2 x0) (fun r=>NB r)):TieF Tryz.prog 224 [NI n2,.fz n3 cs] (q66 n2 f2) (fun r=>NI r):=by
 refine TieF.i htab 26 [.tmp 4] Tryz.call224 Tryz.func224 rfl rfl rfl rfl fun w0 L=>?_
 refine TieS.s 12 rfl (.loop (fun t=>⟨[(1,.fz n3 cs),(5,NI t.1),(6,NI t.2)],[]⟩) (fun b e σ'=>match b with | .inl t=>e = .exit 0 ∧ Sub ⟨[(5,NI t.1)],[]⟩ σ' | .inr t=>False) (.of rfl rfl) ?_ ?_)
 ·intro s
  refine TieS.s 7 rfl (.cond rfl ?_ ?_)
  ·refine TieS.o 16 rfl (.k (h2 (w64 (bitShr .u64 (IntKind.u64.wrap (w64 (s.1 + s.2))) 1))) rfl fun v=>.s 2 rfl (.cond rfl ?_ ?_))
   ·exact TieS.l 6 rfl (lf rfl rfl)
   ·exact TieS.l 5 rfl (lf rfl rfl)
  ·exact TieS.exitOut rfl ⟨(fun h=>by cases h),rfl,.of rfl rfl⟩
 rintro (s2 | r) e σ' _ hq
 ·obtain ⟨rfl,hs⟩:=hq
  refine TieX.exit rfl (TieX.sub hs ?_)
  exact TieS.r 5 rfl (rt rfl)
 ·exact hq.elim
theorem q586 (i:Int) (c:List Int) (c2:Int):TieF Tryz.prog 268 [NI i,.el ((Pv.encS Pv.encI) c),.el (Pv.encI c2)] (q171 i c c2) (fun r=>NB r):=by
 refine TieF.i htab 11 [.tmp 4] Tryz.call268 Tryz.func268 rfl rfl rfl rfl fun w0 L=>?_
 exact TieS.s 5 rfl (TieX.pre fun x hx=>TieS.dr 7 [(0,NI i),(1,.el ((Pv.encS Pv.encI) c)),(2,.el (Pv.encI c2))] [] mixed (.of rfl rfl) (.q rfl rfl rfl (.q rfl rfl rfl (.cons (.index hx rfl rfl rfl rfl rfl rfl (fun _=>rfl)) (.q rfl rfl rfl (.q rfl rfl rfl (.q rfl rfl rfl (.q rfl rfl rfl (.nil)))))))) rfl (.r 1 rfl (rt rfl)))
theorem q447 (l:List Int) (x:Int):TieF Tryz.prog 245 [NL l,NI x] (q158 l x) (fun r=>.tup [NI r.1,NI r.2]):=by
 refine TieF.i htab 29 [.tmp 4,.tmp 5] Tryz.call245 Tryz.func245 rfl rfl rfl rfl fun w0 L=>?_
 exact TieS.s 8 rfl (TieX.pre fun x2 hx2=>TieX.pre fun x3 hx3=>TieX.pre fun v hv=>TieS.dr 11 [NP 2,NP 3] [(2,.box [NL l]),(3,.box [NI x])] mixed (.of rfl rfl) (.q rfl rfl rfl (.q rfl rfl rfl (.cons (.index hx2 rfl rfl rfl rfl rfl rfl (fun _=>rfl)) (.q rfl rfl rfl (.q rfl rfl rfl (.q rfl rfl rfl (.q rfl rfl rfl (.q rfl rfl rfl (.cons (.index hx3 rfl rfl rfl rfl rfl rfl (fun _=>rfl)) (.q rfl rfl rfl (.cons (.callV (q31 x x2 x3) hv rfl rfl rfl rfl) (.nil)))))))))))) rfl (.o 6 rfl (.frzBox 2 rfl rfl (.frzBox 3 rfl rfl (.o 1 rfl (.sub (σ':=⟨[(2,.el ((Pv.encS Pv.encI) l)),(3,.el (Pv.encI v)),(7,NI x),(8,NL l),(9,.el (Pv.encI x2)),(10,NI x2),(11,NL l),(12,NL l),(13,NI (l.length:Int)),(14,NI (w64 ((l.length:Int) - 1))),(15,.el (Pv.encI x3)),(16,NI x3),(17,NI v),(18,NL l),(19,NI (l.length:Int)),(20,.fz 268 [(Pv.encS Pv.encI) l,Pv.encI v])],[]⟩) (.of rfl rfl) (.k (q161 (l.length:Int) 268 [(Pv.encS Pv.encI) l,Pv.encI v] (fun x0=>q171 x0 l v) (fun x0=>q586 x0 l v)) rfl fun v2=>.s 4 rfl (.dr 8 [(2,.el ((Pv.encS Pv.encI) l)),(3,.el (Pv.encI v)),(6,NI (w64 (v2 - 1)))] [] mixed (.of rfl rfl) (.q rfl rfl rfl (.q rfl rfl rfl (.q rfl rfl rfl (.q rfl rfl rfl (.q rfl rfl rfl (.q rfl rfl rfl (.q rfl rfl rfl (.q rfl rfl rfl (.nil))))))))) rfl (.r 1 rfl (rt rfl))))))))))
theorem q331 (n2:Int):TieF Tryz.prog 282 [NI n2] (q145 n2) (fun r=>.t (tK .u64 r)):=by
 refine TieF.i htab 12 [.tmp 2] Tryz.call282 Tryz.func282 rfl rfl rfl rfl fun w0 L=>?_
 refine TieS.s 10 rfl (.cond rfl ?_ ?_)
 ·exact TieS.r 9 rfl (rt rfl)
 ·exact TieS.r 7 rfl (rt rfl)
def q628:Go.Shelf.Ren:=⟨fun | 129=>281 | n=>n,fun | 3=>3 | 4=>4 | 5=>5 | 9=>9 | 46=>199 | 53=>225 | n=>n,fun  | n=>n⟩
open Go.Shelf in
theorem len64L281:Lays.n129 Tryz.prog q628:={
 mixed:=by kernel_rfl,
 f129:=Tryz.func281.trans (congrArg some (by kernel_rfl)),
 t3:=Tryz.underlying3,
 a3:=Tryz.isAgg3,
 z3:=Tryz.sizeOf3,
 v3:=Tryz.zeroValue3,
 t4:=Tryz.underlying4,
 a4:=Tryz.isAgg4,
 z4:=Tryz.sizeOf4,
 v4:=Tryz.zeroValue4,
 t5:=Tryz.underlying5,
 a5:=Tryz.isAgg5,
 z5:=Tryz.sizeOf5,
 v5:=Tryz.zeroValue5,
 t9:=Tryz.underlying9,
 a9:=Tryz.isAgg9,
 z9:=Tryz.sizeOf9,
 v9:=Tryz.zeroValue9,
 t46:=Tryz.underlying199,
 a46:=Tryz.isAgg199,
 z46:=Tryz.sizeOf199,
 v46:=Tryz.zeroValue199,
 t53:=Tryz.underlying225,
 a53:=Tryz.isAgg225,
 z53:=Tryz.sizeOf225,
 v53:=Tryz.zeroValue225 }
theorem q629 (x:Int):TieF Tryz.prog 281 [.t (tK .u64 x)] (q543 x) (fun r=>NI r):=
 len64_tie (ρ:=q628) len64L281 Tryz.call281 x
theorem q455 (x:Int):TieF Tryz.prog 298 [.t (tK .u64 x)] (q356 x) (fun r=>NI r):=by
 refine TieF.i htab 6 [.tmp 2] Tryz.call298 Tryz.func298 rfl rfl rfl rfl fun w0 L=>?_
 exact TieS.o 7 rfl (.k (q629 x) rfl fun v=>.r 3 rfl (rt rfl))
theorem q633 (hi:Int) (lo:Int) (y:Int):TieF Tryz.prog 283 [.t (tK .u64 hi),.t (tK .u64 lo),.t (tK .u64 y)] (q342 hi lo y) (fun r=>.tup [.t (tK .u64 r.1),.t (tK .u64 r.2)]):=by
 refine TieF.i htab 135 [.tmp 6,.tmp 7] Tryz.call283 Tryz.func283 rfl rfl rfl rfl fun w0 L=>?_
 refine TieS.s 11 rfl (.bind (Q₁:=nrm fun t=>⟨[(0,.t (tK .u64 hi)),(1,.t (tK .u64 lo)),(2,.t (tK .u64 y))],[]⟩) ?_ ?_)
 ·refine TieS.cond rfl ?_ ?_
  ·exact TieS.o 1 rfl .fail
  ·exact TieS.l 1 rfl (lf rfl rfl)
 rintro s e σ' _ ⟨rfl,hs⟩
 refine TieX.sub hs (TieS.s 7 rfl (.bind (Q₁:=nrm fun t=>⟨[(0,.t (tK .u64 hi)),(1,.t (tK .u64 lo)),(2,.t (tK .u64 y))],[]⟩) ?_ ?_))
 ·refine TieS.cond rfl ?_ ?_
  ·exact TieS.o 1 rfl .fail
  ·exact TieS.l 1 rfl (lf rfl rfl)
 rintro s2 e σ' _ ⟨rfl,hs⟩
 refine TieX.sub hs (TieS.s 6 rfl (.cond rfl ?_ ?_))
 ·exact TieS.s 1 rfl (TieX.pre fun q hq=>TieX.pre fun q2 hq2=>TieS.dr 8 [(1,.t (tK .u64 lo)),(2,.t (tK .u64 y))] [] mixed (.of rfl rfl) (.q rfl rfl rfl (.q rfl rfl rfl (.cons (.quo hq rfl rfl rfl rfl) (.q rfl rfl rfl (.q rfl rfl rfl (.cons (.rem hq2 rfl rfl rfl rfl) (.q rfl rfl rfl (.q rfl rfl rfl (.nil))))))))) rfl (.r 1 rfl (rt rfl)))
 ·refine TieS.o 4 rfl (.k (q455 y) rfl fun v=>.o 7 rfl (.shl rfl rfl rfl rfl rfl rfl fun q3=>.o 18 rfl (.shl rfl rfl rfl rfl rfl rfl fun q4=>.o 3 rfl (.shr rfl rfl rfl rfl rfl rfl fun q5=>.o 7 rfl (.shl rfl rfl rfl rfl rfl rfl fun q6=>.s 9 rfl ?_)))))
  refine TieS.o 9 rfl (.quo rfl rfl rfl rfl rfl rfl fun q7=>.s 13 rfl (.loop (fun t=>⟨[(2,.t (tK .u64 q3)),(8,.t (tK .u64 (IntKind.u64.wrap v))),(9,.t (tK .u64 (bitShr .u64 q3 32))),(10,.t (tK .u64 (bitAnd .u64 q3 4294967295))),(11,.t (tK .u64 (bitOr .u64 q4 q5))),(13,.t (tK .u64 (bitShr .u64 q6 32))),(14,.t (tK .u64 (bitAnd .u64 q6 4294967295))),(15,.t (tK .u64 t.1)),(16,.t (tK .u64 t.2))],[]⟩) (fun b e σ'=>match b with | .inl t=>e = .exit 0 ∧ Sub ⟨[(2,.t (tK .u64 q3)),(8,.t (tK .u64 (IntKind.u64.wrap v))),(9,.t (tK .u64 (bitShr .u64 q3 32))),(10,.t (tK .u64 (bitAnd .u64 q3 4294967295))),(11,.t (tK .u64 (bitOr .u64 q4 q5))),(13,.t (tK .u64 (bitShr .u64 q6 32))),(14,.t (tK .u64 (bitAnd .u64 q6 4294967295))),(15,.t (tK .u64 t.1))],[]⟩ σ' | .inr t=>False) (.of rfl rfl) ?_ ?_))
  ·intro s3
   refine TieS.o 6 rfl (.selOr (v:=decide ((IntKind.u64.wrap (s3.1 * (bitAnd .u64 q3 4294967295))) > (IntKind.u64.wrap ((IntKind.u64.wrap (4294967296 * s3.2)) + (bitShr .u64 q6 32))))) 9 69 (fun b=>⟨[(2,.t (tK .u64 q3)),(8,.t (tK .u64 (IntKind.u64.wrap v))),(9,.t (tK .u64 (bitShr .u64 q3 32))),(10,.t (tK .u64 (bitAnd .u64 q3 4294967295))),(11,.t (tK .u64 (bitOr .u64 q4 q5))),(13,.t (tK .u64 (bitShr .u64 q6 32))),(14,.t (tK .u64 (bitAnd .u64 q6 4294967295))),(15,.t (tK .u64 s3.1)),(16,.t (tK .u64 s3.2)),(78,NB b)],[]⟩) rfl ?_ ?_ ?_)
   ·exact TieO.l 10 rfl (lf rfl rfl)
   ·exact TieO.l 10 rfl (lf rfl rfl)
   refine TieO.s 1 rfl (.cond rfl ?_ ?_)
   ·refine TieS.s 20 rfl (.cond rfl ?_ ?_)
    ·exact TieS.exitOut rfl ⟨(fun h=>by cases h),rfl,.of rfl rfl⟩
    ·exact TieS.l 2 rfl (lf rfl rfl)
   ·exact TieS.exitOut rfl ⟨(fun h=>by cases h),rfl,.of rfl rfl⟩
  rintro (s4 | r) e σ' _ hq
  ·obtain ⟨rfl,hs⟩:=hq
   refine TieX.exit rfl (TieX.sub hs ?_)
   refine TieS.o 16 rfl (.quo rfl rfl rfl rfl rfl rfl fun q8=>.s 13 rfl (.loop (fun t=>⟨[(2,.t (tK .u64 q3)),(8,.t (tK .u64 (IntKind.u64.wrap v))),(9,.t (tK .u64 (bitShr .u64 q3 32))),(10,.t (tK .u64 (bitAnd .u64 q3 4294967295))),(14,.t (tK .u64 (bitAnd .u64 q6 4294967295))),(15,.t (tK .u64 s4.1)),(16,.t (tK .u64 t.1)),(17,.t (tK .u64 (IntKind.u64.wrap ((IntKind.u64.wrap ((IntKind.u64.wrap ((bitOr .u64 q4 q5) * 4294967296)) + (bitShr .u64 q6 32))) - (IntKind.u64.wrap (s4.1 * q3)))))),(18,.t (tK .u64 t.2))],[]⟩) (fun b e σ'=>match b with | .inl t=>e = .exit 2 ∧ Sub ⟨[(2,.t (tK .u64 q3)),(8,.t (tK .u64 (IntKind.u64.wrap v))),(14,.t (tK .u64 (bitAnd .u64 q6 4294967295))),(15,.t (tK .u64 s4.1)),(17,.t (tK .u64 (IntKind.u64.wrap ((IntKind.u64.wrap ((IntKind.u64.wrap ((bitOr .u64 q4 q5) * 4294967296)) + (bitShr .u64 q6 32))) - (IntKind.u64.wrap (s4.1 * q3)))))),(18,.t (tK .u64 t.2))],[]⟩ σ' | .inr t=>False) (.of rfl rfl) ?_ ?_))
   ·intro s5
    refine TieS.o 6 rfl (.selOr (v:=decide ((IntKind.u64.wrap (s5.2 * (bitAnd .u64 q3 4294967295))) > (IntKind.u64.wrap ((IntKind.u64.wrap (4294967296 * s5.1)) + (bitAnd .u64 q6 4294967295))))) 9 104 (fun b=>⟨[(2,.t (tK .u64 q3)),(8,.t (tK .u64 (IntKind.u64.wrap v))),(9,.t (tK .u64 (bitShr .u64 q3 32))),(10,.t (tK .u64 (bitAnd .u64 q3 4294967295))),(14,.t (tK .u64 (bitAnd .u64 q6 4294967295))),(15,.t (tK .u64 s4.1)),(16,.t (tK .u64 s5.1)),(17,.t (tK .u64 (IntKind.u64.wrap ((IntKind.u64.wrap ((IntKind.u64.wrap ((bitOr .u64 q4 q5) * 4294967296)) + (bitShr .u64 q6 32))) - (IntKind.u64.wrap (s4.1 * q3)))))),(18,.t (tK .u64 s5.2)),(113,NB b)],[]⟩) rfl ?_ ?_ ?_)
    ·exact TieO.l 10 rfl (lf rfl rfl)
    ·exact TieO.l 10 rfl (lf rfl rfl)
    refine TieO.s 1 rfl (.cond rfl ?_ ?_)
    ·refine TieS.s 20 rfl (.cond rfl ?_ ?_)
     ·exact TieS.exitOut rfl ⟨(fun h=>by cases h),rfl,.of rfl rfl⟩
     ·exact TieS.l 2 rfl (lf rfl rfl)
    ·exact TieS.exitOut rfl ⟨(fun h=>by cases h),rfl,.of rfl rfl⟩
   rintro (s6 | r) e σ' _ hq
   ·obtain ⟨rfl,hs⟩:=hq
    refine TieX.exit rfl (TieX.sub hs ?_)
    exact TieS.o 15 rfl (.shr rfl rfl rfl rfl rfl rfl fun q9=>.r 3 rfl (rt rfl))
   ·exact hq.elim
  ·exact hq.elim
theorem q678 (r2:Int) (c:Int) (negative:Bool) (mode:Int):TieF Tryz.prog 284 [.t (tK .u64 r2),.t (tK .u64 c),NB negative,NI mode] (q220 r2 c negative mode) (fun r=>NB r):=by
 refine TieF.i htab 36 [.tmp 8] Tryz.call284 Tryz.func284 rfl rfl rfl rfl fun w0 L=>?_
 refine TieS.s 15 rfl (.cond rfl ?_ ?_)
 ·refine TieS.o 4 rfl (.selAnd (v:=decide (r2 > 0)) 3 13 (fun b=>⟨[(16,NB b)],[]⟩) rfl ?_ ?_ ?_)
  ·exact TieO.l 4 rfl (lf rfl rfl)
  ·exact TieO.l 4 rfl (lf rfl rfl)
  exact TieO.r 2 rfl (rt rfl)
 ·refine TieS.s 5 rfl (.cond rfl ?_ ?_)
  ·refine TieS.o 5 rfl (.selAnd (v:=decide (r2 > 0)) 3 21 (fun b=>⟨[(24,NB b)],[]⟩) rfl ?_ ?_ ?_)
   ·exact TieO.l 4 rfl (lf rfl rfl)
   ·exact TieO.l 4 rfl (lf rfl rfl)
   exact TieO.r 2 rfl (rt rfl)
  ·refine TieS.s 7 rfl (.cond rfl ?_ ?_)
   ·exact TieS.r 9 rfl (rt rfl)
   ·exact TieS.r 10 rfl (rt rfl)
theorem q702 (a:Int) (b2:Int) (c:Int) (mode:Int):TieF Tryz.prog 260 [NI a,NI b2,NI c,NI mode] (q437 a b2 c mode) (fun r=>.tup [NI r.1,NI r.2]):=by
 refine TieF.i htab 83 [.tmp 8,.tmp 9] Tryz.call260 Tryz.func260 rfl rfl rfl rfl fun w0 L=>?_
 refine TieS.o 12 rfl (.selOr (v:=decide (mode > 3)) 3 19 (fun b=>⟨[(0,NI a),(1,NI b2),(2,NI c),(3,NI mode),(22,NB b)],[]⟩) rfl ?_ ?_ ?_)
 ·exact TieO.l 4 rfl (lf rfl rfl)
 ·exact TieO.l 4 rfl (lf rfl rfl)
 refine TieO.s 2 rfl (.cond rfl ?_ ?_)
 ·exact TieS.r 5 rfl (rt rfl)
 ·refine TieS.s 6 rfl (.cond rfl ?_ ?_)
  ·exact TieS.r 5 rfl (rt rfl)
  ·refine TieS.o 17 rfl (.k (q331 a) rfl fun v=>.o 1 rfl (.k (q331 b2) rfl fun v2=>.k (q446 v v2) rfl fun r2=>.o 9 rfl (.k (q331 c) rfl fun v3=>.s 9 rfl (.cond rfl ?_ ?_))))
   ·exact TieS.r 5 rfl (rt rfl)
   ·refine TieS.o 6 rfl (.k (q633 r2.1 r2.2 v3) rfl fun r3=>.s 12 rfl (.cond rfl ?_ ?_))
    ·exact TieS.r 5 rfl (rt rfl)
    ·refine TieS.o 8 rfl (.k (q678 r3.2 v3 (!((!((decide (a < 0)) == (decide (b2 < 0)))) == (decide (c < 0)))) mode) rfl fun v4=>.s 1 rfl (.bind (Q₁:=nrm fun t=>⟨[(10,NB (!((!((decide (a < 0)) == (decide (b2 < 0)))) == (decide (c < 0))))),(14,.t (tK .u64 t))],[]⟩) ?_ ?_))
     ·refine TieS.cond rfl ?_ ?_
      ·exact TieS.l 5 rfl (lf rfl rfl)
      ·exact TieS.l 1 rfl (lf rfl rfl)
     rintro q e σ' _ ⟨rfl,hs⟩
     refine TieX.sub hs (TieS.o 6 rfl (.selAnd (v:=decide (q ≤ 9223372036854775808)) 3 65 (fun b=>⟨[(10,NB (!((!((decide (a < 0)) == (decide (b2 < 0)))) == (decide (c < 0))))),(14,.t (tK .u64 q)),(68,NB b)],[]⟩) rfl ?_ ?_ ?_))
     ·exact TieO.l 4 rfl (lf rfl rfl)
     ·exact TieO.l 4 rfl (lf rfl rfl)
     refine TieO.s 2 rfl (.cond rfl ?_ ?_)
     ·exact TieS.r 10 rfl (rt rfl)
     ·refine TieS.o 5 rfl (.selAnd (v:=decide (q < 9223372036854775808)) 3 77 (fun b=>⟨[(14,.t (tK .u64 q)),(80,NB b)],[]⟩) rfl ?_ ?_ ?_)
      ·exact TieO.l 4 rfl (lf rfl rfl)
      ·exact TieO.l 4 rfl (lf rfl rfl)
      refine TieO.s 2 rfl (.cond rfl ?_ ?_)
      ·exact TieS.r 7 rfl (rt rfl)
      ·exact TieS.r 7 rfl (rt rfl)
theorem q480 (a:Int) (b2:Int) (mode:Int):TieF Tryz.prog 236 [NI a,NI b2,NI mode] (q355 a b2 mode) (fun r=>.tup [NI r.1,NI r.2]):=by
 refine TieF.i htab 14 [.tmp 6,.tmp 7] Tryz.call236 Tryz.func236 rfl rfl rfl rfl fun w0 L=>?_
 exact TieS.o 10 rfl (.k (q702 a 1 b2 mode) rfl fun r2=>.r 5 rfl (rt rfl))
theorem q338 (a:Int) (b2:Int):TieF Tryz.prog 207 [NI a,NI b2] (q261 a b2) (fun r=>NI r):=by
 refine TieF.i htab 14 [.tmp 4] Tryz.call207 Tryz.func207 rfl rfl rfl rfl fun w0 L=>?_
 exact TieS.o 8 rfl (.k (q480 a b2 1) rfl fun r2=>.r 11 rfl (rt rfl))
theorem q445 (x0:Int) (x1:Int) (y0:Int) (y1:Int) (x:Int):TieF Tryz.prog 247 [NI x0,NI x1,NI y0,NI y1,NI x] (q229 x0 x1 y0 y1 x) (fun r=>NI r):=by
 refine TieF.i htab 24 [.tmp 10] Tryz.call247 Tryz.func247 rfl rfl rfl rfl fun w0 L=>?_
 exact TieS.o 17 rfl (.k (q338 (w64 ((w64 (x - x0)) * (w64 (y1 - y0)))) (w64 (x1 - x0))) rfl fun v=>.r 3 rfl (rt rfl))
theorem q508 (j:Int) (c:SMap) (c2:Int) (c3:Int):TieF Tryz.prog 246 [NI j,.el (q114 c),.el (Pv.encI c2),.el (Pv.encI c3)] (q346 j c c2 c3) (fun r=>NI r):=by
 refine TieF.i htab 36 [.tmp 5] Tryz.call246 Tryz.func246 rfl rfl rfl rfl fun w0 L=>?_
 exact TieS.s 5 rfl (TieX.pre fun x hx=>TieX.pre fun x2 hx2=>TieX.pre fun x3 hx3=>TieX.pre fun x4 hx4=>TieX.pre fun x5 hx5=>TieX.pre fun x6 hx6=>TieX.pre fun v hv=>TieS.dr 31 [(0,NI j),(1,.el (q114 c)),(2,.el (Pv.encI c2)),(3,.el (Pv.encI c3))] [] mixed (.of rfl rfl) (.q rfl rfl rfl (.q rfl rfl rfl (.q rfl rfl rfl (.cons (.index hx rfl rfl rfl rfl rfl rfl (fun _=>rfl)) (.q rfl rfl rfl (.q rfl rfl rfl (.q rfl rfl rfl (.q rfl rfl rfl (.q rfl rfl rfl (.cons (.index hx2 rfl rfl rfl rfl rfl rfl (fun _=>rfl)) (.q rfl rfl rfl (.q rfl rfl rfl (.q rfl rfl rfl (.q rfl rfl rfl (.cons (.index hx3 rfl rfl rfl rfl rfl rfl (fun _=>rfl)) (.q rfl rfl rfl (.q rfl rfl rfl (.cons (.index hx4 rfl rfl rfl rfl rfl rfl (fun _=>rfl)) (.q rfl rfl rfl (.q rfl rfl rfl (.q rfl rfl rfl (.q rfl rfl rfl (.q rfl rfl rfl (.cons (.index hx5 rfl rfl rfl rfl rfl rfl (fun _=>rfl)) (.q rfl rfl rfl (.q rfl rfl rfl (.cons (.index hx6 rfl rfl rfl rfl rfl rfl (fun _=>rfl)) (.q rfl rfl rfl (.q rfl rfl rfl (.cons (.callV (q445 x x2 x4 x6 c3) hv rfl rfl rfl rfl) (.q rfl rfl rfl (.nil)))))))))))))))))))))))))))))))) rfl (.r 1 rfl (rt rfl)))
theorem q740 (m2:SMap) (x:Int) (y:Int):TieF Tryz.prog 202 [A_SMap m2,NI x,NI y] (q501 m2 x y) (fun r=>NI r):=by
 refine TieF.i htab 45 [.tmp 6] Tryz.call202 Tryz.func202 rfl rfl rfl rfl fun w0 L=>?_
 exact TieS.o 11 rfl (.k (q447 m2.X x) rfl fun r2=>.o 12 rfl (.k (q447 m2.Y y) rfl fun r3=>.o 8 rfl (.frzBox 3 rfl rfl (.frzBox 7 rfl rfl (.frzBox 4 rfl rfl (.o 1 rfl (.sub (σ':=⟨[(0,.agg [NL m2.X,NL m2.Y,NS (Pv.encS Pv.encI) m2.Z]),(1,NI x),(2,NI r3.2),(3,.el (q114 m2)),(4,.el (Pv.encI r2.2)),(6,NI 0),(7,.el (Pv.encI r2.1)),(8,NI r3.1),(10,.tup [NI r2.1,NI r2.2]),(11,.el (q114 m2)),(12,NL m2.X),(13,NI x),(14,.tup [NI r2.1,NI r2.2]),(15,NI r2.1),(16,NI r2.2),(17,.tup [NI r3.1,NI r3.2]),(18,.el (List.drop 1 (q114 m2))),(19,NL m2.Y),(20,NI y),(21,.tup [NI r3.1,NI r3.2]),(22,NI r3.1),(23,NI r3.2),(24,.fz 246 [q114 m2,Pv.encI r2.1,Pv.encI r2.2])],[]⟩) (.of rfl rfl) (.s 3 rfl (TieX.pre fun x2 hx2=>TieX.pre fun x3 hx3=>TieX.pre fun v hv=>TieX.pre fun v2 hv2=>TieX.pre fun v3 hv3=>TieS.dr 21 [(2,NI r3.2),(3,.el (q114 m2)),(8,NI r3.1),(9,.fz 246 [q114 m2,Pv.encI r2.1,Pv.encI r2.2])] [] mixed (.of rfl rfl) (.q rfl rfl rfl (.q rfl rfl rfl (.q rfl rfl rfl (.cons (.index hx2 rfl rfl rfl rfl rfl rfl (fun _=>rfl)) (.q rfl rfl rfl (.q rfl rfl rfl (.q rfl rfl rfl (.q rfl rfl rfl (.q rfl rfl rfl (.cons (.index hx3 rfl rfl rfl rfl rfl rfl (fun _=>rfl)) (.q rfl rfl rfl (.q rfl rfl rfl (.q rfl rfl rfl (.cons (.callV (q508 r3.1 m2 r2.1 r2.2) hv rfl rfl rfl rfl) (.q rfl rfl rfl (.q rfl rfl rfl (.q rfl rfl rfl (.cons (.callV (q508 (w64 (r3.1 + 1)) m2 r2.1 r2.2) hv2 rfl rfl rfl rfl) (.q rfl rfl rfl (.cons (.callV (q445 x2 x3 v v2 r3.2) hv3 rfl rfl rfl rfl) (.q rfl rfl rfl (.nil)))))))))))))))))))))) rfl (.r 1 rfl (rt rfl)))))))))))
theorem q305 (m2:SMap) (x:Int) (y:Int):TieF Tryz.prog 112 [A_SMap m2,NI x,NI y] (q137 m2 x y) (fun r=>NI r):=by
 refine TieF.i htab 14 [.tmp 6] Tryz.call112 Tryz.func112 rfl rfl rfl rfl fun w0 L=>?_
 refine TieS.o 9 rfl (.k (q84 m2) rfl fun v=>.s 2 rfl (.cond rfl ?_ ?_))
 ·exact TieS.r 4 rfl (rt rfl)
 ·exact TieS.o 6 rfl (.k (q740 m2 x y) rfl fun v2=>.r 2 rfl (rt rfl))
theorem q738 (t2:STables) (value:Int) (speed:Int):TieF Tryz.prog 26 [q20 t2,NI value,NI speed] (q492 t2 value speed) (fun r=>.tup [NI r.1,NI r.2]):=by
 refine TieF.i htab 34 [.tmp 6,.tmp 7] Tryz.call26 Tryz.func26 rfl rfl rfl rfl fun w0 L=>?_
 refine TieS.o 12 rfl (.k (q84 t2.Wish) rfl fun v=>.s 3 rfl (.cond rfl ?_ ?_))
 ·exact TieS.r 5 rfl (rt rfl)
 ·refine TieS.o 5 rfl (.selOr (v:=decide (value > 1000)) 3 16 (fun b=>⟨[(1,NI value),(2,NI speed),NP 3,(19,NB b)],[(3,.box (q12 t2))]⟩) rfl ?_ ?_ ?_)
  ·exact TieO.l 4 rfl (lf rfl rfl)
  ·exact TieO.l 4 rfl (lf rfl rfl)
  refine TieO.o 1 rfl (.selOr (v:=decide (speed < 0)) 3 20 (fun b=>⟨[(1,NI value),(2,NI speed),NP 3,(23,NB b)],[(3,.box (q12 t2))]⟩) rfl ?_ ?_ ?_)
  ·exact TieO.l 4 rfl (lf rfl rfl)
  ·exact TieO.l 4 rfl (lf rfl rfl)
  refine TieO.o 1 rfl (.selOr (v:=decide (speed > 12000)) 3 24 (fun b=>⟨[(1,NI value),(2,NI speed),NP 3,(27,NB b)],[(3,.box (q12 t2))]⟩) rfl ?_ ?_ ?_)
  ·exact TieO.l 4 rfl (lf rfl rfl)
  ·exact TieO.l 4 rfl (lf rfl rfl)
  refine TieO.s 2 rfl (.cond rfl ?_ ?_)
  ·exact TieS.r 5 rfl (rt rfl)
  ·exact TieS.o 8 rfl (.k (q305 t2.Wish speed value) rfl fun v2=>.k (q31 v2 (-5000) 10000) rfl fun v3=>.r 3 rfl (rt rfl))
theorem q743 (p2:SPedal) (first:Int) (second:Int):TieF Tryz.prog 32 [q411 p2,NI first,NI second] (q490 p2 first second) (fun r=>.tup [q411 r.1,NI r.2]):=by
 refine TieF.i htab 65 [.cell 6 35,.tmp 7] Tryz.call32 Tryz.func32 rfl rfl rfl rfl fun w0 L=>?_
 refine TieS.o 10 rfl (.k (q548 p2) rfl fun v=>.s 2 rfl (.cond rfl ?_ ?_))
 ·exact TieS.r 6 rfl (rt rfl)
 ·refine TieS.o 4 rfl (.k (q31 first 0 1000) rfl fun v2=>.o 5 rfl (.k (q31 second 0 500) rfl fun v3=>.s 29 rfl (.bind (Q₁:=nrm fun t=>⟨[(1,NI v2),NP 3,NP 6,(9,NB (decide ((maxI (w64 (v2 - (w64 (2 * v3)))) (w64 ((w64 (2 * v3)) - v2))) > 50))),(10,NI (minI v2 (w64 (2 * v3)))),NP 11],[(3,.box [NI p2.Value,NI p2.Differ,NB p2.Fault]),(6,.box [NI 0,NI 0,NB false]),(11,.box [NI p2.Value,NI t,NB p2.Fault])]⟩) ?_ ?_)))
  ·refine TieS.s 6 rfl (.cond rfl ?_ ?_)
   ·exact TieS.l 9 rfl (lf rfl rfl)
   ·refine TieS.s 7 rfl (.cond rfl ?_ ?_)
    ·exact TieS.l 5 rfl (lf rfl rfl)
    ·exact TieS.l 2 rfl (lf rfl rfl)
  rintro f2 e σ' _ ⟨rfl,hs⟩
  refine TieX.sub hs (TieS.s 16 rfl (.cond rfl ?_ ?_))
  ·exact TieS.r 13 rfl (rt rfl)
  ·refine TieS.s 5 rfl (.cond rfl ?_ ?_)
   ·exact TieS.r 15 rfl (rt rfl)
   ·exact TieS.r 12 rfl (rt rfl)
theorem q666 (s:SIntegral) (g:SGain) (e2:Int):TieF Tryz.prog 127 [q136 s,A_SGain g,NI e2] (q198 s g e2) (fun r=>.tup [q136 r.1,NI r.2.1,NI r.2.2]):=by
 refine TieF.i htab 75 [.cell 6 37,.tmp 7,.tmp 8] Tryz.call127 Tryz.func127 rfl rfl rfl rfl fun w0 L=>?_
 refine TieS.o 13 rfl (.k (q311 g) rfl fun v=>.o 2 rfl (.selOr (v:=decide (s.Sum < (-4398046511104))) 4 14 (fun b=>⟨[(2,NI e2),NP 3,NP 4,NP 6,(18,NB b)],[(3,.box [NI s.Sum]),(4,.box [NI g.P,NI g.I,NI g.Low,NI g.High]),(6,.box [NI 0])]⟩) rfl ?_ ?_ ?_))
 ·exact TieO.l 5 rfl (lf rfl rfl)
 ·exact TieO.l 5 rfl (lf rfl rfl)
 refine TieO.o 1 rfl (.selOr (v:=decide (s.Sum > 4398046511104)) 4 19 (fun b=>⟨[(2,NI e2),NP 3,NP 4,NP 6,(23,NB b)],[(3,.box [NI s.Sum]),(4,.box [NI g.P,NI g.I,NI g.Low,NI g.High]),(6,.box [NI 0])]⟩) rfl ?_ ?_ ?_)
 ·exact TieO.l 5 rfl (lf rfl rfl)
 ·exact TieO.l 5 rfl (lf rfl rfl)
 refine TieO.s 2 rfl (.cond rfl ?_ ?_)
 ·exact TieS.r 7 rfl (rt rfl)
 ·refine TieS.o 5 rfl (.selOr (v:=decide (e2 > 1048576)) 3 28 (fun b=>⟨[(2,NI e2),NP 3,NP 4,NP 6,(31,NB b)],[(3,.box [NI s.Sum]),(4,.box [NI g.P,NI g.I,NI g.Low,NI g.High]),(6,.box [NI 0])]⟩) rfl ?_ ?_ ?_)
  ·exact TieO.l 4 rfl (lf rfl rfl)
  ·exact TieO.l 4 rfl (lf rfl rfl)
  refine TieO.s 2 rfl (.cond rfl ?_ ?_)
  ·exact TieS.r 7 rfl (rt rfl)
  ·refine TieS.o 22 rfl (.selOr (v:=decide (e2 ≤ 0)) 3 45 (fun b=>⟨[(2,NI e2),NP 3,NP 4,NP 6,(9,NI (bitShr .i64 (w64 ((w64 (g.P * e2)) + s.Sum)) 10)),(48,NB b)],[(3,.box [NI s.Sum]),(4,.box [NI g.P,NI g.I,NI g.Low,NI g.High]),(6,.box [NI 0])]⟩) rfl ?_ ?_ ?_)
   ·exact TieO.l 4 rfl (lf rfl rfl)
   ·exact TieO.l 4 rfl (lf rfl rfl)
   refine TieO.o 1 rfl (.bind 9 (fun b2=>⟨[(2,NI e2),NP 3,NP 4,NP 6,(9,NI (bitShr .i64 (w64 ((w64 (g.P * e2)) + s.Sum)) 10)),(58,NB b2)],[(3,.box [NI s.Sum]),(4,.box [NI g.P,NI g.I,NI g.Low,NI g.High]),(6,.box [NI 0])]⟩) (TieO.split 49 rfl ?_ ?_) fun b2 _=>?_)
   ·refine TieO.o 5 rfl (.selOr (v:=decide (e2 ≥ 0)) 3 54 (fun b=>⟨[(2,NI e2),NP 3,NP 4,NP 6,(9,NI (bitShr .i64 (w64 ((w64 (g.P * e2)) + s.Sum)) 10)),(49,NB true),(57,NB b)],[(3,.box [NI s.Sum]),(4,.box [NI g.P,NI g.I,NI g.Low,NI g.High]),(6,.box [NI 0])]⟩) rfl ?_ ?_ ?_)
    ·exact TieO.l 4 rfl (lf rfl rfl)
    ·exact TieO.l 4 rfl (lf rfl rfl)
    exact TieO.l 2 rfl (lf rfl rfl)
   ·exact TieO.l 10 rfl (lf rfl rfl)
   refine TieO.s 1 rfl (.bind (Q₁:=nrm fun t=>⟨[NP 3,NP 4,NP 6,(9,NI (bitShr .i64 (w64 ((w64 (g.P * e2)) + s.Sum)) 10))],[(3,.box [NI t]),(4,.box [NI g.P,NI g.I,NI g.Low,NI g.High]),(6,.box [NI 0])]⟩) ?_ ?_)
   ·refine TieS.cond rfl ?_ ?_
    ·exact TieS.o 8 rfl (.k (q31 (w64 (s.Sum + (w64 (g.I * e2)))) (-4398046511104) 4398046511104) rfl fun v2=>.l 3 rfl (lf rfl rfl))
    ·exact TieS.l 1 rfl (lf rfl rfl)
   rintro f2 e σ' _ ⟨rfl,hs⟩
   exact TieX.sub hs (TieS.s 1 rfl (TieX.pre fun v3 hv3=>TieS.dr 7 [NP 3,NP 4,NP 6,(9,NI (bitShr .i64 (w64 ((w64 (g.P * e2)) + s.Sum)) 10))] [(3,.box [NI f2]),(4,.box [NI g.P,NI g.I,NI g.Low,NI g.High]),(6,.box [NI 0])] mixed (.of rfl rfl) (.q rfl rfl rfl (.q rfl rfl rfl (.q rfl rfl rfl (.q rfl rfl rfl (.q rfl rfl rfl (.q rfl rfl rfl (.cons (.callV (q31 (bitShr .i64 (w64 ((w64 (g.P * e2)) + s.Sum)) 10) g.Low g.High) hv3 rfl rfl rfl rfl) (.nil)))))))) rfl (.r 4 rfl (rt rfl))))
theorem q124 (s:SIntegral) (g:SGain) (target:Int) (speed:Int):TieF Tryz.prog 35 [q136 s,A_SGain g,NI target,NI speed] (q250 s g target speed) (fun r=>.tup [q136 r.1,NI r.2.1,NI r.2.2]):=by
 refine TieF.i htab 35 [.cell 8 37,.tmp 9,.tmp 10] Tryz.call35 Tryz.func35 rfl rfl rfl rfl fun w0 L=>?_
 refine TieS.o 13 rfl (.k (q311 g) rfl fun v=>.s 3 rfl (.cond rfl ?_ ?_))
 ·exact TieS.r 7 rfl (rt rfl)
 ·refine TieS.o 3 rfl (.k (q429 target) rfl fun v2=>.o 2 rfl (.bind 4 (fun b2=>⟨[(2,NI target),(3,NI speed),NP 4,NP 5,NP 8,(24,NB b2)],[(4,.box [NI s.Sum]),(5,.box [NI g.P,NI g.I,NI g.Low,NI g.High]),(8,.box [NI 0])]⟩) (TieO.split 20 rfl ?_ ?_) fun b2 _=>?_))
  ·exact TieO.l 5 rfl (lf rfl rfl)
  ·exact TieO.o 1 rfl (.k (q429 speed) rfl fun v3=>.l 3 rfl (lf rfl rfl))
  refine TieO.s 2 rfl (.cond rfl ?_ ?_)
  ·exact TieS.r 7 rfl (rt rfl)
  ·exact TieS.o 9 rfl (.k (q666 s g (w64 (target - speed))) rfl fun r2=>.r 7 rfl (rt rfl))
theorem q638 (r2:SRequest):TieF Tryz.prog 208 [q33 r2] (q164 r2) (fun r=>NB r):=by
 refine TieF.i htab 6 [.tmp 2] Tryz.call208 Tryz.func208 rfl rfl rfl rfl fun w0 L=>?_
 exact TieS.o 8 rfl (.k (q485 r2) rfl fun v=>.r 3 rfl (rt rfl))
theorem q671 (l:List SRequest) (low:Int) (high:Int):TieF Tryz.prog 129 [NS q10 l,NI low,NI high] (q402 l low high) (fun r=>NI r):=by
 refine TieF.i htab 28 [.tmp 6] Tryz.call129 Tryz.func129 rfl rfl rfl rfl fun w0 L=>?_
 refine TieS.o 9 rfl (.k (q200 l 208 [] q164 q638) rfl fun v=>.s 2 rfl (.cond rfl ?_ ?_))
 ·exact TieS.r 4 rfl (rt rfl)
 ·refine TieS.s 7 rfl (.cond rfl ?_ ?_)
  ·exact TieS.r 4 rfl (rt rfl)
  ·refine TieS.o 3 rfl (.k (q234 low) rfl fun v2=>.o 2 rfl (.bind 4 (fun b2=>⟨[(1,NI low),(2,NI high),(22,NB b2)],[]⟩) (TieO.split 18 rfl ?_ ?_) fun b2 _=>?_))
   ·exact TieO.l 5 rfl (lf rfl rfl)
   ·exact TieO.o 1 rfl (.k (q234 high) rfl fun v3=>.l 3 rfl (lf rfl rfl))
   refine TieO.o 1 rfl (.selOr (v:=decide (low > high)) 4 23 (fun b=>⟨[(27,NB b)],[]⟩) rfl ?_ ?_ ?_)
   ·exact TieO.l 5 rfl (lf rfl rfl)
   ·exact TieO.l 5 rfl (lf rfl rfl)
   refine TieO.s 2 rfl (.cond rfl ?_ ?_)
   ·exact TieS.r 4 rfl (rt rfl)
   ·exact TieS.r 6 rfl (rt rfl)
theorem q499 (s:List SRequest):TieG Tryz.prog 209 [NS q10 s] [] (q285 s) (fun _=>.own 900000) (fun r=>[(900000,.rs 73 4 r q10)]):=by
 refine TieG.i htab 8 [.tmp 2] Tryz.call209 Tryz.func209 rfl rfl rfl rfl fun w0 L=>?_
 refine TieS.o 8 rfl (.isNil rfl rfl rfl rfl rfl rfl fun b2 hb2=>.s 1 rfl (.condB rfl (fun hb1=>?_) (fun _=>?_)))
 ·exact TieX.model (m':=some ([]:List SRequest)) (by rw [hb2 hb1]; rfl) (TieS.s 4 rfl (TieX.nilP 2 70000 73 4 [] rfl rfl rfl rfl rfl (TieS.ret (rt (⟨[(70000,900000)],_,_,rfl,rfl,rfl,rfl,rfl⟩)))))
 ·exact TieS.o 5 rfl (.appendY (id:=5) (e':=0) (l:=([]:List SRequest)) (r:=s) (tm':=[(0,NS q10 s),(2,.t (.v (.slice none 0 0))),(3,NS q10 s),(4,NB b2),(6,NS q10 s)]) (hp':=[]) rfl rfl rfl rfl rfl rfl rfl (fun _=>rfl) (fun _=>rfl) (.inl ⟨rfl,rfl⟩) (.inl rfl) (.of rfl rfl) rfl rfl rfl fun l=>.r 2 rfl (rt (⟨[(5,900000)],_,_,rfl,rfl,rfl,rfl,rfl⟩)))
theorem q123 (data:List SRequest) (a:Int) (b2:Int) (n2:Nat) (cs:List (List Tree)) (cmp:SRequest → SRequest → Option Int) (h2:∀ x0 x1,TieF Tryz.prog n2 ([q33 x0,q33 x1] ++ cs.map T.el) (cmp x0 x1) (fun r=>NI r)):TieG Tryz.prog 270 [.own 1000000,NI a,NI b2,.fz n2 cs] [(1000000,.rs 73 4 data q10)] (q82 data a b2 cmp) (fun _=>.tup []) (fun r=>[(1000000,.rs 73 4 r q10)]):=by
 refine TieG.i htab 53 [] Tryz.call270 Tryz.func270 rfl rfl rfl rfl fun w0 L=>?_
 refine TieS.s 7 rfl (.loop (fun t=>⟨[(0,.own 1000000),(1,NI a),(2,NI b2),(3,.fz n2 cs),(8,NI t.1)],[(1000000,.rs 73 4 t.2 q10)]⟩) (fun b e σ'=>match b with | .inl t=>e = .exit 0 ∧ Sub ⟨[],[(1000000,.rs 73 4 t.2 q10)]⟩ σ' | .inr t=>False) (.of rfl rfl) ?_ ?_)
 ·intro s
  refine TieS.s 7 rfl (.cond rfl ?_ ?_)
  ·refine TieS.s 9 rfl (.loop (fun t=>⟨[(0,.own 1000000),(1,NI a),(2,NI b2),(3,.fz n2 cs),(8,NI s.1),(9,NI t.1)],[(1000000,.rs 73 4 t.2 q10)]⟩) (fun b e σ'=>match b with | .inl t=>e = .exit 2 ∧ Sub ⟨[(0,.own 1000000),(1,NI a),(2,NI b2),(3,.fz n2 cs),(8,NI s.1)],[(1000000,.rs 73 4 t.2 q10)]⟩ σ' | .inr t=>False) (.of rfl rfl) ?_ ?_)
   ·intro s2
    refine TieS.s 2 rfl (.bind (Q₁:=nrm fun t=>⟨[(0,.own 1000000),(1,NI a),(2,NI b2),(3,.fz n2 cs),(8,NI s.1),(9,NI s2.1),(34,NB t)],[(1000000,.rs 73 4 s2.2 q10)]⟩) ?_ ?_)
    ·refine TieX.split (fun hg=>?_) (fun hg2=>?_)
     ·exact TieX.pre fun x hx=>TieX.pre fun x2 hx2=>TieX.pre fun v hv=>TieS.dr 17 [(0,.own 1000000),(1,NI a),(2,NI b2),(3,.fz n2 cs),(8,NI s.1),(9,NI s2.1)] [(1000000,.rs 73 4 s2.2 q10)] mixed (.of rfl rfl) (.q rfl rfl rfl (.q rfl rfl rfl (.q rfl rfl rfl (.cons (.cast (congrArg T.B hg) (.quiet rfl rfl rfl)) (.q rfl rfl rfl (.q rfl rfl rfl (.q rfl rfl rfl (.cons (.indexO (sz:=4) hx rfl rfl rfl rfl rfl rfl rfl rfl) (.cons (.loadY hx rfl rfl rfl rfl rfl rfl) (.q rfl rfl rfl (.q rfl rfl rfl (.q rfl rfl rfl (.cons (.indexO (sz:=4) hx2 rfl rfl rfl rfl rfl rfl rfl rfl) (.cons (.loadY hx2 rfl rfl rfl rfl rfl rfl) (.cons (.callV (h2 x x2) hv rfl rfl rfl rfl) (.q rfl rfl rfl (.q rfl rfl rfl (.nil)))))))))))))))))) rfl (.l 1 rfl (lf rfl rfl))
     ·exact TieS.dr 17 [(0,.own 1000000),(1,NI a),(2,NI b2),(3,.fz n2 cs),(8,NI s.1),(9,NI s2.1)] [(1000000,.rs 73 4 s2.2 q10)] mixed (.of rfl rfl) (.q rfl rfl rfl (.q rfl rfl rfl (.q rfl rfl rfl (.cons (.cast (congrArg T.B hg2) (.quiet rfl rfl rfl)) (.k rfl (.k rfl (.k rfl (.k rfl (.k rfl (.k rfl (.k rfl (.k rfl (.k rfl (.k rfl (.k rfl (.k rfl (.q rfl rfl rfl (.nil)))))))))))))))))) rfl (.l 1 rfl (lf rfl rfl))
    rintro v2 e σ' _ ⟨rfl,hs⟩
    refine TieX.sub hs (TieS.cond rfl ?_ ?_)
    ·refine TieS.s 3 rfl (.bind (Q₁:=nrm fun t=>⟨[(0,.own 1000000),(1,NI a),(2,NI b2),(3,.fz n2 cs),(8,NI s.1),(9,NI s2.1)],[(1000000,.rs 73 4 t q10)]⟩) ?_ ?_)
     ·refine TieX.pre fun x3 hx3=>TieX.pre fun x4 hx4=>TieX.pre fun l hl=>TieS.draws 16 (bm 18 0) (bm 18 65535) ⟨[(0,.own 1000000),(1,NI a),(2,NI b2),(3,.fz n2 cs),(8,NI s.1),(9,NI s2.1),(39,.own 1000000),(41,NI (w64 (s2.1 - 1))),(50,.agg [NI x4.Source,NI x4.Kind,NI x4.Torque,NI x4.Priority])],[(1000000,.rs 73 4 l q10)]⟩ mixed (fun _ _ _ h=>by cases h.1) rfl rfl rfl rfl ?_ ?_
      ·refine TieA.ga 10 [0,1,2,3,5,6,10,11] (by kernel_rfl) rfl (.bin (V:=NI (w64 (s2.1 - 1))) 4 _ rfl rfl rfl rfl rfl rfl (by kernel_rfl) (by kernel_rfl) (by kernel_rfl) rfl rfl rfl rfl (.bin (V:=NI (w64 (s2.1 - 1))) 7 _ rfl rfl rfl rfl rfl rfl (by kernel_rfl) (by kernel_rfl) (by kernel_rfl) rfl rfl rfl rfl (.idx 8 _ hx3 rfl rfl rfl rfl rfl rfl (by kernel_rfl) (by kernel_rfl) (by kernel_rfl) rfl rfl rfl rfl rfl rfl (.idx 12 _ hx4 rfl rfl rfl rfl rfl rfl (by kernel_rfl) (by kernel_rfl) (by kernel_rfl) rfl rfl rfl rfl rfl rfl (.all [9,13] (by kernel_rfl) rfl (AllA.cons (σ₁:=⟨[(0,.own 1000000),(1,NI a),(2,NI b2),(3,.fz n2 cs),(8,NI s.1),(9,NI s2.1),(37,.own 1000000),(38,NI s2.1),(39,.own 1000000),(41,NI (w64 (s2.1 - 1))),(46,.agg [NI x3.Source,NI x3.Kind,NI x3.Torque,NI x3.Priority]),(49,.pe 1000000 (Int.toNat s2.1) 4 0)],[(1000000,.rs 73 4 s2.2 q10)]⟩) _ rfl rfl ?_ ?_ ?_))))))
       ·exact TieO.loadY hx3 rfl rfl rfl rfl rfl rfl rfl rfl (.l 1 rfl (lf rfl rfl))
       ·exact TieA.one 13 rfl (by kernel_rfl) (TieO.loadY hx4 rfl rfl rfl rfl rfl rfl rfl rfl (TieO.l 1 rfl ⟨rfl,rfl⟩)) (.idx 14 _ hx4 rfl rfl rfl rfl rfl rfl (by kernel_rfl) (by kernel_rfl) (by kernel_rfl) rfl rfl rfl rfl rfl rfl (.one 15 rfl (by kernel_rfl) (TieO.withH hl (TieO.storeY x3 [tI x3.Source,tI x3.Kind,tI x3.Torque,tI x3.Priority] hx4 rfl rfl rfl rfl rfl rfl rfl rfl rfl rfl rfl rfl (TieO.ifG (TieO.l 1 rfl ⟨rfl,rfl⟩)))) (.done (.of rfl rfl))))
       refine AllA.cons (σ₁:=⟨[(0,.own 1000000),(1,NI a),(2,NI b2),(3,.fz n2 cs),(8,NI s.1),(9,NI s2.1),(37,.own 1000000),(38,NI s2.1),(39,.own 1000000),(41,NI (w64 (s2.1 - 1))),(45,.pe 1000000 (Int.toNat (w64 (s2.1 - 1))) 4 0),(50,.agg [NI x4.Source,NI x4.Kind,NI x4.Torque,NI x4.Priority])],[(1000000,.rs 73 4 s2.2 q10)]⟩) _ rfl rfl ?_ ?_ ?_
       ·exact TieO.loadY hx4 rfl rfl rfl rfl rfl rfl rfl rfl (.l 1 rfl (lf rfl rfl))
       ·exact TieA.one 9 rfl (by kernel_rfl) (TieO.loadY hx3 rfl rfl rfl rfl rfl rfl rfl rfl (TieO.l 1 rfl ⟨rfl,rfl⟩)) (.idx 14 _ hx4 rfl rfl rfl rfl rfl rfl (by kernel_rfl) (by kernel_rfl) (by kernel_rfl) rfl rfl rfl rfl rfl rfl (.one 15 rfl (by kernel_rfl) (TieO.withH hl (TieO.storeY x3 [tI x3.Source,tI x3.Kind,tI x3.Torque,tI x3.Priority] hx4 rfl rfl rfl rfl rfl rfl rfl rfl rfl rfl rfl rfl (TieO.ifG (TieO.l 1 rfl ⟨rfl,rfl⟩)))) (.done (.of rfl rfl))))
       exact AllA.nil
      exact TieO.indexO rfl rfl rfl rfl rfl rfl rfl rfl rfl rfl fun x5 hx5=>.storeY x4 [tI x4.Source,tI x4.Kind,tI x4.Torque,tI x4.Priority] hx5 rfl rfl rfl rfl rfl rfl rfl rfl rfl rfl rfl rfl fun l2 hl2=>.l 1 rfl (lf rfl rfl)
     rintro f2 e σ' _ ⟨rfl,hs⟩
     exact TieX.sub hs (TieS.l 6 rfl (lf rfl rfl))
    ·exact TieS.exitOut rfl ⟨(fun h=>by cases h),rfl,.of rfl rfl⟩
   rintro (s3 | r) e σ' _ hq
   ·obtain ⟨rfl,hs⟩:=hq
    refine TieX.exit rfl (TieX.sub hs ?_)
    exact TieS.l 6 rfl (lf rfl rfl)
   ·exact hq.elim
  ·exact TieS.exitOut rfl ⟨(fun h=>by cases h),rfl,.of rfl rfl⟩
 rintro (s4 | r) e σ' _ hq
 ·obtain ⟨rfl,hs⟩:=hq
  refine TieX.exit rfl (TieX.sub hs ?_)
  exact TieS.leaf ⟨.inr rfl,⟨[(1000000,1000000)],_,_,rfl,rfl,rfl,rfl,rfl⟩⟩
 ·exact hq.elim
theorem q81 (data:List SRequest) (a:Int) (b2:Int) (n2:Int) (n3:Nat) (cs:List (List Tree)) (cmp:SRequest → SRequest → Option Int) (h2:∀ x0 x1,TieF Tryz.prog n3 ([q33 x0,q33 x1] ++ cs.map T.el) (cmp x0 x1) (fun r=>NI r)):TieG Tryz.prog 299 [.own 1000000,NI a,NI b2,NI n2,.fz n3 cs] [(1000000,.rs 73 4 data q10)] (q63 data a b2 n2 cmp) (fun _=>.tup []) (fun r=>[(1000000,.rs 73 4 r q10)]):=by
 refine TieG.i htab 38 [] Tryz.call299 Tryz.func299 rfl rfl rfl rfl fun w0 L=>?_
 refine TieS.s 5 rfl (.loop (fun t=>⟨[(0,.own 1000000),(1,NI a),(2,NI b2),(3,NI n2),(10,NI t.1)],[(1000000,.rs 73 4 t.2 q10)]⟩) (fun b e σ'=>match b with | .inl t=>e = .exit 0 ∧ Sub ⟨[],[(1000000,.rs 73 4 t.2 q10)]⟩ σ' | .inr t=>False) (.of rfl rfl) ?_ ?_)
 ·intro s
  refine TieS.s 7 rfl (.cond rfl ?_ ?_)
  ·refine TieS.s 3 rfl (.bind (Q₁:=nrm fun t=>⟨[(0,.own 1000000),(1,NI a),(2,NI b2),(3,NI n2),(10,NI s.1)],[(1000000,.rs 73 4 t q10)]⟩) ?_ ?_)
   ·refine TieX.pre fun x hx=>TieX.pre fun x2 hx2=>TieX.pre fun l hl=>TieS.draws 22 (bm 24 0) (bm 24 4194303) ⟨[(0,.own 1000000),(1,NI a),(2,NI b2),(3,NI n2),(10,NI s.1),(20,.own 1000000),(23,NI (w64 (b2 + s.1))),(35,.agg [NI x2.Source,NI x2.Kind,NI x2.Torque,NI x2.Priority])],[(1000000,.rs 73 4 l q10)]⟩ mixed (fun _ _ _ h=>by cases h.1) rfl rfl rfl rfl ?_ ?_
    ·refine TieA.ga 12 [0,1,2,4,5,6,8,9,10,14,15,16] (by kernel_rfl) rfl (.bin (V:=NI (w64 (a + s.1))) 3 _ rfl rfl rfl rfl rfl rfl (by kernel_rfl) (by kernel_rfl) (by kernel_rfl) rfl rfl rfl rfl (.bin (V:=NI (w64 (b2 + s.1))) 7 _ rfl rfl rfl rfl rfl rfl (by kernel_rfl) (by kernel_rfl) (by kernel_rfl) rfl rfl rfl rfl (.bin (V:=NI (w64 (b2 + s.1))) 11 _ rfl rfl rfl rfl rfl rfl (by kernel_rfl) (by kernel_rfl) (by kernel_rfl) rfl rfl rfl rfl (.idx 12 _ hx rfl rfl rfl rfl rfl rfl (by kernel_rfl) (by kernel_rfl) (by kernel_rfl) rfl rfl rfl rfl rfl rfl (.bin (V:=NI (w64 (a + s.1))) 17 _ rfl rfl rfl rfl rfl rfl (by kernel_rfl) (by kernel_rfl) (by kernel_rfl) rfl rfl rfl rfl (.idx 18 _ hx2 rfl rfl rfl rfl rfl rfl (by kernel_rfl) (by kernel_rfl) (by kernel_rfl) rfl rfl rfl rfl rfl rfl (.all [13,19] (by kernel_rfl) rfl (AllA.cons (σ₁:=⟨[(0,.own 1000000),(1,NI a),(2,NI b2),(3,NI n2),(10,NI s.1),(16,.own 1000000),(19,NI (w64 (a + s.1))),(20,.own 1000000),(23,NI (w64 (b2 + s.1))),(29,.agg [NI x.Source,NI x.Kind,NI x.Torque,NI x.Priority]),(34,.pe 1000000 (Int.toNat (w64 (a + s.1))) 4 0)],[(1000000,.rs 73 4 s.2 q10)]⟩) _ rfl rfl ?_ ?_ ?_))))))))
     ·exact TieO.loadY hx rfl rfl rfl rfl rfl rfl rfl rfl (.l 1 rfl (lf rfl rfl))
     ·exact TieA.one 19 rfl (by kernel_rfl) (TieO.loadY hx2 rfl rfl rfl rfl rfl rfl rfl rfl (TieO.l 1 rfl ⟨rfl,rfl⟩)) (.idx 20 _ hx2 rfl rfl rfl rfl rfl rfl (by kernel_rfl) (by kernel_rfl) (by kernel_rfl) rfl rfl rfl rfl rfl rfl (.one 21 rfl (by kernel_rfl) (TieO.withH hl (TieO.storeY x [tI x.Source,tI x.Kind,tI x.Torque,tI x.Priority] hx2 rfl rfl rfl rfl rfl rfl rfl rfl rfl rfl rfl rfl (TieO.ifG (TieO.l 1 rfl ⟨rfl,rfl⟩)))) (.done (.of rfl rfl))))
     refine AllA.cons (σ₁:=⟨[(0,.own 1000000),(1,NI a),(2,NI b2),(3,NI n2),(10,NI s.1),(16,.own 1000000),(19,NI (w64 (a + s.1))),(20,.own 1000000),(23,NI (w64 (b2 + s.1))),(28,.pe 1000000 (Int.toNat (w64 (b2 + s.1))) 4 0),(35,.agg [NI x2.Source,NI x2.Kind,NI x2.Torque,NI x2.Priority])],[(1000000,.rs 73 4 s.2 q10)]⟩) _ rfl rfl ?_ ?_ ?_
     ·exact TieO.loadY hx2 rfl rfl rfl rfl rfl rfl rfl rfl (.l 1 rfl (lf rfl rfl))
     ·exact TieA.one 13 rfl (by kernel_rfl) (TieO.loadY hx rfl rfl rfl rfl rfl rfl rfl rfl (TieO.l 1 rfl ⟨rfl,rfl⟩)) (.idx 20 _ hx2 rfl rfl rfl rfl rfl rfl (by kernel_rfl) (by kernel_rfl) (by kernel_rfl) rfl rfl rfl rfl rfl rfl (.one 21 rfl (by kernel_rfl) (TieO.withH hl (TieO.storeY x [tI x.Source,tI x.Kind,tI x.Torque,tI x.Priority] hx2 rfl rfl rfl rfl rfl rfl rfl rfl rfl rfl rfl rfl (TieO.ifG (TieO.l 1 rfl ⟨rfl,rfl⟩)))) (.done (.of rfl rfl))))
     exact AllA.nil
    exact TieO.indexO rfl rfl rfl rfl rfl rfl rfl rfl rfl rfl fun x3 hx3=>.storeY x2 [tI x2.Source,tI x2.Kind,tI x2.Torque,tI x2.Priority] hx3 rfl rfl rfl rfl rfl rfl rfl rfl rfl rfl rfl rfl fun l2 hl2=>.l 1 rfl (lf rfl rfl)
   rintro f2 e σ' _ ⟨rfl,hs⟩
   exact TieX.sub hs (TieS.l 6 rfl (lf rfl rfl))
  ·exact TieS.exitOut rfl ⟨(fun h=>by cases h),rfl,.of rfl rfl⟩
 rintro (s2 | r) e σ' _ hq
 ·obtain ⟨rfl,hs⟩:=hq
  refine TieX.exit rfl (TieX.sub hs ?_)
  exact TieS.leaf ⟨.inr rfl,⟨[(1000000,1000000)],_,_,rfl,rfl,rfl,rfl,rfl⟩⟩
 ·exact hq.elim
theorem q406 (data:List SRequest) (a:Int) (m2:Int) (b2:Int) (n2:Nat) (cs:List (List Tree)) (cmp:SRequest → SRequest → Option Int) (h2:∀ x0 x1,TieF Tryz.prog n2 ([q33 x0,q33 x1] ++ cs.map T.el) (cmp x0 x1) (fun r=>NI r)):TieG Tryz.prog 292 [.own 1000000,NI a,NI m2,NI b2,.fz n2 cs] [(1000000,.rs 73 4 data q10)] (q291 data a m2 b2 cmp) (fun _=>.tup []) (fun r=>[(1000000,.rs 73 4 r q10)]):=by
 refine TieG.i htab 58 [] Tryz.call292 Tryz.func292 rfl rfl rfl rfl fun w0 L=>?_
 refine TieS.s 16 rfl (.loop (fun t=>⟨[(0,.own 1000000),(2,NI m2),(4,.fz n2 cs),(10,NI t.1),(11,NI t.2.1)],[(1000000,.rs 73 4 t.2.2 q10)]⟩) (fun b e σ'=>match b with | .inl t=>e = .exit 0 ∧ Sub ⟨[(0,.own 1000000),(2,NI m2),(4,.fz n2 cs),(10,NI t.1)],[(1000000,.rs 73 4 t.2.2 q10)]⟩ σ' | .inr t=>False) (.of rfl rfl) ?_ ?_)
 ·intro s
  refine TieS.s 7 rfl (.cond rfl ?_ ?_)
  ·refine TieS.s 8 rfl (.cond rfl ?_ ?_)
   ·exact TieS.o 9 rfl (.g [(1000000,1000000)] [] (q81 s.2.2 (w64 (m2 - s.1)) m2 s.2.1 n2 cs cmp h2) rfl rfl rfl (fun _=>rfl) (fun _=>rfl) fun v hv=>.l 8 rfl (lf rfl rfl))
   ·exact TieS.o 13 rfl (.g [(1000000,1000000)] [] (q81 s.2.2 (w64 (m2 - s.1)) (w64 ((w64 (m2 + s.2.1)) - s.1)) s.1 n2 cs cmp h2) rfl rfl rfl (fun _=>rfl) (fun _=>rfl) fun v2 hv2=>.l 8 rfl (lf rfl rfl))
  ·exact TieS.exitOut rfl ⟨(fun h=>by cases h),rfl,.of rfl rfl⟩
 rintro (s2 | r) e σ' _ hq
 ·obtain ⟨rfl,hs⟩:=hq
  refine TieX.exit rfl (TieX.sub hs ?_)
  exact TieS.o 8 rfl (.g [(1000000,1000000)] [] (q81 s2.2.2 (w64 (m2 - s2.1)) m2 s2.1 n2 cs cmp h2) rfl rfl rfl (fun _=>rfl) (fun _=>rfl) fun v3 hv3=>.l 1 rfl ⟨.inr rfl,⟨[(1000000,1000000)],_,_,rfl,rfl,rfl,rfl,rfl⟩⟩)
 ·exact hq.elim
theorem q174 (fu:Nat):∀ (data:List SRequest) (a:Int) (m2:Int) (b2:Int) (n2:Nat) (cs:List (List Tree)) (cmp:SRequest → SRequest → Option Int) (h2:∀ x0 x1,TieF Tryz.prog n2 ([q33 x0,q33 x1] ++ cs.map T.el) (cmp x0 x1) (fun r=>NI r)),TieG Tryz.prog 271 [.own 1000000,NI a,NI m2,NI b2,.fz n2 cs] [(1000000,.rs 73 4 data q10)] (q25 fu data a m2 b2 cmp) (fun _=>.tup []) (fun r=>[(1000000,.rs 73 4 r q10)]):=by
 induction fu with
 | zero=>exact fun _ _ _ _ _ _ _ _=>⟨Tryz.call271,fun _ hr=>by have hr2:(none:Option (List SRequest)) = some _:=hr; cases hr2⟩
 | succ fu ih=>
  rw [show q25 (fu + 1) = q61 (q25 fu) from rfl]
  generalize q25 fu = rc at ih ⊢
  intro data a m2 b2 n2 cs cmp h2
  refine TieG.i htab 220 [] Tryz.call271 Tryz.func271 rfl rfl rfl rfl fun w0 L=>?_
  refine TieS.s 8 rfl (.cond rfl ?_ ?_)
  ·refine TieS.s 12 rfl (.loop (fun t=>⟨[(0,.own 1000000),(1,NI a),(4,.fz n2 cs),(10,NI t.1),(11,NI t.2)],[(1000000,.rs 73 4 data q10)]⟩) (fun b e σ'=>match b with | .inl t=>e = .exit 0 ∧ Sub ⟨[(0,.own 1000000),(1,NI a),(10,NI t.1)],[(1000000,.rs 73 4 data q10)]⟩ σ' | .inr t=>False) (.of rfl rfl) ?_ ?_)
   ·intro s
    refine TieS.s 7 rfl (.cond rfl ?_ ?_)
    ·refine TieS.s 13 rfl (TieX.pre fun x hx=>TieX.pre fun x2 hx2=>TieX.pre fun v hv=>TieS.dr 11 [(0,.own 1000000),(1,NI a),(4,.fz n2 cs),(10,NI s.1),(11,NI s.2),(12,NI (w64 (bitShr .u64 (IntKind.u64.wrap (w64 (s.1 + s.2))) 1)))] [(1000000,.rs 73 4 data q10)] mixed (.of rfl rfl) (.q rfl rfl rfl (.q rfl rfl rfl (.q rfl rfl rfl (.cons (.indexO (sz:=4) hx rfl rfl rfl rfl rfl rfl rfl rfl) (.cons (.loadY hx rfl rfl rfl rfl rfl rfl) (.q rfl rfl rfl (.q rfl rfl rfl (.cons (.indexO (sz:=4) hx2 rfl rfl rfl rfl rfl rfl rfl rfl) (.cons (.loadY hx2 rfl rfl rfl rfl rfl rfl) (.cons (.callV (h2 x x2) hv rfl rfl rfl rfl) (.q rfl rfl rfl (.nil)))))))))))) rfl (.s 1 rfl (.cond rfl ?_ ?_)))
     ·exact TieS.l 6 rfl (lf rfl rfl)
     ·exact TieS.l 5 rfl (lf rfl rfl)
    ·exact TieS.exitOut rfl ⟨(fun h=>by cases h),rfl,.of rfl rfl⟩
   rintro (s2 | r) e σ' _ hq
   ·obtain ⟨rfl,hs⟩:=hq
    refine TieX.exit rfl (TieX.sub hs ?_)
    refine TieS.s 7 rfl (.loop (fun t=>⟨[(0,.own 1000000),(10,NI s2.1),(13,NI t.1)],[(1000000,.rs 73 4 t.2 q10)]⟩) (fun b e σ'=>match b with | .inl t=>e = .exit 2 ∧ Sub ⟨[],[(1000000,.rs 73 4 t.2 q10)]⟩ σ' | .inr t=>False) (.of rfl rfl) ?_ ?_)
    ·intro s3
     refine TieS.s 8 rfl (.cond rfl ?_ ?_)
     ·refine TieS.s 3 rfl (.bind (Q₁:=nrm fun t=>⟨[(0,.own 1000000),(10,NI s2.1),(13,NI s3.1)],[(1000000,.rs 73 4 t q10)]⟩) ?_ ?_)
      ·refine TieX.pre fun x3 hx3=>TieX.pre fun x4 hx4=>TieX.pre fun l hl=>TieS.draws 16 (bm 18 0) (bm 18 65535) ⟨[(0,.own 1000000),(10,NI s2.1),(13,NI s3.1),(63,.own 1000000),(65,NI (w64 (s3.1 + 1))),(74,.agg [NI x4.Source,NI x4.Kind,NI x4.Torque,NI x4.Priority])],[(1000000,.rs 73 4 l q10)]⟩ mixed (fun _ _ _ h=>by cases h.1) rfl rfl rfl rfl ?_ ?_
       ·refine TieA.ga 10 [0,1,2,3,5,6,10,11] (by kernel_rfl) rfl (.bin (V:=NI (w64 (s3.1 + 1))) 4 _ rfl rfl rfl rfl rfl rfl (by kernel_rfl) (by kernel_rfl) (by kernel_rfl) rfl rfl rfl rfl (.bin (V:=NI (w64 (s3.1 + 1))) 7 _ rfl rfl rfl rfl rfl rfl (by kernel_rfl) (by kernel_rfl) (by kernel_rfl) rfl rfl rfl rfl (.idx 8 _ hx3 rfl rfl rfl rfl rfl rfl (by kernel_rfl) (by kernel_rfl) (by kernel_rfl) rfl rfl rfl rfl rfl rfl (.idx 12 _ hx4 rfl rfl rfl rfl rfl rfl (by kernel_rfl) (by kernel_rfl) (by kernel_rfl) rfl rfl rfl rfl rfl rfl (.all [9,13] (by kernel_rfl) rfl (AllA.cons (σ₁:=⟨[(0,.own 1000000),(10,NI s2.1),(13,NI s3.1),(61,.own 1000000),(62,NI s3.1),(63,.own 1000000),(65,NI (w64 (s3.1 + 1))),(70,.agg [NI x3.Source,NI x3.Kind,NI x3.Torque,NI x3.Priority]),(73,.pe 1000000 (Int.toNat s3.1) 4 0)],[(1000000,.rs 73 4 s3.2 q10)]⟩) _ rfl rfl ?_ ?_ ?_))))))
        ·exact TieO.loadY hx3 rfl rfl rfl rfl rfl rfl rfl rfl (.l 1 rfl (lf rfl rfl))
        ·exact TieA.one 13 rfl (by kernel_rfl) (TieO.loadY hx4 rfl rfl rfl rfl rfl rfl rfl rfl (TieO.l 1 rfl ⟨rfl,rfl⟩)) (.idx 14 _ hx4 rfl rfl rfl rfl rfl rfl (by kernel_rfl) (by kernel_rfl) (by kernel_rfl) rfl rfl rfl rfl rfl rfl (.one 15 rfl (by kernel_rfl) (TieO.withH hl (TieO.storeY x3 [tI x3.Source,tI x3.Kind,tI x3.Torque,tI x3.Priority] hx4 rfl rfl rfl rfl rfl rfl rfl rfl rfl rfl rfl rfl (TieO.ifG (TieO.l 1 rfl ⟨rfl,rfl⟩)))) (.done (.of rfl rfl))))
        refine AllA.cons (σ₁:=⟨[(0,.own 1000000),(10,NI s2.1),(13,NI s3.1),(61,.own 1000000),(62,NI s3.1),(63,.own 1000000),(65,NI (w64 (s3.1 + 1))),(69,.pe 1000000 (Int.toNat (w64 (s3.1 + 1))) 4 0),(74,.agg [NI x4.Source,NI x4.Kind,NI x4.Torque,NI x4.Priority])],[(1000000,.rs 73 4 s3.2 q10)]⟩) _ rfl rfl ?_ ?_ ?_
        ·exact TieO.loadY hx4 rfl rfl rfl rfl rfl rfl rfl rfl (.l 1 rfl (lf rfl rfl))
        ·exact TieA.one 9 rfl (by kernel_rfl) (TieO.loadY hx3 rfl rfl rfl rfl rfl rfl rfl rfl (TieO.l 1 rfl ⟨rfl,rfl⟩)) (.idx 14 _ hx4 rfl rfl rfl rfl rfl rfl (by kernel_rfl) (by kernel_rfl) (by kernel_rfl) rfl rfl rfl rfl rfl rfl (.one 15 rfl (by kernel_rfl) (TieO.withH hl (TieO.storeY x3 [tI x3.Source,tI x3.Kind,tI x3.Torque,tI x3.Priority] hx4 rfl rfl rfl rfl rfl rfl rfl rfl rfl rfl rfl rfl (TieO.ifG (TieO.l 1 rfl ⟨rfl,rfl⟩)))) (.done (.of rfl rfl))))
        exact AllA.nil
       exact TieO.indexO rfl rfl rfl rfl rfl rfl rfl rfl rfl rfl fun x5 hx5=>.storeY x4 [tI x4.Source,tI x4.Kind,tI x4.Torque,tI x4.Priority] hx5 rfl rfl rfl rfl rfl rfl rfl rfl rfl rfl rfl rfl fun l2 hl2=>.l 1 rfl (lf rfl rfl)
      rintro f2 e σ' _ ⟨rfl,hs⟩
      exact TieX.sub hs (TieS.l 6 rfl (lf rfl rfl))
     ·exact TieS.exitOut rfl ⟨(fun h=>by cases h),rfl,.of rfl rfl⟩
    rintro (s4 | r) e σ' _ hq
    ·obtain ⟨rfl,hs⟩:=hq
     refine TieX.exit rfl (TieX.sub hs ?_)
     exact TieS.ret (rt (⟨[(1000000,1000000)],_,_,rfl,rfl,rfl,rfl,rfl⟩))
    ·exact hq.elim
   ·exact hq.elim
  ·refine TieS.s 9 rfl (.cond rfl ?_ ?_)
   ·refine TieS.s 12 rfl (.loop (fun t=>⟨[(0,.own 1000000),(2,NI m2),(4,.fz n2 cs),(14,NI t.1),(15,NI t.2)],[(1000000,.rs 73 4 data q10)]⟩) (fun b e σ'=>match b with | .inl t=>e = .exit 4 ∧ Sub ⟨[(0,.own 1000000),(2,NI m2),(14,NI t.1)],[(1000000,.rs 73 4 data q10)]⟩ σ' | .inr t=>False) (.of rfl rfl) ?_ ?_)
    ·intro s5
     refine TieS.s 7 rfl (.cond rfl ?_ ?_)
     ·refine TieS.s 13 rfl (TieX.pre fun x6 hx6=>TieX.pre fun x7 hx7=>TieX.pre fun v2 hv2=>TieS.dr 12 [(0,.own 1000000),(2,NI m2),(4,.fz n2 cs),(14,NI s5.1),(15,NI s5.2),(16,NI (w64 (bitShr .u64 (IntKind.u64.wrap (w64 (s5.1 + s5.2))) 1)))] [(1000000,.rs 73 4 data q10)] mixed (.of rfl rfl) (.q rfl rfl rfl (.q rfl rfl rfl (.q rfl rfl rfl (.cons (.indexO (sz:=4) hx6 rfl rfl rfl rfl rfl rfl rfl rfl) (.cons (.loadY hx6 rfl rfl rfl rfl rfl rfl) (.q rfl rfl rfl (.q rfl rfl rfl (.cons (.indexO (sz:=4) hx7 rfl rfl rfl rfl rfl rfl rfl rfl) (.cons (.loadY hx7 rfl rfl rfl rfl rfl rfl) (.cons (.callV (h2 x6 x7) hv2 rfl rfl rfl rfl) (.q rfl rfl rfl (.q rfl rfl rfl (.nil))))))))))))) rfl (.s 1 rfl (.cond rfl ?_ ?_)))
      ·exact TieS.l 6 rfl (lf rfl rfl)
      ·exact TieS.l 5 rfl (lf rfl rfl)
     ·exact TieS.exitOut rfl ⟨(fun h=>by cases h),rfl,.of rfl rfl⟩
    rintro (s6 | r) e σ' _ hq
    ·obtain ⟨rfl,hs⟩:=hq
     refine TieX.exit rfl (TieX.sub hs ?_)
     refine TieS.s 7 rfl (.loop (fun t=>⟨[(0,.own 1000000),(14,NI s6.1),(17,NI t.1)],[(1000000,.rs 73 4 t.2 q10)]⟩) (fun b e σ'=>match b with | .inl t=>e = .exit 6 ∧ Sub ⟨[],[(1000000,.rs 73 4 t.2 q10)]⟩ σ' | .inr t=>False) (.of rfl rfl) ?_ ?_)
     ·intro s7
      refine TieS.s 7 rfl (.cond rfl ?_ ?_)
      ·refine TieS.s 3 rfl (.bind (Q₁:=nrm fun t=>⟨[(0,.own 1000000),(14,NI s6.1),(17,NI s7.1)],[(1000000,.rs 73 4 t q10)]⟩) ?_ ?_)
       ·refine TieX.pre fun x8 hx8=>TieX.pre fun x9 hx9=>TieX.pre fun l3 hl3=>TieS.draws 16 (bm 18 0) (bm 18 65535) ⟨[(0,.own 1000000),(14,NI s6.1),(17,NI s7.1),(115,.own 1000000),(117,NI (w64 (s7.1 - 1))),(126,.agg [NI x9.Source,NI x9.Kind,NI x9.Torque,NI x9.Priority])],[(1000000,.rs 73 4 l3 q10)]⟩ mixed (fun _ _ _ h=>by cases h.1) rfl rfl rfl rfl ?_ ?_
        ·refine TieA.ga 10 [0,1,2,3,5,6,10,11] (by kernel_rfl) rfl (.bin (V:=NI (w64 (s7.1 - 1))) 4 _ rfl rfl rfl rfl rfl rfl (by kernel_rfl) (by kernel_rfl) (by kernel_rfl) rfl rfl rfl rfl (.bin (V:=NI (w64 (s7.1 - 1))) 7 _ rfl rfl rfl rfl rfl rfl (by kernel_rfl) (by kernel_rfl) (by kernel_rfl) rfl rfl rfl rfl (.idx 8 _ hx8 rfl rfl rfl rfl rfl rfl (by kernel_rfl) (by kernel_rfl) (by kernel_rfl) rfl rfl rfl rfl rfl rfl (.idx 12 _ hx9 rfl rfl rfl rfl rfl rfl (by kernel_rfl) (by kernel_rfl) (by kernel_rfl) rfl rfl rfl rfl rfl rfl (.all [9,13] (by kernel_rfl) rfl (AllA.cons (σ₁:=⟨[(0,.own 1000000),(14,NI s6.1),(17,NI s7.1),(113,.own 1000000),(114,NI s7.1),(115,.own 1000000),(117,NI (w64 (s7.1 - 1))),(122,.agg [NI x8.Source,NI x8.Kind,NI x8.Torque,NI x8.Priority]),(125,.pe 1000000 (Int.toNat s7.1) 4 0)],[(1000000,.rs 73 4 s7.2 q10)]⟩) _ rfl rfl ?_ ?_ ?_))))))
         ·exact TieO.loadY hx8 rfl rfl rfl rfl rfl rfl rfl rfl (.l 1 rfl (lf rfl rfl))
         ·exact TieA.one 13 rfl (by kernel_rfl) (TieO.loadY hx9 rfl rfl rfl rfl rfl rfl rfl rfl (TieO.l 1 rfl ⟨rfl,rfl⟩)) (.idx 14 _ hx9 rfl rfl rfl rfl rfl rfl (by kernel_rfl) (by kernel_rfl) (by kernel_rfl) rfl rfl rfl rfl rfl rfl (.one 15 rfl (by kernel_rfl) (TieO.withH hl3 (TieO.storeY x8 [tI x8.Source,tI x8.Kind,tI x8.Torque,tI x8.Priority] hx9 rfl rfl rfl rfl rfl rfl rfl rfl rfl rfl rfl rfl (TieO.ifG (TieO.l 1 rfl ⟨rfl,rfl⟩)))) (.done (.of rfl rfl))))
         refine AllA.cons (σ₁:=⟨[(0,.own 1000000),(14,NI s6.1),(17,NI s7.1),(113,.own 1000000),(114,NI s7.1),(115,.own 1000000),(117,NI (w64 (s7.1 - 1))),(121,.pe 1000000 (Int.toNat (w64 (s7.1 - 1))) 4 0),(126,.agg [NI x9.Source,NI x9.Kind,NI x9.Torque,NI x9.Priority])],[(1000000,.rs 73 4 s7.2 q10)]⟩) _ rfl rfl ?_ ?_ ?_
         ·exact TieO.loadY hx9 rfl rfl rfl rfl rfl rfl rfl rfl (.l 1 rfl (lf rfl rfl))
         ·exact TieA.one 9 rfl (by kernel_rfl) (TieO.loadY hx8 rfl rfl rfl rfl rfl rfl rfl rfl (TieO.l 1 rfl ⟨rfl,rfl⟩)) (.idx 14 _ hx9 rfl rfl rfl rfl rfl rfl (by kernel_rfl) (by kernel_rfl) (by kernel_rfl) rfl rfl rfl rfl rfl rfl (.one 15 rfl (by kernel_rfl) (TieO.withH hl3 (TieO.storeY x8 [tI x8.Source,tI x8.Kind,tI x8.Torque,tI x8.Priority] hx9 rfl rfl rfl rfl rfl rfl rfl rfl rfl rfl rfl rfl (TieO.ifG (TieO.l 1 rfl ⟨rfl,rfl⟩)))) (.done (.of rfl rfl))))
         exact AllA.nil
        exact TieO.indexO rfl rfl rfl rfl rfl rfl rfl rfl rfl rfl fun x10 hx10=>.storeY x9 [tI x9.Source,tI x9.Kind,tI x9.Torque,tI x9.Priority] hx10 rfl rfl rfl rfl rfl rfl rfl rfl rfl rfl rfl rfl fun l4 hl4=>.l 1 rfl (lf rfl rfl)
       rintro f3 e σ' _ ⟨rfl,hs⟩
       exact TieX.sub hs (TieS.l 6 rfl (lf rfl rfl))
      ·exact TieS.exitOut rfl ⟨(fun h=>by cases h),rfl,.of rfl rfl⟩
     rintro (s8 | r) e σ' _ hq
     ·obtain ⟨rfl,hs⟩:=hq
      refine TieX.exit rfl (TieX.sub hs ?_)
      exact TieS.ret (rt (⟨[(1000000,1000000)],_,_,rfl,rfl,rfl,rfl,rfl⟩))
     ·exact hq.elim
    ·exact hq.elim
   ·refine TieS.s 30 rfl (.bind (Q₁:=nrm fun t=>⟨[(0,.own 1000000),(1,NI a),(2,NI m2),(3,NI b2),(4,.fz n2 cs),(18,NI (w64 (bitShr .u64 (IntKind.u64.wrap (w64 (a + b2))) 1))),(19,NI (w64 ((w64 (bitShr .u64 (IntKind.u64.wrap (w64 (a + b2))) 1)) + m2))),(20,NI t.1),(21,NI t.2)],[(1000000,.rs 73 4 data q10)]⟩) ?_ ?_)
    ·refine TieS.cond rfl ?_ ?_
     ·exact TieS.l 11 rfl (lf rfl rfl)
     ·exact TieS.l 9 rfl (lf rfl rfl)
    rintro s9 e σ' _ ⟨rfl,hs⟩
    refine TieX.sub hs (TieS.s 8 rfl (.loop (fun t=>⟨[(0,.own 1000000),(1,NI a),(2,NI m2),(3,NI b2),(4,.fz n2 cs),(18,NI (w64 (bitShr .u64 (IntKind.u64.wrap (w64 (a + b2))) 1))),(19,NI (w64 ((w64 (bitShr .u64 (IntKind.u64.wrap (w64 (a + b2))) 1)) + m2))),(20,NI t.1),(21,NI t.2),(22,NI (w64 ((w64 ((w64 (bitShr .u64 (IntKind.u64.wrap (w64 (a + b2))) 1)) + m2)) - 1)))],[(1000000,.rs 73 4 data q10)]⟩) (fun b e σ'=>match b with | .inl t=>e = .exit 8 ∧ Sub ⟨[(0,.own 1000000),(1,NI a),(2,NI m2),(3,NI b2),(4,.fz n2 cs),(18,NI (w64 (bitShr .u64 (IntKind.u64.wrap (w64 (a + b2))) 1))),(19,NI (w64 ((w64 (bitShr .u64 (IntKind.u64.wrap (w64 (a + b2))) 1)) + m2))),(20,NI t.1)],[(1000000,.rs 73 4 data q10)]⟩ σ' | .inr t=>False) (.of rfl rfl) ?_ ?_))
    ·intro s10
     refine TieS.s 7 rfl (.cond rfl ?_ ?_)
     ·refine TieS.s 13 rfl (TieX.pre fun x11 hx11=>TieX.pre fun x12 hx12=>TieX.pre fun v3 hv3=>TieS.dr 14 [(0,.own 1000000),(1,NI a),(2,NI m2),(3,NI b2),(4,.fz n2 cs),(18,NI (w64 (bitShr .u64 (IntKind.u64.wrap (w64 (a + b2))) 1))),(19,NI (w64 ((w64 (bitShr .u64 (IntKind.u64.wrap (w64 (a + b2))) 1)) + m2))),(20,NI s10.1),(21,NI s10.2),(22,NI (w64 ((w64 ((w64 (bitShr .u64 (IntKind.u64.wrap (w64 (a + b2))) 1)) + m2)) - 1))),(23,NI (w64 (bitShr .u64 (IntKind.u64.wrap (w64 (s10.1 + s10.2))) 1)))] [(1000000,.rs 73 4 data q10)] mixed (.of rfl rfl) (.q rfl rfl rfl (.q rfl rfl rfl (.q rfl rfl rfl (.q rfl rfl rfl (.q rfl rfl rfl (.cons (.indexO (sz:=4) hx11 rfl rfl rfl rfl rfl rfl rfl rfl) (.cons (.loadY hx11 rfl rfl rfl rfl rfl rfl) (.q rfl rfl rfl (.q rfl rfl rfl (.cons (.indexO (sz:=4) hx12 rfl rfl rfl rfl rfl rfl rfl rfl) (.cons (.loadY hx12 rfl rfl rfl rfl rfl rfl) (.cons (.callV (h2 x11 x12) hv3 rfl rfl rfl rfl) (.q rfl rfl rfl (.q rfl rfl rfl (.nil))))))))))))))) rfl (.s 1 rfl (.cond rfl ?_ ?_)))
      ·exact TieS.l 6 rfl (lf rfl rfl)
      ·exact TieS.l 5 rfl (lf rfl rfl)
     ·exact TieS.exitOut rfl ⟨(fun h=>by cases h),rfl,.of rfl rfl⟩
    rintro (s11 | r) e σ' _ hq
    ·obtain ⟨rfl,hs⟩:=hq
     refine TieX.exit rfl (TieX.sub hs ?_)
     refine TieS.o 14 rfl (.selAnd (v:=decide (m2 < (w64 ((w64 ((w64 (bitShr .u64 (IntKind.u64.wrap (w64 (a + b2))) 1)) + m2)) - s11.1)))) 4 181 (fun b=>⟨[(0,.own 1000000),(1,NI a),(2,NI m2),(3,NI b2),(4,.fz n2 cs),(18,NI (w64 (bitShr .u64 (IntKind.u64.wrap (w64 (a + b2))) 1))),(20,NI s11.1),(24,NI (w64 ((w64 ((w64 (bitShr .u64 (IntKind.u64.wrap (w64 (a + b2))) 1)) + m2)) - s11.1))),(185,NB b)],[(1000000,.rs 73 4 data q10)]⟩) rfl ?_ ?_ ?_)
     ·exact TieO.l 5 rfl (lf rfl rfl)
     ·exact TieO.l 5 rfl (lf rfl rfl)
     refine TieO.s 1 rfl (.bind (Q₁:=nrm fun t=>⟨[(0,.own 1000000),(1,NI a),(3,NI b2),(4,.fz n2 cs),(18,NI (w64 (bitShr .u64 (IntKind.u64.wrap (w64 (a + b2))) 1))),(20,NI s11.1),(24,NI (w64 ((w64 ((w64 (bitShr .u64 (IntKind.u64.wrap (w64 (a + b2))) 1)) + m2)) - s11.1)))],[(1000000,.rs 73 4 t q10)]⟩) ?_ ?_)
     ·refine TieS.cond rfl ?_ ?_
      ·exact TieS.o 6 rfl (.g [(1000000,1000000)] [] (q406 data s11.1 m2 (w64 ((w64 ((w64 (bitShr .u64 (IntKind.u64.wrap (w64 (a + b2))) 1)) + m2)) - s11.1)) n2 cs cmp h2) rfl rfl rfl (fun _=>rfl) (fun _=>rfl) fun v4 hv4=>.l 1 rfl (lf rfl rfl))
      ·exact TieS.l 1 rfl (lf rfl rfl)
     rintro f4 e σ' _ ⟨rfl,hs⟩
     refine TieX.sub hs (TieS.o 7 rfl (.selAnd (v:=decide (s11.1 < (w64 (bitShr .u64 (IntKind.u64.wrap (w64 (a + b2))) 1)))) 4 195 (fun b=>⟨[(0,.own 1000000),(1,NI a),(3,NI b2),(4,.fz n2 cs),(18,NI (w64 (bitShr .u64 (IntKind.u64.wrap (w64 (a + b2))) 1))),(20,NI s11.1),(24,NI (w64 ((w64 ((w64 (bitShr .u64 (IntKind.u64.wrap (w64 (a + b2))) 1)) + m2)) - s11.1))),(199,NB b)],[(1000000,.rs 73 4 f4 q10)]⟩) rfl ?_ ?_ ?_))
     ·exact TieO.l 5 rfl (lf rfl rfl)
     ·exact TieO.l 5 rfl (lf rfl rfl)
     refine TieO.s 1 rfl (.bind (Q₁:=nrm fun t=>⟨[(0,.own 1000000),(3,NI b2),(4,.fz n2 cs),(18,NI (w64 (bitShr .u64 (IntKind.u64.wrap (w64 (a + b2))) 1))),(24,NI (w64 ((w64 ((w64 (bitShr .u64 (IntKind.u64.wrap (w64 (a + b2))) 1)) + m2)) - s11.1)))],[(1000000,.rs 73 4 t q10)]⟩) ?_ ?_)
     ·refine TieS.cond rfl ?_ ?_
      ·exact TieS.o 6 rfl (.g [(1000000,1000000)] [] (ih f4 a s11.1 (w64 (bitShr .u64 (IntKind.u64.wrap (w64 (a + b2))) 1)) n2 cs cmp h2) rfl rfl rfl (fun _=>rfl) (fun _=>rfl) fun v5 hv5=>.l 1 rfl (lf rfl rfl))
      ·exact TieS.l 1 rfl (lf rfl rfl)
     rintro f5 e σ' _ ⟨rfl,hs⟩
     refine TieX.sub hs (TieS.o 6 rfl (.selAnd (v:=decide ((w64 ((w64 ((w64 (bitShr .u64 (IntKind.u64.wrap (w64 (a + b2))) 1)) + m2)) - s11.1)) < b2)) 4 209 (fun b=>⟨[(0,.own 1000000),(3,NI b2),(4,.fz n2 cs),(18,NI (w64 (bitShr .u64 (IntKind.u64.wrap (w64 (a + b2))) 1))),(24,NI (w64 ((w64 ((w64 (bitShr .u64 (IntKind.u64.wrap (w64 (a + b2))) 1)) + m2)) - s11.1))),(213,NB b)],[(1000000,.rs 73 4 f5 q10)]⟩) rfl ?_ ?_ ?_))
     ·exact TieO.l 5 rfl (lf rfl rfl)
     ·exact TieO.l 5 rfl (lf rfl rfl)
     refine TieO.s 1 rfl (.cond rfl ?_ ?_)
     ·exact TieS.o 6 rfl (.g [(1000000,1000000)] [] (ih f5 (w64 (bitShr .u64 (IntKind.u64.wrap (w64 (a + b2))) 1)) (w64 ((w64 ((w64 (bitShr .u64 (IntKind.u64.wrap (w64 (a + b2))) 1)) + m2)) - s11.1)) b2 n2 cs cmp h2) rfl rfl rfl (fun _=>rfl) (fun _=>rfl) fun v6 hv6=>.l 1 rfl ⟨.inr rfl,⟨[(1000000,1000000)],_,_,rfl,rfl,rfl,rfl,rfl⟩⟩)
     ·exact TieS.l 1 rfl ⟨.inr rfl,⟨[(1000000,1000000)],_,_,rfl,rfl,rfl,rfl,rfl⟩⟩
    ·exact hq.elim
theorem q408 (data:List SRequest) (n2:Int) (n3:Nat) (cs:List (List Tree)) (cmp:SRequest → SRequest → Option Int) (h2:∀ x0 x1,TieF Tryz.prog n3 ([q33 x0,q33 x1] ++ cs.map T.el) (cmp x0 x1) (fun r=>NI r)):TieG Tryz.prog 249 [.own 1000000,NI n2,.fz n3 cs] [(1000000,.rs 73 4 data q10)] (q79 data n2 cmp) (fun _=>.tup []) (fun r=>[(1000000,.rs 73 4 r q10)]):=by
 refine TieG.i htab 63 [] Tryz.call249 Tryz.func249 rfl rfl rfl rfl fun w0 L=>?_
 refine TieS.s 12 rfl (.loop (fun t=>⟨[(0,.own 1000000),(1,NI n2),(2,.fz n3 cs),(6,NI 20),(7,NI t.1),(8,NI t.2.1)],[(1000000,.rs 73 4 t.2.2 q10)]⟩) (fun b e σ'=>match b with | .inl t=>e = .exit 0 ∧ Sub ⟨[(0,.own 1000000),(1,NI n2),(2,.fz n3 cs),(6,NI 20),(7,NI t.1)],[(1000000,.rs 73 4 t.2.2 q10)]⟩ σ' | .inr t=>False) (.of rfl rfl) ?_ ?_)
 ·intro s
  refine TieS.s 7 rfl (.cond rfl ?_ ?_)
  ·exact TieS.o 8 rfl (.g [(1000000,1000000)] [] (q123 s.2.2 s.1 s.2.1 n3 cs cmp h2) rfl rfl rfl (fun _=>rfl) (fun _=>rfl) fun v hv=>.l 13 rfl (lf rfl rfl))
  ·exact TieS.exitOut rfl ⟨(fun h=>by cases h),rfl,.of rfl rfl⟩
 rintro (s2 | r) e σ' _ hq
 ·obtain ⟨rfl,hs⟩:=hq
  refine TieX.exit rfl (TieX.sub hs ?_)
  refine TieS.o 6 rfl (.g [(1000000,1000000)] [] (q123 s2.2.2 s2.1 n2 n3 cs cmp h2) rfl rfl rfl (fun _=>rfl) (fun _=>rfl) fun v2 hv2=>.s 2 rfl (.loop (fun t=>⟨[(0,.own 1000000),(1,NI n2),(2,.fz n3 cs),(6,NI t.1)],[(1000000,.rs 73 4 t.2 q10)]⟩) (fun b e σ'=>match b with | .inl t=>e = .exit 2 ∧ Sub ⟨[],[(1000000,.rs 73 4 t.2 q10)]⟩ σ' | .inr t=>False) (.of rfl rfl) ?_ ?_))
  ·intro s3
   refine TieS.s 7 rfl (.cond rfl ?_ ?_)
   ·refine TieS.s 11 rfl (.loop (fun t=>⟨[(0,.own 1000000),(1,NI n2),(2,.fz n3 cs),(6,NI s3.1),(7,NI t.1),(8,NI t.2.1)],[(1000000,.rs 73 4 t.2.2 q10)]⟩) (fun b e σ'=>match b with | .inl t=>e = .exit 4 ∧ Sub ⟨[(0,.own 1000000),(1,NI n2),(2,.fz n3 cs),(6,NI s3.1),(7,NI t.1)],[(1000000,.rs 73 4 t.2.2 q10)]⟩ σ' | .inr t=>False) (.of rfl rfl) ?_ ?_)
    ·intro s4
     refine TieS.s 7 rfl (.cond rfl ?_ ?_)
     ·exact TieS.o 11 rfl (.g [(1000000,1000000)] [] (q174 64 s4.2.2 s4.1 (w64 (s4.1 + s3.1)) s4.2.1 n3 cs cmp h2) rfl rfl rfl (fun _=>rfl) (fun _=>rfl) fun v3 hv3=>.l 14 rfl (lf rfl rfl))
     ·exact TieS.exitOut rfl ⟨(fun h=>by cases h),rfl,.of rfl rfl⟩
    rintro (s5 | r) e σ' _ hq
    ·obtain ⟨rfl,hs⟩:=hq
     refine TieX.exit rfl (TieX.sub hs ?_)
     refine TieS.s 14 rfl (.cond rfl ?_ ?_)
     ·exact TieS.o 6 rfl (.g [(1000000,1000000)] [] (q174 64 s5.2.2 s5.1 (w64 (s5.1 + s3.1)) n2 n3 cs cmp h2) rfl rfl rfl (fun _=>rfl) (fun _=>rfl) fun v4 hv4=>.l 7 rfl (lf rfl rfl))
     ·exact TieS.l 7 rfl (lf rfl rfl)
    ·exact hq.elim
   ·exact TieS.exitOut rfl ⟨(fun h=>by cases h),rfl,.of rfl rfl⟩
  rintro (s6 | r) e σ' _ hq
  ·obtain ⟨rfl,hs⟩:=hq
   refine TieX.exit rfl (TieX.sub hs ?_)
   exact TieS.leaf ⟨.inr rfl,⟨[(1000000,1000000)],_,_,rfl,rfl,rfl,rfl,rfl⟩⟩
  ·exact hq.elim
 ·exact hq.elim
theorem q381 (x:List SRequest) (n2:Nat) (cs:List (List Tree)) (cmp:SRequest → SRequest → Option Int) (h2:∀ x0 x1,TieF Tryz.prog n2 ([q33 x0,q33 x1] ++ cs.map T.el) (cmp x0 x1) (fun r=>NI r)):TieG Tryz.prog 210 [.own 1000000,.fz n2 cs] [(1000000,.rs 73 4 x q10)] (q71 x cmp) (fun _=>.tup []) (fun r=>[(1000000,.rs 73 4 r q10)]):=by
 refine TieG.i htab 9 [] Tryz.call210 Tryz.func210 rfl rfl rfl rfl fun w0 L=>?_
 exact TieS.o 5 rfl (.g [(1000000,1000000)] [] (q408 x (x.length:Int) n2 cs cmp h2) rfl rfl rfl (fun _=>rfl) (fun _=>rfl) fun v hv=>.l 1 rfl ⟨.inr rfl,⟨[(1000000,1000000)],_,_,rfl,rfl,rfl,rfl,rfl⟩⟩)
theorem q612 (a:SRequest) (b2:SRequest):TieF Tryz.prog 211 [q33 a,q33 b2] (q45 a b2) (fun r=>NI r):=by
 refine TieF.i htab 10 [.tmp 4] Tryz.call211 Tryz.func211 rfl rfl rfl rfl fun w0 L=>?_
 exact TieS.r 15 rfl (rt rfl)
theorem q535 (s:Sarbiter_span) (t2:Int):TieG Tryz.prog 250 [.ptr 1000000 0,NI t2] [(1000000,.box [NI s.low,NI s.high,NI s.source])] (q332 s t2) (fun _=>.tup []) (fun r=>[(1000000,.box [NI r.low,NI r.high,NI r.source])]):=by
 refine TieG.i htab 18 [] Tryz.call250 Tryz.func250 rfl rfl rfl rfl fun w0 L=>?_
 exact TieS.dr 14 [(0,.ptr 1000000 0),(1,NI t2)] [(1000000,.box [NI s.low,NI s.high,NI s.source])] mixed (.of rfl rfl) (.q rfl rfl rfl (.q rfl rfl rfl (.q rfl rfl rfl (.q rfl rfl rfl (.q rfl rfl rfl (.q rfl rfl rfl (.q rfl rfl rfl (.q rfl rfl rfl (.q rfl rfl rfl (.q rfl rfl rfl (.q rfl rfl rfl (.q rfl rfl rfl (.q rfl rfl rfl (.q rfl rfl rfl (.nil))))))))))))))) rfl (.l 2 rfl ⟨.inr rfl,⟨[(1000000,1000000)],_,_,rfl,rfl,rfl,rfl,rfl⟩⟩)
theorem q511 (s:Sarbiter_span) (t2:Int):TieG Tryz.prog 251 [.ptr 1000000 0,NI t2] [(1000000,.box [NI s.low,NI s.high,NI s.source])] (q319 s t2) (fun _=>.tup []) (fun r=>[(1000000,.box [NI r.low,NI r.high,NI r.source])]):=by
 refine TieG.i htab 18 [] Tryz.call251 Tryz.func251 rfl rfl rfl rfl fun w0 L=>?_
 exact TieS.dr 14 [(0,.ptr 1000000 0),(1,NI t2)] [(1000000,.box [NI s.low,NI s.high,NI s.source])] mixed (.of rfl rfl) (.q rfl rfl rfl (.q rfl rfl rfl (.q rfl rfl rfl (.q rfl rfl rfl (.q rfl rfl rfl (.q rfl rfl rfl (.q rfl rfl rfl (.q rfl rfl rfl (.q rfl rfl rfl (.q rfl rfl rfl (.q rfl rfl rfl (.q rfl rfl rfl (.q rfl rfl rfl (.q rfl rfl rfl (.nil))))))))))))))) rfl (.l 2 rfl ⟨.inr rfl,⟨[(1000000,1000000)],_,_,rfl,rfl,rfl,rfl,rfl⟩⟩)
theorem q513 (s:Sarbiter_span) (t2:Int):TieG Tryz.prog 252 [.ptr 1000000 0,NI t2] [(1000000,.box [NI s.low,NI s.high,NI s.source])] (q317 s t2) (fun _=>.tup []) (fun r=>[(1000000,.box [NI r.low,NI r.high,NI r.source])]):=by
 refine TieG.i htab 22 [] Tryz.call252 Tryz.func252 rfl rfl rfl rfl fun w0 L=>?_
 exact TieS.s 1 rfl (TieX.pre fun v hv=>TieS.dr 10 [(0,.ptr 1000000 0),(1,NI t2)] [(1000000,.box [NI s.low,NI s.high,NI s.source])] mixed (.of rfl rfl) (.q rfl rfl rfl (.q rfl rfl rfl (.q rfl rfl rfl (.q rfl rfl rfl (.q rfl rfl rfl (.q rfl rfl rfl (.q rfl rfl rfl (.q rfl rfl rfl (.q rfl rfl rfl (.cons (.callV (q31 t2 s.low s.high) hv rfl rfl rfl rfl) (.nil))))))))))) rfl (.l 14 rfl ⟨.inr rfl,⟨[(1000000,1000000)],_,_,rfl,rfl,rfl,rfl,rfl⟩⟩))
abbrev x212_0 (r2:SRequest):List T:=[NI r2.Source,NI r2.Kind,NI r2.Torque,NI r2.Priority]
theorem q538 (s:Sarbiter_span) (r2:SRequest):TieG Tryz.prog 212 [.ptr 1000000 0,q33 r2] [(1000000,.box [NI s.low,NI s.high,NI s.source])] (q211 s r2) (fun r=>NB r.1) (fun r=>[(1000000,.box [NI r.2.low,NI r.2.high,NI r.2.source])]):=by
 refine TieG.i htab 57 [.tmp 4] Tryz.call212 Tryz.func212 rfl rfl rfl rfl fun w0 L=>?_
 refine TieS.s 19 rfl (.bind (Q₁:=nrm fun t=>⟨[(0,.ptr 1000000 0),NP 3,NP 5],[(3,.box (x212_0 r2)),(5,.box [NI s.low,NI s.high,NI s.source]),(1000000,.box [NI t.low,NI t.high,NI t.source])]⟩) ?_ ?_)
 ·refine TieS.s 6 rfl (.cond rfl ?_ ?_)
  ·exact TieS.o 4 rfl (.g [(1000000,1000000)] [] (q535 s r2.Torque) rfl rfl rfl (fun _=>rfl) (fun _=>rfl) fun v hv=>.l 2 rfl (lf rfl rfl))
  ·refine TieS.s 5 rfl (.cond rfl ?_ ?_)
   ·exact TieS.o 4 rfl (.g [(1000000,1000000)] [] (q511 s r2.Torque) rfl rfl rfl (fun _=>rfl) (fun _=>rfl) fun v2 hv2=>.l 2 rfl (lf rfl rfl))
   ·refine TieS.s 5 rfl (.cond rfl ?_ ?_)
    ·exact TieS.o 4 rfl (.g [(1000000,1000000)] [] (q513 s r2.Torque) rfl rfl rfl (fun _=>rfl) (fun _=>rfl) fun v3 hv3=>.l 2 rfl (lf rfl rfl))
    ·exact TieS.l 2 rfl (lf rfl rfl)
 rintro f2 e σ' _ ⟨rfl,hs⟩
 refine TieX.sub hs (TieS.s 2 rfl (.dr 7 [(0,.ptr 1000000 0),NP 3,NP 5] [(3,.box (x212_0 r2)),(5,.box [NI s.low,NI s.high,NI s.source]),(1000000,.box [NI f2.low,NI f2.high,NI f2.source])] mixed (.of rfl rfl) (.q rfl rfl rfl (.q rfl rfl rfl (.q rfl rfl rfl (.q rfl rfl rfl (.q rfl rfl rfl (.q rfl rfl rfl (.q rfl rfl rfl (.nil)))))))) rfl (.s 1 rfl (.bind (Q₁:=nrm fun t=>⟨[(0,.ptr 1000000 0),NP 5],[(5,.box [NI s.low,NI s.high,NI s.source]),(1000000,.box [NI f2.low,NI f2.high,NI t])]⟩) ?_ ?_))))
 ·refine TieS.cond rfl ?_ ?_
  ·exact TieS.l 8 rfl (lf rfl rfl)
  ·exact TieS.l 1 rfl (lf rfl rfl)
 rintro f3 e σ' _ ⟨rfl,hs⟩
 refine TieX.sub hs (TieS.s 1 rfl (TieX.split (fun hg=>?_) (fun hg2=>?_)))
 ·exact TieS.dr 17 [(0,.ptr 1000000 0),NP 5] [(5,.box [NI s.low,NI s.high,NI s.source]),(1000000,.box [NI f2.low,NI f2.high,NI f3])] mixed (.of rfl rfl) (.q rfl rfl rfl (.q rfl rfl rfl (.q rfl rfl rfl (.q rfl rfl rfl (.q rfl rfl rfl (.q rfl rfl rfl (.q rfl rfl rfl (.cons (.cast (congrArg T.B hg) (.quiet rfl rfl rfl)) (.k rfl (.k rfl (.k rfl (.k rfl (.k rfl (.k rfl (.k rfl (.q rfl rfl rfl (.q rfl rfl rfl (.nil)))))))))))))))))) rfl (.r 1 rfl (rt (⟨[(1000000,1000000)],_,_,rfl,rfl,rfl,rfl,rfl⟩)))
 ·exact TieS.dr 17 [(0,.ptr 1000000 0),NP 5] [(5,.box [NI s.low,NI s.high,NI s.source]),(1000000,.box [NI f2.low,NI f2.high,NI f3])] mixed (.of rfl rfl) (.q rfl rfl rfl (.q rfl rfl rfl (.q rfl rfl rfl (.q rfl rfl rfl (.q rfl rfl rfl (.q rfl rfl rfl (.q rfl rfl rfl (.cons (.cast (congrArg T.B hg2) (.quiet rfl rfl rfl)) (.q rfl rfl rfl (.q rfl rfl rfl (.q rfl rfl rfl (.q rfl rfl rfl (.q rfl rfl rfl (.q rfl rfl rfl (.q rfl rfl rfl (.q rfl rfl rfl (.q rfl rfl rfl (.nil)))))))))))))))))) rfl (.r 1 rfl (rt (⟨[(1000000,1000000)],_,_,rfl,rfl,rfl,rfl,rfl⟩)))
def q650:Go.Shelf.Ren:=⟨fun | 125=>254 | 128=>280 | 129=>281 | 189=>213 | 215=>257 | 216=>217 | 257=>253 | 294=>272 | 295=>273 | 296=>274 | 297=>275 | 298=>276 | 299=>277 | 300=>278 | 301=>279 | 328=>293 | 329=>294 | 330=>295 | 331=>296 | 332=>297 | 343=>300 | n=>n,fun | 0=>0 | 3=>3 | 4=>4 | 5=>5 | 9=>9 | 28=>22 | 46=>199 | 51=>222 | 53=>225 | 131=>192 | 182=>236 | 183=>237 | 218=>251 | 222=>255 | 228=>259 | 229=>133 | n=>n,fun  | n=>n⟩
open Go.Shelf in
theorem sortI213:Lays.n189 Tryz.prog q650:={
 mixed:=by kernel_rfl,
 f125:=Tryz.func254.trans (congrArg some (by kernel_rfl)),
 f128:=Tryz.func280.trans (congrArg some (by kernel_rfl)),
 f129:=Tryz.func281.trans (congrArg some (by kernel_rfl)),
 f189:=Tryz.func213.trans (congrArg some (by kernel_rfl)),
 f215:=Tryz.func257.trans (congrArg some (by kernel_rfl)),
 f216:=Tryz.func217.trans (congrArg some (by kernel_rfl)),
 f257:=Tryz.func253.trans (congrArg some (by kernel_rfl)),
 f294:=Tryz.func272.trans (congrArg some (by kernel_rfl)),
 f295:=Tryz.func273.trans (congrArg some (by kernel_rfl)),
 f296:=Tryz.func274.trans (congrArg some (by kernel_rfl)),
 f297:=Tryz.func275.trans (congrArg some (by kernel_rfl)),
 f298:=Tryz.func276.trans (congrArg some (by kernel_rfl)),
 f299:=Tryz.func277.trans (congrArg some (by kernel_rfl)),
 f300:=Tryz.func278.trans (congrArg some (by kernel_rfl)),
 f301:=Tryz.func279.trans (congrArg some (by kernel_rfl)),
 f328:=Tryz.func293.trans (congrArg some (by kernel_rfl)),
 f329:=Tryz.func294.trans (congrArg some (by kernel_rfl)),
 f330:=Tryz.func295.trans (congrArg some (by kernel_rfl)),
 f331:=Tryz.func296.trans (congrArg some (by kernel_rfl)),
 f332:=Tryz.func297.trans (congrArg some (by kernel_rfl)),
 f343:=Tryz.func300.trans (congrArg some (by kernel_rfl)),
 t0:=Tryz.underlying0,
 a0:=Tryz.isAgg0,
 z0:=Tryz.sizeOf0,
 v0:=Tryz.zeroValue0,
 t3:=Tryz.underlying3,
 a3:=Tryz.isAgg3,
 z3:=Tryz.sizeOf3,
 v3:=Tryz.zeroValue3,
 t4:=Tryz.underlying4,
 a4:=Tryz.isAgg4,
 z4:=Tryz.sizeOf4,
 v4:=Tryz.zeroValue4,
 t5:=Tryz.underlying5,
 a5:=Tryz.isAgg5,
 z5:=Tryz.sizeOf5,
 v5:=Tryz.zeroValue5,
 t9:=Tryz.underlying9,
 a9:=Tryz.isAgg9,
 z9:=Tryz.sizeOf9,
 v9:=Tryz.zeroValue9,
 t28:=Tryz.underlying22,
 a28:=Tryz.isAgg22,
 z28:=Tryz.sizeOf22,
 v28:=Tryz.zeroValue22,
 t46:=Tryz.underlying199,
 a46:=Tryz.isAgg199,
 z46:=Tryz.sizeOf199,
 v46:=Tryz.zeroValue199,
 t51:=Tryz.underlying222,
 a51:=Tryz.isAgg222,
 z51:=Tryz.sizeOf222,
 v51:=Tryz.zeroValue222,
 t53:=Tryz.underlying225,
 a53:=Tryz.isAgg225,
 z53:=Tryz.sizeOf225,
 v53:=Tryz.zeroValue225,
 t131:=Tryz.underlying192,
 a131:=Tryz.isAgg192,
 z131:=Tryz.sizeOf192,
 v131:=Tryz.zeroValue192,
 t182:=Tryz.underlying236,
 a182:=Tryz.isAgg236,
 z182:=Tryz.sizeOf236,
 v182:=Tryz.zeroValue236,
 t183:=Tryz.underlying237,
 a183:=Tryz.isAgg237,
 z183:=Tryz.sizeOf237,
 v183:=Tryz.zeroValue237,
 t218:=Tryz.underlying251,
 a218:=Tryz.isAgg251,
 z218:=Tryz.sizeOf251,
 v218:=Tryz.zeroValue251,
 t222:=Tryz.underlying255,
 a222:=Tryz.isAgg255,
 z222:=Tryz.sizeOf255,
 v222:=Tryz.zeroValue255,
 t228:=Tryz.underlying259,
 a228:=Tryz.isAgg259,
 z228:=Tryz.sizeOf259,
 v228:=Tryz.zeroValue259,
 t229:=Tryz.underlying133,
 a229:=Tryz.isAgg133,
 z229:=Tryz.sizeOf133,
 v229:=Tryz.zeroValue133 }
theorem q618 (s:List Int):TieG Tryz.prog 213 [.own 1000000] [(1000000,.rows 3 1 s.length (s.map Pv.encI))] (q407 s) (fun _=>.tup []) (fun r=>[(1000000,.rows 3 1 r.length (r.map Pv.encI))]):=
 sortInts_tie (ρ:=q650) sortI213 Tryz.call213 s
def q645:Go.Shelf.Ren:=⟨fun | 20=>214 | n=>n,fun | 0=>0 | 3=>3 | 4=>4 | 22=>22 | n=>n,fun  | n=>n⟩
open Go.Shelf in
theorem compI214:Lays2.n20 Tryz.prog q645:={
 mixed:=by kernel_rfl,
 f20:=Tryz.func214.trans (congrArg some (by kernel_rfl)),
 t0:=Tryz.underlying0,
 a0:=Tryz.isAgg0,
 z0:=Tryz.sizeOf0,
 v0:=Tryz.zeroValue0,
 t3:=Tryz.underlying3,
 a3:=Tryz.isAgg3,
 z3:=Tryz.sizeOf3,
 v3:=Tryz.zeroValue3,
 t4:=Tryz.underlying4,
 a4:=Tryz.isAgg4,
 z4:=Tryz.sizeOf4,
 v4:=Tryz.zeroValue4,
 t22:=Tryz.underlying22,
 a22:=Tryz.isAgg22,
 z22:=Tryz.sizeOf22,
 v22:=Tryz.zeroValue22,
 i3:=by kernel_rfl }
theorem q370 (s:List Int):TieG Tryz.prog 214 [.own 1000000] [(1000000,.rows 3 1 s.length (s.map Pv.encI))] (q335 s) (fun _=>.own 900000) (fun r=>[(900000,.rows 3 1 r.length (r.map Pv.encI))]):=
 compactInts_tie (ρ:=q645) compI214 Tryz.call214 s
theorem q657 (l:List SRequest) (low:Int) (high:Int):TieF Tryz.prog 130 [NS q10 l,NI low,NI high] (q363 l low high) (fun r=>.tup [q727 r.1,NL r.2]):=by
 refine TieF.i htab 38 [.cell 6 163,.tmp 7] Tryz.call130 Tryz.func130 rfl rfl rfl rfl fun w0 L=>?_
 refine TieS.o 8 rfl (.g [] [(900000,2104)] (q499 l) rfl rfl rfl (fun _=>rfl) (fun _=>rfl) fun v hv=>.o 5 rfl (.g [(1000000,2104)] [] (q381 v 211 [] q45 q612) rfl rfl rfl (fun _=>rfl) (fun _=>rfl) fun v2 hv2=>.s 21 rfl (TieX.nilP 9 2248 3 1 [] rfl rfl rfl rfl rfl (TieS.loop (fun p=>⟨[NP 6,NP 8,(9,.own 2248),(19,.own 2104),(20,NI (v2.length:Int)),(21,NI p.1)],[(6,.box [NI 0,NI 0,NI 0]),(8,.box [NI p.2.2.low,NI p.2.2.high,NI p.2.2.source]),(2104,.rs 73 4 v2 q10),(2248,.rs 3 1 p.2.1 Pv.encI)]⟩) (fun b e σ'=>match b with | .inl t=>e = .exit 0 ∧ Sub ⟨[NP 6,NP 8,(9,.own 2248)],[(6,.box [NI 0,NI 0,NI 0]),(8,.box [NI t.2.low,NI t.2.high,NI t.2.source]),(2248,.rs 3 1 t.1 Pv.encI)]⟩ σ' | .inr t=>False) (.of rfl rfl) ?_ ?_))))
 ·rintro ⟨i,s⟩
  refine TieS.s 5 rfl (.cond rfl ?_ ?_)
  ·refine TieS.s 2 rfl (TieX.pre fun x hx=>TieX.sub (σ':=⟨[NP 6,NP 8,(9,.own 2248),(19,.own 2104),(20,NI (v2.length:Int)),(21,NI i)],[(6,.box [NI 0,NI 0,NI 0]),(8,.box [NI s.2.low,NI s.2.high,NI s.2.source]),(2104,.rs 73 4 v2 q10),(2248,.rs 3 1 s.1 Pv.encI)]⟩) (.of rfl rfl) (TieS.bind (Q₁:=fun f e σ'=>match f with | .next t=>e = .normal ∧ Sub ⟨[NP 6,NP 8,(9,.own 2248),(19,.own 2104),(20,NI (v2.length:Int)),(21,NI i)],[(6,.box [NI 0,NI 0,NI 0]),(8,.box [NI t.2.low,NI t.2.high,NI t.2.source]),(2104,.rs 73 4 v2 q10),(2248,.rs 3 1 t.1 Pv.encI)]⟩ σ' | .brk t=>e = .exit 0 ∧ Sub ⟨[NP 6,NP 8,(9,.own 2248)],[(6,.box [NI 0,NI 0,NI 0]),(8,.box [NI t.2.low,NI t.2.high,NI t.2.source]),(2248,.rs 3 1 t.1 Pv.encI)]⟩ σ' | .ret r=>False) ?_ ?_))
   ·refine TieS.o 3 rfl (.indexOH hx rfl rfl rfl rfl rfl rfl rfl rfl rfl rfl (.loadY hx rfl rfl rfl rfl rfl rfl rfl rfl (.o 6 rfl (.g [(1000000,8)] [] (q538 s.2 x) rfl rfl rfl (fun _=>rfl) (fun _=>rfl) fun r2 hr2=>.s 1 rfl (.cond rfl ?_ ?_)))))
    ·exact TieS.o 5 rfl (.appendY (id:=2248) (l:=s.1) (r:=([x.Source]:List Int)) (tm':=[NP 6,NP 8,NP 11,(19,.own 2104),(20,NI (v2.length:Int)),(21,NI i),(23,.pe 2104 (Int.toNat i) 4 0),(24,.agg [NI x.Source,NI x.Kind,NI x.Torque,NI x.Priority]),(25,.agg [NI x.Source,NI x.Kind,NI x.Torque,NI x.Priority]),(26,NB r2.1),(28,.ptr 11 0),(29,NI x.Source),(30,.own 30)]) (hp':=[(6,.box [NI 0,NI 0,NI 0]),(8,.box [NI r2.2.low,NI r2.2.high,NI r2.2.source]),(11,.box [NI x.Source,NI x.Kind,NI x.Torque,NI x.Priority]),(30,.rs 3 1 ([x.Source]:List Int) Pv.encI),(2104,.rs 73 4 v2 q10)]) rfl rfl rfl rfl rfl rfl rfl (fun _=>rfl) (fun _=>rfl) (.inl ⟨rfl,rfl⟩) (.inr ⟨_,rfl,rfl⟩) (.of rfl rfl) rfl rfl rfl fun l2=>.l 3 rfl (lf rfl rfl))
    ·exact TieS.l 2 rfl (lf rfl rfl)
   rintro (t | t | r) e σ' _ hq
   ·obtain ⟨rfl,hs⟩:=hq
    exact TieX.sub hs (TieS.l 4 rfl (lf rfl rfl))
   ·obtain ⟨rfl,hs⟩:=hq
    exact TieX.exitOut rfl ⟨(fun h=>by cases h),rfl,hs⟩
   ·exact hq.elim
  ·exact TieS.exitOut rfl ⟨(fun h=>by cases h),rfl,.of rfl rfl⟩
 rintro (s2 | r) e σ' _ hq
 ·obtain ⟨rfl,hs⟩:=hq
  refine TieX.exit rfl (TieX.sub hs ?_)
  refine TieS.o 3 rfl (.g [(1000000,2248)] [] (q618 s2.1) rfl rfl rfl (fun _=>rfl) (fun _=>rfl) fun v3 hv3=>.s 2 rfl (.bind (Q₁:=nrm fun t=>⟨[NP 6,(7,.own 2296)],[(6,.box [NI t.2.low,NI t.2.high,NI t.2.source]),(2296,.rs 3 1 t.1 Pv.encI)]⟩) ?_ ?_))
  ·refine TieX.pre fun v4 hv4=>TieS.draws 3 (bm 5 0) (bm 5 7) ⟨[NP 6,(35,.agg [NI s2.2.low,NI s2.2.high,NI s2.2.source]),(37,.own 2296)],[(6,.box [NI 0,NI 0,NI 0]),(8,.box [NI s2.2.low,NI s2.2.high,NI s2.2.source]),(2296,.rs 3 1 v4 Pv.encI)]⟩ mixed (fun _ _ _ h=>by cases h.1) rfl rfl rfl rfl ?_ ?_
   ·refine TieA.ga 4 [1] (by kernel_rfl) rfl (.all [0,2] (by kernel_rfl) rfl (AllA.run _ rfl rfl rfl ?_ ?_))
    ·exact TieA.one 2 rfl (by kernel_rfl) (TieO.withH hv4 (TieO.g [(1000000,2248)] [(900000,2296)] (q370 v3) rfl rfl rfl (fun _=>rfl) (fun _=>rfl) (TieO.ifG (TieO.l 1 rfl ⟨rfl,rfl⟩)))) (.done (.of rfl rfl))
    refine AllA.cons (σ₁:=⟨[NP 6,NP 8,(37,.own 2296)],[(6,.box [NI 0,NI 0,NI 0]),(8,.box [NI s2.2.low,NI s2.2.high,NI s2.2.source]),(2296,.rs 3 1 v4 Pv.encI)]⟩) _ rfl rfl ?_ ?_ ?_
    ·refine TieO.withH hv4 (TieO.g [(1000000,2248)] [(900000,2296)] (q370 v3) rfl rfl rfl (fun _=>rfl) (fun _=>rfl) (TieO.ifG ?_))
     exact TieO.l 1 rfl (lf rfl rfl)
    ·exact TieA.ga 2 [0] (by kernel_rfl) rfl (.done (.of rfl rfl))
    exact AllA.nil
   exact TieO.l 3 rfl (lf rfl rfl)
  rintro s3 e σ' _ ⟨rfl,hs⟩
  exact TieX.sub hs (TieS.ret (rt rfl))
 ·exact hq.elim
theorem q512 (g:SGrant) (l:List SRequest) (low:Int) (high:Int) (up:Int) (down:Int):TieF Tryz.prog 37 [q610 g,NS q10 l,NI low,NI high,NI up,NI down] (q292 g l low high up down) (fun r=>.tup [q610 r.1,NI r.2]):=by
 refine TieF.i htab 84 [.cell 12 43,.tmp 13] Tryz.call37 Tryz.func37 rfl rfl rfl rfl fun w0 L=>?_
 refine TieS.o 11 rfl (.k (q234 g.Torque) rfl fun v=>.o 2 rfl (.selOr (v:=decide (g.Source < (-1))) 4 22 (fun b=>⟨[(1,NS q10 l),(2,NI low),(3,NI high),(4,NI up),(5,NI down),NP 6,NP 12,(26,NB b)],[(6,.box [NI g.Torque,NI g.Source]),(12,.box [NI 0,NI 0])]⟩) rfl ?_ ?_ ?_))
 ·exact TieO.l 5 rfl (lf rfl rfl)
 ·exact TieO.l 5 rfl (lf rfl rfl)
 refine TieO.o 1 rfl (.selOr (v:=decide (g.Source > 15)) 4 27 (fun b=>⟨[(1,NS q10 l),(2,NI low),(3,NI high),(4,NI up),(5,NI down),NP 6,NP 12,(31,NB b)],[(6,.box [NI g.Torque,NI g.Source]),(12,.box [NI 0,NI 0])]⟩) rfl ?_ ?_ ?_)
 ·exact TieO.l 5 rfl (lf rfl rfl)
 ·exact TieO.l 5 rfl (lf rfl rfl)
 refine TieO.s 1 rfl (.cond rfl ?_ ?_)
 ·exact TieS.r 6 rfl (rt rfl)
 ·refine TieS.o 7 rfl (.k (q671 l low high) rfl fun v2=>.s 7 rfl (.cond rfl ?_ ?_))
  ·exact TieS.r 7 rfl (rt rfl)
  ·refine TieS.o 7 rfl (.selOr (v:=decide (up > 20000)) 3 43 (fun b=>⟨[(1,NS q10 l),(2,NI low),(3,NI high),(4,NI up),(5,NI down),NP 6,NP 12,(46,NB b)],[(6,.box [NI g.Torque,NI g.Source]),(12,.box [NI 0,NI 0])]⟩) rfl ?_ ?_ ?_)
   ·exact TieO.l 4 rfl (lf rfl rfl)
   ·exact TieO.l 4 rfl (lf rfl rfl)
   refine TieO.o 1 rfl (.selOr (v:=decide (down < 0)) 3 47 (fun b=>⟨[(1,NS q10 l),(2,NI low),(3,NI high),(4,NI up),(5,NI down),NP 6,NP 12,(50,NB b)],[(6,.box [NI g.Torque,NI g.Source]),(12,.box [NI 0,NI 0])]⟩) rfl ?_ ?_ ?_)
   ·exact TieO.l 4 rfl (lf rfl rfl)
   ·exact TieO.l 4 rfl (lf rfl rfl)
   refine TieO.o 1 rfl (.selOr (v:=decide (down > 20000)) 3 51 (fun b=>⟨[(1,NS q10 l),(2,NI low),(3,NI high),(4,NI up),(5,NI down),NP 6,NP 12,(54,NB b)],[(6,.box [NI g.Torque,NI g.Source]),(12,.box [NI 0,NI 0])]⟩) rfl ?_ ?_ ?_)
   ·exact TieO.l 4 rfl (lf rfl rfl)
   ·exact TieO.l 4 rfl (lf rfl rfl)
   refine TieO.s 1 rfl (.cond rfl ?_ ?_)
   ·exact TieS.r 6 rfl (rt rfl)
   ·exact TieS.o 6 rfl (.k (q657 l low high) rfl fun r2=>.r 37 rfl (rt rfl))
theorem q21 (s:Scontrol_step) (e2:Int):TieG Tryz.prog 163 [.ptr 1000000 0,NI e2] [(1000000,.box (lset (q13 s) [(63,.own 1000001)])),(1000001,.rs 79 7 s.out.Fires q16)] (q22 s e2) (fun _=>.tup []) (fun r=>[(1000000,.box (lset (q13 r) [(63,.own 1000001)])),(1000001,.rs 79 7 r.out.Fires q16)]):=by
 refine TieG.i htab 13 [] Tryz.call163 Tryz.func163 rfl rfl rfl rfl fun w0 L=>?_
 refine TieS.s 8 rfl (.cond rfl ?_ ?_)
 ·exact TieS.l 7 rfl ⟨.inr rfl,⟨[(1000000,1000000),(1000001,1000001)],_,_,rfl,rfl,rfl,rfl,rfl⟩⟩
 ·exact TieS.l 1 rfl ⟨.inr rfl,⟨[(1000000,1000000),(1000001,1000001)],_,_,rfl,rfl,rfl,rfl,rfl⟩⟩
theorem q532 (s:Scontrol_step):TieG Tryz.prog 82 [.ptr 1000000 0] [(1000000,.box (lset (q13 s) [(63,.own 1000001)])),(1000001,.rs 79 7 s.out.Fires q16)] (q212 s) (fun _=>.tup []) (fun r=>[(1000000,.box (lset (q13 r) [(63,.own 1000001)])),(1000001,.rs 79 7 r.out.Fires q16)]):=by
 refine TieG.i htab 151 [] Tryz.call82 Tryz.func82 rfl rfl rfl rfl fun w0 L=>?_
 refine TieS.s 5 rfl (.bind (Q₁:=nrm fun t=>⟨[(0,.ptr 1000000 0),(2,NI t.1)],[(1000000,.box (lset (q13 (u17_3 s (u11_0 s.c t.2))) [(63,.own 1000001)])),(1000001,.rs 79 7 s.out.Fires q16)]⟩) ?_ ?_)
 ·refine TieX.pre fun r2 hr2=>TieS.draws 24 (bm 25 0) (bm 25 16777215) ⟨[(0,.ptr 1000000 0),(2,NI 0),(25,NI r2.2)],[(1000000,.box (lset (q13 (u17_3 s (u11_0 s.c r2.1))) [(63,.own 1000001)])),(1000001,.rs 79 7 s.out.Fires q16)]⟩ mixed (fun _ _ _ h=>by cases h.1) rfl rfl rfl rfl ?_ ?_
  ·exact TieA.ga 9 [0,1,2,3,4,6,7,8,9,11,12,13,14,5,10,15] (by kernel_rfl) rfl (.one 16 rfl (by kernel_rfl) (TieO.withH hr2 (TieO.k (q743 s.c.Pedal s.i.Pedal1 s.i.Pedal2) rfl (TieO.ifH (TieO.l 1 rfl ⟨rfl,rfl⟩)))) (.ga 2 [17,18,19,20,21,22] (by kernel_rfl) rfl (.oneR 23 rfl (by kernel_rfl) rfl (.done (.of rfl rfl)))))
  exact TieO.l 2 rfl (lf rfl rfl)
 rintro s2 e σ' _ ⟨rfl,hs⟩
 refine TieX.sub hs (TieS.o 4 rfl (.g [(1000000,1000000),(1000001,1000001)] [] (q21 (u17_3 s (u11_0 s.c s2.2)) s2.1) rfl rfl rfl (fun _=>rfl) (fun _=>rfl) fun v hv=>.s 2 rfl (TieX.pre fun r3 hr3=>TieS.dr 21 [(0,.ptr 1000000 0)] [(1000000,.box (lset (q13 v) [(63,.own 1000001)])),(1000001,.rs 79 7 v.out.Fires q16)] mixed (.of rfl rfl) (.q rfl rfl rfl (.q rfl rfl rfl (.q rfl rfl rfl (.q rfl rfl rfl (.q rfl rfl rfl (.q rfl rfl rfl (.q rfl rfl rfl (.q rfl rfl rfl (.q rfl rfl rfl (.q rfl rfl rfl (.q rfl rfl rfl (.q rfl rfl rfl (.q rfl rfl rfl (.q rfl rfl rfl (.q rfl rfl rfl (.cons (.callV (q738 v.t v.c.Pedal.Value v.i.Speed) hr3 rfl rfl rfl rfl) (.q rfl rfl rfl (.q rfl rfl rfl (.q rfl rfl rfl (.q rfl rfl rfl (.q rfl rfl rfl (.nil)))))))))))))))))))))) rfl (.o 5 rfl (.g [(1000000,1000000),(1000001,1000001)] [] (q21 v r3.2) rfl rfl rfl (fun _=>rfl) (fun _=>rfl) fun v2 hv2=>.s 10 rfl (TieX.pre fun v3 hv3=>TieS.dr 17 [(0,.ptr 1000000 0),(4,.own 56)] [(56,.rs 73 4 ([(⟨0,3,r3.1,0⟩:SRequest)]:List SRequest) q10),(1000000,.box (lset (q13 v2) [(63,.own 1000001)])),(1000001,.rs 79 7 v2.out.Fires q16)] mixed (.of rfl rfl) (.q rfl rfl rfl (.q rfl rfl rfl (.q rfl rfl rfl (.q rfl rfl rfl (.q rfl rfl rfl (.q rfl rfl rfl (.q rfl rfl rfl (.q rfl rfl rfl (.q rfl rfl rfl (.q rfl rfl rfl (.q rfl rfl rfl (.q rfl rfl rfl (.q rfl rfl rfl (.q rfl rfl rfl (.q rfl rfl rfl (.q rfl rfl rfl (.cons (.callV (q723 v2.c.Pedal.Value v2.i.Speed v2.i.Coolant) hv3 rfl rfl rfl rfl) (.nil)))))))))))))))))) rfl (.s 1 rfl (.bind (Q₁:=nrm fun t=>⟨[(0,.ptr 1000000 0),(4,.own 56)],[(56,.rs 73 4 t.2 q10),(1000000,.box (lset (q13 t.1) [(63,.own 1000001)])),(1000001,.rs 79 7 t.1.out.Fires q16)]⟩) ?_ ?_))))))))
 ·refine TieS.cond rfl ?_ ?_
  ·refine TieS.s 5 rfl (.bind (Q₁:=fun t e σ'=>e = .normal ∧ Sub ⟨[(0,.ptr 1000000 0),(2,NI t.1),(4,.own 56),(5,NI t.2.1)],[(56,.rs 73 4 ([(⟨0,3,r3.1,0⟩:SRequest)]:List SRequest) q10),(1000000,.box (lset (q13 (u17_3 v2 (u11_1 v2.c (⟨t.2.2⟩:SIntegral)))) [(63,.own 1000001)])),(1000001,.rs 79 7 v2.out.Fires q16)]⟩ σ') ?_ ?_)
   ·refine TieX.pre fun v4 hv4=>TieX.pre fun r4 hr4=>TieS.draws 32 (bm 33 0) (bm 33 4294967295) ⟨[(0,.ptr 1000000 0),(4,.own 56),(5,NI r4.2.1),(100,NI r4.2.2)],[(56,.rs 73 4 ([(⟨0,3,r3.1,0⟩:SRequest)]:List SRequest) q10),(1000000,.box (lset (q13 (u17_3 v2 (u11_1 v2.c r4.1))) [(63,.own 1000001)])),(1000001,.rs 79 7 v2.out.Fires q16)]⟩ mixed (fun _ _ _ h=>by cases h.1) rfl rfl rfl rfl ?_ ?_
    ·refine TieA.have_ (fuel₁:=12) (l₁:=(bm 33 4128767)) (σ₁:=⟨[(0,.ptr 1000000 0),(4,.own 56),(5,NI 0),(75,.ptr 1000000 0),(80,.agg [NI v2.c.Idle.Sum]),(85,.agg [NI v2.t.Idle.P,NI v2.t.Idle.I,NI v2.t.Idle.Low,NI v2.t.Idle.High]),(90,NI v2.i.Coolant),(96,NI v2.i.Speed)],[(56,.rs 73 4 ([(⟨0,3,r3.1,0⟩:SRequest)]:List SRequest) q10),(1000000,.box (lset (q13 v2) [(63,.own 1000001)])),(1000001,.rs 79 7 v2.out.Fires q16)]⟩) ?_ fun A_1=>?_
     ·exact TieA.one 16 rfl (by kernel_rfl) (TieO.withH hv4 (TieO.k (q70 v2.i.Coolant) rfl (TieO.ifH (TieO.l 1 rfl ⟨rfl,rfl⟩)))) (.one 22 rfl (by kernel_rfl) (TieO.withH hr4 (TieO.k (q124 v2.c.Idle v2.t.Idle v4 v2.i.Speed) rfl (TieO.ifH (TieO.l 1 rfl ⟨rfl,rfl⟩)))) (.ga 3 [23,24,25,26,27,28,29] (by kernel_rfl) rfl (.oneR 30 rfl (by kernel_rfl) rfl (.ga 1 [31] (by kernel_rfl) rfl (.done (.of rfl rfl))))))
     refine TieA.have_ (fuel₁:=13) (l₁:=(bm 33 2031615)) (σ₁:=⟨[(0,.ptr 1000000 0),(4,.own 56),(5,NI 0),(75,.ptr 1000000 0),(80,.agg [NI v2.c.Idle.Sum]),(85,.agg [NI v2.t.Idle.P,NI v2.t.Idle.I,NI v2.t.Idle.Low,NI v2.t.Idle.High]),(90,NI v2.i.Coolant),(95,.ptr 1000000 48)],[(56,.rs 73 4 ([(⟨0,3,r3.1,0⟩:SRequest)]:List SRequest) q10),(1000000,.box (lset (q13 v2) [(63,.own 1000001)])),(1000001,.rs 79 7 v2.out.Fires q16)]⟩) ?_ fun A_0=>?_
     ·refine TieA.all [16,21] (by kernel_rfl) rfl (AllA.cons (σ₁:=⟨[(0,.ptr 1000000 0),(4,.own 56),(5,NI 0),(75,.ptr 1000000 0),(80,.agg [NI v2.c.Idle.Sum]),(85,.agg [NI v2.t.Idle.P,NI v2.t.Idle.I,NI v2.t.Idle.Low,NI v2.t.Idle.High]),(91,NI v4),(95,.ptr 1000000 48)],[(56,.rs 73 4 ([(⟨0,3,r3.1,0⟩:SRequest)]:List SRequest) q10),(1000000,.box (lset (q13 v2) [(63,.own 1000001)])),(1000001,.rs 79 7 v2.out.Fires q16)]⟩) _ rfl rfl ?_ ?_ ?_)
      ·refine TieO.withH hv4 (TieO.k (q70 v2.i.Coolant) rfl (TieO.ifH ?_))
       exact TieO.l 1 rfl (lf rfl rfl)
      ·exact TieA.ga 11 [21] (by kernel_rfl) rfl (.one 22 rfl (by kernel_rfl) (TieO.withH hr4 (TieO.k (q124 v2.c.Idle v2.t.Idle v4 v2.i.Speed) rfl (TieO.ifH (TieO.l 1 rfl ⟨rfl,rfl⟩)))) (.ga 3 [23,24,25,26,27,28,29] (by kernel_rfl) rfl (.oneR 30 rfl (by kernel_rfl) rfl (.ga 1 [31] (by kernel_rfl) rfl (.done (.of rfl rfl))))))
      exact AllA.runTo _ rfl rfl rfl (.of rfl rfl) A_1 (AllA.nil)
     refine TieA.have_ (fuel₁:=13) (l₁:=(bm 33 4127743)) (σ₁:=⟨[(0,.ptr 1000000 0),(4,.own 56),(5,NI 0),(75,.ptr 1000000 0),(80,.agg [NI v2.c.Idle.Sum]),(84,.ptr 1000000 20),(90,NI v2.i.Coolant),(96,NI v2.i.Speed)],[(56,.rs 73 4 ([(⟨0,3,r3.1,0⟩:SRequest)]:List SRequest) q10),(1000000,.box (lset (q13 v2) [(63,.own 1000001)])),(1000001,.rs 79 7 v2.out.Fires q16)]⟩) ?_ fun A_2=>?_
     ·refine TieA.all [10,16] (by kernel_rfl) rfl (AllA.runTo _ rfl rfl rfl (.of rfl rfl) A_1 (AllA.cons (σ₁:=⟨[(0,.ptr 1000000 0),(4,.own 56),(5,NI 0),(75,.ptr 1000000 0),(80,.agg [NI v2.c.Idle.Sum]),(84,.ptr 1000000 20),(91,NI v4),(96,NI v2.i.Speed)],[(56,.rs 73 4 ([(⟨0,3,r3.1,0⟩:SRequest)]:List SRequest) q10),(1000000,.box (lset (q13 v2) [(63,.own 1000001)])),(1000001,.rs 79 7 v2.out.Fires q16)]⟩) _ rfl rfl ?_ ?_ ?_))
      ·refine TieO.withH hv4 (TieO.k (q70 v2.i.Coolant) rfl (TieO.ifH ?_))
       exact TieO.l 1 rfl (lf rfl rfl)
      ·exact TieA.ga 11 [10] (by kernel_rfl) rfl (.one 22 rfl (by kernel_rfl) (TieO.withH hr4 (TieO.k (q124 v2.c.Idle v2.t.Idle v4 v2.i.Speed) rfl (TieO.ifH (TieO.l 1 rfl ⟨rfl,rfl⟩)))) (.ga 3 [23,24,25,26,27,28,29] (by kernel_rfl) rfl (.oneR 30 rfl (by kernel_rfl) rfl (.ga 1 [31] (by kernel_rfl) rfl (.done (.of rfl rfl))))))
      exact AllA.nil
     refine TieA.have_ (fuel₁:=13) (l₁:=(bm 33 4128735)) (σ₁:=⟨[(0,.ptr 1000000 0),(4,.own 56),(5,NI 0),(75,.ptr 1000000 0),(79,.ptr 1000000 36),(85,.agg [NI v2.t.Idle.P,NI v2.t.Idle.I,NI v2.t.Idle.Low,NI v2.t.Idle.High]),(90,NI v2.i.Coolant),(96,NI v2.i.Speed)],[(56,.rs 73 4 ([(⟨0,3,r3.1,0⟩:SRequest)]:List SRequest) q10),(1000000,.box (lset (q13 v2) [(63,.own 1000001)])),(1000001,.rs 79 7 v2.out.Fires q16)]⟩) ?_ fun A_3=>?_
     ·refine TieA.all [5,16] (by kernel_rfl) rfl (AllA.runTo _ rfl rfl rfl (.of rfl rfl) A_1 (AllA.cons (σ₁:=⟨[(0,.ptr 1000000 0),(4,.own 56),(5,NI 0),(75,.ptr 1000000 0),(79,.ptr 1000000 36),(85,.agg [NI v2.t.Idle.P,NI v2.t.Idle.I,NI v2.t.Idle.Low,NI v2.t.Idle.High]),(91,NI v4),(96,NI v2.i.Speed)],[(56,.rs 73 4 ([(⟨0,3,r3.1,0⟩:SRequest)]:List SRequest) q10),(1000000,.box (lset (q13 v2) [(63,.own 1000001)])),(1000001,.rs 79 7 v2.out.Fires q16)]⟩) _ rfl rfl ?_ ?_ ?_))
      ·refine TieO.withH hv4 (TieO.k (q70 v2.i.Coolant) rfl (TieO.ifH ?_))
       exact TieO.l 1 rfl (lf rfl rfl)
      ·exact TieA.ga 11 [5] (by kernel_rfl) rfl (.one 22 rfl (by kernel_rfl) (TieO.withH hr4 (TieO.k (q124 v2.c.Idle v2.t.Idle v4 v2.i.Speed) rfl (TieO.ifH (TieO.l 1 rfl ⟨rfl,rfl⟩)))) (.ga 3 [23,24,25,26,27,28,29] (by kernel_rfl) rfl (.oneR 30 rfl (by kernel_rfl) rfl (.ga 1 [31] (by kernel_rfl) rfl (.done (.of rfl rfl))))))
      exact AllA.nil
     refine TieA.ga 15 [0,1,2,3,4,6,7,8,9,11,12,13,14,17,18,19,20,15] (by kernel_rfl) rfl (.all [5,10,16,21] (by kernel_rfl) rfl (AllA.run _ rfl rfl rfl ?_ ?_))
     ·refine TieA.all [10,16,21] (by kernel_rfl) rfl (AllA.runTo _ rfl rfl rfl (.of rfl rfl) A_0 (AllA.cons (σ₁:=⟨[(0,.ptr 1000000 0),(4,.own 56),(5,NI 0),(75,.ptr 1000000 0),(80,.agg [NI v2.c.Idle.Sum]),(84,.ptr 1000000 20),(91,NI v4),(95,.ptr 1000000 48)],[(56,.rs 73 4 ([(⟨0,3,r3.1,0⟩:SRequest)]:List SRequest) q10),(1000000,.box (lset (q13 v2) [(63,.own 1000001)])),(1000001,.rs 79 7 v2.out.Fires q16)]⟩) _ rfl rfl ?_ ?_ ?_))
      ·refine TieO.withH hv4 (TieO.k (q70 v2.i.Coolant) rfl (TieO.ifH ?_))
       exact TieO.l 1 rfl (lf rfl rfl)
      ·exact TieA.ga 11 [10,21] (by kernel_rfl) rfl (.one 22 rfl (by kernel_rfl) (TieO.withH hr4 (TieO.k (q124 v2.c.Idle v2.t.Idle v4 v2.i.Speed) rfl (TieO.ifH (TieO.l 1 rfl ⟨rfl,rfl⟩)))) (.ga 3 [23,24,25,26,27,28,29] (by kernel_rfl) rfl (.oneR 30 rfl (by kernel_rfl) rfl (.ga 1 [31] (by kernel_rfl) rfl (.done (.of rfl rfl))))))
      exact AllA.runTo _ rfl rfl rfl (.of rfl rfl) A_2 (AllA.nil)
     refine AllA.run _ rfl rfl rfl ?_ ?_
     ·refine TieA.all [5,16,21] (by kernel_rfl) rfl (AllA.runTo _ rfl rfl rfl (.of rfl rfl) A_0 (AllA.cons (σ₁:=⟨[(0,.ptr 1000000 0),(4,.own 56),(5,NI 0),(75,.ptr 1000000 0),(79,.ptr 1000000 36),(85,.agg [NI v2.t.Idle.P,NI v2.t.Idle.I,NI v2.t.Idle.Low,NI v2.t.Idle.High]),(91,NI v4),(95,.ptr 1000000 48)],[(56,.rs 73 4 ([(⟨0,3,r3.1,0⟩:SRequest)]:List SRequest) q10),(1000000,.box (lset (q13 v2) [(63,.own 1000001)])),(1000001,.rs 79 7 v2.out.Fires q16)]⟩) _ rfl rfl ?_ ?_ ?_))
      ·refine TieO.withH hv4 (TieO.k (q70 v2.i.Coolant) rfl (TieO.ifH ?_))
       exact TieO.l 1 rfl (lf rfl rfl)
      ·exact TieA.ga 11 [5,21] (by kernel_rfl) rfl (.one 22 rfl (by kernel_rfl) (TieO.withH hr4 (TieO.k (q124 v2.c.Idle v2.t.Idle v4 v2.i.Speed) rfl (TieO.ifH (TieO.l 1 rfl ⟨rfl,rfl⟩)))) (.ga 3 [23,24,25,26,27,28,29] (by kernel_rfl) rfl (.oneR 30 rfl (by kernel_rfl) rfl (.ga 1 [31] (by kernel_rfl) rfl (.done (.of rfl rfl))))))
      exact AllA.runTo _ rfl rfl rfl (.of rfl rfl) A_3 (AllA.nil)
     refine AllA.cons (σ₁:=⟨[(0,.ptr 1000000 0),(4,.own 56),(5,NI 0),(75,.ptr 1000000 0),(79,.ptr 1000000 36),(84,.ptr 1000000 20),(91,NI v4),(95,.ptr 1000000 48)],[(56,.rs 73 4 ([(⟨0,3,r3.1,0⟩:SRequest)]:List SRequest) q10),(1000000,.box (lset (q13 v2) [(63,.own 1000001)])),(1000001,.rs 79 7 v2.out.Fires q16)]⟩) _ rfl rfl ?_ ?_ ?_
     ·refine TieO.withH hv4 (TieO.k (q70 v2.i.Coolant) rfl (TieO.ifH ?_))
      exact TieO.l 1 rfl (lf rfl rfl)
     ·exact TieA.ga 11 [5,10,21] (by kernel_rfl) rfl (.one 22 rfl (by kernel_rfl) (TieO.withH hr4 (TieO.k (q124 v2.c.Idle v2.t.Idle v4 v2.i.Speed) rfl (TieO.ifH (TieO.l 1 rfl ⟨rfl,rfl⟩)))) (.ga 3 [23,24,25,26,27,28,29] (by kernel_rfl) rfl (.oneR 30 rfl (by kernel_rfl) rfl (.ga 1 [31] (by kernel_rfl) rfl (.done (.of rfl rfl))))))
     refine AllA.run _ rfl rfl rfl ?_ ?_
     ·refine TieA.all [5,10,16] (by kernel_rfl) rfl (AllA.runTo _ rfl rfl rfl (.of rfl rfl) A_2 (AllA.runTo _ rfl rfl rfl (.of rfl rfl) A_3 (AllA.cons (σ₁:=⟨[(0,.ptr 1000000 0),(4,.own 56),(5,NI 0),(75,.ptr 1000000 0),(79,.ptr 1000000 36),(84,.ptr 1000000 20),(91,NI v4),(96,NI v2.i.Speed)],[(56,.rs 73 4 ([(⟨0,3,r3.1,0⟩:SRequest)]:List SRequest) q10),(1000000,.box (lset (q13 v2) [(63,.own 1000001)])),(1000001,.rs 79 7 v2.out.Fires q16)]⟩) _ rfl rfl ?_ ?_ ?_)))
      ·refine TieO.withH hv4 (TieO.k (q70 v2.i.Coolant) rfl (TieO.ifH ?_))
       exact TieO.l 1 rfl (lf rfl rfl)
      ·exact TieA.ga 11 [5,10] (by kernel_rfl) rfl (.one 22 rfl (by kernel_rfl) (TieO.withH hr4 (TieO.k (q124 v2.c.Idle v2.t.Idle v4 v2.i.Speed) rfl (TieO.ifH (TieO.l 1 rfl ⟨rfl,rfl⟩)))) (.ga 3 [23,24,25,26,27,28,29] (by kernel_rfl) rfl (.oneR 30 rfl (by kernel_rfl) rfl (.ga 1 [31] (by kernel_rfl) rfl (.done (.of rfl rfl))))))
      exact AllA.nil
     exact AllA.nil
    exact TieO.l 2 rfl (lf rfl rfl)
   rintro s3 e σ' _ ⟨rfl,hs⟩
   exact TieX.sub hs (TieS.o 4 rfl (.g [(1000000,1000000),(1000001,1000001)] [] (q21 (u17_3 v2 (u11_1 v2.c (⟨s3.2.2⟩:SIntegral))) s3.1) rfl rfl rfl (fun _=>rfl) (fun _=>rfl) fun v5 hv5=>.o 4 rfl (.k (q31 s3.2.1 (-5000) 10000) rfl fun v6=>.o 2 rfl (.appendY (id:=56) (l:=([(⟨0,3,r3.1,0⟩:SRequest)]:List SRequest)) (r:=([(⟨1,2,v6,1⟩:SRequest)]:List SRequest)) (tm':=[(0,.ptr 1000000 0),(2,NI s3.1),(5,NI s3.2.1),(104,.ptr 1000000 0),(105,NI s3.1),(106,.tup []),(108,NI s3.2.1),(109,NI v6),(110,.agg [NI 1,NI 2,NI v6,NI 1]),(111,.own 111)]) (hp':=[(111,.rs 73 4 ([(⟨1,2,v6,1⟩:SRequest)]:List SRequest) q10),(1000000,.box (lset (q13 v5) [(63,.own 1000001)])),(1000001,.rs 79 7 v5.out.Fires q16)]) rfl rfl rfl rfl rfl rfl rfl (fun _=>rfl) (fun _=>rfl) (.inl ⟨rfl,rfl⟩) (.inr ⟨_,rfl,rfl⟩) (.of rfl rfl) rfl rfl rfl fun l=>.l 2 rfl (lf rfl rfl)))))
  ·exact TieS.l 8 rfl (lf rfl rfl)
 rintro s4 e σ' _ ⟨rfl,hs⟩
 refine TieX.sub hs (TieS.s 1 rfl (.bind (Q₁:=fun t e σ'=>e = .normal ∧ Sub ⟨[(0,.ptr 1000000 0),(2,NI t.1)],[(1000000,.box (lset (q13 (u17_11 (u17_4 (u17_3 (u17_2 (u17_1 (u17_0 s4.1 (⟨(⟨s4.1.t.Air.X,s4.1.t.Air.Y,s4.1.t.Air.Z⟩:SMap),(⟨s4.1.t.Spark.X,s4.1.t.Spark.Y,s4.1.t.Spark.Z⟩:SMap),(⟨s4.1.t.Torque.X,s4.1.t.Torque.Y,s4.1.t.Torque.Z⟩:SMap),(⟨s4.1.t.Wish.X,s4.1.t.Wish.Y,s4.1.t.Wish.Z⟩:SMap),(⟨s4.1.t.AirTemp.X,s4.1.t.AirTemp.Y⟩:SCurve),(⟨s4.1.t.Dwell.X,s4.1.t.Dwell.Y⟩:SCurve),(⟨s4.1.t.Dead.X,s4.1.t.Dead.Y⟩:SCurve),(⟨s4.1.t.Efficiency.X,s4.1.t.Efficiency.Y⟩:SCurve),(⟨s4.1.t.Idle.P,s4.1.t.Idle.I,s4.1.t.Idle.Low,s4.1.t.Idle.High⟩:SGain)⟩:STables)) (⟨s4.1.e.Order,s4.1.e.First⟩:SEngine)) (⟨s4.1.b.Inertia,s4.1.b.Friction,s4.1.b.Volume,s4.1.b.Throttle,s4.1.b.Film,s4.1.b.Evaporate,s4.1.b.Delay⟩:SBody)) (u11_5 (u11_3 (u11_1 (u11_0 s4.1.c (⟨s4.1.c.Pedal.Value,s4.1.c.Pedal.Differ,s4.1.c.Pedal.Fault⟩:SPedal)) (⟨s4.1.c.Idle.Sum⟩:SIntegral)) (⟨s4.1.c.Probe.Active,s4.1.c.Probe.Rich,s4.1.c.Probe.Factor,s4.1.c.Probe.Wait,s4.1.c.Probe.Cells⟩:SProbe)) t.2.1)) (⟨s4.1.i.Pedal1,s4.1.i.Pedal2,s4.1.i.Speed,s4.1.i.Pressure,s4.1.i.AirTemp,s4.1.i.Voltage,s4.1.i.Lambda,s4.1.i.Coolant,s4.1.i.Intensity,s4.1.i.Requests⟩:SInputs)) (u16_1 s4.1.out []))) [(63,.own 1000001)])),(1000001,.rs 79 7 s4.1.out.Fires q16)]⟩ σ') ?_ ?_))
 ·refine TieX.pre fun l2 hl2=>TieX.pre fun r5 hr5=>TieS.draws 21 (bm 22 0) (bm 22 2097151) ⟨[(0,.ptr 1000000 0),(134,NI r5.2)],[(56,.rs 73 4 l2 q10),(1000000,.box (lset (q13 (u17_11 (u17_4 (u17_3 (u17_2 (u17_1 (u17_0 s4.1 (⟨(⟨s4.1.t.Air.X,s4.1.t.Air.Y,s4.1.t.Air.Z⟩:SMap),(⟨s4.1.t.Spark.X,s4.1.t.Spark.Y,s4.1.t.Spark.Z⟩:SMap),(⟨s4.1.t.Torque.X,s4.1.t.Torque.Y,s4.1.t.Torque.Z⟩:SMap),(⟨s4.1.t.Wish.X,s4.1.t.Wish.Y,s4.1.t.Wish.Z⟩:SMap),(⟨s4.1.t.AirTemp.X,s4.1.t.AirTemp.Y⟩:SCurve),(⟨s4.1.t.Dwell.X,s4.1.t.Dwell.Y⟩:SCurve),(⟨s4.1.t.Dead.X,s4.1.t.Dead.Y⟩:SCurve),(⟨s4.1.t.Efficiency.X,s4.1.t.Efficiency.Y⟩:SCurve),(⟨s4.1.t.Idle.P,s4.1.t.Idle.I,s4.1.t.Idle.Low,s4.1.t.Idle.High⟩:SGain)⟩:STables)) (⟨s4.1.e.Order,s4.1.e.First⟩:SEngine)) (⟨s4.1.b.Inertia,s4.1.b.Friction,s4.1.b.Volume,s4.1.b.Throttle,s4.1.b.Film,s4.1.b.Evaporate,s4.1.b.Delay⟩:SBody)) (u11_5 (u11_3 (u11_1 (u11_0 s4.1.c (⟨s4.1.c.Pedal.Value,s4.1.c.Pedal.Differ,s4.1.c.Pedal.Fault⟩:SPedal)) (⟨s4.1.c.Idle.Sum⟩:SIntegral)) (⟨s4.1.c.Probe.Active,s4.1.c.Probe.Rich,s4.1.c.Probe.Factor,s4.1.c.Probe.Wait,s4.1.c.Probe.Cells⟩:SProbe)) r5.1)) (⟨s4.1.i.Pedal1,s4.1.i.Pedal2,s4.1.i.Speed,s4.1.i.Pressure,s4.1.i.AirTemp,s4.1.i.Voltage,s4.1.i.Lambda,s4.1.i.Coolant,s4.1.i.Intensity,s4.1.i.Requests⟩:SInputs)) (u16_1 s4.1.out []))) [(63,.own 1000001)])),(1000001,.rs 79 7 s4.1.out.Fires q16)]⟩ mixed (fun _ _ _ h=>by cases h.1) rfl rfl rfl rfl ?_ ?_
  ·refine TieA.ga 11 [0,1,2,3,4,6,7,8,9,10,11] (by kernel_rfl) rfl (.all [5,12] (by kernel_rfl) rfl (AllA.run _ rfl rfl rfl ?_ ?_))
   ·exact TieA.one 12 rfl (by kernel_rfl) (TieO.withH hl2 (TieO.appendY (id:=56) (e':=0) (l:=s4.2) (r:=s4.1.i.Requests) (tm':=[(0,.ptr 1000000 0),(119,.ptr 1000000 0),(124,.agg [NI s4.1.c.Grant.Torque,NI s4.1.c.Grant.Source]),(130,NS q10 s4.1.i.Requests)]) (hp':=[(1000000,.box (lset (q13 s4.1) [(63,.own 1000001)])),(1000001,.rs 79 7 s4.1.out.Fires q16)]) rfl rfl rfl rfl rfl rfl rfl (fun _=>rfl) (fun _=>rfl) (.inl ⟨rfl,rfl⟩) (.inl rfl) (.of rfl rfl) rfl rfl rfl (TieO.ifH (TieO.l 1 rfl ⟨rfl,rfl⟩)))) (.one 13 rfl (by kernel_rfl) (TieO.withH hr5 (TieO.callS _ rfl rfl rfl (q512 (⟨s4.1.c.Grant.Torque,s4.1.c.Grant.Source⟩:SGrant) l2 (-5000) 10000 300 1000) (fun _=>rfl) (fun _=>rfl) (TieO.ifH (TieO.l 1 rfl ⟨rfl,rfl⟩)))) (.ga 2 [14,15,16,17,18,19] (by kernel_rfl) rfl (.oneR 20 rfl (by kernel_rfl) rfl (.done (.of rfl rfl)))))
   refine AllA.cons (σ₁:=⟨[(0,.ptr 1000000 0),(119,.ptr 1000000 0),(123,.ptr 1000000 44),(131,.own 56)],[(56,.rs 73 4 l2 q10),(1000000,.box (lset (q13 s4.1) [(63,.own 1000001)])),(1000001,.rs 79 7 s4.1.out.Fires q16)]⟩) _ rfl rfl ?_ ?_ ?_
   ·refine TieO.withH hl2 (TieO.appendY (id:=56) (e':=0) (l:=s4.2) (r:=s4.1.i.Requests) (tm':=[(0,.ptr 1000000 0),(119,.ptr 1000000 0),(120,.ptr 1000000 0),(121,.ptr 1000000 0),(122,.ptr 1000000 33),(123,.ptr 1000000 44),(126,.ptr 1000000 0),(127,.ptr 1000000 0),(128,.ptr 1000000 46),(129,.ptr 1000000 55),(130,NS q10 s4.1.i.Requests)]) (hp':=[(1000000,.box (lset (q13 s4.1) [(63,.own 1000001)])),(1000001,.rs 79 7 s4.1.out.Fires q16)]) rfl rfl rfl rfl rfl rfl rfl (fun _=>rfl) (fun _=>rfl) (.inl ⟨rfl,rfl⟩) (.inl rfl) (.of rfl rfl) rfl rfl rfl (TieO.ifH ?_))
    exact TieO.l 1 rfl (lf rfl rfl)
   ·exact TieA.ga 9 [5] (by kernel_rfl) rfl (.one 13 rfl (by kernel_rfl) (TieO.withH hr5 (TieO.callS _ rfl rfl rfl (q512 (⟨s4.1.c.Grant.Torque,s4.1.c.Grant.Source⟩:SGrant) l2 (-5000) 10000 300 1000) (fun _=>rfl) (fun _=>rfl) (TieO.ifH (TieO.l 1 rfl ⟨rfl,rfl⟩)))) (.ga 2 [14,15,16,17,18,19] (by kernel_rfl) rfl (.oneR 20 rfl (by kernel_rfl) rfl (.done (.of rfl rfl)))))
   exact AllA.nil
  exact TieO.l 2 rfl (lf rfl rfl)
 rintro s5 e σ' _ ⟨rfl,hs⟩
 exact TieX.sub hs (TieS.o 4 rfl (.g [(1000000,1000000),(1000001,1000001)] [] (q21 (u17_11 (u17_4 (u17_3 (u17_2 (u17_1 (u17_0 s4.1 (⟨(⟨s4.1.t.Air.X,s4.1.t.Air.Y,s4.1.t.Air.Z⟩:SMap),(⟨s4.1.t.Spark.X,s4.1.t.Spark.Y,s4.1.t.Spark.Z⟩:SMap),(⟨s4.1.t.Torque.X,s4.1.t.Torque.Y,s4.1.t.Torque.Z⟩:SMap),(⟨s4.1.t.Wish.X,s4.1.t.Wish.Y,s4.1.t.Wish.Z⟩:SMap),(⟨s4.1.t.AirTemp.X,s4.1.t.AirTemp.Y⟩:SCurve),(⟨s4.1.t.Dwell.X,s4.1.t.Dwell.Y⟩:SCurve),(⟨s4.1.t.Dead.X,s4.1.t.Dead.Y⟩:SCurve),(⟨s4.1.t.Efficiency.X,s4.1.t.Efficiency.Y⟩:SCurve),(⟨s4.1.t.Idle.P,s4.1.t.Idle.I,s4.1.t.Idle.Low,s4.1.t.Idle.High⟩:SGain)⟩:STables)) (⟨s4.1.e.Order,s4.1.e.First⟩:SEngine)) (⟨s4.1.b.Inertia,s4.1.b.Friction,s4.1.b.Volume,s4.1.b.Throttle,s4.1.b.Film,s4.1.b.Evaporate,s4.1.b.Delay⟩:SBody)) (u11_5 (u11_3 (u11_1 (u11_0 s4.1.c (⟨s4.1.c.Pedal.Value,s4.1.c.Pedal.Differ,s4.1.c.Pedal.Fault⟩:SPedal)) (⟨s4.1.c.Idle.Sum⟩:SIntegral)) (⟨s4.1.c.Probe.Active,s4.1.c.Probe.Rich,s4.1.c.Probe.Factor,s4.1.c.Probe.Wait,s4.1.c.Probe.Cells⟩:SProbe)) s5.2.1)) (⟨s4.1.i.Pedal1,s4.1.i.Pedal2,s4.1.i.Speed,s4.1.i.Pressure,s4.1.i.AirTemp,s4.1.i.Voltage,s4.1.i.Lambda,s4.1.i.Coolant,s4.1.i.Intensity,s4.1.i.Requests⟩:SInputs)) (⟨s4.1.out.Throttle,s4.1.out.Fires,s4.1.out.Torque⟩:SOutputs)) s5.1) rfl rfl rfl (fun _=>rfl) (fun _=>rfl) fun v7 hv7=>.l 14 rfl ⟨.inr rfl,⟨[(1000000,1000000),(1000001,1000001)],_,_,rfl,rfl,rfl,rfl,rfl⟩⟩))
theorem q637 (i:Int) (c:STables) (c2:Int) (c3:Int) (c4:Int):TieF Tryz.prog 225 [NI i,.el (q39 c),.el (Pv.encI c2),.el (Pv.encI c3),.el (Pv.encI c4)] (q237 i c c2 c3 c4) (fun r=>NB r):=by
 refine TieF.i htab 16 [.tmp 6] Tryz.call225 Tryz.func225 rfl rfl rfl rfl fun w0 L=>?_
 exact TieS.s 5 rfl (TieX.pre fun v hv=>TieS.dr 10 [(0,NI i),(1,.el (q39 c)),(2,.el (Pv.encI c2)),(3,.el (Pv.encI c3)),(4,.el (Pv.encI c4))] [] mixed (.of rfl rfl) (.q rfl rfl rfl (.q rfl rfl rfl (.q rfl rfl rfl (.q rfl rfl rfl (.q rfl rfl rfl (.q rfl rfl rfl (.cons (.callV (q305 c.Torque c2 (w64 (c3 + i))) hv rfl rfl rfl rfl) (.q rfl rfl rfl (.q rfl rfl rfl (.q rfl rfl rfl (.nil))))))))))) rfl (.r 1 rfl (rt rfl)))
end Go.Proofs.YtalanclpiojanaaGreat

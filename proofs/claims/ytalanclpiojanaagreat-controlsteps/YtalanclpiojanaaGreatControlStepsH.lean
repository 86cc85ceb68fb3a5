/- This file joins: Ties, printed by gen.py: each function of the loaded program computes its model. -/
import Derived.Test.YtalanclpiojanaaGreatControlStepsG
import Derived.Test.YtalanclpiojanaaGreatProg
import Derived.KernelRfl
set_option linter.unusedSimpArgs false
set_option linter.unusedVariables false
namespace Go.Proofs.YtalanclpiojanaaGreat
open Go Go.Pv Go.Proofs
set_option maxRecDepth 100000
set_option maxHeartbeats 4000000
theorem q669 (t2:STables) (speed:Int) (torque:Int):TieF Tryz.prog 164 [q20 t2,NI speed,NI torque] (q219 t2 speed torque) (fun r=>.tup [NI r.1,NI r.2]):=by
 refine TieF.i htab 46 [.tmp 6,.tmp 7] Tryz.call164 Tryz.func164 rfl rfl rfl rfl fun w0 L=>?_
 refine TieS.o 13 rfl (.k (q410 t2) rfl fun v=>.s 3 rfl (.cond rfl ?_ ?_))
 ·exact TieS.r 5 rfl (rt rfl)
 ·refine TieS.o 3 rfl (.k (q40 speed 0 12000) rfl fun v2=>.s 3 rfl (.cond rfl ?_ ?_))
  ·exact TieS.r 5 rfl (rt rfl)
  ·refine TieS.o 7 rfl (.index rfl rfl rfl rfl rfl rfl rfl rfl (fun _=>rfl) fun x hx=>.s 5 rfl (TieX.pre fun x2 hx2=>TieS.dr 14 [NP 3,NP 4,NP 5,NP 8] [(3,.box (q12 t2)),(4,.box [NI speed]),(5,.box [NI torque]),(8,.box [NI x])] mixed (.of rfl rfl) (.q rfl rfl rfl (.q rfl rfl rfl (.q rfl rfl rfl (.q rfl rfl rfl (.q rfl rfl rfl (.q rfl rfl rfl (.q rfl rfl rfl (.q rfl rfl rfl (.cons (.index hx2 rfl rfl rfl rfl rfl rfl (fun _=>rfl)) (.q rfl rfl rfl (.q rfl rfl rfl (.q rfl rfl rfl (.q rfl rfl rfl (.q rfl rfl rfl (.nil))))))))))))))) rfl (.o 4 rfl (.frzBox 3 rfl rfl (.frzBox 4 rfl rfl (.frzBox 8 rfl rfl (.frzBox 5 rfl rfl (.o 1 rfl (.sub (σ':=⟨[(3,.el (q39 t2)),(4,.el (Pv.encI speed)),(5,.el (Pv.encI torque)),(8,.el (Pv.encI x)),(9,NI (w64 ((w64 (x2 - x)) + 1))),(24,.el (List.drop 6 (q39 t2))),(25,.el (List.drop 7 (q39 t2))),(26,NL t2.Torque.Y),(27,.el (List.drop 6 (q39 t2))),(28,.el (List.drop 7 (q39 t2))),(29,NL t2.Torque.Y),(30,NI (t2.Torque.Y.length:Int)),(31,NI (w64 ((t2.Torque.Y.length:Int) - 1))),(32,.el (Pv.encI x2)),(33,NI x2),(34,NI x),(35,NI (w64 (x2 - x))),(36,NI (w64 ((w64 (x2 - x)) + 1))),(37,NI (w64 ((w64 (x2 - x)) + 1))),(38,.fz 225 [q39 t2,Pv.encI speed,Pv.encI x,Pv.encI torque])],[]⟩) (.of rfl rfl) (.k (q161 (w64 ((w64 (x2 - x)) + 1)) 225 [q39 t2,Pv.encI speed,Pv.encI x,Pv.encI torque] (fun x0=>q237 x0 t2 speed x torque) (fun x0=>q637 x0 t2 speed x torque)) rfl fun v3=>.s 9 rfl (.cond rfl ?_ ?_)))))))))))
   ·exact TieS.r 5 rfl (rt rfl)
   ·exact TieS.r 9 rfl (rt rfl)
theorem q450 (x:Int) (e2:Int) (other:Int):TieF Tryz.prog 165 [NI x,NI e2,NI other] (q360 x e2 other) (fun r=>NI r):=by
 refine TieF.i htab 11 [.tmp 6] Tryz.call165 Tryz.func165 rfl rfl rfl rfl fun w0 L=>?_
 refine TieS.s 10 rfl (.cond rfl ?_ ?_)
 ·exact TieS.r 5 rfl (rt rfl)
 ·exact TieS.r 6 rfl (rt rfl)
theorem q635 (i:Int) (c:SCurve) (c2:Int):TieF Tryz.prog 291 [NI i,.el (q93 c),.el (Pv.encI c2)] (q239 i c c2) (fun r=>NB r):=by
 refine TieF.i htab 12 [.tmp 4] Tryz.call291 Tryz.func291 rfl rfl rfl rfl fun w0 L=>?_
 exact TieS.s 5 rfl (TieX.pre fun x hx=>TieS.dr 8 [(0,NI i),(1,.el (q93 c)),(2,.el (Pv.encI c2))] [] mixed (.of rfl rfl) (.q rfl rfl rfl (.q rfl rfl rfl (.q rfl rfl rfl (.cons (.index hx rfl rfl rfl rfl rfl rfl (fun _=>rfl)) (.q rfl rfl rfl (.q rfl rfl rfl (.q rfl rfl rfl (.q rfl rfl rfl (.nil))))))))) rfl (.r 1 rfl (rt rfl)))
theorem q672 (c:SCurve) (x:Int):TieF Tryz.prog 269 [q199 c,NI x] (q401 c x) (fun r=>NI r):=by
 refine TieF.i htab 11 [.tmp 4] Tryz.call269 Tryz.func269 rfl rfl rfl rfl fun w0 L=>?_
 exact TieS.o 11 rfl (.frzBox 2 rfl rfl (.frzBox 3 rfl rfl (.o 1 rfl (.sub (σ':=⟨[(0,.agg [NL c.X,NL c.Y]),(1,NI x),(2,.el (q93 c)),(3,.el (Pv.encI x)),(4,NI 0),(5,.el (q93 c)),(6,NL c.X),(7,NI (c.X.length:Int)),(8,.fz 291 [q93 c,Pv.encI x])],[]⟩) (.of rfl rfl) (.k (q161 (c.X.length:Int) 291 [q93 c,Pv.encI x] (fun x0=>q239 x0 c x) (fun x0=>q635 x0 c x)) rfl fun v=>.r 3 rfl (rt rfl))))))
theorem q724 (c:SCurve) (x:Int):TieF Tryz.prog 248 [q199 c,NI x] (q465 c x) (fun r=>NI r):=by
 refine TieF.i htab 78 [.tmp 4] Tryz.call248 Tryz.func248 rfl rfl rfl rfl fun w0 L=>?_
 refine TieS.o 19 rfl (.index rfl rfl rfl rfl rfl rfl rfl rfl (fun _=>rfl) fun x2 hx2=>.s 4 rfl (.cond rfl ?_ ?_))
 ·exact TieS.o 4 rfl (.index rfl rfl rfl rfl rfl rfl rfl rfl (fun _=>rfl) fun x3 hx3=>.r 3 rfl (rt rfl))
 ·refine TieS.o 7 rfl (.index rfl rfl rfl rfl rfl rfl rfl rfl (fun _=>rfl) fun x4 hx4=>.s 4 rfl (.cond rfl ?_ ?_))
  ·exact TieS.o 6 rfl (.index rfl rfl rfl rfl rfl rfl rfl rfl (fun _=>rfl) fun x5 hx5=>.r 3 rfl (rt rfl))
  ·exact TieS.o 6 rfl (.k (q672 c x) rfl fun v=>.s 3 rfl (TieX.pre fun x6 hx6=>TieX.pre fun x7 hx7=>TieX.pre fun x8 hx8=>TieX.pre fun x9 hx9=>TieX.pre fun v2 hv2=>TieS.dr 40 [(1,NI x),NP 2,(6,NI v)] [(2,.box [NL c.X,NL c.Y])] mixed (.of rfl rfl) (.q rfl rfl rfl (.q rfl rfl rfl (.q rfl rfl rfl (.cons (.index hx6 rfl rfl rfl rfl rfl rfl (fun _=>rfl)) (.q rfl rfl rfl (.q rfl rfl rfl (.q rfl rfl rfl (.q rfl rfl rfl (.q rfl rfl rfl (.cons (.index hx7 rfl rfl rfl rfl rfl rfl (fun _=>rfl)) (.q rfl rfl rfl (.q rfl rfl rfl (.q rfl rfl rfl (.q rfl rfl rfl (.q rfl rfl rfl (.q rfl rfl rfl (.cons (.index hx8 rfl rfl rfl rfl rfl rfl (fun _=>rfl)) (.q rfl rfl rfl (.q rfl rfl rfl (.q rfl rfl rfl (.q rfl rfl rfl (.cons (.index hx6 rfl rfl rfl rfl rfl rfl (fun _=>rfl)) (.q rfl rfl rfl (.q rfl rfl rfl (.q rfl rfl rfl (.q rfl rfl rfl (.q rfl rfl rfl (.q rfl rfl rfl (.q rfl rfl rfl (.cons (.index hx9 rfl rfl rfl rfl rfl rfl (fun _=>rfl)) (.q rfl rfl rfl (.q rfl rfl rfl (.q rfl rfl rfl (.q rfl rfl rfl (.cons (.index hx7 rfl rfl rfl rfl rfl rfl (fun _=>rfl)) (.q rfl rfl rfl (.q rfl rfl rfl (.cons (.callV (q338 (w64 ((w64 (x - x7)) * (w64 (x8 - x6)))) (w64 (x9 - x7))) hv2 rfl rfl rfl rfl) (.q rfl rfl rfl (.q rfl rfl rfl (.nil))))))))))))))))))))))))))))))))))))))))) rfl (.r 1 rfl (rt rfl))))
theorem q431 (c:SCurve) (x:Int):TieF Tryz.prog 204 [q199 c,NI x] (q263 c x) (fun r=>NI r):=by
 refine TieF.i htab 11 [.tmp 4] Tryz.call204 Tryz.func204 rfl rfl rfl rfl fun w0 L=>?_
 refine TieS.o 9 rfl (.k (q87 c) rfl fun v=>.s 2 rfl (.cond rfl ?_ ?_))
 ·exact TieS.r 4 rfl (rt rfl)
 ·exact TieS.o 5 rfl (.k (q724 c x) rfl fun v2=>.r 2 rfl (rt rfl))
theorem q590 (t2:STables) (speed:Int) (pressure:Int) (temperature:Int):TieF Tryz.prog 227 [q20 t2,NI speed,NI pressure,NI temperature] (q430 t2 speed pressure temperature) (fun r=>NI r):=by
 refine TieF.i htab 21 [.tmp 8] Tryz.call227 Tryz.func227 rfl rfl rfl rfl fun w0 L=>?_
 exact TieS.s 6 rfl (TieX.pre fun v hv=>TieX.pre fun v2 hv2=>TieX.pre fun v3 hv3=>TieS.dr 13 [(1,NI speed),(2,NI pressure),(3,NI temperature),NP 4] [(4,.box (q12 t2))] mixed (.of rfl rfl) (.q rfl rfl rfl (.q rfl rfl rfl (.q rfl rfl rfl (.q rfl rfl rfl (.cons (.callV (q305 t2.Air speed pressure) hv rfl rfl rfl rfl) (.q rfl rfl rfl (.q rfl rfl rfl (.q rfl rfl rfl (.cons (.callV (q431 t2.AirTemp temperature) hv2 rfl rfl rfl rfl) (.q rfl rfl rfl (.cons (.callV (q338 (w64 (v * v2)) 1000) hv3 rfl rfl rfl rfl) (.q rfl rfl rfl (.q rfl rfl rfl (.nil)))))))))))))) rfl (.r 1 rfl (rt rfl)))
theorem q643 (k:Int) (c:STables) (c2:Int) (c3:Int) (c4:Int):TieF Tryz.prog 226 [NI k,.el (q39 c),.el (Pv.encI c2),.el (Pv.encI c3),.el (Pv.encI c4)] (q193 k c c2 c3 c4) (fun r=>NB r):=by
 refine TieF.i htab 15 [.tmp 6] Tryz.call226 Tryz.func226 rfl rfl rfl rfl fun w0 L=>?_
 exact TieS.s 5 rfl (TieX.pre fun v hv=>TieS.dr 9 [(0,NI k),(1,.el (q39 c)),(2,.el (Pv.encI c2)),(3,.el (Pv.encI c3)),(4,.el (Pv.encI c4))] [] mixed (.of rfl rfl) (.q rfl rfl rfl (.q rfl rfl rfl (.q rfl rfl rfl (.q rfl rfl rfl (.q rfl rfl rfl (.cons (.callV (q590 c c2 (w64 (50 + k)) c3) hv rfl rfl rfl rfl) (.q rfl rfl rfl (.q rfl rfl rfl (.q rfl rfl rfl (.nil)))))))))) rfl (.r 1 rfl (rt rfl)))
theorem q706 (t2:STables) (speed:Int) (want:Int) (temperature:Int):TieF Tryz.prog 166 [q20 t2,NI speed,NI want,NI temperature] (q349 t2 speed want temperature) (fun r=>.tup [NI r.1,NI r.2]):=by
 refine TieF.i htab 35 [.tmp 8,.tmp 9] Tryz.call166 Tryz.func166 rfl rfl rfl rfl fun w0 L=>?_
 refine TieS.o 14 rfl (.k (q482 t2) rfl fun v=>.s 3 rfl (.cond rfl ?_ ?_))
 ·exact TieS.r 5 rfl (rt rfl)
 ·refine TieS.o 3 rfl (.k (q36 speed 0 12000) rfl fun v2=>.o 2 rfl (.bind 4 (fun b2=>⟨[NP 4,NP 5,NP 6,NP 7,(23,NB b2)],[(4,.box (q12 t2)),(5,.box [NI speed]),(6,.box [NI want]),(7,.box [NI temperature])]⟩) (TieO.split 19 rfl ?_ ?_) fun b2 _=>?_))
  ·exact TieO.l 5 rfl (lf rfl rfl)
  ·exact TieO.o 1 rfl (.k (q36 want 0 1048576) rfl fun v3=>.l 3 rfl (lf rfl rfl))
  refine TieO.o 1 rfl (.bind 4 (fun b3=>⟨[NP 4,NP 5,NP 6,NP 7,(28,NB b3)],[(4,.box (q12 t2)),(5,.box [NI speed]),(6,.box [NI want]),(7,.box [NI temperature])]⟩) (TieO.split 24 rfl ?_ ?_) fun b3 _=>?_)
  ·exact TieO.l 5 rfl (lf rfl rfl)
  ·exact TieO.o 1 rfl (.k (q36 temperature (-40) 150) rfl fun v4=>.l 3 rfl (lf rfl rfl))
  refine TieO.s 2 rfl (.cond rfl ?_ ?_)
  ·exact TieS.r 5 rfl (rt rfl)
  ·refine TieS.o 4 rfl (.frzBox 4 rfl rfl (.frzBox 5 rfl rfl (.frzBox 7 rfl rfl (.frzBox 6 rfl rfl (.o 1 rfl (.sub (σ':=⟨[(4,.el (q39 t2)),(5,.el (Pv.encI speed)),(6,.el (Pv.encI want)),(7,.el (Pv.encI temperature)),(15,NB b3),(28,NB b3),(29,.fz 226 [q39 t2,Pv.encI speed,Pv.encI temperature,Pv.encI want])],[]⟩) (.of rfl rfl) (.k (q161 2951 226 [q39 t2,Pv.encI speed,Pv.encI temperature,Pv.encI want] (fun x0=>q193 x0 t2 speed temperature want) (fun x0=>q643 x0 t2 speed temperature want)) rfl fun v5=>.s 9 rfl (.cond rfl ?_ ?_))))))))
   ·exact TieS.r 5 rfl (rt rfl)
   ·exact TieS.r 7 rfl (rt rfl)
theorem q658 (rpm:Int):TieF Tryz.prog 228 [NI rpm] (q451 rpm) (fun r=>.tup [NI r.1,NI r.2]):=by
 refine TieF.i htab 16 [.tmp 2,.tmp 3] Tryz.call228 Tryz.func228 rfl rfl rfl rfl fun w0 L=>?_
 refine TieS.o 11 rfl (.selOr (v:=decide (rpm > 20000)) 3 6 (fun b=>⟨[(0,NI rpm),(9,NB b)],[]⟩) rfl ?_ ?_ ?_)
 ·exact TieO.l 4 rfl (lf rfl rfl)
 ·exact TieO.l 4 rfl (lf rfl rfl)
 refine TieO.s 1 rfl (.cond rfl ?_ ?_)
 ·exact TieS.r 5 rfl (rt rfl)
 ·exact TieS.o 6 rfl (.k (q480 (w64 ((w64 (rpm * 65536)) * 23040)) 60000000 2) rfl fun r2=>.r 5 rfl (rt rfl))
theorem q788 (speed:Int) (pressure:Int):TieF Tryz.prog 167 [NI speed,NI pressure] (q615 speed pressure) (fun r=>.tup [NI r.1,NI r.2]):=by
 refine TieF.i htab 26 [.tmp 4,.tmp 5] Tryz.call167 Tryz.func167 rfl rfl rfl rfl fun w0 L=>?_
 refine TieS.o 9 rfl (.k (q36 speed 0 12000) rfl fun v=>.o 2 rfl (.bind 4 (fun b2=>⟨[(0,NI speed),(1,NI pressure),(15,NB b2)],[]⟩) (TieO.split 11 rfl ?_ ?_) fun b2 _=>?_))
 ·exact TieO.l 5 rfl (lf rfl rfl)
 ·exact TieO.o 1 rfl (.k (q36 pressure 50 3000) rfl fun v2=>.l 3 rfl (lf rfl rfl))
 refine TieO.s 1 rfl (.cond rfl ?_ ?_)
 ·exact TieS.r 5 rfl (rt rfl)
 ·exact TieS.o 4 rfl (.k (q658 speed) rfl fun r2=>.r 16 rfl (rt rfl))
theorem q663 (k:Int) (c:SBody) (c2:Int) (c3:Int):TieF Tryz.prog 229 [NI k,.el (q223 c),.el (Pv.encI c2),.el (Pv.encI c3)] (q196 k c c2 c3) (fun r=>NB r):=by
 refine TieF.i htab 16 [.tmp 5] Tryz.call229 Tryz.func229 rfl rfl rfl rfl fun w0 L=>?_
 exact TieS.r 18 rfl (rt rfl)
theorem q703 (b2:SBody) (flow:Int) (pressure:Int):TieF Tryz.prog 168 [A_SBody b2,NI flow,NI pressure] (q359 b2 flow pressure) (fun r=>.tup [NI r.1,NI r.2]):=by
 refine TieF.i htab 27 [.tmp 6,.tmp 7] Tryz.call168 Tryz.func168 rfl rfl rfl rfl fun w0 L=>?_
 refine TieS.o 13 rfl (.k (q540 b2) rfl fun v=>.s 3 rfl (.cond rfl ?_ ?_))
 ·exact TieS.r 5 rfl (rt rfl)
 ·refine TieS.o 3 rfl (.k (q36 flow 0 1099511627776) rfl fun v2=>.o 2 rfl (.bind 4 (fun b3=>⟨[NP 3,NP 4,NP 5,(21,NB b3)],[(3,.box [NI b2.Inertia,NI b2.Friction,NI b2.Volume,NI b2.Throttle,NI b2.Film,NI b2.Evaporate,NI b2.Delay]),(4,.box [NI flow]),(5,.box [NI pressure])]⟩) (TieO.split 17 rfl ?_ ?_) fun b3 _=>?_))
  ·exact TieO.l 5 rfl (lf rfl rfl)
  ·exact TieO.o 1 rfl (.k (q36 pressure 50 1013) rfl fun v3=>.l 3 rfl (lf rfl rfl))
  refine TieO.s 2 rfl (.cond rfl ?_ ?_)
  ·exact TieS.r 5 rfl (rt rfl)
  ·refine TieS.o 4 rfl (.frzBox 3 rfl rfl (.frzBox 5 rfl rfl (.frzBox 4 rfl rfl (.o 1 rfl (.sub (σ':=⟨[(3,.el (q223 b2)),(4,.el (Pv.encI flow)),(5,.el (Pv.encI pressure)),(13,NB b3),(21,NB b3),(22,.fz 229 [q223 b2,Pv.encI pressure,Pv.encI flow])],[]⟩) (.of rfl rfl) (.k (q161 1001 229 [q223 b2,Pv.encI pressure,Pv.encI flow] (fun x0=>q196 x0 b2 pressure flow) (fun x0=>q663 x0 b2 pressure flow)) rfl fun v4=>.s 8 rfl (.cond rfl ?_ ?_)))))))
   ·exact TieS.r 5 rfl (rt rfl)
   ·exact TieS.r 7 rfl (rt rfl)
theorem q496 (s:Scontrol_step):TieG Tryz.prog 83 [.ptr 1000000 0] [(1000000,.box (lset (q13 s) [(63,.own 1000001)])),(1000001,.rs 79 7 s.out.Fires q16)] (q148 s) (fun _=>.tup []) (fun r=>[(1000000,.box (lset (q13 r) [(63,.own 1000001)])),(1000001,.rs 79 7 r.out.Fires q16)]):=by
 refine TieG.i htab 83 [] Tryz.call83 Tryz.func83 rfl rfl rfl rfl fun w0 L=>?_
 refine TieS.s 1 rfl (TieX.pre fun r2 hr2=>TieS.dr 19 [(0,.ptr 1000000 0)] [(1000000,.box (lset (q13 s) [(63,.own 1000001)])),(1000001,.rs 79 7 s.out.Fires q16)] mixed (.of rfl rfl) (.q rfl rfl rfl (.q rfl rfl rfl (.q rfl rfl rfl (.q rfl rfl rfl (.q rfl rfl rfl (.q rfl rfl rfl (.q rfl rfl rfl (.q rfl rfl rfl (.q rfl rfl rfl (.q rfl rfl rfl (.q rfl rfl rfl (.q rfl rfl rfl (.q rfl rfl rfl (.cons (.callV (q669 s.t s.i.Speed s.wanted) hr2 rfl rfl rfl rfl) (.q rfl rfl rfl (.q rfl rfl rfl (.q rfl rfl rfl (.q rfl rfl rfl (.q rfl rfl rfl (.nil)))))))))))))))))))) rfl (.o 5 rfl (.k (q450 r2.1 r2.2 1048576) rfl fun v=>.s 4 rfl (TieX.pre fun r3 hr3=>TieS.dr 21 [(0,.ptr 1000000 0),(4,NI (maxI 0 v))] [(1000000,.box (lset (q13 s) [(63,.own 1000001)])),(1000001,.rs 79 7 s.out.Fires q16)] mixed (.of rfl rfl) (.q rfl rfl rfl (.q rfl rfl rfl (.q rfl rfl rfl (.q rfl rfl rfl (.q rfl rfl rfl (.q rfl rfl rfl (.q rfl rfl rfl (.q rfl rfl rfl (.q rfl rfl rfl (.q rfl rfl rfl (.q rfl rfl rfl (.q rfl rfl rfl (.q rfl rfl rfl (.q rfl rfl rfl (.q rfl rfl rfl (.cons (.callV (q706 s.t s.i.Speed (maxI 0 v) s.i.AirTemp) hr3 rfl rfl rfl rfl) (.q rfl rfl rfl (.q rfl rfl rfl (.q rfl rfl rfl (.q rfl rfl rfl (.q rfl rfl rfl (.nil)))))))))))))))))))))) rfl (.o 5 rfl (.k (q450 r3.1 r3.2 3000) rfl fun v2=>.o 11 rfl (.k (q788 s.i.Speed (minI 1012 v2)) rfl fun r4=>.o 10 rfl (.g [(1000000,1000000),(1000001,1000001)] [] (q21 s r4.2) rfl rfl rfl (fun _=>rfl) (fun _=>rfl) fun v3 hv3=>.o 9 rfl (.k (q703 v3.b r4.1 (minI 1012 v2)) rfl fun r5=>.o 10 rfl (.k (q450 r5.1 r5.2 1000) rfl fun v4=>?_))))))))))
 exact TieO.l 5 rfl ⟨.inr rfl,⟨[(1000000,1000000),(1000001,1000001)],_,_,rfl,rfl,rfl,rfl,rfl⟩⟩
theorem q653 (cylinders:Int) (fired:Int) (cycle:Int):TieF Tryz.prog 28 [NI cylinders,NI fired,NI cycle] (q367 cylinders fired cycle) (fun r=>.tup [NS Pv.encB r.1,NI r.2]):=by
 refine TieF.i htab 54 [.tmp 6,.tmp 7] Tryz.call28 Tryz.func28 rfl rfl rfl rfl fun w0 L=>?_
 refine TieS.o 9 rfl (.k (q40 cylinders 1 8) rfl fun v=>.o 2 rfl (.bind 5 (fun b2=>⟨[(0,NI cylinders),(1,NI fired),(2,NI cycle),(19,NB b2)],[]⟩) (TieO.split 14 rfl ?_ ?_) fun b2 _=>?_))
 ·exact TieO.l 6 rfl (lf rfl rfl)
 ·exact TieO.o 2 rfl (.k (q40 fired 0 cylinders) rfl fun v2=>.l 3 rfl (lf rfl rfl))
 refine TieO.o 1 rfl (.bind 4 (fun b3=>⟨[(0,NI cylinders),(1,NI fired),(2,NI cycle),(24,NB b3)],[]⟩) (TieO.split 20 rfl ?_ ?_) fun b3 _=>?_)
 ·exact TieO.l 5 rfl (lf rfl rfl)
 ·exact TieO.o 1 rfl (.k (q40 cycle 0 1099511627776) rfl fun v3=>.l 3 rfl (lf rfl rfl))
 refine TieO.s 1 rfl (.cond rfl ?_ ?_)
 ·exact TieS.r 5 rfl (rt rfl)
 ·refine TieS.o 4 rfl (.makeO (enc:=Pv.encB) 2208 false rfl rfl rfl rfl rfl rfl rfl rfl rfl rfl rfl rfl rfl fun l hl=>.s 10 rfl (.loop (fun p=>⟨[(0,NI cylinders),(1,NI fired),(2,NI cycle),(8,.own 2208),(28,NI (l.length:Int)),(29,NI p.1)],[(2208,.rs 4 1 p.2 Pv.encB)]⟩) (fun b e σ'=>match b with | .inl t=>e = .exit 0 ∧ Sub ⟨[(8,.own 2208)],[(2208,.rs 4 1 t Pv.encB)]⟩ σ' | .inr t=>False) (.of rfl rfl) ?_ ?_))
  ·rintro ⟨i,f2⟩
   refine TieS.s 5 rfl (.cond rfl ?_ ?_)
   ·refine TieS.s 2 rfl (TieX.sub (σ':=⟨[(0,NI cylinders),(1,NI fired),(2,NI cycle),(8,.own 2208),(28,NI (l.length:Int)),(29,NI i)],[(2208,.rs 4 1 f2 Pv.encB)]⟩) (.of rfl rfl) (TieS.bind (Q₁:=fun f e σ'=>match f with | .next t=>e = .normal ∧ Sub ⟨[(0,NI cylinders),(1,NI fired),(2,NI cycle),(8,.own 2208),(28,NI (l.length:Int)),(29,NI i)],[(2208,.rs 4 1 t Pv.encB)]⟩ σ' | .brk t=>e = .exit 0 ∧ Sub ⟨[(8,.own 2208)],[(2208,.rs 4 1 t Pv.encB)]⟩ σ' | .ret r=>False) ?_ ?_))
    ·exact TieS.o 12 rfl (.rem rfl rfl rfl rfl rfl rfl fun q=>.s 2 rfl (TieX.pre fun q2 hq2=>TieX.pre fun q3 hq3=>TieX.pre fun x hx=>TieS.dr 15 [(0,NI cylinders),(1,NI fired),(2,NI cycle),(8,.own 2208),(9,NI i),(10,NI q),(28,NI (l.length:Int)),(29,NI i)] [(2208,.rs 4 1 f2 Pv.encB)] mixed (.of rfl rfl) (.q rfl rfl rfl (.q rfl rfl rfl (.q rfl rfl rfl (.q rfl rfl rfl (.q rfl rfl rfl (.q rfl rfl rfl (.q rfl rfl rfl (.cons (.quo hq2 rfl rfl rfl rfl) (.q rfl rfl rfl (.q rfl rfl rfl (.q rfl rfl rfl (.q rfl rfl rfl (.cons (.quo hq3 rfl rfl rfl rfl) (.q rfl rfl rfl (.cons (.indexO (sz:=1) hx rfl rfl rfl rfl rfl rfl rfl rfl) (.nil)))))))))))))))) rfl (.storeY (decide (q2 > q3)) [tB (decide (q2 > q3))] hx rfl rfl rfl rfl rfl rfl rfl rfl rfl rfl rfl rfl fun l2 hl2=>.l 2 rfl (lf rfl rfl))))
    rintro (t | t | r) e σ' _ hq
    ·obtain ⟨rfl,hs⟩:=hq
     exact TieX.sub hs (TieS.l 4 rfl (lf rfl rfl))
    ·obtain ⟨rfl,hs⟩:=hq
     exact TieX.exitOut rfl ⟨(fun h=>by cases h),rfl,hs⟩
    ·exact hq.elim
   ·exact TieS.exitOut rfl ⟨(fun h=>by cases h),rfl,.of rfl rfl⟩
  rintro (f3 | r) e σ' _ hq
  ·obtain ⟨rfl,hs⟩:=hq
   refine TieX.exit rfl (TieX.sub hs ?_)
   exact TieS.r 6 rfl (rt rfl)
  ·exact hq.elim
theorem q734 (t2:STables) (speed:Int) (pressure:Int) (temperature:Int):TieF Tryz.prog 169 [q20 t2,NI speed,NI pressure,NI temperature] (q502 t2 speed pressure temperature) (fun r=>.tup [NI r.1,NI r.2]):=by
 refine TieF.i htab 33 [.tmp 8,.tmp 9] Tryz.call169 Tryz.func169 rfl rfl rfl rfl fun w0 L=>?_
 refine TieS.o 11 rfl (.k (q482 t2) rfl fun v=>.s 3 rfl (.cond rfl ?_ ?_))
 ·exact TieS.r 5 rfl (rt rfl)
 ·refine TieS.o 3 rfl (.k (q36 speed 0 12000) rfl fun v2=>.o 2 rfl (.bind 4 (fun b2=>⟨[(1,NI speed),(2,NI pressure),(3,NI temperature),NP 4,(22,NB b2)],[(4,.box (q12 t2))]⟩) (TieO.split 18 rfl ?_ ?_) fun b2 _=>?_))
  ·exact TieO.l 5 rfl (lf rfl rfl)
  ·exact TieO.o 1 rfl (.k (q36 pressure 50 3000) rfl fun v3=>.l 3 rfl (lf rfl rfl))
  refine TieO.o 1 rfl (.bind 4 (fun b3=>⟨[(1,NI speed),(2,NI pressure),(3,NI temperature),NP 4,(27,NB b3)],[(4,.box (q12 t2))]⟩) (TieO.split 23 rfl ?_ ?_) fun b3 _=>?_)
  ·exact TieO.l 5 rfl (lf rfl rfl)
  ·exact TieO.o 1 rfl (.k (q36 temperature (-40) 150) rfl fun v4=>.l 3 rfl (lf rfl rfl))
  refine TieO.s 2 rfl (.cond rfl ?_ ?_)
  ·exact TieS.r 5 rfl (rt rfl)
  ·exact TieS.o 8 rfl (.k (q590 t2 speed pressure temperature) rfl fun v5=>.r 3 rfl (rt rfl))
theorem q473 (t2:STables) (speed:Int) (charge:Int):TieF Tryz.prog 230 [q20 t2,NI speed,NI charge] (q304 t2 speed charge) (fun r=>.tup [NI r.1,NI r.2]):=by
 refine TieF.i htab 26 [.tmp 6,.tmp 7] Tryz.call230 Tryz.func230 rfl rfl rfl rfl fun w0 L=>?_
 refine TieS.o 11 rfl (.k (q410 t2) rfl fun v=>.s 3 rfl (.cond rfl ?_ ?_))
 ·exact TieS.r 5 rfl (rt rfl)
 ·refine TieS.o 3 rfl (.k (q40 speed 0 12000) rfl fun v2=>.o 2 rfl (.bind 4 (fun b2=>⟨[(1,NI speed),(2,NI charge),NP 3,(20,NB b2)],[(3,.box (q12 t2))]⟩) (TieO.split 16 rfl ?_ ?_) fun b2 _=>?_))
  ·exact TieO.l 5 rfl (lf rfl rfl)
  ·exact TieO.o 1 rfl (.k (q40 charge 0 1048576) rfl fun v3=>.l 3 rfl (lf rfl rfl))
  refine TieO.s 2 rfl (.cond rfl ?_ ?_)
  ·exact TieS.r 5 rfl (rt rfl)
  ·exact TieS.o 8 rfl (.k (q305 t2.Torque speed charge) rfl fun v4=>.r 3 rfl (rt rfl))
theorem q379 (t2:STables) (optimal:Int) (late:Int) (fired:Int) (cylinders:Int):TieF Tryz.prog 231 [q20 t2,NI optimal,NI late,NI fired,NI cylinders] (q168 t2 optimal late fired cylinders) (fun r=>NI r):=by
 refine TieF.i htab 22 [.tmp 10] Tryz.call231 Tryz.func231 rfl rfl rfl rfl fun w0 L=>?_
 exact TieS.o 11 rfl (.k (q431 t2.Efficiency late) rfl fun v=>.o 5 rfl (.quo rfl rfl rfl rfl rfl rfl fun q=>.r 2 rfl (rt rfl)))
theorem q665 (late:Int) (c:STables) (c2:Int) (c3:Int) (c4:Int) (c5:Int):TieF Tryz.prog 232 [NI late,.el (q39 c),.el (Pv.encI c2),.el (Pv.encI c3),.el (Pv.encI c4),.el (Pv.encI c5)] (q194 late c c2 c3 c4 c5) (fun r=>NB r):=by
 refine TieF.i htab 16 [.tmp 7] Tryz.call232 Tryz.func232 rfl rfl rfl rfl fun w0 L=>?_
 exact TieS.s 5 rfl (TieX.pre fun v hv=>TieS.dr 9 [(0,NI late),(1,.el (q39 c)),(2,.el (Pv.encI c2)),(3,.el (Pv.encI c3)),(4,.el (Pv.encI c4)),(5,.el (Pv.encI c5))] [] mixed (.of rfl rfl) (.q rfl rfl rfl (.q rfl rfl rfl (.q rfl rfl rfl (.q rfl rfl rfl (.q rfl rfl rfl (.cons (.callV (q379 c c2 late c3 c4) hv rfl rfl rfl rfl) (.q rfl rfl rfl (.q rfl rfl rfl (.q rfl rfl rfl (.nil)))))))))) rfl (.r 1 rfl (rt rfl)))
theorem q696 (t2:STables) (speed:Int) (charge:Int) (most:Int) (cylinders:Int):TieF Tryz.prog 170 [q20 t2,NI speed,NI charge,NI most,NI cylinders] (q204 t2 speed charge most cylinders) (fun r=>.tup [NI r.1,NI r.2.1,NI r.2.2]):=by
 refine TieF.i htab 49 [.cell 10 3,.tmp 11,.tmp 12] Tryz.call170 Tryz.func170 rfl rfl rfl rfl fun w0 L=>?_
 refine TieS.s 9 rfl (.scope (by intro r l s h; first | (cases h.1; done) | (rcases h.1 with h | h <;> cases h; done) | (revert h; split <;> intro h <;> first | (cases h.1; done) | (rcases h.1 with h | h <;> cases h; done))) (.o 5 rfl (.k (q473 t2 speed charge) rfl fun r2=>.s 15 rfl (.cond rfl ?_ ?_))))
 ·exact TieS.r 7 rfl (rt rfl)
 ·refine TieS.o 3 rfl (.k (q40 cylinders 1 8) rfl fun v=>.o 2 rfl (.selOr (v:=decide (most < 0)) 3 29 (fun b=>⟨[NP 5,NP 8,NP 9,NP 10,NP 13,(32,NB b)],[(5,.box (q12 t2)),(8,.box [NI most]),(9,.box [NI cylinders]),(10,.box [NI 0]),(13,.box [NI r2.1])]⟩) rfl ?_ ?_ ?_))
  ·exact TieO.l 4 rfl (lf rfl rfl)
  ·exact TieO.l 4 rfl (lf rfl rfl)
  refine TieO.s 2 rfl (.cond rfl ?_ ?_)
  ·exact TieS.r 6 rfl (rt rfl)
  ·refine TieS.s 8 rfl (.label (.s 2 rfl (.loop (fun t=>⟨[NP 5,NP 8,NP 9,NP 10,NP 13],[(5,.box (q12 t2)),(8,.box [NI most]),(9,.box [NI cylinders]),(10,.box [NI t]),(13,.box [NI r2.1])]⟩) (fun b e σ'=>match b with | .inl t=>e = .exit 1 ∧ Sub ⟨[NP 5,NP 8,NP 9,NP 10,NP 13],[(5,.box (q12 t2)),(8,.box [NI most]),(9,.box [NI cylinders]),(10,.box [NI t]),(13,.box [NI r2.1])]⟩ σ' | .inr t=>False) (.of rfl rfl) ?_ ?_)))
   ·intro f2
    refine TieS.s 6 rfl (.cond rfl ?_ ?_)
    ·refine TieS.s 4 rfl (TieX.pre fun v2 hv2=>TieS.dr 7 [NP 5,NP 8,NP 9,NP 10,NP 13] [(5,.box (q12 t2)),(8,.box [NI most]),(9,.box [NI cylinders]),(10,.box [NI f2]),(13,.box [NI r2.1])] mixed (.of rfl rfl) (.q rfl rfl rfl (.q rfl rfl rfl (.q rfl rfl rfl (.q rfl rfl rfl (.cons (.callV (q379 t2 r2.1 2560 f2 cylinders) hv2 rfl rfl rfl rfl) (.q rfl rfl rfl (.q rfl rfl rfl (.nil)))))))) rfl (.s 1 rfl (.cond rfl ?_ ?_)))
     ·exact TieS.exitOut rfl ⟨(fun h=>by cases h),rfl,.of rfl rfl⟩
     ·exact TieS.l 7 rfl (lf rfl rfl)
    ·exact TieS.exitOut rfl ⟨(fun h=>by cases h),rfl,.of rfl rfl⟩
   rintro (f3 | r) e σ' _ hq
   ·obtain ⟨rfl,hs⟩:=hq
    refine TieX.exit rfl (TieX.sub hs ?_)
    exact TieS.o 2 rfl (.frzBox 5 rfl rfl (.frzBox 13 rfl rfl (.frzBox 9 rfl rfl (.frzBox 8 rfl rfl (.o 1 rfl (.callS _ rfl rfl rfl (q161 2560 232 [q39 t2,Pv.encI r2.1,Pv.encI f3,Pv.encI cylinders,Pv.encI most] (fun x0=>q194 x0 t2 r2.1 f3 cylinders most) (fun x0=>q665 x0 t2 r2.1 f3 cylinders most)) (fun _=>rfl) (fun _=>rfl) fun v3=>.r 10 rfl (rt rfl)))))))
   ·exact hq.elim
theorem q676 (t2:STables) (speed:Int) (charge:Int) (late:Int) (fired:Int) (cylinders:Int):TieF Tryz.prog 171 [q20 t2,NI speed,NI charge,NI late,NI fired,NI cylinders] (q403 t2 speed charge late fired cylinders) (fun r=>.tup [NI r.1,NI r.2]):=by
 refine TieF.i htab 48 [.tmp 12,.tmp 13] Tryz.call171 Tryz.func171 rfl rfl rfl rfl fun w0 L=>?_
 refine TieS.o 11 rfl (.k (q473 t2 speed charge) rfl fun r2=>.s 14 rfl (.cond rfl ?_ ?_))
 ·exact TieS.r 6 rfl (rt rfl)
 ·refine TieS.o 3 rfl (.k (q40 late 0 2560) rfl fun v=>.o 2 rfl (.bind 4 (fun b2=>⟨[(3,NI late),(4,NI fired),(5,NI cylinders),NP 6,(14,NI r2.1),(35,NB b2)],[(6,.box (q12 t2))]⟩) (TieO.split 31 rfl ?_ ?_) fun b2 _=>?_))
  ·exact TieO.l 5 rfl (lf rfl rfl)
  ·exact TieO.o 1 rfl (.k (q40 cylinders 1 8) rfl fun v2=>.l 3 rfl (lf rfl rfl))
  refine TieO.o 1 rfl (.bind 5 (fun b3=>⟨[(3,NI late),(4,NI fired),(5,NI cylinders),NP 6,(14,NI r2.1),(41,NB b3)],[(6,.box (q12 t2))]⟩) (TieO.split 36 rfl ?_ ?_) fun b3 _=>?_)
  ·exact TieO.l 6 rfl (lf rfl rfl)
  ·exact TieO.o 2 rfl (.k (q40 fired 0 cylinders) rfl fun v3=>.l 3 rfl (lf rfl rfl))
  refine TieO.s 2 rfl (.cond rfl ?_ ?_)
  ·exact TieS.r 5 rfl (rt rfl)
  ·exact TieS.o 9 rfl (.k (q379 t2 r2.1 late fired cylinders) rfl fun v4=>.r 3 rfl (rt rfl))
theorem q551 (s:Scontrol_step):TieG Tryz.prog 84 [.ptr 1000000 0] [(1000000,.box (lset (q13 s) [(63,.own 1000001)])),(1000001,.rs 79 7 s.out.Fires q16)] (q243 s) (fun _=>.tup []) (fun r=>[(1000000,.box (lset (q13 r) [(63,.own 1000001)])),(1000001,.rs 79 7 r.out.Fires q16)]):=by
 refine TieG.i htab 119 [] Tryz.call84 Tryz.func84 rfl rfl rfl rfl fun w0 L=>?_
 refine TieS.s 15 rfl (.bind (Q₁:=nrm fun t=>⟨[(0,.ptr 1000000 0),(2,NI (s.e.Order.length:Int)),(3,NI t.1)],[(1000000,.box (lset (q13 (u17_6 s t.2)) [(63,.own 1000001)])),(1000001,.rs 79 7 s.out.Fires q16)]⟩) ?_ ?_)
 ·refine TieX.pre fun r2 hr2=>TieS.draws 27 (bm 28 0) (bm 28 134217727) ⟨[(0,.ptr 1000000 0),(2,NI (s.e.Order.length:Int)),(3,NI 0),(33,NI r2.2)],[(1000000,.box (lset (q13 (u17_6 s r2.1)) [(63,.own 1000001)])),(1000001,.rs 79 7 s.out.Fires q16)]⟩ mixed (fun _ _ _ h=>by cases h.1) rfl rfl rfl rfl ?_ ?_
  ·exact TieA.ga 8 [0,1,2,3,5,6,7,8,10,11,12,13,15,16,17,18,4,9,14,19] (by kernel_rfl) rfl (.one 20 rfl (by kernel_rfl) (TieO.withH hr2 (TieO.k (q734 s.t s.i.Speed s.i.Pressure s.i.AirTemp) rfl (TieO.ifH (TieO.l 1 rfl ⟨rfl,rfl⟩)))) (.ga 2 [21,22,23,24,25] (by kernel_rfl) rfl (.oneR 26 rfl (by kernel_rfl) rfl (.done (.of rfl rfl)))))
  exact TieO.l 2 rfl (lf rfl rfl)
 rintro s2 e σ' _ ⟨rfl,hs⟩
 refine TieX.sub hs (TieS.o 4 rfl (.g [(1000000,1000000),(1000001,1000001)] [] (q21 (u17_6 s s2.2) s2.1) rfl rfl rfl (fun _=>rfl) (fun _=>rfl) fun v hv=>.s 2 rfl (.bind (Q₁:=nrm fun t=>⟨[(0,.ptr 1000000 0),(2,NI (s.e.Order.length:Int)),(3,NI t.1)],[(1000000,.box (lset (q13 (u17_8 (u17_7 v t.2.1) t.2.2)) [(63,.own 1000001)])),(1000001,.rs 79 7 v.out.Fires q16)]⟩) ?_ ?_)))
 ·refine TieX.pre fun r3 hr3=>TieS.draws 31 (bm 32 0) (bm 32 2147483647) ⟨[(0,.ptr 1000000 0),(2,NI (s.e.Order.length:Int)),(3,NI s2.1),(63,NI r3.2.2)],[(1000000,.box (lset (q13 (u17_8 (u17_7 v r3.1) r3.2.1)) [(63,.own 1000001)])),(1000001,.rs 79 7 v.out.Fires q16)]⟩ mixed (fun _ _ _ h=>by cases h.1) rfl rfl rfl rfl ?_ ?_
  ·exact TieA.ga 12 [0,1,2,3,4,6,7,8,9,11,12,13,15,16,17,19,5,10,14,18] (by kernel_rfl) rfl (.one 20 rfl (by kernel_rfl) (TieO.withH hr3 (TieO.k (q696 v.t v.i.Speed v.charge v.wanted (s.e.Order.length:Int)) rfl (TieO.ifH (TieO.l 1 rfl ⟨rfl,rfl⟩)))) (.ga 5 [21,22,23,24,25,26] (by kernel_rfl) rfl (.oneR 27 rfl (by kernel_rfl) rfl (.ga 2 [28,29] (by kernel_rfl) rfl (.oneR 30 rfl (by kernel_rfl) rfl (.done (.of rfl rfl)))))))
  exact TieO.l 2 rfl (lf rfl rfl)
 rintro s3 e σ' _ ⟨rfl,hs⟩
 refine TieX.sub hs (TieS.o 4 rfl (.g [(1000000,1000000),(1000001,1000001)] [] (q21 (u17_8 (u17_7 v s3.2.1) s3.2.2) s3.1) rfl rfl rfl (fun _=>rfl) (fun _=>rfl) fun v2 hv2=>.o 9 rfl (.k (q653 (s.e.Order.length:Int) v2.fired 0) rfl fun r4=>.o 12 rfl (.g [(1000000,1000000),(1000001,1000001)] [] (q21 (u17_9 v2 r4.1) r4.2) rfl rfl rfl (fun _=>rfl) (fun _=>rfl) fun v3 hv3=>.s 2 rfl (.bind (Q₁:=nrm fun t=>⟨[(0,.ptr 1000000 0),(3,NI t.1)],[(1000000,.box (lset (q13 (u17_11 v3 (u16_2 v3.out t.2))) [(63,.own 1000001)])),(1000001,.rs 79 7 v3.out.Fires q16)]⟩) ?_ ?_)))))
 ·refine TieX.pre fun r5 hr5=>TieS.draws 31 (bm 32 0) (bm 32 2147483647) ⟨[(0,.ptr 1000000 0),(3,NI r4.2),(112,NI r5.2)],[(1000000,.box (lset (q13 (u17_11 v3 (u16_2 v3.out r5.1))) [(63,.own 1000001)])),(1000001,.rs 79 7 v3.out.Fires q16)]⟩ mixed (fun _ _ _ h=>by cases h.1) rfl rfl rfl rfl ?_ ?_
  ·exact TieA.ga 9 [0,1,2,3,5,6,7,8,10,11,12,14,15,16,18,19,20,22,4,9,13,17,21] (by kernel_rfl) rfl (.one 23 rfl (by kernel_rfl) (TieO.withH hr5 (TieO.k (q676 v3.t v3.i.Speed v3.charge v3.late v3.fired (s.e.Order.length:Int)) rfl (TieO.ifH (TieO.l 1 rfl ⟨rfl,rfl⟩)))) (.ga 2 [24,25,26,27,28,29] (by kernel_rfl) rfl (.oneR 30 rfl (by kernel_rfl) rfl (.done (.of rfl rfl)))))
  exact TieO.l 2 rfl (lf rfl rfl)
 rintro s4 e σ' _ ⟨rfl,hs⟩
 exact TieX.sub hs (TieS.o 3 rfl (.g [(1000000,1000000),(1000001,1000001)] [] (q21 (u17_11 v3 (u16_2 v3.out s4.2)) s4.1) rfl rfl rfl (fun _=>rfl) (fun _=>rfl) fun v4 hv4=>.l 1 rfl ⟨.inr rfl,⟨[(1000000,1000000),(1000001,1000001)],_,_,rfl,rfl,rfl,rfl,rfl⟩⟩))
theorem q91 (x:Int) (low:Int) (high:Int):TieF Tryz.prog 114 [NI x,NI low,NI high] (fuel_in x low high) (fun r=>NB r):=by
 refine TieF.i htab 15 [.tmp 6] Tryz.call114 Tryz.func114 rfl rfl rfl rfl fun w0 L=>?_
 refine TieS.o 10 rfl (.selAnd (v:=decide (x ≤ high)) 4 10 (fun b=>⟨[(14,NB b)],[]⟩) rfl ?_ ?_ ?_)
 ·exact TieO.l 5 rfl (lf rfl rfl)
 ·exact TieO.l 5 rfl (lf rfl rfl)
 exact TieO.r 2 rfl (rt rfl)
theorem q625 (b2:SBody):TieF Tryz.prog 113 [A_SBody b2] (q475 b2) (fun r=>NB r):=by
 refine TieF.i htab 11 [.tmp 2] Tryz.call113 Tryz.func113 rfl rfl rfl rfl fun w0 L=>?_
 refine TieS.o 9 rfl (.k (q91 b2.Film 0 1023) rfl fun v=>.o 1 rfl (.bind 4 (fun b3=>⟨[(10,NB b3)],[]⟩) (TieO.split 6 rfl ?_ ?_) fun b3 _=>?_))
 ·exact TieO.o 2 rfl (.k (q91 b2.Evaporate 0 1024) rfl fun v2=>.l 2 rfl (lf rfl rfl))
 ·exact TieO.l 5 rfl (lf rfl rfl)
 exact TieO.r 2 rfl (rt rfl)
theorem q479 (b2:SBody) (film:Int) (inject:Int):TieF Tryz.prog 115 [A_SBody b2,NI film,NI inject] (q413 b2 film inject) (fun r=>.tup [NI r.1,NI r.2]):=by
 refine TieF.i htab 30 [.tmp 6,.tmp 7] Tryz.call115 Tryz.func115 rfl rfl rfl rfl fun w0 L=>?_
 exact TieS.s 7 rfl (.dr 12 [(1,NI film),(2,NI inject),NP 3] [(3,.box [NI b2.Inertia,NI b2.Friction,NI b2.Volume,NI b2.Throttle,NI b2.Film,NI b2.Evaporate,NI b2.Delay])] mixed (.of rfl rfl) (.q rfl rfl rfl (.q rfl rfl rfl (.q rfl rfl rfl (.q rfl rfl rfl (.q rfl rfl rfl (.q rfl rfl rfl (.q rfl rfl rfl (.q rfl rfl rfl (.q rfl rfl rfl (.q rfl rfl rfl (.q rfl rfl rfl (.q rfl rfl rfl (.nil))))))))))))) rfl (.r 19 rfl (rt rfl)))
theorem q763 (b2:SBody) (film:Int) (inject:Int):TieF Tryz.prog 27 [A_SBody b2,NI film,NI inject] (q468 b2 film inject) (fun r=>.tup [NI r.1,NI r.2.1,NI r.2.2]):=by
 refine TieF.i htab 33 [.tmp 6,.tmp 7,.tmp 8] Tryz.call27 Tryz.func27 rfl rfl rfl rfl fun w0 L=>?_
 refine TieS.o 12 rfl (.k (q625 b2) rfl fun v=>.s 3 rfl (.cond rfl ?_ ?_))
 ·exact TieS.r 6 rfl (rt rfl)
 ·refine TieS.o 3 rfl (.k (q91 film 0 1073741824) rfl fun v2=>.o 2 rfl (.bind 4 (fun b3=>⟨[(1,NI film),(2,NI inject),NP 3,(21,NB b3)],[(3,.box [NI b2.Inertia,NI b2.Friction,NI b2.Volume,NI b2.Throttle,NI b2.Film,NI b2.Evaporate,NI b2.Delay])]⟩) (TieO.split 17 rfl ?_ ?_) fun b3 _=>?_))
  ·exact TieO.l 5 rfl (lf rfl rfl)
  ·exact TieO.o 1 rfl (.k (q91 inject 0 1048576) rfl fun v3=>.l 3 rfl (lf rfl rfl))
  refine TieO.s 2 rfl (.cond rfl ?_ ?_)
  ·exact TieS.r 6 rfl (rt rfl)
  ·refine TieS.o 7 rfl (.k (q479 b2 film inject) rfl fun r2=>.s 12 rfl (.cond rfl ?_ ?_))
   ·exact TieS.r 6 rfl (rt rfl)
   ·exact TieS.r 9 rfl (rt rfl)
theorem q380 (speed:Int) (charge:Int):TieF Tryz.prog 131 [NI speed,NI charge] (q216 speed charge) (fun r=>NB r):=by
 refine TieF.i htab 11 [.tmp 4] Tryz.call131 Tryz.func131 rfl rfl rfl rfl fun w0 L=>?_
 refine TieS.o 7 rfl (.k (q130 speed 0 12000) rfl fun v=>.o 1 rfl (.bind 3 (fun b2=>⟨[(10,NB b2)],[]⟩) (TieO.split 7 rfl ?_ ?_) fun b2 _=>?_))
 ·exact TieO.o 1 rfl (.k (q130 charge 0 1048576) rfl fun v2=>.l 2 rfl (lf rfl rfl))
 ·exact TieO.l 4 rfl (lf rfl rfl)
 exact TieO.r 2 rfl (rt rfl)
theorem q570 (s:List SCell):TieF Tryz.prog 215 [NS q18 s] (q352 s) (fun r=>NS q18 r):=by
 refine TieF.i htab 8 [.tmp 2] Tryz.call215 Tryz.func215 rfl rfl rfl rfl fun w0 L=>?_
 refine TieS.o 8 rfl (.isNil rfl rfl rfl rfl rfl rfl fun b2 hb2=>.s 1 rfl (.condB rfl (fun hb1=>?_) (fun _=>?_)))
 ·exact TieX.model (m':=some ([]:List SCell)) (by rw [hb2 hb1]; rfl) (TieS.r 4 rfl (rt rfl))
 ·exact TieS.o 5 rfl (.appendY (id:=5) (e':=0) (l:=([]:List SCell)) (r:=s) (tm':=[(0,NS q18 s),(2,.t (.v (.slice none 0 0))),(3,NS q18 s),(4,NB b2),(6,NS q18 s)]) (hp':=[]) rfl rfl rfl rfl rfl rfl rfl (fun _=>rfl) (fun _=>rfl) (.inl ⟨rfl,rfl⟩) (.inl rfl) (.of rfl rfl) rfl rfl rfl fun l=>.r 2 rfl (rt rfl))
theorem q651 (p2:SProbe):TieF Tryz.prog 133 [q96 p2] (q452 p2) (fun r=>q96 r):=by
 refine TieF.i htab 8 [.cell 2 41] Tryz.call133 Tryz.func133 rfl rfl rfl rfl fun w0 L=>?_
 exact TieS.o 9 rfl (.k (q570 p2.Cells) rfl fun v=>.r 8 rfl (rt rfl))
abbrev x38_0:List T:=[NB false,NB false,NI 0,NI 0,.t (.v (.slice none 0 0))]
abbrev x38_1 (v4:SProbe):List T:=[NB v4.Active,NB v4.Rich,NI v4.Factor,NI v4.Wait,NS q18 v4.Cells]
theorem q689 (p2:SProbe) (millivolts:Int) (speed:Int) (charge:Int):TieF Tryz.prog 38 [q96 p2,NI millivolts,NI speed,NI charge] (q427 p2 millivolts speed charge) (fun r=>.tup [q96 r.1,NI r.2]):=by
 refine TieF.i htab 76 [.cell 8 41,.tmp 9] Tryz.call38 Tryz.func38 rfl rfl rfl rfl fun w0 L=>?_
 refine TieS.o 11 rfl (.k (q378 p2) rfl fun v=>.s 3 rfl (.cond rfl ?_ ?_))
 ·exact TieS.r 6 rfl (rt rfl)
 ·refine TieS.o 4 rfl (.k (q380 speed charge) rfl fun v2=>.o 2 rfl (.bind 4 (fun b2=>⟨[(1,NI millivolts),NP 4,NP 8,(26,NB b2)],[(4,.box [NB p2.Active,NB p2.Rich,NI p2.Factor,NI p2.Wait,NS q18 p2.Cells]),(8,.box x38_0)]⟩) (TieO.split 22 rfl ?_ ?_) fun b2 _=>?_))
  ·exact TieO.l 5 rfl (lf rfl rfl)
  ·exact TieO.o 1 rfl (.k (q130 millivolts 0 20000) rfl fun v3=>.l 3 rfl (lf rfl rfl))
  refine TieO.s 2 rfl (.cond rfl ?_ ?_)
  ·exact TieS.r 6 rfl (rt rfl)
  ·refine TieS.o 5 rfl (.k (q651 p2) rfl fun v4=>.s 9 rfl (.cond rfl ?_ ?_))
   ·refine TieS.o 5 rfl (.selOr (v:=decide (millivolts > 600)) 3 35 (fun b=>⟨[(1,NI millivolts),NP 4,NP 8,(38,NB b)],[(4,.box (x38_1 v4)),(8,.box x38_0)]⟩) rfl ?_ ?_ ?_)
    ·exact TieO.l 4 rfl (lf rfl rfl)
    ·exact TieO.l 4 rfl (lf rfl rfl)
    exact TieO.r 16 rfl (rt rfl)
   ·refine TieS.o 6 rfl (.bind 7 (fun b3=>⟨[NP 4,NP 8,(53,NB b3)],[(4,.box (x38_1 v4)),(8,.box x38_0)]⟩) (TieO.split 46 rfl ?_ ?_) fun b3 _=>?_)
    ·exact TieO.l 8 rfl (lf rfl rfl)
    ·refine TieO.o 3 rfl (.selAnd (v:=v4.Rich) 3 49 (fun b=>⟨[NP 4,NP 8,(46,NB false),(52,NB b)],[(4,.box (x38_1 v4)),(8,.box x38_0)]⟩) rfl ?_ ?_ ?_)
     ·exact TieO.l 4 rfl (lf rfl rfl)
     ·exact TieO.l 4 rfl (lf rfl rfl)
     exact TieO.l 2 rfl (lf rfl rfl)
    refine TieO.s 14 rfl (.bind (Q₁:=nrm fun t=>⟨[NP 4,NP 8,(10,NB b3),(11,NI t.1)],[(4,.box [NB v4.Active,NB v4.Rich,NI v4.Factor,NI t.2,NS q18 v4.Cells]),(8,.box x38_0)]⟩) ?_ ?_)
    ·refine TieS.cond rfl ?_ ?_
     ·exact TieS.l 5 rfl (lf rfl rfl)
     ·exact TieS.l 8 rfl (lf rfl rfl)
    rintro s e σ' _ ⟨rfl,hs⟩
    refine TieX.sub hs (TieS.s 5 rfl (.bind (Q₁:=nrm fun t=>⟨[NP 4,NP 8,(10,NB b3),(11,NI t)],[(4,.box [NB v4.Active,NB v4.Rich,NI v4.Factor,NI s.2,NS q18 v4.Cells]),(8,.box x38_0)]⟩) ?_ ?_))
    ·refine TieS.cond rfl ?_ ?_
     ·exact TieS.l 5 rfl (lf rfl rfl)
     ·exact TieS.l 1 rfl (lf rfl rfl)
    rintro v_by e σ' _ ⟨rfl,hs⟩
    exact TieX.sub hs (TieS.o 7 rfl (.k (q31 (w64 (v4.Factor + v_by)) 750 1250) rfl fun v5=>.r 11 rfl (rt rfl)))
theorem q487 (x:Int) (thresholds:List Int):TieF Tryz.prog 259 [NI x,NL thresholds] (q325 x thresholds) (fun r=>NI r):=by
 refine TieF.i htab 21 [.tmp 4] Tryz.call259 Tryz.func259 rfl rfl rfl rfl fun w0 L=>?_
 refine TieS.s 16 rfl (.loop (fun p=>⟨[(0,NI x),(5,NI p.2),(8,NL thresholds),(9,NI (thresholds.length:Int)),(10,NI p.1)],[]⟩) (fun b e σ'=>match b with | .inl t=>e = .exit 0 ∧ Sub ⟨[(5,NI t)],[]⟩ σ' | .inr t=>False) (.of rfl rfl) ?_ ?_)
 ·rintro ⟨i,n2⟩
  refine TieS.s 5 rfl (.cond rfl ?_ ?_)
  ·refine TieS.s 2 rfl (TieX.pre fun x2 hx2=>TieX.sub (σ':=⟨[(0,NI x),(5,NI n2),(8,NL thresholds),(9,NI (thresholds.length:Int)),(10,NI i)],[]⟩) (.of rfl rfl) (TieS.bind (Q₁:=fun f e σ'=>match f with | .next t=>e = .normal ∧ Sub ⟨[(0,NI x),(5,NI t),(8,NL thresholds),(9,NI (thresholds.length:Int)),(10,NI i)],[]⟩ σ' | .brk t=>e = .exit 0 ∧ Sub ⟨[(5,NI t)],[]⟩ σ' | .ret r=>False) ?_ ?_))
   ·refine TieS.o 3 rfl (.indexH hx2 rfl rfl rfl rfl rfl rfl rfl rfl (fun _=>rfl) (.s 9 rfl (.cond rfl ?_ ?_)))
    ·exact TieS.l 6 rfl (lf rfl rfl)
    ·exact TieS.l 2 rfl (lf rfl rfl)
   rintro (t | t | r) e σ' _ hq
   ·obtain ⟨rfl,hs⟩:=hq
    exact TieX.sub hs (TieS.l 4 rfl (lf rfl rfl))
   ·obtain ⟨rfl,hs⟩:=hq
    exact TieX.exitOut rfl ⟨(fun h=>by cases h),rfl,hs⟩
   ·exact hq.elim
  ·exact TieS.exitOut rfl ⟨(fun h=>by cases h),rfl,.of rfl rfl⟩
 rintro (n3 | r) e σ' _ hq
 ·obtain ⟨rfl,hs⟩:=hq
  refine TieX.exit rfl (TieX.sub hs ?_)
  exact TieS.r 5 rfl (rt rfl)
 ·exact hq.elim
theorem q701 (speed:Int) (charge:Int):TieF Tryz.prog 233 [NI speed,NI charge] (q515 speed charge) (fun r=>NI r):=by
 refine TieF.i htab 17 [.tmp 4] Tryz.call233 Tryz.func233 rfl rfl rfl rfl fun w0 L=>?_
 refine TieS.o 9 rfl (.k (q380 speed charge) rfl fun v=>.s 2 rfl (.cond rfl ?_ ?_))
 ·exact TieS.r 4 rfl (rt rfl)
 ·exact TieS.o 5 rfl (.callS _ rfl rfl rfl (q487 speed ([1500,3500]:List Int)) (fun _=>rfl) (fun _=>rfl) fun v2=>.o 3 rfl (.callS _ rfl rfl rfl (q487 charge ([150000,350000]:List Int)) (fun _=>rfl) (fun _=>rfl) fun v3=>.r 3 rfl (rt rfl)))
theorem q639 (p2:SProbe) (speed:Int) (charge:Int):TieF Tryz.prog 172 [q96 p2,NI speed,NI charge] (q364 p2 speed charge) (fun r=>.tup [NI r.1,NI r.2]):=by
 refine TieF.i htab 29 [.tmp 6,.tmp 7] Tryz.call172 Tryz.func172 rfl rfl rfl rfl fun w0 L=>?_
 refine TieS.o 11 rfl (.k (q378 p2) rfl fun v=>.s 3 rfl (.cond rfl ?_ ?_))
 ·exact TieS.r 5 rfl (rt rfl)
 ·refine TieS.o 4 rfl (.k (q380 speed charge) rfl fun v2=>.s 3 rfl (.cond rfl ?_ ?_))
  ·exact TieS.r 5 rfl (rt rfl)
  ·exact TieS.s 3 rfl (TieX.pre fun v3 hv3=>TieX.pre fun x hx=>TieX.pre fun v4 hv4=>TieS.dr 14 [(1,NI speed),(2,NI charge),NP 3] [(3,.box [NB p2.Active,NB p2.Rich,NI p2.Factor,NI p2.Wait,NS q18 p2.Cells])] mixed (.of rfl rfl) (.q rfl rfl rfl (.q rfl rfl rfl (.q rfl rfl rfl (.q rfl rfl rfl (.q rfl rfl rfl (.q rfl rfl rfl (.cons (.callV (q701 speed charge) hv3 rfl rfl rfl rfl) (.cons (.index hx rfl rfl rfl rfl rfl rfl (fun _=>rfl)) (.q rfl rfl rfl (.q rfl rfl rfl (.q rfl rfl rfl (.cons (.callV (q31 (w64 (p2.Factor + x.Value)) 700 1300) hv4 rfl rfl rfl rfl) (.q rfl rfl rfl (.q rfl rfl rfl (.nil))))))))))))))) rfl (.r 1 rfl (rt rfl)))
theorem q760 (charge:Int) (factor:Int):TieF Tryz.prog 173 [NI charge,NI factor] (q546 charge factor) (fun r=>.tup [NI r.1,NI r.2]):=by
 refine TieF.i htab 19 [.tmp 4,.tmp 5] Tryz.call173 Tryz.func173 rfl rfl rfl rfl fun w0 L=>?_
 refine TieS.o 9 rfl (.k (q91 charge 0 1048576) rfl fun v=>.o 2 rfl (.bind 4 (fun b2=>⟨[(0,NI charge),(1,NI factor),(13,NB b2)],[]⟩) (TieO.split 9 rfl ?_ ?_) fun b2 _=>?_))
 ·exact TieO.l 5 rfl (lf rfl rfl)
 ·exact TieO.o 1 rfl (.k (q91 factor 500 2000) rfl fun v2=>.l 3 rfl (lf rfl rfl))
 refine TieO.s 1 rfl (.cond rfl ?_ ?_)
 ·exact TieS.r 5 rfl (rt rfl)
 ·exact TieS.o 7 rfl (.quo rfl rfl rfl rfl rfl rfl fun q=>.r 3 rfl (rt rfl))
theorem q769 (n2:Int) (n3:Nat) (cs:List (List Tree)) (cmp:Int → Option Int) (h2:∀ x0,TieF Tryz.prog n3 ([NI x0] ++ cs.map T.el) (cmp x0) (fun r=>NI r)):TieF Tryz.prog 234 [NI n2,.fz n3 cs] (q471 n2 cmp) (fun r=>.tup [NI r.1,NB r.2]):=by
 refine TieF.i htab 35 [.tmp 4,.tmp 5] Tryz.call234 Tryz.func234 rfl rfl rfl rfl fun w0 L=>?_
 refine TieS.s 13 rfl (.loop (fun t=>⟨[(0,NI n2),(1,.fz n3 cs),(4,NI t.1),(6,NI t.2)],[]⟩) (fun b e σ'=>match b with | .inl t=>e = .exit 0 ∧ Sub ⟨[(0,NI n2),(1,.fz n3 cs),(4,NI t.1)],[]⟩ σ' | .inr t=>False) (.of rfl rfl) ?_ ?_)
 ·intro s
  refine TieS.s 7 rfl (.cond rfl ?_ ?_)
  ·refine TieS.o 16 rfl (.k (h2 (w64 (bitShr .u64 (IntKind.u64.wrap (w64 (s.1 + s.2))) 1))) rfl fun v=>.s 2 rfl (.cond rfl ?_ ?_))
   ·exact TieS.l 6 rfl (lf rfl rfl)
   ·exact TieS.l 5 rfl (lf rfl rfl)
  ·exact TieS.exitOut rfl ⟨(fun h=>by cases h),rfl,.of rfl rfl⟩
 rintro (s2 | r) e σ' _ hq
 ·obtain ⟨rfl,hs⟩:=hq
  refine TieX.exit rfl (TieX.sub hs ?_)
  refine TieS.o 7 rfl (.bind 5 (fun b2=>⟨[(25,NI s2.1),(34,NB b2)],[]⟩) (TieO.split 29 rfl ?_ ?_) fun b2 _=>?_)
  ·exact TieO.o 2 rfl (.k (h2 s2.1) rfl fun v2=>.l 3 rfl (lf rfl rfl))
  ·exact TieO.l 6 rfl (lf rfl rfl)
  exact TieO.r 3 rfl (rt rfl)
 ·exact hq.elim
theorem q716 (i:Int) (c:SBody) (c2:Int) (c3:Int):TieF Tryz.prog 235 [NI i,.el (q223 c),.el (Pv.encI c2),.el (Pv.encI c3)] (q327 i c c2 c3) (fun r=>NI r):=by
 refine TieF.i htab 18 [.tmp 5] Tryz.call235 Tryz.func235 rfl rfl rfl rfl fun w0 L=>?_
 exact TieS.o 9 rfl (.k (q479 c c2 i) rfl fun r2=>.r 13 rfl (rt rfl))
theorem q766 (b2:SBody) (film:Int) (mass:Int):TieF Tryz.prog 174 [A_SBody b2,NI film,NI mass] (q414 b2 film mass) (fun r=>.tup [NI r.1,NI r.2.1,NI r.2.2]):=by
 refine TieF.i htab 40 [.tmp 6,.tmp 7,.tmp 8] Tryz.call174 Tryz.func174 rfl rfl rfl rfl fun w0 L=>?_
 refine TieS.o 14 rfl (.k (q625 b2) rfl fun v=>.s 3 rfl (.cond rfl ?_ ?_))
 ·exact TieS.r 6 rfl (rt rfl)
 ·refine TieS.o 3 rfl (.k (q91 film 0 1073741824) rfl fun v2=>.o 2 rfl (.bind 4 (fun b3=>⟨[NP 3,NP 4,NP 5,(21,NB b3)],[(3,.box [NI b2.Inertia,NI b2.Friction,NI b2.Volume,NI b2.Throttle,NI b2.Film,NI b2.Evaporate,NI b2.Delay]),(4,.box [NI film]),(5,.box [NI mass])]⟩) (TieO.split 17 rfl ?_ ?_) fun b3 _=>?_))
  ·exact TieO.l 5 rfl (lf rfl rfl)
  ·exact TieO.o 1 rfl (.k (q91 mass 0 1048576) rfl fun v3=>.l 3 rfl (lf rfl rfl))
  refine TieO.s 2 rfl (.cond rfl ?_ ?_)
  ·exact TieS.r 6 rfl (rt rfl)
  ·refine TieS.o 4 rfl (.frzBox 3 rfl rfl (.frzBox 4 rfl rfl (.frzBox 5 rfl rfl (.o 1 rfl (.sub (σ':=⟨[(3,.el (q223 b2)),(4,.el (Pv.encI film)),(5,.el (Pv.encI mass)),(13,NB b3),(21,NB b3),(23,.fz 235 [q223 b2,Pv.encI film,Pv.encI mass])],[]⟩) (.of rfl rfl) (.k (q769 1048577 235 [q223 b2,Pv.encI film,Pv.encI mass] (fun x0=>q327 x0 b2 film mass) (fun x0=>q716 x0 b2 film mass)) rfl fun r2=>.s 11 rfl (.cond rfl ?_ ?_)))))))
   ·exact TieS.r 6 rfl (rt rfl)
   ·refine TieS.o 7 rfl (.k (q479 b2 film r2.1) rfl fun r3=>.s 10 rfl (.cond rfl ?_ ?_))
    ·exact TieS.r 6 rfl (rt rfl)
    ·exact TieS.r 9 rfl (rt rfl)
theorem q709 (y:Int):TieF Tryz.prog 203 [NI y] (q466 y) (fun r=>NB r):=by
 refine TieF.i htab 6 [.tmp 2] Tryz.call203 Tryz.func203 rfl rfl rfl rfl fun w0 L=>?_
 exact TieS.o 7 rfl (.k (q91 y 0 10000) rfl fun v=>.r 3 rfl (rt rfl))
theorem q767 (t2:STables) (amount:Int) (millivolts:Int):TieF Tryz.prog 117 [q20 t2,NI amount,NI millivolts] (q544 t2 amount millivolts) (fun r=>.tup [NI r.1,NI r.2]):=by
 refine TieF.i htab 32 [.tmp 6,.tmp 7] Tryz.call117 Tryz.func117 rfl rfl rfl rfl fun w0 L=>?_
 refine TieS.o 12 rfl (.k (q87 t2.Dead) rfl fun v=>.o 2 rfl (.bind 5 (fun b2=>⟨[(1,NI amount),(2,NI millivolts),NP 3,(18,NB b2)],[(3,.box (q12 t2))]⟩) (TieO.split 13 rfl ?_ ?_) fun b2 _=>?_))
 ·exact TieO.l 6 rfl (lf rfl rfl)
 ·exact TieO.o 3 rfl (.k (q28 t2.Dead.Y 203 [] q466 q709) rfl fun v2=>.l 2 rfl (lf rfl rfl))
 refine TieO.s 2 rfl (.cond rfl ?_ ?_)
 ·exact TieS.r 5 rfl (rt rfl)
 ·refine TieS.o 3 rfl (.k (q91 amount 0 1048576) rfl fun v3=>.o 2 rfl (.bind 4 (fun b3=>⟨[(2,NI millivolts),NP 3,(27,NB b3)],[(3,.box (q12 t2))]⟩) (TieO.split 23 rfl ?_ ?_) fun b3 _=>?_))
  ·exact TieO.l 5 rfl (lf rfl rfl)
  ·exact TieO.o 1 rfl (.k (q91 millivolts 0 20000) rfl fun v4=>.l 3 rfl (lf rfl rfl))
  refine TieO.s 2 rfl (.cond rfl ?_ ?_)
  ·exact TieS.r 5 rfl (rt rfl)
  ·exact TieS.o 7 rfl (.k (q431 t2.Dead millivolts) rfl fun v5=>.r 3 rfl (rt rfl))
theorem q762 (t2:STables) (mass:Int) (millivolts:Int):TieF Tryz.prog 175 [q20 t2,NI mass,NI millivolts] (q467 t2 mass millivolts) (fun r=>.tup [NI r.1,NI r.2]):=by
 refine TieF.i htab 34 [.tmp 6,.tmp 7] Tryz.call175 Tryz.func175 rfl rfl rfl rfl fun w0 L=>?_
 refine TieS.o 11 rfl (.k (q767 t2 mass millivolts) rfl fun r2=>.o 12 rfl (.selOr (v:=(mass == 0)) 3 20 (fun b=>⟨[(1,NI mass),(8,NI r2.1),(9,NI r2.2),(23,NB b)],[]⟩) rfl ?_ ?_ ?_))
 ·exact TieO.l 4 rfl (lf rfl rfl)
 ·exact TieO.l 4 rfl (lf rfl rfl)
 refine TieO.s 1 rfl (.cond rfl ?_ ?_)
 ·exact TieS.r 6 rfl (rt rfl)
 ·exact TieS.o 4 rfl (.k (q480 mass 3 2) rfl fun r3=>.r 15 rfl (rt rfl))
theorem q599 (s:Scontrol_step):TieG Tryz.prog 85 [.ptr 1000000 0] [(1000000,.box (lset (q13 s) [(63,.own 1000001)])),(1000001,.rs 79 7 s.out.Fires q16)] (q276 s) (fun _=>.tup []) (fun r=>[(1000000,.box (lset (q13 r) [(63,.own 1000001)])),(1000001,.rs 79 7 r.out.Fires q16)]):=by
 refine TieG.i htab 146 [] Tryz.call85 Tryz.func85 rfl rfl rfl rfl fun w0 L=>?_
 refine TieS.s 5 rfl (.bind (Q₁:=nrm fun t=>⟨[(0,.ptr 1000000 0),(2,NI t.1)],[(1000000,.box (lset (q13 (u17_3 s (u11_3 s.c t.2))) [(63,.own 1000001)])),(1000001,.rs 79 7 s.out.Fires q16)]⟩) ?_ ?_)
 ·refine TieX.pre fun r2 hr2=>TieS.draws 28 (bm 29 0) (bm 29 268435455) ⟨[(0,.ptr 1000000 0),(2,NI 0),(32,NI r2.2)],[(1000000,.box (lset (q13 (u17_3 s (u11_3 s.c r2.1))) [(63,.own 1000001)])),(1000001,.rs 79 7 s.out.Fires q16)]⟩ mixed (fun _ _ _ h=>by cases h.1) rfl rfl rfl rfl ?_ ?_
  ·exact TieA.ga 9 [0,1,2,3,4,6,7,8,9,11,12,13,14,16,17,18,5,10,15,19] (by kernel_rfl) rfl (.one 20 rfl (by kernel_rfl) (TieO.withH hr2 (TieO.k (q689 s.c.Probe s.i.Lambda s.i.Speed s.charge) rfl (TieO.ifH (TieO.l 1 rfl ⟨rfl,rfl⟩)))) (.ga 2 [21,22,23,24,25,26] (by kernel_rfl) rfl (.oneR 27 rfl (by kernel_rfl) rfl (.done (.of rfl rfl)))))
  exact TieO.l 2 rfl (lf rfl rfl)
 rintro s2 e σ' _ ⟨rfl,hs⟩
 refine TieX.sub hs (TieS.o 4 rfl (.g [(1000000,1000000),(1000001,1000001)] [] (q21 (u17_3 s (u11_3 s.c s2.2)) s2.1) rfl rfl rfl (fun _=>rfl) (fun _=>rfl) fun v hv=>.s 2 rfl (TieX.pre fun r3 hr3=>TieS.dr 20 [(0,.ptr 1000000 0)] [(1000000,.box (lset (q13 v) [(63,.own 1000001)])),(1000001,.rs 79 7 v.out.Fires q16)] mixed (.of rfl rfl) (.q rfl rfl rfl (.q rfl rfl rfl (.q rfl rfl rfl (.q rfl rfl rfl (.q rfl rfl rfl (.q rfl rfl rfl (.q rfl rfl rfl (.q rfl rfl rfl (.q rfl rfl rfl (.q rfl rfl rfl (.q rfl rfl rfl (.q rfl rfl rfl (.q rfl rfl rfl (.q rfl rfl rfl (.cons (.callV (q639 v.c.Probe v.i.Speed v.charge) hr3 rfl rfl rfl rfl) (.q rfl rfl rfl (.q rfl rfl rfl (.q rfl rfl rfl (.q rfl rfl rfl (.q rfl rfl rfl (.nil))))))))))))))))))))) rfl (.o 5 rfl (.g [(1000000,1000000),(1000001,1000001)] [] (q21 v r3.2) rfl rfl rfl (fun _=>rfl) (fun _=>rfl) fun v2 hv2=>.o 7 rfl (.k (q760 v2.charge 1000) rfl fun r4=>.o 10 rfl (.g [(1000000,1000000),(1000001,1000001)] [] (q21 v2 r4.2) rfl rfl rfl (fun _=>rfl) (fun _=>rfl) fun v3 hv3=>.s 11 rfl (TieX.pre fun r5 hr5=>TieS.dr 18 [(0,.ptr 1000000 0),(4,NI (minI 1048576 (w64 (Int.tdiv (w64 (r4.1 * r3.1)) 1000))))] [(1000000,.box (lset (q13 v3) [(63,.own 1000001)])),(1000001,.rs 79 7 v3.out.Fires q16)] mixed (.of rfl rfl) (.q rfl rfl rfl (.q rfl rfl rfl (.q rfl rfl rfl (.q rfl rfl rfl (.q rfl rfl rfl (.q rfl rfl rfl (.q rfl rfl rfl (.q rfl rfl rfl (.q rfl rfl rfl (.q rfl rfl rfl (.cons (.callV (q766 v3.b v3.c.Film (minI 1048576 (w64 (Int.tdiv (w64 (r4.1 * r3.1)) 1000)))) hr5 rfl rfl rfl rfl) (.q rfl rfl rfl (.q rfl rfl rfl (.q rfl rfl rfl (.q rfl rfl rfl (.q rfl rfl rfl (.q rfl rfl rfl (.q rfl rfl rfl (.nil))))))))))))))))))) rfl (.o 10 rfl (.selOr (v:=(r5.2.2 != 0)) 3 96 (fun b=>⟨[(0,.ptr 1000000 0),(5,NI r5.1),(6,NI r5.2.1),(99,NB b)],[(1000000,.box (lset (q13 v3) [(63,.own 1000001)])),(1000001,.rs 79 7 v3.out.Fires q16)]⟩) rfl ?_ ?_ ?_))))))))))
 ·exact TieO.l 4 rfl (lf rfl rfl)
 ·exact TieO.l 4 rfl (lf rfl rfl)
 refine TieO.s 1 rfl (.bind (Q₁:=nrm fun t=>⟨[(0,.ptr 1000000 0),(5,NI t.1),(6,NI t.2.1)],[(1000000,.box (lset (q13 t.2.2) [(63,.own 1000001)])),(1000001,.rs 79 7 t.2.2.out.Fires q16)]⟩) ?_ ?_)
 ·refine TieS.cond rfl ?_ ?_
  ·exact TieS.s 5 rfl (TieX.pre fun r6 hr6=>TieS.dr 16 [(0,.ptr 1000000 0),(5,NI 0)] [(1000000,.box (lset (q13 v3) [(63,.own 1000001)])),(1000001,.rs 79 7 v3.out.Fires q16)] mixed (.of rfl rfl) (.q rfl rfl rfl (.q rfl rfl rfl (.q rfl rfl rfl (.q rfl rfl rfl (.q rfl rfl rfl (.q rfl rfl rfl (.q rfl rfl rfl (.q rfl rfl rfl (.q rfl rfl rfl (.cons (.callV (q763 v3.b v3.c.Film 0) hr6 rfl rfl rfl rfl) (.q rfl rfl rfl (.q rfl rfl rfl (.q rfl rfl rfl (.q rfl rfl rfl (.q rfl rfl rfl (.q rfl rfl rfl (.nil))))))))))))))))) rfl (.o 4 rfl (.g [(1000000,1000000),(1000001,1000001)] [] (q21 v3 r6.2.2) rfl rfl rfl (fun _=>rfl) (fun _=>rfl) fun v4 hv4=>.l 1 rfl (lf rfl rfl))))
  ·exact TieS.l 1 rfl (lf rfl rfl)
 rintro s3 e σ' _ ⟨rfl,hs⟩
 refine TieX.sub hs (TieS.s 14 rfl (.cond rfl ?_ ?_))
 ·exact TieS.s 1 rfl (TieX.pre fun r7 hr7=>TieS.dr 16 [(0,.ptr 1000000 0),(5,NI s3.1)] [(1000000,.box (lset (q13 (u17_11 (u17_4 (u17_3 (u17_2 (u17_1 (u17_0 s3.2.2 (⟨(⟨s3.2.2.t.Air.X,s3.2.2.t.Air.Y,s3.2.2.t.Air.Z⟩:SMap),(⟨s3.2.2.t.Spark.X,s3.2.2.t.Spark.Y,s3.2.2.t.Spark.Z⟩:SMap),(⟨s3.2.2.t.Torque.X,s3.2.2.t.Torque.Y,s3.2.2.t.Torque.Z⟩:SMap),(⟨s3.2.2.t.Wish.X,s3.2.2.t.Wish.Y,s3.2.2.t.Wish.Z⟩:SMap),(⟨s3.2.2.t.AirTemp.X,s3.2.2.t.AirTemp.Y⟩:SCurve),(⟨s3.2.2.t.Dwell.X,s3.2.2.t.Dwell.Y⟩:SCurve),(⟨s3.2.2.t.Dead.X,s3.2.2.t.Dead.Y⟩:SCurve),(⟨s3.2.2.t.Efficiency.X,s3.2.2.t.Efficiency.Y⟩:SCurve),(⟨s3.2.2.t.Idle.P,s3.2.2.t.Idle.I,s3.2.2.t.Idle.Low,s3.2.2.t.Idle.High⟩:SGain)⟩:STables)) (⟨s3.2.2.e.Order,s3.2.2.e.First⟩:SEngine)) (⟨s3.2.2.b.Inertia,s3.2.2.b.Friction,s3.2.2.b.Volume,s3.2.2.b.Throttle,s3.2.2.b.Film,s3.2.2.b.Evaporate,s3.2.2.b.Delay⟩:SBody)) (⟨(⟨s3.2.2.c.Pedal.Value,s3.2.2.c.Pedal.Differ,s3.2.2.c.Pedal.Fault⟩:SPedal),(⟨s3.2.2.c.Idle.Sum⟩:SIntegral),s3.2.2.c.Knock,(⟨s3.2.2.c.Probe.Active,s3.2.2.c.Probe.Rich,s3.2.2.c.Probe.Factor,s3.2.2.c.Probe.Wait,s3.2.2.c.Probe.Cells⟩:SProbe),s3.2.1,(⟨s3.2.2.c.Grant.Torque,s3.2.2.c.Grant.Source⟩:SGrant)⟩:SControls)) (⟨s3.2.2.i.Pedal1,s3.2.2.i.Pedal2,s3.2.2.i.Speed,s3.2.2.i.Pressure,s3.2.2.i.AirTemp,s3.2.2.i.Voltage,s3.2.2.i.Lambda,s3.2.2.i.Coolant,s3.2.2.i.Intensity,s3.2.2.i.Requests⟩:SInputs)) (u16_1 s3.2.2.out []))) [(63,.own 1000001)])),(1000001,.rs 79 7 s3.2.2.out.Fires q16)] mixed (.of rfl rfl) (.q rfl rfl rfl (.q rfl rfl rfl (.q rfl rfl rfl (.q rfl rfl rfl (.q rfl rfl rfl (.q rfl rfl rfl (.q rfl rfl rfl (.q rfl rfl rfl (.q rfl rfl rfl (.q rfl rfl rfl (.cons (.callV (q762 (⟨(⟨s3.2.2.t.Air.X,s3.2.2.t.Air.Y,s3.2.2.t.Air.Z⟩:SMap),(⟨s3.2.2.t.Spark.X,s3.2.2.t.Spark.Y,s3.2.2.t.Spark.Z⟩:SMap),(⟨s3.2.2.t.Torque.X,s3.2.2.t.Torque.Y,s3.2.2.t.Torque.Z⟩:SMap),(⟨s3.2.2.t.Wish.X,s3.2.2.t.Wish.Y,s3.2.2.t.Wish.Z⟩:SMap),(⟨s3.2.2.t.AirTemp.X,s3.2.2.t.AirTemp.Y⟩:SCurve),(⟨s3.2.2.t.Dwell.X,s3.2.2.t.Dwell.Y⟩:SCurve),(⟨s3.2.2.t.Dead.X,s3.2.2.t.Dead.Y⟩:SCurve),(⟨s3.2.2.t.Efficiency.X,s3.2.2.t.Efficiency.Y⟩:SCurve),(⟨s3.2.2.t.Idle.P,s3.2.2.t.Idle.I,s3.2.2.t.Idle.Low,s3.2.2.t.Idle.High⟩:SGain)⟩:STables) s3.1 s3.2.2.i.Voltage) hr7 rfl rfl rfl rfl) (.q rfl rfl rfl (.q rfl rfl rfl (.q rfl rfl rfl (.q rfl rfl rfl (.q rfl rfl rfl (.nil))))))))))))))))) rfl (.o 5 rfl (.g [(1000000,1000000),(1000001,1000001)] [] (q21 (u17_11 (u17_4 (u17_3 (u17_2 (u17_1 (u17_0 s3.2.2 (⟨(⟨s3.2.2.t.Air.X,s3.2.2.t.Air.Y,s3.2.2.t.Air.Z⟩:SMap),(⟨s3.2.2.t.Spark.X,s3.2.2.t.Spark.Y,s3.2.2.t.Spark.Z⟩:SMap),(⟨s3.2.2.t.Torque.X,s3.2.2.t.Torque.Y,s3.2.2.t.Torque.Z⟩:SMap),(⟨s3.2.2.t.Wish.X,s3.2.2.t.Wish.Y,s3.2.2.t.Wish.Z⟩:SMap),(⟨s3.2.2.t.AirTemp.X,s3.2.2.t.AirTemp.Y⟩:SCurve),(⟨s3.2.2.t.Dwell.X,s3.2.2.t.Dwell.Y⟩:SCurve),(⟨s3.2.2.t.Dead.X,s3.2.2.t.Dead.Y⟩:SCurve),(⟨s3.2.2.t.Efficiency.X,s3.2.2.t.Efficiency.Y⟩:SCurve),(⟨s3.2.2.t.Idle.P,s3.2.2.t.Idle.I,s3.2.2.t.Idle.Low,s3.2.2.t.Idle.High⟩:SGain)⟩:STables)) (⟨s3.2.2.e.Order,s3.2.2.e.First⟩:SEngine)) (⟨s3.2.2.b.Inertia,s3.2.2.b.Friction,s3.2.2.b.Volume,s3.2.2.b.Throttle,s3.2.2.b.Film,s3.2.2.b.Evaporate,s3.2.2.b.Delay⟩:SBody)) (⟨(⟨s3.2.2.c.Pedal.Value,s3.2.2.c.Pedal.Differ,s3.2.2.c.Pedal.Fault⟩:SPedal),(⟨s3.2.2.c.Idle.Sum⟩:SIntegral),s3.2.2.c.Knock,(⟨s3.2.2.c.Probe.Active,s3.2.2.c.Probe.Rich,s3.2.2.c.Probe.Factor,s3.2.2.c.Probe.Wait,s3.2.2.c.Probe.Cells⟩:SProbe),s3.2.1,(⟨s3.2.2.c.Grant.Torque,s3.2.2.c.Grant.Source⟩:SGrant)⟩:SControls)) (⟨s3.2.2.i.Pedal1,s3.2.2.i.Pedal2,s3.2.2.i.Speed,s3.2.2.i.Pressure,s3.2.2.i.AirTemp,s3.2.2.i.Voltage,s3.2.2.i.Lambda,s3.2.2.i.Coolant,s3.2.2.i.Intensity,s3.2.2.i.Requests⟩:SInputs)) (⟨s3.2.2.out.Throttle,s3.2.2.out.Fires,s3.2.2.out.Torque⟩:SOutputs)) r7.2) rfl rfl rfl (fun _=>rfl) (fun _=>rfl) fun v5 hv5=>.o 4 rfl (.k (q31 r7.1 200 20000) rfl fun v6=>.l 4 rfl ⟨.inr rfl,⟨[(1000000,1000000),(1000001,1000001)],_,_,rfl,rfl,rfl,rfl,rfl⟩⟩))))
 ·exact TieS.l 1 rfl ⟨.inr rfl,⟨[(1000000,1000000),(1000001,1000001)],_,_,rfl,rfl,rfl,rfl,rfl⟩⟩
theorem q733 (k:SKnock):TieF Tryz.prog 121 [q258 k] (q328 k) (fun r=>NB r):=by
 refine TieF.i htab 6 [.tmp 2] Tryz.call121 Tryz.func121 rfl rfl rfl rfl fun w0 L=>?_
 exact TieS.o 8 rfl (.k (q550 k) rfl fun v=>.r 3 rfl (rt rfl))
theorem q731 (n2:Int):TieF Tryz.prog 123 [NI n2] (q383 n2) (fun r=>NB r):=by
 refine TieF.i htab 6 [.tmp 2] Tryz.call123 Tryz.func123 rfl rfl rfl rfl fun w0 L=>?_
 exact TieS.o 7 rfl (.k (q444 n2) rfl fun v=>.r 3 rfl (rt rfl))
theorem q536 (s:List SKnock):TieG Tryz.prog 125 [NS q15 s] [] (q334 s) (fun _=>.own 900000) (fun r=>[(900000,.rs 95 3 r q15)]):=by
 refine TieG.i htab 8 [.tmp 2] Tryz.call125 Tryz.func125 rfl rfl rfl rfl fun w0 L=>?_
 refine TieS.o 8 rfl (.isNil rfl rfl rfl rfl rfl rfl fun b2 hb2=>.s 1 rfl (.condB rfl (fun hb1=>?_) (fun _=>?_)))
 ·exact TieX.model (m':=some ([]:List SKnock)) (by rw [hb2 hb1]; rfl) (TieS.s 4 rfl (TieX.nilP 2 70000 95 3 [] rfl rfl rfl rfl rfl (TieS.ret (rt (⟨[(70000,900000)],_,_,rfl,rfl,rfl,rfl,rfl⟩)))))
 ·exact TieS.o 5 rfl (.appendY (id:=5) (e':=0) (l:=([]:List SKnock)) (r:=s) (tm':=[(0,NS q15 s),(2,.t (.v (.slice none 0 0))),(3,NS q15 s),(4,NB b2),(6,NS q15 s)]) (hp':=[]) rfl rfl rfl rfl rfl rfl rfl (fun _=>rfl) (fun _=>rfl) (.inl ⟨rfl,rfl⟩) (.inl rfl) (.of rfl rfl) rfl rfl rfl fun l=>.r 2 rfl (rt (⟨[(5,900000)],_,_,rfl,rfl,rfl,rfl,rfl⟩)))
theorem q602 (k:SKnock) (n2:Int):TieF Tryz.prog 126 [q258 k,NI n2] (q433 k n2) (fun r=>.tup [q258 r.1,NB r.2]):=by
 refine TieF.i htab 42 [.cell 4 95,.tmp 5] Tryz.call126 Tryz.func126 rfl rfl rfl rfl fun w0 L=>?_
 refine TieS.s 16 rfl (.cond rfl ?_ ?_)
 ·exact TieS.r 17 rfl (rt rfl)
 ·refine TieS.s 16 rfl (.bind (Q₁:=nrm fun t=>⟨[(1,NI n2),NP 2,NP 4],[(2,.box [NI t.1,NI k.Noise,NI t.2]),(4,.box [NI 0,NI 0,NI 0])]⟩) ?_ ?_)
  ·refine TieS.cond rfl ?_ ?_
   ·exact TieS.l 10 rfl (lf rfl rfl)
   ·exact TieS.l 1 rfl (lf rfl rfl)
  rintro s e σ' _ ⟨rfl,hs⟩
  exact TieX.sub hs (TieS.s 1 rfl (TieX.pre fun v hv=>TieS.dr 9 [(1,NI n2),NP 2,NP 4] [(2,.box [NI s.1,NI k.Noise,NI s.2]),(4,.box [NI 0,NI 0,NI 0])] mixed (.of rfl rfl) (.q rfl rfl rfl (.q rfl rfl rfl (.q rfl rfl rfl (.q rfl rfl rfl (.q rfl rfl rfl (.q rfl rfl rfl (.cons (.callV (q338 (w64 (n2 - k.Noise)) 8) hv rfl rfl rfl rfl) (.q rfl rfl rfl (.q rfl rfl rfl (.nil)))))))))) rfl (.r 8 rfl (rt rfl))))
theorem q759 (l:List SKnock) (intensities:List Int):TieF Tryz.prog 33 [NS q15 l,NL intensities] (q547 l intensities) (fun r=>.tup [NS q15 r.1,NI r.2]):=by
 refine TieF.i htab 53 [.tmp 4,.tmp 5] Tryz.call33 Tryz.func33 rfl rfl rfl rfl fun w0 L=>?_
 refine TieS.o 12 rfl (.selOr (v:=decide ((l.length:Int) > 8)) 4 11 (fun b=>⟨[(0,NS q15 l),(1,NL intensities),(15,NB b)],[]⟩) rfl ?_ ?_ ?_)
 ·exact TieO.l 5 rfl (lf rfl rfl)
 ·exact TieO.l 5 rfl (lf rfl rfl)
 refine TieO.o 1 rfl (.selOr (v:=((intensities.length:Int) != (l.length:Int))) 6 16 (fun b=>⟨[(0,NS q15 l),(1,NL intensities),(22,NB b)],[]⟩) rfl ?_ ?_ ?_)
 ·exact TieO.l 7 rfl (lf rfl rfl)
 ·exact TieO.l 7 rfl (lf rfl rfl)
 refine TieO.o 1 rfl (.bind 3 (fun b2=>⟨[(0,NS q15 l),(1,NL intensities),(26,NB b2)],[]⟩) (TieO.split 23 rfl ?_ ?_) fun b2 _=>?_)
 ·exact TieO.l 4 rfl (lf rfl rfl)
 ·exact TieO.o 1 rfl (.k (q253 l 121 [] q328 q733) rfl fun v=>.l 2 rfl (lf rfl rfl))
 refine TieO.s 1 rfl (.cond rfl ?_ ?_)
 ·exact TieS.r 5 rfl (rt rfl)
 ·refine TieS.o 5 rfl (.k (q28 intensities 123 [] q383 q731) rfl fun v2=>.s 1 rfl (.cond rfl ?_ ?_))
  ·exact TieS.r 5 rfl (rt rfl)
  ·refine TieS.o 4 rfl (.g [] [(900000,2240)] (q536 l) rfl rfl rfl (fun _=>rfl) (fun _=>rfl) fun v3 hv3=>.s 10 rfl (.loop (fun p=>⟨[(0,NS q15 l),(1,NL intensities),(6,.own 2240),(32,NI (v3.length:Int)),(33,NI p.1)],[(2240,.rs 95 3 p.2 q15)]⟩) (fun b e σ'=>match b with | .inl t=>e = .exit 0 ∧ Sub ⟨[(6,.own 2240)],[(2240,.rs 95 3 t q15)]⟩ σ' | .inr t=>False) (.of rfl rfl) ?_ ?_))
   ·rintro ⟨i,f2⟩
    refine TieS.s 5 rfl (.cond rfl ?_ ?_)
    ·refine TieS.s 2 rfl (TieX.sub (σ':=⟨[(0,NS q15 l),(1,NL intensities),(6,.own 2240),(32,NI (v3.length:Int)),(33,NI i)],[(2240,.rs 95 3 f2 q15)]⟩) (.of rfl rfl) (TieS.bind (Q₁:=fun f e σ'=>match f with | .next t=>e = .normal ∧ Sub ⟨[(0,NS q15 l),(1,NL intensities),(6,.own 2240),(32,NI (v3.length:Int)),(33,NI i)],[(2240,.rs 95 3 t q15)]⟩ σ' | .brk t=>e = .exit 0 ∧ Sub ⟨[(6,.own 2240)],[(2240,.rs 95 3 t q15)]⟩ σ' | .ret r=>False) ?_ ?_))
     ·refine TieS.s 6 rfl (.bind (Q₁:=nrm fun t=>⟨[(0,NS q15 l),(1,NL intensities),(6,.own 2240),(32,NI (v3.length:Int)),(33,NI i)],[(2240,.rs 95 3 t q15)]⟩) ?_ ?_)
      ·refine TieX.pre fun x hx=>TieX.pre fun x2 hx2=>TieX.pre fun r2 hr2=>TieX.pre fun x3 hx3=>TieX.pre fun l2 hl2=>TieS.draws 16 (bm 16 0) (bm 16 65535) ⟨[(0,NS q15 l),(1,NL intensities),(6,.own 2240),(32,NI (v3.length:Int)),(33,NI i)],[(2240,.rs 95 3 l2 q15)]⟩ mixed (fun _ _ _ h=>by cases h.1) rfl rfl rfl rfl ?_ ?_
       ·refine TieA.ga 10 [0,1,2,3,6,7] (by kernel_rfl) rfl (.all [4,8] (by kernel_rfl) rfl (AllA.cons (σ₁:=⟨[(0,NS q15 l),(1,NL intensities),(6,.own 2240),(32,NI (v3.length:Int)),(33,NI i),(37,.own 2240),(38,NI i),(41,.el (q15 x)),(43,NL intensities),(44,NI i)],[(2240,.rs 95 3 f2 q15)]⟩) _ rfl rfl ?_ ?_ ?_))
        ·exact TieO.indexH hx rfl rfl rfl rfl rfl rfl rfl rfl (fun _=>rfl) (.l 1 rfl (lf rfl rfl))
        ·exact TieA.ga 8 [5] (by kernel_rfl) rfl (.one 8 rfl (by kernel_rfl) (TieO.indexH hx2 rfl rfl rfl rfl rfl rfl rfl rfl (fun _=>rfl) (TieO.l 1 rfl ⟨rfl,rfl⟩)) (.ga 6 [9] (by kernel_rfl) rfl (.one 10 rfl (by kernel_rfl) (TieO.withH hr2 (TieO.k (q602 x x2) rfl (TieO.ifH (TieO.l 1 rfl ⟨rfl,rfl⟩)))) (.ga 2 [11,12,13] (by kernel_rfl) rfl (.idx 14 _ hx3 rfl rfl rfl rfl rfl rfl (by kernel_rfl) (by kernel_rfl) (by kernel_rfl) rfl rfl rfl rfl rfl rfl (.one 15 rfl (by kernel_rfl) (TieO.withH hl2 (TieO.storeY r2.1 [tI r2.1.Retard,tI r2.1.Noise,tI r2.1.Quiet] hx3 rfl rfl rfl rfl rfl rfl rfl rfl rfl rfl rfl rfl (TieO.ifG (TieO.l 1 rfl ⟨rfl,rfl⟩)))) (.done (.of rfl rfl))))))))
        refine AllA.cons (σ₁:=⟨[(0,NS q15 l),(1,NL intensities),(6,.own 2240),(32,NI (v3.length:Int)),(33,NI i),(37,.own 2240),(38,NI i),(39,NS q15 l),(40,NI i),(45,.el (Pv.encI x2))],[(2240,.rs 95 3 f2 q15)]⟩) _ rfl rfl ?_ ?_ ?_
        ·exact TieO.indexH hx2 rfl rfl rfl rfl rfl rfl rfl rfl (fun _=>rfl) (.l 1 rfl (lf rfl rfl))
        ·exact TieA.ga 8 [9] (by kernel_rfl) rfl (.one 4 rfl (by kernel_rfl) (TieO.indexH hx rfl rfl rfl rfl rfl rfl rfl rfl (fun _=>rfl) (TieO.l 1 rfl ⟨rfl,rfl⟩)) (.ga 6 [5] (by kernel_rfl) rfl (.one 10 rfl (by kernel_rfl) (TieO.withH hr2 (TieO.k (q602 x x2) rfl (TieO.ifH (TieO.l 1 rfl ⟨rfl,rfl⟩)))) (.ga 2 [11,12,13] (by kernel_rfl) rfl (.idx 14 _ hx3 rfl rfl rfl rfl rfl rfl (by kernel_rfl) (by kernel_rfl) (by kernel_rfl) rfl rfl rfl rfl rfl rfl (.one 15 rfl (by kernel_rfl) (TieO.withH hl2 (TieO.storeY r2.1 [tI r2.1.Retard,tI r2.1.Noise,tI r2.1.Quiet] hx3 rfl rfl rfl rfl rfl rfl rfl rfl rfl rfl rfl rfl (TieO.ifG (TieO.l 1 rfl ⟨rfl,rfl⟩)))) (.done (.of rfl rfl))))))))
        exact AllA.nil
       exact TieO.l 1 rfl (lf rfl rfl)
      rintro f3 e σ' _ ⟨rfl,hs⟩
      exact TieX.sub hs (TieS.l 1 rfl (lf rfl rfl))
     rintro (t | t | r) e σ' _ hq
     ·obtain ⟨rfl,hs⟩:=hq
      exact TieX.sub hs (TieS.l 4 rfl (lf rfl rfl))
     ·obtain ⟨rfl,hs⟩:=hq
      exact TieX.exitOut rfl ⟨(fun h=>by cases h),rfl,hs⟩
     ·exact hq.elim
    ·exact TieS.exitOut rfl ⟨(fun h=>by cases h),rfl,.of rfl rfl⟩
   rintro (f4 | r) e σ' _ hq
   ·obtain ⟨rfl,hs⟩:=hq
    refine TieX.exit rfl (TieX.sub hs ?_)
    exact TieS.r 6 rfl (rt rfl)
   ·exact hq.elim
theorem q670 (a:Int) (b2:Int):TieF Tryz.prog 285 [NI a,NI b2] (q399 a b2) (fun r=>NI r):=by
 refine TieF.i htab 8 [.tmp 4] Tryz.call285 Tryz.func285 rfl rfl rfl rfl fun w0 L=>?_
 exact TieS.r 11 rfl (rt rfl)
theorem q712 (l:List Int):TieF Tryz.prog 261 [NL l] (q461 l) (fun r=>NB r):=by
 refine TieF.i htab 5 [.tmp 2] Tryz.call261 Tryz.func261 rfl rfl rfl rfl fun w0 L=>?_
 exact TieS.o 7 rfl (.k (q290 l 285 [] q399 q670) rfl fun v=>.r 2 rfl (rt rfl))
theorem q95 (x:Int) (low:Int) (high:Int):TieF Tryz.prog 238 [NI x,NI low,NI high] (q115 x low high) (fun r=>NB r):=by
 refine TieF.i htab 15 [.tmp 6] Tryz.call238 Tryz.func238 rfl rfl rfl rfl fun w0 L=>?_
 refine TieS.o 10 rfl (.selAnd (v:=decide (x ≤ high)) 4 10 (fun b=>⟨[(14,NB b)],[]⟩) rfl ?_ ?_ ?_)
 ·exact TieO.l 5 rfl (lf rfl rfl)
 ·exact TieO.l 5 rfl (lf rfl rfl)
 exact TieO.r 2 rfl (rt rfl)
theorem q636 (x:Int) (c:Int) (c2:Int):TieF Tryz.prog 286 [NI x,.el (Pv.encI c),.el (Pv.encI c2)] (q340 x c c2) (fun r=>NB r):=by
 refine TieF.i htab 10 [.tmp 4] Tryz.call286 Tryz.func286 rfl rfl rfl rfl fun w0 L=>?_
 exact TieS.o 9 rfl (.k (q95 x c c2) rfl fun v=>.r 3 rfl (rt rfl))
theorem q375 (l:List Int) (low:Int) (high:Int):TieF Tryz.prog 263 [NL l,NI low,NI high] (q218 l low high) (fun r=>NB r):=by
 refine TieF.i htab 10 [.tmp 6] Tryz.call263 Tryz.func263 rfl rfl rfl rfl fun w0 L=>?_
 exact TieS.o 9 rfl (.frzBox 4 rfl rfl (.frzBox 5 rfl rfl (.o 1 rfl (.sub (σ':=⟨[(0,NL l),(1,NI low),(2,NI high),(4,.el (Pv.encI low)),(5,.el (Pv.encI high)),(6,NB false),(7,NL l),(8,.fz 286 [Pv.encI low,Pv.encI high])],[]⟩) (.of rfl rfl) (.k (q28 l 286 [Pv.encI low,Pv.encI high] (fun x0=>q340 x0 low high) (fun x0=>q636 x0 low high)) rfl fun v=>.r 2 rfl (rt rfl))))))
theorem q677 (l:List Int):TieF Tryz.prog 262 [NL l] (q323 l) (fun r=>NB r):=by
 refine TieF.i htab 5 [.tmp 2] Tryz.call262 Tryz.func262 rfl rfl rfl rfl fun w0 L=>?_
 exact TieS.o 7 rfl (.k (q375 l (-1280) 3840) rfl fun v=>.r 2 rfl (rt rfl))
theorem q549 (t2:STables):TieF Tryz.prog 237 [q20 t2] (q396 t2) (fun r=>NB r):=by
 refine TieF.i htab 45 [.tmp 2] Tryz.call237 Tryz.func237 rfl rfl rfl rfl fun w0 L=>?_
 refine TieS.o 10 rfl (.k (q84 t2.Spark) rfl fun v=>.o 2 rfl (.bind 5 (fun b2=>⟨[NP 1,(12,NB b2)],[(1,.box (q12 t2))]⟩) (TieO.split 7 rfl ?_ ?_) fun b2 _=>?_))
 ·exact TieO.l 6 rfl (lf rfl rfl)
 ·exact TieO.o 2 rfl (.k (q87 t2.Dwell) rfl fun v2=>.l 3 rfl (lf rfl rfl))
 refine TieO.o 1 rfl (.bind 5 (fun b3=>⟨[NP 1,(18,NB b3)],[(1,.box (q12 t2))]⟩) (TieO.split 13 rfl ?_ ?_) fun b3 _=>?_)
 ·exact TieO.l 6 rfl (lf rfl rfl)
 ·exact TieO.o 2 rfl (.k (q87 t2.Efficiency) rfl fun v3=>.l 3 rfl (lf rfl rfl))
 refine TieO.o 1 rfl (.bind 6 (fun b4=>⟨[NP 1,(25,NB b4)],[(1,.box (q12 t2))]⟩) (TieO.split 19 rfl ?_ ?_) fun b4 _=>?_)
 ·exact TieO.l 7 rfl (lf rfl rfl)
 ·exact TieO.o 3 rfl (.k (q712 t2.Efficiency.Y) rfl fun v4=>.l 3 rfl (lf rfl rfl))
 refine TieO.s 1 rfl (.cond rfl ?_ ?_)
 ·exact TieS.r 4 rfl (rt rfl)
 ·refine TieS.o 6 rfl (.k (q125 t2.Spark.Z 262 [] q323 q677) rfl fun v5=>.o 2 rfl (.bind 6 (fun b5=>⟨[NP 1,(37,NB b5)],[(1,.box (q12 t2))]⟩) (TieO.split 31 rfl ?_ ?_) fun b5 _=>?_))
  ·exact TieO.o 3 rfl (.k (q375 t2.Dwell.Y 500 10000) rfl fun v6=>.l 3 rfl (lf rfl rfl))
  ·exact TieO.l 7 rfl (lf rfl rfl)
  refine TieO.o 1 rfl (.bind 6 (fun b6=>⟨[(44,NB b6)],[]⟩) (TieO.split 38 rfl ?_ ?_) fun b6 _=>?_)
  ·exact TieO.o 3 rfl (.k (q375 t2.Efficiency.Y 0 1000) rfl fun v7=>.l 3 rfl (lf rfl rfl))
  ·exact TieO.l 7 rfl (lf rfl rfl)
  exact TieO.r 2 rfl (rt rfl)
theorem q711 (t2:STables) (millivolts:Int) (ticks:Int):TieF Tryz.prog 176 [q20 t2,NI millivolts,NI ticks] (q464 t2 millivolts ticks) (fun r=>.tup [NI r.1,NI r.2]):=by
 refine TieF.i htab 29 [.tmp 6,.tmp 7] Tryz.call176 Tryz.func176 rfl rfl rfl rfl fun w0 L=>?_
 refine TieS.o 11 rfl (.k (q549 t2) rfl fun v=>.s 3 rfl (.cond rfl ?_ ?_))
 ·exact TieS.r 5 rfl (rt rfl)
 ·refine TieS.o 3 rfl (.k (q95 millivolts 0 20000) rfl fun v2=>.o 2 rfl (.bind 4 (fun b2=>⟨[(1,NI millivolts),(2,NI ticks),NP 3,(20,NB b2)],[(3,.box (q12 t2))]⟩) (TieO.split 16 rfl ?_ ?_) fun b2 _=>?_))
  ·exact TieO.l 5 rfl (lf rfl rfl)
  ·exact TieO.o 1 rfl (.k (q95 ticks 4000 1000000) rfl fun v3=>.l 3 rfl (lf rfl rfl))
  refine TieO.s 2 rfl (.cond rfl ?_ ?_)
  ·exact TieS.r 5 rfl (rt rfl)
  ·exact TieS.o 7 rfl (.k (q431 t2.Dwell millivolts) rfl fun v4=>.r 7 rfl (rt rfl))
theorem q735 (t2:STables) (speed:Int) (charge:Int):TieF Tryz.prog 239 [q20 t2,NI speed,NI charge] (q503 t2 speed charge) (fun r=>.tup [NI r.1,NI r.2]):=by
 refine TieF.i htab 26 [.tmp 6,.tmp 7] Tryz.call239 Tryz.func239 rfl rfl rfl rfl fun w0 L=>?_
 refine TieS.o 11 rfl (.k (q549 t2) rfl fun v=>.s 3 rfl (.cond rfl ?_ ?_))
 ·exact TieS.r 5 rfl (rt rfl)
 ·refine TieS.o 3 rfl (.k (q95 speed 0 12000) rfl fun v2=>.o 2 rfl (.bind 4 (fun b2=>⟨[(1,NI speed),(2,NI charge),NP 3,(20,NB b2)],[(3,.box (q12 t2))]⟩) (TieO.split 16 rfl ?_ ?_) fun b2 _=>?_))
  ·exact TieO.l 5 rfl (lf rfl rfl)
  ·exact TieO.o 1 rfl (.k (q95 charge 0 1048576) rfl fun v3=>.l 3 rfl (lf rfl rfl))
  refine TieO.s 2 rfl (.cond rfl ?_ ?_)
  ·exact TieS.r 5 rfl (rt rfl)
  ·exact TieS.o 8 rfl (.k (q305 t2.Spark speed charge) rfl fun v4=>.r 3 rfl (rt rfl))
theorem q722 (t2:STables) (speed:Int) (charge:Int) (coolant:Int) (retard:Int):TieF Tryz.prog 177 [q20 t2,NI speed,NI charge,NI coolant,NI retard] (q463 t2 speed charge coolant retard) (fun r=>.tup [NI r.1,NI r.2]):=by
 refine TieF.i htab 54 [.tmp 10,.tmp 11] Tryz.call177 Tryz.func177 rfl rfl rfl rfl fun w0 L=>?_
 refine TieS.o 11 rfl (.k (q735 t2 speed charge) rfl fun r2=>.s 14 rfl (.cond rfl ?_ ?_))
 ·exact TieS.r 6 rfl (rt rfl)
 ·refine TieS.o 3 rfl (.k (q95 coolant (-40) 150) rfl fun v=>.o 2 rfl (.bind 4 (fun b2=>⟨[(3,NI coolant),(4,NI retard),(12,NI r2.1),(33,NB b2)],[]⟩) (TieO.split 29 rfl ?_ ?_) fun b2 _=>?_))
  ·exact TieO.l 5 rfl (lf rfl rfl)
  ·exact TieO.o 1 rfl (.k (q95 retard 0 1280) rfl fun v2=>.l 3 rfl (lf rfl rfl))
  refine TieO.s 2 rfl (.cond rfl ?_ ?_)
  ·exact TieS.r 5 rfl (rt rfl)
  ·refine TieS.s 10 rfl (.cond rfl ?_ ?_)
   ·exact TieS.o 14 rfl (.k (q31 (w64 ((w64 (r2.1 + (w64 (2 * (w64 (20 - coolant)))))) - retard)) (-1280) 3840) rfl fun v3=>.r 3 rfl (rt rfl))
   ·refine TieS.s 6 rfl (.cond rfl ?_ ?_)
    ·exact TieS.o 14 rfl (.k (q31 (w64 ((w64 (r2.1 - (w64 (8 * (w64 (coolant - 100)))))) - retard)) (-1280) 3840) rfl fun v4=>.r 3 rfl (rt rfl))
    ·exact TieS.o 7 rfl (.k (q31 (w64 (r2.1 - retard)) (-1280) 3840) rfl fun v5=>.r 3 rfl (rt rfl))
theorem q577 (s:Scontrol_step):TieG Tryz.prog 86 [.ptr 1000000 0] [(1000000,.box (lset (q13 s) [(63,.own 1000001)])),(1000001,.rs 79 7 s.out.Fires q16)] (q252 s) (fun _=>.tup []) (fun r=>[(900000,.rs 79 7 r.out.Fires q16),(1000000,.box (lset (q13 r) [(63,.own 900000)]))]):=by
 refine TieG.i htab 140 [] Tryz.call86 Tryz.func86 rfl rfl rfl rfl fun w0 L=>?_
 refine TieS.s 5 rfl (.bind (Q₁:=nrm fun t=>⟨[(0,.ptr 1000000 0),(2,NI t.1)],[(1000000,.box (lset (q13 (u17_3 s (u11_2 s.c t.2))) [(63,.own 1000001)])),(1000001,.rs 79 7 s.out.Fires q16)]⟩) ?_ ?_)
 ·refine TieX.pre fun r2 hr2=>TieS.draws 19 (bm 20 0) (bm 20 524287) ⟨[(0,.ptr 1000000 0),(2,NI 0),(23,NI r2.2)],[(1000000,.box (lset (q13 (u17_3 s (u11_2 s.c r2.1))) [(63,.own 1000001)])),(1000001,.rs 79 7 s.out.Fires q16)]⟩ mixed (fun _ _ _ h=>by cases h.1) rfl rfl rfl rfl ?_ ?_
  ·exact TieA.ga 9 [0,1,2,3,4,6,7,8,9,5,10] (by kernel_rfl) rfl (.one 11 rfl (by kernel_rfl) (TieO.withH hr2 (TieO.k (q759 s.c.Knock s.i.Intensity) rfl (TieO.ifH (TieO.l 1 rfl ⟨rfl,rfl⟩)))) (.ga 2 [12,13,14,15,16,17] (by kernel_rfl) rfl (.oneR 18 rfl (by kernel_rfl) rfl (.done (.of rfl rfl)))))
  exact TieO.l 2 rfl (lf rfl rfl)
 rintro s2 e σ' _ ⟨rfl,hs⟩
 refine TieX.sub hs (TieS.o 4 rfl (.g [(1000000,1000000),(1000001,1000001)] [] (q21 (u17_3 s (u11_2 s.c s2.2)) s2.1) rfl rfl rfl (fun _=>rfl) (fun _=>rfl) fun v hv=>.o 9 rfl (.quo rfl rfl rfl rfl rfl rfl fun q=>.k (q31 q 4000 1000000) rfl fun v2=>.s 3 rfl (TieX.pre fun r3 hr3=>TieS.dr 16 [(0,.ptr 1000000 0),(3,NI v2)] [(1000000,.box (lset (q13 v) [(63,.own 1000001)])),(1000001,.rs 79 7 v.out.Fires q16)] mixed (.of rfl rfl) (.q rfl rfl rfl (.q rfl rfl rfl (.q rfl rfl rfl (.q rfl rfl rfl (.q rfl rfl rfl (.q rfl rfl rfl (.q rfl rfl rfl (.q rfl rfl rfl (.q rfl rfl rfl (.q rfl rfl rfl (.cons (.callV (q711 v.t v.i.Voltage v2) hr3 rfl rfl rfl rfl) (.q rfl rfl rfl (.q rfl rfl rfl (.q rfl rfl rfl (.q rfl rfl rfl (.q rfl rfl rfl (.nil))))))))))))))))) rfl (.o 5 rfl (.g [(1000000,1000000),(1000001,1000001)] [] (q21 v r3.2) rfl rfl rfl (fun _=>rfl) (fun _=>rfl) fun v3 hv3=>.s 10 rfl (.cond rfl ?_ ?_)))))))
 ·exact TieS.ret (rt (⟨[(1000000,1000000),(1000001,900000)],_,_,rfl,rfl,rfl,rfl,rfl⟩))
 ·refine TieS.s 12 rfl (TieX.sub (σ':=⟨[(0,.ptr 1000000 0),(4,NI r3.1),(65,NI (v3.e.Order.length:Int)),(66,NI 0)],[(1000000,.box (lset (q13 v3) [(63,.own 1000001)])),(1000001,.rs 79 7 v3.out.Fires q16)]⟩) (.of rfl rfl) (TieX.ren [(1000000,1000000),(1000001,3080)] rfl rfl rfl (TieS.loop (fun p=>⟨[(0,.ptr 1000000 0),(4,NI r3.1),(65,NI (v3.e.Order.length:Int)),(66,NI p.1)],[(3080,.rs 79 7 p.2.out.Fires q16),(1000000,.box (lset (q13 p.2) [(63,.own 3080)]))]⟩) (fun b e σ'=>match b with | .inl t=>e = .exit 0 ∧ Sub ⟨[],[(3080,.rs 79 7 t.out.Fires q16),(1000000,.box (lset (q13 t) [(63,.own 3080)]))]⟩ σ' | .inr t=>False) (.of rfl rfl) ?_ ?_)))
  ·rintro ⟨i,f2⟩
   refine TieS.s 5 rfl (.cond rfl ?_ ?_)
   ·refine TieS.s 2 rfl (TieX.sub (σ':=⟨[(0,.ptr 1000000 0),(4,NI r3.1),(65,NI (v3.e.Order.length:Int)),(66,NI i)],[(3080,.rs 79 7 f2.out.Fires q16),(1000000,.box (lset (q13 f2) [(63,.own 3080)]))]⟩) (.of rfl rfl) (TieS.bind (Q₁:=fun f e σ'=>match f with | .next t=>e = .normal ∧ Sub ⟨[(0,.ptr 1000000 0),(4,NI r3.1),(65,NI (v3.e.Order.length:Int)),(66,NI i)],[(3080,.rs 79 7 t.out.Fires q16),(1000000,.box (lset (q13 t) [(63,.own 3080)]))]⟩ σ' | .brk t=>e = .exit 0 ∧ Sub ⟨[],[(3080,.rs 79 7 t.out.Fires q16),(1000000,.box (lset (q13 t) [(63,.own 3080)]))]⟩ σ' | .ret r=>False) ?_ ?_))
    ·refine TieS.s 7 rfl (TieX.pre fun x hx=>TieX.pre fun r4 hr4=>TieS.dr 33 [(0,.ptr 1000000 0),(4,NI r3.1),(5,NI i),(65,NI (v3.e.Order.length:Int)),(66,NI i)] [(3080,.rs 79 7 f2.out.Fires q16),(1000000,.box (lset (q13 f2) [(63,.own 3080)]))] mixed (.of rfl rfl) (.q rfl rfl rfl (.q rfl rfl rfl (.q rfl rfl rfl (.q rfl rfl rfl (.q rfl rfl rfl (.q rfl rfl rfl (.q rfl rfl rfl (.q rfl rfl rfl (.q rfl rfl rfl (.q rfl rfl rfl (.q rfl rfl rfl (.q rfl rfl rfl (.q rfl rfl rfl (.q rfl rfl rfl (.q rfl rfl rfl (.q rfl rfl rfl (.q rfl rfl rfl (.q rfl rfl rfl (.q rfl rfl rfl (.q rfl rfl rfl (.q rfl rfl rfl (.q rfl rfl rfl (.q rfl rfl rfl (.q rfl rfl rfl (.cons (.index hx rfl rfl rfl rfl rfl rfl (fun _=>rfl)) (.q rfl rfl rfl (.q rfl rfl rfl (.cons (.callV (q722 f2.t f2.i.Speed f2.charge f2.i.Coolant x.Retard) hr4 rfl rfl rfl rfl) (.q rfl rfl rfl (.q rfl rfl rfl (.q rfl rfl rfl (.q rfl rfl rfl (.q rfl rfl rfl (.nil)))))))))))))))))))))))))))))))))) rfl (.o 5 rfl (.g [(1000000,1000000),(1000001,3080)] [] (q21 f2 r4.2) rfl rfl rfl (fun _=>rfl) (fun _=>rfl) fun v4 hv4=>.o 26 rfl (.index rfl rfl rfl rfl rfl rfl rfl rfl (fun _=>rfl) fun x2 hx2=>.s 2 rfl (.bind (Q₁:=nrm fun t=>⟨[(0,.ptr 1000000 0),(4,NI r3.1),NP 8,(65,NI (v3.e.Order.length:Int)),(66,NI i)],[(8,.box [NI (w64 (i + 1)),NI (maxI (-1280) (w64 (r4.1 - v4.late))),NI (maxI 500 r3.1),NI 5760,NI t,NI 0,NI 0]),(3080,.rs 79 7 v4.out.Fires q16),(1000000,.box (lset (q13 v4) [(63,.own 3080)]))]⟩) ?_ ?_)))))
     ·refine TieS.cond rfl ?_ ?_
      ·exact TieS.l 8 rfl (lf rfl rfl)
      ·exact TieS.l 1 rfl (lf rfl rfl)
     rintro f3 e σ' _ ⟨rfl,hs⟩
     refine TieX.sub hs (TieS.bind (Q₁:=nrm fun t=>⟨[(0,.ptr 1000000 0),(4,NI r3.1),(65,NI (v3.e.Order.length:Int)),(66,NI i)],[(3080,.rs 79 7 t q16),(1000000,.box (lset (q13 v4) [(63,.own 3080)]))]⟩) ?_ ?_)
     ·refine TieX.pre fun l hl=>TieS.draws 9 (bm 13 0) (bm 13 511) ⟨[(0,.ptr 1000000 0),(4,NI r3.1),(65,NI (v3.e.Order.length:Int)),(66,NI i),(127,.ptr 1000000 0),(135,.own 3080)],[(8,.box [NI (w64 (i + 1)),NI (maxI (-1280) (w64 (r4.1 - v4.late))),NI (maxI 500 r3.1),NI 5760,NI f3,NI 0,NI 0]),(134,.rs 79 7 ([(⟨w64 (i + 1),maxI (-1280) (w64 (r4.1 - v4.late)),maxI 500 r3.1,5760,f3,0,0⟩:SFire)]:List SFire) q16),(3080,.rs 79 7 l q16),(1000000,.box (lset (q13 v4) [(63,.any)]))]⟩ mixed (fun _ _ _ h=>by cases h.1) rfl rfl rfl rfl ?_ ?_
      ·refine TieA.ga 7 [0,1,2,3,4,6] (by kernel_rfl) rfl (.all [5,7] (by kernel_rfl) rfl (AllA.run _ rfl rfl rfl ?_ ?_))
       ·exact TieA.oneR 7 rfl (by kernel_rfl) rfl (.one 8 rfl (by kernel_rfl) (TieO.withH hl (TieO.appendY (id:=3080) (l:=v4.out.Fires) (r:=([(⟨w64 (i + 1),maxI (-1280) (w64 (r4.1 - v4.late)),maxI 500 r3.1,5760,f3,0,0⟩:SFire)]:List SFire)) (tm':=[(0,.ptr 1000000 0),(4,NI r3.1),(65,NI (v3.e.Order.length:Int)),(66,NI i),(127,.ptr 1000000 0),(133,.agg [NI (w64 (i + 1)),NI (maxI (-1280) (w64 (r4.1 - v4.late))),NI (maxI 500 r3.1),NI 5760,NI f3,NI 0,NI 0]),(134,.own 134)]) (hp':=[(8,.box [NI (w64 (i + 1)),NI (maxI (-1280) (w64 (r4.1 - v4.late))),NI (maxI 500 r3.1),NI 5760,NI f3,NI 0,NI 0]),(134,.rs 79 7 ([(⟨w64 (i + 1),maxI (-1280) (w64 (r4.1 - v4.late)),maxI 500 r3.1,5760,f3,0,0⟩:SFire)]:List SFire) q16),(1000000,.box (lset (q13 v4) [(63,.any)]))]) rfl rfl rfl rfl rfl rfl rfl (fun _=>rfl) (fun _=>rfl) (.inl ⟨rfl,rfl⟩) (.inr ⟨_,rfl,rfl⟩) (.of rfl rfl) rfl rfl rfl (TieO.ifH (TieO.l 1 rfl ⟨rfl,rfl⟩)))) (.done (.of rfl rfl)))
       refine AllA.run _ rfl rfl rfl ?_ ?_
       ·exact TieA.ga 5 [5] (by kernel_rfl) rfl (.one 8 rfl (by kernel_rfl) (TieO.withH hl (TieO.appendY (id:=3080) (l:=v4.out.Fires) (r:=([(⟨w64 (i + 1),maxI (-1280) (w64 (r4.1 - v4.late)),maxI 500 r3.1,5760,f3,0,0⟩:SFire)]:List SFire)) (tm':=[(0,.ptr 1000000 0),(4,NI r3.1),(65,NI (v3.e.Order.length:Int)),(66,NI i),(127,.ptr 1000000 0),(131,.ptr 1000000 63),(134,.own 134)]) (hp':=[(8,.box [NI (w64 (i + 1)),NI (maxI (-1280) (w64 (r4.1 - v4.late))),NI (maxI 500 r3.1),NI 5760,NI f3,NI 0,NI 0]),(134,.rs 79 7 ([(⟨w64 (i + 1),maxI (-1280) (w64 (r4.1 - v4.late)),maxI 500 r3.1,5760,f3,0,0⟩:SFire)]:List SFire) q16),(1000000,.box (lset (q13 v4) [(63,.any)]))]) rfl rfl rfl rfl rfl rfl rfl (fun _=>rfl) (fun _=>rfl) (.inl ⟨rfl,rfl⟩) (.inr ⟨_,rfl,rfl⟩) (.of rfl rfl) rfl rfl rfl (TieO.ifH (TieO.l 1 rfl ⟨rfl,rfl⟩)))) (.done (.of rfl rfl)))
       exact AllA.nil
      exact TieO.l 5 rfl (lf rfl rfl)
     rintro f4 e σ' _ ⟨rfl,hs⟩
     exact TieX.sub hs (TieS.l 1 rfl (lf rfl rfl))
    rintro (t | t | r) e σ' _ hq
    ·obtain ⟨rfl,hs⟩:=hq
     exact TieX.sub hs (TieS.l 4 rfl (lf rfl rfl))
    ·obtain ⟨rfl,hs⟩:=hq
     exact TieX.exitOut rfl ⟨(fun h=>by cases h),rfl,hs⟩
    ·exact hq.elim
   ·exact TieS.exitOut rfl ⟨(fun h=>by cases h),rfl,.of rfl rfl⟩
  rintro (f5 | r) e σ' _ hq
  ·obtain ⟨rfl,hs⟩:=hq
   refine TieX.exit rfl (TieX.sub hs ?_)
   exact TieS.leaf ⟨.inr rfl,⟨[(3080,900000),(1000000,1000000)],_,_,rfl,rfl,rfl,rfl,rfl⟩⟩
  ·exact hq.elim
abbrev x22_0:List T:=[NI 0,NI 0,NB false,NI 0,.t (.v (.slice none 0 0)),NB false,NB false,NI 0,NI 0,.t (.v (.slice none 0 0)),NI 0,NI 0,NI 0]
abbrev x22_1 (b2:SBody):List T:=[NI b2.Inertia,NI b2.Friction,NI b2.Volume,NI b2.Throttle,NI b2.Film,NI b2.Evaporate,NI b2.Delay]
theorem q687 (t2:STables) (e2:SEngine) (b2:SBody) (c:SControls) (i:SInputs):TieF Tryz.prog 22 [q20 t2,q190 e2,A_SBody b2,q77 c,q308 i] (q139 t2 e2 b2 c i) (fun r=>.tup [q77 r.1,q497 r.2.1,NI r.2.2]):=by
 refine TieF.i htab 76 [.cell 10 45,.cell 11 65,.tmp 12] Tryz.call22 Tryz.func22 rfl rfl rfl rfl fun w0 L=>?_
 refine TieS.o 16 rfl (.k (q673 t2) rfl fun v=>.o 2 rfl (.bind 4 (fun b3=>⟨[NP 5,NP 6,NP 7,NP 8,NP 9,NP 10,NP 11,(22,NB b3)],[(5,.box (q12 t2)),(6,.box [NL e2.Order,NI e2.First]),(7,.box (x22_1 b2)),(8,.box (q11 c)),(9,.box (q14 i)),(10,.box x22_0),(11,.box [NI 0,.t (.v (.slice none 0 0)),NI 0])]⟩) (TieO.split 18 rfl ?_ ?_) fun b3 _=>?_))
 ·exact TieO.l 5 rfl (lf rfl rfl)
 ·exact TieO.o 1 rfl (.k (q540 b2) rfl fun v2=>.l 3 rfl (lf rfl rfl))
 refine TieO.o 1 rfl (.bind 5 (fun b4=>⟨[NP 5,NP 6,NP 7,NP 8,NP 9,NP 10,NP 11,(28,NB b4)],[(5,.box (q12 t2)),(6,.box [NL e2.Order,NI e2.First]),(7,.box (x22_1 b2)),(8,.box (q11 c)),(9,.box (q14 i)),(10,.box x22_0),(11,.box [NI 0,.t (.v (.slice none 0 0)),NI 0])]⟩) (TieO.split 23 rfl ?_ ?_) fun b4 _=>?_)
 ·exact TieO.l 6 rfl (lf rfl rfl)
 ·exact TieO.o 2 rfl (.k (q412 e2 c) rfl fun v3=>.l 3 rfl (lf rfl rfl))
 refine TieO.s 2 rfl (.cond rfl ?_ ?_)
 ·exact TieS.r 8 rfl (rt rfl)
 ·refine TieS.o 6 rfl (.k (q674 i (e2.Order.length:Int)) rfl fun v4=>.s 3 rfl (.cond rfl ?_ ?_))
  ·exact TieS.r 8 rfl (rt rfl)
  ·refine TieS.o 16 rfl (.nilB 46 2388 79 7 [63] rfl rfl rfl rfl rfl (.g [(1000000,46),(1000001,2388)] [] (q532 (⟨t2,e2,b2,c,i,0,0,0,0,([]:List Bool),0,(⟨0,([]:List SFire),0⟩:SOutputs),0⟩:Scontrol_step)) rfl rfl rfl (fun _=>rfl) (fun _=>rfl) fun v5 hv5=>.o 4 rfl (.g [(1000000,46),(1000001,2388)] [] (q496 v5) rfl rfl rfl (fun _=>rfl) (fun _=>rfl) fun v6 hv6=>.o 4 rfl (.g [(1000000,46),(1000001,2388)] [] (q551 v6) rfl rfl rfl (fun _=>rfl) (fun _=>rfl) fun v7 hv7=>.o 4 rfl (.g [(1000000,46),(1000001,2388)] [] (q599 v7) rfl rfl rfl (fun _=>rfl) (fun _=>rfl) fun v8 hv8=>.o 4 rfl (.g [(1000000,46),(1000001,2388)] [(900000,2448)] (q577 v8) rfl rfl rfl (fun _=>rfl) (fun _=>rfl) fun v9 hv9=>.s 10 rfl (.cond rfl ?_ ?_)))))))
   ·refine TieS.s 1 rfl (.bind (Q₁:=nrm fun t=>⟨[NP 10,NP 11,(12,NI t)],[(10,.box x22_0),(11,.box [NI 0,.t (.v (.slice none 0 0)),NI 0])]⟩) ?_ ?_)
    ·refine TieS.draws 8 (bm 9 0) (bm 9 255) ⟨[NP 10,NP 11,(67,NI v9.fail)],[(5,.box (q12 t2)),(6,.box [NL e2.Order,NI e2.First]),(7,.box (x22_1 b2)),(8,.box (q11 c)),(9,.box (q14 i)),(10,.box x22_0),(11,.box [NI 0,.t (.v (.slice none 0 0)),NI 0]),(46,.box (lset (q13 v9) [(63,.own 2448)])),(2448,.rs 79 7 v9.out.Fires q16)]⟩ mixed (fun _ _ _ h=>by cases h.1) rfl rfl rfl rfl ?_ ?_
     ·refine TieA.have_ (fuel₁:=3) (l₁:=(bm 9 63)) (σ₁:=⟨[NP 10,NP 11,(62,.agg [NI 0,NI 0,NB false,NI 0,.t (.v (.slice none 0 0)),NB false,NB false,NI 0,NI 0,.t (.v (.slice none 0 0)),NI 0,NI 0,NI 0]),(63,.agg [NI 0,.t (.v (.slice none 0 0)),NI 0]),(67,NI v9.fail)],[(5,.box (q12 t2)),(6,.box [NL e2.Order,NI e2.First]),(7,.box (x22_1 b2)),(8,.box (q11 c)),(9,.box (q14 i)),(10,.box x22_0),(11,.box [NI 0,.t (.v (.slice none 0 0)),NI 0]),(46,.box (lset (q13 v9) [(63,.own 2448)])),(2448,.rs 79 7 v9.out.Fires q16)]⟩) ?_ fun A_1=>?_
      ·exact TieA.oneR 6 rfl (by kernel_rfl) rfl (.oneR 7 rfl (by kernel_rfl) rfl (.done (.of rfl rfl)))
      refine TieA.have_ (fuel₁:=3) (l₁:=(bm 9 95)) (σ₁:=⟨[NP 10,NP 11,(63,.agg [NI 0,.t (.v (.slice none 0 0)),NI 0]),(66,.ptr 46 65)],[(5,.box (q12 t2)),(6,.box [NL e2.Order,NI e2.First]),(7,.box (x22_1 b2)),(8,.box (q11 c)),(9,.box (q14 i)),(10,.box x22_0),(11,.box [NI 0,.t (.v (.slice none 0 0)),NI 0]),(46,.box (lset (q13 v9) [(63,.own 2448)])),(2448,.rs 79 7 v9.out.Fires q16)]⟩) ?_ fun A_2=>?_
      ·refine TieA.all [5,7] (by kernel_rfl) rfl (AllA.run _ rfl rfl rfl ?_ ?_)
       ·exact TieA.oneR 7 rfl (by kernel_rfl) rfl (.done (.of rfl rfl))
       refine AllA.run _ rfl rfl rfl ?_ ?_
       ·exact TieA.ga 1 [5] (by kernel_rfl) rfl (.done (.of rfl rfl))
       exact AllA.nil
      refine TieA.have_ (fuel₁:=4) (l₁:=(bm 9 31)) (σ₁:=⟨[NP 10,NP 11,(62,.agg [NI 0,NI 0,NB false,NI 0,.t (.v (.slice none 0 0)),NB false,NB false,NI 0,NI 0,.t (.v (.slice none 0 0)),NI 0,NI 0,NI 0]),(63,.agg [NI 0,.t (.v (.slice none 0 0)),NI 0]),(66,.ptr 46 65)],[(5,.box (q12 t2)),(6,.box [NL e2.Order,NI e2.First]),(7,.box (x22_1 b2)),(8,.box (q11 c)),(9,.box (q14 i)),(10,.box x22_0),(11,.box [NI 0,.t (.v (.slice none 0 0)),NI 0]),(46,.box (lset (q13 v9) [(63,.own 2448)])),(2448,.rs 79 7 v9.out.Fires q16)]⟩) ?_ fun A_0=>?_
      ·exact TieA.all [5,6] (by kernel_rfl) rfl (AllA.runTo _ rfl rfl rfl (.of rfl rfl) A_1 (AllA.runTo _ rfl rfl rfl (.of rfl rfl) A_2 (AllA.nil)))
      refine TieA.have_ (fuel₁:=3) (l₁:=(bm 9 125)) (σ₁:=⟨[NP 10,NP 11,(67,NI v9.fail)],[(5,.box (q12 t2)),(6,.box [NL e2.Order,NI e2.First]),(7,.box (x22_1 b2)),(8,.box (q11 c)),(9,.box (q14 i)),(10,.box x22_0),(11,.box [NI 0,.t (.v (.slice none 0 0)),NI 0]),(46,.box (lset (q13 v9) [(63,.own 2448)])),(2448,.rs 79 7 v9.out.Fires q16)]⟩) ?_ fun A_4=>?_
      ·exact TieA.oneR 1 rfl (by kernel_rfl) rfl (.oneR 7 rfl (by kernel_rfl) rfl (.done (.of rfl rfl)))
      refine TieA.have_ (fuel₁:=4) (l₁:=(bm 9 61)) (σ₁:=⟨[NP 10,NP 11,(62,.agg [NI 0,NI 0,NB false,NI 0,.t (.v (.slice none 0 0)),NB false,NB false,NI 0,NI 0,.t (.v (.slice none 0 0)),NI 0,NI 0,NI 0]),(67,NI v9.fail)],[(5,.box (q12 t2)),(6,.box [NL e2.Order,NI e2.First]),(7,.box (x22_1 b2)),(8,.box (q11 c)),(9,.box (q14 i)),(10,.box x22_0),(11,.box [NI 0,.t (.v (.slice none 0 0)),NI 0]),(46,.box (lset (q13 v9) [(63,.own 2448)])),(2448,.rs 79 7 v9.out.Fires q16)]⟩) ?_ fun A_3=>?_
      ·exact TieA.all [1,6] (by kernel_rfl) rfl (AllA.runTo _ rfl rfl rfl (.of rfl rfl) A_1 (AllA.runTo _ rfl rfl rfl (.of rfl rfl) A_4 (AllA.nil)))
      refine TieA.have_ (fuel₁:=4) (l₁:=(bm 9 62)) (σ₁:=⟨[NP 10,NP 11,(63,.agg [NI 0,.t (.v (.slice none 0 0)),NI 0]),(67,NI v9.fail)],[(5,.box (q12 t2)),(6,.box [NL e2.Order,NI e2.First]),(7,.box (x22_1 b2)),(8,.box (q11 c)),(9,.box (q14 i)),(10,.box x22_0),(11,.box [NI 0,.t (.v (.slice none 0 0)),NI 0]),(46,.box (lset (q13 v9) [(63,.own 2448)])),(2448,.rs 79 7 v9.out.Fires q16)]⟩) ?_ fun A_5=>?_
      ·exact TieA.oneR 0 rfl (by kernel_rfl) rfl (.oneR 6 rfl (by kernel_rfl) rfl (.oneR 7 rfl (by kernel_rfl) rfl (.done (.of rfl rfl))))
      refine TieA.ga 6 [2,3,4] (by kernel_rfl) rfl (.all [0,1,5] (by kernel_rfl) rfl (AllA.run _ rfl rfl rfl ?_ ?_))
      ·refine TieA.all [1,5,6] (by kernel_rfl) rfl (AllA.runTo _ rfl rfl rfl (.of rfl rfl) A_0 (AllA.runTo _ rfl rfl rfl (.of rfl rfl) A_3 (AllA.run _ rfl rfl rfl ?_ ?_)))
       ·exact TieA.all [1,5] (by kernel_rfl) rfl (AllA.runTo _ rfl rfl rfl (.of rfl rfl) A_2 (AllA.runTo _ rfl rfl rfl (.of rfl rfl) A_4 (AllA.nil)))
       exact AllA.nil
      refine AllA.run _ rfl rfl rfl ?_ ?_
      ·exact TieA.all [0,5] (by kernel_rfl) rfl (AllA.runTo _ rfl rfl rfl (.of rfl rfl) A_0 (AllA.runTo _ rfl rfl rfl (.of rfl rfl) A_5 (AllA.nil)))
      refine AllA.run _ rfl rfl rfl ?_ ?_
      ·exact TieA.all [0,1] (by kernel_rfl) rfl (AllA.runTo _ rfl rfl rfl (.of rfl rfl) A_3 (AllA.runTo _ rfl rfl rfl (.of rfl rfl) A_5 (AllA.nil)))
      exact AllA.nil
     exact TieO.l 2 rfl (lf rfl rfl)
    rintro v10 e σ' _ ⟨rfl,hs⟩
    exact TieX.sub hs (TieS.ret (rt rfl))
   ·refine TieS.s 2 rfl (.bind (Q₁:=nrm fun t=>⟨[NP 10,NP 11,(12,NI t.1)],[(10,.box (q11 t.2.1)),(11,.box [NI t.2.2.Throttle,.own 2448,NI t.2.2.Torque]),(2448,.rs 79 7 t.2.2.Fires q16)]⟩) ?_ ?_)
    ·refine TieS.draws 9 (bm 11 0) (bm 11 511) ⟨[NP 10,NP 11,(75,.agg [NI v9.out.Throttle,.own 2448,NI v9.out.Torque])],[(5,.box (q12 t2)),(6,.box [NL e2.Order,NI e2.First]),(7,.box (x22_1 b2)),(8,.box (q11 c)),(9,.box (q14 i)),(10,.box (q11 v9.c)),(11,.box [NI 0,.t (.v (.slice none 0 0)),NI 0]),(46,.box (lset (q13 v9) [(63,.own 2448)])),(2448,.rs 79 7 v9.out.Fires q16)]⟩ mixed (fun _ _ _ h=>by cases h.1) rfl rfl rfl rfl ?_ ?_
     ·refine TieA.ga 4 [0,1,2,4,5,6,3] (by kernel_rfl) rfl (.all [7,8] (by kernel_rfl) rfl (AllA.run _ rfl rfl rfl ?_ ?_))
      ·exact TieA.oneR 8 rfl (by kernel_rfl) rfl (.done (.of rfl rfl))
      refine AllA.run _ rfl rfl rfl ?_ ?_
      ·exact TieA.ga 2 [7] (by kernel_rfl) rfl (.done (.of rfl rfl))
      exact AllA.nil
     exact TieO.l 3 rfl (lf rfl rfl)
    rintro s e σ' _ ⟨rfl,hs⟩
    exact TieX.sub hs (TieS.ret (rt rfl))
theorem q179 (n2:Int):TieF Tryz.prog 156 [NI n2] (q201 n2) (fun r=>NB r):=by
 refine TieF.i htab 9 [.tmp 2] Tryz.call156 Tryz.func156 rfl rfl rfl rfl fun w0 L=>?_
 refine TieS.o 9 rfl (.selOr (v:=decide (n2 > 1073741824)) 3 5 (fun b=>⟨[(8,NB b)],[]⟩) rfl ?_ ?_ ?_)
 ·exact TieO.l 4 rfl (lf rfl rfl)
 ·exact TieO.l 4 rfl (lf rfl rfl)
 exact TieO.r 2 rfl (rt rfl)
theorem q416 (l:List Int):TieF Tryz.prog 155 [NL l] (q170 l) (fun r=>NB r):=by
 refine TieF.i htab 39 [.tmp 2] Tryz.call155 Tryz.func155 rfl rfl rfl rfl fun w0 L=>?_
 refine TieS.o 11 rfl (.selOr (v:=decide ((l.length:Int) > 32)) 4 7 (fun b=>⟨[(0,NL l),(11,NB b)],[]⟩) rfl ?_ ?_ ?_)
 ·exact TieO.l 5 rfl (lf rfl rfl)
 ·exact TieO.l 5 rfl (lf rfl rfl)
 refine TieO.s 1 rfl (.cond rfl ?_ ?_)
 ·exact TieS.r 4 rfl (rt rfl)
 ·refine TieS.s 7 rfl (.loop (fun t=>⟨[(0,NL l),(3,NI t)],[]⟩) (fun b e σ'=>match b with | .inl t=>e = .exit 0 ∧ Sub ⟨[],[]⟩ σ' | .inr t=>e = .ret ∧ retT tab σ' [.tmp 2] = some (((fun r=>NB r):Bool → T) t)) (.of rfl rfl) ?_ ?_)
  ·intro i
   refine TieS.s 8 rfl (.cond rfl ?_ ?_)
   ·refine TieS.s 4 rfl (.bind (Q₁:=nrm fun t=>⟨[(0,NL l),(3,NI i),(38,NB t)],[]⟩) ?_ ?_)
    ·refine TieX.pre fun x hx=>TieX.pre fun v hv=>TieX.split (fun hg=>?_) (fun hg2=>?_)
     ·exact TieS.dr 21 [(0,NL l),(3,NI i)] [] mixed (.of rfl rfl) (.q rfl rfl rfl (.q rfl rfl rfl (.cons (.index hx rfl rfl rfl rfl rfl rfl (fun _=>rfl)) (.q rfl rfl rfl (.cons (.callV (q179 x) hv rfl rfl rfl rfl) (.cons (.cast (congrArg T.B hg) (.quiet rfl rfl rfl)) (.k rfl (.k rfl (.k rfl (.k rfl (.k rfl (.k rfl (.k rfl (.k rfl (.k rfl (.k rfl (.k rfl (.k rfl (.k rfl (.k rfl (.q rfl rfl rfl (.nil)))))))))))))))))))))) rfl (.l 1 rfl (lf rfl rfl))
     ·refine TieX.split (fun hg3=>?_) (fun hg4=>?_)
      ·exact TieX.pre fun x2 hx2=>TieS.dr 21 [(0,NL l),(3,NI i)] [] mixed (.of rfl rfl) (.q rfl rfl rfl (.q rfl rfl rfl (.cons (.index hx rfl rfl rfl rfl rfl rfl (fun _=>rfl)) (.q rfl rfl rfl (.cons (.callV (q179 x) hv rfl rfl rfl rfl) (.cons (.cast (congrArg T.B hg2) (.quiet rfl rfl rfl)) (.q rfl rfl rfl (.q rfl rfl rfl (.cons (.cast (congrArg T.B hg3) (.quiet rfl rfl rfl)) (.q rfl rfl rfl (.q rfl rfl rfl (.cons (.index hx rfl rfl rfl rfl rfl rfl (fun _=>rfl)) (.q rfl rfl rfl (.q rfl rfl rfl (.q rfl rfl rfl (.q rfl rfl rfl (.cons (.index hx2 rfl rfl rfl rfl rfl rfl (fun _=>rfl)) (.q rfl rfl rfl (.q rfl rfl rfl (.q rfl rfl rfl (.q rfl rfl rfl (.nil)))))))))))))))))))))) rfl (.l 1 rfl (lf rfl rfl))
      ·exact TieS.dr 21 [(0,NL l),(3,NI i)] [] mixed (.of rfl rfl) (.q rfl rfl rfl (.q rfl rfl rfl (.cons (.index hx rfl rfl rfl rfl rfl rfl (fun _=>rfl)) (.q rfl rfl rfl (.cons (.callV (q179 x) hv rfl rfl rfl rfl) (.cons (.cast (congrArg T.B hg2) (.quiet rfl rfl rfl)) (.q rfl rfl rfl (.q rfl rfl rfl (.cons (.cast (congrArg T.B hg4) (.quiet rfl rfl rfl)) (.k rfl (.k rfl (.k rfl (.k rfl (.k rfl (.k rfl (.k rfl (.k rfl (.k rfl (.k rfl (.q rfl rfl rfl (.q rfl rfl rfl (.nil)))))))))))))))))))))) rfl (.l 1 rfl (lf rfl rfl))
    rintro v2 e σ' _ ⟨rfl,hs⟩
    refine TieX.sub hs (TieS.cond rfl ?_ ?_)
    ·exact TieS.r 4 rfl ⟨(fun h=>by cases h),rfl,rfl⟩
    ·exact TieS.l 7 rfl (lf rfl rfl)
   ·exact TieS.exitOut rfl ⟨(fun h=>by cases h),rfl,.of rfl rfl⟩
  rintro (i2 | r2) e σ' _ hq
  ·obtain ⟨rfl,hs⟩:=hq
   refine TieX.exit rfl (TieX.sub hs ?_)
   exact TieS.r 4 rfl (rt rfl)
  ·obtain ⟨rfl,hs⟩:=hq
   exact TieX.ret ⟨.inl rfl,hs⟩
abbrev x61_0 (m2:SMap):List T:=[NL m2.X,NL m2.Y,NS (Pv.encS Pv.encI) m2.Z]
theorem q65 (m2:SMap):TieF Tryz.prog 61 [A_SMap m2] (q52 m2) (fun r=>NB r):=by
 refine TieF.i htab 57 [.tmp 2] Tryz.call61 Tryz.func61 rfl rfl rfl rfl fun w0 L=>?_
 refine TieS.o 10 rfl (.k (q416 m2.X) rfl fun v=>.o 2 rfl (.bind 5 (fun b2=>⟨[NP 1,(14,NB b2)],[(1,.box (x61_0 m2))]⟩) (TieO.split 9 rfl ?_ ?_) fun b2 _=>?_))
 ·exact TieO.l 6 rfl (lf rfl rfl)
 ·exact TieO.o 2 rfl (.k (q416 m2.Y) rfl fun v2=>.l 3 rfl (lf rfl rfl))
 refine TieO.o 1 rfl (.selOr (v:=((m2.Z.length:Int) != (m2.X.length:Int))) 8 15 (fun b=>⟨[NP 1,(23,NB b)],[(1,.box (x61_0 m2))]⟩) rfl ?_ ?_ ?_)
 ·exact TieO.l 9 rfl (lf rfl rfl)
 ·exact TieO.l 9 rfl (lf rfl rfl)
 refine TieO.s 1 rfl (.cond rfl ?_ ?_)
 ·exact TieS.r 4 rfl (rt rfl)
 ·refine TieS.s 7 rfl (.loop (fun t=>⟨[NP 1,(3,NI t)],[(1,.box (x61_0 m2))]⟩) (fun b e σ'=>match b with | .inl t=>e = .exit 0 ∧ Sub ⟨[],[]⟩ σ' | .inr t=>e = .ret ∧ retT tab σ' [.tmp 2] = some (((fun r=>NB r):Bool → T) t)) (.of rfl rfl) ?_ ?_)
  ·intro i
   refine TieS.s 9 rfl (.cond rfl ?_ ?_)
   ·refine TieS.s 5 rfl (TieX.pre fun x hx=>TieS.dr 10 [NP 1,(3,NI i)] [(1,.box (x61_0 m2))] mixed (.of rfl rfl) (.q rfl rfl rfl (.q rfl rfl rfl (.q rfl rfl rfl (.cons (.index hx rfl rfl rfl rfl rfl rfl (fun _=>rfl)) (.q rfl rfl rfl (.q rfl rfl rfl (.q rfl rfl rfl (.q rfl rfl rfl (.q rfl rfl rfl (.q rfl rfl rfl (.nil))))))))))) rfl (.s 1 rfl (.cond rfl ?_ ?_)))
    ·exact TieS.r 4 rfl ⟨(fun h=>by cases h),rfl,rfl⟩
    ·refine TieS.s 6 rfl (.loop (fun t=>⟨[NP 1,(3,NI i),(4,NI t)],[(1,.box (x61_0 m2))]⟩) (fun b e σ'=>match b with | .inl t=>e = .exit 2 ∧ Sub ⟨[NP 1,(3,NI i)],[(1,.box (x61_0 m2))]⟩ σ' | .inr t=>e = .ret ∧ retT tab σ' [.tmp 2] = some (((fun r=>NB r):Bool → T) t)) (.of rfl rfl) ?_ ?_)
     ·intro j
      refine TieS.s 9 rfl (.cond rfl ?_ ?_)
      ·refine TieS.o 8 rfl (.indexH hx rfl rfl rfl rfl rfl rfl rfl rfl (fun _=>rfl) (.o 2 rfl (.index rfl rfl rfl rfl rfl rfl rfl rfl (fun _=>rfl) fun x2 hx2=>.o 1 rfl (.k (q179 x2) rfl fun v3=>.s 1 rfl (.cond rfl ?_ ?_)))))
       ·exact TieS.r 4 rfl ⟨(fun h=>by cases h),rfl,rfl⟩
       ·exact TieS.l 7 rfl (lf rfl rfl)
      ·exact TieS.exitOut rfl ⟨(fun h=>by cases h),rfl,.of rfl rfl⟩
     rintro (j2 | r2) e σ' _ hq
     ·obtain ⟨rfl,hs⟩:=hq
      refine TieX.exit rfl (TieX.sub hs ?_)
      exact TieS.l 6 rfl (lf rfl rfl)
     ·obtain ⟨rfl,hs⟩:=hq
      exact TieX.ret ⟨(fun h=>by cases h),rfl,hs⟩
   ·exact TieS.exitOut rfl ⟨(fun h=>by cases h),rfl,.of rfl rfl⟩
  rintro (i2 | r3) e σ' _ hq
  ·obtain ⟨rfl,hs⟩:=hq
   refine TieX.exit rfl (TieX.sub hs ?_)
   exact TieS.r 4 rfl (rt rfl)
  ·obtain ⟨rfl,hs⟩:=hq
   exact TieX.ret ⟨.inl rfl,hs⟩
theorem q147 (x:Int):TieF Tryz.prog 220 [NI x] (q266 x) (fun r=>NB r):=by
 refine TieF.i htab 9 [.tmp 2] Tryz.call220 Tryz.func220 rfl rfl rfl rfl fun w0 L=>?_
 refine TieS.o 9 rfl (.selAnd (v:=decide (x ≤ 1073741824)) 3 5 (fun b=>⟨[(8,NB b)],[]⟩) rfl ?_ ?_ ?_)
 ·exact TieO.l 4 rfl (lf rfl rfl)
 ·exact TieO.l 4 rfl (lf rfl rfl)
 exact TieO.r 2 rfl (rt rfl)
theorem q603 (l:List Int):TieF Tryz.prog 219 [NL l] (q271 l) (fun r=>NB r):=by
 refine TieF.i htab 40 [.tmp 2] Tryz.call219 Tryz.func219 rfl rfl rfl rfl fun w0 L=>?_
 refine TieS.o 11 rfl (.selOr (v:=decide ((l.length:Int) > 32)) 4 7 (fun b=>⟨[(0,NL l),(11,NB b)],[]⟩) rfl ?_ ?_ ?_)
 ·exact TieO.l 5 rfl (lf rfl rfl)
 ·exact TieO.l 5 rfl (lf rfl rfl)
 refine TieO.s 1 rfl (.cond rfl ?_ ?_)
 ·exact TieS.r 4 rfl (rt rfl)
 ·refine TieS.s 7 rfl (.loop (fun t=>⟨[(0,NL l),(3,NI t)],[]⟩) (fun b e σ'=>match b with | .inl t=>e = .exit 0 ∧ Sub ⟨[],[]⟩ σ' | .inr t=>e = .ret ∧ retT tab σ' [.tmp 2] = some (((fun r=>NB r):Bool → T) t)) (.of rfl rfl) ?_ ?_)
  ·intro i
   refine TieS.s 8 rfl (.cond rfl ?_ ?_)
   ·refine TieS.s 4 rfl (.bind (Q₁:=nrm fun t=>⟨[(0,NL l),(3,NI i),(39,NB t)],[]⟩) ?_ ?_)
    ·refine TieX.pre fun x hx=>TieX.pre fun v hv=>TieX.split (fun hg=>?_) (fun hg2=>?_)
     ·exact TieS.dr 22 [(0,NL l),(3,NI i)] [] mixed (.of rfl rfl) (.q rfl rfl rfl (.q rfl rfl rfl (.cons (.index hx rfl rfl rfl rfl rfl rfl (fun _=>rfl)) (.q rfl rfl rfl (.cons (.callV (q147 x) hv rfl rfl rfl rfl) (.q rfl rfl rfl (.cons (.cast (congrArg T.B hg) (.quiet rfl rfl rfl)) (.k rfl (.k rfl (.k rfl (.k rfl (.k rfl (.k rfl (.k rfl (.k rfl (.k rfl (.k rfl (.k rfl (.k rfl (.k rfl (.k rfl (.q rfl rfl rfl (.nil))))))))))))))))))))))) rfl (.l 1 rfl (lf rfl rfl))
     ·refine TieX.split (fun hg3=>?_) (fun hg4=>?_)
      ·exact TieX.pre fun x2 hx2=>TieS.dr 22 [(0,NL l),(3,NI i)] [] mixed (.of rfl rfl) (.q rfl rfl rfl (.q rfl rfl rfl (.cons (.index hx rfl rfl rfl rfl rfl rfl (fun _=>rfl)) (.q rfl rfl rfl (.cons (.callV (q147 x) hv rfl rfl rfl rfl) (.q rfl rfl rfl (.cons (.cast (congrArg T.B hg2) (.quiet rfl rfl rfl)) (.q rfl rfl rfl (.q rfl rfl rfl (.cons (.cast (congrArg T.B hg3) (.quiet rfl rfl rfl)) (.q rfl rfl rfl (.q rfl rfl rfl (.cons (.index hx rfl rfl rfl rfl rfl rfl (fun _=>rfl)) (.q rfl rfl rfl (.q rfl rfl rfl (.q rfl rfl rfl (.q rfl rfl rfl (.cons (.index hx2 rfl rfl rfl rfl rfl rfl (fun _=>rfl)) (.q rfl rfl rfl (.q rfl rfl rfl (.q rfl rfl rfl (.q rfl rfl rfl (.nil))))))))))))))))))))))) rfl (.l 1 rfl (lf rfl rfl))
      ·exact TieS.dr 22 [(0,NL l),(3,NI i)] [] mixed (.of rfl rfl) (.q rfl rfl rfl (.q rfl rfl rfl (.cons (.index hx rfl rfl rfl rfl rfl rfl (fun _=>rfl)) (.q rfl rfl rfl (.cons (.callV (q147 x) hv rfl rfl rfl rfl) (.q rfl rfl rfl (.cons (.cast (congrArg T.B hg2) (.quiet rfl rfl rfl)) (.q rfl rfl rfl (.q rfl rfl rfl (.cons (.cast (congrArg T.B hg4) (.quiet rfl rfl rfl)) (.k rfl (.k rfl (.k rfl (.k rfl (.k rfl (.k rfl (.k rfl (.k rfl (.k rfl (.k rfl (.q rfl rfl rfl (.q rfl rfl rfl (.nil))))))))))))))))))))))) rfl (.l 1 rfl (lf rfl rfl))
    rintro v2 e σ' _ ⟨rfl,hs⟩
    refine TieX.sub hs (TieS.cond rfl ?_ ?_)
    ·exact TieS.r 4 rfl ⟨(fun h=>by cases h),rfl,rfl⟩
    ·exact TieS.l 7 rfl (lf rfl rfl)
   ·exact TieS.exitOut rfl ⟨(fun h=>by cases h),rfl,.of rfl rfl⟩
  rintro (i2 | r2) e σ' _ hq
  ·obtain ⟨rfl,hs⟩:=hq
   refine TieX.exit rfl (TieX.sub hs ?_)
   exact TieS.r 4 rfl (rt rfl)
  ·obtain ⟨rfl,hs⟩:=hq
   exact TieX.ret ⟨.inl rfl,hs⟩
theorem q133 (c:SCurve):TieF Tryz.prog 152 [q199 c] (q72 c) (fun r=>NB r):=by
 refine TieF.i htab 31 [.tmp 2] Tryz.call152 Tryz.func152 rfl rfl rfl rfl fun w0 L=>?_
 refine TieS.o 10 rfl (.k (q603 c.X) rfl fun v=>.o 2 rfl (.selOr (v:=((c.Y.length:Int) != (c.X.length:Int))) 8 8 (fun b=>⟨[NP 1,(16,NB b)],[(1,.box [NL c.X,NL c.Y])]⟩) rfl ?_ ?_ ?_))
 ·exact TieO.l 9 rfl (lf rfl rfl)
 ·exact TieO.l 9 rfl (lf rfl rfl)
 refine TieO.s 1 rfl (.cond rfl ?_ ?_)
 ·exact TieS.r 4 rfl (rt rfl)
 ·refine TieS.s 7 rfl (.loop (fun t=>⟨[NP 1,(3,NI t)],[(1,.box [NL c.X,NL c.Y])]⟩) (fun b e σ'=>match b with | .inl t=>e = .exit 0 ∧ Sub ⟨[],[]⟩ σ' | .inr t=>e = .ret ∧ retT tab σ' [.tmp 2] = some (((fun r=>NB r):Bool → T) t)) (.of rfl rfl) ?_ ?_)
  ·intro i
   refine TieS.s 9 rfl (.cond rfl ?_ ?_)
   ·refine TieS.o 8 rfl (.index rfl rfl rfl rfl rfl rfl rfl rfl (fun _=>rfl) fun x hx=>.o 1 rfl (.k (q147 x) rfl fun v2=>.s 2 rfl (.cond rfl ?_ ?_)))
    ·exact TieS.r 4 rfl ⟨(fun h=>by cases h),rfl,rfl⟩
    ·exact TieS.l 7 rfl (lf rfl rfl)
   ·exact TieS.exitOut rfl ⟨(fun h=>by cases h),rfl,.of rfl rfl⟩
  rintro (i2 | r2) e σ' _ hq
  ·obtain ⟨rfl,hs⟩:=hq
   refine TieX.exit rfl (TieX.sub hs ?_)
   exact TieS.r 4 rfl (rt rfl)
  ·obtain ⟨rfl,hs⟩:=hq
   exact TieX.ret ⟨.inl rfl,hs⟩
theorem q19 (x:Int) (low:Int) (high:Int):TieF Tryz.prog 153 [NI x,NI low,NI high] (q24 x low high) (fun r=>NB r):=by
 refine TieF.i htab 15 [.tmp 6] Tryz.call153 Tryz.func153 rfl rfl rfl rfl fun w0 L=>?_
 refine TieS.o 10 rfl (.selAnd (v:=decide (x ≤ high)) 4 10 (fun b=>⟨[(14,NB b)],[]⟩) rfl ?_ ?_ ?_)
 ·exact TieO.l 5 rfl (lf rfl rfl)
 ·exact TieO.l 5 rfl (lf rfl rfl)
 exact TieO.r 2 rfl (rt rfl)
theorem q260 (t2:STables):TieF Tryz.prog 57 [q20 t2] (q105 t2) (fun r=>NB r):=by
 refine TieF.i htab 88 [.tmp 2] Tryz.call57 Tryz.func57 rfl rfl rfl rfl fun w0 L=>?_
 refine TieS.o 10 rfl (.k (q65 t2.Air) rfl fun v=>.o 2 rfl (.bind 5 (fun b2=>⟨[NP 1,(15,NB b2)],[(1,.box (q12 t2))]⟩) (TieO.split 10 rfl ?_ ?_) fun b2 _=>?_))
 ·exact TieO.l 6 rfl (lf rfl rfl)
 ·exact TieO.o 2 rfl (.k (q133 t2.AirTemp) rfl fun v2=>.l 3 rfl (lf rfl rfl))
 refine TieO.s 1 rfl (.cond rfl ?_ ?_)
 ·exact TieS.r 4 rfl (rt rfl)
 ·refine TieS.s 7 rfl (.loop (fun t=>⟨[NP 1,(3,NI t)],[(1,.box (q12 t2))]⟩) (fun b e σ'=>match b with | .inl t=>e = .exit 0 ∧ Sub ⟨[NP 1],[(1,.box (q12 t2))]⟩ σ' | .inr t=>e = .ret ∧ retT tab σ' [.tmp 2] = some (((fun r=>NB r):Bool → T) t)) (.of rfl rfl) ?_ ?_)
  ·intro i
   refine TieS.s 10 rfl (.cond rfl ?_ ?_)
   ·refine TieS.s 8 rfl (.loop (fun t=>⟨[NP 1,(3,NI i),(4,NI t)],[(1,.box (q12 t2))]⟩) (fun b e σ'=>match b with | .inl t=>e = .exit 2 ∧ Sub ⟨[NP 1,(3,NI i)],[(1,.box (q12 t2))]⟩ σ' | .inr t=>e = .ret ∧ retT tab σ' [.tmp 2] = some (((fun r=>NB r):Bool → T) t)) (.of rfl rfl) ?_ ?_)
    ·intro j
     refine TieS.o 8 rfl (.index rfl rfl rfl rfl rfl rfl rfl rfl (fun _=>rfl) fun x hx=>.s 4 rfl (.cond rfl ?_ ?_))
     ·refine TieS.s 4 rfl (.bind (Q₁:=nrm fun t=>⟨[NP 1,(3,NI i),(4,NI j),(71,NB t)],[(1,.box (q12 t2))]⟩) ?_ ?_)
      ·refine TieX.pre fun x2 hx2=>TieX.pre fun v3 hv3=>TieX.split (fun hg=>?_) (fun hg2=>?_)
       ·exact TieS.dr 37 [NP 1,(3,NI i),(4,NI j)] [(1,.box (q12 t2))] mixed (.of rfl rfl) (.q rfl rfl rfl (.q rfl rfl rfl (.q rfl rfl rfl (.q rfl rfl rfl (.cons (.index hx rfl rfl rfl rfl rfl rfl (fun _=>rfl)) (.q rfl rfl rfl (.q rfl rfl rfl (.cons (.index hx2 rfl rfl rfl rfl rfl rfl (fun _=>rfl)) (.q rfl rfl rfl (.cons (.callV (q19 x2 0 1048576) hv3 rfl rfl rfl rfl) (.q rfl rfl rfl (.cons (.cast (congrArg T.B hg) (.quiet rfl rfl rfl)) (.k rfl (.k rfl (.k rfl (.k rfl (.k rfl (.k rfl (.k rfl (.k rfl (.k rfl (.k rfl (.k rfl (.k rfl (.k rfl (.k rfl (.k rfl (.k rfl (.k rfl (.k rfl (.k rfl (.k rfl (.k rfl (.k rfl (.k rfl (.k rfl (.q rfl rfl rfl (.nil)))))))))))))))))))))))))))))))))))))) rfl (.l 1 rfl (lf rfl rfl))
       ·refine TieX.split (fun hg3=>?_) (fun hg4=>?_)
        ·exact TieX.pre fun x3 hx3=>TieS.dr 37 [NP 1,(3,NI i),(4,NI j)] [(1,.box (q12 t2))] mixed (.of rfl rfl) (.q rfl rfl rfl (.q rfl rfl rfl (.q rfl rfl rfl (.q rfl rfl rfl (.cons (.index hx rfl rfl rfl rfl rfl rfl (fun _=>rfl)) (.q rfl rfl rfl (.q rfl rfl rfl (.cons (.index hx2 rfl rfl rfl rfl rfl rfl (fun _=>rfl)) (.q rfl rfl rfl (.cons (.callV (q19 x2 0 1048576) hv3 rfl rfl rfl rfl) (.q rfl rfl rfl (.cons (.cast (congrArg T.B hg2) (.quiet rfl rfl rfl)) (.q rfl rfl rfl (.q rfl rfl rfl (.cons (.cast (congrArg T.B hg3) (.quiet rfl rfl rfl)) (.q rfl rfl rfl (.q rfl rfl rfl (.q rfl rfl rfl (.q rfl rfl rfl (.cons (.index hx rfl rfl rfl rfl rfl rfl (fun _=>rfl)) (.q rfl rfl rfl (.q rfl rfl rfl (.cons (.index hx2 rfl rfl rfl rfl rfl rfl (fun _=>rfl)) (.q rfl rfl rfl (.q rfl rfl rfl (.q rfl rfl rfl (.q rfl rfl rfl (.q rfl rfl rfl (.cons (.index hx rfl rfl rfl rfl rfl rfl (fun _=>rfl)) (.q rfl rfl rfl (.q rfl rfl rfl (.q rfl rfl rfl (.cons (.index hx3 rfl rfl rfl rfl rfl rfl (fun _=>rfl)) (.q rfl rfl rfl (.q rfl rfl rfl (.q rfl rfl rfl (.q rfl rfl rfl (.nil)))))))))))))))))))))))))))))))))))))) rfl (.l 1 rfl (lf rfl rfl))
        ·exact TieS.dr 37 [NP 1,(3,NI i),(4,NI j)] [(1,.box (q12 t2))] mixed (.of rfl rfl) (.q rfl rfl rfl (.q rfl rfl rfl (.q rfl rfl rfl (.q rfl rfl rfl (.cons (.index hx rfl rfl rfl rfl rfl rfl (fun _=>rfl)) (.q rfl rfl rfl (.q rfl rfl rfl (.cons (.index hx2 rfl rfl rfl rfl rfl rfl (fun _=>rfl)) (.q rfl rfl rfl (.cons (.callV (q19 x2 0 1048576) hv3 rfl rfl rfl rfl) (.q rfl rfl rfl (.cons (.cast (congrArg T.B hg2) (.quiet rfl rfl rfl)) (.q rfl rfl rfl (.q rfl rfl rfl (.cons (.cast (congrArg T.B hg4) (.quiet rfl rfl rfl)) (.k rfl (.k rfl (.k rfl (.k rfl (.k rfl (.k rfl (.k rfl (.k rfl (.k rfl (.k rfl (.k rfl (.k rfl (.k rfl (.k rfl (.k rfl (.k rfl (.k rfl (.k rfl (.k rfl (.k rfl (.q rfl rfl rfl (.q rfl rfl rfl (.nil)))))))))))))))))))))))))))))))))))))) rfl (.l 1 rfl (lf rfl rfl))
      rintro v4 e σ' _ ⟨rfl,hs⟩
      refine TieX.sub hs (TieS.cond rfl ?_ ?_)
      ·exact TieS.r 4 rfl ⟨(fun h=>by cases h),rfl,rfl⟩
      ·exact TieS.l 7 rfl (lf rfl rfl)
     ·exact TieS.exitOut rfl ⟨(fun h=>by cases h),rfl,.of rfl rfl⟩
    rintro (j2 | r2) e σ' _ hq
    ·obtain ⟨rfl,hs⟩:=hq
     refine TieX.exit rfl (TieX.sub hs ?_)
     exact TieS.l 6 rfl (lf rfl rfl)
    ·obtain ⟨rfl,hs⟩:=hq
     exact TieX.ret ⟨(fun h=>by cases h),rfl,hs⟩
   ·exact TieS.exitOut rfl ⟨(fun h=>by cases h),rfl,.of rfl rfl⟩
  rintro (i2 | r4) e σ' _ hq
  ·obtain ⟨rfl,hs⟩:=hq
   refine TieX.exit rfl (TieX.sub hs ?_)
   refine TieS.s 6 rfl (.loop (fun t=>⟨[NP 1,(5,NI t)],[(1,.box (q12 t2))]⟩) (fun b e σ'=>match b with | .inl t=>e = .exit 4 ∧ Sub ⟨[],[]⟩ σ' | .inr t=>e = .ret ∧ retT tab σ' [.tmp 2] = some (((fun r=>NB r):Bool → T) t)) (.of rfl rfl) ?_ ?_)
   ·intro i3
    refine TieS.s 10 rfl (.cond rfl ?_ ?_)
    ·refine TieS.o 9 rfl (.index rfl rfl rfl rfl rfl rfl rfl rfl (fun _=>rfl) fun x4 hx4=>.o 1 rfl (.k (q19 x4 100 3000) rfl fun v5=>.s 2 rfl (.cond rfl ?_ ?_)))
     ·exact TieS.r 4 rfl ⟨(fun h=>by cases h),rfl,rfl⟩
     ·exact TieS.l 7 rfl (lf rfl rfl)
    ·exact TieS.exitOut rfl ⟨(fun h=>by cases h),rfl,.of rfl rfl⟩
   rintro (i4 | r3) e σ' _ hq
   ·obtain ⟨rfl,hs⟩:=hq
    refine TieX.exit rfl (TieX.sub hs ?_)
    exact TieS.r 4 rfl (rt rfl)
   ·obtain ⟨rfl,hs⟩:=hq
    exact TieX.ret ⟨.inl rfl,hs⟩
  ·obtain ⟨rfl,hs⟩:=hq
   exact TieX.ret ⟨.inl rfl,hs⟩
theorem q27 (n2:Int) (low:Int) (high:Int):TieF Tryz.prog 73 [NI n2,NI low,NI high] (q29 n2 low high) (fun r=>NB r):=by
 refine TieF.i htab 15 [.tmp 6] Tryz.call73 Tryz.func73 rfl rfl rfl rfl fun w0 L=>?_
 refine TieS.o 10 rfl (.selAnd (v:=decide (n2 ≤ high)) 4 10 (fun b=>⟨[(14,NB b)],[]⟩) rfl ?_ ?_ ?_)
 ·exact TieO.l 5 rfl (lf rfl rfl)
 ·exact TieO.l 5 rfl (lf rfl rfl)
 exact TieO.r 2 rfl (rt rfl)
theorem q557 (t2:STables):TieF Tryz.prog 58 [q20 t2] (q247 t2) (fun r=>NB r):=by
 refine TieF.i htab 62 [.tmp 2] Tryz.call58 Tryz.func58 rfl rfl rfl rfl fun w0 L=>?_
 refine TieS.o 10 rfl (.k (q65 t2.Spark) rfl fun v=>.o 2 rfl (.bind 5 (fun b2=>⟨[NP 1,(15,NB b2)],[(1,.box (q12 t2))]⟩) (TieO.split 10 rfl ?_ ?_) fun b2 _=>?_))
 ·exact TieO.l 6 rfl (lf rfl rfl)
 ·exact TieO.o 2 rfl (.k (q133 t2.Dwell) rfl fun v2=>.l 3 rfl (lf rfl rfl))
 refine TieO.s 1 rfl (.cond rfl ?_ ?_)
 ·exact TieS.r 4 rfl (rt rfl)
 ·refine TieS.s 7 rfl (.loop (fun t=>⟨[NP 1,(3,NI t)],[(1,.box (q12 t2))]⟩) (fun b e σ'=>match b with | .inl t=>e = .exit 0 ∧ Sub ⟨[NP 1],[(1,.box (q12 t2))]⟩ σ' | .inr t=>e = .ret ∧ retT tab σ' [.tmp 2] = some (((fun r=>NB r):Bool → T) t)) (.of rfl rfl) ?_ ?_)
  ·intro i
   refine TieS.s 10 rfl (.cond rfl ?_ ?_)
   ·refine TieS.s 8 rfl (.loop (fun t=>⟨[NP 1,(3,NI i),(4,NI t)],[(1,.box (q12 t2))]⟩) (fun b e σ'=>match b with | .inl t=>e = .exit 2 ∧ Sub ⟨[NP 1,(3,NI i)],[(1,.box (q12 t2))]⟩ σ' | .inr t=>e = .ret ∧ retT tab σ' [.tmp 2] = some (((fun r=>NB r):Bool → T) t)) (.of rfl rfl) ?_ ?_)
    ·intro j
     refine TieS.o 8 rfl (.index rfl rfl rfl rfl rfl rfl rfl rfl (fun _=>rfl) fun x hx=>.s 4 rfl (.cond rfl ?_ ?_))
     ·refine TieS.o 9 rfl (.indexH hx rfl rfl rfl rfl rfl rfl rfl rfl (fun _=>rfl) (.o 2 rfl (.index rfl rfl rfl rfl rfl rfl rfl rfl (fun _=>rfl) fun x2 hx2=>.o 1 rfl (.k (q27 x2 (-1280) 3840) rfl fun v3=>.s 2 rfl (.cond rfl ?_ ?_)))))
      ·exact TieS.r 4 rfl ⟨(fun h=>by cases h),rfl,rfl⟩
      ·exact TieS.l 7 rfl (lf rfl rfl)
     ·exact TieS.exitOut rfl ⟨(fun h=>by cases h),rfl,.of rfl rfl⟩
    rintro (j2 | r2) e σ' _ hq
    ·obtain ⟨rfl,hs⟩:=hq
     refine TieX.exit rfl (TieX.sub hs ?_)
     exact TieS.l 6 rfl (lf rfl rfl)
    ·obtain ⟨rfl,hs⟩:=hq
     exact TieX.ret ⟨(fun h=>by cases h),rfl,hs⟩
   ·exact TieS.exitOut rfl ⟨(fun h=>by cases h),rfl,.of rfl rfl⟩
  rintro (i2 | r4) e σ' _ hq
  ·obtain ⟨rfl,hs⟩:=hq
   refine TieX.exit rfl (TieX.sub hs ?_)
   refine TieS.s 6 rfl (.loop (fun t=>⟨[NP 1,(5,NI t)],[(1,.box (q12 t2))]⟩) (fun b e σ'=>match b with | .inl t=>e = .exit 4 ∧ Sub ⟨[],[]⟩ σ' | .inr t=>e = .ret ∧ retT tab σ' [.tmp 2] = some (((fun r=>NB r):Bool → T) t)) (.of rfl rfl) ?_ ?_)
   ·intro i3
    refine TieS.s 10 rfl (.cond rfl ?_ ?_)
    ·refine TieS.o 9 rfl (.index rfl rfl rfl rfl rfl rfl rfl rfl (fun _=>rfl) fun x3 hx3=>.o 1 rfl (.k (q27 x3 500 10000) rfl fun v4=>.s 2 rfl (.cond rfl ?_ ?_)))
     ·exact TieS.r 4 rfl ⟨(fun h=>by cases h),rfl,rfl⟩
     ·exact TieS.l 7 rfl (lf rfl rfl)
    ·exact TieS.exitOut rfl ⟨(fun h=>by cases h),rfl,.of rfl rfl⟩
   rintro (i4 | r3) e σ' _ hq
   ·obtain ⟨rfl,hs⟩:=hq
    refine TieX.exit rfl (TieX.sub hs ?_)
    exact TieS.r 4 rfl (rt rfl)
   ·obtain ⟨rfl,hs⟩:=hq
    exact TieX.ret ⟨.inl rfl,hs⟩
  ·obtain ⟨rfl,hs⟩:=hq
   exact TieX.ret ⟨.inl rfl,hs⟩
theorem q568 (l:List Int):TieF Tryz.prog 221 [NL l] (q228 l) (fun r=>NB r):=by
 refine TieF.i htab 20 [.tmp 2] Tryz.call221 Tryz.func221 rfl rfl rfl rfl fun w0 L=>?_
 refine TieS.s 10 rfl (.loop (fun t=>⟨[(0,NL l),(3,NI t)],[]⟩) (fun b e σ'=>match b with | .inl t=>e = .exit 0 ∧ Sub ⟨[],[]⟩ σ' | .inr t=>e = .ret ∧ retT tab σ' [.tmp 2] = some (((fun r=>NB r):Bool → T) t)) (.of rfl rfl) ?_ ?_)
 ·intro i
  refine TieS.s 8 rfl (.cond rfl ?_ ?_)
  ·refine TieS.s 4 rfl (TieX.pre fun x hx=>TieX.pre fun x2 hx2=>TieS.dr 10 [(0,NL l),(3,NI i)] [] mixed (.of rfl rfl) (.q rfl rfl rfl (.q rfl rfl rfl (.cons (.index hx rfl rfl rfl rfl rfl rfl (fun _=>rfl)) (.q rfl rfl rfl (.q rfl rfl rfl (.q rfl rfl rfl (.q rfl rfl rfl (.cons (.index hx2 rfl rfl rfl rfl rfl rfl (fun _=>rfl)) (.q rfl rfl rfl (.q rfl rfl rfl (.nil))))))))))) rfl (.s 1 rfl (.cond rfl ?_ ?_)))
   ·exact TieS.r 4 rfl ⟨(fun h=>by cases h),rfl,rfl⟩
   ·exact TieS.l 7 rfl (lf rfl rfl)
  ·exact TieS.exitOut rfl ⟨(fun h=>by cases h),rfl,.of rfl rfl⟩
 rintro (i2 | r2) e σ' _ hq
 ·obtain ⟨rfl,hs⟩:=hq
  refine TieX.exit rfl (TieX.sub hs ?_)
  exact TieS.r 4 rfl (rt rfl)
 ·obtain ⟨rfl,hs⟩:=hq
  exact TieX.ret ⟨.inl rfl,hs⟩
theorem q634 (x:Int) (low:Int) (high:Int):TieF Tryz.prog 258 [NI x,NI low,NI high] (q434 x low high) (fun r=>NB r):=by
 refine TieF.i htab 15 [.tmp 6] Tryz.call258 Tryz.func258 rfl rfl rfl rfl fun w0 L=>?_
 refine TieS.o 10 rfl (.selAnd (v:=decide (x ≤ high)) 4 10 (fun b=>⟨[(14,NB b)],[]⟩) rfl ?_ ?_ ?_)
 ·exact TieO.l 5 rfl (lf rfl rfl)
 ·exact TieO.l 5 rfl (lf rfl rfl)
 exact TieO.r 2 rfl (rt rfl)
theorem q613 (l:List Int) (low:Int) (high:Int):TieF Tryz.prog 222 [NL l,NI low,NI high] (q316 l low high) (fun r=>NB r):=by
 refine TieF.i htab 22 [.tmp 6] Tryz.call222 Tryz.func222 rfl rfl rfl rfl fun w0 L=>?_
 refine TieS.s 10 rfl (.loop (fun t=>⟨[(0,NL l),(1,NI low),(2,NI high),(7,NI t)],[]⟩) (fun b e σ'=>match b with | .inl t=>e = .exit 0 ∧ Sub ⟨[],[]⟩ σ' | .inr t=>e = .ret ∧ retT tab σ' [.tmp 6] = some (((fun r=>NB r):Bool → T) t)) (.of rfl rfl) ?_ ?_)
 ·intro i
  refine TieS.s 8 rfl (.cond rfl ?_ ?_)
  ·refine TieS.o 7 rfl (.index rfl rfl rfl rfl rfl rfl rfl rfl (fun _=>rfl) fun x hx=>.o 3 rfl (.k (q634 x low high) rfl fun v=>.s 2 rfl (.cond rfl ?_ ?_)))
   ·exact TieS.r 4 rfl ⟨(fun h=>by cases h),rfl,rfl⟩
   ·exact TieS.l 7 rfl (lf rfl rfl)
  ·exact TieS.exitOut rfl ⟨(fun h=>by cases h),rfl,.of rfl rfl⟩
 rintro (i2 | r2) e σ' _ hq
 ·obtain ⟨rfl,hs⟩:=hq
  refine TieX.exit rfl (TieX.sub hs ?_)
  exact TieS.r 4 rfl (rt rfl)
 ·obtain ⟨rfl,hs⟩:=hq
  exact TieX.ret ⟨.inl rfl,hs⟩
theorem q562 (c:SCurve):TieF Tryz.prog 154 [q199 c] (q246 c) (fun r=>NB r):=by
 refine TieF.i htab 15 [.tmp 2] Tryz.call154 Tryz.func154 rfl rfl rfl rfl fun w0 L=>?_
 refine TieS.o 8 rfl (.k (q133 c) rfl fun v=>.o 1 rfl (.bind 4 (fun b2=>⟨[NP 1,(9,NB b2)],[(1,.box [NL c.X,NL c.Y])]⟩) (TieO.split 5 rfl ?_ ?_) fun b2 _=>?_))
 ·exact TieO.o 2 rfl (.k (q568 c.Y) rfl fun v2=>.l 2 rfl (lf rfl rfl))
 ·exact TieO.l 5 rfl (lf rfl rfl)
 refine TieO.o 1 rfl (.bind 4 (fun b3=>⟨[(14,NB b3)],[]⟩) (TieO.split 10 rfl ?_ ?_) fun b3 _=>?_)
 ·exact TieO.o 2 rfl (.k (q613 c.Y 0 1000) rfl fun v3=>.l 2 rfl (lf rfl rfl))
 ·exact TieO.l 5 rfl (lf rfl rfl)
 exact TieO.r 2 rfl (rt rfl)
theorem q572 (t2:STables):TieF Tryz.prog 59 [q20 t2] (q231 t2) (fun r=>NB r):=by
 refine TieF.i htab 65 [.tmp 2] Tryz.call59 Tryz.func59 rfl rfl rfl rfl fun w0 L=>?_
 refine TieS.o 10 rfl (.k (q65 t2.Torque) rfl fun v=>.o 2 rfl (.bind 5 (fun b2=>⟨[NP 1,(15,NB b2)],[(1,.box (q12 t2))]⟩) (TieO.split 10 rfl ?_ ?_) fun b2 _=>?_))
 ·exact TieO.l 6 rfl (lf rfl rfl)
 ·exact TieO.o 2 rfl (.k (q562 t2.Efficiency) rfl fun v2=>.l 3 rfl (lf rfl rfl))
 refine TieO.s 1 rfl (.cond rfl ?_ ?_)
 ·exact TieS.r 4 rfl (rt rfl)
 ·refine TieS.s 7 rfl (.loop (fun t=>⟨[NP 1,(3,NI t)],[(1,.box (q12 t2))]⟩) (fun b e σ'=>match b with | .inl t=>e = .exit 0 ∧ Sub ⟨[],[]⟩ σ' | .inr t=>e = .ret ∧ retT tab σ' [.tmp 2] = some (((fun r=>NB r):Bool → T) t)) (.of rfl rfl) ?_ ?_)
  ·intro i
   refine TieS.s 10 rfl (.cond rfl ?_ ?_)
   ·refine TieS.s 8 rfl (.loop (fun t=>⟨[NP 1,(3,NI i),(4,NI t)],[(1,.box (q12 t2))]⟩) (fun b e σ'=>match b with | .inl t=>e = .exit 2 ∧ Sub ⟨[NP 1,(3,NI i)],[(1,.box (q12 t2))]⟩ σ' | .inr t=>e = .ret ∧ retT tab σ' [.tmp 2] = some (((fun r=>NB r):Bool → T) t)) (.of rfl rfl) ?_ ?_)
    ·intro j
     refine TieS.s 10 rfl (.cond rfl ?_ ?_)
     ·refine TieS.o 9 rfl (.index rfl rfl rfl rfl rfl rfl rfl rfl (fun _=>rfl) fun x hx=>.o 2 rfl (.index rfl rfl rfl rfl rfl rfl rfl rfl (fun _=>rfl) fun x2 hx2=>.o 8 rfl (.selOr (v:=decide (x2 > 10000)) 3 43 (fun b=>⟨[NP 1,(3,NI i),(4,NI j),(5,NI x2),(46,NB b)],[(1,.box (q12 t2))]⟩) rfl ?_ ?_ ?_)))
      ·exact TieO.l 4 rfl (lf rfl rfl)
      ·exact TieO.l 4 rfl (lf rfl rfl)
      refine TieO.o 1 rfl (.bind 17 (fun b4=>⟨[NP 1,(3,NI i),(4,NI j),(64,NB b4)],[(1,.box (q12 t2))]⟩) (TieO.split 47 rfl ?_ ?_) fun b4 _=>?_)
      ·exact TieO.l 18 rfl (lf rfl rfl)
      ·refine TieO.o 3 rfl (.bind 13 (fun b3=>⟨[NP 1,(3,NI i),(4,NI j),(47,NB false),(63,NB b3)],[(1,.box (q12 t2))]⟩) (TieO.split 50 rfl ?_ ?_) fun b3 _=>?_)
       ·exact TieO.o 5 rfl (.indexH hx rfl rfl rfl rfl rfl rfl rfl rfl (fun _=>rfl) (.o 3 rfl (.index rfl rfl rfl rfl rfl rfl rfl rfl (fun _=>rfl) fun x3 hx3=>.l 4 rfl (lf rfl rfl))))
       ·exact TieO.l 14 rfl (lf rfl rfl)
       exact TieO.l 2 rfl (lf rfl rfl)
      refine TieO.s 1 rfl (.cond rfl ?_ ?_)
      ·exact TieS.r 4 rfl ⟨(fun h=>by cases h),rfl,rfl⟩
      ·exact TieS.l 7 rfl (lf rfl rfl)
     ·exact TieS.exitOut rfl ⟨(fun h=>by cases h),rfl,.of rfl rfl⟩
    rintro (j2 | r2) e σ' _ hq
    ·obtain ⟨rfl,hs⟩:=hq
     refine TieX.exit rfl (TieX.sub hs ?_)
     exact TieS.l 6 rfl (lf rfl rfl)
    ·obtain ⟨rfl,hs⟩:=hq
     exact TieX.ret ⟨(fun h=>by cases h),rfl,hs⟩
   ·exact TieS.exitOut rfl ⟨(fun h=>by cases h),rfl,.of rfl rfl⟩
  rintro (i2 | r3) e σ' _ hq
  ·obtain ⟨rfl,hs⟩:=hq
   refine TieX.exit rfl (TieX.sub hs ?_)
   exact TieS.r 4 rfl (rt rfl)
  ·obtain ⟨rfl,hs⟩:=hq
   exact TieX.ret ⟨.inl rfl,hs⟩
theorem q418 (t2:STables):TieF Tryz.prog 60 [q20 t2] (q176 t2) (fun r=>NB r):=by
 refine TieF.i htab 32 [.tmp 2] Tryz.call60 Tryz.func60 rfl rfl rfl rfl fun w0 L=>?_
 refine TieS.o 10 rfl (.k (q133 t2.Dead) rfl fun v=>.s 2 rfl (.cond rfl ?_ ?_))
 ·exact TieS.r 4 rfl (rt rfl)
 ·refine TieS.s 7 rfl (.loop (fun t=>⟨[NP 1,(3,NI t)],[(1,.box (q12 t2))]⟩) (fun b e σ'=>match b with | .inl t=>e = .exit 0 ∧ Sub ⟨[],[]⟩ σ' | .inr t=>e = .ret ∧ retT tab σ' [.tmp 2] = some (((fun r=>NB r):Bool → T) t)) (.of rfl rfl) ?_ ?_)
  ·intro i
   refine TieS.s 10 rfl (.cond rfl ?_ ?_)
   ·refine TieS.o 9 rfl (.index rfl rfl rfl rfl rfl rfl rfl rfl (fun _=>rfl) fun x hx=>.o 3 rfl (.bind 8 (fun b2=>⟨[NP 1,(3,NI i),(31,NB b2)],[(1,.box (q12 t2))]⟩) (TieO.split 23 rfl ?_ ?_) fun b2 _=>?_))
    ·exact TieO.l 9 rfl (lf rfl rfl)
    ·exact TieO.o 4 rfl (.indexH hx rfl rfl rfl rfl rfl rfl rfl rfl (fun _=>rfl) (.l 4 rfl (lf rfl rfl)))
    refine TieO.s 1 rfl (.cond rfl ?_ ?_)
    ·exact TieS.r 4 rfl ⟨(fun h=>by cases h),rfl,rfl⟩
    ·exact TieS.l 7 rfl (lf rfl rfl)
   ·exact TieS.exitOut rfl ⟨(fun h=>by cases h),rfl,.of rfl rfl⟩
  rintro (i2 | r2) e σ' _ hq
  ·obtain ⟨rfl,hs⟩:=hq
   refine TieX.exit rfl (TieX.sub hs ?_)
   exact TieS.r 4 rfl (rt rfl)
  ·obtain ⟨rfl,hs⟩:=hq
   exact TieX.ret ⟨.inl rfl,hs⟩
theorem q421 (g:SGain):TieF Tryz.prog 62 [A_SGain g] (q173 g) (fun r=>NB r):=by
 refine TieF.i htab 38 [.tmp 2] Tryz.call62 Tryz.func62 rfl rfl rfl rfl fun w0 L=>?_
 refine TieS.o 11 rfl (.selAnd (v:=decide (g.P ≤ 65536)) 4 6 (fun b=>⟨[NP 1,(10,NB b)],[(1,.box [NI g.P,NI g.I,NI g.Low,NI g.High])]⟩) rfl ?_ ?_ ?_)
 ·exact TieO.l 5 rfl (lf rfl rfl)
 ·exact TieO.l 5 rfl (lf rfl rfl)
 refine TieO.o 1 rfl (.selAnd (v:=decide (g.I ≥ 0)) 4 11 (fun b=>⟨[NP 1,(15,NB b)],[(1,.box [NI g.P,NI g.I,NI g.Low,NI g.High])]⟩) rfl ?_ ?_ ?_)
 ·exact TieO.l 5 rfl (lf rfl rfl)
 ·exact TieO.l 5 rfl (lf rfl rfl)
 refine TieO.o 1 rfl (.selAnd (v:=decide (g.I ≤ 65536)) 4 16 (fun b=>⟨[NP 1,(20,NB b)],[(1,.box [NI g.P,NI g.I,NI g.Low,NI g.High])]⟩) rfl ?_ ?_ ?_)
 ·exact TieO.l 5 rfl (lf rfl rfl)
 ·exact TieO.l 5 rfl (lf rfl rfl)
 refine TieO.o 1 rfl (.selAnd (v:=decide (g.Low ≥ (-1073741824))) 4 21 (fun b=>⟨[NP 1,(25,NB b)],[(1,.box [NI g.P,NI g.I,NI g.Low,NI g.High])]⟩) rfl ?_ ?_ ?_)
 ·exact TieO.l 5 rfl (lf rfl rfl)
 ·exact TieO.l 5 rfl (lf rfl rfl)
 refine TieO.o 1 rfl (.selAnd (v:=decide (g.Low ≤ g.High)) 6 26 (fun b=>⟨[NP 1,(32,NB b)],[(1,.box [NI g.P,NI g.I,NI g.Low,NI g.High])]⟩) rfl ?_ ?_ ?_)
 ·exact TieO.l 7 rfl (lf rfl rfl)
 ·exact TieO.l 7 rfl (lf rfl rfl)
 refine TieO.o 1 rfl (.selAnd (v:=decide (g.High ≤ 1073741824)) 4 33 (fun b=>⟨[(37,NB b)],[]⟩) rfl ?_ ?_ ?_)
 ·exact TieO.l 5 rfl (lf rfl rfl)
 ·exact TieO.l 5 rfl (lf rfl rfl)
 exact TieO.r 2 rfl (rt rfl)
theorem q558 (t2:STables):TieF Tryz.prog 16 [q20 t2] (q235 t2) (fun r=>NB r):=by
 refine TieF.i htab 27 [.tmp 2] Tryz.call16 Tryz.func16 rfl rfl rfl rfl fun w0 L=>?_
 refine TieS.o 8 rfl (.k (q260 t2) rfl fun v=>.o 1 rfl (.bind 3 (fun b2=>⟨[NP 1,(8,NB b2)],[(1,.box (q12 t2))]⟩) (TieO.split 5 rfl ?_ ?_) fun b2 _=>?_))
 ·exact TieO.o 1 rfl (.k (q557 t2) rfl fun v2=>.l 2 rfl (lf rfl rfl))
 ·exact TieO.l 4 rfl (lf rfl rfl)
 refine TieO.o 1 rfl (.bind 3 (fun b3=>⟨[NP 1,(12,NB b3)],[(1,.box (q12 t2))]⟩) (TieO.split 9 rfl ?_ ?_) fun b3 _=>?_)
 ·exact TieO.o 1 rfl (.k (q572 t2) rfl fun v3=>.l 2 rfl (lf rfl rfl))
 ·exact TieO.l 4 rfl (lf rfl rfl)
 refine TieO.o 1 rfl (.bind 3 (fun b4=>⟨[NP 1,(16,NB b4)],[(1,.box (q12 t2))]⟩) (TieO.split 13 rfl ?_ ?_) fun b4 _=>?_)
 ·exact TieO.o 1 rfl (.k (q418 t2) rfl fun v4=>.l 2 rfl (lf rfl rfl))
 ·exact TieO.l 4 rfl (lf rfl rfl)
 refine TieO.o 1 rfl (.bind 4 (fun b5=>⟨[NP 1,(21,NB b5)],[(1,.box (q12 t2))]⟩) (TieO.split 17 rfl ?_ ?_) fun b5 _=>?_)
 ·exact TieO.o 2 rfl (.k (q65 t2.Wish) rfl fun v5=>.l 2 rfl (lf rfl rfl))
 ·exact TieO.l 5 rfl (lf rfl rfl)
 refine TieO.o 1 rfl (.bind 4 (fun b6=>⟨[(26,NB b6)],[]⟩) (TieO.split 22 rfl ?_ ?_) fun b6 _=>?_)
 ·exact TieO.o 2 rfl (.k (q421 t2.Idle) rfl fun v6=>.l 2 rfl (lf rfl rfl))
 ·exact TieO.l 5 rfl (lf rfl rfl)
 exact TieO.r 2 rfl (rt rfl)
theorem q579 (a:Int):TieF Tryz.prog 138 [NI a] (q351 a) (fun r=>NB r):=by
 refine TieF.i htab 9 [.tmp 2] Tryz.call138 Tryz.func138 rfl rfl rfl rfl fun w0 L=>?_
 refine TieS.o 9 rfl (.selAnd (v:=decide (a < 46080)) 3 5 (fun b=>⟨[(8,NB b)],[]⟩) rfl ?_ ?_ ?_)
 ·exact TieO.l 4 rfl (lf rfl rfl)
 ·exact TieO.l 4 rfl (lf rfl rfl)
 exact TieO.r 2 rfl (rt rfl)
theorem q571 (e2:SEngine):TieF Tryz.prog 49 [q190 e2] (q245 e2) (fun r=>NB r):=by
 refine TieF.i htab 57 [.tmp 2] Tryz.call49 Tryz.func49 rfl rfl rfl rfl fun w0 L=>?_
 refine TieS.o 18 rfl (.selOr (v:=decide ((e2.Order.length:Int) > 8)) 3 11 (fun b=>⟨[NP 1,(3,NI (e2.Order.length:Int)),(14,NB b)],[(1,.box [NL e2.Order,NI e2.First])]⟩) rfl ?_ ?_ ?_)
 ·exact TieO.l 4 rfl (lf rfl rfl)
 ·exact TieO.l 4 rfl (lf rfl rfl)
 refine TieO.o 1 rfl (.bind 5 (fun b2=>⟨[NP 1,(3,NI (e2.Order.length:Int)),(20,NB b2)],[(1,.box [NL e2.Order,NI e2.First])]⟩) (TieO.split 15 rfl ?_ ?_) fun b2 _=>?_)
 ·exact TieO.l 6 rfl (lf rfl rfl)
 ·exact TieO.o 2 rfl (.k (q579 e2.First) rfl fun v=>.l 3 rfl (lf rfl rfl))
 refine TieO.s 1 rfl (.cond rfl ?_ ?_)
 ·exact TieS.r 4 rfl (rt rfl)
 ·refine TieS.s 7 rfl (.loop (fun t=>⟨[NP 1,(3,NI (e2.Order.length:Int)),(4,NI t)],[(1,.box [NL e2.Order,NI e2.First])]⟩) (fun b e σ'=>match b with | .inl t=>e = .exit 0 ∧ Sub ⟨[],[]⟩ σ' | .inr t=>e = .ret ∧ retT tab σ' [.tmp 2] = some (((fun r=>NB r):Bool → T) t)) (.of rfl rfl) ?_ ?_)
  ·intro i
   refine TieS.s 7 rfl (.cond rfl ?_ ?_)
   ·refine TieS.o 9 rfl (.index rfl rfl rfl rfl rfl rfl rfl rfl (fun _=>rfl) fun x hx=>.o 3 rfl (.bind 8 (fun b3=>⟨[NP 1,(3,NI (e2.Order.length:Int)),(4,NI i),(40,NB b3)],[(1,.box [NL e2.Order,NI e2.First])]⟩) (TieO.split 32 rfl ?_ ?_) fun b3 _=>?_))
    ·exact TieO.l 9 rfl (lf rfl rfl)
    ·exact TieO.o 3 rfl (.indexH hx rfl rfl rfl rfl rfl rfl rfl rfl (fun _=>rfl) (.l 5 rfl (lf rfl rfl)))
    refine TieO.s 1 rfl (.cond rfl ?_ ?_)
    ·exact TieS.r 4 rfl ⟨(fun h=>by cases h),rfl,rfl⟩
    ·refine TieS.s 6 rfl (.loop (fun t=>⟨[NP 1,(3,NI (e2.Order.length:Int)),(4,NI i),(5,NI t)],[(1,.box [NL e2.Order,NI e2.First])]⟩) (fun b e σ'=>match b with | .inl t=>e = .exit 2 ∧ Sub ⟨[NP 1,(3,NI (e2.Order.length:Int)),(4,NI i)],[(1,.box [NL e2.Order,NI e2.First])]⟩ σ' | .inr t=>e = .ret ∧ retT tab σ' [.tmp 2] = some (((fun r=>NB r):Bool → T) t)) (.of rfl rfl) ?_ ?_)
     ·intro k
      refine TieS.s 7 rfl (.cond rfl ?_ ?_)
      ·refine TieS.s 4 rfl (TieX.pre fun x2 hx2=>TieS.dr 11 [NP 1,(3,NI (e2.Order.length:Int)),(4,NI i),(5,NI k)] [(1,.box [NL e2.Order,NI e2.First])] mixed (.of rfl rfl) (.q rfl rfl rfl (.q rfl rfl rfl (.q rfl rfl rfl (.cons (.index hx2 rfl rfl rfl rfl rfl rfl (fun _=>rfl)) (.q rfl rfl rfl (.q rfl rfl rfl (.q rfl rfl rfl (.q rfl rfl rfl (.cons (.index hx rfl rfl rfl rfl rfl rfl (fun _=>rfl)) (.q rfl rfl rfl (.q rfl rfl rfl (.nil)))))))))))) rfl (.s 1 rfl (.cond rfl ?_ ?_)))
       ·exact TieS.r 4 rfl ⟨(fun h=>by cases h),rfl,rfl⟩
       ·exact TieS.l 7 rfl (lf rfl rfl)
      ·exact TieS.exitOut rfl ⟨(fun h=>by cases h),rfl,.of rfl rfl⟩
     rintro (k2 | r2) e σ' _ hq
     ·obtain ⟨rfl,hs⟩:=hq
      refine TieX.exit rfl (TieX.sub hs ?_)
      exact TieS.l 6 rfl (lf rfl rfl)
     ·obtain ⟨rfl,hs⟩:=hq
      exact TieX.ret ⟨(fun h=>by cases h),rfl,hs⟩
   ·exact TieS.exitOut rfl ⟨(fun h=>by cases h),rfl,.of rfl rfl⟩
  rintro (i2 | r3) e σ' _ hq
  ·obtain ⟨rfl,hs⟩:=hq
   refine TieX.exit rfl (TieX.sub hs ?_)
   exact TieS.r 4 rfl (rt rfl)
  ·obtain ⟨rfl,hs⟩:=hq
   exact TieX.ret ⟨.inl rfl,hs⟩
theorem q567 (p2:SPedal):TieF Tryz.prog 70 [q411 p2] (q238 p2) (fun r=>NB r):=by
 refine TieF.i htab 37 [.tmp 2] Tryz.call70 Tryz.func70 rfl rfl rfl rfl fun w0 L=>?_
 refine TieS.o 12 rfl (.selOr (v:=decide (p2.Value > 1000)) 4 6 (fun b=>⟨[NP 1,(10,NB b)],[(1,.box [NI p2.Value,NI p2.Differ,NB p2.Fault])]⟩) rfl ?_ ?_ ?_)
 ·exact TieO.l 5 rfl (lf rfl rfl)
 ·exact TieO.l 5 rfl (lf rfl rfl)
 refine TieO.o 1 rfl (.selOr (v:=decide (p2.Differ < 0)) 4 11 (fun b=>⟨[NP 1,(15,NB b)],[(1,.box [NI p2.Value,NI p2.Differ,NB p2.Fault])]⟩) rfl ?_ ?_ ?_)
 ·exact TieO.l 5 rfl (lf rfl rfl)
 ·exact TieO.l 5 rfl (lf rfl rfl)
 refine TieO.o 1 rfl (.selOr (v:=decide (p2.Differ > 3)) 4 16 (fun b=>⟨[NP 1,(20,NB b)],[(1,.box [NI p2.Value,NI p2.Differ,NB p2.Fault])]⟩) rfl ?_ ?_ ?_)
 ·exact TieO.l 5 rfl (lf rfl rfl)
 ·exact TieO.l 5 rfl (lf rfl rfl)
 refine TieO.o 1 rfl (.selOr (v:=(!(p2.Fault == (p2.Differ == 3)))) 7 21 (fun b=>⟨[NP 1,(28,NB b)],[(1,.box [NI p2.Value,NI p2.Differ,NB p2.Fault])]⟩) rfl ?_ ?_ ?_)
 ·exact TieO.l 8 rfl (lf rfl rfl)
 ·exact TieO.l 8 rfl (lf rfl rfl)
 refine TieO.s 1 rfl (.cond rfl ?_ ?_)
 ·exact TieS.r 4 rfl (rt rfl)
 ·refine TieS.o 7 rfl (.selOr (v:=decide (p2.Value ≤ 200)) 4 32 (fun b=>⟨[(36,NB b)],[]⟩) rfl ?_ ?_ ?_)
  ·exact TieO.l 5 rfl (lf rfl rfl)
  ·exact TieO.l 5 rfl (lf rfl rfl)
  exact TieO.r 2 rfl (rt rfl)
theorem q44 (n2:Int) (low:Int) (high:Int):TieF Tryz.prog 160 [NI n2,NI low,NI high] (q42 n2 low high) (fun r=>NB r):=by
 refine TieF.i htab 15 [.tmp 6] Tryz.call160 Tryz.func160 rfl rfl rfl rfl fun w0 L=>?_
 refine TieS.o 10 rfl (.selAnd (v:=decide (n2 ≤ high)) 4 10 (fun b=>⟨[(14,NB b)],[]⟩) rfl ?_ ?_ ?_)
 ·exact TieO.l 5 rfl (lf rfl rfl)
 ·exact TieO.l 5 rfl (lf rfl rfl)
 exact TieO.r 2 rfl (rt rfl)
abbrev x71_0 (p2:SProbe):List T:=[NB p2.Active,NB p2.Rich,NI p2.Factor,NI p2.Wait,NS q18 p2.Cells]
theorem q256 (p2:SProbe):TieF Tryz.prog 71 [q96 p2] (q99 p2) (fun r=>NB r):=by
 refine TieF.i htab 59 [.tmp 2] Tryz.call71 Tryz.func71 rfl rfl rfl rfl fun w0 L=>?_
 refine TieS.o 10 rfl (.k (q44 p2.Factor 750 1250) rfl fun v=>.o 2 rfl (.bind 5 (fun b2=>⟨[NP 1,(13,NB b2)],[(1,.box (x71_0 p2))]⟩) (TieO.split 8 rfl ?_ ?_) fun b2 _=>?_))
 ·exact TieO.l 6 rfl (lf rfl rfl)
 ·exact TieO.o 2 rfl (.k (q44 p2.Wait 0 1000) rfl fun v2=>.l 3 rfl (lf rfl rfl))
 refine TieO.o 1 rfl (.selOr (v:=((p2.Cells.length:Int) != 9)) 5 14 (fun b=>⟨[NP 1,(19,NB b)],[(1,.box (x71_0 p2))]⟩) rfl ?_ ?_ ?_)
 ·exact TieO.l 6 rfl (lf rfl rfl)
 ·exact TieO.l 6 rfl (lf rfl rfl)
 refine TieO.s 1 rfl (.cond rfl ?_ ?_)
 ·exact TieS.r 4 rfl (rt rfl)
 ·refine TieS.s 7 rfl (.loop (fun t=>⟨[NP 1,(3,NI t)],[(1,.box (x71_0 p2))]⟩) (fun b e σ'=>match b with | .inl t=>e = .exit 0 ∧ Sub ⟨[NP 1],[(1,.box (x71_0 p2))]⟩ σ' | .inr t=>e = .ret ∧ retT tab σ' [.tmp 2] = some (((fun r=>NB r):Bool → T) t)) (.of rfl rfl) ?_ ?_)
  ·intro i
   refine TieS.s 6 rfl (.cond rfl ?_ ?_)
   ·refine TieS.o 8 rfl (.index rfl rfl rfl rfl rfl rfl rfl rfl (fun _=>rfl) fun x hx=>.o 2 rfl (.k (q44 x.Value (-100) 100) rfl fun v3=>.o 2 rfl (.bind 9 (fun b3=>⟨[NP 1,(3,NI i),(41,NB b3)],[(1,.box (x71_0 p2))]⟩) (TieO.split 32 rfl ?_ ?_) fun b3 _=>?_)))
    ·exact TieO.l 10 rfl (lf rfl rfl)
    ·exact TieO.o 3 rfl (.indexH hx rfl rfl rfl rfl rfl rfl rfl rfl (fun _=>rfl) (.o 2 rfl (.k (q44 x.Count 0 1000) rfl fun v4=>.l 3 rfl (lf rfl rfl))))
    refine TieO.s 1 rfl (.cond rfl ?_ ?_)
    ·exact TieS.r 4 rfl ⟨(fun h=>by cases h),rfl,rfl⟩
    ·exact TieS.l 7 rfl (lf rfl rfl)
   ·exact TieS.exitOut rfl ⟨(fun h=>by cases h),rfl,.of rfl rfl⟩
  rintro (i2 | r2) e σ' _ hq
  ·obtain ⟨rfl,hs⟩:=hq
   refine TieX.exit rfl (TieX.sub hs ?_)
   refine TieS.o 5 rfl (.bind 14 (fun b4=>⟨[(58,NB b4)],[]⟩) (TieO.split 44 rfl ?_ ?_) fun b4 _=>?_)
   ·exact TieO.l 15 rfl (lf rfl rfl)
   ·refine TieO.o 4 rfl (.selAnd (v:=(p2.Wait == 0)) 4 48 (fun b=>⟨[NP 1,(44,NB false),(52,NB b)],[(1,.box (x71_0 p2))]⟩) rfl ?_ ?_ ?_)
    ·exact TieO.l 5 rfl (lf rfl rfl)
    ·exact TieO.l 5 rfl (lf rfl rfl)
    refine TieO.o 1 rfl (.selAnd (v:=(!p2.Rich)) 4 53 (fun b=>⟨[(44,NB false),(57,NB b)],[]⟩) rfl ?_ ?_ ?_)
    ·exact TieO.l 5 rfl (lf rfl rfl)
    ·exact TieO.l 5 rfl (lf rfl rfl)
    exact TieO.l 2 rfl (lf rfl rfl)
   exact TieO.r 2 rfl (rt rfl)
  ·obtain ⟨rfl,hs⟩:=hq
   exact TieX.ret ⟨.inl rfl,hs⟩
theorem q341 (s:SIntegral):TieF Tryz.prog 72 [q136 s] (q103 s) (fun r=>NB r):=by
 refine TieF.i htab 11 [.tmp 2] Tryz.call72 Tryz.func72 rfl rfl rfl rfl fun w0 L=>?_
 refine TieS.o 11 rfl (.selAnd (v:=decide (s.Sum ≤ 4398046511104)) 4 6 (fun b=>⟨[(10,NB b)],[]⟩) rfl ?_ ?_ ?_)
 ·exact TieO.l 5 rfl (lf rfl rfl)
 ·exact TieO.l 5 rfl (lf rfl rfl)
 exact TieO.r 2 rfl (rt rfl)
theorem q324 (n2:Int):TieF Tryz.prog 79 [NI n2] (q92 n2) (fun r=>NB r):=by
 refine TieF.i htab 9 [.tmp 2] Tryz.call79 Tryz.func79 rfl rfl rfl rfl fun w0 L=>?_
 refine TieS.o 9 rfl (.selAnd (v:=decide (n2 ≤ 4095)) 3 5 (fun b=>⟨[(8,NB b)],[]⟩) rfl ?_ ?_ ?_)
 ·exact TieO.l 4 rfl (lf rfl rfl)
 ·exact TieO.l 4 rfl (lf rfl rfl)
 exact TieO.r 2 rfl (rt rfl)
theorem q559 (k:SKnock):TieF Tryz.prog 74 [q258 k] (q233 k) (fun r=>NB r):=by
 refine TieF.i htab 26 [.tmp 2] Tryz.call74 Tryz.func74 rfl rfl rfl rfl fun w0 L=>?_
 refine TieS.o 11 rfl (.selAnd (v:=decide (k.Retard ≤ 960)) 4 6 (fun b=>⟨[NP 1,(10,NB b)],[(1,.box [NI k.Retard,NI k.Noise,NI k.Quiet])]⟩) rfl ?_ ?_ ?_)
 ·exact TieO.l 5 rfl (lf rfl rfl)
 ·exact TieO.l 5 rfl (lf rfl rfl)
 refine TieO.o 1 rfl (.bind 4 (fun b2=>⟨[NP 1,(15,NB b2)],[(1,.box [NI k.Retard,NI k.Noise,NI k.Quiet])]⟩) (TieO.split 11 rfl ?_ ?_) fun b2 _=>?_)
 ·exact TieO.o 2 rfl (.k (q324 k.Noise) rfl fun v=>.l 2 rfl (lf rfl rfl))
 ·exact TieO.l 5 rfl (lf rfl rfl)
 refine TieO.o 1 rfl (.selAnd (v:=decide (k.Quiet ≥ 0)) 4 16 (fun b=>⟨[NP 1,(20,NB b)],[(1,.box [NI k.Retard,NI k.Noise,NI k.Quiet])]⟩) rfl ?_ ?_ ?_)
 ·exact TieO.l 5 rfl (lf rfl rfl)
 ·exact TieO.l 5 rfl (lf rfl rfl)
 refine TieO.o 1 rfl (.selAnd (v:=decide (k.Quiet ≤ 99)) 4 21 (fun b=>⟨[(25,NB b)],[]⟩) rfl ?_ ?_ ?_)
 ·exact TieO.l 5 rfl (lf rfl rfl)
 ·exact TieO.l 5 rfl (lf rfl rfl)
 exact TieO.r 2 rfl (rt rfl)
theorem q372 (t2:Int):TieF Tryz.prog 75 [NI t2] (q128 t2) (fun r=>NB r):=by
 refine TieF.i htab 9 [.tmp 2] Tryz.call75 Tryz.func75 rfl rfl rfl rfl fun w0 L=>?_
 refine TieS.o 9 rfl (.selAnd (v:=decide (t2 ≤ 10000)) 3 5 (fun b=>⟨[(8,NB b)],[]⟩) rfl ?_ ?_ ?_)
 ·exact TieO.l 4 rfl (lf rfl rfl)
 ·exact TieO.l 4 rfl (lf rfl rfl)
 exact TieO.r 2 rfl (rt rfl)
theorem q605 (e2:SEngine) (c:SControls):TieF Tryz.prog 19 [q190 e2,q77 c] (q267 e2 c) (fun r=>NB r):=by
 refine TieF.i htab 66 [.tmp 4] Tryz.call19 Tryz.func19 rfl rfl rfl rfl fun w0 L=>?_
 refine TieS.o 10 rfl (.k (q571 e2) rfl fun v=>.o 2 rfl (.bind 5 (fun b2=>⟨[NP 2,NP 3,(14,NB b2)],[(2,.box [NL e2.Order,NI e2.First]),(3,.box (q11 c))]⟩) (TieO.split 9 rfl ?_ ?_) fun b2 _=>?_))
 ·exact TieO.l 6 rfl (lf rfl rfl)
 ·exact TieO.o 2 rfl (.k (q567 c.Pedal) rfl fun v2=>.l 3 rfl (lf rfl rfl))
 refine TieO.o 1 rfl (.bind 5 (fun b3=>⟨[NP 2,NP 3,(20,NB b3)],[(2,.box [NL e2.Order,NI e2.First]),(3,.box (q11 c))]⟩) (TieO.split 15 rfl ?_ ?_) fun b3 _=>?_)
 ·exact TieO.l 6 rfl (lf rfl rfl)
 ·exact TieO.o 2 rfl (.k (q256 c.Probe) rfl fun v3=>.l 3 rfl (lf rfl rfl))
 refine TieO.o 1 rfl (.bind 5 (fun b4=>⟨[NP 2,NP 3,(26,NB b4)],[(2,.box [NL e2.Order,NI e2.First]),(3,.box (q11 c))]⟩) (TieO.split 21 rfl ?_ ?_) fun b4 _=>?_)
 ·exact TieO.l 6 rfl (lf rfl rfl)
 ·exact TieO.o 2 rfl (.k (q341 c.Idle) rfl fun v4=>.l 3 rfl (lf rfl rfl))
 refine TieO.o 1 rfl (.selOr (v:=((c.Knock.length:Int) != (e2.Order.length:Int))) 8 27 (fun b=>⟨[NP 3,(35,NB b)],[(3,.box (q11 c))]⟩) rfl ?_ ?_ ?_)
 ·exact TieO.l 9 rfl (lf rfl rfl)
 ·exact TieO.l 9 rfl (lf rfl rfl)
 refine TieO.o 1 rfl (.bind 5 (fun b5=>⟨[NP 3,(41,NB b5)],[(3,.box (q11 c))]⟩) (TieO.split 36 rfl ?_ ?_) fun b5 _=>?_)
 ·exact TieO.l 6 rfl (lf rfl rfl)
 ·exact TieO.o 2 rfl (.k (q27 c.Film 0 1073741824) rfl fun v5=>.l 3 rfl (lf rfl rfl))
 refine TieO.s 1 rfl (.cond rfl ?_ ?_)
 ·exact TieS.r 4 rfl (rt rfl)
 ·refine TieS.s 7 rfl (.loop (fun t=>⟨[NP 3,(5,NI t)],[(3,.box (q11 c))]⟩) (fun b e σ'=>match b with | .inl t=>e = .exit 0 ∧ Sub ⟨[NP 3],[(3,.box (q11 c))]⟩ σ' | .inr t=>e = .ret ∧ retT tab σ' [.tmp 4] = some (((fun r=>NB r):Bool → T) t)) (.of rfl rfl) ?_ ?_)
  ·intro i
   refine TieS.s 9 rfl (.cond rfl ?_ ?_)
   ·refine TieS.o 8 rfl (.index rfl rfl rfl rfl rfl rfl rfl rfl (fun _=>rfl) fun x hx=>.o 1 rfl (.k (q559 x) rfl fun v6=>.s 2 rfl (.cond rfl ?_ ?_)))
    ·exact TieS.r 4 rfl ⟨(fun h=>by cases h),rfl,rfl⟩
    ·exact TieS.l 7 rfl (lf rfl rfl)
   ·exact TieS.exitOut rfl ⟨(fun h=>by cases h),rfl,.of rfl rfl⟩
  rintro (i2 | r2) e σ' _ hq
  ·obtain ⟨rfl,hs⟩:=hq
   refine TieX.exit rfl (TieX.sub hs ?_)
   refine TieS.o 5 rfl (.k (q372 c.Grant.Torque) rfl fun v7=>.o 1 rfl (.bind 5 (fun b6=>⟨[(65,NB b6)],[]⟩) (TieO.split 60 rfl ?_ ?_) fun b6 _=>?_))
   ·exact TieO.o 3 rfl (.k (q27 c.Grant.Source (-1) 15) rfl fun v8=>.l 2 rfl (lf rfl rfl))
   ·exact TieO.l 6 rfl (lf rfl rfl)
   exact TieO.r 2 rfl (rt rfl)
  ·obtain ⟨rfl,hs⟩:=hq
   exact TieX.ret ⟨.inl rfl,hs⟩
abbrev x80_0 (r2:SRequest):List T:=[NI r2.Source,NI r2.Kind,NI r2.Torque,NI r2.Priority]
theorem q561 (r2:SRequest):TieF Tryz.prog 80 [q33 r2] (q249 r2) (fun r=>NB r):=by
 refine TieF.i htab 45 [.tmp 2] Tryz.call80 Tryz.func80 rfl rfl rfl rfl fun w0 L=>?_
 refine TieS.o 12 rfl (.selOr (v:=decide (r2.Source > 15)) 4 6 (fun b=>⟨[NP 1,(10,NB b)],[(1,.box (x80_0 r2))]⟩) rfl ?_ ?_ ?_)
 ·exact TieO.l 5 rfl (lf rfl rfl)
 ·exact TieO.l 5 rfl (lf rfl rfl)
 refine TieO.o 1 rfl (.selOr (v:=decide (r2.Priority < 0)) 4 11 (fun b=>⟨[NP 1,(15,NB b)],[(1,.box (x80_0 r2))]⟩) rfl ?_ ?_ ?_)
 ·exact TieO.l 5 rfl (lf rfl rfl)
 ·exact TieO.l 5 rfl (lf rfl rfl)
 refine TieO.o 1 rfl (.selOr (v:=decide (r2.Priority > 15)) 4 16 (fun b=>⟨[NP 1,(20,NB b)],[(1,.box (x80_0 r2))]⟩) rfl ?_ ?_ ?_)
 ·exact TieO.l 5 rfl (lf rfl rfl)
 ·exact TieO.l 5 rfl (lf rfl rfl)
 refine TieO.o 1 rfl (.bind 5 (fun b2=>⟨[NP 1,(26,NB b2)],[(1,.box (x80_0 r2))]⟩) (TieO.split 21 rfl ?_ ?_) fun b2 _=>?_)
 ·exact TieO.l 6 rfl (lf rfl rfl)
 ·exact TieO.o 2 rfl (.k (q372 r2.Torque) rfl fun v=>.l 3 rfl (lf rfl rfl))
 refine TieO.o 1 rfl (.selOr (v:=decide (r2.Kind < 1)) 4 27 (fun b=>⟨[NP 1,(31,NB b)],[(1,.box (x80_0 r2))]⟩) rfl ?_ ?_ ?_)
 ·exact TieO.l 5 rfl (lf rfl rfl)
 ·exact TieO.l 5 rfl (lf rfl rfl)
 refine TieO.o 1 rfl (.selOr (v:=decide (r2.Kind > 3)) 4 32 (fun b=>⟨[NP 1,(36,NB b)],[(1,.box (x80_0 r2))]⟩) rfl ?_ ?_ ?_)
 ·exact TieO.l 5 rfl (lf rfl rfl)
 ·exact TieO.l 5 rfl (lf rfl rfl)
 refine TieO.s 1 rfl (.cond rfl ?_ ?_)
 ·exact TieS.r 4 rfl (rt rfl)
 ·refine TieS.o 7 rfl (.selOr (v:=(r2.Kind == 1)) 4 40 (fun b=>⟨[(44,NB b)],[]⟩) rfl ?_ ?_ ?_)
  ·exact TieO.l 5 rfl (lf rfl rfl)
  ·exact TieO.l 5 rfl (lf rfl rfl)
  exact TieO.r 2 rfl (rt rfl)
theorem q573 (v_in:SInputs) (n2:Int):TieF Tryz.prog 21 [q308 v_in,NI n2] (q226 v_in n2) (fun r=>NB r):=by
 refine TieF.i htab 83 [.tmp 4] Tryz.call21 Tryz.func21 rfl rfl rfl rfl fun w0 L=>?_
 refine TieS.o 9 rfl (.k (q27 n2 1 8) rfl fun v=>.o 2 rfl (.bind 5 (fun b2=>⟨[(1,NI n2),NP 2,(15,NB b2)],[(2,.box (q14 v_in))]⟩) (TieO.split 10 rfl ?_ ?_) fun b2 _=>?_))
 ·exact TieO.l 6 rfl (lf rfl rfl)
 ·exact TieO.o 2 rfl (.k (q27 v_in.Speed 0 12000) rfl fun v2=>.l 3 rfl (lf rfl rfl))
 refine TieO.o 1 rfl (.bind 5 (fun b3=>⟨[(1,NI n2),NP 2,(21,NB b3)],[(2,.box (q14 v_in))]⟩) (TieO.split 16 rfl ?_ ?_) fun b3 _=>?_)
 ·exact TieO.l 6 rfl (lf rfl rfl)
 ·exact TieO.o 2 rfl (.k (q27 v_in.Pressure 50 3000) rfl fun v3=>.l 3 rfl (lf rfl rfl))
 refine TieO.o 1 rfl (.bind 5 (fun b4=>⟨[(1,NI n2),NP 2,(27,NB b4)],[(2,.box (q14 v_in))]⟩) (TieO.split 22 rfl ?_ ?_) fun b4 _=>?_)
 ·exact TieO.l 6 rfl (lf rfl rfl)
 ·exact TieO.o 2 rfl (.k (q27 v_in.AirTemp (-40) 150) rfl fun v4=>.l 3 rfl (lf rfl rfl))
 refine TieO.o 1 rfl (.bind 5 (fun b5=>⟨[(1,NI n2),NP 2,(33,NB b5)],[(2,.box (q14 v_in))]⟩) (TieO.split 28 rfl ?_ ?_) fun b5 _=>?_)
 ·exact TieO.l 6 rfl (lf rfl rfl)
 ·exact TieO.o 2 rfl (.k (q27 v_in.Coolant (-40) 150) rfl fun v5=>.l 3 rfl (lf rfl rfl))
 refine TieO.o 1 rfl (.bind 5 (fun b6=>⟨[(1,NI n2),NP 2,(39,NB b6)],[(2,.box (q14 v_in))]⟩) (TieO.split 34 rfl ?_ ?_) fun b6 _=>?_)
 ·exact TieO.l 6 rfl (lf rfl rfl)
 ·exact TieO.o 2 rfl (.k (q27 v_in.Voltage 0 20000) rfl fun v6=>.l 3 rfl (lf rfl rfl))
 refine TieO.o 1 rfl (.bind 5 (fun b7=>⟨[(1,NI n2),NP 2,(45,NB b7)],[(2,.box (q14 v_in))]⟩) (TieO.split 40 rfl ?_ ?_) fun b7 _=>?_)
 ·exact TieO.l 6 rfl (lf rfl rfl)
 ·exact TieO.o 2 rfl (.k (q27 v_in.Lambda 0 20000) rfl fun v7=>.l 3 rfl (lf rfl rfl))
 refine TieO.s 1 rfl (.cond rfl ?_ ?_)
 ·exact TieS.r 4 rfl (rt rfl)
 ·refine TieS.o 10 rfl (.selOr (v:=decide ((v_in.Requests.length:Int) > 30)) 5 51 (fun b=>⟨[(1,NI n2),NP 2,(56,NB b)],[(2,.box (q14 v_in))]⟩) rfl ?_ ?_ ?_)
  ·exact TieO.l 6 rfl (lf rfl rfl)
  ·exact TieO.l 6 rfl (lf rfl rfl)
  refine TieO.s 1 rfl (.cond rfl ?_ ?_)
  ·exact TieS.r 4 rfl (rt rfl)
  ·refine TieS.s 7 rfl (.loop (fun t=>⟨[(1,NI n2),NP 2,(5,NI t)],[(2,.box (q14 v_in))]⟩) (fun b e σ'=>match b with | .inl t=>e = .exit 0 ∧ Sub ⟨[NP 2],[(2,.box (q14 v_in))]⟩ σ' | .inr t=>e = .ret ∧ retT tab σ' [.tmp 4] = some (((fun r=>NB r):Bool → T) t)) (.of rfl rfl) ?_ ?_)
   ·intro i
    refine TieS.s 7 rfl (.cond rfl ?_ ?_)
    ·refine TieS.o 8 rfl (.index rfl rfl rfl rfl rfl rfl rfl rfl (fun _=>rfl) fun x hx=>.o 1 rfl (.k (q324 x) rfl fun v8=>.s 2 rfl (.cond rfl ?_ ?_)))
     ·exact TieS.r 4 rfl ⟨(fun h=>by cases h),rfl,rfl⟩
     ·exact TieS.l 7 rfl (lf rfl rfl)
    ·exact TieS.exitOut rfl ⟨(fun h=>by cases h),rfl,.of rfl rfl⟩
   rintro (i2 | r3) e σ' _ hq
   ·obtain ⟨rfl,hs⟩:=hq
    refine TieX.exit rfl (TieX.sub hs ?_)
    refine TieS.s 6 rfl (.loop (fun t=>⟨[NP 2,(6,NI t)],[(2,.box (q14 v_in))]⟩) (fun b e σ'=>match b with | .inl t=>e = .exit 2 ∧ Sub ⟨[],[]⟩ σ' | .inr t=>e = .ret ∧ retT tab σ' [.tmp 4] = some (((fun r=>NB r):Bool → T) t)) (.of rfl rfl) ?_ ?_)
    ·intro i3
     refine TieS.s 9 rfl (.cond rfl ?_ ?_)
     ·refine TieS.o 8 rfl (.index rfl rfl rfl rfl rfl rfl rfl rfl (fun _=>rfl) fun x2 hx2=>.o 1 rfl (.k (q561 x2) rfl fun v9=>.s 2 rfl (.cond rfl ?_ ?_)))
      ·exact TieS.r 4 rfl ⟨(fun h=>by cases h),rfl,rfl⟩
      ·exact TieS.l 7 rfl (lf rfl rfl)
     ·exact TieS.exitOut rfl ⟨(fun h=>by cases h),rfl,.of rfl rfl⟩
    rintro (i4 | r2) e σ' _ hq
    ·obtain ⟨rfl,hs⟩:=hq
     refine TieX.exit rfl (TieX.sub hs ?_)
     exact TieS.r 4 rfl (rt rfl)
    ·obtain ⟨rfl,hs⟩:=hq
     exact TieX.ret ⟨.inl rfl,hs⟩
   ·obtain ⟨rfl,hs⟩:=hq
    exact TieX.ret ⟨.inl rfl,hs⟩
theorem q68 (x:Int) (low:Int) (high:Int):TieF Tryz.prog 178 [NI x,NI low,NI high] (q69 x low high) (fun r=>NB r):=by
 refine TieF.i htab 15 [.tmp 6] Tryz.call178 Tryz.func178 rfl rfl rfl rfl fun w0 L=>?_
 refine TieS.o 10 rfl (.selAnd (v:=decide (x ≤ high)) 4 10 (fun b=>⟨[(14,NB b)],[]⟩) rfl ?_ ?_ ?_)
 ·exact TieO.l 5 rfl (lf rfl rfl)
 ·exact TieO.l 5 rfl (lf rfl rfl)
 exact TieO.r 2 rfl (rt rfl)
abbrev x87_0 (b2:SBody):List T:=[NI b2.Inertia,NI b2.Friction,NI b2.Volume,NI b2.Throttle,NI b2.Film,NI b2.Evaporate,NI b2.Delay]
theorem q560 (b2:SBody):TieF Tryz.prog 87 [A_SBody b2] (q241 b2) (fun r=>NB r):=by
 refine TieF.i htab 36 [.tmp 2] Tryz.call87 Tryz.func87 rfl rfl rfl rfl fun w0 L=>?_
 refine TieS.o 9 rfl (.k (q68 b2.Inertia 100 1048576) rfl fun v=>.o 1 rfl (.bind 4 (fun b3=>⟨[NP 1,(10,NB b3)],[(1,.box (x87_0 b2))]⟩) (TieO.split 6 rfl ?_ ?_) fun b3 _=>?_))
 ·exact TieO.o 2 rfl (.k (q68 b2.Friction 0 65536) rfl fun v2=>.l 2 rfl (lf rfl rfl))
 ·exact TieO.l 5 rfl (lf rfl rfl)
 refine TieO.o 1 rfl (.bind 4 (fun b4=>⟨[NP 1,(15,NB b4)],[(1,.box (x87_0 b2))]⟩) (TieO.split 11 rfl ?_ ?_) fun b4 _=>?_)
 ·exact TieO.o 2 rfl (.k (q68 b2.Volume 1 65536) rfl fun v3=>.l 2 rfl (lf rfl rfl))
 ·exact TieO.l 5 rfl (lf rfl rfl)
 refine TieO.o 1 rfl (.bind 4 (fun b5=>⟨[NP 1,(20,NB b5)],[(1,.box (x87_0 b2))]⟩) (TieO.split 16 rfl ?_ ?_) fun b5 _=>?_)
 ·exact TieO.o 2 rfl (.k (q68 b2.Throttle 0 65536) rfl fun v4=>.l 2 rfl (lf rfl rfl))
 ·exact TieO.l 5 rfl (lf rfl rfl)
 refine TieO.o 1 rfl (.bind 4 (fun b6=>⟨[NP 1,(25,NB b6)],[(1,.box (x87_0 b2))]⟩) (TieO.split 21 rfl ?_ ?_) fun b6 _=>?_)
 ·exact TieO.o 2 rfl (.k (q68 b2.Film 0 1023) rfl fun v5=>.l 2 rfl (lf rfl rfl))
 ·exact TieO.l 5 rfl (lf rfl rfl)
 refine TieO.o 1 rfl (.bind 4 (fun b7=>⟨[NP 1,(30,NB b7)],[(1,.box (x87_0 b2))]⟩) (TieO.split 26 rfl ?_ ?_) fun b7 _=>?_)
 ·exact TieO.o 2 rfl (.k (q68 b2.Evaporate 1 1024) rfl fun v6=>.l 2 rfl (lf rfl rfl))
 ·exact TieO.l 5 rfl (lf rfl rfl)
 refine TieO.o 1 rfl (.bind 4 (fun b8=>⟨[(35,NB b8)],[]⟩) (TieO.split 31 rfl ?_ ?_) fun b8 _=>?_)
 ·exact TieO.o 2 rfl (.k (q68 b2.Delay 0 20) rfl fun v7=>.l 2 rfl (lf rfl rfl))
 ·exact TieO.l 5 rfl (lf rfl rfl)
 exact TieO.r 2 rfl (rt rfl)
theorem q254 (x:Int) (low:Int) (high:Int):TieF Tryz.prog 179 [NI x,NI low,NI high] (q97 x low high) (fun r=>NI r):=by
 refine TieF.i htab 12 [.tmp 6] Tryz.call179 Tryz.func179 rfl rfl rfl rfl fun w0 L=>?_
 exact TieS.r 13 rfl (rt rfl)
theorem q597 (p2:SPedal) (first:Int) (second:Int):TieF Tryz.prog 88 [q411 p2,NI first,NI second] (q269 p2 first second) (fun r=>q411 r):=by
 refine TieF.i htab 59 [.cell 6 35] Tryz.call88 Tryz.func88 rfl rfl rfl rfl fun w0 L=>?_
 refine TieS.o 8 rfl (.k (q254 first 0 1000) rfl fun v=>.o 5 rfl (.k (q254 second 0 500) rfl fun v2=>.o 10 rfl (.selOr (v:=decide ((w64 ((w64 (2 * v2)) - v)) > 50)) 5 20 (fun b=>⟨[NP 3,NP 6,(7,NI v),(8,NI (w64 (2 * v2))),(25,NB b)],[(3,.box [NI p2.Value,NI p2.Differ,NB p2.Fault]),(6,.box [NI 0,NI 0,NB false])]⟩) rfl ?_ ?_ ?_)))
 ·exact TieO.l 6 rfl (lf rfl rfl)
 ·exact TieO.l 6 rfl (lf rfl rfl)
 refine TieO.s 13 rfl (.bind (Q₁:=nrm fun t=>⟨[NP 3,NP 6,(7,NI v),(8,NI (w64 (2 * v2))),(9,NB ((decide ((w64 (v - (w64 (2 * v2)))) > 50)) || (decide ((w64 ((w64 (2 * v2)) - v)) > 50)))),NP 10],[(3,.box [NI p2.Value,NI p2.Differ,NB p2.Fault]),(6,.box [NI 0,NI 0,NB false]),(10,.box [NI p2.Value,NI t,NB p2.Fault])]⟩) ?_ ?_)
 ·refine TieS.cond rfl ?_ ?_
  ·exact TieS.l 8 rfl (lf rfl rfl)
  ·refine TieS.s 6 rfl (.cond rfl ?_ ?_)
   ·exact TieS.l 4 rfl (lf rfl rfl)
   ·exact TieS.l 1 rfl (lf rfl rfl)
 rintro f2 e σ' _ ⟨rfl,hs⟩
 refine TieX.sub hs (TieS.s 16 rfl (.cond rfl ?_ ?_))
 ·exact TieS.r 13 rfl (rt rfl)
 ·refine TieS.s 5 rfl (.cond rfl ?_ ?_)
  ·exact TieS.r 15 rfl (rt rfl)
  ·exact TieS.r 11 rfl (rt rfl)
theorem q553 (a:Int) (b2:Int):TieF Tryz.prog 287 [NI a,NI b2] (q230 a b2) (fun r=>NI r):=by
 refine TieF.i htab 16 [.tmp 4] Tryz.call287 Tryz.func287 rfl rfl rfl rfl fun w0 L=>?_
 refine TieS.o 8 rfl (.quo rfl rfl rfl rfl rfl rfl fun q=>.o 7 rfl (.rem rfl rfl rfl rfl rfl rfl fun q2=>.s 2 rfl (.cond rfl ?_ ?_)))
 ·exact TieS.r 10 rfl (rt rfl)
 ·exact TieS.r 6 rfl (rt rfl)
theorem q382 (xs:List Int) (ys:List Int) (x:Int):TieF Tryz.prog 264 [NL xs,NL ys,NI x] (q141 xs ys x) (fun r=>NI r):=by
 refine TieF.i htab 73 [.tmp 6] Tryz.call264 Tryz.func264 rfl rfl rfl rfl fun w0 L=>?_
 refine TieS.o 15 rfl (.index rfl rfl rfl rfl rfl rfl rfl rfl (fun _=>rfl) fun x2 hx2=>.s 3 rfl (.cond rfl ?_ ?_))
 ·exact TieS.o 3 rfl (.index rfl rfl rfl rfl rfl rfl rfl rfl (fun _=>rfl) fun x3 hx3=>.r 3 rfl (rt rfl))
 ·refine TieS.o 8 rfl (.index rfl rfl rfl rfl rfl rfl rfl rfl (fun _=>rfl) fun x4 hx4=>.s 3 rfl (.cond rfl ?_ ?_))
  ·exact TieS.o 5 rfl (.index rfl rfl rfl rfl rfl rfl rfl rfl (fun _=>rfl) fun x5 hx5=>.r 3 rfl (rt rfl))
  ·refine TieS.s 7 rfl (.loop (fun t=>⟨[(0,NL xs),(1,NL ys),(2,NI x),(8,NI t)],[]⟩) (fun b e σ'=>match b with | .inl t=>e = .exit 0 ∧ Sub ⟨[(0,NL xs),(1,NL ys),(2,NI x),(8,NI t)],[]⟩ σ' | .inr t=>False) (.of rfl rfl) ?_ ?_)
   ·intro i
    refine TieS.o 6 rfl (.index rfl rfl rfl rfl rfl rfl rfl rfl (fun _=>rfl) fun x6 hx6=>.s 4 rfl (.cond rfl ?_ ?_))
    ·exact TieS.l 8 rfl (lf rfl rfl)
    ·exact TieS.exitOut rfl ⟨(fun h=>by cases h),rfl,.of rfl rfl⟩
   rintro (i2 | r) e σ' _ hq
   ·obtain ⟨rfl,hs⟩:=hq
    refine TieX.exit rfl (TieX.sub hs ?_)
    exact TieS.s 1 rfl (TieX.pre fun x7 hx7=>TieX.pre fun x8 hx8=>TieX.pre fun x9 hx9=>TieX.pre fun x10 hx10=>TieX.pre fun v hv=>TieS.dr 34 [(0,NL xs),(1,NL ys),(2,NI x),(8,NI i2)] [] mixed (.of rfl rfl) (.q rfl rfl rfl (.q rfl rfl rfl (.cons (.index hx7 rfl rfl rfl rfl rfl rfl (fun _=>rfl)) (.q rfl rfl rfl (.q rfl rfl rfl (.q rfl rfl rfl (.q rfl rfl rfl (.cons (.index hx8 rfl rfl rfl rfl rfl rfl (fun _=>rfl)) (.q rfl rfl rfl (.q rfl rfl rfl (.q rfl rfl rfl (.q rfl rfl rfl (.q rfl rfl rfl (.cons (.index hx9 rfl rfl rfl rfl rfl rfl (fun _=>rfl)) (.q rfl rfl rfl (.q rfl rfl rfl (.q rfl rfl rfl (.cons (.index hx7 rfl rfl rfl rfl rfl rfl (fun _=>rfl)) (.q rfl rfl rfl (.q rfl rfl rfl (.q rfl rfl rfl (.q rfl rfl rfl (.q rfl rfl rfl (.q rfl rfl rfl (.cons (.index hx10 rfl rfl rfl rfl rfl rfl (fun _=>rfl)) (.q rfl rfl rfl (.q rfl rfl rfl (.q rfl rfl rfl (.cons (.index hx8 rfl rfl rfl rfl rfl rfl (fun _=>rfl)) (.q rfl rfl rfl (.q rfl rfl rfl (.cons (.callV (q553 (w64 ((w64 (x - x8)) * (w64 (x9 - x7)))) (w64 (x10 - x8))) hv rfl rfl rfl rfl) (.q rfl rfl rfl (.q rfl rfl rfl (.nil))))))))))))))))))))))))))))))))))) rfl (.r 1 rfl (rt rfl)))
   ·exact hq.elim
abbrev x265_0 (m2:SMap):List T:=[NL m2.X,NL m2.Y,NS (Pv.encS Pv.encI) m2.Z]
theorem q533 (m2:SMap) (x:Int):TieF Tryz.prog 265 [A_SMap m2,NI x] (q206 m2 x) (fun r=>NL r):=by
 refine TieF.i htab 43 [.tmp 4] Tryz.call265 Tryz.func265 rfl rfl rfl rfl fun w0 L=>?_
 refine TieS.s 15 rfl (TieX.nilP 5 2328 3 1 [] rfl rfl rfl rfl rfl (TieS.loop (fun t=>⟨[(1,NI x),NP 2,(5,.own 2328),(6,NI t.2)],[(2,.box (x265_0 m2)),(2328,.rs 3 1 t.1 Pv.encI)]⟩) (fun b e σ'=>match b with | .inl t=>e = .exit 0 ∧ Sub ⟨[(5,.own 2328)],[(2328,.rs 3 1 t.1 Pv.encI)]⟩ σ' | .inr t=>False) (.of rfl rfl) ?_ ?_))
 ·intro s
  refine TieS.s 9 rfl (.cond rfl ?_ ?_)
  ·refine TieS.s 13 rfl (TieX.nilP 7 2264 3 1 [] rfl rfl rfl rfl rfl (TieS.loop (fun t=>⟨[(1,NI x),NP 2,(5,.own 2328),(6,NI s.2),(7,.own 2264),(8,NI t.2)],[(2,.box (x265_0 m2)),(2264,.rs 3 1 t.1 Pv.encI),(2328,.rs 3 1 s.1 Pv.encI)]⟩) (fun b e σ'=>match b with | .inl t=>e = .exit 2 ∧ Sub ⟨[(1,NI x),NP 2,(5,.own 2328),(6,NI s.2),(7,.own 2264)],[(2,.box (x265_0 m2)),(2264,.rs 3 1 t.1 Pv.encI),(2328,.rs 3 1 s.1 Pv.encI)]⟩ σ' | .inr t=>False) (.of rfl rfl) ?_ ?_))
   ·intro s2
    refine TieS.s 9 rfl (.cond rfl ?_ ?_)
    ·exact TieS.o 8 rfl (.index rfl rfl rfl rfl rfl rfl rfl rfl (fun _=>rfl) fun x2 hx2=>.o 2 rfl (.index rfl rfl rfl rfl rfl rfl rfl rfl (fun _=>rfl) fun x3 hx3=>.o 2 rfl (.appendY (id:=2264) (l:=s2.1) (r:=([x3]:List Int)) (tm':=[(1,NI x),NP 2,(5,.own 2328),(6,NI s.2),(8,NI s2.2),(16,NI s2.2),(17,.ptr 2 0),(18,NL m2.X),(19,NI (m2.X.length:Int)),(20,NB (decide (s2.2 < (m2.X.length:Int)))),(24,.ptr 2 2),(25,NS (Pv.encS Pv.encI) m2.Z),(26,NI s2.2),(27,.el ((Pv.encS Pv.encI) x2)),(28,NL x2),(29,NI s.2),(30,.el (Pv.encI x3)),(31,NI x3),(32,.own 32)]) (hp':=[(2,.box (x265_0 m2)),(32,.rs 3 1 ([x3]:List Int) Pv.encI),(2328,.rs 3 1 s.1 Pv.encI)]) rfl rfl rfl rfl rfl rfl rfl (fun _=>rfl) (fun _=>rfl) (.inl ⟨rfl,rfl⟩) (.inr ⟨_,rfl,rfl⟩) (.of rfl rfl) rfl rfl rfl fun l=>.l 8 rfl (lf rfl rfl))))
    ·exact TieS.exitOut rfl ⟨(fun h=>by cases h),rfl,.of rfl rfl⟩
   rintro (s3 | r) e σ' _ hq
   ·obtain ⟨rfl,hs⟩:=hq
    refine TieX.exit rfl (TieX.sub hs ?_)
    exact TieS.o 6 rfl (.callS _ rfl rfl rfl (q382 m2.X s3.1 x) (fun _=>rfl) (fun _=>rfl) fun v=>.o 1 rfl (.appendY (id:=2328) (l:=s.1) (r:=([v]:List Int)) (tm':=[(1,NI x),NP 2,(6,NI s.2),(7,.own 2264),(35,.ptr 2 0),(36,NL m2.X),(37,.own 2264),(38,NI x),(39,NI v),(40,.own 40)]) (hp':=[(2,.box (x265_0 m2)),(40,.rs 3 1 ([v]:List Int) Pv.encI),(2264,.rs 3 1 s3.1 Pv.encI)]) rfl rfl rfl rfl rfl rfl rfl (fun _=>rfl) (fun _=>rfl) (.inl ⟨rfl,rfl⟩) (.inr ⟨_,rfl,rfl⟩) (.of rfl rfl) rfl rfl rfl fun l2=>.l 8 rfl (lf rfl rfl)))
   ·exact hq.elim
  ·exact TieS.exitOut rfl ⟨(fun h=>by cases h),rfl,.of rfl rfl⟩
 rintro (s4 | r) e σ' _ hq
 ·obtain ⟨rfl,hs⟩:=hq
  refine TieX.exit rfl (TieX.sub hs ?_)
  exact TieS.r 5 rfl (rt rfl)
 ·exact hq.elim
theorem q563 (m2:SMap) (x:Int) (y:Int):TieF Tryz.prog 240 [A_SMap m2,NI x,NI y] (q348 m2 x y) (fun r=>NI r):=by
 refine TieF.i htab 14 [.tmp 6] Tryz.call240 Tryz.func240 rfl rfl rfl rfl fun w0 L=>?_
 exact TieS.s 6 rfl (TieX.pre fun v hv=>TieX.pre fun v2 hv2=>TieS.dr 8 [(1,NI x),(2,NI y),NP 3] [(3,.box [NL m2.X,NL m2.Y,NS (Pv.encS Pv.encI) m2.Z])] mixed (.of rfl rfl) (.q rfl rfl rfl (.q rfl rfl rfl (.q rfl rfl rfl (.q rfl rfl rfl (.cons (.callV (q533 m2 x) hv rfl rfl rfl rfl) (.q rfl rfl rfl (.cons (.callV (q382 m2.Y v y) hv2 rfl rfl rfl rfl) (.q rfl rfl rfl (.nil))))))))) rfl (.r 1 rfl (rt rfl)))
theorem q205 (m2:SMap) (x:Int) (y:Int):TieF Tryz.prog 180 [A_SMap m2,NI x,NI y] (q116 m2 x y) (fun r=>NI r):=by
 refine TieF.i htab 14 [.tmp 6] Tryz.call180 Tryz.func180 rfl rfl rfl rfl fun w0 L=>?_
 refine TieS.o 9 rfl (.k (q65 m2) rfl fun v=>.s 2 rfl (.cond rfl ?_ ?_))
 ·exact TieS.r 4 rfl (rt rfl)
 ·exact TieS.o 6 rfl (.k (q563 m2 x y) rfl fun v2=>.r 2 rfl (rt rfl))
theorem q598 (t2:STables) (value:Int) (speed:Int):TieF Tryz.prog 89 [q20 t2,NI value,NI speed] (q268 t2 value speed) (fun r=>.tup [NI r.1,NI r.2]):=by
 refine TieF.i htab 32 [.tmp 6,.tmp 7] Tryz.call89 Tryz.func89 rfl rfl rfl rfl fun w0 L=>?_
 refine TieS.o 11 rfl (.k (q65 t2.Wish) rfl fun v=>.s 2 rfl (.cond rfl ?_ ?_))
 ·exact TieS.r 5 rfl (rt rfl)
 ·refine TieS.o 7 rfl (.selOr (v:=decide (value > 1000)) 3 14 (fun b=>⟨[(1,NI value),(2,NI speed),NP 3,(17,NB b)],[(3,.box (q12 t2))]⟩) rfl ?_ ?_ ?_)
  ·exact TieO.l 4 rfl (lf rfl rfl)
  ·exact TieO.l 4 rfl (lf rfl rfl)
  refine TieO.o 1 rfl (.selOr (v:=decide (speed < 0)) 3 18 (fun b=>⟨[(1,NI value),(2,NI speed),NP 3,(21,NB b)],[(3,.box (q12 t2))]⟩) rfl ?_ ?_ ?_)
  ·exact TieO.l 4 rfl (lf rfl rfl)
  ·exact TieO.l 4 rfl (lf rfl rfl)
  refine TieO.o 1 rfl (.selOr (v:=decide (speed > 12000)) 3 22 (fun b=>⟨[(1,NI value),(2,NI speed),NP 3,(25,NB b)],[(3,.box (q12 t2))]⟩) rfl ?_ ?_ ?_)
  ·exact TieO.l 4 rfl (lf rfl rfl)
  ·exact TieO.l 4 rfl (lf rfl rfl)
  refine TieO.s 1 rfl (.cond rfl ?_ ?_)
  ·exact TieS.r 5 rfl (rt rfl)
  ·exact TieS.o 7 rfl (.k (q205 t2.Wish speed value) rfl fun v2=>.k (q254 v2 (-5000) 10000) rfl fun v3=>.r 3 rfl (rt rfl))
theorem q287 (a:Int):TieF Tryz.prog 288 [NI a] (q122 a) (fun r=>.t (tK .u64 r)):=by
 refine TieF.i htab 10 [.tmp 2] Tryz.call288 Tryz.func288 rfl rfl rfl rfl fun w0 L=>?_
 refine TieS.s 10 rfl (.cond rfl ?_ ?_)
 ·exact TieS.r 7 rfl (rt rfl)
 ·exact TieS.r 7 rfl (rt rfl)
theorem q592 (w:Smagnetoref01_Wide) (c:Int):TieF Tryz.prog 289 [q435 w,.t (tK .u64 c)] (q270 w c) (fun r=>.tup [.t (tK .u64 r.1),.t (tK .u64 r.2.1),NB r.2.2]):=by
 refine TieF.i htab 48 [.tmp 4,.tmp 5,.tmp 6] Tryz.call289 Tryz.func289 rfl rfl rfl rfl fun w0 L=>?_
 refine TieS.s 15 rfl (.cond rfl ?_ ?_)
 ·exact TieS.r 6 rfl (rt rfl)
 ·refine TieS.s 17 rfl (.loop (fun t=>⟨[(1,.t (tK .u64 c)),NP 2,(7,.t (tK .u64 t.1)),(8,.t (tK .u64 t.2.1)),(9,NI t.2.2)],[(2,.box [.t (tK .u64 w.High),.t (tK .u64 w.Low)])]⟩) (fun b e σ'=>match b with | .inl t=>e = .exit 0 ∧ Sub ⟨[(7,.t (tK .u64 t.1)),(8,.t (tK .u64 t.2.1))],[]⟩ σ' | .inr t=>False) (.of rfl rfl) ?_ ?_)
  ·intro s
   refine TieS.s 6 rfl (.cond rfl ?_ ?_)
   ·refine TieS.o 17 rfl (.shr rfl rfl rfl rfl rfl rfl fun q=>.o 15 rfl (.selOr (v:=decide ((IntKind.u64.wrap ((bitShl .u64 s.1 1) + (bitAnd .u64 q 1))) ≥ c)) 4 36 (fun b=>⟨[(1,.t (tK .u64 c)),NP 2,(7,.t (tK .u64 (IntKind.u64.wrap ((bitShl .u64 s.1 1) + (bitAnd .u64 q 1))))),(8,.t (tK .u64 (bitShl .u64 s.2.1 1))),(9,NI s.2.2),(40,NB b)],[(2,.box [.t (tK .u64 w.High),.t (tK .u64 w.Low)])]⟩) rfl ?_ ?_ ?_))
    ·exact TieO.l 5 rfl (lf rfl rfl)
    ·exact TieO.l 5 rfl (lf rfl rfl)
    refine TieO.s 1 rfl (.cond rfl ?_ ?_)
    ·exact TieS.l 18 rfl (lf rfl rfl)
    ·exact TieS.l 7 rfl (lf rfl rfl)
   ·exact TieS.exitOut rfl ⟨(fun h=>by cases h),rfl,.of rfl rfl⟩
  rintro (s2 | r) e σ' _ hq
  ·obtain ⟨rfl,hs⟩:=hq
   refine TieX.exit rfl (TieX.sub hs ?_)
   exact TieS.r 8 rfl (rt rfl)
  ·exact hq.elim
theorem q556 (a:Int) (b2:Int):TieF Tryz.prog 290 [.t (tK .u64 a),.t (tK .u64 b2)] (q225 a b2) (fun r=>q435 r):=by
 refine TieF.i htab 50 [.cell 4 249] Tryz.call290 Tryz.func290 rfl rfl rfl rfl fun w0 L=>?_
 exact TieS.r 65 rfl (rt rfl)
theorem q537 (a:Int) (b2:Int) (c:Int) (mode:Int):TieF Tryz.prog 266 [NI a,NI b2,NI c,NI mode] (q333 a b2 c mode) (fun r=>.tup [NI r.1,NI r.2]):=by
 refine TieF.i htab 108 [.tmp 8,.tmp 9] Tryz.call266 Tryz.func266 rfl rfl rfl rfl fun w0 L=>?_
 refine TieS.o 11 rfl (.selAnd (v:=(mode != 2)) 3 18 (fun b=>⟨[(0,NI a),(1,NI b2),(2,NI c),(3,NI mode),(21,NB b)],[]⟩) rfl ?_ ?_ ?_)
 ·exact TieO.l 4 rfl (lf rfl rfl)
 ·exact TieO.l 4 rfl (lf rfl rfl)
 refine TieO.o 1 rfl (.selAnd (v:=(mode != 3)) 3 22 (fun b=>⟨[(0,NI a),(1,NI b2),(2,NI c),(3,NI mode),(25,NB b)],[]⟩) rfl ?_ ?_ ?_)
 ·exact TieO.l 4 rfl (lf rfl rfl)
 ·exact TieO.l 4 rfl (lf rfl rfl)
 refine TieO.s 1 rfl (.cond rfl ?_ ?_)
 ·exact TieS.r 5 rfl (rt rfl)
 ·refine TieS.s 7 rfl (.cond rfl ?_ ?_)
  ·exact TieS.r 5 rfl (rt rfl)
  ·refine TieS.o 6 rfl (.selAnd (v:=(b2 != 0)) 3 30 (fun b=>⟨[(0,NI a),(1,NI b2),(2,NI c),(3,NI mode),(33,NB b)],[]⟩) rfl ?_ ?_ ?_)
   ·exact TieO.l 4 rfl (lf rfl rfl)
   ·exact TieO.l 4 rfl (lf rfl rfl)
   refine TieO.o 1 rfl (.selAnd (v:=(!((!((decide (a < 0)) == (decide (b2 < 0)))) == (decide (c < 0))))) 9 34 (fun b=>⟨[(0,NI a),(1,NI b2),(2,NI c),(3,NI mode),(43,NB b)],[]⟩) rfl ?_ ?_ ?_)
   ·exact TieO.l 10 rfl (lf rfl rfl)
   ·exact TieO.l 10 rfl (lf rfl rfl)
   refine TieO.o 5 rfl (.k (q287 c) rfl fun v=>.o 5 rfl (.k (q287 a) rfl fun v2=>.o 1 rfl (.k (q287 b2) rfl fun v3=>.k (q556 v2 v3) rfl fun v4=>.o 1 rfl (.k (q592 v4 v) rfl fun r2=>.s 14 rfl (.cond rfl ?_ ?_)))))
   ·exact TieS.r 5 rfl (rt rfl)
   ·refine TieS.s 10 rfl (.bind (Q₁:=nrm fun t=>⟨[(10,NB (((a != 0) && (b2 != 0)) && (!((!((decide (a < 0)) == (decide (b2 < 0)))) == (decide (c < 0)))))),(12,.t (tK .u64 r2.1)),(15,NB t)],[]⟩) ?_ ?_)
    ·refine TieS.s 6 rfl (.cond rfl ?_ ?_)
     ·refine TieS.o 3 rfl (.selAnd (v:=decide (r2.2.1 > 0)) 3 63 (fun b=>⟨[(10,NB (((a != 0) && (b2 != 0)) && (!((!((decide (a < 0)) == (decide (b2 < 0)))) == (decide (c < 0)))))),(12,.t (tK .u64 r2.1)),(66,NB b)],[]⟩) rfl ?_ ?_ ?_)
      ·exact TieO.l 4 rfl (lf rfl rfl)
      ·exact TieO.l 4 rfl (lf rfl rfl)
      exact TieO.l 3 rfl (lf rfl rfl)
     ·refine TieS.s 5 rfl (.cond rfl ?_ ?_)
      ·refine TieS.o 4 rfl (.selAnd (v:=decide (r2.2.1 > 0)) 3 71 (fun b=>⟨[(10,NB (((a != 0) && (b2 != 0)) && (!((!((decide (a < 0)) == (decide (b2 < 0)))) == (decide (c < 0)))))),(12,.t (tK .u64 r2.1)),(74,NB b)],[]⟩) rfl ?_ ?_ ?_)
       ·exact TieO.l 4 rfl (lf rfl rfl)
       ·exact TieO.l 4 rfl (lf rfl rfl)
       exact TieO.l 3 rfl (lf rfl rfl)
      ·refine TieS.s 5 rfl (.cond rfl ?_ ?_)
       ·refine TieS.o 7 rfl (.bind 10 (fun b3=>⟨[(10,NB (((a != 0) && (b2 != 0)) && (!((!((decide (a < 0)) == (decide (b2 < 0)))) == (decide (c < 0)))))),(12,.t (tK .u64 r2.1)),(92,NB b3)],[]⟩) (TieO.split 82 rfl ?_ ?_) fun b3 _=>?_)
        ·exact TieO.l 11 rfl (lf rfl rfl)
        ·refine TieO.o 6 rfl (.selAnd (v:=(!(((a != 0) && (b2 != 0)) && (!((!((decide (a < 0)) == (decide (b2 < 0)))) == (decide (c < 0))))))) 3 88 (fun b=>⟨[(10,NB (((a != 0) && (b2 != 0)) && (!((!((decide (a < 0)) == (decide (b2 < 0)))) == (decide (c < 0)))))),(12,.t (tK .u64 r2.1)),(82,NB false),(91,NB b)],[]⟩) rfl ?_ ?_ ?_)
         ·exact TieO.l 4 rfl (lf rfl rfl)
         ·exact TieO.l 4 rfl (lf rfl rfl)
         exact TieO.l 2 rfl (lf rfl rfl)
        exact TieO.l 3 rfl (lf rfl rfl)
       ·exact TieS.l 2 rfl (lf rfl rfl)
    rintro away e σ' _ ⟨rfl,hs⟩
    refine TieX.sub hs (TieS.s 5 rfl (.bind (Q₁:=fun t e σ'=>match t with | .inl t=>e = .normal ∧ Sub ⟨[(10,NB (((a != 0) && (b2 != 0)) && (!((!((decide (a < 0)) == (decide (b2 < 0)))) == (decide (c < 0)))))),(12,.t (tK .u64 t))],[]⟩ σ' | .inr t=>e = .ret ∧ retT tab σ' [.tmp 8,.tmp 9] = some (((fun r=>.tup [NI r.1,NI r.2]):(Int × Int) → T) t)) ?_ ?_))
    ·refine TieS.cond rfl ?_ ?_
     ·refine TieS.s 6 rfl (.cond rfl ?_ ?_)
      ·exact TieS.r 5 rfl ⟨rfl,rfl⟩
      ·exact TieS.l 6 rfl (lf rfl rfl)
     ·exact TieS.l 1 rfl (lf rfl rfl)
    rintro (q | r3) e σ' _ hq
    ·obtain ⟨rfl,hs⟩:=hq
     refine TieX.sub hs (TieS.s 5 rfl (.cond rfl ?_ ?_))
     ·refine TieS.s 6 rfl (.cond rfl ?_ ?_)
      ·exact TieS.r 5 rfl (rt rfl)
      ·exact TieS.r 9 rfl (rt rfl)
     ·refine TieS.s 7 rfl (.cond rfl ?_ ?_)
      ·exact TieS.r 5 rfl (rt rfl)
      ·exact TieS.r 8 rfl (rt rfl)
    ·obtain ⟨rfl,hs⟩:=hq
     exact TieX.ret ⟨.inl rfl,hs⟩
theorem q621 (a:Int) (b2:Int) (mode:Int):TieF Tryz.prog 241 [NI a,NI b2,NI mode] (q405 a b2 mode) (fun r=>.tup [NI r.1,NI r.2]):=by
 refine TieF.i htab 14 [.tmp 6,.tmp 7] Tryz.call241 Tryz.func241 rfl rfl rfl rfl fun w0 L=>?_
 exact TieS.o 10 rfl (.k (q537 a 1 b2 mode) rfl fun r2=>.r 5 rfl (rt rfl))
theorem q43 (a:Int) (b2:Int):TieF Tryz.prog 183 [NI a,NI b2] (q34 a b2) (fun r=>NI r):=by
 refine TieF.i htab 14 [.tmp 4] Tryz.call183 Tryz.func183 rfl rfl rfl rfl fun w0 L=>?_
 exact TieS.o 8 rfl (.k (q621 a b2 1) rfl fun r2=>.r 11 rfl (rt rfl))
theorem q17 (coolant:Int):TieF Tryz.prog 92 [NI coolant] (q89 coolant) (fun r=>NI r):=by
 refine TieF.i htab 12 [.tmp 2] Tryz.call92 Tryz.func92 rfl rfl rfl rfl fun w0 L=>?_
 refine TieS.s 10 rfl (.cond rfl ?_ ?_)
 ·exact TieS.r 4 rfl (rt rfl)
 ·refine TieS.s 7 rfl (.cond rfl ?_ ?_)
  ·exact TieS.r 4 rfl (rt rfl)
  ·exact TieS.o 6 rfl (.k (q43 (w64 (400 * (w64 (coolant + 20)))) 90) rfl fun v=>.r 3 rfl (rt rfl))
theorem q257 (n2:Int):TieF Tryz.prog 181 [NI n2] (q75 n2) (fun r=>NB r):=by
 refine TieF.i htab 9 [.tmp 2] Tryz.call181 Tryz.func181 rfl rfl rfl rfl fun w0 L=>?_
 refine TieS.o 9 rfl (.selAnd (v:=decide (n2 ≤ 12000)) 3 5 (fun b=>⟨[(8,NB b)],[]⟩) rfl ?_ ?_ ?_)
 ·exact TieO.l 4 rfl (lf rfl rfl)
 ·exact TieO.l 4 rfl (lf rfl rfl)
 exact TieO.r 2 rfl (rt rfl)
theorem q531 (pedal:Int) (speed:Int) (coolant:Int):TieF Tryz.prog 90 [NI pedal,NI speed,NI coolant] (q213 pedal speed coolant) (fun r=>NB r):=by
 refine TieF.i htab 24 [.tmp 6] Tryz.call90 Tryz.func90 rfl rfl rfl rfl fun w0 L=>?_
 refine TieS.o 9 rfl (.selAnd (v:=decide (pedal < 20)) 3 9 (fun b=>⟨[(1,NI speed),(2,NI coolant),(12,NB b)],[]⟩) rfl ?_ ?_ ?_)
 ·exact TieO.l 4 rfl (lf rfl rfl)
 ·exact TieO.l 4 rfl (lf rfl rfl)
 refine TieO.o 1 rfl (.bind 3 (fun b2=>⟨[(1,NI speed),(2,NI coolant),(16,NB b2)],[]⟩) (TieO.split 13 rfl ?_ ?_) fun b2 _=>?_)
 ·exact TieO.o 1 rfl (.k (q257 speed) rfl fun v=>.l 2 rfl (lf rfl rfl))
 ·exact TieO.l 4 rfl (lf rfl rfl)
 refine TieO.o 1 rfl (.bind 6 (fun b3=>⟨[(23,NB b3)],[]⟩) (TieO.split 17 rfl ?_ ?_) fun b3 _=>?_)
 ·exact TieO.o 2 rfl (.k (q17 coolant) rfl fun v2=>.l 4 rfl (lf rfl rfl))
 ·exact TieO.l 7 rfl (lf rfl rfl)
 exact TieO.r 2 rfl (rt rfl)
theorem q523 (s:SIntegral) (g:SGain) (e2:Int):TieF Tryz.prog 182 [q136 s,A_SGain g,NI e2] (q178 s g e2) (fun r=>.tup [q136 r.1,NI r.2]):=by
 refine TieF.i htab 67 [.cell 6 37,.tmp 7] Tryz.call182 Tryz.func182 rfl rfl rfl rfl fun w0 L=>?_
 refine TieS.o 16 rfl (.k (q43 (w64 ((w64 (g.P * e2)) + s.Sum)) 1024) rfl fun v=>.o 10 rfl (.selAnd (v:=decide (e2 > 0)) 3 21 (fun b=>⟨[(2,NI e2),NP 3,NP 4,NP 6,(8,NI v),(24,NB b)],[(3,.box [NI s.Sum]),(4,.box [NI g.P,NI g.I,NI g.Low,NI g.High]),(6,.box [NI 0])]⟩) rfl ?_ ?_ ?_))
 ·exact TieO.l 4 rfl (lf rfl rfl)
 ·exact TieO.l 4 rfl (lf rfl rfl)
 refine TieO.o 2 rfl (.bind 10 (fun b2=>⟨[(2,NI e2),NP 3,NP 4,NP 6,(8,NI v),(36,NB b2)],[(3,.box [NI s.Sum]),(4,.box [NI g.P,NI g.I,NI g.Low,NI g.High]),(6,.box [NI 0])]⟩) (TieO.split 26 rfl ?_ ?_) fun b2 _=>?_)
 ·refine TieO.o 5 rfl (.selAnd (v:=decide (e2 < 0)) 3 31 (fun b=>⟨[(2,NI e2),NP 3,NP 4,NP 6,(8,NI v),(26,NB true),(34,NB b)],[(3,.box [NI s.Sum]),(4,.box [NI g.P,NI g.I,NI g.Low,NI g.High]),(6,.box [NI 0])]⟩) rfl ?_ ?_ ?_)
  ·exact TieO.l 4 rfl (lf rfl rfl)
  ·exact TieO.l 4 rfl (lf rfl rfl)
  exact TieO.l 3 rfl (lf rfl rfl)
 ·exact TieO.l 11 rfl (lf rfl rfl)
 refine TieO.s 1 rfl (.bind (Q₁:=nrm fun t=>⟨[NP 3,NP 4,NP 6,(8,NI v)],[(3,.box [NI t]),(4,.box [NI g.P,NI g.I,NI g.Low,NI g.High]),(6,.box [NI 0])]⟩) ?_ ?_)
 ·refine TieS.cond rfl ?_ ?_
  ·exact TieS.l 11 rfl (lf rfl rfl)
  ·exact TieS.l 1 rfl (lf rfl rfl)
 rintro f2 e σ' _ ⟨rfl,hs⟩
 refine TieX.sub hs (TieS.s 7 rfl (.bind (Q₁:=nrm fun t=>⟨[NP 3,NP 4,NP 6,(8,NI v)],[(3,.box [NI t]),(4,.box [NI g.P,NI g.I,NI g.Low,NI g.High]),(6,.box [NI 0])]⟩) ?_ ?_))
 ·refine TieS.cond rfl ?_ ?_
  ·exact TieS.l 4 rfl (lf rfl rfl)
  ·exact TieS.l 1 rfl (lf rfl rfl)
 rintro f3 e σ' _ ⟨rfl,hs⟩
 refine TieX.sub hs (TieS.s 7 rfl (.bind (Q₁:=nrm fun t=>⟨[NP 3,NP 4,NP 6,(8,NI v)],[(3,.box [NI t]),(4,.box [NI g.P,NI g.I,NI g.Low,NI g.High]),(6,.box [NI 0])]⟩) ?_ ?_))
 ·refine TieS.cond rfl ?_ ?_
  ·exact TieS.l 4 rfl (lf rfl rfl)
  ·exact TieS.l 1 rfl (lf rfl rfl)
 rintro f4 e σ' _ ⟨rfl,hs⟩
 refine TieX.sub hs (TieS.s 8 rfl (.bind (Q₁:=nrm fun t=>⟨[NP 3,NP 4,NP 6,(8,NI t)],[(3,.box [NI f4]),(4,.box [NI g.P,NI g.I,NI g.Low,NI g.High]),(6,.box [NI 0])]⟩) ?_ ?_))
 ·refine TieS.cond rfl ?_ ?_
  ·exact TieS.l 5 rfl (lf rfl rfl)
  ·exact TieS.l 1 rfl (lf rfl rfl)
 rintro u e σ' _ ⟨rfl,hs⟩
 refine TieX.sub hs (TieS.s 8 rfl (.cond rfl ?_ ?_))
 ·exact TieS.r 12 rfl (rt rfl)
 ·exact TieS.r 8 rfl (rt rfl)
theorem q30 (s:SIntegral) (g:SGain) (target:Int) (speed:Int):TieF Tryz.prog 91 [q136 s,A_SGain g,NI target,NI speed] (q175 s g target speed) (fun r=>.tup [q136 r.1,NI r.2.1,NI r.2.2]):=by
 refine TieF.i htab 41 [.cell 8 37,.tmp 9,.tmp 10] Tryz.call91 Tryz.func91 rfl rfl rfl rfl fun w0 L=>?_
 refine TieS.o 12 rfl (.k (q421 g) rfl fun v=>.s 2 rfl (.cond rfl ?_ ?_))
 ·exact TieS.r 7 rfl (rt rfl)
 ·refine TieS.o 5 rfl (.k (q257 target) rfl fun v2=>.o 2 rfl (.bind 4 (fun b2=>⟨[(2,NI target),(3,NI speed),NP 4,NP 5,NP 8,(24,NB b2)],[(4,.box [NI s.Sum]),(5,.box [NI g.P,NI g.I,NI g.Low,NI g.High]),(8,.box [NI 0])]⟩) (TieO.split 20 rfl ?_ ?_) fun b2 _=>?_))
  ·exact TieO.l 5 rfl (lf rfl rfl)
  ·exact TieO.o 1 rfl (.k (q257 speed) rfl fun v3=>.l 3 rfl (lf rfl rfl))
  refine TieO.s 1 rfl (.cond rfl ?_ ?_)
  ·exact TieS.r 7 rfl (rt rfl)
  ·refine TieS.o 5 rfl (.k (q341 s) rfl fun v4=>.s 2 rfl (.cond rfl ?_ ?_))
   ·exact TieS.r 7 rfl (rt rfl)
   ·exact TieS.o 8 rfl (.k (q523 s g (w64 (target - speed))) rfl fun r2=>.r 15 rfl (rt rfl))
theorem q134 (n2:Int) (low:Int) (high:Int):TieF Tryz.prog 93 [NI n2,NI low,NI high] (q32 n2 low high) (fun r=>NI r):=by
 refine TieF.i htab 12 [.tmp 6] Tryz.call93 Tryz.func93 rfl rfl rfl rfl fun w0 L=>?_
 exact TieS.r 13 rfl (rt rfl)
theorem q49 (x:SRange) (r2:SRequest):TieF Tryz.prog 242 [q686 x,q33 r2] (q209 x r2) (fun r=>q686 r):=by
 refine TieF.i htab 29 [.cell 4 189] Tryz.call242 Tryz.func242 rfl rfl rfl rfl fun w0 L=>?_
 refine TieS.s 30 rfl (.cond rfl ?_ ?_)
 ·exact TieS.r 11 rfl (rt rfl)
 ·refine TieS.s 5 rfl (.cond rfl ?_ ?_)
  ·exact TieS.r 11 rfl (rt rfl)
  ·exact TieS.r 14 rfl (rt rfl)
theorem q489 (l:List SRequest) (low:Int) (high:Int):TieF Tryz.prog 184 [NS q10 l,NI low,NI high] (q160 l low high) (fun r=>.tup [q686 r.1,NI r.2.1,NS Pv.encB r.2.2]):=by
 refine TieF.i htab 64 [.cell 6 189,.tmp 7,.tmp 8] Tryz.call184 Tryz.func184 rfl rfl rfl rfl fun w0 L=>?_
 refine TieS.o 22 rfl (.makeO (enc:=Pv.encB) 2160 false rfl rfl rfl rfl rfl rfl rfl rfl rfl rfl rfl rfl rfl fun l2 hl2=>.s 8 rfl (.loop (fun t=>⟨[(0,NS q10 l),NP 6,NP 9,(10,NI t.1),(11,.own 2160),(12,NI t.2.1)],[(6,.box [NI 0,NI 0]),(9,.box [NI t.2.2.1.Low,NI t.2.2.1.High]),(2160,.rs 4 1 t.2.2.2 Pv.encB)]⟩) (fun b e σ'=>match b with | .inl t=>e = .exit 0 ∧ Sub ⟨[NP 6,NP 9,(10,NI t.1),(11,.own 2160)],[(6,.box [NI 0,NI 0]),(9,.box [NI t.2.2.1.Low,NI t.2.2.1.High]),(2160,.rs 4 1 t.2.2.2 Pv.encB)]⟩ σ' | .inr t=>False) (.of rfl rfl) ?_ ?_))
 ·intro s
  refine TieS.s 6 rfl (.cond rfl ?_ ?_)
  ·refine TieS.s 8 rfl (.loop (fun t=>⟨[(0,NS q10 l),NP 6,NP 9,(10,NI t.1),(11,.own 2160),(12,NI s.2.1),(13,NI t.2.1)],[(6,.box [NI 0,NI 0]),(9,.box [NI t.2.2.1.Low,NI t.2.2.1.High]),(2160,.rs 4 1 t.2.2.2 Pv.encB)]⟩) (fun b e σ'=>match b with | .inl t=>e = .exit 2 ∧ Sub ⟨[(0,NS q10 l),NP 6,NP 9,(10,NI t.1),(11,.own 2160),(12,NI s.2.1)],[(6,.box [NI 0,NI 0]),(9,.box [NI t.2.2.1.Low,NI t.2.2.1.High]),(2160,.rs 4 1 t.2.2.2 Pv.encB)]⟩ σ' | .inr t=>False) (.of rfl rfl) ?_ ?_)
   ·intro s2
    refine TieS.s 8 rfl (.cond rfl ?_ ?_)
    ·refine TieS.o 8 rfl (.index rfl rfl rfl rfl rfl rfl rfl rfl (fun _=>rfl) fun x hx=>.s 5 rfl (.cond rfl ?_ ?_))
     ·exact TieS.exit rfl (.l 5 rfl (lf rfl rfl))
     ·refine TieS.s 2 rfl (.bind (Q₁:=nrm fun t=>⟨[(0,NS q10 l),NP 6,NP 9,(10,NI s2.1),(11,.own 2160),(12,NI s.2.1),(13,NI s2.2.1),NP 14],[(6,.box [NI 0,NI 0]),(9,.box [NI s2.2.2.1.Low,NI s2.2.2.1.High]),(14,.box [NI t.Low,NI t.High]),(2160,.rs 4 1 s2.2.2.2 Pv.encB)]⟩) ?_ ?_)
      ·refine TieX.pre fun v hv=>TieS.draws 7 (bm 8 0) (bm 8 127) ⟨[(0,NS q10 l),NP 6,NP 9,(10,NI s2.1),(11,.own 2160),(12,NI s.2.1),(13,NI s2.2.1),NP 14,(43,.agg [NI v.Low,NI v.High])],[(6,.box [NI 0,NI 0]),(9,.box [NI s2.2.2.1.Low,NI s2.2.2.1.High]),(14,.box [NI 0,NI 0]),(2160,.rs 4 1 s2.2.2.2 Pv.encB)]⟩ mixed (fun _ _ _ h=>by cases h.1) rfl rfl rfl rfl ?_ ?_
       ·refine TieA.have_ (fuel₁:=3) (l₁:=(bm 8 31)) (σ₁:=⟨[(0,NS q10 l),NP 6,NP 9,(10,NI s2.1),(11,.own 2160),(12,NI s.2.1),(13,NI s2.2.1),(38,.agg [NI s2.2.2.1.Low,NI s2.2.2.1.High]),(42,.agg [NI x.Source,NI x.Kind,NI x.Torque,NI x.Priority])],[(6,.box [NI 0,NI 0]),(9,.box [NI s2.2.2.1.Low,NI s2.2.2.1.High]),(2160,.rs 4 1 s2.2.2.2 Pv.encB)]⟩) ?_ fun A_1=>?_
        ·refine TieA.all [5,6] (by kernel_rfl) rfl (AllA.cons (σ₁:=⟨[(0,NS q10 l),NP 6,NP 9,(10,NI s2.1),(11,.own 2160),(12,NI s.2.1),(13,NI s2.2.1),(43,.agg [NI v.Low,NI v.High])],[(6,.box [NI 0,NI 0]),(9,.box [NI s2.2.2.1.Low,NI s2.2.2.1.High]),(2160,.rs 4 1 s2.2.2.2 Pv.encB)]⟩) _ rfl rfl ?_ ?_ ?_)
         ·refine TieO.withH hv (TieO.k (q49 s2.2.2.1 x) rfl (TieO.ifH ?_))
          exact TieO.l 1 rfl (lf rfl rfl)
         ·exact TieA.oneR 6 rfl (by kernel_rfl) rfl (.done (.of rfl rfl))
         refine AllA.run _ rfl rfl rfl ?_ ?_
         ·exact TieA.one 5 rfl (by kernel_rfl) (TieO.withH hv (TieO.k (q49 s2.2.2.1 x) rfl (TieO.ifH (TieO.l 1 rfl ⟨rfl,rfl⟩)))) (.done (.of rfl rfl))
         exact AllA.nil
        refine TieA.have_ (fuel₁:=4) (l₁:=(bm 8 15)) (σ₁:=⟨[(0,NS q10 l),NP 6,NP 9,(10,NI s2.1),(11,.own 2160),(12,NI s.2.1),(13,NI s2.2.1),(38,.agg [NI s2.2.2.1.Low,NI s2.2.2.1.High]),(41,.el (q10 x))],[(6,.box [NI 0,NI 0]),(9,.box [NI s2.2.2.1.Low,NI s2.2.2.1.High]),(2160,.rs 4 1 s2.2.2.2 Pv.encB)]⟩) ?_ fun A_0=>?_
        ·refine TieA.all [4,6] (by kernel_rfl) rfl (AllA.runTo _ rfl rfl rfl (.of rfl rfl) A_1 (AllA.run _ rfl rfl rfl ?_ ?_))
         ·exact TieA.ga 2 [4] (by kernel_rfl) rfl (.one 5 rfl (by kernel_rfl) (TieO.withH hv (TieO.k (q49 s2.2.2.1 x) rfl (TieO.ifH (TieO.l 1 rfl ⟨rfl,rfl⟩)))) (.done (.of rfl rfl)))
         exact AllA.nil
        refine TieA.ga 6 [1,2] (by kernel_rfl) rfl (.all [0,3,6] (by kernel_rfl) rfl (AllA.run _ rfl rfl rfl ?_ ?_))
        ·refine TieA.all [3,6] (by kernel_rfl) rfl (AllA.cons _ rfl rfl ?_ A_0 ?_)
         ·exact TieO.indexH hx rfl rfl rfl rfl rfl rfl rfl rfl (fun _=>rfl) (.l 1 rfl (lf rfl rfl))
         refine AllA.run _ rfl rfl rfl ?_ ?_
         ·exact TieA.one 3 rfl (by kernel_rfl) (TieO.indexH hx rfl rfl rfl rfl rfl rfl rfl rfl (fun _=>rfl) (TieO.l 1 rfl ⟨rfl,rfl⟩)) (.ga 2 [4] (by kernel_rfl) rfl (.one 5 rfl (by kernel_rfl) (TieO.withH hv (TieO.k (q49 s2.2.2.1 x) rfl (TieO.ifH (TieO.l 1 rfl ⟨rfl,rfl⟩)))) (.done (.of rfl rfl))))
         exact AllA.nil
        refine AllA.cons (σ₁:=⟨[(0,NS q10 l),NP 6,NP 9,(10,NI s2.1),(11,.own 2160),(12,NI s.2.1),(13,NI s2.2.1),(41,.el (q10 x))],[(6,.box [NI 0,NI 0]),(9,.box [NI s2.2.2.1.Low,NI s2.2.2.1.High]),(2160,.rs 4 1 s2.2.2.2 Pv.encB)]⟩) _ rfl rfl ?_ ?_ ?_
        ·exact TieO.indexH hx rfl rfl rfl rfl rfl rfl rfl rfl (fun _=>rfl) (.l 1 rfl (lf rfl rfl))
        ·refine TieA.all [0,4,6] (by kernel_rfl) rfl (AllA.runTo _ rfl rfl rfl (.of rfl rfl) A_0 (AllA.run _ rfl rfl rfl ?_ ?_))
         ·refine TieA.all [0,6] (by kernel_rfl) rfl (AllA.runTo _ rfl rfl rfl (.of rfl rfl) A_1 (AllA.run _ rfl rfl rfl ?_ ?_))
          ·exact TieA.ga 2 [0] (by kernel_rfl) rfl (.one 5 rfl (by kernel_rfl) (TieO.withH hv (TieO.k (q49 s2.2.2.1 x) rfl (TieO.ifH (TieO.l 1 rfl ⟨rfl,rfl⟩)))) (.done (.of rfl rfl)))
          exact AllA.nil
         refine AllA.run _ rfl rfl rfl ?_ ?_
         ·exact TieA.ga 2 [0,4] (by kernel_rfl) rfl (.one 5 rfl (by kernel_rfl) (TieO.withH hv (TieO.k (q49 s2.2.2.1 x) rfl (TieO.ifH (TieO.l 1 rfl ⟨rfl,rfl⟩)))) (.done (.of rfl rfl)))
         exact AllA.nil
        refine AllA.run _ rfl rfl rfl ?_ ?_
        ·exact TieA.ga 4 [0] (by kernel_rfl) rfl (.one 3 rfl (by kernel_rfl) (TieO.indexH hx rfl rfl rfl rfl rfl rfl rfl rfl (fun _=>rfl) (TieO.l 1 rfl ⟨rfl,rfl⟩)) (.ga 2 [4] (by kernel_rfl) rfl (.one 5 rfl (by kernel_rfl) (TieO.withH hv (TieO.k (q49 s2.2.2.1 x) rfl (TieO.ifH (TieO.l 1 rfl ⟨rfl,rfl⟩)))) (.done (.of rfl rfl)))))
        exact AllA.nil
       exact TieO.l 2 rfl (lf rfl rfl)
      rintro f2 e σ' _ ⟨rfl,hs⟩
      refine TieX.sub hs (TieS.s 9 rfl (.bind (Q₁:=nrm fun t=>⟨[(0,NS q10 l),NP 6,NP 9,(10,NI t),(11,.own 2160),(12,NI s.2.1),(13,NI s2.2.1),NP 14],[(6,.box [NI 0,NI 0]),(9,.box [NI s2.2.2.1.Low,NI s2.2.2.1.High]),(14,.box [NI f2.Low,NI f2.High]),(2160,.rs 4 1 s2.2.2.2 Pv.encB)]⟩) ?_ ?_))
      ·refine TieS.cond rfl ?_ ?_
       ·exact TieS.o 3 rfl (.indexH hx rfl rfl rfl rfl rfl rfl rfl rfl (fun _=>rfl) (.l 4 rfl (lf rfl rfl)))
       ·exact TieS.l 1 rfl (lf rfl rfl)
      rintro source e σ' _ ⟨rfl,hs⟩
      exact TieX.sub hs (TieS.o 6 rfl (.neS [.int .i64 f2.Low,.int .i64 f2.High] [.int .i64 s2.2.2.1.Low,.int .i64 s2.2.2.1.High] (eqv_189 f2.Low f2.High s2.2.2.1.Low s2.2.2.1.High) rfl rfl rfl rfl rfl rfl (.indexO rfl rfl rfl rfl rfl rfl rfl rfl rfl rfl fun x2 hx2=>.storeY (!((f2.Low == s2.2.2.1.Low) && ((f2.High == s2.2.2.1.High) && true))) [tB (!((f2.Low == s2.2.2.1.Low) && ((f2.High == s2.2.2.1.High) && true)))] hx2 rfl rfl rfl rfl rfl rfl rfl rfl rfl rfl rfl rfl fun l3 hl3=>.l 11 rfl (lf rfl rfl))))
    ·exact TieS.exitOut rfl ⟨(fun h=>by cases h),rfl,.of rfl rfl⟩
   rintro (s3 | r) e σ' _ hq
   ·obtain ⟨rfl,hs⟩:=hq
    refine TieX.exit rfl (TieX.sub hs ?_)
    exact TieS.l 6 rfl (lf rfl rfl)
   ·exact hq.elim
  ·exact TieS.exitOut rfl ⟨(fun h=>by cases h),rfl,.of rfl rfl⟩
 rintro (s4 | r) e σ' _ hq
 ·obtain ⟨rfl,hs⟩:=hq
  refine TieX.exit rfl (TieX.sub hs ?_)
  exact TieS.r 9 rfl (rt rfl)
 ·exact hq.elim
theorem q575 (g:SGrant) (l:List SRequest):TieF Tryz.prog 94 [q610 g,NS q10 l] (q251 g l) (fun r=>q610 r):=by
 refine TieF.i htab 31 [.cell 4 43] Tryz.call94 Tryz.func94 rfl rfl rfl rfl fun w0 L=>?_
 exact TieS.o 8 rfl (.k (q489 l (-5000) 10000) rfl fun r2=>.o 19 rfl (.k (q134 r2.1.Low (w64 (g.Torque - 1000)) (w64 (g.Torque + 300))) rfl fun v=>.r 13 rfl (rt rfl)))
theorem q203 (t2:STables) (speed:Int) (charge:Int):TieF Tryz.prog 200 [q20 t2,NI speed,NI charge] (q78 t2 speed charge) (fun r=>NI r):=by
 refine TieF.i htab 12 [.tmp 6] Tryz.call200 Tryz.func200 rfl rfl rfl rfl fun w0 L=>?_
 exact TieS.o 11 rfl (.k (q205 t2.Torque speed charge) rfl fun v=>.r 2 rfl (rt rfl))
theorem q564 (t2:STables) (speed:Int) (torque:Int):TieF Tryz.prog 185 [q20 t2,NI speed,NI torque] (q227 t2 speed torque) (fun r=>.tup [NI r.1,NB r.2]):=by
 refine TieF.i htab 49 [.tmp 6,.tmp 7] Tryz.call185 Tryz.func185 rfl rfl rfl rfl fun w0 L=>?_
 refine TieS.s 14 rfl (TieX.pre fun x hx=>TieX.pre fun x2 hx2=>TieS.dr 11 [(1,NI speed),(2,NI torque),NP 3,(8,NL t2.Torque.Y)] [(3,.box (q12 t2))] mixed (.of rfl rfl) (.q rfl rfl rfl (.cons (.index hx rfl rfl rfl rfl rfl rfl (fun _=>rfl)) (.q rfl rfl rfl (.q rfl rfl rfl (.q rfl rfl rfl (.q rfl rfl rfl (.q rfl rfl rfl (.cons (.index hx2 rfl rfl rfl rfl rfl rfl (fun _=>rfl)) (.q rfl rfl rfl (.q rfl rfl rfl (.q rfl rfl rfl (.nil)))))))))))) rfl (.o 7 rfl (.k (q203 t2 speed x2) rfl fun v=>.s 3 rfl (.cond rfl ?_ ?_))))
 ·exact TieS.r 5 rfl (rt rfl)
 ·refine TieS.s 3 rfl (.loop (fun t=>⟨[(1,NI speed),(2,NI torque),NP 3,(9,NI t.1),(10,NI t.2)],[(3,.box (q12 t2))]⟩) (fun b e σ'=>match b with | .inl t=>e = .exit 0 ∧ Sub ⟨[(9,NI t.1)],[]⟩ σ' | .inr t=>False) (.of rfl rfl) ?_ ?_)
  ·intro s
   refine TieS.s 7 rfl (.cond rfl ?_ ?_)
   ·refine TieS.o 17 rfl (.k (q203 t2 speed (w64 (s.1 + (w64 (Int.tdiv (w64 (s.2 - s.1)) 2))))) rfl fun v2=>.s 3 rfl (.cond rfl ?_ ?_))
    ·exact TieS.l 5 rfl (lf rfl rfl)
    ·exact TieS.l 6 rfl (lf rfl rfl)
   ·exact TieS.exitOut rfl ⟨(fun h=>by cases h),rfl,.of rfl rfl⟩
  rintro (s2 | r) e σ' _ hq
  ·obtain ⟨rfl,hs⟩:=hq
   refine TieX.exit rfl (TieX.sub hs ?_)
   exact TieS.r 6 rfl (rt rfl)
  ·exact hq.elim
theorem q210 (c:SCurve) (x:Int):TieF Tryz.prog 198 [q199 c,NI x] (q118 c x) (fun r=>NI r):=by
 refine TieF.i htab 83 [.tmp 4] Tryz.call198 Tryz.func198 rfl rfl rfl rfl fun w0 L=>?_
 refine TieS.o 18 rfl (.index rfl rfl rfl rfl rfl rfl rfl rfl (fun _=>rfl) fun x2 hx2=>.s 3 rfl (.cond rfl ?_ ?_))
 ·exact TieS.o 4 rfl (.index rfl rfl rfl rfl rfl rfl rfl rfl (fun _=>rfl) fun x3 hx3=>.r 3 rfl (rt rfl))
 ·refine TieS.o 9 rfl (.index rfl rfl rfl rfl rfl rfl rfl rfl (fun _=>rfl) fun x4 hx4=>.s 3 rfl (.cond rfl ?_ ?_))
  ·exact TieS.o 6 rfl (.index rfl rfl rfl rfl rfl rfl rfl rfl (fun _=>rfl) fun x5 hx5=>.r 3 rfl (rt rfl))
  ·refine TieS.s 7 rfl (.loop (fun t=>⟨[(1,NI x),NP 2,(6,NI t)],[(2,.box [NL c.X,NL c.Y])]⟩) (fun b e σ'=>match b with | .inl t=>e = .exit 0 ∧ Sub ⟨[(1,NI x),NP 2,(6,NI t)],[(2,.box [NL c.X,NL c.Y])]⟩ σ' | .inr t=>False) (.of rfl rfl) ?_ ?_)
   ·intro i
    refine TieS.o 7 rfl (.index rfl rfl rfl rfl rfl rfl rfl rfl (fun _=>rfl) fun x6 hx6=>.s 4 rfl (.cond rfl ?_ ?_))
    ·exact TieS.l 8 rfl (lf rfl rfl)
    ·exact TieS.exitOut rfl ⟨(fun h=>by cases h),rfl,.of rfl rfl⟩
   rintro (i2 | r) e σ' _ hq
   ·obtain ⟨rfl,hs⟩:=hq
    refine TieX.exit rfl (TieX.sub hs ?_)
    exact TieS.s 1 rfl (TieX.pre fun x7 hx7=>TieX.pre fun x8 hx8=>TieX.pre fun x9 hx9=>TieX.pre fun x10 hx10=>TieX.pre fun v hv=>TieS.dr 40 [(1,NI x),NP 2,(6,NI i2)] [(2,.box [NL c.X,NL c.Y])] mixed (.of rfl rfl) (.q rfl rfl rfl (.q rfl rfl rfl (.q rfl rfl rfl (.cons (.index hx7 rfl rfl rfl rfl rfl rfl (fun _=>rfl)) (.q rfl rfl rfl (.q rfl rfl rfl (.q rfl rfl rfl (.q rfl rfl rfl (.q rfl rfl rfl (.cons (.index hx8 rfl rfl rfl rfl rfl rfl (fun _=>rfl)) (.q rfl rfl rfl (.q rfl rfl rfl (.q rfl rfl rfl (.q rfl rfl rfl (.q rfl rfl rfl (.q rfl rfl rfl (.cons (.index hx9 rfl rfl rfl rfl rfl rfl (fun _=>rfl)) (.q rfl rfl rfl (.q rfl rfl rfl (.q rfl rfl rfl (.q rfl rfl rfl (.cons (.index hx7 rfl rfl rfl rfl rfl rfl (fun _=>rfl)) (.q rfl rfl rfl (.q rfl rfl rfl (.q rfl rfl rfl (.q rfl rfl rfl (.q rfl rfl rfl (.q rfl rfl rfl (.q rfl rfl rfl (.cons (.index hx10 rfl rfl rfl rfl rfl rfl (fun _=>rfl)) (.q rfl rfl rfl (.q rfl rfl rfl (.q rfl rfl rfl (.q rfl rfl rfl (.cons (.index hx8 rfl rfl rfl rfl rfl rfl (fun _=>rfl)) (.q rfl rfl rfl (.q rfl rfl rfl (.cons (.callV (q43 (w64 ((w64 (x - x8)) * (w64 (x9 - x7)))) (w64 (x10 - x8))) hv rfl rfl rfl rfl) (.q rfl rfl rfl (.q rfl rfl rfl (.nil))))))))))))))))))))))))))))))))))))))))) rfl (.r 1 rfl (rt rfl)))
   ·exact hq.elim
theorem q368 (t2:STables) (speed:Int) (pressure:Int) (temperature:Int):TieF Tryz.prog 189 [q20 t2,NI speed,NI pressure,NI temperature] (q127 t2 speed pressure temperature) (fun r=>NI r):=by
 refine TieF.i htab 23 [.tmp 8] Tryz.call189 Tryz.func189 rfl rfl rfl rfl fun w0 L=>?_
 exact TieS.s 6 rfl (TieX.pre fun v hv=>TieX.pre fun v2 hv2=>TieS.dr 11 [(1,NI speed),(2,NI pressure),(3,NI temperature),NP 4] [(4,.box (q12 t2))] mixed (.of rfl rfl) (.q rfl rfl rfl (.q rfl rfl rfl (.q rfl rfl rfl (.q rfl rfl rfl (.cons (.callV (q205 t2.Air speed pressure) hv rfl rfl rfl rfl) (.q rfl rfl rfl (.q rfl rfl rfl (.q rfl rfl rfl (.cons (.callV (q210 t2.AirTemp temperature) hv2 rfl rfl rfl rfl) (.q rfl rfl rfl (.q rfl rfl rfl (.nil)))))))))))) rfl (.o 4 rfl (.k (q43 (w64 (v * v2)) 1000) rfl fun v3=>.r 3 rfl (rt rfl))))
theorem q500 (t2:STables) (speed:Int) (want:Int) (temperature:Int):TieF Tryz.prog 186 [q20 t2,NI speed,NI want,NI temperature] (q155 t2 speed want temperature) (fun r=>.tup [NI r.1,NI r.2]):=by
 refine TieF.i htab 49 [.tmp 8,.tmp 9] Tryz.call186 Tryz.func186 rfl rfl rfl rfl fun w0 L=>?_
 refine TieS.o 10 rfl (.k (q260 t2) rfl fun v=>.s 2 rfl (.cond rfl ?_ ?_))
 ·exact TieS.r 5 rfl (rt rfl)
 ·refine TieS.o 5 rfl (.k (q19 speed 0 12000) rfl fun v2=>.o 2 rfl (.bind 4 (fun b2=>⟨[(1,NI speed),(2,NI want),(3,NI temperature),NP 4,(23,NB b2)],[(4,.box (q12 t2))]⟩) (TieO.split 19 rfl ?_ ?_) fun b2 _=>?_))
  ·exact TieO.l 5 rfl (lf rfl rfl)
  ·exact TieO.o 1 rfl (.k (q19 want 0 1048576) rfl fun v3=>.l 3 rfl (lf rfl rfl))
  refine TieO.o 1 rfl (.bind 4 (fun b3=>⟨[(1,NI speed),(2,NI want),(3,NI temperature),NP 4,(28,NB b3)],[(4,.box (q12 t2))]⟩) (TieO.split 24 rfl ?_ ?_) fun b3 _=>?_)
  ·exact TieO.l 5 rfl (lf rfl rfl)
  ·exact TieO.o 1 rfl (.k (q19 temperature (-40) 150) rfl fun v4=>.l 3 rfl (lf rfl rfl))
  refine TieO.s 1 rfl (.cond rfl ?_ ?_)
  ·exact TieS.r 5 rfl (rt rfl)
  ·refine TieS.s 8 rfl (.loop (fun t=>⟨[(1,NI speed),(2,NI want),(3,NI temperature),NP 4,(10,NI t.1),(11,NI t.2)],[(4,.box (q12 t2))]⟩) (fun b e σ'=>match b with | .inl t=>e = .exit 0 ∧ Sub ⟨[(10,NI t.1)],[]⟩ σ' | .inr t=>False) (.of rfl rfl) ?_ ?_)
   ·intro s
    refine TieS.s 7 rfl (.cond rfl ?_ ?_)
    ·refine TieS.o 16 rfl (.k (q368 t2 speed (w64 (Int.tdiv (w64 (s.1 + s.2)) 2)) temperature) rfl fun v5=>.s 3 rfl (.cond rfl ?_ ?_))
     ·exact TieS.l 5 rfl (lf rfl rfl)
     ·exact TieS.l 6 rfl (lf rfl rfl)
    ·exact TieS.exitOut rfl ⟨(fun h=>by cases h),rfl,.of rfl rfl⟩
   rintro (s2 | r) e σ' _ hq
   ·obtain ⟨rfl,hs⟩:=hq
    refine TieX.exit rfl (TieX.sub hs ?_)
    refine TieS.s 6 rfl (.cond rfl ?_ ?_)
    ·exact TieS.r 5 rfl (rt rfl)
    ·exact TieS.r 7 rfl (rt rfl)
   ·exact hq.elim
theorem q616 (speed:Int):TieF Tryz.prog 267 [NI speed] (q409 speed) (fun r=>NI r):=by
 refine TieF.i htab 6 [.tmp 2] Tryz.call267 Tryz.func267 rfl rfl rfl rfl fun w0 L=>?_
 exact TieS.o 8 rfl (.k (q43 (w64 (speed * 60000000)) 1509949440) rfl fun v=>.r 2 rfl (rt rfl))
theorem q524 (rpm:Int):TieF Tryz.prog 243 [NI rpm] (q186 rpm) (fun r=>NI r):=by
 refine TieF.i htab 21 [.tmp 2] Tryz.call243 Tryz.func243 rfl rfl rfl rfl fun w0 L=>?_
 refine TieS.s 11 rfl (.loop (fun t=>⟨[(0,NI rpm),(3,NI t.1),(4,NI t.2)],[]⟩) (fun b e σ'=>match b with | .inl t=>e = .exit 0 ∧ Sub ⟨[(3,NI t.1)],[]⟩ σ' | .inr t=>False) (.of rfl rfl) ?_ ?_)
 ·intro s
  refine TieS.s 7 rfl (.cond rfl ?_ ?_)
  ·refine TieS.o 7 rfl (.k (q43 (w64 (s.1 + s.2)) 2) rfl fun v=>.o 5 rfl (.k (q616 v) rfl fun v2=>.s 3 rfl (.cond rfl ?_ ?_)))
   ·exact TieS.l 5 rfl (lf rfl rfl)
   ·exact TieS.l 6 rfl (lf rfl rfl)
  ·exact TieS.exitOut rfl ⟨(fun h=>by cases h),rfl,.of rfl rfl⟩
 rintro (s2 | r) e σ' _ hq
 ·obtain ⟨rfl,hs⟩:=hq
  refine TieX.exit rfl (TieX.sub hs ?_)
  exact TieS.r 5 rfl (rt rfl)
 ·exact hq.elim
theorem q588 (speed:Int) (pressure:Int):TieF Tryz.prog 187 [NI speed,NI pressure] (q275 speed pressure) (fun r=>.tup [NI r.1,NI r.2]):=by
 refine TieF.i htab 19 [.tmp 4,.tmp 5] Tryz.call187 Tryz.func187 rfl rfl rfl rfl fun w0 L=>?_
 refine TieS.o 9 rfl (.k (q19 speed 0 12000) rfl fun v=>.o 2 rfl (.bind 4 (fun b2=>⟨[(0,NI speed),(1,NI pressure),(13,NB b2)],[]⟩) (TieO.split 9 rfl ?_ ?_) fun b2 _=>?_))
 ·exact TieO.l 5 rfl (lf rfl rfl)
 ·exact TieO.o 1 rfl (.k (q19 pressure 50 3000) rfl fun v2=>.l 3 rfl (lf rfl rfl))
 refine TieO.s 1 rfl (.cond rfl ?_ ?_)
 ·exact TieS.r 5 rfl (rt rfl)
 ·exact TieS.o 4 rfl (.k (q524 speed) rfl fun v3=>.o 2 rfl (.k (q43 (w64 (v3 * pressure)) 1024) rfl fun v4=>.r 3 rfl (rt rfl)))
abbrev x244_0 (b2:SBody):List T:=[NI b2.Inertia,NI b2.Friction,NI b2.Volume,NI b2.Throttle,NI b2.Film,NI b2.Evaporate,NI b2.Delay]
theorem q583 (b2:SBody):TieF Tryz.prog 244 [A_SBody b2] (q284 b2) (fun r=>NB r):=by
 refine TieF.i htab 36 [.tmp 2] Tryz.call244 Tryz.func244 rfl rfl rfl rfl fun w0 L=>?_
 refine TieS.o 9 rfl (.k (q19 b2.Inertia 100 1048576) rfl fun v=>.o 1 rfl (.bind 4 (fun b3=>⟨[NP 1,(10,NB b3)],[(1,.box (x244_0 b2))]⟩) (TieO.split 6 rfl ?_ ?_) fun b3 _=>?_))
 ·exact TieO.o 2 rfl (.k (q19 b2.Friction 0 65536) rfl fun v2=>.l 2 rfl (lf rfl rfl))
 ·exact TieO.l 5 rfl (lf rfl rfl)
 refine TieO.o 1 rfl (.bind 4 (fun b4=>⟨[NP 1,(15,NB b4)],[(1,.box (x244_0 b2))]⟩) (TieO.split 11 rfl ?_ ?_) fun b4 _=>?_)
 ·exact TieO.o 2 rfl (.k (q19 b2.Throttle 0 65536) rfl fun v3=>.l 2 rfl (lf rfl rfl))
 ·exact TieO.l 5 rfl (lf rfl rfl)
 refine TieO.o 1 rfl (.bind 4 (fun b5=>⟨[NP 1,(20,NB b5)],[(1,.box (x244_0 b2))]⟩) (TieO.split 16 rfl ?_ ?_) fun b5 _=>?_)
 ·exact TieO.o 2 rfl (.k (q19 b2.Volume 1 65536) rfl fun v4=>.l 2 rfl (lf rfl rfl))
 ·exact TieO.l 5 rfl (lf rfl rfl)
 refine TieO.o 1 rfl (.bind 4 (fun b6=>⟨[NP 1,(25,NB b6)],[(1,.box (x244_0 b2))]⟩) (TieO.split 21 rfl ?_ ?_) fun b6 _=>?_)
 ·exact TieO.o 2 rfl (.k (q19 b2.Film 0 1023) rfl fun v5=>.l 2 rfl (lf rfl rfl))
 ·exact TieO.l 5 rfl (lf rfl rfl)
 refine TieO.o 1 rfl (.bind 4 (fun b7=>⟨[NP 1,(30,NB b7)],[(1,.box (x244_0 b2))]⟩) (TieO.split 26 rfl ?_ ?_) fun b7 _=>?_)
 ·exact TieO.o 2 rfl (.k (q19 b2.Evaporate 1 1024) rfl fun v6=>.l 2 rfl (lf rfl rfl))
 ·exact TieO.l 5 rfl (lf rfl rfl)
 refine TieO.o 1 rfl (.bind 4 (fun b8=>⟨[(35,NB b8)],[]⟩) (TieO.split 31 rfl ?_ ?_) fun b8 _=>?_)
 ·exact TieO.o 2 rfl (.k (q19 b2.Delay 0 20) rfl fun v7=>.l 2 rfl (lf rfl rfl))
 ·exact TieO.l 5 rfl (lf rfl rfl)
 exact TieO.r 2 rfl (rt rfl)
abbrev x188_0 (b2:SBody):List T:=[NI b2.Inertia,NI b2.Friction,NI b2.Volume,NI b2.Throttle,NI b2.Film,NI b2.Evaporate,NI b2.Delay]
theorem q495 (b2:SBody) (flow:Int) (pressure:Int):TieF Tryz.prog 188 [A_SBody b2,NI flow,NI pressure] (q159 b2 flow pressure) (fun r=>.tup [NI r.1,NI r.2]):=by
 refine TieF.i htab 35 [.tmp 6,.tmp 7] Tryz.call188 Tryz.func188 rfl rfl rfl rfl fun w0 L=>?_
 refine TieS.o 10 rfl (.k (q583 b2) rfl fun v=>.s 2 rfl (.cond rfl ?_ ?_))
 ·exact TieS.r 5 rfl (rt rfl)
 ·refine TieS.o 5 rfl (.k (q19 flow 0 1099511627776) rfl fun v2=>.o 2 rfl (.bind 4 (fun b3=>⟨[(1,NI flow),(2,NI pressure),NP 3,(19,NB b3)],[(3,.box (x188_0 b2))]⟩) (TieO.split 15 rfl ?_ ?_) fun b3 _=>?_))
  ·exact TieO.l 5 rfl (lf rfl rfl)
  ·exact TieO.o 1 rfl (.k (q19 pressure 50 1013) rfl fun v3=>.l 3 rfl (lf rfl rfl))
  refine TieO.s 1 rfl (.cond rfl ?_ ?_)
  ·exact TieS.r 5 rfl (rt rfl)
  ·refine TieS.s 7 rfl (.loop (fun t=>⟨[(1,NI flow),(2,NI pressure),NP 3,(8,NI t)],[(3,.box (x188_0 b2))]⟩) (fun b e σ'=>match b with | .inl t=>e = .exit 0 ∧ Sub ⟨[],[]⟩ σ' | .inr t=>e = .ret ∧ retT tab σ' [.tmp 6,.tmp 7] = some (((fun r=>.tup [NI r.1,NI r.2]):(Int × Int) → T) t)) (.of rfl rfl) ?_ ?_)
   ·intro x
    refine TieS.s 6 rfl (.cond rfl ?_ ?_)
    ·refine TieS.o 12 rfl (.k (q43 (w64 ((w64 (b2.Throttle * x)) * (w64 (1013 - pressure)))) 1000) rfl fun v4=>.s 3 rfl (.cond rfl ?_ ?_))
     ·exact TieS.r 6 rfl ⟨(fun h=>by cases h),rfl,rfl⟩
     ·exact TieS.l 7 rfl (lf rfl rfl)
    ·exact TieS.exitOut rfl ⟨(fun h=>by cases h),rfl,.of rfl rfl⟩
   rintro (x2 | r2) e σ' _ hq
   ·obtain ⟨rfl,hs⟩:=hq
    refine TieX.exit rfl (TieX.sub hs ?_)
    exact TieS.r 5 rfl (rt rfl)
   ·obtain ⟨rfl,hs⟩:=hq
    exact TieX.ret ⟨.inl rfl,hs⟩
abbrev x95_0 (b2:SBody):List T:=[NI b2.Inertia,NI b2.Friction,NI b2.Volume,NI b2.Throttle,NI b2.Film,NI b2.Evaporate,NI b2.Delay]
theorem q504 (t2:STables) (b2:SBody) (v_in:SInputs) (want:Int):TieF Tryz.prog 95 [q20 t2,A_SBody b2,q308 v_in,NI want] (q152 t2 b2 v_in want) (fun r=>NI r):=by
 refine TieF.i htab 58 [.tmp 8] Tryz.call95 Tryz.func95 rfl rfl rfl rfl fun w0 L=>?_
 refine TieS.o 13 rfl (.k (q564 t2 v_in.Speed want) rfl fun r2=>.s 12 rfl (.bind (Q₁:=nrm fun t=>⟨[NP 4,NP 5,NP 6,(9,NI t)],[(4,.box (q12 t2)),(5,.box (x95_0 b2)),(6,.box (q14 v_in))]⟩) ?_ ?_))
 ·refine TieS.cond rfl ?_ ?_
  ·exact TieS.l 3 rfl (lf rfl rfl)
  ·exact TieS.l 1 rfl (lf rfl rfl)
 rintro charge e σ' _ ⟨rfl,hs⟩
 refine TieX.sub hs (TieS.o 9 rfl (.k (q500 t2 v_in.Speed (maxI 0 charge) v_in.AirTemp) rfl fun r3=>.s 12 rfl (.bind (Q₁:=nrm fun t=>⟨[NP 5,NP 6,(11,NI t)],[(5,.box (x95_0 b2)),(6,.box (q14 v_in))]⟩) ?_ ?_)))
 ·refine TieS.cond rfl ?_ ?_
  ·exact TieS.l 3 rfl (lf rfl rfl)
  ·exact TieS.l 1 rfl (lf rfl rfl)
 rintro pressure e σ' _ ⟨rfl,hs⟩
 refine TieX.sub hs (TieS.o 11 rfl (.k (q588 v_in.Speed (minI 1012 pressure)) rfl fun r4=>.o 11 rfl (.k (q495 b2 r4.1 (minI 1012 pressure)) rfl fun r5=>.s 12 rfl (.cond rfl ?_ ?_))))
 ·exact TieS.r 4 rfl (rt rfl)
 ·exact TieS.r 6 rfl (rt rfl)
theorem q539 (t2:STables) (speed:Int) (pressure:Int) (temperature:Int):TieF Tryz.prog 96 [q20 t2,NI speed,NI pressure,NI temperature] (q208 t2 speed pressure temperature) (fun r=>.tup [NI r.1,NI r.2]):=by
 refine TieF.i htab 31 [.tmp 8,.tmp 9] Tryz.call96 Tryz.func96 rfl rfl rfl rfl fun w0 L=>?_
 refine TieS.o 10 rfl (.k (q260 t2) rfl fun v=>.s 2 rfl (.cond rfl ?_ ?_))
 ·exact TieS.r 5 rfl (rt rfl)
 ·refine TieS.o 5 rfl (.k (q19 speed 0 12000) rfl fun v2=>.o 2 rfl (.bind 4 (fun b2=>⟨[(1,NI speed),(2,NI pressure),(3,NI temperature),NP 4,(20,NB b2)],[(4,.box (q12 t2))]⟩) (TieO.split 16 rfl ?_ ?_) fun b2 _=>?_))
  ·exact TieO.l 5 rfl (lf rfl rfl)
  ·exact TieO.o 1 rfl (.k (q19 pressure 50 3000) rfl fun v3=>.l 3 rfl (lf rfl rfl))
  refine TieO.o 1 rfl (.bind 4 (fun b3=>⟨[(1,NI speed),(2,NI pressure),(3,NI temperature),NP 4,(25,NB b3)],[(4,.box (q12 t2))]⟩) (TieO.split 21 rfl ?_ ?_) fun b3 _=>?_)
  ·exact TieO.l 5 rfl (lf rfl rfl)
  ·exact TieO.o 1 rfl (.k (q19 temperature (-40) 150) rfl fun v4=>.l 3 rfl (lf rfl rfl))
  refine TieO.s 1 rfl (.cond rfl ?_ ?_)
  ·exact TieS.r 5 rfl (rt rfl)
  ·exact TieS.o 7 rfl (.k (q368 t2 speed pressure temperature) rfl fun v5=>.r 3 rfl (rt rfl))
theorem q470 (c:SCurve) (late:Int):TieF Tryz.prog 201 [q199 c,NI late] (q215 c late) (fun r=>NI r):=by
 refine TieF.i htab 8 [.tmp 4] Tryz.call201 Tryz.func201 rfl rfl rfl rfl fun w0 L=>?_
 exact TieS.o 9 rfl (.k (q210 c late) rfl fun v=>.r 2 rfl (rt rfl))
theorem q214 (t2:STables) (speed:Int) (charge:Int) (late:Int) (fired:Int) (cylinders:Int):TieF Tryz.prog 108 [q20 t2,NI speed,NI charge,NI late,NI fired,NI cylinders] (q88 t2 speed charge late fired cylinders) (fun r=>NI r):=by
 refine TieF.i htab 27 [.tmp 12] Tryz.call108 Tryz.func108 rfl rfl rfl rfl fun w0 L=>?_
 exact TieS.s 6 rfl (TieX.pre fun v hv=>TieX.pre fun v2 hv2=>TieX.pre fun q hq=>TieS.dr 15 [(1,NI speed),(2,NI charge),(3,NI late),(4,NI fired),(5,NI cylinders),NP 6] [(6,.box (q12 t2))] mixed (.of rfl rfl) (.q rfl rfl rfl (.q rfl rfl rfl (.q rfl rfl rfl (.cons (.callV (q203 t2 speed charge) hv rfl rfl rfl rfl) (.q rfl rfl rfl (.q rfl rfl rfl (.q rfl rfl rfl (.cons (.callV (q470 t2.Efficiency late) hv2 rfl rfl rfl rfl) (.q rfl rfl rfl (.q rfl rfl rfl (.q rfl rfl rfl (.q rfl rfl rfl (.q rfl rfl rfl (.cons (.quo hq rfl rfl rfl rfl) (.q rfl rfl rfl (.nil)))))))))))))))) rfl (.r 1 rfl (rt rfl)))
theorem q566 (t2:STables) (speed:Int) (charge:Int) (torque:Int) (cylinders:Int):TieF Tryz.prog 97 [q20 t2,NI speed,NI charge,NI torque,NI cylinders] (q232 t2 speed charge torque cylinders) (fun r=>.tup [NI r.1,NI r.2]):=by
 refine TieF.i htab 50 [.tmp 10,.tmp 11] Tryz.call97 Tryz.func97 rfl rfl rfl rfl fun w0 L=>?_
 refine TieS.s 13 rfl (.loop (fun t=>⟨[(1,NI speed),(2,NI charge),(3,NI torque),(4,NI cylinders),NP 5,(12,NI t)],[(5,.box (q12 t2))]⟩) (fun b e σ'=>match b with | .inl t=>e = .exit 0 ∧ Sub ⟨[],[]⟩ σ' | .inr t=>e = .ret ∧ retT tab σ' [.tmp 10,.tmp 11] = some (((fun r=>.tup [NI r.1,NI r.2]):(Int × Int) → T) t)) (.of rfl rfl) ?_ ?_)
 ·intro fired
  refine TieS.s 6 rfl (.cond rfl ?_ ?_)
  ·refine TieS.o 11 rfl (.k (q214 t2 speed charge 2560 fired cylinders) rfl fun v=>.s 3 rfl (.cond rfl ?_ ?_))
   ·exact TieS.exit rfl (.l 5 rfl (lf rfl rfl))
   ·refine TieS.s 8 rfl (.loop (fun t=>⟨[(1,NI speed),(2,NI charge),(3,NI torque),(4,NI cylinders),NP 5,(12,NI fired),(13,NI t.1),(14,NI t.2)],[(5,.box (q12 t2))]⟩) (fun b e σ'=>match b with | .inl t=>e = .exit 2 ∧ Sub ⟨[(12,NI fired),(13,NI t.1)],[]⟩ σ' | .inr t=>False) (.of rfl rfl) ?_ ?_)
    ·intro s
     refine TieS.s 7 rfl (.cond rfl ?_ ?_)
     ·refine TieS.o 18 rfl (.k (q214 t2 speed charge (w64 (Int.tdiv (w64 (s.1 + s.2)) 2)) fired cylinders) rfl fun v2=>.s 3 rfl (.cond rfl ?_ ?_))
      ·exact TieS.l 5 rfl (lf rfl rfl)
      ·exact TieS.l 6 rfl (lf rfl rfl)
     ·exact TieS.exitOut rfl ⟨(fun h=>by cases h),rfl,.of rfl rfl⟩
    rintro (s2 | r) e σ' _ hq
    ·obtain ⟨rfl,hs⟩:=hq
     refine TieX.exit rfl (TieX.sub hs ?_)
     exact TieS.r 7 rfl ⟨(fun h=>by cases h),rfl,rfl⟩
    ·exact hq.elim
  ·exact TieS.exitOut rfl ⟨(fun h=>by cases h),rfl,.of rfl rfl⟩
 rintro (fired2 | r2) e σ' _ hq
 ·obtain ⟨rfl,hs⟩:=hq
  refine TieX.exit rfl (TieX.sub hs ?_)
  exact TieS.r 5 rfl (rt rfl)
 ·obtain ⟨rfl,hs⟩:=hq
  exact TieX.ret ⟨.inl rfl,hs⟩
theorem q26 (k:SKnock) (n2:Int):TieF Tryz.prog 98 [q258 k,NI n2] (q280 k n2) (fun r=>.tup [q258 r.1,NB r.2]):=by
 refine TieF.i htab 56 [.cell 4 95,.tmp 5] Tryz.call98 Tryz.func98 rfl rfl rfl rfl fun w0 L=>?_
 refine TieS.s 16 rfl (.cond rfl ?_ ?_)
 ·exact TieS.r 12 rfl (rt rfl)
 ·refine TieS.s 16 rfl (.bind (Q₁:=nrm fun t=>⟨[(1,NI n2),NP 2,NP 4],[(2,.box [NI t.1,NI k.Noise,NI t.2]),(4,.box [NI 0,NI 0,NI 0])]⟩) ?_ ?_)
  ·refine TieS.cond rfl ?_ ?_
   ·exact TieS.l 13 rfl (lf rfl rfl)
   ·exact TieS.l 1 rfl (lf rfl rfl)
  rintro s e σ' _ ⟨rfl,hs⟩
  refine TieX.sub hs (TieS.s 8 rfl (.cond rfl ?_ ?_))
  ·exact TieS.r 18 rfl (rt rfl)
  ·exact TieS.r 19 rfl (rt rfl)
theorem q265 (speed:Int) (charge:Int):TieF Tryz.prog 190 [NI speed,NI charge] (q101 speed charge) (fun r=>NB r):=by
 refine TieF.i htab 11 [.tmp 4] Tryz.call190 Tryz.func190 rfl rfl rfl rfl fun w0 L=>?_
 refine TieS.o 7 rfl (.k (q44 speed 0 12000) rfl fun v=>.o 1 rfl (.bind 3 (fun b2=>⟨[(10,NB b2)],[]⟩) (TieO.split 7 rfl ?_ ?_) fun b2 _=>?_))
 ·exact TieO.o 1 rfl (.k (q44 charge 0 1048576) rfl fun v2=>.l 2 rfl (lf rfl rfl))
 ·exact TieO.l 4 rfl (lf rfl rfl)
 exact TieO.r 2 rfl (rt rfl)
abbrev x191_0:List T:=[NB false,NB false,NI 0,NI 0,.t (.v (.slice none 0 0))]
abbrev x191_1 (p2:SProbe):List T:=[NB p2.Active,NB p2.Rich,NI p2.Factor,NI p2.Wait,.own 2168]
theorem q587 (p2:SProbe):TieF Tryz.prog 191 [q96 p2] (q272 p2) (fun r=>q96 r):=by
 refine TieF.i htab 24 [.cell 2 41] Tryz.call191 Tryz.func191 rfl rfl rfl rfl fun w0 L=>?_
 refine TieS.s 22 rfl (TieX.nilB 1 2168 105 2 [4] rfl rfl rfl rfl rfl (TieS.loop (fun t=>⟨[NP 1,NP 2,(3,NS q18 p2.Cells),(4,NI t.1)],[(1,.box (x191_1 p2)),(2,.box x191_0),(2168,.rs 105 2 t.2 q18)]⟩) (fun b e σ'=>match b with | .inl t=>e = .exit 0 ∧ Sub ⟨[NP 1,NP 2],[(1,.box (x191_1 p2)),(2,.box x191_0),(2168,.rs 105 2 t.2 q18)]⟩ σ' | .inr t=>False) (.of rfl rfl) ?_ ?_))
 ·intro s
  refine TieS.s 8 rfl (.cond rfl ?_ ?_)
  ·refine TieS.s 3 rfl (.bind (Q₁:=nrm fun t=>⟨[NP 1,NP 2,(3,NS q18 p2.Cells),(4,NI s.1)],[(1,.box (x191_1 p2)),(2,.box x191_0),(2168,.rs 105 2 t q18)]⟩) ?_ ?_)
   ·refine TieX.pre fun x hx=>TieS.draws 7 (bm 10 0) (bm 10 127) ⟨[NP 1,NP 2,(3,NS q18 p2.Cells),(4,NI s.1),(15,.own 2168),(20,.own 20)],[(1,.box (x191_1 p2)),(2,.box x191_0),(20,.rs 105 2 ([x]:List SCell) q18),(2168,.rs 105 2 s.2 q18)]⟩ mixed (fun _ _ _ h=>by cases h.1) rfl rfl rfl rfl ?_ ?_
    ·refine TieA.ga 7 [0,2,3] (by kernel_rfl) rfl (.all [1,4] (by kernel_rfl) rfl (AllA.run _ rfl rfl rfl ?_ ?_))
     ·exact TieA.one 4 rfl (by kernel_rfl) (TieO.indexH hx rfl rfl rfl rfl rfl rfl rfl rfl (fun _=>rfl) (TieO.l 1 rfl ⟨rfl,rfl⟩)) (.ga 4 [5] (by kernel_rfl) rfl (.oneR 6 rfl (by kernel_rfl) rfl (.done (.of rfl rfl))))
     refine AllA.cons (σ₁:=⟨[NP 1,NP 2,(3,NS q18 p2.Cells),(4,NI s.1),(14,.ptr 1 4),(18,.el (q18 x))],[(1,.box (x191_1 p2)),(2,.box x191_0),(2168,.rs 105 2 s.2 q18)]⟩) _ rfl rfl ?_ ?_ ?_
     ·exact TieO.indexH hx rfl rfl rfl rfl rfl rfl rfl rfl (fun _=>rfl) (.l 1 rfl (lf rfl rfl))
     ·refine TieA.ga 5 [5] (by kernel_rfl) rfl (.all [1,6] (by kernel_rfl) rfl (AllA.run _ rfl rfl rfl ?_ ?_))
      ·exact TieA.oneR 6 rfl (by kernel_rfl) rfl (.done (.of rfl rfl))
      refine AllA.run _ rfl rfl rfl ?_ ?_
      ·exact TieA.ga 3 [1] (by kernel_rfl) rfl (.done (.of rfl rfl))
      exact AllA.nil
     exact AllA.nil
    exact TieO.appendY (id:=2168) (l:=s.2) (r:=([x]:List SCell)) (tm':=[NP 1,NP 2,(3,NS q18 p2.Cells),(4,NI s.1),(20,.own 20)]) (hp':=[(1,.box [NB p2.Active,NB p2.Rich,NI p2.Factor,NI p2.Wait,.any]),(2,.box x191_0),(20,.rs 105 2 ([x]:List SCell) q18)]) rfl rfl rfl rfl rfl rfl rfl (fun _=>rfl) (fun _=>rfl) (.inl ⟨rfl,rfl⟩) (.inr ⟨_,rfl,rfl⟩) (.of rfl rfl) rfl rfl rfl fun l=>.l 3 rfl (lf rfl rfl)
   rintro f2 e σ' _ ⟨rfl,hs⟩
   exact TieX.sub hs (TieS.l 6 rfl (lf rfl rfl))
  ·exact TieS.exitOut rfl ⟨(fun h=>by cases h),rfl,.of rfl rfl⟩
 rintro (s2 | r) e σ' _ hq
 ·obtain ⟨rfl,hs⟩:=hq
  refine TieX.exit rfl (TieX.sub hs ?_)
  exact TieS.r 5 rfl (rt rfl)
 ·exact hq.elim
abbrev x99_0 (p2:SProbe):List T:=[NB p2.Active,NB p2.Rich,NI p2.Factor,NI p2.Wait,NS q18 p2.Cells]
abbrev x99_1:List T:=[NB false,NB false,NI 0,NI 0,.t (.v (.slice none 0 0))]
theorem q601 (p2:SProbe) (mv:Int) (speed:Int) (charge:Int):TieF Tryz.prog 99 [q96 p2,NI mv,NI speed,NI charge] (q273 p2 mv speed charge) (fun r=>.tup [q96 r.1,NI r.2]):=by
 refine TieF.i htab 71 [.cell 8 41,.tmp 9] Tryz.call99 Tryz.func99 rfl rfl rfl rfl fun w0 L=>?_
 refine TieS.o 10 rfl (.k (q256 p2) rfl fun v=>.s 2 rfl (.cond rfl ?_ ?_))
 ·exact TieS.r 6 rfl (rt rfl)
 ·refine TieS.o 6 rfl (.k (q265 speed charge) rfl fun v2=>.o 2 rfl (.bind 4 (fun b2=>⟨[(1,NI mv),NP 4,NP 8,(24,NB b2)],[(4,.box (x99_0 p2)),(8,.box x99_1)]⟩) (TieO.split 20 rfl ?_ ?_) fun b2 _=>?_))
  ·exact TieO.l 5 rfl (lf rfl rfl)
  ·exact TieO.o 1 rfl (.k (q44 mv 0 20000) rfl fun v3=>.l 3 rfl (lf rfl rfl))
  refine TieO.s 1 rfl (.cond rfl ?_ ?_)
  ·exact TieS.r 6 rfl (rt rfl)
  ·refine TieS.o 4 rfl (.k (q587 p2) rfl fun v4=>.s 10 rfl (.cond rfl ?_ ?_))
   ·refine TieS.o 5 rfl (.selOr (v:=decide (mv > 600)) 3 33 (fun b=>⟨[(1,NI mv),NP 8,NP 10,(36,NB b)],[(8,.box x99_1),(10,.box [NB v4.Active,NB v4.Rich,NI v4.Factor,NI v4.Wait,NS q18 v4.Cells])]⟩) rfl ?_ ?_ ?_)
    ·exact TieO.l 4 rfl (lf rfl rfl)
    ·exact TieO.l 4 rfl (lf rfl rfl)
    exact TieO.r 16 rfl (rt rfl)
   ·refine TieS.s 7 rfl (.bind (Q₁:=nrm fun t=>⟨[(1,NI mv),NP 4,NP 8,NP 10],[(4,.box (x99_0 p2)),(8,.box x99_1),(10,.box [NB v4.Active,NB t,NI v4.Factor,NI v4.Wait,NS q18 v4.Cells])]⟩) ?_ ?_)
    ·refine TieS.cond rfl ?_ ?_
     ·exact TieS.l 4 rfl (lf rfl rfl)
     ·exact TieS.l 1 rfl (lf rfl rfl)
    rintro f2 e σ' _ ⟨rfl,hs⟩
    refine TieX.sub hs (TieS.s 6 rfl (.bind (Q₁:=nrm fun t=>⟨[NP 4,NP 8,NP 10],[(4,.box (x99_0 p2)),(8,.box x99_1),(10,.box [NB v4.Active,NB t,NI v4.Factor,NI v4.Wait,NS q18 v4.Cells])]⟩) ?_ ?_))
    ·refine TieS.cond rfl ?_ ?_
     ·exact TieS.l 4 rfl (lf rfl rfl)
     ·exact TieS.l 1 rfl (lf rfl rfl)
    rintro f3 e σ' _ ⟨rfl,hs⟩
    refine TieX.sub hs (TieS.s 13 rfl (.bind (Q₁:=nrm fun t=>⟨[NP 4,NP 8,NP 10,(11,NI t.1)],[(4,.box (x99_0 p2)),(8,.box x99_1),(10,.box [NB v4.Active,NB f3,NI v4.Factor,NI t.2,NS q18 v4.Cells])]⟩) ?_ ?_))
    ·refine TieS.cond rfl ?_ ?_
     ·exact TieS.l 8 rfl (lf rfl rfl)
     ·exact TieS.l 8 rfl (lf rfl rfl)
    rintro s e σ' _ ⟨rfl,hs⟩
    refine TieX.sub hs (TieS.s 6 rfl (.bind (Q₁:=nrm fun t=>⟨[NP 4,NP 8,NP 10,(11,NI t)],[(4,.box (x99_0 p2)),(8,.box x99_1),(10,.box [NB v4.Active,NB f3,NI v4.Factor,NI s.2,NS q18 v4.Cells])]⟩) ?_ ?_))
    ·refine TieS.cond rfl ?_ ?_
     ·exact TieS.l 5 rfl (lf rfl rfl)
     ·exact TieS.l 1 rfl (lf rfl rfl)
    rintro size e σ' _ ⟨rfl,hs⟩
    exact TieX.sub hs (TieS.r 17 rfl (rt rfl))
theorem q589 (speed:Int) (charge:Int):TieF Tryz.prog 192 [NI speed,NI charge] (q274 speed charge) (fun r=>NI r):=by
 refine TieF.i htab 23 [.tmp 4] Tryz.call192 Tryz.func192 rfl rfl rfl rfl fun w0 L=>?_
 refine TieS.o 9 rfl (.k (q265 speed charge) rfl fun v=>.s 2 rfl (.cond rfl ?_ ?_))
 ·exact TieS.r 4 rfl (rt rfl)
 ·refine TieS.s 12 rfl (.bind (Q₁:=nrm fun t=>⟨[(0,NI speed),(1,NI charge),(5,NI t),(6,NI 2)],[]⟩) ?_ ?_)
  ·refine TieS.cond rfl ?_ ?_
   ·exact TieS.l 3 rfl (lf rfl rfl)
   ·exact TieS.l 1 rfl (lf rfl rfl)
  rintro a e σ' _ ⟨rfl,hs⟩
  refine TieX.sub hs (TieS.s 6 rfl (.bind (Q₁:=nrm fun t=>⟨[(1,NI charge),(5,NI t),(6,NI 2)],[]⟩) ?_ ?_))
  ·refine TieS.cond rfl ?_ ?_
   ·exact TieS.l 3 rfl (lf rfl rfl)
   ·exact TieS.l 1 rfl (lf rfl rfl)
  rintro a2 e σ' _ ⟨rfl,hs⟩
  refine TieX.sub hs (TieS.s 6 rfl (.bind (Q₁:=nrm fun t=>⟨[(1,NI charge),(5,NI a2),(6,NI t)],[]⟩) ?_ ?_))
  ·refine TieS.cond rfl ?_ ?_
   ·exact TieS.l 3 rfl (lf rfl rfl)
   ·exact TieS.l 1 rfl (lf rfl rfl)
  rintro b2 e σ' _ ⟨rfl,hs⟩
  refine TieX.sub hs (TieS.s 6 rfl (.cond rfl ?_ ?_))
  ·exact TieS.r 11 rfl (rt rfl)
  ·exact TieS.r 9 rfl (rt rfl)
theorem q534 (p2:SProbe) (speed:Int) (charge:Int):TieF Tryz.prog 100 [q96 p2,NI speed,NI charge] (q207 p2 speed charge) (fun r=>.tup [NI r.1,NI r.2]):=by
 refine TieF.i htab 28 [.tmp 6,.tmp 7] Tryz.call100 Tryz.func100 rfl rfl rfl rfl fun w0 L=>?_
 refine TieS.o 10 rfl (.k (q256 p2) rfl fun v=>.s 2 rfl (.cond rfl ?_ ?_))
 ·exact TieS.r 5 rfl (rt rfl)
 ·refine TieS.o 6 rfl (.k (q265 speed charge) rfl fun v2=>.s 2 rfl (.cond rfl ?_ ?_))
  ·exact TieS.r 5 rfl (rt rfl)
  ·exact TieS.s 2 rfl (TieX.pre fun v3 hv3=>TieX.pre fun x hx=>TieS.dr 15 [(1,NI speed),(2,NI charge),NP 3] [(3,.box [NB p2.Active,NB p2.Rich,NI p2.Factor,NI p2.Wait,NS q18 p2.Cells])] mixed (.of rfl rfl) (.q rfl rfl rfl (.q rfl rfl rfl (.q rfl rfl rfl (.q rfl rfl rfl (.q rfl rfl rfl (.q rfl rfl rfl (.cons (.callV (q589 speed charge) hv3 rfl rfl rfl rfl) (.cons (.index hx rfl rfl rfl rfl rfl rfl (fun _=>rfl)) (.q rfl rfl rfl (.q rfl rfl rfl (.q rfl rfl rfl (.q rfl rfl rfl (.q rfl rfl rfl (.q rfl rfl rfl (.q rfl rfl rfl (.nil)))))))))))))))) rfl (.r 1 rfl (rt rfl)))
theorem q163 (n2:Int):TieF Tryz.prog 193 [NI n2] (q55 n2) (fun r=>NB r):=by
 refine TieF.i htab 9 [.tmp 2] Tryz.call193 Tryz.func193 rfl rfl rfl rfl fun w0 L=>?_
 refine TieS.o 9 rfl (.selAnd (v:=decide (n2 ≤ 1048576)) 3 5 (fun b=>⟨[(8,NB b)],[]⟩) rfl ?_ ?_ ?_)
 ·exact TieO.l 4 rfl (lf rfl rfl)
 ·exact TieO.l 4 rfl (lf rfl rfl)
 exact TieO.r 2 rfl (rt rfl)
theorem q600 (charge:Int) (factor:Int):TieF Tryz.prog 101 [NI charge,NI factor] (q279 charge factor) (fun r=>.tup [NI r.1,NI r.2]):=by
 refine TieF.i htab 22 [.tmp 4,.tmp 5] Tryz.call101 Tryz.func101 rfl rfl rfl rfl fun w0 L=>?_
 refine TieS.o 9 rfl (.k (q163 charge) rfl fun v=>.o 2 rfl (.selOr (v:=decide (factor < 500)) 3 9 (fun b=>⟨[(0,NI charge),(1,NI factor),(12,NB b)],[]⟩) rfl ?_ ?_ ?_))
 ·exact TieO.l 4 rfl (lf rfl rfl)
 ·exact TieO.l 4 rfl (lf rfl rfl)
 refine TieO.o 1 rfl (.selOr (v:=decide (factor > 2000)) 3 13 (fun b=>⟨[(0,NI charge),(1,NI factor),(16,NB b)],[]⟩) rfl ?_ ?_ ?_)
 ·exact TieO.l 4 rfl (lf rfl rfl)
 ·exact TieO.l 4 rfl (lf rfl rfl)
 refine TieO.s 1 rfl (.cond rfl ?_ ?_)
 ·exact TieS.r 5 rfl (rt rfl)
 ·exact TieS.o 7 rfl (.quo rfl rfl rfl rfl rfl rfl fun q=>.r 3 rfl (rt rfl))
abbrev x194_0 (b2:SBody):List T:=[NI b2.Inertia,NI b2.Friction,NI b2.Volume,NI b2.Throttle,NI b2.Film,NI b2.Evaporate,NI b2.Delay]
theorem q422 (b2:SBody):TieF Tryz.prog 194 [A_SBody b2] (q169 b2) (fun r=>NB r):=by
 refine TieF.i htab 21 [.tmp 2] Tryz.call194 Tryz.func194 rfl rfl rfl rfl fun w0 L=>?_
 refine TieS.o 11 rfl (.selAnd (v:=decide (b2.Film ≤ 1023)) 4 6 (fun b=>⟨[NP 1,(10,NB b)],[(1,.box (x194_0 b2))]⟩) rfl ?_ ?_ ?_)
 ·exact TieO.l 5 rfl (lf rfl rfl)
 ·exact TieO.l 5 rfl (lf rfl rfl)
 refine TieO.o 1 rfl (.selAnd (v:=decide (b2.Evaporate ≥ 0)) 4 11 (fun b=>⟨[NP 1,(15,NB b)],[(1,.box (x194_0 b2))]⟩) rfl ?_ ?_ ?_)
 ·exact TieO.l 5 rfl (lf rfl rfl)
 ·exact TieO.l 5 rfl (lf rfl rfl)
 refine TieO.o 1 rfl (.selAnd (v:=decide (b2.Evaporate ≤ 1024)) 4 16 (fun b=>⟨[(20,NB b)],[]⟩) rfl ?_ ?_ ?_)
 ·exact TieO.l 5 rfl (lf rfl rfl)
 ·exact TieO.l 5 rfl (lf rfl rfl)
 exact TieO.r 2 rfl (rt rfl)
theorem q315 (b2:SBody) (film:Int):TieF Tryz.prog 195 [A_SBody b2,NI film] (q131 b2 film) (fun r=>NI r):=by
 refine TieF.i htab 10 [.tmp 4] Tryz.call195 Tryz.func195 rfl rfl rfl rfl fun w0 L=>?_
 exact TieS.r 14 rfl (rt rfl)
theorem q146 (b2:SBody) (inject:Int):TieF Tryz.prog 196 [A_SBody b2,NI inject] (q85 b2 inject) (fun r=>NI r):=by
 refine TieF.i htab 10 [.tmp 4] Tryz.call196 Tryz.func196 rfl rfl rfl rfl fun w0 L=>?_
 exact TieS.r 14 rfl (rt rfl)
abbrev x103_0 (b2:SBody):List T:=[NI b2.Inertia,NI b2.Friction,NI b2.Volume,NI b2.Throttle,NI b2.Film,NI b2.Evaporate,NI b2.Delay]
theorem q419 (b2:SBody) (film:Int) (inject:Int):TieF Tryz.prog 103 [A_SBody b2,NI film,NI inject] (q121 b2 film inject) (fun r=>.tup [NI r.1,NI r.2.1,NI r.2.2]):=by
 refine TieF.i htab 45 [.tmp 6,.tmp 7,.tmp 8] Tryz.call103 Tryz.func103 rfl rfl rfl rfl fun w0 L=>?_
 refine TieS.o 11 rfl (.k (q422 b2) rfl fun v=>.s 2 rfl (.cond rfl ?_ ?_))
 ·exact TieS.r 6 rfl (rt rfl)
 ·refine TieS.o 7 rfl (.selOr (v:=decide (film > 1073741824)) 3 15 (fun b=>⟨[(1,NI film),(2,NI inject),NP 3,(18,NB b)],[(3,.box (x103_0 b2))]⟩) rfl ?_ ?_ ?_)
  ·exact TieO.l 4 rfl (lf rfl rfl)
  ·exact TieO.l 4 rfl (lf rfl rfl)
  refine TieO.o 1 rfl (.bind 4 (fun b3=>⟨[(1,NI film),(2,NI inject),NP 3,(23,NB b3)],[(3,.box (x103_0 b2))]⟩) (TieO.split 19 rfl ?_ ?_) fun b3 _=>?_)
  ·exact TieO.l 5 rfl (lf rfl rfl)
  ·exact TieO.o 1 rfl (.k (q163 inject) rfl fun v2=>.l 3 rfl (lf rfl rfl))
  refine TieO.s 1 rfl (.cond rfl ?_ ?_)
  ·exact TieS.r 6 rfl (rt rfl)
  ·refine TieS.s 2 rfl (TieX.pre fun v3 hv3=>TieX.pre fun v4 hv4=>TieS.dr 10 [(1,NI film),(2,NI inject),NP 3] [(3,.box (x103_0 b2))] mixed (.of rfl rfl) (.q rfl rfl rfl (.q rfl rfl rfl (.q rfl rfl rfl (.cons (.callV (q146 b2 inject) hv3 rfl rfl rfl rfl) (.q rfl rfl rfl (.q rfl rfl rfl (.q rfl rfl rfl (.cons (.callV (q315 b2 film) hv4 rfl rfl rfl rfl) (.q rfl rfl rfl (.q rfl rfl rfl (.nil))))))))))) rfl (.s 7 rfl (.cond rfl ?_ ?_)))
   ·exact TieS.r 6 rfl (rt rfl)
   ·exact TieS.s 2 rfl (TieX.pre fun v5 hv5=>TieX.pre fun v6 hv6=>TieS.dr 13 [(1,NI film),(2,NI inject),NP 3,(9,NI (w64 ((w64 (film + v3)) - v4)))] [(3,.box (x103_0 b2))] mixed (.of rfl rfl) (.q rfl rfl rfl (.q rfl rfl rfl (.q rfl rfl rfl (.cons (.callV (q146 b2 inject) hv5 rfl rfl rfl rfl) (.q rfl rfl rfl (.q rfl rfl rfl (.q rfl rfl rfl (.cons (.callV (q315 b2 film) hv6 rfl rfl rfl rfl) (.q rfl rfl rfl (.q rfl rfl rfl (.q rfl rfl rfl (.q rfl rfl rfl (.q rfl rfl rfl (.nil)))))))))))))) rfl (.r 1 rfl (rt rfl)))
abbrev x102_0 (b2:SBody):List T:=[NI b2.Inertia,NI b2.Friction,NI b2.Volume,NI b2.Throttle,NI b2.Film,NI b2.Evaporate,NI b2.Delay]
theorem q594 (b2:SBody) (film:Int) (want:Int):TieF Tryz.prog 102 [A_SBody b2,NI film,NI want] (q282 b2 film want) (fun r=>.tup [NI r.1,NI r.2.1,NI r.2.2]):=by
 refine TieF.i htab 74 [.tmp 6,.tmp 7,.tmp 8] Tryz.call102 Tryz.func102 rfl rfl rfl rfl fun w0 L=>?_
 refine TieS.o 11 rfl (.k (q422 b2) rfl fun v=>.s 2 rfl (.cond rfl ?_ ?_))
 ·exact TieS.r 6 rfl (rt rfl)
 ·refine TieS.o 7 rfl (.selOr (v:=decide (film > 1073741824)) 3 21 (fun b=>⟨[(1,NI film),(2,NI want),NP 3,(24,NB b)],[(3,.box (x102_0 b2))]⟩) rfl ?_ ?_ ?_)
  ·exact TieO.l 4 rfl (lf rfl rfl)
  ·exact TieO.l 4 rfl (lf rfl rfl)
  refine TieO.o 1 rfl (.bind 4 (fun b3=>⟨[(1,NI film),(2,NI want),NP 3,(29,NB b3)],[(3,.box (x102_0 b2))]⟩) (TieO.split 25 rfl ?_ ?_) fun b3 _=>?_)
  ·exact TieO.l 5 rfl (lf rfl rfl)
  ·exact TieO.o 1 rfl (.k (q163 want) rfl fun v2=>.l 3 rfl (lf rfl rfl))
  refine TieO.s 1 rfl (.cond rfl ?_ ?_)
  ·exact TieS.r 6 rfl (rt rfl)
  ·refine TieS.o 6 rfl (.k (q315 b2 film) rfl fun v3=>.o 16 rfl (.k (q146 b2 1048576) rfl fun v4=>.s 4 rfl (.cond rfl ?_ ?_)))
   ·exact TieS.r 6 rfl (rt rfl)
   ·refine TieS.s 3 rfl (.loop (fun t=>⟨[(1,NI film),NP 3,(9,NI (maxI 0 (w64 (want - v3)))),(10,NI t.1),(11,NI t.2)],[(3,.box (x102_0 b2))]⟩) (fun b e σ'=>match b with | .inl t=>e = .exit 0 ∧ Sub ⟨[(1,NI film),NP 3,(11,NI t.2)],[(3,.box (x102_0 b2))]⟩ σ' | .inr t=>False) (.of rfl rfl) ?_ ?_)
    ·intro s
     refine TieS.s 7 rfl (.cond rfl ?_ ?_)
     ·refine TieS.o 15 rfl (.k (q146 b2 (w64 (Int.tdiv (w64 (s.1 + s.2)) 2))) rfl fun v5=>.s 4 rfl (.cond rfl ?_ ?_))
      ·exact TieS.l 5 rfl (lf rfl rfl)
      ·exact TieS.l 6 rfl (lf rfl rfl)
     ·exact TieS.exitOut rfl ⟨(fun h=>by cases h),rfl,.of rfl rfl⟩
    rintro (s2 | r) e σ' _ hq
    ·obtain ⟨rfl,hs⟩:=hq
     refine TieX.exit rfl (TieX.sub hs ?_)
     refine TieS.o 5 rfl (.k (q419 b2 film s2.2) rfl fun r2=>.s 14 rfl (.cond rfl ?_ ?_))
     ·exact TieS.r 7 rfl (rt rfl)
     ·exact TieS.r 9 rfl (rt rfl)
    ·exact hq.elim
theorem q574 (t2:STables) (n2:Int) (mv:Int):TieF Tryz.prog 197 [q20 t2,NI n2,NI mv] (q347 t2 n2 mv) (fun r=>NI r):=by
 refine TieF.i htab 21 [.tmp 6] Tryz.call197 Tryz.func197 rfl rfl rfl rfl fun w0 L=>?_
 refine TieS.o 9 rfl (.k (q418 t2) rfl fun v=>.s 2 rfl (.cond rfl ?_ ?_))
 ·exact TieS.r 4 rfl (rt rfl)
 ·refine TieS.o 5 rfl (.k (q163 n2) rfl fun v2=>.o 2 rfl (.selOr (v:=decide (mv < 0)) 3 13 (fun b=>⟨[(2,NI mv),(16,NB b)],[]⟩) rfl ?_ ?_ ?_))
  ·exact TieO.l 4 rfl (lf rfl rfl)
  ·exact TieO.l 4 rfl (lf rfl rfl)
  refine TieO.o 1 rfl (.selOr (v:=decide (mv > 20000)) 3 17 (fun b=>⟨[(20,NB b)],[]⟩) rfl ?_ ?_ ?_)
  ·exact TieO.l 4 rfl (lf rfl rfl)
  ·exact TieO.l 4 rfl (lf rfl rfl)
  refine TieO.s 1 rfl (.cond rfl ?_ ?_)
  ·exact TieS.r 4 rfl (rt rfl)
  ·exact TieS.r 5 rfl (rt rfl)
theorem q591 (t2:STables) (n2:Int) (mv:Int):TieF Tryz.prog 104 [q20 t2,NI n2,NI mv] (q283 t2 n2 mv) (fun r=>.tup [NI r.1,NI r.2]):=by
 refine TieF.i htab 26 [.tmp 6,.tmp 7] Tryz.call104 Tryz.func104 rfl rfl rfl rfl fun w0 L=>?_
 refine TieS.o 12 rfl (.k (q574 t2 n2 mv) rfl fun v=>.s 7 rfl (.cond rfl ?_ ?_))
 ·exact TieS.r 6 rfl (rt rfl)
 ·refine TieS.s 7 rfl (.cond rfl ?_ ?_)
  ·exact TieS.r 5 rfl (rt rfl)
  ·exact TieS.o 6 rfl (.k (q210 t2.Dead mv) rfl fun v2=>.r 7 rfl (rt rfl))
theorem q595 (t2:STables) (speed:Int) (charge:Int):TieF Tryz.prog 199 [q20 t2,NI speed,NI charge] (q377 t2 speed charge) (fun r=>NI r):=by
 refine TieF.i htab 12 [.tmp 6] Tryz.call199 Tryz.func199 rfl rfl rfl rfl fun w0 L=>?_
 exact TieS.o 11 rfl (.k (q205 t2.Spark speed charge) rfl fun v=>.r 2 rfl (rt rfl))
theorem q552 (t2:STables) (speed:Int) (charge:Int) (coolant:Int) (retard:Int):TieF Tryz.prog 105 [q20 t2,NI speed,NI charge,NI coolant,NI retard] (q248 t2 speed charge coolant retard) (fun r=>NI r):=by
 refine TieF.i htab 37 [.tmp 10] Tryz.call105 Tryz.func105 rfl rfl rfl rfl fun w0 L=>?_
 refine TieS.o 10 rfl (.k (q595 t2 speed charge) rfl fun v=>.s 10 rfl (.bind (Q₁:=nrm fun t=>⟨[(3,NI coolant),(11,NI t)],[]⟩) ?_ ?_))
 ·refine TieS.cond rfl ?_ ?_
  ·exact TieS.l 8 rfl (lf rfl rfl)
  ·exact TieS.l 1 rfl (lf rfl rfl)
 rintro a e σ' _ ⟨rfl,hs⟩
 refine TieX.sub hs (TieS.s 6 rfl (.bind (Q₁:=nrm fun t=>⟨[(11,NI t)],[]⟩) ?_ ?_))
 ·refine TieS.cond rfl ?_ ?_
  ·exact TieS.l 8 rfl (lf rfl rfl)
  ·exact TieS.l 1 rfl (lf rfl rfl)
 rintro a2 e σ' _ ⟨rfl,hs⟩
 refine TieX.sub hs (TieS.s 6 rfl (.cond rfl ?_ ?_))
 ·exact TieS.r 4 rfl (rt rfl)
 ·refine TieS.s 7 rfl (.cond rfl ?_ ?_)
  ·exact TieS.r 4 rfl (rt rfl)
  ·exact TieS.r 6 rfl (rt rfl)
theorem q582 (t2:STables) (millivolts:Int) (ticks:Int):TieF Tryz.prog 106 [q20 t2,NI millivolts,NI ticks] (q236 t2 millivolts ticks) (fun r=>NI r):=by
 refine TieF.i htab 21 [.tmp 6] Tryz.call106 Tryz.func106 rfl rfl rfl rfl fun w0 L=>?_
 refine TieS.o 10 rfl (.k (q210 t2.Dwell millivolts) rfl fun v=>.s 11 rfl (.cond rfl ?_ ?_))
 ·exact TieS.r 7 rfl (rt rfl)
 ·exact TieS.r 6 rfl (rt rfl)
theorem q565 (cylinders:Int) (fired:Int) (cycle:Int) (i:Int):TieF Tryz.prog 107 [NI cylinders,NI fired,NI cycle,NI i] (q222 cylinders fired cycle i) (fun r=>NB r):=by
 refine TieF.i htab 27 [.tmp 8] Tryz.call107 Tryz.func107 rfl rfl rfl rfl fun w0 L=>?_
 exact TieS.o 10 rfl (.rem rfl rfl rfl rfl rfl rfl fun q=>.s 3 rfl (TieX.pre fun q2 hq2=>TieX.pre fun q3 hq3=>TieS.dr 13 [(0,NI cylinders),(1,NI fired),(9,NI q)] [] mixed (.of rfl rfl) (.q rfl rfl rfl (.q rfl rfl rfl (.q rfl rfl rfl (.q rfl rfl rfl (.q rfl rfl rfl (.cons (.quo hq2 rfl rfl rfl rfl) (.q rfl rfl rfl (.q rfl rfl rfl (.q rfl rfl rfl (.q rfl rfl rfl (.cons (.quo hq3 rfl rfl rfl rfl) (.q rfl rfl rfl (.q rfl rfl rfl (.nil)))))))))))))) rfl (.r 1 rfl (rt rfl))))
end Go.Proofs.YtalanclpiojanaaGreat

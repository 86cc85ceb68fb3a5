/- This file joins: Ties, printed by gen.py: each function of the loaded program computes its model. What the arguments are known to be. Printed by law.py. What the arguments of the rows hold. Printed by law.py. Part Xg: loops by invariants, lists. Plain Lean. Part Xk: slices.SortStableFunc, as it computes: that it sorts, and keeps the order of equals. Plain Lean. (The functions are those that gen2.py prints for an instance, with a type in the element's place.) Maps: surface.Valid and its reference answer alike. Plain Lean. Plain Lean: axes, and maps that are valid. Plain Lean: curves that are valid. Plain Lean: tables of the torque that are valid. Plain Lean: the tables of the control that are valid, and what the references say of them. Plain Lean: what arith's quotients are. -/
import Derived.Test.YtalanclpiojanaaGreatControlStepsH
import Derived.Test.YtalanclpiojanaaGreatProg
import Derived.KernelRfl
set_option linter.unusedSimpArgs false
set_option linter.unusedVariables false
namespace Go.Proofs.YtalanclpiojanaaGreat
open Go Go.Pv Go.Proofs
set_option maxRecDepth 100000
set_option maxHeartbeats 4000000
abbrev x23_0:List T:=[NI 0,NI 0,NB false,NI 0,.t (.v (.slice none 0 0)),NB false,NB false,NI 0,NI 0,.t (.v (.slice none 0 0)),NI 0,NI 0,NI 0]
abbrev x23_1 (b2:SBody):List T:=[NI b2.Inertia,NI b2.Friction,NI b2.Volume,NI b2.Throttle,NI b2.Film,NI b2.Evaporate,NI b2.Delay]
theorem q585 (t2:STables) (e2:SEngine) (b2:SBody) (c:SControls) (v_in:SInputs):TieF Tryz.prog 23 [q20 t2,q190 e2,A_SBody b2,q77 c,q308 v_in] (q67 t2 e2 b2 c v_in) (fun r=>.tup [q77 r.1,q497 r.2.1,NI r.2.2]):=by
 refine TieF.i htab 323 [.cell 10 45,.cell 11 65,.tmp 12] Tryz.call23 Tryz.func23 rfl rfl rfl rfl fun w0 L=>?_
 refine TieS.o 15 rfl (.k (q558 t2) rfl fun v=>.o 2 rfl (.bind 4 (fun b3=>⟨[NP 5,NP 6,NP 7,NP 8,NP 9,NP 10,NP 11,(50,NB b3)],[(5,.box (q12 t2)),(6,.box [NL e2.Order,NI e2.First]),(7,.box (x23_1 b2)),(8,.box (q11 c)),(9,.box (q14 v_in)),(10,.box x23_0),(11,.box [NI 0,.t (.v (.slice none 0 0)),NI 0])]⟩) (TieO.split 46 rfl ?_ ?_) fun b3 _=>?_))
 ·exact TieO.l 5 rfl (lf rfl rfl)
 ·exact TieO.o 1 rfl (.k (q560 b2) rfl fun v2=>.l 3 rfl (lf rfl rfl))
 refine TieO.o 1 rfl (.bind 5 (fun b4=>⟨[NP 5,NP 6,NP 7,NP 8,NP 9,NP 10,NP 11,(56,NB b4)],[(5,.box (q12 t2)),(6,.box [NL e2.Order,NI e2.First]),(7,.box (x23_1 b2)),(8,.box (q11 c)),(9,.box (q14 v_in)),(10,.box x23_0),(11,.box [NI 0,.t (.v (.slice none 0 0)),NI 0])]⟩) (TieO.split 51 rfl ?_ ?_) fun b4 _=>?_)
 ·exact TieO.l 6 rfl (lf rfl rfl)
 ·exact TieO.o 2 rfl (.k (q605 e2 c) rfl fun v3=>.l 3 rfl (lf rfl rfl))
 refine TieO.s 1 rfl (.cond rfl ?_ ?_)
 ·exact TieS.r 8 rfl (rt rfl)
 ·refine TieS.o 13 rfl (.k (q573 v_in (e2.Order.length:Int)) rfl fun v4=>.s 2 rfl (.cond rfl ?_ ?_))
  ·exact TieS.r 8 rfl (rt rfl)
  ·refine TieS.o 17 rfl (.k (q597 c.Pedal v_in.Pedal1 v_in.Pedal2) rfl fun v5=>.o 11 rfl (.k (q598 t2 v5.Value v_in.Speed) rfl fun r2=>.o 23 rfl (.k (q531 v5.Value v_in.Speed v_in.Coolant) rfl fun v6=>.s 1 rfl (.bind (Q₁:=fun t e σ'=>e = .normal ∧ Sub ⟨[NP 5,NP 7,NP 8,NP 9,NP 10,NP 11,(13,NI (e2.Order.length:Int)),NP 14,NP 15,(18,.own 88)],[(5,.box (q12 t2)),(7,.box (x23_1 b2)),(8,.box (q11 c)),(9,.box (q14 v_in)),(10,.box x23_0),(11,.box [NI 0,.t (.v (.slice none 0 0)),NI 0]),(14,.box (lset (q11 (⟨v5,(⟨t.1⟩:SIntegral),[],(⟨false,false,0,0,[]⟩:SProbe),0,(⟨0,0⟩:SGrant)⟩:SControls)) [(4,.t (.v (.slice none 0 0))),(9,.t (.v (.slice none 0 0)))])),(15,.box [NI 0,.t (.v (.slice none 0 0)),NI 0]),(88,.rs 73 4 t.2 q10)]⟩ σ') ?_ ?_))))
   ·refine TieS.cond rfl ?_ ?_
    ·refine TieS.s 1 rfl (.bind (Q₁:=fun t e σ'=>e = .normal ∧ Sub ⟨[NP 5,NP 7,NP 8,NP 9,NP 10,NP 11,(13,NI (e2.Order.length:Int)),NP 14,NP 15,(18,.own 88),NP 19,(20,NI t.1)],[(5,.box (q12 t2)),(7,.box (x23_1 b2)),(8,.box (q11 c)),(9,.box (q14 v_in)),(10,.box x23_0),(11,.box [NI 0,.t (.v (.slice none 0 0)),NI 0]),(14,.box (lset (q11 (⟨v5,(⟨0⟩:SIntegral),[],(⟨false,false,0,0,[]⟩:SProbe),0,(⟨0,0⟩:SGrant)⟩:SControls)) [(4,.t (.v (.slice none 0 0))),(9,.t (.v (.slice none 0 0)))])),(15,.box [NI 0,.t (.v (.slice none 0 0)),NI 0]),(19,.box [NI t.2]),(88,.rs 73 4 ([(⟨0,3,r2.1,0⟩:SRequest)]:List SRequest) q10)]⟩ σ') ?_ ?_)
     ·refine TieX.pre fun v7 hv7=>TieX.pre fun r3 hr3=>TieS.draws 17 (bm 18 0) (bm 18 131071) ⟨[NP 5,NP 7,NP 8,NP 9,NP 10,NP 11,(13,NI (e2.Order.length:Int)),NP 14,NP 15,(18,.own 88),NP 19,(20,NI r3.2.1),(110,NI r3.2.2)],[(5,.box (q12 t2)),(6,.box [NL e2.Order,NI e2.First]),(7,.box (x23_1 b2)),(8,.box (q11 c)),(9,.box (q14 v_in)),(10,.box x23_0),(11,.box [NI 0,.t (.v (.slice none 0 0)),NI 0]),(14,.box (lset (q11 (⟨v5,(⟨0⟩:SIntegral),[],(⟨false,false,0,0,[]⟩:SProbe),0,(⟨0,0⟩:SGrant)⟩:SControls)) [(4,.t (.v (.slice none 0 0))),(9,.t (.v (.slice none 0 0)))])),(15,.box [NI 0,.t (.v (.slice none 0 0)),NI 0]),(19,.box [NI r3.1.Sum]),(88,.rs 73 4 ([(⟨0,3,r2.1,0⟩:SRequest)]:List SRequest) q10)]⟩ mixed (fun _ _ _ h=>by cases h.1) rfl rfl rfl rfl ?_ ?_
      ·refine TieA.have_ (fuel₁:=9) (l₁:=(bm 18 511)) (σ₁:=⟨[NP 5,NP 7,NP 8,NP 9,NP 10,NP 11,(13,NI (e2.Order.length:Int)),NP 14,NP 15,(18,.own 88),(99,.agg [NI c.Idle.Sum]),(101,.agg [NI t2.Idle.P,NI t2.Idle.I,NI t2.Idle.Low,NI t2.Idle.High]),(104,NI v7),(106,NI v_in.Speed)],[(5,.box (q12 t2)),(6,.box [NL e2.Order,NI e2.First]),(7,.box (x23_1 b2)),(8,.box (q11 c)),(9,.box (q14 v_in)),(10,.box x23_0),(11,.box [NI 0,.t (.v (.slice none 0 0)),NI 0]),(14,.box (lset (q11 (⟨v5,(⟨0⟩:SIntegral),[],(⟨false,false,0,0,[]⟩:SProbe),0,(⟨0,0⟩:SGrant)⟩:SControls)) [(4,.t (.v (.slice none 0 0))),(9,.t (.v (.slice none 0 0)))])),(15,.box [NI 0,.t (.v (.slice none 0 0)),NI 0]),(88,.rs 73 4 ([(⟨0,3,r2.1,0⟩:SRequest)]:List SRequest) q10)]⟩) ?_ fun A_3=>?_
       ·refine TieA.all [9,14] (by kernel_rfl) rfl (AllA.cons (σ₁:=⟨[NP 5,NP 7,NP 8,NP 9,NP 10,NP 11,(13,NI (e2.Order.length:Int)),NP 14,NP 15,(18,.own 88),(107,.tup [.agg [NI r3.1.Sum],NI r3.2.1,NI r3.2.2])],[(5,.box (q12 t2)),(6,.box [NL e2.Order,NI e2.First]),(7,.box (x23_1 b2)),(8,.box (q11 c)),(9,.box (q14 v_in)),(10,.box x23_0),(11,.box [NI 0,.t (.v (.slice none 0 0)),NI 0]),(14,.box (lset (q11 (⟨v5,(⟨0⟩:SIntegral),[],(⟨false,false,0,0,[]⟩:SProbe),0,(⟨0,0⟩:SGrant)⟩:SControls)) [(4,.t (.v (.slice none 0 0))),(9,.t (.v (.slice none 0 0)))])),(15,.box [NI 0,.t (.v (.slice none 0 0)),NI 0]),(88,.rs 73 4 ([(⟨0,3,r2.1,0⟩:SRequest)]:List SRequest) q10)]⟩) _ rfl rfl ?_ ?_ ?_)
        ·refine TieO.withH hr3 (TieO.k (q30 c.Idle t2.Idle v7 v_in.Speed) rfl (TieO.ifH ?_))
         exact TieO.l 1 rfl (lf rfl rfl)
        ·exact TieA.ga 4 [10,11,12,13] (by kernel_rfl) rfl (.oneR 14 rfl (by kernel_rfl) rfl (.oneR 15 rfl (by kernel_rfl) rfl (.ga 1 [16] (by kernel_rfl) rfl (.done (.of rfl rfl)))))
        refine AllA.run _ rfl rfl rfl ?_ ?_
        ·exact TieA.one 9 rfl (by kernel_rfl) (TieO.withH hr3 (TieO.k (q30 c.Idle t2.Idle v7 v_in.Speed) rfl (TieO.ifH (TieO.l 1 rfl ⟨rfl,rfl⟩)))) (.ga 3 [10,11,12,13] (by kernel_rfl) rfl (.oneR 15 rfl (by kernel_rfl) rfl (.ga 1 [16] (by kernel_rfl) rfl (.done (.of rfl rfl)))))
        exact AllA.nil
       refine TieA.have_ (fuel₁:=9) (l₁:=(bm 18 16639)) (σ₁:=⟨[NP 5,NP 7,NP 8,NP 9,NP 10,NP 11,(13,NI (e2.Order.length:Int)),NP 14,NP 15,(18,.own 88),NP 19,(99,.agg [NI c.Idle.Sum]),(101,.agg [NI t2.Idle.P,NI t2.Idle.I,NI t2.Idle.Low,NI t2.Idle.High]),(104,NI v7),(105,.ptr 9 2)],[(5,.box (q12 t2)),(6,.box [NL e2.Order,NI e2.First]),(7,.box (x23_1 b2)),(8,.box (q11 c)),(9,.box (q14 v_in)),(10,.box x23_0),(11,.box [NI 0,.t (.v (.slice none 0 0)),NI 0]),(14,.box (lset (q11 (⟨v5,(⟨0⟩:SIntegral),[],(⟨false,false,0,0,[]⟩:SProbe),0,(⟨0,0⟩:SGrant)⟩:SControls)) [(4,.t (.v (.slice none 0 0))),(9,.t (.v (.slice none 0 0)))])),(15,.box [NI 0,.t (.v (.slice none 0 0)),NI 0]),(19,.box [NI 0]),(88,.rs 73 4 ([(⟨0,3,r2.1,0⟩:SRequest)]:List SRequest) q10)]⟩) ?_ fun A_4=>?_
       ·exact TieA.ga 8 [8] (by kernel_rfl) rfl (.one 9 rfl (by kernel_rfl) (TieO.withH hr3 (TieO.k (q30 c.Idle t2.Idle v7 v_in.Speed) rfl (TieO.ifH (TieO.l 1 rfl ⟨rfl,rfl⟩)))) (.ga 3 [10,11,12,13] (by kernel_rfl) rfl (.oneR 15 rfl (by kernel_rfl) rfl (.ga 1 [16] (by kernel_rfl) rfl (.done (.of rfl rfl))))))
       refine TieA.have_ (fuel₁:=10) (l₁:=(bm 18 255)) (σ₁:=⟨[NP 5,NP 7,NP 8,NP 9,NP 10,NP 11,(13,NI (e2.Order.length:Int)),NP 14,NP 15,(18,.own 88),(99,.agg [NI c.Idle.Sum]),(101,.agg [NI t2.Idle.P,NI t2.Idle.I,NI t2.Idle.Low,NI t2.Idle.High]),(104,NI v7),(105,.ptr 9 2)],[(5,.box (q12 t2)),(6,.box [NL e2.Order,NI e2.First]),(7,.box (x23_1 b2)),(8,.box (q11 c)),(9,.box (q14 v_in)),(10,.box x23_0),(11,.box [NI 0,.t (.v (.slice none 0 0)),NI 0]),(14,.box (lset (q11 (⟨v5,(⟨0⟩:SIntegral),[],(⟨false,false,0,0,[]⟩:SProbe),0,(⟨0,0⟩:SGrant)⟩:SControls)) [(4,.t (.v (.slice none 0 0))),(9,.t (.v (.slice none 0 0)))])),(15,.box [NI 0,.t (.v (.slice none 0 0)),NI 0]),(88,.rs 73 4 ([(⟨0,3,r2.1,0⟩:SRequest)]:List SRequest) q10)]⟩) ?_ fun A_2=>?_
       ·exact TieA.all [8,14] (by kernel_rfl) rfl (AllA.runTo _ rfl rfl rfl (.of rfl rfl) A_3 (AllA.runTo _ rfl rfl rfl (.of rfl rfl) A_4 (AllA.nil)))
       refine TieA.have_ (fuel₁:=9) (l₁:=(bm 18 16831)) (σ₁:=⟨[NP 5,NP 7,NP 8,NP 9,NP 10,NP 11,(13,NI (e2.Order.length:Int)),NP 14,NP 15,(18,.own 88),NP 19,(99,.agg [NI c.Idle.Sum]),(101,.agg [NI t2.Idle.P,NI t2.Idle.I,NI t2.Idle.Low,NI t2.Idle.High]),(103,NI v_in.Coolant),(106,NI v_in.Speed)],[(5,.box (q12 t2)),(6,.box [NL e2.Order,NI e2.First]),(7,.box (x23_1 b2)),(8,.box (q11 c)),(9,.box (q14 v_in)),(10,.box x23_0),(11,.box [NI 0,.t (.v (.slice none 0 0)),NI 0]),(14,.box (lset (q11 (⟨v5,(⟨0⟩:SIntegral),[],(⟨false,false,0,0,[]⟩:SProbe),0,(⟨0,0⟩:SGrant)⟩:SControls)) [(4,.t (.v (.slice none 0 0))),(9,.t (.v (.slice none 0 0)))])),(15,.box [NI 0,.t (.v (.slice none 0 0)),NI 0]),(19,.box [NI 0]),(88,.rs 73 4 ([(⟨0,3,r2.1,0⟩:SRequest)]:List SRequest) q10)]⟩) ?_ fun A_6=>?_
       ·exact TieA.one 6 rfl (by kernel_rfl) (TieO.withH hv7 (TieO.k (q17 v_in.Coolant) rfl (TieO.ifH (TieO.l 1 rfl ⟨rfl,rfl⟩)))) (.one 9 rfl (by kernel_rfl) (TieO.withH hr3 (TieO.k (q30 c.Idle t2.Idle v7 v_in.Speed) rfl (TieO.ifH (TieO.l 1 rfl ⟨rfl,rfl⟩)))) (.ga 3 [10,11,12,13] (by kernel_rfl) rfl (.oneR 15 rfl (by kernel_rfl) rfl (.ga 1 [16] (by kernel_rfl) rfl (.done (.of rfl rfl))))))
       refine TieA.have_ (fuel₁:=10) (l₁:=(bm 18 447)) (σ₁:=⟨[NP 5,NP 7,NP 8,NP 9,NP 10,NP 11,(13,NI (e2.Order.length:Int)),NP 14,NP 15,(18,.own 88),(99,.agg [NI c.Idle.Sum]),(101,.agg [NI t2.Idle.P,NI t2.Idle.I,NI t2.Idle.Low,NI t2.Idle.High]),(103,NI v_in.Coolant),(106,NI v_in.Speed)],[(5,.box (q12 t2)),(6,.box [NL e2.Order,NI e2.First]),(7,.box (x23_1 b2)),(8,.box (q11 c)),(9,.box (q14 v_in)),(10,.box x23_0),(11,.box [NI 0,.t (.v (.slice none 0 0)),NI 0]),(14,.box (lset (q11 (⟨v5,(⟨0⟩:SIntegral),[],(⟨false,false,0,0,[]⟩:SProbe),0,(⟨0,0⟩:SGrant)⟩:SControls)) [(4,.t (.v (.slice none 0 0))),(9,.t (.v (.slice none 0 0)))])),(15,.box [NI 0,.t (.v (.slice none 0 0)),NI 0]),(88,.rs 73 4 ([(⟨0,3,r2.1,0⟩:SRequest)]:List SRequest) q10)]⟩) ?_ fun A_5=>?_
       ·refine TieA.all [6,14] (by kernel_rfl) rfl (AllA.cons _ rfl rfl ?_ A_3 ?_)
        ·refine TieO.withH hv7 (TieO.k (q17 v_in.Coolant) rfl (TieO.ifH ?_))
         exact TieO.l 1 rfl (lf rfl rfl)
        exact AllA.runTo _ rfl rfl rfl (.of rfl rfl) A_6 (AllA.nil)
       refine TieA.have_ (fuel₁:=10) (l₁:=(bm 18 16575)) (σ₁:=⟨[NP 5,NP 7,NP 8,NP 9,NP 10,NP 11,(13,NI (e2.Order.length:Int)),NP 14,NP 15,(18,.own 88),NP 19,(99,.agg [NI c.Idle.Sum]),(101,.agg [NI t2.Idle.P,NI t2.Idle.I,NI t2.Idle.Low,NI t2.Idle.High]),(103,NI v_in.Coolant),(105,.ptr 9 2)],[(5,.box (q12 t2)),(6,.box [NL e2.Order,NI e2.First]),(7,.box (x23_1 b2)),(8,.box (q11 c)),(9,.box (q14 v_in)),(10,.box x23_0),(11,.box [NI 0,.t (.v (.slice none 0 0)),NI 0]),(14,.box (lset (q11 (⟨v5,(⟨0⟩:SIntegral),[],(⟨false,false,0,0,[]⟩:SProbe),0,(⟨0,0⟩:SGrant)⟩:SControls)) [(4,.t (.v (.slice none 0 0))),(9,.t (.v (.slice none 0 0)))])),(15,.box [NI 0,.t (.v (.slice none 0 0)),NI 0]),(19,.box [NI 0]),(88,.rs 73 4 ([(⟨0,3,r2.1,0⟩:SRequest)]:List SRequest) q10)]⟩) ?_ fun A_7=>?_
       ·refine TieA.all [6,8] (by kernel_rfl) rfl (AllA.cons _ rfl rfl ?_ A_4 ?_)
        ·refine TieO.withH hv7 (TieO.k (q17 v_in.Coolant) rfl (TieO.ifH ?_))
         exact TieO.l 1 rfl (lf rfl rfl)
        exact AllA.runTo _ rfl rfl rfl (.of rfl rfl) A_6 (AllA.nil)
       refine TieA.have_ (fuel₁:=11) (l₁:=(bm 18 191)) (σ₁:=⟨[NP 5,NP 7,NP 8,NP 9,NP 10,NP 11,(13,NI (e2.Order.length:Int)),NP 14,NP 15,(18,.own 88),(99,.agg [NI c.Idle.Sum]),(101,.agg [NI t2.Idle.P,NI t2.Idle.I,NI t2.Idle.Low,NI t2.Idle.High]),(103,NI v_in.Coolant),(105,.ptr 9 2)],[(5,.box (q12 t2)),(6,.box [NL e2.Order,NI e2.First]),(7,.box (x23_1 b2)),(8,.box (q11 c)),(9,.box (q14 v_in)),(10,.box x23_0),(11,.box [NI 0,.t (.v (.slice none 0 0)),NI 0]),(14,.box (lset (q11 (⟨v5,(⟨0⟩:SIntegral),[],(⟨false,false,0,0,[]⟩:SProbe),0,(⟨0,0⟩:SGrant)⟩:SControls)) [(4,.t (.v (.slice none 0 0))),(9,.t (.v (.slice none 0 0)))])),(15,.box [NI 0,.t (.v (.slice none 0 0)),NI 0]),(88,.rs 73 4 ([(⟨0,3,r2.1,0⟩:SRequest)]:List SRequest) q10)]⟩) ?_ fun A_1=>?_
       ·refine TieA.all [6,8,14] (by kernel_rfl) rfl (AllA.cons _ rfl rfl ?_ A_2 ?_)
        ·refine TieO.withH hv7 (TieO.k (q17 v_in.Coolant) rfl (TieO.ifH ?_))
         exact TieO.l 1 rfl (lf rfl rfl)
        exact AllA.runTo _ rfl rfl rfl (.of rfl rfl) A_5 (AllA.runTo _ rfl rfl rfl (.of rfl rfl) A_7 (AllA.nil))
       refine TieA.have_ (fuel₁:=11) (l₁:=(bm 18 415)) (σ₁:=⟨[NP 5,NP 7,NP 8,NP 9,NP 10,NP 11,(13,NI (e2.Order.length:Int)),NP 14,NP 15,(18,.own 88),(99,.agg [NI c.Idle.Sum]),(101,.agg [NI t2.Idle.P,NI t2.Idle.I,NI t2.Idle.Low,NI t2.Idle.High]),(102,.ptr 9 7),(106,NI v_in.Speed)],[(5,.box (q12 t2)),(6,.box [NL e2.Order,NI e2.First]),(7,.box (x23_1 b2)),(8,.box (q11 c)),(9,.box (q14 v_in)),(10,.box x23_0),(11,.box [NI 0,.t (.v (.slice none 0 0)),NI 0]),(14,.box (lset (q11 (⟨v5,(⟨0⟩:SIntegral),[],(⟨false,false,0,0,[]⟩:SProbe),0,(⟨0,0⟩:SGrant)⟩:SControls)) [(4,.t (.v (.slice none 0 0))),(9,.t (.v (.slice none 0 0)))])),(15,.box [NI 0,.t (.v (.slice none 0 0)),NI 0]),(88,.rs 73 4 ([(⟨0,3,r2.1,0⟩:SRequest)]:List SRequest) q10)]⟩) ?_ fun A_8=>?_
       ·refine TieA.all [5,14] (by kernel_rfl) rfl (AllA.runTo _ rfl rfl rfl (.of rfl rfl) A_5 (AllA.run _ rfl rfl rfl ?_ ?_))
        ·exact TieA.ga 9 [5] (by kernel_rfl) rfl (.one 6 rfl (by kernel_rfl) (TieO.withH hv7 (TieO.k (q17 v_in.Coolant) rfl (TieO.ifH (TieO.l 1 rfl ⟨rfl,rfl⟩)))) (.one 9 rfl (by kernel_rfl) (TieO.withH hr3 (TieO.k (q30 c.Idle t2.Idle v7 v_in.Speed) rfl (TieO.ifH (TieO.l 1 rfl ⟨rfl,rfl⟩)))) (.ga 3 [10,11,12,13] (by kernel_rfl) rfl (.oneR 15 rfl (by kernel_rfl) rfl (.ga 1 [16] (by kernel_rfl) rfl (.done (.of rfl rfl)))))))
        exact AllA.nil
       refine TieA.have_ (fuel₁:=12) (l₁:=(bm 18 159)) (σ₁:=⟨[NP 5,NP 7,NP 8,NP 9,NP 10,NP 11,(13,NI (e2.Order.length:Int)),NP 14,NP 15,(18,.own 88),(99,.agg [NI c.Idle.Sum]),(101,.agg [NI t2.Idle.P,NI t2.Idle.I,NI t2.Idle.Low,NI t2.Idle.High]),(102,.ptr 9 7),(105,.ptr 9 2)],[(5,.box (q12 t2)),(6,.box [NL e2.Order,NI e2.First]),(7,.box (x23_1 b2)),(8,.box (q11 c)),(9,.box (q14 v_in)),(10,.box x23_0),(11,.box [NI 0,.t (.v (.slice none 0 0)),NI 0]),(14,.box (lset (q11 (⟨v5,(⟨0⟩:SIntegral),[],(⟨false,false,0,0,[]⟩:SProbe),0,(⟨0,0⟩:SGrant)⟩:SControls)) [(4,.t (.v (.slice none 0 0))),(9,.t (.v (.slice none 0 0)))])),(15,.box [NI 0,.t (.v (.slice none 0 0)),NI 0]),(88,.rs 73 4 ([(⟨0,3,r2.1,0⟩:SRequest)]:List SRequest) q10)]⟩) ?_ fun A_0=>?_
       ·refine TieA.all [5,8,14] (by kernel_rfl) rfl (AllA.runTo _ rfl rfl rfl (.of rfl rfl) A_1 (AllA.runTo _ rfl rfl rfl (.of rfl rfl) A_8 (AllA.run _ rfl rfl rfl ?_ ?_)))
        ·refine TieA.ga 10 [5] (by kernel_rfl) rfl (.all [6,8] (by kernel_rfl) rfl (AllA.cons _ rfl rfl ?_ A_4 ?_))
         ·refine TieO.withH hv7 (TieO.k (q17 v_in.Coolant) rfl (TieO.ifH ?_))
          exact TieO.l 1 rfl (lf rfl rfl)
         exact AllA.runTo _ rfl rfl rfl (.of rfl rfl) A_6 (AllA.nil)
        exact AllA.nil
       refine TieA.have_ (fuel₁:=9) (l₁:=(bm 18 16887)) (σ₁:=⟨[NP 5,NP 7,NP 8,NP 9,NP 10,NP 11,(13,NI (e2.Order.length:Int)),NP 14,NP 15,(18,.own 88),NP 19,(99,.agg [NI c.Idle.Sum]),(100,.ptr 5 20),(104,NI v7),(106,NI v_in.Speed)],[(5,.box (q12 t2)),(6,.box [NL e2.Order,NI e2.First]),(7,.box (x23_1 b2)),(8,.box (q11 c)),(9,.box (q14 v_in)),(10,.box x23_0),(11,.box [NI 0,.t (.v (.slice none 0 0)),NI 0]),(14,.box (lset (q11 (⟨v5,(⟨0⟩:SIntegral),[],(⟨false,false,0,0,[]⟩:SProbe),0,(⟨0,0⟩:SGrant)⟩:SControls)) [(4,.t (.v (.slice none 0 0))),(9,.t (.v (.slice none 0 0)))])),(15,.box [NI 0,.t (.v (.slice none 0 0)),NI 0]),(19,.box [NI 0]),(88,.rs 73 4 ([(⟨0,3,r2.1,0⟩:SRequest)]:List SRequest) q10)]⟩) ?_ fun A_12=>?_
       ·exact TieA.ga 8 [3] (by kernel_rfl) rfl (.one 9 rfl (by kernel_rfl) (TieO.withH hr3 (TieO.k (q30 c.Idle t2.Idle v7 v_in.Speed) rfl (TieO.ifH (TieO.l 1 rfl ⟨rfl,rfl⟩)))) (.ga 3 [10,11,12,13] (by kernel_rfl) rfl (.oneR 15 rfl (by kernel_rfl) rfl (.ga 1 [16] (by kernel_rfl) rfl (.done (.of rfl rfl))))))
       refine TieA.have_ (fuel₁:=10) (l₁:=(bm 18 503)) (σ₁:=⟨[NP 5,NP 7,NP 8,NP 9,NP 10,NP 11,(13,NI (e2.Order.length:Int)),NP 14,NP 15,(18,.own 88),(99,.agg [NI c.Idle.Sum]),(100,.ptr 5 20),(104,NI v7),(106,NI v_in.Speed)],[(5,.box (q12 t2)),(6,.box [NL e2.Order,NI e2.First]),(7,.box (x23_1 b2)),(8,.box (q11 c)),(9,.box (q14 v_in)),(10,.box x23_0),(11,.box [NI 0,.t (.v (.slice none 0 0)),NI 0]),(14,.box (lset (q11 (⟨v5,(⟨0⟩:SIntegral),[],(⟨false,false,0,0,[]⟩:SProbe),0,(⟨0,0⟩:SGrant)⟩:SControls)) [(4,.t (.v (.slice none 0 0))),(9,.t (.v (.slice none 0 0)))])),(15,.box [NI 0,.t (.v (.slice none 0 0)),NI 0]),(88,.rs 73 4 ([(⟨0,3,r2.1,0⟩:SRequest)]:List SRequest) q10)]⟩) ?_ fun A_11=>?_
       ·exact TieA.all [3,14] (by kernel_rfl) rfl (AllA.runTo _ rfl rfl rfl (.of rfl rfl) A_3 (AllA.runTo _ rfl rfl rfl (.of rfl rfl) A_12 (AllA.nil)))
       refine TieA.have_ (fuel₁:=10) (l₁:=(bm 18 16631)) (σ₁:=⟨[NP 5,NP 7,NP 8,NP 9,NP 10,NP 11,(13,NI (e2.Order.length:Int)),NP 14,NP 15,(18,.own 88),NP 19,(99,.agg [NI c.Idle.Sum]),(100,.ptr 5 20),(104,NI v7),(105,.ptr 9 2)],[(5,.box (q12 t2)),(6,.box [NL e2.Order,NI e2.First]),(7,.box (x23_1 b2)),(8,.box (q11 c)),(9,.box (q14 v_in)),(10,.box x23_0),(11,.box [NI 0,.t (.v (.slice none 0 0)),NI 0]),(14,.box (lset (q11 (⟨v5,(⟨0⟩:SIntegral),[],(⟨false,false,0,0,[]⟩:SProbe),0,(⟨0,0⟩:SGrant)⟩:SControls)) [(4,.t (.v (.slice none 0 0))),(9,.t (.v (.slice none 0 0)))])),(15,.box [NI 0,.t (.v (.slice none 0 0)),NI 0]),(19,.box [NI 0]),(88,.rs 73 4 ([(⟨0,3,r2.1,0⟩:SRequest)]:List SRequest) q10)]⟩) ?_ fun A_13=>?_
       ·exact TieA.ga 8 [3,8] (by kernel_rfl) rfl (.one 9 rfl (by kernel_rfl) (TieO.withH hr3 (TieO.k (q30 c.Idle t2.Idle v7 v_in.Speed) rfl (TieO.ifH (TieO.l 1 rfl ⟨rfl,rfl⟩)))) (.ga 3 [10,11,12,13] (by kernel_rfl) rfl (.oneR 15 rfl (by kernel_rfl) rfl (.ga 1 [16] (by kernel_rfl) rfl (.done (.of rfl rfl))))))
       refine TieA.have_ (fuel₁:=11) (l₁:=(bm 18 247)) (σ₁:=⟨[NP 5,NP 7,NP 8,NP 9,NP 10,NP 11,(13,NI (e2.Order.length:Int)),NP 14,NP 15,(18,.own 88),(99,.agg [NI c.Idle.Sum]),(100,.ptr 5 20),(104,NI v7),(105,.ptr 9 2)],[(5,.box (q12 t2)),(6,.box [NL e2.Order,NI e2.First]),(7,.box (x23_1 b2)),(8,.box (q11 c)),(9,.box (q14 v_in)),(10,.box x23_0),(11,.box [NI 0,.t (.v (.slice none 0 0)),NI 0]),(14,.box (lset (q11 (⟨v5,(⟨0⟩:SIntegral),[],(⟨false,false,0,0,[]⟩:SProbe),0,(⟨0,0⟩:SGrant)⟩:SControls)) [(4,.t (.v (.slice none 0 0))),(9,.t (.v (.slice none 0 0)))])),(15,.box [NI 0,.t (.v (.slice none 0 0)),NI 0]),(88,.rs 73 4 ([(⟨0,3,r2.1,0⟩:SRequest)]:List SRequest) q10)]⟩) ?_ fun A_10=>?_
       ·exact TieA.all [3,8,14] (by kernel_rfl) rfl (AllA.runTo _ rfl rfl rfl (.of rfl rfl) A_2 (AllA.runTo _ rfl rfl rfl (.of rfl rfl) A_11 (AllA.runTo _ rfl rfl rfl (.of rfl rfl) A_13 (AllA.nil))))
       refine TieA.have_ (fuel₁:=10) (l₁:=(bm 18 16823)) (σ₁:=⟨[NP 5,NP 7,NP 8,NP 9,NP 10,NP 11,(13,NI (e2.Order.length:Int)),NP 14,NP 15,(18,.own 88),NP 19,(99,.agg [NI c.Idle.Sum]),(100,.ptr 5 20),(103,NI v_in.Coolant),(106,NI v_in.Speed)],[(5,.box (q12 t2)),(6,.box [NL e2.Order,NI e2.First]),(7,.box (x23_1 b2)),(8,.box (q11 c)),(9,.box (q14 v_in)),(10,.box x23_0),(11,.box [NI 0,.t (.v (.slice none 0 0)),NI 0]),(14,.box (lset (q11 (⟨v5,(⟨0⟩:SIntegral),[],(⟨false,false,0,0,[]⟩:SProbe),0,(⟨0,0⟩:SGrant)⟩:SControls)) [(4,.t (.v (.slice none 0 0))),(9,.t (.v (.slice none 0 0)))])),(15,.box [NI 0,.t (.v (.slice none 0 0)),NI 0]),(19,.box [NI 0]),(88,.rs 73 4 ([(⟨0,3,r2.1,0⟩:SRequest)]:List SRequest) q10)]⟩) ?_ fun A_15=>?_
       ·refine TieA.all [3,6] (by kernel_rfl) rfl (AllA.runTo _ rfl rfl rfl (.of rfl rfl) A_6 (AllA.cons _ rfl rfl ?_ A_12 ?_))
        ·refine TieO.withH hv7 (TieO.k (q17 v_in.Coolant) rfl (TieO.ifH ?_))
         exact TieO.l 1 rfl (lf rfl rfl)
        exact AllA.nil
       refine TieA.have_ (fuel₁:=11) (l₁:=(bm 18 439)) (σ₁:=⟨[NP 5,NP 7,NP 8,NP 9,NP 10,NP 11,(13,NI (e2.Order.length:Int)),NP 14,NP 15,(18,.own 88),(99,.agg [NI c.Idle.Sum]),(100,.ptr 5 20),(103,NI v_in.Coolant),(106,NI v_in.Speed)],[(5,.box (q12 t2)),(6,.box [NL e2.Order,NI e2.First]),(7,.box (x23_1 b2)),(8,.box (q11 c)),(9,.box (q14 v_in)),(10,.box x23_0),(11,.box [NI 0,.t (.v (.slice none 0 0)),NI 0]),(14,.box (lset (q11 (⟨v5,(⟨0⟩:SIntegral),[],(⟨false,false,0,0,[]⟩:SProbe),0,(⟨0,0⟩:SGrant)⟩:SControls)) [(4,.t (.v (.slice none 0 0))),(9,.t (.v (.slice none 0 0)))])),(15,.box [NI 0,.t (.v (.slice none 0 0)),NI 0]),(88,.rs 73 4 ([(⟨0,3,r2.1,0⟩:SRequest)]:List SRequest) q10)]⟩) ?_ fun A_14=>?_
       ·refine TieA.all [3,6,14] (by kernel_rfl) rfl (AllA.runTo _ rfl rfl rfl (.of rfl rfl) A_5 (AllA.cons _ rfl rfl ?_ A_11 ?_))
        ·refine TieO.withH hv7 (TieO.k (q17 v_in.Coolant) rfl (TieO.ifH ?_))
         exact TieO.l 1 rfl (lf rfl rfl)
        exact AllA.runTo _ rfl rfl rfl (.of rfl rfl) A_15 (AllA.nil)
       refine TieA.have_ (fuel₁:=11) (l₁:=(bm 18 16567)) (σ₁:=⟨[NP 5,NP 7,NP 8,NP 9,NP 10,NP 11,(13,NI (e2.Order.length:Int)),NP 14,NP 15,(18,.own 88),NP 19,(99,.agg [NI c.Idle.Sum]),(100,.ptr 5 20),(103,NI v_in.Coolant),(105,.ptr 9 2)],[(5,.box (q12 t2)),(6,.box [NL e2.Order,NI e2.First]),(7,.box (x23_1 b2)),(8,.box (q11 c)),(9,.box (q14 v_in)),(10,.box x23_0),(11,.box [NI 0,.t (.v (.slice none 0 0)),NI 0]),(14,.box (lset (q11 (⟨v5,(⟨0⟩:SIntegral),[],(⟨false,false,0,0,[]⟩:SProbe),0,(⟨0,0⟩:SGrant)⟩:SControls)) [(4,.t (.v (.slice none 0 0))),(9,.t (.v (.slice none 0 0)))])),(15,.box [NI 0,.t (.v (.slice none 0 0)),NI 0]),(19,.box [NI 0]),(88,.rs 73 4 ([(⟨0,3,r2.1,0⟩:SRequest)]:List SRequest) q10)]⟩) ?_ fun A_16=>?_
       ·refine TieA.all [3,6,8] (by kernel_rfl) rfl (AllA.runTo _ rfl rfl rfl (.of rfl rfl) A_7 (AllA.cons _ rfl rfl ?_ A_13 ?_))
        ·refine TieO.withH hv7 (TieO.k (q17 v_in.Coolant) rfl (TieO.ifH ?_))
         exact TieO.l 1 rfl (lf rfl rfl)
        exact AllA.runTo _ rfl rfl rfl (.of rfl rfl) A_15 (AllA.nil)
       refine TieA.have_ (fuel₁:=12) (l₁:=(bm 18 183)) (σ₁:=⟨[NP 5,NP 7,NP 8,NP 9,NP 10,NP 11,(13,NI (e2.Order.length:Int)),NP 14,NP 15,(18,.own 88),(99,.agg [NI c.Idle.Sum]),(100,.ptr 5 20),(103,NI v_in.Coolant),(105,.ptr 9 2)],[(5,.box (q12 t2)),(6,.box [NL e2.Order,NI e2.First]),(7,.box (x23_1 b2)),(8,.box (q11 c)),(9,.box (q14 v_in)),(10,.box x23_0),(11,.box [NI 0,.t (.v (.slice none 0 0)),NI 0]),(14,.box (lset (q11 (⟨v5,(⟨0⟩:SIntegral),[],(⟨false,false,0,0,[]⟩:SProbe),0,(⟨0,0⟩:SGrant)⟩:SControls)) [(4,.t (.v (.slice none 0 0))),(9,.t (.v (.slice none 0 0)))])),(15,.box [NI 0,.t (.v (.slice none 0 0)),NI 0]),(88,.rs 73 4 ([(⟨0,3,r2.1,0⟩:SRequest)]:List SRequest) q10)]⟩) ?_ fun A_9=>?_
       ·refine TieA.all [3,6,8,14] (by kernel_rfl) rfl (AllA.runTo _ rfl rfl rfl (.of rfl rfl) A_1 (AllA.cons _ rfl rfl ?_ A_10 ?_))
        ·refine TieO.withH hv7 (TieO.k (q17 v_in.Coolant) rfl (TieO.ifH ?_))
         exact TieO.l 1 rfl (lf rfl rfl)
        exact AllA.runTo _ rfl rfl rfl (.of rfl rfl) A_14 (AllA.runTo _ rfl rfl rfl (.of rfl rfl) A_16 (AllA.nil))
       refine TieA.have_ (fuel₁:=12) (l₁:=(bm 18 407)) (σ₁:=⟨[NP 5,NP 7,NP 8,NP 9,NP 10,NP 11,(13,NI (e2.Order.length:Int)),NP 14,NP 15,(18,.own 88),(99,.agg [NI c.Idle.Sum]),(100,.ptr 5 20),(102,.ptr 9 7),(106,NI v_in.Speed)],[(5,.box (q12 t2)),(6,.box [NL e2.Order,NI e2.First]),(7,.box (x23_1 b2)),(8,.box (q11 c)),(9,.box (q14 v_in)),(10,.box x23_0),(11,.box [NI 0,.t (.v (.slice none 0 0)),NI 0]),(14,.box (lset (q11 (⟨v5,(⟨0⟩:SIntegral),[],(⟨false,false,0,0,[]⟩:SProbe),0,(⟨0,0⟩:SGrant)⟩:SControls)) [(4,.t (.v (.slice none 0 0))),(9,.t (.v (.slice none 0 0)))])),(15,.box [NI 0,.t (.v (.slice none 0 0)),NI 0]),(88,.rs 73 4 ([(⟨0,3,r2.1,0⟩:SRequest)]:List SRequest) q10)]⟩) ?_ fun A_17=>?_
       ·refine TieA.all [3,5,14] (by kernel_rfl) rfl (AllA.runTo _ rfl rfl rfl (.of rfl rfl) A_8 (AllA.runTo _ rfl rfl rfl (.of rfl rfl) A_14 (AllA.run _ rfl rfl rfl ?_ ?_)))
        ·refine TieA.ga 10 [5] (by kernel_rfl) rfl (.all [3,6] (by kernel_rfl) rfl (AllA.runTo _ rfl rfl rfl (.of rfl rfl) A_6 (AllA.cons _ rfl rfl ?_ A_12 ?_)))
         ·refine TieO.withH hv7 (TieO.k (q17 v_in.Coolant) rfl (TieO.ifH ?_))
          exact TieO.l 1 rfl (lf rfl rfl)
         exact AllA.nil
        exact AllA.nil
       refine TieA.have_ (fuel₁:=9) (l₁:=(bm 18 16893)) (σ₁:=⟨[NP 5,NP 7,NP 8,NP 9,NP 10,NP 11,(13,NI (e2.Order.length:Int)),NP 14,NP 15,(18,.own 88),NP 19,(98,.ptr 8 3),(101,.agg [NI t2.Idle.P,NI t2.Idle.I,NI t2.Idle.Low,NI t2.Idle.High]),(104,NI v7),(106,NI v_in.Speed)],[(5,.box (q12 t2)),(6,.box [NL e2.Order,NI e2.First]),(7,.box (x23_1 b2)),(8,.box (q11 c)),(9,.box (q14 v_in)),(10,.box x23_0),(11,.box [NI 0,.t (.v (.slice none 0 0)),NI 0]),(14,.box (lset (q11 (⟨v5,(⟨0⟩:SIntegral),[],(⟨false,false,0,0,[]⟩:SProbe),0,(⟨0,0⟩:SGrant)⟩:SControls)) [(4,.t (.v (.slice none 0 0))),(9,.t (.v (.slice none 0 0)))])),(15,.box [NI 0,.t (.v (.slice none 0 0)),NI 0]),(19,.box [NI 0]),(88,.rs 73 4 ([(⟨0,3,r2.1,0⟩:SRequest)]:List SRequest) q10)]⟩) ?_ fun A_21=>?_
       ·exact TieA.ga 8 [1] (by kernel_rfl) rfl (.one 9 rfl (by kernel_rfl) (TieO.withH hr3 (TieO.k (q30 c.Idle t2.Idle v7 v_in.Speed) rfl (TieO.ifH (TieO.l 1 rfl ⟨rfl,rfl⟩)))) (.ga 3 [10,11,12,13] (by kernel_rfl) rfl (.oneR 15 rfl (by kernel_rfl) rfl (.ga 1 [16] (by kernel_rfl) rfl (.done (.of rfl rfl))))))
       refine TieA.have_ (fuel₁:=10) (l₁:=(bm 18 509)) (σ₁:=⟨[NP 5,NP 7,NP 8,NP 9,NP 10,NP 11,(13,NI (e2.Order.length:Int)),NP 14,NP 15,(18,.own 88),(98,.ptr 8 3),(101,.agg [NI t2.Idle.P,NI t2.Idle.I,NI t2.Idle.Low,NI t2.Idle.High]),(104,NI v7),(106,NI v_in.Speed)],[(5,.box (q12 t2)),(6,.box [NL e2.Order,NI e2.First]),(7,.box (x23_1 b2)),(8,.box (q11 c)),(9,.box (q14 v_in)),(10,.box x23_0),(11,.box [NI 0,.t (.v (.slice none 0 0)),NI 0]),(14,.box (lset (q11 (⟨v5,(⟨0⟩:SIntegral),[],(⟨false,false,0,0,[]⟩:SProbe),0,(⟨0,0⟩:SGrant)⟩:SControls)) [(4,.t (.v (.slice none 0 0))),(9,.t (.v (.slice none 0 0)))])),(15,.box [NI 0,.t (.v (.slice none 0 0)),NI 0]),(88,.rs 73 4 ([(⟨0,3,r2.1,0⟩:SRequest)]:List SRequest) q10)]⟩) ?_ fun A_20=>?_
       ·exact TieA.all [1,14] (by kernel_rfl) rfl (AllA.runTo _ rfl rfl rfl (.of rfl rfl) A_3 (AllA.runTo _ rfl rfl rfl (.of rfl rfl) A_21 (AllA.nil)))
       refine TieA.have_ (fuel₁:=10) (l₁:=(bm 18 16637)) (σ₁:=⟨[NP 5,NP 7,NP 8,NP 9,NP 10,NP 11,(13,NI (e2.Order.length:Int)),NP 14,NP 15,(18,.own 88),NP 19,(98,.ptr 8 3),(101,.agg [NI t2.Idle.P,NI t2.Idle.I,NI t2.Idle.Low,NI t2.Idle.High]),(104,NI v7),(105,.ptr 9 2)],[(5,.box (q12 t2)),(6,.box [NL e2.Order,NI e2.First]),(7,.box (x23_1 b2)),(8,.box (q11 c)),(9,.box (q14 v_in)),(10,.box x23_0),(11,.box [NI 0,.t (.v (.slice none 0 0)),NI 0]),(14,.box (lset (q11 (⟨v5,(⟨0⟩:SIntegral),[],(⟨false,false,0,0,[]⟩:SProbe),0,(⟨0,0⟩:SGrant)⟩:SControls)) [(4,.t (.v (.slice none 0 0))),(9,.t (.v (.slice none 0 0)))])),(15,.box [NI 0,.t (.v (.slice none 0 0)),NI 0]),(19,.box [NI 0]),(88,.rs 73 4 ([(⟨0,3,r2.1,0⟩:SRequest)]:List SRequest) q10)]⟩) ?_ fun A_22=>?_
       ·exact TieA.ga 8 [1,8] (by kernel_rfl) rfl (.one 9 rfl (by kernel_rfl) (TieO.withH hr3 (TieO.k (q30 c.Idle t2.Idle v7 v_in.Speed) rfl (TieO.ifH (TieO.l 1 rfl ⟨rfl,rfl⟩)))) (.ga 3 [10,11,12,13] (by kernel_rfl) rfl (.oneR 15 rfl (by kernel_rfl) rfl (.ga 1 [16] (by kernel_rfl) rfl (.done (.of rfl rfl))))))
       refine TieA.have_ (fuel₁:=11) (l₁:=(bm 18 253)) (σ₁:=⟨[NP 5,NP 7,NP 8,NP 9,NP 10,NP 11,(13,NI (e2.Order.length:Int)),NP 14,NP 15,(18,.own 88),(98,.ptr 8 3),(101,.agg [NI t2.Idle.P,NI t2.Idle.I,NI t2.Idle.Low,NI t2.Idle.High]),(104,NI v7),(105,.ptr 9 2)],[(5,.box (q12 t2)),(6,.box [NL e2.Order,NI e2.First]),(7,.box (x23_1 b2)),(8,.box (q11 c)),(9,.box (q14 v_in)),(10,.box x23_0),(11,.box [NI 0,.t (.v (.slice none 0 0)),NI 0]),(14,.box (lset (q11 (⟨v5,(⟨0⟩:SIntegral),[],(⟨false,false,0,0,[]⟩:SProbe),0,(⟨0,0⟩:SGrant)⟩:SControls)) [(4,.t (.v (.slice none 0 0))),(9,.t (.v (.slice none 0 0)))])),(15,.box [NI 0,.t (.v (.slice none 0 0)),NI 0]),(88,.rs 73 4 ([(⟨0,3,r2.1,0⟩:SRequest)]:List SRequest) q10)]⟩) ?_ fun A_19=>?_
       ·exact TieA.all [1,8,14] (by kernel_rfl) rfl (AllA.runTo _ rfl rfl rfl (.of rfl rfl) A_2 (AllA.runTo _ rfl rfl rfl (.of rfl rfl) A_20 (AllA.runTo _ rfl rfl rfl (.of rfl rfl) A_22 (AllA.nil))))
       refine TieA.have_ (fuel₁:=10) (l₁:=(bm 18 16829)) (σ₁:=⟨[NP 5,NP 7,NP 8,NP 9,NP 10,NP 11,(13,NI (e2.Order.length:Int)),NP 14,NP 15,(18,.own 88),NP 19,(98,.ptr 8 3),(101,.agg [NI t2.Idle.P,NI t2.Idle.I,NI t2.Idle.Low,NI t2.Idle.High]),(103,NI v_in.Coolant),(106,NI v_in.Speed)],[(5,.box (q12 t2)),(6,.box [NL e2.Order,NI e2.First]),(7,.box (x23_1 b2)),(8,.box (q11 c)),(9,.box (q14 v_in)),(10,.box x23_0),(11,.box [NI 0,.t (.v (.slice none 0 0)),NI 0]),(14,.box (lset (q11 (⟨v5,(⟨0⟩:SIntegral),[],(⟨false,false,0,0,[]⟩:SProbe),0,(⟨0,0⟩:SGrant)⟩:SControls)) [(4,.t (.v (.slice none 0 0))),(9,.t (.v (.slice none 0 0)))])),(15,.box [NI 0,.t (.v (.slice none 0 0)),NI 0]),(19,.box [NI 0]),(88,.rs 73 4 ([(⟨0,3,r2.1,0⟩:SRequest)]:List SRequest) q10)]⟩) ?_ fun A_24=>?_
       ·refine TieA.all [1,6] (by kernel_rfl) rfl (AllA.runTo _ rfl rfl rfl (.of rfl rfl) A_6 (AllA.cons _ rfl rfl ?_ A_21 ?_))
        ·refine TieO.withH hv7 (TieO.k (q17 v_in.Coolant) rfl (TieO.ifH ?_))
         exact TieO.l 1 rfl (lf rfl rfl)
        exact AllA.nil
       refine TieA.have_ (fuel₁:=11) (l₁:=(bm 18 445)) (σ₁:=⟨[NP 5,NP 7,NP 8,NP 9,NP 10,NP 11,(13,NI (e2.Order.length:Int)),NP 14,NP 15,(18,.own 88),(98,.ptr 8 3),(101,.agg [NI t2.Idle.P,NI t2.Idle.I,NI t2.Idle.Low,NI t2.Idle.High]),(103,NI v_in.Coolant),(106,NI v_in.Speed)],[(5,.box (q12 t2)),(6,.box [NL e2.Order,NI e2.First]),(7,.box (x23_1 b2)),(8,.box (q11 c)),(9,.box (q14 v_in)),(10,.box x23_0),(11,.box [NI 0,.t (.v (.slice none 0 0)),NI 0]),(14,.box (lset (q11 (⟨v5,(⟨0⟩:SIntegral),[],(⟨false,false,0,0,[]⟩:SProbe),0,(⟨0,0⟩:SGrant)⟩:SControls)) [(4,.t (.v (.slice none 0 0))),(9,.t (.v (.slice none 0 0)))])),(15,.box [NI 0,.t (.v (.slice none 0 0)),NI 0]),(88,.rs 73 4 ([(⟨0,3,r2.1,0⟩:SRequest)]:List SRequest) q10)]⟩) ?_ fun A_23=>?_
       ·refine TieA.all [1,6,14] (by kernel_rfl) rfl (AllA.runTo _ rfl rfl rfl (.of rfl rfl) A_5 (AllA.cons _ rfl rfl ?_ A_20 ?_))
        ·refine TieO.withH hv7 (TieO.k (q17 v_in.Coolant) rfl (TieO.ifH ?_))
         exact TieO.l 1 rfl (lf rfl rfl)
        exact AllA.runTo _ rfl rfl rfl (.of rfl rfl) A_24 (AllA.nil)
       refine TieA.have_ (fuel₁:=11) (l₁:=(bm 18 16573)) (σ₁:=⟨[NP 5,NP 7,NP 8,NP 9,NP 10,NP 11,(13,NI (e2.Order.length:Int)),NP 14,NP 15,(18,.own 88),NP 19,(98,.ptr 8 3),(101,.agg [NI t2.Idle.P,NI t2.Idle.I,NI t2.Idle.Low,NI t2.Idle.High]),(103,NI v_in.Coolant),(105,.ptr 9 2)],[(5,.box (q12 t2)),(6,.box [NL e2.Order,NI e2.First]),(7,.box (x23_1 b2)),(8,.box (q11 c)),(9,.box (q14 v_in)),(10,.box x23_0),(11,.box [NI 0,.t (.v (.slice none 0 0)),NI 0]),(14,.box (lset (q11 (⟨v5,(⟨0⟩:SIntegral),[],(⟨false,false,0,0,[]⟩:SProbe),0,(⟨0,0⟩:SGrant)⟩:SControls)) [(4,.t (.v (.slice none 0 0))),(9,.t (.v (.slice none 0 0)))])),(15,.box [NI 0,.t (.v (.slice none 0 0)),NI 0]),(19,.box [NI 0]),(88,.rs 73 4 ([(⟨0,3,r2.1,0⟩:SRequest)]:List SRequest) q10)]⟩) ?_ fun A_25=>?_
       ·refine TieA.all [1,6,8] (by kernel_rfl) rfl (AllA.runTo _ rfl rfl rfl (.of rfl rfl) A_7 (AllA.cons _ rfl rfl ?_ A_22 ?_))
        ·refine TieO.withH hv7 (TieO.k (q17 v_in.Coolant) rfl (TieO.ifH ?_))
         exact TieO.l 1 rfl (lf rfl rfl)
        exact AllA.runTo _ rfl rfl rfl (.of rfl rfl) A_24 (AllA.nil)
       refine TieA.have_ (fuel₁:=12) (l₁:=(bm 18 189)) (σ₁:=⟨[NP 5,NP 7,NP 8,NP 9,NP 10,NP 11,(13,NI (e2.Order.length:Int)),NP 14,NP 15,(18,.own 88),(98,.ptr 8 3),(101,.agg [NI t2.Idle.P,NI t2.Idle.I,NI t2.Idle.Low,NI t2.Idle.High]),(103,NI v_in.Coolant),(105,.ptr 9 2)],[(5,.box (q12 t2)),(6,.box [NL e2.Order,NI e2.First]),(7,.box (x23_1 b2)),(8,.box (q11 c)),(9,.box (q14 v_in)),(10,.box x23_0),(11,.box [NI 0,.t (.v (.slice none 0 0)),NI 0]),(14,.box (lset (q11 (⟨v5,(⟨0⟩:SIntegral),[],(⟨false,false,0,0,[]⟩:SProbe),0,(⟨0,0⟩:SGrant)⟩:SControls)) [(4,.t (.v (.slice none 0 0))),(9,.t (.v (.slice none 0 0)))])),(15,.box [NI 0,.t (.v (.slice none 0 0)),NI 0]),(88,.rs 73 4 ([(⟨0,3,r2.1,0⟩:SRequest)]:List SRequest) q10)]⟩) ?_ fun A_18=>?_
       ·refine TieA.all [1,6,8,14] (by kernel_rfl) rfl (AllA.runTo _ rfl rfl rfl (.of rfl rfl) A_1 (AllA.cons _ rfl rfl ?_ A_19 ?_))
        ·refine TieO.withH hv7 (TieO.k (q17 v_in.Coolant) rfl (TieO.ifH ?_))
         exact TieO.l 1 rfl (lf rfl rfl)
        exact AllA.runTo _ rfl rfl rfl (.of rfl rfl) A_23 (AllA.runTo _ rfl rfl rfl (.of rfl rfl) A_25 (AllA.nil))
       refine TieA.have_ (fuel₁:=12) (l₁:=(bm 18 413)) (σ₁:=⟨[NP 5,NP 7,NP 8,NP 9,NP 10,NP 11,(13,NI (e2.Order.length:Int)),NP 14,NP 15,(18,.own 88),(98,.ptr 8 3),(101,.agg [NI t2.Idle.P,NI t2.Idle.I,NI t2.Idle.Low,NI t2.Idle.High]),(102,.ptr 9 7),(106,NI v_in.Speed)],[(5,.box (q12 t2)),(6,.box [NL e2.Order,NI e2.First]),(7,.box (x23_1 b2)),(8,.box (q11 c)),(9,.box (q14 v_in)),(10,.box x23_0),(11,.box [NI 0,.t (.v (.slice none 0 0)),NI 0]),(14,.box (lset (q11 (⟨v5,(⟨0⟩:SIntegral),[],(⟨false,false,0,0,[]⟩:SProbe),0,(⟨0,0⟩:SGrant)⟩:SControls)) [(4,.t (.v (.slice none 0 0))),(9,.t (.v (.slice none 0 0)))])),(15,.box [NI 0,.t (.v (.slice none 0 0)),NI 0]),(88,.rs 73 4 ([(⟨0,3,r2.1,0⟩:SRequest)]:List SRequest) q10)]⟩) ?_ fun A_26=>?_
       ·refine TieA.all [1,5,14] (by kernel_rfl) rfl (AllA.runTo _ rfl rfl rfl (.of rfl rfl) A_8 (AllA.runTo _ rfl rfl rfl (.of rfl rfl) A_23 (AllA.run _ rfl rfl rfl ?_ ?_)))
        ·refine TieA.ga 10 [5] (by kernel_rfl) rfl (.all [1,6] (by kernel_rfl) rfl (AllA.runTo _ rfl rfl rfl (.of rfl rfl) A_6 (AllA.cons _ rfl rfl ?_ A_21 ?_)))
         ·refine TieO.withH hv7 (TieO.k (q17 v_in.Coolant) rfl (TieO.ifH ?_))
          exact TieO.l 1 rfl (lf rfl rfl)
         exact AllA.nil
        exact AllA.nil
       refine TieA.have_ (fuel₁:=10) (l₁:=(bm 18 16885)) (σ₁:=⟨[NP 5,NP 7,NP 8,NP 9,NP 10,NP 11,(13,NI (e2.Order.length:Int)),NP 14,NP 15,(18,.own 88),NP 19,(98,.ptr 8 3),(100,.ptr 5 20),(104,NI v7),(106,NI v_in.Speed)],[(5,.box (q12 t2)),(6,.box [NL e2.Order,NI e2.First]),(7,.box (x23_1 b2)),(8,.box (q11 c)),(9,.box (q14 v_in)),(10,.box x23_0),(11,.box [NI 0,.t (.v (.slice none 0 0)),NI 0]),(14,.box (lset (q11 (⟨v5,(⟨0⟩:SIntegral),[],(⟨false,false,0,0,[]⟩:SProbe),0,(⟨0,0⟩:SGrant)⟩:SControls)) [(4,.t (.v (.slice none 0 0))),(9,.t (.v (.slice none 0 0)))])),(15,.box [NI 0,.t (.v (.slice none 0 0)),NI 0]),(19,.box [NI 0]),(88,.rs 73 4 ([(⟨0,3,r2.1,0⟩:SRequest)]:List SRequest) q10)]⟩) ?_ fun A_28=>?_
       ·exact TieA.ga 8 [1,3] (by kernel_rfl) rfl (.one 9 rfl (by kernel_rfl) (TieO.withH hr3 (TieO.k (q30 c.Idle t2.Idle v7 v_in.Speed) rfl (TieO.ifH (TieO.l 1 rfl ⟨rfl,rfl⟩)))) (.ga 3 [10,11,12,13] (by kernel_rfl) rfl (.oneR 15 rfl (by kernel_rfl) rfl (.ga 1 [16] (by kernel_rfl) rfl (.done (.of rfl rfl))))))
       refine TieA.have_ (fuel₁:=11) (l₁:=(bm 18 501)) (σ₁:=⟨[NP 5,NP 7,NP 8,NP 9,NP 10,NP 11,(13,NI (e2.Order.length:Int)),NP 14,NP 15,(18,.own 88),(98,.ptr 8 3),(100,.ptr 5 20),(104,NI v7),(106,NI v_in.Speed)],[(5,.box (q12 t2)),(6,.box [NL e2.Order,NI e2.First]),(7,.box (x23_1 b2)),(8,.box (q11 c)),(9,.box (q14 v_in)),(10,.box x23_0),(11,.box [NI 0,.t (.v (.slice none 0 0)),NI 0]),(14,.box (lset (q11 (⟨v5,(⟨0⟩:SIntegral),[],(⟨false,false,0,0,[]⟩:SProbe),0,(⟨0,0⟩:SGrant)⟩:SControls)) [(4,.t (.v (.slice none 0 0))),(9,.t (.v (.slice none 0 0)))])),(15,.box [NI 0,.t (.v (.slice none 0 0)),NI 0]),(88,.rs 73 4 ([(⟨0,3,r2.1,0⟩:SRequest)]:List SRequest) q10)]⟩) ?_ fun A_27=>?_
       ·exact TieA.all [1,3,14] (by kernel_rfl) rfl (AllA.runTo _ rfl rfl rfl (.of rfl rfl) A_11 (AllA.runTo _ rfl rfl rfl (.of rfl rfl) A_20 (AllA.runTo _ rfl rfl rfl (.of rfl rfl) A_28 (AllA.nil))))
       refine TieA.have_ (fuel₁:=11) (l₁:=(bm 18 16629)) (σ₁:=⟨[NP 5,NP 7,NP 8,NP 9,NP 10,NP 11,(13,NI (e2.Order.length:Int)),NP 14,NP 15,(18,.own 88),NP 19,(98,.ptr 8 3),(100,.ptr 5 20),(104,NI v7),(105,.ptr 9 2)],[(5,.box (q12 t2)),(6,.box [NL e2.Order,NI e2.First]),(7,.box (x23_1 b2)),(8,.box (q11 c)),(9,.box (q14 v_in)),(10,.box x23_0),(11,.box [NI 0,.t (.v (.slice none 0 0)),NI 0]),(14,.box (lset (q11 (⟨v5,(⟨0⟩:SIntegral),[],(⟨false,false,0,0,[]⟩:SProbe),0,(⟨0,0⟩:SGrant)⟩:SControls)) [(4,.t (.v (.slice none 0 0))),(9,.t (.v (.slice none 0 0)))])),(15,.box [NI 0,.t (.v (.slice none 0 0)),NI 0]),(19,.box [NI 0]),(88,.rs 73 4 ([(⟨0,3,r2.1,0⟩:SRequest)]:List SRequest) q10)]⟩) ?_ fun A_29=>?_
       ·exact TieA.ga 8 [1,3,8] (by kernel_rfl) rfl (.one 9 rfl (by kernel_rfl) (TieO.withH hr3 (TieO.k (q30 c.Idle t2.Idle v7 v_in.Speed) rfl (TieO.ifH (TieO.l 1 rfl ⟨rfl,rfl⟩)))) (.ga 3 [10,11,12,13] (by kernel_rfl) rfl (.oneR 15 rfl (by kernel_rfl) rfl (.ga 1 [16] (by kernel_rfl) rfl (.done (.of rfl rfl))))))
       refine TieA.have_ (fuel₁:=11) (l₁:=(bm 18 16821)) (σ₁:=⟨[NP 5,NP 7,NP 8,NP 9,NP 10,NP 11,(13,NI (e2.Order.length:Int)),NP 14,NP 15,(18,.own 88),NP 19,(98,.ptr 8 3),(100,.ptr 5 20),(103,NI v_in.Coolant),(106,NI v_in.Speed)],[(5,.box (q12 t2)),(6,.box [NL e2.Order,NI e2.First]),(7,.box (x23_1 b2)),(8,.box (q11 c)),(9,.box (q14 v_in)),(10,.box x23_0),(11,.box [NI 0,.t (.v (.slice none 0 0)),NI 0]),(14,.box (lset (q11 (⟨v5,(⟨0⟩:SIntegral),[],(⟨false,false,0,0,[]⟩:SProbe),0,(⟨0,0⟩:SGrant)⟩:SControls)) [(4,.t (.v (.slice none 0 0))),(9,.t (.v (.slice none 0 0)))])),(15,.box [NI 0,.t (.v (.slice none 0 0)),NI 0]),(19,.box [NI 0]),(88,.rs 73 4 ([(⟨0,3,r2.1,0⟩:SRequest)]:List SRequest) q10)]⟩) ?_ fun A_31=>?_
       ·refine TieA.all [1,3,6] (by kernel_rfl) rfl (AllA.runTo _ rfl rfl rfl (.of rfl rfl) A_15 (AllA.runTo _ rfl rfl rfl (.of rfl rfl) A_24 (AllA.cons _ rfl rfl ?_ A_28 ?_)))
        ·refine TieO.withH hv7 (TieO.k (q17 v_in.Coolant) rfl (TieO.ifH ?_))
         exact TieO.l 1 rfl (lf rfl rfl)
        exact AllA.nil
       refine TieA.have_ (fuel₁:=12) (l₁:=(bm 18 437)) (σ₁:=⟨[NP 5,NP 7,NP 8,NP 9,NP 10,NP 11,(13,NI (e2.Order.length:Int)),NP 14,NP 15,(18,.own 88),(98,.ptr 8 3),(100,.ptr 5 20),(103,NI v_in.Coolant),(106,NI v_in.Speed)],[(5,.box (q12 t2)),(6,.box [NL e2.Order,NI e2.First]),(7,.box (x23_1 b2)),(8,.box (q11 c)),(9,.box (q14 v_in)),(10,.box x23_0),(11,.box [NI 0,.t (.v (.slice none 0 0)),NI 0]),(14,.box (lset (q11 (⟨v5,(⟨0⟩:SIntegral),[],(⟨false,false,0,0,[]⟩:SProbe),0,(⟨0,0⟩:SGrant)⟩:SControls)) [(4,.t (.v (.slice none 0 0))),(9,.t (.v (.slice none 0 0)))])),(15,.box [NI 0,.t (.v (.slice none 0 0)),NI 0]),(88,.rs 73 4 ([(⟨0,3,r2.1,0⟩:SRequest)]:List SRequest) q10)]⟩) ?_ fun A_30=>?_
       ·refine TieA.all [1,3,6,14] (by kernel_rfl) rfl (AllA.runTo _ rfl rfl rfl (.of rfl rfl) A_14 (AllA.runTo _ rfl rfl rfl (.of rfl rfl) A_23 (AllA.cons _ rfl rfl ?_ A_27 ?_)))
        ·refine TieO.withH hv7 (TieO.k (q17 v_in.Coolant) rfl (TieO.ifH ?_))
         exact TieO.l 1 rfl (lf rfl rfl)
        exact AllA.runTo _ rfl rfl rfl (.of rfl rfl) A_31 (AllA.nil)
       refine TieA.ga 14 [0,2,4,7] (by kernel_rfl) rfl (.all [1,3,5,8,14] (by kernel_rfl) rfl (AllA.run _ rfl rfl rfl ?_ ?_))
       ·refine TieA.all [3,5,8,14] (by kernel_rfl) rfl (AllA.runTo _ rfl rfl rfl (.of rfl rfl) A_0 (AllA.runTo _ rfl rfl rfl (.of rfl rfl) A_9 (AllA.runTo _ rfl rfl rfl (.of rfl rfl) A_17 (AllA.run _ rfl rfl rfl ?_ ?_))))
        ·refine TieA.ga 11 [5] (by kernel_rfl) rfl (.all [3,6,8] (by kernel_rfl) rfl (AllA.runTo _ rfl rfl rfl (.of rfl rfl) A_7 (AllA.cons _ rfl rfl ?_ A_13 ?_)))
         ·refine TieO.withH hv7 (TieO.k (q17 v_in.Coolant) rfl (TieO.ifH ?_))
          exact TieO.l 1 rfl (lf rfl rfl)
         exact AllA.runTo _ rfl rfl rfl (.of rfl rfl) A_15 (AllA.nil)
        exact AllA.nil
       refine AllA.run _ rfl rfl rfl ?_ ?_
       ·refine TieA.all [1,5,8,14] (by kernel_rfl) rfl (AllA.runTo _ rfl rfl rfl (.of rfl rfl) A_0 (AllA.runTo _ rfl rfl rfl (.of rfl rfl) A_18 (AllA.runTo _ rfl rfl rfl (.of rfl rfl) A_26 (AllA.run _ rfl rfl rfl ?_ ?_))))
        ·refine TieA.ga 11 [5] (by kernel_rfl) rfl (.all [1,6,8] (by kernel_rfl) rfl (AllA.runTo _ rfl rfl rfl (.of rfl rfl) A_7 (AllA.cons _ rfl rfl ?_ A_22 ?_)))
         ·refine TieO.withH hv7 (TieO.k (q17 v_in.Coolant) rfl (TieO.ifH ?_))
          exact TieO.l 1 rfl (lf rfl rfl)
         exact AllA.runTo _ rfl rfl rfl (.of rfl rfl) A_24 (AllA.nil)
        exact AllA.nil
       refine AllA.run _ rfl rfl rfl ?_ ?_
       ·refine TieA.all [1,3,6,8,14] (by kernel_rfl) rfl (AllA.runTo _ rfl rfl rfl (.of rfl rfl) A_9 (AllA.runTo _ rfl rfl rfl (.of rfl rfl) A_18 (AllA.cons (σ₁:=⟨[NP 5,NP 7,NP 8,NP 9,NP 10,NP 11,(13,NI (e2.Order.length:Int)),NP 14,NP 15,(18,.own 88),(98,.ptr 8 3),(100,.ptr 5 20),(104,NI v7),(105,.ptr 9 2)],[(5,.box (q12 t2)),(6,.box [NL e2.Order,NI e2.First]),(7,.box (x23_1 b2)),(8,.box (q11 c)),(9,.box (q14 v_in)),(10,.box x23_0),(11,.box [NI 0,.t (.v (.slice none 0 0)),NI 0]),(14,.box (lset (q11 (⟨v5,(⟨0⟩:SIntegral),[],(⟨false,false,0,0,[]⟩:SProbe),0,(⟨0,0⟩:SGrant)⟩:SControls)) [(4,.t (.v (.slice none 0 0))),(9,.t (.v (.slice none 0 0)))])),(15,.box [NI 0,.t (.v (.slice none 0 0)),NI 0]),(88,.rs 73 4 ([(⟨0,3,r2.1,0⟩:SRequest)]:List SRequest) q10)]⟩) _ rfl rfl ?_ ?_ ?_)))
        ·refine TieO.withH hv7 (TieO.k (q17 v_in.Coolant) rfl (TieO.ifH ?_))
         exact TieO.l 1 rfl (lf rfl rfl)
        ·exact TieA.all [1,3,8,14] (by kernel_rfl) rfl (AllA.runTo _ rfl rfl rfl (.of rfl rfl) A_10 (AllA.runTo _ rfl rfl rfl (.of rfl rfl) A_19 (AllA.runTo _ rfl rfl rfl (.of rfl rfl) A_27 (AllA.runTo _ rfl rfl rfl (.of rfl rfl) A_29 (AllA.nil)))))
        refine AllA.runTo _ rfl rfl rfl (.of rfl rfl) A_30 (AllA.run _ rfl rfl rfl ?_ ?_)
        ·refine TieA.all [1,3,6,8] (by kernel_rfl) rfl (AllA.runTo _ rfl rfl rfl (.of rfl rfl) A_16 (AllA.runTo _ rfl rfl rfl (.of rfl rfl) A_25 (AllA.cons _ rfl rfl ?_ A_29 ?_)))
         ·refine TieO.withH hv7 (TieO.k (q17 v_in.Coolant) rfl (TieO.ifH ?_))
          exact TieO.l 1 rfl (lf rfl rfl)
         exact AllA.runTo _ rfl rfl rfl (.of rfl rfl) A_31 (AllA.nil)
        exact AllA.nil
       refine AllA.run _ rfl rfl rfl ?_ ?_
       ·refine TieA.all [1,3,5,14] (by kernel_rfl) rfl (AllA.runTo _ rfl rfl rfl (.of rfl rfl) A_17 (AllA.runTo _ rfl rfl rfl (.of rfl rfl) A_26 (AllA.runTo _ rfl rfl rfl (.of rfl rfl) A_30 (AllA.run _ rfl rfl rfl ?_ ?_))))
        ·refine TieA.ga 11 [5] (by kernel_rfl) rfl (.all [1,3,6] (by kernel_rfl) rfl (AllA.runTo _ rfl rfl rfl (.of rfl rfl) A_15 (AllA.runTo _ rfl rfl rfl (.of rfl rfl) A_24 (AllA.cons _ rfl rfl ?_ A_28 ?_))))
         ·refine TieO.withH hv7 (TieO.k (q17 v_in.Coolant) rfl (TieO.ifH ?_))
          exact TieO.l 1 rfl (lf rfl rfl)
         exact AllA.nil
        exact AllA.nil
       refine AllA.run _ rfl rfl rfl ?_ ?_
       ·refine TieA.ga 12 [5] (by kernel_rfl) rfl (.all [1,3,6,8] (by kernel_rfl) rfl (AllA.runTo _ rfl rfl rfl (.of rfl rfl) A_16 (AllA.runTo _ rfl rfl rfl (.of rfl rfl) A_25 (AllA.cons _ rfl rfl ?_ A_29 ?_))))
        ·refine TieO.withH hv7 (TieO.k (q17 v_in.Coolant) rfl (TieO.ifH ?_))
         exact TieO.l 1 rfl (lf rfl rfl)
        exact AllA.runTo _ rfl rfl rfl (.of rfl rfl) A_31 (AllA.nil)
       exact AllA.nil
      exact TieO.l 2 rfl (lf rfl rfl)
     rintro s e σ' _ ⟨rfl,hs⟩
     exact TieX.sub hs (TieS.o 9 rfl (.k (q134 s.1 (-5000) 10000) rfl fun v8=>.o 2 rfl (.appendY (id:=88) (l:=([(⟨0,3,r2.1,0⟩:SRequest)]:List SRequest)) (r:=([(⟨1,2,v8,1⟩:SRequest)]:List SRequest)) (tm':=[NP 5,NP 7,NP 8,NP 9,NP 10,NP 11,(13,NI (e2.Order.length:Int)),NP 14,NP 15,NP 19,(20,NI s.1),(111,.agg [NI s.2]),(112,.ptr 14 3),(114,NI s.1),(115,NI v8),(116,.agg [NI 1,NI 2,NI v8,NI 1]),(117,.own 117)]) (hp':=[(5,.box (q12 t2)),(7,.box (x23_1 b2)),(8,.box (q11 c)),(9,.box (q14 v_in)),(10,.box x23_0),(11,.box [NI 0,.t (.v (.slice none 0 0)),NI 0]),(14,.box (lset (q11 (⟨v5,(⟨s.2⟩:SIntegral),[],(⟨false,false,0,0,[]⟩:SProbe),0,(⟨0,0⟩:SGrant)⟩:SControls)) [(4,.t (.v (.slice none 0 0))),(9,.t (.v (.slice none 0 0)))])),(15,.box [NI 0,.t (.v (.slice none 0 0)),NI 0]),(19,.box [NI s.2]),(117,.rs 73 4 ([(⟨1,2,v8,1⟩:SRequest)]:List SRequest) q10)]) rfl rfl rfl rfl rfl rfl rfl (fun _=>rfl) (fun _=>rfl) (.inl ⟨rfl,rfl⟩) (.inr ⟨_,rfl,rfl⟩) (.of rfl rfl) rfl rfl rfl fun l=>.l 2 rfl (lf rfl rfl))))
    ·exact TieS.l 1 rfl (lf rfl rfl)
   rintro s2 e σ' _ ⟨rfl,hs⟩
   refine TieX.sub hs (TieS.s 6 rfl (.loop (fun t=>⟨[NP 5,NP 7,NP 8,NP 9,NP 10,NP 11,(13,NI (e2.Order.length:Int)),NP 14,NP 15,(18,.own 88),(22,NI t.1)],[(5,.box (q12 t2)),(7,.box (x23_1 b2)),(8,.box (q11 c)),(9,.box (q14 v_in)),(10,.box x23_0),(11,.box [NI 0,.t (.v (.slice none 0 0)),NI 0]),(14,.box (lset (q11 (⟨v5,(⟨s2.1⟩:SIntegral),[],(⟨false,false,0,0,[]⟩:SProbe),0,(⟨0,0⟩:SGrant)⟩:SControls)) [(4,.t (.v (.slice none 0 0))),(9,.t (.v (.slice none 0 0)))])),(15,.box [NI 0,.t (.v (.slice none 0 0)),NI 0]),(88,.rs 73 4 t.2 q10)]⟩) (fun b e σ'=>match b with | .inl t=>e = .exit 0 ∧ Sub ⟨[NP 5,NP 7,NP 8,NP 9,NP 10,NP 11,(13,NI (e2.Order.length:Int)),NP 14,NP 15,(18,.own 88)],[(5,.box (q12 t2)),(7,.box (x23_1 b2)),(8,.box (q11 c)),(9,.box (q14 v_in)),(10,.box x23_0),(11,.box [NI 0,.t (.v (.slice none 0 0)),NI 0]),(14,.box (lset (q11 (⟨v5,(⟨s2.1⟩:SIntegral),[],(⟨false,false,0,0,[]⟩:SProbe),0,(⟨0,0⟩:SGrant)⟩:SControls)) [(4,.t (.v (.slice none 0 0))),(9,.t (.v (.slice none 0 0)))])),(15,.box [NI 0,.t (.v (.slice none 0 0)),NI 0]),(88,.rs 73 4 t.2 q10)]⟩ σ' | .inr t=>False) (.of rfl rfl) ?_ ?_))
   ·intro s3
    refine TieS.s 9 rfl (.cond rfl ?_ ?_)
    ·exact TieS.o 8 rfl (.index rfl rfl rfl rfl rfl rfl rfl rfl (fun _=>rfl) fun x hx=>.o 2 rfl (.appendY (id:=88) (l:=s3.2) (r:=([x]:List SRequest)) (tm':=[NP 5,NP 7,NP 8,NP 9,NP 10,NP 11,(13,NI (e2.Order.length:Int)),NP 14,NP 15,(22,NI s3.1),(119,NI s3.1),(120,.ptr 9 9),(121,NS q10 v_in.Requests),(122,NI (v_in.Requests.length:Int)),(123,NB (decide (s3.1 < (v_in.Requests.length:Int)))),(127,.ptr 9 9),(128,NS q10 v_in.Requests),(129,NI s3.1),(130,.el (q10 x)),(131,.agg [NI x.Source,NI x.Kind,NI x.Torque,NI x.Priority]),(132,.own 132)]) (hp':=[(5,.box (q12 t2)),(7,.box (x23_1 b2)),(8,.box (q11 c)),(9,.box (q14 v_in)),(10,.box x23_0),(11,.box [NI 0,.t (.v (.slice none 0 0)),NI 0]),(14,.box (lset (q11 (⟨v5,(⟨s2.1⟩:SIntegral),[],(⟨false,false,0,0,[]⟩:SProbe),0,(⟨0,0⟩:SGrant)⟩:SControls)) [(4,.t (.v (.slice none 0 0))),(9,.t (.v (.slice none 0 0)))])),(15,.box [NI 0,.t (.v (.slice none 0 0)),NI 0]),(132,.rs 73 4 ([x]:List SRequest) q10)]) rfl rfl rfl rfl rfl rfl rfl (fun _=>rfl) (fun _=>rfl) (.inl ⟨rfl,rfl⟩) (.inr ⟨_,rfl,rfl⟩) (.of rfl rfl) rfl rfl rfl fun l2=>.l 8 rfl (lf rfl rfl)))
    ·exact TieS.exitOut rfl ⟨(fun h=>by cases h),rfl,.of rfl rfl⟩
   rintro (s4 | r) e σ' _ hq
   ·obtain ⟨rfl,hs⟩:=hq
    refine TieX.exit rfl (TieX.sub hs ?_)
    refine TieS.o 5 rfl (.callS _ rfl rfl rfl (q575 c.Grant s4.2) (fun _=>rfl) (fun _=>rfl) fun v9=>.o 17 rfl (.k (q504 t2 b2 v_in (maxI 0 v9.Torque)) rfl fun v10=>.o 12 rfl (.k (q539 t2 v_in.Speed v_in.Pressure v_in.AirTemp) rfl fun r4=>.o 14 rfl (.k (q566 t2 v_in.Speed r4.1 (maxI 0 v9.Torque) (e2.Order.length:Int)) rfl fun r5=>.s 12 rfl (TieX.nilB 14 3544 95 3 [4] rfl rfl rfl rfl rfl (TieS.loop (fun t=>⟨[NP 5,NP 7,NP 8,NP 9,NP 10,NP 11,(13,NI (e2.Order.length:Int)),NP 14,NP 15,(24,NI r4.1),(26,NI r5.1),(27,NI r5.2),(28,NI t.1)],[(5,.box (q12 t2)),(7,.box (x23_1 b2)),(8,.box (q11 c)),(9,.box (q14 v_in)),(10,.box x23_0),(11,.box [NI 0,.t (.v (.slice none 0 0)),NI 0]),(14,.box (lset (q11 (⟨v5,(⟨s2.1⟩:SIntegral),[],(⟨false,false,0,0,[]⟩:SProbe),0,v9⟩:SControls)) [(4,.own 3544),(9,.t (.v (.slice none 0 0)))])),(15,.box [NI v10,.t (.v (.slice none 0 0)),NI 0]),(3544,.rs 95 3 t.2 q15)]⟩) (fun b e σ'=>match b with | .inl t=>e = .exit 2 ∧ Sub ⟨[NP 5,NP 7,NP 8,NP 9,NP 10,NP 11,(13,NI (e2.Order.length:Int)),NP 14,NP 15,(24,NI r4.1),(26,NI r5.1),(27,NI r5.2)],[(5,.box (q12 t2)),(7,.box (x23_1 b2)),(8,.box (q11 c)),(9,.box (q14 v_in)),(10,.box x23_0),(11,.box [NI 0,.t (.v (.slice none 0 0)),NI 0]),(14,.box (lset (q11 (⟨v5,(⟨s2.1⟩:SIntegral),[],(⟨false,false,0,0,[]⟩:SProbe),0,v9⟩:SControls)) [(4,.own 3544),(9,.t (.v (.slice none 0 0)))])),(15,.box [NI v10,.t (.v (.slice none 0 0)),NI 0]),(3544,.rs 95 3 t.2 q15)]⟩ σ' | .inr t=>False) (.of rfl rfl) ?_ ?_))))))
    ·intro s5
     refine TieS.s 7 rfl (.cond rfl ?_ ?_)
     ·refine TieS.s 4 rfl (.bind (Q₁:=fun t e σ'=>e = .normal ∧ Sub ⟨[NP 5,NP 7,NP 8,NP 9,NP 10,NP 11,(13,NI (e2.Order.length:Int)),NP 14,NP 15,(24,NI r4.1),(26,NI r5.1),(27,NI r5.2),(28,NI s5.1),NP 29],[(5,.box (q12 t2)),(7,.box (x23_1 b2)),(8,.box (q11 c)),(9,.box (q14 v_in)),(10,.box x23_0),(11,.box [NI 0,.t (.v (.slice none 0 0)),NI 0]),(14,.box (lset (q11 (⟨v5,(⟨s2.1⟩:SIntegral),[],(⟨false,false,0,0,[]⟩:SProbe),0,v9⟩:SControls)) [(4,.own 3544),(9,.t (.v (.slice none 0 0)))])),(15,.box [NI v10,.t (.v (.slice none 0 0)),NI 0]),(29,.box [NI t.Retard,NI t.Noise,NI t.Quiet]),(3544,.rs 95 3 s5.2 q15)]⟩ σ') ?_ ?_)
      ·refine TieX.pre fun x2 hx2=>TieX.pre fun x3 hx3=>TieX.pre fun r6 hr6=>TieS.draws 16 (bm 17 0) (bm 17 65535) ⟨[NP 5,NP 7,NP 8,NP 9,NP 10,NP 11,(13,NI (e2.Order.length:Int)),NP 14,NP 15,(24,NI r4.1),(26,NI r5.1),(27,NI r5.2),(28,NI s5.1),NP 29,(188,NB r6.2)],[(5,.box (q12 t2)),(7,.box (x23_1 b2)),(8,.box (q11 c)),(9,.box (q14 v_in)),(10,.box x23_0),(11,.box [NI 0,.t (.v (.slice none 0 0)),NI 0]),(14,.box (lset (q11 (⟨v5,(⟨s2.1⟩:SIntegral),[],(⟨false,false,0,0,[]⟩:SProbe),0,v9⟩:SControls)) [(4,.own 3544),(9,.t (.v (.slice none 0 0)))])),(15,.box [NI v10,.t (.v (.slice none 0 0)),NI 0]),(29,.box [NI r6.1.Retard,NI r6.1.Noise,NI r6.1.Quiet]),(3544,.rs 95 3 s5.2 q15)]⟩ mixed (fun _ _ _ h=>by cases h.1) rfl rfl rfl rfl ?_ ?_
       ·refine TieA.have_ (fuel₁:=7) (l₁:=(bm 17 1023)) (σ₁:=⟨[NP 5,NP 7,NP 8,NP 9,NP 10,NP 11,(13,NI (e2.Order.length:Int)),NP 14,NP 15,(24,NI r4.1),(26,NI r5.1),(27,NI r5.2),(28,NI s5.1),(180,.agg [NI x2.Retard,NI x2.Noise,NI x2.Quiet]),(185,NI x3)],[(5,.box (q12 t2)),(7,.box (x23_1 b2)),(8,.box (q11 c)),(9,.box (q14 v_in)),(10,.box x23_0),(11,.box [NI 0,.t (.v (.slice none 0 0)),NI 0]),(14,.box (lset (q11 (⟨v5,(⟨s2.1⟩:SIntegral),[],(⟨false,false,0,0,[]⟩:SProbe),0,v9⟩:SControls)) [(4,.own 3544),(9,.t (.v (.slice none 0 0)))])),(15,.box [NI v10,.t (.v (.slice none 0 0)),NI 0]),(3544,.rs 95 3 s5.2 q15)]⟩) ?_ fun A_2=>?_
        ·refine TieA.all [10,14] (by kernel_rfl) rfl (AllA.cons (σ₁:=⟨[NP 5,NP 7,NP 8,NP 9,NP 10,NP 11,(13,NI (e2.Order.length:Int)),NP 14,NP 15,(24,NI r4.1),(26,NI r5.1),(27,NI r5.2),(28,NI s5.1),(186,.tup [.agg [NI r6.1.Retard,NI r6.1.Noise,NI r6.1.Quiet],NB r6.2])],[(5,.box (q12 t2)),(7,.box (x23_1 b2)),(8,.box (q11 c)),(9,.box (q14 v_in)),(10,.box x23_0),(11,.box [NI 0,.t (.v (.slice none 0 0)),NI 0]),(14,.box (lset (q11 (⟨v5,(⟨s2.1⟩:SIntegral),[],(⟨false,false,0,0,[]⟩:SProbe),0,v9⟩:SControls)) [(4,.own 3544),(9,.t (.v (.slice none 0 0)))])),(15,.box [NI v10,.t (.v (.slice none 0 0)),NI 0]),(3544,.rs 95 3 s5.2 q15)]⟩) _ rfl rfl ?_ ?_ ?_)
         ·refine TieO.withH hr6 (TieO.k (q26 x2 x3) rfl (TieO.ifH ?_))
          exact TieO.l 1 rfl (lf rfl rfl)
         ·exact TieA.ga 3 [11,12,13] (by kernel_rfl) rfl (.oneR 14 rfl (by kernel_rfl) rfl (.oneR 15 rfl (by kernel_rfl) rfl (.done (.of rfl rfl))))
         refine AllA.run _ rfl rfl rfl ?_ ?_
         ·exact TieA.one 10 rfl (by kernel_rfl) (TieO.withH hr6 (TieO.k (q26 x2 x3) rfl (TieO.ifH (TieO.l 1 rfl ⟨rfl,rfl⟩)))) (.ga 2 [11,12,13] (by kernel_rfl) rfl (.oneR 15 rfl (by kernel_rfl) rfl (.done (.of rfl rfl))))
         exact AllA.nil
        refine TieA.have_ (fuel₁:=8) (l₁:=(bm 17 511)) (σ₁:=⟨[NP 5,NP 7,NP 8,NP 9,NP 10,NP 11,(13,NI (e2.Order.length:Int)),NP 14,NP 15,(24,NI r4.1),(26,NI r5.1),(27,NI r5.2),(28,NI s5.1),(180,.agg [NI x2.Retard,NI x2.Noise,NI x2.Quiet]),(184,.el (Pv.encI x3))],[(5,.box (q12 t2)),(7,.box (x23_1 b2)),(8,.box (q11 c)),(9,.box (q14 v_in)),(10,.box x23_0),(11,.box [NI 0,.t (.v (.slice none 0 0)),NI 0]),(14,.box (lset (q11 (⟨v5,(⟨s2.1⟩:SIntegral),[],(⟨false,false,0,0,[]⟩:SProbe),0,v9⟩:SControls)) [(4,.own 3544),(9,.t (.v (.slice none 0 0)))])),(15,.box [NI v10,.t (.v (.slice none 0 0)),NI 0]),(3544,.rs 95 3 s5.2 q15)]⟩) ?_ fun A_1=>?_
        ·refine TieA.all [9,14] (by kernel_rfl) rfl (AllA.runTo _ rfl rfl rfl (.of rfl rfl) A_2 (AllA.run _ rfl rfl rfl ?_ ?_))
         ·exact TieA.ga 6 [9] (by kernel_rfl) rfl (.one 10 rfl (by kernel_rfl) (TieO.withH hr6 (TieO.k (q26 x2 x3) rfl (TieO.ifH (TieO.l 1 rfl ⟨rfl,rfl⟩)))) (.ga 2 [11,12,13] (by kernel_rfl) rfl (.oneR 15 rfl (by kernel_rfl) rfl (.done (.of rfl rfl)))))
         exact AllA.nil
        refine TieA.have_ (fuel₁:=9) (l₁:=(bm 17 255)) (σ₁:=⟨[NP 5,NP 7,NP 8,NP 9,NP 10,NP 11,(13,NI (e2.Order.length:Int)),NP 14,NP 15,(24,NI r4.1),(26,NI r5.1),(27,NI r5.2),(28,NI s5.1),(180,.agg [NI x2.Retard,NI x2.Noise,NI x2.Quiet]),(182,NL v_in.Intensity),(183,NI s5.1)],[(5,.box (q12 t2)),(7,.box (x23_1 b2)),(8,.box (q11 c)),(9,.box (q14 v_in)),(10,.box x23_0),(11,.box [NI 0,.t (.v (.slice none 0 0)),NI 0]),(14,.box (lset (q11 (⟨v5,(⟨s2.1⟩:SIntegral),[],(⟨false,false,0,0,[]⟩:SProbe),0,v9⟩:SControls)) [(4,.own 3544),(9,.t (.v (.slice none 0 0)))])),(15,.box [NI v10,.t (.v (.slice none 0 0)),NI 0]),(3544,.rs 95 3 s5.2 q15)]⟩) ?_ fun A_0=>?_
        ·refine TieA.all [8,14] (by kernel_rfl) rfl (AllA.cons _ rfl rfl ?_ A_1 ?_)
         ·exact TieO.indexH hx3 rfl rfl rfl rfl rfl rfl rfl rfl (fun _=>rfl) (.l 1 rfl (lf rfl rfl))
         refine AllA.run _ rfl rfl rfl ?_ ?_
         ·exact TieA.one 8 rfl (by kernel_rfl) (TieO.indexH hx3 rfl rfl rfl rfl rfl rfl rfl rfl (fun _=>rfl) (TieO.l 1 rfl ⟨rfl,rfl⟩)) (.ga 6 [9] (by kernel_rfl) rfl (.one 10 rfl (by kernel_rfl) (TieO.withH hr6 (TieO.k (q26 x2 x3) rfl (TieO.ifH (TieO.l 1 rfl ⟨rfl,rfl⟩)))) (.ga 2 [11,12,13] (by kernel_rfl) rfl (.oneR 15 rfl (by kernel_rfl) rfl (.done (.of rfl rfl))))))
         exact AllA.nil
        refine TieA.have_ (fuel₁:=8) (l₁:=(bm 17 1007)) (σ₁:=⟨[NP 5,NP 7,NP 8,NP 9,NP 10,NP 11,(13,NI (e2.Order.length:Int)),NP 14,NP 15,(24,NI r4.1),(26,NI r5.1),(27,NI r5.2),(28,NI s5.1),(179,.el (q15 x2)),(185,NI x3)],[(5,.box (q12 t2)),(7,.box (x23_1 b2)),(8,.box (q11 c)),(9,.box (q14 v_in)),(10,.box x23_0),(11,.box [NI 0,.t (.v (.slice none 0 0)),NI 0]),(14,.box (lset (q11 (⟨v5,(⟨s2.1⟩:SIntegral),[],(⟨false,false,0,0,[]⟩:SProbe),0,v9⟩:SControls)) [(4,.own 3544),(9,.t (.v (.slice none 0 0)))])),(15,.box [NI v10,.t (.v (.slice none 0 0)),NI 0]),(3544,.rs 95 3 s5.2 q15)]⟩) ?_ fun A_5=>?_
        ·refine TieA.all [4,14] (by kernel_rfl) rfl (AllA.runTo _ rfl rfl rfl (.of rfl rfl) A_2 (AllA.run _ rfl rfl rfl ?_ ?_))
         ·exact TieA.ga 6 [4] (by kernel_rfl) rfl (.one 10 rfl (by kernel_rfl) (TieO.withH hr6 (TieO.k (q26 x2 x3) rfl (TieO.ifH (TieO.l 1 rfl ⟨rfl,rfl⟩)))) (.ga 2 [11,12,13] (by kernel_rfl) rfl (.oneR 15 rfl (by kernel_rfl) rfl (.done (.of rfl rfl)))))
         exact AllA.nil
        refine TieA.have_ (fuel₁:=9) (l₁:=(bm 17 495)) (σ₁:=⟨[NP 5,NP 7,NP 8,NP 9,NP 10,NP 11,(13,NI (e2.Order.length:Int)),NP 14,NP 15,(24,NI r4.1),(26,NI r5.1),(27,NI r5.2),(28,NI s5.1),(179,.el (q15 x2)),(184,.el (Pv.encI x3))],[(5,.box (q12 t2)),(7,.box (x23_1 b2)),(8,.box (q11 c)),(9,.box (q14 v_in)),(10,.box x23_0),(11,.box [NI 0,.t (.v (.slice none 0 0)),NI 0]),(14,.box (lset (q11 (⟨v5,(⟨s2.1⟩:SIntegral),[],(⟨false,false,0,0,[]⟩:SProbe),0,v9⟩:SControls)) [(4,.own 3544),(9,.t (.v (.slice none 0 0)))])),(15,.box [NI v10,.t (.v (.slice none 0 0)),NI 0]),(3544,.rs 95 3 s5.2 q15)]⟩) ?_ fun A_4=>?_
        ·refine TieA.all [4,9,14] (by kernel_rfl) rfl (AllA.runTo _ rfl rfl rfl (.of rfl rfl) A_1 (AllA.runTo _ rfl rfl rfl (.of rfl rfl) A_5 (AllA.run _ rfl rfl rfl ?_ ?_)))
         ·exact TieA.ga 6 [4,9] (by kernel_rfl) rfl (.one 10 rfl (by kernel_rfl) (TieO.withH hr6 (TieO.k (q26 x2 x3) rfl (TieO.ifH (TieO.l 1 rfl ⟨rfl,rfl⟩)))) (.ga 2 [11,12,13] (by kernel_rfl) rfl (.oneR 15 rfl (by kernel_rfl) rfl (.done (.of rfl rfl)))))
         exact AllA.nil
        refine TieA.have_ (fuel₁:=9) (l₁:=(bm 17 16623)) (σ₁:=⟨[NP 5,NP 7,NP 8,NP 9,NP 10,NP 11,(13,NI (e2.Order.length:Int)),NP 14,NP 15,(24,NI r4.1),(26,NI r5.1),(27,NI r5.2),(28,NI s5.1),NP 29,(179,.el (q15 x2)),(182,NL v_in.Intensity),(183,NI s5.1)],[(5,.box (q12 t2)),(7,.box (x23_1 b2)),(8,.box (q11 c)),(9,.box (q14 v_in)),(10,.box x23_0),(11,.box [NI 0,.t (.v (.slice none 0 0)),NI 0]),(14,.box (lset (q11 (⟨v5,(⟨s2.1⟩:SIntegral),[],(⟨false,false,0,0,[]⟩:SProbe),0,v9⟩:SControls)) [(4,.own 3544),(9,.t (.v (.slice none 0 0)))])),(15,.box [NI v10,.t (.v (.slice none 0 0)),NI 0]),(29,.box [NI 0,NI 0,NI 0]),(3544,.rs 95 3 s5.2 q15)]⟩) ?_ fun A_6=>?_
        ·exact TieA.ga 8 [4] (by kernel_rfl) rfl (.one 8 rfl (by kernel_rfl) (TieO.indexH hx3 rfl rfl rfl rfl rfl rfl rfl rfl (fun _=>rfl) (TieO.l 1 rfl ⟨rfl,rfl⟩)) (.ga 6 [9] (by kernel_rfl) rfl (.one 10 rfl (by kernel_rfl) (TieO.withH hr6 (TieO.k (q26 x2 x3) rfl (TieO.ifH (TieO.l 1 rfl ⟨rfl,rfl⟩)))) (.ga 2 [11,12,13] (by kernel_rfl) rfl (.oneR 15 rfl (by kernel_rfl) rfl (.done (.of rfl rfl)))))))
        refine TieA.have_ (fuel₁:=10) (l₁:=(bm 17 239)) (σ₁:=⟨[NP 5,NP 7,NP 8,NP 9,NP 10,NP 11,(13,NI (e2.Order.length:Int)),NP 14,NP 15,(24,NI r4.1),(26,NI r5.1),(27,NI r5.2),(28,NI s5.1),(179,.el (q15 x2)),(182,NL v_in.Intensity),(183,NI s5.1)],[(5,.box (q12 t2)),(7,.box (x23_1 b2)),(8,.box (q11 c)),(9,.box (q14 v_in)),(10,.box x23_0),(11,.box [NI 0,.t (.v (.slice none 0 0)),NI 0]),(14,.box (lset (q11 (⟨v5,(⟨s2.1⟩:SIntegral),[],(⟨false,false,0,0,[]⟩:SProbe),0,v9⟩:SControls)) [(4,.own 3544),(9,.t (.v (.slice none 0 0)))])),(15,.box [NI v10,.t (.v (.slice none 0 0)),NI 0]),(3544,.rs 95 3 s5.2 q15)]⟩) ?_ fun A_3=>?_
        ·refine TieA.all [4,8,14] (by kernel_rfl) rfl (AllA.runTo _ rfl rfl rfl (.of rfl rfl) A_0 (AllA.cons _ rfl rfl ?_ A_4 ?_))
         ·exact TieO.indexH hx3 rfl rfl rfl rfl rfl rfl rfl rfl (fun _=>rfl) (.l 1 rfl (lf rfl rfl))
         exact AllA.runTo _ rfl rfl rfl (.of rfl rfl) A_6 (AllA.nil)
        refine TieA.have_ (fuel₁:=9) (l₁:=(bm 17 999)) (σ₁:=⟨[NP 5,NP 7,NP 8,NP 9,NP 10,NP 11,(13,NI (e2.Order.length:Int)),NP 14,NP 15,(24,NI r4.1),(26,NI r5.1),(27,NI r5.2),(28,NI s5.1),(177,NS q15 c.Knock),(178,NI s5.1),(185,NI x3)],[(5,.box (q12 t2)),(7,.box (x23_1 b2)),(8,.box (q11 c)),(9,.box (q14 v_in)),(10,.box x23_0),(11,.box [NI 0,.t (.v (.slice none 0 0)),NI 0]),(14,.box (lset (q11 (⟨v5,(⟨s2.1⟩:SIntegral),[],(⟨false,false,0,0,[]⟩:SProbe),0,v9⟩:SControls)) [(4,.own 3544),(9,.t (.v (.slice none 0 0)))])),(15,.box [NI v10,.t (.v (.slice none 0 0)),NI 0]),(3544,.rs 95 3 s5.2 q15)]⟩) ?_ fun A_9=>?_
        ·refine TieA.all [3,14] (by kernel_rfl) rfl (AllA.cons _ rfl rfl ?_ A_5 ?_)
         ·exact TieO.indexH hx2 rfl rfl rfl rfl rfl rfl rfl rfl (fun _=>rfl) (.l 1 rfl (lf rfl rfl))
         refine AllA.run _ rfl rfl rfl ?_ ?_
         ·exact TieA.one 3 rfl (by kernel_rfl) (TieO.indexH hx2 rfl rfl rfl rfl rfl rfl rfl rfl (fun _=>rfl) (TieO.l 1 rfl ⟨rfl,rfl⟩)) (.ga 6 [4] (by kernel_rfl) rfl (.one 10 rfl (by kernel_rfl) (TieO.withH hr6 (TieO.k (q26 x2 x3) rfl (TieO.ifH (TieO.l 1 rfl ⟨rfl,rfl⟩)))) (.ga 2 [11,12,13] (by kernel_rfl) rfl (.oneR 15 rfl (by kernel_rfl) rfl (.done (.of rfl rfl))))))
         exact AllA.nil
        refine TieA.have_ (fuel₁:=9) (l₁:=(bm 17 16871)) (σ₁:=⟨[NP 5,NP 7,NP 8,NP 9,NP 10,NP 11,(13,NI (e2.Order.length:Int)),NP 14,NP 15,(24,NI r4.1),(26,NI r5.1),(27,NI r5.2),(28,NI s5.1),NP 29,(177,NS q15 c.Knock),(178,NI s5.1),(184,.el (Pv.encI x3))],[(5,.box (q12 t2)),(7,.box (x23_1 b2)),(8,.box (q11 c)),(9,.box (q14 v_in)),(10,.box x23_0),(11,.box [NI 0,.t (.v (.slice none 0 0)),NI 0]),(14,.box (lset (q11 (⟨v5,(⟨s2.1⟩:SIntegral),[],(⟨false,false,0,0,[]⟩:SProbe),0,v9⟩:SControls)) [(4,.own 3544),(9,.t (.v (.slice none 0 0)))])),(15,.box [NI v10,.t (.v (.slice none 0 0)),NI 0]),(29,.box [NI 0,NI 0,NI 0]),(3544,.rs 95 3 s5.2 q15)]⟩) ?_ fun A_10=>?_
        ·exact TieA.ga 8 [9] (by kernel_rfl) rfl (.one 3 rfl (by kernel_rfl) (TieO.indexH hx2 rfl rfl rfl rfl rfl rfl rfl rfl (fun _=>rfl) (TieO.l 1 rfl ⟨rfl,rfl⟩)) (.ga 6 [4] (by kernel_rfl) rfl (.one 10 rfl (by kernel_rfl) (TieO.withH hr6 (TieO.k (q26 x2 x3) rfl (TieO.ifH (TieO.l 1 rfl ⟨rfl,rfl⟩)))) (.ga 2 [11,12,13] (by kernel_rfl) rfl (.oneR 15 rfl (by kernel_rfl) rfl (.done (.of rfl rfl)))))))
        refine TieA.have_ (fuel₁:=10) (l₁:=(bm 17 487)) (σ₁:=⟨[NP 5,NP 7,NP 8,NP 9,NP 10,NP 11,(13,NI (e2.Order.length:Int)),NP 14,NP 15,(24,NI r4.1),(26,NI r5.1),(27,NI r5.2),(28,NI s5.1),(177,NS q15 c.Knock),(178,NI s5.1),(184,.el (Pv.encI x3))],[(5,.box (q12 t2)),(7,.box (x23_1 b2)),(8,.box (q11 c)),(9,.box (q14 v_in)),(10,.box x23_0),(11,.box [NI 0,.t (.v (.slice none 0 0)),NI 0]),(14,.box (lset (q11 (⟨v5,(⟨s2.1⟩:SIntegral),[],(⟨false,false,0,0,[]⟩:SProbe),0,v9⟩:SControls)) [(4,.own 3544),(9,.t (.v (.slice none 0 0)))])),(15,.box [NI v10,.t (.v (.slice none 0 0)),NI 0]),(3544,.rs 95 3 s5.2 q15)]⟩) ?_ fun A_8=>?_
        ·refine TieA.all [3,9,14] (by kernel_rfl) rfl (AllA.cons _ rfl rfl ?_ A_4 ?_)
         ·exact TieO.indexH hx2 rfl rfl rfl rfl rfl rfl rfl rfl (fun _=>rfl) (.l 1 rfl (lf rfl rfl))
         exact AllA.runTo _ rfl rfl rfl (.of rfl rfl) A_9 (AllA.runTo _ rfl rfl rfl (.of rfl rfl) A_10 (AllA.nil))
        refine TieA.have_ (fuel₁:=11) (l₁:=(bm 17 231)) (σ₁:=⟨[NP 5,NP 7,NP 8,NP 9,NP 10,NP 11,(13,NI (e2.Order.length:Int)),NP 14,NP 15,(24,NI r4.1),(26,NI r5.1),(27,NI r5.2),(28,NI s5.1),(177,NS q15 c.Knock),(178,NI s5.1),(182,NL v_in.Intensity),(183,NI s5.1)],[(5,.box (q12 t2)),(7,.box (x23_1 b2)),(8,.box (q11 c)),(9,.box (q14 v_in)),(10,.box x23_0),(11,.box [NI 0,.t (.v (.slice none 0 0)),NI 0]),(14,.box (lset (q11 (⟨v5,(⟨s2.1⟩:SIntegral),[],(⟨false,false,0,0,[]⟩:SProbe),0,v9⟩:SControls)) [(4,.own 3544),(9,.t (.v (.slice none 0 0)))])),(15,.box [NI v10,.t (.v (.slice none 0 0)),NI 0]),(3544,.rs 95 3 s5.2 q15)]⟩) ?_ fun A_7=>?_
        ·refine TieA.all [3,8,14] (by kernel_rfl) rfl (AllA.cons _ rfl rfl ?_ A_3 ?_)
         ·exact TieO.indexH hx2 rfl rfl rfl rfl rfl rfl rfl rfl (fun _=>rfl) (.l 1 rfl (lf rfl rfl))
         refine AllA.cons _ rfl rfl ?_ A_8 ?_
         ·exact TieO.indexH hx3 rfl rfl rfl rfl rfl rfl rfl rfl (fun _=>rfl) (.l 1 rfl (lf rfl rfl))
         refine AllA.run _ rfl rfl rfl ?_ ?_
         ·refine TieA.all [3,8] (by kernel_rfl) rfl (AllA.cons _ rfl rfl ?_ A_6 ?_)
          ·exact TieO.indexH hx2 rfl rfl rfl rfl rfl rfl rfl rfl (fun _=>rfl) (.l 1 rfl (lf rfl rfl))
          refine AllA.cons _ rfl rfl ?_ A_10 ?_
          ·exact TieO.indexH hx3 rfl rfl rfl rfl rfl rfl rfl rfl (fun _=>rfl) (.l 1 rfl (lf rfl rfl))
          exact AllA.nil
         exact AllA.nil
        refine TieA.ga 13 [0,2,5,7] (by kernel_rfl) rfl (.all [1,6,14] (by kernel_rfl) rfl (AllA.run _ rfl rfl rfl ?_ ?_))
        ·refine TieA.all [3,6,14] (by kernel_rfl) rfl (AllA.cons (σ₁:=⟨[NP 5,NP 7,NP 8,NP 9,NP 10,NP 11,(13,NI (e2.Order.length:Int)),NP 14,NP 15,(24,NI r4.1),(26,NI r5.1),(27,NI r5.2),(28,NI s5.1),(179,.el (q15 x2)),(181,.ptr 9 8),(183,NI s5.1)],[(5,.box (q12 t2)),(7,.box (x23_1 b2)),(8,.box (q11 c)),(9,.box (q14 v_in)),(10,.box x23_0),(11,.box [NI 0,.t (.v (.slice none 0 0)),NI 0]),(14,.box (lset (q11 (⟨v5,(⟨s2.1⟩:SIntegral),[],(⟨false,false,0,0,[]⟩:SProbe),0,v9⟩:SControls)) [(4,.own 3544),(9,.t (.v (.slice none 0 0)))])),(15,.box [NI v10,.t (.v (.slice none 0 0)),NI 0]),(3544,.rs 95 3 s5.2 q15)]⟩) _ rfl rfl ?_ ?_ ?_)
         ·exact TieO.indexH hx2 rfl rfl rfl rfl rfl rfl rfl rfl (fun _=>rfl) (.l 1 rfl (lf rfl rfl))
         ·refine TieA.all [4,6,14] (by kernel_rfl) rfl (AllA.run _ rfl rfl rfl ?_ ?_)
          ·refine TieA.all [6,14] (by kernel_rfl) rfl (AllA.runTo _ rfl rfl rfl (.of rfl rfl) A_0 (AllA.run _ rfl rfl rfl ?_ ?_))
           ·exact TieA.ga 8 [6] (by kernel_rfl) rfl (.one 8 rfl (by kernel_rfl) (TieO.indexH hx3 rfl rfl rfl rfl rfl rfl rfl rfl (fun _=>rfl) (TieO.l 1 rfl ⟨rfl,rfl⟩)) (.ga 6 [9] (by kernel_rfl) rfl (.one 10 rfl (by kernel_rfl) (TieO.withH hr6 (TieO.k (q26 x2 x3) rfl (TieO.ifH (TieO.l 1 rfl ⟨rfl,rfl⟩)))) (.ga 2 [11,12,13] (by kernel_rfl) rfl (.oneR 15 rfl (by kernel_rfl) rfl (.done (.of rfl rfl)))))))
           exact AllA.nil
          refine AllA.runTo _ rfl rfl rfl (.of rfl rfl) A_3 (AllA.run _ rfl rfl rfl ?_ ?_)
          ·exact TieA.ga 8 [4,6] (by kernel_rfl) rfl (.one 8 rfl (by kernel_rfl) (TieO.indexH hx3 rfl rfl rfl rfl rfl rfl rfl rfl (fun _=>rfl) (TieO.l 1 rfl ⟨rfl,rfl⟩)) (.ga 6 [9] (by kernel_rfl) rfl (.one 10 rfl (by kernel_rfl) (TieO.withH hr6 (TieO.k (q26 x2 x3) rfl (TieO.ifH (TieO.l 1 rfl ⟨rfl,rfl⟩)))) (.ga 2 [11,12,13] (by kernel_rfl) rfl (.oneR 15 rfl (by kernel_rfl) rfl (.done (.of rfl rfl)))))))
          exact AllA.nil
         refine AllA.runTo _ rfl rfl rfl (.of rfl rfl) A_7 (AllA.run _ rfl rfl rfl ?_ ?_)
         ·refine TieA.ga 10 [6] (by kernel_rfl) rfl (.all [3,8] (by kernel_rfl) rfl (AllA.cons _ rfl rfl ?_ A_6 ?_))
          ·exact TieO.indexH hx2 rfl rfl rfl rfl rfl rfl rfl rfl (fun _=>rfl) (.l 1 rfl (lf rfl rfl))
          refine AllA.cons _ rfl rfl ?_ A_10 ?_
          ·exact TieO.indexH hx3 rfl rfl rfl rfl rfl rfl rfl rfl (fun _=>rfl) (.l 1 rfl (lf rfl rfl))
          exact AllA.nil
         exact AllA.nil
        refine AllA.run _ rfl rfl rfl ?_ ?_
        ·refine TieA.all [1,8,14] (by kernel_rfl) rfl (AllA.runTo _ rfl rfl rfl (.of rfl rfl) A_7 (AllA.cons (σ₁:=⟨[NP 5,NP 7,NP 8,NP 9,NP 10,NP 11,(13,NI (e2.Order.length:Int)),NP 14,NP 15,(24,NI r4.1),(26,NI r5.1),(27,NI r5.2),(28,NI s5.1),(176,.ptr 8 4),(178,NI s5.1),(184,.el (Pv.encI x3))],[(5,.box (q12 t2)),(7,.box (x23_1 b2)),(8,.box (q11 c)),(9,.box (q14 v_in)),(10,.box x23_0),(11,.box [NI 0,.t (.v (.slice none 0 0)),NI 0]),(14,.box (lset (q11 (⟨v5,(⟨s2.1⟩:SIntegral),[],(⟨false,false,0,0,[]⟩:SProbe),0,v9⟩:SControls)) [(4,.own 3544),(9,.t (.v (.slice none 0 0)))])),(15,.box [NI v10,.t (.v (.slice none 0 0)),NI 0]),(3544,.rs 95 3 s5.2 q15)]⟩) _ rfl rfl ?_ ?_ ?_))
         ·exact TieO.indexH hx3 rfl rfl rfl rfl rfl rfl rfl rfl (fun _=>rfl) (.l 1 rfl (lf rfl rfl))
         ·refine TieA.all [1,9,14] (by kernel_rfl) rfl (AllA.runTo _ rfl rfl rfl (.of rfl rfl) A_8 (AllA.run _ rfl rfl rfl ?_ ?_))
          ·refine TieA.all [1,14] (by kernel_rfl) rfl (AllA.runTo _ rfl rfl rfl (.of rfl rfl) A_9 (AllA.run _ rfl rfl rfl ?_ ?_))
           ·exact TieA.ga 8 [1] (by kernel_rfl) rfl (.one 3 rfl (by kernel_rfl) (TieO.indexH hx2 rfl rfl rfl rfl rfl rfl rfl rfl (fun _=>rfl) (TieO.l 1 rfl ⟨rfl,rfl⟩)) (.ga 6 [4] (by kernel_rfl) rfl (.one 10 rfl (by kernel_rfl) (TieO.withH hr6 (TieO.k (q26 x2 x3) rfl (TieO.ifH (TieO.l 1 rfl ⟨rfl,rfl⟩)))) (.ga 2 [11,12,13] (by kernel_rfl) rfl (.oneR 15 rfl (by kernel_rfl) rfl (.done (.of rfl rfl)))))))
           exact AllA.nil
          refine AllA.run _ rfl rfl rfl ?_ ?_
          ·exact TieA.ga 8 [1,9] (by kernel_rfl) rfl (.one 3 rfl (by kernel_rfl) (TieO.indexH hx2 rfl rfl rfl rfl rfl rfl rfl rfl (fun _=>rfl) (TieO.l 1 rfl ⟨rfl,rfl⟩)) (.ga 6 [4] (by kernel_rfl) rfl (.one 10 rfl (by kernel_rfl) (TieO.withH hr6 (TieO.k (q26 x2 x3) rfl (TieO.ifH (TieO.l 1 rfl ⟨rfl,rfl⟩)))) (.ga 2 [11,12,13] (by kernel_rfl) rfl (.oneR 15 rfl (by kernel_rfl) rfl (.done (.of rfl rfl)))))))
          exact AllA.nil
         refine AllA.run _ rfl rfl rfl ?_ ?_
         ·refine TieA.ga 10 [1] (by kernel_rfl) rfl (.all [3,8] (by kernel_rfl) rfl (AllA.cons _ rfl rfl ?_ A_6 ?_))
          ·exact TieO.indexH hx2 rfl rfl rfl rfl rfl rfl rfl rfl (fun _=>rfl) (.l 1 rfl (lf rfl rfl))
          refine AllA.cons _ rfl rfl ?_ A_10 ?_
          ·exact TieO.indexH hx3 rfl rfl rfl rfl rfl rfl rfl rfl (fun _=>rfl) (.l 1 rfl (lf rfl rfl))
          exact AllA.nil
         exact AllA.nil
        refine AllA.run _ rfl rfl rfl ?_ ?_
        ·refine TieA.ga 10 [1,6] (by kernel_rfl) rfl (.all [3,8] (by kernel_rfl) rfl (AllA.cons _ rfl rfl ?_ A_6 ?_))
         ·exact TieO.indexH hx2 rfl rfl rfl rfl rfl rfl rfl rfl (fun _=>rfl) (.l 1 rfl (lf rfl rfl))
         refine AllA.cons _ rfl rfl ?_ A_10 ?_
         ·exact TieO.indexH hx3 rfl rfl rfl rfl rfl rfl rfl rfl (fun _=>rfl) (.l 1 rfl (lf rfl rfl))
         exact AllA.nil
        exact AllA.nil
       exact TieO.l 2 rfl (lf rfl rfl)
      rintro f2 e σ' _ ⟨rfl,hs⟩
      exact TieX.sub hs (TieS.o 5 rfl (.appendY (id:=3544) (l:=s5.2) (r:=([f2]:List SKnock)) (tm':=[NP 5,NP 7,NP 8,NP 9,NP 10,NP 11,(13,NI (e2.Order.length:Int)),NP 14,NP 15,(24,NI r4.1),(26,NI r5.1),(27,NI r5.2),(28,NI s5.1),NP 29,(189,.ptr 14 4),(191,.agg [NI f2.Retard,NI f2.Noise,NI f2.Quiet]),(192,.own 192)]) (hp':=[(5,.box (q12 t2)),(7,.box (x23_1 b2)),(8,.box (q11 c)),(9,.box (q14 v_in)),(10,.box x23_0),(11,.box [NI 0,.t (.v (.slice none 0 0)),NI 0]),(14,.box (lset (q11 (⟨v5,(⟨s2.1⟩:SIntegral),[],(⟨false,false,0,0,[]⟩:SProbe),0,v9⟩:SControls)) [(4,.any),(9,.t (.v (.slice none 0 0)))])),(15,.box [NI v10,.t (.v (.slice none 0 0)),NI 0]),(29,.box [NI f2.Retard,NI f2.Noise,NI f2.Quiet]),(192,.rs 95 3 ([f2]:List SKnock) q15)]) rfl rfl rfl rfl rfl rfl rfl (fun _=>rfl) (fun _=>rfl) (.inl ⟨rfl,rfl⟩) (.inr ⟨_,rfl,rfl⟩) (.of rfl rfl) rfl rfl rfl fun l3=>.l 9 rfl (lf rfl rfl)))
     ·exact TieS.exitOut rfl ⟨(fun h=>by cases h),rfl,.of rfl rfl⟩
    rintro (s6 | r) e σ' _ hq
    ·obtain ⟨rfl,hs⟩:=hq
     refine TieX.exit rfl (TieX.sub hs ?_)
     refine TieS.o 9 rfl (.k (q601 c.Probe v_in.Lambda v_in.Speed r4.1) rfl fun r7=>.o 13 rfl (.k (q534 r7.1 v_in.Speed r4.1) rfl fun r8=>.o 9 rfl (.k (q600 r4.1 1000) rfl fun r9=>.o 21 rfl (.k (q594 b2 c.Film (minI 1048576 (w64 (Int.tdiv (w64 (r9.1 * r8.1)) 1000)))) rfl fun r10=>.o 14 rfl (.selOr (v:=(r5.1 == 0)) 3 237 (fun b=>⟨[NP 5,NP 7,NP 8,NP 9,NP 10,NP 11,(13,NI (e2.Order.length:Int)),NP 14,NP 15,(24,NI r4.1),(26,NI r5.1),(27,NI r5.2),(35,NI r10.1),(36,NI r10.2.1),(240,NB b)],[(5,.box (q12 t2)),(7,.box (x23_1 b2)),(8,.box (q11 c)),(9,.box (q14 v_in)),(10,.box x23_0),(11,.box [NI 0,.t (.v (.slice none 0 0)),NI 0]),(14,.box (lset (q11 (⟨v5,(⟨s2.1⟩:SIntegral),[],r7.1,0,v9⟩:SControls)) [(4,.own 3544)])),(15,.box [NI v10,.t (.v (.slice none 0 0)),NI 0]),(3544,.rs 95 3 s6.2 q15)]⟩) rfl ?_ ?_ ?_)))))
     ·exact TieO.l 4 rfl (lf rfl rfl)
     ·exact TieO.l 4 rfl (lf rfl rfl)
     refine TieO.s 1 rfl (.bind (Q₁:=fun t e σ'=>e = .normal ∧ Sub ⟨[NP 5,NP 9,NP 10,NP 11,(13,NI (e2.Order.length:Int)),NP 14,NP 15,(24,NI r4.1),(26,NI r5.1),(27,NI r5.2),(35,NI t.1),(36,NI t.2)],[(5,.box (q12 t2)),(9,.box (q14 v_in)),(10,.box x23_0),(11,.box [NI 0,.t (.v (.slice none 0 0)),NI 0]),(14,.box (lset (q11 (⟨v5,(⟨s2.1⟩:SIntegral),[],r7.1,0,v9⟩:SControls)) [(4,.own 3544)])),(15,.box [NI v10,.t (.v (.slice none 0 0)),NI 0]),(3544,.rs 95 3 s6.2 q15)]⟩ σ') ?_ ?_)
     ·refine TieS.cond rfl ?_ ?_
      ·exact TieS.o 8 rfl (.k (q419 b2 c.Film 0) rfl fun r11=>.l 6 rfl (lf rfl rfl))
      ·exact TieS.l 1 rfl (lf rfl rfl)
     rintro s7 e σ' _ ⟨rfl,hs⟩
     refine TieX.sub hs (TieS.o 12 rfl (.k (q591 t2 s7.1 v_in.Voltage) rfl fun r12=>.s 12 rfl (.bind (Q₁:=fun t e σ'=>e = .normal ∧ Sub ⟨[NP 5,NP 9,NP 10,NP 11,(13,NI (e2.Order.length:Int)),NP 14,NP 15,(24,NI r4.1),(26,NI r5.1),(27,NI r5.2),(38,NI t)],[(5,.box (q12 t2)),(9,.box (q14 v_in)),(10,.box x23_0),(11,.box [NI 0,.t (.v (.slice none 0 0)),NI 0]),(14,.box (lset (q11 (⟨v5,(⟨s2.1⟩:SIntegral),[],r7.1,s7.2,v9⟩:SControls)) [(4,.own 3544)])),(15,.box [NI v10,.t (.v (.slice none 0 0)),NI 0]),(3544,.rs 95 3 s6.2 q15)]⟩ σ') ?_ ?_)))
     ·refine TieS.cond rfl ?_ ?_
      ·exact TieS.o 2 rfl (.k (q134 r12.1 200 20000) rfl fun v11=>.l 2 rfl (lf rfl rfl))
      ·exact TieS.l 1 rfl (lf rfl rfl)
     rintro ticks e σ' _ ⟨rfl,hs⟩
     refine TieX.sub hs (TieS.o 5 rfl (.quo rfl rfl rfl rfl rfl rfl fun q=>.k (q134 q 4000 1000000) rfl fun v12=>.s 8 rfl (TieX.nilB 15 4480 79 7 [1] rfl rfl rfl rfl rfl (TieS.loop (fun t=>⟨[NP 5,NP 9,NP 10,NP 11,(13,NI (e2.Order.length:Int)),NP 14,NP 15,(24,NI r4.1),(26,NI r5.1),(27,NI r5.2),(38,NI ticks),(40,NI v12),(41,NI t.1)],[(5,.box (q12 t2)),(9,.box (q14 v_in)),(10,.box x23_0),(11,.box [NI 0,.t (.v (.slice none 0 0)),NI 0]),(14,.box (lset (q11 (⟨v5,(⟨s2.1⟩:SIntegral),[],r7.1,s7.2,v9⟩:SControls)) [(4,.own 3544)])),(15,.box [NI v10,.own 4480,NI 0]),(3544,.rs 95 3 s6.2 q15),(4480,.rs 79 7 t.2 q16)]⟩) (fun b e σ'=>match b with | .inl t=>e = .exit 4 ∧ Sub ⟨[NP 5,NP 9,NP 10,NP 11,(13,NI (e2.Order.length:Int)),NP 14,NP 15,(24,NI r4.1),(26,NI r5.1),(27,NI r5.2)],[(5,.box (q12 t2)),(9,.box (q14 v_in)),(10,.box x23_0),(11,.box [NI 0,.t (.v (.slice none 0 0)),NI 0]),(14,.box (lset (q11 (⟨v5,(⟨s2.1⟩:SIntegral),[],r7.1,s7.2,v9⟩:SControls)) [(4,.own 3544)])),(15,.box [NI v10,.own 4480,NI 0]),(3544,.rs 95 3 s6.2 q15),(4480,.rs 79 7 t.2 q16)]⟩ σ' | .inr t=>False) (.of rfl rfl) ?_ ?_))))
     ·intro s8
      refine TieS.s 7 rfl (.cond rfl ?_ ?_)
      ·refine TieS.s 12 rfl (TieX.pre fun x4 hx4=>TieX.pre fun v13 hv13=>TieS.dr 17 [NP 5,NP 9,NP 10,NP 11,(13,NI (e2.Order.length:Int)),NP 14,NP 15,(24,NI r4.1),(26,NI r5.1),(27,NI r5.2),(38,NI ticks),(40,NI v12),(41,NI s8.1),NP 42] [(5,.box (q12 t2)),(9,.box (q14 v_in)),(10,.box x23_0),(11,.box [NI 0,.t (.v (.slice none 0 0)),NI 0]),(14,.box (lset (q11 (⟨v5,(⟨s2.1⟩:SIntegral),[],r7.1,s7.2,v9⟩:SControls)) [(4,.own 3544)])),(15,.box [NI v10,.own 4480,NI 0]),(42,.box [NI (w64 (s8.1 + 1)),NI 0,NI 0,NI 5760,NI 0,NI 0,NI 0]),(3544,.rs 95 3 s6.2 q15),(4480,.rs 79 7 s8.2 q16)] mixed (.of rfl rfl) (.q rfl rfl rfl (.q rfl rfl rfl (.q rfl rfl rfl (.q rfl rfl rfl (.q rfl rfl rfl (.q rfl rfl rfl (.q rfl rfl rfl (.q rfl rfl rfl (.q rfl rfl rfl (.cons (.indexO (sz:=3) hx4 rfl rfl rfl rfl rfl rfl rfl rfl) (.q rfl rfl rfl (.cons (.loadY hx4 rfl rfl rfl rfl rfl rfl) (.cons (.callV (q552 t2 v_in.Speed r4.1 v_in.Coolant x4.Retard) hv13 rfl rfl rfl rfl) (.q rfl rfl rfl (.q rfl rfl rfl (.q rfl rfl rfl (.q rfl rfl rfl (.nil)))))))))))))))))) rfl (.o 8 rfl (.k (q582 t2 v_in.Voltage v12) rfl fun v14=>.o 10 rfl (.k (q565 (e2.Order.length:Int) r5.1 0 s8.1) rfl fun v15=>.s 1 rfl (.bind (Q₁:=fun t e σ'=>e = .normal ∧ Sub ⟨[NP 5,NP 9,NP 10,NP 11,(13,NI (e2.Order.length:Int)),NP 14,NP 15,(24,NI r4.1),(26,NI r5.1),(27,NI r5.2),(38,NI ticks),(40,NI v12),(41,NI s8.1),NP 42],[(5,.box (q12 t2)),(9,.box (q14 v_in)),(10,.box x23_0),(11,.box [NI 0,.t (.v (.slice none 0 0)),NI 0]),(14,.box (lset (q11 (⟨v5,(⟨s2.1⟩:SIntegral),[],r7.1,s7.2,v9⟩:SControls)) [(4,.own 3544)])),(15,.box [NI v10,.own 4480,NI 0]),(42,.box [NI (w64 (s8.1 + 1)),NI (maxI (-1280) (w64 (v13 - r5.2))),NI (maxI 500 v14),NI 5760,NI t,NI 0,NI 0]),(3544,.rs 95 3 s6.2 q15),(4480,.rs 79 7 s8.2 q16)]⟩ σ') ?_ ?_)))))
       ·refine TieS.cond rfl ?_ ?_
        ·exact TieS.l 5 rfl (lf rfl rfl)
        ·exact TieS.l 1 rfl (lf rfl rfl)
       rintro f3 e σ' _ ⟨rfl,hs⟩
       exact TieX.sub hs (TieS.o 5 rfl (.appendY (id:=4480) (l:=s8.2) (r:=([(⟨w64 (s8.1 + 1),maxI (-1280) (w64 (v13 - r5.2)),maxI 500 v14,5760,f3,0,0⟩:SFire)]:List SFire)) (tm':=[NP 5,NP 9,NP 10,NP 11,(13,NI (e2.Order.length:Int)),NP 14,NP 15,(24,NI r4.1),(26,NI r5.1),(27,NI r5.2),(38,NI ticks),(40,NI v12),(41,NI s8.1),NP 42,(306,.ptr 15 1),(308,.agg [NI (w64 (s8.1 + 1)),NI (maxI (-1280) (w64 (v13 - r5.2))),NI (maxI 500 v14),NI 5760,NI f3,NI 0,NI 0]),(309,.own 309)]) (hp':=[(5,.box (q12 t2)),(9,.box (q14 v_in)),(10,.box x23_0),(11,.box [NI 0,.t (.v (.slice none 0 0)),NI 0]),(14,.box (lset (q11 (⟨v5,(⟨s2.1⟩:SIntegral),[],r7.1,s7.2,v9⟩:SControls)) [(4,.own 3544)])),(15,.box [NI v10,.any,NI 0]),(42,.box [NI (w64 (s8.1 + 1)),NI (maxI (-1280) (w64 (v13 - r5.2))),NI (maxI 500 v14),NI 5760,NI f3,NI 0,NI 0]),(309,.rs 79 7 ([(⟨w64 (s8.1 + 1),maxI (-1280) (w64 (v13 - r5.2)),maxI 500 v14,5760,f3,0,0⟩:SFire)]:List SFire) q16),(3544,.rs 95 3 s6.2 q15)]) rfl rfl rfl rfl rfl rfl rfl (fun _=>rfl) (fun _=>rfl) (.inl ⟨rfl,rfl⟩) (.inr ⟨_,rfl,rfl⟩) (.of rfl rfl) rfl rfl rfl fun l4=>.l 9 rfl (lf rfl rfl)))
      ·exact TieS.exitOut rfl ⟨(fun h=>by cases h),rfl,.of rfl rfl⟩
     rintro (s9 | r) e σ' _ hq
     ·obtain ⟨rfl,hs⟩:=hq
      refine TieX.exit rfl (TieX.sub hs ?_)
      refine TieS.o 9 rfl (.k (q214 t2 v_in.Speed r4.1 r5.2 r5.1 (e2.Order.length:Int)) rfl fun v16=>.s 4 rfl (.bind (Q₁:=nrm fun t=>⟨[NP 10,NP 11,(12,NI t.1)],[(10,.box (lset (q11 t.2.1) [(4,.own 3544)])),(11,.box [NI t.2.2.Throttle,.own 4480,NI t.2.2.Torque]),(3544,.rs 95 3 t.2.1.Knock q15),(4480,.rs 79 7 t.2.2.Fires q16)]⟩) ?_ ?_))
      ·refine TieS.draws 3 (bm 5 0) (bm 5 7) ⟨[NP 10,NP 11,(322,.agg [NI v10,.own 4480,NI v16])],[(5,.box (q12 t2)),(9,.box (q14 v_in)),(10,.box (lset (q11 (⟨v5,(⟨s2.1⟩:SIntegral),[],r7.1,s7.2,v9⟩:SControls)) [(4,.own 3544)])),(11,.box [NI 0,.t (.v (.slice none 0 0)),NI 0]),(14,.box (lset (q11 (⟨v5,(⟨s2.1⟩:SIntegral),[],r7.1,s7.2,v9⟩:SControls)) [(4,.own 3544)])),(15,.box [NI v10,.own 4480,NI v16]),(3544,.rs 95 3 s6.2 q15),(4480,.rs 79 7 s9.2 q16)]⟩ mixed (fun _ _ _ h=>by cases h.1) rfl rfl rfl rfl ?_ ?_
       ·refine TieA.ga 4 [0] (by kernel_rfl) rfl (.all [1,2] (by kernel_rfl) rfl (AllA.run _ rfl rfl rfl ?_ ?_))
        ·exact TieA.oneR 2 rfl (by kernel_rfl) rfl (.done (.of rfl rfl))
        refine AllA.run _ rfl rfl rfl ?_ ?_
        ·exact TieA.ga 2 [1] (by kernel_rfl) rfl (.done (.of rfl rfl))
        exact AllA.nil
       exact TieO.l 3 rfl (lf rfl rfl)
      rintro s10 e σ' _ ⟨rfl,hs⟩
      exact TieX.sub hs (TieS.ret (rt rfl))
     ·exact hq.elim
    ·exact hq.elim
   ·exact hq.elim
abbrev x24_0 (b2:SOutputs):List T:=[NI b2.Throttle,NS q16 b2.Fires,NI b2.Torque]
abbrev x24_1 (a:SOutputs):List T:=[NI a.Throttle,NS q16 a.Fires,NI a.Torque]
theorem q456 (a:SOutputs) (b2:SOutputs):TieF Tryz.prog 24 [q497 a,q497 b2] (q74 a b2) (fun r=>NB r):=by
 refine TieF.i htab 45 [.tmp 4] Tryz.call24 Tryz.func24 rfl rfl rfl rfl fun w0 L=>?_
 refine TieS.o 15 rfl (.selOr (v:=(a.Torque != b2.Torque)) 6 11 (fun b=>⟨[NP 2,NP 3,(17,NB b)],[(2,.box (x24_1 a)),(3,.box (x24_0 b2))]⟩) rfl ?_ ?_ ?_)
 ·exact TieO.l 7 rfl (lf rfl rfl)
 ·exact TieO.l 7 rfl (lf rfl rfl)
 refine TieO.o 1 rfl (.selOr (v:=((a.Fires.length:Int) != (b2.Fires.length:Int))) 8 18 (fun b=>⟨[NP 2,NP 3,(26,NB b)],[(2,.box (x24_1 a)),(3,.box (x24_0 b2))]⟩) rfl ?_ ?_ ?_)
 ·exact TieO.l 9 rfl (lf rfl rfl)
 ·exact TieO.l 9 rfl (lf rfl rfl)
 refine TieO.s 1 rfl (.cond rfl ?_ ?_)
 ·exact TieS.r 4 rfl (rt rfl)
 ·refine TieS.s 7 rfl (.loop (fun t=>⟨[NP 2,NP 3,(5,NI t)],[(2,.box (x24_1 a)),(3,.box (x24_0 b2))]⟩) (fun b e σ'=>match b with | .inl t=>e = .exit 0 ∧ Sub ⟨[],[]⟩ σ' | .inr t=>e = .ret ∧ retT tab σ' [.tmp 4] = some (((fun r=>NB r):Bool → T) t)) (.of rfl rfl) ?_ ?_)
  ·intro i
   refine TieS.s 9 rfl (.cond rfl ?_ ?_)
   ·refine TieS.s 4 rfl (TieX.pre fun x hx=>TieX.pre fun x2 hx2=>TieS.dr 11 [NP 2,NP 3,(5,NI i)] [(2,.box (x24_1 a)),(3,.box (x24_0 b2))] mixed (.of rfl rfl) (.q rfl rfl rfl (.q rfl rfl rfl (.q rfl rfl rfl (.cons (.index hx rfl rfl rfl rfl rfl rfl (fun _=>rfl)) (.q rfl rfl rfl (.q rfl rfl rfl (.q rfl rfl rfl (.q rfl rfl rfl (.cons (.index hx2 rfl rfl rfl rfl rfl rfl (fun _=>rfl)) (.q rfl rfl rfl (.cons (.neS [.int .i64 x.Cylinder,.int .i64 x.Spark,.int .i64 x.Dwell,.int .i64 x.End,.int .i64 x.Inject,.int .i64 x.Gap,.int .i64 x.Extra] [.int .i64 x2.Cylinder,.int .i64 x2.Spark,.int .i64 x2.Dwell,.int .i64 x2.End,.int .i64 x2.Inject,.int .i64 x2.Gap,.int .i64 x2.Extra] (eqv_79 x.Cylinder x.Spark x.Dwell x.End x.Inject x.Gap x.Extra x2.Cylinder x2.Spark x2.Dwell x2.End x2.Inject x2.Gap x2.Extra) rfl rfl rfl rfl) (.nil)))))))))))) rfl (.s 1 rfl (.cond rfl ?_ ?_)))
    ·exact TieS.r 4 rfl ⟨(fun h=>by cases h),rfl,rfl⟩
    ·exact TieS.l 7 rfl (lf rfl rfl)
   ·exact TieS.exitOut rfl ⟨(fun h=>by cases h),rfl,.of rfl rfl⟩
  rintro (i2 | r2) e σ' _ hq
  ·obtain ⟨rfl,hs⟩:=hq
   refine TieX.exit rfl (TieX.sub hs ?_)
   exact TieS.r 4 rfl (rt rfl)
  ·obtain ⟨rfl,hs⟩:=hq
   exact TieX.ret ⟨.inl rfl,hs⟩
theorem q441 (t2:STables) (e2:SEngine) (b2:SBody) (c:SControls) (v_in:SInputs):TieF Tryz.prog 4 [q20 t2,q190 e2,A_SBody b2,q77 c,q308 v_in] (q106 t2 e2 b2 c v_in) (fun r=>NB r):=by
 refine TieF.i htab 62 [.tmp 10] Tryz.call4 Tryz.func4 rfl rfl rfl rfl fun w0 L=>?_
 refine TieS.o 12 rfl (.k (q578) rfl fun v=>.s 2 rfl (.cond rfl ?_ ?_))
 ·exact TieS.r 4 rfl (rt rfl)
 ·refine TieS.o 5 rfl (.k (q606 t2) rfl fun v2=>.o 2 rfl (.bind 6 (fun b3=>⟨[NP 5,NP 6,NP 7,NP 8,NP 9,(28,NB b3)],[(5,.box (q12 t2)),(6,.box [NL e2.Order,NI e2.First]),(7,.box [NI b2.Inertia,NI b2.Friction,NI b2.Volume,NI b2.Throttle,NI b2.Film,NI b2.Evaporate,NI b2.Delay]),(8,.box (q11 c)),(9,.box (q14 v_in))]⟩) (TieO.split 22 rfl ?_ ?_) fun b3 _=>?_))
  ·exact TieO.l 7 rfl (lf rfl rfl)
  ·exact TieO.o 3 rfl (.k (q569 e2 c v_in) rfl fun v3=>.l 3 rfl (lf rfl rfl))
  refine TieO.s 1 rfl (.cond rfl ?_ ?_)
  ·exact TieS.r 4 rfl (rt rfl)
  ·refine TieS.o 8 rfl (.k (q687 t2 e2 b2 c v_in) rfl fun r2=>.o 17 rfl (.k (q585 t2 e2 b2 c v_in) rfl fun r3=>.o 14 rfl (.k (q604 (u11_5 (u11_3 (u11_1 (u11_0 r2.1 (⟨r2.1.Pedal.Value,r2.1.Pedal.Differ,r2.1.Pedal.Fault⟩:SPedal)) (⟨r2.1.Idle.Sum⟩:SIntegral)) (⟨r2.1.Probe.Active,r2.1.Probe.Rich,r2.1.Probe.Factor,r2.1.Probe.Wait,r2.1.Probe.Cells⟩:SProbe)) (⟨r2.1.Grant.Torque,r2.1.Grant.Source⟩:SGrant)) (u11_5 (u11_3 (u11_1 (u11_0 r3.1 (⟨r3.1.Pedal.Value,r3.1.Pedal.Differ,r3.1.Pedal.Fault⟩:SPedal)) (⟨r3.1.Idle.Sum⟩:SIntegral)) (⟨r3.1.Probe.Active,r3.1.Probe.Rich,r3.1.Probe.Factor,r3.1.Probe.Wait,r3.1.Probe.Cells⟩:SProbe)) (⟨r3.1.Grant.Torque,r3.1.Grant.Source⟩:SGrant))) rfl fun v4=>.o 1 rfl (.bind 4 (fun b4=>⟨[(13,NI r2.2.2),(16,NI r3.2.2),(56,NB b4)],[]⟩) (TieO.split 52 rfl ?_ ?_) fun b4 _=>?_))))
   ·exact TieO.o 2 rfl (.k (q456 r2.2.1 r3.2.1) rfl fun v5=>.l 2 rfl (lf rfl rfl))
   ·exact TieO.l 5 rfl (lf rfl rfl)
   refine TieO.o 1 rfl (.selAnd (v:=(r2.2.2 == r3.2.2)) 4 57 (fun b=>⟨[(61,NB b)],[]⟩) rfl ?_ ?_ ?_)
   ·exact TieO.l 5 rfl (lf rfl rfl)
   ·exact TieO.l 5 rfl (lf rfl rfl)
   exact TieO.r 2 rfl (rt rfl)
end Go.Proofs.YtalanclpiojanaaGreat
namespace Go.Pv
open Go
structure wf_SMap (x : SMap) : Prop where
  X : (wfL (fun n => (Lit.int .i64 n).wf = true)) x.X
  Y : (wfL (fun n => (Lit.int .i64 n).wf = true)) x.Y
  Z : (wfL (wfL (fun n => (Lit.int .i64 n).wf = true))) x.Z
structure wf_SCurve (x : SCurve) : Prop where
  X : (wfL (fun n => (Lit.int .i64 n).wf = true)) x.X
  Y : (wfL (fun n => (Lit.int .i64 n).wf = true)) x.Y
structure wf_SGain (x : SGain) : Prop where
  P : (fun n => (Lit.int .i64 n).wf = true) x.P
  I : (fun n => (Lit.int .i64 n).wf = true) x.I
  Low : (fun n => (Lit.int .i64 n).wf = true) x.Low
  High : (fun n => (Lit.int .i64 n).wf = true) x.High
structure wf_STables (x : STables) : Prop where
  Air : wf_SMap x.Air
  Spark : wf_SMap x.Spark
  Torque : wf_SMap x.Torque
  Wish : wf_SMap x.Wish
  AirTemp : wf_SCurve x.AirTemp
  Dwell : wf_SCurve x.Dwell
  Dead : wf_SCurve x.Dead
  Efficiency : wf_SCurve x.Efficiency
  Idle : wf_SGain x.Idle
structure wf_SEngine (x : SEngine) : Prop where
  Order : (wfL (fun n => (Lit.int .i64 n).wf = true)) x.Order
  First : (fun n => (Lit.int .i64 n).wf = true) x.First
structure wf_SBody (x : SBody) : Prop where
  Inertia : (fun n => (Lit.int .i64 n).wf = true) x.Inertia
  Friction : (fun n => (Lit.int .i64 n).wf = true) x.Friction
  Volume : (fun n => (Lit.int .i64 n).wf = true) x.Volume
  Throttle : (fun n => (Lit.int .i64 n).wf = true) x.Throttle
  Film : (fun n => (Lit.int .i64 n).wf = true) x.Film
  Evaporate : (fun n => (Lit.int .i64 n).wf = true) x.Evaporate
  Delay : (fun n => (Lit.int .i64 n).wf = true) x.Delay
structure wf_SPedal (x : SPedal) : Prop where
  Value : (fun n => (Lit.int .i64 n).wf = true) x.Value
  Differ : (fun n => (Lit.int .i64 n).wf = true) x.Differ
  Fault : (fun _ => True) x.Fault
structure wf_SIntegral (x : SIntegral) : Prop where
  Sum : (fun n => (Lit.int .i64 n).wf = true) x.Sum
structure wf_SKnock (x : SKnock) : Prop where
  Retard : (fun n => (Lit.int .i64 n).wf = true) x.Retard
  Noise : (fun n => (Lit.int .i64 n).wf = true) x.Noise
  Quiet : (fun n => (Lit.int .i64 n).wf = true) x.Quiet
structure wf_SCell (x : SCell) : Prop where
  Value : (fun n => (Lit.int .i64 n).wf = true) x.Value
  Count : (fun n => (Lit.int .i64 n).wf = true) x.Count
structure wf_SProbe (x : SProbe) : Prop where
  Active : (fun _ => True) x.Active
  Rich : (fun _ => True) x.Rich
  Factor : (fun n => (Lit.int .i64 n).wf = true) x.Factor
  Wait : (fun n => (Lit.int .i64 n).wf = true) x.Wait
  Cells : (wfL wf_SCell) x.Cells
structure wf_SGrant (x : SGrant) : Prop where
  Torque : (fun n => (Lit.int .i64 n).wf = true) x.Torque
  Source : (fun n => (Lit.int .i64 n).wf = true) x.Source
structure wf_SControls (x : SControls) : Prop where
  Pedal : wf_SPedal x.Pedal
  Idle : wf_SIntegral x.Idle
  Knock : (wfL wf_SKnock) x.Knock
  Probe : wf_SProbe x.Probe
  Film : (fun n => (Lit.int .i64 n).wf = true) x.Film
  Grant : wf_SGrant x.Grant
structure wf_SRequest (x : SRequest) : Prop where
  Source : (fun n => (Lit.int .i64 n).wf = true) x.Source
  Kind : (fun n => (Lit.int .i64 n).wf = true) x.Kind
  Torque : (fun n => (Lit.int .i64 n).wf = true) x.Torque
  Priority : (fun n => (Lit.int .i64 n).wf = true) x.Priority
structure wf_SInputs (x : SInputs) : Prop where
  Pedal1 : (fun n => (Lit.int .i64 n).wf = true) x.Pedal1
  Pedal2 : (fun n => (Lit.int .i64 n).wf = true) x.Pedal2
  Speed : (fun n => (Lit.int .i64 n).wf = true) x.Speed
  Pressure : (fun n => (Lit.int .i64 n).wf = true) x.Pressure
  AirTemp : (fun n => (Lit.int .i64 n).wf = true) x.AirTemp
  Voltage : (fun n => (Lit.int .i64 n).wf = true) x.Voltage
  Lambda : (fun n => (Lit.int .i64 n).wf = true) x.Lambda
  Coolant : (fun n => (Lit.int .i64 n).wf = true) x.Coolant
  Intensity : (wfL (fun n => (Lit.int .i64 n).wf = true)) x.Intensity
  Requests : (wfL wf_SRequest) x.Requests
end Go.Pv
namespace Go.Proofs.YtalanclpiojanaaGreat
open Go Go.Pv Go.Proofs
theorem reads_3 : Reads Tryz.prog 3 Pv.encI (fun n => (Lit.int .i64 n).wf = true) := reads_int Tryz.underlying3 (fun _ => rfl)
theorem reads_22 : Reads Tryz.prog 22 (Pv.encS Pv.encI) (wfL (fun n => (Lit.int .i64 n).wf = true)) := reads_slice (sz := 1) Tryz.underlying22 reads_3 (by kernel_rfl) (by decide) (fun _ => rfl)
theorem reads_23 : Reads Tryz.prog 23 (Pv.encS (Pv.encS Pv.encI)) (wfL (wfL (fun n => (Lit.int .i64 n).wf = true))) := reads_slice (sz := 1) Tryz.underlying23 reads_22 (by kernel_rfl) (by decide) (fun _ => rfl)
theorem reads_25 : Reads Tryz.prog 25 q114 wf_SMap := by
  intro H e w fuel cs x h
  obtain ⟨xs, n, _, rfl, hl, hlen, hf⟩ := DataW.trod_struct Tryz.underlying25 h
  obtain ⟨y0, w0, r0⟩ := field_of hlen hf 0 rfl reads_22
  obtain ⟨y1, w1, r1⟩ := field_of hlen hf 1 rfl reads_22
  obtain ⟨y2, w2, r2⟩ := field_of hlen hf 2 rfl reads_23
  exact ⟨⟨y0, y1, y2⟩, ⟨w0, w1, w2⟩, rtl_cons (o := 0) (o' := 1) r0 (by kernel_rfl) (rtl_cons (o := 1) (o' := 2) r1 (by kernel_rfl) (rtl_cons (o := 2) (o' := 3) r2 (by kernel_rfl) (rtl_nil (hl.trans (by kernel_rfl)))))⟩
theorem reads_27 : Reads Tryz.prog 27 q93 wf_SCurve := by
  intro H e w fuel cs x h
  obtain ⟨xs, n, _, rfl, hl, hlen, hf⟩ := DataW.trod_struct Tryz.underlying27 h
  obtain ⟨y0, w0, r0⟩ := field_of hlen hf 0 rfl reads_22
  obtain ⟨y1, w1, r1⟩ := field_of hlen hf 1 rfl reads_22
  exact ⟨⟨y0, y1⟩, ⟨w0, w1⟩, rtl_cons (o := 0) (o' := 1) r0 (by kernel_rfl) (rtl_cons (o := 1) (o' := 2) r1 (by kernel_rfl) (rtl_nil (hl.trans (by kernel_rfl))))⟩
theorem reads_29 : Reads Tryz.prog 29 q828 wf_SGain := by
  intro H e w fuel cs x h
  obtain ⟨xs, n, _, rfl, hl, hlen, hf⟩ := DataW.trod_struct Tryz.underlying29 h
  obtain ⟨y0, w0, r0⟩ := field_of hlen hf 0 rfl reads_3
  obtain ⟨y1, w1, r1⟩ := field_of hlen hf 1 rfl reads_3
  obtain ⟨y2, w2, r2⟩ := field_of hlen hf 2 rfl reads_3
  obtain ⟨y3, w3, r3⟩ := field_of hlen hf 3 rfl reads_3
  exact ⟨⟨y0, y1, y2, y3⟩, ⟨w0, w1, w2, w3⟩, rtl_cons (o := 0) (o' := 1) r0 (by kernel_rfl) (rtl_cons (o := 1) (o' := 2) r1 (by kernel_rfl) (rtl_cons (o := 2) (o' := 3) r2 (by kernel_rfl) (rtl_cons (o := 3) (o' := 4) r3 (by kernel_rfl) (rtl_nil (hl.trans (by kernel_rfl))))))⟩
theorem reads_31 : Reads Tryz.prog 31 q39 wf_STables := by
  intro H e w fuel cs x h
  obtain ⟨xs, n, _, rfl, hl, hlen, hf⟩ := DataW.trod_struct Tryz.underlying31 h
  obtain ⟨y0, w0, r0⟩ := field_of hlen hf 0 rfl reads_25
  obtain ⟨y1, w1, r1⟩ := field_of hlen hf 1 rfl reads_25
  obtain ⟨y2, w2, r2⟩ := field_of hlen hf 2 rfl reads_25
  obtain ⟨y3, w3, r3⟩ := field_of hlen hf 3 rfl reads_25
  obtain ⟨y4, w4, r4⟩ := field_of hlen hf 4 rfl reads_27
  obtain ⟨y5, w5, r5⟩ := field_of hlen hf 5 rfl reads_27
  obtain ⟨y6, w6, r6⟩ := field_of hlen hf 6 rfl reads_27
  obtain ⟨y7, w7, r7⟩ := field_of hlen hf 7 rfl reads_27
  obtain ⟨y8, w8, r8⟩ := field_of hlen hf 8 rfl reads_29
  exact ⟨⟨y0, y1, y2, y3, y4, y5, y6, y7, y8⟩, ⟨w0, w1, w2, w3, w4, w5, w6, w7, w8⟩, rtl_cons (o := 0) (o' := 3) r0 (by kernel_rfl) (rtl_cons (o := 3) (o' := 6) r1 (by kernel_rfl) (rtl_cons (o := 6) (o' := 9) r2 (by kernel_rfl) (rtl_cons (o := 9) (o' := 12) r3 (by kernel_rfl) (rtl_cons (o := 12) (o' := 14) r4 (by kernel_rfl) (rtl_cons (o := 14) (o' := 16) r5 (by kernel_rfl) (rtl_cons (o := 16) (o' := 18) r6 (by kernel_rfl) (rtl_cons (o := 18) (o' := 20) r7 (by kernel_rfl) (rtl_cons (o := 20) (o' := 24) r8 (by kernel_rfl) (rtl_nil (hl.trans (by kernel_rfl)))))))))))⟩
theorem arg_31 : ArgOk Tryz.prog 31 (fun x => q20 x) wf_STables := arg_struct Tryz.underlying31 reads_31 (fun _ => rfl)
theorem reads_33 : Reads Tryz.prog 33 q792 wf_SEngine := by
  intro H e w fuel cs x h
  obtain ⟨xs, n, _, rfl, hl, hlen, hf⟩ := DataW.trod_struct Tryz.underlying33 h
  obtain ⟨y0, w0, r0⟩ := field_of hlen hf 0 rfl reads_22
  obtain ⟨y1, w1, r1⟩ := field_of hlen hf 1 rfl reads_3
  exact ⟨⟨y0, y1⟩, ⟨w0, w1⟩, rtl_cons (o := 0) (o' := 1) r0 (by kernel_rfl) (rtl_cons (o := 1) (o' := 2) r1 (by kernel_rfl) (rtl_nil (hl.trans (by kernel_rfl))))⟩
theorem arg_33 : ArgOk Tryz.prog 33 (fun x => q190 x) wf_SEngine := arg_struct Tryz.underlying33 reads_33 (fun _ => rfl)
theorem reads_62 : Reads Tryz.prog 62 q223 wf_SBody := by
  intro H e w fuel cs x h
  obtain ⟨xs, n, _, rfl, hl, hlen, hf⟩ := DataW.trod_struct Tryz.underlying62 h
  obtain ⟨y0, w0, r0⟩ := field_of hlen hf 0 rfl reads_3
  obtain ⟨y1, w1, r1⟩ := field_of hlen hf 1 rfl reads_3
  obtain ⟨y2, w2, r2⟩ := field_of hlen hf 2 rfl reads_3
  obtain ⟨y3, w3, r3⟩ := field_of hlen hf 3 rfl reads_3
  obtain ⟨y4, w4, r4⟩ := field_of hlen hf 4 rfl reads_3
  obtain ⟨y5, w5, r5⟩ := field_of hlen hf 5 rfl reads_3
  obtain ⟨y6, w6, r6⟩ := field_of hlen hf 6 rfl reads_3
  exact ⟨⟨y0, y1, y2, y3, y4, y5, y6⟩, ⟨w0, w1, w2, w3, w4, w5, w6⟩, rtl_cons (o := 0) (o' := 1) r0 (by kernel_rfl) (rtl_cons (o := 1) (o' := 2) r1 (by kernel_rfl) (rtl_cons (o := 2) (o' := 3) r2 (by kernel_rfl) (rtl_cons (o := 3) (o' := 4) r3 (by kernel_rfl) (rtl_cons (o := 4) (o' := 5) r4 (by kernel_rfl) (rtl_cons (o := 5) (o' := 6) r5 (by kernel_rfl) (rtl_cons (o := 6) (o' := 7) r6 (by kernel_rfl) (rtl_nil (hl.trans (by kernel_rfl)))))))))⟩
theorem arg_62 : ArgOk Tryz.prog 62 (fun x => A_SBody x) wf_SBody := arg_struct Tryz.underlying62 reads_62 (fun _ => rfl)
theorem reads_4 : Reads Tryz.prog 4 Pv.encB (fun _ => True) := reads_bool Tryz.underlying4 (fun _ => rfl)
theorem reads_35 : Reads Tryz.prog 35 q797 wf_SPedal := by
  intro H e w fuel cs x h
  obtain ⟨xs, n, _, rfl, hl, hlen, hf⟩ := DataW.trod_struct Tryz.underlying35 h
  obtain ⟨y0, w0, r0⟩ := field_of hlen hf 0 rfl reads_3
  obtain ⟨y1, w1, r1⟩ := field_of hlen hf 1 rfl reads_3
  obtain ⟨y2, w2, r2⟩ := field_of hlen hf 2 rfl reads_4
  exact ⟨⟨y0, y1, y2⟩, ⟨w0, w1, w2⟩, rtl_cons (o := 0) (o' := 1) r0 (by kernel_rfl) (rtl_cons (o := 1) (o' := 2) r1 (by kernel_rfl) (rtl_cons (o := 2) (o' := 3) r2 (by kernel_rfl) (rtl_nil (hl.trans (by kernel_rfl)))))⟩
theorem reads_37 : Reads Tryz.prog 37 q758 wf_SIntegral := by
  intro H e w fuel cs x h
  obtain ⟨xs, n, _, rfl, hl, hlen, hf⟩ := DataW.trod_struct Tryz.underlying37 h
  obtain ⟨y0, w0, r0⟩ := field_of hlen hf 0 rfl reads_3
  exact ⟨⟨y0⟩, ⟨w0⟩, rtl_cons (o := 0) (o' := 1) r0 (by kernel_rfl) (rtl_nil (hl.trans (by kernel_rfl)))⟩
theorem reads_95 : Reads Tryz.prog 95 q15 wf_SKnock := by
  intro H e w fuel cs x h
  obtain ⟨xs, n, _, rfl, hl, hlen, hf⟩ := DataW.trod_struct Tryz.underlying95 h
  obtain ⟨y0, w0, r0⟩ := field_of hlen hf 0 rfl reads_3
  obtain ⟨y1, w1, r1⟩ := field_of hlen hf 1 rfl reads_3
  obtain ⟨y2, w2, r2⟩ := field_of hlen hf 2 rfl reads_3
  exact ⟨⟨y0, y1, y2⟩, ⟨w0, w1, w2⟩, rtl_cons (o := 0) (o' := 1) r0 (by kernel_rfl) (rtl_cons (o := 1) (o' := 2) r1 (by kernel_rfl) (rtl_cons (o := 2) (o' := 3) r2 (by kernel_rfl) (rtl_nil (hl.trans (by kernel_rfl)))))⟩
theorem reads_38 : Reads Tryz.prog 38 (Pv.encS q15) (wfL wf_SKnock) := reads_slice (sz := 3) Tryz.underlying38 reads_95 (by kernel_rfl) (by decide) (fun _ => rfl)
theorem reads_105 : Reads Tryz.prog 105 q18 wf_SCell := by
  intro H e w fuel cs x h
  obtain ⟨xs, n, _, rfl, hl, hlen, hf⟩ := DataW.trod_struct Tryz.underlying105 h
  obtain ⟨y0, w0, r0⟩ := field_of hlen hf 0 rfl reads_3
  obtain ⟨y1, w1, r1⟩ := field_of hlen hf 1 rfl reads_3
  exact ⟨⟨y0, y1⟩, ⟨w0, w1⟩, rtl_cons (o := 0) (o' := 1) r0 (by kernel_rfl) (rtl_cons (o := 1) (o' := 2) r1 (by kernel_rfl) (rtl_nil (hl.trans (by kernel_rfl))))⟩
theorem reads_39 : Reads Tryz.prog 39 (Pv.encS q18) (wfL wf_SCell) := reads_slice (sz := 2) Tryz.underlying39 reads_105 (by kernel_rfl) (by decide) (fun _ => rfl)
theorem reads_41 : Reads Tryz.prog 41 q806 wf_SProbe := by
  intro H e w fuel cs x h
  obtain ⟨xs, n, _, rfl, hl, hlen, hf⟩ := DataW.trod_struct Tryz.underlying41 h
  obtain ⟨y0, w0, r0⟩ := field_of hlen hf 0 rfl reads_4
  obtain ⟨y1, w1, r1⟩ := field_of hlen hf 1 rfl reads_4
  obtain ⟨y2, w2, r2⟩ := field_of hlen hf 2 rfl reads_3
  obtain ⟨y3, w3, r3⟩ := field_of hlen hf 3 rfl reads_3
  obtain ⟨y4, w4, r4⟩ := field_of hlen hf 4 rfl reads_39
  exact ⟨⟨y0, y1, y2, y3, y4⟩, ⟨w0, w1, w2, w3, w4⟩, rtl_cons (o := 0) (o' := 1) r0 (by kernel_rfl) (rtl_cons (o := 1) (o' := 2) r1 (by kernel_rfl) (rtl_cons (o := 2) (o' := 3) r2 (by kernel_rfl) (rtl_cons (o := 3) (o' := 4) r3 (by kernel_rfl) (rtl_cons (o := 4) (o' := 5) r4 (by kernel_rfl) (rtl_nil (hl.trans (by kernel_rfl)))))))⟩
theorem reads_43 : Reads Tryz.prog 43 q804 wf_SGrant := by
  intro H e w fuel cs x h
  obtain ⟨xs, n, _, rfl, hl, hlen, hf⟩ := DataW.trod_struct Tryz.underlying43 h
  obtain ⟨y0, w0, r0⟩ := field_of hlen hf 0 rfl reads_3
  obtain ⟨y1, w1, r1⟩ := field_of hlen hf 1 rfl reads_3
  exact ⟨⟨y0, y1⟩, ⟨w0, w1⟩, rtl_cons (o := 0) (o' := 1) r0 (by kernel_rfl) (rtl_cons (o := 1) (o' := 2) r1 (by kernel_rfl) (rtl_nil (hl.trans (by kernel_rfl))))⟩
theorem reads_45 : Reads Tryz.prog 45 q761 wf_SControls := by
  intro H e w fuel cs x h
  obtain ⟨xs, n, _, rfl, hl, hlen, hf⟩ := DataW.trod_struct Tryz.underlying45 h
  obtain ⟨y0, w0, r0⟩ := field_of hlen hf 0 rfl reads_35
  obtain ⟨y1, w1, r1⟩ := field_of hlen hf 1 rfl reads_37
  obtain ⟨y2, w2, r2⟩ := field_of hlen hf 2 rfl reads_38
  obtain ⟨y3, w3, r3⟩ := field_of hlen hf 3 rfl reads_41
  obtain ⟨y4, w4, r4⟩ := field_of hlen hf 4 rfl reads_3
  obtain ⟨y5, w5, r5⟩ := field_of hlen hf 5 rfl reads_43
  exact ⟨⟨y0, y1, y2, y3, y4, y5⟩, ⟨w0, w1, w2, w3, w4, w5⟩, rtl_cons (o := 0) (o' := 3) r0 (by kernel_rfl) (rtl_cons (o := 3) (o' := 4) r1 (by kernel_rfl) (rtl_cons (o := 4) (o' := 5) r2 (by kernel_rfl) (rtl_cons (o := 5) (o' := 10) r3 (by kernel_rfl) (rtl_cons (o := 10) (o' := 11) r4 (by kernel_rfl) (rtl_cons (o := 11) (o' := 13) r5 (by kernel_rfl) (rtl_nil (hl.trans (by kernel_rfl))))))))⟩
theorem arg_45 : ArgOk Tryz.prog 45 (fun x => q77 x) wf_SControls := arg_struct Tryz.underlying45 reads_45 (fun _ => rfl)
theorem reads_73 : Reads Tryz.prog 73 q10 wf_SRequest := by
  intro H e w fuel cs x h
  obtain ⟨xs, n, _, rfl, hl, hlen, hf⟩ := DataW.trod_struct Tryz.underlying73 h
  obtain ⟨y0, w0, r0⟩ := field_of hlen hf 0 rfl reads_3
  obtain ⟨y1, w1, r1⟩ := field_of hlen hf 1 rfl reads_3
  obtain ⟨y2, w2, r2⟩ := field_of hlen hf 2 rfl reads_3
  obtain ⟨y3, w3, r3⟩ := field_of hlen hf 3 rfl reads_3
  exact ⟨⟨y0, y1, y2, y3⟩, ⟨w0, w1, w2, w3⟩, rtl_cons (o := 0) (o' := 1) r0 (by kernel_rfl) (rtl_cons (o := 1) (o' := 2) r1 (by kernel_rfl) (rtl_cons (o := 2) (o' := 3) r2 (by kernel_rfl) (rtl_cons (o := 3) (o' := 4) r3 (by kernel_rfl) (rtl_nil (hl.trans (by kernel_rfl))))))⟩
theorem reads_46 : Reads Tryz.prog 46 (Pv.encS q10) (wfL wf_SRequest) := reads_slice (sz := 4) Tryz.underlying46 reads_73 (by kernel_rfl) (by decide) (fun _ => rfl)
theorem reads_48 : Reads Tryz.prog 48 q794 wf_SInputs := by
  intro H e w fuel cs x h
  obtain ⟨xs, n, _, rfl, hl, hlen, hf⟩ := DataW.trod_struct Tryz.underlying48 h
  obtain ⟨y0, w0, r0⟩ := field_of hlen hf 0 rfl reads_3
  obtain ⟨y1, w1, r1⟩ := field_of hlen hf 1 rfl reads_3
  obtain ⟨y2, w2, r2⟩ := field_of hlen hf 2 rfl reads_3
  obtain ⟨y3, w3, r3⟩ := field_of hlen hf 3 rfl reads_3
  obtain ⟨y4, w4, r4⟩ := field_of hlen hf 4 rfl reads_3
  obtain ⟨y5, w5, r5⟩ := field_of hlen hf 5 rfl reads_3
  obtain ⟨y6, w6, r6⟩ := field_of hlen hf 6 rfl reads_3
  obtain ⟨y7, w7, r7⟩ := field_of hlen hf 7 rfl reads_3
  obtain ⟨y8, w8, r8⟩ := field_of hlen hf 8 rfl reads_22
  obtain ⟨y9, w9, r9⟩ := field_of hlen hf 9 rfl reads_46
  exact ⟨⟨y0, y1, y2, y3, y4, y5, y6, y7, y8, y9⟩, ⟨w0, w1, w2, w3, w4, w5, w6, w7, w8, w9⟩, rtl_cons (o := 0) (o' := 1) r0 (by kernel_rfl) (rtl_cons (o := 1) (o' := 2) r1 (by kernel_rfl) (rtl_cons (o := 2) (o' := 3) r2 (by kernel_rfl) (rtl_cons (o := 3) (o' := 4) r3 (by kernel_rfl) (rtl_cons (o := 4) (o' := 5) r4 (by kernel_rfl) (rtl_cons (o := 5) (o' := 6) r5 (by kernel_rfl) (rtl_cons (o := 6) (o' := 7) r6 (by kernel_rfl) (rtl_cons (o := 7) (o' := 8) r7 (by kernel_rfl) (rtl_cons (o := 8) (o' := 9) r8 (by kernel_rfl) (rtl_cons (o := 9) (o' := 10) r9 (by kernel_rfl) (rtl_nil (hl.trans (by kernel_rfl))))))))))))⟩
theorem arg_48 : ArgOk Tryz.prog 48 (fun x => q308 x) wf_SInputs := arg_struct Tryz.underlying48 reads_48 (fun _ => rfl)
end Go.Proofs.YtalanclpiojanaaGreat
namespace Go.Pv
open Go.RowKit
theorem stepsN_inv {S R:Type} (f:Int → S → Option (Fl S R)) (I:Nat → S → Prop):∀ (k i:Nat) (s:S),I i s → (∀ j,i ≤ j → j < i + k → ∀ s,I j s → ∃ s',f (j:Int) s = some (.next s') ∧ I (j + 1) s') → ∃ s',stepsN f k (i:Int) s = some (.inl s') ∧ I (i + k) s'
 | 0,i,s,h,_=>⟨s,rfl,h⟩
 | k + 1,i,s,h,st=>by
  obtain ⟨s1,h1,h2⟩:=st i (Nat.le_refl _) (by omega) s h
  obtain ⟨s2,h3,h4⟩:=stepsN_inv f I k (i + 1) s1 h2 (fun j a b=>st j (by omega) (by omega))
  refine ⟨s2,?_,by rw [show i + (k + 1) = i + 1 + k by omega]; exact h4⟩
  simp only [stepsN,h1,Option.bind_some]
  exact h3
theorem rangeN_inv {S R:Type} (n:Nat) (hn:n ≤ 9223372036854775807) (f:Int → S → Option (Fl S R)) (I:Nat → S → Prop) (s:S) (h:I 0 s) (st:∀ j,j < n → ∀ s,I j s → ∃ s',f (j:Int) s = some (.next s') ∧ I (j + 1) s'):∃ s',rangeN (n:Int) f s = some (.inl s') ∧ I n s':=by
 obtain ⟨s',h1,h2⟩:=stepsN_inv f I n 0 s h (fun j _ b=>st j (by omega))
 refine ⟨s',?_,by simpa using h2⟩
 rw [rangeN_steps _ hn]
 exact h1
theorem loopM_inv {S B:Type} {mb:S → Option (S ⊕ B)} (I:Nat → S → Prop) (J:B → Prop):∀ (n k:Nat) (s:S),I k s → (∀ j,k ≤ j → j < k + n → ∀ s,I j s → ∃ s',mb s = some (.inl s') ∧ I (j + 1) s') → (∀ s,I (k + n) s → ∃ b,mb s = some (.inr b) ∧ J b) → ∃ b,loopM mb s = some b ∧ J b
 | 0,k,s,h,_,e=>by
  obtain ⟨b,h1,h2⟩:=e s h
  exact ⟨b,loopM_out h1,h2⟩
 | n + 1,k,s,h,st,e=>by
  obtain ⟨s',h1,h2⟩:=st k (Nat.le_refl _) (by omega) s h
  rw [loopM_next h1]
  exact loopM_inv I J n (k + 1) s' h2 (fun j a b=>st j (by omega) (by omega)) (by rw [show k + 1 + n = k + (n + 1) by omega]; exact e)
theorem setM_nat {α:Type} (l:List α) (i:Nat) (y:α) (h:i < l.length):setM l (i:Int) y = some (l.set i y):=by
 unfold setM; rw [if_pos ⟨by omega,by omega⟩]; rfl
theorem getI_get {α:Type} (l:List α) (i:Nat) (h:i < l.length):getI l (i:Int) = some l[i]:=by rw [getI_nat,List.getElem?_eq_getElem h]
theorem makeM_nat {α:Type} (n:Nat) (h:n ≤ 1073741824) (z:α):makeM (n:Int) z = some (List.replicate n z):=by
 unfold makeM; rw [if_pos ⟨by omega,by omega⟩]; rfl
theorem appendM_ok {α:Type} (l r:List α) (h:l.length + r.length ≤ 1073741824):appendM l r = some (l ++ r):=by
 unfold appendM; rw [if_pos h]
end Go.Pv
set_option linter.unusedSimpArgs false
namespace Go.Pv
open Go
noncomputable def g_insertionSortCmpFunc_b2 {α:Type} (a:Int) (cmp:α → α → Option Int) (s2:Int × List α):Option ((Int × List α) ⊕ ((Int × List α) ⊕ Empty)):=
 Option.bind (bif (decide (s2.1 > a)) then (Option.bind (getI s2.2 s2.1) fun x=>Option.bind (getI s2.2 (w64 (s2.1 - 1))) fun x2=>Option.bind (cmp x x2) fun v=>some (decide (v < 0))) else (some false)) fun (v2:Bool)=>bif v2 then (Option.bind (Option.bind (getI s2.2 (w64 (s2.1 - 1))) fun x3=>Option.bind (getI s2.2 s2.1) fun x4=>Option.bind (setM s2.2 s2.1 x3) fun l=>Option.bind (getI l (w64 (s2.1 - 1))) fun _=>Option.bind (setM l (w64 (s2.1 - 1)) x4) fun l2=>some l2) fun (f2:List α)=>some (.inl (w64 (s2.1 - 1),f2))) else (some (.inr (.inl (s2.1,s2.2))))
noncomputable def g_insertionSortCmpFunc_b1 {α:Type} (a:Int) (b2:Int) (cmp:α → α → Option Int) (s:Int × List α):Option ((Int × List α) ⊕ ((Int × List α) ⊕ Empty)):=
 bif (decide (s.1 < b2)) then (Option.bind (loopM (g_insertionSortCmpFunc_b2 a cmp) (s.1,s.2)) fun (t:(Int × List α) ⊕ Empty)=>match t with | .inl s3=>(some (.inl (w64 (s.1 + 1),s3.2))) | .inr r=>r.elim) else (some (.inr (.inl (s.1,s.2))))
noncomputable def g_insertionSortCmpFunc {α:Type} (data:List α) (a:Int) (b2:Int) (cmp:α → α → Option Int):Option (List α):=
 Option.bind (loopM (g_insertionSortCmpFunc_b1 a b2 cmp) (w64 (a + 1),data)) fun (t:(Int × List α) ⊕ Empty)=>match t with | .inl s4=>(some s4.2) | .inr r=>r.elim
noncomputable def g_swapRangeCmpFunc_b1 {α:Type} (a:Int) (b2:Int) (n2:Int) (s:Int × List α):Option ((Int × List α) ⊕ ((Int × List α) ⊕ Empty)):=
 bif (decide (s.1 < n2)) then (Option.bind (Option.bind (getI s.2 (w64 (b2 + s.1))) fun x=>Option.bind (getI s.2 (w64 (a + s.1))) fun x2=>Option.bind (setM s.2 (w64 (a + s.1)) x) fun l=>Option.bind (getI l (w64 (b2 + s.1))) fun _=>Option.bind (setM l (w64 (b2 + s.1)) x2) fun l2=>some l2) fun (f2:List α)=>some (.inl (w64 (s.1 + 1),f2))) else (some (.inr (.inl (s.1,s.2))))
noncomputable def g_swapRangeCmpFunc {α:Type} (data:List α) (a:Int) (b2:Int) (n2:Int) (_:α → α → Option Int):Option (List α):=
 Option.bind (loopM (g_swapRangeCmpFunc_b1 a b2 n2) (0,data)) fun (t:(Int × List α) ⊕ Empty)=>match t with | .inl s2=>(some s2.2) | .inr r=>r.elim
noncomputable def g_rotateCmpFunc_b1 {α:Type} (m2:Int) (cmp:α → α → Option Int) (s:Int × Int × List α):Option ((Int × Int × List α) ⊕ ((Int × Int × List α) ⊕ Empty)):=
 bif (s.1 != s.2.1) then (bif (decide (s.1 > s.2.1)) then (Option.bind (g_swapRangeCmpFunc s.2.2 (w64 (m2 - s.1)) m2 s.2.1 cmp) fun v=>some (.inl (w64 (s.1 - s.2.1),s.2.1,v))) else (Option.bind (g_swapRangeCmpFunc s.2.2 (w64 (m2 - s.1)) (w64 ((w64 (m2 + s.2.1)) - s.1)) s.1 cmp) fun v2=>some (.inl (s.1,w64 (s.2.1 - s.1),v2)))) else (some (.inr (.inl (s.1,s.2.1,s.2.2))))
noncomputable def g_rotateCmpFunc {α:Type} (data:List α) (a:Int) (m2:Int) (b2:Int) (cmp:α → α → Option Int):Option (List α):=
 Option.bind (loopM (g_rotateCmpFunc_b1 m2 cmp) (w64 (m2 - a),w64 (b2 - m2),data)) fun (t:(Int × Int × List α) ⊕ Empty)=>match t with | .inl s2=>(Option.bind (g_swapRangeCmpFunc s2.2.2 (w64 (m2 - s2.1)) m2 s2.1 cmp) fun v3=>some v3) | .inr r=>r.elim
noncomputable def g_symMergeCmpFunc_b1 {α:Type} (data:List α) (a:Int) (cmp:α → α → Option Int) (s:Int × Int):Option ((Int × Int) ⊕ ((Int × Int) ⊕ Empty)):=
 bif (decide (s.1 < s.2)) then (Option.bind (getI data (w64 (bitShr .u64 (IntKind.u64.wrap (w64 (s.1 + s.2))) 1))) fun x=>Option.bind (getI data a) fun x2=>Option.bind (cmp x x2) fun v=>bif (decide (v < 0)) then (some (.inl (w64 ((w64 (bitShr .u64 (IntKind.u64.wrap (w64 (s.1 + s.2))) 1)) + 1),s.2))) else (some (.inl (s.1,w64 (bitShr .u64 (IntKind.u64.wrap (w64 (s.1 + s.2))) 1))))) else (some (.inr (.inl (s.1,s.2))))
noncomputable def g_symMergeCmpFunc_b2 {α:Type} (s2:Int × Int) (s3:Int × List α):Option ((Int × List α) ⊕ ((Int × List α) ⊕ Empty)):=
 bif (decide (s3.1 < (w64 (s2.1 - 1)))) then (Option.bind (Option.bind (getI s3.2 (w64 (s3.1 + 1))) fun x3=>Option.bind (getI s3.2 s3.1) fun x4=>Option.bind (setM s3.2 s3.1 x3) fun l=>Option.bind (getI l (w64 (s3.1 + 1))) fun _=>Option.bind (setM l (w64 (s3.1 + 1)) x4) fun l2=>some l2) fun (f2:List α)=>some (.inl (w64 (s3.1 + 1),f2))) else (some (.inr (.inl (s3.1,s3.2))))
noncomputable def g_symMergeCmpFunc_b3 {α:Type} (data:List α) (m2:Int) (cmp:α → α → Option Int) (s5:Int × Int):Option ((Int × Int) ⊕ ((Int × Int) ⊕ Empty)):=
 bif (decide (s5.1 < s5.2)) then (Option.bind (getI data m2) fun x6=>Option.bind (getI data (w64 (bitShr .u64 (IntKind.u64.wrap (w64 (s5.1 + s5.2))) 1))) fun x7=>Option.bind (cmp x6 x7) fun v2=>bif (!(decide (v2 < 0))) then (some (.inl (w64 ((w64 (bitShr .u64 (IntKind.u64.wrap (w64 (s5.1 + s5.2))) 1)) + 1),s5.2))) else (some (.inl (s5.1,w64 (bitShr .u64 (IntKind.u64.wrap (w64 (s5.1 + s5.2))) 1))))) else (some (.inr (.inl (s5.1,s5.2))))
noncomputable def g_symMergeCmpFunc_b4 {α:Type} (s6:Int × Int) (s7:Int × List α):Option ((Int × List α) ⊕ ((Int × List α) ⊕ Empty)):=
 bif (decide (s7.1 > s6.1)) then (Option.bind (Option.bind (getI s7.2 (w64 (s7.1 - 1))) fun x8=>Option.bind (getI s7.2 s7.1) fun x9=>Option.bind (setM s7.2 s7.1 x8) fun l3=>Option.bind (getI l3 (w64 (s7.1 - 1))) fun _=>Option.bind (setM l3 (w64 (s7.1 - 1)) x9) fun l4=>some l4) fun (f3:List α)=>some (.inl (w64 (s7.1 - 1),f3))) else (some (.inr (.inl (s7.1,s7.2))))
noncomputable def g_symMergeCmpFunc_b5 {α:Type} (data:List α) (a:Int) (m2:Int) (b2:Int) (cmp:α → α → Option Int) (s10:Int × Int):Option ((Int × Int) ⊕ ((Int × Int) ⊕ Empty)):=
 bif (decide (s10.1 < s10.2)) then (Option.bind (getI data (w64 ((w64 ((w64 ((w64 (bitShr .u64 (IntKind.u64.wrap (w64 (a + b2))) 1)) + m2)) - 1)) - (w64 (bitShr .u64 (IntKind.u64.wrap (w64 (s10.1 + s10.2))) 1))))) fun x11=>Option.bind (getI data (w64 (bitShr .u64 (IntKind.u64.wrap (w64 (s10.1 + s10.2))) 1))) fun x12=>Option.bind (cmp x11 x12) fun v3=>bif (!(decide (v3 < 0))) then (some (.inl (w64 ((w64 (bitShr .u64 (IntKind.u64.wrap (w64 (s10.1 + s10.2))) 1)) + 1),s10.2))) else (some (.inl (s10.1,w64 (bitShr .u64 (IntKind.u64.wrap (w64 (s10.1 + s10.2))) 1))))) else (some (.inr (.inl (s10.1,s10.2))))
noncomputable def g_symMergeCmpFunc_s {α:Type} (rc:List α → Int → Int → Int → (α → α → Option Int) → Option (List α)) (data:List α) (a:Int) (m2:Int) (b2:Int) (cmp:α → α → Option Int):Option (List α):=
 bif ((w64 (m2 - a)) == 1) then (Option.bind (loopM (g_symMergeCmpFunc_b1 data a cmp) (m2,b2)) fun (t:(Int × Int) ⊕ Empty)=>match t with | .inl s2=>(Option.bind (loopM (g_symMergeCmpFunc_b2 s2) (a,data)) fun (t:(Int × List α) ⊕ Empty)=>match t with | .inl s4=>(some s4.2) | .inr r=>r.elim) | .inr r=>r.elim) else (bif ((w64 (b2 - m2)) == 1) then (Option.bind (loopM (g_symMergeCmpFunc_b3 data m2 cmp) (a,m2)) fun (t:(Int × Int) ⊕ Empty)=>match t with | .inl s6=>(Option.bind (loopM (g_symMergeCmpFunc_b4 s6) (m2,data)) fun (t:(Int × List α) ⊕ Empty)=>match t with | .inl s8=>(some s8.2) | .inr r=>r.elim) | .inr r=>r.elim) else (Option.bind (bif (decide (m2 > (w64 (bitShr .u64 (IntKind.u64.wrap (w64 (a + b2))) 1)))) then (some (w64 ((w64 ((w64 (bitShr .u64 (IntKind.u64.wrap (w64 (a + b2))) 1)) + m2)) - b2),w64 (bitShr .u64 (IntKind.u64.wrap (w64 (a + b2))) 1))) else (some (a,m2))) fun (s9:Int × Int)=>Option.bind (loopM (g_symMergeCmpFunc_b5 data a m2 b2 cmp) (s9.1,s9.2)) fun (t:(Int × Int) ⊕ Empty)=>match t with | .inl s11=>(Option.bind (bif ((decide (s11.1 < m2)) && (decide (m2 < (w64 ((w64 ((w64 (bitShr .u64 (IntKind.u64.wrap (w64 (a + b2))) 1)) + m2)) - s11.1))))) then (Option.bind (g_rotateCmpFunc data s11.1 m2 (w64 ((w64 ((w64 (bitShr .u64 (IntKind.u64.wrap (w64 (a + b2))) 1)) + m2)) - s11.1)) cmp) fun v4=>some v4) else (some data)) fun (f4:List α)=>Option.bind (bif ((decide (a < s11.1)) && (decide (s11.1 < (w64 (bitShr .u64 (IntKind.u64.wrap (w64 (a + b2))) 1))))) then (Option.bind (rc f4 a s11.1 (w64 (bitShr .u64 (IntKind.u64.wrap (w64 (a + b2))) 1)) cmp) fun v5=>some v5) else (some f4)) fun (f5:List α)=>bif ((decide ((w64 (bitShr .u64 (IntKind.u64.wrap (w64 (a + b2))) 1)) < (w64 ((w64 ((w64 (bitShr .u64 (IntKind.u64.wrap (w64 (a + b2))) 1)) + m2)) - s11.1)))) && (decide ((w64 ((w64 ((w64 (bitShr .u64 (IntKind.u64.wrap (w64 (a + b2))) 1)) + m2)) - s11.1)) < b2))) then (Option.bind (rc f5 (w64 (bitShr .u64 (IntKind.u64.wrap (w64 (a + b2))) 1)) (w64 ((w64 ((w64 (bitShr .u64 (IntKind.u64.wrap (w64 (a + b2))) 1)) + m2)) - s11.1)) b2 cmp) fun v6=>some v6) else (some f5)) | .inr r=>r.elim))
noncomputable def g_symMergeCmpFunc {α:Type}:Nat → List α → Int → Int → Int → (α → α → Option Int) → Option (List α)
 | 0=>fun _ _ _ _ _=>none
 | fu + 1=>g_symMergeCmpFunc_s (g_symMergeCmpFunc fu)
noncomputable def g_stableCmpFunc_b1 {α:Type} (n2:Int) (cmp:α → α → Option Int) (s:Int × Int × List α):Option ((Int × Int × List α) ⊕ ((Int × Int × List α) ⊕ Empty)):=
 bif (decide (s.2.1 ≤ n2)) then (Option.bind (g_insertionSortCmpFunc s.2.2 s.1 s.2.1 cmp) fun v=>some (.inl (s.2.1,w64 (s.2.1 + 20),v))) else (some (.inr (.inl (s.1,s.2.1,s.2.2))))
noncomputable def g_stableCmpFunc_b3 {α:Type} (n2:Int) (cmp:α → α → Option Int) (s3:Int × List α) (s4:Int × Int × List α):Option ((Int × Int × List α) ⊕ ((Int × Int × List α) ⊕ Empty)):=
 bif (decide (s4.2.1 ≤ n2)) then (Option.bind (g_symMergeCmpFunc 64 s4.2.2 s4.1 (w64 (s4.1 + s3.1)) s4.2.1 cmp) fun v3=>some (.inl (s4.2.1,w64 (s4.2.1 + (w64 (2 * s3.1))),v3))) else (some (.inr (.inl (s4.1,s4.2.1,s4.2.2))))
noncomputable def g_stableCmpFunc_b2 {α:Type} (n2:Int) (cmp:α → α → Option Int) (s3:Int × List α):Option ((Int × List α) ⊕ ((Int × List α) ⊕ Empty)):=
 bif (decide (s3.1 < n2)) then (Option.bind (loopM (g_stableCmpFunc_b3 n2 cmp s3) (0,w64 (2 * s3.1),s3.2)) fun (t:(Int × Int × List α) ⊕ Empty)=>match t with | .inl s5=>(bif (decide ((w64 (s5.1 + s3.1)) < n2)) then (Option.bind (g_symMergeCmpFunc 64 s5.2.2 s5.1 (w64 (s5.1 + s3.1)) n2 cmp) fun v4=>some (.inl (w64 (s3.1 * 2),v4))) else (some (.inl (w64 (s3.1 * 2),s5.2.2)))) | .inr r=>r.elim) else (some (.inr (.inl (s3.1,s3.2))))
noncomputable def g_stableCmpFunc {α:Type} (data:List α) (n2:Int) (cmp:α → α → Option Int):Option (List α):=
 Option.bind (loopM (g_stableCmpFunc_b1 n2 cmp) (0,20,data)) fun (t:(Int × Int × List α) ⊕ Empty)=>match t with | .inl s2=>(Option.bind (g_insertionSortCmpFunc s2.2.2 s2.1 n2 cmp) fun v2=>Option.bind (loopM (g_stableCmpFunc_b2 n2 cmp) (20,v2)) fun (t:(Int × List α) ⊕ Empty)=>match t with | .inl s6=>(some s6.2) | .inr r=>r.elim) | .inr r=>r.elim
noncomputable def g_SortStableFunc {α:Type} (x:List α) (cmp:α → α → Option Int):Option (List α):=
 Option.bind (g_stableCmpFunc x (x.length:Int) cmp) fun v=>some v
section
variable {α β:Type}
theorem getI_mid (P:List α) (x:α) (R:List α) {i:Int} (h:i = (P.length:Int)):getI (P ++ x :: R) i = some x:=by
 subst h; rw [getI_nat,List.getElem?_append_right (Nat.le_refl _),Nat.sub_self]; rfl
theorem setM_mid (P:List α) (x y:α) (R:List α) {i:Int} (h:i = (P.length:Int)):setM (P ++ x :: R) i y = some (P ++ y :: R):=by
 subst h; rw [setM_nat _ _ _ (by simp),List.set_append_right _ _ (Nat.le_refl _),Nat.sub_self]; rfl
theorem swap2 (P:List α) (x:α) (M:List α) (y:α) (Q:List α) {i j:Int} (hi:i = (P.length:Int)) (hj:j = (P.length:Int) + 1 + (M.length:Int)) (k:List α → Option β) :
  (Option.bind (Option.bind (getI (P ++ x :: (M ++ y :: Q)) j) fun u=>Option.bind (getI (P ++ x :: (M ++ y :: Q)) i) fun v=>Option.bind (setM (P ++ x :: (M ++ y :: Q)) i u) fun l=>Option.bind (getI l j) fun _=>Option.bind (setM l j v) fun l2=>some l2) k) = k (P ++ y :: (M ++ x :: Q)):=by
 have e:∀ z w:α,P ++ z :: (M ++ w :: Q) = (P ++ z :: M) ++ w :: Q:=fun z w=>by simp
 have hj2:∀ z:α,j = ((P ++ z :: M).length:Int):=fun z=>by rw [List.length_append,List.length_cons]; omega
 have g1:getI (P ++ x :: (M ++ y :: Q)) j = some y:=by rw [e]; exact getI_mid _ _ _ (hj2 x)
 have g3:getI (P ++ y :: (M ++ y :: Q)) j = some y:=by rw [e]; exact getI_mid _ _ _ (hj2 y)
 have s2:setM (P ++ y :: (M ++ y :: Q)) j x = some (P ++ y :: (M ++ x :: Q)):=by rw [e,e]; exact setM_mid _ _ _ _ (hj2 y)
 rw [g1,Option.bind_some,getI_mid _ _ _ hi,Option.bind_some,setM_mid _ _ _ _ hi,Option.bind_some,g3,Option.bind_some,s2]
 rfl
theorem swap3 (P:List α) (x y:α) (Q:List α) {i j:Int} (hi:i = (P.length:Int)) (hj:j = (P.length:Int) + 1) (k:List α → Option β) :
  (Option.bind (Option.bind (getI (P ++ x :: y :: Q) i) fun u=>Option.bind (getI (P ++ x :: y :: Q) j) fun v=>Option.bind (setM (P ++ x :: y :: Q) j u) fun l=>Option.bind (getI l i) fun _=>Option.bind (setM l i v) fun l2=>some l2) k) = k (P ++ y :: x :: Q):=by
 have e:∀ z w:α,P ++ z :: w :: Q = (P ++ [z]) ++ w :: Q:=fun z w=>by simp
 have hj2:∀ z:α,j = ((P ++ [z]).length:Int):=fun z=>by rw [List.length_append,List.length_singleton]; omega
 have g1:getI (P ++ x :: y :: Q) j = some y:=by rw [e]; exact getI_mid _ _ _ (hj2 x)
 have s1:setM (P ++ x :: y :: Q) j x = some (P ++ x :: x :: Q):=by rw [e,e]; exact setM_mid _ _ _ _ (hj2 x)
 rw [getI_mid _ _ _ hi,Option.bind_some,g1,Option.bind_some,s1,Option.bind_some,getI_mid _ _ _ hi,Option.bind_some,setM_mid _ _ _ _ hi]
 rfl
theorem swr_loop (n a b:Int):∀ (X Y P M Q:List α) (i:Int),X.length = Y.length → a + i = (P.length:Int) → b + i = (P.length:Int) + (X.length:Int) + (M.length:Int) → n = i + (X.length:Int) → 0 ≤ i → 0 ≤ a → 0 ≤ b → P.length + X.length + M.length + Y.length ≤ 1073741824 →
  loopM (g_swapRangeCmpFunc_b1 a b n) (i,P ++ (X ++ (M ++ (Y ++ Q)))) = some (.inl (n,P ++ (Y ++ (M ++ (X ++ Q)))))
 | [],Y,P,M,Q,i,hl,_,_,hn,_,_,_,_=>by
  have:Y = []:=List.length_eq_zero_iff.1 hl.symm
  subst this
  refine loopM_out ?_
  unfold g_swapRangeCmpFunc_b1
  simp only [List.length_nil] at hn
  rw [show decide (i < n) = false from decide_eq_false (by omega)]
  have:i = n:=by omega
  subst this
  rfl
 | x :: X,[],P,M,Q,i,hl,_,_,_,_,_,_,_=>by simp at hl
 | x :: X,y :: Y,P,M,Q,i,hl,ha,hb,hn,h0,ha0,hb0,hN=>by
  simp only [List.length_cons] at hl hb hn hN
  have e1:P ++ (x :: X ++ (M ++ (y :: Y ++ Q))) = P ++ x :: ((X ++ M) ++ y :: (Y ++ Q)):=by simp
  have e2:P ++ y :: ((X ++ M) ++ x :: (Y ++ Q)) = (P ++ [y]) ++ (X ++ ((M ++ [x]) ++ (Y ++ Q))):=by simp
  have e3:P ++ (y :: Y ++ (M ++ (x :: X ++ Q))) = (P ++ [y]) ++ (Y ++ ((M ++ [x]) ++ (X ++ Q))):=by simp
  rw [e1,e3,← swr_loop n a b X Y (P ++ [y]) (M ++ [x]) Q (i + 1) (by omega) (by rw [List.length_append,List.length_singleton]; omega) (by simp only [List.length_append,List.length_singleton]; omega) (by omega) (by omega) ha0 hb0 (by rw [List.length_append,List.length_append]; simp only [List.length_singleton]; omega),← e2]
  refine loopM_next ?_
  unfold g_swapRangeCmpFunc_b1
  simp only
  rw [show decide (i < n) = true from decide_eq_true (by omega),w64_of (n:=b + i) (by omega) (by omega),w64_of (n:=a + i) (by omega) (by omega),w64_of (n:=i + 1) (by omega) (by omega)]
  simp only [cond_true]
  rw [swap2 P x (X ++ M) y (Y ++ Q) ha (by rw [List.length_append]; omega)]
theorem swapRange_eq (cmp:α → α → Option Int) (P X M Y Q:List α) {a b n:Int} (hl:X.length = Y.length) (ha:a = (P.length:Int)) (hb:b = (P.length:Int) + (X.length:Int) + (M.length:Int)) (hn:n = (X.length:Int)) (hN:P.length + X.length + M.length + Y.length ≤ 1073741824) :
  g_swapRangeCmpFunc (P ++ (X ++ (M ++ (Y ++ Q)))) a b n cmp = some (P ++ (Y ++ (M ++ (X ++ Q)))):=by
 unfold g_swapRangeCmpFunc
 rw [swr_loop n a b X Y P M Q 0 hl (by omega) (by omega) (by omega) (by omega) (by omega) (by omega) hN]
 rfl
theorem rot_loop (cmp:α → α → Option Int) (m:Int):∀ (k:Nat) (P X Y Q:List α),X.length + Y.length ≤ k → 0 < X.length → 0 < Y.length → m = (P.length:Int) + (X.length:Int) → P.length + X.length + Y.length + Q.length ≤ 1073741824 →
  ∃ P' X' Y' Q',loopM (g_rotateCmpFunc_b1 m cmp) ((X.length:Int),(Y.length:Int),P ++ (X ++ (Y ++ Q))) = some (.inl ((X'.length:Int),(Y'.length:Int),P' ++ (X' ++ (Y' ++ Q')))) ∧ X'.length = Y'.length ∧ m = (P'.length:Int) + (X'.length:Int) ∧ P' ++ (Y' ++ (X' ++ Q')) = P ++ (Y ++ (X ++ Q)) ∧ P'.length + X'.length + Y'.length + Q'.length = P.length + X.length + Y.length + Q.length
 | 0,P,X,Y,Q,hk,hx,_,_,_=>by omega
 | k + 1,P,X,Y,Q,hk,hx,hy,hm,hN=>by
  rcases Nat.lt_trichotomy X.length Y.length with h | h | h
  · -- the left one is shorter
   obtain ⟨Y1,Y2,rfl,h2⟩:∃ Y1 Y2,Y = Y1 ++ Y2 ∧ Y2.length = X.length:=⟨Y.take (Y.length - X.length),Y.drop (Y.length - X.length),by rw [List.take_append_drop],by rw [List.length_drop]; omega⟩
   rw [List.length_append] at hk h hy hN
   obtain ⟨P',X',Y',Q',r1,r2,r3,r4,r5⟩:=rot_loop cmp m k P Y2 Y1 (X ++ Q) (by omega) (by omega) (by omega) (by omega) (by rw [List.length_append]; omega)
   refine ⟨P',X',Y',Q',?_,r2,r3,?_,by rw [List.length_append] at *; omega⟩
   ·rw [← r1]
    refine loopM_next ?_
    unfold g_rotateCmpFunc_b1
    simp only [List.length_append]
    rw [show ((X.length:Int) != ((Y1.length + Y2.length:Nat):Int)) = true by simp; omega,show decide ((X.length:Int) > ((Y1.length + Y2.length:Nat):Int)) = false from decide_eq_false (by omega)]
    simp only [cond_true,cond_false]
    rw [w64_of (n:=m - (X.length:Int)) (by omega) (by omega),w64_of (n:=m + ((Y1.length + Y2.length:Nat):Int)) (by omega) (by omega),w64_of (n:=m + ((Y1.length + Y2.length:Nat):Int) - (X.length:Int)) (by omega) (by omega),w64_of (n:=((Y1.length + Y2.length:Nat):Int) - (X.length:Int)) (by omega) (by omega)]
    rw [show P ++ (X ++ (Y1 ++ Y2 ++ Q)) = P ++ (X ++ (Y1 ++ (Y2 ++ Q))) by simp,swapRange_eq cmp P X Y1 Y2 Q h2.symm (by omega) (by omega) rfl (by omega)]
    simp only [Option.bind_some]
    rw [show ((Y1.length + Y2.length:Nat):Int) - (X.length:Int) = (Y1.length:Int) by omega,h2]
   ·rw [r4]; simp
  ·refine ⟨P,X,Y,Q,?_,h,hm,rfl,rfl⟩
   refine loopM_out ?_
   unfold g_rotateCmpFunc_b1
   simp only
   rw [show ((X.length:Int) != (Y.length:Int)) = false by simp; omega]
   rfl
  ·obtain ⟨X1,X2,rfl,h2⟩:∃ X1 X2,X = X1 ++ X2 ∧ X1.length = Y.length:=⟨X.take Y.length,X.drop Y.length,by rw [List.take_append_drop],by rw [List.length_take]; omega⟩
   rw [List.length_append] at hk h hx hN hm
   obtain ⟨P',X',Y',Q',r1,r2,r3,r4,r5⟩:=rot_loop cmp m k (P ++ Y) X2 X1 Q (by omega) (by omega) (by omega) (by rw [List.length_append]; omega) (by rw [List.length_append]; omega)
   refine ⟨P',X',Y',Q',?_,r2,r3,?_,by rw [List.length_append] at *; omega⟩
   ·rw [← r1]
    refine loopM_next ?_
    unfold g_rotateCmpFunc_b1
    simp only [List.length_append]
    rw [show (((X1.length + X2.length:Nat):Int) != (Y.length:Int)) = true by simp; omega,show decide (((X1.length + X2.length:Nat):Int) > (Y.length:Int)) = true from decide_eq_true (by omega)]
    simp only [cond_true,cond_false]
    rw [w64_of (n:=m - ((X1.length + X2.length:Nat):Int)) (by omega) (by omega),w64_of (n:=((X1.length + X2.length:Nat):Int) - (Y.length:Int)) (by omega) (by omega)]
    rw [show P ++ (X1 ++ X2 ++ (Y ++ Q)) = P ++ (X1 ++ (X2 ++ (Y ++ Q))) by simp,swapRange_eq cmp P X1 X2 Y Q h2 (by omega) (by omega) (by omega) (by omega)]
    simp only [Option.bind_some]
    rw [show ((X1.length + X2.length:Nat):Int) - (Y.length:Int) = (X2.length:Int) by omega,h2]
    simp
   ·rw [r4]; simp
theorem rotate_eq (cmp:α → α → Option Int) (P X Y Q:List α) {a m b:Int} (hx:0 < X.length) (hy:0 < Y.length) (ha:a = (P.length:Int)) (hm:m = (P.length:Int) + (X.length:Int)) (hb:b = m + (Y.length:Int)) (hN:P.length + X.length + Y.length + Q.length ≤ 1073741824) :
  g_rotateCmpFunc (P ++ (X ++ (Y ++ Q))) a m b cmp = some (P ++ (Y ++ (X ++ Q))):=by
 unfold g_rotateCmpFunc
 rw [w64_of (n:=m - a) (by omega) (by omega),w64_of (n:=b - m) (by omega) (by omega),show m - a = (X.length:Int) by omega,show b - m = (Y.length:Int) by omega]
 obtain ⟨P',X',Y',Q',r1,r2,r3,r4,r5⟩:=rot_loop cmp m (X.length + Y.length) P X Y Q (Nat.le_refl _) hx hy hm hN
 rw [r1]
 simp only [Option.bind_some]
 rw [w64_of (n:=m - (X'.length:Int)) (by omega) (by omega)]
 have:=swapRange_eq cmp P' X' [] Y' Q' (a:=m - (X'.length:Int)) (b:=m) (n:=(X'.length:Int)) r2 (by omega) (by simp only [List.length_nil]; omega) rfl (by simp only [List.length_nil]; omega)
 simp only [List.nil_append] at this
 rw [this,Option.bind_some,r4]
end
section
variable {α:Type} {D:α → Prop} {g:α → α → Option Int}
structure SW (D:α → Prop) (g:α → α → Option Int):Prop where
 ans:∀ x y,D x → D y → ∃ c,g x y = some c
 asym:∀ x y,D x → D y → ltM g x y = true → ltM g y x = false
 ntrans:∀ x y z,D x → D y → D z → ltM g x y = false → ltM g y z = false → ltM g x z = false
theorem SW.cmp (h:SW D g) {x y:α} (hx:D x) (hy:D y):∃ c,g x y = some c ∧ decide (c < 0) = ltM g x y:=by
 obtain ⟨c,hc⟩:=h.ans x y hx hy
 exact ⟨c,hc,by unfold ltM; rw [hc]; rfl⟩
abbrev AllD (D:α → Prop) (l:List α):Prop:=∀ x ∈ l,D x
def eqv (g:α → α → Option Int) (x y:α):Bool:=!ltM g x y && !ltM g y x
structure Sta (D:α → Prop) (g:α → α → Option Int) (l r:List α):Prop where
 perm:r.Perm l
 same:∀ x,D x → r.filter (eqv g x) = l.filter (eqv g x)
abbrev Srt (g:α → α → Option Int) (l:List α):Prop:=l.Pairwise fun x y=>ltM g y x = false
theorem Sta.refl (l:List α):Sta D g l l:=⟨.refl _,fun _ _=>rfl⟩
theorem Sta.trans {l r s:List α} (h:Sta D g l r) (k:Sta D g r s):Sta D g l s:=⟨k.perm.trans h.perm,fun x hx=>(k.same x hx).trans (h.same x hx)⟩
theorem Sta.app {A A' B B':List α} (h:Sta D g A A') (k:Sta D g B B'):Sta D g (A ++ B) (A' ++ B'):=
 ⟨h.perm.append k.perm,fun x hx=>by rw [List.filter_append,List.filter_append,h.same x hx,k.same x hx]⟩
theorem Sta.len {l r:List α} (h:Sta D g l r):r.length = l.length:=h.perm.length_eq
theorem Sta.all {l r:List α} (h:Sta D g l r) (hl:AllD D l):AllD D r:=fun x hx=>hl x (h.perm.mem_iff.1 hx)
theorem Sta.swap (hs:SW D g) {A B:List α} (hA:AllD D A) (hB:AllD D B) (h:∀ a ∈ A,∀ b ∈ B,ltM g b a = true):Sta D g (A ++ B) (B ++ A):=by
 refine ⟨List.perm_append_comm,fun x hx=>?_⟩
 rw [List.filter_append,List.filter_append]
 by_cases he:∃ a ∈ A,eqv g x a = true
 ·obtain ⟨a,ha,hxa⟩:=he
  have:B.filter (eqv g x) = []:=by
   rw [List.filter_eq_nil_iff]
   intro b hb hxb
   unfold eqv at hxa hxb
   simp only [Bool.and_eq_true,Bool.not_eq_true'] at hxa hxb
   have:=hs.ntrans b x a (hB b hb) hx (hA a ha) hxb.2 hxa.1
   rw [h a ha b hb] at this
   cases this
  rw [this,List.nil_append,List.append_nil]
 ·have:A.filter (eqv g x) = []:=by
   rw [List.filter_eq_nil_iff]
   intro a ha hxa
   exact he ⟨a,ha,hxa⟩
  rw [this,List.nil_append,List.append_nil]
theorem Srt.app {A B:List α} (hA:Srt g A) (hB:Srt g B) (h:∀ a ∈ A,∀ b ∈ B,ltM g b a = false):Srt g (A ++ B):=List.pairwise_append.2 ⟨hA,hB,h⟩
theorem SW.irr (hs:SW D g) {x:α} (hx:D x):ltM g x x = false:=by
 cases h:ltM g x x
 ·rfl
 ·have:=hs.asym x x hx hx h; rw [h] at this; cases this
theorem ins_inner (hs:SW D g) (a:Int):∀ (n:Nat) (R1:List α),R1.length = n → ∀ (P:List α) (x:α) (R2 Q:List α),a = (P.length:Int) → AllD D R1 → D x → AllD D R2 → Srt g (R1 ++ R2) → (∀ r ∈ R2,ltM g x r = true) → P.length + R1.length ≤ 1073741824 →
  ∃ (j:Int) (R':List α),loopM (g_insertionSortCmpFunc_b2 a g) ((P.length:Int) + (R1.length:Int),P ++ (R1 ++ x :: (R2 ++ Q))) = some (.inl (j,P ++ (R' ++ Q))) ∧ Srt g R' ∧ Sta D g (R1 ++ x :: R2) R':=by
 intro n
 induction n with
 | zero=>
  intro R1 h1 P x R2 Q ha _ hx hR2 hsrt hlt hN
  have:R1 = []:=List.length_eq_zero_iff.1 h1
  subst this
  refine ⟨(P.length:Int) + ((0:Nat):Int),x :: R2,loopM_out ?_,?_,Sta.refl _⟩
  ·unfold g_insertionSortCmpFunc_b2
   simp only [List.length_nil]
   rw [show decide ((P.length:Int) + ((0:Nat):Int) > a) = false from decide_eq_false (by omega)]
   rfl
  ·rw [Srt,List.pairwise_cons]
   exact ⟨fun r hr=>hs.asym x r hx (hR2 r hr) (hlt r hr),by simpa using hsrt⟩
 | succ n ih=>
  intro R1 h1 P x R2 Q ha hR1 hx hR2 hsrt hlt hN
  have hne:R1 ≠ []:=by intro h; subst h; simp at h1
  obtain ⟨S,y,rfl⟩:∃ S y,R1 = S ++ [y]:=⟨R1.dropLast,R1.getLast hne,(List.dropLast_concat_getLast hne).symm⟩
  rw [List.length_append,List.length_singleton] at h1 hN
  have hy:D y:=hR1 y (by simp)
  have hS:AllD D S:=fun z hz=>hR1 z (by simp [hz])
  obtain ⟨c,hc,hcl⟩:=hs.cmp hx hy
  have e1:P ++ (S ++ [y] ++ x :: (R2 ++ Q)) = (P ++ S) ++ y :: x :: (R2 ++ Q):=by simp
  have e2:P ++ (S ++ [y] ++ x :: (R2 ++ Q)) = (P ++ S ++ [y]) ++ x :: (R2 ++ Q):=by simp
  have hj:(P.length:Int) + (((S ++ [y]).length:Nat):Int) = (P.length:Int) + (S.length:Int) + 1:=by rw [List.length_append,List.length_singleton]; omega
  have hb:g_insertionSortCmpFunc_b2 a g ((P.length:Int) + (((S ++ [y]).length:Nat):Int),P ++ (S ++ [y] ++ x :: (R2 ++ Q))) = some (bif ltM g x y then .inl ((P.length:Int) + (S.length:Int),P ++ (S ++ x :: (y :: R2 ++ Q))) else .inr (.inl ((P.length:Int) + (S.length:Int) + 1,P ++ (S ++ [y] ++ x :: (R2 ++ Q))))):=by
   unfold g_insertionSortCmpFunc_b2
   simp only
   rw [hj,w64_of (n:=(P.length:Int) + (S.length:Int) + 1 - 1) (by omega) (by omega),show (P.length:Int) + (S.length:Int) + 1 - 1 = (P.length:Int) + (S.length:Int) by omega]
   rw [show decide ((P.length:Int) + (S.length:Int) + 1 > a) = true from decide_eq_true (by omega)]
   have g1:getI (P ++ (S ++ [y] ++ x :: (R2 ++ Q))) ((P.length:Int) + (S.length:Int) + 1) = some x:=by rw [e2]; exact getI_mid _ _ _ (by simp only [List.length_append,List.length_singleton]; omega)
   have g2:getI (P ++ (S ++ [y] ++ x :: (R2 ++ Q))) ((P.length:Int) + (S.length:Int)) = some y:=by rw [e1]; exact getI_mid _ _ _ (by simp only [List.length_append]; omega)
   have sw:=swap3 (P ++ S) y x (R2 ++ Q) (i:=(P.length:Int) + (S.length:Int)) (j:=(P.length:Int) + (S.length:Int) + 1) (by simp only [List.length_append]; omega) (by simp only [List.length_append]; omega) (fun (f2:List α)=>some (Sum.inl ((P.length:Int) + (S.length:Int),f2):(Int × List α) ⊕ ((Int × List α) ⊕ Empty)))
   rw [← e1] at sw
   simp only [cond_true]
   rw [sw,g1,Option.bind_some,g2,Option.bind_some,hc,Option.bind_some,hcl,Option.bind_some]
   cases ltM g x y
   ·rfl
   ·simp
  cases hxy:ltM g x y
  ·rw [hxy] at hb
   refine ⟨(P.length:Int) + (S.length:Int) + 1,S ++ [y] ++ x :: R2,?_,?_,Sta.refl _⟩
   ·rw [loopM_out hb]; simp
   ·have h2:=List.pairwise_append.1 hsrt
    refine Srt.app h2.1 ?_ fun p hp q hq=>?_
    ·rw [Srt,List.pairwise_cons]
     exact ⟨fun r hr=>hs.asym x r hx (hR2 r hr) (hlt r hr),h2.2.1⟩
    ·rcases List.mem_cons.1 hq with rfl | hq
     ·rcases List.mem_append.1 hp with hp | hp
      ·have h3:=(List.pairwise_append.1 h2.1).2.2 p hp y (by simp)
       exact hs.ntrans q y p hx hy (hS p hp) hxy h3
      ·rw [List.mem_singleton] at hp; subst hp; exact hxy
     ·exact h2.2.2 p hp q hq
  ·rw [hxy] at hb
   rw [loopM_next hb]
   obtain ⟨j,R',r1,r2,r3⟩:=ih S (by omega) P x (y :: R2) Q ha hS hx (fun z hz=>by rcases List.mem_cons.1 hz with rfl | hz; exact hy; exact hR2 z hz) (by simpa using hsrt) (fun r hr=>by
    rcases List.mem_cons.1 hr with rfl | hr
    ·exact hxy
    ·exact hlt r hr) (by omega)
   refine ⟨j,R',r1,r2,Sta.trans ?_ r3⟩
   have h4:Sta D g ([y] ++ [x]) ([x] ++ [y]):=Sta.swap hs (fun z hz=>by simp at hz; subst hz; exact hy) (fun z hz=>by simp at hz; subst hz; exact hx) (fun p hp q hq=>by simp at hp hq; subst hp; subst hq; exact hxy)
   have h5:=Sta.app (Sta.refl (D:=D) (g:=g) S) (Sta.app h4 (Sta.refl R2))
   simpa using h5
theorem ins_outer (hs:SW D g) (a b:Int) (P Q:List α) (ha:a = (P.length:Int)):∀ (T R:List α),b = (P.length:Int) + (R.length:Int) + (T.length:Int) → AllD D R → AllD D T → Srt g R → P.length + R.length + T.length ≤ 1073741824 →
  ∃ R',loopM (g_insertionSortCmpFunc_b1 a b g) ((P.length:Int) + (R.length:Int),P ++ (R ++ (T ++ Q))) = some (.inl (b,P ++ (R' ++ Q))) ∧ Srt g R' ∧ Sta D g (R ++ T) R'
 | [],R,hb,_,_,hR,_=>by
  refine ⟨R,loopM_out ?_,hR,by rw [List.append_nil]; exact Sta.refl _⟩
  unfold g_insertionSortCmpFunc_b1
  simp only [List.length_nil] at hb
  simp only
  rw [show decide ((P.length:Int) + (R.length:Int) < b) = false from decide_eq_false (by omega),show (P.length:Int) + (R.length:Int) = b by omega]
  simp
 | x :: T,R,hb,dR,dT,hR,hN=>by
  simp only [List.length_cons] at hb hN
  obtain ⟨j,R1,r1,r2,r3⟩:=ins_inner hs a R.length R rfl P x [] (T ++ Q) ha dR (dT x (List.mem_cons_self ..)) (fun z hz=>by cases hz) (by rw [List.append_nil]; exact hR) (fun z hz=>by cases hz) (by omega)
  have hl:R1.length = R.length + 1:=by have:=r3.len; simpa using this
  obtain ⟨R',s1,s2,s3⟩:=ins_outer hs a b P Q ha T R1 (by omega) (r3.all (fun z hz=>by
   rcases List.mem_append.1 hz with hz | hz
   ·exact dR z hz
   ·simp at hz; subst hz; exact dT z (by simp))) (fun z hz=>dT z (by simp [hz])) r2 (by omega)
  refine ⟨R',?_,s2,Sta.trans ?_ s3⟩
  ·rw [← s1]
   refine loopM_next ?_
   unfold g_insertionSortCmpFunc_b1
   simp only
   rw [show decide ((P.length:Int) + (R.length:Int) < b) = true from decide_eq_true (by omega),w64_of (n:=(P.length:Int) + (R.length:Int) + 1) (by omega) (by omega)]
   simp only [cond_true]
   have e:P ++ (R ++ (x :: T ++ Q)) = P ++ (R ++ x :: ([] ++ (T ++ Q))):=by simp
   rw [e,r1]
   simp only [Option.bind_some]
   rw [hl,show (P.length:Int) + ((R.length + 1:Nat):Int) = (P.length:Int) + (R.length:Int) + 1 by omega]
  ·have:=Sta.app r3 (Sta.refl (D:=D) (g:=g) T)
   simpa using this
theorem insertion_eq (hs:SW D g) (P A Q:List α) {a b:Int} (ha:a = (P.length:Int)) (hb:b = (P.length:Int) + (A.length:Int)) (dA:AllD D A) (hN:P.length + A.length ≤ 1073741824) :
  ∃ R,g_insertionSortCmpFunc (P ++ (A ++ Q)) a b g = some (P ++ (R ++ Q)) ∧ Srt g R ∧ Sta D g A R:=by
 unfold g_insertionSortCmpFunc
 rw [w64_of (n:=a + 1) (by omega) (by omega)]
 cases A with
 | nil=>
  refine ⟨[],?_,.nil,Sta.refl _⟩
  simp only [List.length_nil] at hb
  have:g_insertionSortCmpFunc_b1 a b g (a + 1,P ++ ([] ++ Q)) = some (.inr (.inl (a + 1,P ++ ([] ++ Q)))):=by
   unfold g_insertionSortCmpFunc_b1
   simp only
   rw [show decide (a + 1 < b) = false from decide_eq_false (by omega)]
   rfl
  rw [loopM_out this]; rfl
 | cons x T=>
  simp only [List.length_cons] at hb hN
  obtain ⟨R',s1,s2,s3⟩:=ins_outer hs a b P Q ha T [x] (by simp only [List.length_singleton]; omega) (fun z hz=>by simp at hz; subst hz; exact dA z (by simp)) (fun z hz=>dA z (by simp [hz])) (by simp) (by simp only [List.length_singleton]; omega)
  refine ⟨R',?_,s2,s3⟩
  simp only [List.length_singleton] at s1
  rw [show a + 1 = (P.length:Int) + ((1:Nat):Int) by omega]
  have e:P ++ (x :: T ++ Q) = P ++ ([x] ++ (T ++ Q)):=by simp
  rw [e,s1]
  rfl
theorem bin_loop {mb:Int × Int → Option ((Int × Int) ⊕ ((Int × Int) ⊕ Empty))} (q:Int → Bool) (lo hi:Int)
  (hstep:∀ i j,lo ≤ i → i < j → j ≤ hi → mb (i,j) = some (.inl (bif q ((i + j) / 2) then ((i + j) / 2 + 1,j) else (i,(i + j) / 2)))) (hstop:∀ i,lo ≤ i → i ≤ hi → mb (i,i) = some (.inr (.inl (i,i)))) :
  ∀ (k:Nat) (i j:Int),(j - i).toNat ≤ k → lo ≤ i → i ≤ j → j ≤ hi → (i = lo ∨ q (i - 1) = true) → (j = hi ∨ q j = false) → ∃ s,loopM mb (i,j) = some (.inl (s,s)) ∧ lo ≤ s ∧ s ≤ hi ∧ (s = lo ∨ q (s - 1) = true) ∧ (s = hi ∨ q s = false)
 | 0,i,j,hk,h1,h2,h3,h4,h5=>by
  have:i = j:=by omega
  subst this
  exact ⟨i,loopM_out (hstop i h1 h3),h1,h3,h4,h5⟩
 | k + 1,i,j,hk,h1,h2,h3,h4,h5=>by
  rcases Int.lt_or_eq_of_le h2 with h | h
  ·have hst:=hstep i j h1 h h3
   cases hq:q ((i + j) / 2)
   ·rw [hq] at hst
    rw [loopM_next hst]
    exact bin_loop q lo hi hstep hstop k i ((i + j) / 2) (by omega) h1 (by omega) (by omega) h4 (.inr hq)
   ·rw [hq] at hst
    rw [loopM_next hst]
    exact bin_loop q lo hi hstep hstop k ((i + j) / 2 + 1) j (by omega) (by omega) (by omega) h3 (.inr (by rw [Int.add_sub_cancel]; exact hq)) h5
  ·subst h
   exact ⟨i,loopM_out (hstop i h1 h3),h1,h3,h4,h5⟩
end
section
variable {α:Type} {D:α → Prop} {g:α → α → Option Int}
def atI (l:List α) (h:Int) (p:α → Bool):Bool:=match getI l h with | some z=>p z | none=>false
theorem atI_of {l:List α} {h:Int} {z:α} (e:getI l h = some z) (p:α → Bool):atI l h p = p z:=by unfold atI; rw [e]
theorem getI_seg (P A Q:List α) (t:Nat) (h:t < A.length) {i:Int} (hi:i = (P.length:Int) + (t:Int)):getI (P ++ (A ++ Q)) i = some A[t]:=by
 subst hi
 rw [show (P.length:Int) + (t:Int) = ((P.length + t:Nat):Int) by omega,getI_nat,List.getElem?_append_right (by omega),Nat.add_sub_cancel_left,List.getElem?_append_left h,List.getElem?_eq_getElem h]
theorem shiftR (s:Int × Int):∀ (B P:List α) (x:α) (R:List α),s.1 - 1 = (P.length:Int) + (B.length:Int) → P.length + B.length ≤ 1073741824 →
  loopM (g_symMergeCmpFunc_b2 s) ((P.length:Int),P ++ x :: (B ++ R)) = some (.inl ((P.length:Int) + (B.length:Int),P ++ (B ++ x :: R)))
 | [],P,x,R,hs,hN=>by
  refine loopM_out ?_
  unfold g_symMergeCmpFunc_b2
  simp only [List.length_nil] at hs ⊢
  rw [w64_of (n:=s.1 - 1) (by omega) (by omega),show decide ((P.length:Int) < s.1 - 1) = false from decide_eq_false (by omega),show (P.length:Int) + ((0:Nat):Int) = (P.length:Int) by omega]
  rfl
 | y :: B,P,x,R,hs,hN=>by
  simp only [List.length_cons] at hs hN
  have ih:=shiftR s B (P ++ [y]) x R (by simp only [List.length_append,List.length_singleton]; omega) (by simp only [List.length_append,List.length_singleton]; omega)
  have e:loopM (g_symMergeCmpFunc_b2 s) ((P.length:Int),P ++ x :: (y :: B ++ R)) = loopM (g_symMergeCmpFunc_b2 s) (((P ++ [y]).length:Int),(P ++ [y]) ++ x :: (B ++ R)):=by
   refine loopM_next ?_
   unfold g_symMergeCmpFunc_b2
   simp only
   rw [w64_of (n:=s.1 - 1) (by omega) (by omega),w64_of (n:=(P.length:Int) + 1) (by omega) (by omega),show decide ((P.length:Int) < s.1 - 1) = true from decide_eq_true (by omega)]
   simp only [cond_true]
   have sw:=swap2 P x [] y (B ++ R) (i:=(P.length:Int)) (j:=(P.length:Int) + 1) rfl (by simp only [List.length_nil]; omega) (fun (f2:List α)=>some (Sum.inl ((P.length:Int) + 1,f2):(Int × List α) ⊕ ((Int × List α) ⊕ Empty)))
   simp only [List.nil_append] at sw
   rw [show x :: (y :: B ++ R) = x :: y :: (B ++ R) from rfl,sw]
   simp
  rw [e,ih]
  have hl:(((P ++ [y]).length:Nat):Int) + (B.length:Int) = (P.length:Int) + (((y :: B).length:Nat):Int):=by
   simp only [List.length_append,List.length_cons,List.length_nil]; omega
  rw [hl,show P ++ [y] ++ (B ++ x :: R) = P ++ (y :: B ++ x :: R) by simp]
theorem shiftL (s:Int × Int):∀ (n:Nat) (A:List α),A.length = n → ∀ (P:List α) (x:α) (R:List α),s.1 = (P.length:Int) → P.length + A.length ≤ 1073741824 →
  loopM (g_symMergeCmpFunc_b4 s) ((P.length:Int) + (A.length:Int),P ++ (A ++ x :: R)) = some (.inl ((P.length:Int),P ++ x :: (A ++ R))):=by
 intro n
 induction n with
 | zero=>
  intro A hA P x R hs hN
  have:A = []:=List.length_eq_zero_iff.1 hA
  subst this
  refine loopM_out ?_
  unfold g_symMergeCmpFunc_b4
  simp only [List.length_nil]
  rw [show decide ((P.length:Int) + ((0:Nat):Int) > s.1) = false from decide_eq_false (by omega),show (P.length:Int) + ((0:Nat):Int) = (P.length:Int) by omega]
  rfl
 | succ n ih=>
  intro A hA P x R hs hN
  have hne:A ≠ []:=by intro h; subst h; simp at hA
  obtain ⟨S,y,rfl⟩:∃ S y,A = S ++ [y]:=⟨A.dropLast,A.getLast hne,(List.dropLast_concat_getLast hne).symm⟩
  rw [List.length_append,List.length_singleton] at hA hN
  have ih':=ih S (by omega) P x (y :: R) hs (by omega)
  have e:loopM (g_symMergeCmpFunc_b4 s) ((P.length:Int) + (((S ++ [y]).length:Nat):Int),P ++ ((S ++ [y]) ++ x :: R)) = loopM (g_symMergeCmpFunc_b4 s) ((P.length:Int) + (S.length:Int),P ++ (S ++ x :: y :: R)):=by
   refine loopM_next ?_
   have hj:(P.length:Int) + (((S ++ [y]).length:Nat):Int) = (P.length:Int) + (S.length:Int) + 1:=by rw [List.length_append,List.length_singleton]; omega
   unfold g_symMergeCmpFunc_b4
   simp only
   rw [hj,w64_of (n:=(P.length:Int) + (S.length:Int) + 1 - 1) (by omega) (by omega),show (P.length:Int) + (S.length:Int) + 1 - 1 = (P.length:Int) + (S.length:Int) by omega,show decide ((P.length:Int) + (S.length:Int) + 1 > s.1) = true from decide_eq_true (by omega)]
   simp only [cond_true]
   have e1:P ++ (S ++ [y] ++ x :: R) = (P ++ S) ++ y :: x :: R:=by simp
   have sw:=swap3 (P ++ S) y x R (i:=(P.length:Int) + (S.length:Int)) (j:=(P.length:Int) + (S.length:Int) + 1) (by simp only [List.length_append]; omega) (by simp only [List.length_append]; omega) (fun (f2:List α)=>some (Sum.inl ((P.length:Int) + (S.length:Int),f2):(Int × List α) ⊕ ((Int × List α) ⊕ Empty)))
   rw [e1,sw]
   simp
  rw [e,ih']
  simp
theorem srt_get {A:List α} (h:Srt g A) {i j:Nat} (hi:i < A.length) (hj:j < A.length) (hij:i < j):ltM g A[j] A[i] = false:=by
 rw [Srt,List.pairwise_iff_getElem] at h
 exact h i j hi hj hij
theorem sym_left (hs:SW D g) (P:List α) (x:α) (B Q:List α) {a m b:Int} (ha:a = (P.length:Int)) (hm:m = a + 1) (hb:b = m + (B.length:Int)) (dx:D x) (dB:AllD D B) (sB:Srt g B) (hN:P.length + B.length ≤ 1000000000) :
  ∃ R,(Option.bind (loopM (g_symMergeCmpFunc_b1 (P ++ x :: (B ++ Q)) a g) (m,b)) fun (t:(Int × Int) ⊕ Empty)=>match t with | .inl s2=>(Option.bind (loopM (g_symMergeCmpFunc_b2 s2) (a,P ++ x :: (B ++ Q))) fun (t:(Int × List α) ⊕ Empty)=>match t with | .inl s4=>(some s4.2) | .inr r=>r.elim) | .inr r=>r.elim) = some (P ++ (R ++ Q)) ∧ Srt g R ∧ Sta D g (x :: B) R:=by
 have ga:getI (P ++ x :: (B ++ Q)) a = some x:=getI_mid _ _ _ ha
 have gB:∀ (t:Nat) (ht:t < B.length) (i:Int),i = m + (t:Int) → getI (P ++ x :: (B ++ Q)) i = some B[t]:=fun t ht i hi=>by
  have e:P ++ x :: (B ++ Q) = (P ++ [x]) ++ (B ++ Q):=by simp
  rw [e]
  exact getI_seg _ _ _ t ht (by simp only [List.length_append,List.length_singleton]; omega)
 obtain ⟨s,k1,k2,k3,k4,k5⟩:=bin_loop (mb:=g_symMergeCmpFunc_b1 (P ++ x :: (B ++ Q)) a g) (fun h=>atI (P ++ x :: (B ++ Q)) h fun z=>ltM g z x) m b (fun i j h1 h2 h3=>by
  have hg:=gB ((i + j) / 2 - m).toNat (by omega) ((i + j) / 2) (by omega)
  rw [atI_of hg]
  unfold g_symMergeCmpFunc_b1
  simp only
  rw [show decide (i < j) = true from decide_eq_true h2,half_eq (x:=i + j) (by omega) (by omega),w64_of (n:=(i + j) / 2 + 1) (by omega) (by omega)]
  simp only [cond_true]
  obtain ⟨c,hc,hcl⟩:=hs.cmp (dB _ (List.getElem_mem (show ((i + j) / 2 - m).toNat < B.length by omega))) dx
  rw [hg,Option.bind_some,ga,Option.bind_some,hc,Option.bind_some,hcl]
  cases ltM g (B[((i + j) / 2 - m).toNat]'(by omega)) x <;> rfl) (fun i h1 h2=>by
  unfold g_symMergeCmpFunc_b1
  simp only
  rw [show decide (i < i) = false from decide_eq_false (by omega)]
  rfl) (b - m).toNat m b (Nat.le_refl _) (by omega) (by omega) (by omega) (.inl rfl) (.inl rfl)
 rw [k1]
 simp only [Option.bind_some]
 obtain ⟨B1,B2,rfl,hB1⟩:∃ B1 B2,B = B1 ++ B2 ∧ B1.length = (s - m).toNat:=⟨B.take (s - m).toNat,B.drop (s - m).toNat,by rw [List.take_append_drop],by rw [List.length_take]; omega⟩
 rw [List.length_append] at hb hN
 have lo:∀ z ∈ B1,ltM g z x = true:=fun z hz=>by
  obtain ⟨t,ht,rfl⟩:=List.mem_iff_getElem.1 hz
  have hlast:ltM g (B1[B1.length - 1]'(by omega)) x = true:=by
   rcases k4 with k4 | k4
   ·omega
   ·rw [atI_of (gB (B1.length - 1) (by rw [List.length_append]; omega) (s - 1) (by omega)),List.getElem_append_left (by omega)] at k4
    exact k4
  by_cases e:t = B1.length - 1
  ·subst e; exact hlast
  ·have h1:=srt_get (List.pairwise_append.1 sB).1 (i:=t) (j:=B1.length - 1) ht (by omega) (by omega)
   cases h2:ltM g B1[t] x
   ·have:=hs.ntrans _ _ _ (dB _ (List.mem_append_left _ (List.getElem_mem (show B1.length - 1 < B1.length by omega)))) (dB _ (List.mem_append_left _ hz)) dx h1 h2
    rw [hlast] at this; cases this
   ·rfl
 have hi:∀ z ∈ B2,ltM g z x = false:=fun z hz=>by
  obtain ⟨t,ht,rfl⟩:=List.mem_iff_getElem.1 hz
  have hfirst:ltM g (B2[0]'(by omega)) x = false:=by
   rcases k5 with k5 | k5
   ·omega
   ·rw [atI_of (gB B1.length (by rw [List.length_append]; omega) s (by omega)),List.getElem_append_right (Nat.le_refl _)] at k5
    simpa using k5
  by_cases e:t = 0
  ·subst e; exact hfirst
  ·have h1:=srt_get (List.pairwise_append.1 sB).2.1 (i:=0) (j:=t) (by omega) ht (by omega)
   exact hs.ntrans _ _ _ (dB _ (List.mem_append_right _ hz)) (dB _ (List.mem_append_right _ (List.getElem_mem (show 0 < B2.length by omega)))) dx h1 hfirst
 have dB1:AllD D B1:=fun z hz=>dB z (List.mem_append_left _ hz)
 have dB2:AllD D B2:=fun z hz=>dB z (List.mem_append_right _ hz)
 refine ⟨B1 ++ x :: B2,?_,?_,?_⟩
 ·have h1:=shiftR (s,s) B1 P x (B2 ++ Q) (by simp only; omega) (by omega)
  rw [ha,List.append_assoc,h1]
  simp
 ·refine Srt.app (List.pairwise_append.1 sB).1 ?_ fun p hp q hq=>?_
  ·rw [Srt,List.pairwise_cons]
   exact ⟨hi,(List.pairwise_append.1 sB).2.1⟩
  ·rcases List.mem_cons.1 hq with rfl | hq
   ·exact hs.asym _ _ (dB1 p hp) dx (lo p hp)
   ·exact (List.pairwise_append.1 sB).2.2 p hp q hq
 ·have h1:Sta D g ([x] ++ B1) (B1 ++ [x]):=Sta.swap hs (fun z hz=>by simp at hz; subst hz; exact dx) dB1 (fun p hp q hq=>by simp at hp; subst hp; exact lo q hq)
  have:=Sta.app h1 (Sta.refl (D:=D) (g:=g) B2)
  simpa using this
theorem sym_right (hs:SW D g) (P:List α) (x:α) (A Q:List α) {a m:Int} (ha:a = (P.length:Int)) (hm:m = a + (A.length:Int)) (dx:D x) (dA:AllD D A) (sA:Srt g A) (hN:P.length + A.length ≤ 1000000000) :
  ∃ R,(Option.bind (loopM (g_symMergeCmpFunc_b3 (P ++ (A ++ x :: Q)) m g) (a,m)) fun (t:(Int × Int) ⊕ Empty)=>match t with | .inl s6=>(Option.bind (loopM (g_symMergeCmpFunc_b4 s6) (m,P ++ (A ++ x :: Q))) fun (t:(Int × List α) ⊕ Empty)=>match t with | .inl s8=>(some s8.2) | .inr r=>r.elim) | .inr r=>r.elim) = some (P ++ (R ++ Q)) ∧ Srt g R ∧ Sta D g (A ++ [x]) R:=by
 have gm:getI (P ++ (A ++ x :: Q)) m = some x:=by
  have e:P ++ (A ++ x :: Q) = (P ++ A) ++ x :: Q:=by simp
  rw [e]
  exact getI_mid _ _ _ (by simp only [List.length_append]; omega)
 have gA:∀ (t:Nat) (ht:t < A.length) (i:Int),i = a + (t:Int) → getI (P ++ (A ++ x :: Q)) i = some A[t]:=fun t ht i hi=>getI_seg _ _ _ t ht (by omega)
 obtain ⟨s,k1,k2,k3,k4,k5⟩:=bin_loop (mb:=g_symMergeCmpFunc_b3 (P ++ (A ++ x :: Q)) m g) (fun h=>atI (P ++ (A ++ x :: Q)) h fun z=>!ltM g x z) a m (fun i j h1 h2 h3=>by
  have hg:=gA ((i + j) / 2 - a).toNat (by omega) ((i + j) / 2) (by omega)
  rw [atI_of hg]
  unfold g_symMergeCmpFunc_b3
  simp only
  rw [show decide (i < j) = true from decide_eq_true h2,half_eq (x:=i + j) (by omega) (by omega),w64_of (n:=(i + j) / 2 + 1) (by omega) (by omega)]
  simp only [cond_true]
  obtain ⟨c,hc,hcl⟩:=hs.cmp dx (dA _ (List.getElem_mem (show ((i + j) / 2 - a).toNat < A.length by omega)))
  rw [gm,Option.bind_some,hg,Option.bind_some,hc,Option.bind_some,hcl]
  cases ltM g x (A[((i + j) / 2 - a).toNat]'(by omega)) <;> rfl) (fun i h1 h2=>by
  unfold g_symMergeCmpFunc_b3
  simp only
  rw [show decide (i < i) = false from decide_eq_false (by omega)]
  rfl) (m - a).toNat a m (Nat.le_refl _) (by omega) (by omega) (by omega) (.inl rfl) (.inl rfl)
 rw [k1]
 simp only [Option.bind_some]
 obtain ⟨A1,A2,rfl,hA1⟩:∃ A1 A2,A = A1 ++ A2 ∧ A1.length = (s - a).toNat:=⟨A.take (s - a).toNat,A.drop (s - a).toNat,by rw [List.take_append_drop],by rw [List.length_take]; omega⟩
 rw [List.length_append] at hm hN
 have dA1:AllD D A1:=fun z hz=>dA z (List.mem_append_left _ hz)
 have dA2:AllD D A2:=fun z hz=>dA z (List.mem_append_right _ hz)
 have lo:∀ z ∈ A1,ltM g x z = false:=fun z hz=>by
  obtain ⟨t,ht,rfl⟩:=List.mem_iff_getElem.1 hz
  have hlast:ltM g x (A1[A1.length - 1]'(by omega)) = false:=by
   rcases k4 with k4 | k4
   ·omega
   ·rw [atI_of (gA (A1.length - 1) (by rw [List.length_append]; omega) (s - 1) (by omega)),List.getElem_append_left (by omega)] at k4
    simpa using k4
  by_cases e:t = A1.length - 1
  ·subst e; exact hlast
  ·have h1:=srt_get (List.pairwise_append.1 sA).1 (i:=t) (j:=A1.length - 1) ht (by omega) (by omega)
   exact hs.ntrans _ _ _ dx (dA1 _ (List.getElem_mem (show A1.length - 1 < A1.length by omega))) (dA1 _ hz) hlast h1
 have hi:∀ z ∈ A2,ltM g x z = true:=fun z hz=>by
  obtain ⟨t,ht,rfl⟩:=List.mem_iff_getElem.1 hz
  have hfirst:ltM g x (A2[0]'(by omega)) = true:=by
   rcases k5 with k5 | k5
   ·omega
   ·rw [atI_of (gA A1.length (by rw [List.length_append]; omega) s (by omega)),List.getElem_append_right (Nat.le_refl _)] at k5
    simpa using k5
  by_cases e:t = 0
  ·subst e; exact hfirst
  ·have h1:=srt_get (List.pairwise_append.1 sA).2.1 (i:=0) (j:=t) (by omega) ht (by omega)
   cases h2:ltM g x A2[t]
   ·have:=hs.ntrans _ _ _ dx (dA2 _ hz) (dA2 _ (List.getElem_mem (show 0 < A2.length by omega))) h2 h1
    rw [hfirst] at this; cases this
   ·rfl
 refine ⟨A1 ++ x :: A2,?_,?_,?_⟩
 ·have h1:=shiftL (s,s) A2.length A2 rfl (P ++ A1) x Q (by simp only [List.length_append]; omega) (by simp only [List.length_append]; omega)
  have e1:P ++ (A1 ++ A2 ++ x :: Q) = (P ++ A1) ++ (A2 ++ x :: Q):=by simp
  rw [e1,show m = (((P ++ A1).length:Nat):Int) + (A2.length:Int) by simp only [List.length_append]; omega,h1]
  simp
 ·refine Srt.app (List.pairwise_append.1 sA).1 ?_ fun p hp q hq=>?_
  ·rw [Srt,List.pairwise_cons]
   exact ⟨fun z hz=>hs.asym _ _ dx (dA2 z hz) (hi z hz),(List.pairwise_append.1 sA).2.1⟩
  ·rcases List.mem_cons.1 hq with rfl | hq
   ·exact lo p hp
   ·exact (List.pairwise_append.1 sA).2.2 p hp q hq
 ·have h1:Sta D g (A2 ++ [x]) ([x] ++ A2):=Sta.swap hs dA2 (fun z hz=>by simp at hz; subst hz; exact dx) (fun p hp q hq=>by simp at hq; subst hq; exact hi p hp)
  have:=Sta.app (Sta.refl (D:=D) (g:=g) A1) h1
  simpa using this
end
section
variable {α:Type} {D:α → Prop} {g:α → α → Option Int}
theorem symMerge_eq (hs:SW D g):∀ (fu:Nat) (P A B Q:List α) (a m b:Int),a = (P.length:Int) → m = a + (A.length:Int) → b = m + (B.length:Int) → 0 < A.length → 0 < B.length → A.length + B.length ≤ 2 ^ fu → AllD D A → AllD D B → Srt g A → Srt g B → P.length + A.length + B.length + Q.length ≤ 1000000000 →
  ∃ R,g_symMergeCmpFunc fu (P ++ (A ++ (B ++ Q))) a m b g = some (P ++ (R ++ Q)) ∧ Srt g R ∧ Sta D g (A ++ B) R:=by
 intro fu
 induction fu with
 | zero=>intro P A B Q a m b _ _ _ h1 h2 h3; exfalso; simp at h3; omega
 | succ fu ih=>
  intro P A B Q a m b ha hm hb hA hB hsz dA dB sA sB hN
  rw [show g_symMergeCmpFunc (α:=α) (fu + 1) = g_symMergeCmpFunc_s (g_symMergeCmpFunc fu) from rfl]
  unfold g_symMergeCmpFunc_s
  rw [w64_of (n:=m - a) (by omega) (by omega),w64_of (n:=b - m) (by omega) (by omega),half_eq (x:=a + b) (by omega) (by omega)]
  by_cases hA1:A.length = 1
  · -- one element at the left
   obtain ⟨x,rfl⟩:∃ x,A = [x]:=List.length_eq_one_iff.1 hA1
   rw [show (m - a == 1) = true by simp; simp only [List.length_singleton] at hm; omega]
   simp only [cond_true]
   obtain ⟨R,r1,r2,r3⟩:=sym_left hs P x B Q (a:=a) (m:=m) (b:=b) ha (by simp only [List.length_singleton] at hm; omega) hb (dA x (by simp)) dB sB (by omega)
   exact ⟨R,r1,r2,r3⟩
  ·rw [show (m - a == 1) = false by simp; omega]
   simp only [cond_false]
   by_cases hB1:B.length = 1
   ·obtain ⟨x,rfl⟩:∃ x,B = [x]:=List.length_eq_one_iff.1 hB1
    rw [show (b - m == 1) = true by simp; simp only [List.length_singleton] at hb; omega]
    simp only [cond_true]
    exact sym_right hs P x A Q (a:=a) (m:=m) ha hm (dB x (by simp)) dA sA (by omega)
   ·rw [show (b - m == 1) = false by simp; omega]
    simp only [cond_false]
    generalize hmid:(a + b) / 2 = mid
    rw [w64_of (n:=mid + m) (by omega) (by omega),w64_of (n:=mid + m - b) (by omega) (by omega)]
    have hL:(P ++ (A ++ (B ++ Q))) = P ++ ((A ++ B) ++ Q):=by simp
    have gA:∀ (t:Nat) (ht:t < A.length) (i:Int),i = a + (t:Int) → getI (P ++ (A ++ (B ++ Q))) i = some A[t]:=fun t ht i hi=>getI_seg _ _ _ t ht (by omega)
    have gB:∀ (t:Nat) (ht:t < B.length) (i:Int),i = m + (t:Int) → getI (P ++ (A ++ (B ++ Q))) i = some B[t]:=fun t ht i hi=>by
     have e:P ++ (A ++ (B ++ Q)) = (P ++ A) ++ (B ++ Q):=by simp
     rw [e]
     exact getI_seg _ _ _ t ht (by simp only [List.length_append]; omega)
    obtain ⟨lo,hi,hpair,hlo1,hlohi,hhi1,hcase⟩:∃ lo hi:Int,(bif decide (m > mid) then some (mid + m - b,mid) else some (a,m)) = some (lo,hi) ∧ a ≤ lo ∧ lo ≤ hi ∧ hi ≤ m ∧ ((m > mid ∧ lo = mid + m - b ∧ hi = mid) ∨ (m ≤ mid ∧ lo = a ∧ hi = m)):=by
     by_cases h:m > mid
     ·exact ⟨mid + m - b,mid,by rw [decide_eq_true h]; rfl,by omega,by omega,by omega,.inl ⟨h,rfl,rfl⟩⟩
     ·exact ⟨a,m,by rw [decide_eq_false h]; rfl,by omega,by omega,by omega,.inr ⟨by omega,rfl,rfl⟩⟩
    rw [hpair]
    simp only [Option.bind_some]
    obtain ⟨s,k1,k2,k3,k4,k5⟩:=bin_loop (mb:=g_symMergeCmpFunc_b5 (P ++ (A ++ (B ++ Q))) a m b g) (fun h=>atI (P ++ (A ++ (B ++ Q))) h fun x=>atI (P ++ (A ++ (B ++ Q))) (mid + m - 1 - h) fun y=>!ltM g y x) lo hi (fun i j h1 h2 h3=>by
     have hg:=gA ((i + j) / 2 - a).toNat (by omega) ((i + j) / 2) (by omega)
     have hg2:=gB (mid + m - 1 - (i + j) / 2 - m).toNat (by omega) (mid + m - 1 - (i + j) / 2) (by omega)
     rw [atI_of hg,atI_of hg2]
     unfold g_symMergeCmpFunc_b5
     simp only
     rw [show decide (i < j) = true from decide_eq_true h2,half_eq (x:=i + j) (by omega) (by omega),half_eq (x:=a + b) (by omega) (by omega),hmid,w64_of (n:=(i + j) / 2 + 1) (by omega) (by omega),w64_of (n:=mid + m) (by omega) (by omega),w64_of (n:=mid + m - 1) (by omega) (by omega),w64_of (n:=mid + m - 1 - (i + j) / 2) (by omega) (by omega)]
     simp only [cond_true]
     obtain ⟨c,hc,hcl⟩:=hs.cmp (dB _ (List.getElem_mem (show (mid + m - 1 - (i + j) / 2 - m).toNat < B.length by omega))) (dA _ (List.getElem_mem (show ((i + j) / 2 - a).toNat < A.length by omega)))
     rw [hg2,Option.bind_some,hg,Option.bind_some,hc,Option.bind_some,hcl]
     cases ltM g (B[(mid + m - 1 - (i + j) / 2 - m).toNat]'(by omega)) (A[((i + j) / 2 - a).toNat]'(by omega)) <;> rfl) (fun i h1 h2=>by
     unfold g_symMergeCmpFunc_b5
     simp only
     rw [show decide (i < i) = false from decide_eq_false (by omega)]
     rfl) (hi - lo).toNat lo hi (Nat.le_refl _) (by omega) (by omega) (by omega) (.inl rfl) (.inl rfl)
    rw [k1]
    simp only [Option.bind_some]
    rw [w64_of (n:=mid + m - s) (by omega) (by omega)]
    have hs1:a ≤ s ∧ s ≤ m ∧ m ≤ mid + m - s ∧ mid + m - s ≤ b:=by omega
    obtain ⟨A1,A2,rfl,hA1⟩:∃ A1 A2,A = A1 ++ A2 ∧ A1.length = (s - a).toNat:=⟨A.take (s - a).toNat,A.drop (s - a).toNat,by rw [List.take_append_drop],by rw [List.length_take]; omega⟩
    obtain ⟨B1,B2,rfl,hB1⟩:∃ B1 B2,B = B1 ++ B2 ∧ B1.length = (mid - s).toNat:=⟨B.take (mid - s).toNat,B.drop (mid - s).toNat,by rw [List.take_append_drop],by rw [List.length_take]; omega⟩
    rw [List.length_append] at hm hb hA hB
    rw [List.length_append,List.length_append] at hsz hN
    have dA1:AllD D A1:=fun z hz=>dA z (List.mem_append_left _ hz)
    have dA2:AllD D A2:=fun z hz=>dA z (List.mem_append_right _ hz)
    have dB1:AllD D B1:=fun z hz=>dB z (List.mem_append_left _ hz)
    have dB2:AllD D B2:=fun z hz=>dB z (List.mem_append_right _ hz)
    obtain ⟨sA1,sA2,sA12⟩:=List.pairwise_append.1 sA
    obtain ⟨sB1,sB2,sB12⟩:=List.pairwise_append.1 sB
    have lt1:∀ x ∈ A2,∀ y ∈ B1,ltM g y x = true:=fun x hx y hy=>by
     obtain ⟨t,ht,rfl⟩:=List.mem_iff_getElem.1 hx
     obtain ⟨u,hu,rfl⟩:=List.mem_iff_getElem.1 hy
     have hbase:ltM g (B1[B1.length - 1]'(by omega)) (A2[0]'(by omega)) = true:=by
      rcases k5 with k5 | k5
      ·omega
      ·rw [atI_of (gA A1.length (by rw [List.length_append]; omega) s (by omega)),atI_of (gB (B1.length - 1) (by rw [List.length_append]; omega) (mid + m - 1 - s) (by omega)),List.getElem_append_right (Nat.le_refl _),List.getElem_append_left (by omega)] at k5
       simpa using k5
     have h1:ltM g (A2[t]) (A2[0]'(by omega)) = false:=by
      by_cases e:t = 0
      ·subst e; exact hs.irr (dA2 _ hx)
      ·exact srt_get sA2 (by omega) ht (by omega)
     have h2:ltM g (B1[B1.length - 1]'(by omega)) (B1[u]) = false:=by
      by_cases e:u = B1.length - 1
      ·subst e; exact hs.irr (dB1 _ hy)
      ·exact srt_get sB1 hu (by omega) (by omega)
     have dl:D (B1[B1.length - 1]'(by omega)):=dB1 _ (List.getElem_mem (by omega))
     have df:D (A2[0]'(by omega)):=dA2 _ (List.getElem_mem (by omega))
     cases h3:ltM g B1[u] A2[t]
     ·have h4:=hs.ntrans _ _ _ (dB1 _ hy) (dA2 _ hx) df h3 h1
      have h5:=hs.ntrans _ _ _ dl (dB1 _ hy) df h2 h4
      rw [hbase] at h5; cases h5
     ·rfl
    have lt2:∀ x ∈ A1,∀ y ∈ B2,ltM g y x = false:=fun x hx y hy=>by
     obtain ⟨t,ht,rfl⟩:=List.mem_iff_getElem.1 hx
     obtain ⟨u,hu,rfl⟩:=List.mem_iff_getElem.1 hy
     have hbase:ltM g (B2[0]'(by omega)) (A1[A1.length - 1]'(by omega)) = false:=by
      rcases k4 with k4 | k4
      ·omega
      ·rw [atI_of (gA (A1.length - 1) (by rw [List.length_append]; omega) (s - 1) (by omega)),atI_of (gB B1.length (by rw [List.length_append]; omega) (mid + m - 1 - (s - 1)) (by omega)),List.getElem_append_right (Nat.le_refl _),List.getElem_append_left (by omega)] at k4
       simpa using k4
     have dl:D (A1[A1.length - 1]'(by omega)):=dA1 _ (List.getElem_mem (by omega))
     have df:D (B2[0]'(by omega)):=dB2 _ (List.getElem_mem (by omega))
     have h1:ltM g (A1[A1.length - 1]'(by omega)) (A1[t]) = false:=by
      by_cases e:t = A1.length - 1
      ·subst e; exact hs.irr (dA1 _ hx)
      ·exact srt_get sA1 ht (by omega) (by omega)
     have h2:ltM g (B2[u]) (B2[0]'(by omega)) = false:=by
      by_cases e:u = 0
      ·subst e; exact hs.irr (dB2 _ hy)
      ·exact srt_get sB2 (by omega) hu (by omega)
     exact hs.ntrans _ _ _ (dB2 _ hy) dl (dA1 _ hx) (hs.ntrans _ _ _ (dB2 _ hy) df dl h2 hbase) h1
    have hrot:(Option.bind (bif (decide (s < m) && decide (m < mid + m - s)) then (Option.bind (g_rotateCmpFunc (P ++ (A1 ++ A2 ++ (B1 ++ B2 ++ Q))) s m (mid + m - s) g) fun v4=>some v4) else (some (P ++ (A1 ++ A2 ++ (B1 ++ B2 ++ Q))))):(List α → Option (List α)) → Option (List α)) = fun k=>k (P ++ (A1 ++ (B1 ++ (A2 ++ (B2 ++ Q))))):=by
     funext k
     by_cases h:s < m ∧ m < mid + m - s
     ·rw [decide_eq_true h.1,decide_eq_true h.2]
      have e:P ++ (A1 ++ A2 ++ (B1 ++ B2 ++ Q)) = (P ++ A1) ++ (A2 ++ (B1 ++ (B2 ++ Q))):=by simp
      rw [e,rotate_eq g (P ++ A1) A2 B1 (B2 ++ Q) (by omega) (by omega) (by simp only [List.length_append]; omega) (by simp only [List.length_append]; omega) (by omega) (by simp only [List.length_append]; omega)]
      simp
     ·have e:P ++ (A1 ++ A2 ++ (B1 ++ B2 ++ Q)) = P ++ (A1 ++ (B1 ++ (A2 ++ (B2 ++ Q)))):=by
       by_cases h2:A2 = []
       ·subst h2; simp
       ·have:B1 = []:=by
         have h3:0 < A2.length:=List.length_pos_iff.2 h2
         exact List.length_eq_zero_iff.1 (by omega)
        subst this; simp
      rw [show (decide (s < m) && decide (m < mid + m - s)) = false by rw [Bool.and_eq_false_iff,decide_eq_false_iff_not,decide_eq_false_iff_not]; omega,e]
      rfl
    rw [hrot]
    dsimp only
    obtain ⟨R1,rec1,sR1,tR1⟩:∃ R1,(Option.bind (bif (decide (a < s) && decide (s < mid)) then (Option.bind (g_symMergeCmpFunc fu (P ++ (A1 ++ (B1 ++ (A2 ++ (B2 ++ Q))))) a s mid g) fun v5=>some v5) else (some (P ++ (A1 ++ (B1 ++ (A2 ++ (B2 ++ Q))))))):(List α → Option (List α)) → Option (List α)) = (fun k=>k (P ++ (R1 ++ (A2 ++ (B2 ++ Q))))) ∧ Srt g R1 ∧ Sta D g (A1 ++ B1) R1:=by
     by_cases h:a < s ∧ s < mid
     ·obtain ⟨R1,r1,r2,r3⟩:=ih P A1 B1 (A2 ++ (B2 ++ Q)) a s mid ha (by omega) (by omega) (by omega) (by omega) (by rw [Nat.pow_succ] at hsz; omega) dA1 dB1 sA1 sB1 (by simp only [List.length_append]; omega)
      refine ⟨R1,?_,r2,r3⟩
      funext k
      rw [decide_eq_true h.1,decide_eq_true h.2]
      simp only [Bool.and_self,cond_true]
      rw [r1]
      rfl
     ·refine ⟨A1 ++ B1,?_,?_,Sta.refl _⟩
      ·funext k
       rw [show (decide (a < s) && decide (s < mid)) = false by rw [Bool.and_eq_false_iff,decide_eq_false_iff_not,decide_eq_false_iff_not]; omega]
       simp
      ·by_cases h2:A1 = []
       ·subst h2; simpa using sB1
       ·have:B1 = []:=by
         have h3:0 < A1.length:=List.length_pos_iff.2 h2
         exact List.length_eq_zero_iff.1 (by omega)
        subst this; rw [List.append_nil]; exact sA1
    rw [rec1]
    dsimp only
    have lR1:R1.length = A1.length + B1.length:=by have:=tR1.len; simpa using this
    obtain ⟨R2,rec2,sR2,tR2⟩:∃ R2,(bif (decide (mid < mid + m - s) && decide (mid + m - s < b)) then (Option.bind (g_symMergeCmpFunc fu (P ++ (R1 ++ (A2 ++ (B2 ++ Q)))) mid (mid + m - s) b g) fun v6=>some v6) else (some (P ++ (R1 ++ (A2 ++ (B2 ++ Q)))))) = some (P ++ (R1 ++ R2 ++ Q)) ∧ Srt g R2 ∧ Sta D g (A2 ++ B2) R2:=by
     by_cases h:mid < mid + m - s ∧ mid + m - s < b
     ·obtain ⟨R2,r1,r2,r3⟩:=ih (P ++ R1) A2 B2 Q mid (mid + m - s) b (by simp only [List.length_append]; omega) (by omega) (by omega) (by omega) (by omega) (by rw [Nat.pow_succ] at hsz; omega) dA2 dB2 sA2 sB2 (by simp only [List.length_append]; omega)
      refine ⟨R2,?_,r2,r3⟩
      rw [decide_eq_true h.1,decide_eq_true h.2]
      simp only [Bool.and_self,cond_true]
      rw [show P ++ (R1 ++ (A2 ++ (B2 ++ Q))) = (P ++ R1) ++ (A2 ++ (B2 ++ Q)) by simp,r1]
      simp
     ·refine ⟨A2 ++ B2,?_,?_,Sta.refl _⟩
      ·rw [show (decide (mid < mid + m - s) && decide (mid + m - s < b)) = false by rw [Bool.and_eq_false_iff,decide_eq_false_iff_not,decide_eq_false_iff_not]; omega]
       simp
      ·by_cases h2:A2 = []
       ·subst h2; simpa using sB2
       ·have:B2 = []:=by
         have h3:0 < A2.length:=List.length_pos_iff.2 h2
         exact List.length_eq_zero_iff.1 (by omega)
        subst this; rw [List.append_nil]; exact sA2
    refine ⟨R1 ++ R2,rec2,Srt.app sR1 sR2 fun p hp q hq=>?_,?_⟩
    ·have hp':=tR1.perm.mem_iff.1 hp
     have hq':=tR2.perm.mem_iff.1 hq
     rcases List.mem_append.1 hp' with hp' | hp' <;> rcases List.mem_append.1 hq' with hq' | hq'
     ·exact sA12 p hp' q hq'
     ·exact lt2 p hp' q hq'
     ·exact hs.asym _ _ (dB1 p hp') (dA2 q hq') (lt1 q hq' p hp')
     ·exact sB12 p hp' q hq'
    ·have h1:Sta D g (A2 ++ B1) (B1 ++ A2):=Sta.swap hs dA2 dB1 lt1
     have h2:=Sta.app (Sta.refl (D:=D) (g:=g) A1) (Sta.app h1 (Sta.refl B2))
     have h3:=Sta.app tR1 tR2
     refine Sta.trans ?_ h3
     have e1:A1 ++ (A2 ++ B1 ++ B2) = A1 ++ A2 ++ (B1 ++ B2):=by simp
     have e2:A1 ++ (B1 ++ A2 ++ B2) = A1 ++ B1 ++ (A2 ++ B2):=by simp
     rw [e1,e2] at h2
     exact h2
end
section
variable {α:Type} {D:α → Prop} {g:α → α → Option Int}
theorem le64 {n:Nat} (h:n ≤ 4000000000):n ≤ 2 ^ 64:=Nat.le_trans h (by decide)
theorem le25 {n:Nat} (h:n ≤ 400000000):n ≤ 20 * 2 ^ 25:=Nat.le_trans h (by decide)
structure Runs (D:α → Prop) (g:α → α → Option Int) (bs:Nat) (L:List α) (Bs:List (List α)) (T:List α):Prop where
 eq:L = Bs.flatten ++ T
 blk:∀ B ∈ Bs,B.length = bs ∧ Srt g B
 rest:T.length < bs
theorem flatten_len {bs:Nat}:∀ {Bs:List (List α)},(∀ B ∈ Bs,B.length = bs ∧ Srt g B) → Bs.flatten.length = Bs.length * bs
 | [],_=>by simp
 | B :: Bs,h=>by
  rw [List.flatten_cons,List.length_append,flatten_len fun X hX=>h X (List.mem_cons_of_mem _ hX),(h B (List.mem_cons_self ..)).1,List.length_cons,Nat.succ_mul]; omega
theorem st1_loop (hs:SW D g) (n:Int):∀ (k:Nat) (L P:List α),L.length ≤ k → n = (P.length:Int) + (L.length:Int) → AllD D L → P.length + L.length ≤ 1000000000 →
  ∃ (Bs:List (List α)) (T:List α) (a' b':Int),loopM (g_stableCmpFunc_b1 n g) ((P.length:Int),(P.length:Int) + 20,P ++ L) = some (.inl (a',b',P ++ (Bs.flatten ++ T))) ∧ a' = (P.length:Int) + (Bs.flatten.length:Int) ∧ (∀ B ∈ Bs,B.length = 20 ∧ Srt g B) ∧ T.length < 20 ∧ Sta D g L (Bs.flatten ++ T)
 | 0,L,P,hk,hn,dL,hN=>by
  refine ⟨[],L,(P.length:Int),(P.length:Int) + 20,loopM_out ?_,by simp,by simp,by omega,Sta.refl L⟩
  unfold g_stableCmpFunc_b1
  simp only
  rw [show decide ((P.length:Int) + 20 ≤ n) = false from decide_eq_false (by omega)]
  simp
 | k + 1,L,P,hk,hn,dL,hN=>by
  by_cases h:20 ≤ L.length
  ·obtain ⟨A,L',rfl,hA⟩:∃ A L',L = A ++ L' ∧ A.length = 20:=⟨L.take 20,L.drop 20,by rw [List.take_append_drop],by rw [List.length_take]; omega⟩
   rw [List.length_append] at hk hn hN
   have dA:AllD D A:=fun z hz=>dL z (List.mem_append_left _ hz)
   obtain ⟨R,r1,r2,r3⟩:=insertion_eq hs P A L' (a:=(P.length:Int)) (b:=(P.length:Int) + 20) rfl (by omega) dA (by omega)
   have hR:R.length = 20:=by rw [r3.len,hA]
   obtain ⟨Bs,T,a',b',s1,s2,s3,s4,s5⟩:=st1_loop hs n k L' (P ++ R) (by omega) (by rw [List.length_append]; omega) (fun z hz=>dL z (List.mem_append_right _ hz)) (by rw [List.length_append]; omega)
   refine ⟨R :: Bs,T,a',b',?_,?_,?_,s4,?_⟩
   ·have e:loopM (g_stableCmpFunc_b1 n g) ((P.length:Int),(P.length:Int) + 20,P ++ (A ++ L')) = loopM (g_stableCmpFunc_b1 n g) (((P ++ R).length:Int),((P ++ R).length:Int) + 20,(P ++ R) ++ L'):=by
     refine loopM_next ?_
     unfold g_stableCmpFunc_b1
     simp only
     rw [show decide ((P.length:Int) + 20 ≤ n) = true from decide_eq_true (by omega),w64_of (n:=(P.length:Int) + 20 + 20) (by omega) (by omega)]
     simp only [cond_true]
     rw [r1,Option.bind_some,List.length_append,hR,List.append_assoc,show ((P.length + 20:Nat):Int) = (P.length:Int) + 20 by omega]
    rw [e,s1]
    simp
   ·rw [List.flatten_cons,List.length_append,hR]
    rw [List.length_append,hR] at s2
    omega
   ·intro B hB
    rcases List.mem_cons.1 hB with rfl | hB
    ·exact ⟨hR,r2⟩
    ·exact s3 B hB
   ·have:=Sta.app r3 s5
    simpa using this
  ·refine ⟨[],L,(P.length:Int),(P.length:Int) + 20,loopM_out ?_,by simp,by simp,by omega,Sta.refl L⟩
   unfold g_stableCmpFunc_b1
   simp only
   rw [show decide ((P.length:Int) + 20 ≤ n) = false from decide_eq_false (by omega)]
   simp
theorem st3_loop (hs:SW D g) (n:Int) (bs:Nat) (s3:Int × List α) (hbs:s3.1 = (bs:Int)) (h0:0 < bs) (hb1:bs ≤ 1000000000):∀ (k:Nat) (Bs:List (List α)),Bs.length ≤ k → ∀ (P T:List α),n = (P.length:Int) + (Bs.flatten.length:Int) + (T.length:Int) → AllD D Bs.flatten → AllD D T → (∀ B ∈ Bs,B.length = bs ∧ Srt g B) → T.length < bs → P.length + Bs.flatten.length + T.length ≤ 1000000000 →
  ∃ (Bs' R:List (List α)) (a' b':Int),loopM (g_stableCmpFunc_b3 n g s3) ((P.length:Int),(P.length:Int) + 2 * (bs:Int),P ++ (Bs.flatten ++ T)) = some (.inl (a',b',P ++ (Bs'.flatten ++ (R.flatten ++ T)))) ∧ a' = (P.length:Int) + (Bs'.flatten.length:Int) ∧ (∀ B ∈ Bs',B.length = 2 * bs ∧ Srt g B) ∧ (R = [] ∨ ∃ A,R = [A] ∧ A.length = bs ∧ Srt g A) ∧ Sta D g Bs.flatten (Bs'.flatten ++ R.flatten):=by
 intro k
 induction k with
 | zero=>
  intro Bs hk P T hn dB dT hB hT hN
  have:Bs = []:=List.length_eq_zero_iff.1 (by omega)
  subst this
  simp only [List.flatten_nil,List.length_nil,List.nil_append] at *
  refine ⟨[],[],(P.length:Int),(P.length:Int) + 2 * (bs:Int),loopM_out ?_,by simp,by simp,.inl rfl,Sta.refl _⟩
  unfold g_stableCmpFunc_b3
  simp only
  rw [show decide ((P.length:Int) + 2 * (bs:Int) ≤ n) = false from decide_eq_false (by omega)]
  simp
 | succ k ih=>
  intro Bs hk P T hn dB dT hB hT hN
  match Bs with
  | []=>
   simp only [List.flatten_nil,List.length_nil,List.nil_append] at *
   refine ⟨[],[],(P.length:Int),(P.length:Int) + 2 * (bs:Int),loopM_out ?_,by simp,by simp,.inl rfl,Sta.refl _⟩
   unfold g_stableCmpFunc_b3
   simp only
   rw [show decide ((P.length:Int) + 2 * (bs:Int) ≤ n) = false from decide_eq_false (by omega)]
   simp
  | [A]=>
   have hA:=hB A (by simp)
   simp only [List.flatten_cons,List.flatten_nil,List.append_nil] at *
   refine ⟨[],[A],(P.length:Int),(P.length:Int) + 2 * (bs:Int),loopM_out ?_,by simp,by simp,.inr ⟨A,rfl,hA⟩,by simpa using Sta.refl A⟩
   unfold g_stableCmpFunc_b3
   simp only
   rw [show decide ((P.length:Int) + 2 * (bs:Int) ≤ n) = false from decide_eq_false (by omega)]
   simp
  | A :: B :: Bs=>
   have hA:=hB A (by simp)
   have hB':=hB B (by simp)
   simp only [List.flatten_cons,List.length_append,List.length_cons] at hn hN hk
   have dA:AllD D A:=fun z hz=>dB z (by simp [hz])
   have dB1:AllD D B:=fun z hz=>dB z (by simp [hz])
   have dBs:AllD D Bs.flatten:=fun z hz=>dB z (by simp only [List.flatten_cons,List.mem_append]; exact .inr (.inr hz))
   obtain ⟨R,r1,r2,r3⟩:=symMerge_eq hs 64 P A B (Bs.flatten ++ T) (P.length:Int) ((P.length:Int) + (bs:Int)) ((P.length:Int) + 2 * (bs:Int)) rfl (by omega) (by omega) (by omega) (by omega) (le64 (by omega)) dA dB1 hA.2 hB'.2 (by rw [List.length_append]; omega)
   have hR:R.length = 2 * bs:=by have:=r3.len; rw [List.length_append] at this; omega
   obtain ⟨Bs',R',a',b',s1,s2,s4,s5,s6⟩:=ih Bs (by omega) (P ++ R) T (by rw [List.length_append]; omega) dBs dT (fun X hX=>hB X (by simp [hX])) hT (by rw [List.length_append]; omega)
   refine ⟨R :: Bs',R',a',b',?_,?_,?_,s5,?_⟩
   ·have e:loopM (g_stableCmpFunc_b3 n g s3) ((P.length:Int),(P.length:Int) + 2 * (bs:Int),P ++ ((A :: B :: Bs).flatten ++ T)) = loopM (g_stableCmpFunc_b3 n g s3) (((P ++ R).length:Int),((P ++ R).length:Int) + 2 * (bs:Int),(P ++ R) ++ (Bs.flatten ++ T)):=by
     refine loopM_next ?_
     unfold g_stableCmpFunc_b3
     simp only
     rw [hbs,show decide ((P.length:Int) + 2 * (bs:Int) ≤ n) = true from decide_eq_true (by omega),w64_of (n:=(P.length:Int) + (bs:Int)) (by omega) (by omega),w64_of (n:=2 * (bs:Int)) (by omega) (by omega),w64_of (n:=(P.length:Int) + 2 * (bs:Int) + 2 * (bs:Int)) (by omega) (by omega)]
     simp only [cond_true]
     rw [show P ++ ((A :: B :: Bs).flatten ++ T) = P ++ (A ++ (B ++ (Bs.flatten ++ T))) by simp,r1,Option.bind_some,List.length_append,hR,List.append_assoc,show ((P.length + 2 * bs:Nat):Int) = (P.length:Int) + 2 * (bs:Int) by omega]
    rw [e,s1]
    simp
   ·rw [List.flatten_cons,List.length_append,hR]
    rw [List.length_append,hR] at s2
    omega
   ·intro X hX
    rcases List.mem_cons.1 hX with rfl | hX
    ·exact ⟨hR,r2⟩
    ·exact s4 X hX
   ·have:=Sta.app r3 s6
    simpa using this
theorem st2_loop (hs:SW D g) (n:Int):∀ (k bs:Nat) (L:List α) (Bs:List (List α)) (T:List α),n = (L.length:Int) → L.length ≤ bs * 2 ^ k → 0 < bs → bs ≤ 1000000000 → L.length ≤ 400000000 → AllD D L → Runs D g bs L Bs T → Srt g T →
  ∃ c R,loopM (g_stableCmpFunc_b2 n g) ((bs:Int),L) = some (.inl (c,R)) ∧ Srt g R ∧ Sta D g L R:=by
 have stop:∀ (bs:Nat) (L:List α) (Bs:List (List α)) (T:List α),n = (L.length:Int) → L.length ≤ bs → Runs D g bs L Bs T → Srt g T → ∃ c R,loopM (g_stableCmpFunc_b2 n g) ((bs:Int),L) = some (.inl (c,R)) ∧ Srt g R ∧ Sta D g L R:=by
  intro bs L Bs T hn hl hr hT
  refine ⟨(bs:Int),L,loopM_out ?_,?_,Sta.refl _⟩
  ·unfold g_stableCmpFunc_b2
   simp only
   rw [show decide ((bs:Int) < n) = false from decide_eq_false (by omega)]
   rfl
  ·have he:=hr.eq
   have hfl:=flatten_len (g:=g) hr.blk
   match Bs,hr,he,hfl with
   | [],_,he,_=>rw [he]; simpa using hT
   | [A],hr,he,_=>
    have hA:=hr.blk A (by simp)
    have hlen:L.length = A.length + T.length:=by rw [he]; simp
    have:T = []:=List.length_eq_zero_iff.1 (by omega)
    subst this
    rw [he]; simpa using hA.2
   | A :: B :: Bs,hr,he,hfl=>
    exfalso
    have hA:=hr.blk A (by simp)
    have hB:=hr.blk B (by simp)
    have hlen:L.length = A.length + (B.length + Bs.flatten.length) + T.length:=by rw [he]; simp; omega
    have:=hr.rest
    omega
 intro k
 induction k with
 | zero=>
  intro bs L Bs T hn hl _ _ _ _ hr hT
  exact stop bs L Bs T hn (by simpa using hl) hr hT
 | succ k ih=>
  intro bs L Bs T hn hl h0 hb1 hL1 dL hr hT
  by_cases hlt:L.length ≤ bs
  ·exact stop bs L Bs T hn hlt hr hT
  ·have he:=hr.eq
   have hlen:L.length = Bs.flatten.length + T.length:=by rw [he,List.length_append]
   have dB:AllD D Bs.flatten:=fun z hz=>dL z (by rw [he]; exact List.mem_append_left _ hz)
   have dT:AllD D T:=fun z hz=>dL z (by rw [he]; exact List.mem_append_right _ hz)
   obtain ⟨Bs',R,a',b',s1,s2,s3,s4,s5⟩:=st3_loop hs n bs ((bs:Int),L) rfl h0 hb1 Bs.length Bs (Nat.le_refl _) [] T (by simp only [List.length_nil]; omega) dB dT hr.blk hr.rest (by simp only [List.length_nil]; omega)
   simp only [List.length_nil,List.nil_append] at s1 s2
   rw [← he,show ((0:Nat):Int) + 2 * (bs:Int) = 2 * (bs:Int) by omega,show ((0:Nat):Int) = 0 from rfl] at s1
   have l5:=s5.len
   rw [List.length_append] at l5
   have hfin:∃ T',g_stableCmpFunc_b2 n g ((bs:Int),L) = some (.inl (((2 * bs:Nat):Int),Bs'.flatten ++ T')) ∧ Srt g T' ∧ T'.length < 2 * bs ∧ Sta D g (R.flatten ++ T) T':=by
    have body:∀ X:List α,(bif decide (w64 (a' + (bs:Int)) < n) then (Option.bind (g_symMergeCmpFunc 64 (Bs'.flatten ++ (R.flatten ++ T)) a' (w64 (a' + (bs:Int))) n g) fun v4=>(some (.inl (w64 ((bs:Int) * 2),v4)):Option ((Int × List α) ⊕ ((Int × List α) ⊕ Empty)))) else (some (.inl (w64 ((bs:Int) * 2),Bs'.flatten ++ (R.flatten ++ T))))) = some (.inl (((2 * bs:Nat):Int),X)) → g_stableCmpFunc_b2 n g ((bs:Int),L) = some (.inl (((2 * bs:Nat):Int),X)):=fun X hX=>by
     unfold g_stableCmpFunc_b2
     simp only
     rw [show decide ((bs:Int) < n) = true from decide_eq_true (by omega),w64_of (n:=2 * (bs:Int)) (by omega) (by omega)]
     simp only [cond_true]
     rw [s1]
     exact hX
    rcases s4 with rfl | ⟨A,rfl,hA,hsA⟩
    ·simp only [List.flatten_nil,List.nil_append,List.length_nil] at *
     refine ⟨T,body _ ?_,hT,by have:=hr.rest; omega,Sta.refl _⟩
     rw [w64_of (n:=a' + (bs:Int)) (by omega) (by omega),w64_of (n:=(bs:Int) * 2) (by omega) (by omega),show decide (a' + (bs:Int) < n) = false from decide_eq_false (by have:=hr.rest; omega)]
     rw [show (bs:Int) * 2 = ((2 * bs:Nat):Int) by omega]
     rfl
    ·simp only [List.flatten_cons,List.flatten_nil,List.append_nil] at *
     by_cases hT0:T = []
     ·subst hT0
      simp only [List.append_nil,List.length_nil] at *
      refine ⟨A,body _ ?_,hsA,by omega,Sta.refl _⟩
      rw [w64_of (n:=a' + (bs:Int)) (by omega) (by omega),w64_of (n:=(bs:Int) * 2) (by omega) (by omega),show decide (a' + (bs:Int) < n) = false from decide_eq_false (by omega)]
      rw [show (bs:Int) * 2 = ((2 * bs:Nat):Int) by omega]
      rfl
     ·have hTp:0 < T.length:=List.length_pos_iff.2 hT0
      have hrr:=hr.rest
      have dA:AllD D A:=s5.all dB |> fun h z hz=>h z (List.mem_append_right _ hz)
      obtain ⟨R',r1,r2,r3⟩:=symMerge_eq hs 64 Bs'.flatten A T [] a' (a' + (bs:Int)) n (by omega) (by omega) (by omega) (by omega) hTp (le64 (by omega)) dA dT hsA hT (by simp only [List.length_nil]; omega)
      simp only [List.append_nil] at r1
      refine ⟨R',body _ ?_,r2,by have:=r3.len; rw [List.length_append] at this; omega,r3⟩
      rw [w64_of (n:=a' + (bs:Int)) (by omega) (by omega),w64_of (n:=(bs:Int) * 2) (by omega) (by omega),show decide (a' + (bs:Int) < n) = true from decide_eq_true (by omega)]
      simp only [cond_true]
      rw [r1,show (bs:Int) * 2 = ((2 * bs:Nat):Int) by omega]
      rfl
   obtain ⟨T',f1,f2,f3,f4⟩:=hfin
   have hst:Sta D g L (Bs'.flatten ++ T'):=by
    have h1:=Sta.app s5 (Sta.refl (D:=D) (g:=g) T)
    rw [← he] at h1
    refine Sta.trans h1 ?_
    rw [List.append_assoc]
    exact Sta.app (Sta.refl _) f4
   have hl2:=hst.len
   obtain ⟨c,R2,g1,g2,g3⟩:=ih (2 * bs) (Bs'.flatten ++ T') Bs' T' (by omega) (by rw [hl2]; rw [Nat.pow_succ] at hl; rw [Nat.mul_comm 2 bs,Nat.mul_assoc,Nat.mul_comm 2]; exact hl) (by omega) (by omega) (by omega) (hst.all dL) ⟨rfl,s3,f3⟩ f2
   exact ⟨c,R2,by rw [loopM_next f1,g1],g2,hst.trans g3⟩
theorem stable_eq (hs:SW D g) (l:List α) (dl:AllD D l) (hN:l.length ≤ 400000000):∃ r,g_SortStableFunc l g = some r ∧ Srt g r ∧ Sta D g l r:=by
 unfold g_SortStableFunc g_stableCmpFunc
 obtain ⟨Bs,T,a',b',s1,s2,s3,s4,s5⟩:=st1_loop hs (l.length:Int) l.length l [] (Nat.le_refl _) (by simp) dl (by simp only [List.length_nil]; omega)
 simp only [List.length_nil,List.nil_append] at s1 s2
 rw [show ((0:Nat):Int) + 20 = 20 from rfl,show ((0:Nat):Int) = 0 from rfl] at s1
 rw [s1]
 simp only [Option.bind_some]
 have hl5:=s5.len
 rw [List.length_append] at hl5
 have dall:=s5.all dl
 obtain ⟨R,r1,r2,r3⟩:=insertion_eq hs Bs.flatten T [] (a:=a') (b:=(l.length:Int)) (by omega) (by omega) (fun z hz=>dall z (List.mem_append_right _ hz)) (by omega)
 simp only [List.append_nil] at r1
 rw [r1]
 simp only [Option.bind_some]
 have hst:Sta D g l (Bs.flatten ++ R):=s5.trans (Sta.app (Sta.refl _) r3)
 have hRl:=r3.len
 have hll:=hst.len
 obtain ⟨c,R2,g1,g2,g3⟩:=st2_loop hs (l.length:Int) 25 20 (Bs.flatten ++ R) Bs R (by omega) (le25 (by omega)) (by omega) (by omega) (by omega) (hst.all dl) ⟨rfl,s3,by omega⟩ r2
 rw [show (20:Int) = ((20:Nat):Int) from rfl,g1]
 exact ⟨R2,rfl,g2,hst.trans g3⟩
theorem srt_uniq (hs:SW D g):∀ {r s:List α},AllD D r → AllD D s → Srt g r → Srt g s → (∀ x,D x → r.filter (eqv g x) = s.filter (eqv g x)) → r = s
 | [],[],_,_,_,_,_=>rfl
 | [],y :: s,_,ds,_,_,h=>by
  have dy:=ds y (by simp)
  have:=h y dy
  rw [List.filter_nil,List.filter_cons_of_pos (by unfold eqv; rw [hs.irr dy]; rfl)] at this
  cases this
 | x :: r,[],dr,_,_,_,h=>by
  have dx:=dr x (by simp)
  have:=h x dx
  rw [List.filter_nil,List.filter_cons_of_pos (by unfold eqv; rw [hs.irr dx]; rfl)] at this
  cases this
 | x :: r,y :: s,dr,ds,sr,ss,h=>by
  have dx:=dr x (by simp)
  have dy:=ds y (by simp)
  have exx:eqv g x x = true:=by unfold eqv; rw [hs.irr dx]; rfl
  have eyy:eqv g y y = true:=by unfold eqv; rw [hs.irr dy]; rfl
  rw [Srt,List.pairwise_cons] at sr ss
  have hx:=h x dx
  have hy:=h y dy
  have mx:x ∈ (y :: s).filter (eqv g x):=by rw [← hx,List.filter_cons_of_pos exx]; exact List.mem_cons_self ..
  have my:y ∈ (x :: r).filter (eqv g y):=by rw [hy,List.filter_cons_of_pos eyy]; exact List.mem_cons_self ..
  have m1:=(List.mem_filter.1 mx).1
  have m2:=(List.mem_filter.1 my).1
  have exy:eqv g x y = true:=by
   have a1:ltM g x y = false:=by
    rcases List.mem_cons.1 m1 with e | m1
    ·rw [e]; exact hs.irr dy
    ·exact ss.1 x m1
   have a2:ltM g y x = false:=by
    rcases List.mem_cons.1 m2 with e | m2
    ·rw [e]; exact hs.irr dx
    ·exact sr.1 y m2
   unfold eqv; rw [a1,a2]; rfl
  have hxy:x = y:=by
   rw [List.filter_cons_of_pos exx,List.filter_cons_of_pos exy] at hx
   exact (List.cons.inj hx).1
  subst hxy
  rw [srt_uniq hs (fun z hz=>dr z (by simp [hz])) (fun z hz=>ds z (by simp [hz])) sr.2 ss.2 fun z dz=>by
   have:=h z dz
   rw [List.filter_cons,List.filter_cons] at this
   split at this
   ·exact (List.cons.inj this).2
   ·exact this]
end
end Go.Pv
set_option linter.unusedSimpArgs false
namespace Go.Pv
open Go
def elB (n:Int):Bool:=decide (n ≥ -1073741824) && decide (n ≤ 1073741824)
theorem q498 (n:Int):q240 n = some (elB n):=rfl
theorem far_eq (n:Int):q201 n = some (!elB n):=by
 unfold q201 elB
 rw [Option.some.injEq,Bool.eq_iff_iff]
 simp only [Bool.or_eq_true,Bool.not_eq_true',Bool.and_eq_false_iff,decide_eq_true_eq,decide_eq_false_iff_not]
 omega
def axP (l:List Int) (i:Nat):Bool:=match l[i]? with
 | none=>false
 | some x=>elB x && (i == 0 || (match l[i - 1]? with | none=>false | some y=>decide (y < x)))
def axB (l:List Int):Bool:=!(decide ((l.length:Int) < 2) || decide ((l.length:Int) > 32)) && (List.range' 0 l.length).all (axP l)
theorem q685 (k:Nat) (h:k < 1000000):w64 (((k + 1:Nat):Int) - 1) = (k:Int):=by rw [w64_of (by omega) (by omega)]; omega
theorem q47 (k:Nat) (h:k < 9000000000000000000):w64 ((k:Int) + 1) = ((k + 1:Nat):Int):=by rw [w64_of (by omega) (by omega)]; omega
theorem obs {α:Type} (o:Option α):(o.bind fun b=>some b) = o:=by cases o <;> rfl
theorem q640 (l:List Int) (j:Nat) (hj:j < l.length) (hl:l.length ≤ 32) :
  (Option.bind (getI l j) fun x=>Option.bind (q240 x) fun v=>Option.bind (bif (!v) then (some true) else (Option.bind (bif (decide ((j:Int) > 0)) then (Option.bind (getI l (w64 (j - 1))) fun x2=>some (decide (x ≤ x2))) else (some false)) fun b2=>some b2)) fun b3=>some b3) = some (!axP l j):=by
 rw [getI_nat,List.getElem?_eq_getElem hj]
 simp only [Option.bind_some,q498]
 unfold axP
 rw [List.getElem?_eq_getElem hj]
 simp only
 cases elB l[j]
 ·rfl
 ·simp only [Bool.not_true,cond_false,Bool.true_and]
  cases j with
  | zero=>rfl
  | succ k=>
   have e:decide (((k + 1:Nat):Int) > 0) = true:=by rw [decide_eq_true_eq]; omega
   have hk:k < l.length:=by omega
   rw [e,q685 k (by omega),getI_nat,List.getElem?_eq_getElem hk]
   simp only [cond_true,Option.bind_some,Nat.add_sub_cancel,List.getElem?_eq_getElem hk,Option.some.injEq]
   rw [Bool.eq_iff_iff]
   simp
theorem axis_eq (l:List Int):q358 l = some (axB l):=by
 unfold q358 axB
 cases h:(decide ((l.length:Int) < 2) || decide ((l.length:Int) > 32))
 ·have hl:l.length ≤ 32:=by simp at h; omega
  have k:=stepsN_all (f:=q426 l) (p:=axP l) (r:=false) l.length 0 (fun j _ hj=>by
   have s:=q640 l j (by omega) hl
   unfold q426
   rw [getI_nat,List.getElem?_eq_getElem (by omega)] at s ⊢
   simp only [Option.bind_some,q498] at s ⊢
   simp only [obs] at s ⊢
   rw [s]
   cases axP l j <;> rfl)
  rw [rangeN_steps _ (by omega)]
  rw [show ((0:Nat):Int) = 0 from rfl] at k
  rw [k]
  cases (List.range' 0 l.length).all (axP l) <;> rfl
 ·rfl
theorem q713 (l:List Int):q170 l = some (axB l):=by
 unfold q170 axB
 cases h:(decide ((l.length:Int) < 2) || decide ((l.length:Int) > 32))
 ·have hl:l.length ≤ 32:=by simp at h; omega
  have k:=loopM_all (mb:=q183 l) (fun i=>(i:Int)) (p:=axP l) (b0:=.inl (l.length:Int)) (b1:=.inr false) l.length (by simp [q183]) (fun j hj=>by
   have s:=q640 l j (by omega) hl
   unfold q183
   have e:decide ((j:Int) < (l.length:Int)) = true:=by simp; omega
   rw [e]
   rw [getI_nat,List.getElem?_eq_getElem (by omega)] at s ⊢
   simp only [Option.bind_some,q498,far_eq,cond_true] at s ⊢
   simp only [obs] at s ⊢
   rw [s,q47 j (by omega)]
   cases axP l j <;> rfl)
  rw [show ((0:Nat):Int) = 0 from rfl] at k
  rw [k]
  cases (List.range' 0 l.length).all (axP l) <;> rfl
 ·rfl
theorem q838 (z:Int):q153 z = some (!elB z):=rfl
theorem q580 (l:List Int) (hn:l.length ≤ 9223372036854775807):q23 l q153 = some (l.any fun z=>!elB z):=
 index_any l hn q153 _ (fun y _=>q838 y)
def rowB (m:SMap) (x:List Int):Bool:=!((x.length:Int) != (m.Y.length:Int)) && !(x.any fun z=>!elB z)
def mapB (m:SMap):Bool:=axB m.X && axB m.Y && !((m.Z.length:Int) != (m.X.length:Int)) && m.Z.all (rowB m)
theorem axB_len {l:List Int} (h:axB l = true):2 ≤ l.length ∧ l.length ≤ 32:=by
 unfold axB at h
 simp at h
 omega
theorem q129 (m:SMap):q76 m = some (mapB m):=by
 unfold q76 mapB
 rw [axis_eq,axis_eq]
 simp only [Option.bind_some]
 cases h1:axB m.X
 ·rfl
 ·cases h2:axB m.Y
  ·rfl
  ·have l1:=axB_len h1
   have l2:=axB_len h2
   simp only [Bool.not_true,cond_false,Option.bind_some,Bool.false_or,Bool.and_true,Bool.true_and]
   cases h3:((m.Z.length:Int) != (m.X.length:Int))
   ·have l3:m.Z.length = m.X.length:=by simp at h3; omega
    rw [rangeM_steps _ (by omega),stepsL_all (p:=rowB m) (r:=false)]
    ·simp only [cond_false,Bool.not_false,Bool.true_and,Option.bind_some]
     cases m.Z.all (rowB m) <;> rfl
    ·intro i y hy
     unfold q507 rowB
     cases h4:((y.length:Int) != (m.Y.length:Int))
     ·have l4:y.length = m.Y.length:=by simp at h4; omega
      rw [q580 y (by omega)]
      simp only [cond_false,Option.bind_some,Bool.not_false,Bool.true_and]
      cases (y.any fun z=>!elB z) <;> rfl
     ·rfl
   ·rfl
theorem q326 (m:SMap):q52 m = some (mapB m):=by
 unfold q52 mapB
 rw [q713,q713]
 simp only [Option.bind_some]
 cases h1:axB m.X
 ·rfl
 ·cases h2:axB m.Y
  ·rfl
  ·have l1:=axB_len h1
   have l2:=axB_len h2
   simp only [Bool.not_true,cond_false,Option.bind_some,Bool.false_or,Bool.and_true,Bool.true_and]
   cases h3:((m.Z.length:Int) != (m.X.length:Int))
   ·have l3:m.Z.length = m.X.length:=by simp at h3; omega
    have k:=loopM_allL (mb:=q157 m) (fun i=>(i:Int)) (p:=rowB m) (b0:=.inl (m.Z.length:Int)) (b1:=.inr false) m.Z (by simp [q157]) (fun j y hy=>by
     have hj:=(List.getElem?_eq_some_iff.1 hy).1
     unfold q157 rowB
     have e:decide ((j:Int) < (m.Z.length:Int)) = true:=by simp; omega
     rw [e,getI_nat,hy]
     simp only [Option.bind_some,cond_true]
     cases h4:((y.length:Int) != (m.Y.length:Int))
     ·have l4:y.length = m.Y.length:=by simp at h4; omega
      have k2:=loopM_allL (mb:=q162 m y) (fun i=>(i:Int)) (p:=elB) (b0:=.inl (y.length:Int)) (b1:=.inr false) y (by simp [q162,l4]) (fun i x hx=>by
       have hi:=(List.getElem?_eq_some_iff.1 hx).1
       unfold q162
       have e:decide ((i:Int) < (m.Y.length:Int)) = true:=by simp; omega
       rw [e,getI_nat,hx]
       simp only [Option.bind_some,cond_true,far_eq]
       rw [q47 i (by omega)]
       cases elB x <;> rfl)
      rw [show ((0:Nat):Int) = 0 from rfl] at k2
      rw [k2,q47 j (by omega)]
      have e2:(y.any fun z=>!elB z) = !y.all elB:=by rw [List.any_eq_not_all_not]; simp
      rw [e2]
      cases y.all elB <;> rfl
     ·rfl)
    rw [show ((0:Nat):Int) = 0 from rfl] at k
    rw [k]
    simp only [cond_false,Bool.not_false,Bool.true_and,Option.bind_some]
    cases m.Z.all (rowB m) <;> rfl
   ·rfl
end Go.Pv
set_option linter.unusedSimpArgs false
namespace Go.Pv
open Go
structure Axis (l:List Int):Prop where
 two:2 ≤ l.length
 most:l.length ≤ 32
 el:∀ i (h:i < l.length),-1073741824 ≤ l[i] ∧ l[i] ≤ 1073741824
 asc:∀ i (h:i + 1 < l.length),l[i] < l[i + 1]
theorem axis_of {l:List Int} (h:axB l = true):Axis l:=by
 obtain ⟨h2,h3⟩:=axB_len h
 unfold axB at h
 rw [Bool.and_eq_true,List.all_eq_true] at h
 have hp:∀ i (hi:i < l.length),axP l i = true:=fun i hi=>h.2 i (by rw [List.mem_range']; exact ⟨i,hi,by omega⟩)
 refine ⟨h2,h3,fun i hi=>?_,fun i hi=>?_⟩
 ·have:=hp i hi
  unfold axP at this
  rw [List.getElem?_eq_getElem hi] at this
  simp [elB] at this
  omega
 ·have:=hp (i + 1) hi
  unfold axP at this
  rw [List.getElem?_eq_getElem hi,Nat.add_sub_cancel,List.getElem?_eq_getElem (by omega:i < l.length)] at this
  simp at this
  exact this.2
theorem Axis.lt {l:List Int} (h:Axis l):∀ (j i:Nat) (hj:j < l.length) (hi:i < j),l[i] < l[j]
 | 0,_,_,hi=>absurd hi (by omega)
 | j + 1,i,hj,hi=>by
  rcases Nat.lt_or_ge i j with h1 | h1
  ·exact Int.lt_trans (h.lt j i (by omega) h1) (h.asc j hj)
  ·have:i = j:=by omega
   subst this
   exact h.asc i hj
theorem Axis.le {l:List Int} (h:Axis l) (j i:Nat) (hj:j < l.length) (hi:i ≤ j):l[i] ≤ l[j]:=by
 rcases Nat.lt_or_ge i j with h1 | h1
 ·exact Int.le_of_lt (h.lt j i hj h1)
 ·have:i = j:=by omega
  subst this
  exact Int.le_refl _
def lim (l:List Int) (x:Int):Int:=min (max x (l.headD 0)) (l.getLastD 0)
theorem q541 (l:List Int) (h:0 < l.length):l.headD 0 = l[0]:=by cases l with
 | nil=>simp at h
 | cons a l=>rfl
theorem q432 (l:List Int) (h:0 < l.length):l.getLastD 0 = l[l.length - 1]:=by
 cases l with
 | nil=>simp at h
 | cons a l=>rw [List.getLastD_cons,← List.getLast_eq_getElem (List.cons_ne_nil a l),List.getLast_eq_getLastD]
theorem q809 {l:List Int} (h:Axis l) (x:Int):l.headD 0 ≤ lim l x ∧ lim l x ≤ l.getLastD 0:=by
 have h2:=h.two
 have:=h.le (l.length - 1) 0 (by omega) (by omega)
 unfold lim
 rw [q541 l (by omega),q432 l (by omega)]
 omega
def SegAt (l:List Int) (v:Int) (i:Nat):Prop:=∃ h:i + 1 < l.length,l[i] ≤ v ∧ v ≤ l[i + 1] ∧ (i + 2 = l.length ∨ v < l[i + 1])
theorem SegAt.uniq {l:List Int} (h:Axis l) {v:Int} {i j:Nat} (a:SegAt l v i) (b:SegAt l v j):i = j:=by
 obtain ⟨hi,a1,a2,a3⟩:=a
 obtain ⟨hj,b1,b2,b3⟩:=b
 rcases Nat.lt_trichotomy i j with h1 | h1 | h1
 ·have:=h.le j (i + 1) (by omega) (by omega)
  rcases a3 with h3 | h3 <;> omega
 ·exact h1
 ·have:=h.le i (j + 1) (by omega) (by omega)
  rcases b3 with h3 | h3 <;> omega
def nd (l:List Int) (i:Nat):Int:=l.getD i 0
def zz (m:SMap) (i j:Nat):Int:=(m.Z.getD i []).getD j 0
theorem nd_get {l:List Int} {i:Nat} (h:i < l.length):nd l i = l[i]:=by unfold nd; rw [List.getD_eq_getElem?_getD,List.getElem?_eq_getElem h]; rfl
theorem zz_get {m:SMap} {i j:Nat} (h:i < m.Z.length) (h2:j < m.Z[i].length):zz m i j = m.Z[i][j]:=by
 unfold zz
 have e:m.Z.getD i [] = m.Z[i]:=by rw [List.getD_eq_getElem?_getD,List.getElem?_eq_getElem h]; rfl
 rw [e,List.getD_eq_getElem?_getD,List.getElem?_eq_getElem h2]; rfl
structure MapOk (m:SMap):Prop where
 x:Axis m.X
 y:Axis m.Y
 zl:m.Z.length = m.X.length
 rl:∀ i (h:i < m.Z.length),m.Z[i].length = m.Y.length
 el:∀ i j,i < m.X.length → j < m.Y.length → -1073741824 ≤ zz m i j ∧ zz m i j ≤ 1073741824
theorem mapOk {m:SMap} (h:mapB m = true):MapOk m:=by
 unfold mapB at h
 simp only [Bool.and_eq_true,Bool.not_eq_true',List.all_eq_true] at h
 obtain ⟨⟨⟨hx,hy⟩,hz⟩,hr⟩:=h
 have lz:m.Z.length = m.X.length:=by simp at hz; omega
 have len:∀ r ∈ m.Z,r.length = m.Y.length ∧ ∀ z ∈ r,-1073741824 ≤ z ∧ z ≤ 1073741824:=by
  intro r hrm
  have:=hr r hrm
  unfold rowB at this
  simp [elB] at this
  refine ⟨by omega,fun z hz=>?_⟩
  have:=this.2 z hz
  omega
 refine ⟨axis_of hx,axis_of hy,lz,fun i hi=>(len _ (List.getElem_mem hi)).1,fun i j hi hj=>?_⟩
 have hiz:i < m.Z.length:=by omega
 have:=len _ (List.getElem_mem hiz)
 have hj':j < m.Z[i].length:=by omega
 rw [zz_get hiz hj']
 exact this.2 _ (List.getElem_mem hj')
theorem axB_iff {l:List Int}:axB l = true ↔ Axis l:=by
 refine ⟨axis_of,fun h=>?_⟩
 have h2:=h.two
 have h3:=h.most
 unfold axB
 rw [Bool.and_eq_true,List.all_eq_true]
 refine ⟨by simp; omega,fun i hi=>?_⟩
 rw [List.mem_range'] at hi
 obtain ⟨j,hj,rfl⟩:=hi
 have hj':0 + 1 * j = j:=by omega
 rw [hj']
 unfold axP
 rw [List.getElem?_eq_getElem hj]
 have e:=h.el j hj
 cases j with
 | zero=>simp [elB]; omega
 | succ k=>
  have a:=h.asc k hj
  rw [Nat.add_sub_cancel,List.getElem?_eq_getElem (by omega:k < l.length)]
  simp [elB]; omega
theorem q109 {a b:Bool} (h:a = true ↔ b = true):a = b:=Bool.eq_iff_iff.2 h
end Go.Pv
set_option linter.unusedSimpArgs false
namespace Go.Pv
open Go
theorem q142 (l:List Int) (hn:l.length ≤ 9223372036854775807) (f:Int → Option Bool) (p:Int → Bool) (h:∀ y ∈ l,f y = some (p y)):q23 l f = some (l.any p):=
 index_any l hn f p h
theorem far_el (n:Int):q224 n = some (!elB n):=by
 unfold q224 elB
 rw [Option.some.injEq,Bool.eq_iff_iff]
 simp only [Bool.or_eq_true,Bool.not_eq_true',Bool.and_eq_false_iff,decide_eq_true_eq,decide_eq_false_iff_not]
 omega
theorem q869 (l:List Int):q493 l = some (axB l):=by
 unfold q493
 cases h:(decide ((l.length:Int) < 2) || decide ((l.length:Int) > 32))
 ·have hl:2 ≤ l.length ∧ l.length ≤ 32:=by simp at h; omega
  rw [cond_false,q142 l (by omega) q224 _ (fun y _=>far_el y)]
  simp only [Option.bind_some]
  cases hf:(l.any fun n=>!elB n)
  ·have hall:∀ i (hi:i < l.length),-1073741824 ≤ l[i] ∧ l[i] ≤ 1073741824:=fun i hi=>by
    rw [List.any_eq_false] at hf
    have:=hf _ (List.getElem_mem hi)
    simp [elB] at this
    omega
   have e:w64 ((l.length:Int) - 1) = ((l.length - 1:Nat):Int):=by rw [w64_of (by omega) (by omega)]; omega
   have k:=stepsN_all (f:=q477 l) (p:=fun j=>decide (nd l j < nd l (j + 1))) (r:=false) (l.length - 1) 0 (fun j _ hj=>by
    unfold q477
    rw [w64_of (by omega) (by omega),show (j:Int) + 1 = ((j + 1:Nat):Int) from rfl,getI_get l j (by omega),Option.bind_some,getI_get l (j + 1) (by omega),Option.bind_some,nd_get (by omega),nd_get (by omega)]
    by_cases q:l[j] < l[j + 1]
    ·rw [decide_eq_true q,decide_eq_false (by omega)]; rfl
    ·rw [decide_eq_false q,decide_eq_true (by omega)]; rfl)
   rw [show ((0:Nat):Int) = 0 from rfl] at k
   rw [cond_false,e,rangeN_steps _ (by omega),k]
   have:((List.range' 0 (l.length - 1)).all fun j=>decide (nd l j < nd l (j + 1))) = axB l:=by
    apply q109
    rw [axB_iff,List.all_eq_true]
    constructor
    ·intro q
     refine ⟨hl.1,hl.2,hall,fun i hi=>?_⟩
     have:=q i (by rw [List.mem_range']; exact ⟨i,by omega,by omega⟩)
     rw [decide_eq_true_eq,nd_get (by omega),nd_get hi] at this
     exact this
    ·intro q i hi
     rw [List.mem_range'] at hi
     obtain ⟨j,hj,rfl⟩:=hi
     rw [show 0 + 1 * j = j by omega,decide_eq_true_eq,nd_get (by omega),nd_get (by omega)]
     exact q.asc j (by omega)
   rw [this]
   cases axB l <;> rfl
  ·have:axB l = false:=by
    cases q:axB l
    ·rfl
    ·have:=(axB_iff.1 q).el
     rw [List.any_eq_true] at hf
     obtain ⟨z,hz,hz2⟩:=hf
     obtain ⟨i,hi,rfl⟩:=List.mem_iff_getElem.1 hz
     have:=this i hi
     simp [elB] at hz2
     omega
   rw [this]
   rfl
 ·unfold axB
  rw [h]
  rfl
def curB (c:SCurve):Bool:=((c.X.length:Int) == (c.Y.length:Int)) && axB c.X && !(c.Y.any fun n=>!elB n)
theorem q100 (c:SCurve):q90 c = some (curB c):=by
 unfold q90 curB
 cases h:((c.X.length:Int) == (c.Y.length:Int))
 ·rfl
 ·rw [cond_true,q869]
  simp only [Option.bind_some,Bool.true_and]
  cases h2:axB c.X
  ·rfl
  ·have:=axB_len h2
   have hl:c.Y.length = c.X.length:=by simp at h; omega
   rw [cond_true,q142 c.Y (by omega) q224 _ (fun y _=>far_el y)]
   rfl
structure CurOk (c:SCurve):Prop where
 x:Axis c.X
 yl:c.Y.length = c.X.length
 el:∀ i,i < c.X.length → -1073741824 ≤ nd c.Y i ∧ nd c.Y i ≤ 1073741824
theorem curOk {c:SCurve} (h:curB c = true):CurOk c:=by
 unfold curB at h
 simp only [Bool.and_eq_true,Bool.not_eq_true',List.any_eq_false] at h
 obtain ⟨⟨h1,h2⟩,h3⟩:=h
 have hl:c.Y.length = c.X.length:=by simp at h1; omega
 refine ⟨axis_of h2,hl,fun i hi=>?_⟩
 rw [nd_get (by omega)]
 have:=h3 _ (List.getElem_mem (by omega:i < c.Y.length))
 simp [elB] at this
 omega
end Go.Pv
set_option linter.unusedSimpArgs false
namespace Go.Pv
open Go
theorem q835 {α:Type} {l:List α} {p q:α → Bool} (h:∀ x ∈ l,p x = q x):l.all p = l.all q:=by
 induction l with
 | nil=>rfl
 | cons x l ih=>rw [List.all_cons,List.all_cons,h x (List.mem_cons_self ..),ih (fun y hy=>h y (List.mem_cons_of_mem _ hy))]
theorem q684 {mb:Int → Option (Int ⊕ (Int ⊕ Bool))} (bad:Nat → Bool):∀ (k:Nat),(∀ i:Nat,i < k → mb ((i + 1:Nat):Int) = some (bif bad i then .inr (.inr false) else .inl (i:Int))) → (∀ i:Int,i ≤ 0 → mb i = some (.inr (.inl i))) →
  ∃ t:Int ⊕ Bool,loopM mb (k:Int) = some t ∧ (match t with | .inl _=>∀ i,i < k → bad i = false | .inr r=>r = false ∧ ∃ i,i < k ∧ bad i = true)
 | 0,_,h0=>⟨.inl 0,loopM_out (h0 0 (Int.le_refl _)),fun i hi=>absurd hi (by omega)⟩
 | k + 1,h,h0=>by
  have h1:=h k (by omega)
  cases hb:bad k
  ·rw [hb] at h1
   obtain ⟨t,a,b⟩:=q684 bad k (fun i hi=>h i (by omega)) h0
   refine ⟨t,by rw [loopM_next h1]; exact a,?_⟩
   cases t with
   | inl i=>
    exact fun i hi=>by
     rcases Nat.lt_or_ge i k with q | q
     ·exact b i q
     ·have:i = k:=by omega
      subst this; exact hb
   | inr r=>exact ⟨b.1,b.2.imp fun i hi=>⟨by omega,hi.2⟩⟩
  ·rw [hb] at h1
   exact ⟨.inr false,loopM_out h1,rfl,k,by omega,hb⟩
def ascB (l:List Int):Bool:=(List.range' 0 (l.length - 1)).all fun j=>decide (nd l j ≤ nd l (j + 1))
def descB (l:List Int):Bool:=(List.range' 0 (l.length - 1)).all fun j=>decide (nd l (j + 1) ≤ nd l j)
theorem q192 {n:Nat} {p:Nat → Bool}:(List.range' 0 n).all p = true ↔ ∀ i,i < n → p i = true:=by
 rw [List.all_eq_true]
 constructor
 ·exact fun h i hi=>h i (by rw [List.mem_range']; exact ⟨i,hi,by omega⟩)
 ·intro h i hi
  rw [List.mem_range'] at hi
  obtain ⟨j,hj,rfl⟩:=hi
  rw [show 0 + 1 * j = j by omega]
  exact h j hj
theorem q708 {l:List Int} (h:l.length ≤ 9223372036854775807) (h0:0 < l.length):w64 ((l.length:Int) - 1) = ((l.length - 1:Nat):Int):=by rw [w64_of (by omega) (by omega)]; omega
theorem q682 (l:List Int) (h:l.length ≤ 9223372036854775807):q119 l = some (ascB l):=by
 have h0:∀ i:Int,i ≤ 0 → q83 l i = some (.inr (.inl i)):=fun i hi=>by
  unfold q83
  rw [decide_eq_false (by omega)]; rfl
 unfold q119
 rcases Nat.eq_zero_or_pos l.length with hz | hz
 ·have e:w64 ((l.length:Int) - 1) = -1:=by rw [hz]; decide
  rw [e,loopM_out (h0 (-1) (by omega))]
  unfold ascB
  rw [hz]; rfl
 ·rw [q708 h hz]
  obtain ⟨t,a,b⟩:=q684 (mb:=q83 l) (fun i=>decide (nd l (i + 1) < nd l i)) (l.length - 1) (fun i hi=>by
   unfold q83
   rw [decide_eq_true (by omega),cond_true,getI_get l (i + 1) (by omega),Option.bind_some,w64_of (by omega) (by omega),show ((i + 1:Nat):Int) - 1 = (i:Int) by omega,getI_get l i (by omega),Option.bind_some,nd_get (by omega),nd_get (by omega)]
   have e:q436 l[i + 1] l[i] = some (decide (l[i + 1] < l[i])):=by
    unfold q436 q404
    simp
   rw [e,Option.bind_some]
   cases decide (l[i + 1] < l[i]) <;> rfl) h0
  rw [a]
  cases t with
  | inl i=>
   have:ascB l = true:=q192.2 fun i hi=>by
    have:=b i hi
    rw [decide_eq_false_iff_not] at this
    rw [decide_eq_true_eq]; omega
   rw [this]; rfl
  | inr r=>
   obtain ⟨rfl,i,hi,q⟩:=b
   have:ascB l = false:=by
    cases z:ascB l
    ·rfl
    ·have:=q192.1 z i hi
     rw [decide_eq_true_eq] at this q
     omega
   rw [this]; rfl
theorem q749 (l:List Int) (h:l.length ≤ 9223372036854775807) (hb:∀ i,i < l.length → -1073741824 ≤ nd l i ∧ nd l i ≤ 1073741824):q57 l q102 = some (descB l):=by
 have h0:∀ i:Int,i ≤ 0 → q59 l q102 i = some (.inr (.inl i)):=fun i hi=>by
  unfold q59
  rw [decide_eq_false (by omega)]; rfl
 unfold q57
 rcases Nat.eq_zero_or_pos l.length with hz | hz
 ·have e:w64 ((l.length:Int) - 1) = -1:=by rw [hz]; decide
  rw [e,loopM_out (h0 (-1) (by omega))]
  unfold descB
  rw [hz]; rfl
 ·rw [q708 h hz]
  obtain ⟨t,a,b⟩:=q684 (mb:=q59 l q102) (fun i=>decide (nd l i < nd l (i + 1))) (l.length - 1) (fun i hi=>by
   unfold q59
   rw [decide_eq_true (by omega),cond_true,getI_get l (i + 1) (by omega),Option.bind_some,w64_of (by omega) (by omega),show ((i + 1:Nat):Int) - 1 = (i:Int) by omega,getI_get l i (by omega),Option.bind_some,← nd_get (by omega),← nd_get (by omega)]
   have b1:=hb i (by omega)
   have b2:=hb (i + 1) (by omega)
   have e:q102 (nd l (i + 1)) (nd l i) = some (nd l i - nd l (i + 1)):=by
    unfold q102
    rw [w64_of (by omega) (by omega)]
   rw [e,Option.bind_some]
   by_cases q:nd l i < nd l (i + 1)
   ·rw [decide_eq_true q,decide_eq_true (by omega)]; rfl
   ·rw [decide_eq_false q,decide_eq_false (by omega)]; rfl) h0
  rw [a]
  cases t with
  | inl i=>
   have:descB l = true:=q192.2 fun i hi=>by
    have:=b i hi
    rw [decide_eq_false_iff_not] at this
    rw [decide_eq_true_eq]; omega
   rw [this]; rfl
  | inr r=>
   obtain ⟨rfl,i,hi,q⟩:=b
   have:descB l = false:=by
    cases z:descB l
    ·rfl
    ·have:=q192.1 z i hi
     rw [decide_eq_true_eq] at this q
     omega
   rw [this]; rfl
def inR (lo hi x:Int):Bool:=decide (x ≥ lo) && decide (x ≤ hi)
theorem q710 (l:List Int) (h:l.length ≤ 9223372036854775807) (lo hi:Int):q299 l lo hi = some (!l.all (inR lo hi)):=by
 unfold q299
 rw [q142 l h (fun x0=>q314 x0 lo hi) (fun x=>!inR lo hi x) (fun y _=>rfl)]
 have:(l.any fun x=>!inR lo hi x) = !l.all (inR lo hi):=by rw [List.any_eq_not_all_not]; simp
 rw [this]; rfl
def torB (t:STables):Bool:=mapB t.Torque && curB t.Efficiency && t.Efficiency.Y.all (inR 0 1000) && descB t.Efficiency.Y && t.Torque.Z.all fun r=>r.all (inR 0 10000) && ascB r
theorem q425 (t:STables):q286 t = some (torB t):=by
 unfold q286 torB
 rw [q129]
 cases h1:mapB t.Torque
 ·rfl
 ·have hm:=mapOk h1
  simp only [Option.bind_some,Bool.not_true,cond_false,Bool.true_and,q100]
  cases h2:curB t.Efficiency
  ·rfl
  ·have hc:=curOk h2
   have l1:=hc.x.most
   have l2:=hc.yl
   simp only [Option.bind_some,Bool.not_true,cond_false,Bool.true_and]
   rw [q710 _ (by omega)]
   cases h3:t.Efficiency.Y.all (inR 0 1000)
   ·rfl
   ·simp only [Option.bind_some,Bool.not_true,cond_false,Bool.true_and]
    rw [q749 _ (by omega) (fun i hi=>hc.el i (by omega))]
    cases h4:descB t.Efficiency.Y
    ·rfl
    ·simp only [Option.bind_some,Bool.not_true,cond_false,Bool.true_and]
     have k:q41 t.Torque.Z q195 = some (t.Torque.Z.any fun r=>!(r.all (inR 0 10000) && ascB r)):=
      index_any t.Torque.Z (by have:=hm.zl; have:=hm.x.most; omega) q195 _ (fun r hr=>by
       obtain ⟨i,hi,rfl⟩:=List.mem_iff_getElem.1 hr
       have lr:t.Torque.Z[i].length ≤ 32:=by rw [hm.rl i hi]; exact hm.y.most
       unfold q195
       rw [q710 _ (by omega),Option.bind_some,q682 _ (by omega)]
       cases t.Torque.Z[i].all (inR 0 10000) <;> cases ascB t.Torque.Z[i] <;> rfl)
     rw [k,Option.bind_some,List.any_eq_not_all_not]
     simp
end Go.Pv
set_option linter.unusedSimpArgs false
namespace Go.Pv
open Go
theorem fits_eq (n:Int):q266 n = some (elB n):=rfl
theorem q784 (l:List Int):q271 l = some (axB l):=by
 unfold q271 axB
 cases h:(decide ((l.length:Int) < 2) || decide ((l.length:Int) > 32))
 ·have hl:l.length ≤ 32:=by simp at h; omega
  have k:=loopM_all (mb:=q189 l) (fun i=>(i:Int)) (p:=axP l) (b0:=.inl (l.length:Int)) (b1:=.inr false) l.length (by simp [q189]) (fun j hj=>by
   have s:=q640 l j (by omega) hl
   unfold q189
   have e:decide ((j:Int) < (l.length:Int)) = true:=by simp; omega
   rw [e]
   rw [getI_nat,List.getElem?_eq_getElem (by omega)] at s ⊢
   simp only [Option.bind_some,q498,fits_eq,cond_true] at s ⊢
   simp only [obs] at s ⊢
   rw [s,q47 j (by omega)]
   cases axP l j <;> rfl)
  rw [show ((0:Nat):Int) = 0 from rfl] at k
  rw [k]
  cases (List.range' 0 l.length).all (axP l) <;> rfl
 ·rfl
theorem q800 (l:List Int):(!(l.any fun n=>!elB n)) = l.all elB:=by
 rw [List.any_eq_not_all_not,Bool.not_not]
 exact q835 fun x _=>by rw [Bool.not_not]
theorem up_all {α:Type} {mb:Int → Option (Int ⊕ (Int ⊕ Bool))} (p:α → Bool) (l:List α) (hend:mb (l.length:Int) = some (.inr (.inl (l.length:Int))))
  (h:∀ (k:Nat) (hk:k < l.length),mb (k:Int) = some (bif p l[k] then .inl ((k + 1:Nat):Int) else .inr (.inr false))) :
  loopM mb 0 = some (bif l.all p then .inl (l.length:Int) else .inr false):=by
 have k:=loopM_allL (mb:=mb) (fun i=>(i:Int)) (p:=p) (b0:=.inl (l.length:Int)) (b1:=.inr false) l hend (fun k y hy=>by
  obtain ⟨hk,rfl⟩:=List.getElem?_eq_some_iff.1 hy
  exact h k hk)
 rw [show ((0:Nat):Int) = 0 from rfl] at k
 rw [k]
theorem up_idx {mb:Int → Option (Int ⊕ (Int ⊕ Bool))} (p:Nat → Bool) (n:Nat) (hend:mb (n:Int) = some (.inr (.inl (n:Int))))
  (h:∀ k,k < n → mb (k:Int) = some (bif p k then .inl ((k + 1:Nat):Int) else .inr (.inr false))) :
  loopM mb 0 = some (bif (List.range' 0 n).all p then .inl (n:Int) else .inr false):=by
 have k:=loopM_all (mb:=mb) (fun i=>(i:Int)) (p:=p) (b0:=.inl (n:Int)) (b1:=.inr false) n hend h
 rw [show ((0:Nat):Int) = 0 from rfl] at k
 rw [k]
theorem ltN {k n:Nat} (h:k < n):decide ((k:Int) < (n:Int)) = true:=by rw [decide_eq_true_eq]; omega
theorem ltNN (n:Nat):decide ((n:Int) < (n:Int)) = false:=by rw [decide_eq_false_iff_not]; omega
theorem q362 (c:SCurve):q72 c = some (curB c):=by
 unfold q72 curB
 rw [q784,Option.bind_some]
 cases h:axB c.X
 ·rw [Bool.and_false,Bool.false_and]; rfl
 ·have hx:=axB_len h
  cases h2:((c.X.length:Int) == (c.Y.length:Int))
  ·have:((c.Y.length:Int) != (c.X.length:Int)) = true:=by simp at h2 ⊢; omega
   rw [this]; rfl
  ·have hl:c.Y.length = c.X.length:=by simp at h2; omega
   have:((c.Y.length:Int) != (c.X.length:Int)) = false:=by simp; omega
   rw [this,Bool.not_true,Bool.or_false,cond_false,up_all elB c.Y (by unfold q306; rw [ltNN]; rfl) (fun k hk=>by
    unfold q306
    rw [ltN hk,cond_true,getI_get _ k hk,Option.bind_some,fits_eq,Option.bind_some,q47 k (by omega)]
    cases elB c.Y[k] <;> rfl),q800]
   cases c.Y.all elB <;> rfl
theorem asc_le {l : List Int} (h : ascB l = true) : ∀ (j i : Nat), i ≤ j → j < l.length → nd l i ≤ nd l j
  | 0, i, hi, _ => by have : i = 0 := by omega
                      subst this; exact Int.le_refl _
  | j + 1, i, hi, hj => by
    rcases Nat.lt_or_ge i (j + 1) with q | q
    · have a := asc_le h j i (by omega) (by omega)
      have b := q192.1 h j (by omega)
      rw [decide_eq_true_eq] at b
      omega
    · have : i = j + 1 := by omega
      subst this; exact Int.le_refl _
theorem q831 (l:List Int) (q:Int → Bool):((List.range' 0 l.length).all fun j=>q (nd l j) && (decide (j = 0) || decide (nd l (j - 1) ≤ nd l j))) = (l.all q && ascB l):=by
 apply q109
 rw [q192,Bool.and_eq_true]
 unfold ascB
 rw [q192,List.all_eq_true]
 constructor
 ·intro h
  refine ⟨fun x hx=>?_,fun i hi=>?_⟩
  ·obtain ⟨i,hi,rfl⟩:=List.mem_iff_getElem.1 hx
   have:=h i hi
   rw [Bool.and_eq_true,nd_get hi] at this
   exact this.1
  ·have:=h (i + 1) (by omega)
   rw [Bool.and_eq_true,Bool.or_eq_true,decide_eq_true_eq] at this
   rcases this.2 with z | z
   ·omega
   ·exact z
 ·rintro ⟨a,b⟩ i hi
  rw [Bool.and_eq_true,Bool.or_eq_true,decide_eq_true_eq]
  refine ⟨by rw [nd_get hi]; exact a _ (List.getElem_mem hi),?_⟩
  cases i with
  | zero=>exact .inl rfl
  | succ i=>exact .inr (b i (by omega))
def airRow (r:List Int):Bool:=r.all (inR 0 1048576) && ascB r
def airB (t:STables):Bool:=mapB t.Air && curB t.AirTemp && t.Air.Z.all airRow && t.AirTemp.Y.all (inR 100 3000)
theorem q58 (x lo hi:Int):q53 x lo hi = some (inR lo hi x):=rfl
theorem q64 (x lo hi:Int):q24 x lo hi = some (inR lo hi x):=rfl
theorem q796 {r:List Int} (h0:0 < r.length) (ha:ascB r = true):(inR 0 1048576 (nd r 0) && inR 0 1048576 (nd r (r.length - 1))) = r.all (inR 0 1048576):=by
 apply q109
 rw [Bool.and_eq_true,List.all_eq_true]
 unfold inR
 constructor
 ·rintro ⟨a,b⟩ x hx
  obtain ⟨i,hi,rfl⟩:=List.mem_iff_getElem.1 hx
  have u:=asc_le ha i 0 (by omega) hi
  have v:=asc_le ha (r.length - 1) i (by omega) (by omega)
  rw [nd_get hi] at u v
  rw [Bool.and_eq_true,decide_eq_true_eq,decide_eq_true_eq] at *
  omega
 ·intro h
  rw [nd_get h0,nd_get (by omega:r.length - 1 < r.length)]
  exact ⟨h _ (List.getElem_mem _),h _ (List.getElem_mem _)⟩
theorem q530 (t:STables):q417 t = some (airB t):=by
 unfold q417 airB
 rw [q129]
 cases h1:mapB t.Air
 ·rfl
 ·have hm:=mapOk h1
  simp only [Option.bind_some,Bool.not_true,cond_false,Bool.true_and,q100]
  cases h2:curB t.AirTemp
  ·rfl
  ·have hc:=curOk h2
   have l1:=hc.x.most
   have l2:=hc.yl
   have zl:=hm.zl
   have xm:=hm.x.most
   have ym:=hm.y.most
   have y2:=hm.y.two
   simp only [Option.bind_some,Bool.not_true,cond_false,Bool.true_and]
   rw [rangeM_steps _ (by omega),stepsL_all (p:=airRow) (r:=false)]
   ·cases h3:t.Air.Z.all airRow
    ·rfl
    ·rw [cond_true,Option.bind_some]
     simp only
     rw [q142 _ (by omega) q460 (fun y=>!inR 100 3000 y) (fun y _=>rfl),Option.bind_some,List.any_eq_not_all_not,Bool.not_not]
     simp only [Bool.not_not,Bool.true_and]
   ·intro i r hr
    obtain ⟨k,hk,rfl⟩:=List.mem_iff_getElem.1 hr
    have rl:=hm.rl k hk
    unfold q667 airRow
    rw [q682 _ (by omega),Option.bind_some]
    cases h4:ascB t.Air.Z[k]
    ·rw [Bool.and_false]; rfl
    ·have g0:getI t.Air.Z[k] 0 = some (t.Air.Z[k][0]'(by omega)):=getI_get _ 0 (by omega)
     rw [Bool.not_true,cond_false,Bool.and_true,g0,q708 (by omega) (by omega),getI_get _ _ (by omega:t.Air.Z[k].length - 1 < t.Air.Z[k].length),← nd_get,← nd_get,← q796 (by omega) h4]
     simp only [Option.bind_some,q58]
     cases inR 0 1048576 (nd t.Air.Z[k] 0) <;> cases inR 0 1048576 (nd t.Air.Z[k] (t.Air.Z[k].length - 1)) <;> rfl
theorem q771 {mb:Int → Option (Int ⊕ (Int ⊕ Bool))} (r:List Int) (q:Int → Bool) (hend:mb (r.length:Int) = some (.inr (.inl (r.length:Int))))
  (h:∀ k,k < r.length → mb (k:Int) = some (bif q (nd r k) && (decide (k = 0) || decide (nd r (k - 1) ≤ nd r k)) then .inl ((k + 1:Nat):Int) else .inr (.inr false))) :
  loopM mb 0 = some (bif r.all q && ascB r then .inl (r.length:Int) else .inr false):=by
 rw [up_idx (fun k=>q (nd r k) && (decide (k = 0) || decide (nd r (k - 1) ≤ nd r k))) r.length hend h,q831]
theorem prevB (r:List Int) (k:Nat) (hk:k < r.length) (hl:r.length ≤ 1000) (y:Int) (hy:y = nd r k) :
  (bif (decide ((k:Int) > 0)) then (Option.bind (getI r (w64 (k - 1))) fun x3=>some (decide (y < x3))) else (some false)) = some (!(decide (k = 0) || decide (nd r (k - 1) ≤ nd r k))):=by
 subst hy
 cases k with
 | zero=>rfl
 | succ k=>
  rw [decide_eq_true (by omega),cond_true,q685 k (by omega),getI_get r k (by omega),Option.bind_some,← nd_get,decide_eq_false (by omega:¬ k + 1 = 0),Bool.false_or,Nat.add_sub_cancel]
  by_cases q:nd r k ≤ nd r (k + 1)
  ·rw [decide_eq_true q,decide_eq_false (by omega)]; rfl
  ·rw [decide_eq_false q,decide_eq_true (by omega)]; rfl
theorem q448 (t:STables):q105 t = some (airB t):=by
 unfold q105 airB
 rw [q326]
 cases h1:mapB t.Air
 ·rfl
 ·have hm:=mapOk h1
  simp only [Option.bind_some,Bool.not_true,cond_false,Bool.true_and,q362]
  cases h2:curB t.AirTemp
  ·rfl
  ·have hc:=curOk h2
   have l1:=hc.x.most
   have l2:=hc.yl
   have zl:=hm.zl
   have xm:=hm.x.most
   have ym:=hm.y.most
   simp only [Option.bind_some,Bool.not_true,cond_false,Bool.true_and]
   rw [up_all airRow t.Air.Z (by unfold q300; rw [ltNN]; rfl) (fun k hk=>by
    have rl:=hm.rl k hk
    unfold q300 airRow
    rw [ltN hk,cond_true,q771 t.Air.Z[k] (inR 0 1048576) (by unfold q289; rw [getI_get _ k hk,Option.bind_some,ltNN]; rfl) (fun j hj=>by
     unfold q289
     rw [getI_get _ k hk,Option.bind_some,ltN hj,cond_true,getI_get _ j hj,Option.bind_some,← nd_get hj,q64,Option.bind_some,prevB _ j hj (by omega) _ rfl,q47 j (by omega)]
     cases inR 0 1048576 (nd t.Air.Z[k] j)
     ·rfl
     ·cases (decide (j = 0) || decide (nd t.Air.Z[k] (j - 1) ≤ nd t.Air.Z[k] j)) <;> rfl),q47 k (by omega)]
    cases (t.Air.Z[k].all (inR 0 1048576) && ascB t.Air.Z[k]) <;> rfl)]
   cases h3:t.Air.Z.all airRow
   ·rfl
   ·rw [cond_true,Option.bind_some]
    simp only
    rw [up_all (inR 100 3000) t.AirTemp.Y (by unfold q288; rw [ltNN]; rfl) (fun k hk=>by
     unfold q288
     rw [ltN hk,cond_true,getI_get _ k hk,Option.bind_some,q64,Option.bind_some,q47 k (by omega)]
     cases inR 100 3000 t.AirTemp.Y[k] <;> rfl)]
    cases t.AirTemp.Y.all (inR 100 3000) <;> rfl
def sparkB (t:STables):Bool:=mapB t.Spark && curB t.Dwell && (t.Spark.Z.all fun r=>r.all (inR (-1280) 3840)) && t.Dwell.Y.all (inR 500 10000)
theorem q395 (x lo hi:Int):q29 x lo hi = some (inR lo hi x):=rfl
theorem q742 (t:STables):q247 t = some (sparkB t):=by
 unfold q247 sparkB
 rw [q326]
 cases h1:mapB t.Spark
 ·rfl
 ·have hm:=mapOk h1
  simp only [Option.bind_some,Bool.not_true,cond_false,Bool.true_and,q362]
  cases h2:curB t.Dwell
  ·rfl
  ·have hc:=curOk h2
   have l1:=hc.x.most
   have l2:=hc.yl
   have zl:=hm.zl
   have xm:=hm.x.most
   have ym:=hm.y.most
   simp only [Option.bind_some,Bool.not_true,cond_false,Bool.true_and]
   rw [up_all (fun r=>r.all (inR (-1280) 3840)) t.Spark.Z (by unfold q307; rw [ltNN]; rfl) (fun k hk=>by
    have rl:=hm.rl k hk
    unfold q307
    rw [ltN hk,cond_true,up_all (inR (-1280) 3840) t.Spark.Z[k] (by unfold q298; rw [getI_get _ k hk,Option.bind_some,ltNN]; rfl) (fun j hj=>by
     unfold q298
     rw [getI_get _ k hk,Option.bind_some,ltN hj,cond_true,getI_get _ j hj,Option.bind_some,q395,Option.bind_some,q47 j (by omega)]
     cases inR (-1280) 3840 t.Spark.Z[k][j] <;> rfl),q47 k (by omega)]
    cases t.Spark.Z[k].all (inR (-1280) 3840) <;> rfl)]
   cases h3:t.Spark.Z.all fun r=>r.all (inR (-1280) 3840)
   ·rfl
   ·rw [cond_true,Option.bind_some]
    simp only
    rw [up_all (inR 500 10000) t.Dwell.Y (by unfold q297; rw [ltNN]; rfl) (fun k hk=>by
     unfold q297
     rw [ltN hk,cond_true,getI_get _ k hk,Option.bind_some,q395,Option.bind_some,q47 k (by omega)]
     cases inR 500 10000 t.Dwell.Y[k] <;> rfl)]
    cases t.Dwell.Y.all (inR 500 10000) <;> rfl
theorem q858 (l:List Int) (hl:l.length ≤ 1000):q228 l = some (descB l):=by
 have e:l.length - 1 = l.length ∨ l.length - 1 + 1 = l.length:=by omega
 have k:=loopM_all (mb:=q154 l) (fun i=>((i + 1:Nat):Int)) (p:=fun j=>decide (nd l (j + 1) ≤ nd l j)) (b0:=.inl ((l.length - 1 + 1:Nat):Int)) (b1:=.inr false) (l.length - 1) (by
   unfold q154
   rw [decide_eq_false (by omega)]; rfl) (fun j hj=>by
   unfold q154
   rw [decide_eq_true (by omega),cond_true,getI_get l (j + 1) (by omega),Option.bind_some,q685 j (by omega),getI_get l j (by omega),Option.bind_some,q47 (j + 1) (by omega),← nd_get,← nd_get]
   by_cases q:nd l (j + 1) ≤ nd l j
   ·rw [decide_eq_true q,decide_eq_false (by omega)]; rfl
   ·rw [decide_eq_false q,decide_eq_true (by omega)]; rfl)
 unfold q228
 rw [show ((0 + 1:Nat):Int) = 1 from rfl] at k
 rw [k]
 unfold descB
 cases (List.range' 0 (l.length - 1)).all fun j=>decide (nd l (j + 1) ≤ nd l j) <;> rfl
theorem q849 (l:List Int) (hl:l.length ≤ 1000) (lo hi:Int):q316 l lo hi = some (l.all (inR lo hi)):=by
 unfold q316
 rw [up_all (inR lo hi) l (by unfold q330; rw [ltNN]; rfl) (fun k hk=>by
  unfold q330
  rw [ltN hk,cond_true,getI_get _ k hk,Option.bind_some,show q434 l[k] lo hi = some (inR lo hi l[k]) from rfl,Option.bind_some,q47 k (by omega)]
  cases inR lo hi l[k] <;> rfl)]
 cases l.all (inR lo hi) <;> rfl
theorem q737 (c:SCurve):q246 c = some (curB c && descB c.Y && c.Y.all (inR 0 1000)):=by
 unfold q246
 rw [q362]
 cases h:curB c
 ·rfl
 ·have hc:=curOk h
  have l1:=hc.x.most
  have l2:=hc.yl
  simp only [Option.bind_some,cond_true,q858 c.Y (by omega),Bool.true_and]
  cases descB c.Y
  ·rfl
  ·simp only [cond_true,q849 c.Y (by omega),Option.bind_some,Bool.true_and]
theorem q745 (t:STables):q231 t = some (torB t):=by
 unfold q231 torB
 rw [q326]
 cases h1:mapB t.Torque
 ·rfl
 ·have hm:=mapOk h1
  have zl:=hm.zl
  have xm:=hm.x.most
  have ym:=hm.y.most
  simp only [Option.bind_some,Bool.not_true,cond_false,Bool.true_and,q737]
  have e:(curB t.Efficiency && descB t.Efficiency.Y && t.Efficiency.Y.all (inR 0 1000)) = (curB t.Efficiency && t.Efficiency.Y.all (inR 0 1000) && descB t.Efficiency.Y):=by
   rw [Bool.and_assoc,Bool.and_assoc,Bool.and_comm (descB _)]
  rw [e]
  cases h2:(curB t.Efficiency && t.Efficiency.Y.all (inR 0 1000) && descB t.Efficiency.Y)
  ·rfl
  ·rw [Bool.not_true,cond_false,Bool.true_and,up_all (fun r=>r.all (inR 0 10000) && ascB r) t.Torque.Z (by unfold q295; rw [ltNN]; rfl) (fun k hk=>by
    have rl:=hm.rl k hk
    unfold q295
    rw [ltN hk,cond_true,q771 t.Torque.Z[k] (inR 0 10000) (by unfold q302; rw [rl,ltNN]; rfl) (fun j hj=>by
     unfold q302
     rw [decide_eq_true (by omega),cond_true,getI_get _ k hk,Option.bind_some,getI_get _ j hj,Option.bind_some,← nd_get hj,prevB _ j hj (by omega) _ rfl,q47 j (by omega)]
     have:(decide (nd t.Torque.Z[k] j < 0) || decide (nd t.Torque.Z[k] j > 10000)) = !inR 0 10000 (nd t.Torque.Z[k] j):=by
      unfold inR
      apply q109
      simp only [Bool.or_eq_true,Bool.not_eq_true',Bool.and_eq_false_iff,decide_eq_true_eq,decide_eq_false_iff_not]
      omega
     rw [this]
     cases inR 0 10000 (nd t.Torque.Z[k] j)
     ·rfl
     ·cases (decide (j = 0) || decide (nd t.Torque.Z[k] (j - 1) ≤ nd t.Torque.Z[k] j)) <;> rfl),q47 k (by omega)]
    cases (t.Torque.Z[k].all (inR 0 10000) && ascB t.Torque.Z[k]) <;> rfl)]
   cases t.Torque.Z.all (fun r=>r.all (inR 0 10000) && ascB r) <;> rfl
theorem q627 (t:STables):q176 t = some (curB t.Dead && t.Dead.Y.all (inR 0 10000)):=by
 unfold q176
 rw [q362,Option.bind_some]
 cases h:curB t.Dead
 ·rfl
 ·have hc:=curOk h
  have l1:=hc.x.most
  have l2:=hc.yl
  rw [Bool.not_true,cond_false,Bool.true_and,up_all (inR 0 10000) t.Dead.Y (by unfold q318; rw [ltNN]; rfl) (fun k hk=>by
   unfold q318
   rw [ltN hk,cond_true,getI_get _ k hk,Option.bind_some,q47 k (by omega)]
   have e:(bif decide (t.Dead.Y[k] < 0) then some true else some (decide (t.Dead.Y[k] > 10000))) = some (!inR 0 10000 t.Dead.Y[k]):=by
    unfold inR
    by_cases a:t.Dead.Y[k] < 0
    ·rw [decide_eq_true a,decide_eq_false (by omega:¬ t.Dead.Y[k] ≥ 0)]; rfl
    ·rw [decide_eq_false a,decide_eq_true (by omega:t.Dead.Y[k] ≥ 0)]
     by_cases b:t.Dead.Y[k] > 10000
     ·rw [decide_eq_true b,decide_eq_false (by omega:¬ t.Dead.Y[k] ≤ 10000)]; rfl
     ·rw [decide_eq_false b,decide_eq_true (by omega:t.Dead.Y[k] ≤ 10000)]; rfl
   rw [e,Option.bind_some]
   cases inR 0 10000 t.Dead.Y[k] <;> rfl)]
  cases t.Dead.Y.all (inR 0 10000) <;> rfl
def gainB (g:SGain):Bool:=((((((decide (g.P ≥ 0)) && (decide (g.P ≤ 65536))) && (decide (g.I ≥ 0))) && (decide (g.I ≤ 65536))) && (decide (g.Low ≥ (-1073741824)))) && (decide (g.Low ≤ g.High))) && (decide (g.High ≤ 1073741824))
def ctlB (t:STables):Bool:=airB t && sparkB t && torB t && (curB t.Dead && t.Dead.Y.all (inR 0 10000)) && mapB t.Wish && gainB t.Idle
theorem q596 (t:STables):q235 t = some (ctlB t):=by
 unfold q235 ctlB
 rw [q448,q742,q745,q627,q326,show q173 t.Idle = some (gainB t.Idle) from rfl]
 simp only [Option.bind_some]
 cases airB t <;> cases sparkB t <;> cases torB t <;> cases (curB t.Dead && t.Dead.Y.all (inR 0 10000)) <;> cases mapB t.Wish <;> rfl
theorem q361 (l:List Int) (h:l.length ≤ 9223372036854775807) (lo hi:Int):q259 l lo hi = some (l.all (inR lo hi)):=by
 unfold q259
 rw [q142 l h (fun x0=>q398 x0 lo hi) (fun x=>!inR lo hi x) (fun y _=>rfl),Option.bind_some,List.any_eq_not_all_not,Bool.not_not]
 simp only [Bool.not_not]
theorem q522 (t:STables):q397 t = some (ctlB t):=by
 unfold q397 ctlB sparkB
 rw [q530,q425,q129,q129,q100,q100,show q60 t.Idle = some (gainB t.Idle) from rfl]
 simp only [Option.bind_some]
 cases airB t
 ·rfl
 cases torB t
 ·simp only [Bool.not_true,Bool.not_false,cond_false,cond_true,Option.bind_some,Bool.and_false,Bool.false_and]
 cases h1:mapB t.Spark
 ·rfl
 cases mapB t.Wish
 ·simp only [Bool.not_true,Bool.not_false,cond_false,cond_true,Option.bind_some,Bool.and_false,Bool.false_and]
 cases h2:curB t.Dwell
 ·rfl
 cases h3:curB t.Dead
 ·simp only [Bool.not_true,Bool.not_false,cond_false,cond_true,Option.bind_some,Bool.and_false,Bool.false_and]
 have hm:=mapOk h1
 have zl:=hm.zl
 have xm:=hm.x.most
 have ym:=hm.y.most
 have a1:=(curOk h2).x.most
 have a2:=(curOk h2).yl
 have b1:=(curOk h3).x.most
 have b2:=(curOk h3).yl
 simp only [Bool.not_true,Bool.not_false,cond_false,cond_true,Option.bind_some,Bool.true_and,Bool.and_true]
 rw [rangeM_steps _ (by omega),stepsL_all (p:=fun r=>r.all (inR (-1280) 3840)) (r:=false)]
 ·rw [q361 _ (by omega),q361 _ (by omega)]
  cases t.Spark.Z.all fun r=>r.all (inR (-1280) 3840)
  ·rfl
  ·cases t.Dwell.Y.all (inR 500 10000) <;> cases t.Dead.Y.all (inR 0 10000) <;> rfl
 ·intro i r hr
  obtain ⟨k,hk,rfl⟩:=List.mem_iff_getElem.1 hr
  have rl:=hm.rl k hk
  unfold q526
  rw [q361 _ (by omega),Option.bind_some]
  cases t.Spark.Z[k].all (inR (-1280) 3840) <;> rfl
end Go.Pv
set_option linter.unusedSimpArgs false
namespace Go.Pv
open Go
theorem md_pos (v:Bool) (q q':Int) (f:Int → Option (Int × Int)) (h:(bif v then some (IntKind.u64.wrap (q + 1)) else some q) = some q') (h0:0 ≤ q') (h1:q' < 9223372036854775808) :
  (Option.bind (some v) fun v4=>Option.bind (bif v4 then (some (IntKind.u64.wrap (q + 1))) else (some q)) fun (q:Int)=>bif (false && (decide (q ≤ 9223372036854775808))) then f q else (bif ((!false) && (decide (q < 9223372036854775808))) then (some (w64 q,0)) else (some (0,9)))) = some (q',0):=by
 have e:decide (q' < 9223372036854775808) = true:=decide_eq_true h1
 rw [Option.bind_some,h,Option.bind_some,Bool.false_and,cond_false,Bool.not_false,Bool.true_and,e,cond_true,w64_of (by omega) (by omega)]
theorem u64_of {n:Int} (h0:0 ≤ n) (h1:n < 18446744073709551616):IntKind.u64.wrap n = n:=by
 unfold IntKind.wrap
 simp only [IntKind.bits,IntKind.signed]
 simp only [show (2:Int) ^ 64 = 18446744073709551616 from rfl,Bool.false_and,Bool.false_eq_true,if_false]
 omega
theorem q86 (x lo hi:Int):q38 x lo hi = some (minI (maxI x lo) hi):=rfl
theorem q516 (n:Int) (h0:-9223372036854775808 ≤ n) (h1:n ≤ 9223372036854775807):q145 n = some (n.natAbs:Int):=by
 unfold q145
 by_cases h:n < 0
 ·simp only [h,decide_true,cond_true,Option.some.injEq]
  rw [w64_of (n:=n + 1) (by omega) (by omega),w64_of (n:=0 - (n + 1)) (by omega) (by omega),u64_of (n:=0 - (n + 1)) (by omega) (by omega),u64_of (by omega) (by omega)]
  omega
 ·simp only [h,decide_false,cond_false,Option.some.injEq]
  rw [u64_of (by omega) (by omega)]
  omega
theorem q867 (lo y:Nat) (h0:lo < 18446744073709551616) (h1:0 < y):q342 0 lo y = some (((lo / y:Nat):Int),((lo % y:Nat):Int)):=by
 unfold q342
 have e1:((y:Int) == 0) = false:=by
  have:¬ (y:Int) = 0:=by omega
  simpa using this
 have e2:decide ((y:Int) ≤ 0) = false:=by simp; omega
 have e3:¬ (y:Int) = 0:=by omega
 simp only [e1,e2,cond_false,Option.bind_some,quoM,remM,if_neg e3]
 have q1:(lo:Int).tdiv y = ((lo / y:Nat):Int):=rfl
 have q2:(lo:Int).tmod y = ((lo % y:Nat):Int):=rfl
 have q3:lo / y ≤ lo:=Nat.div_le_self _ _
 rw [q1,q2]
 generalize lo / y = q at q3 ⊢
 rw [u64_of (by omega) (by omega),show ((0:Int) == 0) = true from rfl,cond_true]
theorem q661 (a c mode:Int) (ha0:-9223372036854775808 ≤ a) (ha1:a ≤ 9223372036854775807) (hc0:0 < c) (hc1:c ≤ 9223372036854775807) (hm:mode = 1 ∨ mode = 2) :
  q437 a 1 c mode = some (if mode = 1 then a / c else -((-a) / c),0):=by
 unfold q437
 have m1:((decide (mode < 1)) || (decide (mode > 3))) = false:=by
  rcases hm with rfl | rfl <;> rfl
 have c0:(c == 0) = false:=by
  have:¬ c = 0:=by omega
  simpa using this
 rw [m1,c0,q516 a ha0 ha1,q516 1 (by omega) (by omega),q516 c (by omega) hc1]
 obtain ⟨m,hm'⟩:∃ m:Nat,a.natAbs = m:=⟨_,rfl⟩
 obtain ⟨k,rfl⟩:∃ k:Nat,c = k:=⟨c.toNat,by omega⟩
 have hk:0 < k:=by omega
 have hml:m ≤ 9223372036854775808:=by omega
 rw [hm']
 simp only [cond_false,Option.bind_some,q337,mul64M]
 rw [if_pos (by omega)]
 simp only [Option.bind_some]
 have e1:(m:Int) * ((Int.natAbs 1:Nat):Int) / 18446744073709551616 = 0:=by
  have:((Int.natAbs 1:Nat):Int) = 1:=rfl
  rw [this]; omega
 have e2:(m:Int) * ((Int.natAbs 1:Nat):Int) % 18446744073709551616 = (m:Int):=by
  have:((Int.natAbs 1:Nat):Int) = 1:=rfl
  rw [this]; omega
 have e3:(((Int.natAbs (k:Int)):Nat):Int) = (k:Int):=by omega
 have e4:decide ((0:Int) ≥ (k:Int)) = false:=decide_eq_false (by omega)
 rw [e1,e2,e3,e4,show (0:Int) = 0 from rfl,q867 m k (by omega) hk]
 have q1:m / k ≤ m:=Nat.div_le_self _ _
 have q2:m % k < k:=Nat.mod_lt _ hk
 have q3:k * (m / k) + m % k = m:=Nat.div_add_mod m k
 generalize m / k = q at q1 q3 ⊢
 generalize m % k = r at q2 q3 ⊢
 have q4:(m:Int) = (q:Int) * (k:Int) + (r:Int):=by rw [← q3,Int.natCast_add,Int.natCast_mul,Int.mul_comm]
 have hqk:r = 0 → 0 < m → 0 < q:=fun h0 h1=>by
  rcases Nat.eq_zero_or_pos q with h | h
  ·rw [h,h0] at q3; omega
  ·exact h
 have hql:0 < r → q < 9223372036854775808:=fun h0=>by
  rcases Nat.lt_or_ge q 9223372036854775808 with h | h
  ·exact h
  ·have:k * q ≥ 1 * 9223372036854775808:=Nat.mul_le_mul (by omega) h
   omega
 have hql2:0 < r → m ≤ 9223372036854775807 → q < 9223372036854775807:=fun h0 h1=>by
  rcases Nat.lt_or_ge q 9223372036854775807 with h | h
  ·exact h
  ·have:k * q ≥ 1 * 9223372036854775807:=Nat.mul_le_mul (by omega) h
   omega
 have e5:decide ((q:Int) > 9223372036854775808) = false:=decide_eq_false (by omega)
 simp only [cond_false,Option.bind_some,e5]
 have d1:decide ((1:Int) < 0) = false:=rfl
 have d2:decide ((k:Int) < 0) = false:=decide_eq_false (by omega)
 rw [d1,d2]
 have fl0:(m:Int) / (k:Int) = (q:Int):=by
  rw [q4,Int.add_comm,Int.add_mul_ediv_right _ _ (by omega),Int.ediv_eq_zero_of_lt (by omega) (by omega)]; omega
 have fl1:(-(m:Int)) / (k:Int) = if r = 0 then -(q:Int) else -(q:Int) - 1:=by
  split
  ·rename_i h
   have:-(m:Int) = (-(q:Int)) * (k:Int):=by rw [q4,Int.neg_mul,h]; omega
   rw [this,Int.mul_ediv_cancel _ (by omega)]
  ·rename_i h
   have e:-(m:Int) = ((k:Int) - (r:Int)) + (-(q:Int) - 1) * (k:Int):=by
    rw [q4,Int.sub_mul,Int.neg_mul]; omega
   rw [e,Int.add_mul_ediv_right _ _ (by omega),Int.ediv_eq_zero_of_lt (by omega) (by omega)]; omega
 clear q3 q4
 by_cases hn:a < 0
 ·have ha:a = -(m:Int):=by omega
  have e6:decide (a < 0) = true:=decide_eq_true hn
  have n1:(!(!true == false) == false) = true:=by decide
  rw [e6,n1]
  rcases hm with rfl | rfl
  · -- down,of a negative number
   have r1:q220 (r:Int) (k:Int) true 1 = some (decide ((r:Int) > 0)):=rfl
   rw [if_pos rfl,ha,fl1,r1]
   by_cases hr:r = 0
   ·have r2:decide ((r:Int) > 0) = false:=decide_eq_false (by omega)
    have hpos:=hqk hr (by omega)
    have r3:decide ((q:Int) ≤ 9223372036854775808) = true:=decide_eq_true (by omega)
    rw [if_pos hr,r2]
    simp only [Option.bind_some,cond_false,r3]
    rw [u64_of (n:=(q:Int) - 1) (by omega) (by omega),w64_of (n:=(q:Int) - 1) (by omega) (by omega),w64_of (n:=0 - ((q:Int) - 1)) (by omega) (by omega),w64_of (n:=0 - ((q:Int) - 1) - 1) (by omega) (by omega)]
    simp only [Bool.true_and,Bool.not_false,cond_true,Bool.not_true,Bool.false_and,cond_false]
    rw [show 0 - ((q:Int) - 1) - 1 = -(q:Int) by omega]
   ·have r2:decide ((r:Int) > 0) = true:=decide_eq_true (by omega)
    have hlt:=hql (by omega)
    have r3:decide ((q:Int) + 1 ≤ 9223372036854775808) = true:=decide_eq_true (by omega)
    rw [if_neg hr,r2]
    simp only [Option.bind_some,cond_true]
    rw [u64_of (n:=(q:Int) + 1) (by omega) (by omega),r3,show (q:Int) + 1 - 1 = q by omega]
    rw [u64_of (n:=(q:Int)) (by omega) (by omega),w64_of (n:=(q:Int)) (by omega) (by omega),w64_of (n:=0 - (q:Int)) (by omega) (by omega),w64_of (n:=0 - (q:Int) - 1) (by omega) (by omega)]
    simp only [Bool.true_and,Bool.not_false,cond_true,Bool.not_true,Bool.false_and,cond_false]
    rw [show 0 - (q:Int) - 1 = -(q:Int) - 1 by omega]
  · -- up,of a negative number
   have r1:q220 (r:Int) (k:Int) true 2 = some false:=rfl
   rw [if_neg (by decide),ha,Int.neg_neg,fl0,r1]
   have r3:decide ((q:Int) ≤ 9223372036854775808) = true:=decide_eq_true (by omega)
   simp only [Option.bind_some,cond_false,r3]
   rcases Nat.eq_zero_or_pos q with hz | hz
   ·have w1:IntKind.u64.wrap (((0:Nat):Int) - 1) = 18446744073709551615:=by decide
    have w2:w64 18446744073709551615 = -1:=by decide
    have w3:w64 (0 - -1) = 1:=by decide
    have w4:w64 (1 - 1) = 0:=by decide
    rw [hz,w1,w2,w3,w4]
    rfl
   ·rw [u64_of (n:=(q:Int) - 1) (by omega) (by omega),w64_of (n:=(q:Int) - 1) (by omega) (by omega),w64_of (n:=0 - ((q:Int) - 1)) (by omega) (by omega),w64_of (n:=0 - ((q:Int) - 1) - 1) (by omega) (by omega)]
    simp only [Bool.true_and,Bool.not_false,cond_true,Bool.not_true,Bool.false_and,cond_false]
    rw [show 0 - ((q:Int) - 1) - 1 = -(q:Int) by omega]
 ·have ha:a = (m:Int):=by omega
  have e6:decide (a < 0) = false:=decide_eq_false hn
  have n1:(!(!false == false) == false) = false:=by decide
  rw [e6,n1]
  rcases hm with rfl | rfl
  ·have r1:q220 (r:Int) (k:Int) false 1 = some false:=rfl
   rw [if_pos rfl,ha,fl0,r1]
   exact md_pos false q q _ rfl (by omega) (by omega)
  ·have r1:q220 (r:Int) (k:Int) false 2 = some (decide ((r:Int) > 0)):=rfl
   rw [if_neg (by decide),ha,fl1,r1]
   by_cases hr:r = 0
   ·have r2:decide ((r:Int) > 0) = false:=decide_eq_false (by omega)
    rw [if_pos hr,r2,Int.neg_neg]
    exact md_pos false q q _ rfl (by omega) (by omega)
   ·have r2:decide ((r:Int) > 0) = true:=decide_eq_true (by omega)
    have hlt:=hql2 (by omega) (by omega)
    rw [if_neg hr,r2,show -(-(q:Int) - 1) = (q:Int) + 1 by omega]
    exact md_pos true q (q + 1) _ (by rw [cond_true,u64_of (by omega) (by omega)]) (by omega) (by omega)
theorem q614 (a c:Int) (ha0:-9223372036854775808 ≤ a) (ha1:a ≤ 9223372036854775807) (hc0:0 < c) (hc1:c ≤ 9223372036854775807):q261 a c = some (a / c):=by
 unfold q261 q355
 rw [q661 a c 1 ha0 ha1 hc0 hc1 (.inl rfl)]
 rfl
end Go.Pv

/- Proved: ControlSteps, called with any arguments that its row admits, returns true, and every argument reads behind the call as it read before. Conditions: none beyond the row's own. Printed by law.py. This file joins: Plain Lean: the reference's step is the program's; the law ControlSteps. The plain law of ControlSteps. -/
import Derived.Test.YtalanclpiojanaaGreatControlStepsJ
import Derived.Test.YtalanclpiojanaaGreatRows
set_option linter.unusedSimpArgs false
set_option linter.unusedVariables false
set_option linter.unusedSimpArgs false
set_option linter.unusedVariables false
namespace Go.Pv
open Go
theorem q741 {t:STables} {b:SBody} {i:SInputs} {n:Nat} (ht:TabC t) (hb:bodyB b = true) (hi:AskC i n) (w:Int):q152 t b i w = some (thV t b i w):=by
 obtain ⟨c2,e2,h2,_⟩:=q699 ht.tor (w:=w) hi.spd
 obtain ⟨c2',b2',g1,g2,g3⟩:=q840 ht.tor h2 hi.spd
 unfold q152 thV
 simp only
 rw [h2,g1]
 simp only [Option.bind_some,Option.getD_some,maxI_eq]
 have hx:(bif (!b2') then (some (1048576:Int)) else (some c2')) = some (bif e2 != 0 then 1048576 else c2):=by
  cases hb2:b2'
  ·have:e2 ≠ 0:=fun h0=>by have:=g2.2 h0; rw [hb2] at this; cases this
   rw [show (e2 != 0) = true by simpa using this]; rfl
  ·have h0:=g2.1 hb2
   rw [g3 h0,show (e2 != 0) = false by simpa using h0]; rfl
 rw [hx]
 simp only [Option.bind_some]
 generalize max 0 (bif e2 != 0 then (1048576:Int) else c2) = x
 obtain ⟨p,e3,h3,k3⟩:=q679 ht.air (w:=x) hi.spd hi.air
 obtain ⟨p',e3',u1,u2,u3⟩:=q825 ht.air hi.spd hi.air k3
 rw [h3,u1]
 simp only [Option.bind_some,Option.getD_some,minI_eq]
 have hy:(bif (e3' != 0) then (some (3000:Int)) else (some p')) = some (bif e3 != 0 then 3000 else p):=by
  by_cases h0:e3 = 0
  ·rw [show (e3' != 0) = false by simpa using u2.2 h0,show (e3 != 0) = false by simpa using h0,u3 h0]; rfl
  ·have:e3' ≠ 0:=fun h=>h0 (u2.1 h)
   rw [show (e3' != 0) = true by simpa using this,show (e3 != 0) = true by simpa using h0]; rfl
 rw [hy]
 simp only [Option.bind_some]
 have hp:50 ≤ (min 1012 (bif e3 != 0 then (3000:Int) else p)) ∧ (min 1012 (bif e3 != 0 then (3000:Int) else p)) ≤ 1012:=by
  cases he:e3 != 0
  ·have h0:e3 = 0:=by simpa using he
   have:=k3.fit h0
   simp only [cond_false]; omega
  ·simp only [cond_true]; omega
 generalize min 1012 (bif e3 != 0 then (3000:Int) else p) = q at hp
 obtain ⟨f1,f2,f3⟩:=flow_eq (s:=i.Speed) (p:=q) hi.spd (by omega)
 obtain ⟨y,e5,h5,k5⟩:=q681 hb (f:=flowV i.Speed q) (p:=q) (by omega) (by omega)
 obtain ⟨y',e5',v1,v2,v3⟩:=q789 hb (f:=flowV i.Speed q) (p:=q) (by omega) (by omega) k5
 rw [q854 hi.spd (by omega),h5]
 simp only [Option.bind_some,Option.getD_some]
 rw [v1]
 simp only [Option.bind_some]
 by_cases h0:e5 = 0
 ·rw [show (e5' != 0) = false by simpa using v2.2 h0,show (e5 != 0) = false by simpa using h0,v3 h0]; rfl
 ·have:e5' ≠ 0:=fun h=>h0 (v2.1 h)
  rw [show (e5' != 0) = true by simpa using this,show (e5 != 0) = true by simpa using h0]; rfl
theorem q718 (b:SBody):q241 b = some (bodyB b):=by
 unfold q241 bodyB
 have e:∀ x lo hi,q69 x lo hi = some (inR lo hi x):=fun _ _ _=>rfl
 simp only [e,Option.bind_some]
 cases inR 100 1048576 b.Inertia <;> cases inR 0 65536 b.Friction <;> cases inR 0 65536 b.Throttle <;> cases inR 1 65536 b.Volume <;> cases inR 0 1023 b.Film <;> cases inR 1 1024 b.Evaporate <;> cases inR 0 20 b.Delay <;> rfl
theorem tail38 {α:Type} {R:Type} (l:List α) (k:Nat) {mb:Int × List R → Option ((Int × List R) ⊕ ((Int × List R) ⊕ Empty))} (g:Nat → R) (s0:List R) (hend:∀ r,mb ((k:Int),r) = some (.inr (.inl ((k:Int),r)))) (h:∀ j,j < k → mb ((j:Int),s0 ++ (List.range j).map g) = some (.inl (((j + 1:Nat):Int),s0 ++ (List.range j).map g ++ [g j]))) :
  loopM mb (0,s0) = some (.inl ((k:Int),s0 ++ (List.range k).map g)):=by
 have:=loopM_count (mb:=mb) (σ:=fun j:Nat=>((j:Int),s0 ++ (List.range j).map g)) (b0:=.inl ((k:Int),s0 ++ (List.range k).map g)) k (hend _) (fun j hj=>by
  rw [h j hj,List.append_assoc,q617])
 simpa using this
theorem bstep {α β:Type} {A:Option α} {a:α} {F:α → Option β} {R:Option β} (h:A = some a) (k:F a = R):Option.bind A F = R:=by rw [h]; exact k
theorem q843 {t:STables} {e:SEngine} {b:SBody} {c:SControls} {i:SInputs} (h:Giv t e b c i) {f l:Int} (so:StepOk t e b c i f l):q67 t e b c i = some (nxC t b c i f,outC t e b c i f l,0):=by
 have ht:=tabOk h.t
 have hc:=goodOk.1 h.c
 have hi:=askOk.1 h.i
 have hn:=hi.num
 have hs:=hi.spd
 have hcg:=q354 ht i
 have sk:=so.ok
 obtain ⟨p1,p2⟩:=q725 hc.ped i.Pedal1 i.Pedal2
 have pv:=(pedOk.1 p2).v
 have hws:=q729 t (pdV c i).Value i.Speed
 have hw:(0:Int) ≤ wtV t c i:=by unfold wtV; omega
 obtain ⟨x1,x2⟩:=q662 hc.mix hi.lam hs hcg
 have hfac:=q754 (mxV c.Probe i.Lambda) i.Speed (cgV t i)
 obtain ⟨k1,k2,k3⟩:=ks_eq hc.kno hi.int (by rw [hc.num]; exact hn) (by rw [hc.num]; exact hi.len)
 rw [hc.num] at k3
 have hk2:=List.all_eq_true.1 k2
 unfold q67
 rw [q596,h.t,q718,h.b,q791,h.c,rask_eq,h.i,q836 hc.ped]
 simp only [Option.bind_some,Bool.not_true,cond_false]
 rw [show pedV c.Pedal i.Pedal1 i.Pedal2 = pdV c i from rfl,q881 ht.wish (v:=(pdV c i).Value) pv hs,ract_eq hi.coo]
 simp only [Option.bind_some]
 rw [show actV (pdV c i).Value i.Speed i.Coolant = acV c i from rfl,show wishV t (pdV c i).Value i.Speed = wsV t c i from rfl]
 generalize hl0:(bif acV c i then [(⟨1,2,min (max (idlR c.Idle t.Idle i.Coolant i.Speed).2.1 (-5000)) 10000,1⟩:SRequest)] else []) = l0
 have hl0l:l0.length ≤ 1:=by rw [← hl0]; cases acV c i <;> simp
 have hidle:(bif acV c i then (Option.bind (Option.bind (q89 i.Coolant) fun v7=>Option.bind (q175 c.Idle t.Idle v7 i.Speed) fun r3=>some (r3.2.1,r3.1.Sum)) fun (s:Int × Int)=>Option.bind (q32 s.1 (-5000) 10000) fun v8=>Option.bind (appendM ([(⟨0,3,wsV t c i,0⟩:SRequest)]:List SRequest) ([(⟨1,2,v8,1⟩:SRequest)]:List SRequest)) fun l=>some (s.2,l)) else (some (0,([(⟨0,3,wsV t c i,0⟩:SRequest)]:List SRequest)))) = some ((idV t c i).Sum,⟨0,3,wsV t c i,0⟩ :: l0):=by
  rw [← hl0]
  unfold idV
  cases acV c i
  ·rfl
  ·rw [rtgt_eq hi.coo]
   simp only [Option.bind_some,cond_true]
   rw [q798 ht.idle hc.sum hi.coo hs]
   simp only [Option.bind_some]
   unfold q32
   rw [minI_eq,maxI_eq]
   simp only [Option.bind_some]
   rw [appendM_ok _ _ (by simp)]
   simp only [Option.bind_some,List.cons_append,List.nil_append]
   congr 5
   omega
 rw [hidle]
 simp only [Option.bind_some]
 have hrq:rqV t c i = ⟨0,3,wsV t c i,0⟩ :: l0 ++ i.Requests:=by unfold rqV; rw [hl0]; rfl
 have hreq:=tail38 i.Requests i.Requests.length (mb:=q180 i) (fun j=>i.Requests.getD j ⟨0,0,0,0⟩) (⟨0,3,wsV t c i,0⟩ :: l0) (fun r=>by
  unfold q180
  rw [decide_eq_false (by simp)]; rfl) (fun j hj=>by
  have hfew:=hi.few
  unfold q180
  simp only
  rw [decide_eq_true (by omega),cond_true,getI_get _ _ hj,Option.bind_some,appendM_ok _ _ (by simp only [List.length_append,List.length_cons,List.length_map,List.length_range,List.length_nil]; omega),w64_of (by omega) (by omega)]
  simp only [Option.bind_some]
  rw [List.getD_eq_getElem?_getD,List.getElem?_eq_getElem hj]
  rfl)
 have hrr:(List.range i.Requests.length).map (fun j=>i.Requests.getD j ⟨0,0,0,0⟩) = i.Requests:=by
  apply List.ext_getElem
  ·simp
  ·intro j h1 h2
   simp [List.getD_eq_getElem?_getD,List.getElem?_eq_getElem h2]
 rw [hrr,← hrq] at hreq
 have hmx:maxI 0 (grantV c.Grant (rqV t c i)).Torque = wtV t c i:=maxI_eq _ _
 have hkn:=tail38 c.Knock e.Order.length (mb:=q182 e c i) (fun j=>(ksV c.Knock i.Intensity).getD j ⟨0,0,0⟩) [] (fun r=>by
  unfold q182
  rw [decide_eq_false (by simp)]; rfl) (fun j hj=>by
  have hj1:j < c.Knock.length:=by rw [hc.num]; exact hj
  have hj2:j < i.Intensity.length:=by rw [hi.len]; exact hj
  have hj3:j < (ksV c.Knock i.Intensity).length:=by omega
  obtain ⟨bb,hb⟩:=rkst_eq (List.all_eq_true.1 hc.kno _ (List.getElem_mem hj1)) (List.all_eq_true.1 hi.int _ (List.getElem_mem hj2))
  have hz:(ksV c.Knock i.Intensity).getD j ⟨0,0,0⟩ = kst c.Knock[j] i.Intensity[j]:=by
   unfold ksV
   rw [List.getD_eq_getElem?_getD,List.getElem?_zipWith,List.getElem?_eq_getElem hj1,List.getElem?_eq_getElem hj2]; rfl
  unfold q182
  simp only
  rw [decide_eq_true (by omega),cond_true,getI_get _ _ hj1,Option.bind_some,getI_get _ _ hj2,Option.bind_some,hb]
  simp only [Option.bind_some]
  rw [appendM_ok _ _ (by simp only [List.length_append,List.length_map,List.length_range,List.length_cons,List.length_nil]; omega),w64_of (by omega) (by omega),hz]
  rfl)
 have hkk:([]:List SKnock) ++ (List.range e.Order.length).map (fun j=>(ksV c.Knock i.Intensity).getD j ⟨0,0,0⟩) = ksV c.Knock i.Intensity:=by
  apply List.ext_getElem
  ·simp [k3]
  ·intro j h1 h2
   simp [List.getD_eq_getElem?_getD,List.getElem?_eq_getElem h2]
 rw [hkk] at hkn
 obtain ⟨m1,m2,m3⟩:=q693 (c:=c) (i:=i) ht
 have hms:minI 1048576 (w64 (Int.tdiv (w64 (cgV t i * 10000 / 147000 * facV (mxV c.Probe i.Lambda) i.Speed (cgV t i))) 1000)) = msV t c i:=by
  rw [w64_of (n:=cgV t i * 10000 / 147000 * facV (mxV c.Probe i.Lambda) i.Speed (cgV t i)) (by omega) (by omega),Int.tdiv_eq_ediv_of_nonneg m2.1,w64_of (by omega) (by omega),minI_eq]
  rfl
 obtain ⟨_,wk⟩:=want_ok (i:=i) ht h.b hc
 obtain ⟨i',x',e',v1,v2,v3⟩:=q875 h.b hc.film m3 wk
 have w0:wallV b 0 = 0:=by unfold wallV; rw [Int.zero_mul]; rfl
 have r2:=q191 h.b hc.film.1
 have hcf:=hc.film
 have hin:(bif ((e' != 0) || (f == 0)) then (Option.bind (q121 b c.Film 0) fun r11=>some ((0:Int),r11.2.1)) else (some (i',x'))) = some ((inV t b c i f).1,(inV t b c i f).2):=by
  unfold inV
  rw [q774 h.b hc.film (by omega),w0,decide_eq_false (show ¬ (c.Film + 0 - leaveV b c.Film > 1073741824) by omega)]
  by_cases hf:f = 0
  ·rw [show (f == 0) = true by simpa using hf,Bool.or_true,Bool.true_or]
   simp only [cond_true,cond_false,Option.bind_some]
   congr 2; omega
  ·rw [show (f == 0) = false by simpa using hf,Bool.or_false,Bool.false_or]
   by_cases h0:(waV t b c i).2.2 = 0
   ·obtain ⟨q1,q2⟩:=v3 h0
    rw [show (e' != 0) = false by simpa using v2.2 h0,show ((waV t b c i).2.2 != 0) = false by simpa using h0,q1,q2]; rfl
   ·have:e' ≠ 0:=fun h=>h0 (v2.1 h)
    rw [show (e' != 0) = true by simpa using this,show ((waV t b c i).2.2 != 0) = true by simpa using h0]
    simp only [cond_true,cond_false,Option.bind_some]
    congr 2; omega
 obtain ⟨n1,n2⟩:=q785 (i:=i) ht h.b hc f
 have htm:(bif (decide ((inV t b c i f).1 > 0)) then (Option.bind (q32 (bif (inV t b c i f).1 == 0 then 0 else cAt t.Dead i.Voltage + upV3 (inV t b c i f).1) 200 20000) fun v11=>some v11) else (some (bif (inV t b c i f).1 == 0 then 0 else cAt t.Dead i.Voltage + upV3 (inV t b c i f).1))) = some (tmV t i (inV t b c i f).1):=by
  unfold tmV q32
  rw [minI_eq,maxI_eq]
  by_cases q:(inV t b c i f).1 > 0
  ·rw [decide_eq_true q,show ((inV t b c i f).1 == 0) = false by rw [beq_eq_false_iff_ne]; omega]
   simp only [cond_true,cond_false,Option.bind_some]
   congr 1; omega
  ·rw [decide_eq_false q,show ((inV t b c i f).1 == 0) = true by rw [beq_iff_eq]; omega]; rfl
 have hq:0 ≤ 60000000 / max 1 i.Speed ∧ 60000000 / max 1 i.Speed ≤ 60000000:=⟨Int.ediv_nonneg (by omega) (by omega),Int.ediv_le_self _ (by omega)⟩
 have htk:4000 ≤ tkV i ∧ tkV i ≤ 1000000:=by unfold tkV; omega
 have hcl:q32 (60000000 / max 1 i.Speed) 4000 1000000 = some (tkV i):=by unfold q32 tkV; rw [minI_eq,maxI_eq]; congr 1; omega
 have hfi:=tail38 c.Knock e.Order.length (mb:=q187 t e i (cgV t i,0) (f,l) ((e.Order.length:Int),ksV c.Knock i.Intensity) (tmV t i (inV t b c i f).1) (tkV i)) (fiV t c i e.Order.length f l (tmV t i (inV t b c i f).1)) [] (fun r=>by
  unfold q187
  rw [decide_eq_false (by simp)]; rfl) (fun j hj=>by
  have hj2:j < (ksV c.Knock i.Intensity).length:=by omega
  have hr:=(knOk.1 (hk2 _ (List.getElem_mem hj2))).r
  have hang:=q752 t i.Speed (cgV t i) i.Coolant (ksV c.Knock i.Intensity)[j].Retard
  have l0:=sk.l0
  have l1:=sk.l1
  unfold q187
  simp only
  rw [decide_eq_true (by omega),cond_true,getI_get _ _ hj2,Option.bind_some,q826 ht.spark hi.coo ⟨hr.1,by omega⟩,Option.bind_some,q813 ht.spark htk,Option.bind_some,q834 hn ⟨sk.f0,sk.f1⟩ hj,Option.bind_some]
  have hbb:(bif patB (e.Order.length:Int) f (j:Int) then (some (tmV t i (inV t b c i f).1)) else (some 0)) = some (bif patB (e.Order.length:Int) f (j:Int) then (tmV t i (inV t b c i f).1) else 0):=by cases patB (e.Order.length:Int) f (j:Int) <;> rfl
  rw [hbb]
  simp only [Option.bind_some]
  rw [appendM_ok _ _ (by simp only [List.length_append,List.length_map,List.length_range,List.length_cons,List.length_nil]; omega)]
  simp only [Option.bind_some]
  unfold fiV
  rw [w64_of (n:=(j:Int) + 1) (by omega) (by omega),w64_of (by omega) (by omega),maxI_eq,maxI_eq,List.getD_eq_getElem?_getD,List.getElem?_eq_getElem hj2]
  rfl)
 rw [List.nil_append] at hfi
 refine bstep hreq ?_
 refine bstep (q816 hc.gra (q755 (t:=t) (c:=c) hi)) ?_
 refine bstep (a:=thV t b i (wtV t c i)) (by rw [hmx]; exact q741 ht h.b hi _) ?_
 refine bstep (q801 ht.air hs hi.pre hi.air) ?_
 refine bstep (a:=(f,l)) (by rw [hmx]; exact q822 ht.tor hw (by omega) sk) ?_
 refine bstep hkn ?_
 refine bstep (q807 hc.mix hi.lam hs hcg) ?_
 refine bstep (rfac_eq x2 hs hcg) ?_
 refine bstep (q821 hcg) ?_
 refine bstep (a:=(i',x',e')) (by rw [show chV t i.Speed i.Pressure i.AirTemp = cgV t i from rfl,hms]; exact v1) ?_
 refine bstep hin ?_
 refine bstep (q844 ht.dead n1 hi.vol) ?_
 refine bstep htm ?_
 refine bstep (a:=60000000 / max 1 i.Speed) (by rw [maxI_eq]; exact quoE (by omega) (by omega) (by omega)) ?_
 refine bstep hcl ?_
 refine bstep hfi ?_
 refine bstep (rtor_eq ht.tor i.Speed (cgV t i) l ⟨sk.f0,sk.f1⟩ (by omega)) ?_
 rfl
theorem q820 {t:STables} {e:SEngine} {b:SBody} {c:SControls} {i:SInputs} (h:¬ Giv t e b c i):∃ g,q139 t e b c i = some (zeroC,⟨0,[],0⟩,g) ∧ q67 t e b c i = some (zeroC,⟨0,[],0⟩,g):=by
 unfold q139 q67
 rw [q522,body_eq,good_eq,q596,q718,q791]
 simp only [Option.bind_some]
 cases h1:ctlB t
 ·exact ⟨1,rfl,rfl⟩
 ·cases h2:bodyB b
  ·exact ⟨1,rfl,rfl⟩
  ·cases h3:goodB e c
   ·exact ⟨1,rfl,rfl⟩
   ·simp only [Bool.not_true,cond_false,Option.bind_some]
    rw [ask_eq,rask_eq]
    cases h4:askB i (e.Order.length:Int)
    ·exact ⟨2,rfl,rfl⟩
    ·exact absurd ⟨h1,h2,h3,h4⟩ h
theorem q877 (o:SOutputs) (h:o.Fires.length ≤ 1000):q74 o o = some true:=by
 unfold q74
 rw [up_idx (fun _=>true) o.Fires.length (by unfold q140; rw [ltNN]; rfl) (fun k hk=>by
  unfold q140
  rw [ltN hk,cond_true,getI_get _ k hk,Option.bind_some,Option.bind_some,q47 k (by omega)]
  simp),q700]
 simp
theorem q811 (t:STables) (e:SEngine) (b:SBody) (c:SControls) (i:SInputs):q106 t e b c i = some true:=by
 unfold q106
 rw [awake38]
 simp only [Option.bind_some,Bool.not_true,cond_false]
 obtain ⟨v,hv⟩:=few38 t
 rw [hv]
 simp only [Option.bind_some]
 cases hx:(bif (!v) then (some true) else (Option.bind (q353 e c i) fun v3=>some (!v3))) with
 | none=>cases v <;> cases hx
 | some q=>
  simp only [Option.bind_some]
  cases q
  ·simp only [cond_false]
   have fin:∀ (z:SControls) (o:SOutputs) (g:Int),z.Probe.Cells.length ≤ 1000 → z.Knock.length ≤ 1000 → o.Fires.length ≤ 1000 → q139 t e b c i = some (z,o,g) → q67 t e b c i = some (z,o,g) →
     (Option.bind (q139 t e b c i) fun r2=>Option.bind (q67 t e b c i) fun r3=>Option.bind (q172 r2.1 r3.1) fun v4=>Option.bind (bif v4 then (Option.bind (q74 r2.2.1 r3.2.1) fun v5=>some v5) else (some false)) fun b4=>some (b4 && (r2.2.2 == r3.2.2))) = some true:=fun z o g h1 h2 h3 e1 e2=>by
    rw [e1,e2]
    simp only [Option.bind_some]
    rw [q787 z h1 h2]
    simp only [Option.bind_some,cond_true]
    rw [q877 o h3]
    simp
   by_cases h:Giv t e b c i
   ·obtain ⟨f,l,k1,k2⟩:=q878 h
    have hc:=goodOk.1 h.c
    have hi:=askOk.1 h.i
    have hn:=hi.num
    obtain ⟨x1,x2⟩:=q662 hc.mix hi.lam (s:=0) (c:=0) ⟨by omega,by omega⟩ ⟨by omega,by omega⟩
    have xn:=(mixOk.1 x2).n
    obtain ⟨s1,s2,s3⟩:=ks_eq hc.kno hi.int (by rw [hc.num]; exact hn) (by rw [hc.num]; exact hi.len)
    exact fin _ _ _ (by show (mxV c.Probe i.Lambda).Cells.length ≤ 1000; omega) (by show (ksV c.Knock i.Intensity).length ≤ 1000; rw [s3,hc.num]; omega) (by show ((List.range e.Order.length).map _).length ≤ 1000; simp; omega) k2 (q843 h k1)
   ·obtain ⟨g,e1,e2⟩:=q820 h
    exact fin _ _ _ (by decide) (by decide) (by decide) e1 e2
  ·rfl
end Go.Pv
namespace Go.Pv
open Go
theorem q655 (x0:STables) (x1:SEngine) (x2:SBody) (x3:SControls) (x4:SInputs) (g0:wf_STables x0) (g1:wf_SEngine x1) (g2:wf_SBody x2) (g3:wf_SControls x3) (g4:wf_SInputs x4):q106 x0 x1 x2 x3 x4 = some true:=
 have _:=g0
 have _:=g1
 have _:=g2
 have _:=g3
 have _:=g4
 q811 x0 x1 x2 x3 x4
end Go.Pv
namespace Go.Proofs.YtalanclpiojanaaGreat.controlSteps
open Go Go.Pv Go.Proofs Go.ChangeShapes Go.WideShapes Go.ChangeAt Go.RowKit Go.Proofs.YtalanclpiojanaaGreat
theorem own : ownKnob Tryz.prog.godebug = none := by kernel_rfl
theorem laidOut : laidOutB Tryz.prog = true := by kernel_rfl
set_option maxRecDepth 100000 in
theorem lifted (os : Os) (started : os.Started) (H : Type) (enc : TypeId × Value → H) :
    ReturnsInHanded {} Tryz.checked os 4 .any (Rows.controlStepsSpec.pre6 enc Tryz.prog Tryz.f4 Rows.controlStepsRow.domain false) (Rows.controlStepsSpec.post enc Tryz.prog Tryz.f4 false true false false) := by
  refine returnsInHanded_of_change (C := Tryz.checked) own started (by kernel_rfl) Tryz.func4
    (ChangeSpec.witness6 (enc := enc) (C := Tryz.checked) false ⟨#[], #[.agg #[.slice none 0 0, .slice none 0 0, .slice none 0 0, .slice none 0 0, .slice none 0 0, .slice none 0 0, .slice none 0 0, .slice none 0 0, .slice none 0 0, .slice none 0 0, .slice none 0 0, .slice none 0 0, .slice none 0 0, .slice none 0 0, .slice none 0 0, .slice none 0 0, .slice none 0 0, .slice none 0 0, .slice none 0 0, .slice none 0 0, .int .i64 0, .int .i64 0, .int .i64 0, .int .i64 0], .agg #[.slice none 0 0, .int .i64 0], .agg #[.int .i64 0, .int .i64 0, .int .i64 0, .int .i64 0, .int .i64 0, .int .i64 0, .int .i64 0], .agg #[.int .i64 0, .int .i64 0, .bool false, .int .i64 0, .slice none 0 0, .bool false, .bool false, .int .i64 0, .int .i64 0, .slice none 0 0, .int .i64 0, .int .i64 0, .int .i64 0], .agg #[.int .i64 0, .int .i64 0, .int .i64 0, .int .i64 0, .int .i64 0, .int .i64 0, .int .i64 0, .int .i64 0, .slice none 0 0, .slice none 0 0]], []⟩ 16 (by kernel_rfl) (by kernel_rfl) (by kernel_rfl) (by kernel_rfl)) ?_
  intro W base args ds gs before hval0 hW hcnd _
  have hval : ∀ (j : Nat) t v, Tryz.f4.params[j]? = some t → args[j]? = some v → Value.okWide Tryz.prog W .any base t v := hval0
  have hW' := hW
  obtain ⟨p, q, hA0, hV, rfl, hfz, hnd⟩ := hW
  have hA : DataW.TrodAll enc Tryz.prog W 0 (fun _ => true) true Tryz.f4.params.toList args.toList ds p := hA0
  rw [Tryz.params4] at hA hval
  obtain ⟨v0, vs0, d0, ds0, p0, q0, hargs, rfl, rfl, h0, r0⟩ := trodAll_cons hA
  obtain ⟨v1, vs1, d1, ds1, p1, q1, rfl, rfl, rfl, h1, r1⟩ := trodAll_cons r0
  obtain ⟨v2, vs2, d2, ds2, p2, q2, rfl, rfl, rfl, h2, r2⟩ := trodAll_cons r1
  obtain ⟨v3, vs3, d3, ds3, p3, q3, rfl, rfl, rfl, h3, r3⟩ := trodAll_cons r2
  obtain ⟨v4, vs4, d4, ds4, p4, q4, rfl, rfl, rfl, h4, r4⟩ := trodAll_cons r3
  obtain ⟨rfl, rfl, rfl⟩ := trodAll_nil r4
  obtain rfl : args = #[v0, v1, v2, v3, v4] := by cases args; simp_all
  obtain ⟨rfl, rfl⟩ := trodVars_none hV
  have k0 := h0
  have lt0 : ∀ x ∈ p0, x.block < W.heap.size := by obtain ⟨m, hm⟩ := k0; exact DataW.trod_lt m _ _ _ hm
  obtain ⟨x0, g0, a0⟩ := arg_31 _ _ W _ _ _ _ (hval 0 31 v0 rfl rfl) h0
  have k1 := h1
  have lt1 : ∀ x ∈ p1, x.block < W.heap.size := by obtain ⟨m, hm⟩ := k1; exact DataW.trod_lt m _ _ _ hm
  obtain ⟨x1, g1, a1⟩ := arg_33 _ _ W _ _ _ _ (hval 1 33 v1 rfl rfl) h1
  have k2 := h2
  have lt2 : ∀ x ∈ p2, x.block < W.heap.size := by obtain ⟨m, hm⟩ := k2; exact DataW.trod_lt m _ _ _ hm
  obtain ⟨x2, g2, a2⟩ := arg_62 _ _ W _ _ _ _ (hval 2 62 v2 rfl rfl) h2
  have k3 := h3
  have lt3 : ∀ x ∈ p3, x.block < W.heap.size := by obtain ⟨m, hm⟩ := k3; exact DataW.trod_lt m _ _ _ hm
  obtain ⟨x3, g3, a3⟩ := arg_45 _ _ W _ _ _ _ (hval 3 45 v3 rfl rfl) h3
  have k4 := h4
  have lt4 : ∀ x ∈ p4, x.block < W.heap.size := by obtain ⟨m, hm⟩ := k4; exact DataW.trod_lt m _ _ _ hm
  obtain ⟨x4, g4, a4⟩ := arg_48 _ _ W _ _ _ _ (hval 4 48 v4 rfl rfl) h4
  clear hA0 hval0
  refine (TieF.calls (q441 x0 x1 x2 x3 x4) (q655 x0 x1 x2 x3 x4 g0 g1 g2 g3 g4) (rvl_cons (a0 _) (rvl_cons (a1 _) (rvl_cons (a2 _) (rvl_cons (a3 _) (rvl_cons (a4 _) rvl_nil)))))).mono fun e W' ⟨he, bel⟩ => ?_
  subst he
  exact ⟨_, rfl, _, _, _, [], _, [], hW', trodAll_mk1 (shut_bool Tryz.underlying4 _), (trodAll_cons_mk (Below.trod laidOut (by kernel_rfl) (of_decide_eq_true (by kernel_rfl)) k0 bel lt0) (trodAll_cons_mk (Below.trod laidOut (by kernel_rfl) (of_decide_eq_true (by kernel_rfl)) k1 bel lt1) (trodAll_cons_mk (Below.trod laidOut (by kernel_rfl) (of_decide_eq_true (by kernel_rfl)) k2 bel lt2) (trodAll_cons_mk (Below.trod laidOut (by kernel_rfl) (of_decide_eq_true (by kernel_rfl)) k3 bel lt3) (trodAll_cons_mk (Below.trod laidOut (by kernel_rfl) (of_decide_eq_true (by kernel_rfl)) k4 bel lt4) trodAll_mk0))))), rfl, bel.frame _, fun h => by cases h⟩
end Go.Proofs.YtalanclpiojanaaGreat.controlSteps
namespace Go.Proofs.YtalanclpiojanaaGreat
set_option maxRecDepth 100000
theorem controlSteps.inPlace : Tryz.prog.inPlace 4 = Rows.controlStepsRow.inPlace := by kernel_rfl
theorem controlSteps.unfollowed : Tryz.prog.unfollowed 4 = Rows.controlStepsRow.unfollowed := by kernel_rfl
theorem controlSteps.recurses : Tryz.prog.recurses 4 = Rows.controlStepsRow.recurses := by kernel_rfl
theorem controlSteps.named : Tryz.prog.varsNamed 4 = Rows.controlStepsRow.named := by kernel_rfl
theorem controlSteps.joined : joinedFacts Tryz.prog 4 Tryz.f4 Rows.controlStepsSpec Rows.controlStepsRow = true := by
  unfold joinedFacts
  rw [controlSteps.inPlace, controlSteps.unfollowed, controlSteps.recurses, controlSteps.named, controlSteps.laidOut]
  kernel_rfl
theorem controlSteps_holds : Rows.ControlStepsSaid :=
  OpenClaim.holds_of_wide 4 Tryz.f4 rfl rfl rfl rfl rfl rfl rfl ⟨rfl, rfl, rfl, rfl, rfl⟩ rfl rfl rfl rfl rfl (by kernel_rfl) Tryz.func4 controlSteps.joined
    (of_decide_eq_true (by kernel_rfl)) (by unfold Func.isWrapper; first | (rw [if_pos (by decide +kernel)]; kernel_rfl) | (rw [if_neg (by decide +kernel)]; exact ⟨rfl, rfl⟩))
    (fun os started H enc _ => controlSteps.lifted os started H enc)
#print axioms controlSteps_holds
end Go.Proofs.YtalanclpiojanaaGreat

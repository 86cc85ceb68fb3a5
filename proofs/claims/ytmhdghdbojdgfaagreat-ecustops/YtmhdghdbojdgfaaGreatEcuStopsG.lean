/- Proved: EcuStops, called with any arguments that its row admits, returns true, and every argument reads behind the call as it read before. Conditions: none beyond the row's own. Printed by law.py. This file joins: Plain Lean: a new unit is right, and steps. Plain Lean: what the tests of a step do to the faults, exactly. Plain Lean: the questions of a step, exactly. Plain Lean: the reactions in force, exactly; the test of a step where no sensor is broken. Plain Lean: the parts of a step where at most the answers are broken, exactly. Plain Lean: a step where at most the answers are broken, exactly. Plain Lean: runs of the unit join its steps. Plain Lean: runs without breaks are quiet. Plain Lean: a new unit is calm, and stays so in runs without breaks. Plain Lean: EcuStops: who gives wrong answers is switched off. Plain Lean: EcuStops answers true whatever its arguments: who gives wrong answers is switched off. -/
import Derived.Test.YtmhdghdbojdgfaaGreatEcuStopsF
import Derived.KernelRfl
import Derived.Test.YtmhdghdbojdgfaaGreatRows
set_option linter.unusedSimpArgs false
set_option linter.unusedVariables false
set_option maxRecDepth 100000
noncomputable section
open Bool renaming and_eq_true->aI0,not_eq_true'->bY2,not_false->cI3,not_true->aX0,or_eq_false_iff->bG1,or_eq_true->cH8,or_self->eO7
open Int renaming le_refl->dr2,tdiv_eq_ediv_of_nonneg->cz5,toNat_natCast->eJ7
open Go.IntKind renaming i64->eX3,u64->aX8
open List renaming all_eq_true->bx8,any_eq_false->dv4,filter_append->dK2,getElem?_eq_getElem->aW9,getElem_mem->bd2,getElem_set_self->dN1,length_append->ba3,length_cons->br6,length_nil->cI2,length_set->eb2,length_singleton->co8,mem_append->dn9,mem_singleton->ex8,set_set->en8,take_length->ey1,take_succ_eq_append_getElem->do9
open Nat renaming le_refl->cv6
open Option renaming bind_some->as5
open Option.some renaming inj->cq4
open Prod.mk renaming inj->fh4
namespace Go.Proofs.YtmhdghdbojdgfaaGreat.Ec
open Go Go.Pv Go.Pv.Ec Go.Proofs
theorem fa3:(cR8 1).m=some (⟨1,0,0,false,false⟩,0):=(cR8 1).le 100 _ (by kernel_rfl)
theorem fc3:(dA2).m=some sy0:=rfl
theorem tf0:(bM2).m=some ⟨false,0,0⟩:=rfl
theorem eS5:(df6).m=some ⟨false,1,0⟩:=rfl
def eM2 (x:Y9):Prop:=((0<=x.bX1/\x.bX1<=1099511627776)/\(0<=x.To/\x.To<=1099511627776))/\(0<=x.aE2/\x.aE2<=7)/\(-1000000<=x.Value/\x.Value<=1000000)
theorem dD4 (l:List Y9)(hl:l.length<=1000000)(f:Cl Tryz.prog Y9 Bool (fun x=>[bN8 x]) (fun r=>.t (tB r)))(p:Y9->Bool)(h:∀x∈l,f.f x=some (p x)):(aD6 l f).m=some (l.any p):=by
 simp only[aD6,bc7,aS5,C.of,M.run,L1.m,Cl.at]
 refine Eq.trans ?_ (bu7 l (by omega) f.f p h)
 kernel_rfl
theorem cL6 {k:List Y9}(h:k.length<=100)(hk:∀x∈k,eM2 x):(bI5 k).m=some true:=by
 simp only[bI5,C.of,M.run]
 rw[dD4 k (by omega) (.of (fun z_=>ck8 z_) 77 []) _ (fun x _=>rfl)]
 have:(k.any fun b2=>((((((((decide (b2.bX1<0))||(decide (b2.bX1>1099511627776)))||(decide (b2.To<0)))||(decide (b2.To>1099511627776)))||(decide (b2.aE2<0)))||(decide (b2.aE2>7)))||(decide (b2.Value<(-1000000))))||(decide (b2.Value>1000000))))=false:=by
  rw[dv4]
  intro x hx
  obtain⟨⟨h1,h2⟩,h3,h4⟩:=hk x hx
  simp only[cH8,fi2]
  omega
 rw[this,fi0 (show(k.length:Int)<=100 by omega)]
 rfl
def dF2 (d:I5):Prop:=(0<=d.At/\d.At<=1099511627776)/\(0<=d.I9/\d.I9<=1000)/\(0<=d.bl5/\d.bl5<=1000)/\(0<=d.bO0/\d.bO0<=6)/\(-500<=d.bO1/\d.bO1<=2000)
noncomputable abbrev dw1 (d:I5):Int×Int×Int×Int×Int:=(d.At,d.I9,d.bl5,d.bO0,d.bO1)
noncomputable abbrev dx6:J1×J1×J1×J1×J1:=((⟨(ByteArray.mk #[97,116]),0,1099511627776⟩:J1),(⟨(ByteArray.mk #[112,101,100,97,108]),0,1000⟩:J1),(⟨(ByteArray.mk #[98,114,97,107,101]),0,1000⟩:J1),(⟨(ByteArray.mk #[103,101,97,114]),0,6⟩:J1),(⟨(ByteArray.mk #[108,111,97,100]),(-500),2000⟩:J1))
def bx (x a b:Int):Bool:=decide (x<a)||decide (x>b)
theorem eM3 {x a b:Int}:bx x a b=false↔a<=x/\x<=b:=by simp[bx]
theorem dx8 (x a b j:Int):((bif decide (x<a)then some true else some (decide (x>b))).bind fun v5=>bif v5 then some (.inr (.inr false))else some (.inl j))=(some (bif bx x a b then .inr (.inr false)else .inl j):Option (Int⊕(Int⊕Bool))):=by
 unfold bx
 cases decide (x<a)<;>cases decide (x>b)<;>rfl
theorem p0 (d:I5):(aw8 (dw1 d) dx6 0).run=some (bif bx d.At 0 1099511627776 then .inr (.inr false)else .inl 1):=dx8 d.At 0 1099511627776 1
theorem p1 (d:I5):(aw8 (dw1 d) dx6 1).run=some (bif bx d.I9 0 1000 then .inr (.inr false)else .inl 2):=dx8 d.I9 0 1000 2
theorem p2 (d:I5):(aw8 (dw1 d) dx6 2).run=some (bif bx d.bl5 0 1000 then .inr (.inr false)else .inl 3):=dx8 d.bl5 0 1000 3
theorem p3 (d:I5):(aw8 (dw1 d) dx6 3).run=some (bif bx d.bO0 0 6 then .inr (.inr false)else .inl 4):=dx8 d.bO0 0 6 4
theorem p4 (d:I5):(aw8 (dw1 d) dx6 4).run=some (bif bx d.bO1 (-500) 2000 then .inr (.inr false)else .inl 5):=dx8 d.bO1 (-500) 2000 5
theorem p5 (d:I5):(aw8 (dw1 d) dx6 5).run=some (.inr (.inl 5)):=rfl
def ek2 (d:I5):Bool:=bx d.At 0 1099511627776||(bx d.I9 0 1000||(bx d.bl5 0 1000||(bx d.bO0 0 6||bx d.bO1 (-500) 2000)))
theorem ds7 {d:I5}:ek2 d=false↔dF2 d:=by
 unfold ek2 dF2
 simp only[bG1,eM3]
theorem de7 (d:I5):L7 (fun x=>(aw8 (dw1 d) dx6 x).run) 0=some (bif ek2 d then .inr false else .inl 5):=by
 unfold ek2
 have q0:=p0 d;have q1:=p1 d;have q2:=p2 d;have q3:=p3 d;have q4:=p4 d
 cases h0:bx d.At 0 1099511627776
 ·rw[h0]at q0
  rw[G8 (s':=1) q0]
  cases h1:bx d.I9 0 1000
  ·rw[h1]at q1
   rw[G8 (s':=2) q1]
   cases h2:bx d.bl5 0 1000
   ·rw[h2]at q2
    rw[G8 (s':=3) q2]
    cases h3:bx d.bO0 0 6
    ·rw[h3]at q3
     rw[G8 (s':=4) q3]
     cases h4:bx d.bO1 (-500) 2000
     ·rw[h4]at q4
      rw[G8 (s':=5) q4]
      exact D9 (p5 d)
     ·rw[h4]at q4
      exact D9 q4
    ·rw[h3]at q3
     exact D9 q3
   ·rw[h2]at q2
    exact D9 q2
  ·rw[h1]at q1
   exact D9 q1
 ·rw[h0]at q0
  exact D9 q0
structure ey3 (l:List I5):Prop where
 pos:1<=l.length
 most:l.length<=200
 first:∀x,l[0]? =some x->x.At=0
 drv:∀x∈l,dF2 x
theorem dw2 (d:I5):(bY9 d).m=some (dw1 d):=rfl
theorem dx7:(cz4).m=some dx6:=rfl
theorem dF3 (l:List I5)(hl:l.length<=1000000):∃b,(aA0 l).m=some b/\(b=true->ey3 l):=by
 simp only[aA0,C.of,M.run,L1.m]
 by_cases h1:1<=l.length/\l.length<=200
 ·rw[fi1 (show¬(l.length:Int)<1 by omega),fi1 (show¬(l.length:Int)>200 by omega),show D4 l 0=some (l[0]'(by omega))from(T8 l 0).trans (aW9 (by omega))]
  simp only[eO7,fh5,as5]
  by_cases h2:(l[0]'(by omega)).At=0
  ·rw[show((l[0]'(by omega)).At !=0)=false by rw[h2];rfl]
   simp only[fh5]
   obtain⟨b,e,h⟩:=cS1 l.length (by omega) (fun i (u:Unit)=>(aQ9 l i u).run) (fun k _=>∀x∈l.take k,dF2 x) (fun b:Bool=>b=false) () (by simp) (fun k u hk hI=>by
    simp only[aQ9,M.run,L1.m]
    rw[T8,aW9 hk]
    simp only[as5]
    obtain⟨c,hc⟩:∃c,(bif decide ((k:Int)>0)then(D4 l (j7 ((k:Int)-1))).bind fun t=>some (decide (l[k].At<=t.At))else some false)=some c:=by
     by_cases h0:(k:Int)>0
     ·rw[fi0 h0,j5 (by omega) (by omega),show((k:Int)-1)=((k-1:Nat):Int) by omega,T8,aW9 (by omega)]
      exact⟨_,rfl⟩
     ·rw[fi1 h0];exact⟨_,rfl⟩
    rw[hc]
    simp only[as5]
    cases c
    ·simp only[fh5,dw2,dx7,as5]
     rw[de7]
     cases hd:ek2 l[k]
     ·left
      refine⟨(),rfl,?_⟩
      intro x hx
      rw[do9 hk,dn9,ex8]at hx
      rcases hx with hx|hx
      ·exact hI x hx
      ·subst hx;exact ds7.1 hd
     ·right;exact⟨false,rfl,rfl⟩
    ·right;exact⟨false,rfl,rfl⟩)
   rw[e]
   rcases h with⟨u,rfl,h⟩|⟨b,rfl,rfl⟩
   ·rw[ey1]at h
    exact⟨true,rfl,fun _=>⟨h1.1,h1.2,fun x hx=>by rw[aW9 (by omega)]at hx;cases hx;exact h2,h⟩⟩
   ·exact⟨false,rfl,fun h=>by cases h⟩
  ·rw[bnt h2]
   exact⟨false,rfl,fun h=>by cases h⟩
 ·refine⟨false,?_,fun h=>by cases h⟩
  rw[show((decide ((l.length:Int)<1))||(decide ((l.length:Int)>200)))=true by rw[cH8,fi2,fi2];omega]
  rfl
theorem cM7 {d:I5}(h:dF2 d)(h0:d.At=0):(aA0 [d]).m=some true:=by
 simp only[aA0,C.of,M.run,L1.m]
 rw[show D4 [d] 0=some d from rfl]
 simp only[as5]
 rw[h0]
 obtain⟨u,e,_⟩:=ag5 [d].length (by simp) (fun i (u:Unit)=>(aQ9 [d] i u).run) (fun _ _=>True) () trivial (fun k u hk _=>by
  have:k=0:=by simpa using hk
  subst this
  simp only[aQ9,M.run,L1.m]
  rw[show D4 [d] ((0:Nat):Int)=some d from rfl]
  simp only[as5]
  rw[fi1 (show¬(((0:Nat):Int)>0) by omega)]
  simp only[fh5,dw2,dx7,as5]
  rw[de7,ds7.2 h]
  exact⟨(),rfl,trivial⟩)
 rw[e]
 rfl
theorem dZ6 {d:I5}(h:dF2 d):(ct9 d).m=some true:=by
 simp only[ct9,C.of,M.run]
 have h1:=h.1
 rw[fi0 (show d.At>=0 by omega),fi0 h1.2,cM7 (d:=⟨0,d.I9,d.bl5,d.bO0,d.bO1⟩) ⟨⟨dr2 _,by show(0:Int)<=1099511627776;omega⟩,h.2⟩ rfl]
 rfl
theorem eo7 {a b:Int}(h0:0<=a)(h:a<=b)(hb:b<=1000000):j7 (F5 .u64 (aX8.wrap (j7 (a+b))) 1)=(a+b)/2:=by
 have h1:j7 (a+b)=a+b:=j5 (by omega) (by omega)
 rw[h1]
 have h2:aX8.wrap (a+b)=a+b:=by
  unfold IntKind.wrap
  simp[IntKind.signed,IntKind.bits]
  omega
 rw[h2]
 have h3:F5 .u64 (a+b) 1=(a+b)/2:=by
  unfold F5
  show(a+b).fdiv 2=_
  rw[Int.fdiv_eq_ediv_of_nonneg _ (by omega)]
 rw[h3,j5 (by omega) (by omega)]
theorem dJ3 (l:List I5)(hl:ey3 l)(t:Int)(ht:0<=t/\t<=1099511627776)(f:Cl Tryz.prog (I5×Int) Int (fun x=>[bd3 x.1,.t (tI x.2)]) (fun r=>.t (tI r)))(hf:∀x:I5,f.f (x,t)=some (j7 (x.At-t))):
  ∃i b,(au9 l t f).m=some (i,b)/\(b=true->0<=i/\i<(l.length:Int))/\(b=false->1<=i/\i<=(l.length:Int)):=by
 have hm:=hl.most
 have hp:=hl.pos
 have hw:∀x∈l,j7 (x.At-t)=x.At-t:=fun x hx=>by
  have:=(hl.drv x hx).1
  exact j5 (by omega) (by omega)
 simp only[au9,C.of,M.run,L1.m,Cl.at]
 obtain⟨b,e,h⟩:=bu8 (mb:=fun s=>(ao7 l t f s).run) (fun s=>0<=s.1/\s.1<=s.2/\s.2<=(l.length:Int)/\(s.2<(l.length:Int)->∀x,l[s.2.toNat]? =some x->t<=x.At)) (fun s=>(s.2-s.1).toNat)
  (fun b:(Int×Int)⊕Empty=>∃i,b= .inl (i,i)/\0<=i/\i<=(l.length:Int)/\(i<(l.length:Int)->∀x,l[i.toNat]? =some x->t<=x.At)) (fun s ⟨h0,h1,h2,h3⟩=>by
   obtain⟨a,b⟩:=s
   simp only at h0 h1 h2 h3
   simp only[ao7,M.run,L1.m,Cl.at]
   rw[eo7 h0 h1 (by omega)]
   by_cases hab:a<b
   ·left
    rw[fi0 hab]
    obtain⟨m,hm⟩:∃m:Nat,(a+b)/2=(m:Int):=⟨((a+b)/2).toNat,by omega⟩
    have hml:m<l.length:=by omega
    rw[hm,T8,aW9 hml]
    simp only[fh8,as5,hf,hw _ (bd2 hml)]
    by_cases hlt:l[m].At-t<0
    ·rw[fi0 hlt,j5 (n:=(m:Int)+1) (by omega) (by omega)]
     exact⟨_,rfl,⟨by simp only;omega,by simp only;omega,h2,h3⟩,by simp only;omega⟩
    ·rw[fi1 hlt]
     refine⟨_,rfl,⟨h0,by simp only;omega,by simp only;omega,fun _ x hx=>?_⟩,by simp only;omega⟩
     simp only[eJ7]at hx
     rw[aW9 hml]at hx
     cases hx
     omega
   ·right
    rw[fi1 hab]
    have:a=b:=by omega
    subst this
    exact⟨_,rfl,a,rfl,h0,h2,h3⟩) l.length (0,(l.length:Int)) (by simp) ⟨by simp only;omega,by simp only;omega,by simp only;omega,fun h=>absurd h (by simp)⟩
 rw[e]
 obtain⟨i,rfl,h0,h1,h2⟩:=h
 simp only[as5]
 by_cases hi:i<(l.length:Int)
 ·rw[fi0 hi]
  obtain⟨m,hm⟩:∃m:Nat,i=(m:Int):=⟨i.toNat,by omega⟩
  have hml:m<l.length:=by omega
  subst hm
  rw[T8,aW9 hml]
  simp only[fh8,as5,hf,hw _ (bd2 hml)]
  refine⟨_,_,rfl,fun _=>⟨h0,hi⟩,fun hb=>⟨?_,h1⟩⟩
  rw[beq_eq_false_iff_ne]at hb
  by_cases hz:m=0
  ·subst hz
   exfalso
   have a0:=hl.first _ (aW9 hml)
   have a1:=h2 hi _ (by rw[eJ7];exact aW9 hml)
   omega
  ·omega
 ·rw[fi1 hi]
  exact⟨_,_,rfl,fun h=>(by cases h),fun _=>by omega⟩
theorem eL9 {l:List I5}(hv:(aA0 l).m=some true)(hl:ey3 l)(t:Int)(ht:0<=t/\t<=1099511627776):∃d,(aY1 l t).m=some (d,0)/\dF2 d:=by
 obtain⟨i,b,e,h1,h2⟩:=dJ3 l hl t ht (.of (fun z_=>ck7 z_.1 z_.2) 135 []) (fun x=>rfl)
 have key:∃j:Nat,(cd1 l t).m=some ((j:Int),0)/\j<l.length:=by
  simp only[cd1,C.of,M.run,hv,as5,aX0,fh5]
  rw[fi1 (show¬t<0 by omega),fi1 (show¬t>1099511627776 by omega)]
  simp only[eO7,fh5]
  rw[e]
  simp only[as5]
  have hm:=hl.most
  cases b
  ·have h3:=h2 rfl
   simp only[cI3,fh8]
   rw[j5 (by omega) (by omega)]
   exact⟨(i-1).toNat,by rw[show(((i-1).toNat:Nat):Int)=i-1 by omega],by omega⟩
  ·have h3:=h1 rfl
   simp only[aX0,fh5]
   exact⟨i.toNat,by rw[show((i.toNat:Nat):Int)=i by omega],by omega⟩
 obtain⟨j,e2,hj⟩:=key
 simp only[aY1,C.of,M.run,L1.m,e2,as5]
 rw[show((0:Int) !=0)=false from rfl,T8,aW9 hj]
 simp only[fh5,as5]
 exact⟨_,rfl,ht,(hl.drv _ (bd2 hj)).2⟩
end Go.Proofs.YtmhdghdbojdgfaaGreat.Ec
namespace Go.Pv.Fr
open Go Go.Pv
theorem dy3 {l:List w9}{f:B7}{E5:Int}{t:Nat->Bool}{q:Nat}{bad:Bool}{fr:List Int}(hc:Cfs l)(h:Inv l f E5 true t)(h0:1<=E5)(h1:E5<=1073741824)(hq:q<l.length)(hq2:q<f.L.length)(hfr:cg9 (l[q]) fr):
  aq4 f (q:Int) bad fr=some (⟨f.T5,f.L.set q (cF6 (l[q]) E5 bad fr f.L[q]),f.aH5,f.ay0⟩,0):=by
 have hl:=h.len;have hl2:=hc.len
 have hq3:q<f.T5.length:=by rw[h.aP5];omega
 have e1:f.T5[q]=l[q]:=by simp[h.aP5]
 have hfl:fr.length<=8:=by have:=hfr.1;have:=(hc.ok hq).frame;omega
 have g1:decide ((q:Int)<0)=false:=by simp
 have g2:decide ((q:Int)>=(f.L.length:Int))=false:=by simp;omega
 have bN3:∀y:A1,q<(f.L.set q y).length:=fun y=>by simpa using hq2
 unfold aq4
 rw[bU6 hc h (by omega) h1 (fun _=>h0),g1,g2,h.run,C7 _ _ hq3,e1]
 simp only[as5,aX0,eO7,fh5]
 rw[cO8 (hc.ok hq) hfr,h.copied hc]
 simp only[as5,aX0,fh5]
 rw[C7 _ _ hq2,C7 _ _ hq3,e1]
 simp only[as5]
 rw[T9 _ _ _ hq2,T9 _ _ _ hq2]
 simp only[as5]
 have e2:(bif bad then some (f.L.set q ⟨f.L[q].D8,F2 l[q].ba6 (j7 (G4 f.L[q].D1 0+1)),f.L[q].I7,f.L[q].Clean,f.L[q].z8,f.L[q].Frame,f.L[q].G9⟩)else some (f.L.set q ⟨f.L[q].D8,G4 (j7 (0-l[q].Pass)) (j7 (F2 f.L[q].D1 0-1)),f.L[q].I7,f.L[q].Clean,f.L[q].z8,f.L[q].Frame,f.L[q].G9⟩))=some (f.L.set q (bt7 (l[q]) bad f.L[q])):=by
  unfold bt7;cases bad<;>rfl
 rw[e2]
 simp only[as5]
 rw[C7 _ _ (bN3 _)]
 simp only[as5,dN1]
 unfold cF6
 simp only
 cases(bt7 (l[q]) bad f.L[q]).D1==(l[q]).ba6
 ·simp only[fh5]
  cases(bt7 (l[q]) bad f.L[q]).D1==j7 (0-(l[q]).Pass)
  ·simp only[fh5];rw[h.run]
  ·simp only[fh8]
   rw[T9 _ _ _ (bN3 _)]
   simp only[as5,en8]
   rw[T9 _ _ _ (bN3 _)]
   simp only[as5,en8]
   rw[h.run]
 ·simp only[fh8]
  rw[dt1 _ _ (bN3 _) _ _ _ (by omega)]
  simp only[as5,dN1,en8]
  rw[h.run,h.cyc]
def fqP (x:A1):Prop:=(x.D8=0\/x.D8=8)/\x.D1<=0
theorem cS8 {c:w9}{x:A1}{E5:Int}{fr:List Int}(hc:cq6 c)(h:fqP x)(h1:-c.Pass<=x.D1):fqP (cF6 c E5 false fr x):=by
 have p1:=hc.pass;have p2:=hc.fail;have p3:=h.2
 have hk:(bt7 c false x).D1<= -1:=by
  show G4 (j7 (0-c.Pass)) (j7 (F2 x.D1 0-1))<= -1
  have a2:F2 x.D1 0=if 0<x.D1 then 0 else x.D1:=rfl
  rw[a2,if_neg (by omega),j5 (n:=0-c.Pass) (by omega) (by omega),j5 (by omega) (by omega)]
  unfold G4
  split<;>omega
 unfold cF6
 simp only
 rw[show((bt7 c false x).D1==c.ba6)=false by rw[beq_eq_false_iff_ne];omega]
 simp only[fh5]
 cases(bt7 c false x).D1==j7 (0-c.Pass)
 ·exact⟨h.1,by simp only[fh5];omega⟩
 ·simp only[fh8]
  refine⟨?_,by simp only;omega⟩
  have:(bt7 c false x).D8=x.D8:=rfl
  rw[this]
  rcases h.1 with e|e<;>rw[e]
  ·right;rfl
  ·right;rfl
end Go.Pv.Fr
namespace Go.Proofs.YtmhdghdbojdgfaaGreat.Ec
open Go Go.Pv Go.Pv.Ec Go.Proofs
abbrev bl (v:Bool×Bool×Bool×Bool×Bool×Bool×Bool):List Bool:=[v.1,v.2.1,v.2.2.1,v.2.2.2.1,v.2.2.2.2.1,v.2.2.2.2.2.1,v.2.2.2.2.2.2]
structure bz6 (l:List w9)(cyc:Int)(v:List Bool)(f g:B7)(n:Nat):Prop where
 len:g.L.length=f.L.length
 done:∀j (h1:j<n) (h2:j<g.L.length) (h3:j<f.L.length) (h4:j<l.length) (h5:j<v.length),∃fr,g.L[j]=Fr.cF6 (l[j]) cyc (v[j]) fr (f.L[j])
 left:∀j (h1:n<=j) (h2:j<g.L.length) (h3:j<f.L.length),g.L[j]=f.L[j]
theorem dA6 {s:j8}(hs:SOk s)(v:Bool×Bool×Bool×Bool×Bool×Bool×Bool){l:List w9}{cyc:Int}{t:Nat->Bool}(hc:Fr.Cfs l)(h7:7<=l.length)(h:Fr.Inv l s.u.F3 cyc true t)(h0:1<=cyc)(h1:cyc<=1073741824):
  ∃i f t',L7 (fun x=>(aT7 s v x).run) (0,s.u.F3)=some (.inl (i,f))/\Fr.Inv l f cyc true t'/\bz6 l cyc (bl v) s.u.F3 f 7:=by
 have key:=bu8 (mb:=fun x=>(aT7 s v x).run) (fun x=>∃k:Nat,x.1=(k:Int)/\k<=7/\(∃t,Fr.Inv l x.2 cyc true t)/\bz6 l cyc (bl v) s.u.F3 x.2 k) (fun x=>7-x.1.toNat) (fun b=>∃i f t,b= .inl (i,f)/\Fr.Inv l f cyc true t/\bz6 l cyc (bl v) s.u.F3 f 7)
  (fun x ⟨k,hk,hk7,⟨t,hi⟩,ht⟩=>by
   obtain⟨a,f⟩:=x
   simp only at hk hi ht
   subst hk
   simp only[aT7,M.run,L1.m,U1.m]
   by_cases hlt:k<7
   ·left
    rw[fi0 (show((k:Nat):Int)<7 by omega)]
    simp only[fh8,T8]
    rw[aW9 (show k<[v.1,v.2.1,v.2.2.1,v.2.2.2.1,v.2.2.2.2.1,v.2.2.2.2.2.1,v.2.2.2.2.2.2].length by simp only[br6,cI2];omega),hi.aP5,aW9 (show k<l.length by omega)]
    simp only[as5]
    have hs':SOk (⟨(⟨s.u.u6,s.u.u4,s.u.j4,s.u.Q4,s.u.M7,s.u.H8,s.u.M0,s.u.I8,s.u.L6,f,s.u.A8,s.u.ab0,s.u.Time⟩:ac3),s.d,s.k,s.t,s.o8,s.Z2,s.au2,s.C1,s.aQ0,s.D5,s.aJ3,s.E8,s.V4,s.A0,s.known,s.cut,s.y9,s.T4⟩:j8):=⟨hs.few,hs.val,hs.ped,hs.pre,hs.t,hs.spd⟩
    obtain⟨r,e1,hr⟩:=aS0 hs' 2
    have hsp:=hs.spd
    have hkl:k<f.L.length:=by have:=hi.len;omega
    obtain⟨fr,e2,h2⟩:=el7 (hc.ok (show k<l.length by omega)) (a:=s.o8) (b:=r) (by omega) hr
    obtain⟨f',b,e3,h3,_⟩:=Fr.ea7 (bad:=(bl v)[k]'(by simp only[br6,cI2];omega)) hc hi h0 h1 (show k<l.length by omega) h2
    have e4:=Fr.dy3 (bad:=(bl v)[k]'(by simp only[br6,cI2];omega)) hc hi h0 h1 (show k<l.length by omega) hkl h2
    rw[e2]
    simp only[as5]
    rw[e1]
    simp only[as5,eY9,cD7]
    rw[e3]
    simp only[as5,eP6]
    rw[e3]at e4
    have e5:f'=_:=(fh4 (cq4 e4)).1
    refine⟨_,rfl,⟨k+1,?_,by omega,⟨_,h3⟩,?_⟩,?_⟩
    ·simp only
     rw[j5 (by omega) (by omega)]
     omega
    ·show bz6 l cyc (bl v) s.u.F3 f' (k+1)
     rw[e5]
     refine⟨by simp only[eb2];exact ht.len,fun j q1 q2 q3 q4 q5=>?_,fun j q1 q2 q3=>?_⟩
     ·by_cases hj:k=j
      ·subst hj
       apply Exists.intro
       simp only[dN1]
       rw[ht.left k (cv6 _) hkl q3]
      ·simp only[List.getElem_set_ne hj]
       exact ht.done j (by omega) _ q3 q4 q5
     ·simp only[List.getElem_set_ne (show k≠j by omega)]
      exact ht.left j (by omega) _ q3
    ·simp only
     rw[j5 (by omega) (by omega)]
     omega
   ·right
    rw[fi1 (show¬((k:Nat):Int)<7 by omega)]
    have:k=7:=by omega
    subst this
    exact⟨_,rfl,_,_,t,rfl,hi,ht⟩)
 obtain⟨b,e1,i,f,t',e2,h2,h3⟩:=key 7 (0,s.u.F3) (by simp) ⟨0,rfl,by omega,⟨t,h⟩,rfl,fun j q1=>by omega,fun j _ _ _=>rfl⟩
 rw[e2]at e1
 exact⟨i,f,t',e1,h2,h3⟩
theorem cy4 {s:j8}(hs:SOk s){n:Int}(hk:∀b∈s.k,b.aE2≠n):(O5 s n).m=some (0,false):=by
 have hf:=hs.few
 simp only[O5,C.of,M.run]
 obtain⟨u,e,_⟩:=aM3 s.k (by omega) (fun i x (u:Unit)=>(ag0 s n i x u).run) (fun _ _=>True) () trivial (fun k x u hx _=>by
  simp only[ag0,M.run]
  rw[bf (hk x (List.mem_of_getElem? hx))]
  exact⟨(),rfl,trivial⟩)
 rw[e]
 rfl
theorem dr4 {x a b:Int}(h:a<=x/\x<=b):F2 (G4 x a) b=x:=by
 unfold F2 G4
 split<;>split<;>omega
theorem eh0 {s:j8}(hs:SOk s)(hk:∀b∈s.k,b.aE2=6):(bI6 s).m=some (false,false,false,false,false,s.u.M0.Off,s.u.I8.Off):=by
 have h1:=hs.ped;have h2:=hs.pre;have h3:=hs.t
 have b:∀n:Int,n≠6->(O5 s n).m=some (0,false):=fun n hn=>cy4 hs (fun x hx=>by rw[hk x hx];exact fun e=>hn e.symm)
 obtain⟨x,hx⟩:=de9 s.u.A8
 have e0:(D3 s 0).m=some s.d.I9:=by
  simp only[D3,C.of,M.run,b 0 (by omega),as5];rfl
 have e1:(D3 s 1).m=some (s.d.I9/2):=by
  simp only[D3,C.of,M.run,b 1 (by omega),as5]
  rw[cz5 h1.1,j5 (by omega) (by omega)];rfl
 have e2:(D3 s 2).m=some s.u.A8.L0:=by
  simp only[D3,C.of,M.run,b 2 (by omega),as5];rfl
 have e3:(D3 s 3).m=some 20:=by
  simp only[D3,C.of,M.run,b 3 (by omega),as5];rfl
 have e4:∃v,(D3 s 4).m=some v/\20<=v/\v<=90:=by
  simp only[D3,C.of,M.run,b 4 (by omega),as5]
  refine⟨_,rfl,?_⟩
  rw[cz5 h3.1,j5 (n:=s.t/1000000) (by omega) (by omega),j5 (by omega) (by omega)]
  unfold F2
  split<;>omega
 have e5:∃v,(D3 s 5).m=some v/\100<=v/\v<=800:=by
  simp only[D3,C.of,M.run,b 5 (by omega),hx,as5]
  cases decide (x<1000)
  ·exact⟨100,rfl,by omega,by omega⟩
  ·exact⟨800,rfl,by omega,by omega⟩
 obtain⟨v4,e4,k4⟩:=e4
 obtain⟨v5,e5,k5⟩:=e5
 simp only[bI6,C.of,M.run,e0,e1,e2,e3,e4,e5,dw8,br4,as5]
 rw[dr4 h1,dr4 (show 0<=s.d.I9/2/\s.d.I9/2<=500 by omega),j5 (n:=2*(s.d.I9/2)) (by omega) (by omega),j5 (n:=s.d.I9-2*(s.d.I9/2)) (by omega) (by omega),j5 (n:=2*(s.d.I9/2)-s.d.I9) (by omega) (by omega)]
 rw[fi1 (show¬G4 (s.d.I9-2*(s.d.I9/2)) (2*(s.d.I9/2)-s.d.I9)>50 by unfold G4;split<;>omega),
  fi1 (show¬s.u.A8.L0<50 by omega),fi1 (show¬s.u.A8.L0>1013 by omega),fi1 (show¬v4< -40 by omega),fi1 (show¬v4>150 by omega),fi1 (show¬v5<50 by omega),fi1 (show¬v5>900 by omega)]
 rfl
theorem ef3 (x:Int):0<=T2 .i64 x 65535/\T2 .i64 x 65535<=65535:=by
 unfold T2
 show 0<=eX3.wrap ((BitVec.ofInt 64 x&&&BitVec.ofInt 64 65535).toNat:Int)/\_
 have e:(BitVec.ofInt 64 x&&&BitVec.ofInt 64 (65535:Int)).toNat=(BitVec.ofInt 64 x).toNat%65536:=by
  rw[BitVec.toNat_and,show(BitVec.ofInt 64 (65535:Int)).toNat=2^16-1 by rfl,Nat.and_two_pow_sub_one_eq_mod]
 show 0<=eX3.wrap _/\eX3.wrap ((BitVec.ofInt 64 x&&&BitVec.ofInt 64 65535).toNat:Int)<=65535
 rw[e]
 have h:(BitVec.ofInt 64 x).toNat%65536<65536:=Nat.mod_lt _ (by omega)
 have h2:eX3.wrap (((BitVec.ofInt 64 x).toNat%65536:Nat):Int)=(((BitVec.ofInt 64 x).toNat%65536:Nat):Int):=j5 (by omega) (by omega)
 rw[h2]
 omega
theorem cy2 (n:Int)(l:List Int)(hl:l.length<=100)(hp:ptB l=true)(hq:quB n=true):∃a,(bn2 n l).m=some (a,0)/\0<=a/\a<=65535:=by
 simp only[bn2,C.of,M.run,dy1,hp,bS5,hq,as5,aX0,fh5]
 have hb:1<=n/\n<=65535:=by simpa[quB]using hq
 obtain⟨a,e,h⟩:=aM3 l (by omega) (fun i x (a:Int)=>(bv7 i x a).run) (fun _ a=>0<=a/\a<=65535) n (by omega) (fun k x a hx hI=>by
  simp only[bv7,M.run]
  exact⟨_,rfl,ef3 _⟩)
 rw[e]
 exact⟨a,rfl,h⟩
theorem eO6 {g:ah9}{p a:Int}(ha:a<=p):∃h e,(aU9 g p a).m=some (h,e)/\(e=0->grB h=true/\h.Off=g.Off):=by
 by_cases hb:grB g=true/\(-20000<=p/\p<=20000)/\(-20000<=a/\a<=20000)
 ·obtain⟨h,e,h1,h2,h3⟩:=eB8 g p a
  obtain⟨he,hh⟩:=h3 hb.1 hb.2.1.1 hb.2.1.2 hb.2.2.1 hb.2.2.2
  rw[if_neg (by omega)]at hh
  exact⟨h,e,h1,fun he=>⟨h2 he,by rw[hh]⟩⟩
 ·simp only[aU9,C.of,M.run,cl2,dc6,as5]
  cases h1:grB g
  ·exact⟨_,_,rfl,fun h=>by cases h⟩
  ·simp only[aX0,fh5]
   cases e1:(decide (p>= -20000)&&decide (p<=20000))
   ·exact⟨_,_,rfl,fun h=>by cases h⟩
   ·cases e2:(decide (a>= -20000)&&decide (a<=20000))
    ·exact⟨_,_,rfl,fun h=>by cases h⟩
    ·simp only[aI0,fi2]at e1 e2
     exact absurd ⟨h1,⟨e1.1,e1.2⟩,e2.1,e2.2⟩ hb
theorem dx1 (p:Int):∀(l:List j2) (x:Int),l.foldl (cB3 p) x<=x
 |[],x=>dr2 _
 |y::l,x=>by
  rw[List.foldl_cons]
  refine Int.le_trans (dx1 p l _) ?_
  unfold cB3
  cases(y.Kind==1)&&decide (y.E6>p)
  ·exact dr2 _
  ·simp only[fh8];unfold F2;split<;>omega
theorem eq4 (l:List j2)(p x:Int):100<=j7 (G4 0 (F2 (l.foldl (cB3 p) 10000) x)+100):=by
 have:=dx1 p l 10000
 have h:0<=G4 0 (F2 (l.foldl (cB3 p) 10000) x)/\G4 0 (F2 (l.foldl (cB3 p) 10000) x)<=10000:=by
  unfold G4 F2
  split<;>split<;>omega
 rw[j5 (by omega) (by omega)]
 omega
theorem do8 {c:j8}(ht:cc9 c.u.u6=true)(hs:0<=c.o8/\c.o8<=12000)(hc:0<=c.A0/\c.A0<=1048576)(h1:1<=c.E8.O0.length)(h8:c.E8.O0.length<=8)(hz:∀x∈c.E8.O0,x.Y8=0):(au7 c).m=some 0:=by
 have hm:bo7 c.u.u6.o9=true:=by
  have:=(df9 ht).tor
  unfold aZ1 at this
  simp only[aI0]at this
  first|exact this.1.1.1.1|exact this.1.1|exact this.1|exact this.1.1.1
 obtain⟨v,k,_,e1,_⟩:=ct6 hm c.o8 c.A0
 have:=cZ4 c.u.u6 c.o8 c.A0 hm (by
  rw[fi0 hs.1,fi0 hs.2,fi0 hc.1,fi0 hc.2];rfl) k e1 c.E8.O0 h1 h8
 simp only[au7,CG.of,M.run,by0]
 rw[this]
 have h0:c.E8.O0.countP bZ1=0:=by
  rw[List.countP_eq_zero]
  intro x hx
  unfold bZ1
  simp[hz x hx]
 rw[h0]
 simp only[as5,Option.some.injEq]
 unfold dh1
 have:((0:Nat):Int)=0:=rfl
 simp only[this,Int.mul_zero,Int.zero_add]
 rw[cz5 (by omega),Int.ediv_eq_zero_of_lt (by omega) (by omega)]
theorem dY5 {s:j8}(hs:SOk s)(hk:∀b∈s.k,b.aE2=6)(ho:s.u.M0.Off=false)(ha:ey2 s)(ht:cc9 s.u.u6=true)(hg:bz0 s.u.j4.u7 s.u.u4=true)(hgr:grB s.u.M0=true)(h1:1<=s.E8.O0.length)(h8:s.E8.O0.length<=8):
  ∃g f p c b,(aT6 s).m=some {s with u:={s.u with M0:=g},E8:=⟨s.E8.J2,f,s.E8.o9⟩,V4:=p,A0:=c,cut:=b}/\
   (grB g=true/\g.Off=false)/\f.length=s.E8.O0.length/\100<=p:=by
 have hc:=ce0.1 hg
 have hp:=(dP8.1 hc.ped).v
 have h2:=ha.aQ0;have h3:=ha.D5;have h4:=ha.C1
 have tok:=df9 ht
 have e1:(ax1 s.u.u4.I9.Value s.o8 s.D5).m=some (dC7 s.u.u4.I9.Value s.o8 s.D5):=by
  rw[bP4];exact ee5 h3
 have e2:(aC0 s.u.u6 s.o8 s.C1 s.aQ0).m=some (chV s.u.u6 s.o8 s.C1 s.aQ0,0):=by
  rw[bY6];exact ch6 tok.air hs.spd (by omega) h2
 have hch:0<=chV s.u.u6 s.o8 s.C1 s.aQ0/\chV s.u.u6 s.o8 s.C1 s.aQ0<=1048576:=
  be3 tok (⟨0,0,s.o8,s.C1,s.aQ0,13500,s.aJ3,s.D5,[],[]⟩:W9)
 obtain⟨v,k,_,e3,_⟩:=ct6 tok.cG2 s.o8 s.u.u4.I9.Value
 have mm:cB8=cS7:=funext fun r=>cq4 ((dQ6 r).symm.trans (dI7 r))
 have r9:cS7 ⟨9,1,s.au2,15⟩=true:=by rw[co0,fi2];exact fa5 _ ha.au2
 have r1:cS7 ⟨1,2,1500,1⟩=true:=by rw[co0,fi2];exact fa4 _ (by omega)
 have e4:∀l:List j2,l.all cS7=true->l.length<=32->∃p e,(ae4 s.u.u6 s.u.u4.I9.Value s.o8 l).m=some (p,e)/\100<=p:=fun l hl hn=>by
  rw[bP8,dm2 s.u.u6 s.u.u4.I9.Value s.o8 tok.cG2 (by
   have hsp:=hs.spd
   rw[fi0 (show s.u.u4.I9.Value>=0 by omega),fi0 (show s.u.u4.I9.Value<=1000 by omega),fi0 hsp.1,fi0 hsp.2];rfl) k e3 l (by rw[mm];exact hl) hn]
  exact⟨_,_,rfl,eq4 _ _ _⟩
 have e5:∃l:List j2,(bif dC7 s.u.u4.I9.Value s.o8 s.D5 then(U9 ([⟨9,1,s.au2,15⟩]:List j2) ([⟨1,2,1500,1⟩]:List j2)).bind fun t=>some t else some ([⟨9,1,s.au2,15⟩]:List j2))=some l/\l.all cS7=true/\l.length<=32:=by
  cases dC7 s.u.u4.I9.Value s.o8 s.D5
  ·exact⟨_,rfl,by simp[r9],by simp⟩
  ·rw[H7 _ _ (by simp)]
   exact⟨_,rfl,by simp[r9,r1],by simp⟩
 obtain⟨l,e6,l1,l2⟩:=e5
 obtain⟨p,e,e7,hp100⟩:=e4 l l1 l2
 simp only[aT6,CG.of,M.run,U1.m,cB9,e1,as5]
 rw[e6]
 simp only[as5,e7,e2]
 obtain⟨a1,e8⟩:=dD0 (c:=⟨s.u,s.d,s.k,s.t,s.o8,s.Z2,s.au2,s.C1,s.aQ0,s.D5,s.aJ3,s.E8,p,chV s.u.u6 s.o8 s.C1 s.aQ0,s.known,s.cut,s.y9,s.T4⟩) ht hs.spd hch h1 h8
 rw[e8]
 simp only[as5]
 have e9:=cy4 (n:=7) (s:=⟨s.u,s.d,s.k,s.t,s.o8,s.Z2,s.au2,s.C1,s.aQ0,s.D5,s.aJ3,s.E8,p,chV s.u.u6 s.o8 s.C1 s.aQ0,s.known,s.cut,s.y9,s.T4⟩) ⟨hs.few,hs.val,hs.ped,hs.pre,hs.t,hs.spd⟩ (fun b hb=>by rw[hk b hb];decide)
 rw[e9]
 simp only[as5]
 have gk:∀x:Int,x<=p->∃g e,(aU9 s.u.M0 p x).m=some (g,e)/\(grB (bif e !=0 then s.u.M0 else g)=true/\(bif e !=0 then s.u.M0 else g).Off=false):=fun x hx=>by
  obtain⟨h,e,q1,q2⟩:=eO6 (g:=s.u.M0) hx
  refine⟨h,e,q1,?_⟩
  by_cases he:e=0
  ·subst he;exact⟨(q2 rfl).1,(q2 rfl).2.trans ho⟩
  ·rw[show(e !=0)=true by simpa using he];exact⟨hgr,ho⟩
 cases aI1:(decide (a1>p)&& !false)
 ·simp only[fh5,as5,eI5]
  obtain⟨g,e,q1,q2⟩:=gk a1 (by simp at aI1;omega)
  rw[q1]
  simp only[as5,en2]
  exact⟨_,_,_,_,_,rfl,q2,rfl,hp100⟩
 ·simp only[fh8]
  obtain⟨f,w1,w2⟩:=ag5 s.E8.O0.length (by omega) (fun i (o:List A2)=>(aW3 i o).run) (fun k o=>o.length=s.E8.O0.length/\∀x∈o.take k,x.Y8=0) s.E8.O0 ⟨rfl,by simp⟩ (fun k o hk hI=>by
   have hI1:=hI.1
   simp only[aW3,M.run,L1.m,U1.m,T8]
   rw[aW9 (by omega)]
   simp only[as5,an9]
   rw[if_pos (by omega)]
   refine⟨_,rfl,by rw[eb2];exact hI1,?_⟩
   intro x hx
   rw[do9 (by rw[eb2];omega),dn9,ex8]at hx
   rcases hx with hx|hx
   ·rw[show((k:Nat):Int).toNat=k by omega,List.take_set_of_le (cv6 _)]at hx
    exact hI.2 x hx
   ·subst hx
    simp only[show((k:Nat):Int).toNat=k by omega,dN1])
  rw[w1]
  simp only[as5]
  have hz:∀x∈f,x.Y8=0:=fun x hx=>w2.2 x (by rw[<-w2.1,ey1];exact hx)
  have w21:=w2.1
  have e10:=do8 (c:=⟨s.u,s.d,s.k,s.t,s.o8,s.Z2,s.au2,s.C1,s.aQ0,s.D5,s.aJ3,⟨s.E8.J2,f,s.E8.o9⟩,p,chV s.u.u6 s.o8 s.C1 s.aQ0,s.known,true,s.y9,s.T4⟩) ht hs.spd hch (by simp only;omega) (by simp only;omega) hz
  rw[e10]
  simp only[as5,eI5]
  obtain⟨g,e,q1,q2⟩:=gk 0 (by omega)
  rw[q1]
  simp only[as5,en2]
  exact⟨_,_,_,_,_,rfl,q2,w2.1,hp100⟩
theorem es4 {q:ab4}{now a:Int}{l:List Int}(hq:qzB q=true)(hl:ptB l=true)(hn:l.length<=100)(ha:0<=a/\a<=65535)(ht:ae0 now=true)(ho:q.Open=true)(hle:q.am7<=now):
  ∃x r,(bn2 q.Question l).m=some (x,0)/\(ce8 q now a l).m=some (r,0)/\qzB r=true/\r.am7=0/\r.Open=false/\r.Off=(r.P2==7)/\
   r.P2=(if(((x==a)&&decide (j7 (now-q.am7)>=10000))&&decide (j7 (now-q.am7)<=20000))=true then G4 (q.P2-1) 0 else F2 (q.P2+2) 7):=by
 have hqu:quB q.Question=true:=by
  have:=hq
  simp only[qzB,aI0]at this
  exact this.1.1.1.1.1.1
 obtain⟨x,e1,_⟩:=cy2 q.Question l hn hl hqu
 obtain⟨r,e2,h2,h3,h4,_,h5,h6⟩:=eR7 q (((x==a)&&decide (j7 (now-q.am7)>=10000))&&decide (j7 (now-q.am7)<=20000)) hq
 refine⟨x,r,e1,?_,h2,h3,h4,h6,h5⟩
 simp only[ce8,C.of,M.run,cn1,hq,ce9,ht,dy1,hl,eE8,as5,aX0,fh5,ho,e1]
 rw[fi0 (show a>=0 by omega),fi0 ha.2,fi1 (show¬now<q.am7 by omega)]
 simp only[Bool.and_self,aX0,fh5]
 rw[e2]
 rfl
theorem cZ7 {s:j8}(hs:SOk s)(hq:qzB s.u.I8=true)(ho:s.u.I8.Open=true)(ha:s.u.I8.am7+10000=s.t){b1:Int}{b2:Bool}(hb:(O5 s 6).m=some (b1,b2))(hv:b2=true->1<=b1/\b1<=65535):
  ∃q,(av8 s).m=some {s with u:={s.u with I8:=q}}/\
   qzB q=true/\q.P2=(if b2=true then F2 (s.u.I8.P2+2) 7 else G4 (s.u.I8.P2-1) 0)/\q.Off=(q.P2==7)/\(q.Off=false->q.Open=true/\q.am7=s.t)/\(q.Off=true->q.Open=false)/\q.am7<=s.t:=by
 have ht:=hs.t
 have hsp:=hs.spd
 obtain⟨v,e1,v1⟩:=dP4 s.V4 65536 (by omega) (by omega)
 have hl:ptB [s.o8,v,7]=true:=by
  unfold ptB
  simp only[br6,cI2,List.any_cons,List.any_nil,Bool.or_false,aI0,bY2,bG1,Bool.not_eq_false',fi2]
  omega
 have htm:ae0 s.t=true:=aJ7.2 ht
 have hqu:quB s.u.I8.Question=true:=by
  have:=hq
  simp only[qzB,aI0]at this
  exact this.1.1.1.1.1.1
 obtain⟨x,e2,x0⟩:=cy2 s.u.I8.Question [s.o8,v,7] (by simp) hl hqu
 have kk:∃y,(bif b2 then(ac4 (j7 (x+b1)) 65536).m.bind fun t=>some t else some x)=some y/\(0<=y/\y<=65535)/\(x=y↔b2=false):=by
  cases b2
  ·exact⟨_,rfl,x0,by simp⟩
  ·have h1:=hv rfl
   simp only[fh8]
   rw[j5 (by omega) (by omega),dl1 _ _ (by omega) (by omega)]
   refine⟨_,rfl,by omega,?_⟩
   constructor
   ·intro h;omega
   ·intro h;cases h
 obtain⟨y,e3,y0,yx⟩:=kk
 obtain⟨x',r,q1,q2,q3,q4,q5,q6,q7⟩:=es4 (q:=s.u.I8) (now:=s.t) (a:=y) (l:=[s.o8,v,7]) hq hl (by simp) y0 htm ho (by omega)
 rw[e2]at q1
 cases q1
 have hr:r.P2=(if b2=true then F2 (s.u.I8.P2+2) 7 else G4 (s.u.I8.P2-1) 0):=by
  rw[q7,j5 (by omega) (by omega),fi0 (show s.t-s.u.I8.am7>=10000 by omega),fi0 (show s.t-s.u.I8.am7<=20000 by omega)]
  simp only[Bool.and_true]
  cases hb2:b2
  ·rw[if_pos (by rw[beq_iff_eq];exact yx.2 hb2),if_neg (by simp)]
  ·rw[if_neg (by rw[beq_iff_eq];intro h;have:=yx.1 h;rw[hb2]at this;cases this),if_pos rfl]
 obtain⟨w,n,e,e8,h8,h9⟩:=dI3 r s.t
 simp only[av8,CG.of,M.run,ho,fh8,e1,e2,hb,e3,q2,en4,dG7,as5]
 rw[show((0:Int) !=0)=false from rfl]
 simp only[fh5,e8,as5]
 refine⟨_,rfl,?_⟩
 by_cases cF2:r.Off=false
 ·have he:=h9 q3 htm q5 cF2
  subst he
  obtain⟨a1,a2,a3,a4,a5⟩:=h8 rfl
  rw[show((0:Int) !=0)=false from rfl]
  simp only[fh5]
  refine⟨a1,by rw[a4];exact hr,by rw[a5,a4];exact q6,fun _=>⟨a3,a2⟩,fun h=>?_,by omega⟩
  rw[a5,cF2]at h
  cases h
 ·have cF2:r.Off=true:=by simpa using cF2
  have he:¬e=0:=by
   intro he
   subst he
   obtain⟨a1,a2,a3,a4,a5⟩:=h8 rfl
   have:=a1
   simp only[qzB,aI0]at this
   have h2:=this.2
   rw[a3,a5,cF2]at h2
   cases h2
  rw[enz he]
  simp only[fh8]
  refine⟨q3,hr,q6,fun h=>?_,fun _=>q5,by omega⟩
  rw[cF2]at h
  cases h
theorem dT9 {s:j8}(hs:SOk s)(hq:qzB s.u.I8=true)(ho:s.u.I8.Open=false)(hf:s.u.I8.Off=false):
  ∃q,(av8 s).m=some {s with u:={s.u with I8:=q}}/\
   qzB q=true/\q.P2=s.u.I8.P2/\q.Off=false/\q.Open=true/\q.am7=s.t:=by
 obtain⟨w,n,e,e8,h8,h9⟩:=dI3 s.u.I8 s.t
 have he:=h9 hq (aJ7.2 hs.t) ho hf
 subst he
 obtain⟨a1,a2,a3,a4,a5⟩:=h8 rfl
 simp only[av8,CG.of,M.run,ho,fh5,e8,en4,dG7,as5]
 exact⟨_,rfl,a1,a4,by rw[show(bif ((0:Int) !=0)then s.u.I8 else w)=w from rfl,a5];exact hf,a3,a2⟩
theorem ez2 {s:j8}(hq:qzB s.u.I8=true)(hf:s.u.I8.Off=true):(av8 s).m=some s:=by
 have ho:s.u.I8.Open=false:=by
  have:=hq
  simp only[qzB,aI0,bY2]at this
  have h2:=this.2
  rw[hf]at h2
  simpa using h2
 obtain⟨w,n,e,e8,h8,h9⟩:=dI3 s.u.I8 s.t
 have he:¬e=0:=by
  intro he
  subst he
  obtain⟨a1,a2,a3,a4,a5⟩:=h8 rfl
  have:=a1
  simp only[qzB,aI0]at this
  have h2:=this.2
  rw[a3,a5,hf]at h2
  cases h2
 simp only[av8,CG.of,M.run,ho,fh5,e8,en4,dG7,as5]
 rw[enz he]
 rfl
theorem di7 {r:T1}(h16:r.ae9.length<=16)(f:Cl Tryz.prog Int Bool (fun x=>[.t (tI x)]) (fun r=>.t (tB r)))(p:Int->Bool)(hf:∀c∈r.ae9,f.f c=some (p c)):
  (aO1 r f).m=some (r.ae9.filter p):=by
 simp only[aO1,C.of,M.run]
 obtain⟨o,h1,h2⟩:=aM3 r.ae9 (by omega) (fun i x (o:List Int)=>(aD5 f i x o).run) (fun k o=>o=(r.ae9.take k).filter p) [] (by simp) (fun k x o hx hI=>by
  obtain⟨hk,rfl⟩:=List.getElem?_eq_some_iff.1 hx
  subst hI
  simp only[aD5,M.run,U1.m,Cl.at,hf _ (bd2 hk),as5]
  have ht:r.ae9.take (k+1)=r.ae9.take k++[r.ae9[k]]:=do9 hk
  cases hp:p r.ae9[k]
  ·refine⟨_,rfl,?_⟩
   rw[ht,dK2];simp[hp]
  ·simp only[fh8]
   have hl:((r.ae9.take k).filter p).length<=16:=Nat.le_trans (List.length_filter_le ..) (by rw[List.length_take];omega)
   rw[H7 _ _ (by simp only[co8];omega)]
   refine⟨_,rfl,?_⟩
   rw[ht,dK2];simp[hp])
 rw[h1,h2,ey1]
 rfl
def ey6 (i:Nat):List Int->List U3
 |[]=>[]
 |c=>[⟨(i:Int),c⟩]
def bC0 (p:Int->Bool)(n:Nat):List U3:=(List.range n).flatMap fun i=>ey6 i ((R0.getD i ⟨ByteArray.mk #[],0,0,[],0⟩).ae9.filter p)
theorem cX3 (f:Cl Tryz.prog Int Bool (fun x=>[.t (tI x)]) (fun r=>.t (tB r)))(p:Int->Bool)(hf:∀c,0<=c->c<7->f.f c=some (p c)):
  (aJ5 R0 f).m=some (bC0 p 7):=by
 simp only[aJ5,C.of,M.run]
 obtain⟨a,h1,h2,_⟩:=ag5 R0.length (by rw[cI4];omega) (fun i (o:List U3)=>(az1 R0 f i o).run) (fun k o=>o=bC0 p k/\o.length<=k) [] ⟨rfl,cv6 _⟩ (fun k o hk hI=>by
  obtain⟨hI,hl⟩:=hI
  subst hI
  have hr:=dp3 cY9 (bd2 hk)
  rw[fi2]at hr
  have hv:=di7 hr.1 f p (fun c hc=>by
   have:=bx8.1 hr.2 c hc
   rw[aI0,fi2,fi2]at this
   exact hf c this.1 this.2)
  have hk7:k<7:=hk
  simp only[az1,M.run,L1.m,U1.m]
  rw[T8,aW9 hk]
  simp only[as5,hv]
  have hs:bC0 p (k+1)=bC0 p k++ey6 k (R0[k].ae9.filter p):=by
   unfold bC0
   rw[List.range_succ,List.flatMap_append,List.flatMap_singleton,List.getD_eq_getElem?_getD,aW9 hk]
   rfl
  rw[hs]
  cases hc:R0[k].ae9.filter p with
  |nil=>exact⟨_,rfl,by simp[ey6],by omega⟩
  |cons x l=>
   rw[fi0 (show(((x::l).length:Nat):Int)>0 by simp only[br6];omega)]
   simp only[fh8]
   rw[H7 _ _ (by simp only[co8];omega)]
   exact⟨_,rfl,by simp[ey6],by simp only[ba3,co8];omega⟩)
 rw[h1,h2,cI4]
 rfl
theorem cZ3:bC0 (fun _=>false) 7=[]:=by kernel_rfl
theorem dh0 {f:B7}(hv:(Z6 f).m=some true)(hl:f.L.length=7)(p:Int->Bool)(hp:∀c:Nat,(h:c<f.L.length)->(T2 .i64 (f.L[c]).D8 5 !=0)=p (c:Int)):(aO0 R0 f).m=some (bC0 p 7,0):=by
 have h1:=cX3 (.of (fun z_=>aF9 z_ (-1) f) 287 [Pv.encI (-1),aR1 f]) p (fun c h0 h7=>by
  simp only[Cl.of,aF9,C.of,M.run,L1.m]
  rw[show(c != -1)=true by simp;omega]
  obtain⟨n,rfl⟩:∃n:Nat,c=(n:Int):=⟨c.toNat,by omega⟩
  rw[T8,aW9 (by omega)]
  simp only[fh8,as5]
  rw[hp n (by omega)])
 simp only[aO0,bw0,bo9,C.of,M.run,hv,hl,as5,fh8]
 rw[show(((7:Nat):Int))=7 by rfl,cZ0]
 simp only[as5,aX0,fh5]
 rw[h1]
 rfl
theorem dj7 {x:A1}(h:Fr.fqP x):(T2 .i64 x.D8 5 !=0)=false:=by
 rcases h.1 with e|e<;>rw[e]<;>rfl
theorem ez9 {s:j8}(hp:bX2 s.u.ab0 s.u.A8)(ht:cc9 s.u.u6=true)(hf:s.E8.O0.length<=1000):
  ∃r,(be7 s).m=some r/\∃p q,r={s with u:={s.u with A8:=p},T4:=q}/\bX2 s.u.ab0 p/\(s.u.L6.U2=false->q=s.T4):=by
 simp only[be7,CG.of,M.run,bgi]
 have hf2:s.u.L6.U2=false->(bif (((!s.cut)&&s.u.L6.U2)&&s.known)then s.E8.o9 else s.T4)=s.T4:=fun h=>by rw[h];cases s.cut<;>rfl
 generalize(bif (((!s.cut)&&s.u.L6.U2)&&s.known)then s.E8.o9 else s.T4)=f2 at hf2|-
 refine eH8 (fun p=>bX2 s.u.ab0 p) (eW7 (fun _=>?_) (fun _=>⟨_,rfl,hp⟩)) fun p h1=>?_
 ·obtain⟨v,e1,h2⟩:=dG4 s.E8.O0 (by omega) (.of (fun z_=>bE0 z_) 181 []) (fun x=>x.Y8 !=0) (fun x=>rfl)
  rw[e1]
  simp only[as5]
  refine eH8 (fun _=>True) (eW7 (fun h3=>?_) (fun _=>⟨_,rfl,trivial⟩)) fun m _=>?_
  ·rw[fi2]at h3
   have h4:=h2 h3
   obtain⟨k,rfl⟩:∃k:Nat,v=(k:Int):=⟨v.toNat,by omega⟩
   simp only[L1.m]
   rw[T8,aW9 (by omega)]
   simp only[as5]
   obtain⟨r,e⟩:=eo5 ht (s.E8.O0[k]'(by omega)).Y8
   rw[e]
   exact⟨_,rfl,trivial⟩
  ·obtain⟨r,u,e,e2,h3⟩:=dZ9 hp m s.A0
   simp only[e2,eI7,en6,as5]
   exact⟨_,rfl,dP0 hp h3⟩
 ·generalize(bif decide (s.o8<400)then j7 (f2+800)else f2)=q
  generalize(bif s.u.L6.U2 then s.E8.J2 else 0)=a
  generalize(bif s.d.bO0 !=0 then j7 (s.d.bO1+s.d.bl5)else 0)=g
  obtain⟨r,u,e,e2,h3⟩:=eE2 h1 a (F2 q 10000) g 10000
  simp only[e2,eI7,en6,as5]
  exact⟨_,rfl,_,_,rfl,dP0 h1 h3,hf2⟩
theorem eR0 (g:ao6)(l:List j6):∃x,(cf7 g l).m=some x/\x.1.length<=1000/\(g.U2=false->∀w∈x.1,w.K1=false):=by
 obtain⟨b,e1,h1⟩:=eo2 l
 simp only[cf7,C.of,M.run,cT2,as5]
 cases hv:sgB g
 ·exact⟨_,rfl,by simp,fun _ w hw=>by simp at hw⟩
 ·simp only[aX0,fh5,e1,as5]
  cases b
  ·exact⟨_,rfl,by simp,fun _ w hw=>by simp at hw⟩
  ·have hl:=h1 rfl
   simp only[aX0,fh5]
   rw[dU8 l (by omega)]
   simp only[as5]
   have e2:(N6 l (.of (fun z_=>co9 z_ g) 277 [bu3 g])).m=some (l.filter fun y=>!(y.K1&& !g.U2)):=eN3 l (by omega) _ (fun y=>y.K1&& !g.U2) (fun y _=>rfl)
   rw[e2]
   refine⟨_,rfl,Nat.le_trans (List.length_filter_le ..) hl,fun hE w hw=>?_⟩
   have:=(List.mem_filter.1 hw).2
   rw[hE]at this
   simpa using this
theorem es3 (s:j8):∃l,(bo4 s).m=some ⟨s.t,s.o8,s.T4,s.V4,l,s.Z2,!s.u.L6.U2⟩/\l.length<=1000/\(s.u.L6.U2=false->∀w∈l,w.K1=false):=by
 obtain⟨x,e1,h1,h2⟩:=eR0 s.u.L6 s.y9
 simp only[bo4,CG.of,M.run,e1,as5]
 exact⟨_,rfl,h1,h2⟩
theorem ek7 {s:j8}(hgr:grB s.u.M0=true)(hqz:qzB s.u.I8=true)(htm:ae0 s.t=true)(hg:sgB s.u.L6=true/\s.u.L6.aQ4<=s.t)(h:Sch s.u.j4 s.u.j4)(hf:s.E8.O0.length<=8)(hl:s.y9.length<=1000000):
  ∃g c w,(aZ8 s).m=some {s with u:={s.u with j4:=c,L6:=g},y9:=w}/\
   (sgB g=true/\g.aQ4<=s.t)/\Sch s.u.j4 c/\w.length<=s.y9.length+100/\g.U2=(csV true s.u.M0 s.u.I8==0):=by
 obtain⟨r,e,e1,h1,h0⟩:=eF8 s.u.L6 true s.u.M0 s.u.I8 s.t
 have hen:(bif e !=0 then s.u.L6 else r).U2=(csV true s.u.M0 s.u.I8==0):=by
  have he:=h0 hg.1 hgr hqz htm hg.2
  subst he
  exact(h1 rfl).2.2
 have hr:sgB (bif e !=0 then s.u.L6 else r)=true/\(bif e !=0 then s.u.L6 else r).aQ4<=s.t:=by
  by_cases he:e=0
  ·subst he
   obtain⟨q1,q2,_⟩:=h1 rfl
   rw[show((0:Int) !=0)=false from rfl]
   exact⟨q1,by simp only[fh5];omega⟩
  ·rw[show(e !=0)=true by simpa using he];exact hg
 simp only[aZ8,CG.of,M.run,eZ2,eP9,e1,as5]
 generalize(bif e !=0 then s.u.L6 else r)=g at hr hen|-
 cases hE:g.U2
 ·obtain⟨t,l,e2,h2,h3⟩:=dN0 h
  simp only[cI3,fh8,e2,as5]
  rw[bU3 _ _ l 0 (by simp only;omega)]
  simp only[as5]
  exact⟨g,t,s.y9++l,rfl,hr,h2,by rw[ba3];omega,hE▸hen⟩
 ·simp only[aX0,fh5]
  have key:∃c,(bif s.u.j4.Cut then(aC5 s.u.j4).m.bind fun t=>(ad0 s.u.j4).m.bind fun t_1=>(an2 t_1.1 t_1.2 t).m.bind fun t=>some t else some s.u.j4)=some c/\Sch s.u.j4 c:=by
   cases s.u.j4.Cut
   ·exact⟨_,rfl,h⟩
   ·obtain⟨t,e,e2,h2⟩:=dI8 h
    simp only[fh8,en5,dG8,e2,as5]
    exact⟨_,rfl,h2⟩
  obtain⟨c,e3,h3⟩:=key
  rw[e3]
  simp only[as5]
  obtain⟨t,e,e4,h4⟩:=ex2 (s:=c) ⟨h3.ok,h3.few,rfl,rfl⟩ s.E8.O0 hf
  simp only[en5,dG8,e4,as5]
  exact⟨g,_,s.y9,rfl,hr,⟨h4.ok,h4.few,h4.eng.trans h3.eng,h4.now.trans h3.now⟩,by omega,hE▸hen⟩
theorem eT1 {s:j8}(hs:SOk s)(hk:∀b∈s.k,b.aE2=6){cyc:Int}{t:Nat->Bool}(hc:Fr.Cfs cf0)(h:Fr.Inv cf0 s.u.F3 cyc true t)(h0:1<=cyc)(h1:cyc<=1073741824):
  ∃r t',(bk4 s).m=some r/\fe2 s r/\Fr.Inv cf0 r.u.F3 cyc true t'/\bz6 cf0 cyc (bl (false,false,false,false,false,s.u.M0.Off,s.u.I8.Off)) s.u.F3 r.u.F3 7/\(∀p:Int->Bool,(∀c:Nat,(h:c<r.u.F3.L.length)->(T2 .i64 (r.u.F3.L[c]).D8 5 !=0)=p (c:Int))->r.Z2=bC0 p 7):=by
 have hb:=eh0 hs hk
 obtain⟨i,f,t',e1,hi,hts⟩:=dA6 hs (false,false,false,false,false,s.u.M0.Off,s.u.I8.Off) hc (by rw[bq4];exact cv6 _) h h0 h1
 have hv:(Z6 f).m=some true:=by rw[be1];exact Fr.bU6 hc hi (by omega) h1 (fun _=>h0)
 obtain⟨a,ea,ha,hr2⟩:=dC8 hv (by rw[hi.len,bq4])
 have hact:∀p:Int->Bool,(∀c:Nat,(h:c<f.L.length)->(T2 .i64 (f.L[c]).D8 5 !=0)=p (c:Int))->a=bC0 p 7:=fun p hp=>by
  have:=dh0 hv (by rw[hi.len,bq4]) p hp
  rw[ea]at this
  exact(fh4 (cq4 this)).1
 have hr:∀x∈a,0<=x.S5/\x.S5<7:=fun x hx=>(hr2 x hx).1
 simp only[bk4,CG.of,M.run,hb,as5]
 rw[e1]
 simp only[as5,cX9,ea]
 obtain⟨v6,e6,h6⟩:=dg0 0 10000 (⟨(⟨s.u.u6,s.u.u4,s.u.j4,s.u.Q4,s.u.M7,s.u.H8,s.u.M0,s.u.I8,s.u.L6,f,s.u.A8,s.u.ab0,s.u.Time⟩:ac3),s.d,s.k,s.t,s.o8,a,s.au2,s.C1,s.aQ0,s.D5,s.aJ3,s.E8,s.V4,s.A0,s.known,s.cut,s.y9,s.T4⟩:j8) ha hr
 rw[e6];simp only[as5]
 have ok:∀(a:List U3) (l p h c q:Int),SOk (⟨(⟨s.u.u6,s.u.u4,s.u.j4,s.u.Q4,s.u.M7,s.u.H8,s.u.M0,s.u.I8,s.u.L6,f,s.u.A8,s.u.ab0,s.u.Time⟩:ac3),s.d,s.k,s.t,s.o8,a,l,p,h,c,q,s.E8,s.V4,s.A0,s.known,s.cut,s.y9,s.T4⟩:j8):=fun a l p h c q=>⟨hs.few,hs.val,hs.ped,hs.pre,hs.t,hs.spd⟩
 have tt:∀(n o:Int) (l p h c q:Int),∃v,(as6 n o R0 (⟨(⟨s.u.u6,s.u.u4,s.u.j4,s.u.Q4,s.u.M7,s.u.H8,s.u.M0,s.u.I8,s.u.L6,f,s.u.A8,s.u.ab0,s.u.Time⟩:ac3),s.d,s.k,s.t,s.o8,a,l,p,h,c,q,s.E8,s.V4,s.A0,s.known,s.cut,s.y9,s.T4⟩:j8)).m=some v:=fun n o l p h c q=>by
  obtain⟨v,e,_⟩:=dg0 n o (⟨(⟨s.u.u6,s.u.u4,s.u.j4,s.u.Q4,s.u.M7,s.u.H8,s.u.M0,s.u.I8,s.u.L6,f,s.u.A8,s.u.ab0,s.u.Time⟩:ac3),s.d,s.k,s.t,s.o8,a,l,p,h,c,q,s.E8,s.V4,s.A0,s.known,s.cut,s.y9,s.T4⟩:j8) ha hr
  exact⟨v,e⟩
 obtain⟨v7,e7,_⟩:=aS0 (ok a v6 s.C1 s.aQ0 s.D5 s.aJ3) 2
 rw[e7];simp only[as5]
 obtain⟨v8,e8⟩:=tt 1 v7 v6 s.C1 s.aQ0 s.D5 s.aJ3
 rw[e8];simp only[as5,br4]
 have c9:=bm1 v8 50 1013 (by omega)
 generalize F2 (G4 v8 50) 1013=v9 at c9|-
 obtain⟨v10,e10,_⟩:=aS0 (ok a v6 v9 s.aQ0 s.D5 s.aJ3) 3
 rw[e10];simp only[as5]
 obtain⟨v11,e11⟩:=tt 2 v10 v6 v9 s.aQ0 s.D5 s.aJ3
 rw[e11];simp only[as5]
 have c12:=bm1 v11 (-40) 150 (by omega)
 generalize F2 (G4 v11 (-40)) 150=v12 at c12|-
 obtain⟨v13,e13,_⟩:=aS0 (ok a v6 v9 v12 s.D5 s.aJ3) 4
 rw[e13];simp only[as5]
 obtain⟨v14,e14⟩:=tt 3 v13 v6 v9 v12 s.D5 s.aJ3
 rw[e14];simp only[as5]
 have c15:=bm1 v14 (-40) 150 (by omega)
 generalize F2 (G4 v14 (-40)) 150=v15 at c15|-
 obtain⟨v16,e16,_⟩:=aS0 (ok a v6 v9 v12 v15 s.aJ3) 5
 rw[e16];simp only[as5]
 obtain⟨v17,e17⟩:=tt 4 v16 v6 v9 v12 v15 s.aJ3
 rw[e17];simp only[as5]
 exact⟨_,t',rfl,⟨rfl,rfl,rfl,rfl,rfl,rfl,rfl,rfl,rfl,rfl,rfl,rfl,rfl,rfl,rfl,rfl,rfl,rfl,rfl,⟨ha,fun x hx=>(hr2 x hx).2⟩,h6 (by omega) (by omega),c9,c12,c15,bm1 _ _ _ (by omega)⟩,hi,hts,hact⟩
structure do7 (u v:ac3)(r:aj1)(Q:ab4->Prop):Prop where
 ok:UOk v
 time:v.Time=u.Time+10000
 rc:eL0 r
 guard:v.M0.Off=false
 eE5:Q v.I8
 flt:∃cyc,1<=cyc/\bz6 cf0 cyc (bl (false,false,false,false,false,false,u.I8.Off)) u.F3 v.F3 7
 act:∀p:Int->Bool,(∀c:Nat,(h:c<v.F3.L.length)->(T2 .i64 (v.F3.L[c]).D8 5 !=0)=p (c:Int))->r.af3=bC0 p 7
 off:r.Off=v.I8.Off
 bound:100<=r.dL4
 at':r.Time=u.Time
 quiet:r.Off=true->r.o9=0/\∀w∈r.aX7,w.K1=false
theorem eM9 {g:ah9}{q:ab4}(h:g.Off=false):(csV true g q==0)= !q.Off:=by
 unfold csV
 rw[h]
 cases q.Off<;>rfl
theorem dZ7 {u:ac3}{d:I5}{k:List Y9}{Q:ab4->Prop}(hc:Fr.Cfs cf0)(h:UOk u)(hd:DOk d k)(ht:u.Time+10000<=549755813888)(hk:∀b∈k,b.aE2=6)(ho:u.M0.Off=false)
  (hask:∀s:j8,SOk s->s.u.I8=u.I8->s.k=k->s.t=u.Time->∃q,(av8 s).m=some {s with u:={s.u with I8:=q}}/\qzB q=true/\q.am7<=s.t/\Q q):
  ∃v r,(bQ9 u d k).m=some (v,r)/\do7 u v r Q:=by
 have hspd:=h.pl.spd
 have hti:=h.time
 have e0:=eF5 u.A8.D2 hspd.1 hspd.2
 have hrpm:0<=u.A8.D2*60000000/1509949440/\u.A8.D2*60000000/1509949440<=12000:=by omega
 simp only[bQ9,C.of,M.run,e0,as5]
 generalize u.A8.D2*60000000/1509949440=rpm at hrpm|-
 generalize((u.Q4.Mode==2)&&u.M7.aX6)=kn
 have m0:Mid u.Time (⟨u,d,k,u.Time,rpm,([]:List U3),0,0,0,0,0,(⟨0,([]:List A2),0⟩:O4),0,0,kn,false,([]:List j6),0⟩:j8):=
  ⟨⟨hd.few,hd.val,hd.ped,h.pl.pre,⟨by simp only;omega,by simp only;omega⟩,hrpm⟩,h.C4,h.pl,h.sch,h.few,h.now,h.con,h.tf,h.sy,h.ph,h.gr,h.qz,h.sg,h.flt,by simp,by simp⟩
 obtain⟨r1,cyc,e1,m1,a1,t1,sw1,k1,g1,z1,w1,c1,x1,y1⟩:∃r cyc,(bk4 (⟨u,d,k,u.Time,rpm,([]:List U3),0,0,0,0,0,(⟨0,([]:List A2),0⟩:O4),0,0,kn,false,([]:List j6),0⟩:j8)).m=some r/\Mid u.Time r/\ey2 r/\r.t=u.Time/\r.y9=[]/\r.k=k/\r.u.M0.Off=false/\r.u.I8=u.I8/\r.T4=0/\1<=cyc/\
   bz6 cf0 cyc (bl (false,false,false,false,false,false,u.I8.Off)) u.F3 r.u.F3 7/\(∀p:Int->Bool,(∀c:Nat,(h:c<r.u.F3.L.length)->(T2 .i64 (r.u.F3.L[c]).D8 5 !=0)=p (c:Int))->r.Z2=bC0 p 7):=by
  obtain⟨c,t,hct,hi⟩:=h.flt
  obtain⟨r,t',e,o,hi',hts,hact⟩:=eT1 m0.ok hk hc hi hct.1 hct.2
  obtain⟨q1,q2,q3,q4,q5,q6,q7,q8,q9,q10,q11,q12,q13,q14,q15,q16,q17,q18,q19,q25,q20,q21,q22,q23,q24⟩:=o
  simp only at q1 q2 q3 q4 q5 q6 q7 q8 q9 q10 q11 q12 q13 q14 q15 q16 q17 q18 q19
  simp only[ho]at hts
  refine⟨r,c,e,⟨⟨by rw[q13];exact hd.few,by rw[q13];exact hd.val,by rw[q12];exact hd.ped,by rw[q10];exact h.pl.pre,by rw[q14];omega,by rw[q15];exact hrpm⟩,by rw[q1];exact h.C4,by rw[q11,q10];exact h.pl,by rw[q3];exact h.sch,by rw[q3];exact h.few,by rw[q3];exact h.now,by rw[q3,q2];exact h.con,by rw[q6];exact h.tf,by rw[q4];exact h.sy,by rw[q5];exact h.ph,by rw[q7];exact h.gr,by rw[q8,q14];exact h.qz,by rw[q9,q14];exact h.sg,⟨c,t',hct,hi'⟩,q25⟩,⟨q20,q21,q22,q23,q24⟩,q14,q18,q13,by rw[q7];exact ho,q8,q19,hct.1,hts,hact⟩
 rw[e1];simp only[as5]
 obtain⟨r2,e2,m2,a2,t2,sw2,n2,k2,g2,z2,w2,f2,x2⟩:∃r,(aT5 r1).m=some r/\Mid u.Time r/\ey2 r/\r.t=u.Time/\r.y9=[]/\(1<=r.E8.O0.length/\r.E8.O0.length<=8)/\r.k=k/\r.u.M0.Off=false/\r.u.I8=u.I8/\r.T4=0/\r.u.F3=r1.u.F3/\r.Z2=r1.Z2:=by
  obtain⟨c,o,e,hg,hl⟩:=dr7 m1.ok a1 m1.C4 m1.pl.body m1.con
  have hn:=(ce0.1 m1.con).eng
  have hn1:=hn.1;have hn2:=hn.2.1
  exact⟨_,e,⟨⟨m1.ok.few,m1.ok.val,m1.ok.ped,m1.ok.pre,m1.ok.t,m1.ok.spd⟩,m1.C4,m1.pl,m1.sch,m1.few,m1.now,hg,m1.tf,m1.sy,m1.ph,m1.gr,m1.qz,m1.sg,m1.flt,m1.act⟩,⟨a1.au2,a1.C1,a1.aQ0,a1.D5,a1.aJ3⟩,t1,sw1,by show 1<=o.O0.length/\o.O0.length<=8;omega,k1,g1,z1,w1,rfl,rfl⟩
 rw[e2];simp only[as5]
 obtain⟨r3,e3,m3,t3,sw3,n3,k3,g3,z3,w3,f3,x3,b3⟩:∃r,(aT6 r2).m=some r/\Mid u.Time r/\r.t=u.Time/\r.y9=[]/\r.E8.O0.length<=8/\r.k=k/\r.u.M0.Off=false/\r.u.I8=u.I8/\r.T4=0/\r.u.F3=r1.u.F3/\r.Z2=r1.Z2/\100<=r.V4:=by
  obtain⟨g,f,p,c,b,e,hg,hl,hb⟩:=dY5 m2.ok (by rw[k2];exact hk) g2 a2 m2.C4 m2.con m2.gr n2.1 n2.2
  exact⟨_,e,⟨⟨m2.ok.few,m2.ok.val,m2.ok.ped,m2.ok.pre,m2.ok.t,m2.ok.spd⟩,m2.C4,m2.pl,m2.sch,m2.few,m2.now,m2.con,m2.tf,m2.sy,m2.ph,hg.1,m2.qz,m2.sg,m2.flt,m2.act⟩,t2,sw2,by show f.length<=8;omega,k2,hg.2,z2,w2,f2,x2,hb⟩
 rw[e3];simp only[as5]
 obtain⟨r4,e4,m4,t4,sw4,n4,g4,z4,w4,f4,x4,b4⟩:∃r,(av8 r3).m=some r/\Mid u.Time r/\r.t=u.Time/\r.y9=[]/\r.E8.O0.length<=8/\r.u.M0.Off=false/\Q r.u.I8/\r.T4=0/\r.u.F3=r1.u.F3/\r.Z2=r1.Z2/\100<=r.V4:=by
  obtain⟨q,e,hq1,hq2,hq3⟩:=hask r3 m3.ok z3 k3 t3
  exact⟨_,e,⟨⟨m3.ok.few,m3.ok.val,m3.ok.ped,m3.ok.pre,m3.ok.t,m3.ok.spd⟩,m3.C4,m3.pl,m3.sch,m3.few,m3.now,m3.con,m3.tf,m3.sy,m3.ph,m3.gr,⟨hq1,hq2⟩,m3.sg,m3.flt,m3.act⟩,t3,sw3,n3,g3,hq3,w3,f3,x3,b3⟩
 rw[e4];simp only[as5]
 obtain⟨r5,e5,m5,t5,sw5,n5,g5,z5,w5,f5,x5,b5,s5⟩:∃r,(aZ8 r4).m=some r/\Mid u.Time r/\r.t=u.Time/\r.y9.length<=100/\r.E8.O0.length<=8/\r.u.M0.Off=false/\Q r.u.I8/\r.T4=0/\r.u.F3=r1.u.F3/\r.Z2=r1.Z2/\100<=r.V4/\r.u.L6.U2= !r.u.I8.Off:=by
  obtain⟨g,c,w,e,hg,hs,hw,hE⟩:=ek7 m4.gr m4.qz.1 (aJ7.2 m4.ok.t) m4.sg ⟨m4.sch,m4.few,rfl,rfl⟩ n4 (by rw[sw4];simp)
  rw[sw4]at hw
  rw[eM9 g4]at hE
  exact⟨_,e,⟨⟨m4.ok.few,m4.ok.val,m4.ok.ped,m4.ok.pre,m4.ok.t,m4.ok.spd⟩,m4.C4,m4.pl,hs.ok,hs.few,hs.now.trans m4.now,by show bz0 c.u7 r4.u.u4=true;rw[hs.eng];exact m4.con,m4.tf,m4.sy,m4.ph,m4.gr,m4.qz,hg,m4.flt,m4.act⟩,t4,by simpa using hw,n4,g4,z4,w4,f4,x4,b4,hE⟩
 rw[e5];simp only[as5]
 obtain⟨r6,e6,m6,t6,n6,g6,z6,w6,f6,x6,b6,s6⟩:∃r,(bk5 r5).m=some r/\Mid (u.Time+10000) r/\r.t=u.Time/\r.E8.O0.length<=8/\r.u.M0.Off=false/\Q r.u.I8/\r.T4=0/\r.u.F3=r1.u.F3/\r.Z2=r1.Z2/\100<=r.V4/\r.u.L6.U2= !r.u.I8.Off:=by
  have bE6:=m5.now;have htf:=m5.tf;have hsy:=m5.sy
  obtain⟨c,y,p,f,w,e,q,hn⟩:=ew2 (s:=r5) (by rw[t5];exact⟨by omega,⟨m5.sch,m5.few,rfl,by omega,by omega⟩,⟨hsy.1,by omega⟩,m5.ph,⟨htf.1,by omega⟩⟩) m5.pl (by rw[t5];omega) (by omega)
  rw[t5]at q hn
  exact⟨_,e,⟨⟨m5.ok.few,m5.ok.val,m5.ok.ped,m5.ok.pre,m5.ok.t,m5.ok.spd⟩,m5.C4,m5.pl,q.sch.ok,q.sch.few,hn,by show bz0 c.u7 r5.u.u4=true;rw[q.sch.eng];exact m5.con,q.tf,q.sy,q.ph,m5.gr,m5.qz,m5.sg,m5.flt,m5.act⟩,t5,n5,g5,z5,w5,f5,x5,b5,s5⟩
 rw[e6];simp only[as5]
 obtain⟨r7,e7,m7,t7,g7,z7,w7,f7,x7,b7,s7⟩:∃r,(be7 r6).m=some r/\Mid (u.Time+10000) r/\r.t=u.Time/\r.u.M0.Off=false/\Q r.u.I8/\(r.u.L6.U2=false->r.T4=0)/\r.u.F3=r1.u.F3/\r.Z2=r1.Z2/\100<=r.V4/\r.u.L6.U2= !r.u.I8.Off:=by
  obtain⟨r,e,p,q,rfl,hp,hq⟩:=ez9 m6.pl m6.C4 (by omega)
  exact⟨_,e,⟨⟨m6.ok.few,m6.ok.val,m6.ok.ped,hp.pre,m6.ok.t,m6.ok.spd⟩,m6.C4,hp,m6.sch,m6.few,m6.now,m6.con,m6.tf,m6.sy,m6.ph,m6.gr,m6.qz,m6.sg,m6.flt,m6.act⟩,t6,g6,z6,fun hE=>(hq hE).trans w6,f6,x6,b6,s6⟩
 rw[e7];simp only[as5]
 obtain⟨l8,e8,s8,a8⟩:=es3 ({r7 with u:={r7.u with Time:=j7 (r7.t+10000)}}:j8)
 rw[e8];simp only[as5]
 have hw:j7 (r7.t+10000)=u.Time+10000:=by rw[t7,j5 (by omega) (by omega)]
 have hq:=m7.qz;have hg:=m7.sg
 rw[t7]at hq hg
 have hten:=h.ten
 rw[hw]
 refine⟨_,_,rfl,⟨⟨m7.C4,m7.pl,m7.sch,m7.few,m7.now,m7.con,m7.tf,m7.sy,m7.ph,m7.gr,⟨hq.1,by have:=hq.2;show r7.u.I8.am7<=u.Time+10000;omega⟩,⟨hg.1,by have:=hg.2;show r7.u.L6.aQ4<=u.Time+10000;omega⟩,m7.flt,by show 0<=u.Time+10000/\u.Time+10000<=549755813888;omega,by show(u.Time+10000)%10000=0;omega⟩,rfl,⟨s8,m7.act⟩,g7,z7,⟨cyc,c1,by show bz6 _ _ _ _ r7.u.F3 7;rw[f7];exact x1⟩,fun p hp=>?_,?_,b7,t7,fun hE=>?_⟩⟩
 ·show r7.Z2=bC0 p 7
  rw[x7]
  refine y1 p fun c hc2=>?_
  have:=hp c (by show c<r7.u.F3.L.length;rw[f7];exact hc2)
  simp only[f7]at this
  exact this
 ·show(!r7.u.L6.U2)=r7.u.I8.Off
  rw[s7,Bool.not_not]
 ·have hE':r7.u.L6.U2=false:=by
   have h2:(!r7.u.L6.U2)=true:=hE
   simpa using h2
  exact⟨w7 hE',a8 hE'⟩
def nxU (l:List I5)(k:List Y9)(u:ac3):ac3×aj1×Int:=((aY1 l u.Time).m.bind fun r=>(aR0 u r.1 k).m).getD ⟨u,⟨0,0,0,0,[],[],false⟩,0⟩
def sq (l:List I5)(k:List Y9)(u:ac3):Nat->ac3
 |0=>u
 |i+1=>(nxU l k (sq l k u i)).1
structure ch0 (l:List I5)(k:List Y9):Prop where
 cf:Fr.Cfs cf0
 val:(aA0 l).m=some true
 dr:ey3 l
 few:k.length<=100
 brk:∀x∈k,eM2 x
def cY0 (l:List I5)(k:List Y9)(u:ac3)(n:Nat):List aj1:=(List.range n).map fun i=>(nxU l k (sq l k u i)).2.1
theorem aw:(aM0).m=some true:=(aM0).le 1000 _ (by kernel_rfl)
theorem dT4 (l:List (List Int))(hl:l.length<=1000000)(f:Cl Tryz.prog (List Int) Bool (fun x=>[.t (tS Pv.encI x)]) (fun r=>.t (tB r)))(p:List Int->Bool)(h:∀x∈l,f.f x=some (p x)):(G0 l f).m=some (l.any p):=by
 simp only[G0,W0,aa0,C.of,M.run,L1.m,Cl.at]
 refine Eq.trans ?_ (bu7 l (by omega) f.f p h)
 kernel_rfl
theorem eB1 (t:o7):∃b,(bi7 t).m=some b:=by
 simp only[bi7,C.of,M.run]
 rcases bv8 [t.Air,t.N9,t.o9,t.aH9] (by simp) (fun i x (u:Unit)=>(aW4 i x u).run) (fun _ _=>True) (fun _=>True) () trivial (fun k x u hx _=>by
  simp only[aW4,M.run]
  cases hc:(((decide ((x.X.length:Int)>40))||(decide ((x.Y.length:Int)>40)))||(decide ((x.Z.length:Int)>40)))
  ·simp only[bG1,fi3]at hc
   simp only[fh5]
   rw[dT4 x.Z (by omega) (.of (fun z_=>bu9 z_) 22 []) _ (fun y _=>rfl)]
   simp only[as5]
   generalize(x.Z.any _)=c
   cases c
   ·exact .inl ⟨_,rfl,trivial⟩
   ·exact .inr ⟨_,rfl,trivial⟩
  ·exact .inr ⟨_,rfl,trivial⟩)with⟨u,e,_⟩|⟨r,e,_⟩
 ·rw[e]
  simp only[as5]
  rcases bv8 [t.L4,t.af1,t.aw5,t.C3] (by simp) (fun i x (u:Unit)=>(aW5 i x u).run) (fun _ _=>True) (fun _=>True) () trivial (fun k x u hx _=>by
   simp only[aW5,M.run]
   cases hc:((decide ((x.X.length:Int)>40))||(decide ((x.Y.length:Int)>40)))
   ·exact .inl ⟨_,rfl,trivial⟩
   ·exact .inr ⟨_,rfl,trivial⟩)with⟨u,e,_⟩|⟨r,e,_⟩
  ·rw[e];exact⟨_,rfl⟩
  ·rw[e];exact⟨_,rfl⟩
 ·rw[e];exact⟨_,rfl⟩
abbrev dC1 (u:ac3)(k:List Y9)(Q:ab4->Prop):Prop:=∀s:j8,SOk s->s.u.I8=u.I8->s.k=k->s.t=u.Time->∃q,(av8 s).m=some {s with u:={s.u with I8:=q}}/\qzB q=true/\q.am7<=s.t/\Q q
theorem eD8 {l:List I5}{k:List Y9}{Q:ab4->Prop}(g:ch0 l k){u:ac3}(h:UOk u)(ht:u.Time+10000<=549755813888)(hk:∀b∈k,b.aE2=6)(ho:u.M0.Off=false)(hask:dC1 u k Q):
  ∃d,(aY1 l u.Time).m=some (d,0)/\(aR0 u d k).m=some (nxU l k u)/\(nxU l k u).2.2=0/\do7 u (nxU l k u).1 (nxU l k u).2.1 Q:=by
 have h0:=h.time
 obtain⟨d,e1,hd⟩:=eL9 g.val g.dr u.Time (by omega)
 obtain⟨v,r,e2,hl⟩:=dZ7 g.cf h ⟨g.few,fun x hx=>(g.brk x hx).2.2,hd.2.1⟩ ht hk ho hask
 have e3:(aR0 u d k).m=some (v,r,0):=by
  simp only[aR0,C.of,M.run,dg4 g.cf h,cL6 g.few g.brk,dZ6 hd,as5,aX0,fh5]
  rw[j5 (by omega) (by omega),fi1 (by omega),e2]
  rfl
 have e:nxU l k u=(v,r,0):=by
  unfold nxU
  rw[e1]
  simp only[as5]
  rw[e3]
  rfl
 rw[e]
 exact⟨d,e1,e3,rfl,hl⟩
theorem fg5 {l:List I5}{k:List Y9}{Q:ab4->Prop}(g:ch0 l k){u:ac3}(h:UOk u)(ht:u.Time+10000<=549755813888)(hk:∀b∈k,b.aE2=6)(ho:u.M0.Off=false)(hask:dC1 u k Q):
  do7 u (nxU l k u).1 (nxU l k u).2.1 Q:=by
 obtain⟨_,_,_,_,h⟩:=eD8 g h ht hk ho hask
 exact h
theorem fa6 {l:List I5}{k:List Y9}(g:ch0 l k){u:ac3}(h:UOk u)(n:Nat)(hn:n<=1000)(hs:∀i,i<n->∃d,(aY1 l (sq l k u i).Time).m=some (d,0)/\(aR0 (sq l k u i) d k).m=some (nxU l k (sq l k u i))/\(nxU l k (sq l k u i)).2.2=0):(cG7 u l k (n:Int)).m=some (cY0 l k u n,0):=by
 simp only[cG7,C.of,M.run,dg4 g.cf h,cL6 g.few g.brk,g.val,as5,aX0,fh5]
 rw[fi1 (show¬(n:Int)<0 by omega),fi1 (show¬(n:Int)>1000 by omega)]
 simp only[eO7,fh5]
 obtain⟨s,e,h1,h2⟩:=ag5 n (by omega) (fun i (s:List aj1×ac3)=>(cd2 l k i s).run) (fun i s=>s.1=cY0 l k u i/\s.2=sq l k u i) ([],u) ⟨rfl,rfl⟩ (fun i s hi ⟨q1,q2⟩=>by
  obtain⟨o,v⟩:=s
  simp only at q1 q2
  subst q1;subst q2
  obtain⟨d,e1,e2,e3⟩:=hs i hi
  simp only[cd2,M.run,U1.m,e1,e2,e3,as5]
  rw[show((0:Int) !=0)=false from rfl,H7 _ _ (by simp only[cY0,List.length_map,List.length_range,co8];omega)]
  refine⟨_,rfl,?_,rfl⟩
  simp only[cY0,List.range_succ,List.map_append,List.map_cons,List.map_nil])
 rw[e]
 show some (s.1,(0:Int))=_
 rw[h1]
structure Calm (u:ac3):Prop where
 guard:u.M0.Off=false
 off:u.I8.Off=false
 err:u.I8.P2=0
 op:u.I8.Open=true->u.I8.am7+10000=u.Time
 flt:∀x∈u.F3.L,Fr.fqP x
theorem ff8:G4 ((0:Int)-1) 0=0:=rfl
theorem dq9 {u:ac3}{k:List Y9}(h:UOk u)(hc:Calm u)(hk:∀s:j8,SOk s->s.k=k->s.t=u.Time->(O5 s 6).m=some (0,false)):
  dC1 u k (fun q=>q.Off=false/\q.P2=0/\q.Open=true/\q.am7=u.Time):=by
 intro s hs hq hsk hst
 have hz:qzB s.u.I8=true:=by rw[hq];exact h.qz.1
 cases ho:s.u.I8.Open
 ·obtain⟨q,e,a1,a2,a3,a4,a5⟩:=dT9 hs hz ho (by rw[hq];exact hc.off)
  exact⟨q,e,a1,by omega,a3,by rw[a2,hq];exact hc.err,a4,a5.trans hst⟩
 ·obtain⟨q,e,a1,a2,a3,a4,a5,a6⟩:=cZ7 hs hz ho (by rw[hq,hst];exact hc.op (by rw[<-hq];exact ho)) (hk s hs hsk hst) (fun h=>by cases h)
  rw[if_neg (by simp),hq,hc.err,ff8]at a2
  have cF2:q.Off=false:=by rw[a3,a2];rfl
  exact⟨q,e,a1,a6,cF2,a2,(a4 cF2).1,(a4 cF2).2.trans hst⟩
theorem cy5 {cyc:Int}{f g:B7}{c:Int}{t:Nat->Bool}(hc:Fr.Cfs cf0)(hi:Fr.Inv cf0 f c true t)(hq:∀x∈f.L,Fr.fqP x)(ht:bz6 cf0 cyc (bl (false,false,false,false,false,false,false)) f g 7):∀x∈g.L,Fr.fqP x:=by
 intro x hx
 obtain⟨j,hj,rfl⟩:=List.mem_iff_getElem.1 hx
 have hl:=ht.len;have hl2:=hi.len;have h7:=bq4
 have hj7:j<7:=by omega
 obtain⟨fr,e⟩:=ht.done j hj7 hj (by omega) (by omega) (by simp only[br6,cI2];omega)
 rw[e]
 have hv:(bl (false,false,false,false,false,false,false))[j]'(by simp only[br6,cI2];omega)=false:=by
  have:∀(l:List Bool) (h:j<l.length),(∀b∈l,b=false)->l[j]=false:=fun l h hb=>hb _ (bd2 h)
  exact this _ _ (by simp)
 rw[hv]
 obtain⟨b1,b2,b4,b16,hb⟩:=hi.rt j (by omega) (by omega)
 exact Fr.cS8 (hc.ok (by omega)) (hq _ (bd2 _)) hb.count.1
theorem dU6 {l:List I5}{k:List Y9}(g:ch0 l k){u:ac3}(h:UOk u)(hc:Calm u)(ht:u.Time+10000<=549755813888)(hk6:∀b∈k,b.aE2=6)(hk:∀s:j8,SOk s->s.k=k->s.t=u.Time->(O5 s 6).m=some (0,false)):
  UOk (nxU l k u).1/\Calm (nxU l k u).1/\(nxU l k u).1.I8.Open=true/\(nxU l k u).1.Time=u.Time+10000/\(nxU l k u).2.1.af3=[]/\(nxU l k u).2.1.Off=false/\(nxU l k u).2.1.Time=u.Time/\100<=(nxU l k u).2.1.dL4:=by
 have q:=fg5 g h ht hk6 hc.guard (dq9 h hc hk)
 obtain⟨q1,q2,q3,q4⟩:=q.eE5
 obtain⟨cyc,_,hts⟩:=q.flt
 obtain⟨c,t,_,hi⟩:=h.flt
 have hts':bz6 cf0 cyc (bl (false,false,false,false,false,false,false)) u.F3 (nxU l k u).1.F3 7:=by
  have:=hts
  rw[hc.off]at this
  exact this
 have hf:=cy5 g.cf hi hc.flt hts'
 refine⟨q.ok,⟨q.guard,q1,q2,fun _=>by rw[q4,q.time],hf⟩,q3,q.time,?_,by rw[q.off];exact q1,q.at',q.bound⟩
 rw[q.act (fun _=>false) (fun c hc2=>dj7 (hf _ (bd2 hc2))),cZ3]
def F0:B7:=(((aB2 cf0).e 200).getD (⟨[],[],0,false⟩,0)).1
def F1:B7:=(((ax0 F0).e 200).getD (⟨[],[],0,false⟩,0)).1
theorem fg0:(aB2 cf0).m=some (F0,0):=(aB2 cf0).le 200 _ (by kernel_rfl)
theorem eM0:(ax0 F0).m=some (F1,0):=(ax0 F0).le 200 _ (by kernel_rfl)
theorem eK9:(F1.L.all fun x=>(x.D8==0)&&decide (x.D1<=0))=true:=by kernel_rfl
theorem ee1:∀x∈F1.L,Fr.fqP x:=fun x hx=>by
 have:=bx8.1 eK9 x hx
 simp only[aI0,beq_iff_eq,fi2]at this
 exact⟨.inl this.1,this.2⟩
theorem eZ7 (t:o7)(b:L2)(e:o5):∃u f,(bV2 t b e cf0).m=some (u,f)/\(f=0\/f=1)/\(f=0->Fr.Cfs cf0/\UOk u/\u.Time=0/\Calm u/\u.I8.Open=false/\u.j4=Sc.bN4 e):=by
 obtain⟨p,pe,e3,h3⟩:=eR4 b
 have e5:(ac5 t).m=some (cc9 t):=by rw[bh4,bi0]
 have bad:∀{c:Bool}{x:Option (ac3×Int)}{z:ac3},c=true->∃u f,(bif c then some (z,1)else x)=some (u,f)/\(f=0\/f=1)/\(f=0->Fr.Cfs cf0/\UOk u/\u.Time=0/\Calm u/\u.I8.Open=false/\u.j4=Sc.bN4 e):=by
  intro c x z h
  rw[h]
  exact⟨_,_,rfl,.inr rfl,fun h=>by cases h⟩
 by_cases he:Ev.aE1 e
 ·have e1:(az8 e).m=some (eD4 e.A3.length,0):=by rw[bO6,bQ6,fi0 he];rfl
  have e2:(ap1 e).m=some (Sc.bN4 e,0):=by rw[bC8,Sc.dR2,fi0 he];rfl
  rcases Fr.dl4 (l:=cf0) (by rw[bq4];omega)with⟨x,e4,hx⟩|⟨hc,f,e4,hi⟩
  ·simp only[bV2,C.of,M.run,e1,e2,e3,e5,bp9,e4,as5]
   exact bad (by rw[enz hx];simp)
  ·simp only[bV2,C.of,M.run,e1,e2,e3,e5,bp9,e4,as5]
   by_cases hp:pe=0
   ·subst hp
    have pk:=h3 rfl
    cases ht:cc9 t
    ·exact bad (by simp)
    ·rw[show((((((!true)||((0:Int) !=0))||((0:Int) !=0))||((0:Int) !=0))||((0:Int) !=0))||(decide ((cf0.length:Int)<7)))=false by rw[bq4];rfl]
     simp only[fh5]
     obtain⟨f',e6,hi'⟩:=Fr.eh3 hc hi (by omega) (by omega)
     have ef:f=F0:=by
      have:=fg0
      rw[bp9,e4]at this
      exact(fh4 (cq4 this)).1
     have ef':f'=F1:=by
      have:=eM0
      rw[bO9,<-ef,e6]at this
      exact(fh4 (cq4 this)).1
     simp only[bO9,e6,fa3,fc3,eq5,tf0,eS5,as5]
     refine⟨_,_,rfl,.inl rfl,fun _=>⟨hc,⟨ht,pk,Sc.dl4 he,by simp[Sc.bN4],rfl,ep2 he,⟨rfl,by simp⟩,⟨eS9,by simp⟩,eR2,rfl,⟨rfl,by simp⟩,⟨rfl,by simp⟩,⟨_,_,by omega,hi'⟩,by simp,by simp⟩,rfl,⟨rfl,rfl,rfl,fun h=>(by cases h),(show∀x∈f'.L,Fr.fqP x by rw[ef'];exact ee1)⟩,rfl,rfl⟩⟩
   ·exact bad (by rw[enz hp];simp)
 ·have e1:(az8 e).m=some (eK3,1):=by rw[bO6,bQ6,fi1 he];rfl
  have e2:(ap1 e).m=some (Sc.cq3,1):=by rw[bC8,Sc.dR2,fi1 he];rfl
  obtain⟨x,f,e4⟩:∃x f,Pv.aB2 cf0=some (x,f):=by
   rcases Fr.dl4 (l:=cf0) (by rw[bq4];omega)with⟨x,e4,hx⟩|⟨hc,f,e4,hi⟩
   ·exact⟨_,_,e4⟩
   ·exact⟨_,_,e4⟩
  simp only[bV2,C.of,M.run,e1,e2,e3,e5,bp9,e4,as5]
  exact bad (by simp)
end Go.Proofs.YtmhdghdbojdgfaaGreat.Ec
namespace Go.Pv.Fr
open Go
theorem eG3 (a b c d e:Bool):(T2 .i64 (R6 .i64 (stN a b c d e) 11) 5 !=0)=true/\(T2 .i64 (R6 .i64 (R6 .i64 (stN a b c d e) 11) 4) 5 !=0)=true/\(T2 .i64 (R6 .i64 (R6 .i64 (R6 .i64 (stN a b c d e) 11) 4) 16) 5 !=0)=true:=by
 cases a<;>cases b<;>cases c<;>cases d<;>cases e<;>exact⟨rfl,rfl,rfl⟩
theorem dF9 {c:w9}{cyc:Int}{fr:List Int}{x:A1}{a b d e f:Bool}(h:x.D8=stN a b d e f):(cz8 c cyc fr x).D1=x.D1/\(T2 .i64 (cz8 c cyc fr x).D8 5 !=0)=true:=by
 obtain⟨h1,h2,h3⟩:=eG3 a b d e f
 rw[<-h]at h1 h2 h3
 unfold cz8
 simp only
 generalize hy:(bif !(T2 .i64 x.D8 1==1)then(⟨x.D8,x.D1,x.I7,x.Clean,F2 255 (j7 (x.z8+1)),bif !(T2 .i64 x.D8 4==4)then fr else x.Frame,x.G9⟩:A1)else x)=y
 have k:y.D1=x.D1/\y.D8=x.D8:=by
  subst hy
  cases !(T2 .i64 x.D8 1==1)<;>exact⟨rfl,rfl⟩
 rw[<-k.2]at h1 h2 h3
 cases y.G9==cyc
 ·cases decide ((F2 2 (j7 (y.I7+1)))<2)
  ·cases c.ch1
   ·exact⟨k.1,h2⟩
   ·exact⟨k.1,h3⟩
  ·exact⟨k.1,h1⟩
 ·exact⟨k.1,h1⟩
theorem es5 {c:w9}{cyc cyc':Int}{fr:List Int}{x:A1}{b8:Bool}(hr:Rt c x cyc' b8)(h3:c.ba6=3)(hc:cq6 c){m:Nat}(hm:G4 x.D1 0=((min m 3:Nat):Int)):
  G4 (cF6 c cyc true fr x).D1 0=((min (m+1) 3:Nat):Int)/\(3<=m+1->(T2 .i64 (cF6 c cyc true fr x).D8 5 !=0)=true):=by
 have p1:=hc.pass
 obtain⟨b1,b2,b4,b16,hb⟩:=hr
 have hk:(bt7 c true x).D1=((min (m+1) 3:Nat):Int):=by
  show F2 c.ba6 (j7 (G4 x.D1 0+1))=_
  rw[hm,h3,j5 (by omega) (by omega)]
  unfold F2
  split<;>omega
 have hs:(bt7 c true x).D8=stN b1 b2 b4 b8 b16:=hb.st
 obtain⟨f1,f2⟩:=dF9 (c:=c) (cyc:=cyc) (fr:=fr) hs
 have hmx:G4 ((min (m+1) 3:Nat):Int) 0=((min (m+1) 3:Nat):Int):=by
  unfold G4;split<;>omega
 unfold cF6
 simp only
 rw[h3]
 by_cases h:(bt7 c true x).D1=3
 ·rw[show((bt7 c true x).D1==3)=true by rw[h];rfl]
  simp only[fh8]
  exact⟨by rw[f1,hk];exact hmx,fun _=>f2⟩
 ·rw[show((bt7 c true x).D1==3)=false by rw[beq_eq_false_iff_ne];exact h,show((bt7 c true x).D1==j7 (0-c.Pass))=false by rw[beq_eq_false_iff_ne,j5 (by omega) (by omega)];omega]
  simp only[fh5]
  exact⟨by rw[hk];exact hmx,fun h2=>by omega⟩
end Go.Pv.Fr
namespace Go.Proofs.YtmhdghdbojdgfaaGreat.Ec
open Go Go.Pv Go.Pv.Ec Go.Proofs
theorem dE0 {s:j8}{b:Y9}(hk:s.k=[b])(h6:b.aE2=6):(O5 s 6).m=some (if b.bX1<=s.t/\s.t<b.To then(b.Value,true)else(0,false)):=by
 have hb:∀i:Int,(ag0 s 6 i b ()).run=some (if b.bX1<=s.t/\s.t<b.To then .ret (b.Value,true)else .next ()):=fun i=>by
  simp only[ag0,M.run,h6,beq_self_eq_true]
  by_cases h1:b.bX1<=s.t
  ·by_cases h2:s.t<b.To
   ·rw[fi0 h1,fi0 h2,if_pos ⟨h1,h2⟩];rfl
   ·rw[fi0 h1,fi1 h2,if_neg (fun h=>h2 h.2)];rfl
  ·rw[fi1 h1,if_neg (fun h=>h1 h.1)];rfl
 simp only[O5,C.of,M.run,hk]
 rcases bv8 [b] (by simp) (fun i x (u:Unit)=>(ag0 s 6 i x u).run) (fun k _=>k=0\/¬(b.bX1<=s.t/\s.t<b.To)) (fun r=>r=(b.Value,true)/\(b.bX1<=s.t/\s.t<b.To)) () (.inl rfl) (fun k x u hx _=>by
  have:x=b:=by
   cases k with
   |zero=>simpa using hx.symm
   |succ k=>simp at hx
  subst this
  simp only[hb]
  by_cases hc:x.bX1<=s.t/\s.t<x.To
  ·rw[if_pos hc];exact .inr ⟨_,rfl,rfl,hc⟩
  ·rw[if_neg hc];exact .inl ⟨_,rfl,.inr hc⟩)with⟨s',e,h⟩|⟨r,e,h1,h2⟩
 ·rw[e]
  rcases h with h|h
  ·cases h
  ·rw[if_neg h];rfl
 ·rw[e,if_pos h2,h1];rfl
theorem cf6 (h:6<cf0.length):(cf0[6]).ba6=3:=by
 have e:(cf0[6]?.map (·.ba6))=some 3:=by kernel_rfl
 rw[aW9 h]at e
 exact cq4 e
abbrev aK2 (fs0 v:Int):List Y9:=[⟨10000*fs0,1099511627776,6,v⟩]
structure Err (u:ac3)(n:Int):Prop where
 guard:u.M0.Off=false
 off:u.I8.Off=false
 err:u.I8.P2=n
 op:u.I8.Open=true
 asked:u.I8.am7+10000=u.Time
 flt:∀x∈u.F3.L,Fr.fqP x
structure dL7 (u:ac3)(m:Nat):Prop where
 guard:u.M0.Off=false
 off:u.I8.Off=true
 flt:∀j (h:j<u.F3.L.length),j<6->Fr.fqP u.F3.L[j]
 bad:∀h:6<u.F3.L.length,G4 (u.F3.L[6]).D1 0=((min m 3:Nat):Int)
def St (fs0 i:Nat)(u:ac3):Prop:=UOk u/\u.Time=10000*(i:Int)/\((i<=fs0/\Calm u/\(1<=i->u.I8.Open=true))\/(∃j,i=fs0+1+j/\j<=2/\Err u (2*((j:Int)+1)))\/(∃m,i=fs0+4+m/\dL7 u m))
structure Rc6 (fs0 i:Nat)(r:aj1):Prop where
 off:r.Off=decide (fs0+3<=i)
 act:∃b:Bool,r.af3=(bif b then [⟨2,[6]⟩]else [])/\(i<fs0+3->b=false)/\(fs0+6<=i->b=true)
 quiet:r.Off=true->r.o9=0/\∀w∈r.aX7,w.K1=false
 rc:eL0 r
theorem eL3 (b:Bool):bC0 (fun c=>c==6&&b) 7=bif b then [⟨2,[6]⟩]else []:=by cases b<;>kernel_rfl
theorem el0 {l:List I5}{k:List Y9}(g:ch0 l k){u:ac3}(h:UOk u){n:Int}(he:Err u n)(ht:u.Time+10000<=549755813888)(hk6:∀b∈k,b.aE2=6){v:Int}(hv:1<=v/\v<=65535)(hk:∀s:j8,SOk s->s.k=k->s.t=u.Time->(O5 s 6).m=some (v,true)):
  (∃d,(aY1 l u.Time).m=some (d,0)/\(aR0 u d k).m=some (nxU l k u)/\(nxU l k u).2.2=0/\do7 u (nxU l k u).1 (nxU l k u).2.1 (fun q=>q.P2=F2 (n+2) 7/\q.Off=(q.P2==7)/\(q.Off=false->q.Open=true/\q.am7=u.Time)))/\(∀x∈(nxU l k u).1.F3.L,Fr.fqP x):=by
 obtain⟨d,e1,e2,e3,q⟩:=eD8 (Q:=fun q=>q.P2=F2 (n+2) 7/\q.Off=(q.P2==7)/\(q.Off=false->q.Open=true/\q.am7=u.Time)) g h ht hk6 he.guard (fun s hs hq hsk hst=>by
  have hz:qzB s.u.I8=true:=by rw[hq];exact h.qz.1
  obtain⟨q,e,a1,a2,a3,a4,a5,a6⟩:=cZ7 hs hz (by rw[hq];exact he.op) (by rw[hq,hst];exact he.asked) (hk s hs hsk hst) (fun _=>hv)
  rw[if_pos rfl,hq,he.err]at a2
  exact⟨q,e,a1,a6,a2,a3,fun hf=>⟨(a4 hf).1,(a4 hf).2.trans hst⟩⟩)
 obtain⟨cyc,_,hts⟩:=q.flt
 obtain⟨c,t,_,hi⟩:=h.flt
 rw[he.off]at hts
 exact⟨⟨d,e1,e2,e3,q⟩,cy5 g.cf hi he.flt hts⟩
theorem dL1 {l:List I5}{k:List Y9}(g:ch0 l k){u:ac3}(h:UOk u){m:Nat}(hw:dL7 u m)(ht:u.Time+10000<=549755813888)(hk6:∀b∈k,b.aE2=6):
  (∃d,(aY1 l u.Time).m=some (d,0)/\(aR0 u d k).m=some (nxU l k u)/\(nxU l k u).2.2=0/\do7 u (nxU l k u).1 (nxU l k u).2.1 (fun q=>q.Off=true))/\dL7 (nxU l k u).1 (m+1)/\∃b:Bool,(nxU l k u).2.1.af3=(bif b then [⟨2,[6]⟩]else [])/\(3<=m+1->b=true):=by
 obtain⟨d,e1,e2,e3,q⟩:=eD8 (Q:=fun q=>q.Off=true) g h ht hk6 hw.guard (fun s hs hq hsk hst=>by
  have hz:qzB s.u.I8=true:=by rw[hq];exact h.qz.1
  have hA:s.u.I8.am7<=s.t:=by rw[hq,hst];exact h.qz.2
  exact⟨s.u.I8,ez2 hz (by rw[hq];exact hw.off),hz,hA,by rw[hq];exact hw.off⟩)
 obtain⟨cyc,hcyc,hts⟩:=q.flt
 obtain⟨c,t,hct,hi⟩:=h.flt
 rw[hw.off]at hts
 have h7:=bq4
 have hl:=hi.len;have hl2:=hts.len
 have n7:(nxU l k u).1.F3.L.length=7:=by omega
 have p6:6<(nxU l k u).1.F3.L.length:=by omega
 have q6:6<u.F3.L.length:=by omega
 obtain⟨fr,e6⟩:=hts.done 6 (by omega) p6 q6 (by omega) (by simp only[br6,cI2];omega)
 rw[show((bl (false,false,false,false,false,false,true))[6]'(by simp only[br6,cI2];omega))=true from rfl]at e6
 have hr:=hi.rt 6 (by omega) q6
 obtain⟨r1,r2⟩:=Fr.es5 (cyc:=cyc) (fr:=fr) hr (cf6 _) (g.cf.ok (by omega)) (hw.bad q6)
 rw[<-e6]at r1 r2
 have hq:∀j (hj:j<(nxU l k u).1.F3.L.length),j<6->Fr.fqP (nxU l k u).1.F3.L[j]:=by
  intro j hj h6
  obtain⟨fr,e⟩:=hts.done j (by omega) hj (by omega) (by omega) (by simp only[br6,cI2];omega)
  rw[e]
  have hv:(bl (false,false,false,false,false,false,true))[j]'(by simp only[br6,cI2];omega)=false:=by
   have:j=0\/j=1\/j=2\/j=3\/j=4\/j=5:=by omega
   rcases this with rfl|rfl|rfl|rfl|rfl|rfl<;>rfl
  rw[hv]
  obtain⟨b1,b2,b4,b16,hb⟩:=hi.rt j (by omega) (by omega)
  exact Fr.cS8 (g.cf.ok (by omega)) (hw.flt j (by omega) h6) hb.count.1
 refine⟨⟨d,e1,e2,e3,q⟩,⟨q.guard,q.eE5,hq,fun _=>r1⟩,⟨(T2 .i64 ((nxU l k u).1.F3.L[6]).D8 5 !=0),?_,r2⟩⟩
 rw[q.act (fun c=>c==6&&(T2 .i64 ((nxU l k u).1.F3.L[6]).D8 5 !=0)) (fun c hc=>?_),eL3]
 by_cases h6:c<6
 ·rw[dj7 (hq c hc h6),show((c:Int)==6)=false by rw[beq_eq_false_iff_ne];omega];rfl
 ·have:c=6:=by omega
  subst this
  rfl
theorem cx0 {l:List I5}{fs0:Nat}(h1:1<=fs0)(h30:fs0<=30){v:Int}(hv:1<=v/\v<=65535)(g:ch0 l (aK2 fs0 v)){u:ac3}{i:Nat}(hi:i<1000)(h:St fs0 i u):
  (∃d,(aY1 l u.Time).m=some (d,0)/\(aR0 u d (aK2 fs0 v)).m=some (nxU l (aK2 fs0 v) u)/\(nxU l (aK2 fs0 v) u).2.2=0)/\St fs0 (i+1) (nxU l (aK2 fs0 v) u).1/\Rc6 fs0 i (nxU l (aK2 fs0 v) u).2.1:=by
 obtain⟨hu,ht,hs⟩:=h
 have hk6:∀b∈aK2 fs0 v,b.aE2=6:=by intro b hb;rw[ex8.1 hb]
 have ht':u.Time+10000<=549755813888:=by omega
 have hbr:∀s:j8,SOk s->s.k=aK2 fs0 v->s.t=u.Time->(O5 s 6).m=some (if fs0<=i then(v,true)else(0,false)):=fun s _ hk hst=>by
  rw[dE0 hk rfl]
  simp only[hst,ht]
  by_cases hc:fs0<=i
  ·rw[if_pos hc,if_pos ⟨by omega,by omega⟩]
  ·rw[if_neg hc,if_neg (fun h=>hc (by omega))]
 have key:fs0<=i->∀n,0<=n->n<=6->Err u n->(∃d,(aY1 l u.Time).m=some (d,0)/\(aR0 u d (aK2 fs0 v)).m=some (nxU l (aK2 fs0 v) u)/\(nxU l (aK2 fs0 v) u).2.2=0)/\UOk (nxU l (aK2 fs0 v) u).1/\(nxU l (aK2 fs0 v) u).1.Time=10000*((i+1:Nat):Int)/\
   (n+2<7->Err (nxU l (aK2 fs0 v) u).1 (n+2)/\(nxU l (aK2 fs0 v) u).2.1.Off=false)/\(7<=n+2->dL7 (nxU l (aK2 fs0 v) u).1 0/\(nxU l (aK2 fs0 v) u).2.1.Off=true)/\(nxU l (aK2 fs0 v) u).2.1.af3=[]/\((nxU l (aK2 fs0 v) u).2.1.Off=true->(nxU l (aK2 fs0 v) u).2.1.o9=0/\∀w∈(nxU l (aK2 fs0 v) u).2.1.aX7,w.K1=false)/\eL0 (nxU l (aK2 fs0 v) u).2.1:=by
  intro hc n hn0 hn6 he
  obtain⟨⟨d,e1,e2,e3,q⟩,hf⟩:=el0 g hu he ht' hk6 hv (fun s a b c=>by rw[hbr s a b c,if_pos hc])
  obtain⟨q1,q2,q3⟩:=q.eE5
  have hact:(nxU l (aK2 fs0 v) u).2.1.af3=[]:=by rw[q.act (fun _=>false) (fun c hc2=>dj7 (hf _ (bd2 hc2))),cZ3]
  refine⟨⟨d,e1,e2,e3⟩,q.ok,by rw[q.time,ht];omega,fun h7=>?_,fun h7=>?_,hact,q.quiet,q.rc⟩
  ·have hE:(nxU l (aK2 fs0 v) u).1.I8.P2=n+2:=by rw[q1,eo8 (by omega)]
   have hO:(nxU l (aK2 fs0 v) u).1.I8.Off=false:=by rw[q2,hE,beq_eq_false_iff_ne];omega
   exact⟨⟨q.guard,hO,hE,(q3 hO).1,by rw[(q3 hO).2,q.time],hf⟩,by rw[q.off];exact hO⟩
  ·have hE:(nxU l (aK2 fs0 v) u).1.I8.P2=7:=by
    rw[q1]
    unfold F2
    split<;>omega
   have hO:(nxU l (aK2 fs0 v) u).1.I8.Off=true:=by rw[q2,hE];rfl
   refine⟨⟨q.guard,hO,fun j hj _=>hf _ (bd2 hj),fun h6=>?_⟩,by rw[q.off];exact hO⟩
   have:=(hf _ (bd2 h6)).2
   unfold G4
   split<;>omega
 rcases hs with⟨hif,hc,hop⟩|⟨j,hij,hj,he⟩|⟨m,him,hw⟩
 ·by_cases hlt:i<fs0
  ·have hk:∀s:j8,SOk s->s.k=aK2 fs0 v->s.t=u.Time->(O5 s 6).m=some (0,false):=fun s a b c=>by rw[hbr s a b c,if_neg (by omega)]
   obtain⟨a1,a2,a3,a4,a5,a6,a7,a8⟩:=dU6 g hu hc ht' hk6 hk
   obtain⟨d,e1,e2,e3,q⟩:=eD8 g hu ht' hk6 hc.guard (dq9 hu hc hk)
   exact⟨⟨d,e1,e2,e3⟩,⟨a1,by rw[a4,ht];omega,.inl ⟨by omega,a2,fun _=>a3⟩⟩,⟨by rw[a6,fi1 (by omega)],⟨false,a5,fun _=>rfl,fun h=>by omega⟩,q.quiet,q.rc⟩⟩
  ·have hi':i=fs0:=by omega
   have he:Err u 0:=⟨hc.guard,hc.off,hc.err,hop (by omega),hc.op (hop (by omega)),hc.flt⟩
   obtain⟨hd,a1,a2,a3,_,a5,a6,a7⟩:=key (by omega) 0 (by omega) (by omega) he
   obtain⟨b1,b2⟩:=a3 (by omega)
   exact⟨hd,⟨a1,a2,.inr (.inl ⟨0,by omega,by omega,b1⟩)⟩,⟨by rw[b2,fi1 (by omega)],⟨false,a5,fun _=>rfl,fun h=>by omega⟩,a6,a7⟩⟩
 ·obtain⟨hd,a1,a2,a3,a4,a5,a6,a7⟩:=key (by omega) _ (by omega) (by omega) he
  by_cases h2:j=2
  ·subst h2
   obtain⟨b1,b2⟩:=a4 (by omega)
   exact⟨hd,⟨a1,a2,.inr (.inr ⟨0,by omega,b1⟩)⟩,⟨by rw[b2,fi0 (by omega)],⟨false,a5,fun _=>rfl,fun h=>by omega⟩,a6,a7⟩⟩
  ·obtain⟨b1,b2⟩:=a3 (by omega)
   exact⟨hd,⟨a1,a2,.inr (.inl ⟨j+1,by omega,by omega,by rw[show 2*(((j+1:Nat):Int)+1)=2*((j:Int)+1)+2 by omega];exact b1⟩)⟩,⟨by rw[b2,fi1 (by omega)],⟨false,a5,fun _=>rfl,fun h=>by omega⟩,a6,a7⟩⟩
 ·obtain⟨⟨d,e1,e2,e3,q⟩,hw',b,hb,hb3⟩:=dL1 g hu hw ht' hk6
  exact⟨⟨d,e1,e2,e3⟩,⟨q.ok,by rw[q.time,ht];omega,.inr (.inr ⟨m+1,by omega,hw'⟩)⟩,⟨by rw[q.off,q.eE5,fi0 (by omega)],⟨b,hb,fun h=>by omega,fun h=>hb3 (by omega)⟩,q.quiet,q.rc⟩⟩
theorem cU2 {l:List I5}{fs0:Nat}(h1:1<=fs0)(h30:fs0<=30){v:Int}(hv:1<=v/\v<=65535)(g:ch0 l (aK2 fs0 v)){u:ac3}(h:St fs0 0 u):∀i,i<=1000->St fs0 i (sq l (aK2 fs0 v) u i)
 |0,_=>h
 |i+1,hi=>(cx0 h1 h30 hv g (by omega) (cU2 h1 h30 hv g h i (by omega))).2.1
theorem dp5 (l:List j6)(hl:l.length<=1000000)(f:Cl Tryz.prog j6 Bool (fun x=>[aj9 x]) (fun r=>.t (tB r)))(p:j6->Bool)(h:∀x∈l,f.f x=some (p x)):(ao5 l f).m=some (l.any p):=by
 simp only[ao5,P0,W6,C.of,M.run,L1.m,Cl.at]
 refine Eq.trans ?_ (bu7 l (by omega) f.f p h)
 kernel_rfl
theorem eb8 (b:Bool):(S3 (bif b then [⟨2,[6]⟩]else []) (.of (fun z_=>bc4 z_) 15 [])).m=some b:=by
 cases b
 ·exact(S3 [] _).le 100 _ (by kernel_rfl)
 ·exact(S3 [⟨2,[6]⟩] _).le 100 _ (by kernel_rfl)
theorem ek1:(aA0 [(⟨0,500,0,0,0⟩:I5)]).m=some true:=cM7 ⟨by simp,by simp,by simp,by simp,by simp⟩ rfl
theorem eb9 (t:o7)(b:L2)(e:o5)(w n:Int)(hw:0<=w/\w<=255)(hn:0<=n/\n<=65535):(aD7 t b e w n).m=some true:=by
 obtain⟨f,ef⟩:=eB1 t
 simp only[aD7,C.of,M.run,aw,ef,as5,aX0,fh5]
 cases hb:((!f||decide ((e.A3.length:Int)>20))||(n==0))
 ·simp only[bG1,fi3,beq_eq_false_iff_ne]at hb
  simp only[fh5,dr6,as5]
  obtain⟨u,x,e5,h5,h6⟩:=eZ7 t b e
  rw[e5]
  simp only[as5]
  by_cases hx:x=0
  ·subst hx
   obtain⟨hc,hu,hu0,hcalm,_⟩:=h6 rfl
   rw[show((0:Int) !=0)=false from rfl]
   simp only[fh5]
   obtain⟨fs0,hf,hf1,hf30⟩:∃fs0:Nat,j7 (1+Int.tmod (j7 w) 30)=(fs0:Int)/\1<=fs0/\fs0<=30:=by
    rw[j5 (n:=w) (by omega) (by omega),Int.tmod_eq_emod_of_nonneg hw.1,j5 (by omega) (by omega)]
    exact⟨(1+w%30).toNat,by omega,by omega,by omega⟩
   have hn2:j7 n=n:=j5 (by omega) (by omega)
   have hv:1<=n/\n<=65535:=by have:=hb.2;omega
   rw[hf,hn2,j5 (n:=10000*(fs0:Int)) (by omega) (by omega)]
   obtain⟨v4,e4,h4⟩:=dF3 [(⟨0,500,0,0,0⟩:I5)] (by simp)
   have hv4:v4=true:=by rw[ek1]at e4;exact(cq4 e4).symm
   have g:ch0 [(⟨0,500,0,0,0⟩:I5)] (aK2 fs0 n):=⟨hc,ek1,h4 hv4,by simp,by
    intro x hx
    rw[ex8.1 hx]
    unfold eM2
    simp only
    omega⟩
   have hst:St fs0 0 u:=⟨hu,hu0,.inl ⟨by omega,hcalm,fun h=>by omega⟩⟩
   have hr:(cG7 u [(⟨0,500,0,0,0⟩:I5)] (aK2 fs0 n) 40).m=some (cY0 [(⟨0,500,0,0,0⟩:I5)] (aK2 fs0 n) u 40,0):=fa6 g hu 40 (by omega) fun i hi=>(cx0 hf1 hf30 hv g (by omega) (cU2 hf1 hf30 hv g hst i (by omega))).1
   rw[hr]
   simp only[as5]
   have hlen:(cY0 [(⟨0,500,0,0,0⟩:I5)] (aK2 fs0 n) u 40).length=40:=by simp[cY0]
   have hrec:∀i,i<40->(cY0 [(⟨0,500,0,0,0⟩:I5)] (aK2 fs0 n) u 40)[i]? =some (nxU [(⟨0,500,0,0,0⟩:I5)] (aK2 fs0 n) (sq [(⟨0,500,0,0,0⟩:I5)] (aK2 fs0 n) u i)).2.1:=fun i hi=>by
    unfold cY0
    rw[List.getElem?_map,List.getElem?_range hi]
    rfl
   rw[hlen,show(((0:Int) !=0)||(((40:Nat):Int) !=40))=false by rfl]
   simp only[fh5]
   obtain⟨s,e9,_⟩:=ag5 40 (by omega) (fun i (v:Unit)=>(aH3 w (cY0 [(⟨0,500,0,0,0⟩:I5)] (aK2 fs0 n) u 40,0) i v).run) (fun _ _=>True) () trivial (fun i v hi _=>by
    have a:=(cx0 hf1 hf30 hv g (by omega) (cU2 hf1 hf30 hv g hst i (by omega))).2.2
    obtain⟨bb,b1,b2,b3⟩:=a.act
    have a1:=a.off
    have a3:=a.quiet
    have a4:=a.rc.sw
    simp only[aH3,M.run,L1.m]
    rw[T8,hrec i hi]
    generalize(nxU [(⟨0,500,0,0,0⟩:I5)] (aK2 fs0 n) (sq [(⟨0,500,0,0,0⟩:I5)] (aK2 fs0 n) u i)).2.1=r at a b1 a1 a3 a4|-
    simp only[as5,hf,b1,eb8]
    rw[j5 (n:=(fs0:Int)+4) (by omega) (by omega),j5 (n:=(fs0:Int)+7) (by omega) (by omega),j5 (n:=(fs0:Int)+3) (by omega) (by omega)]
    have c1:((decide ((i:Int)<(fs0:Int))&&r.Off)||(decide ((i:Int)>=(fs0:Int)+4)&& !r.Off))=false:=by
     rw[a1]
     by_cases h3:fs0+3<=i
     ·rw[fi0 h3,fi1 (show¬(i:Int)<(fs0:Int) by omega)];simp
     ·rw[fi1 h3,fi1 (show¬(i:Int)>=(fs0:Int)+4 by omega)];simp
    have c2:r.Off=true->r.o9=0/\(ao5 r.aX7 (.of (fun z_=>bc3 z_) 13 [])).m=some false:=fun hO=>by
     obtain⟨t0,w0⟩:=a3 hO
     refine⟨t0,?_⟩
     rw[dp5 r.aX7 (by omega) _ (fun x=>x.K1) (fun x _=>rfl),show r.aX7.any (fun x=>x.K1)=false by rw[dv4];intro x hx;rw[w0 x hx];simp]
    have c3:((decide ((i:Int)>=(fs0:Int)+7)&& !bb)||(decide ((i:Int)<(fs0:Int)+3)&&((((bif bb then [(⟨2,[6]⟩:U3)]else []):List U3).length:Int) !=0)))=false:=by
     by_cases h3:i<fs0+3
     ·rw[b2 h3,fi1 (show¬(i:Int)>=(fs0:Int)+7 by omega)];simp
     ·rw[fi1 (show¬(i:Int)<(fs0:Int)+3 by omega)]
      by_cases h6:fs0+6<=i
      ·rw[b3 h6];simp
      ·rw[fi1 (show¬(i:Int)>=(fs0:Int)+7 by omega)];simp
    rw[c1]
    simp only[fh5]
    cases hO:r.Off
    ·simp only[fh5,as5,c3]
     exact⟨(),trivial,trivial⟩
    ·obtain⟨t0,w0⟩:=c2 hO
     simp only[fh8,t0,w0,bne_self_eq_false,fh5,as5,c3]
     exact⟨(),trivial,trivial⟩)
   rw[e9]
   rfl
  ·rcases h5 with h5|h5
   ·exact absurd h5 hx
   ·subst h5
    rfl
 ·rfl
end Go.Proofs.YtmhdghdbojdgfaaGreat.Ec
namespace Go.Proofs.YtmhdghdbojdgfaaGreat
open Go Go.Pv Go.Proofs
theorem cR4 (x0:o7)(x1:L2)(x2:o5)(x3 x4:Int)(_:cg4 x0)(_:cV0 x1)(_:cg3 x2)(g3:(fun n=>(Lit.int .u8 n).wf=true) x3)(g4:(fun n=>(Lit.int .u16 n).wf=true) x4):(aD7 x0 x1 x2 x3 x4).m=some true:=by
 have h3:0<=x3/\x3<=255:=by
  have m0:IntKind.u8.min=0:=by decide
  have m1:IntKind.u8.max=255:=by decide
  simp[Lit.wf,m0,m1]at g3
  omega
 have h4:0<=x4/\x4<=65535:=by
  have m0:IntKind.u16.min=0:=by decide
  have m1:IntKind.u16.max=65535:=by decide
  simp[Lit.wf,m0,m1]at g4
  omega
 exact Ec.eb9 x0 x1 x2 x3 x4 h3 h4
end Go.Proofs.YtmhdghdbojdgfaaGreat
namespace Go.Proofs.YtmhdghdbojdgfaaGreat.ecuStops
open Go Go.Pv Go.Proofs Go.ChangeShapes Go.WideShapes Go.ChangeAt Go.RowKit Go.Proofs.YtmhdghdbojdgfaaGreat
theorem own:ownKnob Tryz.prog.godebug=none:=by kernel_rfl
theorem laidOut:laidOutB Tryz.prog=true:=by kernel_rfl
set_option maxRecDepth 100000 in
theorem lifted (os:Os)(started:os.Started)(H:Type)(enc:TypeId×Value->H):
    ReturnsInHanded {} Tryz.checked os 5 .any (Rows.ecuStopsSpec.pre6 enc Tryz.prog Tryz.f5 Rows.ecuStopsRow.domain false) (Rows.ecuStopsSpec.post enc Tryz.prog Tryz.f5 false true false false):=by
  refine returnsInHanded_of_change (C:=Tryz.checked) own started (by kernel_rfl) Tryz.func5
    (ChangeSpec.witness6 (enc:=enc) (C:=Tryz.checked) false ⟨#[], #[.agg #[.slice none 0 0, .slice none 0 0, .slice none 0 0, .slice none 0 0, .slice none 0 0, .slice none 0 0, .slice none 0 0, .slice none 0 0, .slice none 0 0, .slice none 0 0, .slice none 0 0, .slice none 0 0, .slice none 0 0, .slice none 0 0, .slice none 0 0, .slice none 0 0, .slice none 0 0, .slice none 0 0, .slice none 0 0, .slice none 0 0, .int .i64 0, .int .i64 0, .int .i64 0, .int .i64 0], .agg #[.int .i64 0, .int .i64 0, .int .i64 0, .int .i64 0, .int .i64 0, .int .i64 0, .int .i64 0], .agg #[.slice none 0 0, .int .i64 0], .int .u8 0, .int .u16 0],[]⟩ 16 (by kernel_rfl) (by kernel_rfl) (by kernel_rfl) (by kernel_rfl)) ?_
  intro W base args ds gs before hval0 hW hcnd _
  have dW5:∀(j:Nat) t v,Tryz.f5.params[j]? =some t->args[j]? =some v->Value.okWide Tryz.prog W .any base t v:=hval0
  have hW':=hW
  obtain⟨p,q,hA0,hV,rfl,hfz,hnd⟩:=hW
  have hA:DataW.TrodAll enc Tryz.prog W 0 (fun _=>true) true Tryz.f5.params.toList args.toList ds p:=hA0
  rw[Tryz.params5]at hA dW5
  obtain⟨v0,Z3,d0,ds0,p0,q0,dc7,rfl,rfl,h0,r0⟩:=trodAll_cons hA
  obtain⟨v1,vs1,d1,ds1,p1,q1,rfl,rfl,rfl,h1,r1⟩:=trodAll_cons r0
  obtain⟨v2,vs2,d2,ds2,p2,q2,rfl,rfl,rfl,h2,r2⟩:=trodAll_cons r1
  obtain⟨v3,vs3,d3,ds3,p3,q3,rfl,rfl,rfl,h3,r3⟩:=trodAll_cons r2
  obtain⟨v4,vs4,d4,ds4,p4,q4,rfl,rfl,rfl,h4,r4⟩:=trodAll_cons r3
  obtain⟨rfl,rfl,rfl⟩:=trodAll_nil r4
  obtain rfl:args= #[v0,v1,v2,v3,v4]:=by cases args;simp_all
  obtain⟨rfl,rfl⟩:=trodVars_none hV
  have k0:=h0
  have lt0:∀x∈p0,x.block<W.heap.size:=by obtain⟨m,hm⟩:=k0;exact DataW.trod_lt m _ _ _ hm
  obtain⟨x0,g0,a0⟩:=eL4 _ _ W _ _ _ _ (dW5 0 31 v0 rfl rfl) h0
  have k1:=h1
  have lt1:∀x∈p1,x.block<W.heap.size:=by obtain⟨m,hm⟩:=k1;exact DataW.trod_lt m _ _ _ hm
  obtain⟨x1,g1,a1⟩:=eL5 _ _ W _ _ _ _ (dW5 1 33 v1 rfl rfl) h1
  have k2:=h2
  have lt2:∀x∈p2,x.block<W.heap.size:=by obtain⟨m,hm⟩:=k2;exact DataW.trod_lt m _ _ _ hm
  obtain⟨x2,g2,a2⟩:=eL6 _ _ W _ _ _ _ (dW5 2 35 v2 rfl rfl) h2
  have k3:=h3
  have lt3:∀x∈p3,x.block<W.heap.size:=by obtain⟨m,hm⟩:=k3;exact DataW.trod_lt m _ _ _ hm
  obtain⟨x3,g3,a3⟩:=eW3 _ _ W _ _ _ _ (dW5 3 5 v3 rfl rfl) h3
  have k4:=h4
  have lt4:∀x∈p4,x.block<W.heap.size:=by obtain⟨m,hm⟩:=k4;exact DataW.trod_lt m _ _ _ hm
  obtain⟨x4,g4,a4⟩:=eL7 _ _ W _ _ _ _ (dW5 4 96 v4 rfl rfl) h4
  clear hA0 hval0
  refine(aQ5.calls ((aD7 x0 x1 x2 x3 x4).ok) (cR4 x0 x1 x2 x3 x4 g0 g1 g2 g3 g4) (bT1 (a0 _) (bT1 (a1 _) (bT1 (a2 _) (bT1 (a3 _) (bT1 (a4 _) eF6)))))).mono fun e W' ⟨he,bel⟩=>?_
  subst he
  exact⟨_,rfl,_,_,_,[],_,[],hW',trodAll_mk1 (shut_bool Tryz.underlying4 _),(trodAll_cons_mk (Below.trod laidOut (by kernel_rfl) (of_decide_eq_true (by kernel_rfl)) k0 bel lt0) (trodAll_cons_mk (Below.trod laidOut (by kernel_rfl) (of_decide_eq_true (by kernel_rfl)) k1 bel lt1) (trodAll_cons_mk (Below.trod laidOut (by kernel_rfl) (of_decide_eq_true (by kernel_rfl)) k2 bel lt2) (trodAll_cons_mk (Below.trod laidOut (by kernel_rfl) (of_decide_eq_true (by kernel_rfl)) k3 bel lt3) (trodAll_cons_mk (Below.trod laidOut (by kernel_rfl) (of_decide_eq_true (by kernel_rfl)) k4 bel lt4) trodAll_mk0))))),rfl,bel.frame _,fun h=>by cases h⟩
end Go.Proofs.YtmhdghdbojdgfaaGreat.ecuStops
namespace Go.Proofs.YtmhdghdbojdgfaaGreat
theorem ecuStops.inPlace:Tryz.prog.inPlace 5=Rows.ecuStopsRow.inPlace:=by kernel_rfl
theorem ecuStops.unfollowed:Tryz.prog.unfollowed 5=Rows.ecuStopsRow.unfollowed:=by kernel_rfl
theorem ecuStops.recurses:Tryz.prog.recurses 5=Rows.ecuStopsRow.recurses:=by kernel_rfl
theorem ecuStops.named:Tryz.prog.varsNamed 5=Rows.ecuStopsRow.named:=by kernel_rfl
theorem ecuStops.eP3:joinedFacts Tryz.prog 5 Tryz.f5 Rows.ecuStopsSpec Rows.ecuStopsRow=true:=by
  unfold joinedFacts
  rw[ecuStops.inPlace,ecuStops.unfollowed,ecuStops.recurses,ecuStops.named,ecuStops.laidOut]
  kernel_rfl
theorem ecuStops_holds:Rows.EcuStopsSaid:=
  OpenClaim.holds_of_wide 5 Tryz.f5 rfl rfl rfl rfl rfl rfl rfl ⟨rfl,rfl,rfl,rfl,rfl⟩ rfl rfl rfl rfl rfl (by kernel_rfl) Tryz.func5 ecuStops.eP3
    (of_decide_eq_true (by kernel_rfl)) (by unfold Func.isWrapper;first|(rw[if_pos (by decide+kernel)];kernel_rfl)|(rw[if_neg (by decide+kernel)];exact⟨rfl,rfl⟩))
    (fun os started H enc _=>ecuStops.lifted os started H enc)
#print axioms ecuStops_holds
end Go.Proofs.YtmhdghdbojdgfaaGreat

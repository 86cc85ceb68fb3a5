/- Proved: EcuQuiet, called with any arguments that its row admits, returns true, and every argument reads behind the call as it read before. Conditions: none beyond the row's own. Printed by law.py. This file joins: Plain Lean: a new unit is right, and steps. Plain Lean: what the tests of a step do to the faults, exactly. Plain Lean: the questions of a step, exactly. Plain Lean: the reactions in force, exactly; the test of a step where no sensor is broken. Plain Lean: the parts of a step where at most the answers are broken, exactly. Plain Lean: a step where at most the answers are broken, exactly. Plain Lean: runs of the unit join its steps. Plain Lean: runs without breaks are quiet. Plain Lean: a new unit is calm, and stays so in runs without breaks. Plain Lean: EcuQuiet: without breaks a run is quiet. Plain Lean: EcuQuiet answers true whatever its arguments: a run without breaks is quiet. -/
import Derived.Test.YtmhdghdbojdgfaaGreatEcuQuietF
import Derived.KernelRfl
import Derived.Test.YtmhdghdbojdgfaaGreatRows
set_option linter.unusedSimpArgs false
set_option linter.unusedVariables false
set_option maxRecDepth 100000
noncomputable section
open Bool renaming and_eq_true->aI9,not_false->cJ0,not_true->aX3,or_eq_false_iff->bN3,or_eq_true->cI5,or_self->eO3
open Int renaming le_refl->dv9,tdiv_eq_ediv_of_nonneg->cA0,toNat_natCast->eJ1
open Go.IntKind renaming i64->eX5,u64->aW6
open List renaming all_eq_true->bF0,filter_append->dJ7,getElem?_eq_getElem->aW5,getElem_mem->bd9,getElem_set_self->dN2,length_append->aZ7,length_cons->bv4,length_nil->cV7,length_set->eb5,length_singleton->cr0,mem_append->do5,mem_singleton->eM7,set_set->en8,take_length->ey4,take_succ_eq_append_getElem->dr6
open Nat renaming le_refl->cw4
open Option renaming bind_some->aD6
open Option.some renaming inj->cG1
open Prod.mk renaming inj->fh5
namespace Go.Proofs.YtmhdghdbojdgfaaGreat.Ec
open Go Go.Pv Go.Pv.Ec Go.Proofs
theorem fa1:(cS5 1).m=some (⟨1,0,0,false,false⟩,0):=(cS5 1).le 100 _ (by kernel_rfl)
theorem fc1:(dA7).m=some sy0:=rfl
theorem tf0:(bL7).m=some ⟨false,0,0⟩:=rfl
theorem eS2:(dg0).m=some ⟨false,1,0⟩:=rfl
def eW5 (x:ae4):Prop:=((0<=x.cW2/\x.cW2<=1099511627776)/\(0<=x.To/\x.To<=1099511627776))/\(0<=x.aO5/\x.aO5<=7)/\(-1000000<=x.Value/\x.Value<=1000000)
theorem dE0 (l:List ae4)(hl:l.length<=1000000)(f:Cl Tryz.prog ae4 Bool (fun x=>[bN4 x]) (fun r=>.t (tB r)))(p:ae4->Bool)(h:∀x∈l,f.f x=some (p x)):(aD1 l f).m=some (l.any p):=by
 simp only[aD1,bb7,aS1,C.of,M.run,L1.m,Cl.at]
 refine Eq.trans ?_ (bI4 l (by omega) f.f p h)
 kernel_rfl
theorem cM3 {k:List ae4}(h:k.length<=100)(hk:∀x∈k,eW5 x):(bH6 k).m=some true:=by
 simp only[bH6,C.of,M.run]
 rw[dE0 k (by omega) (.of (fun z_=>cl3 z_) 77 []) _ (fun x _=>rfl)]
 have:(k.any fun b2=>((((((((decide (b2.cW2<0))||(decide (b2.cW2>1099511627776)))||(decide (b2.To<0)))||(decide (b2.To>1099511627776)))||(decide (b2.aO5<0)))||(decide (b2.aO5>7)))||(decide (b2.Value<(-1000000))))||(decide (b2.Value>1000000))))=false:=by
  rw[List.any_eq_false]
  intro x hx
  obtain⟨⟨h1,h2⟩,h3,h4⟩:=hk x hx
  simp only[cI5,fi3]
  omega
 rw[this,fi1 (show(k.length:Int)<=100 by omega)]
 rfl
def dF7 (d:L6):Prop:=(0<=d.At/\d.At<=1099511627776)/\(0<=d.I4/\d.I4<=1000)/\(0<=d.bk7/\d.bk7<=1000)/\(0<=d.bN6/\d.bN6<=6)/\(-500<=d.bN7/\d.bN7<=2000)
noncomputable abbrev dw6 (d:L6):Int×Int×Int×Int×Int:=(d.At,d.I4,d.bk7,d.bN6,d.bN7)
noncomputable abbrev dy1:I5×I5×I5×I5×I5:=((⟨(ByteArray.mk #[97,116]),0,1099511627776⟩:I5),(⟨(ByteArray.mk #[112,101,100,97,108]),0,1000⟩:I5),(⟨(ByteArray.mk #[98,114,97,107,101]),0,1000⟩:I5),(⟨(ByteArray.mk #[103,101,97,114]),0,6⟩:I5),(⟨(ByteArray.mk #[108,111,97,100]),(-500),2000⟩:I5))
def bx (x a b:Int):Bool:=decide (x<a)||decide (x>b)
theorem eL9 {x a b:Int}:bx x a b=false↔a<=x/\x<=b:=by simp[bx]
theorem dy3 (x a b j:Int):((bif decide (x<a)then some true else some (decide (x>b))).bind fun v5=>bif v5 then some (.inr (.inr false))else some (.inl j))=(some (bif bx x a b then .inr (.inr false)else .inl j):Option (Int⊕(Int⊕Bool))):=by
 unfold bx
 cases decide (x<a)<;>cases decide (x>b)<;>rfl
theorem p0 (d:L6):(av9 (dw6 d) dy1 0).run=some (bif bx d.At 0 1099511627776 then .inr (.inr false)else .inl 1):=dy3 d.At 0 1099511627776 1
theorem p1 (d:L6):(av9 (dw6 d) dy1 1).run=some (bif bx d.I4 0 1000 then .inr (.inr false)else .inl 2):=dy3 d.I4 0 1000 2
theorem p2 (d:L6):(av9 (dw6 d) dy1 2).run=some (bif bx d.bk7 0 1000 then .inr (.inr false)else .inl 3):=dy3 d.bk7 0 1000 3
theorem p3 (d:L6):(av9 (dw6 d) dy1 3).run=some (bif bx d.bN6 0 6 then .inr (.inr false)else .inl 4):=dy3 d.bN6 0 6 4
theorem p4 (d:L6):(av9 (dw6 d) dy1 4).run=some (bif bx d.bN7 (-500) 2000 then .inr (.inr false)else .inl 5):=dy3 d.bN7 (-500) 2000 5
theorem p5 (d:L6):(av9 (dw6 d) dy1 5).run=some (.inr (.inl 5)):=rfl
def ek3 (d:L6):Bool:=bx d.At 0 1099511627776||(bx d.I4 0 1000||(bx d.bk7 0 1000||(bx d.bN6 0 6||bx d.bN7 (-500) 2000)))
theorem dt1 {d:L6}:ek3 d=false↔dF7 d:=by
 unfold ek3 dF7
 simp only[bN3,eL9]
theorem df1 (d:L6):J7 (fun x=>(av9 (dw6 d) dy1 x).run) 0=some (bif ek3 d then .inr false else .inl 5):=by
 unfold ek3
 have q0:=p0 d;have q1:=p1 d;have q2:=p2 d;have q3:=p3 d;have q4:=p4 d
 cases h0:bx d.At 0 1099511627776
 ·rw[h0]at q0
  rw[G6 (s':=1) q0]
  cases h1:bx d.I4 0 1000
  ·rw[h1]at q1
   rw[G6 (s':=2) q1]
   cases h2:bx d.bk7 0 1000
   ·rw[h2]at q2
    rw[G6 (s':=3) q2]
    cases h3:bx d.bN6 0 6
    ·rw[h3]at q3
     rw[G6 (s':=4) q3]
     cases h4:bx d.bN7 (-500) 2000
     ·rw[h4]at q4
      rw[G6 (s':=5) q4]
      exact D7 (p5 d)
     ·rw[h4]at q4
      exact D7 q4
    ·rw[h3]at q3
     exact D7 q3
   ·rw[h2]at q2
    exact D7 q2
  ·rw[h1]at q1
   exact D7 q1
 ·rw[h0]at q0
  exact D7 q0
structure ey3 (l:List L6):Prop where
 pos:1<=l.length
 most:l.length<=200
 first:∀x,l[0]? =some x->x.At=0
 drv:∀x∈l,dF7 x
theorem dw7 (d:L6):(bZ1 d).m=some (dw6 d):=rfl
theorem dy2:(cz9).m=some dy1:=rfl
theorem dF9 (l:List L6)(hl:l.length<=1000000):∃b,(az3 l).m=some b/\(b=true->ey3 l):=by
 simp only[az3,C.of,M.run,L1.m]
 by_cases h1:1<=l.length/\l.length<=200
 ·rw[fi2 (show¬(l.length:Int)<1 by omega),fi2 (show¬(l.length:Int)>200 by omega),show C9 l 0=some (l[0]'(by omega))from(T3 l 0).trans (aW5 (by omega))]
  simp only[eO3,fh8,aD6]
  by_cases h2:(l[0]'(by omega)).At=0
  ·rw[show((l[0]'(by omega)).At !=0)=false by rw[h2];rfl]
   simp only[fh8]
   obtain⟨b,e,h⟩:=cS8 l.length (by omega) (fun i (u:Unit)=>(aQ7 l i u).run) (fun k _=>∀x∈l.take k,dF7 x) (fun b:Bool=>b=false) () (by simp) (fun k u hk hI=>by
    simp only[aQ7,M.run,L1.m]
    rw[T3,aW5 hk]
    simp only[aD6]
    obtain⟨c,hc⟩:∃c,(bif decide ((k:Int)>0)then(C9 l (j7 ((k:Int)-1))).bind fun t=>some (decide (l[k].At<=t.At))else some false)=some c:=by
     by_cases h0:(k:Int)>0
     ·rw[fi1 h0,j4 (by omega) (by omega),show((k:Int)-1)=((k-1:Nat):Int) by omega,T3,aW5 (by omega)]
      exact⟨_,rfl⟩
     ·rw[fi2 h0];exact⟨_,rfl⟩
    rw[hc]
    simp only[aD6]
    cases c
    ·simp only[fh8,dw7,dy2,aD6]
     rw[df1]
     cases hd:ek3 l[k]
     ·left
      refine⟨(),rfl,?_⟩
      intro x hx
      rw[dr6 hk,do5,eM7]at hx
      rcases hx with hx|hx
      ·exact hI x hx
      ·subst hx;exact dt1.1 hd
     ·right;exact⟨false,rfl,rfl⟩
    ·right;exact⟨false,rfl,rfl⟩)
   rw[e]
   rcases h with⟨u,rfl,h⟩|⟨b,rfl,rfl⟩
   ·rw[ey4]at h
    exact⟨true,rfl,fun _=>⟨h1.1,h1.2,fun x hx=>by rw[aW5 (by omega)]at hx;cases hx;exact h2,h⟩⟩
   ·exact⟨false,rfl,fun h=>by cases h⟩
  ·rw[bnt h2]
   exact⟨false,rfl,fun h=>by cases h⟩
 ·refine⟨false,?_,fun h=>by cases h⟩
  rw[show((decide ((l.length:Int)<1))||(decide ((l.length:Int)>200)))=true by rw[cI5,fi3,fi3];omega]
  rfl
theorem dF8 {d:L6}(h:dF7 d)(h0:d.At=0):(az3 [d]).m=some true:=by
 simp only[az3,C.of,M.run,L1.m]
 rw[show C9 [d] 0=some d from rfl]
 simp only[aD6]
 rw[h0]
 obtain⟨u,e,_⟩:=af9 [d].length (by simp) (fun i (u:Unit)=>(aQ7 [d] i u).run) (fun _ _=>True) () trivial (fun k u hk _=>by
  have:k=0:=by simpa using hk
  subst this
  simp only[aQ7,M.run,L1.m]
  rw[show C9 [d] ((0:Nat):Int)=some d from rfl]
  simp only[aD6]
  rw[fi2 (show¬(((0:Nat):Int)>0) by omega)]
  simp only[fh8,dw7,dy2,aD6]
  rw[df1,dt1.2 h]
  exact⟨(),rfl,trivial⟩)
 rw[e]
 rfl
theorem dZ8 {d:L6}(h:dF7 d):(cu5 d).m=some true:=by
 simp only[cu5,C.of,M.run]
 have h1:=h.1
 rw[fi1 (show d.At>=0 by omega),fi1 h1.2,dF8 (d:=⟨0,d.I4,d.bk7,d.bN6,d.bN7⟩) ⟨⟨dv9 _,by show(0:Int)<=1099511627776;omega⟩,h.2⟩ rfl]
 rfl
theorem eo7 {a b:Int}(h0:0<=a)(h:a<=b)(hb:b<=1000000):j7 (D0 .u64 (aW6.wrap (j7 (a+b))) 1)=(a+b)/2:=by
 have h1:j7 (a+b)=a+b:=j4 (by omega) (by omega)
 rw[h1]
 have h2:aW6.wrap (a+b)=a+b:=by
  unfold IntKind.wrap
  simp[IntKind.signed,IntKind.bits]
  omega
 rw[h2]
 have h3:D0 .u64 (a+b) 1=(a+b)/2:=by
  unfold D0
  show(a+b).fdiv 2=_
  rw[Int.fdiv_eq_ediv_of_nonneg _ (by omega)]
 rw[h3,j4 (by omega) (by omega)]
theorem dJ8 (l:List L6)(hl:ey3 l)(t:Int)(ht:0<=t/\t<=1099511627776)(f:Cl Tryz.prog (L6×Int) Int (fun x=>[bc3 x.1,.t (tI x.2)]) (fun r=>.t (tI r)))(hf:∀x:L6,f.f (x,t)=some (j7 (x.At-t))):
  ∃i b,(au1 l t f).m=some (i,b)/\(b=true->0<=i/\i<(l.length:Int))/\(b=false->1<=i/\i<=(l.length:Int)):=by
 have hm:=hl.most
 have hp:=hl.pos
 have hw:∀x∈l,j7 (x.At-t)=x.At-t:=fun x hx=>by
  have:=(hl.drv x hx).1
  exact j4 (by omega) (by omega)
 simp only[au1,C.of,M.run,L1.m,Cl.at]
 obtain⟨b,e,h⟩:=bt7 (mb:=fun s=>(ao1 l t f s).run) (fun s=>0<=s.1/\s.1<=s.2/\s.2<=(l.length:Int)/\(s.2<(l.length:Int)->∀x,l[s.2.toNat]? =some x->t<=x.At)) (fun s=>(s.2-s.1).toNat)
  (fun b:(Int×Int)⊕Empty=>∃i,b= .inl (i,i)/\0<=i/\i<=(l.length:Int)/\(i<(l.length:Int)->∀x,l[i.toNat]? =some x->t<=x.At)) (fun s ⟨h0,h1,h2,h3⟩=>by
   obtain⟨a,b⟩:=s
   simp only at h0 h1 h2 h3
   simp only[ao1,M.run,L1.m,Cl.at]
   rw[eo7 h0 h1 (by omega)]
   by_cases hab:a<b
   ·left
    rw[fi1 hab]
    obtain⟨m,hm⟩:∃m:Nat,(a+b)/2=(m:Int):=⟨((a+b)/2).toNat,by omega⟩
    have hml:m<l.length:=by omega
    rw[hm,T3,aW5 hml]
    simp only[fi0,aD6,hf,hw _ (bd9 hml)]
    by_cases hlt:l[m].At-t<0
    ·rw[fi1 hlt,j4 (n:=(m:Int)+1) (by omega) (by omega)]
     exact⟨_,rfl,⟨by simp only;omega,by simp only;omega,h2,h3⟩,by simp only;omega⟩
    ·rw[fi2 hlt]
     refine⟨_,rfl,⟨h0,by simp only;omega,by simp only;omega,fun _ x hx=>?_⟩,by simp only;omega⟩
     simp only[eJ1]at hx
     rw[aW5 hml]at hx
     cases hx
     omega
   ·right
    rw[fi2 hab]
    have:a=b:=by omega
    subst this
    exact⟨_,rfl,a,rfl,h0,h2,h3⟩) l.length (0,(l.length:Int)) (by simp) ⟨by simp only;omega,by simp only;omega,by simp only;omega,fun h=>absurd h (by simp)⟩
 rw[e]
 obtain⟨i,rfl,h0,h1,h2⟩:=h
 simp only[aD6]
 by_cases hi:i<(l.length:Int)
 ·rw[fi1 hi]
  obtain⟨m,hm⟩:∃m:Nat,i=(m:Int):=⟨i.toNat,by omega⟩
  have hml:m<l.length:=by omega
  subst hm
  rw[T3,aW5 hml]
  simp only[fi0,aD6,hf,hw _ (bd9 hml)]
  refine⟨_,_,rfl,fun _=>⟨h0,hi⟩,fun hb=>⟨?_,h1⟩⟩
  rw[beq_eq_false_iff_ne]at hb
  by_cases hz:m=0
  ·subst hz
   exfalso
   have a0:=hl.first _ (aW5 hml)
   have a1:=h2 hi _ (by rw[eJ1];exact aW5 hml)
   omega
  ·omega
 ·rw[fi2 hi]
  exact⟨_,_,rfl,fun h=>(by cases h),fun _=>by omega⟩
theorem eL6 {l:List L6}(hv:(az3 l).m=some true)(hl:ey3 l)(t:Int)(ht:0<=t/\t<=1099511627776):∃d,(bC4 l t).m=some (d,0)/\dF7 d:=by
 obtain⟨i,b,e,h1,h2⟩:=dJ8 l hl t ht (.of (fun z_=>cl2 z_.1 z_.2) 135 []) (fun x=>rfl)
 have key:∃j:Nat,(cd3 l t).m=some ((j:Int),0)/\j<l.length:=by
  simp only[cd3,C.of,M.run,hv,aD6,aX3,fh8]
  rw[fi2 (show¬t<0 by omega),fi2 (show¬t>1099511627776 by omega)]
  simp only[eO3,fh8]
  rw[e]
  simp only[aD6]
  have hm:=hl.most
  cases b
  ·have h3:=h2 rfl
   simp only[cJ0,fi0]
   rw[j4 (by omega) (by omega)]
   exact⟨(i-1).toNat,by rw[show(((i-1).toNat:Nat):Int)=i-1 by omega],by omega⟩
  ·have h3:=h1 rfl
   simp only[aX3,fh8]
   exact⟨i.toNat,by rw[show((i.toNat:Nat):Int)=i by omega],by omega⟩
 obtain⟨j,e2,hj⟩:=key
 simp only[bC4,C.of,M.run,L1.m,e2,aD6]
 rw[show((0:Int) !=0)=false from rfl,T3,aW5 hj]
 simp only[fh8,aD6]
 exact⟨_,rfl,ht,(hl.drv _ (bd9 hj)).2⟩
end Go.Proofs.YtmhdghdbojdgfaaGreat.Ec
namespace Go.Pv.Fr
open Go Go.Pv
theorem dy8 {l:List u7}{f:B5}{E3:Int}{t:Nat->Bool}{q:Nat}{bad:Bool}{fr:List Int}(hc:Cfs l)(h:Inv l f E3 true t)(h0:1<=E3)(h1:E3<=1073741824)(hq:q<l.length)(hq2:q<f.L.length)(hfr:ch4 (l[q]) fr):
  ap8 f (q:Int) bad fr=some (⟨f.S8,f.L.set q (dn2 (l[q]) E3 bad fr f.L[q]),f.aH2,f.ax1⟩,0):=by
 have hl:=h.len;have hl2:=hc.len
 have hq3:q<f.S8.length:=by rw[h.aP2];omega
 have e1:f.S8[q]=l[q]:=by simp[h.aP2]
 have hfl:fr.length<=8:=by have:=hfr.1;have:=(hc.ok hq).frame;omega
 have g1:decide ((q:Int)<0)=false:=by simp
 have g2:decide ((q:Int)>=(f.L.length:Int))=false:=by simp;omega
 have bM8:∀y:A2,q<(f.L.set q y).length:=fun y=>by simpa using hq2
 unfold ap8
 rw[bU7 hc h (by omega) h1 (fun _=>h0),g1,g2,h.run,C5 _ _ hq3,e1]
 simp only[aD6,aX3,eO3,fh8]
 rw[cP5 (hc.ok hq) hfr,h.copied hc]
 simp only[aD6,aX3,fh8]
 rw[C5 _ _ hq2,C5 _ _ hq3,e1]
 simp only[aD6]
 rw[T4 _ _ _ hq2,T4 _ _ _ hq2]
 simp only[aD6]
 have e2:(bif bad then some (f.L.set q ⟨f.L[q].F8,F2 l[q].bg2 (j7 (G4 f.L[q].E0 0+1)),f.L[q].I9,f.L[q].Clean,f.L[q].y9,f.L[q].Frame,f.L[q].H0⟩)else some (f.L.set q ⟨f.L[q].F8,G4 (j7 (0-l[q].Pass)) (j7 (F2 f.L[q].E0 0-1)),f.L[q].I9,f.L[q].Clean,f.L[q].y9,f.L[q].Frame,f.L[q].H0⟩))=some (f.L.set q (bQ4 (l[q]) bad f.L[q])):=by
  unfold bQ4;cases bad<;>rfl
 rw[e2]
 simp only[aD6]
 rw[C5 _ _ (bM8 _)]
 simp only[aD6,dN2]
 unfold dn2
 simp only
 cases(bQ4 (l[q]) bad f.L[q]).E0==(l[q]).bg2
 ·simp only[fh8]
  cases(bQ4 (l[q]) bad f.L[q]).E0==j7 (0-(l[q]).Pass)
  ·simp only[fh8];rw[h.run]
  ·simp only[fi0]
   rw[T4 _ _ _ (bM8 _)]
   simp only[aD6,en8]
   rw[T4 _ _ _ (bM8 _)]
   simp only[aD6,en8]
   rw[h.run]
 ·simp only[fi0]
  rw[dt6 _ _ (bM8 _) _ _ _ (by omega)]
  simp only[aD6,dN2,en8]
  rw[h.run,h.cyc]
def fqP (x:A2):Prop:=(x.F8=0\/x.F8=8)/\x.E0<=0
theorem dJ2 {c:u7}{x:A2}{E3:Int}{fr:List Int}(hc:cC8 c)(h:fqP x)(h1:-c.Pass<=x.E0):fqP (dn2 c E3 false fr x):=by
 have p1:=hc.pass;have p2:=hc.fail;have p3:=h.2
 have hk:(bQ4 c false x).E0<= -1:=by
  show G4 (j7 (0-c.Pass)) (j7 (F2 x.E0 0-1))<= -1
  have a2:F2 x.E0 0=if 0<x.E0 then 0 else x.E0:=rfl
  rw[a2,if_neg (by omega),j4 (n:=0-c.Pass) (by omega) (by omega),j4 (by omega) (by omega)]
  unfold G4
  split<;>omega
 unfold dn2
 simp only
 rw[show((bQ4 c false x).E0==c.bg2)=false by rw[beq_eq_false_iff_ne];omega]
 simp only[fh8]
 cases(bQ4 c false x).E0==j7 (0-c.Pass)
 ·exact⟨h.1,by simp only[fh8];omega⟩
 ·simp only[fi0]
  refine⟨?_,by simp only;omega⟩
  have:(bQ4 c false x).F8=x.F8:=rfl
  rw[this]
  rcases h.1 with e|e<;>rw[e]
  ·right;rfl
  ·right;rfl
end Go.Pv.Fr
namespace Go.Proofs.YtmhdghdbojdgfaaGreat.Ec
open Go Go.Pv Go.Pv.Ec Go.Proofs
abbrev bl (v:Bool×Bool×Bool×Bool×Bool×Bool×Bool):List Bool:=[v.1,v.2.1,v.2.2.1,v.2.2.2.1,v.2.2.2.2.1,v.2.2.2.2.2.1,v.2.2.2.2.2.2]
structure by5 (l:List u7)(cyc:Int)(v:List Bool)(f g:B5)(n:Nat):Prop where
 len:g.L.length=f.L.length
 done:∀j (h1:j<n) (h2:j<g.L.length) (h3:j<f.L.length) (h4:j<l.length) (h5:j<v.length),∃fr,g.L[j]=Fr.dn2 (l[j]) cyc (v[j]) fr (f.L[j])
 left:∀j (h1:n<=j) (h2:j<g.L.length) (h3:j<f.L.length),g.L[j]=f.L[j]
theorem dB1 {s:j8}(hs:SOk s)(v:Bool×Bool×Bool×Bool×Bool×Bool×Bool){l:List u7}{cyc:Int}{t:Nat->Bool}(hc:Fr.Cfs l)(h7:7<=l.length)(h:Fr.Inv l s.u.H4 cyc true t)(h0:1<=cyc)(h1:cyc<=1073741824):
  ∃i f t',J7 (fun x=>(aT3 s v x).run) (0,s.u.H4)=some (.inl (i,f))/\Fr.Inv l f cyc true t'/\by5 l cyc (bl v) s.u.H4 f 7:=by
 have key:=bt7 (mb:=fun x=>(aT3 s v x).run) (fun x=>∃k:Nat,x.1=(k:Int)/\k<=7/\(∃t,Fr.Inv l x.2 cyc true t)/\by5 l cyc (bl v) s.u.H4 x.2 k) (fun x=>7-x.1.toNat) (fun b=>∃i f t,b= .inl (i,f)/\Fr.Inv l f cyc true t/\by5 l cyc (bl v) s.u.H4 f 7)
  (fun x ⟨k,hk,hk7,⟨t,hi⟩,ht⟩=>by
   obtain⟨a,f⟩:=x
   simp only at hk hi ht
   subst hk
   simp only[aT3,M.run,L1.m,U1.m]
   by_cases hlt:k<7
   ·left
    rw[fi1 (show((k:Nat):Int)<7 by omega)]
    simp only[fi0,T3]
    rw[aW5 (show k<[v.1,v.2.1,v.2.2.1,v.2.2.2.1,v.2.2.2.2.1,v.2.2.2.2.2.1,v.2.2.2.2.2.2].length by simp only[bv4,cV7];omega),hi.aP2,aW5 (show k<l.length by omega)]
    simp only[aD6]
    have hs':SOk (⟨(⟨s.u.u6,s.u.u3,s.u.j3,s.u.Q0,s.u.M5,s.u.H6,s.u.M4,s.u.K8,s.u.L5,f,s.u.A7,s.u.aa4,s.u.Time⟩:ae5),s.d,s.k,s.t,s.o7,s.Y6,s.at4,s.B9,s.aP8,s.D3,s.aJ0,s.E6,s.U7,s.w9,s.known,s.cut,s.u9,s.S7⟩:j8):=⟨hs.few,hs.val,hs.ped,hs.pre,hs.t,hs.spd⟩
    obtain⟨r,e1,hr⟩:=aR6 hs' 2
    have hsp:=hs.spd
    have hkl:k<f.L.length:=by have:=hi.len;omega
    obtain⟨fr,e2,h2⟩:=el7 (hc.ok (show k<l.length by omega)) (a:=s.o7) (b:=r) (by omega) hr
    obtain⟨f',b,e3,h3,_⟩:=Fr.eb0 (bad:=(bl v)[k]'(by simp only[bv4,cV7];omega)) hc hi h0 h1 (show k<l.length by omega) h2
    have e4:=Fr.dy8 (bad:=(bl v)[k]'(by simp only[bv4,cV7];omega)) hc hi h0 h1 (show k<l.length by omega) hkl h2
    rw[e2]
    simp only[aD6]
    rw[e1]
    simp only[aD6,eY6,cE2]
    rw[e3]
    simp only[aD6,eP2]
    rw[e3]at e4
    have e5:f'=_:=(fh5 (cG1 e4)).1
    refine⟨_,rfl,⟨k+1,?_,by omega,⟨_,h3⟩,?_⟩,?_⟩
    ·simp only
     rw[j4 (by omega) (by omega)]
     omega
    ·show by5 l cyc (bl v) s.u.H4 f' (k+1)
     rw[e5]
     refine⟨by simp only[eb5];exact ht.len,fun j q1 q2 q3 q4 q5=>?_,fun j q1 q2 q3=>?_⟩
     ·by_cases hj:k=j
      ·subst hj
       apply Exists.intro
       simp only[dN2]
       rw[ht.left k (cw4 _) hkl q3]
      ·simp only[List.getElem_set_ne hj]
       exact ht.done j (by omega) _ q3 q4 q5
     ·simp only[List.getElem_set_ne (show k≠j by omega)]
      exact ht.left j (by omega) _ q3
    ·simp only
     rw[j4 (by omega) (by omega)]
     omega
   ·right
    rw[fi2 (show¬((k:Nat):Int)<7 by omega)]
    have:k=7:=by omega
    subst this
    exact⟨_,rfl,_,_,t,rfl,hi,ht⟩)
 obtain⟨b,e1,i,f,t',e2,h2,h3⟩:=key 7 (0,s.u.H4) (by simp) ⟨0,rfl,by omega,⟨t,h⟩,rfl,fun j q1=>by omega,fun j _ _ _=>rfl⟩
 rw[e2]at e1
 exact⟨i,f,t',e1,h2,h3⟩
theorem bQ3 {s:j8}(hs:SOk s){n:Int}(hk:∀b∈s.k,b.aO5≠n):(W7 s n).m=some (0,false):=by
 have hf:=hs.few
 simp only[W7,C.of,M.run]
 obtain⟨u,e,_⟩:=aM0 s.k (by omega) (fun i x (u:Unit)=>(aC0 s n i x u).run) (fun _ _=>True) () trivial (fun k x u hx _=>by
  simp only[aC0,M.run]
  rw[bf (hk x (List.mem_of_getElem? hx))]
  exact⟨(),rfl,trivial⟩)
 rw[e]
 rfl
theorem dr8 {x a b:Int}(h:a<=x/\x<=b):F2 (G4 x a) b=x:=by
 unfold F2 G4
 split<;>split<;>omega
theorem eh1 {s:j8}(hs:SOk s)(hk:∀b∈s.k,b.aO5=6):(bH7 s).m=some (false,false,false,false,false,s.u.M4.Off,s.u.K8.Off):=by
 have h1:=hs.ped;have h2:=hs.pre;have h3:=hs.t
 have b:∀n:Int,n≠6->(W7 s n).m=some (0,false):=fun n hn=>bQ3 hs (fun x hx=>by rw[hk x hx];exact fun e=>hn e.symm)
 obtain⟨x,hx⟩:=df3 s.u.A7
 have e0:(D2 s 0).m=some s.d.I4:=by
  simp only[D2,C.of,M.run,b 0 (by omega),aD6];rfl
 have e1:(D2 s 1).m=some (s.d.I4/2):=by
  simp only[D2,C.of,M.run,b 1 (by omega),aD6]
  rw[cA0 h1.1,j4 (by omega) (by omega)];rfl
 have e2:(D2 s 2).m=some s.u.A7.K9:=by
  simp only[D2,C.of,M.run,b 2 (by omega),aD6];rfl
 have e3:(D2 s 3).m=some 20:=by
  simp only[D2,C.of,M.run,b 3 (by omega),aD6];rfl
 have e4:∃v,(D2 s 4).m=some v/\20<=v/\v<=90:=by
  simp only[D2,C.of,M.run,b 4 (by omega),aD6]
  refine⟨_,rfl,?_⟩
  rw[cA0 h3.1,j4 (n:=s.t/1000000) (by omega) (by omega),j4 (by omega) (by omega)]
  unfold F2
  split<;>omega
 have e5:∃v,(D2 s 5).m=some v/\100<=v/\v<=800:=by
  simp only[D2,C.of,M.run,b 5 (by omega),hx,aD6]
  cases decide (x<1000)
  ·exact⟨100,rfl,by omega,by omega⟩
  ·exact⟨800,rfl,by omega,by omega⟩
 obtain⟨v4,e4,k4⟩:=e4
 obtain⟨v5,e5,k5⟩:=e5
 simp only[bH7,C.of,M.run,e0,e1,e2,e3,e4,e5,dx3,bq5,aD6]
 rw[dr8 h1,dr8 (show 0<=s.d.I4/2/\s.d.I4/2<=500 by omega),j4 (n:=2*(s.d.I4/2)) (by omega) (by omega),j4 (n:=s.d.I4-2*(s.d.I4/2)) (by omega) (by omega),j4 (n:=2*(s.d.I4/2)-s.d.I4) (by omega) (by omega)]
 rw[fi2 (show¬G4 (s.d.I4-2*(s.d.I4/2)) (2*(s.d.I4/2)-s.d.I4)>50 by unfold G4;split<;>omega),
  fi2 (show¬s.u.A7.K9<50 by omega),fi2 (show¬s.u.A7.K9>1013 by omega),fi2 (show¬v4< -40 by omega),fi2 (show¬v4>150 by omega),fi2 (show¬v5<50 by omega),fi2 (show¬v5>900 by omega)]
 rfl
theorem ef4 (x:Int):0<=N2 .i64 x 65535/\N2 .i64 x 65535<=65535:=by
 unfold N2
 show 0<=eX5.wrap ((BitVec.ofInt 64 x&&&BitVec.ofInt 64 65535).toNat:Int)/\_
 have e:(BitVec.ofInt 64 x&&&BitVec.ofInt 64 (65535:Int)).toNat=(BitVec.ofInt 64 x).toNat%65536:=by
  rw[BitVec.toNat_and,show(BitVec.ofInt 64 (65535:Int)).toNat=2^16-1 by rfl,Nat.and_two_pow_sub_one_eq_mod]
 show 0<=eX5.wrap _/\eX5.wrap ((BitVec.ofInt 64 x&&&BitVec.ofInt 64 65535).toNat:Int)<=65535
 rw[e]
 have h:(BitVec.ofInt 64 x).toNat%65536<65536:=Nat.mod_lt _ (by omega)
 have h2:eX5.wrap (((BitVec.ofInt 64 x).toNat%65536:Nat):Int)=(((BitVec.ofInt 64 x).toNat%65536:Nat):Int):=j4 (by omega) (by omega)
 rw[h2]
 omega
theorem cy9 (n:Int)(l:List Int)(hl:l.length<=100)(hp:ptB l=true)(hq:quB n=true):∃a,(bm4 n l).m=some (a,0)/\0<=a/\a<=65535:=by
 simp only[bm4,C.of,M.run,dy6,hp,bS7,hq,aD6,aX3,fh8]
 have hb:1<=n/\n<=65535:=by simpa[quB]using hq
 obtain⟨a,e,h⟩:=aM0 l (by omega) (fun i x (a:Int)=>(bu6 i x a).run) (fun _ a=>0<=a/\a<=65535) n (by omega) (fun k x a hx hI=>by
  simp only[bu6,M.run]
  exact⟨_,rfl,ef4 _⟩)
 rw[e]
 exact⟨a,rfl,h⟩
theorem eO2 {g:ah3}{p a:Int}(ha:a<=p):∃h e,(aU5 g p a).m=some (h,e)/\(e=0->grB h=true/\h.Off=g.Off):=by
 by_cases hb:grB g=true/\(-20000<=p/\p<=20000)/\(-20000<=a/\a<=20000)
 ·obtain⟨h,e,h1,h2,h3⟩:=eB9 g p a
  obtain⟨he,hh⟩:=h3 hb.1 hb.2.1.1 hb.2.1.2 hb.2.2.1 hb.2.2.2
  rw[if_neg (by omega)]at hh
  exact⟨h,e,h1,fun he=>⟨h2 he,by rw[hh]⟩⟩
 ·simp only[aU5,C.of,M.run,cl7,dd0,aD6]
  cases h1:grB g
  ·exact⟨_,_,rfl,fun h=>by cases h⟩
  ·simp only[aX3,fh8]
   cases e1:(decide (p>= -20000)&&decide (p<=20000))
   ·exact⟨_,_,rfl,fun h=>by cases h⟩
   ·cases e2:(decide (a>= -20000)&&decide (a<=20000))
    ·exact⟨_,_,rfl,fun h=>by cases h⟩
    ·simp only[aI9,fi3]at e1 e2
     exact absurd ⟨h1,⟨e1.1,e1.2⟩,e2.1,e2.2⟩ hb
theorem dx6 (p:Int):∀(l:List j2) (x:Int),l.foldl (cB7 p) x<=x
 |[],x=>dv9 _
 |y::l,x=>by
  rw[List.foldl_cons]
  refine Int.le_trans (dx6 p l _) ?_
  unfold cB7
  cases(y.Kind==1)&&decide (y.E4>p)
  ·exact dv9 _
  ·simp only[fi0];unfold F2;split<;>omega
theorem eq4 (l:List j2)(p x:Int):100<=j7 (G4 0 (F2 (l.foldl (cB7 p) 10000) x)+100):=by
 have:=dx6 p l 10000
 have h:0<=G4 0 (F2 (l.foldl (cB7 p) 10000) x)/\G4 0 (F2 (l.foldl (cB7 p) 10000) x)<=10000:=by
  unfold G4 F2
  split<;>split<;>omega
 rw[j4 (by omega) (by omega)]
 omega
theorem dp2 {c:j8}(ht:cd1 c.u.u6=true)(hs:0<=c.o7/\c.o7<=12000)(hc:0<=c.w9/\c.w9<=1048576)(h1:1<=c.E6.N9.length)(h8:c.E6.N9.length<=8)(hz:∀x∈c.E6.N9,x.Y4=0):(at9 c).m=some 0:=by
 have hm:bn9 c.u.u6.o8=true:=by
  have:=(dg3 ht).tor
  unfold aY5 at this
  simp only[aI9]at this
  first|exact this.1.1.1.1|exact this.1.1|exact this.1|exact this.1.1.1
 obtain⟨v,k,_,e1,_⟩:=cu2 hm c.o7 c.w9
 have:=cZ8 c.u.u6 c.o7 c.w9 hm (by
  rw[fi1 hs.1,fi1 hs.2,fi1 hc.1,fi1 hc.2];rfl) k e1 c.E6.N9 h1 h8
 simp only[at9,CG.of,M.run,bw8]
 rw[this]
 have h0:c.E6.N9.countP bZ3=0:=by
  rw[List.countP_eq_zero]
  intro x hx
  unfold bZ3
  simp[hz x hx]
 rw[h0]
 simp only[aD6,Option.some.injEq]
 unfold dh5
 have:((0:Nat):Int)=0:=rfl
 simp only[this,Int.mul_zero,Int.zero_add]
 rw[cA0 (by omega),Int.ediv_eq_zero_of_lt (by omega) (by omega)]
theorem dY7 {s:j8}(hs:SOk s)(hk:∀b∈s.k,b.aO5=6)(ho:s.u.M4.Off=false)(ha:ey2 s)(ht:cd1 s.u.u6=true)(hg:bx9 s.u.j3.u4 s.u.u3=true)(hgr:grB s.u.M4=true)(h1:1<=s.E6.N9.length)(h8:s.E6.N9.length<=8):
  ∃g f p c b,(aT2 s).m=some {s with u:={s.u with M4:=g},E6:=⟨s.E6.I6,f,s.E6.o8⟩,U7:=p,w9:=c,cut:=b}/\
   (grB g=true/\g.Off=false)/\f.length=s.E6.N9.length/\100<=p:=by
 have hc:=ce2.1 hg
 have hp:=(dP9.1 hc.ped).v
 have h2:=ha.aP8;have h3:=ha.D3;have h4:=ha.B9
 have tok:=dg3 ht
 have e1:(aw2 s.u.u3.I4.Value s.o7 s.D3).m=some (dD3 s.u.u3.I4.Value s.o7 s.D3):=by
  rw[bP1];exact ee6 h3
 have e2:(aB4 s.u.u6 s.o7 s.B9 s.aP8).m=some (chV s.u.u6 s.o7 s.B9 s.aP8,0):=by
  rw[bY9];exact ci0 tok.air hs.spd (by omega) h2
 have hch:0<=chV s.u.u6 s.o7 s.B9 s.aP8/\chV s.u.u6 s.o7 s.B9 s.aP8<=1048576:=
  bd3 tok (⟨0,0,s.o7,s.B9,s.aP8,13500,s.aJ0,s.D3,[],[]⟩:W4)
 obtain⟨v,k,_,e3,_⟩:=cu2 tok.cG7 s.o7 s.u.u3.I4.Value
 have mm:cC2=cT4:=funext fun r=>cG1 ((dQ7 r).symm.trans (dJ1 r))
 have r9:cT4 ⟨9,1,s.at4,15⟩=true:=by rw[co6,fi3];exact fa3 _ ha.at4
 have r1:cT4 ⟨1,2,1500,1⟩=true:=by rw[co6,fi3];exact fa2 _ (by omega)
 have e4:∀l:List j2,l.all cT4=true->l.length<=32->∃p e,(ad8 s.u.u6 s.u.u3.I4.Value s.o7 l).m=some (p,e)/\100<=p:=fun l hl hn=>by
  rw[bP5,dm5 s.u.u6 s.u.u3.I4.Value s.o7 tok.cG7 (by
   have hsp:=hs.spd
   rw[fi1 (show s.u.u3.I4.Value>=0 by omega),fi1 (show s.u.u3.I4.Value<=1000 by omega),fi1 hsp.1,fi1 hsp.2];rfl) k e3 l (by rw[mm];exact hl) hn]
  exact⟨_,_,rfl,eq4 _ _ _⟩
 have e5:∃l:List j2,(bif dD3 s.u.u3.I4.Value s.o7 s.D3 then(R6 ([⟨9,1,s.at4,15⟩]:List j2) ([⟨1,2,1500,1⟩]:List j2)).bind fun t=>some t else some ([⟨9,1,s.at4,15⟩]:List j2))=some l/\l.all cT4=true/\l.length<=32:=by
  cases dD3 s.u.u3.I4.Value s.o7 s.D3
  ·exact⟨_,rfl,by simp[r9],by simp⟩
  ·rw[H5 _ _ (by simp)]
   exact⟨_,rfl,by simp[r9,r1],by simp⟩
 obtain⟨l,e6,l1,l2⟩:=e5
 obtain⟨p,e,e7,hp100⟩:=e4 l l1 l2
 simp only[aT2,CG.of,M.run,U1.m,cC3,e1,aD6]
 rw[e6]
 simp only[aD6,e7,e2]
 obtain⟨a1,e8⟩:=dD6 (c:=⟨s.u,s.d,s.k,s.t,s.o7,s.Y6,s.at4,s.B9,s.aP8,s.D3,s.aJ0,s.E6,p,chV s.u.u6 s.o7 s.B9 s.aP8,s.known,s.cut,s.u9,s.S7⟩) ht hs.spd hch h1 h8
 rw[e8]
 simp only[aD6]
 have e9:=bQ3 (n:=7) (s:=⟨s.u,s.d,s.k,s.t,s.o7,s.Y6,s.at4,s.B9,s.aP8,s.D3,s.aJ0,s.E6,p,chV s.u.u6 s.o7 s.B9 s.aP8,s.known,s.cut,s.u9,s.S7⟩) ⟨hs.few,hs.val,hs.ped,hs.pre,hs.t,hs.spd⟩ (fun b hb=>by rw[hk b hb];decide)
 rw[e9]
 simp only[aD6]
 have gk:∀x:Int,x<=p->∃g e,(aU5 s.u.M4 p x).m=some (g,e)/\(grB (bif e !=0 then s.u.M4 else g)=true/\(bif e !=0 then s.u.M4 else g).Off=false):=fun x hx=>by
  obtain⟨h,e,q1,q2⟩:=eO2 (g:=s.u.M4) hx
  refine⟨h,e,q1,?_⟩
  by_cases he:e=0
  ·subst he;exact⟨(q2 rfl).1,(q2 rfl).2.trans ho⟩
  ·rw[show(e !=0)=true by simpa using he];exact⟨hgr,ho⟩
 cases aH7:(decide (a1>p)&& !false)
 ·simp only[fh8,aD6,eI3]
  obtain⟨g,e,q1,q2⟩:=gk a1 (by simp at aH7;omega)
  rw[q1]
  simp only[aD6,en2]
  exact⟨_,_,_,_,_,rfl,q2,rfl,hp100⟩
 ·simp only[fi0]
  obtain⟨f,w1,w2⟩:=af9 s.E6.N9.length (by omega) (fun i (o:List A0)=>(aV9 i o).run) (fun k o=>o.length=s.E6.N9.length/\∀x∈o.take k,x.Y4=0) s.E6.N9 ⟨rfl,by simp⟩ (fun k o hk hI=>by
   have hI1:=hI.1
   simp only[aV9,M.run,L1.m,U1.m,T3]
   rw[aW5 (by omega)]
   simp only[aD6,aj2]
   rw[if_pos (by omega)]
   refine⟨_,rfl,by rw[eb5];exact hI1,?_⟩
   intro x hx
   rw[dr6 (by rw[eb5];omega),do5,eM7]at hx
   rcases hx with hx|hx
   ·rw[show((k:Nat):Int).toNat=k by omega,List.take_set_of_le (cw4 _)]at hx
    exact hI.2 x hx
   ·subst hx
    simp only[show((k:Nat):Int).toNat=k by omega,dN2])
  rw[w1]
  simp only[aD6]
  have hz:∀x∈f,x.Y4=0:=fun x hx=>w2.2 x (by rw[<-w2.1,ey4];exact hx)
  have w21:=w2.1
  have e10:=dp2 (c:=⟨s.u,s.d,s.k,s.t,s.o7,s.Y6,s.at4,s.B9,s.aP8,s.D3,s.aJ0,⟨s.E6.I6,f,s.E6.o8⟩,p,chV s.u.u6 s.o7 s.B9 s.aP8,s.known,true,s.u9,s.S7⟩) ht hs.spd hch (by simp only;omega) (by simp only;omega) hz
  rw[e10]
  simp only[aD6,eI3]
  obtain⟨g,e,q1,q2⟩:=gk 0 (by omega)
  rw[q1]
  simp only[aD6,en2]
  exact⟨_,_,_,_,_,rfl,q2,w2.1,hp100⟩
theorem es5 {q:aa8}{now a:Int}{l:List Int}(hq:qzB q=true)(hl:ptB l=true)(hn:l.length<=100)(ha:0<=a/\a<=65535)(ht:ad4 now=true)(ho:q.Open=true)(hle:q.as7<=now):
  ∃x r,(bm4 q.Question l).m=some (x,0)/\(cf5 q now a l).m=some (r,0)/\qzB r=true/\r.as7=0/\r.Open=false/\r.Off=(r.U0==7)/\
   r.U0=(if(((x==a)&&decide (j7 (now-q.as7)>=10000))&&decide (j7 (now-q.as7)<=20000))=true then G4 (q.U0-1) 0 else F2 (q.U0+2) 7):=by
 have hqu:quB q.Question=true:=by
  have:=hq
  simp only[qzB,aI9]at this
  exact this.1.1.1.1.1.1
 obtain⟨x,e1,_⟩:=cy9 q.Question l hn hl hqu
 obtain⟨r,e2,h2,h3,h4,_,h5,h6⟩:=eR4 q (((x==a)&&decide (j7 (now-q.as7)>=10000))&&decide (j7 (now-q.as7)<=20000)) hq
 refine⟨x,r,e1,?_,h2,h3,h4,h6,h5⟩
 simp only[cf5,C.of,M.run,cn7,hq,cf6,ht,dy6,hl,eE7,aD6,aX3,fh8,ho,e1]
 rw[fi1 (show a>=0 by omega),fi1 ha.2,fi2 (show¬now<q.as7 by omega)]
 simp only[Bool.and_self,aX3,fh8]
 rw[e2]
 rfl
theorem dU1 {s:j8}(hs:SOk s)(hq:qzB s.u.K8=true)(ho:s.u.K8.Open=true)(ha:s.u.K8.as7+10000=s.t){b1:Int}{b2:Bool}(hb:(W7 s 6).m=some (b1,b2))(hv:b2=true->1<=b1/\b1<=65535):
  ∃q,(aE5 s).m=some {s with u:={s.u with K8:=q}}/\
   qzB q=true/\q.U0=(if b2=true then F2 (s.u.K8.U0+2) 7 else G4 (s.u.K8.U0-1) 0)/\q.Off=(q.U0==7)/\(q.Off=false->q.Open=true/\q.as7=s.t)/\(q.Off=true->q.Open=false)/\q.as7<=s.t:=by
 have ht:=hs.t
 have hsp:=hs.spd
 obtain⟨v,e1,v1⟩:=dP5 s.U7 65536 (by omega) (by omega)
 have hl:ptB [s.o7,v,7]=true:=by
  unfold ptB
  simp only[bv4,cV7,List.any_cons,List.any_nil,Bool.or_false,aI9,Bool.not_eq_true',bN3,Bool.not_eq_false',fi3]
  omega
 have htm:ad4 s.t=true:=aJ4.2 ht
 have hqu:quB s.u.K8.Question=true:=by
  have:=hq
  simp only[qzB,aI9]at this
  exact this.1.1.1.1.1.1
 obtain⟨x,e2,x0⟩:=cy9 s.u.K8.Question [s.o7,v,7] (by simp) hl hqu
 have kk:∃y,(bif b2 then(ab7 (j7 (x+b1)) 65536).m.bind fun t=>some t else some x)=some y/\(0<=y/\y<=65535)/\(x=y↔b2=false):=by
  cases b2
  ·exact⟨_,rfl,x0,by simp⟩
  ·have h1:=hv rfl
   simp only[fi0]
   rw[j4 (by omega) (by omega),dl4 _ _ (by omega) (by omega)]
   refine⟨_,rfl,by omega,?_⟩
   constructor
   ·intro h;omega
   ·intro h;cases h
 obtain⟨y,e3,y0,yx⟩:=kk
 obtain⟨x',r,q1,q2,q3,q4,q5,q6,q7⟩:=es5 (q:=s.u.K8) (now:=s.t) (a:=y) (l:=[s.o7,v,7]) hq hl (by simp) y0 htm ho (by omega)
 rw[e2]at q1
 cases q1
 have hr:r.U0=(if b2=true then F2 (s.u.K8.U0+2) 7 else G4 (s.u.K8.U0-1) 0):=by
  rw[q7,j4 (by omega) (by omega),fi1 (show s.t-s.u.K8.as7>=10000 by omega),fi1 (show s.t-s.u.K8.as7<=20000 by omega)]
  simp only[Bool.and_true]
  cases hb2:b2
  ·rw[if_pos (by rw[beq_iff_eq];exact yx.2 hb2),if_neg (by simp)]
  ·rw[if_neg (by rw[beq_iff_eq];intro h;have:=yx.1 h;rw[hb2]at this;cases this),if_pos rfl]
 obtain⟨w,n,e,e8,h8,h9⟩:=er3 r s.t
 simp only[aE5,CG.of,M.run,ho,fi0,e1,e2,hb,e3,q2,eI5,en4,aD6]
 rw[show((0:Int) !=0)=false from rfl]
 simp only[fh8,e8,aD6]
 refine⟨_,rfl,?_⟩
 by_cases cF6:r.Off=false
 ·have he:=h9 q3 htm q5 cF6
  subst he
  obtain⟨a1,a2,a3,a4,a5⟩:=h8 rfl
  rw[show((0:Int) !=0)=false from rfl]
  simp only[fh8]
  refine⟨a1,by rw[a4];exact hr,by rw[a5,a4];exact q6,fun _=>⟨a3,a2⟩,fun h=>?_,by omega⟩
  rw[a5,cF6]at h
  cases h
 ·have cF6:r.Off=true:=by simpa using cF6
  have he:¬e=0:=by
   intro he
   subst he
   obtain⟨a1,a2,a3,a4,a5⟩:=h8 rfl
   have:=a1
   simp only[qzB,aI9]at this
   have h2:=this.2
   rw[a3,a5,cF6]at h2
   cases h2
  rw[enz he]
  simp only[fi0]
  refine⟨q3,hr,q6,fun h=>?_,fun _=>q5,by omega⟩
  rw[cF6]at h
  cases h
theorem dU2 {s:j8}(hs:SOk s)(hq:qzB s.u.K8=true)(ho:s.u.K8.Open=false)(hf:s.u.K8.Off=false):
  ∃q,(aE5 s).m=some {s with u:={s.u with K8:=q}}/\
   qzB q=true/\q.U0=s.u.K8.U0/\q.Off=false/\q.Open=true/\q.as7=s.t:=by
 obtain⟨w,n,e,e8,h8,h9⟩:=er3 s.u.K8 s.t
 have he:=h9 hq (aJ4.2 hs.t) ho hf
 subst he
 obtain⟨a1,a2,a3,a4,a5⟩:=h8 rfl
 simp only[aE5,CG.of,M.run,ho,fh8,e8,eI5,en4,aD6]
 exact⟨_,rfl,a1,a4,by rw[show(bif ((0:Int) !=0)then s.u.K8 else w)=w from rfl,a5];exact hf,a3,a2⟩
theorem dj1 {r:S5}(h16:r.ae8.length<=16)(f:Cl Tryz.prog Int Bool (fun x=>[.t (tI x)]) (fun r=>.t (tB r)))(p:Int->Bool)(hf:∀c∈r.ae8,f.f c=some (p c)):
  (aN8 r f).m=some (r.ae8.filter p):=by
 simp only[aN8,C.of,M.run]
 obtain⟨o,h1,h2⟩:=aM0 r.ae8 (by omega) (fun i x (o:List Int)=>(aD0 f i x o).run) (fun k o=>o=(r.ae8.take k).filter p) [] (by simp) (fun k x o hx hI=>by
  obtain⟨hk,rfl⟩:=List.getElem?_eq_some_iff.1 hx
  subst hI
  simp only[aD0,M.run,U1.m,Cl.at,hf _ (bd9 hk),aD6]
  have ht:r.ae8.take (k+1)=r.ae8.take k++[r.ae8[k]]:=dr6 hk
  cases hp:p r.ae8[k]
  ·refine⟨_,rfl,?_⟩
   rw[ht,dJ7];simp[hp]
  ·simp only[fi0]
   have hl:((r.ae8.take k).filter p).length<=16:=Nat.le_trans (List.length_filter_le ..) (by rw[List.length_take];omega)
   rw[H5 _ _ (by simp only[cr0];omega)]
   refine⟨_,rfl,?_⟩
   rw[ht,dJ7];simp[hp])
 rw[h1,h2,ey4]
 rfl
def ey6 (i:Nat):List Int->List V9
 |[]=>[]
 |c=>[⟨(i:Int),c⟩]
def bK8 (p:Int->Bool)(n:Nat):List V9:=(List.range n).flatMap fun i=>ey6 i ((R0.getD i ⟨ByteArray.mk #[],0,0,[],0⟩).ae8.filter p)
theorem cX9 (f:Cl Tryz.prog Int Bool (fun x=>[.t (tI x)]) (fun r=>.t (tB r)))(p:Int->Bool)(hf:∀c,0<=c->c<7->f.f c=some (p c)):
  (aJ2 R0 f).m=some (bK8 p 7):=by
 simp only[aJ2,C.of,M.run]
 obtain⟨a,h1,h2,_⟩:=af9 R0.length (by rw[cJ1];omega) (fun i (o:List V9)=>(ay2 R0 f i o).run) (fun k o=>o=bK8 p k/\o.length<=k) [] ⟨rfl,cw4 _⟩ (fun k o hk hI=>by
  obtain⟨hI,hl⟩:=hI
  subst hI
  have hr:=dp7 cZ5 (bd9 hk)
  rw[fi3]at hr
  have hv:=dj1 hr.1 f p (fun c hc=>by
   have:=bF0.1 hr.2 c hc
   rw[aI9,fi3,fi3]at this
   exact hf c this.1 this.2)
  have hk7:k<7:=hk
  simp only[ay2,M.run,L1.m,U1.m]
  rw[T3,aW5 hk]
  simp only[aD6,hv]
  have hs:bK8 p (k+1)=bK8 p k++ey6 k (R0[k].ae8.filter p):=by
   unfold bK8
   rw[List.range_succ,List.flatMap_append,List.flatMap_singleton,List.getD_eq_getElem?_getD,aW5 hk]
   rfl
  rw[hs]
  cases hc:R0[k].ae8.filter p with
  |nil=>exact⟨_,rfl,by simp[ey6],by omega⟩
  |cons x l=>
   rw[fi1 (show(((x::l).length:Nat):Int)>0 by simp only[bv4];omega)]
   simp only[fi0]
   rw[H5 _ _ (by simp only[cr0];omega)]
   exact⟨_,rfl,by simp[ey6],by simp only[aZ7,cr0];omega⟩)
 rw[h1,h2,cJ1]
 rfl
theorem dS9:bK8 (fun _=>false) 7=[]:=by kernel_rfl
theorem dh4 {f:B5}(hv:(Z0 f).m=some true)(hl:f.L.length=7)(p:Int->Bool)(hp:∀c:Nat,(h:c<f.L.length)->(N2 .i64 (f.L[c]).F8 5 !=0)=p (c:Int)):(aN7 R0 f).m=some (bK8 p 7,0):=by
 have h1:=cX9 (.of (fun z_=>aF6 z_ (-1) f) 287 [Pv.encI (-1),aQ8 f]) p (fun c h0 h7=>by
  simp only[Cl.of,aF6,C.of,M.run,L1.m]
  rw[show(c != -1)=true by simp;omega]
  obtain⟨n,rfl⟩:∃n:Nat,c=(n:Int):=⟨c.toNat,by omega⟩
  rw[T3,aW5 (by omega)]
  simp only[fi0,aD6]
  rw[hp n (by omega)])
 simp only[aN7,bu8,bo1,C.of,M.run,hv,hl,aD6,fi0]
 rw[show(((7:Nat):Int))=7 by rfl,cZ6]
 simp only[aD6,aX3,fh8]
 rw[h1]
 rfl
theorem eB5 {x:A2}(h:Fr.fqP x):(N2 .i64 x.F8 5 !=0)=false:=by
 rcases h.1 with e|e<;>rw[e]<;>rfl
theorem ez8 {s:j8}(hp:bX4 s.u.aa4 s.u.A7)(ht:cd1 s.u.u6=true)(hf:s.E6.N9.length<=1000):
  ∃r,(bd7 s).m=some r/\∃p q,r={s with u:={s.u with A7:=p},S7:=q}/\bX4 s.u.aa4 p/\(s.u.L5.T6=false->q=s.S7):=by
 simp only[bd7,CG.of,M.run,bgi]
 have hf2:s.u.L5.T6=false->(bif (((!s.cut)&&s.u.L5.T6)&&s.known)then s.E6.o8 else s.S7)=s.S7:=fun h=>by rw[h];cases s.cut<;>rfl
 generalize(bif (((!s.cut)&&s.u.L5.T6)&&s.known)then s.E6.o8 else s.S7)=f2 at hf2|-
 refine eH5 (fun p=>bX4 s.u.aa4 p) (eW3 (fun _=>?_) (fun _=>⟨_,rfl,hp⟩)) fun p h1=>?_
 ·obtain⟨v,e1,h2⟩:=dG9 s.E6.N9 (by omega) (.of (fun z_=>bC8 z_) 181 []) (fun x=>x.Y4 !=0) (fun x=>rfl)
  rw[e1]
  simp only[aD6]
  refine eH5 (fun _=>True) (eW3 (fun h3=>?_) (fun _=>⟨_,rfl,trivial⟩)) fun m _=>?_
  ·rw[fi3]at h3
   have h4:=h2 h3
   obtain⟨k,rfl⟩:∃k:Nat,v=(k:Int):=⟨v.toNat,by omega⟩
   simp only[L1.m]
   rw[T3,aW5 (by omega)]
   simp only[aD6]
   obtain⟨r,e⟩:=eo5 ht (s.E6.N9[k]'(by omega)).Y4
   rw[e]
   exact⟨_,rfl,trivial⟩
  ·obtain⟨r,u,e,e2,h3⟩:=ea1 hp m s.w9
   simp only[e2,eI6,en6,aD6]
   exact⟨_,rfl,dP1 hp h3⟩
 ·generalize(bif decide (s.o7<400)then j7 (f2+800)else f2)=q
  generalize(bif s.u.L5.T6 then s.E6.I6 else 0)=a
  generalize(bif s.d.bN6 !=0 then j7 (s.d.bN7+s.d.bk7)else 0)=g
  obtain⟨r,u,e,e2,h3⟩:=eE2 h1 a (F2 q 10000) g 10000
  simp only[e2,eI6,en6,aD6]
  exact⟨_,rfl,_,_,rfl,dP1 h1 h3,hf2⟩
theorem eQ7 (g:ao0)(l:List j6):∃x,(cg2 g l).m=some x/\x.1.length<=1000/\(g.T6=false->∀w∈x.1,w.K2=false):=by
 obtain⟨b,e1,h1⟩:=eo2 l
 simp only[cg2,C.of,M.run,cT8,aD6]
 cases hv:sgB g
 ·exact⟨_,rfl,by simp,fun _ w hw=>by simp at hw⟩
 ·simp only[aX3,fh8,e1,aD6]
  cases b
  ·exact⟨_,rfl,by simp,fun _ w hw=>by simp at hw⟩
  ·have hl:=h1 rfl
   simp only[aX3,fh8]
   rw[dV0 l (by omega)]
   simp only[aD6]
   have e2:(N5 l (.of (fun z_=>cp3 z_ g) 277 [bt3 g])).m=some (l.filter fun y=>!(y.K2&& !g.T6)):=eM9 l (by omega) _ (fun y=>y.K2&& !g.T6) (fun y _=>rfl)
   rw[e2]
   refine⟨_,rfl,Nat.le_trans (List.length_filter_le ..) hl,fun hE w hw=>?_⟩
   have:=(List.mem_filter.1 hw).2
   rw[hE]at this
   simpa using this
theorem es4 (s:j8):∃l,(bn6 s).m=some ⟨s.t,s.o7,s.S7,s.U7,l,s.Y6,!s.u.L5.T6⟩/\l.length<=1000/\(s.u.L5.T6=false->∀w∈l,w.K2=false):=by
 obtain⟨x,e1,h1,h2⟩:=eQ7 s.u.L5 s.u9
 simp only[bn6,CG.of,M.run,e1,aD6]
 exact⟨_,rfl,h1,h2⟩
theorem ek8 {s:j8}(hgr:grB s.u.M4=true)(hqz:qzB s.u.K8=true)(htm:ad4 s.t=true)(hg:sgB s.u.L5=true/\s.u.L5.aQ2<=s.t)(h:Sch s.u.j3 s.u.j3)(hf:s.E6.N9.length<=8)(hl:s.u9.length<=1000000):
  ∃g c w,(aZ2 s).m=some {s with u:={s.u with j3:=c,L5:=g},u9:=w}/\
   (sgB g=true/\g.aQ2<=s.t)/\Sch s.u.j3 c/\w.length<=s.u9.length+100/\g.T6=(csV true s.u.M4 s.u.K8==0):=by
 obtain⟨r,e,e1,h1,h0⟩:=eF7 s.u.L5 true s.u.M4 s.u.K8 s.t
 have hen:(bif e !=0 then s.u.L5 else r).T6=(csV true s.u.M4 s.u.K8==0):=by
  have he:=h0 hg.1 hgr hqz htm hg.2
  subst he
  exact(h1 rfl).2.2
 have hr:sgB (bif e !=0 then s.u.L5 else r)=true/\(bif e !=0 then s.u.L5 else r).aQ2<=s.t:=by
  by_cases he:e=0
  ·subst he
   obtain⟨q1,q2,_⟩:=h1 rfl
   rw[show((0:Int) !=0)=false from rfl]
   exact⟨q1,by simp only[fh8];omega⟩
  ·rw[show(e !=0)=true by simpa using he];exact hg
 simp only[aZ2,CG.of,M.run,eY9,eP5,e1,aD6]
 generalize(bif e !=0 then s.u.L5 else r)=g at hr hen|-
 cases hE:g.T6
 ·obtain⟨t,l,e2,h2,h3⟩:=dN1 h
  simp only[cJ0,fi0,e2,aD6]
  rw[bU4 _ _ l 0 (by simp only;omega)]
  simp only[aD6]
  exact⟨g,t,s.u9++l,rfl,hr,h2,by rw[aZ7];omega,hE▸hen⟩
 ·simp only[aX3,fh8]
  have key:∃c,(bif s.u.j3.Cut then(aB9 s.u.j3).m.bind fun t=>(ac3 s.u.j3).m.bind fun t_1=>(am6 t_1.1 t_1.2 t).m.bind fun t=>some t else some s.u.j3)=some c/\Sch s.u.j3 c:=by
   cases s.u.j3.Cut
   ·exact⟨_,rfl,h⟩
   ·obtain⟨t,e,e2,h2⟩:=dJ3 h
    simp only[fi0,en5,dH2,e2,aD6]
    exact⟨_,rfl,h2⟩
  obtain⟨c,e3,h3⟩:=key
  rw[e3]
  simp only[aD6]
  obtain⟨t,e,e4,h4⟩:=ex3 (s:=c) ⟨h3.ok,h3.few,rfl,rfl⟩ s.E6.N9 hf
  simp only[en5,dH2,e4,aD6]
  exact⟨g,_,s.u9,rfl,hr,⟨h4.ok,h4.few,h4.eng.trans h3.eng,h4.now.trans h3.now⟩,by omega,hE▸hen⟩
theorem eS8 {s:j8}(hs:SOk s)(hk:∀b∈s.k,b.aO5=6){cyc:Int}{t:Nat->Bool}(hc:Fr.Cfs cf0)(h:Fr.Inv cf0 s.u.H4 cyc true t)(h0:1<=cyc)(h1:cyc<=1073741824):
  ∃r t',(bj6 s).m=some r/\fe1 s r/\Fr.Inv cf0 r.u.H4 cyc true t'/\by5 cf0 cyc (bl (false,false,false,false,false,s.u.M4.Off,s.u.K8.Off)) s.u.H4 r.u.H4 7/\(∀p:Int->Bool,(∀c:Nat,(h:c<r.u.H4.L.length)->(N2 .i64 (r.u.H4.L[c]).F8 5 !=0)=p (c:Int))->r.Y6=bK8 p 7):=by
 have hb:=eh1 hs hk
 obtain⟨i,f,t',e1,hi,hts⟩:=dB1 hs (false,false,false,false,false,s.u.M4.Off,s.u.K8.Off) hc (by rw[bx4];exact cw4 _) h h0 h1
 have hv:(Z0 f).m=some true:=by rw[bd1];exact Fr.bU7 hc hi (by omega) h1 (fun _=>h0)
 obtain⟨a,ea,ha,hr2⟩:=dD4 hv (by rw[hi.len,bx4])
 have hact:∀p:Int->Bool,(∀c:Nat,(h:c<f.L.length)->(N2 .i64 (f.L[c]).F8 5 !=0)=p (c:Int))->a=bK8 p 7:=fun p hp=>by
  have:=dh4 hv (by rw[hi.len,bx4]) p hp
  rw[ea]at this
  exact(fh5 (cG1 this)).1
 have hr:∀x∈a,0<=x.T2/\x.T2<7:=fun x hx=>(hr2 x hx).1
 simp only[bj6,CG.of,M.run,hb,aD6]
 rw[e1]
 simp only[aD6,cY5,ea]
 obtain⟨v6,e6,h6⟩:=dg4 0 10000 (⟨(⟨s.u.u6,s.u.u3,s.u.j3,s.u.Q0,s.u.M5,s.u.H6,s.u.M4,s.u.K8,s.u.L5,f,s.u.A7,s.u.aa4,s.u.Time⟩:ae5),s.d,s.k,s.t,s.o7,a,s.at4,s.B9,s.aP8,s.D3,s.aJ0,s.E6,s.U7,s.w9,s.known,s.cut,s.u9,s.S7⟩:j8) ha hr
 rw[e6];simp only[aD6]
 have ok:∀(a:List V9) (l p h c q:Int),SOk (⟨(⟨s.u.u6,s.u.u3,s.u.j3,s.u.Q0,s.u.M5,s.u.H6,s.u.M4,s.u.K8,s.u.L5,f,s.u.A7,s.u.aa4,s.u.Time⟩:ae5),s.d,s.k,s.t,s.o7,a,l,p,h,c,q,s.E6,s.U7,s.w9,s.known,s.cut,s.u9,s.S7⟩:j8):=fun a l p h c q=>⟨hs.few,hs.val,hs.ped,hs.pre,hs.t,hs.spd⟩
 have tt:∀(n o:Int) (l p h c q:Int),∃v,(ar7 n o R0 (⟨(⟨s.u.u6,s.u.u3,s.u.j3,s.u.Q0,s.u.M5,s.u.H6,s.u.M4,s.u.K8,s.u.L5,f,s.u.A7,s.u.aa4,s.u.Time⟩:ae5),s.d,s.k,s.t,s.o7,a,l,p,h,c,q,s.E6,s.U7,s.w9,s.known,s.cut,s.u9,s.S7⟩:j8)).m=some v:=fun n o l p h c q=>by
  obtain⟨v,e,_⟩:=dg4 n o (⟨(⟨s.u.u6,s.u.u3,s.u.j3,s.u.Q0,s.u.M5,s.u.H6,s.u.M4,s.u.K8,s.u.L5,f,s.u.A7,s.u.aa4,s.u.Time⟩:ae5),s.d,s.k,s.t,s.o7,a,l,p,h,c,q,s.E6,s.U7,s.w9,s.known,s.cut,s.u9,s.S7⟩:j8) ha hr
  exact⟨v,e⟩
 obtain⟨v7,e7,_⟩:=aR6 (ok a v6 s.B9 s.aP8 s.D3 s.aJ0) 2
 rw[e7];simp only[aD6]
 obtain⟨v8,e8⟩:=tt 1 v7 v6 s.B9 s.aP8 s.D3 s.aJ0
 rw[e8];simp only[aD6,bq5]
 have c9:=bl3 v8 50 1013 (by omega)
 generalize F2 (G4 v8 50) 1013=v9 at c9|-
 obtain⟨v10,e10,_⟩:=aR6 (ok a v6 v9 s.aP8 s.D3 s.aJ0) 3
 rw[e10];simp only[aD6]
 obtain⟨v11,e11⟩:=tt 2 v10 v6 v9 s.aP8 s.D3 s.aJ0
 rw[e11];simp only[aD6]
 have c12:=bl3 v11 (-40) 150 (by omega)
 generalize F2 (G4 v11 (-40)) 150=v12 at c12|-
 obtain⟨v13,e13,_⟩:=aR6 (ok a v6 v9 v12 s.D3 s.aJ0) 4
 rw[e13];simp only[aD6]
 obtain⟨v14,e14⟩:=tt 3 v13 v6 v9 v12 s.D3 s.aJ0
 rw[e14];simp only[aD6]
 have c15:=bl3 v14 (-40) 150 (by omega)
 generalize F2 (G4 v14 (-40)) 150=v15 at c15|-
 obtain⟨v16,e16,_⟩:=aR6 (ok a v6 v9 v12 v15 s.aJ0) 5
 rw[e16];simp only[aD6]
 obtain⟨v17,e17⟩:=tt 4 v16 v6 v9 v12 v15 s.aJ0
 rw[e17];simp only[aD6]
 exact⟨_,t',rfl,⟨rfl,rfl,rfl,rfl,rfl,rfl,rfl,rfl,rfl,rfl,rfl,rfl,rfl,rfl,rfl,rfl,rfl,rfl,rfl,⟨ha,fun x hx=>(hr2 x hx).2⟩,h6 (by omega) (by omega),c9,c12,c15,bl3 _ _ _ (by omega)⟩,hi,hts,hact⟩
structure ee2 (u v:ae5)(r:ak6)(Q:aa8->Prop):Prop where
 ok:UOk v
 time:v.Time=u.Time+10000
 rc:fe0 r
 guard:v.M4.Off=false
 fg8:Q v.K8
 flt:∃cyc,1<=cyc/\by5 cf0 cyc (bl (false,false,false,false,false,false,u.K8.Off)) u.H4 v.H4 7
 act:∀p:Int->Bool,(∀c:Nat,(h:c<v.H4.L.length)->(N2 .i64 (v.H4.L[c]).F8 5 !=0)=p (c:Int))->r.al8=bK8 p 7
 off:r.Off=v.K8.Off
 bound:100<=r.cI9
 at':r.Time=u.Time
 quiet:r.Off=true->r.o8=0/\∀w∈r.ch8,w.K2=false
theorem eM5 {g:ah3}{q:aa8}(h:g.Off=false):(csV true g q==0)= !q.Off:=by
 unfold csV
 rw[h]
 cases q.Off<;>rfl
theorem dZ9 {u:ae5}{d:L6}{k:List ae4}{Q:aa8->Prop}(hc:Fr.Cfs cf0)(h:UOk u)(hd:DOk d k)(ht:u.Time+10000<=549755813888)(hk:∀b∈k,b.aO5=6)(ho:u.M4.Off=false)
  (hask:∀s:j8,SOk s->s.u.K8=u.K8->s.k=k->s.t=u.Time->∃q,(aE5 s).m=some {s with u:={s.u with K8:=q}}/\qzB q=true/\q.as7<=s.t/\Q q):
  ∃v r,(bQ8 u d k).m=some (v,r)/\ee2 u v r Q:=by
 have hspd:=h.pl.spd
 have hti:=h.time
 have e0:=eF4 u.A7.D1 hspd.1 hspd.2
 have hrpm:0<=u.A7.D1*60000000/1509949440/\u.A7.D1*60000000/1509949440<=12000:=by omega
 simp only[bQ8,C.of,M.run,e0,aD6]
 generalize u.A7.D1*60000000/1509949440=rpm at hrpm|-
 generalize((u.Q0.Mode==2)&&u.M5.aX2)=kn
 have m0:Mid u.Time (⟨u,d,k,u.Time,rpm,([]:List V9),0,0,0,0,0,(⟨0,([]:List A0),0⟩:O3),0,0,kn,false,([]:List j6),0⟩:j8):=
  ⟨⟨hd.few,hd.val,hd.ped,h.pl.pre,⟨by simp only;omega,by simp only;omega⟩,hrpm⟩,h.C2,h.pl,h.sch,h.few,h.now,h.con,h.tf,h.sy,h.ph,h.gr,h.qz,h.sg,h.flt,by simp,by simp⟩
 obtain⟨r1,cyc,e1,m1,a1,t1,sw1,k1,g1,z1,w1,c1,x1,y1⟩:∃r cyc,(bj6 (⟨u,d,k,u.Time,rpm,([]:List V9),0,0,0,0,0,(⟨0,([]:List A0),0⟩:O3),0,0,kn,false,([]:List j6),0⟩:j8)).m=some r/\Mid u.Time r/\ey2 r/\r.t=u.Time/\r.u9=[]/\r.k=k/\r.u.M4.Off=false/\r.u.K8=u.K8/\r.S7=0/\1<=cyc/\
   by5 cf0 cyc (bl (false,false,false,false,false,false,u.K8.Off)) u.H4 r.u.H4 7/\(∀p:Int->Bool,(∀c:Nat,(h:c<r.u.H4.L.length)->(N2 .i64 (r.u.H4.L[c]).F8 5 !=0)=p (c:Int))->r.Y6=bK8 p 7):=by
  obtain⟨c,t,hct,hi⟩:=h.flt
  obtain⟨r,t',e,o,hi',hts,hact⟩:=eS8 m0.ok hk hc hi hct.1 hct.2
  obtain⟨q1,q2,q3,q4,q5,q6,q7,q8,q9,q10,q11,q12,q13,q14,q15,q16,q17,q18,q19,q25,q20,q21,q22,q23,q24⟩:=o
  simp only at q1 q2 q3 q4 q5 q6 q7 q8 q9 q10 q11 q12 q13 q14 q15 q16 q17 q18 q19
  simp only[ho]at hts
  refine⟨r,c,e,⟨⟨by rw[q13];exact hd.few,by rw[q13];exact hd.val,by rw[q12];exact hd.ped,by rw[q10];exact h.pl.pre,by rw[q14];omega,by rw[q15];exact hrpm⟩,by rw[q1];exact h.C2,by rw[q11,q10];exact h.pl,by rw[q3];exact h.sch,by rw[q3];exact h.few,by rw[q3];exact h.now,by rw[q3,q2];exact h.con,by rw[q6];exact h.tf,by rw[q4];exact h.sy,by rw[q5];exact h.ph,by rw[q7];exact h.gr,by rw[q8,q14];exact h.qz,by rw[q9,q14];exact h.sg,⟨c,t',hct,hi'⟩,q25⟩,⟨q20,q21,q22,q23,q24⟩,q14,q18,q13,by rw[q7];exact ho,q8,q19,hct.1,hts,hact⟩
 rw[e1];simp only[aD6]
 obtain⟨r2,e2,m2,a2,t2,sw2,n2,k2,g2,z2,w2,f2,x2⟩:∃r,(aT1 r1).m=some r/\Mid u.Time r/\ey2 r/\r.t=u.Time/\r.u9=[]/\(1<=r.E6.N9.length/\r.E6.N9.length<=8)/\r.k=k/\r.u.M4.Off=false/\r.u.K8=u.K8/\r.S7=0/\r.u.H4=r1.u.H4/\r.Y6=r1.Y6:=by
  obtain⟨c,o,e,hg,hl⟩:=ds6 m1.ok a1 m1.C2 m1.pl.body m1.con
  have hn:=(ce2.1 m1.con).eng
  have hn1:=hn.1;have hn2:=hn.2.1
  exact⟨_,e,⟨⟨m1.ok.few,m1.ok.val,m1.ok.ped,m1.ok.pre,m1.ok.t,m1.ok.spd⟩,m1.C2,m1.pl,m1.sch,m1.few,m1.now,hg,m1.tf,m1.sy,m1.ph,m1.gr,m1.qz,m1.sg,m1.flt,m1.act⟩,⟨a1.at4,a1.B9,a1.aP8,a1.D3,a1.aJ0⟩,t1,sw1,by show 1<=o.N9.length/\o.N9.length<=8;omega,k1,g1,z1,w1,rfl,rfl⟩
 rw[e2];simp only[aD6]
 obtain⟨r3,e3,m3,t3,sw3,n3,k3,g3,z3,w3,f3,x3,b3⟩:∃r,(aT2 r2).m=some r/\Mid u.Time r/\r.t=u.Time/\r.u9=[]/\r.E6.N9.length<=8/\r.k=k/\r.u.M4.Off=false/\r.u.K8=u.K8/\r.S7=0/\r.u.H4=r1.u.H4/\r.Y6=r1.Y6/\100<=r.U7:=by
  obtain⟨g,f,p,c,b,e,hg,hl,hb⟩:=dY7 m2.ok (by rw[k2];exact hk) g2 a2 m2.C2 m2.con m2.gr n2.1 n2.2
  exact⟨_,e,⟨⟨m2.ok.few,m2.ok.val,m2.ok.ped,m2.ok.pre,m2.ok.t,m2.ok.spd⟩,m2.C2,m2.pl,m2.sch,m2.few,m2.now,m2.con,m2.tf,m2.sy,m2.ph,hg.1,m2.qz,m2.sg,m2.flt,m2.act⟩,t2,sw2,by show f.length<=8;omega,k2,hg.2,z2,w2,f2,x2,hb⟩
 rw[e3];simp only[aD6]
 obtain⟨r4,e4,m4,t4,sw4,n4,g4,z4,w4,f4,x4,b4⟩:∃r,(aE5 r3).m=some r/\Mid u.Time r/\r.t=u.Time/\r.u9=[]/\r.E6.N9.length<=8/\r.u.M4.Off=false/\Q r.u.K8/\r.S7=0/\r.u.H4=r1.u.H4/\r.Y6=r1.Y6/\100<=r.U7:=by
  obtain⟨q,e,hq1,hq2,hq3⟩:=hask r3 m3.ok z3 k3 t3
  exact⟨_,e,⟨⟨m3.ok.few,m3.ok.val,m3.ok.ped,m3.ok.pre,m3.ok.t,m3.ok.spd⟩,m3.C2,m3.pl,m3.sch,m3.few,m3.now,m3.con,m3.tf,m3.sy,m3.ph,m3.gr,⟨hq1,hq2⟩,m3.sg,m3.flt,m3.act⟩,t3,sw3,n3,g3,hq3,w3,f3,x3,b3⟩
 rw[e4];simp only[aD6]
 obtain⟨r5,e5,m5,t5,sw5,n5,g5,z5,w5,f5,x5,b5,s5⟩:∃r,(aZ2 r4).m=some r/\Mid u.Time r/\r.t=u.Time/\r.u9.length<=100/\r.E6.N9.length<=8/\r.u.M4.Off=false/\Q r.u.K8/\r.S7=0/\r.u.H4=r1.u.H4/\r.Y6=r1.Y6/\100<=r.U7/\r.u.L5.T6= !r.u.K8.Off:=by
  obtain⟨g,c,w,e,hg,hs,hw,hE⟩:=ek8 m4.gr m4.qz.1 (aJ4.2 m4.ok.t) m4.sg ⟨m4.sch,m4.few,rfl,rfl⟩ n4 (by rw[sw4];simp)
  rw[sw4]at hw
  rw[eM5 g4]at hE
  exact⟨_,e,⟨⟨m4.ok.few,m4.ok.val,m4.ok.ped,m4.ok.pre,m4.ok.t,m4.ok.spd⟩,m4.C2,m4.pl,hs.ok,hs.few,hs.now.trans m4.now,by show bx9 c.u4 r4.u.u3=true;rw[hs.eng];exact m4.con,m4.tf,m4.sy,m4.ph,m4.gr,m4.qz,hg,m4.flt,m4.act⟩,t4,by simpa using hw,n4,g4,z4,w4,f4,x4,b4,hE⟩
 rw[e5];simp only[aD6]
 obtain⟨r6,e6,m6,t6,n6,g6,z6,w6,f6,x6,b6,s6⟩:∃r,(bj7 r5).m=some r/\Mid (u.Time+10000) r/\r.t=u.Time/\r.E6.N9.length<=8/\r.u.M4.Off=false/\Q r.u.K8/\r.S7=0/\r.u.H4=r1.u.H4/\r.Y6=r1.Y6/\100<=r.U7/\r.u.L5.T6= !r.u.K8.Off:=by
  have bD4:=m5.now;have htf:=m5.tf;have hsy:=m5.sy
  obtain⟨c,y,p,f,w,e,q,hn⟩:=ew3 (s:=r5) (by rw[t5];exact⟨by omega,⟨m5.sch,m5.few,rfl,by omega,by omega⟩,⟨hsy.1,by omega⟩,m5.ph,⟨htf.1,by omega⟩⟩) m5.pl (by rw[t5];omega) (by omega)
  rw[t5]at q hn
  exact⟨_,e,⟨⟨m5.ok.few,m5.ok.val,m5.ok.ped,m5.ok.pre,m5.ok.t,m5.ok.spd⟩,m5.C2,m5.pl,q.sch.ok,q.sch.few,hn,by show bx9 c.u4 r5.u.u3=true;rw[q.sch.eng];exact m5.con,q.tf,q.sy,q.ph,m5.gr,m5.qz,m5.sg,m5.flt,m5.act⟩,t5,n5,g5,z5,w5,f5,x5,b5,s5⟩
 rw[e6];simp only[aD6]
 obtain⟨r7,e7,m7,t7,g7,z7,w7,f7,x7,b7,s7⟩:∃r,(bd7 r6).m=some r/\Mid (u.Time+10000) r/\r.t=u.Time/\r.u.M4.Off=false/\Q r.u.K8/\(r.u.L5.T6=false->r.S7=0)/\r.u.H4=r1.u.H4/\r.Y6=r1.Y6/\100<=r.U7/\r.u.L5.T6= !r.u.K8.Off:=by
  obtain⟨r,e,p,q,rfl,hp,hq⟩:=ez8 m6.pl m6.C2 (by omega)
  exact⟨_,e,⟨⟨m6.ok.few,m6.ok.val,m6.ok.ped,hp.pre,m6.ok.t,m6.ok.spd⟩,m6.C2,hp,m6.sch,m6.few,m6.now,m6.con,m6.tf,m6.sy,m6.ph,m6.gr,m6.qz,m6.sg,m6.flt,m6.act⟩,t6,g6,z6,fun hE=>(hq hE).trans w6,f6,x6,b6,s6⟩
 rw[e7];simp only[aD6]
 obtain⟨l8,e8,s8,a8⟩:=es4 ({r7 with u:={r7.u with Time:=j7 (r7.t+10000)}}:j8)
 rw[e8];simp only[aD6]
 have hw:j7 (r7.t+10000)=u.Time+10000:=by rw[t7,j4 (by omega) (by omega)]
 have hq:=m7.qz;have hg:=m7.sg
 rw[t7]at hq hg
 have hten:=h.ten
 rw[hw]
 refine⟨_,_,rfl,⟨⟨m7.C2,m7.pl,m7.sch,m7.few,m7.now,m7.con,m7.tf,m7.sy,m7.ph,m7.gr,⟨hq.1,by have:=hq.2;show r7.u.K8.as7<=u.Time+10000;omega⟩,⟨hg.1,by have:=hg.2;show r7.u.L5.aQ2<=u.Time+10000;omega⟩,m7.flt,by show 0<=u.Time+10000/\u.Time+10000<=549755813888;omega,by show(u.Time+10000)%10000=0;omega⟩,rfl,⟨s8,m7.act⟩,g7,z7,⟨cyc,c1,by show by5 _ _ _ _ r7.u.H4 7;rw[f7];exact x1⟩,fun p hp=>?_,?_,b7,t7,fun hE=>?_⟩⟩
 ·show r7.Y6=bK8 p 7
  rw[x7]
  refine y1 p fun c hc2=>?_
  have:=hp c (by show c<r7.u.H4.L.length;rw[f7];exact hc2)
  simp only[f7]at this
  exact this
 ·show(!r7.u.L5.T6)=r7.u.K8.Off
  rw[s7,Bool.not_not]
 ·have hE':r7.u.L5.T6=false:=by
   have h2:(!r7.u.L5.T6)=true:=hE
   simpa using h2
  exact⟨w7 hE',a8 hE'⟩
def nxU (l:List L6)(k:List ae4)(u:ae5):ae5×ak6×Int:=((bC4 l u.Time).m.bind fun r=>(bs8 u r.1 k).m).getD ⟨u,⟨0,0,0,0,[],[],false⟩,0⟩
def sq (l:List L6)(k:List ae4)(u:ae5):Nat->ae5
 |0=>u
 |i+1=>(nxU l k (sq l k u i)).1
structure cy7 (l:List L6)(k:List ae4):Prop where
 cf:Fr.Cfs cf0
 val:(az3 l).m=some true
 dr:ey3 l
 few:k.length<=100
 brk:∀x∈k,eW5 x
def cY6 (l:List L6)(k:List ae4)(u:ae5)(n:Nat):List ak6:=(List.range n).map fun i=>(nxU l k (sq l k u i)).2.1
theorem aw:(aL7).m=some true:=(aL7).le 1000 _ (by kernel_rfl)
theorem dT6 (l:List (List Int))(hl:l.length<=1000000)(f:Cl Tryz.prog (List Int) Bool (fun x=>[.t (tS Pv.encI x)]) (fun r=>.t (tB r)))(p:List Int->Bool)(h:∀x∈l,f.f x=some (p x)):(F6 l f).m=some (l.any p):=by
 simp only[F6,V4,Z5,C.of,M.run,L1.m,Cl.at]
 refine Eq.trans ?_ (bI4 l (by omega) f.f p h)
 kernel_rfl
theorem eB1 (t:o6):∃b,(bh9 t).m=some b:=by
 simp only[bh9,C.of,M.run]
 rcases bJ6 [t.Air,t.N8,t.o8,t.aH5] (by simp) (fun i x (u:Unit)=>(aW0 i x u).run) (fun _ _=>True) (fun _=>True) () trivial (fun k x u hx _=>by
  simp only[aW0,M.run]
  cases hc:(((decide ((x.X.length:Int)>40))||(decide ((x.Y.length:Int)>40)))||(decide ((x.Z.length:Int)>40)))
  ·simp only[bN3,fi4]at hc
   simp only[fh8]
   rw[dT6 x.Z (by omega) (.of (fun z_=>bt8 z_) 22 []) _ (fun y _=>rfl)]
   simp only[aD6]
   generalize(x.Z.any _)=c
   cases c
   ·exact .inl ⟨_,rfl,trivial⟩
   ·exact .inr ⟨_,rfl,trivial⟩
  ·exact .inr ⟨_,rfl,trivial⟩)with⟨u,e,_⟩|⟨r,e,_⟩
 ·rw[e]
  simp only[aD6]
  rcases bJ6 [t.L3,t.ae6,t.av6,t.C1] (by simp) (fun i x (u:Unit)=>(aW1 i x u).run) (fun _ _=>True) (fun _=>True) () trivial (fun k x u hx _=>by
   simp only[aW1,M.run]
   cases hc:((decide ((x.X.length:Int)>40))||(decide ((x.Y.length:Int)>40)))
   ·exact .inl ⟨_,rfl,trivial⟩
   ·exact .inr ⟨_,rfl,trivial⟩)with⟨u,e,_⟩|⟨r,e,_⟩
  ·rw[e];exact⟨_,rfl⟩
  ·rw[e];exact⟨_,rfl⟩
 ·rw[e];exact⟨_,rfl⟩
abbrev dC8 (u:ae5)(k:List ae4)(Q:aa8->Prop):Prop:=∀s:j8,SOk s->s.u.K8=u.K8->s.k=k->s.t=u.Time->∃q,(aE5 s).m=some {s with u:={s.u with K8:=q}}/\qzB q=true/\q.as7<=s.t/\Q q
theorem eZ6 {l:List L6}{k:List ae4}{Q:aa8->Prop}(g:cy7 l k){u:ae5}(h:UOk u)(ht:u.Time+10000<=549755813888)(hk:∀b∈k,b.aO5=6)(ho:u.M4.Off=false)(hask:dC8 u k Q):
  ∃d,(bC4 l u.Time).m=some (d,0)/\(bs8 u d k).m=some (nxU l k u)/\(nxU l k u).2.2=0/\ee2 u (nxU l k u).1 (nxU l k u).2.1 Q:=by
 have h0:=h.time
 obtain⟨d,e1,hd⟩:=eL6 g.val g.dr u.Time (by omega)
 obtain⟨v,r,e2,hl⟩:=dZ9 g.cf h ⟨g.few,fun x hx=>(g.brk x hx).2.2,hd.2.1⟩ ht hk ho hask
 have e3:(bs8 u d k).m=some (v,r,0):=by
  simp only[bs8,C.of,M.run,dg8 g.cf h,cM3 g.few g.brk,dZ8 hd,aD6,aX3,fh8]
  rw[j4 (by omega) (by omega),fi2 (by omega),e2]
  rfl
 have e:nxU l k u=(v,r,0):=by
  unfold nxU
  rw[e1]
  simp only[aD6]
  rw[e3]
  rfl
 rw[e]
 exact⟨d,e1,e3,rfl,hl⟩
theorem fg4 {l:List L6}{k:List ae4}{Q:aa8->Prop}(g:cy7 l k){u:ae5}(h:UOk u)(ht:u.Time+10000<=549755813888)(hk:∀b∈k,b.aO5=6)(ho:u.M4.Off=false)(hask:dC8 u k Q):
  ee2 u (nxU l k u).1 (nxU l k u).2.1 Q:=by
 obtain⟨_,_,_,_,h⟩:=eZ6 g h ht hk ho hask
 exact h
theorem fa4 {l:List L6}{k:List ae4}(g:cy7 l k){u:ae5}(h:UOk u)(n:Nat)(hn:n<=1000)(hs:∀i,i<n->∃d,(bC4 l (sq l k u i).Time).m=some (d,0)/\(bs8 (sq l k u i) d k).m=some (nxU l k (sq l k u i))/\(nxU l k (sq l k u i)).2.2=0):(cH3 u l k (n:Int)).m=some (cY6 l k u n,0):=by
 simp only[cH3,C.of,M.run,dg8 g.cf h,cM3 g.few g.brk,g.val,aD6,aX3,fh8]
 rw[fi2 (show¬(n:Int)<0 by omega),fi2 (show¬(n:Int)>1000 by omega)]
 simp only[eO3,fh8]
 obtain⟨s,e,h1,h2⟩:=af9 n (by omega) (fun i (s:List ak6×ae5)=>(cd4 l k i s).run) (fun i s=>s.1=cY6 l k u i/\s.2=sq l k u i) ([],u) ⟨rfl,rfl⟩ (fun i s hi ⟨q1,q2⟩=>by
  obtain⟨o,v⟩:=s
  simp only at q1 q2
  subst q1;subst q2
  obtain⟨d,e1,e2,e3⟩:=hs i hi
  simp only[cd4,M.run,U1.m,e1,e2,e3,aD6]
  rw[show((0:Int) !=0)=false from rfl,H5 _ _ (by simp only[cY6,List.length_map,List.length_range,cr0];omega)]
  refine⟨_,rfl,?_,rfl⟩
  simp only[cY6,List.range_succ,List.map_append,List.map_cons,List.map_nil])
 rw[e]
 show some (s.1,(0:Int))=_
 rw[h1]
structure Calm (u:ae5):Prop where
 guard:u.M4.Off=false
 off:u.K8.Off=false
 err:u.K8.U0=0
 op:u.K8.Open=true->u.K8.as7+10000=u.Time
 flt:∀x∈u.H4.L,Fr.fqP x
theorem ff7:G4 ((0:Int)-1) 0=0:=rfl
theorem dr2 {u:ae5}{k:List ae4}(h:UOk u)(hc:Calm u)(hk:∀s:j8,SOk s->s.k=k->s.t=u.Time->(W7 s 6).m=some (0,false)):
  dC8 u k (fun q=>q.Off=false/\q.U0=0/\q.Open=true/\q.as7=u.Time):=by
 intro s hs hq hsk hst
 have hz:qzB s.u.K8=true:=by rw[hq];exact h.qz.1
 cases ho:s.u.K8.Open
 ·obtain⟨q,e,a1,a2,a3,a4,a5⟩:=dU2 hs hz ho (by rw[hq];exact hc.off)
  exact⟨q,e,a1,by omega,a3,by rw[a2,hq];exact hc.err,a4,a5.trans hst⟩
 ·obtain⟨q,e,a1,a2,a3,a4,a5,a6⟩:=dU1 hs hz ho (by rw[hq,hst];exact hc.op (by rw[<-hq];exact ho)) (hk s hs hsk hst) (fun h=>by cases h)
  rw[if_neg (by simp),hq,hc.err,ff7]at a2
  have cF6:q.Off=false:=by rw[a3,a2];rfl
  exact⟨q,e,a1,a6,cF6,a2,(a4 cF6).1,(a4 cF6).2.trans hst⟩
theorem dr3 {cyc:Int}{f g:B5}{c:Int}{t:Nat->Bool}(hc:Fr.Cfs cf0)(hi:Fr.Inv cf0 f c true t)(hq:∀x∈f.L,Fr.fqP x)(ht:by5 cf0 cyc (bl (false,false,false,false,false,false,false)) f g 7):∀x∈g.L,Fr.fqP x:=by
 intro x hx
 obtain⟨j,hj,rfl⟩:=List.mem_iff_getElem.1 hx
 have hl:=ht.len;have hl2:=hi.len;have h7:=bx4
 have hj7:j<7:=by omega
 obtain⟨fr,e⟩:=ht.done j hj7 hj (by omega) (by omega) (by simp only[bv4,cV7];omega)
 rw[e]
 have hv:(bl (false,false,false,false,false,false,false))[j]'(by simp only[bv4,cV7];omega)=false:=by
  have:∀(l:List Bool) (h:j<l.length),(∀b∈l,b=false)->l[j]=false:=fun l h hb=>hb _ (bd9 h)
  exact this _ _ (by simp)
 rw[hv]
 obtain⟨b1,b2,b4,b16,hb⟩:=hi.rt j (by omega) (by omega)
 exact Fr.dJ2 (hc.ok (by omega)) (hq _ (bd9 _)) hb.count.1
theorem da5 {l:List L6}{k:List ae4}(g:cy7 l k){u:ae5}(h:UOk u)(hc:Calm u)(ht:u.Time+10000<=549755813888)(hk6:∀b∈k,b.aO5=6)(hk:∀s:j8,SOk s->s.k=k->s.t=u.Time->(W7 s 6).m=some (0,false)):
  UOk (nxU l k u).1/\Calm (nxU l k u).1/\(nxU l k u).1.K8.Open=true/\(nxU l k u).1.Time=u.Time+10000/\(nxU l k u).2.1.al8=[]/\(nxU l k u).2.1.Off=false/\(nxU l k u).2.1.Time=u.Time/\100<=(nxU l k u).2.1.cI9:=by
 have q:=fg4 g h ht hk6 hc.guard (dr2 h hc hk)
 obtain⟨q1,q2,q3,q4⟩:=q.fg8
 obtain⟨cyc,_,hts⟩:=q.flt
 obtain⟨c,t,_,hi⟩:=h.flt
 have hts':by5 cf0 cyc (bl (false,false,false,false,false,false,false)) u.H4 (nxU l k u).1.H4 7:=by
  have:=hts
  rw[hc.off]at this
  exact this
 have hf:=dr3 g.cf hi hc.flt hts'
 refine⟨q.ok,⟨q.guard,q1,q2,fun _=>by rw[q4,q.time],hf⟩,q3,q.time,?_,by rw[q.off];exact q1,q.at',q.bound⟩
 rw[q.act (fun _=>false) (fun c hc2=>eB5 (hf _ (bd9 hc2))),dS9]
def F0:B5:=(((aA6 cf0).e 200).getD (⟨[],[],0,false⟩,0)).1
def F1:B5:=(((aw1 F0).e 200).getD (⟨[],[],0,false⟩,0)).1
theorem ff9:(aA6 cf0).m=some (F0,0):=(aA6 cf0).le 200 _ (by kernel_rfl)
theorem eL7:(aw1 F0).m=some (F1,0):=(aw1 F0).le 200 _ (by kernel_rfl)
theorem eK8:(F1.L.all fun x=>(x.F8==0)&&decide (x.E0<=0))=true:=by kernel_rfl
theorem ee1:∀x∈F1.L,Fr.fqP x:=fun x hx=>by
 have:=bF0.1 eK8 x hx
 simp only[aI9,beq_iff_eq,fi3]at this
 exact⟨.inl this.1,this.2⟩
theorem eZ4 (t:o6)(b:L0)(e:o4):∃u f,(bV4 t b e cf0).m=some (u,f)/\(f=0\/f=1)/\(f=0->Fr.Cfs cf0/\UOk u/\u.Time=0/\Calm u/\u.K8.Open=false/\u.j3=Sc.bN0 e):=by
 obtain⟨p,pe,e3,h3⟩:=eR1 b
 have e5:(ab8 t).m=some (cd1 t):=by rw[bg6,bh2]
 have bad:∀{c:Bool}{x:Option (ae5×Int)}{z:ae5},c=true->∃u f,(bif c then some (z,1)else x)=some (u,f)/\(f=0\/f=1)/\(f=0->Fr.Cfs cf0/\UOk u/\u.Time=0/\Calm u/\u.K8.Open=false/\u.j3=Sc.bN0 e):=by
  intro c x z h
  rw[h]
  exact⟨_,_,rfl,.inr rfl,fun h=>by cases h⟩
 by_cases he:Ev.aD7 e
 ·have e1:(az1 e).m=some (eD5 e.z8.length,0):=by rw[bO3,bQ5,fi1 he];rfl
  have e2:(ao6 e).m=some (Sc.bN0 e,0):=by rw[bB5,Sc.dR3,fi1 he];rfl
  rcases Fr.dl7 (l:=cf0) (by rw[bx4];omega)with⟨x,e4,hx⟩|⟨hc,f,e4,hi⟩
  ·simp only[bV4,C.of,M.run,e1,e2,e3,e5,bp1,e4,aD6]
   exact bad (by rw[enz hx];simp)
  ·simp only[bV4,C.of,M.run,e1,e2,e3,e5,bp1,e4,aD6]
   by_cases hp:pe=0
   ·subst hp
    have pk:=h3 rfl
    cases ht:cd1 t
    ·exact bad (by simp)
    ·rw[show((((((!true)||((0:Int) !=0))||((0:Int) !=0))||((0:Int) !=0))||((0:Int) !=0))||(decide ((cf0.length:Int)<7)))=false by rw[bx4];rfl]
     simp only[fh8]
     obtain⟨f',e6,hi'⟩:=Fr.eh4 hc hi (by omega) (by omega)
     have ef:f=F0:=by
      have:=ff9
      rw[bp1,e4]at this
      exact(fh5 (cG1 this)).1
     have ef':f'=F1:=by
      have:=eL7
      rw[bO6,<-ef,e6]at this
      exact(fh5 (cG1 this)).1
     simp only[bO6,e6,fa1,fc1,eq5,tf0,eS2,aD6]
     refine⟨_,_,rfl,.inl rfl,fun _=>⟨hc,⟨ht,pk,Sc.dl7 he,by simp[Sc.bN0],rfl,ep1 he,⟨rfl,by simp⟩,⟨eS6,by simp⟩,eQ9,rfl,⟨rfl,by simp⟩,⟨rfl,by simp⟩,⟨_,_,by omega,hi'⟩,by simp,by simp⟩,rfl,⟨rfl,rfl,rfl,fun h=>(by cases h),(show∀x∈f'.L,Fr.fqP x by rw[ef'];exact ee1)⟩,rfl,rfl⟩⟩
   ·exact bad (by rw[enz hp];simp)
 ·have e1:(az1 e).m=some (eK2,1):=by rw[bO3,bQ5,fi2 he];rfl
  have e2:(ao6 e).m=some (Sc.cq7,1):=by rw[bB5,Sc.dR3,fi2 he];rfl
  obtain⟨x,f,e4⟩:∃x f,Pv.aA6 cf0=some (x,f):=by
   rcases Fr.dl7 (l:=cf0) (by rw[bx4];omega)with⟨x,e4,hx⟩|⟨hc,f,e4,hi⟩
   ·exact⟨_,_,e4⟩
   ·exact⟨_,_,e4⟩
  simp only[bV4,C.of,M.run,e1,e2,e3,e5,bp1,e4,aD6]
  exact bad (by simp)
theorem ep5 {u:ae5}:∀s:j8,SOk s->s.k=([]:List ae4)->s.t=u.Time->(W7 s 6).m=some (0,false):=fun s hs hk _=>bQ3 hs (by rw[hk];simp)
theorem cM7 {l:List L6}(g:cy7 l []){u:ae5}(h:UOk u)(h0:u.Time=0)(hc:Calm u):∀i,i<=1000->UOk (sq l [] u i)/\(sq l [] u i).Time=10000*(i:Int)/\Calm (sq l [] u i)
 |0,_=>⟨h,by show u.Time=_;rw[h0];rfl,hc⟩
 |i+1,hi=>by
  obtain⟨h1,h2,h3⟩:=cM7 g h h0 hc i (by omega)
  obtain⟨a1,a2,_,a3,_⟩:=da5 g h1 h3 (by rw[h2];omega) (by simp) ep5
  exact⟨a1,by show(nxU l [] (sq l [] u i)).1.Time=_;rw[a3,h2];omega,a2⟩
theorem ei1 {l:List L6}(g:cy7 l []){u:ae5}(h:UOk u)(h0:u.Time=0)(hc:Calm u)(i:Nat)(hi:i<1000):
  (nxU l [] (sq l [] u i)).2.1.al8=[]/\(nxU l [] (sq l [] u i)).2.1.Off=false/\(nxU l [] (sq l [] u i)).2.1.Time=10000*(i:Int)/\100<=(nxU l [] (sq l [] u i)).2.1.cI9:=by
 obtain⟨h1,h2,h3⟩:=cM7 g h h0 hc i (by omega)
 obtain⟨_,_,_,_,a1,a2,a3,a4⟩:=da5 g h1 h3 (by rw[h2];omega) (by simp) ep5
 exact⟨a1,a2,a3.trans h2,a4⟩
theorem ei2 {l:List L6}(g:cy7 l []){u:ae5}(h:UOk u)(h0:u.Time=0)(hc:Calm u)(n:Nat)(hn:n<=1000):(cH3 u l [] (n:Int)).m=some (cY6 l [] u n,0):=
 fa4 g h n hn fun i hi=>by
  obtain⟨h1,h2,h3⟩:=cM7 g h h0 hc i (by omega)
  obtain⟨d,e1,e2,e3,_⟩:=eZ6 g h1 (by rw[h2];omega) (by simp) h3.guard (dr2 h1 h3 ep5)
  exact⟨d,e1,e2,e3⟩
theorem ea4 (t:o6)(b:L0)(e:o4)(l:List L6)(n:Int)(hn:0<=n/\n<=255):(aD2 t b e l n).m=some true:=by
 obtain⟨f,ef⟩:=eB1 t
 simp only[aD2,C.of,M.run,aw,ef,aD6,aX3,fh8]
 cases hb:((!f||decide ((e.z8.length:Int)>20))||decide ((l.length:Int)>210))
 ·simp only[bN3,fi4]at hb
  simp only[fh8,ds5,aD6]
  obtain⟨u,x,e5,h5,h6⟩:=eZ4 t b e
  rw[e5]
  simp only[aD6]
  by_cases hx:x=0
  ·subst hx
   obtain⟨hc,hu,hu0,hcalm,_⟩:=h6 rfl
   rw[show((0:Int) !=0)=false from rfl]
   simp only[fh8]
   obtain⟨v4,e4,h4⟩:=dF9 l (by omega)
   rw[e4]
   simp only[aD6]
   cases v4
   ·rfl
   have g:cy7 l []:=⟨hc,e4,h4 rfl,by simp,by simp⟩
   simp only[aX3,fh8]
   obtain⟨m,hm,hm120⟩:∃m:Nat,Int.tmod (j7 n) 121=(m:Int)/\m<=120:=by
    rw[j4 (by omega) (by omega),Int.tmod_eq_emod_of_nonneg hn.1]
    exact⟨(n%121).toNat,by omega,by omega⟩
   rw[hm,ei2 g hu hu0 hcalm m (by omega)]
   simp only[aD6]
   have hlen:(cY6 l [] u m).length=m:=by simp[cY6]
   have hrec:∀i,i<m->(cY6 l [] u m)[i]? =some (nxU l [] (sq l [] u i)).2.1:=fun i hi=>by
    unfold cY6
    rw[List.getElem?_map,List.getElem?_range hi]
    rfl
   rw[hlen,show(((0:Int) !=0)||((m:Int) !=(m:Int)))=false by simp]
   simp only[fh8]
   obtain⟨s,e9,_⟩:=af9 m (by omega) (fun i (v:Unit)=>(aH0 (cY6 l [] u m,0) i v).run) (fun _ _=>True) () trivial (fun i v hi _=>by
    obtain⟨a1,a2,a3,a4⟩:=ei1 g hu hu0 hcalm i (by omega)
    simp only[aH0,M.run,L1.m]
    rw[T3,hrec i hi]
    simp only[aD6,a1,a2,a3]
    rw[j4 (by omega) (by omega),fi2 (show¬(nxU l [] (sq l [] u i)).2.1.cI9<100 by omega)]
    simp only[cV7,bne_self_eq_false]
    exact⟨(),rfl,trivial⟩)
   rw[e9]
   rfl
  ·rcases h5 with h5|h5
   ·exact absurd h5 hx
   ·subst h5
    rfl
 ·rfl
end Go.Proofs.YtmhdghdbojdgfaaGreat.Ec
namespace Go.Proofs.YtmhdghdbojdgfaaGreat
open Go Go.Pv Go.Proofs
theorem cS1 (x0:o6)(x1:L0)(x2:o4)(x3:List L6)(x4:Int)(_:cg9 x0)(_:cV5 x1)(_:cg8 x2)(_:(wfL bX1) x3)(g4:(fun n=>(Lit.int .u8 n).wf=true) x4):(aD2 x0 x1 x2 x3 x4).m=some true:=by
 have h:0<=x4/\x4<=255:=by
  have m0:IntKind.u8.min=0:=by decide
  have m1:IntKind.u8.max=255:=by decide
  simp[Lit.wf,m0,m1]at g4
  omega
 exact Ec.ea4 x0 x1 x2 x3 x4 h
end Go.Proofs.YtmhdghdbojdgfaaGreat
namespace Go.Proofs.YtmhdghdbojdgfaaGreat.ecuQuiet
open Go Go.Pv Go.Proofs Go.ChangeShapes Go.WideShapes Go.ChangeAt Go.RowKit Go.Proofs.YtmhdghdbojdgfaaGreat
theorem own:ownKnob Tryz.prog.godebug=none:=by kernel_rfl
theorem laidOut:laidOutB Tryz.prog=true:=by kernel_rfl
set_option maxRecDepth 100000 in
theorem lifted (os:Os)(started:os.Started)(H:Type)(enc:TypeId×Value->H):
    ReturnsInHanded {} Tryz.checked os 3 .any (Rows.ecuQuietSpec.pre6 enc Tryz.prog Tryz.f3 Rows.ecuQuietRow.domain false) (Rows.ecuQuietSpec.post enc Tryz.prog Tryz.f3 false true false false):=by
  refine returnsInHanded_of_change (C:=Tryz.checked) own started (by kernel_rfl) Tryz.func3
    (ChangeSpec.witness6 (enc:=enc) (C:=Tryz.checked) false ⟨#[], #[.agg #[.slice none 0 0, .slice none 0 0, .slice none 0 0, .slice none 0 0, .slice none 0 0, .slice none 0 0, .slice none 0 0, .slice none 0 0, .slice none 0 0, .slice none 0 0, .slice none 0 0, .slice none 0 0, .slice none 0 0, .slice none 0 0, .slice none 0 0, .slice none 0 0, .slice none 0 0, .slice none 0 0, .slice none 0 0, .slice none 0 0, .int .i64 0, .int .i64 0, .int .i64 0, .int .i64 0], .agg #[.int .i64 0, .int .i64 0, .int .i64 0, .int .i64 0, .int .i64 0, .int .i64 0, .int .i64 0], .agg #[.slice none 0 0, .int .i64 0], .slice none 0 0, .int .u8 0],[]⟩ 16 (by kernel_rfl) (by kernel_rfl) (by kernel_rfl) (by kernel_rfl)) ?_
  intro W base args ds gs before hval0 hW hcnd _
  have dW7:∀(j:Nat) t v,Tryz.f3.params[j]? =some t->args[j]? =some v->Value.okWide Tryz.prog W .any base t v:=hval0
  have hW':=hW
  obtain⟨p,q,hA0,hV,rfl,hfz,hnd⟩:=hW
  have hA:DataW.TrodAll enc Tryz.prog W 0 (fun _=>true) true Tryz.f3.params.toList args.toList ds p:=hA0
  rw[Tryz.params3]at hA dW7
  obtain⟨v0,Y7,d0,ds0,p0,q0,dd2,rfl,rfl,h0,r0⟩:=trodAll_cons hA
  obtain⟨v1,vs1,d1,ds1,p1,q1,rfl,rfl,rfl,h1,r1⟩:=trodAll_cons r0
  obtain⟨v2,vs2,d2,ds2,p2,q2,rfl,rfl,rfl,h2,r2⟩:=trodAll_cons r1
  obtain⟨v3,vs3,d3,ds3,p3,q3,rfl,rfl,rfl,h3,r3⟩:=trodAll_cons r2
  obtain⟨v4,vs4,d4,ds4,p4,q4,rfl,rfl,rfl,h4,r4⟩:=trodAll_cons r3
  obtain⟨rfl,rfl,rfl⟩:=trodAll_nil r4
  obtain rfl:args= #[v0,v1,v2,v3,v4]:=by cases args;simp_all
  obtain⟨rfl,rfl⟩:=trodVars_none hV
  have k0:=h0
  have lt0:∀x∈p0,x.block<W.heap.size:=by obtain⟨m,hm⟩:=k0;exact DataW.trod_lt m _ _ _ hm
  obtain⟨x0,g0,a0⟩:=eL1 _ _ W _ _ _ _ (dW7 0 31 v0 rfl rfl) h0
  have k1:=h1
  have lt1:∀x∈p1,x.block<W.heap.size:=by obtain⟨m,hm⟩:=k1;exact DataW.trod_lt m _ _ _ hm
  obtain⟨x1,g1,a1⟩:=eL2 _ _ W _ _ _ _ (dW7 1 33 v1 rfl rfl) h1
  have k2:=h2
  have lt2:∀x∈p2,x.block<W.heap.size:=by obtain⟨m,hm⟩:=k2;exact DataW.trod_lt m _ _ _ hm
  obtain⟨x2,g2,a2⟩:=eL3 _ _ W _ _ _ _ (dW7 2 35 v2 rfl rfl) h2
  have k3:=h3
  have lt3:∀x∈p3,x.block<W.heap.size:=by obtain⟨m,hm⟩:=k3;exact DataW.trod_lt m _ _ _ hm
  obtain⟨x3,g3,a3⟩:=eL4 _ _ W _ _ _ _ (dW7 3 36 v3 rfl rfl) h3
  have k4:=h4
  have lt4:∀x∈p4,x.block<W.heap.size:=by obtain⟨m,hm⟩:=k4;exact DataW.trod_lt m _ _ _ hm
  obtain⟨x4,g4,a4⟩:=eV9 _ _ W _ _ _ _ (dW7 4 5 v4 rfl rfl) h4
  clear hA0 hval0
  refine(aQ3.calls ((aD2 x0 x1 x2 x3 x4).ok) (cS1 x0 x1 x2 x3 x4 g0 g1 g2 g3 g4) (bT3 (a0 _) (bT3 (a1 _) (bT3 (a2 _) (bT3 (a3 _) (bT3 (a4 _) eF5)))))).mono fun e W' ⟨he,bel⟩=>?_
  subst he
  exact⟨_,rfl,_,_,_,[],_,[],hW',trodAll_mk1 (shut_bool Tryz.underlying4 _),(trodAll_cons_mk (Below.trod laidOut (by kernel_rfl) (of_decide_eq_true (by kernel_rfl)) k0 bel lt0) (trodAll_cons_mk (Below.trod laidOut (by kernel_rfl) (of_decide_eq_true (by kernel_rfl)) k1 bel lt1) (trodAll_cons_mk (Below.trod laidOut (by kernel_rfl) (of_decide_eq_true (by kernel_rfl)) k2 bel lt2) (trodAll_cons_mk (Below.trod laidOut (by kernel_rfl) (of_decide_eq_true (by kernel_rfl)) k3 bel lt3) (trodAll_cons_mk (Below.trod laidOut (by kernel_rfl) (of_decide_eq_true (by kernel_rfl)) k4 bel lt4) trodAll_mk0))))),rfl,bel.frame _,fun h=>by cases h⟩
end Go.Proofs.YtmhdghdbojdgfaaGreat.ecuQuiet
namespace Go.Proofs.YtmhdghdbojdgfaaGreat
theorem ecuQuiet.inPlace:Tryz.prog.inPlace 3=Rows.ecuQuietRow.inPlace:=by kernel_rfl
theorem ecuQuiet.unfollowed:Tryz.prog.unfollowed 3=Rows.ecuQuietRow.unfollowed:=by kernel_rfl
theorem ecuQuiet.recurses:Tryz.prog.recurses 3=Rows.ecuQuietRow.recurses:=by kernel_rfl
theorem ecuQuiet.named:Tryz.prog.varsNamed 3=Rows.ecuQuietRow.named:=by kernel_rfl
theorem ecuQuiet.eO9:joinedFacts Tryz.prog 3 Tryz.f3 Rows.ecuQuietSpec Rows.ecuQuietRow=true:=by
  unfold joinedFacts
  rw[ecuQuiet.inPlace,ecuQuiet.unfollowed,ecuQuiet.recurses,ecuQuiet.named,ecuQuiet.laidOut]
  kernel_rfl
theorem ecuQuiet_holds:Rows.EcuQuietSaid:=
  OpenClaim.holds_of_wide 3 Tryz.f3 rfl rfl rfl rfl rfl rfl rfl ⟨rfl,rfl,rfl,rfl,rfl⟩ rfl rfl rfl rfl rfl (by kernel_rfl) Tryz.func3 ecuQuiet.eO9
    (of_decide_eq_true (by kernel_rfl)) (by unfold Func.isWrapper;first|(rw[if_pos (by decide+kernel)];kernel_rfl)|(rw[if_neg (by decide+kernel)];exact⟨rfl,rfl⟩))
    (fun os started H enc _=>ecuQuiet.lifted os started H enc)
#print axioms ecuQuiet_holds
end Go.Proofs.YtmhdghdbojdgfaaGreat

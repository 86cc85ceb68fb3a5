/- Proved: EcuSwitches, called with any arguments that its row admits, returns true, and every argument reads behind the call as it read before. Conditions: none beyond the row's own. Printed by law.py. This file joins: Plain Lean: runs of the unit join its steps. Plain Lean: runs without breaks are quiet. Plain Lean: a new unit is calm, and stays so in runs without breaks. Plain Lean: what a scheduler's going on does to each channel. Plain Lean: what Cut makes, with what it switches. Plain Lean: what a scheduler has switched since a time: in order, each a change of its channel's level, and few. Plain Lean: the edges of a step, with where they stand. Plain Lean: the crank turns, with what is switched. Plain Lean: a step, exactly, whatever sensors are broken. Plain Lean: EcuSwitches: the switches of each channel lie in their steps, and change its level. Plain Lean: EcuSwitches answers true whatever its arguments: the switches of each channel lie in their steps, and change its level. -/
import Derived.Test.YtmhdghdbojdgfaaGreatEcuSwitchesF
import Derived.KernelRfl
import Derived.Test.YtmhdghdbojdgfaaGreatRows
set_option linter.unusedSimpArgs false
set_option linter.unusedVariables false
set_option maxRecDepth 100000
noncomputable section
open Bool renaming and_eq_true->aJ5,not_eq_true'->bO4,not_false->cI0,not_true->aP9,or_eq_false_iff->bZ2,or_eq_true->cG1
open Int renaming tdiv_eq_ediv_of_nonneg->cr3,tmod_eq_emod_of_nonneg->dp1
open List renaming all_eq_true->bN8,append_assoc->dd3,append_nil->cV6,filter_append->cV9,filter_cons->dC9,filter_nil->ez7,getElem?_eq_getElem->aK2,getElem?_eq_some_iff->bt7,getElem?_map->cG5,getElem?_set_ne->eX0,getElem?_set_self->eR0,getElem_mem->ba6,getElem_set_self->dC7,length_append->aY1,length_cons->bq0,length_map->cr4,length_nil->cr1,length_set->dI2,map_append->eC3,mem_append->cI5,mem_cons_of_mem->bF8,mem_cons_self->bx8,mem_of_getElem?->cY9,nil_append->cL8,pairwise_append->ey9,pairwise_cons->ee3,pairwise_iff_forall_sublist->fi2,replicate->cr2,take_length->ee6
open Nat renaming le_refl->cq9
open Option renaming bind_some->aH3
open Option.some renaming inj->cp9
namespace Go.Proofs.YtmhdghdbojdgfaaGreat.Ec
open Go Go.Pv Go.Pv.Ec Go.Proofs
def nxU (l:List N1)(k:List ah5)(u:af3):af3×ae8×Int:=((bt8 l u.Time).m.bind fun r=>(bm6 u r.1 k).m).getD ⟨u,⟨0,0,0,0,[],[],false⟩,0⟩
def sq (l:List N1)(k:List ah5)(u:af3):Nat->af3
 |0=>u
 |i+1=>(nxU l k (sq l k u i)).1
structure dp6 (l:List N1)(k:List ah5):Prop where
 cf:Fr.Cfs cf0
 val:(aA2 l).m=some true
 dr:ez6 l
 few:k.length<=100
 brk:∀x∈k,eZ3 x
def cY5 (l:List N1)(k:List ah5)(u:af3)(n:Nat):List ae8:=(List.range n).map fun i=>(nxU l k (sq l k u i)).2.1
theorem aw:(aM3).m=some true:=(aM3).le 1000 _ (by kernel_rfl)
theorem dU7 (l:List (List Int))(hl:l.length<=1000000)(f:Cl Tryz.prog (List Int) Bool (fun x=>[.t (tS Pv.encI x)]) (fun r=>.t (tB r)))(p:List Int->Bool)(h:∀x∈l,f.f x=some (p x)):(G0 l f).m=some (l.any p):=by
 simp only[G0,V5,Z7,C.of,M.run,L1.m,Cl.at]
 refine Eq.trans ?_ (bJ3 l (by omega) f.f p h)
 kernel_rfl
theorem eC6 (t:o8):∃b,(bi9 t).m=some b:=by
 simp only[bi9,C.of,M.run]
 rcases bK5 [t.Air,t.O0,t.p7,t.aI4] (by simp) (fun i x (u:Unit)=>(aW9 i x u).run) (fun _ _=>True) (fun _=>True) () trivial (fun k x u hx _=>by
  simp only[aW9,M.run]
  cases hc:(((decide ((x.X.length:Int)>40))||(decide ((x.Y.length:Int)>40)))||(decide ((x.Z.length:Int)>40)))
  ·simp only[bZ2,fk7]at hc
   simp only[fj6]
   rw[dU7 x.Z (by omega) (.of (fun z_=>bu8 z_) 22 []) _ (fun y _=>rfl)]
   simp only[aH3]
   generalize(x.Z.any _)=c
   cases c
   ·exact .inl ⟨_,rfl,trivial⟩
   ·exact .inr ⟨_,rfl,trivial⟩
  ·exact .inr ⟨_,rfl,trivial⟩)with⟨u,e,_⟩|⟨r,e,_⟩
 ·rw[e]
  simp only[aH3]
  rcases bK5 [t.L7,t.ae7,t.aw2,t.C3] (by simp) (fun i x (u:Unit)=>(aX0 i x u).run) (fun _ _=>True) (fun _=>True) () trivial (fun k x u hx _=>by
   simp only[aX0,M.run]
   cases hc:((decide ((x.X.length:Int)>40))||(decide ((x.Y.length:Int)>40)))
   ·exact .inl ⟨_,rfl,trivial⟩
   ·exact .inr ⟨_,rfl,trivial⟩)with⟨u,e,_⟩|⟨r,e,_⟩
  ·rw[e];exact⟨_,rfl⟩
  ·rw[e];exact⟨_,rfl⟩
 ·rw[e];exact⟨_,rfl⟩
abbrev ee7 (u:af3)(k:List ah5)(Q:ac8->Prop):Prop:=∀s:j9,SOk s->s.u.K3=u.K3->s.k=k->s.t=u.Time->∃q,(aF3 s).m=some {s with u:={s.u with K3:=q}}/\qzB q=true/\q.ar9<=s.t/\Q q
theorem fd2 {l:List N1}{k:List ah5}(g:dp6 l k){u:af3}(h:UOk u)(n:Nat)(hn:n<=1000)(hs:∀i,i<n->∃d,(bt8 l (sq l k u i).Time).m=some (d,0)/\(bm6 (sq l k u i) d k).m=some (nxU l k (sq l k u i))/\(nxU l k (sq l k u i)).2.2=0):(cG7 u l k (n:Int)).m=some (cY5 l k u n,0):=by
 simp only[cG7,C.of,M.run,dh4 g.cf h,cL7 g.few g.brk,g.val,aH3,aP9,fj6]
 rw[fk3 (show¬(n:Int)<0 by omega),fk3 (show¬(n:Int)>1000 by omega)]
 simp only[Bool.or_self,fj6]
 obtain⟨s,e,h1,h2⟩:=ai6 n (by omega) (fun i (s:List ae8×af3)=>(ce1 l k i s).run) (fun i s=>s.1=cY5 l k u i/\s.2=sq l k u i) ([],u) ⟨rfl,rfl⟩ (fun i s hi ⟨q1,q2⟩=>by
  obtain⟨o,v⟩:=s
  simp only at q1 q2
  subst q1;subst q2
  obtain⟨d,e1,e2,e3⟩:=hs i hi
  simp only[ce1,M.run,U1.m,e1,e2,e3,aH3]
  rw[show((0:Int) !=0)=false from rfl,H7 _ _ (by simp only[cY5,cr4,List.length_range,List.length_singleton];omega)]
  refine⟨_,rfl,?_,rfl⟩
  simp only[cY5,List.range_succ,eC3,List.map_cons,List.map_nil])
 rw[e]
 show some (s.1,(0:Int))=_
 rw[h1]
structure Calm (u:af3):Prop where
 guard:u.M1.Off=false
 off:u.K3.Off=false
 err:u.K3.T3=0
 op:u.K3.Open=true->u.K3.ar9+10000=u.Time
 flt:∀x∈u.I0.L,Fr.fqP x
theorem fi6:G7 ((0:Int)-1) 0=0:=rfl
theorem ej2 {u:af3}{k:List ah5}(h:UOk u)(hc:Calm u)(hk:∀s:j9,SOk s->s.k=k->s.t=u.Time->(aa9 s 6).m=some (0,false)):
  ee7 u k (fun q=>q.Off=false/\q.T3=0/\q.Open=true/\q.ar9=u.Time):=by
 intro s hs hq hsk hst
 have hz:qzB s.u.K3=true:=by rw[hq];exact h.qz.1
 cases ho:s.u.K3.Open
 ·obtain⟨q,e,a1,a2,a3,a4,a5⟩:=dV3 hs hz ho (by rw[hq];exact hc.off)
  exact⟨q,e,a1,by omega,a3,by rw[a2,hq];exact hc.err,a4,a5.trans hst⟩
 ·obtain⟨q,e,a1,a2,a3,a4,a5,a6⟩:=dV2 hs hz ho (by rw[hq,hst];exact hc.op (by rw[<-hq];exact ho)) (hk s hs hsk hst) (fun h=>by cases h)
  rw[if_neg (by simp),hq,hc.err,fi6]at a2
  have cX7:q.Off=false:=by rw[a3,a2];rfl
  exact⟨q,e,a1,a6,cX7,a2,(a4 cX7).1,(a4 cX7).2.trans hst⟩
theorem dr7 {cyc:Int}{f g:B7}{c:Int}{t:Nat->Bool}(hc:Fr.Cfs cf0)(hi:Fr.Inv cf0 f c true t)(hq:∀x∈f.L,Fr.fqP x)(ht:bG3 cf0 cyc (bl (false,false,false,false,false,false,false)) f g 7):∀x∈g.L,Fr.fqP x:=by
 intro x hx
 obtain⟨j,hj,rfl⟩:=List.mem_iff_getElem.1 hx
 have hl:=ht.len;have hl2:=hi.len;have h7:=by6
 have hj7:j<7:=by omega
 obtain⟨fr,e⟩:=ht.done j hj7 hj (by omega) (by omega) (by simp only[bq0,cr1];omega)
 rw[e]
 have hv:(bl (false,false,false,false,false,false,false))[j]'(by simp only[bq0,cr1];omega)=false:=by
  have:∀(l:List Bool) (h:j<l.length),(∀b∈l,b=false)->l[j]=false:=fun l h hb=>hb _ (ba6 h)
  exact this _ _ (by simp)
 rw[hv]
 obtain⟨b1,b2,b4,b16,hb⟩:=hi.rt j (by omega) (by omega)
 exact Fr.dK1 (hc.ok (by omega)) (hq _ (ba6 _)) hb.count.1
def F0:B7:=(((aB6 cf0).e 200).getD (⟨[],[],0,false⟩,0)).1
def F1:B7:=(((aw8 F0).e 200).getD (⟨[],[],0,false⟩,0)).1
theorem fi8:(aB6 cf0).m=some (F0,0):=(aB6 cf0).le 200 _ (by kernel_rfl)
theorem eO0:(aw8 F0).m=some (F1,0):=(aw8 F0).le 200 _ (by kernel_rfl)
theorem eM9:(F1.L.all fun x=>(x.G5==0)&&decide (x.E5<=0))=true:=by kernel_rfl
theorem ef2:∀x∈F1.L,Fr.fqP x:=fun x hx=>by
 have:=bN8.1 eM9 x hx
 simp only[aJ5,beq_iff_eq,fk4]at this
 exact⟨.inl this.1,this.2⟩
theorem fc2 (t:o8)(b:L4)(e:o6):∃u f,(bW4 t b e cf0).m=some (u,f)/\(f=0\/f=1)/\(f=0->Fr.Cfs cf0/\UOk u/\u.Time=0/\Calm u/\u.K3.Open=false/\u.j3=Sc.bE5 e):=by
 obtain⟨p,pe,e3,h3⟩:=eT6 b
 have e5:(ab9 t).m=some (cd8 t):=by rw[bh6,bi2]
 have bad:∀{c:Bool}{x:Option (af3×Int)}{z:af3},c=true->∃u f,(bif c then some (z,1)else x)=some (u,f)/\(f=0\/f=1)/\(f=0->Fr.Cfs cf0/\UOk u/\u.Time=0/\Calm u/\u.K3.Open=false/\u.j3=Sc.bE5 e):=by
  intro c x z h
  rw[h]
  exact⟨_,_,rfl,.inr rfl,fun h=>by cases h⟩
 by_cases he:Ev.aB5 e
 ·have e1:(aA0 e).m=some (eF2 e.u6.length,0):=by rw[bP1,bR3,fk0 he];rfl
  have e2:(ao9 e).m=some (Sc.bE5 e,0):=by rw[bC8,Sc.dS6,fk0 he];rfl
  rcases Fr.dm2 (l:=cf0) (by rw[by6];omega)with⟨x,e4,hx⟩|⟨hc,f,e4,hi⟩
  ·simp only[bW4,C.of,M.run,e1,e2,e3,e5,bq3,e4,aH3]
   exact bad (by rw[enz hx];simp)
  ·simp only[bW4,C.of,M.run,e1,e2,e3,e5,bq3,e4,aH3]
   by_cases hp:pe=0
   ·subst hp
    have pk:=h3 rfl
    cases ht:cd8 t
    ·exact bad (by simp)
    ·rw[show((((((!true)||((0:Int) !=0))||((0:Int) !=0))||((0:Int) !=0))||((0:Int) !=0))||(decide ((cf0.length:Int)<7)))=false by rw[by6];rfl]
     simp only[fj6]
     obtain⟨f',e6,hi'⟩:=Fr.ei4 hc hi (by omega) (by omega)
     have ef:f=F0:=by
      have:=fi8
      rw[bq3,e4]at this
      exact(Prod.mk.inj (cp9 this)).1
     have ef':f'=F1:=by
      have:=eO0
      rw[bP4,<-ef,e6]at this
      exact(Prod.mk.inj (cp9 this)).1
     simp only[bP4,e6,fc9,fe9,er6,tf0,eU7,aH3]
     refine⟨_,_,rfl,.inl rfl,fun _=>⟨hc,⟨ht,pk,Sc.dm2 he,by simp[Sc.bE5],rfl,eq5 he,⟨rfl,by simp⟩,⟨eV1,by simp⟩,eT4,rfl,⟨rfl,by simp⟩,⟨rfl,by simp⟩,⟨_,_,by omega,hi'⟩,by simp,by simp⟩,rfl,⟨rfl,rfl,rfl,fun h=>(by cases h),(show∀x∈f'.L,Fr.fqP x by rw[ef'];exact ef2)⟩,rfl,rfl⟩⟩
   ·exact bad (by rw[enz hp];simp)
 ·have e1:(aA0 e).m=some (eM4,1):=by rw[bP1,bR3,fk3 he];rfl
  have e2:(ao9 e).m=some (Sc.cq8,1):=by rw[bC8,Sc.dS6,fk3 he];rfl
  obtain⟨x,f,e4⟩:∃x f,Pv.aB6 cf0=some (x,f):=by
   rcases Fr.dm2 (l:=cf0) (by rw[by6];omega)with⟨x,e4,hx⟩|⟨hc,f,e4,hi⟩
   ·exact⟨_,_,e4⟩
   ·exact⟨_,_,e4⟩
  simp only[bW4,C.of,M.run,e1,e2,e3,e5,bq3,e4,aH3]
  exact bad (by simp)
theorem fc4 {u:af3}:∀s:j9,SOk s->s.k=([]:List ah5)->s.t=u.Time->(aa9 s 6).m=some (0,false):=fun s hs hk _=>bR1 hs (by rw[hk];simp)
end Go.Proofs.YtmhdghdbojdgfaaGreat.Ec
namespace Go.Pv.Sc
open Go Go.Pv Go.Pv.Ev
def fl (l:List A3):List Bool:=l.map fun j=>onK j.Event.Kind
def swc (out:List j8)(c:Int):List Bool:=(out.filter fun w=>w.Channel==c).map fun w=>w.E3
theorem ch0 (a b:List j8)(c:Int):swc (a++b) c=swc a c++swc b c:=by unfold swc;rw[cV9,eC3]
def st (j:A3):B6×Int:=(j.Event,j.Left)
theorem fa8 {a b:List A3}(h:a.map st=b.map st):fl a=fl b:=by
 have:∀l:List A3,fl l=(l.map st).map fun x=>onK x.1.Kind:=fun l=>by unfold fl;rw[List.map_map];rfl
 rw[this,this,h]
theorem eE9 {a b:List A3}(c:Int)(h:a.map st=b.map st):(ae0 a c).map st=(ae0 b c).map st:=by
 have:∀l:List A3,(ae0 l c).map st=(l.map st).filter fun x=>chn x.1==c:=fun l=>by unfold ae0;rw[List.filter_map];rfl
 rw[this,this,h]
theorem eA5 (now:Int)(k:D3)(c:Nat)(u:List j7×List A3):(cC8 now k c u).2.map st=u.2.map st:=by
 unfold cC8
 cases hs:split (c:Int) u.2 with
 |none=>rfl
 |some t=>
  obtain⟨a,j,b⟩:=t
  simp only
  split
  ·rfl
  ·cases u.1[c]?with
   |none=>rfl
   |some x=>
    have:=(bb9 hs).1
    simp only
    rw[this]
    simp[st]
theorem dN2 (now:Int)(k:D3)(u:List j7×List A3):∀m,(bH0 now k m u).2.map st=u.2.map st
 |0=>rfl
 |m+1=>by rw[bH0,eA5,dN2 now k u m]
theorem dN3 (s:c8):(bq1 s).D1.map st=s.D1.map st:=by
 unfold bq1
 split
 ·rfl
 ·exact dN2 _ _ _ _
theorem eh2 (now:Int)(k:D3)(c:Nat)(u:List j7×List A3):(cC8 now k c u).1.map (fun x=>x.E3)=u.1.map (fun x=>x.E3):=by
 unfold cC8
 cases split (c:Int) u.2 with
 |none=>rfl
 |some t=>
  simp only
  split
  ·rfl
  ·cases hx:u.1[c]?with
   |none=>rfl
   |some x=>
    simp only
    rw[List.map_set]
    apply List.ext_getElem?
    intro i
    rw[List.getElem?_set]
    split
    ·rename_i hi
     subst hi
     rw[cG5,hx]
     obtain⟨hl,_⟩:=bt7.1 hx
     simp[hl]
    ·rfl
theorem dg7 (t:Int):∀(l:List j7) (i:Nat) (c:Int),c<(i:Int)->((Tm.bn9 t i l).filter fun w=>w.Channel==c)=[]
 |[],_,_,_=>rfl
 |x::l,i,c,h=>by
  simp only[Tm.bn9,cV9]
  rw[dg7 t l (i+1) c (by omega),cV6]
  unfold Tm.swC
  cases Tm.due t x&& !(x.Next==x.E3)
  ·rfl
  ·simp;omega
theorem dT1 (t:Int):∀(l:List j7) (i c:Nat) (h:c<l.length),((Tm.bn9 t i l).filter fun w=>w.Channel==((i+c:Nat):Int))=Tm.swC t (i+c) l[c]
 |x::l,i,0,_=>by
  simp only[Tm.bn9,cV9,List.getElem_cons_zero,Nat.add_zero]
  rw[dg7 t l (i+1) (i:Int) (by omega),cV6]
  unfold Tm.swC
  cases Tm.due t x&& !(x.Next==x.E3)
  ·rfl
  ·simp
 |x::l,i,c+1,h=>by
  simp only[Tm.bn9,cV9,List.getElem_cons_succ]
  have:=dT1 t l (i+1) c (by simpa using h)
  rw[show i+1+c=i+(c+1) by omega]at this
  rw[this]
  have e:((Tm.swC t i x).filter fun w=>w.Channel==((i+(c+1):Nat):Int))=[]:=by
   unfold Tm.swC
   cases Tm.due t x&& !(x.Next==x.E3)
   ·rfl
   ·simp;omega
  rw[e];rfl
theorem dJ3 {α:Type}{a b:List α}(h:a.Perm b)(hb:b.length<=1):a=b:=by
 match b,hb with
 |[],_=>exact h.eq_nil
 |[x],_=>exact List.perm_singleton.1 h
theorem eA0 (t:Int)(l:List j7)(c:Nat)(h:c<l.length):((Tm.bM8 t l).filter fun w=>w.Channel==(c:Int))=Tm.swC t c l[c]:=by
 have h1:=(Tm.cr9 t l).filter fun w=>w.Channel==(c:Int)
 have h2:=dT1 t l 0 c h
 rw[Nat.zero_add]at h2
 rw[h2]at h1
 exact dJ3 h1 (Tm.dS9 t c l[c])
theorem et9 {q:List A3}{x:j7}{t:Int}(c:Nat)(h:aE4 q x=true)(cf2:x.D9=true->t<=x.At):
  (Tm.swC t c x).map (fun w=>w.E3)++fl (q.filter fun j=>!bb2 t j)=fl q/\(∀w∈Tm.swC t c x,w.At=t/\w.Channel=(c:Int))/\
   (x.D9=true->x.At=t->∃j r,q=j::r/\(q.filter fun j=>!bb2 t j)=r/\Tm.swC t c x=[⟨t,(c:Int),onK j.Event.Kind⟩])/\(¬(x.D9=true/\x.At=t)->(q.filter fun j=>!bb2 t j)=q/\Tm.swC t c x=[]):=by
 cases q with
 |nil=>
  simp only[aE4,aJ5,bO4]at h
  have hs:Tm.swC t c x=[]:=by unfold Tm.swC Tm.due;rw[h.2];rfl
  rw[hs]
  exact⟨rfl,by simp,fun h2=>absurd (h.2.symm.trans h2) (by decide),fun _=>⟨rfl,rfl⟩⟩
 |cons j r=>
  simp only[aE4,aJ5,bO4,cG1,beq_iff_eq]at h
  obtain⟨⟨⟨h1,h2⟩,h3⟩,h4⟩:=h
  have hr:=bR8 t (bO8 h4)
  have hon:onK j.Event.Kind= !x.E3:=by cases ho:onK j.Event.Kind<;>cases hl:x.E3<;>simp_all
  by_cases ha:x.D9=true/\x.At=t
  ·have hj:j.D9=true:=by rw[h2];exact ha.1
   have h3':j.At=x.At/\x.Next= !x.E3:=by
    rcases h3 with h3|h3
    ·rw[hj]at h3;cases h3
    ·exact h3
   have hd:bb2 t j=true:=by unfold bb2;rw[hj,h3'.1,ha.2];simp
   have hdx:Tm.due t x=true:=by unfold Tm.due;rw[ha.1,ha.2];simp
   have hs:Tm.swC t c x=[⟨t,(c:Int),onK j.Event.Kind⟩]:=by
    unfold Tm.swC
    have:(x.Next==x.E3)=false:=by rw[h3'.2];cases x.E3<;>rfl
    rw[hdx,this,ha.2,h3'.2,hon]
    rfl
   have hq:((j::r).filter fun j=>!bb2 t j)=r:=by rw[dC9,hd];simpa using hr
   rw[hs,hq]
   refine⟨rfl,fun w hw=>?_,fun _ _=>⟨j,r,rfl,rfl,rfl⟩,fun h=>absurd ha h⟩
   simp only[List.mem_cons,List.not_mem_nil,or_false]at hw
   subst hw;exact⟨rfl,rfl⟩
  ·have hdx:Tm.due t x=false:=by
    unfold Tm.due
    cases hxa:x.D9
    ·rfl
    ·have:=cf2 hxa
     have:¬x.At=t:=fun e=>ha ⟨hxa,e⟩
     simp;omega
   have hd:bb2 t j=false:=by
    unfold bb2
    cases hja:j.D9
    ·rfl
    ·have hxa:x.D9=true:=by rw[<-h2];exact hja
     have h3':j.At=x.At/\x.Next= !x.E3:=by
      rcases h3 with h3|h3
      ·rw[hja]at h3;cases h3
      ·exact h3
     have:¬x.At=t:=fun e=>ha ⟨hxa,e⟩
     rw[h3'.1];simpa using this
   have hs:Tm.swC t c x=[]:=by unfold Tm.swC;rw[hdx];rfl
   have hq:((j::r).filter fun j=>!bb2 t j)=j::r:=by
    rw[dC9,hd]
    simp only[cI0,if_true]
    rw[hr]
   rw[hs,hq]
   exact⟨rfl,by simp,fun a b=>absurd ⟨a,b⟩ ha,fun _=>⟨rfl,rfl⟩⟩
theorem ec9 (t:Int)(s:c8)(c:Int):(ae0 (stepG t s).D1 c).map st=((ae0 s.D1 c).filter fun j=>!bb2 t j).map st:=by
 unfold stepG
 rw[eE9 c (dN3 _)]
 show(ae0 (s.D1.filter fun j=>!bb2 t j) c).map st=_
 rw[bS9]
theorem dL2 {n:Nat}{s:c8}(h:Live n s)(hn:(Tm.nxV s.j4.j1).2=true)(c:Nat)(hc:c<s.j4.j1.length):
  swc (Tm.bM8 (Tm.nxV s.j4.j1).1 s.j4.j1) (c:Int)++fl (ae0 (stepG (Tm.nxV s.j4.j1).1 s).D1 (c:Int))=fl (ae0 s.D1 (c:Int)):=by
 obtain⟨_,_,h3⟩:=cQ8 h hn
 have aM1:=h.rows.row c hc
 simp only at aM1
 have:=(et9 c aM1 (h3 _ (ba6 hc))).1
 rw[fa8 (ec9 _ s (c:Int))]
 unfold swc
 rw[eA0 _ _ c hc]
 exact this
structure Sw (m:Nat)(lo hi:Int)(out:List j8):Prop where
 asc:out.Pairwise fun a b=>a.At<=b.At
 ran:∀w∈out,lo<w.At/\w.At<=hi
 ch:∀w∈out,0<=w.Channel/\w.Channel<(m:Int)
theorem Sw.nil (m:Nat)(lo hi:Int):Sw m lo hi []:=⟨.nil,by simp,by simp⟩
theorem Sw.append {m:Nat}{a b c:Int}{x y:List j8}(h:Sw m a b x)(k:Sw m b c y)(hab:a<=b)(hbc:b<=c):Sw m a c (x++y):=by
 refine⟨ey9.2 ⟨h.asc,k.asc,fun v hv w hw=>?_⟩,fun w hw=>?_,fun w hw=>?_⟩
 ·have:=h.ran v hv;have:=k.ran w hw;omega
 ·rcases cI5.1 hw with hw|hw
  ·have:=h.ran w hw;omega
  ·have:=k.ran w hw;omega
 ·rcases cI5.1 hw with hw|hw
  ·exact h.ch w hw
  ·exact k.ch w hw
theorem Sw.wide {m:Nat}{a b c:Int}{x:List j8}(h:Sw m a b x)(hbc:b<=c):Sw m a c x:=⟨h.asc,fun w hw=>by have:=h.ran w hw;omega,h.ch⟩
theorem eI0 {n:Nat}{s:c8}(h:Live n s)(hn:(Tm.nxV s.j4.j1).2=true):Sw s.j4.j1.length s.j4.Q7 (Tm.nxV s.j4.j1).1 (Tm.bM8 (Tm.nxV s.j4.j1).1 s.j4.j1):=by
 obtain⟨h1,_,h3⟩:=cQ8 h hn
 have hat:∀w∈Tm.bM8 (Tm.nxV s.j4.j1).1 s.j4.j1,w.At=(Tm.nxV s.j4.j1).1/\0<=w.Channel/\w.Channel<(s.j4.j1.length:Int):=by
  intro w hw
  obtain⟨j,c,e1,e2,_,e4⟩:=Tm.ep9.1 hw
  obtain⟨hj,rfl⟩:=bt7.1 e1
  have hd:=e2
  unfold Tm.due at hd
  simp only[bO4,bZ2,Bool.not_eq_false',fk7]at hd
  have:=h3 _ (ba6 hj) hd.1
  rw[e4]
  simp only
  exact⟨by omega,by omega,by omega⟩
 refine⟨?_,fun w hw=>by have:=hat w hw;omega,fun w hw=>(hat w hw).2⟩
 rw[fi2]
 intro a b hab
 have ha:=hat a (hab.subset (by simp))
 have hb:=hat b (hab.subset (by simp))
 omega
theorem dd2 (to:Int){n:Nat}:∀(f:Nat) (s:c8),Live n s->s.j4.Q7<=to->
  ∃out,(∀o,(goV to f (o,s)).1=o++out)/\(∀o,(goV to f (o,s)).2=(goV to f ([],s)).2)/\Sw (2*n) s.j4.Q7 (goV to f ([],s)).2.j4.Q7 out/\s.j4.Q7<=(goV to f ([],s)).2.j4.Q7/\
   ∀c:Nat,c<2*n->swc out (c:Int)++fl (ae0 (goV to f ([],s)).2.D1 (c:Int))=fl (ae0 s.D1 (c:Int))
 |0,s,h,ht=>⟨[],fun o=>by simp[goV],fun o=>rfl,Sw.nil _ _ _,Int.le_refl _,fun c _=>rfl⟩
 |f+1,s,h,ht=>by
  by_cases hy:(Tm.nxV s.j4.j1).2=true/\(Tm.nxV s.j4.j1).1<=to
  ·have eg:∀o,goV to (f+1) (o,s)=goV to f (o++Tm.bM8 (Tm.nxV s.j4.j1).1 s.j4.j1,stepG (Tm.nxV s.j4.j1).1 s):=fun o=>by
    show(if _ then _ else _)=_
    rw[if_pos hy]
   obtain⟨out,i1,i2,i3,i4,i5⟩:=dd2 to f _ (dg4 h hy.1) (by rw[cU1];exact hy.2)
   obtain⟨h1,_,_⟩:=cQ8 h hy.1
   have hlen:=h.len
   have e2:∀o,(goV to (f+1) (o,s)).2=(goV to f ([],stepG (Tm.nxV s.j4.j1).1 s)).2:=fun o=>by rw[eg,i2]
   rw[cU1]at i3 i4
   refine⟨Tm.bM8 (Tm.nxV s.j4.j1).1 s.j4.j1++out,fun o=>by rw[eg,i1,dd3],fun o=>by rw[e2,e2],?_,?_,fun c hc=>?_⟩
   ·rw[e2]
    have:=eI0 h hy.1
    rw[hlen]at this
    exact this.append i3 (by omega) i4
   ·rw[e2];omega
   ·rw[e2,ch0,dd3,i5 c hc]
    exact dL2 h hy.1 c (by omega)
  ·have eg:∀o,goV to (f+1) (o,s)=(o,s):=fun o=>by
    show(if _ then _ else _)=_
    rw[if_neg hy]
   refine⟨[],fun o=>by rw[eg];simp,fun o=>by rw[eg,eg],by rw[eg];exact Sw.nil _ _ _,by rw[eg];exact Int.le_refl _,fun c _=>by rw[eg];rfl⟩
theorem dX1 {n:Nat}{s:c8}(h:Live n s)(to:Int)(h1:s.j4.Q7<=to):
  Sw (2*n) s.j4.Q7 to (goE to s).1/\∀c:Nat,c<2*n->swc (goE to s).1 (c:Int)++fl (ae0 (goE to s).2.D1 (c:Int))=fl (ae0 s.D1 (c:Int)):=by
 obtain⟨out,i1,i2,i3,i4,i5⟩:=dd2 to s.D1.length s h h1
 have hm:=h.most
 obtain⟨_,_,_,_,r5,_⟩:=dH4 to s.D1.length s [] h (cq9 _) (by simp;omega) h1
 have e:=i1 []
 rw[cL8]at e
 unfold goE
 rw[e]
 exact⟨i3.wide r5,i5⟩
end Go.Pv.Sc
namespace Go.Pv.Sc.Sx
open Go Go.Pv Go.Pv.Ev Go.Pv.Sc
structure dD4 (s:c8)(n i:Nat)(u:List j8×w9×List A3):Prop where
 now:u.2.1.Q7=s.j4.Q7
 len:u.2.1.j1.length=2*n
 few:u.1.length<=i/\u.2.2.length<=i
 rest:∀c,i<=c->u.2.1.j1[c]? =s.j4.j1[c]?
 ch:∀x∈u.2.1.j1,Tm.chB s.j4.Q7 x=true
 job:∀j∈u.2.2,aN5 n j/\chn j.Event<(i:Int)
 row:∀c x,c<i->u.2.1.j1[c]? =some x->aE4 (ae0 u.2.2 (c:Int)) x=true/\bA4 s.j4.Q7 (ae0 u.2.2 (c:Int))=true
 sw:∀w∈u.1,w.At=s.j4.Q7/\0<=w.Channel/\w.Channel<(i:Int)
 lev:∀(c:Nat) (x0 x:j7),c<i->s.j4.j1[c]? =some x0->u.2.1.j1[c]? =some x->((u.1.filter fun w=>w.Channel==(c:Int))=[]/\x.E3=x0.E3)\/((u.1.filter fun w=>w.Channel==(c:Int))=[⟨s.j4.Q7,(c:Int),false⟩]/\x0.E3=true/\x.E3=false)
 cnt:u.1.length+u.2.2.length<=((s.j4.j1.take i).filter fun x=>x.E3).length
def fi0 (now:Int)(i:Nat)(x0:j7)(out:List j8)(y:j7)(more:List A3):Prop:=(out=[]/\y.E3=x0.E3/\(x0.E3=false->more=[]))\/(out=[⟨now,(i:Int),false⟩]/\x0.E3=true/\y.E3=false/\more=[])
theorem dj8 (now:Int)(l:Bool):Tm.chB now ⟨false,0,false,l⟩=true:=by
 unfold Tm.chB;rfl
theorem dB8 {s:c8}{n i:Nat}{u:List j8×w9×List A3}(hs:Live n s)(h:dD4 s n i u):Tm.ad6 u.2.1=true:=by
 have h1:=hs.n1;have h2:=hs.n8;have h3:=hs.cF3;have h4:=hs.dm5
 have hl:=h.len
 have hn:=h.now
 have:=cI1 (n:=n) (now:=s.j4.Q7) (u:=(u.2.1.j1,([]:List A3)))
 unfold Tm.ad6
 rw[aJ5,bN8]
 have ht:=hs.tim
 unfold Tm.ad6 at ht
 rw[aJ5]at ht
 refine⟨?_,fun x hx=>by rw[hn];exact h.ch x hx⟩
 have e:Tm.bf5 u.2.1=Tm.bf5 s.j4:=by
  unfold Tm.bf5
  rw[hn,hl,<-hs.len]
 rw[e];exact ht.1
theorem do0 {s:c8}{n i:Nat}{u:List j8×w9×List A3}(h:dD4 s n i u)(hi:i<2*n)(out:List j8)(y:j7)(more:List A3)
  (ho1:out.length<=1) (hm1:more.length<=1) (hy:Tm.chB s.j4.Q7 y=true) (hj:∀j∈more,aN5 n j/\chn j.Event=(i:Int)) (hr:aE4 more y=true/\bA4 s.j4.Q7 more=true) {x0:j7} (hx0:s.j4.j1[i]? =some x0) (hp:fi0 s.j4.Q7 i x0 out y more):
  dD4 s n (i+1) (u.1++out,⟨s.j4.Q7,u.2.1.j1.set i y⟩,u.2.2++more):=by
 have hf:=h.few
 have hl:=h.len
 have hni:∀c:Nat,c<i->ae0 more (c:Int)=[]:=fun c hc=>bv0 fun j hj2=>by have:=(hj j hj2).2;omega
 have hmi:ae0 u.2.2 (i:Int)=[]:=bv0 fun j hj2=>by have:=(h.job j hj2).2;omega
 have hmm:ae0 more (i:Int)=more:=by
  unfold ae0
  rw[List.filter_eq_self]
  intro j hj2
  simp[(hj j hj2).2]
 have hfo:∀c:Nat,c≠i->(out.filter fun w=>w.Channel==(c:Int))=[]:=fun c hc=>by
  rcases hp with⟨e,_⟩|⟨e,_⟩
  ·rw[e];rfl
  ·rw[e];simp;omega
 have hfu:(u.1.filter fun w=>w.Channel==(i:Int))=[]:=by
  rw[List.filter_eq_nil_iff]
  intro w hw
  have:=(h.sw w hw).2
  simp;omega
 refine⟨rfl,by simp[hl],?_,fun c hc=>?_,fun x hx=>?_,fun j hj2=>?_,fun c x hc hx=>?_,fun w hw=>?_,fun c y0 x hc hy0 hx=>?_,?_⟩
 ·simp only[aY1];omega
 ·simp only
  rw[eX0 (by omega)]
  exact h.rest c (by omega)
 ·simp only at hx
  rcases List.mem_or_eq_of_mem_set hx with h2|h2
  ·exact h.ch x h2
  ·rw[h2];exact hy
 ·rcases cI5.1 hj2 with h2|h2
  ·have:=h.job j h2;exact⟨this.1,by omega⟩
  ·have:=hj j h2;exact⟨this.1,by omega⟩
 ·simp only at hx|-
  rw[aS1]
  by_cases hci:c=i
  ·subst hci
   rw[eR0 (by omega)]at hx
   have:y=x:=cp9 hx
   subst this
   rw[hmi,hmm];exact hr
  ·rw[eX0 (by omega)]at hx
   rw[hni c (by omega),cV6]
   exact h.row c x (by omega) hx
 ·rcases cI5.1 hw with h2|h2
  ·have:=h.sw w h2;omega
  ·rcases hp with⟨e,_⟩|⟨e,_⟩
   ·rw[e]at h2;simp at h2
   ·rw[e]at h2
    have:w=⟨s.j4.Q7,(i:Int),false⟩:=by simpa using h2
    subst this
    exact⟨rfl,by show(0:Int)<=(i:Int);omega,by show(i:Int)<((i+1:Nat):Int);omega⟩
 ·simp only at hx|-
  rw[cV9]
  by_cases hci:c=i
  ·subst hci
   rw[eR0 (by omega)]at hx
   have:y=x:=cp9 hx
   subst this
   rw[hx0]at hy0
   have:x0=y0:=cp9 hy0
   subst this
   rw[hfu,cL8]
   rcases hp with⟨e,e2,_⟩|⟨e,e2,e3,_⟩
   ·exact .inl ⟨by rw[e];rfl,e2⟩
   ·exact .inr ⟨by rw[e];simp,e2,e3⟩
  ·rw[eX0 (by omega)]at hx
   rw[hfo c hci,cV6]
   exact h.lev c y0 x (by omega) hy0 hx
 ·have hc:=h.cnt
  have ht:s.j4.j1.take (i+1)=s.j4.j1.take i++[x0]:=by
   rw[List.take_add_one,hx0];rfl
  rw[ht,cV9,aY1,aY1,aY1]
  rcases hp with⟨e,_,e2⟩|⟨e,e2,_,e3⟩
  ·cases hl0:x0.E3
   ·rw[e,e2 hl0];simp only[cr1];omega
   ·rw[e]
    have:([x0].filter fun x=>x.E3).length=1:=by simp[hl0]
    simp only[cr1];omega
  ·have:([x0].filter fun x=>x.E3).length=1:=by simp[e2]
   rw[e,e3];simp only[bq0,cr1];omega
theorem el1 {s:c8}{n:Nat}(hs:Live n s)(hm:s.D1.length<=1000)(i:Nat)(hi:i<2*n)(u:List j8×w9×List A3)(h:dD4 s n i u):∃u',ac3 s (i:Int) u=some (.next u')/\dD4 s n (i+1) u':=by
 have hl:=hs.len
 have hn8:=hs.n8
 have h0:=hs.cF3
 have h1:=hs.dm5
 have hi2:i<s.j4.j1.length:=by omega
 have hi3:i<u.2.1.j1.length:=by rw[h.len];exact hi
 have htb:=dB8 hs h
 have hxe:u.2.1.j1[i]=s.j4.j1[i]:=by
  have:=h.rest i (cq9 _)
  rw[aK2 hi2,aK2 hi3]at this
  exact cp9 this
 have hf:=h.few
 have aM1:=hs.rows.row i hi2
 simp only at aM1
 have hmd:((i:Int).tmod 2==0)=(i%2==0):=by
  rw[dp1 (by omega),Bool.eq_iff_iff,beq_iff_eq,beq_iff_eq];omega
 have bx2:=h.now
 unfold ac3
 rw[C7 _ _ hi2]
 simp only[aH3,hmd]
 have hx0:s.j4.j1[i]? =some s.j4.j1[i]:=aK2 hi2
 generalize hx:s.j4.j1[i]=x at aM1 hxe hx0
 have hcond:(bif x.E3 then(some ((!(i%2==0))||(s.j4.Q7==1099511627776)))else(some false))=some (x.E3&&((!(i%2==0))||(s.j4.Q7==1099511627776))):=by cases x.E3<;>rfl
 rw[hcond]
 simp only[aH3]
 cases hb:x.E3&&((!(i%2==0))||(s.j4.Q7==1099511627776))
 ·simp only[fj6]
  rw[Tm.db9 u.2.1 (i:Int) i rfl hi3 htb]
  simp only[aH3]
  rw[hxe,bx2]
  cases hlv:x.E3
  ·simp only[cI0,fj8]
   refine⟨_,rfl,?_⟩
   have:=do0 h hi [] ⟨false,0,false,false⟩ [] (by simp) (by simp) (dj8 _ _) (by simp) ⟨rfl,rfl⟩ hx0 (.inl ⟨rfl,hlv.symm,fun _=>rfl⟩)
   rw[cV6,cV6]at this
   exact this
  ·simp only[aP9,fj6]
   rw[hlv,Bool.true_and,bZ2]at hb
   have hev:i%2=0:=by simpa using hb.1
   have hnm:s.j4.Q7≠1099511627776:=by simpa using hb.2
   cases hsp:split (i:Int) s.D1 with
   |none=>
    rw[dZ6 hsp]at aM1
    simp[aE4,hlv]at aM1
   |some t=>
    obtain⟨a,j,b⟩:=t
    obtain⟨ej,ec,_⟩:=bb9 hsp
    have hjo:=hs.rows.job j (by rw[ej];simp)
    rw[cQ3 hsp]at aM1
    simp only[aE4,aJ5,bO4,cG1,beq_iff_eq]at aM1
    obtain⟨⟨⟨r1,r2⟩,r3⟩,_⟩:=aM1
    have hk2:j.Event.Kind=2:=by
     have hk:=hjo.kind
     have hce:=ej7 hjo
     rw[ec,dp1 (by omega)]at hce
     have hno:¬(j.Event.Kind=3\/j.Event.Kind=4):=by
      intro h3;rw[if_pos h3]at hce;omega
     rw[hlv]at r1
     have:onK j.Event.Kind=false:=by
      cases ho:onK j.Event.Kind
      ·rfl
      ·rw[ho]at r1;simp at r1
     unfold onK at this
     simp only[bZ2,beq_eq_false_iff_ne]at this
     omega
    have hfi:C2 s.D1 (fun x0=>as6 x0 (i:Int))=some (cv2 (i:Int) s.D1):=bS8 (i:Int) n hn8 s.D1 (by omega) (fun y hy=>hs.rows.job y hy)
    rw[hfi]
    have hfv:cv2 (i:Int) s.D1=(a.length:Int):=by unfold cv2;rw[hsp]
    have hgm:D4 s.D1 (a.length:Int)=some j:=by rw[ej];exact dP3 a b j
    rw[hfv]
    simp only[aH3]
    rw[hgm]
    simp only[aH3]
    rw[j6 (n:=s.j4.Q7+5000) (by omega) (by omega)]
    have hxa:j.D9=true->s.j4.Q7<j.At/\j.At<=1099511627776:=by
     intro hja
     have hxm:x∈s.j4.j1:=by rw[<-hx];exact ba6 hi2
     have:=Tm.db0 (hs.rows.ch x hxm) (by rw[<-r2];exact hja)
     rcases r3 with r3|r3
     ·rw[hja]at r3;cases r3
     ·rw[r3.1];exact this
    obtain⟨at2,hat,ha1,ha2,ha3⟩:∃at2,(bif ((!j.D9)||(decide (j.At>s.j4.Q7+5000)))then(some (F5 (s.j4.Q7+5000) 1099511627776))else(some j.At))=some at2/\s.j4.Q7<at2/\at2<=1099511627776/\at2<=s.j4.Q7+5000:=by
     cases hc:(!j.D9)||(decide (j.At>s.j4.Q7+5000))
     ·rw[bZ2]at hc
      have hja:j.D9=true:=by simpa using hc.1
      have:=hxa hja
      have h5:¬j.At>s.j4.Q7+5000:=of_decide_eq_false hc.2
      exact⟨j.At,rfl,by omega,by omega,by omega⟩
     ·refine⟨_,rfl,?_,?_,?_⟩<;>unfold F5<;>split<;>omega
    rw[hat]
    simp only[aH3]
    have htb2:Tm.ad6 ⟨s.j4.Q7,u.2.1.j1.set i ⟨false,0,false,true⟩⟩=true:=by
     unfold Tm.ad6 at htb|-
     simp only[aJ5,bN8]at htb|-
     refine⟨?_,fun y hy=>?_⟩
     ·have e:Tm.bf5 ⟨s.j4.Q7,u.2.1.j1.set i ⟨false,0,false,true⟩⟩=Tm.bf5 u.2.1:=by
       unfold Tm.bf5
       simp only[dI2,bx2]
      rw[e];exact htb.1
     ·rcases List.mem_or_eq_of_mem_set hy with h2|h2
      ·exact h.ch y h2
      ·rw[h2];exact dj8 _ _
    rw[Tm.eh3 _ (i:Int) at2 false i rfl (by simpa using hi3) htb2]
    have d1:decide (at2<=s.j4.Q7)=false:=fk3 (by omega)
    have d2:decide (at2>Tm.cC6)=false:=by unfold Tm.cC6;exact fk3 (by omega)
    simp only[d1,d2,fj6,aH3]
    rw[H7 _ _ (by simp only[bq0,cr1];omega)]
    simp only[aH3,dC7,List.set_set]
    refine⟨_,rfl,?_⟩
    have:=do0 h hi [] ⟨true,at2,false,true⟩ [⟨j.Event,j.Left,true,at2⟩] (by simp) (by simp) (dN8 ha1 ha2)
     (fun k hk=>by
      have:k=⟨j.Event,j.Left,true,at2⟩:=by simpa using hk
      subst this
      exact⟨⟨hjo.cyl,hjo.kind,hjo.eg5,hjo.bT4,hjo.left,.inl rfl⟩,ec⟩)
     ⟨by simp[aE4,hlv,hk2,alt,onK],by simp[bA4,hk2,ha3]⟩ hx0 (.inl ⟨rfl,hlv.symm,fun h=>by rw[hlv]at h;cases h⟩)
    rw[cV6]at this
    exact this
 ·simp only[fj8]
  rw[aJ5]at hb
  rw[Tm.force_eq u.2.1 (i:Int) false i rfl hi3 htb]
  simp only[aH3]
  rw[H7 _ _ (by cases(u.2.1.j1[i].E3==false)<;>simp<;>omega)]
  simp only[aH3]
  refine⟨_,rfl,?_⟩
  rw[bx2]
  have:=do0 h hi (bif u.2.1.j1[i].E3==false then []else [⟨s.j4.Q7,(i:Int),false⟩]) ⟨false,0,false,false⟩ [] (by cases u.2.1.j1[i].E3==false<;>simp) (by simp) (dj8 _ _) (by simp) ⟨rfl,rfl⟩ hx0 (.inr ⟨by rw[hxe,hb.1];rfl,hb.1,rfl,rfl⟩)
  rw[cV6]at this
  exact this
theorem el0 {s:c8}{n i:Nat}{u u':List j8×w9×List A3}(hs:Live n s)(hj:s.D1=[])(h:dD4 s n i u)(hu:u.2.2=[])(hi:i<2*n)(e:ac3 s (i:Int) u=some (.next u')):∀j,j∉u'.2.2:=by
 have hi2:i<s.j4.j1.length:=by have:=hs.len;omega
 have hi3:i<u.2.1.j1.length:=by rw[h.len];exact hi
 have aM1:=hs.rows.row i hi2
 simp only at aM1
 rw[hj]at aM1
 have hlv:s.j4.j1[i].E3=false:=by
  simp only[ae0,ez7,aE4,aJ5,bO4]at aM1
  exact aM1.1
 unfold ac3 at e
 rw[C7 _ _ hi2]at e
 simp only[aH3,hlv,fj6]at e
 rw[Tm.db9 u.2.1 (i:Int) i rfl hi3 (dB8 hs h)]at e
 simp only[aH3,cI0,fj8,Option.some.injEq,Fl.next.injEq]at e
 subst e
 simp[hu]
structure ef0 (s t:c8)(out:List j8):Prop where
 ok:aE9 t
 now:t.j4.Q7=s.j4.Q7
 few:out.length<=100
 next:t.Next=s.Next
 eng:t.p6=s.p6
 sw:∀w∈out,w.At=s.j4.Q7/\0<=w.Channel/\w.Channel<(s.j4.j1.length:Int)
 lev:∀(c:Nat) (x0 x:j7),s.j4.j1[c]? =some x0->t.j4.j1[c]? =some x->((out.filter fun w=>w.Channel==(c:Int))=[]/\x.E3=x0.E3)\/((out.filter fun w=>w.Channel==(c:Int))=[⟨s.j4.Q7,(c:Int),false⟩]/\x0.E3=true/\x.E3=false)
 cnt:s.Cut=false->out.length+t.D1.length<=(s.j4.j1.filter fun x=>x.E3).length
 same:s.Cut=true->t=s/\out=[]
theorem dt2 {s t:c8}{out:List j8}(hs:aE9 s)(h:Live s.p6.u6.length t)(aK5:t.Cut=true)(he:t.p6=s.p6)(hk:t.B1=s.B1)(hnx:t.Next=s.Next)(bx2:t.j4.Q7=s.j4.Q7)(hfew:out.length<=100)(hm:t.D1.length<=200)(hnone:s.B1.V7=false->t.D1=[])(h1:∀w∈out,w.At=s.j4.Q7/\0<=w.Channel/\w.Channel<(s.j4.j1.length:Int))
  (h2:∀(c:Nat) (x0 x:j7),s.j4.j1[c]? =some x0->t.j4.j1[c]? =some x->((out.filter fun w=>w.Channel==(c:Int))=[]/\x.E3=x0.E3)\/((out.filter fun w=>w.Channel==(c:Int))=[⟨s.j4.Q7,(c:Int),false⟩]/\x0.E3=true/\x.E3=false))
  (h3:s.Cut=false->out.length+t.D1.length<=(s.j4.j1.filter fun x=>x.E3).length) (h4:s.Cut=true->t=s/\out=[]):ef0 s t out:=by
 refine⟨⟨by rw[he];exact hs.eng,by rw[hk];exact hs.clk,h.tim,by rw[he];exact h.len,by rw[he,hnx];exact hs.cy4,hm,fun h2=>hnone (by rw[<-hk];exact h2),by rw[he];exact h.rows.job,fun c hc=>?_⟩,bx2,hfew,hnx,he,h1,h2,h3,h4⟩
 have hr:=h.rows.row c hc
 simp only at hr
 unfold bz4
 rw[hr,h.cut aK5 c hc]
 simp
theorem dS4 {s:c8}(hs:aE9 s)(hn:s.Next.length<=1000000):∃t out,ao8 s=some (t,out,0)/\ef0 s t out:=by
 have hl:=Live.of hs
 have hm:=hs.most
 have hlen:=hl.len
 have hn8:=hl.n8
 have h0:=hl.cF3
 have h1:=hl.dm5
 unfold ao8
 rw[bd0 s hn (by omega),aY9.2 hs]
 simp only[aH3,aP9,fj6]
 rw[bD5 s hn (by omega)]
 simp only[aH3]
 cases aK5:s.Cut
 ·simp only[fj6]
  obtain⟨u,e,hu⟩:=ai6 s.j4.j1.length (by omega) (ac3 s) (fun i u=>dD4 s s.p6.u6.length i u/\(s.D1=[]->u.2.2=[])) ([],s.j4,[])
   ⟨⟨rfl,hlen,by simp,fun _ _=>rfl,hl.rows.ch,by simp,fun c x hc=>by omega,by simp,fun c _ _ hc=>by omega,by simp⟩,fun _=>rfl⟩
   (fun i hi u hu=>by
    obtain⟨u',e1,e2⟩:=el1 hl (by omega) i (by omega) u hu.1
    refine⟨u',e1,e2,fun hj=>?_⟩
    apply List.eq_nil_iff_forall_not_mem.2
    intro j hj2
    exact el0 hl hj hu.1 (hu.2 hj) (by omega) e1 j hj2)
  rw[e]
  refine⟨_,_,rfl,?_⟩
  have hf:=hu.1.few
  have bx2:=hu.1.now
  have hlu:=hu.1.len
  have hlv:Live s.p6.u6.length ⟨s.p6,s.B1,u.2.1,s.Next,u.2.2,true⟩:=by
   refine⟨rfl,hl.n1,hl.n8,⟨hlu,fun x hx=>by show Tm.chB u.2.1.Q7 x=true;rw[bx2];exact hu.1.ch x hx,fun j hj=>(hu.1.job j hj).1,fun c hc=>?_⟩,fun _ c hc=>?_,by show 0<=u.2.1.Q7;omega,by show u.2.1.Q7<=_;omega,?_,by show u.2.2.length<=1000;omega⟩
   ·have hc2:c<u.2.1.j1.length:=hc
    exact(hu.1.row c _ (by omega) (aK2 hc2)).1
   ·have hc2:c<u.2.1.j1.length:=hc
    show bA4 u.2.1.Q7 _=true
    rw[bx2]
    exact(hu.1.row c _ (by omega) (aK2 hc2)).2
   ·rcases hl.clk with⟨a,b⟩|a
    ·exact .inl ⟨a,hu.2 b⟩
    ·exact .inr a
  exact dt2 hs hlv rfl rfl rfl rfl bx2 (by omega) (by show u.2.2.length<=200;omega) (fun hv=>hu.2 (hs.none hv)) hu.1.sw (fun c x0 x h0 h1=>hu.1.lev c x0 x (bt7.1 h0).1 h0 h1) (fun _=>by have:=hu.1.cnt;rw[ee6]at this;exact this) (fun h=>absurd (h.symm.trans aK5) (by decide))
 ·simp only[fj8]
  refine⟨s,[],?_,dt2 hs hl aK5 rfl rfl rfl rfl (by simp) hm hs.none (by simp) (fun c x0 x h0 h1=>.inl ⟨rfl,by rw[h0]at h1;rw[cp9 h1]⟩) (fun h=>absurd (h.symm.trans aK5) (by decide)) (fun _=>⟨rfl,rfl⟩)⟩
  cases s;rfl
end Go.Pv.Sc.Sx
namespace Go.Pv.Sc
open Go Go.Pv Go.Pv.Ev
def aR1:Bool->List Bool->Bool->Prop
 |a,[],b=>a=b
 |a,x::l,b=>x= !a/\aR1 x l b
theorem cd7:∀{l m:List Bool}{a b c:Bool},aR1 a l b->aR1 b m c->aR1 a (l++m) c
 |[],_,_,_,_,h,k=>by cases h;exact k
 |_::_,_,_,_,_,h,k=>⟨h.1,cd7 h.2 k⟩
theorem dF8:∀{y:List Bool}{a b d:Bool},aR1 a y d->aR1 b y d->a=b
 |[],_,_,_,h,k=>h.trans k.symm
 |x::_,a,b,_,h,k=>by
  have:=h.1.symm.trans k.1
  cases a<;>cases b<;>simp_all
theorem cM1:∀{x y:List Bool}{a b d:Bool},aR1 a (x++y) d->aR1 b y d->aR1 a x b
 |[],_,_,_,_,h,k=>dF8 h k
 |_::_,_,_,_,_,h,k=>⟨h.1,cM1 h.2 k⟩
theorem cZ8:∀{l:List A3}{lv:Bool},alt l lv=true->aR1 lv (fl l) false
 |[],lv,h=>by
  show lv=false
  simpa[alt]using h
 |j::r,lv,h=>by
  simp only[alt,aJ5,bO4]at h
  have e:onK j.Event.Kind= !lv:=by
   have:=h.1.1
   cases ho:onK j.Event.Kind<;>cases lv<;>simp_all
  refine⟨e,?_⟩
  show aR1 (onK j.Event.Kind) (fl r) false
  rw[e]
  exact cZ8 h.2
theorem ec0 {q:List A3}{x:j7}(h:aE4 q x=true):aR1 x.E3 (fl q) false:=by
 cases q with
 |nil=>
  simp only[aE4,aJ5,bO4]at h
  exact h.1
 |cons j r=>
  simp only[aE4,aJ5,bO4]at h
  have e:onK j.Event.Kind= !x.E3:=by
   have:=h.1.1.1
   cases ho:onK j.Event.Kind<;>cases hl:x.E3<;>simp_all
  refine⟨e,?_⟩
  show aR1 (onK j.Event.Kind) (fl r) false
  rw[e]
  exact cZ8 h.2
def lvl (s:c8)(c:Nat):Bool:=match s.j4.j1[c]?with
 |some x=>x.E3
 |none=>false
theorem cH5 {s:c8}{c:Nat}(h:c<s.j4.j1.length):lvl s c=s.j4.j1[c].E3:=by unfold lvl;rw[aK2 h]
theorem eE6 {s t:c8}(h:t.j4.j1.map (fun x=>x.E3)=s.j4.j1.map (fun x=>x.E3))(c:Nat):lvl t c=lvl s c:=by
 have e:∀l:List j7,(match l[c]?with|some x=>x.E3|none=>false)=((l.map fun x=>x.E3)[c]?).getD false:=fun l=>by
  rw[cG5]
  cases l[c]? <;>rfl
 unfold lvl
 rw[e,e,h]
theorem cQ9 {s:c8}(h:aE9 s){c:Nat}(hc:c<2*s.p6.u6.length):aR1 (lvl s c) (fl (ae0 s.D1 (c:Int))) false:=by
 have hc2:c<s.j4.j1.length:=by rw[h.chs];exact hc
 have:=h.line c hc2
 unfold bz4 at this
 rw[aJ5]at this
 rw[cH5 hc2]
 exact ec0 this.1
def gs (g:Nat->Nat):Nat->Nat
 |0=>0
 |m+1=>gs g m+g m
theorem dH5 (a b:Nat->Nat):∀m,gs (fun c=>a c+b c) m=gs a m+gs b m
 |0=>rfl
 |m+1=>by simp only[gs,dH5 a b m];omega
theorem cO9 {a b:Nat->Nat}:∀{m:Nat},(∀c,c<m->a c=b c)->gs a m=gs b m
 |0,_=>rfl
 |m+1,h=>by simp only[gs];rw[cO9 fun c hc=>h c (by omega),h m (by omega)]
theorem eK4 {a b:Nat->Nat}:∀{m:Nat},(∀c,c<m->a c<=b c)->gs a m<=gs b m
 |0,_=>cq9 _
 |m+1,h=>by simp only[gs];have:=eK4 fun c (hc:c<m)=>h c (by omega);have:=h m (by omega);omega
theorem en8 (k:Int):∀m:Nat,gs (fun c=>if k=(c:Int)then 1 else 0) m=if 0<=k/\k<(m:Int)then 1 else 0
 |0=>by rw[if_neg (by omega)];rfl
 |m+1=>by
  simp only[gs]
  rw[en8 k m]
  by_cases h:k=(m:Int)
  ·rw[if_pos h,if_neg (by omega),if_pos (by omega)]
  ·rw[if_neg h]
   by_cases h2:0<=k/\k<(m:Int)
   ·rw[if_pos h2,if_pos (by omega)]
   ·rw[if_neg h2,if_neg (by omega)]
theorem dP6:∀m,gs (fun _=>0) m=0
 |0=>rfl
 |m+1=>by simp only[gs,dP6 m]
theorem dH6 {α:Type}(f:α->Int)(m:Nat):∀l:List α,(∀x∈l,0<=f x/\f x<(m:Int))->l.length=gs (fun c=>(l.filter fun x=>f x==(c:Int)).length) m
 |[],_=>by simp only[ez7,cr1,dP6]
 |x::l,h=>by
  have e:gs (fun c=>((x::l).filter fun x=>f x==(c:Int)).length) m=gs (fun c=>(if f x=(c:Int)then 1 else 0)+(l.filter fun x=>f x==(c:Int)).length) m:=cO9 fun c _=>by
   rw[dC9]
   by_cases hc:f x=(c:Int)
   ·rw[if_pos hc,if_pos (by simp[hc]),bq0];omega
   ·rw[if_neg hc,if_neg (by simp[hc])];omega
  rw[e,dH5,en8,if_pos (h x (bx8 ..)),<-dH6 f m l fun y hy=>h y (bF8 _ hy),bq0]
  omega
theorem dP5 {α:Type}(p:α->Bool)(l:List α):∀i,i<=l.length->((l.take i).filter p).length=gs (fun c=>match l[c]?with|some x=>if p x then 1 else 0|none=>0) i
 |0,_=>rfl
 |i+1,h=>by
  have hi:i<l.length:=by omega
  simp only[gs]
  rw[<-dP5 p l i (by omega),List.take_add_one,cV9,aY1,aK2 hi]
  congr 1
  show(List.filter p [l[i]]).length=(if p l[i]=true then 1 else 0)
  rw[dC9]
  by_cases hp:p l[i]=true
  ·rw[if_pos hp,if_pos hp];rfl
  ·rw[if_neg hp,if_neg hp];rfl
theorem cP4 {s:c8}(h:∀j∈s.D1,aN5 s.p6.u6.length j):s.D1.length=gs (fun c=>(ae0 s.D1 (c:Int)).length) (2*s.p6.u6.length):=
 dH6 (fun j:A3=>chn j.Event) _ s.D1 fun j hj=>by
  have:=db2 (h j hj)
  push_cast
  omega
theorem em6 (l:List A3):(fl l).length=l.length:=by unfold fl;rw[cr4]
structure Trk (m:Nat)(t0:Int)(L:Nat->Bool)(N:Nat)(s:c8)(w:List j8):Prop where
 eng:m=2*s.p6.u6.length
 low:t0<=s.j4.Q7
 asc:w.Pairwise fun a b=>a.At<=b.At
 ran:∀x∈w,t0<=x.At/\x.At<=s.j4.Q7
 chn:∀x∈w,0<=x.Channel/\x.Channel<(m:Int)
 alt:∀c,c<m->aR1 (L c) (swc w (c:Int)) (lvl s c)
 cnt:w.length+s.D1.length<=N
theorem Trk.go {m:Nat}{t0:Int}{L:Nat->Bool}{N:Nat}{s:c8}{w:List j8}(h:Trk m t0 L N s w)(hs:aE9 s)(to:Int)(h1:s.j4.Q7<=to)(h2:to<=1099511627776):Trk m t0 L N (goE to s).2 (w++(goE to s).1):=by
 obtain⟨k1,k2,_,k4⟩:=bG6 hs to h1 h2
 obtain⟨g1,g2⟩:=dX1 (.of hs) to h1
 have hm:=h.eng
 have hl:=h.low
 have hc:=h.cnt
 refine⟨by rw[k2];exact hm,by omega,ey9.2 ⟨h.asc,g1.asc,fun a ha b hb=>?_⟩,fun x hx=>?_,fun x hx=>?_,fun c hcm=>?_,?_⟩
 ·have:=h.ran a ha;have:=g1.ran b hb;omega
 ·rcases cI5.1 hx with hx|hx
  ·have:=h.ran x hx;omega
  ·have:=g1.ran x hx;omega
 ·rcases cI5.1 hx with hx|hx
  ·exact h.chn x hx
  ·rw[hm];exact g1.ch x hx
 ·rw[ch0]
  refine cd7 (h.alt c hcm) (cM1 (y:=fl (ae0 (goE to s).2.D1 (c:Int))) (d:=false) ?_ (cQ9 k1 (by rw[k2];omega)))
  rw[g2 c (by omega)]
  exact cQ9 hs (by omega)
 ·have e1:=dH6 (fun x:j8=>x.Channel) (2*s.p6.u6.length) (goE to s).1 g1.ch
  have e2:=cP4 k1.job
  have e3:=cP4 hs.job
  rw[k2]at e2
  have e4:=dH5 (fun c=>((goE to s).1.filter fun x=>x.Channel==(c:Int)).length) (fun c=>(ae0 (goE to s).2.D1 (c:Int)).length) (2*s.p6.u6.length)
  rw[<-e1,<-e2]at e4
  have e5:gs (fun c=>((goE to s).1.filter fun x=>x.Channel==(c:Int)).length+(ae0 (goE to s).2.D1 (c:Int)).length) (2*s.p6.u6.length)=gs (fun c=>(ae0 s.D1 (c:Int)).length) (2*s.p6.u6.length):=cO9 fun c hc=>by
   have:=congrArg List.length (g2 c hc)
   rw[aY1,em6,em6]at this
   unfold swc at this
   rw[cr4]at this
   exact this
  rw[e5,<-e3]at e4
  rw[aY1]
  omega
theorem Trk.cut {m:Nat}{t0:Int}{L:Nat->Bool}{N:Nat}{s t:c8}{w out:List j8}(h:Trk m t0 L N s w)(hs:aE9 s)(k:Sx.ef0 s t out):Trk m t0 L N t (w++out):=by
  cases aK5:s.Cut
  · have hm:=h.eng
    have hl:=h.low
    have hc:=h.cnt
    have bx2:=k.now
    have hch:=hs.chs
    have ht:=k.ok.chs
    rw[k.eng]at ht
    refine⟨by rw[k.eng];exact hm,by omega,ey9.2 ⟨h.asc,?_,fun a ha b hb=>?_⟩,fun x hx=>?_,fun x hx=>?_,fun c hcm=>?_,?_⟩
    · rw[fi2]
      intro a b hab
      have ha:=k.sw a (hab.subset (by simp))
      have hb:=k.sw b (hab.subset (by simp))
      omega
    · have:=h.ran a ha;have:=k.sw b hb;omega
    · rcases cI5.1 hx with hx|hx
      · have:=h.ran x hx;omega
      · have:=k.sw x hx;omega
    · rcases cI5.1 hx with hx|hx
      · exact h.chn x hx
      · have:=k.sw x hx;omega
    · rw[ch0]
      refine cd7 (h.alt c hcm) ?_
      have c1:c<s.j4.j1.length:=by omega
      have c2:c<t.j4.j1.length:=by omega
      rw[cH5 c1,cH5 c2]
      unfold swc
      rcases k.lev c _ _ (aK2 c1) (aK2 c2)with⟨a,b⟩|⟨a,b,d⟩
      · rw[a];exact b.symm
      · rw[a,b,d];exact⟨rfl,rfl⟩
    · have e:=k.cnt aK5
      have e2:=dP5 (fun x:j7=>x.E3) s.j4.j1 s.j4.j1.length (cq9 _)
      rw[ee6]at e2
      have e3:=cP4 hs.job
      have e4:(s.j4.j1.filter fun x=>x.E3).length<=gs (fun c=>(ae0 s.D1 (c:Int)).length) s.j4.j1.length:=by
       rw[e2]
       refine eK4 fun c hc=>?_
       · rw[aK2 hc]
         show(if s.j4.j1[c].E3=true then 1 else 0)<=_
         have hr:=cQ9 hs (c:=c) (by omega)
         rw[cH5 hc]at hr
         cases hlv:s.j4.j1[c].E3
         · simp[hlv]
         · rw[hlv]at hr
           cases hq:ae0 s.D1 (c:Int)with
           |nil=>rw[hq]at hr;cases hr
           |cons j r=>simp[hlv]
      rw[<-hch]at e3
      rw[aY1]
      omega
  · obtain⟨e1,e2⟩:=k.same aK5
    rw[e1,e2,cV6]
    exact h
theorem Trk.alike {m:Nat}{t0:Int}{L:Nat->Bool}{N:Nat}{s t:c8}{w:List j8}(h:Trk m t0 L N s w)(h1:t.p6=s.p6)(h2:t.j4=s.j4)(h3:t.D1=s.D1):Trk m t0 L N t w:=
 ⟨by rw[h1];exact h.eng,by rw[h2];exact h.low,h.asc,by rw[h2];exact h.ran,h.chn,fun c hc=>by unfold lvl;rw[h2];exact h.alt c hc,by rw[h3];exact h.cnt⟩
theorem Trk.more {m:Nat}{t0:Int}{L:Nat->Bool}{N M:Nat}{s:c8}{w:List j8}(h:Trk m t0 L N s w)(hM:N<=M):Trk m t0 L M s w:=⟨h.eng,h.low,h.asc,h.ran,h.chn,h.alt,by have:=h.cnt;omega⟩
theorem dq7 (now:Int)(k:D3)(u:List j7×List A3):∀m,(bH0 now k m u).1.map (fun x=>x.E3)=u.1.map (fun x=>x.E3)
 |0=>rfl
 |m+1=>by rw[bH0,eh2,dq7 now k u m]
theorem du2 {α:Type}(F:Int->List α):∀l:List Int,l.Nodup->(∀x∈l,∀y∈l,F x≠[]->F y≠[]->x=y)->(∀x∈l,(F x).length<=6)->(l.flatMap F).length<=6
 |[],_,_,_=>by simp
 |x::l,hn,h,h6=>by
  rw[List.flatMap_cons,aY1]
  by_cases hx:F x=[]
  ·rw[hx]
   have:=du2 F l (List.nodup_cons.1 hn).2 (fun a ha b hb=>h a (bF8 _ ha) b (bF8 _ hb)) (fun a ha=>h6 a (bF8 _ ha))
   simp only[cr1];omega
  ·have:l.flatMap F=[]:=by
    rw[List.flatMap_eq_nil_iff]
    intro y hy
    refine Classical.byContradiction fun hy2=>?_
    have:=h x (bx8 ..) y (bF8 _ hy) hx hy2
    subst this
    exact(List.nodup_cons.1 hn).1 hy
   rw[this]
   have:=h6 x (bx8 ..)
   simp only[cr1];omega
theorem eq4 {e:o6}(he:aB5 e){a x y:Int}(hx:x∈e.u6)(hy:y∈e.u6)(h1:dst a (beg e x)<1152)(h2:dst a (beg e y)<1152):x=y:=by
 obtain⟨n1,n8,f0,f1,_,_⟩:=he
 rcases bS7 x e.u6 0 with⟨_,h⟩|⟨i,ei,gi⟩
 ·exact absurd hx h
 rcases bS7 y e.u6 0 with⟨_,h⟩|⟨j,ej,gj⟩
 ·exact absurd hy h
 have hi:=(bt7.1 gi).1
 have hj:=(bt7.1 gj).1
 have key:i=j:=by
  unfold dst beg cen at h1 h2
  rw[ei,show G7 (((0+i:Nat):Int)) 0=(i:Int) by unfold G7;split<;>omega]at h1
  rw[ej,show G7 (((0+j:Nat):Int)) 0=(j:Int) by unfold G7;split<;>omega]at h2
  generalize e.u6.length=n at n1 n8 hi hj h1 h2
  have sep:∀a b:Nat,a<n->b<n->a<b->5759<=(b:Int)*46080/(n:Int)-(a:Int)*46080/(n:Int)/\(b:Int)*46080/(n:Int)-(a:Int)*46080/(n:Int)<=40321:=fun a b ha hb hab=>by
   have:n=1\/n=2\/n=3\/n=4\/n=5\/n=6\/n=7\/n=8:=by omega
   rcases this with rfl|rfl|rfl|rfl|rfl|rfl|rfl|rfl<;>omega
  refine Classical.byContradiction fun hne=>?_
  rcases Nat.lt_or_gt_of_ne hne with hlt|hlt
  ·have:=sep i j hi hj hlt
   generalize(i:Int)*46080/(n:Int)=p at h1 this
   generalize(j:Int)*46080/(n:Int)=q at h2 this
   omega
  ·have:=sep j i hj hi hlt
   generalize(i:Int)*46080/(n:Int)=p at h1 this
   generalize(j:Int)*46080/(n:Int)=q at h2 this
   omega
 subst key
 rw[gi]at gj
 exact cp9 gj
theorem eF3 {e:o6}{c:D3}{l:List A1}{t:Int}(he:aB5 e)(hw:aT3 e l=true)(hA:c.aj7<=1152):(e.u6.flatMap (bO6 e c l t)).length<=6:=
 du2 _ _ he.2.2.2.2.2 (fun x hx y hy h1 h2=>by
  have k:∀z:Int,bO6 e c l t z≠[]->dst c.H2 (beg e z)<1152:=fun z hz=>by
   unfold bO6 at hz
   cases hd:decide (dst c.H2 (beg e z)>=c.aj7)
   ·have:=of_decide_eq_false hd;omega
   ·rw[hd]at hz;exact absurd rfl hz
  exact eq4 he hx hy (k x h1) (k y h2)) (fun x _=>dp8 he hw)
theorem Trk.bV4 {m:Nat}{t0:Int}{L:Nat->Bool}{N:Nat}{s:c8}{w:List j8}(h:Trk m t0 L N s w)(hs:aE9 s)(c:D3)(hA:c.aj7<=1152)(he:(aK1 s c).2.2=0):Trk m t0 L (N+6) (aK1 s c).1 (w++(aK1 s c).2.1):=by
 unfold aK1 at he|-
 cases h1:(!cg5 s|| !bw9 c)<;>rw[h1]at he
 ·simp only[fj6]at he|-
  cases h2:!c.V7<;>rw[h2]at he
  ·simp only[fj6]at he|-
   cases h3:decide (c.At<s.j4.Q7)<;>rw[h3]at he
   ·have h4:=of_decide_eq_false h3
    have hc:bw9 c=true:=by
     cases h:bw9 c
     ·rw[h]at h1;simp at h1
     ·rfl
    have h5:c.At<=1099511627776:=by
     have:=hc
     unfold bw9 at this
     have hv:c.V7=true:=by simpa using h2
     rw[hv]at this
     simp only[aP9,fj6,aJ5,fk4]at this
     omega
    have hg:=h.go hs c.At (by omega) h5
    obtain⟨k1,k2,k3,k4⟩:=bG6 hs c.At (by omega) h5
    simp only[fj6,cV0]at he|-
    have hlj:(aY5 s c (goE c.At s).2.D1).length=(goE c.At s).2.D1.length:=by
     unfold aY5
     cases s.B1.V7
     ·rfl
     ·simp only[fj8,cr4]
    have hcn:=hg.cnt
    cases aK5:(goE c.At s).2.Cut<;>rw[aK5]at he
    ·simp only[fj6]at he|-
     cases h6:decide (((bp2 s c (goE c.At s).2).length:Int)>200)<;>rw[h6]at he
     ·simp only[fj6]
      have hn6:(bp2 s c (goE c.At s).2).length<=(goE c.At s).2.D1.length+6:=by
       unfold bp2
       rw[aY1,hlj]
       have:=eF3 (t:=dB6 c) k1.eng k1.cy4 hA
       omega
      have hst:=congrArg List.length (dN3 (Sc.mk (goE c.At s).2 c (bp2 s c (goE c.At s).2)))
      rw[cr4,cr4]at hst
      have k:=bW1 (Sc.mk (goE c.At s).2 c (bp2 s c (goE c.At s).2))
      have hnw:(bq1 (Sc.mk (goE c.At s).2 c (bp2 s c (goE c.At s).2))).j4.Q7=(goE c.At s).2.j4.Q7:=by
       unfold bq1;split<;>rfl
      have hlv:∀d,lvl (bq1 (Sc.mk (goE c.At s).2 c (bp2 s c (goE c.At s).2))) d=lvl (goE c.At s).2 d:=fun d=>eE6 (by
       unfold bq1
       split
       ·rfl
       ·exact dq7 _ _ _ _) d
      refine⟨by rw[k.eng];exact hg.eng,by rw[hnw];exact hg.low,hg.asc,by rw[hnw];exact hg.ran,hg.chn,fun d hd=>by rw[hlv];exact hg.alt d hd,?_⟩
      rw[hst]
      show _+(bp2 s c (goE c.At s).2).length<=_
      omega
     ·simp only[fj8]at he
      cases he
    ·simp only[fj8]
     refine⟨hg.eng,hg.low,hg.asc,hg.ran,hg.chn,hg.alt,?_⟩
     show _+(aY5 s c (goE c.At s).2.D1).length<=_
     rw[hlj]
     omega
   ·simp only[fj8]at he
    cases he
  ·simp only[fj8]at he
   cases he
 ·simp only[fj8]at he
  cases he
end Go.Pv.Sc
namespace Go.Pv.Ec
open Go Go.Pv Go.Proofs Go.Proofs.YtmhdghdbojdgfaaGreat
theorem eS9 (p:Int)(h0:0<=p)(h1:p<=1099511627776):∃q k,(ch5 w0 p).m=some (q,k)/\p<q/\q<=p+23040/\q%384=0:=by
 have hm:0<=p%23040/\p%23040<23040:=⟨Int.emod_nonneg p (by omega),Int.emod_lt_of_pos p (by omega)⟩
 simp only[ch5,C.of,M.run,L1.m,dl9 p 23040 h0 (by omega),cy3,bF6,aH3]
 rw[j6 (n:=p-p%23040) (by omega) (by omega),show p-(p-p%23040)=p%23040 by omega,j6 (n:=p%23040) (by omega) (by omega),es2 hm.1 (by omega) (by omega)]
 simp only[aH3]
 rw[j6 (n:=p%23040/384+1) (by omega) (by omega)]
 by_cases hk:p%23040/384+1>=58
 ·rw[fk0 hk]
  refine⟨_,_,rfl,?_,?_,?_⟩
  ·rw[j6 (by omega) (by omega)];omega
  ·rw[j6 (by omega) (by omega)];omega
  ·rw[j6 (by omega) (by omega)];omega
 ·rw[fk3 hk]
  have e1:o4 ((p%23040/384+1)*384)=(p%23040/384+1)*384:=j6 (by omega) (by omega)
  refine⟨_,_,rfl,?_,?_,?_⟩
  ·rw[e1,j6 (by omega) (by omega)];omega
  ·rw[e1,j6 (by omega) (by omega)];omega
  ·rw[e1,j6 (by omega) (by omega)];omega
theorem eF4 (p:Int)(h0:0<=p)(h1:p<=1099511627776):∃q,(ba7 p w0).m=some q/\p<q/\q<=p+46080/\q%384=0:=by
 obtain⟨q,k,e,h2,h3,h4⟩:=eS9 p h0 h1
 simp only[ba7,C.of,M.run]
 exact⟨q,ci7 e rfl,h2,by omega,h4⟩
theorem db6 (D a b:Int)(f:Cl Tryz.prog Int Int (fun x=>[.t (tI x)]) (fun r=>.t (tI r)))(hf:∀p,0<=p->p<=1099511627776->∃q,f.f p=some q/\p<q/\q<=p+100000/\q%D=0):
  ∃l e,(bl3 a b f).m=some (l,e)/\Edg a b l/\∀x∈l,x%D=0:=by
 have enil:Edg a b []/\∀x∈([]:List Int),x%D=0:=⟨⟨by simp,by simp,by simp,by simp⟩,by simp⟩
 simp only[bl3,C.of,M.run,eG3,aH3,Cl.at]
 cases ha:ad6 a
 ·exact⟨_,_,rfl,enil⟩
 cases hb:ad6 b
 ·exact⟨_,_,rfl,enil⟩
 simp only[aP9,fj6,aH3,Bool.false_or]
 by_cases hab:a>b
 ·rw[fk0 hab];exact⟨_,_,rfl,enil⟩
 rw[fk3 hab]
 have ha:=aH0.1 ha
 have hb:=aH0.1 hb
 obtain⟨q,hq,h1,h2,h3⟩:=hf a ha.1 ha.2
 simp only[fj6,hq,aH3]
 obtain⟨r,e,hr⟩:=bu7 (mb:=fun s=>(bk3 b f s).run)
  (fun s=>s.1.length<=1000/\(∀x∈s.1,a<x)/\(∀x∈s.1,x<=b)/\s.1.Pairwise (· <·)/\(∀x∈s.1,x<s.2)/\a<s.2/\(∀x∈s.1,x%D=0)/\s.2%D=0) (fun s=>(b+1-s.2).toNat)
  (fun r=>match r with| .inl s=>Edg a b s.1/\∀x∈s.1,x%D=0| .inr t=>Edg a b t.1/\∀x∈t.1,x%D=0) (fun s ⟨i1,i2,i3,i4,i5,i6,i7,i8⟩=>by
   obtain⟨l,p⟩:=s
   simp only at i1 i2 i3 i4 i5 i6 i7 i8
   simp only[bk3,M.run,U1.m,Cl.at]
   by_cases hp:p<=b
   ·rw[fk0 hp]
    simp only[fj8]
    by_cases hl:(l.length:Int)=1000
    ·simp only[hl,beq_self_eq_true,fj8]
     exact .inr ⟨_,rfl,enil⟩
    ·simp only[bf hl,fj6]
     obtain⟨q,hq,h1,h2,h3⟩:=hf p (by omega) (by omega)
     rw[H7 _ _ (by simp;omega),hq]
     simp only[aH3]
     refine .inl ⟨_,rfl,⟨?_,?_,?_,?_,?_,by simp only;omega,?_,h3⟩,?_⟩
     ·simp;omega
     ·intro x hx;rcases cI5.1 hx with hx|hx
      ·exact i2 x hx
      ·simp at hx;omega
     ·intro x hx;rcases cI5.1 hx with hx|hx
      ·exact i3 x hx
      ·simp at hx;omega
     ·refine ey9.2 ⟨i4,by simp,fun x hx y hy=>?_⟩
      simp at hy;subst hy;exact i5 x hx
     ·intro x hx;rcases cI5.1 hx with hx|hx
      ·have:=i5 x hx;simp only;omega
      ·simp at hx;simp only;omega
     ·intro x hx;rcases cI5.1 hx with hx|hx
      ·exact i7 x hx
      ·simp at hx;rw[hx];exact i8
     ·simp only;omega
   ·rw[fk3 hp]
    exact .inr ⟨_,rfl,⟨i1,i2,i3,i4⟩,i7⟩) _ ([],q) (cq9 _) ⟨by simp,by simp,by simp,by simp,by simp,by simp only;omega,by simp,h3⟩
 rw[e]
 cases r with
 |inl s=>exact⟨_,_,rfl,hr⟩
 |inr t=>exact⟨_,_,rfl,hr⟩
theorem dV8 (a b:Int):∃l e,(bB5 w0 a b).m=some (l,e)/\Edg a b l/\∀x∈l,x%384=0:=by
 obtain⟨l,e,h1,h2⟩:=db6 384 a b (.of (fun z_=>ba7 z_ w0) _ [ce3 w0]) (fun p h0 h1=>by
  obtain⟨q,e,h2,h3,h4⟩:=eF4 p h0 h1
  exact⟨q,e,h2,by omega,h4⟩)
 simp only[bB5,C.of,M.run,bY2,aH3,aP9,fj6]
 exact⟨l,e,ci7 h1 rfl,h2⟩
theorem dF7 (a b:Int):∃l e,(bk2 c0 a b).m=some (l,e)/\Edg a b l:=by
 obtain⟨l,e,h1,h2⟩:=db6 1 a b (.of (fun z_=>aN2 z_ c0) _ [cN3 c0]) (fun p h0 h1=>by
  obtain⟨q,e,h2,h3⟩:=dW2 p h0 h1
  exact⟨q,e,h2,by omega,by omega⟩)
 simp only[bk2,C.of,M.run,da5,aH3,aP9,fj6]
 exact⟨l,e,ci7 h1 rfl,h2.1⟩
end Go.Pv.Ec
namespace Go.Proofs.YtmhdghdbojdgfaaGreat.Ec
open Go Go.Pv Go.Pv.Ec Go.Proofs
theorem eY5 {T:Int}{s:c8}{m:Nat}{t0:Int}{L:Nat->Bool}{N:Nat}{w:List j8}(h:bo1 T s s)(hk:Sc.Trk m t0 L N s w)(to:Int)(hT:to<=T):∃t l e,(T1 s to).m=some (t,l,e)/\l.length<=3200/\bo1 T s (bif e !=0 then s else t)/\Sc.Trk m t0 L N (bif e !=0 then s else t) (bif e !=0 then w else w++l):=by
 have hm:=h.ok.most
 have hf:=h.few
 rw[bm0]
 by_cases h1:to<s.j4.Q7
 ·unfold Pv.T1
  rw[Sc.bd0 s (by omega) (by omega),Sc.aY9.2 h.ok]
  simp only[aH3,aP9,fj6]
  rw[fk0 h1]
  exact⟨_,_,_,rfl,by simp,h,hk⟩
 ·by_cases h2:to>1099511627776
  ·unfold Pv.T1
   rw[Sc.bd0 s (by omega) (by omega),Sc.aY9.2 h.ok]
   simp only[aH3,aP9,fj6]
   rw[fk3 h1,fk0 h2]
   exact⟨_,_,_,rfl,by simp,h,hk⟩
  ·rw[Sc.dS2 h.ok (by omega) to (by omega) (by omega)]
   obtain⟨k1,k2,k3,k4⟩:=Sc.bG6 h.ok to (by omega) (by omega)
   exact⟨_,_,_,rfl,Sc.dk7 h.ok to (by omega),⟨k1,by show(Sc.goE to s).2.Next.length<=8;rw[k3];exact hf,k2,by show s.j4.Q7<=(Sc.goE to s).2.j4.Q7;omega,by show(Sc.goE to s).2.j4.Q7<=T;omega⟩,hk.go h.ok to (by omega) (by omega)⟩
theorem ev7 {T:Int}{s:j9}{m:Nat}{t0:Int}{L:Nat->Bool}{N:Nat}(h:bo1 T s.u.j3 s.u.j3)(hk:Sc.Trk m t0 L N s.u.j3 s.y9)(a:Int)(hT:a<=T)(hN:N<=100000):
  ∃c w,(aY4 s a).m=some {s with u:={s.u with j3:=c},y9:=w}/\bo1 T s.u.j3 c/\Sc.Trk m t0 L N c w:=by
 have hc0:=hk.cnt
 obtain⟨t,l,e,e1,h1,h2,h2k⟩:=eY5 h hk a hT
 simp only[aY4,CG.of,M.run,e1,aH3]
 rw[bV2 s t l e (by omega)]
 simp only[aH3]
 generalize(bif e !=0 then s.u.j3 else t)=c at h2 h2k|-
 generalize(bif e !=0 then s.y9 else s.y9++l)=w at h2k|-
 have hc1:=h2k.cnt
 have hfc:=h2.few
 obtain⟨t2,l2,e2,k⟩:=Sc.Sx.dS4 h2.ok (by omega)
 have kf:=k.few
 rw[bC7,e2]
 simp only[aH3]
 rw[bV2 _ t2 l2 0 (by simp only;omega)]
 exact⟨t2,w++l2,rfl,⟨k.ok,by rw[k.next];exact hfc,k.eng.trans h2.eng,by have:=k.now;have:=h2.low;omega,by have:=k.now;have:=h2.now;omega⟩,h2k.cut h2.ok k⟩
theorem du3 {T:Int}{s:j9}{m:Nat}{t0:Int}{L:Nat->Bool}{N:Nat}(h:bo1 T s.u.j3 s.u.j3)(hk:Sc.Trk m t0 L N s.u.j3 s.y9)(hp:phB s.u.M7=true)(n:Y9)(a:Int)(hT:a<=T)(hN:N<=100000):
  ∃c p w,(ba2 s n a).m=some {s with u:={s.u with j3:=c,Q2:=n,M7:=p},y9:=w}/\
   bo1 T s.u.j3 c/\phB p=true/\Sc.Trk m t0 L N c w:=by
 simp only[ba2,CG.of,M.run,er6,aH3]
 cases((s.u.Q2.Mode !=0)&&(n.Mode==0))
 ·exact⟨_,_,_,rfl,h,hp,hk⟩
 ·simp only[fj8]
  obtain⟨c,w,e,h1,h2⟩:=ev7 (s:={s with u:={s.u with Q2:=n,M7:=⟨false,0,0,false⟩}}) h hk a hT hN
  rw[e]
  exact⟨c,_,w,rfl,h1,rfl,h2⟩
theorem eA3 (t n h p:Int)(hp:0<=p/\p<=1099511627776):∃c e,(bO9 w0 t n h p).m=some (c,e)/\(c.At=t\/c.At=0)/\c.aj7<=1152:=by
 obtain⟨a,e,e1⟩:=ey3 n
 have q:bn5 .i64 p (o4 (w0.aP6+1))=some (p/3):=es2 (b:=3) hp.1 (by omega) (by omega)
 simp only[bO9,C.of,M.run,L1.m,bY2,bF6,cy3,e1,eg4,q,aH3,aP9,fj6,bg]
 generalize(bif e !=0 then true else !(decide (t>=0)&&decide (t<=1099511627776)))=c1
 generalize(c1||decide (h<0)||decide (h>1)||decide (p<o4 (2+1))||decide (p>1073741824))=c2
 cases c2
 ·simp only[fj6]
  cases n==0<;>cases n==o4 (58-1)<;>exact⟨_,_,rfl,.inl rfl,show _<=(1152:Int) by first|exact(by decide:(384:Int)<=1152)|exact(by decide:o4 (384*o4 (2+1))<=1152)⟩
 ·exact⟨_,_,rfl,.inr rfl,by decide⟩
theorem ec3 {T:Int}{s:c8}{m:Nat}{t0:Int}{L:Nat->Bool}{N:Nat}{w:List j8}(h:bo1 T s s)(hk:Sc.Trk m t0 L N s w)(c:D3)(hT:c.At<=T)(hA:c.aj7<=1152):∃t l e,(al6 s c).m=some (t,l,e)/\l.length<=3200/\bo1 T s (bif e !=0 then s else t)/\Sc.Trk m t0 L (N+6) (bif e !=0 then s else t) (bif e !=0 then w else w++l):=by
 have hm:=h.ok.most
 have hf:=h.few
 rw[cc7,Sc.ed0 s c (by omega) (by omega)]
 obtain⟨k1,k2⟩:=Sc.dB9 h.ok c
 refine⟨(Sc.aK1 s c).1,(Sc.aK1 s c).2.1,(Sc.aK1 s c).2.2,rfl,k1,?_⟩
 by_cases he:(Sc.aK1 s c).2.2=0
 ·obtain⟨a,b,d,f⟩:=k2 he
  have ht:=hk.bV4 h.ok c hA he
  rw[he,show((0:Int) !=0)=false from rfl]
  exact⟨⟨Sc.ex3 he,by simp only[fj6];rw[b];exact hf,a,by simp only[fj6];omega,by simp only[fj6];omega⟩,ht⟩
 ·rw[show((Sc.aK1 s c).2.2 !=0)=true by simpa using he]
  have:=hk.cnt
  exact⟨h,⟨hk.eng,hk.low,hk.asc,hk.ran,hk.chn,hk.alt,by show w.length+s.D1.length<=N+6;omega⟩⟩
theorem eI6 {T:Int}{s:j9}{m:Nat}{t0:Int}{L:Nat->Bool}{N:Nat}(h:Tee T s)(hk:Sc.Trk m t0 L N s.u.j3 s.y9)(a:Int)(ha:a<=T)(hN:N<=90000):
  ∃c y p f w,(bu2 s a).m=some {s with u:={s.u with j3:=c,Q2:=y,M7:=p,H8:=f},y9:=w}/\
   bo1 T s.u.j3 c/\(syB y=true/\y.H0<=T)/\phB p=true/\(tfB f=true/\f.H0<=T)/\Sc.Trk m t0 L (N+6) c w:=by
 have ht0:=h.t0
 obtain⟨f,ok,e,e1,h1⟩:=eI4 s.u.H8 a
 have hf:tfB (bif e !=0 then s.u.H8 else f)=true/\(bif e !=0 then s.u.H8 else f).H0<=T:=by
  by_cases he:e=0
  ·subst he
   obtain⟨_,q2,q3,_⟩:=h1 rfl
   rw[show((0:Int) !=0)=false from rfl]
   refine⟨q2,?_⟩
   simp only[fj6]
   rcases q3 with q3|q3
   ·omega
   ·rw[q3];exact h.tf.2
  ·rw[enz he];exact h.tf
 simp only[bu2,CG.of,M.run,fb6,eR7,e1,aH3]
 generalize(bif e !=0 then s.u.H8 else f)=g at hf|-
 cases(e !=0|| !ok)
 ·simp only[fj6,eK9,cy2,aH3]
  obtain⟨y,e2,q1,q2⟩:=eI2 s.u.Q2 a
  simp only[q1,eo9,aH3]
  have hy:syB (bif e2 !=0 then s.u.Q2 else y)=true/\(bif e2 !=0 then s.u.Q2 else y).H0<=T:=by
   by_cases he:e2=0
   ·subst he
    obtain⟨r1,r2⟩:=q2 rfl
    rw[show((0:Int) !=0)=false from rfl]
    refine⟨r1,?_⟩
    simp only[fj6]
    rcases r2 with r2|r2
    ·omega
    ·rw[r2];exact ht0
   ·rw[enz he];exact h.sy
  generalize(bif e2 !=0 then s.u.Q2 else y)=z at hy|-
  obtain⟨c,p,w,q3,hc,hp,hw⟩:=du3 (T:=T) (s:={s with u:={s.u with H8:=g}}) h.sch hk h.ph z a ha (by omega)
  simp only at hc
  rw[q3]
  simp only[aH3]
  cases(z.Mode !=2)
  ·simp only[fj6]
   have key:∃c2 p2 w2,(bif z.ay6==0 then
     (bJ9 c0 p).m.bind fun t_1=>(bif !(bif t_1.2 !=0 then p else t_1.1).aY0 then
       (aY4 {s with u:={s.u with j3:=c,Q2:=z,M7:=bif t_1.2 !=0 then p else t_1.1,H8:=g},y9:=w} a).m.bind fun t=>some t
      else some {s with u:={s.u with j3:=c,Q2:=z,M7:=bif t_1.2 !=0 then p else t_1.1,H8:=g},y9:=w})
     else some {s with u:={s.u with j3:=c,Q2:=z,M7:=p,H8:=g},y9:=w})=
     some ({s with u:={s.u with j3:=c2,Q2:=z,M7:=p2,H8:=g},y9:=w2}:j9)/\bo1 T s.u.j3 c2/\phB p2=true/\Sc.Trk m t0 L N c2 w2:=by
    cases z.ay6==0
    ·exact⟨c,p,w,rfl,hc,hp,hw⟩
    ·obtain⟨r,e4,q4,q5⟩:=eG0 p
     simp only[fj8,q4,aH3]
     have hr:phB (bif e4 !=0 then p else r)=true:=by
      by_cases he:e4=0
      ·subst he;exact q5 rfl
      ·rw[enz he];exact hp
     generalize(bif e4 !=0 then p else r)=p3 at hr|-
     cases p3.aY0
     ·simp only[cI0,fj8]
      obtain⟨c3,w3,q6,h6,h7⟩:=ev7 (T:=T) (s:={s with u:={s.u with j3:=c,Q2:=z,M7:=p3,H8:=g},y9:=w}) hc.self hw a ha (by omega)
      rw[q6]
      exact⟨c3,p3,w3,rfl,hc.trans h6,hr,h7⟩
     ·exact⟨c,p3,w,rfl,hc,hr,hw⟩
   obtain⟨c2,p2,w2,q7,h7,h8,h9⟩:=key
   simp only[eK6,eo5,cl7,aH3]
   rw[q7]
   simp only[aH3]
   cases p2.aY0
   ·exact⟨c2,z,p2,g,w2,rfl,h7,hy,h8,hf,h9.more (by omega)⟩
   ·simp only[fj8]
    obtain⟨k,e8,q8,hk8,hA8⟩:=eA3 a z.ay6 p2.bF9 z.F9 (ed2 hy.1)
    have hc9:=h9.cnt
    obtain⟨t3,l3,e9,q9,hl3,h10,h11⟩:=ec3 h7.self h9 k (by omega) hA8
    simp only[q8,q9,aH3]
    rw[bV2 _ t3 l3 e9 (by simp only;omega)]
    simp only[aH3]
    exact⟨_,z,p2,g,_,rfl,h7.trans h10,hy,h8,hf,h11⟩
  ·exact⟨c,z,p,g,w,rfl,hc,hy,hp,hf,hw.more (by omega)⟩
 ·exact⟨_,_,_,g,_,rfl,h.sch,h.sy,h.ph,hf,hk.more (by omega)⟩
theorem dc5 {hi:Int}:∀(l:List Int) (lo:Int),lo<=hi+383->l.Pairwise (· <·)->(∀x∈l,x%384=0)->(∀x∈l,lo<x)->(∀x∈l,x<=hi)->384*(l.length:Int)<=hi-lo+383
 |[],lo,h,_,_,_,_=>by simp only[cr1];omega
 |x::l,lo,h,hp,hm,h1,h2=>by
  rw[ee3]at hp
  have hx:=h1 x (bx8 ..)
  have hx2:=h2 x (bx8 ..)
  have hxm:=hm x (bx8 ..)
  have:=dc5 l (x+383) (by omega) hp.2 (fun y hy=>hm y (bF8 _ hy)) (fun y hy=>by
   have a:=hp.1 y hy
   have b:=hm y (bF8 _ hy)
   omega) (fun y hy=>h2 y (bF8 _ hy))
  rw[bq0]
  push_cast
  omega
theorem eI5 {s:j9}{l:List Int}(hp:bG2 s.u.Y4 s.u.A6)(ht:0<=s.t/\s.t<=1099511627776)(he:Edg (s.u.A6.I8/65536) ((s.u.A6.I8+10000*s.u.A6.D2)/65536) l):
  ∃r,(aw6 s l).m=some r/\r.length<=l.length/\∀x∈r,x<=s.t+10000:=by
 have h1:=hp.pos
 have h2:=hp.spd
 have hn:=he.len
 by_cases h0:s.u.A6.D2=0
 ·have h3:l=[]:=by
   cases l with
   |nil=>rfl
   |cons x l=>
    have a:=he.lo x (bx8 ..)
    have b:=he.hi x (bx8 ..)
    rw[h0]at b
    simp only[Int.mul_zero,Int.add_zero]at b
    omega
  subst h3
  simp only[aw6,CG.of,M.run]
  obtain⟨r,h3,h4⟩:=au4 ([]:List Int) (by simp) (fun i x (o:List Int)=>(aF4 s i x o).run) (fun _ o=>o=[]) [] rfl (fun k x o hx _=>by simp at hx)
  rw[h3]
  subst h4
  exact⟨[],rfl,by simp,by simp⟩
 ·obtain⟨r,e1,e2,e3⟩:=dh1 s l (by omega) (by omega) h1 ht (fun x hx=>by have:=he.hi x hx;omega) (fun x hx=>by have:=he.lo x hx;omega)
  exact⟨r,e1,by omega,e3⟩
structure eN2 (T:Int)(m:Nat)(t0:Int)(L:Nat->Bool)(s0:j9)(N:Nat)(c:c8)(y:Y9)(p:aa8)(f:X8)(w:List j8):Prop where
 sch:bo1 T s0.u.j3 c
 sy:syB y=true/\y.H0<=T
 ph:phB p=true
 tf:tfB f=true/\f.H0<=T
 trk:Sc.Trk m t0 L N c w
theorem eB1 {T:Int}{s:j9}{m:Nat}{t0:Int}{L:Nat->Bool}{N:Nat}(h:Tee T s)(hk0:Sc.Trk m t0 L N s.u.j3 s.y9)(l v:List Int)(hl:l.length<=1000)(hx:∀x∈l,x<=T)(hv:v.length<=1000)(hN:N<=10000):
  ∃v' c y p f w,L5 (fun p:Int×(List Int×j9)=>bif decide (p.1<(l.length:Int))then((D4 l p.1).bind fun x=>((fun i x u=>(aU4 i x u).run) p.1 x p.2).bind (az5 p.1))else some (.inr (.inl p.2))) (0,(v,s))=some (.inl (v',upS s c y p f w))/\v'.length<=1000/\eN2 T m t0 L s (N+6*l.length) c y p f w:=by
 obtain⟨u,e1,⟨hu,c,y,p,f,w,h2,h3⟩⟩:=au4 l (by omega) (fun i x (u:List Int×j9)=>(aU4 i x u).run)
  (fun k u=>u.1.length<=1000/\∃c y p f w,u.2=upS s c y p f w/\eN2 T m t0 L s (N+6*k) c y p f w) (v,s)
  ⟨hv,s.u.j3,s.u.Q2,s.u.M7,s.u.H8,s.y9,rfl,h.sch,h.sy,h.ph,h.tf,hk0⟩ (fun k x u hk hI=>by
   obtain⟨hu,c,y,p,f,w,h2,h3⟩:=hI
   obtain⟨v1,u2⟩:=u
   simp only at hu h2
   subst h2
   have hkl:=(bt7.1 hk).1
   obtain⟨l',p',q1,q2,q3⟩:=db8 x v1 (upS s c y p f w) h3.ph (by omega)
   simp only[aU4,M.run]
   rw[q1]
   simp only[aH3]
   obtain⟨c2,y2,p2,f2,w2,r1,r2,r3,r4,r5,r6⟩:=eI6 (T:=T) (s:=upS s c y p' f w) ⟨h.t0,h3.sch.self,h3.sy,q2,h3.tf⟩ h3.trk x (hx x (cY9 hk)) (by omega)
   simp only at r1 r2
   rw[r1]
   exact⟨_,rfl,by simp only;omega,c2,y2,p2,f2,w2,rfl,h3.sch.trans r2,r3,r4,r5,r6.more (by omega)⟩)
 obtain⟨v',u2⟩:=u
 simp only at hu h2
 subst h2
 exact⟨v',c,y,p,f,w,e1,hu,h3⟩
theorem eW1 {s:j9}{m:Nat}{t0:Int}{L:Nat->Bool}{N:Nat}(h:Tee (s.t+10000) s)(hk:Sc.Trk m t0 L N s.u.j3 s.y9)(hp:bG2 s.u.Y4 s.u.A6)(ht:0<=s.t/\s.t+10000<=549755813888)(hN:N<=1000):
  ∃c y p f w,(aO7 s).m=some (upS s c y p f w)/\eN2 (s.t+10000) m t0 L s (N+630) c y p f w/\c.j4.Q7=s.t+10000:=by
 have bJ2:=hp.pos
 have hspd:=hp.spd
 have ht0:=h.t0
 obtain⟨r,e,e1,h1⟩:=ew3 s.u.Q2 s.t
 have hy:syB (bif e !=0 then s.u.Q2 else r)=true/\(bif e !=0 then s.u.Q2 else r).H0<=s.t+10000:=by
  by_cases he:e=0
  ·subst he
   obtain⟨q1,q2⟩:=h1 rfl
   rw[show((0:Int) !=0)=false from rfl]
   refine⟨q1,?_⟩
   simp only[fj6]
   rcases q2 with q2|q2
   ·rw[q2];exact h.sy.2
   ·rw[q2];exact ht0
  ·rw[enz he];exact h.sy
 simp only[aO7,CG.of,M.run,eK9,cy2,cl7,e1,eo9,aH3]
 generalize(bif e !=0 then s.u.Q2 else r)=z at hy|-
 obtain⟨c,p,w,q3,hc,hph,hw⟩:=du3 (T:=s.t+10000) h.sch hk h.ph z s.t (by omega) (by omega)
 rw[q3]
 simp only[aH3]
 rw[j6 (n:=10000*s.u.A6.D2) (by omega) (by omega),j6 (n:=s.u.A6.I8+10000*s.u.A6.D2) (by omega) (by omega),cr3 bJ2.1,cr3 (show 0<=s.u.A6.I8+10000*s.u.A6.D2 by omega),
  j6 (n:=s.u.A6.I8/65536) (by omega) (by omega),j6 (n:=(s.u.A6.I8+10000*s.u.A6.D2)/65536) (by omega) (by omega)]
 obtain⟨l1,e4,b1,b2,b5⟩:=dV8 (s.u.A6.I8/65536) ((s.u.A6.I8+10000*s.u.A6.D2)/65536)
 obtain⟨l2,e5,b3,b4⟩:=dF7 (s.u.A6.I8/65536) ((s.u.A6.I8+10000*s.u.A6.D2)/65536)
 rw[b1]
 simp only[aH3]
 rw[b3]
 simp only[aH3]
 generalize hsv:({s with u:={s.u with j3:=c,Q2:=z,M7:=p},y9:=w}:j9)=sv
 have hv1:sv.u.Y4=s.u.Y4:=by subst hsv;rfl
 have hv2:sv.u.A6=s.u.A6:=by subst hsv;rfl
 have hv3:sv.t=s.t:=by subst hsv;rfl
 obtain⟨v7,e7,k7,k8⟩:=ed4 (s:=sv) (l:=l2) (by rw[hv1,hv2];exact hp) (by rw[hv3];omega) (by rw[hv2];exact b4)
 obtain⟨v8,e8,k9,k10⟩:=eI5 (s:=sv) (l:=l1) (by rw[hv1,hv2];exact hp) (by rw[hv3];omega) (by rw[hv2];exact b2)
 rw[e7]
 simp only[aH3]
 rw[e8]
 simp only[aH3]
 rw[hv3]at k10
 have htee:Tee (s.t+10000) sv:=by subst hsv;exact⟨ht0,hc.self,hy,hph,h.tf⟩
 have hsw:Sc.Trk m t0 L N sv.u.j3 sv.y9:=by subst hsv;exact hw
 have h105:384*(l1.length:Int)<=(s.u.A6.I8+10000*s.u.A6.D2)/65536-s.u.A6.I8/65536+383:=dc5 l1 _ (by omega) b2.asc b5 b2.lo b2.hi
 obtain⟨v',c2,y2,p2,f2,w2,e9,n9,t9⟩:=eB1 htee hsw v8 v7 (by omega) k10 k7 (by omega)
 rw[e9]
 simp only[aH3]
 obtain⟨p3,e10,h10⟩:=db7 v' (upS sv c2 y2 p2 f2 w2) t9.ph (by omega)
 rw[e10]
 simp only[aH3]
 have hg:=t9.sch
 have bx2:=hg.now
 have hok:=hg.ok
 have dX7:=hok.most
 rw[hv3,j6 (n:=s.t+10000) (by omega) (by omega),bm0,Sc.dS2 hok (by have:=hg.few;omega) (s.t+10000) bx2 (by omega)]
 obtain⟨a1,a2,a3,a4⟩:=Sc.bG6 hok (s.t+10000) bx2 (by omega)
 have a5:=Sc.dk7 hok (s.t+10000) bx2
 have hfew:=t9.trk.cnt
 simp only[aH3]
 rw[bV2 _ _ (Sc.goE (s.t+10000) c2).1 0 (by simp only;omega)]
 have hsc:sv.u.j3=c:=by subst hsv;rfl
 rw[hsc]at hg
 refine⟨(Sc.goE (s.t+10000) c2).2,y2,p3,f2,w2++(Sc.goE (s.t+10000) c2).1,?_,⟨hc.trans (hg.trans ⟨a1,by rw[a3];exact hg.few,a2,by omega,by omega⟩),t9.sy,h10,t9.tf,(t9.trk.go hok _ bx2 (by omega)).more (by omega)⟩,a4⟩
 subst hsv
 rfl
structure SwL (l:List j8):Prop where
 few:l.length<=1000
 asc:l.Pairwise fun a b=>a.At<=b.At
 tim:∀w∈l,0<=w.At/\w.At<=1099511627776
 chn:∀w∈l,0<=w.Channel/\w.Channel<16
theorem eS3 {l:List j8}(h:SwL l):(bw0 l).m=some true:=by
 have hf:=h.few
 simp only[bw0,C.of,M.run]
 rw[fk3 (show¬(l.length:Int)>1000 by omega)]
 simp only[fj6]
 obtain⟨s,e,_⟩:=au4 l (by omega) (fun i x (s:Int)=>(aZ1 i x s).run) (fun k s=>(k=0/\s=0)\/∃w,(1<=k/\l[k-1]? =some w)/\s=w.At) 0 (.inl ⟨rfl,rfl⟩) (fun k x s hx hI=>by
  have hm:=cY9 hx
  have h1:=h.tim x hm;have h2:=h.chn x hm
  have hs:s<=x.At:=by
   rcases hI with⟨_,rfl⟩|⟨w,⟨hk,hw⟩,rfl⟩
   ·exact h1.1
   ·obtain⟨a1,a2⟩:=bt7.1 hx
    obtain⟨b1,b2⟩:=bt7.1 hw
    have:=List.pairwise_iff_getElem.1 h.asc (k-1) k b1 a1 (by omega)
    rw[a2,b2]at this
    exact this
  simp only[aZ1,M.run,cH9,aH3]
  rw[aH0.2 h1,fk3 (show¬x.At<s by omega),fk3 (show¬x.Channel<0 by omega),fk3 (show¬x.Channel>=16 by omega)]
  exact⟨_,rfl,.inr ⟨x,⟨by omega,hx⟩,rfl⟩⟩)
 rw[e]
 rfl
theorem eT2 (g:ao4)(l:List j8):∃x,(cg7 g l).m=some x/\x.1.length<=1000/\(g.K7=false->∀w∈x.1,w.E3=false)/\(g.K7=true->sgB g=true->SwL l->x.1=l):=by
 obtain⟨b,e1,h1⟩:=ep4 l
 simp only[cg7,C.of,M.run,cT5,aH3]
 cases hv:sgB g
 ·exact⟨_,rfl,by simp,fun _ w hw=>by simp at hw,fun _ h=>by cases h⟩
 ·simp only[aP9,fj6,e1,aH3]
  cases b
  ·exact⟨_,rfl,by simp,fun _ w hw=>by simp at hw,fun _ _ h=>by rw[eS3 h]at e1;cases e1⟩
  ·have hl:=h1 rfl
   simp only[aP9,fj6,aH3]
   rw[dW1 l (by omega)]
   simp only[aH3]
   have e2:(N7 l (.of (fun z_=>cp4 z_ g) 277 [bu3 g])).m=some (l.filter fun y=>!(y.E3&& !g.K7)):=eP2 l (by omega) _ (fun y=>y.E3&& !g.K7) (fun y _=>rfl)
   rw[e2]
   refine⟨_,rfl,Nat.le_trans (List.length_filter_le ..) hl,fun hE w hw=>?_,fun hE _ _=>?_⟩
   ·have:=(List.mem_filter.1 hw).2
    rw[hE]at this
    simpa using this
   ·rw[hE];simp
theorem et5 (s:j9):∃l,(bo7 s).m=some ⟨s.t,s.o9,s.S9,s.U8,l,s.Y7,!s.u.J1.K7⟩/\l.length<=1000/\(s.u.J1.K7=false->∀w∈l,w.E3=false)/\(s.u.J1.K7=true->sgB s.u.J1=true->SwL s.y9->l=s.y9):=by
 obtain⟨x,e1,h1,h2⟩:=eT2 s.u.J1 s.y9
 simp only[bo7,CG.of,M.run,e1,aH3]
 exact⟨_,rfl,h1,h2⟩
theorem eW5 {s:c8}(h:Sch s s)(l:List A1)(hl:l.length<=8):∃t e,(aq8 s l).m=some (t,e)/\Sch s (bif e !=0 then s else t)/\(bif e !=0 then s else t).j4=s.j4/\(bif e !=0 then s else t).D1=s.D1:=by
 have hm:=h.ok.most
 rw[ck3,Sc.ew2 s l (by have:=h.few;omega) (by omega) (by omega),Sc.aY9.2 h.ok]
 cases hw:Sc.aT3 s.p6 l
 ·exact⟨_,_,rfl,h,rfl,rfl⟩
 ·exact⟨_,_,rfl,⟨Sc.eJ1 h.ok hw,hl,rfl,rfl⟩,rfl,rfl⟩
theorem et7 {s:c8}(h:Sch s s):∃t e,(ac4 s).m=some (t,e)/\Sch s (bif e !=0 then s else t)/\(bif e !=0 then s else t).j4=s.j4/\(bif e !=0 then s else t).D1=s.D1:=by
 have hm:=h.ok.most
 have hc:=h.ok.chs
 have he:=h.ok.eng.2.1
 rw[bY5,Sc.dL1 s (by have:=h.few;omega) (by omega) (by omega),Sc.aY9.2 h.ok]
 simp only[aP9,fj6]
 cases(!s.Cut||s.j4.j1.any fun x=>x.E3)
 ·exact⟨_,_,rfl,⟨Sc.eF8 h.ok,h.few,rfl,rfl⟩,rfl,rfl⟩
 ·exact⟨_,_,rfl,h,rfl,rfl⟩
theorem fa3 {s:c8}(h:Sch s s):∃t l,(ao8 s).m=some (t,l,0)/\Sch s t/\l.length<=100:=by
 obtain⟨t,l,e,k⟩:=Sc.Sx.dS4 h.ok (by have:=h.few;omega)
 rw[bC7]
 exact⟨t,l,e,⟨k.ok,by rw[k.next];exact h.few,k.eng,k.now⟩,k.few⟩
theorem el9 {s:j9}(hgr:grB s.u.M1=true)(hqz:qzB s.u.K3=true)(htm:ad6 s.t=true)(hg:sgB s.u.J1=true/\s.u.J1.aQ6<=s.t)(h:Sch s.u.j3 s.u.j3)(hf:s.E9.O1.length<=8)(hl:s.y9.length<=1000000):
  ∃g c w,(ba1 s).m=some {s with u:={s.u with j3:=c,J1:=g},y9:=w}/\
   (sgB g=true/\g.aQ6<=s.t)/\Sch s.u.j3 c/\w.length<=s.y9.length+100/\g.K7=(csV true s.u.M1 s.u.K3==0)/\(g.K7=true->w=s.y9/\c.j4=s.u.j3.j4/\c.D1=s.u.j3.D1):=by
 obtain⟨r,e,e1,h1,h0⟩:=eH5 s.u.J1 true s.u.M1 s.u.K3 s.t
 have hen:(bif e !=0 then s.u.J1 else r).K7=(csV true s.u.M1 s.u.K3==0):=by
  have he:=h0 hg.1 hgr hqz htm hg.2
  subst he
  exact(h1 rfl).2.2
 have hr:sgB (bif e !=0 then s.u.J1 else r)=true/\(bif e !=0 then s.u.J1 else r).aQ6<=s.t:=by
  by_cases he:e=0
  ·subst he
   obtain⟨q1,q2,_⟩:=h1 rfl
   rw[show((0:Int) !=0)=false from rfl]
   exact⟨q1,by simp only[fj6];omega⟩
  ·rw[show(e !=0)=true by simpa using he];exact hg
 simp only[ba1,CG.of,M.run,fb8,eR9,e1,aH3]
 generalize(bif e !=0 then s.u.J1 else r)=g at hr hen|-
 cases hE:g.K7
 ·obtain⟨t,l,e2,h2,h3⟩:=fa3 h
  simp only[cI0,fj8,e2,aH3]
  rw[bV2 _ _ l 0 (by simp only;omega)]
  simp only[aH3]
  exact⟨g,t,s.y9++l,rfl,hr,h2,by rw[aY1];omega,hE▸hen,fun h=>by rw[hE]at h;cases h⟩
 ·simp only[aP9,fj6]
  have key:∃c,(bif s.u.j3.Cut then(aC9 s.u.j3).m.bind fun t=>(ac4 s.u.j3).m.bind fun t_1=>(am9 t_1.1 t_1.2 t).m.bind fun t=>some t else some s.u.j3)=some c/\Sch s.u.j3 c/\c.j4=s.u.j3.j4/\c.D1=s.u.j3.D1:=by
   cases s.u.j3.Cut
   ·exact⟨_,rfl,h,rfl,rfl⟩
   ·obtain⟨t,e,e2,h2⟩:=et7 h
    simp only[fj8,eo7,dI1,e2,aH3]
    exact⟨_,rfl,h2⟩
  obtain⟨c,e3,h3,k3,k4⟩:=key
  rw[e3]
  simp only[aH3]
  obtain⟨t,e,e4,h4,k5,k6⟩:=eW5 (s:=c) ⟨h3.ok,h3.few,rfl,rfl⟩ s.E9.O1 hf
  simp only[eo7,dI1,e4,aH3]
  exact⟨g,_,s.y9,rfl,hr,⟨h4.ok,h4.few,h4.eng.trans h3.eng,h4.now.trans h3.now⟩,by omega,hE▸hen,fun _=>⟨rfl,k5.trans k3,k6.trans k4⟩⟩
theorem dZ7 {s:j9}(hs:SOk s)(hk:∀b∈s.k,b.ba9≠7)(ho:s.u.M1.Off=false)(ha:ez5 s)(ht:cd8 s.u.u9=true)(hg:bz1 s.u.j3.p6 s.u.u5=true)(hgr:grB s.u.M1=true)(h1:1<=s.E9.O1.length)(h8:s.E9.O1.length<=8):
  ∃g f p c b,(aU2 s).m=some {s with u:={s.u with M1:=g},E9:=⟨s.E9.J2,f,s.E9.p7⟩,U8:=p,A0:=c,cut:=b}/\
   (grB g=true/\g.Off=false)/\f.length=s.E9.O1.length/\100<=p:=by
 have hc:=ce9.1 hg
 have hp:=(dR2.1 hc.ped).v
 have h2:=ha.aQ3;have h3:=ha.D6;have h4:=ha.C1
 have tok:=dg8 ht
 have e1:(aw9 s.u.u5.I7.Value s.o9 s.D6).m=some (dD8 s.u.u5.I7.Value s.o9 s.D6):=by
  rw[bP9];exact ef6 h3
 have e2:(aC4 s.u.u9 s.o9 s.C1 s.aQ3).m=some (chV s.u.u9 s.o9 s.C1 s.aQ3,0):=by
  rw[bZ7];exact ci4 tok.air hs.spd (by omega) h2
 have hch:0<=chV s.u.u9 s.o9 s.C1 s.aQ3/\chV s.u.u9 s.o9 s.C1 s.aQ3<=1048576:=
  be6 tok (⟨0,0,s.o9,s.C1,s.aQ3,13500,s.aJ6,s.D6,[],[]⟩:W5)
 obtain⟨v,k,_,e3,_⟩:=cu5 tok.cy4 s.o9 s.u.u5.I7.Value
 have mm:cB8=cT1:=funext fun r=>cp9 ((dS0 r).symm.trans (dK0 r))
 have r9:cT1 ⟨9,1,s.at8,15⟩=true:=by rw[co8,fk4];exact fd1 _ ha.at8
 have r1:cT1 ⟨1,2,1500,1⟩=true:=by rw[co8,fk4];exact fd0 _ (by omega)
 have e4:∀l:List j2,l.all cT1=true->l.length<=32->∃p e,(ae1 s.u.u9 s.u.u5.I7.Value s.o9 l).m=some (p,e)/\100<=p:=fun l hl hn=>by
  rw[bQ3,dn0 s.u.u9 s.u.u5.I7.Value s.o9 tok.cy4 (by
   have hsp:=hs.spd
   rw[fk0 (show s.u.u5.I7.Value>=0 by omega),fk0 (show s.u.u5.I7.Value<=1000 by omega),fk0 hsp.1,fk0 hsp.2];rfl) k e3 l (by rw[mm];exact hl) hn]
  exact⟨_,_,rfl,er5 _ _ _⟩
 have e5:∃l:List j2,(bif dD8 s.u.u5.I7.Value s.o9 s.D6 then(U5 ([⟨9,1,s.at8,15⟩]:List j2) ([⟨1,2,1500,1⟩]:List j2)).bind fun t=>some t else some ([⟨9,1,s.at8,15⟩]:List j2))=some l/\l.all cT1=true/\l.length<=32:=by
  cases dD8 s.u.u5.I7.Value s.o9 s.D6
  ·exact⟨_,rfl,by simp[r9],by simp⟩
  ·rw[H7 _ _ (by simp)]
   exact⟨_,rfl,by simp[r9,r1],by simp⟩
 obtain⟨l,e6,l1,l2⟩:=e5
 obtain⟨p,e,e7,hp100⟩:=e4 l l1 l2
 simp only[aU2,CG.of,M.run,L1.m,U1.m,cB9,e1,aH3]
 rw[e6]
 simp only[aH3,e7,e2]
 obtain⟨a1,e8⟩:=dE1 (c:=⟨s.u,s.d,s.k,s.t,s.o9,s.Y7,s.at8,s.C1,s.aQ3,s.D6,s.aJ6,s.E9,p,chV s.u.u9 s.o9 s.C1 s.aQ3,s.known,s.cut,s.y9,s.S9⟩) ht hs.spd hch h1 h8
 rw[e8]
 simp only[aH3]
 have e9:=bR1 (n:=7) (s:=⟨s.u,s.d,s.k,s.t,s.o9,s.Y7,s.at8,s.C1,s.aQ3,s.D6,s.aJ6,s.E9,p,chV s.u.u9 s.o9 s.C1 s.aQ3,s.known,s.cut,s.y9,s.S9⟩) ⟨hs.few,hs.val,hs.ped,hs.pre,hs.t,hs.spd⟩ hk
 rw[e9]
 simp only[aH3]
 have gk:∀x:Int,x<=p->∃g e,(aV5 s.u.M1 p x).m=some (g,e)/\(grB (bif e !=0 then s.u.M1 else g)=true/\(bif e !=0 then s.u.M1 else g).Off=false):=fun x hx=>by
  obtain⟨h,e,q1,q2⟩:=eQ6 (g:=s.u.M1) hx
  refine⟨h,e,q1,?_⟩
  by_cases he:e=0
  ·subst he;exact⟨(q2 rfl).1,(q2 rfl).2.trans ho⟩
  ·rw[show(e !=0)=true by simpa using he];exact⟨hgr,ho⟩
 cases aK5:(decide (a1>p)&& !false)
 ·simp only[fj6,aH3,eK5]
  obtain⟨g,e,q1,q2⟩:=gk a1 (by simp at aK5;omega)
  rw[q1]
  simp only[aH3,eo4]
  exact⟨_,_,_,_,_,rfl,q2,rfl,hp100⟩
 ·simp only[fj8]
  obtain⟨f,w1,w2⟩:=ai6 s.E9.O1.length (by omega) (fun i (o:List A1)=>(aW8 i o).run) (fun k o=>o.length=s.E9.O1.length/\∀x∈o.take k,x.Y5=0) s.E9.O1 ⟨rfl,by simp⟩ (fun k o hk hI=>by
   have hI1:=hI.1
   simp only[aW8,M.run,L1.m,U1.m,T5]
   rw[aK2 (by omega)]
   simp only[aH3,am4]
   rw[if_pos (by omega)]
   refine⟨_,rfl,by rw[dI2];exact hI1,?_⟩
   intro x hx
   rw[List.take_succ_eq_append_getElem (by rw[dI2];omega),cI5,List.mem_singleton]at hx
   rcases hx with hx|hx
   ·rw[show((k:Nat):Int).toNat=k by omega,List.take_set_of_le (cq9 _)]at hx
    exact hI.2 x hx
   ·subst hx
    simp only[show((k:Nat):Int).toNat=k by omega,dC7])
  rw[w1]
  simp only[aH3]
  have hz:∀x∈f,x.Y5=0:=fun x hx=>w2.2 x (by rw[<-w2.1,ee6];exact hx)
  have w21:=w2.1
  have e10:=dp7 (c:=⟨s.u,s.d,s.k,s.t,s.o9,s.Y7,s.at8,s.C1,s.aQ3,s.D6,s.aJ6,⟨s.E9.J2,f,s.E9.p7⟩,p,chV s.u.u9 s.o9 s.C1 s.aQ3,s.known,true,s.y9,s.S9⟩) ht hs.spd hch (by simp only;omega) (by simp only;omega) hz
  rw[e10]
  simp only[aH3,eK5]
  obtain⟨g,e,q1,q2⟩:=gk 0 (by omega)
  rw[q1]
  simp only[aH3,eo4]
  exact⟨_,_,_,_,_,rfl,q2,w2.1,hp100⟩
theorem eV3 {s:j9}(hs:SOk s){V:Bool×Bool×Bool×Bool×Bool×Bool×Bool}(hb:(aU0 s).m=some V){cyc:Int}{t:Nat->Bool}(hc:Fr.Cfs cf0)(h:Fr.Inv cf0 s.u.I0 cyc true t)(h0:1<=cyc)(h1:cyc<=1073741824):
  ∃r t',(bk6 s).m=some r/\fg9 s r/\Fr.Inv cf0 r.u.I0 cyc true t'/\bG3 cf0 cyc (bl V) s.u.I0 r.u.I0 7/\(∀p:Int->Bool,(∀c:Nat,(h:c<r.u.I0.L.length)->(ad3 .i64 (r.u.I0.L[c]).G5 5 !=0)=p (c:Int))->r.Y7=bO5 p 7):=by
 obtain⟨i,f,t',e1,hi,hts⟩:=dB4 hs V hc (by rw[by6];exact cq9 _) h h0 h1
 have hv:(Z3 f).m=some true:=by rw[be4];exact Fr.bV6 hc hi (by omega) h1 (fun _=>h0)
 obtain⟨a,ea,ha,hr2⟩:=dD9 hv (by rw[hi.len,by6])
 have hact:∀p:Int->Bool,(∀c:Nat,(h:c<f.L.length)->(ad3 .i64 (f.L[c]).G5 5 !=0)=p (c:Int))->a=bO5 p 7:=fun p hp=>by
  have:=di1 hv (by rw[hi.len,by6]) p hp
  rw[ea]at this
  exact(Prod.mk.inj (cp9 this)).1
 have hr:∀x∈a,0<=x.T4/\x.T4<7:=fun x hx=>(hr2 x hx).1
 simp only[bk6,CG.of,M.run,hb,aH3]
 rw[e1]
 simp only[aH3,cY4,ea]
 obtain⟨v6,e6,h6⟩:=dg9 0 10000 (⟨(⟨s.u.u9,s.u.u5,s.u.j3,s.u.Q2,s.u.M7,s.u.H8,s.u.M1,s.u.K3,s.u.J1,f,s.u.A6,s.u.Y4,s.u.Time⟩:af3),s.d,s.k,s.t,s.o9,a,s.at8,s.C1,s.aQ3,s.D6,s.aJ6,s.E9,s.U8,s.A0,s.known,s.cut,s.y9,s.S9⟩:j9) ha hr
 rw[e6];simp only[aH3]
 have ok:∀(a:List W0) (l p h c q:Int),SOk (⟨(⟨s.u.u9,s.u.u5,s.u.j3,s.u.Q2,s.u.M7,s.u.H8,s.u.M1,s.u.K3,s.u.J1,f,s.u.A6,s.u.Y4,s.u.Time⟩:af3),s.d,s.k,s.t,s.o9,a,l,p,h,c,q,s.E9,s.U8,s.A0,s.known,s.cut,s.y9,s.S9⟩:j9):=fun a l p h c q=>⟨hs.few,hs.val,hs.ped,hs.pre,hs.t,hs.spd⟩
 have tt:∀(n o:Int) (l p h c q:Int),∃v,(as1 n o R0 (⟨(⟨s.u.u9,s.u.u5,s.u.j3,s.u.Q2,s.u.M7,s.u.H8,s.u.M1,s.u.K3,s.u.J1,f,s.u.A6,s.u.Y4,s.u.Time⟩:af3),s.d,s.k,s.t,s.o9,a,l,p,h,c,q,s.E9,s.U8,s.A0,s.known,s.cut,s.y9,s.S9⟩:j9)).m=some v:=fun n o l p h c q=>by
  obtain⟨v,e,_⟩:=dg9 n o (⟨(⟨s.u.u9,s.u.u5,s.u.j3,s.u.Q2,s.u.M7,s.u.H8,s.u.M1,s.u.K3,s.u.J1,f,s.u.A6,s.u.Y4,s.u.Time⟩:af3),s.d,s.k,s.t,s.o9,a,l,p,h,c,q,s.E9,s.U8,s.A0,s.known,s.cut,s.y9,s.S9⟩:j9) ha hr
  exact⟨v,e⟩
 obtain⟨v7,e7,_⟩:=aS3 (ok a v6 s.C1 s.aQ3 s.D6 s.aJ6) 2
 rw[e7];simp only[aH3]
 obtain⟨v8,e8⟩:=tt 1 v7 v6 s.C1 s.aQ3 s.D6 s.aJ6
 rw[e8];simp only[aH3,aT7]
 have c9:=bm2 v8 50 1013 (by omega)
 generalize F5 (G7 v8 50) 1013=v9 at c9|-
 obtain⟨v10,e10,_⟩:=aS3 (ok a v6 v9 s.aQ3 s.D6 s.aJ6) 3
 rw[e10];simp only[aH3]
 obtain⟨v11,e11⟩:=tt 2 v10 v6 v9 s.aQ3 s.D6 s.aJ6
 rw[e11];simp only[aH3,aT7]
 have c12:=bm2 v11 (-40) 150 (by omega)
 generalize F5 (G7 v11 (-40)) 150=v12 at c12|-
 obtain⟨v13,e13,_⟩:=aS3 (ok a v6 v9 v12 s.D6 s.aJ6) 4
 rw[e13];simp only[aH3]
 obtain⟨v14,e14⟩:=tt 3 v13 v6 v9 v12 s.D6 s.aJ6
 rw[e14];simp only[aH3,aT7]
 have c15:=bm2 v14 (-40) 150 (by omega)
 generalize F5 (G7 v14 (-40)) 150=v15 at c15|-
 obtain⟨v16,e16,_⟩:=aS3 (ok a v6 v9 v12 v15 s.aJ6) 5
 rw[e16];simp only[aH3]
 obtain⟨v17,e17⟩:=tt 4 v16 v6 v9 v12 v15 s.aJ6
 rw[e17];simp only[aH3,aT7]
 exact⟨_,t',rfl,⟨rfl,rfl,rfl,rfl,rfl,rfl,rfl,rfl,rfl,rfl,rfl,rfl,rfl,rfl,rfl,rfl,rfl,rfl,rfl,⟨ha,fun x hx=>(hr2 x hx).2⟩,h6 (by omega) (by omega),c9,c12,c15,bm2 _ _ _ (by omega)⟩,hi,hts,hact⟩
structure eJ4 (u v:af3)(r:ae8)(Q:ac8->Prop)(V:Bool×Bool×Bool×Bool×Bool×Bool×Bool)(R:c8->List j8->Prop):Prop where
 ok:UOk v
 time:v.Time=u.Time+10000
 rc:fg8 r
 guard:v.M1.Off=false
 fj7:Q v.K3
 flt:∃cyc,1<=cyc/\bG3 cf0 cyc (bl V) u.I0 v.I0 7
 act:∀p:Int->Bool,(∀c:Nat,(h:c<v.I0.L.length)->(ad3 .i64 (v.I0.L[c]).G5 5 !=0)=p (c:Int))->r.as8=bO5 p 7
 off:r.Off=v.K3.Off
 bound:100<=r.ee9
 at':r.Time=u.Time
 quiet:r.Off=true->r.p7=0/\∀w∈r.am6,w.E3=false
 sws:r.Off=false->∃w,R v.j3 w/\(SwL w->r.am6=w)
theorem ea8 {u:af3}{d:N1}{k:List ah5}{Q:ac8->Prop}{V:Bool×Bool×Bool×Bool×Bool×Bool×Bool}{R:c8->List j8->Prop}(hc:Fr.Cfs cf0)(h:UOk u)(hd:DOk d k)(ht:u.Time+10000<=549755813888)(hk:∀b∈k,b.ba9≠7)(ho:u.M1.Off=false)
  (hbad:∀s:j9,SOk s->s.k=k->s.t=u.Time->s.u.M1=u.M1->s.u.K3=u.K3->(aU0 s).m=some V)
  (hturn:∀s:j9,Tee (s.t+10000) s->bG2 s.u.Y4 s.u.A6->(0<=s.t/\s.t+10000<=549755813888)->s.y9.length<=1000->s.t=u.Time->s.u.j3.p6=u.j3.p6->(s.u.J1.K7=true->s.y9=[]/\s.u.j3.j4=u.j3.j4/\s.u.j3.D1=u.j3.D1)->Q s.u.K3->s.u.J1.K7=(!s.u.K3.Off)->∃c y p f w,(aO7 s).m=some (upS s c y p f w)/\Tst (s.t+10000) s 20000000 c y p f w/\c.j4.Q7=s.t+10000/\(s.u.J1.K7=true->R c w))
  (hask:∀s:j9,SOk s->s.u.K3=u.K3->s.k=k->s.t=u.Time->∃q,(aF3 s).m=some {s with u:={s.u with K3:=q}}/\qzB q=true/\q.ar9<=s.t/\Q q):
  ∃v r,(bR6 u d k).m=some (v,r)/\eJ4 u v r Q V R:=by
 have hspd:=h.pl.spd
 have hti:=h.time
 have e0:=eH3 u.A6.D2 hspd.1 hspd.2
 have hrpm:0<=u.A6.D2*60000000/1509949440/\u.A6.D2*60000000/1509949440<=12000:=by omega
 simp only[bR6,C.of,M.run,e0,aH3]
 generalize u.A6.D2*60000000/1509949440=rpm at hrpm|-
 generalize((u.Q2.Mode==2)&&u.M7.aY0)=kn
 have m0:Mid u.Time (⟨u,d,k,u.Time,rpm,([]:List W0),0,0,0,0,0,(⟨0,([]:List A1),0⟩:O5),0,0,kn,false,([]:List j8),0⟩:j9):=
  ⟨⟨hd.few,hd.val,hd.ped,h.pl.pre,⟨by simp only;omega,by simp only;omega⟩,hrpm⟩,h.C4,h.pl,h.sch,h.few,h.now,h.con,h.tf,h.sy,h.ph,h.gr,h.qz,h.sg,h.flt,by simp,by simp⟩
 obtain⟨r1,cyc,e1,m1,a1,t1,sw1,k1,g1,z1,w1,c1,x1,y1,d1⟩:∃r cyc,(bk6 (⟨u,d,k,u.Time,rpm,([]:List W0),0,0,0,0,0,(⟨0,([]:List A1),0⟩:O5),0,0,kn,false,([]:List j8),0⟩:j9)).m=some r/\Mid u.Time r/\ez5 r/\r.t=u.Time/\r.y9=[]/\r.k=k/\r.u.M1.Off=false/\r.u.K3=u.K3/\r.S9=0/\1<=cyc/\
   bG3 cf0 cyc (bl V) u.I0 r.u.I0 7/\(∀p:Int->Bool,(∀c:Nat,(h:c<r.u.I0.L.length)->(ad3 .i64 (r.u.I0.L[c]).G5 5 !=0)=p (c:Int))->r.Y7=bO5 p 7)/\r.u.j3=u.j3:=by
  obtain⟨c,t,hct,hi⟩:=h.flt
  obtain⟨r,t',e,o,hi',hts,hact⟩:=eV3 m0.ok (hbad _ m0.ok rfl rfl rfl rfl) hc hi hct.1 hct.2
  obtain⟨q1,q2,q3,q4,q5,q6,q7,q8,q9,q10,q11,q12,q13,q14,q15,q16,q17,q18,q19,q25,q20,q21,q22,q23,q24⟩:=o
  simp only at q1 q2 q3 q4 q5 q6 q7 q8 q9 q10 q11 q12 q13 q14 q15 q16 q17 q18 q19
  refine⟨r,c,e,⟨⟨by rw[q13];exact hd.few,by rw[q13];exact hd.val,by rw[q12];exact hd.ped,by rw[q10];exact h.pl.pre,by rw[q14];omega,by rw[q15];exact hrpm⟩,by rw[q1];exact h.C4,by rw[q11,q10];exact h.pl,by rw[q3];exact h.sch,by rw[q3];exact h.few,by rw[q3];exact h.now,by rw[q3,q2];exact h.con,by rw[q6];exact h.tf,by rw[q4];exact h.sy,by rw[q5];exact h.ph,by rw[q7];exact h.gr,by rw[q8,q14];exact h.qz,by rw[q9,q14];exact h.sg,⟨c,t',hct,hi'⟩,q25⟩,⟨q20,q21,q22,q23,q24⟩,q14,q18,q13,by rw[q7];exact ho,q8,q19,hct.1,hts,hact,q3⟩
 rw[e1];simp only[aH3]
 obtain⟨r2,e2,m2,a2,t2,sw2,n2,k2,g2,z2,w2,f2,x2,d2⟩:∃r,(aU1 r1).m=some r/\Mid u.Time r/\ez5 r/\r.t=u.Time/\r.y9=[]/\(1<=r.E9.O1.length/\r.E9.O1.length<=8)/\r.k=k/\r.u.M1.Off=false/\r.u.K3=u.K3/\r.S9=0/\r.u.I0=r1.u.I0/\r.Y7=r1.Y7/\r.u.j3=u.j3:=by
  obtain⟨c,o,e,hg,hl⟩:=ds9 m1.ok a1 m1.C4 m1.pl.body m1.con
  have hn:=(ce9.1 m1.con).eng
  have hn1:=hn.1;have hn2:=hn.2.1
  exact⟨_,e,⟨⟨m1.ok.few,m1.ok.val,m1.ok.ped,m1.ok.pre,m1.ok.t,m1.ok.spd⟩,m1.C4,m1.pl,m1.sch,m1.few,m1.now,hg,m1.tf,m1.sy,m1.ph,m1.gr,m1.qz,m1.sg,m1.flt,m1.act⟩,⟨a1.at8,a1.C1,a1.aQ3,a1.D6,a1.aJ6⟩,t1,sw1,by show 1<=o.O1.length/\o.O1.length<=8;omega,k1,g1,z1,w1,rfl,rfl,d1⟩
 rw[e2];simp only[aH3]
 obtain⟨r3,e3,m3,t3,sw3,n3,k3,g3,z3,w3,f3,x3,b3,d3⟩:∃r,(aU2 r2).m=some r/\Mid u.Time r/\r.t=u.Time/\r.y9=[]/\r.E9.O1.length<=8/\r.k=k/\r.u.M1.Off=false/\r.u.K3=u.K3/\r.S9=0/\r.u.I0=r1.u.I0/\r.Y7=r1.Y7/\100<=r.U8/\r.u.j3=u.j3:=by
  obtain⟨g,f,p,c,b,e,hg,hl,hb⟩:=dZ7 m2.ok (by rw[k2];exact hk) g2 a2 m2.C4 m2.con m2.gr n2.1 n2.2
  exact⟨_,e,⟨⟨m2.ok.few,m2.ok.val,m2.ok.ped,m2.ok.pre,m2.ok.t,m2.ok.spd⟩,m2.C4,m2.pl,m2.sch,m2.few,m2.now,m2.con,m2.tf,m2.sy,m2.ph,hg.1,m2.qz,m2.sg,m2.flt,m2.act⟩,t2,sw2,by show f.length<=8;omega,k2,hg.2,z2,w2,f2,x2,hb,d2⟩
 rw[e3];simp only[aH3]
 obtain⟨r4,e4,m4,t4,sw4,n4,g4,z4,w4,f4,x4,b4,d4⟩:∃r,(aF3 r3).m=some r/\Mid u.Time r/\r.t=u.Time/\r.y9=[]/\r.E9.O1.length<=8/\r.u.M1.Off=false/\Q r.u.K3/\r.S9=0/\r.u.I0=r1.u.I0/\r.Y7=r1.Y7/\100<=r.U8/\r.u.j3=u.j3:=by
  obtain⟨q,e,hq1,hq2,hq3⟩:=hask r3 m3.ok z3 k3 t3
  exact⟨_,e,⟨⟨m3.ok.few,m3.ok.val,m3.ok.ped,m3.ok.pre,m3.ok.t,m3.ok.spd⟩,m3.C4,m3.pl,m3.sch,m3.few,m3.now,m3.con,m3.tf,m3.sy,m3.ph,m3.gr,⟨hq1,hq2⟩,m3.sg,m3.flt,m3.act⟩,t3,sw3,n3,g3,hq3,w3,f3,x3,b3,d3⟩
 rw[e4];simp only[aH3]
 obtain⟨r5,e5,m5,t5,sw5,n5,g5,z5,w5,f5,x5,b5,s5,d5,j5⟩:∃r,(ba1 r4).m=some r/\Mid u.Time r/\r.t=u.Time/\r.y9.length<=100/\r.E9.O1.length<=8/\r.u.M1.Off=false/\Q r.u.K3/\r.S9=0/\r.u.I0=r1.u.I0/\r.Y7=r1.Y7/\100<=r.U8/\r.u.J1.K7=(!r.u.K3.Off)/\r.u.j3.p6=u.j3.p6/\(r.u.J1.K7=true->r.y9=[]/\r.u.j3.j4=u.j3.j4/\r.u.j3.D1=u.j3.D1):=by
  obtain⟨g,c,w,e,hg,hs,hw,hE,hE2⟩:=el9 m4.gr m4.qz.1 (aH0.2 m4.ok.t) m4.sg ⟨m4.sch,m4.few,rfl,rfl⟩ n4 (by rw[sw4];simp)
  rw[sw4]at hw
  rw[eO8 g4]at hE
  exact⟨_,e,⟨⟨m4.ok.few,m4.ok.val,m4.ok.ped,m4.ok.pre,m4.ok.t,m4.ok.spd⟩,m4.C4,m4.pl,hs.ok,hs.few,hs.now.trans m4.now,by show bz1 c.p6 r4.u.u5=true;rw[hs.eng];exact m4.con,m4.tf,m4.sy,m4.ph,m4.gr,m4.qz,hg,m4.flt,m4.act⟩,t4,by simpa using hw,n4,g4,z4,w4,f4,x4,b4,hE,by show c.p6=_;rw[hs.eng,d4],fun h=>by
   obtain⟨p1,p2,p3⟩:=hE2 h
   exact⟨by show w=[];rw[p1];exact sw4,by show c.j4=_;rw[p2,d4],by show c.D1=_;rw[p3,d4]⟩⟩
 rw[e5];simp only[aH3]
 obtain⟨r6,e6,m6,t6,n6,g6,z6,w6,f6,x6,b6,s6,d6⟩:∃r,(aO7 r5).m=some r/\Mid (u.Time+10000) r/\r.t=u.Time/\r.E9.O1.length<=8/\r.u.M1.Off=false/\Q r.u.K3/\r.S9=0/\r.u.I0=r1.u.I0/\r.Y7=r1.Y7/\100<=r.U8/\r.u.J1.K7=(!r.u.K3.Off)/\(r.u.J1.K7=true->R r.u.j3 r.y9):=by
  have bx2:=m5.now;have htf:=m5.tf;have hsy:=m5.sy
  obtain⟨c,y,p,f,w,e,q,hn,hR⟩:=hturn r5 (by rw[t5];exact⟨by omega,⟨m5.sch,m5.few,rfl,by omega,by omega⟩,⟨hsy.1,by omega⟩,m5.ph,⟨htf.1,by omega⟩⟩) m5.pl (by rw[t5];omega) (by omega) t5 d5 j5 z5 s5
  rw[t5]at q hn
  exact⟨_,e,⟨⟨m5.ok.few,m5.ok.val,m5.ok.ped,m5.ok.pre,m5.ok.t,m5.ok.spd⟩,m5.C4,m5.pl,q.sch.ok,q.sch.few,hn,by show bz1 c.p6 r5.u.u5=true;rw[q.sch.eng];exact m5.con,q.tf,q.sy,q.ph,m5.gr,m5.qz,m5.sg,m5.flt,m5.act⟩,t5,n5,g5,z5,w5,f5,x5,b5,s5,hR⟩
 rw[e6];simp only[aH3]
 obtain⟨r7,e7,m7,t7,g7,z7,w7,f7,x7,b7,s7,d7⟩:∃r,(bf0 r6).m=some r/\Mid (u.Time+10000) r/\r.t=u.Time/\r.u.M1.Off=false/\Q r.u.K3/\(r.u.J1.K7=false->r.S9=0)/\r.u.I0=r1.u.I0/\r.Y7=r1.Y7/\100<=r.U8/\r.u.J1.K7=(!r.u.K3.Off)/\(r.u.J1.K7=true->R r.u.j3 r.y9):=by
  obtain⟨r,e,p,q,rfl,hp,hq⟩:=eB3 m6.pl m6.C4 (by omega)
  exact⟨_,e,⟨⟨m6.ok.few,m6.ok.val,m6.ok.ped,hp.pre,m6.ok.t,m6.ok.spd⟩,m6.C4,hp,m6.sch,m6.few,m6.now,m6.con,m6.tf,m6.sy,m6.ph,m6.gr,m6.qz,m6.sg,m6.flt,m6.act⟩,t6,g6,z6,fun hE=>(hq hE).trans w6,f6,x6,b6,s6,d6⟩
 rw[e7];simp only[aH3]
 obtain⟨l8,e8,s8,a8,p8⟩:=et5 ({r7 with u:={r7.u with Time:=o4 (r7.t+10000)}}:j9)
 rw[e8];simp only[aH3]
 have hw:o4 (r7.t+10000)=u.Time+10000:=by rw[t7,j6 (by omega) (by omega)]
 have hq:=m7.qz;have hg:=m7.sg
 rw[t7]at hq hg
 have hten:=h.ten
 rw[hw]
 refine⟨_,_,rfl,⟨⟨m7.C4,m7.pl,m7.sch,m7.few,m7.now,m7.con,m7.tf,m7.sy,m7.ph,m7.gr,⟨hq.1,by have:=hq.2;show r7.u.K3.ar9<=u.Time+10000;omega⟩,⟨hg.1,by have:=hg.2;show r7.u.J1.aQ6<=u.Time+10000;omega⟩,m7.flt,by show 0<=u.Time+10000/\u.Time+10000<=549755813888;omega,by show(u.Time+10000)%10000=0;omega⟩,rfl,⟨s8,m7.act⟩,g7,z7,⟨cyc,c1,by show bG3 _ _ _ _ r7.u.I0 7;rw[f7];exact x1⟩,fun p hp=>?_,?_,b7,t7,fun hE=>?_,fun hE=>?_⟩⟩
 ·show r7.Y7=bO5 p 7
  rw[x7]
  refine y1 p fun c hc2=>?_
  have:=hp c (by show c<r7.u.I0.L.length;rw[f7];exact hc2)
  simp only[f7]at this
  exact this
 ·show(!r7.u.J1.K7)=r7.u.K3.Off
  rw[s7,Bool.not_not]
 ·have hE':r7.u.J1.K7=false:=by
   have h2:(!r7.u.J1.K7)=true:=hE
   simpa using h2
  exact⟨w7 hE',a8 hE'⟩
 ·have hE':r7.u.J1.K7=true:=by
   have h2:(!r7.u.J1.K7)=false:=hE
   simpa using h2
  exact⟨r7.y9,d7 hE',fun hw=>p8 hE' hg.1 hw⟩
theorem fj3 {l:List N1}{k:List ah5}{Q:ac8->Prop}{V:Bool×Bool×Bool×Bool×Bool×Bool×Bool}{R:c8->List j8->Prop}(g:dp6 l k){u:af3}(h:UOk u)(ht:u.Time+10000<=549755813888)(hk:∀b∈k,b.ba9≠7)(ho:u.M1.Off=false)
  (hbad:∀s:j9,SOk s->s.k=k->s.t=u.Time->s.u.M1=u.M1->s.u.K3=u.K3->(aU0 s).m=some V)
  (hturn:∀s:j9,Tee (s.t+10000) s->bG2 s.u.Y4 s.u.A6->(0<=s.t/\s.t+10000<=549755813888)->s.y9.length<=1000->s.t=u.Time->s.u.j3.p6=u.j3.p6->(s.u.J1.K7=true->s.y9=[]/\s.u.j3.j4=u.j3.j4/\s.u.j3.D1=u.j3.D1)->Q s.u.K3->s.u.J1.K7=(!s.u.K3.Off)->∃c y p f w,(aO7 s).m=some (upS s c y p f w)/\Tst (s.t+10000) s 20000000 c y p f w/\c.j4.Q7=s.t+10000/\(s.u.J1.K7=true->R c w))
  (hask:ee7 u k Q):
  ∃d,(bt8 l u.Time).m=some (d,0)/\(bm6 u d k).m=some (nxU l k u)/\(nxU l k u).2.2=0/\eJ4 u (nxU l k u).1 (nxU l k u).2.1 Q V R:=by
 have h0:=h.time
 obtain⟨d,e1,hd⟩:=eN9 g.val g.dr u.Time (by omega)
 obtain⟨v,r,e2,hl⟩:=ea8 g.cf h ⟨g.few,fun x hx=>(g.brk x hx).2.2,hd.2.1⟩ ht hk ho hbad hturn hask
 have e3:(bm6 u d k).m=some (v,r,0):=by
  simp only[bm6,C.of,M.run,dh4 g.cf h,cL7 g.few g.brk,ea7 hd,aH3,aP9,fj6]
  rw[j6 (by omega) (by omega),fk3 (by omega),e2]
  rfl
 have e:nxU l k u=(v,r,0):=by
  unfold nxU
  rw[e1]
  simp only[aH3]
  rw[e3]
  rfl
 rw[e]
 exact⟨d,e1,e3,rfl,hl⟩
structure eN1 (u v:af3)(r:ae8):Prop where
 ok:UOk v
 calm:Calm v
 time:v.Time=u.Time+10000
 at':r.Time=u.Time
 trk:Sc.Trk (2*u.j3.p6.u6.length) u.Time (Sc.lvl u.j3) 830 v.j3 r.am6
theorem do4 {l:List N1}(g:dp6 l []){u:af3}(h:UOk u)(hc:Calm u)(ht:u.Time+10000<=549755813888):
  (∃d,(bt8 l u.Time).m=some (d,0)/\(bm6 u d []).m=some (nxU l [] u)/\(nxU l [] u).2.2=0)/\eN1 u (nxU l [] u).1 (nxU l [] u).2.1:=by
 have htm:=h.time
 have bx2:=h.now
 have hm200:=h.sch.most
 have he8:=h.sch.eng.2.1
 have t0:Sc.Trk (2*u.j3.p6.u6.length) u.Time (Sc.lvl u.j3) 200 u.j3 []:=⟨rfl,by omega,.nil,by simp,by simp,fun c _=>rfl,by simp only[cr1];omega⟩
 obtain⟨d,e1,e2,e3,q⟩:=fj3 (Q:=fun q=>q.Off=false/\q.T3=0/\q.Open=true/\q.ar9=u.Time) (V:=(false,false,false,false,false,false,false)) (R:=Sc.Trk (2*u.j3.p6.u6.length) u.Time (Sc.lvl u.j3) 830) g h ht (by simp) hc.guard
  (fun s hs hk _ hg hq=>by
   have:=ei1 hs (by rw[hk];simp)
   rw[hg,hq,hc.guard,hc.off]at this
   exact this)
  (fun s a1 a2 a3 a4 hst heng hen hQ hE=>by
   rw[hQ.1]at hE
   obtain⟨w0,w1,w2⟩:=hen hE
   have hk:Sc.Trk (2*u.j3.p6.u6.length) u.Time (Sc.lvl u.j3) 200 s.u.j3 s.y9:=by
    rw[w0];exact t0.alike heng w1 w2
   obtain⟨c,y,p,f,w,e,q,hn⟩:=eW1 a1 hk a2 a3 (by omega)
   have hcn:=q.trk.cnt
   exact⟨c,y,p,f,w,e,⟨q.sch,q.sy,q.ph,q.tf,by omega⟩,hn,fun _=>q.trk⟩)
  (ej2 h hc fc4)
 refine⟨⟨d,e1,e2,e3⟩,?_⟩
 obtain⟨q1,q2,q3,q4⟩:=q.fj7
 obtain⟨cyc,_,hts⟩:=q.flt
 obtain⟨c,t,_,hi⟩:=h.flt
 have hf:=dr7 g.cf hi hc.flt hts
 obtain⟨w,hw,hw2⟩:=q.sws (by rw[q.off];exact q1)
 have hvt:=q.ok.time
 have hvn:=q.ok.now
 have hvm:=q.time
 have hcn:=hw.cnt
 rw[<-hw2 ⟨by omega,hw.asc,fun x hx=>by have:=hw.ran x hx;omega,fun x hx=>by have:=hw.chn x hx;omega⟩]at hw
 exact⟨q.ok,⟨q.guard,q1,q2,fun _=>by rw[q4,q.time],hf⟩,q.time,q.at',hw⟩
theorem dL5 {l:List N1}(g:dp6 l []){u:af3}(h:UOk u)(h0:u.Time=0)(hc:Calm u):∀i,i<=1000->UOk (sq l [] u i)/\(sq l [] u i).Time=10000*(i:Int)/\Calm (sq l [] u i)/\(sq l [] u i).j3.p6.u6.length=u.j3.p6.u6.length
 |0,_=>⟨h,by show u.Time=_;rw[h0];rfl,hc,rfl⟩
 |i+1,hi=>by
  obtain⟨h1,h2,h3,h4⟩:=dL5 g h h0 hc i (by omega)
  obtain⟨_,q⟩:=do4 g h1 h3 (by rw[h2];omega)
  have:=q.trk.eng
  exact⟨q.ok,by show(nxU l [] (sq l [] u i)).1.Time=_;rw[q.time,h2];omega,q.calm,by show(nxU l [] (sq l [] u i)).1.j3.p6.u6.length=_;omega⟩
structure Lv (m:Nat)(v:c8)(a:Int)(w:List j8)(s:Int×List Bool):Prop where
 len:s.2.length=m
 lev:∀c (h:c<s.2.length),Sc.aR1 s.2[c] (Sc.swc w (c:Int)) (Sc.lvl v c)
 last:∀x∈w,s.1<=x.At
 low:s.1<=a
theorem ew1 {m:Nat}{t0:Int}{L:Nat->Bool}{v:c8}{x:ae8}(h:Sc.Trk m t0 L 830 v x.am6)(ht:x.Time=t0)(h0:0<=t0/\t0<=549755813888)(hn:v.j4.Q7=t0+10000){s:Int×List Bool}(hs:Lv m v v.j4.Q7 x.am6 s):
  ∃s',L5 (fun p:Int×(Int×List Bool)=>bif decide (p.1<(x.am6.length:Int))then((D4 x.am6 p.1).bind fun y=>((fun i y u=>(ao2 x i y u).run) p.1 y p.2).bind (az5 p.1))else some (.inr (.inl p.2))) (0,s)=some (.inl s')/\Lv m v v.j4.Q7 [] s':=by
 have hcn:=h.cnt
 obtain⟨s',e,h'⟩:=au4 x.am6 (by omega) (fun i y u=>(ao2 x i y u).run) (fun k s=>Lv m v v.j4.Q7 (x.am6.drop k) s) s (by rw[List.drop_zero];exact hs) (fun k y s hk hI=>by
  obtain⟨a,ls⟩:=s
  have hm:=cY9 hk
  obtain⟨hk1,hk2⟩:=bt7.1 hk
  have hd:x.am6.drop k=y::x.am6.drop (k+1):=by rw[List.drop_eq_getElem_cons hk1,hk2]
  have hr:=h.ran y hm
  have hch:=h.chn y hm
  have hlen:=hI.len
  have cP1:=hI.last y (by rw[hd];exact bx8 ..)
  simp only at hlen cP1
  obtain⟨c,hc⟩:∃c:Nat,y.Channel=(c:Int):=⟨y.Channel.toNat,by omega⟩
  have hcl:c<ls.length:=by omega
  have hlv:=hI.lev c hcl
  simp only at hlv
  have hsw:Sc.swc (x.am6.drop k) (c:Int)=y.E3::Sc.swc (x.am6.drop (k+1)) (c:Int):=by
   rw[hd];unfold Sc.swc;rw[dC9,if_pos (by simp[hc])];rfl
  rw[hsw]at hlv
  have hne:(y.E3==ls[c])=false:=by rw[hlv.1];cases ls[c]<;>rfl
  have hg:D4 ls (c:Int)=some ls[c]:=by rw[T5,aK2 hcl]
  simp only[ao2,M.run,L1.m,U1.m]
  rw[fk3 (show¬y.Channel<0 by omega),fk3 (show¬y.Channel>=(ls.length:Int) by omega),fk3 (show¬y.At<a by omega),fk3 (show¬y.At<x.Time by omega),ht,j6 (by omega) (by omega),fk3 (show¬y.At>t0+10000 by omega),hc,hg]
  simp only[fj6,aH3,hne]
  unfold am4
  rw[if_pos (by omega)]
  refine⟨_,rfl,⟨by simp only[dI2];exact hlen,fun d hd2=>?_,fun z hz=>?_,by show y.At<=_;omega⟩⟩
  ·simp only[show((c:Nat):Int).toNat=c by omega]at hd2|-
   by_cases hdc:d=c
   ·subst hdc
    rw[dC7]
    exact hlv.2
   ·rw[List.getElem_set_ne (Ne.symm hdc)]
    have:=hI.lev d (by simpa using hd2)
    simp only at this
    have e2:Sc.swc (x.am6.drop k) (d:Int)=Sc.swc (x.am6.drop (k+1)) (d:Int):=by
     rw[hd];unfold Sc.swc;rw[dC9,if_neg (by simp[hc];omega)]
    rw[e2]at this
    exact this
  ·have:=h.asc
   have bS6:(x.am6.drop k).Pairwise fun a b=>a.At<=b.At:=List.Pairwise.sublist (List.drop_sublist ..) this
   rw[hd,ee3]at bS6
   exact bS6.1 z hz)
 rw[List.drop_length]at h'
 exact⟨s',e,h'⟩
theorem eE7 (e:o6)(c:Nat):Sc.lvl (Sc.bE5 e) c=false:=by
 unfold Sc.lvl
 simp only[Sc.bE5,List.getElem?_replicate]
 split<;>rename_i h
 ·split at h
  ·cases h;rfl
  ·cases h
 ·rfl
theorem do5 (t:o8)(b:L4)(e:o6)(l:List N1)(n:Int)(hn:0<=n/\n<=255):(av8 t b e l n).m=some true:=by
 obtain⟨f,ef⟩:=eC6 t
 simp only[av8,C.of,M.run,aw,ef,aH3,aP9,fj6]
 cases hb:((!f||decide ((e.u6.length:Int)>20))||decide ((l.length:Int)>210))
 ·simp only[bZ2,fk7]at hb
  obtain⟨v4,e4,h4⟩:=dG6 l (by omega)
  simp only[fj6,e4,aH3]
  cases v4
  ·rfl
  simp only[aP9,fj6,ds8,aH3]
  obtain⟨u,x,e5,h5,h6⟩:=fc2 t b e
  rw[e5]
  simp only[aH3]
  by_cases hx:x=0
  ·subst hx
   obtain⟨hc,hu,hu0,hcalm,_,hsc⟩:=h6 rfl
   rw[show((0:Int) !=0)=false from rfl]
   simp only[fj6]
   have g:dp6 l []:=⟨hc,e4,h4 rfl,by simp,by simp⟩
   obtain⟨m,hm,hm120⟩:∃m:Nat,Int.tmod (o4 n) 121=(m:Int)/\m<=120:=by
    rw[j6 (by omega) (by omega),dp1 hn.1]
    exact⟨(n%121).toNat,by omega,by omega⟩
   have hr:(cG7 u l [] (m:Int)).m=some (cY5 l [] u m,0):=fd2 g hu m (by omega) fun i hi=>by
    obtain⟨h1,h2,h3,_⟩:=dL5 g hu hu0 hcalm i (by omega)
    exact(do4 g h1 h3 (by rw[h2];omega)).1
   rw[hm,hr]
   simp only[aH3]
   have hlen:(cY5 l [] u m).length=m:=by simp[cY5]
   have hrec:∀i,i<m->(cY5 l [] u m)[i]? =some (nxU l [] (sq l [] u i)).2.1:=fun i hi=>by
    unfold cY5
    rw[cG5,List.getElem?_range hi]
    rfl
   rw[hlen,show(((0:Int) !=0)||((m:Int) !=(m:Int)))=false by simp]
   simp only[fj6]
   have heo:u.j3.p6.u6.length=e.u6.length:=by rw[hsc];rfl
   have hmk:aS0 (o4 (2*(e.u6.length:Int))) false=some (cr2 (2*e.u6.length) false):=by
    have h20:=hb.1.2
    rw[j6 (by omega) (by omega)]
    unfold aS0
    rw[if_pos (by omega)]
    congr 2
   rw[hmk]
   simp only[aH3]
   obtain⟨s,e9,_⟩:=au4 (cY5 l [] u m) (by omega) (fun i x (s:Int×List Bool)=>(az3 i x s).run) (fun k s=>s.2.length=2*e.u6.length/\(∀c (h:c<s.2.length),s.2[c]=Sc.lvl (sq l [] u k).j3 c)/\s.1<=10000*(k:Int)) (0,cr2 (2*e.u6.length) false)
    ⟨by simp,fun c h=>by show(cr2 (2*e.u6.length) false)[c]=Sc.lvl u.j3 c;rw[hsc,eE7,List.getElem_replicate],by simp⟩ (fun k x s hx hI=>by
    have hk:=(bt7.1 hx).1
    rw[hlen]at hk
    rw[hrec k hk]at hx
    have hx:=cp9 hx
    obtain⟨i1,i2,i3⟩:=hI
    obtain⟨h1,h2,h3,h4⟩:=dL5 g hu hu0 hcalm k (by omega)
    obtain⟨_,q⟩:=do4 g h1 h3 (by rw[h2];omega)
    rw[hx]at q
    have hvn:=q.ok.now
    have hvt:=q.time
    obtain⟨s',e7,h7⟩:=ew1 q.trk q.at' (by omega) (by omega) (s:=(s.1,s.2)) ⟨by show s.2.length=_;omega,fun c hc=>by
     have:=q.trk.alt c (by simp only at hc;omega)
     show Sc.aR1 s.2[c] _ _
     rw[i2 c hc];exact this,fun y hy=>by have:=(q.trk.ran y hy).1;show s.1<=_;omega,by show s.1<=_;omega⟩
    simp only[az3,M.run]
    rw[e7]
    have hl7:=h7.len
    have hw7:=h7.low
    refine⟨(s'.1,s'.2),rfl,by show s'.2.length=_;omega,fun c hc=>?_,by show s'.1<=_;push_cast;omega⟩
    have:=h7.lev c hc
    exact this)
   have:=e9
   rw[hlen]at this
   first|rw[this]|rw[e9]
   rfl
  ·rcases h5 with h5|h5
   ·exact absurd h5 hx
   ·subst h5
    rfl
 ·rfl
end Go.Proofs.YtmhdghdbojdgfaaGreat.Ec
namespace Go.Proofs.YtmhdghdbojdgfaaGreat
open Go Go.Pv Go.Proofs
theorem cn7 (x0:o8)(x1:L4)(x2:o6)(x3:List N1)(x4:Int)(_:ch4 x0)(_:cV4 x1)(_:ch3 x2)(_:(wfL bY1) x3)(g4:(fun n=>(Lit.int .u8 n).wf=true) x4):(av8 x0 x1 x2 x3 x4).m=some true:=by
 have h:0<=x4/\x4<=255:=by
  have m0:IntKind.u8.min=0:=by decide
  have m1:IntKind.u8.max=255:=by decide
  simp[Lit.wf,m0,m1]at g4
  omega
 exact Ec.do5 x0 x1 x2 x3 x4 h
end Go.Proofs.YtmhdghdbojdgfaaGreat
namespace Go.Proofs.YtmhdghdbojdgfaaGreat.ecuSwitches
open Go Go.Pv Go.Proofs Go.ChangeShapes Go.WideShapes Go.ChangeAt Go.RowKit Go.Proofs.YtmhdghdbojdgfaaGreat
theorem own:ownKnob Tryz.prog.godebug=none:=by kernel_rfl
theorem laidOut:laidOutB Tryz.prog=true:=by kernel_rfl
set_option maxRecDepth 100000 in
theorem lifted (os:Os)(started:os.Started)(H:Type)(enc:TypeId×Value->H):
    ReturnsInHanded {} Tryz.checked os 4 .any (Rows.ecuSwitchesSpec.pre6 enc Tryz.prog Tryz.f4 Rows.ecuSwitchesRow.domain false) (Rows.ecuSwitchesSpec.post enc Tryz.prog Tryz.f4 false true false false):=by
  refine returnsInHanded_of_change (C:=Tryz.checked) own started (by kernel_rfl) Tryz.func4
    (ChangeSpec.witness6 (enc:=enc) (C:=Tryz.checked) false ⟨#[], #[.agg #[.slice none 0 0, .slice none 0 0, .slice none 0 0, .slice none 0 0, .slice none 0 0, .slice none 0 0, .slice none 0 0, .slice none 0 0, .slice none 0 0, .slice none 0 0, .slice none 0 0, .slice none 0 0, .slice none 0 0, .slice none 0 0, .slice none 0 0, .slice none 0 0, .slice none 0 0, .slice none 0 0, .slice none 0 0, .slice none 0 0, .int .i64 0, .int .i64 0, .int .i64 0, .int .i64 0], .agg #[.int .i64 0, .int .i64 0, .int .i64 0, .int .i64 0, .int .i64 0, .int .i64 0, .int .i64 0], .agg #[.slice none 0 0, .int .i64 0], .slice none 0 0, .int .u8 0],[]⟩ 16 (by kernel_rfl) (by kernel_rfl) (by kernel_rfl) (by kernel_rfl)) ?_
  intro W base args ds gs before hval0 hW hcnd _
  have dX8:∀(j:Nat) t v,Tryz.f4.params[j]? =some t->args[j]? =some v->Value.okWide Tryz.prog W .any base t v:=hval0
  have hW':=hW
  obtain⟨p,q,hA0,hV,rfl,hfz,hnd⟩:=hW
  have hA:DataW.TrodAll enc Tryz.prog W 0 (fun _=>true) true Tryz.f4.params.toList args.toList ds p:=hA0
  rw[Tryz.params4]at hA dX8
  obtain⟨v0,Y8,d0,ds0,p0,q0,dd5,rfl,rfl,h0,r0⟩:=trodAll_cons hA
  obtain⟨v1,vs1,d1,ds1,p1,q1,rfl,rfl,rfl,h1,r1⟩:=trodAll_cons r0
  obtain⟨v2,vs2,d2,ds2,p2,q2,rfl,rfl,rfl,h2,r2⟩:=trodAll_cons r1
  obtain⟨v3,vs3,d3,ds3,p3,q3,rfl,rfl,rfl,h3,r3⟩:=trodAll_cons r2
  obtain⟨v4,vs4,d4,ds4,p4,q4,rfl,rfl,rfl,h4,r4⟩:=trodAll_cons r3
  obtain⟨rfl,rfl,rfl⟩:=trodAll_nil r4
  obtain rfl:args= #[v0,v1,v2,v3,v4]:=by cases args;simp_all
  obtain⟨rfl,rfl⟩:=trodVars_none hV
  have k0:=h0
  have lt0:∀x∈p0,x.block<W.heap.size:=by obtain⟨m,hm⟩:=k0;exact DataW.trod_lt m _ _ _ hm
  obtain⟨x0,g0,a0⟩:=eN4 _ _ W _ _ _ _ (dX8 0 31 v0 rfl rfl) h0
  have k1:=h1
  have lt1:∀x∈p1,x.block<W.heap.size:=by obtain⟨m,hm⟩:=k1;exact DataW.trod_lt m _ _ _ hm
  obtain⟨x1,g1,a1⟩:=eN5 _ _ W _ _ _ _ (dX8 1 33 v1 rfl rfl) h1
  have k2:=h2
  have lt2:∀x∈p2,x.block<W.heap.size:=by obtain⟨m,hm⟩:=k2;exact DataW.trod_lt m _ _ _ hm
  obtain⟨x2,g2,a2⟩:=eN6 _ _ W _ _ _ _ (dX8 2 35 v2 rfl rfl) h2
  have k3:=h3
  have lt3:∀x∈p3,x.block<W.heap.size:=by obtain⟨m,hm⟩:=k3;exact DataW.trod_lt m _ _ _ hm
  obtain⟨x3,g3,a3⟩:=eN7 _ _ W _ _ _ _ (dX8 3 36 v3 rfl rfl) h3
  have k4:=h4
  have lt4:∀x∈p4,x.block<W.heap.size:=by obtain⟨m,hm⟩:=k4;exact DataW.trod_lt m _ _ _ hm
  obtain⟨x4,g4,a4⟩:=eY7 _ _ W _ _ _ _ (dX8 4 5 v4 rfl rfl) h4
  clear hA0 hval0
  refine(aQ7.calls ((av8 x0 x1 x2 x3 x4).ok) (cn7 x0 x1 x2 x3 x4 g0 g1 g2 g3 g4) (bU1 (a0 _) (bU1 (a1 _) (bU1 (a2 _) (bU1 (a3 _) (bU1 (a4 _) eH4)))))).mono fun e W' ⟨he,bel⟩=>?_
  subst he
  exact⟨_,rfl,_,_,_,[],_,[],hW',trodAll_mk1 (shut_bool Tryz.underlying4 _),(trodAll_cons_mk (Below.trod laidOut (by kernel_rfl) (of_decide_eq_true (by kernel_rfl)) k0 bel lt0) (trodAll_cons_mk (Below.trod laidOut (by kernel_rfl) (of_decide_eq_true (by kernel_rfl)) k1 bel lt1) (trodAll_cons_mk (Below.trod laidOut (by kernel_rfl) (of_decide_eq_true (by kernel_rfl)) k2 bel lt2) (trodAll_cons_mk (Below.trod laidOut (by kernel_rfl) (of_decide_eq_true (by kernel_rfl)) k3 bel lt3) (trodAll_cons_mk (Below.trod laidOut (by kernel_rfl) (of_decide_eq_true (by kernel_rfl)) k4 bel lt4) trodAll_mk0))))),rfl,bel.frame _,fun h=>by cases h⟩
end Go.Proofs.YtmhdghdbojdgfaaGreat.ecuSwitches
namespace Go.Proofs.YtmhdghdbojdgfaaGreat
theorem ecuSwitches.inPlace:Tryz.prog.inPlace 4=Rows.ecuSwitchesRow.inPlace:=by kernel_rfl
theorem ecuSwitches.unfollowed:Tryz.prog.unfollowed 4=Rows.ecuSwitchesRow.unfollowed:=by kernel_rfl
theorem ecuSwitches.recurses:Tryz.prog.recurses 4=Rows.ecuSwitchesRow.recurses:=by kernel_rfl
theorem ecuSwitches.named:Tryz.prog.varsNamed 4=Rows.ecuSwitchesRow.named:=by kernel_rfl
theorem ecuSwitches.eR3:joinedFacts Tryz.prog 4 Tryz.f4 Rows.ecuSwitchesSpec Rows.ecuSwitchesRow=true:=by
  unfold joinedFacts
  rw[ecuSwitches.inPlace,ecuSwitches.unfollowed,ecuSwitches.recurses,ecuSwitches.named,ecuSwitches.laidOut]
  kernel_rfl
theorem ecuSwitches_holds:Rows.EcuSwitchesSaid:=
  OpenClaim.holds_of_wide 4 Tryz.f4 rfl rfl rfl rfl rfl rfl rfl ⟨rfl,rfl,rfl,rfl,rfl⟩ rfl rfl rfl rfl rfl (by kernel_rfl) Tryz.func4 ecuSwitches.eR3
    (of_decide_eq_true (by kernel_rfl)) (by unfold Func.isWrapper;first|(rw[if_pos (by decide+kernel)];kernel_rfl)|(rw[if_neg (by decide+kernel)];exact⟨rfl,rfl⟩))
    (fun os started H enc _=>ecuSwitches.lifted os started H enc)
#print axioms ecuSwitches_holds
end Go.Proofs.YtmhdghdbojdgfaaGreat

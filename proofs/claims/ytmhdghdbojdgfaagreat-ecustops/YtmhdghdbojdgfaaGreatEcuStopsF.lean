/- A part of the proof of EcuStops: Plain Lean, and more. -/
import Derived.Test.YtmhdghdbojdgfaaGreatEcuStopsE
set_option linter.unusedSimpArgs false
set_option linter.unusedVariables false
set_option maxRecDepth 100000
noncomputable section
open Bool renaming and_eq_false_iff->fc5,and_eq_true->aI0,cond_false_right->fc6,cond_true_left->fd6,eq_iff_iff->dG9,false_and->ez5,false_eq_true->do2,false_or->ec9,not_eq_false'->ef2,not_eq_true'->bY2,not_false->cI3,not_not->eI2,not_true->aX0,or_eq_false_iff->bG1,or_eq_true->cH8,or_self->eO7,true_and->cL7
open Int renaming ediv_le_self->eN1,ediv_nonneg->eP0,le_refl->dr2,le_trans->fe7,lt_or_le->fe8,mul_le_mul->eR5,mul_le_mul_of_nonneg_left->ed6,mul_nonneg->eT3,tdiv->cZ1,tdiv_eq_ediv_of_nonneg->cz5,tmod->ed7,tmod_eq_emod_of_nonneg->do1,toNat_natCast->eJ7
open Go.IntKind renaming i64->eX3
open List renaming all_eq_true->bx8,any_eq_false->dv4,any_eq_not_all_not->dS1,append_assoc->do3,append_nil->da6,cons_append->dJ2,drop_drop->ex6,eq_of_mem_replicate->eX8,filter_append->dK2,filter_cons->ew4,filter_cons_of_neg->eY5,filter_cons_of_pos->dY9,filter_eq_nil_iff->eA8,filter_eq_self->fd7,filter_map->fg2,filter_nil->eK7,findIdx?_cons->fg6,flatMap_cons->eK1,flatMap_nil->fg9,foldl_cons->ex7,getElem?_eq_getElem->aW9,getElem?_eq_some_iff->bG0,getElem?_map->cV2,getElem?_set_ne->fd2,getElem_mem->bd2,getElem_replicate->eZ8,getElem_set->eY1,getElem_set_self->dN1,head?_drop->eH1,length_append->ba3,length_cons->br6,length_drop->dc5,length_map->cV3,length_nil->cI2,length_replicate->eH7,length_set->eb2,length_singleton->co8,length_take->bt6,map_append->eL2,map_cons->cV4,map_nil->ep4,mem_append->dn9,mem_cons->bZ8,mem_cons_of_mem->bY1,mem_cons_self->bN7,mem_filter->dM6,mem_iff_getElem->cW9,mem_map->cY4,mem_of_getElem?->do0,mem_of_mem_drop->eV1,mem_of_mem_take->ey0,mem_or_eq_of_mem_set->fe1,mem_range'->eP1,mem_singleton->ex8,nil_append->cV5,not_mem_nil->eT4,range->dB7,range'->ed3,replicate->cE8,set_set->en8,take_length->ey1,take_succ_eq_append_getElem->do9
open Nat renaming add_assoc->dK8,add_zero->eb1,le_refl->cv6,lt_or_ge->cZ8,zero_add->cV7
open Option renaming bind->ai8,bind_some->as5,getD_some->ey4,map_some->bZ7
open Option.some renaming inj->cq4,injEq->aH8
namespace Go.Pv
open Go
theorem co0 (r:j2):cS7 r=decide (Ar.cn9 r):=cq4 ((dI7 r).symm.trans (Ar.ao3 r))
def dk0 (g:aa2)(l:List j2):aa2:=
 ⟨max (min (min (max (Ar.fin l (-5000) 10000).low (g.o9-1000)) (g.o9+300)) (Ar.fin l (-5000) 10000).high) (-5000),(Ar.fin l (-5000) 10000).source⟩
def granted (g:aa2):Prop:=(-5000<=g.o9/\g.o9<=10000)/\(-1<=g.N3/\g.N3<=15)
theorem cz9:∀(q:List j2) (s:u0),(∀r∈q,0<=r.N3/\r.N3<=15)->(-1<=s.source/\s.source<=15)-> -1<=(q.foldl Ar.stp s).source/\(q.foldl Ar.stp s).source<=15
 |[],_,_,h=>h
 |r::q,s,hq,h=>by
  rw[ex7]
  refine cz9 q _ (fun x hx=>hq x (bY1 _ hx)) ?_
  have:=hq r (bN7 ..)
  unfold Ar.stp
  simp only
  split<;>omega
theorem em6 {l:List j2}(h:Ar.cV6 l (-5000) 10000)(g:aa2):granted (dk0 g l):=by
 have r:=Ar.dc0 (l:=l) (low:=-5000) (high:=10000) (by omega)
 have s:=cz9 (Ar.cQ8 l) (Ar.s0 (-5000) 10000) (fun x hx=>by
  have:=h.req x ((Ar.cm3 h.dr).1 hx)
  exact this.1) (by show -1<=(-1:Int)/\(-1:Int)<=15;omega)
 unfold granted dk0
 unfold Ar.fin at r s|-
 simp only
 exact⟨by omega,s⟩
theorem eg8 {g:aa2}{l:List j2}(hg:granted g)(h:Ar.cV6 l (-5000) 10000)(h19:l.length<=19):ap6 g l (-5000) 10000 300 1000=some (dk0 g l,0):=by
 have r:=Ar.dc0 (l:=l) (low:=-5000) (high:=10000) (by omega)
 have hl:=h.len
 unfold granted at hg
 unfold ap6
 rw[show P3 g.o9=some (inR (-5000) 10000 g.o9)from rfl,R5 hg.1.1 hg.1.2]
 simp only[as5]
 rw[show((!true||decide (g.N3< -1))||decide (g.N3>15))=false by simp only[aX0,ec9,bG1,fi3];omega,Ar.em2 _ _ _ (by omega),Ar.ei4.2 h]
 simp only[fh5,as5]
 rw[show(((0:Int) !=0))=false from rfl,show(((decide ((300:Int)<0)||decide ((300:Int)>20000))||decide ((1000:Int)<0))||decide ((1000:Int)>20000))=false from rfl,Ar.dV3 h h19]
 simp only[fh5,as5]
 rw[j5 (n:=g.o9-1000) (by omega) (by omega),j5 (n:=g.o9+300) (by omega) (by omega)]
 simp only[aq6,ao4]
 rfl
structure cI6 (t:o7):Prop where
 air:cV8 t=true
 eK0:bK7 t=true
 tor:aZ1 t=true
 dead:(bx1 t.aw5&&t.aw5.Y.all (inR 0 10000))=true
 cG2:bo7 t.aH9=true
 idle:cA2 t.af0=true
structure Giv (t:o7)(e:o5)(b:L2)(c:A5)(i:W9):Prop where
 t:cc9 t=true
 b:aV6 b=true
 c:bz0 e c=true
 i:eg6 i (e.A3.length:Int)=true
theorem df9 {t:o7}(h:cc9 t=true):cI6 t:=by
 unfold cc9 at h
 have h':=h
 simp only[aI0]at h'
 exact⟨h'.1.1.1.1.1,h'.1.1.1.1.2,h'.1.1.1.2,by rw[aI0];exact h'.1.1.2,h'.1.2,h'.2⟩
structure cY6 (e:o5)(c:A5):Prop where
 eng:Ev.aE1 e
 ped:cX7 c.I9=true
 mix:cQ2 c.Q3=true
 num:c.ab2.length=e.A3.length
 kno:c.ab2.all knB=true
 sum:bU2 c.af0
 aF3:0<=c.P1/\c.P1<=1073741824
 gra:granted c.af5
theorem ce0 {e:o5}{c:A5}:bz0 e c=true↔cY6 e c:=by
 unfold bz0
 simp only[aI0,fi2,ba1]
 exact⟨fun⟨⟨⟨⟨⟨⟨⟨⟨a,b⟩,d⟩,f⟩,g⟩,h⟩,i⟩,j⟩,k⟩=>⟨a,b,d,f,g,h,i,j,k⟩,fun⟨a,b,d,f,g,h,i,j,k⟩=>⟨⟨⟨⟨⟨⟨⟨⟨a,b⟩,d⟩,f⟩,g⟩,h⟩,i⟩,j⟩,k⟩⟩
structure do6 (i:W9)(n:Nat):Prop where
 num:1<=n/\n<=8
 len:i.X4.length=n
 few:i.Requests.length<=30
 spd:0<=i.D2/\i.D2<=12000
 pre:50<=i.L0/\i.L0<=3000
 air:-40<=i.L4/\i.L4<=150
 coo:-40<=i.av1/\i.av1<=150
 vol:0<=i.aI3/\i.aI3<=20000
 lam:0<=i.Lambda/\i.Lambda<=20000
 int:i.X4.all (inR 0 4095)=true
 req:i.Requests.all cS7=true
theorem eg7 {i:W9}{n:Nat}:eg6 i (n:Int)=true↔do6 i n:=by
 unfold eg6
 simp only[aI0,fi2,ba1]
 exact⟨fun⟨⟨⟨⟨⟨⟨⟨⟨⟨⟨a,b⟩,c⟩,d⟩,e⟩,f⟩,g⟩,h⟩,i⟩,j⟩,k⟩=>⟨by omega,by omega,c,d,e,f,g,h,i,j,k⟩,fun⟨a,b,c,d,e,f,g,h,i,j,k⟩=>⟨⟨⟨⟨⟨⟨⟨⟨⟨⟨by omega,by omega⟩,c⟩,d⟩,e⟩,f⟩,g⟩,h⟩,i⟩,j⟩,k⟩⟩
def dW6 (s:F7)(g:aV4)(c v:Int):F7×Int×Int:=(aE5 s g (cx4 c) v).getD (⟨0⟩,0,0)
theorem dO6 {s:F7}{g:aV4}(hg:cA2 g=true)(hs:bU2 s){c v:Int}(c0:-40<=c/\c<=150)(v0:0<=v/\v<=12000):aE5 s g (cx4 c) v=some ((dW6 s g c v).1,(dW6 s g c v).2.1,0)/\bU2 (dW6 s g c v).1:=by
 obtain⟨s',u,h1,h2⟩:=en0 hg hs c0 v0
 unfold dW6
 rw[h1]
 exact⟨rfl,h2⟩
section
variable (t:o7) (e:o5) (b:L2) (c:A5) (i:W9)
def pdV:U7:=dx0 c.I9 i.bG3 i.bG4
def wsV:Int:=dB4 t (pdV c i).Value i.D2
def acV:Bool:=dC7 (pdV c i).Value i.D2 i.av1
def idV:F7:=bif acV c i then(dW6 c.af0 t.af0 i.av1 i.D2).1 else⟨0⟩
def rqV:List j2:=⟨0,3,wsV t c i,0⟩::((bif acV c i then [⟨1,2,min (max (dW6 c.af0 t.af0 i.av1 i.D2).2.1 (-5000)) 10000,1⟩]else [])++i.Requests)
def grV:aa2:=dk0 c.af5 (rqV t c i)
def wtV:Int:=max 0 (grV t c i).o9
def thV (w:Int):Int:=
 let r2:=(ap3 t i.D2 w).getD (0,0)
 let r3:=(av2 t i.D2 (max 0 (bif r2.2 !=0 then 1048576 else r2.1)) i.L4).getD (0,0)
 let p:=min 1012 (bif r3.2 !=0 then 3000 else r3.1)
 let r5:=(av3 b (dc3 i.D2 p) p).getD (0,0)
 bif r5.2 !=0 then 1000 else r5.1
def cgV:Int:=chV t i.D2 i.L0 i.L4
def shV (w n:Int):Int×Int×Int:=(am2 t i.D2 (cgV t i) w n).getD (0,0,0)
def msV:Int:=min 1048576 ((cgV t i*10000/147000)*cO0 (mxV c.Q3 i.Lambda) i.D2 (cgV t i)/1000)
def waV:Int×Int×Int:=(aJ1 b c.P1 (msV t c i)).getD (0,0,0)
def inV (f:Int):Int×Int:=bif (f==0)||((waV t b c i).2.2 !=0)then(0,c.P1-ay5 b c.P1)else((waV t b c i).1,(waV t b c i).2.1)
def tmV (j:Int):Int:=bif decide (j>0)then min (max (cAt t.aw5 i.aI3+eU1 j) 200) 20000 else 0
def tkV:Int:=min (max (60000000/max 1 i.D2) 4000) 1000000
def fiV (n:Nat)(f l tm:Int)(k:Nat):A2:=
 ⟨(k:Int)+1,max (-1280) (dT0 t i.D2 (cgV t i) i.av1 ((ksV c.ab2 i.X4).getD k ⟨0,0,0⟩).at6-l),max 500 (ct8 t i.aI3 (tkV i)),5760,bif cF4 n f (k:Int)then tm else 0,0,0⟩
end
structure eL1 (t:o7)(e:o5)(b:L2)(c:A5)(i:W9)(f l:Int):Prop where
 sh:shV t i (wtV t c i) (e.A3.length:Int)=(f,l,0)
 ok:ey5 t (cQ7 t i.D2 (cgV t i)) (wtV t c i) (e.A3.length:Int) f l
def nxC (t:o7)(b:L2)(c:A5)(i:W9)(f:Int):A5:=⟨pdV c i,idV t c i,ksV c.ab2 i.X4,mxV c.Q3 i.Lambda,(inV t b c i f).2,grV t c i⟩
def eZ9 (t:o7)(e:o5)(b:L2)(c:A5)(i:W9)(f l:Int):O4:=⟨thV t b i (wtV t c i),(dB7 e.A3.length).map (fiV t c i e.A3.length f l (tmV t i (inV t b c i f).1)),bN6 t (cQ7 t i.D2 (cgV t i)) l f (e.A3.length:Int)⟩
theorem fh0 (w:Int)(h: -5000<=w/\w<=10000):Ar.cn9 ⟨0,3,w,0⟩:=
 ⟨⟨(by decide:(0:Int)<=0),(by decide:(0:Int)<=15)⟩,⟨(by decide:(0:Int)<=0),(by decide:(0:Int)<=15)⟩,h,.inr ⟨(by decide:(0:Int)<=1),.inr rfl⟩⟩
theorem fa4 (w:Int)(h: -5000<=w/\w<=10000):Ar.cn9 ⟨1,2,w,1⟩:=
 ⟨⟨(by decide:(0:Int)<=1),(by decide:(1:Int)<=15)⟩,⟨(by decide:(0:Int)<=1),(by decide:(1:Int)<=15)⟩,h,.inr ⟨(by decide:(1:Int)<=1),.inl rfl⟩⟩
theorem df3 {t:o7}{c:A5}{i:W9}{n:Nat}(hi:do6 i n):Ar.cV6 (rqV t c i) (-5000) 10000:=by
 have hw:=dK9 t (pdV c i).Value i.D2
 have hr:=hi.few
 refine⟨fun r h=>?_,?_,by omega,by omega,by omega⟩
 ·unfold rqV at h
  rcases bZ8.1 h with rfl|h
  ·exact fh0 _ hw
  ·rcases dn9.1 h with h|h
   ·cases ha:acV c i
    ·rw[ha]at h;simp at h
    ·rw[ha]at h
     simp only[fh8,bZ8,eT4,or_false]at h
     subst h
     exact fa4 _ ⟨by omega,by omega⟩
   ·have:=bx8.1 hi.req r h
    rw[co0,fi2]at this
    exact this
 ·unfold rqV
  rw[br6,ba3]
  cases acV c i<;>simp<;>omega
theorem ak0 (s:o4)(h:s.fail=0):u5 s 0=some s:=by
 unfold u5
 rw[h]
 simp only[beq_self_eq_true,fh8]
 cases s
 simp only at h
 subst h
 rfl
theorem eb4 {t:o7}{e:o5}{b:L2}{c:A5}{i:W9}{n:Nat}(ht:cI6 t)(hc:cY6 e c)(hi:do6 i n)(h17:i.Requests.length<=17):
  X1 ⟨t,e,b,c,i,0,0,0,0,[],0,⟨0,[],0⟩,0⟩=some ⟨t,e,b,⟨pdV c i,idV t c i,c.ab2,c.Q3,c.P1,grV t c i⟩,i,wtV t c i,0,0,0,[],0,⟨0,[],0⟩,0⟩:=by
 obtain⟨p1,p2⟩:=cR2 hc.ped i.bG3 i.bG4
 have p3:=(dP8.1 p2).v
 have hw:=eH3 ht.cG2 (v:=(dx0 c.I9 i.bG3 i.bG4).Value) p3 hi.spd
 have ha:=ee5 (v:=(dx0 c.I9 i.bG3 i.bG4).Value) (s:=i.D2) hi.coo
 obtain⟨d1,d2⟩:=dO6 ht.idle hc.sum hi.coo hi.spd
 have hf:=df3 (t:=t) (c:=c) hi
 have hst:=eg8 hc.gra hf (by unfold rqV;rw[br6,ba3];cases acV c i<;>simp<;>omega)
 have hrl:=hi.few
 unfold X1
 simp only
 rw[p1]
 simp only[as5]
 rw[ak0 _ rfl]
 simp only[as5]
 rw[hw]
 simp only[as5]
 rw[ak0 _ rfl]
 simp only[as5]
 rw[ha,(dK1 hi.coo).1]
 simp only[as5]
 unfold grV wtV grV
 unfold idV rqV acV wsV pdV at*
 cases hac:dC7 (dx0 c.I9 i.bG3 i.bG4).Value i.D2 i.av1
 ·rw[hac]at hst
  simp only[fh5,as5,cV5]at hst|-
  rw[H7 _ _ (by simp only[br6,cI2];omega)]
  simp only[as5,dJ2,cV5]
  show ai8 (ai8 (ap6 c.af5 _ _ _ _ _) _) _=_
  rw[hst]
  simp only[as5]
  rw[ak0 _ rfl]
  simp only[as5,ao4]
 ·rw[hac]at hst
  simp only[fh8,dJ2,cV5]at hst|-
  show ai8 (ai8 (ai8 (aE5 c.af0 t.af0 (cx4 i.av1) i.D2) _) _) _=_
  rw[d1]
  simp only[as5]
  rw[ak0 _ rfl]
  simp only[as5,aC3,aq6,ao4]
  rw[H7 _ _ (by simp only[br6,cI2];omega)]
  simp only[as5]
  rw[H7 _ _ (by simp only[ba3,br6,cI2];omega)]
  simp only[as5,dJ2,cV5]
  show ai8 (ai8 (ap6 c.af5 _ _ _ _ _) _) _=_
  rw[hst]
  simp only[as5]
  rw[ak0 _ rfl]
  simp only[as5]
theorem or_eq (x e o:Int):au5 x e o=some (bif e !=0 then o else x):=by unfold au5;cases e !=0<;>rfl
theorem dz6 {t:o7}{b:L2}{i:W9}{n:Nat}(ht:cI6 t)(hb:aV6 b=true)(hi:do6 i n)(e:o5)(c:A5)(w:Int):
  U4 ⟨t,e,b,c,i,w,0,0,0,[],0,⟨0,[],0⟩,0⟩=some ⟨t,e,b,c,i,w,0,0,0,[],0,⟨thV t b i w,[],0⟩,0⟩/\0<=thV t b i w/\thV t b i w<=1000:=by
 obtain⟨c2,e2,h2,_,_,_⟩:=eo1 ht.tor (w:=w) hi.spd
 unfold U4 thV
 simp only
 rw[h2]
 simp only[as5,or_eq,ey4,ao4]
 generalize max 0 (bif e2 !=0 then(1048576:Int)else c2)=x
 obtain⟨p,e3,h3,k3⟩:=dx5 ht.air (w:=x) hi.spd hi.air
 rw[h3]
 simp only[as5,ey4,aq6]
 have hp:50<=(min 1012 (bif e3 !=0 then(3000:Int)else p))/\(min 1012 (bif e3 !=0 then(3000:Int)else p))<=1012:=by
  cases he:e3 !=0
  ·have h0:e3=0:=by simpa using he
   have:=k3.fit h0
   simp only[fh5];omega
  ·simp only[fh8];omega
 generalize min 1012 (bif e3 !=0 then(3000:Int)else p)=q at hp
 obtain⟨f1,f2,f3⟩:=eB4 (s:=i.D2) (p:=q) hi.spd (by omega)
 rw[f1]
 simp only[as5]
 rw[ak0 _ rfl]
 simp only[as5]
 obtain⟨y,e5,h5,k5⟩:=dA7 hb (f:=dc3 i.D2 q) (p:=q) (by omega) (by omega)
 rw[h5]
 simp only[as5,ey4]
 refine⟨trivial,?_⟩
 cases he:e5 !=0
 ·have h0:e5=0:=by simpa using he
  have:=k5.fit h0
  simp only[fh5];omega
 ·simp only[fh8];omega
theorem be3 {t:o7}(ht:cI6 t)(i:W9):0<=cgV t i/\cgV t i<=1048576:=(da8 ht.air i.D2 i.L0 i.L4).2
theorem fa9 {t:o7}{i:W9}{n:Nat}(ht:cI6 t)(hi:do6 i n){w:Int}(hw:0<=w):∃f l,shV t i w (n:Int)=(f,l,0)/\am2 t i.D2 (cgV t i) w (n:Int)=some (f,l,0)/\ey5 t (cQ7 t i.D2 (cgV t i)) w (n:Int) f l:=by
 have hn:=hi.num
 obtain⟨f,l,h1,h2⟩:=et2 ht.tor hi.spd (be3 ht i) hw (n:=(n:Int)) (by omega)
 exact⟨f,l,by unfold shV;rw[h1];rfl,h1,h2⟩
theorem eu3 {t:o7}{i:W9}{e:o5}(ht:cI6 t)(hi:do6 i e.A3.length){w f l:Int}(h:am2 t i.D2 (cgV t i) w (e.A3.length:Int)=some (f,l,0))(k:ey5 t (cQ7 t i.D2 (cgV t i)) w (e.A3.length:Int) f l)(b:L2)(c:A5)(th:Int):
  aa4 ⟨t,e,b,c,i,w,0,0,0,[],0,⟨th,[],0⟩,0⟩=
   some ⟨t,e,b,c,i,w,cgV t i,f,l,(dB7 e.A3.length).map (fun j:Nat=>cF4 (e.A3.length:Int) f (j:Int)),0,⟨th,[],bN6 t (cQ7 t i.D2 (cgV t i)) l f (e.A3.length:Int)⟩,0⟩:=by
 have hn:=hi.num
 have k1:=k.f0;have k2:=k.f1;have k3:=k.l0;have k4:=k.l1
 unfold aa4
 simp only
 rw[ch6 ht.air hi.spd hi.pre hi.air]
 simp only[as5]
 rw[ak0 _ rfl]
 simp only[as5]
 rw[show chV t i.D2 i.L0 i.L4=cgV t i from rfl,h]
 simp only[as5]
 rw[ak0 _ rfl]
 simp only[as5]
 rw[dH9 hn ⟨k1,k2⟩]
 simp only[as5]
 rw[ak0 _ rfl]
 simp only[as5]
 rw[ec5 ht.tor hi.spd (be3 ht i) ⟨k3,k4⟩ ⟨k1,k2⟩ (by omega)]
 simp only[as5]
 rw[ak0 _ rfl]
 simp only[as5]
theorem dv8 {t:o7}{c:A5}{i:W9}(ht:cI6 t):(0<=cgV t i*10000/147000/\cgV t i*10000/147000<=80000)/\(0<=(cgV t i*10000/147000)*cO0 (mxV c.Q3 i.Lambda) i.D2 (cgV t i)/\(cgV t i*10000/147000)*cO0 (mxV c.Q3 i.Lambda) i.D2 (cgV t i)<=80000*1300)/\0<=msV t c i/\msV t c i<=1048576:=by
 have h1:=be3 ht i
 have h2:=dV7 (mxV c.Q3 i.Lambda) i.D2 (cgV t i)
 have h3:0<=cgV t i*10000/147000/\cgV t i*10000/147000<=80000:=by omega
 have h4:=aV0 h3.1 h3.2 (show 0<=cO0 (mxV c.Q3 i.Lambda) i.D2 (cgV t i) by omega) h2.2
 refine⟨h3,h4,?_⟩
 unfold msV
 omega
theorem dS2 {t:o7}{b:L2}{e:o5}{c:A5}{i:W9}(ht:cI6 t)(hb:aV6 b=true)(hc:cY6 e c):aJ1 b c.P1 (msV t c i)=some (waV t b c i)/\ee4 b c.P1 (msV t c i) (waV t b c i).1 (waV t b c i).2.1 (waV t b c i).2.2:=by
 obtain⟨j,x,e1,h1,h2⟩:=em1 hb hc.aF3 (dv8 (c:=c) (i:=i) ht).2.2
 unfold waV
 rw[h1]
 exact⟨rfl,h2⟩
theorem du4 {t:o7}{b:L2}{e:o5}{c:A5}{i:W9}(ht:cI6 t)(hb:aV6 b=true)(hc:cY6 e c)(f:Int):(0<=(inV t b c i f).1/\(inV t b c i f).1<=1048576)/\(0<=(inV t b c i f).2/\(inV t b c i f).2<=1073741824):=by
 obtain⟨_,k⟩:=dS2 (i:=i) ht hb hc
 have hl:=bz2 hb hc.aF3.1
 have hf:=hc.aF3
 unfold inV
 cases hz:(f==0)||((waV t b c i).2.2 !=0)
 ·rw[bG1]at hz
  have h0:(waV t b c i).2.2=0:=by simpa using hz.2
  exact⟨k.inj h0,k.ran h0⟩
 ·simp only[fh8];omega
theorem eG2 {t:o7}{b:L2}{e:o5}{c:A5}{i:W9}{n:Nat}(ht:cI6 t)(hb:aV6 b=true)(hc:cY6 e c)(hi:do6 i n)(pd:U7)(id:F7)(gr:aa2)(w f l:Int)(pt:List Bool)(o:O4):
  ae1 ⟨t,e,b,⟨pd,id,c.ab2,c.Q3,c.P1,gr⟩,i,w,cgV t i,f,l,pt,0,o,0⟩=
   some ⟨t,e,b,⟨pd,id,c.ab2,mxV c.Q3 i.Lambda,(inV t b c i f).2,gr⟩,i,w,cgV t i,f,l,pt,tmV t i (inV t b c i f).1,o,0⟩:=by
 obtain⟨x1,x2⟩:=de3 hc.mix hi.lam hi.spd (be3 ht i)
 have hf:=eO2 x2 hi.spd (be3 ht i)
 obtain⟨m1,m2,m3⟩:=dv8 (c:=c) (i:=i) ht
 obtain⟨w1,w2⟩:=dS2 (i:=i) ht hb hc
 have hr:=(du4 (i:=i) ht hb hc f).1
 have hm:F2 1048576 (j7 (cZ1 (j7 ((cgV t i*10000/147000)*cO0 (mxV c.Q3 i.Lambda) i.D2 (cgV t i))) 1000))=msV t c i:=by
  unfold msV
  rw[j5 (n:=(cgV t i*10000/147000)*cO0 (mxV c.Q3 i.Lambda) i.D2 (cgV t i)) (by omega) (by omega),cz5 m2.1,j5 (by omega) (by omega),aq6]
 unfold ae1
 simp only
 rw[x1]
 simp only[as5]
 rw[ak0 _ rfl]
 simp only[as5]
 rw[hf]
 simp only[as5]
 rw[ak0 _ rfl]
 simp only[as5]
 rw[el6 (be3 ht i)]
 simp only[as5]
 rw[ak0 _ rfl]
 simp only[as5]
 rw[hm,w1]
 simp only[as5]
 have hin:∀s:o4,s.b=b->s.c.P1=c.P1->s.fail=0->(bif ((f==0)||((waV t b c i).2.2 !=0))then(ai8 (aO4 b c.P1 0) fun r6=>ai8 (u5 s r6.2.2) fun v4=>some (0,r6.2.1,v4))else(some ((waV t b c i).1,(waV t b c i).2.1,s)))=some ((inV t b c i f).1,(inV t b c i f).2,s):=by
  intro s _ _ hs
  unfold inV
  cases(f==0)||((waV t b c i).2.2 !=0)
  ·rfl
  ·simp only[fh8]
   rw[el2 hb hc.aF3]
   simp only[as5]
   rw[ak0 _ hs]
   rfl
 rw[hin _ rfl rfl rfl]
 simp only[as5]
 unfold tmV
 cases hj:decide ((inV t b c i f).1>0)
 ·rfl
 ·have hj':=of_decide_eq_true hj
  simp only[fh8]
  show ai8 (aO5 t (inV t b c i f).1 i.aI3) _=_
  rw[el8 ht.dead ⟨hj',hr.2⟩ hi.vol]
  simp only[as5]
  rw[ak0 _ rfl]
  simp only[as5,aC3,aq6,ao4]
theorem eu1 {t:o7}{e:o5}{c:A5}{i:W9}(ht:cI6 t)(hc:cY6 e c)(hi:do6 i e.A3.length)(b:L2)(pd:U7)(id:F7)(pb:M8)(fm:Int)(gr:aa2)(w f l tm th to_:Int)(hl:0<=l/\l<=2560):
  aa3 ⟨t,e,b,⟨pd,id,c.ab2,pb,fm,gr⟩,i,w,cgV t i,f,l,(dB7 e.A3.length).map (fun j:Nat=>cF4 (e.A3.length:Int) f (j:Int)),tm,⟨th,[],to_⟩,0⟩=
   some ⟨t,e,b,⟨pd,id,ksV c.ab2 i.X4,pb,fm,gr⟩,i,w,cgV t i,f,l,(dB7 e.A3.length).map (fun j:Nat=>cF4 (e.A3.length:Int) f (j:Int)),tm,⟨th,(dB7 e.A3.length).map (fiV t c i e.A3.length f l tm),to_⟩,0⟩:=by
 have hn:=hi.num
 have hs:=hi.spd
 obtain⟨k1,k2,k3⟩:=eJ1 hc.kno hi.int (by rw[hc.num];exact hn) (by rw[hc.num];exact hi.len)
 rw[hc.num]at k3
 have hk2:=bx8.1 k2
 have hq:0<=60000000/max 1 i.D2/\60000000/max 1 i.D2<=60000000:=⟨eP0 (by omega) (by omega),eN1 _ (by omega)⟩
 have htk:4000<=tkV i/\tkV i<=1000000:=by unfold tkV;omega
 obtain⟨d1,d2,d3⟩:=ek3 ht.eK0 ht.tor hi.vol htk
 unfold aa3
 simp only
 rw[k1]
 simp only[as5]
 rw[ak0 _ rfl]
 simp only[as5]
 rw[ao4,eE6 (by omega) (by omega) (by omega)]
 simp only[as5,aC3,aq6,ao4]
 rw[show min (max (60000000/max 1 i.D2) 4000) 1000000=tkV i from rfl,d1]
 simp only[as5]
 rw[ak0 _ rfl]
 simp only[as5]
 rw[show(((0:Int) !=0))=false from rfl]
 simp only[fh5]
 generalize hP:(dB7 e.A3.length).map (fun j:Nat=>cF4 (e.A3.length:Int) f (j:Int))=P
 have hPl:P.length=e.A3.length:=by rw[<-hP];simp
 have hPg:∀j,j<e.A3.length->P[j]? =some (cF4 (e.A3.length:Int) f (j:Int)):=fun j hj=>by rw[<-hP,cV2,List.getElem?_range hj];rfl
 obtain⟨u,eu,hu⟩:=ag5 e.A3.length (by omega) (ad8 (ct8 t i.aI3 (tkV i),0)) (fun k u=>u=⟨t,e,b,⟨pd,id,ksV c.ab2 i.X4,pb,fm,gr⟩,i,w,cgV t i,f,l,P,tm,⟨th,(dB7 k).map (fiV t c i e.A3.length f l tm),to_⟩,0⟩)
  ⟨t,e,b,⟨pd,id,ksV c.ab2 i.X4,pb,fm,gr⟩,i,w,cgV t i,f,l,P,tm,⟨th,[],to_⟩,0⟩ rfl (fun j hj u hu=>by
   subst hu
   have hj2:j<(ksV c.ab2 i.X4).length:=by omega
   have hr:=(eQ0.1 (hk2 _ (bd2 hj2))).r
   have hang:=dT1 t i.D2 (cgV t i) i.av1 (ksV c.ab2 i.X4)[j].at6
   unfold ad8
   simp only
   rw[C7 _ _ hj2]
   simp only[as5]
   rw[ef6 ht.eK0 ht.tor hi.spd (be3 ht i) hi.coo ⟨hr.1,by omega⟩]
   simp only[as5]
   rw[ak0 _ rfl]
   simp only[as5]
   rw[T8,hPg j hj]
   simp only[as5]
   have hb:(bif cF4 (e.A3.length:Int) f (j:Int)then(some tm)else(some 0))=some (bif cF4 (e.A3.length:Int) f (j:Int)then tm else 0):=by cases cF4 (e.A3.length:Int) f (j:Int)<;>rfl
   rw[hb]
   simp only[as5]
   rw[H7 _ _ (by simp only[cV3,List.length_range,br6,cI2];omega)]
   simp only[as5]
   refine⟨_,rfl,?_⟩
   rw[List.range_succ,eL2,cV4,ep4]
   unfold fiV
   rw[j5 (n:=(j:Int)+1) (by omega) (by omega),j5 (by omega) (by omega),ao4,ao4,List.getD_eq_getElem?_getD,aW9 hj2]
   rfl)
 rw[eu,hu]
 rfl
theorem ej5 {t:o7}{e:o5}{b:L2}{c:A5}{i:W9}(h:Giv t e b c i)(h17:i.Requests.length<=17):∃f l,eL1 t e b c i f l/\aE8 t e b c i=some (nxC t b c i f,eZ9 t e b c i f l,0):=by
 have ht:=df9 h.t
 have hc:=ce0.1 h.c
 have hi:=eg7.1 h.i
 obtain⟨f,l,s1,s2,s3⟩:=fa9 ht hi (w:=wtV t c i) (by unfold wtV;omega)
 refine⟨f,l,⟨s1,s3⟩,?_⟩
 unfold aE8
 rw[bi0,h.t,dh4,h.b,dO3,h.c]
 simp only[as5,aX0,fh5]
 rw[eL8,h.i]
 simp only[as5,aX0,fh5]
 rw[eb4 ht hc hi h17]
 simp only[as5]
 rw[(dz6 ht h.b hi e _ (wtV t c i)).1]
 simp only[as5]
 rw[eu3 ht hi s2 s3]
 simp only[as5]
 rw[eG2 ht h.b hc hi]
 simp only[as5]
 rw[eu1 ht hc hi _ _ _ _ _ _ _ _ _ _ _ _ ⟨s3.l0,s3.l1⟩]
 simp only[as5]
 rfl
end Go.Pv
namespace Go.Proofs.YtmhdghdbojdgfaaGreat.Ec
open Go Go.Pv Go.Pv.Ec Go.Proofs
theorem cu3 (a c:Int)(ha0: -9223372036854775808<=a)(ha1:a<=9223372036854775807)(hc0:0<c)(hc1:c<=9223372036854775807):(V8 a c).m=some (a/c):=by
 rw[aQ6]
 exact bR1 a c ha0 ha1 hc0 hc1
theorem br4 (x lo hi:Int):(C6 x lo hi).m=some (F2 (G4 x lo) hi):=rfl
theorem bm1 (x lo hi:Int)(h:lo<=hi):lo<=F2 (G4 x lo) hi/\F2 (G4 x lo) hi<=hi:=by
 unfold F2 G4
 split<;>split<;>omega
theorem dP4 (p b:Int)(hb:0<b)(hb1:b<=1099511627776):∃r,(ac4 p b).m=some r/\0<=r/\r<b:=by
 simp only[ac4,C.of,M.run,L1.m]
 rw[show((b==0)||(b==(-1)))=false by simp;omega]
 simp only[fh5]
 have e:cf1 p b=some (ed7 p b):=by unfold cf1;rw[if_neg (by omega)]
 rw[e]
 simp only[as5]
 have h1:(ed7 p b)<b:=Int.tmod_lt_of_pos p hb
 have h2:-b<ed7 p b:=by
  have h3:=Int.tmod_lt_of_pos (-p) hb
  rw[Int.neg_tmod]at h3
  omega
 generalize ed7 p b=q at h1 h2|-
 by_cases h3:q<0
 ·rw[show((q !=0)&&(!((decide (q<0))==(decide (b<0)))))=true by
   rw[fi0 h3,fi1 (by omega)];simp;omega]
  exact⟨_,rfl,by rw[j5 (by omega) (by omega)];omega,by rw[j5 (by omega) (by omega)];omega⟩
 ·rw[show((q !=0)&&(!((decide (q<0))==(decide (b<0)))))=false by
   rw[fi1 h3,fi1 (by omega)];simp]
  exact⟨_,rfl,by omega,h1⟩
theorem cT8 {α S R:Type}(f:Int->α->S->Option (Fl S R))(I:Nat->S->Prop):∀(r:List α) (k:Nat) (s:S),I k s->(∀j x s,r[j]? =some x->I (k+j) s->∃s',f ((k+j:Nat):Int) x s=some (.next s')/\I (k+j+1) s')->
  ∃s',L8 f r (k:Int) s=some (.inl s')/\I (k+r.length) s'
 |[],k,s,h,_=>⟨s,by simp[L8],h⟩
 |x::r,k,s,h,g=>by
  obtain⟨s',h1,h2⟩:=g 0 x s rfl h
  obtain⟨t,h3,h4⟩:=cT8 f I r (k+1) s' h2 (fun j y u hy hu=>by
   have:=g (j+1) y u (by simpa using hy) (by rw[show k+(j+1)=k+1+j by omega];exact hu)
   rw[show k+(j+1)=k+1+j by omega]at this
   exact this)
  refine⟨t,?_,by rw[br6,show k+(r.length+1)=k+1+r.length by omega];exact h4⟩
  simp only[L8]
  rw[show((k:Nat):Int)=((k+0:Nat):Int) by rfl,h1]
  simp only[as5]
  exact h3
theorem aM3 {α S R:Type}(l:List α)(hn:l.length<=9223372036854775807)(f:Int->α->S->Option (Fl S R))(I:Nat->S->Prop)(s:S)(h0:I 0 s)(h:∀k x s,l[k]? =some x->I k s->∃s',f (k:Int) x s=some (.next s')/\I (k+1) s'):
  ∃s',L7 (fun p:Int×S=>bif decide (p.1<(l.length:Int))then((D4 l p.1).bind fun x=>(f p.1 x p.2).bind (aD4 p.1))else some (.inr (.inl p.2))) (0,s)=some (.inl s')/\I l.length s':=by
 have e:=K6 l hn f s
 obtain⟨s',h1,h2⟩:=cT8 f I l 0 s h0 (fun j x s hx hs=>by rw[cV7]at hs|-;exact h j x s hx hs)
 refine⟨s',?_,by rw[cV7]at h2;exact h2⟩
 exact e.trans h1
structure bX2 (b:L2)(p:Z0):Prop where
 body:aV6 b=true
 pos:0<=p.K2/\p.K2<=3019898879
 spd:0<=p.D2/\p.D2<=262144
 rest:0<=p.Rest/\p.Rest<=b.ai9-1
 pre:50<=p.L0/\p.L0<=1013
 aF3:0<=p.P1/\p.P1<=2147483648
 few:(p.Path.length:Int)<=b.aX5+1
 path:∀x∈p.Path,500<=x/\x<=2000
theorem cv9 (x a b:Int):(F8 x a b).m=some (decide (x>=a)&&decide (x<=b)):=rfl
theorem de8 {x a b:Int}(h:a<=x/\x<=b):(F8 x a b).m=some true:=by
 rw[cv9,fi0 (by omega),fi0 (by omega)];rfl
theorem dx3 (b:L2):(aj6 b).m=some (aV6 b):=by rw[bs9,dh4]
theorem dm3 {b:L2}{p:Z0}(h:bX2 b p):(bv4 b p).m=some true:=by
 have hb:=bs6 h.body
 have h1:=hb.i
 simp only[bv4,C.of,M.run,dx3,h.body,as5,de8 h.pos,de8 h.spd,de8 h.pre,de8 h.aF3,j5 (n:=b.ai9-1) (by omega) (by omega),de8 h.rest,aX0,fh5]
 rw[j5 (n:=b.aX5+1) (by have:=hb.de;omega) (by have:=hb.de;omega),fi1 (by have:=h.few;omega)]
 simp only[eO7,fh5]
 obtain⟨u,h2,_⟩:=aM3 p.Path (by have:=h.few;have:=hb.de;omega) (fun i x (s:Unit)=>(bB1 i x s).run) (fun _ _=>True) () trivial (fun k x s hx _=>by
  refine⟨(),?_,trivial⟩
  simp only[bB1,M.run,de8 (h.path x (do0 hx)),as5,aX0,fh5])
 rw[h2]
 rfl
theorem dS0 (n:Int):-9223372036854775808<=j7 n/\j7 n<=9223372036854775807:=by
 unfold j7 IntKind.wrap
 simp[IntKind.signed,IntKind.bits]
 omega
theorem eq7 {w:ap5}{q r g:Int}(hb:aV6 w.b=true):
  ∃v r',(bg0 w q r g).m=some ⟨⟨w.A8.K2,v,r',w.A8.L0,w.A8.P1,w.A8.Path⟩,w.b⟩/\(0<=v/\v<=262144)/\(0<=r'/\r'<=w.b.ai9-1):=by
 have h1:=(bs6 hb).i
 simp only[bg0,CG.of,M.run]
 generalize hn:j7 ((j7 ((j7 ((j7 (q-r))-(j7 (cZ1 (j7 (w.b.ap4*w.A8.D2)) 65536))))*g))+w.A8.Rest)=n
 have h2:-9223372036854775808<=n/\n<=9223372036854775807:=hn▸dS0 _
 obtain⟨m,h3,h4,h5⟩:=dP4 n w.b.ai9 (by omega) (by omega)
 rw[cu3 n w.b.ai9 h2.1 h2.2 (by omega) (by omega),h3]
 simp only[as5]
 cases(decide (j7 (w.A8.D2+n/w.b.ai9)<0)||decide (j7 (w.A8.D2+n/w.b.ai9)>262144))
 ·simp only[fh5,as5,br4]
  exact⟨_,_,rfl,bm1 _ _ _ (by omega),h4,by omega⟩
 ·simp only[fh8,as5,br4]
  exact⟨_,_,rfl,bm1 _ _ _ (by omega),by omega,by omega⟩
theorem dx2 {w:ap5}{q r g:Int}(hb:aV6 w.b=true):
  ∃v,(aR9 w q r g).m=some ⟨⟨w.A8.K2,w.A8.D2,w.A8.Rest,v,w.A8.P1,w.A8.Path⟩,w.b⟩/\(50<=v/\v<=1013):=by
 have h1:=(bs6 hb).v
 simp only[aR9,CG.of,M.run]
 generalize hn:j7 ((j7 ((j7 (cZ1 (j7 ((j7 (w.b.J2*q))*(j7 (1013-w.A8.L0)))) 1000))-(j7 (cZ1 (j7 (r*w.A8.L0)) 1024))))*g)=n
 have h2:-9223372036854775808<=n/\n<=9223372036854775807:=hn▸dS0 _
 rw[j5 (n:=65536*w.b.aO8) (by omega) (by omega),cu3 n _ h2.1 h2.2 (by omega) (by omega)]
 simp only[as5,br4]
 exact⟨_,rfl,bm1 _ _ _ (by omega)⟩
theorem eE2 {b:L2}{p:Z0}(h:bX2 b p)(a t l g:Int):∃r u e,(ce6 b p a t l g).m=some (r,u,e)/\(e=0->bX2 b r):=by
 have hb:=bs6 h.body
 simp only[ce6,C.of,M.run,dm3 h,cv9,as5,aX0,fh5,bg,U1.m]
 generalize hc:(bif (bif (bif (!(decide (a>=0)&&decide (a<=1000)))then true else !(decide (t>= -5000)&&decide (t<=10000)))then true else !(decide (l>= -10000)&&decide (l<=10000)))then true else !(decide (g>=1)&&decide (g<=10000)))=c
 cases c
 ·have hg:1<=g/\g<=10000:=by
   simp only[fd6,bG1,ef2,aI0,fi2]at hc
   omega
  have hf:=h.few
  rw[H7 _ _ (by simp only[cI2];have:=hb.de;omega)]
  simp only[fh5,as5,cV5]
  obtain⟨v,r,e1,h1,h2⟩:=eq7 (w:=⟨⟨p.K2,p.D2,p.Rest,p.L0,p.P1,p.Path⟩,b⟩) (q:=t) (r:=l) (g:=g) h.body
  rw[e1]
  simp only[as5]
  obtain⟨v3,e3,h3⟩:=dx2 (w:=⟨⟨(j7 (p.K2+j7 (p.D2*g))).tmod 3019898880,v,r,p.L0,p.P1,p.Path⟩,b⟩) (q:=a) (r:=p.D2) (g:=g) h.body
  rw[e3]
  refine⟨_,_,_,rfl,fun _=>⟨h.body,?_,h1,h2,h3,h.aF3,hf,h.path⟩⟩
  have hm0:0<=p.D2*g:=eT3 h.spd.1 (by omega)
  have hm1:p.D2*g<=262144*10000:=eR5 h.spd.2 hg.2 (by omega) (by omega)
  have hp:=h.pos
  rw[j5 (n:=p.D2*g) (by omega) (by omega),j5 (by omega) (by omega),do1 (by omega)]
  have:=Int.emod_lt_of_pos (p.K2+p.D2*g) (show(0:Int)<3019898880 by omega)
  refine⟨Int.emod_nonneg _ (by omega),?_⟩
  simp only
  omega
 ·exact⟨_,_,_,rfl,fun h=>by cases h⟩
theorem dZ9 {b:L2}{p:Z0}(h:bX2 b p)(f a:Int):∃r u e,(bJ9 b p f a).m=some (r,u,e)/\(e=0->bX2 b r):=by
 have hb:=bs6 h.body
 simp only[bJ9,C.of,M.run,dm3 h,cv9,as5,aX0,fh5,bg,U1.m,L1.m]
 generalize hc:(bif (!(decide (f>=0)&&decide (f<=1048576)))then true else !(decide (a>=0)&&decide (a<=1048576)))=c
 cases c
 ·have hg:(0<=f/\f<=1048576)/\0<=a/\a<=1048576:=by
   simp only[fd6,bG1,ef2,aI0,fi2]at hc
   omega
  have hf:=h.few
  have hfi:=hb.fi;have hev:=hb.ev;have hfl:=h.aF3
  have a0:0<=f*b.P1:=eT3 hg.1.1 hfi.1
  have a1:f*b.P1<=1048576*1023:=eR5 hg.1.2 hfi.2 (by omega) (by omega)
  have b0:0<=p.P1*b.K9:=eT3 hfl.1 (by omega)
  have b1:p.P1*b.K9<=p.P1*1024:=ed6 hev.2 hfl.1
  have b2:p.P1*1<=p.P1*b.K9:=ed6 hev.1 hfl.1
  generalize f*b.P1=A at a0 a1|-
  generalize p.P1*b.K9=B at b0 b1 b2|-
  rw[j5 (n:=A) (by omega) (by omega),j5 (n:=B) (by omega) (by omega),cz5 a0,cz5 b0]
  rw[j5 (n:=A/1024) (by omega) (by omega),j5 (n:=B/1024) (by omega) (by omega),j5 (n:=f-A/1024) (by omega) (by omega),j5 (n:=A/1024-B/1024) (by omega) (by omega),
   j5 (n:=f-A/1024+B/1024) (by omega) (by omega),j5 (n:=p.P1+(A/1024-B/1024)) (by omega) (by omega),j5 (n:=10000*a) (by omega) (by omega),j5 (n:=147*(f-A/1024+B/1024)) (by omega) (by omega),j5 (n:=b.aX5+1) (by have:=hb.de;omega) (by have:=hb.de;omega)]
  have key:∃m,(bif decide (f-A/1024+B/1024>0)then(bn3 .i64 (10000*a) (147*(f-A/1024+B/1024))).bind fun t=>(C6 t 500 2000).m.bind fun t=>some t else some 2000)=some m/\500<=m/\m<=2000:=by
   by_cases hp:f-A/1024+B/1024>0
   ·rw[fi0 hp,er1 (by omega) (by omega) (by omega)]
    simp only[fh8,as5,br4]
    exact⟨_,rfl,bm1 _ _ _ (by omega)⟩
   ·rw[fi1 hp];exact⟨_,rfl,by omega,by omega⟩
  obtain⟨m,e1,h1⟩:=key
  rw[e1]
  have hde:=hb.de
  rw[H7 _ _ (by simp only[cI2];omega)]
  simp only[fh5,as5,cV5]
  rw[H7 _ _ (by simp only[co8];omega)]
  simp only[as5]
  have hx:∀x∈p.Path++[m],500<=x/\x<=2000:=fun x hx=>by
   rcases dn9.1 hx with h2|h2
   ·exact h.path x h2
   ·rw[ex8]at h2;subst h2;exact h1
  have hl:(p.Path++[m]).length=p.Path.length+1:=by simp
  have hfm:0<=p.P1+(A/1024-B/1024)/\p.P1+(A/1024-B/1024)<=2147483648:=by omega
  by_cases hd:((p.Path++[m]).length:Int)>b.aX5+1
  ·rw[fi0 hd]
   have:ay6 (p.Path++[m]) 1 ((p.Path++[m]).length:Int)=some (((p.Path++[m]).drop 1).take ((p.Path++[m]).length-1)):=by
    unfold ay6
    rw[if_pos (by omega)]
    rfl
   rw[this]
   simp only[fh8,as5]
   refine⟨_,_,_,rfl,fun _=>⟨h.body,h.pos,h.spd,h.rest,h.pre,hfm,?_,fun x h2=>hx x (eV1 (ey0 h2))⟩⟩
   simp only[bt6,dc5]
   omega
  ·rw[fi1 hd]
   simp only[fh5,as5]
   exact⟨_,_,_,rfl,fun _=>⟨h.body,h.pos,h.spd,h.rest,h.pre,hfm,by simp only;omega,hx⟩⟩
 ·exact⟨_,_,_,rfl,fun h=>by cases h⟩
theorem de9 (p:Z0):∃x,(bK0 p).m=some x:=by
 simp only[bK0,C.of,M.run,L1.m]
 cases h:p.Path with
 |nil=>exact⟨_,rfl⟩
 |cons x l=>exact⟨x,rfl⟩
theorem eR4 (b:L2):∃p e,(cw0 b).m=some (p,e)/\(e=0->bX2 b p):=by
 simp only[cw0,C.of,M.run,dx3,as5]
 cases h:aV6 b
 ·exact⟨_,_,rfl,fun h=>by cases h⟩
 ·have hb:=bs6 h
  exact⟨_,_,rfl,fun _=>⟨h,by simp,by simp,⟨by simp,by have:=hb.i;simp only;omega⟩,by simp,by simp,by have:=hb.de;simp only[cI2];omega,by simp⟩⟩
theorem ec3 (s:j8)(l:List Int)(hl:l.length<=1000000)(hv:0<s.u.A8.D2/\s.u.A8.D2<=262144)(hp:0<=s.u.A8.K2/\s.u.A8.K2<=3019898879)(ht:0<=s.t/\s.t<=1099511627776)
  (he:∀x∈l,65536*x<=s.u.A8.K2+10000*s.u.A8.D2) (h0:∀x∈l,0<=x):
  ∃r,(aJ0 s l).m=some r/\r.length=l.length/\(∀x∈r,x<=s.t+10000):=by
 simp only[aJ0,CG.of,M.run]
 obtain⟨r,h1,h2,h3⟩:=aM3 l (by omega) (fun i x (o:List Int)=>(aP6 s i x o).run) (fun k o=>o.length=k/\∀x∈o,x<=s.t+10000) [] ⟨rfl,by simp⟩ (fun k x o hx hI=>by
  have hk:=(bG0.1 hx).1
  have hm:=do0 hx
  have e1:=he x hm
  have e0:=h0 x hm
  simp only[aP6,M.run,U1.m]
  rw[j5 (n:=65536*x) (by omega) (by omega),j5 (n:=s.u.A8.K2-65536*x) (by omega) (by omega),cu3 _ _ (by omega) (by omega) hv.1 (by omega)]
  simp only[as5]
  rw[H7 _ _ (by simp only[co8];omega)]
  have hq:-10000<=(s.u.A8.K2-65536*x)/s.u.A8.D2:=by
   rw[Int.le_ediv_iff_mul_le hv.1]
   omega
  have hq1:(s.u.A8.K2-65536*x)/s.u.A8.D2<=s.u.A8.K2:=by
   refine fe7 (Int.ediv_le_ediv hv.1 (show s.u.A8.K2-65536*x<=s.u.A8.K2 by omega)) (eN1 _ hp.1)
  refine⟨_,rfl,by simp only[ba3,co8];omega,fun y hy=>?_⟩
  rcases dn9.1 hy with h4|h4
  ·exact hI.2 y h4
  ·rw[ex8]at h4
   subst h4
   rw[j5 (by omega) (by omega)]
   omega)
 rw[h1]
 exact⟨r,rfl,h2,h3⟩
end Go.Proofs.YtmhdghdbojdgfaaGreat.Ec
namespace Go.Pv
open Go
namespace Fr
theorem cp1 {α S R:Type}(f:Int->α->S->Option (Fl S R)):∀(l:List α) (i:Int) (s:S),(∀i,∀y∈l,∀s,∃x,f i y s=some x)->∃r,L8 f l i s=some r
 |[],i,s,_=>⟨_,rfl⟩
 |y::l,i,s,h=>by
  obtain⟨x,hx⟩:=h i y (bN7 ..) s
  simp only[L8,hx,as5]
  cases x with
  |next s'=>exact cp1 f l (i+1) s' fun i y hy s=>h i y (bY1 _ hy) s
  |brk s'=>exact⟨_,rfl⟩
  |ret r=>exact⟨_,rfl⟩
theorem dr5 (l:List w9)(hl:l.length<=9223372036854775807):∃b,an5 l=some b:=by
 unfold an5
 rw[K6 _ hl]
 obtain⟨r,hr⟩:=cp1 aC9 l 0 [] (fun i y _ s=>by unfold aC9;cases cP8 false s y.Code<;>exact⟨_,rfl⟩)
 rw[hr]
 cases r<;>exact⟨_,rfl⟩
structure cq6 (c:w9):Prop where
 fail:1<=c.ba6/\c.ba6<=100
 pass:1<=c.Pass/\c.Pass<=100
 eO8:1<=c.cC4/\c.cC4<=100
 age:c.cC4<=c.Age/\c.Age<=255
 frame:0<=c.Frame/\c.Frame<=8
def cfB (c:w9):Bool:=((((((decide (c.Code>=1)&&decide (c.Code<=16777215))&&(decide (c.ba6>=1)&&decide (c.ba6<=100)))&&(decide (c.Pass>=1)&&decide (c.Pass<=100)))&&(decide (c.cC4>=1)&&decide (c.cC4<=100)))&&(decide (c.Age>=c.cC4)&&decide (c.Age<=255)))&&(decide (c.E6>=0)&&decide (c.E6<=255)))&&(decide (c.Frame>=0)&&decide (c.Frame<=8))
theorem eX2 (c:w9):ae2 c=some (cfB c):=by
 unfold ae2 D6 cfB
 simp only[as5,cJ6,fc6]
theorem cq6.of {c:w9}(h:cfB c=true):cq6 c:=by
 simp only[cfB,aI0,fi2]at h
 obtain⟨⟨⟨⟨⟨⟨_,h1⟩,h2⟩,h3⟩,h4⟩,_⟩,h5⟩:=h
 exact⟨h1,h2,h3,h4,h5⟩
theorem ex3 (c:w9):an6 c=some (!cfB c):=by
 unfold an6;rw[eX2];rfl
theorem cz2 (l:List w9)(hl:l.length<=9223372036854775807):I3 l an6=some (l.any fun c=>!cfB c):=by
 unfold I3 S9 W5
 exact ai3 l hl an6 (fun c=>!cfB c) (fun y _=>ex3 y)
def stN (b1 b2 b4 b8 b16:Bool):Int:=(((((bif b1 then 1 else 0)+(bif b2 then 2 else 0))+(bif b4 then 4 else 0))+(bif b8 then 8 else 0))+(bif b16 then 16 else 0))
theorem eu2 (a b c d e:Bool):0<=stN a b c d e/\stN a b c d e<=31:=by
 cases a<;>cases b<;>cases c<;>cases d<;>cases e<;>decide
theorem fb1 (a b c d e:Bool):(T2 .i64 (stN a b c d e) 1==1)=a:=by cases a<;>cases b<;>cases c<;>cases d<;>cases e<;>rfl
theorem fh6 (a b c d e:Bool):(T2 .i64 (stN a b c d e) 2==2)=b:=by cases a<;>cases b<;>cases c<;>cases d<;>cases e<;>rfl
theorem fb4 (a b c d e:Bool):(T2 .i64 (stN a b c d e) 4==4)=c:=by cases a<;>cases b<;>cases c<;>cases d<;>cases e<;>rfl
theorem fb3 (a b c d e:Bool):(T2 .i64 (stN a b c d e) 16==16)=e:=by cases a<;>cases b<;>cases c<;>cases d<;>cases e<;>rfl
theorem fb2 (a b c d e:Bool):(T2 .i64 (stN a b c d e) 10==10)=(b&&d):=by cases a<;>cases b<;>cases c<;>cases d<;>cases e<;>rfl
theorem fh7 (a b c d e:Bool):(T2 .i64 (stN a b c d e) 6 !=0)=(b||c):=by cases a<;>cases b<;>cases c<;>cases d<;>cases e<;>rfl
theorem fb6 (a b c d e:Bool):aO3 .i64 (stN a b c d e) 9=stN false b c false e:=by cases a<;>cases b<;>cases c<;>cases d<;>cases e<;>rfl
theorem fb5 (a b c d e:Bool):aO3 .i64 (stN a b c d e) 1=stN false b c d e:=by cases a<;>cases b<;>cases c<;>cases d<;>cases e<;>rfl
theorem eS3 (a b c d e:Bool):R6 .i64 (stN a b c d e) 11=stN true true c true e:=by cases a<;>cases b<;>cases c<;>cases d<;>cases e<;>rfl
theorem fb7 (a b c d e:Bool):R6 .i64 (stN a b c d e) 4=stN a b true d e:=by cases a<;>cases b<;>cases c<;>cases d<;>cases e<;>rfl
theorem eS4 (a b c d e:Bool):R6 .i64 (stN a b c d e) 16=stN a b c d true:=by cases a<;>cases b<;>cases c<;>cases d<;>cases e<;>rfl
theorem fb8 (a b c d e:Bool):R6 .i64 (stN a b c d e) 8=stN a b c true e:=by cases a<;>cases b<;>cases c<;>cases d<;>cases e<;>rfl
def cg9 (c:w9)(l:List Int):Prop:=(l.length:Int)=c.Frame/\∀x∈l,-1099511627776<=x/\x<=1099511627776
theorem ap9 (l:List Int)(hl:l.length<=9223372036854775807)(f:Int->Option Bool)(p:Int->Bool)(h:∀y∈l,f y=some (p y)):o6 l f=some (l.any p):=by
 unfold o6 U5 W4
 exact ai3 l hl f p h
theorem cO8 {c:w9}{l:List Int}(hc:cq6 c)(h:cg9 c l):as8 c l=some true:=by
 unfold as8
 have hl:l.length<=9223372036854775807:=by have:=h.1;have:=hc.frame;omega
 have he:((l.length:Int)==c.Frame)=true:=by simpa using h.1
 rw[he,ap9 l hl aA1 (fun x=>!(decide (x>= -1099511627776)&&decide (x<=1099511627776))) (fun y _=>rfl)]
 have:l.any (fun x=>!(decide (x>= -1099511627776)&&decide (x<=1099511627776)))=false:=by
  rw[dv4]
  intro x hx
  have:=h.2 x hx
  simp[this.1,this.2]
 rw[this]
 rfl
structure RtB (c:w9)(x:A1)(E5:Int)(b1 b2 b4 b8 b16:Bool):Prop where
 st:x.D8=stN b1 b2 b4 b8 b16
 count:-c.Pass<=x.D1/\x.D1<=c.ba6
 ct7:0<=x.I7/\x.I7<=2
 clean:0<=x.Clean/\x.Clean<=c.Age-1
 occ:0<=x.z8/\x.z8<=255
 last:0<=x.G9/\x.G9<=E5
 frame:x.Frame=[]\/cg9 c x.Frame
 k1:b1=true->b2=true/\b8=true/\x.G9=E5
 k4:b4=true↔x.I7=2
 k16:b16=true->b4=true/\c.ch1=true
 k2:b2=true->x.Clean=0
 known:(b2||b4)=true->1<=x.z8/\1<=x.I7/\1<=x.G9/\(x.Frame.length:Int)=c.Frame
 none:(b2||b4)=false->x.I7=0/\x.Clean=0/\x.z8=0/\x.G9=0/\x.Frame=[]
def Rt (c:w9)(x:A1)(E5:Int)(b8:Bool):Prop:=∃b1 b2 b4 b16,RtB c x E5 b1 b2 b4 b8 b16
theorem es6 {c:w9}{x:A1}{E5:Int}{b8:Bool}(hc:cq6 c)(h:Rt c x E5 b8):aF2 c x E5=some true:=by
 obtain⟨b1,b2,b4,b16,h⟩:=h
 have hfr:(ai8 (bif (decide ((x.Frame.length:Int)>0))then(ai8 (as8 c x.Frame) fun v7=>some (!v7))else(some false)) fun b7=>some b7)=some false:=by
  rcases h.frame with h1|h1
  ·rw[h1];rfl
  ·rw[cO8 hc h1];cases decide ((x.Frame.length:Int)>0)<;>rfl
 have:=h.count;have:=h.ct7;have:=h.clean;have:=h.occ;have:=h.last;have:=hc.pass;have:=hc.age;have:=hc.eO8
 have s:=eu2 b1 b2 b4 b8 b16
 unfold aF2
 rw[hfr]
 simp only[D6,X7,aK8,as5,h.st,fb1,fb2,fb4,fb3,fh6,fh7]
 rw[j5 (n:=0-c.Pass) (by omega) (by omega),j5 (n:=c.Age-1) (by omega) (by omega)]
 have e1:(decide (stN b1 b2 b4 b8 b16>=0)&&decide (stN b1 b2 b4 b8 b16<=31))=true:=by simp[s.1,s.2]
 have e2:(decide (x.D1>=0-c.Pass)&&decide (x.D1<=c.ba6))=true:=by simp;omega
 have e3:(decide (x.I7>=0)&&decide (x.I7<=2))=true:=by simp;omega
 have e4:(decide (x.Clean>=0)&&decide (x.Clean<=c.Age-1))=true:=by simp;omega
 have e5:(decide (x.z8>=0)&&decide (x.z8<=255))=true:=by simp;omega
 have e6:(decide (x.G9>=0)&&decide (x.G9<=E5))=true:=by simp;omega
 simp only[e1,e2,e3,e4,e5,e6,aX0,fh5,as5]
 have f1:(bif b1 then some ((!(b2&&b8))||(x.G9 !=E5))else some false)=some false:=by
  cases hb:b1
  ·rfl
  ·obtain⟨h1,h2,h3⟩:=h.k1 hb
   rw[h1,h2,h3];simp
 rw[f1]
 simp only[as5,fh5]
 have f2:(b4==(x.I7==2))=true:=by
  have:=h.k4
  cases hb:b4
  ·have h3:¬x.I7=2:=fun e=>by have:=this.2 e;rw[hb]at this;cases this
   simpa using h3
  ·have h3:=this.1 hb
   simpa using h3
 rw[f2]
 simp only[aX0,fh5]
 have f3:(bif b16 then some ((!b4)||(!c.ch1))else some false)=some false:=by
  cases hb:b16
  ·rfl
  ·obtain⟨h1,h2⟩:=h.k16 hb
   rw[h1,h2];rfl
 rw[f3]
 simp only[as5,fh5]
 have f4:(b2&&(x.Clean !=0))=false:=by
  cases hb:b2
  ·rfl
  ·have:=h.k2 hb;simp[this]
 rw[f4]
 simp only[fh5]
 cases hk:b2||b4
 ·obtain⟨h1,h2,h3,h4,h5⟩:=h.none hk
  simp[h1,h2,h3,h4,h5]
 ·obtain⟨h1,h2,h3,h4⟩:=h.known hk
  simp[h1,h2,h3,h4]
structure Inv (l:List w9)(f:B7)(E5:Int)(run:Bool)(t:Nat->Bool):Prop where
 aP5:f.T5=l
 cyc:f.aH5=E5
 run:f.ay0=run
 len:f.L.length=l.length
 rt:∀i (h1:i<l.length) (h2:i<f.L.length),Rt (l[i]) (f.L[i]) E5 (t i)
structure Cfs (l:List w9):Prop where
 len:l.length<=64
 cf:∀c∈l,cfB c=true
 eX5:an5 l=some true
theorem Cfs.any {l:List w9}(h:Cfs l):(l.any fun c=>!cfB c)=false:=by
 rw[dv4];intro c hc;simp[h.cf c hc]
theorem Cfs.ok {l:List w9}(h:Cfs l){i:Nat}(hi:i<l.length):cq6 l[i]:=.of (h.cf _ (bd2 hi))
theorem bU6 {l:List w9}{f:B7}{E5:Int}{run:Bool}{t:Nat->Bool}(hc:Cfs l)(h:Inv l f E5 run t)(h0:0<=E5)(h1:E5<=1073741824)(h2:run=true->1<=E5):Z6 f=some true:=by
 have hlen:=hc.len
 have e0:decide ((f.T5.length:Int)>64)=false:=by rw[h.aP5];simp;omega
 have e2:((f.L.length:Int) !=(f.T5.length:Int))=false:=by rw[h.aP5,h.len];simp
 have e3:(decide (f.aH5>=0)&&decide (f.aH5<=1073741824))=true:=by rw[h.cyc];simp[h0,h1]
 have e4:(f.ay0&&decide (f.aH5<1))=false:=by
  rw[h.run,h.cyc]
  cases hr:run
  ·rfl
  ·have:=h2 hr;simp;omega
 unfold Z6
 rw[e0,cz2 _ (by rw[h.aP5];omega)]
 have e1:(f.T5.any fun c=>!cfB c)=false:=by rw[h.aP5];exact hc.any
 rw[e1]
 have e5:an5 f.T5=some true:=by rw[h.aP5];exact hc.eX5
 rw[e5,e2]
 simp only[D6,e3,fh5,as5,aX0,eO7,e4]
 have hl:=h.len
 obtain⟨s,k1,_⟩:=ag5 (R:=Bool) f.L.length (by omega) (aC8 f) (fun _ _=>True) () trivial (fun j hj s _=>⟨(),by
  unfold aC8
  have hj2:j<f.T5.length:=by rw[h.aP5];omega
  rw[C7 _ _ hj,C7 _ _ hj2]
  simp only[as5]
  have:f.T5[j]=l[j]'(by omega):=by simp[h.aP5]
  rw[this,h.cyc,es6 (hc.ok (by omega)) (h.rt j (by omega) hj)]
  rfl,trivial⟩)
 rw[k1]
 rfl
theorem ck4 {α:Type}(l:List α)(h:l.length<=1073741824):(ai8 (U9 ([]:List α) l) fun l=>some l)=some l:=by
 rw[H7 _ _ (by simpa using h)];rfl
theorem et0 {α:Type}(l:List α)(i:Nat)(h:i<l.length):l.set i l[i]=l:=by simp
theorem dV0 {f:B7}(h:f.L.length<=64)(hf:∀x∈f.L,x.Frame.length<=8):al5 f=some f:=by
 unfold al5 ad5
 rw[ck4 _ (by omega)]
 simp only[as5]
 obtain⟨s,k1,k2⟩:=ag5 (R:=Empty) f.L.length (by omega) ay4 (fun _ s=>s=f.L) f.L rfl (fun j hj s hs=>⟨f.L,by
  subst hs
  unfold ay4 O1
  rw[C7 _ _ hj]
  simp only[as5]
  rw[ck4 _ (by have:=hf _ (bd2 hj);omega)]
  simp only[as5]
  rw[T9 _ _ _ hj]
  have:=et0 f.L j hj
  simp only[as5]
  rw[show(⟨f.L[j].D8,f.L[j].D1,f.L[j].I7,f.L[j].Clean,f.L[j].z8,f.L[j].Frame,f.L[j].G9⟩:A1)=f.L[j]from rfl,this],rfl⟩)
 rw[k1,k2]
 rfl
theorem Rt.eO3 {c:w9}{x:A1}{E5:Int}{b8:Bool}(hc:cq6 c)(h:Rt c x E5 b8):x.Frame.length<=8:=by
 obtain⟨b1,b2,b4,b16,h⟩:=h
 rcases h.frame with h1|h1
 ·simp[h1]
 ·have:=h1.1;have:=hc.frame;omega
theorem Inv.eO4 {l:List w9}{f:B7}{E5:Int}{run:Bool}{t:Nat->Bool}(hc:Cfs l)(h:Inv l f E5 run t):∀x∈f.L,x.Frame.length<=8:=by
 intro x hx
 obtain⟨i,hi,rfl⟩:=cW9.1 hx
 have hl:=h.len
 exact(h.rt i (by omega) hi).eO3 (hc.ok (by omega))
theorem Inv.copied {l:List w9}{f:B7}{E5:Int}{run:Bool}{t:Nat->Bool}(hc:Cfs l)(h:Inv l f E5 run t):al5 f=some f:=
 dV0 (by have:=h.len;have:=hc.len;omega) (h.eO4 hc)
theorem dI5 {α R:Type}(l:List α)(hn:l.length<=9223372036854775807)(f:Int->List α->Option (Fl (List α) R))(g:Nat->α->α)
  (h:∀(j:Nat) (s:List α) (hj:j<s.length),s.length=l.length->s[j]? =l[j]? ->f (j:Int) s=some (.next (s.set j (g j s[j])))):
  K7 (l.length:Int) f l=some (.inl (l.mapIdx g)):=by
 obtain⟨s,k1,k2⟩:=ag5 (R:=R) l.length hn f (fun j s=>s.length=l.length/\(∀i,i<j->s[i]? =(l[i]?).map (g i))/\∀i,j<=i->s[i]? =l[i]?) l ⟨rfl,fun i h=>by omega,fun i _=>rfl⟩ (fun j hj s ⟨h1,h2,h3⟩=>by
  have hj':j<s.length:=by omega
  refine⟨_,h j s hj' h1 (h3 j (cv6 _)),by simp[h1],fun i hi=>?_,fun i hi=>?_⟩
  ·rw[List.getElem?_set]
   by_cases e:j=i
   ·subst e
    rw[if_pos rfl,if_pos hj']
    have:=h3 j (cv6 _)
    rw[<-this,aW9 hj'];rfl
   ·rw[if_neg e];exact h2 i (by omega)
  ·rw[List.getElem?_set,if_neg (by omega)];exact h3 i (by omega))
 rw[k1]
 congr 2
 apply List.ext_getElem?
 intro i
 rw[List.getElem?_mapIdx]
 by_cases hi:i<l.length
 ·exact k2.2.1 i hi
 ·rw[k2.2.2 i (by omega),List.getElem?_eq_none (by omega)];rfl
def eW6 (x:A1):A1:=⟨aO3 .i64 x.D8 9,0,x.I7,x.Clean,x.z8,x.Frame,x.G9⟩
theorem eh4 {c:w9}{x:A1}{E5:Int}{b8:Bool}(hc:cq6 c)(h:Rt c x E5 b8):Rt c (eW6 x) (E5+1) false:=by
 obtain⟨b1,b2,b4,b16,h⟩:=h
 have:=hc.pass;have:=hc.fail;have:=h.last
 refine⟨false,b2,b4,b16,?_,?_,h.ct7,h.clean,h.occ,?_,h.frame,?_,h.k4,h.k16,h.k2,h.known,h.none⟩
 ·show aO3 .i64 x.D8 9=_
  rw[h.st,fb6]
 ·show -c.Pass<=(0:Int)/\(0:Int)<=c.ba6
  omega
 ·show 0<=x.G9/\x.G9<=E5+1
  omega
 ·intro h;cases h
theorem eh3 {l:List w9}{f:B7}{E5:Int}{t:Nat->Bool}(hc:Cfs l)(h:Inv l f E5 false t)(h0:0<=E5)(h1:E5<1073741824):
  ∃f',ax0 f=some (f',0)/\Inv l f' (E5+1) true (fun _=>false):=by
 have hl:=h.len;have hl2:=hc.len
 unfold ax0
 rw[bU6 hc h h0 (by omega) (fun e=>by cases e)]
 have e1:(f.aH5==1073741824)=false:=by rw[h.cyc];simp;omega
 rw[h.run,e1,h.copied hc]
 simp only[as5,aX0,fh5]
 rw[dI5 f.L (by omega) aC7 (fun _ x=>eW6 x) (fun j s hj _ _=>by
  unfold aC7
  rw[C7 _ _ hj]
  simp only[as5]
  rw[T9 _ _ _ hj]
  simp only[as5]
  rw[T9 _ _ _ (by simpa using hj)]
  simp only[as5,en8]
  rfl)]
 refine⟨_,rfl,h.aP5,?_,rfl,by simp[hl],fun i a b=>?_⟩
 ·show j7 (f.aH5+1)=_
  rw[h.cyc,j5 (by omega) (by omega)]
 ·simp only[List.getElem_mapIdx]
  exact eh4 (hc.ok a) (h.rt i a (by omega))
theorem dl4 {l:List w9}(hl:l.length<=9223372036854775807):(∃e,aB2 l=some (⟨[],[],0,false⟩,e)/\e≠0)\/(Cfs l/\∃f,aB2 l=some (f,0)/\Inv l f 0 false (fun _=>false)):=by
 unfold aB2
 cases h64:decide ((l.length:Int)>64)
 ·have h64:l.length<=64:=by simp at h64;omega
  rw[cz2 l (by omega)]
  cases hany:l.any fun c=>!cfB c
  ·obtain⟨b,hb⟩:=dr5 l (by omega)
   rw[hb]
   cases b
   ·left;exact⟨8,rfl,by decide⟩
   ·right
    have hcf:∀c∈l,cfB c=true:=fun c hc=>by
     rw[dv4]at hany
     have:=hany c hc
     simpa using this
    have hc:Cfs l:=⟨h64,hcf,hb⟩
    refine⟨hc,?_⟩
    unfold Z8
    rw[ck4 l (by omega),bV7 _ (by omega)]
    refine⟨_,rfl,rfl,rfl,rfl,by simp,fun i a b=>?_⟩
    have:=hc.ok a
    simp only[eZ8]
    refine⟨false,false,false,false,rfl,?_,⟨by decide,by decide⟩,?_,⟨by decide,by decide⟩,⟨by decide,by decide⟩,.inl rfl,fun h=>(by cases h),⟨fun h=>(by cases h),fun h=>(by cases h)⟩,fun h=>(by cases h),fun h=>(by cases h),fun h=>(by cases h),fun _=>⟨rfl,rfl,rfl,rfl,rfl⟩⟩
    ·have h1:=this.pass;have h2:=this.fail
     show -l[i].Pass<=(0:Int)/\(0:Int)<=l[i].ba6
     omega
    ·have h1:=this.eO8;have h2:=this.age
     show(0:Int)<=0/\(0:Int)<=l[i].Age-1
     omega
  ·left;exact⟨1,rfl,by decide⟩
 ·left;exact⟨5,rfl,by decide⟩
def cz8 (c:w9)(E5:Int)(fr:List Int)(x:A1):A1:=
 let y:A1:=bif !(T2 .i64 x.D8 1==1)then⟨x.D8,x.D1,x.I7,x.Clean,F2 255 (j7 (x.z8+1)),bif !(T2 .i64 x.D8 4==4)then fr else x.Frame,x.G9⟩else x
 bif y.G9==E5 then⟨R6 .i64 y.D8 11,y.D1,y.I7,0,y.z8,y.Frame,y.G9⟩else
 bif decide ((F2 2 (j7 (y.I7+1)))<2)then⟨R6 .i64 y.D8 11,y.D1,F2 2 (j7 (y.I7+1)),0,y.z8,y.Frame,E5⟩else
 bif c.ch1 then⟨R6 .i64 (R6 .i64 (R6 .i64 y.D8 11) 4) 16,y.D1,F2 2 (j7 (y.I7+1)),0,y.z8,y.Frame,E5⟩
 else⟨R6 .i64 (R6 .i64 y.D8 11) 4,y.D1,F2 2 (j7 (y.I7+1)),0,y.z8,y.Frame,E5⟩
theorem dt1 (s:List A1)(j:Nat)(hj:j<s.length)(c:w9)(E5:Int)(fr:List Int)(hfr:fr.length<=1073741824):aF1 s (j:Int) c E5 fr=some (s.set j (cz8 c E5 fr s[j])):=by
 have key:∀(s:List A1) (hj:j<s.length),(ai8 (D4 s (j:Int)) fun x3=>ai8 (an9 s (j:Int) (⟨R6 .i64 x3.D8 11,x3.D1,x3.I7,x3.Clean,x3.z8,x3.Frame,x3.G9⟩:A1)) fun l4=>ai8 (an9 l4 (j:Int) (⟨R6 .i64 x3.D8 11,x3.D1,x3.I7,0,x3.z8,x3.Frame,x3.G9⟩:A1)) fun l5=>bif (x3.G9==E5)then(some l5)else(ai8 (an9 l5 (j:Int) (⟨R6 .i64 x3.D8 11,x3.D1,x3.I7,0,x3.z8,x3.Frame,E5⟩:A1)) fun l6=>ai8 (an9 l6 (j:Int) (⟨R6 .i64 x3.D8 11,x3.D1,F2 2 (j7 (x3.I7+1)),0,x3.z8,x3.Frame,E5⟩:A1)) fun l7=>bif (decide ((F2 2 (j7 (x3.I7+1)))<2))then(some l7)else(ai8 (an9 l7 (j:Int) (⟨R6 .i64 (R6 .i64 x3.D8 11) 4,x3.D1,F2 2 (j7 (x3.I7+1)),0,x3.z8,x3.Frame,E5⟩:A1)) fun l8=>bif c.ch1 then(ai8 (an9 l8 (j:Int) (⟨R6 .i64 (R6 .i64 (R6 .i64 x3.D8 11) 4) 16,x3.D1,F2 2 (j7 (x3.I7+1)),0,x3.z8,x3.Frame,E5⟩:A1)) fun l9=>some l9)else(some l8))))=
   some (s.set j (bif s[j].G9==E5 then⟨R6 .i64 s[j].D8 11,s[j].D1,s[j].I7,0,s[j].z8,s[j].Frame,s[j].G9⟩else
 bif decide ((F2 2 (j7 (s[j].I7+1)))<2)then⟨R6 .i64 s[j].D8 11,s[j].D1,F2 2 (j7 (s[j].I7+1)),0,s[j].z8,s[j].Frame,E5⟩else
 bif c.ch1 then⟨R6 .i64 (R6 .i64 (R6 .i64 s[j].D8 11) 4) 16,s[j].D1,F2 2 (j7 (s[j].I7+1)),0,s[j].z8,s[j].Frame,E5⟩
 else⟨R6 .i64 (R6 .i64 s[j].D8 11) 4,s[j].D1,F2 2 (j7 (s[j].I7+1)),0,s[j].z8,s[j].Frame,E5⟩)):=by
  intro s hj
  rw[C7 _ _ hj]
  simp only[as5]
  rw[T9 _ _ _ hj]
  simp only[as5]
  rw[T9 _ _ _ (by simpa using hj)]
  simp only[as5,en8]
  cases(s[j].G9==E5)
  ·simp only[fh5]
   rw[T9 _ _ _ (by simpa using hj)]
   simp only[as5,en8]
   rw[T9 _ _ _ (by simpa using hj)]
   simp only[as5,en8]
   cases decide ((F2 2 (j7 (s[j].I7+1)))<2)
   ·simp only[fh5]
    rw[T9 _ _ _ (by simpa using hj)]
    simp only[as5,en8]
    cases c.ch1
    ·rfl
    ·simp only[fh8]
     rw[T9 _ _ _ (by simpa using hj)]
     simp only[as5,en8]
   ·rfl
  ·rfl
 unfold aF1
 rw[C7 _ _ hj]
 simp only[as5,X7]
 unfold cz8
 cases h1:(T2 .i64 s[j].D8 1==1)
 ·simp only[cI3,fh8]
  rw[T9 _ _ _ hj]
  simp only[as5]
  cases h4:(T2 .i64 s[j].D8 4==4)
  ·simp only[cI3,fh8,O1]
   rw[ck4 fr hfr]
   simp only[as5]
   rw[T9 _ _ _ (by simpa using hj)]
   simp only[as5,en8]
   rw[key _ (by simpa using hj)]
   simp only[dN1,en8]
  ·simp only[aX0,fh5,as5]
   rw[key _ (by simpa using hj)]
   simp only[dN1,en8]
 ·simp only[aX0,fh5,as5]
  rw[key _ hj]
theorem eB0 {c:w9}{x:A1}{E5:Int}{b8:Bool}{fr:List Int}(hc:cq6 c)(h:Rt c x E5 b8)(hfr:cg9 c fr)(h1:1<=E5):Rt c (cz8 c E5 fr x) E5 true:=by
 obtain⟨b1,b2,b4,b16,h⟩:=h
 have p3:=h.last;have p8:=h.occ;have p9:=h.ct7;have p10:=hc.age;have p11:=hc.eO8
 have clean:0<=(0:Int)/\(0:Int)<=c.Age-1:=by omega
 have n1:(0:Int)<=1/\(1:Int)<=2:=by decide
 have n2:(0:Int)<=2/\(2:Int)<=2:=by decide
 have m1:(1:Int)<=1:=by decide
 have m2:(1:Int)<=2:=by decide
 obtain⟨y,hy,hst,hcn,hcy,cF1,dt9,hfrm,hfl⟩:∃y:A1,y=(bif !(T2 .i64 x.D8 1==1)then(⟨x.D8,x.D1,x.I7,x.Clean,F2 255 (j7 (x.z8+1)),bif !(T2 .i64 x.D8 4==4)then fr else x.Frame,x.G9⟩:A1)else x)/\
   y.D8=stN b1 b2 b4 b8 b16/\y.D1=x.D1/\y.I7=x.I7/\(1<=y.z8/\y.z8<=255)/\y.G9=x.G9/\(y.Frame=[]\/cg9 c y.Frame)/\(y.Frame.length:Int)=c.Frame:=by
  refine⟨_,rfl,?_⟩
  rw[h.st,fb1,fb4]
  cases hb1:b1
  ·subst hb1
   simp only[cI3,fh8]
   refine⟨trivial,trivial,trivial,?_,trivial,?_⟩
   ·rw[j5 (n:=x.z8+1) (by omega) (by omega)]
    unfold F2;split<;>omega
   ·cases hb4:b4
    ·simp only[cI3,fh8];exact⟨.inr hfr,hfr.1⟩
    ·subst hb4
     simp only[aX0,fh5]
     exact⟨h.frame,(h.known (by simp)).2.2.2⟩
  ·subst hb1
   have k:=h.k1 rfl
   have hk:=h.known (by rw[k.1];rfl)
   simp only[aX0,fh5]
   exact⟨h.st,trivial,trivial,⟨hk.1,h.occ.2⟩,trivial,h.frame,hk.2.2.2⟩
 unfold cz8
 rw[<-hy]
 simp only[hst,eS3,fb7,eS4]
 cases hL:(y.G9==E5)
 ·have hL:¬x.G9=E5:=by rw[dt9]at hL;simpa using hL
  have hb1:b1=false:=by
   cases hb:b1
   ·rfl
   ·exact absurd (h.k1 hb).2.2 hL
  simp only[fh5]
  rw[hcy,j5 (n:=x.I7+1) (by omega) (by omega)]
  have hm:F2 2 (x.I7+1)=if x.I7=0 then 1 else 2:=by unfold F2;split<;>split<;>omega
  rw[hm]
  by_cases hz:x.I7=0
  ·have hb4:b4=false:=by
    cases hb:b4
    ·rfl
    ·have:=h.k4.1 hb;omega
   subst hb4
   rw[if_pos hz]
   simp only[show decide ((1:Int)<2)=true from rfl,fh8]
   exact⟨true,true,false,b16,rfl,by rw[show(⟨_,y.D1,_,_,_,_,_⟩:A1).D1=x.D1 from hcn];exact h.count,n1,clean,⟨by have:=cF1.1;show 0<=y.z8;omega,cF1.2⟩,⟨by show 0<=E5;omega,dr2 _⟩,hfrm,fun _=>⟨rfl,rfl,rfl⟩,⟨fun h=>(by cases h),fun h=>(by cases h)⟩,h.k16,fun _=>rfl,fun _=>⟨cF1.1,m1,h1,hfl⟩,fun h=>(by cases h)⟩
  ·rw[if_neg hz]
   simp only[show decide ((2:Int)<2)=false from rfl,fh5]
   cases hlp:c.ch1
   ·simp only[fh5]
    exact⟨true,true,true,b16,rfl,by rw[show(⟨_,y.D1,_,_,_,_,_⟩:A1).D1=x.D1 from hcn];exact h.count,n2,clean,⟨by have:=cF1.1;show 0<=y.z8;omega,cF1.2⟩,⟨by show 0<=E5;omega,dr2 _⟩,hfrm,fun _=>⟨rfl,rfl,rfl⟩,⟨fun _=>rfl,fun _=>rfl⟩,fun hb=>⟨rfl,(h.k16 hb).2⟩,fun _=>rfl,fun _=>⟨cF1.1,m2,h1,hfl⟩,fun h=>(by cases h)⟩
   ·simp only[fh8]
    exact⟨true,true,true,true,rfl,by rw[show(⟨_,y.D1,_,_,_,_,_⟩:A1).D1=x.D1 from hcn];exact h.count,n2,clean,⟨by have:=cF1.1;show 0<=y.z8;omega,cF1.2⟩,⟨by show 0<=E5;omega,dr2 _⟩,hfrm,fun _=>⟨rfl,rfl,rfl⟩,⟨fun _=>rfl,fun _=>rfl⟩,fun _=>⟨rfl,hlp⟩,fun _=>rfl,fun _=>⟨cF1.1,m2,h1,hfl⟩,fun h=>(by cases h)⟩
 ·have hL:x.G9=E5:=by rw[dt9]at hL;simpa using hL
  simp only[fh8]
  have hkn:(b2||b4)=true:=by
   cases hk:b2||b4
   ·have:=(h.none hk).2.2.2.1;omega
   ·rfl
  have hk:=h.known hkn
  exact⟨true,true,b4,b16,rfl,by rw[show(⟨_,y.D1,_,_,_,_,_⟩:A1).D1=x.D1 from hcn];exact h.count,by rw[show(⟨_,_,y.I7,_,_,_,_⟩:A1).I7=x.I7 from hcy];exact h.ct7,clean,⟨by have:=cF1.1;show 0<=y.z8;omega,cF1.2⟩,by rw[show(⟨_,_,_,_,_,_,y.G9⟩:A1).G9=x.G9 from dt9];exact h.last,hfrm,fun _=>⟨rfl,rfl,dt9.trans hL⟩,
   by rw[show(⟨_,_,y.I7,_,_,_,_⟩:A1).I7=x.I7 from hcy];exact h.k4,h.k16,fun _=>rfl,fun _=>⟨cF1.1,by rw[show(⟨_,_,y.I7,_,_,_,_⟩:A1).I7=x.I7 from hcy];exact hk.2.1,by rw[show(⟨_,_,_,_,_,_,y.G9⟩:A1).G9=x.G9 from dt9];omega,hfl⟩,fun h=>(by cases h)⟩
def bt7 (c:w9)(bad:Bool)(x:A1):A1:=
 ⟨x.D8,bif bad then F2 c.ba6 (j7 ((G4 x.D1 0)+1))else G4 (j7 (0-c.Pass)) (j7 ((F2 x.D1 0)-1)),x.I7,x.Clean,x.z8,x.Frame,x.G9⟩
def cF6 (c:w9)(E5:Int)(bad:Bool)(fr:List Int)(x:A1):A1:=
 let y:=bt7 c bad x
 bif y.D1==c.ba6 then cz8 c E5 fr y else
 bif y.D1==j7 (0-c.Pass)then⟨aO3 .i64 (R6 .i64 y.D8 8) 1,y.D1,y.I7,y.Clean,y.z8,y.Frame,y.G9⟩else y
theorem eM8 {c:w9}{x:A1}{E5:Int}{b8:Bool}(bad:Bool)(hc:cq6 c)(h:Rt c x E5 b8):Rt c (bt7 c bad x) E5 b8:=by
 obtain⟨b1,b2,b4,b16,h⟩:=h
 have p1:=h.count;have p2:=hc.pass;have p3:=hc.fail
 refine⟨b1,b2,b4,b16,h.st,?_,h.ct7,h.clean,h.occ,h.last,h.frame,h.k1,h.k4,h.k16,h.k2,h.known,h.none⟩
 show -c.Pass<=(bif bad then _ else _)/\(bif bad then _ else _)<=c.ba6
 have a1:G4 x.D1 0=if 0>x.D1 then 0 else x.D1:=rfl
 have a2:F2 x.D1 0=if 0<x.D1 then 0 else x.D1:=rfl
 cases bad
 ·simp only[fh5]
  rw[a2,j5 (n:=0-c.Pass) (by omega) (by omega)]
  split
  ·rw[j5 (by omega) (by omega)];unfold G4;split<;>omega
  ·rw[j5 (by omega) (by omega)];unfold G4;split<;>omega
 ·simp only[fh8]
  rw[a1]
  split
  ·rw[j5 (by omega) (by omega)];unfold F2;split<;>omega
  ·rw[j5 (by omega) (by omega)];unfold F2;split<;>omega
theorem eR8 {c:w9}{x:A1}{E5:Int}{b8:Bool}{fr:List Int}(bad:Bool)(hc:cq6 c)(h:Rt c x E5 b8)(hfr:cg9 c fr)(h1:1<=E5):∃b,Rt c (cF6 c E5 bad fr x) E5 b/\(b8=true->b=true):=by
 have h':=eM8 bad hc h
 unfold cF6
 simp only
 cases(bt7 c bad x).D1==c.ba6
 ·simp only[fh5]
  cases(bt7 c bad x).D1==j7 (0-c.Pass)
  ·exact⟨b8,h',id⟩
  ·simp only[fh8]
   refine⟨true,?_,fun _=>rfl⟩
   obtain⟨b1,b2,b4,b16,h'⟩:=h'
   exact⟨false,b2,b4,b16,by show aO3 .i64 (R6 .i64 (bt7 c bad x).D8 8) 1=_;rw[h'.st,fb8,fb5],h'.count,h'.ct7,h'.clean,h'.occ,h'.last,h'.frame,fun h=>(by cases h),h'.k4,h'.k16,h'.k2,h'.known,h'.none⟩
 ·exact⟨true,eB0 hc h' hfr h1,fun _=>rfl⟩
theorem ea7 {l:List w9}{f:B7}{E5:Int}{t:Nat->Bool}{q:Nat}{bad:Bool}{fr:List Int}(hc:Cfs l)(h:Inv l f E5 true t)(h0:1<=E5)(h1:E5<=1073741824)(hq:q<l.length)(hfr:cg9 (l[q]) fr):
  ∃f' b,aq4 f (q:Int) bad fr=some (f',0)/\Inv l f' E5 true (fun i=>if i=q then b else t i)/\(t q=true->b=true):=by
 have hl:=h.len;have hl2:=hc.len
 have hq2:q<f.L.length:=by omega
 have hq3:q<f.T5.length:=by rw[h.aP5];omega
 have e1:f.T5[q]=l[q]:=by simp[h.aP5]
 have hfl:fr.length<=8:=by have:=hfr.1;have:=(hc.ok hq).frame;omega
 have g1:decide ((q:Int)<0)=false:=by simp
 have g2:decide ((q:Int)>=(f.L.length:Int))=false:=by simp;omega
 obtain⟨b,hb,hm⟩:=eR8 (fr:=fr) bad (hc.ok hq) (h.rt q hq hq2) hfr h0
 have bN3:∀y:A1,q<(f.L.set q y).length:=fun y=>by simpa using hq2
 have main:aq4 f (q:Int) bad fr=some (⟨f.T5,f.L.set q (cF6 (l[q]) E5 bad fr f.L[q]),f.aH5,f.ay0⟩,0):=by
  unfold aq4
  rw[bU6 hc h (by omega) h1 (fun _=>h0),g1,g2,h.run,C7 _ _ hq3,e1]
  simp only[as5,aX0,eO7,fh5]
  rw[cO8 (hc.ok hq) hfr,h.copied hc]
  simp only[as5,aX0,fh5]
  rw[C7 _ _ hq2,C7 _ _ hq3,e1]
  simp only[as5]
  rw[T9 _ _ _ hq2,T9 _ _ _ hq2]
  simp only[as5]
  have e2:(bif bad then some (f.L.set q ⟨f.L[q].D8,F2 l[q].ba6 (j7 (G4 f.L[q].D1 0+1)),f.L[q].I7,f.L[q].Clean,f.L[q].z8,f.L[q].Frame,f.L[q].G9⟩)else some (f.L.set q ⟨f.L[q].D8,G4 (j7 (0-l[q].Pass)) (j7 (F2 f.L[q].D1 0-1)),f.L[q].I7,f.L[q].Clean,f.L[q].z8,f.L[q].Frame,f.L[q].G9⟩))=some (f.L.set q (bt7 (l[q]) bad f.L[q])):=by
   unfold bt7;cases bad<;>rfl
  rw[e2]
  simp only[as5]
  rw[C7 _ _ (bN3 _)]
  simp only[as5,dN1]
  unfold cF6
  simp only
  cases(bt7 (l[q]) bad f.L[q]).D1==(l[q]).ba6
  ·simp only[fh5]
   cases(bt7 (l[q]) bad f.L[q]).D1==j7 (0-(l[q]).Pass)
   ·simp only[fh5];rw[h.run]
   ·simp only[fh8]
    rw[T9 _ _ _ (bN3 _)]
    simp only[as5,en8]
    rw[T9 _ _ _ (bN3 _)]
    simp only[as5,en8]
    rw[h.run]
  ·simp only[fh8]
   rw[dt1 _ _ (bN3 _) _ _ _ (by omega)]
   simp only[as5,dN1,en8]
   rw[h.run,h.cyc]
 refine⟨_,b,main,⟨h.aP5,h.cyc,h.run,by simp[hl],fun i a c=>?_⟩,hm⟩
 simp only[eY1]
 by_cases hi:q=i
 ·subst hi;simp only[if_true];exact hb
 ·rw[if_neg hi,if_neg (fun e=>hi e.symm)];exact h.rt i a (by omega)
end Fr
end Go.Pv
namespace Go.Proofs.YtmhdghdbojdgfaaGreat.Ec
open Go Go.Pv Go.Pv.Ec Go.Proofs
theorem cT9 {α S R:Type}(f:Int->α->S->Option (Fl S R))(I:Nat->S->Prop)(J:R->Prop):∀(r:List α) (k:Nat) (s:S),I k s->(∀j x s,r[j]? =some x->I (k+j) s->(∃s',f ((k+j:Nat):Int) x s=some (.next s')/\I (k+j+1) s')\/∃u,f ((k+j:Nat):Int) x s=some (.ret u)/\J u)->
  (∃s',L8 f r (k:Int) s=some (.inl s')/\I (k+r.length) s')\/∃u,L8 f r (k:Int) s=some (.inr u)/\J u
 |[],k,s,h,_=>.inl ⟨s,by simp[L8],h⟩
 |x::r,k,s,h,g=>by
  rcases g 0 x s rfl h with⟨s',h1,h2⟩|⟨u,h1,h2⟩
  ·have:=cT9 f I J r (k+1) s' h2 (fun j y u hy hu=>by
    have:=g (j+1) y u (by simpa using hy) (by rw[show k+(j+1)=k+1+j by omega];exact hu)
    rw[show k+(j+1)=k+1+j by omega]at this
    exact this)
   have e:L8 f (x::r) (k:Int) s=L8 f r ((k+1:Nat):Int) s':=by
    simp only[L8]
    rw[show((k:Nat):Int)=((k+0:Nat):Int) by rfl,h1]
    rfl
   rw[e,br6,show k+(r.length+1)=k+1+r.length by omega]
   exact this
  ·refine .inr ⟨u,?_,h2⟩
   simp only[L8]
   rw[show((k:Nat):Int)=((k+0:Nat):Int) by rfl,h1]
   rfl
theorem bv8 {α S R:Type}(l:List α)(hn:l.length<=9223372036854775807)(f:Int->α->S->Option (Fl S R))(I:Nat->S->Prop)(J:R->Prop)(s:S)(h0:I 0 s)
  (h:∀k x s,l[k]? =some x->I k s->(∃s',f (k:Int) x s=some (.next s')/\I (k+1) s')\/∃u,f (k:Int) x s=some (.ret u)/\J u):
  (∃s',L7 (fun p:Int×S=>bif decide (p.1<(l.length:Int))then((D4 l p.1).bind fun x=>(f p.1 x p.2).bind (aD4 p.1))else some (.inr (.inl p.2))) (0,s)=some (.inl s')/\I l.length s')\/
  ∃u,L7 (fun p:Int×S=>bif decide (p.1<(l.length:Int))then((D4 l p.1).bind fun x=>(f p.1 x p.2).bind (aD4 p.1))else some (.inr (.inl p.2))) (0,s)=some (.inr u)/\J u:=by
 have e:=K6 l hn f s
 rcases cT9 f I J l 0 s h0 (fun j x s hx hs=>by rw[cV7]at hs|-;exact h j x s hx hs)with⟨s',h1,h2⟩|⟨u,h1,h2⟩
 ·exact .inl ⟨s',e.trans h1,by rw[cV7]at h2;exact h2⟩
 ·exact .inr ⟨u,e.trans h1,h2⟩
structure SOk (s:j8):Prop where
 few:s.k.length<=100
 val:∀b∈s.k,-1000000<=b.Value/\b.Value<=1000000
 ped:0<=s.d.I9/\s.d.I9<=1000
 pre:50<=s.u.A8.L0/\s.u.A8.L0<=1013
 t:0<=s.t/\s.t<=1099511627776
 spd:0<=s.o8/\s.o8<=12000
theorem dE1 {s:j8}(hs:SOk s)(n:Int):∃v o,(O5 s n).m=some (v,o)/\ -1000000<=v/\v<=1000000:=by
 have hk:=hs.few
 simp only[O5,C.of,M.run]
 rcases bv8 s.k (by omega) (fun i x (u:Unit)=>(ag0 s n i x u).run) (fun _ _=>True) (fun r=>-1000000<=r.1/\r.1<=1000000) () trivial (fun k x u hx _=>by
  simp only[ag0,M.run]
  cases x.aE2==n
  ·exact .inl ⟨(),rfl,trivial⟩
  ·cases decide (x.bX1<=s.t)
   ·exact .inl ⟨(),rfl,trivial⟩
   ·cases decide (s.t<x.To)
    ·exact .inl ⟨(),rfl,trivial⟩
    ·exact .inr ⟨_,rfl,hs.val x (do0 hx)⟩)with⟨u,h1,_⟩|⟨u,h1,h2⟩
 ·rw[h1];exact⟨_,_,rfl,by omega,by omega⟩
 ·rw[h1];exact⟨u.1,u.2,rfl,h2⟩
theorem aS0 {s:j8}(hs:SOk s)(n:Int):∃v,(D3 s n).m=some v/\ -1000000<=v/\v<=1000000:=by
 obtain⟨v,o,h,hv⟩:=dE1 hs n
 obtain⟨x,hx⟩:=de9 s.u.A8
 have h1:=hs.ped;have h2:=hs.pre;have h3:=hs.t
 simp only[D3,C.of,M.run,h,hx,as5]
 cases o
 ·simp only[fh5]
  cases n==0<;>simp only[fh5,fh8]
  ·cases n==1<;>simp only[fh5,fh8]
   ·cases n==2<;>simp only[fh5,fh8]
    ·cases n==3<;>simp only[fh5,fh8]
     ·cases n==4<;>simp only[fh5,fh8]
      ·cases decide (x<1000)
       ·exact⟨_,rfl,by omega,by omega⟩
       ·exact⟨_,rfl,by omega,by omega⟩
      ·refine⟨_,rfl,?_⟩
       rw[cz5 h3.1,j5 (n:=s.t/1000000) (by omega) (by omega),j5 (by omega) (by omega)]
       unfold F2
       split<;>omega
     ·exact⟨_,rfl,by omega,by omega⟩
    ·exact⟨_,rfl,by omega,by omega⟩
   ·refine⟨_,rfl,?_⟩
    rw[cz5 h1.1,j5 (by omega) (by omega)]
    omega
  ·exact⟨_,rfl,by omega,by omega⟩
 ·exact⟨_,rfl,hv⟩
theorem dw8 (x a b:Int):(bm5 x a b).m=some (decide (x<a)||decide (x>b)):=rfl
theorem el7 {c:w9}(hc:Fr.cq6 c){a b:Int}(ha:-1000000<=a/\a<=1000000)(hb:-1000000<=b/\b<=1000000):∃l,aY3 c.Frame (0:Int)=some l/\Fr.cg9 c (aI9 l [a,b]):=by
 have h:=hc.frame
 refine⟨cE8 c.Frame.toNat 0,by unfold aY3;rw[if_pos (by omega)],?_,fun x hx=>?_⟩
 ·unfold aI9
  simp only[ba3,bt6,dc5,eH7,br6,cI2]
  omega
 ·unfold aI9 at hx
  rcases dn9.1 hx with h1|h1
  ·have:=ey0 h1
   simp only[bZ8,eT4,or_false]at this
   rcases this with rfl|rfl<;>omega
  ·have:=eX8 (eV1 h1)
   omega
theorem eY9 (o:B7):(bL8 o).m=some o:=rfl
theorem eP6 (n:B7)(e:Int)(o:B7):(be5 n e o).m=some (bif e !=0 then o else n):=by
 simp only[be5,C.of,M.run]
 cases e !=0<;>rfl
theorem ag5 {S R:Type}(n:Nat)(hn:n<=1000000000)(f:Int->S->Option (Fl S R))(I:Nat->S->Prop)(s:S)(h0:I 0 s)(h:∀k s,k<n->I k s->∃s',f (k:Int) s=some (.next s')/\I (k+1) s'):
  ∃s',L7 (fun p:Int×S=>bif decide (p.1<(n:Int))then((f p.1 p.2).bind (aD4 p.1))else some (.inr (.inl p.2))) (0,s)=some (.inl s')/\I n s':=by
 have key:=bu8 (mb:=fun p:Int×S=>bif decide (p.1<(n:Int))then((f p.1 p.2).bind (aD4 p.1))else some (.inr (.inl p.2))) (fun x=>∃k:Nat,x.1=(k:Int)/\k<=n/\I k x.2) (fun x=>n-x.1.toNat) (fun b:S⊕R=>∃t,b= .inl t/\I n t)
  (fun x ⟨k,hk,hkn,hi⟩=>by
   obtain⟨a,u⟩:=x
   simp only at hk hi
   subst hk
   by_cases hlt:k<n
   ·left
    obtain⟨s',h1,h2⟩:=h k u hlt hi
    simp only
    rw[fi0 (show((k:Nat):Int)<(n:Int) by omega),h1]
    refine⟨(((k+1:Nat):Int),s'),?_,⟨k+1,rfl,by omega,h2⟩,by simp only;omega⟩
    simp only[fh8,as5,aD4]
    first|rfl|(rw[j5 (by omega) (by omega)];rfl)
   ·right
    simp only
    rw[fi1 (show¬((k:Nat):Int)<(n:Int) by omega)]
    have:k=n:=by omega
    subst this
    exact⟨_,rfl,u,rfl,hi⟩)
 obtain⟨b,e1,t,e2,h2⟩:=key n (0,s) (by simp) ⟨0,rfl,by omega,h0⟩
 rw[e2]at e1
 exact⟨t,e1,h2⟩
def R0:List T1:=(bA3).m.getD []
theorem cX9:(bA3).m=some R0:=rfl
theorem cI4:R0.length=7:=rfl
theorem cY9:(R0.all fun r=>decide (r.ae9.length<=16)&&r.ae9.all fun c=>decide (0<=c)&&decide (c<7))=true:=by kernel_rfl
theorem dS6:(R0.all fun r=>decide (-5000<=r.ch2)&&decide (r.ch2<=10000))=true:=by kernel_rfl
theorem cZ0:(aJ4 R0 7).m=some true:=(aJ4 R0 7).le 1000 _ (by kernel_rfl)
theorem dC3:(aJ4 R0 64).m=some true:=(aJ4 R0 64).le 1000 _ (by kernel_rfl)
def cf0:List w9:=((bm4).e 100).getD []
theorem dr6:(bm4).m=some cf0:=(bm4).le 100 _ (by kernel_rfl)
theorem bq4:cf0.length=7:=by kernel_rfl
theorem dp3 {α:Type}{l:List α}{p q:α->Bool}(h:(l.all fun r=>p r&&q r)=true){x:α}(hx:x∈l):p x=true/\q x=true:=by
 have:=bx8.1 h x hx
 rwa[aI0]at this
theorem dE6 {r:T1}{n:Nat}(h16:r.ae9.length<=16)(hr:∀c∈r.ae9,0<=c/\c<(n:Int))(f:Cl Tryz.prog Int Bool (fun x=>[.t (tI x)]) (fun r=>.t (tB r)))(hf:∀c,0<=c->c<(n:Int)->∃b,f.f c=some b):
  ∃o,(aO1 r f).m=some o/\o.length<=16:=by
 simp only[aO1,C.of,M.run]
 obtain⟨o,h1,h2⟩:=aM3 r.ae9 (by omega) (fun i x (o:List Int)=>(aD5 f i x o).run) (fun k o=>o.length<=k) [] (cv6 _) (fun k x o hx hI=>by
  have hk:=(bG0.1 hx).1
  have hm:=hr x (do0 hx)
  obtain⟨b,hb⟩:=hf x hm.1 hm.2
  simp only[aD5,M.run,U1.m,Cl.at,hb,as5]
  cases b
  ·exact⟨_,rfl,by omega⟩
  ·simp only[fh8]
   rw[H7 _ _ (by simp only[co8];omega)]
   exact⟨_,rfl,by simp only[ba3,co8];omega⟩)
 rw[h1]
 exact⟨_,rfl,by omega⟩
theorem du3 (f:Cl Tryz.prog Int Bool (fun x=>[.t (tI x)]) (fun r=>.t (tB r)))(hf:∀c,0<=c->c<7->∃b,f.f c=some b):
  ∃a,(aJ5 R0 f).m=some a/\a.length<=7/\∀x∈a,(0<=x.S5/\x.S5<7)/\x.ae9.length<=16:=by
 simp only[aJ5,C.of,M.run]
 obtain⟨a,h1,h2,h3⟩:=ag5 R0.length (by rw[cI4];omega) (fun i (o:List U3)=>(az1 R0 f i o).run) (fun k o=>o.length<=k/\∀x∈o,(0<=x.S5/\x.S5<7)/\x.ae9.length<=16) [] ⟨cv6 _,by simp⟩ (fun k o hk hI=>by
  have hk7:k<7:=hk
  have hr:=dp3 cY9 (bd2 hk)
  rw[fi2]at hr
  obtain⟨v,hv,hv16⟩:=dE6 (n:=7) hr.1 (fun c hc=>by
   have:=bx8.1 hr.2 c hc
   rw[aI0,fi2,fi2]at this
   exact this) f hf
  simp only[az1,M.run,L1.m,U1.m]
  rw[T8,aW9 hk]
  simp only[as5,hv]
  cases decide ((v.length:Int)>0)
  ·exact⟨_,rfl,by omega,hI.2⟩
  ·simp only[fh8]
   rw[H7 _ _ (by simp only[co8];omega)]
   refine⟨_,rfl,by simp only[ba3,co8];omega,fun x hx=>?_⟩
   rcases dn9.1 hx with h|h
   ·exact hI.2 x h
   ·rw[ex8]at h
    subst h
    simp only
    exact⟨by omega,hv16⟩)
 rw[h1]
 exact⟨a,rfl,h2,h3⟩
theorem dC8 {f:B7}(hv:(Z6 f).m=some true)(hl:f.L.length=7):∃a,(aO0 R0 f).m=some (a,0)/\a.length<=7/\∀x∈a,(0<=x.S5/\x.S5<7)/\x.ae9.length<=16:=by
 obtain⟨a,h1,h2⟩:=du3 (.of (fun z_=>aF9 z_ (-1) f) 287 [Pv.encI (-1),aR1 f]) (fun c h0 h7=>by
  simp only[Cl.of,aF9,C.of,M.run,L1.m]
  rw[show(c != -1)=true by simp;omega]
  have:D4 f.L c=some (f.L[c.toNat]'(by omega)):=by
   conv=>lhs;rw[show c=((c.toNat:Nat):Int) by omega]
   rw[T8,aW9 (by omega)]
  rw[this]
  exact⟨_,rfl⟩)
 refine⟨a,?_,h2⟩
 simp only[aO0,bw0,bo9,C.of,M.run,hv,hl,as5,fh8]
 rw[show(((7:Nat):Int))=7 by rfl,cZ0]
 simp only[as5,aX0,fh5]
 rw[h1]
 rfl
theorem dX7 {a:List U3}(ha:a.length<=7)(hr:∀x∈a,0<=x.S5/\x.S5<7)(g o:Int):∃v e,(bv9 R0 a g o).m=some (v,e)/\(-5000<=o->o<=10000-> -5000<=v/\v<=10000):=by
 have hc:(S3 a (.of (fun z_=>bj5 z_ R0) 220 [(Pv.encS ac6) R0])).m=some (a.any fun x=>decide (x.S5<0)||decide (x.S5>=(R0.length:Int))):=by
  simp only[S3,aY8,aP8,C.of,M.run,L1.m,Cl.at,Cl.of]
  refine Eq.trans ?_ (bu7 a (by omega) (fun x=>(bj5 x R0).m) (fun x=>decide (x.S5<0)||decide (x.S5>=(R0.length:Int))) (fun y _=>rfl))
  kernel_rfl
 simp only[bv9,C.of,M.run,dC3,hc,as5,aX0,ec9]
 rw[fi1 (show¬((a.length:Int)>64) by omega)]
 simp only[fh5,as5]
 have hn:(a.any fun x=>decide (x.S5<0)||decide (x.S5>=(R0.length:Int)))=false:=by
  rw[dv4]
  intro x hx
  have:=hr x hx
  rw[cI4]
  simp only[cH8,fi2]
  omega
 rw[hn]
 simp only[fh5]
 cases(decide (g<0)||decide (g>15))
 ·simp only[fh5]
  obtain⟨u,h1,h2⟩:=aM3 a (by omega) (fun i x (s:Int×Int)=>(bg1 R0 g i x s).run) (fun _ s=>-5000<=o->o<=10000-> -5000<=s.1/\s.1<=10000) (o,-1) (fun h1 h2=>⟨h1,h2⟩) (fun k x s hx hI=>by
   have hm:=hr x (do0 hx)
   have hlt:x.S5.toNat<R0.length:=by rw[cI4];omega
   have hl:=dp3 dS6 (bd2 hlt)
   rw[fi2,fi2]at hl
   simp only[bg1,M.run,L1.m]
   have:D4 R0 x.S5=some R0[x.S5.toNat]:=by
    conv=>lhs;rw[show x.S5=((x.S5.toNat:Nat):Int) by omega]
    rw[T8,aW9 hlt]
   rw[this]
   simp only[as5]
   cases((R0[x.S5.toNat].cY7 !=g)||decide (R0[x.S5.toNat].E6<s.2))<;>simp only[fh5,fh8]
   ·cases decide (R0[x.S5.toNat].E6>s.2)
    ·refine⟨_,rfl,fun h3 h4=>?_⟩
     have:=hI h3 h4
     unfold F2
     simp only
     split<;>omega
    ·refine⟨_,rfl,fun h3 h4=>?_⟩
     unfold F2
     simp only
     split<;>omega
   ·exact⟨_,rfl,hI⟩)
  rw[h1]
  exact⟨_,_,rfl,h2⟩
 ·exact⟨_,_,rfl,fun _ _=>by omega⟩
theorem dg0 (n o:Int)(c:j8)(ha:c.Z2.length<=7)(hr:∀x∈c.Z2,0<=x.S5/\x.S5<7):∃v,(as6 n o R0 c).m=some v/\(-5000<=o->o<=10000-> -5000<=v/\v<=10000):=by
 obtain⟨v,e,h1,h2⟩:=dX7 ha hr n o
 simp only[as6,CG.of,M.run,h1,as5]
 exact⟨v,rfl,h2⟩
structure fe2 (s r:j8):Prop where
 C4:r.u.u6=s.u.u6
 con:r.u.u4=s.u.u4
 sch:r.u.j4=s.u.j4
 syn:r.u.Q4=s.u.Q4
 pha:r.u.M7=s.u.M7
 fil:r.u.H8=s.u.H8
 gua:r.u.M0=s.u.M0
 qui:r.u.I8=s.u.I8
 sta:r.u.L6=s.u.L6
 pla:r.u.A8=s.u.A8
 bod:r.u.ab0=s.u.ab0
 d:r.d=s.d
 k:r.k=s.k
 t:r.t=s.t
 o8:r.o8=s.o8
 known:r.known=s.known
 cut:r.cut=s.cut
 y9:r.y9=s.y9
 T4:r.T4=s.T4
 act:r.Z2.length<=7/\∀x∈r.Z2,x.ae9.length<=16
 au2:-5000<=r.au2/\r.au2<=10000
 C1:50<=r.C1/\r.C1<=1013
 aQ0:-40<=r.aQ0/\r.aQ0<=150
 D5:-40<=r.D5/\r.D5<=150
 aJ3:0<=r.aJ3/\r.aJ3<=20000
end Go.Proofs.YtmhdghdbojdgfaaGreat.Ec
namespace Go.Pv
open Go
theorem fc0:bU2 ⟨0⟩:=⟨by decide,by decide⟩
theorem dZ3 {t:o7}{e:o5}{b:L2}{c:A5}{i:W9}(h:Giv t e b c i)(f:Int):bz0 e (nxC t b c i f)=true:=by
 have ht:=df9 h.t
 have hc:=ce0.1 h.c
 have hi:=eg7.1 h.i
 obtain⟨k1,k2,k3⟩:=eJ1 hc.kno hi.int (by rw[hc.num];exact hi.num) (by rw[hc.num];exact hi.len)
 rw[ce0]
 refine⟨hc.eng,(cR2 hc.ped _ _).2,(de3 hc.mix hi.lam hi.spd (be3 ht i)).2,by rw[<-hc.num];exact k3,k2,?_,(du4 ht h.b hc f).2,em6 (df3 hi) _⟩
 show bU2 (idV t c i)
 unfold idV
 cases acV c i
 ·exact fc0
 ·exact(dO6 ht.idle hc.sum hi.coo hi.spd).2
theorem ep2 {e:o5}(h:Ev.aE1 e):bz0 e (eD4 e.A3.length)=true:=by
 rw[ce0]
 refine⟨h,(show cX7 ⟨0,0,false⟩=true by decide),(show cQ2 dI1=true by decide),by simp[eD4],?_,fc0,(show(0:Int)<=0/\(0:Int)<=1073741824 by decide),(show granted ⟨0,-1⟩from⟨⟨by decide,by decide⟩,⟨by decide,by decide⟩⟩)⟩
 rw[bx8]
 intro x hx
 have:x=k0:=eX8 hx
 subst this;decide
end Go.Pv
namespace Go.Proofs.YtmhdghdbojdgfaaGreat.Ec
open Go Go.Pv Go.Pv.Ec Go.Proofs
structure ey2 (s:j8):Prop where
 au2:-5000<=s.au2/\s.au2<=10000
 C1:50<=s.C1/\s.C1<=1013
 aQ0:-40<=s.aQ0/\s.aQ0<=150
 D5:-40<=s.D5/\s.D5<=150
 aJ3:0<=s.aJ3/\s.aJ3<=20000
theorem eY8 (o:A5):(by6 o).m=some o:=rfl
theorem eP5 (n o:A5):(bp4 n 0 o).m=some n:=rfl
theorem eZ1 (o:O4):(bD9 o).m=some o:=rfl
theorem eP8 (n o:O4):(bt9 n 0 o).m=some n:=rfl
theorem cB9 (s:j8):(bi4 s).m=some ⟨9,1,s.au2,15⟩:=rfl
theorem fa5 (w:Int)(h: -5000<=w/\w<=10000):Ar.cn9 ⟨9,1,w,15⟩:=
 ⟨⟨(by decide:(0:Int)<=9),(by decide:(9:Int)<=15)⟩,⟨(by decide:(0:Int)<=15),(by decide:(15:Int)<=15)⟩,h,.inl rfl⟩
theorem dr7 {s:j8}(hs:SOk s)(ha:ey2 s)(ht:cc9 s.u.u6=true)(hb:aV6 s.u.ab0=true)(hg:bz0 s.u.j4.u7 s.u.u4=true):
  ∃c o,(aT5 s).m=some {s with u:={s.u with u4:=c},E8:=o}/\
   bz0 s.u.j4.u7 c=true/\o.O0.length=s.u.j4.u7.A3.length:=by
 obtain⟨v,e0,_⟩:=aS0 hs 0
 obtain⟨v2,e1,_⟩:=aS0 hs 1
 have hc:=ce0.1 hg
 have hn:1<=s.u.j4.u7.A3.length/\s.u.j4.u7.A3.length<=8:=⟨hc.eng.1,hc.eng.2.1⟩
 have em:aY3 (s.u.j4.u7.A3.length:Int) (0:Int)=some (cE8 s.u.j4.u7.A3.length 0):=by
  unfold aY3
  rw[if_pos (by omega)]
  rfl
 have hi:Giv s.u.u6 s.u.j4.u7 s.u.ab0 s.u.u4 (⟨v,v2,s.o8,s.C1,s.aQ0,13500,s.aJ3,s.D5,cE8 s.u.j4.u7.A3.length 0,([⟨9,1,s.au2,15⟩]:List j2)⟩:W9):=by
  have h1:=ha.C1;have h2:=ha.aQ0;have h3:=ha.D5;have h4:=ha.aJ3
  refine⟨ht,hb,hg,eg7.2 ⟨hn,by simp,by simp,hs.spd,by simp only;omega,h2,h3,by simp,h4,by simp[inR],?_⟩⟩
  simp only[List.all_cons,List.all_nil,Bool.and_true]
  rw[co0,fi2]
  exact fa5 _ ha.au2
 obtain⟨f,l,_,e2⟩:=ej5 hi (by simp)
 simp only[aT5,CG.of,M.run,e0,e1,em,cB9,as5,cD5]
 rw[e2]
 simp only[as5,eY8,eP5,eZ1,eP8]
 refine⟨_,_,rfl,dZ3 hi f,?_⟩
 simp only[eZ9,cV3,List.length_range]
end Go.Proofs.YtmhdghdbojdgfaaGreat.Ec
namespace Go.Pv
open Go
def dL6 (l:List Int)(x:Int)(a:Nat):Prop:=∃_:a<l.length,(nd l a<=x/\∀j,a<j->j<l.length->x<nd l j)\/(a=0/\∀j,j<l.length->x<nd l j)
def dg9 (l:List Int)(x:Int)(b:Nat):Prop:=∃_:b<l.length,(x<=nd l b/\∀j,j<b->nd l j<x)\/(b+1=l.length/\∀j,j<l.length->nd l j<x)
theorem cy3 {l:List Int}(h:bz5 l)(x:Int):∃a b:Nat,dL6 l x a/\dg9 l x b/\ag4 l x=some ((a:Int),(b:Int)):=by
 have h2:=h.two
 have hl:=h.most
 obtain⟨u,hu,hu2⟩:=ag5 l.length (by omega) (ar0 l x) (fun k s=>∃a:Nat,s=(a:Int)/\a<l.length/\((a<k/\nd l a<=x/\∀j,a<j->j<k->x<nd l j)\/(a=0/\∀j,j<k->x<nd l j))) (0:Int)
  ⟨0,rfl,by omega,.inr ⟨rfl,fun j hj=>absurd hj (by omega)⟩⟩ (fun j hj s ⟨a,hs,ha,hI⟩=>by
   unfold ar0
   rw[C7 l j hj,as5]
   by_cases hx:l[j]<=x
   ·rw[fi0 hx,fh8]
    refine⟨_,rfl,j,rfl,hj,.inl ⟨by omega,by rw[N4 hj];exact hx,fun i h1 h2=>absurd h2 (by omega)⟩⟩
   ·rw[fi1 hx,fh5]
    refine⟨_,rfl,a,hs,ha,?_⟩
    have step:∀i,i<j+1->(i<j->x<nd l i)->x<nd l i:=fun i hi hh=>by
     rcases cZ8 i j with h1|h1
     ·exact hh h1
     ·have:i=j:=by omega
      subst this
      rw[N4 hj];omega
    rcases hI with⟨h1,h2,h3⟩|⟨h1,h2⟩
    ·exact .inl ⟨by omega,h2,fun i hi hi2=>step i hi2 (fun q=>h3 i hi q)⟩
    ·exact .inr ⟨h1,fun i hi=>step i hi (h2 i)⟩)
 obtain⟨a,rfl,ha,haI⟩:=hu2
 have down:∀(k b:Nat),k<=l.length->b<l.length->((k<=b/\x<=nd l b/\∀j,k<=j->j<b->nd l j<x)\/(b+1=l.length/\∀j,k<=j->j<l.length->nd l j<x))->
   ∃b':Nat,dg9 l x b'/\L7 (ae5 l x) ((k:Int)-1,(b:Int))=some (.inl (-1,(b':Int))):=by
  intro k
  induction k with
  |zero=>
   intro b _ hb hI
   refine⟨b,⟨hb,?_⟩,D9 ?_⟩
   ·rcases hI with⟨_,h1,h2⟩|⟨h1,h2⟩
    ·exact .inl ⟨h1,fun j hj=>h2 j (Nat.zero_le _) hj⟩
    ·exact .inr ⟨h1,fun j hj=>h2 j (Nat.zero_le _) hj⟩
   ·simp[ae5]
  |succ k ih=>
   intro b hk hb hI
   have hkl:k<l.length:=by omega
   have e0:((k+1:Nat):Int)-1=(k:Int):=by omega
   have e:decide ((k:Int)>=0)=true:=fi0 (by omega)
   have ew:j7 ((k:Int)-1)=(k:Int)-1:=j5 (by omega) (by omega)
   rw[e0]
   by_cases hx:l[k]>=x
   ·obtain⟨b',h1,h3⟩:=ih k (by omega) hkl (.inl ⟨cv6 _,by rw[N4 hkl];exact hx,fun j h1 h2=>absurd h2 (by omega)⟩)
    refine⟨b',h1,?_⟩
    rw[G8 (s':=((k:Int)-1,(k:Int)))]
    ·exact h3
    ·simp only[ae5,e,fh8,T8,aW9 hkl,as5,hx,decide_true,ew]
   ·have step:∀j,k<=j->(k+1<=j->nd l j<x)->nd l j<x:=fun j hj hh=>by
     rcases cZ8 k j with h1|h1
     ·exact hh h1
     ·have:j=k:=by omega
      subst this
      rw[N4 hkl];omega
    obtain⟨b',h1,h3⟩:=ih b (by omega) hb (by
     rcases hI with⟨h1,h2,h3⟩|⟨h1,h2⟩
     ·exact .inl ⟨by omega,h2,fun j h4 h5=>step j h4 (fun q=>h3 j q h5)⟩
     ·exact .inr ⟨h1,fun j h4 h5=>step j h4 (fun q=>h2 j q h5)⟩)
    refine⟨b',h1,?_⟩
    rw[G8 (s':=((k:Int)-1,(b:Int)))]
    ·exact h3
    ·simp only[ae5,e,fh8,T8,aW9 hkl,as5,hx,decide_false,fh5,ew]
 obtain⟨b,hb,hb2⟩:=down l.length (l.length-1) (cv6 _) (by omega) (.inr ⟨by omega,fun j h1 h2=>absurd h2 (by omega)⟩)
 have ew:j7 ((l.length:Int)-1)=(l.length:Int)-1:=j5 (by omega) (by omega)
 have e1:((l.length-1:Nat):Int)=(l.length:Int)-1:=by omega
 have g0:=C7 l 0 (by omega)
 rw[show((0:Nat):Int)=0 from rfl]at g0
 refine⟨a,b,⟨ha,?_⟩,hb,?_⟩
 ·rcases haI with⟨_,h1,h2⟩|⟨h1,h2⟩
  ·exact .inl ⟨h1,h2⟩
  ·exact .inr ⟨h1,h2⟩
 ·unfold ag4
  rw[hu]
  simp only[as5,ew]
  rw[e1]at hb2
  rw[hb2]
  simp only[as5,g0]
  by_cases hx:x<l[0]
  · --the first node is above
   have:b=0:=by
    obtain⟨hbl,hb1⟩:=hb
    rcases hb1 with⟨_,h1⟩|⟨_,h1⟩
    ·rcases Nat.eq_zero_or_pos b with h0|h0
     ·exact h0
     ·have:=h1 0 h0
      rw[N4 (by omega)]at this
      omega
    ·have:=h1 0 (by omega)
     rw[N4 (by omega)]at this
     omega
   subst this
   rw[fi0 hx]
   rfl
  ·rw[fi1 hx]
   rfl
theorem ce3 {l:List Int}(h:bz5 l){x:Int}{a b i:Nat}(ha:dL6 l x a)(hb:dg9 l x b)(hi:bl6 l (lim l x) i)(f:Nat->Int):
  itp (nd l i) (nd l (i+1)) (f i) (f (i+1)) (lim l x)<=max (f a) (f b):=by
 have h2:=h.two
 obtain⟨k0,k1,k2,k3,_,_⟩:=hi.nd h
 obtain⟨hal,ha⟩:=ha
 obtain⟨hbl,hb⟩:=hb
 have hle:∀i j,i<=j->j<l.length->nd l i<=nd l j:=fun i j h1 h2=>by rw[N4 h2,N4 (by omega)];exact h.le j i h2 h1
 have hlt:∀i j,i<j->j<l.length->nd l i<nd l j:=fun i j h1 h2=>by rw[N4 h2,N4 (by omega)];exact h.lt j i h2 h1
 have hh:l.headD 0=nd l 0:=by rw[bE4 l (by omega),N4 (by omega)]
 have ht:l.getLastD 0=nd l (l.length-1):=by rw[bf2 l (by omega),N4 (by omega)]
 have hlim:lim l x=min (max x (nd l 0)) (nd l (l.length-1)):=by unfold lim;rw[hh,ht]
 have h0l:=hle 0 (l.length-1) (by omega) (by omega)
 have node:∀c,c<l.length->lim l x=nd l c->itp (nd l i) (nd l (i+1)) (f i) (f (i+1)) (lim l x)=f c:=fun c hc e=>by
  rw[e]at k1 k2|-
  have c1:i<=c:=by
   rcases cZ8 c i with q|q
   ·have:=hlt c i q (by omega);omega
   ·exact q
  have c2:c<=i+1:=by
   rcases cZ8 (i+1) c with q|q
   ·have:=hlt (i+1) c q hc;omega
   ·exact q
  rcases(show c=i\/c=i+1 by omega)with rfl|rfl
  ·exact du7 ..
  ·exact dd6 k3
 rcases fe8 x (nd l 0)with q|q
 ·have e:lim l x=nd l 0:=by omega
  have:a=0:=by
   rcases ha with⟨h1,_⟩|⟨h1,_⟩
   ·have:=hle 0 a (by omega) hal;omega
   ·exact h1
  subst this
  rw[node 0 (by omega) e];omega
 ·rcases fe8 (nd l (l.length-1)) x with r|r
  ·have e:lim l x=nd l (l.length-1):=by omega
   have:b=l.length-1:=by
    rcases hb with⟨h1,_⟩|⟨h1,_⟩
    ·have:=hle b (l.length-1) (by omega) (by omega);omega
    ·omega
   subst this
   rw[node (l.length-1) (by omega) e];omega
  ·have e:lim l x=x:=by omega
   have ha':nd l a<=x/\∀j,a<j->j<l.length->x<nd l j:=by
    rcases ha with h1|⟨_,h1⟩
    ·exact h1
    ·have:=h1 0 (by omega);omega
   have hb':x<=nd l b/\∀j,j<b->nd l j<x:=by
    rcases hb with h1|⟨_,h1⟩
    ·exact h1
    ·have:=h1 (l.length-1) (by omega);omega
   rcases fe8 (nd l a) x with s|s
   ·have c1:i=a:=by
     rcases Nat.lt_trichotomy i a with q1|q1|q1
     ·have:=hle (i+1) a (by omega) hal
      omega
     ·exact q1
     ·have:=ha'.2 i q1 (by omega)
      omega
    have c2:b=a+1:=by
     rcases Nat.lt_trichotomy b (a+1)with q1|q1|q1
     ·have:=hle b a (by omega) hal;omega
     ·exact q1
     ·have:=hb'.2 (a+1) q1
      have:=ha'.2 (a+1) (by omega) (by omega)
      omega
    subst c1 c2
    exact(bi6 (lo:=min (f i) (f (i+1))) k1 k2 k3 (by omega) (by omega) (by omega) (by omega)).2
   ·rw[node a hal (by omega)];omega
theorem ct6 {m:SMap}(h:bo7 m=true)(x y:Int):∃v c,Y2 m x y=some v/\X9 m x y=some c/\v<=c:=by
 have hm:=bZ3 h
 obtain⟨i,j,hi,hj,e⟩:=ed9 h x y
 obtain⟨a,b,ha,hb,eab⟩:=cy3 hm.x x
 obtain⟨c,d,hc,hd,ecd⟩:=cy3 hm.y y
 have la:=ha.1;have lb:=hb.1;have lc:=hc.1;have ld:=hd.1
 have za:a<m.Z.length:=by have:=hm.zl;omega
 have zb:b<m.Z.length:=by have:=hm.zl;omega
 have ra:=hm.rl a za
 have rb:=hm.rl b zb
 refine⟨_,max (max (zz m a c) (zz m a d)) (max (zz m b c) (zz m b d)),e,?_,?_⟩
 ·unfold X9
  rw[eab,ecd]
  simp only[as5]
  rw[C7 m.Z a za,as5,C7 _ c (by omega),as5,C7 _ d (by omega),as5,C7 m.Z b zb,as5,C7 _ c (by omega),as5,C7 _ d (by omega),as5,
   <-bU8 za (by omega),<-bU8 za (by omega),<-bU8 zb (by omega),<-bU8 zb (by omega)]
  simp only[ao4]
  congr 1;omega
 ·have h1:=ce3 hm.y hc hd hj (fun j=>along m i (lim m.X x) j)
  have h2:=ce3 hm.x ha hb hi (fun i=>zz m i c)
  have h3:=ce3 hm.x ha hb hi (fun i=>zz m i d)
  have e1:itp (nd m.X i) (nd m.X (i+1)) (zz m i c) (zz m (i+1) c) (lim m.X x)=along m i (lim m.X x) c:=rfl
  have e2:itp (nd m.X i) (nd m.X (i+1)) (zz m i d) (zz m (i+1) d) (lim m.X x)=along m i (lim m.X x) d:=rfl
  rw[e1]at h2
  rw[e2]at h3
  unfold atV
  omega
def cB8 (r:j2):Bool:=((!(((decide (r.N3<0))||(decide (r.N3>15)))||(decide (r.E6<0))||(decide (r.E6>15))))&&((decide (r.o9>=(-5000)))&&(decide (r.o9<=10000))))&&((r.Kind==1)||(decide (r.N3<=1)&&((r.Kind==2)||(r.Kind==3))))
theorem dQ6 (r:j2):S6 r=some (cB8 r):=by
 unfold S6 P3 cB8
 generalize decide (r.N3<0)=a,decide (r.N3>15)=b,decide (r.E6<0)=c,decide (r.E6>15)=d,decide (r.o9>=(-5000))=e,decide (r.o9<=10000)=f,(r.Kind==1)=h,decide (r.N3<=1)=i,(r.Kind==2)=j,(r.Kind==3)=k
 generalize(((a||b)||c)||d)=A,(j||k)=B
 cases A<;>cases e<;>cases f<;>cases h<;>cases i<;>cases B<;>rfl
theorem dU3 (l:List j2)(hl:l.length<=40):D7 l U8=some (!l.all cB8):=by
 have k:=ai3 l (by omega) U8 (fun r=>!cB8 r) (fun y _=>by simp[U8,dQ6])
 have e2:(l.any fun z=>!cB8 z)= !l.all cB8:=by rw[dS1];simp
 rw[e2]at k
 exact k
def dP9 (s:Int×Int)(y:j2):Int×Int:=
 bif !((y.Kind==2)||(y.Kind==3))then s else(bif y.N3==1 then G4 s.1 (F2 y.o9 1500)else s.1,G4 s.2 y.E6)
def cB3 (p s:Int)(y:j2):Int:=bif (y.Kind==1)&&decide (y.E6>p)then F2 s y.o9 else s
theorem fa0 (l:List j2)(hl:l.length<=40)(s:Int×Int):ad9 l ag2 s=some (.inl (l.foldl dP9 s)):=by
 rw[K6 _ (by omega)]
 refine bn5 l 0 s fun i s y _=>?_
 unfold ag2 ax6 dP9
 simp only[as5]
 cases((y.Kind==2)||(y.Kind==3))<;>cases(y.N3==1)<;>rfl
theorem fa1 (l:List j2)(hl:l.length<=40)(q:Int×Int)(s:Int):ad9 l (ag3 q) s=some (.inl (l.foldl (cB3 q.2) s)):=by
 rw[K6 _ (by omega)]
 refine bn5 l 0 s fun i s y _=>?_
 unfold ag3 cB3
 cases((y.Kind==1)&&decide (y.E6>q.2))<;>rfl
def em7 (g:ah9):Prop:=(0<=g.Over/\g.Over<=5)/\(0<=g.Calm/\g.Calm<=1000)/\(g.Over=0\/g.Calm=0)/\(g.Off=true\/g.Over<5)
instance (g:ah9):Decidable (em7 g):=by unfold em7;infer_instance
def dR9 (n:Int):Prop:=-20000<=n/\n<=20000
instance (n:Int):Decidable (dR9 n):=by unfold dR9;infer_instance
def dG5 (n:Int)(x:A2):Int:=bif (x.Y8 !=0)then j7 (n+1)else n
theorem fe5 (l:List A2)(hl:l.length<=20)(s:Int):ad9 l aq9 s=some (.inl (l.foldl dG5 s)):=by
 rw[K6 _ (by omega)]
 refine bn5 l 0 s fun i s y _=>?_
 unfold aq9 dG5
 cases(y.Y8 !=0)<;>rfl
def bZ1 (x:A2):Bool:=x.Y8 !=0
theorem cu7:∀(l:List A2) (s:Nat),s+l.length<=100->l.foldl dG5 (s:Int)=((s+l.countP bZ1:Nat):Int)
 |[],s,_=>by simp
 |y::l,s,h=>by
  simp only[br6]at h
  by_cases hy:bZ1 y=true
  ·have e:dG5 (s:Int) y=((s+1:Nat):Int):=by
    unfold dG5;unfold bZ1 at hy;rw[hy];simp only[fh8];rw[j5 (by omega) (by omega)];simp
   rw[ex7,e,cu7 l (s+1) (by omega),List.countP_cons_of_pos hy]
   congr 1;omega
  ·have hy':bZ1 y=false:=by simpa using hy
   have e:dG5 (s:Int) y=(s:Int):=by unfold dG5;unfold bZ1 at hy';rw[hy'];rfl
   rw[ex7,e,cu7 l s (by omega),List.countP_cons_of_neg hy]
def dh1 (V n len:Int):Int:=(V*n+len-1).tdiv len
theorem cZ4 (t:o7)(x1 x2:Int)(hm:bo7 t.o9=true)(ho:(bif !(decide (x1>=0)&&decide (x1<=12000))then true else !(decide (x2>=0)&&decide (x2<=1048576)))=false)(c:Int)(c1:X9 t.o9 x1 x2=some c):
  ∀l:List A2,1<=l.length->l.length<=8->ax5 t x1 x2 l=some (dh1 (F2 (G4 c 0) 10000) (l.countP bZ1:Nat) (l.length:Nat),0):=by
 intro l hl hl2
 have h1:0<=F2 (G4 c 0) 10000:=by unfold G4 F2;repeat' split<;>omega
 have h2:F2 (G4 c 0) 10000<=10000:=by unfold F2;split<;>omega
 unfold ax5
 rw[ao3,hm]
 have h8:decide ((l.length:Int)>8)=false:=by simp;omega
 have h0:((l.length:Int)==0)=false:=by
  have:¬(l.length:Int)=0:=by omega
  simpa using this
 have hn:=cu7 l 0 (by omega)
 simp only[as5,aX0,fh5,h8]
 unfold N0
 simp only[as5,cJ6]
 rw[ho]
 simp only[fh5,h0]
 rw[fe5 l (by omega),show(0:Int)=((0:Nat):Int)from rfl,hn]
 simp only[as5,c1]
 rw[show((0:Nat):Int)=0 from rfl,cV7]
 have hcl:l.countP bZ1<=l.length:=List.countP_le_length
 generalize F2 (G4 c 0) 10000=V at h1 h2|-
 generalize l.countP bZ1=n at hcl|-
 have hV1:0<=V*(n:Int):=eT3 h1 (by omega)
 have hV2:V*(n:Int)<=10000*8:=by
  have:=eR5 h2 (show(n:Int)<=8 by omega) (by omega) (by omega)
  exact this
 have hne:¬(l.length:Int)=0:=by omega
 unfold dh1
 generalize V*(n:Int)=p at hV1 hV2|-
 rw[j5 (n:=p) (by omega) (by omega),j5 (n:=p+(l.length:Int)) (by omega) (by omega),j5 (n:=p+(l.length:Int)-1) (by omega) (by omega)]
 simp only[bn3,if_neg hne,as5]
 have hq1:0<=(p+(l.length:Int)-1).tdiv (l.length:Int):=Int.tdiv_nonneg (by omega) (by omega)
 have hq2:(p+(l.length:Int)-1).tdiv (l.length:Int)<=p+(l.length:Int)-1:=Int.tdiv_le_self _ (by omega)
 have:=j5 (n:=(p+(l.length:Int)-1).tdiv (l.length:Int)) (by omega) (by omega)
 unfold j7 at this
 rw[this]
theorem dm2 (t:o7)(x1 x2:Int)(hm:bo7 t.aH9=true)(ho:(bif !(decide (x1>=0)&&decide (x1<=1000))then true else !(decide (x2>=0)&&decide (x2<=12000)))=false)(c:Int)(c1:X9 t.aH9 x2 x1=some c):
  ∀l:List j2,l.all cB8=true->l.length<=32->
   ae4 t x1 x2 l=some (j7 (G4 0 (F2 (l.foldl (cB3 (l.foldl dP9 (-5000,-1)).2) 10000) (G4 (F2 (G4 c (-5000)) 10000) (l.foldl dP9 (-5000,-1)).1))+100),0):=by
 intro l hq hl
 unfold ae4
 rw[ao3]
 simp only[as5]
 rw[dU3 l (by omega),hm,hq]
 simp only[aX0,fh5,as5]
 have h32:decide ((l.length:Int)>32)=false:=by simp;omega
 rw[h32]
 simp only[fh5]
 unfold N0
 simp only[as5,cJ6]
 rw[ho]
 simp only[fh5,c1,as5]
 rw[fa0 l (by omega)]
 simp only[as5]
 rw[fa1 l (by omega)]
 rfl
end Go.Pv
namespace Go.Proofs.YtmhdghdbojdgfaaGreat.Ec
open Go Go.Pv Go.Pv.Ec Go.Proofs
theorem eI5 (o:ah9):(bQ7 o).m=some o:=rfl
theorem en2 (n:ah9)(e:Int)(o:ah9):(bi2 n e o).m=some (bif e !=0 then o else n):=by
 simp only[bi2,C.of,M.run]
 cases e !=0<;>rfl
theorem dD0 {c:j8}(ht:cc9 c.u.u6=true)(hs:0<=c.o8/\c.o8<=12000)(hc:0<=c.A0/\c.A0<=1048576)(h1:1<=c.E8.O0.length)(h8:c.E8.O0.length<=8):∃v,(au7 c).m=some v:=by
 have hm:bo7 c.u.u6.o9=true:=by
  have:=(df9 ht).tor
  unfold aZ1 at this
  simp only[aI0]at this
  first|exact this.1.1.1.1|exact this.1.1|exact this.1|exact this.1.1.1
 obtain⟨v,k,_,e1,_⟩:=ct6 hm c.o8 c.A0
 have:=cZ4 c.u.u6 c.o8 c.A0 hm (by
  rw[fi0 hs.1,fi0 hs.2,fi0 hc.1,fi0 hc.2];rfl) k e1 c.E8.O0 h1 h8
 simp only[au7,CG.of,M.run,by0]
 rw[this]
 exact⟨_,rfl⟩
theorem en4 (o:ab4):(bA4 o).m=some o:=rfl
theorem dG7 (n:ab4)(e:Int)(o:ab4):(aZ6 n e o).m=some (bif e !=0 then o else n):=by
 simp only[aZ6,C.of,M.run]
 cases e !=0<;>rfl
def eV8 (t:Int)(q:ab4):Prop:=qzB q=true/\q.am7<=t
theorem en5 (o:j1):(aC5 o).m=some o:=rfl
theorem dG8 (n:j1)(e:Int)(o:j1):(an2 n e o).m=some (bif e !=0 then o else n):=by
 simp only[an2,C.of,M.run]
 cases e !=0<;>rfl
theorem bU3 (s:j8)(n:j1)(l:List j6)(e:Int)(hl:s.y9.length+l.length<=1073741824):
  (aG9 s n l e).m=some {s with u:={s.u with j4:=bif e !=0 then s.u.j4 else n},y9:=bif e !=0 then s.y9 else s.y9++l}:=by
 simp only[aG9,CG.of,M.run,U1.m,en5,dG8,as5,H7 _ _ hl]
 by_cases he:e=0
 ·subst he;rfl
 ·rw[show(e !=0)=true by simpa using he,show(e==0)=false by simpa using he];rfl
end Go.Proofs.YtmhdghdbojdgfaaGreat.Ec
namespace Go.Pv.Ev
open Go Go.Pv
def cen (e:o5)(c:Int):Int:=(e.as4+G4 (idx c e.A3 0) 0*46080/(e.A3.length:Int))%46080
theorem da4 (e:o5)(c:Int):0<=cen e c/\cen e c<46080:=by unfold cen;omega
theorem er2 {a b:Int}(ha:0<=a)(hb:0<b)(hm:a<=9223372036854775807):bn3 .i64 a b=some (a/b):=by
 have h1:a/b<=a:=eN1 _ ha
 have h2:0<=a/b:=eP0 ha (by omega)
 unfold bn3
 rw[if_neg (by omega),cz5 ha]
 exact congrArg some (j5 (by omega) (by omega))
theorem da5 (e:o5)(c:Int)(h:aE1 e):ak7 e c=some (cen e c,decide (c∈e.A3)):=by
 obtain⟨h1,h2,h3,h4,h5,h6⟩:=h
 unfold ak7
 rw[bR8 _ _ (by omega)]
 simp only[as5]
 have hm:0<=G4 (idx c e.A3 0) 0/\G4 (idx c e.A3 0) 0<8:=by
  rcases cP2 c e.A3 0 with⟨e1,_⟩|⟨k,e1,e2⟩
  ·rw[e1];decide
  ·have:=(bG0.1 e2).1
   rw[e1];unfold G4;split<;>omega
 rw[j5 (by omega) (by omega),er2 (by omega) (by omega) (by omega)]
 simp only[as5]
 have hq:0<=G4 (idx c e.A3 0) 0*46080/(e.A3.length:Int):=eP0 (by omega) (by omega)
 have hq2:G4 (idx c e.A3 0) 0*46080/(e.A3.length:Int)<=G4 (idx c e.A3 0) 0*46080:=eN1 _ (by omega)
 rw[j5 (by omega) (by omega),do1 (by omega),dO7]
 rfl
theorem dS5 (e:o5)(c:Int):av9 e c=some (bif !decide (aE1 e)then(0,1)else bif !decide (c∈e.A3)then(0,7)else(cen e c,0)):=by
 unfold av9
 rw[ao3]
 cases hd:decide (aE1 e)
 ·rfl
 ·simp only[as5,aX0,fh5]
  rw[da5 e c (of_decide_eq_true hd)]
  simp only[as5]
  cases decide (c∈e.A3)<;>rfl
def bf0 (e:o5)(f:A2):Prop:=f.p7∈e.A3/\(-1280<=f.N9/\f.N9<=3840)/\(500<=f.af1/\f.af1<=10000)/\(0<=f.End/\f.End<=23040)/\(f.Y8=0\/(200<=f.Y8/\f.Y8<=20000))/\
 ((f.Gap=0/\f.Extra=0)\/(f.Y8≠0/\(200<=f.Gap/\f.Gap<=20000)/\(200<=f.Extra/\f.Extra<=20000)))
instance (e:o5)(f:A2):Decidable (bf0 e f):=by unfold bf0;infer_instance
theorem dN9 (e:o5)(f:A2):X6 e f=some (decide (aE1 e)&&decide (bf0 e f)):=by
 unfold X6 M6
 rw[ao3]
 cases hd:decide (aE1 e)
 ·rfl
 ·obtain⟨h1,h2,_⟩:=of_decide_eq_true hd
  simp only[as5,aX0,fh5,contains_eq e.A3 f.p7 (by omega),da1,cL7]
  rw[aH8,dG9,fi2]
  unfold bf0
  simp only[fd6,Bool.cond_false_left,fc6,cH8,aI0,bY2,bG1,fc5,ef2,fi2,bne_iff_ne,bne_eq_false_iff_eq,beq_iff_eq,ne_eq,ge_iff_le]
  by_cases hm:f.p7∈e.A3
  ·simp only[hm,true_and]
   omega
  ·simp only[hm,false_and]
def pul (f:A2):Int:=bif f.Y8==0 then 0 else bif f.Extra==0 then 1 else 2
theorem ea1 (f:A2):ak6 f=some (pul f):=by
 unfold ak6 pul
 cases f.Y8==0<;>cases f.Extra==0<;>rfl
theorem cU0 {R:Type}(f:Int->Unit->Option (Fl Unit R))(p:Nat->Bool)(r:R):∀(k i:Nat),(∀j,i<=j->j<i+k->f (j:Int) ()=some (bif p j then .ret r else .next ()))->aW7 f k (i:Int) ()=some (bif (ed3 i k).any p then .inr r else .inl ())
 |0,i,_=>rfl
 |k+1,i,h=>by
  rw[List.range'_succ,List.any_cons]
  simp only[aW7,h i (cv6 _) (by omega),as5]
  cases hp:p i
  ·exact cU0 f p r k (i+1) fun j a b=>h j (by omega) (by omega)
  ·rfl
theorem dI4 {R:Type}(n:Nat)(hn:n<=9223372036854775807)(f:Int->Unit->Option (Fl Unit R))(p:Nat->Bool)(r:R)(h:∀j,j<n->f (j:Int) ()=some (bif p j then .ret r else .next ())):K7 (n:Int) f ()=some (bif (ed3 0 n).any p then .inr r else .inl ()):=by
 rw[al8 _ hn]
 exact cU0 f p r n 0 fun j _ b=>h j (by omega)
theorem ey8 {α:Type}(l:List α)(p:α->Bool):(l.all fun x=>!p x)= !l.any p:=by
 induction l with
 |nil=>rfl
 |cons x l ih=>rw[List.all_cons,List.any_cons,ih];cases p x<;>rfl
theorem dK3 (a:Int):(0<=a/\a.tmod 46080=a%46080)\/(a<0/\a.tmod 46080= -((-a)%46080)):=by
 rcases fe8 a 0 with h|h
 ·refine .inr ⟨h,?_⟩
  have:a.tmod 46080=(- -a).tmod 46080:=by rw[Int.neg_neg]
  rw[this,Int.neg_tmod,do1 (by omega)]
 ·exact .inl ⟨h,do1 h⟩
theorem mod_eq (a:Int)(h1: -1000000000000000<=a)(h2:a<=1000000000000000):ac4 a 46080=some (a%46080):=by
 unfold ac4 cf1
 simp only[show((46080:Int)==0)=false from rfl,show((46080:Int)== -1)=false from rfl,eO7,fh5,show¬(46080:Int)=0 from by decide,if_false,as5,show decide ((46080:Int)<0)=false from rfl]
 rcases dK3 a with⟨h,e⟩|⟨h,e⟩
 ·rw[e]
  have:decide (a%46080<0)=false:=by simp;omega
  rw[this]
  simp
 ·rw[e]
  rcases Int.lt_or_eq_of_le (show 0<=(-a)%46080 by omega)with hq|hq
  ·have h3:decide (-(-a%46080)<0)=true:=by simp;omega
   have h4:(-(-a%46080) !=0)=true:=by simp;omega
   rw[h3,h4]
   simp only[show(true==false)=false from rfl,cI3,Bool.and_self,fh8]
   rw[j5 (by omega) (by omega)]
   congr 1;omega
  ·rw[<-hq]
   simp only[show((-0:Int) !=0)=false from rfl,ez5,fh5]
   congr 1;omega
def trn (d M5:Int):Int:=d*23040/M5
theorem bW7 {d M5:Int}(h0:0<=d)(h1:d<=20000)(ht:4000<=M5):0<=trn d M5/\trn d M5<=460800000:=by
 have h2:d*23040/M5<=d*23040:=eN1 _ (by omega)
 exact⟨eP0 (by omega) (by omega),by unfold trn;omega⟩
theorem cI0 {d M5:Int}(h0:0<=d)(h1:d<=20000)(ht:4000<=M5):K3 d M5=some (trn d M5):=by
 unfold K3
 rw[j5 (by omega) (by omega),er2 (by omega) (by omega) (by omega)]
 rfl
def mn (x:Int):Int:=F2 x 23040
theorem ep0 {x:Int}(h:0<=x):0<=mn x/\mn x<=23040:=by
 unfold mn F2;split<;>omega
def dZ4 (f:A2)(t:Int):List (Int×Int×Int):=
 [(-f.N9,2,0),(-f.N9-mn (trn f.af1 t),1,0)]++(bif decide (pul f>0)then [(-f.End,4,1),(-f.End-trn f.Y8 t,3,1)]else [])++(bif decide (pul f>1)then [(-f.End+trn f.Gap t,3,2),(-f.End+trn f.Gap t+trn f.Extra t,4,2)]else [])
def evF (e:o5)(f:A2)(o:Int×Int×Int):B6:=⟨(cen e f.p7+o.1)%46080,o.2.1,f.p7,o.2.2⟩
def evs (e:o5)(t:Int)(f:A2):List B6:=(dZ4 f t).map (evF e f)
def dk9 (t:Int)(f:A2):Bool:=decide (trn f.Y8 t>23040)||decide (trn f.Gap t>23040)||decide (trn f.Extra t>23040)
theorem bj2 (f:A2):pul f=0\/pul f=1\/pul f=2:=by
 unfold pul;cases f.Y8==0<;>cases f.Extra==0<;>simp
theorem ep8 (f:A2)(t:Int):(dZ4 f t).length<=6:=by
 rcases bj2 f with h|h|h<;>simp[dZ4,h]
theorem cH0 (e:o5)(t:Int)(f:A2):(evs e t f).length<=6:=by
 unfold evs;rw[cV3];exact ep8 f t
theorem cB4 (a k p:Int)(c:List B6)(x:A2)(h1: -1000000000000000<=a)(h2:a<=1000000000000000)(hc:c.length<=100000):O6 a k p c x=some (c++[⟨a%46080,k,x.p7,p⟩]):=by
 unfold O6
 rw[mod_eq a h1 h2]
 simp only[as5]
 rw[H7 _ _ (by simp only[co8];omega)]
 rfl
theorem dt3 {e:o5}{f:A2}(h:bf0 e f):(0<=f.af1/\f.af1<=20000)/\(0<=f.Y8/\f.Y8<=20000)/\(0<=f.Gap/\f.Gap<=20000)/\(0<=f.Extra/\f.Extra<=20000)/\(-1280<=f.N9/\f.N9<=3840)/\(0<=f.End/\f.End<=23040):=by
 unfold bf0 at h
 obtain⟨_,h⟩:=h
 omega
theorem step_eq (e:o5)(t i:Int)(x:A2)(c:List B6)(he:aE1 e)(hx:bf0 e x)(ht:4000<=t)(hc:c.length<=1000):
  aw9 e t i x c=some (bif dk9 t x then .ret ([],2)else .next (c++evs e t x)):=by
 obtain⟨⟨d0,d1⟩,⟨i0,i1⟩,⟨g0,g1⟩,⟨x0,x1⟩,⟨s0,s1⟩,n0,n1⟩:=dt3 hx
 obtain⟨c0,c1⟩:=da4 e x.p7
 have td:=ep0 (bW7 d0 d1 ht).1
 have ti:=bW7 i0 i1 ht
 have tg:=bW7 g0 g1 ht
 have tx:=bW7 x0 x1 ht
 unfold aw9
 rw[da5 e _ he,cI0 d0 d1 ht,cI0 i0 i1 ht,cI0 g0 g1 ht,cI0 x0 x1 ht,ea1]
 simp only[as5]
 rw[show F2 (trn x.af1 t) 23040=mn (trn x.af1 t)from rfl]
 have hl:decide (G4 (G4 (trn x.Y8 t) (trn x.Gap t)) (trn x.Extra t)>23040)=dk9 t x:=by
  rw[dG9]
  unfold dk9
  simp only[cH8,fi2]
  unfold G4
  split<;>split<;>omega
 rw[hl]
 unfold evs dZ4
 simp only[eL2,cV4,ep4,evF]
 generalize hC:cen e x.p7=C at*
 generalize hD:mn (trn x.af1 t)=D at*
 generalize hI:trn x.Y8 t=A at*
 generalize hG:trn x.Gap t=G at*
 generalize hX:trn x.Extra t=B at*
 rw[j5 (n:=C-x.N9) (by omega) (by omega),j5 (n:=C-x.N9-D) (by omega) (by omega),j5 (n:=C-x.End) (by omega) (by omega),j5 (n:=C-x.End-A) (by omega) (by omega),j5 (n:=C-x.End+G) (by omega) (by omega),j5 (n:=C-x.End+G+B) (by omega) (by omega)]
 rw[cB4 _ _ _ c _ (by omega) (by omega) (by omega)]
 simp only[as5]
 rw[cB4 _ _ _ _ _ (by omega) (by omega) (by simp only[ba3,co8];omega)]
 simp only[as5]
 cases dk9 t x
 ·simp only[fh5]
  rcases bj2 x with hp|hp|hp
  ·rw[hp]
   simp only[show decide ((0:Int)>0)=false from rfl,show decide ((0:Int)>1)=false from rfl,fh5,as5,ep4,da6,do3,dJ2,cV5]
   rw[show C-x.N9-D=C+(-x.N9-D) by omega,show C-x.N9=C+ -x.N9 by omega]
  ·rw[hp]
   simp only[show decide ((1:Int)>0)=true from rfl,show decide ((1:Int)>1)=false from rfl,fh5,fh8]
   rw[cB4 _ _ _ _ _ (by omega) (by omega) (by simp only[ba3,co8];omega)]
   simp only[as5]
   rw[cB4 _ _ _ _ _ (by omega) (by omega) (by simp only[ba3,co8];omega)]
   simp only[evF,hC,as5,cV4,ep4,da6,do3,dJ2,cV5]
   rw[show C-x.N9-D=C+(-x.N9-D) by omega,show C-x.N9=C+ -x.N9 by omega,show C-x.End-A=C+(-x.End-A) by omega,show C-x.End=C+ -x.End by omega]
  ·rw[hp]
   simp only[show decide ((2:Int)>0)=true from rfl,show decide ((2:Int)>1)=true from rfl,fh8]
   rw[cB4 _ _ _ _ _ (by omega) (by omega) (by simp only[ba3,co8];omega)]
   simp only[as5]
   rw[cB4 _ _ _ _ _ (by omega) (by omega) (by simp only[ba3,co8];omega)]
   simp only[as5]
   rw[cB4 _ _ _ _ _ (by omega) (by omega) (by simp only[ba3,co8];omega)]
   simp only[as5]
   rw[cB4 _ _ _ _ _ (by omega) (by omega) (by simp only[ba3,co8];omega)]
   simp only[evF,hC,as5,cV4,ep4,do3,dJ2,cV5]
   rw[show C-x.N9-D=C+(-x.N9-D) by omega,show C-x.N9=C+ -x.N9 by omega,show C-x.End-A=C+(-x.End-A) by omega,show C-x.End+G+B=C+(-x.End+G+B) by omega,show C-x.End+G=C+(-x.End+G) by omega,show C-x.End=C+ -x.End by omega]
 ·rfl
theorem dz7 (e:o5)(t:Int)(he:aE1 e)(ht:4000<=t):∀(l:List A2) (i:Int) (c:List B6),(∀x∈l,bf0 e x)->c.length+6*l.length<=1000->
  L8 (aw9 e t) l i c=some (bif l.any (dk9 t)then .inr ([],2)else .inl (c++l.flatMap (evs e t)))
 |[],i,c,_,_=>by simp[L8]
 |x::l,i,c,hx,hc=>by
  rw[br6]at hc
  simp only[L8,step_eq e t i x c he (hx x (bN7 ..)) ht (by omega),as5,List.any_cons]
  cases dk9 t x
  ·simp only[fh5,ec9,eK1]
   have:=cH0 e t x
   rw[<-do3]
   exact dz7 e t he ht l (i+1) _ (fun y hy=>hx y (bY1 _ hy)) (by rw[ba3];omega)
  ·rfl
def ltE (a b:B6):Bool:=decide (a.H6<b.H6\/(a.H6=b.H6/\(a.p7<b.p7\/(a.p7=b.p7/\(a.Kind<b.Kind\/(a.Kind=b.Kind/\a.aj0<b.aj0))))))
def cW8 (x y:Int):Int:=if x<y then -1 else if x>y then 1 else 0
theorem cM3 (x y:Int):F6 x y=some (cW8 x y):=by
 unfold F6 cmp_isNaN_int cW8
 have h:∀z:Int,(z !=z)=false:=fun z=>by simp
 rw[h,h]
 simp only[as5,fh5]
 by_cases h1:x<y
 ·rw[fi0 h1,if_pos h1];rfl
 ·rw[fi1 h1,if_neg h1]
  by_cases h2:x>y
  ·rw[fi0 h2,if_pos h2];rfl
  ·rw[fi1 h2,if_neg h2];rfl
def dj6 (a b c d:Int):Int:=bif a !=0 then a else bif b !=0 then b else bif c !=0 then c else d
theorem or_eq (a b c d:Int):af8 [a,b,c,d]=some (dj6 a b c d):=by
 unfold af8 dj6
 rw[K6 _ (by simp)]
 simp only[L8,ao8]
 cases ha:a !=0
 ·cases hb:b !=0
  ·cases hc:c !=0
   ·cases hd:d !=0
    ·have:d=0:=by simpa using hd
     rw[this];rfl
    ·rfl
   ·rfl
  ·rfl
 ·rfl
theorem dw6 (a b:B6):al4 a b=some (dj6 (cW8 a.H6 b.H6) (cW8 a.p7 b.p7) (cW8 a.Kind b.Kind) (cW8 a.aj0 b.aj0)):=by
 unfold al4
 simp only[cM3,as5,or_eq]
theorem bh9 (x y:Int):(x<y/\cW8 x y= -1)\/(x=y/\cW8 x y=0)\/(y<x/\cW8 x y=1):=by
 unfold cW8
 split
 ·exact .inl ⟨by assumption,rfl⟩
 ·split
  ·exact .inr (.inr ⟨by omega,rfl⟩)
  ·exact .inr (.inl ⟨by omega,rfl⟩)
theorem aO6 (a b:B6):ltM al4 a b=ltE a b:=by
 unfold ltM ltE
 rw[dw6,ey4,decide_eq_decide]
 unfold dj6
 rcases bh9 a.H6 b.H6 with⟨h1,e1⟩|⟨h1,e1⟩|⟨h1,e1⟩<;>rw[e1]
 ·simp;omega
 ·rcases bh9 a.p7 b.p7 with⟨h2,e2⟩|⟨h2,e2⟩|⟨h2,e2⟩<;>rw[e2]
  ·simp;omega
  ·rcases bh9 a.Kind b.Kind with⟨h3,e3⟩|⟨h3,e3⟩|⟨h3,e3⟩<;>rw[e3]
   ·simp;omega
   ·rcases bh9 a.aj0 b.aj0 with⟨h4,e4⟩|⟨h4,e4⟩|⟨h4,e4⟩<;>rw[e4]<;>simp<;>omega
   ·simp;omega
  ·simp;omega
 ·simp;omega
theorem eD0 (x:B6):ltE x x=false:=by unfold ltE;simp
theorem dX9 {x y z:B6}(h1:ltE x y=true)(h2:ltE y z=true):ltE x z=true:=by
 unfold ltE at*;simp only[fi2]at*;omega
theorem dX4 {x y z:B6}(h1:ltE x y=false)(h2:ltE y z=false):ltE x z=false:=by
 unfold ltE at*;simp only[fi3]at*;omega
theorem eo0 {x y:B6}(h1:ltE x y=false)(h2:ltE y x=false):x=y:=by
 unfold ltE at*;simp only[fi3]at*
 refine B6.ext ?_ ?_ ?_ ?_<;>omega
def srt (l:List B6):List B6:=l.mergeSort fun x y=>!ltE y x
theorem eu0 (l:List B6):(srt l).Perm l:=List.mergeSort_perm _ _
theorem eG1 (l:List B6)(h:l.length<=1000000):aa7 l al4=some (srt l):=by
 unfold aa7 srt
 have e:(fun x y=>!ltM al4 y x)=fun x y=>!ltE y x:=by funext x y;rw[aO6]
 rw[bT7 ⟨by omega,fun x _ y _=>⟨_,dw6 x y⟩,fun x _=>by rw[aO6,eD0],fun x _ y _ z _=>by rw[aO6,aO6,aO6];exact dX9,
  fun x _ y _ z _=>by rw[aO6,aO6,aO6];exact dX4,fun x _ y _=>by rw[aO6,aO6];exact eo0⟩,e]
def dN4 (l:List A2)(i:Nat):Bool:=match l[i]?with|some x=>(l.take i).any fun g=>g.p7==x.p7|none=>false
def eA1 (l:List A2):Bool:=(ed3 0 l.length).any (dN4 l)
def ev5 (t:Int):Bool:=decide (t>=4000)&&decide (t<=1000000)
def dU1 (e:o5)(l:List A2):Bool:=l.any fun f=>!decide (bf0 e f)
def bf9 (e:o5)(l:List A2)(t:Int):List B6×Int:=
 bif !decide (aE1 e)then([],1)else bif dU1 e l then([],1)else bif !ev5 t then([],2)else bif eA1 l then([],8)else bif l.any (dk9 t)then([],2)else(srt (l.flatMap (evs e t)),0)
theorem el5 (e:o5)(t:Int)(l:List A2):(l.flatMap (evs e t)).length<=6*l.length:=by
 induction l with
 |nil=>simp
 |cons x l ih=>
  have:=cH0 e t x
  rw[eK1,ba3,br6];omega
theorem dD7 {e:o5}{l:List A2}(h:dU1 e l=false):∀x∈l,bf0 e x:=by
 intro x hx
 unfold dU1 at h
 rw[dv4]at h
 simpa using h x hx
theorem eE3 (e:o5)(l:List A2)(t:Int)(hl:l.length<=100):aF0 e l t=some (bf9 e l t):=by
 unfold aF0 bf9
 rw[ao3]
 cases hd:decide (aE1 e)
 ·rfl
 ·have he:=of_decide_eq_true hd
  simp only[as5,aX0,fh5]
  have k:=ai3 l (by omega) (fun x0=>ao9 x0 e) (fun f=>!decide (bf0 e f)) (fun y _=>by unfold ao9;rw[dN9,hd];rfl)
  have k':E9 l (fun x0=>ao9 x0 e)=some (dU1 e l):=k
  rw[k']
  simp only[as5]
  cases hb:dU1 e l
  ·have hf:=dD7 hb
   simp only[fh5]
   unfold M6 ev5
   simp only[as5]
   cases ht:(decide (t>=4000)&&decide (t<=1000000))
   ·rfl
   ·simp only[aX0,fh5]
    have ht1:4000<=t:=by simp at ht;omega
    rw[dI4 l.length (by omega) (aC6 l) (dN4 l) ([],8) (fun j hj=>by
     unfold aC6 dN4
     have hs:ay6 l 0 (j:Int)=some (l.take j):=by
      unfold ay6
      rw[if_pos ⟨by omega,by omega,by omega⟩]
      simp
     rw[C7 _ _ hj,aW9 hj,hs]
     simp only[as5]
     have k2:=ai3 (l.take j) (by rw[bt6];omega) (fun x0=>aw0 x0 l[j]) (fun g=>g.p7==l[j].p7) (fun y _=>rfl)
     have k3:E9 (l.take j) (fun x0=>aw0 x0 l[j])=some ((l.take j).any fun g=>g.p7==l[j].p7):=k2
     rw[k3]
     simp only[as5]
     cases(l.take j).any fun g=>g.p7==l[j].p7<;>rfl)]
    rw[show(ed3 0 l.length).any (dN4 l)=eA1 l from rfl]
    cases eA1 l
    ·simp only[fh5,as5]
     rw[K6 _ (by omega),dz7 e t he ht1 l 0 [] hf (by simp;omega)]
     cases l.any (dk9 t)
     ·simp only[fh5,as5,cV5]
      have:=el5 e t l
      rw[eG1 _ (by omega)]
      rfl
     ·rfl
    ·rfl
  ·rfl
end Go.Pv.Ev
namespace Go.Pv
open Go
namespace Ev
def evP (x:B6):Prop:=(0<=x.H6/\x.H6<46080)/\(1<=x.Kind/\x.Kind<=4)/\(1<=x.p7/\x.p7<=8)/\(0<=x.aj0/\x.aj0<=2)
instance (x:B6):Decidable (evP x):=by unfold evP;infer_instance
def ca7 (a:Int):Bool:=decide (a>=0)&&decide (a<46080)
theorem bs5 {a:Int}:ca7 a=true↔0<=a/\a<46080:=by unfold ca7;simp
def dst (a b:Int):Int:=(b-a)%46080
theorem ej9 (a b:Int):Q9 a b=some (bif ca7 a&&ca7 b then dst a b else -1):=by
 unfold Q9 ai0
 simp only[as5]
 have e:∀a:Int,(decide (a>=0)&&decide (a<46080))=ca7 a:=fun _=>rfl
 rw[e,e]
 cases ha:ca7 a
 ·rfl
 ·cases hb:ca7 b
  ·rfl
  ·have ha:=bs5.1 ha
   have hb:=bs5.1 hb
   simp only[aX0,fh5,as5,Bool.and_self,fh8]
   rw[j5 (n:=b-a) (by omega) (by omega),mod_eq _ (by omega) (by omega)]
   rfl
theorem dj2 {a b:Int}(ha:ca7 a=true)(hb:ca7 b=true):Q9 a b=some (dst a b):=by rw[ej9,ha,hb];rfl
end Ev
namespace Tm
abbrev cC5:Int:=1099511627776
abbrev tz:u9:=⟨0,[]⟩
def chB (now:Int)(c:j9):Bool:=!(bif c.E0 then(decide (c.At<=now)||decide (c.At>1099511627776))else((c.At !=0)||c.Next))
def bf3 (t:u9):Bool:=(((decide (t.V0<0))||(decide (t.V0>1099511627776)))||(decide ((t.j3.length:Int)<1)))||(decide ((t.j3.length:Int)>16))
def ae0 (t:u9):Bool:=!bf3 t&&t.j3.all (chB t.V0)
theorem dc8 {t:u9}(h:bf3 t=false):1<=t.j3.length/\t.j3.length<=16/\0<=t.V0/\t.V0<=1099511627776:=by
 unfold bf3 at h
 simp only[bG1,fi3]at h
 omega
theorem dt6 {t:u9}(h:1<=t.j3.length/\t.j3.length<=16/\0<=t.V0/\t.V0<=1099511627776):bf3 t=false:=by
 unfold bf3
 simp only[bG1,fi3]
 omega
theorem bF5 {t:u9}(h:ae0 t=true):1<=t.j3.length/\t.j3.length<=16/\0<=t.V0/\t.V0<=1099511627776:=by
 unfold ae0 at h
 simp only[aI0,bY2]at h
 exact dc8 h.1
theorem dK6 (t:u9):ao1 t=some (ae0 t):=by
 unfold ao1 ae0
 cases hh:bf3 t
 ·unfold bf3 at hh
  rw[hh]
  have hl:=dc8 (t:=t) hh
  have k:=ai3 t.j3 (by omega) (fun c=>ap2 c t) (fun c=>!chB t.V0 c) (fun y _=>by unfold ap2 chB;cases y.E0<;>simp)
  have e2:(t.j3.any fun z=>!chB t.V0 z)= !t.j3.all (chB t.V0):=by rw[dS1];simp
  rw[e2]at k
  simp only[fh5,cI3,cL7]
  have:G5 t.j3 (fun x0=>ap2 x0 t)=some (!t.j3.all (chB t.V0)):=k
  rw[this]
  simp
 ·unfold bf3 at hh
  rw[hh];rfl
def cC8 (t:u9)(ch:Int):Bool:=(decide (ch<0))||(decide (ch>=(t.j3.length:Int)))
theorem bC2 (t:u9)(ch:Int):ah1 t ch=some (bif !ae0 t then(tz,1)else bif cC8 t ch then(tz,2)else(t,0)):=by
 unfold ah1
 rw[dK6]
 cases h:ae0 t
 ·rfl
 ·have hl:=bF5 h
  simp only[as5,aX0,fh5]
  cases hb:cC8 t ch
  ·unfold cC8 at hb
   rw[hb]
   simp only[fh5]
   rw[bV7 _ (by omega)]
   simp only[as5]
   rw[dF0 _ _ (by simp)]
  ·unfold cC8 at hb
   rw[hb];rfl
theorem eg2 (t:u9)(ch at_:Int)(lvl:Bool):∀j:Nat,ch=(j:Int)->(hj:j<t.j3.length)->ae0 t=true->
  aJ8 t ch at_ lvl=some (bif decide (at_<=t.V0)then(tz,16)else bif decide (at_>cC5)then(tz,2)else(⟨t.V0,t.j3.set j ⟨true,at_,lvl,t.j3[j].K1⟩⟩,0)):=by
 rintro j rfl hj h
 unfold aJ8
 have hb:cC8 t (j:Int)=false:=by unfold cC8;simp;omega
 rw[bC2,h,hb]
 simp only[aX0,fh5,as5,bne_self_eq_false]
 cases decide (at_<=t.V0)
 ·simp only[fh5]
  unfold cC5
  cases decide (at_>1099511627776)
  ·simp only[fh5,C7 _ _ hj,as5,T9 _ _ _ hj]
  ·rfl
 ·rfl
theorem db4 (t:u9)(ch:Int):∀j:Nat,ch=(j:Int)->(hj:j<t.j3.length)->ae0 t=true->
  az7 t ch=some (⟨t.V0,t.j3.set j ⟨false,0,false,t.j3[j].K1⟩⟩,0):=by
 rintro j rfl hj h
 unfold az7
 have hb:cC8 t (j:Int)=false:=by unfold cC8;simp;omega
 rw[bC2,h,hb]
 simp only[aX0,fh5,as5,bne_self_eq_false,C7 _ _ hj,T9 _ _ _ hj]
theorem force_eq (t:u9)(ch:Int)(lvl:Bool):∀j:Nat,ch=(j:Int)->(hj:j<t.j3.length)->ae0 t=true->
  aG5 t ch lvl=some (⟨t.V0,t.j3.set j ⟨false,0,false,lvl⟩⟩,bif t.j3[j].K1==lvl then []else [⟨t.V0,(j:Int),lvl⟩],0):=by
 rintro j rfl hj h
 unfold aG5
 have hb:cC8 t (j:Int)=false:=by unfold cC8;simp;omega
 rw[bC2,h,hb]
 simp only[aX0,fh5,as5,bne_self_eq_false,C7 _ _ hj,T9 _ _ _ hj]
 cases(t.j3[j].K1==lvl)<;>rfl
theorem copy_eq (t:u9)(h:t.j3.length<=1000):bf6 t=some t:=by
 unfold bf6
 rw[H7 _ _ (by simp;omega)]
 rfl
def due (L9:Int)(c:j9):Bool:=!((!c.E0)||(decide (c.At>L9)))
def swC (L9:Int)(i:Nat)(c:j9):List j6:=bif due L9 c&& !(c.Next==c.K1)then [⟨c.At,(i:Int),c.Next⟩]else []
def bG6 (L9:Int)(c:j9):j9:=bif due L9 c then⟨false,0,false,c.Next⟩else c
def bN5 (L9:Int):Nat->List j9->List j6
 |_,[]=>[]
 |i,c::r=>swC L9 i c++bN5 L9 (i+1) r
theorem eG5 (L9:Int)(i:Nat)(c:j9):(swC L9 i c).length<=1:=by
 unfold swC;cases(due L9 c&& !(c.Next==c.K1))<;>simp
theorem cp4 (L9:Int):∀(l:List j9) (i:Nat),(bN5 L9 i l).length<=l.length
 |[],_=>cv6 _
 |c::r,i=>by
  have:=cp4 L9 r (i+1)
  have:=eG5 L9 i c
  simp only[bN5,ba3,br6];omega
theorem bW5 (L9:Int):∀(l:List j9) (i:Nat) (c:j9),bN5 L9 i (l++[c])=bN5 L9 i l++swC L9 (i+l.length) c
 |[],i,c=>by simp[bN5]
 |x::l,i,c=>by
  simp only[dJ2,bN5,do3,List.append_cancel_left_eq,br6]
  rw[bW5 L9 l (i+1) c,show i+1+l.length=i+(l.length+1) by omega]
theorem dv7 {L9:Int}{s:j6}:∀{l:List j9}{i:Nat},s∈bN5 L9 i l->∃j c,l[j]? =some c/\due L9 c=true/\(c.Next==c.K1)=false/\s=⟨c.At,((i+j:Nat):Int),c.Next⟩
 |[],i,h=>by simp[bN5]at h
 |c::r,i,h=>by
  simp only[bN5,dn9]at h
  rcases h with h|h
  ·unfold swC at h
   cases hd:(due L9 c&& !(c.Next==c.K1))<;>rw[hd]at h
   ·simp at h
   ·simp only[fh8,ex8]at h
    simp only[aI0,bY2]at hd
    exact⟨0,c,rfl,hd.1,hd.2,by simpa using h⟩
  ·obtain⟨j,c',h1,h2,h3,h4⟩:=dv7 h
   exact⟨j+1,c',by simpa using h1,h2,h3,by rw[h4,show i+1+j=i+(j+1) by omega]⟩
theorem dA1 {L9:Int}:∀(l:List j9) (i:Nat),(bN5 L9 i l).Pairwise (fun a b=>a.Channel<b.Channel)
 |[],_=>.nil
 |c::r,i=>by
  simp only[bN5]
  rw[List.pairwise_append]
  refine⟨?_,dA1 r (i+1),fun a ha b hb=>?_⟩
  ·unfold swC;cases(due L9 c&& !(c.Next==c.K1))<;>simp
  ·have h1:a.Channel=(i:Int):=by
    unfold swC at ha
    cases hd:(due L9 c&& !(c.Next==c.K1))<;>rw[hd]at ha
    ·simp at ha
    ·simp at ha;rw[ha]
   obtain⟨j,c',_,_,_,h4⟩:=dv7 hb
   rw[h1,h4];simp only;omega
def ltS (a b:j6):Bool:=decide (a.At<b.At\/(a.At=b.At/\a.Channel<b.Channel))
theorem ei7 (x y:Int):F6 x y=some (if x<y then -1 else if x>y then 1 else 0):=by
 unfold F6 cmp_isNaN_int
 simp only[as5,bne_self_eq_false,fh5]
 by_cases h1:x<y
 ·simp[h1]
 ·by_cases h2:x>y<;>simp[h1,h2]
theorem or_eq (v v2:Int):af8 [v,v2]=some (if v≠0 then v else v2):=by
 unfold af8
 rw[K6 _ (by simp)]
 by_cases h1:v=0
 ·by_cases h2:v2=0
  ·simp[L8,ao8,h1,h2]
  ·have h3:(v2 !=0)=true:=by simpa using h2
   simp[L8,ao8,h1,h3]
 ·have h3:(v !=0)=true:=by simpa using h1
  simp[L8,ao8,h1,h3]
theorem eX4 (a b:j6):∃c,X3 a b=some c/\(decide (c<0))=ltS a b:=by
 unfold X3
 rw[ei7,ei7]
 simp only[as5,or_eq]
 refine⟨_,rfl,?_⟩
 unfold ltS
 rw[dG9]
 simp only[fi2]
 by_cases h1:a.At<b.At
 ·simp[h1]
 ·by_cases h2:a.At>b.At
  ·simp[h1,h2];omega
  ·have:a.At=b.At:=by omega
   by_cases h3:a.Channel<b.Channel
   ·simp[this,h3]
   ·by_cases h4:a.Channel>b.Channel<;>simp[this,h3,h4]<;>omega
theorem bA8 (a b:j6):ltM X3 a b=ltS a b:=by
 obtain⟨c,h1,h2⟩:=eX4 a b
 unfold ltM;rw[h1];exact h2
theorem fb0 (l:List j6)(hl:l.length<=100)(hd:∀x∈l,∀y∈l,x.Channel=y.Channel->x=y):Y1 l X3=some (l.mergeSort fun x y=>!ltS y x):=by
 unfold Y1
 have e:(fun x y=>!ltM X3 y x)=fun x y=>!ltS y x:=by funext x y;rw[bA8]
 rw[bT7 ⟨by omega,fun x _ y _=>by obtain⟨c,h,_⟩:=eX4 x y;exact⟨c,h⟩,fun x _=>by rw[bA8];unfold ltS;simp,fun x _ y _ z _=>by rw[bA8,bA8,bA8];unfold ltS;simp only[fi2];omega,
  fun x _ y _ z _=>by rw[bA8,bA8,bA8];unfold ltS;simp only[fi3];omega,
  fun x hx y hy=>by rw[bA8,bA8];unfold ltS;simp only[fi3];intro a b;exact hd x hx y hy (by omega)⟩,e]
def cI7 (L9:Int)(l:List j9):List j6:=(bN5 L9 0 l).mergeSort fun x y=>!ltS y x
theorem ei2 {R:j6->j6->Prop}{l:List j6}(h:l.Pairwise R)(hR:∀a b,R a b->a.Channel≠b.Channel):∀x∈l,∀y∈l,x.Channel=y.Channel->x=y:=by
 induction h with
 |nil=>intro x hx;simp at hx
 |cons h1 _ ih=>
  intro x hx y hy e
  rcases bZ8.1 hx with hx1|hx1
  ·rcases bZ8.1 hy with hy1|hy1
   ·rw[hx1,hy1]
   ·rw[hx1]at e;exact absurd e (hR _ _ (h1 y hy1))
  ·rcases bZ8.1 hy with hy1|hy1
   ·rw[hy1]at e;exact absurd e.symm (hR _ _ (h1 x hx1))
   ·exact ih x hx1 y hy1 e
theorem ef0 (t:u9)(L9:Int):al0 t L9=some (bif !ae0 t then(tz,[],1)else bif decide (L9<t.V0)then(tz,[],16)else bif decide (L9>cC5)then(tz,[],2)else(⟨L9,t.j3.map (bG6 L9)⟩,cI7 L9 t.j3,0)):=by
 unfold al0
 rw[bC2]
 cases h:ae0 t
 ·rfl
 ·have hl:=bF5 h
  have hb:cC8 t 0=false:=by unfold cC8;simp only[bG1,fi3];omega
  rw[hb]
  simp only[aX0,fh5,as5,bne_self_eq_false]
  unfold cC5
  cases decide (L9<t.V0)
  ·simp only[fh5]
   cases decide (L9>1099511627776)
   ·simp only[fh5]
    obtain⟨s,h1,h2⟩:=ag5 (R:=Empty) t.j3.length (by omega) (av0 t L9) (fun i s=>s.1=bN5 L9 0 (t.j3.take i)/\s.2=(t.j3.take i).map (bG6 L9)++t.j3.drop i) ([],t.j3) ⟨by simp[bN5],by simp⟩ (fun j hj s ⟨i1,i2⟩=>by
     have htk:t.j3.take (j+1)=t.j3.take j++[t.j3[j]]:=do9 hj
     have hdr:t.j3.drop j=t.j3[j]::t.j3.drop (j+1):=List.drop_eq_getElem_cons hj
     have hlt:(t.j3.take j).length=j:=by simp;omega
     unfold av0
     rw[C7 _ _ hj]
     simp only[as5]
     cases hc:((!t.j3[j].E0)||(decide (t.j3[j].At>L9)))
     ·have dW2:due L9 t.j3[j]=true:=by unfold due;rw[hc];rfl
      have dO4:j<s.2.length:=by rw[i2];simp;omega
      have hlen1:s.1.length<=16:=by
       rw[i1];have:=cp4 L9 (t.j3.take j) 0;simp at this;omega
      have bN3:s.2.set j ⟨false,0,false,t.j3[j].Next⟩=(t.j3.take (j+1)).map (bG6 L9)++t.j3.drop (j+1):=by
       rw[i2,List.set_append_right _ _ (by simp;omega),hdr,htk]
       simp only[cV3,hlt,Nat.sub_self,List.set_cons_zero,eL2,cV4,ep4,do3,List.singleton_append]
       unfold bG6;rw[dW2];rfl
      simp only[fh5]
      cases hn:(t.j3[j].Next==t.j3[j].K1)
      ·simp only[cI3,fh8]
       rw[H7 _ _ (by simp;omega)]
       simp only[as5,C7 _ _ dO4,T9 _ _ _ dO4]
       refine⟨_,rfl,?_,bN3⟩
       simp only
       rw[htk,bW5,<-i1,hlt,cV7]
       unfold swC;rw[dW2,hn];rfl
      ·simp only[aX0,fh5]
       simp only[as5,C7 _ _ dO4,T9 _ _ _ dO4]
       refine⟨_,rfl,?_,bN3⟩
       simp only
       rw[htk,bW5,<-i1,hlt,cV7]
       unfold swC;rw[dW2,hn];simp
     ·have dW2:due L9 t.j3[j]=false:=by unfold due;rw[hc];rfl
      simp only[fh8]
      refine⟨_,rfl,?_,?_⟩
      ·simp only
       rw[htk,bW5,<-i1]
       unfold swC;rw[dW2];simp
      ·simp only
       rw[i2,hdr,htk]
       simp only[eL2,cV4,ep4,do3,List.singleton_append]
       unfold bG6;rw[dW2];rfl)
    rw[h1]
    obtain⟨i1,i2⟩:=h2
    rw[ey1]at i1
    rw[ey1,List.drop_length,da6]at i2
    simp only[as5]
    rw[i1,i2,fb0 _ (by have:=cp4 L9 t.j3 0;omega) (ei2 (dA1 t.j3 0) (fun a b h=>by omega))]
    rfl
   ·rfl
  ·rfl
theorem dS8 (L9:Int)(l:List j9):(cI7 L9 l).Perm (bN5 L9 0 l):=List.mergeSort_perm _ _
theorem dp0 (L9:Int)(l:List j9):(cI7 L9 l).length<=l.length:=by
 rw[(dS8 L9 l).length_eq];exact cp4 L9 l 0
theorem ev7 {t:u9}{L9:Int}(h:ae0 t=true)(h1:¬L9<t.V0)(h2:¬L9>1099511627776):ae0 ⟨L9,t.j3.map (bG6 L9)⟩=true:=by
 have hl:=bF5 h
 unfold ae0 at h|-
 simp only[aI0,bY2,bx8]at h|-
 refine⟨dt6 (by simp;omega),fun c hc=>?_⟩
 simp only[cY4]at hc
 obtain⟨c0,hc0,rfl⟩:=hc
 have h3:=h.2 c0 hc0
 unfold bG6 due
 unfold chB at h3|-
 cases ha:c0.E0
 ·rw[ha]at h3;simp only[cI3,Bool.true_or,aX0,fh5,ha]at h3|-;exact h3
 ·rw[ha]at h3
  simp only[aX0,ec9]at h3|-
  by_cases h4:c0.At>L9
  ·simp only[h4,decide_true,aX0,fh5,ha,fh8]at h3|-
   simp at h3|-;omega
  ·simp[h4]
theorem eQ6 (n:Nat)(h1:1<=n)(h2:n<=16):aV2 (n:Int)=some (⟨0,cE8 n ⟨false,0,false,false⟩⟩,0):=by
 unfold aV2
 have:((decide ((n:Int)<1))||(decide ((n:Int)>16)))=false:=by simp;omega
 rw[this,bV7 _ (by omega)]
 rfl
theorem da7 {now:Int}{c:j9}(h:chB now c=true)(ha:c.E0=true):now<c.At/\c.At<=1099511627776:=by
 unfold chB at h;rw[ha]at h
 simp at h;omega
def nxS (s:Int×Bool)(c:j9):Int×Bool:=bif c.E0&&((!s.2)||decide (c.At<s.1))then(c.At,true)else s
def nxV (l:List j9):Int×Bool:=l.foldl nxS (0,false)
theorem dZ2 (l:List j9)(h:l.length<=1000)(s:Int×Bool):ad9 l aH4 s=some (.inl (l.foldl nxS s)):=by
 rw[K6 _ (by omega)]
 refine bn5 l 0 s fun i s y _=>?_
 unfold aH4 nxS
 cases y.E0<;>cases((!s.2)||decide (y.At<s.1))<;>rfl
theorem dP6 (t:u9):aM9 t=some (bif ae0 t then nxV t.j3 else(0,false)):=by
 unfold aM9
 rw[dK6]
 cases h:ae0 t
 ·rfl
 ·have hl:=bF5 h
  simp only[as5,aX0,fh5,fh8]
  rw[dZ2 _ (by omega)]
  rfl
theorem dl8:∀(l:List j9) (s:Int×Bool),(∀c∈l,c.E0=true->(l.foldl nxS s).2=true/\(l.foldl nxS s).1<=c.At)/\(s.2=true->(l.foldl nxS s).2=true/\(l.foldl nxS s).1<=s.1)/\
  ((l.foldl nxS s).2=true->(l.foldl nxS s)=s\/∃c∈l,c.E0=true/\c.At=(l.foldl nxS s).1)
 |[],s=>⟨fun c h=>by simp at h,fun h=>⟨h,dr2 _⟩,fun _=>.inl rfl⟩
 |x::l,s=>by
  obtain⟨h1,h2,h3⟩:=dl8 l (nxS s x)
  simp only[ex7]
  have hx:x.E0=true->(nxS s x).2=true/\(nxS s x).1<=x.At:=fun ha=>by
   unfold nxS;rw[ha]
   cases hc:(!s.2)||decide (x.At<s.1)
   ·simp only[bG1,ef2,fi3]at hc
    simp only[cL7,fh5]
    exact⟨hc.1,by omega⟩
   ·exact⟨rfl,dr2 _⟩
  have hs:s.2=true->(nxS s x).2=true/\(nxS s x).1<=s.1:=fun hb=>by
   unfold nxS
   cases hc:x.E0&&((!s.2)||decide (x.At<s.1))
   ·exact⟨hb,dr2 _⟩
   ·simp only[hb,aX0,ec9,aI0,fi2]at hc
    exact⟨rfl,by simp only[fh8];omega⟩
  refine⟨fun c hc ha=>?_,fun hb=>?_,fun hb=>?_⟩
  ·rcases bZ8.1 hc with rfl|hc
   ·have:=hx ha
    have h4:=h2 this.1
    exact⟨h4.1,fe7 h4.2 this.2⟩
   ·exact h1 c hc ha
  ·have:=hs hb
   have h4:=h2 this.1
   exact⟨h4.1,fe7 h4.2 this.2⟩
  ·rcases h3 hb with h4|⟨c,h5,h6,h7⟩
   ·rw[h4]
    unfold nxS
    cases hc:x.E0&&((!s.2)||decide (x.At<s.1))
    ·exact .inl rfl
    ·simp only[aI0]at hc
     exact .inr ⟨x,bN7 ..,hc.1,rfl⟩
   ·exact .inr ⟨c,bY1 _ h5,h6,h7⟩
theorem cv2 {l:List j9}{c:j9}(hc:c∈l)(ha:c.E0=true):(nxV l).2=true/\(nxV l).1<=c.At:=(dl8 l (0,false)).1 c hc ha
theorem cQ5 {l:List j9}(h:(nxV l).2=true):∃c∈l,c.E0=true/\c.At=(nxV l).1:=by
 rcases(dl8 l (0,false)).2.2 h with h1|h1
 ·exfalso;unfold nxV at h;rw[h1]at h;cases h
 ·exact h1
theorem ep6 {l:List j9}{L9:Int}(h:∀c∈l,due L9 c=false):cI7 L9 l=[]/\l.map (bG6 L9)=l:=by
 have h1:∀(l:List j9) (i:Nat),(∀c∈l,due L9 c=false)->bN5 L9 i l=[]:=by
  intro l
  induction l with
  |nil=>intro i _;rfl
  |cons x l ih=>
   intro i h
   have:swC L9 i x=[]:=by unfold swC;rw[h x (bN7 ..)];rfl
   simp only[bN5,this,cV5]
   exact ih (i+1) fun c hc=>h c (bY1 _ hc)
 refine⟨by unfold cI7;rw[h1 l 0 h];simp,?_⟩
 rw[List.map_congr_left (g:=id) (fun c hc=>by unfold bG6;rw[h c hc];rfl)]
 simp
end Tm
end Go.Pv
namespace Go.Pv.Sc
open Go Go.Pv Go.Pv.Ev
def bM9 (c:E3):Bool:=bif !c.X5 then((c.At==0)&&((c.H6==0)&&((c.F9==0)&&((c.aa9==0)&&(c.as3==0)))))else
 ((((((decide (c.At>=0)&&decide (c.At<=1099511627776))&&(decide (c.H6>=0)&&decide (c.H6<46080)))&&(decide (c.F9>=1)&&decide (c.F9<=1073741824)))&&(decide (c.aa9>=192)&&decide (c.aa9<=1920)))&&(((c.as3==c.aa9)||(c.as3==2*c.aa9))||(c.as3==3*c.aa9))))
theorem dE7 (c:E3):aj2 c=some (bM9 c):=by
 unfold aj2 bM9 av4
 cases hv:c.X5
 ·simp
 ·simp only[aX0,fh5,as5]
  by_cases hs:192<=c.aa9/\c.aa9<=1920
  ·rw[j5 (n:=2*c.aa9) (by omega) (by omega),j5 (n:=3*c.aa9) (by omega) (by omega),da1,aH8,dG9]
   simp only[Bool.cond_false_left,cH8,aI0,bY2,bG1,ef2,fi2,fi3,beq_iff_eq,ge_iff_le]
   omega
  ·have e1:(((((((!(decide (c.At>=0)&&decide (c.At<=1099511627776)))||decide (c.H6<0))||decide (c.H6>=46080))||decide (c.F9<1))||decide (c.F9>1073741824))||decide (c.aa9<192))||decide (c.aa9>1920))=true:=by
    simp only[cH8,fi2];omega
   have e2:(decide (c.aa9>=192)&&decide (c.aa9<=1920))=false:=by
    simp only[fc5,fi3];omega
   rw[e1,e2];simp
structure bB8 (c:E3):Prop where
 at0:0<=c.At
 at1:c.At<=1099511627776
 an0:0<=c.H6
 an1:c.H6<46080
 p0:1<=c.F9
 p1:c.F9<=1073741824
 s0:192<=c.aa9
 s1:c.aa9<=1920
 ah:c.as3=c.aa9\/c.as3=2*c.aa9\/c.as3=3*c.aa9
theorem db0 {c:E3}(h:bM9 c=true)(hv:c.X5=true):bB8 c:=by
 unfold bM9 at h
 rw[hv]at h
 simp only[aX0,fh5,aI0,cH8,fi2,beq_iff_eq]at h
 obtain⟨⟨⟨⟨⟨a,b⟩,c',d⟩,e,f⟩,g,i⟩,j⟩:=h
 exact⟨a,b,c',d,e,f,g,i,by rcases j with(j|j)|j<;>omega⟩
def cx8 (e:o5)(l:List A2)(i:Nat):Bool:=match l[i]?with|some x=>decide (bf0 e x)&& !((l.take i).any fun g=>g.p7==x.p7)|none=>false
def aV9 (e:o5)(l:List A2):Bool:=(ed3 0 l.length).all (cx8 e l)
theorem dg6 (e:o5)(l:List A2)(he:aE1 e)(hl:l.length<=1000000):ab6 e l=some (aV9 e l):=by
 unfold ab6 aV9
 have k:=bw2 (f:=am5 e l) (p:=cx8 e l) (r:=false) l.length 0 (fun j _ hj=>by
  have hj':j<l.length:=by omega
  unfold am5 cx8
  rw[C7 _ _ hj',aW9 hj']
  simp only[as5,dN9,fi0 he,cL7]
  cases hf:decide (bf0 e l[j])
  ·rfl
  ·simp only[aX0,fh5,cL7]
   have hs:ay6 l 0 (j:Int)=some (l.take j):=by
    unfold ay6
    rw[if_pos ⟨by omega,by omega,by omega⟩]
    simp
   rw[hs]
   simp only[as5]
   have hc:E9 (l.take j) (fun x0=>ae7 x0 l[j])=some ((l.take j).any fun g=>g.p7==l[j].p7):=by
    unfold E9 H4 N7
    exact ai3 (l.take j) (by rw[bt6];omega) (fun x0=>ae7 x0 l[j]) (fun g=>g.p7==l[j].p7) (fun y _=>rfl)
   rw[hc]
   simp only[as5]
   cases(l.take j).any fun g=>g.p7==l[j].p7<;>rfl)
 rw[al8 _ (by omega)]
 rw[show((0:Nat):Int)=0 from rfl]at k
 rw[k]
 cases(ed3 0 l.length).all (cx8 e l)<;>rfl
def chn (x:B6):Int:=2*(x.p7-1)+if x.Kind=3\/x.Kind=4 then 1 else 0
def onK (k:Int):Bool:=(k==1)||(k==3)
structure aK3 (n:Nat)(j:A6):Prop where
 cyl:1<=j.Event.p7/\j.Event.p7<=(n:Int)
 kind:1<=j.Event.Kind/\j.Event.Kind<=4
 ef5:0<=j.Event.H6/\j.Event.H6<46080
 bS4:0<=j.Event.aj0/\j.Event.aj0<=2
 left:-1048576<=j.Left/\j.Left<=1048576
 at0:j.E0=true\/j.At=0
instance (n:Nat)(j:A6):Decidable (aK3 n j):=
 decidable_of_iff ((1<=j.Event.p7/\j.Event.p7<=(n:Int))/\(1<=j.Event.Kind/\j.Event.Kind<=4)/\(0<=j.Event.H6/\j.Event.H6<46080)/\(0<=j.Event.aj0/\j.Event.aj0<=2)/\(-1048576<=j.Left/\j.Left<=1048576)/\(j.E0=true\/j.At=0))
  ⟨fun⟨a,b,c,d,e,f⟩=>⟨a,b,c,d,e,f⟩,fun⟨a,b,c,d,e,f⟩=>⟨a,b,c,d,e,f⟩⟩
theorem dX1 {n:Nat}{j:A6}:aK3 n j↔(1<=j.Event.p7/\j.Event.p7<=(n:Int))/\(1<=j.Event.Kind/\j.Event.Kind<=4)/\(0<=j.Event.H6/\j.Event.H6<46080)/\(0<=j.Event.aj0/\j.Event.aj0<=2)/\(-1048576<=j.Left/\j.Left<=1048576)/\(j.E0=true\/j.At=0):=
 ⟨fun⟨a,b,c,d,e,f⟩=>⟨a,b,c,d,e,f⟩,fun⟨a,b,c,d,e,f⟩=>⟨a,b,c,d,e,f⟩⟩
theorem eP2 (s:j1)(j:A6):aw2 s j=some (decide (aK3 s.u7.A3.length j)):=by
 unfold aw2
 rw[da1,as5,aH8,dG9,fi2,dX1]
 simp only[fc6,cH8,aI0,fi2,beq_iff_eq,ge_iff_le]
 cases j.E0
 ·simp only[do2,false_or];omega
 ·simp only[true_or,and_true];omega
theorem eC5 (s:j1)(hl:s.H3.length<=1000000):O8 s.H3 (fun x0=>Y3 x0 s)=some (!s.H3.all fun j=>decide (aK3 s.u7.A3.length j)):=by
 unfold O8 C2 O9
 have:=ai3 s.H3 (by omega) (fun x0=>Y3 x0 s) (fun j=>!decide (aK3 s.u7.A3.length j)) (fun y _=>by unfold Y3;rw[eP2];rfl)
 rw[<-eI2 (s.H3.any _),<-ey8]at this
 simp only[eI2]at this
 exact this
theorem cG6 {n:Nat}{j:A6}(h:aK3 n j)(hn:n<=8):H2 j.Event=some (chn j.Event)/\aR7 j.Event=some (chn j.Event):=by
 have h1:=h.cyl;have h2:=h.kind
 unfold H2 aR7 chn
 rw[j5 (n:=j.Event.p7-1) (by omega) (by omega),j5 (n:=2*(j.Event.p7-1)) (by omega) (by omega),j5 (n:=2*(j.Event.p7-1)+1) (by omega) (by omega)]
 by_cases h3:j.Event.Kind=3\/j.Event.Kind=4
 ·have e1:((j.Event.Kind==3)||(j.Event.Kind==4))=true:=by simpa using h3
  have e2:((j.Event.Kind==1)||(j.Event.Kind==2))=false:=by simp;omega
  rw[e1,e2,if_pos h3];exact⟨rfl,rfl⟩
 ·have e1:((j.Event.Kind==3)||(j.Event.Kind==4))=false:=by simpa using h3
  have e2:((j.Event.Kind==1)||(j.Event.Kind==2))=true:=by simp;omega
  rw[e1,e2,if_neg h3];exact⟨by simp,by simp⟩
theorem dU7 {n:Nat}{j:A6}(h:aK3 n j):0<=chn j.Event/\chn j.Event<2*(n:Int):=by
 have h1:=h.cyl
 unfold chn;split<;>omega
def aq7 (l:List A6)(c:Int):List A6:=l.filter fun j=>chn j.Event==c
def alt:List A6->Bool->Bool
 |[],lv=>!lv
 |j::r,lv=>!(onK j.Event.Kind==lv)&& !j.E0&&alt r (!lv)
def aI2 (l:List A6)(x:j9):Bool:=match l with
 |[]=>!x.K1&& !x.E0
 |j::r=>!(onK j.Event.Kind==x.K1)&&(j.E0==x.E0)&&(!j.E0||((j.At==x.At)&&(x.Next== !x.K1)))&&alt r (!x.K1)
def bt8 (now:Int)(l:List A6):Bool:=match l with
 |[]=>true
 |[j]=>(j.Event.Kind==2)&&j.E0&&decide (j.At<=now+5000)
 |_=>false
def bE7 (s:j1)(c:Int)(x:j9):Bool:=aI2 (aq7 s.H3 c) x&&(!s.Cut||bt8 s.k6.V0 (aq7 s.H3 c))
def cX4 (cut:Bool)(now:Int)(x:j9):List A6->Bool->Bool->Bool
 |[],lv,fi=>!lv&& !(fi&&x.E0)
 |j::r,lv,fi=>bif onK j.Event.Kind==lv then false else
   bif (bif fi then(!(j.E0==x.E0))||(j.E0&&((j.At !=x.At)|| !(x.Next== !lv)))else(j.E0||cut))then false else
   bif cut&&(((j.Event.Kind !=2)|| !j.E0)||decide (j.At>now+5000))then false else cX4 cut now x r (!lv) false
theorem cP4 (s:j1)(c:Int)(x:j9)(n:Nat)(hn:n<=8)(h0:0<=s.k6.V0)(h1:s.k6.V0<=1099511627776):∀(l:List A6) (i:Int) (lv fi:Bool),(∀j∈l,aK3 n j)->
  (ai8 (L8 (Y6 s c x) l i (lv,fi)) fun(t:(Bool×Bool)⊕Bool)=>match t with| .inl s4=>(ai8 (bif (!s4.1)then(some (!(s4.2&&x.E0)))else(some false)) fun b5=>some b5)| .inr r3=>some r3)=some (cX4 s.Cut s.k6.V0 x (aq7 l c) lv fi)
 |[],i,lv,fi,_=>by
  simp only[L8,as5,aq7,eK7,cX4]
  cases lv<;>rfl
 |j::l,i,lv,fi,h=>by
  have hj:=h j (bN7 ..)
  have ih:=fun i lv fi=>cP4 s c x n hn h0 h1 l i lv fi (fun y hy=>h y (bY1 _ hy))
  by_cases hc:chn j.Event=c
  ·have e1:(chn j.Event !=c)=false:=by simpa using hc
   have e2:aq7 (j::l) c=j::aq7 l c:=by unfold aq7;rw[dY9 (by simpa using hc)]
   have hb:Y6 s c x i j (lv,fi)=some (bif onK j.Event.Kind==lv then .ret false else
     bif (bif fi then(!(j.E0==x.E0))||(j.E0&&((j.At !=x.At)|| !(x.Next== !lv)))else(j.E0||s.Cut))then .ret false else
     bif s.Cut&&(((j.Event.Kind !=2)|| !j.E0)||decide (j.At>s.k6.V0+5000))then .ret false else .next (!lv,false)):=by
    unfold Y6
    rw[(cG6 hj hn).1]
    simp only[as5,e1,fh5,ar4]
    have e3:((j.Event.Kind==1)||(j.Event.Kind==3))=onK j.Event.Kind:=rfl
    rw[e3,j5 (n:=s.k6.V0+5000) (by omega) (by omega)]
    cases onK j.Event.Kind==lv
    ·simp only[fh5]
     have hA:(bif fi then(ai8 (bif (!(j.E0==x.E0))then(some true)else(ai8 (bif j.E0 then(some ((j.At !=x.At)||(!(x.Next==(!lv)))))else(some false)) fun b2=>some b2)) fun b3=>bif b3 then(some (Sum.inr false))else(some (Sum.inl ())))else(bif (j.E0||s.Cut)then(some (Sum.inr false))else(some (Sum.inl ()))))=
       (some (bif (bif fi then(!(j.E0==x.E0))||(j.E0&&((j.At !=x.At)|| !(x.Next== !lv)))else(j.E0||s.Cut))then Sum.inr false else Sum.inl ()):Option (Unit⊕Bool)):=by
      cases fi
      ·cases(j.E0||s.Cut)<;>rfl
      ·cases(j.E0==x.E0)<;>cases j.E0<;>simp only[aX0,cI3,fh8,fh5,as5,Bool.true_or,ec9,cL7,ez5,Bool.or_false]
       cases((j.At !=x.At)|| !(x.Next== !lv))<;>rfl
     rw[hA]
     cases(bif fi then(!(j.E0==x.E0))||(j.E0&&((j.At !=x.At)|| !(x.Next== !lv)))else(j.E0||s.Cut))
     ·simp only[fh5,as5]
      have hB:(bif s.Cut then(some (((j.Event.Kind !=2)||(!j.E0))||(decide (j.At>s.k6.V0+5000))))else(some false))=some (s.Cut&&(((j.Event.Kind !=2)||(!j.E0))||(decide (j.At>s.k6.V0+5000)))):=by cases s.Cut<;>rfl
      rw[hB]
      simp only[as5]
      cases(s.Cut&&(((j.Event.Kind !=2)||(!j.E0))||(decide (j.At>s.k6.V0+5000))))<;>rfl
     ·rfl
    ·rfl
   rw[e2]
   simp only[L8,hb,cX4,as5]
   cases onK j.Event.Kind==lv
   ·simp only[fh5]
    cases(bif fi then(!(j.E0==x.E0))||(j.E0&&((j.At !=x.At)|| !(x.Next== !lv)))else(j.E0||s.Cut))
    ·simp only[fh5]
     cases(s.Cut&&(((j.Event.Kind !=2)||(!j.E0))||(decide (j.At>s.k6.V0+5000))))
     ·exact ih (i+1) (!lv) false
     ·rfl
    ·rfl
   ·rfl
  ·have e1:(chn j.Event !=c)=true:=by simpa using hc
   have e2:aq7 (j::l) c=aq7 l c:=by unfold aq7;rw[eY5 (by simpa using hc)]
   have hb:Y6 s c x i j (lv,fi)=some (.next (lv,fi)):=by
    unfold Y6
    rw[(cG6 hj hn).1]
    simp only[as5,e1,fh8]
   rw[e2]
   simp only[L8,hb,as5]
   exact ih (i+1) lv fi
theorem dd8 (cut:Bool)(now:Int)(x:j9):∀(l:List A6) (lv:Bool),cX4 cut now x l lv false=(alt l lv&&(!cut||l.isEmpty))
 |[],lv=>by simp[cX4,alt]
 |j::r,lv=>by
  simp only[cX4,alt,dd8 cut now x r (!lv)]
  cases onK j.Event.Kind==lv<;>cases j.E0<;>cases cut<;>simp
theorem eC8 (cut:Bool)(now:Int)(x:j9)(l:List A6):cX4 cut now x l x.K1 true=(aI2 l x&&(!cut||bt8 now l)):=by
 cases l with
 |nil=>simp[cX4,aI2,bt8]
 |cons j r=>
  simp only[cX4,aI2,dd8]
  cases ho:onK j.Event.Kind==x.K1<;>cases ha:j.E0==x.E0<;>cases hj:j.E0<;>cases hn:(j.At !=x.At)<;>cases hx:(x.Next== !x.K1)<;>cases cut<;>cases r with
  |nil=>
   simp_all[bt8,alt]
   try
    cases x.K1
    ·simp
    ·rw[dG9]
     simp
  |cons k r=>simp_all[bt8]
theorem eC9 (s:j1)(c:Nat)(hc:c<s.k6.j3.length)(n:Nat)(hn:n<=8)(h0:0<=s.k6.V0)(h1:s.k6.V0<=1099511627776)(hl:s.H3.length<=1000000)(hj:∀j∈s.H3,aK3 n j):
  ar3 s (c:Int)=some (bE7 s (c:Int) s.k6.j3[c]):=by
 unfold ar3
 rw[C7 _ _ hc]
 simp only[as5]
 rw[K6 _ (by omega)]
 have h:=cP4 s (c:Int) s.k6.j3[c] n hn h0 h1 s.H3 0 s.k6.j3[c].K1 true hj
 rw[eC8]at h
 exact h
def co2 (s:j1):Bool:=
 decide (aE1 s.u7)&&bM9 s.B1&&Tm.ae0 s.k6&&decide (s.k6.j3.length=2*s.u7.A3.length)&&aV9 s.u7 s.Next&&decide (s.H3.length<=200)&&(s.B1.X5||s.H3.isEmpty)&&(s.H3.all fun j=>decide (aK3 s.u7.A3.length j))&&
  (ed3 0 s.k6.j3.length).all fun c=>match s.k6.j3[c]?with|some x=>bE7 s (c:Int) x|none=>false
structure aN2 (s:j1):Prop where
 eng:aE1 s.u7
 clk:bM9 s.B1=true
 tim:Tm.ae0 s.k6=true
 chs:s.k6.j3.length=2*s.u7.A3.length
 cG2:aV9 s.u7 s.Next=true
 most:s.H3.length<=200
 none:s.B1.X5=false->s.H3=[]
 job:∀j∈s.H3,aK3 s.u7.A3.length j
 line:∀c (h:c<s.k6.j3.length),bE7 s (c:Int) s.k6.j3[c]=true
theorem aY7 {s:j1}:co2 s=true↔aN2 s:=by
 unfold co2
 simp only[aI0,fi2,bx8,cH8]
 constructor
 ·rintro⟨⟨⟨⟨⟨⟨⟨⟨h1,h2⟩,h3⟩,h4⟩,h5⟩,h6⟩,h7⟩,h8⟩,h9⟩
  refine⟨h1,h2,h3,h4,h5,h6,fun hv=>?_,h8,fun c hc=>?_⟩
  ·rcases h7 with h|h
   ·rw[hv]at h;cases h
   ·simpa using h
  ·have:=h9 c (by rw[eP1];exact⟨c,hc,by omega⟩)
   rw[aW9 hc]at this
   exact this
 ·intro h
  refine⟨⟨⟨⟨⟨⟨⟨⟨h.eng,h.clk⟩,h.tim⟩,h.chs⟩,h.cG2⟩,h.most⟩,?_⟩,h.job⟩,fun c hc=>?_⟩
  ·cases hv:s.B1.X5
   ·right;rw[h.none hv];rfl
   ·left;rfl
  ·rw[eP1]at hc
   obtain⟨i,hi,rfl⟩:=hc
   have e:0+1*i=i:=by omega
   rw[e,aW9 hi]
   exact h.line i hi
theorem dp4 (l:List A6):decide ((l.length:Int)>0)= !l.isEmpty:=by cases l<;>simp
theorem bc8 (s:j1)(hn:s.Next.length<=1000000)(hl:s.H3.length<=1000000):J8 s=some (co2 s):=by
 unfold J8
 rw[Ev.ao3,dE7,Tm.dK6]
 unfold co2
 cases he:decide (aE1 s.u7)
 ·simp
 ·have he':=of_decide_eq_true he
  have hE:=he'.2.1
  cases hc:bM9 s.B1
  ·simp
  ·cases ht:Tm.ae0 s.k6
   ·simp
   ·have htl:=Tm.bF5 ht
    have e1:((s.k6.j3.length:Int) !=j7 (2*(s.u7.A3.length:Int)))= !decide (s.k6.j3.length=2*s.u7.A3.length):=by
     rw[j5 (by omega) (by omega),dG9];simp;omega
    simp only[as5,aX0,fh5,ec9,e1,cL7]
    cases h2:decide (s.k6.j3.length=2*s.u7.A3.length)
    ·simp
    ·simp only[aX0,fh5,dg6 _ _ he' hn,as5,cL7]
     cases hw:aV9 s.u7 s.Next
     ·simp
     ·simp only[aX0,fh5,cL7]
      have e2:decide ((s.H3.length:Int)>200)= !decide (s.H3.length<=200):=by rw[dG9];simp;omega
      rw[e2,dp4]
      cases h3:decide (s.H3.length<=200)
      ·simp
      ·simp only[aX0,fh5,as5,cL7]
       cases h4:(s.B1.X5||s.H3.isEmpty)
       ·have:(!s.B1.X5&& !s.H3.isEmpty)=true:=by simp only[bG1]at h4;simp[h4.1,h4.2]
        rw[this];simp
       ·have:(!s.B1.X5&& !s.H3.isEmpty)=false:=by rcases Bool.or_eq_true_iff.1 h4 with h|h<;>simp[h]
        rw[this,eC5 s hl]
        simp only[fh5,as5,cL7]
        cases h5:s.H3.all fun j=>decide (aK3 s.u7.A3.length j)
        ·simp
        ·simp only[aX0,fh5,cL7]
         have hj:∀j∈s.H3,aK3 s.u7.A3.length j:=by simpa using h5
         have k:=bw2 (f:=am4 s) (p:=fun c=>match s.k6.j3[c]?with|some x=>bE7 s (c:Int) x|none=>false) (r:=false) s.k6.j3.length 0 (fun c _ hc=>by
          have hc':c<s.k6.j3.length:=by omega
          unfold am4
          rw[eC9 s c hc' _ hE (by omega) (by omega) hl hj,aW9 hc']
          simp only[as5]
          cases bE7 s (c:Int) s.k6.j3[c]<;>rfl)
         rw[al8 _ (by omega)]
         rw[show((0:Nat):Int)=0 from rfl]at k
         rw[k]
         cases(ed3 0 s.k6.j3.length).all fun c=>match s.k6.j3[c]?with|some x=>bE7 s (c:Int) x|none=>false<;>rfl
theorem dY3 {n:Nat}{l:List A6}{c:Int}{j:A6}(hj:∀j∈l,aK3 n j)(hm:j∈aq7 l c):aK3 n j/\chn j.Event=c:=by
 unfold aq7 at hm
 rw[dM6]at hm
 exact⟨hj j hm.1,by simpa using hm.2⟩
theorem dr3 {n:Nat}{j:A6}(h:aK3 n j):(chn j.Event).tmod 2=if j.Event.Kind=3\/j.Event.Kind=4 then 1 else 0:=by
 have h1:=h.cyl
 have h0:=(dU7 h).1
 rw[do1 h0]
 unfold chn;split<;>omega
end Go.Pv.Sc
namespace Go.Pv.R1
open Go Go.Pv
end Go.Pv.R1
namespace Go.Pv.Sc
open Go Go.Pv Go.Pv.Ev
def upV (a b:Int):Int:=-((-a)/b)
theorem fc8 (a b : Int) (h0 : -4611686018427387904 <= a) (h1 : a <= 4611686018427387904) (hb : 0 < b) (hb1 : b <= 4611686018427387904) : az6 a b = some (upV a b) := by
  unfold az6 bn3 cf1 upV
  rw [if_neg (by omega), if_neg (by omega)]
  simp only [as5]
  obtain ⟨k, rfl⟩ : ∃ k : Nat, b = k := ⟨b.toNat, by omega⟩
  have hk : k > 0 := by omega
  by_cases ha : 0 <= a
  · obtain ⟨m, rfl⟩ : ∃ m : Nat, a = m := ⟨a.toNat, by omega⟩
    have e1 : cZ1 (m : Int) (k : Int) = ((m / k : Nat) : Int) := rfl
    have e2 : ed7 (m : Int) (k : Int) = ((m % k : Nat) : Int) := rfl
    rw [e1, e2]
    have hq : m / k <= m := Nat.div_le_self _ _
    have hr := Nat.mod_lt m hk
    have hd := Nat.div_add_mod m k
    generalize m / k = q at hq hd
    generalize m % k = r at hr hd
    have ew : eX3.wrap (q : Int) = (q : Int) := j5 (by omega) (by omega)
    rw [ew]
    by_cases hr0 : r = 0
    · subst hr0
      have : -(m : Int) = (k : Int) * (-(q : Int)) := by rw [Int.mul_neg]; have : (m : Int) = ((k * q : Nat) : Int) := by omega
                                                         rw [this]; push_cast; rfl
      rw [this, Int.mul_ediv_cancel_left _ (by omega)]
      simp
    · have e3 : decide ((r : Int) > 0) = true := by simp; omega
      rw [e3, j5 (by omega) (by omega)]
      simp only [fh8, aH8]
      have : -(m : Int) = ((k - r : Nat) : Int) + (k : Int) * (-(q : Int) - 1) := by
        have h5 : (k : Int) * (-(q : Int) - 1) = -((k * q : Nat) : Int) - (k : Int) := by rw [Int.mul_sub, Int.mul_neg, Int.mul_one]; push_cast; rfl
        rw [h5]; omega
      rw [this, Int.add_mul_ediv_left _ _ (by omega), Int.ediv_eq_zero_of_lt (by omega) (by omega)]
      omega
  · obtain ⟨m, rfl⟩ : ∃ m : Nat, a = -(m : Int) := ⟨a.natAbs, by omega⟩
    have e1 : cZ1 (-(m : Int)) (k : Int) = -((m / k : Nat) : Int) := by rw [Int.neg_tdiv]; rfl
    have e2 : ed7 (-(m : Int)) (k : Int) = -((m % k : Nat) : Int) := by rw [Int.neg_tmod]; rfl
    rw [e1, e2, Int.neg_neg]
    have e4 : (m : Int) / (k : Int) = ((m / k : Nat) : Int) := rfl
    rw [e4]
    have hq : m / k <= m := Nat.div_le_self _ _
    generalize m / k = q at hq
    generalize m % k = r
    have e3 : decide (-(r : Int) > 0) = false := fi1 (by omega)
    have ew : eX3.wrap (-(q : Int)) = -(q : Int) := j5 (by omega) (by omega)
    rw [e3, ew]
    rfl
theorem ed0 {a b:Int}(hb:0<b)(h0:-1125899906842624<=a)(h1:a<=1125899906842624):-1125899906842624<=upV a b/\upV a b<=1125899906842624:=by
 unfold upV
 have h2:-1125899906842624<=(-a)/b:=by
  rw[Int.le_ediv_iff_mul_le hb]
  have:-1125899906842624*b<= -1125899906842624*1:=Int.mul_le_mul_of_nonpos_left (by omega) (by omega)
  omega
 have h3:(-a)/b<=1125899906842624:=by
  apply Int.le_of_lt_add_one
  rw[Int.ediv_lt_iff_lt_mul hb]
  have:(1125899906842624+1)*1<=(1125899906842624+1)*b:=ed6 (by omega) (by omega)
  omega
 omega
def split (c:Int):List A6->Option (List A6×A6×List A6)
 |[]=>none
 |j::r=>if chn j.Event=c then some ([],j,r)else(split c r).map fun t=>(j::t.1,t.2.1,t.2.2)
theorem bj8 {c:Int}:∀{l:List A6}{a:List A6}{j:A6}{b:List A6},split c l=some (a,j,b)->l=a++j::b/\chn j.Event=c/\∀y∈a,chn y.Event≠c
 |[],a,j,b,h=>by simp[split]at h
 |x::r,a,j,b,h=>by
  simp only[split]at h
  by_cases hc:chn x.Event=c
  ·rw[if_pos hc]at h
   cases h
   exact⟨rfl,hc,fun y hy=>by simp at hy⟩
  ·rw[if_neg hc]at h
   cases hs:split c r with
   |none=>rw[hs]at h;simp at h
   |some t=>
    obtain⟨a',j',b'⟩:=t
    rw[hs]at h
    simp only[bZ7,aH8,Prod.mk.injEq]at h
    obtain⟨rfl,rfl,rfl⟩:=h
    obtain⟨h1,h2,h3⟩:=bj8 hs
    exact⟨by rw[h1];rfl,h2,fun y hy=>by
     rcases bZ8.1 hy with rfl|hy
     ·exact hc
     ·exact h3 y hy⟩
theorem cT7 {c:Int}:∀{l:List A6},split c l=none->∀y∈l,chn y.Event≠c
 |[],_,y,hy=>by simp at hy
 |x::r,h,y,hy=>by
  simp only[split]at h
  by_cases hc:chn x.Event=c
  ·rw[if_pos hc]at h;cases h
  ·rw[if_neg hc]at h
   cases hs:split c r with
   |none=>
    rcases bZ8.1 hy with rfl|hy
    ·exact hc
    ·exact cT7 hs y hy
   |some t=>rw[hs]at h;simp at h
theorem aR8 (a b:List A6)(c:Int):aq7 (a++b) c=aq7 a c++aq7 b c:=by unfold aq7;rw[dK2]
theorem bv1 {l:List A6}{c:Int}(h:∀y∈l,chn y.Event≠c):aq7 l c=[]:=by
 unfold aq7
 rw[eA8]
 intro y hy
 simpa using h y hy
theorem bZ5 {j:A6}{l:List A6}{c:Int}(h:chn j.Event=c):aq7 (j::l) c=j::aq7 l c:=by unfold aq7;rw[dY9 (by simpa using h)]
theorem bZ4 {j:A6}{l:List A6}{c:Int}(h:chn j.Event≠c):aq7 (j::l) c=aq7 l c:=by unfold aq7;rw[eY5 (by simpa using h)]
theorem cQ1 {c:Int}{l a b:List A6}{j:A6}(h:split c l=some (a,j,b)):aq7 l c=j::aq7 b c:=by
 obtain⟨rfl,h2,h3⟩:=bj8 h
 rw[aR8,bv1 h3,cV5,bZ5 h2]
theorem dY4 {c:Int}{l:List A6}(h:split c l=none):aq7 l c=[]:=bv1 (cT7 h)
def cu2 (c:Int)(l:List A6):Int:=match split c l with|some t=>(t.1.length:Int)|none=>-1
theorem cA4 (c:Int)(n:Nat)(hn:n<=8):∀(l:List A6) (i:Nat),(∀j∈l,aK3 n j)->L8 (fun(i:Int) x (_:Unit)=>ai8 (V5 x c) fun v=>bif v then(some (Fl.ret i))else(some (Fl.next ()))) l (i:Int) ()=
  some (match split c l with|some t=>.inr ((i+t.1.length:Nat):Int)|none=>.inl ())
 |[],i,_=>rfl
 |j::l,i,h=>by
  have hj:=h j (bN7 ..)
  simp only[L8,V5,(cG6 hj hn).1,as5,split]
  by_cases hc:chn j.Event=c
  ·have e:(chn j.Event==c)=true:=by simpa using hc
   rw[e,if_pos hc];rfl
  ·have e:(chn j.Event==c)=false:=by simpa using hc
   rw[e,if_neg hc]
   simp only[fh5,as5]
   have:=cA4 c n hn l (i+1) (fun y hy=>h y (bY1 _ hy))
   rw[show((i:Int)+1)=((i+1:Nat):Int) by omega]
   unfold V5 at this
   rw[this]
   cases split c l with
   |none=>rfl
   |some t=>simp;omega
theorem bR8 (c:Int)(n:Nat)(hn:n<=8)(l:List A6)(hl:l.length<=1000000)(h:∀j∈l,aK3 n j):C2 l (fun x0=>V5 x0 c)=some (cu2 c l):=by
 unfold C2 O9
 rw[bc6 l (by omega) (fun(i:Int) x (_:Unit)=>ai8 (V5 x c) fun v=>bif v then(some (Fl.ret i))else(some (Fl.next ())))]
 have:=cA4 c n hn l 0 h
 rw[show((0:Nat):Int)=0 from rfl]at this
 rw[this]
 unfold cu2
 cases split c l with
 |none=>rfl
 |some t=>simp
def bO5 (now:Int)(k:E3)(j:A6):Int:=G4 (k.At+upV (j.Left*k.F9) k.aa9) (now+1)
def dp8 (now:Int)(k:E3)(c:Nat)(u:List j9×List A6):List j9×List A6:=
 match split (c:Int) u.2 with
 |none=>u
 |some (a,j,b)=>if j.Left>k.as3\/bO5 now k j>1099511627776 then u else
   match u.1[c]?with
   |none=>u
   |some x=>(u.1.set c ⟨true,bO5 now k j,onK j.Event.Kind,x.K1⟩,a++⟨j.Event,j.Left,true,bO5 now k j⟩::b)
def ca9 (now:Int)(k:E3):Nat->List j9×List A6->List j9×List A6
 |0,u=>u
 |c+1,u=>dp8 now k c (ca9 now k c u)
structure Rows (n:Nat)(now:Int)(u:List j9×List A6):Prop where
 len:u.1.length=2*n
 ch:∀x∈u.1,Tm.chB now x=true
 job:∀j∈u.2,aK3 n j
 row:∀c (h:c<u.1.length),aI2 (aq7 u.2 (c:Int)) u.1[c]=true
theorem dM5 {now at_:Int}{b l:Bool}(h0:now<at_)(h1:at_<=1099511627776):Tm.chB now ⟨true,at_,b,l⟩=true:=by
 unfold Tm.chB
 simp only[fh8,bY2,bG1,fi3]
 omega
theorem dp7 (now:Int)(k:E3)(j:A6):now<bO5 now k j:=by unfold bO5 G4;split<;>omega
theorem eF4 {j:A6}{r:List A6}{x:j9}(at_:Int)(h:aI2 (j::r) x=true):aI2 (⟨j.Event,j.Left,true,at_⟩::r) ⟨true,at_,onK j.Event.Kind,x.K1⟩=true:=by
 unfold aI2 at h|-
 simp only[aI0,bY2]at h
 obtain⟨⟨⟨h1,_⟩,_⟩,h4⟩:=h
 have hk:onK j.Event.Kind= !x.K1:=by cases hk:onK j.Event.Kind<;>cases hx:x.K1<;>simp_all
 simp[h4,hk]
theorem eg3 {n:Nat}{now:Int}{k:E3}{c:Nat}{u:List j9×List A6}(h:Rows n now u):Rows n now (dp8 now k c u):=by
 unfold dp8
 cases hs:split (c:Int) u.2 with
 |none=>exact h
 |some t=>
  obtain⟨a,j,b⟩:=t
  simp only
  split
  ·exact h
  ·rename_i hq
   have hq1:bO5 now k j<=1099511627776:=by
    by_cases h5:bO5 now k j>1099511627776
    ·exact absurd (.inr h5) hq
    ·omega
   cases hx:u.1[c]?with
   |none=>exact h
   |some x=>
    obtain⟨hc,rfl⟩:=bG0.1 hx
    obtain⟨hl,hj,ha⟩:=bj8 hs
    have hjm:j∈u.2:=by rw[hl];simp
    have hjk:=h.job j hjm
    refine⟨by simp[h.len],fun y hy=>?_,fun y hy=>?_,fun d hd=>?_⟩
    ·rcases fe1 hy with hy|rfl
     ·exact h.ch y hy
     ·exact dM5 (dp7 now k j) hq1
    ·simp only[dn9,bZ8]at hy
     rcases hy with hy|rfl|hy
     ·exact h.job y (by rw[hl];simp[hy])
     ·exact⟨hjk.cyl,hjk.kind,hjk.ef5,hjk.bS4,hjk.left,.inl rfl⟩
     ·exact h.job y (by rw[hl];simp[hy])
    ·simp only[eb2]at hd
     have aQ1:=h.row d hd
     simp only[eY1]
     by_cases hdc:c=d
     ·subst hdc
      rw[if_pos rfl,aR8,bv1 ha,cV5,bZ5 (by exact hj)]
      rw[cQ1 hs]at aQ1
      exact eF4 _ aQ1
     ·rw[if_neg hdc,aR8,bZ4 (by show chn j.Event≠(d:Int);rw[hj];omega)]
      rw[hl,aR8,bZ4 (by rw[hj];omega)]at aQ1
      exact aQ1
theorem cr1 {n:Nat}{now:Int}{k:E3}{u:List j9×List A6}(h:Rows n now u):∀m,Rows n now (ca9 now k m u)
 |0=>h
 |m+1=>eg3 (cr1 h m)
theorem dT7 (now:Int)(k:E3)(c:Nat)(u:List j9×List A6):(dp8 now k c u).2.length=u.2.length:=by
 unfold dp8
 cases hs:split (c:Int) u.2 with
 |none=>rfl
 |some t=>
  obtain⟨a,j,b⟩:=t
  simp only
  split
  ·rfl
  ·cases u.1[c]?with
   |none=>rfl
   |some x=>
    have:=(bj8 hs).1
    simp[this]
theorem bC1 (now:Int)(k:E3)(u:List j9×List A6):∀m,(ca9 now k m u).2.length=u.2.length
 |0=>rfl
 |m+1=>by rw[ca9,dT7,bC1 now k u m]
theorem cJ1 (now:Int)(k:E3)(ch:List j9):∀m,ca9 now k m (ch,[])=(ch,[])
 |0=>rfl
 |m+1=>by rw[ca9,cJ1 now k ch m];rfl
theorem dT8 {n:Nat}{k:E3}{j:A6}(hk:bB8 k)(hj:aK3 n j):(-1125899906842624<=j.Left*k.F9/\j.Left*k.F9<=1125899906842624)/\(-1125899906842624<=upV (j.Left*k.F9) k.aa9/\upV (j.Left*k.F9) k.aa9<=1125899906842624):=by
 have h1:=hj.left;have h2:=hk.p0;have h3:=hk.p1;have h4:=hk.s0
 have a:j.Left*k.F9<=1048576*1073741824:=by
  by_cases h0:0<=j.Left
  ·exact eR5 h1.2 h3 (by omega) (by omega)
  ·have:j.Left*k.F9<=0:=Int.mul_nonpos_of_nonpos_of_nonneg (by omega) (by omega)
   omega
 have b:-(1048576*1073741824)<=j.Left*k.F9:=by
  by_cases h0:0<=j.Left
  ·have:0<=j.Left*k.F9:=eT3 h0 (by omega)
   omega
  ·have:(-j.Left)*k.F9<=1048576*1073741824:=eR5 (by omega) h3 (by omega) (by omega)
   rw[Int.neg_mul]at this
   omega
 exact⟨⟨by omega,by omega⟩,ed0 (by omega) (by omega) (by omega)⟩
theorem cH9 {n:Nat}{now:Int}{u:List j9×List A6}(h:Rows n now u)(h0:0<=now)(h1:now<=1099511627776)(hn:1<=n)(hn8:n<=8):Tm.ae0 ⟨now,u.1⟩=true:=by
 unfold Tm.ae0
 have hl:=h.len
 rw[Tm.dt6 (by simp only;omega)]
 simp only[cI3,cL7,bx8]
 exact h.ch
theorem dR0 (a b:List A6)(j j':A6):an9 (a++j::b) (a.length:Int) j'=some (a++j'::b):=by
 rw[T9 _ _ _ (by simp)]
 simp
theorem dO2 (a b:List A6)(j:A6):D4 (a++j::b) (a.length:Int)=some j:=by
 rw[T8];simp
theorem eg4 {n:Nat}{s:j1}{now:Int}{u:List j9×List A6}(hu:Rows n now u)(hk:bB8 s.B1)(h0:0<=now)(h1:now<=1099511627776)(hn:1<=n)(hn8:n<=8)(hl:u.2.length<=1000000)(c:Nat)(hc:c<2*n):
  V6 s (c:Int) (⟨now,u.1⟩,u.2)=some (.next (⟨now,(dp8 now s.B1 c u).1⟩,(dp8 now s.B1 c u).2)):=by
 unfold V6
 simp only
 rw[bR8 (c:Int) n hn8 u.2 hl hu.job]
 have hcl:c<u.1.length:=by rw[hu.len];exact hc
 unfold cu2 dp8
 cases hs:split (c:Int) u.2 with
 |none=>rfl
 |some t=>
  obtain⟨a,j,b⟩:=t
  obtain⟨hl2,hj,ha⟩:=bj8 hs
  have hjm:j∈u.2:=by rw[hl2];simp
  have hjk:=hu.job j hjm
  obtain⟨r1,r2⟩:=dT8 hk hjk
  have hka:=hk.at0;have hka1:=hk.at1
  simp only[as5]
  have e1:decide ((a.length:Int)<0)=false:=by simp
  have eg:D4 u.2 (a.length:Int)=some j:=by rw[hl2];exact dO2 a b j
  rw[e1,eg]
  simp only[fh5,as5]
  by_cases hla:j.Left>s.B1.as3
  ·rw[fi0 hla,if_pos (.inl hla)]
   rfl
  ·rw[fi1 hla]
   simp only[fh5]
   rw[j5 (n:=j.Left*s.B1.F9) (by omega) (by omega),fc8 _ _ (by omega) (by omega) (by have:=hk.s0;omega) (by have:=hk.s1;omega)]
   simp only[as5]
   rw[j5 (n:=s.B1.At+upV (j.Left*s.B1.F9) s.B1.aa9) (by omega) (by omega),j5 (n:=now+1) (by omega) (by omega)]
   have hat:G4 (s.B1.At+upV (j.Left*s.B1.F9) s.B1.aa9) (now+1)=bO5 now s.B1 j:=rfl
   rw[hat]
   by_cases hmx:bO5 now s.B1 j>1099511627776
   ·rw[fi0 hmx,if_pos (.inr hmx)];rfl
   ·rw[fi1 hmx,if_neg (by omega)]
    simp only[fh5]
    have eo:ar4 j.Event.Kind=some (onK j.Event.Kind):=rfl
    rw[eo]
    simp only[as5]
    have hgt:=dp7 now s.B1 j
    have e2:decide (bO5 now s.B1 j<=now)=false:=by simp;omega
    have e3:decide (bO5 now s.B1 j>Tm.cC5)=false:=by unfold Tm.cC5;simp;omega
    rw[Tm.eg2 ⟨now,u.1⟩ _ _ _ c rfl hcl (cH9 hu h0 h1 hn hn8)]
    simp only
    rw[e2,e3]
    simp only[fh5,as5,beq_self_eq_true,fh8]
    rw[hl2,dR0]
    simp only[as5]
    rw[dR0,aW9 hcl]
    rfl
theorem ez1 {n:Nat}{s:j1}{now:Int}{u:List j9×List A6}(hu:Rows n now u)(hk:bB8 s.B1)(h0:0<=now)(h1:now<=1099511627776)(hn:1<=n)(hn8:n<=8)(hl:u.2.length<=1000000):
  K7 ((2*n:Nat):Int) (V6 s) (⟨now,u.1⟩,u.2)=some (.inl (⟨now,(ca9 now s.B1 (2*n) u).1⟩,(ca9 now s.B1 (2*n) u).2)):=by
 obtain⟨t,k1,k2⟩:=ag5 (R:=Empty) (2*n) (by omega) (V6 s) (fun c t=>t=(⟨now,(ca9 now s.B1 c u).1⟩,(ca9 now s.B1 c u).2)) (⟨now,u.1⟩,u.2) rfl (fun c hc t ht=>by
  subst ht
  refine⟨_,eg4 (cr1 hu c) hk h0 h1 hn hn8 (by rw[bC1];exact hl) c hc,rfl⟩)
 rw[k1,k2]
def put (s:j1)(now:Int)(u:List j9×List A6):j1:=⟨s.u7,s.B1,⟨now,u.1⟩,s.Next,u.2,s.Cut⟩
def bM4 (s:j1):j1:=if s.Cut then s else put s s.k6.V0 (ca9 s.k6.V0 s.B1 s.k6.j3.length (s.k6.j3,s.H3))
theorem bY5 (s:j1)(t:u9):∀(k i:Nat),aW7 (V6 s) k (i:Int) (t,[])=some (.inl (t,[]))
 |0,_=>rfl
 |k+1,i=>by
  have:V6 s (i:Int) (t,[])=some (.next (t,[])):=by
   unfold V6
   have hi:C2 [] (fun x0=>V5 x0 (i:Int))=some (-1):=by
    unfold C2
    rw[show((([]:List A6).length:Nat):Int)=((0:Nat):Int)from rfl,al8 0 (by decide)]
    rfl
   simp only[hi]
   rfl
  simp only[aW7,this,as5]
  exact bY5 s t k (i+1)
theorem dQ9 {n:Nat}{s:j1}(hu:Rows n s.k6.V0 (s.k6.j3,s.H3))(hk:s.H3=[]\/bB8 s.B1)(h0:0<=s.k6.V0)(h1:s.k6.V0<=1099511627776)(hn:1<=n)(hn8:n<=8)(hl:s.H3.length<=1000000):
  ak9 s=some (bM4 s):=by
 unfold ak9 bM4
 have hlen:=hu.len
 simp only at hlen
 cases aI1:s.Cut
 ·simp only[fh5,do2,if_false]
  rcases hk with hk|hk
  ·rw[hk,cJ1,al8 _ (by omega)]
   have:=bY5 s s.k6 s.k6.j3.length 0
   rw[show((0:Nat):Int)=0 from rfl]at this
   rw[this]
   unfold put
   simp only[as5,aI1]
  ·have:=ez1 (s:=s) hu hk h0 h1 hn hn8 hl
   simp only at this
   have e:(⟨s.k6.V0,s.k6.j3⟩:u9)=s.k6:=rfl
   rw[e]at this
   rw[hlen,this]
   unfold put
   simp only[as5,aI1]
 ·rfl
theorem bJ0 {α:Type}(f:α->Option Bool)(p:α->Bool):∀(l:List α) (i:Nat),(∀y∈l,f y=some (p y))->L8 (fun(i:Int) x (_:Unit)=>ai8 (f x) fun v=>bif v then(some (Fl.ret i))else(some (Fl.next ()))) l (i:Int) ()=
  some (match l.findIdx? p with|some k=>.inr ((i+k:Nat):Int)|none=>.inl ())
 |[],i,_=>rfl
 |y::l,i,h=>by
  simp only[L8,h y (bN7 ..),as5,fg6]
  cases p y
  ·have:=bJ0 f p l (i+1) (fun y hy=>h y (bY1 _ hy))
   rw[show((i:Int)+1)=((i+1:Nat):Int) by omega]
   simp only[fh5,as5,do2,if_false]
   rw[this]
   cases l.findIdx? p with
   |none=>rfl
   |some k=>simp;omega
  ·simp
theorem find_eq (l:List A6)(hl:l.length<=1000000)(f:A6->Option Bool)(p:A6->Bool)(h:∀y∈l,f y=some (p y)):C2 l f=some (match l.findIdx? p with|some k=>(k:Int)|none=>-1):=by
 unfold C2 O9
 rw[bc6 l (by omega) (fun(i:Int) x (_:Unit)=>ai8 (f x) fun v=>bif v then(some (Fl.ret i))else(some (Fl.next ())))]
 have:=bJ0 f p l 0 h
 rw[show((0:Nat):Int)=0 from rfl]at this
 rw[this]
 cases l.findIdx? p with
 |none=>rfl
 |some k=>simp
theorem cu1 {α:Type}{p:α->Bool}:∀{l:List α}{k:Nat},l.findIdx? p=some k->k<l.length/\(l.take (k+1)).filter (fun y=>!p y)=l.take k
 |[],k,h=>by simp at h
 |y::l,k,h=>by
  rw[fg6]at h
  cases hp:p y
  ·rw[hp]at h
   simp only[do2,if_false]at h
   cases hf:l.findIdx? p with
   |none=>rw[hf]at h;simp at h
   |some m=>
    rw[hf]at h
    simp only[bZ7,aH8]at h
    subst h
    obtain⟨h1,h2⟩:=cu1 hf
    exact⟨by simpa using h1,by simp only[List.take_succ_cons,ew4,hp,cI3,if_true];rw[h2]⟩
  ·rw[hp]at h
   simp only[if_true,aH8]at h
   subst h
   exact⟨by simp,by simp[hp]⟩
theorem dc1 {α:Type}{p:α->Bool}{l:List α}(h:l.findIdx? p=none):l.filter (fun y=>!p y)=l:=by
 rw[List.findIdx?_eq_none_iff]at h
 rw[fd7]
 intro y hy
 simp[h y hy]
theorem cM0 {α:Type}(s:List α)(i:Nat)(z:α)(hi:i<=s.length):ay6 (bI1 s (i:Int) (s.length:Int) z) 0 (i:Int)=some (s.take i):=by
 have e:bI1 s (i:Int) (s.length:Int) z=s.take i++cE8 (s.length-i) z:=by
  unfold bI1 au6
  simp only[eJ7,eH7]
  rw[List.drop_eq_nil_of_le (by omega),da6]
 have hl:(s.take i++cE8 (s.length-i) z).length=s.length:=by
  rw[ba3,bt6,eH7];omega
 rw[e]
 unfold ay6
 rw[if_pos ⟨by omega,by omega,by rw[hl];omega⟩]
 simp only[eJ7,Int.toNat_zero,List.drop_zero,Nat.sub_zero]
 rw[List.take_append_of_le_length (by rw[bt6];omega),List.take_take,Nat.min_self]
theorem del_eq (l:List A6)(hl:l.length<=1000000)(f:A6->Option Bool)(p:A6->Bool)(h:∀y∈l,f y=some (p y)):K8 l f=some (l.filter fun y=>!p y):=by
 unfold K8
 rw[find_eq l hl f p h]
 cases hf:l.findIdx? p with
 |none=>simp only[as5];rw[dc1 hf];rfl
 |some v=>
  obtain⟨hv,htk⟩:=cu1 hf
  simp only[as5]
  have e0:((v:Int)== -1)=false:=beq_eq_false_iff_ne.2 (by omega)
  rw[e0,j5 (n:=(v:Int)+1) (by omega) (by omega)]
  simp only[fh5]
  obtain⟨t,k1,k2⟩:=cv0 (mb:=at8 f)
   (fun j st=>∃i:Nat,st.1=(i:Int)/\st.2.1=((v+1+j:Nat):Int)/\i<v+1+j/\i=((l.take (v+1+j)).filter fun y=>!p y).length/\st.2.2.length=l.length/\st.2.2.take i=((l.take (v+1+j)).filter fun y=>!p y)/\st.2.2.drop (v+1+j)=l.drop (v+1+j))
   (fun t=>∃(s:List A6) (i:Nat),t= .inl ((i:Int),(l.length:Int),s)/\s.length=l.length/\i<=l.length/\s.take i=l.filter fun y=>!p y) (l.length-(v+1)) 0 ((v:Int),(v:Int)+1,l)
   ⟨v,rfl,by push_cast;omega,by omega,by rw[eb1,htk,bt6];omega,rfl,by rw[eb1,htk],rfl⟩
   (fun j _ hj st ⟨i,h1,h2,h3,h4,h5,h6,h7⟩=>by
    have hjl:v+1+j<l.length:=by omega
    have cX1:D4 st.2.2 st.2.1=some l[v+1+j]:=by
     rw[h2,T8,<-eH1,h7,eH1,aW9 hjl]
    have hlt:decide (st.2.1<(st.2.2.length:Int))=true:=by rw[h2,h5];simp;omega
    have htk2:l.take (v+1+(j+1))=l.take (v+1+j)++[l[v+1+j]]:=by rw[<-dK8];exact do9 hjl
    have hdr:∀s:List A6,s.drop (v+1+j)=l.drop (v+1+j)->s.drop (v+1+(j+1))=l.drop (v+1+(j+1)):=fun s hs=>by
     rw[<-dK8,<-ex6,hs,ex6]
    unfold at8
    rw[hlt,cX1]
    simp only[fh8,as5,h _ (bd2 hjl)]
    rw[h2,j5 (n:=((v+1+j:Nat):Int)+1) (by omega) (by omega)]
    cases hp:p l[v+1+j]
    ·have hi:i<st.2.2.length:=by omega
     simp only[cI3,fh8]
     rw[h1,C7 _ _ hi]
     simp only[as5]
     rw[T9 _ _ _ hi,j5 (n:=(i:Int)+1) (by omega) (by omega)]
     have hfl:((l.take (v+1+(j+1))).filter fun y=>!p y)=((l.take (v+1+j)).filter fun y=>!p y)++[l[v+1+j]]:=by
      rw[htk2,dK2];simp[hp]
     refine⟨_,rfl,i+1,by push_cast;rfl,by push_cast;omega,by omega,?_,by simp[h5],?_,?_⟩
     ·rw[hfl,ba3,<-h4];rfl
     ·rw[hfl,<-h6]
      rw[do9 (by simpa using hi),List.take_set_of_le (cv6 _),dN1]
     ·refine hdr _ ?_
      rw[List.drop_set_of_lt (by omega)];exact h7
    ·simp only[aX0,fh5]
     have hfl:((l.take (v+1+(j+1))).filter fun y=>!p y)=((l.take (v+1+j)).filter fun y=>!p y):=by
      rw[htk2,dK2];simp[hp]
     exact⟨_,rfl,i,h1,by push_cast;omega,by omega,by rw[hfl];exact h4,h5,by rw[hfl];exact h6,hdr _ h7⟩)
   (fun st ⟨i,h1,h2,h3,h4,h5,h6,h7⟩=>by
    have hn:v+1+(0+(l.length-(v+1)))=l.length:=by omega
    rw[hn]at h2 h3 h4 h6
    have hlt:decide (st.2.1<(st.2.2.length:Int))=false:=by rw[h2,h5];simp
    unfold at8
    rw[hlt]
    simp only[fh5]
    refine⟨_,rfl,st.2.2,i,?_,h5,by omega,by rw[h6,ey1]⟩
    rw[h1,h2])
  obtain⟨s,i,rfl,hs,hi,ht⟩:=k2
  rw[k1]
  simp only[as5]
  have hc:ck3 (i:Int) (s.length:Int) s.length=some ():=by unfold ck3;rw[if_pos ⟨by omega,by omega,by omega⟩]
  rw[hc]
  simp only[as5]
  have hsl:ay6 (bI1 s (i:Int) (s.length:Int) (⟨(⟨0,0,0,0⟩:B6),0,false,0⟩:A6)) 0 (i:Int)=some (s.take i):=cM0 s i _ (by omega)
  rw[hsl,ht]
  rfl
def bD7 (at_:Int)(j:A6):Bool:=j.E0&&(j.At==at_)
theorem em3 (l:List A6)(hl:l.length<=1000000)(at_:Int):K8 l (fun x0=>an8 x0 at_)=some (l.filter fun j=>!bD7 at_ j):=
 del_eq l hl _ (bD7 at_) (fun _ _=>rfl)
def cC6 (at_:Int)(u:List j9×List A6):List j9×List A6:=(u.1.map (Tm.bG6 at_),u.2.filter fun j=>!bD7 at_ j)
theorem cy1:∀{l:List A6}{lv:Bool},alt l lv=true->∀k∈l,k.E0=false
 |[],lv,_,k,hk=>by simp at hk
 |j::r,lv,h,k,hk=>by
  simp only[alt,aI0,bY2]at h
  rcases bZ8.1 hk with rfl|hk
  ·exact h.1.2
  ·exact cy1 h.2 k hk
theorem ey9 {l:List A6}{lv:Bool}(h:alt l lv=true):aI2 l ⟨false,0,false,lv⟩=true:=by
 cases l with
 |nil=>simpa[aI2,alt]using h
 |cons j r=>
  simp only[alt,aI0,bY2]at h
  simp[aI2,h.1.1,h.1.2,h.2]
theorem cO1 {l:List A6}(at_:Int)(h:∀k∈l,k.E0=false):(l.filter fun j=>!bD7 at_ j)=l:=by
 rw[fd7]
 intro k hk
 simp[bD7,h k hk]
theorem cB0 (l:List A6)(c at_:Int):aq7 (l.filter fun j=>!bD7 at_ j) c=(aq7 l c).filter fun j=>!bD7 at_ j:=by
 unfold aq7
 rw[List.filter_filter,List.filter_filter]
 congr 1
 funext j
 exact Bool.and_comm _ _
theorem eF3 {l:List A6}{x:j9}{at_:Int}(h:aI2 l x=true)(cu6:x.E0=true->at_<=x.At):aI2 (l.filter fun j=>!bD7 at_ j) (Tm.bG6 at_ x)=true:=by
 cases l with
 |nil=>
  simp only[aI2,aI0,bY2]at h
  have:Tm.bG6 at_ x=x:=by unfold Tm.bG6 Tm.due;rw[h.2];rfl
  rw[this]
  simp[aI2,h.1,h.2]
 |cons j r=>
  have h':=h
  simp only[aI2,aI0,bY2,cH8,beq_iff_eq]at h
  obtain⟨⟨⟨h1,h2⟩,h3⟩,h4⟩:=h
  have hr:=cO1 at_ (cy1 h4)
  cases hx:x.E0
  ·have hj:j.E0=false:=by rw[h2];exact hx
   have e1:Tm.bG6 at_ x=x:=by unfold Tm.bG6 Tm.due;rw[hx];rfl
   have e2:bD7 at_ j=false:=by unfold bD7;rw[hj];rfl
   rw[e1,ew4,e2]
   simp only[cI3,if_true]
   rw[hr];exact h'
  ·have hj:j.E0=true:=by rw[h2];exact hx
   have h3':j.At=x.At/\x.Next= !x.K1:=by
    rcases h3 with h3|h3
    ·rw[hj]at h3;cases h3
    ·exact h3
   have hm:=cu6 hx
   by_cases ha:x.At=at_
   ·have e1:Tm.bG6 at_ x=⟨false,0,false,!x.K1⟩:=by
     unfold Tm.bG6 Tm.due
     have:decide (x.At>at_)=false:=by simp;omega
     rw[hx,this,h3'.2];rfl
    have e2:bD7 at_ j=true:=by unfold bD7;rw[hj,h3'.1,ha];simp
    rw[e1,ew4,e2]
    simp only[aX0,do2,if_false]
    rw[hr];exact ey9 h4
   ·have e1:Tm.bG6 at_ x=x:=by
     unfold Tm.bG6 Tm.due
     have:decide (x.At>at_)=true:=by simp;omega
     rw[hx,this];rfl
    have e2:bD7 at_ j=false:=by unfold bD7;rw[hj,h3'.1];simp[ha]
    rw[e1,ew4,e2]
    simp only[cI3,if_true]
    rw[hr];exact h'
theorem ef1 {n:Nat}{now at_:Int}{u:List j9×List A6}(h:Rows n now u)(h0:0<=now)(h1:now<at_)(h2:at_<=1099511627776)(hn:1<=n)(hn8:n<=8)(cu6:∀x∈u.1,x.E0=true->at_<=x.At):Rows n at_ (cC6 at_ u):=by
 have ht:=cH9 h h0 (by omega) hn hn8
 have ht2:=Tm.ev7 (L9:=at_) ht (by simp only;omega) (by omega)
 refine⟨by simp[cC6,h.len],?_,fun j hj=>h.job j (dM6.1 hj).1,fun c hc=>?_⟩
 ·unfold Tm.ae0 at ht2
  simp only[aI0,bx8]at ht2
  exact ht2.2
 ·have hc':c<u.1.length:=by simpa[cC6]using hc
  simp only[cC6,List.getElem_map]
  rw[cB0]
  exact eF3 (h.row c hc') (cu6 _ (bd2 hc'))
theorem ez8 {now at_:Int}{l:List A6}(h:bt8 now l=true)(hle:now<=at_):bt8 at_ (l.filter fun j=>!bD7 at_ j)=true:=by
 match l,h with
 |[],_=>rfl
 |[j],h=>
  rw[ew4]
  cases bD7 at_ j
  ·simp only[cI3,if_true,eK7]
   simp only[bt8,aI0,fi2]at h|-
   exact⟨h.1,by omega⟩
  ·rfl
 |i::j::r,h=>simp[bt8]at h
theorem dp1 {n:Nat}{now at_:Int}{u:List j9×List A6}(h:Rows n now u){x:j9}(hx:x∈u.1)(ha:x.E0=true)(hat:x.At=at_):(cC6 at_ u).2.length<u.2.length:=by
 obtain⟨c,hc,rfl⟩:=cW9.1 hx
 have hr:=h.row c hc
 cases hm:aq7 u.2 (c:Int)with
 |nil=>rw[hm]at hr;simp[aI2,ha]at hr
 |cons j r=>
  rw[hm]at hr
  simp only[aI2,aI0,bY2,cH8,beq_iff_eq]at hr
  obtain⟨⟨⟨_,h2⟩,h3⟩,_⟩:=hr
  have hj:j.E0=true:=by rw[h2];exact ha
  have h3':j.At=u.1[c].At:=by
   rcases h3 with h3|h3
   ·rw[hj]at h3;cases h3
   ·exact h3.1
  have hjm:j∈u.2:=by
   have:j∈aq7 u.2 (c:Int):=by rw[hm];exact bN7 ..
   exact(dM6.1 this).1
  have hd:bD7 at_ j=true:=by unfold bD7;rw[hj,h3',hat];simp
  unfold cC6
  exact List.length_filter_lt_length_iff_exists.2 ⟨j,hjm,by simp[hd]⟩
structure Live (n:Nat)(s:j1):Prop where
 eng:n=s.u7.A3.length
 n1:1<=n
 n8:n<=8
 rows:Rows n s.k6.V0 (s.k6.j3,s.H3)
 cut:s.Cut=true->∀c,c<s.k6.j3.length->bt8 s.k6.V0 (aq7 s.H3 (c:Int))=true
 cF3:0<=s.k6.V0
 dl7:s.k6.V0<=1099511627776
 clk:(s.B1.X5=false/\s.H3=[])\/(s.B1.X5=true/\bB8 s.B1)
 most:s.H3.length<=1000
theorem Live.tim {n:Nat}{s:j1}(h:Live n s):Tm.ae0 s.k6=true:=cH9 h.rows h.cF3 h.dl7 h.n1 h.n8
theorem Live.len {n:Nat}{s:j1}(h:Live n s):s.k6.j3.length=2*n:=h.rows.len
theorem Live.of {s:j1}(h:aN2 s):Live s.u7.A3.length s:=by
 have ht:=Tm.bF5 h.tim
 refine⟨rfl,h.eng.1,h.eng.2.1,⟨h.chs,?_,h.job,fun c hc=>?_⟩,fun aI1 c hc=>?_,ht.2.2.1,ht.2.2.2,?_,Nat.le_trans h.most (by decide)⟩
 ·have:=h.tim
  unfold Tm.ae0 at this
  simp only[aI0,bx8]at this
  exact this.2
 ·have:=h.line c hc
  unfold bE7 at this
  simp only[aI0]at this
  exact this.1
 ·have:=h.line c hc
  unfold bE7 at this
  rw[aI1]at this
  simp only[aX0,ec9,aI0]at this
  exact this.2
 ·cases hv:s.B1.X5
  ·exact .inl ⟨rfl,h.none hv⟩
  ·exact .inr ⟨rfl,db0 h.clk hv⟩
def stepG (at_:Int)(s:j1):j1:=bM4 (put s at_ (cC6 at_ (s.k6.j3,s.H3)))
def goV (to:Int):Nat->List j6×j1->List j6×j1
 |0,u=>u
 |f+1,u=>if(Tm.nxV u.2.k6.j3).2=true/\(Tm.nxV u.2.k6.j3).1<=to then goV to f (u.1++Tm.cI7 (Tm.nxV u.2.k6.j3).1 u.2.k6.j3,stepG (Tm.nxV u.2.k6.j3).1 u.2)else u
structure Alike (s t:j1):Prop where
 eng:t.u7=s.u7
 clk:t.B1=s.B1
 next:t.Next=s.Next
 cut:t.Cut=s.Cut
theorem Alike.refl (s:j1):Alike s s:=⟨rfl,rfl,rfl,rfl⟩
theorem Alike.trans {s t u:j1}(h:Alike s t)(k:Alike t u):Alike s u:=⟨k.eng.trans h.eng,k.clk.trans h.clk,k.next.trans h.next,k.cut.trans h.cut⟩
theorem cr0 (s:j1)(now:Int)(u:List j9×List A6):Alike s (put s now u):=⟨rfl,rfl,rfl,rfl⟩
theorem cq9 (s:j1):Alike s (bM4 s):=by unfold bM4;split;exact .refl s;exact cr0 ..
theorem dD2 (at_:Int)(s:j1):Alike s (stepG at_ s):=(cr0 ..).trans (cq9 _)
theorem dp9 {n:Nat}{s:j1}(h:Live n s):Live n (bM4 s):=by
 unfold bM4
 cases aI1:s.Cut
 ·simp only[do2,if_false]
  have hr:=cr1 (k:=s.B1) h.rows s.k6.j3.length
  refine⟨h.eng,h.n1,h.n8,hr,fun hc=>?_,h.cF3,h.dl7,?_,?_⟩
  ·have:s.Cut=true:=hc
   rw[aI1]at this;cases this
  ·rcases h.clk with⟨a,b⟩|h2
   ·left
    refine⟨a,?_⟩
    show(ca9 s.k6.V0 s.B1 s.k6.j3.length (s.k6.j3,s.H3)).2=[]
    rw[b,cJ1]
   ·exact .inr h2
  ·show(ca9 s.k6.V0 s.B1 s.k6.j3.length (s.k6.j3,s.H3)).2.length<=1000
   rw[bC1];exact h.most
 ·simp only[if_true];exact h
theorem dy0 {n:Nat}{s:j1}(h:Live n s){at_:Int}(h1:s.k6.V0<at_)(h2:at_<=1099511627776)(cu6:∀x∈s.k6.j3,x.E0=true->at_<=x.At):Live n (put s at_ (cC6 at_ (s.k6.j3,s.H3))):=by
 have hr:=ef1 h.rows h.cF3 h1 h2 h.n1 h.n8 cu6
 refine⟨h.eng,h.n1,h.n8,hr,fun hc c hcl=>?_,by have:=h.cF3;show 0<=at_;omega,h2,?_,?_⟩
 ·show bt8 at_ (aq7 (s.H3.filter fun j=>!bD7 at_ j) (c:Int))=true
  rw[cB0]
  exact ez8 (h.cut hc c (by simpa[put,cC6]using hcl)) (by omega)
 ·rcases h.clk with⟨a,b⟩|h2
  ·left
   refine⟨a,?_⟩
   show(s.H3.filter fun j=>!bD7 at_ j)=[]
   rw[b];rfl
  ·exact .inr h2
 ·exact Nat.le_trans (List.length_filter_le ..) h.most
theorem ep7 {n:Nat}{s:j1}(h:Live n s)(hn:(Tm.nxV s.k6.j3).2=true):s.k6.V0<(Tm.nxV s.k6.j3).1/\(Tm.nxV s.k6.j3).1<=1099511627776/\(∀x∈s.k6.j3,x.E0=true->(Tm.nxV s.k6.j3).1<=x.At):=by
 obtain⟨x,hx,ha,hat⟩:=Tm.cQ5 hn
 have:=Tm.da7 (h.rows.ch x hx) ha
 exact⟨by omega,by omega,fun y hy hya=>(Tm.cv2 hy hya).2⟩
theorem eb6 {n:Nat}{s:j1}(h:Live n s)(hn:(Tm.nxV s.k6.j3).2=true):Live n (stepG (Tm.nxV s.k6.j3).1 s):=by
 obtain⟨h1,h2,h3⟩:=ep7 h hn
 exact dp9 (dy0 h h1 h2 h3)
theorem eu4 (at_:Int)(s:j1):(stepG at_ s).k6.V0=at_:=by unfold stepG bM4;split<;>rfl
theorem eb5 (at_:Int)(s:j1):(stepG at_ s).H3.length=(cC6 at_ (s.k6.j3,s.H3)).2.length:=by
 unfold stepG bM4
 split
 ·rfl
 ·show(ca9 _ _ _ _).2.length=_
  rw[bC1];rfl
theorem eB7 {n:Nat}{s:j1}(h:Live n s)(to:Int)(out:List j6)(ho:out.length<=100000)(hn:(Tm.nxV s.k6.j3).2=true)(hto:(Tm.nxV s.k6.j3).1<=to):
  Y5 to (out,s)=some (.inl (out++Tm.cI7 (Tm.nxV s.k6.j3).1 s.k6.j3,stepG (Tm.nxV s.k6.j3).1 s))/\
  True:=by
 obtain⟨h1,h2,h3⟩:=ep7 h hn
 have au1:=dy0 h h1 h2 h3
 have hlen:=h.len
 have hn8:=h.n8
 have hal:(Tm.cI7 (Tm.nxV s.k6.j3).1 s.k6.j3).length<=16:=by have:=Tm.dp0 (Tm.nxV s.k6.j3).1 s.k6.j3;omega
 have et:(⟨s.k6.V0,s.k6.j3⟩:u9)=s.k6:=rfl
 have hg:decide ((Tm.nxV s.k6.j3).1>to)=false:=by simp;omega
 have ha1:decide ((Tm.nxV s.k6.j3).1<s.k6.V0)=false:=by simp;omega
 have ha2:decide ((Tm.nxV s.k6.j3).1>Tm.cC5)=false:=by unfold Tm.cC5;simp;omega
 have hj:=h.most
 constructor
 ·unfold Y5
  try simp only[et]
  rw[Tm.dP6,h.tim]
  simp only[fh8,as5,hn,hg,aX0,eO7,fh5]
  rw[Tm.ef0,h.tim,ha1,ha2]
  simp only[aX0,fh5,as5]
  rw[H7 _ _ (by omega),em3 _ (by omega)]
  simp only[as5]
  have:=dQ9 (s:=put s (Tm.nxV s.k6.j3).1 (cC6 (Tm.nxV s.k6.j3).1 (s.k6.j3,s.H3))) au1.rows (by rcases au1.clk with⟨_,b⟩|⟨_,b⟩;exact .inl b;exact .inr b) au1.cF3 au1.dl7 h.n1 h.n8 (by have:=au1.most;omega)
  unfold put cC6 at this
  simp only at this
  rw[this]
  rfl
 ·trivial
theorem em4 {n:Nat}{s:j1}(h:Live n s)(to:Int)(out:List j6)(hno:¬((Tm.nxV s.k6.j3).2=true/\(Tm.nxV s.k6.j3).1<=to)):
  Y5 to (out,s)=some (.inr (.inl (out,s)))/\True:=by
 have et:(⟨s.k6.V0,s.k6.j3⟩:u9)=s.k6:=rfl
 have hlen:=h.len
 have hn8:=h.n8
 have hb:(!(Tm.nxV s.k6.j3).2||decide ((Tm.nxV s.k6.j3).1>to))=true:=by
  cases hn:(Tm.nxV s.k6.j3).2
  ·rfl
  ·simp only[aX0,ec9,fi2]
   by_cases h5:(Tm.nxV s.k6.j3).1<=to
   ·exact absurd ⟨hn,h5⟩ hno
   ·omega
 constructor
 ·unfold Y5
  try simp only[et]
  rw[Tm.dP6,h.tim]
  simp only[fh8,as5,hb]
 ·trivial
theorem em5 (to:Int){n:Nat}:∀(f:Nat) (s:j1) (out:List j6),Live n s->s.H3.length<=f->out.length+16*f<=100000->s.k6.V0<=to->
  L7 (Y5 to) (out,s)=some (.inl (goV to f (out,s)))/\True/\Live n (goV to f (out,s)).2/\Alike s (goV to f (out,s)).2/\(goV to f (out,s)).2.k6.V0<=to/\
   (∀x∈(goV to f (out,s)).2.k6.j3,x.E0=true->to<x.At)/\(goV to f (out,s)).1.length<=out.length+16*f/\(goV to f (out,s)).2.H3.length<=s.H3.length:=by
 intro f
 induction f with
 |zero=>
  intro s out h hj ho ht
  have hno:¬((Tm.nxV s.k6.j3).2=true/\(Tm.nxV s.k6.j3).1<=to):=by
   rintro⟨h1,_⟩
   obtain⟨x,hx,ha,hat⟩:=Tm.cQ5 h1
   have:=dp1 h.rows hx ha hat
   simp only at this
   omega
  obtain⟨e1,e2⟩:=em4 h to out hno
  refine⟨D9 e1,trivial,h,.refl s,ht,fun x hx ha=>?_,by simp[goV],cv6 _⟩
  obtain⟨a,b⟩:=Tm.cv2 hx ha
  by_cases h5:to<x.At
  ·exact h5
  ·have b':(Tm.nxV s.k6.j3).1<=x.At:=b
   exact absurd ⟨a,by omega⟩ hno
 |succ f ih=>
  intro s out h hj ho ht
  by_cases hy:(Tm.nxV s.k6.j3).2=true/\(Tm.nxV s.k6.j3).1<=to
  ·obtain⟨e1,e2⟩:=eB7 h to out (by omega) hy.1 hy.2
   have hlen:=h.len
   have hn8:=h.n8
   have hal:(Tm.cI7 (Tm.nxV s.k6.j3).1 s.k6.j3).length<=16:=by have:=Tm.dp0 (Tm.nxV s.k6.j3).1 s.k6.j3;omega
   obtain⟨x,hx,ha,hat⟩:=Tm.cQ5 hy.1
   have hless:=dp1 h.rows hx ha hat
   simp only at hless
   have hsj:=eb5 (Tm.nxV s.k6.j3).1 s
   obtain⟨r1,r2,r3,r4,r5,r6,r7,r8⟩:=ih (stepG (Tm.nxV s.k6.j3).1 s) (out++Tm.cI7 (Tm.nxV s.k6.j3).1 s.k6.j3) (eb6 h hy.1) (by omega) (by rw[ba3];omega) (by rw[eu4];exact hy.2)
   have eg:goV to (f+1) (out,s)=goV to f (out++Tm.cI7 (Tm.nxV s.k6.j3).1 s.k6.j3,stepG (Tm.nxV s.k6.j3).1 s):=by
    show(if _ then _ else _)=_
    rw[if_pos hy]
   rw[eg,G8 e1]
   refine⟨r1,r2,r3,(dD2 _ s).trans r4,r5,r6,by rw[ba3]at r7;omega,by omega⟩
  ·obtain⟨e1,e2⟩:=em4 h to out hy
   have eg:goV to (f+1) (out,s)=(out,s):=by
    show(if _ then _ else _)=_
    rw[if_neg hy]
   rw[eg]
   refine⟨D9 e1,trivial,h,.refl s,ht,fun x hx ha=>?_,by simp only;omega,cv6 _⟩
   obtain⟨a,b⟩:=Tm.cv2 hx ha
   by_cases h5:to<x.At
   ·exact h5
   ·have b':(Tm.nxV s.k6.j3).1<=x.At:=b
    exact absurd ⟨a,by omega⟩ hy
def goE (to:Int)(s:j1):List j6×j1:=((goV to s.H3.length ([],s)).1,put (goV to s.H3.length ([],s)).2 to ((goV to s.H3.length ([],s)).2.k6.j3,(goV to s.H3.length ([],s)).2.H3))
theorem dH0 {n:Nat}{s:j1}(h:Live n s){to:Int}(h1:s.k6.V0<=to)(h2:to<=1099511627776)(hno:∀x∈s.k6.j3,x.E0=true->to<x.At):Live n (put s to (s.k6.j3,s.H3)):=by
 refine⟨h.eng,h.n1,h.n8,⟨h.rows.len,fun x hx=>?_,h.rows.job,h.rows.row⟩,fun hc c hcl=>?_,by have:=h.cF3;show 0<=to;omega,h2,h.clk,h.most⟩
 ·have:=h.rows.ch x hx
  show Tm.chB to x=true
  unfold Tm.chB at this|-
  cases ha:x.E0
  ·rw[ha]at this;exact this
  ·rw[ha]at this
   have h5:=hno x hx ha
   simp only[fh8,bY2,bG1,fi3]at this|-
   omega
 ·have:=h.cut hc c hcl
  show bt8 to (aq7 s.H3 (c:Int))=true
  match hm:aq7 s.H3 (c:Int)with
  |[]=>rfl
  |[j]=>
   rw[hm]at this
   simp only[bt8,aI0,fi2]at this|-
   exact⟨this.1,by omega⟩
  |i::j::r=>rw[hm]at this;simp[bt8]at this
theorem dH8 {to:Int}{l:List j9}(h:∀x∈l,x.E0=true->to<x.At):∀c∈l,Tm.due to c=false:=by
 intro c hc
 unfold Tm.due
 cases ha:c.E0
 ·rfl
 ·have:=h c hc ha
  simp;omega
theorem cH3 {n:Nat}{s:j1}(h:Live n s)(to:Int)(h1:s.k6.V0<=to)(h2:to<=1099511627776):ab7 s to=some (goE to s)/\Live n (goE to s).2/\Alike s (goE to s).2/\(goE to s).2.k6.V0=to/\(goE to s).2.H3.length<=s.H3.length/\(∀x∈(goE to s).2.k6.j3,x.E0=true->to<x.At):=by
 have hm:=h.most
 obtain⟨r1,r2,r3,r4,r5,r6,r7,r8⟩:=em5 to s.H3.length s [] h (cv6 _) (by simp;omega) h1
 have hd:=Tm.ep6 (dH8 r6)
 refine⟨?_,dH0 r3 r5 h2 r6,r4.trans (cr0 ..),rfl,r8,r6⟩
 unfold ab7
 rw[r1]
 simp only[as5]
 unfold goE
 generalize goV to s.H3.length ([],s)=u at r3 r5 r6 hd r7
 have et:(⟨u.2.k6.V0,u.2.k6.j3⟩:u9)=u.2.k6:=rfl
 have ha1:decide (to<u.2.k6.V0)=false:=by simp;omega
 have ha2:decide (to>Tm.cC5)=false:=by unfold Tm.cC5;simp;omega
 try rw[et]
 rw[Tm.ef0,r3.tim,ha1,ha2]
 simp only[aX0,fh5,as5]
 rw[hd.1,hd.2,H7 _ _ (by simp at r7|-;omega)]
 simp only[as5,da6]
 rfl
theorem ff2 (s:j1)(h1:s.u7.A3.length<=1000)(h2:s.k6.j3.length<=1000)(h3:s.Next.length<=1000000)(h4:s.H3.length<=1000000):bz3 s=some s:=by
 unfold bz3
 rw[H7 _ _ (by simp;omega),Tm.copy_eq _ h2,H7 _ _ (by simp;omega),H7 _ _ (by simp;omega)]
 rfl
theorem bD6 (s:j1)(h3:s.Next.length<=1000000)(h4:s.H3.length<=1000000):L3 s=some s:=by
 unfold L3 aj8 U0
 rw[H7 _ _ (by simp;omega),H7 _ _ (by simp;omega)]
 rfl
section
variable {α β:Type}
def cn0 (gt:α->α->Bool)(x:α)(l:List α):Nat->Nat
 |0=>0
 |k+1=>match l[k]?with|some y=>if gt y x then cn0 gt x l k else k+1|none=>k+1
def bJ3 (gt:α->α->Bool)(l:List α)(x:α):List α:=l.take (cn0 gt x l l.length)++x::l.drop (cn0 gt x l l.length)
theorem eq8 (gt:α->α->Bool)(x:α)(l:List α){k:Nat}(h:k<l.length):cn0 gt x l (k+1)=if gt l[k] x then cn0 gt x l k else k+1:=by
 rw[cn0,aW9 h]
theorem bV5 (gt:α->α->Bool)(l:List α)(x:α):(bJ3 gt l x).Perm (x::l):=by
 unfold bJ3
 refine List.perm_middle.trans ?_
 rw[List.take_append_drop]
theorem cO3 (gt:α->α->Bool):∀(r l:List α),(r.foldl (bJ3 gt) l).Perm (l++r)
 |[],l=>by simp
 |x::r,l=>by
  refine(cO3 gt r (bJ3 gt l x)).trans ?_
  refine((bV5 gt l x).append_right r).trans ?_
  exact List.perm_middle.symm
theorem dQ0 (f:α->β){gt:α->α->Bool}{gt':β->β->Bool}(x:α)(l:List α)(h:∀y∈l,gt' (f y) (f x)=gt y x):∀k,cn0 gt' (f x) (l.map f) k=cn0 gt x l k
 |0=>rfl
 |k+1=>by
  unfold cn0
  rw[cV2]
  cases hk:l[k]?with
  |none=>rfl
  |some y=>
   simp only[bZ7]
   rw[h y (do0 hk),dQ0 f x l h k]
theorem eC3 (f:α->β){gt:α->α->Bool}{gt':β->β->Bool}(x:α)(l:List α)(h:∀y∈l,gt' (f y) (f x)=gt y x):bJ3 gt' (l.map f) (f x)=(bJ3 gt l x).map f:=by
 unfold bJ3
 rw[cV3,dQ0 f x l h,eL2,cV4,List.map_take,List.map_drop]
theorem fold_map (f:α->β){gt:α->α->Bool}{gt':β->β->Bool}(Q:α->Prop)(h:∀x y,Q x->Q y->gt' (f y) (f x)=gt y x):∀(r l:List α),(∀x∈l,Q x)->(∀x∈r,Q x)->(r.map f).foldl (bJ3 gt') (l.map f)=(r.foldl (bJ3 gt) l).map f
 |[],l,_,_=>rfl
 |x::r,l,hl,hr=>by
  rw[cV4,ex7,ex7,eC3 f x l (fun y hy=>h x y (hr x (bN7 ..)) (hl y hy))]
  refine fold_map f Q h r _ (fun y hy=>?_) (fun y hy=>hr y (bY1 _ hy))
  rcases bZ8.1 ((bV5 gt l x).mem_iff.1 hy)with rfl|h2
  ·exact hr _ (bN7 ..)
  ·exact hl _ h2
theorem dO1 (a b:List α)(x:α):D4 (a++x::b) (a.length:Int)=some x:=by
 rw[T8,List.getElem?_append_right (cv6 _),Nat.sub_self];rfl
theorem es8 (a b:List α)(x z:α):an9 (a++x::b) (a.length:Int) z=some (a++z::b):=by
 rw[T9 _ _ _ (by simp)]
 rw[List.set_append_right _ _ (cv6 _),Nat.sub_self];rfl
end
section
variable {cmp:c8 -> c8 -> Option Int} {gt:c8 -> c8 -> Bool} {Q:c8 -> Prop}
theorem cB5 (hc:∀x y,Q x->Q y->∃c,cmp x y=some c/\decide (c<0)=gt y x)(x:c8)(P R:List c8)(hP:∀y∈P,Q y)(hx:Q x)(hl:P.length<=1000000):∀j,j<=P.length->
  L7 (C0 0 cmp) ((j:Int),P.take j++x::(P.drop j++R))=some (.inl ((cn0 gt x P j:Int),P.take (cn0 gt x P j)++x::(P.drop (cn0 gt x P j)++R)))
 |0,_=>by
  refine D9 ?_
  unfold C0
  rfl
 |j+1,hj=>by
  have hjl:j<P.length:=by omega
  have e1:P.take (j+1)=P.take j++[P[j]]:=do9 hjl
  have e2:P.drop j=P[j]::P.drop (j+1):=List.drop_eq_getElem_cons hjl
  have la:(P.take j).length=j:=by rw[bt6];omega
  have lb:(P.take j++[P[j]]).length=j+1:=by rw[ba3,la];rfl
  obtain⟨c,hc1,hc2⟩:=hc x P[j] hx (hP _ (bd2 hjl))
  have d1:P.take (j+1)++x::(P.drop (j+1)++R)=P.take j++P[j]::(x::(P.drop (j+1)++R)):=by rw[e1,do3];rfl
  have g0:D4 (P.take (j+1)++x::(P.drop (j+1)++R)) ((j+1:Nat):Int)=some x:=by
   have:=dO1 (P.take j++[P[j]]) (P.drop (j+1)++R) x
   rw[lb]at this
   rw[e1];exact this
  have g1:D4 (P.take (j+1)++x::(P.drop (j+1)++R)) (j:Int)=some P[j]:=by
   have:=dO1 (P.take j) (x::(P.drop (j+1)++R)) P[j]
   rw[la]at this
   rw[d1];exact this
  have s0:an9 (P.take (j+1)++x::(P.drop (j+1)++R)) ((j+1:Nat):Int) P[j]=some (P.take j++P[j]::(P[j]::(P.drop (j+1)++R))):=by
   have:=es8 (P.take j++[P[j]]) (P.drop (j+1)++R) x P[j]
   rw[lb]at this
   rw[e1,this,do3];rfl
  have g2:D4 (P.take j++P[j]::(P[j]::(P.drop (j+1)++R))) (j:Int)=some P[j]:=by
   have:=dO1 (P.take j) (P[j]::(P.drop (j+1)++R)) P[j]
   rw[la]at this;exact this
  have s1:an9 (P.take j++P[j]::(P[j]::(P.drop (j+1)++R))) (j:Int) x=some (P.take j++x::(P.drop j++R)):=by
   have:=es8 (P.take j) (P[j]::(P.drop (j+1)++R)) P[j] x
   rw[la]at this
   rw[this,e2];rfl
  have ew:j7 (((j+1:Nat):Int)-1)=(j:Int):=by rw[j5 (by omega) (by omega)];omega
  have e0:decide (((j+1:Nat):Int)>0)=true:=fi0 (by omega)
  have hb:C0 0 cmp (((j+1:Nat):Int),P.take (j+1)++x::(P.drop (j+1)++R))=some (bif gt P[j] x then .inl ((j:Int),P.take j++x::(P.drop j++R))else .inr (.inl (((j+1:Nat):Int),P.take (j+1)++x::(P.drop (j+1)++R)))):=by
   unfold C0
   simp only[e0,fh8,ew,g0,g1,as5,hc1,hc2]
   cases gt P[j] x
   ·rfl
   ·simp only[fh8,s0,g2,s1,as5]
  have ep:=eq8 gt x P hjl
  cases hg:gt P[j] x
  ·rw[hg]at hb ep
   simp only[do2,if_false]at ep
   rw[D9 hb,ep]
  ·rw[hg]at hb ep
   simp only[if_true]at ep
   rw[G8 hb,ep]
   exact cB5 hc x P R hP hx hl j (by omega)
theorem cB6 (hc:∀x y,Q x->Q y->∃c,cmp x y=some c/\decide (c<0)=gt y x)(n:Nat)(hn:n<=1000000):∀(R S:List c8),S.length+R.length=n->(∀y∈S,Q y)->(∀y∈R,Q y)->
  L7 (B2 0 (n:Int) cmp) ((S.length:Int),S++R)=some (.inl ((n:Int),R.foldl (bJ3 gt) S))
 |[],S,hl,hS,_=>by
  have:S.length=n:=by simpa using hl
  rw[this]
  refine D9 ?_
  unfold B2
  simp
 |x::R,S,hl,hS,hR=>by
  rw[br6]at hl
  have hin:=cB5 hc x S R hS (hR x (bN7 ..)) (by omega) S.length (cv6 _)
  rw[ey1,List.drop_length]at hin
  have e1:decide ((S.length:Int)<(n:Int))=true:=by simp;omega
  have ew:j7 ((S.length:Int)+1)=((S.length+1:Nat):Int):=by rw[j5 (by omega) (by omega)];omega
  have hin2:bJ3 gt S x++R=S.take (cn0 gt x S S.length)++x::(S.drop (cn0 gt x S S.length)++R):=by
   unfold bJ3;rw[do3];rfl
  have hb:B2 0 (n:Int) cmp ((S.length:Int),S++x::R)=some (.inl (((S.length+1:Nat):Int),bJ3 gt S x++R)):=by
   unfold B2
   simp only[e1,fh8]
   rw[show(S++x::R)=S++x::([]++R)from rfl,hin]
   simp only[as5,ew,hin2]
  rw[G8 hb]
  have hlen:(bJ3 gt S x).length=S.length+1:=by rw[(bV5 gt S x).length_eq];rfl
  have:=cB6 hc n hn R (bJ3 gt S x) (by omega) (fun y hy=>by
   rcases bZ8.1 ((bV5 gt S x).mem_iff.1 hy)with rfl|h2
   ·exact hR _ (bN7 ..)
   ·exact hS _ h2) (fun y hy=>hR y (bY1 _ hy))
  rw[hlen]at this
  exact this
theorem bW4 (hc:∀x y,Q x->Q y->∃c,cmp x y=some c/\decide (c<0)=gt y x)(l:List c8)(hl:l.length<=19)(hQ:∀y∈l,Q y):D0 l cmp=some (l.foldl (bJ3 gt) []):=by
 have hins:B0 l 0 (l.length:Int) cmp=some (l.foldl (bJ3 gt) []):=by
  unfold B0
  cases l with
  |nil=>
   rw[D9 (b:=.inl (1,[]))]
   ·rfl
   ·unfold B2;rfl
  |cons x R=>
   have:=cB6 hc (x::R).length (by omega) R [x] (by simp;omega) (fun y hy=>hQ y (by simp at hy;simp[hy])) (fun y hy=>hQ y (bY1 _ hy))
   rw[show j7 (0+1)=(([x].length:Nat):Int)from rfl]
   rw[show x::R=[x]++R from rfl]at this|-
   rw[this]
   rfl
 unfold D0 H0
 rw[D9 (b:=.inl (0,20,l)) (by unfold J9;rw[show decide ((20:Int)<=(l.length:Int))=false by simp;omega];rfl)]
 simp only[as5]
 rw[hins]
 simp only[as5]
 rw[D9 (b:=.inl (20,l.foldl (bJ3 gt) [])) (by unfold K0;rw[show decide ((20:Int)<(l.length:Int))=false by simp;omega];rfl)]
 rfl
end
def gtE (begin:Int)(y x:B6):Bool:=decide (dst begin x.H6<dst begin y.H6\/(dst begin x.H6=dst begin y.H6/\chn x<chn y))
def dl9 (begin:Int)(l:List B6):List B6:=l.foldl (bJ3 (gtE begin)) []
def plJ (begin:Int)(x:B6):c8:=⟨x,dst begin x.H6⟩
theorem cv5 (begin:Int)(l:List B6):(dl9 begin l).Perm l:=by
 have:=cO3 (gtE begin) l []
 simpa[dl9]using this
theorem da8 {x:B6}(h:Ev.evP x):H2 x=some (chn x)/\aR7 x=some (chn x):=by
 have:=cG6 (n:=8) (j:=⟨x,0,false,0⟩) ⟨h.2.2.1,h.2.1,h.1,h.2.2.2,by simp only;omega,.inr rfl⟩ (by omega)
 exact this
theorem eQ9 (a b:Int):af8 [a,b]=some (bif a !=0 then a else b):=by
 unfold af8
 rw[K6 _ (by simp)]
 simp only[L8,ao8]
 cases ha:a !=0
 ·cases hb:b !=0
  ·have:b=0:=by simpa using hb
   rw[this];rfl
  ·rfl
 ·rfl
theorem eE0 (begin:Int)(x y:B6)(hx:Ev.evP x)(hy:Ev.evP y):∃c,ad1 (plJ begin x) (plJ begin y)=some c/\decide (c<0)=gtE begin y x:=by
 unfold ad1 plJ
 simp only[cM3,(da8 hx).1,(da8 hy).1,as5,eQ9]
 refine⟨_,rfl,?_⟩
 unfold gtE
 rw[decide_eq_decide]
 rcases bh9 (dst begin x.H6) (dst begin y.H6)with⟨a,b⟩|⟨a,b⟩|⟨a,b⟩
 ·rw[b];simp[a]
 ·rw[b]
  rcases bh9 (chn x) (chn y)with⟨c,d⟩|⟨c,d⟩|⟨c,d⟩<;>rw[d]<;>simp<;>omega
 ·rw[b];simp;omega
theorem er0 (begin:Int)(l:List B6)(hl:l.length<=19)(hQ:∀x∈l,Ev.evP x):D0 (l.map (plJ begin)) ad1=some ((dl9 begin l).map (plJ begin)):=by
 have e:∀p:c8,(∃x,Ev.evP x/\p=plJ begin x)->p=plJ begin p.x:=by
  rintro p ⟨x,_,rfl⟩;rfl
 rw[bW4 (gt:=fun q p=>gtE begin q.x p.x) (Q:=fun p=>∃x,Ev.evP x/\p=plJ begin x)
  (fun p q ⟨x,hx,ex⟩ ⟨y,hy,ey⟩=>by subst ex ey;exact eE0 begin x y hx hy) _ (by rw[cV3];exact hl)
  (fun p hp=>by obtain⟨x,hx,rfl⟩:=cY4.1 hp;exact⟨x,hQ x hx,rfl⟩)]
 have:=fold_map (plJ begin) (gt:=gtE begin) (gt':=fun q p=>gtE begin q.x p.x) (fun _=>True) (fun _ _ _ _=>rfl) l [] (fun _ _=>trivial) (fun _ _=>trivial)
 rw[ep4]at this
 rw[this];rfl
theorem dN5 {e:o5}(h:aE1 e){c:Int}(hc:c∈e.A3):1<=c/\c<=(e.A3.length:Int):=h.2.2.2.2.1 c hc
theorem dF8 {e:o5}{f:A2}{t:Int}(he:aE1 e)(hf:bf0 e f):∀x∈evs e t f,Ev.evP x/\x.p7=f.p7:=by
 intro x hx
 unfold evs at hx
 obtain⟨o,ho,rfl⟩:=cY4.1 hx
 have hc:=dN5 he hf.1
 have hn:=he.2.1
 have hk:(1<=o.2.1/\o.2.1<=4)/\(0<=o.2.2/\o.2.2<=2):=by
  unfold dZ4 at ho
  simp only[dn9,bZ8,eT4,or_false]at ho
  rcases ho with(ho|ho)|ho
  ·rcases ho with rfl|rfl<;>simp
  ·cases h:decide (pul f>0)
   ·rw[h]at ho;simp at ho
   ·rw[h]at ho
    simp only[fh8,bZ8,eT4,or_false]at ho
    rcases ho with rfl|rfl<;>simp
  ·cases h:decide (pul f>1)
   ·rw[h]at ho;simp at ho
   ·rw[h]at ho
    simp only[fh8,bZ8,eT4,or_false]at ho
    rcases ho with rfl|rfl<;>simp
 refine⟨⟨?_,hk.1,?_,hk.2⟩,rfl⟩
 ·unfold evF;simp only;omega
 ·show 1<=f.p7/\f.p7<=8;omega
def kp (x:B6):Int×Int:=(x.Kind,x.aj0)
def eI1 (k:Int×Int):Bool:=k.1==1||k.1==2
def ew7 (k:Int×Int):Bool:=k.1==3||k.1==4
def cM1:List (Int×Int):=[(2,0),(1,0)]
def bp2 (n:Int):List (Int×Int):=(bif decide (n>0)then [(4,1),(3,1)]else [])++(bif decide (n>1)then [(3,2),(4,2)]else [])
theorem eO1 (e:o5)(f:A2)(t:Int):(evs e t f).map kp=cM1++bp2 (pul f):=by
 unfold evs
 rw[List.map_map]
 rcases bj2 f with h|h|h<;>(unfold dZ4;rw[h];rfl)
def dW7 (begin:Int):List B6->Int->Bool
 |[],_=>true
 |x::r,last=>decide (last<dst begin x.H6)&&dW7 begin r (dst begin x.H6)
def kpP (a b:Int):List (Int×Int)->Int->Int->Bool
 |[],_,_=>true
 |x::r,p,k=>(x.1==k)&&decide (p<=x.2)&&kpP a b r x.2 (a+b-k)
def kpR (c:Nat):List (Int×Int)->Nat->Bool
 |[],_=>true
 |x::r,i=>(onK x.1==(i%2==0))&&(x.2==(if c=0 then 0 else((i/2+1:Nat):Int)))&&kpR c r (i+1)
theorem ce7 (begin a b:Int):∀(l:List B6) (i last p k:Int),(k=a\/k=b)->(0<=a/\a<=10)->(0<=b/\b<=10)->
  ((dW7 begin (l.filter fun x=>x.Kind==a||x.Kind==b) last&&kpP a b ((l.filter fun x=>x.Kind==a||x.Kind==b).map kp) p k)=true/\∃s,L8 (V9 (a,b)) (l.map (plJ begin)) i (last,p,k)=some (.inl s))\/
  ((dW7 begin (l.filter fun x=>x.Kind==a||x.Kind==b) last&&kpP a b ((l.filter fun x=>x.Kind==a||x.Kind==b).map kp) p k)=false/\L8 (V9 (a,b)) (l.map (plJ begin)) i (last,p,k)=some (.inr ([],false)))
 |[],i,last,p,k,_,_,_=>.inl ⟨rfl,_,rfl⟩
 |x::l,i,last,p,k,hk,ha,hb=>by
  have ih:=fun i last p k hk=>ce7 begin a b l i last p k hk ha hb
  simp only[cV4,L8]
  have ew:j7 (j7 (a+b)-k)=a+b-k:=by
   rw[j5 (n:=a+b) (by omega) (by omega),j5 (by omega) (by omega)]
  cases hm:(x.Kind==a||x.Kind==b)
  ·rw[eY5 (by simp[hm])]
   have h1:((x.Kind !=a)&&(x.Kind !=b))=true:=by
    rw[bG1]at hm;simp only[bne,hm.1,hm.2];rfl
   have hst:V9 (a,b) i (plJ begin x) (last,p,k)=some (.next (last,p,k)):=by
    unfold V9 plJ
    simp only[h1,fh8]
   rw[hst]
   exact ih (i+1) last p k hk
  ·rw[dY9 (by simp[hm])]
   have h1:((x.Kind !=a)&&(x.Kind !=b))=false:=by
    cases e1:x.Kind==a
    ·rw[e1]at hm;simp only[ec9]at hm;simp[bne,hm]
    ·simp[bne,e1]
   have hst:V9 (a,b) i (plJ begin x) (last,p,k)=some (bif (((x.Kind !=k)||(decide (dst begin x.H6<=last)))||(decide (x.aj0<p)))then(.ret ([],false))else(.next (dst begin x.H6,x.aj0,a+b-k))):=by
    unfold V9 plJ
    simp only[h1,fh5,ew]
    exact da1 ..
   rw[hst]
   have hq:(((x.Kind !=k)||(decide (dst begin x.H6<=last)))||(decide (x.aj0<p)))= !(decide (last<dst begin x.H6)&&((x.Kind==k)&&decide (p<=x.aj0))):=by
    rw[show decide (dst begin x.H6<=last)= !decide (last<dst begin x.H6) by rw[<-decide_not];exact decide_eq_decide.2 (by omega),show decide (x.aj0<p)= !decide (p<=x.aj0) by rw[<-decide_not];exact decide_eq_decide.2 (by omega)]
    unfold bne
    cases x.Kind==k<;>cases decide (last<dst begin x.H6)<;>cases decide (p<=x.aj0)<;>rfl
   rw[hq]
   simp only[dW7,cV4,kpP,kp]
   cases hz:(decide (last<dst begin x.H6)&&((x.Kind==k)&&decide (p<=x.aj0)))
   ·right
    refine⟨?_,by simp only[cI3,fh8,as5]⟩
    cases h3:decide (last<dst begin x.H6)
    ·rfl
    ·rw[h3,cL7]at hz
     rw[hz];simp
   ·simp only[aX0,fh5,as5]
    simp only[aI0]at hz
    rw[hz.1,hz.2.1,hz.2.2]
    exact ih (i+1) (dst begin x.H6) x.aj0 (a+b-k) (by omega)
theorem eC6:∀{l:List (Int×Int)},l.Perm cM1->kpP 1 2 l 0 1=kpR 0 l 0:=by
 intro l h
 have hm:∀x∈l,x∈cM1:=fun x hx=>h.mem_iff.1 hx
 have hl:=h.length_eq
 match l,hl with
 |[a,b],_=>
  have ha:=hm a (by simp)
  have hb:=hm b (by simp)
  revert h
  have key:∀a∈cM1,∀b∈cM1,kpP 1 2 [a,b] 0 1=kpR 0 [a,b] 0:=by decide
  exact fun _=>key a ha b hb
theorem en9 (n:Int)(hn:n=0\/n=1\/n=2):∀{l:List (Int×Int)},l.Perm (bp2 n)->kpP 3 4 l 0 3=kpR 1 l 0:=by
 intro l h
 have hm:∀x∈l,x∈bp2 n:=fun x hx=>h.mem_iff.1 hx
 have hl:=h.length_eq
 rcases hn with rfl|rfl|rfl
 ·have:l=[]:=List.eq_nil_of_length_eq_zero (by rw[hl];rfl)
  subst this;rfl
 ·match l,hl with
  |[a,b],_=>
   have ha:=hm a (by simp)
   have hb:=hm b (by simp)
   have key:∀a∈bp2 1,∀b∈bp2 1,kpP 3 4 [a,b] 0 3=kpR 1 [a,b] 0:=by decide
   exact key a ha b hb
 ·match l,hl with
  |[a,b,c,d],_=>
   have ha:=hm a (by simp)
   have hb:=hm b (by simp)
   have hc:=hm c (by simp)
   have hd:=hm d (by simp)
   have key:∀a∈bp2 2,∀b∈bp2 2,∀c∈bp2 2,∀d∈bp2 2,[a,b,c,d].isPerm (bp2 2)=true->kpP 3 4 [a,b,c,d] 0 3=kpR 1 [a,b,c,d] 0:=by decide
   exact key a ha b hb c hc d hd (List.isPerm_iff.2 h)
def beg (e:o5)(c:Int):Int:=(cen e c+5760)%46080
theorem dM3 (e:o5)(c:Int):ca7 (beg e c)=true:=by unfold beg;exact bs5.2 (by omega)
theorem eh2 (e:o5)(c:Int):ed7 (j7 (cen e c+5760)) 46080=beg e c:=by
 have:=da4 e c
 rw[j5 (by omega) (by omega),do1 (by omega)];rfl
def isC (x:B6):Bool:=x.Kind==1||x.Kind==2
def isV (x:B6):Bool:=x.Kind==3||x.Kind==4
def dC6 (begin:Int)(W:List B6):Bool:=(dW7 begin (W.filter isC) (-1)&&kpP 1 2 ((W.filter isC).map kp) 0 1)&&(dW7 begin (W.filter isV) (-1)&&kpP 3 4 ((W.filter isV).map kp) 0 3)
def dB3 (e:o5)(f:A2)(begin t:Int):List B6:=bif (bf9 e [f] t).2 !=0 then []else bif dC6 begin (dl9 begin (bf9 e [f] t).1)then dl9 begin (bf9 e [f] t).1 else []
theorem dm4 {e:o5}{f:A2}{t:Int}(he:aE1 e)(hf:bf0 e f)(h:((bf9 e [f] t).2 !=0)=false):(bf9 e [f] t).1.Perm (evs e t f):=by
 unfold bf9 at h|-
 rw[fi0 he]at h|-
 simp only[aX0,fh5]at h|-
 cases h1:dU1 e [f]<;>rw[h1]at h
 ·simp only[fh5]at h|-
  cases h2:!ev5 t<;>rw[h2]at h
  ·simp only[fh5]at h|-
   cases h3:eA1 [f]<;>rw[h3]at h
   ·simp only[fh5]at h|-
    cases h4:[f].any (dk9 t)<;>rw[h4]at h
    ·simp only[fh5]
     have:=eu0 ([f].flatMap (evs e t))
     simpa using this
    ·simp at h
   ·simp at h
  ·simp at h
 ·simp at h
theorem cR5 (begin:Int)(hb:ca7 begin=true):∀(l:List B6) (i:Int) (out:List c8),(∀x∈l,Ev.evP x)->out.length+l.length<=1000->L8 (aj7 begin) l i out=some (.inl (out++l.map (plJ begin)))
 |[],i,out,_,_=>by simp[L8]
 |x::l,i,out,h,hl=>by
  rw[br6]at hl
  have hx:=h x (bN7 ..)
  have hst:aj7 begin i x out=some (.next (out++[plJ begin x])):=by
   unfold aj7
   rw[dj2 hb (bs5.2 hx.1)]
   simp only[as5]
   rw[H7 _ _ (by simp only[br6,cI2];omega)]
   rfl
  simp only[L8,hst,as5]
  rw[cR5 begin hb l (i+1) _ (fun y hy=>h y (bY1 _ hy)) (by simp only[ba3,br6,cI2];omega)]
  simp
theorem eM4 (begin:Int)(W:List B6)(hW:W.length<=1000):L7 (T7 (W.map (plJ begin))) 0=some (bif dC6 begin W then .inl 2 else .inr ([],false)):=by
 have hl:(W.map (plJ begin)).length<=1000:=by rw[cV3];exact hW
 have k0:=ce7 begin 1 2 W 0 (-1) 0 1 (.inl rfl) (by omega) (by omega)
 have k1:=ce7 begin 3 4 W 0 (-1) 0 3 (.inl rfl) (by omega) (by omega)
 have f0:(fun x:B6=>x.Kind==1||x.Kind==2)=isC:=rfl
 have f1:(fun x:B6=>x.Kind==3||x.Kind==4)=isV:=rfl
 rw[f0]at k0
 rw[f1]at k1
 unfold dC6
 rcases k0 with⟨a,s,b⟩|⟨a,b⟩
 ·rw[a]
  have st0:T7 (W.map (plJ begin)) 0=some (.inl 1):=by
   unfold T7
   rw[show D4 ([(1,2),(3,4)]:List (Int×Int)) 0=some (1,2)from rfl]
   simp only[show decide ((0:Int)<2)=true from rfl,fh8,as5]
   rw[K6 _ (by omega),b]
   rfl
  rw[G8 st0]
  rcases k1 with⟨c,s',d⟩|⟨c,d⟩
  ·rw[c]
   have st1:T7 (W.map (plJ begin)) 1=some (.inl 2):=by
    unfold T7
    rw[show D4 ([(1,2),(3,4)]:List (Int×Int)) 1=some (3,4)from rfl]
    simp only[show decide ((1:Int)<2)=true from rfl,fh8,as5]
    rw[K6 _ (by omega),d]
    rfl
   rw[G8 st1]
   exact D9 rfl
  ·rw[c]
   refine D9 ?_
   unfold T7
   rw[show D4 ([(1,2),(3,4)]:List (Int×Int)) 1=some (3,4)from rfl]
   simp only[show decide ((1:Int)<2)=true from rfl,fh8,as5]
   rw[K6 _ (by omega),d]
   rfl
 ·rw[a]
  refine D9 ?_
  unfold T7
  rw[show D4 ([(1,2),(3,4)]:List (Int×Int)) 0=some (1,2)from rfl]
  simp only[show decide ((0:Int)<2)=true from rfl,fh8,as5]
  rw[K6 _ (by omega),b]
  rfl
theorem et9 {e:o5}{f:A2}{begin t:Int}(he:aE1 e)(hf:bf0 e f)(hb:ca7 begin=true):∃b,ar5 e f begin t=some ((dB3 e f begin t).map (plJ begin),b)/\(b=false->dB3 e f begin t=[]):=by
 unfold ar5 dB3
 rw[eE3 e [f] t (by simp)]
 simp only[as5]
 cases h:(bf9 e [f] t).2 !=0
 ·have hp:=dm4 he hf h
  have hlen:=hp.length_eq
  have h6:=cH0 e t f
  have hQ:∀x∈(bf9 e [f] t).1,Ev.evP x:=fun x hx=>(dF8 he hf x (hp.mem_iff.1 hx)).1
  have hwl:=(cv5 begin (bf9 e [f] t).1).length_eq
  simp only[fh5]
  rw[K6 _ (by omega),cR5 begin hb _ 0 [] hQ (by simp only[cI2];omega)]
  simp only[as5,cV5]
  rw[er0 begin _ (by omega) hQ]
  simp only[as5]
  rw[eM4 begin _ (by omega)]
  cases dC6 begin (dl9 begin (bf9 e [f] t).1)
  ·exact⟨false,rfl,fun _=>rfl⟩
  ·exact⟨true,rfl,fun h=>by cases h⟩
 ·exact⟨false,rfl,fun _=>rfl⟩
theorem el3 {W:List B6}{cyl:Int}(h:∀x∈W,Ev.evP x/\x.p7=cyl):(W.filter fun x=>chn x==2*(cyl-1))=W.filter isC/\(W.filter fun x=>chn x==2*(cyl-1)+1)=W.filter isV:=by
 constructor
 ·refine List.filter_congr fun x hx=>?_
  obtain⟨hk,hc⟩:=h x hx
  unfold chn isC
  rw[hc]
  have:=hk.2.1
  by_cases h3:x.Kind=3\/x.Kind=4
  ·rw[if_pos h3,dG9];simp;omega
  ·rw[if_neg h3,dG9];simp;omega
 ·refine List.filter_congr fun x hx=>?_
  obtain⟨hk,hc⟩:=h x hx
  unfold chn isV
  rw[hc]
  have:=hk.2.1
  by_cases h3:x.Kind=3\/x.Kind=4
  ·rw[if_pos h3,dG9];simp;omega
  ·rw[if_neg h3,dG9];simp;omega
theorem dX3 {e:o5}{f:A2}{t:Int}{W:List B6}(hp:W.Perm (evs e t f)):((W.filter isC).map kp).Perm cM1/\((W.filter isV).map kp).Perm (bp2 (pul f)):=by
 have hm:(W.map kp).Perm (cM1++bp2 (pul f)):=by rw[<-eO1 e f t];exact hp.map kp
 have c1:(W.filter isC).map kp=(W.map kp).filter eI1:=by rw[fg2];rfl
 have c2:(W.filter isV).map kp=(W.map kp).filter ew7:=by rw[fg2];rfl
 rw[c1,c2]
 constructor
 ·refine(hm.filter eI1).trans ?_
  rcases bj2 f with h|h|h<;>(rw[h];exact List.Perm.refl _)
 ·refine(hm.filter ew7).trans ?_
  rcases bj2 f with h|h|h<;>(rw[h];exact List.Perm.refl _)
def dR8 (c:E3):Int:=upV (23040*c.F9) c.aa9
theorem ev6 {c:E3}(h:bB8 c)(hv:c.X5=true)(hb:bM9 c=true):aE7 c 23040=some (dR8 c,0):=by
 have h1:=h.p0;have h2:=h.p1;have h3:=h.s0;have h4:=h.s1
 unfold aE7 aK5
 rw[dE7,hb,hv]
 simp only[as5,aX0,fh5]
 rw[show((0:Int) !=0)=false from rfl,show((decide ((23040:Int)<0))||(decide ((23040:Int)>46080)))=false from rfl]
 simp only[fh5]
 rw[j5 (by omega) (by omega)]
 unfold bl7 am8
 rw[bW0 _ _ 2 (by omega) (by omega) (by omega) (by omega) (.inr rfl)]
 rfl
theorem bF9 {e:o5}{l:List A2}(h:aV9 e l=true):∀f∈l,bf0 e f:=by
 intro f hf
 obtain⟨i,hi,rfl⟩:=cW9.1 hf
 have:=ca4.1 h i hi
 unfold cx8 at this
 rw[aW9 hi]at this
 simp only[aI0,fi2]at this
 exact this.1
theorem cx9 {e:o5}{l:List A2}(h:aV9 e l=true):l.Pairwise fun a b=>a.p7≠b.p7:=by
 rw[List.pairwise_iff_getElem]
 intro i j hi hj hij
 have:=ca4.1 h j hj
 unfold cx8 at this
 rw[aW9 hj]at this
 simp only[aI0,bY2,dv4,beq_iff_eq]at this
 refine this.2 l[i] ?_
 rw[List.mem_take_iff_getElem]
 exact⟨i,by omega,rfl⟩
theorem filter_none {c:Int}:∀{l:List A2},(∀y∈l,y.p7≠c)->(l.filter fun f=>f.p7==c)=[]:=by
 intro l h
 rw[eA8]
 intro y hy
 simpa using h y hy
theorem cl1 (c:Int):∀{l:List A2},(l.Pairwise fun a b=>a.p7≠b.p7)->(l.findIdx? (fun f=>f.p7==c)=none/\(l.filter fun f=>f.p7==c)=[])\/∃k f,l.findIdx? (fun f=>f.p7==c)=some k/\k<l.length/\l[k]? =some f/\f.p7=c/\(l.filter fun f=>f.p7==c)=[f]
 |[],_=>.inl ⟨rfl,rfl⟩
 |x::l,h=>by
  rw[List.pairwise_cons]at h
  rw[fg6]
  cases hx:x.p7==c
  ·rw[eY5 (by simp[hx])]
   simp only[do2,if_false]
   rcases cl1 c h.2 with⟨a,b⟩|⟨k,f,a,b,d,e,g⟩
   ·exact .inl ⟨by rw[a];rfl,b⟩
   ·exact .inr ⟨k+1,f,by rw[a];rfl,by simpa using b,by simpa using d,e,g⟩
  ·rw[dY9 (by simp[hx])]
   simp only[if_true]
   have hxc:x.p7=c:=beq_iff_eq.1 hx
   exact .inr ⟨0,x,rfl,by simp,rfl,hxc,by rw[filter_none fun y hy=>by rw[<-hxc];exact(h.1 y hy).symm]⟩
theorem el4 (l:List A2)(hl:l.length<=1000000)(c:Int):H4 l (fun x0=>Y4 x0 c)=some (match l.findIdx? (fun f=>f.p7==c)with|some k=>(k:Int)|none=>-1):=by
 unfold H4 N7
 rw[bc6 l (by omega) (fun(i:Int) x (_:Unit)=>ai8 (Y4 x c) fun v=>bif v then(some (Fl.ret i))else(some (Fl.next ())))]
 have:=bJ0 (fun x=>Y4 x c) (fun f:A2=>f.p7==c) l 0 (fun _ _=>rfl)
 rw[show((0:Nat):Int)=0 from rfl]at this
 rw[this]
 cases l.findIdx? (fun f=>f.p7==c)with
 |none=>rfl
 |some k=>simp
def shJ (v begin:Int)(x:B6):A6:=⟨x,v+dst begin x.H6,false,0⟩
def dD1 (e:o5)(v t:Int)(f:A2):List A6:=(dB3 e f (beg e f.p7) t).map (shJ v (beg e f.p7))
def ch5 (e:o5)(k:E3)(next:List A2)(t x:Int):List A6:=
 bif decide (dst k.H6 (beg e x)>=k.as3)then []else(next.filter fun f=>f.p7==x).flatMap (dD1 e (dst k.H6 (beg e x)) t)
theorem cq2 {e:o5}{f:A2}{begin t:Int}(he:aE1 e)(hf:bf0 e f):(dB3 e f begin t).length<=6/\∀x∈dB3 e f begin t,Ev.evP x/\x.p7=f.p7:=by
 unfold dB3
 cases h:(bf9 e [f] t).2 !=0
 ·have hp:=dm4 he hf h
  have hop:=(cv5 begin (bf9 e [f] t).1).trans hp
  have h6:=cH0 e t f
  simp only[fh5]
  cases dC6 begin (dl9 begin (bf9 e [f] t).1)
  ·simp
  ·refine⟨by rw[fh8,hop.length_eq];exact h6,fun x hx=>dF8 (t:=t) he hf x (hop.mem_iff.1 hx)⟩
 ·simp
theorem cJ3 (v begin:Int)(hv:0<=v/\v<=46080):∀(W:List B6) (i:Int) (out:List A6),out.length+W.length<=100000->L8 (ag8 v) (W.map (plJ begin)) i out=some (.inl (out++W.map (shJ v begin)))
 |[],i,out,_=>by simp[L8]
 |x::W,i,out,hl=>by
  rw[br6]at hl
  have hd:0<=dst begin x.H6/\dst begin x.H6<46080:=by unfold dst;omega
  have hst:ag8 v i (plJ begin x) out=some (.next (out++[shJ v begin x])):=by
   unfold ag8 plJ
   simp only
   rw[H7 _ _ (by simp only[br6,cI2];omega),j5 (by omega) (by omega)]
   rfl
  simp only[cV4,L8,hst,as5]
  rw[cJ3 v begin hv W (i+1) _ (by simp only[ba3,br6,cI2];omega)]
  simp
theorem dD8 {s:j1}{r2:Int×Int}(he:aE1 s.u7)(hk:bB8 s.B1)(hw:aV9 s.u7 s.Next=true)(hn:s.Next.length<=1000000)(i x:Int)(hx:x∈s.u7.A3)(out:List A6)(ho:out.length<=10000):
  ag7 s r2 i x out=some (.next (out++ch5 s.u7 s.B1 s.Next r2.1 x)):=by
 have ha:ca7 s.B1.H6=true:=bs5.2 ⟨hk.an0,hk.an1⟩
 unfold ag7
 rw[dS5,fi0 he,fi0 hx]
 simp only[aX0,fh5,as5,eh2]
 rw[dj2 ha (dM3 ..),el4 _ hn]
 simp only[as5]
 unfold ch5
 cases hv:decide (dst s.B1.H6 (beg s.u7 x)>=s.B1.as3)
 ·have hd:0<=dst s.B1.H6 (beg s.u7 x)/\dst s.B1.H6 (beg s.u7 x)<=46080:=by unfold dst;omega
  rcases cl1 x (cx9 hw)with⟨a,b⟩|⟨k,f,a,b,d,e,g⟩
  ·rw[a,b]
   simp
  ·have hf:=bF9 hw f (do0 d)
   obtain⟨ok,p1,p2⟩:=et9 (t:=r2.1) he hf (dM3 s.u7 x)
   have hwl:=cq2 (begin:=beg s.u7 x) (t:=r2.1) he hf
   rw[a,g]
   simp only[ec9,show decide (((k:Nat):Int)<0)=false from fi1 (by omega),fh5,T8,d,as5]
   rw[p1]
   simp only[as5,eK1,fg9,da6]
   unfold dD1
   rw[e]
   cases ok
   ·rw[p2 rfl];simp
   ·simp only[aX0,fh5]
    rw[K6 _ (by rw[cV3];omega),cJ3 _ _ hd _ _ _ (by omega)]
    rfl
 ·simp
theorem cZ9 {s:j1}{r2:Int×Int}(he:aE1 s.u7)(hk:bB8 s.B1)(hw:aV9 s.u7 s.Next=true)(hn:s.Next.length<=1000000):∀(l:List Int) (i:Int) (out:List A6),(∀x∈l,x∈s.u7.A3)->out.length+6*l.length<=10000->
  L8 (ag7 s r2) l i out=some (.inl (out++l.flatMap (ch5 s.u7 s.B1 s.Next r2.1)))
 |[],i,out,_,_=>by simp[L8]
 |x::l,i,out,h,ho=>by
  rw[br6]at ho
  have hx:=h x (bN7 ..)
  have hal:(ch5 s.u7 s.B1 s.Next r2.1 x).length<=6:=by
   unfold ch5
   cases decide (dst s.B1.H6 (beg s.u7 x)>=s.B1.as3)
   ·rcases cl1 x (cx9 hw)with⟨a,b⟩|⟨k,f,a,b,d,e,g⟩
    ·rw[b];simp
    ·have hf:=bF9 hw f (do0 d)
     rw[g]
     simp only[fh5,eK1,fg9,da6]
     unfold dD1
     rw[cV3]
     exact(cq2 he hf).1
   ·simp
  simp only[L8,dD8 he hk hw hn i x hx out (by omega),as5]
  rw[cZ9 he hk hw hn l (i+1) _ (fun y hy=>h y (bY1 _ hy)) (by rw[ba3];omega)]
  rw[eK1,do3]
theorem bC2 {s:j1}(he:aE1 s.u7)(hk:bB8 s.B1)(hv:s.B1.X5=true)(hb:bM9 s.B1=true)(hw:aV9 s.u7 s.Next=true)(hn:s.Next.length<=1000000)(hj:s.H3.length<=1000):
  ah7 s=some ⟨s.u7,s.B1,s.k6,s.Next,s.H3++s.u7.A3.flatMap (ch5 s.u7 s.B1 s.Next (dR8 s.B1)),s.Cut⟩:=by
 have hn8:=he.2.1
 unfold ah7
 rw[ev6 hk hv hb]
 simp only[as5]
 rw[K6 _ (by omega),cZ9 he hk hw hn _ 0 _ (fun _ h=>h) (by omega)]
 rfl
theorem ee9 {e:o5}{k:E3}{l:List A2}{t x:Int}(he:aE1 e)(hw:aV9 e l=true):(ch5 e k l t x).length<=6:=by
 unfold ch5
 cases decide (dst k.H6 (beg e x)>=k.as3)
 ·rcases cl1 x (cx9 hw)with⟨a,b⟩|⟨k,f,a,b,d,e,g⟩
  ·rw[b];simp
  ·have hf:=bF9 hw f (do0 d)
   rw[g]
   simp only[fh5,eK1,fg9,da6]
   unfold dD1
   rw[cV3]
   exact(cq2 he hf).1
 ·simp
def aS3 (d:Int)(j:A6):A6:=⟨j.Event,G4 (-1048576) (j.Left-d),j.E0,j.At⟩
theorem cC0 (d:Int)(hd:0<=d/\d<=46080):∀(r p:List A6),(∀j∈r,-1048576<=j.Left/\j.Left<=1048576)->
  aW7 (aa5 d) r.length (p.length:Int) (p++r)=some (.inl (p++r.map (aS3 d)))
 |[],p,_=>rfl
 |j::r,p,h=>by
  have hj:=h j (bN7 ..)
  have hst:aa5 d (p.length:Int) (p++j::r)=some (.next (p++aS3 d j::r)):=by
   unfold aa5
   rw[dO1]
   simp only[as5]
   rw[j5 (n:=j.Left-d) (by omega) (by omega),es8]
   rfl
  simp only[br6,aW7,hst,as5]
  have:=cC0 d hd r (p++[aS3 d j]) (fun k hk=>h k (bY1 _ hk))
  rw[do3,ba3]at this
  rw[show((p.length:Int)+1)=((p.length+[aS3 d j].length:Nat):Int) by simp]
  rw[show p++aS3 d j::r=p++([aS3 d j]++r)from rfl,this]
  simp
theorem ca5 {w:List A6}(hw:alt w false=true):∀{l:List A6}{lv:Bool},alt l lv=true->alt (l++w) lv=true
 |[],lv,h=>by
  have:lv=false:=by simpa[alt]using h
  subst this;exact hw
 |j::l,lv,h=>by
  simp only[alt,aI0]at h
  simp only[dJ2,alt,aI0]
  exact⟨h.1,ca5 hw h.2⟩
theorem dI9 {w l:List A6}{x:j9}(hw:alt w false=true)(h:aI2 l x=true):aI2 (l++w) x=true:=by
 cases l with
 |nil=>
  simp only[aI2,aI0,bY2]at h
  cases w with
  |nil=>simp[aI2,h.1,h.2]
  |cons j r=>
   simp only[alt,aI0,bY2]at hw
   simp only[cV5,aI2,h.1,h.2,hw.1.1,hw.1.2,hw.2]
   rfl
 |cons j r=>
  simp only[aI2,aI0]at h
  simp only[dJ2,aI2,aI0]
  exact⟨h.1,ca5 hw h.2⟩
theorem dk7 (c:Nat)(v begin:Int):∀(F:List B6) (i:Nat),kpR c (F.map kp) i=true->(i+F.length)%2=0->alt (F.map (shJ v begin)) (i%2==1)=true
 |[],i,_,h=>by
  have:(i%2==1)=false:=beq_eq_false_iff_ne.2 (by simp at h;omega)
  rw[this];rfl
 |x::F,i,h,hp=>by
  simp only[cV4,kpR,aI0]at h
  simp only[br6]at hp
  have ih:=dk7 c v begin F (i+1) h.2 (by omega)
  have e:(!(i%2==1))=((i+1)%2==1):=by
   rcases Nat.mod_two_eq_zero_or_one i with h2|h2
   ·rw[h2,show(i+1)%2=1 by omega];rfl
   ·rw[h2,show(i+1)%2=0 by omega];rfl
  have h1:=h.1.1
  simp only[cV4,alt]
  rw[e,ih]
  have e2:(i%2==0)= !(i%2==1):=by
   rcases Nat.mod_two_eq_zero_or_one i with h2|h2<;>rw[h2]<;>rfl
  rw[e2]at h1
  have hk:(kp x).1=x.Kind:=rfl
  rw[hk]at h1
  unfold shJ
  simp only
  revert h1
  cases onK x.Kind<;>cases(i%2==1)<;>simp
theorem eD1 (v begin:Int)(W:List B6)(c:Int):aq7 (W.map (shJ v begin)) c=(W.filter fun x=>chn x==c).map (shJ v begin):=by
 unfold aq7
 rw[fg2]
 rfl
theorem dG0 {W:List B6}{cyl c:Int}(h:∀x∈W,Ev.evP x/\x.p7=cyl)(h0:c≠2*(cyl-1))(h1:c≠2*(cyl-1)+1):(W.filter fun x=>chn x==c)=[]:=by
 rw[eA8]
 intro x hx
 obtain⟨_,hc⟩:=h x hx
 unfold chn
 rw[hc]
 split<;>simp<;>omega
theorem ee6 {e:o5}{f:A2}{v t:Int}(he:aE1 e)(hf:bf0 e f)(c:Int):alt (aq7 (dD1 e v t f) c) false=true:=by
 unfold dD1 dB3
 cases h:(bf9 e [f] t).2 !=0
 ·have hp:=dm4 he hf h
  have hop:=(cv5 (beg e f.p7) (bf9 e [f] t).1).trans hp
  simp only[fh5]
  cases ha:dC6 (beg e f.p7) (dl9 (beg e f.p7) (bf9 e [f] t).1)
  ·rfl
  ·simp only[fh8]
   generalize hW:dl9 (beg e f.p7) (bf9 e [f] t).1=W at ha hop
   have hE:∀x∈W,Ev.evP x/\x.p7=f.p7:=fun x hx=>dF8 (t:=t) he hf x (hop.mem_iff.1 hx)
   have hk:=dX3 hop
   have fl:=el3 hE
   unfold dC6 at ha
   rw[eC6 hk.1,en9 (pul f) (bj2 f) hk.2]at ha
   simp only[aI0]at ha
   rw[eD1]
   by_cases h0:c=2*(f.p7-1)
   ·subst h0
    rw[fl.1]
    have l2:=hk.1.length_eq
    rw[cV3]at l2
    exact dk7 0 v _ _ 0 ha.1.2 (by rw[l2];rfl)
   ·by_cases h1:c=2*(f.p7-1)+1
    ·subst h1
     rw[fl.2]
     have l2:=hk.2.length_eq
     rw[cV3]at l2
     refine dk7 1 v _ _ 0 ha.2.2 ?_
     rw[l2]
     rcases bj2 f with h|h|h<;>(rw[h];rfl)
    ·rw[dG0 hE h0 h1];rfl
 ·rfl
theorem cO2 {α:Type}(g:α->List A6)(c:Int):∀(l:List α),(∀x∈l,alt (aq7 (g x) c) false=true)->alt (aq7 (l.flatMap g) c) false=true
 |[],_=>rfl
 |x::l,h=>by
  rw[eK1,aR8]
  exact ca5 (cO2 g c l fun y hy=>h y (bY1 _ hy)) (h x (bN7 ..))
theorem ee7 {e:o5}{k:E3}{l:List A2}{t x:Int}(he:aE1 e)(hw:aV9 e l=true)(c:Int):alt (aq7 (ch5 e k l t x) c) false=true:=by
 unfold ch5
 cases decide (dst k.H6 (beg e x)>=k.as3)
 ·exact cO2 _ c _ fun f hf=>ee6 he (bF9 hw f (dM6.1 hf).1) c
 ·rfl
theorem ee8 {e:o5}{k:E3}{l:List A2}{t x:Int}(he:aE1 e)(hw:aV9 e l=true):∀j∈ch5 e k l t x,aK3 e.A3.length j:=by
 intro j hj
 unfold ch5 at hj
 cases hv:decide (dst k.H6 (beg e x)>=k.as3)<;>rw[hv]at hj
 ·simp only[fh5,List.mem_flatMap]at hj
  obtain⟨f,hf,hj⟩:=hj
  have hff:=bF9 hw f (dM6.1 hf).1
  unfold dD1 at hj
  obtain⟨y,hy,rfl⟩:=cY4.1 hj
  obtain⟨h1,h2⟩:=(cq2 he hff).2 y hy
  have hc:=dN5 he hff.1
  refine⟨by unfold shJ;simp only;rw[h2];exact hc,h1.2.1,h1.1,h1.2.2.2,?_,.inr rfl⟩
  unfold shJ dst;simp only;omega
 ·simp at hj
theorem cZ5 (d:Int):∀(l:List A6) (lv:Bool),alt (l.map (aS3 d)) lv=alt l lv
 |[],_=>rfl
 |j::l,lv=>by
  simp only[cV4,alt,cZ5 d l]
  rfl
theorem ea9 (d:Int)(l:List A6)(x:j9):aI2 (l.map (aS3 d)) x=aI2 l x:=by
 cases l with
 |nil=>rfl
 |cons j r=>simp only[cV4,aI2,cZ5 d r];rfl
theorem dV2 (d now:Int)(l:List A6):bt8 now (l.map (aS3 d))=bt8 now l:=by
 match l with
 |[]=>rfl
 |[j]=>rfl
 |i::j::r=>rfl
theorem cQ0 (d:Int)(l:List A6)(c:Int):aq7 (l.map (aS3 d)) c=(aq7 l c).map (aS3 d):=by
 unfold aq7
 rw[fg2]
 rfl
theorem dX2 {n:Nat}{d:Int}{j:A6}(hd:0<=d/\d<=46080)(h:aK3 n j):aK3 n (aS3 d j):=by
 have hl:=h.left
 refine⟨h.cyl,h.kind,h.ef5,h.bS4,?_,h.at0⟩
 unfold aS3 G4
 simp only
 split<;>omega
theorem dJ6 {n:Nat}{now d:Int}{ch:List j9}{l:List A6}(hd:0<=d/\d<=46080)(h:Rows n now (ch,l)):Rows n now (ch,l.map (aS3 d)):=by
 refine⟨h.len,h.ch,fun j hj=>?_,fun c hc=>?_⟩
 ·obtain⟨k,hk,rfl⟩:=cY4.1 hj
  exact dX2 hd (h.job k hk)
 ·have:=h.row c hc
  simp only at this|-
  rw[cQ0,ea9];exact this
theorem dY6 {n:Nat}{now:Int}{ch:List j9}{l w:List A6}(h:Rows n now (ch,l))(hj:∀j∈w,aK3 n j)(hw:∀c,alt (aq7 w c) false=true):Rows n now (ch,l++w):=by
 refine⟨h.len,h.ch,fun j hj2=>?_,fun c hc=>?_⟩
 ·rcases dn9.1 hj2 with h2|h2
  ·exact h.job j h2
  ·exact hj j h2
 ·have:=h.row c hc
  simp only at this|-
  rw[aR8]
  exact dI9 (hw _) this
def cq3:j1:=⟨(⟨([]:List Int),0⟩:o5),(⟨false,0,0,0,0,0⟩:E3),(⟨0,([]:List j9)⟩:u9),([]:List A2),([]:List A6),false⟩
def bg9 (s:j1)(c:E3)(l:List A6):List A6:=bif s.B1.X5 then l.map (aS3 (dst s.B1.H6 c.H6))else l
def mk (s:j1)(c:E3)(l:List A6):j1:=⟨s.u7,c,s.k6,s.Next,l,s.Cut⟩
def bS0 (s:j1)(c:E3)(g:j1):List A6:=bg9 s c g.H3++g.u7.A3.flatMap (ch5 g.u7 c g.Next (dR8 c))
def dn8 (s:j1)(c:E3)(g:List j6×j1):j1×List j6×Int:=
 bif g.2.Cut then(mk g.2 c (bg9 s c g.2.H3),g.1,0)else bif decide (((bS0 s c g.2).length:Int)>200)then(cq3,[],5)else(bM4 (mk g.2 c (bS0 s c g.2)),g.1,0)
def aW8 (s:j1)(c:E3):j1×List j6×Int:=
 bif !co2 s|| !bM9 c then(cq3,[],1)else bif !c.X5 then(cq3,[],6)else bif decide (c.At<s.k6.V0)then(cq3,[],16)else dn8 s c (goE c.At s)
theorem ez6 {s:j1}(h:aN2 s)(hv:s.B1.X5=true):ca7 s.B1.H6=true:=bs5.2 ⟨(db0 h.clk hv).an0,(db0 h.clk hv).an1⟩
theorem dc2 {e:o5}{k:E3}{next:List A2}{t:Int}(he:aE1 e)(hw:aV9 e next=true):∀l:List Int,(l.flatMap (ch5 e k next t)).length<=6*l.length
 |[]=>by simp
 |x::l=>by
  have:=dc2 (k:=k) (t:=t) he hw l
  have:=ee9 (k:=k) (t:=t) (x:=x) he hw
  rw[eK1,ba3,br6];omega
theorem cl8 (s:j1)(c:E3)(l:List A6):(bg9 s c l).length=l.length:=by
 unfold bg9;cases s.B1.X5<;>simp
structure bp7 (s:j1)(c:E3)(g:List j6×j1):Prop where
 live:Live s.u7.A3.length g.2
 eng:g.2.u7=s.u7
 clk:g.2.B1=s.B1
 next:g.2.Next=s.Next
 cut:g.2.Cut=s.Cut
 now:g.2.k6.V0=c.At
 en1:g.2.H3.length<=200
theorem gone {s:j1}{c:E3}(h:aN2 s)(hc:bB8 c)(hle:s.k6.V0<=c.At):ab7 s c.At=some (goE c.At s)/\bp7 s c (goE c.At s):=by
 obtain⟨h1,h2,h3,h4,h5,h6⟩:=cH3 (.of h) c.At hle hc.at1
 have:=h.most
 exact⟨h1,h2,h3.eng,h3.clk,h3.next,h3.cut,h4,by omega⟩
theorem dd7 {s:j1}{c:E3}{g:List j6×j1}(h:bp7 s c g):Rows s.u7.A3.length g.2.k6.V0 (g.2.k6.j3,bg9 s c g.2.H3):=by
 unfold bg9
 cases s.B1.X5
 ·exact h.live.rows
 ·exact dJ6 (by unfold dst;omega) h.live.rows
theorem ej6 {s:j1}{c:E3}{g:List j6×j1}(h:bp7 s c g)(hc:bB8 c)(hv:c.X5=true)(aI1:g.2.Cut=true):Live s.u7.A3.length (mk g.2 c (bg9 s c g.2.H3)):=by
 refine⟨h.live.eng,h.live.n1,h.live.n8,dd7 h,fun _ ch hch=>?_,h.live.cF3,h.live.dl7,.inr ⟨hv,hc⟩,?_⟩
 ·show bt8 g.2.k6.V0 (aq7 (bg9 s c g.2.H3) (ch:Int))=true
  have:=h.live.cut aI1 ch hch
  unfold bg9
  cases s.B1.X5
  ·exact this
  ·simp only[fh8]
   rw[cQ0,dV2];exact this
 ·show(bg9 s c g.2.H3).length<=1000
  rw[cl8];have:=h.en1;omega
theorem dv9 {s:j1}{c:E3}{g:List j6×j1}(h:bp7 s c g)(hs:aN2 s)(hc:bB8 c)(hv:c.X5=true)(aI1:g.2.Cut=false):Live s.u7.A3.length (mk g.2 c (bS0 s c g.2)):=by
 have he:aE1 g.2.u7:=by rw[h.eng];exact hs.eng
 have hw:aV9 g.2.u7 g.2.Next=true:=by rw[h.eng,h.next];exact hs.cG2
 have hn:g.2.u7.A3.length=s.u7.A3.length:=by rw[h.eng]
 have hn8:=he.2.1
 have h6:=dc2 (k:=c) (t:=dR8 c) he hw g.2.u7.A3
 have hl:=cl8 s c g.2.H3
 have hjb:=h.en1
 refine⟨h.live.eng,h.live.n1,h.live.n8,?_,fun hcc=>?_,h.live.cF3,h.live.dl7,.inr ⟨hv,hc⟩,?_⟩
 ·refine dY6 (dd7 h) (fun j hj=>?_) fun ch=>cO2 _ ch _ fun x _=>ee7 he hw ch
  obtain⟨x,_,hx⟩:=List.mem_flatMap.1 hj
  rw[<-hn]
  exact ee8 he hw j hx
 ·have:g.2.Cut=true:=hcc
  rw[aI1]at this;cases this
 ·show(bS0 s c g.2).length<=1000
  unfold bS0
  rw[ba3];omega
theorem cT1 {s:j1}(h:Live s.u7.A3.length s)(he:aE1 s.u7)(hb:bM9 s.B1=true)(hv:s.B1.X5=true)(hw:aV9 s.u7 s.Next=true)(hm:s.H3.length<=200):aN2 s:=by
 refine⟨he,hb,h.tim,h.len,hw,hm,fun h2=>absurd (hv.symm.trans h2) (by decide),h.rows.job,fun c hc=>?_⟩
 have h1:=h.rows.row c hc
 simp only at h1
 unfold bE7
 rw[h1]
 cases aI1:s.Cut
 ·rfl
 ·rw[h.cut aI1 c hc];rfl
theorem ev9 {s:j1}{c:E3}(h0:(aW8 s c).2.2=0):aN2 (aW8 s c).1:=by
 unfold aW8 at h0|-
 cases h1:!co2 s|| !bM9 c<;>rw[h1]at h0
 ·simp only[fh5]at h0|-
  cases h2:!c.X5<;>rw[h2]at h0
  ·simp only[fh5]at h0|-
   cases h3:decide (c.At<s.k6.V0)<;>rw[h3]at h0
   ·simp only[fh5]at h0|-
    simp only[bG1,ef2]at h1
    have hv:c.X5=true:=by simpa using h2
    have hs:=aY7.1 h1.1
    have hc:=db0 h1.2 hv
    have hle:s.k6.V0<=c.At:=by simpa using h3
    obtain⟨_,hg⟩:=gone hs hc hle
    unfold dn8 at h0|-
    cases aI1:(goE c.At s).2.Cut<;>rw[aI1]at h0
    ·simp only[fh5]at h0|-
     cases h4:decide (((bS0 s c (goE c.At s).2).length:Int)>200)<;>rw[h4]at h0
     ·simp only[fh5]
      have hl:=dp9 (dv9 hg hs hc hv aI1)
      have ha:=cq9 (mk (goE c.At s).2 c (bS0 s c (goE c.At s).2))
      have e1:(bM4 (mk (goE c.At s).2 c (bS0 s c (goE c.At s).2))).u7=s.u7:=ha.eng.trans hg.eng
      have e2:(bM4 (mk (goE c.At s).2 c (bS0 s c (goE c.At s).2))).B1=c:=ha.clk
      have e3:(bM4 (mk (goE c.At s).2 c (bS0 s c (goE c.At s).2))).Next=s.Next:=ha.next.trans hg.next
      refine cT1 (by rw[e1];exact hl) (by rw[e1];exact hs.eng) (by rw[e2];exact h1.2) (by rw[e2];exact hv) (by rw[e1,e3];exact hs.cG2) ?_
      have hcf:(mk (goE c.At s).2 c (bS0 s c (goE c.At s).2)).Cut=false:=aI1
      unfold bM4
      rw[hcf]
      simp only[do2,if_false]
      show(ca9 _ _ _ _).2.length<=200
      rw[bC1]
      have:(bS0 s c (goE c.At s).2).length<=200:=by
       have:=of_decide_eq_false h4;omega
      exact this
     ·simp at h0
    ·simp only[fh8]
     have hl:=ej6 hg hc hv aI1
     refine cT1 (by show Live (goE c.At s).2.u7.A3.length _;rw[hg.eng];exact hl) (by show aE1 (goE c.At s).2.u7;rw[hg.eng];exact hs.eng) h1.2 hv (by show aV9 (goE c.At s).2.u7 (goE c.At s).2.Next=true;rw[hg.eng,hg.next];exact hs.cG2) ?_
     show(bg9 s c (goE c.At s).2.H3).length<=200
     rw[cl8];exact hg.en1
   ·simp at h0
  ·simp at h0
 ·simp at h0
theorem dK4 (s:j1)(c:E3)(hn:s.Next.length<=1000000)(hj:s.H3.length<=1000000):
  (ai8 (J8 s) fun v=>(bif (!v)then(some true)else(ai8 (aj2 c) fun v2=>some (!v2))))=some (!co2 s|| !bM9 c):=by
 rw[bc8 s hn hj,dE7]
 cases co2 s<;>rfl
theorem eW8 {α β γ:Type}(x:Option α)(f:α->Option β)(g:β->Option γ):(ai8 x fun v=>ai8 (f v) g)=ai8 (ai8 x f) g:=by cases x<;>rfl
theorem eb7 (s:j1)(c:E3)(hn:s.Next.length<=1000000)(hj:s.H3.length<=1000000):al9 s c=some (aW8 s c):=by
 unfold al9 aW8
 rw[eW8,dK4 s c hn hj]
 simp only[as5]
 cases h1:!co2 s|| !bM9 c
 ·simp only[fh5]
  cases h2:!c.X5
  ·simp only[fh5]
   cases h3:decide (c.At<s.k6.V0)
   ·simp only[fh5]
    simp only[bG1,ef2]at h1
    have hv:c.X5=true:=by simpa using h2
    have hs:=aY7.1 h1.1
    have hc:=db0 h1.2 hv
    have hle:s.k6.V0<=c.At:=by simpa using h3
    obtain⟨hgo,hg⟩:=gone hs hc hle
    rw[bD6 s hn hj]
    simp only[as5]
    rw[hgo]
    simp only[as5]
    unfold dn8
    generalize goE c.At s=g at hg
    have hcb:ca7 c.H6=true:=bs5.2 ⟨hc.an0,hc.an1⟩
    have hleft:(bif s.B1.X5 then(ai8 (Q9 s.B1.H6 c.H6) fun v4=>ai8 (K7 (g.2.H3.length:Int) (aa5 v4) g.2.H3) fun(t:(List A6)⊕Empty)=>match t with| .inl f3=>(some f3)| .inr r=>r.elim)else(some g.2.H3))=some (bg9 s c g.2.H3):=by
     unfold bg9
     cases hsv:s.B1.X5
     ·rfl
     ·have hjb:=hg.en1
      have:=cC0 (dst s.B1.H6 c.H6) (by unfold dst;omega) g.2.H3 [] (fun j hj=>(hg.live.rows.job j hj).left)
      simp only[fh8]
      rw[dj2 (ez6 hs hsv) hcb]
      simp only[as5]
      rw[al8 _ (by omega)]
      rw[show((([]:List A6).length:Nat):Int)=0 from rfl,cV5,cV5]at this
      rw[this]
      rfl
    erw [hleft]
    simp only[as5]
    cases aI1:g.2.Cut
    ·simp only[cI3,fh8,fh5]
     have hl:=cl8 s c g.2.H3
     have hjb:=hg.en1
     have hb:=bC2 (s:=mk g.2 c (bg9 s c g.2.H3)) (by show aE1 g.2.u7;rw[hg.eng];exact hs.eng) hc hv h1.2 (by show aV9 g.2.u7 g.2.Next=true;rw[hg.eng,hg.next];exact hs.cG2) (by show g.2.Next.length<=1000000;rw[hg.next];exact hn) (by show(bg9 s c g.2.H3).length<=1000;omega)
     have hb':ah7 (⟨(⟨g.2.u7.A3,g.2.u7.as4⟩:o5),c,(⟨g.2.k6.V0,g.2.k6.j3⟩:u9),g.2.Next,bg9 s c g.2.H3,false⟩:j1)=some (mk g.2 c (bS0 s c g.2)):=by
      have e:(⟨(⟨g.2.u7.A3,g.2.u7.as4⟩:o5),c,(⟨g.2.k6.V0,g.2.k6.j3⟩:u9),g.2.Next,bg9 s c g.2.H3,false⟩:j1)=mk g.2 c (bg9 s c g.2.H3):=by unfold mk;rw[aI1]
      rw[e,hb];rfl
     rw[hb']
     simp only[as5]
     have hll:=dv9 hg hs hc hv aI1
     have ha:=dQ9 hll.rows (.inr hc) hll.cF3 hll.dl7 hll.n1 hll.n8 (by have:=hll.most;omega)
     show(bif decide (((bS0 s c g.2).length:Int)>200)then _ else _)=_
     cases decide (((bS0 s c g.2).length:Int)>200)
     ·simp only[fh5]
      rw[ha];rfl
     ·rfl
    ·simp only[aX0,fh8,fh5]
     unfold mk
     rw[aI1]
   ·rfl
  ·rfl
 ·rfl
def z0:j9:=⟨false,0,false,false⟩
def k0:E3:=⟨false,0,0,0,0,0⟩
def bN4 (e:o5):j1:=⟨e,k0,⟨0,cE8 (2*e.A3.length) z0⟩,[],[],false⟩
theorem dR2 (e:o5):ap1 e=some (bif decide (aE1 e)then(bN4 e,0)else(cq3,1)):=by
 unfold ap1
 rw[Ev.ao3]
 cases hd:decide (aE1 e)
 ·rfl
 ·have he:=of_decide_eq_true hd
  have h1:=he.1;have h2:=he.2.1
  simp only[as5,aX0,fh5]
  rw[j5 (n:=2*(e.A3.length:Int)) (by omega) (by omega),show 2*(e.A3.length:Int)=((2*e.A3.length:Nat):Int) by omega,Tm.eQ6 _ (by omega) (by omega)]
  simp only[as5]
  unfold O1 bb7
  rw[H7 _ _ (by simp;omega)]
  rfl
def ex1 (s:j1)(l:List A2):j1:=⟨s.u7,s.B1,s.k6,l,s.H3,s.Cut⟩
theorem eu8 (s:j1)(l:List A2)(hn:s.Next.length<=1000000)(hj:s.H3.length<=1000000)(hl:l.length<=1000000):ar2 s l=some (bif co2 s&&aV9 s.u7 l then(ex1 s l,0)else(cq3,1)):=by
 unfold ar2
 rw[bc8 s hn hj]
 cases hd:co2 s
 ·rfl
 ·have hs:=aY7.1 hd
  simp only[as5,aX0,fh5]
  rw[dg6 _ _ hs.eng hl]
  cases aV9 s.u7 l
  ·rfl
  ·simp only[as5,aX0,fh5]
   rw[bD6 s hn hj]
   simp only[as5]
   unfold U0
   rw[H7 _ _ (by simp;omega)]
   rfl
def e1:o5:=⟨[1],0⟩
def f1:A2:=⟨1,640,2000,0,0,0,0⟩
def c1:E3:=⟨true,1000,5760,1000,384,384⟩
def c2:E3:=⟨true,2000,44544,1000,384,384⟩
def xa:B6:=⟨45440,2,1,0⟩
def xb:B6:=⟨44672,1,1,0⟩
def s1:j1:=ex1 (bN4 e1) [f1]
def g1:j1:=put s1 1000 (s1.k6.j3,[])
def s2:j1:=bM4 (mk g1 c1 [shJ 0 5760 xb,shJ 0 5760 xa])
def g2:j1:=put s2 2000 (s2.k6.j3,s2.H3)
def s3:j1:=bM4 (mk g2 c2 [aS3 38784 (shJ 0 5760 xb),aS3 38784 (shJ 0 5760 xa)])
theorem dl4 {e:o5}(h:aE1 e):aN2 (bN4 e):=by
 have h1:=h.1;have h2:=h.2.1
 have hl:Live e.A3.length (bN4 e):=by
  refine⟨rfl,h1,h2,⟨by simp[bN4],fun x hx=>?_,fun j hj=>by simp[bN4]at hj,fun c hc=>?_⟩,fun hc=>by simp[bN4]at hc,by simp[bN4],by simp[bN4],.inl ⟨rfl,rfl⟩,by simp[bN4]⟩
  ·have:x=z0:=by simp only[bN4]at hx;exact eX8 hx
   subst this
   show Tm.chB 0 z0=true
   decide
  ·have:(bN4 e).k6.j3[c]=z0:=by simp only[bN4,eZ8]
   simp only
   rw[this];rfl
 refine⟨h,rfl,hl.tim,hl.len,rfl,by simp[bN4],fun _=>rfl,hl.rows.job,fun c hc=>?_⟩
 have hr:=hl.rows.row c hc
 simp only at hr
 unfold bE7
 rw[hr];rfl
theorem dT3 (l:List j9)(hl:l.length<=1000000)(f:j9->Option Bool)(hf:∀x,f x=some x.K1):G5 l f=some (l.any fun x=>x.K1):=by
 unfold G5 R4 V7
 exact ai3 l (by omega) f (fun x=>x.K1) (fun y _=>hf y)
def ep9 (s:j1):j1:=⟨s.u7,s.B1,s.k6,s.Next,s.H3,false⟩
theorem dJ8 (s:j1)(hn:s.Next.length<=1000000)(hj:s.H3.length<=1000000)(hc:s.k6.j3.length<=1000000):ad0 s=some (bif !co2 s then(cq3,1)else bif !s.Cut||s.k6.j3.any fun x=>x.K1 then(cq3,6)else(ep9 s,0)):=by
 unfold ad0
 rw[bc8 s hn hj]
 cases co2 s
 ·rfl
 ·simp only[as5,aX0,fh5]
  cases aI1:s.Cut
  ·rfl
  ·rw[dT3 _ hc ag6 (fun _=>rfl)]
   simp only[as5,aX0,fh5,ec9]
   cases s.k6.j3.any fun x=>x.K1
   ·simp only[fh5]
    rw[bD6 s hn hj]
    rfl
   ·rfl
theorem dM9 {n:Nat}{s:j1}(h:Live n s)(aI1:s.Cut=true){c:Nat}(hc:c<s.k6.j3.length):
  (aq7 s.H3 (c:Int)=[]/\s.k6.j3[c].K1=false/\s.k6.j3[c].E0=false)\/
  (∃j,aq7 s.H3 (c:Int)=[j]/\j.Event.Kind=2/\j.E0=true/\s.k6.j3[c].E0=true/\s.k6.j3[c].K1=true/\s.k6.j3[c].Next=false/\s.k6.j3[c].At=j.At/\j.At<=s.k6.V0+5000):=by
 have hr:=h.rows.row c hc
 have hk:=h.cut aI1 c hc
 simp only at hr
 match hm:aq7 s.H3 (c:Int)with
 |[]=>
  rw[hm]at hr
  simp only[aI2,aI0,bY2]at hr
  exact .inl ⟨rfl,hr.1,hr.2⟩
 |[j]=>
  rw[hm]at hr hk
  simp only[bt8,aI0,beq_iff_eq,fi2]at hk
  simp only[aI2,aI0,bY2,cH8,beq_iff_eq]at hr
  obtain⟨⟨⟨h1,h2⟩,h3⟩,_⟩:=hr
  obtain⟨⟨k1,k2⟩,k3⟩:=hk
  have hl:s.k6.j3[c].K1=true:=by
   have ho:onK j.Event.Kind=false:=by rw[k1];rfl
   rw[ho]at h1
   cases hx:s.k6.j3[c].K1
   ·rw[hx]at h1;simp at h1
   ·rfl
  have h3':j.At=s.k6.j3[c].At/\s.k6.j3[c].Next= !s.k6.j3[c].K1:=by
   rcases h3 with h3|h3
   ·rw[k2]at h3;cases h3
   ·exact h3
  exact .inr ⟨j,rfl,k1,k2,by rw[<-h2];exact k2,hl,by rw[h3'.2,hl];rfl,h3'.1.symm,k3⟩
 |i::j::r=>rw[hm]at hk;simp[bt8]at hk
structure dC2 (s:j1)(n i:Nat)(u:List j6×u9×List A6):Prop where
 now:u.2.1.V0=s.k6.V0
 len:u.2.1.j3.length=2*n
 off:∀w∈u.1,w.K1=false
 few:u.1.length<=i/\u.2.2.length<=i
 rest:∀c,i<=c->u.2.1.j3[c]? =s.k6.j3[c]?
 ch:∀x∈u.2.1.j3,Tm.chB s.k6.V0 x=true
 job:∀j∈u.2.2,aK3 n j/\chn j.Event<(i:Int)
 row:∀c x,c<i->u.2.1.j3[c]? =some x->aI2 (aq7 u.2.2 (c:Int)) x=true/\bt8 s.k6.V0 (aq7 u.2.2 (c:Int))=true/\(c%2=1->x.K1=false)
theorem dA8 {s:j1}{n i:Nat}{u:List j6×u9×List A6}(hs:Live n s)(h:dC2 s n i u):Tm.ae0 u.2.1=true:=by
 have h1:=hs.n1;have h2:=hs.n8;have h3:=hs.cF3;have h4:=hs.dl7
 have hl:=h.len
 have hn:=h.now
 have:=cH9 (n:=n) (now:=s.k6.V0) (u:=(u.2.1.j3,([]:List A6)))
 unfold Tm.ae0
 rw[aI0,bx8]
 have ht:=hs.tim
 unfold Tm.ae0 at ht
 rw[aI0]at ht
 refine⟨?_,fun x hx=>by rw[hn];exact h.ch x hx⟩
 have e:Tm.bf3 u.2.1=Tm.bf3 s.k6:=by
  unfold Tm.bf3
  rw[hn,hl,<-hs.len]
 rw[e];exact ht.1
theorem dn1 {s:j1}{n i:Nat}{u:List j6×u9×List A6}(h:dC2 s n i u)(hi:i<2*n)(out:List j6)(y:j9)(more:List A6)
  (ho:∀w∈out,w.K1=false) (ho1:out.length<=1) (hm1:more.length<=1) (hy:Tm.chB s.k6.V0 y=true) (hj:∀j∈more,aK3 n j/\chn j.Event=(i:Int)) (hr:aI2 more y=true/\bt8 s.k6.V0 more=true/\(i%2=1->y.K1=false)):
  dC2 s n (i+1) (u.1++out,⟨s.k6.V0,u.2.1.j3.set i y⟩,u.2.2++more):=by
 have hf:=h.few
 have hl:=h.len
 have hni:∀c:Nat,c<i->aq7 more (c:Int)=[]:=fun c hc=>bv1 fun j hj2=>by have:=(hj j hj2).2;omega
 have hmi:aq7 u.2.2 (i:Int)=[]:=bv1 fun j hj2=>by have:=(h.job j hj2).2;omega
 have hmm:aq7 more (i:Int)=more:=by
  unfold aq7
  rw[fd7]
  intro j hj2
  simp[(hj j hj2).2]
 refine⟨rfl,by simp[hl],fun w hw=>?_,?_,fun c hc=>?_,fun x hx=>?_,fun j hj2=>?_,fun c x hc hx=>?_⟩
 ·rcases dn9.1 hw with h2|h2
  ·exact h.off w h2
  ·exact ho w h2
 ·simp only[ba3];omega
 ·simp only
  rw[fd2 (by omega)]
  exact h.rest c (by omega)
 ·simp only at hx
  rcases fe1 hx with h2|h2
  ·exact h.ch x h2
  ·rw[h2];exact hy
 ·rcases dn9.1 hj2 with h2|h2
  ·have:=h.job j h2;exact⟨this.1,by omega⟩
  ·have:=hj j h2;exact⟨this.1,by omega⟩
 ·simp only at hx|-
  rw[aR8]
  by_cases hci:c=i
  ·subst hci
   rw[List.getElem?_set_self (by omega)]at hx
   have:y=x:=cq4 hx
   subst this
   rw[hmi,hmm];exact hr
  ·rw[fd2 (by omega)]at hx
   rw[hni c (by omega),da6]
   exact h.row c x (by omega) hx
theorem di9 (now:Int)(l:Bool):Tm.chB now ⟨false,0,false,l⟩=true:=by
 unfold Tm.chB;rfl
theorem ej8 {s:j1}{n:Nat}(hs:Live n s)(hm:s.H3.length<=1000)(i:Nat)(hi:i<2*n)(u:List j6×u9×List A6)(h:dC2 s n i u):∃u',ac9 s (i:Int) u=some (.next u')/\dC2 s n (i+1) u':=by
 have hl:=hs.len
 have hn8:=hs.n8
 have h0:=hs.cF3
 have h1:=hs.dl7
 have hi2:i<s.k6.j3.length:=by omega
 have hi3:i<u.2.1.j3.length:=by rw[h.len];exact hi
 have htb:=dA8 hs h
 have hxe:u.2.1.j3[i]=s.k6.j3[i]:=by
  have:=h.rest i (cv6 _)
  rw[aW9 hi2,aW9 hi3]at this
  exact cq4 this
 have hf:=h.few
 have aQ1:=hs.rows.row i hi2
 simp only at aQ1
 have hmd:((i:Int).tmod 2==0)=(i%2==0):=by
  rw[do1 (by omega),dG9,beq_iff_eq,beq_iff_eq];omega
 have bE6:=h.now
 unfold ac9
 rw[C7 _ _ hi2]
 simp only[as5,hmd]
 generalize hx:s.k6.j3[i]=x at aQ1 hxe
 have hcond:(bif x.K1 then(some ((!(i%2==0))||(s.k6.V0==1099511627776)))else(some false))=some (x.K1&&((!(i%2==0))||(s.k6.V0==1099511627776))):=by cases x.K1<;>rfl
 rw[hcond]
 simp only[as5]
 cases hb:x.K1&&((!(i%2==0))||(s.k6.V0==1099511627776))
 ·simp only[fh5]
  rw[Tm.db4 u.2.1 (i:Int) i rfl hi3 htb]
  simp only[as5]
  rw[hxe,bE6]
  cases hlv:x.K1
  ·simp only[cI3,fh8]
   refine⟨_,rfl,?_⟩
   have:=dn1 h hi [] ⟨false,0,false,false⟩ [] (by simp) (by simp) (by simp) (di9 _ _) (by simp) ⟨rfl,rfl,fun _=>rfl⟩
   rw[da6,da6]at this
   exact this
  ·simp only[aX0,fh5]
   rw[hlv,cL7,bG1]at hb
   have hev:i%2=0:=by simpa using hb.1
   have hnm:s.k6.V0≠1099511627776:=by simpa using hb.2
   cases hsp:split (i:Int) s.H3 with
   |none=>
    rw[dY4 hsp]at aQ1
    simp[aI2,hlv]at aQ1
   |some t=>
    obtain⟨a,j,b⟩:=t
    obtain⟨ej,ec,_⟩:=bj8 hsp
    have hjo:=hs.rows.job j (by rw[ej];simp)
    rw[cQ1 hsp]at aQ1
    simp only[aI2,aI0,bY2,cH8,beq_iff_eq]at aQ1
    obtain⟨⟨⟨r1,r2⟩,r3⟩,_⟩:=aQ1
    have hk2:j.Event.Kind=2:=by
     have hk:=hjo.kind
     have hce:=dr3 hjo
     rw[ec,do1 (by omega)]at hce
     have hno:¬(j.Event.Kind=3\/j.Event.Kind=4):=by
      intro h3;rw[if_pos h3]at hce;omega
     rw[hlv]at r1
     have:onK j.Event.Kind=false:=by
      cases ho:onK j.Event.Kind
      ·rfl
      ·rw[ho]at r1;simp at r1
     unfold onK at this
     simp only[bG1,beq_eq_false_iff_ne]at this
     omega
    have hfi:C2 s.H3 (fun x0=>at4 x0 (i:Int))=some (cu2 (i:Int) s.H3):=bR8 (i:Int) n hn8 s.H3 (by omega) (fun y hy=>hs.rows.job y hy)
    rw[hfi]
    have hfv:cu2 (i:Int) s.H3=(a.length:Int):=by unfold cu2;rw[hsp]
    have hgm:D4 s.H3 (a.length:Int)=some j:=by rw[ej];exact dO2 a b j
    rw[hfv]
    simp only[as5]
    rw[hgm]
    simp only[as5]
    rw[j5 (n:=s.k6.V0+5000) (by omega) (by omega)]
    have hxa:j.E0=true->s.k6.V0<j.At/\j.At<=1099511627776:=by
     intro hja
     have hxm:x∈s.k6.j3:=by rw[<-hx];exact bd2 hi2
     have:=Tm.da7 (hs.rows.ch x hxm) (by rw[<-r2];exact hja)
     rcases r3 with r3|r3
     ·rw[hja]at r3;cases r3
     ·rw[r3.1];exact this
    obtain⟨at2,hat,ha1,ha2,ha3⟩:∃at2,(bif ((!j.E0)||(decide (j.At>s.k6.V0+5000)))then(some (F2 (s.k6.V0+5000) 1099511627776))else(some j.At))=some at2/\s.k6.V0<at2/\at2<=1099511627776/\at2<=s.k6.V0+5000:=by
     cases hc:(!j.E0)||(decide (j.At>s.k6.V0+5000))
     ·rw[bG1]at hc
      have hja:j.E0=true:=by simpa using hc.1
      have:=hxa hja
      have h5:¬j.At>s.k6.V0+5000:=of_decide_eq_false hc.2
      exact⟨j.At,rfl,by omega,by omega,by omega⟩
     ·refine⟨_,rfl,?_,?_,?_⟩<;>unfold F2<;>split<;>omega
    rw[hat]
    simp only[as5]
    have htb2:Tm.ae0 ⟨s.k6.V0,u.2.1.j3.set i ⟨false,0,false,true⟩⟩=true:=by
     unfold Tm.ae0 at htb|-
     simp only[aI0,bx8]at htb|-
     refine⟨?_,fun y hy=>?_⟩
     ·have e:Tm.bf3 ⟨s.k6.V0,u.2.1.j3.set i ⟨false,0,false,true⟩⟩=Tm.bf3 u.2.1:=by
       unfold Tm.bf3
       simp only[eb2,bE6]
      rw[e];exact htb.1
     ·rcases fe1 hy with h2|h2
      ·exact h.ch y h2
      ·rw[h2];exact di9 _ _
    rw[Tm.eg2 _ (i:Int) at2 false i rfl (by simpa using hi3) htb2]
    have d1:decide (at2<=s.k6.V0)=false:=fi1 (by omega)
    have d2:decide (at2>Tm.cC5)=false:=by unfold Tm.cC5;exact fi1 (by omega)
    simp only[d1,d2,fh5,as5]
    rw[H7 _ _ (by simp only[br6,cI2];omega)]
    simp only[as5,dN1,en8]
    refine⟨_,rfl,?_⟩
    have:=dn1 h hi [] ⟨true,at2,false,true⟩ [⟨j.Event,j.Left,true,at2⟩] (by simp) (by simp) (by simp) (dM5 ha1 ha2)
     (fun k hk=>by
      have:k=⟨j.Event,j.Left,true,at2⟩:=by simpa using hk
      subst this
      exact⟨⟨hjo.cyl,hjo.kind,hjo.ef5,hjo.bS4,hjo.left,.inl rfl⟩,ec⟩)
     ⟨by simp[aI2,hk2,alt,onK],by simp[bt8,hk2,ha3],fun h3=>by omega⟩
    rw[da6]at this
    exact this
 ·simp only[fh8]
  rw[aI0]at hb
  rw[Tm.force_eq u.2.1 (i:Int) false i rfl hi3 htb]
  simp only[as5]
  rw[H7 _ _ (by cases(u.2.1.j3[i].K1==false)<;>simp<;>omega)]
  simp only[as5]
  refine⟨_,rfl,?_⟩
  rw[bE6]
  have:=dn1 h hi (bif u.2.1.j3[i].K1==false then []else [⟨s.k6.V0,(i:Int),false⟩]) ⟨false,0,false,false⟩ [] (fun w hw=>by
   cases hc:u.2.1.j3[i].K1==false<;>rw[hc]at hw
   ·have:w=⟨s.k6.V0,(i:Int),false⟩:=by simpa using hw
    rw[this]
   ·simp at hw) (by cases u.2.1.j3[i].K1==false<;>simp) (by simp) (di9 _ _) (by simp) ⟨rfl,rfl,fun _=>rfl⟩
  rw[da6]at this
  exact this
theorem ej7 {s:j1}{n i:Nat}{u u':List j6×u9×List A6}(hs:Live n s)(hj:s.H3=[])(h:dC2 s n i u)(hu:u.2.2=[])(hi:i<2*n)(e:ac9 s (i:Int) u=some (.next u')):∀j,j∉u'.2.2:=by
 have hi2:i<s.k6.j3.length:=by have:=hs.len;omega
 have hi3:i<u.2.1.j3.length:=by rw[h.len];exact hi
 have aQ1:=hs.rows.row i hi2
 simp only at aQ1
 rw[hj]at aQ1
 have hlv:s.k6.j3[i].K1=false:=by
  simp only[aq7,eK7,aI2,aI0,bY2]at aQ1
  exact aQ1.1
 unfold ac9 at e
 rw[C7 _ _ hi2]at e
 simp only[as5,hlv,fh5]at e
 rw[Tm.db4 u.2.1 (i:Int) i rfl hi3 (dA8 hs h)]at e
 simp only[as5,cI3,fh8,aH8,Fl.next.injEq]at e
 subst e
 simp[hu]
structure eH6 (s t:j1)(out:List j6):Prop where
 ok:aN2 t
 cut:t.Cut=true
 now:t.k6.V0=s.k6.V0
 off:∀w∈out,w.K1=false
 few:out.length<=100
 odd:∀c x,t.k6.j3[c]? =some x->c%2=1->x.K1=false
 fk8:∀x∈t.k6.j3,x.E0=true->x.At<=s.k6.V0+5000
 next:t.Next=s.Next
 eng:t.u7=s.u7
theorem eG0 {n:Nat}{t:j1}(h:Live n t)(aI1:t.Cut=true):∀x∈t.k6.j3,x.E0=true->x.At<=t.k6.V0+5000:=by
 intro x hx ha
 obtain⟨c,hc,rfl⟩:=cW9.1 hx
 rcases dM9 h aI1 hc with⟨_,_,b⟩|⟨j,_,_,_,_,_,_,e,f⟩
 ·rw[ha]at b;cases b
 ·omega
theorem eQ7 {n:Nat}{t:j1}(h:Live n t)(aI1:t.Cut=true):∀c x,t.k6.j3[c]? =some x->c%2=1->x.K1=false:=by
 intro c x hx ho
 obtain⟨hc,rfl⟩:=bG0.1 hx
 rcases dM9 h aI1 hc with⟨_,a,_⟩|⟨j,a,b,_⟩
 ·exact a
 ·exfalso
  have hm:j∈aq7 t.H3 (c:Int):=by rw[a];simp
  obtain⟨hj,hce⟩:=dY3 h.rows.job hm
  have:=dr3 hj
  rw[hce,do1 (by omega),if_neg (by omega)]at this
  omega
theorem ds5 {s t:j1}{out:List j6}(hs:aN2 s)(h:Live s.u7.A3.length t)(aI1:t.Cut=true)(he:t.u7=s.u7)(hk:t.B1=s.B1)(hnx:t.Next=s.Next)(bE6:t.k6.V0=s.k6.V0)(cF2:∀w∈out,w.K1=false)(hfew:out.length<=100)(hm:t.H3.length<=200)(hnone:s.B1.X5=false->t.H3=[]):eH6 s t out:=by
 refine⟨⟨by rw[he];exact hs.eng,by rw[hk];exact hs.clk,h.tim,by rw[he];exact h.len,by rw[he,hnx];exact hs.cG2,hm,fun h2=>hnone (by rw[<-hk];exact h2),by rw[he];exact h.rows.job,fun c hc=>?_⟩,aI1,bE6,cF2,hfew,eQ7 h aI1,by rw[<-bE6];exact eG0 h aI1,hnx,he⟩
 have hr:=h.rows.row c hc
 simp only at hr
 unfold bE7
 rw[hr,h.cut aI1 c hc]
 simp
theorem eF7 {s:j1}(hs:aN2 s)(hn:s.Next.length<=1000000):∃t out,ap0 s=some (t,out,0)/\eH6 s t out:=by
 have hl:=Live.of hs
 have hm:=hs.most
 have hlen:=hl.len
 have hn8:=hl.n8
 have h0:=hl.cF3
 have h1:=hl.dl7
 unfold ap0
 rw[bc8 s hn (by omega),aY7.2 hs]
 simp only[as5,aX0,fh5]
 rw[bD6 s hn (by omega)]
 simp only[as5]
 cases aI1:s.Cut
 ·simp only[fh5]
  obtain⟨u,e,hu⟩:=ag5 s.k6.j3.length (by omega) (ac9 s) (fun i u=>dC2 s s.u7.A3.length i u/\(s.H3=[]->u.2.2=[])) ([],s.k6,[])
   ⟨⟨rfl,hlen,by simp,by simp,fun _ _=>rfl,hl.rows.ch,by simp,fun c x hc=>by omega⟩,fun _=>rfl⟩
   (fun i hi u hu=>by
    obtain⟨u',e1,e2⟩:=ej8 hl (by omega) i (by omega) u hu.1
    refine⟨u',e1,e2,fun hj=>?_⟩
    apply List.eq_nil_iff_forall_not_mem.2
    intro j hj2
    exact ej7 hl hj hu.1 (hu.2 hj) (by omega) e1 j hj2)
  rw[e]
  refine⟨_,_,rfl,?_⟩
  have hf:=hu.1.few
  have bE6:=hu.1.now
  have hlu:=hu.1.len
  have hlv:Live s.u7.A3.length ⟨s.u7,s.B1,u.2.1,s.Next,u.2.2,true⟩:=by
   refine⟨rfl,hl.n1,hl.n8,⟨hlu,fun x hx=>by show Tm.chB u.2.1.V0 x=true;rw[bE6];exact hu.1.ch x hx,fun j hj=>(hu.1.job j hj).1,fun c hc=>?_⟩,fun _ c hc=>?_,by show 0<=u.2.1.V0;omega,by show u.2.1.V0<=_;omega,?_,by show u.2.2.length<=1000;omega⟩
   ·have hc2:c<u.2.1.j3.length:=hc
    exact(hu.1.row c _ (by omega) (aW9 hc2)).1
   ·have hc2:c<u.2.1.j3.length:=hc
    show bt8 u.2.1.V0 _=true
    rw[bE6]
    exact(hu.1.row c _ (by omega) (aW9 hc2)).2.1
   ·rcases hl.clk with⟨a,b⟩|a
    ·exact .inl ⟨a,hu.2 b⟩
    ·exact .inr a
  exact ds5 hs hlv rfl rfl rfl rfl bE6 hu.1.off (by omega) (by show u.2.2.length<=200;omega) (fun hv=>hu.2 (hs.none hv))
 ·simp only[fh8]
  refine⟨s,[],?_,ds5 hs hl aI1 rfl rfl rfl rfl (by simp) (by simp) hm hs.none⟩
  cases s;rfl
theorem eD9 {s:j1}(h:aN2 s):aN2 (ep9 s):=
 ⟨h.eng,h.clk,h.tim,h.chs,h.cG2,h.most,h.none,h.job,fun c hc=>by
  have:=h.line c hc
  unfold bE7 at this|-
  simp only[aI0]at this|-
  refine⟨this.1,?_⟩
  simp[ep9]⟩
theorem eH4 {s:j1}(h:aN2 s){l:List A2}(hl:aV9 s.u7 l=true):aN2 (ex1 s l):=
 ⟨h.eng,h.clk,h.tim,h.chs,hl,h.most,h.none,h.job,fun c hc=>h.line c hc⟩
end Go.Pv.Sc
namespace Go.Proofs.YtmhdghdbojdgfaaGreat.Ec
open Go Go.Pv Go.Pv.Ec Go.Proofs
structure Sch (s t:j1):Prop where
 ok:Sc.aN2 t
 few:t.Next.length<=8
 eng:t.u7=s.u7
 now:t.k6.V0=s.k6.V0
theorem eZ2 (o:ao6):(bQ8 o).m=some o:=rfl
theorem eP9 (n:ao6)(e:Int)(o:ao6):(bi3 n e o).m=some (bif e !=0 then o else n):=by
 simp only[bi3,C.of,M.run]
 cases e !=0<;>rfl
theorem ex2 {s:j1}(h:Sch s s)(l:List A2)(hl:l.length<=8):∃t e,(ar2 s l).m=some (t,e)/\Sch s (bif e !=0 then s else t):=by
 have hm:=h.ok.most
 rw[cj5,Sc.eu8 s l (by have:=h.few;omega) (by omega) (by omega),Sc.aY7.2 h.ok]
 cases hw:Sc.aV9 s.u7 l
 ·exact⟨_,_,rfl,h⟩
 ·exact⟨_,_,rfl,Sc.eH4 h.ok hw,hl,rfl,rfl⟩
theorem dI8 {s:j1}(h:Sch s s):∃t e,(ad0 s).m=some (t,e)/\Sch s (bif e !=0 then s else t):=by
 have hm:=h.ok.most
 have hc:=h.ok.chs
 have he:=h.ok.eng.2.1
 rw[bX4,Sc.dJ8 s (by have:=h.few;omega) (by omega) (by omega),Sc.aY7.2 h.ok]
 simp only[aX0,fh5]
 cases(!s.Cut||s.k6.j3.any fun x=>x.K1)
 ·exact⟨_,_,rfl,Sc.eD9 h.ok,h.few,rfl,rfl⟩
 ·exact⟨_,_,rfl,h⟩
theorem dN0 {s:j1}(h:Sch s s):∃t l,(ap0 s).m=some (t,l,0)/\Sch s t/\l.length<=100:=by
 obtain⟨t,l,e,k⟩:=Sc.eF7 h.ok (by have:=h.few;omega)
 rw[cs7]
 exact⟨t,l,e,⟨k.ok,by rw[k.next];exact h.few,k.eng,k.now⟩,k.few⟩
end Go.Proofs.YtmhdghdbojdgfaaGreat.Ec
namespace Go.Pv.Sc
open Go Go.Pv Go.Pv.Ev
theorem dQ8 {s:j1}(hs:aN2 s)(hn:s.Next.length<=1000000)(to:Int)(h1:s.k6.V0<=to)(h2:to<=1099511627776):T6 s to=some ((goE to s).2,(goE to s).1,0):=by
 have hm:=hs.most
 unfold T6
 rw[bc8 s hn (by omega),aY7.2 hs]
 simp only[as5,aX0,fh5]
 rw[fi1 (show¬to<s.k6.V0 by omega),fi1 (show¬to>1099511627776 by omega)]
 simp only[fh5]
 rw[bD6 s hn (by omega)]
 simp only[as5]
 rw[(cH3 (.of hs) to h1 h2).1]
 rfl
theorem ca2 {s:j1}(hs:aN2 s)(to:Int)(h1:s.k6.V0<=to)(h2:to<=1099511627776):aN2 (goE to s).2/\(goE to s).2.u7=s.u7/\(goE to s).2.Next=s.Next/\(goE to s).2.k6.V0=to:=by
 obtain⟨_,hl,ha,bE6,hj,_⟩:=cH3 (.of hs) to h1 h2
 refine⟨⟨by rw[ha.eng];exact hs.eng,by rw[ha.clk];exact hs.clk,hl.tim,by rw[ha.eng];exact hl.len,by rw[ha.eng,ha.next];exact hs.cG2,by have:=hs.most;omega,fun hv=>?_,by rw[ha.eng];exact hl.rows.job,fun c hc=>?_⟩,ha.eng,ha.next,bE6⟩
 ·rw[ha.clk]at hv
  have:=hs.none hv
  rw[this]at hj
  exact List.length_eq_zero_iff.1 (by simpa using hj)
 ·have hr:=hl.rows.row c hc
  simp only at hr
  unfold bE7
  rw[hr]
  cases aI1:(goE to s).2.Cut
  ·simp
  ·rw[hl.cut aI1 c hc];simp
theorem dj9 {s:j1}(hs:aN2 s)(to:Int)(h1:s.k6.V0<=to):(goE to s).1.length<=3200:=by
 have hm:=hs.most
 obtain⟨_,_,_,_,_,_,r7,_⟩:=em5 to s.H3.length s [] (.of hs) (cv6 _) (by simp;omega) h1
 have:(goE to s).1=(goV to s.H3.length ([],s)).1:=rfl
 rw[this]
 simp only[cI2]at r7
 omega
end Go.Pv.Sc
namespace Go.Proofs.YtmhdghdbojdgfaaGreat.Ec
open Go Go.Pv Go.Pv.Ec Go.Proofs
structure bp7 (T:Int)(s t:j1):Prop where
 ok:Sc.aN2 t
 few:t.Next.length<=8
 eng:t.u7=s.u7
 low:s.k6.V0<=t.k6.V0
 now:t.k6.V0<=T
theorem ey7 {T:Int}{s:j1}(h:bp7 T s s)(to:Int)(hT:to<=T):∃t l e,(T6 s to).m=some (t,l,e)/\l.length<=3200/\bp7 T s (bif e !=0 then s else t):=by
 have hm:=h.ok.most
 have hf:=h.few
 rw[bl9]
 by_cases h1:to<s.k6.V0
 ·unfold Pv.T6
  rw[Sc.bc8 s (by omega) (by omega),Sc.aY7.2 h.ok]
  simp only[as5,aX0,fh5]
  rw[fi0 h1]
  exact⟨_,_,_,rfl,by simp,h⟩
 ·by_cases h2:to>1099511627776
  ·unfold Pv.T6
   rw[Sc.bc8 s (by omega) (by omega),Sc.aY7.2 h.ok]
   simp only[as5,aX0,fh5]
   rw[fi1 h1,fi0 h2]
   exact⟨_,_,_,rfl,by simp,h⟩
  ·rw[Sc.dQ8 h.ok (by omega) to (by omega) (by omega)]
   obtain⟨k1,k2,k3,k4⟩:=Sc.ca2 h.ok to (by omega) (by omega)
   exact⟨_,_,_,rfl,Sc.dj9 h.ok to (by omega),⟨k1,by show(Sc.goE to s).2.Next.length<=8;rw[k3];exact hf,k2,by show s.k6.V0<=(Sc.goE to s).2.k6.V0;omega,by show(Sc.goE to s).2.k6.V0<=T;omega⟩⟩
theorem dz8 {T:Int}{s:j8}(h:bp7 T s.u.j4 s.u.j4)(a:Int)(hT:a<=T)(hl:s.y9.length<=1000000000):
  ∃c w,(aY2 s a).m=some {s with u:={s.u with j4:=c},y9:=w}/\bp7 T s.u.j4 c/\w.length<=s.y9.length+3300:=by
 obtain⟨t,l,e,e1,h1,h2⟩:=ey7 h a hT
 simp only[aY2,CG.of,M.run,e1,as5]
 rw[bU3 s t l e (by omega)]
 simp only[as5]
 have hw:(bif e !=0 then s.y9 else s.y9++l).length<=s.y9.length+3200:=by
  cases e !=0
  ·simp only[fh5,ba3];omega
  ·simp only[fh8];omega
 generalize(bif e !=0 then s.u.j4 else t)=c at h2|-
 generalize(bif e !=0 then s.y9 else s.y9++l)=w at hw|-
 obtain⟨t2,l2,e2,k,h3⟩:=dN0 (s:=c) ⟨h2.ok,h2.few,rfl,rfl⟩
 rw[e2]
 simp only[as5]
 rw[bU3 _ t2 l2 0 (by simp only;omega)]
 exact⟨t2,w++l2,rfl,⟨k.ok,k.few,k.eng.trans h2.eng,by have:=k.now;have:=h2.low;omega,by have:=k.now;have:=h2.now;omega⟩,by rw[ba3];omega⟩
theorem eq5:(cv8).m=some ⟨false,0,0,false⟩:=rfl
theorem cO7 {T:Int}{s:j8}(h:bp7 T s.u.j4 s.u.j4)(hp:phB s.u.M7=true)(n:aa8)(a:Int)(hT:a<=T)(hl:s.y9.length<=1000000000):
  ∃c p w,(aZ9 s n a).m=some {s with u:={s.u with j4:=c,Q4:=n,M7:=p},y9:=w}/\
   bp7 T s.u.j4 c/\phB p=true/\w.length<=s.y9.length+3300:=by
 simp only[aZ9,CG.of,M.run,eq5,as5]
 cases((s.u.Q4.Mode !=0)&&(n.Mode==0))
 ·exact⟨_,_,_,rfl,h,hp,by omega⟩
 ·simp only[fh8]
  obtain⟨c,w,e,h1,h2⟩:=dz8 (s:={s with u:={s.u with Q4:=n,M7:=⟨false,0,0,false⟩}}) h a hT hl
  rw[e]
  exact⟨c,_,w,rfl,h1,rfl,h2⟩
theorem ef4 (t:Int):(av4 t).m=some (decide (t>=0)&&decide (t<=1099511627776)):=rfl
theorem ex0 (n:Int):∃a e,(bU7 w0 n).m=some (a,e):=by
 simp only[bU7,C.of,M.run,bW9,bF8,cx7,as5,aX0,fh5,bg]
 cases(bif decide (n<0)then true else decide (n>=58))<;>exact⟨_,_,rfl⟩
theorem dT2 (t n h p:Int)(hp:0<=p/\p<=1099511627776):∃c e,(bO4 w0 t n h p).m=some (c,e)/\(c.At=t\/c.At=0):=by
 obtain⟨a,e,e1⟩:=ex0 n
 have q:bn3 .i64 p (j7 (w0.aP3+1))=some (p/3):=er1 (b:=3) hp.1 (by omega) (by omega)
 simp only[bO4,C.of,M.run,L1.m,bW9,bF8,cx7,e1,ef4,q,as5,aX0,fh5,bg]
 generalize(bif e !=0 then true else !(decide (t>=0)&&decide (t<=1099511627776)))=c1
 generalize(c1||decide (h<0)||decide (h>1)||decide (p<j7 (2+1))||decide (p>1073741824))=c2
 cases c2
 ·simp only[fh5]
  cases n==0<;>cases n==j7 (58-1)<;>exact⟨_,_,rfl,.inl rfl⟩
 ·exact⟨_,_,rfl,.inr rfl⟩
end Go.Proofs.YtmhdghdbojdgfaaGreat.Ec
namespace Go.Pv.Sc
open Go Go.Pv Go.Pv.Ev
theorem dA9 {s:j1}(hs:aN2 s)(c:E3):(aW8 s c).2.1.length<=3200/\((aW8 s c).2.2=0->(aW8 s c).1.u7=s.u7/\(aW8 s c).1.Next=s.Next/\(aW8 s c).1.k6.V0=c.At/\s.k6.V0<=c.At):=by
 unfold aW8
 cases h1:(!co2 s|| !bM9 c)
 ·cases h2:!c.X5
  ·cases h3:decide (c.At<s.k6.V0)
   ·have h4:=of_decide_eq_false h3
    have hc:bM9 c=true:=by
     cases h:bM9 c
     ·rw[h]at h1;simp at h1
     ·rfl
    have hv:c.X5=true:=by simpa using h2
    have hm:=(db0 hc hv)
    have h5:c.At<=1099511627776:=by
     have:=hc
     unfold bM9 at this
     rw[hv]at this
     simp only[aX0,fh5,aI0,fi2]at this
     omega
    obtain⟨_,_,ha,bE6,_⟩:=cH3 (.of hs) c.At (by omega) h5
    have hf:=dj9 hs c.At (by omega)
    simp only[fh5,dn8]
    cases(goE c.At s).2.Cut
    ·cases decide (((bS0 s c (goE c.At s).2).length:Int)>200)
     ·refine⟨hf,fun _=>?_⟩
      have k:=cq9 (mk (goE c.At s).2 c (bS0 s c (goE c.At s).2))
      refine⟨k.eng.trans ha.eng,k.next.trans ha.next,?_,by omega⟩
      show(bM4 _).k6.V0=c.At
      unfold bM4
      split<;>exact bE6
     ·exact⟨by simp,fun h=>by cases h⟩
    ·exact⟨hf,fun _=>⟨ha.eng,ha.next,bE6,by omega⟩⟩
   ·exact⟨by simp,fun h=>by cases h⟩
  ·exact⟨by simp,fun h=>by cases h⟩
 ·exact⟨by simp,fun h=>by cases h⟩
end Go.Pv.Sc
namespace Go.Proofs.YtmhdghdbojdgfaaGreat.Ec
open Go Go.Pv Go.Pv.Ec Go.Proofs
theorem dy9 {T:Int}{s:j1}(h:bp7 T s s)(c:E3)(hT:c.At<=T):∃t l e,(al9 s c).m=some (t,l,e)/\l.length<=3200/\bp7 T s (bif e !=0 then s else t):=by
 have hm:=h.ok.most
 have hf:=h.few
 rw[cb9,Sc.eb7 s c (by omega) (by omega)]
 obtain⟨k1,k2⟩:=Sc.dA9 h.ok c
 refine⟨(Sc.aW8 s c).1,(Sc.aW8 s c).2.1,(Sc.aW8 s c).2.2,rfl,k1,?_⟩
 by_cases he:(Sc.aW8 s c).2.2=0
 ·obtain⟨a,b,d,f⟩:=k2 he
  rw[he,show((0:Int) !=0)=false from rfl]
  exact⟨Sc.ev9 he,by simp only[fh5];rw[b];exact hf,a,by simp only[fh5];omega,by simp only[fh5];omega⟩
 ·rw[show((Sc.aW8 s c).2.2 !=0)=true by simpa using he];exact h
theorem bp7.trans {T:Int}{s t u:j1}(h:bp7 T s t)(k:bp7 T t u):bp7 T s u:=⟨k.ok,k.few,k.eng.trans h.eng,fe7 h.low k.low,k.now⟩
theorem bp7.self {T:Int}{s t:j1}(h:bp7 T s t):bp7 T t t:=⟨h.ok,h.few,rfl,dr2 _,h.now⟩
theorem eI6 (o:ad7):(bu0 o).m=some o:=rfl
theorem en3 (n:ad7)(e:Int)(o:ad7):(aT3 n e o).m=some (bif e !=0 then o else n):=by
 simp only[aT3,C.of,M.run]
 cases e !=0<;>rfl
theorem eI8 (o:aa8):(bA5 o).m=some o:=rfl
theorem en7 (n:aa8)(e:Int)(o:aa8):(aZ7 n e o).m=some (bif e !=0 then o else n):=by
 simp only[aZ7,C.of,M.run]
 cases e !=0<;>rfl
theorem eZ0 (o:aa1):(bL9 o).m=some o:=rfl
theorem eP7 (n:aa1)(e:Int)(o:aa1):(be6 n e o).m=some (bif e !=0 then o else n):=by
 simp only[be6,C.of,M.run]
 cases e !=0<;>rfl
theorem enz {e:Int}(h:¬e=0):(e !=0)=true:=by simpa using h
theorem ec1 {y:aa8}(h:syB y=true):0<=y.F9/\y.F9<=1099511627776:=by
 unfold syB at h
 split at h
 ·simp only[aI0,beq_iff_eq]at h;omega
 ·split at h
  ·split at h
   ·simp only[aI0,beq_iff_eq,aJ7]at h;omega
   ·simp only[aI0,fi2,aJ7]at h;omega
  ·split at h
   ·simp only[aI0,fi2,aJ7]at h;omega
   ·cases h
structure Tee (T:Int)(s:j8):Prop where
 t0:0<=T
 sch:bp7 T s.u.j4 s.u.j4
 sy:syB s.u.Q4=true/\s.u.Q4.G9<=T
 ph:phB s.u.M7=true
 tf:tfB s.u.H8=true/\s.u.H8.G9<=T
theorem ec4 {T:Int}{s:j8}(h:Tee T s)(a:Int)(ha:a<=T)(hl:s.y9.length<=900000000):
  ∃c y p f w,(bu2 s a).m=some {s with u:={s.u with j4:=c,Q4:=y,M7:=p,H8:=f},y9:=w}/\
   bp7 T s.u.j4 c/\(syB y=true/\y.G9<=T)/\phB p=true/\(tfB f=true/\f.G9<=T)/\w.length<=s.y9.length+10000:=by
 have ht0:=h.t0
 obtain⟨f,ok,e,e1,h1⟩:=eG9 s.u.H8 a
 have hf:tfB (bif e !=0 then s.u.H8 else f)=true/\(bif e !=0 then s.u.H8 else f).G9<=T:=by
  by_cases he:e=0
  ·subst he
   obtain⟨_,q2,q3,_⟩:=h1 rfl
   rw[show((0:Int) !=0)=false from rfl]
   refine⟨q2,?_⟩
   simp only[fh5]
   rcases q3 with q3|q3
   ·omega
   ·rw[q3];exact h.tf.2
  ·rw[enz he];exact h.tf
 simp only[bu2,CG.of,M.run,eZ0,eP7,e1,as5]
 generalize(bif e !=0 then s.u.H8 else f)=g at hf|-
 cases(e !=0|| !ok)
 ·simp only[fh5,eI8,cx6,as5]
  obtain⟨y,e2,q1,q2⟩:=eG7 s.u.Q4 a
  simp only[q1,en7,as5]
  have hy:syB (bif e2 !=0 then s.u.Q4 else y)=true/\(bif e2 !=0 then s.u.Q4 else y).G9<=T:=by
   by_cases he:e2=0
   ·subst he
    obtain⟨r1,r2⟩:=q2 rfl
    rw[show((0:Int) !=0)=false from rfl]
    refine⟨r1,?_⟩
    simp only[fh5]
    rcases r2 with r2|r2
    ·omega
    ·rw[r2];exact ht0
   ·rw[enz he];exact h.sy
  generalize(bif e2 !=0 then s.u.Q4 else y)=z at hy|-
  obtain⟨c,p,w,q3,hc,hp,hw⟩:=cO7 (T:=T) (s:={s with u:={s.u with H8:=g}}) h.sch h.ph z a ha (by simp only;omega)
  simp only at hc hw
  rw[q3]
  simp only[as5]
  cases(z.Mode !=2)
  ·simp only[fh5]
   have key:∃c2 p2 w2,(bif z.ay8==0 then
     (bJ8 c0 p).m.bind fun t_1=>(bif !(bif t_1.2 !=0 then p else t_1.1).aX6 then
       (aY2 {s with u:={s.u with j4:=c,Q4:=z,M7:=bif t_1.2 !=0 then p else t_1.1,H8:=g},y9:=w} a).m.bind fun t=>some t
      else some {s with u:={s.u with j4:=c,Q4:=z,M7:=bif t_1.2 !=0 then p else t_1.1,H8:=g},y9:=w})
     else some {s with u:={s.u with j4:=c,Q4:=z,M7:=p,H8:=g},y9:=w})=
     some ({s with u:={s.u with j4:=c2,Q4:=z,M7:=p2,H8:=g},y9:=w2}:j8)/\bp7 T s.u.j4 c2/\phB p2=true/\w2.length<=s.y9.length+6600:=by
    cases z.ay8==0
    ·exact⟨c,p,w,rfl,hc,hp,by omega⟩
    ·obtain⟨r,e4,q4,q5⟩:=eE1 p
     simp only[fh8,q4,as5]
     have hr:phB (bif e4 !=0 then p else r)=true:=by
      by_cases he:e4=0
      ·subst he;exact q5 rfl
      ·rw[enz he];exact hp
     generalize(bif e4 !=0 then p else r)=p3 at hr|-
     cases p3.aX6
     ·simp only[cI3,fh8]
      obtain⟨c3,w3,q6,h6,h7⟩:=dz8 (T:=T) (s:={s with u:={s.u with j4:=c,Q4:=z,M7:=p3,H8:=g},y9:=w}) hc.self a ha (by simp only;omega)
      rw[q6]
      exact⟨c3,p3,w3,rfl,hc.trans h6,hr,by simp only at h7;omega⟩
     ·exact⟨c,p3,w,rfl,hc,hr,by omega⟩
   obtain⟨c2,p2,w2,q7,h7,h8,h9⟩:=key
   simp only[eI6,en3,ck9,as5]
   rw[q7]
   simp only[as5]
   cases p2.aX6
   ·exact⟨c2,z,p2,g,w2,rfl,h7,hy,h8,hf,by omega⟩
   ·simp only[fh8]
    obtain⟨k,e8,q8,hk⟩:=dT2 a z.ay8 p2.bG2 z.F9 (ec1 hy.1)
    obtain⟨t3,l3,e9,q9,hl3,h10⟩:=dy9 h7.self k (by omega)
    simp only[q8,q9,as5]
    rw[bU3 _ t3 l3 e9 (by simp only;omega)]
    simp only[as5]
    refine⟨_,z,p2,g,_,rfl,h7.trans h10,hy,h8,hf,?_⟩
    cases e9 !=0
    ·simp only[fh5,ba3];omega
    ·simp only[fh8];omega
  ·exact⟨c,z,p,g,w,rfl,hc,hy,hp,hf,by omega⟩
 ·exact⟨_,_,_,g,_,rfl,h.sch,h.sy,h.ph,hf,by omega⟩
abbrev upS (s:j8)(c:j1)(y:aa8)(p:ad7)(f:aa1)(w:List j6):j8:={s with u:={s.u with j4:=c,Q4:=y,M7:=p,H8:=f},y9:=w}
theorem dg3 {s:j8}(hp:phB s.u.M7=true)(x:Int)(l:List Int)(hl:l.length<=100000):
  ∃p,(ba0 s (x::l)).m=some (upS s s.u.j4 s.u.Q4 p s.u.H8 s.y9,l)/\phB p=true:=by
 obtain⟨r,e,e1,h1⟩:=eR3 s.u.M7
 have hr:phB (bif e !=0 then s.u.M7 else r)=true:=by
  by_cases he:e=0
  ·subst he;exact h1 rfl
  ·rw[enz he];exact hp
 have h2:ay6 (x::l) 1 ((x::l).length:Int)=some l:=by
  unfold ay6
  rw[if_pos (by simp only[br6];omega)]
  simp
 simp only[ba0,CG.of,M.run,U1.m,eI6,en3,ck9,e1,h2,as5]
 exact⟨_,rfl,hr⟩
theorem db3 (a:Int):∀(l:List Int) (s:j8),phB s.u.M7=true->l.length<=100000->
  ∃l' p,L7 (fun x=>(aT9 a x).run) (l,s)=some (.inl (l',upS s s.u.j4 s.u.Q4 p s.u.H8 s.y9))/\phB p=true/\l'.length<=l.length
 |[],s,hp,_=>⟨[],s.u.M7,D9 rfl,hp,by simp⟩
 |x::l,s,hp,hl=>by
  by_cases hx:x<=a
  ·obtain⟨p,e1,h1⟩:=dg3 hp x l (by simp only[br6]at hl;omega)
   obtain⟨l',p',e2,h2,h3⟩:=db3 a l (upS s s.u.j4 s.u.Q4 p s.u.H8 s.y9) h1 (by simp only[br6]at hl;omega)
   refine⟨l',p',?_,h2,by simp only[br6];omega⟩
   rw[G8 (s':=(l,upS s s.u.j4 s.u.Q4 p s.u.H8 s.y9)) ?_]
   ·exact e2
   ·simp only[aT9,M.run,L1.m]
    rw[fi0 (show(((x::l).length:Nat):Int)>0 by simp only[br6];omega)]
    rw[show D4 (x::l) 0=some x from rfl]
    simp only[fh8,as5,fi0 hx]
    rw[e1]
    rfl
  ·refine⟨x::l,s.u.M7,D9 ?_,hp,cv6 _⟩
   simp only[aT9,M.run,L1.m]
   rw[fi0 (show(((x::l).length:Nat):Int)>0 by simp only[br6];omega)]
   rw[show D4 (x::l) 0=some x from rfl]
   simp only[fh8,as5,fi1 hx]
   rfl
theorem db2:∀(l:List Int) (s:j8),phB s.u.M7=true->l.length<=100000->
  ∃p,L7 (fun x=>(bi5 x).run) (l,s)=some (.inl ([],upS s s.u.j4 s.u.Q4 p s.u.H8 s.y9))/\phB p=true
 |[],s,hp,_=>⟨s.u.M7,D9 rfl,hp⟩
 |x::l,s,hp,hl=>by
  obtain⟨p,e1,h1⟩:=dg3 hp x l (by simp only[br6]at hl;omega)
  obtain⟨p',e2,h2⟩:=db2 l (upS s s.u.j4 s.u.Q4 p s.u.H8 s.y9) h1 (by simp only[br6]at hl;omega)
  refine⟨p',?_,h2⟩
  rw[G8 (s':=(l,upS s s.u.j4 s.u.Q4 p s.u.H8 s.y9)) ?_]
  ·exact e2
  ·simp only[bi5,M.run]
   rw[fi0 (show(((x::l).length:Nat):Int)>0 by simp only[br6];omega)]
   simp only[fh8]
   rw[e1]
   rfl
theorem dg1 {s:j8}{l:List Int}(hp:bX2 s.u.ab0 s.u.A8)(ht:0<=s.t/\s.t<=1099511627776)(he:Edg (s.u.A8.K2/65536) ((s.u.A8.K2+10000*s.u.A8.D2)/65536) l):
  ∃r,(aJ0 s l).m=some r/\r.length<=1000/\∀x∈r,x<=s.t+10000:=by
 have h1:=hp.pos
 have h2:=hp.spd
 have hn:=he.len
 by_cases h0:s.u.A8.D2=0
 ·have h3:l=[]:=by
   cases l with
   |nil=>rfl
   |cons x l=>
    have a:=he.lo x (bN7 ..)
    have b:=he.hi x (bN7 ..)
    rw[h0]at b
    simp only[Int.mul_zero,Int.add_zero]at b
    omega
  subst h3
  simp only[aJ0,CG.of,M.run]
  obtain⟨r,h3,h4⟩:=aM3 ([]:List Int) (by simp) (fun i x (o:List Int)=>(aP6 s i x o).run) (fun _ o=>o=[]) [] rfl (fun k x o hx _=>by simp at hx)
  rw[h3]
  subst h4
  exact⟨[],rfl,by simp,by simp⟩
 ·obtain⟨r,e1,e2,e3⟩:=ec3 s l (by omega) (by omega) h1 ht (fun x hx=>by have:=he.hi x hx;omega) (fun x hx=>by have:=he.lo x hx;omega)
  exact⟨r,e1,by omega,e3⟩
structure Tst (T:Int)(s0:j8)(n:Nat)(c:j1)(y:aa8)(p:ad7)(f:aa1)(w:List j6):Prop where
 sch:bp7 T s0.u.j4 c
 sy:syB y=true/\y.G9<=T
 ph:phB p=true
 tf:tfB f=true/\f.G9<=T
 few:w.length<=s0.y9.length+n
theorem dV1 {T:Int}{s:j8}(h:Tee T s)(l v:List Int)(hl:l.length<=1000)(hx:∀x∈l,x<=T)(hv:v.length<=1000)(hs:s.y9.length<=100000):
  ∃v' c y p f w,L7 (fun p:Int×(List Int×j8)=>bif decide (p.1<(l.length:Int))then((D4 l p.1).bind fun x=>((fun i x u=>(aT8 i x u).run) p.1 x p.2).bind (aD4 p.1))else some (.inr (.inl p.2))) (0,(v,s))=some (.inl (v',upS s c y p f w))/\v'.length<=1000/\Tst T s (10000*l.length) c y p f w:=by
 obtain⟨u,e1,⟨hu,c,y,p,f,w,h2,h3⟩⟩:=aM3 l (by omega) (fun i x (u:List Int×j8)=>(aT8 i x u).run)
  (fun k u=>u.1.length<=1000/\∃c y p f w,u.2=upS s c y p f w/\Tst T s (10000*k) c y p f w) (v,s)
  ⟨hv,s.u.j4,s.u.Q4,s.u.M7,s.u.H8,s.y9,rfl,h.sch,h.sy,h.ph,h.tf,by omega⟩ (fun k x u hk hI=>by
   obtain⟨hu,c,y,p,f,w,h2,h3⟩:=hI
   obtain⟨v1,u2⟩:=u
   simp only at hu h2
   subst h2
   have hkl:=(bG0.1 hk).1
   have hw:=h3.few
   obtain⟨l',p',q1,q2,q3⟩:=db3 x v1 (upS s c y p f w) h3.ph (by omega)
   simp only[aT8,M.run]
   rw[q1]
   simp only[as5]
   obtain⟨c2,y2,p2,f2,w2,r1,r2,r3,r4,r5,r6⟩:=ec4 (T:=T) (s:=upS s c y p' f w) ⟨h.t0,h3.sch.self,h3.sy,q2,h3.tf⟩ x (hx x (do0 hk)) (by simp only;omega)
   simp only at r1 r2 r6
   rw[r1]
   exact⟨_,rfl,by simp only;omega,c2,y2,p2,f2,w2,rfl,h3.sch.trans r2,r3,r4,r5,by omega⟩)
 obtain⟨v',u2⟩:=u
 simp only at hu h2
 subst h2
 exact⟨v',c,y,p,f,w,e1,hu,h3⟩
theorem ew2 {s:j8}(h:Tee (s.t+10000) s)(hp:bX2 s.u.ab0 s.u.A8)(ht:0<=s.t/\s.t+10000<=549755813888)(hl:s.y9.length<=1000):
  ∃c y p f w,(bk5 s).m=some (upS s c y p f w)/\Tst (s.t+10000) s 20000000 c y p f w/\c.k6.V0=s.t+10000:=by
 have bJ2:=hp.pos
 have hspd:=hp.spd
 have ht0:=h.t0
 obtain⟨r,e,e1,h1⟩:=eu9 s.u.Q4 s.t
 have hy:syB (bif e !=0 then s.u.Q4 else r)=true/\(bif e !=0 then s.u.Q4 else r).G9<=s.t+10000:=by
  by_cases he:e=0
  ·subst he
   obtain⟨q1,q2⟩:=h1 rfl
   rw[show((0:Int) !=0)=false from rfl]
   refine⟨q1,?_⟩
   simp only[fh5]
   rcases q2 with q2|q2
   ·rw[q2];exact h.sy.2
   ·rw[q2];exact ht0
  ·rw[enz he];exact h.sy
 simp only[bk5,CG.of,M.run,eI8,cx6,ck9,e1,en7,as5]
 generalize(bif e !=0 then s.u.Q4 else r)=z at hy|-
 obtain⟨c,p,w,q3,hc,hph,hw⟩:=cO7 (T:=s.t+10000) h.sch h.ph z s.t (by omega) (by omega)
 rw[q3]
 simp only[as5]
 rw[j5 (n:=10000*s.u.A8.D2) (by omega) (by omega),j5 (n:=s.u.A8.K2+10000*s.u.A8.D2) (by omega) (by omega),cz5 bJ2.1,cz5 (show 0<=s.u.A8.K2+10000*s.u.A8.D2 by omega),
  j5 (n:=s.u.A8.K2/65536) (by omega) (by omega),j5 (n:=(s.u.A8.K2+10000*s.u.A8.D2)/65536) (by omega) (by omega)]
 obtain⟨l1,e4,b1,b2⟩:=dq0 (s.u.A8.K2/65536) ((s.u.A8.K2+10000*s.u.A8.D2)/65536)
 obtain⟨l2,e5,b3,b4⟩:=di8 (s.u.A8.K2/65536) ((s.u.A8.K2+10000*s.u.A8.D2)/65536)
 rw[b1]
 simp only[as5]
 rw[b3]
 simp only[as5]
 generalize hsv:({s with u:={s.u with j4:=c,Q4:=z,M7:=p},y9:=w}:j8)=sv
 have hv1:sv.u.ab0=s.u.ab0:=by subst hsv;rfl
 have hv2:sv.u.A8=s.u.A8:=by subst hsv;rfl
 have hv3:sv.t=s.t:=by subst hsv;rfl
 obtain⟨v7,e7,k7,k8⟩:=dg1 (s:=sv) (l:=l2) (by rw[hv1,hv2];exact hp) (by rw[hv3];omega) (by rw[hv2];exact b4)
 obtain⟨v8,e8,k9,k10⟩:=dg1 (s:=sv) (l:=l1) (by rw[hv1,hv2];exact hp) (by rw[hv3];omega) (by rw[hv2];exact b2)
 rw[e7]
 simp only[as5]
 rw[e8]
 simp only[as5]
 rw[hv3]at k10
 have htee:Tee (s.t+10000) sv:=by subst hsv;exact⟨ht0,hc.self,hy,hph,h.tf⟩
 have hsw:sv.y9.length<=s.y9.length+3300:=by subst hsv;exact hw
 obtain⟨v',c2,y2,p2,f2,w2,e9,n9,t9⟩:=dV1 htee v8 v7 k9 k10 k7 (by omega)
 rw[e9]
 simp only[as5]
 obtain⟨p3,e10,h10⟩:=db2 v' (upS sv c2 y2 p2 f2 w2) t9.ph (by omega)
 rw[e10]
 simp only[as5]
 have hg:=t9.sch
 have bE6:=hg.now
 have hok:=hg.ok
 have dW4:=hok.most
 rw[hv3,j5 (n:=s.t+10000) (by omega) (by omega),bl9,Sc.dQ8 hok (by have:=hg.few;omega) (s.t+10000) bE6 (by omega)]
 obtain⟨a1,a2,a3,a4⟩:=Sc.ca2 hok (s.t+10000) bE6 (by omega)
 have a5:=Sc.dj9 hok (s.t+10000) bE6
 have hfew:=t9.few
 simp only[as5]
 rw[bU3 _ _ (Sc.goE (s.t+10000) c2).1 0 (by simp only;omega)]
 have hsc:sv.u.j4=c:=by subst hsv;rfl
 rw[hsc]at hg
 refine⟨(Sc.goE (s.t+10000) c2).2,y2,p3,f2,w2++(Sc.goE (s.t+10000) c2).1,?_,⟨hc.trans (hg.trans ⟨a1,by rw[a3];exact hg.few,a2,by omega,by omega⟩),t9.sy,h10,t9.tf,by rw[ba3];omega⟩,a4⟩
 subst hsv
 rfl
theorem eB3 (l:List j6)(hl:l.length<=1000000)(f:j6->Option Bool)(p:j6->Bool)(h:∀y∈l,f y=some (p y)):Pv.P0 l f=some (match l.findIdx? p with|some k=>(k:Int)|none=>-1):=by
 unfold Pv.P0 Pv.W6
 rw[bc6 l (by omega) (fun(i:Int) x (_:Unit)=>ai8 (f x) fun v=>bif v then(some (Fl.ret i))else(some (Fl.next ())))]
 have:=Sc.bJ0 f p l 0 h
 rw[show((0:Nat):Int)=0 from rfl]at this
 rw[this]
 cases l.findIdx? p with
 |none=>rfl
 |some k=>simp
theorem eN3 (l:List j6)(hl:l.length<=1000000)(f:j6->Option Bool)(p:j6->Bool)(h:∀y∈l,f y=some (p y)):Pv.N6 l f=some (l.filter fun y=>!p y):=by
 unfold Pv.N6
 rw[eB3 l hl f p h]
 cases hf:l.findIdx? p with
 |none=>simp only[as5];rw[Sc.dc1 hf];rfl
 |some v=>
  obtain⟨hv,htk⟩:=Sc.cu1 hf
  simp only[as5]
  have e0:((v:Int)== -1)=false:=beq_eq_false_iff_ne.2 (by omega)
  rw[e0,j5 (n:=(v:Int)+1) (by omega) (by omega)]
  simp only[fh5]
  obtain⟨t,k1,k2⟩:=cv0 (mb:=Pv.am0 f)
   (fun j st=>∃i:Nat,st.1=(i:Int)/\st.2.1=((v+1+j:Nat):Int)/\i<v+1+j/\i=((l.take (v+1+j)).filter fun y=>!p y).length/\st.2.2.length=l.length/\st.2.2.take i=((l.take (v+1+j)).filter fun y=>!p y)/\st.2.2.drop (v+1+j)=l.drop (v+1+j))
   (fun t=>∃(s:List j6) (i:Nat),t= .inl ((i:Int),(l.length:Int),s)/\s.length=l.length/\i<=l.length/\s.take i=l.filter fun y=>!p y) (l.length-(v+1)) 0 ((v:Int),(v:Int)+1,l)
   ⟨v,rfl,by push_cast;omega,by omega,by rw[eb1,htk,bt6];omega,rfl,by rw[eb1,htk],rfl⟩
   (fun j _ hj st ⟨i,h1,h2,h3,h4,h5,h6,h7⟩=>by
    have hjl:v+1+j<l.length:=by omega
    have cX1:D4 st.2.2 st.2.1=some l[v+1+j]:=by
     rw[h2,T8,<-eH1,h7,eH1,aW9 hjl]
    have hlt:decide (st.2.1<(st.2.2.length:Int))=true:=by rw[h2,h5];simp;omega
    have htk2:l.take (v+1+(j+1))=l.take (v+1+j)++[l[v+1+j]]:=by rw[<-dK8];exact do9 hjl
    have hdr:∀s:List j6,s.drop (v+1+j)=l.drop (v+1+j)->s.drop (v+1+(j+1))=l.drop (v+1+(j+1)):=fun s hs=>by
     rw[<-dK8,<-ex6,hs,ex6]
    unfold Pv.am0
    rw[hlt,cX1]
    simp only[fh8,as5,h _ (bd2 hjl)]
    rw[h2,j5 (n:=((v+1+j:Nat):Int)+1) (by omega) (by omega)]
    cases hp:p l[v+1+j]
    ·have hi:i<st.2.2.length:=by omega
     simp only[cI3,fh8]
     rw[h1,C7 _ _ hi]
     simp only[as5]
     rw[T9 _ _ _ hi,j5 (n:=(i:Int)+1) (by omega) (by omega)]
     have hfl:((l.take (v+1+(j+1))).filter fun y=>!p y)=((l.take (v+1+j)).filter fun y=>!p y)++[l[v+1+j]]:=by
      rw[htk2,dK2];simp[hp]
     refine⟨_,rfl,i+1,by push_cast;rfl,by push_cast;omega,by omega,?_,by simp[h5],?_,?_⟩
     ·rw[hfl,ba3,<-h4];rfl
     ·rw[hfl,<-h6]
      rw[do9 (by simpa using hi),List.take_set_of_le (cv6 _),dN1]
     ·refine hdr _ ?_
      rw[List.drop_set_of_lt (by omega)];exact h7
    ·simp only[aX0,fh5]
     have hfl:((l.take (v+1+(j+1))).filter fun y=>!p y)=((l.take (v+1+j)).filter fun y=>!p y):=by
      rw[htk2,dK2];simp[hp]
     exact⟨_,rfl,i,h1,by push_cast;omega,by omega,by rw[hfl];exact h4,h5,by rw[hfl];exact h6,hdr _ h7⟩)
   (fun st ⟨i,h1,h2,h3,h4,h5,h6,h7⟩=>by
    have hn:v+1+(0+(l.length-(v+1)))=l.length:=by omega
    rw[hn]at h2 h3 h4 h6
    have hlt:decide (st.2.1<(st.2.2.length:Int))=false:=by rw[h2,h5];simp
    unfold Pv.am0
    rw[hlt]
    simp only[fh5]
    refine⟨_,rfl,st.2.2,i,?_,h5,by omega,by rw[h6,ey1]⟩
    rw[h1,h2])
  obtain⟨s,i,rfl,hs,hi,ht⟩:=k2
  rw[k1]
  simp only[as5]
  have hc:ck3 (i:Int) (s.length:Int) s.length=some ():=by unfold ck3;rw[if_pos ⟨by omega,by omega,by omega⟩]
  rw[hc]
  simp only[as5]
  have hsl:ay6 (bI1 s (i:Int) (s.length:Int) (⟨0,0,false⟩:j6)) 0 (i:Int)=some (s.take i):=Sc.cM0 s i _ (by omega)
  rw[hsl,ht]
  rfl
theorem bgi {α β:Type}(c:Bool)(x y:α)(f:α->Option β):ai8 (bif c then some x else some y) f=f (bif c then x else y):=by cases c<;>rfl
theorem eH8 {α β:Type}{A:Option α}{F:α->Option β}(J:α->Prop){K:β->Prop}(h:∃x,A=some x/\J x)(k:∀x,J x->∃r,F x=some r/\K r):∃r,A.bind F=some r/\K r:=by
 obtain⟨x,rfl,h2⟩:=h
 exact k x h2
theorem eW7 {β:Type}{c:Bool}{A B:Option β}{K:β->Prop}(h:c=true->∃r,A=some r/\K r)(k:c=false->∃r,B=some r/\K r):∃r,(bif c then A else B)=some r/\K r:=by
 cases c
 ·exact k rfl
 ·exact h rfl
theorem cS1 {S R:Type}(n:Nat)(hn:n<=1000000000)(f:Int->S->Option (Fl S R))(I:Nat->S->Prop)(J:R->Prop)(s:S)(h0:I 0 s)(h:∀k s,k<n->I k s->(∃s',f (k:Int) s=some (.next s')/\I (k+1) s')\/∃u,f (k:Int) s=some (.ret u)/\J u):
  ∃b,L7 (fun p:Int×S=>bif decide (p.1<(n:Int))then((f p.1 p.2).bind (aD4 p.1))else some (.inr (.inl p.2))) (0,s)=some b/\((∃s',b= .inl s'/\I n s')\/∃u,b= .inr u/\J u):=by
 exact bu8 (mb:=fun p:Int×S=>bif decide (p.1<(n:Int))then((f p.1 p.2).bind (aD4 p.1))else some (.inr (.inl p.2))) (fun x=>∃k:Nat,x.1=(k:Int)/\k<=n/\I k x.2) (fun x=>n-x.1.toNat) (fun b:S⊕R=>(∃s',b= .inl s'/\I n s')\/∃u,b= .inr u/\J u)
  (fun x ⟨k,hk,hkn,hi⟩=>by
   obtain⟨a,u⟩:=x
   simp only at hk hi
   subst hk
   by_cases hlt:k<n
   ·rcases h k u hlt hi with⟨s',h1,h2⟩|⟨v,h1,h2⟩
    ·left
     simp only
     rw[fi0 (show((k:Nat):Int)<(n:Int) by omega),h1]
     refine⟨(((k+1:Nat):Int),s'),?_,⟨k+1,rfl,by omega,h2⟩,by simp only;omega⟩
     simp only[fh8,as5,aD4]
     first|rfl|(rw[j5 (by omega) (by omega)];rfl)
    ·right
     simp only
     rw[fi0 (show((k:Nat):Int)<(n:Int) by omega),h1]
     exact⟨_,rfl,.inr ⟨v,rfl,h2⟩⟩
   ·right
    simp only
    rw[fi1 (show¬((k:Nat):Int)<(n:Int) by omega)]
    have:k=n:=by omega
    subst this
    exact⟨_,rfl,.inl ⟨u,rfl,hi⟩⟩) n (0,s) (by simp) ⟨0,rfl,by omega,h0⟩
theorem dG4 (l:List A2)(hl:l.length<=1000000)(f:Cl Tryz.prog A2 Bool (fun x=>[aP1 x]) (fun r=>.t (tB r)))(p:A2->Bool)(h:∀x,f.f x=some (p x)):∃v,(H4 l f).m=some v/\(0<=v->v<(l.length:Int)):=by
 simp only[H4,C.of,M.run]
 obtain⟨b,e,h1⟩:=cS1 l.length (by omega) (fun i (u:Unit)=>(N7 l f i u).run) (fun _ _=>True) (fun v:Int=>v<(l.length:Int)) () trivial (fun k u hk _=>by
  simp only[N7,M.run,L1.m,Cl.at]
  rw[T8,aW9 hk]
  simp only[as5,h]
  cases p l[k]
  ·exact .inl ⟨(),rfl,trivial⟩
  ·exact .inr ⟨_,rfl,by omega⟩)
 rw[e]
 rcases h1 with⟨u,rfl,_⟩|⟨v,rfl,h2⟩
 ·exact⟨-1,rfl,fun h=>by omega⟩
 ·exact⟨v,rfl,fun _=>h2⟩
theorem eo5 {t:o7}(h:cc9 t=true)(a:Int):∃r,(aA3 t a 13500).m=some r:=by
 have hd:=(df9 h).dead
 rw[cK6]
 by_cases ha:0<=a/\a<=1048576
 ·rw[dY1 hd ha (by omega)]
  exact⟨_,rfl⟩
 ·have hd':=hd
  rw[aI0]at hd
  obtain⟨h1,h2⟩:=hd
  have hl:=(bm3 h1).yl
  have hx:=(bm3 h1).x.most
  have e:Pv.o6 t.aw5.Y Pv.aF4=some (t.aw5.Y.any fun y=>!inR 0 10000 y):=ap9 _ (by omega) _ _ (fun y _=>rfl)
  have e2:(t.aw5.Y.any fun y=>!inR 0 10000 y)=false:=by
   rw[dv4]
   intro y hy
   rw[bx8.1 h2 y hy];simp
  have e3:Pv.aB3 t a 13500=some (0,2):=by
   unfold Pv.aB3
   rw[aq1,h1,e,e2,cN9]
   have:inR 0 1048576 a=false:=by
    unfold inR
    rw[Bool.eq_false_iff]
    intro h3
    simp only[aI0,fi2]at h3
    exact ha h3
   rw[this]
   rfl
  unfold Pv.aA3
  rw[e3]
  exact⟨_,rfl⟩
theorem eI7 (o:Z0):(bu1 o).m=some o:=rfl
theorem en6 (n:Z0)(e:Int)(o:Z0):(aT4 n e o).m=some (bif e !=0 then o else n):=by
 simp only[aT4,C.of,M.run]
 cases e !=0<;>rfl
theorem dP0 {b:L2}{p q:Z0}{e:Int}(hp:bX2 b p)(h:e=0->bX2 b q):bX2 b (bif e !=0 then p else q):=by
 by_cases he:e=0
 ·subst he;exact h rfl
 ·rw[enz he];exact hp
theorem eo2 (l:List j6):∃b,(cf9 l).m=some b/\(b=true->l.length<=1000):=by
 simp only[cf9,C.of,M.run]
 by_cases h:(l.length:Int)>1000
 ·rw[fi0 h];exact⟨false,rfl,fun h=>by cases h⟩
 ·rw[fi1 h]
  simp only[fh5]
  rcases bv8 l (by omega) (fun i x (s:Int)=>(bB3 i x s).run) (fun _ _=>True) (fun _=>True) 0 trivial (fun k x s hx _=>by
   simp only[bB3,M.run,dn2,as5]
   cases((((!ae0 x.At)||(decide (x.At<s)))||(decide (x.Channel<0)))||(decide (x.Channel>=16)))
   ·exact .inl ⟨_,rfl,trivial⟩
   ·exact .inr ⟨_,rfl,trivial⟩)with⟨s',e,_⟩|⟨u,e,_⟩
  ·rw[e];exact⟨true,rfl,fun _=>by omega⟩
  ·rw[e];exact⟨u,rfl,fun _=>by omega⟩
theorem dU8 (l:List j6)(hl:l.length<=1073741824):(aS4 l).m=some l:=by
 simp only[aS4,CG.of,M.run,U1.m]
 rw[H7 _ _ (by simpa using hl)]
 rfl
structure UOk (u:ac3):Prop where
 C4:cc9 u.u6=true
 pl:bX2 u.ab0 u.A8
 sch:Sc.aN2 u.j4
 few:u.j4.Next.length<=8
 now:u.j4.k6.V0=u.Time
 con:bz0 u.j4.u7 u.u4=true
 tf:tfB u.H8=true/\u.H8.G9<=u.Time
 sy:syB u.Q4=true/\u.Q4.G9<=u.Time
 ph:phB u.M7=true
 gr:grB u.M0=true
 qz:eV8 u.Time u.I8
 sg:sgB u.L6=true/\u.L6.aQ4<=u.Time
 flt:∃c t,(1<=c/\c<=1073741824)/\Fr.Inv cf0 u.F3 c true t
 time:0<=u.Time/\u.Time<=549755813888
 ten:u.Time%10000=0
structure Mid (T:Int)(s:j8):Prop where
 ok:SOk s
 C4:cc9 s.u.u6=true
 pl:bX2 s.u.ab0 s.u.A8
 sch:Sc.aN2 s.u.j4
 few:s.u.j4.Next.length<=8
 now:s.u.j4.k6.V0=T
 con:bz0 s.u.j4.u7 s.u.u4=true
 tf:tfB s.u.H8=true/\s.u.H8.G9<=T
 sy:syB s.u.Q4=true/\s.u.Q4.G9<=T
 ph:phB s.u.M7=true
 gr:grB s.u.M0=true
 qz:eV8 s.t s.u.I8
 sg:sgB s.u.L6=true/\s.u.L6.aQ4<=s.t
 flt:∃c t,(1<=c/\c<=1073741824)/\Fr.Inv cf0 s.u.F3 c true t
 act:s.Z2.length<=7/\∀x∈s.Z2,x.ae9.length<=16
structure DOk (d:I5)(k:List Y9):Prop where
 few:k.length<=100
 val:∀b∈k,-1000000<=b.Value/\b.Value<=1000000
 ped:0<=d.I9/\d.I9<=1000
structure eL0 (r:aj1):Prop where
 sw:r.aX7.length<=1000
 act:r.af3.length<=7/\∀x∈r.af3,x.ae9.length<=16
theorem eO5 {f:B7}(hc:Fr.Cfs cf0)(h:∃c t,(1<=c/\c<=1073741824)/\Fr.Inv cf0 f c true t):(Z6 f).m=some true/\f.L.length=7/\f.ay0=true:=by
 obtain⟨c,t,hct,hi⟩:=h
 refine⟨?_,by rw[hi.len,bq4],hi.run⟩
 rw[be1]
 exact Fr.bU6 hc hi (by omega) hct.2 (fun _=>hct.1)
theorem eS7 {s:j1}(h:Sc.aN2 s)(hf:s.Next.length<=8):(J8 s).m=some true:=by
 have:=h.most
 rw[au4,Sc.bc8 s (by omega) (by omega),Sc.aY7.2 h]
theorem dg4 {u:ac3}(hc:Fr.Cfs cf0)(h:UOk u):(bV3 u).m=some true:=by
 have e1:(ac5 u.u6).m=some true:=by rw[bh4,bi0,h.C4]
 have e2:=dm3 h.pl
 have e3:=eS7 h.sch h.few
 have e4:(aq0 u.j4.u7 u.u4).m=some true:=by rw[bL4,dO3,h.con]
 obtain⟨e5,e6,e7⟩:=eO5 hc h.flt
 have ht:=h.time
 have hf:=h.tf.2;have hs:=h.sy.2;have hq:=h.qz.2;have hg:=h.sg.2
 simp only[bV3,C.of,M.run,e1,e2,e3,e4,cU6,h.tf.1,cx6,cU4,h.sy.1,ck9,cR3,h.ph,cl2,h.gr,cn1,h.qz.1,cT2,h.sg.1,e5,e6,e7,as5,aX0,fh5,fh8]
 rw[fi0 (show u.Time>=0 by omega),fi0 ht.2,h.now,do1 ht.1,h.ten]
 have hm:G4 (G4 (G4 u.H8.G9 u.Q4.G9) u.L6.aQ4) u.I8.am7<=u.Time:=by
  unfold G4
  split<;>split<;>(try split)<;>omega
 rw[fi0 hm]
 simp
end Go.Proofs.YtmhdghdbojdgfaaGreat.Ec

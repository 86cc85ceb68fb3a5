/- A part of the proof of EcuBroken: Plain Lean, and more. -/
import Derived.Test.YtjhedhnghldjbaaGreatDoorEcuBrokenE
set_option linter.all false
set_option maxRecDepth 100000
noncomputable section
open Bool renaming and_eq_false_iff->eD7,and_eq_true->aK5,cond_false_left->fb6,cond_false_right->fb4,cond_true_left->eO1,cond_true_right->fb7,eq_iff_iff->dq3,false_and->eg6,false_eq_true->dE6,false_or->ec6,not_eq_false'->dQ6,not_eq_true'->bG5,not_false->cr8,not_not->eH7,not_true->aX5,or_eq_false_iff->cw7,or_eq_true->cH4,or_self->eC7,true_and->cA6
open Int renaming ediv_le_self->eD5,ediv_nonneg->eM5,le_refl->dj2,le_trans->ff4,lt_or_le->ff6,mul_le_mul->eP2,mul_le_mul_of_nonneg_left->dQ0,mul_nonneg->eP7,tdiv->cW7,tdiv_eq_ediv_of_nonneg->cx1,tmod->dq1,tmod_eq_emod_of_nonneg->cX1,toNat_natCast->eV1
open Go.IntKind renaming bits->eR9,i64->fb2
open List renaming all_eq_true->bt1,any_eq_false->dE4,any_eq_not_all_not->dE7,append_assoc->dE5,append_nil->dq6,cons_append->dy7,drop_drop->eh0,eq_of_mem_replicate->eZ9,filter_append->dq4,filter_cons_of_neg->fa5,filter_cons_of_pos->dS0,filter_eq_nil_iff->et4,filter_map->fg7,filter_nil->eS3,findIdx?_cons->fh3,flatMap_cons->eD1,flatMap_nil->fk2,foldl_cons->eh2,getElem?_eq_getElem->aX4,getElem?_eq_some_iff->bG6,getElem?_map->dr2,getElem?_set_ne->fb8,getElem_mem->bf3,getElem_replicate->fb3,getElem_set->fb9,getElem_set_self->dy0,head?_drop->eB5,length_append->bd4,length_cons->bu9,length_drop->en4,length_map->bY6,length_nil->cJ8,length_set->eh3,length_singleton->cJ4,length_take->cZ8,map_append->eC5,map_cons->cN4,map_nil->dT4,mem_append->du0,mem_cons->ca1,mem_cons_of_mem->bE0,mem_cons_self->cq1,mem_filter->dE3,mem_iff_getElem->cW9,mem_map->cK0,mem_of_getElem?->db2,mem_of_mem_take->eN2,mem_or_eq_of_mem_set->fe9,mem_range'->eN3,mem_singleton->eh4,nil_append->cZ2,not_mem_nil->eQ1,range->di4,range'->dI4,replicate->cr7,set_set->dQ9,take_length->eC8,take_succ_eq_append_getElem->cW8
open Nat renaming add_assoc->ef0,add_zero->eh1,le_refl->bO2,lt_or_ge->cZ9,zero_add->da1
open Option renaming bind->ak4,bind_some->aF2,getD_some->ep8,map_some->bN9
open Option.some renaming inj->ca0,injEq->aI6
namespace Go.Pv
open Go
theorem cp4 (r:j1):cU1 r=decide (Ar.cp3 r):=ca0 ((dL7 r).symm.trans (Ar.ao7 r))
def dm1 (g:aa8)(l:List j1):aa8:=
 ⟨max (min (min (max (Ar.fin l (-5000) 10000).low (g.o9-1000)) (g.o9+300)) (Ar.fin l (-5000) 10000).high) (-5000),(Ar.fin l (-5000) 10000).source⟩
def granted (g:aa8):Prop:=(-5000<=g.o9/\g.o9<=10000)/\(-1<=g.N7/\g.N7<=15)
def cB0:∀(q:List j1) (s:u7),(∀r∈q,0<=r.N7/\r.N7<=15)->(-1<=s.source/\s.source<=15)-> -1<=(q.foldl Ar.stp s).source/\(q.foldl Ar.stp s).source<=15
 |[],_,_,h=>h
 |r::q,s,hq,h=>by
  rw[eh2]
  refine cB0 q _ (fun x hx=>hq x (bE0 _ hx)) ?_
  have:=hq r (cq1 ..)
  unfold Ar.stp
  simp only
  split<;>omega
def eq9 {l:List j1}(h:Ar.cX0 l (-5000) 10000)(g:aa8):granted (dm1 g l):=by
 have r:=Ar.dd6 (l:=l) (low:=-5000) (high:=10000) (by omega)
 have s:=cB0 (Ar.cS4 l) (Ar.s0 (-5000) 10000) (fun x hx=>by
  have:=h.req x ((Ar.cn7 h.dr).1 hx)
  exact this.1) (by show -1<=(-1:Int)/\(-1:Int)<=15;omega)
 unfold granted dm1
 unfold Ar.fin at r s|-
 simp only
 exact⟨by omega,s⟩
def ek7 {g:aa8}{l:List j1}(hg:granted g)(h:Ar.cX0 l (-5000) 10000)(h19:l.length<=19):ap8 g l (-5000) 10000 300 1000=some (dm1 g l,0):=by
 have r:=Ar.dd6 (l:=l) (low:=-5000) (high:=10000) (by omega)
 have hl:=h.len
 unfold granted at hg
 unfold ap8
 rw[show P6 g.o9=some (inR (-5000) 10000 g.o9)from rfl,U8 hg.1.1 hg.1.2]
 simp only[aF2]
 rw[show((!true||decide (g.N7< -1))||decide (g.N7>15))=false by simp only[aX5,ec6,cw7,fl3];omega,Ar.eq4 _ _ _ (by omega),Ar.em3.2 h]
 simp only[fk6,aF2]
 rw[show(((0:Int) !=0))=false from rfl,show(((decide ((300:Int)<0)||decide ((300:Int)>20000))||decide ((1000:Int)<0))||decide ((1000:Int)>20000))=false from rfl,Ar.dZ0 h h19]
 simp only[fk6,aF2]
 rw[j4 (n:=g.o9-1000) (by omega) (by omega),j4 (n:=g.o9+300) (by omega) (by omega)]
 simp only[aq6,am2]
 rfl
structure cK3 (t:o7):Prop where
 air:cX2 t=true
 eQ0:bK7 t=true
 tor:aZ3 t=true
 dead:(by4 t.aw6&&t.aw6.Y.all (inR 0 10000))=true
 cH3:bp9 t.aI4=true
 idle:cB3 t.af5=true
structure Giv (t:o7)(e:o5)(b:L6)(c:A9)(i:X5):Prop where
 t:cd7 t=true
 b:aW2 b=true
 c:bA2 e c=true
 i:ek5 i (e.A7.length:Int)=true
def dh7 {t:o7}(h:cd7 t=true):cK3 t:=by
 unfold cd7 at h
 have h':=h
 simp only[aK5]at h'
 exact⟨h'.1.1.1.1.1,h'.1.1.1.1.2,h'.1.1.1.2,by rw[aK5];exact h'.1.1.2,h'.1.2,h'.2⟩
structure da3 (e:o5)(c:A9):Prop where
 eng:Ev.aE5 e
 ped:cZ3 c.L5=true
 mix:cR9 c.Q5=true
 num:c.ab9.length=e.A7.length
 kno:c.ab9.all knB=true
 sum:bU5 c.af5
 aG0:0<=c.P5/\c.P5<=1073741824
 gra:granted c.af8
theorem ce8 {e:o5}{c:A9}:bA2 e c=true↔da3 e c:=by
 unfold bA2
 simp only[aK5,fl2,ba5]
 exact⟨fun⟨⟨⟨⟨⟨⟨⟨⟨a,b⟩,d⟩,f⟩,g⟩,h⟩,i⟩,j⟩,k⟩=>⟨a,b,d,f,g,h,i,j,k⟩,fun⟨a,b,d,f,g,h,i,j,k⟩=>⟨⟨⟨⟨⟨⟨⟨⟨a,b⟩,d⟩,f⟩,g⟩,h⟩,i⟩,j⟩,k⟩⟩
structure dq9 (i:X5)(n:Nat):Prop where
 num:1<=n/\n<=8
 len:i.Y1.length=n
 few:i.Requests.length<=30
 spd:0<=i.D7/\i.D7<=12000
 pre:50<=i.N0/\i.N0<=3000
 air:-40<=i.M0/\i.M0<=150
 coo:-40<=i.av3/\i.av3<=150
 vol:0<=i.aI5/\i.aI5<=20000
 lam:0<=i.Lambda/\i.Lambda<=20000
 int:i.Y1.all (inR 0 4095)=true
 req:i.Requests.all cU1=true
def ek6 {i:X5}{n:Nat}:ek5 i (n:Int)=true↔dq9 i n:=by
 unfold ek5
 simp only[aK5,fl2,ba5]
 exact⟨fun⟨⟨⟨⟨⟨⟨⟨⟨⟨⟨a,b⟩,c⟩,d⟩,e⟩,f⟩,g⟩,h⟩,i⟩,j⟩,k⟩=>⟨by omega,by omega,c,d,e,f,g,h,i,j,k⟩,fun⟨a,b,c,d,e,f,g,h,i,j,k⟩=>⟨⟨⟨⟨⟨⟨⟨⟨⟨⟨by omega,by omega⟩,c⟩,d⟩,e⟩,f⟩,g⟩,h⟩,i⟩,j⟩,k⟩⟩
def ea3 (s:F9)(g:aW0)(c v:Int):F9×Int×Int:=(aE9 s g (cy8 c) v).getD (⟨0⟩,0,0)
def dR8 {s:F9}{g:aW0}(hg:cB3 g=true)(hs:bU5 s){c v:Int}(c0:-40<=c/\c<=150)(v0:0<=v/\v<=12000):aE9 s g (cy8 c) v=some ((ea3 s g c v).1,(ea3 s g c v).2.1,0)/\bU5 (ea3 s g c v).1:=by
 obtain⟨s',u,h1,h2⟩:=er3 hg hs c0 v0
 unfold ea3
 rw[h1]
 exact⟨rfl,h2⟩
section
variable (t:o7) (e:o5) (b:L6) (c:A9) (i:X5)
def pdV:V1:=dz7 c.L5 i.bG8 i.bG9
def wsV:Int:=dE1 t (pdV c i).Value i.D7
def acV:Bool:=dF5 (pdV c i).Value i.D7 i.av3
def idV:F9:=bif acV c i then(ea3 c.af5 t.af5 i.av3 i.D7).1 else⟨0⟩
def rqV:List j1:=⟨0,3,wsV t c i,0⟩::((bif acV c i then [⟨1,2,min (max (ea3 c.af5 t.af5 i.av3 i.D7).2.1 (-5000)) 10000,1⟩]else [])++i.Requests)
def grV:aa8:=dm1 c.af8 (rqV t c i)
def wtV:Int:=max 0 (grV t c i).o9
def thV (w:Int):Int:=
 let r2:=(ap4 t i.D7 w).getD (0,0)
 let r3:=(av4 t i.D7 (max 0 (bif r2.2 !=0 then 1048576 else r2.1)) i.M0).getD (0,0)
 let p:=min 1012 (bif r3.2 !=0 then 3000 else r3.1)
 let r5:=(av5 b (dd9 i.D7 p) p).getD (0,0)
 bif r5.2 !=0 then 1000 else r5.1
def cgV:Int:=chV t i.D7 i.N0 i.M0
def shV (w n:Int):Int×Int×Int:=(am8 t i.D7 (cgV t i) w n).getD (0,0,0)
def msV:Int:=min 1048576 ((cgV t i*10000/147000)*cP6 (mxV c.Q5 i.Lambda) i.D7 (cgV t i)/1000)
def waV:Int×Int×Int:=(aJ5 b c.P5 (msV t c i)).getD (0,0,0)
def inV (f:Int):Int×Int:=bif (f==0)||((waV t b c i).2.2 !=0)then(0,c.P5-aJ7 b c.P5)else((waV t b c i).1,(waV t b c i).2.1)
def tmV (j:Int):Int:=bif decide (j>0)then min (max (cAt t.aw6 i.aI5+fa8 j) 200) 20000 else 0
def tkV:Int:=min (max (60000000/max 1 i.D7) 4000) 1000000
def fiV (n:Nat)(f l tm:Int)(k:Nat):A6:=
 ⟨(k:Int)+1,max (-1280) (dW3 t i.D7 (cgV t i) i.av3 ((ksV c.ab9 i.Y1).getD k ⟨0,0,0⟩).at5-l),max 500 (cv3 t i.aI5 (tkV i)),5760,bif cG3 n f (k:Int)then tm else 0,0,0⟩
end
structure eQ9 (t:o7)(e:o5)(b:L6)(c:A9)(i:X5)(f l:Int):Prop where
 sh:shV t i (wtV t c i) (e.A7.length:Int)=(f,l,0)
 ok:eD6 t (cS3 t i.D7 (cgV t i)) (wtV t c i) (e.A7.length:Int) f l
def nxC (t:o7)(b:L6)(c:A9)(i:X5)(f:Int):A9:=⟨pdV c i,idV t c i,ksV c.ab9 i.Y1,mxV c.Q5 i.Lambda,(inV t b c i f).2,grV t c i⟩
def fh4 (t:o7)(e:o5)(b:L6)(c:A9)(i:X5)(f l:Int):O8:=⟨thV t b i (wtV t c i),(di4 e.A7.length).map (fiV t c i e.A7.length f l (tmV t i (inV t b c i f).1)),bN8 t (cS3 t i.D7 (cgV t i)) l f (e.A7.length:Int)⟩
def fp1 (w:Int)(h: -5000<=w/\w<=10000):Ar.cp3 ⟨0,3,w,0⟩:=
 ⟨⟨(by decide:(0:Int)<=0),(by decide:(0:Int)<=15)⟩,⟨(by decide:(0:Int)<=0),(by decide:(0:Int)<=15)⟩,h,.inr ⟨(by decide:(0:Int)<=1),.inr rfl⟩⟩
def fh9 (w:Int)(h: -5000<=w/\w<=10000):Ar.cp3 ⟨1,2,w,1⟩:=
 ⟨⟨(by decide:(0:Int)<=1),(by decide:(1:Int)<=15)⟩,⟨(by decide:(0:Int)<=1),(by decide:(1:Int)<=15)⟩,h,.inr ⟨(by decide:(1:Int)<=1),.inl rfl⟩⟩
def dh1 {t:o7}{c:A9}{i:X5}{n:Nat}(hi:dq9 i n):Ar.cX0 (rqV t c i) (-5000) 10000:=by
 have hw:=dN9 t (pdV c i).Value i.D7
 have hr:=hi.few
 refine⟨fun r h=>?_,?_,by omega,by omega,by omega⟩
 ·unfold rqV at h
  rcases ca1.1 h with rfl|h
  ·exact fp1 _ hw
  ·rcases du0.1 h with h|h
   ·cases ha:acV c i
    ·rw[ha]at h;simp at h
    ·rw[ha]at h
     simp only[fk7,ca1,eQ1,or_false]at h
     subst h
     exact fh9 _ ⟨by omega,by omega⟩
   ·have:=bt1.1 hi.req r h
    rw[cp4,fl2]at this
    exact this
 ·unfold rqV
  rw[bu9,bd4]
  cases acV c i<;>simp<;>omega
theorem ak5 (s:o4)(h:s.fail=0):z8 s 0=some s:=by
 unfold z8
 rw[h]
 simp only[beq_self_eq_true,fk7]
 cases s
 simp only at h
 subst h
 rfl
theorem ef3 {t:o7}{e:o5}{b:L6}{c:A9}{i:X5}{n:Nat}(ht:cK3 t)(hc:da3 e c)(hi:dq9 i n)(h17:i.Requests.length<=17):
  X7 ⟨t,e,b,c,i,0,0,0,0,[],0,⟨0,[],0⟩,0⟩=some ⟨t,e,b,⟨pdV c i,idV t c i,c.ab9,c.Q5,c.P5,grV t c i⟩,i,wtV t c i,0,0,0,[],0,⟨0,[],0⟩,0⟩:=by
 obtain⟨p1,p2⟩:=cS8 hc.ped i.bG8 i.bG9
 have p3:=(dT1.1 p2).v
 have hw:=eM7 ht.cH3 (v:=(dz7 c.L5 i.bG8 i.bG9).Value) p3 hi.spd
 have ha:=ei3 (v:=(dz7 c.L5 i.bG8 i.bG9).Value) (s:=i.D7) hi.coo
 obtain⟨d1,d2⟩:=dR8 ht.idle hc.sum hi.coo hi.spd
 have hf:=dh1 (t:=t) (c:=c) hi
 have hst:=ek7 hc.gra hf (by unfold rqV;rw[bu9,bd4];cases acV c i<;>simp<;>omega)
 have hrl:=hi.few
 unfold X7
 simp only
 rw[p1]
 simp only[aF2]
 rw[ak5 _ rfl]
 simp only[aF2]
 rw[hw]
 simp only[aF2]
 rw[ak5 _ rfl]
 simp only[aF2]
 rw[ha,(dN1 hi.coo).1]
 simp only[aF2]
 unfold grV wtV grV
 unfold idV rqV acV wsV pdV at*
 cases hac:dF5 (dz7 c.L5 i.bG8 i.bG9).Value i.D7 i.av3
 ·rw[hac]at hst
  simp only[fk6,aF2,cZ2]at hst|-
  rw[I1 _ _ (by simp only[bu9,cJ8];omega)]
  simp only[aF2,dy7,cZ2]
  show ak4 (ak4 (ap8 c.af8 _ _ _ _ _) _) _=_
  rw[hst]
  simp only[aF2]
  rw[ak5 _ rfl]
  simp only[aF2,am2]
 ·rw[hac]at hst
  simp only[fk7,aF2,dy7,cZ2]at hst|-
  show ak4 (ak4 (ak4 (aE9 c.af5 t.af5 (cy8 i.av3) i.D7) _) _) _=_
  rw[d1]
  simp only[aF2]
  rw[ak5 _ rfl]
  simp only[aF2,aD1,aq6,am2]
  rw[I1 _ _ (by simp only[bu9,cJ8];omega)]
  simp only[aF2]
  rw[I1 _ _ (by simp only[bd4,bu9,cJ8];omega)]
  simp only[aF2,dy7,cZ2]
  show ak4 (ak4 (ap8 c.af8 _ _ _ _ _) _) _=_
  rw[hst]
  simp only[aF2]
  rw[ak5 _ rfl]
  simp only[aF2,am2]
theorem or_eq (x e o:Int):au7 x e o=some (bif e !=0 then o else x):=by unfold au7;cases e !=0<;>rfl
theorem dC3 {t:o7}{b:L6}{i:X5}{n:Nat}(ht:cK3 t)(hb:aW2 b=true)(hi:dq9 i n)(e:o5)(c:A9)(w:Int):
  U7 ⟨t,e,b,c,i,w,0,0,0,[],0,⟨0,[],0⟩,0⟩=some ⟨t,e,b,c,i,w,0,0,0,[],0,⟨thV t b i w,[],0⟩,0⟩/\0<=thV t b i w/\thV t b i w<=1000:=by
 obtain⟨c2,e2,h2,_,_,_⟩:=es5 ht.tor (w:=w) hi.spd
 unfold U7 thV
 simp only
 rw[h2]
 simp only[aF2,or_eq,ep8,am2]
 generalize max 0 (bif e2 !=0 then(1048576:Int)else c2)=x
 obtain⟨p,e3,h3,k3⟩:=dA2 ht.air (w:=x) hi.spd hi.air
 rw[h3]
 simp only[aF2,or_eq,ep8,aq6]
 have hp:50<=(min 1012 (bif e3 !=0 then(3000:Int)else p))/\(min 1012 (bif e3 !=0 then(3000:Int)else p))<=1012:=by
  cases he:e3 !=0
  ·have h0:e3=0:=by simpa using he
   have:=k3.fit h0
   simp only[fk6];omega
  ·simp only[fk7];omega
 generalize min 1012 (bif e3 !=0 then(3000:Int)else p)=q at hp
 obtain⟨f1,f2,f3⟩:=eG5 (s:=i.D7) (p:=q) hi.spd (by omega)
 rw[f1]
 simp only[aF2]
 rw[ak5 _ rfl]
 simp only[aF2]
 obtain⟨y,e5,h5,k5⟩:=dD4 hb (f:=dd9 i.D7 q) (p:=q) (by omega) (by omega)
 rw[h5]
 simp only[aF2,ep8]
 refine⟨trivial,?_⟩
 cases he:e5 !=0
 ·have h0:e5=0:=by simpa using he
  have:=k5.fit h0
  simp only[fk6];omega
 ·simp only[fk7];omega
theorem be7 {t:o7}(ht:cK3 t)(i:X5):0<=cgV t i/\cgV t i<=1048576:=(dc2 ht.air i.D7 i.N0 i.M0).2
def fi4 {t:o7}{i:X5}{n:Nat}(ht:cK3 t)(hi:dq9 i n){w:Int}(hw:0<=w):∃f l,shV t i w (n:Int)=(f,l,0)/\am8 t i.D7 (cgV t i) w (n:Int)=some (f,l,0)/\eD6 t (cS3 t i.D7 (cgV t i)) w (n:Int) f l:=by
 have hn:=hi.num
 obtain⟨f,l,h1,h2⟩:=ey2 ht.tor hi.spd (be7 ht i) hw (n:=(n:Int)) (by omega)
 exact⟨f,l,by unfold shV;rw[h1];rfl,h1,h2⟩
theorem ez3 {t:o7}{i:X5}{e:o5}(ht:cK3 t)(hi:dq9 i e.A7.length){w f l:Int}(h:am8 t i.D7 (cgV t i) w (e.A7.length:Int)=some (f,l,0))(k:eD6 t (cS3 t i.D7 (cgV t i)) w (e.A7.length:Int) f l)(b:L6)(c:A9)(th:Int):
  ab1 ⟨t,e,b,c,i,w,0,0,0,[],0,⟨th,[],0⟩,0⟩=
   some ⟨t,e,b,c,i,w,cgV t i,f,l,(di4 e.A7.length).map (fun j:Nat=>cG3 (e.A7.length:Int) f (j:Int)),0,⟨th,[],bN8 t (cS3 t i.D7 (cgV t i)) l f (e.A7.length:Int)⟩,0⟩:=by
 have hn:=hi.num
 have k1:=k.f0;have k2:=k.f1;have k3:=k.l0;have k4:=k.l1
 unfold ab1
 simp only
 rw[ci9 ht.air hi.spd hi.pre hi.air]
 simp only[aF2]
 rw[ak5 _ rfl]
 simp only[aF2]
 rw[show chV t i.D7 i.N0 i.M0=cgV t i from rfl,h]
 simp only[aF2]
 rw[ak5 _ rfl]
 simp only[aF2]
 rw[dK9 hn ⟨k1,k2⟩]
 simp only[aF2]
 rw[ak5 _ rfl]
 simp only[aF2]
 rw[eg2 ht.tor hi.spd (be7 ht i) ⟨k3,k4⟩ ⟨k1,k2⟩ (by omega)]
 simp only[aF2]
 rw[ak5 _ rfl]
 simp only[aF2]
def dy4 {t:o7}{c:A9}{i:X5}(ht:cK3 t):(0<=cgV t i*10000/147000/\cgV t i*10000/147000<=80000)/\(0<=(cgV t i*10000/147000)*cP6 (mxV c.Q5 i.Lambda) i.D7 (cgV t i)/\(cgV t i*10000/147000)*cP6 (mxV c.Q5 i.Lambda) i.D7 (cgV t i)<=80000*1300)/\0<=msV t c i/\msV t c i<=1048576:=by
 have h1:=be7 ht i
 have h2:=dZ4 (mxV c.Q5 i.Lambda) i.D7 (cgV t i)
 have h3:0<=cgV t i*10000/147000/\cgV t i*10000/147000<=80000:=by omega
 have h4:=aV5 h3.1 h3.2 (show 0<=cP6 (mxV c.Q5 i.Lambda) i.D7 (cgV t i) by omega) h2.2
 refine⟨h3,h4,?_⟩
 unfold msV
 omega
def dV5 {t:o7}{b:L6}{e:o5}{c:A9}{i:X5}(ht:cK3 t)(hb:aW2 b=true)(hc:da3 e c):aJ5 b c.P5 (msV t c i)=some (waV t b c i)/\ei2 b c.P5 (msV t c i) (waV t b c i).1 (waV t b c i).2.1 (waV t b c i).2.2:=by
 obtain⟨j,x,e1,h1,h2⟩:=eq3 hb hc.aG0 (dy4 (c:=c) (i:=i) ht).2.2
 unfold waV
 rw[h1]
 exact⟨rfl,h2⟩
def dw9 {t:o7}{b:L6}{e:o5}{c:A9}{i:X5}(ht:cK3 t)(hb:aW2 b=true)(hc:da3 e c)(f:Int):(0<=(inV t b c i f).1/\(inV t b c i f).1<=1048576)/\(0<=(inV t b c i f).2/\(inV t b c i f).2<=1073741824):=by
 obtain⟨_,k⟩:=dV5 (i:=i) ht hb hc
 have hl:=bA3 hb hc.aG0.1
 have hf:=hc.aG0
 unfold inV
 cases hz:(f==0)||((waV t b c i).2.2 !=0)
 ·rw[cw7]at hz
  have h0:(waV t b c i).2.2=0:=by simpa using hz.2
  exact⟨k.inj h0,k.ran h0⟩
 ·simp only[fk7];omega
theorem eL6 {t:o7}{b:L6}{e:o5}{c:A9}{i:X5}{n:Nat}(ht:cK3 t)(hb:aW2 b=true)(hc:da3 e c)(hi:dq9 i n)(pd:V1)(id:F9)(gr:aa8)(w f l:Int)(pt:List Bool)(o:O8):
  ae7 ⟨t,e,b,⟨pd,id,c.ab9,c.Q5,c.P5,gr⟩,i,w,cgV t i,f,l,pt,0,o,0⟩=
   some ⟨t,e,b,⟨pd,id,c.ab9,mxV c.Q5 i.Lambda,(inV t b c i f).2,gr⟩,i,w,cgV t i,f,l,pt,tmV t i (inV t b c i f).1,o,0⟩:=by
 obtain⟨x1,x2⟩:=dg0 hc.mix hi.lam hi.spd (be7 ht i)
 have hf:=eU5 x2 hi.spd (be7 ht i)
 obtain⟨m1,m2,m3⟩:=dy4 (c:=c) (i:=i) ht
 obtain⟨w1,w2⟩:=dV5 (i:=i) ht hb hc
 have hr:=(dw9 (i:=i) ht hb hc f).1
 have hm:F7 1048576 (j5 (cW7 (j5 ((cgV t i*10000/147000)*cP6 (mxV c.Q5 i.Lambda) i.D7 (cgV t i))) 1000))=msV t c i:=by
  unfold msV
  rw[j4 (n:=(cgV t i*10000/147000)*cP6 (mxV c.Q5 i.Lambda) i.D7 (cgV t i)) (by omega) (by omega),cx1 m2.1,j4 (by omega) (by omega),aq6]
 unfold ae7
 simp only
 rw[x1]
 simp only[aF2]
 rw[ak5 _ rfl]
 simp only[aF2]
 rw[hf]
 simp only[aF2]
 rw[ak5 _ rfl]
 simp only[aF2]
 rw[ep7 (be7 ht i)]
 simp only[aF2]
 rw[ak5 _ rfl]
 simp only[aF2]
 rw[hm,w1]
 simp only[aF2]
 have hin:∀s:o4,s.b=b->s.c.P5=c.P5->s.fail=0->(bif ((f==0)||((waV t b c i).2.2 !=0))then(ak4 (aP2 b c.P5 0) fun r6=>ak4 (z8 s r6.2.2) fun v4=>some (0,r6.2.1,v4))else(some ((waV t b c i).1,(waV t b c i).2.1,s)))=some ((inV t b c i f).1,(inV t b c i f).2,s):=by
  intro s _ _ hs
  unfold inV
  cases(f==0)||((waV t b c i).2.2 !=0)
  ·rfl
  ·simp only[fk7]
   rw[ep3 hb hc.aG0]
   simp only[aF2]
   rw[ak5 _ hs]
   rfl
 rw[hin _ rfl rfl rfl]
 simp only[aF2]
 unfold tmV
 cases hj:decide ((inV t b c i f).1>0)
 ·rfl
 ·have hj':=of_decide_eq_true hj
  simp only[fk7]
  show ak4 (aP3 t (inV t b c i f).1 i.aI5) _=_
  rw[eq0 ht.dead ⟨hj',hr.2⟩ hi.vol]
  simp only[aF2]
  rw[ak5 _ rfl]
  simp only[aF2,aD1,aq6,am2]
theorem ez1 {t:o7}{e:o5}{c:A9}{i:X5}(ht:cK3 t)(hc:da3 e c)(hi:dq9 i e.A7.length)(b:L6)(pd:V1)(id:F9)(pb:N1)(fm:Int)(gr:aa8)(w f l tm th to_:Int)(hl:0<=l/\l<=2560):
  ab0 ⟨t,e,b,⟨pd,id,c.ab9,pb,fm,gr⟩,i,w,cgV t i,f,l,(di4 e.A7.length).map (fun j:Nat=>cG3 (e.A7.length:Int) f (j:Int)),tm,⟨th,[],to_⟩,0⟩=
   some ⟨t,e,b,⟨pd,id,ksV c.ab9 i.Y1,pb,fm,gr⟩,i,w,cgV t i,f,l,(di4 e.A7.length).map (fun j:Nat=>cG3 (e.A7.length:Int) f (j:Int)),tm,⟨th,(di4 e.A7.length).map (fiV t c i e.A7.length f l tm),to_⟩,0⟩:=by
 have hn:=hi.num
 have hs:=hi.spd
 obtain⟨k1,k2,k3⟩:=eP1 hc.kno hi.int (by rw[hc.num];exact hn) (by rw[hc.num];exact hi.len)
 rw[hc.num]at k3
 have hk2:=bt1.1 k2
 have hq:0<=60000000/max 1 i.D7/\60000000/max 1 i.D7<=60000000:=⟨eM5 (by omega) (by omega),eD5 _ (by omega)⟩
 have htk:4000<=tkV i/\tkV i<=1000000:=by unfold tkV;omega
 obtain⟨d1,d2,d3⟩:=eo4 ht.eQ0 ht.tor hi.vol htk
 unfold ab0
 simp only
 rw[k1]
 simp only[aF2]
 rw[ak5 _ rfl]
 simp only[aF2]
 rw[am2,eJ8 (by omega) (by omega) (by omega)]
 simp only[aF2,aD1,aq6,am2]
 rw[show min (max (60000000/max 1 i.D7) 4000) 1000000=tkV i from rfl,d1]
 simp only[aF2]
 rw[ak5 _ rfl]
 simp only[aF2]
 rw[show(((0:Int) !=0))=false from rfl]
 simp only[fk6]
 generalize hP:(di4 e.A7.length).map (fun j:Nat=>cG3 (e.A7.length:Int) f (j:Int))=P
 have hPl:P.length=e.A7.length:=by rw[<-hP];simp
 have hPg:∀j,j<e.A7.length->P[j]? =some (cG3 (e.A7.length:Int) f (j:Int)):=fun j hj=>by rw[<-hP,dr2,List.getElem?_range hj];rfl
 obtain⟨u,eu,hu⟩:=ag9 e.A7.length (by omega) (ae4 (cv3 t i.aI5 (tkV i),0)) (fun k u=>u=⟨t,e,b,⟨pd,id,ksV c.ab9 i.Y1,pb,fm,gr⟩,i,w,cgV t i,f,l,P,tm,⟨th,(di4 k).map (fiV t c i e.A7.length f l tm),to_⟩,0⟩)
  ⟨t,e,b,⟨pd,id,ksV c.ab9 i.Y1,pb,fm,gr⟩,i,w,cgV t i,f,l,P,tm,⟨th,[],to_⟩,0⟩ rfl (fun j hj u hu=>by
   subst hu
   have hj2:j<(ksV c.ab9 i.Y1).length:=by omega
   have hr:=(eW4.1 (hk2 _ (bf3 hj2))).r
   have hang:=dW4 t i.D7 (cgV t i) i.av3 (ksV c.ab9 i.Y1)[j].at5
   unfold ae4
   simp only
   rw[D1 _ _ hj2]
   simp only[aF2]
   rw[ej4 ht.eQ0 ht.tor hi.spd (be7 ht i) hi.coo ⟨hr.1,by omega⟩]
   simp only[aF2]
   rw[ak5 _ rfl]
   simp only[aF2]
   rw[U4,hPg j hj]
   simp only[aF2]
   have hb:(bif cG3 (e.A7.length:Int) f (j:Int)then(some tm)else(some 0))=some (bif cG3 (e.A7.length:Int) f (j:Int)then tm else 0):=by cases cG3 (e.A7.length:Int) f (j:Int)<;>rfl
   rw[hb]
   simp only[aF2]
   rw[I1 _ _ (by simp only[bY6,List.length_range,bu9,cJ8];omega)]
   simp only[aF2]
   refine⟨_,rfl,?_⟩
   rw[List.range_succ,eC5,cN4,dT4]
   unfold fiV
   rw[j4 (n:=(j:Int)+1) (by omega) (by omega),j4 (by omega) (by omega),am2,am2,List.getD_eq_getElem?_getD,aX4 hj2]
   rfl)
 rw[eu,hu]
 rfl
def en5 {t:o7}{e:o5}{b:L6}{c:A9}{i:X5}(h:Giv t e b c i)(h17:i.Requests.length<=17):∃f l,eQ9 t e b c i f l/\aF4 t e b c i=some (nxC t b c i f,fh4 t e b c i f l,0):=by
 have ht:=dh7 h.t
 have hc:=ce8.1 h.c
 have hi:=ek6.1 h.i
 obtain⟨f,l,s1,s2,s3⟩:=fi4 ht hi (w:=wtV t c i) (by unfold wtV;omega)
 refine⟨f,l,⟨s1,s3⟩,?_⟩
 unfold aF4
 rw[bi5,h.t,dj5,h.b,dR4,h.c]
 simp only[aF2,aX5,fk6]
 rw[eR6,h.i]
 simp only[aF2,aX5,fk6]
 rw[ef3 ht hc hi h17]
 simp only[aF2]
 rw[(dC3 ht h.b hi e _ (wtV t c i)).1]
 simp only[aF2]
 rw[ez3 ht hi s2 s3]
 simp only[aF2]
 rw[eL6 ht h.b hc hi]
 simp only[aF2]
 rw[ez1 ht hc hi _ _ _ _ _ _ _ _ _ _ _ _ ⟨s3.l0,s3.l1⟩]
 simp only[aF2]
 rfl
end Go.Pv
namespace Go.Proofs.YtjhedhnghldjbaaGreatDoor.Ec
open Go Go.Pv Go.Pv.Ec Go.Proofs
theorem cv8 (a c:Int)(ha0: -9223372036854775808<=a)(ha1:a<=9223372036854775807)(hc0:0<c)(hc1:c<=9223372036854775807):(W5 a c).m=some (a/c):=by
 grind [aR1,bR5]
theorem aT7 (x lo hi:Int):(D0 x lo hi).m=some (F7 (G8 x lo) hi):=rfl
def bm9 (x lo hi:Int)(h:lo<=hi):lo<=F7 (G8 x lo) hi/\F7 (G8 x lo) hi<=hi:=by
 grind [F7,G8]
def dS7 (p b:Int)(hb:0<b)(hb1:b<=1099511627776):∃r,(ac9 p b).m=some r/\0<=r/\r<b:=by
 simp only[ac9,C.of,M.run,L1.m]
 rw[show((b==0)||(b==(-1)))=false by simp;omega]
 simp only[fk6]
 have e:cg2 p b=some (dq1 p b):=by unfold cg2;rw[if_neg (by omega)]
 rw[e]
 simp only[aF2]
 have h1:(dq1 p b)<b:=Int.tmod_lt_of_pos p hb
 have h2:-b<dq1 p b:=by
  have h3:=Int.tmod_lt_of_pos (-p) hb
  rw[Int.neg_tmod]at h3
  omega
 generalize dq1 p b=q at h1 h2|-
 by_cases h3:q<0
 ·rw[show((q !=0)&&(!((decide (q<0))==(decide (b<0)))))=true by
   rw[fk8 h3,fk9 (by omega)];simp;omega]
  exact⟨_,rfl,by rw[j4 (by omega) (by omega)];omega,by rw[j4 (by omega) (by omega)];omega⟩
 ·rw[show((q !=0)&&(!((decide (q<0))==(decide (b<0)))))=false by
   rw[fk9 h3,fk9 (by omega)];simp]
  exact⟨_,rfl,by omega,h1⟩
def cV3 {α S R:Type}(f:Int->α->S->Option (Fl S R))(I:Nat->S->Prop):∀(r:List α) (k:Nat) (s:S),I k s->(∀j x s,r[j]? =some x->I (k+j) s->∃s',f ((k+j:Nat):Int) x s=some (.next s')/\I (k+j+1) s')->
  ∃s',N4 f r (k:Int) s=some (.inl s')/\I (k+r.length) s'
 |[],k,s,h,_=>⟨s,by rfl,h⟩
 |x::r,k,s,h,g=>by
  obtain⟨s',h1,h2⟩:=g 0 x s rfl h
  obtain⟨t,h3,h4⟩:=cV3 f I r (k+1) s' h2 (fun j y u hy hu=>by
   have:=g (j+1) y u (by grind) (by grind)
   grind)
  grind [N4]
def aM9 {α S R:Type}(l:List α)(hn:l.length<=9223372036854775807)(f:Int->α->S->Option (Fl S R))(I:Nat->S->Prop)(s:S)(h0:I 0 s)(h:∀k x s,l[k]? =some x->I k s->∃s',f (k:Int) x s=some (.next s')/\I (k+1) s'):
  ∃s',L8 (fun p:Int×S=>bif decide (p.1<(l.length:Int))then((E0 l p.1).bind fun x=>(f p.1 x p.2).bind (aJ9 p.1))else some (.inr (.inl p.2))) (0,s)=some (.inl s')/\I l.length s':=by
 have e:=L0 l hn f s
 obtain⟨s',h1,h2⟩:=cV3 f I l 0 s h0 (fun j x s hx hs=>by grind)
 grind
structure bX6 (b:L6)(p:Z8):Prop where
 body:aW2 b=true
 pos:0<=p.K7/\p.K7<=3019898879
 spd:0<=p.D7/\p.D7<=262144
 rest:0<=p.Rest/\p.Rest<=b.aj5-1
 pre:50<=p.N0/\p.N0<=1013
 aG0:0<=p.P5/\p.P5<=2147483648
 few:(p.Path.length:Int)<=b.aY0+1
 path:∀x∈p.Path,500<=x/\x<=2000
theorem cx4 (x a b:Int):(G0 x a b).m=some (decide (x>=a)&&decide (x<=b)):=rfl
theorem dg6 {x a b:Int}(h:a<=x/\x<=b):(G0 x a b).m=some true:=by
 grind [cx4]
theorem dA0 (b:L6):(ak1 b).m=some (aW2 b):=by rw[bu2,dj5]
theorem do4 {b:L6}{p:Z8}(h:bX6 b p):(bw6 b p).m=some true:=by
 have hb:=bt9 h.body
 have h1:=hb.i
 simp only[bw6,C.of,M.run,dA0,h.body,aF2,dg6 h.pos,dg6 h.spd,dg6 h.pre,dg6 h.aG0,j4 (n:=b.aj5-1) (by omega) (by omega),dg6 h.rest,aX5,fk6]
 rw[j4 (n:=b.aY0+1) (by have:=hb.de;omega) (by have:=hb.de;omega),fk9 (by have:=h.few;omega)]
 simp only[eC7,fk6]
 obtain⟨u,h2,_⟩:=aM9 p.Path (by have:=h.few;have:=hb.de;omega) (fun i x (s:Unit)=>(bB9 i x s).run) (fun _ _=>True) () trivial (fun k x s hx _=>by
  refine⟨(),?_,trivial⟩
  simp only[bB9,M.run,dg6 (h.path x (db2 hx)),aF2,aX5,fk6])
 grind
def dV3 (n:Int):-9223372036854775808<=j5 n/\j5 n<=9223372036854775807:=by
 unfold j5 IntKind.wrap
 grind [IntKind.signed,eR9]
def ev0 {w:ap7}{q r g:Int}(hb:aW2 w.b=true):
  ∃v r',(bg3 w q r g).m=some ⟨⟨w.B3.K7,v,r',w.B3.N0,w.B3.P5,w.B3.Path⟩,w.b⟩/\(0<=v/\v<=262144)/\(0<=r'/\r'<=w.b.aj5-1):=by
 have h1:=(bt9 hb).i
 simp only[bg3,CG.of,M.run]
 generalize hn:j5 ((j5 ((j5 ((j5 (q-r))-(j5 (cW7 (j5 (w.b.ap6*w.B3.D7)) 65536))))*g))+w.B3.Rest)=n
 have h2:-9223372036854775808<=n/\n<=9223372036854775807:=hn▸dV3 _
 obtain⟨m,h3,h4,h5⟩:=dS7 n w.b.aj5 (by omega) (by omega)
 rw[cv8 n w.b.aj5 h2.1 h2.2 (by omega) (by omega),h3]
 simp only[aF2]
 cases(decide (j5 (w.B3.D7+n/w.b.aj5)<0)||decide (j5 (w.B3.D7+n/w.b.aj5)>262144))
 ·simp only[fk6,aF2,aT7]
  exact⟨_,_,rfl,bm9 _ _ _ (by omega),h4,by omega⟩
 ·simp only[fk7,aF2,aT7]
  exact⟨_,_,rfl,bm9 _ _ _ (by omega),by omega,by omega⟩
def dz9 {w:ap7}{q r g:Int}(hb:aW2 w.b=true):
  ∃v,(aS2 w q r g).m=some ⟨⟨w.B3.K7,w.B3.D7,w.B3.Rest,v,w.B3.P5,w.B3.Path⟩,w.b⟩/\(50<=v/\v<=1013):=by
 have h1:=(bt9 hb).v
 simp only[aS2,CG.of,M.run]
 generalize hn:j5 ((j5 ((j5 (cW7 (j5 ((j5 (w.b.J2*q))*(j5 (1013-w.B3.N0)))) 1000))-(j5 (cW7 (j5 (r*w.B3.N0)) 1024))))*g)=n
 have h2:-9223372036854775808<=n/\n<=9223372036854775807:=hn▸dV3 _
 rw[j4 (n:=65536*w.b.aP6) (by omega) (by omega),cv8 n _ h2.1 h2.2 (by omega) (by omega)]
 simp only[aF2,aT7]
 exact⟨_,rfl,bm9 _ _ _ (by omega)⟩
def eJ5 {b:L6}{p:Z8}(h:bX6 b p)(a t l g:Int):∃r u e,(cf7 b p a t l g).m=some (r,u,e)/\(e=0->bX6 b r):=by
 have hb:=bt9 h.body
 simp only[cf7,C.of,M.run,do4 h,cx4,aF2,aX5,fk6,bg,U1.m]
 generalize hc:(bif (bif (bif (!(decide (a>=0)&&decide (a<=1000)))then true else !(decide (t>= -5000)&&decide (t<=10000)))then true else !(decide (l>= -10000)&&decide (l<=10000)))then true else !(decide (g>=1)&&decide (g<=10000)))=c
 cases c
 ·have hg:1<=g/\g<=10000:=by
   simp only[eO1,cw7,dQ6,aK5,fl2]at hc
   omega
  have hf:=h.few
  rw[I1 _ _ (by simp only[cJ8];have:=hb.de;omega)]
  simp only[fk6,aF2,cZ2]
  obtain⟨v,r,e1,h1,h2⟩:=ev0 (w:=⟨⟨p.K7,p.D7,p.Rest,p.N0,p.P5,p.Path⟩,b⟩) (q:=t) (r:=l) (g:=g) h.body
  rw[e1]
  simp only[aF2]
  obtain⟨v3,e3,h3⟩:=dz9 (w:=⟨⟨(j5 (p.K7+j5 (p.D7*g))).tmod 3019898880,v,r,p.N0,p.P5,p.Path⟩,b⟩) (q:=a) (r:=p.D7) (g:=g) h.body
  rw[e3]
  refine⟨_,_,_,rfl,fun _=>⟨h.body,?_,h1,h2,h3,h.aG0,hf,h.path⟩⟩
  have hm0:0<=p.D7*g:=eP7 h.spd.1 (by omega)
  have hm1:p.D7*g<=262144*10000:=eP2 h.spd.2 hg.2 (by omega) (by omega)
  have hp:=h.pos
  rw[j4 (n:=p.D7*g) (by omega) (by omega),j4 (by omega) (by omega),cX1 (by omega)]
  have:=Int.emod_lt_of_pos (p.K7+p.D7*g) (show(0:Int)<3019898880 by omega)
  refine⟨Int.emod_nonneg _ (by omega),?_⟩
  simp only
  omega
 grind
def ed6 {b:L6}{p:Z8}(h:bX6 b p)(f a:Int):∃r u e,(bK1 b p f a).m=some (r,u,e)/\(e=0->bX6 b r):=by
 have hb:=bt9 h.body
 simp only[bK1,C.of,M.run,do4 h,cx4,aF2,aX5,fk6,bg,U1.m,L1.m]
 generalize hc:(bif (!(decide (f>=0)&&decide (f<=1048576)))then true else !(decide (a>=0)&&decide (a<=1048576)))=c
 cases c
 ·have hg:(0<=f/\f<=1048576)/\0<=a/\a<=1048576:=by
   simp only[eO1,cw7,dQ6,aK5,fl2]at hc
   omega
  have hf:=h.few
  have hfi:=hb.fi;have hev:=hb.ev;have hfl:=h.aG0
  have a0:0<=f*b.P5:=eP7 hg.1.1 hfi.1
  have a1:f*b.P5<=1048576*1023:=eP2 hg.1.2 hfi.2 (by omega) (by omega)
  have b0:0<=p.P5*b.M4:=eP7 hfl.1 (by omega)
  have b1:p.P5*b.M4<=p.P5*1024:=dQ0 hev.2 hfl.1
  have b2:p.P5*1<=p.P5*b.M4:=dQ0 hev.1 hfl.1
  generalize f*b.P5=A at a0 a1|-
  generalize p.P5*b.M4=B at b0 b1 b2|-
  rw[j4 (n:=A) (by omega) (by omega),j4 (n:=B) (by omega) (by omega),cx1 a0,cx1 b0]
  rw[j4 (n:=A/1024) (by omega) (by omega),j4 (n:=B/1024) (by omega) (by omega),j4 (n:=f-A/1024) (by omega) (by omega),j4 (n:=A/1024-B/1024) (by omega) (by omega),
   j4 (n:=f-A/1024+B/1024) (by omega) (by omega),j4 (n:=p.P5+(A/1024-B/1024)) (by omega) (by omega),j4 (n:=10000*a) (by omega) (by omega),j4 (n:=147*(f-A/1024+B/1024)) (by omega) (by omega),j4 (n:=b.aY0+1) (by have:=hb.de;omega) (by have:=hb.de;omega)]
  have key:∃m,(bif decide (f-A/1024+B/1024>0)then(bo5 .i64 (10000*a) (147*(f-A/1024+B/1024))).bind fun t=>(D0 t 500 2000).m.bind fun t=>some t else some 2000)=some m/\500<=m/\m<=2000:=by
   by_cases hp:f-A/1024+B/1024>0
   ·rw[fk8 hp,ev4 (by omega) (by omega) (by omega)]
    simp only[fk7,aF2,aT7]
    exact⟨_,rfl,bm9 _ _ _ (by omega)⟩
   ·rw[fk9 hp];exact⟨_,rfl,by omega,by omega⟩
  obtain⟨m,e1,h1⟩:=key
  rw[e1]
  have hde:=hb.de
  rw[I1 _ _ (by simp only[cJ8];omega)]
  simp only[fk6,aF2,cZ2]
  rw[I1 _ _ (by simp only[cJ4];omega)]
  simp only[aF2]
  have hx:∀x∈p.Path++[m],500<=x/\x<=2000:=fun x hx=>by
   rcases du0.1 hx with h2|h2
   ·exact h.path x h2
   ·rw[eh4]at h2;subst h2;exact h1
  have hl:(p.Path++[m]).length=p.Path.length+1:=by simp
  have hfm:0<=p.P5+(A/1024-B/1024)/\p.P5+(A/1024-B/1024)<=2147483648:=by omega
  by_cases hd:((p.Path++[m]).length:Int)>b.aY0+1
  ·rw[fk8 hd]
   have:ay7 (p.Path++[m]) 1 ((p.Path++[m]).length:Int)=some (((p.Path++[m]).drop 1).take ((p.Path++[m]).length-1)):=by
    unfold ay7
    rw[if_pos (by omega)]
    rfl
   rw[this]
   simp only[fk7,aF2]
   refine⟨_,_,_,rfl,fun _=>⟨h.body,h.pos,h.spd,h.rest,h.pre,hfm,?_,fun x h2=>hx x (List.mem_of_mem_drop (eN2 h2))⟩⟩
   simp only[cZ8,en4]
   omega
  ·rw[fk9 hd]
   simp only[fk6,aF2]
   exact⟨_,_,_,rfl,fun _=>⟨h.body,h.pos,h.spd,h.rest,h.pre,hfm,by simp only;omega,hx⟩⟩
 grind
def dg7 (p:Z8):∃x,(bK2 p).m=some x:=by
 simp only[bK2,C.of,M.run,L1.m]
 cases h:p.Path with
 |nil=>simp
 |cons x l=>exact⟨x,rfl⟩
def eY0 (b:L6):∃p e,(cx5 b).m=some (p,e)/\(e=0->bX6 b p):=by
 simp only[cx5,C.of,M.run,dA0,aF2]
 cases h:aW2 b
 ·exact⟨_,_,rfl,fun h=>by cases h⟩
 ·have hb:=bt9 h
  exact⟨_,_,rfl,fun _=>⟨h,by simp,by simp,⟨by simp,by have:=hb.i;grind⟩,by simp,by simp,by have:=hb.de;grind,by simp⟩⟩
def eg0 (s:j6)(l:List Int)(hl:l.length<=1000000)(hv:0<s.u.B3.D7/\s.u.B3.D7<=262144)(hp:0<=s.u.B3.K7/\s.u.B3.K7<=3019898879)(ht:0<=s.t/\s.t<=1099511627776)
  (he:∀x∈l,65536*x<=s.u.B3.K7+10000*s.u.B3.D7) (h0:∀x∈l,0<=x):
  ∃r,(aJ4 s l).m=some r/\r.length=l.length/\(∀x∈r,x<=s.t+10000):=by
 simp only[aJ4,CG.of,M.run]
 obtain⟨r,h1,h2,h3⟩:=aM9 l (by omega) (fun i x (o:List Int)=>(aQ3 s i x o).run) (fun k o=>o.length=k/\∀x∈o,x<=s.t+10000) [] ⟨rfl,by simp⟩ (fun k x o hx hI=>by
  have hk:=(bG6.1 hx).1
  have hm:=db2 hx
  have e1:=he x hm
  have e0:=h0 x hm
  simp only[aQ3,M.run,U1.m]
  rw[j4 (n:=65536*x) (by omega) (by omega),j4 (n:=s.u.B3.K7-65536*x) (by omega) (by omega),cv8 _ _ (by omega) (by omega) hv.1 (by omega)]
  simp only[aF2]
  rw[I1 _ _ (by grind)]
  have hq:-10000<=(s.u.B3.K7-65536*x)/s.u.B3.D7:=by
   rw[Int.le_ediv_iff_mul_le hv.1]
   omega
  have hq1:(s.u.B3.K7-65536*x)/s.u.B3.D7<=s.u.B3.K7:=by
   refine ff4 (Int.ediv_le_ediv hv.1 (show s.u.B3.K7-65536*x<=s.u.B3.K7 by omega)) (eD5 _ hp.1)
  refine⟨_,rfl,by grind,fun y hy=>?_⟩
  grind [j4])
 grind
end Go.Proofs.YtjhedhnghldjbaaGreatDoor.Ec
namespace Go.Pv
open Go
namespace Fr
theorem cq4 {α S R:Type}(f:Int->α->S->Option (Fl S R)):∀(l:List α) (i:Int) (s:S),(∀i,∀y∈l,∀s,∃x,f i y s=some x)->∃r,N4 f l i s=some r
 |[],i,s,_=>⟨_,rfl⟩
 |y::l,i,s,h=>by
  obtain⟨x,hx⟩:=h i y (cq1 ..) s
  simp only[N4,hx,aF2]
  cases x with
  |next s'=>simp_all[cq4]
  |brk s'=>simp
  |ret r=>simp
def du2 (l:List y9)(hl:l.length<=9223372036854775807):∃b,an9 l=some b:=by
 unfold an9
 rw[L0 _ hl]
 obtain⟨r,hr⟩:=cq4 aD8 l 0 [] (fun i y _ s=>by unfold aD8;cases cR5 false s y.Code<;>exact⟨_,rfl⟩)
 rw[hr]
 cases r<;>exact⟨_,rfl⟩
structure ca4 (c:y9):Prop where
 fail:1<=c.aW6/\c.aW6<=100
 pass:1<=c.Pass/\c.Pass<=100
 eV2:1<=c.ci4/\c.ci4<=100
 age:c.ci4<=c.Age/\c.Age<=255
 frame:0<=c.Frame/\c.Frame<=8
def cfB (c:y9):Bool:=((((((decide (c.Code>=1)&&decide (c.Code<=16777215))&&(decide (c.aW6>=1)&&decide (c.aW6<=100)))&&(decide (c.Pass>=1)&&decide (c.Pass<=100)))&&(decide (c.ci4>=1)&&decide (c.ci4<=100)))&&(decide (c.Age>=c.ci4)&&decide (c.Age<=255)))&&(decide (c.E7>=0)&&decide (c.E7<=255)))&&(decide (c.Frame>=0)&&decide (c.Frame<=8))
theorem fe0 (c:y9):ae8 c=some (cfB c):=by
 simp[ae8,E3,cfB,cL3]
theorem ca4.of {c:y9}(h:cfB c=true):ca4 c:=by
 simp only[cfB,aK5,fl2]at h
 obtain⟨⟨⟨⟨⟨⟨_,h1⟩,h2⟩,h3⟩,h4⟩,_⟩,h5⟩:=h
 exact⟨h1,h2,h3,h4,h5⟩
def eC4 (c:y9):ao0 c=some (!cfB c):=by
 simp[ao0,fe0]
theorem cA3 (l:List y9)(hl:l.length<=9223372036854775807):I6 l ao0=some (l.any fun c=>!cfB c):=by
 unfold I6 T4 X2
 exact ai7 l hl ao0 (fun c=>!cfB c) (fun y _=>eC4 y)
def stN (b1 b2 b4 b8 b16:Bool):Int:=(((((bif b1 then 1 else 0)+(bif b2 then 2 else 0))+(bif b4 then 4 else 0))+(bif b8 then 8 else 0))+(bif b16 then 16 else 0))
def ez2 (a b c d e:Bool):0<=stN a b c d e/\stN a b c d e<=31:=by
 cases a<;>cases b<;>cases c<;>cases d<;>cases e<;>decide
theorem fi6 (a b c d e:Bool):(U3 .i64 (stN a b c d e) 1==1)=a:=by cases a<;>cases b<;>cases c<;>cases d<;>cases e<;>rfl
theorem fp7 (a b c d e:Bool):(U3 .i64 (stN a b c d e) 2==2)=b:=by cases a<;>cases b<;>cases c<;>cases d<;>cases e<;>rfl
theorem fi9 (a b c d e:Bool):(U3 .i64 (stN a b c d e) 4==4)=c:=by cases a<;>cases b<;>cases c<;>cases d<;>cases e<;>rfl
theorem fi8 (a b c d e:Bool):(U3 .i64 (stN a b c d e) 16==16)=e:=by cases a<;>cases b<;>cases c<;>cases d<;>cases e<;>rfl
theorem fi7 (a b c d e:Bool):(U3 .i64 (stN a b c d e) 10==10)=(b&&d):=by cases a<;>cases b<;>cases c<;>cases d<;>cases e<;>rfl
theorem fp8 (a b c d e:Bool):(U3 .i64 (stN a b c d e) 6 !=0)=(b||c):=by cases a<;>cases b<;>cases c<;>cases d<;>cases e<;>rfl
theorem fj1 (a b c d e:Bool):aP1 .i64 (stN a b c d e) 9=stN false b c false e:=by cases a<;>cases b<;>cases c<;>cases d<;>cases e<;>rfl
theorem fj0 (a b c d e:Bool):aP1 .i64 (stN a b c d e) 1=stN false b c d e:=by cases a<;>cases b<;>cases c<;>cases d<;>cases e<;>rfl
theorem eY9 (a b c d e:Bool):R9 .i64 (stN a b c d e) 11=stN true true c true e:=by cases a<;>cases b<;>cases c<;>cases d<;>cases e<;>rfl
theorem fj2 (a b c d e:Bool):R9 .i64 (stN a b c d e) 4=stN a b true d e:=by cases a<;>cases b<;>cases c<;>cases d<;>cases e<;>rfl
theorem eZ0 (a b c d e:Bool):R9 .i64 (stN a b c d e) 16=stN a b c d true:=by cases a<;>cases b<;>cases c<;>cases d<;>cases e<;>rfl
theorem fj3 (a b c d e:Bool):R9 .i64 (stN a b c d e) 8=stN a b c true e:=by cases a<;>cases b<;>cases c<;>cases d<;>cases e<;>rfl
def ci3 (c:y9)(l:List Int):Prop:=(l.length:Int)=c.Frame/\∀x∈l,-1099511627776<=x/\x<=1099511627776
theorem aq0 (l:List Int)(hl:l.length<=9223372036854775807)(f:Int->Option Bool)(p:Int->Bool)(h:∀y∈l,f y=some (p y)):o6 l f=some (l.any p):=by
 unfold o6 U9 X1
 exact ai7 l hl f p h
theorem cQ4 {c:y9}{l:List Int}(hc:ca4 c)(h:ci3 c l):as7 c l=some true:=by
 unfold as7
 have hl:l.length<=9223372036854775807:=by have:=h.1;have:=hc.frame;omega
 have he:((l.length:Int)==c.Frame)=true:=by simpa using h.1
 rw[he,aq0 l hl aA9 (fun x=>!(decide (x>= -1099511627776)&&decide (x<=1099511627776))) (fun y _=>rfl)]
 have:l.any (fun x=>!(decide (x>= -1099511627776)&&decide (x<=1099511627776)))=false:=by
  rw[dE4]
  intro x hx
  have:=h.2 x hx
  grind
 grind
structure RtB (c:y9)(x:A5)(E5:Int)(b1 b2 b4 b8 b16:Bool):Prop where
 st:x.D8=stN b1 b2 b4 b8 b16
 count:-c.Pass<=x.Count/\x.Count<=c.aW6
 cv2:0<=x.J7/\x.J7<=2
 clean:0<=x.Clean/\x.Clean<=c.Age-1
 occ:0<=x.A8/\x.A8<=255
 last:0<=x.H6/\x.H6<=E5
 frame:x.Frame=[]\/ci3 c x.Frame
 k1:b1=true->b2=true/\b8=true/\x.H6=E5
 k4:b4=true↔x.J7=2
 k16:b16=true->b4=true/\c.ca7=true
 k2:b2=true->x.Clean=0
 known:(b2||b4)=true->1<=x.A8/\1<=x.J7/\1<=x.H6/\(x.Frame.length:Int)=c.Frame
 none:(b2||b4)=false->x.J7=0/\x.Clean=0/\x.A8=0/\x.H6=0/\x.Frame=[]
def Rt (c:y9)(x:A5)(E5:Int)(b8:Bool):Prop:=∃b1 b2 b4 b16,RtB c x E5 b1 b2 b4 b8 b16
theorem ex4 {c:y9}{x:A5}{E5:Int}{b8:Bool}(hc:ca4 c)(h:Rt c x E5 b8):aF9 c x E5=some true:=by
 obtain⟨b1,b2,b4,b16,h⟩:=h
 have hfr:(ak4 (bif (decide ((x.Frame.length:Int)>0))then(ak4 (as7 c x.Frame) fun v7=>some (!v7))else(some false)) fun b7=>some b7)=some false:=by
  rcases h.frame with h1|h1
  ·rw[h1];rfl
  ·rw[cQ4 hc h1];cases decide ((x.Frame.length:Int)>0)<;>rfl
 have:=h.count;have:=h.cv2;have:=h.clean;have:=h.occ;have:=h.last;have:=hc.pass;have:=hc.age;have:=hc.eV2
 have s:=ez2 b1 b2 b4 b8 b16
 unfold aF9
 rw[hfr]
 simp only[E3,Y4,aL4,aF2,h.st,fi6,fi7,fi9,fi8,fp7,fp8]
 rw[j4 (n:=0-c.Pass) (by omega) (by omega),j4 (n:=c.Age-1) (by omega) (by omega)]
 have e1:(decide (stN b1 b2 b4 b8 b16>=0)&&decide (stN b1 b2 b4 b8 b16<=31))=true:=by simp[s.1,s.2]
 have e2:(decide (x.Count>=0-c.Pass)&&decide (x.Count<=c.aW6))=true:=by simp;omega
 have e3:(decide (x.J7>=0)&&decide (x.J7<=2))=true:=by simp;omega
 have e4:(decide (x.Clean>=0)&&decide (x.Clean<=c.Age-1))=true:=by simp;omega
 have e5:(decide (x.A8>=0)&&decide (x.A8<=255))=true:=by simp;omega
 have e6:(decide (x.H6>=0)&&decide (x.H6<=E5))=true:=by simp;omega
 simp only[e1,e2,e3,e4,e5,e6,aX5,fk6,aF2]
 have f1:(bif b1 then some ((!(b2&&b8))||(x.H6 !=E5))else some false)=some false:=by
  cases hb:b1
  ·rfl
  ·obtain⟨h1,h2,h3⟩:=h.k1 hb
   rw[h1,h2,h3];simp
 rw[f1]
 simp only[aF2,fk6]
 have f2:(b4==(x.J7==2))=true:=by
  have:=h.k4
  cases hb:b4
  ·have h3:¬x.J7=2:=fun e=>by have:=this.2 e;rw[hb]at this;cases this
   simpa using h3
  ·have h3:=this.1 hb
   simpa using h3
 rw[f2]
 simp only[aX5,fk6]
 have f3:(bif b16 then some ((!b4)||(!c.ca7))else some false)=some false:=by
  cases hb:b16
  ·rfl
  ·obtain⟨h1,h2⟩:=h.k16 hb
   rw[h1,h2];rfl
 rw[f3]
 simp only[aF2,fk6]
 have f4:(b2&&(x.Clean !=0))=false:=by
  cases hb:b2
  ·rfl
  ·have:=h.k2 hb;simp[this]
 rw[f4]
 simp only[fk6]
 cases hk:b2||b4
 ·obtain⟨h1,h2,h3,h4,h5⟩:=h.none hk
  simp[h1,h2,h3,h4,h5]
 ·obtain⟨h1,h2,h3,h4⟩:=h.known hk
  simp[h1,h2,h3,h4]
structure Inv (l:List y9)(f:C2)(E5:Int)(run:Bool)(t:Nat->Bool):Prop where
 aQ2:f.T9=l
 cyc:f.aI1=E5
 run:f.ay1=run
 len:f.L.length=l.length
 rt:∀i (h1:i<l.length) (h2:i<f.L.length),Rt (l[i]) (f.L[i]) E5 (t i)
structure Cfs (l:List y9):Prop where
 len:l.length<=64
 cf:∀c∈l,cfB c=true
 fe3:an9 l=some true
theorem Cfs.any {l:List y9}(h:Cfs l):(l.any fun c=>!cfB c)=false:=by
 rw[dE4];intro c hc;simp[h.cf c hc]
theorem Cfs.ok {l:List y9}(h:Cfs l){i:Nat}(hi:i<l.length):ca4 l[i]:=.of (h.cf _ (bf3 hi))
theorem bU9 {l:List y9}{f:C2}{E5:Int}{run:Bool}{t:Nat->Bool}(hc:Cfs l)(h:Inv l f E5 run t)(h0:0<=E5)(h1:E5<=1073741824)(h2:run=true->1<=E5):aa2 f=some true:=by
 have hlen:=hc.len
 have e0:decide ((f.T9.length:Int)>64)=false:=by rw[h.aQ2];simp;omega
 have e2:((f.L.length:Int) !=(f.T9.length:Int))=false:=by rw[h.aQ2,h.len];simp
 have e3:(decide (f.aI1>=0)&&decide (f.aI1<=1073741824))=true:=by rw[h.cyc];simp[h0,h1]
 have e4:(f.ay1&&decide (f.aI1<1))=false:=by
  rw[h.run,h.cyc]
  cases hr:run
  ·rfl
  ·have:=h2 hr;simp;omega
 unfold aa2
 rw[e0,cA3 _ (by rw[h.aQ2];omega)]
 have e1:(f.T9.any fun c=>!cfB c)=false:=by rw[h.aQ2];exact hc.any
 rw[e1]
 have e5:an9 f.T9=some true:=by rw[h.aQ2];exact hc.fe3
 rw[e5,e2]
 simp only[E3,e3,fk6,aF2,aX5,eC7,e4]
 have hl:=h.len
 obtain⟨s,k1,_⟩:=ag9 (R:=Bool) f.L.length (by omega) (aD7 f) (fun _ _=>True) () trivial (fun j hj s _=>⟨(),by
  unfold aD7
  have hj2:j<f.T9.length:=by rw[h.aQ2];omega
  rw[D1 _ _ hj,D1 _ _ hj2]
  simp only[aF2]
  have:f.T9[j]=l[j]'(by omega):=by simp[h.aQ2]
  rw[this,h.cyc,ex4 (hc.ok (by omega)) (h.rt j (by omega) hj)]
  rfl,trivial⟩)
 rw[k1]
 rfl
theorem cl7 {α:Type}(l:List α)(h:l.length<=1073741824):(ak4 (V4 ([]:List α) l) fun l=>some l)=some l:=by
 grind [I1]
def ey0 {α:Type}(l:List α)(i:Nat)(h:i<l.length):l.set i l[i]=l:=by simp
def dY6 {f:C2}(h:f.L.length<=64)(hf:∀x∈f.L,x.Frame.length<=8):am0 f=some f:=by
 unfold am0 ae1
 rw[cl7 _ (by omega)]
 simp only[aF2]
 obtain⟨s,k1,k2⟩:=ag9 (R:=Empty) f.L.length (by omega) ay5 (fun _ s=>s=f.L) f.L rfl (fun j hj s hs=>⟨f.L,by
  subst hs
  unfold ay5 O4
  rw[D1 _ _ hj]
  simp only[aF2]
  rw[cl7 _ (by grind)]
  simp only[aF2]
  rw[U5 _ _ _ hj]
  have:=ey0 f.L j hj
  simp only[aF2]
  rw[show(⟨f.L[j].D8,f.L[j].Count,f.L[j].J7,f.L[j].Clean,f.L[j].A8,f.L[j].Frame,f.L[j].H6⟩:A5)=f.L[j]from rfl,this],rfl⟩)
 simp_all
def Rt.eU6 {c:y9}{x:A5}{E5:Int}{b8:Bool}(hc:ca4 c)(h:Rt c x E5 b8):x.Frame.length<=8:=by
 obtain⟨b1,b2,b4,b16,h⟩:=h
 rcases h.frame with h1|h1
 ·simp[h1]
 ·have:=h1.1;have:=hc.frame;omega
def Inv.eU7 {l:List y9}{f:C2}{E5:Int}{run:Bool}{t:Nat->Bool}(hc:Cfs l)(h:Inv l f E5 run t):∀x∈f.L,x.Frame.length<=8:=by
 intro x hx
 obtain⟨i,hi,rfl⟩:=cW9.1 hx
 have hl:=h.len
 exact(h.rt i (by omega) hi).eU6 (hc.ok (by omega))
theorem Inv.copied {l:List y9}{f:C2}{E5:Int}{run:Bool}{t:Nat->Bool}(hc:Cfs l)(h:Inv l f E5 run t):am0 f=some f:=
 dY6 (by have:=h.len;have:=hc.len;omega) (h.eU7 hc)
theorem dL4 {α R:Type}(l:List α)(hn:l.length<=9223372036854775807)(f:Int->List α->Option (Fl (List α) R))(g:Nat->α->α)
  (h:∀(j:Nat) (s:List α) (hj:j<s.length),s.length=l.length->s[j]? =l[j]? ->f (j:Int) s=some (.next (s.set j (g j s[j])))):
  L2 (l.length:Int) f l=some (.inl (l.mapIdx g)):=by
 obtain⟨s,k1,k2⟩:=ag9 (R:=R) l.length hn f (fun j s=>s.length=l.length/\(∀i,i<j->s[i]? =(l[i]?).map (g i))/\∀i,j<=i->s[i]? =l[i]?) l ⟨rfl,fun i h=>by omega,fun i _=>rfl⟩ (fun j hj s ⟨h1,h2,h3⟩=>by
  have hj':j<s.length:=by omega
  refine⟨_,h j s hj' h1 (h3 j (bO2 _)),by simp[h1],fun i hi=>?_,fun i hi=>?_⟩
  ·rw[List.getElem?_set]
   by_cases e:j=i
   ·subst e
    rw[if_pos rfl,if_pos hj']
    have:=h3 j (bO2 _)
    rw[<-this,aX4 hj'];rfl
   ·rw[if_neg e];exact h2 i (by omega)
  ·rw[List.getElem?_set,if_neg (by omega)];exact h3 i (by omega))
 rw[k1]
 congr 2
 apply List.ext_getElem?
 grind
def fd3 (x:A5):A5:=⟨aP1 .i64 x.D8 9,0,x.J7,x.Clean,x.A8,x.Frame,x.H6⟩
def el2 {c:y9}{x:A5}{E5:Int}{b8:Bool}(hc:ca4 c)(h:Rt c x E5 b8):Rt c (fd3 x) (E5+1) false:=by
 obtain⟨b1,b2,b4,b16,h⟩:=h
 have:=hc.pass;have:=hc.fail;have:=h.last
 refine⟨false,b2,b4,b16,?_,?_,h.cv2,h.clean,h.occ,?_,h.frame,?_,h.k4,h.k16,h.k2,h.known,h.none⟩
 ·show aP1 .i64 x.D8 9=_
  rw[h.st,fj1]
 ·show -c.Pass<=(0:Int)/\(0:Int)<=c.aW6
  omega
 ·show 0<=x.H6/\x.H6<=E5+1
  omega
 simp
def el1 {l:List y9}{f:C2}{E5:Int}{t:Nat->Bool}(hc:Cfs l)(h:Inv l f E5 false t)(h0:0<=E5)(h1:E5<1073741824):
  ∃f',ax1 f=some (f',0)/\Inv l f' (E5+1) true (fun _=>false):=by
 have hl:=h.len;have hl2:=hc.len
 unfold ax1
 rw[bU9 hc h h0 (by omega) (fun e=>by cases e)]
 have e1:(f.aI1==1073741824)=false:=by rw[h.cyc];simp;omega
 rw[h.run,e1,h.copied hc]
 simp only[aF2,aX5,fk6]
 rw[dL4 f.L (by omega) aD6 (fun _ x=>fd3 x) (fun j s hj _ _=>by
  unfold aD6
  rw[D1 _ _ hj]
  simp only[aF2]
  rw[U5 _ _ _ hj]
  simp only[aF2]
  rw[U5 _ _ _ (by grind)]
  simp only[aF2,dQ9]
  rfl)]
 refine⟨_,rfl,h.aQ2,?_,rfl,by simp[hl],fun i a b=>?_⟩
 ·show j5 (f.aI1+1)=_
  rw[h.cyc,j4 (by omega) (by omega)]
 ·simp only[List.getElem_mapIdx]
  exact el2 (hc.ok a) (h.rt i a (by omega))
def dn4 {l:List y9}(hl:l.length<=9223372036854775807):(∃e,aC1 l=some (⟨[],[],0,false⟩,e)/\e≠0)\/(Cfs l/\∃f,aC1 l=some (f,0)/\Inv l f 0 false (fun _=>false)):=by
 unfold aC1
 cases h64:decide ((l.length:Int)>64)
 ·have h64:l.length<=64:=by grind
  rw[cA3 l (by omega)]
  cases hany:l.any fun c=>!cfB c
  ·obtain⟨b,hb⟩:=du2 l (by omega)
   rw[hb]
   cases b
   ·simp
   ·right
    have hcf:∀c∈l,cfB c=true:=fun c hc=>by
     grind
    have hc:Cfs l:=⟨h64,hcf,hb⟩
    refine⟨hc,?_⟩
    unfold aa3
    rw[cl7 l (by omega),bW2 _ (by omega)]
    refine⟨_,rfl,rfl,rfl,rfl,by simp,fun i a b=>?_⟩
    have:=hc.ok a
    simp only[fb3]
    refine⟨false,false,false,false,rfl,?_,⟨by decide,by decide⟩,?_,⟨by decide,by decide⟩,⟨by decide,by decide⟩,.inl rfl,fun h=>(by cases h),⟨fun h=>(by cases h),fun h=>(by cases h)⟩,fun h=>(by cases h),fun h=>(by cases h),fun h=>(by cases h),fun _=>⟨rfl,rfl,rfl,rfl,rfl⟩⟩
    ·have h1:=this.pass;have h2:=this.fail
     grind
    ·have h1:=this.eV2;have h2:=this.age
     grind
  simp
 simp
def cA9 (c:y9)(E5:Int)(fr:List Int)(x:A5):A5:=
 let y:A5:=bif !(U3 .i64 x.D8 1==1)then⟨x.D8,x.Count,x.J7,x.Clean,F7 255 (j5 (x.A8+1)),bif !(U3 .i64 x.D8 4==4)then fr else x.Frame,x.H6⟩else x
 bif y.H6==E5 then⟨R9 .i64 y.D8 11,y.Count,y.J7,0,y.A8,y.Frame,y.H6⟩else
 bif decide ((F7 2 (j5 (y.J7+1)))<2)then⟨R9 .i64 y.D8 11,y.Count,F7 2 (j5 (y.J7+1)),0,y.A8,y.Frame,E5⟩else
 bif c.ca7 then⟨R9 .i64 (R9 .i64 (R9 .i64 y.D8 11) 4) 16,y.Count,F7 2 (j5 (y.J7+1)),0,y.A8,y.Frame,E5⟩
 else⟨R9 .i64 (R9 .i64 y.D8 11) 4,y.Count,F7 2 (j5 (y.J7+1)),0,y.A8,y.Frame,E5⟩
theorem dv5 (s:List A5)(j:Nat)(hj:j<s.length)(c:y9)(E5:Int)(fr:List Int)(hfr:fr.length<=1073741824):aF8 s (j:Int) c E5 fr=some (s.set j (cA9 c E5 fr s[j])):=by
 have key:∀(s:List A5) (hj:j<s.length),(ak4 (E0 s (j:Int)) fun x3=>ak4 (ao3 s (j:Int) (⟨R9 .i64 x3.D8 11,x3.Count,x3.J7,x3.Clean,x3.A8,x3.Frame,x3.H6⟩:A5)) fun l4=>ak4 (ao3 l4 (j:Int) (⟨R9 .i64 x3.D8 11,x3.Count,x3.J7,0,x3.A8,x3.Frame,x3.H6⟩:A5)) fun l5=>bif (x3.H6==E5)then(some l5)else(ak4 (ao3 l5 (j:Int) (⟨R9 .i64 x3.D8 11,x3.Count,x3.J7,0,x3.A8,x3.Frame,E5⟩:A5)) fun l6=>ak4 (ao3 l6 (j:Int) (⟨R9 .i64 x3.D8 11,x3.Count,F7 2 (j5 (x3.J7+1)),0,x3.A8,x3.Frame,E5⟩:A5)) fun l7=>bif (decide ((F7 2 (j5 (x3.J7+1)))<2))then(some l7)else(ak4 (ao3 l7 (j:Int) (⟨R9 .i64 (R9 .i64 x3.D8 11) 4,x3.Count,F7 2 (j5 (x3.J7+1)),0,x3.A8,x3.Frame,E5⟩:A5)) fun l8=>bif c.ca7 then(ak4 (ao3 l8 (j:Int) (⟨R9 .i64 (R9 .i64 (R9 .i64 x3.D8 11) 4) 16,x3.Count,F7 2 (j5 (x3.J7+1)),0,x3.A8,x3.Frame,E5⟩:A5)) fun l9=>some l9)else(some l8))))=
   some (s.set j (bif s[j].H6==E5 then⟨R9 .i64 s[j].D8 11,s[j].Count,s[j].J7,0,s[j].A8,s[j].Frame,s[j].H6⟩else
 bif decide ((F7 2 (j5 (s[j].J7+1)))<2)then⟨R9 .i64 s[j].D8 11,s[j].Count,F7 2 (j5 (s[j].J7+1)),0,s[j].A8,s[j].Frame,E5⟩else
 bif c.ca7 then⟨R9 .i64 (R9 .i64 (R9 .i64 s[j].D8 11) 4) 16,s[j].Count,F7 2 (j5 (s[j].J7+1)),0,s[j].A8,s[j].Frame,E5⟩
 else⟨R9 .i64 (R9 .i64 s[j].D8 11) 4,s[j].Count,F7 2 (j5 (s[j].J7+1)),0,s[j].A8,s[j].Frame,E5⟩)):=by
  intro s hj
  rw[D1 _ _ hj]
  simp only[aF2]
  rw[U5 _ _ _ hj]
  simp only[aF2]
  rw[U5 _ _ _ (by simpa using hj)]
  simp only[aF2,dQ9]
  cases(s[j].H6==E5)
  ·simp only[fk6]
   rw[U5 _ _ _ (by simpa using hj)]
   simp only[aF2,dQ9]
   rw[U5 _ _ _ (by simpa using hj)]
   simp only[aF2,dQ9]
   cases decide ((F7 2 (j5 (s[j].J7+1)))<2)
   ·simp only[fk6]
    rw[U5 _ _ _ (by simpa using hj)]
    simp only[aF2,dQ9]
    cases c.ca7
    ·rfl
    ·simp only[fk7]
     rw[U5 _ _ _ (by simpa using hj)]
     simp only[aF2,dQ9]
   ·rfl
  ·rfl
 unfold aF8
 rw[D1 _ _ hj]
 simp only[aF2,Y4]
 unfold cA9
 cases h1:(U3 .i64 s[j].D8 1==1)
 ·simp only[cr8,fk7]
  rw[U5 _ _ _ hj]
  simp only[aF2]
  cases h4:(U3 .i64 s[j].D8 4==4)
  ·simp only[cr8,fk7,O4]
   rw[cl7 fr hfr]
   simp only[aF2]
   rw[U5 _ _ _ (by simpa using hj)]
   simp only[aF2,dQ9]
   rw[key _ (by simpa using hj)]
   simp only[dy0,dQ9]
  ·simp only[aX5,fk6,aF2]
   rw[key _ (by simpa using hj)]
   simp only[dy0,dQ9]
 ·simp only[aX5,fk6,aF2]
  rw[key _ hj]
def eG1 {c:y9}{x:A5}{E5:Int}{b8:Bool}{fr:List Int}(hc:ca4 c)(h:Rt c x E5 b8)(hfr:ci3 c fr)(h1:1<=E5):Rt c (cA9 c E5 fr x) E5 true:=by
 obtain⟨b1,b2,b4,b16,h⟩:=h
 have p3:=h.last;have p8:=h.occ;have p9:=h.cv2;have p10:=hc.age;have p11:=hc.eV2
 have clean:0<=(0:Int)/\(0:Int)<=c.Age-1:=by omega
 have n1:(0:Int)<=1/\(1:Int)<=2:=by decide
 have n2:(0:Int)<=2/\(2:Int)<=2:=by decide
 have m1:(1:Int)<=1:=by decide
 have m2:(1:Int)<=2:=by decide
 obtain⟨y,hy,hst,hcn,hcy,cG0,dw3,hfrm,hfl⟩:∃y:A5,y=(bif !(U3 .i64 x.D8 1==1)then(⟨x.D8,x.Count,x.J7,x.Clean,F7 255 (j5 (x.A8+1)),bif !(U3 .i64 x.D8 4==4)then fr else x.Frame,x.H6⟩:A5)else x)/\
   y.D8=stN b1 b2 b4 b8 b16/\y.Count=x.Count/\y.J7=x.J7/\(1<=y.A8/\y.A8<=255)/\y.H6=x.H6/\(y.Frame=[]\/ci3 c y.Frame)/\(y.Frame.length:Int)=c.Frame:=by
  refine⟨_,rfl,?_⟩
  rw[h.st,fi6,fi9]
  cases hb1:b1
  ·subst hb1
   simp only[cr8,fk7]
   refine⟨trivial,trivial,trivial,?_,trivial,?_⟩
   ·grind [j4,F7]
   ·cases hb4:b4
    ·simp only[cr8,fk7];exact⟨.inr hfr,hfr.1⟩
    ·subst hb4
     simp only[aX5,fk6]
     exact⟨h.frame,(h.known (by simp)).2.2.2⟩
  ·subst hb1
   have k:=h.k1 rfl
   have hk:=h.known (by rw[k.1];rfl)
   simp only[aX5,fk6]
   exact⟨h.st,trivial,trivial,⟨hk.1,h.occ.2⟩,trivial,h.frame,hk.2.2.2⟩
 unfold cA9
 rw[<-hy]
 simp only[hst,eY9,fj2,eZ0]
 cases hL:(y.H6==E5)
 ·have hL:¬x.H6=E5:=by rw[dw3]at hL;simpa using hL
  have hb1:b1=false:=by
   cases hb:b1
   ·rfl
   ·exact absurd (h.k1 hb).2.2 hL
  simp only[fk6]
  rw[hcy,j4 (n:=x.J7+1) (by omega) (by omega)]
  have hm:F7 2 (x.J7+1)=if x.J7=0 then 1 else 2:=by unfold F7;split<;>split<;>omega
  rw[hm]
  by_cases hz:x.J7=0
  ·have hb4:b4=false:=by
    cases hb:b4
    ·rfl
    ·have:=h.k4.1 hb;omega
   subst hb4
   rw[if_pos hz]
   simp only[show decide ((1:Int)<2)=true from rfl,fk7]
   exact⟨true,true,false,b16,rfl,by rw[show(⟨_,y.Count,_,_,_,_,_⟩:A5).Count=x.Count from hcn];exact h.count,n1,clean,⟨by have:=cG0.1;show 0<=y.A8;omega,cG0.2⟩,⟨by show 0<=E5;omega,dj2 _⟩,hfrm,fun _=>⟨rfl,rfl,rfl⟩,⟨fun h=>(by cases h),fun h=>(by cases h)⟩,h.k16,fun _=>rfl,fun _=>⟨cG0.1,m1,h1,hfl⟩,fun h=>(by cases h)⟩
  ·rw[if_neg hz]
   simp only[show decide ((2:Int)<2)=false from rfl,fk6]
   cases hlp:c.ca7
   ·simp only[fk6]
    exact⟨true,true,true,b16,rfl,by rw[show(⟨_,y.Count,_,_,_,_,_⟩:A5).Count=x.Count from hcn];exact h.count,n2,clean,⟨by have:=cG0.1;show 0<=y.A8;omega,cG0.2⟩,⟨by show 0<=E5;omega,dj2 _⟩,hfrm,fun _=>⟨rfl,rfl,rfl⟩,⟨fun _=>rfl,fun _=>rfl⟩,fun hb=>⟨rfl,(h.k16 hb).2⟩,fun _=>rfl,fun _=>⟨cG0.1,m2,h1,hfl⟩,fun h=>(by cases h)⟩
   ·simp only[fk7]
    exact⟨true,true,true,true,rfl,by rw[show(⟨_,y.Count,_,_,_,_,_⟩:A5).Count=x.Count from hcn];exact h.count,n2,clean,⟨by have:=cG0.1;show 0<=y.A8;omega,cG0.2⟩,⟨by show 0<=E5;omega,dj2 _⟩,hfrm,fun _=>⟨rfl,rfl,rfl⟩,⟨fun _=>rfl,fun _=>rfl⟩,fun _=>⟨rfl,hlp⟩,fun _=>rfl,fun _=>⟨cG0.1,m2,h1,hfl⟩,fun h=>(by cases h)⟩
 ·have hL:x.H6=E5:=by rw[dw3]at hL;simpa using hL
  simp only[fk7]
  have hkn:(b2||b4)=true:=by
   cases hk:b2||b4
   ·have:=(h.none hk).2.2.2.1;omega
   ·rfl
  have hk:=h.known hkn
  exact⟨true,true,b4,b16,rfl,by rw[show(⟨_,y.Count,_,_,_,_,_⟩:A5).Count=x.Count from hcn];exact h.count,by rw[show(⟨_,_,y.J7,_,_,_,_⟩:A5).J7=x.J7 from hcy];exact h.cv2,clean,⟨by have:=cG0.1;show 0<=y.A8;omega,cG0.2⟩,by rw[show(⟨_,_,_,_,_,_,y.H6⟩:A5).H6=x.H6 from dw3];exact h.last,hfrm,fun _=>⟨rfl,rfl,dw3.trans hL⟩,
   by rw[show(⟨_,_,y.J7,_,_,_,_⟩:A5).J7=x.J7 from hcy];exact h.k4,h.k16,fun _=>rfl,fun _=>⟨cG0.1,by rw[show(⟨_,_,y.J7,_,_,_,_⟩:A5).J7=x.J7 from hcy];exact hk.2.1,by rw[show(⟨_,_,_,_,_,_,y.H6⟩:A5).H6=x.H6 from dw3];omega,hfl⟩,fun h=>(by cases h)⟩
def bn0 (c:y9)(bad:Bool)(x:A5):A5:=
 ⟨x.D8,bif bad then F7 c.aW6 (j5 ((G8 x.Count 0)+1))else G8 (j5 (0-c.Pass)) (j5 ((F7 x.Count 0)-1)),x.J7,x.Clean,x.A8,x.Frame,x.H6⟩
def cg3 (c:y9)(E5:Int)(bad:Bool)(fr:List Int)(x:A5):A5:=
 let y:=bn0 c bad x
 bif y.Count==c.aW6 then cA9 c E5 fr y else
 bif y.Count==j5 (0-c.Pass)then⟨aP1 .i64 (R9 .i64 y.D8 8) 1,y.Count,y.J7,y.Clean,y.A8,y.Frame,y.H6⟩else y
def eS6 {c:y9}{x:A5}{E5:Int}{b8:Bool}(bad:Bool)(hc:ca4 c)(h:Rt c x E5 b8):Rt c (bn0 c bad x) E5 b8:=by
 obtain⟨b1,b2,b4,b16,h⟩:=h
 have p1:=h.count;have p2:=hc.pass;have p3:=hc.fail
 refine⟨b1,b2,b4,b16,h.st,?_,h.cv2,h.clean,h.occ,h.last,h.frame,h.k1,h.k4,h.k16,h.k2,h.known,h.none⟩
 show -c.Pass<=(bif bad then _ else _)/\(bif bad then _ else _)<=c.aW6
 have a1:G8 x.Count 0=if 0>x.Count then 0 else x.Count:=rfl
 have a2:F7 x.Count 0=if 0<x.Count then 0 else x.Count:=rfl
 cases bad
 ·simp only[fk6]
  grind [j4,G8]
 ·simp only[fk7]
  grind [j4,F7]
def eY4 {c:y9}{x:A5}{E5:Int}{b8:Bool}{fr:List Int}(bad:Bool)(hc:ca4 c)(h:Rt c x E5 b8)(hfr:ci3 c fr)(h1:1<=E5):∃b,Rt c (cg3 c E5 bad fr x) E5 b/\(b8=true->b=true):=by
 have h':=eS6 bad hc h
 unfold cg3
 simp only
 cases(bn0 c bad x).Count==c.aW6
 ·simp only[fk6]
  cases(bn0 c bad x).Count==j5 (0-c.Pass)
  ·grind
  ·simp only[fk7]
   refine⟨true,?_,fun _=>rfl⟩
   obtain⟨b1,b2,b4,b16,h'⟩:=h'
   exact⟨false,b2,b4,b16,by show aP1 .i64 (R9 .i64 (bn0 c bad x).D8 8) 1=_;rw[h'.st,fj3,fj0],h'.count,h'.cv2,h'.clean,h'.occ,h'.last,h'.frame,fun h=>(by cases h),h'.k4,h'.k16,h'.k2,h'.known,h'.none⟩
 ·exact⟨true,eG1 hc h' hfr h1,fun _=>rfl⟩
def ee6 {l:List y9}{f:C2}{E5:Int}{t:Nat->Bool}{q:Nat}{bad:Bool}{fr:List Int}(hc:Cfs l)(h:Inv l f E5 true t)(h0:1<=E5)(h1:E5<=1073741824)(hq:q<l.length)(hfr:ci3 (l[q]) fr):
  ∃f' b,aq4 f (q:Int) bad fr=some (f',0)/\Inv l f' E5 true (fun i=>if i=q then b else t i)/\(t q=true->b=true):=by
 have hl:=h.len;have hl2:=hc.len
 have hq2:q<f.L.length:=by omega
 have hq3:q<f.T9.length:=by rw[h.aQ2];omega
 have e1:f.T9[q]=l[q]:=by simp[h.aQ2]
 have hfl:fr.length<=8:=by have:=hfr.1;have:=(hc.ok hq).frame;omega
 have g1:decide ((q:Int)<0)=false:=by simp
 have g2:decide ((q:Int)>=(f.L.length:Int))=false:=by simp;omega
 obtain⟨b,hb,hm⟩:=eY4 (fr:=fr) bad (hc.ok hq) (h.rt q hq hq2) hfr h0
 have bN5:∀y:A5,q<(f.L.set q y).length:=fun y=>by grind
 have main:aq4 f (q:Int) bad fr=some (⟨f.T9,f.L.set q (cg3 (l[q]) E5 bad fr f.L[q]),f.aI1,f.ay1⟩,0):=by
  unfold aq4
  rw[bU9 hc h (by omega) h1 (fun _=>h0),g1,g2,h.run,D1 _ _ hq3,e1]
  simp only[aF2,aX5,eC7,fk6]
  rw[cQ4 (hc.ok hq) hfr,h.copied hc]
  simp only[aF2,aX5,eC7,fk6]
  rw[D1 _ _ hq2,D1 _ _ hq3,e1]
  simp only[aF2]
  rw[U5 _ _ _ hq2,U5 _ _ _ hq2]
  simp only[aF2]
  have e2:(bif bad then some (f.L.set q ⟨f.L[q].D8,F7 l[q].aW6 (j5 (G8 f.L[q].Count 0+1)),f.L[q].J7,f.L[q].Clean,f.L[q].A8,f.L[q].Frame,f.L[q].H6⟩)else some (f.L.set q ⟨f.L[q].D8,G8 (j5 (0-l[q].Pass)) (j5 (F7 f.L[q].Count 0-1)),f.L[q].J7,f.L[q].Clean,f.L[q].A8,f.L[q].Frame,f.L[q].H6⟩))=some (f.L.set q (bn0 (l[q]) bad f.L[q])):=by
   unfold bn0;cases bad<;>rfl
  rw[e2]
  simp only[aF2]
  rw[D1 _ _ (bN5 _)]
  simp only[aF2,dy0]
  unfold cg3
  simp only
  cases(bn0 (l[q]) bad f.L[q]).Count==(l[q]).aW6
  ·simp only[fk6]
   cases(bn0 (l[q]) bad f.L[q]).Count==j5 (0-(l[q]).Pass)
   ·simp only[fk6];rw[h.run]
   ·simp only[fk7]
    rw[U5 _ _ _ (bN5 _)]
    simp only[aF2,dQ9]
    rw[U5 _ _ _ (bN5 _)]
    simp only[aF2,dQ9]
    rw[h.run]
  ·simp only[fk7]
   rw[dv5 _ _ (bN5 _) _ _ _ (by omega)]
   simp only[aF2,dy0,dQ9]
   rw[h.run,h.cyc]
 refine⟨_,b,main,⟨h.aQ2,h.cyc,h.run,by simp[hl],fun i a c=>?_⟩,hm⟩
 simp only[fb9]
 by_cases hi:q=i
 ·subst hi;simp only[if_true];exact hb
 ·rw[if_neg hi,if_neg (fun e=>hi e.symm)];exact h.rt i a (by omega)
end Fr
end Go.Pv
namespace Go.Proofs.YtjhedhnghldjbaaGreatDoor.Ec
open Go Go.Pv Go.Pv.Ec Go.Proofs
def cV4 {α S R:Type}(f:Int->α->S->Option (Fl S R))(I:Nat->S->Prop)(J:R->Prop):∀(r:List α) (k:Nat) (s:S),I k s->(∀j x s,r[j]? =some x->I (k+j) s->(∃s',f ((k+j:Nat):Int) x s=some (.next s')/\I (k+j+1) s')\/∃u,f ((k+j:Nat):Int) x s=some (.ret u)/\J u)->
  (∃s',N4 f r (k:Int) s=some (.inl s')/\I (k+r.length) s')\/∃u,N4 f r (k:Int) s=some (.inr u)/\J u
 |[],k,s,h,_=>.inl ⟨s,by simp[N4],h⟩
 |x::r,k,s,h,g=>by
  rcases g 0 x s rfl h with⟨s',h1,h2⟩|⟨u,h1,h2⟩
  ·have:=cV4 f I J r (k+1) s' h2 (fun j y u hy hu=>by
    have:=g (j+1) y u (by simpa using hy) (by rw[show k+(j+1)=k+1+j by omega];exact hu)
    rw[show k+(j+1)=k+1+j by omega]at this
    exact this)
   have e:N4 f (x::r) (k:Int) s=N4 f r ((k+1:Nat):Int) s':=by
    simp only[N4]
    rw[show((k:Nat):Int)=((k+0:Nat):Int) by rfl,h1]
    rfl
   rw[e,bu9,show k+(r.length+1)=k+1+r.length by omega]
   exact this
  ·refine .inr ⟨u,?_,h2⟩
   simp only[N4]
   rw[show((k:Nat):Int)=((k+0:Nat):Int) by rfl,h1]
   rfl
def bx0 {α S R:Type}(l:List α)(hn:l.length<=9223372036854775807)(f:Int->α->S->Option (Fl S R))(I:Nat->S->Prop)(J:R->Prop)(s:S)(h0:I 0 s)
  (h:∀k x s,l[k]? =some x->I k s->(∃s',f (k:Int) x s=some (.next s')/\I (k+1) s')\/∃u,f (k:Int) x s=some (.ret u)/\J u):
  (∃s',L8 (fun p:Int×S=>bif decide (p.1<(l.length:Int))then((E0 l p.1).bind fun x=>(f p.1 x p.2).bind (aJ9 p.1))else some (.inr (.inl p.2))) (0,s)=some (.inl s')/\I l.length s')\/
  ∃u,L8 (fun p:Int×S=>bif decide (p.1<(l.length:Int))then((E0 l p.1).bind fun x=>(f p.1 x p.2).bind (aJ9 p.1))else some (.inr (.inl p.2))) (0,s)=some (.inr u)/\J u:=by
 have e:=L0 l hn f s
 rcases cV4 f I J l 0 s h0 (fun j x s hx hs=>by rw[da1]at hs|-;exact h j x s hx hs)with⟨s',h1,h2⟩|⟨u,h1,h2⟩
 ·exact .inl ⟨s',e.trans h1,by rw[da1]at h2;exact h2⟩
 ·exact .inr ⟨u,e.trans h1,h2⟩
structure SOk (s:j6):Prop where
 few:s.k.length<=100
 val:∀b∈s.k,-1000000<=b.Value/\b.Value<=1000000
 ped:0<=s.d.L5/\s.d.L5<=1000
 pre:50<=s.u.B3.N0/\s.u.B3.N0<=1013
 t:0<=s.t/\s.t<=1099511627776
 spd:0<=s.o8/\s.o8<=12000
def dH0 {s:j6}(hs:SOk s)(n:Int):∃v o,(V8 s n).m=some (v,o)/\ -1000000<=v/\v<=1000000:=by
 have hk:=hs.few
 simp only[V8,C.of,M.run]
 rcases bx0 s.k (by omega) (fun i x (u:Unit)=>(ag4 s n i x u).run) (fun _ _=>True) (fun r=>-1000000<=r.1/\r.1<=1000000) () trivial (fun k x u hx _=>by
  simp only[ag4,M.run]
  cases x.az4==n
  ·exact .inl ⟨(),rfl,trivial⟩
  ·cases decide (x.ca5<=s.t)
   ·exact .inl ⟨(),rfl,trivial⟩
   ·cases decide (s.t<x.To)
    ·exact .inl ⟨(),rfl,trivial⟩
    ·exact .inr ⟨_,rfl,hs.val x (db2 hx)⟩)with⟨u,h1,_⟩|⟨u,h1,h2⟩
 ·rw[h1];exact⟨_,_,rfl,by omega,by omega⟩
 ·rw[h1];exact⟨u.1,u.2,rfl,h2⟩
def aS3 {s:j6}(hs:SOk s)(n:Int):∃v,(D3 s n).m=some v/\ -1000000<=v/\v<=1000000:=by
 obtain⟨v,o,h,hv⟩:=dH0 hs n
 obtain⟨x,hx⟩:=dg7 s.u.B3
 have h1:=hs.ped;have h2:=hs.pre;have h3:=hs.t
 simp only[D3,C.of,M.run,h,hx,aF2]
 cases o
 ·simp only[fk6]
  cases n==0<;>simp only[fk6,fk7]
  ·cases n==1<;>simp only[fk6,fk7]
   ·cases n==2<;>simp only[fk6,fk7]
    ·cases n==3<;>simp only[fk6,fk7]
     ·cases n==4<;>simp only[fk6,fk7]
      ·cases decide (x<1000)
       ·exact⟨_,rfl,by omega,by omega⟩
       ·exact⟨_,rfl,by omega,by omega⟩
      ·refine⟨_,rfl,?_⟩
       rw[cx1 h3.1,j4 (n:=s.t/1000000) (by omega) (by omega),j4 (by omega) (by omega)]
       unfold F7
       split<;>omega
     ·exact⟨_,rfl,by omega,by omega⟩
    ·exact⟨_,rfl,by omega,by omega⟩
   ·refine⟨_,rfl,?_⟩
    rw[cx1 h1.1,j4 (by omega) (by omega)]
    omega
  ·exact⟨_,rfl,by omega,by omega⟩
 ·exact⟨_,rfl,hv⟩
theorem dz5 (x a b:Int):(bn5 x a b).m=some (decide (x<a)||decide (x>b)):=rfl
def ep9 {c:y9}(hc:Fr.ca4 c){a b:Int}(ha:-1000000<=a/\a<=1000000)(hb:-1000000<=b/\b<=1000000):∃l,aY5 c.Frame (0:Int)=some l/\Fr.ci3 c (aJ3 l [a,b]):=by
 have h:=hc.frame
 refine⟨cr7 c.Frame.toNat 0,by unfold aY5;rw[if_pos (by omega)],?_,fun x hx=>?_⟩
 ·unfold aJ3
  simp only[bd4,cZ8,en4,List.length_replicate,bu9,cJ8]
  omega
 ·unfold aJ3 at hx
  rcases du0.1 hx with h1|h1
  ·have:=eN2 h1
   simp only[ca1,eQ1,or_false]at this
   rcases this with rfl|rfl<;>omega
  ·have:=eZ9 (List.mem_of_mem_drop h1)
   omega
theorem fg3 (o:C2):(bL9 o).m=some o:=rfl
theorem eW0 (n:C2)(e:Int)(o:C2):(be9 n e o).m=some (bif e !=0 then o else n):=by
 simp only[be9,C.of,M.run]
 cases e !=0<;>rfl
def ag9 {S R:Type}(n:Nat)(hn:n<=1000000000)(f:Int->S->Option (Fl S R))(I:Nat->S->Prop)(s:S)(h0:I 0 s)(h:∀k s,k<n->I k s->∃s',f (k:Int) s=some (.next s')/\I (k+1) s'):
  ∃s',L8 (fun p:Int×S=>bif decide (p.1<(n:Int))then((f p.1 p.2).bind (aJ9 p.1))else some (.inr (.inl p.2))) (0,s)=some (.inl s')/\I n s':=by
 have key:=bw0 (mb:=fun p:Int×S=>bif decide (p.1<(n:Int))then((f p.1 p.2).bind (aJ9 p.1))else some (.inr (.inl p.2))) (fun x=>∃k:Nat,x.1=(k:Int)/\k<=n/\I k x.2) (fun x=>n-x.1.toNat) (fun b:S⊕R=>∃t,b= .inl t/\I n t)
  (fun x ⟨k,hk,hkn,hi⟩=>by
   obtain⟨a,u⟩:=x
   simp only at hk hi
   subst hk
   by_cases hlt:k<n
   ·left
    obtain⟨s',h1,h2⟩:=h k u hlt hi
    simp only
    rw[fk8 (show((k:Nat):Int)<(n:Int) by omega),h1]
    refine⟨(((k+1:Nat):Int),s'),?_,⟨k+1,rfl,by omega,h2⟩,by simp only;omega⟩
    simp only[fk7,aF2,aJ9]
    first|rfl|(rw[j4 (by omega) (by omega)];rfl)
   ·right
    simp only
    rw[fk9 (show¬((k:Nat):Int)<(n:Int) by omega)]
    have:k=n:=by omega
    subst this
    exact⟨_,rfl,u,rfl,hi⟩)
 obtain⟨b,e1,t,e2,h2⟩:=key n (0,s) (by simp) ⟨0,rfl,by omega,h0⟩
 rw[e2]at e1
 exact⟨t,e1,h2⟩
def R0:List S1:=(aH4).m.getD []
theorem cZ5:(aH4).m=some R0:=rfl
theorem cK1:R0.length=7:=rfl
def da6:(R0.all fun r=>decide (r.W9.length<=16)&&r.W9.all fun c=>decide (0<=c)&&decide (c<7))=true:=by kernel_rfl
def dV9:(R0.all fun r=>decide (-5000<=r.ci5)&&decide (r.ci5<=10000))=true:=by kernel_rfl
theorem da7:(aK0 R0 7).m=some true:=(aK0 R0 7).le 1000 _ (by kernel_rfl)
theorem dF2:(aK0 R0 64).m=some true:=(aK0 R0 64).le 1000 _ (by kernel_rfl)
def cf0:List y9:=((bn3).e 100).getD []
theorem du3:(bn3).m=some cf0:=(bn3).le 100 _ (by kernel_rfl)
theorem bl1:cf0.length=7:=by kernel_rfl
def dr6 {α:Type}{l:List α}{p q:α->Bool}(h:(l.all fun r=>p r&&q r)=true){x:α}(hx:x∈l):p x=true/\q x=true:=by
 have:=bt1.1 h x hx
 rwa[aK5]at this
def dH5 {r:S1}{n:Nat}(h16:r.W9.length<=16)(hr:∀c∈r.W9,0<=c/\c<(n:Int))(f:Cl Tryz.prog Int Bool (fun x=>[.t (tI x)]) (fun r=>.t (tB r)))(hf:∀c,0<=c->c<(n:Int)->∃b,f.f c=some b):
  ∃o,(aO9 r f).m=some o/\o.length<=16:=by
 simp only[aO9,C.of,M.run]
 obtain⟨o,h1,h2⟩:=aM9 r.W9 (by omega) (fun i x (o:List Int)=>(aE1 f i x o).run) (fun k o=>o.length<=k) [] (bO2 _) (fun k x o hx hI=>by
  have hk:=(bG6.1 hx).1
  have hm:=hr x (db2 hx)
  obtain⟨b,hb⟩:=hf x hm.1 hm.2
  simp only[aE1,M.run,U1.m,Cl.at,hb,aF2]
  cases b
  ·exact⟨_,rfl,by omega⟩
  ·simp only[fk7]
   rw[I1 _ _ (by simp only[cJ4];omega)]
   exact⟨_,rfl,by simp only[bd4,cJ4];omega⟩)
 rw[h1]
 exact⟨_,rfl,by omega⟩
def dw8 (f:Cl Tryz.prog Int Bool (fun x=>[.t (tI x)]) (fun r=>.t (tB r)))(hf:∀c,0<=c->c<7->∃b,f.f c=some b):
  ∃a,(aK1 R0 f).m=some a/\a.length<=7/\∀x∈a,(0<=x.Q6/\x.Q6<7)/\x.W9.length<=16:=by
 simp only[aK1,C.of,M.run]
 obtain⟨a,h1,h2,h3⟩:=ag9 R0.length (by rw[cK1];omega) (fun i (o:List Q7)=>(az2 R0 f i o).run) (fun k o=>o.length<=k/\∀x∈o,(0<=x.Q6/\x.Q6<7)/\x.W9.length<=16) [] ⟨bO2 _,by simp⟩ (fun k o hk hI=>by
  have hk7:k<7:=hk
  have hr:=dr6 da6 (bf3 hk)
  rw[fl2]at hr
  obtain⟨v,hv,hv16⟩:=dH5 (n:=7) hr.1 (fun c hc=>by
   have:=bt1.1 hr.2 c hc
   rw[aK5,fl2,fl2]at this
   exact this) f hf
  simp only[az2,M.run,L1.m,U1.m]
  rw[U4,aX4 hk]
  simp only[aF2,hv]
  cases decide ((v.length:Int)>0)
  ·exact⟨_,rfl,by omega,hI.2⟩
  ·simp only[fk7]
   rw[I1 _ _ (by simp only[cJ4];omega)]
   refine⟨_,rfl,by simp only[bd4,cJ4];omega,fun x hx=>?_⟩
   rcases du0.1 hx with h|h
   ·exact hI.2 x h
   ·rw[eh4]at h
    subst h
    simp only
    exact⟨by omega,hv16⟩)
 rw[h1]
 exact⟨a,rfl,h2,h3⟩
def dF6 {f:C2}(hv:(aa2 f).m=some true)(hl:f.L.length=7):∃a,(aO8 R0 f).m=some (a,0)/\a.length<=7/\∀x∈a,(0<=x.Q6/\x.Q6<7)/\x.W9.length<=16:=by
 obtain⟨a,h1,h2⟩:=dw8 (.of (fun z_=>aG5 z_ (-1) f) 323 [Pv.encI (-1),aR5 f]) (fun c h0 h7=>by
  simp only[Cl.of,aG5,C.of,M.run,L1.m]
  rw[show(c != -1)=true by simp;omega]
  have:E0 f.L c=some (f.L[c.toNat]'(by omega)):=by
   conv=>lhs;rw[show c=((c.toNat:Nat):Int) by omega]
   rw[U4,aX4 (by omega)]
  rw[this]
  exact⟨_,rfl⟩)
 refine⟨a,?_,h2⟩
 simp only[aO8,bx2,bq1,C.of,M.run,hv,hl,aF2,fk7]
 rw[show(((7:Nat):Int))=7 by rfl,da7]
 simp only[aF2,aX5,fk6]
 rw[h1]
 rfl
def eb4 {a:List Q7}(ha:a.length<=7)(hr:∀x∈a,0<=x.Q6/\x.Q6<7)(g o:Int):∃v e,(bx1 R0 a g o).m=some (v,e)/\(-5000<=o->o<=10000-> -5000<=v/\v<=10000):=by
 have hc:(aA1 a (.of (fun z_=>bk1 z_ R0) 253 [(Pv.encS T3) R0])).m=some (a.any fun x=>decide (x.Q6<0)||decide (x.Q6>=(R0.length:Int))):=by
  simp only[aA1,aZ0,aQ6,C.of,M.run,L1.m,Cl.at,Cl.of]
  refine Eq.trans ?_ (bJ5 a (by omega) (fun x=>(bk1 x R0).m) (fun x=>decide (x.Q6<0)||decide (x.Q6>=(R0.length:Int))) (fun y _=>rfl))
  kernel_rfl
 simp only[bx1,C.of,M.run,dF2,hc,aF2,aX5,ec6]
 rw[fk9 (show¬((a.length:Int)>64) by omega)]
 simp only[fk6,aF2]
 have hn:(a.any fun x=>decide (x.Q6<0)||decide (x.Q6>=(R0.length:Int)))=false:=by
  rw[dE4]
  intro x hx
  have:=hr x hx
  rw[cK1]
  simp only[cH4,fl2]
  omega
 rw[hn]
 simp only[fk6]
 cases(decide (g<0)||decide (g>15))
 ·simp only[fk6]
  obtain⟨u,h1,h2⟩:=aM9 a (by omega) (fun i x (s:Int×Int)=>(bg4 R0 g i x s).run) (fun _ s=>-5000<=o->o<=10000-> -5000<=s.1/\s.1<=10000) (o,-1) (fun h1 h2=>⟨h1,h2⟩) (fun k x s hx hI=>by
   have hm:=hr x (db2 hx)
   have hlt:x.Q6.toNat<R0.length:=by rw[cK1];omega
   have hl:=dr6 dV9 (bf3 hlt)
   rw[fl2,fl2]at hl
   simp only[bg4,M.run,L1.m]
   have:E0 R0 x.Q6=some R0[x.Q6.toNat]:=by
    conv=>lhs;rw[show x.Q6=((x.Q6.toNat:Nat):Int) by omega]
    rw[U4,aX4 hlt]
   rw[this]
   simp only[aF2]
   cases((R0[x.Q6.toNat].da4 !=g)||decide (R0[x.Q6.toNat].E7<s.2))<;>simp only[fk6,fk7]
   ·cases decide (R0[x.Q6.toNat].E7>s.2)
    ·refine⟨_,rfl,fun h3 h4=>?_⟩
     have:=hI h3 h4
     unfold F7
     simp only
     split<;>omega
    ·refine⟨_,rfl,fun h3 h4=>?_⟩
     unfold F7
     simp only
     split<;>omega
   ·exact⟨_,rfl,hI⟩)
  rw[h1]
  exact⟨_,_,rfl,h2⟩
 ·exact⟨_,_,rfl,fun _ _=>by omega⟩
def dh8 (n o:Int)(c:j6)(ha:c.Z9.length<=7)(hr:∀x∈c.Z9,0<=x.Q6/\x.Q6<7):∃v,(as5 n o R0 c).m=some v/\(-5000<=o->o<=10000-> -5000<=v/\v<=10000):=by
 obtain⟨v,e,h1,h2⟩:=eb4 ha hr n o
 simp only[as5,CG.of,M.run,h1,aF2]
 exact⟨v,rfl,h2⟩
structure fm3 (s r:j6):Prop where
 C8:r.u.A0=s.u.A0
 con:r.u.w9=s.u.w9
 sch:r.u.j3=s.u.j3
 syn:r.u.Q8=s.u.Q8
 pha:r.u.M9=s.u.M9
 fil:r.u.I2=s.u.I2
 gua:r.u.M3=s.u.M3
 qui:r.u.K4=s.u.K4
 sta:r.u.M5=s.u.M5
 pla:r.u.B3=s.u.B3
 bod:r.u.ab7=s.u.ab7
 d:r.d=s.d
 k:r.k=s.k
 t:r.t=s.t
 o8:r.o8=s.o8
 known:r.known=s.known
 cut:r.cut=s.cut
 A3:r.A3=s.A3
 T8:r.T8=s.T8
 act:r.Z9.length<=7/\∀x∈r.Z9,x.W9.length<=16
 au4:-5000<=r.au4/\r.au4<=10000
 C5:50<=r.C5/\r.C5<=1013
 aQ7:-40<=r.aQ7/\r.aQ7<=150
 D6:-40<=r.D6/\r.D6<=150
 aJ8:0<=r.aJ8/\r.aJ8<=20000
end Go.Proofs.YtjhedhnghldjbaaGreatDoor.Ec
namespace Go.Pv
open Go
def fj5:bU5 ⟨0⟩:=⟨by decide,by decide⟩
def ed0 {t:o7}{e:o5}{b:L6}{c:A9}{i:X5}(h:Giv t e b c i)(f:Int):bA2 e (nxC t b c i f)=true:=by
 have ht:=dh7 h.t
 have hc:=ce8.1 h.c
 have hi:=ek6.1 h.i
 obtain⟨k1,k2,k3⟩:=eP1 hc.kno hi.int (by rw[hc.num];exact hi.num) (by rw[hc.num];exact hi.len)
 rw[ce8]
 refine⟨hc.eng,(cS8 hc.ped _ _).2,(dg0 hc.mix hi.lam hi.spd (be7 ht i)).2,by rw[<-hc.num];exact k3,k2,?_,(dw9 ht h.b hc f).2,eq9 (dh1 hi) _⟩
 show bU5 (idV t c i)
 unfold idV
 cases acV c i
 ·exact fj5
 ·exact(dR8 ht.idle hc.sum hi.coo hi.spd).2
def et5 {e:o5}(h:Ev.aE5 e):bA2 e (eI8 e.A7.length)=true:=by
 rw[ce8]
 refine⟨h,(show cZ3 ⟨0,0,false⟩=true by decide),(show cR9 dL1=true by decide),by simp[eI8],?_,fj5,(show(0:Int)<=0/\(0:Int)<=1073741824 by decide),(show granted ⟨0,-1⟩from⟨⟨by decide,by decide⟩,⟨by decide,by decide⟩⟩)⟩
 rw[bt1]
 intro x hx
 have:x=k0:=eZ9 hx
 subst this;decide
end Go.Pv
namespace Go.Proofs.YtjhedhnghldjbaaGreatDoor.Ec
open Go Go.Pv Go.Pv.Ec Go.Proofs
structure eD3 (s:j6):Prop where
 au4:-5000<=s.au4/\s.au4<=10000
 C5:50<=s.C5/\s.C5<=1013
 aQ7:-40<=s.aQ7/\s.aQ7<=150
 D6:-40<=s.D6/\s.D6<=150
 aJ8:0<=s.aJ8/\s.aJ8<=20000
theorem fg2 (o:A9):(bz9 o).m=some o:=rfl
theorem eV9 (n o:A9):(bq6 n 0 o).m=some n:=rfl
theorem fg5 (o:O8):(bE5 o).m=some o:=rfl
theorem eW2 (n o:O8):(bv2 n 0 o).m=some n:=rfl
theorem cD1 (s:j6):(bi9 s).m=some ⟨9,1,s.au4,15⟩:=rfl
def fi0 (w:Int)(h: -5000<=w/\w<=10000):Ar.cp3 ⟨9,1,w,15⟩:=
 ⟨⟨(by decide:(0:Int)<=9),(by decide:(9:Int)<=15)⟩,⟨(by decide:(0:Int)<=15),(by decide:(15:Int)<=15)⟩,h,.inl rfl⟩
def du4 {s:j6}(hs:SOk s)(ha:eD3 s)(ht:cd7 s.u.A0=true)(hb:aW2 s.u.ab7=true)(hg:bA2 s.u.j3.A1 s.u.w9=true):
  ∃c o,(aU1 s).m=some {s with u:={s.u with w9:=c},F3:=o}/\
   bA2 s.u.j3.A1 c=true/\o.O3.length=s.u.j3.A1.A7.length:=by
 obtain⟨v,e0,_⟩:=aS3 hs 0
 obtain⟨v2,e1,_⟩:=aS3 hs 1
 have hc:=ce8.1 hg
 have hn:1<=s.u.j3.A1.A7.length/\s.u.j3.A1.A7.length<=8:=⟨hc.eng.1,hc.eng.2.1⟩
 have em:aY5 (s.u.j3.A1.A7.length:Int) (0:Int)=some (cr7 s.u.j3.A1.A7.length 0):=by
  unfold aY5
  rw[if_pos (by omega)]
  rfl
 have hi:Giv s.u.A0 s.u.j3.A1 s.u.ab7 s.u.w9 (⟨v,v2,s.o8,s.C5,s.aQ7,13500,s.aJ8,s.D6,cr7 s.u.j3.A1.A7.length 0,([⟨9,1,s.au4,15⟩]:List j1)⟩:X5):=by
  have h1:=ha.C5;have h2:=ha.aQ7;have h3:=ha.D6;have h4:=ha.aJ8
  refine⟨ht,hb,hg,ek6.2 ⟨hn,by simp,by simp,hs.spd,by simp only;omega,h2,h3,by simp,h4,by simp[inR],?_⟩⟩
  simp only[List.all_cons,List.all_nil,Bool.and_true]
  rw[cp4,fl2]
  exact fi0 _ ha.au4
 obtain⟨f,l,_,e2⟩:=en5 hi (by simp)
 simp only[aU1,CG.of,M.run,e0,e1,em,cD1,aF2,cE6]
 rw[e2]
 simp only[aF2,fg2,eV9,fg5,eW2]
 refine⟨_,_,rfl,ed0 hi f,?_⟩
 simp only[fh4,bY6,List.length_range]
end Go.Proofs.YtjhedhnghldjbaaGreatDoor.Ec
namespace Go.Pv
open Go
def dO4 (l:List Int)(x:Int)(a:Nat):Prop:=∃_:a<l.length,(nd l a<=x/\∀j,a<j->j<l.length->x<nd l j)\/(a=0/\∀j,j<l.length->x<nd l j)
def di8 (l:List Int)(x:Int)(b:Nat):Prop:=∃_:b<l.length,(x<=nd l b/\∀j,j<b->nd l j<x)\/(b+1=l.length/\∀j,j<l.length->nd l j<x)
def cz7 {l:List Int}(h:bA6 l)(x:Int):∃a b:Nat,dO4 l x a/\di8 l x b/\ag8 l x=some ((a:Int),(b:Int)):=by
 have h2:=h.two
 have hl:=h.most
 obtain⟨u,hu,hu2⟩:=ag9 l.length (by omega) (ar0 l x) (fun k s=>∃a:Nat,s=(a:Int)/\a<l.length/\((a<k/\nd l a<=x/\∀j,a<j->j<k->x<nd l j)\/(a=0/\∀j,j<k->x<nd l j))) (0:Int)
  ⟨0,rfl,by omega,.inr ⟨rfl,fun j hj=>absurd hj (by omega)⟩⟩ (fun j hj s ⟨a,hs,ha,hI⟩=>by
   unfold ar0
   rw[D1 l j hj,aF2]
   by_cases hx:l[j]<=x
   ·rw[fk8 hx,fk7]
    refine⟨_,rfl,j,rfl,hj,.inl ⟨by omega,by rw[N8 hj];exact hx,fun i h1 h2=>absurd h2 (by omega)⟩⟩
   ·rw[fk9 hx,fk6]
    refine⟨_,rfl,a,hs,ha,?_⟩
    have step:∀i,i<j+1->(i<j->x<nd l i)->x<nd l i:=fun i hi hh=>by
     rcases cZ9 i j with h1|h1
     ·exact hh h1
     ·have:i=j:=by omega
      subst this
      rw[N8 hj];omega
    rcases hI with⟨h1,h2,h3⟩|⟨h1,h2⟩
    ·exact .inl ⟨by omega,h2,fun i hi hi2=>step i hi2 (fun q=>h3 i hi q)⟩
    ·exact .inr ⟨h1,fun i hi=>step i hi (h2 i)⟩)
 obtain⟨a,rfl,ha,haI⟩:=hu2
 have down:∀(k b:Nat),k<=l.length->b<l.length->((k<=b/\x<=nd l b/\∀j,k<=j->j<b->nd l j<x)\/(b+1=l.length/\∀j,k<=j->j<l.length->nd l j<x))->
   ∃b':Nat,di8 l x b'/\L8 (af1 l x) ((k:Int)-1,(b:Int))=some (.inl (-1,(b':Int))):=by
  intro k
  induction k with
  |zero=>
   intro b _ hb hI
   refine⟨b,⟨hb,?_⟩,E6 ?_⟩
   ·rcases hI with⟨_,h1,h2⟩|⟨h1,h2⟩
    ·exact .inl ⟨h1,fun j hj=>h2 j (Nat.zero_le _) hj⟩
    ·exact .inr ⟨h1,fun j hj=>h2 j (Nat.zero_le _) hj⟩
   ·simp[af1]
  |succ k ih=>
   intro b hk hb hI
   have hkl:k<l.length:=by omega
   have e0:((k+1:Nat):Int)-1=(k:Int):=by omega
   have e:decide ((k:Int)>=0)=true:=fk8 (by omega)
   have ew:j5 ((k:Int)-1)=(k:Int)-1:=j4 (by omega) (by omega)
   rw[e0]
   by_cases hx:l[k]>=x
   ·obtain⟨b',h1,h3⟩:=ih k (by omega) hkl (.inl ⟨bO2 _,by rw[N8 hkl];exact hx,fun j h1 h2=>absurd h2 (by omega)⟩)
    refine⟨b',h1,?_⟩
    rw[H3 (s':=((k:Int)-1,(k:Int)))]
    ·exact h3
    ·simp only[af1,e,fk7,U4,aX4 hkl,aF2,hx,decide_true,ew]
   ·have step:∀j,k<=j->(k+1<=j->nd l j<x)->nd l j<x:=fun j hj hh=>by
     rcases cZ9 k j with h1|h1
     ·exact hh h1
     ·have:j=k:=by omega
      subst this
      rw[N8 hkl];omega
    obtain⟨b',h1,h3⟩:=ih b (by omega) hb (by
     rcases hI with⟨h1,h2,h3⟩|⟨h1,h2⟩
     ·exact .inl ⟨by omega,h2,fun j h4 h5=>step j h4 (fun q=>h3 j q h5)⟩
     ·exact .inr ⟨h1,fun j h4 h5=>step j h4 (fun q=>h2 j q h5)⟩)
    refine⟨b',h1,?_⟩
    rw[H3 (s':=((k:Int)-1,(b:Int)))]
    ·exact h3
    ·simp only[af1,e,fk7,U4,aX4 hkl,aF2,hx,decide_false,fk6,ew]
 obtain⟨b,hb,hb2⟩:=down l.length (l.length-1) (bO2 _) (by omega) (.inr ⟨by omega,fun j h1 h2=>absurd h2 (by omega)⟩)
 have ew:j5 ((l.length:Int)-1)=(l.length:Int)-1:=j4 (by omega) (by omega)
 have e1:((l.length-1:Nat):Int)=(l.length:Int)-1:=by omega
 have g0:=D1 l 0 (by omega)
 rw[show((0:Nat):Int)=0 from rfl]at g0
 refine⟨a,b,⟨ha,?_⟩,hb,?_⟩
 ·rcases haI with⟨_,h1,h2⟩|⟨h1,h2⟩
  ·exact .inl ⟨h1,h2⟩
  ·exact .inr ⟨h1,h2⟩
 ·unfold ag8
  rw[hu]
  simp only[aF2,ew]
  rw[e1]at hb2
  rw[hb2]
  simp only[aF2,g0]
  by_cases hx:x<l[0]
  · --the first node is above
   have:b=0:=by
    obtain⟨hbl,hb1⟩:=hb
    rcases hb1 with⟨_,h1⟩|⟨_,h1⟩
    ·rcases Nat.eq_zero_or_pos b with h0|h0
     ·exact h0
     ·have:=h1 0 h0
      rw[N8 (by omega)]at this
      omega
    ·have:=h1 0 (by omega)
     rw[N8 (by omega)]at this
     omega
   subst this
   rw[fk8 hx]
   rfl
  ·rw[fk9 hx]
   rfl
def cf3 {l:List Int}(h:bA6 l){x:Int}{a b i:Nat}(ha:dO4 l x a)(hb:di8 l x b)(hi:bm4 l (lim l x) i)(f:Nat->Int):
  itp (nd l i) (nd l (i+1)) (f i) (f (i+1)) (lim l x)<=max (f a) (f b):=by
 have h2:=h.two
 obtain⟨k0,k1,k2,k3,_,_⟩:=hi.nd h
 obtain⟨hal,ha⟩:=ha
 obtain⟨hbl,hb⟩:=hb
 have hle:∀i j,i<=j->j<l.length->nd l i<=nd l j:=fun i j h1 h2=>by rw[N8 h2,N8 (by omega)];exact h.le j i h2 h1
 have hlt:∀i j,i<j->j<l.length->nd l i<nd l j:=fun i j h1 h2=>by rw[N8 h2,N8 (by omega)];exact h.lt j i h2 h1
 have hh:l.headD 0=nd l 0:=by rw[bF2 l (by omega),N8 (by omega)]
 have ht:l.getLastD 0=nd l (l.length-1):=by rw[bf6 l (by omega),N8 (by omega)]
 have hlim:lim l x=min (max x (nd l 0)) (nd l (l.length-1)):=by unfold lim;rw[hh,ht]
 have h0l:=hle 0 (l.length-1) (by omega) (by omega)
 have node:∀c,c<l.length->lim l x=nd l c->itp (nd l i) (nd l (i+1)) (f i) (f (i+1)) (lim l x)=f c:=fun c hc e=>by
  rw[e]at k1 k2|-
  have c1:i<=c:=by
   rcases cZ9 c i with q|q
   ·have:=hlt c i q (by omega);omega
   ·exact q
  have c2:c<=i+1:=by
   rcases cZ9 (i+1) c with q|q
   ·have:=hlt (i+1) c q hc;omega
   ·exact q
  rcases(show c=i\/c=i+1 by omega)with rfl|rfl
  ·exact dx3 ..
  ·exact df2 k3
 rcases ff6 x (nd l 0)with q|q
 ·have e:lim l x=nd l 0:=by omega
  have:a=0:=by
   rcases ha with⟨h1,_⟩|⟨h1,_⟩
   ·have:=hle 0 a (by omega) hal;omega
   ·exact h1
  subst this
  rw[node 0 (by omega) e];omega
 ·rcases ff6 (nd l (l.length-1)) x with r|r
  ·have e:lim l x=nd l (l.length-1):=by omega
   have:b=l.length-1:=by
    rcases hb with⟨h1,_⟩|⟨h1,_⟩
    ·have:=hle b (l.length-1) (by omega) (by omega);omega
    ·omega
   subst this
   rw[node (l.length-1) (by omega) e];omega
  ·have e:lim l x=x:=by omega
   have ha':nd l a<=x/\∀j,a<j->j<l.length->x<nd l j:=by
    rcases ha with h1|⟨_,h1⟩
    ·exact h1
    ·have:=h1 0 (by omega);omega
   have hb':x<=nd l b/\∀j,j<b->nd l j<x:=by
    rcases hb with h1|⟨_,h1⟩
    ·exact h1
    ·have:=h1 (l.length-1) (by omega);omega
   rcases ff6 (nd l a) x with s|s
   ·have c1:i=a:=by
     rcases Nat.lt_trichotomy i a with q1|q1|q1
     ·have:=hle (i+1) a (by omega) hal
      omega
     ·exact q1
     ·have:=ha'.2 i q1 (by omega)
      omega
    have c2:b=a+1:=by
     rcases Nat.lt_trichotomy b (a+1)with q1|q1|q1
     ·have:=hle b a (by omega) hal;omega
     ·exact q1
     ·have:=hb'.2 (a+1) q1
      have:=ha'.2 (a+1) (by omega) (by omega)
      omega
    subst c1 c2
    exact(bj2 (lo:=min (f i) (f (i+1))) k1 k2 k3 (by omega) (by omega) (by omega) (by omega)).2
   ·rw[node a hal (by omega)];omega
def cv1 {m:SMap}(h:bp9 m=true)(x y:Int):∃v c,Y9 m x y=some v/\Y6 m x y=some c/\v<=c:=by
 have hm:=bZ6 h
 obtain⟨i,j,hi,hj,e⟩:=eh6 h x y
 obtain⟨a,b,ha,hb,eab⟩:=cz7 hm.x x
 obtain⟨c,d,hc,hd,ecd⟩:=cz7 hm.y y
 have la:=ha.1;have lb:=hb.1;have lc:=hc.1;have ld:=hd.1
 have za:a<m.Z.length:=by have:=hm.zl;omega
 have zb:b<m.Z.length:=by have:=hm.zl;omega
 have ra:=hm.rl a za
 have rb:=hm.rl b zb
 refine⟨_,max (max (zz m a c) (zz m a d)) (max (zz m b c) (zz m b d)),e,?_,?_⟩
 ·unfold Y6
  rw[eab,ecd]
  simp only[aF2]
  rw[D1 m.Z a za,aF2,D1 _ c (by omega),aF2,D1 _ d (by omega),aF2,D1 m.Z b zb,aF2,D1 _ c (by omega),aF2,D1 _ d (by omega),aF2,
   <-bV1 za (by omega),<-bV1 za (by omega),<-bV1 zb (by omega),<-bV1 zb (by omega)]
  simp only[am2]
  congr 1;omega
 ·have h1:=cf3 hm.y hc hd hj (fun j=>along m i (lim m.X x) j)
  have h2:=cf3 hm.x ha hb hi (fun i=>zz m i c)
  have h3:=cf3 hm.x ha hb hi (fun i=>zz m i d)
  have e1:itp (nd m.X i) (nd m.X (i+1)) (zz m i c) (zz m (i+1) c) (lim m.X x)=along m i (lim m.X x) c:=rfl
  have e2:itp (nd m.X i) (nd m.X (i+1)) (zz m i d) (zz m (i+1) d) (lim m.X x)=along m i (lim m.X x) d:=rfl
  rw[e1]at h2
  rw[e2]at h3
  unfold atV
  omega
def cD0 (r:j1):Bool:=((!(((decide (r.N7<0))||(decide (r.N7>15)))||(decide (r.E7<0))||(decide (r.E7>15))))&&((decide (r.o9>=(-5000)))&&(decide (r.o9<=10000))))&&((r.Kind==1)||(decide (r.N7<=1)&&((r.Kind==2)||(r.Kind==3))))
theorem dT9 (r:j1):S9 r=some (cD0 r):=by
 unfold S9 P6 cD0
 generalize decide (r.N7<0)=a,decide (r.N7>15)=b,decide (r.E7<0)=c,decide (r.E7>15)=d,decide (r.o9>=(-5000))=e,decide (r.o9<=10000)=f,(r.Kind==1)=h,decide (r.N7<=1)=i,(r.Kind==2)=j,(r.Kind==3)=k
 generalize(((a||b)||c)||d)=A,(j||k)=B
 cases A<;>cases e<;>cases f<;>cases h<;>cases i<;>cases B<;>rfl
theorem dX7 (l:List j1)(hl:l.length<=40):E4 l V3=some (!l.all cD0):=by
 have k:=ai7 l (by omega) V3 (fun r=>!cD0 r) (fun y _=>by simp[V3,dT9])
 have e2:(l.any fun z=>!cD0 z)= !l.all cD0:=by rw[dE7];simp
 rw[e2]at k
 exact k
def dT2 (s:Int×Int)(y:j1):Int×Int:=
 bif !((y.Kind==2)||(y.Kind==3))then s else(bif y.N7==1 then G8 s.1 (F7 y.o9 1500)else s.1,G8 s.2 y.E7)
def dg5 (p s:Int)(y:j1):Int:=bif (y.Kind==1)&&decide (y.E7>p)then F7 s y.o9 else s
theorem fh5 (l:List j1)(hl:l.length<=40)(s:Int×Int):ae5 l ag6 s=some (.inl (l.foldl dT2 s)):=by
 rw[L0 _ (by omega)]
 refine bo8 l 0 s fun i s y _=>?_
 unfold ag6 ax7 dT2
 simp only[aF2]
 cases((y.Kind==2)||(y.Kind==3))<;>cases(y.N7==1)<;>rfl
theorem fh6 (l:List j1)(hl:l.length<=40)(q:Int×Int)(s:Int):ae5 l (ag7 q) s=some (.inl (l.foldl (dg5 q.2) s)):=by
 rw[L0 _ (by omega)]
 refine bo8 l 0 s fun i s y _=>?_
 unfold ag7 dg5
 cases((y.Kind==1)&&decide (y.E7>q.2))<;>rfl
def er0 (g:ai3):Prop:=(0<=g.Over/\g.Over<=5)/\(0<=g.Calm/\g.Calm<=1000)/\(g.Over=0\/g.Calm=0)/\(g.Off=true\/g.Over<5)
instance (g:ai3):Decidable (er0 g):=by unfold er0;infer_instance
def dV2 (n:Int):Prop:=-20000<=n/\n<=20000
instance (n:Int):Decidable (dV2 n):=by unfold dV2;infer_instance
def dJ5 (n:Int)(x:A6):Int:=bif (x.Z7 !=0)then j5 (n+1)else n
theorem fm6 (l:List A6)(hl:l.length<=20)(s:Int):ae5 l aq9 s=some (.inl (l.foldl dJ5 s)):=by
 rw[L0 _ (by omega)]
 refine bo8 l 0 s fun i s y _=>?_
 unfold aq9 dJ5
 cases(y.Z7 !=0)<;>rfl
def bZ4 (x:A6):Bool:=x.Z7 !=0
theorem cw1:∀(l:List A6) (s:Nat),s+l.length<=100->l.foldl dJ5 (s:Int)=((s+l.countP bZ4:Nat):Int)
 |[],s,_=>by simp
 |y::l,s,h=>by
  simp only[bu9]at h
  by_cases hy:bZ4 y=true
  ·have e:dJ5 (s:Int) y=((s+1:Nat):Int):=by
    unfold dJ5;unfold bZ4 at hy;rw[hy];simp only[fk7];rw[j4 (by omega) (by omega)];simp
   rw[eh2,e,cw1 l (s+1) (by omega),List.countP_cons_of_pos hy]
   congr 1;omega
  ·have hy':bZ4 y=false:=by simpa using hy
   have e:dJ5 (s:Int) y=(s:Int):=by unfold dJ5;unfold bZ4 at hy';rw[hy'];rfl
   rw[eh2,e,cw1 l s (by omega),List.countP_cons_of_neg hy]
def dj0 (V n len:Int):Int:=(V*n+len-1).tdiv len
def da9 (t:o7)(x1 x2:Int)(hm:bp9 t.o9=true)(ho:(bif !(decide (x1>=0)&&decide (x1<=12000))then true else !(decide (x2>=0)&&decide (x2<=1048576)))=false)(c:Int)(c1:Y6 t.o9 x1 x2=some c):
  ∀l:List A6,1<=l.length->l.length<=8->ax6 t x1 x2 l=some (dj0 (F7 (G8 c 0) 10000) (l.countP bZ4:Nat) (l.length:Nat),0):=by
 intro l hl hl2
 have h1:0<=F7 (G8 c 0) 10000:=by unfold G8 F7;repeat' split<;>omega
 have h2:F7 (G8 c 0) 10000<=10000:=by unfold F7;split<;>omega
 unfold ax6
 rw[ao7,hm]
 have h8:decide ((l.length:Int)>8)=false:=by simp;omega
 have h0:((l.length:Int)==0)=false:=by
  have:¬(l.length:Int)=0:=by omega
  simpa using this
 have hn:=cw1 l 0 (by omega)
 simp only[aF2,aX5,fk6,h8]
 unfold N2
 simp only[aF2,cL3]
 rw[ho]
 simp only[fk6,h0]
 rw[fm6 l (by omega),show(0:Int)=((0:Nat):Int)from rfl,hn]
 simp only[aF2,c1]
 rw[show((0:Nat):Int)=0 from rfl,da1]
 have hcl:l.countP bZ4<=l.length:=List.countP_le_length
 generalize F7 (G8 c 0) 10000=V at h1 h2|-
 generalize l.countP bZ4=n at hcl|-
 have hV1:0<=V*(n:Int):=eP7 h1 (by omega)
 have hV2:V*(n:Int)<=10000*8:=by
  have:=eP2 h2 (show(n:Int)<=8 by omega) (by omega) (by omega)
  exact this
 have hne:¬(l.length:Int)=0:=by omega
 unfold dj0
 generalize V*(n:Int)=p at hV1 hV2|-
 rw[j4 (n:=p) (by omega) (by omega),j4 (n:=p+(l.length:Int)) (by omega) (by omega),j4 (n:=p+(l.length:Int)-1) (by omega) (by omega)]
 simp only[bo5,if_neg hne,aF2]
 have hq1:0<=(p+(l.length:Int)-1).tdiv (l.length:Int):=Int.tdiv_nonneg (by omega) (by omega)
 have hq2:(p+(l.length:Int)-1).tdiv (l.length:Int)<=p+(l.length:Int)-1:=Int.tdiv_le_self _ (by omega)
 have:=j4 (n:=(p+(l.length:Int)-1).tdiv (l.length:Int)) (by omega) (by omega)
 unfold j5 at this
 rw[this]
theorem do3 (t:o7)(x1 x2:Int)(hm:bp9 t.aI4=true)(ho:(bif !(decide (x1>=0)&&decide (x1<=1000))then true else !(decide (x2>=0)&&decide (x2<=12000)))=false)(c:Int)(c1:Y6 t.aI4 x2 x1=some c):
  ∀l:List j1,l.all cD0=true->l.length<=32->
   af0 t x1 x2 l=some (j5 (G8 0 (F7 (l.foldl (dg5 (l.foldl dT2 (-5000,-1)).2) 10000) (G8 (F7 (G8 c (-5000)) 10000) (l.foldl dT2 (-5000,-1)).1))+100),0):=by
 intro l hq hl
 unfold af0
 rw[ao7]
 simp only[aF2]
 rw[dX7 l (by omega),hm,hq]
 simp only[aX5,fk6,aF2]
 have h32:decide ((l.length:Int)>32)=false:=by simp;omega
 rw[h32]
 simp only[fk6]
 unfold N2
 simp only[aF2,cL3]
 rw[ho]
 simp only[fk6,c1,aF2]
 rw[fh5 l (by omega)]
 simp only[aF2]
 rw[fh6 l (by omega)]
 rfl
end Go.Pv
namespace Go.Proofs.YtjhedhnghldjbaaGreatDoor.Ec
open Go Go.Pv Go.Pv.Ec Go.Proofs
theorem eO4 (o:ai3):(bR1 o).m=some o:=rfl
theorem er6 (n:ai3)(e:Int)(o:ai3):(bi7 n e o).m=some (bif e !=0 then o else n):=by
 simp only[bi7,C.of,M.run]
 cases e !=0<;>rfl
def dF8 {c:j6}(ht:cd7 c.u.A0=true)(hs:0<=c.o8/\c.o8<=12000)(hc:0<=c.A4/\c.A4<=1048576)(h1:1<=c.F3.O3.length)(h8:c.F3.O3.length<=8):∃v,(au9 c).m=some v:=by
 have hm:bp9 c.u.A0.o9=true:=by
  have:=(dh7 ht).tor
  unfold aZ3 at this
  simp only[aK5]at this
  first|exact this.1.1.1.1|exact this.1.1|exact this.1|exact this.1.1.1
 obtain⟨v,k,_,e1,_⟩:=cv1 hm c.o8 c.A4
 have:=da9 c.u.A0 c.o8 c.A4 hm (by
  rw[fk8 hs.1,fk8 hs.2,fk8 hc.1,fk8 hc.2];rfl) k e1 c.F3.O3 h1 h8
 simp only[au9,CG.of,M.run,bz3]
 rw[this]
 exact⟨_,rfl⟩
theorem eO6 (o:ad9):(bB3 o).m=some o:=rfl
theorem er8 (n:ad9)(e:Int)(o:ad9):(ba0 n e o).m=some (bif e !=0 then o else n):=by
 simp only[ba0,C.of,M.run]
 cases e !=0<;>rfl
def fc4 (t:Int)(q:ad9):Prop:=qzB q=true/\q.ap5<=t
theorem er9 (o:c8):(aD3 o).m=some o:=rfl
theorem dJ7 (n:c8)(e:Int)(o:c8):(an7 n e o).m=some (bif e !=0 then o else n):=by
 simp only[an7,C.of,M.run]
 cases e !=0<;>rfl
theorem bU6 (s:j6)(n:c8)(l:List j8)(e:Int)(hl:s.A3.length+l.length<=1073741824):
  (aH5 s n l e).m=some {s with u:={s.u with j3:=bif e !=0 then s.u.j3 else n},A3:=bif e !=0 then s.A3 else s.A3++l}:=by
 simp only[aH5,CG.of,M.run,U1.m,er9,dJ7,aF2,I1 _ _ hl]
 by_cases he:e=0
 ·subst he;rfl
 ·rw[show(e !=0)=true by simpa using he,show(e==0)=false by simpa using he];rfl
end Go.Proofs.YtjhedhnghldjbaaGreatDoor.Ec
namespace Go.Pv.Ev
open Go Go.Pv
def cen (e:o5)(c:Int):Int:=(e.as4+G8 (idx c e.A7 0) 0*46080/(e.A7.length:Int))%46080
def db8 (e:o5)(c:Int):0<=cen e c/\cen e c<46080:=by unfold cen;omega
theorem ev5 {a b:Int}(ha:0<=a)(hb:0<b)(hm:a<=9223372036854775807):bo5 .i64 a b=some (a/b):=by
 have h1:a/b<=a:=eD5 _ ha
 have h2:0<=a/b:=eM5 ha (by omega)
 unfold bo5
 rw[if_neg (by omega),cx1 ha]
 exact congrArg some (j4 (by omega) (by omega))
theorem db9 (e:o5)(c:Int)(h:aE5 e):al2 e c=some (cen e c,decide (c∈e.A7)):=by
 obtain⟨h1,h2,h3,h4,h5,h6⟩:=h
 unfold al2
 rw[bS3 _ _ (by omega)]
 simp only[aF2]
 have hm:0<=G8 (idx c e.A7 0) 0/\G8 (idx c e.A7 0) 0<8:=by
  rcases cQ8 c e.A7 0 with⟨e1,_⟩|⟨k,e1,e2⟩
  ·rw[e1];decide
  ·have:=(bG6.1 e2).1
   rw[e1];unfold G8;split<;>omega
 rw[j4 (by omega) (by omega),ev5 (by omega) (by omega) (by omega)]
 simp only[aF2]
 have hq:0<=G8 (idx c e.A7 0) 0*46080/(e.A7.length:Int):=eM5 (by omega) (by omega)
 have hq2:G8 (idx c e.A7 0) 0*46080/(e.A7.length:Int)<=G8 (idx c e.A7 0) 0*46080:=eD5 _ (by omega)
 rw[j4 (by omega) (by omega),cX1 (by omega),dR9]
 rfl
theorem dV8 (e:o5)(c:Int):aw0 e c=some (bif !decide (aE5 e)then(0,1)else bif !decide (c∈e.A7)then(0,7)else(cen e c,0)):=by
 unfold aw0
 rw[ao7]
 cases hd:decide (aE5 e)
 ·rfl
 ·simp only[aF2,aX5,fk6]
  rw[db9 e c (of_decide_eq_true hd)]
  simp only[aF2]
  cases decide (c∈e.A7)<;>rfl
def bf4 (e:o5)(f:A6):Prop:=f.p7∈e.A7/\(-1280<=f.O2/\f.O2<=3840)/\(500<=f.af6/\f.af6<=10000)/\(0<=f.End/\f.End<=23040)/\(f.Z7=0\/(200<=f.Z7/\f.Z7<=20000))/\
 ((f.Gap=0/\f.Extra=0)\/(f.Z7≠0/\(200<=f.Gap/\f.Gap<=20000)/\(200<=f.Extra/\f.Extra<=20000)))
instance (e:o5)(f:A6):Decidable (bf4 e f):=by unfold bf4;infer_instance
theorem dR0 (e:o5)(f:A6):Y3 e f=some (decide (aE5 e)&&decide (bf4 e f)):=by
 unfold Y3 M8
 rw[ao7]
 cases hd:decide (aE5 e)
 ·rfl
 ·obtain⟨h1,h2,_⟩:=of_decide_eq_true hd
  simp only[aF2,aX5,fk6,contains_eq e.A7 f.p7 (by omega),db5,cA6]
  rw[aI6,dq3,fl2]
  unfold bf4
  simp only[eO1,fb6,fb7,fb4,cH4,aK5,bG5,cw7,eD7,dQ6,fl2,fl3,bne_iff_ne,bne_eq_false_iff_eq,beq_iff_eq,beq_eq_false_iff_ne,ne_eq,ge_iff_le]
  by_cases hm:f.p7∈e.A7
  ·simp only[hm,true_and,not_true_eq_false,false_or]
   omega
  ·simp only[hm,false_and,not_false_eq_true,true_or,iff_false,not_and]
def pul (f:A6):Int:=bif f.Z7==0 then 0 else bif f.Extra==0 then 1 else 2
theorem ed8 (f:A6):al1 f=some (pul f):=by
 unfold al1 pul
 cases f.Z7==0<;>cases f.Extra==0<;>rfl
def cV5 {R:Type}(f:Int->Unit->Option (Fl Unit R))(p:Nat->Bool)(r:R):∀(k i:Nat),(∀j,i<=j->j<i+k->f (j:Int) ()=some (bif p j then .ret r else .next ()))->aX2 f k (i:Int) ()=some (bif (dI4 i k).any p then .inr r else .inl ())
 |0,i,_=>rfl
 |k+1,i,h=>by
  rw[List.range'_succ,List.any_cons]
  simp only[aX2,h i (bO2 _) (by omega),aF2]
  cases hp:p i
  ·exact cV5 f p r k (i+1) fun j a b=>h j (by omega) (by omega)
  ·rfl
theorem dL3 {R:Type}(n:Nat)(hn:n<=9223372036854775807)(f:Int->Unit->Option (Fl Unit R))(p:Nat->Bool)(r:R)(h:∀j,j<n->f (j:Int) ()=some (bif p j then .ret r else .next ())):L2 (n:Int) f ()=some (bif (dI4 0 n).any p then .inr r else .inl ()):=by
 rw[am4 _ hn]
 exact cV5 f p r n 0 fun j _ b=>h j (by omega)
theorem eE0 {α:Type}(l:List α)(p:α->Bool):(l.all fun x=>!p x)= !l.any p:=by
 induction l with
 |nil=>rfl
 |cons x l ih=>rw[List.all_cons,List.any_cons,ih];cases p x<;>rfl
def dN3 (a:Int):(0<=a/\a.tmod 46080=a%46080)\/(a<0/\a.tmod 46080= -((-a)%46080)):=by
 rcases ff6 a 0 with h|h
 ·refine .inr ⟨h,?_⟩
  have:a.tmod 46080=(- -a).tmod 46080:=by rw[Int.neg_neg]
  rw[this,Int.neg_tmod,cX1 (by omega)]
 ·exact .inl ⟨h,cX1 h⟩
theorem mod_eq (a:Int)(h1: -1000000000000000<=a)(h2:a<=1000000000000000):ac9 a 46080=some (a%46080):=by
 unfold ac9 cg2
 simp only[show((46080:Int)==0)=false from rfl,show((46080:Int)== -1)=false from rfl,eC7,fk6,show¬(46080:Int)=0 from by decide,if_false,aF2,show decide ((46080:Int)<0)=false from rfl]
 rcases dN3 a with⟨h,e⟩|⟨h,e⟩
 ·rw[e]
  have:decide (a%46080<0)=false:=by simp;omega
  rw[this]
  simp
 ·rw[e]
  rcases Int.lt_or_eq_of_le (show 0<=(-a)%46080 by omega)with hq|hq
  ·have h3:decide (-(-a%46080)<0)=true:=by simp;omega
   have h4:(-(-a%46080) !=0)=true:=by simp;omega
   rw[h3,h4]
   simp only[show(true==false)=false from rfl,cr8,Bool.and_self,fk7]
   rw[j4 (by omega) (by omega)]
   congr 1;omega
  ·rw[<-hq]
   simp only[show((-0:Int) !=0)=false from rfl,eg6,fk6]
   congr 1;omega
def trn (d M7:Int):Int:=d*23040/M7
def bX2 {d M7:Int}(h0:0<=d)(h1:d<=20000)(ht:4000<=M7):0<=trn d M7/\trn d M7<=460800000:=by
 have h2:d*23040/M7<=d*23040:=eD5 _ (by omega)
 exact⟨eM5 (by omega) (by omega),by unfold trn;omega⟩
theorem cJ6 {d M7:Int}(h0:0<=d)(h1:d<=20000)(ht:4000<=M7):K8 d M7=some (trn d M7):=by
 unfold K8
 rw[j4 (by omega) (by omega),ev5 (by omega) (by omega) (by omega)]
 rfl
def mn (x:Int):Int:=F7 x 23040
def et3 {x:Int}(h:0<=x):0<=mn x/\mn x<=23040:=by
 unfold mn F7;split<;>omega
def ed1 (f:A6)(t:Int):List (Int×Int×Int):=
 [(-f.O2,2,0),(-f.O2-mn (trn f.af6 t),1,0)]++(bif decide (pul f>0)then [(-f.End,4,1),(-f.End-trn f.Z7 t,3,1)]else [])++(bif decide (pul f>1)then [(-f.End+trn f.Gap t,3,2),(-f.End+trn f.Gap t+trn f.Extra t,4,2)]else [])
def evF (e:o5)(f:A6)(o:Int×Int×Int):C0:=⟨(cen e f.p7+o.1)%46080,o.2.1,f.p7,o.2.2⟩
def evs (e:o5)(t:Int)(f:A6):List C0:=(ed1 f t).map (evF e f)
def long (t:Int)(f:A6):Bool:=decide (trn f.Z7 t>23040)||decide (trn f.Gap t>23040)||decide (trn f.Extra t>23040)
theorem bj8 (f:A6):pul f=0\/pul f=1\/pul f=2:=by
 unfold pul;cases f.Z7==0<;>cases f.Extra==0<;>simp
theorem eu1 (f:A6)(t:Int):(ed1 f t).length<=6:=by
 rcases bj8 f with h|h|h<;>simp[ed1,h]
def cI2 (e:o5)(t:Int)(f:A6):(evs e t f).length<=6:=by
 unfold evs;rw[bY6];exact eu1 f t
theorem cC6 (a k p:Int)(c:List C0)(x:A6)(h1: -1000000000000000<=a)(h2:a<=1000000000000000)(hc:c.length<=100000):O9 a k p c x=some (c++[⟨a%46080,k,x.p7,p⟩]):=by
 unfold O9
 rw[mod_eq a h1 h2]
 simp only[aF2]
 rw[I1 _ _ (by simp only[cJ4];omega)]
 rfl
def dv7 {e:o5}{f:A6}(h:bf4 e f):(0<=f.af6/\f.af6<=20000)/\(0<=f.Z7/\f.Z7<=20000)/\(0<=f.Gap/\f.Gap<=20000)/\(0<=f.Extra/\f.Extra<=20000)/\(-1280<=f.O2/\f.O2<=3840)/\(0<=f.End/\f.End<=23040):=by
 unfold bf4 at h
 obtain⟨_,h⟩:=h
 omega
theorem step_eq (e:o5)(t i:Int)(x:A6)(c:List C0)(he:aE5 e)(hx:bf4 e x)(ht:4000<=t)(hc:c.length<=1000):
  ax0 e t i x c=some (bif long t x then .ret ([],2)else .next (c++evs e t x)):=by
 obtain⟨⟨d0,d1⟩,⟨i0,i1⟩,⟨g0,g1⟩,⟨x0,x1⟩,⟨s0,s1⟩,n0,n1⟩:=dv7 hx
 obtain⟨c0,c1⟩:=db8 e x.p7
 have td:=et3 (bX2 d0 d1 ht).1
 have ti:=bX2 i0 i1 ht
 have tg:=bX2 g0 g1 ht
 have tx:=bX2 x0 x1 ht
 unfold ax0
 rw[db9 e _ he,cJ6 d0 d1 ht,cJ6 i0 i1 ht,cJ6 g0 g1 ht,cJ6 x0 x1 ht,ed8]
 simp only[aF2]
 rw[show F7 (trn x.af6 t) 23040=mn (trn x.af6 t)from rfl]
 have hl:decide (G8 (G8 (trn x.Z7 t) (trn x.Gap t)) (trn x.Extra t)>23040)=long t x:=by
  rw[dq3]
  unfold long
  simp only[cH4,fl2]
  unfold G8
  split<;>split<;>omega
 rw[hl]
 unfold evs ed1
 simp only[eC5,cN4,dT4,evF]
 generalize hC:cen e x.p7=C at*
 generalize hD:mn (trn x.af6 t)=D at*
 generalize hI:trn x.Z7 t=A at*
 generalize hG:trn x.Gap t=G at*
 generalize hX:trn x.Extra t=B at*
 rw[j4 (n:=C-x.O2) (by omega) (by omega),j4 (n:=C-x.O2-D) (by omega) (by omega),j4 (n:=C-x.End) (by omega) (by omega),j4 (n:=C-x.End-A) (by omega) (by omega),j4 (n:=C-x.End+G) (by omega) (by omega),j4 (n:=C-x.End+G+B) (by omega) (by omega)]
 rw[cC6 _ _ _ c _ (by omega) (by omega) (by omega)]
 simp only[aF2]
 rw[cC6 _ _ _ _ _ (by omega) (by omega) (by simp only[bd4,cJ4];omega)]
 simp only[aF2]
 cases long t x
 ·simp only[fk6]
  rcases bj8 x with hp|hp|hp
  ·rw[hp]
   simp only[show decide ((0:Int)>0)=false from rfl,show decide ((0:Int)>1)=false from rfl,fk6,aF2,dT4,dq6,dE5,dy7,cZ2]
   rw[show C-x.O2-D=C+(-x.O2-D) by omega,show C-x.O2=C+ -x.O2 by omega]
  ·rw[hp]
   simp only[show decide ((1:Int)>0)=true from rfl,show decide ((1:Int)>1)=false from rfl,fk6,fk7,aF2]
   rw[cC6 _ _ _ _ _ (by omega) (by omega) (by simp only[bd4,cJ4];omega)]
   simp only[aF2]
   rw[cC6 _ _ _ _ _ (by omega) (by omega) (by simp only[bd4,cJ4];omega)]
   simp only[evF,hC,aF2,cN4,dT4,dq6,dE5,dy7,cZ2]
   rw[show C-x.O2-D=C+(-x.O2-D) by omega,show C-x.O2=C+ -x.O2 by omega,show C-x.End-A=C+(-x.End-A) by omega,show C-x.End=C+ -x.End by omega]
  ·rw[hp]
   simp only[show decide ((2:Int)>0)=true from rfl,show decide ((2:Int)>1)=true from rfl,fk6,fk7,aF2]
   rw[cC6 _ _ _ _ _ (by omega) (by omega) (by simp only[bd4,cJ4];omega)]
   simp only[aF2]
   rw[cC6 _ _ _ _ _ (by omega) (by omega) (by simp only[bd4,cJ4];omega)]
   simp only[aF2]
   rw[cC6 _ _ _ _ _ (by omega) (by omega) (by simp only[bd4,cJ4];omega)]
   simp only[aF2]
   rw[cC6 _ _ _ _ _ (by omega) (by omega) (by simp only[bd4,cJ4];omega)]
   simp only[evF,hC,aF2,cN4,dT4,dq6,dE5,dy7,cZ2]
   rw[show C-x.O2-D=C+(-x.O2-D) by omega,show C-x.O2=C+ -x.O2 by omega,show C-x.End-A=C+(-x.End-A) by omega,show C-x.End+G+B=C+(-x.End+G+B) by omega,show C-x.End+G=C+(-x.End+G) by omega,show C-x.End=C+ -x.End by omega]
 ·rfl
theorem dC4 (e:o5)(t:Int)(he:aE5 e)(ht:4000<=t):∀(l:List A6) (i:Int) (c:List C0),(∀x∈l,bf4 e x)->c.length+6*l.length<=1000->
  N4 (ax0 e t) l i c=some (bif l.any (long t)then .inr ([],2)else .inl (c++l.flatMap (evs e t)))
 |[],i,c,_,_=>by simp[N4]
 |x::l,i,c,hx,hc=>by
  rw[bu9]at hc
  simp only[N4,step_eq e t i x c he (hx x (cq1 ..)) ht (by omega),aF2,List.any_cons]
  cases long t x
  ·simp only[fk6,ec6,eD1]
   have:=cI2 e t x
   rw[<-dE5]
   exact dC4 e t he ht l (i+1) _ (fun y hy=>hx y (bE0 _ hy)) (by rw[bd4];omega)
  ·rfl
def ltE (a b:C0):Bool:=decide (a.I0<b.I0\/(a.I0=b.I0/\(a.p7<b.p7\/(a.p7=b.p7/\(a.Kind<b.Kind\/(a.Kind=b.Kind/\a.aj6<b.aj6))))))
def cY2 (x y:Int):Int:=if x<y then -1 else if x>y then 1 else 0
theorem cO0 (x y:Int):F8 x y=some (cY2 x y):=by
 unfold F8 cmp_isNaN_int cY2
 have h:∀z:Int,(z !=z)=false:=fun z=>by simp
 rw[h,h]
 simp only[aF2,fk6]
 by_cases h1:x<y
 ·rw[fk8 h1,if_pos h1];rfl
 ·rw[fk9 h1,if_neg h1]
  by_cases h2:x>y
  ·rw[fk8 h2,if_pos h2];rfl
  ·rw[fk9 h2,if_neg h2];rfl
def dl8 (a b c d:Int):Int:=bif a !=0 then a else bif b !=0 then b else bif c !=0 then c else d
theorem or_eq (a b c d:Int):ag2 [a,b,c,d]=some (dl8 a b c d):=by
 unfold ag2 dl8
 rw[L0 _ (by simp)]
 simp only[N4,aA4]
 cases ha:a !=0
 ·cases hb:b !=0
  ·cases hc:c !=0
   ·cases hd:d !=0
    ·have:d=0:=by simpa using hd
     rw[this];rfl
    ·rfl
   ·rfl
  ·rfl
 ·rfl
theorem dz3 (a b:C0):al9 a b=some (dl8 (cY2 a.I0 b.I0) (cY2 a.p7 b.p7) (cY2 a.Kind b.Kind) (cY2 a.aj6 b.aj6)):=by
 unfold al9
 simp only[cO0,aF2,or_eq]
def bi4 (x y:Int):(x<y/\cY2 x y= -1)\/(x=y/\cY2 x y=0)\/(y<x/\cY2 x y=1):=by
 unfold cY2
 split
 ·exact .inl ⟨by assumption,rfl⟩
 ·split
  ·exact .inr (.inr ⟨by omega,rfl⟩)
  ·exact .inr (.inl ⟨by omega,rfl⟩)
theorem aP4 (a b:C0):ltM al9 a b=ltE a b:=by
 unfold ltM ltE
 rw[dz3,ep8,decide_eq_decide]
 unfold dl8
 rcases bi4 a.I0 b.I0 with⟨h1,e1⟩|⟨h1,e1⟩|⟨h1,e1⟩<;>rw[e1]
 ·simp;omega
 ·rcases bi4 a.p7 b.p7 with⟨h2,e2⟩|⟨h2,e2⟩|⟨h2,e2⟩<;>rw[e2]
  ·simp;omega
  ·rcases bi4 a.Kind b.Kind with⟨h3,e3⟩|⟨h3,e3⟩|⟨h3,e3⟩<;>rw[e3]
   ·simp;omega
   ·rcases bi4 a.aj6 b.aj6 with⟨h4,e4⟩|⟨h4,e4⟩|⟨h4,e4⟩<;>rw[e4]<;>simp<;>omega
   ·simp;omega
  ·simp;omega
 ·simp;omega
theorem eI4 (x:C0):ltE x x=false:=by unfold ltE;simp
theorem eb6 {x y z:C0}(h1:ltE x y=true)(h2:ltE y z=true):ltE x z=true:=by
 unfold ltE at*;simp only[fl2]at*;omega
theorem eb1 {x y z:C0}(h1:ltE x y=false)(h2:ltE y z=false):ltE x z=false:=by
 unfold ltE at*;simp only[fl3]at*;omega
theorem es4 {x y:C0}(h1:ltE x y=false)(h2:ltE y x=false):x=y:=by
 unfold ltE at*;simp only[fl3]at*
 refine C0.ext ?_ ?_ ?_ ?_<;>omega
def srt (l:List C0):List C0:=l.mergeSort fun x y=>!ltE y x
def ez0 (l:List C0):(srt l).Perm l:=List.mergeSort_perm _ _
theorem eL4 (l:List C0)(h:l.length<=1000000):ab4 l al9=some (srt l):=by
 unfold ab4 srt
 have e:(fun x y=>!ltM al9 y x)=fun x y=>!ltE y x:=by funext x y;rw[aP4]
 rw[bU0 ⟨by omega,fun x _ y _=>⟨_,dz3 x y⟩,fun x _=>by rw[aP4,eI4],fun x _ y _ z _=>by rw[aP4,aP4,aP4];exact eb6,
  fun x _ y _ z _=>by rw[aP4,aP4,aP4];exact eb1,fun x _ y _=>by rw[aP4,aP4];exact es4⟩,e]
def dQ3 (l:List A6)(i:Nat):Bool:=match l[i]?with|some x=>(l.take i).any fun g=>g.p7==x.p7|none=>false
def eF3 (l:List A6):Bool:=(dI4 0 l.length).any (dQ3 l)
def eA6 (t:Int):Bool:=decide (t>=4000)&&decide (t<=1000000)
def dX5 (e:o5)(l:List A6):Bool:=l.any fun f=>!decide (bf4 e f)
def bg2 (e:o5)(l:List A6)(t:Int):List C0×Int:=
 bif !decide (aE5 e)then([],1)else bif dX5 e l then([],1)else bif !eA6 t then([],2)else bif eF3 l then([],8)else bif l.any (long t)then([],2)else(srt (l.flatMap (evs e t)),0)
def ep6 (e:o5)(t:Int)(l:List A6):(l.flatMap (evs e t)).length<=6*l.length:=by
 induction l with
 |nil=>simp
 |cons x l ih=>
  have:=cI2 e t x
  rw[eD1,bd4,bu9];omega
def dG5 {e:o5}{l:List A6}(h:dX5 e l=false):∀x∈l,bf4 e x:=by
 intro x hx
 unfold dX5 at h
 rw[dE4]at h
 simpa using h x hx
theorem eJ6 (e:o5)(l:List A6)(t:Int)(hl:l.length<=100):aF7 e l t=some (bg2 e l t):=by
 unfold aF7 bg2
 rw[ao7]
 cases hd:decide (aE5 e)
 ·rfl
 ·have he:=of_decide_eq_true hd
  simp only[aF2,aX5,fk6]
  have k:=ai7 l (by omega) (fun x0=>ap0 x0 e) (fun f=>!decide (bf4 e f)) (fun y _=>by unfold ap0;rw[dR0,hd];rfl)
  have k':F5 l (fun x0=>ap0 x0 e)=some (dX5 e l):=k
  rw[k']
  simp only[aF2]
  cases hb:dX5 e l
  ·have hf:=dG5 hb
   simp only[fk6]
   unfold M8 eA6
   simp only[aF2]
   cases ht:(decide (t>=4000)&&decide (t<=1000000))
   ·rfl
   ·simp only[aX5,fk6]
    have ht1:4000<=t:=by simp at ht;omega
    rw[dL3 l.length (by omega) (aD5 l) (dQ3 l) ([],8) (fun j hj=>by
     unfold aD5 dQ3
     have hs:ay7 l 0 (j:Int)=some (l.take j):=by
      unfold ay7
      rw[if_pos ⟨by omega,by omega,by omega⟩]
      simp
     rw[D1 _ _ hj,aX4 hj,hs]
     simp only[aF2]
     have k2:=ai7 (l.take j) (by rw[cZ8];omega) (fun x0=>aw1 x0 l[j]) (fun g=>g.p7==l[j].p7) (fun y _=>rfl)
     have k3:F5 (l.take j) (fun x0=>aw1 x0 l[j])=some ((l.take j).any fun g=>g.p7==l[j].p7):=k2
     rw[k3]
     simp only[aF2]
     cases(l.take j).any fun g=>g.p7==l[j].p7<;>rfl)]
    rw[show(dI4 0 l.length).any (dQ3 l)=eF3 l from rfl]
    cases eF3 l
    ·simp only[fk6,aF2]
     rw[L0 _ (by omega),dC4 e t he ht1 l 0 [] hf (by simp;omega)]
     cases l.any (long t)
     ·simp only[fk6,aF2,cZ2]
      have:=ep6 e t l
      rw[eL4 _ (by omega)]
      rfl
     ·rfl
    ·rfl
  ·rfl
end Go.Pv.Ev
namespace Go.Pv
open Go
namespace Ev
def evP (x:C0):Prop:=(0<=x.I0/\x.I0<46080)/\(1<=x.Kind/\x.Kind<=4)/\(1<=x.p7/\x.p7<=8)/\(0<=x.aj6/\x.aj6<=2)
instance (x:C0):Decidable (evP x):=by unfold evP;infer_instance
def cb5 (a:Int):Bool:=decide (a>=0)&&decide (a<46080)
theorem bt8 {a:Int}:cb5 a=true↔0<=a/\a<46080:=by unfold cb5;simp
def dst (a b:Int):Int:=(b-a)%46080
theorem en9 (a b:Int):R6 a b=some (bif cb5 a&&cb5 b then dst a b else -1):=by
 unfold R6 ai4
 simp only[aF2]
 have e:∀a:Int,(decide (a>=0)&&decide (a<46080))=cb5 a:=fun _=>rfl
 rw[e,e]
 cases ha:cb5 a
 ·rfl
 ·cases hb:cb5 b
  ·rfl
  ·have ha:=bt8.1 ha
   have hb:=bt8.1 hb
   simp only[aX5,fk6,aF2,Bool.and_self,fk7]
   rw[j4 (n:=b-a) (by omega) (by omega),mod_eq _ (by omega) (by omega)]
   rfl
theorem dl3 {a b:Int}(ha:cb5 a=true)(hb:cb5 b=true):R6 a b=some (dst a b):=by rw[en9,ha,hb];rfl
end Ev
namespace Tm
abbrev cJ9:Int:=1099511627776
abbrev tz:A2:=⟨0,[]⟩
def chB (now:Int)(c:j7):Bool:=!(bif c.F4 then(decide (c.At<=now)||decide (c.At>1099511627776))else((c.At !=0)||c.Next))
def bf7 (t:A2):Bool:=(((decide (t.V5<0))||(decide (t.V5>1099511627776)))||(decide ((t.j2.length:Int)<1)))||(decide ((t.j2.length:Int)>16))
def ae6 (t:A2):Bool:=!bf7 t&&t.j2.all (chB t.V5)
theorem de5 {t:A2}(h:bf7 t=false):1<=t.j2.length/\t.j2.length<=16/\0<=t.V5/\t.V5<=1099511627776:=by
 grind [bf7]
theorem dw0 {t:A2}(h:1<=t.j2.length/\t.j2.length<=16/\0<=t.V5/\t.V5<=1099511627776):bf7 t=false:=by
 grind [bf7]
def bG1 {t:A2}(h:ae6 t=true):1<=t.j2.length/\t.j2.length<=16/\0<=t.V5/\t.V5<=1099511627776:=by
 simp_all[ae6,de5]
theorem dN6 (t:A2):ao5 t=some (ae6 t):=by
 unfold ao5 ae6
 cases hh:bf7 t
 ·unfold bf7 at hh
  rw[hh]
  have hl:=de5 (t:=t) hh
  have k:=ai7 t.j2 (by omega) (fun c=>ap3 c t) (fun c=>!chB t.V5 c) (fun y _=>by unfold ap3 chB;cases y.F4<;>simp)
  have e2:(t.j2.any fun z=>!chB t.V5 z)= !t.j2.all (chB t.V5):=by rw[dE7];simp
  rw[e2]at k
  simp only[fk6,cr8,cA6]
  have:G7 t.j2 (fun x0=>ap3 x0 t)=some (!t.j2.all (chB t.V5)):=k
  rw[this]
  simp
 grind [bf7]
def cD8 (t:A2)(ch:Int):Bool:=(decide (ch<0))||(decide (ch>=(t.j2.length:Int)))
theorem bC8 (t:A2)(ch:Int):ah5 t ch=some (bif !ae6 t then(tz,1)else bif cD8 t ch then(tz,2)else(t,0)):=by
 unfold ah5
 rw[dN6]
 cases h:ae6 t
 ·rfl
 ·have hl:=bG1 h
  simp only[aF2,aX5,fk6]
  cases hb:cD8 t ch
  ·unfold cD8 at hb
   rw[hb]
   simp only[fk6]
   rw[bW2 _ (by omega)]
   simp[dH9]
  grind [cD8]
theorem ek1 (t:A2)(ch at_:Int)(lvl:Bool):∀j:Nat,ch=(j:Int)->(hj:j<t.j2.length)->ae6 t=true->
  aK4 t ch at_ lvl=some (bif decide (at_<=t.V5)then(tz,16)else bif decide (at_>cJ9)then(tz,2)else(⟨t.V5,t.j2.set j ⟨true,at_,lvl,t.j2[j].L4⟩⟩,0)):=by
 rintro j rfl hj h
 unfold aK4
 have hb:cD8 t (j:Int)=false:=by grind [cD8]
 rw[bC8,h,hb]
 simp only[aX5,fk6,aF2,bne_self_eq_false]
 cases decide (at_<=t.V5)
 ·simp only[fk6]
  unfold cJ9
  cases decide (at_>1099511627776)
  all_goals simp_all[D1,U5]
 ·rfl
theorem dc9 (t:A2)(ch:Int):∀j:Nat,ch=(j:Int)->(hj:j<t.j2.length)->ae6 t=true->
  aA3 t ch=some (⟨t.V5,t.j2.set j ⟨false,0,false,t.j2[j].L4⟩⟩,0):=by
 rintro j rfl hj h
 unfold aA3
 have hb:cD8 t (j:Int)=false:=by grind [cD8]
 simp_all[bC8,D1,U5]
theorem force_eq (t:A2)(ch:Int)(lvl:Bool):∀j:Nat,ch=(j:Int)->(hj:j<t.j2.length)->ae6 t=true->
  aH0 t ch lvl=some (⟨t.V5,t.j2.set j ⟨false,0,false,lvl⟩⟩,bif t.j2[j].L4==lvl then []else [⟨t.V5,(j:Int),lvl⟩],0):=by
 rintro j rfl hj h
 unfold aH0
 have hb:cD8 t (j:Int)=false:=by grind [cD8]
 rw[bC8,h,hb]
 simp only[aX5,fk6,aF2,bne_self_eq_false,D1 _ _ hj,U5 _ _ _ hj]
 grind
theorem copy_eq (t:A2)(h:t.j2.length<=1000):bg0 t=some t:=by
 unfold bg0
 rw[I1 _ _ (by simp;omega)]
 rfl
def due (N3:Int)(c:j7):Bool:=!((!c.F4)||(decide (c.At>N3)))
def swC (N3:Int)(i:Nat)(c:j7):List j8:=bif due N3 c&& !(c.Next==c.L4)then [⟨c.At,(i:Int),c.Next⟩]else []
def bM6 (N3:Int)(c:j7):j7:=bif due N3 c then⟨false,0,false,c.Next⟩else c
def bN7 (N3:Int):Nat->List j7->List j8
 |_,[]=>[]
 |i,c::r=>swC N3 i c++bN7 N3 (i+1) r
def eL9 (N3:Int)(i:Nat)(c:j7):(swC N3 i c).length<=1:=by
 grind [swC]
theorem cq7 (N3:Int):∀(l:List j7) (i:Nat),(bN7 N3 i l).length<=l.length
 |[],_=>bO2 _
 |c::r,i=>by
  have:=cq7 N3 r (i+1)
  have:=eL9 N3 i c
  simp only[bN7,bd4,bu9];omega
theorem bX0 (N3:Int):∀(l:List j7) (i:Nat) (c:j7),bN7 N3 i (l++[c])=bN7 N3 i l++swC N3 (i+l.length) c
 |[],i,c=>by simp[bN7]
 |x::l,i,c=>by
  simp only[dy7,bN7,dE5,List.append_cancel_left_eq,bu9]
  rw[bX0 N3 l (i+1) c,show i+1+l.length=i+(l.length+1) by omega]
def dy3 {N3:Int}{s:j8}:∀{l:List j7}{i:Nat},s∈bN7 N3 i l->∃j c,l[j]? =some c/\due N3 c=true/\(c.Next==c.L4)=false/\s=⟨c.At,((i+j:Nat):Int),c.Next⟩
 |[],i,h=>by simp[bN7]at h
 |c::r,i,h=>by
  simp only[bN7,du0]at h
  rcases h with h|h
  ·unfold swC at h
   cases hd:(due N3 c&& !(c.Next==c.L4))<;>rw[hd]at h
   ·simp at h
   ·simp only[fk7,eh4]at h
    simp only[aK5,bG5]at hd
    exact⟨0,c,rfl,hd.1,hd.2,by omega⟩
  ·obtain⟨j,c',h1,h2,h3,h4⟩:=dy3 h
   exact⟨j+1,c',by grind,h2,h3,by grind⟩
theorem dC8 {N3:Int}:∀(l:List j7) (i:Nat),(bN7 N3 i l).Pairwise (fun a b=>a.Channel<b.Channel)
 |[],_=>.nil
 |c::r,i=>by
  simp only[bN7]
  rw[List.pairwise_append]
  refine⟨?_,dC8 r (i+1),fun a ha b hb=>?_⟩
  ·unfold swC;cases(due N3 c&& !(c.Next==c.L4))<;>simp
  ·have h1:a.Channel=(i:Int):=by
    unfold swC at ha
    cases hd:(due N3 c&& !(c.Next==c.L4))<;>rw[hd]at ha
    ·simp at ha
    ·simp at ha;rw[ha]
   obtain⟨j,c',_,_,_,h4⟩:=dy3 hb
   rw[h1,h4];simp only;omega
def ltS (a b:j8):Bool:=decide (a.At<b.At\/(a.At=b.At/\a.Channel<b.Channel))
theorem cmp_eq (x y:Int):F8 x y=some (if x<y then -1 else if x>y then 1 else 0):=by
 unfold F8 cmp_isNaN_int
 grind
theorem or_eq (v v2:Int):ag2 [v,v2]=some (if v≠0 then v else v2):=by
 unfold ag2
 rw[L0 _ (by simp)]
 grind [N4,aA4]
theorem fe2 (a b:j8):∃c,Y0 a b=some c/\(decide (c<0))=ltS a b:=by
 unfold Y0
 rw[cmp_eq,cmp_eq]
 simp only[aF2,or_eq]
 refine⟨_,rfl,?_⟩
 unfold ltS
 grind
theorem cf4 (a b:j8):ltM Y0 a b=ltS a b:=by
 obtain⟨c,h1,h2⟩:=fe2 a b
 grind [ltM]
theorem fi5 (l:List j8)(hl:l.length<=100)(hd:∀x∈l,∀y∈l,x.Channel=y.Channel->x=y):Y8 l Y0=some (l.mergeSort fun x y=>!ltS y x):=by
 unfold Y8
 have e:(fun x y=>!ltM Y0 y x)=fun x y=>!ltS y x:=by simp[cf4]
 rw[bU0 ⟨by omega,fun x _ y _=>by obtain⟨c,h,_⟩:=fe2 x y;exact⟨c,h⟩,fun x _=>by simp[cf4,ltS],fun x _ y _ z _=>by rw[cf4,cf4,cf4];unfold ltS;grind,
  fun x _ y _ z _=>by grind [cf4,ltS],
  fun x hx y hy=>by grind [cf4,ltS]⟩,e]
def cK4 (N3:Int)(l:List j7):List j8:=(bN7 N3 0 l).mergeSort fun x y=>!ltS y x
theorem em1 {R:j8->j8->Prop}{l:List j8}(h:l.Pairwise R)(hR:∀a b,R a b->a.Channel≠b.Channel):∀x∈l,∀y∈l,x.Channel=y.Channel->x=y:=by
 induction h with
 |nil=>simp
 |cons h1 _ ih=>
  grind
theorem ei8 (t:A2)(N3:Int):al5 t N3=some (bif !ae6 t then(tz,[],1)else bif decide (N3<t.V5)then(tz,[],16)else bif decide (N3>cJ9)then(tz,[],2)else(⟨N3,t.j2.map (bM6 N3)⟩,cK4 N3 t.j2,0)):=by
 unfold al5
 rw[bC8]
 cases h:ae6 t
 ·rfl
 ·have hl:=bG1 h
  have hb:cD8 t 0=false:=by grind [cD8]
  rw[hb]
  simp only[aX5,fk6,aF2,bne_self_eq_false]
  unfold cJ9
  cases decide (N3<t.V5)
  ·simp only[fk6]
   cases decide (N3>1099511627776)
   ·simp only[fk6]
    obtain⟨s,h1,h2⟩:=ag9 (R:=Empty) t.j2.length (by omega) (av2 t N3) (fun i s=>s.1=bN7 N3 0 (t.j2.take i)/\s.2=(t.j2.take i).map (bM6 N3)++t.j2.drop i) ([],t.j2) ⟨by simp[bN7],by simp⟩ (fun j hj s ⟨i1,i2⟩=>by
     have htk:t.j2.take (j+1)=t.j2.take j++[t.j2[j]]:=cW8 hj
     have hdr:t.j2.drop j=t.j2[j]::t.j2.drop (j+1):=List.drop_eq_getElem_cons hj
     have hlt:(t.j2.take j).length=j:=by simp;omega
     unfold av2
     rw[D1 _ _ hj]
     simp only[aF2]
     cases hc:((!t.j2[j].F4)||(decide (t.j2[j].At>N3)))
     ·have dZ9:due N3 t.j2[j]=true:=by unfold due;rw[hc];rfl
      have dR7:j<s.2.length:=by rw[i2];simp;omega
      have hlen1:s.1.length<=16:=by
       rw[i1];have:=cq7 N3 (t.j2.take j) 0;simp at this;omega
      have bN5:s.2.set j ⟨false,0,false,t.j2[j].Next⟩=(t.j2.take (j+1)).map (bM6 N3)++t.j2.drop (j+1):=by
       rw[i2,List.set_append_right _ _ (by simp;omega),hdr,htk]
       simp only[bY6,hlt,Nat.sub_self,List.set_cons_zero,eC5,cN4,dT4,dE5,List.singleton_append]
       unfold bM6;rw[dZ9];rfl
      simp only[fk6]
      cases hn:(t.j2[j].Next==t.j2[j].L4)
      ·simp only[cr8,fk7]
       rw[I1 _ _ (by simp;omega)]
       simp only[aF2,D1 _ _ dR7,U5 _ _ _ dR7]
       refine⟨_,rfl,?_,bN5⟩
       simp only
       rw[htk,bX0,<-i1,hlt,da1]
       unfold swC;rw[dZ9,hn];rfl
      ·simp only[aX5,fk6]
       simp only[aF2,D1 _ _ dR7,U5 _ _ _ dR7]
       refine⟨_,rfl,?_,bN5⟩
       simp only
       rw[htk,bX0,<-i1,hlt,da1]
       unfold swC;rw[dZ9,hn];simp
     ·have dZ9:due N3 t.j2[j]=false:=by unfold due;rw[hc];rfl
      simp only[fk7]
      refine⟨_,rfl,?_,?_⟩
      ·simp only
       rw[htk,bX0,<-i1]
       unfold swC;rw[dZ9];simp
      ·simp only
       rw[i2,hdr,htk]
       simp only[eC5,cN4,dT4,dE5,List.singleton_append]
       unfold bM6;rw[dZ9];rfl)
    rw[h1]
    obtain⟨i1,i2⟩:=h2
    rw[eC8]at i1
    rw[eC8,List.drop_length,dq6]at i2
    simp only[aF2]
    rw[i1,i2,fi5 _ (by have:=cq7 N3 t.j2 0;omega) (em1 (dC8 t.j2 0) (fun a b h=>by omega))]
    rfl
   ·rfl
  ·rfl
theorem dW1 (N3:Int)(l:List j7):(cK4 N3 l).Perm (bN7 N3 0 l):=List.mergeSort_perm _ _
theorem dr3 (N3:Int)(l:List j7):(cK4 N3 l).length<=l.length:=by
 rw[(dW1 N3 l).length_eq];simp[cq7]
def eA8 {t:A2}{N3:Int}(h:ae6 t=true)(h1:¬N3<t.V5)(h2:¬N3>1099511627776):ae6 ⟨N3,t.j2.map (bM6 N3)⟩=true:=by
 have hl:=bG1 h
 unfold ae6 at h|-
 simp only[aK5,bG5,bt1]at h|-
 refine⟨dw0 (by simp;omega),fun c hc=>?_⟩
 simp only[cK0]at hc
 obtain⟨c0,hc0,rfl⟩:=hc
 have h3:=h.2 c0 hc0
 unfold bM6 due
 unfold chB at h3|-
 grind
theorem eX0 (n:Nat)(h1:1<=n)(h2:n<=16):aV7 (n:Int)=some (⟨0,cr7 n ⟨false,0,false,false⟩⟩,0):=by
 grind [aV7,bW2]
def dc1 {now:Int}{c:j7}(h:chB now c=true)(ha:c.F4=true):now<c.At/\c.At<=1099511627776:=by
 grind [chB]
def nxS (s:Int×Bool)(c:j7):Int×Bool:=bif c.F4&&((!s.2)||decide (c.At<s.1))then(c.At,true)else s
def nxV (l:List j7):Int×Bool:=l.foldl nxS (0,false)
theorem ec9 (l:List j7)(h:l.length<=1000)(s:Int×Bool):ae5 l aI0 s=some (.inl (l.foldl nxS s)):=by
 rw[L0 _ (by omega)]
 grind [bo8,aI0,nxS]
theorem dS9 (t:A2):aN6 t=some (bif ae6 t then nxV t.j2 else(0,false)):=by
 unfold aN6
 rw[dN6]
 cases h:ae6 t
 ·rfl
 ·have hl:=bG1 h
  simp only[aF2,aX5,fk6,fk7]
  rw[ec9 _ (by omega)]
  rfl
def dn9:∀(l:List j7) (s:Int×Bool),(∀c∈l,c.F4=true->(l.foldl nxS s).2=true/\(l.foldl nxS s).1<=c.At)/\(s.2=true->(l.foldl nxS s).2=true/\(l.foldl nxS s).1<=s.1)/\
  ((l.foldl nxS s).2=true->(l.foldl nxS s)=s\/∃c∈l,c.F4=true/\c.At=(l.foldl nxS s).1)
 |[],s=>⟨fun c h=>by simp at h,fun h=>⟨h,dj2 _⟩,fun _=>.inl rfl⟩
 |x::l,s=>by
  obtain⟨h1,h2,h3⟩:=dn9 l (nxS s x)
  simp only[eh2]
  have hx:x.F4=true->(nxS s x).2=true/\(nxS s x).1<=x.At:=fun ha=>by
   unfold nxS;rw[ha]
   cases hc:(!s.2)||decide (x.At<s.1)
   ·simp only[cw7,dQ6,fl3]at hc
    simp only[cA6,fk6]
    exact⟨hc.1,by omega⟩
   ·exact⟨rfl,dj2 _⟩
  have hs:s.2=true->(nxS s x).2=true/\(nxS s x).1<=s.1:=fun hb=>by
   unfold nxS
   cases hc:x.F4&&((!s.2)||decide (x.At<s.1))
   ·exact⟨hb,dj2 _⟩
   ·simp only[hb,aX5,ec6,aK5,fl2]at hc
    exact⟨rfl,by simp only[fk7];omega⟩
  refine⟨fun c hc ha=>?_,fun hb=>?_,fun hb=>?_⟩
  ·rcases ca1.1 hc with rfl|hc
   ·have:=hx ha
    have h4:=h2 this.1
    exact⟨h4.1,ff4 h4.2 this.2⟩
   ·exact h1 c hc ha
  ·have:=hs hb
   have h4:=h2 this.1
   exact⟨h4.1,ff4 h4.2 this.2⟩
  ·rcases h3 hb with h4|⟨c,h5,h6,h7⟩
   ·rw[h4]
    unfold nxS
    cases hc:x.F4&&((!s.2)||decide (x.At<s.1))
    ·exact .inl rfl
    ·simp only[aK5]at hc
     exact .inr ⟨x,cq1 ..,hc.1,rfl⟩
   ·exact .inr ⟨c,bE0 _ h5,h6,h7⟩
theorem cw8 {l:List j7}{c:j7}(hc:c∈l)(ha:c.F4=true):(nxV l).2=true/\(nxV l).1<=c.At:=(dn9 l (0,false)).1 c hc ha
def cS1 {l:List j7}(h:(nxV l).2=true):∃c∈l,c.F4=true/\c.At=(nxV l).1:=by
 rcases(dn9 l (0,false)).2.2 h with h1|h1
 ·exfalso;unfold nxV at h;rw[h1]at h;cases h
 ·exact h1
def et9 {l:List j7}{N3:Int}(h:∀c∈l,due N3 c=false):cK4 N3 l=[]/\l.map (bM6 N3)=l:=by
 have h1:∀(l:List j7) (i:Nat),(∀c∈l,due N3 c=false)->bN7 N3 i l=[]:=by
  intro l
  induction l with
  |nil=>intro i _;rfl
  |cons x l ih=>
   grind [swC,bN7]
 refine⟨by simp_all[cK4],?_⟩
 rw[List.map_congr_left (g:=id) (fun c hc=>by grind [bM6])]
 simp
end Tm
end Go.Pv
namespace Go.Pv.Sc
open Go Go.Pv Go.Pv.Ev
def bN2 (c:E8):Bool:=bif !c.Y2 then((c.At==0)&&((c.I0==0)&&((c.G1==0)&&((c.ab6==0)&&(c.as3==0)))))else
 ((((((decide (c.At>=0)&&decide (c.At<=1099511627776))&&(decide (c.I0>=0)&&decide (c.I0<46080)))&&(decide (c.G1>=1)&&decide (c.G1<=1073741824)))&&(decide (c.ab6>=192)&&decide (c.ab6<=1920)))&&(((c.as3==c.ab6)||(c.as3==2*c.ab6))||(c.as3==3*c.ab6))))
theorem dH6 (c:E8):aj7 c=some (bN2 c):=by
 unfold aj7 bN2 av6
 cases hv:c.Y2
 ·simp
 ·simp only[aX5,fk6,aF2]
  by_cases hs:192<=c.ab6/\c.ab6<=1920
  ·rw[j4 (n:=2*c.ab6) (by omega) (by omega),j4 (n:=3*c.ab6) (by omega) (by omega),db5,aI6,dq3]
   simp only[eO1,fb6,fb7,fb4,cH4,aK5,bG5,cw7,eD7,dQ6,fl2,fl3,beq_iff_eq,ge_iff_le]
   omega
  ·have e1:(((((((!(decide (c.At>=0)&&decide (c.At<=1099511627776)))||decide (c.I0<0))||decide (c.I0>=46080))||decide (c.G1<1))||decide (c.G1>1073741824))||decide (c.ab6<192))||decide (c.ab6>1920))=true:=by
    simp only[cH4,fl2];omega
   have e2:(decide (c.ab6>=192)&&decide (c.ab6<=1920))=false:=by
    simp only[eD7,fl3];omega
   rw[e1,e2];simp
structure bC6 (c:E8):Prop where
 at0:0<=c.At
 at1:c.At<=1099511627776
 an0:0<=c.I0
 an1:c.I0<46080
 p0:1<=c.G1
 p1:c.G1<=1073741824
 s0:192<=c.ab6
 s1:c.ab6<=1920
 ah:c.as3=c.ab6\/c.as3=2*c.ab6\/c.as3=3*c.ab6
def dc5 {c:E8}(h:bN2 c=true)(hv:c.Y2=true):bC6 c:=by
 unfold bN2 at h
 rw[hv]at h
 simp only[aX5,fk6,aK5,cH4,fl2,beq_iff_eq]at h
 obtain⟨⟨⟨⟨⟨a,b⟩,c',d⟩,e,f⟩,g,i⟩,j⟩:=h
 exact⟨a,b,c',d,e,f,g,i,by rcases j with(j|j)|j<;>omega⟩
def cz2 (e:o5)(l:List A6)(i:Nat):Bool:=match l[i]?with|some x=>decide (bf4 e x)&& !((l.take i).any fun g=>g.p7==x.p7)|none=>false
def aW5 (e:o5)(l:List A6):Bool:=(dI4 0 l.length).all (cz2 e l)
theorem di5 (e:o5)(l:List A6)(he:aE5 e)(hl:l.length<=1000000):ac2 e l=some (aW5 e l):=by
 unfold ac2 aW5
 have k:=bx6 (f:=an3 e l) (p:=cz2 e l) (r:=false) l.length 0 (fun j _ hj=>by
  have hj':j<l.length:=by omega
  unfold an3 cz2
  rw[D1 _ _ hj',aX4 hj']
  simp only[aF2,dR0,fk8 he,cA6]
  cases hf:decide (bf4 e l[j])
  ·rfl
  ·simp only[aX5,fk6,cA6]
   have hs:ay7 l 0 (j:Int)=some (l.take j):=by
    unfold ay7
    rw[if_pos ⟨by omega,by omega,by omega⟩]
    simp
   rw[hs]
   simp only[aF2]
   have hc:F5 (l.take j) (fun x0=>af3 x0 l[j])=some ((l.take j).any fun g=>g.p7==l[j].p7):=by
    unfold F5 H8 O0
    exact ai7 (l.take j) (by rw[cZ8];omega) (fun x0=>af3 x0 l[j]) (fun g=>g.p7==l[j].p7) (fun y _=>rfl)
   rw[hc]
   simp only[aF2]
   cases(l.take j).any fun g=>g.p7==l[j].p7<;>rfl)
 rw[am4 _ (by omega)]
 rw[show((0:Nat):Int)=0 from rfl]at k
 rw[k]
 cases(dI4 0 l.length).all (cz2 e l)<;>rfl
def chn (x:C0):Int:=2*(x.p7-1)+if x.Kind=3\/x.Kind=4 then 1 else 0
def onK (k:Int):Bool:=(k==1)||(k==3)
structure aK9 (n:Nat)(j:B0):Prop where
 cyl:1<=j.Event.p7/\j.Event.p7<=(n:Int)
 kind:1<=j.Event.Kind/\j.Event.Kind<=4
 ej3:0<=j.Event.I0/\j.Event.I0<46080
 bS9:0<=j.Event.aj6/\j.Event.aj6<=2
 left:-1048576<=j.Left/\j.Left<=1048576
 at0:j.F4=true\/j.At=0
instance (n:Nat)(j:B0):Decidable (aK9 n j):=
 decidable_of_iff ((1<=j.Event.p7/\j.Event.p7<=(n:Int))/\(1<=j.Event.Kind/\j.Event.Kind<=4)/\(0<=j.Event.I0/\j.Event.I0<46080)/\(0<=j.Event.aj6/\j.Event.aj6<=2)/\(-1048576<=j.Left/\j.Left<=1048576)/\(j.F4=true\/j.At=0))
  ⟨fun⟨a,b,c,d,e,f⟩=>⟨a,b,c,d,e,f⟩,fun⟨a,b,c,d,e,f⟩=>⟨a,b,c,d,e,f⟩⟩
theorem ea8 {n:Nat}{j:B0}:aK9 n j↔(1<=j.Event.p7/\j.Event.p7<=(n:Int))/\(1<=j.Event.Kind/\j.Event.Kind<=4)/\(0<=j.Event.I0/\j.Event.I0<46080)/\(0<=j.Event.aj6/\j.Event.aj6<=2)/\(-1048576<=j.Left/\j.Left<=1048576)/\(j.F4=true\/j.At=0):=
 ⟨fun⟨a,b,c,d,e,f⟩=>⟨a,b,c,d,e,f⟩,fun⟨a,b,c,d,e,f⟩=>⟨a,b,c,d,e,f⟩⟩
theorem eV6 (s:c8)(j:B0):aw3 s j=some (decide (aK9 s.A1.A7.length j)):=by
 unfold aw3
 rw[db5,aF2,aI6,dq3,fl2,ea8]
 simp only[eO1,fb6,fb7,fb4,cH4,aK5,fl2,beq_iff_eq,ge_iff_le]
 cases j.F4
 ·simp only[dE6,false_or];omega
 ·simp only[true_or,and_true];omega
theorem eH9 (s:c8)(hl:s.H7.length<=1000000):P2 s.H7 (fun x0=>Z2 x0 s)=some (!s.H7.all fun j=>decide (aK9 s.A1.A7.length j)):=by
 unfold P2 C6 P3
 have:=ai7 s.H7 (by omega) (fun x0=>Z2 x0 s) (fun j=>!decide (aK9 s.A1.A7.length j)) (fun y _=>by unfold Z2;rw[eV6];rfl)
 rw[<-eH7 (s.H7.any _),<-eE0]at this
 simp only[eH7]at this
 exact this
theorem cH8 {n:Nat}{j:B0}(h:aK9 n j)(hn:n<=8):H5 j.Event=some (chn j.Event)/\aS0 j.Event=some (chn j.Event):=by
 have h1:=h.cyl;have h2:=h.kind
 unfold H5 aS0 chn
 rw[j4 (n:=j.Event.p7-1) (by omega) (by omega),j4 (n:=2*(j.Event.p7-1)) (by omega) (by omega),j4 (n:=2*(j.Event.p7-1)+1) (by omega) (by omega)]
 by_cases h3:j.Event.Kind=3\/j.Event.Kind=4
 ·have e1:((j.Event.Kind==3)||(j.Event.Kind==4))=true:=by simpa using h3
  have e2:((j.Event.Kind==1)||(j.Event.Kind==2))=false:=by simp;omega
  rw[e1,e2,if_pos h3];exact⟨rfl,rfl⟩
 ·have e1:((j.Event.Kind==3)||(j.Event.Kind==4))=false:=by simpa using h3
  have e2:((j.Event.Kind==1)||(j.Event.Kind==2))=true:=by simp;omega
  rw[e1,e2,if_neg h3];exact⟨by simp,by simp⟩
def dY3 {n:Nat}{j:B0}(h:aK9 n j):0<=chn j.Event/\chn j.Event<2*(n:Int):=by
 have h1:=h.cyl
 unfold chn;split<;>omega
def aq7 (l:List B0)(c:Int):List B0:=l.filter fun j=>chn j.Event==c
def alt:List B0->Bool->Bool
 |[],lv=>!lv
 |j::r,lv=>!(onK j.Event.Kind==lv)&& !j.F4&&alt r (!lv)
def aK2 (l:List B0)(x:j7):Bool:=match l with
 |[]=>!x.L4&& !x.F4
 |j::r=>!(onK j.Event.Kind==x.L4)&&(j.F4==x.F4)&&(!j.F4||((j.At==x.At)&&(x.Next== !x.L4)))&&alt r (!x.L4)
def bv0 (now:Int)(l:List B0):Bool:=match l with
 |[]=>true
 |[j]=>(j.Event.Kind==2)&&j.F4&&decide (j.At<=now+5000)
 |_=>false
def bq7 (s:c8)(c:Int)(x:j7):Bool:=aK2 (aq7 s.H7 c) x&&(!s.Cut||bv0 s.j9.V5 (aq7 s.H7 c))
def cZ0 (cut:Bool)(now:Int)(x:j7):List B0->Bool->Bool->Bool
 |[],lv,fi=>!lv&& !(fi&&x.F4)
 |j::r,lv,fi=>bif onK j.Event.Kind==lv then false else
   bif (bif fi then(!(j.F4==x.F4))||(j.F4&&((j.At !=x.At)|| !(x.Next== !lv)))else(j.F4||cut))then false else
   bif cut&&(((j.Event.Kind !=2)|| !j.F4)||decide (j.At>now+5000))then false else cZ0 cut now x r (!lv) false
def cR0 (s:c8)(c:Int)(x:j7)(n:Nat)(hn:n<=8)(h0:0<=s.j9.V5)(h1:s.j9.V5<=1099511627776):∀(l:List B0) (i:Int) (lv fi:Bool),(∀j∈l,aK9 n j)->
  (ak4 (N4 (Z5 s c x) l i (lv,fi)) fun(t:(Bool×Bool)⊕Bool)=>match t with| .inl s4=>(ak4 (bif (!s4.1)then(some (!(s4.2&&x.F4)))else(some false)) fun b5=>some b5)| .inr r3=>some r3)=some (cZ0 s.Cut s.j9.V5 x (aq7 l c) lv fi)
 |[],i,lv,fi,_=>by
  simp only[N4,aF2,aq7,eS3,cZ0]
  cases lv<;>rfl
 |j::l,i,lv,fi,h=>by
  have hj:=h j (cq1 ..)
  have ih:=fun i lv fi=>cR0 s c x n hn h0 h1 l i lv fi (fun y hy=>h y (bE0 _ hy))
  by_cases hc:chn j.Event=c
  ·have e1:(chn j.Event !=c)=false:=by simpa using hc
   have e2:aq7 (j::l) c=j::aq7 l c:=by unfold aq7;rw[dS0 (by simpa using hc)]
   have hb:Z5 s c x i j (lv,fi)=some (bif onK j.Event.Kind==lv then .ret false else
     bif (bif fi then(!(j.F4==x.F4))||(j.F4&&((j.At !=x.At)|| !(x.Next== !lv)))else(j.F4||s.Cut))then .ret false else
     bif s.Cut&&(((j.Event.Kind !=2)|| !j.F4)||decide (j.At>s.j9.V5+5000))then .ret false else .next (!lv,false)):=by
    unfold Z5
    rw[(cH8 hj hn).1]
    simp only[aF2,e1,fk6,ar4]
    have e3:((j.Event.Kind==1)||(j.Event.Kind==3))=onK j.Event.Kind:=rfl
    rw[e3,j4 (n:=s.j9.V5+5000) (by omega) (by omega)]
    cases onK j.Event.Kind==lv
    ·simp only[fk6]
     have hA:(bif fi then(ak4 (bif (!(j.F4==x.F4))then(some true)else(ak4 (bif j.F4 then(some ((j.At !=x.At)||(!(x.Next==(!lv)))))else(some false)) fun b2=>some b2)) fun b3=>bif b3 then(some (Sum.inr false))else(some (Sum.inl ())))else(bif (j.F4||s.Cut)then(some (Sum.inr false))else(some (Sum.inl ()))))=
       (some (bif (bif fi then(!(j.F4==x.F4))||(j.F4&&((j.At !=x.At)|| !(x.Next== !lv)))else(j.F4||s.Cut))then Sum.inr false else Sum.inl ()):Option (Unit⊕Bool)):=by
      cases fi
      ·cases(j.F4||s.Cut)<;>rfl
      ·cases(j.F4==x.F4)<;>cases j.F4<;>simp only[aX5,cr8,fk7,fk6,aF2,Bool.true_or,ec6,cA6,eg6,Bool.or_false]
       cases((j.At !=x.At)|| !(x.Next== !lv))<;>rfl
     rw[hA]
     cases(bif fi then(!(j.F4==x.F4))||(j.F4&&((j.At !=x.At)|| !(x.Next== !lv)))else(j.F4||s.Cut))
     ·simp only[fk6,aF2]
      have hB:(bif s.Cut then(some (((j.Event.Kind !=2)||(!j.F4))||(decide (j.At>s.j9.V5+5000))))else(some false))=some (s.Cut&&(((j.Event.Kind !=2)||(!j.F4))||(decide (j.At>s.j9.V5+5000)))):=by cases s.Cut<;>rfl
      rw[hB]
      simp only[aF2]
      cases(s.Cut&&(((j.Event.Kind !=2)||(!j.F4))||(decide (j.At>s.j9.V5+5000))))<;>rfl
     ·rfl
    ·rfl
   rw[e2]
   simp only[N4,hb,cZ0,aF2]
   cases onK j.Event.Kind==lv
   ·simp only[fk6]
    cases(bif fi then(!(j.F4==x.F4))||(j.F4&&((j.At !=x.At)|| !(x.Next== !lv)))else(j.F4||s.Cut))
    ·simp only[fk6]
     cases(s.Cut&&(((j.Event.Kind !=2)||(!j.F4))||(decide (j.At>s.j9.V5+5000))))
     ·exact ih (i+1) (!lv) false
     ·rfl
    ·rfl
   ·rfl
  ·have e1:(chn j.Event !=c)=true:=by simpa using hc
   have e2:aq7 (j::l) c=aq7 l c:=by unfold aq7;rw[fa5 (by simpa using hc)]
   have hb:Z5 s c x i j (lv,fi)=some (.next (lv,fi)):=by
    unfold Z5
    rw[(cH8 hj hn).1]
    simp only[aF2,e1,fk7]
   rw[e2]
   simp only[N4,hb,aF2]
   exact ih (i+1) lv fi
theorem df4 (cut:Bool)(now:Int)(x:j7):∀(l:List B0) (lv:Bool),cZ0 cut now x l lv false=(alt l lv&&(!cut||l.isEmpty))
 |[],lv=>by simp[cZ0,alt]
 |j::r,lv=>by
  simp only[cZ0,alt,df4 cut now x r (!lv)]
  cases onK j.Event.Kind==lv<;>cases j.F4<;>cases cut<;>simp
theorem eI2 (cut:Bool)(now:Int)(x:j7)(l:List B0):cZ0 cut now x l x.L4 true=(aK2 l x&&(!cut||bv0 now l)):=by
 cases l with
 |nil=>simp[cZ0,aK2,bv0]
 |cons j r=>
  simp only[cZ0,aK2,df4]
  cases ho:onK j.Event.Kind==x.L4<;>cases ha:j.F4==x.F4<;>cases hj:j.F4<;>cases hn:(j.At !=x.At)<;>cases hx:(x.Next== !x.L4)<;>cases cut<;>cases r with
  |nil=>
   simp_all[bv0,alt]
   try
    cases x.L4
    ·simp
    ·rw[dq3]
     simp
  |cons k r=>simp_all[bv0]
theorem eI3 (s:c8)(c:Nat)(hc:c<s.j9.j2.length)(n:Nat)(hn:n<=8)(h0:0<=s.j9.V5)(h1:s.j9.V5<=1099511627776)(hl:s.H7.length<=1000000)(hj:∀j∈s.H7,aK9 n j):
  ar3 s (c:Int)=some (bq7 s (c:Int) s.j9.j2[c]):=by
 unfold ar3
 rw[D1 _ _ hc]
 simp only[aF2]
 rw[L0 _ (by omega)]
 have h:=cR0 s (c:Int) s.j9.j2[c] n hn h0 h1 s.H7 0 s.j9.j2[c].L4 true hj
 rw[eI2]at h
 exact h
def cp6 (s:c8):Bool:=
 decide (aE5 s.A1)&&bN2 s.B5&&Tm.ae6 s.j9&&decide (s.j9.j2.length=2*s.A1.A7.length)&&aW5 s.A1 s.Next&&decide (s.H7.length<=200)&&(s.B5.Y2||s.H7.isEmpty)&&(s.H7.all fun j=>decide (aK9 s.A1.A7.length j))&&
  (dI4 0 s.j9.j2.length).all fun c=>match s.j9.j2[c]?with|some x=>bq7 s (c:Int) x|none=>false
structure aN9 (s:c8):Prop where
 eng:aE5 s.A1
 clk:bN2 s.B5=true
 tim:Tm.ae6 s.j9=true
 chs:s.j9.j2.length=2*s.A1.A7.length
 cH3:aW5 s.A1 s.Next=true
 most:s.H7.length<=200
 none:s.B5.Y2=false->s.H7=[]
 job:∀j∈s.H7,aK9 s.A1.A7.length j
 line:∀c (h:c<s.j9.j2.length),bq7 s (c:Int) s.j9.j2[c]=true
def aY9 {s:c8}:cp6 s=true↔aN9 s:=by
 unfold cp6
 simp only[aK5,fl2,bt1,cH4]
 constructor
 ·rintro⟨⟨⟨⟨⟨⟨⟨⟨h1,h2⟩,h3⟩,h4⟩,h5⟩,h6⟩,h7⟩,h8⟩,h9⟩
  refine⟨h1,h2,h3,h4,h5,h6,fun hv=>?_,h8,fun c hc=>?_⟩
  ·rcases h7 with h|h
   ·rw[hv]at h;cases h
   ·simpa using h
  ·have:=h9 c (by rw[eN3];exact⟨c,hc,by omega⟩)
   rw[aX4 hc]at this
   exact this
 ·intro h
  refine⟨⟨⟨⟨⟨⟨⟨⟨h.eng,h.clk⟩,h.tim⟩,h.chs⟩,h.cH3⟩,h.most⟩,?_⟩,h.job⟩,fun c hc=>?_⟩
  ·cases hv:s.B5.Y2
   ·right;rw[h.none hv];rfl
   ·left;rfl
  ·rw[eN3]at hc
   obtain⟨i,hi,rfl⟩:=hc
   have e:0+1*i=i:=by omega
   rw[e,aX4 hi]
   exact h.line i hi
theorem dr7 (l:List B0):decide ((l.length:Int)>0)= !l.isEmpty:=by cases l<;>simp
theorem bd0 (s:c8)(hn:s.Next.length<=1000000)(hl:s.H7.length<=1000000):K1 s=some (cp6 s):=by
 unfold K1
 rw[Ev.ao7,dH6,Tm.dN6]
 unfold cp6
 cases he:decide (aE5 s.A1)
 ·simp
 ·have he':=of_decide_eq_true he
  have hE:=he'.2.1
  cases hc:bN2 s.B5
  ·simp
  ·cases ht:Tm.ae6 s.j9
   ·simp
   ·have htl:=Tm.bG1 ht
    have e1:((s.j9.j2.length:Int) !=j5 (2*(s.A1.A7.length:Int)))= !decide (s.j9.j2.length=2*s.A1.A7.length):=by
     rw[j4 (by omega) (by omega),dq3];simp;omega
    simp only[aF2,aX5,fk6,ec6,e1,cA6]
    cases h2:decide (s.j9.j2.length=2*s.A1.A7.length)
    ·simp
    ·simp only[aX5,fk6,di5 _ _ he' hn,aF2,cA6]
     cases hw:aW5 s.A1 s.Next
     ·simp
     ·simp only[aX5,fk6,cA6]
      have e2:decide ((s.H7.length:Int)>200)= !decide (s.H7.length<=200):=by rw[dq3];simp;omega
      rw[e2,dr7]
      cases h3:decide (s.H7.length<=200)
      ·simp
      ·simp only[aX5,fk6,aF2,cA6]
       cases h4:(s.B5.Y2||s.H7.isEmpty)
       ·have:(!s.B5.Y2&& !s.H7.isEmpty)=true:=by simp only[cw7]at h4;simp[h4.1,h4.2]
        rw[this];simp
       ·have:(!s.B5.Y2&& !s.H7.isEmpty)=false:=by rcases Bool.or_eq_true_iff.1 h4 with h|h<;>simp[h]
        rw[this,eH9 s hl]
        simp only[fk6,aF2,cA6]
        cases h5:s.H7.all fun j=>decide (aK9 s.A1.A7.length j)
        ·simp
        ·simp only[aX5,fk6,cA6]
         have hj:∀j∈s.H7,aK9 s.A1.A7.length j:=by simpa using h5
         have k:=bx6 (f:=an2 s) (p:=fun c=>match s.j9.j2[c]?with|some x=>bq7 s (c:Int) x|none=>false) (r:=false) s.j9.j2.length 0 (fun c _ hc=>by
          have hc':c<s.j9.j2.length:=by omega
          unfold an2
          rw[eI3 s c hc' _ hE (by omega) (by omega) hl hj,aX4 hc']
          simp only[aF2]
          cases bq7 s (c:Int) s.j9.j2[c]<;>rfl)
         rw[am4 _ (by omega)]
         rw[show((0:Nat):Int)=0 from rfl]at k
         rw[k]
         cases(dI4 0 s.j9.j2.length).all fun c=>match s.j9.j2[c]?with|some x=>bq7 s (c:Int) x|none=>false<;>rfl
def ec0 {n:Nat}{l:List B0}{c:Int}{j:B0}(hj:∀j∈l,aK9 n j)(hm:j∈aq7 l c):aK9 n j/\chn j.Event=c:=by
 unfold aq7 at hm
 rw[dE3]at hm
 exact⟨hj j hm.1,by simpa using hm.2⟩
def du1 {n:Nat}{j:B0}(h:aK9 n j):(chn j.Event).tmod 2=if j.Event.Kind=3\/j.Event.Kind=4 then 1 else 0:=by
 have h1:=h.cyl
 have h0:=(dY3 h).1
 rw[cX1 h0]
 unfold chn;split<;>omega
end Go.Pv.Sc
namespace Go.Pv.R1
open Go Go.Pv
end Go.Pv.R1
namespace Go.Pv.Sc
open Go Go.Pv Go.Pv.Ev
def upV (a b:Int):Int:=-((-a)/b)
theorem fk3 (a b : Int) (h0 : -4611686018427387904 <= a) (h1 : a <= 4611686018427387904) (hb : 0 < b) (hb1 : b <= 4611686018427387904) : aA0 a b = some (upV a b) := by
  unfold aA0 bo5 cg2 upV
  rw [if_neg (by omega), if_neg (by omega)]
  simp only [aF2]
  obtain ⟨k, rfl⟩ : ∃ k : Nat, b = k := ⟨b.toNat, by omega⟩
  have hk : k > 0 := by omega
  by_cases ha : 0 <= a
  · obtain ⟨m, rfl⟩ : ∃ m : Nat, a = m := ⟨a.toNat, by omega⟩
    have e1 : cW7 (m : Int) (k : Int) = ((m / k : Nat) : Int) := rfl
    have e2 : dq1 (m : Int) (k : Int) = ((m % k : Nat) : Int) := rfl
    rw [e1, e2]
    have hq : m / k <= m := Nat.div_le_self _ _
    have hr := Nat.mod_lt m hk
    have hd := Nat.div_add_mod m k
    generalize m / k = q at hq hd
    generalize m % k = r at hr hd
    have ew : fb2.wrap (q : Int) = (q : Int) := j4 (by omega) (by omega)
    rw [ew]
    by_cases hr0 : r = 0
    · subst hr0
      have : -(m : Int) = (k : Int) * (-(q : Int)) := by rw [Int.mul_neg]; have : (m : Int) = ((k * q : Nat) : Int) := by omega
                                                         rw [this]; push_cast; rfl
      rw [this, Int.mul_ediv_cancel_left _ (by omega)]
      simp
    · have e3 : decide ((r : Int) > 0) = true := by simp; omega
      rw [e3, j4 (by omega) (by omega)]
      simp only [fk7, aI6]
      have : -(m : Int) = ((k - r : Nat) : Int) + (k : Int) * (-(q : Int) - 1) := by
        have h5 : (k : Int) * (-(q : Int) - 1) = -((k * q : Nat) : Int) - (k : Int) := by rw [Int.mul_sub, Int.mul_neg, Int.mul_one]; push_cast; rfl
        rw [h5]; omega
      rw [this, Int.add_mul_ediv_left _ _ (by omega), Int.ediv_eq_zero_of_lt (by omega) (by omega)]
      omega
  · obtain ⟨m, rfl⟩ : ∃ m : Nat, a = -(m : Int) := ⟨a.natAbs, by omega⟩
    have e1 : cW7 (-(m : Int)) (k : Int) = -((m / k : Nat) : Int) := by rw [Int.neg_tdiv]; rfl
    have e2 : dq1 (-(m : Int)) (k : Int) = -((m % k : Nat) : Int) := by rw [Int.neg_tmod]; rfl
    rw [e1, e2, Int.neg_neg]
    have e4 : (m : Int) / (k : Int) = ((m / k : Nat) : Int) := rfl
    rw [e4]
    have hq : m / k <= m := Nat.div_le_self _ _
    generalize m / k = q at hq
    generalize m % k = r
    have e3 : decide (-(r : Int) > 0) = false := fk9 (by omega)
    have ew : fb2.wrap (-(q : Int)) = -(q : Int) := j4 (by omega) (by omega)
    rw [e3, ew]
    rfl
def eg7 {a b:Int}(hb:0<b)(h0:-1125899906842624<=a)(h1:a<=1125899906842624):-1125899906842624<=upV a b/\upV a b<=1125899906842624:=by
 unfold upV
 have h2:-1125899906842624<=(-a)/b:=by
  rw[Int.le_ediv_iff_mul_le hb]
  have:-1125899906842624*b<= -1125899906842624*1:=Int.mul_le_mul_of_nonpos_left (by omega) (by omega)
  omega
 have h3:(-a)/b<=1125899906842624:=by
  apply Int.le_of_lt_add_one
  rw[Int.ediv_lt_iff_lt_mul hb]
  have:(1125899906842624+1)*1<=(1125899906842624+1)*b:=dQ0 (by omega) (by omega)
  omega
 omega
def split (c:Int):List B0->Option (List B0×B0×List B0)
 |[]=>none
 |j::r=>if chn j.Event=c then some ([],j,r)else(split c r).map fun t=>(j::t.1,t.2.1,t.2.2)
def bk5 {c:Int}:∀{l:List B0}{a:List B0}{j:B0}{b:List B0},split c l=some (a,j,b)->l=a++j::b/\chn j.Event=c/\∀y∈a,chn y.Event≠c
 |[],a,j,b,h=>by simp[split]at h
 |x::r,a,j,b,h=>by
  simp only[split]at h
  by_cases hc:chn x.Event=c
  ·rw[if_pos hc]at h
   cases h
   exact⟨rfl,hc,fun y hy=>by simp at hy⟩
  ·rw[if_neg hc]at h
   cases hs:split c r with
   |none=>rw[hs]at h;simp at h
   |some t=>
    obtain⟨a',j',b'⟩:=t
    rw[hs]at h
    simp only[bN9,aI6,Prod.mk.injEq]at h
    obtain⟨rfl,rfl,rfl⟩:=h
    obtain⟨h1,h2,h3⟩:=bk5 hs
    exact⟨by rw[h1];rfl,h2,fun y hy=>by
     rcases ca1.1 hy with rfl|hy
     ·exact hc
     ·exact h3 y hy⟩
def cV2 {c:Int}:∀{l:List B0},split c l=none->∀y∈l,chn y.Event≠c
 |[],_,y,hy=>by simp at hy
 |x::r,h,y,hy=>by
  simp only[split]at h
  by_cases hc:chn x.Event=c
  ·rw[if_pos hc]at h;cases h
  ·rw[if_neg hc]at h
   cases hs:split c r with
   |none=>
    rcases ca1.1 hy with rfl|hy
    ·exact hc
    ·exact cV2 hs y hy
   |some t=>rw[hs]at h;simp at h
theorem aS1 (a b:List B0)(c:Int):aq7 (a++b) c=aq7 a c++aq7 b c:=by unfold aq7;rw[dq4]
theorem bw3 {l:List B0}{c:Int}(h:∀y∈l,chn y.Event≠c):aq7 l c=[]:=by
 unfold aq7
 rw[et4]
 intro y hy
 simpa using h y hy
theorem bZ8 {j:B0}{l:List B0}{c:Int}(h:chn j.Event=c):aq7 (j::l) c=j::aq7 l c:=by unfold aq7;rw[dS0 (by simpa using h)]
theorem bZ7 {j:B0}{l:List B0}{c:Int}(h:chn j.Event≠c):aq7 (j::l) c=aq7 l c:=by unfold aq7;rw[fa5 (by simpa using h)]
theorem cR8 {c:Int}{l a b:List B0}{j:B0}(h:split c l=some (a,j,b)):aq7 l c=j::aq7 b c:=by
 obtain⟨rfl,h2,h3⟩:=bk5 h
 rw[aS1,bw3 h3,cZ2,bZ8 h2]
theorem ec1 {c:Int}{l:List B0}(h:split c l=none):aq7 l c=[]:=bw3 (cV2 h)
def cv7 (c:Int)(l:List B0):Int:=match split c l with|some t=>(t.1.length:Int)|none=>-1
def cB6 (c:Int)(n:Nat)(hn:n<=8):∀(l:List B0) (i:Nat),(∀j∈l,aK9 n j)->N4 (fun(i:Int) x (_:Unit)=>ak4 (W0 x c) fun v=>bif v then(some (Fl.ret i))else(some (Fl.next ()))) l (i:Int) ()=
  some (match split c l with|some t=>.inr ((i+t.1.length:Nat):Int)|none=>.inl ())
 |[],i,_=>rfl
 |j::l,i,h=>by
  have hj:=h j (cq1 ..)
  simp only[N4,W0,(cH8 hj hn).1,aF2,split]
  by_cases hc:chn j.Event=c
  ·have e:(chn j.Event==c)=true:=by simpa using hc
   rw[e,if_pos hc];rfl
  ·have e:(chn j.Event==c)=false:=by simpa using hc
   rw[e,if_neg hc]
   simp only[fk6,aF2]
   have:=cB6 c n hn l (i+1) (fun y hy=>h y (bE0 _ hy))
   rw[show((i:Int)+1)=((i+1:Nat):Int) by omega]
   unfold W0 at this
   rw[this]
   cases split c l with
   |none=>rfl
   |some t=>simp;omega
theorem bS3 (c:Int)(n:Nat)(hn:n<=8)(l:List B0)(hl:l.length<=1000000)(h:∀j∈l,aK9 n j):C6 l (fun x0=>W0 x0 c)=some (cv7 c l):=by
 unfold C6 P3
 rw[bc8 l (by omega) (fun(i:Int) x (_:Unit)=>ak4 (W0 x c) fun v=>bif v then(some (Fl.ret i))else(some (Fl.next ())))]
 have:=cB6 c n hn l 0 h
 rw[show((0:Nat):Int)=0 from rfl]at this
 rw[this]
 unfold cv7
 cases split c l with
 |none=>rfl
 |some t=>simp
def bO7 (now:Int)(k:E8)(j:B0):Int:=G8 (k.At+upV (j.Left*k.G1) k.ab6) (now+1)
def ds7 (now:Int)(k:E8)(c:Nat)(u:List j7×List B0):List j7×List B0:=
 match split (c:Int) u.2 with
 |none=>u
 |some (a,j,b)=>if j.Left>k.as3\/bO7 now k j>1099511627776 then u else
   match u.1[c]?with
   |none=>u
   |some x=>(u.1.set c ⟨true,bO7 now k j,onK j.Event.Kind,x.L4⟩,a++⟨j.Event,j.Left,true,bO7 now k j⟩::b)
def cb7 (now:Int)(k:E8):Nat->List j7×List B0->List j7×List B0
 |0,u=>u
 |c+1,u=>ds7 now k c (cb7 now k c u)
structure Rows (n:Nat)(now:Int)(u:List j7×List B0):Prop where
 len:u.1.length=2*n
 ch:∀x∈u.1,Tm.chB now x=true
 job:∀j∈u.2,aK9 n j
 row:∀c (h:c<u.1.length),aK2 (aq7 u.2 (c:Int)) u.1[c]=true
def dP3 {now at_:Int}{b l:Bool}(h0:now<at_)(h1:at_<=1099511627776):Tm.chB now ⟨true,at_,b,l⟩=true:=by
 unfold Tm.chB
 simp only[fk7,bG5,cw7,fl3]
 omega
def dr9 (now:Int)(k:E8)(j:B0):now<bO7 now k j:=by unfold bO7 G8;split<;>omega
def eK6 {j:B0}{r:List B0}{x:j7}(at_:Int)(h:aK2 (j::r) x=true):aK2 (⟨j.Event,j.Left,true,at_⟩::r) ⟨true,at_,onK j.Event.Kind,x.L4⟩=true:=by
 unfold aK2 at h|-
 simp only[aK5,bG5]at h
 obtain⟨⟨⟨h1,_⟩,_⟩,h4⟩:=h
 have hk:onK j.Event.Kind= !x.L4:=by cases hk:onK j.Event.Kind<;>cases hx:x.L4<;>simp_all
 simp[h1,h4,hk]
def ek2 {n:Nat}{now:Int}{k:E8}{c:Nat}{u:List j7×List B0}(h:Rows n now u):Rows n now (ds7 now k c u):=by
 unfold ds7
 cases hs:split (c:Int) u.2 with
 |none=>exact h
 |some t=>
  obtain⟨a,j,b⟩:=t
  simp only
  split
  ·exact h
  ·rename_i hq
   have hq1:bO7 now k j<=1099511627776:=by
    by_cases h5:bO7 now k j>1099511627776
    ·exact absurd (.inr h5) hq
    ·omega
   cases hx:u.1[c]?with
   |none=>exact h
   |some x=>
    obtain⟨hc,rfl⟩:=bG6.1 hx
    obtain⟨hl,hj,ha⟩:=bk5 hs
    have hjm:j∈u.2:=by rw[hl];simp
    have hjk:=h.job j hjm
    refine⟨by simp[h.len],fun y hy=>?_,fun y hy=>?_,fun d hd=>?_⟩
    ·rcases fe9 hy with hy|rfl
     ·exact h.ch y hy
     ·exact dP3 (dr9 now k j) hq1
    ·simp only[du0,ca1]at hy
     rcases hy with hy|rfl|hy
     ·exact h.job y (by rw[hl];simp[hy])
     ·exact⟨hjk.cyl,hjk.kind,hjk.ej3,hjk.bS9,hjk.left,.inl rfl⟩
     ·exact h.job y (by rw[hl];simp[hy])
    ·simp only[eh3]at hd
     have aQ8:=h.row d hd
     simp only[fb9]
     by_cases hdc:c=d
     ·subst hdc
      rw[if_pos rfl,aS1,bw3 ha,cZ2,bZ8 (by exact hj)]
      rw[cR8 hs]at aQ8
      exact eK6 _ aQ8
     ·rw[if_neg hdc,aS1,bZ7 (by show chn j.Event≠(d:Int);rw[hj];omega)]
      rw[hl,aS1,bZ7 (by rw[hj];omega)]at aQ8
      exact aQ8
def cs6 {n:Nat}{now:Int}{k:E8}{u:List j7×List B0}(h:Rows n now u):∀m,Rows n now (cb7 now k m u)
 |0=>h
 |m+1=>ek2 (cs6 h m)
theorem dX0 (now:Int)(k:E8)(c:Nat)(u:List j7×List B0):(ds7 now k c u).2.length=u.2.length:=by
 unfold ds7
 cases hs:split (c:Int) u.2 with
 |none=>rfl
 |some t=>
  obtain⟨a,j,b⟩:=t
  simp only
  split
  ·rfl
  ·cases u.1[c]?with
   |none=>rfl
   |some x=>
    have:=(bk5 hs).1
    simp[this]
theorem bC7 (now:Int)(k:E8)(u:List j7×List B0):∀m,(cb7 now k m u).2.length=u.2.length
 |0=>rfl
 |m+1=>by rw[cb7,dX0,bC7 now k u m]
theorem cK8 (now:Int)(k:E8)(ch:List j7):∀m,cb7 now k m (ch,[])=(ch,[])
 |0=>rfl
 |m+1=>by rw[cb7,cK8 now k ch m];rfl
def dX1 {n:Nat}{k:E8}{j:B0}(hk:bC6 k)(hj:aK9 n j):(-1125899906842624<=j.Left*k.G1/\j.Left*k.G1<=1125899906842624)/\(-1125899906842624<=upV (j.Left*k.G1) k.ab6/\upV (j.Left*k.G1) k.ab6<=1125899906842624):=by
 have h1:=hj.left;have h2:=hk.p0;have h3:=hk.p1;have h4:=hk.s0
 have a:j.Left*k.G1<=1048576*1073741824:=by
  by_cases h0:0<=j.Left
  ·exact eP2 h1.2 h3 (by omega) (by omega)
  ·have:j.Left*k.G1<=0:=Int.mul_nonpos_of_nonpos_of_nonneg (by omega) (by omega)
   omega
 have b:-(1048576*1073741824)<=j.Left*k.G1:=by
  by_cases h0:0<=j.Left
  ·have:0<=j.Left*k.G1:=eP7 h0 (by omega)
   omega
  ·have:(-j.Left)*k.G1<=1048576*1073741824:=eP2 (by omega) h3 (by omega) (by omega)
   rw[Int.neg_mul]at this
   omega
 exact⟨⟨by omega,by omega⟩,eg7 (by omega) (by omega) (by omega)⟩
theorem cJ5 {n:Nat}{now:Int}{u:List j7×List B0}(h:Rows n now u)(h0:0<=now)(h1:now<=1099511627776)(hn:1<=n)(hn8:n<=8):Tm.ae6 ⟨now,u.1⟩=true:=by
 unfold Tm.ae6
 have hl:=h.len
 rw[Tm.dw0 (by simp only;omega)]
 simp only[cr8,cA6,bt1]
 exact h.ch
theorem dU3 (a b:List B0)(j j':B0):ao3 (a++j::b) (a.length:Int) j'=some (a++j'::b):=by
 rw[U5 _ _ _ (by simp)]
 simp
def dR3 (a b:List B0)(j:B0):E0 (a++j::b) (a.length:Int)=some j:=by
 rw[U4];simp
def ek3 {n:Nat}{s:c8}{now:Int}{u:List j7×List B0}(hu:Rows n now u)(hk:bC6 s.B5)(h0:0<=now)(h1:now<=1099511627776)(hn:1<=n)(hn8:n<=8)(hl:u.2.length<=1000000)(c:Nat)(hc:c<2*n):
  W2 s (c:Int) (⟨now,u.1⟩,u.2)=some (.next (⟨now,(ds7 now s.B5 c u).1⟩,(ds7 now s.B5 c u).2)):=by
 unfold W2
 simp only
 rw[bS3 (c:Int) n hn8 u.2 hl hu.job]
 have hcl:c<u.1.length:=by rw[hu.len];exact hc
 unfold cv7 ds7
 cases hs:split (c:Int) u.2 with
 |none=>rfl
 |some t=>
  obtain⟨a,j,b⟩:=t
  obtain⟨hl2,hj,ha⟩:=bk5 hs
  have hjm:j∈u.2:=by rw[hl2];simp
  have hjk:=hu.job j hjm
  obtain⟨r1,r2⟩:=dX1 hk hjk
  have hka:=hk.at0;have hka1:=hk.at1
  simp only[aF2]
  have e1:decide ((a.length:Int)<0)=false:=by simp
  have eg:E0 u.2 (a.length:Int)=some j:=by rw[hl2];exact dR3 a b j
  rw[e1,eg]
  simp only[fk6,aF2]
  by_cases hla:j.Left>s.B5.as3
  ·rw[fk8 hla,if_pos (.inl hla)]
   rfl
  ·rw[fk9 hla]
   simp only[fk6]
   rw[j4 (n:=j.Left*s.B5.G1) (by omega) (by omega),fk3 _ _ (by omega) (by omega) (by have:=hk.s0;omega) (by have:=hk.s1;omega)]
   simp only[aF2]
   rw[j4 (n:=s.B5.At+upV (j.Left*s.B5.G1) s.B5.ab6) (by omega) (by omega),j4 (n:=now+1) (by omega) (by omega)]
   have hat:G8 (s.B5.At+upV (j.Left*s.B5.G1) s.B5.ab6) (now+1)=bO7 now s.B5 j:=rfl
   rw[hat]
   by_cases hmx:bO7 now s.B5 j>1099511627776
   ·rw[fk8 hmx,if_pos (.inr hmx)];rfl
   ·rw[fk9 hmx,if_neg (by omega)]
    simp only[fk6]
    have eo:ar4 j.Event.Kind=some (onK j.Event.Kind):=rfl
    rw[eo]
    simp only[aF2]
    have hgt:=dr9 now s.B5 j
    have e2:decide (bO7 now s.B5 j<=now)=false:=by simp;omega
    have e3:decide (bO7 now s.B5 j>Tm.cJ9)=false:=by unfold Tm.cJ9;simp;omega
    rw[Tm.ek1 ⟨now,u.1⟩ _ _ _ c rfl hcl (cJ5 hu h0 h1 hn hn8)]
    simp only
    rw[e2,e3]
    simp only[fk6,aF2,beq_self_eq_true,fk7]
    rw[hl2,dU3]
    simp only[aF2]
    rw[dU3,aX4 hcl]
    rfl
def eE3 {n:Nat}{s:c8}{now:Int}{u:List j7×List B0}(hu:Rows n now u)(hk:bC6 s.B5)(h0:0<=now)(h1:now<=1099511627776)(hn:1<=n)(hn8:n<=8)(hl:u.2.length<=1000000):
  L2 ((2*n:Nat):Int) (W2 s) (⟨now,u.1⟩,u.2)=some (.inl (⟨now,(cb7 now s.B5 (2*n) u).1⟩,(cb7 now s.B5 (2*n) u).2)):=by
 obtain⟨t,k1,k2⟩:=ag9 (R:=Empty) (2*n) (by omega) (W2 s) (fun c t=>t=(⟨now,(cb7 now s.B5 c u).1⟩,(cb7 now s.B5 c u).2)) (⟨now,u.1⟩,u.2) rfl (fun c hc t ht=>by
  subst ht
  refine⟨_,ek3 (cs6 hu c) hk h0 h1 hn hn8 (by rw[bC7];exact hl) c hc,rfl⟩)
 rw[k1,k2]
def put (s:c8)(now:Int)(u:List j7×List B0):c8:=⟨s.A1,s.B5,⟨now,u.1⟩,s.Next,u.2,s.Cut⟩
def bM7 (s:c8):c8:=if s.Cut then s else put s s.j9.V5 (cb7 s.j9.V5 s.B5 s.j9.j2.length (s.j9.j2,s.H7))
def bY8 (s:c8)(t:A2):∀(k i:Nat),aX2 (W2 s) k (i:Int) (t,[])=some (.inl (t,[]))
 |0,_=>rfl
 |k+1,i=>by
  have:W2 s (i:Int) (t,[])=some (.next (t,[])):=by
   unfold W2
   have hi:C6 [] (fun x0=>W0 x0 (i:Int))=some (-1):=by
    unfold C6
    rw[show((([]:List B0).length:Nat):Int)=((0:Nat):Int)from rfl,am4 0 (by decide)]
    rfl
   simp only[hi]
   rfl
  simp only[aX2,this,aF2]
  exact bY8 s t k (i+1)
def dU2 {n:Nat}{s:c8}(hu:Rows n s.j9.V5 (s.j9.j2,s.H7))(hk:s.H7=[]\/bC6 s.B5)(h0:0<=s.j9.V5)(h1:s.j9.V5<=1099511627776)(hn:1<=n)(hn8:n<=8)(hl:s.H7.length<=1000000):
  al4 s=some (bM7 s):=by
 unfold al4 bM7
 have hlen:=hu.len
 simp only at hlen
 cases aK8:s.Cut
 ·simp only[fk6,dE6,if_false]
  rcases hk with hk|hk
  ·rw[hk,cK8,am4 _ (by omega)]
   have:=bY8 s s.j9 s.j9.j2.length 0
   rw[show((0:Nat):Int)=0 from rfl]at this
   rw[this]
   unfold put
   simp only[aF2,aK8]
  ·have:=eE3 (s:=s) hu hk h0 h1 hn hn8 hl
   simp only at this
   have e:(⟨s.j9.V5,s.j9.j2⟩:A2)=s.j9:=rfl
   rw[e]at this
   rw[hlen,this]
   unfold put
   simp only[aF2,aK8]
 ·rfl
def bJ3 {α:Type}(f:α->Option Bool)(p:α->Bool):∀(l:List α) (i:Nat),(∀y∈l,f y=some (p y))->N4 (fun(i:Int) x (_:Unit)=>ak4 (f x) fun v=>bif v then(some (Fl.ret i))else(some (Fl.next ()))) l (i:Int) ()=
  some (match l.findIdx? p with|some k=>.inr ((i+k:Nat):Int)|none=>.inl ())
 |[],i,_=>rfl
 |y::l,i,h=>by
  simp only[N4,h y (cq1 ..),aF2,fh3]
  cases p y
  ·have:=bJ3 f p l (i+1) (fun y hy=>h y (bE0 _ hy))
   grind
  ·simp
theorem find_eq (l:List B0)(hl:l.length<=1000000)(f:B0->Option Bool)(p:B0->Bool)(h:∀y∈l,f y=some (p y)):C6 l f=some (match l.findIdx? p with|some k=>(k:Int)|none=>-1):=by
 unfold C6 P3
 rw[bc8 l (by omega) (fun(i:Int) x (_:Unit)=>ak4 (f x) fun v=>bif v then(some (Fl.ret i))else(some (Fl.next ())))]
 have:=bJ3 f p l 0 h
 grind
def cv6 {α:Type}{p:α->Bool}:∀{l:List α}{k:Nat},l.findIdx? p=some k->k<l.length/\(l.take (k+1)).filter (fun y=>!p y)=l.take k
 |[],k,h=>by simp at h
 |y::l,k,h=>by
  rw[fh3]at h
  cases hp:p y
  ·rw[hp]at h
   simp only[dE6,if_false]at h
   cases hf:l.findIdx? p with
   |none=>grind
   |some m=>
    rw[hf]at h
    simp only[bN9,aI6]at h
    subst h
    obtain⟨h1,h2⟩:=cv6 hf
    grind
  grind
theorem dd7 {α:Type}{p:α->Bool}{l:List α}(h:l.findIdx? p=none):l.filter (fun y=>!p y)=l:=by
 simp_all
def cN7 {α:Type}(s:List α)(i:Nat)(z:α)(hi:i<=s.length):ay7 (bV6 s (i:Int) (s.length:Int) z) 0 (i:Int)=some (s.take i):=by
 have e:bV6 s (i:Int) (s.length:Int) z=s.take i++cr7 (s.length-i) z:=by
  simp_all[au8]
 have hl:(s.take i++cr7 (s.length-i) z).length=s.length:=by
  grind
 rw[e]
 unfold ay7
 grind
def del_eq (l:List B0)(hl:l.length<=1000000)(f:B0->Option Bool)(p:B0->Bool)(h:∀y∈l,f y=some (p y)):L3 l f=some (l.filter fun y=>!p y):=by
 unfold L3
 rw[find_eq l hl f p h]
 cases hf:l.findIdx? p with
 |none=>grind [dd7]
 |some v=>
  obtain⟨hv,htk⟩:=cv6 hf
  simp only[aF2]
  have e0:((v:Int)== -1)=false:=beq_eq_false_iff_ne.2 (by omega)
  rw[e0,j4 (n:=(v:Int)+1) (by omega) (by omega)]
  simp only[fk6]
  obtain⟨t,k1,k2⟩:=cw5 (mb:=au0 f)
   (fun j st=>∃i:Nat,st.1=(i:Int)/\st.2.1=((v+1+j:Nat):Int)/\i<v+1+j/\i=((l.take (v+1+j)).filter fun y=>!p y).length/\st.2.2.length=l.length/\st.2.2.take i=((l.take (v+1+j)).filter fun y=>!p y)/\st.2.2.drop (v+1+j)=l.drop (v+1+j))
   (fun t=>∃(s:List B0) (i:Nat),t= .inl ((i:Int),(l.length:Int),s)/\s.length=l.length/\i<=l.length/\s.take i=l.filter fun y=>!p y) (l.length-(v+1)) 0 ((v:Int),(v:Int)+1,l)
   ⟨v,rfl,by push_cast;omega,by omega,by rw[eh1,htk,cZ8];omega,rfl,by rw[eh1,htk],rfl⟩
   (fun j _ hj st ⟨i,h1,h2,h3,h4,h5,h6,h7⟩=>by
    have hjl:v+1+j<l.length:=by omega
    have dm4:E0 st.2.2 st.2.1=some l[v+1+j]:=by
     rw[h2,U4,<-eB5,h7,eB5,aX4 hjl]
    have hlt:decide (st.2.1<(st.2.2.length:Int))=true:=by rw[h2,h5];simp;omega
    have htk2:l.take (v+1+(j+1))=l.take (v+1+j)++[l[v+1+j]]:=by rw[<-ef0];exact cW8 hjl
    have hdr:∀s:List B0,s.drop (v+1+j)=l.drop (v+1+j)->s.drop (v+1+(j+1))=l.drop (v+1+(j+1)):=fun s hs=>by
     rw[<-ef0,<-eh0,hs,eh0]
    unfold au0
    rw[hlt,dm4]
    simp only[fk7,aF2,h _ (bf3 hjl)]
    rw[h2,j4 (n:=((v+1+j:Nat):Int)+1) (by omega) (by omega)]
    cases hp:p l[v+1+j]
    ·have hi:i<st.2.2.length:=by omega
     simp only[cr8,fk7]
     rw[h1,D1 _ _ hi]
     simp only[aF2]
     rw[U5 _ _ _ hi,j4 (n:=(i:Int)+1) (by omega) (by omega)]
     have hfl:((l.take (v+1+(j+1))).filter fun y=>!p y)=((l.take (v+1+j)).filter fun y=>!p y)++[l[v+1+j]]:=by
      rw[htk2,dq4];simp[hp]
     refine⟨_,rfl,i+1,by push_cast;rfl,by push_cast;omega,by omega,?_,by simp[h5],?_,?_⟩
     ·rw[hfl,bd4,<-h4];rfl
     ·rw[hfl,<-h6]
      rw[cW8 (by simpa using hi),List.take_set_of_le (bO2 _),dy0]
     ·refine hdr _ ?_
      rw[List.drop_set_of_lt (by omega)];exact h7
    ·simp only[aX5,fk6]
     have hfl:((l.take (v+1+(j+1))).filter fun y=>!p y)=((l.take (v+1+j)).filter fun y=>!p y):=by
      rw[htk2,dq4];simp[hp]
     exact⟨_,rfl,i,h1,by push_cast;omega,by omega,by rw[hfl];exact h4,h5,by rw[hfl];exact h6,hdr _ h7⟩)
   (fun st ⟨i,h1,h2,h3,h4,h5,h6,h7⟩=>by
    have hn:v+1+(0+(l.length-(v+1)))=l.length:=by omega
    rw[hn]at h2 h3 h4 h6
    have hlt:decide (st.2.1<(st.2.2.length:Int))=false:=by rw[h2,h5];simp
    unfold au0
    rw[hlt]
    simp only[fk6]
    refine⟨_,rfl,st.2.2,i,?_,h5,by omega,by rw[h6,eC8]⟩
    rw[h1,h2])
  obtain⟨s,i,rfl,hs,hi,ht⟩:=k2
  rw[k1]
  simp only[aF2]
  have hc:cl6 (i:Int) (s.length:Int) s.length=some ():=by unfold cl6;rw[if_pos ⟨by omega,by omega,by omega⟩]
  rw[hc]
  simp only[aF2]
  have hsl:ay7 (bV6 s (i:Int) (s.length:Int) (⟨(⟨0,0,0,0⟩:C0),0,false,0⟩:B0)) 0 (i:Int)=some (s.take i):=cN7 s i _ (by omega)
  rw[hsl,ht]
  rfl
def bE3 (at_:Int)(j:B0):Bool:=j.F4&&(j.At==at_)
theorem eq6 (l:List B0)(hl:l.length<=1000000)(at_:Int):L3 l (fun x0=>ao2 x0 at_)=some (l.filter fun j=>!bE3 at_ j):=
 del_eq l hl _ (bE3 at_) (fun _ _=>rfl)
def cD6 (at_:Int)(u:List j7×List B0):List j7×List B0:=(u.1.map (Tm.bM6 at_),u.2.filter fun j=>!bE3 at_ j)
def cz5:∀{l:List B0}{lv:Bool},alt l lv=true->∀k∈l,k.F4=false
 |[],lv,_,k,hk=>by simp at hk
 |j::r,lv,h,k,hk=>by
  simp only[alt,aK5,bG5]at h
  rcases ca1.1 hk with rfl|hk
  ·exact h.1.2
  ·exact cz5 h.2 k hk
theorem eE1 {l:List B0}{lv:Bool}(h:alt l lv=true):aK2 l ⟨false,0,false,lv⟩=true:=by
 cases l with
 |nil=>simpa[aK2,alt]using h
 |cons j r=>
  simp_all[alt,aK2]
def cP7 {l:List B0}(at_:Int)(h:∀k∈l,k.F4=false):(l.filter fun j=>!bE3 at_ j)=l:=by
 grind [List.filter_eq_self,bE3]
theorem cC3 (l:List B0)(c at_:Int):aq7 (l.filter fun j=>!bE3 at_ j) c=(aq7 l c).filter fun j=>!bE3 at_ j:=by
 simp[aq7,Bool.and_comm]
def eK5 {l:List B0}{x:j7}{at_:Int}(h:aK2 l x=true)(cw0:x.F4=true->at_<=x.At):aK2 (l.filter fun j=>!bE3 at_ j) (Tm.bM6 at_ x)=true:=by
 cases l with
 |nil=>
  simp_all[aK2,Tm.bM6,Tm.due]
 |cons j r=>
  have h':=h
  simp only[aK2,aK5,bG5,cH4,beq_iff_eq]at h
  obtain⟨⟨⟨h1,h2⟩,h3⟩,h4⟩:=h
  have hr:=cP7 at_ (cz5 h4)
  cases hx:x.F4
  ·have hj:j.F4=false:=by grind
   have e1:Tm.bM6 at_ x=x:=by grind [Tm.bM6,Tm.due]
   have e2:bE3 at_ j=false:=by grind [bE3]
   grind
  ·have hj:j.F4=true:=by grind
   have h3':j.At=x.At/\x.Next= !x.L4:=by
    grind
   have hm:=cw0 hx
   by_cases ha:x.At=at_
   ·have e1:Tm.bM6 at_ x=⟨false,0,false,!x.L4⟩:=by
     grind [Tm.bM6,Tm.due]
    have e2:bE3 at_ j=true:=by grind [bE3]
    rw[e1,List.filter_cons,e2]
    simp only[aX5,dE6,if_false]
    grind [eE1]
   ·have e1:Tm.bM6 at_ x=x:=by
     grind [Tm.bM6,Tm.due]
    have e2:bE3 at_ j=false:=by grind [bE3]
    grind
def ei9 {n:Nat}{now at_:Int}{u:List j7×List B0}(h:Rows n now u)(h0:0<=now)(h1:now<at_)(h2:at_<=1099511627776)(hn:1<=n)(hn8:n<=8)(cw0:∀x∈u.1,x.F4=true->at_<=x.At):Rows n at_ (cD6 at_ u):=by
 have ht:=cJ5 h h0 (by omega) hn hn8
 have ht2:=Tm.eA8 (N3:=at_) ht (by grind) (by omega)
 refine⟨by simp[cD6,h.len],?_,fun j hj=>h.job j (dE3.1 hj).1,fun c hc=>?_⟩
 ·unfold Tm.ae6 at ht2
  simp only[aK5,bt1]at ht2
  exact ht2.2
 ·have hc':c<u.1.length:=by grind [cD6]
  simp only[cD6,List.getElem_map]
  rw[cC3]
  exact eK5 (h.row c hc') (cw0 _ (bf3 hc'))
def eF0 {now at_:Int}{l:List B0}(h:bv0 now l=true)(hle:now<=at_):bv0 at_ (l.filter fun j=>!bE3 at_ j)=true:=by
 match l,h with
 |[],_=>rfl
 |[j],h=>
  rw[List.filter_cons]
  cases bE3 at_ j
  ·simp only[cr8,if_true,eS3]
   simp only[bv0,aK5,fl2]at h|-
   grind
  ·rfl
 |i::j::r,h=>simp[bv0]at h
def dr4 {n:Nat}{now at_:Int}{u:List j7×List B0}(h:Rows n now u){x:j7}(hx:x∈u.1)(ha:x.F4=true)(hat:x.At=at_):(cD6 at_ u).2.length<u.2.length:=by
 obtain⟨c,hc,rfl⟩:=cW9.1 hx
 have hr:=h.row c hc
 cases hm:aq7 u.2 (c:Int)with
 |nil=>grind [aK2]
 |cons j r=>
  rw[hm]at hr
  simp only[aK2,aK5,bG5,cH4,beq_iff_eq]at hr
  obtain⟨⟨⟨_,h2⟩,h3⟩,_⟩:=hr
  have hj:j.F4=true:=by grind
  have h3':j.At=u.1[c].At:=by
   grind
  have hjm:j∈u.2:=by
   grind [aq7,cq1]
  have hd:bE3 at_ j=true:=by grind [bE3]
  unfold cD6
  exact List.length_filter_lt_length_iff_exists.2 ⟨j,hjm,by simp[hd]⟩
structure Live (n:Nat)(s:c8):Prop where
 eng:n=s.A1.A7.length
 n1:1<=n
 n8:n<=8
 rows:Rows n s.j9.V5 (s.j9.j2,s.H7)
 cut:s.Cut=true->∀c,c<s.j9.j2.length->bv0 s.j9.V5 (aq7 s.H7 (c:Int))=true
 cG1:0<=s.j9.V5
 dn8:s.j9.V5<=1099511627776
 clk:(s.B5.Y2=false/\s.H7=[])\/(s.B5.Y2=true/\bC6 s.B5)
 most:s.H7.length<=1000
theorem Live.tim {n:Nat}{s:c8}(h:Live n s):Tm.ae6 s.j9=true:=cJ5 h.rows h.cG1 h.dn8 h.n1 h.n8
theorem Live.len {n:Nat}{s:c8}(h:Live n s):s.j9.j2.length=2*n:=h.rows.len
theorem Live.of {s:c8}(h:aN9 s):Live s.A1.A7.length s:=by
 have ht:=Tm.bG1 h.tim
 refine⟨rfl,h.eng.1,h.eng.2.1,⟨h.chs,?_,h.job,fun c hc=>?_⟩,fun aK8 c hc=>?_,ht.2.2.1,ht.2.2.2,?_,Nat.le_trans h.most (by decide)⟩
 ·have:=h.tim
  simp_all[Tm.ae6]
 ·have:=h.line c hc
  simp_all[bq7]
 ·have:=h.line c hc
  simp_all[bq7]
 ·cases hv:s.B5.Y2
  ·exact .inl ⟨rfl,h.none hv⟩
  ·exact .inr ⟨rfl,dc5 h.clk hv⟩
def stepG (at_:Int)(s:c8):c8:=bM7 (put s at_ (cD6 at_ (s.j9.j2,s.H7)))
def goV (to:Int):Nat->List j8×c8->List j8×c8
 |0,u=>u
 |f+1,u=>if(Tm.nxV u.2.j9.j2).2=true/\(Tm.nxV u.2.j9.j2).1<=to then goV to f (u.1++Tm.cK4 (Tm.nxV u.2.j9.j2).1 u.2.j9.j2,stepG (Tm.nxV u.2.j9.j2).1 u.2)else u
structure Alike (s t:c8):Prop where
 eng:t.A1=s.A1
 clk:t.B5=s.B5
 next:t.Next=s.Next
 cut:t.Cut=s.Cut
theorem Alike.refl (s:c8):Alike s s:=⟨rfl,rfl,rfl,rfl⟩
theorem Alike.trans {s t u:c8}(h:Alike s t)(k:Alike t u):Alike s u:=⟨k.eng.trans h.eng,k.clk.trans h.clk,k.next.trans h.next,k.cut.trans h.cut⟩
theorem cs5 (s:c8)(now:Int)(u:List j7×List B0):Alike s (put s now u):=⟨rfl,rfl,rfl,rfl⟩
def cs4 (s:c8):Alike s (bM7 s):=by unfold bM7;split;exact .refl s;exact cs5 ..
def dG0 (at_:Int)(s:c8):Alike s (stepG at_ s):=(cs5 ..).trans (cs4 _)
def ds8 {n:Nat}{s:c8}(h:Live n s):Live n (bM7 s):=by
 unfold bM7
 cases aK8:s.Cut
 ·simp only[dE6,if_false]
  have hr:=cs6 (k:=s.B5) h.rows s.j9.j2.length
  refine⟨h.eng,h.n1,h.n8,hr,fun hc=>?_,h.cG1,h.dn8,?_,?_⟩
  ·have:s.Cut=true:=hc
   grind
  ·rcases h.clk with⟨a,b⟩|h2
   ·left
    refine⟨a,?_⟩
    show(cb7 s.j9.V5 s.B5 s.j9.j2.length (s.j9.j2,s.H7)).2=[]
    rw[b,cK8]
   ·exact .inr h2
  ·show(cb7 s.j9.V5 s.B5 s.j9.j2.length (s.j9.j2,s.H7)).2.length<=1000
   rw[bC7];exact h.most
 grind
def dA7 {n:Nat}{s:c8}(h:Live n s){at_:Int}(h1:s.j9.V5<at_)(h2:at_<=1099511627776)(cw0:∀x∈s.j9.j2,x.F4=true->at_<=x.At):Live n (put s at_ (cD6 at_ (s.j9.j2,s.H7))):=by
 have hr:=ei9 h.rows h.cG1 h1 h2 h.n1 h.n8 cw0
 refine⟨h.eng,h.n1,h.n8,hr,fun hc c hcl=>?_,by have:=h.cG1;show 0<=at_;omega,h2,?_,?_⟩
 ·show bv0 at_ (aq7 (s.H7.filter fun j=>!bE3 at_ j) (c:Int))=true
  rw[cC3]
  exact eF0 (h.cut hc c (by grind [put,cD6])) (by omega)
 ·rcases h.clk with⟨a,b⟩|h2
  ·left
   refine⟨a,?_⟩
   show(s.H7.filter fun j=>!bE3 at_ j)=[]
   rw[b];rfl
  ·exact .inr h2
 ·exact Nat.le_trans (List.length_filter_le ..) h.most
def eu0 {n:Nat}{s:c8}(h:Live n s)(hn:(Tm.nxV s.j9.j2).2=true):s.j9.V5<(Tm.nxV s.j9.j2).1/\(Tm.nxV s.j9.j2).1<=1099511627776/\(∀x∈s.j9.j2,x.F4=true->(Tm.nxV s.j9.j2).1<=x.At):=by
 obtain⟨x,hx,ha,hat⟩:=Tm.cS1 hn
 have:=Tm.dc1 (h.rows.ch x hx) ha
 grind [Tm.cw8]
def ef5 {n:Nat}{s:c8}(h:Live n s)(hn:(Tm.nxV s.j9.j2).2=true):Live n (stepG (Tm.nxV s.j9.j2).1 s):=by
 obtain⟨h1,h2,h3⟩:=eu0 h hn
 exact ds8 (dA7 h h1 h2 h3)
theorem ez4 (at_:Int)(s:c8):(stepG at_ s).j9.V5=at_:=by unfold stepG bM7;split<;>rfl
def ef4 (at_:Int)(s:c8):(stepG at_ s).H7.length=(cD6 at_ (s.j9.j2,s.H7)).2.length:=by
 unfold stepG bM7
 split
 ·rfl
 ·show(cb7 _ _ _ _).2.length=_
  rw[bC7];rfl
def eG9 {n:Nat}{s:c8}(h:Live n s)(to:Int)(out:List j8)(ho:out.length<=100000)(hn:(Tm.nxV s.j9.j2).2=true)(hto:(Tm.nxV s.j9.j2).1<=to):
  Z4 to (out,s)=some (.inl (out++Tm.cK4 (Tm.nxV s.j9.j2).1 s.j9.j2,stepG (Tm.nxV s.j9.j2).1 s))/\
  True:=by
 obtain⟨h1,h2,h3⟩:=eu0 h hn
 have au3:=dA7 h h1 h2 h3
 have hlen:=h.len
 have hn8:=h.n8
 have hal:(Tm.cK4 (Tm.nxV s.j9.j2).1 s.j9.j2).length<=16:=by grind [Tm.dr3]
 have et:(⟨s.j9.V5,s.j9.j2⟩:A2)=s.j9:=rfl
 have hg:decide ((Tm.nxV s.j9.j2).1>to)=false:=by simp;omega
 have ha1:decide ((Tm.nxV s.j9.j2).1<s.j9.V5)=false:=by simp;omega
 have ha2:decide ((Tm.nxV s.j9.j2).1>Tm.cJ9)=false:=by grind
 have hj:=h.most
 constructor
 ·unfold Z4
  try simp only[et]
  rw[Tm.dS9,h.tim]
  simp only[fk7,aF2,hn,hg,aX5,eC7,fk6]
  rw[Tm.ei8,h.tim,ha1,ha2]
  simp only[aX5,fk6,aF2]
  rw[I1 _ _ (by omega),eq6 _ (by omega)]
  simp only[aF2]
  have:=dU2 (s:=put s (Tm.nxV s.j9.j2).1 (cD6 (Tm.nxV s.j9.j2).1 (s.j9.j2,s.H7))) au3.rows (by rcases au3.clk with⟨_,b⟩|⟨_,b⟩;all_goals grind) au3.cG1 au3.dn8 h.n1 h.n8 (by have:=au3.most;omega)
  unfold put cD6 at this
  simp only at this
  rw[this]
  rfl
 ·trivial
def eq7 {n:Nat}{s:c8}(h:Live n s)(to:Int)(out:List j8)(hno:¬((Tm.nxV s.j9.j2).2=true/\(Tm.nxV s.j9.j2).1<=to)):
  Z4 to (out,s)=some (.inr (.inl (out,s)))/\True:=by
 have et:(⟨s.j9.V5,s.j9.j2⟩:A2)=s.j9:=rfl
 have hlen:=h.len
 have hn8:=h.n8
 have hb:(!(Tm.nxV s.j9.j2).2||decide ((Tm.nxV s.j9.j2).1>to))=true:=by
  grind
 constructor
 ·unfold Z4
  try simp only[et]
  rw[Tm.dS9,h.tim]
  grind
 ·trivial
def eq8 (to:Int){n:Nat}:∀(f:Nat) (s:c8) (out:List j8),Live n s->s.H7.length<=f->out.length+16*f<=100000->s.j9.V5<=to->
  L8 (Z4 to) (out,s)=some (.inl (goV to f (out,s)))/\True/\Live n (goV to f (out,s)).2/\Alike s (goV to f (out,s)).2/\(goV to f (out,s)).2.j9.V5<=to/\
   (∀x∈(goV to f (out,s)).2.j9.j2,x.F4=true->to<x.At)/\(goV to f (out,s)).1.length<=out.length+16*f/\(goV to f (out,s)).2.H7.length<=s.H7.length:=by
 intro f
 induction f with
 |zero=>
  intro s out h hj ho ht
  have hno:¬((Tm.nxV s.j9.j2).2=true/\(Tm.nxV s.j9.j2).1<=to):=by
   rintro⟨h1,_⟩
   obtain⟨x,hx,ha,hat⟩:=Tm.cS1 h1
   have:=dr4 h.rows hx ha hat
   grind
  obtain⟨e1,e2⟩:=eq7 h to out hno
  refine⟨E6 e1,trivial,h,.refl s,ht,fun x hx ha=>?_,by simp[goV],bO2 _⟩
  obtain⟨a,b⟩:=Tm.cw8 hx ha
  by_cases h5:to<x.At
  ·exact h5
  ·have b':(Tm.nxV s.j9.j2).1<=x.At:=b
   exact absurd ⟨a,by omega⟩ hno
 |succ f ih=>
  intro s out h hj ho ht
  by_cases hy:(Tm.nxV s.j9.j2).2=true/\(Tm.nxV s.j9.j2).1<=to
  ·obtain⟨e1,e2⟩:=eG9 h to out (by omega) hy.1 hy.2
   have hlen:=h.len
   have hn8:=h.n8
   have hal:(Tm.cK4 (Tm.nxV s.j9.j2).1 s.j9.j2).length<=16:=by have:=Tm.dr3 (Tm.nxV s.j9.j2).1 s.j9.j2;omega
   obtain⟨x,hx,ha,hat⟩:=Tm.cS1 hy.1
   have hless:=dr4 h.rows hx ha hat
   simp only at hless
   have hsj:=ef4 (Tm.nxV s.j9.j2).1 s
   obtain⟨r1,r2,r3,r4,r5,r6,r7,r8⟩:=ih (stepG (Tm.nxV s.j9.j2).1 s) (out++Tm.cK4 (Tm.nxV s.j9.j2).1 s.j9.j2) (ef5 h hy.1) (by omega) (by rw[bd4];omega) (by rw[ez4];exact hy.2)
   have eg:goV to (f+1) (out,s)=goV to f (out++Tm.cK4 (Tm.nxV s.j9.j2).1 s.j9.j2,stepG (Tm.nxV s.j9.j2).1 s):=by
    show(if _ then _ else _)=_
    rw[if_pos hy]
   rw[eg,H3 e1]
   refine⟨r1,r2,r3,(dG0 _ s).trans r4,r5,r6,by rw[bd4]at r7;omega,by omega⟩
  ·obtain⟨e1,e2⟩:=eq7 h to out hy
   have eg:goV to (f+1) (out,s)=(out,s):=by
    show(if _ then _ else _)=_
    rw[if_neg hy]
   rw[eg]
   refine⟨E6 e1,trivial,h,.refl s,ht,fun x hx ha=>?_,by simp only;omega,bO2 _⟩
   obtain⟨a,b⟩:=Tm.cw8 hx ha
   by_cases h5:to<x.At
   ·exact h5
   ·have b':(Tm.nxV s.j9.j2).1<=x.At:=b
    exact absurd ⟨a,by omega⟩ hy
def goE (to:Int)(s:c8):List j8×c8:=((goV to s.H7.length ([],s)).1,put (goV to s.H7.length ([],s)).2 to ((goV to s.H7.length ([],s)).2.j9.j2,(goV to s.H7.length ([],s)).2.H7))
def dJ9 {n:Nat}{s:c8}(h:Live n s){to:Int}(h1:s.j9.V5<=to)(h2:to<=1099511627776)(hno:∀x∈s.j9.j2,x.F4=true->to<x.At):Live n (put s to (s.j9.j2,s.H7)):=by
 refine⟨h.eng,h.n1,h.n8,⟨h.rows.len,fun x hx=>?_,h.rows.job,h.rows.row⟩,fun hc c hcl=>?_,by have:=h.cG1;show 0<=to;omega,h2,h.clk,h.most⟩
 ·have:=h.rows.ch x hx
  show Tm.chB to x=true
  unfold Tm.chB at this|-
  cases ha:x.F4
  ·grind
  ·rw[ha]at this
   have h5:=hno x hx ha
   grind
 ·have:=h.cut hc c hcl
  show bv0 to (aq7 s.H7 (c:Int))=true
  match hm:aq7 s.H7 (c:Int)with
  |[]=>rfl
  |[j]=>
   rw[hm]at this
   simp only[bv0,aK5,fl2]at this|-
   grind
  |i::j::r=>grind [bv0]
def dK7 {to:Int}{l:List j7}(h:∀x∈l,x.F4=true->to<x.At):∀c∈l,Tm.due to c=false:=by
 grind [Tm.due]
theorem cI5 {n:Nat}{s:c8}(h:Live n s)(to:Int)(h1:s.j9.V5<=to)(h2:to<=1099511627776):ac3 s to=some (goE to s)/\Live n (goE to s).2/\Alike s (goE to s).2/\(goE to s).2.j9.V5=to/\(goE to s).2.H7.length<=s.H7.length/\(∀x∈(goE to s).2.j9.j2,x.F4=true->to<x.At):=by
 have hm:=h.most
 obtain⟨r1,r2,r3,r4,r5,r6,r7,r8⟩:=eq8 to s.H7.length s [] h (bO2 _) (by simp;omega) h1
 have hd:=Tm.et9 (dK7 r6)
 refine⟨?_,dJ9 r3 r5 h2 r6,r4.trans (cs5 ..),rfl,r8,r6⟩
 unfold ac3
 rw[r1]
 simp only[aF2]
 unfold goE
 generalize goV to s.H7.length ([],s)=u at r3 r5 r6 hd r7
 have et:(⟨u.2.j9.V5,u.2.j9.j2⟩:A2)=u.2.j9:=rfl
 have ha1:decide (to<u.2.j9.V5)=false:=by simp;omega
 have ha2:decide (to>Tm.cJ9)=false:=by unfold Tm.cJ9;simp;omega
 try rw[et]
 rw[Tm.ei8,r3.tim,ha1,ha2]
 simp only[aX5,fk6,aF2]
 rw[hd.1,hd.2,I1 _ _ (by simp at r7|-;omega)]
 simp only[aF2,dq6]
 rfl
def fn4 (s:c8)(h1:s.A1.A7.length<=1000)(h2:s.j9.j2.length<=1000)(h3:s.Next.length<=1000000)(h4:s.H7.length<=1000000):bA4 s=some s:=by
 unfold bA4
 rw[I1 _ _ (by simp;omega),Tm.copy_eq _ h2,I1 _ _ (by simp;omega),I1 _ _ (by simp;omega)]
 rfl
theorem bE2 (s:c8)(h3:s.Next.length<=1000000)(h4:s.H7.length<=1000000):L9 s=some s:=by
 unfold L9 ak3 U6
 rw[I1 _ _ (by simp;omega),I1 _ _ (by simp;omega)]
 rfl
section
variable {α β:Type}
def co4 (gt:α->α->Bool)(x:α)(l:List α):Nat->Nat
 |0=>0
 |k+1=>match l[k]?with|some y=>if gt y x then co4 gt x l k else k+1|none=>k+1
def bJ6 (gt:α->α->Bool)(l:List α)(x:α):List α:=l.take (co4 gt x l l.length)++x::l.drop (co4 gt x l l.length)
def ev1 (gt:α->α->Bool)(x:α)(l:List α){k:Nat}(h:k<l.length):co4 gt x l (k+1)=if gt l[k] x then co4 gt x l k else k+1:=by
 rw[co4,aX4 h]
theorem bW0 (gt:α->α->Bool)(l:List α)(x:α):(bJ6 gt l x).Perm (x::l):=by
 unfold bJ6
 refine List.perm_middle.trans ?_
 rw[List.take_append_drop]
def cP9 (gt:α->α->Bool):∀(r l:List α),(r.foldl (bJ6 gt) l).Perm (l++r)
 |[],l=>by simp
 |x::r,l=>by
  refine(cP9 gt r (bJ6 gt l x)).trans ?_
  refine((bW0 gt l x).append_right r).trans ?_
  exact List.perm_middle.symm
theorem dT3 (f:α->β){gt:α->α->Bool}{gt':β->β->Bool}(x:α)(l:List α)(h:∀y∈l,gt' (f y) (f x)=gt y x):∀k,co4 gt' (f x) (l.map f) k=co4 gt x l k
 |0=>rfl
 |k+1=>by
  unfold co4
  rw[dr2]
  cases hk:l[k]?with
  |none=>rfl
  |some y=>
   simp only[bN9]
   rw[h y (db2 hk),dT3 f x l h k]
theorem eH6 (f:α->β){gt:α->α->Bool}{gt':β->β->Bool}(x:α)(l:List α)(h:∀y∈l,gt' (f y) (f x)=gt y x):bJ6 gt' (l.map f) (f x)=(bJ6 gt l x).map f:=by
 unfold bJ6
 rw[bY6,dT3 f x l h,eC5,cN4,List.map_take,List.map_drop]
def fold_map (f:α->β){gt:α->α->Bool}{gt':β->β->Bool}(Q:α->Prop)(h:∀x y,Q x->Q y->gt' (f y) (f x)=gt y x):∀(r l:List α),(∀x∈l,Q x)->(∀x∈r,Q x)->(r.map f).foldl (bJ6 gt') (l.map f)=(r.foldl (bJ6 gt) l).map f
 |[],l,_,_=>rfl
 |x::r,l,hl,hr=>by
  rw[cN4,eh2,eh2,eH6 f x l (fun y hy=>h x y (hr x (cq1 ..)) (hl y hy))]
  refine fold_map f Q h r _ (fun y hy=>?_) (fun y hy=>hr y (bE0 _ hy))
  rcases ca1.1 ((bW0 gt l x).mem_iff.1 hy)with rfl|h2
  ·exact hr _ (cq1 ..)
  ·exact hl _ h2
theorem dR2 (a b:List α)(x:α):E0 (a++x::b) (a.length:Int)=some x:=by
 rw[U4,List.getElem?_append_right (bO2 _),Nat.sub_self];rfl
theorem ex7 (a b:List α)(x z:α):ao3 (a++x::b) (a.length:Int) z=some (a++z::b):=by
 rw[U5 _ _ _ (by simp)]
 rw[List.set_append_right _ _ (bO2 _),Nat.sub_self];rfl
end
section
variable {cmp:a7 -> a7 -> Option Int} {gt:a7 -> a7 -> Bool} {Q:a7 -> Prop}
def cC7 (hc:∀x y,Q x->Q y->∃c,cmp x y=some c/\decide (c<0)=gt y x)(x:a7)(P R:List a7)(hP:∀y∈P,Q y)(hx:Q x)(hl:P.length<=1000000):∀j,j<=P.length->
  L8 (C4 0 cmp) ((j:Int),P.take j++x::(P.drop j++R))=some (.inl ((co4 gt x P j:Int),P.take (co4 gt x P j)++x::(P.drop (co4 gt x P j)++R)))
 |0,_=>by
  refine E6 ?_
  unfold C4
  rfl
 |j+1,hj=>by
  have hjl:j<P.length:=by omega
  have e1:P.take (j+1)=P.take j++[P[j]]:=cW8 hjl
  have e2:P.drop j=P[j]::P.drop (j+1):=List.drop_eq_getElem_cons hjl
  have la:(P.take j).length=j:=by rw[cZ8];omega
  have lb:(P.take j++[P[j]]).length=j+1:=by rw[bd4,la];rfl
  obtain⟨c,hc1,hc2⟩:=hc x P[j] hx (hP _ (bf3 hjl))
  have d1:P.take (j+1)++x::(P.drop (j+1)++R)=P.take j++P[j]::(x::(P.drop (j+1)++R)):=by rw[e1,dE5];rfl
  have g0:E0 (P.take (j+1)++x::(P.drop (j+1)++R)) ((j+1:Nat):Int)=some x:=by
   have:=dR2 (P.take j++[P[j]]) (P.drop (j+1)++R) x
   rw[lb]at this
   rw[e1];exact this
  have g1:E0 (P.take (j+1)++x::(P.drop (j+1)++R)) (j:Int)=some P[j]:=by
   have:=dR2 (P.take j) (x::(P.drop (j+1)++R)) P[j]
   rw[la]at this
   rw[d1];exact this
  have s0:ao3 (P.take (j+1)++x::(P.drop (j+1)++R)) ((j+1:Nat):Int) P[j]=some (P.take j++P[j]::(P[j]::(P.drop (j+1)++R))):=by
   have:=ex7 (P.take j++[P[j]]) (P.drop (j+1)++R) x P[j]
   rw[lb]at this
   rw[e1,this,dE5];rfl
  have g2:E0 (P.take j++P[j]::(P[j]::(P.drop (j+1)++R))) (j:Int)=some P[j]:=by
   have:=dR2 (P.take j) (P[j]::(P.drop (j+1)++R)) P[j]
   rw[la]at this;exact this
  have s1:ao3 (P.take j++P[j]::(P[j]::(P.drop (j+1)++R))) (j:Int) x=some (P.take j++x::(P.drop j++R)):=by
   have:=ex7 (P.take j) (P[j]::(P.drop (j+1)++R)) P[j] x
   rw[la]at this
   rw[this,e2];rfl
  have ew:j5 (((j+1:Nat):Int)-1)=(j:Int):=by rw[j4 (by omega) (by omega)];omega
  have e0:decide (((j+1:Nat):Int)>0)=true:=fk8 (by omega)
  have hb:C4 0 cmp (((j+1:Nat):Int),P.take (j+1)++x::(P.drop (j+1)++R))=some (bif gt P[j] x then .inl ((j:Int),P.take j++x::(P.drop j++R))else .inr (.inl (((j+1:Nat):Int),P.take (j+1)++x::(P.drop (j+1)++R)))):=by
   unfold C4
   simp only[e0,fk7,ew,g0,g1,aF2,hc1,hc2]
   cases gt P[j] x
   ·rfl
   ·simp only[fk7,s0,g2,s1,aF2]
  have ep:=ev1 gt x P hjl
  cases hg:gt P[j] x
  ·rw[hg]at hb ep
   simp only[dE6,if_false]at ep
   rw[E6 hb,ep]
  ·rw[hg]at hb ep
   simp only[if_true]at ep
   rw[H3 hb,ep]
   exact cC7 hc x P R hP hx hl j (by omega)
def cC8 (hc:∀x y,Q x->Q y->∃c,cmp x y=some c/\decide (c<0)=gt y x)(n:Nat)(hn:n<=1000000):∀(R S:List a7),S.length+R.length=n->(∀y∈S,Q y)->(∀y∈R,Q y)->
  L8 (B6 0 (n:Int) cmp) ((S.length:Int),S++R)=some (.inl ((n:Int),R.foldl (bJ6 gt) S))
 |[],S,hl,hS,_=>by
  have:S.length=n:=by simpa using hl
  rw[this]
  refine E6 ?_
  unfold B6
  simp
 |x::R,S,hl,hS,hR=>by
  rw[bu9]at hl
  have hin:=cC7 hc x S R hS (hR x (cq1 ..)) (by omega) S.length (bO2 _)
  rw[eC8,List.drop_length]at hin
  have e1:decide ((S.length:Int)<(n:Int))=true:=by simp;omega
  have ew:j5 ((S.length:Int)+1)=((S.length+1:Nat):Int):=by rw[j4 (by omega) (by omega)];omega
  have hin2:bJ6 gt S x++R=S.take (co4 gt x S S.length)++x::(S.drop (co4 gt x S S.length)++R):=by
   unfold bJ6;rw[dE5];rfl
  have hb:B6 0 (n:Int) cmp ((S.length:Int),S++x::R)=some (.inl (((S.length+1:Nat):Int),bJ6 gt S x++R)):=by
   unfold B6
   simp only[e1,fk7]
   rw[show(S++x::R)=S++x::([]++R)from rfl,hin]
   simp only[aF2,ew,hin2]
  rw[H3 hb]
  have hlen:(bJ6 gt S x).length=S.length+1:=by rw[(bW0 gt S x).length_eq];rfl
  have:=cC8 hc n hn R (bJ6 gt S x) (by omega) (fun y hy=>by
   rcases ca1.1 ((bW0 gt S x).mem_iff.1 hy)with rfl|h2
   ·exact hR _ (cq1 ..)
   ·exact hS _ h2) (fun y hy=>hR y (bE0 _ hy))
  rw[hlen]at this
  exact this
theorem bW9 (hc:∀x y,Q x->Q y->∃c,cmp x y=some c/\decide (c<0)=gt y x)(l:List a7)(hl:l.length<=19)(hQ:∀y∈l,Q y):D5 l cmp=some (l.foldl (bJ6 gt) []):=by
 have hins:B4 l 0 (l.length:Int) cmp=some (l.foldl (bJ6 gt) []):=by
  unfold B4
  cases l with
  |nil=>
   rw[E6 (b:=.inl (1,[]))]
   ·rfl
   ·unfold B6;rfl
  |cons x R=>
   have:=cC8 hc (x::R).length (by omega) R [x] (by simp;omega) (fun y hy=>hQ y (by simp at hy;simp[hy])) (fun y hy=>hQ y (bE0 _ hy))
   rw[show j5 (0+1)=(([x].length:Nat):Int)from rfl]
   rw[show x::R=[x]++R from rfl]at this|-
   rw[this]
   rfl
 unfold D5 H4
 rw[E6 (b:=.inl (0,20,l)) (by unfold K2;rw[show decide ((20:Int)<=(l.length:Int))=false by simp;omega];rfl)]
 simp only[aF2]
 rw[hins]
 simp only[aF2]
 rw[E6 (b:=.inl (20,l.foldl (bJ6 gt) [])) (by unfold K3;rw[show decide ((20:Int)<(l.length:Int))=false by simp;omega];rfl)]
 rfl
end
def gtE (begin:Int)(y x:C0):Bool:=decide (dst begin x.I0<dst begin y.I0\/(dst begin x.I0=dst begin y.I0/\chn x<chn y))
def do0 (begin:Int)(l:List C0):List C0:=l.foldl (bJ6 (gtE begin)) []
def plJ (begin:Int)(x:C0):a7:=⟨x,dst begin x.I0⟩
def cx0 (begin:Int)(l:List C0):(do0 begin l).Perm l:=by
 have:=cP9 (gtE begin) l []
 simpa[do0]using this
theorem dc2 {x:C0}(h:Ev.evP x):H5 x=some (chn x)/\aS0 x=some (chn x):=by
 have:=cH8 (n:=8) (j:=⟨x,0,false,0⟩) ⟨h.2.2.1,h.2.1,h.1,h.2.2.2,by simp only;omega,.inr rfl⟩ (by omega)
 exact this
theorem eX5 (a b:Int):ag2 [a,b]=some (bif a !=0 then a else b):=by
 unfold ag2
 rw[L0 _ (by simp)]
 simp only[N4,aA4]
 cases ha:a !=0
 ·cases hb:b !=0
  ·have:b=0:=by simpa using hb
   rw[this];rfl
  ·rfl
 ·rfl
theorem eJ3 (begin:Int)(x y:C0)(hx:Ev.evP x)(hy:Ev.evP y):∃c,ad6 (plJ begin x) (plJ begin y)=some c/\decide (c<0)=gtE begin y x:=by
 unfold ad6 plJ
 simp only[cO0,(dc2 hx).1,(dc2 hy).1,aF2,eX5]
 refine⟨_,rfl,?_⟩
 unfold gtE
 rw[decide_eq_decide]
 rcases bi4 (dst begin x.I0) (dst begin y.I0)with⟨a,b⟩|⟨a,b⟩|⟨a,b⟩
 ·rw[b];simp[a]
 ·rw[b]
  rcases bi4 (chn x) (chn y)with⟨c,d⟩|⟨c,d⟩|⟨c,d⟩<;>rw[d]<;>simp<;>omega
 ·rw[b];simp;omega
theorem ev3 (begin:Int)(l:List C0)(hl:l.length<=19)(hQ:∀x∈l,Ev.evP x):D5 (l.map (plJ begin)) ad6=some ((do0 begin l).map (plJ begin)):=by
 have e:∀p:a7,(∃x,Ev.evP x/\p=plJ begin x)->p=plJ begin p.x:=by
  rintro p ⟨x,_,rfl⟩;rfl
 rw[bW9 (gt:=fun q p=>gtE begin q.x p.x) (Q:=fun p=>∃x,Ev.evP x/\p=plJ begin x)
  (fun p q ⟨x,hx,ex⟩ ⟨y,hy,ey⟩=>by subst ex ey;exact eJ3 begin x y hx hy) _ (by rw[bY6];exact hl)
  (fun p hp=>by obtain⟨x,hx,rfl⟩:=cK0.1 hp;exact⟨x,hQ x hx,rfl⟩)]
 have:=fold_map (plJ begin) (gt:=gtE begin) (gt':=fun q p=>gtE begin q.x p.x) (fun _=>True) (fun _ _ _ _=>rfl) l [] (fun _ _=>trivial) (fun _ _=>trivial)
 rw[dT4]at this
 rw[this];rfl
def dQ4 {e:o5}(h:aE5 e){c:Int}(hc:c∈e.A7):1<=c/\c<=(e.A7.length:Int):=h.2.2.2.2.1 c hc
def dI6 {e:o5}{f:A6}{t:Int}(he:aE5 e)(hf:bf4 e f):∀x∈evs e t f,Ev.evP x/\x.p7=f.p7:=by
 intro x hx
 unfold evs at hx
 obtain⟨o,ho,rfl⟩:=cK0.1 hx
 have hc:=dQ4 he hf.1
 have hn:=he.2.1
 have hk:(1<=o.2.1/\o.2.1<=4)/\(0<=o.2.2/\o.2.2<=2):=by
  unfold ed1 at ho
  simp only[du0,ca1,eQ1,or_false]at ho
  rcases ho with(ho|ho)|ho
  ·rcases ho with rfl|rfl<;>simp
  ·cases h:decide (pul f>0)
   ·rw[h]at ho;simp at ho
   ·rw[h]at ho
    simp only[fk7,ca1,eQ1,or_false]at ho
    rcases ho with rfl|rfl<;>simp
  ·cases h:decide (pul f>1)
   ·rw[h]at ho;simp at ho
   ·rw[h]at ho
    simp only[fk7,ca1,eQ1,or_false]at ho
    rcases ho with rfl|rfl<;>simp
 refine⟨⟨?_,hk.1,?_,hk.2⟩,rfl⟩
 ·unfold evF;simp only;omega
 ·show 1<=f.p7/\f.p7<=8;omega
def kp (x:C0):Int×Int:=(x.Kind,x.aj6)
def eN8 (k:Int×Int):Bool:=k.1==1||k.1==2
def eB8 (k:Int×Int):Bool:=k.1==3||k.1==4
def cN8:List (Int×Int):=[(2,0),(1,0)]
def bq4 (n:Int):List (Int×Int):=(bif decide (n>0)then [(4,1),(3,1)]else [])++(bif decide (n>1)then [(3,2),(4,2)]else [])
theorem eU0 (e:o5)(f:A6)(t:Int):(evs e t f).map kp=cN8++bq4 (pul f):=by
 unfold evs
 rw[List.map_map]
 rcases bj8 f with h|h|h<;>(unfold ed1;rw[h];rfl)
def ea4 (begin:Int):List C0->Int->Bool
 |[],_=>true
 |x::r,last=>decide (last<dst begin x.I0)&&ea4 begin r (dst begin x.I0)
def kpP (a b:Int):List (Int×Int)->Int->Int->Bool
 |[],_,_=>true
 |x::r,p,k=>(x.1==k)&&decide (p<=x.2)&&kpP a b r x.2 (a+b-k)
def kpR (c:Nat):List (Int×Int)->Nat->Bool
 |[],_=>true
 |x::r,i=>(onK x.1==(i%2==0))&&(x.2==(if c=0 then 0 else((i/2+1:Nat):Int)))&&kpR c r (i+1)
def cf9 (begin a b:Int):∀(l:List C0) (i last p k:Int),(k=a\/k=b)->(0<=a/\a<=10)->(0<=b/\b<=10)->
  ((ea4 begin (l.filter fun x=>x.Kind==a||x.Kind==b) last&&kpP a b ((l.filter fun x=>x.Kind==a||x.Kind==b).map kp) p k)=true/\∃s,N4 (W6 (a,b)) (l.map (plJ begin)) i (last,p,k)=some (.inl s))\/
  ((ea4 begin (l.filter fun x=>x.Kind==a||x.Kind==b) last&&kpP a b ((l.filter fun x=>x.Kind==a||x.Kind==b).map kp) p k)=false/\N4 (W6 (a,b)) (l.map (plJ begin)) i (last,p,k)=some (.inr ([],false)))
 |[],i,last,p,k,_,_,_=>.inl ⟨rfl,_,rfl⟩
 |x::l,i,last,p,k,hk,ha,hb=>by
  have ih:=fun i last p k hk=>cf9 begin a b l i last p k hk ha hb
  simp only[cN4,N4]
  have ew:j5 (j5 (a+b)-k)=a+b-k:=by
   rw[j4 (n:=a+b) (by omega) (by omega),j4 (by omega) (by omega)]
  cases hm:(x.Kind==a||x.Kind==b)
  ·rw[fa5 (by simp[hm])]
   have h1:((x.Kind !=a)&&(x.Kind !=b))=true:=by
    rw[cw7]at hm;simp only[bne,hm.1,hm.2];rfl
   have hst:W6 (a,b) i (plJ begin x) (last,p,k)=some (.next (last,p,k)):=by
    unfold W6 plJ
    simp only[h1,fk7]
   rw[hst]
   exact ih (i+1) last p k hk
  ·rw[dS0 (by simp[hm])]
   have h1:((x.Kind !=a)&&(x.Kind !=b))=false:=by
    cases e1:x.Kind==a
    ·rw[e1]at hm;simp only[ec6]at hm;simp[bne,hm]
    ·simp[bne,e1]
   have hst:W6 (a,b) i (plJ begin x) (last,p,k)=some (bif (((x.Kind !=k)||(decide (dst begin x.I0<=last)))||(decide (x.aj6<p)))then(.ret ([],false))else(.next (dst begin x.I0,x.aj6,a+b-k))):=by
    unfold W6 plJ
    simp only[h1,fk6,ew]
    exact db5 ..
   rw[hst]
   have hq:(((x.Kind !=k)||(decide (dst begin x.I0<=last)))||(decide (x.aj6<p)))= !(decide (last<dst begin x.I0)&&((x.Kind==k)&&decide (p<=x.aj6))):=by
    rw[show decide (dst begin x.I0<=last)= !decide (last<dst begin x.I0) by rw[<-decide_not];exact decide_eq_decide.2 (by omega),show decide (x.aj6<p)= !decide (p<=x.aj6) by rw[<-decide_not];exact decide_eq_decide.2 (by omega)]
    unfold bne
    cases x.Kind==k<;>cases decide (last<dst begin x.I0)<;>cases decide (p<=x.aj6)<;>rfl
   rw[hq]
   simp only[ea4,cN4,kpP,kp]
   cases hz:(decide (last<dst begin x.I0)&&((x.Kind==k)&&decide (p<=x.aj6)))
   ·right
    refine⟨?_,by simp only[cr8,fk7,aF2]⟩
    cases h3:decide (last<dst begin x.I0)
    ·rfl
    ·rw[h3,cA6]at hz
     rw[hz];simp
   ·simp only[aX5,fk6,aF2]
    simp only[aK5]at hz
    rw[hz.1,hz.2.1,hz.2.2]
    exact ih (i+1) (dst begin x.I0) x.aj6 (a+b-k) (by omega)
theorem eI0:∀{l:List (Int×Int)},l.Perm cN8->kpP 1 2 l 0 1=kpR 0 l 0:=by
 intro l h
 have hm:∀x∈l,x∈cN8:=fun x hx=>h.mem_iff.1 hx
 have hl:=h.length_eq
 match l,hl with
 |[a,b],_=>
  have ha:=hm a (by simp)
  have hb:=hm b (by simp)
  revert h
  have key:∀a∈cN8,∀b∈cN8,kpP 1 2 [a,b] 0 1=kpR 0 [a,b] 0:=by decide
  exact fun _=>key a ha b hb
theorem es3 (n:Int)(hn:n=0\/n=1\/n=2):∀{l:List (Int×Int)},l.Perm (bq4 n)->kpP 3 4 l 0 3=kpR 1 l 0:=by
 intro l h
 have hm:∀x∈l,x∈bq4 n:=fun x hx=>h.mem_iff.1 hx
 have hl:=h.length_eq
 rcases hn with rfl|rfl|rfl
 ·have:l=[]:=List.eq_nil_of_length_eq_zero (by rw[hl];rfl)
  subst this;rfl
 ·match l,hl with
  |[a,b],_=>
   have ha:=hm a (by simp)
   have hb:=hm b (by simp)
   have key:∀a∈bq4 1,∀b∈bq4 1,kpP 3 4 [a,b] 0 3=kpR 1 [a,b] 0:=by decide
   exact key a ha b hb
 ·match l,hl with
  |[a,b,c,d],_=>
   have ha:=hm a (by simp)
   have hb:=hm b (by simp)
   have hc:=hm c (by simp)
   have hd:=hm d (by simp)
   have key:∀a∈bq4 2,∀b∈bq4 2,∀c∈bq4 2,∀d∈bq4 2,[a,b,c,d].isPerm (bq4 2)=true->kpP 3 4 [a,b,c,d] 0 3=kpR 1 [a,b,c,d] 0:=by decide
   exact key a ha b hb c hc d hd (List.isPerm_iff.2 h)
def beg (e:o5)(c:Int):Int:=(cen e c+5760)%46080
theorem dO9 (e:o5)(c:Int):cb5 (beg e c)=true:=by unfold beg;exact bt8.2 (by omega)
theorem el0 (e:o5)(c:Int):dq1 (j5 (cen e c+5760)) 46080=beg e c:=by
 have:=db8 e c
 rw[j4 (by omega) (by omega),cX1 (by omega)];rfl
def isC (x:C0):Bool:=x.Kind==1||x.Kind==2
def isV (x:C0):Bool:=x.Kind==3||x.Kind==4
def dF4 (begin:Int)(W:List C0):Bool:=(ea4 begin (W.filter isC) (-1)&&kpP 1 2 ((W.filter isC).map kp) 0 1)&&(ea4 begin (W.filter isV) (-1)&&kpP 3 4 ((W.filter isV).map kp) 0 3)
def dE0 (e:o5)(f:A6)(begin t:Int):List C0:=bif (bg2 e [f] t).2 !=0 then []else bif dF4 begin (do0 begin (bg2 e [f] t).1)then do0 begin (bg2 e [f] t).1 else []
def do5 {e:o5}{f:A6}{t:Int}(he:aE5 e)(hf:bf4 e f)(h:((bg2 e [f] t).2 !=0)=false):(bg2 e [f] t).1.Perm (evs e t f):=by
 unfold bg2 at h|-
 rw[fk8 he]at h|-
 simp only[aX5,fk6]at h|-
 cases h1:dX5 e [f]<;>rw[h1]at h
 ·simp only[fk6]at h|-
  cases h2:!eA6 t<;>rw[h2]at h
  ·simp only[fk6]at h|-
   cases h3:eF3 [f]<;>rw[h3]at h
   ·simp only[fk6]at h|-
    cases h4:[f].any (long t)<;>rw[h4]at h
    ·simp only[fk6]
     have:=ez0 ([f].flatMap (evs e t))
     simpa using this
    ·simp at h
   ·simp at h
  ·simp at h
 ·simp at h
theorem cT0 (begin:Int)(hb:cb5 begin=true):∀(l:List C0) (i:Int) (out:List a7),(∀x∈l,Ev.evP x)->out.length+l.length<=1000->N4 (ak2 begin) l i out=some (.inl (out++l.map (plJ begin)))
 |[],i,out,_,_=>by simp[N4]
 |x::l,i,out,h,hl=>by
  rw[bu9]at hl
  have hx:=h x (cq1 ..)
  have hst:ak2 begin i x out=some (.next (out++[plJ begin x])):=by
   unfold ak2
   rw[dl3 hb (bt8.2 hx.1)]
   simp only[aF2]
   rw[I1 _ _ (by simp only[bu9,cJ8];omega)]
   rfl
  simp only[N4,hst,aF2]
  rw[cT0 begin hb l (i+1) _ (fun y hy=>h y (bE0 _ hy)) (by simp only[bd4,bu9,cJ8];omega)]
  simp
theorem eS2 (begin:Int)(W:List C0)(hW:W.length<=1000):L8 (U2 (W.map (plJ begin))) 0=some (bif dF4 begin W then .inl 2 else .inr ([],false)):=by
 have hl:(W.map (plJ begin)).length<=1000:=by rw[bY6];exact hW
 have k0:=cf9 begin 1 2 W 0 (-1) 0 1 (.inl rfl) (by omega) (by omega)
 have k1:=cf9 begin 3 4 W 0 (-1) 0 3 (.inl rfl) (by omega) (by omega)
 have f0:(fun x:C0=>x.Kind==1||x.Kind==2)=isC:=rfl
 have f1:(fun x:C0=>x.Kind==3||x.Kind==4)=isV:=rfl
 rw[f0]at k0
 rw[f1]at k1
 unfold dF4
 rcases k0 with⟨a,s,b⟩|⟨a,b⟩
 ·rw[a]
  have st0:U2 (W.map (plJ begin)) 0=some (.inl 1):=by
   unfold U2
   rw[show E0 ([(1,2),(3,4)]:List (Int×Int)) 0=some (1,2)from rfl]
   simp only[show decide ((0:Int)<2)=true from rfl,fk7,aF2]
   rw[L0 _ (by omega),b]
   rfl
  rw[H3 st0]
  rcases k1 with⟨c,s',d⟩|⟨c,d⟩
  ·rw[c]
   have st1:U2 (W.map (plJ begin)) 1=some (.inl 2):=by
    unfold U2
    rw[show E0 ([(1,2),(3,4)]:List (Int×Int)) 1=some (3,4)from rfl]
    simp only[show decide ((1:Int)<2)=true from rfl,fk7,aF2]
    rw[L0 _ (by omega),d]
    rfl
   rw[H3 st1]
   exact E6 rfl
  ·rw[c]
   refine E6 ?_
   unfold U2
   rw[show E0 ([(1,2),(3,4)]:List (Int×Int)) 1=some (3,4)from rfl]
   simp only[show decide ((1:Int)<2)=true from rfl,fk7,aF2]
   rw[L0 _ (by omega),d]
   rfl
 ·rw[a]
  refine E6 ?_
  unfold U2
  rw[show E0 ([(1,2),(3,4)]:List (Int×Int)) 0=some (1,2)from rfl]
  simp only[show decide ((0:Int)<2)=true from rfl,fk7,aF2]
  rw[L0 _ (by omega),b]
  rfl
def ey9 {e:o5}{f:A6}{begin t:Int}(he:aE5 e)(hf:bf4 e f)(hb:cb5 begin=true):∃b,ar5 e f begin t=some ((dE0 e f begin t).map (plJ begin),b)/\(b=false->dE0 e f begin t=[]):=by
 unfold ar5 dE0
 rw[eJ6 e [f] t (by simp)]
 simp only[aF2]
 cases h:(bg2 e [f] t).2 !=0
 ·have hp:=do5 he hf h
  have hlen:=hp.length_eq
  have h6:=cI2 e t f
  have hQ:∀x∈(bg2 e [f] t).1,Ev.evP x:=fun x hx=>(dI6 he hf x (hp.mem_iff.1 hx)).1
  have hwl:=(cx0 begin (bg2 e [f] t).1).length_eq
  simp only[fk6]
  rw[L0 _ (by omega),cT0 begin hb _ 0 [] hQ (by simp only[cJ8];omega)]
  simp only[aF2,cZ2]
  rw[ev3 begin _ (by omega) hQ]
  simp only[aF2]
  rw[eS2 begin _ (by omega)]
  cases dF4 begin (do0 begin (bg2 e [f] t).1)
  ·exact⟨false,rfl,fun _=>rfl⟩
  ·exact⟨true,rfl,fun h=>by cases h⟩
 ·exact⟨false,rfl,fun _=>rfl⟩
def ep4 {W:List C0}{cyl:Int}(h:∀x∈W,Ev.evP x/\x.p7=cyl):(W.filter fun x=>chn x==2*(cyl-1))=W.filter isC/\(W.filter fun x=>chn x==2*(cyl-1)+1)=W.filter isV:=by
 constructor
 ·refine List.filter_congr fun x hx=>?_
  obtain⟨hk,hc⟩:=h x hx
  unfold chn isC
  rw[hc]
  have:=hk.2.1
  by_cases h3:x.Kind=3\/x.Kind=4
  ·rw[if_pos h3,dq3];simp;omega
  ·rw[if_neg h3,dq3];simp;omega
 ·refine List.filter_congr fun x hx=>?_
  obtain⟨hk,hc⟩:=h x hx
  unfold chn isV
  rw[hc]
  have:=hk.2.1
  by_cases h3:x.Kind=3\/x.Kind=4
  ·rw[if_pos h3,dq3];simp;omega
  ·rw[if_neg h3,dq3];simp;omega
def eb0 {e:o5}{f:A6}{t:Int}{W:List C0}(hp:W.Perm (evs e t f)):((W.filter isC).map kp).Perm cN8/\((W.filter isV).map kp).Perm (bq4 (pul f)):=by
 have hm:(W.map kp).Perm (cN8++bq4 (pul f)):=by rw[<-eU0 e f t];exact hp.map kp
 have c1:(W.filter isC).map kp=(W.map kp).filter eN8:=by rw[fg7];rfl
 have c2:(W.filter isV).map kp=(W.map kp).filter eB8:=by rw[fg7];rfl
 rw[c1,c2]
 constructor
 ·refine(hm.filter eN8).trans ?_
  rcases bj8 f with h|h|h<;>(rw[h];exact List.Perm.refl _)
 ·refine(hm.filter eB8).trans ?_
  rcases bj8 f with h|h|h<;>(rw[h];exact List.Perm.refl _)
def dV1 (c:E8):Int:=upV (23040*c.G1) c.ab6
theorem eA7 {c:E8}(h:bC6 c)(hv:c.Y2=true)(hb:bN2 c=true):aF3 c 23040=some (dV1 c,0):=by
 have h1:=h.p0;have h2:=h.p1;have h3:=h.s0;have h4:=h.s1
 unfold aF3 aL1
 rw[dH6,hb,hv]
 simp only[aF2,aX5,fk6]
 rw[show((0:Int) !=0)=false from rfl,show((decide ((23040:Int)<0))||(decide ((23040:Int)>46080)))=false from rfl]
 simp only[fk6]
 rw[j4 (by omega) (by omega)]
 unfold bm5 an5
 rw[bW5 _ _ 2 (by omega) (by omega) (by omega) (by omega) (.inr rfl)]
 rfl
def bG4 {e:o5}{l:List A6}(h:aW5 e l=true):∀f∈l,bf4 e f:=by
 intro f hf
 obtain⟨i,hi,rfl⟩:=cW9.1 hf
 have:=cb2.1 h i hi
 unfold cz2 at this
 rw[aX4 hi]at this
 simp only[aK5,fl2]at this
 exact this.1
def cz3 {e:o5}{l:List A6}(h:aW5 e l=true):l.Pairwise fun a b=>a.p7≠b.p7:=by
 rw[List.pairwise_iff_getElem]
 intro i j hi hj hij
 have:=cb2.1 h j hj
 unfold cz2 at this
 rw[aX4 hj]at this
 simp only[aK5,bG5,dE4,beq_iff_eq]at this
 refine this.2 l[i] ?_
 rw[List.mem_take_iff_getElem]
 exact⟨i,by omega,rfl⟩
theorem filter_none {c:Int}:∀{l:List A6},(∀y∈l,y.p7≠c)->(l.filter fun f=>f.p7==c)=[]:=by
 intro l h
 rw[et4]
 intro y hy
 simpa using h y hy
def cm5 (c:Int):∀{l:List A6},(l.Pairwise fun a b=>a.p7≠b.p7)->(l.findIdx? (fun f=>f.p7==c)=none/\(l.filter fun f=>f.p7==c)=[])\/∃k f,l.findIdx? (fun f=>f.p7==c)=some k/\k<l.length/\l[k]? =some f/\f.p7=c/\(l.filter fun f=>f.p7==c)=[f]
 |[],_=>.inl ⟨rfl,rfl⟩
 |x::l,h=>by
  rw[List.pairwise_cons]at h
  rw[fh3]
  cases hx:x.p7==c
  ·rw[fa5 (by simp[hx])]
   simp only[dE6,if_false]
   rcases cm5 c h.2 with⟨a,b⟩|⟨k,f,a,b,d,e,g⟩
   ·exact .inl ⟨by rw[a];rfl,b⟩
   ·exact .inr ⟨k+1,f,by rw[a];rfl,by simpa using b,by simpa using d,e,g⟩
  ·rw[dS0 (by simp[hx])]
   simp only[if_true]
   have hxc:x.p7=c:=beq_iff_eq.1 hx
   exact .inr ⟨0,x,rfl,by simp,rfl,hxc,by rw[filter_none fun y hy=>by rw[<-hxc];exact(h.1 y hy).symm]⟩
theorem ep5 (l:List A6)(hl:l.length<=1000000)(c:Int):H8 l (fun x0=>Z3 x0 c)=some (match l.findIdx? (fun f=>f.p7==c)with|some k=>(k:Int)|none=>-1):=by
 unfold H8 O0
 rw[bc8 l (by omega) (fun(i:Int) x (_:Unit)=>ak4 (Z3 x c) fun v=>bif v then(some (Fl.ret i))else(some (Fl.next ())))]
 have:=bJ3 (fun x=>Z3 x c) (fun f:A6=>f.p7==c) l 0 (fun _ _=>rfl)
 rw[show((0:Nat):Int)=0 from rfl]at this
 rw[this]
 cases l.findIdx? (fun f=>f.p7==c)with
 |none=>rfl
 |some k=>simp
def shJ (v begin:Int)(x:C0):B0:=⟨x,v+dst begin x.I0,false,0⟩
def dF9 (e:o5)(v t:Int)(f:A6):List B0:=(dE0 e f (beg e f.p7) t).map (shJ v (beg e f.p7))
def ci8 (e:o5)(k:E8)(next:List A6)(t x:Int):List B0:=
 bif decide (dst k.I0 (beg e x)>=k.as3)then []else(next.filter fun f=>f.p7==x).flatMap (dF9 e (dst k.I0 (beg e x)) t)
def cr5 {e:o5}{f:A6}{begin t:Int}(he:aE5 e)(hf:bf4 e f):(dE0 e f begin t).length<=6/\∀x∈dE0 e f begin t,Ev.evP x/\x.p7=f.p7:=by
 unfold dE0
 cases h:(bg2 e [f] t).2 !=0
 ·have hp:=do5 he hf h
  have hop:=(cx0 begin (bg2 e [f] t).1).trans hp
  have h6:=cI2 e t f
  simp only[fk6]
  cases dF4 begin (do0 begin (bg2 e [f] t).1)
  ·simp
  ·refine⟨by rw[fk7,hop.length_eq];exact h6,fun x hx=>dI6 (t:=t) he hf x (hop.mem_iff.1 hx)⟩
 ·simp
theorem cL0 (v begin:Int)(hv:0<=v/\v<=46080):∀(W:List C0) (i:Int) (out:List B0),out.length+W.length<=100000->N4 (ah2 v) (W.map (plJ begin)) i out=some (.inl (out++W.map (shJ v begin)))
 |[],i,out,_=>by simp[N4]
 |x::W,i,out,hl=>by
  rw[bu9]at hl
  have hd:0<=dst begin x.I0/\dst begin x.I0<46080:=by unfold dst;omega
  have hst:ah2 v i (plJ begin x) out=some (.next (out++[shJ v begin x])):=by
   unfold ah2 plJ
   simp only
   rw[I1 _ _ (by simp only[bu9,cJ8];omega),j4 (by omega) (by omega)]
   rfl
  simp only[cN4,N4,hst,aF2]
  rw[cL0 v begin hv W (i+1) _ (by simp only[bd4,bu9,cJ8];omega)]
  simp
theorem dG6 {s:c8}{r2:Int×Int}(he:aE5 s.A1)(hk:bC6 s.B5)(hw:aW5 s.A1 s.Next=true)(hn:s.Next.length<=1000000)(i x:Int)(hx:x∈s.A1.A7)(out:List B0)(ho:out.length<=10000):
  ah1 s r2 i x out=some (.next (out++ci8 s.A1 s.B5 s.Next r2.1 x)):=by
 have ha:cb5 s.B5.I0=true:=bt8.2 ⟨hk.an0,hk.an1⟩
 unfold ah1
 rw[dV8,fk8 he,fk8 hx]
 simp only[aX5,fk6,aF2,el0]
 rw[dl3 ha (dO9 ..),ep5 _ hn]
 simp only[aF2]
 unfold ci8
 cases hv:decide (dst s.B5.I0 (beg s.A1 x)>=s.B5.as3)
 ·have hd:0<=dst s.B5.I0 (beg s.A1 x)/\dst s.B5.I0 (beg s.A1 x)<=46080:=by unfold dst;omega
  rcases cm5 x (cz3 hw)with⟨a,b⟩|⟨k,f,a,b,d,e,g⟩
  ·rw[a,b]
   simp
  ·have hf:=bG4 hw f (db2 d)
   obtain⟨ok,p1,p2⟩:=ey9 (t:=r2.1) he hf (dO9 s.A1 x)
   have hwl:=cr5 (begin:=beg s.A1 x) (t:=r2.1) he hf
   rw[a,g]
   simp only[ec6,show decide (((k:Nat):Int)<0)=false from fk9 (by omega),fk6,U4,d,aF2]
   rw[p1]
   simp only[aF2,eD1,fk2,dq6]
   unfold dF9
   rw[e]
   cases ok
   ·rw[p2 rfl];simp
   ·simp only[aX5,fk6]
    rw[L0 _ (by rw[bY6];omega),cL0 _ _ hd _ _ _ (by omega)]
    rfl
 ·simp
theorem db3 {s:c8}{r2:Int×Int}(he:aE5 s.A1)(hk:bC6 s.B5)(hw:aW5 s.A1 s.Next=true)(hn:s.Next.length<=1000000):∀(l:List Int) (i:Int) (out:List B0),(∀x∈l,x∈s.A1.A7)->out.length+6*l.length<=10000->
  N4 (ah1 s r2) l i out=some (.inl (out++l.flatMap (ci8 s.A1 s.B5 s.Next r2.1)))
 |[],i,out,_,_=>by simp[N4]
 |x::l,i,out,h,ho=>by
  rw[bu9]at ho
  have hx:=h x (cq1 ..)
  have hal:(ci8 s.A1 s.B5 s.Next r2.1 x).length<=6:=by
   unfold ci8
   cases decide (dst s.B5.I0 (beg s.A1 x)>=s.B5.as3)
   ·rcases cm5 x (cz3 hw)with⟨a,b⟩|⟨k,f,a,b,d,e,g⟩
    ·rw[b];simp
    ·have hf:=bG4 hw f (db2 d)
     rw[g]
     simp only[fk6,eD1,fk2,dq6]
     unfold dF9
     rw[bY6]
     exact(cr5 he hf).1
   ·simp
  simp only[N4,dG6 he hk hw hn i x hx out (by omega),aF2]
  rw[db3 he hk hw hn l (i+1) _ (fun y hy=>h y (bE0 _ hy)) (by rw[bd4];omega)]
  rw[eD1,dE5]
theorem bC8 {s:c8}(he:aE5 s.A1)(hk:bC6 s.B5)(hv:s.B5.Y2=true)(hb:bN2 s.B5=true)(hw:aW5 s.A1 s.Next=true)(hn:s.Next.length<=1000000)(hj:s.H7.length<=1000):
  ai1 s=some ⟨s.A1,s.B5,s.j9,s.Next,s.H7++s.A1.A7.flatMap (ci8 s.A1 s.B5 s.Next (dV1 s.B5)),s.Cut⟩:=by
 have hn8:=he.2.1
 unfold ai1
 rw[eA7 hk hv hb]
 simp only[aF2]
 rw[L0 _ (by omega),db3 he hk hw hn _ 0 _ (fun _ h=>h) (by omega)]
 rfl
def ei7 {e:o5}{k:E8}{l:List A6}{t x:Int}(he:aE5 e)(hw:aW5 e l=true):(ci8 e k l t x).length<=6:=by
 unfold ci8
 cases decide (dst k.I0 (beg e x)>=k.as3)
 ·rcases cm5 x (cz3 hw)with⟨a,b⟩|⟨k,f,a,b,d,e,g⟩
  ·rw[b];simp
  ·have hf:=bG4 hw f (db2 d)
   rw[g]
   simp only[fk6,eD1,fk2,dq6]
   unfold dF9
   rw[bY6]
   exact(cr5 he hf).1
 ·simp
def aS6 (d:Int)(j:B0):B0:=⟨j.Event,G8 (-1048576) (j.Left-d),j.F4,j.At⟩
def cD2 (d:Int)(hd:0<=d/\d<=46080):∀(r p:List B0),(∀j∈r,-1048576<=j.Left/\j.Left<=1048576)->
  aX2 (ab2 d) r.length (p.length:Int) (p++r)=some (.inl (p++r.map (aS6 d)))
 |[],p,_=>rfl
 |j::r,p,h=>by
  have hj:=h j (cq1 ..)
  have hst:ab2 d (p.length:Int) (p++j::r)=some (.next (p++aS6 d j::r)):=by
   unfold ab2
   rw[dR2]
   simp only[aF2]
   rw[j4 (n:=j.Left-d) (by omega) (by omega),ex7]
   rfl
  simp only[bu9,aX2,hst,aF2]
  have:=cD2 d hd r (p++[aS6 d j]) (fun k hk=>h k (bE0 _ hk))
  rw[dE5,bd4]at this
  rw[show((p.length:Int)+1)=((p.length+[aS6 d j].length:Nat):Int) by simp]
  rw[show p++aS6 d j::r=p++([aS6 d j]++r)from rfl,this]
  simp
def cb3 {w:List B0}(hw:alt w false=true):∀{l:List B0}{lv:Bool},alt l lv=true->alt (l++w) lv=true
 |[],lv,h=>by
  have:lv=false:=by simpa[alt]using h
  subst this;exact hw
 |j::l,lv,h=>by
  simp only[alt,aK5]at h
  simp only[dy7,alt,aK5]
  exact⟨h.1,cb3 hw h.2⟩
def dL9 {w l:List B0}{x:j7}(hw:alt w false=true)(h:aK2 l x=true):aK2 (l++w) x=true:=by
 cases l with
 |nil=>
  simp only[aK2,aK5,bG5]at h
  cases w with
  |nil=>simp[aK2,h.1,h.2]
  |cons j r=>
   simp only[alt,aK5,bG5]at hw
   simp only[cZ2,aK2,h.1,h.2,hw.1.1,hw.1.2,hw.2]
   rfl
 |cons j r=>
  simp only[aK2,aK5]at h
  simp only[dy7,aK2,aK5]
  exact⟨h.1,cb3 hw h.2⟩
def dm8 (c:Nat)(v begin:Int):∀(F:List C0) (i:Nat),kpR c (F.map kp) i=true->(i+F.length)%2=0->alt (F.map (shJ v begin)) (i%2==1)=true
 |[],i,_,h=>by
  have:(i%2==1)=false:=beq_eq_false_iff_ne.2 (by simp at h;omega)
  rw[this];rfl
 |x::F,i,h,hp=>by
  simp only[cN4,kpR,aK5]at h
  simp only[bu9]at hp
  have ih:=dm8 c v begin F (i+1) h.2 (by omega)
  have e:(!(i%2==1))=((i+1)%2==1):=by
   rcases Nat.mod_two_eq_zero_or_one i with h2|h2
   ·rw[h2,show(i+1)%2=1 by omega];rfl
   ·rw[h2,show(i+1)%2=0 by omega];rfl
  have h1:=h.1.1
  simp only[cN4,alt]
  rw[e,ih]
  have e2:(i%2==0)= !(i%2==1):=by
   rcases Nat.mod_two_eq_zero_or_one i with h2|h2<;>rw[h2]<;>rfl
  rw[e2]at h1
  have hk:(kp x).1=x.Kind:=rfl
  rw[hk]at h1
  unfold shJ
  simp only
  revert h1
  cases onK x.Kind<;>cases(i%2==1)<;>simp
theorem eI5 (v begin:Int)(W:List C0)(c:Int):aq7 (W.map (shJ v begin)) c=(W.filter fun x=>chn x==c).map (shJ v begin):=by
 unfold aq7
 rw[fg7]
 rfl
theorem dI8 {W:List C0}{cyl c:Int}(h:∀x∈W,Ev.evP x/\x.p7=cyl)(h0:c≠2*(cyl-1))(h1:c≠2*(cyl-1)+1):(W.filter fun x=>chn x==c)=[]:=by
 rw[et4]
 intro x hx
 obtain⟨_,hc⟩:=h x hx
 unfold chn
 rw[hc]
 split<;>simp<;>omega
def ei4 {e:o5}{f:A6}{v t:Int}(he:aE5 e)(hf:bf4 e f)(c:Int):alt (aq7 (dF9 e v t f) c) false=true:=by
 unfold dF9 dE0
 cases h:(bg2 e [f] t).2 !=0
 ·have hp:=do5 he hf h
  have hop:=(cx0 (beg e f.p7) (bg2 e [f] t).1).trans hp
  simp only[fk6]
  cases ha:dF4 (beg e f.p7) (do0 (beg e f.p7) (bg2 e [f] t).1)
  ·rfl
  ·simp only[fk7]
   generalize hW:do0 (beg e f.p7) (bg2 e [f] t).1=W at ha hop
   have hE:∀x∈W,Ev.evP x/\x.p7=f.p7:=fun x hx=>dI6 (t:=t) he hf x (hop.mem_iff.1 hx)
   have hk:=eb0 hop
   have fl:=ep4 hE
   unfold dF4 at ha
   rw[eI0 hk.1,es3 (pul f) (bj8 f) hk.2]at ha
   simp only[aK5]at ha
   rw[eI5]
   by_cases h0:c=2*(f.p7-1)
   ·subst h0
    rw[fl.1]
    have l2:=hk.1.length_eq
    rw[bY6]at l2
    exact dm8 0 v _ _ 0 ha.1.2 (by rw[l2];rfl)
   ·by_cases h1:c=2*(f.p7-1)+1
    ·subst h1
     rw[fl.2]
     have l2:=hk.2.length_eq
     rw[bY6]at l2
     refine dm8 1 v _ _ 0 ha.2.2 ?_
     rw[l2]
     rcases bj8 f with h|h|h<;>(rw[h];rfl)
    ·rw[dI8 hE h0 h1];rfl
 ·rfl
def cP8 {α:Type}(g:α->List B0)(c:Int):∀(l:List α),(∀x∈l,alt (aq7 (g x) c) false=true)->alt (aq7 (l.flatMap g) c) false=true
 |[],_=>rfl
 |x::l,h=>by
  rw[eD1,aS1]
  exact cb3 (cP8 g c l fun y hy=>h y (bE0 _ hy)) (h x (cq1 ..))
def ei5 {e:o5}{k:E8}{l:List A6}{t x:Int}(he:aE5 e)(hw:aW5 e l=true)(c:Int):alt (aq7 (ci8 e k l t x) c) false=true:=by
 unfold ci8
 cases decide (dst k.I0 (beg e x)>=k.as3)
 ·exact cP8 _ c _ fun f hf=>ei4 he (bG4 hw f (dE3.1 hf).1) c
 ·rfl
def ei6 {e:o5}{k:E8}{l:List A6}{t x:Int}(he:aE5 e)(hw:aW5 e l=true):∀j∈ci8 e k l t x,aK9 e.A7.length j:=by
 intro j hj
 unfold ci8 at hj
 cases hv:decide (dst k.I0 (beg e x)>=k.as3)<;>rw[hv]at hj
 ·simp only[fk6,List.mem_flatMap]at hj
  obtain⟨f,hf,hj⟩:=hj
  have hff:=bG4 hw f (dE3.1 hf).1
  unfold dF9 at hj
  obtain⟨y,hy,rfl⟩:=cK0.1 hj
  obtain⟨h1,h2⟩:=(cr5 he hff).2 y hy
  have hc:=dQ4 he hff.1
  refine⟨by unfold shJ;simp only;rw[h2];exact hc,h1.2.1,h1.1,h1.2.2.2,?_,.inr rfl⟩
  unfold shJ dst;simp only;omega
 ·simp at hj
theorem db0 (d:Int):∀(l:List B0) (lv:Bool),alt (l.map (aS6 d)) lv=alt l lv
 |[],_=>rfl
 |j::l,lv=>by
  simp only[cN4,alt,db0 d l]
  rfl
theorem ee8 (d:Int)(l:List B0)(x:j7):aK2 (l.map (aS6 d)) x=aK2 l x:=by
 cases l with
 |nil=>rfl
 |cons j r=>simp only[cN4,aK2,db0 d r];rfl
theorem dY9 (d now:Int)(l:List B0):bv0 now (l.map (aS6 d))=bv0 now l:=by
 match l with
 |[]=>rfl
 |[j]=>rfl
 |i::j::r=>rfl
theorem cR7 (d:Int)(l:List B0)(c:Int):aq7 (l.map (aS6 d)) c=(aq7 l c).map (aS6 d):=by
 unfold aq7
 rw[fg7]
 rfl
def ea9 {n:Nat}{d:Int}{j:B0}(hd:0<=d/\d<=46080)(h:aK9 n j):aK9 n (aS6 d j):=by
 have hl:=h.left
 refine⟨h.cyl,h.kind,h.ej3,h.bS9,?_,h.at0⟩
 unfold aS6 G8
 simp only
 split<;>omega
def dM6 {n:Nat}{now d:Int}{ch:List j7}{l:List B0}(hd:0<=d/\d<=46080)(h:Rows n now (ch,l)):Rows n now (ch,l.map (aS6 d)):=by
 refine⟨h.len,h.ch,fun j hj=>?_,fun c hc=>?_⟩
 ·obtain⟨k,hk,rfl⟩:=cK0.1 hj
  exact ea9 hd (h.job k hk)
 ·have:=h.row c hc
  simp only at this|-
  rw[cR7,ee8];exact this
def ec3 {n:Nat}{now:Int}{ch:List j7}{l w:List B0}(h:Rows n now (ch,l))(hj:∀j∈w,aK9 n j)(hw:∀c,alt (aq7 w c) false=true):Rows n now (ch,l++w):=by
 refine⟨h.len,h.ch,fun j hj2=>?_,fun c hc=>?_⟩
 ·rcases du0.1 hj2 with h2|h2
  ·exact h.job j h2
  ·exact hj j h2
 ·have:=h.row c hc
  simp only at this|-
  rw[aS1]
  exact dL9 (hw _) this
def cr6:c8:=⟨(⟨([]:List Int),0⟩:o5),(⟨false,0,0,0,0,0⟩:E8),(⟨0,([]:List j7)⟩:A2),([]:List A6),([]:List B0),false⟩
def bh2 (s:c8)(c:E8)(l:List B0):List B0:=bif s.B5.Y2 then l.map (aS6 (dst s.B5.I0 c.I0))else l
def mk (s:c8)(c:E8)(l:List B0):c8:=⟨s.A1,c,s.j9,s.Next,l,s.Cut⟩
def bS5 (s:c8)(c:E8)(g:c8):List B0:=bh2 s c g.H7++g.A1.A7.flatMap (ci8 g.A1 c g.Next (dV1 c))
def dq0 (s:c8)(c:E8)(g:List j8×c8):c8×List j8×Int:=
 bif g.2.Cut then(mk g.2 c (bh2 s c g.2.H7),g.1,0)else bif decide (((bS5 s c g.2).length:Int)>200)then(cr6,[],5)else(bM7 (mk g.2 c (bS5 s c g.2)),g.1,0)
def aX3 (s:c8)(c:E8):c8×List j8×Int:=
 bif !cp6 s|| !bN2 c then(cr6,[],1)else bif !c.Y2 then(cr6,[],6)else bif decide (c.At<s.j9.V5)then(cr6,[],16)else dq0 s c (goE c.At s)
theorem eE8 {s:c8}(h:aN9 s)(hv:s.B5.Y2=true):cb5 s.B5.I0=true:=bt8.2 ⟨(dc5 h.clk hv).an0,(dc5 h.clk hv).an1⟩
def dd8 {e:o5}{k:E8}{next:List A6}{t:Int}(he:aE5 e)(hw:aW5 e next=true):∀l:List Int,(l.flatMap (ci8 e k next t)).length<=6*l.length
 |[]=>by simp
 |x::l=>by
  have:=dd8 (k:=k) (t:=t) he hw l
  have:=ei7 (k:=k) (t:=t) (x:=x) he hw
  rw[eD1,bd4,bu9];omega
theorem cn2 (s:c8)(c:E8)(l:List B0):(bh2 s c l).length=l.length:=by
 unfold bh2;cases s.B5.Y2<;>simp
structure br0 (s:c8)(c:E8)(g:List j8×c8):Prop where
 live:Live s.A1.A7.length g.2
 eng:g.2.A1=s.A1
 clk:g.2.B5=s.B5
 next:g.2.Next=s.Next
 cut:g.2.Cut=s.Cut
 now:g.2.j9.V5=c.At
 er5:g.2.H7.length<=200
def gone {s:c8}{c:E8}(h:aN9 s)(hc:bC6 c)(hle:s.j9.V5<=c.At):ac3 s c.At=some (goE c.At s)/\br0 s c (goE c.At s):=by
 obtain⟨h1,h2,h3,h4,h5,h6⟩:=cI5 (.of h) c.At hle hc.at1
 have:=h.most
 exact⟨h1,h2,h3.eng,h3.clk,h3.next,h3.cut,h4,by omega⟩
def df3 {s:c8}{c:E8}{g:List j8×c8}(h:br0 s c g):Rows s.A1.A7.length g.2.j9.V5 (g.2.j9.j2,bh2 s c g.2.H7):=by
 unfold bh2
 cases s.B5.Y2
 ·exact h.live.rows
 ·exact dM6 (by unfold dst;omega) h.live.rows
def en6 {s:c8}{c:E8}{g:List j8×c8}(h:br0 s c g)(hc:bC6 c)(hv:c.Y2=true)(aK8:g.2.Cut=true):Live s.A1.A7.length (mk g.2 c (bh2 s c g.2.H7)):=by
 refine⟨h.live.eng,h.live.n1,h.live.n8,df3 h,fun _ ch hch=>?_,h.live.cG1,h.live.dn8,.inr ⟨hv,hc⟩,?_⟩
 ·show bv0 g.2.j9.V5 (aq7 (bh2 s c g.2.H7) (ch:Int))=true
  have:=h.live.cut aK8 ch hch
  unfold bh2
  cases s.B5.Y2
  ·exact this
  ·simp only[fk7]
   rw[cR7,dY9];exact this
 ·show(bh2 s c g.2.H7).length<=1000
  rw[cn2];have:=h.er5;omega
def dy5 {s:c8}{c:E8}{g:List j8×c8}(h:br0 s c g)(hs:aN9 s)(hc:bC6 c)(hv:c.Y2=true)(aK8:g.2.Cut=false):Live s.A1.A7.length (mk g.2 c (bS5 s c g.2)):=by
 have he:aE5 g.2.A1:=by rw[h.eng];exact hs.eng
 have hw:aW5 g.2.A1 g.2.Next=true:=by rw[h.eng,h.next];exact hs.cH3
 have hn:g.2.A1.A7.length=s.A1.A7.length:=by rw[h.eng]
 have hn8:=he.2.1
 have h6:=dd8 (k:=c) (t:=dV1 c) he hw g.2.A1.A7
 have hl:=cn2 s c g.2.H7
 have hjb:=h.er5
 refine⟨h.live.eng,h.live.n1,h.live.n8,?_,fun hcc=>?_,h.live.cG1,h.live.dn8,.inr ⟨hv,hc⟩,?_⟩
 ·refine ec3 (df3 h) (fun j hj=>?_) fun ch=>cP8 _ ch _ fun x _=>ei5 he hw ch
  obtain⟨x,_,hx⟩:=List.mem_flatMap.1 hj
  rw[<-hn]
  exact ei6 he hw j hx
 ·have:g.2.Cut=true:=hcc
  rw[aK8]at this;cases this
 ·show(bS5 s c g.2).length<=1000
  unfold bS5
  rw[bd4];omega
def cU6 {s:c8}(h:Live s.A1.A7.length s)(he:aE5 s.A1)(hb:bN2 s.B5=true)(hv:s.B5.Y2=true)(hw:aW5 s.A1 s.Next=true)(hm:s.H7.length<=200):aN9 s:=by
 refine⟨he,hb,h.tim,h.len,hw,hm,fun h2=>absurd (hv.symm.trans h2) (by decide),h.rows.job,fun c hc=>?_⟩
 have h1:=h.rows.row c hc
 simp only at h1
 unfold bq7
 rw[h1]
 cases aK8:s.Cut
 ·rfl
 ·rw[h.cut aK8 c hc];rfl
def eB0 {s:c8}{c:E8}(h0:(aX3 s c).2.2=0):aN9 (aX3 s c).1:=by
 unfold aX3 at h0|-
 cases h1:!cp6 s|| !bN2 c<;>rw[h1]at h0
 ·simp only[fk6]at h0|-
  cases h2:!c.Y2<;>rw[h2]at h0
  ·simp only[fk6]at h0|-
   cases h3:decide (c.At<s.j9.V5)<;>rw[h3]at h0
   ·simp only[fk6]at h0|-
    simp only[cw7,dQ6]at h1
    have hv:c.Y2=true:=by simpa using h2
    have hs:=aY9.1 h1.1
    have hc:=dc5 h1.2 hv
    have hle:s.j9.V5<=c.At:=by simpa using h3
    obtain⟨_,hg⟩:=gone hs hc hle
    unfold dq0 at h0|-
    cases aK8:(goE c.At s).2.Cut<;>rw[aK8]at h0
    ·simp only[fk6]at h0|-
     cases h4:decide (((bS5 s c (goE c.At s).2).length:Int)>200)<;>rw[h4]at h0
     ·simp only[fk6]
      have hl:=ds8 (dy5 hg hs hc hv aK8)
      have ha:=cs4 (mk (goE c.At s).2 c (bS5 s c (goE c.At s).2))
      have e1:(bM7 (mk (goE c.At s).2 c (bS5 s c (goE c.At s).2))).A1=s.A1:=ha.eng.trans hg.eng
      have e2:(bM7 (mk (goE c.At s).2 c (bS5 s c (goE c.At s).2))).B5=c:=ha.clk
      have e3:(bM7 (mk (goE c.At s).2 c (bS5 s c (goE c.At s).2))).Next=s.Next:=ha.next.trans hg.next
      refine cU6 (by rw[e1];exact hl) (by rw[e1];exact hs.eng) (by rw[e2];exact h1.2) (by rw[e2];exact hv) (by rw[e1,e3];exact hs.cH3) ?_
      have hcf:(mk (goE c.At s).2 c (bS5 s c (goE c.At s).2)).Cut=false:=aK8
      unfold bM7
      rw[hcf]
      simp only[dE6,if_false]
      show(cb7 _ _ _ _).2.length<=200
      rw[bC7]
      have:(bS5 s c (goE c.At s).2).length<=200:=by
       have:=of_decide_eq_false h4;omega
      exact this
     ·simp at h0
    ·simp only[fk7]
     have hl:=en6 hg hc hv aK8
     refine cU6 (by show Live (goE c.At s).2.A1.A7.length _;rw[hg.eng];exact hl) (by show aE5 (goE c.At s).2.A1;rw[hg.eng];exact hs.eng) h1.2 hv (by show aW5 (goE c.At s).2.A1 (goE c.At s).2.Next=true;rw[hg.eng,hg.next];exact hs.cH3) ?_
     show(bh2 s c (goE c.At s).2.H7).length<=200
     rw[cn2];exact hg.er5
   ·simp at h0
  ·simp at h0
 ·simp at h0
theorem dN4 (s:c8)(c:E8)(hn:s.Next.length<=1000000)(hj:s.H7.length<=1000000):
  (ak4 (K1 s) fun v=>(bif (!v)then(some true)else(ak4 (aj7 c) fun v2=>some (!v2))))=some (!cp6 s|| !bN2 c):=by
 rw[bd0 s hn hj,dH6]
 cases cp6 s<;>rfl
theorem fd5 {α β γ:Type}(x:Option α)(f:α->Option β)(g:β->Option γ):(ak4 x fun v=>ak4 (f v) g)=ak4 (ak4 x f) g:=by cases x<;>rfl
theorem ef6 (s:c8)(c:E8)(hn:s.Next.length<=1000000)(hj:s.H7.length<=1000000):am5 s c=some (aX3 s c):=by
 unfold am5 aX3
 rw[fd5,dN4 s c hn hj]
 simp only[aF2]
 cases h1:!cp6 s|| !bN2 c
 ·simp only[fk6]
  cases h2:!c.Y2
  ·simp only[fk6]
   cases h3:decide (c.At<s.j9.V5)
   ·simp only[fk6]
    simp only[cw7,dQ6]at h1
    have hv:c.Y2=true:=by simpa using h2
    have hs:=aY9.1 h1.1
    have hc:=dc5 h1.2 hv
    have hle:s.j9.V5<=c.At:=by simpa using h3
    obtain⟨hgo,hg⟩:=gone hs hc hle
    rw[bE2 s hn hj]
    simp only[aF2]
    rw[hgo]
    simp only[aF2]
    unfold dq0
    generalize goE c.At s=g at hg
    have hcb:cb5 c.I0=true:=bt8.2 ⟨hc.an0,hc.an1⟩
    have hleft:(bif s.B5.Y2 then(ak4 (R6 s.B5.I0 c.I0) fun v4=>ak4 (L2 (g.2.H7.length:Int) (ab2 v4) g.2.H7) fun(t:(List B0)⊕Empty)=>match t with| .inl f3=>(some f3)| .inr r=>r.elim)else(some g.2.H7))=some (bh2 s c g.2.H7):=by
     unfold bh2
     cases hsv:s.B5.Y2
     ·rfl
     ·have hjb:=hg.er5
      have:=cD2 (dst s.B5.I0 c.I0) (by unfold dst;omega) g.2.H7 [] (fun j hj=>(hg.live.rows.job j hj).left)
      simp only[fk7]
      rw[dl3 (eE8 hs hsv) hcb]
      simp only[aF2]
      rw[am4 _ (by omega)]
      rw[show((([]:List B0).length:Nat):Int)=0 from rfl,cZ2,cZ2]at this
      rw[this]
      rfl
    erw [hleft]
    simp only[aF2]
    cases aK8:g.2.Cut
    ·simp only[cr8,fk7,fk6]
     have hl:=cn2 s c g.2.H7
     have hjb:=hg.er5
     have hb:=bC8 (s:=mk g.2 c (bh2 s c g.2.H7)) (by show aE5 g.2.A1;rw[hg.eng];exact hs.eng) hc hv h1.2 (by show aW5 g.2.A1 g.2.Next=true;rw[hg.eng,hg.next];exact hs.cH3) (by show g.2.Next.length<=1000000;rw[hg.next];exact hn) (by show(bh2 s c g.2.H7).length<=1000;omega)
     have hb':ai1 (⟨(⟨g.2.A1.A7,g.2.A1.as4⟩:o5),c,(⟨g.2.j9.V5,g.2.j9.j2⟩:A2),g.2.Next,bh2 s c g.2.H7,false⟩:c8)=some (mk g.2 c (bS5 s c g.2)):=by
      have e:(⟨(⟨g.2.A1.A7,g.2.A1.as4⟩:o5),c,(⟨g.2.j9.V5,g.2.j9.j2⟩:A2),g.2.Next,bh2 s c g.2.H7,false⟩:c8)=mk g.2 c (bh2 s c g.2.H7):=by unfold mk;rw[aK8]
      rw[e,hb];rfl
     rw[hb']
     simp only[aF2]
     have hll:=dy5 hg hs hc hv aK8
     have ha:=dU2 hll.rows (.inr hc) hll.cG1 hll.dn8 hll.n1 hll.n8 (by have:=hll.most;omega)
     show(bif decide (((bS5 s c g.2).length:Int)>200)then _ else _)=_
     cases decide (((bS5 s c g.2).length:Int)>200)
     ·simp only[fk6]
      rw[ha];rfl
     ·rfl
    ·simp only[aX5,fk7,fk6]
     unfold mk
     rw[aK8]
   ·rfl
  ·rfl
 ·rfl
def z0:j7:=⟨false,0,false,false⟩
def k0:E8:=⟨false,0,0,0,0,0⟩
def bN6 (e:o5):c8:=⟨e,k0,⟨0,cr7 (2*e.A7.length) z0⟩,[],[],false⟩
theorem dU5 (e:o5):ap2 e=some (bif decide (aE5 e)then(bN6 e,0)else(cr6,1)):=by
 unfold ap2
 rw[Ev.ao7]
 cases hd:decide (aE5 e)
 ·rfl
 ·have he:=of_decide_eq_true hd
  have h1:=he.1;have h2:=he.2.1
  simp only[aF2,aX5,fk6]
  rw[j4 (n:=2*(e.A7.length:Int)) (by omega) (by omega),show 2*(e.A7.length:Int)=((2*e.A7.length:Nat):Int) by omega,Tm.eX0 _ (by omega) (by omega)]
  simp only[aF2]
  unfold O4 bc1
  rw[I1 _ _ (by simp;omega)]
  rfl
def eC2 (s:c8)(l:List A6):c8:=⟨s.A1,s.B5,s.j9,l,s.H7,s.Cut⟩
theorem ez9 (s:c8)(l:List A6)(hn:s.Next.length<=1000000)(hj:s.H7.length<=1000000)(hl:l.length<=1000000):ar2 s l=some (bif cp6 s&&aW5 s.A1 l then(eC2 s l,0)else(cr6,1)):=by
 unfold ar2
 rw[bd0 s hn hj]
 cases hd:cp6 s
 ·rfl
 ·have hs:=aY9.1 hd
  simp only[aF2,aX5,fk6]
  rw[di5 _ _ hs.eng hl]
  cases aW5 s.A1 l
  ·rfl
  ·simp only[aF2,aX5,fk6]
   rw[bE2 s hn hj]
   simp only[aF2]
   unfold U6
   rw[I1 _ _ (by simp;omega)]
   rfl
def e1:o5:=⟨[1],0⟩
def f1:A6:=⟨1,640,2000,0,0,0,0⟩
def c1:E8:=⟨true,1000,5760,1000,384,384⟩
def c2:E8:=⟨true,2000,44544,1000,384,384⟩
def xa:C0:=⟨45440,2,1,0⟩
def xb:C0:=⟨44672,1,1,0⟩
def s1:c8:=eC2 (bN6 e1) [f1]
def g1:c8:=put s1 1000 (s1.j9.j2,[])
def s2:c8:=bM7 (mk g1 c1 [shJ 0 5760 xb,shJ 0 5760 xa])
def g2:c8:=put s2 2000 (s2.j9.j2,s2.H7)
def s3:c8:=bM7 (mk g2 c2 [aS6 38784 (shJ 0 5760 xb),aS6 38784 (shJ 0 5760 xa)])
def dn4 {e:o5}(h:aE5 e):aN9 (bN6 e):=by
 have h1:=h.1;have h2:=h.2.1
 have hl:Live e.A7.length (bN6 e):=by
  refine⟨rfl,h1,h2,⟨by simp[bN6],fun x hx=>?_,fun j hj=>by simp[bN6]at hj,fun c hc=>?_⟩,fun hc=>by simp[bN6]at hc,by simp[bN6],by simp[bN6],.inl ⟨rfl,rfl⟩,by simp[bN6]⟩
  ·have:x=z0:=by simp only[bN6]at hx;exact eZ9 hx
   subst this
   show Tm.chB 0 z0=true
   decide
  ·have:(bN6 e).j9.j2[c]=z0:=by simp only[bN6,fb3]
   simp only
   rw[this];rfl
 refine⟨h,rfl,hl.tim,hl.len,rfl,by simp[bN6],fun _=>rfl,hl.rows.job,fun c hc=>?_⟩
 have hr:=hl.rows.row c hc
 simp only at hr
 unfold bq7
 rw[hr];rfl
theorem dW6 (l:List j7)(hl:l.length<=1000000)(f:j7->Option Bool)(hf:∀x,f x=some x.L4):G7 l f=some (l.any fun x=>x.L4):=by
 unfold G7 R8 W3
 exact ai7 l (by omega) f (fun x=>x.L4) (fun y _=>hf y)
def eu2 (s:c8):c8:=⟨s.A1,s.B5,s.j9,s.Next,s.H7,false⟩
theorem dM8 (s:c8)(hn:s.Next.length<=1000000)(hj:s.H7.length<=1000000)(hc:s.j9.j2.length<=1000000):ad5 s=some (bif !cp6 s then(cr6,1)else bif !s.Cut||s.j9.j2.any fun x=>x.L4 then(cr6,6)else(eu2 s,0)):=by
 unfold ad5
 rw[bd0 s hn hj]
 cases cp6 s
 ·rfl
 ·simp only[aF2,aX5,fk6]
  cases aK8:s.Cut
  ·rfl
  ·rw[dW6 _ hc ah0 (fun _=>rfl)]
   simp only[aF2,aX5,fk6,ec6]
   cases s.j9.j2.any fun x=>x.L4
   ·simp only[fk6]
    rw[bE2 s hn hj]
    rfl
   ·rfl
def dP8 {n:Nat}{s:c8}(h:Live n s)(aK8:s.Cut=true){c:Nat}(hc:c<s.j9.j2.length):
  (aq7 s.H7 (c:Int)=[]/\s.j9.j2[c].L4=false/\s.j9.j2[c].F4=false)\/
  (∃j,aq7 s.H7 (c:Int)=[j]/\j.Event.Kind=2/\j.F4=true/\s.j9.j2[c].F4=true/\s.j9.j2[c].L4=true/\s.j9.j2[c].Next=false/\s.j9.j2[c].At=j.At/\j.At<=s.j9.V5+5000):=by
 have hr:=h.rows.row c hc
 have hk:=h.cut aK8 c hc
 simp only at hr
 match hm:aq7 s.H7 (c:Int)with
 |[]=>
  rw[hm]at hr
  simp only[aK2,aK5,bG5]at hr
  exact .inl ⟨rfl,hr.1,hr.2⟩
 |[j]=>
  rw[hm]at hr hk
  simp only[bv0,aK5,beq_iff_eq,fl2]at hk
  simp only[aK2,aK5,bG5,cH4,beq_iff_eq]at hr
  obtain⟨⟨⟨h1,h2⟩,h3⟩,_⟩:=hr
  obtain⟨⟨k1,k2⟩,k3⟩:=hk
  have hl:s.j9.j2[c].L4=true:=by
   have ho:onK j.Event.Kind=false:=by rw[k1];rfl
   rw[ho]at h1
   cases hx:s.j9.j2[c].L4
   ·rw[hx]at h1;simp at h1
   ·rfl
  have h3':j.At=s.j9.j2[c].At/\s.j9.j2[c].Next= !s.j9.j2[c].L4:=by
   rcases h3 with h3|h3
   ·rw[k2]at h3;cases h3
   ·exact h3
  exact .inr ⟨j,rfl,k1,k2,by rw[<-h2];exact k2,hl,by rw[h3'.2,hl];rfl,h3'.1.symm,k3⟩
 |i::j::r=>rw[hm]at hk;simp[bv0]at hk
structure dF1 (s:c8)(n i:Nat)(u:List j8×A2×List B0):Prop where
 now:u.2.1.V5=s.j9.V5
 len:u.2.1.j2.length=2*n
 off:∀w∈u.1,w.L4=false
 few:u.1.length<=i/\u.2.2.length<=i
 rest:∀c,i<=c->u.2.1.j2[c]? =s.j9.j2[c]?
 ch:∀x∈u.2.1.j2,Tm.chB s.j9.V5 x=true
 job:∀j∈u.2.2,aK9 n j/\chn j.Event<(i:Int)
 row:∀c x,c<i->u.2.1.j2[c]? =some x->aK2 (aq7 u.2.2 (c:Int)) x=true/\bv0 s.j9.V5 (aq7 u.2.2 (c:Int))=true/\(c%2=1->x.L4=false)
theorem dD5 {s:c8}{n i:Nat}{u:List j8×A2×List B0}(hs:Live n s)(h:dF1 s n i u):Tm.ae6 u.2.1=true:=by
 have h1:=hs.n1;have h2:=hs.n8;have h3:=hs.cG1;have h4:=hs.dn8
 have hl:=h.len
 have hn:=h.now
 have:=cJ5 (n:=n) (now:=s.j9.V5) (u:=(u.2.1.j2,([]:List B0)))
 unfold Tm.ae6
 rw[aK5,bt1]
 have ht:=hs.tim
 unfold Tm.ae6 at ht
 rw[aK5]at ht
 refine⟨?_,fun x hx=>by rw[hn];exact h.ch x hx⟩
 have e:Tm.bf7 u.2.1=Tm.bf7 s.j9:=by
  unfold Tm.bf7
  rw[hn,hl,<-hs.len]
 rw[e];exact ht.1
def dp3 {s:c8}{n i:Nat}{u:List j8×A2×List B0}(h:dF1 s n i u)(hi:i<2*n)(out:List j8)(y:j7)(more:List B0)
  (ho:∀w∈out,w.L4=false) (ho1:out.length<=1) (hm1:more.length<=1) (hy:Tm.chB s.j9.V5 y=true) (hj:∀j∈more,aK9 n j/\chn j.Event=(i:Int)) (hr:aK2 more y=true/\bv0 s.j9.V5 more=true/\(i%2=1->y.L4=false)):
  dF1 s n (i+1) (u.1++out,⟨s.j9.V5,u.2.1.j2.set i y⟩,u.2.2++more):=by
 have hf:=h.few
 have hl:=h.len
 have hni:∀c:Nat,c<i->aq7 more (c:Int)=[]:=fun c hc=>bw3 fun j hj2=>by have:=(hj j hj2).2;omega
 have hmi:aq7 u.2.2 (i:Int)=[]:=bw3 fun j hj2=>by have:=(h.job j hj2).2;omega
 have hmm:aq7 more (i:Int)=more:=by
  unfold aq7
  rw[List.filter_eq_self]
  intro j hj2
  simp[(hj j hj2).2]
 refine⟨rfl,by simp[hl],fun w hw=>?_,?_,fun c hc=>?_,fun x hx=>?_,fun j hj2=>?_,fun c x hc hx=>?_⟩
 ·rcases du0.1 hw with h2|h2
  ·exact h.off w h2
  ·exact ho w h2
 ·simp only[bd4];omega
 ·simp only
  rw[fb8 (by omega)]
  exact h.rest c (by omega)
 ·simp only at hx
  rcases fe9 hx with h2|h2
  ·exact h.ch x h2
  ·rw[h2];exact hy
 ·rcases du0.1 hj2 with h2|h2
  ·have:=h.job j h2;exact⟨this.1,by omega⟩
  ·have:=hj j h2;exact⟨this.1,by omega⟩
 ·simp only at hx|-
  rw[aS1]
  by_cases hci:c=i
  ·subst hci
   rw[List.getElem?_set_self (by omega)]at hx
   have:y=x:=ca0 hx
   subst this
   rw[hmi,hmm];exact hr
  ·rw[fb8 (by omega)]at hx
   rw[hni c (by omega),dq6]
   exact h.row c x (by omega) hx
def dl0 (now:Int)(l:Bool):Tm.chB now ⟨false,0,false,l⟩=true:=by
 unfold Tm.chB;rfl
def en8 {s:c8}{n:Nat}(hs:Live n s)(hm:s.H7.length<=1000)(i:Nat)(hi:i<2*n)(u:List j8×A2×List B0)(h:dF1 s n i u):∃u',ad4 s (i:Int) u=some (.next u')/\dF1 s n (i+1) u':=by
 have hl:=hs.len
 have hn8:=hs.n8
 have h0:=hs.cG1
 have h1:=hs.dn8
 have hi2:i<s.j9.j2.length:=by omega
 have hi3:i<u.2.1.j2.length:=by rw[h.len];exact hi
 have htb:=dD5 hs h
 have hxe:u.2.1.j2[i]=s.j9.j2[i]:=by
  have:=h.rest i (bO2 _)
  rw[aX4 hi2,aX4 hi3]at this
  exact ca0 this
 have hf:=h.few
 have aQ8:=hs.rows.row i hi2
 simp only at aQ8
 have hmd:((i:Int).tmod 2==0)=(i%2==0):=by
  rw[cX1 (by omega),dq3,beq_iff_eq,beq_iff_eq];omega
 have bF4:=h.now
 unfold ad4
 rw[D1 _ _ hi2]
 simp only[aF2,hmd]
 generalize hx:s.j9.j2[i]=x at aQ8 hxe
 have hcond:(bif x.L4 then(some ((!(i%2==0))||(s.j9.V5==1099511627776)))else(some false))=some (x.L4&&((!(i%2==0))||(s.j9.V5==1099511627776))):=by cases x.L4<;>rfl
 rw[hcond]
 simp only[aF2]
 cases hb:x.L4&&((!(i%2==0))||(s.j9.V5==1099511627776))
 ·simp only[fk6]
  rw[Tm.dc9 u.2.1 (i:Int) i rfl hi3 htb]
  simp only[aF2]
  rw[hxe,bF4]
  cases hlv:x.L4
  ·simp only[cr8,fk7]
   refine⟨_,rfl,?_⟩
   have:=dp3 h hi [] ⟨false,0,false,false⟩ [] (by simp) (by simp) (by simp) (dl0 _ _) (by simp) ⟨rfl,rfl,fun _=>rfl⟩
   rw[dq6,dq6]at this
   exact this
  ·simp only[aX5,fk6]
   rw[hlv,cA6,cw7]at hb
   have hev:i%2=0:=by simpa using hb.1
   have hnm:s.j9.V5≠1099511627776:=by simpa using hb.2
   cases hsp:split (i:Int) s.H7 with
   |none=>
    rw[ec1 hsp]at aQ8
    simp[aK2,hlv]at aQ8
   |some t=>
    obtain⟨a,j,b⟩:=t
    obtain⟨ej,ec,_⟩:=bk5 hsp
    have hjo:=hs.rows.job j (by rw[ej];simp)
    rw[cR8 hsp]at aQ8
    simp only[aK2,aK5,bG5,cH4,beq_iff_eq]at aQ8
    obtain⟨⟨⟨r1,r2⟩,r3⟩,_⟩:=aQ8
    have hk2:j.Event.Kind=2:=by
     have hk:=hjo.kind
     have hce:=du1 hjo
     rw[ec,cX1 (by omega)]at hce
     have hno:¬(j.Event.Kind=3\/j.Event.Kind=4):=by
      intro h3;rw[if_pos h3]at hce;omega
     rw[hlv]at r1
     have:onK j.Event.Kind=false:=by
      cases ho:onK j.Event.Kind
      ·rfl
      ·rw[ho]at r1;simp at r1
     unfold onK at this
     simp only[cw7,beq_eq_false_iff_ne]at this
     omega
    have hfi:C6 s.H7 (fun x0=>at3 x0 (i:Int))=some (cv7 (i:Int) s.H7):=bS3 (i:Int) n hn8 s.H7 (by omega) (fun y hy=>hs.rows.job y hy)
    rw[hfi]
    have hfv:cv7 (i:Int) s.H7=(a.length:Int):=by unfold cv7;rw[hsp]
    have hgm:E0 s.H7 (a.length:Int)=some j:=by rw[ej];exact dR3 a b j
    rw[hfv]
    simp only[aF2]
    rw[hgm]
    simp only[aF2]
    rw[j4 (n:=s.j9.V5+5000) (by omega) (by omega)]
    have hxa:j.F4=true->s.j9.V5<j.At/\j.At<=1099511627776:=by
     intro hja
     have hxm:x∈s.j9.j2:=by rw[<-hx];exact bf3 hi2
     have:=Tm.dc1 (hs.rows.ch x hxm) (by rw[<-r2];exact hja)
     rcases r3 with r3|r3
     ·rw[hja]at r3;cases r3
     ·rw[r3.1];exact this
    obtain⟨at2,hat,ha1,ha2,ha3⟩:∃at2,(bif ((!j.F4)||(decide (j.At>s.j9.V5+5000)))then(some (F7 (s.j9.V5+5000) 1099511627776))else(some j.At))=some at2/\s.j9.V5<at2/\at2<=1099511627776/\at2<=s.j9.V5+5000:=by
     cases hc:(!j.F4)||(decide (j.At>s.j9.V5+5000))
     ·rw[cw7]at hc
      have hja:j.F4=true:=by simpa using hc.1
      have:=hxa hja
      have h5:¬j.At>s.j9.V5+5000:=of_decide_eq_false hc.2
      exact⟨j.At,rfl,by omega,by omega,by omega⟩
     ·refine⟨_,rfl,?_,?_,?_⟩<;>unfold F7<;>split<;>omega
    rw[hat]
    simp only[aF2]
    have htb2:Tm.ae6 ⟨s.j9.V5,u.2.1.j2.set i ⟨false,0,false,true⟩⟩=true:=by
     unfold Tm.ae6 at htb|-
     simp only[aK5,bt1]at htb|-
     refine⟨?_,fun y hy=>?_⟩
     ·have e:Tm.bf7 ⟨s.j9.V5,u.2.1.j2.set i ⟨false,0,false,true⟩⟩=Tm.bf7 u.2.1:=by
       unfold Tm.bf7
       simp only[eh3,bF4]
      rw[e];exact htb.1
     ·rcases fe9 hy with h2|h2
      ·exact h.ch y h2
      ·rw[h2];exact dl0 _ _
    rw[Tm.ek1 _ (i:Int) at2 false i rfl (by simpa using hi3) htb2]
    have d1:decide (at2<=s.j9.V5)=false:=fk9 (by omega)
    have d2:decide (at2>Tm.cJ9)=false:=by unfold Tm.cJ9;exact fk9 (by omega)
    simp only[d1,d2,fk6,aF2]
    rw[I1 _ _ (by simp only[bu9,cJ8];omega)]
    simp only[aF2,dy0,dQ9]
    refine⟨_,rfl,?_⟩
    have:=dp3 h hi [] ⟨true,at2,false,true⟩ [⟨j.Event,j.Left,true,at2⟩] (by simp) (by simp) (by simp) (dP3 ha1 ha2)
     (fun k hk=>by
      have:k=⟨j.Event,j.Left,true,at2⟩:=by simpa using hk
      subst this
      exact⟨⟨hjo.cyl,hjo.kind,hjo.ej3,hjo.bS9,hjo.left,.inl rfl⟩,ec⟩)
     ⟨by simp[aK2,hlv,hk2,alt,onK],by simp[bv0,hk2,ha3],fun h3=>by omega⟩
    rw[dq6]at this
    exact this
 ·simp only[fk7]
  rw[aK5]at hb
  rw[Tm.force_eq u.2.1 (i:Int) false i rfl hi3 htb]
  simp only[aF2]
  rw[I1 _ _ (by cases(u.2.1.j2[i].L4==false)<;>simp<;>omega)]
  simp only[aF2]
  refine⟨_,rfl,?_⟩
  rw[bF4]
  have:=dp3 h hi (bif u.2.1.j2[i].L4==false then []else [⟨s.j9.V5,(i:Int),false⟩]) ⟨false,0,false,false⟩ [] (fun w hw=>by
   cases hc:u.2.1.j2[i].L4==false<;>rw[hc]at hw
   ·have:w=⟨s.j9.V5,(i:Int),false⟩:=by simpa using hw
    rw[this]
   ·simp at hw) (by cases u.2.1.j2[i].L4==false<;>simp) (by simp) (dl0 _ _) (by simp) ⟨rfl,rfl,fun _=>rfl⟩
  rw[dq6]at this
  exact this
def en7 {s:c8}{n i:Nat}{u u':List j8×A2×List B0}(hs:Live n s)(hj:s.H7=[])(h:dF1 s n i u)(hu:u.2.2=[])(hi:i<2*n)(e:ad4 s (i:Int) u=some (.next u')):∀j,j∉u'.2.2:=by
 have hi2:i<s.j9.j2.length:=by have:=hs.len;omega
 have hi3:i<u.2.1.j2.length:=by rw[h.len];exact hi
 have aQ8:=hs.rows.row i hi2
 simp only at aQ8
 rw[hj]at aQ8
 have hlv:s.j9.j2[i].L4=false:=by
  simp only[aq7,eS3,aK2,aK5,bG5]at aQ8
  exact aQ8.1
 unfold ad4 at e
 rw[D1 _ _ hi2]at e
 simp only[aF2,hlv,fk6]at e
 rw[Tm.dc9 u.2.1 (i:Int) i rfl hi3 (dD5 hs h)]at e
 simp only[aF2,cr8,fk7,aI6,Fl.next.injEq]at e
 subst e
 simp[hu]
structure eN0 (s t:c8)(out:List j8):Prop where
 ok:aN9 t
 cut:t.Cut=true
 now:t.j9.V5=s.j9.V5
 off:∀w∈out,w.L4=false
 few:out.length<=100
 odd:∀c x,t.j9.j2[c]? =some x->c%2=1->x.L4=false
 ft3:∀x∈t.j9.j2,x.F4=true->x.At<=s.j9.V5+5000
 next:t.Next=s.Next
 eng:t.A1=s.A1
def eL3 {n:Nat}{t:c8}(h:Live n t)(aK8:t.Cut=true):∀x∈t.j9.j2,x.F4=true->x.At<=t.j9.V5+5000:=by
 intro x hx ha
 obtain⟨c,hc,rfl⟩:=cW9.1 hx
 rcases dP8 h aK8 hc with⟨_,_,b⟩|⟨j,_,_,_,_,_,_,e,f⟩
 ·rw[ha]at b;cases b
 ·omega
def eX2 {n:Nat}{t:c8}(h:Live n t)(aK8:t.Cut=true):∀c x,t.j9.j2[c]? =some x->c%2=1->x.L4=false:=by
 intro c x hx ho
 obtain⟨hc,rfl⟩:=bG6.1 hx
 rcases dP8 h aK8 hc with⟨_,a,_⟩|⟨j,a,b,_⟩
 ·exact a
 ·exfalso
  have hm:j∈aq7 t.H7 (c:Int):=by rw[a];simp
  obtain⟨hj,hce⟩:=ec0 h.rows.job hm
  have:=du1 hj
  rw[hce,cX1 (by omega),if_neg (by omega)]at this
  omega
def du8 {s t:c8}{out:List j8}(hs:aN9 s)(h:Live s.A1.A7.length t)(aK8:t.Cut=true)(he:t.A1=s.A1)(hk:t.B5=s.B5)(hnx:t.Next=s.Next)(bF4:t.j9.V5=s.j9.V5)(dm5:∀w∈out,w.L4=false)(hfew:out.length<=100)(hm:t.H7.length<=200)(hnone:s.B5.Y2=false->t.H7=[]):eN0 s t out:=by
 refine⟨⟨by rw[he];exact hs.eng,by rw[hk];exact hs.clk,h.tim,by rw[he];exact h.len,by rw[he,hnx];exact hs.cH3,hm,fun h2=>hnone (by rw[<-hk];exact h2),by rw[he];exact h.rows.job,fun c hc=>?_⟩,aK8,bF4,dm5,hfew,eX2 h aK8,by rw[<-bF4];exact eL3 h aK8,hnx,he⟩
 have hr:=h.rows.row c hc
 simp only at hr
 unfold bq7
 rw[hr,h.cut aK8 c hc]
 simp
def eL0 {s:c8}(hs:aN9 s)(hn:s.Next.length<=1000000):∃t out,ap1 s=some (t,out,0)/\eN0 s t out:=by
 have hl:=Live.of hs
 have hm:=hs.most
 have hlen:=hl.len
 have hn8:=hl.n8
 have h0:=hl.cG1
 have h1:=hl.dn8
 unfold ap1
 rw[bd0 s hn (by omega),aY9.2 hs]
 simp only[aF2,aX5,fk6]
 rw[bE2 s hn (by omega)]
 simp only[aF2]
 cases aK8:s.Cut
 ·simp only[fk6]
  obtain⟨u,e,hu⟩:=ag9 s.j9.j2.length (by omega) (ad4 s) (fun i u=>dF1 s s.A1.A7.length i u/\(s.H7=[]->u.2.2=[])) ([],s.j9,[])
   ⟨⟨rfl,hlen,by simp,by simp,fun _ _=>rfl,hl.rows.ch,by simp,fun c x hc=>by omega⟩,fun _=>rfl⟩
   (fun i hi u hu=>by
    obtain⟨u',e1,e2⟩:=en8 hl (by omega) i (by omega) u hu.1
    refine⟨u',e1,e2,fun hj=>?_⟩
    apply List.eq_nil_iff_forall_not_mem.2
    intro j hj2
    exact en7 hl hj hu.1 (hu.2 hj) (by omega) e1 j hj2)
  rw[e]
  refine⟨_,_,rfl,?_⟩
  have hf:=hu.1.few
  have bF4:=hu.1.now
  have hlu:=hu.1.len
  have hlv:Live s.A1.A7.length ⟨s.A1,s.B5,u.2.1,s.Next,u.2.2,true⟩:=by
   refine⟨rfl,hl.n1,hl.n8,⟨hlu,fun x hx=>by show Tm.chB u.2.1.V5 x=true;rw[bF4];exact hu.1.ch x hx,fun j hj=>(hu.1.job j hj).1,fun c hc=>?_⟩,fun _ c hc=>?_,by show 0<=u.2.1.V5;omega,by show u.2.1.V5<=_;omega,?_,by show u.2.2.length<=1000;omega⟩
   ·have hc2:c<u.2.1.j2.length:=hc
    exact(hu.1.row c _ (by omega) (aX4 hc2)).1
   ·have hc2:c<u.2.1.j2.length:=hc
    show bv0 u.2.1.V5 _=true
    rw[bF4]
    exact(hu.1.row c _ (by omega) (aX4 hc2)).2.1
   ·rcases hl.clk with⟨a,b⟩|a
    ·exact .inl ⟨a,hu.2 b⟩
    ·exact .inr a
  exact du8 hs hlv rfl rfl rfl rfl bF4 hu.1.off (by omega) (by show u.2.2.length<=200;omega) (fun hv=>hu.2 (hs.none hv))
 ·simp only[fk7]
  refine⟨s,[],?_,du8 hs hl aK8 rfl rfl rfl rfl (by simp) (by simp) hm hs.none⟩
  cases s;rfl
def eJ2 {s:c8}(h:aN9 s):aN9 (eu2 s):=
 ⟨h.eng,h.clk,h.tim,h.chs,h.cH3,h.most,h.none,h.job,fun c hc=>by
  have:=h.line c hc
  unfold bq7 at this|-
  simp only[aK5]at this|-
  refine⟨this.1,?_⟩
  simp[eu2]⟩
def eM8 {s:c8}(h:aN9 s){l:List A6}(hl:aW5 s.A1 l=true):aN9 (eC2 s l):=
 ⟨h.eng,h.clk,h.tim,h.chs,hl,h.most,h.none,h.job,fun c hc=>h.line c hc⟩
end Go.Pv.Sc
namespace Go.Proofs.YtjhedhnghldjbaaGreatDoor.Ec
open Go Go.Pv Go.Pv.Ec Go.Proofs
structure Sch (s t:c8):Prop where
 ok:Sc.aN9 t
 few:t.Next.length<=8
 eng:t.A1=s.A1
 now:t.j9.V5=s.j9.V5
theorem fg6 (o:ao8):(bR2 o).m=some o:=rfl
theorem eW3 (n:ao8)(e:Int)(o:ao8):(bi8 n e o).m=some (bif e !=0 then o else n):=by
 simp only[bi8,C.of,M.run]
 cases e !=0<;>rfl
def eC3 {s:c8}(h:Sch s s)(l:List A6)(hl:l.length<=8):∃t e,(ar2 s l).m=some (t,e)/\Sch s (bif e !=0 then s else t):=by
 have hm:=h.ok.most
 rw[ck8,Sc.ez9 s l (by have:=h.few;omega) (by omega) (by omega),Sc.aY9.2 h.ok]
 cases hw:Sc.aW5 s.A1 l
 ·exact⟨_,_,rfl,h⟩
 ·exact⟨_,_,rfl,Sc.eM8 h.ok hw,hl,rfl,rfl⟩
def dL8 {s:c8}(h:Sch s s):∃t e,(ad5 s).m=some (t,e)/\Sch s (bif e !=0 then s else t):=by
 have hm:=h.ok.most
 have hc:=h.ok.chs
 have he:=h.ok.eng.2.1
 rw[bX8,Sc.dM8 s (by have:=h.few;omega) (by omega) (by omega),Sc.aY9.2 h.ok]
 simp only[aX5,fk6]
 cases(!s.Cut||s.j9.j2.any fun x=>x.L4)
 ·exact⟨_,_,rfl,Sc.eJ2 h.ok,h.few,rfl,rfl⟩
 ·exact⟨_,_,rfl,h⟩
def dP9 {s:c8}(h:Sch s s):∃t l,(ap1 s).m=some (t,l,0)/\Sch s t/\l.length<=100:=by
 obtain⟨t,l,e,k⟩:=Sc.eL0 h.ok (by have:=h.few;omega)
 rw[cu1]
 exact⟨t,l,e,⟨k.ok,by rw[k.next];exact h.few,k.eng,k.now⟩,k.few⟩
end Go.Proofs.YtjhedhnghldjbaaGreatDoor.Ec
namespace Go.Pv.Sc
open Go Go.Pv Go.Pv.Ev
theorem dU1 {s:c8}(hs:aN9 s)(hn:s.Next.length<=1000000)(to:Int)(h1:s.j9.V5<=to)(h2:to<=1099511627776):U0 s to=some ((goE to s).2,(goE to s).1,0):=by
 have hm:=hs.most
 unfold U0
 rw[bd0 s hn (by omega),aY9.2 hs]
 simp only[aF2,aX5,fk6]
 rw[fk9 (show¬to<s.j9.V5 by omega),fk9 (show¬to>1099511627776 by omega)]
 simp only[fk6]
 rw[bE2 s hn (by omega)]
 simp only[aF2]
 rw[(cI5 (.of hs) to h1 h2).1]
 rfl
def cb0 {s:c8}(hs:aN9 s)(to:Int)(h1:s.j9.V5<=to)(h2:to<=1099511627776):aN9 (goE to s).2/\(goE to s).2.A1=s.A1/\(goE to s).2.Next=s.Next/\(goE to s).2.j9.V5=to:=by
 obtain⟨_,hl,ha,bF4,hj,_⟩:=cI5 (.of hs) to h1 h2
 refine⟨⟨by rw[ha.eng];exact hs.eng,by rw[ha.clk];exact hs.clk,hl.tim,by rw[ha.eng];exact hl.len,by rw[ha.eng,ha.next];exact hs.cH3,by have:=hs.most;omega,fun hv=>?_,by rw[ha.eng];exact hl.rows.job,fun c hc=>?_⟩,ha.eng,ha.next,bF4⟩
 ·rw[ha.clk]at hv
  have:=hs.none hv
  rw[this]at hj
  exact List.length_eq_zero_iff.1 (by simpa using hj)
 ·have hr:=hl.rows.row c hc
  simp only at hr
  unfold bq7
  rw[hr]
  cases aK8:(goE to s).2.Cut
  ·simp
  ·rw[hl.cut aK8 c hc];simp
def dm0 {s:c8}(hs:aN9 s)(to:Int)(h1:s.j9.V5<=to):(goE to s).1.length<=3200:=by
 have hm:=hs.most
 obtain⟨_,_,_,_,_,_,r7,_⟩:=eq8 to s.H7.length s [] (.of hs) (bO2 _) (by simp;omega) h1
 have:(goE to s).1=(goV to s.H7.length ([],s)).1:=rfl
 rw[this]
 simp only[cJ8]at r7
 omega
end Go.Pv.Sc
namespace Go.Proofs.YtjhedhnghldjbaaGreatDoor.Ec
open Go Go.Pv Go.Pv.Ec Go.Proofs
structure br0 (T:Int)(s t:c8):Prop where
 ok:Sc.aN9 t
 few:t.Next.length<=8
 eng:t.A1=s.A1
 low:s.j9.V5<=t.j9.V5
 now:t.j9.V5<=T
def eD9 {T:Int}{s:c8}(h:br0 T s s)(to:Int)(hT:to<=T):∃t l e,(U0 s to).m=some (t,l,e)/\l.length<=3200/\br0 T s (bif e !=0 then s else t):=by
 have hm:=h.ok.most
 have hf:=h.few
 rw[bm7]
 by_cases h1:to<s.j9.V5
 ·unfold Pv.U0
  rw[Sc.bd0 s (by omega) (by omega),Sc.aY9.2 h.ok]
  simp only[aF2,aX5,fk6]
  rw[fk8 h1]
  exact⟨_,_,_,rfl,by simp,h⟩
 ·by_cases h2:to>1099511627776
  ·unfold Pv.U0
   rw[Sc.bd0 s (by omega) (by omega),Sc.aY9.2 h.ok]
   simp only[aF2,aX5,fk6]
   rw[fk9 h1,fk8 h2]
   exact⟨_,_,_,rfl,by simp,h⟩
  ·rw[Sc.dU1 h.ok (by omega) to (by omega) (by omega)]
   obtain⟨k1,k2,k3,k4⟩:=Sc.cb0 h.ok to (by omega) (by omega)
   exact⟨_,_,_,rfl,Sc.dm0 h.ok to (by omega),⟨k1,by show(Sc.goE to s).2.Next.length<=8;rw[k3];exact hf,k2,by show s.j9.V5<=(Sc.goE to s).2.j9.V5;omega,by show(Sc.goE to s).2.j9.V5<=T;omega⟩⟩
def dC5 {T:Int}{s:j6}(h:br0 T s.u.j3 s.u.j3)(a:Int)(hT:a<=T)(hl:s.A3.length<=1000000000):
  ∃c w,(aY4 s a).m=some {s with u:={s.u with j3:=c},A3:=w}/\br0 T s.u.j3 c/\w.length<=s.A3.length+3300:=by
 obtain⟨t,l,e,e1,h1,h2⟩:=eD9 h a hT
 simp only[aY4,CG.of,M.run,e1,aF2]
 rw[bU6 s t l e (by omega)]
 simp only[aF2]
 have hw:(bif e !=0 then s.A3 else s.A3++l).length<=s.A3.length+3200:=by
  cases e !=0
  ·simp only[fk6,bd4];omega
  ·simp only[fk7];omega
 generalize(bif e !=0 then s.u.j3 else t)=c at h2|-
 generalize(bif e !=0 then s.A3 else s.A3++l)=w at hw|-
 obtain⟨t2,l2,e2,k,h3⟩:=dP9 (s:=c) ⟨h2.ok,h2.few,rfl,rfl⟩
 rw[e2]
 simp only[aF2]
 rw[bU6 _ t2 l2 0 (by simp only;omega)]
 exact⟨t2,w++l2,rfl,⟨k.ok,k.few,k.eng.trans h2.eng,by have:=k.now;have:=h2.low;omega,by have:=k.now;have:=h2.now;omega⟩,by rw[bd4];omega⟩
theorem eu8:(cx3).m=some ⟨false,0,0,false⟩:=rfl
def cQ3 {T:Int}{s:j6}(h:br0 T s.u.j3 s.u.j3)(hp:phB s.u.M9=true)(n:ab5)(a:Int)(hT:a<=T)(hl:s.A3.length<=1000000000):
  ∃c p w,(ba3 s n a).m=some {s with u:={s.u with j3:=c,Q8:=n,M9:=p},A3:=w}/\
   br0 T s.u.j3 c/\phB p=true/\w.length<=s.A3.length+3300:=by
 simp only[ba3,CG.of,M.run,eu8,aF2]
 cases((s.u.Q8.Mode !=0)&&(n.Mode==0))
 ·exact⟨_,_,_,rfl,h,hp,by omega⟩
 ·simp only[fk7]
  obtain⟨c,w,e,h1,h2⟩:=dC5 (s:={s with u:={s.u with Q8:=n,M9:=⟨false,0,0,false⟩}}) h a hT hl
  rw[e]
  exact⟨c,_,w,rfl,h1,rfl,h2⟩
theorem ej2 (t:Int):(av6 t).m=some (decide (t>=0)&&decide (t<=1099511627776)):=rfl
def eC1 (n:Int):∃a e,(bV0 w0 n).m=some (a,e):=by
 simp only[bV0,C.of,M.run,bX4,bG3,cz1,aF2,aX5,fk6,bg]
 cases(bif decide (n<0)then true else decide (n>=58))<;>exact⟨_,_,rfl⟩
def dW5 (t n h p:Int)(hp:0<=p/\p<=1099511627776):∃c e,(bO6 w0 t n h p).m=some (c,e)/\(c.At=t\/c.At=0):=by
 obtain⟨a,e,e1⟩:=eC1 n
 have q:bo5 .i64 p (j5 (w0.aQ0+1))=some (p/3):=ev4 (b:=3) hp.1 (by omega) (by omega)
 simp only[bO6,C.of,M.run,L1.m,bX4,bG3,cz1,e1,ej2,q,aF2,aX5,fk6,bg]
 generalize(bif e !=0 then true else !(decide (t>=0)&&decide (t<=1099511627776)))=c1
 generalize(c1||decide (h<0)||decide (h>1)||decide (p<j5 (2+1))||decide (p>1073741824))=c2
 cases c2
 ·simp only[fk6]
  cases n==0<;>cases n==j5 (58-1)<;>exact⟨_,_,rfl,.inl rfl⟩
 ·exact⟨_,_,rfl,.inr rfl⟩
end Go.Proofs.YtjhedhnghldjbaaGreatDoor.Ec
namespace Go.Pv.Sc
open Go Go.Pv Go.Pv.Ev
def dD6 {s:c8}(hs:aN9 s)(c:E8):(aX3 s c).2.1.length<=3200/\((aX3 s c).2.2=0->(aX3 s c).1.A1=s.A1/\(aX3 s c).1.Next=s.Next/\(aX3 s c).1.j9.V5=c.At/\s.j9.V5<=c.At):=by
 unfold aX3
 cases h1:(!cp6 s|| !bN2 c)
 ·cases h2:!c.Y2
  ·cases h3:decide (c.At<s.j9.V5)
   ·have h4:=of_decide_eq_false h3
    have hc:bN2 c=true:=by
     cases h:bN2 c
     ·rw[h]at h1;simp at h1
     ·rfl
    have hv:c.Y2=true:=by simpa using h2
    have hm:=(dc5 hc hv)
    have h5:c.At<=1099511627776:=by
     have:=hc
     unfold bN2 at this
     rw[hv]at this
     simp only[aX5,fk6,aK5,fl2]at this
     omega
    obtain⟨_,_,ha,bF4,_⟩:=cI5 (.of hs) c.At (by omega) h5
    have hf:=dm0 hs c.At (by omega)
    simp only[fk6,dq0]
    cases(goE c.At s).2.Cut
    ·cases decide (((bS5 s c (goE c.At s).2).length:Int)>200)
     ·refine⟨hf,fun _=>?_⟩
      have k:=cs4 (mk (goE c.At s).2 c (bS5 s c (goE c.At s).2))
      refine⟨k.eng.trans ha.eng,k.next.trans ha.next,?_,by omega⟩
      show(bM7 _).j9.V5=c.At
      unfold bM7
      split<;>exact bF4
     ·exact⟨by simp,fun h=>by cases h⟩
    ·exact⟨hf,fun _=>⟨ha.eng,ha.next,bF4,by omega⟩⟩
   ·exact⟨by simp,fun h=>by cases h⟩
  ·exact⟨by simp,fun h=>by cases h⟩
 ·exact⟨by simp,fun h=>by cases h⟩
end Go.Pv.Sc
namespace Go.Proofs.YtjhedhnghldjbaaGreatDoor.Ec
open Go Go.Pv Go.Pv.Ec Go.Proofs
def dB6 {T:Int}{s:c8}(h:br0 T s s)(c:E8)(hT:c.At<=T):∃t l e,(am5 s c).m=some (t,l,e)/\l.length<=3200/\br0 T s (bif e !=0 then s else t):=by
 have hm:=h.ok.most
 have hf:=h.few
 rw[cc7,Sc.ef6 s c (by omega) (by omega)]
 obtain⟨k1,k2⟩:=Sc.dD6 h.ok c
 refine⟨(Sc.aX3 s c).1,(Sc.aX3 s c).2.1,(Sc.aX3 s c).2.2,rfl,k1,?_⟩
 by_cases he:(Sc.aX3 s c).2.2=0
 ·obtain⟨a,b,d,f⟩:=k2 he
  rw[he,show((0:Int) !=0)=false from rfl]
  exact⟨Sc.eB0 he,by simp only[fk6];rw[b];exact hf,a,by simp only[fk6];omega,by simp only[fk6];omega⟩
 ·rw[show((Sc.aX3 s c).2.2 !=0)=true by simpa using he];exact h
theorem br0.trans {T:Int}{s t u:c8}(h:br0 T s t)(k:br0 T t u):br0 T s u:=⟨k.ok,k.few,k.eng.trans h.eng,ff4 h.low k.low,k.now⟩
def br0.self {T:Int}{s t:c8}(h:br0 T s t):br0 T t t:=⟨h.ok,h.few,rfl,dj2 _,h.now⟩
theorem eO5 (o:ae3):(bv3 o).m=some o:=rfl
theorem er7 (n:ae3)(e:Int)(o:ae3):(aT8 n e o).m=some (bif e !=0 then o else n):=by
 simp only[aT8,C.of,M.run]
 cases e !=0<;>rfl
theorem eO8 (o:ab5):(bB4 o).m=some o:=rfl
theorem es1 (n:ab5)(e:Int)(o:ab5):(ba1 n e o).m=some (bif e !=0 then o else n):=by
 simp only[ba1,C.of,M.run]
 cases e !=0<;>rfl
theorem fg4 (o:aa7):(bM0 o).m=some o:=rfl
theorem eW1 (n:aa7)(e:Int)(o:aa7):(bf0 n e o).m=some (bif e !=0 then o else n):=by
 simp only[bf0,C.of,M.run]
 cases e !=0<;>rfl
theorem enz {e:Int}(h:¬e=0):(e !=0)=true:=by simpa using h
def ef8 {y:ab5}(h:syB y=true):0<=y.G1/\y.G1<=1099511627776:=by
 unfold syB at h
 split at h
 ·simp only[aK5,beq_iff_eq]at h;omega
 ·split at h
  ·split at h
   ·simp only[aK5,beq_iff_eq,az3]at h;omega
   ·simp only[aK5,fl2,az3]at h;omega
  ·split at h
   ·simp only[aK5,fl2,az3]at h;omega
   ·cases h
structure Tee (T:Int)(s:j6):Prop where
 t0:0<=T
 sch:br0 T s.u.j3 s.u.j3
 sy:syB s.u.Q8=true/\s.u.Q8.H6<=T
 ph:phB s.u.M9=true
 tf:tfB s.u.I2=true/\s.u.I2.H6<=T
def eg1 {T:Int}{s:j6}(h:Tee T s)(a:Int)(ha:a<=T)(hl:s.A3.length<=900000000):
  ∃c y p f w,(bv5 s a).m=some {s with u:={s.u with j3:=c,Q8:=y,M9:=p,I2:=f},A3:=w}/\
   br0 T s.u.j3 c/\(syB y=true/\y.H6<=T)/\phB p=true/\(tfB f=true/\f.H6<=T)/\w.length<=s.A3.length+10000:=by
 have ht0:=h.t0
 obtain⟨f,ok,e,e1,h1⟩:=eM3 s.u.I2 a
 have hf:tfB (bif e !=0 then s.u.I2 else f)=true/\(bif e !=0 then s.u.I2 else f).H6<=T:=by
  by_cases he:e=0
  ·subst he
   obtain⟨_,q2,q3,_⟩:=h1 rfl
   rw[show((0:Int) !=0)=false from rfl]
   refine⟨q2,?_⟩
   simp only[fk6]
   rcases q3 with q3|q3
   ·omega
   ·rw[q3];exact h.tf.2
  ·rw[enz he];exact h.tf
 simp only[bv5,CG.of,M.run,fg4,eW1,e1,aF2]
 generalize(bif e !=0 then s.u.I2 else f)=g at hf|-
 cases(e !=0|| !ok)
 ·simp only[fk6,eO8,cz0,aF2]
  obtain⟨y,e2,q1,q2⟩:=eM1 s.u.Q8 a
  simp only[q1,es1,aF2]
  have hy:syB (bif e2 !=0 then s.u.Q8 else y)=true/\(bif e2 !=0 then s.u.Q8 else y).H6<=T:=by
   by_cases he:e2=0
   ·subst he
    obtain⟨r1,r2⟩:=q2 rfl
    rw[show((0:Int) !=0)=false from rfl]
    refine⟨r1,?_⟩
    simp only[fk6]
    rcases r2 with r2|r2
    ·omega
    ·rw[r2];exact ht0
   ·rw[enz he];exact h.sy
  generalize(bif e2 !=0 then s.u.Q8 else y)=z at hy|-
  obtain⟨c,p,w,q3,hc,hp,hw⟩:=cQ3 (T:=T) (s:={s with u:={s.u with I2:=g}}) h.sch h.ph z a ha (by simp only;omega)
  simp only at hc hw
  rw[q3]
  simp only[aF2]
  cases(z.Mode !=2)
  ·simp only[fk6]
   have key:∃c2 p2 w2,(bif z.ay9==0 then
     (bK0 c0 p).m.bind fun t_1=>(bif !(bif t_1.2 !=0 then p else t_1.1).aY1 then
       (aY4 {s with u:={s.u with j3:=c,Q8:=z,M9:=bif t_1.2 !=0 then p else t_1.1,I2:=g},A3:=w} a).m.bind fun t=>some t
      else some {s with u:={s.u with j3:=c,Q8:=z,M9:=bif t_1.2 !=0 then p else t_1.1,I2:=g},A3:=w})
     else some {s with u:={s.u with j3:=c,Q8:=z,M9:=p,I2:=g},A3:=w})=
     some ({s with u:={s.u with j3:=c2,Q8:=z,M9:=p2,I2:=g},A3:=w2}:j6)/\br0 T s.u.j3 c2/\phB p2=true/\w2.length<=s.A3.length+6600:=by
    cases z.ay9==0
    ·exact⟨c,p,w,rfl,hc,hp,by omega⟩
    ·obtain⟨r,e4,q4,q5⟩:=eJ4 p
     simp only[fk7,q4,aF2]
     have hr:phB (bif e4 !=0 then p else r)=true:=by
      by_cases he:e4=0
      ·subst he;exact q5 rfl
      ·rw[enz he];exact hp
     generalize(bif e4 !=0 then p else r)=p3 at hr|-
     cases p3.aY1
     ·simp only[cr8,fk7]
      obtain⟨c3,w3,q6,h6,h7⟩:=dC5 (T:=T) (s:={s with u:={s.u with j3:=c,Q8:=z,M9:=p3,I2:=g},A3:=w}) hc.self a ha (by simp only;omega)
      rw[q6]
      exact⟨c3,p3,w3,rfl,hc.trans h6,hr,by simp only at h7;omega⟩
     ·exact⟨c,p3,w,rfl,hc,hr,by omega⟩
   obtain⟨c2,p2,w2,q7,h7,h8,h9⟩:=key
   simp only[eO5,er7,cm3,aF2]
   rw[q7]
   simp only[aF2]
   cases p2.aY1
   ·exact⟨c2,z,p2,g,w2,rfl,h7,hy,h8,hf,by omega⟩
   ·simp only[fk7]
    obtain⟨k,e8,q8,hk⟩:=dW5 a z.ay9 p2.bG7 z.G1 (ef8 hy.1)
    obtain⟨t3,l3,e9,q9,hl3,h10⟩:=dB6 h7.self k (by omega)
    simp only[q8,q9,aF2]
    rw[bU6 _ t3 l3 e9 (by simp only;omega)]
    simp only[aF2]
    refine⟨_,z,p2,g,_,rfl,h7.trans h10,hy,h8,hf,?_⟩
    cases e9 !=0
    ·simp only[fk6,bd4];omega
    ·simp only[fk7];omega
  ·exact⟨c,z,p,g,w,rfl,hc,hy,hp,hf,by omega⟩
 ·exact⟨_,_,_,g,_,rfl,h.sch,h.sy,h.ph,hf,by omega⟩
abbrev upS (s:j6)(c:c8)(y:ab5)(p:ae3)(f:aa7)(w:List j8):j6:={s with u:={s.u with j3:=c,Q8:=y,M9:=p,I2:=f},A3:=w}
def di1 {s:j6}(hp:phB s.u.M9=true)(x:Int)(l:List Int)(hl:l.length<=100000):
  ∃p,(ba4 s (x::l)).m=some (upS s s.u.j3 s.u.Q8 p s.u.I2 s.A3,l)/\phB p=true:=by
 obtain⟨r,e,e1,h1⟩:=eX9 s.u.M9
 have hr:phB (bif e !=0 then s.u.M9 else r)=true:=by
  grind
 have h2:ay7 (x::l) 1 ((x::l).length:Int)=some l:=by
  unfold ay7
  grind
 simp only[ba4,CG.of,M.run,U1.m,eO5,er7,cm3,e1,h2,aF2]
 grind
def dc8 (a:Int):∀(l:List Int) (s:j6),phB s.u.M9=true->l.length<=100000->
  ∃l' p,L8 (fun x=>(aU5 a x).run) (l,s)=some (.inl (l',upS s s.u.j3 s.u.Q8 p s.u.I2 s.A3))/\phB p=true/\l'.length<=l.length
 |[],s,hp,_=>⟨[],s.u.M9,E6 rfl,hp,by simp⟩
 |x::l,s,hp,hl=>by
  by_cases hx:x<=a
  ·obtain⟨p,e1,h1⟩:=di1 hp x l (by grind)
   obtain⟨l',p',e2,h2,h3⟩:=dc8 a l (upS s s.u.j3 s.u.Q8 p s.u.I2 s.A3) h1 (by grind)
   refine⟨l',p',?_,h2,by grind⟩
   rw[H3 (s':=(l,upS s s.u.j3 s.u.Q8 p s.u.I2 s.A3)) ?_]
   ·exact e2
   ·simp only[aU5,M.run,L1.m]
    rw[fk8 (show(((x::l).length:Nat):Int)>0 by simp)]
    rw[show E0 (x::l) 0=some x from rfl]
    grind
  ·refine⟨x::l,s.u.M9,E6 ?_,hp,bO2 _⟩
   simp only[aU5,M.run,L1.m]
   rw[fk8 (show(((x::l).length:Nat):Int)>0 by simp)]
   rw[show E0 (x::l) 0=some x from rfl]
   simp_all[fk9]
def dc7:∀(l:List Int) (s:j6),phB s.u.M9=true->l.length<=100000->
  ∃p,L8 (fun x=>(bj0 x).run) (l,s)=some (.inl ([],upS s s.u.j3 s.u.Q8 p s.u.I2 s.A3))/\phB p=true
 |[],s,hp,_=>⟨s.u.M9,E6 rfl,hp⟩
 |x::l,s,hp,hl=>by
  obtain⟨p,e1,h1⟩:=di1 hp x l (by grind)
  obtain⟨p',e2,h2⟩:=dc7 l (upS s s.u.j3 s.u.Q8 p s.u.I2 s.A3) h1 (by grind)
  refine⟨p',?_,h2⟩
  rw[H3 (s':=(l,upS s s.u.j3 s.u.Q8 p s.u.I2 s.A3)) ?_]
  all_goals simp_all[bj0,M.run]
def dh9 {s:j6}{l:List Int}(hp:bX6 s.u.ab7 s.u.B3)(ht:0<=s.t/\s.t<=1099511627776)(he:Edg (s.u.B3.K7/65536) ((s.u.B3.K7+10000*s.u.B3.D7)/65536) l):
  ∃r,(aJ4 s l).m=some r/\r.length<=1000/\∀x∈r,x<=s.t+10000:=by
 have h1:=hp.pos
 have h2:=hp.spd
 have hn:=he.len
 by_cases h0:s.u.B3.D7=0
 ·have h3:l=[]:=by
   cases l with
   |nil=>rfl
   |cons x l=>
    have a:=he.lo x (cq1 ..)
    have b:=he.hi x (cq1 ..)
    omega
  subst h3
  simp only[aJ4,CG.of,M.run]
  obtain⟨r,h3,h4⟩:=aM9 ([]:List Int) (by simp) (fun i x (o:List Int)=>(aQ3 s i x o).run) (fun _ o=>o=[]) [] rfl (fun k x o hx _=>by simp at hx)
  grind
 ·obtain⟨r,e1,e2,e3⟩:=eg0 s l (by omega) (by omega) h1 ht (fun x hx=>by have:=he.hi x hx;omega) (fun x hx=>by have:=he.lo x hx;omega)
  grind
structure Tst (T:Int)(s0:j6)(n:Nat)(c:c8)(y:ab5)(p:ae3)(f:aa7)(w:List j8):Prop where
 sch:br0 T s0.u.j3 c
 sy:syB y=true/\y.H6<=T
 ph:phB p=true
 tf:tfB f=true/\f.H6<=T
 few:w.length<=s0.A3.length+n
def dY8 {T:Int}{s:j6}(h:Tee T s)(l v:List Int)(hl:l.length<=1000)(hx:∀x∈l,x<=T)(hv:v.length<=1000)(hs:s.A3.length<=100000):
  ∃v' c y p f w,L8 (fun p:Int×(List Int×j6)=>bif decide (p.1<(l.length:Int))then((E0 l p.1).bind fun x=>((fun i x u=>(aU4 i x u).run) p.1 x p.2).bind (aJ9 p.1))else some (.inr (.inl p.2))) (0,(v,s))=some (.inl (v',upS s c y p f w))/\v'.length<=1000/\Tst T s (10000*l.length) c y p f w:=by
 obtain⟨u,e1,⟨hu,c,y,p,f,w,h2,h3⟩⟩:=aM9 l (by omega) (fun i x (u:List Int×j6)=>(aU4 i x u).run)
  (fun k u=>u.1.length<=1000/\∃c y p f w,u.2=upS s c y p f w/\Tst T s (10000*k) c y p f w) (v,s)
  ⟨hv,s.u.j3,s.u.Q8,s.u.M9,s.u.I2,s.A3,rfl,h.sch,h.sy,h.ph,h.tf,by omega⟩ (fun k x u hk hI=>by
   obtain⟨hu,c,y,p,f,w,h2,h3⟩:=hI
   obtain⟨v1,u2⟩:=u
   simp only at hu h2
   subst h2
   have hkl:=(bG6.1 hk).1
   have hw:=h3.few
   obtain⟨l',p',q1,q2,q3⟩:=dc8 x v1 (upS s c y p f w) h3.ph (by omega)
   simp only[aU4,M.run]
   rw[q1]
   simp only[aF2]
   obtain⟨c2,y2,p2,f2,w2,r1,r2,r3,r4,r5,r6⟩:=eg1 (T:=T) (s:=upS s c y p' f w) ⟨h.t0,h3.sch.self,h3.sy,q2,h3.tf⟩ x (hx x (db2 hk)) (by grind)
   simp only at r1 r2 r6
   rw[r1]
   exact⟨_,rfl,by grind,c2,y2,p2,f2,w2,rfl,h3.sch.trans r2,r3,r4,r5,by omega⟩)
 grind
def eB3 {s:j6}(h:Tee (s.t+10000) s)(hp:bX6 s.u.ab7 s.u.B3)(ht:0<=s.t/\s.t+10000<=549755813888)(hl:s.A3.length<=1000):
  ∃c y p f w,(bl3 s).m=some (upS s c y p f w)/\Tst (s.t+10000) s 20000000 c y p f w/\c.j9.V5=s.t+10000:=by
 have bS2:=hp.pos
 have hspd:=hp.spd
 have ht0:=h.t0
 obtain⟨r,e,e1,h1⟩:=eA0 s.u.Q8 s.t
 have hy:syB (bif e !=0 then s.u.Q8 else r)=true/\(bif e !=0 then s.u.Q8 else r).H6<=s.t+10000:=by
  by_cases he:e=0
  ·subst he
   obtain⟨q1,q2⟩:=h1 rfl
   rw[show((0:Int) !=0)=false from rfl]
   refine⟨q1,?_⟩
   simp only[fk6]
   rcases q2 with q2|q2
   ·rw[q2];exact h.sy.2
   ·rw[q2];exact ht0
  ·rw[enz he];exact h.sy
 simp only[bl3,CG.of,M.run,eO8,cz0,cm3,e1,es1,aF2]
 generalize(bif e !=0 then s.u.Q8 else r)=z at hy|-
 obtain⟨c,p,w,q3,hc,hph,hw⟩:=cQ3 (T:=s.t+10000) h.sch h.ph z s.t (by omega) (by omega)
 rw[q3]
 simp only[aF2]
 rw[j4 (n:=10000*s.u.B3.D7) (by omega) (by omega),j4 (n:=s.u.B3.K7+10000*s.u.B3.D7) (by omega) (by omega),cx1 bS2.1,cx1 (show 0<=s.u.B3.K7+10000*s.u.B3.D7 by omega),
  j4 (n:=s.u.B3.K7/65536) (by omega) (by omega),j4 (n:=(s.u.B3.K7+10000*s.u.B3.D7)/65536) (by omega) (by omega)]
 obtain⟨l1,e4,b1,b2⟩:=ds9 (s.u.B3.K7/65536) ((s.u.B3.K7+10000*s.u.B3.D7)/65536)
 obtain⟨l2,e5,b3,b4⟩:=dk9 (s.u.B3.K7/65536) ((s.u.B3.K7+10000*s.u.B3.D7)/65536)
 rw[b1]
 simp only[aF2]
 rw[b3]
 simp only[aF2]
 generalize hsv:({s with u:={s.u with j3:=c,Q8:=z,M9:=p},A3:=w}:j6)=sv
 have hv1:sv.u.ab7=s.u.ab7:=by subst hsv;rfl
 have hv2:sv.u.B3=s.u.B3:=by subst hsv;rfl
 have hv3:sv.t=s.t:=by subst hsv;rfl
 obtain⟨v7,e7,k7,k8⟩:=dh9 (s:=sv) (l:=l2) (by rw[hv1,hv2];exact hp) (by rw[hv3];omega) (by rw[hv2];exact b4)
 obtain⟨v8,e8,k9,k10⟩:=dh9 (s:=sv) (l:=l1) (by rw[hv1,hv2];exact hp) (by rw[hv3];omega) (by rw[hv2];exact b2)
 rw[e7]
 simp only[aF2]
 rw[e8]
 simp only[aF2]
 rw[hv3]at k10
 have htee:Tee (s.t+10000) sv:=by subst hsv;exact⟨ht0,hc.self,hy,hph,h.tf⟩
 have hsw:sv.A3.length<=s.A3.length+3300:=by subst hsv;exact hw
 obtain⟨v',c2,y2,p2,f2,w2,e9,n9,t9⟩:=dY8 htee v8 v7 k9 k10 k7 (by omega)
 rw[e9]
 simp only[aF2]
 obtain⟨p3,e10,h10⟩:=dc7 v' (upS sv c2 y2 p2 f2 w2) t9.ph (by omega)
 rw[e10]
 simp only[aF2]
 have hg:=t9.sch
 have bF4:=hg.now
 have hok:=hg.ok
 have ea1:=hok.most
 rw[hv3,j4 (n:=s.t+10000) (by omega) (by omega),bm7,Sc.dU1 hok (by have:=hg.few;omega) (s.t+10000) bF4 (by omega)]
 obtain⟨a1,a2,a3,a4⟩:=Sc.cb0 hok (s.t+10000) bF4 (by omega)
 have a5:=Sc.dm0 hok (s.t+10000) bF4
 have hfew:=t9.few
 simp only[aF2]
 rw[bU6 _ _ (Sc.goE (s.t+10000) c2).1 0 (by simp only;omega)]
 have hsc:sv.u.j3=c:=by subst hsv;rfl
 rw[hsc]at hg
 refine⟨(Sc.goE (s.t+10000) c2).2,y2,p3,f2,w2++(Sc.goE (s.t+10000) c2).1,?_,⟨hc.trans (hg.trans ⟨a1,by rw[a3];exact hg.few,a2,by omega,by omega⟩),t9.sy,h10,t9.tf,by rw[bd4];omega⟩,a4⟩
 subst hsv
 rfl
theorem eG4 (l:List j8)(hl:l.length<=1000000)(f:j8->Option Bool)(p:j8->Bool)(h:∀y∈l,f y=some (p y)):Pv.ad7 l f=some (match l.findIdx? p with|some k=>(k:Int)|none=>-1):=by
 unfold Pv.ad7 Pv.aA2
 rw[bc8 l (by omega) (fun(i:Int) x (_:Unit)=>ak4 (f x) fun v=>bif v then(some (Fl.ret i))else(some (Fl.next ())))]
 have:=Sc.bJ3 f p l 0 h
 grind
def eT1 (l:List j8)(hl:l.length<=1000000)(f:j8->Option Bool)(p:j8->Bool)(h:∀y∈l,f y=some (p y)):Pv.N9 l f=some (l.filter fun y=>!p y):=by
 unfold Pv.N9
 rw[eG4 l hl f p h]
 cases hf:l.findIdx? p with
 |none=>grind [Sc.dd7]
 |some v=>
  obtain⟨hv,htk⟩:=Sc.cv6 hf
  simp only[aF2]
  have e0:((v:Int)== -1)=false:=beq_eq_false_iff_ne.2 (by omega)
  rw[e0,j4 (n:=(v:Int)+1) (by omega) (by omega)]
  simp only[fk6]
  obtain⟨t,k1,k2⟩:=cw5 (mb:=Pv.am6 f)
   (fun j st=>∃i:Nat,st.1=(i:Int)/\st.2.1=((v+1+j:Nat):Int)/\i<v+1+j/\i=((l.take (v+1+j)).filter fun y=>!p y).length/\st.2.2.length=l.length/\st.2.2.take i=((l.take (v+1+j)).filter fun y=>!p y)/\st.2.2.drop (v+1+j)=l.drop (v+1+j))
   (fun t=>∃(s:List j8) (i:Nat),t= .inl ((i:Int),(l.length:Int),s)/\s.length=l.length/\i<=l.length/\s.take i=l.filter fun y=>!p y) (l.length-(v+1)) 0 ((v:Int),(v:Int)+1,l)
   ⟨v,rfl,by push_cast;omega,by omega,by rw[eh1,htk,cZ8];omega,rfl,by rw[eh1,htk],rfl⟩
   (fun j _ hj st ⟨i,h1,h2,h3,h4,h5,h6,h7⟩=>by
    have hjl:v+1+j<l.length:=by omega
    have dm4:E0 st.2.2 st.2.1=some l[v+1+j]:=by
     rw[h2,U4,<-eB5,h7,eB5,aX4 hjl]
    have hlt:decide (st.2.1<(st.2.2.length:Int))=true:=by rw[h2,h5];simp;omega
    have htk2:l.take (v+1+(j+1))=l.take (v+1+j)++[l[v+1+j]]:=by rw[<-ef0];exact cW8 hjl
    have hdr:∀s:List j8,s.drop (v+1+j)=l.drop (v+1+j)->s.drop (v+1+(j+1))=l.drop (v+1+(j+1)):=fun s hs=>by
     rw[<-ef0,<-eh0,hs,eh0]
    unfold Pv.am6
    rw[hlt,dm4]
    simp only[fk7,aF2,h _ (bf3 hjl)]
    rw[h2,j4 (n:=((v+1+j:Nat):Int)+1) (by omega) (by omega)]
    cases hp:p l[v+1+j]
    ·have hi:i<st.2.2.length:=by omega
     simp only[cr8,fk7]
     rw[h1,D1 _ _ hi]
     simp only[aF2]
     rw[U5 _ _ _ hi,j4 (n:=(i:Int)+1) (by omega) (by omega)]
     have hfl:((l.take (v+1+(j+1))).filter fun y=>!p y)=((l.take (v+1+j)).filter fun y=>!p y)++[l[v+1+j]]:=by
      rw[htk2,dq4];simp[hp]
     refine⟨_,rfl,i+1,by push_cast;rfl,by push_cast;omega,by omega,?_,by simp[h5],?_,?_⟩
     ·rw[hfl,bd4,<-h4];rfl
     ·rw[hfl,<-h6]
      rw[cW8 (by simpa using hi),List.take_set_of_le (bO2 _),dy0]
     ·refine hdr _ ?_
      rw[List.drop_set_of_lt (by omega)];exact h7
    ·simp only[aX5,fk6]
     have hfl:((l.take (v+1+(j+1))).filter fun y=>!p y)=((l.take (v+1+j)).filter fun y=>!p y):=by
      rw[htk2,dq4];simp[hp]
     exact⟨_,rfl,i,h1,by push_cast;omega,by omega,by rw[hfl];exact h4,h5,by rw[hfl];exact h6,hdr _ h7⟩)
   (fun st ⟨i,h1,h2,h3,h4,h5,h6,h7⟩=>by
    have hn:v+1+(0+(l.length-(v+1)))=l.length:=by omega
    rw[hn]at h2 h3 h4 h6
    have hlt:decide (st.2.1<(st.2.2.length:Int))=false:=by rw[h2,h5];simp
    unfold Pv.am6
    rw[hlt]
    simp only[fk6]
    refine⟨_,rfl,st.2.2,i,?_,h5,by omega,by rw[h6,eC8]⟩
    rw[h1,h2])
  obtain⟨s,i,rfl,hs,hi,ht⟩:=k2
  rw[k1]
  simp only[aF2]
  have hc:cl6 (i:Int) (s.length:Int) s.length=some ():=by unfold cl6;rw[if_pos ⟨by omega,by omega,by omega⟩]
  rw[hc]
  simp only[aF2]
  have hsl:ay7 (bV6 s (i:Int) (s.length:Int) (⟨0,0,false⟩:j8)) 0 (i:Int)=some (s.take i):=Sc.cN7 s i _ (by omega)
  rw[hsl,ht]
  rfl
theorem bgi {α β:Type}(c:Bool)(x y:α)(f:α->Option β):ak4 (bif c then some x else some y) f=f (bif c then x else y):=by grind
def eN5 {α β:Type}{A:Option α}{F:α->Option β}(J:α->Prop){K:β->Prop}(h:∃x,A=some x/\J x)(k:∀x,J x->∃r,F x=some r/\K r):∃r,A.bind F=some r/\K r:=by
 grind
def fd4 {β:Type}{c:Bool}{A B:Option β}{K:β->Prop}(h:c=true->∃r,A=some r/\K r)(k:c=false->∃r,B=some r/\K r):∃r,(bif c then A else B)=some r/\K r:=by
 cases c
 all_goals grind
def cT5 {S R:Type}(n:Nat)(hn:n<=1000000000)(f:Int->S->Option (Fl S R))(I:Nat->S->Prop)(J:R->Prop)(s:S)(h0:I 0 s)(h:∀k s,k<n->I k s->(∃s',f (k:Int) s=some (.next s')/\I (k+1) s')\/∃u,f (k:Int) s=some (.ret u)/\J u):
  ∃b,L8 (fun p:Int×S=>bif decide (p.1<(n:Int))then((f p.1 p.2).bind (aJ9 p.1))else some (.inr (.inl p.2))) (0,s)=some b/\((∃s',b= .inl s'/\I n s')\/∃u,b= .inr u/\J u):=by
 exact bw0 (mb:=fun p:Int×S=>bif decide (p.1<(n:Int))then((f p.1 p.2).bind (aJ9 p.1))else some (.inr (.inl p.2))) (fun x=>∃k:Nat,x.1=(k:Int)/\k<=n/\I k x.2) (fun x=>n-x.1.toNat) (fun b:S⊕R=>(∃s',b= .inl s'/\I n s')\/∃u,b= .inr u/\J u)
  (fun x ⟨k,hk,hkn,hi⟩=>by
   obtain⟨a,u⟩:=x
   simp only at hk hi
   subst hk
   by_cases hlt:k<n
   ·rcases h k u hlt hi with⟨s',h1,h2⟩|⟨v,h1,h2⟩
    ·left
     simp only
     rw[fk8 (show((k:Nat):Int)<(n:Int) by omega),h1]
     refine⟨(((k+1:Nat):Int),s'),?_,⟨k+1,rfl,by omega,h2⟩,by simp only;omega⟩
     simp only[fk7,aF2,aJ9]
     first|rfl|(rw[j4 (by omega) (by omega)];rfl)
    ·right
     simp only
     rw[fk8 (show((k:Nat):Int)<(n:Int) by omega),h1]
     exact⟨_,rfl,.inr ⟨v,rfl,h2⟩⟩
   grind) n (0,s) (by simp) ⟨0,rfl,by omega,h0⟩
def dJ4 (l:List A6)(hl:l.length<=1000000)(f:Cl Tryz.prog A6 Bool (fun x=>[aP8 x]) (fun r=>.t (tB r)))(p:A6->Bool)(h:∀x,f.f x=some (p x)):∃v,(H8 l f).m=some v/\(0<=v->v<(l.length:Int)):=by
 simp only[H8,C.of,M.run]
 obtain⟨b,e,h1⟩:=cT5 l.length (by omega) (fun i (u:Unit)=>(O0 l f i u).run) (fun _ _=>True) (fun v:Int=>v<(l.length:Int)) () trivial (fun k u hk _=>by
  simp only[O0,M.run,L1.m,Cl.at]
  rw[U4,aX4 hk]
  simp only[aF2,h]
  cases p l[k]
  all_goals simp_all)
 rw[e]
 rcases h1 with⟨u,rfl,_⟩|⟨v,rfl,h2⟩
 all_goals simp_all
def es9 {t:o7}(h:cd7 t=true)(a:Int):∃r,(aB1 t a 13500).m=some r:=by
 have hd:=(dh7 h).dead
 rw[cM3]
 by_cases ha:0<=a/\a<=1048576
 ·rw[eb8 hd ha (by omega)]
  simp
 ·have hd':=hd
  rw[aK5]at hd
  obtain⟨h1,h2⟩:=hd
  have hl:=(bn2 h1).yl
  have hx:=(bn2 h1).x.most
  have e:Pv.o6 t.aw6.Y Pv.aG1=some (t.aw6.Y.any fun y=>!inR 0 10000 y):=aq0 _ (by omega) _ _ (fun y _=>rfl)
  have e2:(t.aw6.Y.any fun y=>!inR 0 10000 y)=false:=by
   grind
  have e3:Pv.aC2 t a 13500=some (0,2):=by
   unfold Pv.aC2
   rw[aq2,h1,e,e2,dl4]
   have:inR 0 1048576 a=false:=by
    simp_all[inR]
   grind
  unfold Pv.aB1
  grind
theorem eO7 (o:Z8):(bv4 o).m=some o:=rfl
theorem es0 (n:Z8)(e:Int)(o:Z8):(aT9 n e o).m=some (bif e !=0 then o else n):=by
 simp only[aT9,C.of,M.run]
 grind
def dS3 {b:L6}{p q:Z8}{e:Int}(hp:bX6 b p)(h:e=0->bX6 b q):bX6 b (bif e !=0 then p else q):=by
 grind
def es6 (l:List j8):∃b,(ch0 l).m=some b/\(b=true->l.length<=1000):=by
 simp only[ch0,C.of,M.run]
 by_cases h:(l.length:Int)>1000
 ·simp_all
 ·rw[fk9 h]
  simp only[fk6]
  rcases bx0 l (by omega) (fun i x (s:Int)=>(bC1 i x s).run) (fun _ _=>True) (fun _=>True) 0 trivial (fun k x s hx _=>by
   simp only[bC1,M.run,dp4,aF2]
   cases((((!ae6 x.At)||(decide (x.At<s)))||(decide (x.Channel<0)))||(decide (x.Channel>=16)))
   all_goals simp)with⟨s',e,_⟩|⟨u,e,_⟩
  ·rw[e];exact⟨true,rfl,fun _=>by omega⟩
  ·rw[e];exact⟨u,rfl,fun _=>by omega⟩
theorem dY4 (l:List j8)(hl:l.length<=1073741824):(aS7 l).m=some l:=by
 simp_all[aS7,CG.of,M.run,U1.m,I1]
structure UOk (u:af9):Prop where
 C8:cd7 u.A0=true
 pl:bX6 u.ab7 u.B3
 sch:Sc.aN9 u.j3
 few:u.j3.Next.length<=8
 now:u.j3.j9.V5=u.Time
 con:bA2 u.j3.A1 u.w9=true
 tf:tfB u.I2=true/\u.I2.H6<=u.Time
 sy:syB u.Q8=true/\u.Q8.H6<=u.Time
 ph:phB u.M9=true
 gr:grB u.M3=true
 qz:fc4 u.Time u.K4
 sg:sgB u.M5=true/\u.M5.aR0<=u.Time
 flt:∃c t,(1<=c/\c<=1073741824)/\Fr.Inv cf0 u.D9 c true t
 time:0<=u.Time/\u.Time<=549755813888
 ten:u.Time%10000=0
structure Mid (T:Int)(s:j6):Prop where
 ok:SOk s
 C8:cd7 s.u.A0=true
 pl:bX6 s.u.ab7 s.u.B3
 sch:Sc.aN9 s.u.j3
 few:s.u.j3.Next.length<=8
 now:s.u.j3.j9.V5=T
 con:bA2 s.u.j3.A1 s.u.w9=true
 tf:tfB s.u.I2=true/\s.u.I2.H6<=T
 sy:syB s.u.Q8=true/\s.u.Q8.H6<=T
 ph:phB s.u.M9=true
 gr:grB s.u.M3=true
 qz:fc4 s.t s.u.K4
 sg:sgB s.u.M5=true/\s.u.M5.aR0<=s.t
 flt:∃c t,(1<=c/\c<=1073741824)/\Fr.Inv cf0 s.u.D9 c true t
 act:s.Z9.length<=7/\∀x∈s.Z9,x.W9.length<=16
structure DOk (d:I9)(k:List aa6):Prop where
 few:k.length<=100
 val:∀b∈k,-1000000<=b.Value/\b.Value<=1000000
 ped:0<=d.L5/\d.L5<=1000
structure fm0 (r:aa9):Prop where
 sw:r.bO3.length<=1000
 act:r.K5.length<=7/\∀x∈r.K5,x.W9.length<=16
def eU8 {f:C2}(hc:Fr.Cfs cf0)(h:∃c t,(1<=c/\c<=1073741824)/\Fr.Inv cf0 f c true t):(aa2 f).m=some true/\f.L.length=7/\f.ay1=true:=by
 obtain⟨c,t,hct,hi⟩:=h
 refine⟨?_,by rw[hi.len,bl1],hi.run⟩
 rw[be5]
 exact Fr.bU9 hc hi (by omega) hct.2 (fun _=>hct.1)
def eZ3 {s:c8}(h:Sc.aN9 s)(hf:s.Next.length<=8):(K1 s).m=some true:=by
 have:=h.most
 rw[au6,Sc.bd0 s (by omega) (by omega),Sc.aY9.2 h]
theorem di2 {u:af9}(hc:Fr.Cfs cf0)(h:UOk u):(bV8 u).m=some true:=by
 have e1:(ad0 u.A0).m=some true:=by rw[bh8,bi5,h.C8]
 have e2:=do4 h.pl
 have e3:=eZ3 h.sch h.few
 have e4:(aq1 u.j3.A1 u.w9).m=some true:=by rw[bL5,dR4,h.con]
 obtain⟨e5,e6,e7⟩:=eU8 hc h.flt
 have ht:=h.time
 have hf:=h.tf.2;have hs:=h.sy.2;have hq:=h.qz.2;have hg:=h.sg.2
 simp only[bV8,C.of,M.run,e1,e2,e3,e4,cW0,h.tf.1,cz0,cV8,h.sy.1,cm3,cS9,h.ph,cm7,h.gr,co5,h.qz.1,cU7,h.sg.1,e5,e6,e7,aF2,aX5,fk6,fk7]
 rw[fk8 (show u.Time>=0 by omega),fk8 ht.2,h.now,cX1 ht.1,h.ten]
 have hm:G8 (G8 (G8 u.I2.H6 u.Q8.H6) u.M5.aR0) u.K4.ap5<=u.Time:=by
  unfold G8
  split<;>split<;>(try split)<;>omega
 rw[fk8 hm]
 simp
theorem fh8:(cT3 1).m=some (⟨1,0,0,false,false⟩,0):=(cT3 1).le 100 _ (by kernel_rfl)
theorem fj8:(dC9).m=some sy0:=rfl
theorem tf0:(bM3).m=some ⟨false,0,0⟩:=rfl
theorem eZ1:(dh4).m=some ⟨false,1,0⟩:=rfl
def eS0 (x:aa6):Prop:=((0<=x.ca5/\x.ca5<=1099511627776)/\(0<=x.To/\x.To<=1099511627776))/\(0<=x.az4/\x.az4<=7)/\(-1000000<=x.Value/\x.Value<=1000000)
theorem dG2 (l:List aa6)(hl:l.length<=1000000)(f:Cl Tryz.prog aa6 Bool (fun x=>[bO0 x]) (fun r=>.t (tB r)))(p:aa6->Bool)(h:∀x∈l,f.f x=some (p x)):(aE2 l f).m=some (l.any p):=by
 simp only[aE2,bc9,aS8,C.of,M.run,L1.m,Cl.at]
 refine Eq.trans ?_ (bJ5 l (by omega) f.f p h)
 kernel_rfl
theorem cN3 {k:List aa6}(h:k.length<=100)(hk:∀x∈k,eS0 x):(bI9 k).m=some true:=by
 simp only[bI9,C.of,M.run]
 rw[dG2 k (by omega) (.of (fun z_=>cm2 z_) 113 []) _ (fun x _=>rfl)]
 have:(k.any fun b2=>((((((((decide (b2.ca5<0))||(decide (b2.ca5>1099511627776)))||(decide (b2.To<0)))||(decide (b2.To>1099511627776)))||(decide (b2.az4<0)))||(decide (b2.az4>7)))||(decide (b2.Value<(-1000000))))||(decide (b2.Value>1000000))))=false:=by
  rw[dE4]
  intro x hx
  obtain⟨⟨h1,h2⟩,h3,h4⟩:=hk x hx
  grind
 grind
def dI1 (d:I9):Prop:=(0<=d.At/\d.At<=1099511627776)/\(0<=d.L5/\d.L5<=1000)/\(0<=d.bt5/\d.bt5<=1000)/\(0<=d.ca6/\d.ca6<=6)/\(-500<=d.ca8/\d.ca8<=2000)
noncomputable abbrev dy8 (d:I9):Int×Int×Int×Int×Int:=(d.At,d.L5,d.bt5,d.ca6,d.ca8)
noncomputable abbrev dA3:J1×J1×J1×J1×J1:=((⟨(ByteArray.mk #[97,116]),0,1099511627776⟩:J1),(⟨(ByteArray.mk #[112,101,100,97,108]),0,1000⟩:J1),(⟨(ByteArray.mk #[98,114,97,107,101]),0,1000⟩:J1),(⟨(ByteArray.mk #[103,101,97,114]),0,6⟩:J1),(⟨(ByteArray.mk #[108,111,97,100]),(-500),2000⟩:J1))
def bx (x a b:Int):Bool:=decide (x<a)||decide (x>b)
theorem eS1 {x a b:Int}:bx x a b=false↔a<=x/\x<=b:=by simp[bx]
def dA5 (x a b j:Int):((bif decide (x<a)then some true else some (decide (x>b))).bind fun v5=>bif v5 then some (.inr (.inr false))else some (.inl j))=(some (bif bx x a b then .inr (.inr false)else .inl j):Option (Int⊕(Int⊕Bool))):=by
 grind [bx]
def p0 (d:I9):(aw9 (dy8 d) dA3 0).run=some (bif bx d.At 0 1099511627776 then .inr (.inr false)else .inl 1):=dA5 d.At 0 1099511627776 1
theorem p1 (d:I9):(aw9 (dy8 d) dA3 1).run=some (bif bx d.L5 0 1000 then .inr (.inr false)else .inl 2):=dA5 d.L5 0 1000 2
theorem p2 (d:I9):(aw9 (dy8 d) dA3 2).run=some (bif bx d.bt5 0 1000 then .inr (.inr false)else .inl 3):=dA5 d.bt5 0 1000 3
def p3 (d:I9):(aw9 (dy8 d) dA3 3).run=some (bif bx d.ca6 0 6 then .inr (.inr false)else .inl 4):=dA5 d.ca6 0 6 4
def p4 (d:I9):(aw9 (dy8 d) dA3 4).run=some (bif bx d.ca8 (-500) 2000 then .inr (.inr false)else .inl 5):=dA5 d.ca8 (-500) 2000 5
def p5 (d:I9):(aw9 (dy8 d) dA3 5).run=some (.inr (.inl 5)):=rfl
def eo3 (d:I9):Bool:=bx d.At 0 1099511627776||(bx d.L5 0 1000||(bx d.bt5 0 1000||(bx d.ca6 0 6||bx d.ca8 (-500) 2000)))
theorem dv0 {d:I9}:eo3 d=false↔dI1 d:=by
 simp[eo3,dI1,eS1]
theorem dg4 (d:I9):L8 (fun x=>(aw9 (dy8 d) dA3 x).run) 0=some (bif eo3 d then .inr false else .inl 5):=by
 unfold eo3
 have q0:=p0 d;have q1:=p1 d;have q2:=p2 d;have q3:=p3 d;have q4:=p4 d
 cases h0:bx d.At 0 1099511627776
 ·rw[h0]at q0
  rw[H3 (s':=1) q0]
  cases h1:bx d.L5 0 1000
  ·rw[h1]at q1
   rw[H3 (s':=2) q1]
   cases h2:bx d.bt5 0 1000
   ·rw[h2]at q2
    rw[H3 (s':=3) q2]
    cases h3:bx d.ca6 0 6
    ·rw[h3]at q3
     rw[H3 (s':=4) q3]
     cases h4:bx d.ca8 (-500) 2000
     ·rw[h4]at q4
      rw[H3 (s':=5) q4]
      exact E6 (p5 d)
     ·rw[h4]at q4
      exact E6 q4
    ·rw[h3]at q3
     exact E6 q3
   ·rw[h2]at q2
    exact E6 q2
  grind [E6]
 grind [E6]
structure eD4 (l:List I9):Prop where
 pos:1<=l.length
 most:l.length<=200
 first:∀x,l[0]? =some x->x.At=0
 drv:∀x∈l,dI1 x
theorem dy9 (d:I9):(bZ1 d).m=some (dy8 d):=rfl
theorem dA4:(cA5).m=some dA3:=rfl
def dI2 (l:List I9)(hl:l.length<=1000000):∃b,(aA7 l).m=some b/\(b=true->eD4 l):=by
 simp only[aA7,C.of,M.run,L1.m]
 by_cases h1:1<=l.length/\l.length<=200
 ·rw[fk9 (show¬(l.length:Int)<1 by omega),fk9 (show¬(l.length:Int)>200 by omega),show E0 l 0=some (l[0]'(by omega))from(U4 l 0).trans (aX4 (by omega))]
  simp only[eC7,fk6,aF2]
  by_cases h2:(l[0]'(by omega)).At=0
  ·rw[show((l[0]'(by omega)).At !=0)=false by rw[h2];rfl]
   simp only[fk6]
   obtain⟨b,e,h⟩:=cT5 l.length (by omega) (fun i (u:Unit)=>(aR4 l i u).run) (fun k _=>∀x∈l.take k,dI1 x) (fun b:Bool=>b=false) () (by simp) (fun k u hk hI=>by
    simp only[aR4,M.run,L1.m]
    rw[U4,aX4 hk]
    simp only[aF2]
    obtain⟨c,hc⟩:∃c,(bif decide ((k:Int)>0)then(E0 l (j5 ((k:Int)-1))).bind fun t=>some (decide (l[k].At<=t.At))else some false)=some c:=by
     by_cases h0:(k:Int)>0
     ·rw[fk8 h0,j4 (by omega) (by omega),show((k:Int)-1)=((k-1:Nat):Int) by omega,U4,aX4 (by omega)]
      simp
     simp_all
    rw[hc]
    simp only[aF2]
    cases c
    ·simp only[fk6,dy9,dA4,aF2]
     rw[dg4]
     cases hd:eo3 l[k]
     ·left
      refine⟨(),rfl,?_⟩
      grind [cW8,dv0]
     simp
    simp)
   rw[e]
   rcases h with⟨u,rfl,h⟩|⟨b,rfl,rfl⟩
   ·rw[eC8]at h
    exact⟨true,rfl,fun _=>⟨h1.1,h1.2,fun x hx=>by grind,h⟩⟩
   simp
  ·rw[bnt h2]
   simp
 ·refine⟨false,?_,fun h=>by cases h⟩
  grind
theorem cO4 {d:I9}(h:dI1 d)(h0:d.At=0):(aA7 [d]).m=some true:=by
 simp only[aA7,C.of,M.run,L1.m]
 rw[show E0 [d] 0=some d from rfl]
 simp only[aF2]
 rw[h0]
 obtain⟨u,e,_⟩:=ag9 [d].length (by simp) (fun i (u:Unit)=>(aR4 [d] i u).run) (fun _ _=>True) () trivial (fun k u hk _=>by
  have:k=0:=by simpa using hk
  subst this
  simp only[aR4,M.run,L1.m]
  rw[show E0 [d] ((0:Nat):Int)=some d from rfl]
  simp only[aF2]
  rw[fk9 (show¬(((0:Nat):Int)>0) by omega)]
  simp only[fk6,dy9,dA4,aF2]
  rw[dg4,dv0.2 h]
  exact⟨(),rfl,trivial⟩)
 rw[e]
 rfl
theorem ed3 {d:I9}(h:dI1 d):(cv4 d).m=some true:=by
 simp only[cv4,C.of,M.run]
 have h1:=h.1
 rw[fk8 (show d.At>=0 by omega),fk8 h1.2,cO4 (d:=⟨0,d.L5,d.bt5,d.ca6,d.ca8⟩) ⟨⟨dj2 _,by simp⟩,h.2⟩ rfl]
 rfl
theorem et1 {a b:Int}(h0:0<=a)(h:a<=b)(hb:b<=1000000):j5 (G3 .u64 (IntKind.u64.wrap (j5 (a+b))) 1)=(a+b)/2:=by
 have h1:j5 (a+b)=a+b:=j4 (by omega) (by omega)
 grind [IntKind.wrap,eR9,G3]
def dM3 (l:List I9)(hl:eD4 l)(t:Int)(ht:0<=t/\t<=1099511627776)(f:Cl Tryz.prog (I9×Int) Int (fun x=>[bd7 x.1,.t (tI x.2)]) (fun r=>.t (tI r)))(hf:∀x:I9,f.f (x,t)=some (j5 (x.At-t))):
  ∃i b,(av1 l t f).m=some (i,b)/\(b=true->0<=i/\i<(l.length:Int))/\(b=false->1<=i/\i<=(l.length:Int)):=by
 have hm:=hl.most
 have hp:=hl.pos
 have hw:∀x∈l,j5 (x.At-t)=x.At-t:=fun x hx=>by
  have:=(hl.drv x hx).1
  grind [j4]
 simp only[av1,C.of,M.run,L1.m,Cl.at]
 obtain⟨b,e,h⟩:=bw0 (mb:=fun s=>(ao9 l t f s).run) (fun s=>0<=s.1/\s.1<=s.2/\s.2<=(l.length:Int)/\(s.2<(l.length:Int)->∀x,l[s.2.toNat]? =some x->t<=x.At)) (fun s=>(s.2-s.1).toNat)
  (fun b:(Int×Int)⊕Empty=>∃i,b= .inl (i,i)/\0<=i/\i<=(l.length:Int)/\(i<(l.length:Int)->∀x,l[i.toNat]? =some x->t<=x.At)) (fun s ⟨h0,h1,h2,h3⟩=>by
   obtain⟨a,b⟩:=s
   simp only at h0 h1 h2 h3
   simp only[ao9,M.run,L1.m,Cl.at]
   rw[et1 h0 h1 (by omega)]
   by_cases hab:a<b
   ·left
    rw[fk8 hab]
    obtain⟨m,hm⟩:∃m:Nat,(a+b)/2=(m:Int):=⟨((a+b)/2).toNat,by omega⟩
    have hml:m<l.length:=by omega
    rw[hm,U4,aX4 hml]
    simp only[fk7,aF2,hf,hw _ (bf3 hml)]
    by_cases hlt:l[m].At-t<0
    ·rw[fk8 hlt,j4 (n:=(m:Int)+1) (by omega) (by omega)]
     exact⟨_,rfl,⟨by simp only;omega,by simp only;omega,h2,h3⟩,by simp only;omega⟩
    ·rw[fk9 hlt]
     refine⟨_,rfl,⟨h0,by simp only;omega,by simp only;omega,fun _ x hx=>?_⟩,by simp only;omega⟩
     simp only[eV1]at hx
     rw[aX4 hml]at hx
     cases hx
     omega
   ·right
    rw[fk9 hab]
    have:a=b:=by omega
    subst this
    exact⟨_,rfl,a,rfl,h0,h2,h3⟩) l.length (0,(l.length:Int)) (by simp) ⟨by simp only;omega,by simp only;omega,by simp only;omega,fun h=>absurd h (by simp)⟩
 rw[e]
 obtain⟨i,rfl,h0,h1,h2⟩:=h
 simp only[aF2]
 by_cases hi:i<(l.length:Int)
 ·rw[fk8 hi]
  obtain⟨m,hm⟩:∃m:Nat,i=(m:Int):=⟨i.toNat,by omega⟩
  have hml:m<l.length:=by omega
  subst hm
  rw[U4,aX4 hml]
  simp only[fk7,aF2,hf,hw _ (bf3 hml)]
  refine⟨_,_,rfl,fun _=>⟨h0,hi⟩,fun hb=>⟨?_,h1⟩⟩
  rw[beq_eq_false_iff_ne]at hb
  by_cases hz:m=0
  ·subst hz
   exfalso
   have a0:=hl.first _ (aX4 hml)
   have a1:=h2 hi _ (by rw[eV1];exact aX4 hml)
   omega
  ·omega
 ·rw[fk9 hi]
  exact⟨_,_,rfl,fun h=>(by cases h),fun _=>by omega⟩
def eR7 {l:List I9}(hv:(aA7 l).m=some true)(hl:eD4 l)(t:Int)(ht:0<=t/\t<=1099511627776):∃d,(bv1 l t).m=some (d,0)/\dI1 d:=by
 obtain⟨i,b,e,h1,h2⟩:=dM3 l hl t ht (.of (fun z_=>cm1 z_.1 z_.2) 164 []) (fun x=>rfl)
 have key:∃j:Nat,(cd9 l t).m=some ((j:Int),0)/\j<l.length:=by
  simp only[cd9,C.of,M.run,hv,aF2,aX5,fk6]
  rw[fk9 (show¬t<0 by omega),fk9 (show¬t>1099511627776 by omega)]
  simp only[eC7,fk6]
  rw[e]
  simp only[aF2]
  have hm:=hl.most
  cases b
  ·have h3:=h2 rfl
   simp only[cr8,fk7]
   rw[j4 (by omega) (by omega)]
   exact⟨(i-1).toNat,by grind,by omega⟩
  ·have h3:=h1 rfl
   simp only[aX5,fk6]
   exact⟨i.toNat,by grind,by omega⟩
 obtain⟨j,e2,hj⟩:=key
 simp only[bv1,C.of,M.run,L1.m,e2,aF2]
 rw[show((0:Int) !=0)=false from rfl,U4,aX4 hj]
 simp only[fk6,aF2]
 exact⟨_,rfl,ht,(hl.drv _ (bf3 hj)).2⟩
end Go.Proofs.YtjhedhnghldjbaaGreatDoor.Ec

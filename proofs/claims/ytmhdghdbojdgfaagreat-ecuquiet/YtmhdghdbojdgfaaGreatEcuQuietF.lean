/- A part of the proof of EcuQuiet: Plain Lean, and more. -/
import Derived.Test.YtmhdghdbojdgfaaGreatEcuQuietE
set_option linter.unusedSimpArgs false
set_option linter.unusedVariables false
set_option maxRecDepth 100000
noncomputable section
open Bool renaming and_eq_false_iff->fc4,and_eq_true->aI9,cond_false_right->fc5,cond_true_left->fd5,eq_iff_iff->dG1,false_and->eA6,false_eq_true->do8,false_or->ed0,not_eq_false'->ef3,not_eq_true'->ck7,not_false->cJ0,not_not->eH9,not_true->aX3,or_eq_false_iff->bN3,or_eq_true->cI5,or_self->eO3,true_and->cM4
open Int renaming ediv_le_self->eM1,ediv_nonneg->eO6,le_refl->dv9,le_trans->fe7,lt_or_le->ff0,mul_le_mul->eR2,mul_le_mul_of_nonneg_left->ed7,mul_nonneg->eT0,tdiv->db0,tdiv_eq_ediv_of_nonneg->cA0,tmod->ew5,tmod_eq_emod_of_nonneg->do7,toNat_natCast->eJ1
open Go.IntKind renaming i64->eX5
open List renaming all_eq_true->bF0,any_eq_false->dC3,any_eq_not_all_not->dS2,append_assoc->dp3,append_nil->dh6,cons_append->dH3,drop_drop->ex8,eq_of_mem_replicate->eX8,filter_append->dJ7,filter_cons->ex5,filter_cons_of_neg->eY3,filter_cons_of_pos->dZ1,filter_eq_nil_iff->eA8,filter_eq_self->fd6,filter_map->fg2,filter_nil->eK1,findIdx?_cons->fg6,flatMap_cons->eJ6,flatMap_nil->fh1,foldl_cons->ex9,getElem?_eq_getElem->aW5,getElem?_eq_some_iff->bH2,getElem?_map->cV8,getElem?_set_ne->fd1,getElem_mem->bd9,getElem_replicate->fc0,getElem_set->eX9,getElem_set_self->dN2,head?_drop->eG8,length_append->aZ7,length_cons->bv4,length_drop->do0,length_map->cV9,length_nil->cV7,length_replicate->eH4,length_set->eb5,length_singleton->cr0,length_take->bw6,map_append->eK6,map_cons->cW0,map_nil->ep3,mem_append->do5,mem_cons->cq9,mem_cons_of_mem->bZ9,mem_cons_self->bN8,mem_filter->dM7,mem_iff_getElem->cY2,mem_map->da1,mem_of_getElem?->do6,mem_of_mem_drop->eU8,mem_of_mem_take->ey1,mem_or_eq_of_mem_set->fe3,mem_range'->eO7,mem_singleton->eM7,nil_append->cW3,not_mem_nil->eT1,range->dC2,range'->ed4,replicate->cG8,set_set->en8,take_length->ey4,take_succ_eq_append_getElem->dr6
open Nat renaming add_assoc->dK7,add_zero->eb4,le_refl->cw4,lt_or_ge->dc9,zero_add->cX5
open Option renaming bind->ai2,bind_some->aD6,getD_some->ez4,map_some->cq8
open Option.some renaming inj->cG1,injEq->aH6
namespace Go.Pv
open Go
theorem co6 (r:j2):cT4 r=decide (Ar.co5 r):=cG1 ((dJ1 r).symm.trans (Ar.an8 r))
def dk3 (g:Z7)(l:List j2):Z7:=
 ⟨max (min (min (max (Ar.fin l (-5000) 10000).low (g.o8-1000)) (g.o8+300)) (Ar.fin l (-5000) 10000).high) (-5000),(Ar.fin l (-5000) 10000).source⟩
def granted (g:Z7):Prop:=(-5000<=g.o8/\g.o8<=10000)/\(-1<=g.N1/\g.N1<=15)
theorem cA3:∀(q:List j2) (s:p6),(∀r∈q,0<=r.N1/\r.N1<=15)->(-1<=s.source/\s.source<=15)-> -1<=(q.foldl Ar.stp s).source/\(q.foldl Ar.stp s).source<=15
 |[],_,_,h=>h
 |r::q,s,hq,h=>by
  rw[ex9]
  refine cA3 q _ (fun x hx=>hq x (bZ9 _ hx)) ?_
  have:=hq r (bN8 ..)
  unfold Ar.stp
  simp only
  split<;>omega
theorem em6 {l:List j2}(h:Ar.cW1 l (-5000) 10000)(g:Z7):granted (dk3 g l):=by
 have r:=Ar.dc4 (l:=l) (low:=-5000) (high:=10000) (by omega)
 have s:=cA3 (Ar.cR5 l) (Ar.s0 (-5000) 10000) (fun x hx=>by
  have:=h.req x ((Ar.cm9 h.dr).1 hx)
  exact this.1) (by show -1<=(-1:Int)/\(-1:Int)<=15;omega)
 unfold granted dk3
 unfold Ar.fin at r s|-
 simp only
 exact⟨by omega,s⟩
theorem eg9 {g:Z7}{l:List j2}(hg:granted g)(h:Ar.cW1 l (-5000) 10000)(h19:l.length<=19):ap1 g l (-5000) 10000 300 1000=some (dk3 g l,0):=by
 have r:=Ar.dc4 (l:=l) (low:=-5000) (high:=10000) (by omega)
 have hl:=h.len
 unfold granted at hg
 unfold ap1
 rw[show O9 g.o8=some (inR (-5000) 10000 g.o8)from rfl,Q8 hg.1.1 hg.1.2]
 simp only[aD6]
 rw[show((!true||decide (g.N1< -1))||decide (g.N1>15))=false by simp only[aX3,ed0,bN3,fi4];omega,Ar.em2 _ _ _ (by omega),Ar.ei6.2 h]
 simp only[fh8,aD6]
 rw[show(((0:Int) !=0))=false from rfl,show(((decide ((300:Int)<0)||decide ((300:Int)>20000))||decide ((1000:Int)<0))||decide ((1000:Int)>20000))=false from rfl,Ar.dV5 h h19]
 simp only[fh8,aD6]
 rw[j4 (n:=g.o8-1000) (by omega) (by omega),j4 (n:=g.o8+300) (by omega) (by omega)]
 simp only[aq0,an9]
 rfl
structure cJ3 (t:o6):Prop where
 air:cW4 t=true
 eJ9:bK0 t=true
 tor:aY5 t=true
 dead:(bv9 t.av6&&t.av6.Y.all (inR 0 10000))=true
 cG7:bn9 t.aH5=true
 idle:cA6 t.ae3=true
structure Giv (t:o6)(e:o4)(b:L0)(c:A5)(i:W4):Prop where
 t:cd1 t=true
 b:aV2 b=true
 c:bx9 e c=true
 i:eg7 i (e.z8.length:Int)=true
theorem dg3 {t:o6}(h:cd1 t=true):cJ3 t:=by
 unfold cd1 at h
 have h':=h
 simp only[aI9]at h'
 exact⟨h'.1.1.1.1.1,h'.1.1.1.1.2,h'.1.1.1.2,by rw[aI9];exact h'.1.1.2,h'.1.2,h'.2⟩
structure cZ2 (e:o4)(c:A5):Prop where
 eng:Ev.aD7 e
 ped:cY3 c.I4=true
 mix:cQ9 c.P9=true
 num:c.aa6.length=e.z8.length
 kno:c.aa6.all knB=true
 sum:bU3 c.ae3
 aE9:0<=c.O8/\c.O8<=1073741824
 gra:granted c.af0
theorem ce2 {e:o4}{c:A5}:bx9 e c=true↔cZ2 e c:=by
 unfold bx9
 simp only[aI9,fi3,aZ5]
 exact⟨fun⟨⟨⟨⟨⟨⟨⟨⟨a,b⟩,d⟩,f⟩,g⟩,h⟩,i⟩,j⟩,k⟩=>⟨a,b,d,f,g,h,i,j,k⟩,fun⟨a,b,d,f,g,h,i,j,k⟩=>⟨⟨⟨⟨⟨⟨⟨⟨a,b⟩,d⟩,f⟩,g⟩,h⟩,i⟩,j⟩,k⟩⟩
structure dp1 (i:W4)(n:Nat):Prop where
 num:1<=n/\n<=8
 len:i.X0.length=n
 few:i.Requests.length<=30
 spd:0<=i.D1/\i.D1<=12000
 pre:50<=i.K9/\i.K9<=3000
 air:-40<=i.L3/\i.L3<=150
 coo:-40<=i.au3/\i.au3<=150
 vol:0<=i.aH9/\i.aH9<=20000
 lam:0<=i.Lambda/\i.Lambda<=20000
 int:i.X0.all (inR 0 4095)=true
 req:i.Requests.all cT4=true
theorem eg8 {i:W4}{n:Nat}:eg7 i (n:Int)=true↔dp1 i n:=by
 unfold eg7
 simp only[aI9,fi3,aZ5]
 exact⟨fun⟨⟨⟨⟨⟨⟨⟨⟨⟨⟨a,b⟩,c⟩,d⟩,e⟩,f⟩,g⟩,h⟩,i⟩,j⟩,k⟩=>⟨by omega,by omega,c,d,e,f,g,h,i,j,k⟩,fun⟨a,b,c,d,e,f,g,h,i,j,k⟩=>⟨⟨⟨⟨⟨⟨⟨⟨⟨⟨by omega,by omega⟩,c⟩,d⟩,e⟩,f⟩,g⟩,h⟩,i⟩,j⟩,k⟩⟩
def dW8 (s:F4)(g:aV0)(c v:Int):F4×Int×Int:=(aE0 s g (cy1 c) v).getD (⟨0⟩,0,0)
theorem dO7 {s:F4}{g:aV0}(hg:cA6 g=true)(hs:bU3 s){c v:Int}(c0:-40<=c/\c<=150)(v0:0<=v/\v<=12000):aE0 s g (cy1 c) v=some ((dW8 s g c v).1,(dW8 s g c v).2.1,0)/\bU3 (dW8 s g c v).1:=by
 obtain⟨s',u,h1,h2⟩:=en0 hg hs c0 v0
 unfold dW8
 rw[h1]
 exact⟨rfl,h2⟩
section
variable (t:o6) (e:o4) (b:L0) (c:A5) (i:W4)
def pdV:U2:=dx5 c.I4 i.bF3 i.bF4
def wsV:Int:=dB9 t (pdV c i).Value i.D1
def acV:Bool:=dD3 (pdV c i).Value i.D1 i.au3
def idV:F4:=bif acV c i then(dW8 c.ae3 t.ae3 i.au3 i.D1).1 else⟨0⟩
def rqV:List j2:=⟨0,3,wsV t c i,0⟩::((bif acV c i then [⟨1,2,min (max (dW8 c.ae3 t.ae3 i.au3 i.D1).2.1 (-5000)) 10000,1⟩]else [])++i.Requests)
def grV:Z7:=dk3 c.af0 (rqV t c i)
def wtV:Int:=max 0 (grV t c i).o8
def thV (w:Int):Int:=
 let r2:=(ao8 t i.D1 w).getD (0,0)
 let r3:=(au4 t i.D1 (max 0 (bif r2.2 !=0 then 1048576 else r2.1)) i.L3).getD (0,0)
 let p:=min 1012 (bif r3.2 !=0 then 3000 else r3.1)
 let r5:=(au5 b (dc7 i.D1 p) p).getD (0,0)
 bif r5.2 !=0 then 1000 else r5.1
def cgV:Int:=chV t i.D1 i.K9 i.L3
def shV (w n:Int):Int×Int×Int:=(al6 t i.D1 (cgV t i) w n).getD (0,0,0)
def msV:Int:=min 1048576 ((cgV t i*10000/147000)*cO7 (mxV c.P9 i.Lambda) i.D1 (cgV t i)/1000)
def waV:Int×Int×Int:=(aI7 b c.O8 (msV t c i)).getD (0,0,0)
def inV (f:Int):Int×Int:=bif (f==0)||((waV t b c i).2.2 !=0)then(0,c.O8-ax6 b c.O8)else((waV t b c i).1,(waV t b c i).2.1)
def tmV (j:Int):Int:=bif decide (j>0)then min (max (cAt t.av6 i.aH9+eT8 j) 200) 20000 else 0
def tkV:Int:=min (max (60000000/max 1 i.D1) 4000) 1000000
def fiV (n:Nat)(f l tm:Int)(k:Nat):A0:=
 ⟨(k:Int)+1,max (-1280) (dT2 t i.D1 (cgV t i) i.au3 ((ksV c.aa6 i.X0).getD k ⟨0,0,0⟩).as4-l),max 500 (cu4 t i.aH9 (tkV i)),5760,bif cG0 n f (k:Int)then tm else 0,0,0⟩
end
structure eK9 (t:o6)(e:o4)(b:L0)(c:A5)(i:W4)(f l:Int):Prop where
 sh:shV t i (wtV t c i) (e.z8.length:Int)=(f,l,0)
 ok:ey5 t (cR4 t i.D1 (cgV t i)) (wtV t c i) (e.z8.length:Int) f l
def nxC (t:o6)(b:L0)(c:A5)(i:W4)(f:Int):A5:=⟨pdV c i,idV t c i,ksV c.aa6 i.X0,mxV c.P9 i.Lambda,(inV t b c i f).2,grV t c i⟩
def eZ7 (t:o6)(e:o4)(b:L0)(c:A5)(i:W4)(f l:Int):O3:=⟨thV t b i (wtV t c i),(dC2 e.z8.length).map (fiV t c i e.z8.length f l (tmV t i (inV t b c i f).1)),bN2 t (cR4 t i.D1 (cgV t i)) l f (e.z8.length:Int)⟩
theorem fh0 (w:Int)(h: -5000<=w/\w<=10000):Ar.co5 ⟨0,3,w,0⟩:=
 ⟨⟨(by decide:(0:Int)<=0),(by decide:(0:Int)<=15)⟩,⟨(by decide:(0:Int)<=0),(by decide:(0:Int)<=15)⟩,h,.inr ⟨(by decide:(0:Int)<=1),.inr rfl⟩⟩
theorem fa2 (w:Int)(h: -5000<=w/\w<=10000):Ar.co5 ⟨1,2,w,1⟩:=
 ⟨⟨(by decide:(0:Int)<=1),(by decide:(1:Int)<=15)⟩,⟨(by decide:(0:Int)<=1),(by decide:(1:Int)<=15)⟩,h,.inr ⟨(by decide:(1:Int)<=1),.inl rfl⟩⟩
theorem df7 {t:o6}{c:A5}{i:W4}{n:Nat}(hi:dp1 i n):Ar.cW1 (rqV t c i) (-5000) 10000:=by
 have hw:=dL3 t (pdV c i).Value i.D1
 have hr:=hi.few
 refine⟨fun r h=>?_,?_,by omega,by omega,by omega⟩
 ·unfold rqV at h
  rcases cq9.1 h with rfl|h
  ·exact fh0 _ hw
  ·rcases do5.1 h with h|h
   ·cases ha:acV c i
    ·rw[ha]at h;simp at h
    ·rw[ha]at h
     simp only[fi0,cq9,eT1,or_false]at h
     subst h
     exact fa2 _ ⟨by omega,by omega⟩
   ·have:=bF0.1 hi.req r h
    rw[co6,fi3]at this
    exact this
 ·unfold rqV
  rw[bv4,aZ7]
  cases acV c i<;>simp<;>omega
theorem aj3 (s:k6)(h:s.fail=0):u5 s 0=some s:=by
 unfold u5
 rw[h]
 simp only[beq_self_eq_true,fi0]
 cases s
 simp only at h
 subst h
 rfl
theorem eb7 {t:o6}{e:o4}{b:L0}{c:A5}{i:W4}{n:Nat}(ht:cJ3 t)(hc:cZ2 e c)(hi:dp1 i n)(h17:i.Requests.length<=17):
  W6 ⟨t,e,b,c,i,0,0,0,0,[],0,⟨0,[],0⟩,0⟩=some ⟨t,e,b,⟨pdV c i,idV t c i,c.aa6,c.P9,c.O8,grV t c i⟩,i,wtV t c i,0,0,0,[],0,⟨0,[],0⟩,0⟩:=by
 obtain⟨p1,p2⟩:=cR9 hc.ped i.bF3 i.bF4
 have p3:=(dP9.1 p2).v
 have hw:=eH0 ht.cG7 (v:=(dx5 c.I4 i.bF3 i.bF4).Value) p3 hi.spd
 have ha:=ee6 (v:=(dx5 c.I4 i.bF3 i.bF4).Value) (s:=i.D1) hi.coo
 obtain⟨d1,d2⟩:=dO7 ht.idle hc.sum hi.coo hi.spd
 have hf:=df7 (t:=t) (c:=c) hi
 have hst:=eg9 hc.gra hf (by unfold rqV;rw[bv4,aZ7];cases acV c i<;>simp<;>omega)
 have hrl:=hi.few
 unfold W6
 simp only
 rw[p1]
 simp only[aD6]
 rw[aj3 _ rfl]
 simp only[aD6]
 rw[hw]
 simp only[aD6]
 rw[aj3 _ rfl]
 simp only[aD6]
 rw[ha,(dK6 hi.coo).1]
 simp only[aD6]
 unfold grV wtV grV
 unfold idV rqV acV wsV pdV at*
 cases hac:dD3 (dx5 c.I4 i.bF3 i.bF4).Value i.D1 i.au3
 ·rw[hac]at hst
  simp only[fh8,aD6,cW3]at hst|-
  rw[H5 _ _ (by simp only[bv4,cV7];omega)]
  simp only[aD6,dH3,cW3]
  show ai2 (ai2 (ap1 c.af0 _ _ _ _ _) _) _=_
  rw[hst]
  simp only[aD6]
  rw[aj3 _ rfl]
  simp only[aD6,an9]
 ·rw[hac]at hst
  simp only[fi0,dH3,cW3]at hst|-
  show ai2 (ai2 (ai2 (aE0 c.ae3 t.ae3 (cy1 i.au3) i.D1) _) _) _=_
  rw[d1]
  simp only[aD6]
  rw[aj3 _ rfl]
  simp only[aD6,aB7,aq0,an9]
  rw[H5 _ _ (by simp only[bv4,cV7];omega)]
  simp only[aD6]
  rw[H5 _ _ (by simp only[aZ7,bv4,cV7];omega)]
  simp only[aD6,dH3,cW3]
  show ai2 (ai2 (ap1 c.af0 _ _ _ _ _) _) _=_
  rw[hst]
  simp only[aD6]
  rw[aj3 _ rfl]
  simp only[aD6]
theorem or_eq (x e o:Int):at7 x e o=some (bif e !=0 then o else x):=by unfold at7;cases e !=0<;>rfl
theorem dA1 {t:o6}{b:L0}{i:W4}{n:Nat}(ht:cJ3 t)(hb:aV2 b=true)(hi:dp1 i n)(e:o4)(c:A5)(w:Int):
  T7 ⟨t,e,b,c,i,w,0,0,0,[],0,⟨0,[],0⟩,0⟩=some ⟨t,e,b,c,i,w,0,0,0,[],0,⟨thV t b i w,[],0⟩,0⟩/\0<=thV t b i w/\thV t b i w<=1000:=by
 obtain⟨c2,e2,h2,_,_,_⟩:=eo1 ht.tor (w:=w) hi.spd
 unfold T7 thV
 simp only
 rw[h2]
 simp only[aD6,or_eq,ez4,an9]
 generalize max 0 (bif e2 !=0 then(1048576:Int)else c2)=x
 obtain⟨p,e3,h3,k3⟩:=dy0 ht.air (w:=x) hi.spd hi.air
 rw[h3]
 simp only[aD6,ez4,aq0]
 have hp:50<=(min 1012 (bif e3 !=0 then(3000:Int)else p))/\(min 1012 (bif e3 !=0 then(3000:Int)else p))<=1012:=by
  cases he:e3 !=0
  ·have h0:e3=0:=by simpa using he
   have:=k3.fit h0
   simp only[fh8];omega
  ·simp only[fi0];omega
 generalize min 1012 (bif e3 !=0 then(3000:Int)else p)=q at hp
 obtain⟨f1,f2,f3⟩:=eB4 (s:=i.D1) (p:=q) hi.spd (by omega)
 rw[f1]
 simp only[aD6]
 rw[aj3 _ rfl]
 simp only[aD6]
 obtain⟨y,e5,h5,k5⟩:=dB2 hb (f:=dc7 i.D1 q) (p:=q) (by omega) (by omega)
 rw[h5]
 simp only[aD6,ez4]
 refine⟨trivial,?_⟩
 cases he:e5 !=0
 ·have h0:e5=0:=by simpa using he
  have:=k5.fit h0
  simp only[fh8];omega
 ·simp only[fi0];omega
theorem bd3 {t:o6}(ht:cJ3 t)(i:W4):0<=cgV t i/\cgV t i<=1048576:=(db2 ht.air i.D1 i.K9 i.L3).2
theorem fa7 {t:o6}{i:W4}{n:Nat}(ht:cJ3 t)(hi:dp1 i n){w:Int}(hw:0<=w):∃f l,shV t i w (n:Int)=(f,l,0)/\al6 t i.D1 (cgV t i) w (n:Int)=some (f,l,0)/\ey5 t (cR4 t i.D1 (cgV t i)) w (n:Int) f l:=by
 have hn:=hi.num
 obtain⟨f,l,h1,h2⟩:=et2 ht.tor hi.spd (bd3 ht i) hw (n:=(n:Int)) (by omega)
 exact⟨f,l,by unfold shV;rw[h1];rfl,h1,h2⟩
theorem eu4 {t:o6}{i:W4}{e:o4}(ht:cJ3 t)(hi:dp1 i e.z8.length){w f l:Int}(h:al6 t i.D1 (cgV t i) w (e.z8.length:Int)=some (f,l,0))(k:ey5 t (cR4 t i.D1 (cgV t i)) w (e.z8.length:Int) f l)(b:L0)(c:A5)(th:Int):
  Z9 ⟨t,e,b,c,i,w,0,0,0,[],0,⟨th,[],0⟩,0⟩=
   some ⟨t,e,b,c,i,w,cgV t i,f,l,(dC2 e.z8.length).map (fun j:Nat=>cG0 (e.z8.length:Int) f (j:Int)),0,⟨th,[],bN2 t (cR4 t i.D1 (cgV t i)) l f (e.z8.length:Int)⟩,0⟩:=by
 have hn:=hi.num
 have k1:=k.f0;have k2:=k.f1;have k3:=k.l0;have k4:=k.l1
 unfold Z9
 simp only
 rw[ci0 ht.air hi.spd hi.pre hi.air]
 simp only[aD6]
 rw[aj3 _ rfl]
 simp only[aD6]
 rw[show chV t i.D1 i.K9 i.L3=cgV t i from rfl,h]
 simp only[aD6]
 rw[aj3 _ rfl]
 simp only[aD6]
 rw[dI4 hn ⟨k1,k2⟩]
 simp only[aD6]
 rw[aj3 _ rfl]
 simp only[aD6]
 rw[ec6 ht.tor hi.spd (bd3 ht i) ⟨k3,k4⟩ ⟨k1,k2⟩ (by omega)]
 simp only[aD6]
 rw[aj3 _ rfl]
 simp only[aD6]
theorem dw3 {t:o6}{c:A5}{i:W4}(ht:cJ3 t):(0<=cgV t i*10000/147000/\cgV t i*10000/147000<=80000)/\(0<=(cgV t i*10000/147000)*cO7 (mxV c.P9 i.Lambda) i.D1 (cgV t i)/\(cgV t i*10000/147000)*cO7 (mxV c.P9 i.Lambda) i.D1 (cgV t i)<=80000*1300)/\0<=msV t c i/\msV t c i<=1048576:=by
 have h1:=bd3 ht i
 have h2:=dV9 (mxV c.P9 i.Lambda) i.D1 (cgV t i)
 have h3:0<=cgV t i*10000/147000/\cgV t i*10000/147000<=80000:=by omega
 have h4:=aU6 h3.1 h3.2 (show 0<=cO7 (mxV c.P9 i.Lambda) i.D1 (cgV t i) by omega) h2.2
 refine⟨h3,h4,?_⟩
 unfold msV
 omega
theorem dS3 {t:o6}{b:L0}{e:o4}{c:A5}{i:W4}(ht:cJ3 t)(hb:aV2 b=true)(hc:cZ2 e c):aI7 b c.O8 (msV t c i)=some (waV t b c i)/\ee5 b c.O8 (msV t c i) (waV t b c i).1 (waV t b c i).2.1 (waV t b c i).2.2:=by
 obtain⟨j,x,e1,h1,h2⟩:=em1 hb hc.aE9 (dw3 (c:=c) (i:=i) ht).2.2
 unfold waV
 rw[h1]
 exact⟨rfl,h2⟩
theorem du9 {t:o6}{b:L0}{e:o4}{c:A5}{i:W4}(ht:cJ3 t)(hb:aV2 b=true)(hc:cZ2 e c)(f:Int):(0<=(inV t b c i f).1/\(inV t b c i f).1<=1048576)/\(0<=(inV t b c i f).2/\(inV t b c i f).2<=1073741824):=by
 obtain⟨_,k⟩:=dS3 (i:=i) ht hb hc
 have hl:=by1 hb hc.aE9.1
 have hf:=hc.aE9
 unfold inV
 cases hz:(f==0)||((waV t b c i).2.2 !=0)
 ·rw[bN3]at hz
  have h0:(waV t b c i).2.2=0:=by simpa using hz.2
  exact⟨k.inj h0,k.ran h0⟩
 ·simp only[fi0];omega
theorem eG0 {t:o6}{b:L0}{e:o4}{c:A5}{i:W4}{n:Nat}(ht:cJ3 t)(hb:aV2 b=true)(hc:cZ2 e c)(hi:dp1 i n)(pd:U2)(id:F4)(gr:Z7)(w f l:Int)(pt:List Bool)(o:O3):
  ad5 ⟨t,e,b,⟨pd,id,c.aa6,c.P9,c.O8,gr⟩,i,w,cgV t i,f,l,pt,0,o,0⟩=
   some ⟨t,e,b,⟨pd,id,c.aa6,mxV c.P9 i.Lambda,(inV t b c i f).2,gr⟩,i,w,cgV t i,f,l,pt,tmV t i (inV t b c i f).1,o,0⟩:=by
 obtain⟨x1,x2⟩:=de7 hc.mix hi.lam hi.spd (bd3 ht i)
 have hf:=eN8 x2 hi.spd (bd3 ht i)
 obtain⟨m1,m2,m3⟩:=dw3 (c:=c) (i:=i) ht
 obtain⟨w1,w2⟩:=dS3 (i:=i) ht hb hc
 have hr:=(du9 (i:=i) ht hb hc f).1
 have hm:F2 1048576 (j7 (db0 (j7 ((cgV t i*10000/147000)*cO7 (mxV c.P9 i.Lambda) i.D1 (cgV t i))) 1000))=msV t c i:=by
  unfold msV
  rw[j4 (n:=(cgV t i*10000/147000)*cO7 (mxV c.P9 i.Lambda) i.D1 (cgV t i)) (by omega) (by omega),cA0 m2.1,j4 (by omega) (by omega),aq0]
 unfold ad5
 simp only
 rw[x1]
 simp only[aD6]
 rw[aj3 _ rfl]
 simp only[aD6]
 rw[hf]
 simp only[aD6]
 rw[aj3 _ rfl]
 simp only[aD6]
 rw[el6 (bd3 ht i)]
 simp only[aD6]
 rw[aj3 _ rfl]
 simp only[aD6]
 rw[hm,w1]
 simp only[aD6]
 have hin:∀s:k6,s.b=b->s.c.O8=c.O8->s.fail=0->(bif ((f==0)||((waV t b c i).2.2 !=0))then(ai2 (aO1 b c.O8 0) fun r6=>ai2 (u5 s r6.2.2) fun v4=>some (0,r6.2.1,v4))else(some ((waV t b c i).1,(waV t b c i).2.1,s)))=some ((inV t b c i f).1,(inV t b c i f).2,s):=by
  intro s _ _ hs
  unfold inV
  cases(f==0)||((waV t b c i).2.2 !=0)
  ·rfl
  ·simp only[fi0]
   rw[el2 hb hc.aE9]
   simp only[aD6]
   rw[aj3 _ hs]
   rfl
 rw[hin _ rfl rfl rfl]
 simp only[aD6]
 unfold tmV
 cases hj:decide ((inV t b c i f).1>0)
 ·rfl
 ·have hj':=of_decide_eq_true hj
  simp only[fi0]
  show ai2 (aO2 t (inV t b c i f).1 i.aH9) _=_
  rw[el8 ht.dead ⟨hj',hr.2⟩ hi.vol]
  simp only[aD6]
  rw[aj3 _ rfl]
  simp only[aD6,aB7,aq0,an9]
theorem eu2 {t:o6}{e:o4}{c:A5}{i:W4}(ht:cJ3 t)(hc:cZ2 e c)(hi:dp1 i e.z8.length)(b:L0)(pd:U2)(id:F4)(pb:M6)(fm:Int)(gr:Z7)(w f l tm th to_:Int)(hl:0<=l/\l<=2560):
  Z8 ⟨t,e,b,⟨pd,id,c.aa6,pb,fm,gr⟩,i,w,cgV t i,f,l,(dC2 e.z8.length).map (fun j:Nat=>cG0 (e.z8.length:Int) f (j:Int)),tm,⟨th,[],to_⟩,0⟩=
   some ⟨t,e,b,⟨pd,id,ksV c.aa6 i.X0,pb,fm,gr⟩,i,w,cgV t i,f,l,(dC2 e.z8.length).map (fun j:Nat=>cG0 (e.z8.length:Int) f (j:Int)),tm,⟨th,(dC2 e.z8.length).map (fiV t c i e.z8.length f l tm),to_⟩,0⟩:=by
 have hn:=hi.num
 have hs:=hi.spd
 obtain⟨k1,k2,k3⟩:=eJ0 hc.kno hi.int (by rw[hc.num];exact hn) (by rw[hc.num];exact hi.len)
 rw[hc.num]at k3
 have hk2:=bF0.1 k2
 have hq:0<=60000000/max 1 i.D1/\60000000/max 1 i.D1<=60000000:=⟨eO6 (by omega) (by omega),eM1 _ (by omega)⟩
 have htk:4000<=tkV i/\tkV i<=1000000:=by unfold tkV;omega
 obtain⟨d1,d2,d3⟩:=ek4 ht.eJ9 ht.tor hi.vol htk
 unfold Z8
 simp only
 rw[k1]
 simp only[aD6]
 rw[aj3 _ rfl]
 simp only[aD6]
 rw[an9,eE5 (by omega) (by omega) (by omega)]
 simp only[aD6,aB7,aq0,an9]
 rw[show min (max (60000000/max 1 i.D1) 4000) 1000000=tkV i from rfl,d1]
 simp only[aD6]
 rw[aj3 _ rfl]
 simp only[aD6]
 rw[show(((0:Int) !=0))=false from rfl]
 simp only[fh8]
 generalize hP:(dC2 e.z8.length).map (fun j:Nat=>cG0 (e.z8.length:Int) f (j:Int))=P
 have hPl:P.length=e.z8.length:=by rw[<-hP];simp
 have hPg:∀j,j<e.z8.length->P[j]? =some (cG0 (e.z8.length:Int) f (j:Int)):=fun j hj=>by rw[<-hP,cV8,List.getElem?_range hj];rfl
 obtain⟨u,eu,hu⟩:=af9 e.z8.length (by omega) (ad1 (cu4 t i.aH9 (tkV i),0)) (fun k u=>u=⟨t,e,b,⟨pd,id,ksV c.aa6 i.X0,pb,fm,gr⟩,i,w,cgV t i,f,l,P,tm,⟨th,(dC2 k).map (fiV t c i e.z8.length f l tm),to_⟩,0⟩)
  ⟨t,e,b,⟨pd,id,ksV c.aa6 i.X0,pb,fm,gr⟩,i,w,cgV t i,f,l,P,tm,⟨th,[],to_⟩,0⟩ rfl (fun j hj u hu=>by
   subst hu
   have hj2:j<(ksV c.aa6 i.X0).length:=by omega
   have hr:=(eP6.1 (hk2 _ (bd9 hj2))).r
   have hang:=dT3 t i.D1 (cgV t i) i.au3 (ksV c.aa6 i.X0)[j].as4
   unfold ad1
   simp only
   rw[C5 _ _ hj2]
   simp only[aD6]
   rw[ef7 ht.eJ9 ht.tor hi.spd (bd3 ht i) hi.coo ⟨hr.1,by omega⟩]
   simp only[aD6]
   rw[aj3 _ rfl]
   simp only[aD6]
   rw[T3,hPg j hj]
   simp only[aD6]
   have hb:(bif cG0 (e.z8.length:Int) f (j:Int)then(some tm)else(some 0))=some (bif cG0 (e.z8.length:Int) f (j:Int)then tm else 0):=by cases cG0 (e.z8.length:Int) f (j:Int)<;>rfl
   rw[hb]
   simp only[aD6]
   rw[H5 _ _ (by simp only[cV9,List.length_range,bv4,cV7];omega)]
   simp only[aD6]
   refine⟨_,rfl,?_⟩
   rw[List.range_succ,eK6,cW0,ep3]
   unfold fiV
   rw[j4 (n:=(j:Int)+1) (by omega) (by omega),j4 (by omega) (by omega),an9,an9,List.getD_eq_getElem?_getD,aW5 hj2]
   rfl)
 rw[eu,hu]
 rfl
theorem ej7 {t:o6}{e:o4}{b:L0}{c:A5}{i:W4}(h:Giv t e b c i)(h17:i.Requests.length<=17):∃f l,eK9 t e b c i f l/\aE3 t e b c i=some (nxC t b c i f,eZ7 t e b c i f l,0):=by
 have ht:=dg3 h.t
 have hc:=ce2.1 h.c
 have hi:=eg8.1 h.i
 obtain⟨f,l,s1,s2,s3⟩:=fa7 ht hi (w:=wtV t c i) (by unfold wtV;omega)
 refine⟨f,l,⟨s1,s3⟩,?_⟩
 unfold aE3
 rw[bh2,h.t,dh8,h.b,dO4,h.c]
 simp only[aD6,aX3,fh8]
 rw[eL5,h.i]
 simp only[aD6,aX3,fh8]
 rw[eb7 ht hc hi h17]
 simp only[aD6]
 rw[(dA1 ht h.b hi e _ (wtV t c i)).1]
 simp only[aD6]
 rw[eu4 ht hi s2 s3]
 simp only[aD6]
 rw[eG0 ht h.b hc hi]
 simp only[aD6]
 rw[eu2 ht hc hi _ _ _ _ _ _ _ _ _ _ _ _ ⟨s3.l0,s3.l1⟩]
 simp only[aD6]
 rfl
end Go.Pv
namespace Go.Proofs.YtmhdghdbojdgfaaGreat.Ec
open Go Go.Pv Go.Pv.Ec Go.Proofs
theorem cu9 (a c:Int)(ha0: -9223372036854775808<=a)(ha1:a<=9223372036854775807)(hc0:0<c)(hc1:c<=9223372036854775807):(V1 a c).m=some (a/c):=by
 rw[aQ4]
 exact bR0 a c ha0 ha1 hc0 hc1
theorem bq5 (x lo hi:Int):(C4 x lo hi).m=some (F2 (G4 x lo) hi):=rfl
theorem bl3 (x lo hi:Int)(h:lo<=hi):lo<=F2 (G4 x lo) hi/\F2 (G4 x lo) hi<=hi:=by
 unfold F2 G4
 split<;>split<;>omega
theorem dP5 (p b:Int)(hb:0<b)(hb1:b<=1099511627776):∃r,(ab7 p b).m=some r/\0<=r/\r<b:=by
 simp only[ab7,C.of,M.run,L1.m]
 rw[show((b==0)||(b==(-1)))=false by simp;omega]
 simp only[fh8]
 have e:cf7 p b=some (ew5 p b):=by unfold cf7;rw[if_neg (by omega)]
 rw[e]
 simp only[aD6]
 have h1:(ew5 p b)<b:=Int.tmod_lt_of_pos p hb
 have h2:-b<ew5 p b:=by
  have h3:=Int.tmod_lt_of_pos (-p) hb
  rw[Int.neg_tmod]at h3
  omega
 generalize ew5 p b=q at h1 h2|-
 by_cases h3:q<0
 ·rw[show((q !=0)&&(!((decide (q<0))==(decide (b<0)))))=true by
   rw[fi1 h3,fi2 (by omega)];simp;omega]
  exact⟨_,rfl,by rw[j4 (by omega) (by omega)];omega,by rw[j4 (by omega) (by omega)];omega⟩
 ·rw[show((q !=0)&&(!((decide (q<0))==(decide (b<0)))))=false by
   rw[fi2 h3,fi2 (by omega)];simp]
  exact⟨_,rfl,by omega,h1⟩
theorem cU4 {α S R:Type}(f:Int->α->S->Option (Fl S R))(I:Nat->S->Prop):∀(r:List α) (k:Nat) (s:S),I k s->(∀j x s,r[j]? =some x->I (k+j) s->∃s',f ((k+j:Nat):Int) x s=some (.next s')/\I (k+j+1) s')->
  ∃s',L7 f r (k:Int) s=some (.inl s')/\I (k+r.length) s'
 |[],k,s,h,_=>⟨s,by simp[L7],h⟩
 |x::r,k,s,h,g=>by
  obtain⟨s',h1,h2⟩:=g 0 x s rfl h
  obtain⟨t,h3,h4⟩:=cU4 f I r (k+1) s' h2 (fun j y u hy hu=>by
   have:=g (j+1) y u (by simpa using hy) (by rw[show k+(j+1)=k+1+j by omega];exact hu)
   rw[show k+(j+1)=k+1+j by omega]at this
   exact this)
  refine⟨t,?_,by rw[bv4,show k+(r.length+1)=k+1+r.length by omega];exact h4⟩
  simp only[L7]
  rw[show((k:Nat):Int)=((k+0:Nat):Int) by rfl,h1]
  simp only[aD6]
  exact h3
theorem aM0 {α S R:Type}(l:List α)(hn:l.length<=9223372036854775807)(f:Int->α->S->Option (Fl S R))(I:Nat->S->Prop)(s:S)(h0:I 0 s)(h:∀k x s,l[k]? =some x->I k s->∃s',f (k:Int) x s=some (.next s')/\I (k+1) s'):
  ∃s',J7 (fun p:Int×S=>bif decide (p.1<(l.length:Int))then((C9 l p.1).bind fun x=>(f p.1 x p.2).bind (aC9 p.1))else some (.inr (.inl p.2))) (0,s)=some (.inl s')/\I l.length s':=by
 have e:=K4 l hn f s
 obtain⟨s',h1,h2⟩:=cU4 f I l 0 s h0 (fun j x s hx hs=>by rw[cX5]at hs|-;exact h j x s hx hs)
 refine⟨s',?_,by rw[cX5]at h2;exact h2⟩
 exact e.trans h1
structure bX4 (b:L0)(p:Y5):Prop where
 body:aV2 b=true
 pos:0<=p.J8/\p.J8<=3019898879
 spd:0<=p.D1/\p.D1<=262144
 rest:0<=p.Rest/\p.Rest<=b.ai3-1
 pre:50<=p.K9/\p.K9<=1013
 aE9:0<=p.O8/\p.O8<=2147483648
 few:(p.Path.length:Int)<=b.aX1+1
 path:∀x∈p.Path,500<=x/\x<=2000
theorem cw7 (x a b:Int):(F5 x a b).m=some (decide (x>=a)&&decide (x<=b)):=rfl
theorem df2 {x a b:Int}(h:a<=x/\x<=b):(F5 x a b).m=some true:=by
 rw[cw7,fi1 (by omega),fi1 (by omega)];rfl
theorem dx8 (b:L0):(ai9 b).m=some (aV2 b):=by rw[br8,dh8]
theorem dm6 {b:L0}{p:Y5}(h:bX4 b p):(bu3 b p).m=some true:=by
 have hb:=br5 h.body
 have h1:=hb.i
 simp only[bu3,C.of,M.run,dx8,h.body,aD6,df2 h.pos,df2 h.spd,df2 h.pre,df2 h.aE9,j4 (n:=b.ai3-1) (by omega) (by omega),df2 h.rest,aX3,fh8]
 rw[j4 (n:=b.aX1+1) (by have:=hb.de;omega) (by have:=hb.de;omega),fi2 (by have:=h.few;omega)]
 simp only[eO3,fh8]
 obtain⟨u,h2,_⟩:=aM0 p.Path (by have:=h.few;have:=hb.de;omega) (fun i x (s:Unit)=>(bA0 i x s).run) (fun _ _=>True) () trivial (fun k x s hx _=>by
  refine⟨(),?_,trivial⟩
  simp only[bA0,M.run,df2 (h.path x (do6 hx)),aD6,aX3,fh8])
 rw[h2]
 rfl
theorem dS1 (n:Int):-9223372036854775808<=j7 n/\j7 n<=9223372036854775807:=by
 unfold j7 IntKind.wrap
 simp[IntKind.signed,IntKind.bits]
 omega
theorem eq7 {w:ap0}{q r g:Int}(hb:aV2 w.b=true):
  ∃v r',(bf1 w q r g).m=some ⟨⟨w.A7.J8,v,r',w.A7.K9,w.A7.O8,w.A7.Path⟩,w.b⟩/\(0<=v/\v<=262144)/\(0<=r'/\r'<=w.b.ai3-1):=by
 have h1:=(br5 hb).i
 simp only[bf1,CG.of,M.run]
 generalize hn:j7 ((j7 ((j7 ((j7 (q-r))-(j7 (db0 (j7 (w.b.ao9*w.A7.D1)) 65536))))*g))+w.A7.Rest)=n
 have h2:-9223372036854775808<=n/\n<=9223372036854775807:=hn▸dS1 _
 obtain⟨m,h3,h4,h5⟩:=dP5 n w.b.ai3 (by omega) (by omega)
 rw[cu9 n w.b.ai3 h2.1 h2.2 (by omega) (by omega),h3]
 simp only[aD6]
 cases(decide (j7 (w.A7.D1+n/w.b.ai3)<0)||decide (j7 (w.A7.D1+n/w.b.ai3)>262144))
 ·simp only[fh8,aD6,bq5]
  exact⟨_,_,rfl,bl3 _ _ _ (by omega),h4,by omega⟩
 ·simp only[fi0,aD6,bq5]
  exact⟨_,_,rfl,bl3 _ _ _ (by omega),by omega,by omega⟩
theorem dx7 {w:ap0}{q r g:Int}(hb:aV2 w.b=true):
  ∃v,(aR5 w q r g).m=some ⟨⟨w.A7.J8,w.A7.D1,w.A7.Rest,v,w.A7.O8,w.A7.Path⟩,w.b⟩/\(50<=v/\v<=1013):=by
 have h1:=(br5 hb).v
 simp only[aR5,CG.of,M.run]
 generalize hn:j7 ((j7 ((j7 (db0 (j7 ((j7 (w.b.I6*q))*(j7 (1013-w.A7.K9)))) 1000))-(j7 (db0 (j7 (r*w.A7.K9)) 1024))))*g)=n
 have h2:-9223372036854775808<=n/\n<=9223372036854775807:=hn▸dS1 _
 rw[j4 (n:=65536*w.b.aO6) (by omega) (by omega),cu9 n _ h2.1 h2.2 (by omega) (by omega)]
 simp only[aD6,bq5]
 exact⟨_,rfl,bl3 _ _ _ (by omega)⟩
theorem eE2 {b:L0}{p:Y5}(h:bX4 b p)(a t l g:Int):∃r u e,(cf3 b p a t l g).m=some (r,u,e)/\(e=0->bX4 b r):=by
 have hb:=br5 h.body
 simp only[cf3,C.of,M.run,dm6 h,cw7,aD6,aX3,fh8,bg,U1.m]
 generalize hc:(bif (bif (bif (!(decide (a>=0)&&decide (a<=1000)))then true else !(decide (t>= -5000)&&decide (t<=10000)))then true else !(decide (l>= -10000)&&decide (l<=10000)))then true else !(decide (g>=1)&&decide (g<=10000)))=c
 cases c
 ·have hg:1<=g/\g<=10000:=by
   simp only[fd5,bN3,ef3,aI9,fi3]at hc
   omega
  have hf:=h.few
  rw[H5 _ _ (by simp only[cV7];have:=hb.de;omega)]
  simp only[fh8,aD6,cW3]
  obtain⟨v,r,e1,h1,h2⟩:=eq7 (w:=⟨⟨p.J8,p.D1,p.Rest,p.K9,p.O8,p.Path⟩,b⟩) (q:=t) (r:=l) (g:=g) h.body
  rw[e1]
  simp only[aD6]
  obtain⟨v3,e3,h3⟩:=dx7 (w:=⟨⟨(j7 (p.J8+j7 (p.D1*g))).tmod 3019898880,v,r,p.K9,p.O8,p.Path⟩,b⟩) (q:=a) (r:=p.D1) (g:=g) h.body
  rw[e3]
  refine⟨_,_,_,rfl,fun _=>⟨h.body,?_,h1,h2,h3,h.aE9,hf,h.path⟩⟩
  have hm0:0<=p.D1*g:=eT0 h.spd.1 (by omega)
  have hm1:p.D1*g<=262144*10000:=eR2 h.spd.2 hg.2 (by omega) (by omega)
  have hp:=h.pos
  rw[j4 (n:=p.D1*g) (by omega) (by omega),j4 (by omega) (by omega),do7 (by omega)]
  have:=Int.emod_lt_of_pos (p.J8+p.D1*g) (show(0:Int)<3019898880 by omega)
  refine⟨Int.emod_nonneg _ (by omega),?_⟩
  simp only
  omega
 ·exact⟨_,_,_,rfl,fun h=>by cases h⟩
theorem ea1 {b:L0}{p:Y5}(h:bX4 b p)(f a:Int):∃r u e,(bJ1 b p f a).m=some (r,u,e)/\(e=0->bX4 b r):=by
 have hb:=br5 h.body
 simp only[bJ1,C.of,M.run,dm6 h,cw7,aD6,aX3,fh8,bg,U1.m,L1.m]
 generalize hc:(bif (!(decide (f>=0)&&decide (f<=1048576)))then true else !(decide (a>=0)&&decide (a<=1048576)))=c
 cases c
 ·have hg:(0<=f/\f<=1048576)/\0<=a/\a<=1048576:=by
   simp only[fd5,bN3,ef3,aI9,fi3]at hc
   omega
  have hf:=h.few
  have hfi:=hb.fi;have hev:=hb.ev;have hfl:=h.aE9
  have a0:0<=f*b.O8:=eT0 hg.1.1 hfi.1
  have a1:f*b.O8<=1048576*1023:=eR2 hg.1.2 hfi.2 (by omega) (by omega)
  have b0:0<=p.O8*b.K7:=eT0 hfl.1 (by omega)
  have b1:p.O8*b.K7<=p.O8*1024:=ed7 hev.2 hfl.1
  have b2:p.O8*1<=p.O8*b.K7:=ed7 hev.1 hfl.1
  generalize f*b.O8=A at a0 a1|-
  generalize p.O8*b.K7=B at b0 b1 b2|-
  rw[j4 (n:=A) (by omega) (by omega),j4 (n:=B) (by omega) (by omega),cA0 a0,cA0 b0]
  rw[j4 (n:=A/1024) (by omega) (by omega),j4 (n:=B/1024) (by omega) (by omega),j4 (n:=f-A/1024) (by omega) (by omega),j4 (n:=A/1024-B/1024) (by omega) (by omega),
   j4 (n:=f-A/1024+B/1024) (by omega) (by omega),j4 (n:=p.O8+(A/1024-B/1024)) (by omega) (by omega),j4 (n:=10000*a) (by omega) (by omega),j4 (n:=147*(f-A/1024+B/1024)) (by omega) (by omega),j4 (n:=b.aX1+1) (by have:=hb.de;omega) (by have:=hb.de;omega)]
  have key:∃m,(bif decide (f-A/1024+B/1024>0)then(bm5 .i64 (10000*a) (147*(f-A/1024+B/1024))).bind fun t=>(C4 t 500 2000).m.bind fun t=>some t else some 2000)=some m/\500<=m/\m<=2000:=by
   by_cases hp:f-A/1024+B/1024>0
   ·rw[fi1 hp,er1 (by omega) (by omega) (by omega)]
    simp only[fi0,aD6,bq5]
    exact⟨_,rfl,bl3 _ _ _ (by omega)⟩
   ·rw[fi2 hp];exact⟨_,rfl,by omega,by omega⟩
  obtain⟨m,e1,h1⟩:=key
  rw[e1]
  have hde:=hb.de
  rw[H5 _ _ (by simp only[cV7];omega)]
  simp only[fh8,aD6,cW3]
  rw[H5 _ _ (by simp only[cr0];omega)]
  simp only[aD6]
  have hx:∀x∈p.Path++[m],500<=x/\x<=2000:=fun x hx=>by
   rcases do5.1 hx with h2|h2
   ·exact h.path x h2
   ·rw[eM7]at h2;subst h2;exact h1
  have hl:(p.Path++[m]).length=p.Path.length+1:=by simp
  have hfm:0<=p.O8+(A/1024-B/1024)/\p.O8+(A/1024-B/1024)<=2147483648:=by omega
  by_cases hd:((p.Path++[m]).length:Int)>b.aX1+1
  ·rw[fi1 hd]
   have:ax7 (p.Path++[m]) 1 ((p.Path++[m]).length:Int)=some (((p.Path++[m]).drop 1).take ((p.Path++[m]).length-1)):=by
    unfold ax7
    rw[if_pos (by omega)]
    rfl
   rw[this]
   simp only[fi0,aD6]
   refine⟨_,_,_,rfl,fun _=>⟨h.body,h.pos,h.spd,h.rest,h.pre,hfm,?_,fun x h2=>hx x (eU8 (ey1 h2))⟩⟩
   simp only[bw6,do0]
   omega
  ·rw[fi2 hd]
   simp only[fh8,aD6]
   exact⟨_,_,_,rfl,fun _=>⟨h.body,h.pos,h.spd,h.rest,h.pre,hfm,by simp only;omega,hx⟩⟩
 ·exact⟨_,_,_,rfl,fun h=>by cases h⟩
theorem df3 (p:Y5):∃x,(bJ2 p).m=some x:=by
 simp only[bJ2,C.of,M.run,L1.m]
 cases h:p.Path with
 |nil=>exact⟨_,rfl⟩
 |cons x l=>exact⟨x,rfl⟩
theorem eR1 (b:L0):∃p e,(cw8 b).m=some (p,e)/\(e=0->bX4 b p):=by
 simp only[cw8,C.of,M.run,dx8,aD6]
 cases h:aV2 b
 ·exact⟨_,_,rfl,fun h=>by cases h⟩
 ·have hb:=br5 h
  exact⟨_,_,rfl,fun _=>⟨h,by simp,by simp,⟨by simp,by have:=hb.i;simp only;omega⟩,by simp,by simp,by have:=hb.de;simp only[cV7];omega,by simp⟩⟩
theorem ec4 (s:j8)(l:List Int)(hl:l.length<=1000000)(hv:0<s.u.A7.D1/\s.u.A7.D1<=262144)(hp:0<=s.u.A7.J8/\s.u.A7.J8<=3019898879)(ht:0<=s.t/\s.t<=1099511627776)
  (he:∀x∈l,65536*x<=s.u.A7.J8+10000*s.u.A7.D1) (h0:∀x∈l,0<=x):
  ∃r,(aI6 s l).m=some r/\r.length=l.length/\(∀x∈r,x<=s.t+10000):=by
 simp only[aI6,CG.of,M.run]
 obtain⟨r,h1,h2,h3⟩:=aM0 l (by omega) (fun i x (o:List Int)=>(aP3 s i x o).run) (fun k o=>o.length=k/\∀x∈o,x<=s.t+10000) [] ⟨rfl,by simp⟩ (fun k x o hx hI=>by
  have hk:=(bH2.1 hx).1
  have hm:=do6 hx
  have e1:=he x hm
  have e0:=h0 x hm
  simp only[aP3,M.run,U1.m]
  rw[j4 (n:=65536*x) (by omega) (by omega),j4 (n:=s.u.A7.J8-65536*x) (by omega) (by omega),cu9 _ _ (by omega) (by omega) hv.1 (by omega)]
  simp only[aD6]
  rw[H5 _ _ (by simp only[cr0];omega)]
  have hq:-10000<=(s.u.A7.J8-65536*x)/s.u.A7.D1:=by
   rw[Int.le_ediv_iff_mul_le hv.1]
   omega
  have hq1:(s.u.A7.J8-65536*x)/s.u.A7.D1<=s.u.A7.J8:=by
   refine fe7 (Int.ediv_le_ediv hv.1 (show s.u.A7.J8-65536*x<=s.u.A7.J8 by omega)) (eM1 _ hp.1)
  refine⟨_,rfl,by simp only[aZ7,cr0];omega,fun y hy=>?_⟩
  rcases do5.1 hy with h4|h4
  ·exact hI.2 y h4
  ·rw[eM7]at h4
   subst h4
   rw[j4 (by omega) (by omega)]
   omega)
 rw[h1]
 exact⟨r,rfl,h2,h3⟩
end Go.Proofs.YtmhdghdbojdgfaaGreat.Ec
namespace Go.Pv
open Go
namespace Fr
theorem cp5 {α S R:Type}(f:Int->α->S->Option (Fl S R)):∀(l:List α) (i:Int) (s:S),(∀i,∀y∈l,∀s,∃x,f i y s=some x)->∃r,L7 f l i s=some r
 |[],i,s,_=>⟨_,rfl⟩
 |y::l,i,s,h=>by
  obtain⟨x,hx⟩:=h i y (bN8 ..) s
  simp only[L7,hx,aD6]
  cases x with
  |next s'=>exact cp5 f l (i+1) s' fun i y hy s=>h i y (bZ9 _ hy) s
  |brk s'=>exact⟨_,rfl⟩
  |ret r=>exact⟨_,rfl⟩
theorem dr9 (l:List u7)(hl:l.length<=9223372036854775807):∃b,am9 l=some b:=by
 unfold am9
 rw[K4 _ hl]
 obtain⟨r,hr⟩:=cp5 aC4 l 0 [] (fun i y _ s=>by unfold aC4;cases cQ5 false s y.Code<;>exact⟨_,rfl⟩)
 rw[hr]
 cases r<;>exact⟨_,rfl⟩
structure cC8 (c:u7):Prop where
 fail:1<=c.bg2/\c.bg2<=100
 pass:1<=c.Pass/\c.Pass<=100
 eO4:1<=c.cC9/\c.cC9<=100
 age:c.cC9<=c.Age/\c.Age<=255
 frame:0<=c.Frame/\c.Frame<=8
def cfB (c:u7):Bool:=((((((decide (c.Code>=1)&&decide (c.Code<=16777215))&&(decide (c.bg2>=1)&&decide (c.bg2<=100)))&&(decide (c.Pass>=1)&&decide (c.Pass<=100)))&&(decide (c.cC9>=1)&&decide (c.cC9<=100)))&&(decide (c.Age>=c.cC9)&&decide (c.Age<=255)))&&(decide (c.E4>=0)&&decide (c.E4<=255)))&&(decide (c.Frame>=0)&&decide (c.Frame<=8))
theorem eW9 (c:u7):ad6 c=some (cfB c):=by
 unfold ad6 D4 cfB
 simp only[aD6,cK3,fc5]
theorem cC8.of {c:u7}(h:cfB c=true):cC8 c:=by
 simp only[cfB,aI9,fi3]at h
 obtain⟨⟨⟨⟨⟨⟨_,h1⟩,h2⟩,h3⟩,h4⟩,_⟩,h5⟩:=h
 exact⟨h1,h2,h3,h4,h5⟩
theorem ex4 (c:u7):an2 c=some (!cfB c):=by
 unfold an2;rw[eW9];rfl
theorem cz7 (l:List u7)(hl:l.length<=9223372036854775807):I1 l an2=some (l.any fun c=>!cfB c):=by
 unfold I1 S3 W0
 exact ah7 l hl an2 (fun c=>!cfB c) (fun y _=>ex4 y)
def stN (b1 b2 b4 b8 b16:Bool):Int:=(((((bif b1 then 1 else 0)+(bif b2 then 2 else 0))+(bif b4 then 4 else 0))+(bif b8 then 8 else 0))+(bif b16 then 16 else 0))
theorem eu3 (a b c d e:Bool):0<=stN a b c d e/\stN a b c d e<=31:=by
 cases a<;>cases b<;>cases c<;>cases d<;>cases e<;>decide
theorem fa9 (a b c d e:Bool):(N2 .i64 (stN a b c d e) 1==1)=a:=by cases a<;>cases b<;>cases c<;>cases d<;>cases e<;>rfl
theorem fh6 (a b c d e:Bool):(N2 .i64 (stN a b c d e) 2==2)=b:=by cases a<;>cases b<;>cases c<;>cases d<;>cases e<;>rfl
theorem fb2 (a b c d e:Bool):(N2 .i64 (stN a b c d e) 4==4)=c:=by cases a<;>cases b<;>cases c<;>cases d<;>cases e<;>rfl
theorem fb1 (a b c d e:Bool):(N2 .i64 (stN a b c d e) 16==16)=e:=by cases a<;>cases b<;>cases c<;>cases d<;>cases e<;>rfl
theorem fb0 (a b c d e:Bool):(N2 .i64 (stN a b c d e) 10==10)=(b&&d):=by cases a<;>cases b<;>cases c<;>cases d<;>cases e<;>rfl
theorem fh7 (a b c d e:Bool):(N2 .i64 (stN a b c d e) 6 !=0)=(b||c):=by cases a<;>cases b<;>cases c<;>cases d<;>cases e<;>rfl
theorem fb4 (a b c d e:Bool):aO0 .i64 (stN a b c d e) 9=stN false b c false e:=by cases a<;>cases b<;>cases c<;>cases d<;>cases e<;>rfl
theorem fb3 (a b c d e:Bool):aO0 .i64 (stN a b c d e) 1=stN false b c d e:=by cases a<;>cases b<;>cases c<;>cases d<;>cases e<;>rfl
theorem eS0 (a b c d e:Bool):U4 .i64 (stN a b c d e) 11=stN true true c true e:=by cases a<;>cases b<;>cases c<;>cases d<;>cases e<;>rfl
theorem fb5 (a b c d e:Bool):U4 .i64 (stN a b c d e) 4=stN a b true d e:=by cases a<;>cases b<;>cases c<;>cases d<;>cases e<;>rfl
theorem eS1 (a b c d e:Bool):U4 .i64 (stN a b c d e) 16=stN a b c d true:=by cases a<;>cases b<;>cases c<;>cases d<;>cases e<;>rfl
theorem fb6 (a b c d e:Bool):U4 .i64 (stN a b c d e) 8=stN a b c true e:=by cases a<;>cases b<;>cases c<;>cases d<;>cases e<;>rfl
def ch4 (c:u7)(l:List Int):Prop:=(l.length:Int)=c.Frame/\∀x∈l,-1099511627776<=x/\x<=1099511627776
theorem ap4 (l:List Int)(hl:l.length<=9223372036854775807)(f:Int->Option Bool)(p:Int->Bool)(h:∀y∈l,f y=some (p y)):o5 l f=some (l.any p):=by
 unfold o5 T8 V8
 exact ah7 l hl f p h
theorem cP5 {c:u7}{l:List Int}(hc:cC8 c)(h:ch4 c l):ar9 c l=some true:=by
 unfold ar9
 have hl:l.length<=9223372036854775807:=by have:=h.1;have:=hc.frame;omega
 have he:((l.length:Int)==c.Frame)=true:=by simpa using h.1
 rw[he,ap4 l hl az4 (fun x=>!(decide (x>= -1099511627776)&&decide (x<=1099511627776))) (fun y _=>rfl)]
 have:l.any (fun x=>!(decide (x>= -1099511627776)&&decide (x<=1099511627776)))=false:=by
  rw[dC3]
  intro x hx
  have:=h.2 x hx
  simp[this.1,this.2]
 rw[this]
 rfl
structure RtB (c:u7)(x:A2)(E3:Int)(b1 b2 b4 b8 b16:Bool):Prop where
 st:x.F8=stN b1 b2 b4 b8 b16
 count:-c.Pass<=x.E0/\x.E0<=c.bg2
 cu3:0<=x.I9/\x.I9<=2
 clean:0<=x.Clean/\x.Clean<=c.Age-1
 occ:0<=x.y9/\x.y9<=255
 last:0<=x.H0/\x.H0<=E3
 frame:x.Frame=[]\/ch4 c x.Frame
 k1:b1=true->b2=true/\b8=true/\x.H0=E3
 k4:b4=true↔x.I9=2
 k16:b16=true->b4=true/\c.cr2=true
 k2:b2=true->x.Clean=0
 known:(b2||b4)=true->1<=x.y9/\1<=x.I9/\1<=x.H0/\(x.Frame.length:Int)=c.Frame
 none:(b2||b4)=false->x.I9=0/\x.Clean=0/\x.y9=0/\x.H0=0/\x.Frame=[]
def Rt (c:u7)(x:A2)(E3:Int)(b8:Bool):Prop:=∃b1 b2 b4 b16,RtB c x E3 b1 b2 b4 b8 b16
theorem es6 {c:u7}{x:A2}{E3:Int}{b8:Bool}(hc:cC8 c)(h:Rt c x E3 b8):aE8 c x E3=some true:=by
 obtain⟨b1,b2,b4,b16,h⟩:=h
 have hfr:(ai2 (bif (decide ((x.Frame.length:Int)>0))then(ai2 (ar9 c x.Frame) fun v7=>some (!v7))else(some false)) fun b7=>some b7)=some false:=by
  rcases h.frame with h1|h1
  ·rw[h1];rfl
  ·rw[cP5 hc h1];cases decide ((x.Frame.length:Int)>0)<;>rfl
 have:=h.count;have:=h.cu3;have:=h.clean;have:=h.occ;have:=h.last;have:=hc.pass;have:=hc.age;have:=hc.eO4
 have s:=eu3 b1 b2 b4 b8 b16
 unfold aE8
 rw[hfr]
 simp only[D4,X3,aK4,aD6,h.st,fa9,fb0,fb2,fb1,fh6,fh7]
 rw[j4 (n:=0-c.Pass) (by omega) (by omega),j4 (n:=c.Age-1) (by omega) (by omega)]
 have e1:(decide (stN b1 b2 b4 b8 b16>=0)&&decide (stN b1 b2 b4 b8 b16<=31))=true:=by simp[s.1,s.2]
 have e2:(decide (x.E0>=0-c.Pass)&&decide (x.E0<=c.bg2))=true:=by simp;omega
 have e3:(decide (x.I9>=0)&&decide (x.I9<=2))=true:=by simp;omega
 have e4:(decide (x.Clean>=0)&&decide (x.Clean<=c.Age-1))=true:=by simp;omega
 have e5:(decide (x.y9>=0)&&decide (x.y9<=255))=true:=by simp;omega
 have e6:(decide (x.H0>=0)&&decide (x.H0<=E3))=true:=by simp;omega
 simp only[e1,e2,e3,e4,e5,e6,aX3,fh8,aD6]
 have f1:(bif b1 then some ((!(b2&&b8))||(x.H0 !=E3))else some false)=some false:=by
  cases hb:b1
  ·rfl
  ·obtain⟨h1,h2,h3⟩:=h.k1 hb
   rw[h1,h2,h3];simp
 rw[f1]
 simp only[aD6,fh8]
 have f2:(b4==(x.I9==2))=true:=by
  have:=h.k4
  cases hb:b4
  ·have h3:¬x.I9=2:=fun e=>by have:=this.2 e;rw[hb]at this;cases this
   simpa using h3
  ·have h3:=this.1 hb
   simpa using h3
 rw[f2]
 simp only[aX3,fh8]
 have f3:(bif b16 then some ((!b4)||(!c.cr2))else some false)=some false:=by
  cases hb:b16
  ·rfl
  ·obtain⟨h1,h2⟩:=h.k16 hb
   rw[h1,h2];rfl
 rw[f3]
 simp only[aD6,fh8]
 have f4:(b2&&(x.Clean !=0))=false:=by
  cases hb:b2
  ·rfl
  ·have:=h.k2 hb;simp[this]
 rw[f4]
 simp only[fh8]
 cases hk:b2||b4
 ·obtain⟨h1,h2,h3,h4,h5⟩:=h.none hk
  simp[h1,h2,h3,h4,h5]
 ·obtain⟨h1,h2,h3,h4⟩:=h.known hk
  simp[h1,h2,h3,h4]
structure Inv (l:List u7)(f:B5)(E3:Int)(run:Bool)(t:Nat->Bool):Prop where
 aP2:f.S8=l
 cyc:f.aH2=E3
 run:f.ax1=run
 len:f.L.length=l.length
 rt:∀i (h1:i<l.length) (h2:i<f.L.length),Rt (l[i]) (f.L[i]) E3 (t i)
structure Cfs (l:List u7):Prop where
 len:l.length<=64
 cf:∀c∈l,cfB c=true
 eX2:am9 l=some true
theorem Cfs.any {l:List u7}(h:Cfs l):(l.any fun c=>!cfB c)=false:=by
 rw[dC3];intro c hc;simp[h.cf c hc]
theorem Cfs.ok {l:List u7}(h:Cfs l){i:Nat}(hi:i<l.length):cC8 l[i]:=.of (h.cf _ (bd9 hi))
theorem bU7 {l:List u7}{f:B5}{E3:Int}{run:Bool}{t:Nat->Bool}(hc:Cfs l)(h:Inv l f E3 run t)(h0:0<=E3)(h1:E3<=1073741824)(h2:run=true->1<=E3):Z0 f=some true:=by
 have hlen:=hc.len
 have e0:decide ((f.S8.length:Int)>64)=false:=by rw[h.aP2];simp;omega
 have e2:((f.L.length:Int) !=(f.S8.length:Int))=false:=by rw[h.aP2,h.len];simp
 have e3:(decide (f.aH2>=0)&&decide (f.aH2<=1073741824))=true:=by rw[h.cyc];simp[h0,h1]
 have e4:(f.ax1&&decide (f.aH2<1))=false:=by
  rw[h.run,h.cyc]
  cases hr:run
  ·rfl
  ·have:=h2 hr;simp;omega
 unfold Z0
 rw[e0,cz7 _ (by rw[h.aP2];omega)]
 have e1:(f.S8.any fun c=>!cfB c)=false:=by rw[h.aP2];exact hc.any
 rw[e1]
 have e5:am9 f.S8=some true:=by rw[h.aP2];exact hc.eX2
 rw[e5,e2]
 simp only[D4,e3,fh8,aD6,aX3,eO3,e4]
 have hl:=h.len
 obtain⟨s,k1,_⟩:=af9 (R:=Bool) f.L.length (by omega) (aC3 f) (fun _ _=>True) () trivial (fun j hj s _=>⟨(),by
  unfold aC3
  have hj2:j<f.S8.length:=by rw[h.aP2];omega
  rw[C5 _ _ hj,C5 _ _ hj2]
  simp only[aD6]
  have:f.S8[j]=l[j]'(by omega):=by simp[h.aP2]
  rw[this,h.cyc,es6 (hc.ok (by omega)) (h.rt j (by omega) hj)]
  rfl,trivial⟩)
 rw[k1]
 rfl
theorem ck9 {α:Type}(l:List α)(h:l.length<=1073741824):(ai2 (R6 ([]:List α) l) fun l=>some l)=some l:=by
 rw[H5 _ _ (by simpa using h)];rfl
theorem et0 {α:Type}(l:List α)(i:Nat)(h:i<l.length):l.set i l[i]=l:=by simp
theorem dV2 {f:B5}(h:f.L.length<=64)(hf:∀x∈f.L,x.Frame.length<=8):ak9 f=some f:=by
 unfold ak9 ac8
 rw[ck9 _ (by omega)]
 simp only[aD6]
 obtain⟨s,k1,k2⟩:=af9 (R:=Empty) f.L.length (by omega) ax5 (fun _ s=>s=f.L) f.L rfl (fun j hj s hs=>⟨f.L,by
  subst hs
  unfold ax5 O0
  rw[C5 _ _ hj]
  simp only[aD6]
  rw[ck9 _ (by have:=hf _ (bd9 hj);omega)]
  simp only[aD6]
  rw[T4 _ _ _ hj]
  have:=et0 f.L j hj
  simp only[aD6]
  rw[show(⟨f.L[j].F8,f.L[j].E0,f.L[j].I9,f.L[j].Clean,f.L[j].y9,f.L[j].Frame,f.L[j].H0⟩:A2)=f.L[j]from rfl,this],rfl⟩)
 rw[k1,k2]
 rfl
theorem Rt.eN9 {c:u7}{x:A2}{E3:Int}{b8:Bool}(hc:cC8 c)(h:Rt c x E3 b8):x.Frame.length<=8:=by
 obtain⟨b1,b2,b4,b16,h⟩:=h
 rcases h.frame with h1|h1
 ·simp[h1]
 ·have:=h1.1;have:=hc.frame;omega
theorem Inv.eO0 {l:List u7}{f:B5}{E3:Int}{run:Bool}{t:Nat->Bool}(hc:Cfs l)(h:Inv l f E3 run t):∀x∈f.L,x.Frame.length<=8:=by
 intro x hx
 obtain⟨i,hi,rfl⟩:=cY2.1 hx
 have hl:=h.len
 exact(h.rt i (by omega) hi).eN9 (hc.ok (by omega))
theorem Inv.copied {l:List u7}{f:B5}{E3:Int}{run:Bool}{t:Nat->Bool}(hc:Cfs l)(h:Inv l f E3 run t):ak9 f=some f:=
 dV2 (by have:=h.len;have:=hc.len;omega) (h.eO0 hc)
theorem dI9 {α R:Type}(l:List α)(hn:l.length<=9223372036854775807)(f:Int->List α->Option (Fl (List α) R))(g:Nat->α->α)
  (h:∀(j:Nat) (s:List α) (hj:j<s.length),s.length=l.length->s[j]? =l[j]? ->f (j:Int) s=some (.next (s.set j (g j s[j])))):
  K5 (l.length:Int) f l=some (.inl (l.mapIdx g)):=by
 obtain⟨s,k1,k2⟩:=af9 (R:=R) l.length hn f (fun j s=>s.length=l.length/\(∀i,i<j->s[i]? =(l[i]?).map (g i))/\∀i,j<=i->s[i]? =l[i]?) l ⟨rfl,fun i h=>by omega,fun i _=>rfl⟩ (fun j hj s ⟨h1,h2,h3⟩=>by
  have hj':j<s.length:=by omega
  refine⟨_,h j s hj' h1 (h3 j (cw4 _)),by simp[h1],fun i hi=>?_,fun i hi=>?_⟩
  ·rw[List.getElem?_set]
   by_cases e:j=i
   ·subst e
    rw[if_pos rfl,if_pos hj']
    have:=h3 j (cw4 _)
    rw[<-this,aW5 hj'];rfl
   ·rw[if_neg e];exact h2 i (by omega)
  ·rw[List.getElem?_set,if_neg (by omega)];exact h3 i (by omega))
 rw[k1]
 congr 2
 apply List.ext_getElem?
 intro i
 rw[List.getElem?_mapIdx]
 by_cases hi:i<l.length
 ·exact k2.2.1 i hi
 ·rw[k2.2.2 i (by omega),List.getElem?_eq_none (by omega)];rfl
def eW2 (x:A2):A2:=⟨aO0 .i64 x.F8 9,0,x.I9,x.Clean,x.y9,x.Frame,x.H0⟩
theorem eh5 {c:u7}{x:A2}{E3:Int}{b8:Bool}(hc:cC8 c)(h:Rt c x E3 b8):Rt c (eW2 x) (E3+1) false:=by
 obtain⟨b1,b2,b4,b16,h⟩:=h
 have:=hc.pass;have:=hc.fail;have:=h.last
 refine⟨false,b2,b4,b16,?_,?_,h.cu3,h.clean,h.occ,?_,h.frame,?_,h.k4,h.k16,h.k2,h.known,h.none⟩
 ·show aO0 .i64 x.F8 9=_
  rw[h.st,fb4]
 ·show -c.Pass<=(0:Int)/\(0:Int)<=c.bg2
  omega
 ·show 0<=x.H0/\x.H0<=E3+1
  omega
 ·intro h;cases h
theorem eh4 {l:List u7}{f:B5}{E3:Int}{t:Nat->Bool}(hc:Cfs l)(h:Inv l f E3 false t)(h0:0<=E3)(h1:E3<1073741824):
  ∃f',aw1 f=some (f',0)/\Inv l f' (E3+1) true (fun _=>false):=by
 have hl:=h.len;have hl2:=hc.len
 unfold aw1
 rw[bU7 hc h h0 (by omega) (fun e=>by cases e)]
 have e1:(f.aH2==1073741824)=false:=by rw[h.cyc];simp;omega
 rw[h.run,e1,h.copied hc]
 simp only[aD6,aX3,fh8]
 rw[dI9 f.L (by omega) aC2 (fun _ x=>eW2 x) (fun j s hj _ _=>by
  unfold aC2
  rw[C5 _ _ hj]
  simp only[aD6]
  rw[T4 _ _ _ hj]
  simp only[aD6]
  rw[T4 _ _ _ (by simpa using hj)]
  simp only[aD6,en8]
  rfl)]
 refine⟨_,rfl,h.aP2,?_,rfl,by simp[hl],fun i a b=>?_⟩
 ·show j7 (f.aH2+1)=_
  rw[h.cyc,j4 (by omega) (by omega)]
 ·simp only[List.getElem_mapIdx]
  exact eh5 (hc.ok a) (h.rt i a (by omega))
theorem dl7 {l:List u7}(hl:l.length<=9223372036854775807):(∃e,aA6 l=some (⟨[],[],0,false⟩,e)/\e≠0)\/(Cfs l/\∃f,aA6 l=some (f,0)/\Inv l f 0 false (fun _=>false)):=by
 unfold aA6
 cases h64:decide ((l.length:Int)>64)
 ·have h64:l.length<=64:=by simp at h64;omega
  rw[cz7 l (by omega)]
  cases hany:l.any fun c=>!cfB c
  ·obtain⟨b,hb⟩:=dr9 l (by omega)
   rw[hb]
   cases b
   ·left;exact⟨8,rfl,by decide⟩
   ·right
    have hcf:∀c∈l,cfB c=true:=fun c hc=>by
     rw[dC3]at hany
     have:=hany c hc
     simpa using this
    have hc:Cfs l:=⟨h64,hcf,hb⟩
    refine⟨hc,?_⟩
    unfold Z3
    rw[ck9 l (by omega),bV9 _ (by omega)]
    refine⟨_,rfl,rfl,rfl,rfl,by simp,fun i a b=>?_⟩
    have:=hc.ok a
    simp only[fc0]
    refine⟨false,false,false,false,rfl,?_,⟨by decide,by decide⟩,?_,⟨by decide,by decide⟩,⟨by decide,by decide⟩,.inl rfl,fun h=>(by cases h),⟨fun h=>(by cases h),fun h=>(by cases h)⟩,fun h=>(by cases h),fun h=>(by cases h),fun h=>(by cases h),fun _=>⟨rfl,rfl,rfl,rfl,rfl⟩⟩
    ·have h1:=this.pass;have h2:=this.fail
     show -l[i].Pass<=(0:Int)/\(0:Int)<=l[i].bg2
     omega
    ·have h1:=this.eO4;have h2:=this.age
     show(0:Int)<=0/\(0:Int)<=l[i].Age-1
     omega
  ·left;exact⟨1,rfl,by decide⟩
 ·left;exact⟨5,rfl,by decide⟩
def dt5 (c:u7)(E3:Int)(fr:List Int)(x:A2):A2:=
 let y:A2:=bif !(N2 .i64 x.F8 1==1)then⟨x.F8,x.E0,x.I9,x.Clean,F2 255 (j7 (x.y9+1)),bif !(N2 .i64 x.F8 4==4)then fr else x.Frame,x.H0⟩else x
 bif y.H0==E3 then⟨U4 .i64 y.F8 11,y.E0,y.I9,0,y.y9,y.Frame,y.H0⟩else
 bif decide ((F2 2 (j7 (y.I9+1)))<2)then⟨U4 .i64 y.F8 11,y.E0,F2 2 (j7 (y.I9+1)),0,y.y9,y.Frame,E3⟩else
 bif c.cr2 then⟨U4 .i64 (U4 .i64 (U4 .i64 y.F8 11) 4) 16,y.E0,F2 2 (j7 (y.I9+1)),0,y.y9,y.Frame,E3⟩
 else⟨U4 .i64 (U4 .i64 y.F8 11) 4,y.E0,F2 2 (j7 (y.I9+1)),0,y.y9,y.Frame,E3⟩
theorem dt6 (s:List A2)(j:Nat)(hj:j<s.length)(c:u7)(E3:Int)(fr:List Int)(hfr:fr.length<=1073741824):aE7 s (j:Int) c E3 fr=some (s.set j (dt5 c E3 fr s[j])):=by
 have key:∀(s:List A2) (hj:j<s.length),(ai2 (C9 s (j:Int)) fun x3=>ai2 (aj2 s (j:Int) (⟨U4 .i64 x3.F8 11,x3.E0,x3.I9,x3.Clean,x3.y9,x3.Frame,x3.H0⟩:A2)) fun l4=>ai2 (aj2 l4 (j:Int) (⟨U4 .i64 x3.F8 11,x3.E0,x3.I9,0,x3.y9,x3.Frame,x3.H0⟩:A2)) fun l5=>bif (x3.H0==E3)then(some l5)else(ai2 (aj2 l5 (j:Int) (⟨U4 .i64 x3.F8 11,x3.E0,x3.I9,0,x3.y9,x3.Frame,E3⟩:A2)) fun l6=>ai2 (aj2 l6 (j:Int) (⟨U4 .i64 x3.F8 11,x3.E0,F2 2 (j7 (x3.I9+1)),0,x3.y9,x3.Frame,E3⟩:A2)) fun l7=>bif (decide ((F2 2 (j7 (x3.I9+1)))<2))then(some l7)else(ai2 (aj2 l7 (j:Int) (⟨U4 .i64 (U4 .i64 x3.F8 11) 4,x3.E0,F2 2 (j7 (x3.I9+1)),0,x3.y9,x3.Frame,E3⟩:A2)) fun l8=>bif c.cr2 then(ai2 (aj2 l8 (j:Int) (⟨U4 .i64 (U4 .i64 (U4 .i64 x3.F8 11) 4) 16,x3.E0,F2 2 (j7 (x3.I9+1)),0,x3.y9,x3.Frame,E3⟩:A2)) fun l9=>some l9)else(some l8))))=
   some (s.set j (bif s[j].H0==E3 then⟨U4 .i64 s[j].F8 11,s[j].E0,s[j].I9,0,s[j].y9,s[j].Frame,s[j].H0⟩else
 bif decide ((F2 2 (j7 (s[j].I9+1)))<2)then⟨U4 .i64 s[j].F8 11,s[j].E0,F2 2 (j7 (s[j].I9+1)),0,s[j].y9,s[j].Frame,E3⟩else
 bif c.cr2 then⟨U4 .i64 (U4 .i64 (U4 .i64 s[j].F8 11) 4) 16,s[j].E0,F2 2 (j7 (s[j].I9+1)),0,s[j].y9,s[j].Frame,E3⟩
 else⟨U4 .i64 (U4 .i64 s[j].F8 11) 4,s[j].E0,F2 2 (j7 (s[j].I9+1)),0,s[j].y9,s[j].Frame,E3⟩)):=by
  intro s hj
  rw[C5 _ _ hj]
  simp only[aD6]
  rw[T4 _ _ _ hj]
  simp only[aD6]
  rw[T4 _ _ _ (by simpa using hj)]
  simp only[aD6,en8]
  cases(s[j].H0==E3)
  ·simp only[fh8]
   rw[T4 _ _ _ (by simpa using hj)]
   simp only[aD6,en8]
   rw[T4 _ _ _ (by simpa using hj)]
   simp only[aD6,en8]
   cases decide ((F2 2 (j7 (s[j].I9+1)))<2)
   ·simp only[fh8]
    rw[T4 _ _ _ (by simpa using hj)]
    simp only[aD6,en8]
    cases c.cr2
    ·rfl
    ·simp only[fi0]
     rw[T4 _ _ _ (by simpa using hj)]
     simp only[aD6,en8]
   ·rfl
  ·rfl
 unfold aE7
 rw[C5 _ _ hj]
 simp only[aD6,X3]
 unfold dt5
 cases h1:(N2 .i64 s[j].F8 1==1)
 ·simp only[cJ0,fi0]
  rw[T4 _ _ _ hj]
  simp only[aD6]
  cases h4:(N2 .i64 s[j].F8 4==4)
  ·simp only[cJ0,fi0,O0]
   rw[ck9 fr hfr]
   simp only[aD6]
   rw[T4 _ _ _ (by simpa using hj)]
   simp only[aD6,en8]
   rw[key _ (by simpa using hj)]
   simp only[dN2,en8]
  ·simp only[aX3,fh8,aD6]
   rw[key _ (by simpa using hj)]
   simp only[dN2,en8]
 ·simp only[aX3,fh8,aD6]
  rw[key _ hj]
theorem eB0 {c:u7}{x:A2}{E3:Int}{b8:Bool}{fr:List Int}(hc:cC8 c)(h:Rt c x E3 b8)(hfr:ch4 c fr)(h1:1<=E3):Rt c (dt5 c E3 fr x) E3 true:=by
 obtain⟨b1,b2,b4,b16,h⟩:=h
 have p3:=h.last;have p8:=h.occ;have p9:=h.cu3;have p10:=hc.age;have p11:=hc.eO4
 have clean:0<=(0:Int)/\(0:Int)<=c.Age-1:=by omega
 have n1:(0:Int)<=1/\(1:Int)<=2:=by decide
 have n2:(0:Int)<=2/\(2:Int)<=2:=by decide
 have m1:(1:Int)<=1:=by decide
 have m2:(1:Int)<=2:=by decide
 obtain⟨y,hy,hst,hcn,hcy,cF5,du4,hfrm,hfl⟩:∃y:A2,y=(bif !(N2 .i64 x.F8 1==1)then(⟨x.F8,x.E0,x.I9,x.Clean,F2 255 (j7 (x.y9+1)),bif !(N2 .i64 x.F8 4==4)then fr else x.Frame,x.H0⟩:A2)else x)/\
   y.F8=stN b1 b2 b4 b8 b16/\y.E0=x.E0/\y.I9=x.I9/\(1<=y.y9/\y.y9<=255)/\y.H0=x.H0/\(y.Frame=[]\/ch4 c y.Frame)/\(y.Frame.length:Int)=c.Frame:=by
  refine⟨_,rfl,?_⟩
  rw[h.st,fa9,fb2]
  cases hb1:b1
  ·subst hb1
   simp only[cJ0,fi0]
   refine⟨trivial,trivial,trivial,?_,trivial,?_⟩
   ·rw[j4 (n:=x.y9+1) (by omega) (by omega)]
    unfold F2;split<;>omega
   ·cases hb4:b4
    ·simp only[cJ0,fi0];exact⟨.inr hfr,hfr.1⟩
    ·subst hb4
     simp only[aX3,fh8]
     exact⟨h.frame,(h.known (by simp)).2.2.2⟩
  ·subst hb1
   have k:=h.k1 rfl
   have hk:=h.known (by rw[k.1];rfl)
   simp only[aX3,fh8]
   exact⟨h.st,trivial,trivial,⟨hk.1,h.occ.2⟩,trivial,h.frame,hk.2.2.2⟩
 unfold dt5
 rw[<-hy]
 simp only[hst,eS0,fb5,eS1]
 cases hL:(y.H0==E3)
 ·have hL:¬x.H0=E3:=by rw[du4]at hL;simpa using hL
  have hb1:b1=false:=by
   cases hb:b1
   ·rfl
   ·exact absurd (h.k1 hb).2.2 hL
  simp only[fh8]
  rw[hcy,j4 (n:=x.I9+1) (by omega) (by omega)]
  have hm:F2 2 (x.I9+1)=if x.I9=0 then 1 else 2:=by unfold F2;split<;>split<;>omega
  rw[hm]
  by_cases hz:x.I9=0
  ·have hb4:b4=false:=by
    cases hb:b4
    ·rfl
    ·have:=h.k4.1 hb;omega
   subst hb4
   rw[if_pos hz]
   simp only[show decide ((1:Int)<2)=true from rfl,fi0]
   exact⟨true,true,false,b16,rfl,by rw[show(⟨_,y.E0,_,_,_,_,_⟩:A2).E0=x.E0 from hcn];exact h.count,n1,clean,⟨by have:=cF5.1;show 0<=y.y9;omega,cF5.2⟩,⟨by show 0<=E3;omega,dv9 _⟩,hfrm,fun _=>⟨rfl,rfl,rfl⟩,⟨fun h=>(by cases h),fun h=>(by cases h)⟩,h.k16,fun _=>rfl,fun _=>⟨cF5.1,m1,h1,hfl⟩,fun h=>(by cases h)⟩
  ·rw[if_neg hz]
   simp only[show decide ((2:Int)<2)=false from rfl,fh8]
   cases hlp:c.cr2
   ·simp only[fh8]
    exact⟨true,true,true,b16,rfl,by rw[show(⟨_,y.E0,_,_,_,_,_⟩:A2).E0=x.E0 from hcn];exact h.count,n2,clean,⟨by have:=cF5.1;show 0<=y.y9;omega,cF5.2⟩,⟨by show 0<=E3;omega,dv9 _⟩,hfrm,fun _=>⟨rfl,rfl,rfl⟩,⟨fun _=>rfl,fun _=>rfl⟩,fun hb=>⟨rfl,(h.k16 hb).2⟩,fun _=>rfl,fun _=>⟨cF5.1,m2,h1,hfl⟩,fun h=>(by cases h)⟩
   ·simp only[fi0]
    exact⟨true,true,true,true,rfl,by rw[show(⟨_,y.E0,_,_,_,_,_⟩:A2).E0=x.E0 from hcn];exact h.count,n2,clean,⟨by have:=cF5.1;show 0<=y.y9;omega,cF5.2⟩,⟨by show 0<=E3;omega,dv9 _⟩,hfrm,fun _=>⟨rfl,rfl,rfl⟩,⟨fun _=>rfl,fun _=>rfl⟩,fun _=>⟨rfl,hlp⟩,fun _=>rfl,fun _=>⟨cF5.1,m2,h1,hfl⟩,fun h=>(by cases h)⟩
 ·have hL:x.H0=E3:=by rw[du4]at hL;simpa using hL
  simp only[fi0]
  have hkn:(b2||b4)=true:=by
   cases hk:b2||b4
   ·have:=(h.none hk).2.2.2.1;omega
   ·rfl
  have hk:=h.known hkn
  exact⟨true,true,b4,b16,rfl,by rw[show(⟨_,y.E0,_,_,_,_,_⟩:A2).E0=x.E0 from hcn];exact h.count,by rw[show(⟨_,_,y.I9,_,_,_,_⟩:A2).I9=x.I9 from hcy];exact h.cu3,clean,⟨by have:=cF5.1;show 0<=y.y9;omega,cF5.2⟩,by rw[show(⟨_,_,_,_,_,_,y.H0⟩:A2).H0=x.H0 from du4];exact h.last,hfrm,fun _=>⟨rfl,rfl,du4.trans hL⟩,
   by rw[show(⟨_,_,y.I9,_,_,_,_⟩:A2).I9=x.I9 from hcy];exact h.k4,h.k16,fun _=>rfl,fun _=>⟨cF5.1,by rw[show(⟨_,_,y.I9,_,_,_,_⟩:A2).I9=x.I9 from hcy];exact hk.2.1,by rw[show(⟨_,_,_,_,_,_,y.H0⟩:A2).H0=x.H0 from du4];omega,hfl⟩,fun h=>(by cases h)⟩
def bQ4 (c:u7)(bad:Bool)(x:A2):A2:=
 ⟨x.F8,bif bad then F2 c.bg2 (j7 ((G4 x.E0 0)+1))else G4 (j7 (0-c.Pass)) (j7 ((F2 x.E0 0)-1)),x.I9,x.Clean,x.y9,x.Frame,x.H0⟩
def dn2 (c:u7)(E3:Int)(bad:Bool)(fr:List Int)(x:A2):A2:=
 let y:=bQ4 c bad x
 bif y.E0==c.bg2 then dt5 c E3 fr y else
 bif y.E0==j7 (0-c.Pass)then⟨aO0 .i64 (U4 .i64 y.F8 8) 1,y.E0,y.I9,y.Clean,y.y9,y.Frame,y.H0⟩else y
theorem eM4 {c:u7}{x:A2}{E3:Int}{b8:Bool}(bad:Bool)(hc:cC8 c)(h:Rt c x E3 b8):Rt c (bQ4 c bad x) E3 b8:=by
 obtain⟨b1,b2,b4,b16,h⟩:=h
 have p1:=h.count;have p2:=hc.pass;have p3:=hc.fail
 refine⟨b1,b2,b4,b16,h.st,?_,h.cu3,h.clean,h.occ,h.last,h.frame,h.k1,h.k4,h.k16,h.k2,h.known,h.none⟩
 show -c.Pass<=(bif bad then _ else _)/\(bif bad then _ else _)<=c.bg2
 have a1:G4 x.E0 0=if 0>x.E0 then 0 else x.E0:=rfl
 have a2:F2 x.E0 0=if 0<x.E0 then 0 else x.E0:=rfl
 cases bad
 ·simp only[fh8]
  rw[a2,j4 (n:=0-c.Pass) (by omega) (by omega)]
  split
  ·rw[j4 (by omega) (by omega)];unfold G4;split<;>omega
  ·rw[j4 (by omega) (by omega)];unfold G4;split<;>omega
 ·simp only[fi0]
  rw[a1]
  split
  ·rw[j4 (by omega) (by omega)];unfold F2;split<;>omega
  ·rw[j4 (by omega) (by omega)];unfold F2;split<;>omega
theorem eR5 {c:u7}{x:A2}{E3:Int}{b8:Bool}{fr:List Int}(bad:Bool)(hc:cC8 c)(h:Rt c x E3 b8)(hfr:ch4 c fr)(h1:1<=E3):∃b,Rt c (dn2 c E3 bad fr x) E3 b/\(b8=true->b=true):=by
 have h':=eM4 bad hc h
 unfold dn2
 simp only
 cases(bQ4 c bad x).E0==c.bg2
 ·simp only[fh8]
  cases(bQ4 c bad x).E0==j7 (0-c.Pass)
  ·exact⟨b8,h',id⟩
  ·simp only[fi0]
   refine⟨true,?_,fun _=>rfl⟩
   obtain⟨b1,b2,b4,b16,h'⟩:=h'
   exact⟨false,b2,b4,b16,by show aO0 .i64 (U4 .i64 (bQ4 c bad x).F8 8) 1=_;rw[h'.st,fb6,fb3],h'.count,h'.cu3,h'.clean,h'.occ,h'.last,h'.frame,fun h=>(by cases h),h'.k4,h'.k16,h'.k2,h'.known,h'.none⟩
 ·exact⟨true,eB0 hc h' hfr h1,fun _=>rfl⟩
theorem eb0 {l:List u7}{f:B5}{E3:Int}{t:Nat->Bool}{q:Nat}{bad:Bool}{fr:List Int}(hc:Cfs l)(h:Inv l f E3 true t)(h0:1<=E3)(h1:E3<=1073741824)(hq:q<l.length)(hfr:ch4 (l[q]) fr):
  ∃f' b,ap8 f (q:Int) bad fr=some (f',0)/\Inv l f' E3 true (fun i=>if i=q then b else t i)/\(t q=true->b=true):=by
 have hl:=h.len;have hl2:=hc.len
 have hq2:q<f.L.length:=by omega
 have hq3:q<f.S8.length:=by rw[h.aP2];omega
 have e1:f.S8[q]=l[q]:=by simp[h.aP2]
 have hfl:fr.length<=8:=by have:=hfr.1;have:=(hc.ok hq).frame;omega
 have g1:decide ((q:Int)<0)=false:=by simp
 have g2:decide ((q:Int)>=(f.L.length:Int))=false:=by simp;omega
 obtain⟨b,hb,hm⟩:=eR5 (fr:=fr) bad (hc.ok hq) (h.rt q hq hq2) hfr h0
 have bM8:∀y:A2,q<(f.L.set q y).length:=fun y=>by simpa using hq2
 have main:ap8 f (q:Int) bad fr=some (⟨f.S8,f.L.set q (dn2 (l[q]) E3 bad fr f.L[q]),f.aH2,f.ax1⟩,0):=by
  unfold ap8
  rw[bU7 hc h (by omega) h1 (fun _=>h0),g1,g2,h.run,C5 _ _ hq3,e1]
  simp only[aD6,aX3,eO3,fh8]
  rw[cP5 (hc.ok hq) hfr,h.copied hc]
  simp only[aD6,aX3,fh8]
  rw[C5 _ _ hq2,C5 _ _ hq3,e1]
  simp only[aD6]
  rw[T4 _ _ _ hq2,T4 _ _ _ hq2]
  simp only[aD6]
  have e2:(bif bad then some (f.L.set q ⟨f.L[q].F8,F2 l[q].bg2 (j7 (G4 f.L[q].E0 0+1)),f.L[q].I9,f.L[q].Clean,f.L[q].y9,f.L[q].Frame,f.L[q].H0⟩)else some (f.L.set q ⟨f.L[q].F8,G4 (j7 (0-l[q].Pass)) (j7 (F2 f.L[q].E0 0-1)),f.L[q].I9,f.L[q].Clean,f.L[q].y9,f.L[q].Frame,f.L[q].H0⟩))=some (f.L.set q (bQ4 (l[q]) bad f.L[q])):=by
   unfold bQ4;cases bad<;>rfl
  rw[e2]
  simp only[aD6]
  rw[C5 _ _ (bM8 _)]
  simp only[aD6,dN2]
  unfold dn2
  simp only
  cases(bQ4 (l[q]) bad f.L[q]).E0==(l[q]).bg2
  ·simp only[fh8]
   cases(bQ4 (l[q]) bad f.L[q]).E0==j7 (0-(l[q]).Pass)
   ·simp only[fh8];rw[h.run]
   ·simp only[fi0]
    rw[T4 _ _ _ (bM8 _)]
    simp only[aD6,en8]
    rw[T4 _ _ _ (bM8 _)]
    simp only[aD6,en8]
    rw[h.run]
  ·simp only[fi0]
   rw[dt6 _ _ (bM8 _) _ _ _ (by omega)]
   simp only[aD6,dN2,en8]
   rw[h.run,h.cyc]
 refine⟨_,b,main,⟨h.aP2,h.cyc,h.run,by simp[hl],fun i a c=>?_⟩,hm⟩
 simp only[eX9]
 by_cases hi:q=i
 ·subst hi;simp only[if_true];exact hb
 ·rw[if_neg hi,if_neg (fun e=>hi e.symm)];exact h.rt i a (by omega)
end Fr
end Go.Pv
namespace Go.Proofs.YtmhdghdbojdgfaaGreat.Ec
open Go Go.Pv Go.Pv.Ec Go.Proofs
theorem cU5 {α S R:Type}(f:Int->α->S->Option (Fl S R))(I:Nat->S->Prop)(J:R->Prop):∀(r:List α) (k:Nat) (s:S),I k s->(∀j x s,r[j]? =some x->I (k+j) s->(∃s',f ((k+j:Nat):Int) x s=some (.next s')/\I (k+j+1) s')\/∃u,f ((k+j:Nat):Int) x s=some (.ret u)/\J u)->
  (∃s',L7 f r (k:Int) s=some (.inl s')/\I (k+r.length) s')\/∃u,L7 f r (k:Int) s=some (.inr u)/\J u
 |[],k,s,h,_=>.inl ⟨s,by simp[L7],h⟩
 |x::r,k,s,h,g=>by
  rcases g 0 x s rfl h with⟨s',h1,h2⟩|⟨u,h1,h2⟩
  ·have:=cU5 f I J r (k+1) s' h2 (fun j y u hy hu=>by
    have:=g (j+1) y u (by simpa using hy) (by rw[show k+(j+1)=k+1+j by omega];exact hu)
    rw[show k+(j+1)=k+1+j by omega]at this
    exact this)
   have e:L7 f (x::r) (k:Int) s=L7 f r ((k+1:Nat):Int) s':=by
    simp only[L7]
    rw[show((k:Nat):Int)=((k+0:Nat):Int) by rfl,h1]
    rfl
   rw[e,bv4,show k+(r.length+1)=k+1+r.length by omega]
   exact this
  ·refine .inr ⟨u,?_,h2⟩
   simp only[L7]
   rw[show((k:Nat):Int)=((k+0:Nat):Int) by rfl,h1]
   rfl
theorem bJ6 {α S R:Type}(l:List α)(hn:l.length<=9223372036854775807)(f:Int->α->S->Option (Fl S R))(I:Nat->S->Prop)(J:R->Prop)(s:S)(h0:I 0 s)
  (h:∀k x s,l[k]? =some x->I k s->(∃s',f (k:Int) x s=some (.next s')/\I (k+1) s')\/∃u,f (k:Int) x s=some (.ret u)/\J u):
  (∃s',J7 (fun p:Int×S=>bif decide (p.1<(l.length:Int))then((C9 l p.1).bind fun x=>(f p.1 x p.2).bind (aC9 p.1))else some (.inr (.inl p.2))) (0,s)=some (.inl s')/\I l.length s')\/
  ∃u,J7 (fun p:Int×S=>bif decide (p.1<(l.length:Int))then((C9 l p.1).bind fun x=>(f p.1 x p.2).bind (aC9 p.1))else some (.inr (.inl p.2))) (0,s)=some (.inr u)/\J u:=by
 have e:=K4 l hn f s
 rcases cU5 f I J l 0 s h0 (fun j x s hx hs=>by rw[cX5]at hs|-;exact h j x s hx hs)with⟨s',h1,h2⟩|⟨u,h1,h2⟩
 ·exact .inl ⟨s',e.trans h1,by rw[cX5]at h2;exact h2⟩
 ·exact .inr ⟨u,e.trans h1,h2⟩
structure SOk (s:j8):Prop where
 few:s.k.length<=100
 val:∀b∈s.k,-1000000<=b.Value/\b.Value<=1000000
 ped:0<=s.d.I4/\s.d.I4<=1000
 pre:50<=s.u.A7.K9/\s.u.A7.K9<=1013
 t:0<=s.t/\s.t<=1099511627776
 spd:0<=s.o7/\s.o7<=12000
theorem dE6 {s:j8}(hs:SOk s)(n:Int):∃v o,(W7 s n).m=some (v,o)/\ -1000000<=v/\v<=1000000:=by
 have hk:=hs.few
 simp only[W7,C.of,M.run]
 rcases bJ6 s.k (by omega) (fun i x (u:Unit)=>(aC0 s n i x u).run) (fun _ _=>True) (fun r=>-1000000<=r.1/\r.1<=1000000) () trivial (fun k x u hx _=>by
  simp only[aC0,M.run]
  cases x.aO5==n
  ·exact .inl ⟨(),rfl,trivial⟩
  ·cases decide (x.cW2<=s.t)
   ·exact .inl ⟨(),rfl,trivial⟩
   ·cases decide (s.t<x.To)
    ·exact .inl ⟨(),rfl,trivial⟩
    ·exact .inr ⟨_,rfl,hs.val x (do6 hx)⟩)with⟨u,h1,_⟩|⟨u,h1,h2⟩
 ·rw[h1];exact⟨_,_,rfl,by omega,by omega⟩
 ·rw[h1];exact⟨u.1,u.2,rfl,h2⟩
theorem aR6 {s:j8}(hs:SOk s)(n:Int):∃v,(D2 s n).m=some v/\ -1000000<=v/\v<=1000000:=by
 obtain⟨v,o,h,hv⟩:=dE6 hs n
 obtain⟨x,hx⟩:=df3 s.u.A7
 have h1:=hs.ped;have h2:=hs.pre;have h3:=hs.t
 simp only[D2,C.of,M.run,h,hx,aD6]
 cases o
 ·simp only[fh8]
  cases n==0<;>simp only[fh8,fi0]
  ·cases n==1<;>simp only[fh8,fi0]
   ·cases n==2<;>simp only[fh8,fi0]
    ·cases n==3<;>simp only[fh8,fi0]
     ·cases n==4<;>simp only[fh8,fi0]
      ·cases decide (x<1000)
       ·exact⟨_,rfl,by omega,by omega⟩
       ·exact⟨_,rfl,by omega,by omega⟩
      ·refine⟨_,rfl,?_⟩
       rw[cA0 h3.1,j4 (n:=s.t/1000000) (by omega) (by omega),j4 (by omega) (by omega)]
       unfold F2
       split<;>omega
     ·exact⟨_,rfl,by omega,by omega⟩
    ·exact⟨_,rfl,by omega,by omega⟩
   ·refine⟨_,rfl,?_⟩
    rw[cA0 h1.1,j4 (by omega) (by omega)]
    omega
  ·exact⟨_,rfl,by omega,by omega⟩
 ·exact⟨_,rfl,hv⟩
theorem dx3 (x a b:Int):(bl7 x a b).m=some (decide (x<a)||decide (x>b)):=rfl
theorem el7 {c:u7}(hc:Fr.cC8 c){a b:Int}(ha:-1000000<=a/\a<=1000000)(hb:-1000000<=b/\b<=1000000):∃l,aX7 c.Frame (0:Int)=some l/\Fr.ch4 c (aI5 l [a,b]):=by
 have h:=hc.frame
 refine⟨cG8 c.Frame.toNat 0,by unfold aX7;rw[if_pos (by omega)],?_,fun x hx=>?_⟩
 ·unfold aI5
  simp only[aZ7,bw6,do0,eH4,bv4,cV7]
  omega
 ·unfold aI5 at hx
  rcases do5.1 hx with h1|h1
  ·have:=ey1 h1
   simp only[cq9,eT1,or_false]at this
   rcases this with rfl|rfl<;>omega
  ·have:=eX8 (eU8 h1)
   omega
theorem eY6 (o:B5):(bL3 o).m=some o:=rfl
theorem eP2 (n:B5)(e:Int)(o:B5):(bd5 n e o).m=some (bif e !=0 then o else n):=by
 simp only[bd5,C.of,M.run]
 cases e !=0<;>rfl
theorem af9 {S R:Type}(n:Nat)(hn:n<=1000000000)(f:Int->S->Option (Fl S R))(I:Nat->S->Prop)(s:S)(h0:I 0 s)(h:∀k s,k<n->I k s->∃s',f (k:Int) s=some (.next s')/\I (k+1) s'):
  ∃s',J7 (fun p:Int×S=>bif decide (p.1<(n:Int))then((f p.1 p.2).bind (aC9 p.1))else some (.inr (.inl p.2))) (0,s)=some (.inl s')/\I n s':=by
 have key:=bt7 (mb:=fun p:Int×S=>bif decide (p.1<(n:Int))then((f p.1 p.2).bind (aC9 p.1))else some (.inr (.inl p.2))) (fun x=>∃k:Nat,x.1=(k:Int)/\k<=n/\I k x.2) (fun x=>n-x.1.toNat) (fun b:S⊕R=>∃t,b= .inl t/\I n t)
  (fun x ⟨k,hk,hkn,hi⟩=>by
   obtain⟨a,u⟩:=x
   simp only at hk hi
   subst hk
   by_cases hlt:k<n
   ·left
    obtain⟨s',h1,h2⟩:=h k u hlt hi
    simp only
    rw[fi1 (show((k:Nat):Int)<(n:Int) by omega),h1]
    refine⟨(((k+1:Nat):Int),s'),?_,⟨k+1,rfl,by omega,h2⟩,by simp only;omega⟩
    simp only[fi0,aD6,aC9]
    first|rfl|(rw[j4 (by omega) (by omega)];rfl)
   ·right
    simp only
    rw[fi2 (show¬((k:Nat):Int)<(n:Int) by omega)]
    have:k=n:=by omega
    subst this
    exact⟨_,rfl,u,rfl,hi⟩)
 obtain⟨b,e1,t,e2,h2⟩:=key n (0,s) (by simp) ⟨0,rfl,by omega,h0⟩
 rw[e2]at e1
 exact⟨t,e1,h2⟩
def R0:List S5:=(bz2).m.getD []
theorem cY5:(bz2).m=some R0:=rfl
theorem cJ1:R0.length=7:=rfl
theorem cZ5:(R0.all fun r=>decide (r.ae8.length<=16)&&r.ae8.all fun c=>decide (0<=c)&&decide (c<7))=true:=by kernel_rfl
theorem dS7:(R0.all fun r=>decide (-5000<=r.ch5)&&decide (r.ch5<=10000))=true:=by kernel_rfl
theorem cZ6:(aJ1 R0 7).m=some true:=(aJ1 R0 7).le 1000 _ (by kernel_rfl)
theorem dD0:(aJ1 R0 64).m=some true:=(aJ1 R0 64).le 1000 _ (by kernel_rfl)
def cf0:List u7:=((bl6).e 100).getD []
theorem ds5:(bl6).m=some cf0:=(bl6).le 100 _ (by kernel_rfl)
theorem bx4:cf0.length=7:=by kernel_rfl
theorem dp7 {α:Type}{l:List α}{p q:α->Bool}(h:(l.all fun r=>p r&&q r)=true){x:α}(hx:x∈l):p x=true/\q x=true:=by
 have:=bF0.1 h x hx
 rwa[aI9]at this
theorem dF1 {r:S5}{n:Nat}(h16:r.ae8.length<=16)(hr:∀c∈r.ae8,0<=c/\c<(n:Int))(f:Cl Tryz.prog Int Bool (fun x=>[.t (tI x)]) (fun r=>.t (tB r)))(hf:∀c,0<=c->c<(n:Int)->∃b,f.f c=some b):
  ∃o,(aN8 r f).m=some o/\o.length<=16:=by
 simp only[aN8,C.of,M.run]
 obtain⟨o,h1,h2⟩:=aM0 r.ae8 (by omega) (fun i x (o:List Int)=>(aD0 f i x o).run) (fun k o=>o.length<=k) [] (cw4 _) (fun k x o hx hI=>by
  have hk:=(bH2.1 hx).1
  have hm:=hr x (do6 hx)
  obtain⟨b,hb⟩:=hf x hm.1 hm.2
  simp only[aD0,M.run,U1.m,Cl.at,hb,aD6]
  cases b
  ·exact⟨_,rfl,by omega⟩
  ·simp only[fi0]
   rw[H5 _ _ (by simp only[cr0];omega)]
   exact⟨_,rfl,by simp only[aZ7,cr0];omega⟩)
 rw[h1]
 exact⟨_,rfl,by omega⟩
theorem du8 (f:Cl Tryz.prog Int Bool (fun x=>[.t (tI x)]) (fun r=>.t (tB r)))(hf:∀c,0<=c->c<7->∃b,f.f c=some b):
  ∃a,(aJ2 R0 f).m=some a/\a.length<=7/\∀x∈a,(0<=x.T2/\x.T2<7)/\x.ae8.length<=16:=by
 simp only[aJ2,C.of,M.run]
 obtain⟨a,h1,h2,h3⟩:=af9 R0.length (by rw[cJ1];omega) (fun i (o:List V9)=>(ay2 R0 f i o).run) (fun k o=>o.length<=k/\∀x∈o,(0<=x.T2/\x.T2<7)/\x.ae8.length<=16) [] ⟨cw4 _,by simp⟩ (fun k o hk hI=>by
  have hk7:k<7:=hk
  have hr:=dp7 cZ5 (bd9 hk)
  rw[fi3]at hr
  obtain⟨v,hv,hv16⟩:=dF1 (n:=7) hr.1 (fun c hc=>by
   have:=bF0.1 hr.2 c hc
   rw[aI9,fi3,fi3]at this
   exact this) f hf
  simp only[ay2,M.run,L1.m,U1.m]
  rw[T3,aW5 hk]
  simp only[aD6,hv]
  cases decide ((v.length:Int)>0)
  ·exact⟨_,rfl,by omega,hI.2⟩
  ·simp only[fi0]
   rw[H5 _ _ (by simp only[cr0];omega)]
   refine⟨_,rfl,by simp only[aZ7,cr0];omega,fun x hx=>?_⟩
   rcases do5.1 hx with h|h
   ·exact hI.2 x h
   ·rw[eM7]at h
    subst h
    simp only
    exact⟨by omega,hv16⟩)
 rw[h1]
 exact⟨a,rfl,h2,h3⟩
theorem dD4 {f:B5}(hv:(Z0 f).m=some true)(hl:f.L.length=7):∃a,(aN7 R0 f).m=some (a,0)/\a.length<=7/\∀x∈a,(0<=x.T2/\x.T2<7)/\x.ae8.length<=16:=by
 obtain⟨a,h1,h2⟩:=du8 (.of (fun z_=>aF6 z_ (-1) f) 287 [Pv.encI (-1),aQ8 f]) (fun c h0 h7=>by
  simp only[Cl.of,aF6,C.of,M.run,L1.m]
  rw[show(c != -1)=true by simp;omega]
  have:C9 f.L c=some (f.L[c.toNat]'(by omega)):=by
   conv=>lhs;rw[show c=((c.toNat:Nat):Int) by omega]
   rw[T3,aW5 (by omega)]
  rw[this]
  exact⟨_,rfl⟩)
 refine⟨a,?_,h2⟩
 simp only[aN7,bu8,bo1,C.of,M.run,hv,hl,aD6,fi0]
 rw[show(((7:Nat):Int))=7 by rfl,cZ6]
 simp only[aD6,aX3,fh8]
 rw[h1]
 rfl
theorem dX9 {a:List V9}(ha:a.length<=7)(hr:∀x∈a,0<=x.T2/\x.T2<7)(g o:Int):∃v e,(bu7 R0 a g o).m=some (v,e)/\(-5000<=o->o<=10000-> -5000<=v/\v<=10000):=by
 have hc:(ay8 a (.of (fun z_=>bi7 z_ R0) 220 [(Pv.encS ab9) R0])).m=some (a.any fun x=>decide (x.T2<0)||decide (x.T2>=(R0.length:Int))):=by
  simp only[ay8,aY2,aP6,C.of,M.run,L1.m,Cl.at,Cl.of]
  refine Eq.trans ?_ (bI4 a (by omega) (fun x=>(bi7 x R0).m) (fun x=>decide (x.T2<0)||decide (x.T2>=(R0.length:Int))) (fun y _=>rfl))
  kernel_rfl
 simp only[bu7,C.of,M.run,dD0,hc,aD6,aX3,ed0]
 rw[fi2 (show¬((a.length:Int)>64) by omega)]
 simp only[fh8,aD6]
 have hn:(a.any fun x=>decide (x.T2<0)||decide (x.T2>=(R0.length:Int)))=false:=by
  rw[dC3]
  intro x hx
  have:=hr x hx
  rw[cJ1]
  simp only[cI5,fi3]
  omega
 rw[hn]
 simp only[fh8]
 cases(decide (g<0)||decide (g>15))
 ·simp only[fh8]
  obtain⟨u,h1,h2⟩:=aM0 a (by omega) (fun i x (s:Int×Int)=>(bf2 R0 g i x s).run) (fun _ s=>-5000<=o->o<=10000-> -5000<=s.1/\s.1<=10000) (o,-1) (fun h1 h2=>⟨h1,h2⟩) (fun k x s hx hI=>by
   have hm:=hr x (do6 hx)
   have hlt:x.T2.toNat<R0.length:=by rw[cJ1];omega
   have hl:=dp7 dS7 (bd9 hlt)
   rw[fi3,fi3]at hl
   simp only[bf2,M.run,L1.m]
   have:C9 R0 x.T2=some R0[x.T2.toNat]:=by
    conv=>lhs;rw[show x.T2=((x.T2.toNat:Nat):Int) by omega]
    rw[T3,aW5 hlt]
   rw[this]
   simp only[aD6]
   cases((R0[x.T2.toNat].cZ3 !=g)||decide (R0[x.T2.toNat].E4<s.2))<;>simp only[fh8,fi0]
   ·cases decide (R0[x.T2.toNat].E4>s.2)
    ·refine⟨_,rfl,fun h3 h4=>?_⟩
     have:=hI h3 h4
     unfold F2
     simp only
     split<;>omega
    ·refine⟨_,rfl,fun h3 h4=>?_⟩
     unfold F2
     simp only
     split<;>omega
   ·exact⟨_,rfl,hI⟩)
  rw[h1]
  exact⟨_,_,rfl,h2⟩
 ·exact⟨_,_,rfl,fun _ _=>by omega⟩
theorem dg4 (n o:Int)(c:j8)(ha:c.Y6.length<=7)(hr:∀x∈c.Y6,0<=x.T2/\x.T2<7):∃v,(ar7 n o R0 c).m=some v/\(-5000<=o->o<=10000-> -5000<=v/\v<=10000):=by
 obtain⟨v,e,h1,h2⟩:=dX9 ha hr n o
 simp only[ar7,CG.of,M.run,h1,aD6]
 exact⟨v,rfl,h2⟩
structure fe1 (s r:j8):Prop where
 C2:r.u.u6=s.u.u6
 con:r.u.u3=s.u.u3
 sch:r.u.j3=s.u.j3
 syn:r.u.Q0=s.u.Q0
 pha:r.u.M5=s.u.M5
 fil:r.u.H6=s.u.H6
 gua:r.u.M4=s.u.M4
 qui:r.u.K8=s.u.K8
 sta:r.u.L5=s.u.L5
 pla:r.u.A7=s.u.A7
 bod:r.u.aa4=s.u.aa4
 d:r.d=s.d
 k:r.k=s.k
 t:r.t=s.t
 o7:r.o7=s.o7
 known:r.known=s.known
 cut:r.cut=s.cut
 u9:r.u9=s.u9
 S7:r.S7=s.S7
 act:r.Y6.length<=7/\∀x∈r.Y6,x.ae8.length<=16
 at4:-5000<=r.at4/\r.at4<=10000
 B9:50<=r.B9/\r.B9<=1013
 aP8:-40<=r.aP8/\r.aP8<=150
 D3:-40<=r.D3/\r.D3<=150
 aJ0:0<=r.aJ0/\r.aJ0<=20000
end Go.Proofs.YtmhdghdbojdgfaaGreat.Ec
namespace Go.Pv
open Go
theorem fb8:bU3 ⟨0⟩:=⟨by decide,by decide⟩
theorem dZ5 {t:o6}{e:o4}{b:L0}{c:A5}{i:W4}(h:Giv t e b c i)(f:Int):bx9 e (nxC t b c i f)=true:=by
 have ht:=dg3 h.t
 have hc:=ce2.1 h.c
 have hi:=eg8.1 h.i
 obtain⟨k1,k2,k3⟩:=eJ0 hc.kno hi.int (by rw[hc.num];exact hi.num) (by rw[hc.num];exact hi.len)
 rw[ce2]
 refine⟨hc.eng,(cR9 hc.ped _ _).2,(de7 hc.mix hi.lam hi.spd (bd3 ht i)).2,by rw[<-hc.num];exact k3,k2,?_,(du9 ht h.b hc f).2,em6 (df7 hi) _⟩
 show bU3 (idV t c i)
 unfold idV
 cases acV c i
 ·exact fb8
 ·exact(dO7 ht.idle hc.sum hi.coo hi.spd).2
theorem ep1 {e:o4}(h:Ev.aD7 e):bx9 e (eD5 e.z8.length)=true:=by
 rw[ce2]
 refine⟨h,(show cY3 ⟨0,0,false⟩=true by decide),(show cQ9 dI6=true by decide),by simp[eD5],?_,fb8,(show(0:Int)<=0/\(0:Int)<=1073741824 by decide),(show granted ⟨0,-1⟩from⟨⟨by decide,by decide⟩,⟨by decide,by decide⟩⟩)⟩
 rw[bF0]
 intro x hx
 have:x=k0:=eX8 hx
 subst this;decide
end Go.Pv
namespace Go.Proofs.YtmhdghdbojdgfaaGreat.Ec
open Go Go.Pv Go.Pv.Ec Go.Proofs
structure ey2 (s:j8):Prop where
 at4:-5000<=s.at4/\s.at4<=10000
 B9:50<=s.B9/\s.B9<=1013
 aP8:-40<=s.aP8/\s.aP8<=150
 D3:-40<=s.D3/\s.D3<=150
 aJ0:0<=s.aJ0/\s.aJ0<=20000
theorem eY5 (o:A5):(bx5 o).m=some o:=rfl
theorem eP1 (n o:A5):(bo6 n 0 o).m=some n:=rfl
theorem eY8 (o:O3):(bC7 o).m=some o:=rfl
theorem eP4 (n o:O3):(bs9 n 0 o).m=some n:=rfl
theorem cC3 (s:j8):(bh6 s).m=some ⟨9,1,s.at4,15⟩:=rfl
theorem fa3 (w:Int)(h: -5000<=w/\w<=10000):Ar.co5 ⟨9,1,w,15⟩:=
 ⟨⟨(by decide:(0:Int)<=9),(by decide:(9:Int)<=15)⟩,⟨(by decide:(0:Int)<=15),(by decide:(15:Int)<=15)⟩,h,.inl rfl⟩
theorem ds6 {s:j8}(hs:SOk s)(ha:ey2 s)(ht:cd1 s.u.u6=true)(hb:aV2 s.u.aa4=true)(hg:bx9 s.u.j3.u4 s.u.u3=true):
  ∃c o,(aT1 s).m=some {s with u:={s.u with u3:=c},E6:=o}/\
   bx9 s.u.j3.u4 c=true/\o.N9.length=s.u.j3.u4.z8.length:=by
 obtain⟨v,e0,_⟩:=aR6 hs 0
 obtain⟨v2,e1,_⟩:=aR6 hs 1
 have hc:=ce2.1 hg
 have hn:1<=s.u.j3.u4.z8.length/\s.u.j3.u4.z8.length<=8:=⟨hc.eng.1,hc.eng.2.1⟩
 have em:aX7 (s.u.j3.u4.z8.length:Int) (0:Int)=some (cG8 s.u.j3.u4.z8.length 0):=by
  unfold aX7
  rw[if_pos (by omega)]
  rfl
 have hi:Giv s.u.u6 s.u.j3.u4 s.u.aa4 s.u.u3 (⟨v,v2,s.o7,s.B9,s.aP8,13500,s.aJ0,s.D3,cG8 s.u.j3.u4.z8.length 0,([⟨9,1,s.at4,15⟩]:List j2)⟩:W4):=by
  have h1:=ha.B9;have h2:=ha.aP8;have h3:=ha.D3;have h4:=ha.aJ0
  refine⟨ht,hb,hg,eg8.2 ⟨hn,by simp,by simp,hs.spd,by simp only;omega,h2,h3,by simp,h4,by simp[inR],?_⟩⟩
  simp only[List.all_cons,List.all_nil,Bool.and_true]
  rw[co6,fi3]
  exact fa3 _ ha.at4
 obtain⟨f,l,_,e2⟩:=ej7 hi (by simp)
 simp only[aT1,CG.of,M.run,e0,e1,em,cC3,aD6,cE0]
 rw[e2]
 simp only[aD6,eY5,eP1,eY8,eP4]
 refine⟨_,_,rfl,dZ5 hi f,?_⟩
 simp only[eZ7,cV9,List.length_range]
end Go.Proofs.YtmhdghdbojdgfaaGreat.Ec
namespace Go.Pv
open Go
def dL8 (l:List Int)(x:Int)(a:Nat):Prop:=∃_:a<l.length,(nd l a<=x/\∀j,a<j->j<l.length->x<nd l j)\/(a=0/\∀j,j<l.length->x<nd l j)
def dh3 (l:List Int)(x:Int)(b:Nat):Prop:=∃_:b<l.length,(x<=nd l b/\∀j,j<b->nd l j<x)\/(b+1=l.length/\∀j,j<l.length->nd l j<x)
theorem cz0 {l:List Int}(h:by4 l)(x:Int):∃a b:Nat,dL8 l x a/\dh3 l x b/\af8 l x=some ((a:Int),(b:Int)):=by
 have h2:=h.two
 have hl:=h.most
 obtain⟨u,hu,hu2⟩:=af9 l.length (by omega) (aq4 l x) (fun k s=>∃a:Nat,s=(a:Int)/\a<l.length/\((a<k/\nd l a<=x/\∀j,a<j->j<k->x<nd l j)\/(a=0/\∀j,j<k->x<nd l j))) (0:Int)
  ⟨0,rfl,by omega,.inr ⟨rfl,fun j hj=>absurd hj (by omega)⟩⟩ (fun j hj s ⟨a,hs,ha,hI⟩=>by
   unfold aq4
   rw[C5 l j hj,aD6]
   by_cases hx:l[j]<=x
   ·rw[fi1 hx,fi0]
    refine⟨_,rfl,j,rfl,hj,.inl ⟨by omega,by rw[N3 hj];exact hx,fun i h1 h2=>absurd h2 (by omega)⟩⟩
   ·rw[fi2 hx,fh8]
    refine⟨_,rfl,a,hs,ha,?_⟩
    have step:∀i,i<j+1->(i<j->x<nd l i)->x<nd l i:=fun i hi hh=>by
     rcases dc9 i j with h1|h1
     ·exact hh h1
     ·have:i=j:=by omega
      subst this
      rw[N3 hj];omega
    rcases hI with⟨h1,h2,h3⟩|⟨h1,h2⟩
    ·exact .inl ⟨by omega,h2,fun i hi hi2=>step i hi2 (fun q=>h3 i hi q)⟩
    ·exact .inr ⟨h1,fun i hi=>step i hi (h2 i)⟩)
 obtain⟨a,rfl,ha,haI⟩:=hu2
 have down:∀(k b:Nat),k<=l.length->b<l.length->((k<=b/\x<=nd l b/\∀j,k<=j->j<b->nd l j<x)\/(b+1=l.length/\∀j,k<=j->j<l.length->nd l j<x))->
   ∃b':Nat,dh3 l x b'/\J7 (ad9 l x) ((k:Int)-1,(b:Int))=some (.inl (-1,(b':Int))):=by
  intro k
  induction k with
  |zero=>
   intro b _ hb hI
   refine⟨b,⟨hb,?_⟩,D7 ?_⟩
   ·rcases hI with⟨_,h1,h2⟩|⟨h1,h2⟩
    ·exact .inl ⟨h1,fun j hj=>h2 j (Nat.zero_le _) hj⟩
    ·exact .inr ⟨h1,fun j hj=>h2 j (Nat.zero_le _) hj⟩
   ·simp[ad9]
  |succ k ih=>
   intro b hk hb hI
   have hkl:k<l.length:=by omega
   have e0:((k+1:Nat):Int)-1=(k:Int):=by omega
   have e:decide ((k:Int)>=0)=true:=fi1 (by omega)
   have ew:j7 ((k:Int)-1)=(k:Int)-1:=j4 (by omega) (by omega)
   rw[e0]
   by_cases hx:l[k]>=x
   ·obtain⟨b',h1,h3⟩:=ih k (by omega) hkl (.inl ⟨cw4 _,by rw[N3 hkl];exact hx,fun j h1 h2=>absurd h2 (by omega)⟩)
    refine⟨b',h1,?_⟩
    rw[G6 (s':=((k:Int)-1,(k:Int)))]
    ·exact h3
    ·simp only[ad9,e,fi0,T3,aW5 hkl,aD6,hx,decide_true,ew]
   ·have step:∀j,k<=j->(k+1<=j->nd l j<x)->nd l j<x:=fun j hj hh=>by
     rcases dc9 k j with h1|h1
     ·exact hh h1
     ·have:j=k:=by omega
      subst this
      rw[N3 hkl];omega
    obtain⟨b',h1,h3⟩:=ih b (by omega) hb (by
     rcases hI with⟨h1,h2,h3⟩|⟨h1,h2⟩
     ·exact .inl ⟨by omega,h2,fun j h4 h5=>step j h4 (fun q=>h3 j q h5)⟩
     ·exact .inr ⟨h1,fun j h4 h5=>step j h4 (fun q=>h2 j q h5)⟩)
    refine⟨b',h1,?_⟩
    rw[G6 (s':=((k:Int)-1,(b:Int)))]
    ·exact h3
    ·simp only[ad9,e,fi0,T3,aW5 hkl,aD6,hx,decide_false,fh8,ew]
 obtain⟨b,hb,hb2⟩:=down l.length (l.length-1) (cw4 _) (by omega) (.inr ⟨by omega,fun j h1 h2=>absurd h2 (by omega)⟩)
 have ew:j7 ((l.length:Int)-1)=(l.length:Int)-1:=j4 (by omega) (by omega)
 have e1:((l.length-1:Nat):Int)=(l.length:Int)-1:=by omega
 have g0:=C5 l 0 (by omega)
 rw[show((0:Nat):Int)=0 from rfl]at g0
 refine⟨a,b,⟨ha,?_⟩,hb,?_⟩
 ·rcases haI with⟨_,h1,h2⟩|⟨h1,h2⟩
  ·exact .inl ⟨h1,h2⟩
  ·exact .inr ⟨h1,h2⟩
 ·unfold af8
  rw[hu]
  simp only[aD6,ew]
  rw[e1]at hb2
  rw[hb2]
  simp only[aD6,g0]
  by_cases hx:x<l[0]
  · --the first node is above
   have:b=0:=by
    obtain⟨hbl,hb1⟩:=hb
    rcases hb1 with⟨_,h1⟩|⟨_,h1⟩
    ·rcases Nat.eq_zero_or_pos b with h0|h0
     ·exact h0
     ·have:=h1 0 h0
      rw[N3 (by omega)]at this
      omega
    ·have:=h1 0 (by omega)
     rw[N3 (by omega)]at this
     omega
   subst this
   rw[fi1 hx]
   rfl
  ·rw[fi2 hx]
   rfl
theorem ce5 {l:List Int}(h:by4 l){x:Int}{a b i:Nat}(ha:dL8 l x a)(hb:dh3 l x b)(hi:bk8 l (lim l x) i)(f:Nat->Int):
  itp (nd l i) (nd l (i+1)) (f i) (f (i+1)) (lim l x)<=max (f a) (f b):=by
 have h2:=h.two
 obtain⟨k0,k1,k2,k3,_,_⟩:=hi.nd h
 obtain⟨hal,ha⟩:=ha
 obtain⟨hbl,hb⟩:=hb
 have hle:∀i j,i<=j->j<l.length->nd l i<=nd l j:=fun i j h1 h2=>by rw[N3 h2,N3 (by omega)];exact h.le j i h2 h1
 have hlt:∀i j,i<j->j<l.length->nd l i<nd l j:=fun i j h1 h2=>by rw[N3 h2,N3 (by omega)];exact h.lt j i h2 h1
 have hh:l.headD 0=nd l 0:=by rw[bD2 l (by omega),N3 (by omega)]
 have ht:l.getLastD 0=nd l (l.length-1):=by rw[be2 l (by omega),N3 (by omega)]
 have hlim:lim l x=min (max x (nd l 0)) (nd l (l.length-1)):=by unfold lim;rw[hh,ht]
 have h0l:=hle 0 (l.length-1) (by omega) (by omega)
 have node:∀c,c<l.length->lim l x=nd l c->itp (nd l i) (nd l (i+1)) (f i) (f (i+1)) (lim l x)=f c:=fun c hc e=>by
  rw[e]at k1 k2|-
  have c1:i<=c:=by
   rcases dc9 c i with q|q
   ·have:=hlt c i q (by omega);omega
   ·exact q
  have c2:c<=i+1:=by
   rcases dc9 (i+1) c with q|q
   ·have:=hlt (i+1) c q hc;omega
   ·exact q
  rcases(show c=i\/c=i+1 by omega)with rfl|rfl
  ·exact dv2 ..
  ·exact de0 k3
 rcases ff0 x (nd l 0)with q|q
 ·have e:lim l x=nd l 0:=by omega
  have:a=0:=by
   rcases ha with⟨h1,_⟩|⟨h1,_⟩
   ·have:=hle 0 a (by omega) hal;omega
   ·exact h1
  subst this
  rw[node 0 (by omega) e];omega
 ·rcases ff0 (nd l (l.length-1)) x with r|r
  ·have e:lim l x=nd l (l.length-1):=by omega
   have:b=l.length-1:=by
    rcases hb with⟨h1,_⟩|⟨h1,_⟩
    ·have:=hle b (l.length-1) (by omega) (by omega);omega
    ·omega
   subst this
   rw[node (l.length-1) (by omega) e];omega
  ·have e:lim l x=x:=by omega
   have ha':nd l a<=x/\∀j,a<j->j<l.length->x<nd l j:=by
    rcases ha with h1|⟨_,h1⟩
    ·exact h1
    ·have:=h1 0 (by omega);omega
   have hb':x<=nd l b/\∀j,j<b->nd l j<x:=by
    rcases hb with h1|⟨_,h1⟩
    ·exact h1
    ·have:=h1 (l.length-1) (by omega);omega
   rcases ff0 (nd l a) x with s|s
   ·have c1:i=a:=by
     rcases Nat.lt_trichotomy i a with q1|q1|q1
     ·have:=hle (i+1) a (by omega) hal
      omega
     ·exact q1
     ·have:=ha'.2 i q1 (by omega)
      omega
    have c2:b=a+1:=by
     rcases Nat.lt_trichotomy b (a+1)with q1|q1|q1
     ·have:=hle b a (by omega) hal;omega
     ·exact q1
     ·have:=hb'.2 (a+1) q1
      have:=ha'.2 (a+1) (by omega) (by omega)
      omega
    subst c1 c2
    exact(bh8 (lo:=min (f i) (f (i+1))) k1 k2 k3 (by omega) (by omega) (by omega) (by omega)).2
   ·rw[node a hal (by omega)];omega
theorem cu2 {m:SMap}(h:bn9 m=true)(x y:Int):∃v c,X8 m x y=some v/\X5 m x y=some c/\v<=c:=by
 have hm:=bZ5 h
 obtain⟨i,j,hi,hj,e⟩:=ed9 h x y
 obtain⟨a,b,ha,hb,eab⟩:=cz0 hm.x x
 obtain⟨c,d,hc,hd,ecd⟩:=cz0 hm.y y
 have la:=ha.1;have lb:=hb.1;have lc:=hc.1;have ld:=hd.1
 have za:a<m.Z.length:=by have:=hm.zl;omega
 have zb:b<m.Z.length:=by have:=hm.zl;omega
 have ra:=hm.rl a za
 have rb:=hm.rl b zb
 refine⟨_,max (max (zz m a c) (zz m a d)) (max (zz m b c) (zz m b d)),e,?_,?_⟩
 ·unfold X5
  rw[eab,ecd]
  simp only[aD6]
  rw[C5 m.Z a za,aD6,C5 _ c (by omega),aD6,C5 _ d (by omega),aD6,C5 m.Z b zb,aD6,C5 _ c (by omega),aD6,C5 _ d (by omega),aD6,
   <-bU9 za (by omega),<-bU9 za (by omega),<-bU9 zb (by omega),<-bU9 zb (by omega)]
  simp only[an9]
  congr 1;omega
 ·have h1:=ce5 hm.y hc hd hj (fun j=>along m i (lim m.X x) j)
  have h2:=ce5 hm.x ha hb hi (fun i=>zz m i c)
  have h3:=ce5 hm.x ha hb hi (fun i=>zz m i d)
  have e1:itp (nd m.X i) (nd m.X (i+1)) (zz m i c) (zz m (i+1) c) (lim m.X x)=along m i (lim m.X x) c:=rfl
  have e2:itp (nd m.X i) (nd m.X (i+1)) (zz m i d) (zz m (i+1) d) (lim m.X x)=along m i (lim m.X x) d:=rfl
  rw[e1]at h2
  rw[e2]at h3
  unfold atV
  omega
def cC2 (r:j2):Bool:=((!(((decide (r.N1<0))||(decide (r.N1>15)))||(decide (r.E4<0))||(decide (r.E4>15))))&&((decide (r.o8>=(-5000)))&&(decide (r.o8<=10000))))&&((r.Kind==1)||(decide (r.N1<=1)&&((r.Kind==2)||(r.Kind==3))))
theorem dQ7 (r:j2):R9 r=some (cC2 r):=by
 unfold R9 O9 cC2
 generalize decide (r.N1<0)=a,decide (r.N1>15)=b,decide (r.E4<0)=c,decide (r.E4>15)=d,decide (r.o8>=(-5000))=e,decide (r.o8<=10000)=f,(r.Kind==1)=h,decide (r.N1<=1)=i,(r.Kind==2)=j,(r.Kind==3)=k
 generalize(((a||b)||c)||d)=A,(j||k)=B
 cases A<;>cases e<;>cases f<;>cases h<;>cases i<;>cases B<;>rfl
theorem dU6 (l:List j2)(hl:l.length<=40):D5 l U3=some (!l.all cC2):=by
 have k:=ah7 l (by omega) U3 (fun r=>!cC2 r) (fun y _=>by simp[U3,dQ7])
 have e2:(l.any fun z=>!cC2 z)= !l.all cC2:=by rw[dS2];simp
 rw[e2]at k
 exact k
def dQ0 (s:Int×Int)(y:j2):Int×Int:=
 bif !((y.Kind==2)||(y.Kind==3))then s else(bif y.N1==1 then G4 s.1 (F2 y.o8 1500)else s.1,G4 s.2 y.E4)
def cB7 (p s:Int)(y:j2):Int:=bif (y.Kind==1)&&decide (y.E4>p)then F2 s y.o8 else s
theorem eZ8 (l:List j2)(hl:l.length<=40)(s:Int×Int):ad3 l af6 s=some (.inl (l.foldl dQ0 s)):=by
 rw[K4 _ (by omega)]
 refine bm7 l 0 s fun i s y _=>?_
 unfold af6 aw7 dQ0
 simp only[aD6]
 cases((y.Kind==2)||(y.Kind==3))<;>cases(y.N1==1)<;>rfl
theorem eZ9 (l:List j2)(hl:l.length<=40)(q:Int×Int)(s:Int):ad3 l (af7 q) s=some (.inl (l.foldl (cB7 q.2) s)):=by
 rw[K4 _ (by omega)]
 refine bm7 l 0 s fun i s y _=>?_
 unfold af7 cB7
 cases((y.Kind==1)&&decide (y.E4>q.2))<;>rfl
def em7 (g:ah3):Prop:=(0<=g.Over/\g.Over<=5)/\(0<=g.Calm/\g.Calm<=1000)/\(g.Over=0\/g.Calm=0)/\(g.Off=true\/g.Over<5)
instance (g:ah3):Decidable (em7 g):=by unfold em7;infer_instance
def dS0 (n:Int):Prop:=-20000<=n/\n<=20000
instance (n:Int):Decidable (dS0 n):=by unfold dS0;infer_instance
def dH0 (n:Int)(x:A0):Int:=bif (x.Y4 !=0)then j7 (n+1)else n
theorem fe4 (l:List A0)(hl:l.length<=20)(s:Int):ad3 l aq3 s=some (.inl (l.foldl dH0 s)):=by
 rw[K4 _ (by omega)]
 refine bm7 l 0 s fun i s y _=>?_
 unfold aq3 dH0
 cases(y.Y4 !=0)<;>rfl
def bZ3 (x:A0):Bool:=x.Y4 !=0
theorem cv3:∀(l:List A0) (s:Nat),s+l.length<=100->l.foldl dH0 (s:Int)=((s+l.countP bZ3:Nat):Int)
 |[],s,_=>by simp
 |y::l,s,h=>by
  simp only[bv4]at h
  by_cases hy:bZ3 y=true
  ·have e:dH0 (s:Int) y=((s+1:Nat):Int):=by
    unfold dH0;unfold bZ3 at hy;rw[hy];simp only[fi0];rw[j4 (by omega) (by omega)];simp
   rw[ex9,e,cv3 l (s+1) (by omega),List.countP_cons_of_pos hy]
   congr 1;omega
  ·have hy':bZ3 y=false:=by simpa using hy
   have e:dH0 (s:Int) y=(s:Int):=by unfold dH0;unfold bZ3 at hy';rw[hy'];rfl
   rw[ex9,e,cv3 l s (by omega),List.countP_cons_of_neg hy]
def dh5 (V n len:Int):Int:=(V*n+len-1).tdiv len
theorem cZ8 (t:o6)(x1 x2:Int)(hm:bn9 t.o8=true)(ho:(bif !(decide (x1>=0)&&decide (x1<=12000))then true else !(decide (x2>=0)&&decide (x2<=1048576)))=false)(c:Int)(c1:X5 t.o8 x1 x2=some c):
  ∀l:List A0,1<=l.length->l.length<=8->aw6 t x1 x2 l=some (dh5 (F2 (G4 c 0) 10000) (l.countP bZ3:Nat) (l.length:Nat),0):=by
 intro l hl hl2
 have h1:0<=F2 (G4 c 0) 10000:=by unfold G4 F2;repeat' split<;>omega
 have h2:F2 (G4 c 0) 10000<=10000:=by unfold F2;split<;>omega
 unfold aw6
 rw[an8,hm]
 have h8:decide ((l.length:Int)>8)=false:=by simp;omega
 have h0:((l.length:Int)==0)=false:=by
  have:¬(l.length:Int)=0:=by omega
  simpa using this
 have hn:=cv3 l 0 (by omega)
 simp only[aD6,aX3,fh8,h8]
 unfold M8
 simp only[aD6,cK3]
 rw[ho]
 simp only[fh8,h0]
 rw[fe4 l (by omega),show(0:Int)=((0:Nat):Int)from rfl,hn]
 simp only[aD6,c1]
 rw[show((0:Nat):Int)=0 from rfl,cX5]
 have hcl:l.countP bZ3<=l.length:=List.countP_le_length
 generalize F2 (G4 c 0) 10000=V at h1 h2|-
 generalize l.countP bZ3=n at hcl|-
 have hV1:0<=V*(n:Int):=eT0 h1 (by omega)
 have hV2:V*(n:Int)<=10000*8:=by
  have:=eR2 h2 (show(n:Int)<=8 by omega) (by omega) (by omega)
  exact this
 have hne:¬(l.length:Int)=0:=by omega
 unfold dh5
 generalize V*(n:Int)=p at hV1 hV2|-
 rw[j4 (n:=p) (by omega) (by omega),j4 (n:=p+(l.length:Int)) (by omega) (by omega),j4 (n:=p+(l.length:Int)-1) (by omega) (by omega)]
 simp only[bm5,if_neg hne,aD6]
 have hq1:0<=(p+(l.length:Int)-1).tdiv (l.length:Int):=Int.tdiv_nonneg (by omega) (by omega)
 have hq2:(p+(l.length:Int)-1).tdiv (l.length:Int)<=p+(l.length:Int)-1:=Int.tdiv_le_self _ (by omega)
 have:=j4 (n:=(p+(l.length:Int)-1).tdiv (l.length:Int)) (by omega) (by omega)
 unfold j7 at this
 rw[this]
theorem dm5 (t:o6)(x1 x2:Int)(hm:bn9 t.aH5=true)(ho:(bif !(decide (x1>=0)&&decide (x1<=1000))then true else !(decide (x2>=0)&&decide (x2<=12000)))=false)(c:Int)(c1:X5 t.aH5 x2 x1=some c):
  ∀l:List j2,l.all cC2=true->l.length<=32->
   ad8 t x1 x2 l=some (j7 (G4 0 (F2 (l.foldl (cB7 (l.foldl dQ0 (-5000,-1)).2) 10000) (G4 (F2 (G4 c (-5000)) 10000) (l.foldl dQ0 (-5000,-1)).1))+100),0):=by
 intro l hq hl
 unfold ad8
 rw[an8]
 simp only[aD6]
 rw[dU6 l (by omega),hm,hq]
 simp only[aX3,fh8,aD6]
 have h32:decide ((l.length:Int)>32)=false:=by simp;omega
 rw[h32]
 simp only[fh8]
 unfold M8
 simp only[aD6,cK3]
 rw[ho]
 simp only[fh8,c1,aD6]
 rw[eZ8 l (by omega)]
 simp only[aD6]
 rw[eZ9 l (by omega)]
 rfl
end Go.Pv
namespace Go.Proofs.YtmhdghdbojdgfaaGreat.Ec
open Go Go.Pv Go.Pv.Ec Go.Proofs
theorem eI3 (o:ah3):(bQ6 o).m=some o:=rfl
theorem en2 (n:ah3)(e:Int)(o:ah3):(bh4 n e o).m=some (bif e !=0 then o else n):=by
 simp only[bh4,C.of,M.run]
 cases e !=0<;>rfl
theorem dD6 {c:j8}(ht:cd1 c.u.u6=true)(hs:0<=c.o7/\c.o7<=12000)(hc:0<=c.w9/\c.w9<=1048576)(h1:1<=c.E6.N9.length)(h8:c.E6.N9.length<=8):∃v,(at9 c).m=some v:=by
 have hm:bn9 c.u.u6.o8=true:=by
  have:=(dg3 ht).tor
  unfold aY5 at this
  simp only[aI9]at this
  first|exact this.1.1.1.1|exact this.1.1|exact this.1|exact this.1.1.1
 obtain⟨v,k,_,e1,_⟩:=cu2 hm c.o7 c.w9
 have:=cZ8 c.u.u6 c.o7 c.w9 hm (by
  rw[fi1 hs.1,fi1 hs.2,fi1 hc.1,fi1 hc.2];rfl) k e1 c.E6.N9 h1 h8
 simp only[at9,CG.of,M.run,bw8]
 rw[this]
 exact⟨_,rfl⟩
theorem eI5 (o:aa8):(bz3 o).m=some o:=rfl
theorem en4 (n:aa8)(e:Int)(o:aa8):(aZ0 n e o).m=some (bif e !=0 then o else n):=by
 simp only[aZ0,C.of,M.run]
 cases e !=0<;>rfl
def eV4 (t:Int)(q:aa8):Prop:=qzB q=true/\q.as7<=t
theorem en5 (o:c8):(aB9 o).m=some o:=rfl
theorem dH2 (n:c8)(e:Int)(o:c8):(am6 n e o).m=some (bif e !=0 then o else n):=by
 simp only[am6,C.of,M.run]
 cases e !=0<;>rfl
theorem bU4 (s:j8)(n:c8)(l:List j6)(e:Int)(hl:s.u9.length+l.length<=1073741824):
  (aG6 s n l e).m=some {s with u:={s.u with j3:=bif e !=0 then s.u.j3 else n},u9:=bif e !=0 then s.u9 else s.u9++l}:=by
 simp only[aG6,CG.of,M.run,U1.m,en5,dH2,aD6,H5 _ _ hl]
 by_cases he:e=0
 ·subst he;rfl
 ·rw[show(e !=0)=true by simpa using he,show(e==0)=false by simpa using he];rfl
end Go.Proofs.YtmhdghdbojdgfaaGreat.Ec
namespace Go.Pv.Ev
open Go Go.Pv
def cen (e:o4)(c:Int):Int:=(e.ao2+G4 (idx c e.z8 0) 0*46080/(e.z8.length:Int))%46080
theorem da8 (e:o4)(c:Int):0<=cen e c/\cen e c<46080:=by unfold cen;omega
theorem er2 {a b:Int}(ha:0<=a)(hb:0<b)(hm:a<=9223372036854775807):bm5 .i64 a b=some (a/b):=by
 have h1:a/b<=a:=eM1 _ ha
 have h2:0<=a/b:=eO6 ha (by omega)
 unfold bm5
 rw[if_neg (by omega),cA0 ha]
 exact congrArg some (j4 (by omega) (by omega))
theorem da9 (e:o4)(c:Int)(h:aD7 e):ak0 e c=some (cen e c,decide (c∈e.z8)):=by
 obtain⟨h1,h2,h3,h4,h5,h6⟩:=h
 unfold ak0
 rw[bR7 _ _ (by omega)]
 simp only[aD6]
 have hm:0<=G4 (idx c e.z8 0) 0/\G4 (idx c e.z8 0) 0<8:=by
  rcases cP9 c e.z8 0 with⟨e1,_⟩|⟨k,e1,e2⟩
  ·rw[e1];decide
  ·have:=(bH2.1 e2).1
   rw[e1];unfold G4;split<;>omega
 rw[j4 (by omega) (by omega),er2 (by omega) (by omega) (by omega)]
 simp only[aD6]
 have hq:0<=G4 (idx c e.z8 0) 0*46080/(e.z8.length:Int):=eO6 (by omega) (by omega)
 have hq2:G4 (idx c e.z8 0) 0*46080/(e.z8.length:Int)<=G4 (idx c e.z8 0) 0*46080:=eM1 _ (by omega)
 rw[j4 (by omega) (by omega),do7 (by omega),dO8]
 rfl
theorem dS6 (e:o4)(c:Int):av0 e c=some (bif !decide (aD7 e)then(0,1)else bif !decide (c∈e.z8)then(0,7)else(cen e c,0)):=by
 unfold av0
 rw[an8]
 cases hd:decide (aD7 e)
 ·rfl
 ·simp only[aD6,aX3,fh8]
  rw[da9 e c (of_decide_eq_true hd)]
  simp only[aD6]
  cases decide (c∈e.z8)<;>rfl
def be0 (e:o4)(f:A0):Prop:=f.o9∈e.z8/\(-1280<=f.N8/\f.N8<=3840)/\(500<=f.ae6/\f.ae6<=10000)/\(0<=f.End/\f.End<=23040)/\(f.Y4=0\/(200<=f.Y4/\f.Y4<=20000))/\
 ((f.Gap=0/\f.Extra=0)\/(f.Y4≠0/\(200<=f.Gap/\f.Gap<=20000)/\(200<=f.Extra/\f.Extra<=20000)))
instance (e:o4)(f:A0):Decidable (be0 e f):=by unfold be0;infer_instance
theorem dO0 (e:o4)(f:A0):X2 e f=some (decide (aD7 e)&&decide (be0 e f)):=by
 unfold X2 M3
 rw[an8]
 cases hd:decide (aD7 e)
 ·rfl
 ·obtain⟨h1,h2,_⟩:=of_decide_eq_true hd
  simp only[aD6,aX3,fh8,contains_eq e.z8 f.o9 (by omega),da4,cM4]
  rw[aH6,dG1,fi3]
  unfold be0
  simp only[fd5,Bool.cond_false_left,fc5,cI5,aI9,ck7,bN3,fc4,ef3,fi3,bne_iff_ne,bne_eq_false_iff_eq,beq_iff_eq,ne_eq,ge_iff_le]
  by_cases hm:f.o9∈e.z8
  ·simp only[hm,true_and]
   omega
  ·simp only[hm,false_and]
def pul (f:A0):Int:=bif f.Y4==0 then 0 else bif f.Extra==0 then 1 else 2
theorem ea3 (f:A0):aj9 f=some (pul f):=by
 unfold aj9 pul
 cases f.Y4==0<;>cases f.Extra==0<;>rfl
theorem cU6 {R:Type}(f:Int->Unit->Option (Fl Unit R))(p:Nat->Bool)(r:R):∀(k i:Nat),(∀j,i<=j->j<i+k->f (j:Int) ()=some (bif p j then .ret r else .next ()))->aW3 f k (i:Int) ()=some (bif (ed4 i k).any p then .inr r else .inl ())
 |0,i,_=>rfl
 |k+1,i,h=>by
  rw[List.range'_succ,List.any_cons]
  simp only[aW3,h i (cw4 _) (by omega),aD6]
  cases hp:p i
  ·exact cU6 f p r k (i+1) fun j a b=>h j (by omega) (by omega)
  ·rfl
theorem dI8 {R:Type}(n:Nat)(hn:n<=9223372036854775807)(f:Int->Unit->Option (Fl Unit R))(p:Nat->Bool)(r:R)(h:∀j,j<n->f (j:Int) ()=some (bif p j then .ret r else .next ())):K5 (n:Int) f ()=some (bif (ed4 0 n).any p then .inr r else .inl ()):=by
 rw[al2 _ hn]
 exact cU6 f p r n 0 fun j _ b=>h j (by omega)
theorem ey8 {α:Type}(l:List α)(p:α->Bool):(l.all fun x=>!p x)= !l.any p:=by
 induction l with
 |nil=>rfl
 |cons x l ih=>rw[List.all_cons,List.any_cons,ih];cases p x<;>rfl
theorem dK8 (a:Int):(0<=a/\a.tmod 46080=a%46080)\/(a<0/\a.tmod 46080= -((-a)%46080)):=by
 rcases ff0 a 0 with h|h
 ·refine .inr ⟨h,?_⟩
  have:a.tmod 46080=(- -a).tmod 46080:=by rw[Int.neg_neg]
  rw[this,Int.neg_tmod,do7 (by omega)]
 ·exact .inl ⟨h,do7 h⟩
theorem mod_eq (a:Int)(h1: -1000000000000000<=a)(h2:a<=1000000000000000):ab7 a 46080=some (a%46080):=by
 unfold ab7 cf7
 simp only[show((46080:Int)==0)=false from rfl,show((46080:Int)== -1)=false from rfl,eO3,fh8,show¬(46080:Int)=0 from by decide,if_false,aD6,show decide ((46080:Int)<0)=false from rfl]
 rcases dK8 a with⟨h,e⟩|⟨h,e⟩
 ·rw[e]
  have:decide (a%46080<0)=false:=by simp;omega
  rw[this]
  simp
 ·rw[e]
  rcases Int.lt_or_eq_of_le (show 0<=(-a)%46080 by omega)with hq|hq
  ·have h3:decide (-(-a%46080)<0)=true:=by simp;omega
   have h4:(-(-a%46080) !=0)=true:=by simp;omega
   rw[h3,h4]
   simp only[show(true==false)=false from rfl,cJ0,Bool.and_self,fi0]
   rw[j4 (by omega) (by omega)]
   congr 1;omega
  ·rw[<-hq]
   simp only[show((-0:Int) !=0)=false from rfl,eA6,fh8]
   congr 1;omega
def trn (d M1:Int):Int:=d*23040/M1
theorem bW9 {d M1:Int}(h0:0<=d)(h1:d<=20000)(ht:4000<=M1):0<=trn d M1/\trn d M1<=460800000:=by
 have h2:d*23040/M1<=d*23040:=eM1 _ (by omega)
 exact⟨eO6 (by omega) (by omega),by unfold trn;omega⟩
theorem cI7 {d M1:Int}(h0:0<=d)(h1:d<=20000)(ht:4000<=M1):J9 d M1=some (trn d M1):=by
 unfold J9
 rw[j4 (by omega) (by omega),er2 (by omega) (by omega) (by omega)]
 rfl
def mn (x:Int):Int:=F2 x 23040
theorem eo9 {x:Int}(h:0<=x):0<=mn x/\mn x<=23040:=by
 unfold mn F2;split<;>omega
def dZ6 (f:A0)(t:Int):List (Int×Int×Int):=
 [(-f.N8,2,0),(-f.N8-mn (trn f.ae6 t),1,0)]++(bif decide (pul f>0)then [(-f.End,4,1),(-f.End-trn f.Y4 t,3,1)]else [])++(bif decide (pul f>1)then [(-f.End+trn f.Gap t,3,2),(-f.End+trn f.Gap t+trn f.Extra t,4,2)]else [])
def evF (e:o4)(f:A0)(o:Int×Int×Int):B4:=⟨(cen e f.o9+o.1)%46080,o.2.1,f.o9,o.2.2⟩
def evs (e:o4)(t:Int)(f:A0):List B4:=(dZ6 f t).map (evF e f)
def dl2 (t:Int)(f:A0):Bool:=decide (trn f.Y4 t>23040)||decide (trn f.Gap t>23040)||decide (trn f.Extra t>23040)
theorem bi4 (f:A0):pul f=0\/pul f=1\/pul f=2:=by
 unfold pul;cases f.Y4==0<;>cases f.Extra==0<;>simp
theorem ep8 (f:A0)(t:Int):(dZ6 f t).length<=6:=by
 rcases bi4 f with h|h|h<;>simp[dZ6,h]
theorem cH6 (e:o4)(t:Int)(f:A0):(evs e t f).length<=6:=by
 unfold evs;rw[cV9];exact ep8 f t
theorem cB8 (a k p:Int)(c:List B4)(x:A0)(h1: -1000000000000000<=a)(h2:a<=1000000000000000)(hc:c.length<=100000):O4 a k p c x=some (c++[⟨a%46080,k,x.o9,p⟩]):=by
 unfold O4
 rw[mod_eq a h1 h2]
 simp only[aD6]
 rw[H5 _ _ (by simp only[cr0];omega)]
 rfl
theorem dt8 {e:o4}{f:A0}(h:be0 e f):(0<=f.ae6/\f.ae6<=20000)/\(0<=f.Y4/\f.Y4<=20000)/\(0<=f.Gap/\f.Gap<=20000)/\(0<=f.Extra/\f.Extra<=20000)/\(-1280<=f.N8/\f.N8<=3840)/\(0<=f.End/\f.End<=23040):=by
 unfold be0 at h
 obtain⟨_,h⟩:=h
 omega
theorem step_eq (e:o4)(t i:Int)(x:A0)(c:List B4)(he:aD7 e)(hx:be0 e x)(ht:4000<=t)(hc:c.length<=1000):
  aw0 e t i x c=some (bif dl2 t x then .ret ([],2)else .next (c++evs e t x)):=by
 obtain⟨⟨d0,d1⟩,⟨i0,i1⟩,⟨g0,g1⟩,⟨x0,x1⟩,⟨s0,s1⟩,n0,n1⟩:=dt8 hx
 obtain⟨c0,c1⟩:=da8 e x.o9
 have td:=eo9 (bW9 d0 d1 ht).1
 have ti:=bW9 i0 i1 ht
 have tg:=bW9 g0 g1 ht
 have tx:=bW9 x0 x1 ht
 unfold aw0
 rw[da9 e _ he,cI7 d0 d1 ht,cI7 i0 i1 ht,cI7 g0 g1 ht,cI7 x0 x1 ht,ea3]
 simp only[aD6]
 rw[show F2 (trn x.ae6 t) 23040=mn (trn x.ae6 t)from rfl]
 have hl:decide (G4 (G4 (trn x.Y4 t) (trn x.Gap t)) (trn x.Extra t)>23040)=dl2 t x:=by
  rw[dG1]
  unfold dl2
  simp only[cI5,fi3]
  unfold G4
  split<;>split<;>omega
 rw[hl]
 unfold evs dZ6
 simp only[eK6,cW0,ep3,evF]
 generalize hC:cen e x.o9=C at*
 generalize hD:mn (trn x.ae6 t)=D at*
 generalize hI:trn x.Y4 t=A at*
 generalize hG:trn x.Gap t=G at*
 generalize hX:trn x.Extra t=B at*
 rw[j4 (n:=C-x.N8) (by omega) (by omega),j4 (n:=C-x.N8-D) (by omega) (by omega),j4 (n:=C-x.End) (by omega) (by omega),j4 (n:=C-x.End-A) (by omega) (by omega),j4 (n:=C-x.End+G) (by omega) (by omega),j4 (n:=C-x.End+G+B) (by omega) (by omega)]
 rw[cB8 _ _ _ c _ (by omega) (by omega) (by omega)]
 simp only[aD6]
 rw[cB8 _ _ _ _ _ (by omega) (by omega) (by simp only[aZ7,cr0];omega)]
 simp only[aD6]
 cases dl2 t x
 ·simp only[fh8]
  rcases bi4 x with hp|hp|hp
  ·rw[hp]
   simp only[show decide ((0:Int)>0)=false from rfl,show decide ((0:Int)>1)=false from rfl,fh8,aD6,ep3,dh6,dp3,dH3,cW3]
   rw[show C-x.N8-D=C+(-x.N8-D) by omega,show C-x.N8=C+ -x.N8 by omega]
  ·rw[hp]
   simp only[show decide ((1:Int)>0)=true from rfl,show decide ((1:Int)>1)=false from rfl,fh8,fi0]
   rw[cB8 _ _ _ _ _ (by omega) (by omega) (by simp only[aZ7,cr0];omega)]
   simp only[aD6]
   rw[cB8 _ _ _ _ _ (by omega) (by omega) (by simp only[aZ7,cr0];omega)]
   simp only[evF,hC,aD6,cW0,ep3,dh6,dp3,dH3,cW3]
   rw[show C-x.N8-D=C+(-x.N8-D) by omega,show C-x.N8=C+ -x.N8 by omega,show C-x.End-A=C+(-x.End-A) by omega,show C-x.End=C+ -x.End by omega]
  ·rw[hp]
   simp only[show decide ((2:Int)>0)=true from rfl,show decide ((2:Int)>1)=true from rfl,fi0]
   rw[cB8 _ _ _ _ _ (by omega) (by omega) (by simp only[aZ7,cr0];omega)]
   simp only[aD6]
   rw[cB8 _ _ _ _ _ (by omega) (by omega) (by simp only[aZ7,cr0];omega)]
   simp only[aD6]
   rw[cB8 _ _ _ _ _ (by omega) (by omega) (by simp only[aZ7,cr0];omega)]
   simp only[aD6]
   rw[cB8 _ _ _ _ _ (by omega) (by omega) (by simp only[aZ7,cr0];omega)]
   simp only[evF,hC,aD6,cW0,ep3,dp3,dH3,cW3]
   rw[show C-x.N8-D=C+(-x.N8-D) by omega,show C-x.N8=C+ -x.N8 by omega,show C-x.End-A=C+(-x.End-A) by omega,show C-x.End+G+B=C+(-x.End+G+B) by omega,show C-x.End+G=C+(-x.End+G) by omega,show C-x.End=C+ -x.End by omega]
 ·rfl
theorem dA2 (e:o4)(t:Int)(he:aD7 e)(ht:4000<=t):∀(l:List A0) (i:Int) (c:List B4),(∀x∈l,be0 e x)->c.length+6*l.length<=1000->
  L7 (aw0 e t) l i c=some (bif l.any (dl2 t)then .inr ([],2)else .inl (c++l.flatMap (evs e t)))
 |[],i,c,_,_=>by simp[L7]
 |x::l,i,c,hx,hc=>by
  rw[bv4]at hc
  simp only[L7,step_eq e t i x c he (hx x (bN8 ..)) ht (by omega),aD6,List.any_cons]
  cases dl2 t x
  ·simp only[fh8,ed0,eJ6]
   have:=cH6 e t x
   rw[<-dp3]
   exact dA2 e t he ht l (i+1) _ (fun y hy=>hx y (bZ9 _ hy)) (by rw[aZ7];omega)
  ·rfl
def ltE (a b:B4):Bool:=decide (a.G7<b.G7\/(a.G7=b.G7/\(a.o9<b.o9\/(a.o9=b.o9/\(a.Kind<b.Kind\/(a.Kind=b.Kind/\a.ai4<b.ai4))))))
def cX4 (x y:Int):Int:=if x<y then -1 else if x>y then 1 else 0
theorem cN1 (x y:Int):F3 x y=some (cX4 x y):=by
 unfold F3 cmp_isNaN_int cX4
 have h:∀z:Int,(z !=z)=false:=fun z=>by simp
 rw[h,h]
 simp only[aD6,fh8]
 by_cases h1:x<y
 ·rw[fi1 h1,if_pos h1];rfl
 ·rw[fi2 h1,if_neg h1]
  by_cases h2:x>y
  ·rw[fi1 h2,if_pos h2];rfl
  ·rw[fi2 h2,if_neg h2];rfl
def dk0 (a b c d:Int):Int:=bif a !=0 then a else bif b !=0 then b else bif c !=0 then c else d
theorem or_eq (a b c d:Int):af3 [a,b,c,d]=some (dk0 a b c d):=by
 unfold af3 dk0
 rw[K4 _ (by simp)]
 simp only[L7,ao3]
 cases ha:a !=0
 ·cases hb:b !=0
  ·cases hc:c !=0
   ·cases hd:d !=0
    ·have:d=0:=by simpa using hd
     rw[this];rfl
    ·rfl
   ·rfl
  ·rfl
 ·rfl
theorem dx1 (a b:B4):ak8 a b=some (dk0 (cX4 a.G7 b.G7) (cX4 a.o9 b.o9) (cX4 a.Kind b.Kind) (cX4 a.ai4 b.ai4)):=by
 unfold ak8
 simp only[cN1,aD6,or_eq]
theorem bh1 (x y:Int):(x<y/\cX4 x y= -1)\/(x=y/\cX4 x y=0)\/(y<x/\cX4 x y=1):=by
 unfold cX4
 split
 ·exact .inl ⟨by assumption,rfl⟩
 ·split
  ·exact .inr (.inr ⟨by omega,rfl⟩)
  ·exact .inr (.inl ⟨by omega,rfl⟩)
theorem aO3 (a b:B4):ltM ak8 a b=ltE a b:=by
 unfold ltM ltE
 rw[dx1,ez4,decide_eq_decide]
 unfold dk0
 rcases bh1 a.G7 b.G7 with⟨h1,e1⟩|⟨h1,e1⟩|⟨h1,e1⟩<;>rw[e1]
 ·simp;omega
 ·rcases bh1 a.o9 b.o9 with⟨h2,e2⟩|⟨h2,e2⟩|⟨h2,e2⟩<;>rw[e2]
  ·simp;omega
  ·rcases bh1 a.Kind b.Kind with⟨h3,e3⟩|⟨h3,e3⟩|⟨h3,e3⟩<;>rw[e3]
   ·simp;omega
   ·rcases bh1 a.ai4 b.ai4 with⟨h4,e4⟩|⟨h4,e4⟩|⟨h4,e4⟩<;>rw[e4]<;>simp<;>omega
   ·simp;omega
  ·simp;omega
 ·simp;omega
theorem eD1 (x:B4):ltE x x=false:=by unfold ltE;simp
theorem dY1 {x y z:B4}(h1:ltE x y=true)(h2:ltE y z=true):ltE x z=true:=by
 unfold ltE at*;simp only[fi3]at*;omega
theorem dX6 {x y z:B4}(h1:ltE x y=false)(h2:ltE y z=false):ltE x z=false:=by
 unfold ltE at*;simp only[fi4]at*;omega
theorem eo0 {x y:B4}(h1:ltE x y=false)(h2:ltE y x=false):x=y:=by
 unfold ltE at*;simp only[fi4]at*
 refine B4.ext ?_ ?_ ?_ ?_<;>omega
def srt (l:List B4):List B4:=l.mergeSort fun x y=>!ltE y x
theorem eu1 (l:List B4):(srt l).Perm l:=List.mergeSort_perm _ _
theorem eF9 (l:List B4)(h:l.length<=1000000):aa2 l ak8=some (srt l):=by
 unfold aa2 srt
 have e:(fun x y=>!ltM ak8 y x)=fun x y=>!ltE y x:=by funext x y;rw[aO3]
 rw[bT8 ⟨by omega,fun x _ y _=>⟨_,dx1 x y⟩,fun x _=>by rw[aO3,eD1],fun x _ y _ z _=>by rw[aO3,aO3,aO3];exact dY1,
  fun x _ y _ z _=>by rw[aO3,aO3,aO3];exact dX6,fun x _ y _=>by rw[aO3,aO3];exact eo0⟩,e]
def dN5 (l:List A0)(i:Nat):Bool:=match l[i]?with|some x=>(l.take i).any fun g=>g.o9==x.o9|none=>false
def eA0 (l:List A0):Bool:=(ed4 0 l.length).any (dN5 l)
def ev6 (t:Int):Bool:=decide (t>=4000)&&decide (t<=1000000)
def dU4 (e:o4)(l:List A0):Bool:=l.any fun f=>!decide (be0 e f)
def bf0 (e:o4)(l:List A0)(t:Int):List B4×Int:=
 bif !decide (aD7 e)then([],1)else bif dU4 e l then([],1)else bif !ev6 t then([],2)else bif eA0 l then([],8)else bif l.any (dl2 t)then([],2)else(srt (l.flatMap (evs e t)),0)
theorem el5 (e:o4)(t:Int)(l:List A0):(l.flatMap (evs e t)).length<=6*l.length:=by
 induction l with
 |nil=>simp
 |cons x l ih=>
  have:=cH6 e t x
  rw[eJ6,aZ7,bv4];omega
theorem dE3 {e:o4}{l:List A0}(h:dU4 e l=false):∀x∈l,be0 e x:=by
 intro x hx
 unfold dU4 at h
 rw[dC3]at h
 simpa using h x hx
theorem eE3 (e:o4)(l:List A0)(t:Int)(hl:l.length<=100):aE6 e l t=some (bf0 e l t):=by
 unfold aE6 bf0
 rw[an8]
 cases hd:decide (aD7 e)
 ·rfl
 ·have he:=of_decide_eq_true hd
  simp only[aD6,aX3,fh8]
  have k:=ah7 l (by omega) (fun x0=>ao4 x0 e) (fun f=>!decide (be0 e f)) (fun y _=>by unfold ao4;rw[dO0,hd];rfl)
  have k':E7 l (fun x0=>ao4 x0 e)=some (dU4 e l):=k
  rw[k']
  simp only[aD6]
  cases hb:dU4 e l
  ·have hf:=dE3 hb
   simp only[fh8]
   unfold M3 ev6
   simp only[aD6]
   cases ht:(decide (t>=4000)&&decide (t<=1000000))
   ·rfl
   ·simp only[aX3,fh8]
    have ht1:4000<=t:=by simp at ht;omega
    rw[dI8 l.length (by omega) (aC1 l) (dN5 l) ([],8) (fun j hj=>by
     unfold aC1 dN5
     have hs:ax7 l 0 (j:Int)=some (l.take j):=by
      unfold ax7
      rw[if_pos ⟨by omega,by omega,by omega⟩]
      simp
     rw[C5 _ _ hj,aW5 hj,hs]
     simp only[aD6]
     have k2:=ah7 (l.take j) (by rw[bw6];omega) (fun x0=>av1 x0 l[j]) (fun g=>g.o9==l[j].o9) (fun y _=>rfl)
     have k3:E7 (l.take j) (fun x0=>av1 x0 l[j])=some ((l.take j).any fun g=>g.o9==l[j].o9):=k2
     rw[k3]
     simp only[aD6]
     cases(l.take j).any fun g=>g.o9==l[j].o9<;>rfl)]
    rw[show(ed4 0 l.length).any (dN5 l)=eA0 l from rfl]
    cases eA0 l
    ·simp only[fh8,aD6]
     rw[K4 _ (by omega),dA2 e t he ht1 l 0 [] hf (by simp;omega)]
     cases l.any (dl2 t)
     ·simp only[fh8,aD6,cW3]
      have:=el5 e t l
      rw[eF9 _ (by omega)]
      rfl
     ·rfl
    ·rfl
  ·rfl
end Go.Pv.Ev
namespace Go.Pv
open Go
namespace Ev
def evP (x:B4):Prop:=(0<=x.G7/\x.G7<46080)/\(1<=x.Kind/\x.Kind<=4)/\(1<=x.o9/\x.o9<=8)/\(0<=x.ai4/\x.ai4<=2)
instance (x:B4):Decidable (evP x):=by unfold evP;infer_instance
def ca9 (a:Int):Bool:=decide (a>=0)&&decide (a<46080)
theorem br4 {a:Int}:ca9 a=true↔0<=a/\a<46080:=by unfold ca9;simp
def dst (a b:Int):Int:=(b-a)%46080
theorem ek1 (a b:Int):Q5 a b=some (bif ca9 a&&ca9 b then dst a b else -1):=by
 unfold Q5 ah4
 simp only[aD6]
 have e:∀a:Int,(decide (a>=0)&&decide (a<46080))=ca9 a:=fun _=>rfl
 rw[e,e]
 cases ha:ca9 a
 ·rfl
 ·cases hb:ca9 b
  ·rfl
  ·have ha:=br4.1 ha
   have hb:=br4.1 hb
   simp only[aX3,fh8,aD6,Bool.and_self,fi0]
   rw[j4 (n:=b-a) (by omega) (by omega),mod_eq _ (by omega) (by omega)]
   rfl
theorem dj6 {a b:Int}(ha:ca9 a=true)(hb:ca9 b=true):Q5 a b=some (dst a b):=by rw[ek1,ha,hb];rfl
end Ev
namespace Tm
abbrev cD0:Int:=1099511627776
abbrev tz:u0:=⟨0,[]⟩
def chB (now:Int)(c:j5):Bool:=!(bif c.D6 then(decide (c.At<=now)||decide (c.At>1099511627776))else((c.At !=0)||c.Next))
def be3 (t:u0):Bool:=(((decide (t.T1<0))||(decide (t.T1>1099511627776)))||(decide ((t.j1.length:Int)<1)))||(decide ((t.j1.length:Int)>16))
def ad4 (t:u0):Bool:=!be3 t&&t.j1.all (chB t.T1)
theorem dd3 {t:u0}(h:be3 t=false):1<=t.j1.length/\t.j1.length<=16/\0<=t.T1/\t.T1<=1099511627776:=by
 unfold be3 at h
 simp only[bN3,fi4]at h
 omega
theorem du1 {t:u0}(h:1<=t.j1.length/\t.j1.length<=16/\0<=t.T1/\t.T1<=1099511627776):be3 t=false:=by
 unfold be3
 simp only[bN3,fi4]
 omega
theorem bE5 {t:u0}(h:ad4 t=true):1<=t.j1.length/\t.j1.length<=16/\0<=t.T1/\t.T1<=1099511627776:=by
 unfold ad4 at h
 simp only[aI9,ck7]at h
 exact dd3 h.1
theorem dL1 (t:u0):an6 t=some (ad4 t):=by
 unfold an6 ad4
 cases hh:be3 t
 ·unfold be3 at hh
  rw[hh]
  have hl:=dd3 (t:=t) hh
  have k:=ah7 t.j1 (by omega) (fun c=>ao7 c t) (fun c=>!chB t.T1 c) (fun y _=>by unfold ao7 chB;cases y.D6<;>simp)
  have e2:(t.j1.any fun z=>!chB t.T1 z)= !t.j1.all (chB t.T1):=by rw[dS2];simp
  rw[e2]at k
  simp only[fh8,cJ0,cM4]
  have:G1 t.j1 (fun x0=>ao7 x0 t)=some (!t.j1.all (chB t.T1)):=k
  rw[this]
  simp
 ·unfold be3 at hh
  rw[hh];rfl
def cD3 (t:u0)(ch:Int):Bool:=(decide (ch<0))||(decide (ch>=(t.j1.length:Int)))
theorem bA9 (t:u0)(ch:Int):ag5 t ch=some (bif !ad4 t then(tz,1)else bif cD3 t ch then(tz,2)else(t,0)):=by
 unfold ag5
 rw[dL1]
 cases h:ad4 t
 ·rfl
 ·have hl:=bE5 h
  simp only[aD6,aX3,fh8]
  cases hb:cD3 t ch
  ·unfold cD3 at hb
   rw[hb]
   simp only[fh8]
   rw[bV9 _ (by omega)]
   simp only[aD6]
   rw[dF5 _ _ (by simp)]
  ·unfold cD3 at hb
   rw[hb];rfl
theorem eg3 (t:u0)(ch at_:Int)(lvl:Bool):∀j:Nat,ch=(j:Int)->(hj:j<t.j1.length)->ad4 t=true->
  aJ5 t ch at_ lvl=some (bif decide (at_<=t.T1)then(tz,16)else bif decide (at_>cD0)then(tz,2)else(⟨t.T1,t.j1.set j ⟨true,at_,lvl,t.j1[j].K2⟩⟩,0)):=by
 rintro j rfl hj h
 unfold aJ5
 have hb:cD3 t (j:Int)=false:=by unfold cD3;simp;omega
 rw[bA9,h,hb]
 simp only[aX3,fh8,aD6,bne_self_eq_false]
 cases decide (at_<=t.T1)
 ·simp only[fh8]
  unfold cD0
  cases decide (at_>1099511627776)
  ·simp only[fh8,C5 _ _ hj,aD6,T4 _ _ _ hj]
  ·rfl
 ·rfl
theorem db8 (t:u0)(ch:Int):∀j:Nat,ch=(j:Int)->(hj:j<t.j1.length)->ad4 t=true->
  az0 t ch=some (⟨t.T1,t.j1.set j ⟨false,0,false,t.j1[j].K2⟩⟩,0):=by
 rintro j rfl hj h
 unfold az0
 have hb:cD3 t (j:Int)=false:=by unfold cD3;simp;omega
 rw[bA9,h,hb]
 simp only[aX3,fh8,aD6,bne_self_eq_false,C5 _ _ hj,T4 _ _ _ hj]
theorem force_eq (t:u0)(ch:Int)(lvl:Bool):∀j:Nat,ch=(j:Int)->(hj:j<t.j1.length)->ad4 t=true->
  aG2 t ch lvl=some (⟨t.T1,t.j1.set j ⟨false,0,false,lvl⟩⟩,bif t.j1[j].K2==lvl then []else [⟨t.T1,(j:Int),lvl⟩],0):=by
 rintro j rfl hj h
 unfold aG2
 have hb:cD3 t (j:Int)=false:=by unfold cD3;simp;omega
 rw[bA9,h,hb]
 simp only[aX3,fh8,aD6,bne_self_eq_false,C5 _ _ hj,T4 _ _ _ hj]
 cases(t.j1[j].K2==lvl)<;>rfl
theorem copy_eq (t:u0)(h:t.j1.length<=1000):aP4 t=some t:=by
 unfold aP4
 rw[H5 _ _ (by simp;omega)]
 rfl
def due (K1:Int)(c:j5):Bool:=!((!c.D6)||(decide (c.At>K1)))
def swC (K1:Int)(i:Nat)(c:j5):List j6:=bif due K1 c&& !(c.Next==c.K2)then [⟨c.At,(i:Int),c.Next⟩]else []
def bF6 (K1:Int)(c:j5):j5:=bif due K1 c then⟨false,0,false,c.Next⟩else c
def bN1 (K1:Int):Nat->List j5->List j6
 |_,[]=>[]
 |i,c::r=>swC K1 i c++bN1 K1 (i+1) r
theorem eG2 (K1:Int)(i:Nat)(c:j5):(swC K1 i c).length<=1:=by
 unfold swC;cases(due K1 c&& !(c.Next==c.K2))<;>simp
theorem cp8 (K1:Int):∀(l:List j5) (i:Nat),(bN1 K1 i l).length<=l.length
 |[],_=>cw4 _
 |c::r,i=>by
  have:=cp8 K1 r (i+1)
  have:=eG2 K1 i c
  simp only[bN1,aZ7,bv4];omega
theorem bW7 (K1:Int):∀(l:List j5) (i:Nat) (c:j5),bN1 K1 i (l++[c])=bN1 K1 i l++swC K1 (i+l.length) c
 |[],i,c=>by simp[bN1]
 |x::l,i,c=>by
  simp only[dH3,bN1,dp3,List.append_cancel_left_eq,bv4]
  rw[bW7 K1 l (i+1) c,show i+1+l.length=i+(l.length+1) by omega]
theorem dw2 {K1:Int}{s:j6}:∀{l:List j5}{i:Nat},s∈bN1 K1 i l->∃j c,l[j]? =some c/\due K1 c=true/\(c.Next==c.K2)=false/\s=⟨c.At,((i+j:Nat):Int),c.Next⟩
 |[],i,h=>by simp[bN1]at h
 |c::r,i,h=>by
  simp only[bN1,do5]at h
  rcases h with h|h
  ·unfold swC at h
   cases hd:(due K1 c&& !(c.Next==c.K2))<;>rw[hd]at h
   ·simp at h
   ·simp only[fi0,eM7]at h
    simp only[aI9,ck7]at hd
    exact⟨0,c,rfl,hd.1,hd.2,by simpa using h⟩
  ·obtain⟨j,c',h1,h2,h3,h4⟩:=dw2 h
   exact⟨j+1,c',by simpa using h1,h2,h3,by rw[h4,show i+1+j=i+(j+1) by omega]⟩
theorem dA6 {K1:Int}:∀(l:List j5) (i:Nat),(bN1 K1 i l).Pairwise (fun a b=>a.Channel<b.Channel)
 |[],_=>.nil
 |c::r,i=>by
  simp only[bN1]
  rw[List.pairwise_append]
  refine⟨?_,dA6 r (i+1),fun a ha b hb=>?_⟩
  ·unfold swC;cases(due K1 c&& !(c.Next==c.K2))<;>simp
  ·have h1:a.Channel=(i:Int):=by
    unfold swC at ha
    cases hd:(due K1 c&& !(c.Next==c.K2))<;>rw[hd]at ha
    ·simp at ha
    ·simp at ha;rw[ha]
   obtain⟨j,c',_,_,_,h4⟩:=dw2 hb
   rw[h1,h4];simp only;omega
def ltS (a b:j6):Bool:=decide (a.At<b.At\/(a.At=b.At/\a.Channel<b.Channel))
theorem ei9 (x y:Int):F3 x y=some (if x<y then -1 else if x>y then 1 else 0):=by
 unfold F3 cmp_isNaN_int
 simp only[aD6,bne_self_eq_false,fh8]
 by_cases h1:x<y
 ·simp[h1]
 ·by_cases h2:x>y<;>simp[h1,h2]
theorem or_eq (v v2:Int):af3 [v,v2]=some (if v≠0 then v else v2):=by
 unfold af3
 rw[K4 _ (by simp)]
 by_cases h1:v=0
 ·by_cases h2:v2=0
  ·simp[L7,ao3,h1,h2]
  ·have h3:(v2 !=0)=true:=by simpa using h2
   simp[L7,ao3,h1,h3]
 ·have h3:(v !=0)=true:=by simpa using h1
  simp[L7,ao3,h1,h3]
theorem eX1 (a b:j6):∃c,W9 a b=some c/\(decide (c<0))=ltS a b:=by
 unfold W9
 rw[ei9,ei9]
 simp only[aD6,or_eq]
 refine⟨_,rfl,?_⟩
 unfold ltS
 rw[dG1]
 simp only[fi3]
 by_cases h1:a.At<b.At
 ·simp[h1]
 ·by_cases h2:a.At>b.At
  ·simp[h1,h2];omega
  ·have:a.At=b.At:=by omega
   by_cases h3:a.Channel<b.Channel
   ·simp[this,h3]
   ·by_cases h4:a.Channel>b.Channel<;>simp[this,h3,h4]<;>omega
theorem bz7 (a b:j6):ltM W9 a b=ltS a b:=by
 obtain⟨c,h1,h2⟩:=eX1 a b
 unfold ltM;rw[h1];exact h2
theorem fa8 (l:List j6)(hl:l.length<=100)(hd:∀x∈l,∀y∈l,x.Channel=y.Channel->x=y):X7 l W9=some (l.mergeSort fun x y=>!ltS y x):=by
 unfold X7
 have e:(fun x y=>!ltM W9 y x)=fun x y=>!ltS y x:=by funext x y;rw[bz7]
 rw[bT8 ⟨by omega,fun x _ y _=>by obtain⟨c,h,_⟩:=eX1 x y;exact⟨c,h⟩,fun x _=>by rw[bz7];unfold ltS;simp,fun x _ y _ z _=>by rw[bz7,bz7,bz7];unfold ltS;simp only[fi3];omega,
  fun x _ y _ z _=>by rw[bz7,bz7,bz7];unfold ltS;simp only[fi4];omega,
  fun x hx y hy=>by rw[bz7,bz7];unfold ltS;simp only[fi4];intro a b;exact hd x hx y hy (by omega)⟩,e]
def cJ4 (K1:Int)(l:List j5):List j6:=(bN1 K1 0 l).mergeSort fun x y=>!ltS y x
theorem ei4 {R:j6->j6->Prop}{l:List j6}(h:l.Pairwise R)(hR:∀a b,R a b->a.Channel≠b.Channel):∀x∈l,∀y∈l,x.Channel=y.Channel->x=y:=by
 induction h with
 |nil=>intro x hx;simp at hx
 |cons h1 _ ih=>
  intro x hx y hy e
  rcases cq9.1 hx with hx1|hx1
  ·rcases cq9.1 hy with hy1|hy1
   ·rw[hx1,hy1]
   ·rw[hx1]at e;exact absurd e (hR _ _ (h1 y hy1))
  ·rcases cq9.1 hy with hy1|hy1
   ·rw[hy1]at e;exact absurd e.symm (hR _ _ (h1 x hx1))
   ·exact ih x hx1 y hy1 e
theorem ef1 (t:u0)(K1:Int):ak3 t K1=some (bif !ad4 t then(tz,[],1)else bif decide (K1<t.T1)then(tz,[],16)else bif decide (K1>cD0)then(tz,[],2)else(⟨K1,t.j1.map (bF6 K1)⟩,cJ4 K1 t.j1,0)):=by
 unfold ak3
 rw[bA9]
 cases h:ad4 t
 ·rfl
 ·have hl:=bE5 h
  have hb:cD3 t 0=false:=by unfold cD3;simp only[bN3,fi4];omega
  rw[hb]
  simp only[aX3,fh8,aD6,bne_self_eq_false]
  unfold cD0
  cases decide (K1<t.T1)
  ·simp only[fh8]
   cases decide (K1>1099511627776)
   ·simp only[fh8]
    obtain⟨s,h1,h2⟩:=af9 (R:=Empty) t.j1.length (by omega) (au2 t K1) (fun i s=>s.1=bN1 K1 0 (t.j1.take i)/\s.2=(t.j1.take i).map (bF6 K1)++t.j1.drop i) ([],t.j1) ⟨by simp[bN1],by simp⟩ (fun j hj s ⟨i1,i2⟩=>by
     have htk:t.j1.take (j+1)=t.j1.take j++[t.j1[j]]:=dr6 hj
     have hdr:t.j1.drop j=t.j1[j]::t.j1.drop (j+1):=List.drop_eq_getElem_cons hj
     have hlt:(t.j1.take j).length=j:=by simp;omega
     unfold au2
     rw[C5 _ _ hj]
     simp only[aD6]
     cases hc:((!t.j1[j].D6)||(decide (t.j1[j].At>K1)))
     ·have dW4:due K1 t.j1[j]=true:=by unfold due;rw[hc];rfl
      have dO5:j<s.2.length:=by rw[i2];simp;omega
      have hlen1:s.1.length<=16:=by
       rw[i1];have:=cp8 K1 (t.j1.take j) 0;simp at this;omega
      have bM8:s.2.set j ⟨false,0,false,t.j1[j].Next⟩=(t.j1.take (j+1)).map (bF6 K1)++t.j1.drop (j+1):=by
       rw[i2,List.set_append_right _ _ (by simp;omega),hdr,htk]
       simp only[cV9,hlt,Nat.sub_self,List.set_cons_zero,eK6,cW0,ep3,dp3,List.singleton_append]
       unfold bF6;rw[dW4];rfl
      simp only[fh8]
      cases hn:(t.j1[j].Next==t.j1[j].K2)
      ·simp only[cJ0,fi0]
       rw[H5 _ _ (by simp;omega)]
       simp only[aD6,C5 _ _ dO5,T4 _ _ _ dO5]
       refine⟨_,rfl,?_,bM8⟩
       simp only
       rw[htk,bW7,<-i1,hlt,cX5]
       unfold swC;rw[dW4,hn];rfl
      ·simp only[aX3,fh8]
       simp only[aD6,C5 _ _ dO5,T4 _ _ _ dO5]
       refine⟨_,rfl,?_,bM8⟩
       simp only
       rw[htk,bW7,<-i1,hlt,cX5]
       unfold swC;rw[dW4,hn];simp
     ·have dW4:due K1 t.j1[j]=false:=by unfold due;rw[hc];rfl
      simp only[fi0]
      refine⟨_,rfl,?_,?_⟩
      ·simp only
       rw[htk,bW7,<-i1]
       unfold swC;rw[dW4];simp
      ·simp only
       rw[i2,hdr,htk]
       simp only[eK6,cW0,ep3,dp3,List.singleton_append]
       unfold bF6;rw[dW4];rfl)
    rw[h1]
    obtain⟨i1,i2⟩:=h2
    rw[ey4]at i1
    rw[ey4,List.drop_length,dh6]at i2
    simp only[aD6]
    rw[i1,i2,fa8 _ (by have:=cp8 K1 t.j1 0;omega) (ei4 (dA6 t.j1 0) (fun a b h=>by omega))]
    rfl
   ·rfl
  ·rfl
theorem dT0 (K1:Int)(l:List j5):(cJ4 K1 l).Perm (bN1 K1 0 l):=List.mergeSort_perm _ _
theorem dp4 (K1:Int)(l:List j5):(cJ4 K1 l).length<=l.length:=by
 rw[(dT0 K1 l).length_eq];exact cp8 K1 l 0
theorem ev8 {t:u0}{K1:Int}(h:ad4 t=true)(h1:¬K1<t.T1)(h2:¬K1>1099511627776):ad4 ⟨K1,t.j1.map (bF6 K1)⟩=true:=by
 have hl:=bE5 h
 unfold ad4 at h|-
 simp only[aI9,ck7,bF0]at h|-
 refine⟨du1 (by simp;omega),fun c hc=>?_⟩
 simp only[da1]at hc
 obtain⟨c0,hc0,rfl⟩:=hc
 have h3:=h.2 c0 hc0
 unfold bF6 due
 unfold chB at h3|-
 cases ha:c0.D6
 ·rw[ha]at h3;simp only[cJ0,Bool.true_or,aX3,fh8,ha]at h3|-;exact h3
 ·rw[ha]at h3
  simp only[aX3,ed0]at h3|-
  by_cases h4:c0.At>K1
  ·simp only[h4,decide_true,aX3,fh8,ha,fi0]at h3|-
   simp at h3|-;omega
  ·simp[h4]
theorem eQ3 (n:Nat)(h1:1<=n)(h2:n<=16):aU8 (n:Int)=some (⟨0,cG8 n ⟨false,0,false,false⟩⟩,0):=by
 unfold aU8
 have:((decide ((n:Int)<1))||(decide ((n:Int)>16)))=false:=by simp;omega
 rw[this,bV9 _ (by omega)]
 rfl
theorem db1 {now:Int}{c:j5}(h:chB now c=true)(ha:c.D6=true):now<c.At/\c.At<=1099511627776:=by
 unfold chB at h;rw[ha]at h
 simp at h;omega
def nxS (s:Int×Bool)(c:j5):Int×Bool:=bif c.D6&&((!s.2)||decide (c.At<s.1))then(c.At,true)else s
def nxV (l:List j5):Int×Bool:=l.foldl nxS (0,false)
theorem dZ4 (l:List j5)(h:l.length<=1000)(s:Int×Bool):ad3 l aH1 s=some (.inl (l.foldl nxS s)):=by
 rw[K4 _ (by omega)]
 refine bm7 l 0 s fun i s y _=>?_
 unfold aH1 nxS
 cases y.D6<;>cases((!s.2)||decide (y.At<s.1))<;>rfl
theorem dP7 (t:u0):aM6 t=some (bif ad4 t then nxV t.j1 else(0,false)):=by
 unfold aM6
 rw[dL1]
 cases h:ad4 t
 ·rfl
 ·have hl:=bE5 h
  simp only[aD6,aX3,fh8,fi0]
  rw[dZ4 _ (by omega)]
  rfl
theorem dm1:∀(l:List j5) (s:Int×Bool),(∀c∈l,c.D6=true->(l.foldl nxS s).2=true/\(l.foldl nxS s).1<=c.At)/\(s.2=true->(l.foldl nxS s).2=true/\(l.foldl nxS s).1<=s.1)/\
  ((l.foldl nxS s).2=true->(l.foldl nxS s)=s\/∃c∈l,c.D6=true/\c.At=(l.foldl nxS s).1)
 |[],s=>⟨fun c h=>by simp at h,fun h=>⟨h,dv9 _⟩,fun _=>.inl rfl⟩
 |x::l,s=>by
  obtain⟨h1,h2,h3⟩:=dm1 l (nxS s x)
  simp only[ex9]
  have hx:x.D6=true->(nxS s x).2=true/\(nxS s x).1<=x.At:=fun ha=>by
   unfold nxS;rw[ha]
   cases hc:(!s.2)||decide (x.At<s.1)
   ·simp only[bN3,ef3,fi4]at hc
    simp only[cM4,fh8]
    exact⟨hc.1,by omega⟩
   ·exact⟨rfl,dv9 _⟩
  have hs:s.2=true->(nxS s x).2=true/\(nxS s x).1<=s.1:=fun hb=>by
   unfold nxS
   cases hc:x.D6&&((!s.2)||decide (x.At<s.1))
   ·exact⟨hb,dv9 _⟩
   ·simp only[hb,aX3,ed0,aI9,fi3]at hc
    exact⟨rfl,by simp only[fi0];omega⟩
  refine⟨fun c hc ha=>?_,fun hb=>?_,fun hb=>?_⟩
  ·rcases cq9.1 hc with rfl|hc
   ·have:=hx ha
    have h4:=h2 this.1
    exact⟨h4.1,fe7 h4.2 this.2⟩
   ·exact h1 c hc ha
  ·have:=hs hb
   have h4:=h2 this.1
   exact⟨h4.1,fe7 h4.2 this.2⟩
  ·rcases h3 hb with h4|⟨c,h5,h6,h7⟩
   ·rw[h4]
    unfold nxS
    cases hc:x.D6&&((!s.2)||decide (x.At<s.1))
    ·exact .inl rfl
    ·simp only[aI9]at hc
     exact .inr ⟨x,bN8 ..,hc.1,rfl⟩
   ·exact .inr ⟨c,bZ9 _ h5,h6,h7⟩
theorem cw0 {l:List j5}{c:j5}(hc:c∈l)(ha:c.D6=true):(nxV l).2=true/\(nxV l).1<=c.At:=(dm1 l (0,false)).1 c hc ha
theorem cR2 {l:List j5}(h:(nxV l).2=true):∃c∈l,c.D6=true/\c.At=(nxV l).1:=by
 rcases(dm1 l (0,false)).2.2 h with h1|h1
 ·exfalso;unfold nxV at h;rw[h1]at h;cases h
 ·exact h1
theorem ep6 {l:List j5}{K1:Int}(h:∀c∈l,due K1 c=false):cJ4 K1 l=[]/\l.map (bF6 K1)=l:=by
 have h1:∀(l:List j5) (i:Nat),(∀c∈l,due K1 c=false)->bN1 K1 i l=[]:=by
  intro l
  induction l with
  |nil=>intro i _;rfl
  |cons x l ih=>
   intro i h
   have:swC K1 i x=[]:=by unfold swC;rw[h x (bN8 ..)];rfl
   simp only[bN1,this,cW3]
   exact ih (i+1) fun c hc=>h c (bZ9 _ hc)
 refine⟨by unfold cJ4;rw[h1 l 0 h];simp,?_⟩
 rw[List.map_congr_left (g:=id) (fun c hc=>by unfold bF6;rw[h c hc];rfl)]
 simp
end Tm
end Go.Pv
namespace Go.Pv.Sc
open Go Go.Pv Go.Pv.Ev
def bM4 (c:D8):Bool:=bif !c.V6 then((c.At==0)&&((c.G7==0)&&((c.E9==0)&&((c.X1==0)&&(c.am3==0)))))else
 ((((((decide (c.At>=0)&&decide (c.At<=1099511627776))&&(decide (c.G7>=0)&&decide (c.G7<46080)))&&(decide (c.E9>=1)&&decide (c.E9<=1073741824)))&&(decide (c.X1>=192)&&decide (c.X1<=1920)))&&(((c.am3==c.X1)||(c.am3==2*c.X1))||(c.am3==3*c.X1))))
theorem dF2 (c:D8):ai5 c=some (bM4 c):=by
 unfold ai5 bM4 au6
 cases hv:c.V6
 ·simp
 ·simp only[aX3,fh8,aD6]
  by_cases hs:192<=c.X1/\c.X1<=1920
  ·rw[j4 (n:=2*c.X1) (by omega) (by omega),j4 (n:=3*c.X1) (by omega) (by omega),da4,aH6,dG1]
   simp only[Bool.cond_false_left,cI5,aI9,ck7,bN3,ef3,fi3,fi4,beq_iff_eq,ge_iff_le]
   omega
  ·have e1:(((((((!(decide (c.At>=0)&&decide (c.At<=1099511627776)))||decide (c.G7<0))||decide (c.G7>=46080))||decide (c.E9<1))||decide (c.E9>1073741824))||decide (c.X1<192))||decide (c.X1>1920))=true:=by
    simp only[cI5,fi3];omega
   have e2:(decide (c.X1>=192)&&decide (c.X1<=1920))=false:=by
    simp only[fc4,fi4];omega
   rw[e1,e2];simp
structure bA6 (c:D8):Prop where
 at0:0<=c.At
 at1:c.At<=1099511627776
 an0:0<=c.G7
 an1:c.G7<46080
 p0:1<=c.E9
 p1:c.E9<=1073741824
 s0:192<=c.X1
 s1:c.X1<=1920
 ah:c.am3=c.X1\/c.am3=2*c.X1\/c.am3=3*c.X1
theorem db4 {c:D8}(h:bM4 c=true)(hv:c.V6=true):bA6 c:=by
 unfold bM4 at h
 rw[hv]at h
 simp only[aX3,fh8,aI9,cI5,fi3,beq_iff_eq]at h
 obtain⟨⟨⟨⟨⟨a,b⟩,c',d⟩,e,f⟩,g,i⟩,j⟩:=h
 exact⟨a,b,c',d,e,f,g,i,by rcases j with(j|j)|j<;>omega⟩
def cy4 (e:o4)(l:List A0)(i:Nat):Bool:=match l[i]?with|some x=>decide (be0 e x)&& !((l.take i).any fun g=>g.o9==x.o9)|none=>false
def aV5 (e:o4)(l:List A0):Bool:=(ed4 0 l.length).all (cy4 e l)
theorem dh0 (e:o4)(l:List A0)(he:aD7 e)(hl:l.length<=1000000):ab0 e l=some (aV5 e l):=by
 unfold ab0 aV5
 have k:=bv0 (f:=am1 e l) (p:=cy4 e l) (r:=false) l.length 0 (fun j _ hj=>by
  have hj':j<l.length:=by omega
  unfold am1 cy4
  rw[C5 _ _ hj',aW5 hj']
  simp only[aD6,dO0,fi1 he,cM4]
  cases hf:decide (be0 e l[j])
  ·rfl
  ·simp only[aX3,fh8,cM4]
   have hs:ax7 l 0 (j:Int)=some (l.take j):=by
    unfold ax7
    rw[if_pos ⟨by omega,by omega,by omega⟩]
    simp
   rw[hs]
   simp only[aD6]
   have hc:E7 (l.take j) (fun x0=>ae1 x0 l[j])=some ((l.take j).any fun g=>g.o9==l[j].o9):=by
    unfold E7 H2 N6
    exact ah7 (l.take j) (by rw[bw6];omega) (fun x0=>ae1 x0 l[j]) (fun g=>g.o9==l[j].o9) (fun y _=>rfl)
   rw[hc]
   simp only[aD6]
   cases(l.take j).any fun g=>g.o9==l[j].o9<;>rfl)
 rw[al2 _ (by omega)]
 rw[show((0:Nat):Int)=0 from rfl]at k
 rw[k]
 cases(ed4 0 l.length).all (cy4 e l)<;>rfl
def chn (x:B4):Int:=2*(x.o9-1)+if x.Kind=3\/x.Kind=4 then 1 else 0
def onK (k:Int):Bool:=(k==1)||(k==3)
structure aJ9 (n:Nat)(j:A4):Prop where
 cyl:1<=j.Event.o9/\j.Event.o9<=(n:Int)
 kind:1<=j.Event.Kind/\j.Event.Kind<=4
 ef6:0<=j.Event.G7/\j.Event.G7<46080
 bS6:0<=j.Event.ai4/\j.Event.ai4<=2
 left:-1048576<=j.Left/\j.Left<=1048576
 at0:j.D6=true\/j.At=0
instance (n:Nat)(j:A4):Decidable (aJ9 n j):=
 decidable_of_iff ((1<=j.Event.o9/\j.Event.o9<=(n:Int))/\(1<=j.Event.Kind/\j.Event.Kind<=4)/\(0<=j.Event.G7/\j.Event.G7<46080)/\(0<=j.Event.ai4/\j.Event.ai4<=2)/\(-1048576<=j.Left/\j.Left<=1048576)/\(j.D6=true\/j.At=0))
  ⟨fun⟨a,b,c,d,e,f⟩=>⟨a,b,c,d,e,f⟩,fun⟨a,b,c,d,e,f⟩=>⟨a,b,c,d,e,f⟩⟩
theorem dX3 {n:Nat}{j:A4}:aJ9 n j↔(1<=j.Event.o9/\j.Event.o9<=(n:Int))/\(1<=j.Event.Kind/\j.Event.Kind<=4)/\(0<=j.Event.G7/\j.Event.G7<46080)/\(0<=j.Event.ai4/\j.Event.ai4<=2)/\(-1048576<=j.Left/\j.Left<=1048576)/\(j.D6=true\/j.At=0):=
 ⟨fun⟨a,b,c,d,e,f⟩=>⟨a,b,c,d,e,f⟩,fun⟨a,b,c,d,e,f⟩=>⟨a,b,c,d,e,f⟩⟩
theorem eO8 (s:c8)(j:A4):av3 s j=some (decide (aJ9 s.u4.z8.length j)):=by
 unfold av3
 rw[da4,aD6,aH6,dG1,fi3,dX3]
 simp only[fc5,cI5,aI9,fi3,beq_iff_eq,ge_iff_le]
 cases j.D6
 ·simp only[do8,false_or];omega
 ·simp only[true_or,and_true];omega
theorem eC6 (s:c8)(hl:s.G3.length<=1000000):O6 s.G3 (fun x0=>X9 x0 s)=some (!s.G3.all fun j=>decide (aJ9 s.u4.z8.length j)):=by
 unfold O6 C0 O7
 have:=ah7 s.G3 (by omega) (fun x0=>X9 x0 s) (fun j=>!decide (aJ9 s.u4.z8.length j)) (fun y _=>by unfold X9;rw[eO8];rfl)
 rw[<-eH9 (s.G3.any _),<-ey8]at this
 simp only[eH9]at this
 exact this
theorem cH2 {n:Nat}{j:A4}(h:aJ9 n j)(hn:n<=8):G9 j.Event=some (chn j.Event)/\aF3 j.Event=some (chn j.Event):=by
 have h1:=h.cyl;have h2:=h.kind
 unfold G9 aF3 chn
 rw[j4 (n:=j.Event.o9-1) (by omega) (by omega),j4 (n:=2*(j.Event.o9-1)) (by omega) (by omega),j4 (n:=2*(j.Event.o9-1)+1) (by omega) (by omega)]
 by_cases h3:j.Event.Kind=3\/j.Event.Kind=4
 ·have e1:((j.Event.Kind==3)||(j.Event.Kind==4))=true:=by simpa using h3
  have e2:((j.Event.Kind==1)||(j.Event.Kind==2))=false:=by simp;omega
  rw[e1,e2,if_pos h3];exact⟨rfl,rfl⟩
 ·have e1:((j.Event.Kind==3)||(j.Event.Kind==4))=false:=by simpa using h3
  have e2:((j.Event.Kind==1)||(j.Event.Kind==2))=true:=by simp;omega
  rw[e1,e2,if_neg h3];exact⟨by simp,by simp⟩
theorem dU9 {n:Nat}{j:A4}(h:aJ9 n j):0<=chn j.Event/\chn j.Event<2*(n:Int):=by
 have h1:=h.cyl
 unfold chn;split<;>omega
def aq1 (l:List A4)(c:Int):List A4:=l.filter fun j=>chn j.Event==c
def alt:List A4->Bool->Bool
 |[],lv=>!lv
 |j::r,lv=>!(onK j.Event.Kind==lv)&& !j.D6&&alt r (!lv)
def aH8 (l:List A4)(x:j5):Bool:=match l with
 |[]=>!x.K2&& !x.D6
 |j::r=>!(onK j.Event.Kind==x.K2)&&(j.D6==x.D6)&&(!j.D6||((j.At==x.At)&&(x.Next== !x.K2)))&&alt r (!x.K2)
def bs7 (now:Int)(l:List A4):Bool:=match l with
 |[]=>true
 |[j]=>(j.Event.Kind==2)&&j.D6&&decide (j.At<=now+5000)
 |_=>false
def bD5 (s:c8)(c:Int)(x:j5):Bool:=aH8 (aq1 s.G3 c) x&&(!s.Cut||bs7 s.j9.T1 (aq1 s.G3 c))
def cY0 (cut:Bool)(now:Int)(x:j5):List A4->Bool->Bool->Bool
 |[],lv,fi=>!lv&& !(fi&&x.D6)
 |j::r,lv,fi=>bif onK j.Event.Kind==lv then false else
   bif (bif fi then(!(j.D6==x.D6))||(j.D6&&((j.At !=x.At)|| !(x.Next== !lv)))else(j.D6||cut))then false else
   bif cut&&(((j.Event.Kind !=2)|| !j.D6)||decide (j.At>now+5000))then false else cY0 cut now x r (!lv) false
theorem cQ1 (s:c8)(c:Int)(x:j5)(n:Nat)(hn:n<=8)(h0:0<=s.j9.T1)(h1:s.j9.T1<=1099511627776):∀(l:List A4) (i:Int) (lv fi:Bool),(∀j∈l,aJ9 n j)->
  (ai2 (L7 (Y2 s c x) l i (lv,fi)) fun(t:(Bool×Bool)⊕Bool)=>match t with| .inl s4=>(ai2 (bif (!s4.1)then(some (!(s4.2&&x.D6)))else(some false)) fun b5=>some b5)| .inr r3=>some r3)=some (cY0 s.Cut s.j9.T1 x (aq1 l c) lv fi)
 |[],i,lv,fi,_=>by
  simp only[L7,aD6,aq1,eK1,cY0]
  cases lv<;>rfl
 |j::l,i,lv,fi,h=>by
  have hj:=h j (bN8 ..)
  have ih:=fun i lv fi=>cQ1 s c x n hn h0 h1 l i lv fi (fun y hy=>h y (bZ9 _ hy))
  by_cases hc:chn j.Event=c
  ·have e1:(chn j.Event !=c)=false:=by simpa using hc
   have e2:aq1 (j::l) c=j::aq1 l c:=by unfold aq1;rw[dZ1 (by simpa using hc)]
   have hb:Y2 s c x i j (lv,fi)=some (bif onK j.Event.Kind==lv then .ret false else
     bif (bif fi then(!(j.D6==x.D6))||(j.D6&&((j.At !=x.At)|| !(x.Next== !lv)))else(j.D6||s.Cut))then .ret false else
     bif s.Cut&&(((j.Event.Kind !=2)|| !j.D6)||decide (j.At>s.j9.T1+5000))then .ret false else .next (!lv,false)):=by
    unfold Y2
    rw[(cH2 hj hn).1]
    simp only[aD6,e1,fh8,aq8]
    have e3:((j.Event.Kind==1)||(j.Event.Kind==3))=onK j.Event.Kind:=rfl
    rw[e3,j4 (n:=s.j9.T1+5000) (by omega) (by omega)]
    cases onK j.Event.Kind==lv
    ·simp only[fh8]
     have hA:(bif fi then(ai2 (bif (!(j.D6==x.D6))then(some true)else(ai2 (bif j.D6 then(some ((j.At !=x.At)||(!(x.Next==(!lv)))))else(some false)) fun b2=>some b2)) fun b3=>bif b3 then(some (Sum.inr false))else(some (Sum.inl ())))else(bif (j.D6||s.Cut)then(some (Sum.inr false))else(some (Sum.inl ()))))=
       (some (bif (bif fi then(!(j.D6==x.D6))||(j.D6&&((j.At !=x.At)|| !(x.Next== !lv)))else(j.D6||s.Cut))then Sum.inr false else Sum.inl ()):Option (Unit⊕Bool)):=by
      cases fi
      ·cases(j.D6||s.Cut)<;>rfl
      ·cases(j.D6==x.D6)<;>cases j.D6<;>simp only[aX3,cJ0,fi0,fh8,aD6,Bool.true_or,ed0,cM4,eA6,Bool.or_false]
       cases((j.At !=x.At)|| !(x.Next== !lv))<;>rfl
     rw[hA]
     cases(bif fi then(!(j.D6==x.D6))||(j.D6&&((j.At !=x.At)|| !(x.Next== !lv)))else(j.D6||s.Cut))
     ·simp only[fh8,aD6]
      have hB:(bif s.Cut then(some (((j.Event.Kind !=2)||(!j.D6))||(decide (j.At>s.j9.T1+5000))))else(some false))=some (s.Cut&&(((j.Event.Kind !=2)||(!j.D6))||(decide (j.At>s.j9.T1+5000)))):=by cases s.Cut<;>rfl
      rw[hB]
      simp only[aD6]
      cases(s.Cut&&(((j.Event.Kind !=2)||(!j.D6))||(decide (j.At>s.j9.T1+5000))))<;>rfl
     ·rfl
    ·rfl
   rw[e2]
   simp only[L7,hb,cY0,aD6]
   cases onK j.Event.Kind==lv
   ·simp only[fh8]
    cases(bif fi then(!(j.D6==x.D6))||(j.D6&&((j.At !=x.At)|| !(x.Next== !lv)))else(j.D6||s.Cut))
    ·simp only[fh8]
     cases(s.Cut&&(((j.Event.Kind !=2)||(!j.D6))||(decide (j.At>s.j9.T1+5000))))
     ·exact ih (i+1) (!lv) false
     ·rfl
    ·rfl
   ·rfl
  ·have e1:(chn j.Event !=c)=true:=by simpa using hc
   have e2:aq1 (j::l) c=aq1 l c:=by unfold aq1;rw[eY3 (by simpa using hc)]
   have hb:Y2 s c x i j (lv,fi)=some (.next (lv,fi)):=by
    unfold Y2
    rw[(cH2 hj hn).1]
    simp only[aD6,e1,fi0]
   rw[e2]
   simp only[L7,hb,aD6]
   exact ih (i+1) lv fi
theorem de2 (cut:Bool)(now:Int)(x:j5):∀(l:List A4) (lv:Bool),cY0 cut now x l lv false=(alt l lv&&(!cut||l.isEmpty))
 |[],lv=>by simp[cY0,alt]
 |j::r,lv=>by
  simp only[cY0,alt,de2 cut now x r (!lv)]
  cases onK j.Event.Kind==lv<;>cases j.D6<;>cases cut<;>simp
theorem eC9 (cut:Bool)(now:Int)(x:j5)(l:List A4):cY0 cut now x l x.K2 true=(aH8 l x&&(!cut||bs7 now l)):=by
 cases l with
 |nil=>simp[cY0,aH8,bs7]
 |cons j r=>
  simp only[cY0,aH8,de2]
  cases ho:onK j.Event.Kind==x.K2<;>cases ha:j.D6==x.D6<;>cases hj:j.D6<;>cases hn:(j.At !=x.At)<;>cases hx:(x.Next== !x.K2)<;>cases cut<;>cases r with
  |nil=>
   simp_all[bs7,alt]
   try
    cases x.K2
    ·simp
    ·rw[dG1]
     simp
  |cons k r=>simp_all[bs7]
theorem eD0 (s:c8)(c:Nat)(hc:c<s.j9.j1.length)(n:Nat)(hn:n<=8)(h0:0<=s.j9.T1)(h1:s.j9.T1<=1099511627776)(hl:s.G3.length<=1000000)(hj:∀j∈s.G3,aJ9 n j):
  aq7 s (c:Int)=some (bD5 s (c:Int) s.j9.j1[c]):=by
 unfold aq7
 rw[C5 _ _ hc]
 simp only[aD6]
 rw[K4 _ (by omega)]
 have h:=cQ1 s (c:Int) s.j9.j1[c] n hn h0 h1 s.G3 0 s.j9.j1[c].K2 true hj
 rw[eC9]at h
 exact h
def co8 (s:c8):Bool:=
 decide (aD7 s.u4)&&bM4 s.A1&&Tm.ad4 s.j9&&decide (s.j9.j1.length=2*s.u4.z8.length)&&aV5 s.u4 s.Next&&decide (s.G3.length<=200)&&(s.A1.V6||s.G3.isEmpty)&&(s.G3.all fun j=>decide (aJ9 s.u4.z8.length j))&&
  (ed4 0 s.j9.j1.length).all fun c=>match s.j9.j1[c]?with|some x=>bD5 s (c:Int) x|none=>false
structure aM9 (s:c8):Prop where
 eng:aD7 s.u4
 clk:bM4 s.A1=true
 tim:Tm.ad4 s.j9=true
 chs:s.j9.j1.length=2*s.u4.z8.length
 cG7:aV5 s.u4 s.Next=true
 most:s.G3.length<=200
 none:s.A1.V6=false->s.G3=[]
 job:∀j∈s.G3,aJ9 s.u4.z8.length j
 line:∀c (h:c<s.j9.j1.length),bD5 s (c:Int) s.j9.j1[c]=true
theorem aY1 {s:c8}:co8 s=true↔aM9 s:=by
 unfold co8
 simp only[aI9,fi3,bF0,cI5]
 constructor
 ·rintro⟨⟨⟨⟨⟨⟨⟨⟨h1,h2⟩,h3⟩,h4⟩,h5⟩,h6⟩,h7⟩,h8⟩,h9⟩
  refine⟨h1,h2,h3,h4,h5,h6,fun hv=>?_,h8,fun c hc=>?_⟩
  ·rcases h7 with h|h
   ·rw[hv]at h;cases h
   ·simpa using h
  ·have:=h9 c (by rw[eO7];exact⟨c,hc,by omega⟩)
   rw[aW5 hc]at this
   exact this
 ·intro h
  refine⟨⟨⟨⟨⟨⟨⟨⟨h.eng,h.clk⟩,h.tim⟩,h.chs⟩,h.cG7⟩,h.most⟩,?_⟩,h.job⟩,fun c hc=>?_⟩
  ·cases hv:s.A1.V6
   ·right;rw[h.none hv];rfl
   ·left;rfl
  ·rw[eO7]at hc
   obtain⟨i,hi,rfl⟩:=hc
   have e:0+1*i=i:=by omega
   rw[e,aW5 hi]
   exact h.line i hi
theorem dp8 (l:List A4):decide ((l.length:Int)>0)= !l.isEmpty:=by cases l<;>simp
theorem bb8 (s:c8)(hn:s.Next.length<=1000000)(hl:s.G3.length<=1000000):J4 s=some (co8 s):=by
 unfold J4
 rw[Ev.an8,dF2,Tm.dL1]
 unfold co8
 cases he:decide (aD7 s.u4)
 ·simp
 ·have he':=of_decide_eq_true he
  have hE:=he'.2.1
  cases hc:bM4 s.A1
  ·simp
  ·cases ht:Tm.ad4 s.j9
   ·simp
   ·have htl:=Tm.bE5 ht
    have e1:((s.j9.j1.length:Int) !=j7 (2*(s.u4.z8.length:Int)))= !decide (s.j9.j1.length=2*s.u4.z8.length):=by
     rw[j4 (by omega) (by omega),dG1];simp;omega
    simp only[aD6,aX3,fh8,ed0,e1,cM4]
    cases h2:decide (s.j9.j1.length=2*s.u4.z8.length)
    ·simp
    ·simp only[aX3,fh8,dh0 _ _ he' hn,aD6,cM4]
     cases hw:aV5 s.u4 s.Next
     ·simp
     ·simp only[aX3,fh8,cM4]
      have e2:decide ((s.G3.length:Int)>200)= !decide (s.G3.length<=200):=by rw[dG1];simp;omega
      rw[e2,dp8]
      cases h3:decide (s.G3.length<=200)
      ·simp
      ·simp only[aX3,fh8,aD6,cM4]
       cases h4:(s.A1.V6||s.G3.isEmpty)
       ·have:(!s.A1.V6&& !s.G3.isEmpty)=true:=by simp only[bN3]at h4;simp[h4.1,h4.2]
        rw[this];simp
       ·have:(!s.A1.V6&& !s.G3.isEmpty)=false:=by rcases Bool.or_eq_true_iff.1 h4 with h|h<;>simp[h]
        rw[this,eC6 s hl]
        simp only[fh8,aD6,cM4]
        cases h5:s.G3.all fun j=>decide (aJ9 s.u4.z8.length j)
        ·simp
        ·simp only[aX3,fh8,cM4]
         have hj:∀j∈s.G3,aJ9 s.u4.z8.length j:=by simpa using h5
         have k:=bv0 (f:=am0 s) (p:=fun c=>match s.j9.j1[c]?with|some x=>bD5 s (c:Int) x|none=>false) (r:=false) s.j9.j1.length 0 (fun c _ hc=>by
          have hc':c<s.j9.j1.length:=by omega
          unfold am0
          rw[eD0 s c hc' _ hE (by omega) (by omega) hl hj,aW5 hc']
          simp only[aD6]
          cases bD5 s (c:Int) s.j9.j1[c]<;>rfl)
         rw[al2 _ (by omega)]
         rw[show((0:Nat):Int)=0 from rfl]at k
         rw[k]
         cases(ed4 0 s.j9.j1.length).all fun c=>match s.j9.j1[c]?with|some x=>bD5 s (c:Int) x|none=>false<;>rfl
theorem dY5 {n:Nat}{l:List A4}{c:Int}{j:A4}(hj:∀j∈l,aJ9 n j)(hm:j∈aq1 l c):aJ9 n j/\chn j.Event=c:=by
 unfold aq1 at hm
 rw[dM7]at hm
 exact⟨hj j hm.1,by simpa using hm.2⟩
theorem dr7 {n:Nat}{j:A4}(h:aJ9 n j):(chn j.Event).tmod 2=if j.Event.Kind=3\/j.Event.Kind=4 then 1 else 0:=by
 have h1:=h.cyl
 have h0:=(dU9 h).1
 rw[do7 h0]
 unfold chn;split<;>omega
end Go.Pv.Sc
namespace Go.Pv.R1
open Go Go.Pv
end Go.Pv.R1
namespace Go.Pv.Sc
open Go Go.Pv Go.Pv.Ev
def upV (a b:Int):Int:=-((-a)/b)
theorem fc6 (a b : Int) (h0 : -4611686018427387904 <= a) (h1 : a <= 4611686018427387904) (hb : 0 < b) (hb1 : b <= 4611686018427387904) : ay7 a b = some (upV a b) := by
  unfold ay7 bm5 cf7 upV
  rw [if_neg (by omega), if_neg (by omega)]
  simp only [aD6]
  obtain ⟨k, rfl⟩ : ∃ k : Nat, b = k := ⟨b.toNat, by omega⟩
  have hk : k > 0 := by omega
  by_cases ha : 0 <= a
  · obtain ⟨m, rfl⟩ : ∃ m : Nat, a = m := ⟨a.toNat, by omega⟩
    have e1 : db0 (m : Int) (k : Int) = ((m / k : Nat) : Int) := rfl
    have e2 : ew5 (m : Int) (k : Int) = ((m % k : Nat) : Int) := rfl
    rw [e1, e2]
    have hq : m / k <= m := Nat.div_le_self _ _
    have hr := Nat.mod_lt m hk
    have hd := Nat.div_add_mod m k
    generalize m / k = q at hq hd
    generalize m % k = r at hr hd
    have ew : eX5.wrap (q : Int) = (q : Int) := j4 (by omega) (by omega)
    rw [ew]
    by_cases hr0 : r = 0
    · subst hr0
      have : -(m : Int) = (k : Int) * (-(q : Int)) := by rw [Int.mul_neg]; have : (m : Int) = ((k * q : Nat) : Int) := by omega
                                                         rw [this]; push_cast; rfl
      rw [this, Int.mul_ediv_cancel_left _ (by omega)]
      simp
    · have e3 : decide ((r : Int) > 0) = true := by simp; omega
      rw [e3, j4 (by omega) (by omega)]
      simp only [fi0, aH6]
      have : -(m : Int) = ((k - r : Nat) : Int) + (k : Int) * (-(q : Int) - 1) := by
        have h5 : (k : Int) * (-(q : Int) - 1) = -((k * q : Nat) : Int) - (k : Int) := by rw [Int.mul_sub, Int.mul_neg, Int.mul_one]; push_cast; rfl
        rw [h5]; omega
      rw [this, Int.add_mul_ediv_left _ _ (by omega), Int.ediv_eq_zero_of_lt (by omega) (by omega)]
      omega
  · obtain ⟨m, rfl⟩ : ∃ m : Nat, a = -(m : Int) := ⟨a.natAbs, by omega⟩
    have e1 : db0 (-(m : Int)) (k : Int) = -((m / k : Nat) : Int) := by rw [Int.neg_tdiv]; rfl
    have e2 : ew5 (-(m : Int)) (k : Int) = -((m % k : Nat) : Int) := by rw [Int.neg_tmod]; rfl
    rw [e1, e2, Int.neg_neg]
    have e4 : (m : Int) / (k : Int) = ((m / k : Nat) : Int) := rfl
    rw [e4]
    have hq : m / k <= m := Nat.div_le_self _ _
    generalize m / k = q at hq
    generalize m % k = r
    have e3 : decide (-(r : Int) > 0) = false := fi2 (by omega)
    have ew : eX5.wrap (-(q : Int)) = -(q : Int) := j4 (by omega) (by omega)
    rw [e3, ew]
    rfl
theorem ed1 {a b:Int}(hb:0<b)(h0:-1125899906842624<=a)(h1:a<=1125899906842624):-1125899906842624<=upV a b/\upV a b<=1125899906842624:=by
 unfold upV
 have h2:-1125899906842624<=(-a)/b:=by
  rw[Int.le_ediv_iff_mul_le hb]
  have:-1125899906842624*b<= -1125899906842624*1:=Int.mul_le_mul_of_nonpos_left (by omega) (by omega)
  omega
 have h3:(-a)/b<=1125899906842624:=by
  apply Int.le_of_lt_add_one
  rw[Int.ediv_lt_iff_lt_mul hb]
  have:(1125899906842624+1)*1<=(1125899906842624+1)*b:=ed7 (by omega) (by omega)
  omega
 omega
def split (c:Int):List A4->Option (List A4×A4×List A4)
 |[]=>none
 |j::r=>if chn j.Event=c then some ([],j,r)else(split c r).map fun t=>(j::t.1,t.2.1,t.2.2)
theorem bj0 {c:Int}:∀{l:List A4}{a:List A4}{j:A4}{b:List A4},split c l=some (a,j,b)->l=a++j::b/\chn j.Event=c/\∀y∈a,chn y.Event≠c
 |[],a,j,b,h=>by simp[split]at h
 |x::r,a,j,b,h=>by
  simp only[split]at h
  by_cases hc:chn x.Event=c
  ·rw[if_pos hc]at h
   cases h
   exact⟨rfl,hc,fun y hy=>by simp at hy⟩
  ·rw[if_neg hc]at h
   cases hs:split c r with
   |none=>rw[hs]at h;simp at h
   |some t=>
    obtain⟨a',j',b'⟩:=t
    rw[hs]at h
    simp only[cq8,aH6,Prod.mk.injEq]at h
    obtain⟨rfl,rfl,rfl⟩:=h
    obtain⟨h1,h2,h3⟩:=bj0 hs
    exact⟨by rw[h1];rfl,h2,fun y hy=>by
     rcases cq9.1 hy with rfl|hy
     ·exact hc
     ·exact h3 y hy⟩
theorem cU3 {c:Int}:∀{l:List A4},split c l=none->∀y∈l,chn y.Event≠c
 |[],_,y,hy=>by simp at hy
 |x::r,h,y,hy=>by
  simp only[split]at h
  by_cases hc:chn x.Event=c
  ·rw[if_pos hc]at h;cases h
  ·rw[if_neg hc]at h
   cases hs:split c r with
   |none=>
    rcases cq9.1 hy with rfl|hy
    ·exact hc
    ·exact cU3 hs y hy
   |some t=>rw[hs]at h;simp at h
theorem aR4 (a b:List A4)(c:Int):aq1 (a++b) c=aq1 a c++aq1 b c:=by unfold aq1;rw[dJ7]
theorem bu0 {l:List A4}{c:Int}(h:∀y∈l,chn y.Event≠c):aq1 l c=[]:=by
 unfold aq1
 rw[eA8]
 intro y hy
 simpa using h y hy
theorem bZ7 {j:A4}{l:List A4}{c:Int}(h:chn j.Event=c):aq1 (j::l) c=j::aq1 l c:=by unfold aq1;rw[dZ1 (by simpa using h)]
theorem bZ6 {j:A4}{l:List A4}{c:Int}(h:chn j.Event≠c):aq1 (j::l) c=aq1 l c:=by unfold aq1;rw[eY3 (by simpa using h)]
theorem cQ8 {c:Int}{l a b:List A4}{j:A4}(h:split c l=some (a,j,b)):aq1 l c=j::aq1 b c:=by
 obtain⟨rfl,h2,h3⟩:=bj0 h
 rw[aR4,bu0 h3,cW3,bZ7 h2]
theorem dY6 {c:Int}{l:List A4}(h:split c l=none):aq1 l c=[]:=bu0 (cU3 h)
def cu8 (c:Int)(l:List A4):Int:=match split c l with|some t=>(t.1.length:Int)|none=>-1
theorem cA8 (c:Int)(n:Nat)(hn:n<=8):∀(l:List A4) (i:Nat),(∀j∈l,aJ9 n j)->L7 (fun(i:Int) x (_:Unit)=>ai2 (U8 x c) fun v=>bif v then(some (Fl.ret i))else(some (Fl.next ()))) l (i:Int) ()=
  some (match split c l with|some t=>.inr ((i+t.1.length:Nat):Int)|none=>.inl ())
 |[],i,_=>rfl
 |j::l,i,h=>by
  have hj:=h j (bN8 ..)
  simp only[L7,U8,(cH2 hj hn).1,aD6,split]
  by_cases hc:chn j.Event=c
  ·have e:(chn j.Event==c)=true:=by simpa using hc
   rw[e,if_pos hc];rfl
  ·have e:(chn j.Event==c)=false:=by simpa using hc
   rw[e,if_neg hc]
   simp only[fh8,aD6]
   have:=cA8 c n hn l (i+1) (fun y hy=>h y (bZ9 _ hy))
   rw[show((i:Int)+1)=((i+1:Nat):Int) by omega]
   unfold U8 at this
   rw[this]
   cases split c l with
   |none=>rfl
   |some t=>simp;omega
theorem bR7 (c:Int)(n:Nat)(hn:n<=8)(l:List A4)(hl:l.length<=1000000)(h:∀j∈l,aJ9 n j):C0 l (fun x0=>U8 x0 c)=some (cu8 c l):=by
 unfold C0 O7
 rw[bb6 l (by omega) (fun(i:Int) x (_:Unit)=>ai2 (U8 x c) fun v=>bif v then(some (Fl.ret i))else(some (Fl.next ())))]
 have:=cA8 c n hn l 0 h
 rw[show((0:Nat):Int)=0 from rfl]at this
 rw[this]
 unfold cu8
 cases split c l with
 |none=>rfl
 |some t=>simp
def bO1 (now:Int)(k:D8)(j:A4):Int:=G4 (k.At+upV (j.Left*k.E9) k.X1) (now+1)
def dq1 (now:Int)(k:D8)(c:Nat)(u:List j5×List A4):List j5×List A4:=
 match split (c:Int) u.2 with
 |none=>u
 |some (a,j,b)=>if j.Left>k.am3\/bO1 now k j>1099511627776 then u else
   match u.1[c]?with
   |none=>u
   |some x=>(u.1.set c ⟨true,bO1 now k j,onK j.Event.Kind,x.K2⟩,a++⟨j.Event,j.Left,true,bO1 now k j⟩::b)
def cb1 (now:Int)(k:D8):Nat->List j5×List A4->List j5×List A4
 |0,u=>u
 |c+1,u=>dq1 now k c (cb1 now k c u)
structure Rows (n:Nat)(now:Int)(u:List j5×List A4):Prop where
 len:u.1.length=2*n
 ch:∀x∈u.1,Tm.chB now x=true
 job:∀j∈u.2,aJ9 n j
 row:∀c (h:c<u.1.length),aH8 (aq1 u.2 (c:Int)) u.1[c]=true
theorem dM6 {now at_:Int}{b l:Bool}(h0:now<at_)(h1:at_<=1099511627776):Tm.chB now ⟨true,at_,b,l⟩=true:=by
 unfold Tm.chB
 simp only[fi0,ck7,bN3,fi4]
 omega
theorem dq0 (now:Int)(k:D8)(j:A4):now<bO1 now k j:=by unfold bO1 G4;split<;>omega
theorem eF3 {j:A4}{r:List A4}{x:j5}(at_:Int)(h:aH8 (j::r) x=true):aH8 (⟨j.Event,j.Left,true,at_⟩::r) ⟨true,at_,onK j.Event.Kind,x.K2⟩=true:=by
 unfold aH8 at h|-
 simp only[aI9,ck7]at h
 obtain⟨⟨⟨h1,_⟩,_⟩,h4⟩:=h
 have hk:onK j.Event.Kind= !x.K2:=by cases hk:onK j.Event.Kind<;>cases hx:x.K2<;>simp_all
 simp[h4,hk]
theorem eg4 {n:Nat}{now:Int}{k:D8}{c:Nat}{u:List j5×List A4}(h:Rows n now u):Rows n now (dq1 now k c u):=by
 unfold dq1
 cases hs:split (c:Int) u.2 with
 |none=>exact h
 |some t=>
  obtain⟨a,j,b⟩:=t
  simp only
  split
  ·exact h
  ·rename_i hq
   have hq1:bO1 now k j<=1099511627776:=by
    by_cases h5:bO1 now k j>1099511627776
    ·exact absurd (.inr h5) hq
    ·omega
   cases hx:u.1[c]?with
   |none=>exact h
   |some x=>
    obtain⟨hc,rfl⟩:=bH2.1 hx
    obtain⟨hl,hj,ha⟩:=bj0 hs
    have hjm:j∈u.2:=by rw[hl];simp
    have hjk:=h.job j hjm
    refine⟨by simp[h.len],fun y hy=>?_,fun y hy=>?_,fun d hd=>?_⟩
    ·rcases fe3 hy with hy|rfl
     ·exact h.ch y hy
     ·exact dM6 (dq0 now k j) hq1
    ·simp only[do5,cq9]at hy
     rcases hy with hy|rfl|hy
     ·exact h.job y (by rw[hl];simp[hy])
     ·exact⟨hjk.cyl,hjk.kind,hjk.ef6,hjk.bS6,hjk.left,.inl rfl⟩
     ·exact h.job y (by rw[hl];simp[hy])
    ·simp only[eb5]at hd
     have aP9:=h.row d hd
     simp only[eX9]
     by_cases hdc:c=d
     ·subst hdc
      rw[if_pos rfl,aR4,bu0 ha,cW3,bZ7 (by exact hj)]
      rw[cQ8 hs]at aP9
      exact eF3 _ aP9
     ·rw[if_neg hdc,aR4,bZ6 (by show chn j.Event≠(d:Int);rw[hj];omega)]
      rw[hl,aR4,bZ6 (by rw[hj];omega)]at aP9
      exact aP9
theorem cr7 {n:Nat}{now:Int}{k:D8}{u:List j5×List A4}(h:Rows n now u):∀m,Rows n now (cb1 now k m u)
 |0=>h
 |m+1=>eg4 (cr7 h m)
theorem dT9 (now:Int)(k:D8)(c:Nat)(u:List j5×List A4):(dq1 now k c u).2.length=u.2.length:=by
 unfold dq1
 cases hs:split (c:Int) u.2 with
 |none=>rfl
 |some t=>
  obtain⟨a,j,b⟩:=t
  simp only
  split
  ·rfl
  ·cases u.1[c]?with
   |none=>rfl
   |some x=>
    have:=(bj0 hs).1
    simp[this]
theorem bA8 (now:Int)(k:D8)(u:List j5×List A4):∀m,(cb1 now k m u).2.length=u.2.length
 |0=>rfl
 |m+1=>by rw[cb1,dT9,bA8 now k u m]
theorem cJ8 (now:Int)(k:D8)(ch:List j5):∀m,cb1 now k m (ch,[])=(ch,[])
 |0=>rfl
 |m+1=>by rw[cb1,cJ8 now k ch m];rfl
theorem dU0 {n:Nat}{k:D8}{j:A4}(hk:bA6 k)(hj:aJ9 n j):(-1125899906842624<=j.Left*k.E9/\j.Left*k.E9<=1125899906842624)/\(-1125899906842624<=upV (j.Left*k.E9) k.X1/\upV (j.Left*k.E9) k.X1<=1125899906842624):=by
 have h1:=hj.left;have h2:=hk.p0;have h3:=hk.p1;have h4:=hk.s0
 have a:j.Left*k.E9<=1048576*1073741824:=by
  by_cases h0:0<=j.Left
  ·exact eR2 h1.2 h3 (by omega) (by omega)
  ·have:j.Left*k.E9<=0:=Int.mul_nonpos_of_nonpos_of_nonneg (by omega) (by omega)
   omega
 have b:-(1048576*1073741824)<=j.Left*k.E9:=by
  by_cases h0:0<=j.Left
  ·have:0<=j.Left*k.E9:=eT0 h0 (by omega)
   omega
  ·have:(-j.Left)*k.E9<=1048576*1073741824:=eR2 (by omega) h3 (by omega) (by omega)
   rw[Int.neg_mul]at this
   omega
 exact⟨⟨by omega,by omega⟩,ed1 (by omega) (by omega) (by omega)⟩
theorem cI6 {n:Nat}{now:Int}{u:List j5×List A4}(h:Rows n now u)(h0:0<=now)(h1:now<=1099511627776)(hn:1<=n)(hn8:n<=8):Tm.ad4 ⟨now,u.1⟩=true:=by
 unfold Tm.ad4
 have hl:=h.len
 rw[Tm.du1 (by simp only;omega)]
 simp only[cJ0,cM4,bF0]
 exact h.ch
theorem dR1 (a b:List A4)(j j':A4):aj2 (a++j::b) (a.length:Int) j'=some (a++j'::b):=by
 rw[T4 _ _ _ (by simp)]
 simp
theorem dO3 (a b:List A4)(j:A4):C9 (a++j::b) (a.length:Int)=some j:=by
 rw[T3];simp
theorem eg5 {n:Nat}{s:c8}{now:Int}{u:List j5×List A4}(hu:Rows n now u)(hk:bA6 s.A1)(h0:0<=now)(h1:now<=1099511627776)(hn:1<=n)(hn8:n<=8)(hl:u.2.length<=1000000)(c:Nat)(hc:c<2*n):
  U9 s (c:Int) (⟨now,u.1⟩,u.2)=some (.next (⟨now,(dq1 now s.A1 c u).1⟩,(dq1 now s.A1 c u).2)):=by
 unfold U9
 simp only
 rw[bR7 (c:Int) n hn8 u.2 hl hu.job]
 have hcl:c<u.1.length:=by rw[hu.len];exact hc
 unfold cu8 dq1
 cases hs:split (c:Int) u.2 with
 |none=>rfl
 |some t=>
  obtain⟨a,j,b⟩:=t
  obtain⟨hl2,hj,ha⟩:=bj0 hs
  have hjm:j∈u.2:=by rw[hl2];simp
  have hjk:=hu.job j hjm
  obtain⟨r1,r2⟩:=dU0 hk hjk
  have hka:=hk.at0;have hka1:=hk.at1
  simp only[aD6]
  have e1:decide ((a.length:Int)<0)=false:=by simp
  have eg:C9 u.2 (a.length:Int)=some j:=by rw[hl2];exact dO3 a b j
  rw[e1,eg]
  simp only[fh8,aD6]
  by_cases hla:j.Left>s.A1.am3
  ·rw[fi1 hla,if_pos (.inl hla)]
   rfl
  ·rw[fi2 hla]
   simp only[fh8]
   rw[j4 (n:=j.Left*s.A1.E9) (by omega) (by omega),fc6 _ _ (by omega) (by omega) (by have:=hk.s0;omega) (by have:=hk.s1;omega)]
   simp only[aD6]
   rw[j4 (n:=s.A1.At+upV (j.Left*s.A1.E9) s.A1.X1) (by omega) (by omega),j4 (n:=now+1) (by omega) (by omega)]
   have hat:G4 (s.A1.At+upV (j.Left*s.A1.E9) s.A1.X1) (now+1)=bO1 now s.A1 j:=rfl
   rw[hat]
   by_cases hmx:bO1 now s.A1 j>1099511627776
   ·rw[fi1 hmx,if_pos (.inr hmx)];rfl
   ·rw[fi2 hmx,if_neg (by omega)]
    simp only[fh8]
    have eo:aq8 j.Event.Kind=some (onK j.Event.Kind):=rfl
    rw[eo]
    simp only[aD6]
    have hgt:=dq0 now s.A1 j
    have e2:decide (bO1 now s.A1 j<=now)=false:=by simp;omega
    have e3:decide (bO1 now s.A1 j>Tm.cD0)=false:=by unfold Tm.cD0;simp;omega
    rw[Tm.eg3 ⟨now,u.1⟩ _ _ _ c rfl hcl (cI6 hu h0 h1 hn hn8)]
    simp only
    rw[e2,e3]
    simp only[fh8,aD6,beq_self_eq_true,fi0]
    rw[hl2,dR1]
    simp only[aD6]
    rw[dR1,aW5 hcl]
    rfl
theorem ez1 {n:Nat}{s:c8}{now:Int}{u:List j5×List A4}(hu:Rows n now u)(hk:bA6 s.A1)(h0:0<=now)(h1:now<=1099511627776)(hn:1<=n)(hn8:n<=8)(hl:u.2.length<=1000000):
  K5 ((2*n:Nat):Int) (U9 s) (⟨now,u.1⟩,u.2)=some (.inl (⟨now,(cb1 now s.A1 (2*n) u).1⟩,(cb1 now s.A1 (2*n) u).2)):=by
 obtain⟨t,k1,k2⟩:=af9 (R:=Empty) (2*n) (by omega) (U9 s) (fun c t=>t=(⟨now,(cb1 now s.A1 c u).1⟩,(cb1 now s.A1 c u).2)) (⟨now,u.1⟩,u.2) rfl (fun c hc t ht=>by
  subst ht
  refine⟨_,eg5 (cr7 hu c) hk h0 h1 hn hn8 (by rw[bA8];exact hl) c hc,rfl⟩)
 rw[k1,k2]
def put (s:c8)(now:Int)(u:List j5×List A4):c8:=⟨s.u4,s.A1,⟨now,u.1⟩,s.Next,u.2,s.Cut⟩
def bL9 (s:c8):c8:=if s.Cut then s else put s s.j9.T1 (cb1 s.j9.T1 s.A1 s.j9.j1.length (s.j9.j1,s.G3))
theorem bY8 (s:c8)(t:u0):∀(k i:Nat),aW3 (U9 s) k (i:Int) (t,[])=some (.inl (t,[]))
 |0,_=>rfl
 |k+1,i=>by
  have:U9 s (i:Int) (t,[])=some (.next (t,[])):=by
   unfold U9
   have hi:C0 [] (fun x0=>U8 x0 (i:Int))=some (-1):=by
    unfold C0
    rw[show((([]:List A4).length:Nat):Int)=((0:Nat):Int)from rfl,al2 0 (by decide)]
    rfl
   simp only[hi]
   rfl
  simp only[aW3,this,aD6]
  exact bY8 s t k (i+1)
theorem dR0 {n:Nat}{s:c8}(hu:Rows n s.j9.T1 (s.j9.j1,s.G3))(hk:s.G3=[]\/bA6 s.A1)(h0:0<=s.j9.T1)(h1:s.j9.T1<=1099511627776)(hn:1<=n)(hn8:n<=8)(hl:s.G3.length<=1000000):
  ak2 s=some (bL9 s):=by
 unfold ak2 bL9
 have hlen:=hu.len
 simp only at hlen
 cases aH7:s.Cut
 ·simp only[fh8,do8,if_false]
  rcases hk with hk|hk
  ·rw[hk,cJ8,al2 _ (by omega)]
   have:=bY8 s s.j9 s.j9.j1.length 0
   rw[show((0:Nat):Int)=0 from rfl]at this
   rw[this]
   unfold put
   simp only[aD6,aH7]
  ·have:=ez1 (s:=s) hu hk h0 h1 hn hn8 hl
   simp only at this
   have e:(⟨s.j9.T1,s.j9.j1⟩:u0)=s.j9:=rfl
   rw[e]at this
   rw[hlen,this]
   unfold put
   simp only[aD6,aH7]
 ·rfl
theorem bI1 {α:Type}(f:α->Option Bool)(p:α->Bool):∀(l:List α) (i:Nat),(∀y∈l,f y=some (p y))->L7 (fun(i:Int) x (_:Unit)=>ai2 (f x) fun v=>bif v then(some (Fl.ret i))else(some (Fl.next ()))) l (i:Int) ()=
  some (match l.findIdx? p with|some k=>.inr ((i+k:Nat):Int)|none=>.inl ())
 |[],i,_=>rfl
 |y::l,i,h=>by
  simp only[L7,h y (bN8 ..),aD6,fg6]
  cases p y
  ·have:=bI1 f p l (i+1) (fun y hy=>h y (bZ9 _ hy))
   rw[show((i:Int)+1)=((i+1:Nat):Int) by omega]
   simp only[fh8,aD6,do8,if_false]
   rw[this]
   cases l.findIdx? p with
   |none=>rfl
   |some k=>simp;omega
  ·simp
theorem find_eq (l:List A4)(hl:l.length<=1000000)(f:A4->Option Bool)(p:A4->Bool)(h:∀y∈l,f y=some (p y)):C0 l f=some (match l.findIdx? p with|some k=>(k:Int)|none=>-1):=by
 unfold C0 O7
 rw[bb6 l (by omega) (fun(i:Int) x (_:Unit)=>ai2 (f x) fun v=>bif v then(some (Fl.ret i))else(some (Fl.next ())))]
 have:=bI1 f p l 0 h
 rw[show((0:Nat):Int)=0 from rfl]at this
 rw[this]
 cases l.findIdx? p with
 |none=>rfl
 |some k=>simp
theorem cu7 {α:Type}{p:α->Bool}:∀{l:List α}{k:Nat},l.findIdx? p=some k->k<l.length/\(l.take (k+1)).filter (fun y=>!p y)=l.take k
 |[],k,h=>by simp at h
 |y::l,k,h=>by
  rw[fg6]at h
  cases hp:p y
  ·rw[hp]at h
   simp only[do8,if_false]at h
   cases hf:l.findIdx? p with
   |none=>rw[hf]at h;simp at h
   |some m=>
    rw[hf]at h
    simp only[cq8,aH6]at h
    subst h
    obtain⟨h1,h2⟩:=cu7 hf
    exact⟨by simpa using h1,by simp only[List.take_succ_cons,ex5,hp,cJ0,if_true];rw[h2]⟩
  ·rw[hp]at h
   simp only[if_true,aH6]at h
   subst h
   exact⟨by simp,by simp[hp]⟩
theorem dc5 {α:Type}{p:α->Bool}{l:List α}(h:l.findIdx? p=none):l.filter (fun y=>!p y)=l:=by
 rw[List.findIdx?_eq_none_iff]at h
 rw[fd6]
 intro y hy
 simp[h y hy]
theorem cM8 {α:Type}(s:List α)(i:Nat)(z:α)(hi:i<=s.length):ax7 (bH1 s (i:Int) (s.length:Int) z) 0 (i:Int)=some (s.take i):=by
 have e:bH1 s (i:Int) (s.length:Int) z=s.take i++cG8 (s.length-i) z:=by
  unfold bH1 at8
  simp only[eJ1,eH4]
  rw[List.drop_eq_nil_of_le (by omega),dh6]
 have hl:(s.take i++cG8 (s.length-i) z).length=s.length:=by
  rw[aZ7,bw6,eH4];omega
 rw[e]
 unfold ax7
 rw[if_pos ⟨by omega,by omega,by rw[hl];omega⟩]
 simp only[eJ1,Int.toNat_zero,List.drop_zero,Nat.sub_zero]
 rw[List.take_append_of_le_length (by rw[bw6];omega),List.take_take,Nat.min_self]
theorem del_eq (l:List A4)(hl:l.length<=1000000)(f:A4->Option Bool)(p:A4->Bool)(h:∀y∈l,f y=some (p y)):K6 l f=some (l.filter fun y=>!p y):=by
 unfold K6
 rw[find_eq l hl f p h]
 cases hf:l.findIdx? p with
 |none=>simp only[aD6];rw[dc5 hf];rfl
 |some v=>
  obtain⟨hv,htk⟩:=cu7 hf
  simp only[aD6]
  have e0:((v:Int)== -1)=false:=beq_eq_false_iff_ne.2 (by omega)
  rw[e0,j4 (n:=(v:Int)+1) (by omega) (by omega)]
  simp only[fh8]
  obtain⟨t,k1,k2⟩:=cv6 (mb:=as6 f)
   (fun j st=>∃i:Nat,st.1=(i:Int)/\st.2.1=((v+1+j:Nat):Int)/\i<v+1+j/\i=((l.take (v+1+j)).filter fun y=>!p y).length/\st.2.2.length=l.length/\st.2.2.take i=((l.take (v+1+j)).filter fun y=>!p y)/\st.2.2.drop (v+1+j)=l.drop (v+1+j))
   (fun t=>∃(s:List A4) (i:Nat),t= .inl ((i:Int),(l.length:Int),s)/\s.length=l.length/\i<=l.length/\s.take i=l.filter fun y=>!p y) (l.length-(v+1)) 0 ((v:Int),(v:Int)+1,l)
   ⟨v,rfl,by push_cast;omega,by omega,by rw[eb4,htk,bw6];omega,rfl,by rw[eb4,htk],rfl⟩
   (fun j _ hj st ⟨i,h1,h2,h3,h4,h5,h6,h7⟩=>by
    have hjl:v+1+j<l.length:=by omega
    have cX7:C9 st.2.2 st.2.1=some l[v+1+j]:=by
     rw[h2,T3,<-eG8,h7,eG8,aW5 hjl]
    have hlt:decide (st.2.1<(st.2.2.length:Int))=true:=by rw[h2,h5];simp;omega
    have htk2:l.take (v+1+(j+1))=l.take (v+1+j)++[l[v+1+j]]:=by rw[<-dK7];exact dr6 hjl
    have hdr:∀s:List A4,s.drop (v+1+j)=l.drop (v+1+j)->s.drop (v+1+(j+1))=l.drop (v+1+(j+1)):=fun s hs=>by
     rw[<-dK7,<-ex8,hs,ex8]
    unfold as6
    rw[hlt,cX7]
    simp only[fi0,aD6,h _ (bd9 hjl)]
    rw[h2,j4 (n:=((v+1+j:Nat):Int)+1) (by omega) (by omega)]
    cases hp:p l[v+1+j]
    ·have hi:i<st.2.2.length:=by omega
     simp only[cJ0,fi0]
     rw[h1,C5 _ _ hi]
     simp only[aD6]
     rw[T4 _ _ _ hi,j4 (n:=(i:Int)+1) (by omega) (by omega)]
     have hfl:((l.take (v+1+(j+1))).filter fun y=>!p y)=((l.take (v+1+j)).filter fun y=>!p y)++[l[v+1+j]]:=by
      rw[htk2,dJ7];simp[hp]
     refine⟨_,rfl,i+1,by push_cast;rfl,by push_cast;omega,by omega,?_,by simp[h5],?_,?_⟩
     ·rw[hfl,aZ7,<-h4];rfl
     ·rw[hfl,<-h6]
      rw[dr6 (by simpa using hi),List.take_set_of_le (cw4 _),dN2]
     ·refine hdr _ ?_
      rw[List.drop_set_of_lt (by omega)];exact h7
    ·simp only[aX3,fh8]
     have hfl:((l.take (v+1+(j+1))).filter fun y=>!p y)=((l.take (v+1+j)).filter fun y=>!p y):=by
      rw[htk2,dJ7];simp[hp]
     exact⟨_,rfl,i,h1,by push_cast;omega,by omega,by rw[hfl];exact h4,h5,by rw[hfl];exact h6,hdr _ h7⟩)
   (fun st ⟨i,h1,h2,h3,h4,h5,h6,h7⟩=>by
    have hn:v+1+(0+(l.length-(v+1)))=l.length:=by omega
    rw[hn]at h2 h3 h4 h6
    have hlt:decide (st.2.1<(st.2.2.length:Int))=false:=by rw[h2,h5];simp
    unfold as6
    rw[hlt]
    simp only[fh8]
    refine⟨_,rfl,st.2.2,i,?_,h5,by omega,by rw[h6,ey4]⟩
    rw[h1,h2])
  obtain⟨s,i,rfl,hs,hi,ht⟩:=k2
  rw[k1]
  simp only[aD6]
  have hc:ck8 (i:Int) (s.length:Int) s.length=some ():=by unfold ck8;rw[if_pos ⟨by omega,by omega,by omega⟩]
  rw[hc]
  simp only[aD6]
  have hsl:ax7 (bH1 s (i:Int) (s.length:Int) (⟨(⟨0,0,0,0⟩:B4),0,false,0⟩:A4)) 0 (i:Int)=some (s.take i):=cM8 s i _ (by omega)
  rw[hsl,ht]
  rfl
def bC5 (at_:Int)(j:A4):Bool:=j.D6&&(j.At==at_)
theorem em3 (l:List A4)(hl:l.length<=1000000)(at_:Int):K6 l (fun x0=>an4 x0 at_)=some (l.filter fun j=>!bC5 at_ j):=
 del_eq l hl _ (bC5 at_) (fun _ _=>rfl)
def cD1 (at_:Int)(u:List j5×List A4):List j5×List A4:=(u.1.map (Tm.bF6 at_),u.2.filter fun j=>!bC5 at_ j)
theorem cy8:∀{l:List A4}{lv:Bool},alt l lv=true->∀k∈l,k.D6=false
 |[],lv,_,k,hk=>by simp at hk
 |j::r,lv,h,k,hk=>by
  simp only[alt,aI9,ck7]at h
  rcases cq9.1 hk with rfl|hk
  ·exact h.1.2
  ·exact cy8 h.2 k hk
theorem ey9 {l:List A4}{lv:Bool}(h:alt l lv=true):aH8 l ⟨false,0,false,lv⟩=true:=by
 cases l with
 |nil=>simpa[aH8,alt]using h
 |cons j r=>
  simp only[alt,aI9,ck7]at h
  simp[aH8,h.1.1,h.1.2,h.2]
theorem cO8 {l:List A4}(at_:Int)(h:∀k∈l,k.D6=false):(l.filter fun j=>!bC5 at_ j)=l:=by
 rw[fd6]
 intro k hk
 simp[bC5,h k hk]
theorem cB4 (l:List A4)(c at_:Int):aq1 (l.filter fun j=>!bC5 at_ j) c=(aq1 l c).filter fun j=>!bC5 at_ j:=by
 unfold aq1
 rw[List.filter_filter,List.filter_filter]
 congr 1
 funext j
 exact Bool.and_comm _ _
theorem eF2 {l:List A4}{x:j5}{at_:Int}(h:aH8 l x=true)(cv2:x.D6=true->at_<=x.At):aH8 (l.filter fun j=>!bC5 at_ j) (Tm.bF6 at_ x)=true:=by
 cases l with
 |nil=>
  simp only[aH8,aI9,ck7]at h
  have:Tm.bF6 at_ x=x:=by unfold Tm.bF6 Tm.due;rw[h.2];rfl
  rw[this]
  simp[aH8,h.1,h.2]
 |cons j r=>
  have h':=h
  simp only[aH8,aI9,ck7,cI5,beq_iff_eq]at h
  obtain⟨⟨⟨h1,h2⟩,h3⟩,h4⟩:=h
  have hr:=cO8 at_ (cy8 h4)
  cases hx:x.D6
  ·have hj:j.D6=false:=by rw[h2];exact hx
   have e1:Tm.bF6 at_ x=x:=by unfold Tm.bF6 Tm.due;rw[hx];rfl
   have e2:bC5 at_ j=false:=by unfold bC5;rw[hj];rfl
   rw[e1,ex5,e2]
   simp only[cJ0,if_true]
   rw[hr];exact h'
  ·have hj:j.D6=true:=by rw[h2];exact hx
   have h3':j.At=x.At/\x.Next= !x.K2:=by
    rcases h3 with h3|h3
    ·rw[hj]at h3;cases h3
    ·exact h3
   have hm:=cv2 hx
   by_cases ha:x.At=at_
   ·have e1:Tm.bF6 at_ x=⟨false,0,false,!x.K2⟩:=by
     unfold Tm.bF6 Tm.due
     have:decide (x.At>at_)=false:=by simp;omega
     rw[hx,this,h3'.2];rfl
    have e2:bC5 at_ j=true:=by unfold bC5;rw[hj,h3'.1,ha];simp
    rw[e1,ex5,e2]
    simp only[aX3,do8,if_false]
    rw[hr];exact ey9 h4
   ·have e1:Tm.bF6 at_ x=x:=by
     unfold Tm.bF6 Tm.due
     have:decide (x.At>at_)=true:=by simp;omega
     rw[hx,this];rfl
    have e2:bC5 at_ j=false:=by unfold bC5;rw[hj,h3'.1];simp[ha]
    rw[e1,ex5,e2]
    simp only[cJ0,if_true]
    rw[hr];exact h'
theorem ef2 {n:Nat}{now at_:Int}{u:List j5×List A4}(h:Rows n now u)(h0:0<=now)(h1:now<at_)(h2:at_<=1099511627776)(hn:1<=n)(hn8:n<=8)(cv2:∀x∈u.1,x.D6=true->at_<=x.At):Rows n at_ (cD1 at_ u):=by
 have ht:=cI6 h h0 (by omega) hn hn8
 have ht2:=Tm.ev8 (K1:=at_) ht (by simp only;omega) (by omega)
 refine⟨by simp[cD1,h.len],?_,fun j hj=>h.job j (dM7.1 hj).1,fun c hc=>?_⟩
 ·unfold Tm.ad4 at ht2
  simp only[aI9,bF0]at ht2
  exact ht2.2
 ·have hc':c<u.1.length:=by simpa[cD1]using hc
  simp only[cD1,List.getElem_map]
  rw[cB4]
  exact eF2 (h.row c hc') (cv2 _ (bd9 hc'))
theorem ez7 {now at_:Int}{l:List A4}(h:bs7 now l=true)(hle:now<=at_):bs7 at_ (l.filter fun j=>!bC5 at_ j)=true:=by
 match l,h with
 |[],_=>rfl
 |[j],h=>
  rw[ex5]
  cases bC5 at_ j
  ·simp only[cJ0,if_true,eK1]
   simp only[bs7,aI9,fi3]at h|-
   exact⟨h.1,by omega⟩
  ·rfl
 |i::j::r,h=>simp[bs7]at h
theorem dp5 {n:Nat}{now at_:Int}{u:List j5×List A4}(h:Rows n now u){x:j5}(hx:x∈u.1)(ha:x.D6=true)(hat:x.At=at_):(cD1 at_ u).2.length<u.2.length:=by
 obtain⟨c,hc,rfl⟩:=cY2.1 hx
 have hr:=h.row c hc
 cases hm:aq1 u.2 (c:Int)with
 |nil=>rw[hm]at hr;simp[aH8,ha]at hr
 |cons j r=>
  rw[hm]at hr
  simp only[aH8,aI9,ck7,cI5,beq_iff_eq]at hr
  obtain⟨⟨⟨_,h2⟩,h3⟩,_⟩:=hr
  have hj:j.D6=true:=by rw[h2];exact ha
  have h3':j.At=u.1[c].At:=by
   rcases h3 with h3|h3
   ·rw[hj]at h3;cases h3
   ·exact h3.1
  have hjm:j∈u.2:=by
   have:j∈aq1 u.2 (c:Int):=by rw[hm];exact bN8 ..
   exact(dM7.1 this).1
  have hd:bC5 at_ j=true:=by unfold bC5;rw[hj,h3',hat];simp
  unfold cD1
  exact List.length_filter_lt_length_iff_exists.2 ⟨j,hjm,by simp[hd]⟩
structure Live (n:Nat)(s:c8):Prop where
 eng:n=s.u4.z8.length
 n1:1<=n
 n8:n<=8
 rows:Rows n s.j9.T1 (s.j9.j1,s.G3)
 cut:s.Cut=true->∀c,c<s.j9.j1.length->bs7 s.j9.T1 (aq1 s.G3 (c:Int))=true
 cF9:0<=s.j9.T1
 dm0:s.j9.T1<=1099511627776
 clk:(s.A1.V6=false/\s.G3=[])\/(s.A1.V6=true/\bA6 s.A1)
 most:s.G3.length<=1000
theorem Live.tim {n:Nat}{s:c8}(h:Live n s):Tm.ad4 s.j9=true:=cI6 h.rows h.cF9 h.dm0 h.n1 h.n8
theorem Live.len {n:Nat}{s:c8}(h:Live n s):s.j9.j1.length=2*n:=h.rows.len
theorem Live.of {s:c8}(h:aM9 s):Live s.u4.z8.length s:=by
 have ht:=Tm.bE5 h.tim
 refine⟨rfl,h.eng.1,h.eng.2.1,⟨h.chs,?_,h.job,fun c hc=>?_⟩,fun aH7 c hc=>?_,ht.2.2.1,ht.2.2.2,?_,Nat.le_trans h.most (by decide)⟩
 ·have:=h.tim
  unfold Tm.ad4 at this
  simp only[aI9,bF0]at this
  exact this.2
 ·have:=h.line c hc
  unfold bD5 at this
  simp only[aI9]at this
  exact this.1
 ·have:=h.line c hc
  unfold bD5 at this
  rw[aH7]at this
  simp only[aX3,ed0,aI9]at this
  exact this.2
 ·cases hv:s.A1.V6
  ·exact .inl ⟨rfl,h.none hv⟩
  ·exact .inr ⟨rfl,db4 h.clk hv⟩
def stepG (at_:Int)(s:c8):c8:=bL9 (put s at_ (cD1 at_ (s.j9.j1,s.G3)))
def goV (to:Int):Nat->List j6×c8->List j6×c8
 |0,u=>u
 |f+1,u=>if(Tm.nxV u.2.j9.j1).2=true/\(Tm.nxV u.2.j9.j1).1<=to then goV to f (u.1++Tm.cJ4 (Tm.nxV u.2.j9.j1).1 u.2.j9.j1,stepG (Tm.nxV u.2.j9.j1).1 u.2)else u
structure Alike (s t:c8):Prop where
 eng:t.u4=s.u4
 clk:t.A1=s.A1
 next:t.Next=s.Next
 cut:t.Cut=s.Cut
theorem Alike.refl (s:c8):Alike s s:=⟨rfl,rfl,rfl,rfl⟩
theorem Alike.trans {s t u:c8}(h:Alike s t)(k:Alike t u):Alike s u:=⟨k.eng.trans h.eng,k.clk.trans h.clk,k.next.trans h.next,k.cut.trans h.cut⟩
theorem cr6 (s:c8)(now:Int)(u:List j5×List A4):Alike s (put s now u):=⟨rfl,rfl,rfl,rfl⟩
theorem cr5 (s:c8):Alike s (bL9 s):=by unfold bL9;split;exact .refl s;exact cr6 ..
theorem dD8 (at_:Int)(s:c8):Alike s (stepG at_ s):=(cr6 ..).trans (cr5 _)
theorem dq2 {n:Nat}{s:c8}(h:Live n s):Live n (bL9 s):=by
 unfold bL9
 cases aH7:s.Cut
 ·simp only[do8,if_false]
  have hr:=cr7 (k:=s.A1) h.rows s.j9.j1.length
  refine⟨h.eng,h.n1,h.n8,hr,fun hc=>?_,h.cF9,h.dm0,?_,?_⟩
  ·have:s.Cut=true:=hc
   rw[aH7]at this;cases this
  ·rcases h.clk with⟨a,b⟩|h2
   ·left
    refine⟨a,?_⟩
    show(cb1 s.j9.T1 s.A1 s.j9.j1.length (s.j9.j1,s.G3)).2=[]
    rw[b,cJ8]
   ·exact .inr h2
  ·show(cb1 s.j9.T1 s.A1 s.j9.j1.length (s.j9.j1,s.G3)).2.length<=1000
   rw[bA8];exact h.most
 ·simp only[if_true];exact h
theorem dy5 {n:Nat}{s:c8}(h:Live n s){at_:Int}(h1:s.j9.T1<at_)(h2:at_<=1099511627776)(cv2:∀x∈s.j9.j1,x.D6=true->at_<=x.At):Live n (put s at_ (cD1 at_ (s.j9.j1,s.G3))):=by
 have hr:=ef2 h.rows h.cF9 h1 h2 h.n1 h.n8 cv2
 refine⟨h.eng,h.n1,h.n8,hr,fun hc c hcl=>?_,by have:=h.cF9;show 0<=at_;omega,h2,?_,?_⟩
 ·show bs7 at_ (aq1 (s.G3.filter fun j=>!bC5 at_ j) (c:Int))=true
  rw[cB4]
  exact ez7 (h.cut hc c (by simpa[put,cD1]using hcl)) (by omega)
 ·rcases h.clk with⟨a,b⟩|h2
  ·left
   refine⟨a,?_⟩
   show(s.G3.filter fun j=>!bC5 at_ j)=[]
   rw[b];rfl
  ·exact .inr h2
 ·exact Nat.le_trans (List.length_filter_le ..) h.most
theorem ep7 {n:Nat}{s:c8}(h:Live n s)(hn:(Tm.nxV s.j9.j1).2=true):s.j9.T1<(Tm.nxV s.j9.j1).1/\(Tm.nxV s.j9.j1).1<=1099511627776/\(∀x∈s.j9.j1,x.D6=true->(Tm.nxV s.j9.j1).1<=x.At):=by
 obtain⟨x,hx,ha,hat⟩:=Tm.cR2 hn
 have:=Tm.db1 (h.rows.ch x hx) ha
 exact⟨by omega,by omega,fun y hy hya=>(Tm.cw0 hy hya).2⟩
theorem eb9 {n:Nat}{s:c8}(h:Live n s)(hn:(Tm.nxV s.j9.j1).2=true):Live n (stepG (Tm.nxV s.j9.j1).1 s):=by
 obtain⟨h1,h2,h3⟩:=ep7 h hn
 exact dq2 (dy5 h h1 h2 h3)
theorem eu5 (at_:Int)(s:c8):(stepG at_ s).j9.T1=at_:=by unfold stepG bL9;split<;>rfl
theorem eb8 (at_:Int)(s:c8):(stepG at_ s).G3.length=(cD1 at_ (s.j9.j1,s.G3)).2.length:=by
 unfold stepG bL9
 split
 ·rfl
 ·show(cb1 _ _ _ _).2.length=_
  rw[bA8];rfl
theorem eB8 {n:Nat}{s:c8}(h:Live n s)(to:Int)(out:List j6)(ho:out.length<=100000)(hn:(Tm.nxV s.j9.j1).2=true)(hto:(Tm.nxV s.j9.j1).1<=to):
  Y1 to (out,s)=some (.inl (out++Tm.cJ4 (Tm.nxV s.j9.j1).1 s.j9.j1,stepG (Tm.nxV s.j9.j1).1 s))/\
  True:=by
 obtain⟨h1,h2,h3⟩:=ep7 h hn
 have at3:=dy5 h h1 h2 h3
 have hlen:=h.len
 have hn8:=h.n8
 have hal:(Tm.cJ4 (Tm.nxV s.j9.j1).1 s.j9.j1).length<=16:=by have:=Tm.dp4 (Tm.nxV s.j9.j1).1 s.j9.j1;omega
 have et:(⟨s.j9.T1,s.j9.j1⟩:u0)=s.j9:=rfl
 have hg:decide ((Tm.nxV s.j9.j1).1>to)=false:=by simp;omega
 have ha1:decide ((Tm.nxV s.j9.j1).1<s.j9.T1)=false:=by simp;omega
 have ha2:decide ((Tm.nxV s.j9.j1).1>Tm.cD0)=false:=by unfold Tm.cD0;simp;omega
 have hj:=h.most
 constructor
 ·unfold Y1
  try simp only[et]
  rw[Tm.dP7,h.tim]
  simp only[fi0,aD6,hn,hg,aX3,eO3,fh8]
  rw[Tm.ef1,h.tim,ha1,ha2]
  simp only[aX3,fh8,aD6]
  rw[H5 _ _ (by omega),em3 _ (by omega)]
  simp only[aD6]
  have:=dR0 (s:=put s (Tm.nxV s.j9.j1).1 (cD1 (Tm.nxV s.j9.j1).1 (s.j9.j1,s.G3))) at3.rows (by rcases at3.clk with⟨_,b⟩|⟨_,b⟩;exact .inl b;exact .inr b) at3.cF9 at3.dm0 h.n1 h.n8 (by have:=at3.most;omega)
  unfold put cD1 at this
  simp only at this
  rw[this]
  rfl
 ·trivial
theorem em4 {n:Nat}{s:c8}(h:Live n s)(to:Int)(out:List j6)(hno:¬((Tm.nxV s.j9.j1).2=true/\(Tm.nxV s.j9.j1).1<=to)):
  Y1 to (out,s)=some (.inr (.inl (out,s)))/\True:=by
 have et:(⟨s.j9.T1,s.j9.j1⟩:u0)=s.j9:=rfl
 have hlen:=h.len
 have hn8:=h.n8
 have hb:(!(Tm.nxV s.j9.j1).2||decide ((Tm.nxV s.j9.j1).1>to))=true:=by
  cases hn:(Tm.nxV s.j9.j1).2
  ·rfl
  ·simp only[aX3,ed0,fi3]
   by_cases h5:(Tm.nxV s.j9.j1).1<=to
   ·exact absurd ⟨hn,h5⟩ hno
   ·omega
 constructor
 ·unfold Y1
  try simp only[et]
  rw[Tm.dP7,h.tim]
  simp only[fi0,aD6,hb]
 ·trivial
theorem em5 (to:Int){n:Nat}:∀(f:Nat) (s:c8) (out:List j6),Live n s->s.G3.length<=f->out.length+16*f<=100000->s.j9.T1<=to->
  J7 (Y1 to) (out,s)=some (.inl (goV to f (out,s)))/\True/\Live n (goV to f (out,s)).2/\Alike s (goV to f (out,s)).2/\(goV to f (out,s)).2.j9.T1<=to/\
   (∀x∈(goV to f (out,s)).2.j9.j1,x.D6=true->to<x.At)/\(goV to f (out,s)).1.length<=out.length+16*f/\(goV to f (out,s)).2.G3.length<=s.G3.length:=by
 intro f
 induction f with
 |zero=>
  intro s out h hj ho ht
  have hno:¬((Tm.nxV s.j9.j1).2=true/\(Tm.nxV s.j9.j1).1<=to):=by
   rintro⟨h1,_⟩
   obtain⟨x,hx,ha,hat⟩:=Tm.cR2 h1
   have:=dp5 h.rows hx ha hat
   simp only at this
   omega
  obtain⟨e1,e2⟩:=em4 h to out hno
  refine⟨D7 e1,trivial,h,.refl s,ht,fun x hx ha=>?_,by simp[goV],cw4 _⟩
  obtain⟨a,b⟩:=Tm.cw0 hx ha
  by_cases h5:to<x.At
  ·exact h5
  ·have b':(Tm.nxV s.j9.j1).1<=x.At:=b
   exact absurd ⟨a,by omega⟩ hno
 |succ f ih=>
  intro s out h hj ho ht
  by_cases hy:(Tm.nxV s.j9.j1).2=true/\(Tm.nxV s.j9.j1).1<=to
  ·obtain⟨e1,e2⟩:=eB8 h to out (by omega) hy.1 hy.2
   have hlen:=h.len
   have hn8:=h.n8
   have hal:(Tm.cJ4 (Tm.nxV s.j9.j1).1 s.j9.j1).length<=16:=by have:=Tm.dp4 (Tm.nxV s.j9.j1).1 s.j9.j1;omega
   obtain⟨x,hx,ha,hat⟩:=Tm.cR2 hy.1
   have hless:=dp5 h.rows hx ha hat
   simp only at hless
   have hsj:=eb8 (Tm.nxV s.j9.j1).1 s
   obtain⟨r1,r2,r3,r4,r5,r6,r7,r8⟩:=ih (stepG (Tm.nxV s.j9.j1).1 s) (out++Tm.cJ4 (Tm.nxV s.j9.j1).1 s.j9.j1) (eb9 h hy.1) (by omega) (by rw[aZ7];omega) (by rw[eu5];exact hy.2)
   have eg:goV to (f+1) (out,s)=goV to f (out++Tm.cJ4 (Tm.nxV s.j9.j1).1 s.j9.j1,stepG (Tm.nxV s.j9.j1).1 s):=by
    show(if _ then _ else _)=_
    rw[if_pos hy]
   rw[eg,G6 e1]
   refine⟨r1,r2,r3,(dD8 _ s).trans r4,r5,r6,by rw[aZ7]at r7;omega,by omega⟩
  ·obtain⟨e1,e2⟩:=em4 h to out hy
   have eg:goV to (f+1) (out,s)=(out,s):=by
    show(if _ then _ else _)=_
    rw[if_neg hy]
   rw[eg]
   refine⟨D7 e1,trivial,h,.refl s,ht,fun x hx ha=>?_,by simp only;omega,cw4 _⟩
   obtain⟨a,b⟩:=Tm.cw0 hx ha
   by_cases h5:to<x.At
   ·exact h5
   ·have b':(Tm.nxV s.j9.j1).1<=x.At:=b
    exact absurd ⟨a,by omega⟩ hy
def goE (to:Int)(s:c8):List j6×c8:=((goV to s.G3.length ([],s)).1,put (goV to s.G3.length ([],s)).2 to ((goV to s.G3.length ([],s)).2.j9.j1,(goV to s.G3.length ([],s)).2.G3))
theorem dH4 {n:Nat}{s:c8}(h:Live n s){to:Int}(h1:s.j9.T1<=to)(h2:to<=1099511627776)(hno:∀x∈s.j9.j1,x.D6=true->to<x.At):Live n (put s to (s.j9.j1,s.G3)):=by
 refine⟨h.eng,h.n1,h.n8,⟨h.rows.len,fun x hx=>?_,h.rows.job,h.rows.row⟩,fun hc c hcl=>?_,by have:=h.cF9;show 0<=to;omega,h2,h.clk,h.most⟩
 ·have:=h.rows.ch x hx
  show Tm.chB to x=true
  unfold Tm.chB at this|-
  cases ha:x.D6
  ·rw[ha]at this;exact this
  ·rw[ha]at this
   have h5:=hno x hx ha
   simp only[fi0,ck7,bN3,fi4]at this|-
   omega
 ·have:=h.cut hc c hcl
  show bs7 to (aq1 s.G3 (c:Int))=true
  match hm:aq1 s.G3 (c:Int)with
  |[]=>rfl
  |[j]=>
   rw[hm]at this
   simp only[bs7,aI9,fi3]at this|-
   exact⟨this.1,by omega⟩
  |i::j::r=>rw[hm]at this;simp[bs7]at this
theorem dI3 {to:Int}{l:List j5}(h:∀x∈l,x.D6=true->to<x.At):∀c∈l,Tm.due to c=false:=by
 intro c hc
 unfold Tm.due
 cases ha:c.D6
 ·rfl
 ·have:=h c hc ha
  simp;omega
theorem cH9 {n:Nat}{s:c8}(h:Live n s)(to:Int)(h1:s.j9.T1<=to)(h2:to<=1099511627776):ab1 s to=some (goE to s)/\Live n (goE to s).2/\Alike s (goE to s).2/\(goE to s).2.j9.T1=to/\(goE to s).2.G3.length<=s.G3.length/\(∀x∈(goE to s).2.j9.j1,x.D6=true->to<x.At):=by
 have hm:=h.most
 obtain⟨r1,r2,r3,r4,r5,r6,r7,r8⟩:=em5 to s.G3.length s [] h (cw4 _) (by simp;omega) h1
 have hd:=Tm.ep6 (dI3 r6)
 refine⟨?_,dH4 r3 r5 h2 r6,r4.trans (cr6 ..),rfl,r8,r6⟩
 unfold ab1
 rw[r1]
 simp only[aD6]
 unfold goE
 generalize goV to s.G3.length ([],s)=u at r3 r5 r6 hd r7
 have et:(⟨u.2.j9.T1,u.2.j9.j1⟩:u0)=u.2.j9:=rfl
 have ha1:decide (to<u.2.j9.T1)=false:=by simp;omega
 have ha2:decide (to>Tm.cD0)=false:=by unfold Tm.cD0;simp;omega
 try rw[et]
 rw[Tm.ef1,r3.tim,ha1,ha2]
 simp only[aX3,fh8,aD6]
 rw[hd.1,hd.2,H5 _ _ (by simp at r7|-;omega)]
 simp only[aD6,dh6]
 rfl
theorem ff1 (s:c8)(h1:s.u4.z8.length<=1000)(h2:s.j9.j1.length<=1000)(h3:s.Next.length<=1000000)(h4:s.G3.length<=1000000):by2 s=some s:=by
 unfold by2
 rw[H5 _ _ (by simp;omega),Tm.copy_eq _ h2,H5 _ _ (by simp;omega),H5 _ _ (by simp;omega)]
 rfl
theorem bC3 (s:c8)(h3:s.Next.length<=1000000)(h4:s.G3.length<=1000000):L2 s=some s:=by
 unfold L2 aj1 T5
 rw[H5 _ _ (by simp;omega),H5 _ _ (by simp;omega)]
 rfl
section
variable {α β:Type}
def cn6 (gt:α->α->Bool)(x:α)(l:List α):Nat->Nat
 |0=>0
 |k+1=>match l[k]?with|some y=>if gt y x then cn6 gt x l k else k+1|none=>k+1
def bI5 (gt:α->α->Bool)(l:List α)(x:α):List α:=l.take (cn6 gt x l l.length)++x::l.drop (cn6 gt x l l.length)
theorem eq8 (gt:α->α->Bool)(x:α)(l:List α){k:Nat}(h:k<l.length):cn6 gt x l (k+1)=if gt l[k] x then cn6 gt x l k else k+1:=by
 rw[cn6,aW5 h]
theorem bV7 (gt:α->α->Bool)(l:List α)(x:α):(bI5 gt l x).Perm (x::l):=by
 unfold bI5
 refine List.perm_middle.trans ?_
 rw[List.take_append_drop]
theorem cP0 (gt:α->α->Bool):∀(r l:List α),(r.foldl (bI5 gt) l).Perm (l++r)
 |[],l=>by simp
 |x::r,l=>by
  refine(cP0 gt r (bI5 gt l x)).trans ?_
  refine((bV7 gt l x).append_right r).trans ?_
  exact List.perm_middle.symm
theorem dQ1 (f:α->β){gt:α->α->Bool}{gt':β->β->Bool}(x:α)(l:List α)(h:∀y∈l,gt' (f y) (f x)=gt y x):∀k,cn6 gt' (f x) (l.map f) k=cn6 gt x l k
 |0=>rfl
 |k+1=>by
  unfold cn6
  rw[cV8]
  cases hk:l[k]?with
  |none=>rfl
  |some y=>
   simp only[cq8]
   rw[h y (do6 hk),dQ1 f x l h k]
theorem eC4 (f:α->β){gt:α->α->Bool}{gt':β->β->Bool}(x:α)(l:List α)(h:∀y∈l,gt' (f y) (f x)=gt y x):bI5 gt' (l.map f) (f x)=(bI5 gt l x).map f:=by
 unfold bI5
 rw[cV9,dQ1 f x l h,eK6,cW0,List.map_take,List.map_drop]
theorem fold_map (f:α->β){gt:α->α->Bool}{gt':β->β->Bool}(Q:α->Prop)(h:∀x y,Q x->Q y->gt' (f y) (f x)=gt y x):∀(r l:List α),(∀x∈l,Q x)->(∀x∈r,Q x)->(r.map f).foldl (bI5 gt') (l.map f)=(r.foldl (bI5 gt) l).map f
 |[],l,_,_=>rfl
 |x::r,l,hl,hr=>by
  rw[cW0,ex9,ex9,eC4 f x l (fun y hy=>h x y (hr x (bN8 ..)) (hl y hy))]
  refine fold_map f Q h r _ (fun y hy=>?_) (fun y hy=>hr y (bZ9 _ hy))
  rcases cq9.1 ((bV7 gt l x).mem_iff.1 hy)with rfl|h2
  ·exact hr _ (bN8 ..)
  ·exact hl _ h2
theorem dO2 (a b:List α)(x:α):C9 (a++x::b) (a.length:Int)=some x:=by
 rw[T3,List.getElem?_append_right (cw4 _),Nat.sub_self];rfl
theorem es8 (a b:List α)(x z:α):aj2 (a++x::b) (a.length:Int) z=some (a++z::b):=by
 rw[T4 _ _ _ (by simp)]
 rw[List.set_append_right _ _ (cw4 _),Nat.sub_self];rfl
end
section
variable {cmp:a7 -> a7 -> Option Int} {gt:a7 -> a7 -> Bool} {Q:a7 -> Prop}
theorem cB9 (hc:∀x y,Q x->Q y->∃c,cmp x y=some c/\decide (c<0)=gt y x)(x:a7)(P R:List a7)(hP:∀y∈P,Q y)(hx:Q x)(hl:P.length<=1000000):∀j,j<=P.length->
  J7 (B8 0 cmp) ((j:Int),P.take j++x::(P.drop j++R))=some (.inl ((cn6 gt x P j:Int),P.take (cn6 gt x P j)++x::(P.drop (cn6 gt x P j)++R)))
 |0,_=>by
  refine D7 ?_
  unfold B8
  rfl
 |j+1,hj=>by
  have hjl:j<P.length:=by omega
  have e1:P.take (j+1)=P.take j++[P[j]]:=dr6 hjl
  have e2:P.drop j=P[j]::P.drop (j+1):=List.drop_eq_getElem_cons hjl
  have la:(P.take j).length=j:=by rw[bw6];omega
  have lb:(P.take j++[P[j]]).length=j+1:=by rw[aZ7,la];rfl
  obtain⟨c,hc1,hc2⟩:=hc x P[j] hx (hP _ (bd9 hjl))
  have d1:P.take (j+1)++x::(P.drop (j+1)++R)=P.take j++P[j]::(x::(P.drop (j+1)++R)):=by rw[e1,dp3];rfl
  have g0:C9 (P.take (j+1)++x::(P.drop (j+1)++R)) ((j+1:Nat):Int)=some x:=by
   have:=dO2 (P.take j++[P[j]]) (P.drop (j+1)++R) x
   rw[lb]at this
   rw[e1];exact this
  have g1:C9 (P.take (j+1)++x::(P.drop (j+1)++R)) (j:Int)=some P[j]:=by
   have:=dO2 (P.take j) (x::(P.drop (j+1)++R)) P[j]
   rw[la]at this
   rw[d1];exact this
  have s0:aj2 (P.take (j+1)++x::(P.drop (j+1)++R)) ((j+1:Nat):Int) P[j]=some (P.take j++P[j]::(P[j]::(P.drop (j+1)++R))):=by
   have:=es8 (P.take j++[P[j]]) (P.drop (j+1)++R) x P[j]
   rw[lb]at this
   rw[e1,this,dp3];rfl
  have g2:C9 (P.take j++P[j]::(P[j]::(P.drop (j+1)++R))) (j:Int)=some P[j]:=by
   have:=dO2 (P.take j) (P[j]::(P.drop (j+1)++R)) P[j]
   rw[la]at this;exact this
  have s1:aj2 (P.take j++P[j]::(P[j]::(P.drop (j+1)++R))) (j:Int) x=some (P.take j++x::(P.drop j++R)):=by
   have:=es8 (P.take j) (P[j]::(P.drop (j+1)++R)) P[j] x
   rw[la]at this
   rw[this,e2];rfl
  have ew:j7 (((j+1:Nat):Int)-1)=(j:Int):=by rw[j4 (by omega) (by omega)];omega
  have e0:decide (((j+1:Nat):Int)>0)=true:=fi1 (by omega)
  have hb:B8 0 cmp (((j+1:Nat):Int),P.take (j+1)++x::(P.drop (j+1)++R))=some (bif gt P[j] x then .inl ((j:Int),P.take j++x::(P.drop j++R))else .inr (.inl (((j+1:Nat):Int),P.take (j+1)++x::(P.drop (j+1)++R)))):=by
   unfold B8
   simp only[e0,fi0,ew,g0,g1,aD6,hc1,hc2]
   cases gt P[j] x
   ·rfl
   ·simp only[fi0,s0,g2,s1,aD6]
  have ep:=eq8 gt x P hjl
  cases hg:gt P[j] x
  ·rw[hg]at hb ep
   simp only[do8,if_false]at ep
   rw[D7 hb,ep]
  ·rw[hg]at hb ep
   simp only[if_true]at ep
   rw[G6 hb,ep]
   exact cB9 hc x P R hP hx hl j (by omega)
theorem cC0 (hc:∀x y,Q x->Q y->∃c,cmp x y=some c/\decide (c<0)=gt y x)(n:Nat)(hn:n<=1000000):∀(R S:List a7),S.length+R.length=n->(∀y∈S,Q y)->(∀y∈R,Q y)->
  J7 (B0 0 (n:Int) cmp) ((S.length:Int),S++R)=some (.inl ((n:Int),R.foldl (bI5 gt) S))
 |[],S,hl,hS,_=>by
  have:S.length=n:=by simpa using hl
  rw[this]
  refine D7 ?_
  unfold B0
  simp
 |x::R,S,hl,hS,hR=>by
  rw[bv4]at hl
  have hin:=cB9 hc x S R hS (hR x (bN8 ..)) (by omega) S.length (cw4 _)
  rw[ey4,List.drop_length]at hin
  have e1:decide ((S.length:Int)<(n:Int))=true:=by simp;omega
  have ew:j7 ((S.length:Int)+1)=((S.length+1:Nat):Int):=by rw[j4 (by omega) (by omega)];omega
  have hin2:bI5 gt S x++R=S.take (cn6 gt x S S.length)++x::(S.drop (cn6 gt x S S.length)++R):=by
   unfold bI5;rw[dp3];rfl
  have hb:B0 0 (n:Int) cmp ((S.length:Int),S++x::R)=some (.inl (((S.length+1:Nat):Int),bI5 gt S x++R)):=by
   unfold B0
   simp only[e1,fi0]
   rw[show(S++x::R)=S++x::([]++R)from rfl,hin]
   simp only[aD6,ew,hin2]
  rw[G6 hb]
  have hlen:(bI5 gt S x).length=S.length+1:=by rw[(bV7 gt S x).length_eq];rfl
  have:=cC0 hc n hn R (bI5 gt S x) (by omega) (fun y hy=>by
   rcases cq9.1 ((bV7 gt S x).mem_iff.1 hy)with rfl|h2
   ·exact hR _ (bN8 ..)
   ·exact hS _ h2) (fun y hy=>hR y (bZ9 _ hy))
  rw[hlen]at this
  exact this
theorem bW6 (hc:∀x y,Q x->Q y->∃c,cmp x y=some c/\decide (c<0)=gt y x)(l:List a7)(hl:l.length<=19)(hQ:∀y∈l,Q y):C8 l cmp=some (l.foldl (bI5 gt) []):=by
 have hins:A9 l 0 (l.length:Int) cmp=some (l.foldl (bI5 gt) []):=by
  unfold A9
  cases l with
  |nil=>
   rw[D7 (b:=.inl (1,[]))]
   ·rfl
   ·unfold B0;rfl
  |cons x R=>
   have:=cC0 hc (x::R).length (by omega) R [x] (by simp;omega) (fun y hy=>hQ y (by simp at hy;simp[hy])) (fun y hy=>hQ y (bZ9 _ hy))
   rw[show j7 (0+1)=(([x].length:Nat):Int)from rfl]
   rw[show x::R=[x]++R from rfl]at this|-
   rw[this]
   rfl
 unfold C8 G8
 rw[D7 (b:=.inl (0,20,l)) (by unfold J5;rw[show decide ((20:Int)<=(l.length:Int))=false by simp;omega];rfl)]
 simp only[aD6]
 rw[hins]
 simp only[aD6]
 rw[D7 (b:=.inl (20,l.foldl (bI5 gt) [])) (by unfold J6;rw[show decide ((20:Int)<(l.length:Int))=false by simp;omega];rfl)]
 rfl
end
def gtE (begin:Int)(y x:B4):Bool:=decide (dst begin x.G7<dst begin y.G7\/(dst begin x.G7=dst begin y.G7/\chn x<chn y))
def dm2 (begin:Int)(l:List B4):List B4:=l.foldl (bI5 (gtE begin)) []
def plJ (begin:Int)(x:B4):a7:=⟨x,dst begin x.G7⟩
theorem cw3 (begin:Int)(l:List B4):(dm2 begin l).Perm l:=by
 have:=cP0 (gtE begin) l []
 simpa[dm2]using this
theorem db2 {x:B4}(h:Ev.evP x):G9 x=some (chn x)/\aF3 x=some (chn x):=by
 have:=cH2 (n:=8) (j:=⟨x,0,false,0⟩) ⟨h.2.2.1,h.2.1,h.1,h.2.2.2,by simp only;omega,.inr rfl⟩ (by omega)
 exact this
theorem eQ6 (a b:Int):af3 [a,b]=some (bif a !=0 then a else b):=by
 unfold af3
 rw[K4 _ (by simp)]
 simp only[L7,ao3]
 cases ha:a !=0
 ·cases hb:b !=0
  ·have:b=0:=by simpa using hb
   rw[this];rfl
  ·rfl
 ·rfl
theorem eE0 (begin:Int)(x y:B4)(hx:Ev.evP x)(hy:Ev.evP y):∃c,ac4 (plJ begin x) (plJ begin y)=some c/\decide (c<0)=gtE begin y x:=by
 unfold ac4 plJ
 simp only[cN1,(db2 hx).1,(db2 hy).1,aD6,eQ6]
 refine⟨_,rfl,?_⟩
 unfold gtE
 rw[decide_eq_decide]
 rcases bh1 (dst begin x.G7) (dst begin y.G7)with⟨a,b⟩|⟨a,b⟩|⟨a,b⟩
 ·rw[b];simp[a]
 ·rw[b]
  rcases bh1 (chn x) (chn y)with⟨c,d⟩|⟨c,d⟩|⟨c,d⟩<;>rw[d]<;>simp<;>omega
 ·rw[b];simp;omega
theorem er0 (begin:Int)(l:List B4)(hl:l.length<=19)(hQ:∀x∈l,Ev.evP x):C8 (l.map (plJ begin)) ac4=some ((dm2 begin l).map (plJ begin)):=by
 have e:∀p:a7,(∃x,Ev.evP x/\p=plJ begin x)->p=plJ begin p.x:=by
  rintro p ⟨x,_,rfl⟩;rfl
 rw[bW6 (gt:=fun q p=>gtE begin q.x p.x) (Q:=fun p=>∃x,Ev.evP x/\p=plJ begin x)
  (fun p q ⟨x,hx,ex⟩ ⟨y,hy,ey⟩=>by subst ex ey;exact eE0 begin x y hx hy) _ (by rw[cV9];exact hl)
  (fun p hp=>by obtain⟨x,hx,rfl⟩:=da1.1 hp;exact⟨x,hQ x hx,rfl⟩)]
 have:=fold_map (plJ begin) (gt:=gtE begin) (gt':=fun q p=>gtE begin q.x p.x) (fun _=>True) (fun _ _ _ _=>rfl) l [] (fun _ _=>trivial) (fun _ _=>trivial)
 rw[ep3]at this
 rw[this];rfl
theorem dN6 {e:o4}(h:aD7 e){c:Int}(hc:c∈e.z8):1<=c/\c<=(e.z8.length:Int):=h.2.2.2.2.1 c hc
theorem dG4 {e:o4}{f:A0}{t:Int}(he:aD7 e)(hf:be0 e f):∀x∈evs e t f,Ev.evP x/\x.o9=f.o9:=by
 intro x hx
 unfold evs at hx
 obtain⟨o,ho,rfl⟩:=da1.1 hx
 have hc:=dN6 he hf.1
 have hn:=he.2.1
 have hk:(1<=o.2.1/\o.2.1<=4)/\(0<=o.2.2/\o.2.2<=2):=by
  unfold dZ6 at ho
  simp only[do5,cq9,eT1,or_false]at ho
  rcases ho with(ho|ho)|ho
  ·rcases ho with rfl|rfl<;>simp
  ·cases h:decide (pul f>0)
   ·rw[h]at ho;simp at ho
   ·rw[h]at ho
    simp only[fi0,cq9,eT1,or_false]at ho
    rcases ho with rfl|rfl<;>simp
  ·cases h:decide (pul f>1)
   ·rw[h]at ho;simp at ho
   ·rw[h]at ho
    simp only[fi0,cq9,eT1,or_false]at ho
    rcases ho with rfl|rfl<;>simp
 refine⟨⟨?_,hk.1,?_,hk.2⟩,rfl⟩
 ·unfold evF;simp only;omega
 ·show 1<=f.o9/\f.o9<=8;omega
def kp (x:B4):Int×Int:=(x.Kind,x.ai4)
def eH8 (k:Int×Int):Bool:=k.1==1||k.1==2
def ew8 (k:Int×Int):Bool:=k.1==3||k.1==4
def cM9:List (Int×Int):=[(2,0),(1,0)]
def bo4 (n:Int):List (Int×Int):=(bif decide (n>0)then [(4,1),(3,1)]else [])++(bif decide (n>1)then [(3,2),(4,2)]else [])
theorem eN7 (e:o4)(f:A0)(t:Int):(evs e t f).map kp=cM9++bo4 (pul f):=by
 unfold evs
 rw[List.map_map]
 rcases bi4 f with h|h|h<;>(unfold dZ6;rw[h];rfl)
def dW9 (begin:Int):List B4->Int->Bool
 |[],_=>true
 |x::r,last=>decide (last<dst begin x.G7)&&dW9 begin r (dst begin x.G7)
def kpP (a b:Int):List (Int×Int)->Int->Int->Bool
 |[],_,_=>true
 |x::r,p,k=>(x.1==k)&&decide (p<=x.2)&&kpP a b r x.2 (a+b-k)
def kpR (c:Nat):List (Int×Int)->Nat->Bool
 |[],_=>true
 |x::r,i=>(onK x.1==(i%2==0))&&(x.2==(if c=0 then 0 else((i/2+1:Nat):Int)))&&kpR c r (i+1)
theorem cf4 (begin a b:Int):∀(l:List B4) (i last p k:Int),(k=a\/k=b)->(0<=a/\a<=10)->(0<=b/\b<=10)->
  ((dW9 begin (l.filter fun x=>x.Kind==a||x.Kind==b) last&&kpP a b ((l.filter fun x=>x.Kind==a||x.Kind==b).map kp) p k)=true/\∃s,L7 (V3 (a,b)) (l.map (plJ begin)) i (last,p,k)=some (.inl s))\/
  ((dW9 begin (l.filter fun x=>x.Kind==a||x.Kind==b) last&&kpP a b ((l.filter fun x=>x.Kind==a||x.Kind==b).map kp) p k)=false/\L7 (V3 (a,b)) (l.map (plJ begin)) i (last,p,k)=some (.inr ([],false)))
 |[],i,last,p,k,_,_,_=>.inl ⟨rfl,_,rfl⟩
 |x::l,i,last,p,k,hk,ha,hb=>by
  have ih:=fun i last p k hk=>cf4 begin a b l i last p k hk ha hb
  simp only[cW0,L7]
  have ew:j7 (j7 (a+b)-k)=a+b-k:=by
   rw[j4 (n:=a+b) (by omega) (by omega),j4 (by omega) (by omega)]
  cases hm:(x.Kind==a||x.Kind==b)
  ·rw[eY3 (by simp[hm])]
   have h1:((x.Kind !=a)&&(x.Kind !=b))=true:=by
    rw[bN3]at hm;simp only[bne,hm.1,hm.2];rfl
   have hst:V3 (a,b) i (plJ begin x) (last,p,k)=some (.next (last,p,k)):=by
    unfold V3 plJ
    simp only[h1,fi0]
   rw[hst]
   exact ih (i+1) last p k hk
  ·rw[dZ1 (by simp[hm])]
   have h1:((x.Kind !=a)&&(x.Kind !=b))=false:=by
    cases e1:x.Kind==a
    ·rw[e1]at hm;simp only[ed0]at hm;simp[bne,hm]
    ·simp[bne,e1]
   have hst:V3 (a,b) i (plJ begin x) (last,p,k)=some (bif (((x.Kind !=k)||(decide (dst begin x.G7<=last)))||(decide (x.ai4<p)))then(.ret ([],false))else(.next (dst begin x.G7,x.ai4,a+b-k))):=by
    unfold V3 plJ
    simp only[h1,fh8,ew]
    exact da4 ..
   rw[hst]
   have hq:(((x.Kind !=k)||(decide (dst begin x.G7<=last)))||(decide (x.ai4<p)))= !(decide (last<dst begin x.G7)&&((x.Kind==k)&&decide (p<=x.ai4))):=by
    rw[show decide (dst begin x.G7<=last)= !decide (last<dst begin x.G7) by rw[<-decide_not];exact decide_eq_decide.2 (by omega),show decide (x.ai4<p)= !decide (p<=x.ai4) by rw[<-decide_not];exact decide_eq_decide.2 (by omega)]
    unfold bne
    cases x.Kind==k<;>cases decide (last<dst begin x.G7)<;>cases decide (p<=x.ai4)<;>rfl
   rw[hq]
   simp only[dW9,cW0,kpP,kp]
   cases hz:(decide (last<dst begin x.G7)&&((x.Kind==k)&&decide (p<=x.ai4)))
   ·right
    refine⟨?_,by simp only[cJ0,fi0,aD6]⟩
    cases h3:decide (last<dst begin x.G7)
    ·rfl
    ·rw[h3,cM4]at hz
     rw[hz];simp
   ·simp only[aX3,fh8,aD6]
    simp only[aI9]at hz
    rw[hz.1,hz.2.1,hz.2.2]
    exact ih (i+1) (dst begin x.G7) x.ai4 (a+b-k) (by omega)
theorem eC7:∀{l:List (Int×Int)},l.Perm cM9->kpP 1 2 l 0 1=kpR 0 l 0:=by
 intro l h
 have hm:∀x∈l,x∈cM9:=fun x hx=>h.mem_iff.1 hx
 have hl:=h.length_eq
 match l,hl with
 |[a,b],_=>
  have ha:=hm a (by simp)
  have hb:=hm b (by simp)
  revert h
  have key:∀a∈cM9,∀b∈cM9,kpP 1 2 [a,b] 0 1=kpR 0 [a,b] 0:=by decide
  exact fun _=>key a ha b hb
theorem en9 (n:Int)(hn:n=0\/n=1\/n=2):∀{l:List (Int×Int)},l.Perm (bo4 n)->kpP 3 4 l 0 3=kpR 1 l 0:=by
 intro l h
 have hm:∀x∈l,x∈bo4 n:=fun x hx=>h.mem_iff.1 hx
 have hl:=h.length_eq
 rcases hn with rfl|rfl|rfl
 ·have:l=[]:=List.eq_nil_of_length_eq_zero (by rw[hl];rfl)
  subst this;rfl
 ·match l,hl with
  |[a,b],_=>
   have ha:=hm a (by simp)
   have hb:=hm b (by simp)
   have key:∀a∈bo4 1,∀b∈bo4 1,kpP 3 4 [a,b] 0 3=kpR 1 [a,b] 0:=by decide
   exact key a ha b hb
 ·match l,hl with
  |[a,b,c,d],_=>
   have ha:=hm a (by simp)
   have hb:=hm b (by simp)
   have hc:=hm c (by simp)
   have hd:=hm d (by simp)
   have key:∀a∈bo4 2,∀b∈bo4 2,∀c∈bo4 2,∀d∈bo4 2,[a,b,c,d].isPerm (bo4 2)=true->kpP 3 4 [a,b,c,d] 0 3=kpR 1 [a,b,c,d] 0:=by decide
   exact key a ha b hb c hc d hd (List.isPerm_iff.2 h)
def beg (e:o4)(c:Int):Int:=(cen e c+5760)%46080
theorem dM4 (e:o4)(c:Int):ca9 (beg e c)=true:=by unfold beg;exact br4.2 (by omega)
theorem eh3 (e:o4)(c:Int):ew5 (j7 (cen e c+5760)) 46080=beg e c:=by
 have:=da8 e c
 rw[j4 (by omega) (by omega),do7 (by omega)];rfl
def isC (x:B4):Bool:=x.Kind==1||x.Kind==2
def isV (x:B4):Bool:=x.Kind==3||x.Kind==4
def dD2 (begin:Int)(W:List B4):Bool:=(dW9 begin (W.filter isC) (-1)&&kpP 1 2 ((W.filter isC).map kp) 0 1)&&(dW9 begin (W.filter isV) (-1)&&kpP 3 4 ((W.filter isV).map kp) 0 3)
def dB8 (e:o4)(f:A0)(begin t:Int):List B4:=bif (bf0 e [f] t).2 !=0 then []else bif dD2 begin (dm2 begin (bf0 e [f] t).1)then dm2 begin (bf0 e [f] t).1 else []
theorem dm7 {e:o4}{f:A0}{t:Int}(he:aD7 e)(hf:be0 e f)(h:((bf0 e [f] t).2 !=0)=false):(bf0 e [f] t).1.Perm (evs e t f):=by
 unfold bf0 at h|-
 rw[fi1 he]at h|-
 simp only[aX3,fh8]at h|-
 cases h1:dU4 e [f]<;>rw[h1]at h
 ·simp only[fh8]at h|-
  cases h2:!ev6 t<;>rw[h2]at h
  ·simp only[fh8]at h|-
   cases h3:eA0 [f]<;>rw[h3]at h
   ·simp only[fh8]at h|-
    cases h4:[f].any (dl2 t)<;>rw[h4]at h
    ·simp only[fh8]
     have:=eu1 ([f].flatMap (evs e t))
     simpa using this
    ·simp at h
   ·simp at h
  ·simp at h
 ·simp at h
theorem cS2 (begin:Int)(hb:ca9 begin=true):∀(l:List B4) (i:Int) (out:List a7),(∀x∈l,Ev.evP x)->out.length+l.length<=1000->L7 (aj0 begin) l i out=some (.inl (out++l.map (plJ begin)))
 |[],i,out,_,_=>by simp[L7]
 |x::l,i,out,h,hl=>by
  rw[bv4]at hl
  have hx:=h x (bN8 ..)
  have hst:aj0 begin i x out=some (.next (out++[plJ begin x])):=by
   unfold aj0
   rw[dj6 hb (br4.2 hx.1)]
   simp only[aD6]
   rw[H5 _ _ (by simp only[bv4,cV7];omega)]
   rfl
  simp only[L7,hst,aD6]
  rw[cS2 begin hb l (i+1) _ (fun y hy=>h y (bZ9 _ hy)) (by simp only[aZ7,bv4,cV7];omega)]
  simp
theorem eM0 (begin:Int)(W:List B4)(hW:W.length<=1000):J7 (T0 (W.map (plJ begin))) 0=some (bif dD2 begin W then .inl 2 else .inr ([],false)):=by
 have hl:(W.map (plJ begin)).length<=1000:=by rw[cV9];exact hW
 have k0:=cf4 begin 1 2 W 0 (-1) 0 1 (.inl rfl) (by omega) (by omega)
 have k1:=cf4 begin 3 4 W 0 (-1) 0 3 (.inl rfl) (by omega) (by omega)
 have f0:(fun x:B4=>x.Kind==1||x.Kind==2)=isC:=rfl
 have f1:(fun x:B4=>x.Kind==3||x.Kind==4)=isV:=rfl
 rw[f0]at k0
 rw[f1]at k1
 unfold dD2
 rcases k0 with⟨a,s,b⟩|⟨a,b⟩
 ·rw[a]
  have st0:T0 (W.map (plJ begin)) 0=some (.inl 1):=by
   unfold T0
   rw[show C9 ([(1,2),(3,4)]:List (Int×Int)) 0=some (1,2)from rfl]
   simp only[show decide ((0:Int)<2)=true from rfl,fi0,aD6]
   rw[K4 _ (by omega),b]
   rfl
  rw[G6 st0]
  rcases k1 with⟨c,s',d⟩|⟨c,d⟩
  ·rw[c]
   have st1:T0 (W.map (plJ begin)) 1=some (.inl 2):=by
    unfold T0
    rw[show C9 ([(1,2),(3,4)]:List (Int×Int)) 1=some (3,4)from rfl]
    simp only[show decide ((1:Int)<2)=true from rfl,fi0,aD6]
    rw[K4 _ (by omega),d]
    rfl
   rw[G6 st1]
   exact D7 rfl
  ·rw[c]
   refine D7 ?_
   unfold T0
   rw[show C9 ([(1,2),(3,4)]:List (Int×Int)) 1=some (3,4)from rfl]
   simp only[show decide ((1:Int)<2)=true from rfl,fi0,aD6]
   rw[K4 _ (by omega),d]
   rfl
 ·rw[a]
  refine D7 ?_
  unfold T0
  rw[show C9 ([(1,2),(3,4)]:List (Int×Int)) 0=some (1,2)from rfl]
  simp only[show decide ((0:Int)<2)=true from rfl,fi0,aD6]
  rw[K4 _ (by omega),b]
  rfl
theorem eu0 {e:o4}{f:A0}{begin t:Int}(he:aD7 e)(hf:be0 e f)(hb:ca9 begin=true):∃b,aq9 e f begin t=some ((dB8 e f begin t).map (plJ begin),b)/\(b=false->dB8 e f begin t=[]):=by
 unfold aq9 dB8
 rw[eE3 e [f] t (by simp)]
 simp only[aD6]
 cases h:(bf0 e [f] t).2 !=0
 ·have hp:=dm7 he hf h
  have hlen:=hp.length_eq
  have h6:=cH6 e t f
  have hQ:∀x∈(bf0 e [f] t).1,Ev.evP x:=fun x hx=>(dG4 he hf x (hp.mem_iff.1 hx)).1
  have hwl:=(cw3 begin (bf0 e [f] t).1).length_eq
  simp only[fh8]
  rw[K4 _ (by omega),cS2 begin hb _ 0 [] hQ (by simp only[cV7];omega)]
  simp only[aD6,cW3]
  rw[er0 begin _ (by omega) hQ]
  simp only[aD6]
  rw[eM0 begin _ (by omega)]
  cases dD2 begin (dm2 begin (bf0 e [f] t).1)
  ·exact⟨false,rfl,fun _=>rfl⟩
  ·exact⟨true,rfl,fun h=>by cases h⟩
 ·exact⟨false,rfl,fun _=>rfl⟩
theorem el3 {W:List B4}{cyl:Int}(h:∀x∈W,Ev.evP x/\x.o9=cyl):(W.filter fun x=>chn x==2*(cyl-1))=W.filter isC/\(W.filter fun x=>chn x==2*(cyl-1)+1)=W.filter isV:=by
 constructor
 ·refine List.filter_congr fun x hx=>?_
  obtain⟨hk,hc⟩:=h x hx
  unfold chn isC
  rw[hc]
  have:=hk.2.1
  by_cases h3:x.Kind=3\/x.Kind=4
  ·rw[if_pos h3,dG1];simp;omega
  ·rw[if_neg h3,dG1];simp;omega
 ·refine List.filter_congr fun x hx=>?_
  obtain⟨hk,hc⟩:=h x hx
  unfold chn isV
  rw[hc]
  have:=hk.2.1
  by_cases h3:x.Kind=3\/x.Kind=4
  ·rw[if_pos h3,dG1];simp;omega
  ·rw[if_neg h3,dG1];simp;omega
theorem dX5 {e:o4}{f:A0}{t:Int}{W:List B4}(hp:W.Perm (evs e t f)):((W.filter isC).map kp).Perm cM9/\((W.filter isV).map kp).Perm (bo4 (pul f)):=by
 have hm:(W.map kp).Perm (cM9++bo4 (pul f)):=by rw[<-eN7 e f t];exact hp.map kp
 have c1:(W.filter isC).map kp=(W.map kp).filter eH8:=by rw[fg2];rfl
 have c2:(W.filter isV).map kp=(W.map kp).filter ew8:=by rw[fg2];rfl
 rw[c1,c2]
 constructor
 ·refine(hm.filter eH8).trans ?_
  rcases bi4 f with h|h|h<;>(rw[h];exact List.Perm.refl _)
 ·refine(hm.filter ew8).trans ?_
  rcases bi4 f with h|h|h<;>(rw[h];exact List.Perm.refl _)
def dR9 (c:D8):Int:=upV (23040*c.E9) c.X1
theorem ev7 {c:D8}(h:bA6 c)(hv:c.V6=true)(hb:bM4 c=true):aE2 c 23040=some (dR9 c,0):=by
 have h1:=h.p0;have h2:=h.p1;have h3:=h.s0;have h4:=h.s1
 unfold aE2 aK1
 rw[dF2,hb,hv]
 simp only[aD6,aX3,fh8]
 rw[show((0:Int) !=0)=false from rfl,show((decide ((23040:Int)<0))||(decide ((23040:Int)>46080)))=false from rfl]
 simp only[fh8]
 rw[j4 (by omega) (by omega)]
 unfold bk9 am4
 rw[bW2 _ _ 2 (by omega) (by omega) (by omega) (by omega) (.inr rfl)]
 rfl
theorem bE9 {e:o4}{l:List A0}(h:aV5 e l=true):∀f∈l,be0 e f:=by
 intro f hf
 obtain⟨i,hi,rfl⟩:=cY2.1 hf
 have:=ca6.1 h i hi
 unfold cy4 at this
 rw[aW5 hi]at this
 simp only[aI9,fi3]at this
 exact this.1
theorem cy5 {e:o4}{l:List A0}(h:aV5 e l=true):l.Pairwise fun a b=>a.o9≠b.o9:=by
 rw[List.pairwise_iff_getElem]
 intro i j hi hj hij
 have:=ca6.1 h j hj
 unfold cy4 at this
 rw[aW5 hj]at this
 simp only[aI9,ck7,dC3,beq_iff_eq]at this
 refine this.2 l[i] ?_
 rw[List.mem_take_iff_getElem]
 exact⟨i,by omega,rfl⟩
theorem filter_none {c:Int}:∀{l:List A0},(∀y∈l,y.o9≠c)->(l.filter fun f=>f.o9==c)=[]:=by
 intro l h
 rw[eA8]
 intro y hy
 simpa using h y hy
theorem cl6 (c:Int):∀{l:List A0},(l.Pairwise fun a b=>a.o9≠b.o9)->(l.findIdx? (fun f=>f.o9==c)=none/\(l.filter fun f=>f.o9==c)=[])\/∃k f,l.findIdx? (fun f=>f.o9==c)=some k/\k<l.length/\l[k]? =some f/\f.o9=c/\(l.filter fun f=>f.o9==c)=[f]
 |[],_=>.inl ⟨rfl,rfl⟩
 |x::l,h=>by
  rw[List.pairwise_cons]at h
  rw[fg6]
  cases hx:x.o9==c
  ·rw[eY3 (by simp[hx])]
   simp only[do8,if_false]
   rcases cl6 c h.2 with⟨a,b⟩|⟨k,f,a,b,d,e,g⟩
   ·exact .inl ⟨by rw[a];rfl,b⟩
   ·exact .inr ⟨k+1,f,by rw[a];rfl,by simpa using b,by simpa using d,e,g⟩
  ·rw[dZ1 (by simp[hx])]
   simp only[if_true]
   have hxc:x.o9=c:=beq_iff_eq.1 hx
   exact .inr ⟨0,x,rfl,by simp,rfl,hxc,by rw[filter_none fun y hy=>by rw[<-hxc];exact(h.1 y hy).symm]⟩
theorem el4 (l:List A0)(hl:l.length<=1000000)(c:Int):H2 l (fun x0=>Y0 x0 c)=some (match l.findIdx? (fun f=>f.o9==c)with|some k=>(k:Int)|none=>-1):=by
 unfold H2 N6
 rw[bb6 l (by omega) (fun(i:Int) x (_:Unit)=>ai2 (Y0 x c) fun v=>bif v then(some (Fl.ret i))else(some (Fl.next ())))]
 have:=bI1 (fun x=>Y0 x c) (fun f:A0=>f.o9==c) l 0 (fun _ _=>rfl)
 rw[show((0:Nat):Int)=0 from rfl]at this
 rw[this]
 cases l.findIdx? (fun f=>f.o9==c)with
 |none=>rfl
 |some k=>simp
def shJ (v begin:Int)(x:B4):A4:=⟨x,v+dst begin x.G7,false,0⟩
def dD7 (e:o4)(v t:Int)(f:A0):List A4:=(dB8 e f (beg e f.o9) t).map (shJ v (beg e f.o9))
def ch9 (e:o4)(k:D8)(next:List A0)(t x:Int):List A4:=
 bif decide (dst k.G7 (beg e x)>=k.am3)then []else(next.filter fun f=>f.o9==x).flatMap (dD7 e (dst k.G7 (beg e x)) t)
theorem cq6 {e:o4}{f:A0}{begin t:Int}(he:aD7 e)(hf:be0 e f):(dB8 e f begin t).length<=6/\∀x∈dB8 e f begin t,Ev.evP x/\x.o9=f.o9:=by
 unfold dB8
 cases h:(bf0 e [f] t).2 !=0
 ·have hp:=dm7 he hf h
  have hop:=(cw3 begin (bf0 e [f] t).1).trans hp
  have h6:=cH6 e t f
  simp only[fh8]
  cases dD2 begin (dm2 begin (bf0 e [f] t).1)
  ·simp
  ·refine⟨by rw[fi0,hop.length_eq];exact h6,fun x hx=>dG4 (t:=t) he hf x (hop.mem_iff.1 hx)⟩
 ·simp
theorem cK0 (v begin:Int)(hv:0<=v/\v<=46080):∀(W:List B4) (i:Int) (out:List A4),out.length+W.length<=100000->L7 (ag2 v) (W.map (plJ begin)) i out=some (.inl (out++W.map (shJ v begin)))
 |[],i,out,_=>by simp[L7]
 |x::W,i,out,hl=>by
  rw[bv4]at hl
  have hd:0<=dst begin x.G7/\dst begin x.G7<46080:=by unfold dst;omega
  have hst:ag2 v i (plJ begin x) out=some (.next (out++[shJ v begin x])):=by
   unfold ag2 plJ
   simp only
   rw[H5 _ _ (by simp only[bv4,cV7];omega),j4 (by omega) (by omega)]
   rfl
  simp only[cW0,L7,hst,aD6]
  rw[cK0 v begin hv W (i+1) _ (by simp only[aZ7,bv4,cV7];omega)]
  simp
theorem dE4 {s:c8}{r2:Int×Int}(he:aD7 s.u4)(hk:bA6 s.A1)(hw:aV5 s.u4 s.Next=true)(hn:s.Next.length<=1000000)(i x:Int)(hx:x∈s.u4.z8)(out:List A4)(ho:out.length<=10000):
  ag1 s r2 i x out=some (.next (out++ch9 s.u4 s.A1 s.Next r2.1 x)):=by
 have ha:ca9 s.A1.G7=true:=br4.2 ⟨hk.an0,hk.an1⟩
 unfold ag1
 rw[dS6,fi1 he,fi1 hx]
 simp only[aX3,fh8,aD6,eh3]
 rw[dj6 ha (dM4 ..),el4 _ hn]
 simp only[aD6]
 unfold ch9
 cases hv:decide (dst s.A1.G7 (beg s.u4 x)>=s.A1.am3)
 ·have hd:0<=dst s.A1.G7 (beg s.u4 x)/\dst s.A1.G7 (beg s.u4 x)<=46080:=by unfold dst;omega
  rcases cl6 x (cy5 hw)with⟨a,b⟩|⟨k,f,a,b,d,e,g⟩
  ·rw[a,b]
   simp
  ·have hf:=bE9 hw f (do6 d)
   obtain⟨ok,p1,p2⟩:=eu0 (t:=r2.1) he hf (dM4 s.u4 x)
   have hwl:=cq6 (begin:=beg s.u4 x) (t:=r2.1) he hf
   rw[a,g]
   simp only[ed0,show decide (((k:Nat):Int)<0)=false from fi2 (by omega),fh8,T3,d,aD6]
   rw[p1]
   simp only[aD6,eJ6,fh1,dh6]
   unfold dD7
   rw[e]
   cases ok
   ·rw[p2 rfl];simp
   ·simp only[aX3,fh8]
    rw[K4 _ (by rw[cV9];omega),cK0 _ _ hd _ _ _ (by omega)]
    rfl
 ·simp
theorem da2 {s:c8}{r2:Int×Int}(he:aD7 s.u4)(hk:bA6 s.A1)(hw:aV5 s.u4 s.Next=true)(hn:s.Next.length<=1000000):∀(l:List Int) (i:Int) (out:List A4),(∀x∈l,x∈s.u4.z8)->out.length+6*l.length<=10000->
  L7 (ag1 s r2) l i out=some (.inl (out++l.flatMap (ch9 s.u4 s.A1 s.Next r2.1)))
 |[],i,out,_,_=>by simp[L7]
 |x::l,i,out,h,ho=>by
  rw[bv4]at ho
  have hx:=h x (bN8 ..)
  have hal:(ch9 s.u4 s.A1 s.Next r2.1 x).length<=6:=by
   unfold ch9
   cases decide (dst s.A1.G7 (beg s.u4 x)>=s.A1.am3)
   ·rcases cl6 x (cy5 hw)with⟨a,b⟩|⟨k,f,a,b,d,e,g⟩
    ·rw[b];simp
    ·have hf:=bE9 hw f (do6 d)
     rw[g]
     simp only[fh8,eJ6,fh1,dh6]
     unfold dD7
     rw[cV9]
     exact(cq6 he hf).1
   ·simp
  simp only[L7,dE4 he hk hw hn i x hx out (by omega),aD6]
  rw[da2 he hk hw hn l (i+1) _ (fun y hy=>h y (bZ9 _ hy)) (by rw[aZ7];omega)]
  rw[eJ6,dp3]
theorem bA9 {s:c8}(he:aD7 s.u4)(hk:bA6 s.A1)(hv:s.A1.V6=true)(hb:bM4 s.A1=true)(hw:aV5 s.u4 s.Next=true)(hn:s.Next.length<=1000000)(hj:s.G3.length<=1000):
  ah1 s=some ⟨s.u4,s.A1,s.j9,s.Next,s.G3++s.u4.z8.flatMap (ch9 s.u4 s.A1 s.Next (dR9 s.A1)),s.Cut⟩:=by
 have hn8:=he.2.1
 unfold ah1
 rw[ev7 hk hv hb]
 simp only[aD6]
 rw[K4 _ (by omega),da2 he hk hw hn _ 0 _ (fun _ h=>h) (by omega)]
 rfl
theorem ef0 {e:o4}{k:D8}{l:List A0}{t x:Int}(he:aD7 e)(hw:aV5 e l=true):(ch9 e k l t x).length<=6:=by
 unfold ch9
 cases decide (dst k.G7 (beg e x)>=k.am3)
 ·rcases cl6 x (cy5 hw)with⟨a,b⟩|⟨k,f,a,b,d,e,g⟩
  ·rw[b];simp
  ·have hf:=bE9 hw f (do6 d)
   rw[g]
   simp only[fh8,eJ6,fh1,dh6]
   unfold dD7
   rw[cV9]
   exact(cq6 he hf).1
 ·simp
def aR9 (d:Int)(j:A4):A4:=⟨j.Event,G4 (-1048576) (j.Left-d),j.D6,j.At⟩
theorem cC4 (d:Int)(hd:0<=d/\d<=46080):∀(r p:List A4),(∀j∈r,-1048576<=j.Left/\j.Left<=1048576)->
  aW3 (aa0 d) r.length (p.length:Int) (p++r)=some (.inl (p++r.map (aR9 d)))
 |[],p,_=>rfl
 |j::r,p,h=>by
  have hj:=h j (bN8 ..)
  have hst:aa0 d (p.length:Int) (p++j::r)=some (.next (p++aR9 d j::r)):=by
   unfold aa0
   rw[dO2]
   simp only[aD6]
   rw[j4 (n:=j.Left-d) (by omega) (by omega),es8]
   rfl
  simp only[bv4,aW3,hst,aD6]
  have:=cC4 d hd r (p++[aR9 d j]) (fun k hk=>h k (bZ9 _ hk))
  rw[dp3,aZ7]at this
  rw[show((p.length:Int)+1)=((p.length+[aR9 d j].length:Nat):Int) by simp]
  rw[show p++aR9 d j::r=p++([aR9 d j]++r)from rfl,this]
  simp
theorem ca7 {w:List A4}(hw:alt w false=true):∀{l:List A4}{lv:Bool},alt l lv=true->alt (l++w) lv=true
 |[],lv,h=>by
  have:lv=false:=by simpa[alt]using h
  subst this;exact hw
 |j::l,lv,h=>by
  simp only[alt,aI9]at h
  simp only[dH3,alt,aI9]
  exact⟨h.1,ca7 hw h.2⟩
theorem dJ4 {w l:List A4}{x:j5}(hw:alt w false=true)(h:aH8 l x=true):aH8 (l++w) x=true:=by
 cases l with
 |nil=>
  simp only[aH8,aI9,ck7]at h
  cases w with
  |nil=>simp[aH8,h.1,h.2]
  |cons j r=>
   simp only[alt,aI9,ck7]at hw
   simp only[cW3,aH8,h.1,h.2,hw.1.1,hw.1.2,hw.2]
   rfl
 |cons j r=>
  simp only[aH8,aI9]at h
  simp only[dH3,aH8,aI9]
  exact⟨h.1,ca7 hw h.2⟩
theorem dl0 (c:Nat)(v begin:Int):∀(F:List B4) (i:Nat),kpR c (F.map kp) i=true->(i+F.length)%2=0->alt (F.map (shJ v begin)) (i%2==1)=true
 |[],i,_,h=>by
  have:(i%2==1)=false:=beq_eq_false_iff_ne.2 (by simp at h;omega)
  rw[this];rfl
 |x::F,i,h,hp=>by
  simp only[cW0,kpR,aI9]at h
  simp only[bv4]at hp
  have ih:=dl0 c v begin F (i+1) h.2 (by omega)
  have e:(!(i%2==1))=((i+1)%2==1):=by
   rcases Nat.mod_two_eq_zero_or_one i with h2|h2
   ·rw[h2,show(i+1)%2=1 by omega];rfl
   ·rw[h2,show(i+1)%2=0 by omega];rfl
  have h1:=h.1.1
  simp only[cW0,alt]
  rw[e,ih]
  have e2:(i%2==0)= !(i%2==1):=by
   rcases Nat.mod_two_eq_zero_or_one i with h2|h2<;>rw[h2]<;>rfl
  rw[e2]at h1
  have hk:(kp x).1=x.Kind:=rfl
  rw[hk]at h1
  unfold shJ
  simp only
  revert h1
  cases onK x.Kind<;>cases(i%2==1)<;>simp
theorem eD2 (v begin:Int)(W:List B4)(c:Int):aq1 (W.map (shJ v begin)) c=(W.filter fun x=>chn x==c).map (shJ v begin):=by
 unfold aq1
 rw[fg2]
 rfl
theorem dG5 {W:List B4}{cyl c:Int}(h:∀x∈W,Ev.evP x/\x.o9=cyl)(h0:c≠2*(cyl-1))(h1:c≠2*(cyl-1)+1):(W.filter fun x=>chn x==c)=[]:=by
 rw[eA8]
 intro x hx
 obtain⟨_,hc⟩:=h x hx
 unfold chn
 rw[hc]
 split<;>simp<;>omega
theorem ee7 {e:o4}{f:A0}{v t:Int}(he:aD7 e)(hf:be0 e f)(c:Int):alt (aq1 (dD7 e v t f) c) false=true:=by
 unfold dD7 dB8
 cases h:(bf0 e [f] t).2 !=0
 ·have hp:=dm7 he hf h
  have hop:=(cw3 (beg e f.o9) (bf0 e [f] t).1).trans hp
  simp only[fh8]
  cases ha:dD2 (beg e f.o9) (dm2 (beg e f.o9) (bf0 e [f] t).1)
  ·rfl
  ·simp only[fi0]
   generalize hW:dm2 (beg e f.o9) (bf0 e [f] t).1=W at ha hop
   have hE:∀x∈W,Ev.evP x/\x.o9=f.o9:=fun x hx=>dG4 (t:=t) he hf x (hop.mem_iff.1 hx)
   have hk:=dX5 hop
   have fl:=el3 hE
   unfold dD2 at ha
   rw[eC7 hk.1,en9 (pul f) (bi4 f) hk.2]at ha
   simp only[aI9]at ha
   rw[eD2]
   by_cases h0:c=2*(f.o9-1)
   ·subst h0
    rw[fl.1]
    have l2:=hk.1.length_eq
    rw[cV9]at l2
    exact dl0 0 v _ _ 0 ha.1.2 (by rw[l2];rfl)
   ·by_cases h1:c=2*(f.o9-1)+1
    ·subst h1
     rw[fl.2]
     have l2:=hk.2.length_eq
     rw[cV9]at l2
     refine dl0 1 v _ _ 0 ha.2.2 ?_
     rw[l2]
     rcases bi4 f with h|h|h<;>(rw[h];rfl)
    ·rw[dG5 hE h0 h1];rfl
 ·rfl
theorem cO9 {α:Type}(g:α->List A4)(c:Int):∀(l:List α),(∀x∈l,alt (aq1 (g x) c) false=true)->alt (aq1 (l.flatMap g) c) false=true
 |[],_=>rfl
 |x::l,h=>by
  rw[eJ6,aR4]
  exact ca7 (cO9 g c l fun y hy=>h y (bZ9 _ hy)) (h x (bN8 ..))
theorem ee8 {e:o4}{k:D8}{l:List A0}{t x:Int}(he:aD7 e)(hw:aV5 e l=true)(c:Int):alt (aq1 (ch9 e k l t x) c) false=true:=by
 unfold ch9
 cases decide (dst k.G7 (beg e x)>=k.am3)
 ·exact cO9 _ c _ fun f hf=>ee7 he (bE9 hw f (dM7.1 hf).1) c
 ·rfl
theorem ee9 {e:o4}{k:D8}{l:List A0}{t x:Int}(he:aD7 e)(hw:aV5 e l=true):∀j∈ch9 e k l t x,aJ9 e.z8.length j:=by
 intro j hj
 unfold ch9 at hj
 cases hv:decide (dst k.G7 (beg e x)>=k.am3)<;>rw[hv]at hj
 ·simp only[fh8,List.mem_flatMap]at hj
  obtain⟨f,hf,hj⟩:=hj
  have hff:=bE9 hw f (dM7.1 hf).1
  unfold dD7 at hj
  obtain⟨y,hy,rfl⟩:=da1.1 hj
  obtain⟨h1,h2⟩:=(cq6 he hff).2 y hy
  have hc:=dN6 he hff.1
  refine⟨by unfold shJ;simp only;rw[h2];exact hc,h1.2.1,h1.1,h1.2.2.2,?_,.inr rfl⟩
  unfold shJ dst;simp only;omega
 ·simp at hj
theorem cZ9 (d:Int):∀(l:List A4) (lv:Bool),alt (l.map (aR9 d)) lv=alt l lv
 |[],_=>rfl
 |j::l,lv=>by
  simp only[cW0,alt,cZ9 d l]
  rfl
theorem eb2 (d:Int)(l:List A4)(x:j5):aH8 (l.map (aR9 d)) x=aH8 l x:=by
 cases l with
 |nil=>rfl
 |cons j r=>simp only[cW0,aH8,cZ9 d r];rfl
theorem dV4 (d now:Int)(l:List A4):bs7 now (l.map (aR9 d))=bs7 now l:=by
 match l with
 |[]=>rfl
 |[j]=>rfl
 |i::j::r=>rfl
theorem cQ7 (d:Int)(l:List A4)(c:Int):aq1 (l.map (aR9 d)) c=(aq1 l c).map (aR9 d):=by
 unfold aq1
 rw[fg2]
 rfl
theorem dX4 {n:Nat}{d:Int}{j:A4}(hd:0<=d/\d<=46080)(h:aJ9 n j):aJ9 n (aR9 d j):=by
 have hl:=h.left
 refine⟨h.cyl,h.kind,h.ef6,h.bS6,?_,h.at0⟩
 unfold aR9 G4
 simp only
 split<;>omega
theorem dK1 {n:Nat}{now d:Int}{ch:List j5}{l:List A4}(hd:0<=d/\d<=46080)(h:Rows n now (ch,l)):Rows n now (ch,l.map (aR9 d)):=by
 refine⟨h.len,h.ch,fun j hj=>?_,fun c hc=>?_⟩
 ·obtain⟨k,hk,rfl⟩:=da1.1 hj
  exact dX4 hd (h.job k hk)
 ·have:=h.row c hc
  simp only at this|-
  rw[cQ7,eb2];exact this
theorem dY8 {n:Nat}{now:Int}{ch:List j5}{l w:List A4}(h:Rows n now (ch,l))(hj:∀j∈w,aJ9 n j)(hw:∀c,alt (aq1 w c) false=true):Rows n now (ch,l++w):=by
 refine⟨h.len,h.ch,fun j hj2=>?_,fun c hc=>?_⟩
 ·rcases do5.1 hj2 with h2|h2
  ·exact h.job j h2
  ·exact hj j h2
 ·have:=h.row c hc
  simp only at this|-
  rw[aR4]
  exact dJ4 (hw _) this
def cq7:c8:=⟨(⟨([]:List Int),0⟩:o4),(⟨false,0,0,0,0,0⟩:D8),(⟨0,([]:List j5)⟩:u0),([]:List A0),([]:List A4),false⟩
def bg0 (s:c8)(c:D8)(l:List A4):List A4:=bif s.A1.V6 then l.map (aR9 (dst s.A1.G7 c.G7))else l
def mk (s:c8)(c:D8)(l:List A4):c8:=⟨s.u4,c,s.j9,s.Next,l,s.Cut⟩
def bS2 (s:c8)(c:D8)(g:c8):List A4:=bg0 s c g.G3++g.u4.z8.flatMap (ch9 g.u4 c g.Next (dR9 c))
def do2 (s:c8)(c:D8)(g:List j6×c8):c8×List j6×Int:=
 bif g.2.Cut then(mk g.2 c (bg0 s c g.2.G3),g.1,0)else bif decide (((bS2 s c g.2).length:Int)>200)then(cq7,[],5)else(bL9 (mk g.2 c (bS2 s c g.2)),g.1,0)
def aW4 (s:c8)(c:D8):c8×List j6×Int:=
 bif !co8 s|| !bM4 c then(cq7,[],1)else bif !c.V6 then(cq7,[],6)else bif decide (c.At<s.j9.T1)then(cq7,[],16)else do2 s c (goE c.At s)
theorem ez5 {s:c8}(h:aM9 s)(hv:s.A1.V6=true):ca9 s.A1.G7=true:=br4.2 ⟨(db4 h.clk hv).an0,(db4 h.clk hv).an1⟩
theorem dc6 {e:o4}{k:D8}{next:List A0}{t:Int}(he:aD7 e)(hw:aV5 e next=true):∀l:List Int,(l.flatMap (ch9 e k next t)).length<=6*l.length
 |[]=>by simp
 |x::l=>by
  have:=dc6 (k:=k) (t:=t) he hw l
  have:=ef0 (k:=k) (t:=t) (x:=x) he hw
  rw[eJ6,aZ7,bv4];omega
theorem cm3 (s:c8)(c:D8)(l:List A4):(bg0 s c l).length=l.length:=by
 unfold bg0;cases s.A1.V6<;>simp
structure bo9 (s:c8)(c:D8)(g:List j6×c8):Prop where
 live:Live s.u4.z8.length g.2
 eng:g.2.u4=s.u4
 clk:g.2.A1=s.A1
 next:g.2.Next=s.Next
 cut:g.2.Cut=s.Cut
 now:g.2.j9.T1=c.At
 en1:g.2.G3.length<=200
theorem gone {s:c8}{c:D8}(h:aM9 s)(hc:bA6 c)(hle:s.j9.T1<=c.At):ab1 s c.At=some (goE c.At s)/\bo9 s c (goE c.At s):=by
 obtain⟨h1,h2,h3,h4,h5,h6⟩:=cH9 (.of h) c.At hle hc.at1
 have:=h.most
 exact⟨h1,h2,h3.eng,h3.clk,h3.next,h3.cut,h4,by omega⟩
theorem de1 {s:c8}{c:D8}{g:List j6×c8}(h:bo9 s c g):Rows s.u4.z8.length g.2.j9.T1 (g.2.j9.j1,bg0 s c g.2.G3):=by
 unfold bg0
 cases s.A1.V6
 ·exact h.live.rows
 ·exact dK1 (by unfold dst;omega) h.live.rows
theorem ej8 {s:c8}{c:D8}{g:List j6×c8}(h:bo9 s c g)(hc:bA6 c)(hv:c.V6=true)(aH7:g.2.Cut=true):Live s.u4.z8.length (mk g.2 c (bg0 s c g.2.G3)):=by
 refine⟨h.live.eng,h.live.n1,h.live.n8,de1 h,fun _ ch hch=>?_,h.live.cF9,h.live.dm0,.inr ⟨hv,hc⟩,?_⟩
 ·show bs7 g.2.j9.T1 (aq1 (bg0 s c g.2.G3) (ch:Int))=true
  have:=h.live.cut aH7 ch hch
  unfold bg0
  cases s.A1.V6
  ·exact this
  ·simp only[fi0]
   rw[cQ7,dV4];exact this
 ·show(bg0 s c g.2.G3).length<=1000
  rw[cm3];have:=h.en1;omega
theorem dw4 {s:c8}{c:D8}{g:List j6×c8}(h:bo9 s c g)(hs:aM9 s)(hc:bA6 c)(hv:c.V6=true)(aH7:g.2.Cut=false):Live s.u4.z8.length (mk g.2 c (bS2 s c g.2)):=by
 have he:aD7 g.2.u4:=by rw[h.eng];exact hs.eng
 have hw:aV5 g.2.u4 g.2.Next=true:=by rw[h.eng,h.next];exact hs.cG7
 have hn:g.2.u4.z8.length=s.u4.z8.length:=by rw[h.eng]
 have hn8:=he.2.1
 have h6:=dc6 (k:=c) (t:=dR9 c) he hw g.2.u4.z8
 have hl:=cm3 s c g.2.G3
 have hjb:=h.en1
 refine⟨h.live.eng,h.live.n1,h.live.n8,?_,fun hcc=>?_,h.live.cF9,h.live.dm0,.inr ⟨hv,hc⟩,?_⟩
 ·refine dY8 (de1 h) (fun j hj=>?_) fun ch=>cO9 _ ch _ fun x _=>ee8 he hw ch
  obtain⟨x,_,hx⟩:=List.mem_flatMap.1 hj
  rw[<-hn]
  exact ee9 he hw j hx
 ·have:g.2.Cut=true:=hcc
  rw[aH7]at this;cases this
 ·show(bS2 s c g.2).length<=1000
  unfold bS2
  rw[aZ7];omega
theorem cT7 {s:c8}(h:Live s.u4.z8.length s)(he:aD7 s.u4)(hb:bM4 s.A1=true)(hv:s.A1.V6=true)(hw:aV5 s.u4 s.Next=true)(hm:s.G3.length<=200):aM9 s:=by
 refine⟨he,hb,h.tim,h.len,hw,hm,fun h2=>absurd (hv.symm.trans h2) (by decide),h.rows.job,fun c hc=>?_⟩
 have h1:=h.rows.row c hc
 simp only at h1
 unfold bD5
 rw[h1]
 cases aH7:s.Cut
 ·rfl
 ·rw[h.cut aH7 c hc];rfl
theorem ew0 {s:c8}{c:D8}(h0:(aW4 s c).2.2=0):aM9 (aW4 s c).1:=by
 unfold aW4 at h0|-
 cases h1:!co8 s|| !bM4 c<;>rw[h1]at h0
 ·simp only[fh8]at h0|-
  cases h2:!c.V6<;>rw[h2]at h0
  ·simp only[fh8]at h0|-
   cases h3:decide (c.At<s.j9.T1)<;>rw[h3]at h0
   ·simp only[fh8]at h0|-
    simp only[bN3,ef3]at h1
    have hv:c.V6=true:=by simpa using h2
    have hs:=aY1.1 h1.1
    have hc:=db4 h1.2 hv
    have hle:s.j9.T1<=c.At:=by simpa using h3
    obtain⟨_,hg⟩:=gone hs hc hle
    unfold do2 at h0|-
    cases aH7:(goE c.At s).2.Cut<;>rw[aH7]at h0
    ·simp only[fh8]at h0|-
     cases h4:decide (((bS2 s c (goE c.At s).2).length:Int)>200)<;>rw[h4]at h0
     ·simp only[fh8]
      have hl:=dq2 (dw4 hg hs hc hv aH7)
      have ha:=cr5 (mk (goE c.At s).2 c (bS2 s c (goE c.At s).2))
      have e1:(bL9 (mk (goE c.At s).2 c (bS2 s c (goE c.At s).2))).u4=s.u4:=ha.eng.trans hg.eng
      have e2:(bL9 (mk (goE c.At s).2 c (bS2 s c (goE c.At s).2))).A1=c:=ha.clk
      have e3:(bL9 (mk (goE c.At s).2 c (bS2 s c (goE c.At s).2))).Next=s.Next:=ha.next.trans hg.next
      refine cT7 (by rw[e1];exact hl) (by rw[e1];exact hs.eng) (by rw[e2];exact h1.2) (by rw[e2];exact hv) (by rw[e1,e3];exact hs.cG7) ?_
      have hcf:(mk (goE c.At s).2 c (bS2 s c (goE c.At s).2)).Cut=false:=aH7
      unfold bL9
      rw[hcf]
      simp only[do8,if_false]
      show(cb1 _ _ _ _).2.length<=200
      rw[bA8]
      have:(bS2 s c (goE c.At s).2).length<=200:=by
       have:=of_decide_eq_false h4;omega
      exact this
     ·simp at h0
    ·simp only[fi0]
     have hl:=ej8 hg hc hv aH7
     refine cT7 (by show Live (goE c.At s).2.u4.z8.length _;rw[hg.eng];exact hl) (by show aD7 (goE c.At s).2.u4;rw[hg.eng];exact hs.eng) h1.2 hv (by show aV5 (goE c.At s).2.u4 (goE c.At s).2.Next=true;rw[hg.eng,hg.next];exact hs.cG7) ?_
     show(bg0 s c (goE c.At s).2.G3).length<=200
     rw[cm3];exact hg.en1
   ·simp at h0
  ·simp at h0
 ·simp at h0
theorem dK9 (s:c8)(c:D8)(hn:s.Next.length<=1000000)(hj:s.G3.length<=1000000):
  (ai2 (J4 s) fun v=>(bif (!v)then(some true)else(ai2 (ai5 c) fun v2=>some (!v2))))=some (!co8 s|| !bM4 c):=by
 rw[bb8 s hn hj,dF2]
 cases co8 s<;>rfl
theorem eW4 {α β γ:Type}(x:Option α)(f:α->Option β)(g:β->Option γ):(ai2 x fun v=>ai2 (f v) g)=ai2 (ai2 x f) g:=by cases x<;>rfl
theorem ec0 (s:c8)(c:D8)(hn:s.Next.length<=1000000)(hj:s.G3.length<=1000000):al3 s c=some (aW4 s c):=by
 unfold al3 aW4
 rw[eW4,dK9 s c hn hj]
 simp only[aD6]
 cases h1:!co8 s|| !bM4 c
 ·simp only[fh8]
  cases h2:!c.V6
  ·simp only[fh8]
   cases h3:decide (c.At<s.j9.T1)
   ·simp only[fh8]
    simp only[bN3,ef3]at h1
    have hv:c.V6=true:=by simpa using h2
    have hs:=aY1.1 h1.1
    have hc:=db4 h1.2 hv
    have hle:s.j9.T1<=c.At:=by simpa using h3
    obtain⟨hgo,hg⟩:=gone hs hc hle
    rw[bC3 s hn hj]
    simp only[aD6]
    rw[hgo]
    simp only[aD6]
    unfold do2
    generalize goE c.At s=g at hg
    have hcb:ca9 c.G7=true:=br4.2 ⟨hc.an0,hc.an1⟩
    have hleft:(bif s.A1.V6 then(ai2 (Q5 s.A1.G7 c.G7) fun v4=>ai2 (K5 (g.2.G3.length:Int) (aa0 v4) g.2.G3) fun(t:(List A4)⊕Empty)=>match t with| .inl f3=>(some f3)| .inr r=>r.elim)else(some g.2.G3))=some (bg0 s c g.2.G3):=by
     unfold bg0
     cases hsv:s.A1.V6
     ·rfl
     ·have hjb:=hg.en1
      have:=cC4 (dst s.A1.G7 c.G7) (by unfold dst;omega) g.2.G3 [] (fun j hj=>(hg.live.rows.job j hj).left)
      simp only[fi0]
      rw[dj6 (ez5 hs hsv) hcb]
      simp only[aD6]
      rw[al2 _ (by omega)]
      rw[show((([]:List A4).length:Nat):Int)=0 from rfl,cW3,cW3]at this
      rw[this]
      rfl
    erw [hleft]
    simp only[aD6]
    cases aH7:g.2.Cut
    ·simp only[cJ0,fi0,fh8]
     have hl:=cm3 s c g.2.G3
     have hjb:=hg.en1
     have hb:=bA9 (s:=mk g.2 c (bg0 s c g.2.G3)) (by show aD7 g.2.u4;rw[hg.eng];exact hs.eng) hc hv h1.2 (by show aV5 g.2.u4 g.2.Next=true;rw[hg.eng,hg.next];exact hs.cG7) (by show g.2.Next.length<=1000000;rw[hg.next];exact hn) (by show(bg0 s c g.2.G3).length<=1000;omega)
     have hb':ah1 (⟨(⟨g.2.u4.z8,g.2.u4.ao2⟩:o4),c,(⟨g.2.j9.T1,g.2.j9.j1⟩:u0),g.2.Next,bg0 s c g.2.G3,false⟩:c8)=some (mk g.2 c (bS2 s c g.2)):=by
      have e:(⟨(⟨g.2.u4.z8,g.2.u4.ao2⟩:o4),c,(⟨g.2.j9.T1,g.2.j9.j1⟩:u0),g.2.Next,bg0 s c g.2.G3,false⟩:c8)=mk g.2 c (bg0 s c g.2.G3):=by unfold mk;rw[aH7]
      rw[e,hb];rfl
     rw[hb']
     simp only[aD6]
     have hll:=dw4 hg hs hc hv aH7
     have ha:=dR0 hll.rows (.inr hc) hll.cF9 hll.dm0 hll.n1 hll.n8 (by have:=hll.most;omega)
     show(bif decide (((bS2 s c g.2).length:Int)>200)then _ else _)=_
     cases decide (((bS2 s c g.2).length:Int)>200)
     ·simp only[fh8]
      rw[ha];rfl
     ·rfl
    ·simp only[aX3,fi0,fh8]
     unfold mk
     rw[aH7]
   ·rfl
  ·rfl
 ·rfl
def z0:j5:=⟨false,0,false,false⟩
def k0:D8:=⟨false,0,0,0,0,0⟩
def bN0 (e:o4):c8:=⟨e,k0,⟨0,cG8 (2*e.z8.length) z0⟩,[],[],false⟩
theorem dR3 (e:o4):ao6 e=some (bif decide (aD7 e)then(bN0 e,0)else(cq7,1)):=by
 unfold ao6
 rw[Ev.an8]
 cases hd:decide (aD7 e)
 ·rfl
 ·have he:=of_decide_eq_true hd
  have h1:=he.1;have h2:=he.2.1
  simp only[aD6,aX3,fh8]
  rw[j4 (n:=2*(e.z8.length:Int)) (by omega) (by omega),show 2*(e.z8.length:Int)=((2*e.z8.length:Nat):Int) by omega,Tm.eQ3 _ (by omega) (by omega)]
  simp only[aD6]
  unfold O0 bb0
  rw[H5 _ _ (by simp;omega)]
  rfl
def ex2 (s:c8)(l:List A0):c8:=⟨s.u4,s.A1,s.j9,l,s.G3,s.Cut⟩
theorem eu9 (s:c8)(l:List A0)(hn:s.Next.length<=1000000)(hj:s.G3.length<=1000000)(hl:l.length<=1000000):aq6 s l=some (bif co8 s&&aV5 s.u4 l then(ex2 s l,0)else(cq7,1)):=by
 unfold aq6
 rw[bb8 s hn hj]
 cases hd:co8 s
 ·rfl
 ·have hs:=aY1.1 hd
  simp only[aD6,aX3,fh8]
  rw[dh0 _ _ hs.eng hl]
  cases aV5 s.u4 l
  ·rfl
  ·simp only[aD6,aX3,fh8]
   rw[bC3 s hn hj]
   simp only[aD6]
   unfold T5
   rw[H5 _ _ (by simp;omega)]
   rfl
def e1:o4:=⟨[1],0⟩
def f1:A0:=⟨1,640,2000,0,0,0,0⟩
def c1:D8:=⟨true,1000,5760,1000,384,384⟩
def c2:D8:=⟨true,2000,44544,1000,384,384⟩
def xa:B4:=⟨45440,2,1,0⟩
def xb:B4:=⟨44672,1,1,0⟩
def s1:c8:=ex2 (bN0 e1) [f1]
def g1:c8:=put s1 1000 (s1.j9.j1,[])
def s2:c8:=bL9 (mk g1 c1 [shJ 0 5760 xb,shJ 0 5760 xa])
def g2:c8:=put s2 2000 (s2.j9.j1,s2.G3)
def s3:c8:=bL9 (mk g2 c2 [aR9 38784 (shJ 0 5760 xb),aR9 38784 (shJ 0 5760 xa)])
theorem dl7 {e:o4}(h:aD7 e):aM9 (bN0 e):=by
 have h1:=h.1;have h2:=h.2.1
 have hl:Live e.z8.length (bN0 e):=by
  refine⟨rfl,h1,h2,⟨by simp[bN0],fun x hx=>?_,fun j hj=>by simp[bN0]at hj,fun c hc=>?_⟩,fun hc=>by simp[bN0]at hc,by simp[bN0],by simp[bN0],.inl ⟨rfl,rfl⟩,by simp[bN0]⟩
  ·have:x=z0:=by simp only[bN0]at hx;exact eX8 hx
   subst this
   show Tm.chB 0 z0=true
   decide
  ·have:(bN0 e).j9.j1[c]=z0:=by simp only[bN0,fc0]
   simp only
   rw[this];rfl
 refine⟨h,rfl,hl.tim,hl.len,rfl,by simp[bN0],fun _=>rfl,hl.rows.job,fun c hc=>?_⟩
 have hr:=hl.rows.row c hc
 simp only at hr
 unfold bD5
 rw[hr];rfl
theorem dT5 (l:List j5)(hl:l.length<=1000000)(f:j5->Option Bool)(hf:∀x,f x=some x.K2):G1 l f=some (l.any fun x=>x.K2):=by
 unfold G1 Q7 V0
 exact ah7 l (by omega) f (fun x=>x.K2) (fun y _=>hf y)
def ep9 (s:c8):c8:=⟨s.u4,s.A1,s.j9,s.Next,s.G3,false⟩
theorem dK3 (s:c8)(hn:s.Next.length<=1000000)(hj:s.G3.length<=1000000)(hc:s.j9.j1.length<=1000000):ac3 s=some (bif !co8 s then(cq7,1)else bif !s.Cut||s.j9.j1.any fun x=>x.K2 then(cq7,6)else(ep9 s,0)):=by
 unfold ac3
 rw[bb8 s hn hj]
 cases co8 s
 ·rfl
 ·simp only[aD6,aX3,fh8]
  cases aH7:s.Cut
  ·rfl
  ·rw[dT5 _ hc ag0 (fun _=>rfl)]
   simp only[aD6,aX3,fh8,ed0]
   cases s.j9.j1.any fun x=>x.K2
   ·simp only[fh8]
    rw[bC3 s hn hj]
    rfl
   ·rfl
theorem dN0 {n:Nat}{s:c8}(h:Live n s)(aH7:s.Cut=true){c:Nat}(hc:c<s.j9.j1.length):
  (aq1 s.G3 (c:Int)=[]/\s.j9.j1[c].K2=false/\s.j9.j1[c].D6=false)\/
  (∃j,aq1 s.G3 (c:Int)=[j]/\j.Event.Kind=2/\j.D6=true/\s.j9.j1[c].D6=true/\s.j9.j1[c].K2=true/\s.j9.j1[c].Next=false/\s.j9.j1[c].At=j.At/\j.At<=s.j9.T1+5000):=by
 have hr:=h.rows.row c hc
 have hk:=h.cut aH7 c hc
 simp only at hr
 match hm:aq1 s.G3 (c:Int)with
 |[]=>
  rw[hm]at hr
  simp only[aH8,aI9,ck7]at hr
  exact .inl ⟨rfl,hr.1,hr.2⟩
 |[j]=>
  rw[hm]at hr hk
  simp only[bs7,aI9,beq_iff_eq,fi3]at hk
  simp only[aH8,aI9,ck7,cI5,beq_iff_eq]at hr
  obtain⟨⟨⟨h1,h2⟩,h3⟩,_⟩:=hr
  obtain⟨⟨k1,k2⟩,k3⟩:=hk
  have hl:s.j9.j1[c].K2=true:=by
   have ho:onK j.Event.Kind=false:=by rw[k1];rfl
   rw[ho]at h1
   cases hx:s.j9.j1[c].K2
   ·rw[hx]at h1;simp at h1
   ·rfl
  have h3':j.At=s.j9.j1[c].At/\s.j9.j1[c].Next= !s.j9.j1[c].K2:=by
   rcases h3 with h3|h3
   ·rw[k2]at h3;cases h3
   ·exact h3
  exact .inr ⟨j,rfl,k1,k2,by rw[<-h2];exact k2,hl,by rw[h3'.2,hl];rfl,h3'.1.symm,k3⟩
 |i::j::r=>rw[hm]at hk;simp[bs7]at hk
structure dC9 (s:c8)(n i:Nat)(u:List j6×u0×List A4):Prop where
 now:u.2.1.T1=s.j9.T1
 len:u.2.1.j1.length=2*n
 off:∀w∈u.1,w.K2=false
 few:u.1.length<=i/\u.2.2.length<=i
 rest:∀c,i<=c->u.2.1.j1[c]? =s.j9.j1[c]?
 ch:∀x∈u.2.1.j1,Tm.chB s.j9.T1 x=true
 job:∀j∈u.2.2,aJ9 n j/\chn j.Event<(i:Int)
 row:∀c x,c<i->u.2.1.j1[c]? =some x->aH8 (aq1 u.2.2 (c:Int)) x=true/\bs7 s.j9.T1 (aq1 u.2.2 (c:Int))=true/\(c%2=1->x.K2=false)
theorem dB3 {s:c8}{n i:Nat}{u:List j6×u0×List A4}(hs:Live n s)(h:dC9 s n i u):Tm.ad4 u.2.1=true:=by
 have h1:=hs.n1;have h2:=hs.n8;have h3:=hs.cF9;have h4:=hs.dm0
 have hl:=h.len
 have hn:=h.now
 have:=cI6 (n:=n) (now:=s.j9.T1) (u:=(u.2.1.j1,([]:List A4)))
 unfold Tm.ad4
 rw[aI9,bF0]
 have ht:=hs.tim
 unfold Tm.ad4 at ht
 rw[aI9]at ht
 refine⟨?_,fun x hx=>by rw[hn];exact h.ch x hx⟩
 have e:Tm.be3 u.2.1=Tm.be3 s.j9:=by
  unfold Tm.be3
  rw[hn,hl,<-hs.len]
 rw[e];exact ht.1
theorem dn5 {s:c8}{n i:Nat}{u:List j6×u0×List A4}(h:dC9 s n i u)(hi:i<2*n)(out:List j6)(y:j5)(more:List A4)
  (ho:∀w∈out,w.K2=false) (ho1:out.length<=1) (hm1:more.length<=1) (hy:Tm.chB s.j9.T1 y=true) (hj:∀j∈more,aJ9 n j/\chn j.Event=(i:Int)) (hr:aH8 more y=true/\bs7 s.j9.T1 more=true/\(i%2=1->y.K2=false)):
  dC9 s n (i+1) (u.1++out,⟨s.j9.T1,u.2.1.j1.set i y⟩,u.2.2++more):=by
 have hf:=h.few
 have hl:=h.len
 have hni:∀c:Nat,c<i->aq1 more (c:Int)=[]:=fun c hc=>bu0 fun j hj2=>by have:=(hj j hj2).2;omega
 have hmi:aq1 u.2.2 (i:Int)=[]:=bu0 fun j hj2=>by have:=(h.job j hj2).2;omega
 have hmm:aq1 more (i:Int)=more:=by
  unfold aq1
  rw[fd6]
  intro j hj2
  simp[(hj j hj2).2]
 refine⟨rfl,by simp[hl],fun w hw=>?_,?_,fun c hc=>?_,fun x hx=>?_,fun j hj2=>?_,fun c x hc hx=>?_⟩
 ·rcases do5.1 hw with h2|h2
  ·exact h.off w h2
  ·exact ho w h2
 ·simp only[aZ7];omega
 ·simp only
  rw[fd1 (by omega)]
  exact h.rest c (by omega)
 ·simp only at hx
  rcases fe3 hx with h2|h2
  ·exact h.ch x h2
  ·rw[h2];exact hy
 ·rcases do5.1 hj2 with h2|h2
  ·have:=h.job j h2;exact⟨this.1,by omega⟩
  ·have:=hj j h2;exact⟨this.1,by omega⟩
 ·simp only at hx|-
  rw[aR4]
  by_cases hci:c=i
  ·subst hci
   rw[List.getElem?_set_self (by omega)]at hx
   have:y=x:=cG1 hx
   subst this
   rw[hmi,hmm];exact hr
  ·rw[fd1 (by omega)]at hx
   rw[hni c (by omega),dh6]
   exact h.row c x (by omega) hx
theorem dj3 (now:Int)(l:Bool):Tm.chB now ⟨false,0,false,l⟩=true:=by
 unfold Tm.chB;rfl
theorem ek0 {s:c8}{n:Nat}(hs:Live n s)(hm:s.G3.length<=1000)(i:Nat)(hi:i<2*n)(u:List j6×u0×List A4)(h:dC9 s n i u):∃u',ac2 s (i:Int) u=some (.next u')/\dC9 s n (i+1) u':=by
 have hl:=hs.len
 have hn8:=hs.n8
 have h0:=hs.cF9
 have h1:=hs.dm0
 have hi2:i<s.j9.j1.length:=by omega
 have hi3:i<u.2.1.j1.length:=by rw[h.len];exact hi
 have htb:=dB3 hs h
 have hxe:u.2.1.j1[i]=s.j9.j1[i]:=by
  have:=h.rest i (cw4 _)
  rw[aW5 hi2,aW5 hi3]at this
  exact cG1 this
 have hf:=h.few
 have aP9:=hs.rows.row i hi2
 simp only at aP9
 have hmd:((i:Int).tmod 2==0)=(i%2==0):=by
  rw[do7 (by omega),dG1,beq_iff_eq,beq_iff_eq];omega
 have bD4:=h.now
 unfold ac2
 rw[C5 _ _ hi2]
 simp only[aD6,hmd]
 generalize hx:s.j9.j1[i]=x at aP9 hxe
 have hcond:(bif x.K2 then(some ((!(i%2==0))||(s.j9.T1==1099511627776)))else(some false))=some (x.K2&&((!(i%2==0))||(s.j9.T1==1099511627776))):=by cases x.K2<;>rfl
 rw[hcond]
 simp only[aD6]
 cases hb:x.K2&&((!(i%2==0))||(s.j9.T1==1099511627776))
 ·simp only[fh8]
  rw[Tm.db8 u.2.1 (i:Int) i rfl hi3 htb]
  simp only[aD6]
  rw[hxe,bD4]
  cases hlv:x.K2
  ·simp only[cJ0,fi0]
   refine⟨_,rfl,?_⟩
   have:=dn5 h hi [] ⟨false,0,false,false⟩ [] (by simp) (by simp) (by simp) (dj3 _ _) (by simp) ⟨rfl,rfl,fun _=>rfl⟩
   rw[dh6,dh6]at this
   exact this
  ·simp only[aX3,fh8]
   rw[hlv,cM4,bN3]at hb
   have hev:i%2=0:=by simpa using hb.1
   have hnm:s.j9.T1≠1099511627776:=by simpa using hb.2
   cases hsp:split (i:Int) s.G3 with
   |none=>
    rw[dY6 hsp]at aP9
    simp[aH8,hlv]at aP9
   |some t=>
    obtain⟨a,j,b⟩:=t
    obtain⟨ej,ec,_⟩:=bj0 hsp
    have hjo:=hs.rows.job j (by rw[ej];simp)
    rw[cQ8 hsp]at aP9
    simp only[aH8,aI9,ck7,cI5,beq_iff_eq]at aP9
    obtain⟨⟨⟨r1,r2⟩,r3⟩,_⟩:=aP9
    have hk2:j.Event.Kind=2:=by
     have hk:=hjo.kind
     have hce:=dr7 hjo
     rw[ec,do7 (by omega)]at hce
     have hno:¬(j.Event.Kind=3\/j.Event.Kind=4):=by
      intro h3;rw[if_pos h3]at hce;omega
     rw[hlv]at r1
     have:onK j.Event.Kind=false:=by
      cases ho:onK j.Event.Kind
      ·rfl
      ·rw[ho]at r1;simp at r1
     unfold onK at this
     simp only[bN3,beq_eq_false_iff_ne]at this
     omega
    have hfi:C0 s.G3 (fun x0=>as2 x0 (i:Int))=some (cu8 (i:Int) s.G3):=bR7 (i:Int) n hn8 s.G3 (by omega) (fun y hy=>hs.rows.job y hy)
    rw[hfi]
    have hfv:cu8 (i:Int) s.G3=(a.length:Int):=by unfold cu8;rw[hsp]
    have hgm:C9 s.G3 (a.length:Int)=some j:=by rw[ej];exact dO3 a b j
    rw[hfv]
    simp only[aD6]
    rw[hgm]
    simp only[aD6]
    rw[j4 (n:=s.j9.T1+5000) (by omega) (by omega)]
    have hxa:j.D6=true->s.j9.T1<j.At/\j.At<=1099511627776:=by
     intro hja
     have hxm:x∈s.j9.j1:=by rw[<-hx];exact bd9 hi2
     have:=Tm.db1 (hs.rows.ch x hxm) (by rw[<-r2];exact hja)
     rcases r3 with r3|r3
     ·rw[hja]at r3;cases r3
     ·rw[r3.1];exact this
    obtain⟨at2,hat,ha1,ha2,ha3⟩:∃at2,(bif ((!j.D6)||(decide (j.At>s.j9.T1+5000)))then(some (F2 (s.j9.T1+5000) 1099511627776))else(some j.At))=some at2/\s.j9.T1<at2/\at2<=1099511627776/\at2<=s.j9.T1+5000:=by
     cases hc:(!j.D6)||(decide (j.At>s.j9.T1+5000))
     ·rw[bN3]at hc
      have hja:j.D6=true:=by simpa using hc.1
      have:=hxa hja
      have h5:¬j.At>s.j9.T1+5000:=of_decide_eq_false hc.2
      exact⟨j.At,rfl,by omega,by omega,by omega⟩
     ·refine⟨_,rfl,?_,?_,?_⟩<;>unfold F2<;>split<;>omega
    rw[hat]
    simp only[aD6]
    have htb2:Tm.ad4 ⟨s.j9.T1,u.2.1.j1.set i ⟨false,0,false,true⟩⟩=true:=by
     unfold Tm.ad4 at htb|-
     simp only[aI9,bF0]at htb|-
     refine⟨?_,fun y hy=>?_⟩
     ·have e:Tm.be3 ⟨s.j9.T1,u.2.1.j1.set i ⟨false,0,false,true⟩⟩=Tm.be3 u.2.1:=by
       unfold Tm.be3
       simp only[eb5,bD4]
      rw[e];exact htb.1
     ·rcases fe3 hy with h2|h2
      ·exact h.ch y h2
      ·rw[h2];exact dj3 _ _
    rw[Tm.eg3 _ (i:Int) at2 false i rfl (by simpa using hi3) htb2]
    have d1:decide (at2<=s.j9.T1)=false:=fi2 (by omega)
    have d2:decide (at2>Tm.cD0)=false:=by unfold Tm.cD0;exact fi2 (by omega)
    simp only[d1,d2,fh8,aD6]
    rw[H5 _ _ (by simp only[bv4,cV7];omega)]
    simp only[aD6,dN2,en8]
    refine⟨_,rfl,?_⟩
    have:=dn5 h hi [] ⟨true,at2,false,true⟩ [⟨j.Event,j.Left,true,at2⟩] (by simp) (by simp) (by simp) (dM6 ha1 ha2)
     (fun k hk=>by
      have:k=⟨j.Event,j.Left,true,at2⟩:=by simpa using hk
      subst this
      exact⟨⟨hjo.cyl,hjo.kind,hjo.ef6,hjo.bS6,hjo.left,.inl rfl⟩,ec⟩)
     ⟨by simp[aH8,hk2,alt,onK],by simp[bs7,hk2,ha3],fun h3=>by omega⟩
    rw[dh6]at this
    exact this
 ·simp only[fi0]
  rw[aI9]at hb
  rw[Tm.force_eq u.2.1 (i:Int) false i rfl hi3 htb]
  simp only[aD6]
  rw[H5 _ _ (by cases(u.2.1.j1[i].K2==false)<;>simp<;>omega)]
  simp only[aD6]
  refine⟨_,rfl,?_⟩
  rw[bD4]
  have:=dn5 h hi (bif u.2.1.j1[i].K2==false then []else [⟨s.j9.T1,(i:Int),false⟩]) ⟨false,0,false,false⟩ [] (fun w hw=>by
   cases hc:u.2.1.j1[i].K2==false<;>rw[hc]at hw
   ·have:w=⟨s.j9.T1,(i:Int),false⟩:=by simpa using hw
    rw[this]
   ·simp at hw) (by cases u.2.1.j1[i].K2==false<;>simp) (by simp) (dj3 _ _) (by simp) ⟨rfl,rfl,fun _=>rfl⟩
  rw[dh6]at this
  exact this
theorem ej9 {s:c8}{n i:Nat}{u u':List j6×u0×List A4}(hs:Live n s)(hj:s.G3=[])(h:dC9 s n i u)(hu:u.2.2=[])(hi:i<2*n)(e:ac2 s (i:Int) u=some (.next u')):∀j,j∉u'.2.2:=by
 have hi2:i<s.j9.j1.length:=by have:=hs.len;omega
 have hi3:i<u.2.1.j1.length:=by rw[h.len];exact hi
 have aP9:=hs.rows.row i hi2
 simp only at aP9
 rw[hj]at aP9
 have hlv:s.j9.j1[i].K2=false:=by
  simp only[aq1,eK1,aH8,aI9,ck7]at aP9
  exact aP9.1
 unfold ac2 at e
 rw[C5 _ _ hi2]at e
 simp only[aD6,hlv,fh8]at e
 rw[Tm.db8 u.2.1 (i:Int) i rfl hi3 (dB3 hs h)]at e
 simp only[aD6,cJ0,fi0,aH6,Fl.next.injEq]at e
 subst e
 simp[hu]
structure eH3 (s t:c8)(out:List j6):Prop where
 ok:aM9 t
 cut:t.Cut=true
 now:t.j9.T1=s.j9.T1
 off:∀w∈out,w.K2=false
 few:out.length<=100
 odd:∀c x,t.j9.j1[c]? =some x->c%2=1->x.K2=false
 fk6:∀x∈t.j9.j1,x.D6=true->x.At<=s.j9.T1+5000
 next:t.Next=s.Next
 eng:t.u4=s.u4
theorem eF8 {n:Nat}{t:c8}(h:Live n t)(aH7:t.Cut=true):∀x∈t.j9.j1,x.D6=true->x.At<=t.j9.T1+5000:=by
 intro x hx ha
 obtain⟨c,hc,rfl⟩:=cY2.1 hx
 rcases dN0 h aH7 hc with⟨_,_,b⟩|⟨j,_,_,_,_,_,_,e,f⟩
 ·rw[ha]at b;cases b
 ·omega
theorem eQ4 {n:Nat}{t:c8}(h:Live n t)(aH7:t.Cut=true):∀c x,t.j9.j1[c]? =some x->c%2=1->x.K2=false:=by
 intro c x hx ho
 obtain⟨hc,rfl⟩:=bH2.1 hx
 rcases dN0 h aH7 hc with⟨_,a,_⟩|⟨j,a,b,_⟩
 ·exact a
 ·exfalso
  have hm:j∈aq1 t.G3 (c:Int):=by rw[a];simp
  obtain⟨hj,hce⟩:=dY5 h.rows.job hm
  have:=dr7 hj
  rw[hce,do7 (by omega),if_neg (by omega)]at this
  omega
theorem ds9 {s t:c8}{out:List j6}(hs:aM9 s)(h:Live s.u4.z8.length t)(aH7:t.Cut=true)(he:t.u4=s.u4)(hk:t.A1=s.A1)(hnx:t.Next=s.Next)(bD4:t.j9.T1=s.j9.T1)(cF6:∀w∈out,w.K2=false)(hfew:out.length<=100)(hm:t.G3.length<=200)(hnone:s.A1.V6=false->t.G3=[]):eH3 s t out:=by
 refine⟨⟨by rw[he];exact hs.eng,by rw[hk];exact hs.clk,h.tim,by rw[he];exact h.len,by rw[he,hnx];exact hs.cG7,hm,fun h2=>hnone (by rw[<-hk];exact h2),by rw[he];exact h.rows.job,fun c hc=>?_⟩,aH7,bD4,cF6,hfew,eQ4 h aH7,by rw[<-bD4];exact eF8 h aH7,hnx,he⟩
 have hr:=h.rows.row c hc
 simp only at hr
 unfold bD5
 rw[hr,h.cut aH7 c hc]
 simp
theorem eF6 {s:c8}(hs:aM9 s)(hn:s.Next.length<=1000000):∃t out,ao5 s=some (t,out,0)/\eH3 s t out:=by
 have hl:=Live.of hs
 have hm:=hs.most
 have hlen:=hl.len
 have hn8:=hl.n8
 have h0:=hl.cF9
 have h1:=hl.dm0
 unfold ao5
 rw[bb8 s hn (by omega),aY1.2 hs]
 simp only[aD6,aX3,fh8]
 rw[bC3 s hn (by omega)]
 simp only[aD6]
 cases aH7:s.Cut
 ·simp only[fh8]
  obtain⟨u,e,hu⟩:=af9 s.j9.j1.length (by omega) (ac2 s) (fun i u=>dC9 s s.u4.z8.length i u/\(s.G3=[]->u.2.2=[])) ([],s.j9,[])
   ⟨⟨rfl,hlen,by simp,by simp,fun _ _=>rfl,hl.rows.ch,by simp,fun c x hc=>by omega⟩,fun _=>rfl⟩
   (fun i hi u hu=>by
    obtain⟨u',e1,e2⟩:=ek0 hl (by omega) i (by omega) u hu.1
    refine⟨u',e1,e2,fun hj=>?_⟩
    apply List.eq_nil_iff_forall_not_mem.2
    intro j hj2
    exact ej9 hl hj hu.1 (hu.2 hj) (by omega) e1 j hj2)
  rw[e]
  refine⟨_,_,rfl,?_⟩
  have hf:=hu.1.few
  have bD4:=hu.1.now
  have hlu:=hu.1.len
  have hlv:Live s.u4.z8.length ⟨s.u4,s.A1,u.2.1,s.Next,u.2.2,true⟩:=by
   refine⟨rfl,hl.n1,hl.n8,⟨hlu,fun x hx=>by show Tm.chB u.2.1.T1 x=true;rw[bD4];exact hu.1.ch x hx,fun j hj=>(hu.1.job j hj).1,fun c hc=>?_⟩,fun _ c hc=>?_,by show 0<=u.2.1.T1;omega,by show u.2.1.T1<=_;omega,?_,by show u.2.2.length<=1000;omega⟩
   ·have hc2:c<u.2.1.j1.length:=hc
    exact(hu.1.row c _ (by omega) (aW5 hc2)).1
   ·have hc2:c<u.2.1.j1.length:=hc
    show bs7 u.2.1.T1 _=true
    rw[bD4]
    exact(hu.1.row c _ (by omega) (aW5 hc2)).2.1
   ·rcases hl.clk with⟨a,b⟩|a
    ·exact .inl ⟨a,hu.2 b⟩
    ·exact .inr a
  exact ds9 hs hlv rfl rfl rfl rfl bD4 hu.1.off (by omega) (by show u.2.2.length<=200;omega) (fun hv=>hu.2 (hs.none hv))
 ·simp only[fi0]
  refine⟨s,[],?_,ds9 hs hl aH7 rfl rfl rfl rfl (by simp) (by simp) hm hs.none⟩
  cases s;rfl
theorem eD9 {s:c8}(h:aM9 s):aM9 (ep9 s):=
 ⟨h.eng,h.clk,h.tim,h.chs,h.cG7,h.most,h.none,h.job,fun c hc=>by
  have:=h.line c hc
  unfold bD5 at this|-
  simp only[aI9]at this|-
  refine⟨this.1,?_⟩
  simp[ep9]⟩
theorem eH1 {s:c8}(h:aM9 s){l:List A0}(hl:aV5 s.u4 l=true):aM9 (ex2 s l):=
 ⟨h.eng,h.clk,h.tim,h.chs,hl,h.most,h.none,h.job,fun c hc=>h.line c hc⟩
end Go.Pv.Sc
namespace Go.Proofs.YtmhdghdbojdgfaaGreat.Ec
open Go Go.Pv Go.Pv.Ec Go.Proofs
structure Sch (s t:c8):Prop where
 ok:Sc.aM9 t
 few:t.Next.length<=8
 eng:t.u4=s.u4
 now:t.j9.T1=s.j9.T1
theorem eY9 (o:ao0):(bQ7 o).m=some o:=rfl
theorem eP5 (n:ao0)(e:Int)(o:ao0):(bh5 n e o).m=some (bif e !=0 then o else n):=by
 simp only[bh5,C.of,M.run]
 cases e !=0<;>rfl
theorem ex3 {s:c8}(h:Sch s s)(l:List A0)(hl:l.length<=8):∃t e,(aq6 s l).m=some (t,e)/\Sch s (bif e !=0 then s else t):=by
 have hm:=h.ok.most
 rw[cj9,Sc.eu9 s l (by have:=h.few;omega) (by omega) (by omega),Sc.aY1.2 h.ok]
 cases hw:Sc.aV5 s.u4 l
 ·exact⟨_,_,rfl,h⟩
 ·exact⟨_,_,rfl,Sc.eH1 h.ok hw,hl,rfl,rfl⟩
theorem dJ3 {s:c8}(h:Sch s s):∃t e,(ac3 s).m=some (t,e)/\Sch s (bif e !=0 then s else t):=by
 have hm:=h.ok.most
 have hc:=h.ok.chs
 have he:=h.ok.eng.2.1
 rw[bX6,Sc.dK3 s (by have:=h.few;omega) (by omega) (by omega),Sc.aY1.2 h.ok]
 simp only[aX3,fh8]
 cases(!s.Cut||s.j9.j1.any fun x=>x.K2)
 ·exact⟨_,_,rfl,Sc.eD9 h.ok,h.few,rfl,rfl⟩
 ·exact⟨_,_,rfl,h⟩
theorem dN1 {s:c8}(h:Sch s s):∃t l,(ao5 s).m=some (t,l,0)/\Sch s t/\l.length<=100:=by
 obtain⟨t,l,e,k⟩:=Sc.eF6 h.ok (by have:=h.few;omega)
 rw[ct3]
 exact⟨t,l,e,⟨k.ok,by rw[k.next];exact h.few,k.eng,k.now⟩,k.few⟩
end Go.Proofs.YtmhdghdbojdgfaaGreat.Ec
namespace Go.Pv.Sc
open Go Go.Pv Go.Pv.Ev
theorem dQ9 {s:c8}(hs:aM9 s)(hn:s.Next.length<=1000000)(to:Int)(h1:s.j9.T1<=to)(h2:to<=1099511627776):S9 s to=some ((goE to s).2,(goE to s).1,0):=by
 have hm:=hs.most
 unfold S9
 rw[bb8 s hn (by omega),aY1.2 hs]
 simp only[aD6,aX3,fh8]
 rw[fi2 (show¬to<s.j9.T1 by omega),fi2 (show¬to>1099511627776 by omega)]
 simp only[fh8]
 rw[bC3 s hn (by omega)]
 simp only[aD6]
 rw[(cH9 (.of hs) to h1 h2).1]
 rfl
theorem ca4 {s:c8}(hs:aM9 s)(to:Int)(h1:s.j9.T1<=to)(h2:to<=1099511627776):aM9 (goE to s).2/\(goE to s).2.u4=s.u4/\(goE to s).2.Next=s.Next/\(goE to s).2.j9.T1=to:=by
 obtain⟨_,hl,ha,bD4,hj,_⟩:=cH9 (.of hs) to h1 h2
 refine⟨⟨by rw[ha.eng];exact hs.eng,by rw[ha.clk];exact hs.clk,hl.tim,by rw[ha.eng];exact hl.len,by rw[ha.eng,ha.next];exact hs.cG7,by have:=hs.most;omega,fun hv=>?_,by rw[ha.eng];exact hl.rows.job,fun c hc=>?_⟩,ha.eng,ha.next,bD4⟩
 ·rw[ha.clk]at hv
  have:=hs.none hv
  rw[this]at hj
  exact List.length_eq_zero_iff.1 (by simpa using hj)
 ·have hr:=hl.rows.row c hc
  simp only at hr
  unfold bD5
  rw[hr]
  cases aH7:(goE to s).2.Cut
  ·simp
  ·rw[hl.cut aH7 c hc];simp
theorem dk2 {s:c8}(hs:aM9 s)(to:Int)(h1:s.j9.T1<=to):(goE to s).1.length<=3200:=by
 have hm:=hs.most
 obtain⟨_,_,_,_,_,_,r7,_⟩:=em5 to s.G3.length s [] (.of hs) (cw4 _) (by simp;omega) h1
 have:(goE to s).1=(goV to s.G3.length ([],s)).1:=rfl
 rw[this]
 simp only[cV7]at r7
 omega
end Go.Pv.Sc
namespace Go.Proofs.YtmhdghdbojdgfaaGreat.Ec
open Go Go.Pv Go.Pv.Ec Go.Proofs
structure bo9 (T:Int)(s t:c8):Prop where
 ok:Sc.aM9 t
 few:t.Next.length<=8
 eng:t.u4=s.u4
 low:s.j9.T1<=t.j9.T1
 now:t.j9.T1<=T
theorem ey7 {T:Int}{s:c8}(h:bo9 T s s)(to:Int)(hT:to<=T):∃t l e,(S9 s to).m=some (t,l,e)/\l.length<=3200/\bo9 T s (bif e !=0 then s else t):=by
 have hm:=h.ok.most
 have hf:=h.few
 rw[bl1]
 by_cases h1:to<s.j9.T1
 ·unfold Pv.S9
  rw[Sc.bb8 s (by omega) (by omega),Sc.aY1.2 h.ok]
  simp only[aD6,aX3,fh8]
  rw[fi1 h1]
  exact⟨_,_,_,rfl,by simp,h⟩
 ·by_cases h2:to>1099511627776
  ·unfold Pv.S9
   rw[Sc.bb8 s (by omega) (by omega),Sc.aY1.2 h.ok]
   simp only[aD6,aX3,fh8]
   rw[fi2 h1,fi1 h2]
   exact⟨_,_,_,rfl,by simp,h⟩
  ·rw[Sc.dQ9 h.ok (by omega) to (by omega) (by omega)]
   obtain⟨k1,k2,k3,k4⟩:=Sc.ca4 h.ok to (by omega) (by omega)
   exact⟨_,_,_,rfl,Sc.dk2 h.ok to (by omega),⟨k1,by show(Sc.goE to s).2.Next.length<=8;rw[k3];exact hf,k2,by show s.j9.T1<=(Sc.goE to s).2.j9.T1;omega,by show(Sc.goE to s).2.j9.T1<=T;omega⟩⟩
theorem dA3 {T:Int}{s:j8}(h:bo9 T s.u.j3 s.u.j3)(a:Int)(hT:a<=T)(hl:s.u9.length<=1000000000):
  ∃c w,(aX6 s a).m=some {s with u:={s.u with j3:=c},u9:=w}/\bo9 T s.u.j3 c/\w.length<=s.u9.length+3300:=by
 obtain⟨t,l,e,e1,h1,h2⟩:=ey7 h a hT
 simp only[aX6,CG.of,M.run,e1,aD6]
 rw[bU4 s t l e (by omega)]
 simp only[aD6]
 have hw:(bif e !=0 then s.u9 else s.u9++l).length<=s.u9.length+3200:=by
  cases e !=0
  ·simp only[fh8,aZ7];omega
  ·simp only[fi0];omega
 generalize(bif e !=0 then s.u.j3 else t)=c at h2|-
 generalize(bif e !=0 then s.u9 else s.u9++l)=w at hw|-
 obtain⟨t2,l2,e2,k,h3⟩:=dN1 (s:=c) ⟨h2.ok,h2.few,rfl,rfl⟩
 rw[e2]
 simp only[aD6]
 rw[bU4 _ t2 l2 0 (by simp only;omega)]
 exact⟨t2,w++l2,rfl,⟨k.ok,k.few,k.eng.trans h2.eng,by have:=k.now;have:=h2.low;omega,by have:=k.now;have:=h2.now;omega⟩,by rw[aZ7];omega⟩
theorem eq5:(cw6).m=some ⟨false,0,0,false⟩:=rfl
theorem cP4 {T:Int}{s:j8}(h:bo9 T s.u.j3 s.u.j3)(hp:phB s.u.M5=true)(n:aa3)(a:Int)(hT:a<=T)(hl:s.u9.length<=1000000000):
  ∃c p w,(aZ3 s n a).m=some {s with u:={s.u with j3:=c,Q0:=n,M5:=p},u9:=w}/\
   bo9 T s.u.j3 c/\phB p=true/\w.length<=s.u9.length+3300:=by
 simp only[aZ3,CG.of,M.run,eq5,aD6]
 cases((s.u.Q0.Mode !=0)&&(n.Mode==0))
 ·exact⟨_,_,_,rfl,h,hp,by omega⟩
 ·simp only[fi0]
  obtain⟨c,w,e,h1,h2⟩:=dA3 (s:={s with u:={s.u with Q0:=n,M5:=⟨false,0,0,false⟩}}) h a hT hl
  rw[e]
  exact⟨c,_,w,rfl,h1,rfl,h2⟩
theorem ef5 (t:Int):(au6 t).m=some (decide (t>=0)&&decide (t<=1099511627776)):=rfl
theorem ex1 (n:Int):∃a e,(bU8 w0 n).m=some (a,e):=by
 simp only[bU8,C.of,M.run,bX2,bE8,cy3,aD6,aX3,fh8,bg]
 cases(bif decide (n<0)then true else decide (n>=58))<;>exact⟨_,_,rfl⟩
theorem dT4 (t n h p:Int)(hp:0<=p/\p<=1099511627776):∃c e,(bO0 w0 t n h p).m=some (c,e)/\(c.At=t\/c.At=0):=by
 obtain⟨a,e,e1⟩:=ex1 n
 have q:bm5 .i64 p (j7 (w0.aP0+1))=some (p/3):=er1 (b:=3) hp.1 (by omega) (by omega)
 simp only[bO0,C.of,M.run,L1.m,bX2,bE8,cy3,e1,ef5,q,aD6,aX3,fh8,bg]
 generalize(bif e !=0 then true else !(decide (t>=0)&&decide (t<=1099511627776)))=c1
 generalize(c1||decide (h<0)||decide (h>1)||decide (p<j7 (2+1))||decide (p>1073741824))=c2
 cases c2
 ·simp only[fh8]
  cases n==0<;>cases n==j7 (58-1)<;>exact⟨_,_,rfl,.inl rfl⟩
 ·exact⟨_,_,rfl,.inr rfl⟩
end Go.Proofs.YtmhdghdbojdgfaaGreat.Ec
namespace Go.Pv.Sc
open Go Go.Pv Go.Pv.Ev
theorem dB4 {s:c8}(hs:aM9 s)(c:D8):(aW4 s c).2.1.length<=3200/\((aW4 s c).2.2=0->(aW4 s c).1.u4=s.u4/\(aW4 s c).1.Next=s.Next/\(aW4 s c).1.j9.T1=c.At/\s.j9.T1<=c.At):=by
 unfold aW4
 cases h1:(!co8 s|| !bM4 c)
 ·cases h2:!c.V6
  ·cases h3:decide (c.At<s.j9.T1)
   ·have h4:=of_decide_eq_false h3
    have hc:bM4 c=true:=by
     cases h:bM4 c
     ·rw[h]at h1;simp at h1
     ·rfl
    have hv:c.V6=true:=by simpa using h2
    have hm:=(db4 hc hv)
    have h5:c.At<=1099511627776:=by
     have:=hc
     unfold bM4 at this
     rw[hv]at this
     simp only[aX3,fh8,aI9,fi3]at this
     omega
    obtain⟨_,_,ha,bD4,_⟩:=cH9 (.of hs) c.At (by omega) h5
    have hf:=dk2 hs c.At (by omega)
    simp only[fh8,do2]
    cases(goE c.At s).2.Cut
    ·cases decide (((bS2 s c (goE c.At s).2).length:Int)>200)
     ·refine⟨hf,fun _=>?_⟩
      have k:=cr5 (mk (goE c.At s).2 c (bS2 s c (goE c.At s).2))
      refine⟨k.eng.trans ha.eng,k.next.trans ha.next,?_,by omega⟩
      show(bL9 _).j9.T1=c.At
      unfold bL9
      split<;>exact bD4
     ·exact⟨by simp,fun h=>by cases h⟩
    ·exact⟨hf,fun _=>⟨ha.eng,ha.next,bD4,by omega⟩⟩
   ·exact⟨by simp,fun h=>by cases h⟩
  ·exact⟨by simp,fun h=>by cases h⟩
 ·exact⟨by simp,fun h=>by cases h⟩
end Go.Pv.Sc
namespace Go.Proofs.YtmhdghdbojdgfaaGreat.Ec
open Go Go.Pv Go.Pv.Ec Go.Proofs
theorem dz4 {T:Int}{s:c8}(h:bo9 T s s)(c:D8)(hT:c.At<=T):∃t l e,(al3 s c).m=some (t,l,e)/\l.length<=3200/\bo9 T s (bif e !=0 then s else t):=by
 have hm:=h.ok.most
 have hf:=h.few
 rw[cc1,Sc.ec0 s c (by omega) (by omega)]
 obtain⟨k1,k2⟩:=Sc.dB4 h.ok c
 refine⟨(Sc.aW4 s c).1,(Sc.aW4 s c).2.1,(Sc.aW4 s c).2.2,rfl,k1,?_⟩
 by_cases he:(Sc.aW4 s c).2.2=0
 ·obtain⟨a,b,d,f⟩:=k2 he
  rw[he,show((0:Int) !=0)=false from rfl]
  exact⟨Sc.ew0 he,by simp only[fh8];rw[b];exact hf,a,by simp only[fh8];omega,by simp only[fh8];omega⟩
 ·rw[show((Sc.aW4 s c).2.2 !=0)=true by simpa using he];exact h
theorem bo9.trans {T:Int}{s t u:c8}(h:bo9 T s t)(k:bo9 T t u):bo9 T s u:=⟨k.ok,k.few,k.eng.trans h.eng,fe7 h.low k.low,k.now⟩
theorem bo9.self {T:Int}{s t:c8}(h:bo9 T s t):bo9 T t t:=⟨h.ok,h.few,rfl,dv9 _,h.now⟩
theorem eI4 (o:ad0):(bt0 o).m=some o:=rfl
theorem en3 (n:ad0)(e:Int)(o:ad0):(aS9 n e o).m=some (bif e !=0 then o else n):=by
 simp only[aS9,C.of,M.run]
 cases e !=0<;>rfl
theorem eI7 (o:aa3):(bz4 o).m=some o:=rfl
theorem en7 (n:aa3)(e:Int)(o:aa3):(aZ1 n e o).m=some (bif e !=0 then o else n):=by
 simp only[aZ1,C.of,M.run]
 cases e !=0<;>rfl
theorem eY7 (o:Z6):(bL4 o).m=some o:=rfl
theorem eP3 (n:Z6)(e:Int)(o:Z6):(bd6 n e o).m=some (bif e !=0 then o else n):=by
 simp only[bd6,C.of,M.run]
 cases e !=0<;>rfl
theorem enz {e:Int}(h:¬e=0):(e !=0)=true:=by simpa using h
theorem ec2 {y:aa3}(h:syB y=true):0<=y.E9/\y.E9<=1099511627776:=by
 unfold syB at h
 split at h
 ·simp only[aI9,beq_iff_eq]at h;omega
 ·split at h
  ·split at h
   ·simp only[aI9,beq_iff_eq,aJ4]at h;omega
   ·simp only[aI9,fi3,aJ4]at h;omega
  ·split at h
   ·simp only[aI9,fi3,aJ4]at h;omega
   ·cases h
structure Tee (T:Int)(s:j8):Prop where
 t0:0<=T
 sch:bo9 T s.u.j3 s.u.j3
 sy:syB s.u.Q0=true/\s.u.Q0.H0<=T
 ph:phB s.u.M5=true
 tf:tfB s.u.H6=true/\s.u.H6.H0<=T
theorem ec5 {T:Int}{s:j8}(h:Tee T s)(a:Int)(ha:a<=T)(hl:s.u9.length<=900000000):
  ∃c y p f w,(bt2 s a).m=some {s with u:={s.u with j3:=c,Q0:=y,M5:=p,H6:=f},u9:=w}/\
   bo9 T s.u.j3 c/\(syB y=true/\y.H0<=T)/\phB p=true/\(tfB f=true/\f.H0<=T)/\w.length<=s.u9.length+10000:=by
 have ht0:=h.t0
 obtain⟨f,ok,e,e1,h1⟩:=eG6 s.u.H6 a
 have hf:tfB (bif e !=0 then s.u.H6 else f)=true/\(bif e !=0 then s.u.H6 else f).H0<=T:=by
  by_cases he:e=0
  ·subst he
   obtain⟨_,q2,q3,_⟩:=h1 rfl
   rw[show((0:Int) !=0)=false from rfl]
   refine⟨q2,?_⟩
   simp only[fh8]
   rcases q3 with q3|q3
   ·omega
   ·rw[q3];exact h.tf.2
  ·rw[enz he];exact h.tf
 simp only[bt2,CG.of,M.run,eY7,eP3,e1,aD6]
 generalize(bif e !=0 then s.u.H6 else f)=g at hf|-
 cases(e !=0|| !ok)
 ·simp only[fh8,eI7,cy2,aD6]
  obtain⟨y,e2,q1,q2⟩:=eG4 s.u.Q0 a
  simp only[q1,en7,aD6]
  have hy:syB (bif e2 !=0 then s.u.Q0 else y)=true/\(bif e2 !=0 then s.u.Q0 else y).H0<=T:=by
   by_cases he:e2=0
   ·subst he
    obtain⟨r1,r2⟩:=q2 rfl
    rw[show((0:Int) !=0)=false from rfl]
    refine⟨r1,?_⟩
    simp only[fh8]
    rcases r2 with r2|r2
    ·omega
    ·rw[r2];exact ht0
   ·rw[enz he];exact h.sy
  generalize(bif e2 !=0 then s.u.Q0 else y)=z at hy|-
  obtain⟨c,p,w,q3,hc,hp,hw⟩:=cP4 (T:=T) (s:={s with u:={s.u with H6:=g}}) h.sch h.ph z a ha (by simp only;omega)
  simp only at hc hw
  rw[q3]
  simp only[aD6]
  cases(z.Mode !=2)
  ·simp only[fh8]
   have key:∃c2 p2 w2,(bif z.ax9==0 then
     (bJ0 c0 p).m.bind fun t_1=>(bif !(bif t_1.2 !=0 then p else t_1.1).aX2 then
       (aX6 {s with u:={s.u with j3:=c,Q0:=z,M5:=bif t_1.2 !=0 then p else t_1.1,H6:=g},u9:=w} a).m.bind fun t=>some t
      else some {s with u:={s.u with j3:=c,Q0:=z,M5:=bif t_1.2 !=0 then p else t_1.1,H6:=g},u9:=w})
     else some {s with u:={s.u with j3:=c,Q0:=z,M5:=p,H6:=g},u9:=w})=
     some ({s with u:={s.u with j3:=c2,Q0:=z,M5:=p2,H6:=g},u9:=w2}:j8)/\bo9 T s.u.j3 c2/\phB p2=true/\w2.length<=s.u9.length+6600:=by
    cases z.ax9==0
    ·exact⟨c,p,w,rfl,hc,hp,by omega⟩
    ·obtain⟨r,e4,q4,q5⟩:=eE1 p
     simp only[fi0,q4,aD6]
     have hr:phB (bif e4 !=0 then p else r)=true:=by
      by_cases he:e4=0
      ·subst he;exact q5 rfl
      ·rw[enz he];exact hp
     generalize(bif e4 !=0 then p else r)=p3 at hr|-
     cases p3.aX2
     ·simp only[cJ0,fi0]
      obtain⟨c3,w3,q6,h6,h7⟩:=dA3 (T:=T) (s:={s with u:={s.u with j3:=c,Q0:=z,M5:=p3,H6:=g},u9:=w}) hc.self a ha (by simp only;omega)
      rw[q6]
      exact⟨c3,p3,w3,rfl,hc.trans h6,hr,by simp only at h7;omega⟩
     ·exact⟨c,p3,w,rfl,hc,hr,by omega⟩
   obtain⟨c2,p2,w2,q7,h7,h8,h9⟩:=key
   simp only[eI4,en3,cl4,aD6]
   rw[q7]
   simp only[aD6]
   cases p2.aX2
   ·exact⟨c2,z,p2,g,w2,rfl,h7,hy,h8,hf,by omega⟩
   ·simp only[fi0]
    obtain⟨k,e8,q8,hk⟩:=dT4 a z.ax9 p2.bF2 z.E9 (ec2 hy.1)
    obtain⟨t3,l3,e9,q9,hl3,h10⟩:=dz4 h7.self k (by omega)
    simp only[q8,q9,aD6]
    rw[bU4 _ t3 l3 e9 (by simp only;omega)]
    simp only[aD6]
    refine⟨_,z,p2,g,_,rfl,h7.trans h10,hy,h8,hf,?_⟩
    cases e9 !=0
    ·simp only[fh8,aZ7];omega
    ·simp only[fi0];omega
  ·exact⟨c,z,p,g,w,rfl,hc,hy,hp,hf,by omega⟩
 ·exact⟨_,_,_,g,_,rfl,h.sch,h.sy,h.ph,hf,by omega⟩
abbrev upS (s:j8)(c:c8)(y:aa3)(p:ad0)(f:Z6)(w:List j6):j8:={s with u:={s.u with j3:=c,Q0:=y,M5:=p,H6:=f},u9:=w}
theorem dg7 {s:j8}(hp:phB s.u.M5=true)(x:Int)(l:List Int)(hl:l.length<=100000):
  ∃p,(aZ4 s (x::l)).m=some (upS s s.u.j3 s.u.Q0 p s.u.H6 s.u9,l)/\phB p=true:=by
 obtain⟨r,e,e1,h1⟩:=eR0 s.u.M5
 have hr:phB (bif e !=0 then s.u.M5 else r)=true:=by
  by_cases he:e=0
  ·subst he;exact h1 rfl
  ·rw[enz he];exact hp
 have h2:ax7 (x::l) 1 ((x::l).length:Int)=some l:=by
  unfold ax7
  rw[if_pos (by simp only[bv4];omega)]
  simp
 simp only[aZ4,CG.of,M.run,U1.m,eI4,en3,cl4,e1,h2,aD6]
 exact⟨_,rfl,hr⟩
theorem db7 (a:Int):∀(l:List Int) (s:j8),phB s.u.M5=true->l.length<=100000->
  ∃l' p,J7 (fun x=>(aT5 a x).run) (l,s)=some (.inl (l',upS s s.u.j3 s.u.Q0 p s.u.H6 s.u9))/\phB p=true/\l'.length<=l.length
 |[],s,hp,_=>⟨[],s.u.M5,D7 rfl,hp,by simp⟩
 |x::l,s,hp,hl=>by
  by_cases hx:x<=a
  ·obtain⟨p,e1,h1⟩:=dg7 hp x l (by simp only[bv4]at hl;omega)
   obtain⟨l',p',e2,h2,h3⟩:=db7 a l (upS s s.u.j3 s.u.Q0 p s.u.H6 s.u9) h1 (by simp only[bv4]at hl;omega)
   refine⟨l',p',?_,h2,by simp only[bv4];omega⟩
   rw[G6 (s':=(l,upS s s.u.j3 s.u.Q0 p s.u.H6 s.u9)) ?_]
   ·exact e2
   ·simp only[aT5,M.run,L1.m]
    rw[fi1 (show(((x::l).length:Nat):Int)>0 by simp only[bv4];omega)]
    rw[show C9 (x::l) 0=some x from rfl]
    simp only[fi0,aD6,fi1 hx]
    rw[e1]
    rfl
  ·refine⟨x::l,s.u.M5,D7 ?_,hp,cw4 _⟩
   simp only[aT5,M.run,L1.m]
   rw[fi1 (show(((x::l).length:Nat):Int)>0 by simp only[bv4];omega)]
   rw[show C9 (x::l) 0=some x from rfl]
   simp only[fi0,aD6,fi2 hx]
   rfl
theorem db6:∀(l:List Int) (s:j8),phB s.u.M5=true->l.length<=100000->
  ∃p,J7 (fun x=>(bh7 x).run) (l,s)=some (.inl ([],upS s s.u.j3 s.u.Q0 p s.u.H6 s.u9))/\phB p=true
 |[],s,hp,_=>⟨s.u.M5,D7 rfl,hp⟩
 |x::l,s,hp,hl=>by
  obtain⟨p,e1,h1⟩:=dg7 hp x l (by simp only[bv4]at hl;omega)
  obtain⟨p',e2,h2⟩:=db6 l (upS s s.u.j3 s.u.Q0 p s.u.H6 s.u9) h1 (by simp only[bv4]at hl;omega)
  refine⟨p',?_,h2⟩
  rw[G6 (s':=(l,upS s s.u.j3 s.u.Q0 p s.u.H6 s.u9)) ?_]
  ·exact e2
  ·simp only[bh7,M.run]
   rw[fi1 (show(((x::l).length:Nat):Int)>0 by simp only[bv4];omega)]
   simp only[fi0]
   rw[e1]
   rfl
theorem dg5 {s:j8}{l:List Int}(hp:bX4 s.u.aa4 s.u.A7)(ht:0<=s.t/\s.t<=1099511627776)(he:Edg (s.u.A7.J8/65536) ((s.u.A7.J8+10000*s.u.A7.D1)/65536) l):
  ∃r,(aI6 s l).m=some r/\r.length<=1000/\∀x∈r,x<=s.t+10000:=by
 have h1:=hp.pos
 have h2:=hp.spd
 have hn:=he.len
 by_cases h0:s.u.A7.D1=0
 ·have h3:l=[]:=by
   cases l with
   |nil=>rfl
   |cons x l=>
    have a:=he.lo x (bN8 ..)
    have b:=he.hi x (bN8 ..)
    rw[h0]at b
    simp only[Int.mul_zero,Int.add_zero]at b
    omega
  subst h3
  simp only[aI6,CG.of,M.run]
  obtain⟨r,h3,h4⟩:=aM0 ([]:List Int) (by simp) (fun i x (o:List Int)=>(aP3 s i x o).run) (fun _ o=>o=[]) [] rfl (fun k x o hx _=>by simp at hx)
  rw[h3]
  subst h4
  exact⟨[],rfl,by simp,by simp⟩
 ·obtain⟨r,e1,e2,e3⟩:=ec4 s l (by omega) (by omega) h1 ht (fun x hx=>by have:=he.hi x hx;omega) (fun x hx=>by have:=he.lo x hx;omega)
  exact⟨r,e1,by omega,e3⟩
structure Tst (T:Int)(s0:j8)(n:Nat)(c:c8)(y:aa3)(p:ad0)(f:Z6)(w:List j6):Prop where
 sch:bo9 T s0.u.j3 c
 sy:syB y=true/\y.H0<=T
 ph:phB p=true
 tf:tfB f=true/\f.H0<=T
 few:w.length<=s0.u9.length+n
theorem dV3 {T:Int}{s:j8}(h:Tee T s)(l v:List Int)(hl:l.length<=1000)(hx:∀x∈l,x<=T)(hv:v.length<=1000)(hs:s.u9.length<=100000):
  ∃v' c y p f w,J7 (fun p:Int×(List Int×j8)=>bif decide (p.1<(l.length:Int))then((C9 l p.1).bind fun x=>((fun i x u=>(aT4 i x u).run) p.1 x p.2).bind (aC9 p.1))else some (.inr (.inl p.2))) (0,(v,s))=some (.inl (v',upS s c y p f w))/\v'.length<=1000/\Tst T s (10000*l.length) c y p f w:=by
 obtain⟨u,e1,⟨hu,c,y,p,f,w,h2,h3⟩⟩:=aM0 l (by omega) (fun i x (u:List Int×j8)=>(aT4 i x u).run)
  (fun k u=>u.1.length<=1000/\∃c y p f w,u.2=upS s c y p f w/\Tst T s (10000*k) c y p f w) (v,s)
  ⟨hv,s.u.j3,s.u.Q0,s.u.M5,s.u.H6,s.u9,rfl,h.sch,h.sy,h.ph,h.tf,by omega⟩ (fun k x u hk hI=>by
   obtain⟨hu,c,y,p,f,w,h2,h3⟩:=hI
   obtain⟨v1,u2⟩:=u
   simp only at hu h2
   subst h2
   have hkl:=(bH2.1 hk).1
   have hw:=h3.few
   obtain⟨l',p',q1,q2,q3⟩:=db7 x v1 (upS s c y p f w) h3.ph (by omega)
   simp only[aT4,M.run]
   rw[q1]
   simp only[aD6]
   obtain⟨c2,y2,p2,f2,w2,r1,r2,r3,r4,r5,r6⟩:=ec5 (T:=T) (s:=upS s c y p' f w) ⟨h.t0,h3.sch.self,h3.sy,q2,h3.tf⟩ x (hx x (do6 hk)) (by simp only;omega)
   simp only at r1 r2 r6
   rw[r1]
   exact⟨_,rfl,by simp only;omega,c2,y2,p2,f2,w2,rfl,h3.sch.trans r2,r3,r4,r5,by omega⟩)
 obtain⟨v',u2⟩:=u
 simp only at hu h2
 subst h2
 exact⟨v',c,y,p,f,w,e1,hu,h3⟩
theorem ew3 {s:j8}(h:Tee (s.t+10000) s)(hp:bX4 s.u.aa4 s.u.A7)(ht:0<=s.t/\s.t+10000<=549755813888)(hl:s.u9.length<=1000):
  ∃c y p f w,(bj7 s).m=some (upS s c y p f w)/\Tst (s.t+10000) s 20000000 c y p f w/\c.j9.T1=s.t+10000:=by
 have bI3:=hp.pos
 have hspd:=hp.spd
 have ht0:=h.t0
 obtain⟨r,e,e1,h1⟩:=ev0 s.u.Q0 s.t
 have hy:syB (bif e !=0 then s.u.Q0 else r)=true/\(bif e !=0 then s.u.Q0 else r).H0<=s.t+10000:=by
  by_cases he:e=0
  ·subst he
   obtain⟨q1,q2⟩:=h1 rfl
   rw[show((0:Int) !=0)=false from rfl]
   refine⟨q1,?_⟩
   simp only[fh8]
   rcases q2 with q2|q2
   ·rw[q2];exact h.sy.2
   ·rw[q2];exact ht0
  ·rw[enz he];exact h.sy
 simp only[bj7,CG.of,M.run,eI7,cy2,cl4,e1,en7,aD6]
 generalize(bif e !=0 then s.u.Q0 else r)=z at hy|-
 obtain⟨c,p,w,q3,hc,hph,hw⟩:=cP4 (T:=s.t+10000) h.sch h.ph z s.t (by omega) (by omega)
 rw[q3]
 simp only[aD6]
 rw[j4 (n:=10000*s.u.A7.D1) (by omega) (by omega),j4 (n:=s.u.A7.J8+10000*s.u.A7.D1) (by omega) (by omega),cA0 bI3.1,cA0 (show 0<=s.u.A7.J8+10000*s.u.A7.D1 by omega),
  j4 (n:=s.u.A7.J8/65536) (by omega) (by omega),j4 (n:=(s.u.A7.J8+10000*s.u.A7.D1)/65536) (by omega) (by omega)]
 obtain⟨l1,e4,b1,b2⟩:=dq3 (s.u.A7.J8/65536) ((s.u.A7.J8+10000*s.u.A7.D1)/65536)
 obtain⟨l2,e5,b3,b4⟩:=dj2 (s.u.A7.J8/65536) ((s.u.A7.J8+10000*s.u.A7.D1)/65536)
 rw[b1]
 simp only[aD6]
 rw[b3]
 simp only[aD6]
 generalize hsv:({s with u:={s.u with j3:=c,Q0:=z,M5:=p},u9:=w}:j8)=sv
 have hv1:sv.u.aa4=s.u.aa4:=by subst hsv;rfl
 have hv2:sv.u.A7=s.u.A7:=by subst hsv;rfl
 have hv3:sv.t=s.t:=by subst hsv;rfl
 obtain⟨v7,e7,k7,k8⟩:=dg5 (s:=sv) (l:=l2) (by rw[hv1,hv2];exact hp) (by rw[hv3];omega) (by rw[hv2];exact b4)
 obtain⟨v8,e8,k9,k10⟩:=dg5 (s:=sv) (l:=l1) (by rw[hv1,hv2];exact hp) (by rw[hv3];omega) (by rw[hv2];exact b2)
 rw[e7]
 simp only[aD6]
 rw[e8]
 simp only[aD6]
 rw[hv3]at k10
 have htee:Tee (s.t+10000) sv:=by subst hsv;exact⟨ht0,hc.self,hy,hph,h.tf⟩
 have hsw:sv.u9.length<=s.u9.length+3300:=by subst hsv;exact hw
 obtain⟨v',c2,y2,p2,f2,w2,e9,n9,t9⟩:=dV3 htee v8 v7 k9 k10 k7 (by omega)
 rw[e9]
 simp only[aD6]
 obtain⟨p3,e10,h10⟩:=db6 v' (upS sv c2 y2 p2 f2 w2) t9.ph (by omega)
 rw[e10]
 simp only[aD6]
 have hg:=t9.sch
 have bD4:=hg.now
 have hok:=hg.ok
 have dW6:=hok.most
 rw[hv3,j4 (n:=s.t+10000) (by omega) (by omega),bl1,Sc.dQ9 hok (by have:=hg.few;omega) (s.t+10000) bD4 (by omega)]
 obtain⟨a1,a2,a3,a4⟩:=Sc.ca4 hok (s.t+10000) bD4 (by omega)
 have a5:=Sc.dk2 hok (s.t+10000) bD4
 have hfew:=t9.few
 simp only[aD6]
 rw[bU4 _ _ (Sc.goE (s.t+10000) c2).1 0 (by simp only;omega)]
 have hsc:sv.u.j3=c:=by subst hsv;rfl
 rw[hsc]at hg
 refine⟨(Sc.goE (s.t+10000) c2).2,y2,p3,f2,w2++(Sc.goE (s.t+10000) c2).1,?_,⟨hc.trans (hg.trans ⟨a1,by rw[a3];exact hg.few,a2,by omega,by omega⟩),t9.sy,h10,t9.tf,by rw[aZ7];omega⟩,a4⟩
 subst hsv
 rfl
theorem eB3 (l:List j6)(hl:l.length<=1000000)(f:j6->Option Bool)(p:j6->Bool)(h:∀y∈l,f y=some (p y)):Pv.ac5 l f=some (match l.findIdx? p with|some k=>(k:Int)|none=>-1):=by
 unfold Pv.ac5 Pv.ay9
 rw[bb6 l (by omega) (fun(i:Int) x (_:Unit)=>ai2 (f x) fun v=>bif v then(some (Fl.ret i))else(some (Fl.next ())))]
 have:=Sc.bI1 f p l 0 h
 rw[show((0:Nat):Int)=0 from rfl]at this
 rw[this]
 cases l.findIdx? p with
 |none=>rfl
 |some k=>simp
theorem eM9 (l:List j6)(hl:l.length<=1000000)(f:j6->Option Bool)(p:j6->Bool)(h:∀y∈l,f y=some (p y)):Pv.N5 l f=some (l.filter fun y=>!p y):=by
 unfold Pv.N5
 rw[eB3 l hl f p h]
 cases hf:l.findIdx? p with
 |none=>simp only[aD6];rw[Sc.dc5 hf];rfl
 |some v=>
  obtain⟨hv,htk⟩:=Sc.cu7 hf
  simp only[aD6]
  have e0:((v:Int)== -1)=false:=beq_eq_false_iff_ne.2 (by omega)
  rw[e0,j4 (n:=(v:Int)+1) (by omega) (by omega)]
  simp only[fh8]
  obtain⟨t,k1,k2⟩:=cv6 (mb:=Pv.al4 f)
   (fun j st=>∃i:Nat,st.1=(i:Int)/\st.2.1=((v+1+j:Nat):Int)/\i<v+1+j/\i=((l.take (v+1+j)).filter fun y=>!p y).length/\st.2.2.length=l.length/\st.2.2.take i=((l.take (v+1+j)).filter fun y=>!p y)/\st.2.2.drop (v+1+j)=l.drop (v+1+j))
   (fun t=>∃(s:List j6) (i:Nat),t= .inl ((i:Int),(l.length:Int),s)/\s.length=l.length/\i<=l.length/\s.take i=l.filter fun y=>!p y) (l.length-(v+1)) 0 ((v:Int),(v:Int)+1,l)
   ⟨v,rfl,by push_cast;omega,by omega,by rw[eb4,htk,bw6];omega,rfl,by rw[eb4,htk],rfl⟩
   (fun j _ hj st ⟨i,h1,h2,h3,h4,h5,h6,h7⟩=>by
    have hjl:v+1+j<l.length:=by omega
    have cX7:C9 st.2.2 st.2.1=some l[v+1+j]:=by
     rw[h2,T3,<-eG8,h7,eG8,aW5 hjl]
    have hlt:decide (st.2.1<(st.2.2.length:Int))=true:=by rw[h2,h5];simp;omega
    have htk2:l.take (v+1+(j+1))=l.take (v+1+j)++[l[v+1+j]]:=by rw[<-dK7];exact dr6 hjl
    have hdr:∀s:List j6,s.drop (v+1+j)=l.drop (v+1+j)->s.drop (v+1+(j+1))=l.drop (v+1+(j+1)):=fun s hs=>by
     rw[<-dK7,<-ex8,hs,ex8]
    unfold Pv.al4
    rw[hlt,cX7]
    simp only[fi0,aD6,h _ (bd9 hjl)]
    rw[h2,j4 (n:=((v+1+j:Nat):Int)+1) (by omega) (by omega)]
    cases hp:p l[v+1+j]
    ·have hi:i<st.2.2.length:=by omega
     simp only[cJ0,fi0]
     rw[h1,C5 _ _ hi]
     simp only[aD6]
     rw[T4 _ _ _ hi,j4 (n:=(i:Int)+1) (by omega) (by omega)]
     have hfl:((l.take (v+1+(j+1))).filter fun y=>!p y)=((l.take (v+1+j)).filter fun y=>!p y)++[l[v+1+j]]:=by
      rw[htk2,dJ7];simp[hp]
     refine⟨_,rfl,i+1,by push_cast;rfl,by push_cast;omega,by omega,?_,by simp[h5],?_,?_⟩
     ·rw[hfl,aZ7,<-h4];rfl
     ·rw[hfl,<-h6]
      rw[dr6 (by simpa using hi),List.take_set_of_le (cw4 _),dN2]
     ·refine hdr _ ?_
      rw[List.drop_set_of_lt (by omega)];exact h7
    ·simp only[aX3,fh8]
     have hfl:((l.take (v+1+(j+1))).filter fun y=>!p y)=((l.take (v+1+j)).filter fun y=>!p y):=by
      rw[htk2,dJ7];simp[hp]
     exact⟨_,rfl,i,h1,by push_cast;omega,by omega,by rw[hfl];exact h4,h5,by rw[hfl];exact h6,hdr _ h7⟩)
   (fun st ⟨i,h1,h2,h3,h4,h5,h6,h7⟩=>by
    have hn:v+1+(0+(l.length-(v+1)))=l.length:=by omega
    rw[hn]at h2 h3 h4 h6
    have hlt:decide (st.2.1<(st.2.2.length:Int))=false:=by rw[h2,h5];simp
    unfold Pv.al4
    rw[hlt]
    simp only[fh8]
    refine⟨_,rfl,st.2.2,i,?_,h5,by omega,by rw[h6,ey4]⟩
    rw[h1,h2])
  obtain⟨s,i,rfl,hs,hi,ht⟩:=k2
  rw[k1]
  simp only[aD6]
  have hc:ck8 (i:Int) (s.length:Int) s.length=some ():=by unfold ck8;rw[if_pos ⟨by omega,by omega,by omega⟩]
  rw[hc]
  simp only[aD6]
  have hsl:ax7 (bH1 s (i:Int) (s.length:Int) (⟨0,0,false⟩:j6)) 0 (i:Int)=some (s.take i):=Sc.cM8 s i _ (by omega)
  rw[hsl,ht]
  rfl
theorem bgi {α β:Type}(c:Bool)(x y:α)(f:α->Option β):ai2 (bif c then some x else some y) f=f (bif c then x else y):=by cases c<;>rfl
theorem eH5 {α β:Type}{A:Option α}{F:α->Option β}(J:α->Prop){K:β->Prop}(h:∃x,A=some x/\J x)(k:∀x,J x->∃r,F x=some r/\K r):∃r,A.bind F=some r/\K r:=by
 obtain⟨x,rfl,h2⟩:=h
 exact k x h2
theorem eW3 {β:Type}{c:Bool}{A B:Option β}{K:β->Prop}(h:c=true->∃r,A=some r/\K r)(k:c=false->∃r,B=some r/\K r):∃r,(bif c then A else B)=some r/\K r:=by
 cases c
 ·exact k rfl
 ·exact h rfl
theorem cS8 {S R:Type}(n:Nat)(hn:n<=1000000000)(f:Int->S->Option (Fl S R))(I:Nat->S->Prop)(J:R->Prop)(s:S)(h0:I 0 s)(h:∀k s,k<n->I k s->(∃s',f (k:Int) s=some (.next s')/\I (k+1) s')\/∃u,f (k:Int) s=some (.ret u)/\J u):
  ∃b,J7 (fun p:Int×S=>bif decide (p.1<(n:Int))then((f p.1 p.2).bind (aC9 p.1))else some (.inr (.inl p.2))) (0,s)=some b/\((∃s',b= .inl s'/\I n s')\/∃u,b= .inr u/\J u):=by
 exact bt7 (mb:=fun p:Int×S=>bif decide (p.1<(n:Int))then((f p.1 p.2).bind (aC9 p.1))else some (.inr (.inl p.2))) (fun x=>∃k:Nat,x.1=(k:Int)/\k<=n/\I k x.2) (fun x=>n-x.1.toNat) (fun b:S⊕R=>(∃s',b= .inl s'/\I n s')\/∃u,b= .inr u/\J u)
  (fun x ⟨k,hk,hkn,hi⟩=>by
   obtain⟨a,u⟩:=x
   simp only at hk hi
   subst hk
   by_cases hlt:k<n
   ·rcases h k u hlt hi with⟨s',h1,h2⟩|⟨v,h1,h2⟩
    ·left
     simp only
     rw[fi1 (show((k:Nat):Int)<(n:Int) by omega),h1]
     refine⟨(((k+1:Nat):Int),s'),?_,⟨k+1,rfl,by omega,h2⟩,by simp only;omega⟩
     simp only[fi0,aD6,aC9]
     first|rfl|(rw[j4 (by omega) (by omega)];rfl)
    ·right
     simp only
     rw[fi1 (show((k:Nat):Int)<(n:Int) by omega),h1]
     exact⟨_,rfl,.inr ⟨v,rfl,h2⟩⟩
   ·right
    simp only
    rw[fi2 (show¬((k:Nat):Int)<(n:Int) by omega)]
    have:k=n:=by omega
    subst this
    exact⟨_,rfl,.inl ⟨u,rfl,hi⟩⟩) n (0,s) (by simp) ⟨0,rfl,by omega,h0⟩
theorem dG9 (l:List A0)(hl:l.length<=1000000)(f:Cl Tryz.prog A0 Bool (fun x=>[aO8 x]) (fun r=>.t (tB r)))(p:A0->Bool)(h:∀x,f.f x=some (p x)):∃v,(H2 l f).m=some v/\(0<=v->v<(l.length:Int)):=by
 simp only[H2,C.of,M.run]
 obtain⟨b,e,h1⟩:=cS8 l.length (by omega) (fun i (u:Unit)=>(N6 l f i u).run) (fun _ _=>True) (fun v:Int=>v<(l.length:Int)) () trivial (fun k u hk _=>by
  simp only[N6,M.run,L1.m,Cl.at]
  rw[T3,aW5 hk]
  simp only[aD6,h]
  cases p l[k]
  ·exact .inl ⟨(),rfl,trivial⟩
  ·exact .inr ⟨_,rfl,by omega⟩)
 rw[e]
 rcases h1 with⟨u,rfl,_⟩|⟨v,rfl,h2⟩
 ·exact⟨-1,rfl,fun h=>by omega⟩
 ·exact⟨v,rfl,fun _=>h2⟩
theorem eo5 {t:o6}(h:cd1 t=true)(a:Int):∃r,(az6 t a 13500).m=some r:=by
 have hd:=(dg3 h).dead
 rw[cL3]
 by_cases ha:0<=a/\a<=1048576
 ·rw[dY3 hd ha (by omega)]
  exact⟨_,rfl⟩
 ·have hd':=hd
  rw[aI9]at hd
  obtain⟨h1,h2⟩:=hd
  have hl:=(bl5 h1).yl
  have hx:=(bl5 h1).x.most
  have e:Pv.o5 t.av6.Y Pv.aF0=some (t.av6.Y.any fun y=>!inR 0 10000 y):=ap4 _ (by omega) _ _ (fun y _=>rfl)
  have e2:(t.av6.Y.any fun y=>!inR 0 10000 y)=false:=by
   rw[dC3]
   intro y hy
   rw[bF0.1 h2 y hy];simp
  have e3:Pv.aA7 t a 13500=some (0,2):=by
   unfold Pv.aA7
   rw[ap6,h1,e,e2,cO6]
   have:inR 0 1048576 a=false:=by
    unfold inR
    rw[Bool.eq_false_iff]
    intro h3
    simp only[aI9,fi3]at h3
    exact ha h3
   rw[this]
   rfl
  unfold Pv.az6
  rw[e3]
  exact⟨_,rfl⟩
theorem eI6 (o:Y5):(bt1 o).m=some o:=rfl
theorem en6 (n:Y5)(e:Int)(o:Y5):(aT0 n e o).m=some (bif e !=0 then o else n):=by
 simp only[aT0,C.of,M.run]
 cases e !=0<;>rfl
theorem dP1 {b:L0}{p q:Y5}{e:Int}(hp:bX4 b p)(h:e=0->bX4 b q):bX4 b (bif e !=0 then p else q):=by
 by_cases he:e=0
 ·subst he;exact h rfl
 ·rw[enz he];exact hp
theorem eo2 (l:List j6):∃b,(cg4 l).m=some b/\(b=true->l.length<=1000):=by
 simp only[cg4,C.of,M.run]
 by_cases h:(l.length:Int)>1000
 ·rw[fi1 h];exact⟨false,rfl,fun h=>by cases h⟩
 ·rw[fi2 h]
  simp only[fh8]
  rcases bJ6 l (by omega) (fun i x (s:Int)=>(bA2 i x s).run) (fun _ _=>True) (fun _=>True) 0 trivial (fun k x s hx _=>by
   simp only[bA2,M.run,dn6,aD6]
   cases((((!ad4 x.At)||(decide (x.At<s)))||(decide (x.Channel<0)))||(decide (x.Channel>=16)))
   ·exact .inl ⟨_,rfl,trivial⟩
   ·exact .inr ⟨_,rfl,trivial⟩)with⟨s',e,_⟩|⟨u,e,_⟩
  ·rw[e];exact⟨true,rfl,fun _=>by omega⟩
  ·rw[e];exact⟨u,rfl,fun _=>by omega⟩
theorem dV0 (l:List j6)(hl:l.length<=1073741824):(aS0 l).m=some l:=by
 simp only[aS0,CG.of,M.run,U1.m]
 rw[H5 _ _ (by simpa using hl)]
 rfl
structure UOk (u:ae5):Prop where
 C2:cd1 u.u6=true
 pl:bX4 u.aa4 u.A7
 sch:Sc.aM9 u.j3
 few:u.j3.Next.length<=8
 now:u.j3.j9.T1=u.Time
 con:bx9 u.j3.u4 u.u3=true
 tf:tfB u.H6=true/\u.H6.H0<=u.Time
 sy:syB u.Q0=true/\u.Q0.H0<=u.Time
 ph:phB u.M5=true
 gr:grB u.M4=true
 qz:eV4 u.Time u.K8
 sg:sgB u.L5=true/\u.L5.aQ2<=u.Time
 flt:∃c t,(1<=c/\c<=1073741824)/\Fr.Inv cf0 u.H4 c true t
 time:0<=u.Time/\u.Time<=549755813888
 ten:u.Time%10000=0
structure Mid (T:Int)(s:j8):Prop where
 ok:SOk s
 C2:cd1 s.u.u6=true
 pl:bX4 s.u.aa4 s.u.A7
 sch:Sc.aM9 s.u.j3
 few:s.u.j3.Next.length<=8
 now:s.u.j3.j9.T1=T
 con:bx9 s.u.j3.u4 s.u.u3=true
 tf:tfB s.u.H6=true/\s.u.H6.H0<=T
 sy:syB s.u.Q0=true/\s.u.Q0.H0<=T
 ph:phB s.u.M5=true
 gr:grB s.u.M4=true
 qz:eV4 s.t s.u.K8
 sg:sgB s.u.L5=true/\s.u.L5.aQ2<=s.t
 flt:∃c t,(1<=c/\c<=1073741824)/\Fr.Inv cf0 s.u.H4 c true t
 act:s.Y6.length<=7/\∀x∈s.Y6,x.ae8.length<=16
structure DOk (d:L6)(k:List ae4):Prop where
 few:k.length<=100
 val:∀b∈k,-1000000<=b.Value/\b.Value<=1000000
 ped:0<=d.I4/\d.I4<=1000
structure fe0 (r:ak6):Prop where
 sw:r.ch8.length<=1000
 act:r.al8.length<=7/\∀x∈r.al8,x.ae8.length<=16
theorem eO1 {f:B5}(hc:Fr.Cfs cf0)(h:∃c t,(1<=c/\c<=1073741824)/\Fr.Inv cf0 f c true t):(Z0 f).m=some true/\f.L.length=7/\f.ax1=true:=by
 obtain⟨c,t,hct,hi⟩:=h
 refine⟨?_,by rw[hi.len,bx4],hi.run⟩
 rw[bd1]
 exact Fr.bU7 hc hi (by omega) hct.2 (fun _=>hct.1)
theorem eS4 {s:c8}(h:Sc.aM9 s)(hf:s.Next.length<=8):(J4 s).m=some true:=by
 have:=h.most
 rw[at6,Sc.bb8 s (by omega) (by omega),Sc.aY1.2 h]
theorem dg8 {u:ae5}(hc:Fr.Cfs cf0)(h:UOk u):(bV5 u).m=some true:=by
 have e1:(ab8 u.u6).m=some true:=by rw[bg6,bh2,h.C2]
 have e2:=dm6 h.pl
 have e3:=eS4 h.sch h.few
 have e4:(ap5 u.j3.u4 u.u3).m=some true:=by rw[bK9,dO4,h.con]
 obtain⟨e5,e6,e7⟩:=eO1 hc h.flt
 have ht:=h.time
 have hf:=h.tf.2;have hs:=h.sy.2;have hq:=h.qz.2;have hg:=h.sg.2
 simp only[bV5,C.of,M.run,e1,e2,e3,e4,cV1,h.tf.1,cy2,cU9,h.sy.1,cl4,cS0,h.ph,cl7,h.gr,cn7,h.qz.1,cT8,h.sg.1,e5,e6,e7,aD6,aX3,fh8,fi0]
 rw[fi1 (show u.Time>=0 by omega),fi1 ht.2,h.now,do7 ht.1,h.ten]
 have hm:G4 (G4 (G4 u.H6.H0 u.Q0.H0) u.L5.aQ2) u.K8.as7<=u.Time:=by
  unfold G4
  split<;>split<;>(try split)<;>omega
 rw[fi1 hm]
 simp
end Go.Proofs.YtmhdghdbojdgfaaGreat.Ec

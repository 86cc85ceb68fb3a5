/- A part of the proof of EcuSwitches: Plain Lean, and more. -/
import Derived.Test.YtmhdghdbojdgfaaGreatEcuSwitchesE
import Derived.KernelRfl
set_option linter.unusedSimpArgs false
set_option linter.unusedVariables false
set_option maxRecDepth 100000
noncomputable section
open Bool renaming and_eq_false_iff->fe8,and_eq_true->aJ5,and_true->eW8,cond_false_right->ff1,cond_true_left->fg0,eq_iff_iff->dC6,false_and->ez1,false_eq_true->do9,false_or->dQ6,not_eq_false'->dT6,not_eq_true'->bO4,not_false->cI0,not_not->eD9,not_true->aP9,or_eq_false_iff->bZ2,or_eq_true->cG1,or_false->fa9,or_self->eM3,true_and->cI4
open Int renaming ediv_eq_zero_of_lt->fb3,ediv_le_self->eL3,ediv_nonneg->eN3,le_refl->do8,le_trans->fg7,lt_or_le->fh2,mul_le_mul->eP0,mul_le_mul_of_nonneg_left->ec5,mul_nonneg->eQ2,tdiv->da1,tdiv_eq_ediv_of_nonneg->cr3,tmod->ep0,tmod_eq_emod_of_nonneg->dp1,toNat_natCast->eJ5
open Go.IntKind renaming bits->eT7,i64->eX4,u64->aX3
open List renaming all_eq_true->bN8,any_cons->fh7,any_eq_false->ds5,any_eq_not_all_not->dO9,append_assoc->dd3,append_nil->cV6,cons_append->dC8,drop_drop->ey6,eq_of_mem_replicate->eX5,filter_append->cV9,filter_cons->dC9,filter_cons_of_neg->fa6,filter_cons_of_pos->dQ1,filter_eq_nil_iff->eq3,filter_map->fg2,filter_nil->ez7,findIdx?_cons->fj0,flatMap_cons->ez4,flatMap_nil->fj4,foldl_cons->ey7,getD_eq_getElem?_getD->cW2,getElem?_eq_getElem->aK2,getElem?_eq_some_iff->bt7,getElem?_map->cG5,getElem_mem->ba6,getElem_replicate->eR1,getElem_set->eX6,getElem_set_self->dC7,head?_drop->eC1,length_append->aY1,length_cons->bq0,length_drop->dh0,length_map->cr4,length_nil->cr1,length_replicate->eC4,length_set->dI2,length_singleton->cr0,length_take->bE9,map_append->eC3,map_cons->cS3,map_nil->ek7,mem_append->cI5,mem_cons->ch6,mem_cons_of_mem->bF8,mem_cons_self->bx8,mem_filter->dK5,mem_iff_getElem->cY8,mem_map->cX4,mem_of_getElem?->cY9,mem_of_mem_drop->eX1,mem_of_mem_take->ey8,mem_range'->eO1,mem_singleton->eM2,nil_append->cL8,not_mem_nil->eL8,range->dp9,range'->dR5,replicate->cr2,set_set->ee5,take_length->ee6,take_succ_eq_append_getElem->dp0
open Nat renaming add_assoc->dD0,add_zero->dM1,le_refl->cq9,le_trans->eJ3,lt_or_ge->da9,zero_add->cV7
open Option renaming bind->ai5,bind_some->aH3,getD_some->ez0,map_some->ca8
open Option.some renaming inj->cp9,injEq->aI5
namespace Go.Pv
open Go
theorem co8 (r:j2):cT1 r=decide (Ar.co7 r):=cp9 ((dK0 r).symm.trans (Ar.ao1 r))
def dk8 (g:Z8)(l:List j2):Z8:=
 ⟨max (min (min (max (Ar.fin l (-5000) 10000).low (g.p7-1000)) (g.p7+300)) (Ar.fin l (-5000) 10000).high) (-5000),(Ar.fin l (-5000) 10000).source⟩
def granted (g:Z8):Prop:=(-5000<=g.p7/\g.p7<=10000)/\(-1<=g.N4/\g.N4<=15)
theorem cA1:∀(q:List j2) (s:u3),(∀r∈q,0<=r.N4/\r.N4<=15)->(-1<=s.source/\s.source<=15)-> -1<=(q.foldl Ar.stp s).source/\(q.foldl Ar.stp s).source<=15
 |[],_,_,h=>h
 |r::q,s,hq,h=>by
  rw[ey7]
  refine cA1 q _ (fun x hx=>hq x (bF8 _ hx)) ?_
  have:=hq r (bx8 ..)
  unfold Ar.stp
  simp only
  split<;>omega
theorem en7 {l:List j2}(h:Ar.cW0 l (-5000) 10000)(g:Z8):granted (dk8 g l):=by
 have r:=Ar.dc6 (l:=l) (low:=-5000) (high:=10000) (by omega)
 have s:=cA1 (Ar.cR2 l) (Ar.s0 (-5000) 10000) (fun x hx=>by
  have:=h.req x ((Ar.cn0 h.dr).1 hx)
  exact this.1) (by show -1<=(-1:Int)/\(-1:Int)<=15;omega)
 unfold granted dk8
 unfold Ar.fin at r s|-
 simp only
 exact⟨by omega,s⟩
theorem eh9 {g:Z8}{l:List j2}(hg:granted g)(h:Ar.cW0 l (-5000) 10000)(h19:l.length<=19):ap4 g l (-5000) 10000 300 1000=some (dk8 g l,0):=by
 have r:=Ar.dc6 (l:=l) (low:=-5000) (high:=10000) (by omega)
 have hl:=h.len
 unfold granted at hg
 unfold ap4
 rw[show P1 g.p7=some (inR (-5000) 10000 g.p7)from rfl,R4 hg.1.1 hg.1.2]
 simp only[aH3]
 rw[show((!true||decide (g.N4< -1))||decide (g.N4>15))=false by simp only[aP9,dQ6,bZ2,fk7];omega,Ar.en4 _ _ _ (by omega),Ar.ej6.2 h]
 simp only[fj6,aH3]
 rw[show(((0:Int) !=0))=false from rfl,show(((decide ((300:Int)<0)||decide ((300:Int)>20000))||decide ((1000:Int)<0))||decide ((1000:Int)>20000))=false from rfl,Ar.dW5 h h19]
 simp only[fj6,aH3]
 rw[j6 (n:=g.p7-1000) (by omega) (by omega),j6 (n:=g.p7+300) (by omega) (by omega)]
 simp only[aq3,ao3]
 rfl
structure cI8 (t:o8):Prop where
 air:cW3 t=true
 eM1:bK9 t=true
 tor:aZ4 t=true
 dead:(bx0 t.aw2&&t.aw2.Y.all (inR 0 10000))=true
 cy4:bp0 t.aI4=true
 idle:cA4 t.ae6=true
structure Giv (t:o8)(e:o6)(b:L4)(c:A7)(i:W5):Prop where
 t:cd8 t=true
 b:aW2 b=true
 c:bz1 e c=true
 i:eh7 i (e.u6.length:Int)=true
theorem dg8 {t:o8}(h:cd8 t=true):cI8 t:=by
 unfold cd8 at h
 have h':=h
 simp only[aJ5]at h'
 exact⟨h'.1.1.1.1.1,h'.1.1.1.1.2,h'.1.1.1.2,by rw[aJ5];exact h'.1.1.2,h'.1.2,h'.2⟩
structure cZ1 (e:o6)(c:A7):Prop where
 eng:Ev.aB5 e
 ped:cY2 c.I7=true
 mix:cQ4 c.Q1=true
 num:c.aa6.length=e.u6.length
 kno:c.aa6.all knB=true
 sum:bV1 c.ae6
 aF8:0<=c.P0/\c.P0<=1073741824
 gra:granted c.af2
theorem ce9 {e:o6}{c:A7}:bz1 e c=true↔cZ1 e c:=by
 unfold bz1
 simp only[aJ5,fk4,ba4]
 exact⟨fun⟨⟨⟨⟨⟨⟨⟨⟨a,b⟩,d⟩,f⟩,g⟩,h⟩,i⟩,j⟩,k⟩=>⟨a,b,d,f,g,h,i,j,k⟩,fun⟨a,b,d,f,g,h,i,j,k⟩=>⟨⟨⟨⟨⟨⟨⟨⟨a,b⟩,d⟩,f⟩,g⟩,h⟩,i⟩,j⟩,k⟩⟩
structure dp5 (i:W5)(n:Nat):Prop where
 num:1<=n/\n<=8
 len:i.X0.length=n
 few:i.Requests.length<=30
 spd:0<=i.D2/\i.D2<=12000
 pre:50<=i.L3/\i.L3<=3000
 air:-40<=i.L7/\i.L7<=150
 coo:-40<=i.au8/\i.au8<=150
 vol:0<=i.aI6/\i.aI6<=20000
 lam:0<=i.Lambda/\i.Lambda<=20000
 int:i.X0.all (inR 0 4095)=true
 req:i.Requests.all cT1=true
theorem eh8 {i:W5}{n:Nat}:eh7 i (n:Int)=true↔dp5 i n:=by
 unfold eh7
 simp only[aJ5,fk4,ba4]
 exact⟨fun⟨⟨⟨⟨⟨⟨⟨⟨⟨⟨a,b⟩,c⟩,d⟩,e⟩,f⟩,g⟩,h⟩,i⟩,j⟩,k⟩=>⟨by omega,by omega,c,d,e,f,g,h,i,j,k⟩,fun⟨a,b,c,d,e,f,g,h,i,j,k⟩=>⟨⟨⟨⟨⟨⟨⟨⟨⟨⟨by omega,by omega⟩,c⟩,d⟩,e⟩,f⟩,g⟩,h⟩,i⟩,j⟩,k⟩⟩
def dX9 (s:F7)(g:aW0)(c v:Int):F7×Int×Int:=(aE7 s g (cy1 c) v).getD (⟨0⟩,0,0)
theorem dP9 {s:F7}{g:aW0}(hg:cA4 g=true)(hs:bV1 s){c v:Int}(c0:-40<=c/\c<=150)(v0:0<=v/\v<=12000):aE7 s g (cy1 c) v=some ((dX9 s g c v).1,(dX9 s g c v).2.1,0)/\bV1 (dX9 s g c v).1:=by
 obtain⟨s',u,h1,h2⟩:=eo2 hg hs c0 v0
 unfold dX9
 rw[h1]
 exact⟨rfl,h2⟩
section
variable (t:o8) (e:o6) (b:L4) (c:A7) (i:W5)
def pdV:U2:=dx9 c.I7 i.bG0 i.bG1
def wsV:Int:=dC4 t (pdV c i).Value i.D2
def acV:Bool:=dD8 (pdV c i).Value i.D2 i.au8
def idV:F7:=bif acV c i then(dX9 c.ae6 t.ae6 i.au8 i.D2).1 else⟨0⟩
def rqV:List j2:=⟨0,3,wsV t c i,0⟩::((bif acV c i then [⟨1,2,min (max (dX9 c.ae6 t.ae6 i.au8 i.D2).2.1 (-5000)) 10000,1⟩]else [])++i.Requests)
def grV:Z8:=dk8 c.af2 (rqV t c i)
def wtV:Int:=max 0 (grV t c i).p7
def thV (w:Int):Int:=
 let r2:=(ap1 t i.D2 w).getD (0,0)
 let r3:=(au9 t i.D2 (max 0 (bif r2.2 !=0 then 1048576 else r2.1)) i.L7).getD (0,0)
 let p:=min 1012 (bif r3.2 !=0 then 3000 else r3.1)
 let r5:=(av0 b (dc9 i.D2 p) p).getD (0,0)
 bif r5.2 !=0 then 1000 else r5.1
def cgV:Int:=chV t i.D2 i.L3 i.L7
def shV (w n:Int):Int×Int×Int:=(al9 t i.D2 (cgV t i) w n).getD (0,0,0)
def msV:Int:=min 1048576 ((cgV t i*10000/147000)*cO1 (mxV c.Q1 i.Lambda) i.D2 (cgV t i)/1000)
def waV:Int×Int×Int:=(aJ3 b c.P0 (msV t c i)).getD (0,0,0)
def inV (f:Int):Int×Int:=bif (f==0)||((waV t b c i).2.2 !=0)then(0,c.P0-ay3 b c.P0)else((waV t b c i).1,(waV t b c i).2.1)
def tmV (j:Int):Int:=bif decide (j>0)then min (max (cAt t.aw2 i.aI6+eW4 j) 200) 20000 else 0
def tkV:Int:=min (max (60000000/max 1 i.D2) 4000) 1000000
def fiV (n:Nat)(f l tm:Int)(k:Nat):A1:=
 ⟨(k:Int)+1,max (-1280) (dU4 t i.D2 (cgV t i) i.au8 ((ksV c.aa6 i.X0).getD k ⟨0,0,0⟩).as9-l),max 500 (cu7 t i.aI6 (tkV i)),5760,bif cF4 n f (k:Int)then tm else 0,0,0⟩
end
structure eN0 (t:o8)(e:o6)(b:L4)(c:A7)(i:W5)(f l:Int):Prop where
 sh:shV t i (wtV t c i) (e.u6.length:Int)=(f,l,0)
 ok:ez8 t (cR1 t i.D2 (cgV t i)) (wtV t c i) (e.u6.length:Int) f l
def nxC (t:o8)(b:L4)(c:A7)(i:W5)(f:Int):A7:=⟨pdV c i,idV t c i,ksV c.aa6 i.X0,mxV c.Q1 i.Lambda,(inV t b c i f).2,grV t c i⟩
def fc5 (t:o8)(e:o6)(b:L4)(c:A7)(i:W5)(f l:Int):O5:=⟨thV t b i (wtV t c i),(dp9 e.u6.length).map (fiV t c i e.u6.length f l (tmV t i (inV t b c i f).1)),bN7 t (cR1 t i.D2 (cgV t i)) l f (e.u6.length:Int)⟩
theorem fj9 (w:Int)(h: -5000<=w/\w<=10000):Ar.co7 ⟨0,3,w,0⟩:=
 ⟨⟨(by decide:(0:Int)<=0),(by decide:(0:Int)<=15)⟩,⟨(by decide:(0:Int)<=0),(by decide:(0:Int)<=15)⟩,h,.inr ⟨(by decide:(0:Int)<=1),.inr rfl⟩⟩
theorem fd0 (w:Int)(h: -5000<=w/\w<=10000):Ar.co7 ⟨1,2,w,1⟩:=
 ⟨⟨(by decide:(0:Int)<=1),(by decide:(1:Int)<=15)⟩,⟨(by decide:(0:Int)<=1),(by decide:(1:Int)<=15)⟩,h,.inr ⟨(by decide:(1:Int)<=1),.inl rfl⟩⟩
theorem dg0 {t:o8}{c:A7}{i:W5}{n:Nat}(hi:dp5 i n):Ar.cW0 (rqV t c i) (-5000) 10000:=by
 have hw:=dM3 t (pdV c i).Value i.D2
 have hr:=hi.few
 refine⟨fun r h=>?_,?_,by omega,by omega,by omega⟩
 ·unfold rqV at h
  rcases ch6.1 h with rfl|h
  ·exact fj9 _ hw
  ·rcases cI5.1 h with h|h
   ·cases ha:acV c i
    ·rw[ha]at h;simp at h
    ·rw[ha]at h
     simp only[fj8,ch6,eL8,or_false]at h
     subst h
     exact fd0 _ ⟨by omega,by omega⟩
   ·have:=bN8.1 hi.req r h
    rw[co8,fk4]at this
    exact this
 ·unfold rqV
  rw[bq0,aY1]
  cases acV c i<;>simp<;>omega
theorem aj6 (s:o5)(h:s.fail=0):u7 s 0=some s:=by
 unfold u7
 rw[h]
 simp only[beq_self_eq_true,fj8]
 cases s
 simp only at h
 subst h
 rfl
theorem ec7 {t:o8}{e:o6}{b:L4}{c:A7}{i:W5}{n:Nat}(ht:cI8 t)(hc:cZ1 e c)(hi:dp5 i n)(h17:i.Requests.length<=17):
  W7 ⟨t,e,b,c,i,0,0,0,0,[],0,⟨0,[],0⟩,0⟩=some ⟨t,e,b,⟨pdV c i,idV t c i,c.aa6,c.Q1,c.P0,grV t c i⟩,i,wtV t c i,0,0,0,[],0,⟨0,[],0⟩,0⟩:=by
 obtain⟨p1,p2⟩:=cR6 hc.ped i.bG0 i.bG1
 have p3:=(dR2.1 p2).v
 have hw:=eJ0 ht.cy4 (v:=(dx9 c.I7 i.bG0 i.bG1).Value) p3 hi.spd
 have ha:=ef6 (v:=(dx9 c.I7 i.bG0 i.bG1).Value) (s:=i.D2) hi.coo
 obtain⟨d1,d2⟩:=dP9 ht.idle hc.sum hi.coo hi.spd
 have hf:=dg0 (t:=t) (c:=c) hi
 have hst:=eh9 hc.gra hf (by unfold rqV;rw[bq0,aY1];cases acV c i<;>simp<;>omega)
 have hrl:=hi.few
 unfold W7
 simp only
 rw[p1]
 simp only[aH3]
 rw[aj6 _ rfl]
 simp only[aH3]
 rw[hw]
 simp only[aH3]
 rw[aj6 _ rfl]
 simp only[aH3]
 rw[ha,(dL6 hi.coo).1]
 simp only[aH3]
 unfold grV wtV grV
 unfold idV rqV acV wsV pdV at*
 cases hac:dD8 (dx9 c.I7 i.bG0 i.bG1).Value i.D2 i.au8
 ·rw[hac]at hst
  simp only[fj6,aH3,cL8]at hst|-
  rw[H7 _ _ (by simp only[bq0,cr1];omega)]
  simp only[aH3,dC8,cL8]
  show ai5 (ai5 (ap4 c.af2 _ _ _ _ _) _) _=_
  rw[hst]
  simp only[aH3]
  rw[aj6 _ rfl]
  simp only[aH3,ao3]
 ·rw[hac]at hst
  simp only[fj8,dC8,cL8]at hst|-
  show ai5 (ai5 (ai5 (aE7 c.ae6 t.ae6 (cy1 i.au8) i.D2) _) _) _=_
  rw[d1]
  simp only[aH3]
  rw[aj6 _ rfl]
  simp only[aH3,aC7,aq3,ao3]
  rw[H7 _ _ (by simp only[bq0,cr1];omega)]
  simp only[aH3]
  rw[H7 _ _ (by simp only[aY1,bq0,cr1];omega)]
  simp only[aH3,dC8,cL8]
  show ai5 (ai5 (ap4 c.af2 _ _ _ _ _) _) _=_
  rw[hst]
  simp only[aH3]
  rw[aj6 _ rfl]
  simp only[aH3]
theorem or_eq (x e o:Int):au1 x e o=some (bif e !=0 then o else x):=by unfold au1;cases e !=0<;>rfl
theorem dA4 {t:o8}{b:L4}{i:W5}{n:Nat}(ht:cI8 t)(hb:aW2 b=true)(hi:dp5 i n)(e:o6)(c:A7)(w:Int):
  T8 ⟨t,e,b,c,i,w,0,0,0,[],0,⟨0,[],0⟩,0⟩=some ⟨t,e,b,c,i,w,0,0,0,[],0,⟨thV t b i w,[],0⟩,0⟩/\0<=thV t b i w/\thV t b i w<=1000:=by
 obtain⟨c2,e2,h2,_,_,_⟩:=ep3 ht.tor (w:=w) hi.spd
 unfold T8 thV
 simp only
 rw[h2]
 simp only[aH3,or_eq,ez0,ao3]
 generalize max 0 (bif e2 !=0 then(1048576:Int)else c2)=x
 obtain⟨p,e3,h3,k3⟩:=dy4 ht.air (w:=x) hi.spd hi.air
 rw[h3]
 simp only[aH3,ez0,aq3]
 have hp:50<=(min 1012 (bif e3 !=0 then(3000:Int)else p))/\(min 1012 (bif e3 !=0 then(3000:Int)else p))<=1012:=by
  cases he:e3 !=0
  ·have h0:e3=0:=by simpa using he
   have:=k3.fit h0
   simp only[fj6];omega
  ·simp only[fj8];omega
 generalize min 1012 (bif e3 !=0 then(3000:Int)else p)=q at hp
 obtain⟨f1,f2,f3⟩:=eC9 (s:=i.D2) (p:=q) hi.spd (by omega)
 rw[f1]
 simp only[aH3]
 rw[aj6 _ rfl]
 simp only[aH3]
 obtain⟨y,e5,h5,k5⟩:=dB5 hb (f:=dc9 i.D2 q) (p:=q) (by omega) (by omega)
 rw[h5]
 simp only[aH3,ez0]
 refine⟨trivial,?_⟩
 cases he:e5 !=0
 ·have h0:e5=0:=by simpa using he
  have:=k5.fit h0
  simp only[fj6];omega
 ·simp only[fj8];omega
theorem be6 {t:o8}(ht:cI8 t)(i:W5):0<=cgV t i/\cgV t i<=1048576:=(db1 ht.air i.D2 i.L3 i.L7).2
theorem fd5 {t:o8}{i:W5}{n:Nat}(ht:cI8 t)(hi:dp5 i n){w:Int}(hw:0<=w):∃f l,shV t i w (n:Int)=(f,l,0)/\al9 t i.D2 (cgV t i) w (n:Int)=some (f,l,0)/\ez8 t (cR1 t i.D2 (cgV t i)) w (n:Int) f l:=by
 have hn:=hi.num
 obtain⟨f,l,h1,h2⟩:=eu5 ht.tor hi.spd (be6 ht i) hw (n:=(n:Int)) (by omega)
 exact⟨f,l,by unfold shV;rw[h1];rfl,h1,h2⟩
theorem ev6 {t:o8}{i:W5}{e:o6}(ht:cI8 t)(hi:dp5 i e.u6.length){w f l:Int}(h:al9 t i.D2 (cgV t i) w (e.u6.length:Int)=some (f,l,0))(k:ez8 t (cR1 t i.D2 (cgV t i)) w (e.u6.length:Int) f l)(b:L4)(c:A7)(th:Int):
  aa0 ⟨t,e,b,c,i,w,0,0,0,[],0,⟨th,[],0⟩,0⟩=
   some ⟨t,e,b,c,i,w,cgV t i,f,l,(dp9 e.u6.length).map (fun j:Nat=>cF4 (e.u6.length:Int) f (j:Int)),0,⟨th,[],bN7 t (cR1 t i.D2 (cgV t i)) l f (e.u6.length:Int)⟩,0⟩:=by
 have hn:=hi.num
 have k1:=k.f0;have k2:=k.f1;have k3:=k.l0;have k4:=k.l1
 unfold aa0
 simp only
 rw[ci4 ht.air hi.spd hi.pre hi.air]
 simp only[aH3]
 rw[aj6 _ rfl]
 simp only[aH3]
 rw[show chV t i.D2 i.L3 i.L7=cgV t i from rfl,h]
 simp only[aH3]
 rw[aj6 _ rfl]
 simp only[aH3]
 rw[dJ2 hn ⟨k1,k2⟩]
 simp only[aH3]
 rw[aj6 _ rfl]
 simp only[aH3]
 rw[ed5 ht.tor hi.spd (be6 ht i) ⟨k3,k4⟩ ⟨k1,k2⟩ (by omega)]
 simp only[aH3]
 rw[aj6 _ rfl]
 simp only[aH3]
theorem dw6 {t:o8}{c:A7}{i:W5}(ht:cI8 t):(0<=cgV t i*10000/147000/\cgV t i*10000/147000<=80000)/\(0<=(cgV t i*10000/147000)*cO1 (mxV c.Q1 i.Lambda) i.D2 (cgV t i)/\(cgV t i*10000/147000)*cO1 (mxV c.Q1 i.Lambda) i.D2 (cgV t i)<=80000*1300)/\0<=msV t c i/\msV t c i<=1048576:=by
 have h1:=be6 ht i
 have h2:=dW9 (mxV c.Q1 i.Lambda) i.D2 (cgV t i)
 have h3:0<=cgV t i*10000/147000/\cgV t i*10000/147000<=80000:=by omega
 have h4:=aV6 h3.1 h3.2 (show 0<=cO1 (mxV c.Q1 i.Lambda) i.D2 (cgV t i) by omega) h2.2
 refine⟨h3,h4,?_⟩
 unfold msV
 omega
theorem dT7 {t:o8}{b:L4}{e:o6}{c:A7}{i:W5}(ht:cI8 t)(hb:aW2 b=true)(hc:cZ1 e c):aJ3 b c.P0 (msV t c i)=some (waV t b c i)/\ef5 b c.P0 (msV t c i) (waV t b c i).1 (waV t b c i).2.1 (waV t b c i).2.2:=by
 obtain⟨j,x,e1,h1,h2⟩:=en3 hb hc.aF8 (dw6 (c:=c) (i:=i) ht).2.2
 unfold waV
 rw[h1]
 exact⟨rfl,h2⟩
theorem dv3 {t:o8}{b:L4}{e:o6}{c:A7}{i:W5}(ht:cI8 t)(hb:aW2 b=true)(hc:cZ1 e c)(f:Int):(0<=(inV t b c i f).1/\(inV t b c i f).1<=1048576)/\(0<=(inV t b c i f).2/\(inV t b c i f).2<=1073741824):=by
 obtain⟨_,k⟩:=dT7 (i:=i) ht hb hc
 have hl:=bz3 hb hc.aF8.1
 have hf:=hc.aF8
 unfold inV
 cases hz:(f==0)||((waV t b c i).2.2 !=0)
 ·rw[bZ2]at hz
  have h0:(waV t b c i).2.2=0:=by simpa using hz.2
  exact⟨k.inj h0,k.ran h0⟩
 ·simp only[fj8];omega
theorem eH8 {t:o8}{b:L4}{e:o6}{c:A7}{i:W5}{n:Nat}(ht:cI8 t)(hb:aW2 b=true)(hc:cZ1 e c)(hi:dp5 i n)(pd:U2)(id:F7)(gr:Z8)(w f l:Int)(pt:List Bool)(o:O5):
  ad7 ⟨t,e,b,⟨pd,id,c.aa6,c.Q1,c.P0,gr⟩,i,w,cgV t i,f,l,pt,0,o,0⟩=
   some ⟨t,e,b,⟨pd,id,c.aa6,mxV c.Q1 i.Lambda,(inV t b c i f).2,gr⟩,i,w,cgV t i,f,l,pt,tmV t i (inV t b c i f).1,o,0⟩:=by
 obtain⟨x1,x2⟩:=df0 hc.mix hi.lam hi.spd (be6 ht i)
 have hf:=eQ1 x2 hi.spd (be6 ht i)
 obtain⟨m1,m2,m3⟩:=dw6 (c:=c) (i:=i) ht
 obtain⟨w1,w2⟩:=dT7 (i:=i) ht hb hc
 have hr:=(dv3 (i:=i) ht hb hc f).1
 have hm:F5 1048576 (o4 (da1 (o4 ((cgV t i*10000/147000)*cO1 (mxV c.Q1 i.Lambda) i.D2 (cgV t i))) 1000))=msV t c i:=by
  unfold msV
  rw[j6 (n:=(cgV t i*10000/147000)*cO1 (mxV c.Q1 i.Lambda) i.D2 (cgV t i)) (by omega) (by omega),cr3 m2.1,j6 (by omega) (by omega),aq3]
 unfold ad7
 simp only
 rw[x1]
 simp only[aH3]
 rw[aj6 _ rfl]
 simp only[aH3]
 rw[hf]
 simp only[aH3]
 rw[aj6 _ rfl]
 simp only[aH3]
 rw[em8 (be6 ht i)]
 simp only[aH3]
 rw[aj6 _ rfl]
 simp only[aH3]
 rw[hm,w1]
 simp only[aH3]
 have hin:∀s:o5,s.b=b->s.c.P0=c.P0->s.fail=0->(bif ((f==0)||((waV t b c i).2.2 !=0))then(ai5 (aO8 b c.P0 0) fun r6=>ai5 (u7 s r6.2.2) fun v4=>some (0,r6.2.1,v4))else(some ((waV t b c i).1,(waV t b c i).2.1,s)))=some ((inV t b c i f).1,(inV t b c i f).2,s):=by
  intro s _ _ hs
  unfold inV
  cases(f==0)||((waV t b c i).2.2 !=0)
  ·rfl
  ·simp only[fj8]
   rw[em3 hb hc.aF8]
   simp only[aH3]
   rw[aj6 _ hs]
   rfl
 rw[hin _ rfl rfl rfl]
 simp only[aH3]
 unfold tmV
 cases hj:decide ((inV t b c i f).1>0)
 ·rfl
 ·have hj':=of_decide_eq_true hj
  simp only[fj8]
  show ai5 (aO9 t (inV t b c i f).1 i.aI6) _=_
  rw[en0 ht.dead ⟨hj',hr.2⟩ hi.vol]
  simp only[aH3]
  rw[aj6 _ rfl]
  simp only[aH3,aC7,aq3,ao3]
theorem ev4 {t:o8}{e:o6}{c:A7}{i:W5}(ht:cI8 t)(hc:cZ1 e c)(hi:dp5 i e.u6.length)(b:L4)(pd:U2)(id:F7)(pb:M8)(fm:Int)(gr:Z8)(w f l tm th to_:Int)(hl:0<=l/\l<=2560):
  Z9 ⟨t,e,b,⟨pd,id,c.aa6,pb,fm,gr⟩,i,w,cgV t i,f,l,(dp9 e.u6.length).map (fun j:Nat=>cF4 (e.u6.length:Int) f (j:Int)),tm,⟨th,[],to_⟩,0⟩=
   some ⟨t,e,b,⟨pd,id,ksV c.aa6 i.X0,pb,fm,gr⟩,i,w,cgV t i,f,l,(dp9 e.u6.length).map (fun j:Nat=>cF4 (e.u6.length:Int) f (j:Int)),tm,⟨th,(dp9 e.u6.length).map (fiV t c i e.u6.length f l tm),to_⟩,0⟩:=by
 have hn:=hi.num
 have hs:=hi.spd
 obtain⟨k1,k2,k3⟩:=eL2 hc.kno hi.int (by rw[hc.num];exact hn) (by rw[hc.num];exact hi.len)
 rw[hc.num]at k3
 have hk2:=bN8.1 k2
 have hq:0<=60000000/max 1 i.D2/\60000000/max 1 i.D2<=60000000:=⟨eN3 (by omega) (by omega),eL3 _ (by omega)⟩
 have htk:4000<=tkV i/\tkV i<=1000000:=by unfold tkV;omega
 obtain⟨d1,d2,d3⟩:=el5 ht.eM1 ht.tor hi.vol htk
 unfold Z9
 simp only
 rw[k1]
 simp only[aH3]
 rw[aj6 _ rfl]
 simp only[aH3]
 rw[ao3,eG4 (by omega) (by omega) (by omega)]
 simp only[aH3,aC7,aq3,ao3]
 rw[show min (max (60000000/max 1 i.D2) 4000) 1000000=tkV i from rfl,d1]
 simp only[aH3]
 rw[aj6 _ rfl]
 simp only[aH3]
 rw[show(((0:Int) !=0))=false from rfl]
 simp only[fj6]
 generalize hP:(dp9 e.u6.length).map (fun j:Nat=>cF4 (e.u6.length:Int) f (j:Int))=P
 have hPl:P.length=e.u6.length:=by rw[<-hP];simp
 have hPg:∀j,j<e.u6.length->P[j]? =some (cF4 (e.u6.length:Int) f (j:Int)):=fun j hj=>by rw[<-hP,cG5,List.getElem?_range hj];rfl
 obtain⟨u,eu,hu⟩:=ai6 e.u6.length (by omega) (ad4 (cu7 t i.aI6 (tkV i),0)) (fun k u=>u=⟨t,e,b,⟨pd,id,ksV c.aa6 i.X0,pb,fm,gr⟩,i,w,cgV t i,f,l,P,tm,⟨th,(dp9 k).map (fiV t c i e.u6.length f l tm),to_⟩,0⟩)
  ⟨t,e,b,⟨pd,id,ksV c.aa6 i.X0,pb,fm,gr⟩,i,w,cgV t i,f,l,P,tm,⟨th,[],to_⟩,0⟩ rfl (fun j hj u hu=>by
   subst hu
   have hj2:j<(ksV c.aa6 i.X0).length:=by omega
   have hr:=(eS0.1 (hk2 _ (ba6 hj2))).r
   have hang:=dU5 t i.D2 (cgV t i) i.au8 (ksV c.aa6 i.X0)[j].as9
   unfold ad4
   simp only
   rw[C7 _ _ hj2]
   simp only[aH3]
   rw[eg6 ht.eM1 ht.tor hi.spd (be6 ht i) hi.coo ⟨hr.1,by omega⟩]
   simp only[aH3]
   rw[aj6 _ rfl]
   simp only[aH3]
   rw[T5,hPg j hj]
   simp only[aH3]
   have hb:(bif cF4 (e.u6.length:Int) f (j:Int)then(some tm)else(some 0))=some (bif cF4 (e.u6.length:Int) f (j:Int)then tm else 0):=by cases cF4 (e.u6.length:Int) f (j:Int)<;>rfl
   rw[hb]
   simp only[aH3]
   rw[H7 _ _ (by simp only[cr4,List.length_range,bq0,cr1];omega)]
   simp only[aH3]
   refine⟨_,rfl,?_⟩
   rw[List.range_succ,eC3,cS3,ek7]
   unfold fiV
   rw[j6 (n:=(j:Int)+1) (by omega) (by omega),j6 (by omega) (by omega),ao3,ao3,cW2,aK2 hj2]
   rfl)
 rw[eu,hu]
 rfl
theorem ek8 {t:o8}{e:o6}{b:L4}{c:A7}{i:W5}(h:Giv t e b c i)(h17:i.Requests.length<=17):∃f l,eN0 t e b c i f l/\aF1 t e b c i=some (nxC t b c i f,fc5 t e b c i f l,0):=by
 have ht:=dg8 h.t
 have hc:=ce9.1 h.c
 have hi:=eh8.1 h.i
 obtain⟨f,l,s1,s2,s3⟩:=fd5 ht hi (w:=wtV t c i) (by unfold wtV;omega)
 refine⟨f,l,⟨s1,s3⟩,?_⟩
 unfold aF1
 rw[bi2,h.t,di4,h.b,dP4,h.c]
 simp only[aH3,aP9,fj6]
 rw[eN8,h.i]
 simp only[aH3,aP9,fj6]
 rw[ec7 ht hc hi h17]
 simp only[aH3]
 rw[(dA4 ht h.b hi e _ (wtV t c i)).1]
 simp only[aH3]
 rw[ev6 ht hi s2 s3]
 simp only[aH3]
 rw[eH8 ht h.b hc hi]
 simp only[aH3]
 rw[ev4 ht hc hi _ _ _ _ _ _ _ _ _ _ _ _ ⟨s3.l0,s3.l1⟩]
 simp only[aH3]
 rfl
end Go.Pv
namespace Go.Proofs.YtmhdghdbojdgfaaGreat.Ec
open Go Go.Pv Go.Pv.Ec Go.Proofs
theorem cv3 (a c:Int)(ha0: -9223372036854775808<=a)(ha1:a<=9223372036854775807)(hc0:0<c)(hc1:c<=9223372036854775807):(V3 a c).m=some (a/c):=by
 rw[aQ8]
 exact bR9 a c ha0 ha1 hc0 hc1
theorem aT7 (x lo hi:Int):(C6 x lo hi).m=some (F5 (G7 x lo) hi):=rfl
theorem bm2 (x lo hi:Int)(h:lo<=hi):lo<=F5 (G7 x lo) hi/\F5 (G7 x lo) hi<=hi:=by
 unfold F5 G7
 split<;>split<;>omega
theorem dQ8 (p b:Int)(hb:0<b)(hb1:b<=1099511627776):∃r,(ab8 p b).m=some r/\0<=r/\r<b:=by
 simp only[ab8,C.of,M.run,L1.m]
 rw[show((b==0)||(b==(-1)))=false by simp;omega]
 simp only[fj6]
 have e:cg1 p b=some (ep0 p b):=by unfold cg1;rw[if_neg (by omega)]
 rw[e]
 simp only[aH3]
 have h1:(ep0 p b)<b:=Int.tmod_lt_of_pos p hb
 have h2:-b<ep0 p b:=by
  have h3:=Int.tmod_lt_of_pos (-p) hb
  rw[Int.neg_tmod]at h3
  omega
 generalize ep0 p b=q at h1 h2|-
 by_cases h3:q<0
 ·rw[show((q !=0)&&(!((decide (q<0))==(decide (b<0)))))=true by
   rw[fk0 h3,fk3 (by omega)];simp;omega]
  exact⟨_,rfl,by rw[j6 (by omega) (by omega)];omega,by rw[j6 (by omega) (by omega)];omega⟩
 ·rw[show((q !=0)&&(!((decide (q<0))==(decide (b<0)))))=false by
   rw[fk3 h3,fk3 (by omega)];simp]
  exact⟨_,rfl,by omega,h1⟩
theorem cU2 {α S R:Type}(f:Int->α->S->Option (Fl S R))(I:Nat->S->Prop):∀(r:List α) (k:Nat) (s:S),I k s->(∀j x s,r[j]? =some x->I (k+j) s->∃s',f ((k+j:Nat):Int) x s=some (.next s')/\I (k+j+1) s')->
  ∃s',L9 f r (k:Int) s=some (.inl s')/\I (k+r.length) s'
 |[],k,s,h,_=>⟨s,by simp[L9],h⟩
 |x::r,k,s,h,g=>by
  obtain⟨s',h1,h2⟩:=g 0 x s rfl h
  obtain⟨t,h3,h4⟩:=cU2 f I r (k+1) s' h2 (fun j y u hy hu=>by
   have:=g (j+1) y u (by simpa using hy) (by rw[show k+(j+1)=k+1+j by omega];exact hu)
   rw[show k+(j+1)=k+1+j by omega]at this
   exact this)
  refine⟨t,?_,by rw[bq0,show k+(r.length+1)=k+1+r.length by omega];exact h4⟩
  simp only[L9]
  rw[show((k:Nat):Int)=((k+0:Nat):Int) by rfl,h1]
  simp only[aH3]
  exact h3
theorem au4 {α S R:Type}(l:List α)(hn:l.length<=9223372036854775807)(f:Int->α->S->Option (Fl S R))(I:Nat->S->Prop)(s:S)(h0:I 0 s)(h:∀k x s,l[k]? =some x->I k s->∃s',f (k:Int) x s=some (.next s')/\I (k+1) s'):
  ∃s',L5 (fun p:Int×S=>bif decide (p.1<(l.length:Int))then((D4 l p.1).bind fun x=>(f p.1 x p.2).bind (az5 p.1))else some (.inr (.inl p.2))) (0,s)=some (.inl s')/\I l.length s':=by
 have e:=K8 l hn f s
 obtain⟨s',h1,h2⟩:=cU2 f I l 0 s h0 (fun j x s hx hs=>by rw[cV7]at hs|-;exact h j x s hx hs)
 refine⟨s',?_,by rw[cV7]at h2;exact h2⟩
 exact e.trans h1
structure bG2 (b:L4)(p:Y6):Prop where
 body:aW2 b=true
 pos:0<=p.I8/\p.I8<=3019898879
 spd:0<=p.D2/\p.D2<=262144
 rest:0<=p.Rest/\p.Rest<=b.ai7-1
 pre:50<=p.L3/\p.L3<=1013
 aF8:0<=p.P0/\p.P0<=2147483648
 few:(p.Path.length:Int)<=b.aX9+1
 path:∀x∈p.Path,500<=x/\x<=2000
theorem cw7 (x a b:Int):(F8 x a b).m=some (decide (x>=a)&&decide (x<=b)):=rfl
theorem df5 {x a b:Int}(h:a<=x/\x<=b):(F8 x a b).m=some true:=by
 rw[cw7,fk0 (by omega),fk0 (by omega)];rfl
theorem dy2 (b:L4):(aj3 b).m=some (aW2 b):=by rw[bt0,di4]
theorem dn1 {b:L4}{p:Y6}(h:bG2 b p):(bv3 b p).m=some true:=by
 have hb:=bs7 h.body
 have h1:=hb.i
 simp only[bv3,C.of,M.run,dy2,h.body,aH3,df5 h.pos,df5 h.spd,df5 h.pre,df5 h.aF8,j6 (n:=b.ai7-1) (by omega) (by omega),df5 h.rest,aP9,fj6]
 rw[j6 (n:=b.aX9+1) (by have:=hb.de;omega) (by have:=hb.de;omega),fk3 (by have:=h.few;omega)]
 simp only[eM3,fj6]
 obtain⟨u,h2,_⟩:=au4 p.Path (by have:=h.few;have:=hb.de;omega) (fun i x (s:Unit)=>(bB3 i x s).run) (fun _ _=>True) () trivial (fun k x s hx _=>by
  refine⟨(),?_,trivial⟩
  simp only[bB3,M.run,df5 (h.path x (cY9 hx)),aH3,aP9,fj6])
 rw[h2]
 rfl
theorem dT5 (n:Int):-9223372036854775808<=o4 n/\o4 n<=9223372036854775807:=by
 unfold o4 IntKind.wrap
 simp[IntKind.signed,eT7]
 omega
theorem er8 {w:ap3}{q r g:Int}(hb:aW2 w.b=true):
  ∃v r',(bg2 w q r g).m=some ⟨⟨w.A6.I8,v,r',w.A6.L3,w.A6.P0,w.A6.Path⟩,w.b⟩/\(0<=v/\v<=262144)/\(0<=r'/\r'<=w.b.ai7-1):=by
 have h1:=(bs7 hb).i
 simp only[bg2,CG.of,M.run]
 generalize hn:o4 ((o4 ((o4 ((o4 (q-r))-(o4 (da1 (o4 (w.b.ap2*w.A6.D2)) 65536))))*g))+w.A6.Rest)=n
 have h2:-9223372036854775808<=n/\n<=9223372036854775807:=hn▸dT5 _
 obtain⟨m,h3,h4,h5⟩:=dQ8 n w.b.ai7 (by omega) (by omega)
 rw[cv3 n w.b.ai7 h2.1 h2.2 (by omega) (by omega),h3]
 simp only[aH3]
 cases(decide (o4 (w.A6.D2+n/w.b.ai7)<0)||decide (o4 (w.A6.D2+n/w.b.ai7)>262144))
 ·simp only[fj6,aH3,aT7]
  exact⟨_,_,rfl,bm2 _ _ _ (by omega),h4,by omega⟩
 ·simp only[fj8,aH3,aT7]
  exact⟨_,_,rfl,bm2 _ _ _ (by omega),by omega,by omega⟩
theorem dy1 {w:ap3}{q r g:Int}(hb:aW2 w.b=true):
  ∃v,(aS2 w q r g).m=some ⟨⟨w.A6.I8,w.A6.D2,w.A6.Rest,v,w.A6.P0,w.A6.Path⟩,w.b⟩/\(50<=v/\v<=1013):=by
 have h1:=(bs7 hb).v
 simp only[aS2,CG.of,M.run]
 generalize hn:o4 ((o4 ((o4 (da1 (o4 ((o4 (w.b.J2*q))*(o4 (1013-w.A6.L3)))) 1000))-(o4 (da1 (o4 (r*w.A6.L3)) 1024))))*g)=n
 have h2:-9223372036854775808<=n/\n<=9223372036854775807:=hn▸dT5 _
 rw[j6 (n:=65536*w.b.aP2) (by omega) (by omega),cv3 n _ h2.1 h2.2 (by omega) (by omega)]
 simp only[aH3,aT7]
 exact⟨_,rfl,bm2 _ _ _ (by omega)⟩
theorem eG1 {b:L4}{p:Y6}(h:bG2 b p)(a t l g:Int):∃r u e,(cf7 b p a t l g).m=some (r,u,e)/\(e=0->bG2 b r):=by
 have hb:=bs7 h.body
 simp only[cf7,C.of,M.run,dn1 h,cw7,aH3,aP9,fj6,bg,U1.m]
 generalize hc:(bif (bif (bif (!(decide (a>=0)&&decide (a<=1000)))then true else !(decide (t>= -5000)&&decide (t<=10000)))then true else !(decide (l>= -10000)&&decide (l<=10000)))then true else !(decide (g>=1)&&decide (g<=10000)))=c
 cases c
 ·have hg:1<=g/\g<=10000:=by
   simp only[fg0,bZ2,dT6,aJ5,fk4]at hc
   omega
  have hf:=h.few
  rw[H7 _ _ (by simp only[cr1];have:=hb.de;omega)]
  simp only[fj6,aH3,cL8]
  obtain⟨v,r,e1,h1,h2⟩:=er8 (w:=⟨⟨p.I8,p.D2,p.Rest,p.L3,p.P0,p.Path⟩,b⟩) (q:=t) (r:=l) (g:=g) h.body
  rw[e1]
  simp only[aH3]
  obtain⟨v3,e3,h3⟩:=dy1 (w:=⟨⟨(o4 (p.I8+o4 (p.D2*g))).tmod 3019898880,v,r,p.L3,p.P0,p.Path⟩,b⟩) (q:=a) (r:=p.D2) (g:=g) h.body
  rw[e3]
  refine⟨_,_,_,rfl,fun _=>⟨h.body,?_,h1,h2,h3,h.aF8,hf,h.path⟩⟩
  have hm0:0<=p.D2*g:=eQ2 h.spd.1 (by omega)
  have hm1:p.D2*g<=262144*10000:=eP0 h.spd.2 hg.2 (by omega) (by omega)
  have hp:=h.pos
  rw[j6 (n:=p.D2*g) (by omega) (by omega),j6 (by omega) (by omega),dp1 (by omega)]
  have:=Int.emod_lt_of_pos (p.I8+p.D2*g) (show(0:Int)<3019898880 by omega)
  refine⟨Int.emod_nonneg _ (by omega),?_⟩
  simp only
  omega
 ·exact⟨_,_,_,rfl,fun h=>by cases h⟩
theorem eb0 {b:L4}{p:Y6}(h:bG2 b p)(f a:Int):∃r u e,(bK0 b p f a).m=some (r,u,e)/\(e=0->bG2 b r):=by
 have hb:=bs7 h.body
 simp only[bK0,C.of,M.run,dn1 h,cw7,aH3,aP9,fj6,bg,U1.m,L1.m]
 generalize hc:(bif (!(decide (f>=0)&&decide (f<=1048576)))then true else !(decide (a>=0)&&decide (a<=1048576)))=c
 cases c
 ·have hg:(0<=f/\f<=1048576)/\0<=a/\a<=1048576:=by
   simp only[fg0,bZ2,dT6,aJ5,fk4]at hc
   omega
  have hf:=h.few
  have hfi:=hb.fi;have hev:=hb.ev;have hfl:=h.aF8
  have a0:0<=f*b.P0:=eQ2 hg.1.1 hfi.1
  have a1:f*b.P0<=1048576*1023:=eP0 hg.1.2 hfi.2 (by omega) (by omega)
  have b0:0<=p.P0*b.L2:=eQ2 hfl.1 (by omega)
  have b1:p.P0*b.L2<=p.P0*1024:=ec5 hev.2 hfl.1
  have b2:p.P0*1<=p.P0*b.L2:=ec5 hev.1 hfl.1
  generalize f*b.P0=A at a0 a1|-
  generalize p.P0*b.L2=B at b0 b1 b2|-
  rw[j6 (n:=A) (by omega) (by omega),j6 (n:=B) (by omega) (by omega),cr3 a0,cr3 b0]
  rw[j6 (n:=A/1024) (by omega) (by omega),j6 (n:=B/1024) (by omega) (by omega),j6 (n:=f-A/1024) (by omega) (by omega),j6 (n:=A/1024-B/1024) (by omega) (by omega),
   j6 (n:=f-A/1024+B/1024) (by omega) (by omega),j6 (n:=p.P0+(A/1024-B/1024)) (by omega) (by omega),j6 (n:=10000*a) (by omega) (by omega),j6 (n:=147*(f-A/1024+B/1024)) (by omega) (by omega),j6 (n:=b.aX9+1) (by have:=hb.de;omega) (by have:=hb.de;omega)]
  have key:∃m,(bif decide (f-A/1024+B/1024>0)then(bn5 .i64 (10000*a) (147*(f-A/1024+B/1024))).bind fun t=>(C6 t 500 2000).m.bind fun t=>some t else some 2000)=some m/\500<=m/\m<=2000:=by
   by_cases hp:f-A/1024+B/1024>0
   ·rw[fk0 hp,es2 (by omega) (by omega) (by omega)]
    simp only[fj8,aH3,aT7]
    exact⟨_,rfl,bm2 _ _ _ (by omega)⟩
   ·rw[fk3 hp];exact⟨_,rfl,by omega,by omega⟩
  obtain⟨m,e1,h1⟩:=key
  rw[e1]
  have hde:=hb.de
  rw[H7 _ _ (by simp only[cr1];omega)]
  simp only[fj6,aH3,cL8]
  rw[H7 _ _ (by simp only[cr0];omega)]
  simp only[aH3]
  have hx:∀x∈p.Path++[m],500<=x/\x<=2000:=fun x hx=>by
   rcases cI5.1 hx with h2|h2
   ·exact h.path x h2
   ·rw[eM2]at h2;subst h2;exact h1
  have hl:(p.Path++[m]).length=p.Path.length+1:=by simp
  have hfm:0<=p.P0+(A/1024-B/1024)/\p.P0+(A/1024-B/1024)<=2147483648:=by omega
  by_cases hd:((p.Path++[m]).length:Int)>b.aX9+1
  ·rw[fk0 hd]
   have:ay4 (p.Path++[m]) 1 ((p.Path++[m]).length:Int)=some (((p.Path++[m]).drop 1).take ((p.Path++[m]).length-1)):=by
    unfold ay4
    rw[if_pos (by omega)]
    rfl
   rw[this]
   simp only[fj8,aH3]
   refine⟨_,_,_,rfl,fun _=>⟨h.body,h.pos,h.spd,h.rest,h.pre,hfm,?_,fun x h2=>hx x (eX1 (ey8 h2))⟩⟩
   simp only[bE9,dh0]
   omega
  ·rw[fk3 hd]
   simp only[fj6,aH3]
   exact⟨_,_,_,rfl,fun _=>⟨h.body,h.pos,h.spd,h.rest,h.pre,hfm,by simp only;omega,hx⟩⟩
 ·exact⟨_,_,_,rfl,fun h=>by cases h⟩
theorem df6 (p:Y6):∃x,(bK1 p).m=some x:=by
 simp only[bK1,C.of,M.run,L1.m]
 cases h:p.Path with
 |nil=>exact⟨_,rfl⟩
 |cons x l=>exact⟨x,rfl⟩
theorem eT6 (b:L4):∃p e,(cw8 b).m=some (p,e)/\(e=0->bG2 b p):=by
 simp only[cw8,C.of,M.run,dy2,aH3]
 cases h:aW2 b
 ·exact⟨_,_,rfl,fun h=>by cases h⟩
 ·have hb:=bs7 h
  exact⟨_,_,rfl,fun _=>⟨h,by simp,by simp,⟨by simp,by have:=hb.i;simp only;omega⟩,by simp,by simp,by have:=hb.de;simp only[cr1];omega,by simp⟩⟩
theorem dh1 (s:j9)(l:List Int)(hl:l.length<=1000000)(hv:0<s.u.A6.D2/\s.u.A6.D2<=262144)(hp:0<=s.u.A6.I8/\s.u.A6.I8<=3019898879)(ht:0<=s.t/\s.t<=1099511627776)
  (he:∀x∈l,65536*x<=s.u.A6.I8+10000*s.u.A6.D2) (h0:∀x∈l,0<=x):
  ∃r,(aw6 s l).m=some r/\r.length=l.length/\(∀x∈r,x<=s.t+10000):=by
 simp only[aw6,CG.of,M.run]
 obtain⟨r,h1,h2,h3⟩:=au4 l (by omega) (fun i x (o:List Int)=>(aF4 s i x o).run) (fun k o=>o.length=k/\∀x∈o,x<=s.t+10000) [] ⟨rfl,by simp⟩ (fun k x o hx hI=>by
  have hk:=(bt7.1 hx).1
  have hm:=cY9 hx
  have e1:=he x hm
  have e0:=h0 x hm
  simp only[aF4,M.run,U1.m]
  rw[j6 (n:=65536*x) (by omega) (by omega),j6 (n:=s.u.A6.I8-65536*x) (by omega) (by omega),cv3 _ _ (by omega) (by omega) hv.1 (by omega)]
  simp only[aH3]
  rw[H7 _ _ (by simp only[cr0];omega)]
  have hq:-10000<=(s.u.A6.I8-65536*x)/s.u.A6.D2:=by
   rw[Int.le_ediv_iff_mul_le hv.1]
   omega
  have hq1:(s.u.A6.I8-65536*x)/s.u.A6.D2<=s.u.A6.I8:=by
   refine fg7 (Int.ediv_le_ediv hv.1 (show s.u.A6.I8-65536*x<=s.u.A6.I8 by omega)) (eL3 _ hp.1)
  refine⟨_,rfl,by simp only[aY1,cr0];omega,fun y hy=>?_⟩
  rcases cI5.1 hy with h4|h4
  ·exact hI.2 y h4
  ·rw[eM2]at h4
   subst h4
   rw[j6 (by omega) (by omega)]
   omega)
 rw[h1]
 exact⟨r,rfl,h2,h3⟩
end Go.Proofs.YtmhdghdbojdgfaaGreat.Ec
namespace Go.Pv
open Go
namespace Fr
theorem cp6 {α S R:Type}(f:Int->α->S->Option (Fl S R)):∀(l:List α) (i:Int) (s:S),(∀i,∀y∈l,∀s,∃x,f i y s=some x)->∃r,L9 f l i s=some r
 |[],i,s,_=>⟨_,rfl⟩
 |y::l,i,s,h=>by
  obtain⟨x,hx⟩:=h i y (bx8 ..) s
  simp only[L9,hx,aH3]
  cases x with
  |next s'=>exact cp6 f l (i+1) s' fun i y hy s=>h i y (bF8 _ hy) s
  |brk s'=>exact⟨_,rfl⟩
  |ret r=>exact⟨_,rfl⟩
theorem ds7 (l:List z8)(hl:l.length<=9223372036854775807):∃b,an4 l=some b:=by
 unfold an4
 rw[K8 _ hl]
 obtain⟨r,hr⟩:=cp6 aD4 l 0 [] (fun i y _ s=>by unfold aD4;cases cQ0 false s y.Code<;>exact⟨_,rfl⟩)
 rw[hr]
 cases r<;>exact⟨_,rfl⟩
structure cC4 (c:z8):Prop where
 fail:1<=c.bh2/\c.bh2<=100
 pass:1<=c.Pass/\c.Pass<=100
 eQ8:1<=c.cC5/\c.cC5<=100
 age:c.cC5<=c.Age/\c.Age<=255
 frame:0<=c.Frame/\c.Frame<=8
def cfB (c:z8):Bool:=((((((decide (c.Code>=1)&&decide (c.Code<=16777215))&&(decide (c.bh2>=1)&&decide (c.bh2<=100)))&&(decide (c.Pass>=1)&&decide (c.Pass<=100)))&&(decide (c.cC5>=1)&&decide (c.cC5<=100)))&&(decide (c.Age>=c.cC5)&&decide (c.Age<=255)))&&(decide (c.E7>=0)&&decide (c.E7<=255)))&&(decide (c.Frame>=0)&&decide (c.Frame<=8))
theorem eZ7 (c:z8):ad8 c=some (cfB c):=by
 unfold ad8 D7 cfB
 simp only[aH3,cJ7,ff1]
theorem cC4.of {c:z8}(h:cfB c=true):cC4 c:=by
 simp only[cfB,aJ5,fk4]at h
 obtain⟨⟨⟨⟨⟨⟨_,h1⟩,h2⟩,h3⟩,h4⟩,_⟩,h5⟩:=h
 exact⟨h1,h2,h3,h4,h5⟩
theorem ey5 (c:z8):an5 c=some (!cfB c):=by
 unfold an5;rw[eZ7];rfl
theorem cz5 (l:List z8)(hl:l.length<=9223372036854775807):I4 l an5=some (l.any fun c=>!cfB c):=by
 unfold I4 S5 W2
 exact ai0 l hl an5 (fun c=>!cfB c) (fun y _=>ey5 y)
def stN (b1 b2 b4 b8 b16:Bool):Int:=(((((bif b1 then 1 else 0)+(bif b2 then 2 else 0))+(bif b4 then 4 else 0))+(bif b8 then 8 else 0))+(bif b16 then 16 else 0))
theorem ev5 (a b c d e:Bool):0<=stN a b c d e/\stN a b c d e<=31:=by
 cases a<;>cases b<;>cases c<;>cases d<;>cases e<;>decide
theorem fd7 (a b c d e:Bool):(ad3 .i64 (stN a b c d e) 1==1)=a:=by cases a<;>cases b<;>cases c<;>cases d<;>cases e<;>rfl
theorem fk5 (a b c d e:Bool):(ad3 .i64 (stN a b c d e) 2==2)=b:=by cases a<;>cases b<;>cases c<;>cases d<;>cases e<;>rfl
theorem fe0 (a b c d e:Bool):(ad3 .i64 (stN a b c d e) 4==4)=c:=by cases a<;>cases b<;>cases c<;>cases d<;>cases e<;>rfl
theorem fd9 (a b c d e:Bool):(ad3 .i64 (stN a b c d e) 16==16)=e:=by cases a<;>cases b<;>cases c<;>cases d<;>cases e<;>rfl
theorem fd8 (a b c d e:Bool):(ad3 .i64 (stN a b c d e) 10==10)=(b&&d):=by cases a<;>cases b<;>cases c<;>cases d<;>cases e<;>rfl
theorem fk6 (a b c d e:Bool):(ad3 .i64 (stN a b c d e) 6 !=0)=(b||c):=by cases a<;>cases b<;>cases c<;>cases d<;>cases e<;>rfl
theorem fe2 (a b c d e:Bool):aO6 .i64 (stN a b c d e) 9=stN false b c false e:=by cases a<;>cases b<;>cases c<;>cases d<;>cases e<;>rfl
theorem fe1 (a b c d e:Bool):aO6 .i64 (stN a b c d e) 1=stN false b c d e:=by cases a<;>cases b<;>cases c<;>cases d<;>cases e<;>rfl
theorem eU5 (a b c d e:Bool):U4 .i64 (stN a b c d e) 11=stN true true c true e:=by cases a<;>cases b<;>cases c<;>cases d<;>cases e<;>rfl
theorem fe3 (a b c d e:Bool):U4 .i64 (stN a b c d e) 4=stN a b true d e:=by cases a<;>cases b<;>cases c<;>cases d<;>cases e<;>rfl
theorem eU6 (a b c d e:Bool):U4 .i64 (stN a b c d e) 16=stN a b c d true:=by cases a<;>cases b<;>cases c<;>cases d<;>cases e<;>rfl
theorem fe4 (a b c d e:Bool):U4 .i64 (stN a b c d e) 8=stN a b c true e:=by cases a<;>cases b<;>cases c<;>cases d<;>cases e<;>rfl
def ci0 (c:z8)(l:List Int):Prop:=(l.length:Int)=c.Frame/\∀x∈l,-1099511627776<=x/\x<=1099511627776
theorem ap7 (l:List Int)(hl:l.length<=9223372036854775807)(f:Int->Option Bool)(p:Int->Bool)(h:∀y∈l,f y=some (p y)):o7 l f=some (l.any p):=by
 unfold o7 T9 V9
 exact ai0 l hl f p h
theorem cO7 {c:z8}{l:List Int}(hc:cC4 c)(h:ci0 c l):as3 c l=some true:=by
 unfold as3
 have hl:l.length<=9223372036854775807:=by have:=h.1;have:=hc.frame;omega
 have he:((l.length:Int)==c.Frame)=true:=by simpa using h.1
 rw[he,ap7 l hl aA3 (fun x=>!(decide (x>= -1099511627776)&&decide (x<=1099511627776))) (fun y _=>rfl)]
 have:l.any (fun x=>!(decide (x>= -1099511627776)&&decide (x<=1099511627776)))=false:=by
  rw[ds5]
  intro x hx
  have:=h.2 x hx
  simp[this.1,this.2]
 rw[this]
 rfl
structure RtB (c:z8)(x:A5)(E6:Int)(b1 b2 b4 b8 b16:Bool):Prop where
 st:x.G5=stN b1 b2 b4 b8 b16
 count:-c.Pass<=x.E5/\x.E5<=c.bh2
 cu6:0<=x.J5/\x.J5<=2
 clean:0<=x.Clean/\x.Clean<=c.Age-1
 occ:0<=x.A2/\x.A2<=255
 last:0<=x.H0/\x.H0<=E6
 frame:x.Frame=[]\/ci0 c x.Frame
 k1:b1=true->b2=true/\b8=true/\x.H0=E6
 k4:b4=true↔x.J5=2
 k16:b16=true->b4=true/\c.cr6=true
 k2:b2=true->x.Clean=0
 known:(b2||b4)=true->1<=x.A2/\1<=x.J5/\1<=x.H0/\(x.Frame.length:Int)=c.Frame
 none:(b2||b4)=false->x.J5=0/\x.Clean=0/\x.A2=0/\x.H0=0/\x.Frame=[]
def Rt (c:z8)(x:A5)(E6:Int)(b8:Bool):Prop:=∃b1 b2 b4 b16,RtB c x E6 b1 b2 b4 b8 b16
theorem et8 {c:z8}{x:A5}{E6:Int}{b8:Bool}(hc:cC4 c)(h:Rt c x E6 b8):aF7 c x E6=some true:=by
 obtain⟨b1,b2,b4,b16,h⟩:=h
 have hfr:(ai5 (bif (decide ((x.Frame.length:Int)>0))then(ai5 (as3 c x.Frame) fun v7=>some (!v7))else(some false)) fun b7=>some b7)=some false:=by
  rcases h.frame with h1|h1
  ·rw[h1];rfl
  ·rw[cO7 hc h1];cases decide ((x.Frame.length:Int)>0)<;>rfl
 have:=h.count;have:=h.cu6;have:=h.clean;have:=h.occ;have:=h.last;have:=hc.pass;have:=hc.age;have:=hc.eQ8
 have s:=ev5 b1 b2 b4 b8 b16
 unfold aF7
 rw[hfr]
 simp only[D7,X2,aL0,aH3,h.st,fd7,fd8,fe0,fd9,fk5,fk6]
 rw[j6 (n:=0-c.Pass) (by omega) (by omega),j6 (n:=c.Age-1) (by omega) (by omega)]
 have e1:(decide (stN b1 b2 b4 b8 b16>=0)&&decide (stN b1 b2 b4 b8 b16<=31))=true:=by simp[s.1,s.2]
 have e2:(decide (x.E5>=0-c.Pass)&&decide (x.E5<=c.bh2))=true:=by simp;omega
 have e3:(decide (x.J5>=0)&&decide (x.J5<=2))=true:=by simp;omega
 have e4:(decide (x.Clean>=0)&&decide (x.Clean<=c.Age-1))=true:=by simp;omega
 have e5:(decide (x.A2>=0)&&decide (x.A2<=255))=true:=by simp;omega
 have e6:(decide (x.H0>=0)&&decide (x.H0<=E6))=true:=by simp;omega
 simp only[e1,e2,e3,e4,e5,e6,aP9,fj6,aH3]
 have f1:(bif b1 then some ((!(b2&&b8))||(x.H0 !=E6))else some false)=some false:=by
  cases hb:b1
  ·rfl
  ·obtain⟨h1,h2,h3⟩:=h.k1 hb
   rw[h1,h2,h3];simp
 rw[f1]
 simp only[aH3,fj6]
 have f2:(b4==(x.J5==2))=true:=by
  have:=h.k4
  cases hb:b4
  ·have h3:¬x.J5=2:=fun e=>by have:=this.2 e;rw[hb]at this;cases this
   simpa using h3
  ·have h3:=this.1 hb
   simpa using h3
 rw[f2]
 simp only[aP9,fj6]
 have f3:(bif b16 then some ((!b4)||(!c.cr6))else some false)=some false:=by
  cases hb:b16
  ·rfl
  ·obtain⟨h1,h2⟩:=h.k16 hb
   rw[h1,h2];rfl
 rw[f3]
 simp only[aH3,fj6]
 have f4:(b2&&(x.Clean !=0))=false:=by
  cases hb:b2
  ·rfl
  ·have:=h.k2 hb;simp[this]
 rw[f4]
 simp only[fj6]
 cases hk:b2||b4
 ·obtain⟨h1,h2,h3,h4,h5⟩:=h.none hk
  simp[h1,h2,h3,h4,h5]
 ·obtain⟨h1,h2,h3,h4⟩:=h.known hk
  simp[h1,h2,h3,h4]
structure Inv (l:List z8)(f:B7)(E6:Int)(run:Bool)(t:Nat->Bool):Prop where
 aP8:f.T0=l
 cyc:f.aI1=E6
 run:f.ax8=run
 len:f.L.length=l.length
 rt:∀i (h1:i<l.length) (h2:i<f.L.length),Rt (l[i]) (f.L[i]) E6 (t i)
structure Cfs (l:List z8):Prop where
 len:l.length<=64
 cf:∀c∈l,cfB c=true
 eZ9:an4 l=some true
theorem Cfs.any {l:List z8}(h:Cfs l):(l.any fun c=>!cfB c)=false:=by
 rw[ds5];intro c hc;simp[h.cf c hc]
theorem Cfs.ok {l:List z8}(h:Cfs l){i:Nat}(hi:i<l.length):cC4 l[i]:=.of (h.cf _ (ba6 hi))
theorem bV6 {l:List z8}{f:B7}{E6:Int}{run:Bool}{t:Nat->Bool}(hc:Cfs l)(h:Inv l f E6 run t)(h0:0<=E6)(h1:E6<=1073741824)(h2:run=true->1<=E6):Z3 f=some true:=by
 have hlen:=hc.len
 have e0:decide ((f.T0.length:Int)>64)=false:=by rw[h.aP8];simp;omega
 have e2:((f.L.length:Int) !=(f.T0.length:Int))=false:=by rw[h.aP8,h.len];simp
 have e3:(decide (f.aI1>=0)&&decide (f.aI1<=1073741824))=true:=by rw[h.cyc];simp[h0,h1]
 have e4:(f.ax8&&decide (f.aI1<1))=false:=by
  rw[h.run,h.cyc]
  cases hr:run
  ·rfl
  ·have:=h2 hr;simp;omega
 unfold Z3
 rw[e0,cz5 _ (by rw[h.aP8];omega)]
 have e1:(f.T0.any fun c=>!cfB c)=false:=by rw[h.aP8];exact hc.any
 rw[e1]
 have e5:an4 f.T0=some true:=by rw[h.aP8];exact hc.eZ9
 rw[e5,e2]
 simp only[D7,e3,fj6,aH3,aP9,eM3,e4]
 have hl:=h.len
 obtain⟨s,k1,_⟩:=ai6 (R:=Bool) f.L.length (by omega) (aD3 f) (fun _ _=>True) () trivial (fun j hj s _=>⟨(),by
  unfold aD3
  have hj2:j<f.T0.length:=by rw[h.aP8];omega
  rw[C7 _ _ hj,C7 _ _ hj2]
  simp only[aH3]
  have:f.T0[j]=l[j]'(by omega):=by simp[h.aP8]
  rw[this,h.cyc,et8 (hc.ok (by omega)) (h.rt j (by omega) hj)]
  rfl,trivial⟩)
 rw[k1]
 rfl
theorem cl2 {α:Type}(l:List α)(h:l.length<=1073741824):(ai5 (U5 ([]:List α) l) fun l=>some l)=some l:=by
 rw[H7 _ _ (by simpa using h)];rfl
theorem eu3 {α:Type}(l:List α)(i:Nat)(h:i<l.length):l.set i l[i]=l:=by simp
theorem dW3 {f:B7}(h:f.L.length<=64)(hf:∀x∈f.L,x.Frame.length<=8):al2 f=some f:=by
 unfold al2 ad0
 rw[cl2 _ (by omega)]
 simp only[aH3]
 obtain⟨s,k1,k2⟩:=ai6 (R:=Empty) f.L.length (by omega) ay2 (fun _ s=>s=f.L) f.L rfl (fun j hj s hs=>⟨f.L,by
  subst hs
  unfold ay2 O2
  rw[C7 _ _ hj]
  simp only[aH3]
  rw[cl2 _ (by have:=hf _ (ba6 hj);omega)]
  simp only[aH3]
  rw[T6 _ _ _ hj]
  have:=eu3 f.L j hj
  simp only[aH3]
  rw[show(⟨f.L[j].G5,f.L[j].E5,f.L[j].J5,f.L[j].Clean,f.L[j].A2,f.L[j].Frame,f.L[j].H0⟩:A5)=f.L[j]from rfl,this],rfl⟩)
 rw[k1,k2]
 rfl
theorem Rt.eQ3 {c:z8}{x:A5}{E6:Int}{b8:Bool}(hc:cC4 c)(h:Rt c x E6 b8):x.Frame.length<=8:=by
 obtain⟨b1,b2,b4,b16,h⟩:=h
 rcases h.frame with h1|h1
 ·simp[h1]
 ·have:=h1.1;have:=hc.frame;omega
theorem Inv.eQ4 {l:List z8}{f:B7}{E6:Int}{run:Bool}{t:Nat->Bool}(hc:Cfs l)(h:Inv l f E6 run t):∀x∈f.L,x.Frame.length<=8:=by
 intro x hx
 obtain⟨i,hi,rfl⟩:=cY8.1 hx
 have hl:=h.len
 exact(h.rt i (by omega) hi).eQ3 (hc.ok (by omega))
theorem Inv.copied {l:List z8}{f:B7}{E6:Int}{run:Bool}{t:Nat->Bool}(hc:Cfs l)(h:Inv l f E6 run t):al2 f=some f:=
 dW3 (by have:=h.len;have:=hc.len;omega) (h.eQ4 hc)
theorem dJ8 {α R:Type}(l:List α)(hn:l.length<=9223372036854775807)(f:Int->List α->Option (Fl (List α) R))(g:Nat->α->α)
  (h:∀(j:Nat) (s:List α) (hj:j<s.length),s.length=l.length->s[j]? =l[j]? ->f (j:Int) s=some (.next (s.set j (g j s[j])))):
  K9 (l.length:Int) f l=some (.inl (l.mapIdx g)):=by
 obtain⟨s,k1,k2⟩:=ai6 (R:=R) l.length hn f (fun j s=>s.length=l.length/\(∀i,i<j->s[i]? =(l[i]?).map (g i))/\∀i,j<=i->s[i]? =l[i]?) l ⟨rfl,fun i h=>by omega,fun i _=>rfl⟩ (fun j hj s ⟨h1,h2,h3⟩=>by
  have hj':j<s.length:=by omega
  refine⟨_,h j s hj' h1 (h3 j (cq9 _)),by simp[h1],fun i hi=>?_,fun i hi=>?_⟩
  ·rw[List.getElem?_set]
   by_cases e:j=i
   ·subst e
    rw[if_pos rfl,if_pos hj']
    have:=h3 j (cq9 _)
    rw[<-this,aK2 hj'];rfl
   ·rw[if_neg e];exact h2 i (by omega)
  ·rw[List.getElem?_set,if_neg (by omega)];exact h3 i (by omega))
 rw[k1]
 congr 2
 apply List.ext_getElem?
 intro i
 rw[List.getElem?_mapIdx]
 by_cases hi:i<l.length
 ·exact k2.2.1 i hi
 ·rw[k2.2.2 i (by omega),List.getElem?_eq_none (by omega)];rfl
def eZ0 (x:A5):A5:=⟨aO6 .i64 x.G5 9,0,x.J5,x.Clean,x.A2,x.Frame,x.H0⟩
theorem ei5 {c:z8}{x:A5}{E6:Int}{b8:Bool}(hc:cC4 c)(h:Rt c x E6 b8):Rt c (eZ0 x) (E6+1) false:=by
 obtain⟨b1,b2,b4,b16,h⟩:=h
 have:=hc.pass;have:=hc.fail;have:=h.last
 refine⟨false,b2,b4,b16,?_,?_,h.cu6,h.clean,h.occ,?_,h.frame,?_,h.k4,h.k16,h.k2,h.known,h.none⟩
 ·show aO6 .i64 x.G5 9=_
  rw[h.st,fe2]
 ·show -c.Pass<=(0:Int)/\(0:Int)<=c.bh2
  omega
 ·show 0<=x.H0/\x.H0<=E6+1
  omega
 ·intro h;cases h
theorem ei4 {l:List z8}{f:B7}{E6:Int}{t:Nat->Bool}(hc:Cfs l)(h:Inv l f E6 false t)(h0:0<=E6)(h1:E6<1073741824):
  ∃f',aw8 f=some (f',0)/\Inv l f' (E6+1) true (fun _=>false):=by
 have hl:=h.len;have hl2:=hc.len
 unfold aw8
 rw[bV6 hc h h0 (by omega) (fun e=>by cases e)]
 have e1:(f.aI1==1073741824)=false:=by rw[h.cyc];simp;omega
 rw[h.run,e1,h.copied hc]
 simp only[aH3,aP9,fj6]
 rw[dJ8 f.L (by omega) aD2 (fun _ x=>eZ0 x) (fun j s hj _ _=>by
  unfold aD2
  rw[C7 _ _ hj]
  simp only[aH3]
  rw[T6 _ _ _ hj]
  simp only[aH3]
  rw[T6 _ _ _ (by simpa using hj)]
  simp only[aH3,ee5]
  rfl)]
 refine⟨_,rfl,h.aP8,?_,rfl,by simp[hl],fun i a b=>?_⟩
 ·show o4 (f.aI1+1)=_
  rw[h.cyc,j6 (by omega) (by omega)]
 ·simp only[List.getElem_mapIdx]
  exact ei5 (hc.ok a) (h.rt i a (by omega))
theorem dm2 {l:List z8}(hl:l.length<=9223372036854775807):(∃e,aB6 l=some (⟨[],[],0,false⟩,e)/\e≠0)\/(Cfs l/\∃f,aB6 l=some (f,0)/\Inv l f 0 false (fun _=>false)):=by
 unfold aB6
 cases h64:decide ((l.length:Int)>64)
 ·have h64:l.length<=64:=by simp at h64;omega
  rw[cz5 l (by omega)]
  cases hany:l.any fun c=>!cfB c
  ·obtain⟨b,hb⟩:=ds7 l (by omega)
   rw[hb]
   cases b
   ·left;exact⟨8,rfl,by decide⟩
   ·right
    have hcf:∀c∈l,cfB c=true:=fun c hc=>by
     rw[ds5]at hany
     have:=hany c hc
     simpa using this
    have hc:Cfs l:=⟨h64,hcf,hb⟩
    refine⟨hc,?_⟩
    unfold Z5
    rw[cl2 l (by omega),bW9 _ (by omega)]
    refine⟨_,rfl,rfl,rfl,rfl,by simp,fun i a b=>?_⟩
    have:=hc.ok a
    simp only[eR1]
    refine⟨false,false,false,false,rfl,?_,⟨by decide,by decide⟩,?_,⟨by decide,by decide⟩,⟨by decide,by decide⟩,.inl rfl,fun h=>(by cases h),⟨fun h=>(by cases h),fun h=>(by cases h)⟩,fun h=>(by cases h),fun h=>(by cases h),fun h=>(by cases h),fun _=>⟨rfl,rfl,rfl,rfl,rfl⟩⟩
    ·have h1:=this.pass;have h2:=this.fail
     show -l[i].Pass<=(0:Int)/\(0:Int)<=l[i].bh2
     omega
    ·have h1:=this.eQ8;have h2:=this.age
     show(0:Int)<=0/\(0:Int)<=l[i].Age-1
     omega
  ·left;exact⟨1,rfl,by decide⟩
 ·left;exact⟨5,rfl,by decide⟩
def dt8 (c:z8)(E6:Int)(fr:List Int)(x:A5):A5:=
 let y:A5:=bif !(ad3 .i64 x.G5 1==1)then⟨x.G5,x.E5,x.J5,x.Clean,F5 255 (o4 (x.A2+1)),bif !(ad3 .i64 x.G5 4==4)then fr else x.Frame,x.H0⟩else x
 bif y.H0==E6 then⟨U4 .i64 y.G5 11,y.E5,y.J5,0,y.A2,y.Frame,y.H0⟩else
 bif decide ((F5 2 (o4 (y.J5+1)))<2)then⟨U4 .i64 y.G5 11,y.E5,F5 2 (o4 (y.J5+1)),0,y.A2,y.Frame,E6⟩else
 bif c.cr6 then⟨U4 .i64 (U4 .i64 (U4 .i64 y.G5 11) 4) 16,y.E5,F5 2 (o4 (y.J5+1)),0,y.A2,y.Frame,E6⟩
 else⟨U4 .i64 (U4 .i64 y.G5 11) 4,y.E5,F5 2 (o4 (y.J5+1)),0,y.A2,y.Frame,E6⟩
theorem dt9 (s:List A5)(j:Nat)(hj:j<s.length)(c:z8)(E6:Int)(fr:List Int)(hfr:fr.length<=1073741824):aF6 s (j:Int) c E6 fr=some (s.set j (dt8 c E6 fr s[j])):=by
 have key:∀(s:List A5) (hj:j<s.length),(ai5 (D4 s (j:Int)) fun x3=>ai5 (am4 s (j:Int) (⟨U4 .i64 x3.G5 11,x3.E5,x3.J5,x3.Clean,x3.A2,x3.Frame,x3.H0⟩:A5)) fun l4=>ai5 (am4 l4 (j:Int) (⟨U4 .i64 x3.G5 11,x3.E5,x3.J5,0,x3.A2,x3.Frame,x3.H0⟩:A5)) fun l5=>bif (x3.H0==E6)then(some l5)else(ai5 (am4 l5 (j:Int) (⟨U4 .i64 x3.G5 11,x3.E5,x3.J5,0,x3.A2,x3.Frame,E6⟩:A5)) fun l6=>ai5 (am4 l6 (j:Int) (⟨U4 .i64 x3.G5 11,x3.E5,F5 2 (o4 (x3.J5+1)),0,x3.A2,x3.Frame,E6⟩:A5)) fun l7=>bif (decide ((F5 2 (o4 (x3.J5+1)))<2))then(some l7)else(ai5 (am4 l7 (j:Int) (⟨U4 .i64 (U4 .i64 x3.G5 11) 4,x3.E5,F5 2 (o4 (x3.J5+1)),0,x3.A2,x3.Frame,E6⟩:A5)) fun l8=>bif c.cr6 then(ai5 (am4 l8 (j:Int) (⟨U4 .i64 (U4 .i64 (U4 .i64 x3.G5 11) 4) 16,x3.E5,F5 2 (o4 (x3.J5+1)),0,x3.A2,x3.Frame,E6⟩:A5)) fun l9=>some l9)else(some l8))))=
   some (s.set j (bif s[j].H0==E6 then⟨U4 .i64 s[j].G5 11,s[j].E5,s[j].J5,0,s[j].A2,s[j].Frame,s[j].H0⟩else
 bif decide ((F5 2 (o4 (s[j].J5+1)))<2)then⟨U4 .i64 s[j].G5 11,s[j].E5,F5 2 (o4 (s[j].J5+1)),0,s[j].A2,s[j].Frame,E6⟩else
 bif c.cr6 then⟨U4 .i64 (U4 .i64 (U4 .i64 s[j].G5 11) 4) 16,s[j].E5,F5 2 (o4 (s[j].J5+1)),0,s[j].A2,s[j].Frame,E6⟩
 else⟨U4 .i64 (U4 .i64 s[j].G5 11) 4,s[j].E5,F5 2 (o4 (s[j].J5+1)),0,s[j].A2,s[j].Frame,E6⟩)):=by
  intro s hj
  rw[C7 _ _ hj]
  simp only[aH3]
  rw[T6 _ _ _ hj]
  simp only[aH3]
  rw[T6 _ _ _ (by simpa using hj)]
  simp only[aH3,ee5]
  cases(s[j].H0==E6)
  ·simp only[fj6]
   rw[T6 _ _ _ (by simpa using hj)]
   simp only[aH3,ee5]
   rw[T6 _ _ _ (by simpa using hj)]
   simp only[aH3,ee5]
   cases decide ((F5 2 (o4 (s[j].J5+1)))<2)
   ·simp only[fj6]
    rw[T6 _ _ _ (by simpa using hj)]
    simp only[aH3,ee5]
    cases c.cr6
    ·rfl
    ·simp only[fj8]
     rw[T6 _ _ _ (by simpa using hj)]
     simp only[aH3,ee5]
   ·rfl
  ·rfl
 unfold aF6
 rw[C7 _ _ hj]
 simp only[aH3,X2]
 unfold dt8
 cases h1:(ad3 .i64 s[j].G5 1==1)
 ·simp only[cI0,fj8]
  rw[T6 _ _ _ hj]
  simp only[aH3]
  cases h4:(ad3 .i64 s[j].G5 4==4)
  ·simp only[cI0,fj8,O2]
   rw[cl2 fr hfr]
   simp only[aH3]
   rw[T6 _ _ _ (by simpa using hj)]
   simp only[aH3,ee5]
   rw[key _ (by simpa using hj)]
   simp only[dC7,ee5]
  ·simp only[aP9,fj6,aH3]
   rw[key _ (by simpa using hj)]
   simp only[dC7,ee5]
 ·simp only[aP9,fj6,aH3]
  rw[key _ hj]
theorem eC5 {c:z8}{x:A5}{E6:Int}{b8:Bool}{fr:List Int}(hc:cC4 c)(h:Rt c x E6 b8)(hfr:ci0 c fr)(h1:1<=E6):Rt c (dt8 c E6 fr x) E6 true:=by
 obtain⟨b1,b2,b4,b16,h⟩:=h
 have p3:=h.last;have p8:=h.occ;have p9:=h.cu6;have p10:=hc.age;have p11:=hc.eQ8
 have clean:0<=(0:Int)/\(0:Int)<=c.Age-1:=by omega
 have n1:(0:Int)<=1/\(1:Int)<=2:=by decide
 have n2:(0:Int)<=2/\(2:Int)<=2:=by decide
 have m1:(1:Int)<=1:=by decide
 have m2:(1:Int)<=2:=by decide
 obtain⟨y,hy,hst,hcn,hcy,cF2,cP1,hfrm,hfl⟩:∃y:A5,y=(bif !(ad3 .i64 x.G5 1==1)then(⟨x.G5,x.E5,x.J5,x.Clean,F5 255 (o4 (x.A2+1)),bif !(ad3 .i64 x.G5 4==4)then fr else x.Frame,x.H0⟩:A5)else x)/\
   y.G5=stN b1 b2 b4 b8 b16/\y.E5=x.E5/\y.J5=x.J5/\(1<=y.A2/\y.A2<=255)/\y.H0=x.H0/\(y.Frame=[]\/ci0 c y.Frame)/\(y.Frame.length:Int)=c.Frame:=by
  refine⟨_,rfl,?_⟩
  rw[h.st,fd7,fe0]
  cases hb1:b1
  ·subst hb1
   simp only[cI0,fj8]
   refine⟨trivial,trivial,trivial,?_,trivial,?_⟩
   ·rw[j6 (n:=x.A2+1) (by omega) (by omega)]
    unfold F5;split<;>omega
   ·cases hb4:b4
    ·simp only[cI0,fj8];exact⟨.inr hfr,hfr.1⟩
    ·subst hb4
     simp only[aP9,fj6]
     exact⟨h.frame,(h.known (by simp)).2.2.2⟩
  ·subst hb1
   have k:=h.k1 rfl
   have hk:=h.known (by rw[k.1];rfl)
   simp only[aP9,fj6]
   exact⟨h.st,trivial,trivial,⟨hk.1,h.occ.2⟩,trivial,h.frame,hk.2.2.2⟩
 unfold dt8
 rw[<-hy]
 simp only[hst,eU5,fe3,eU6]
 cases hL:(y.H0==E6)
 ·have hL:¬x.H0=E6:=by rw[cP1]at hL;simpa using hL
  have hb1:b1=false:=by
   cases hb:b1
   ·rfl
   ·exact absurd (h.k1 hb).2.2 hL
  simp only[fj6]
  rw[hcy,j6 (n:=x.J5+1) (by omega) (by omega)]
  have hm:F5 2 (x.J5+1)=if x.J5=0 then 1 else 2:=by unfold F5;split<;>split<;>omega
  rw[hm]
  by_cases hz:x.J5=0
  ·have hb4:b4=false:=by
    cases hb:b4
    ·rfl
    ·have:=h.k4.1 hb;omega
   subst hb4
   rw[if_pos hz]
   simp only[show decide ((1:Int)<2)=true from rfl,fj8]
   exact⟨true,true,false,b16,rfl,by rw[show(⟨_,y.E5,_,_,_,_,_⟩:A5).E5=x.E5 from hcn];exact h.count,n1,clean,⟨by have:=cF2.1;show 0<=y.A2;omega,cF2.2⟩,⟨by show 0<=E6;omega,do8 _⟩,hfrm,fun _=>⟨rfl,rfl,rfl⟩,⟨fun h=>(by cases h),fun h=>(by cases h)⟩,h.k16,fun _=>rfl,fun _=>⟨cF2.1,m1,h1,hfl⟩,fun h=>(by cases h)⟩
  ·rw[if_neg hz]
   simp only[show decide ((2:Int)<2)=false from rfl,fj6]
   cases hlp:c.cr6
   ·simp only[fj6]
    exact⟨true,true,true,b16,rfl,by rw[show(⟨_,y.E5,_,_,_,_,_⟩:A5).E5=x.E5 from hcn];exact h.count,n2,clean,⟨by have:=cF2.1;show 0<=y.A2;omega,cF2.2⟩,⟨by show 0<=E6;omega,do8 _⟩,hfrm,fun _=>⟨rfl,rfl,rfl⟩,⟨fun _=>rfl,fun _=>rfl⟩,fun hb=>⟨rfl,(h.k16 hb).2⟩,fun _=>rfl,fun _=>⟨cF2.1,m2,h1,hfl⟩,fun h=>(by cases h)⟩
   ·simp only[fj8]
    exact⟨true,true,true,true,rfl,by rw[show(⟨_,y.E5,_,_,_,_,_⟩:A5).E5=x.E5 from hcn];exact h.count,n2,clean,⟨by have:=cF2.1;show 0<=y.A2;omega,cF2.2⟩,⟨by show 0<=E6;omega,do8 _⟩,hfrm,fun _=>⟨rfl,rfl,rfl⟩,⟨fun _=>rfl,fun _=>rfl⟩,fun _=>⟨rfl,hlp⟩,fun _=>rfl,fun _=>⟨cF2.1,m2,h1,hfl⟩,fun h=>(by cases h)⟩
 ·have hL:x.H0=E6:=by rw[cP1]at hL;simpa using hL
  simp only[fj8]
  have hkn:(b2||b4)=true:=by
   cases hk:b2||b4
   ·have:=(h.none hk).2.2.2.1;omega
   ·rfl
  have hk:=h.known hkn
  exact⟨true,true,b4,b16,rfl,by rw[show(⟨_,y.E5,_,_,_,_,_⟩:A5).E5=x.E5 from hcn];exact h.count,by rw[show(⟨_,_,y.J5,_,_,_,_⟩:A5).J5=x.J5 from hcy];exact h.cu6,clean,⟨by have:=cF2.1;show 0<=y.A2;omega,cF2.2⟩,by rw[show(⟨_,_,_,_,_,_,y.H0⟩:A5).H0=x.H0 from cP1];exact h.last,hfrm,fun _=>⟨rfl,rfl,cP1.trans hL⟩,
   by rw[show(⟨_,_,y.J5,_,_,_,_⟩:A5).J5=x.J5 from hcy];exact h.k4,h.k16,fun _=>rfl,fun _=>⟨cF2.1,by rw[show(⟨_,_,y.J5,_,_,_,_⟩:A5).J5=x.J5 from hcy];exact hk.2.1,by rw[show(⟨_,_,_,_,_,_,y.H0⟩:A5).H0=x.H0 from cP1];omega,hfl⟩,fun h=>(by cases h)⟩
def bR2 (c:z8)(bad:Bool)(x:A5):A5:=
 ⟨x.G5,bif bad then F5 c.bh2 (o4 ((G7 x.E5 0)+1))else G7 (o4 (0-c.Pass)) (o4 ((F5 x.E5 0)-1)),x.J5,x.Clean,x.A2,x.Frame,x.H0⟩
def dn7 (c:z8)(E6:Int)(bad:Bool)(fr:List Int)(x:A5):A5:=
 let y:=bR2 c bad x
 bif y.E5==c.bh2 then dt8 c E6 fr y else
 bif y.E5==o4 (0-c.Pass)then⟨aO6 .i64 (U4 .i64 y.G5 8) 1,y.E5,y.J5,y.Clean,y.A2,y.Frame,y.H0⟩else y
theorem eO7 {c:z8}{x:A5}{E6:Int}{b8:Bool}(bad:Bool)(hc:cC4 c)(h:Rt c x E6 b8):Rt c (bR2 c bad x) E6 b8:=by
 obtain⟨b1,b2,b4,b16,h⟩:=h
 have p1:=h.count;have p2:=hc.pass;have p3:=hc.fail
 refine⟨b1,b2,b4,b16,h.st,?_,h.cu6,h.clean,h.occ,h.last,h.frame,h.k1,h.k4,h.k16,h.k2,h.known,h.none⟩
 show -c.Pass<=(bif bad then _ else _)/\(bif bad then _ else _)<=c.bh2
 have a1:G7 x.E5 0=if 0>x.E5 then 0 else x.E5:=rfl
 have a2:F5 x.E5 0=if 0<x.E5 then 0 else x.E5:=rfl
 cases bad
 ·simp only[fj6]
  rw[a2,j6 (n:=0-c.Pass) (by omega) (by omega)]
  split
  ·rw[j6 (by omega) (by omega)];unfold G7;split<;>omega
  ·rw[j6 (by omega) (by omega)];unfold G7;split<;>omega
 ·simp only[fj8]
  rw[a1]
  split
  ·rw[j6 (by omega) (by omega)];unfold F5;split<;>omega
  ·rw[j6 (by omega) (by omega)];unfold F5;split<;>omega
theorem eU0 {c:z8}{x:A5}{E6:Int}{b8:Bool}{fr:List Int}(bad:Bool)(hc:cC4 c)(h:Rt c x E6 b8)(hfr:ci0 c fr)(h1:1<=E6):∃b,Rt c (dn7 c E6 bad fr x) E6 b/\(b8=true->b=true):=by
 have h':=eO7 bad hc h
 unfold dn7
 simp only
 cases(bR2 c bad x).E5==c.bh2
 ·simp only[fj6]
  cases(bR2 c bad x).E5==o4 (0-c.Pass)
  ·exact⟨b8,h',id⟩
  ·simp only[fj8]
   refine⟨true,?_,fun _=>rfl⟩
   obtain⟨b1,b2,b4,b16,h'⟩:=h'
   exact⟨false,b2,b4,b16,by show aO6 .i64 (U4 .i64 (bR2 c bad x).G5 8) 1=_;rw[h'.st,fe4,fe1],h'.count,h'.cu6,h'.clean,h'.occ,h'.last,h'.frame,fun h=>(by cases h),h'.k4,h'.k16,h'.k2,h'.known,h'.none⟩
 ·exact⟨true,eC5 hc h' hfr h1,fun _=>rfl⟩
theorem eb8 {l:List z8}{f:B7}{E6:Int}{t:Nat->Bool}{q:Nat}{bad:Bool}{fr:List Int}(hc:Cfs l)(h:Inv l f E6 true t)(h0:1<=E6)(h1:E6<=1073741824)(hq:q<l.length)(hfr:ci0 (l[q]) fr):
  ∃f' b,aq1 f (q:Int) bad fr=some (f',0)/\Inv l f' E6 true (fun i=>if i=q then b else t i)/\(t q=true->b=true):=by
 have hl:=h.len;have hl2:=hc.len
 have hq2:q<f.L.length:=by omega
 have hq3:q<f.T0.length:=by rw[h.aP8];omega
 have e1:f.T0[q]=l[q]:=by simp[h.aP8]
 have hfl:fr.length<=8:=by have:=hfr.1;have:=(hc.ok hq).frame;omega
 have g1:decide ((q:Int)<0)=false:=by simp
 have g2:decide ((q:Int)>=(f.L.length:Int))=false:=by simp;omega
 obtain⟨b,hb,hm⟩:=eU0 (fr:=fr) bad (hc.ok hq) (h.rt q hq hq2) hfr h0
 have bN6:∀y:A5,q<(f.L.set q y).length:=fun y=>by simpa using hq2
 have main:aq1 f (q:Int) bad fr=some (⟨f.T0,f.L.set q (dn7 (l[q]) E6 bad fr f.L[q]),f.aI1,f.ax8⟩,0):=by
  unfold aq1
  rw[bV6 hc h (by omega) h1 (fun _=>h0),g1,g2,h.run,C7 _ _ hq3,e1]
  simp only[aH3,aP9,eM3,fj6]
  rw[cO7 (hc.ok hq) hfr,h.copied hc]
  simp only[aH3,aP9,fj6]
  rw[C7 _ _ hq2,C7 _ _ hq3,e1]
  simp only[aH3]
  rw[T6 _ _ _ hq2,T6 _ _ _ hq2]
  simp only[aH3]
  have e2:(bif bad then some (f.L.set q ⟨f.L[q].G5,F5 l[q].bh2 (o4 (G7 f.L[q].E5 0+1)),f.L[q].J5,f.L[q].Clean,f.L[q].A2,f.L[q].Frame,f.L[q].H0⟩)else some (f.L.set q ⟨f.L[q].G5,G7 (o4 (0-l[q].Pass)) (o4 (F5 f.L[q].E5 0-1)),f.L[q].J5,f.L[q].Clean,f.L[q].A2,f.L[q].Frame,f.L[q].H0⟩))=some (f.L.set q (bR2 (l[q]) bad f.L[q])):=by
   unfold bR2;cases bad<;>rfl
  rw[e2]
  simp only[aH3]
  rw[C7 _ _ (bN6 _)]
  simp only[aH3,dC7]
  unfold dn7
  simp only
  cases(bR2 (l[q]) bad f.L[q]).E5==(l[q]).bh2
  ·simp only[fj6]
   cases(bR2 (l[q]) bad f.L[q]).E5==o4 (0-(l[q]).Pass)
   ·simp only[fj6];rw[h.run]
   ·simp only[fj8]
    rw[T6 _ _ _ (bN6 _)]
    simp only[aH3,ee5]
    rw[T6 _ _ _ (bN6 _)]
    simp only[aH3,ee5]
    rw[h.run]
  ·simp only[fj8]
   rw[dt9 _ _ (bN6 _) _ _ _ (by omega)]
   simp only[aH3,dC7,ee5]
   rw[h.run,h.cyc]
 refine⟨_,b,main,⟨h.aP8,h.cyc,h.run,by simp[hl],fun i a c=>?_⟩,hm⟩
 simp only[eX6]
 by_cases hi:q=i
 ·subst hi;simp only[if_true];exact hb
 ·rw[if_neg hi,if_neg (fun e=>hi e.symm)];exact h.rt i a (by omega)
end Fr
end Go.Pv
namespace Go.Proofs.YtmhdghdbojdgfaaGreat.Ec
open Go Go.Pv Go.Pv.Ec Go.Proofs
theorem cU3 {α S R:Type}(f:Int->α->S->Option (Fl S R))(I:Nat->S->Prop)(J:R->Prop):∀(r:List α) (k:Nat) (s:S),I k s->(∀j x s,r[j]? =some x->I (k+j) s->(∃s',f ((k+j:Nat):Int) x s=some (.next s')/\I (k+j+1) s')\/∃u,f ((k+j:Nat):Int) x s=some (.ret u)/\J u)->
  (∃s',L9 f r (k:Int) s=some (.inl s')/\I (k+r.length) s')\/∃u,L9 f r (k:Int) s=some (.inr u)/\J u
 |[],k,s,h,_=>.inl ⟨s,by simp[L9],h⟩
 |x::r,k,s,h,g=>by
  rcases g 0 x s rfl h with⟨s',h1,h2⟩|⟨u,h1,h2⟩
  ·have:=cU3 f I J r (k+1) s' h2 (fun j y u hy hu=>by
    have:=g (j+1) y u (by simpa using hy) (by rw[show k+(j+1)=k+1+j by omega];exact hu)
    rw[show k+(j+1)=k+1+j by omega]at this
    exact this)
   have e:L9 f (x::r) (k:Int) s=L9 f r ((k+1:Nat):Int) s':=by
    simp only[L9]
    rw[show((k:Nat):Int)=((k+0:Nat):Int) by rfl,h1]
    rfl
   rw[e,bq0,show k+(r.length+1)=k+1+r.length by omega]
   exact this
  ·refine .inr ⟨u,?_,h2⟩
   simp only[L9]
   rw[show((k:Nat):Int)=((k+0:Nat):Int) by rfl,h1]
   rfl
theorem bK5 {α S R:Type}(l:List α)(hn:l.length<=9223372036854775807)(f:Int->α->S->Option (Fl S R))(I:Nat->S->Prop)(J:R->Prop)(s:S)(h0:I 0 s)
  (h:∀k x s,l[k]? =some x->I k s->(∃s',f (k:Int) x s=some (.next s')/\I (k+1) s')\/∃u,f (k:Int) x s=some (.ret u)/\J u):
  (∃s',L5 (fun p:Int×S=>bif decide (p.1<(l.length:Int))then((D4 l p.1).bind fun x=>(f p.1 x p.2).bind (az5 p.1))else some (.inr (.inl p.2))) (0,s)=some (.inl s')/\I l.length s')\/
  ∃u,L5 (fun p:Int×S=>bif decide (p.1<(l.length:Int))then((D4 l p.1).bind fun x=>(f p.1 x p.2).bind (az5 p.1))else some (.inr (.inl p.2))) (0,s)=some (.inr u)/\J u:=by
 have e:=K8 l hn f s
 rcases cU3 f I J l 0 s h0 (fun j x s hx hs=>by rw[cV7]at hs|-;exact h j x s hx hs)with⟨s',h1,h2⟩|⟨u,h1,h2⟩
 ·exact .inl ⟨s',e.trans h1,by rw[cV7]at h2;exact h2⟩
 ·exact .inr ⟨u,e.trans h1,h2⟩
structure SOk (s:j9):Prop where
 few:s.k.length<=100
 val:∀b∈s.k,-1000000<=b.Value/\b.Value<=1000000
 ped:0<=s.d.I7/\s.d.I7<=1000
 pre:50<=s.u.A6.L3/\s.u.A6.L3<=1013
 t:0<=s.t/\s.t<=1099511627776
 spd:0<=s.o9/\s.o9<=12000
theorem dF1 {s:j9}(hs:SOk s)(n:Int):∃v o,(aa9 s n).m=some (v,o)/\ -1000000<=v/\v<=1000000:=by
 have hk:=hs.few
 simp only[aa9,C.of,M.run]
 rcases bK5 s.k (by omega) (fun i x (u:Unit)=>(aD0 s n i x u).run) (fun _ _=>True) (fun r=>-1000000<=r.1/\r.1<=1000000) () trivial (fun k x u hx _=>by
  simp only[aD0,M.run]
  cases x.ba9==n
  ·exact .inl ⟨(),rfl,trivial⟩
  ·cases decide (x.cW1<=s.t)
   ·exact .inl ⟨(),rfl,trivial⟩
   ·cases decide (s.t<x.To)
    ·exact .inl ⟨(),rfl,trivial⟩
    ·exact .inr ⟨_,rfl,hs.val x (cY9 hx)⟩)with⟨u,h1,_⟩|⟨u,h1,h2⟩
 ·rw[h1];exact⟨_,_,rfl,by omega,by omega⟩
 ·rw[h1];exact⟨u.1,u.2,rfl,h2⟩
theorem aS3 {s:j9}(hs:SOk s)(n:Int):∃v,(D5 s n).m=some v/\ -1000000<=v/\v<=1000000:=by
 obtain⟨v,o,h,hv⟩:=dF1 hs n
 obtain⟨x,hx⟩:=df6 s.u.A6
 have h1:=hs.ped;have h2:=hs.pre;have h3:=hs.t
 simp only[D5,C.of,M.run,h,hx,aH3]
 cases o
 ·simp only[fj6]
  cases n==0<;>simp only[fj6,fj8]
  ·cases n==1<;>simp only[fj6,fj8]
   ·cases n==2<;>simp only[fj6,fj8]
    ·cases n==3<;>simp only[fj6,fj8]
     ·cases n==4<;>simp only[fj6,fj8]
      ·cases decide (x<1000)
       ·exact⟨_,rfl,by omega,by omega⟩
       ·exact⟨_,rfl,by omega,by omega⟩
      ·refine⟨_,rfl,?_⟩
       rw[cr3 h3.1,j6 (n:=s.t/1000000) (by omega) (by omega),j6 (by omega) (by omega)]
       unfold F5
       split<;>omega
     ·exact⟨_,rfl,by omega,by omega⟩
    ·exact⟨_,rfl,by omega,by omega⟩
   ·refine⟨_,rfl,?_⟩
    rw[cr3 h1.1,j6 (by omega) (by omega)]
    omega
  ·exact⟨_,rfl,by omega,by omega⟩
 ·exact⟨_,rfl,hv⟩
theorem dx7 (x a b:Int):(bm7 x a b).m=some (decide (x<a)||decide (x>b)):=rfl
theorem em9 {c:z8}(hc:Fr.cC4 c){a b:Int}(ha:-1000000<=a/\a<=1000000)(hb:-1000000<=b/\b<=1000000):∃l,aS0 c.Frame (0:Int)=some l/\Fr.ci0 c (aJ2 l [a,b]):=by
 have h:=hc.frame
 refine⟨cr2 c.Frame.toNat 0,by unfold aS0;rw[if_pos (by omega)],?_,fun x hx=>?_⟩
 ·unfold aJ2
  simp only[aY1,bE9,dh0,eC4,bq0,cr1]
  omega
 ·unfold aJ2 at hx
  rcases cI5.1 hx with h1|h1
  ·have:=ey8 h1
   simp only[ch6,eL8,or_false]at this
   rcases this with rfl|rfl<;>omega
  ·have:=eX5 (eX1 h1)
   omega
theorem fb5 (o:B7):(bM2 o).m=some o:=rfl
theorem eR6 (n:B7)(e:Int)(o:B7):(be8 n e o).m=some (bif e !=0 then o else n):=by
 simp only[be8,C.of,M.run]
 cases e !=0<;>rfl
theorem ai6 {S R:Type}(n:Nat)(hn:n<=1000000000)(f:Int->S->Option (Fl S R))(I:Nat->S->Prop)(s:S)(h0:I 0 s)(h:∀k s,k<n->I k s->∃s',f (k:Int) s=some (.next s')/\I (k+1) s'):
  ∃s',L5 (fun p:Int×S=>bif decide (p.1<(n:Int))then((f p.1 p.2).bind (az5 p.1))else some (.inr (.inl p.2))) (0,s)=some (.inl s')/\I n s':=by
 have key:=bu7 (mb:=fun p:Int×S=>bif decide (p.1<(n:Int))then((f p.1 p.2).bind (az5 p.1))else some (.inr (.inl p.2))) (fun x=>∃k:Nat,x.1=(k:Int)/\k<=n/\I k x.2) (fun x=>n-x.1.toNat) (fun b:S⊕R=>∃t,b= .inl t/\I n t)
  (fun x ⟨k,hk,hkn,hi⟩=>by
   obtain⟨a,u⟩:=x
   simp only at hk hi
   subst hk
   by_cases hlt:k<n
   ·left
    obtain⟨s',h1,h2⟩:=h k u hlt hi
    simp only
    rw[fk0 (show((k:Nat):Int)<(n:Int) by omega),h1]
    refine⟨(((k+1:Nat):Int),s'),?_,⟨k+1,rfl,by omega,h2⟩,by simp only;omega⟩
    simp only[fj8,aH3,az5]
    first|rfl|(rw[j6 (by omega) (by omega)];rfl)
   ·right
    simp only
    rw[fk3 (show¬((k:Nat):Int)<(n:Int) by omega)]
    have:k=n:=by omega
    subst this
    exact⟨_,rfl,u,rfl,hi⟩)
 obtain⟨b,e1,t,e2,h2⟩:=key n (0,s) (by simp) ⟨0,rfl,by omega,h0⟩
 rw[e2]at e1
 exact⟨t,e1,h2⟩
def R0:List S7:=(bA5).m.getD []
theorem cY4:(bA5).m=some R0:=rfl
theorem cI6:R0.length=7:=rfl
theorem cZ4:(R0.all fun r=>decide (r.af0.length<=16)&&r.af0.all fun c=>decide (0<=c)&&decide (c<7))=true:=by kernel_rfl
theorem dU1:(R0.all fun r=>decide (-5000<=r.ci1)&&decide (r.ci1<=10000))=true:=by kernel_rfl
theorem cZ5:(aJ7 R0 7).m=some true:=(aJ7 R0 7).le 1000 _ (by kernel_rfl)
theorem dD5:(aJ7 R0 64).m=some true:=(aJ7 R0 64).le 1000 _ (by kernel_rfl)
def cf0:List z8:=((bm5).e 100).getD []
theorem ds8:(bm5).m=some cf0:=(bm5).le 100 _ (by kernel_rfl)
theorem by6:cf0.length=7:=by kernel_rfl
theorem dq3 {α:Type}{l:List α}{p q:α->Bool}(h:(l.all fun r=>p r&&q r)=true){x:α}(hx:x∈l):p x=true/\q x=true:=by
 have:=bN8.1 h x hx
 rwa[aJ5]at this
theorem dF6 {r:S7}{n:Nat}(h16:r.af0.length<=16)(hr:∀c∈r.af0,0<=c/\c<(n:Int))(f:Cl Tryz.prog Int Bool (fun x=>[.t (tI x)]) (fun r=>.t (tB r)))(hf:∀c,0<=c->c<(n:Int)->∃b,f.f c=some b):
  ∃o,(aO4 r f).m=some o/\o.length<=16:=by
 simp only[aO4,C.of,M.run]
 obtain⟨o,h1,h2⟩:=au4 r.af0 (by omega) (fun i x (o:List Int)=>(aD9 f i x o).run) (fun k o=>o.length<=k) [] (cq9 _) (fun k x o hx hI=>by
  have hk:=(bt7.1 hx).1
  have hm:=hr x (cY9 hx)
  obtain⟨b,hb⟩:=hf x hm.1 hm.2
  simp only[aD9,M.run,U1.m,Cl.at,hb,aH3]
  cases b
  ·exact⟨_,rfl,by omega⟩
  ·simp only[fj8]
   rw[H7 _ _ (by simp only[cr0];omega)]
   exact⟨_,rfl,by simp only[aY1,cr0];omega⟩)
 rw[h1]
 exact⟨_,rfl,by omega⟩
theorem dv2 (f:Cl Tryz.prog Int Bool (fun x=>[.t (tI x)]) (fun r=>.t (tB r)))(hf:∀c,0<=c->c<7->∃b,f.f c=some b):
  ∃a,(aJ8 R0 f).m=some a/\a.length<=7/\∀x∈a,(0<=x.T4/\x.T4<7)/\x.af0.length<=16:=by
 simp only[aJ8,C.of,M.run]
 obtain⟨a,h1,h2,h3⟩:=ai6 R0.length (by rw[cI6];omega) (fun i (o:List W0)=>(ay9 R0 f i o).run) (fun k o=>o.length<=k/\∀x∈o,(0<=x.T4/\x.T4<7)/\x.af0.length<=16) [] ⟨cq9 _,by simp⟩ (fun k o hk hI=>by
  have hk7:k<7:=hk
  have hr:=dq3 cZ4 (ba6 hk)
  rw[fk4]at hr
  obtain⟨v,hv,hv16⟩:=dF6 (n:=7) hr.1 (fun c hc=>by
   have:=bN8.1 hr.2 c hc
   rw[aJ5,fk4,fk4]at this
   exact this) f hf
  simp only[ay9,M.run,L1.m,U1.m]
  rw[T5,aK2 hk]
  simp only[aH3,hv]
  cases decide ((v.length:Int)>0)
  ·exact⟨_,rfl,by omega,hI.2⟩
  ·simp only[fj8]
   rw[H7 _ _ (by simp only[cr0];omega)]
   refine⟨_,rfl,by simp only[aY1,cr0];omega,fun x hx=>?_⟩
   rcases cI5.1 hx with h|h
   ·exact hI.2 x h
   ·rw[eM2]at h
    subst h
    simp only
    exact⟨by omega,hv16⟩)
 rw[h1]
 exact⟨a,rfl,h2,h3⟩
theorem dD9 {f:B7}(hv:(Z3 f).m=some true)(hl:f.L.length=7):∃a,(aO3 R0 f).m=some (a,0)/\a.length<=7/\∀x∈a,(0<=x.T4/\x.T4<7)/\x.af0.length<=16:=by
 obtain⟨a,h1,h2⟩:=dv2 (.of (fun z_=>aG4 z_ (-1) f) 287 [Pv.encI (-1),aR3 f]) (fun c h0 h7=>by
  simp only[Cl.of,aG4,C.of,M.run,L1.m]
  rw[show(c != -1)=true by simp;omega]
  have:D4 f.L c=some (f.L[c.toNat]'(by omega)):=by
   conv=>lhs;rw[show c=((c.toNat:Nat):Int) by omega]
   rw[T5,aK2 (by omega)]
  rw[this]
  exact⟨_,rfl⟩)
 refine⟨a,?_,h2⟩
 simp only[aO3,bv8,bp3,C.of,M.run,hv,hl,aH3,fj8]
 rw[show(((7:Nat):Int))=7 by rfl,cZ5]
 simp only[aH3,aP9,fj6]
 rw[h1]
 rfl
theorem dZ0 {a:List W0}(ha:a.length<=7)(hr:∀x∈a,0<=x.T4/\x.T4<7)(g o:Int):∃v e,(bv7 R0 a g o).m=some (v,e)/\(-5000<=o->o<=10000-> -5000<=v/\v<=10000):=by
 have hc:(az7 a (.of (fun z_=>bj7 z_ R0) 220 [(Pv.encS ac0) R0])).m=some (a.any fun x=>decide (x.T4<0)||decide (x.T4>=(R0.length:Int))):=by
  simp only[az7,aZ0,aQ1,C.of,M.run,L1.m,Cl.at,Cl.of]
  refine Eq.trans ?_ (bJ3 a (by omega) (fun x=>(bj7 x R0).m) (fun x=>decide (x.T4<0)||decide (x.T4>=(R0.length:Int))) (fun y _=>rfl))
  kernel_rfl
 simp only[bv7,C.of,M.run,dD5,hc,aH3,aP9,dQ6]
 rw[fk3 (show¬((a.length:Int)>64) by omega)]
 simp only[fj6,aH3]
 have hn:(a.any fun x=>decide (x.T4<0)||decide (x.T4>=(R0.length:Int)))=false:=by
  rw[ds5]
  intro x hx
  have:=hr x hx
  rw[cI6]
  simp only[cG1,fk4]
  omega
 rw[hn]
 simp only[fj6]
 cases(decide (g<0)||decide (g>15))
 ·simp only[fj6]
  obtain⟨u,h1,h2⟩:=au4 a (by omega) (fun i x (s:Int×Int)=>(bg3 R0 g i x s).run) (fun _ s=>-5000<=o->o<=10000-> -5000<=s.1/\s.1<=10000) (o,-1) (fun h1 h2=>⟨h1,h2⟩) (fun k x s hx hI=>by
   have hm:=hr x (cY9 hx)
   have hlt:x.T4.toNat<R0.length:=by rw[cI6];omega
   have hl:=dq3 dU1 (ba6 hlt)
   rw[fk4,fk4]at hl
   simp only[bg3,M.run,L1.m]
   have:D4 R0 x.T4=some R0[x.T4.toNat]:=by
    conv=>lhs;rw[show x.T4=((x.T4.toNat:Nat):Int) by omega]
    rw[T5,aK2 hlt]
   rw[this]
   simp only[aH3]
   cases((R0[x.T4.toNat].cZ2 !=g)||decide (R0[x.T4.toNat].E7<s.2))<;>simp only[fj6,fj8]
   ·cases decide (R0[x.T4.toNat].E7>s.2)
    ·refine⟨_,rfl,fun h3 h4=>?_⟩
     have:=hI h3 h4
     unfold F5
     simp only
     split<;>omega
    ·refine⟨_,rfl,fun h3 h4=>?_⟩
     unfold F5
     simp only
     split<;>omega
   ·exact⟨_,rfl,hI⟩)
  rw[h1]
  exact⟨_,_,rfl,h2⟩
 ·exact⟨_,_,rfl,fun _ _=>by omega⟩
theorem dg9 (n o:Int)(c:j9)(ha:c.Y7.length<=7)(hr:∀x∈c.Y7,0<=x.T4/\x.T4<7):∃v,(as1 n o R0 c).m=some v/\(-5000<=o->o<=10000-> -5000<=v/\v<=10000):=by
 obtain⟨v,e,h1,h2⟩:=dZ0 ha hr n o
 simp only[as1,CG.of,M.run,h1,aH3]
 exact⟨v,rfl,h2⟩
structure fg9 (s r:j9):Prop where
 C4:r.u.u9=s.u.u9
 con:r.u.u5=s.u.u5
 sch:r.u.j3=s.u.j3
 syn:r.u.Q2=s.u.Q2
 pha:r.u.M7=s.u.M7
 fil:r.u.H8=s.u.H8
 gua:r.u.M1=s.u.M1
 qui:r.u.K3=s.u.K3
 sta:r.u.J1=s.u.J1
 pla:r.u.A6=s.u.A6
 bod:r.u.Y4=s.u.Y4
 d:r.d=s.d
 k:r.k=s.k
 t:r.t=s.t
 o9:r.o9=s.o9
 known:r.known=s.known
 cut:r.cut=s.cut
 y9:r.y9=s.y9
 S9:r.S9=s.S9
 act:r.Y7.length<=7/\∀x∈r.Y7,x.af0.length<=16
 at8:-5000<=r.at8/\r.at8<=10000
 C1:50<=r.C1/\r.C1<=1013
 aQ3:-40<=r.aQ3/\r.aQ3<=150
 D6:-40<=r.D6/\r.D6<=150
 aJ6:0<=r.aJ6/\r.aJ6<=20000
end Go.Proofs.YtmhdghdbojdgfaaGreat.Ec
namespace Go.Pv
open Go
theorem fe6:bV1 ⟨0⟩:=⟨by decide,by decide⟩
theorem ea4 {t:o8}{e:o6}{b:L4}{c:A7}{i:W5}(h:Giv t e b c i)(f:Int):bz1 e (nxC t b c i f)=true:=by
 have ht:=dg8 h.t
 have hc:=ce9.1 h.c
 have hi:=eh8.1 h.i
 obtain⟨k1,k2,k3⟩:=eL2 hc.kno hi.int (by rw[hc.num];exact hi.num) (by rw[hc.num];exact hi.len)
 rw[ce9]
 refine⟨hc.eng,(cR6 hc.ped _ _).2,(df0 hc.mix hi.lam hi.spd (be6 ht i)).2,by rw[<-hc.num];exact k3,k2,?_,(dv3 ht h.b hc f).2,en7 (dg0 hi) _⟩
 show bV1 (idV t c i)
 unfold idV
 cases acV c i
 ·exact fe6
 ·exact(dP9 ht.idle hc.sum hi.coo hi.spd).2
theorem eq5 {e:o6}(h:Ev.aB5 e):bz1 e (eF2 e.u6.length)=true:=by
 rw[ce9]
 refine⟨h,(show cY2 ⟨0,0,false⟩=true by decide),(show cQ4 dJ5=true by decide),by simp[eF2],?_,fe6,(show(0:Int)<=0/\(0:Int)<=1073741824 by decide),(show granted ⟨0,-1⟩from⟨⟨by decide,by decide⟩,⟨by decide,by decide⟩⟩)⟩
 rw[bN8]
 intro x hx
 have:x=k0:=eX5 hx
 subst this;decide
end Go.Pv
namespace Go.Proofs.YtmhdghdbojdgfaaGreat.Ec
open Go Go.Pv Go.Pv.Ec Go.Proofs
structure ez5 (s:j9):Prop where
 at8:-5000<=s.at8/\s.at8<=10000
 C1:50<=s.C1/\s.C1<=1013
 aQ3:-40<=s.aQ3/\s.aQ3<=150
 D6:-40<=s.D6/\s.D6<=150
 aJ6:0<=s.aJ6/\s.aJ6<=20000
theorem fb4 (o:A7):(by7 o).m=some o:=rfl
theorem eR5 (n o:A7):(bp8 n 0 o).m=some n:=rfl
theorem fb7 (o:O5):(bD7 o).m=some o:=rfl
theorem eR8 (n o:O5):(bt9 n 0 o).m=some n:=rfl
theorem cB9 (s:j9):(bi6 s).m=some ⟨9,1,s.at8,15⟩:=rfl
theorem fd1 (w:Int)(h: -5000<=w/\w<=10000):Ar.co7 ⟨9,1,w,15⟩:=
 ⟨⟨(by decide:(0:Int)<=9),(by decide:(9:Int)<=15)⟩,⟨(by decide:(0:Int)<=15),(by decide:(15:Int)<=15)⟩,h,.inl rfl⟩
theorem ds9 {s:j9}(hs:SOk s)(ha:ez5 s)(ht:cd8 s.u.u9=true)(hb:aW2 s.u.Y4=true)(hg:bz1 s.u.j3.p6 s.u.u5=true):
  ∃c o,(aU1 s).m=some {s with u:={s.u with u5:=c},E9:=o}/\
   bz1 s.u.j3.p6 c=true/\o.O1.length=s.u.j3.p6.u6.length:=by
 obtain⟨v,e0,_⟩:=aS3 hs 0
 obtain⟨v2,e1,_⟩:=aS3 hs 1
 have hc:=ce9.1 hg
 have hn:1<=s.u.j3.p6.u6.length/\s.u.j3.p6.u6.length<=8:=⟨hc.eng.1,hc.eng.2.1⟩
 have em:aS0 (s.u.j3.p6.u6.length:Int) (0:Int)=some (cr2 s.u.j3.p6.u6.length 0):=by
  unfold aS0
  rw[if_pos (by omega)]
  rfl
 have hi:Giv s.u.u9 s.u.j3.p6 s.u.Y4 s.u.u5 (⟨v,v2,s.o9,s.C1,s.aQ3,13500,s.aJ6,s.D6,cr2 s.u.j3.p6.u6.length 0,([⟨9,1,s.at8,15⟩]:List j2)⟩:W5):=by
  have h1:=ha.C1;have h2:=ha.aQ3;have h3:=ha.D6;have h4:=ha.aJ6
  refine⟨ht,hb,hg,eh8.2 ⟨hn,by simp,by simp,hs.spd,by simp only;omega,h2,h3,by simp,h4,by simp[inR],?_⟩⟩
  simp only[List.all_cons,List.all_nil,eW8]
  rw[co8,fk4]
  exact fd1 _ ha.at8
 obtain⟨f,l,_,e2⟩:=ek8 hi (by simp)
 simp only[aU1,CG.of,M.run,e0,e1,em,cB9,aH3,cD7]
 rw[e2]
 simp only[aH3,fb4,eR5,fb7,eR8]
 refine⟨_,_,rfl,ea4 hi f,?_⟩
 simp only[fc5,cr4,List.length_range]
end Go.Proofs.YtmhdghdbojdgfaaGreat.Ec
namespace Go.Pv
open Go
def dM8 (l:List Int)(x:Int)(a:Nat):Prop:=∃_:a<l.length,(nd l a<=x/\∀j,a<j->j<l.length->x<nd l j)\/(a=0/\∀j,j<l.length->x<nd l j)
def dh9 (l:List Int)(x:Int)(b:Nat):Prop:=∃_:b<l.length,(x<=nd l b/\∀j,j<b->nd l j<x)\/(b+1=l.length/\∀j,j<l.length->nd l j<x)
theorem cy9 {l:List Int}(h:bz7 l)(x:Int):∃a b:Nat,dM8 l x a/\dh9 l x b/\ag1 l x=some ((a:Int),(b:Int)):=by
 have h2:=h.two
 have hl:=h.most
 obtain⟨u,hu,hu2⟩:=ai6 l.length (by omega) (aq6 l x) (fun k s=>∃a:Nat,s=(a:Int)/\a<l.length/\((a<k/\nd l a<=x/\∀j,a<j->j<k->x<nd l j)\/(a=0/\∀j,j<k->x<nd l j))) (0:Int)
  ⟨0,rfl,by omega,.inr ⟨rfl,fun j hj=>absurd hj (by omega)⟩⟩ (fun j hj s ⟨a,hs,ha,hI⟩=>by
   unfold aq6
   rw[C7 l j hj,aH3]
   by_cases hx:l[j]<=x
   ·rw[fk0 hx,fj8]
    refine⟨_,rfl,j,rfl,hj,.inl ⟨by omega,by rw[N5 hj];exact hx,fun i h1 h2=>absurd h2 (by omega)⟩⟩
   ·rw[fk3 hx,fj6]
    refine⟨_,rfl,a,hs,ha,?_⟩
    have step:∀i,i<j+1->(i<j->x<nd l i)->x<nd l i:=fun i hi hh=>by
     rcases da9 i j with h1|h1
     ·exact hh h1
     ·have:i=j:=by omega
      subst this
      rw[N5 hj];omega
    rcases hI with⟨h1,h2,h3⟩|⟨h1,h2⟩
    ·exact .inl ⟨by omega,h2,fun i hi hi2=>step i hi2 (fun q=>h3 i hi q)⟩
    ·exact .inr ⟨h1,fun i hi=>step i hi (h2 i)⟩)
 obtain⟨a,rfl,ha,haI⟩:=hu2
 have down:∀(k b:Nat),k<=l.length->b<l.length->((k<=b/\x<=nd l b/\∀j,k<=j->j<b->nd l j<x)\/(b+1=l.length/\∀j,k<=j->j<l.length->nd l j<x))->
   ∃b':Nat,dh9 l x b'/\L5 (ae2 l x) ((k:Int)-1,(b:Int))=some (.inl (-1,(b':Int))):=by
  intro k
  induction k with
  |zero=>
   intro b _ hb hI
   refine⟨b,⟨hb,?_⟩,E0 ?_⟩
   ·rcases hI with⟨_,h1,h2⟩|⟨h1,h2⟩
    ·exact .inl ⟨h1,fun j hj=>h2 j (Nat.zero_le _) hj⟩
    ·exact .inr ⟨h1,fun j hj=>h2 j (Nat.zero_le _) hj⟩
   ·simp[ae2]
  |succ k ih=>
   intro b hk hb hI
   have hkl:k<l.length:=by omega
   have e0:((k+1:Nat):Int)-1=(k:Int):=by omega
   have e:decide ((k:Int)>=0)=true:=fk0 (by omega)
   have ew:o4 ((k:Int)-1)=(k:Int)-1:=j6 (by omega) (by omega)
   rw[e0]
   by_cases hx:l[k]>=x
   ·obtain⟨b',h1,h3⟩:=ih k (by omega) hkl (.inl ⟨cq9 _,by rw[N5 hkl];exact hx,fun j h1 h2=>absurd h2 (by omega)⟩)
    refine⟨b',h1,?_⟩
    rw[G9 (s':=((k:Int)-1,(k:Int)))]
    ·exact h3
    ·simp only[ae2,e,fj8,T5,aK2 hkl,aH3,hx,decide_true,ew]
   ·have step:∀j,k<=j->(k+1<=j->nd l j<x)->nd l j<x:=fun j hj hh=>by
     rcases da9 k j with h1|h1
     ·exact hh h1
     ·have:j=k:=by omega
      subst this
      rw[N5 hkl];omega
    obtain⟨b',h1,h3⟩:=ih b (by omega) hb (by
     rcases hI with⟨h1,h2,h3⟩|⟨h1,h2⟩
     ·exact .inl ⟨by omega,h2,fun j h4 h5=>step j h4 (fun q=>h3 j q h5)⟩
     ·exact .inr ⟨h1,fun j h4 h5=>step j h4 (fun q=>h2 j q h5)⟩)
    refine⟨b',h1,?_⟩
    rw[G9 (s':=((k:Int)-1,(b:Int)))]
    ·exact h3
    ·simp only[ae2,e,fj8,T5,aK2 hkl,aH3,hx,decide_false,fj6,ew]
 obtain⟨b,hb,hb2⟩:=down l.length (l.length-1) (cq9 _) (by omega) (.inr ⟨by omega,fun j h1 h2=>absurd h2 (by omega)⟩)
 have ew:o4 ((l.length:Int)-1)=(l.length:Int)-1:=j6 (by omega) (by omega)
 have e1:((l.length-1:Nat):Int)=(l.length:Int)-1:=by omega
 have g0:=C7 l 0 (by omega)
 rw[show((0:Nat):Int)=0 from rfl]at g0
 refine⟨a,b,⟨ha,?_⟩,hb,?_⟩
 ·rcases haI with⟨_,h1,h2⟩|⟨h1,h2⟩
  ·exact .inl ⟨h1,h2⟩
  ·exact .inr ⟨h1,h2⟩
 ·unfold ag1
  rw[hu]
  simp only[aH3,ew]
  rw[e1]at hb2
  rw[hb2]
  simp only[aH3,g0]
  by_cases hx:x<l[0]
  · --the first node is above
   have:b=0:=by
    obtain⟨hbl,hb1⟩:=hb
    rcases hb1 with⟨_,h1⟩|⟨_,h1⟩
    ·rcases Nat.eq_zero_or_pos b with h0|h0
     ·exact h0
     ·have:=h1 0 h0
      rw[N5 (by omega)]at this
      omega
    ·have:=h1 0 (by omega)
     rw[N5 (by omega)]at this
     omega
   subst this
   rw[fk0 hx]
   rfl
  ·rw[fk3 hx]
   rfl
theorem cf4 {l:List Int}(h:bz7 l){x:Int}{a b i:Nat}(ha:dM8 l x a)(hb:dh9 l x b)(hi:bl7 l (lim l x) i)(f:Nat->Int):
  itp (nd l i) (nd l (i+1)) (f i) (f (i+1)) (lim l x)<=max (f a) (f b):=by
 have h2:=h.two
 obtain⟨k0,k1,k2,k3,_,_⟩:=hi.nd h
 obtain⟨hal,ha⟩:=ha
 obtain⟨hbl,hb⟩:=hb
 have hle:∀i j,i<=j->j<l.length->nd l i<=nd l j:=fun i j h1 h2=>by rw[N5 h2,N5 (by omega)];exact h.le j i h2 h1
 have hlt:∀i j,i<j->j<l.length->nd l i<nd l j:=fun i j h1 h2=>by rw[N5 h2,N5 (by omega)];exact h.lt j i h2 h1
 have hh:l.headD 0=nd l 0:=by rw[bE2 l (by omega),N5 (by omega)]
 have ht:l.getLastD 0=nd l (l.length-1):=by rw[bf4 l (by omega),N5 (by omega)]
 have hlim:lim l x=min (max x (nd l 0)) (nd l (l.length-1)):=by unfold lim;rw[hh,ht]
 have h0l:=hle 0 (l.length-1) (by omega) (by omega)
 have node:∀c,c<l.length->lim l x=nd l c->itp (nd l i) (nd l (i+1)) (f i) (f (i+1)) (lim l x)=f c:=fun c hc e=>by
  rw[e]at k1 k2|-
  have c1:i<=c:=by
   rcases da9 c i with q|q
   ·have:=hlt c i q (by omega);omega
   ·exact q
  have c2:c<=i+1:=by
   rcases da9 (i+1) c with q|q
   ·have:=hlt (i+1) c q hc;omega
   ·exact q
  rcases(show c=i\/c=i+1 by omega)with rfl|rfl
  ·exact dv6 ..
  ·exact de3 k3
 rcases fh2 x (nd l 0)with q|q
 ·have e:lim l x=nd l 0:=by omega
  have:a=0:=by
   rcases ha with⟨h1,_⟩|⟨h1,_⟩
   ·have:=hle 0 a (by omega) hal;omega
   ·exact h1
  subst this
  rw[node 0 (by omega) e];omega
 ·rcases fh2 (nd l (l.length-1)) x with r|r
  ·have e:lim l x=nd l (l.length-1):=by omega
   have:b=l.length-1:=by
    rcases hb with⟨h1,_⟩|⟨h1,_⟩
    ·have:=hle b (l.length-1) (by omega) (by omega);omega
    ·omega
   subst this
   rw[node (l.length-1) (by omega) e];omega
  ·have e:lim l x=x:=by omega
   have ha':nd l a<=x/\∀j,a<j->j<l.length->x<nd l j:=by
    rcases ha with h1|⟨_,h1⟩
    ·exact h1
    ·have:=h1 0 (by omega);omega
   have hb':x<=nd l b/\∀j,j<b->nd l j<x:=by
    rcases hb with h1|⟨_,h1⟩
    ·exact h1
    ·have:=h1 (l.length-1) (by omega);omega
   rcases fh2 (nd l a) x with s|s
   ·have c1:i=a:=by
     rcases Nat.lt_trichotomy i a with q1|q1|q1
     ·have:=hle (i+1) a (by omega) hal
      omega
     ·exact q1
     ·have:=ha'.2 i q1 (by omega)
      omega
    have c2:b=a+1:=by
     rcases Nat.lt_trichotomy b (a+1)with q1|q1|q1
     ·have:=hle b a (by omega) hal;omega
     ·exact q1
     ·have:=hb'.2 (a+1) q1
      have:=ha'.2 (a+1) (by omega) (by omega)
      omega
    subst c1 c2
    exact(bi8 (lo:=min (f i) (f (i+1))) k1 k2 k3 (by omega) (by omega) (by omega) (by omega)).2
   ·rw[node a hal (by omega)];omega
theorem cu5 {m:SMap}(h:bp0 m=true)(x y:Int):∃v c,X7 m x y=some v/\X4 m x y=some c/\v<=c:=by
 have hm:=ca3 h
 obtain⟨i,j,hi,hj,e⟩:=ee8 h x y
 obtain⟨a,b,ha,hb,eab⟩:=cy9 hm.x x
 obtain⟨c,d,hc,hd,ecd⟩:=cy9 hm.y y
 have la:=ha.1;have lb:=hb.1;have lc:=hc.1;have ld:=hd.1
 have za:a<m.Z.length:=by have:=hm.zl;omega
 have zb:b<m.Z.length:=by have:=hm.zl;omega
 have ra:=hm.rl a za
 have rb:=hm.rl b zb
 refine⟨_,max (max (zz m a c) (zz m a d)) (max (zz m b c) (zz m b d)),e,?_,?_⟩
 ·unfold X4
  rw[eab,ecd]
  simp only[aH3]
  rw[C7 m.Z a za,aH3,C7 _ c (by omega),aH3,C7 _ d (by omega),aH3,C7 m.Z b zb,aH3,C7 _ c (by omega),aH3,C7 _ d (by omega),aH3,
   <-bV8 za (by omega),<-bV8 za (by omega),<-bV8 zb (by omega),<-bV8 zb (by omega)]
  simp only[ao3]
  congr 1;omega
 ·have h1:=cf4 hm.y hc hd hj (fun j=>along m i (lim m.X x) j)
  have h2:=cf4 hm.x ha hb hi (fun i=>zz m i c)
  have h3:=cf4 hm.x ha hb hi (fun i=>zz m i d)
  have e1:itp (nd m.X i) (nd m.X (i+1)) (zz m i c) (zz m (i+1) c) (lim m.X x)=along m i (lim m.X x) c:=rfl
  have e2:itp (nd m.X i) (nd m.X (i+1)) (zz m i d) (zz m (i+1) d) (lim m.X x)=along m i (lim m.X x) d:=rfl
  rw[e1]at h2
  rw[e2]at h3
  unfold atV
  omega
def cB8 (r:j2):Bool:=((!(((decide (r.N4<0))||(decide (r.N4>15)))||(decide (r.E7<0))||(decide (r.E7>15))))&&((decide (r.p7>=(-5000)))&&(decide (r.p7<=10000))))&&((r.Kind==1)||(decide (r.N4<=1)&&((r.Kind==2)||(r.Kind==3))))
theorem dS0 (r:j2):S1 r=some (cB8 r):=by
 unfold S1 P1 cB8
 generalize decide (r.N4<0)=a,decide (r.N4>15)=b,decide (r.E7<0)=c,decide (r.E7>15)=d,decide (r.p7>=(-5000))=e,decide (r.p7<=10000)=f,(r.Kind==1)=h,decide (r.N4<=1)=i,(r.Kind==2)=j,(r.Kind==3)=k
 generalize(((a||b)||c)||d)=A,(j||k)=B
 cases A<;>cases e<;>cases f<;>cases h<;>cases i<;>cases B<;>rfl
theorem dV7 (l:List j2)(hl:l.length<=40):D8 l U3=some (!l.all cB8):=by
 have k:=ai0 l (by omega) U3 (fun r=>!cB8 r) (fun y _=>by simp[U3,dS0])
 have e2:(l.any fun z=>!cB8 z)= !l.all cB8:=by rw[dO9];simp
 rw[e2]at k
 exact k
def dR3 (s:Int×Int)(y:j2):Int×Int:=
 bif !((y.Kind==2)||(y.Kind==3))then s else(bif y.N4==1 then G7 s.1 (F5 y.p7 1500)else s.1,G7 s.2 y.E7)
def cB3 (p s:Int)(y:j2):Int:=bif (y.Kind==1)&&decide (y.E7>p)then F5 s y.p7 else s
theorem fc6 (l:List j2)(hl:l.length<=40)(s:Int×Int):ad5 l af9 s=some (.inl (l.foldl dR3 s)):=by
 rw[K8 _ (by omega)]
 refine bn7 l 0 s fun i s y _=>?_
 unfold af9 ax4 dR3
 simp only[aH3]
 cases((y.Kind==2)||(y.Kind==3))<;>cases(y.N4==1)<;>rfl
theorem fc7 (l:List j2)(hl:l.length<=40)(q:Int×Int)(s:Int):ad5 l (ag0 q) s=some (.inl (l.foldl (cB3 q.2) s)):=by
 rw[K8 _ (by omega)]
 refine bn7 l 0 s fun i s y _=>?_
 unfold ag0 cB3
 cases((y.Kind==1)&&decide (y.E7>q.2))<;>rfl
def en9 (g:ah6):Prop:=(0<=g.Over/\g.Over<=5)/\(0<=g.Calm/\g.Calm<=1000)/\(g.Over=0\/g.Calm=0)/\(g.Off=true\/g.Over<5)
instance (g:ah6):Decidable (en9 g):=by unfold en9;infer_instance
def dT4 (n:Int):Prop:=-20000<=n/\n<=20000
instance (n:Int):Decidable (dT4 n):=by unfold dT4;infer_instance
def dH9 (n:Int)(x:A1):Int:=bif (x.Y5 !=0)then o4 (n+1)else n
theorem fh1 (l:List A1)(hl:l.length<=20)(s:Int):ad5 l aq5 s=some (.inl (l.foldl dH9 s)):=by
 rw[K8 _ (by omega)]
 refine bn7 l 0 s fun i s y _=>?_
 unfold aq5 dH9
 cases(y.Y5 !=0)<;>rfl
def ca1 (x:A1):Bool:=x.Y5 !=0
theorem cv6:∀(l:List A1) (s:Nat),s+l.length<=100->l.foldl dH9 (s:Int)=((s+l.countP ca1:Nat):Int)
 |[],s,_=>by simp
 |y::l,s,h=>by
  simp only[bq0]at h
  by_cases hy:ca1 y=true
  ·have e:dH9 (s:Int) y=((s+1:Nat):Int):=by
    unfold dH9;unfold ca1 at hy;rw[hy];simp only[fj8];rw[j6 (by omega) (by omega)];simp
   rw[ey7,e,cv6 l (s+1) (by omega),List.countP_cons_of_pos hy]
   congr 1;omega
  ·have hy':ca1 y=false:=by simpa using hy
   have e:dH9 (s:Int) y=(s:Int):=by unfold dH9;unfold ca1 at hy';rw[hy'];rfl
   rw[ey7,e,cv6 l s (by omega),List.countP_cons_of_neg hy]
def di2 (V n len:Int):Int:=(V*n+len-1).tdiv len
theorem cZ7 (t:o8)(x1 x2:Int)(hm:bp0 t.p7=true)(ho:(bif !(decide (x1>=0)&&decide (x1<=12000))then true else !(decide (x2>=0)&&decide (x2<=1048576)))=false)(c:Int)(c1:X4 t.p7 x1 x2=some c):
  ∀l:List A1,1<=l.length->l.length<=8->ax3 t x1 x2 l=some (di2 (F5 (G7 c 0) 10000) (l.countP ca1:Nat) (l.length:Nat),0):=by
 intro l hl hl2
 have h1:0<=F5 (G7 c 0) 10000:=by unfold G7 F5;repeat' split<;>omega
 have h2:F5 (G7 c 0) 10000<=10000:=by unfold F5;split<;>omega
 unfold ax3
 rw[ao1,hm]
 have h8:decide ((l.length:Int)>8)=false:=by simp;omega
 have h0:((l.length:Int)==0)=false:=by
  have:¬(l.length:Int)=0:=by omega
  simpa using this
 have hn:=cv6 l 0 (by omega)
 simp only[aH3,aP9,fj6,h8]
 unfold N0
 simp only[aH3,cJ7]
 rw[ho]
 simp only[fj6,h0]
 rw[fh1 l (by omega),show(0:Int)=((0:Nat):Int)from rfl,hn]
 simp only[aH3,c1]
 rw[show((0:Nat):Int)=0 from rfl,cV7]
 have hcl:l.countP ca1<=l.length:=List.countP_le_length
 generalize F5 (G7 c 0) 10000=V at h1 h2|-
 generalize l.countP ca1=n at hcl|-
 have hV1:0<=V*(n:Int):=eQ2 h1 (by omega)
 have hV2:V*(n:Int)<=10000*8:=by
  have:=eP0 h2 (show(n:Int)<=8 by omega) (by omega) (by omega)
  exact this
 have hne:¬(l.length:Int)=0:=by omega
 unfold di2
 generalize V*(n:Int)=p at hV1 hV2|-
 rw[j6 (n:=p) (by omega) (by omega),j6 (n:=p+(l.length:Int)) (by omega) (by omega),j6 (n:=p+(l.length:Int)-1) (by omega) (by omega)]
 simp only[bn5,if_neg hne,aH3]
 have hq1:0<=(p+(l.length:Int)-1).tdiv (l.length:Int):=Int.tdiv_nonneg (by omega) (by omega)
 have hq2:(p+(l.length:Int)-1).tdiv (l.length:Int)<=p+(l.length:Int)-1:=Int.tdiv_le_self _ (by omega)
 have:=j6 (n:=(p+(l.length:Int)-1).tdiv (l.length:Int)) (by omega) (by omega)
 unfold o4 at this
 rw[this]
theorem dn0 (t:o8)(x1 x2:Int)(hm:bp0 t.aI4=true)(ho:(bif !(decide (x1>=0)&&decide (x1<=1000))then true else !(decide (x2>=0)&&decide (x2<=12000)))=false)(c:Int)(c1:X4 t.aI4 x2 x1=some c):
  ∀l:List j2,l.all cB8=true->l.length<=32->
   ae1 t x1 x2 l=some (o4 (G7 0 (F5 (l.foldl (cB3 (l.foldl dR3 (-5000,-1)).2) 10000) (G7 (F5 (G7 c (-5000)) 10000) (l.foldl dR3 (-5000,-1)).1))+100),0):=by
 intro l hq hl
 unfold ae1
 rw[ao1]
 simp only[aH3]
 rw[dV7 l (by omega),hm,hq]
 simp only[aP9,fj6,aH3]
 have h32:decide ((l.length:Int)>32)=false:=by simp;omega
 rw[h32]
 simp only[fj6]
 unfold N0
 simp only[aH3,cJ7]
 rw[ho]
 simp only[fj6,c1,aH3]
 rw[fc6 l (by omega)]
 simp only[aH3]
 rw[fc7 l (by omega)]
 rfl
end Go.Pv
namespace Go.Proofs.YtmhdghdbojdgfaaGreat.Ec
open Go Go.Pv Go.Pv.Ec Go.Proofs
theorem eK5 (o:ah6):(bR4 o).m=some o:=rfl
theorem eo4 (n:ah6)(e:Int)(o:ah6):(bi4 n e o).m=some (bif e !=0 then o else n):=by
 simp only[bi4,C.of,M.run]
 cases e !=0<;>rfl
theorem dE1 {c:j9}(ht:cd8 c.u.u9=true)(hs:0<=c.o9/\c.o9<=12000)(hc:0<=c.A0/\c.A0<=1048576)(h1:1<=c.E9.O1.length)(h8:c.E9.O1.length<=8):∃v,(au3 c).m=some v:=by
 have hm:bp0 c.u.u9.p7=true:=by
  have:=(dg8 ht).tor
  unfold aZ4 at this
  simp only[aJ5]at this
  first|exact this.1.1.1.1|exact this.1.1|exact this.1|exact this.1.1.1
 obtain⟨v,k,_,e1,_⟩:=cu5 hm c.o9 c.A0
 have:=cZ7 c.u.u9 c.o9 c.A0 hm (by
  rw[fk0 hs.1,fk0 hs.2,fk0 hc.1,fk0 hc.2];rfl) k e1 c.E9.O1 h1 h8
 simp only[au3,CG.of,M.run,by0]
 rw[this]
 exact⟨_,rfl⟩
theorem eK7 (o:ac8):(bA6 o).m=some o:=rfl
theorem eo6 (n:ac8)(e:Int)(o:ac8):(aZ9 n e o).m=some (bif e !=0 then o else n):=by
 simp only[aZ9,C.of,M.run]
 cases e !=0<;>rfl
def eY1 (t:Int)(q:ac8):Prop:=qzB q=true/\q.ar9<=t
theorem eo7 (o:c8):(aC9 o).m=some o:=rfl
theorem dI1 (n:c8)(e:Int)(o:c8):(am9 n e o).m=some (bif e !=0 then o else n):=by
 simp only[am9,C.of,M.run]
 cases e !=0<;>rfl
theorem bV2 (s:j9)(n:c8)(l:List j8)(e:Int)(hl:s.y9.length+l.length<=1073741824):
  (aH6 s n l e).m=some {s with u:={s.u with j3:=bif e !=0 then s.u.j3 else n},y9:=bif e !=0 then s.y9 else s.y9++l}:=by
 simp only[aH6,CG.of,M.run,U1.m,eo7,dI1,aH3,H7 _ _ hl]
 by_cases he:e=0
 ·subst he;rfl
 ·rw[show(e !=0)=true by simpa using he,show(e==0)=false by simpa using he];rfl
end Go.Proofs.YtmhdghdbojdgfaaGreat.Ec
namespace Go.Pv.Ev
open Go Go.Pv
def cen (e:o6)(c:Int):Int:=(e.as0+G7 (idx c e.u6 0) 0*46080/(e.u6.length:Int))%46080
theorem da7 (e:o6)(c:Int):0<=cen e c/\cen e c<46080:=by unfold cen;omega
theorem es3 {a b:Int}(ha:0<=a)(hb:0<b)(hm:a<=9223372036854775807):bn5 .i64 a b=some (a/b):=by
 have h1:a/b<=a:=eL3 _ ha
 have h2:0<=a/b:=eN3 ha (by omega)
 unfold bn5
 rw[if_neg (by omega),cr3 ha]
 exact congrArg some (j6 (by omega) (by omega))
theorem da8 (e:o6)(c:Int)(h:aB5 e):ak4 e c=some (cen e c,decide (c∈e.u6)):=by
 obtain⟨h1,h2,h3,h4,h5,h6⟩:=h
 unfold ak4
 rw[bS8 _ _ (by omega)]
 simp only[aH3]
 have hm:0<=G7 (idx c e.u6 0) 0/\G7 (idx c e.u6 0) 0<8:=by
  rcases bS7 c e.u6 0 with⟨e1,_⟩|⟨k,e1,e2⟩
  ·rw[e1];decide
  ·have:=(bt7.1 e2).1
   rw[e1];unfold G7;split<;>omega
 rw[j6 (by omega) (by omega),es3 (by omega) (by omega) (by omega)]
 simp only[aH3]
 have hq:0<=G7 (idx c e.u6 0) 0*46080/(e.u6.length:Int):=eN3 (by omega) (by omega)
 have hq2:G7 (idx c e.u6 0) 0*46080/(e.u6.length:Int)<=G7 (idx c e.u6 0) 0*46080:=eL3 _ (by omega)
 rw[j6 (by omega) (by omega),dp1 (by omega),dQ0]
 rfl
theorem dU0 (e:o6)(c:Int):av5 e c=some (bif !decide (aB5 e)then(0,1)else bif !decide (c∈e.u6)then(0,7)else(cen e c,0)):=by
 unfold av5
 rw[ao1]
 cases hd:decide (aB5 e)
 ·rfl
 ·simp only[aH3,aP9,fj6]
  rw[da8 e c (of_decide_eq_true hd)]
  simp only[aH3]
  cases decide (c∈e.u6)<;>rfl
def bf2 (e:o6)(f:A1):Prop:=f.u0∈e.u6/\(-1280<=f.O0/\f.O0<=3840)/\(500<=f.ae7/\f.ae7<=10000)/\(0<=f.End/\f.End<=23040)/\(f.Y5=0\/(200<=f.Y5/\f.Y5<=20000))/\
 ((f.Gap=0/\f.Extra=0)\/(f.Y5≠0/\(200<=f.Gap/\f.Gap<=20000)/\(200<=f.Extra/\f.Extra<=20000)))
instance (e:o6)(f:A1):Decidable (bf2 e f):=by unfold bf2;infer_instance
theorem dP0 (e:o6)(f:A1):X1 e f=some (decide (aB5 e)&&decide (bf2 e f)):=by
 unfold X1 M6
 rw[ao1]
 cases hd:decide (aB5 e)
 ·rfl
 ·obtain⟨h1,h2,_⟩:=of_decide_eq_true hd
  simp only[aH3,aP9,fj6,contains_eq e.u6 f.u0 (by omega),da4,cI4]
  rw[aI5,dC6,fk4]
  unfold bf2
  simp only[fg0,Bool.cond_false_left,ff1,cG1,aJ5,bO4,bZ2,fe8,dT6,fk4,bne_iff_ne,bne_eq_false_iff_eq,beq_iff_eq,ne_eq,ge_iff_le]
  by_cases hm:f.u0∈e.u6
  ·simp only[hm,true_and]
   omega
  ·simp only[hm,false_and]
def pul (f:A1):Int:=bif f.Y5==0 then 0 else bif f.Extra==0 then 1 else 2
theorem eb2 (f:A1):ak3 f=some (pul f):=by
 unfold ak3 pul
 cases f.Y5==0<;>cases f.Extra==0<;>rfl
theorem cU4 {R:Type}(f:Int->Unit->Option (Fl Unit R))(p:Nat->Bool)(r:R):∀(k i:Nat),(∀j,i<=j->j<i+k->f (j:Int) ()=some (bif p j then .ret r else .next ()))->aX2 f k (i:Int) ()=some (bif (dR5 i k).any p then .inr r else .inl ())
 |0,i,_=>rfl
 |k+1,i,h=>by
  rw[List.range'_succ,fh7]
  simp only[aX2,h i (cq9 _) (by omega),aH3]
  cases hp:p i
  ·exact cU4 f p r k (i+1) fun j a b=>h j (by omega) (by omega)
  ·rfl
theorem dJ7 {R:Type}(n:Nat)(hn:n<=9223372036854775807)(f:Int->Unit->Option (Fl Unit R))(p:Nat->Bool)(r:R)(h:∀j,j<n->f (j:Int) ()=some (bif p j then .ret r else .next ())):K9 (n:Int) f ()=some (bif (dR5 0 n).any p then .inr r else .inl ()):=by
 rw[al5 _ hn]
 exact cU4 f p r n 0 fun j _ b=>h j (by omega)
theorem eA1 {α:Type}(l:List α)(p:α->Bool):(l.all fun x=>!p x)= !l.any p:=by
 induction l with
 |nil=>rfl
 |cons x l ih=>rw[List.all_cons,fh7,ih];cases p x<;>rfl
theorem dL7 (a:Int):(0<=a/\a.tmod 46080=a%46080)\/(a<0/\a.tmod 46080= -((-a)%46080)):=by
 rcases fh2 a 0 with h|h
 ·refine .inr ⟨h,?_⟩
  have:a.tmod 46080=(- -a).tmod 46080:=by rw[Int.neg_neg]
  rw[this,Int.neg_tmod,dp1 (by omega)]
 ·exact .inl ⟨h,dp1 h⟩
theorem mod_eq (a:Int)(h1: -1000000000000000<=a)(h2:a<=1000000000000000):ab8 a 46080=some (a%46080):=by
 unfold ab8 cg1
 simp only[show((46080:Int)==0)=false from rfl,show((46080:Int)== -1)=false from rfl,eM3,fj6,show¬(46080:Int)=0 from by decide,if_false,aH3,show decide ((46080:Int)<0)=false from rfl]
 rcases dL7 a with⟨h,e⟩|⟨h,e⟩
 ·rw[e]
  have:decide (a%46080<0)=false:=by simp;omega
  rw[this]
  simp
 ·rw[e]
  rcases Int.lt_or_eq_of_le (show 0<=(-a)%46080 by omega)with hq|hq
  ·have h3:decide (-(-a%46080)<0)=true:=by simp;omega
   have h4:(-(-a%46080) !=0)=true:=by simp;omega
   rw[h3,h4]
   simp only[show(true==false)=false from rfl,cI0,Bool.and_self,fj8]
   rw[j6 (by omega) (by omega)]
   congr 1;omega
  ·rw[<-hq]
   simp only[show((-0:Int) !=0)=false from rfl,ez1,fj6]
   congr 1;omega
def trn (d M5:Int):Int:=d*23040/M5
theorem bX9 {d M5:Int}(h0:0<=d)(h1:d<=20000)(ht:4000<=M5):0<=trn d M5/\trn d M5<=460800000:=by
 have h2:d*23040/M5<=d*23040:=eL3 _ (by omega)
 exact⟨eN3 (by omega) (by omega),by unfold trn;omega⟩
theorem cI2 {d M5:Int}(h0:0<=d)(h1:d<=20000)(ht:4000<=M5):K2 d M5=some (trn d M5):=by
 unfold K2
 rw[j6 (by omega) (by omega),es3 (by omega) (by omega) (by omega)]
 rfl
def mn (x:Int):Int:=F5 x 23040
theorem eq2 {x:Int}(h:0<=x):0<=mn x/\mn x<=23040:=by
 unfold mn F5;split<;>omega
def ea5 (f:A1)(t:Int):List (Int×Int×Int):=
 [(-f.O0,2,0),(-f.O0-mn (trn f.ae7 t),1,0)]++(bif decide (pul f>0)then [(-f.End,4,1),(-f.End-trn f.Y5 t,3,1)]else [])++(bif decide (pul f>1)then [(-f.End+trn f.Gap t,3,2),(-f.End+trn f.Gap t+trn f.Extra t,4,2)]else [])
def evF (e:o6)(f:A1)(o:Int×Int×Int):B6:=⟨(cen e f.u0+o.1)%46080,o.2.1,f.u0,o.2.2⟩
def evs (e:o6)(t:Int)(f:A1):List B6:=(ea5 f t).map (evF e f)
def dl7 (t:Int)(f:A1):Bool:=decide (trn f.Y5 t>23040)||decide (trn f.Gap t>23040)||decide (trn f.Extra t>23040)
theorem bj4 (f:A1):pul f=0\/pul f=1\/pul f=2:=by
 unfold pul;cases f.Y5==0<;>cases f.Extra==0<;>simp
theorem eq9 (f:A1)(t:Int):(ea5 f t).length<=6:=by
 rcases bj4 f with h|h|h<;>simp[ea5,h]
theorem cH0 (e:o6)(t:Int)(f:A1):(evs e t f).length<=6:=by
 unfold evs;rw[cr4];exact eq9 f t
theorem cB4 (a k p:Int)(c:List B6)(x:A1)(h1: -1000000000000000<=a)(h2:a<=1000000000000000)(hc:c.length<=100000):O6 a k p c x=some (c++[⟨a%46080,k,x.u0,p⟩]):=by
 unfold O6
 rw[mod_eq a h1 h2]
 simp only[aH3]
 rw[H7 _ _ (by simp only[cr0];omega)]
 rfl
theorem du1 {e:o6}{f:A1}(h:bf2 e f):(0<=f.ae7/\f.ae7<=20000)/\(0<=f.Y5/\f.Y5<=20000)/\(0<=f.Gap/\f.Gap<=20000)/\(0<=f.Extra/\f.Extra<=20000)/\(-1280<=f.O0/\f.O0<=3840)/\(0<=f.End/\f.End<=23040):=by
 unfold bf2 at h
 obtain⟨_,h⟩:=h
 omega
theorem step_eq (e:o6)(t i:Int)(x:A1)(c:List B6)(he:aB5 e)(hx:bf2 e x)(ht:4000<=t)(hc:c.length<=1000):
  aw7 e t i x c=some (bif dl7 t x then .ret ([],2)else .next (c++evs e t x)):=by
 obtain⟨⟨d0,d1⟩,⟨i0,i1⟩,⟨g0,g1⟩,⟨x0,x1⟩,⟨s0,s1⟩,n0,n1⟩:=du1 hx
 obtain⟨c0,c1⟩:=da7 e x.u0
 have td:=eq2 (bX9 d0 d1 ht).1
 have ti:=bX9 i0 i1 ht
 have tg:=bX9 g0 g1 ht
 have tx:=bX9 x0 x1 ht
 unfold aw7
 rw[da8 e _ he,cI2 d0 d1 ht,cI2 i0 i1 ht,cI2 g0 g1 ht,cI2 x0 x1 ht,eb2]
 simp only[aH3]
 rw[show F5 (trn x.ae7 t) 23040=mn (trn x.ae7 t)from rfl]
 have hl:decide (G7 (G7 (trn x.Y5 t) (trn x.Gap t)) (trn x.Extra t)>23040)=dl7 t x:=by
  rw[dC6]
  unfold dl7
  simp only[cG1,fk4]
  unfold G7
  split<;>split<;>omega
 rw[hl]
 unfold evs ea5
 simp only[eC3,cS3,ek7,evF]
 generalize hC:cen e x.u0=C at*
 generalize hD:mn (trn x.ae7 t)=D at*
 generalize hI:trn x.Y5 t=A at*
 generalize hG:trn x.Gap t=G at*
 generalize hX:trn x.Extra t=B at*
 rw[j6 (n:=C-x.O0) (by omega) (by omega),j6 (n:=C-x.O0-D) (by omega) (by omega),j6 (n:=C-x.End) (by omega) (by omega),j6 (n:=C-x.End-A) (by omega) (by omega),j6 (n:=C-x.End+G) (by omega) (by omega),j6 (n:=C-x.End+G+B) (by omega) (by omega)]
 rw[cB4 _ _ _ c _ (by omega) (by omega) (by omega)]
 simp only[aH3]
 rw[cB4 _ _ _ _ _ (by omega) (by omega) (by simp only[aY1,cr0];omega)]
 simp only[aH3]
 cases dl7 t x
 ·simp only[fj6]
  rcases bj4 x with hp|hp|hp
  ·rw[hp]
   simp only[show decide ((0:Int)>0)=false from rfl,show decide ((0:Int)>1)=false from rfl,fj6,aH3,ek7,cV6,dd3,dC8,cL8]
   rw[show C-x.O0-D=C+(-x.O0-D) by omega,show C-x.O0=C+ -x.O0 by omega]
  ·rw[hp]
   simp only[show decide ((1:Int)>0)=true from rfl,show decide ((1:Int)>1)=false from rfl,fj6,fj8]
   rw[cB4 _ _ _ _ _ (by omega) (by omega) (by simp only[aY1,cr0];omega)]
   simp only[aH3]
   rw[cB4 _ _ _ _ _ (by omega) (by omega) (by simp only[aY1,cr0];omega)]
   simp only[evF,hC,aH3,cS3,ek7,cV6,dd3,dC8,cL8]
   rw[show C-x.O0-D=C+(-x.O0-D) by omega,show C-x.O0=C+ -x.O0 by omega,show C-x.End-A=C+(-x.End-A) by omega,show C-x.End=C+ -x.End by omega]
  ·rw[hp]
   simp only[show decide ((2:Int)>0)=true from rfl,show decide ((2:Int)>1)=true from rfl,fj8]
   rw[cB4 _ _ _ _ _ (by omega) (by omega) (by simp only[aY1,cr0];omega)]
   simp only[aH3]
   rw[cB4 _ _ _ _ _ (by omega) (by omega) (by simp only[aY1,cr0];omega)]
   simp only[aH3]
   rw[cB4 _ _ _ _ _ (by omega) (by omega) (by simp only[aY1,cr0];omega)]
   simp only[aH3]
   rw[cB4 _ _ _ _ _ (by omega) (by omega) (by simp only[aY1,cr0];omega)]
   simp only[evF,hC,aH3,cS3,ek7,dd3,dC8,cL8]
   rw[show C-x.O0-D=C+(-x.O0-D) by omega,show C-x.O0=C+ -x.O0 by omega,show C-x.End-A=C+(-x.End-A) by omega,show C-x.End+G+B=C+(-x.End+G+B) by omega,show C-x.End+G=C+(-x.End+G) by omega,show C-x.End=C+ -x.End by omega]
 ·rfl
theorem dA5 (e:o6)(t:Int)(he:aB5 e)(ht:4000<=t):∀(l:List A1) (i:Int) (c:List B6),(∀x∈l,bf2 e x)->c.length+6*l.length<=1000->
  L9 (aw7 e t) l i c=some (bif l.any (dl7 t)then .inr ([],2)else .inl (c++l.flatMap (evs e t)))
 |[],i,c,_,_=>by simp[L9]
 |x::l,i,c,hx,hc=>by
  rw[bq0]at hc
  simp only[L9,step_eq e t i x c he (hx x (bx8 ..)) ht (by omega),aH3,fh7]
  cases dl7 t x
  ·simp only[fj6,dQ6,ez4]
   have:=cH0 e t x
   rw[<-dd3]
   exact dA5 e t he ht l (i+1) _ (fun y hy=>hx y (bF8 _ hy)) (by rw[aY1];omega)
  ·rfl
def ltE (a b:B6):Bool:=decide (a.H2<b.H2\/(a.H2=b.H2/\(a.u0<b.u0\/(a.u0=b.u0/\(a.Kind<b.Kind\/(a.Kind=b.Kind/\a.ai8<b.ai8))))))
def cX3 (x y:Int):Int:=if x<y then -1 else if x>y then 1 else 0
theorem cM5 (x y:Int):F6 x y=some (cX3 x y):=by
 unfold F6 cmp_isNaN_int cX3
 have h:∀z:Int,(z !=z)=false:=fun z=>by simp
 rw[h,h]
 simp only[aH3,fj6]
 by_cases h1:x<y
 ·rw[fk0 h1,if_pos h1];rfl
 ·rw[fk3 h1,if_neg h1]
  by_cases h2:x>y
  ·rw[fk0 h2,if_pos h2];rfl
  ·rw[fk3 h2,if_neg h2];rfl
def dk5 (a b c d:Int):Int:=bif a !=0 then a else bif b !=0 then b else bif c !=0 then c else d
theorem or_eq (a b c d:Int):af6 [a,b,c,d]=some (dk5 a b c d):=by
 unfold af6 dk5
 rw[K8 _ (by simp)]
 simp only[L9,ao6]
 cases ha:a !=0
 ·cases hb:b !=0
  ·cases hc:c !=0
   ·cases hd:d !=0
    ·have:d=0:=by simpa using hd
     rw[this];rfl
    ·rfl
   ·rfl
  ·rfl
 ·rfl
theorem dx5 (a b:B6):al1 a b=some (dk5 (cX3 a.H2 b.H2) (cX3 a.u0 b.u0) (cX3 a.Kind b.Kind) (cX3 a.ai8 b.ai8)):=by
 unfold al1
 simp only[cM5,aH3,or_eq]
theorem bi1 (x y:Int):(x<y/\cX3 x y= -1)\/(x=y/\cX3 x y=0)\/(y<x/\cX3 x y=1):=by
 unfold cX3
 split
 ·exact .inl ⟨by assumption,rfl⟩
 ·split
  ·exact .inr (.inr ⟨by omega,rfl⟩)
  ·exact .inr (.inl ⟨by omega,rfl⟩)
theorem aP0 (a b:B6):ltM al1 a b=ltE a b:=by
 unfold ltM ltE
 rw[dx5,ez0,decide_eq_decide]
 unfold dk5
 rcases bi1 a.H2 b.H2 with⟨h1,e1⟩|⟨h1,e1⟩|⟨h1,e1⟩<;>rw[e1]
 ·simp;omega
 ·rcases bi1 a.u0 b.u0 with⟨h2,e2⟩|⟨h2,e2⟩|⟨h2,e2⟩<;>rw[e2]
  ·simp;omega
  ·rcases bi1 a.Kind b.Kind with⟨h3,e3⟩|⟨h3,e3⟩|⟨h3,e3⟩<;>rw[e3]
   ·simp;omega
   ·rcases bi1 a.ai8 b.ai8 with⟨h4,e4⟩|⟨h4,e4⟩|⟨h4,e4⟩<;>rw[e4]<;>simp<;>omega
   ·simp;omega
  ·simp;omega
 ·simp;omega
theorem eE5 (x:B6):ltE x x=false:=by unfold ltE;simp
theorem dZ2 {x y z:B6}(h1:ltE x y=true)(h2:ltE y z=true):ltE x z=true:=by
 unfold ltE at*;simp only[fk4]at*;omega
theorem dY7 {x y z:B6}(h1:ltE x y=false)(h2:ltE y z=false):ltE x z=false:=by
 unfold ltE at*;simp only[fk7]at*;omega
theorem ep2 {x y:B6}(h1:ltE x y=false)(h2:ltE y x=false):x=y:=by
 unfold ltE at*;simp only[fk7]at*
 refine B6.ext ?_ ?_ ?_ ?_<;>omega
def srt (l:List B6):List B6:=l.mergeSort fun x y=>!ltE y x
theorem ev3 (l:List B6):(srt l).Perm l:=List.mergeSort_perm _ _
theorem eH7 (l:List B6)(h:l.length<=1000000):aa3 l al1=some (srt l):=by
 unfold aa3 srt
 have e:(fun x y=>!ltM al1 y x)=fun x y=>!ltE y x:=by funext x y;rw[aP0]
 rw[bU6 ⟨by omega,fun x _ y _=>⟨_,dx5 x y⟩,fun x _=>by rw[aP0,eE5],fun x _ y _ z _=>by rw[aP0,aP0,aP0];exact dZ2,
  fun x _ y _ z _=>by rw[aP0,aP0,aP0];exact dY7,fun x _ y _=>by rw[aP0,aP0];exact ep2⟩,e]
def dO5 (l:List A1)(i:Nat):Bool:=match l[i]?with|some x=>(l.take i).any fun g=>g.u0==x.u0|none=>false
def eB5 (l:List A1):Bool:=(dR5 0 l.length).any (dO5 l)
def ew9 (t:Int):Bool:=decide (t>=4000)&&decide (t<=1000000)
def dV5 (e:o6)(l:List A1):Bool:=l.any fun f=>!decide (bf2 e f)
def bg1 (e:o6)(l:List A1)(t:Int):List B6×Int:=
 bif !decide (aB5 e)then([],1)else bif dV5 e l then([],1)else bif !ew9 t then([],2)else bif eB5 l then([],8)else bif l.any (dl7 t)then([],2)else(srt (l.flatMap (evs e t)),0)
theorem em7 (e:o6)(t:Int)(l:List A1):(l.flatMap (evs e t)).length<=6*l.length:=by
 induction l with
 |nil=>simp
 |cons x l ih=>
  have:=cH0 e t x
  rw[ez4,aY1,bq0];omega
theorem dE8 {e:o6}{l:List A1}(h:dV5 e l=false):∀x∈l,bf2 e x:=by
 intro x hx
 unfold dV5 at h
 rw[ds5]at h
 simpa using h x hx
theorem eG2 (e:o6)(l:List A1)(t:Int)(hl:l.length<=100):aF5 e l t=some (bg1 e l t):=by
 unfold aF5 bg1
 rw[ao1]
 cases hd:decide (aB5 e)
 ·rfl
 ·have he:=of_decide_eq_true hd
  simp only[aH3,aP9,fj6]
  have k:=ai0 l (by omega) (fun x0=>ao7 x0 e) (fun f=>!decide (bf2 e f)) (fun y _=>by unfold ao7;rw[dP0,hd];rfl)
  have k':F2 l (fun x0=>ao7 x0 e)=some (dV5 e l):=k
  rw[k']
  simp only[aH3]
  cases hb:dV5 e l
  ·have hf:=dE8 hb
   simp only[fj6]
   unfold M6 ew9
   simp only[aH3]
   cases ht:(decide (t>=4000)&&decide (t<=1000000))
   ·rfl
   ·simp only[aP9,fj6]
    have ht1:4000<=t:=by simp at ht;omega
    rw[dJ7 l.length (by omega) (aD1 l) (dO5 l) ([],8) (fun j hj=>by
     unfold aD1 dO5
     have hs:ay4 l 0 (j:Int)=some (l.take j):=by
      unfold ay4
      rw[if_pos ⟨by omega,by omega,by omega⟩]
      simp
     rw[C7 _ _ hj,aK2 hj,hs]
     simp only[aH3]
     have k2:=ai0 (l.take j) (by rw[bE9];omega) (fun x0=>av6 x0 l[j]) (fun g=>g.u0==l[j].u0) (fun y _=>rfl)
     have k3:F2 (l.take j) (fun x0=>av6 x0 l[j])=some ((l.take j).any fun g=>g.u0==l[j].u0):=k2
     rw[k3]
     simp only[aH3]
     cases(l.take j).any fun g=>g.u0==l[j].u0<;>rfl)]
    rw[show(dR5 0 l.length).any (dO5 l)=eB5 l from rfl]
    cases eB5 l
    ·simp only[fj6,aH3]
     rw[K8 _ (by omega),dA5 e t he ht1 l 0 [] hf (by simp;omega)]
     cases l.any (dl7 t)
     ·simp only[fj6,aH3,cL8]
      have:=em7 e t l
      rw[eH7 _ (by omega)]
      rfl
     ·rfl
    ·rfl
  ·rfl
end Go.Pv.Ev
namespace Go.Pv
open Go
namespace Ev
def evP (x:B6):Prop:=(0<=x.H2/\x.H2<46080)/\(1<=x.Kind/\x.Kind<=4)/\(1<=x.u0/\x.u0<=8)/\(0<=x.ai8/\x.ai8<=2)
instance (x:B6):Decidable (evP x):=by unfold evP;infer_instance
def cb6 (a:Int):Bool:=decide (a>=0)&&decide (a<46080)
theorem bs6 {a:Int}:cb6 a=true↔0<=a/\a<46080:=by unfold cb6;simp
def dst (a b:Int):Int:=(b-a)%46080
theorem el2 (a b:Int):Q8 a b=some (bif cb6 a&&cb6 b then dst a b else -1):=by
 unfold Q8 ah7
 simp only[aH3]
 have e:∀a:Int,(decide (a>=0)&&decide (a<46080))=cb6 a:=fun _=>rfl
 rw[e,e]
 cases ha:cb6 a
 ·rfl
 ·cases hb:cb6 b
  ·rfl
  ·have ha:=bs6.1 ha
   have hb:=bs6.1 hb
   simp only[aP9,fj6,aH3,Bool.and_self,fj8]
   rw[j6 (n:=b-a) (by omega) (by omega),mod_eq _ (by omega) (by omega)]
   rfl
theorem dk1 {a b:Int}(ha:cb6 a=true)(hb:cb6 b=true):Q8 a b=some (dst a b):=by rw[el2,ha,hb];rfl
end Ev
namespace Tm
abbrev cC6:Int:=1099511627776
abbrev tz:w9:=⟨0,[]⟩
def chB (now:Int)(c:j7):Bool:=!(bif c.D9 then(decide (c.At<=now)||decide (c.At>1099511627776))else((c.At !=0)||c.Next))
def bf5 (t:w9):Bool:=(((decide (t.Q7<0))||(decide (t.Q7>1099511627776)))||(decide ((t.j1.length:Int)<1)))||(decide ((t.j1.length:Int)>16))
def ad6 (t:w9):Bool:=!bf5 t&&t.j1.all (chB t.Q7)
theorem dd6 {t:w9}(h:bf5 t=false):1<=t.j1.length/\t.j1.length<=16/\0<=t.Q7/\t.Q7<=1099511627776:=by
 unfold bf5 at h
 simp only[bZ2,fk7]at h
 omega
theorem du6 {t:w9}(h:1<=t.j1.length/\t.j1.length<=16/\0<=t.Q7/\t.Q7<=1099511627776):bf5 t=false:=by
 unfold bf5
 simp only[bZ2,fk7]
 omega
theorem bF3 {t:w9}(h:ad6 t=true):1<=t.j1.length/\t.j1.length<=16/\0<=t.Q7/\t.Q7<=1099511627776:=by
 unfold ad6 at h
 simp only[aJ5,bO4]at h
 exact dd6 h.1
theorem dM0 (t:w9):an9 t=some (ad6 t):=by
 unfold an9 ad6
 cases hh:bf5 t
 ·unfold bf5 at hh
  rw[hh]
  have hl:=dd6 (t:=t) hh
  have k:=ai0 t.j1 (by omega) (fun c=>ap0 c t) (fun c=>!chB t.Q7 c) (fun y _=>by unfold ap0 chB;cases y.D9<;>simp)
  have e2:(t.j1.any fun z=>!chB t.Q7 z)= !t.j1.all (chB t.Q7):=by rw[dO9];simp
  rw[e2]at k
  simp only[fj6,cI0,cI4]
  have:G4 t.j1 (fun x0=>ap0 x0 t)=some (!t.j1.all (chB t.Q7)):=k
  rw[this]
  simp
 ·unfold bf5 at hh
  rw[hh];rfl
def cD0 (t:w9)(ch:Int):Bool:=(decide (ch<0))||(decide (ch>=(t.j1.length:Int)))
theorem bC1 (t:w9)(ch:Int):ag7 t ch=some (bif !ad6 t then(tz,1)else bif cD0 t ch then(tz,2)else(t,0)):=by
 unfold ag7
 rw[dM0]
 cases h:ad6 t
 ·rfl
 ·have hl:=bF3 h
  simp only[aH3,aP9,fj6]
  cases hb:cD0 t ch
  ·unfold cD0 at hb
   rw[hb]
   simp only[fj6]
   rw[bW9 _ (by omega)]
   simp only[aH3]
   rw[dG2 _ _ (by simp)]
  ·unfold cD0 at hb
   rw[hb];rfl
theorem eh3 (t:w9)(ch at_:Int)(lvl:Bool):∀j:Nat,ch=(j:Int)->(hj:j<t.j1.length)->ad6 t=true->
  aK0 t ch at_ lvl=some (bif decide (at_<=t.Q7)then(tz,16)else bif decide (at_>cC6)then(tz,2)else(⟨t.Q7,t.j1.set j ⟨true,at_,lvl,t.j1[j].E3⟩⟩,0)):=by
 rintro j rfl hj h
 unfold aK0
 have hb:cD0 t (j:Int)=false:=by unfold cD0;simp;omega
 rw[bC1,h,hb]
 simp only[aP9,fj6,aH3,bne_self_eq_false]
 cases decide (at_<=t.Q7)
 ·simp only[fj6]
  unfold cC6
  cases decide (at_>1099511627776)
  ·simp only[fj6,C7 _ _ hj,aH3,T6 _ _ _ hj]
  ·rfl
 ·rfl
theorem db9 (t:w9)(ch:Int):∀j:Nat,ch=(j:Int)->(hj:j<t.j1.length)->ad6 t=true->
  az9 t ch=some (⟨t.Q7,t.j1.set j ⟨false,0,false,t.j1[j].E3⟩⟩,0):=by
 rintro j rfl hj h
 unfold az9
 have hb:cD0 t (j:Int)=false:=by unfold cD0;simp;omega
 rw[bC1,h,hb]
 simp only[aP9,fj6,aH3,bne_self_eq_false,C7 _ _ hj,T6 _ _ _ hj]
theorem force_eq (t:w9)(ch:Int)(lvl:Bool):∀j:Nat,ch=(j:Int)->(hj:j<t.j1.length)->ad6 t=true->
  aH1 t ch lvl=some (⟨t.Q7,t.j1.set j ⟨false,0,false,lvl⟩⟩,bif t.j1[j].E3==lvl then []else [⟨t.Q7,(j:Int),lvl⟩],0):=by
 rintro j rfl hj h
 unfold aH1
 have hb:cD0 t (j:Int)=false:=by unfold cD0;simp;omega
 rw[bC1,h,hb]
 simp only[aP9,fj6,aH3,bne_self_eq_false,C7 _ _ hj,T6 _ _ _ hj]
 cases(t.j1[j].E3==lvl)<;>rfl
theorem copy_eq (t:w9)(h:t.j1.length<=1000):bf8 t=some t:=by
 unfold bf8
 rw[H7 _ _ (by simp;omega)]
 rfl
def due (K5:Int)(c:j7):Bool:=!((!c.D9)||(decide (c.At>K5)))
def swC (K5:Int)(i:Nat)(c:j7):List j8:=bif due K5 c&& !(c.Next==c.E3)then [⟨c.At,(i:Int),c.Next⟩]else []
def bG5 (K5:Int)(c:j7):j7:=bif due K5 c then⟨false,0,false,c.Next⟩else c
def bn9 (K5:Int):Nat->List j7->List j8
 |_,[]=>[]
 |i,c::r=>swC K5 i c++bn9 K5 (i+1) r
theorem dS9 (K5:Int)(i:Nat)(c:j7):(swC K5 i c).length<=1:=by
 unfold swC;cases(due K5 c&& !(c.Next==c.E3))<;>simp
theorem cq0 (K5:Int):∀(l:List j7) (i:Nat),(bn9 K5 i l).length<=l.length
 |[],_=>cq9 _
 |c::r,i=>by
  have:=cq0 K5 r (i+1)
  have:=dS9 K5 i c
  simp only[bn9,aY1,bq0];omega
theorem bX7 (K5:Int):∀(l:List j7) (i:Nat) (c:j7),bn9 K5 i (l++[c])=bn9 K5 i l++swC K5 (i+l.length) c
 |[],i,c=>by simp[bn9]
 |x::l,i,c=>by
  simp only[dC8,bn9,dd3,List.append_cancel_left_eq,bq0]
  rw[bX7 K5 l (i+1) c,show i+1+l.length=i+(l.length+1) by omega]
theorem cP9 {K5:Int}{s:j8}:∀{l:List j7}{i:Nat},s∈bn9 K5 i l->∃j c,l[j]? =some c/\due K5 c=true/\(c.Next==c.E3)=false/\s=⟨c.At,((i+j:Nat):Int),c.Next⟩
 |[],i,h=>by simp[bn9]at h
 |c::r,i,h=>by
  simp only[bn9,cI5]at h
  rcases h with h|h
  ·unfold swC at h
   cases hd:(due K5 c&& !(c.Next==c.E3))<;>rw[hd]at h
   ·simp at h
   ·simp only[fj8,eM2]at h
    simp only[aJ5,bO4]at hd
    exact⟨0,c,rfl,hd.1,hd.2,by simpa using h⟩
  ·obtain⟨j,c',h1,h2,h3,h4⟩:=cP9 h
   exact⟨j+1,c',by simpa using h1,h2,h3,by rw[h4,show i+1+j=i+(j+1) by omega]⟩
theorem dA9 {K5:Int}:∀{l:List j7}{i j:Nat}{c:j7},l[j]? =some c->due K5 c=true->(c.Next==c.E3)=false->(⟨c.At,((i+j:Nat):Int),c.Next⟩:j8)∈bn9 K5 i l
 |[],i,j,c,h,_,_=>by simp at h
 |x::r,i,0,c,h,hd,hn=>by
  simp only[List.getElem?_cons_zero,aI5]at h;subst h
  simp[bn9,swC,hd,hn]
 |x::r,i,j+1,c,h,hd,hn=>by
  simp only[List.getElem?_cons_succ]at h
  have:=dA9 (i:=i+1) h hd hn
  simp only[bn9,cI5]
  right
  rw[show i+(j+1)=i+1+j by omega];exact this
theorem dA8 {K5:Int}:∀(l:List j7) (i:Nat),(bn9 K5 i l).Pairwise (fun a b=>a.Channel<b.Channel)
 |[],_=>.nil
 |c::r,i=>by
  simp only[bn9]
  rw[List.pairwise_append]
  refine⟨?_,dA8 r (i+1),fun a ha b hb=>?_⟩
  ·unfold swC;cases(due K5 c&& !(c.Next==c.E3))<;>simp
  ·have h1:a.Channel=(i:Int):=by
    unfold swC at ha
    cases hd:(due K5 c&& !(c.Next==c.E3))<;>rw[hd]at ha
    ·simp at ha
    ·simp at ha;rw[ha]
   obtain⟨j,c',_,_,_,h4⟩:=cP9 hb
   rw[h1,h4];simp only;omega
def ltS (a b:j8):Bool:=decide (a.At<b.At\/(a.At=b.At/\a.Channel<b.Channel))
theorem ek0 (x y:Int):F6 x y=some (if x<y then -1 else if x>y then 1 else 0):=by
 unfold F6 cmp_isNaN_int
 simp only[aH3,bne_self_eq_false,fj6]
 by_cases h1:x<y
 ·simp[h1]
 ·by_cases h2:x>y<;>simp[h1,h2]
theorem or_eq (v v2:Int):af6 [v,v2]=some (if v≠0 then v else v2):=by
 unfold af6
 rw[K8 _ (by simp)]
 by_cases h1:v=0
 ·by_cases h2:v2=0
  ·simp[L9,ao6,h1,h2]
  ·have h3:(v2 !=0)=true:=by simpa using h2
   simp[L9,ao6,h1,h3]
 ·have h3:(v !=0)=true:=by simpa using h1
  simp[L9,ao6,h1,h3]
theorem eZ8 (a b:j8):∃c,W9 a b=some c/\(decide (c<0))=ltS a b:=by
 unfold W9
 rw[ek0,ek0]
 simp only[aH3,or_eq]
 refine⟨_,rfl,?_⟩
 unfold ltS
 rw[dC6]
 simp only[fk4]
 by_cases h1:a.At<b.At
 ·simp[h1]
 ·by_cases h2:a.At>b.At
  ·simp[h1,h2];omega
  ·have:a.At=b.At:=by omega
   by_cases h3:a.Channel<b.Channel
   ·simp[this,h3]
   ·by_cases h4:a.Channel>b.Channel<;>simp[this,h3,h4]<;>omega
theorem bB0 (a b:j8):ltM W9 a b=ltS a b:=by
 obtain⟨c,h1,h2⟩:=eZ8 a b
 unfold ltM;rw[h1];exact h2
theorem fd6 (l:List j8)(hl:l.length<=100)(hd:∀x∈l,∀y∈l,x.Channel=y.Channel->x=y):X6 l W9=some (l.mergeSort fun x y=>!ltS y x):=by
 unfold X6
 have e:(fun x y=>!ltM W9 y x)=fun x y=>!ltS y x:=by funext x y;rw[bB0]
 rw[bU6 ⟨by omega,fun x _ y _=>by obtain⟨c,h,_⟩:=eZ8 x y;exact⟨c,h⟩,fun x _=>by rw[bB0];unfold ltS;simp,fun x _ y _ z _=>by rw[bB0,bB0,bB0];unfold ltS;simp only[fk4];omega,
  fun x _ y _ z _=>by rw[bB0,bB0,bB0];unfold ltS;simp only[fk7];omega,
  fun x hx y hy=>by rw[bB0,bB0];unfold ltS;simp only[fk7];intro a b;exact hd x hx y hy (by omega)⟩,e]
def bM8 (K5:Int)(l:List j7):List j8:=(bn9 K5 0 l).mergeSort fun x y=>!ltS y x
theorem ej4 {R:j8->j8->Prop}{l:List j8}(h:l.Pairwise R)(hR:∀a b,R a b->a.Channel≠b.Channel):∀x∈l,∀y∈l,x.Channel=y.Channel->x=y:=by
 induction h with
 |nil=>intro x hx;simp at hx
 |cons h1 _ ih=>
  intro x hx y hy e
  rcases ch6.1 hx with hx1|hx1
  ·rcases ch6.1 hy with hy1|hy1
   ·rw[hx1,hy1]
   ·rw[hx1]at e;exact absurd e (hR _ _ (h1 y hy1))
  ·rcases ch6.1 hy with hy1|hy1
   ·rw[hy1]at e;exact absurd e.symm (hR _ _ (h1 x hx1))
   ·exact ih x hx1 y hy1 e
theorem eg0 (t:w9)(K5:Int):ak7 t K5=some (bif !ad6 t then(tz,[],1)else bif decide (K5<t.Q7)then(tz,[],16)else bif decide (K5>cC6)then(tz,[],2)else(⟨K5,t.j1.map (bG5 K5)⟩,bM8 K5 t.j1,0)):=by
 unfold ak7
 rw[bC1]
 cases h:ad6 t
 ·rfl
 ·have hl:=bF3 h
  have hb:cD0 t 0=false:=by unfold cD0;simp only[bZ2,fk7];omega
  rw[hb]
  simp only[aP9,fj6,aH3,bne_self_eq_false]
  unfold cC6
  cases decide (K5<t.Q7)
  ·simp only[fj6]
   cases decide (K5>1099511627776)
   ·simp only[fj6]
    obtain⟨s,h1,h2⟩:=ai6 (R:=Empty) t.j1.length (by omega) (au7 t K5) (fun i s=>s.1=bn9 K5 0 (t.j1.take i)/\s.2=(t.j1.take i).map (bG5 K5)++t.j1.drop i) ([],t.j1) ⟨by simp[bn9],by simp⟩ (fun j hj s ⟨i1,i2⟩=>by
     have htk:t.j1.take (j+1)=t.j1.take j++[t.j1[j]]:=dp0 hj
     have hdr:t.j1.drop j=t.j1[j]::t.j1.drop (j+1):=List.drop_eq_getElem_cons hj
     have hlt:(t.j1.take j).length=j:=by simp;omega
     unfold au7
     rw[C7 _ _ hj]
     simp only[aH3]
     cases hc:((!t.j1[j].D9)||(decide (t.j1[j].At>K5)))
     ·have dX5:due K5 t.j1[j]=true:=by unfold due;rw[hc];rfl
      have dP7:j<s.2.length:=by rw[i2];simp;omega
      have hlen1:s.1.length<=16:=by
       rw[i1];have:=cq0 K5 (t.j1.take j) 0;simp at this;omega
      have bN6:s.2.set j ⟨false,0,false,t.j1[j].Next⟩=(t.j1.take (j+1)).map (bG5 K5)++t.j1.drop (j+1):=by
       rw[i2,List.set_append_right _ _ (by simp;omega),hdr,htk]
       simp only[cr4,hlt,Nat.sub_self,List.set_cons_zero,eC3,cS3,ek7,dd3,List.singleton_append]
       unfold bG5;rw[dX5];rfl
      simp only[fj6]
      cases hn:(t.j1[j].Next==t.j1[j].E3)
      ·simp only[cI0,fj8]
       rw[H7 _ _ (by simp;omega)]
       simp only[aH3,C7 _ _ dP7,T6 _ _ _ dP7]
       refine⟨_,rfl,?_,bN6⟩
       simp only
       rw[htk,bX7,<-i1,hlt,cV7]
       unfold swC;rw[dX5,hn];rfl
      ·simp only[aP9,fj6]
       simp only[aH3,C7 _ _ dP7,T6 _ _ _ dP7]
       refine⟨_,rfl,?_,bN6⟩
       simp only
       rw[htk,bX7,<-i1,hlt,cV7]
       unfold swC;rw[dX5,hn];simp
     ·have dX5:due K5 t.j1[j]=false:=by unfold due;rw[hc];rfl
      simp only[fj8]
      refine⟨_,rfl,?_,?_⟩
      ·simp only
       rw[htk,bX7,<-i1]
       unfold swC;rw[dX5];simp
      ·simp only
       rw[i2,hdr,htk]
       simp only[eC3,cS3,ek7,dd3,List.singleton_append]
       unfold bG5;rw[dX5];rfl)
    rw[h1]
    obtain⟨i1,i2⟩:=h2
    rw[ee6]at i1
    rw[ee6,List.drop_length,cV6]at i2
    simp only[aH3]
    rw[i1,i2,fd6 _ (by have:=cq0 K5 t.j1 0;omega) (ej4 (dA8 t.j1 0) (fun a b h=>by omega))]
    rfl
   ·rfl
  ·rfl
theorem cr9 (K5:Int)(l:List j7):(bM8 K5 l).Perm (bn9 K5 0 l):=List.mergeSort_perm _ _
theorem ep9 {K5:Int}{l:List j7}{s:j8}:s∈bM8 K5 l↔∃(j:Nat) (c:j7),l[j]? =some c/\due K5 c=true/\(c.Next==c.E3)=false/\s=⟨c.At,(j:Int),c.Next⟩:=by
 rw[(cr9 K5 l).mem_iff]
 constructor
 ·intro h;obtain⟨j,c,h1,h2,h3,h4⟩:=cP9 h;exact⟨j,c,h1,h2,h3,by simpa using h4⟩
 ·rintro⟨j,c,h1,h2,h3,rfl⟩;have:=dA9 (i:=0) h1 h2 h3;simpa using this
theorem dq0 (K5:Int)(l:List j7):(bM8 K5 l).length<=l.length:=by
 rw[(cr9 K5 l).length_eq];exact cq0 K5 l 0
theorem ex1 {t:w9}{K5:Int}(h:ad6 t=true)(h1:¬K5<t.Q7)(h2:¬K5>1099511627776):ad6 ⟨K5,t.j1.map (bG5 K5)⟩=true:=by
 have hl:=bF3 h
 unfold ad6 at h|-
 simp only[aJ5,bO4,bN8]at h|-
 refine⟨du6 (by simp;omega),fun c hc=>?_⟩
 simp only[cX4]at hc
 obtain⟨c0,hc0,rfl⟩:=hc
 have h3:=h.2 c0 hc0
 unfold bG5 due
 unfold chB at h3|-
 cases ha:c0.D9
 ·rw[ha]at h3;simp only[cI0,Bool.true_or,aP9,fj6,ha]at h3|-;exact h3
 ·rw[ha]at h3
  simp only[aP9,dQ6]at h3|-
  by_cases h4:c0.At>K5
  ·simp only[h4,decide_true,aP9,fj6,ha,fj8]at h3|-
   simp at h3|-;omega
  ·simp[h4]
theorem eS8 (n:Nat)(h1:1<=n)(h2:n<=16):aV8 (n:Int)=some (⟨0,cr2 n ⟨false,0,false,false⟩⟩,0):=by
 unfold aV8
 have:((decide ((n:Int)<1))||(decide ((n:Int)>16)))=false:=by simp;omega
 rw[this,bW9 _ (by omega)]
 rfl
theorem db0 {now:Int}{c:j7}(h:chB now c=true)(ha:c.D9=true):now<c.At/\c.At<=1099511627776:=by
 unfold chB at h;rw[ha]at h
 simp at h;omega
def nxS (s:Int×Bool)(c:j7):Int×Bool:=bif c.D9&&((!s.2)||decide (c.At<s.1))then(c.At,true)else s
def nxV (l:List j7):Int×Bool:=l.foldl nxS (0,false)
theorem ea3 (l:List j7)(h:l.length<=1000)(s:Int×Bool):ad5 l aI0 s=some (.inl (l.foldl nxS s)):=by
 rw[K8 _ (by omega)]
 refine bn7 l 0 s fun i s y _=>?_
 unfold aI0 nxS
 cases y.D9<;>cases((!s.2)||decide (y.At<s.1))<;>rfl
theorem dR0 (t:w9):aN1 t=some (bif ad6 t then nxV t.j1 else(0,false)):=by
 unfold aN1
 rw[dM0]
 cases h:ad6 t
 ·rfl
 ·have hl:=bF3 h
  simp only[aH3,aP9,fj6,fj8]
  rw[ea3 _ (by omega)]
  rfl
theorem dm6:∀(l:List j7) (s:Int×Bool),(∀c∈l,c.D9=true->(l.foldl nxS s).2=true/\(l.foldl nxS s).1<=c.At)/\(s.2=true->(l.foldl nxS s).2=true/\(l.foldl nxS s).1<=s.1)/\
  ((l.foldl nxS s).2=true->(l.foldl nxS s)=s\/∃c∈l,c.D9=true/\c.At=(l.foldl nxS s).1)
 |[],s=>⟨fun c h=>by simp at h,fun h=>⟨h,do8 _⟩,fun _=>.inl rfl⟩
 |x::l,s=>by
  obtain⟨h1,h2,h3⟩:=dm6 l (nxS s x)
  simp only[ey7]
  have hx:x.D9=true->(nxS s x).2=true/\(nxS s x).1<=x.At:=fun ha=>by
   unfold nxS;rw[ha]
   cases hc:(!s.2)||decide (x.At<s.1)
   ·simp only[bZ2,dT6,fk7]at hc
    simp only[cI4,fj6]
    exact⟨hc.1,by omega⟩
   ·exact⟨rfl,do8 _⟩
  have hs:s.2=true->(nxS s x).2=true/\(nxS s x).1<=s.1:=fun hb=>by
   unfold nxS
   cases hc:x.D9&&((!s.2)||decide (x.At<s.1))
   ·exact⟨hb,do8 _⟩
   ·simp only[hb,aP9,dQ6,aJ5,fk4]at hc
    exact⟨rfl,by simp only[fj8];omega⟩
  refine⟨fun c hc ha=>?_,fun hb=>?_,fun hb=>?_⟩
  ·rcases ch6.1 hc with rfl|hc
   ·have:=hx ha
    have h4:=h2 this.1
    exact⟨h4.1,fg7 h4.2 this.2⟩
   ·exact h1 c hc ha
  ·have:=hs hb
   have h4:=h2 this.1
   exact⟨h4.1,fg7 h4.2 this.2⟩
  ·rcases h3 hb with h4|⟨c,h5,h6,h7⟩
   ·rw[h4]
    unfold nxS
    cases hc:x.D9&&((!s.2)||decide (x.At<s.1))
    ·exact .inl rfl
    ·simp only[aJ5]at hc
     exact .inr ⟨x,bx8 ..,hc.1,rfl⟩
   ·exact .inr ⟨c,bF8 _ h5,h6,h7⟩
theorem cw1 {l:List j7}{c:j7}(hc:c∈l)(ha:c.D9=true):(nxV l).2=true/\(nxV l).1<=c.At:=(dm6 l (0,false)).1 c hc ha
theorem cQ7 {l:List j7}(h:(nxV l).2=true):∃c∈l,c.D9=true/\c.At=(nxV l).1:=by
 rcases(dm6 l (0,false)).2.2 h with h1|h1
 ·exfalso;unfold nxV at h;rw[h1]at h;cases h
 ·exact h1
theorem eq8 {l:List j7}{K5:Int}(h:∀c∈l,due K5 c=false):bM8 K5 l=[]/\l.map (bG5 K5)=l:=by
 have h1:∀(l:List j7) (i:Nat),(∀c∈l,due K5 c=false)->bn9 K5 i l=[]:=by
  intro l
  induction l with
  |nil=>intro i _;rfl
  |cons x l ih=>
   intro i h
   have:swC K5 i x=[]:=by unfold swC;rw[h x (bx8 ..)];rfl
   simp only[bn9,this,cL8]
   exact ih (i+1) fun c hc=>h c (bF8 _ hc)
 refine⟨by unfold bM8;rw[h1 l 0 h];simp,?_⟩
 rw[List.map_congr_left (g:=id) (fun c hc=>by unfold bG5;rw[h c hc];rfl)]
 simp
end Tm
end Go.Pv
namespace Go.Pv.Sc
open Go Go.Pv Go.Pv.Ev
def bw9 (c:D3):Bool:=bif !c.V7 then((c.At==0)&&((c.H2==0)&&((c.F9==0)&&((c.aa4==0)&&(c.aj7==0)))))else
 ((((((decide (c.At>=0)&&decide (c.At<=1099511627776))&&(decide (c.H2>=0)&&decide (c.H2<46080)))&&(decide (c.F9>=1)&&decide (c.F9<=1073741824)))&&(decide (c.aa4>=192)&&decide (c.aa4<=1920)))&&(((c.aj7==c.aa4)||(c.aj7==2*c.aa4))||(c.aj7==3*c.aa4))))
theorem dF9 (c:D3):ai9 c=some (bw9 c):=by
 unfold ai9 bw9 av1
 cases hv:c.V7
 ·simp
 ·simp only[aP9,fj6,aH3]
  by_cases hs:192<=c.aa4/\c.aa4<=1920
  ·rw[j6 (n:=2*c.aa4) (by omega) (by omega),j6 (n:=3*c.aa4) (by omega) (by omega),da4,aI5,dC6]
   simp only[Bool.cond_false_left,cG1,aJ5,bO4,bZ2,dT6,fk4,fk7,beq_iff_eq,ge_iff_le]
   omega
  ·have e1:(((((((!(decide (c.At>=0)&&decide (c.At<=1099511627776)))||decide (c.H2<0))||decide (c.H2>=46080))||decide (c.F9<1))||decide (c.F9>1073741824))||decide (c.aa4<192))||decide (c.aa4>1920))=true:=by
    simp only[cG1,fk4];omega
   have e2:(decide (c.aa4>=192)&&decide (c.aa4<=1920))=false:=by
    simp only[fe8,fk7];omega
   rw[e1,e2];simp
structure bB8 (c:D3):Prop where
 at0:0<=c.At
 at1:c.At<=1099511627776
 an0:0<=c.H2
 an1:c.H2<46080
 p0:1<=c.F9
 p1:c.F9<=1073741824
 s0:192<=c.aa4
 s1:c.aa4<=1920
 ah:c.aj7=c.aa4\/c.aj7=2*c.aa4\/c.aj7=3*c.aa4
theorem db4 {c:D3}(h:bw9 c=true)(hv:c.V7=true):bB8 c:=by
 unfold bw9 at h
 rw[hv]at h
 simp only[aP9,fj6,aJ5,cG1,fk4,beq_iff_eq]at h
 obtain⟨⟨⟨⟨⟨a,b⟩,c',d⟩,e,f⟩,g,i⟩,j⟩:=h
 exact⟨a,b,c',d,e,f,g,i,by rcases j with(j|j)|j<;>omega⟩
def cy5 (e:o6)(l:List A1)(i:Nat):Bool:=match l[i]?with|some x=>decide (bf2 e x)&& !((l.take i).any fun g=>g.u0==x.u0)|none=>false
def aT3 (e:o6)(l:List A1):Bool:=(dR5 0 l.length).all (cy5 e l)
theorem dh6 (e:o6)(l:List A1)(he:aB5 e)(hl:l.length<=1000000):ab1 e l=some (aT3 e l):=by
 unfold ab1 aT3
 have k:=bw1 (f:=am3 e l) (p:=cy5 e l) (r:=false) l.length 0 (fun j _ hj=>by
  have hj':j<l.length:=by omega
  unfold am3 cy5
  rw[C7 _ _ hj',aK2 hj']
  simp only[aH3,dP0,fk0 he,cI4]
  cases hf:decide (bf2 e l[j])
  ·rfl
  ·simp only[aP9,fj6,cI4]
   have hs:ay4 l 0 (j:Int)=some (l.take j):=by
    unfold ay4
    rw[if_pos ⟨by omega,by omega,by omega⟩]
    simp
   rw[hs]
   simp only[aH3]
   have hc:F2 (l.take j) (fun x0=>ae4 x0 l[j])=some ((l.take j).any fun g=>g.u0==l[j].u0):=by
    unfold F2 H5 N8
    exact ai0 (l.take j) (by rw[bE9];omega) (fun x0=>ae4 x0 l[j]) (fun g=>g.u0==l[j].u0) (fun y _=>rfl)
   rw[hc]
   simp only[aH3]
   cases(l.take j).any fun g=>g.u0==l[j].u0<;>rfl)
 rw[al5 _ (by omega)]
 rw[show((0:Nat):Int)=0 from rfl]at k
 rw[k]
 cases(dR5 0 l.length).all (cy5 e l)<;>rfl
def chn (x:B6):Int:=2*(x.u0-1)+if x.Kind=3\/x.Kind=4 then 1 else 0
def onK (k:Int):Bool:=(k==1)||(k==3)
structure aN5 (n:Nat)(j:A3):Prop where
 cyl:1<=j.Event.u0/\j.Event.u0<=(n:Int)
 kind:1<=j.Event.Kind/\j.Event.Kind<=4
 eg5:0<=j.Event.H2/\j.Event.H2<46080
 bT4:0<=j.Event.ai8/\j.Event.ai8<=2
 left:-1048576<=j.Left/\j.Left<=1048576
 at0:j.D9=true\/j.At=0
instance (n:Nat)(j:A3):Decidable (aN5 n j):=
 decidable_of_iff ((1<=j.Event.u0/\j.Event.u0<=(n:Int))/\(1<=j.Event.Kind/\j.Event.Kind<=4)/\(0<=j.Event.H2/\j.Event.H2<46080)/\(0<=j.Event.ai8/\j.Event.ai8<=2)/\(-1048576<=j.Left/\j.Left<=1048576)/\(j.D9=true\/j.At=0))
  ⟨fun⟨a,b,c,d,e,f⟩=>⟨a,b,c,d,e,f⟩,fun⟨a,b,c,d,e,f⟩=>⟨a,b,c,d,e,f⟩⟩
theorem dY4 {n:Nat}{j:A3}:aN5 n j↔(1<=j.Event.u0/\j.Event.u0<=(n:Int))/\(1<=j.Event.Kind/\j.Event.Kind<=4)/\(0<=j.Event.H2/\j.Event.H2<46080)/\(0<=j.Event.ai8/\j.Event.ai8<=2)/\(-1048576<=j.Left/\j.Left<=1048576)/\(j.D9=true\/j.At=0):=
 ⟨fun⟨a,b,c,d,e,f⟩=>⟨a,b,c,d,e,f⟩,fun⟨a,b,c,d,e,f⟩=>⟨a,b,c,d,e,f⟩⟩
theorem eR2 (s:c8)(j:A3):av9 s j=some (decide (aN5 s.p6.u6.length j)):=by
 unfold av9
 rw[da4,aH3,aI5,dC6,fk4,dY4]
 simp only[ff1,cG1,aJ5,fk4,beq_iff_eq,ge_iff_le]
 cases j.D9
 ·simp only[do9,false_or];omega
 ·simp only[true_or,and_true];omega
theorem eE0 (s:c8)(hl:s.D1.length<=1000000):O8 s.D1 (fun x0=>X9 x0 s)=some (!s.D1.all fun j=>decide (aN5 s.p6.u6.length j)):=by
 unfold O8 C2 O9
 have:=ai0 s.D1 (by omega) (fun x0=>X9 x0 s) (fun j=>!decide (aN5 s.p6.u6.length j)) (fun y _=>by unfold X9;rw[eR2];rfl)
 rw[<-eD9 (s.D1.any _),<-eA1]at this
 simp only[eD9]at this
 exact this
theorem cG6 {n:Nat}{j:A3}(h:aN5 n j)(hn:n<=8):H4 j.Event=some (chn j.Event)/\aR9 j.Event=some (chn j.Event):=by
 have h1:=h.cyl;have h2:=h.kind
 unfold H4 aR9 chn
 rw[j6 (n:=j.Event.u0-1) (by omega) (by omega),j6 (n:=2*(j.Event.u0-1)) (by omega) (by omega),j6 (n:=2*(j.Event.u0-1)+1) (by omega) (by omega)]
 by_cases h3:j.Event.Kind=3\/j.Event.Kind=4
 ·have e1:((j.Event.Kind==3)||(j.Event.Kind==4))=true:=by simpa using h3
  have e2:((j.Event.Kind==1)||(j.Event.Kind==2))=false:=by simp;omega
  rw[e1,e2,if_pos h3];exact⟨rfl,rfl⟩
 ·have e1:((j.Event.Kind==3)||(j.Event.Kind==4))=false:=by simpa using h3
  have e2:((j.Event.Kind==1)||(j.Event.Kind==2))=true:=by simp;omega
  rw[e1,e2,if_neg h3];exact⟨by simp,by simp⟩
theorem db2 {n:Nat}{j:A3}(h:aN5 n j):0<=chn j.Event/\chn j.Event<2*(n:Int):=by
 have h1:=h.cyl
 unfold chn;split<;>omega
def ae0 (l:List A3)(c:Int):List A3:=l.filter fun j=>chn j.Event==c
def alt:List A3->Bool->Bool
 |[],lv=>!lv
 |j::r,lv=>!(onK j.Event.Kind==lv)&& !j.D9&&alt r (!lv)
def aE4 (l:List A3)(x:j7):Bool:=match l with
 |[]=>!x.E3&& !x.D9
 |j::r=>!(onK j.Event.Kind==x.E3)&&(j.D9==x.D9)&&(!j.D9||((j.At==x.At)&&(x.Next== !x.E3)))&&alt r (!x.E3)
def bA4 (now:Int)(l:List A3):Bool:=match l with
 |[]=>true
 |[j]=>(j.Event.Kind==2)&&j.D9&&decide (j.At<=now+5000)
 |_=>false
def bz4 (s:c8)(c:Int)(x:j7):Bool:=aE4 (ae0 s.D1 c) x&&(!s.Cut||bA4 s.j4.Q7 (ae0 s.D1 c))
def cY0 (cut:Bool)(now:Int)(x:j7):List A3->Bool->Bool->Bool
 |[],lv,fi=>!lv&& !(fi&&x.D9)
 |j::r,lv,fi=>bif onK j.Event.Kind==lv then false else
   bif (bif fi then(!(j.D9==x.D9))||(j.D9&&((j.At !=x.At)|| !(x.Next== !lv)))else(j.D9||cut))then false else
   bif cut&&(((j.Event.Kind !=2)|| !j.D9)||decide (j.At>now+5000))then false else cY0 cut now x r (!lv) false
theorem cP5 (s:c8)(c:Int)(x:j7)(n:Nat)(hn:n<=8)(h0:0<=s.j4.Q7)(h1:s.j4.Q7<=1099511627776):∀(l:List A3) (i:Int) (lv fi:Bool),(∀j∈l,aN5 n j)->
  (ai5 (L9 (Y2 s c x) l i (lv,fi)) fun(t:(Bool×Bool)⊕Bool)=>match t with| .inl s4=>(ai5 (bif (!s4.1)then(some (!(s4.2&&x.D9)))else(some false)) fun b5=>some b5)| .inr r3=>some r3)=some (cY0 s.Cut s.j4.Q7 x (ae0 l c) lv fi)
 |[],i,lv,fi,_=>by
  simp only[L9,aH3,ae0,ez7,cY0]
  cases lv<;>rfl
 |j::l,i,lv,fi,h=>by
  have hj:=h j (bx8 ..)
  have ih:=fun i lv fi=>cP5 s c x n hn h0 h1 l i lv fi (fun y hy=>h y (bF8 _ hy))
  by_cases hc:chn j.Event=c
  ·have e1:(chn j.Event !=c)=false:=by simpa using hc
   have e2:ae0 (j::l) c=j::ae0 l c:=by unfold ae0;rw[dQ1 (by simpa using hc)]
   have hb:Y2 s c x i j (lv,fi)=some (bif onK j.Event.Kind==lv then .ret false else
     bif (bif fi then(!(j.D9==x.D9))||(j.D9&&((j.At !=x.At)|| !(x.Next== !lv)))else(j.D9||s.Cut))then .ret false else
     bif s.Cut&&(((j.Event.Kind !=2)|| !j.D9)||decide (j.At>s.j4.Q7+5000))then .ret false else .next (!lv,false)):=by
    unfold Y2
    rw[(cG6 hj hn).1]
    simp only[aH3,e1,fj6,ar0]
    have e3:((j.Event.Kind==1)||(j.Event.Kind==3))=onK j.Event.Kind:=rfl
    rw[e3,j6 (n:=s.j4.Q7+5000) (by omega) (by omega)]
    cases onK j.Event.Kind==lv
    ·simp only[fj6]
     have hA:(bif fi then(ai5 (bif (!(j.D9==x.D9))then(some true)else(ai5 (bif j.D9 then(some ((j.At !=x.At)||(!(x.Next==(!lv)))))else(some false)) fun b2=>some b2)) fun b3=>bif b3 then(some (Sum.inr false))else(some (Sum.inl ())))else(bif (j.D9||s.Cut)then(some (Sum.inr false))else(some (Sum.inl ()))))=
       (some (bif (bif fi then(!(j.D9==x.D9))||(j.D9&&((j.At !=x.At)|| !(x.Next== !lv)))else(j.D9||s.Cut))then Sum.inr false else Sum.inl ()):Option (Unit⊕Bool)):=by
      cases fi
      ·cases(j.D9||s.Cut)<;>rfl
      ·cases(j.D9==x.D9)<;>cases j.D9<;>simp only[aP9,cI0,fj8,fj6,aH3,Bool.true_or,dQ6,cI4,ez1,fa9]
       cases((j.At !=x.At)|| !(x.Next== !lv))<;>rfl
     rw[hA]
     cases(bif fi then(!(j.D9==x.D9))||(j.D9&&((j.At !=x.At)|| !(x.Next== !lv)))else(j.D9||s.Cut))
     ·simp only[fj6,aH3]
      have hB:(bif s.Cut then(some (((j.Event.Kind !=2)||(!j.D9))||(decide (j.At>s.j4.Q7+5000))))else(some false))=some (s.Cut&&(((j.Event.Kind !=2)||(!j.D9))||(decide (j.At>s.j4.Q7+5000)))):=by cases s.Cut<;>rfl
      rw[hB]
      simp only[aH3]
      cases(s.Cut&&(((j.Event.Kind !=2)||(!j.D9))||(decide (j.At>s.j4.Q7+5000))))<;>rfl
     ·rfl
    ·rfl
   rw[e2]
   simp only[L9,hb,cY0,aH3]
   cases onK j.Event.Kind==lv
   ·simp only[fj6]
    cases(bif fi then(!(j.D9==x.D9))||(j.D9&&((j.At !=x.At)|| !(x.Next== !lv)))else(j.D9||s.Cut))
    ·simp only[fj6]
     cases(s.Cut&&(((j.Event.Kind !=2)||(!j.D9))||(decide (j.At>s.j4.Q7+5000))))
     ·exact ih (i+1) (!lv) false
     ·rfl
    ·rfl
   ·rfl
  ·have e1:(chn j.Event !=c)=true:=by simpa using hc
   have e2:ae0 (j::l) c=ae0 l c:=by unfold ae0;rw[fa6 (by simpa using hc)]
   have hb:Y2 s c x i j (lv,fi)=some (.next (lv,fi)):=by
    unfold Y2
    rw[(cG6 hj hn).1]
    simp only[aH3,e1,fj8]
   rw[e2]
   simp only[L9,hb,aH3]
   exact ih (i+1) lv fi
theorem de5 (cut:Bool)(now:Int)(x:j7):∀(l:List A3) (lv:Bool),cY0 cut now x l lv false=(alt l lv&&(!cut||l.isEmpty))
 |[],lv=>by simp[cY0,alt]
 |j::r,lv=>by
  simp only[cY0,alt,de5 cut now x r (!lv)]
  cases onK j.Event.Kind==lv<;>cases j.D9<;>cases cut<;>simp
theorem eE3 (cut:Bool)(now:Int)(x:j7)(l:List A3):cY0 cut now x l x.E3 true=(aE4 l x&&(!cut||bA4 now l)):=by
 cases l with
 |nil=>simp[cY0,aE4,bA4]
 |cons j r=>
  simp only[cY0,aE4,de5]
  cases ho:onK j.Event.Kind==x.E3<;>cases ha:j.D9==x.D9<;>cases hj:j.D9<;>cases hn:(j.At !=x.At)<;>cases hx:(x.Next== !x.E3)<;>cases cut<;>cases r with
  |nil=>
   simp_all[bA4,alt]
   try
    cases x.E3
    ·simp
    ·rw[dC6]
     simp
  |cons k r=>simp_all[bA4]
theorem eE4 (s:c8)(c:Nat)(hc:c<s.j4.j1.length)(n:Nat)(hn:n<=8)(h0:0<=s.j4.Q7)(h1:s.j4.Q7<=1099511627776)(hl:s.D1.length<=1000000)(hj:∀j∈s.D1,aN5 n j):
  aq9 s (c:Int)=some (bz4 s (c:Int) s.j4.j1[c]):=by
 unfold aq9
 rw[C7 _ _ hc]
 simp only[aH3]
 rw[K8 _ (by omega)]
 have h:=cP5 s (c:Int) s.j4.j1[c] n hn h0 h1 s.D1 0 s.j4.j1[c].E3 true hj
 rw[eE3]at h
 exact h
def cg5 (s:c8):Bool:=
 decide (aB5 s.p6)&&bw9 s.B1&&Tm.ad6 s.j4&&decide (s.j4.j1.length=2*s.p6.u6.length)&&aT3 s.p6 s.Next&&decide (s.D1.length<=200)&&(s.B1.V7||s.D1.isEmpty)&&(s.D1.all fun j=>decide (aN5 s.p6.u6.length j))&&
  (dR5 0 s.j4.j1.length).all fun c=>match s.j4.j1[c]?with|some x=>bz4 s (c:Int) x|none=>false
structure aE9 (s:c8):Prop where
 eng:aB5 s.p6
 clk:bw9 s.B1=true
 tim:Tm.ad6 s.j4=true
 chs:s.j4.j1.length=2*s.p6.u6.length
 cy4:aT3 s.p6 s.Next=true
 most:s.D1.length<=200
 none:s.B1.V7=false->s.D1=[]
 job:∀j∈s.D1,aN5 s.p6.u6.length j
 line:∀c (h:c<s.j4.j1.length),bz4 s (c:Int) s.j4.j1[c]=true
theorem aY9 {s:c8}:cg5 s=true↔aE9 s:=by
 unfold cg5
 simp only[aJ5,fk4,bN8,cG1]
 constructor
 ·rintro⟨⟨⟨⟨⟨⟨⟨⟨h1,h2⟩,h3⟩,h4⟩,h5⟩,h6⟩,h7⟩,h8⟩,h9⟩
  refine⟨h1,h2,h3,h4,h5,h6,fun hv=>?_,h8,fun c hc=>?_⟩
  ·rcases h7 with h|h
   ·rw[hv]at h;cases h
   ·simpa using h
  ·have:=h9 c (by rw[eO1];exact⟨c,hc,by omega⟩)
   rw[aK2 hc]at this
   exact this
 ·intro h
  refine⟨⟨⟨⟨⟨⟨⟨⟨h.eng,h.clk⟩,h.tim⟩,h.chs⟩,h.cy4⟩,h.most⟩,?_⟩,h.job⟩,fun c hc=>?_⟩
  ·cases hv:s.B1.V7
   ·right;rw[h.none hv];rfl
   ·left;rfl
  ·rw[eO1]at hc
   obtain⟨i,hi,rfl⟩:=hc
   have e:0+1*i=i:=by omega
   rw[e,aK2 hi]
   exact h.line i hi
theorem dq4 (l:List A3):decide ((l.length:Int)>0)= !l.isEmpty:=by cases l<;>simp
theorem bd0 (s:c8)(hn:s.Next.length<=1000000)(hl:s.D1.length<=1000000):J9 s=some (cg5 s):=by
 unfold J9
 rw[Ev.ao1,dF9,Tm.dM0]
 unfold cg5
 cases he:decide (aB5 s.p6)
 ·simp
 ·have he':=of_decide_eq_true he
  have hE:=he'.2.1
  cases hc:bw9 s.B1
  ·simp
  ·cases ht:Tm.ad6 s.j4
   ·simp
   ·have htl:=Tm.bF3 ht
    have e1:((s.j4.j1.length:Int) !=o4 (2*(s.p6.u6.length:Int)))= !decide (s.j4.j1.length=2*s.p6.u6.length):=by
     rw[j6 (by omega) (by omega),dC6];simp;omega
    simp only[aH3,aP9,fj6,dQ6,e1,cI4]
    cases h2:decide (s.j4.j1.length=2*s.p6.u6.length)
    ·simp
    ·simp only[aP9,fj6,dh6 _ _ he' hn,aH3,cI4]
     cases hw:aT3 s.p6 s.Next
     ·simp
     ·simp only[aP9,fj6,cI4]
      have e2:decide ((s.D1.length:Int)>200)= !decide (s.D1.length<=200):=by rw[dC6];simp;omega
      rw[e2,dq4]
      cases h3:decide (s.D1.length<=200)
      ·simp
      ·simp only[aP9,fj6,aH3,cI4]
       cases h4:(s.B1.V7||s.D1.isEmpty)
       ·have:(!s.B1.V7&& !s.D1.isEmpty)=true:=by simp only[bZ2]at h4;simp[h4.1,h4.2]
        rw[this];simp
       ·have:(!s.B1.V7&& !s.D1.isEmpty)=false:=by rcases Bool.or_eq_true_iff.1 h4 with h|h<;>simp[h]
        rw[this,eE0 s hl]
        simp only[fj6,aH3,cI4]
        cases h5:s.D1.all fun j=>decide (aN5 s.p6.u6.length j)
        ·simp
        ·simp only[aP9,fj6,cI4]
         have hj:∀j∈s.D1,aN5 s.p6.u6.length j:=by simpa using h5
         have k:=bw1 (f:=am2 s) (p:=fun c=>match s.j4.j1[c]?with|some x=>bz4 s (c:Int) x|none=>false) (r:=false) s.j4.j1.length 0 (fun c _ hc=>by
          have hc':c<s.j4.j1.length:=by omega
          unfold am2
          rw[eE4 s c hc' _ hE (by omega) (by omega) hl hj,aK2 hc']
          simp only[aH3]
          cases bz4 s (c:Int) s.j4.j1[c]<;>rfl)
         rw[al5 _ (by omega)]
         rw[show((0:Nat):Int)=0 from rfl]at k
         rw[k]
         cases(dR5 0 s.j4.j1.length).all fun c=>match s.j4.j1[c]?with|some x=>bz4 s (c:Int) x|none=>false<;>rfl
theorem ej7 {n:Nat}{j:A3}(h:aN5 n j):(chn j.Event).tmod 2=if j.Event.Kind=3\/j.Event.Kind=4 then 1 else 0:=by
 have h1:=h.cyl
 have h0:=(db2 h).1
 rw[dp1 h0]
 unfold chn;split<;>omega
end Go.Pv.Sc
namespace Go.Pv.R1
open Go Go.Pv
end Go.Pv.R1
namespace Go.Pv.Sc
open Go Go.Pv Go.Pv.Ev
def upV (a b:Int):Int:=-((-a)/b)
theorem ff4 (a b : Int) (h0 : -4611686018427387904 <= a) (h1 : a <= 4611686018427387904) (hb : 0 < b) (hb1 : b <= 4611686018427387904) : az6 a b = some (upV a b) := by
  unfold az6 bn5 cg1 upV
  rw [if_neg (by omega), if_neg (by omega)]
  simp only [aH3]
  obtain ⟨k, rfl⟩ : ∃ k : Nat, b = k := ⟨b.toNat, by omega⟩
  have hk : k > 0 := by omega
  by_cases ha : 0 <= a
  · obtain ⟨m, rfl⟩ : ∃ m : Nat, a = m := ⟨a.toNat, by omega⟩
    have e1 : da1 (m : Int) (k : Int) = ((m / k : Nat) : Int) := rfl
    have e2 : ep0 (m : Int) (k : Int) = ((m % k : Nat) : Int) := rfl
    rw [e1, e2]
    have hq : m / k <= m := Nat.div_le_self _ _
    have hr := Nat.mod_lt m hk
    have hd := Nat.div_add_mod m k
    generalize m / k = q at hq hd
    generalize m % k = r at hr hd
    have ew : eX4.wrap (q : Int) = (q : Int) := j6 (by omega) (by omega)
    rw [ew]
    by_cases hr0 : r = 0
    · subst hr0
      have : -(m : Int) = (k : Int) * (-(q : Int)) := by rw [Int.mul_neg]; have : (m : Int) = ((k * q : Nat) : Int) := by omega
                                                         rw [this]; push_cast; rfl
      rw [this, Int.mul_ediv_cancel_left _ (by omega)]
      simp
    · have e3 : decide ((r : Int) > 0) = true := by simp; omega
      rw [e3, j6 (by omega) (by omega)]
      simp only [fj8, aI5]
      have : -(m : Int) = ((k - r : Nat) : Int) + (k : Int) * (-(q : Int) - 1) := by
        have h5 : (k : Int) * (-(q : Int) - 1) = -((k * q : Nat) : Int) - (k : Int) := by rw [Int.mul_sub, Int.mul_neg, Int.mul_one]; push_cast; rfl
        rw [h5]; omega
      rw [this, Int.add_mul_ediv_left _ _ (by omega), fb3 (by omega) (by omega)]
      omega
  · obtain ⟨m, rfl⟩ : ∃ m : Nat, a = -(m : Int) := ⟨a.natAbs, by omega⟩
    have e1 : da1 (-(m : Int)) (k : Int) = -((m / k : Nat) : Int) := by rw [Int.neg_tdiv]; rfl
    have e2 : ep0 (-(m : Int)) (k : Int) = -((m % k : Nat) : Int) := by rw [Int.neg_tmod]; rfl
    rw [e1, e2, Int.neg_neg]
    have e4 : (m : Int) / (k : Int) = ((m / k : Nat) : Int) := rfl
    rw [e4]
    have hq : m / k <= m := Nat.div_le_self _ _
    generalize m / k = q at hq
    generalize m % k = r
    have e3 : decide (-(r : Int) > 0) = false := fk3 (by omega)
    have ew : eX4.wrap (-(q : Int)) = -(q : Int) := j6 (by omega) (by omega)
    rw [e3, ew]
    rfl
theorem ed9 {a b:Int}(hb:0<b)(h0:-1125899906842624<=a)(h1:a<=1125899906842624):-1125899906842624<=upV a b/\upV a b<=1125899906842624:=by
 unfold upV
 have h2:-1125899906842624<=(-a)/b:=by
  rw[Int.le_ediv_iff_mul_le hb]
  have:-1125899906842624*b<= -1125899906842624*1:=Int.mul_le_mul_of_nonpos_left (by omega) (by omega)
  omega
 have h3:(-a)/b<=1125899906842624:=by
  apply Int.le_of_lt_add_one
  rw[Int.ediv_lt_iff_lt_mul hb]
  have:(1125899906842624+1)*1<=(1125899906842624+1)*b:=ec5 (by omega) (by omega)
  omega
 omega
def split (c:Int):List A3->Option (List A3×A3×List A3)
 |[]=>none
 |j::r=>if chn j.Event=c then some ([],j,r)else(split c r).map fun t=>(j::t.1,t.2.1,t.2.2)
theorem bb9 {c:Int}:∀{l:List A3}{a:List A3}{j:A3}{b:List A3},split c l=some (a,j,b)->l=a++j::b/\chn j.Event=c/\∀y∈a,chn y.Event≠c
 |[],a,j,b,h=>by simp[split]at h
 |x::r,a,j,b,h=>by
  simp only[split]at h
  by_cases hc:chn x.Event=c
  ·rw[if_pos hc]at h
   cases h
   exact⟨rfl,hc,fun y hy=>by simp at hy⟩
  ·rw[if_neg hc]at h
   cases hs:split c r with
   |none=>rw[hs]at h;simp at h
   |some t=>
    obtain⟨a',j',b'⟩:=t
    rw[hs]at h
    simp only[ca8,aI5,Prod.mk.injEq]at h
    obtain⟨rfl,rfl,rfl⟩:=h
    obtain⟨h1,h2,h3⟩:=bb9 hs
    exact⟨by rw[h1];rfl,h2,fun y hy=>by
     rcases ch6.1 hy with rfl|hy
     ·exact hc
     ·exact h3 y hy⟩
theorem cU0 {c:Int}:∀{l:List A3},split c l=none->∀y∈l,chn y.Event≠c
 |[],_,y,hy=>by simp at hy
 |x::r,h,y,hy=>by
  simp only[split]at h
  by_cases hc:chn x.Event=c
  ·rw[if_pos hc]at h;cases h
  ·rw[if_neg hc]at h
   cases hs:split c r with
   |none=>
    rcases ch6.1 hy with rfl|hy
    ·exact hc
    ·exact cU0 hs y hy
   |some t=>rw[hs]at h;simp at h
theorem aS1 (a b:List A3)(c:Int):ae0 (a++b) c=ae0 a c++ae0 b c:=by unfold ae0;rw[cV9]
theorem bv0 {l:List A3}{c:Int}(h:∀y∈l,chn y.Event≠c):ae0 l c=[]:=by
 unfold ae0
 rw[eq3]
 intro y hy
 simpa using h y hy
theorem ca5 {j:A3}{l:List A3}{c:Int}(h:chn j.Event=c):ae0 (j::l) c=j::ae0 l c:=by unfold ae0;rw[dQ1 (by simpa using h)]
theorem ca4 {j:A3}{l:List A3}{c:Int}(h:chn j.Event≠c):ae0 (j::l) c=ae0 l c:=by unfold ae0;rw[fa6 (by simpa using h)]
theorem cQ3 {c:Int}{l a b:List A3}{j:A3}(h:split c l=some (a,j,b)):ae0 l c=j::ae0 b c:=by
 obtain⟨rfl,h2,h3⟩:=bb9 h
 rw[aS1,bv0 h3,cL8,ca5 h2]
theorem dZ6 {c:Int}{l:List A3}(h:split c l=none):ae0 l c=[]:=bv0 (cU0 h)
def cv2 (c:Int)(l:List A3):Int:=match split c l with|some t=>(t.1.length:Int)|none=>-1
theorem cA6 (c:Int)(n:Nat)(hn:n<=8):∀(l:List A3) (i:Nat),(∀j∈l,aN5 n j)->L9 (fun(i:Int) x (_:Unit)=>ai5 (U9 x c) fun v=>bif v then(some (Fl.ret i))else(some (Fl.next ()))) l (i:Int) ()=
  some (match split c l with|some t=>.inr ((i+t.1.length:Nat):Int)|none=>.inl ())
 |[],i,_=>rfl
 |j::l,i,h=>by
  have hj:=h j (bx8 ..)
  simp only[L9,U9,(cG6 hj hn).1,aH3,split]
  by_cases hc:chn j.Event=c
  ·have e:(chn j.Event==c)=true:=by simpa using hc
   rw[e,if_pos hc];rfl
  ·have e:(chn j.Event==c)=false:=by simpa using hc
   rw[e,if_neg hc]
   simp only[fj6,aH3]
   have:=cA6 c n hn l (i+1) (fun y hy=>h y (bF8 _ hy))
   rw[show((i:Int)+1)=((i+1:Nat):Int) by omega]
   unfold U9 at this
   rw[this]
   cases split c l with
   |none=>rfl
   |some t=>simp;omega
theorem bS8 (c:Int)(n:Nat)(hn:n<=8)(l:List A3)(hl:l.length<=1000000)(h:∀j∈l,aN5 n j):C2 l (fun x0=>U9 x0 c)=some (cv2 c l):=by
 unfold C2 O9
 rw[bc8 l (by omega) (fun(i:Int) x (_:Unit)=>ai5 (U9 x c) fun v=>bif v then(some (Fl.ret i))else(some (Fl.next ())))]
 have:=cA6 c n hn l 0 h
 rw[show((0:Nat):Int)=0 from rfl]at this
 rw[this]
 unfold cv2
 cases split c l with
 |none=>rfl
 |some t=>simp
def bP0 (now:Int)(k:D3)(j:A3):Int:=G7 (k.At+upV (j.Left*k.F9) k.aa4) (now+1)
def cC8 (now:Int)(k:D3)(c:Nat)(u:List j7×List A3):List j7×List A3:=
 match split (c:Int) u.2 with
 |none=>u
 |some (a,j,b)=>if j.Left>k.aj7\/bP0 now k j>1099511627776 then u else
   match u.1[c]?with
   |none=>u
   |some x=>(u.1.set c ⟨true,bP0 now k j,onK j.Event.Kind,x.E3⟩,a++⟨j.Event,j.Left,true,bP0 now k j⟩::b)
def bH0 (now:Int)(k:D3):Nat->List j7×List A3->List j7×List A3
 |0,u=>u
 |c+1,u=>cC8 now k c (bH0 now k c u)
structure Rows (n:Nat)(now:Int)(u:List j7×List A3):Prop where
 len:u.1.length=2*n
 ch:∀x∈u.1,Tm.chB now x=true
 job:∀j∈u.2,aN5 n j
 row:∀c (h:c<u.1.length),aE4 (ae0 u.2 (c:Int)) u.1[c]=true
theorem dN8 {now at_:Int}{b l:Bool}(h0:now<at_)(h1:at_<=1099511627776):Tm.chB now ⟨true,at_,b,l⟩=true:=by
 unfold Tm.chB
 simp only[fj8,bO4,bZ2,fk7]
 omega
theorem dq6 (now:Int)(k:D3)(j:A3):now<bP0 now k j:=by unfold bP0 G7;split<;>omega
theorem eH2 {j:A3}{r:List A3}{x:j7}(at_:Int)(h:aE4 (j::r) x=true):aE4 (⟨j.Event,j.Left,true,at_⟩::r) ⟨true,at_,onK j.Event.Kind,x.E3⟩=true:=by
 unfold aE4 at h|-
 simp only[aJ5,bO4]at h
 obtain⟨⟨⟨h1,_⟩,_⟩,h4⟩:=h
 have hk:onK j.Event.Kind= !x.E3:=by cases hk:onK j.Event.Kind<;>cases hx:x.E3<;>simp_all
 simp[h4,hk]
theorem eh4 {n:Nat}{now:Int}{k:D3}{c:Nat}{u:List j7×List A3}(h:Rows n now u):Rows n now (cC8 now k c u):=by
 unfold cC8
 cases hs:split (c:Int) u.2 with
 |none=>exact h
 |some t=>
  obtain⟨a,j,b⟩:=t
  simp only
  split
  ·exact h
  ·rename_i hq
   have hq1:bP0 now k j<=1099511627776:=by
    by_cases h5:bP0 now k j>1099511627776
    ·exact absurd (.inr h5) hq
    ·omega
   cases hx:u.1[c]?with
   |none=>exact h
   |some x=>
    obtain⟨hc,rfl⟩:=bt7.1 hx
    obtain⟨hl,hj,ha⟩:=bb9 hs
    have hjm:j∈u.2:=by rw[hl];simp
    have hjk:=h.job j hjm
    refine⟨by simp[h.len],fun y hy=>?_,fun y hy=>?_,fun d hd=>?_⟩
    ·rcases List.mem_or_eq_of_mem_set hy with hy|rfl
     ·exact h.ch y hy
     ·exact dN8 (dq6 now k j) hq1
    ·simp only[cI5,ch6]at hy
     rcases hy with hy|rfl|hy
     ·exact h.job y (by rw[hl];simp[hy])
     ·exact⟨hjk.cyl,hjk.kind,hjk.eg5,hjk.bT4,hjk.left,.inl rfl⟩
     ·exact h.job y (by rw[hl];simp[hy])
    ·simp only[dI2]at hd
     have aM1:=h.row d hd
     simp only[eX6]
     by_cases hdc:c=d
     ·subst hdc
      rw[if_pos rfl,aS1,bv0 ha,cL8,ca5 (by exact hj)]
      rw[cQ3 hs]at aM1
      exact eH2 _ aM1
     ·rw[if_neg hdc,aS1,ca4 (by show chn j.Event≠(d:Int);rw[hj];omega)]
      rw[hl,aS1,ca4 (by rw[hj];omega)]at aM1
      exact aM1
theorem cs1 {n:Nat}{now:Int}{k:D3}{u:List j7×List A3}(h:Rows n now u):∀m,Rows n now (bH0 now k m u)
 |0=>h
 |m+1=>eh4 (cs1 h m)
theorem dV0 (now:Int)(k:D3)(c:Nat)(u:List j7×List A3):(cC8 now k c u).2.length=u.2.length:=by
 unfold cC8
 cases hs:split (c:Int) u.2 with
 |none=>rfl
 |some t=>
  obtain⟨a,j,b⟩:=t
  simp only
  split
  ·rfl
  ·cases u.1[c]?with
   |none=>rfl
   |some x=>
    have:=(bb9 hs).1
    simp[this]
theorem bC0 (now:Int)(k:D3)(u:List j7×List A3):∀m,(bH0 now k m u).2.length=u.2.length
 |0=>rfl
 |m+1=>by rw[bH0,dV0,bC0 now k u m]
theorem cJ2 (now:Int)(k:D3)(ch:List j7):∀m,bH0 now k m (ch,[])=(ch,[])
 |0=>rfl
 |m+1=>by rw[bH0,cJ2 now k ch m];rfl
theorem dV1 {n:Nat}{k:D3}{j:A3}(hk:bB8 k)(hj:aN5 n j):(-1125899906842624<=j.Left*k.F9/\j.Left*k.F9<=1125899906842624)/\(-1125899906842624<=upV (j.Left*k.F9) k.aa4/\upV (j.Left*k.F9) k.aa4<=1125899906842624):=by
 have h1:=hj.left;have h2:=hk.p0;have h3:=hk.p1;have h4:=hk.s0
 have a:j.Left*k.F9<=1048576*1073741824:=by
  by_cases h0:0<=j.Left
  ·exact eP0 h1.2 h3 (by omega) (by omega)
  ·have:j.Left*k.F9<=0:=Int.mul_nonpos_of_nonpos_of_nonneg (by omega) (by omega)
   omega
 have b:-(1048576*1073741824)<=j.Left*k.F9:=by
  by_cases h0:0<=j.Left
  ·have:0<=j.Left*k.F9:=eQ2 h0 (by omega)
   omega
  ·have:(-j.Left)*k.F9<=1048576*1073741824:=eP0 (by omega) h3 (by omega) (by omega)
   rw[Int.neg_mul]at this
   omega
 exact⟨⟨by omega,by omega⟩,ed9 (by omega) (by omega) (by omega)⟩
theorem cI1 {n:Nat}{now:Int}{u:List j7×List A3}(h:Rows n now u)(h0:0<=now)(h1:now<=1099511627776)(hn:1<=n)(hn8:n<=8):Tm.ad6 ⟨now,u.1⟩=true:=by
 unfold Tm.ad6
 have hl:=h.len
 rw[Tm.du6 (by simp only;omega)]
 simp only[cI0,cI4,bN8]
 exact h.ch
theorem dS5 (a b:List A3)(j j':A3):am4 (a++j::b) (a.length:Int) j'=some (a++j'::b):=by
 rw[T6 _ _ _ (by simp)]
 simp
theorem dP3 (a b:List A3)(j:A3):D4 (a++j::b) (a.length:Int)=some j:=by
 rw[T5];simp
theorem eh5 {n:Nat}{s:c8}{now:Int}{u:List j7×List A3}(hu:Rows n now u)(hk:bB8 s.B1)(h0:0<=now)(h1:now<=1099511627776)(hn:1<=n)(hn8:n<=8)(hl:u.2.length<=1000000)(c:Nat)(hc:c<2*n):
  V0 s (c:Int) (⟨now,u.1⟩,u.2)=some (.next (⟨now,(cC8 now s.B1 c u).1⟩,(cC8 now s.B1 c u).2)):=by
 unfold V0
 simp only
 rw[bS8 (c:Int) n hn8 u.2 hl hu.job]
 have hcl:c<u.1.length:=by rw[hu.len];exact hc
 unfold cv2 cC8
 cases hs:split (c:Int) u.2 with
 |none=>rfl
 |some t=>
  obtain⟨a,j,b⟩:=t
  obtain⟨hl2,hj,ha⟩:=bb9 hs
  have hjm:j∈u.2:=by rw[hl2];simp
  have hjk:=hu.job j hjm
  obtain⟨r1,r2⟩:=dV1 hk hjk
  have hka:=hk.at0;have hka1:=hk.at1
  simp only[aH3]
  have e1:decide ((a.length:Int)<0)=false:=by simp
  have eg:D4 u.2 (a.length:Int)=some j:=by rw[hl2];exact dP3 a b j
  rw[e1,eg]
  simp only[fj6,aH3]
  by_cases hla:j.Left>s.B1.aj7
  ·rw[fk0 hla,if_pos (.inl hla)]
   rfl
  ·rw[fk3 hla]
   simp only[fj6]
   rw[j6 (n:=j.Left*s.B1.F9) (by omega) (by omega),ff4 _ _ (by omega) (by omega) (by have:=hk.s0;omega) (by have:=hk.s1;omega)]
   simp only[aH3]
   rw[j6 (n:=s.B1.At+upV (j.Left*s.B1.F9) s.B1.aa4) (by omega) (by omega),j6 (n:=now+1) (by omega) (by omega)]
   have hat:G7 (s.B1.At+upV (j.Left*s.B1.F9) s.B1.aa4) (now+1)=bP0 now s.B1 j:=rfl
   rw[hat]
   by_cases hmx:bP0 now s.B1 j>1099511627776
   ·rw[fk0 hmx,if_pos (.inr hmx)];rfl
   ·rw[fk3 hmx,if_neg (by omega)]
    simp only[fj6]
    have eo:ar0 j.Event.Kind=some (onK j.Event.Kind):=rfl
    rw[eo]
    simp only[aH3]
    have hgt:=dq6 now s.B1 j
    have e2:decide (bP0 now s.B1 j<=now)=false:=by simp;omega
    have e3:decide (bP0 now s.B1 j>Tm.cC6)=false:=by unfold Tm.cC6;simp;omega
    rw[Tm.eh3 ⟨now,u.1⟩ _ _ _ c rfl hcl (cI1 hu h0 h1 hn hn8)]
    simp only
    rw[e2,e3]
    simp only[fj6,aH3,beq_self_eq_true,fj8]
    rw[hl2,dS5]
    simp only[aH3]
    rw[dS5,aK2 hcl]
    rfl
theorem eA6 {n:Nat}{s:c8}{now:Int}{u:List j7×List A3}(hu:Rows n now u)(hk:bB8 s.B1)(h0:0<=now)(h1:now<=1099511627776)(hn:1<=n)(hn8:n<=8)(hl:u.2.length<=1000000):
  K9 ((2*n:Nat):Int) (V0 s) (⟨now,u.1⟩,u.2)=some (.inl (⟨now,(bH0 now s.B1 (2*n) u).1⟩,(bH0 now s.B1 (2*n) u).2)):=by
 obtain⟨t,k1,k2⟩:=ai6 (R:=Empty) (2*n) (by omega) (V0 s) (fun c t=>t=(⟨now,(bH0 now s.B1 c u).1⟩,(bH0 now s.B1 c u).2)) (⟨now,u.1⟩,u.2) rfl (fun c hc t ht=>by
  subst ht
  refine⟨_,eh5 (cs1 hu c) hk h0 h1 hn hn8 (by rw[bC0];exact hl) c hc,rfl⟩)
 rw[k1,k2]
def put (s:c8)(now:Int)(u:List j7×List A3):c8:=⟨s.p6,s.B1,⟨now,u.1⟩,s.Next,u.2,s.Cut⟩
def bq1 (s:c8):c8:=if s.Cut then s else put s s.j4.Q7 (bH0 s.j4.Q7 s.B1 s.j4.j1.length (s.j4.j1,s.D1))
theorem bZ6 (s:c8)(t:w9):∀(k i:Nat),aX2 (V0 s) k (i:Int) (t,[])=some (.inl (t,[]))
 |0,_=>rfl
 |k+1,i=>by
  have:V0 s (i:Int) (t,[])=some (.next (t,[])):=by
   unfold V0
   have hi:C2 [] (fun x0=>U9 x0 (i:Int))=some (-1):=by
    unfold C2
    rw[show((([]:List A3).length:Nat):Int)=((0:Nat):Int)from rfl,al5 0 (by decide)]
    rfl
   simp only[hi]
   rfl
  simp only[aX2,this,aH3]
  exact bZ6 s t k (i+1)
theorem dS3 {n:Nat}{s:c8}(hu:Rows n s.j4.Q7 (s.j4.j1,s.D1))(hk:s.D1=[]\/bB8 s.B1)(h0:0<=s.j4.Q7)(h1:s.j4.Q7<=1099511627776)(hn:1<=n)(hn8:n<=8)(hl:s.D1.length<=1000000):
  ak6 s=some (bq1 s):=by
 unfold ak6 bq1
 have hlen:=hu.len
 simp only at hlen
 cases aK5:s.Cut
 ·simp only[fj6,do9,if_false]
  rcases hk with hk|hk
  ·rw[hk,cJ2,al5 _ (by omega)]
   have:=bZ6 s s.j4 s.j4.j1.length 0
   rw[show((0:Nat):Int)=0 from rfl]at this
   rw[this]
   unfold put
   simp only[aH3,aK5]
  ·have:=eA6 (s:=s) hu hk h0 h1 hn hn8 hl
   simp only at this
   have e:(⟨s.j4.Q7,s.j4.j1⟩:w9)=s.j4:=rfl
   rw[e]at this
   rw[hlen,this]
   unfold put
   simp only[aH3,aK5]
 ·rfl
theorem bJ0 {α:Type}(f:α->Option Bool)(p:α->Bool):∀(l:List α) (i:Nat),(∀y∈l,f y=some (p y))->L9 (fun(i:Int) x (_:Unit)=>ai5 (f x) fun v=>bif v then(some (Fl.ret i))else(some (Fl.next ()))) l (i:Int) ()=
  some (match l.findIdx? p with|some k=>.inr ((i+k:Nat):Int)|none=>.inl ())
 |[],i,_=>rfl
 |y::l,i,h=>by
  simp only[L9,h y (bx8 ..),aH3,fj0]
  cases p y
  ·have:=bJ0 f p l (i+1) (fun y hy=>h y (bF8 _ hy))
   rw[show((i:Int)+1)=((i+1:Nat):Int) by omega]
   simp only[fj6,aH3,do9,if_false]
   rw[this]
   cases l.findIdx? p with
   |none=>rfl
   |some k=>simp;omega
  ·simp
theorem find_eq (l:List A3)(hl:l.length<=1000000)(f:A3->Option Bool)(p:A3->Bool)(h:∀y∈l,f y=some (p y)):C2 l f=some (match l.findIdx? p with|some k=>(k:Int)|none=>-1):=by
 unfold C2 O9
 rw[bc8 l (by omega) (fun(i:Int) x (_:Unit)=>ai5 (f x) fun v=>bif v then(some (Fl.ret i))else(some (Fl.next ())))]
 have:=bJ0 f p l 0 h
 rw[show((0:Nat):Int)=0 from rfl]at this
 rw[this]
 cases l.findIdx? p with
 |none=>rfl
 |some k=>simp
theorem cv1 {α:Type}{p:α->Bool}:∀{l:List α}{k:Nat},l.findIdx? p=some k->k<l.length/\(l.take (k+1)).filter (fun y=>!p y)=l.take k
 |[],k,h=>by simp at h
 |y::l,k,h=>by
  rw[fj0]at h
  cases hp:p y
  ·rw[hp]at h
   simp only[do9,if_false]at h
   cases hf:l.findIdx? p with
   |none=>rw[hf]at h;simp at h
   |some m=>
    rw[hf]at h
    simp only[ca8,aI5]at h
    subst h
    obtain⟨h1,h2⟩:=cv1 hf
    exact⟨by simpa using h1,by simp only[List.take_succ_cons,dC9,hp,cI0,if_true];rw[h2]⟩
  ·rw[hp]at h
   simp only[if_true,aI5]at h
   subst h
   exact⟨by simp,by simp[hp]⟩
theorem dc7 {α:Type}{p:α->Bool}{l:List α}(h:l.findIdx? p=none):l.filter (fun y=>!p y)=l:=by
 rw[List.findIdx?_eq_none_iff]at h
 rw[List.filter_eq_self]
 intro y hy
 simp[h y hy]
theorem cM2 {α:Type}(s:List α)(i:Nat)(z:α)(hi:i<=s.length):ay4 (bI2 s (i:Int) (s.length:Int) z) 0 (i:Int)=some (s.take i):=by
 have e:bI2 s (i:Int) (s.length:Int) z=s.take i++cr2 (s.length-i) z:=by
  unfold bI2 au2
  simp only[eJ5,eC4]
  rw[List.drop_eq_nil_of_le (by omega),cV6]
 have hl:(s.take i++cr2 (s.length-i) z).length=s.length:=by
  rw[aY1,bE9,eC4];omega
 rw[e]
 unfold ay4
 rw[if_pos ⟨by omega,by omega,by rw[hl];omega⟩]
 simp only[eJ5,Int.toNat_zero,List.drop_zero,Nat.sub_zero]
 rw[List.take_append_of_le_length (by rw[bE9];omega),List.take_take,Nat.min_self]
theorem del_eq (l:List A3)(hl:l.length<=1000000)(f:A3->Option Bool)(p:A3->Bool)(h:∀y∈l,f y=some (p y)):L0 l f=some (l.filter fun y=>!p y):=by
 unfold L0
 rw[find_eq l hl f p h]
 cases hf:l.findIdx? p with
 |none=>simp only[aH3];rw[dc7 hf];rfl
 |some v=>
  obtain⟨hv,htk⟩:=cv1 hf
  simp only[aH3]
  have e0:((v:Int)== -1)=false:=beq_eq_false_iff_ne.2 (by omega)
  rw[e0,j6 (n:=(v:Int)+1) (by omega) (by omega)]
  simp only[fj6]
  obtain⟨t,k1,k2⟩:=cv9 (mb:=at4 f)
   (fun j st=>∃i:Nat,st.1=(i:Int)/\st.2.1=((v+1+j:Nat):Int)/\i<v+1+j/\i=((l.take (v+1+j)).filter fun y=>!p y).length/\st.2.2.length=l.length/\st.2.2.take i=((l.take (v+1+j)).filter fun y=>!p y)/\st.2.2.drop (v+1+j)=l.drop (v+1+j))
   (fun t=>∃(s:List A3) (i:Nat),t= .inl ((i:Int),(l.length:Int),s)/\s.length=l.length/\i<=l.length/\s.take i=l.filter fun y=>!p y) (l.length-(v+1)) 0 ((v:Int),(v:Int)+1,l)
   ⟨v,rfl,by push_cast;omega,by omega,by rw[dM1,htk,bE9];omega,rfl,by rw[dM1,htk],rfl⟩
   (fun j _ hj st ⟨i,h1,h2,h3,h4,h5,h6,h7⟩=>by
    have hjl:v+1+j<l.length:=by omega
    have cX6:D4 st.2.2 st.2.1=some l[v+1+j]:=by
     rw[h2,T5,<-eC1,h7,eC1,aK2 hjl]
    have hlt:decide (st.2.1<(st.2.2.length:Int))=true:=by rw[h2,h5];simp;omega
    have htk2:l.take (v+1+(j+1))=l.take (v+1+j)++[l[v+1+j]]:=by rw[<-dD0];exact dp0 hjl
    have hdr:∀s:List A3,s.drop (v+1+j)=l.drop (v+1+j)->s.drop (v+1+(j+1))=l.drop (v+1+(j+1)):=fun s hs=>by
     rw[<-dD0,<-ey6,hs,ey6]
    unfold at4
    rw[hlt,cX6]
    simp only[fj8,aH3,h _ (ba6 hjl)]
    rw[h2,j6 (n:=((v+1+j:Nat):Int)+1) (by omega) (by omega)]
    cases hp:p l[v+1+j]
    ·have hi:i<st.2.2.length:=by omega
     simp only[cI0,fj8]
     rw[h1,C7 _ _ hi]
     simp only[aH3]
     rw[T6 _ _ _ hi,j6 (n:=(i:Int)+1) (by omega) (by omega)]
     have hfl:((l.take (v+1+(j+1))).filter fun y=>!p y)=((l.take (v+1+j)).filter fun y=>!p y)++[l[v+1+j]]:=by
      rw[htk2,cV9];simp[hp]
     refine⟨_,rfl,i+1,by push_cast;rfl,by push_cast;omega,by omega,?_,by simp[h5],?_,?_⟩
     ·rw[hfl,aY1,<-h4];rfl
     ·rw[hfl,<-h6]
      rw[dp0 (by simpa using hi),List.take_set_of_le (cq9 _),dC7]
     ·refine hdr _ ?_
      rw[List.drop_set_of_lt (by omega)];exact h7
    ·simp only[aP9,fj6]
     have hfl:((l.take (v+1+(j+1))).filter fun y=>!p y)=((l.take (v+1+j)).filter fun y=>!p y):=by
      rw[htk2,cV9];simp[hp]
     exact⟨_,rfl,i,h1,by push_cast;omega,by omega,by rw[hfl];exact h4,h5,by rw[hfl];exact h6,hdr _ h7⟩)
   (fun st ⟨i,h1,h2,h3,h4,h5,h6,h7⟩=>by
    have hn:v+1+(0+(l.length-(v+1)))=l.length:=by omega
    rw[hn]at h2 h3 h4 h6
    have hlt:decide (st.2.1<(st.2.2.length:Int))=false:=by rw[h2,h5];simp
    unfold at4
    rw[hlt]
    simp only[fj6]
    refine⟨_,rfl,st.2.2,i,?_,h5,by omega,by rw[h6,ee6]⟩
    rw[h1,h2])
  obtain⟨s,i,rfl,hs,hi,ht⟩:=k2
  rw[k1]
  simp only[aH3]
  have hc:cl1 (i:Int) (s.length:Int) s.length=some ():=by unfold cl1;rw[if_pos ⟨by omega,by omega,by omega⟩]
  rw[hc]
  simp only[aH3]
  have hsl:ay4 (bI2 s (i:Int) (s.length:Int) (⟨(⟨0,0,0,0⟩:B6),0,false,0⟩:A3)) 0 (i:Int)=some (s.take i):=cM2 s i _ (by omega)
  rw[hsl,ht]
  rfl
def bb2 (at_:Int)(j:A3):Bool:=j.D9&&(j.At==at_)
theorem en5 (l:List A3)(hl:l.length<=1000000)(at_:Int):L0 l (fun x0=>an7 x0 at_)=some (l.filter fun j=>!bb2 at_ j):=
 del_eq l hl _ (bb2 at_) (fun _ _=>rfl)
def cC7 (at_:Int)(u:List j7×List A3):List j7×List A3:=(u.1.map (Tm.bG5 at_),u.2.filter fun j=>!bb2 at_ j)
theorem bO8:∀{l:List A3}{lv:Bool},alt l lv=true->∀k∈l,k.D9=false
 |[],lv,_,k,hk=>by simp at hk
 |j::r,lv,h,k,hk=>by
  simp only[alt,aJ5,bO4]at h
  rcases ch6.1 hk with rfl|hk
  ·exact h.1.2
  ·exact bO8 h.2 k hk
theorem eA2 {l:List A3}{lv:Bool}(h:alt l lv=true):aE4 l ⟨false,0,false,lv⟩=true:=by
 cases l with
 |nil=>simpa[aE4,alt]using h
 |cons j r=>
  simp only[alt,aJ5,bO4]at h
  simp[aE4,h.1.1,h.1.2,h.2]
theorem bR8 {l:List A3}(at_:Int)(h:∀k∈l,k.D9=false):(l.filter fun j=>!bb2 at_ j)=l:=by
 rw[List.filter_eq_self]
 intro k hk
 simp[bb2,h k hk]
theorem bS9 (l:List A3)(c at_:Int):ae0 (l.filter fun j=>!bb2 at_ j) c=(ae0 l c).filter fun j=>!bb2 at_ j:=by
 unfold ae0
 rw[List.filter_filter,List.filter_filter]
 congr 1
 funext j
 exact Bool.and_comm _ _
theorem eH1 {l:List A3}{x:j7}{at_:Int}(h:aE4 l x=true)(cf2:x.D9=true->at_<=x.At):aE4 (l.filter fun j=>!bb2 at_ j) (Tm.bG5 at_ x)=true:=by
 cases l with
 |nil=>
  simp only[aE4,aJ5,bO4]at h
  have:Tm.bG5 at_ x=x:=by unfold Tm.bG5 Tm.due;rw[h.2];rfl
  rw[this]
  simp[aE4,h.1,h.2]
 |cons j r=>
  have h':=h
  simp only[aE4,aJ5,bO4,cG1,beq_iff_eq]at h
  obtain⟨⟨⟨h1,h2⟩,h3⟩,h4⟩:=h
  have hr:=bR8 at_ (bO8 h4)
  cases hx:x.D9
  ·have hj:j.D9=false:=by rw[h2];exact hx
   have e1:Tm.bG5 at_ x=x:=by unfold Tm.bG5 Tm.due;rw[hx];rfl
   have e2:bb2 at_ j=false:=by unfold bb2;rw[hj];rfl
   rw[e1,dC9,e2]
   simp only[cI0,if_true]
   rw[hr];exact h'
  ·have hj:j.D9=true:=by rw[h2];exact hx
   have h3':j.At=x.At/\x.Next= !x.E3:=by
    rcases h3 with h3|h3
    ·rw[hj]at h3;cases h3
    ·exact h3
   have hm:=cf2 hx
   by_cases ha:x.At=at_
   ·have e1:Tm.bG5 at_ x=⟨false,0,false,!x.E3⟩:=by
     unfold Tm.bG5 Tm.due
     have:decide (x.At>at_)=false:=by simp;omega
     rw[hx,this,h3'.2];rfl
    have e2:bb2 at_ j=true:=by unfold bb2;rw[hj,h3'.1,ha];simp
    rw[e1,dC9,e2]
    simp only[aP9,do9,if_false]
    rw[hr];exact eA2 h4
   ·have e1:Tm.bG5 at_ x=x:=by
     unfold Tm.bG5 Tm.due
     have:decide (x.At>at_)=true:=by simp;omega
     rw[hx,this];rfl
    have e2:bb2 at_ j=false:=by unfold bb2;rw[hj,h3'.1];simp[ha]
    rw[e1,dC9,e2]
    simp only[cI0,if_true]
    rw[hr];exact h'
theorem eg1 {n:Nat}{now at_:Int}{u:List j7×List A3}(h:Rows n now u)(h0:0<=now)(h1:now<at_)(h2:at_<=1099511627776)(hn:1<=n)(hn8:n<=8)(cf2:∀x∈u.1,x.D9=true->at_<=x.At):Rows n at_ (cC7 at_ u):=by
 have ht:=cI1 h h0 (by omega) hn hn8
 have ht2:=Tm.ex1 (K5:=at_) ht (by simp only;omega) (by omega)
 refine⟨by simp[cC7,h.len],?_,fun j hj=>h.job j (dK5.1 hj).1,fun c hc=>?_⟩
 ·unfold Tm.ad6 at ht2
  simp only[aJ5,bN8]at ht2
  exact ht2.2
 ·have hc':c<u.1.length:=by simpa[cC7]using hc
  simp only[cC7,List.getElem_map]
  rw[bS9]
  exact eH1 (h.row c hc') (cf2 _ (ba6 hc'))
theorem eB2 {now at_:Int}{l:List A3}(h:bA4 now l=true)(hle:now<=at_):bA4 at_ (l.filter fun j=>!bb2 at_ j)=true:=by
 match l,h with
 |[],_=>rfl
 |[j],h=>
  rw[dC9]
  cases bb2 at_ j
  ·simp only[cI0,if_true,ez7]
   simp only[bA4,aJ5,fk4]at h|-
   exact⟨h.1,by omega⟩
  ·rfl
 |i::j::r,h=>simp[bA4]at h
theorem dq1 {n:Nat}{now at_:Int}{u:List j7×List A3}(h:Rows n now u){x:j7}(hx:x∈u.1)(ha:x.D9=true)(hat:x.At=at_):(cC7 at_ u).2.length<u.2.length:=by
 obtain⟨c,hc,rfl⟩:=cY8.1 hx
 have hr:=h.row c hc
 cases hm:ae0 u.2 (c:Int)with
 |nil=>rw[hm]at hr;simp[aE4,ha]at hr
 |cons j r=>
  rw[hm]at hr
  simp only[aE4,aJ5,bO4,cG1,beq_iff_eq]at hr
  obtain⟨⟨⟨_,h2⟩,h3⟩,_⟩:=hr
  have hj:j.D9=true:=by rw[h2];exact ha
  have h3':j.At=u.1[c].At:=by
   rcases h3 with h3|h3
   ·rw[hj]at h3;cases h3
   ·exact h3.1
  have hjm:j∈u.2:=by
   have:j∈ae0 u.2 (c:Int):=by rw[hm];exact bx8 ..
   exact(dK5.1 this).1
  have hd:bb2 at_ j=true:=by unfold bb2;rw[hj,h3',hat];simp
  unfold cC7
  exact List.length_filter_lt_length_iff_exists.2 ⟨j,hjm,by simp[hd]⟩
structure Live (n:Nat)(s:c8):Prop where
 eng:n=s.p6.u6.length
 n1:1<=n
 n8:n<=8
 rows:Rows n s.j4.Q7 (s.j4.j1,s.D1)
 cut:s.Cut=true->∀c,c<s.j4.j1.length->bA4 s.j4.Q7 (ae0 s.D1 (c:Int))=true
 cF3:0<=s.j4.Q7
 dm5:s.j4.Q7<=1099511627776
 clk:(s.B1.V7=false/\s.D1=[])\/(s.B1.V7=true/\bB8 s.B1)
 most:s.D1.length<=1000
theorem Live.tim {n:Nat}{s:c8}(h:Live n s):Tm.ad6 s.j4=true:=cI1 h.rows h.cF3 h.dm5 h.n1 h.n8
theorem Live.len {n:Nat}{s:c8}(h:Live n s):s.j4.j1.length=2*n:=h.rows.len
theorem Live.of {s:c8}(h:aE9 s):Live s.p6.u6.length s:=by
 have ht:=Tm.bF3 h.tim
 refine⟨rfl,h.eng.1,h.eng.2.1,⟨h.chs,?_,h.job,fun c hc=>?_⟩,fun aK5 c hc=>?_,ht.2.2.1,ht.2.2.2,?_,eJ3 h.most (by decide)⟩
 ·have:=h.tim
  unfold Tm.ad6 at this
  simp only[aJ5,bN8]at this
  exact this.2
 ·have:=h.line c hc
  unfold bz4 at this
  simp only[aJ5]at this
  exact this.1
 ·have:=h.line c hc
  unfold bz4 at this
  rw[aK5]at this
  simp only[aP9,dQ6,aJ5]at this
  exact this.2
 ·cases hv:s.B1.V7
  ·exact .inl ⟨rfl,h.none hv⟩
  ·exact .inr ⟨rfl,db4 h.clk hv⟩
def stepG (at_:Int)(s:c8):c8:=bq1 (put s at_ (cC7 at_ (s.j4.j1,s.D1)))
def goV (to:Int):Nat->List j8×c8->List j8×c8
 |0,u=>u
 |f+1,u=>if(Tm.nxV u.2.j4.j1).2=true/\(Tm.nxV u.2.j4.j1).1<=to then goV to f (u.1++Tm.bM8 (Tm.nxV u.2.j4.j1).1 u.2.j4.j1,stepG (Tm.nxV u.2.j4.j1).1 u.2)else u
structure Alike (s t:c8):Prop where
 eng:t.p6=s.p6
 clk:t.B1=s.B1
 next:t.Next=s.Next
 cut:t.Cut=s.Cut
theorem Alike.refl (s:c8):Alike s s:=⟨rfl,rfl,rfl,rfl⟩
theorem Alike.trans {s t u:c8}(h:Alike s t)(k:Alike t u):Alike s u:=⟨k.eng.trans h.eng,k.clk.trans h.clk,k.next.trans h.next,k.cut.trans h.cut⟩
theorem cs0 (s:c8)(now:Int)(u:List j7×List A3):Alike s (put s now u):=⟨rfl,rfl,rfl,rfl⟩
theorem bW1 (s:c8):Alike s (bq1 s):=by unfold bq1;split;exact .refl s;exact cs0 ..
theorem dE3 (at_:Int)(s:c8):Alike s (stepG at_ s):=(cs0 ..).trans (bW1 _)
theorem dq8 {n:Nat}{s:c8}(h:Live n s):Live n (bq1 s):=by
 unfold bq1
 cases aK5:s.Cut
 ·simp only[do9,if_false]
  have hr:=cs1 (k:=s.B1) h.rows s.j4.j1.length
  refine⟨h.eng,h.n1,h.n8,hr,fun hc=>?_,h.cF3,h.dm5,?_,?_⟩
  ·have:s.Cut=true:=hc
   rw[aK5]at this;cases this
  ·rcases h.clk with⟨a,b⟩|h2
   ·left
    refine⟨a,?_⟩
    show(bH0 s.j4.Q7 s.B1 s.j4.j1.length (s.j4.j1,s.D1)).2=[]
    rw[b,cJ2]
   ·exact .inr h2
  ·show(bH0 s.j4.Q7 s.B1 s.j4.j1.length (s.j4.j1,s.D1)).2.length<=1000
   rw[bC0];exact h.most
 ·simp only[if_true];exact h
theorem dy9 {n:Nat}{s:c8}(h:Live n s){at_:Int}(h1:s.j4.Q7<at_)(h2:at_<=1099511627776)(cf2:∀x∈s.j4.j1,x.D9=true->at_<=x.At):Live n (put s at_ (cC7 at_ (s.j4.j1,s.D1))):=by
 have hr:=eg1 h.rows h.cF3 h1 h2 h.n1 h.n8 cf2
 refine⟨h.eng,h.n1,h.n8,hr,fun hc c hcl=>?_,by have:=h.cF3;show 0<=at_;omega,h2,?_,?_⟩
 ·show bA4 at_ (ae0 (s.D1.filter fun j=>!bb2 at_ j) (c:Int))=true
  rw[bS9]
  exact eB2 (h.cut hc c (by simpa[put,cC7]using hcl)) (by omega)
 ·rcases h.clk with⟨a,b⟩|h2
  ·left
   refine⟨a,?_⟩
   show(s.D1.filter fun j=>!bb2 at_ j)=[]
   rw[b];rfl
  ·exact .inr h2
 ·exact eJ3 (List.length_filter_le ..) h.most
theorem cQ8 {n:Nat}{s:c8}(h:Live n s)(hn:(Tm.nxV s.j4.j1).2=true):s.j4.Q7<(Tm.nxV s.j4.j1).1/\(Tm.nxV s.j4.j1).1<=1099511627776/\(∀x∈s.j4.j1,x.D9=true->(Tm.nxV s.j4.j1).1<=x.At):=by
 obtain⟨x,hx,ha,hat⟩:=Tm.cQ7 hn
 have:=Tm.db0 (h.rows.ch x hx) ha
 exact⟨by omega,by omega,fun y hy hya=>(Tm.cw1 hy hya).2⟩
theorem dg4 {n:Nat}{s:c8}(h:Live n s)(hn:(Tm.nxV s.j4.j1).2=true):Live n (stepG (Tm.nxV s.j4.j1).1 s):=by
 obtain⟨h1,h2,h3⟩:=cQ8 h hn
 exact dq8 (dy9 h h1 h2 h3)
theorem cU1 (at_:Int)(s:c8):(stepG at_ s).j4.Q7=at_:=by unfold stepG bq1;split<;>rfl
theorem ec8 (at_:Int)(s:c8):(stepG at_ s).D1.length=(cC7 at_ (s.j4.j1,s.D1)).2.length:=by
 unfold stepG bq1
 split
 ·rfl
 ·show(bH0 _ _ _ _).2.length=_
  rw[bC0];rfl
theorem eD2 {n:Nat}{s:c8}(h:Live n s)(to:Int)(out:List j8)(ho:out.length<=100000)(hn:(Tm.nxV s.j4.j1).2=true)(hto:(Tm.nxV s.j4.j1).1<=to):
  Y1 to (out,s)=some (.inl (out++Tm.bM8 (Tm.nxV s.j4.j1).1 s.j4.j1,stepG (Tm.nxV s.j4.j1).1 s))/\
  True:=by
 obtain⟨h1,h2,h3⟩:=cQ8 h hn
 have at7:=dy9 h h1 h2 h3
 have hlen:=h.len
 have hn8:=h.n8
 have hal:(Tm.bM8 (Tm.nxV s.j4.j1).1 s.j4.j1).length<=16:=by have:=Tm.dq0 (Tm.nxV s.j4.j1).1 s.j4.j1;omega
 have et:(⟨s.j4.Q7,s.j4.j1⟩:w9)=s.j4:=rfl
 have hg:decide ((Tm.nxV s.j4.j1).1>to)=false:=by simp;omega
 have ha1:decide ((Tm.nxV s.j4.j1).1<s.j4.Q7)=false:=by simp;omega
 have ha2:decide ((Tm.nxV s.j4.j1).1>Tm.cC6)=false:=by unfold Tm.cC6;simp;omega
 have hj:=h.most
 constructor
 ·unfold Y1
  try simp only[et]
  rw[Tm.dR0,h.tim]
  simp only[fj8,aH3,hn,hg,aP9,eM3,fj6]
  rw[Tm.eg0,h.tim,ha1,ha2]
  simp only[aP9,fj6,aH3]
  rw[H7 _ _ (by omega),en5 _ (by omega)]
  simp only[aH3]
  have:=dS3 (s:=put s (Tm.nxV s.j4.j1).1 (cC7 (Tm.nxV s.j4.j1).1 (s.j4.j1,s.D1))) at7.rows (by rcases at7.clk with⟨_,b⟩|⟨_,b⟩;exact .inl b;exact .inr b) at7.cF3 at7.dm5 h.n1 h.n8 (by have:=at7.most;omega)
  unfold put cC7 at this
  simp only at this
  rw[this]
  rfl
 ·trivial
theorem en6 {n:Nat}{s:c8}(h:Live n s)(to:Int)(out:List j8)(hno:¬((Tm.nxV s.j4.j1).2=true/\(Tm.nxV s.j4.j1).1<=to)):
  Y1 to (out,s)=some (.inr (.inl (out,s)))/\True:=by
 have et:(⟨s.j4.Q7,s.j4.j1⟩:w9)=s.j4:=rfl
 have hlen:=h.len
 have hn8:=h.n8
 have hb:(!(Tm.nxV s.j4.j1).2||decide ((Tm.nxV s.j4.j1).1>to))=true:=by
  cases hn:(Tm.nxV s.j4.j1).2
  ·rfl
  ·simp only[aP9,dQ6,fk4]
   by_cases h5:(Tm.nxV s.j4.j1).1<=to
   ·exact absurd ⟨hn,h5⟩ hno
   ·omega
 constructor
 ·unfold Y1
  try simp only[et]
  rw[Tm.dR0,h.tim]
  simp only[fj8,aH3,hb]
 ·trivial
theorem dH4 (to:Int){n:Nat}:∀(f:Nat) (s:c8) (out:List j8),Live n s->s.D1.length<=f->out.length+16*f<=100000->s.j4.Q7<=to->
  L5 (Y1 to) (out,s)=some (.inl (goV to f (out,s)))/\True/\Live n (goV to f (out,s)).2/\Alike s (goV to f (out,s)).2/\(goV to f (out,s)).2.j4.Q7<=to/\
   (∀x∈(goV to f (out,s)).2.j4.j1,x.D9=true->to<x.At)/\(goV to f (out,s)).1.length<=out.length+16*f/\(goV to f (out,s)).2.D1.length<=s.D1.length:=by
 intro f
 induction f with
 |zero=>
  intro s out h hj ho ht
  have hno:¬((Tm.nxV s.j4.j1).2=true/\(Tm.nxV s.j4.j1).1<=to):=by
   rintro⟨h1,_⟩
   obtain⟨x,hx,ha,hat⟩:=Tm.cQ7 h1
   have:=dq1 h.rows hx ha hat
   simp only at this
   omega
  obtain⟨e1,e2⟩:=en6 h to out hno
  refine⟨E0 e1,trivial,h,.refl s,ht,fun x hx ha=>?_,by simp[goV],cq9 _⟩
  obtain⟨a,b⟩:=Tm.cw1 hx ha
  by_cases h5:to<x.At
  ·exact h5
  ·have b':(Tm.nxV s.j4.j1).1<=x.At:=b
   exact absurd ⟨a,by omega⟩ hno
 |succ f ih=>
  intro s out h hj ho ht
  by_cases hy:(Tm.nxV s.j4.j1).2=true/\(Tm.nxV s.j4.j1).1<=to
  ·obtain⟨e1,e2⟩:=eD2 h to out (by omega) hy.1 hy.2
   have hlen:=h.len
   have hn8:=h.n8
   have hal:(Tm.bM8 (Tm.nxV s.j4.j1).1 s.j4.j1).length<=16:=by have:=Tm.dq0 (Tm.nxV s.j4.j1).1 s.j4.j1;omega
   obtain⟨x,hx,ha,hat⟩:=Tm.cQ7 hy.1
   have hless:=dq1 h.rows hx ha hat
   simp only at hless
   have hsj:=ec8 (Tm.nxV s.j4.j1).1 s
   obtain⟨r1,r2,r3,r4,r5,r6,r7,r8⟩:=ih (stepG (Tm.nxV s.j4.j1).1 s) (out++Tm.bM8 (Tm.nxV s.j4.j1).1 s.j4.j1) (dg4 h hy.1) (by omega) (by rw[aY1];omega) (by rw[cU1];exact hy.2)
   have eg:goV to (f+1) (out,s)=goV to f (out++Tm.bM8 (Tm.nxV s.j4.j1).1 s.j4.j1,stepG (Tm.nxV s.j4.j1).1 s):=by
    show(if _ then _ else _)=_
    rw[if_pos hy]
   rw[eg,G9 e1]
   refine⟨r1,r2,r3,(dE3 _ s).trans r4,r5,r6,by rw[aY1]at r7;omega,by omega⟩
  ·obtain⟨e1,e2⟩:=en6 h to out hy
   have eg:goV to (f+1) (out,s)=(out,s):=by
    show(if _ then _ else _)=_
    rw[if_neg hy]
   rw[eg]
   refine⟨E0 e1,trivial,h,.refl s,ht,fun x hx ha=>?_,by simp only;omega,cq9 _⟩
   obtain⟨a,b⟩:=Tm.cw1 hx ha
   by_cases h5:to<x.At
   ·exact h5
   ·have b':(Tm.nxV s.j4.j1).1<=x.At:=b
    exact absurd ⟨a,by omega⟩ hy
def goE (to:Int)(s:c8):List j8×c8:=((goV to s.D1.length ([],s)).1,put (goV to s.D1.length ([],s)).2 to ((goV to s.D1.length ([],s)).2.j4.j1,(goV to s.D1.length ([],s)).2.D1))
theorem dI3 {n:Nat}{s:c8}(h:Live n s){to:Int}(h1:s.j4.Q7<=to)(h2:to<=1099511627776)(hno:∀x∈s.j4.j1,x.D9=true->to<x.At):Live n (put s to (s.j4.j1,s.D1)):=by
 refine⟨h.eng,h.n1,h.n8,⟨h.rows.len,fun x hx=>?_,h.rows.job,h.rows.row⟩,fun hc c hcl=>?_,by have:=h.cF3;show 0<=to;omega,h2,h.clk,h.most⟩
 ·have:=h.rows.ch x hx
  show Tm.chB to x=true
  unfold Tm.chB at this|-
  cases ha:x.D9
  ·rw[ha]at this;exact this
  ·rw[ha]at this
   have h5:=hno x hx ha
   simp only[fj8,bO4,bZ2,fk7]at this|-
   omega
 ·have:=h.cut hc c hcl
  show bA4 to (ae0 s.D1 (c:Int))=true
  match hm:ae0 s.D1 (c:Int)with
  |[]=>rfl
  |[j]=>
   rw[hm]at this
   simp only[bA4,aJ5,fk4]at this|-
   exact⟨this.1,by omega⟩
  |i::j::r=>rw[hm]at this;simp[bA4]at this
theorem dJ1 {to:Int}{l:List j7}(h:∀x∈l,x.D9=true->to<x.At):∀c∈l,Tm.due to c=false:=by
 intro c hc
 unfold Tm.due
 cases ha:c.D9
 ·rfl
 ·have:=h c hc ha
  simp;omega
theorem cH3 {n:Nat}{s:c8}(h:Live n s)(to:Int)(h1:s.j4.Q7<=to)(h2:to<=1099511627776):ab2 s to=some (goE to s)/\Live n (goE to s).2/\Alike s (goE to s).2/\(goE to s).2.j4.Q7=to/\(goE to s).2.D1.length<=s.D1.length/\(∀x∈(goE to s).2.j4.j1,x.D9=true->to<x.At):=by
 have hm:=h.most
 obtain⟨r1,r2,r3,r4,r5,r6,r7,r8⟩:=dH4 to s.D1.length s [] h (cq9 _) (by simp;omega) h1
 have hd:=Tm.eq8 (dJ1 r6)
 refine⟨?_,dI3 r3 r5 h2 r6,r4.trans (cs0 ..),rfl,r8,r6⟩
 unfold ab2
 rw[r1]
 simp only[aH3]
 unfold goE
 generalize goV to s.D1.length ([],s)=u at r3 r5 r6 hd r7
 have et:(⟨u.2.j4.Q7,u.2.j4.j1⟩:w9)=u.2.j4:=rfl
 have ha1:decide (to<u.2.j4.Q7)=false:=by simp;omega
 have ha2:decide (to>Tm.cC6)=false:=by unfold Tm.cC6;simp;omega
 try rw[et]
 rw[Tm.eg0,r3.tim,ha1,ha2]
 simp only[aP9,fj6,aH3]
 rw[hd.1,hd.2,H7 _ _ (by simp at r7|-;omega)]
 simp only[aH3,cV6]
 rfl
theorem fh9 (s:c8)(h1:s.p6.u6.length<=1000)(h2:s.j4.j1.length<=1000)(h3:s.Next.length<=1000000)(h4:s.D1.length<=1000000):bz5 s=some s:=by
 unfold bz5
 rw[H7 _ _ (by simp;omega),Tm.copy_eq _ h2,H7 _ _ (by simp;omega),H7 _ _ (by simp;omega)]
 rfl
theorem bD5 (s:c8)(h3:s.Next.length<=1000000)(h4:s.D1.length<=1000000):L6 s=some s:=by
 unfold L6 aj5 T7
 rw[H7 _ _ (by simp;omega),H7 _ _ (by simp;omega)]
 rfl
section
variable {α β:Type}
def cn8 (gt:α->α->Bool)(x:α)(l:List α):Nat->Nat
 |0=>0
 |k+1=>match l[k]?with|some y=>if gt y x then cn8 gt x l k else k+1|none=>k+1
def bJ4 (gt:α->α->Bool)(l:List α)(x:α):List α:=l.take (cn8 gt x l l.length)++x::l.drop (cn8 gt x l l.length)
theorem er9 (gt:α->α->Bool)(x:α)(l:List α){k:Nat}(h:k<l.length):cn8 gt x l (k+1)=if gt l[k] x then cn8 gt x l k else k+1:=by
 rw[cn8,aK2 h]
theorem bW7 (gt:α->α->Bool)(l:List α)(x:α):(bJ4 gt l x).Perm (x::l):=by
 unfold bJ4
 refine List.perm_middle.trans ?_
 rw[List.take_append_drop]
theorem cO3 (gt:α->α->Bool):∀(r l:List α),(r.foldl (bJ4 gt) l).Perm (l++r)
 |[],l=>by simp
 |x::r,l=>by
  refine(cO3 gt r (bJ4 gt l x)).trans ?_
  refine((bW7 gt l x).append_right r).trans ?_
  exact List.perm_middle.symm
theorem dR4 (f:α->β){gt:α->α->Bool}{gt':β->β->Bool}(x:α)(l:List α)(h:∀y∈l,gt' (f y) (f x)=gt y x):∀k,cn8 gt' (f x) (l.map f) k=cn8 gt x l k
 |0=>rfl
 |k+1=>by
  unfold cn8
  rw[cG5]
  cases hk:l[k]?with
  |none=>rfl
  |some y=>
   simp only[ca8]
   rw[h y (cY9 hk),dR4 f x l h k]
theorem eD8 (f:α->β){gt:α->α->Bool}{gt':β->β->Bool}(x:α)(l:List α)(h:∀y∈l,gt' (f y) (f x)=gt y x):bJ4 gt' (l.map f) (f x)=(bJ4 gt l x).map f:=by
 unfold bJ4
 rw[cr4,dR4 f x l h,eC3,cS3,List.map_take,List.map_drop]
theorem fold_map (f:α->β){gt:α->α->Bool}{gt':β->β->Bool}(Q:α->Prop)(h:∀x y,Q x->Q y->gt' (f y) (f x)=gt y x):∀(r l:List α),(∀x∈l,Q x)->(∀x∈r,Q x)->(r.map f).foldl (bJ4 gt') (l.map f)=(r.foldl (bJ4 gt) l).map f
 |[],l,_,_=>rfl
 |x::r,l,hl,hr=>by
  rw[cS3,ey7,ey7,eD8 f x l (fun y hy=>h x y (hr x (bx8 ..)) (hl y hy))]
  refine fold_map f Q h r _ (fun y hy=>?_) (fun y hy=>hr y (bF8 _ hy))
  rcases ch6.1 ((bW7 gt l x).mem_iff.1 hy)with rfl|h2
  ·exact hr _ (bx8 ..)
  ·exact hl _ h2
theorem dP2 (a b:List α)(x:α):D4 (a++x::b) (a.length:Int)=some x:=by
 rw[T5,List.getElem?_append_right (cq9 _),Nat.sub_self];rfl
theorem eu1 (a b:List α)(x z:α):am4 (a++x::b) (a.length:Int) z=some (a++z::b):=by
 rw[T6 _ _ _ (by simp)]
 rw[List.set_append_right _ _ (cq9 _),Nat.sub_self];rfl
end
section
variable {cmp:a7 -> a7 -> Option Int} {gt:a7 -> a7 -> Bool} {Q:a7 -> Prop}
theorem cB5 (hc:∀x y,Q x->Q y->∃c,cmp x y=some c/\decide (c<0)=gt y x)(x:a7)(P R:List a7)(hP:∀y∈P,Q y)(hx:Q x)(hl:P.length<=1000000):∀j,j<=P.length->
  L5 (C0 0 cmp) ((j:Int),P.take j++x::(P.drop j++R))=some (.inl ((cn8 gt x P j:Int),P.take (cn8 gt x P j)++x::(P.drop (cn8 gt x P j)++R)))
 |0,_=>by
  refine E0 ?_
  unfold C0
  rfl
 |j+1,hj=>by
  have hjl:j<P.length:=by omega
  have e1:P.take (j+1)=P.take j++[P[j]]:=dp0 hjl
  have e2:P.drop j=P[j]::P.drop (j+1):=List.drop_eq_getElem_cons hjl
  have la:(P.take j).length=j:=by rw[bE9];omega
  have lb:(P.take j++[P[j]]).length=j+1:=by rw[aY1,la];rfl
  obtain⟨c,hc1,hc2⟩:=hc x P[j] hx (hP _ (ba6 hjl))
  have d1:P.take (j+1)++x::(P.drop (j+1)++R)=P.take j++P[j]::(x::(P.drop (j+1)++R)):=by rw[e1,dd3];rfl
  have g0:D4 (P.take (j+1)++x::(P.drop (j+1)++R)) ((j+1:Nat):Int)=some x:=by
   have:=dP2 (P.take j++[P[j]]) (P.drop (j+1)++R) x
   rw[lb]at this
   rw[e1];exact this
  have g1:D4 (P.take (j+1)++x::(P.drop (j+1)++R)) (j:Int)=some P[j]:=by
   have:=dP2 (P.take j) (x::(P.drop (j+1)++R)) P[j]
   rw[la]at this
   rw[d1];exact this
  have s0:am4 (P.take (j+1)++x::(P.drop (j+1)++R)) ((j+1:Nat):Int) P[j]=some (P.take j++P[j]::(P[j]::(P.drop (j+1)++R))):=by
   have:=eu1 (P.take j++[P[j]]) (P.drop (j+1)++R) x P[j]
   rw[lb]at this
   rw[e1,this,dd3];rfl
  have g2:D4 (P.take j++P[j]::(P[j]::(P.drop (j+1)++R))) (j:Int)=some P[j]:=by
   have:=dP2 (P.take j) (P[j]::(P.drop (j+1)++R)) P[j]
   rw[la]at this;exact this
  have s1:am4 (P.take j++P[j]::(P[j]::(P.drop (j+1)++R))) (j:Int) x=some (P.take j++x::(P.drop j++R)):=by
   have:=eu1 (P.take j) (P[j]::(P.drop (j+1)++R)) P[j] x
   rw[la]at this
   rw[this,e2];rfl
  have ew:o4 (((j+1:Nat):Int)-1)=(j:Int):=by rw[j6 (by omega) (by omega)];omega
  have e0:decide (((j+1:Nat):Int)>0)=true:=fk0 (by omega)
  have hb:C0 0 cmp (((j+1:Nat):Int),P.take (j+1)++x::(P.drop (j+1)++R))=some (bif gt P[j] x then .inl ((j:Int),P.take j++x::(P.drop j++R))else .inr (.inl (((j+1:Nat):Int),P.take (j+1)++x::(P.drop (j+1)++R)))):=by
   unfold C0
   simp only[e0,fj8,ew,g0,g1,aH3,hc1,hc2]
   cases gt P[j] x
   ·rfl
   ·simp only[fj8,s0,g2,s1,aH3]
  have ep:=er9 gt x P hjl
  cases hg:gt P[j] x
  ·rw[hg]at hb ep
   simp only[do9,if_false]at ep
   rw[E0 hb,ep]
  ·rw[hg]at hb ep
   simp only[if_true]at ep
   rw[G9 hb,ep]
   exact cB5 hc x P R hP hx hl j (by omega)
theorem cB6 (hc:∀x y,Q x->Q y->∃c,cmp x y=some c/\decide (c<0)=gt y x)(n:Nat)(hn:n<=1000000):∀(R S:List a7),S.length+R.length=n->(∀y∈S,Q y)->(∀y∈R,Q y)->
  L5 (B2 0 (n:Int) cmp) ((S.length:Int),S++R)=some (.inl ((n:Int),R.foldl (bJ4 gt) S))
 |[],S,hl,hS,_=>by
  have:S.length=n:=by simpa using hl
  rw[this]
  refine E0 ?_
  unfold B2
  simp
 |x::R,S,hl,hS,hR=>by
  rw[bq0]at hl
  have hin:=cB5 hc x S R hS (hR x (bx8 ..)) (by omega) S.length (cq9 _)
  rw[ee6,List.drop_length]at hin
  have e1:decide ((S.length:Int)<(n:Int))=true:=by simp;omega
  have ew:o4 ((S.length:Int)+1)=((S.length+1:Nat):Int):=by rw[j6 (by omega) (by omega)];omega
  have hin2:bJ4 gt S x++R=S.take (cn8 gt x S S.length)++x::(S.drop (cn8 gt x S S.length)++R):=by
   unfold bJ4;rw[dd3];rfl
  have hb:B2 0 (n:Int) cmp ((S.length:Int),S++x::R)=some (.inl (((S.length+1:Nat):Int),bJ4 gt S x++R)):=by
   unfold B2
   simp only[e1,fj8]
   rw[show(S++x::R)=S++x::([]++R)from rfl,hin]
   simp only[aH3,ew,hin2]
  rw[G9 hb]
  have hlen:(bJ4 gt S x).length=S.length+1:=by rw[(bW7 gt S x).length_eq];rfl
  have:=cB6 hc n hn R (bJ4 gt S x) (by omega) (fun y hy=>by
   rcases ch6.1 ((bW7 gt S x).mem_iff.1 hy)with rfl|h2
   ·exact hR _ (bx8 ..)
   ·exact hS _ h2) (fun y hy=>hR y (bF8 _ hy))
  rw[hlen]at this
  exact this
theorem bX6 (hc:∀x y,Q x->Q y->∃c,cmp x y=some c/\decide (c<0)=gt y x)(l:List a7)(hl:l.length<=19)(hQ:∀y∈l,Q y):D0 l cmp=some (l.foldl (bJ4 gt) []):=by
 have hins:B0 l 0 (l.length:Int) cmp=some (l.foldl (bJ4 gt) []):=by
  unfold B0
  cases l with
  |nil=>
   rw[E0 (b:=.inl (1,[]))]
   ·rfl
   ·unfold B2;rfl
  |cons x R=>
   have:=cB6 hc (x::R).length (by omega) R [x] (by simp;omega) (fun y hy=>hQ y (by simp at hy;simp[hy])) (fun y hy=>hQ y (bF8 _ hy))
   rw[show o4 (0+1)=(([x].length:Nat):Int)from rfl]
   rw[show x::R=[x]++R from rfl]at this|-
   rw[this]
   rfl
 unfold D0 H3
 rw[E0 (b:=.inl (0,20,l)) (by unfold K0;rw[show decide ((20:Int)<=(l.length:Int))=false by simp;omega];rfl)]
 simp only[aH3]
 rw[hins]
 simp only[aH3]
 rw[E0 (b:=.inl (20,l.foldl (bJ4 gt) [])) (by unfold K1;rw[show decide ((20:Int)<(l.length:Int))=false by simp;omega];rfl)]
 rfl
end
def gtE (begin:Int)(y x:B6):Bool:=decide (dst begin x.H2<dst begin y.H2\/(dst begin x.H2=dst begin y.H2/\chn x<chn y))
def dm7 (begin:Int)(l:List B6):List B6:=l.foldl (bJ4 (gtE begin)) []
def plJ (begin:Int)(x:B6):a7:=⟨x,dst begin x.H2⟩
theorem cw4 (begin:Int)(l:List B6):(dm7 begin l).Perm l:=by
 have:=cO3 (gtE begin) l []
 simpa[dm7]using this
theorem db1 {x:B6}(h:Ev.evP x):H4 x=some (chn x)/\aR9 x=some (chn x):=by
 have:=cG6 (n:=8) (j:=⟨x,0,false,0⟩) ⟨h.2.2.1,h.2.1,h.1,h.2.2.2,by simp only;omega,.inr rfl⟩ (by omega)
 exact this
theorem eT1 (a b:Int):af6 [a,b]=some (bif a !=0 then a else b):=by
 unfold af6
 rw[K8 _ (by simp)]
 simp only[L9,ao6]
 cases ha:a !=0
 ·cases hb:b !=0
  ·have:b=0:=by simpa using hb
   rw[this];rfl
  ·rfl
 ·rfl
theorem eF9 (begin:Int)(x y:B6)(hx:Ev.evP x)(hy:Ev.evP y):∃c,ac5 (plJ begin x) (plJ begin y)=some c/\decide (c<0)=gtE begin y x:=by
 unfold ac5 plJ
 simp only[cM5,(db1 hx).1,(db1 hy).1,aH3,eT1]
 refine⟨_,rfl,?_⟩
 unfold gtE
 rw[decide_eq_decide]
 rcases bi1 (dst begin x.H2) (dst begin y.H2)with⟨a,b⟩|⟨a,b⟩|⟨a,b⟩
 ·rw[b];simp[a]
 ·rw[b]
  rcases bi1 (chn x) (chn y)with⟨c,d⟩|⟨c,d⟩|⟨c,d⟩<;>rw[d]<;>simp<;>omega
 ·rw[b];simp;omega
theorem es1 (begin:Int)(l:List B6)(hl:l.length<=19)(hQ:∀x∈l,Ev.evP x):D0 (l.map (plJ begin)) ac5=some ((dm7 begin l).map (plJ begin)):=by
 have e:∀p:a7,(∃x,Ev.evP x/\p=plJ begin x)->p=plJ begin p.x:=by
  rintro p ⟨x,_,rfl⟩;rfl
 rw[bX6 (gt:=fun q p=>gtE begin q.x p.x) (Q:=fun p=>∃x,Ev.evP x/\p=plJ begin x)
  (fun p q ⟨x,hx,ex⟩ ⟨y,hy,ey⟩=>by subst ex ey;exact eF9 begin x y hx hy) _ (by rw[cr4];exact hl)
  (fun p hp=>by obtain⟨x,hx,rfl⟩:=cX4.1 hp;exact⟨x,hQ x hx,rfl⟩)]
 have:=fold_map (plJ begin) (gt:=gtE begin) (gt':=fun q p=>gtE begin q.x p.x) (fun _=>True) (fun _ _ _ _=>rfl) l [] (fun _ _=>trivial) (fun _ _=>trivial)
 rw[ek7]at this
 rw[this];rfl
theorem dO6 {e:o6}(h:aB5 e){c:Int}(hc:c∈e.u6):1<=c/\c<=(e.u6.length:Int):=h.2.2.2.2.1 c hc
theorem dH0 {e:o6}{f:A1}{t:Int}(he:aB5 e)(hf:bf2 e f):∀x∈evs e t f,Ev.evP x/\x.u0=f.u0:=by
 intro x hx
 unfold evs at hx
 obtain⟨o,ho,rfl⟩:=cX4.1 hx
 have hc:=dO6 he hf.1
 have hn:=he.2.1
 have hk:(1<=o.2.1/\o.2.1<=4)/\(0<=o.2.2/\o.2.2<=2):=by
  unfold ea5 at ho
  simp only[cI5,ch6,eL8,or_false]at ho
  rcases ho with(ho|ho)|ho
  ·rcases ho with rfl|rfl<;>simp
  ·cases h:decide (pul f>0)
   ·rw[h]at ho;simp at ho
   ·rw[h]at ho
    simp only[fj8,ch6,eL8,or_false]at ho
    rcases ho with rfl|rfl<;>simp
  ·cases h:decide (pul f>1)
   ·rw[h]at ho;simp at ho
   ·rw[h]at ho
    simp only[fj8,ch6,eL8,or_false]at ho
    rcases ho with rfl|rfl<;>simp
 refine⟨⟨?_,hk.1,?_,hk.2⟩,rfl⟩
 ·unfold evF;simp only;omega
 ·show 1<=f.u0/\f.u0<=8;omega
def kp (x:B6):Int×Int:=(x.Kind,x.ai8)
def eK0 (k:Int×Int):Bool:=k.1==1||k.1==2
def ey0 (k:Int×Int):Bool:=k.1==3||k.1==4
def cM3:List (Int×Int):=[(2,0),(1,0)]
def bp6 (n:Int):List (Int×Int):=(bif decide (n>0)then [(4,1),(3,1)]else [])++(bif decide (n>1)then [(3,2),(4,2)]else [])
theorem eQ0 (e:o6)(f:A1)(t:Int):(evs e t f).map kp=cM3++bp6 (pul f):=by
 unfold evs
 rw[List.map_map]
 rcases bj4 f with h|h|h<;>(unfold ea5;rw[h];rfl)
def dY0 (begin:Int):List B6->Int->Bool
 |[],_=>true
 |x::r,last=>decide (last<dst begin x.H2)&&dY0 begin r (dst begin x.H2)
def kpP (a b:Int):List (Int×Int)->Int->Int->Bool
 |[],_,_=>true
 |x::r,p,k=>(x.1==k)&&decide (p<=x.2)&&kpP a b r x.2 (a+b-k)
def kpR (c:Nat):List (Int×Int)->Nat->Bool
 |[],_=>true
 |x::r,i=>(onK x.1==(i%2==0))&&(x.2==(if c=0 then 0 else((i/2+1:Nat):Int)))&&kpR c r (i+1)
theorem cf8 (begin a b:Int):∀(l:List B6) (i last p k:Int),(k=a\/k=b)->(0<=a/\a<=10)->(0<=b/\b<=10)->
  ((dY0 begin (l.filter fun x=>x.Kind==a||x.Kind==b) last&&kpP a b ((l.filter fun x=>x.Kind==a||x.Kind==b).map kp) p k)=true/\∃s,L9 (V4 (a,b)) (l.map (plJ begin)) i (last,p,k)=some (.inl s))\/
  ((dY0 begin (l.filter fun x=>x.Kind==a||x.Kind==b) last&&kpP a b ((l.filter fun x=>x.Kind==a||x.Kind==b).map kp) p k)=false/\L9 (V4 (a,b)) (l.map (plJ begin)) i (last,p,k)=some (.inr ([],false)))
 |[],i,last,p,k,_,_,_=>.inl ⟨rfl,_,rfl⟩
 |x::l,i,last,p,k,hk,ha,hb=>by
  have ih:=fun i last p k hk=>cf8 begin a b l i last p k hk ha hb
  simp only[cS3,L9]
  have ew:o4 (o4 (a+b)-k)=a+b-k:=by
   rw[j6 (n:=a+b) (by omega) (by omega),j6 (by omega) (by omega)]
  cases hm:(x.Kind==a||x.Kind==b)
  ·rw[fa6 (by simp[hm])]
   have h1:((x.Kind !=a)&&(x.Kind !=b))=true:=by
    rw[bZ2]at hm;simp only[bne,hm.1,hm.2];rfl
   have hst:V4 (a,b) i (plJ begin x) (last,p,k)=some (.next (last,p,k)):=by
    unfold V4 plJ
    simp only[h1,fj8]
   rw[hst]
   exact ih (i+1) last p k hk
  ·rw[dQ1 (by simp[hm])]
   have h1:((x.Kind !=a)&&(x.Kind !=b))=false:=by
    cases e1:x.Kind==a
    ·rw[e1]at hm;simp only[dQ6]at hm;simp[bne,hm]
    ·simp[bne,e1]
   have hst:V4 (a,b) i (plJ begin x) (last,p,k)=some (bif (((x.Kind !=k)||(decide (dst begin x.H2<=last)))||(decide (x.ai8<p)))then(.ret ([],false))else(.next (dst begin x.H2,x.ai8,a+b-k))):=by
    unfold V4 plJ
    simp only[h1,fj6,ew]
    exact da4 ..
   rw[hst]
   have hq:(((x.Kind !=k)||(decide (dst begin x.H2<=last)))||(decide (x.ai8<p)))= !(decide (last<dst begin x.H2)&&((x.Kind==k)&&decide (p<=x.ai8))):=by
    rw[show decide (dst begin x.H2<=last)= !decide (last<dst begin x.H2) by rw[<-decide_not];exact decide_eq_decide.2 (by omega),show decide (x.ai8<p)= !decide (p<=x.ai8) by rw[<-decide_not];exact decide_eq_decide.2 (by omega)]
    unfold bne
    cases x.Kind==k<;>cases decide (last<dst begin x.H2)<;>cases decide (p<=x.ai8)<;>rfl
   rw[hq]
   simp only[dY0,cS3,kpP,kp]
   cases hz:(decide (last<dst begin x.H2)&&((x.Kind==k)&&decide (p<=x.ai8)))
   ·right
    refine⟨?_,by simp only[cI0,fj8,aH3]⟩
    cases h3:decide (last<dst begin x.H2)
    ·rfl
    ·rw[h3,cI4]at hz
     rw[hz];simp
   ·simp only[aP9,fj6,aH3]
    simp only[aJ5]at hz
    rw[hz.1,hz.2.1,hz.2.2]
    exact ih (i+1) (dst begin x.H2) x.ai8 (a+b-k) (by omega)
theorem eE1:∀{l:List (Int×Int)},l.Perm cM3->kpP 1 2 l 0 1=kpR 0 l 0:=by
 intro l h
 have hm:∀x∈l,x∈cM3:=fun x hx=>h.mem_iff.1 hx
 have hl:=h.length_eq
 match l,hl with
 |[a,b],_=>
  have ha:=hm a (by simp)
  have hb:=hm b (by simp)
  revert h
  have key:∀a∈cM3,∀b∈cM3,kpP 1 2 [a,b] 0 1=kpR 0 [a,b] 0:=by decide
  exact fun _=>key a ha b hb
theorem ep1 (n:Int)(hn:n=0\/n=1\/n=2):∀{l:List (Int×Int)},l.Perm (bp6 n)->kpP 3 4 l 0 3=kpR 1 l 0:=by
 intro l h
 have hm:∀x∈l,x∈bp6 n:=fun x hx=>h.mem_iff.1 hx
 have hl:=h.length_eq
 rcases hn with rfl|rfl|rfl
 ·have:l=[]:=List.eq_nil_of_length_eq_zero (by rw[hl];rfl)
  subst this;rfl
 ·match l,hl with
  |[a,b],_=>
   have ha:=hm a (by simp)
   have hb:=hm b (by simp)
   have key:∀a∈bp6 1,∀b∈bp6 1,kpP 3 4 [a,b] 0 3=kpR 1 [a,b] 0:=by decide
   exact key a ha b hb
 ·match l,hl with
  |[a,b,c,d],_=>
   have ha:=hm a (by simp)
   have hb:=hm b (by simp)
   have hc:=hm c (by simp)
   have hd:=hm d (by simp)
   have key:∀a∈bp6 2,∀b∈bp6 2,∀c∈bp6 2,∀d∈bp6 2,[a,b,c,d].isPerm (bp6 2)=true->kpP 3 4 [a,b,c,d] 0 3=kpR 1 [a,b,c,d] 0:=by decide
   exact key a ha b hb c hc d hd (List.isPerm_iff.2 h)
def beg (e:o6)(c:Int):Int:=(cen e c+5760)%46080
theorem dN6 (e:o6)(c:Int):cb6 (beg e c)=true:=by unfold beg;exact bs6.2 (by omega)
theorem ei3 (e:o6)(c:Int):ep0 (o4 (cen e c+5760)) 46080=beg e c:=by
 have:=da7 e c
 rw[j6 (by omega) (by omega),dp1 (by omega)];rfl
def isC (x:B6):Bool:=x.Kind==1||x.Kind==2
def isV (x:B6):Bool:=x.Kind==3||x.Kind==4
def dD7 (begin:Int)(W:List B6):Bool:=(dY0 begin (W.filter isC) (-1)&&kpP 1 2 ((W.filter isC).map kp) 0 1)&&(dY0 begin (W.filter isV) (-1)&&kpP 3 4 ((W.filter isV).map kp) 0 3)
def dC3 (e:o6)(f:A1)(begin t:Int):List B6:=bif (bg1 e [f] t).2 !=0 then []else bif dD7 begin (dm7 begin (bg1 e [f] t).1)then dm7 begin (bg1 e [f] t).1 else []
theorem dn2 {e:o6}{f:A1}{t:Int}(he:aB5 e)(hf:bf2 e f)(h:((bg1 e [f] t).2 !=0)=false):(bg1 e [f] t).1.Perm (evs e t f):=by
 unfold bg1 at h|-
 rw[fk0 he]at h|-
 simp only[aP9,fj6]at h|-
 cases h1:dV5 e [f]<;>rw[h1]at h
 ·simp only[fj6]at h|-
  cases h2:!ew9 t<;>rw[h2]at h
  ·simp only[fj6]at h|-
   cases h3:eB5 [f]<;>rw[h3]at h
   ·simp only[fj6]at h|-
    cases h4:[f].any (dl7 t)<;>rw[h4]at h
    ·simp only[fj6]
     have:=ev3 ([f].flatMap (evs e t))
     simpa using this
    ·simp at h
   ·simp at h
  ·simp at h
 ·simp at h
theorem cR8 (begin:Int)(hb:cb6 begin=true):∀(l:List B6) (i:Int) (out:List a7),(∀x∈l,Ev.evP x)->out.length+l.length<=1000->L9 (aj4 begin) l i out=some (.inl (out++l.map (plJ begin)))
 |[],i,out,_,_=>by simp[L9]
 |x::l,i,out,h,hl=>by
  rw[bq0]at hl
  have hx:=h x (bx8 ..)
  have hst:aj4 begin i x out=some (.next (out++[plJ begin x])):=by
   unfold aj4
   rw[dk1 hb (bs6.2 hx.1)]
   simp only[aH3]
   rw[H7 _ _ (by simp only[bq0,cr1];omega)]
   rfl
  simp only[L9,hst,aH3]
  rw[cR8 begin hb l (i+1) _ (fun y hy=>h y (bF8 _ hy)) (by simp only[aY1,bq0,cr1];omega)]
  simp
theorem eO3 (begin:Int)(W:List B6)(hW:W.length<=1000):L5 (T2 (W.map (plJ begin))) 0=some (bif dD7 begin W then .inl 2 else .inr ([],false)):=by
 have hl:(W.map (plJ begin)).length<=1000:=by rw[cr4];exact hW
 have k0:=cf8 begin 1 2 W 0 (-1) 0 1 (.inl rfl) (by omega) (by omega)
 have k1:=cf8 begin 3 4 W 0 (-1) 0 3 (.inl rfl) (by omega) (by omega)
 have f0:(fun x:B6=>x.Kind==1||x.Kind==2)=isC:=rfl
 have f1:(fun x:B6=>x.Kind==3||x.Kind==4)=isV:=rfl
 rw[f0]at k0
 rw[f1]at k1
 unfold dD7
 rcases k0 with⟨a,s,b⟩|⟨a,b⟩
 ·rw[a]
  have st0:T2 (W.map (plJ begin)) 0=some (.inl 1):=by
   unfold T2
   rw[show D4 ([(1,2),(3,4)]:List (Int×Int)) 0=some (1,2)from rfl]
   simp only[show decide ((0:Int)<2)=true from rfl,fj8,aH3]
   rw[K8 _ (by omega),b]
   rfl
  rw[G9 st0]
  rcases k1 with⟨c,s',d⟩|⟨c,d⟩
  ·rw[c]
   have st1:T2 (W.map (plJ begin)) 1=some (.inl 2):=by
    unfold T2
    rw[show D4 ([(1,2),(3,4)]:List (Int×Int)) 1=some (3,4)from rfl]
    simp only[show decide ((1:Int)<2)=true from rfl,fj8,aH3]
    rw[K8 _ (by omega),d]
    rfl
   rw[G9 st1]
   exact E0 rfl
  ·rw[c]
   refine E0 ?_
   unfold T2
   rw[show D4 ([(1,2),(3,4)]:List (Int×Int)) 1=some (3,4)from rfl]
   simp only[show decide ((1:Int)<2)=true from rfl,fj8,aH3]
   rw[K8 _ (by omega),d]
   rfl
 ·rw[a]
  refine E0 ?_
  unfold T2
  rw[show D4 ([(1,2),(3,4)]:List (Int×Int)) 0=some (1,2)from rfl]
  simp only[show decide ((0:Int)<2)=true from rfl,fj8,aH3]
  rw[K8 _ (by omega),b]
  rfl
theorem ev2 {e:o6}{f:A1}{begin t:Int}(he:aB5 e)(hf:bf2 e f)(hb:cb6 begin=true):∃b,ar1 e f begin t=some ((dC3 e f begin t).map (plJ begin),b)/\(b=false->dC3 e f begin t=[]):=by
 unfold ar1 dC3
 rw[eG2 e [f] t (by simp)]
 simp only[aH3]
 cases h:(bg1 e [f] t).2 !=0
 ·have hp:=dn2 he hf h
  have hlen:=hp.length_eq
  have h6:=cH0 e t f
  have hQ:∀x∈(bg1 e [f] t).1,Ev.evP x:=fun x hx=>(dH0 he hf x (hp.mem_iff.1 hx)).1
  have hwl:=(cw4 begin (bg1 e [f] t).1).length_eq
  simp only[fj6]
  rw[K8 _ (by omega),cR8 begin hb _ 0 [] hQ (by simp only[cr1];omega)]
  simp only[aH3,cL8]
  rw[es1 begin _ (by omega) hQ]
  simp only[aH3]
  rw[eO3 begin _ (by omega)]
  cases dD7 begin (dm7 begin (bg1 e [f] t).1)
  ·exact⟨false,rfl,fun _=>rfl⟩
  ·exact⟨true,rfl,fun h=>by cases h⟩
 ·exact⟨false,rfl,fun _=>rfl⟩
theorem em4 {W:List B6}{cyl:Int}(h:∀x∈W,Ev.evP x/\x.u0=cyl):(W.filter fun x=>chn x==2*(cyl-1))=W.filter isC/\(W.filter fun x=>chn x==2*(cyl-1)+1)=W.filter isV:=by
 constructor
 ·refine List.filter_congr fun x hx=>?_
  obtain⟨hk,hc⟩:=h x hx
  unfold chn isC
  rw[hc]
  have:=hk.2.1
  by_cases h3:x.Kind=3\/x.Kind=4
  ·rw[if_pos h3,dC6];simp;omega
  ·rw[if_neg h3,dC6];simp;omega
 ·refine List.filter_congr fun x hx=>?_
  obtain⟨hk,hc⟩:=h x hx
  unfold chn isV
  rw[hc]
  have:=hk.2.1
  by_cases h3:x.Kind=3\/x.Kind=4
  ·rw[if_pos h3,dC6];simp;omega
  ·rw[if_neg h3,dC6];simp;omega
theorem dY6 {e:o6}{f:A1}{t:Int}{W:List B6}(hp:W.Perm (evs e t f)):((W.filter isC).map kp).Perm cM3/\((W.filter isV).map kp).Perm (bp6 (pul f)):=by
 have hm:(W.map kp).Perm (cM3++bp6 (pul f)):=by rw[<-eQ0 e f t];exact hp.map kp
 have c1:(W.filter isC).map kp=(W.map kp).filter eK0:=by rw[fg2];rfl
 have c2:(W.filter isV).map kp=(W.map kp).filter ey0:=by rw[fg2];rfl
 rw[c1,c2]
 constructor
 ·refine(hm.filter eK0).trans ?_
  rcases bj4 f with h|h|h<;>(rw[h];exact List.Perm.refl _)
 ·refine(hm.filter ey0).trans ?_
  rcases bj4 f with h|h|h<;>(rw[h];exact List.Perm.refl _)
def dB6 (c:D3):Int:=upV (23040*c.F9) c.aa4
theorem ex0 {c:D3}(h:bB8 c)(hv:c.V7=true)(hb:bw9 c=true):aF0 c 23040=some (dB6 c,0):=by
 have h1:=h.p0;have h2:=h.p1;have h3:=h.s0;have h4:=h.s1
 unfold aF0 aK7
 rw[dF9,hb,hv]
 simp only[aH3,aP9,fj6]
 rw[show((0:Int) !=0)=false from rfl,show((decide ((23040:Int)<0))||(decide ((23040:Int)>46080)))=false from rfl]
 simp only[fj6]
 rw[j6 (by omega) (by omega)]
 unfold bl8 am7
 rw[bX2 _ _ 2 (by omega) (by omega) (by omega) (by omega) (.inr rfl)]
 rfl
theorem bF7 {e:o6}{l:List A1}(h:aT3 e l=true):∀f∈l,bf2 e f:=by
 intro f hf
 obtain⟨i,hi,rfl⟩:=cY8.1 hf
 have:=cb3.1 h i hi
 unfold cy5 at this
 rw[aK2 hi]at this
 simp only[aJ5,fk4]at this
 exact this.1
theorem cy6 {e:o6}{l:List A1}(h:aT3 e l=true):l.Pairwise fun a b=>a.u0≠b.u0:=by
 rw[List.pairwise_iff_getElem]
 intro i j hi hj hij
 have:=cb3.1 h j hj
 unfold cy5 at this
 rw[aK2 hj]at this
 simp only[aJ5,bO4,ds5,beq_iff_eq]at this
 refine this.2 l[i] ?_
 rw[List.mem_take_iff_getElem]
 exact⟨i,by omega,rfl⟩
theorem filter_none {c:Int}:∀{l:List A1},(∀y∈l,y.u0≠c)->(l.filter fun f=>f.u0==c)=[]:=by
 intro l h
 rw[eq3]
 intro y hy
 simpa using h y hy
theorem cl9 (c:Int):∀{l:List A1},(l.Pairwise fun a b=>a.u0≠b.u0)->(l.findIdx? (fun f=>f.u0==c)=none/\(l.filter fun f=>f.u0==c)=[])\/∃k f,l.findIdx? (fun f=>f.u0==c)=some k/\k<l.length/\l[k]? =some f/\f.u0=c/\(l.filter fun f=>f.u0==c)=[f]
 |[],_=>.inl ⟨rfl,rfl⟩
 |x::l,h=>by
  rw[List.pairwise_cons]at h
  rw[fj0]
  cases hx:x.u0==c
  ·rw[fa6 (by simp[hx])]
   simp only[do9,if_false]
   rcases cl9 c h.2 with⟨a,b⟩|⟨k,f,a,b,d,e,g⟩
   ·exact .inl ⟨by rw[a];rfl,b⟩
   ·exact .inr ⟨k+1,f,by rw[a];rfl,by simpa using b,by simpa using d,e,g⟩
  ·rw[dQ1 (by simp[hx])]
   simp only[if_true]
   have hxc:x.u0=c:=beq_iff_eq.1 hx
   exact .inr ⟨0,x,rfl,by simp,rfl,hxc,by rw[filter_none fun y hy=>by rw[<-hxc];exact(h.1 y hy).symm]⟩
theorem em5 (l:List A1)(hl:l.length<=1000000)(c:Int):H5 l (fun x0=>Y0 x0 c)=some (match l.findIdx? (fun f=>f.u0==c)with|some k=>(k:Int)|none=>-1):=by
 unfold H5 N8
 rw[bc8 l (by omega) (fun(i:Int) x (_:Unit)=>ai5 (Y0 x c) fun v=>bif v then(some (Fl.ret i))else(some (Fl.next ())))]
 have:=bJ0 (fun x=>Y0 x c) (fun f:A1=>f.u0==c) l 0 (fun _ _=>rfl)
 rw[show((0:Nat):Int)=0 from rfl]at this
 rw[this]
 cases l.findIdx? (fun f=>f.u0==c)with
 |none=>rfl
 |some k=>simp
def shJ (v begin:Int)(x:B6):A3:=⟨x,v+dst begin x.H2,false,0⟩
def dE2 (e:o6)(v t:Int)(f:A1):List A3:=(dC3 e f (beg e f.u0) t).map (shJ v (beg e f.u0))
def bO6 (e:o6)(k:D3)(next:List A1)(t x:Int):List A3:=
 bif decide (dst k.H2 (beg e x)>=k.aj7)then []else(next.filter fun f=>f.u0==x).flatMap (dE2 e (dst k.H2 (beg e x)) t)
theorem cq7 {e:o6}{f:A1}{begin t:Int}(he:aB5 e)(hf:bf2 e f):(dC3 e f begin t).length<=6/\∀x∈dC3 e f begin t,Ev.evP x/\x.u0=f.u0:=by
 unfold dC3
 cases h:(bg1 e [f] t).2 !=0
 ·have hp:=dn2 he hf h
  have hop:=(cw4 begin (bg1 e [f] t).1).trans hp
  have h6:=cH0 e t f
  simp only[fj6]
  cases dD7 begin (dm7 begin (bg1 e [f] t).1)
  ·simp
  ·refine⟨by rw[fj8,hop.length_eq];exact h6,fun x hx=>dH0 (t:=t) he hf x (hop.mem_iff.1 hx)⟩
 ·simp
theorem cJ4 (v begin:Int)(hv:0<=v/\v<=46080):∀(W:List B6) (i:Int) (out:List A3),out.length+W.length<=100000->L9 (ag4 v) (W.map (plJ begin)) i out=some (.inl (out++W.map (shJ v begin)))
 |[],i,out,_=>by simp[L9]
 |x::W,i,out,hl=>by
  rw[bq0]at hl
  have hd:0<=dst begin x.H2/\dst begin x.H2<46080:=by unfold dst;omega
  have hst:ag4 v i (plJ begin x) out=some (.next (out++[shJ v begin x])):=by
   unfold ag4 plJ
   simp only
   rw[H7 _ _ (by simp only[bq0,cr1];omega),j6 (by omega) (by omega)]
   rfl
  simp only[cS3,L9,hst,aH3]
  rw[cJ4 v begin hv W (i+1) _ (by simp only[aY1,bq0,cr1];omega)]
  simp
theorem dE9 {s:c8}{r2:Int×Int}(he:aB5 s.p6)(hk:bB8 s.B1)(hw:aT3 s.p6 s.Next=true)(hn:s.Next.length<=1000000)(i x:Int)(hx:x∈s.p6.u6)(out:List A3)(ho:out.length<=10000):
  ag3 s r2 i x out=some (.next (out++bO6 s.p6 s.B1 s.Next r2.1 x)):=by
 have ha:cb6 s.B1.H2=true:=bs6.2 ⟨hk.an0,hk.an1⟩
 unfold ag3
 rw[dU0,fk0 he,fk0 hx]
 simp only[aP9,fj6,aH3,ei3]
 rw[dk1 ha (dN6 ..),em5 _ hn]
 simp only[aH3]
 unfold bO6
 cases hv:decide (dst s.B1.H2 (beg s.p6 x)>=s.B1.aj7)
 ·have hd:0<=dst s.B1.H2 (beg s.p6 x)/\dst s.B1.H2 (beg s.p6 x)<=46080:=by unfold dst;omega
  rcases cl9 x (cy6 hw)with⟨a,b⟩|⟨k,f,a,b,d,e,g⟩
  ·rw[a,b]
   simp
  ·have hf:=bF7 hw f (cY9 d)
   obtain⟨ok,p1,p2⟩:=ev2 (t:=r2.1) he hf (dN6 s.p6 x)
   have hwl:=cq7 (begin:=beg s.p6 x) (t:=r2.1) he hf
   rw[a,g]
   simp only[dQ6,show decide (((k:Nat):Int)<0)=false from fk3 (by omega),fj6,T5,d,aH3]
   rw[p1]
   simp only[aH3,ez4,fj4,cV6]
   unfold dE2
   rw[e]
   cases ok
   ·rw[p2 rfl];simp
   ·simp only[aP9,fj6]
    rw[K8 _ (by rw[cr4];omega),cJ4 _ _ hd _ _ _ (by omega)]
    rfl
 ·simp
theorem da2 {s:c8}{r2:Int×Int}(he:aB5 s.p6)(hk:bB8 s.B1)(hw:aT3 s.p6 s.Next=true)(hn:s.Next.length<=1000000):∀(l:List Int) (i:Int) (out:List A3),(∀x∈l,x∈s.p6.u6)->out.length+6*l.length<=10000->
  L9 (ag3 s r2) l i out=some (.inl (out++l.flatMap (bO6 s.p6 s.B1 s.Next r2.1)))
 |[],i,out,_,_=>by simp[L9]
 |x::l,i,out,h,ho=>by
  rw[bq0]at ho
  have hx:=h x (bx8 ..)
  have hal:(bO6 s.p6 s.B1 s.Next r2.1 x).length<=6:=by
   unfold bO6
   cases decide (dst s.B1.H2 (beg s.p6 x)>=s.B1.aj7)
   ·rcases cl9 x (cy6 hw)with⟨a,b⟩|⟨k,f,a,b,d,e,g⟩
    ·rw[b];simp
    ·have hf:=bF7 hw f (cY9 d)
     rw[g]
     simp only[fj6,ez4,fj4,cV6]
     unfold dE2
     rw[cr4]
     exact(cq7 he hf).1
   ·simp
  simp only[L9,dE9 he hk hw hn i x hx out (by omega),aH3]
  rw[da2 he hk hw hn l (i+1) _ (fun y hy=>h y (bF8 _ hy)) (by rw[aY1];omega)]
  rw[ez4,dd3]
theorem bC1 {s:c8}(he:aB5 s.p6)(hk:bB8 s.B1)(hv:s.B1.V7=true)(hb:bw9 s.B1=true)(hw:aT3 s.p6 s.Next=true)(hn:s.Next.length<=1000000)(hj:s.D1.length<=1000):
  ah3 s=some ⟨s.p6,s.B1,s.j4,s.Next,s.D1++s.p6.u6.flatMap (bO6 s.p6 s.B1 s.Next (dB6 s.B1)),s.Cut⟩:=by
 have hn8:=he.2.1
 unfold ah3
 rw[ex0 hk hv hb]
 simp only[aH3]
 rw[K8 _ (by omega),da2 he hk hw hn _ 0 _ (fun _ h=>h) (by omega)]
 rfl
theorem dp8 {e:o6}{k:D3}{l:List A1}{t x:Int}(he:aB5 e)(hw:aT3 e l=true):(bO6 e k l t x).length<=6:=by
 unfold bO6
 cases decide (dst k.H2 (beg e x)>=k.aj7)
 ·rcases cl9 x (cy6 hw)with⟨a,b⟩|⟨k,f,a,b,d,e,g⟩
  ·rw[b];simp
  ·have hf:=bF7 hw f (cY9 d)
   rw[g]
   simp only[fj6,ez4,fj4,cV6]
   unfold dE2
   rw[cr4]
   exact(cq7 he hf).1
 ·simp
def aS6 (d:Int)(j:A3):A3:=⟨j.Event,G7 (-1048576) (j.Left-d),j.D9,j.At⟩
theorem cC0 (d:Int)(hd:0<=d/\d<=46080):∀(r p:List A3),(∀j∈r,-1048576<=j.Left/\j.Left<=1048576)->
  aX2 (aa1 d) r.length (p.length:Int) (p++r)=some (.inl (p++r.map (aS6 d)))
 |[],p,_=>rfl
 |j::r,p,h=>by
  have hj:=h j (bx8 ..)
  have hst:aa1 d (p.length:Int) (p++j::r)=some (.next (p++aS6 d j::r)):=by
   unfold aa1
   rw[dP2]
   simp only[aH3]
   rw[j6 (n:=j.Left-d) (by omega) (by omega),eu1]
   rfl
  simp only[bq0,aX2,hst,aH3]
  have:=cC0 d hd r (p++[aS6 d j]) (fun k hk=>h k (bF8 _ hk))
  rw[dd3,aY1]at this
  rw[show((p.length:Int)+1)=((p.length+[aS6 d j].length:Nat):Int) by simp]
  rw[show p++aS6 d j::r=p++([aS6 d j]++r)from rfl,this]
  simp
theorem cb4 {w:List A3}(hw:alt w false=true):∀{l:List A3}{lv:Bool},alt l lv=true->alt (l++w) lv=true
 |[],lv,h=>by
  have:lv=false:=by simpa[alt]using h
  subst this;exact hw
 |j::l,lv,h=>by
  simp only[alt,aJ5]at h
  simp only[dC8,alt,aJ5]
  exact⟨h.1,cb4 hw h.2⟩
theorem dK2 {w l:List A3}{x:j7}(hw:alt w false=true)(h:aE4 l x=true):aE4 (l++w) x=true:=by
 cases l with
 |nil=>
  simp only[aE4,aJ5,bO4]at h
  cases w with
  |nil=>simp[aE4,h.1,h.2]
  |cons j r=>
   simp only[alt,aJ5,bO4]at hw
   simp only[cL8,aE4,h.1,h.2,hw.1.1,hw.1.2,hw.2]
   rfl
 |cons j r=>
  simp only[aE4,aJ5]at h
  simp only[dC8,aE4,aJ5]
  exact⟨h.1,cb4 hw h.2⟩
theorem dl5 (c:Nat)(v begin:Int):∀(F:List B6) (i:Nat),kpR c (F.map kp) i=true->(i+F.length)%2=0->alt (F.map (shJ v begin)) (i%2==1)=true
 |[],i,_,h=>by
  have:(i%2==1)=false:=beq_eq_false_iff_ne.2 (by simp at h;omega)
  rw[this];rfl
 |x::F,i,h,hp=>by
  simp only[cS3,kpR,aJ5]at h
  simp only[bq0]at hp
  have ih:=dl5 c v begin F (i+1) h.2 (by omega)
  have e:(!(i%2==1))=((i+1)%2==1):=by
   rcases Nat.mod_two_eq_zero_or_one i with h2|h2
   ·rw[h2,show(i+1)%2=1 by omega];rfl
   ·rw[h2,show(i+1)%2=0 by omega];rfl
  have h1:=h.1.1
  simp only[cS3,alt]
  rw[e,ih]
  have e2:(i%2==0)= !(i%2==1):=by
   rcases Nat.mod_two_eq_zero_or_one i with h2|h2<;>rw[h2]<;>rfl
  rw[e2]at h1
  have hk:(kp x).1=x.Kind:=rfl
  rw[hk]at h1
  unfold shJ
  simp only
  revert h1
  cases onK x.Kind<;>cases(i%2==1)<;>simp
theorem eE8 (v begin:Int)(W:List B6)(c:Int):ae0 (W.map (shJ v begin)) c=(W.filter fun x=>chn x==c).map (shJ v begin):=by
 unfold ae0
 rw[fg2]
 rfl
theorem dH1 {W:List B6}{cyl c:Int}(h:∀x∈W,Ev.evP x/\x.u0=cyl)(h0:c≠2*(cyl-1))(h1:c≠2*(cyl-1)+1):(W.filter fun x=>chn x==c)=[]:=by
 rw[eq3]
 intro x hx
 obtain⟨_,hc⟩:=h x hx
 unfold chn
 rw[hc]
 split<;>simp<;>omega
theorem ef7 {e:o6}{f:A1}{v t:Int}(he:aB5 e)(hf:bf2 e f)(c:Int):alt (ae0 (dE2 e v t f) c) false=true:=by
 unfold dE2 dC3
 cases h:(bg1 e [f] t).2 !=0
 ·have hp:=dn2 he hf h
  have hop:=(cw4 (beg e f.u0) (bg1 e [f] t).1).trans hp
  simp only[fj6]
  cases ha:dD7 (beg e f.u0) (dm7 (beg e f.u0) (bg1 e [f] t).1)
  ·rfl
  ·simp only[fj8]
   generalize hW:dm7 (beg e f.u0) (bg1 e [f] t).1=W at ha hop
   have hE:∀x∈W,Ev.evP x/\x.u0=f.u0:=fun x hx=>dH0 (t:=t) he hf x (hop.mem_iff.1 hx)
   have hk:=dY6 hop
   have fl:=em4 hE
   unfold dD7 at ha
   rw[eE1 hk.1,ep1 (pul f) (bj4 f) hk.2]at ha
   simp only[aJ5]at ha
   rw[eE8]
   by_cases h0:c=2*(f.u0-1)
   ·subst h0
    rw[fl.1]
    have l2:=hk.1.length_eq
    rw[cr4]at l2
    exact dl5 0 v _ _ 0 ha.1.2 (by rw[l2];rfl)
   ·by_cases h1:c=2*(f.u0-1)+1
    ·subst h1
     rw[fl.2]
     have l2:=hk.2.length_eq
     rw[cr4]at l2
     refine dl5 1 v _ _ 0 ha.2.2 ?_
     rw[l2]
     rcases bj4 f with h|h|h<;>(rw[h];rfl)
    ·rw[dH1 hE h0 h1];rfl
 ·rfl
theorem cO2 {α:Type}(g:α->List A3)(c:Int):∀(l:List α),(∀x∈l,alt (ae0 (g x) c) false=true)->alt (ae0 (l.flatMap g) c) false=true
 |[],_=>rfl
 |x::l,h=>by
  rw[ez4,aS1]
  exact cb4 (cO2 g c l fun y hy=>h y (bF8 _ hy)) (h x (bx8 ..))
theorem ef8 {e:o6}{k:D3}{l:List A1}{t x:Int}(he:aB5 e)(hw:aT3 e l=true)(c:Int):alt (ae0 (bO6 e k l t x) c) false=true:=by
 unfold bO6
 cases decide (dst k.H2 (beg e x)>=k.aj7)
 ·exact cO2 _ c _ fun f hf=>ef7 he (bF7 hw f (dK5.1 hf).1) c
 ·rfl
theorem ef9 {e:o6}{k:D3}{l:List A1}{t x:Int}(he:aB5 e)(hw:aT3 e l=true):∀j∈bO6 e k l t x,aN5 e.u6.length j:=by
 intro j hj
 unfold bO6 at hj
 cases hv:decide (dst k.H2 (beg e x)>=k.aj7)<;>rw[hv]at hj
 ·simp only[fj6,List.mem_flatMap]at hj
  obtain⟨f,hf,hj⟩:=hj
  have hff:=bF7 hw f (dK5.1 hf).1
  unfold dE2 at hj
  obtain⟨y,hy,rfl⟩:=cX4.1 hj
  obtain⟨h1,h2⟩:=(cq7 he hff).2 y hy
  have hc:=dO6 he hff.1
  refine⟨by unfold shJ;simp only;rw[h2];exact hc,h1.2.1,h1.1,h1.2.2.2,?_,.inr rfl⟩
  unfold shJ dst;simp only;omega
 ·simp at hj
theorem cZ9 (d:Int):∀(l:List A3) (lv:Bool),alt (l.map (aS6 d)) lv=alt l lv
 |[],_=>rfl
 |j::l,lv=>by
  simp only[cS3,alt,cZ9 d l]
  rfl
theorem ec1 (d:Int)(l:List A3)(x:j7):aE4 (l.map (aS6 d)) x=aE4 l x:=by
 cases l with
 |nil=>rfl
 |cons j r=>simp only[cS3,aE4,cZ9 d r];rfl
theorem dW4 (d now:Int)(l:List A3):bA4 now (l.map (aS6 d))=bA4 now l:=by
 match l with
 |[]=>rfl
 |[j]=>rfl
 |i::j::r=>rfl
theorem cQ2 (d:Int)(l:List A3)(c:Int):ae0 (l.map (aS6 d)) c=(ae0 l c).map (aS6 d):=by
 unfold ae0
 rw[fg2]
 rfl
theorem dY5 {n:Nat}{d:Int}{j:A3}(hd:0<=d/\d<=46080)(h:aN5 n j):aN5 n (aS6 d j):=by
 have hl:=h.left
 refine⟨h.cyl,h.kind,h.eg5,h.bT4,?_,h.at0⟩
 unfold aS6 G7
 simp only
 split<;>omega
theorem dK9 {n:Nat}{now d:Int}{ch:List j7}{l:List A3}(hd:0<=d/\d<=46080)(h:Rows n now (ch,l)):Rows n now (ch,l.map (aS6 d)):=by
 refine⟨h.len,h.ch,fun j hj=>?_,fun c hc=>?_⟩
 ·obtain⟨k,hk,rfl⟩:=cX4.1 hj
  exact dY5 hd (h.job k hk)
 ·have:=h.row c hc
  simp only at this|-
  rw[cQ2,ec1];exact this
theorem dZ8 {n:Nat}{now:Int}{ch:List j7}{l w:List A3}(h:Rows n now (ch,l))(hj:∀j∈w,aN5 n j)(hw:∀c,alt (ae0 w c) false=true):Rows n now (ch,l++w):=by
 refine⟨h.len,h.ch,fun j hj2=>?_,fun c hc=>?_⟩
 ·rcases cI5.1 hj2 with h2|h2
  ·exact h.job j h2
  ·exact hj j h2
 ·have:=h.row c hc
  simp only at this|-
  rw[aS1]
  exact dK2 (hw _) this
def cq8:c8:=⟨(⟨([]:List Int),0⟩:o6),(⟨false,0,0,0,0,0⟩:D3),(⟨0,([]:List j7)⟩:w9),([]:List A1),([]:List A3),false⟩
def aY5 (s:c8)(c:D3)(l:List A3):List A3:=bif s.B1.V7 then l.map (aS6 (dst s.B1.H2 c.H2))else l
def mk (s:c8)(c:D3)(l:List A3):c8:=⟨s.p6,c,s.j4,s.Next,l,s.Cut⟩
def bp2 (s:c8)(c:D3)(g:c8):List A3:=aY5 s c g.D1++g.p6.u6.flatMap (bO6 g.p6 c g.Next (dB6 c))
def cV0 (s:c8)(c:D3)(g:List j8×c8):c8×List j8×Int:=
 bif g.2.Cut then(mk g.2 c (aY5 s c g.2.D1),g.1,0)else bif decide (((bp2 s c g.2).length:Int)>200)then(cq8,[],5)else(bq1 (mk g.2 c (bp2 s c g.2)),g.1,0)
def aK1 (s:c8)(c:D3):c8×List j8×Int:=
 bif !cg5 s|| !bw9 c then(cq8,[],1)else bif !c.V7 then(cq8,[],6)else bif decide (c.At<s.j4.Q7)then(cq8,[],16)else cV0 s c (goE c.At s)
theorem eA9 {s:c8}(h:aE9 s)(hv:s.B1.V7=true):cb6 s.B1.H2=true:=bs6.2 ⟨(db4 h.clk hv).an0,(db4 h.clk hv).an1⟩
theorem dc8 {e:o6}{k:D3}{next:List A1}{t:Int}(he:aB5 e)(hw:aT3 e next=true):∀l:List Int,(l.flatMap (bO6 e k next t)).length<=6*l.length
 |[]=>by simp
 |x::l=>by
  have:=dc8 (k:=k) (t:=t) he hw l
  have:=dp8 (k:=k) (t:=t) (x:=x) he hw
  rw[ez4,aY1,bq0];omega
theorem cm5 (s:c8)(c:D3)(l:List A3):(aY5 s c l).length=l.length:=by
 unfold aY5;cases s.B1.V7<;>simp
structure bo1 (s:c8)(c:D3)(g:List j8×c8):Prop where
 live:Live s.p6.u6.length g.2
 eng:g.2.p6=s.p6
 clk:g.2.B1=s.B1
 next:g.2.Next=s.Next
 cut:g.2.Cut=s.Cut
 now:g.2.j4.Q7=c.At
 eo3:g.2.D1.length<=200
theorem gone {s:c8}{c:D3}(h:aE9 s)(hc:bB8 c)(hle:s.j4.Q7<=c.At):ab2 s c.At=some (goE c.At s)/\bo1 s c (goE c.At s):=by
 obtain⟨h1,h2,h3,h4,h5,h6⟩:=cH3 (.of h) c.At hle hc.at1
 have:=h.most
 exact⟨h1,h2,h3.eng,h3.clk,h3.next,h3.cut,h4,by omega⟩
theorem de4 {s:c8}{c:D3}{g:List j8×c8}(h:bo1 s c g):Rows s.p6.u6.length g.2.j4.Q7 (g.2.j4.j1,aY5 s c g.2.D1):=by
 unfold aY5
 cases s.B1.V7
 ·exact h.live.rows
 ·exact dK9 (by unfold dst;omega) h.live.rows
theorem ek9 {s:c8}{c:D3}{g:List j8×c8}(h:bo1 s c g)(hc:bB8 c)(hv:c.V7=true)(aK5:g.2.Cut=true):Live s.p6.u6.length (mk g.2 c (aY5 s c g.2.D1)):=by
 refine⟨h.live.eng,h.live.n1,h.live.n8,de4 h,fun _ ch hch=>?_,h.live.cF3,h.live.dm5,.inr ⟨hv,hc⟩,?_⟩
 ·show bA4 g.2.j4.Q7 (ae0 (aY5 s c g.2.D1) (ch:Int))=true
  have:=h.live.cut aK5 ch hch
  unfold aY5
  cases s.B1.V7
  ·exact this
  ·simp only[fj8]
   rw[cQ2,dW4];exact this
 ·show(aY5 s c g.2.D1).length<=1000
  rw[cm5];have:=h.eo3;omega
theorem dw7 {s:c8}{c:D3}{g:List j8×c8}(h:bo1 s c g)(hs:aE9 s)(hc:bB8 c)(hv:c.V7=true)(aK5:g.2.Cut=false):Live s.p6.u6.length (mk g.2 c (bp2 s c g.2)):=by
 have he:aB5 g.2.p6:=by rw[h.eng];exact hs.eng
 have hw:aT3 g.2.p6 g.2.Next=true:=by rw[h.eng,h.next];exact hs.cy4
 have hn:g.2.p6.u6.length=s.p6.u6.length:=by rw[h.eng]
 have hn8:=he.2.1
 have h6:=dc8 (k:=c) (t:=dB6 c) he hw g.2.p6.u6
 have hl:=cm5 s c g.2.D1
 have hjb:=h.eo3
 refine⟨h.live.eng,h.live.n1,h.live.n8,?_,fun hcc=>?_,h.live.cF3,h.live.dm5,.inr ⟨hv,hc⟩,?_⟩
 ·refine dZ8 (de4 h) (fun j hj=>?_) fun ch=>cO2 _ ch _ fun x _=>ef8 he hw ch
  obtain⟨x,_,hx⟩:=List.mem_flatMap.1 hj
  rw[<-hn]
  exact ef9 he hw j hx
 ·have:g.2.Cut=true:=hcc
  rw[aK5]at this;cases this
 ·show(bp2 s c g.2).length<=1000
  unfold bp2
  rw[aY1];omega
theorem cT4 {s:c8}(h:Live s.p6.u6.length s)(he:aB5 s.p6)(hb:bw9 s.B1=true)(hv:s.B1.V7=true)(hw:aT3 s.p6 s.Next=true)(hm:s.D1.length<=200):aE9 s:=by
 refine⟨he,hb,h.tim,h.len,hw,hm,fun h2=>absurd (hv.symm.trans h2) (by decide),h.rows.job,fun c hc=>?_⟩
 have h1:=h.rows.row c hc
 simp only at h1
 unfold bz4
 rw[h1]
 cases aK5:s.Cut
 ·rfl
 ·rw[h.cut aK5 c hc];rfl
theorem ex3 {s:c8}{c:D3}(h0:(aK1 s c).2.2=0):aE9 (aK1 s c).1:=by
 unfold aK1 at h0|-
 cases h1:!cg5 s|| !bw9 c<;>rw[h1]at h0
 ·simp only[fj6]at h0|-
  cases h2:!c.V7<;>rw[h2]at h0
  ·simp only[fj6]at h0|-
   cases h3:decide (c.At<s.j4.Q7)<;>rw[h3]at h0
   ·simp only[fj6]at h0|-
    simp only[bZ2,dT6]at h1
    have hv:c.V7=true:=by simpa using h2
    have hs:=aY9.1 h1.1
    have hc:=db4 h1.2 hv
    have hle:s.j4.Q7<=c.At:=by simpa using h3
    obtain⟨_,hg⟩:=gone hs hc hle
    unfold cV0 at h0|-
    cases aK5:(goE c.At s).2.Cut<;>rw[aK5]at h0
    ·simp only[fj6]at h0|-
     cases h4:decide (((bp2 s c (goE c.At s).2).length:Int)>200)<;>rw[h4]at h0
     ·simp only[fj6]
      have hl:=dq8 (dw7 hg hs hc hv aK5)
      have ha:=bW1 (mk (goE c.At s).2 c (bp2 s c (goE c.At s).2))
      have e1:(bq1 (mk (goE c.At s).2 c (bp2 s c (goE c.At s).2))).p6=s.p6:=ha.eng.trans hg.eng
      have e2:(bq1 (mk (goE c.At s).2 c (bp2 s c (goE c.At s).2))).B1=c:=ha.clk
      have e3:(bq1 (mk (goE c.At s).2 c (bp2 s c (goE c.At s).2))).Next=s.Next:=ha.next.trans hg.next
      refine cT4 (by rw[e1];exact hl) (by rw[e1];exact hs.eng) (by rw[e2];exact h1.2) (by rw[e2];exact hv) (by rw[e1,e3];exact hs.cy4) ?_
      have hcf:(mk (goE c.At s).2 c (bp2 s c (goE c.At s).2)).Cut=false:=aK5
      unfold bq1
      rw[hcf]
      simp only[do9,if_false]
      show(bH0 _ _ _ _).2.length<=200
      rw[bC0]
      have:(bp2 s c (goE c.At s).2).length<=200:=by
       have:=of_decide_eq_false h4;omega
      exact this
     ·simp at h0
    ·simp only[fj8]
     have hl:=ek9 hg hc hv aK5
     refine cT4 (by show Live (goE c.At s).2.p6.u6.length _;rw[hg.eng];exact hl) (by show aB5 (goE c.At s).2.p6;rw[hg.eng];exact hs.eng) h1.2 hv (by show aT3 (goE c.At s).2.p6 (goE c.At s).2.Next=true;rw[hg.eng,hg.next];exact hs.cy4) ?_
     show(aY5 s c (goE c.At s).2.D1).length<=200
     rw[cm5];exact hg.eo3
   ·simp at h0
  ·simp at h0
 ·simp at h0
theorem dL8 (s:c8)(c:D3)(hn:s.Next.length<=1000000)(hj:s.D1.length<=1000000):
  (ai5 (J9 s) fun v=>(bif (!v)then(some true)else(ai5 (ai9 c) fun v2=>some (!v2))))=some (!cg5 s|| !bw9 c):=by
 rw[bd0 s hn hj,dF9]
 cases cg5 s<;>rfl
theorem eZ2 {α β γ:Type}(x:Option α)(f:α->Option β)(g:β->Option γ):(ai5 x fun v=>ai5 (f v) g)=ai5 (ai5 x f) g:=by cases x<;>rfl
theorem ed0 (s:c8)(c:D3)(hn:s.Next.length<=1000000)(hj:s.D1.length<=1000000):al6 s c=some (aK1 s c):=by
 unfold al6 aK1
 rw[eZ2,dL8 s c hn hj]
 simp only[aH3]
 cases h1:!cg5 s|| !bw9 c
 ·simp only[fj6]
  cases h2:!c.V7
  ·simp only[fj6]
   cases h3:decide (c.At<s.j4.Q7)
   ·simp only[fj6]
    simp only[bZ2,dT6]at h1
    have hv:c.V7=true:=by simpa using h2
    have hs:=aY9.1 h1.1
    have hc:=db4 h1.2 hv
    have hle:s.j4.Q7<=c.At:=by simpa using h3
    obtain⟨hgo,hg⟩:=gone hs hc hle
    rw[bD5 s hn hj]
    simp only[aH3]
    rw[hgo]
    simp only[aH3]
    unfold cV0
    generalize goE c.At s=g at hg
    have hcb:cb6 c.H2=true:=bs6.2 ⟨hc.an0,hc.an1⟩
    have hleft:(bif s.B1.V7 then(ai5 (Q8 s.B1.H2 c.H2) fun v4=>ai5 (K9 (g.2.D1.length:Int) (aa1 v4) g.2.D1) fun(t:(List A3)⊕Empty)=>match t with| .inl f3=>(some f3)| .inr r=>r.elim)else(some g.2.D1))=some (aY5 s c g.2.D1):=by
     unfold aY5
     cases hsv:s.B1.V7
     ·rfl
     ·have hjb:=hg.eo3
      have:=cC0 (dst s.B1.H2 c.H2) (by unfold dst;omega) g.2.D1 [] (fun j hj=>(hg.live.rows.job j hj).left)
      simp only[fj8]
      rw[dk1 (eA9 hs hsv) hcb]
      simp only[aH3]
      rw[al5 _ (by omega)]
      rw[show((([]:List A3).length:Nat):Int)=0 from rfl,cL8,cL8]at this
      rw[this]
      rfl
    erw [hleft]
    simp only[aH3]
    cases aK5:g.2.Cut
    ·simp only[cI0,fj8,fj6]
     have hl:=cm5 s c g.2.D1
     have hjb:=hg.eo3
     have hb:=bC1 (s:=mk g.2 c (aY5 s c g.2.D1)) (by show aB5 g.2.p6;rw[hg.eng];exact hs.eng) hc hv h1.2 (by show aT3 g.2.p6 g.2.Next=true;rw[hg.eng,hg.next];exact hs.cy4) (by show g.2.Next.length<=1000000;rw[hg.next];exact hn) (by show(aY5 s c g.2.D1).length<=1000;omega)
     have hb':ah3 (⟨(⟨g.2.p6.u6,g.2.p6.as0⟩:o6),c,(⟨g.2.j4.Q7,g.2.j4.j1⟩:w9),g.2.Next,aY5 s c g.2.D1,false⟩:c8)=some (mk g.2 c (bp2 s c g.2)):=by
      have e:(⟨(⟨g.2.p6.u6,g.2.p6.as0⟩:o6),c,(⟨g.2.j4.Q7,g.2.j4.j1⟩:w9),g.2.Next,aY5 s c g.2.D1,false⟩:c8)=mk g.2 c (aY5 s c g.2.D1):=by unfold mk;rw[aK5]
      rw[e,hb];rfl
     rw[hb']
     simp only[aH3]
     have hll:=dw7 hg hs hc hv aK5
     have ha:=dS3 hll.rows (.inr hc) hll.cF3 hll.dm5 hll.n1 hll.n8 (by have:=hll.most;omega)
     show(bif decide (((bp2 s c g.2).length:Int)>200)then _ else _)=_
     cases decide (((bp2 s c g.2).length:Int)>200)
     ·simp only[fj6]
      rw[ha];rfl
     ·rfl
    ·simp only[aP9,fj8,fj6]
     unfold mk
     rw[aK5]
   ·rfl
  ·rfl
 ·rfl
def z0:j7:=⟨false,0,false,false⟩
def k0:D3:=⟨false,0,0,0,0,0⟩
def bE5 (e:o6):c8:=⟨e,k0,⟨0,cr2 (2*e.u6.length) z0⟩,[],[],false⟩
theorem dS6 (e:o6):ao9 e=some (bif decide (aB5 e)then(bE5 e,0)else(cq8,1)):=by
 unfold ao9
 rw[Ev.ao1]
 cases hd:decide (aB5 e)
 ·rfl
 ·have he:=of_decide_eq_true hd
  have h1:=he.1;have h2:=he.2.1
  simp only[aH3,aP9,fj6]
  rw[j6 (n:=2*(e.u6.length:Int)) (by omega) (by omega),show 2*(e.u6.length:Int)=((2*e.u6.length:Nat):Int) by omega,Tm.eS8 _ (by omega) (by omega)]
  simp only[aH3]
  unfold O2 bc2
  rw[H7 _ _ (by simp;omega)]
  rfl
def ey4 (s:c8)(l:List A1):c8:=⟨s.p6,s.B1,s.j4,l,s.D1,s.Cut⟩
theorem ew2 (s:c8)(l:List A1)(hn:s.Next.length<=1000000)(hj:s.D1.length<=1000000)(hl:l.length<=1000000):aq8 s l=some (bif cg5 s&&aT3 s.p6 l then(ey4 s l,0)else(cq8,1)):=by
 unfold aq8
 rw[bd0 s hn hj]
 cases hd:cg5 s
 ·rfl
 ·have hs:=aY9.1 hd
  simp only[aH3,aP9,fj6]
  rw[dh6 _ _ hs.eng hl]
  cases aT3 s.p6 l
  ·rfl
  ·simp only[aH3,aP9,fj6]
   rw[bD5 s hn hj]
   simp only[aH3]
   unfold T7
   rw[H7 _ _ (by simp;omega)]
   rfl
def e1:o6:=⟨[1],0⟩
def f1:A1:=⟨1,640,2000,0,0,0,0⟩
def c1:D3:=⟨true,1000,5760,1000,384,384⟩
def c2:D3:=⟨true,2000,44544,1000,384,384⟩
def xa:B6:=⟨45440,2,1,0⟩
def xb:B6:=⟨44672,1,1,0⟩
def s1:c8:=ey4 (bE5 e1) [f1]
def g1:c8:=put s1 1000 (s1.j4.j1,[])
def s2:c8:=bq1 (mk g1 c1 [shJ 0 5760 xb,shJ 0 5760 xa])
def g2:c8:=put s2 2000 (s2.j4.j1,s2.D1)
def s3:c8:=bq1 (mk g2 c2 [aS6 38784 (shJ 0 5760 xb),aS6 38784 (shJ 0 5760 xa)])
theorem dm2 {e:o6}(h:aB5 e):aE9 (bE5 e):=by
 have h1:=h.1;have h2:=h.2.1
 have hl:Live e.u6.length (bE5 e):=by
  refine⟨rfl,h1,h2,⟨by simp[bE5],fun x hx=>?_,fun j hj=>by simp[bE5]at hj,fun c hc=>?_⟩,fun hc=>by simp[bE5]at hc,by simp[bE5],by simp[bE5],.inl ⟨rfl,rfl⟩,by simp[bE5]⟩
  ·have:x=z0:=by simp only[bE5]at hx;exact eX5 hx
   subst this
   show Tm.chB 0 z0=true
   decide
  ·have:(bE5 e).j4.j1[c]=z0:=by simp only[bE5,eR1]
   simp only
   rw[this];rfl
 refine⟨h,rfl,hl.tim,hl.len,rfl,by simp[bE5],fun _=>rfl,hl.rows.job,fun c hc=>?_⟩
 have hr:=hl.rows.row c hc
 simp only at hr
 unfold bz4
 rw[hr];rfl
theorem dU6 (l:List j7)(hl:l.length<=1000000)(f:j7->Option Bool)(hf:∀x,f x=some x.E3):G4 l f=some (l.any fun x=>x.E3):=by
 unfold G4 R3 V1
 exact ai0 l (by omega) f (fun x=>x.E3) (fun y _=>hf y)
def er0 (s:c8):c8:=⟨s.p6,s.B1,s.j4,s.Next,s.D1,false⟩
theorem dL1 (s:c8)(hn:s.Next.length<=1000000)(hj:s.D1.length<=1000000)(hc:s.j4.j1.length<=1000000):ac4 s=some (bif !cg5 s then(cq8,1)else bif !s.Cut||s.j4.j1.any fun x=>x.E3 then(cq8,6)else(er0 s,0)):=by
 unfold ac4
 rw[bd0 s hn hj]
 cases cg5 s
 ·rfl
 ·simp only[aH3,aP9,fj6]
  cases aK5:s.Cut
  ·rfl
  ·rw[dU6 _ hc ag2 (fun _=>rfl)]
   simp only[aH3,aP9,fj6,dQ6]
   cases s.j4.j1.any fun x=>x.E3
   ·simp only[fj6]
    rw[bD5 s hn hj]
    rfl
   ·rfl
theorem eF8 {s:c8}(h:aE9 s):aE9 (er0 s):=
 ⟨h.eng,h.clk,h.tim,h.chs,h.cy4,h.most,h.none,h.job,fun c hc=>by
  have:=h.line c hc
  unfold bz4 at this|-
  simp only[aJ5]at this|-
  refine⟨this.1,?_⟩
  simp[er0]⟩
theorem eJ1 {s:c8}(h:aE9 s){l:List A1}(hl:aT3 s.p6 l=true):aE9 (ey4 s l):=
 ⟨h.eng,h.clk,h.tim,h.chs,hl,h.most,h.none,h.job,fun c hc=>h.line c hc⟩
end Go.Pv.Sc
namespace Go.Proofs.YtmhdghdbojdgfaaGreat.Ec
open Go Go.Pv Go.Pv.Ec Go.Proofs
structure Sch (s t:c8):Prop where
 ok:Sc.aE9 t
 few:t.Next.length<=8
 eng:t.p6=s.p6
 now:t.j4.Q7=s.j4.Q7
theorem fb8 (o:ao4):(bR5 o).m=some o:=rfl
theorem eR9 (n:ao4)(e:Int)(o:ao4):(bi5 n e o).m=some (bif e !=0 then o else n):=by
 simp only[bi5,C.of,M.run]
 cases e !=0<;>rfl
end Go.Proofs.YtmhdghdbojdgfaaGreat.Ec
namespace Go.Pv.Sc
open Go Go.Pv Go.Pv.Ev
theorem dS2 {s:c8}(hs:aE9 s)(hn:s.Next.length<=1000000)(to:Int)(h1:s.j4.Q7<=to)(h2:to<=1099511627776):T1 s to=some ((goE to s).2,(goE to s).1,0):=by
 have hm:=hs.most
 unfold T1
 rw[bd0 s hn (by omega),aY9.2 hs]
 simp only[aH3,aP9,fj6]
 rw[fk3 (show¬to<s.j4.Q7 by omega),fk3 (show¬to>1099511627776 by omega)]
 simp only[fj6]
 rw[bD5 s hn (by omega)]
 simp only[aH3]
 rw[(cH3 (.of hs) to h1 h2).1]
 rfl
theorem bG6 {s:c8}(hs:aE9 s)(to:Int)(h1:s.j4.Q7<=to)(h2:to<=1099511627776):aE9 (goE to s).2/\(goE to s).2.p6=s.p6/\(goE to s).2.Next=s.Next/\(goE to s).2.j4.Q7=to:=by
 obtain⟨_,hl,ha,bx2,hj,_⟩:=cH3 (.of hs) to h1 h2
 refine⟨⟨by rw[ha.eng];exact hs.eng,by rw[ha.clk];exact hs.clk,hl.tim,by rw[ha.eng];exact hl.len,by rw[ha.eng,ha.next];exact hs.cy4,by have:=hs.most;omega,fun hv=>?_,by rw[ha.eng];exact hl.rows.job,fun c hc=>?_⟩,ha.eng,ha.next,bx2⟩
 ·rw[ha.clk]at hv
  have:=hs.none hv
  rw[this]at hj
  exact List.length_eq_zero_iff.1 (by simpa using hj)
 ·have hr:=hl.rows.row c hc
  simp only at hr
  unfold bz4
  rw[hr]
  cases aK5:(goE to s).2.Cut
  ·simp
  ·rw[hl.cut aK5 c hc];simp
theorem dk7 {s:c8}(hs:aE9 s)(to:Int)(h1:s.j4.Q7<=to):(goE to s).1.length<=3200:=by
 have hm:=hs.most
 obtain⟨_,_,_,_,_,_,r7,_⟩:=dH4 to s.D1.length s [] (.of hs) (cq9 _) (by simp;omega) h1
 have:(goE to s).1=(goV to s.D1.length ([],s)).1:=rfl
 rw[this]
 simp only[cr1]at r7
 omega
end Go.Pv.Sc
namespace Go.Proofs.YtmhdghdbojdgfaaGreat.Ec
open Go Go.Pv Go.Pv.Ec Go.Proofs
structure bo1 (T:Int)(s t:c8):Prop where
 ok:Sc.aE9 t
 few:t.Next.length<=8
 eng:t.p6=s.p6
 low:s.j4.Q7<=t.j4.Q7
 now:t.j4.Q7<=T
theorem er6:(cw6).m=some ⟨false,0,0,false⟩:=rfl
theorem eg4 (t:Int):(av1 t).m=some (decide (t>=0)&&decide (t<=1099511627776)):=rfl
theorem ey3 (n:Int):∃a e,(bV7 w0 n).m=some (a,e):=by
 simp only[bV7,C.of,M.run,bY2,bF6,cy3,aH3,aP9,fj6,bg]
 cases(bif decide (n<0)then true else decide (n>=58))<;>exact⟨_,_,rfl⟩
end Go.Proofs.YtmhdghdbojdgfaaGreat.Ec
namespace Go.Pv.Sc
open Go Go.Pv Go.Pv.Ev
theorem dB9 {s:c8}(hs:aE9 s)(c:D3):(aK1 s c).2.1.length<=3200/\((aK1 s c).2.2=0->(aK1 s c).1.p6=s.p6/\(aK1 s c).1.Next=s.Next/\(aK1 s c).1.j4.Q7=c.At/\s.j4.Q7<=c.At):=by
 unfold aK1
 cases h1:(!cg5 s|| !bw9 c)
 ·cases h2:!c.V7
  ·cases h3:decide (c.At<s.j4.Q7)
   ·have h4:=of_decide_eq_false h3
    have hc:bw9 c=true:=by
     cases h:bw9 c
     ·rw[h]at h1;simp at h1
     ·rfl
    have hv:c.V7=true:=by simpa using h2
    have hm:=(db4 hc hv)
    have h5:c.At<=1099511627776:=by
     have:=hc
     unfold bw9 at this
     rw[hv]at this
     simp only[aP9,fj6,aJ5,fk4]at this
     omega
    obtain⟨_,_,ha,bx2,_⟩:=cH3 (.of hs) c.At (by omega) h5
    have hf:=dk7 hs c.At (by omega)
    simp only[fj6,cV0]
    cases(goE c.At s).2.Cut
    ·cases decide (((bp2 s c (goE c.At s).2).length:Int)>200)
     ·refine⟨hf,fun _=>?_⟩
      have k:=bW1 (mk (goE c.At s).2 c (bp2 s c (goE c.At s).2))
      refine⟨k.eng.trans ha.eng,k.next.trans ha.next,?_,by omega⟩
      show(bq1 _).j4.Q7=c.At
      unfold bq1
      split<;>exact bx2
     ·exact⟨by simp,fun h=>by cases h⟩
    ·exact⟨hf,fun _=>⟨ha.eng,ha.next,bx2,by omega⟩⟩
   ·exact⟨by simp,fun h=>by cases h⟩
  ·exact⟨by simp,fun h=>by cases h⟩
 ·exact⟨by simp,fun h=>by cases h⟩
end Go.Pv.Sc
namespace Go.Proofs.YtmhdghdbojdgfaaGreat.Ec
open Go Go.Pv Go.Pv.Ec Go.Proofs
theorem bo1.trans {T:Int}{s t u:c8}(h:bo1 T s t)(k:bo1 T t u):bo1 T s u:=⟨k.ok,k.few,k.eng.trans h.eng,fg7 h.low k.low,k.now⟩
theorem bo1.self {T:Int}{s t:c8}(h:bo1 T s t):bo1 T t t:=⟨h.ok,h.few,rfl,do8 _,h.now⟩
theorem eK6 (o:aa8):(bu0 o).m=some o:=rfl
theorem eo5 (n:aa8)(e:Int)(o:aa8):(aT8 n e o).m=some (bif e !=0 then o else n):=by
 simp only[aT8,C.of,M.run]
 cases e !=0<;>rfl
theorem eK9 (o:Y9):(bA7 o).m=some o:=rfl
theorem eo9 (n:Y9)(e:Int)(o:Y9):(ba0 n e o).m=some (bif e !=0 then o else n):=by
 simp only[ba0,C.of,M.run]
 cases e !=0<;>rfl
theorem fb6 (o:X8):(bM3 o).m=some o:=rfl
theorem eR7 (n:X8)(e:Int)(o:X8):(be9 n e o).m=some (bif e !=0 then o else n):=by
 simp only[be9,C.of,M.run]
 cases e !=0<;>rfl
theorem enz {e:Int}(h:¬e=0):(e !=0)=true:=by simpa using h
theorem ed2 {y:Y9}(h:syB y=true):0<=y.F9/\y.F9<=1099511627776:=by
 unfold syB at h
 split at h
 ·simp only[aJ5,beq_iff_eq]at h;omega
 ·split at h
  ·split at h
   ·simp only[aJ5,beq_iff_eq,aH0]at h;omega
   ·simp only[aJ5,fk4,aH0]at h;omega
  ·split at h
   ·simp only[aJ5,fk4,aH0]at h;omega
   ·cases h
structure Tee (T:Int)(s:j9):Prop where
 t0:0<=T
 sch:bo1 T s.u.j3 s.u.j3
 sy:syB s.u.Q2=true/\s.u.Q2.H0<=T
 ph:phB s.u.M7=true
 tf:tfB s.u.H8=true/\s.u.H8.H0<=T
abbrev upS (s:j9)(c:c8)(y:Y9)(p:aa8)(f:X8)(w:List j8):j9:={s with u:={s.u with j3:=c,Q2:=y,M7:=p,H8:=f},y9:=w}
theorem dh3 {s:j9}(hp:phB s.u.M7=true)(x:Int)(l:List Int)(hl:l.length<=100000):
  ∃p,(ba3 s (x::l)).m=some (upS s s.u.j3 s.u.Q2 p s.u.H8 s.y9,l)/\phB p=true:=by
 obtain⟨r,e,e1,h1⟩:=eT5 s.u.M7
 have hr:phB (bif e !=0 then s.u.M7 else r)=true:=by
  by_cases he:e=0
  ·subst he;exact h1 rfl
  ·rw[enz he];exact hp
 have h2:ay4 (x::l) 1 ((x::l).length:Int)=some l:=by
  unfold ay4
  rw[if_pos (by simp only[bq0];omega)]
  simp
 simp only[ba3,CG.of,M.run,U1.m,eK6,eo5,cl7,e1,h2,aH3]
 exact⟨_,rfl,hr⟩
theorem db8 (a:Int):∀(l:List Int) (s:j9),phB s.u.M7=true->l.length<=100000->
  ∃l' p,L5 (fun x=>(aU5 a x).run) (l,s)=some (.inl (l',upS s s.u.j3 s.u.Q2 p s.u.H8 s.y9))/\phB p=true/\l'.length<=l.length
 |[],s,hp,_=>⟨[],s.u.M7,E0 rfl,hp,by simp⟩
 |x::l,s,hp,hl=>by
  by_cases hx:x<=a
  ·obtain⟨p,e1,h1⟩:=dh3 hp x l (by simp only[bq0]at hl;omega)
   obtain⟨l',p',e2,h2,h3⟩:=db8 a l (upS s s.u.j3 s.u.Q2 p s.u.H8 s.y9) h1 (by simp only[bq0]at hl;omega)
   refine⟨l',p',?_,h2,by simp only[bq0];omega⟩
   rw[G9 (s':=(l,upS s s.u.j3 s.u.Q2 p s.u.H8 s.y9)) ?_]
   ·exact e2
   ·simp only[aU5,M.run,L1.m]
    rw[fk0 (show(((x::l).length:Nat):Int)>0 by simp only[bq0];omega)]
    rw[show D4 (x::l) 0=some x from rfl]
    simp only[fj8,aH3,fk0 hx]
    rw[e1]
    rfl
  ·refine⟨x::l,s.u.M7,E0 ?_,hp,cq9 _⟩
   simp only[aU5,M.run,L1.m]
   rw[fk0 (show(((x::l).length:Nat):Int)>0 by simp only[bq0];omega)]
   rw[show D4 (x::l) 0=some x from rfl]
   simp only[fj8,aH3,fk3 hx]
   rfl
theorem db7:∀(l:List Int) (s:j9),phB s.u.M7=true->l.length<=100000->
  ∃p,L5 (fun x=>(bi7 x).run) (l,s)=some (.inl ([],upS s s.u.j3 s.u.Q2 p s.u.H8 s.y9))/\phB p=true
 |[],s,hp,_=>⟨s.u.M7,E0 rfl,hp⟩
 |x::l,s,hp,hl=>by
  obtain⟨p,e1,h1⟩:=dh3 hp x l (by simp only[bq0]at hl;omega)
  obtain⟨p',e2,h2⟩:=db7 l (upS s s.u.j3 s.u.Q2 p s.u.H8 s.y9) h1 (by simp only[bq0]at hl;omega)
  refine⟨p',?_,h2⟩
  rw[G9 (s':=(l,upS s s.u.j3 s.u.Q2 p s.u.H8 s.y9)) ?_]
  ·exact e2
  ·simp only[bi7,M.run]
   rw[fk0 (show(((x::l).length:Nat):Int)>0 by simp only[bq0];omega)]
   simp only[fj8]
   rw[e1]
   rfl
theorem ed4 {s:j9}{l:List Int}(hp:bG2 s.u.Y4 s.u.A6)(ht:0<=s.t/\s.t<=1099511627776)(he:Edg (s.u.A6.I8/65536) ((s.u.A6.I8+10000*s.u.A6.D2)/65536) l):
  ∃r,(aw6 s l).m=some r/\r.length<=1000/\∀x∈r,x<=s.t+10000:=by
 have h1:=hp.pos
 have h2:=hp.spd
 have hn:=he.len
 by_cases h0:s.u.A6.D2=0
 ·have h3:l=[]:=by
   cases l with
   |nil=>rfl
   |cons x l=>
    have a:=he.lo x (bx8 ..)
    have b:=he.hi x (bx8 ..)
    rw[h0]at b
    simp only[Int.mul_zero,Int.add_zero]at b
    omega
  subst h3
  simp only[aw6,CG.of,M.run]
  obtain⟨r,h3,h4⟩:=au4 ([]:List Int) (by simp) (fun i x (o:List Int)=>(aF4 s i x o).run) (fun _ o=>o=[]) [] rfl (fun k x o hx _=>by simp at hx)
  rw[h3]
  subst h4
  exact⟨[],rfl,by simp,by simp⟩
 ·obtain⟨r,e1,e2,e3⟩:=dh1 s l (by omega) (by omega) h1 ht (fun x hx=>by have:=he.hi x hx;omega) (fun x hx=>by have:=he.lo x hx;omega)
  exact⟨r,e1,by omega,e3⟩
structure Tst (T:Int)(s0:j9)(n:Nat)(c:c8)(y:Y9)(p:aa8)(f:X8)(w:List j8):Prop where
 sch:bo1 T s0.u.j3 c
 sy:syB y=true/\y.H0<=T
 ph:phB p=true
 tf:tfB f=true/\f.H0<=T
 few:w.length<=s0.y9.length+n
theorem eC8 (l:List j8)(hl:l.length<=1000000)(f:j8->Option Bool)(p:j8->Bool)(h:∀y∈l,f y=some (p y)):Pv.ac6 l f=some (match l.findIdx? p with|some k=>(k:Int)|none=>-1):=by
 unfold Pv.ac6 Pv.az8
 rw[bc8 l (by omega) (fun(i:Int) x (_:Unit)=>ai5 (f x) fun v=>bif v then(some (Fl.ret i))else(some (Fl.next ())))]
 have:=Sc.bJ0 f p l 0 h
 rw[show((0:Nat):Int)=0 from rfl]at this
 rw[this]
 cases l.findIdx? p with
 |none=>rfl
 |some k=>simp
theorem eP2 (l:List j8)(hl:l.length<=1000000)(f:j8->Option Bool)(p:j8->Bool)(h:∀y∈l,f y=some (p y)):Pv.N7 l f=some (l.filter fun y=>!p y):=by
 unfold Pv.N7
 rw[eC8 l hl f p h]
 cases hf:l.findIdx? p with
 |none=>simp only[aH3];rw[Sc.dc7 hf];rfl
 |some v=>
  obtain⟨hv,htk⟩:=Sc.cv1 hf
  simp only[aH3]
  have e0:((v:Int)== -1)=false:=beq_eq_false_iff_ne.2 (by omega)
  rw[e0,j6 (n:=(v:Int)+1) (by omega) (by omega)]
  simp only[fj6]
  obtain⟨t,k1,k2⟩:=cv9 (mb:=Pv.al7 f)
   (fun j st=>∃i:Nat,st.1=(i:Int)/\st.2.1=((v+1+j:Nat):Int)/\i<v+1+j/\i=((l.take (v+1+j)).filter fun y=>!p y).length/\st.2.2.length=l.length/\st.2.2.take i=((l.take (v+1+j)).filter fun y=>!p y)/\st.2.2.drop (v+1+j)=l.drop (v+1+j))
   (fun t=>∃(s:List j8) (i:Nat),t= .inl ((i:Int),(l.length:Int),s)/\s.length=l.length/\i<=l.length/\s.take i=l.filter fun y=>!p y) (l.length-(v+1)) 0 ((v:Int),(v:Int)+1,l)
   ⟨v,rfl,by push_cast;omega,by omega,by rw[dM1,htk,bE9];omega,rfl,by rw[dM1,htk],rfl⟩
   (fun j _ hj st ⟨i,h1,h2,h3,h4,h5,h6,h7⟩=>by
    have hjl:v+1+j<l.length:=by omega
    have cX6:D4 st.2.2 st.2.1=some l[v+1+j]:=by
     rw[h2,T5,<-eC1,h7,eC1,aK2 hjl]
    have hlt:decide (st.2.1<(st.2.2.length:Int))=true:=by rw[h2,h5];simp;omega
    have htk2:l.take (v+1+(j+1))=l.take (v+1+j)++[l[v+1+j]]:=by rw[<-dD0];exact dp0 hjl
    have hdr:∀s:List j8,s.drop (v+1+j)=l.drop (v+1+j)->s.drop (v+1+(j+1))=l.drop (v+1+(j+1)):=fun s hs=>by
     rw[<-dD0,<-ey6,hs,ey6]
    unfold Pv.al7
    rw[hlt,cX6]
    simp only[fj8,aH3,h _ (ba6 hjl)]
    rw[h2,j6 (n:=((v+1+j:Nat):Int)+1) (by omega) (by omega)]
    cases hp:p l[v+1+j]
    ·have hi:i<st.2.2.length:=by omega
     simp only[cI0,fj8]
     rw[h1,C7 _ _ hi]
     simp only[aH3]
     rw[T6 _ _ _ hi,j6 (n:=(i:Int)+1) (by omega) (by omega)]
     have hfl:((l.take (v+1+(j+1))).filter fun y=>!p y)=((l.take (v+1+j)).filter fun y=>!p y)++[l[v+1+j]]:=by
      rw[htk2,cV9];simp[hp]
     refine⟨_,rfl,i+1,by push_cast;rfl,by push_cast;omega,by omega,?_,by simp[h5],?_,?_⟩
     ·rw[hfl,aY1,<-h4];rfl
     ·rw[hfl,<-h6]
      rw[dp0 (by simpa using hi),List.take_set_of_le (cq9 _),dC7]
     ·refine hdr _ ?_
      rw[List.drop_set_of_lt (by omega)];exact h7
    ·simp only[aP9,fj6]
     have hfl:((l.take (v+1+(j+1))).filter fun y=>!p y)=((l.take (v+1+j)).filter fun y=>!p y):=by
      rw[htk2,cV9];simp[hp]
     exact⟨_,rfl,i,h1,by push_cast;omega,by omega,by rw[hfl];exact h4,h5,by rw[hfl];exact h6,hdr _ h7⟩)
   (fun st ⟨i,h1,h2,h3,h4,h5,h6,h7⟩=>by
    have hn:v+1+(0+(l.length-(v+1)))=l.length:=by omega
    rw[hn]at h2 h3 h4 h6
    have hlt:decide (st.2.1<(st.2.2.length:Int))=false:=by rw[h2,h5];simp
    unfold Pv.al7
    rw[hlt]
    simp only[fj6]
    refine⟨_,rfl,st.2.2,i,?_,h5,by omega,by rw[h6,ee6]⟩
    rw[h1,h2])
  obtain⟨s,i,rfl,hs,hi,ht⟩:=k2
  rw[k1]
  simp only[aH3]
  have hc:cl1 (i:Int) (s.length:Int) s.length=some ():=by unfold cl1;rw[if_pos ⟨by omega,by omega,by omega⟩]
  rw[hc]
  simp only[aH3]
  have hsl:ay4 (bI2 s (i:Int) (s.length:Int) (⟨0,0,false⟩:j8)) 0 (i:Int)=some (s.take i):=Sc.cM2 s i _ (by omega)
  rw[hsl,ht]
  rfl
theorem bgi {α β:Type}(c:Bool)(x y:α)(f:α->Option β):ai5 (bif c then some x else some y) f=f (bif c then x else y):=by cases c<;>rfl
theorem eJ6 {α β:Type}{A:Option α}{F:α->Option β}(J:α->Prop){K:β->Prop}(h:∃x,A=some x/\J x)(k:∀x,J x->∃r,F x=some r/\K r):∃r,A.bind F=some r/\K r:=by
 obtain⟨x,rfl,h2⟩:=h
 exact k x h2
theorem eZ1 {β:Type}{c:Bool}{A B:Option β}{K:β->Prop}(h:c=true->∃r,A=some r/\K r)(k:c=false->∃r,B=some r/\K r):∃r,(bif c then A else B)=some r/\K r:=by
 cases c
 ·exact k rfl
 ·exact h rfl
theorem cS5 {S R:Type}(n:Nat)(hn:n<=1000000000)(f:Int->S->Option (Fl S R))(I:Nat->S->Prop)(J:R->Prop)(s:S)(h0:I 0 s)(h:∀k s,k<n->I k s->(∃s',f (k:Int) s=some (.next s')/\I (k+1) s')\/∃u,f (k:Int) s=some (.ret u)/\J u):
  ∃b,L5 (fun p:Int×S=>bif decide (p.1<(n:Int))then((f p.1 p.2).bind (az5 p.1))else some (.inr (.inl p.2))) (0,s)=some b/\((∃s',b= .inl s'/\I n s')\/∃u,b= .inr u/\J u):=by
 exact bu7 (mb:=fun p:Int×S=>bif decide (p.1<(n:Int))then((f p.1 p.2).bind (az5 p.1))else some (.inr (.inl p.2))) (fun x=>∃k:Nat,x.1=(k:Int)/\k<=n/\I k x.2) (fun x=>n-x.1.toNat) (fun b:S⊕R=>(∃s',b= .inl s'/\I n s')\/∃u,b= .inr u/\J u)
  (fun x ⟨k,hk,hkn,hi⟩=>by
   obtain⟨a,u⟩:=x
   simp only at hk hi
   subst hk
   by_cases hlt:k<n
   ·rcases h k u hlt hi with⟨s',h1,h2⟩|⟨v,h1,h2⟩
    ·left
     simp only
     rw[fk0 (show((k:Nat):Int)<(n:Int) by omega),h1]
     refine⟨(((k+1:Nat):Int),s'),?_,⟨k+1,rfl,by omega,h2⟩,by simp only;omega⟩
     simp only[fj8,aH3,az5]
     first|rfl|(rw[j6 (by omega) (by omega)];rfl)
    ·right
     simp only
     rw[fk0 (show((k:Nat):Int)<(n:Int) by omega),h1]
     exact⟨_,rfl,.inr ⟨v,rfl,h2⟩⟩
   ·right
    simp only
    rw[fk3 (show¬((k:Nat):Int)<(n:Int) by omega)]
    have:k=n:=by omega
    subst this
    exact⟨_,rfl,.inl ⟨u,rfl,hi⟩⟩) n (0,s) (by simp) ⟨0,rfl,by omega,h0⟩
theorem dH8 (l:List A1)(hl:l.length<=1000000)(f:Cl Tryz.prog A1 Bool (fun x=>[aP4 x]) (fun r=>.t (tB r)))(p:A1->Bool)(h:∀x,f.f x=some (p x)):∃v,(H5 l f).m=some v/\(0<=v->v<(l.length:Int)):=by
 simp only[H5,C.of,M.run]
 obtain⟨b,e,h1⟩:=cS5 l.length (by omega) (fun i (u:Unit)=>(N8 l f i u).run) (fun _ _=>True) (fun v:Int=>v<(l.length:Int)) () trivial (fun k u hk _=>by
  simp only[N8,M.run,L1.m,Cl.at]
  rw[T5,aK2 hk]
  simp only[aH3,h]
  cases p l[k]
  ·exact .inl ⟨(),rfl,trivial⟩
  ·exact .inr ⟨_,rfl,by omega⟩)
 rw[e]
 rcases h1 with⟨u,rfl,_⟩|⟨v,rfl,h2⟩
 ·exact⟨-1,rfl,fun h=>by omega⟩
 ·exact⟨v,rfl,fun _=>h2⟩
theorem ep7 {t:o8}(h:cd8 t=true)(a:Int):∃r,(aA5 t a 13500).m=some r:=by
 have hd:=(dg8 h).dead
 rw[cK7]
 by_cases ha:0<=a/\a<=1048576
 ·rw[dZ4 hd ha (by omega)]
  exact⟨_,rfl⟩
 ·have hd':=hd
  rw[aJ5]at hd
  obtain⟨h1,h2⟩:=hd
  have hl:=(bm4 h1).yl
  have hx:=(bm4 h1).x.most
  have e:Pv.o7 t.aw2.Y Pv.aF9=some (t.aw2.Y.any fun y=>!inR 0 10000 y):=ap7 _ (by omega) _ _ (fun y _=>rfl)
  have e2:(t.aw2.Y.any fun y=>!inR 0 10000 y)=false:=by
   rw[ds5]
   intro y hy
   rw[bN8.1 h2 y hy];simp
  have e3:Pv.aB7 t a 13500=some (0,2):=by
   unfold Pv.aB7
   rw[ap9,h1,e,e2,cO0]
   have:inR 0 1048576 a=false:=by
    unfold inR
    rw[Bool.eq_false_iff]
    intro h3
    simp only[aJ5,fk4]at h3
    exact ha h3
   rw[this]
   rfl
  unfold Pv.aA5
  rw[e3]
  exact⟨_,rfl⟩
theorem eK8 (o:Y6):(bu1 o).m=some o:=rfl
theorem eo8 (n:Y6)(e:Int)(o:Y6):(aT9 n e o).m=some (bif e !=0 then o else n):=by
 simp only[aT9,C.of,M.run]
 cases e !=0<;>rfl
theorem dQ3 {b:L4}{p q:Y6}{e:Int}(hp:bG2 b p)(h:e=0->bG2 b q):bG2 b (bif e !=0 then p else q):=by
 by_cases he:e=0
 ·subst he;exact h rfl
 ·rw[enz he];exact hp
theorem ep4 (l:List j8):∃b,(bw0 l).m=some b/\(b=true->l.length<=1000):=by
 simp only[bw0,C.of,M.run]
 by_cases h:(l.length:Int)>1000
 ·rw[fk0 h];exact⟨false,rfl,fun h=>by cases h⟩
 ·rw[fk3 h]
  simp only[fj6]
  rcases bK5 l (by omega) (fun i x (s:Int)=>(aZ1 i x s).run) (fun _ _=>True) (fun _=>True) 0 trivial (fun k x s hx _=>by
   simp only[aZ1,M.run,cH9,aH3]
   cases((((!ad6 x.At)||(decide (x.At<s)))||(decide (x.Channel<0)))||(decide (x.Channel>=16)))
   ·exact .inl ⟨_,rfl,trivial⟩
   ·exact .inr ⟨_,rfl,trivial⟩)with⟨s',e,_⟩|⟨u,e,_⟩
  ·rw[e];exact⟨true,rfl,fun _=>by omega⟩
  ·rw[e];exact⟨u,rfl,fun _=>by omega⟩
theorem dW1 (l:List j8)(hl:l.length<=1073741824):(aS7 l).m=some l:=by
 simp only[aS7,CG.of,M.run,U1.m]
 rw[H7 _ _ (by simpa using hl)]
 rfl
structure UOk (u:af3):Prop where
 C4:cd8 u.u9=true
 pl:bG2 u.Y4 u.A6
 sch:Sc.aE9 u.j3
 few:u.j3.Next.length<=8
 now:u.j3.j4.Q7=u.Time
 con:bz1 u.j3.p6 u.u5=true
 tf:tfB u.H8=true/\u.H8.H0<=u.Time
 sy:syB u.Q2=true/\u.Q2.H0<=u.Time
 ph:phB u.M7=true
 gr:grB u.M1=true
 qz:eY1 u.Time u.K3
 sg:sgB u.J1=true/\u.J1.aQ6<=u.Time
 flt:∃c t,(1<=c/\c<=1073741824)/\Fr.Inv cf0 u.I0 c true t
 time:0<=u.Time/\u.Time<=549755813888
 ten:u.Time%10000=0
structure Mid (T:Int)(s:j9):Prop where
 ok:SOk s
 C4:cd8 s.u.u9=true
 pl:bG2 s.u.Y4 s.u.A6
 sch:Sc.aE9 s.u.j3
 few:s.u.j3.Next.length<=8
 now:s.u.j3.j4.Q7=T
 con:bz1 s.u.j3.p6 s.u.u5=true
 tf:tfB s.u.H8=true/\s.u.H8.H0<=T
 sy:syB s.u.Q2=true/\s.u.Q2.H0<=T
 ph:phB s.u.M7=true
 gr:grB s.u.M1=true
 qz:eY1 s.t s.u.K3
 sg:sgB s.u.J1=true/\s.u.J1.aQ6<=s.t
 flt:∃c t,(1<=c/\c<=1073741824)/\Fr.Inv cf0 s.u.I0 c true t
 act:s.Y7.length<=7/\∀x∈s.Y7,x.af0.length<=16
structure DOk (d:N1)(k:List ah5):Prop where
 few:k.length<=100
 val:∀b∈k,-1000000<=b.Value/\b.Value<=1000000
 ped:0<=d.I7/\d.I7<=1000
structure fg8 (r:ae8):Prop where
 sw:r.am6.length<=1000
 act:r.as8.length<=7/\∀x∈r.as8,x.af0.length<=16
theorem eQ5 {f:B7}(hc:Fr.Cfs cf0)(h:∃c t,(1<=c/\c<=1073741824)/\Fr.Inv cf0 f c true t):(Z3 f).m=some true/\f.L.length=7/\f.ax8=true:=by
 obtain⟨c,t,hct,hi⟩:=h
 refine⟨?_,by rw[hi.len,by6],hi.run⟩
 rw[be4]
 exact Fr.bV6 hc hi (by omega) hct.2 (fun _=>hct.1)
theorem eU9 {s:c8}(h:Sc.aE9 s)(hf:s.Next.length<=8):(J9 s).m=some true:=by
 have:=h.most
 rw[au0,Sc.bd0 s (by omega) (by omega),Sc.aY9.2 h]
theorem dh4 {u:af3}(hc:Fr.Cfs cf0)(h:UOk u):(bW5 u).m=some true:=by
 have e1:(ab9 u.u9).m=some true:=by rw[bh6,bi2,h.C4]
 have e2:=dn1 h.pl
 have e3:=eU9 h.sch h.few
 have e4:(ap8 u.j3.p6 u.u5).m=some true:=by rw[bL7,dP4,h.con]
 obtain⟨e5,e6,e7⟩:=eQ5 hc h.flt
 have ht:=h.time
 have hf:=h.tf.2;have hs:=h.sy.2;have hq:=h.qz.2;have hg:=h.sg.2
 simp only[bW5,C.of,M.run,e1,e2,e3,e4,cU9,h.tf.1,cy2,cU7,h.sy.1,cl7,cR7,h.ph,cm0,h.gr,cn9,h.qz.1,cT5,h.sg.1,e5,e6,e7,aH3,aP9,fj6,fj8]
 rw[fk0 (show u.Time>=0 by omega),fk0 ht.2,h.now,dp1 ht.1,h.ten]
 have hm:G7 (G7 (G7 u.H8.H0 u.Q2.H0) u.J1.aQ6) u.K3.ar9<=u.Time:=by
  unfold G7
  split<;>split<;>(try split)<;>omega
 rw[fk0 hm]
 simp
theorem fc9:(cS1 1).m=some (⟨1,0,0,false,false⟩,0):=(cS1 1).le 100 _ (by kernel_rfl)
theorem fe9:(dB0).m=some sy0:=rfl
theorem tf0:(bM6).m=some ⟨false,0,0⟩:=rfl
theorem eU7:(dg3).m=some ⟨false,1,0⟩:=rfl
def eZ3 (x:ah5):Prop:=((0<=x.cW1/\x.cW1<=1099511627776)/\(0<=x.To/\x.To<=1099511627776))/\(0<=x.ba9/\x.ba9<=7)/\(-1000000<=x.Value/\x.Value<=1000000)
theorem dE5 (l:List ah5)(hl:l.length<=1000000)(f:Cl Tryz.prog ah5 Bool (fun x=>[bN9 x]) (fun r=>.t (tB r)))(p:ah5->Bool)(h:∀x∈l,f.f x=some (p x)):(aE0 l f).m=some (l.any p):=by
 simp only[aE0,bc9,aS8,C.of,M.run,L1.m,Cl.at]
 refine Eq.trans ?_ (bJ3 l (by omega) f.f p h)
 kernel_rfl
theorem cL7 {k:List ah5}(h:k.length<=100)(hk:∀x∈k,eZ3 x):(bI6 k).m=some true:=by
 simp only[bI6,C.of,M.run]
 rw[dE5 k (by omega) (.of (fun z_=>cl6 z_) 77 []) _ (fun x _=>rfl)]
 have:(k.any fun b2=>((((((((decide (b2.cW1<0))||(decide (b2.cW1>1099511627776)))||(decide (b2.To<0)))||(decide (b2.To>1099511627776)))||(decide (b2.ba9<0)))||(decide (b2.ba9>7)))||(decide (b2.Value<(-1000000))))||(decide (b2.Value>1000000))))=false:=by
  rw[ds5]
  intro x hx
  obtain⟨⟨h1,h2⟩,h3,h4⟩:=hk x hx
  simp only[cG1,fk4]
  omega
 rw[this,fk0 (show(k.length:Int)<=100 by omega)]
 rfl
def dG4 (d:N1):Prop:=(0<=d.At/\d.At<=1099511627776)/\(0<=d.I7/\d.I7<=1000)/\(0<=d.bl6/\d.bl6<=1000)/\(0<=d.bO1/\d.bO1<=6)/\(-500<=d.bO2/\d.bO2<=2000)
noncomputable abbrev dw9 (d:N1):Int×Int×Int×Int×Int:=(d.At,d.I7,d.bl6,d.bO1,d.bO2)
noncomputable abbrev dy5:I9×I9×I9×I9×I9:=((⟨(ByteArray.mk #[97,116]),0,1099511627776⟩:I9),(⟨(ByteArray.mk #[112,101,100,97,108]),0,1000⟩:I9),(⟨(ByteArray.mk #[98,114,97,107,101]),0,1000⟩:I9),(⟨(ByteArray.mk #[103,101,97,114]),0,6⟩:I9),(⟨(ByteArray.mk #[108,111,97,100]),(-500),2000⟩:I9))
def bx (x a b:Int):Bool:=decide (x<a)||decide (x>b)
theorem eO2 {x a b:Int}:bx x a b=false↔a<=x/\x<=b:=by simp[bx]
theorem dy7 (x a b j:Int):((bif decide (x<a)then some true else some (decide (x>b))).bind fun v5=>bif v5 then some (.inr (.inr false))else some (.inl j))=(some (bif bx x a b then .inr (.inr false)else .inl j):Option (Int⊕(Int⊕Bool))):=by
 unfold bx
 cases decide (x<a)<;>cases decide (x>b)<;>rfl
theorem p0 (d:N1):(aw5 (dw9 d) dy5 0).run=some (bif bx d.At 0 1099511627776 then .inr (.inr false)else .inl 1):=dy7 d.At 0 1099511627776 1
theorem p1 (d:N1):(aw5 (dw9 d) dy5 1).run=some (bif bx d.I7 0 1000 then .inr (.inr false)else .inl 2):=dy7 d.I7 0 1000 2
theorem p2 (d:N1):(aw5 (dw9 d) dy5 2).run=some (bif bx d.bl6 0 1000 then .inr (.inr false)else .inl 3):=dy7 d.bl6 0 1000 3
theorem p3 (d:N1):(aw5 (dw9 d) dy5 3).run=some (bif bx d.bO1 0 6 then .inr (.inr false)else .inl 4):=dy7 d.bO1 0 6 4
theorem p4 (d:N1):(aw5 (dw9 d) dy5 4).run=some (bif bx d.bO2 (-500) 2000 then .inr (.inr false)else .inl 5):=dy7 d.bO2 (-500) 2000 5
theorem p5 (d:N1):(aw5 (dw9 d) dy5 5).run=some (.inr (.inl 5)):=rfl
def el4 (d:N1):Bool:=bx d.At 0 1099511627776||(bx d.I7 0 1000||(bx d.bl6 0 1000||(bx d.bO1 0 6||bx d.bO2 (-500) 2000)))
theorem dt4 {d:N1}:el4 d=false↔dG4 d:=by
 unfold el4 dG4
 simp only[bZ2,eO2]
theorem df4 (d:N1):L5 (fun x=>(aw5 (dw9 d) dy5 x).run) 0=some (bif el4 d then .inr false else .inl 5):=by
 unfold el4
 have q0:=p0 d;have q1:=p1 d;have q2:=p2 d;have q3:=p3 d;have q4:=p4 d
 cases h0:bx d.At 0 1099511627776
 ·rw[h0]at q0
  rw[G9 (s':=1) q0]
  cases h1:bx d.I7 0 1000
  ·rw[h1]at q1
   rw[G9 (s':=2) q1]
   cases h2:bx d.bl6 0 1000
   ·rw[h2]at q2
    rw[G9 (s':=3) q2]
    cases h3:bx d.bO1 0 6
    ·rw[h3]at q3
     rw[G9 (s':=4) q3]
     cases h4:bx d.bO2 (-500) 2000
     ·rw[h4]at q4
      rw[G9 (s':=5) q4]
      exact E0 (p5 d)
     ·rw[h4]at q4
      exact E0 q4
    ·rw[h3]at q3
     exact E0 q3
   ·rw[h2]at q2
    exact E0 q2
  ·rw[h1]at q1
   exact E0 q1
 ·rw[h0]at q0
  exact E0 q0
structure ez6 (l:List N1):Prop where
 pos:1<=l.length
 most:l.length<=200
 first:∀x,l[0]? =some x->x.At=0
 drv:∀x∈l,dG4 x
theorem dx0 (d:N1):(bZ9 d).m=some (dw9 d):=rfl
theorem dy6:(cz7).m=some dy5:=rfl
theorem dG6 (l:List N1)(hl:l.length<=1000000):∃b,(aA2 l).m=some b/\(b=true->ez6 l):=by
 simp only[aA2,C.of,M.run,L1.m]
 by_cases h1:1<=l.length/\l.length<=200
 ·rw[fk3 (show¬(l.length:Int)<1 by omega),fk3 (show¬(l.length:Int)>200 by omega),show D4 l 0=some (l[0]'(by omega))from(T5 l 0).trans (aK2 (by omega))]
  simp only[eM3,fj6,aH3]
  by_cases h2:(l[0]'(by omega)).At=0
  ·rw[show((l[0]'(by omega)).At !=0)=false by rw[h2];rfl]
   simp only[fj6]
   obtain⟨b,e,h⟩:=cS5 l.length (by omega) (fun i (u:Unit)=>(aR2 l i u).run) (fun k _=>∀x∈l.take k,dG4 x) (fun b:Bool=>b=false) () (by simp) (fun k u hk hI=>by
    simp only[aR2,M.run,L1.m]
    rw[T5,aK2 hk]
    simp only[aH3]
    obtain⟨c,hc⟩:∃c,(bif decide ((k:Int)>0)then(D4 l (o4 ((k:Int)-1))).bind fun t=>some (decide (l[k].At<=t.At))else some false)=some c:=by
     by_cases h0:(k:Int)>0
     ·rw[fk0 h0,j6 (by omega) (by omega),show((k:Int)-1)=((k-1:Nat):Int) by omega,T5,aK2 (by omega)]
      exact⟨_,rfl⟩
     ·rw[fk3 h0];exact⟨_,rfl⟩
    rw[hc]
    simp only[aH3]
    cases c
    ·simp only[fj6,dx0,dy6,aH3]
     rw[df4]
     cases hd:el4 l[k]
     ·left
      refine⟨(),rfl,?_⟩
      intro x hx
      rw[dp0 hk,cI5,eM2]at hx
      rcases hx with hx|hx
      ·exact hI x hx
      ·subst hx;exact dt4.1 hd
     ·right;exact⟨false,rfl,rfl⟩
    ·right;exact⟨false,rfl,rfl⟩)
   rw[e]
   rcases h with⟨u,rfl,h⟩|⟨b,rfl,rfl⟩
   ·rw[ee6]at h
    exact⟨true,rfl,fun _=>⟨h1.1,h1.2,fun x hx=>by rw[aK2 (by omega)]at hx;cases hx;exact h2,h⟩⟩
   ·exact⟨false,rfl,fun h=>by cases h⟩
  ·rw[bnt h2]
   exact⟨false,rfl,fun h=>by cases h⟩
 ·refine⟨false,?_,fun h=>by cases h⟩
  rw[show((decide ((l.length:Int)<1))||(decide ((l.length:Int)>200)))=true by rw[cG1,fk4,fk4];omega]
  rfl
theorem dG5 {d:N1}(h:dG4 d)(h0:d.At=0):(aA2 [d]).m=some true:=by
 simp only[aA2,C.of,M.run,L1.m]
 rw[show D4 [d] 0=some d from rfl]
 simp only[aH3]
 rw[h0]
 obtain⟨u,e,_⟩:=ai6 [d].length (by simp) (fun i (u:Unit)=>(aR2 [d] i u).run) (fun _ _=>True) () trivial (fun k u hk _=>by
  have:k=0:=by simpa using hk
  subst this
  simp only[aR2,M.run,L1.m]
  rw[show D4 [d] ((0:Nat):Int)=some d from rfl]
  simp only[aH3]
  rw[fk3 (show¬(((0:Nat):Int)>0) by omega)]
  simp only[fj6,dx0,dy6,aH3]
  rw[df4,dt4.2 h]
  exact⟨(),rfl,trivial⟩)
 rw[e]
 rfl
theorem ea7 {d:N1}(h:dG4 d):(cu8 d).m=some true:=by
 simp only[cu8,C.of,M.run]
 have h1:=h.1
 rw[fk0 (show d.At>=0 by omega),fk0 h1.2,dG5 (d:=⟨0,d.I7,d.bl6,d.bO1,d.bO2⟩) ⟨⟨do8 _,by show(0:Int)<=1099511627776;omega⟩,h.2⟩ rfl]
 rfl
theorem eq0 {a b:Int}(h0:0<=a)(h:a<=b)(hb:b<=1000000):o4 (F4 .u64 (aX3.wrap (o4 (a+b))) 1)=(a+b)/2:=by
 have h1:o4 (a+b)=a+b:=j6 (by omega) (by omega)
 rw[h1]
 have h2:aX3.wrap (a+b)=a+b:=by
  unfold IntKind.wrap
  simp[IntKind.signed,eT7]
  omega
 rw[h2]
 have h3:F4 .u64 (a+b) 1=(a+b)/2:=by
  unfold F4
  show(a+b).fdiv 2=_
  rw[Int.fdiv_eq_ediv_of_nonneg _ (by omega)]
 rw[h3,j6 (by omega) (by omega)]
theorem dK6 (l:List N1)(hl:ez6 l)(t:Int)(ht:0<=t/\t<=1099511627776)(f:Cl Tryz.prog (N1×Int) Int (fun x=>[bd6 x.1,.t (tI x.2)]) (fun r=>.t (tI r)))(hf:∀x:N1,f.f (x,t)=some (o4 (x.At-t))):
  ∃i b,(au6 l t f).m=some (i,b)/\(b=true->0<=i/\i<(l.length:Int))/\(b=false->1<=i/\i<=(l.length:Int)):=by
 have hm:=hl.most
 have hp:=hl.pos
 have hw:∀x∈l,o4 (x.At-t)=x.At-t:=fun x hx=>by
  have:=(hl.drv x hx).1
  exact j6 (by omega) (by omega)
 simp only[au6,C.of,M.run,L1.m,Cl.at]
 obtain⟨b,e,h⟩:=bu7 (mb:=fun s=>(ao5 l t f s).run) (fun s=>0<=s.1/\s.1<=s.2/\s.2<=(l.length:Int)/\(s.2<(l.length:Int)->∀x,l[s.2.toNat]? =some x->t<=x.At)) (fun s=>(s.2-s.1).toNat)
  (fun b:(Int×Int)⊕Empty=>∃i,b= .inl (i,i)/\0<=i/\i<=(l.length:Int)/\(i<(l.length:Int)->∀x,l[i.toNat]? =some x->t<=x.At)) (fun s ⟨h0,h1,h2,h3⟩=>by
   obtain⟨a,b⟩:=s
   simp only at h0 h1 h2 h3
   simp only[ao5,M.run,L1.m,Cl.at]
   rw[eq0 h0 h1 (by omega)]
   by_cases hab:a<b
   ·left
    rw[fk0 hab]
    obtain⟨m,hm⟩:∃m:Nat,(a+b)/2=(m:Int):=⟨((a+b)/2).toNat,by omega⟩
    have hml:m<l.length:=by omega
    rw[hm,T5,aK2 hml]
    simp only[fj8,aH3,hf,hw _ (ba6 hml)]
    by_cases hlt:l[m].At-t<0
    ·rw[fk0 hlt,j6 (n:=(m:Int)+1) (by omega) (by omega)]
     exact⟨_,rfl,⟨by simp only;omega,by simp only;omega,h2,h3⟩,by simp only;omega⟩
    ·rw[fk3 hlt]
     refine⟨_,rfl,⟨h0,by simp only;omega,by simp only;omega,fun _ x hx=>?_⟩,by simp only;omega⟩
     simp only[eJ5]at hx
     rw[aK2 hml]at hx
     cases hx
     omega
   ·right
    rw[fk3 hab]
    have:a=b:=by omega
    subst this
    exact⟨_,rfl,a,rfl,h0,h2,h3⟩) l.length (0,(l.length:Int)) (by simp) ⟨by simp only;omega,by simp only;omega,by simp only;omega,fun h=>absurd h (by simp)⟩
 rw[e]
 obtain⟨i,rfl,h0,h1,h2⟩:=h
 simp only[aH3]
 by_cases hi:i<(l.length:Int)
 ·rw[fk0 hi]
  obtain⟨m,hm⟩:∃m:Nat,i=(m:Int):=⟨i.toNat,by omega⟩
  have hml:m<l.length:=by omega
  subst hm
  rw[T5,aK2 hml]
  simp only[fj8,aH3,hf,hw _ (ba6 hml)]
  refine⟨_,_,rfl,fun _=>⟨h0,hi⟩,fun hb=>⟨?_,h1⟩⟩
  rw[beq_eq_false_iff_ne]at hb
  by_cases hz:m=0
  ·subst hz
   exfalso
   have a0:=hl.first _ (aK2 hml)
   have a1:=h2 hi _ (by rw[eJ5];exact aK2 hml)
   omega
  ·omega
 ·rw[fk3 hi]
  exact⟨_,_,rfl,fun h=>(by cases h),fun _=>by omega⟩
theorem eN9 {l:List N1}(hv:(aA2 l).m=some true)(hl:ez6 l)(t:Int)(ht:0<=t/\t<=1099511627776):∃d,(bt8 l t).m=some (d,0)/\dG4 d:=by
 obtain⟨i,b,e,h1,h2⟩:=dK6 l hl t ht (.of (fun z_=>cl5 z_.1 z_.2) 135 []) (fun x=>rfl)
 have key:∃j:Nat,(ce0 l t).m=some ((j:Int),0)/\j<l.length:=by
  simp only[ce0,C.of,M.run,hv,aH3,aP9,fj6]
  rw[fk3 (show¬t<0 by omega),fk3 (show¬t>1099511627776 by omega)]
  simp only[eM3,fj6]
  rw[e]
  simp only[aH3]
  have hm:=hl.most
  cases b
  ·have h3:=h2 rfl
   simp only[cI0,fj8]
   rw[j6 (by omega) (by omega)]
   exact⟨(i-1).toNat,by rw[show(((i-1).toNat:Nat):Int)=i-1 by omega],by omega⟩
  ·have h3:=h1 rfl
   simp only[aP9,fj6]
   exact⟨i.toNat,by rw[show((i.toNat:Nat):Int)=i by omega],by omega⟩
 obtain⟨j,e2,hj⟩:=key
 simp only[bt8,C.of,M.run,L1.m,e2,aH3]
 rw[show((0:Int) !=0)=false from rfl,T5,aK2 hj]
 simp only[fj6,aH3]
 exact⟨_,rfl,ht,(hl.drv _ (ba6 hj)).2⟩
end Go.Proofs.YtmhdghdbojdgfaaGreat.Ec
namespace Go.Pv.Fr
open Go Go.Pv
theorem dz2 {l:List z8}{f:B7}{E6:Int}{t:Nat->Bool}{q:Nat}{bad:Bool}{fr:List Int}(hc:Cfs l)(h:Inv l f E6 true t)(h0:1<=E6)(h1:E6<=1073741824)(hq:q<l.length)(hq2:q<f.L.length)(hfr:ci0 (l[q]) fr):
  aq1 f (q:Int) bad fr=some (⟨f.T0,f.L.set q (dn7 (l[q]) E6 bad fr f.L[q]),f.aI1,f.ax8⟩,0):=by
 have hl:=h.len;have hl2:=hc.len
 have hq3:q<f.T0.length:=by rw[h.aP8];omega
 have e1:f.T0[q]=l[q]:=by simp[h.aP8]
 have hfl:fr.length<=8:=by have:=hfr.1;have:=(hc.ok hq).frame;omega
 have g1:decide ((q:Int)<0)=false:=by simp
 have g2:decide ((q:Int)>=(f.L.length:Int))=false:=by simp;omega
 have bN6:∀y:A5,q<(f.L.set q y).length:=fun y=>by simpa using hq2
 unfold aq1
 rw[bV6 hc h (by omega) h1 (fun _=>h0),g1,g2,h.run,C7 _ _ hq3,e1]
 simp only[aH3,aP9,eM3,fj6]
 rw[cO7 (hc.ok hq) hfr,h.copied hc]
 simp only[aH3,aP9,fj6]
 rw[C7 _ _ hq2,C7 _ _ hq3,e1]
 simp only[aH3]
 rw[T6 _ _ _ hq2,T6 _ _ _ hq2]
 simp only[aH3]
 have e2:(bif bad then some (f.L.set q ⟨f.L[q].G5,F5 l[q].bh2 (o4 (G7 f.L[q].E5 0+1)),f.L[q].J5,f.L[q].Clean,f.L[q].A2,f.L[q].Frame,f.L[q].H0⟩)else some (f.L.set q ⟨f.L[q].G5,G7 (o4 (0-l[q].Pass)) (o4 (F5 f.L[q].E5 0-1)),f.L[q].J5,f.L[q].Clean,f.L[q].A2,f.L[q].Frame,f.L[q].H0⟩))=some (f.L.set q (bR2 (l[q]) bad f.L[q])):=by
  unfold bR2;cases bad<;>rfl
 rw[e2]
 simp only[aH3]
 rw[C7 _ _ (bN6 _)]
 simp only[aH3,dC7]
 unfold dn7
 simp only
 cases(bR2 (l[q]) bad f.L[q]).E5==(l[q]).bh2
 ·simp only[fj6]
  cases(bR2 (l[q]) bad f.L[q]).E5==o4 (0-(l[q]).Pass)
  ·simp only[fj6];rw[h.run]
  ·simp only[fj8]
   rw[T6 _ _ _ (bN6 _)]
   simp only[aH3,ee5]
   rw[T6 _ _ _ (bN6 _)]
   simp only[aH3,ee5]
   rw[h.run]
 ·simp only[fj8]
  rw[dt9 _ _ (bN6 _) _ _ _ (by omega)]
  simp only[aH3,dC7,ee5]
  rw[h.run,h.cyc]
def fqP (x:A5):Prop:=(x.G5=0\/x.G5=8)/\x.E5<=0
theorem dK1 {c:z8}{x:A5}{E6:Int}{fr:List Int}(hc:cC4 c)(h:fqP x)(h1:-c.Pass<=x.E5):fqP (dn7 c E6 false fr x):=by
 have p1:=hc.pass;have p2:=hc.fail;have p3:=h.2
 have hk:(bR2 c false x).E5<= -1:=by
  show G7 (o4 (0-c.Pass)) (o4 (F5 x.E5 0-1))<= -1
  have a2:F5 x.E5 0=if 0<x.E5 then 0 else x.E5:=rfl
  rw[a2,if_neg (by omega),j6 (n:=0-c.Pass) (by omega) (by omega),j6 (by omega) (by omega)]
  unfold G7
  split<;>omega
 unfold dn7
 simp only
 rw[show((bR2 c false x).E5==c.bh2)=false by rw[beq_eq_false_iff_ne];omega]
 simp only[fj6]
 cases(bR2 c false x).E5==o4 (0-c.Pass)
 ·exact⟨h.1,by simp only[fj6];omega⟩
 ·simp only[fj8]
  refine⟨?_,by simp only;omega⟩
  have:(bR2 c false x).G5=x.G5:=rfl
  rw[this]
  rcases h.1 with e|e<;>rw[e]
  ·right;rfl
  ·right;rfl
end Go.Pv.Fr
namespace Go.Proofs.YtmhdghdbojdgfaaGreat.Ec
open Go Go.Pv Go.Pv.Ec Go.Proofs
abbrev bl (v:Bool×Bool×Bool×Bool×Bool×Bool×Bool):List Bool:=[v.1,v.2.1,v.2.2.1,v.2.2.2.1,v.2.2.2.2.1,v.2.2.2.2.2.1,v.2.2.2.2.2.2]
structure bG3 (l:List z8)(cyc:Int)(v:List Bool)(f g:B7)(n:Nat):Prop where
 len:g.L.length=f.L.length
 done:∀j (h1:j<n) (h2:j<g.L.length) (h3:j<f.L.length) (h4:j<l.length) (h5:j<v.length),∃fr,g.L[j]=Fr.dn7 (l[j]) cyc (v[j]) fr (f.L[j])
 left:∀j (h1:n<=j) (h2:j<g.L.length) (h3:j<f.L.length),g.L[j]=f.L[j]
theorem dB4 {s:j9}(hs:SOk s)(v:Bool×Bool×Bool×Bool×Bool×Bool×Bool){l:List z8}{cyc:Int}{t:Nat->Bool}(hc:Fr.Cfs l)(h7:7<=l.length)(h:Fr.Inv l s.u.I0 cyc true t)(h0:1<=cyc)(h1:cyc<=1073741824):
  ∃i f t',L5 (fun x=>(aU3 s v x).run) (0,s.u.I0)=some (.inl (i,f))/\Fr.Inv l f cyc true t'/\bG3 l cyc (bl v) s.u.I0 f 7:=by
 have key:=bu7 (mb:=fun x=>(aU3 s v x).run) (fun x=>∃k:Nat,x.1=(k:Int)/\k<=7/\(∃t,Fr.Inv l x.2 cyc true t)/\bG3 l cyc (bl v) s.u.I0 x.2 k) (fun x=>7-x.1.toNat) (fun b=>∃i f t,b= .inl (i,f)/\Fr.Inv l f cyc true t/\bG3 l cyc (bl v) s.u.I0 f 7)
  (fun x ⟨k,hk,hk7,⟨t,hi⟩,ht⟩=>by
   obtain⟨a,f⟩:=x
   simp only at hk hi ht
   subst hk
   simp only[aU3,M.run,L1.m,U1.m]
   by_cases hlt:k<7
   ·left
    rw[fk0 (show((k:Nat):Int)<7 by omega)]
    simp only[fj8,T5]
    rw[aK2 (show k<[v.1,v.2.1,v.2.2.1,v.2.2.2.1,v.2.2.2.2.1,v.2.2.2.2.2.1,v.2.2.2.2.2.2].length by simp only[bq0,cr1];omega),hi.aP8,aK2 (show k<l.length by omega)]
    simp only[aH3]
    have hs':SOk (⟨(⟨s.u.u9,s.u.u5,s.u.j3,s.u.Q2,s.u.M7,s.u.H8,s.u.M1,s.u.K3,s.u.J1,f,s.u.A6,s.u.Y4,s.u.Time⟩:af3),s.d,s.k,s.t,s.o9,s.Y7,s.at8,s.C1,s.aQ3,s.D6,s.aJ6,s.E9,s.U8,s.A0,s.known,s.cut,s.y9,s.S9⟩:j9):=⟨hs.few,hs.val,hs.ped,hs.pre,hs.t,hs.spd⟩
    obtain⟨r,e1,hr⟩:=aS3 hs' 2
    have hsp:=hs.spd
    have hkl:k<f.L.length:=by have:=hi.len;omega
    obtain⟨fr,e2,h2⟩:=em9 (hc.ok (show k<l.length by omega)) (a:=s.o9) (b:=r) (by omega) hr
    obtain⟨f',b,e3,h3,_⟩:=Fr.eb8 (bad:=(bl v)[k]'(by simp only[bq0,cr1];omega)) hc hi h0 h1 (show k<l.length by omega) h2
    have e4:=Fr.dz2 (bad:=(bl v)[k]'(by simp only[bq0,cr1];omega)) hc hi h0 h1 (show k<l.length by omega) hkl h2
    rw[e2]
    simp only[aH3]
    rw[e1]
    simp only[aH3,fb5,cD9]
    rw[e3]
    simp only[aH3,eR6]
    rw[e3]at e4
    have e5:f'=_:=(Prod.mk.inj (cp9 e4)).1
    refine⟨_,rfl,⟨k+1,?_,by omega,⟨_,h3⟩,?_⟩,?_⟩
    ·simp only
     rw[j6 (by omega) (by omega)]
     omega
    ·show bG3 l cyc (bl v) s.u.I0 f' (k+1)
     rw[e5]
     refine⟨by simp only[dI2];exact ht.len,fun j q1 q2 q3 q4 q5=>?_,fun j q1 q2 q3=>?_⟩
     ·by_cases hj:k=j
      ·subst hj
       apply Exists.intro
       simp only[dC7]
       rw[ht.left k (cq9 _) hkl q3]
      ·simp only[List.getElem_set_ne hj]
       exact ht.done j (by omega) _ q3 q4 q5
     ·simp only[List.getElem_set_ne (show k≠j by omega)]
      exact ht.left j (by omega) _ q3
    ·simp only
     rw[j6 (by omega) (by omega)]
     omega
   ·right
    rw[fk3 (show¬((k:Nat):Int)<7 by omega)]
    have:k=7:=by omega
    subst this
    exact⟨_,rfl,_,_,t,rfl,hi,ht⟩)
 obtain⟨b,e1,i,f,t',e2,h2,h3⟩:=key 7 (0,s.u.I0) (by simp) ⟨0,rfl,by omega,⟨t,h⟩,rfl,fun j q1=>by omega,fun j _ _ _=>rfl⟩
 rw[e2]at e1
 exact⟨i,f,t',e1,h2,h3⟩
theorem bR1 {s:j9}(hs:SOk s){n:Int}(hk:∀b∈s.k,b.ba9≠n):(aa9 s n).m=some (0,false):=by
 have hf:=hs.few
 simp only[aa9,C.of,M.run]
 obtain⟨u,e,_⟩:=au4 s.k (by omega) (fun i x (u:Unit)=>(aD0 s n i x u).run) (fun _ _=>True) () trivial (fun k x u hx _=>by
  simp only[aD0,M.run]
  rw[bf (hk x (cY9 hx))]
  exact⟨(),rfl,trivial⟩)
 rw[e]
 rfl
theorem ds6 {x a b:Int}(h:a<=x/\x<=b):F5 (G7 x a) b=x:=by
 unfold F5 G7
 split<;>split<;>omega
theorem ei1 {s:j9}(hs:SOk s)(hk:∀b∈s.k,b.ba9=6):(aU0 s).m=some (false,false,false,false,false,s.u.M1.Off,s.u.K3.Off):=by
 have h1:=hs.ped;have h2:=hs.pre;have h3:=hs.t
 have b:∀n:Int,n≠6->(aa9 s n).m=some (0,false):=fun n hn=>bR1 hs (fun x hx=>by rw[hk x hx];exact fun e=>hn e.symm)
 obtain⟨x,hx⟩:=df6 s.u.A6
 have e0:(D5 s 0).m=some s.d.I7:=by
  simp only[D5,C.of,M.run,b 0 (by omega),aH3];rfl
 have e1:(D5 s 1).m=some (s.d.I7/2):=by
  simp only[D5,C.of,M.run,b 1 (by omega),aH3]
  rw[cr3 h1.1,j6 (by omega) (by omega)];rfl
 have e2:(D5 s 2).m=some s.u.A6.L3:=by
  simp only[D5,C.of,M.run,b 2 (by omega),aH3];rfl
 have e3:(D5 s 3).m=some 20:=by
  simp only[D5,C.of,M.run,b 3 (by omega),aH3];rfl
 have e4:∃v,(D5 s 4).m=some v/\20<=v/\v<=90:=by
  simp only[D5,C.of,M.run,b 4 (by omega),aH3]
  refine⟨_,rfl,?_⟩
  rw[cr3 h3.1,j6 (n:=s.t/1000000) (by omega) (by omega),j6 (by omega) (by omega)]
  unfold F5
  split<;>omega
 have e5:∃v,(D5 s 5).m=some v/\100<=v/\v<=800:=by
  simp only[D5,C.of,M.run,b 5 (by omega),hx,aH3]
  cases decide (x<1000)
  ·exact⟨100,rfl,by omega,by omega⟩
  ·exact⟨800,rfl,by omega,by omega⟩
 obtain⟨v4,e4,k4⟩:=e4
 obtain⟨v5,e5,k5⟩:=e5
 simp only[aU0,C.of,M.run,e0,e1,e2,e3,e4,e5,dx7,aT7,aH3]
 rw[ds6 h1,ds6 (show 0<=s.d.I7/2/\s.d.I7/2<=500 by omega),j6 (n:=2*(s.d.I7/2)) (by omega) (by omega),j6 (n:=s.d.I7-2*(s.d.I7/2)) (by omega) (by omega),j6 (n:=2*(s.d.I7/2)-s.d.I7) (by omega) (by omega)]
 rw[fk3 (show¬G7 (s.d.I7-2*(s.d.I7/2)) (2*(s.d.I7/2)-s.d.I7)>50 by unfold G7;split<;>omega),
  fk3 (show¬s.u.A6.L3<50 by omega),fk3 (show¬s.u.A6.L3>1013 by omega),fk3 (show¬v4< -40 by omega),fk3 (show¬v4>150 by omega),fk3 (show¬v5<50 by omega),fk3 (show¬v5>900 by omega)]
 rfl
theorem eg3 (x:Int):0<=ad3 .i64 x 65535/\ad3 .i64 x 65535<=65535:=by
 unfold ad3
 show 0<=eX4.wrap ((BitVec.ofInt 64 x&&&BitVec.ofInt 64 65535).toNat:Int)/\_
 have e:(BitVec.ofInt 64 x&&&BitVec.ofInt 64 (65535:Int)).toNat=(BitVec.ofInt 64 x).toNat%65536:=by
  rw[BitVec.toNat_and,show(BitVec.ofInt 64 (65535:Int)).toNat=2^16-1 by rfl,Nat.and_two_pow_sub_one_eq_mod]
 show 0<=eX4.wrap _/\eX4.wrap ((BitVec.ofInt 64 x&&&BitVec.ofInt 64 65535).toNat:Int)<=65535
 rw[e]
 have h:(BitVec.ofInt 64 x).toNat%65536<65536:=Nat.mod_lt _ (by omega)
 have h2:eX4.wrap (((BitVec.ofInt 64 x).toNat%65536:Nat):Int)=(((BitVec.ofInt 64 x).toNat%65536:Nat):Int):=j6 (by omega) (by omega)
 rw[h2]
 omega
theorem cy8 (n:Int)(l:List Int)(hl:l.length<=100)(hp:ptB l=true)(hq:quB n=true):∃a,(bn4 n l).m=some (a,0)/\0<=a/\a<=65535:=by
 simp only[bn4,C.of,M.run,dz0,hp,bT5,hq,aH3,aP9,fj6]
 have hb:1<=n/\n<=65535:=by simpa[quB]using hq
 obtain⟨a,e,h⟩:=au4 l (by omega) (fun i x (a:Int)=>(bv6 i x a).run) (fun _ a=>0<=a/\a<=65535) n (by omega) (fun k x a hx hI=>by
  simp only[bv6,M.run]
  exact⟨_,rfl,eg3 _⟩)
 rw[e]
 exact⟨a,rfl,h⟩
theorem eQ6 {g:ah6}{p a:Int}(ha:a<=p):∃h e,(aV5 g p a).m=some (h,e)/\(e=0->grB h=true/\h.Off=g.Off):=by
 by_cases hb:grB g=true/\(-20000<=p/\p<=20000)/\(-20000<=a/\a<=20000)
 ·obtain⟨h,e,h1,h2,h3⟩:=eD3 g p a
  obtain⟨he,hh⟩:=h3 hb.1 hb.2.1.1 hb.2.1.2 hb.2.2.1 hb.2.2.2
  rw[if_neg (by omega)]at hh
  exact⟨h,e,h1,fun he=>⟨h2 he,by rw[hh]⟩⟩
 ·simp only[aV5,C.of,M.run,cm0,dd4,aH3]
  cases h1:grB g
  ·exact⟨_,_,rfl,fun h=>by cases h⟩
  ·simp only[aP9,fj6]
   cases e1:(decide (p>= -20000)&&decide (p<=20000))
   ·exact⟨_,_,rfl,fun h=>by cases h⟩
   ·cases e2:(decide (a>= -20000)&&decide (a<=20000))
    ·exact⟨_,_,rfl,fun h=>by cases h⟩
    ·simp only[aJ5,fk4]at e1 e2
     exact absurd ⟨h1,⟨e1.1,e1.2⟩,e2.1,e2.2⟩ hb
theorem dy0 (p:Int):∀(l:List j2) (x:Int),l.foldl (cB3 p) x<=x
 |[],x=>do8 _
 |y::l,x=>by
  rw[ey7]
  refine fg7 (dy0 p l _) ?_
  unfold cB3
  cases(y.Kind==1)&&decide (y.E7>p)
  ·exact do8 _
  ·simp only[fj8];unfold F5;split<;>omega
theorem er5 (l:List j2)(p x:Int):100<=o4 (G7 0 (F5 (l.foldl (cB3 p) 10000) x)+100):=by
 have:=dy0 p l 10000
 have h:0<=G7 0 (F5 (l.foldl (cB3 p) 10000) x)/\G7 0 (F5 (l.foldl (cB3 p) 10000) x)<=10000:=by
  unfold G7 F5
  split<;>split<;>omega
 rw[j6 (by omega) (by omega)]
 omega
theorem dp7 {c:j9}(ht:cd8 c.u.u9=true)(hs:0<=c.o9/\c.o9<=12000)(hc:0<=c.A0/\c.A0<=1048576)(h1:1<=c.E9.O1.length)(h8:c.E9.O1.length<=8)(hz:∀x∈c.E9.O1,x.Y5=0):(au3 c).m=some 0:=by
 have hm:bp0 c.u.u9.p7=true:=by
  have:=(dg8 ht).tor
  unfold aZ4 at this
  simp only[aJ5]at this
  first|exact this.1.1.1.1|exact this.1.1|exact this.1|exact this.1.1.1
 obtain⟨v,k,_,e1,_⟩:=cu5 hm c.o9 c.A0
 have:=cZ7 c.u.u9 c.o9 c.A0 hm (by
  rw[fk0 hs.1,fk0 hs.2,fk0 hc.1,fk0 hc.2];rfl) k e1 c.E9.O1 h1 h8
 simp only[au3,CG.of,M.run,by0]
 rw[this]
 have h0:c.E9.O1.countP ca1=0:=by
  rw[List.countP_eq_zero]
  intro x hx
  unfold ca1
  simp[hz x hx]
 rw[h0]
 simp only[aH3,aI5]
 unfold di2
 have:((0:Nat):Int)=0:=rfl
 simp only[this,Int.mul_zero,Int.zero_add]
 rw[cr3 (by omega),fb3 (by omega) (by omega)]
theorem et6 {q:ac8}{now a:Int}{l:List Int}(hq:qzB q=true)(hl:ptB l=true)(hn:l.length<=100)(ha:0<=a/\a<=65535)(ht:ad6 now=true)(ho:q.Open=true)(hle:q.ar9<=now):
  ∃x r,(bn4 q.Question l).m=some (x,0)/\(cf9 q now a l).m=some (r,0)/\qzB r=true/\r.ar9=0/\r.Open=false/\r.Off=(r.T3==7)/\
   r.T3=(if(((x==a)&&decide (o4 (now-q.ar9)>=10000))&&decide (o4 (now-q.ar9)<=20000))=true then G7 (q.T3-1) 0 else F5 (q.T3+2) 7):=by
 have hqu:quB q.Question=true:=by
  have:=hq
  simp only[qzB,aJ5]at this
  exact this.1.1.1.1.1.1
 obtain⟨x,e1,_⟩:=cy8 q.Question l hn hl hqu
 obtain⟨r,e2,h2,h3,h4,_,h5,h6⟩:=eT9 q (((x==a)&&decide (o4 (now-q.ar9)>=10000))&&decide (o4 (now-q.ar9)<=20000)) hq
 refine⟨x,r,e1,?_,h2,h3,h4,h6,h5⟩
 simp only[cf9,C.of,M.run,cn9,hq,cg0,ht,dz0,hl,eG6,aH3,aP9,fj6,ho,e1]
 rw[fk0 (show a>=0 by omega),fk0 ha.2,fk3 (show¬now<q.ar9 by omega)]
 simp only[Bool.and_self,aP9,fj6]
 rw[e2]
 rfl
theorem dV2 {s:j9}(hs:SOk s)(hq:qzB s.u.K3=true)(ho:s.u.K3.Open=true)(ha:s.u.K3.ar9+10000=s.t){b1:Int}{b2:Bool}(hb:(aa9 s 6).m=some (b1,b2))(hv:b2=true->1<=b1/\b1<=65535):
  ∃q,(aF3 s).m=some {s with u:={s.u with K3:=q}}/\
   qzB q=true/\q.T3=(if b2=true then F5 (s.u.K3.T3+2) 7 else G7 (s.u.K3.T3-1) 0)/\q.Off=(q.T3==7)/\(q.Off=false->q.Open=true/\q.ar9=s.t)/\(q.Off=true->q.Open=false)/\q.ar9<=s.t:=by
 have ht:=hs.t
 have hsp:=hs.spd
 obtain⟨v,e1,v1⟩:=dQ8 s.U8 65536 (by omega) (by omega)
 have hl:ptB [s.o9,v,7]=true:=by
  unfold ptB
  simp only[bq0,cr1,fh7,List.any_nil,fa9,aJ5,bO4,bZ2,dT6,fk4]
  omega
 have htm:ad6 s.t=true:=aH0.2 ht
 have hqu:quB s.u.K3.Question=true:=by
  have:=hq
  simp only[qzB,aJ5]at this
  exact this.1.1.1.1.1.1
 obtain⟨x,e2,x0⟩:=cy8 s.u.K3.Question [s.o9,v,7] (by simp) hl hqu
 have kk:∃y,(bif b2 then(ab8 (o4 (x+b1)) 65536).m.bind fun t=>some t else some x)=some y/\(0<=y/\y<=65535)/\(x=y↔b2=false):=by
  cases b2
  ·exact⟨_,rfl,x0,by simp⟩
  ·have h1:=hv rfl
   simp only[fj8]
   rw[j6 (by omega) (by omega),dl9 _ _ (by omega) (by omega)]
   refine⟨_,rfl,by omega,?_⟩
   constructor
   ·intro h;omega
   ·intro h;cases h
 obtain⟨y,e3,y0,yx⟩:=kk
 obtain⟨x',r,q1,q2,q3,q4,q5,q6,q7⟩:=et6 (q:=s.u.K3) (now:=s.t) (a:=y) (l:=[s.o9,v,7]) hq hl (by simp) y0 htm ho (by omega)
 rw[e2]at q1
 cases q1
 have hr:r.T3=(if b2=true then F5 (s.u.K3.T3+2) 7 else G7 (s.u.K3.T3-1) 0):=by
  rw[q7,j6 (by omega) (by omega),fk0 (show s.t-s.u.K3.ar9>=10000 by omega),fk0 (show s.t-s.u.K3.ar9<=20000 by omega)]
  simp only[eW8]
  cases hb2:b2
  ·rw[if_pos (by rw[beq_iff_eq];exact yx.2 hb2),if_neg (by simp)]
  ·rw[if_neg (by rw[beq_iff_eq];intro h;have:=yx.1 h;rw[hb2]at this;cases this),if_pos rfl]
 obtain⟨w,n,e,e8,h8,h9⟩:=es4 r s.t
 simp only[aF3,CG.of,M.run,ho,fj8,e1,e2,hb,e3,q2,eK7,eo6,aH3]
 rw[show((0:Int) !=0)=false from rfl]
 simp only[fj6,e8,aH3]
 refine⟨_,rfl,?_⟩
 by_cases cX7:r.Off=false
 ·have he:=h9 q3 htm q5 cX7
  subst he
  obtain⟨a1,a2,a3,a4,a5⟩:=h8 rfl
  rw[show((0:Int) !=0)=false from rfl]
  simp only[fj6]
  refine⟨a1,by rw[a4];exact hr,by rw[a5,a4];exact q6,fun _=>⟨a3,a2⟩,fun h=>?_,by omega⟩
  rw[a5,cX7]at h
  cases h
 ·have cX7:r.Off=true:=by simpa using cX7
  have he:¬e=0:=by
   intro he
   subst he
   obtain⟨a1,a2,a3,a4,a5⟩:=h8 rfl
   have:=a1
   simp only[qzB,aJ5]at this
   have h2:=this.2
   rw[a3,a5,cX7]at h2
   cases h2
  rw[enz he]
  simp only[fj8]
  refine⟨q3,hr,q6,fun h=>?_,fun _=>q5,by omega⟩
  rw[cX7]at h
  cases h
theorem dV3 {s:j9}(hs:SOk s)(hq:qzB s.u.K3=true)(ho:s.u.K3.Open=false)(hf:s.u.K3.Off=false):
  ∃q,(aF3 s).m=some {s with u:={s.u with K3:=q}}/\
   qzB q=true/\q.T3=s.u.K3.T3/\q.Off=false/\q.Open=true/\q.ar9=s.t:=by
 obtain⟨w,n,e,e8,h8,h9⟩:=es4 s.u.K3 s.t
 have he:=h9 hq (aH0.2 hs.t) ho hf
 subst he
 obtain⟨a1,a2,a3,a4,a5⟩:=h8 rfl
 simp only[aF3,CG.of,M.run,ho,fj6,e8,eK7,eo6,aH3]
 exact⟨_,rfl,a1,a4,by rw[show(bif ((0:Int) !=0)then s.u.K3 else w)=w from rfl,a5];exact hf,a3,a2⟩
theorem dj7 {r:S7}(h16:r.af0.length<=16)(f:Cl Tryz.prog Int Bool (fun x=>[.t (tI x)]) (fun r=>.t (tB r)))(p:Int->Bool)(hf:∀c∈r.af0,f.f c=some (p c)):
  (aO4 r f).m=some (r.af0.filter p):=by
 simp only[aO4,C.of,M.run]
 obtain⟨o,h1,h2⟩:=au4 r.af0 (by omega) (fun i x (o:List Int)=>(aD9 f i x o).run) (fun k o=>o=(r.af0.take k).filter p) [] (by simp) (fun k x o hx hI=>by
  obtain⟨hk,rfl⟩:=bt7.1 hx
  subst hI
  simp only[aD9,M.run,U1.m,Cl.at,hf _ (ba6 hk),aH3]
  have ht:r.af0.take (k+1)=r.af0.take k++[r.af0[k]]:=dp0 hk
  cases hp:p r.af0[k]
  ·refine⟨_,rfl,?_⟩
   rw[ht,cV9];simp[hp]
  ·simp only[fj8]
   have hl:((r.af0.take k).filter p).length<=16:=eJ3 (List.length_filter_le ..) (by rw[bE9];omega)
   rw[H7 _ _ (by simp only[cr0];omega)]
   refine⟨_,rfl,?_⟩
   rw[ht,cV9];simp[hp])
 rw[h1,h2,ee6]
 rfl
def ez9 (i:Nat):List Int->List W0
 |[]=>[]
 |c=>[⟨(i:Int),c⟩]
def bO5 (p:Int->Bool)(n:Nat):List W0:=(dp9 n).flatMap fun i=>ez9 i ((R0.getD i ⟨ByteArray.mk #[],0,0,[],0⟩).af0.filter p)
theorem cX9 (f:Cl Tryz.prog Int Bool (fun x=>[.t (tI x)]) (fun r=>.t (tB r)))(p:Int->Bool)(hf:∀c,0<=c->c<7->f.f c=some (p c)):
  (aJ8 R0 f).m=some (bO5 p 7):=by
 simp only[aJ8,C.of,M.run]
 obtain⟨a,h1,h2,_⟩:=ai6 R0.length (by rw[cI6];omega) (fun i (o:List W0)=>(ay9 R0 f i o).run) (fun k o=>o=bO5 p k/\o.length<=k) [] ⟨rfl,cq9 _⟩ (fun k o hk hI=>by
  obtain⟨hI,hl⟩:=hI
  subst hI
  have hr:=dq3 cZ4 (ba6 hk)
  rw[fk4]at hr
  have hv:=dj7 hr.1 f p (fun c hc=>by
   have:=bN8.1 hr.2 c hc
   rw[aJ5,fk4,fk4]at this
   exact hf c this.1 this.2)
  have hk7:k<7:=hk
  simp only[ay9,M.run,L1.m,U1.m]
  rw[T5,aK2 hk]
  simp only[aH3,hv]
  have hs:bO5 p (k+1)=bO5 p k++ez9 k (R0[k].af0.filter p):=by
   unfold bO5
   rw[List.range_succ,List.flatMap_append,List.flatMap_singleton,cW2,aK2 hk]
   rfl
  rw[hs]
  cases hc:R0[k].af0.filter p with
  |nil=>exact⟨_,rfl,by simp[ez9],by omega⟩
  |cons x l=>
   rw[fk0 (show(((x::l).length:Nat):Int)>0 by simp only[bq0];omega)]
   simp only[fj8]
   rw[H7 _ _ (by simp only[cr0];omega)]
   exact⟨_,rfl,by simp[ez9],by simp only[aY1,cr0];omega⟩)
 rw[h1,h2,cI6]
 rfl
theorem di1 {f:B7}(hv:(Z3 f).m=some true)(hl:f.L.length=7)(p:Int->Bool)(hp:∀c:Nat,(h:c<f.L.length)->(ad3 .i64 (f.L[c]).G5 5 !=0)=p (c:Int)):(aO3 R0 f).m=some (bO5 p 7,0):=by
 have h1:=cX9 (.of (fun z_=>aG4 z_ (-1) f) 287 [Pv.encI (-1),aR3 f]) p (fun c h0 h7=>by
  simp only[Cl.of,aG4,C.of,M.run,L1.m]
  rw[show(c != -1)=true by simp;omega]
  obtain⟨n,rfl⟩:∃n:Nat,c=(n:Int):=⟨c.toNat,by omega⟩
  rw[T5,aK2 (by omega)]
  simp only[fj8,aH3]
  rw[hp n (by omega)])
 simp only[aO3,bv8,bp3,C.of,M.run,hv,hl,aH3,fj8]
 rw[show(((7:Nat):Int))=7 by rfl,cZ5]
 simp only[aH3,aP9,fj6]
 rw[h1]
 rfl
theorem eB3 {s:j9}(hp:bG2 s.u.Y4 s.u.A6)(ht:cd8 s.u.u9=true)(hf:s.E9.O1.length<=1000):
  ∃r,(bf0 s).m=some r/\∃p q,r={s with u:={s.u with A6:=p},S9:=q}/\bG2 s.u.Y4 p/\(s.u.J1.K7=false->q=s.S9):=by
 simp only[bf0,CG.of,M.run,bgi]
 have hf2:s.u.J1.K7=false->(bif (((!s.cut)&&s.u.J1.K7)&&s.known)then s.E9.p7 else s.S9)=s.S9:=fun h=>by rw[h];cases s.cut<;>rfl
 generalize(bif (((!s.cut)&&s.u.J1.K7)&&s.known)then s.E9.p7 else s.S9)=f2 at hf2|-
 refine eJ6 (fun p=>bG2 s.u.Y4 p) (eZ1 (fun _=>?_) (fun _=>⟨_,rfl,hp⟩)) fun p h1=>?_
 ·obtain⟨v,e1,h2⟩:=dH8 s.E9.O1 (by omega) (.of (fun z_=>bD8 z_) 181 []) (fun x=>x.Y5 !=0) (fun x=>rfl)
  rw[e1]
  simp only[aH3]
  refine eJ6 (fun _=>True) (eZ1 (fun h3=>?_) (fun _=>⟨_,rfl,trivial⟩)) fun m _=>?_
  ·rw[fk4]at h3
   have h4:=h2 h3
   obtain⟨k,rfl⟩:∃k:Nat,v=(k:Int):=⟨v.toNat,by omega⟩
   simp only[L1.m]
   rw[T5,aK2 (by omega)]
   simp only[aH3]
   obtain⟨r,e⟩:=ep7 ht (s.E9.O1[k]'(by omega)).Y5
   rw[e]
   exact⟨_,rfl,trivial⟩
  ·obtain⟨r,u,e,e2,h3⟩:=eb0 hp m s.A0
   simp only[e2,eK8,eo8,aH3]
   exact⟨_,rfl,dQ3 hp h3⟩
 ·generalize(bif decide (s.o9<400)then o4 (f2+800)else f2)=q
  generalize(bif s.u.J1.K7 then s.E9.J2 else 0)=a
  generalize(bif s.d.bO1 !=0 then o4 (s.d.bO2+s.d.bl6)else 0)=g
  obtain⟨r,u,e,e2,h3⟩:=eG1 h1 a (F5 q 10000) g 10000
  simp only[e2,eK8,eo8,aH3]
  exact⟨_,rfl,_,_,rfl,dQ3 h1 h3,hf2⟩
theorem eO8 {g:ah6}{q:ac8}(h:g.Off=false):(csV true g q==0)= !q.Off:=by
 unfold csV
 rw[h]
 cases q.Off<;>rfl
end Go.Proofs.YtmhdghdbojdgfaaGreat.Ec

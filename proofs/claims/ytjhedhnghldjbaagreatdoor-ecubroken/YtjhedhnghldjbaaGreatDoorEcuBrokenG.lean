/- A part of the proof of EcuBroken: the plain law, and the row of it with the program's contracts. -/
import Derived.Test.YtjhedhnghldjbaaGreatDoorEcuBrokenF
import Derived.KernelRfl
import Derived.Test.YtjhedhnghldjbaaGreatDoorRows
import Derived.Lib.LaidTab
import Derived.LaidMore
import Derived.OpenShut
import Derived.ProofKit
import Derived.Stop.Joined
import Derived.Test.YtjhedhnghldjbaaGreatDoorProg
import GoSem.ClaimGoes
import Derived.Test.YtjhedhnghldjbaaGreatDoorCards
import Derived.Test.YtjhedhnghldjbaaGreatDoorTie
import Derived.SevenTiedAt
set_option linter.all false
set_option maxRecDepth 100000
noncomputable section
open Bool renaming and_eq_true->aK5,and_false->eP0,false_and->eg6,not_true->aX5,or_eq_false_iff->cw7,or_false->eN9,or_self->eC7
open Int renaming tdiv_eq_ediv_of_nonneg->cx1,tmod->dq1,tmod_eq_emod_of_nonneg->cX1
open Go.IntKind renaming i64->fb2
open List renaming all_eq_true->bt1,filter_append->dq4,getElem?_eq_getElem->aX4,getElem_mem->bf3,getElem_set_self->dy0,length_append->bd4,length_cons->bu9,length_nil->cJ8,length_set->eh3,length_singleton->cJ4,mem_singleton->eh4,set_set->dQ9,take_length->eC8,take_succ_eq_append_getElem->cW8
open Go.Lit renaming int->de1
open Nat renaming le_refl->bO2
open Option renaming bind->ak4,bind_some->aF2
open Option.some renaming inj->ca0
open Prod.mk renaming inj->fk5
namespace Go.Pv.Fr
open Go Go.Pv
def dB0 {l:List y9}{f:C2}{E5:Int}{t:Nat->Bool}{q:Nat}{bad:Bool}{fr:List Int}(hc:Cfs l)(h:Inv l f E5 true t)(h0:1<=E5)(h1:E5<=1073741824)(hq:q<l.length)(hq2:q<f.L.length)(hfr:ci3 (l[q]) fr):
  aq4 f (q:Int) bad fr=some (⟨f.T9,f.L.set q (cg3 (l[q]) E5 bad fr f.L[q]),f.aI1,f.ay1⟩,0):=by
 have hl:=h.len;have hl2:=hc.len
 have hq3:q<f.T9.length:=by rw[h.aQ2];omega
 have e1:f.T9[q]=l[q]:=by simp[h.aQ2]
 have hfl:fr.length<=8:=by have:=hfr.1;have:=(hc.ok hq).frame;omega
 have g1:decide ((q:Int)<0)=false:=by simp
 have g2:decide ((q:Int)>=(f.L.length:Int))=false:=by simp;omega
 have bN5:∀y:A5,q<(f.L.set q y).length:=fun y=>by simpa using hq2
 unfold aq4
 rw[bU9 hc h (by omega) h1 (fun _=>h0),g1,g2,h.run,D1 _ _ hq3,e1]
 simp only[aF2,aX5,eC7,fk6]
 rw[cQ4 (hc.ok hq) hfr,h.copied hc]
 simp only[aF2,aX5,eC7,fk6]
 rw[D1 _ _ hq2,D1 _ _ hq3,e1]
 simp only[aF2]
 rw[U5 _ _ _ hq2,U5 _ _ _ hq2]
 simp only[aF2]
 have e2:(bif bad then some (f.L.set q ⟨f.L[q].D8,F7 l[q].aW6 (j5 (G8 f.L[q].Count 0+1)),f.L[q].J7,f.L[q].Clean,f.L[q].A8,f.L[q].Frame,f.L[q].H6⟩)else some (f.L.set q ⟨f.L[q].D8,G8 (j5 (0-l[q].Pass)) (j5 (F7 f.L[q].Count 0-1)),f.L[q].J7,f.L[q].Clean,f.L[q].A8,f.L[q].Frame,f.L[q].H6⟩))=some (f.L.set q (bn0 (l[q]) bad f.L[q])):=by
  unfold bn0;cases bad<;>rfl
 rw[e2]
 simp only[aF2]
 rw[D1 _ _ (bN5 _)]
 simp only[aF2,dy0]
 unfold cg3
 simp only
 cases(bn0 (l[q]) bad f.L[q]).Count==(l[q]).aW6
 ·simp only[fk6]
  cases(bn0 (l[q]) bad f.L[q]).Count==j5 (0-(l[q]).Pass)
  ·simp only[fk6];rw[h.run]
  ·simp only[fk7]
   rw[U5 _ _ _ (bN5 _)]
   simp only[aF2,dQ9]
   rw[U5 _ _ _ (bN5 _)]
   simp only[aF2,dQ9]
   rw[h.run]
 ·simp only[fk7]
  rw[dv5 _ _ (bN5 _) _ _ _ (by omega)]
  simp only[aF2,dy0,dQ9]
  rw[h.run,h.cyc]
def fqP (x:A5):Prop:=(x.D8=0\/x.D8=8)/\x.Count<=0
def cU2 {c:y9}{x:A5}{E5:Int}{fr:List Int}(hc:ca4 c)(h:fqP x)(h1:-c.Pass<=x.Count):fqP (cg3 c E5 false fr x):=by
 have p1:=hc.pass;have p2:=hc.fail;have p3:=h.2
 have hk:(bn0 c false x).Count<= -1:=by
  show G8 (j5 (0-c.Pass)) (j5 (F7 x.Count 0-1))<= -1
  have a2:F7 x.Count 0=if 0<x.Count then 0 else x.Count:=rfl
  rw[a2,if_neg (by omega),j4 (n:=0-c.Pass) (by omega) (by omega),j4 (by omega) (by omega)]
  grind [G8]
 unfold cg3
 simp only
 rw[show((bn0 c false x).Count==c.aW6)=false by grind]
 simp only[fk6]
 cases(bn0 c false x).Count==j5 (0-c.Pass)
 ·exact⟨h.1,by grind⟩
 ·simp only[fk7]
  refine⟨?_,by grind⟩
  have:(bn0 c false x).D8=x.D8:=rfl
  rw[this]
  rcases h.1 with e|e<;>rw[e]
  ·right;rfl
  ·right;rfl
end Go.Pv.Fr
namespace Go.Proofs.YtjhedhnghldjbaaGreatDoor.Ec
open Go Go.Pv Go.Pv.Ec Go.Proofs
abbrev bl (v:Bool×Bool×Bool×Bool×Bool×Bool×Bool):List Bool:=[v.1,v.2.1,v.2.2.1,v.2.2.2.1,v.2.2.2.2.1,v.2.2.2.2.2.1,v.2.2.2.2.2.2]
structure bO4 (l:List y9)(cyc:Int)(v:List Bool)(f g:C2)(n:Nat):Prop where
 len:g.L.length=f.L.length
 done:∀j (h1:j<n) (h2:j<g.L.length) (h3:j<f.L.length) (h4:j<l.length) (h5:j<v.length),∃fr,g.L[j]=Fr.cg3 (l[j]) cyc (v[j]) fr (f.L[j])
 left:∀j (h1:n<=j) (h2:j<g.L.length) (h3:j<f.L.length),g.L[j]=f.L[j]
def dD3 {s:j6}(hs:SOk s)(v:Bool×Bool×Bool×Bool×Bool×Bool×Bool){l:List y9}{cyc:Int}{t:Nat->Bool}(hc:Fr.Cfs l)(h7:7<=l.length)(h:Fr.Inv l s.u.D9 cyc true t)(h0:1<=cyc)(h1:cyc<=1073741824):
  ∃i f t',L8 (fun x=>(aU3 s v x).run) (0,s.u.D9)=some (.inl (i,f))/\Fr.Inv l f cyc true t'/\bO4 l cyc (bl v) s.u.D9 f 7:=by
 have key:=bw0 (mb:=fun x=>(aU3 s v x).run) (fun x=>∃k:Nat,x.1=(k:Int)/\k<=7/\(∃t,Fr.Inv l x.2 cyc true t)/\bO4 l cyc (bl v) s.u.D9 x.2 k) (fun x=>7-x.1.toNat) (fun b=>∃i f t,b= .inl (i,f)/\Fr.Inv l f cyc true t/\bO4 l cyc (bl v) s.u.D9 f 7)
  (fun x ⟨k,hk,hk7,⟨t,hi⟩,ht⟩=>by
   obtain⟨a,f⟩:=x
   simp only at hk hi ht
   subst hk
   simp only[aU3,M.run,L1.m,U1.m]
   by_cases hlt:k<7
   ·left
    rw[fk8 (show((k:Nat):Int)<7 by omega)]
    simp only[fk7,U4]
    rw[aX4 (show k<[v.1,v.2.1,v.2.2.1,v.2.2.2.1,v.2.2.2.2.1,v.2.2.2.2.2.1,v.2.2.2.2.2.2].length by simp only[bu9,cJ8];omega),hi.aQ2,aX4 (show k<l.length by omega)]
    simp only[aF2]
    have hs':SOk (⟨(⟨s.u.A0,s.u.w9,s.u.j3,s.u.Q8,s.u.M9,s.u.I2,s.u.M3,s.u.K4,s.u.M5,f,s.u.B3,s.u.ab7,s.u.Time⟩:af9),s.d,s.k,s.t,s.o8,s.Z9,s.au4,s.C5,s.aQ7,s.D6,s.aJ8,s.F3,s.V9,s.A4,s.known,s.cut,s.A3,s.T8⟩:j6):=⟨hs.few,hs.val,hs.ped,hs.pre,hs.t,hs.spd⟩
    obtain⟨r,e1,hr⟩:=aS3 hs' 2
    have hsp:=hs.spd
    have hkl:k<f.L.length:=by have:=hi.len;omega
    obtain⟨fr,e2,h2⟩:=ep9 (hc.ok (show k<l.length by omega)) (a:=s.o8) (b:=r) (by omega) hr
    obtain⟨f',b,e3,h3,_⟩:=Fr.ee6 (bad:=(bl v)[k]'(by simp only[bu9,cJ8];omega)) hc hi h0 h1 (show k<l.length by omega) h2
    have e4:=Fr.dB0 (bad:=(bl v)[k]'(by simp only[bu9,cJ8];omega)) hc hi h0 h1 (show k<l.length by omega) hkl h2
    rw[e2]
    simp only[aF2]
    rw[e1]
    simp only[aF2,fg3,cE8]
    rw[e3]
    simp only[aF2,eW0]
    rw[e3]at e4
    have e5:f'=_:=(fk5 (ca0 e4)).1
    refine⟨_,rfl,⟨k+1,?_,by omega,⟨_,h3⟩,?_⟩,?_⟩
    ·simp only
     rw[j4 (by omega) (by omega)]
     omega
    ·show bO4 l cyc (bl v) s.u.D9 f' (k+1)
     rw[e5]
     refine⟨by simp only[eh3];exact ht.len,fun j q1 q2 q3 q4 q5=>?_,fun j q1 q2 q3=>?_⟩
     ·by_cases hj:k=j
      ·subst hj
       apply Exists.intro
       simp only[dy0]
       rw[ht.left k (bO2 _) hkl q3]
      ·simp only[List.getElem_set_ne hj]
       exact ht.done j (by omega) _ q3 q4 q5
     ·simp only[List.getElem_set_ne (show k≠j by omega)]
      exact ht.left j (by omega) _ q3
    ·simp only
     rw[j4 (by omega) (by omega)]
     omega
   ·right
    rw[fk9 (show¬((k:Nat):Int)<7 by omega)]
    have:k=7:=by omega
    subst this
    exact⟨_,rfl,_,_,t,rfl,hi,ht⟩)
 obtain⟨b,e1,i,f,t',e2,h2,h3⟩:=key 7 (0,s.u.D9) (by simp) ⟨0,rfl,by omega,⟨t,h⟩,rfl,fun j q1=>by omega,fun j _ _ _=>rfl⟩
 grind
def bQ8 {s:j6}(hs:SOk s){n:Int}(hk:∀b∈s.k,b.az4≠n):(V8 s n).m=some (0,false):=by
 have hf:=hs.few
 simp only[V8,C.of,M.run]
 obtain⟨u,e,_⟩:=aM9 s.k (by omega) (fun i x (u:Unit)=>(ag4 s n i x u).run) (fun _ _=>True) () trivial (fun k x u hx _=>by
  simp only[ag4,M.run]
  rw[bf (hk x (List.mem_of_getElem? hx))]
  simp)
 rw[e]
 rfl
theorem em4 {x a b:Int}(h:a<=x/\x<=b):F7 (G8 x a) b=x:=by
 grind [F7,G8]
def ej1 (x:Int):0<=U3 .i64 x 65535/\U3 .i64 x 65535<=65535:=by
 unfold U3
 show 0<=fb2.wrap ((BitVec.ofInt 64 x&&&BitVec.ofInt 64 65535).toNat:Int)/\_
 have e:(BitVec.ofInt 64 x&&&BitVec.ofInt 64 (65535:Int)).toNat=(BitVec.ofInt 64 x).toNat%65536:=by
  rw[BitVec.toNat_and,show(BitVec.ofInt 64 (65535:Int)).toNat=2^16-1 by rfl,Nat.and_two_pow_sub_one_eq_mod]
 show 0<=fb2.wrap _/\fb2.wrap ((BitVec.ofInt 64 x&&&BitVec.ofInt 64 65535).toNat:Int)<=65535
 grind [j4]
def cz6 (n:Int)(l:List Int)(hl:l.length<=100)(hp:ptB l=true)(hq:quB n=true):∃a,(bo4 n l).m=some (a,0)/\0<=a/\a<=65535:=by
 simp only[bo4,C.of,M.run,dA8,hp,bT0,hq,aF2,aX5,fk6]
 have hb:1<=n/\n<=65535:=by grind [quB]
 obtain⟨a,e,h⟩:=aM9 l (by omega) (fun i x (a:Int)=>(bw9 i x a).run) (fun _ a=>0<=a/\a<=65535) n (by omega) (fun k x a hx hI=>by
  simp only[bw9,M.run]
  exact⟨_,rfl,ej1 _⟩)
 grind
def eV0 {g:ai3}{p a:Int}(ha:a<=p):∃h e,(aV4 g p a).m=some (h,e)/\(e=0->grB h=true/\h.Off=g.Off):=by
 by_cases hb:grB g=true/\(-20000<=p/\p<=20000)/\(-20000<=a/\a<=20000)
 ·obtain⟨h,e,h1,h2,h3⟩:=eH1 g p a
  grind
 ·simp only[aV4,C.of,M.run,cm7,de2,aF2]
  cases h1:grB g
  ·exact⟨_,_,rfl,fun h=>by cases h⟩
  ·simp only[aX5,fk6]
   cases e1:(decide (p>= -20000)&&decide (p<=20000))
   ·exact⟨_,_,rfl,fun h=>by cases h⟩
   ·cases e2:(decide (a>= -20000)&&decide (a<=20000))
    ·exact⟨_,_,rfl,fun h=>by cases h⟩
    grind
def dz8 (p:Int):∀(l:List j1) (x:Int),l.foldl (dg5 p) x<=x
 |[],x=>Int.le_refl _
 |y::l,x=>by
  rw[List.foldl_cons]
  refine Int.le_trans (dz8 p l _) ?_
  unfold dg5
  cases(y.Kind==1)&&decide (y.E7>p)
  ·simp
  ·simp only[fk7];grind [F7]
def eu7 (l:List j1)(p x:Int):100<=j5 (G8 0 (F7 (l.foldl (dg5 p) 10000) x)+100):=by
 have:=dz8 p l 10000
 grind [G8,F7,j4]
def dr1 {c:j6}(ht:cd7 c.u.A0=true)(hs:0<=c.o8/\c.o8<=12000)(hc:0<=c.A4/\c.A4<=1048576)(h1:1<=c.F3.O3.length)(h8:c.F3.O3.length<=8)(hz:∀x∈c.F3.O3,x.Z7=0):(au9 c).m=some 0:=by
 have hm:bp9 c.u.A0.o9=true:=by
  have:=(dh7 ht).tor
  simp_all[aZ3]
 obtain⟨v,k,_,e1,_⟩:=cv1 hm c.o8 c.A4
 have:=da9 c.u.A0 c.o8 c.A4 hm (by
  grind) k e1 c.F3.O3 h1 h8
 simp only[au9,CG.of,M.run,bz3]
 rw[this]
 have h0:c.F3.O3.countP bZ4=0:=by
  grind [bZ4]
 rw[h0]
 simp only[aF2,Option.some.injEq]
 unfold dj0
 have:((0:Nat):Int)=0:=rfl
 simp only[this,Int.mul_zero,Int.zero_add]
 rw[cx1 (by omega),Int.ediv_eq_zero_of_lt (by omega) (by omega)]
def ex3 {q:ad9}{now a:Int}{l:List Int}(hq:qzB q=true)(hl:ptB l=true)(hn:l.length<=100)(ha:0<=a/\a<=65535)(ht:ae6 now=true)(ho:q.Open=true)(hle:q.ap5<=now):
  ∃x r,(bo4 q.Question l).m=some (x,0)/\(cg0 q now a l).m=some (r,0)/\qzB r=true/\r.ap5=0/\r.Open=false/\r.Off=(r.T6==7)/\
   r.T6=(if(((x==a)&&decide (j5 (now-q.ap5)>=10000))&&decide (j5 (now-q.ap5)<=20000))=true then G8 (q.T6-1) 0 else F7 (q.T6+2) 7):=by
 have hqu:quB q.Question=true:=by
  have:=hq
  simp only[qzB,aK5]at this
  exact this.1.1.1.1.1.1
 obtain⟨x,e1,_⟩:=cz6 q.Question l hn hl hqu
 obtain⟨r,e2,h2,h3,h4,_,h5,h6⟩:=eY3 q (((x==a)&&decide (j5 (now-q.ap5)>=10000))&&decide (j5 (now-q.ap5)<=20000)) hq
 refine⟨x,r,e1,?_,h2,h3,h4,h6,h5⟩
 simp only[cg0,C.of,M.run,co5,hq,cg1,ht,dA8,hl,eK0,aF2,aX5,fk6,ho,e1]
 rw[fk8 (show a>=0 by omega),fk8 ha.2,fk9 (show¬now<q.ap5 by omega)]
 simp only[Bool.and_self,aX5,fk6]
 rw[e2]
 rfl
def dX2 {s:j6}(hs:SOk s)(hq:qzB s.u.K4=true)(ho:s.u.K4.Open=true)(ha:s.u.K4.ap5+10000=s.t){b1:Int}{b2:Bool}(hb:(V8 s 6).m=some (b1,b2))(hv:b2=true->1<=b1/\b1<=65535):
  ∃q,(aF6 s).m=some {s with u:={s.u with K4:=q}}/\
   qzB q=true/\q.T6=(if b2=true then F7 (s.u.K4.T6+2) 7 else G8 (s.u.K4.T6-1) 0)/\q.Off=(q.T6==7)/\(q.Off=false->q.Open=true/\q.ap5=s.t)/\(q.Off=true->q.Open=false)/\q.ap5<=s.t:=by
 have ht:=hs.t
 have hsp:=hs.spd
 obtain⟨v,e1,v1⟩:=dS7 s.V9 65536 (by omega) (by omega)
 have hl:ptB [s.o8,v,7]=true:=by
  unfold ptB
  simp only[bu9,cJ8,List.any_cons,List.any_nil,eN9,aK5,Bool.not_eq_true',cw7,Bool.not_eq_false',fl2]
  omega
 have htm:ae6 s.t=true:=az3.2 ht
 have hqu:quB s.u.K4.Question=true:=by
  have:=hq
  simp only[qzB,aK5]at this
  exact this.1.1.1.1.1.1
 obtain⟨x,e2,x0⟩:=cz6 s.u.K4.Question [s.o8,v,7] (by simp) hl hqu
 have kk:∃y,(bif b2 then(ac9 (j5 (x+b1)) 65536).m.bind fun t=>some t else some x)=some y/\(0<=y/\y<=65535)/\(x=y↔b2=false):=by
  cases b2
  ·exact⟨_,rfl,x0,by simp⟩
  ·have h1:=hv rfl
   simp only[fk7]
   rw[j4 (by omega) (by omega),dn1 _ _ (by omega) (by omega)]
   refine⟨_,rfl,by omega,?_⟩
   constructor
   ·intro h;omega
   ·intro h;cases h
 obtain⟨y,e3,y0,yx⟩:=kk
 obtain⟨x',r,q1,q2,q3,q4,q5,q6,q7⟩:=ex3 (q:=s.u.K4) (now:=s.t) (a:=y) (l:=[s.o8,v,7]) hq hl (by simp) y0 htm ho (by omega)
 rw[e2]at q1
 cases q1
 have hr:r.T6=(if b2=true then F7 (s.u.K4.T6+2) 7 else G8 (s.u.K4.T6-1) 0):=by
  rw[q7,j4 (by omega) (by omega),fk8 (show s.t-s.u.K4.ap5>=10000 by omega),fk8 (show s.t-s.u.K4.ap5<=20000 by omega)]
  simp only[Bool.and_true]
  cases hb2:b2
  ·rw[if_pos (by rw[beq_iff_eq];exact yx.2 hb2),if_neg (by simp)]
  ·rw[if_neg (by rw[beq_iff_eq];intro h;have:=yx.1 h;rw[hb2]at this;cases this),if_pos rfl]
 obtain⟨w,n,e,e8,h8,h9⟩:=ev6 r s.t
 simp only[aF6,CG.of,M.run,ho,fk7,e1,e2,hb,e3,q2,eO6,er8,aF2]
 rw[show((0:Int) !=0)=false from rfl]
 simp only[fk6,e8,aF2]
 refine⟨_,rfl,?_⟩
 by_cases dm5:r.Off=false
 ·have he:=h9 q3 htm q5 dm5
  subst he
  obtain⟨a1,a2,a3,a4,a5⟩:=h8 rfl
  rw[show((0:Int) !=0)=false from rfl]
  simp only[fk6]
  refine⟨a1,by rw[a4];exact hr,by rw[a5,a4];exact q6,fun _=>⟨a3,a2⟩,fun h=>?_,by omega⟩
  rw[a5,dm5]at h
  cases h
 ·have dm5:r.Off=true:=by simpa using dm5
  have he:¬e=0:=by
   intro he
   subst he
   obtain⟨a1,a2,a3,a4,a5⟩:=h8 rfl
   have:=a1
   simp only[qzB,aK5]at this
   have h2:=this.2
   rw[a3,a5,dm5]at h2
   cases h2
  rw[enz he]
  simp only[fk7]
  refine⟨q3,hr,q6,fun h=>?_,fun _=>q5,by omega⟩
  rw[dm5]at h
  cases h
theorem dX3 {s:j6}(hs:SOk s)(hq:qzB s.u.K4=true)(ho:s.u.K4.Open=false)(hf:s.u.K4.Off=false):
  ∃q,(aF6 s).m=some {s with u:={s.u with K4:=q}}/\
   qzB q=true/\q.T6=s.u.K4.T6/\q.Off=false/\q.Open=true/\q.ap5=s.t:=by
 obtain⟨w,n,e,e8,h8,h9⟩:=ev6 s.u.K4 s.t
 have he:=h9 hq (az3.2 hs.t) ho hf
 subst he
 obtain⟨a1,a2,a3,a4,a5⟩:=h8 rfl
 simp only[aF6,CG.of,M.run,ho,fk6,e8,eO6,er8,aF2]
 exact⟨_,rfl,a1,a4,by rw[show(bif ((0:Int) !=0)then s.u.K4 else w)=w from rfl,a5];exact hf,a3,a2⟩
def dk8 {r:S1}(h16:r.W9.length<=16)(f:Cl Tryz.prog Int Bool (fun x=>[.t (tI x)]) (fun r=>.t (tB r)))(p:Int->Bool)(hf:∀c∈r.W9,f.f c=some (p c)):
  (aO9 r f).m=some (r.W9.filter p):=by
 simp only[aO9,C.of,M.run]
 obtain⟨o,h1,h2⟩:=aM9 r.W9 (by omega) (fun i x (o:List Int)=>(aE1 f i x o).run) (fun k o=>o=(r.W9.take k).filter p) [] (by simp) (fun k x o hx hI=>by
  obtain⟨hk,rfl⟩:=List.getElem?_eq_some_iff.1 hx
  subst hI
  simp only[aE1,M.run,U1.m,Cl.at,hf _ (bf3 hk),aF2]
  have ht:r.W9.take (k+1)=r.W9.take k++[r.W9[k]]:=cW8 hk
  cases hp:p r.W9[k]
  ·refine⟨_,rfl,?_⟩
   rw[ht,dq4];simp[hp]
  ·simp only[fk7]
   have hl:((r.W9.take k).filter p).length<=16:=Nat.le_trans (List.length_filter_le ..) (by rw[List.length_take];omega)
   rw[I1 _ _ (by simp only[cJ4];omega)]
   refine⟨_,rfl,?_⟩
   rw[ht,dq4];simp[hp])
 rw[h1,h2,eC8]
 rfl
def eD8 (i:Nat):List Int->List Q7
 |[]=>[]
 |c=>[⟨(i:Int),c⟩]
def bL4 (p:Int->Bool)(n:Nat):List Q7:=(List.range n).flatMap fun i=>eD8 i ((R0.getD i ⟨ByteArray.mk #[],0,0,[],0⟩).W9.filter p)
def cY9 (f:Cl Tryz.prog Int Bool (fun x=>[.t (tI x)]) (fun r=>.t (tB r)))(p:Int->Bool)(hf:∀c,0<=c->c<7->f.f c=some (p c)):
  (aK1 R0 f).m=some (bL4 p 7):=by
 simp only[aK1,C.of,M.run]
 obtain⟨a,h1,h2,_⟩:=ag9 R0.length (by rw[cK1];omega) (fun i (o:List Q7)=>(az2 R0 f i o).run) (fun k o=>o=bL4 p k/\o.length<=k) [] ⟨rfl,bO2 _⟩ (fun k o hk hI=>by
  obtain⟨hI,hl⟩:=hI
  subst hI
  have hr:=dr6 da6 (bf3 hk)
  rw[fl2]at hr
  have hv:=dk8 hr.1 f p (fun c hc=>by
   have:=bt1.1 hr.2 c hc
   rw[aK5,fl2,fl2]at this
   exact hf c this.1 this.2)
  have hk7:k<7:=hk
  simp only[az2,M.run,L1.m,U1.m]
  rw[U4,aX4 hk]
  simp only[aF2,hv]
  have hs:bL4 p (k+1)=bL4 p k++eD8 k (R0[k].W9.filter p):=by
   unfold bL4
   rw[List.range_succ,List.flatMap_append,List.flatMap_singleton,List.getD_eq_getElem?_getD,aX4 hk]
   rfl
  rw[hs]
  cases hc:R0[k].W9.filter p with
  |nil=>exact⟨_,rfl,by simp[eD8],by omega⟩
  |cons x l=>
   rw[fk8 (show(((x::l).length:Nat):Int)>0 by simp only[bu9];omega)]
   simp only[fk7]
   rw[I1 _ _ (by simp only[cJ4];omega)]
   exact⟨_,rfl,by simp[eD8],by simp only[bd4,cJ4];omega⟩)
 rw[h1,h2,cK1]
 rfl
def di9 {f:C2}(hv:(aa2 f).m=some true)(hl:f.L.length=7)(p:Int->Bool)(hp:∀c:Nat,(h:c<f.L.length)->(U3 .i64 (f.L[c]).D8 5 !=0)=p (c:Int)):(aO8 R0 f).m=some (bL4 p 7,0):=by
 have h1:=cY9 (.of (fun z_=>aG5 z_ (-1) f) 323 [Pv.encI (-1),aR5 f]) p (fun c h0 h7=>by
  simp only[Cl.of,aG5,C.of,M.run,L1.m]
  rw[show(c != -1)=true by simp;omega]
  obtain⟨n,rfl⟩:∃n:Nat,c=(n:Int):=⟨c.toNat,by omega⟩
  rw[U4,aX4 (by omega)]
  simp only[fk7,aF2]
  rw[hp n (by omega)])
 simp only[aO8,bx2,bq1,C.of,M.run,hv,hl,aF2,fk7]
 rw[show(((7:Nat):Int))=7 by rfl,da7]
 simp only[aF2,aX5,fk6]
 rw[h1]
 rfl
theorem eG6 {x:A5}(h:Fr.fqP x):(U3 .i64 x.D8 5 !=0)=false:=by
 rcases h.1 with e|e<;>rw[e]<;>rfl
def eF1 {s:j6}(hp:bX6 s.u.ab7 s.u.B3)(ht:cd7 s.u.A0=true)(hf:s.F3.O3.length<=1000):
  ∃r,(bf1 s).m=some r/\∃p q,r={s with u:={s.u with B3:=p},T8:=q}/\bX6 s.u.ab7 p/\(s.u.M5.W4=false->q=s.T8):=by
 simp only[bf1,CG.of,M.run,bgi]
 have hf2:s.u.M5.W4=false->(bif (((!s.cut)&&s.u.M5.W4)&&s.known)then s.F3.o9 else s.T8)=s.T8:=fun h=>by rw[h];cases s.cut<;>rfl
 generalize(bif (((!s.cut)&&s.u.M5.W4)&&s.known)then s.F3.o9 else s.T8)=f2 at hf2|-
 refine eN5 (fun p=>bX6 s.u.ab7 p) (fd4 (fun _=>?_) (fun _=>⟨_,rfl,hp⟩)) fun p h1=>?_
 ·obtain⟨v,e1,h2⟩:=dJ4 s.F3.O3 (by omega) (.of (fun z_=>bE6 z_) 213 []) (fun x=>x.Z7 !=0) (fun x=>rfl)
  rw[e1]
  simp only[aF2]
  refine eN5 (fun _=>True) (fd4 (fun h3=>?_) (fun _=>⟨_,rfl,trivial⟩)) fun m _=>?_
  ·rw[fl2]at h3
   have h4:=h2 h3
   obtain⟨k,rfl⟩:∃k:Nat,v=(k:Int):=⟨v.toNat,by omega⟩
   simp only[L1.m]
   rw[U4,aX4 (by omega)]
   simp only[aF2]
   obtain⟨r,e⟩:=es9 ht (s.F3.O3[k]'(by omega)).Z7
   rw[e]
   exact⟨_,rfl,trivial⟩
  ·obtain⟨r,u,e,e2,h3⟩:=ed6 hp m s.A4
   simp only[e2,eO7,es0,aF2]
   exact⟨_,rfl,dS3 hp h3⟩
 ·generalize(bif decide (s.o8<400)then j5 (f2+800)else f2)=q
  generalize(bif s.u.M5.W4 then s.F3.J2 else 0)=a
  generalize(bif s.d.ca6 !=0 then j5 (s.d.ca8+s.d.bt5)else 0)=g
  obtain⟨r,u,e,e2,h3⟩:=eJ5 h1 a (F7 q 10000) g 10000
  simp only[e2,eO7,es0,aF2]
  exact⟨_,rfl,_,_,rfl,dS3 h1 h3,hf2⟩
def eX6 (g:ao8)(l:List j8):∃x,(cg8 g l).m=some x/\x.1.length<=1000/\(g.W4=false->∀w∈x.1,w.L4=false):=by
 obtain⟨b,e1,h1⟩:=es6 l
 simp only[cg8,C.of,M.run,cU7,aF2]
 cases hv:sgB g
 ·exact⟨_,rfl,by simp,fun _ w hw=>by simp at hw⟩
 ·simp only[aX5,fk6,e1,aF2]
  cases b
  ·exact⟨_,rfl,by simp,fun _ w hw=>by simp at hw⟩
  ·have hl:=h1 rfl
   simp only[aX5,fk6]
   rw[dY4 l (by omega)]
   simp only[aF2]
   have e2:(N9 l (.of (fun z_=>cq2 z_ g) 310 [bv6 g])).m=some (l.filter fun y=>!(y.L4&& !g.W4)):=eT1 l (by omega) _ (fun y=>y.L4&& !g.W4) (fun y _=>rfl)
   rw[e2]
   refine⟨_,rfl,Nat.le_trans (List.length_filter_le ..) hl,fun hE w hw=>?_⟩
   have:=(List.mem_filter.1 hw).2
   rw[hE]at this
   simpa using this
def ex2 (s:j6):∃l,(bp6 s).m=some ⟨s.t,s.o8,s.T8,s.V9,l,s.Z9,!s.u.M5.W4⟩/\l.length<=1000/\(s.u.M5.W4=false->∀w∈l,w.L4=false):=by
 obtain⟨x,e1,h1,h2⟩:=eX6 s.u.M5 s.A3
 simp only[bp6,CG.of,M.run,e1,aF2]
 exact⟨_,rfl,h1,h2⟩
def eo8 {s:j6}(hgr:grB s.u.M3=true)(hqz:qzB s.u.K4=true)(htm:ae6 s.t=true)(hg:sgB s.u.M5=true/\s.u.M5.aR0<=s.t)(h:Sch s.u.j3 s.u.j3)(hf:s.F3.O3.length<=8)(hl:s.A3.length<=1000000):
  ∃g c w,(ba2 s).m=some {s with u:={s.u with j3:=c,M5:=g},A3:=w}/\
   (sgB g=true/\g.aR0<=s.t)/\Sch s.u.j3 c/\w.length<=s.A3.length+100/\g.W4=(csV true s.u.M3 s.u.K4==0):=by
 obtain⟨r,e,e1,h1,h0⟩:=eL1 s.u.M5 true s.u.M3 s.u.K4 s.t
 have hen:(bif e !=0 then s.u.M5 else r).W4=(csV true s.u.M3 s.u.K4==0):=by
  have he:=h0 hg.1 hgr hqz htm hg.2
  subst he
  exact(h1 rfl).2.2
 have hr:sgB (bif e !=0 then s.u.M5 else r)=true/\(bif e !=0 then s.u.M5 else r).aR0<=s.t:=by
  by_cases he:e=0
  ·subst he
   obtain⟨q1,q2,_⟩:=h1 rfl
   rw[show((0:Int) !=0)=false from rfl]
   exact⟨q1,by simp only[fk6];omega⟩
  ·rw[show(e !=0)=true by simpa using he];exact hg
 simp only[ba2,CG.of,M.run,fg6,eW3,e1,aF2]
 generalize(bif e !=0 then s.u.M5 else r)=g at hr hen|-
 cases hE:g.W4
 ·obtain⟨t,l,e2,h2,h3⟩:=dP9 h
  simp only[Bool.not_false,fk7,e2,aF2]
  rw[bU6 _ _ l 0 (by simp only;omega)]
  simp only[aF2]
  exact⟨g,t,s.A3++l,rfl,hr,h2,by rw[bd4];omega,hE▸hen⟩
 ·simp only[aX5,fk6]
  have key:∃c,(bif s.u.j3.Cut then(aD3 s.u.j3).m.bind fun t=>(ad5 s.u.j3).m.bind fun t_1=>(an7 t_1.1 t_1.2 t).m.bind fun t=>some t else some s.u.j3)=some c/\Sch s.u.j3 c:=by
   cases s.u.j3.Cut
   ·exact⟨_,rfl,h⟩
   ·obtain⟨t,e,e2,h2⟩:=dL8 h
    simp only[fk7,er9,dJ7,e2,aF2]
    exact⟨_,rfl,h2⟩
  obtain⟨c,e3,h3⟩:=key
  rw[e3]
  simp only[aF2]
  obtain⟨t,e,e4,h4⟩:=eC3 (s:=c) ⟨h3.ok,h3.few,rfl,rfl⟩ s.F3.O3 hf
  simp only[er9,dJ7,e4,aF2]
  exact⟨g,_,s.A3,rfl,hr,⟨h4.ok,h4.few,h4.eng.trans h3.eng,h4.now.trans h3.now⟩,by omega,hE▸hen⟩
theorem eS7 {g:ai3}{q:ad9}(h:g.Off=false):(csV true g q==0)= !q.Off:=by
 unfold csV
 rw[h]
 cases q.Off<;>rfl
def nxU (l:List I9)(k:List aa6)(u:af9):af9×aa9×Int:=((bv1 l u.Time).m.bind fun r=>(bn4 u r.1 k).m).getD ⟨u,⟨0,0,0,0,[],[],false⟩,0⟩
def sq (l:List I9)(k:List aa6)(u:af9):Nat->af9
 |0=>u
 |i+1=>(nxU l k (sq l k u i)).1
structure da2 (l:List I9)(k:List aa6):Prop where
 cf:Fr.Cfs cf0
 val:(aA7 l).m=some true
 dr:eD4 l
 few:k.length<=100
 brk:∀x∈k,eS0 x
def cG7 (l:List I9)(k:List aa6)(u:af9)(n:Nat):List aa9:=(List.range n).map fun i=>(nxU l k (sq l k u i)).2.1
theorem aw:(aM6).m=some true:=(aM6).le 1000 _ (by kernel_rfl)
theorem dW7 (l:List (List Int))(hl:l.length<=1000000)(f:Cl Tryz.prog (List Int) Bool (fun x=>[.t (tS Pv.encI x)]) (fun r=>.t (tB r)))(p:List Int->Bool)(h:∀x∈l,f.f x=some (p x)):(G2 l f).m=some (l.any p):=by
 simp only[G2,W7,aa5,C.of,M.run,L1.m,Cl.at]
 refine Eq.trans ?_ (bJ5 l (by omega) f.f p h)
 kernel_rfl
def eG2 (t:o7):∃b,(bj3 t).m=some b:=by
 simp only[bj3,C.of,M.run]
 rcases bx0 [t.Air,t.O2,t.o9,t.aI4] (by simp) (fun i x (u:Unit)=>(aX0 i x u).run) (fun _ _=>True) (fun _=>True) () trivial (fun k x u hx _=>by
  simp only[aX0,M.run]
  cases hc:(((decide ((x.X.length:Int)>40))||(decide ((x.Y.length:Int)>40)))||(decide ((x.Z.length:Int)>40)))
  ·simp only[cw7,fl3]at hc
   simp only[fk6]
   rw[dW7 x.Z (by omega) (.of (fun z_=>bw1 z_) 46 []) _ (fun y _=>rfl)]
   simp only[aF2]
   generalize(x.Z.any _)=c
   cases c
   ·exact .inl ⟨_,rfl,trivial⟩
   ·exact .inr ⟨_,rfl,trivial⟩
  ·exact .inr ⟨_,rfl,trivial⟩)with⟨u,e,_⟩|⟨r,e,_⟩
 ·rw[e]
  simp only[aF2]
  rcases bx0 [t.M0,t.af6,t.aw6,t.C7] (by simp) (fun i x (u:Unit)=>(aX1 i x u).run) (fun _ _=>True) (fun _=>True) () trivial (fun k x u hx _=>by
   simp only[aX1,M.run]
   cases hc:((decide ((x.X.length:Int)>40))||(decide ((x.Y.length:Int)>40)))
   ·exact .inl ⟨_,rfl,trivial⟩
   ·exact .inr ⟨_,rfl,trivial⟩)with⟨u,e,_⟩|⟨r,e,_⟩
  ·rw[e];exact⟨_,rfl⟩
  ·rw[e];exact⟨_,rfl⟩
 ·rw[e];exact⟨_,rfl⟩
abbrev eh5 (u:af9)(k:List aa6)(Q:ad9->Prop):Prop:=∀s:j6,SOk s->s.u.K4=u.K4->s.k=k->s.t=u.Time->∃q,(aF6 s).m=some {s with u:={s.u with K4:=q}}/\qzB q=true/\q.ap5<=s.t/\Q q
def fi1 {l:List I9}{k:List aa6}(g:da2 l k){u:af9}(h:UOk u)(n:Nat)(hn:n<=1000)(hs:∀i,i<n->∃d,(bv1 l (sq l k u i).Time).m=some (d,0)/\(bn4 (sq l k u i) d k).m=some (nxU l k (sq l k u i))/\(nxU l k (sq l k u i)).2.2=0):(cH9 u l k (n:Int)).m=some (cG7 l k u n,0):=by
 simp only[cH9,C.of,M.run,di2 g.cf h,cN3 g.few g.brk,g.val,aF2,aX5,fk6]
 rw[fk9 (show¬(n:Int)<0 by omega),fk9 (show¬(n:Int)>1000 by omega)]
 simp only[eC7,fk6]
 obtain⟨s,e,h1,h2⟩:=ag9 n (by omega) (fun i (s:List aa9×af9)=>(ce0 l k i s).run) (fun i s=>s.1=cG7 l k u i/\s.2=sq l k u i) ([],u) ⟨rfl,rfl⟩ (fun i s hi ⟨q1,q2⟩=>by
  obtain⟨o,v⟩:=s
  simp only at q1 q2
  subst q1;subst q2
  obtain⟨d,e1,e2,e3⟩:=hs i hi
  simp only[ce0,M.run,U1.m,e1,e2,e3,aF2]
  rw[show((0:Int) !=0)=false from rfl,I1 _ _ (by simp only[cG7,List.length_map,List.length_range,cJ4];omega)]
  refine⟨_,rfl,?_,rfl⟩
  simp only[cG7,List.range_succ,List.map_append,List.map_cons,List.map_nil])
 rw[e]
 show some (s.1,(0:Int))=_
 rw[h1]
structure Calm (u:af9):Prop where
 guard:u.M3.Off=false
 off:u.K4.Off=false
 err:u.K4.T6=0
 op:u.K4.Open=true->u.K4.ap5+10000=u.Time
 flt:∀x∈u.D9.L,Fr.fqP x
theorem fn9:G8 ((0:Int)-1) 0=0:=rfl
def F0:C2:=(((aC1 cf0).e 200).getD (⟨[],[],0,false⟩,0)).1
def F1:C2:=(((ax1 F0).e 200).getD (⟨[],[],0,false⟩,0)).1
def fo1:(aC1 cf0).m=some (F0,0):=(aC1 cf0).le 200 _ (by kernel_rfl)
def eR8:(ax1 F0).m=some (F1,0):=(ax1 F0).le 200 _ (by kernel_rfl)
def eQ8:(F1.L.all fun x=>(x.D8==0)&&decide (x.Count<=0))=true:=by kernel_rfl
def eh8:∀x∈F1.L,Fr.fqP x:=fun x hx=>by
 have:=bt1.1 eQ8 x hx
 simp only[aK5,beq_iff_eq,fl2]at this
 exact⟨.inl this.1,this.2⟩
def fh2 (t:o7)(b:L6)(e:o5):∃u f,(bV7 t b e cf0).m=some (u,f)/\(f=0\/f=1)/\(f=0->Fr.Cfs cf0/\UOk u/\u.Time=0/\Calm u/\u.K4.Open=false/\u.j3=Sc.bN6 e):=by
 obtain⟨p,pe,e3,h3⟩:=eY0 b
 have e5:(ad0 t).m=some (cd7 t):=by rw[bh8,bi5]
 have bad:∀{c:Bool}{x:Option (af9×Int)}{z:af9},c=true->∃u f,(bif c then some (z,1)else x)=some (u,f)/\(f=0\/f=1)/\(f=0->Fr.Cfs cf0/\UOk u/\u.Time=0/\Calm u/\u.K4.Open=false/\u.j3=Sc.bN6 e):=by
  intro c x z h
  rw[h]
  exact⟨_,_,rfl,.inr rfl,fun h=>by cases h⟩
 by_cases he:Ev.aE5 e
 ·have e1:(aA5 e).m=some (eI8 e.A7.length,0):=by rw[bO8,bQ9,fk8 he];rfl
  have e2:(ap2 e).m=some (Sc.bN6 e,0):=by rw[bD4,Sc.dU5,fk8 he];rfl
  rcases Fr.dn4 (l:=cf0) (by rw[bl1];omega)with⟨x,e4,hx⟩|⟨hc,f,e4,hi⟩
  ·simp only[bV7,C.of,M.run,e1,e2,e3,e5,br2,e4,aF2]
   exact bad (by rw[enz hx];simp)
  ·simp only[bV7,C.of,M.run,e1,e2,e3,e5,br2,e4,aF2]
   by_cases hp:pe=0
   ·subst hp
    have pk:=h3 rfl
    cases ht:cd7 t
    ·exact bad (by simp)
    ·rw[show((((((!true)||((0:Int) !=0))||((0:Int) !=0))||((0:Int) !=0))||((0:Int) !=0))||(decide ((cf0.length:Int)<7)))=false by rw[bl1];rfl]
     simp only[fk6]
     obtain⟨f',e6,hi'⟩:=Fr.el1 hc hi (by omega) (by omega)
     have ef:f=F0:=by
      have:=fo1
      rw[br2,e4]at this
      exact(fk5 (ca0 this)).1
     have ef':f'=F1:=by
      have:=eR8
      rw[bP1,<-ef,e6]at this
      exact(fk5 (ca0 this)).1
     simp only[bP1,e6,fh8,fj8,eu8,tf0,eZ1,aF2]
     refine⟨_,_,rfl,.inl rfl,fun _=>⟨hc,⟨ht,pk,Sc.dn4 he,by simp[Sc.bN6],rfl,et5 he,⟨rfl,by simp⟩,⟨eZ5,by simp⟩,eX8,rfl,⟨rfl,by simp⟩,⟨rfl,by simp⟩,⟨_,_,by omega,hi'⟩,by simp,by simp⟩,rfl,⟨rfl,rfl,rfl,fun h=>(by cases h),(show∀x∈f'.L,Fr.fqP x by rw[ef'];exact eh8)⟩,rfl,rfl⟩⟩
   ·exact bad (by rw[enz hp];simp)
 ·have e1:(aA5 e).m=some (eQ2,1):=by rw[bO8,bQ9,fk9 he];rfl
  have e2:(ap2 e).m=some (Sc.cr6,1):=by rw[bD4,Sc.dU5,fk9 he];rfl
  obtain⟨x,f,e4⟩:∃x f,Pv.aC1 cf0=some (x,f):=by
   rcases Fr.dn4 (l:=cf0) (by rw[bl1];omega)with⟨x,e4,hx⟩|⟨hc,f,e4,hi⟩
   ·exact⟨_,_,e4⟩
   ·exact⟨_,_,e4⟩
  simp only[bV7,C.of,M.run,e1,e2,e3,e5,br2,e4,aF2]
  exact bad (by simp)
def ec2 {s:j6}(hs:SOk s)(hk:∀b∈s.k,b.az4≠7)(ho:s.u.M3.Off=false)(ha:eD3 s)(ht:cd7 s.u.A0=true)(hg:bA2 s.u.j3.A1 s.u.w9=true)(hgr:grB s.u.M3=true)(h1:1<=s.F3.O3.length)(h8:s.F3.O3.length<=8):
  ∃g f p c b,(aU2 s).m=some {s with u:={s.u with M3:=g},F3:=⟨s.F3.J2,f,s.F3.o9⟩,V9:=p,A4:=c,cut:=b}/\
   (grB g=true/\g.Off=false)/\f.length=s.F3.O3.length/\100<=p:=by
 have hc:=ce8.1 hg
 have hp:=(dT1.1 hc.ped).v
 have h2:=ha.aQ7;have h3:=ha.D6;have h4:=ha.C5
 have tok:=dh7 ht
 have e1:(ax2 s.u.w9.L5.Value s.o8 s.D6).m=some (dF5 s.u.w9.L5.Value s.o8 s.D6):=by
  rw[bP6];exact ei3 h3
 have e2:(aC8 s.u.A0 s.o8 s.C5 s.aQ7).m=some (chV s.u.A0 s.o8 s.C5 s.aQ7,0):=by
  rw[bY9];exact ci9 tok.air hs.spd (by omega) h2
 have hch:0<=chV s.u.A0 s.o8 s.C5 s.aQ7/\chV s.u.A0 s.o8 s.C5 s.aQ7<=1048576:=
  be7 tok (⟨0,0,s.o8,s.C5,s.aQ7,13500,s.aJ8,s.D6,[],[]⟩:X5)
 obtain⟨v,k,_,e3,_⟩:=cv1 tok.cH3 s.o8 s.u.w9.L5.Value
 have mm:cD0=cU1:=funext fun r=>ca0 ((dT9 r).symm.trans (dL7 r))
 have r9:cU1 ⟨9,1,s.au4,15⟩=true:=by rw[cp4,fl2];exact fi0 _ ha.au4
 have r1:cU1 ⟨1,2,1500,1⟩=true:=by rw[cp4,fl2];exact fh9 _ (by omega)
 have e4:∀l:List j1,l.all cU1=true->l.length<=32->∃p e,(af0 s.u.A0 s.u.w9.L5.Value s.o8 l).m=some (p,e)/\100<=p:=fun l hl hn=>by
  rw[bQ0,do3 s.u.A0 s.u.w9.L5.Value s.o8 tok.cH3 (by
   have hsp:=hs.spd
   rw[fk8 (show s.u.w9.L5.Value>=0 by omega),fk8 (show s.u.w9.L5.Value<=1000 by omega),fk8 hsp.1,fk8 hsp.2];rfl) k e3 l (by rw[mm];exact hl) hn]
  exact⟨_,_,rfl,eu7 _ _ _⟩
 have e5:∃l:List j1,(bif dF5 s.u.w9.L5.Value s.o8 s.D6 then(V4 ([⟨9,1,s.au4,15⟩]:List j1) ([⟨1,2,1500,1⟩]:List j1)).bind fun t=>some t else some ([⟨9,1,s.au4,15⟩]:List j1))=some l/\l.all cU1=true/\l.length<=32:=by
  cases dF5 s.u.w9.L5.Value s.o8 s.D6
  ·exact⟨_,rfl,by simp[r9],by simp⟩
  ·rw[I1 _ _ (by simp)]
   exact⟨_,rfl,by simp[r9,r1],by simp⟩
 obtain⟨l,e6,l1,l2⟩:=e5
 obtain⟨p,e,e7,hp100⟩:=e4 l l1 l2
 simp only[aU2,CG.of,M.run,L1.m,U1.m,cD1,e1,aF2]
 rw[e6]
 simp only[aF2,e7,e2]
 obtain⟨a1,e8⟩:=dF8 (c:=⟨s.u,s.d,s.k,s.t,s.o8,s.Z9,s.au4,s.C5,s.aQ7,s.D6,s.aJ8,s.F3,p,chV s.u.A0 s.o8 s.C5 s.aQ7,s.known,s.cut,s.A3,s.T8⟩) ht hs.spd hch h1 h8
 rw[e8]
 simp only[aF2]
 have e9:=bQ8 (n:=7) (s:=⟨s.u,s.d,s.k,s.t,s.o8,s.Z9,s.au4,s.C5,s.aQ7,s.D6,s.aJ8,s.F3,p,chV s.u.A0 s.o8 s.C5 s.aQ7,s.known,s.cut,s.A3,s.T8⟩) ⟨hs.few,hs.val,hs.ped,hs.pre,hs.t,hs.spd⟩ hk
 rw[e9]
 simp only[aF2]
 have gk:∀x:Int,x<=p->∃g e,(aV4 s.u.M3 p x).m=some (g,e)/\(grB (bif e !=0 then s.u.M3 else g)=true/\(bif e !=0 then s.u.M3 else g).Off=false):=fun x hx=>by
  obtain⟨h,e,q1,q2⟩:=eV0 (g:=s.u.M3) hx
  refine⟨h,e,q1,?_⟩
  by_cases he:e=0
  ·subst he;exact⟨(q2 rfl).1,(q2 rfl).2.trans ho⟩
  ·rw[show(e !=0)=true by simpa using he];exact⟨hgr,ho⟩
 cases aK8:(decide (a1>p)&& !false)
 ·simp only[fk6,aF2,eO4]
  obtain⟨g,e,q1,q2⟩:=gk a1 (by simp at aK8;omega)
  rw[q1]
  simp only[aF2,er6]
  exact⟨_,_,_,_,_,rfl,q2,rfl,hp100⟩
 ·simp only[fk7]
  obtain⟨f,w1,w2⟩:=ag9 s.F3.O3.length (by omega) (fun i (o:List A6)=>(aW9 i o).run) (fun k o=>o.length=s.F3.O3.length/\∀x∈o.take k,x.Z7=0) s.F3.O3 ⟨rfl,by simp⟩ (fun k o hk hI=>by
   have hI1:=hI.1
   simp only[aW9,M.run,L1.m,U1.m,U4]
   rw[aX4 (by omega)]
   simp only[aF2,ao3]
   rw[if_pos (by omega)]
   refine⟨_,rfl,by rw[eh3];exact hI1,?_⟩
   intro x hx
   rw[cW8 (by rw[eh3];omega),List.mem_append,eh4]at hx
   rcases hx with hx|hx
   ·rw[show((k:Nat):Int).toNat=k by omega,List.take_set_of_le (bO2 _)]at hx
    exact hI.2 x hx
   ·subst hx
    simp only[show((k:Nat):Int).toNat=k by omega,dy0])
  rw[w1]
  simp only[aF2]
  have hz:∀x∈f,x.Z7=0:=fun x hx=>w2.2 x (by rw[<-w2.1,eC8];exact hx)
  have w21:=w2.1
  have e10:=dr1 (c:=⟨s.u,s.d,s.k,s.t,s.o8,s.Z9,s.au4,s.C5,s.aQ7,s.D6,s.aJ8,⟨s.F3.J2,f,s.F3.o9⟩,p,chV s.u.A0 s.o8 s.C5 s.aQ7,s.known,true,s.A3,s.T8⟩) ht hs.spd hch (by simp only;omega) (by simp only;omega) hz
  rw[e10]
  simp only[aF2,eO4]
  obtain⟨g,e,q1,q2⟩:=gk 0 (by omega)
  rw[q1]
  simp only[aF2,er6]
  exact⟨_,_,_,_,_,rfl,q2,w2.1,hp100⟩
def eZ7 {s:j6}(hs:SOk s){V:Bool×Bool×Bool×Bool×Bool×Bool×Bool}(hb:(aU0 s).m=some V){cyc:Int}{t:Nat->Bool}(hc:Fr.Cfs cf0)(h:Fr.Inv cf0 s.u.D9 cyc true t)(h0:1<=cyc)(h1:cyc<=1073741824):
  ∃r t',(bl2 s).m=some r/\fm3 s r/\Fr.Inv cf0 r.u.D9 cyc true t'/\bO4 cf0 cyc (bl V) s.u.D9 r.u.D9 7/\(∀p:Int->Bool,(∀c:Nat,(h:c<r.u.D9.L.length)->(U3 .i64 (r.u.D9.L[c]).D8 5 !=0)=p (c:Int))->r.Z9=bL4 p 7):=by
 obtain⟨i,f,t',e1,hi,hts⟩:=dD3 hs V hc (by rw[bl1];exact bO2 _) h h0 h1
 have hv:(aa2 f).m=some true:=by rw[be5];exact Fr.bU9 hc hi (by omega) h1 (fun _=>h0)
 obtain⟨a,ea,ha,hr2⟩:=dF6 hv (by rw[hi.len,bl1])
 have hact:∀p:Int->Bool,(∀c:Nat,(h:c<f.L.length)->(U3 .i64 (f.L[c]).D8 5 !=0)=p (c:Int))->a=bL4 p 7:=fun p hp=>by
  have:=di9 hv (by rw[hi.len,bl1]) p hp
  rw[ea]at this
  exact(fk5 (ca0 this)).1
 have hr:∀x∈a,0<=x.Q6/\x.Q6<7:=fun x hx=>(hr2 x hx).1
 simp only[bl2,CG.of,M.run,hb,aF2]
 rw[e1]
 simp only[aF2,cZ5,ea]
 obtain⟨v6,e6,h6⟩:=dh8 0 10000 (⟨(⟨s.u.A0,s.u.w9,s.u.j3,s.u.Q8,s.u.M9,s.u.I2,s.u.M3,s.u.K4,s.u.M5,f,s.u.B3,s.u.ab7,s.u.Time⟩:af9),s.d,s.k,s.t,s.o8,a,s.au4,s.C5,s.aQ7,s.D6,s.aJ8,s.F3,s.V9,s.A4,s.known,s.cut,s.A3,s.T8⟩:j6) ha hr
 rw[e6];simp only[aF2]
 have ok:∀(a:List Q7) (l p h c q:Int),SOk (⟨(⟨s.u.A0,s.u.w9,s.u.j3,s.u.Q8,s.u.M9,s.u.I2,s.u.M3,s.u.K4,s.u.M5,f,s.u.B3,s.u.ab7,s.u.Time⟩:af9),s.d,s.k,s.t,s.o8,a,l,p,h,c,q,s.F3,s.V9,s.A4,s.known,s.cut,s.A3,s.T8⟩:j6):=fun a l p h c q=>⟨hs.few,hs.val,hs.ped,hs.pre,hs.t,hs.spd⟩
 have tt:∀(n o:Int) (l p h c q:Int),∃v,(as5 n o R0 (⟨(⟨s.u.A0,s.u.w9,s.u.j3,s.u.Q8,s.u.M9,s.u.I2,s.u.M3,s.u.K4,s.u.M5,f,s.u.B3,s.u.ab7,s.u.Time⟩:af9),s.d,s.k,s.t,s.o8,a,l,p,h,c,q,s.F3,s.V9,s.A4,s.known,s.cut,s.A3,s.T8⟩:j6)).m=some v:=fun n o l p h c q=>by
  obtain⟨v,e,_⟩:=dh8 n o (⟨(⟨s.u.A0,s.u.w9,s.u.j3,s.u.Q8,s.u.M9,s.u.I2,s.u.M3,s.u.K4,s.u.M5,f,s.u.B3,s.u.ab7,s.u.Time⟩:af9),s.d,s.k,s.t,s.o8,a,l,p,h,c,q,s.F3,s.V9,s.A4,s.known,s.cut,s.A3,s.T8⟩:j6) ha hr
  exact⟨v,e⟩
 obtain⟨v7,e7,_⟩:=aS3 (ok a v6 s.C5 s.aQ7 s.D6 s.aJ8) 2
 rw[e7];simp only[aF2]
 obtain⟨v8,e8⟩:=tt 1 v7 v6 s.C5 s.aQ7 s.D6 s.aJ8
 rw[e8];simp only[aF2,aT7]
 have c9:=bm9 v8 50 1013 (by omega)
 generalize F7 (G8 v8 50) 1013=v9 at c9|-
 obtain⟨v10,e10,_⟩:=aS3 (ok a v6 v9 s.aQ7 s.D6 s.aJ8) 3
 rw[e10];simp only[aF2]
 obtain⟨v11,e11⟩:=tt 2 v10 v6 v9 s.aQ7 s.D6 s.aJ8
 rw[e11];simp only[aF2,aT7]
 have c12:=bm9 v11 (-40) 150 (by omega)
 generalize F7 (G8 v11 (-40)) 150=v12 at c12|-
 obtain⟨v13,e13,_⟩:=aS3 (ok a v6 v9 v12 s.D6 s.aJ8) 4
 rw[e13];simp only[aF2]
 obtain⟨v14,e14⟩:=tt 3 v13 v6 v9 v12 s.D6 s.aJ8
 rw[e14];simp only[aF2,aT7]
 have c15:=bm9 v14 (-40) 150 (by omega)
 generalize F7 (G8 v14 (-40)) 150=v15 at c15|-
 obtain⟨v16,e16,_⟩:=aS3 (ok a v6 v9 v12 v15 s.aJ8) 5
 rw[e16];simp only[aF2]
 obtain⟨v17,e17⟩:=tt 4 v16 v6 v9 v12 v15 s.aJ8
 rw[e17];simp only[aF2,aT7]
 exact⟨_,t',rfl,⟨rfl,rfl,rfl,rfl,rfl,rfl,rfl,rfl,rfl,rfl,rfl,rfl,rfl,rfl,rfl,rfl,rfl,rfl,rfl,⟨ha,fun x hx=>(hr2 x hx).2⟩,h6 (by omega) (by omega),c9,c12,c15,bm9 _ _ _ (by omega)⟩,hi,hts,hact⟩
structure eN1 (u v:af9)(r:aa9)(Q:ad9->Prop)(V:Bool×Bool×Bool×Bool×Bool×Bool×Bool):Prop where
 ok:UOk v
 time:v.Time=u.Time+10000
 rc:fm0 r
 guard:v.M3.Off=false
 fo9:Q v.K4
 flt:∃cyc,1<=cyc/\bO4 cf0 cyc (bl V) u.D9 v.D9 7
 act:∀p:Int->Bool,(∀c:Nat,(h:c<v.D9.L.length)->(U3 .i64 (v.D9.L[c]).D8 5 !=0)=p (c:Int))->r.K5=bL4 p 7
 off:r.Off=v.K4.Off
def ed4 {u:af9}{d:I9}{k:List aa6}{Q:ad9->Prop}{V:Bool×Bool×Bool×Bool×Bool×Bool×Bool}(hc:Fr.Cfs cf0)(h:UOk u)(hd:DOk d k)(ht:u.Time+10000<=549755813888)(hk:∀b∈k,b.az4≠7)(ho:u.M3.Off=false)
  (dm3:∀s:j6,SOk s->s.k=k->s.t=u.Time->s.u.M3=u.M3->s.u.K4=u.K4->(aU0 s).m=some V)
  (hask:∀s:j6,SOk s->s.u.K4=u.K4->s.k=k->s.t=u.Time->∃q,(aF6 s).m=some {s with u:={s.u with K4:=q}}/\qzB q=true/\q.ap5<=s.t/\Q q):
  ∃v r,(bR3 u d k).m=some (v,r)/\eN1 u v r Q V:=by
 have hspd:=h.pl.spd
 have hti:=h.time
 have e0:=eK7 u.B3.D7 hspd.1 hspd.2
 have hrpm:0<=u.B3.D7*60000000/1509949440/\u.B3.D7*60000000/1509949440<=12000:=by omega
 simp only[bR3,C.of,M.run,e0,aF2]
 generalize u.B3.D7*60000000/1509949440=rpm at hrpm|-
 generalize((u.Q8.Mode==2)&&u.M9.aY1)=kn
 have m0:Mid u.Time (⟨u,d,k,u.Time,rpm,([]:List Q7),0,0,0,0,0,(⟨0,([]:List A6),0⟩:O8),0,0,kn,false,([]:List j8),0⟩:j6):=
  ⟨⟨hd.few,hd.val,hd.ped,h.pl.pre,⟨by simp only;omega,by simp only;omega⟩,hrpm⟩,h.C8,h.pl,h.sch,h.few,h.now,h.con,h.tf,h.sy,h.ph,h.gr,h.qz,h.sg,h.flt,by simp,by simp⟩
 obtain⟨r1,cyc,e1,m1,a1,t1,sw1,k1,g1,z1,w1,c1,x1,y1⟩:∃r cyc,(bl2 (⟨u,d,k,u.Time,rpm,([]:List Q7),0,0,0,0,0,(⟨0,([]:List A6),0⟩:O8),0,0,kn,false,([]:List j8),0⟩:j6)).m=some r/\Mid u.Time r/\eD3 r/\r.t=u.Time/\r.A3=[]/\r.k=k/\r.u.M3.Off=false/\r.u.K4=u.K4/\r.T8=0/\1<=cyc/\
   bO4 cf0 cyc (bl V) u.D9 r.u.D9 7/\(∀p:Int->Bool,(∀c:Nat,(h:c<r.u.D9.L.length)->(U3 .i64 (r.u.D9.L[c]).D8 5 !=0)=p (c:Int))->r.Z9=bL4 p 7):=by
  obtain⟨c,t,hct,hi⟩:=h.flt
  obtain⟨r,t',e,o,hi',hts,hact⟩:=eZ7 m0.ok (dm3 _ m0.ok rfl rfl rfl rfl) hc hi hct.1 hct.2
  obtain⟨q1,q2,q3,q4,q5,q6,q7,q8,q9,q10,q11,q12,q13,q14,q15,q16,q17,q18,q19,q25,q20,q21,q22,q23,q24⟩:=o
  simp only at q1 q2 q3 q4 q5 q6 q7 q8 q9 q10 q11 q12 q13 q14 q15 q16 q17 q18 q19
  refine⟨r,c,e,⟨⟨by rw[q13];exact hd.few,by rw[q13];exact hd.val,by rw[q12];exact hd.ped,by rw[q10];exact h.pl.pre,by rw[q14];omega,by rw[q15];exact hrpm⟩,by rw[q1];exact h.C8,by rw[q11,q10];exact h.pl,by rw[q3];exact h.sch,by rw[q3];exact h.few,by rw[q3];exact h.now,by rw[q3,q2];exact h.con,by rw[q6];exact h.tf,by rw[q4];exact h.sy,by rw[q5];exact h.ph,by rw[q7];exact h.gr,by rw[q8,q14];exact h.qz,by rw[q9,q14];exact h.sg,⟨c,t',hct,hi'⟩,q25⟩,⟨q20,q21,q22,q23,q24⟩,q14,q18,q13,by rw[q7];exact ho,q8,q19,hct.1,hts,hact⟩
 rw[e1];simp only[aF2]
 obtain⟨r2,e2,m2,a2,t2,sw2,n2,k2,g2,z2,w2,f2,x2⟩:∃r,(aU1 r1).m=some r/\Mid u.Time r/\eD3 r/\r.t=u.Time/\r.A3=[]/\(1<=r.F3.O3.length/\r.F3.O3.length<=8)/\r.k=k/\r.u.M3.Off=false/\r.u.K4=u.K4/\r.T8=0/\r.u.D9=r1.u.D9/\r.Z9=r1.Z9:=by
  obtain⟨c,o,e,hg,hl⟩:=du4 m1.ok a1 m1.C8 m1.pl.body m1.con
  have hn:=(ce8.1 m1.con).eng
  have hn1:=hn.1;have hn2:=hn.2.1
  exact⟨_,e,⟨⟨m1.ok.few,m1.ok.val,m1.ok.ped,m1.ok.pre,m1.ok.t,m1.ok.spd⟩,m1.C8,m1.pl,m1.sch,m1.few,m1.now,hg,m1.tf,m1.sy,m1.ph,m1.gr,m1.qz,m1.sg,m1.flt,m1.act⟩,⟨a1.au4,a1.C5,a1.aQ7,a1.D6,a1.aJ8⟩,t1,sw1,by show 1<=o.O3.length/\o.O3.length<=8;omega,k1,g1,z1,w1,rfl,rfl⟩
 rw[e2];simp only[aF2]
 obtain⟨r3,e3,m3,t3,sw3,n3,k3,g3,z3,w3,f3,x3,b3⟩:∃r,(aU2 r2).m=some r/\Mid u.Time r/\r.t=u.Time/\r.A3=[]/\r.F3.O3.length<=8/\r.k=k/\r.u.M3.Off=false/\r.u.K4=u.K4/\r.T8=0/\r.u.D9=r1.u.D9/\r.Z9=r1.Z9/\100<=r.V9:=by
  obtain⟨g,f,p,c,b,e,hg,hl,hb⟩:=ec2 m2.ok (by rw[k2];exact hk) g2 a2 m2.C8 m2.con m2.gr n2.1 n2.2
  exact⟨_,e,⟨⟨m2.ok.few,m2.ok.val,m2.ok.ped,m2.ok.pre,m2.ok.t,m2.ok.spd⟩,m2.C8,m2.pl,m2.sch,m2.few,m2.now,m2.con,m2.tf,m2.sy,m2.ph,hg.1,m2.qz,m2.sg,m2.flt,m2.act⟩,t2,sw2,by show f.length<=8;omega,k2,hg.2,z2,w2,f2,x2,hb⟩
 rw[e3];simp only[aF2]
 obtain⟨r4,e4,m4,t4,sw4,n4,g4,z4,w4,f4,x4,b4⟩:∃r,(aF6 r3).m=some r/\Mid u.Time r/\r.t=u.Time/\r.A3=[]/\r.F3.O3.length<=8/\r.u.M3.Off=false/\Q r.u.K4/\r.T8=0/\r.u.D9=r1.u.D9/\r.Z9=r1.Z9/\100<=r.V9:=by
  obtain⟨q,e,hq1,hq2,hq3⟩:=hask r3 m3.ok z3 k3 t3
  exact⟨_,e,⟨⟨m3.ok.few,m3.ok.val,m3.ok.ped,m3.ok.pre,m3.ok.t,m3.ok.spd⟩,m3.C8,m3.pl,m3.sch,m3.few,m3.now,m3.con,m3.tf,m3.sy,m3.ph,m3.gr,⟨hq1,hq2⟩,m3.sg,m3.flt,m3.act⟩,t3,sw3,n3,g3,hq3,w3,f3,x3,b3⟩
 rw[e4];simp only[aF2]
 obtain⟨r5,e5,m5,t5,sw5,n5,g5,z5,w5,f5,x5,b5,s5⟩:∃r,(ba2 r4).m=some r/\Mid u.Time r/\r.t=u.Time/\r.A3.length<=100/\r.F3.O3.length<=8/\r.u.M3.Off=false/\Q r.u.K4/\r.T8=0/\r.u.D9=r1.u.D9/\r.Z9=r1.Z9/\100<=r.V9/\r.u.M5.W4= !r.u.K4.Off:=by
  obtain⟨g,c,w,e,hg,hs,hw,hE⟩:=eo8 m4.gr m4.qz.1 (az3.2 m4.ok.t) m4.sg ⟨m4.sch,m4.few,rfl,rfl⟩ n4 (by rw[sw4];simp)
  rw[sw4]at hw
  rw[eS7 g4]at hE
  exact⟨_,e,⟨⟨m4.ok.few,m4.ok.val,m4.ok.ped,m4.ok.pre,m4.ok.t,m4.ok.spd⟩,m4.C8,m4.pl,hs.ok,hs.few,hs.now.trans m4.now,by show bA2 c.A1 r4.u.w9=true;rw[hs.eng];exact m4.con,m4.tf,m4.sy,m4.ph,m4.gr,m4.qz,hg,m4.flt,m4.act⟩,t4,by simpa using hw,n4,g4,z4,w4,f4,x4,b4,hE⟩
 rw[e5];simp only[aF2]
 obtain⟨r6,e6,m6,t6,n6,g6,z6,w6,f6,x6,b6,s6⟩:∃r,(bl3 r5).m=some r/\Mid (u.Time+10000) r/\r.t=u.Time/\r.F3.O3.length<=8/\r.u.M3.Off=false/\Q r.u.K4/\r.T8=0/\r.u.D9=r1.u.D9/\r.Z9=r1.Z9/\100<=r.V9/\r.u.M5.W4= !r.u.K4.Off:=by
  have bF4:=m5.now;have htf:=m5.tf;have hsy:=m5.sy
  obtain⟨c,y,p,f,w,e,q,hn⟩:=eB3 (s:=r5) (by rw[t5];exact⟨by omega,⟨m5.sch,m5.few,rfl,by omega,by omega⟩,⟨hsy.1,by omega⟩,m5.ph,⟨htf.1,by omega⟩⟩) m5.pl (by rw[t5];omega) (by omega)
  rw[t5]at q hn
  exact⟨_,e,⟨⟨m5.ok.few,m5.ok.val,m5.ok.ped,m5.ok.pre,m5.ok.t,m5.ok.spd⟩,m5.C8,m5.pl,q.sch.ok,q.sch.few,hn,by show bA2 c.A1 r5.u.w9=true;rw[q.sch.eng];exact m5.con,q.tf,q.sy,q.ph,m5.gr,m5.qz,m5.sg,m5.flt,m5.act⟩,t5,n5,g5,z5,w5,f5,x5,b5,s5⟩
 rw[e6];simp only[aF2]
 obtain⟨r7,e7,m7,t7,g7,z7,w7,f7,x7,b7,s7⟩:∃r,(bf1 r6).m=some r/\Mid (u.Time+10000) r/\r.t=u.Time/\r.u.M3.Off=false/\Q r.u.K4/\(r.u.M5.W4=false->r.T8=0)/\r.u.D9=r1.u.D9/\r.Z9=r1.Z9/\100<=r.V9/\r.u.M5.W4= !r.u.K4.Off:=by
  obtain⟨r,e,p,q,rfl,hp,hq⟩:=eF1 m6.pl m6.C8 (by omega)
  exact⟨_,e,⟨⟨m6.ok.few,m6.ok.val,m6.ok.ped,hp.pre,m6.ok.t,m6.ok.spd⟩,m6.C8,hp,m6.sch,m6.few,m6.now,m6.con,m6.tf,m6.sy,m6.ph,m6.gr,m6.qz,m6.sg,m6.flt,m6.act⟩,t6,g6,z6,fun hE=>(hq hE).trans w6,f6,x6,b6,s6⟩
 rw[e7];simp only[aF2]
 obtain⟨l8,e8,s8,a8⟩:=ex2 ({r7 with u:={r7.u with Time:=j5 (r7.t+10000)}}:j6)
 rw[e8];simp only[aF2]
 have hw:j5 (r7.t+10000)=u.Time+10000:=by rw[t7,j4 (by omega) (by omega)]
 have hq:=m7.qz;have hg:=m7.sg
 rw[t7]at hq hg
 have hten:=h.ten
 rw[hw]
 refine⟨_,_,rfl,⟨⟨m7.C8,m7.pl,m7.sch,m7.few,m7.now,m7.con,m7.tf,m7.sy,m7.ph,m7.gr,⟨hq.1,by have:=hq.2;show r7.u.K4.ap5<=u.Time+10000;omega⟩,⟨hg.1,by have:=hg.2;show r7.u.M5.aR0<=u.Time+10000;omega⟩,m7.flt,by show 0<=u.Time+10000/\u.Time+10000<=549755813888;omega,by show(u.Time+10000)%10000=0;omega⟩,rfl,⟨s8,m7.act⟩,g7,z7,⟨cyc,c1,by show bO4 _ _ _ _ r7.u.D9 7;rw[f7];exact x1⟩,fun p hp=>?_,?_⟩⟩
 ·show r7.Z9=bL4 p 7
  rw[x7]
  refine y1 p fun c hc2=>?_
  have:=hp c (by show c<r7.u.D9.L.length;rw[f7];exact hc2)
  simp only[f7]at this
  exact this
 ·show(!r7.u.M5.W4)=r7.u.K4.Off
  rw[s7,Bool.not_not]
def fo6 {l:List I9}{k:List aa6}{Q:ad9->Prop}{V:Bool×Bool×Bool×Bool×Bool×Bool×Bool}(g:da2 l k){u:af9}(h:UOk u)(ht:u.Time+10000<=549755813888)(hk:∀b∈k,b.az4≠7)(ho:u.M3.Off=false)(dm3:∀s:j6,SOk s->s.k=k->s.t=u.Time->s.u.M3=u.M3->s.u.K4=u.K4->(aU0 s).m=some V)(hask:eh5 u k Q):
  ∃d,(bv1 l u.Time).m=some (d,0)/\(bn4 u d k).m=some (nxU l k u)/\(nxU l k u).2.2=0/\eN1 u (nxU l k u).1 (nxU l k u).2.1 Q V:=by
 have h0:=h.time
 obtain⟨d,e1,hd⟩:=eR7 g.val g.dr u.Time (by omega)
 obtain⟨v,r,e2,hl⟩:=ed4 g.cf h ⟨g.few,fun x hx=>(g.brk x hx).2.2,hd.2.1⟩ ht hk ho dm3 hask
 have e3:(bn4 u d k).m=some (v,r,0):=by
  simp only[bn4,C.of,M.run,di2 g.cf h,cN3 g.few g.brk,ed3 hd,aF2,aX5,fk6]
  grind [j4]
 have e:nxU l k u=(v,r,0):=by
  grind [nxU]
 grind
end Go.Proofs.YtjhedhnghldjbaaGreatDoor.Ec
namespace Go.Pv.Fr
open Go
def eL7 (a b c d e:Bool):(U3 .i64 (R9 .i64 (stN a b c d e) 11) 5 !=0)=true/\(U3 .i64 (R9 .i64 (R9 .i64 (stN a b c d e) 11) 4) 5 !=0)=true/\(U3 .i64 (R9 .i64 (R9 .i64 (R9 .i64 (stN a b c d e) 11) 4) 16) 5 !=0)=true:=by
 cases a<;>cases b<;>cases c<;>cases d<;>cases e<;>exact⟨rfl,rfl,rfl⟩
def dI7 {c:y9}{cyc:Int}{fr:List Int}{x:A5}{a b d e f:Bool}(h:x.D8=stN a b d e f):(cA9 c cyc fr x).Count=x.Count/\(U3 .i64 (cA9 c cyc fr x).D8 5 !=0)=true:=by
 obtain⟨h1,h2,h3⟩:=eL7 a b d e f
 rw[<-h]at h1 h2 h3
 unfold cA9
 grind
def ee4 {c:y9}{cyc cyc':Int}{fr:List Int}{x:A5}{b8:Bool}(hr:Rt c x cyc' b8)(h3:c.aW6=3)(hc:ca4 c){m:Nat}(hm:G8 x.Count 0=((min m 3:Nat):Int)):
  G8 (cg3 c cyc true fr x).Count 0=((min (m+1) 3:Nat):Int)/\(3<=m+1->(U3 .i64 (cg3 c cyc true fr x).D8 5 !=0)=true)/\(m+1<3->(cg3 c cyc true fr x).D8=x.D8):=by
 have p1:=hc.pass
 obtain⟨b1,b2,b4,b16,hb⟩:=hr
 have hk:(bn0 c true x).Count=((min (m+1) 3:Nat):Int):=by
  show F7 c.aW6 (j5 (G8 x.Count 0+1))=_
  grind [j4,F7]
 have hs:(bn0 c true x).D8=stN b1 b2 b4 b8 b16:=hb.st
 obtain⟨f1,f2⟩:=dI7 (c:=c) (cyc:=cyc) (fr:=fr) hs
 have hmx:G8 ((min (m+1) 3:Nat):Int) 0=((min (m+1) 3:Nat):Int):=by
  rfl
 unfold cg3
 simp only
 rw[h3]
 by_cases h:(bn0 c true x).Count=3
 ·grind
 ·rw[show((bn0 c true x).Count==3)=false by grind,show((bn0 c true x).Count==j5 (0-c.Pass))=false by grind [j4]]
  simp only[fk6]
  exact⟨by grind,fun h2=>by omega,fun _=>rfl⟩
def ee5 {c:y9}{x:A5}{E5:Int}{fr:List Int}(hc:ca4 c)(h:x.D8=0\/x.D8=8)(h1:-c.Pass<=x.Count):fqP (cg3 c E5 false fr x):=by
 have p1:=hc.pass;have p2:=hc.fail
 have hk:(bn0 c false x).Count<= -1:=by
  show G8 (j5 (0-c.Pass)) (j5 (F7 x.Count 0-1))<= -1
  grind [F7,j4,G8]
 unfold cg3
 simp only
 rw[show((bn0 c false x).Count==c.aW6)=false by grind]
 simp only[fk6]
 cases(bn0 c false x).Count==j5 (0-c.Pass)
 ·exact⟨h,by grind⟩
 ·simp only[fk7]
  refine⟨?_,by grind⟩
  have:(bn0 c false x).D8=x.D8:=rfl
  rw[this]
  rcases h with e|e<;>rw[e]
  ·right;rfl
  ·right;rfl
end Go.Pv.Fr
namespace Go.Proofs.YtjhedhnghldjbaaGreatDoor.Ec
open Go Go.Pv Go.Pv.Ec Go.Proofs
def dY1 {u:af9}{k:List aa6}(h:UOk u)(dm5:u.K4.Off=false)(herr:u.K4.T6=0)(hop:u.K4.Open=true->u.K4.ap5+10000=u.Time)(hk:∀s:j6,SOk s->s.k=k->s.t=u.Time->(V8 s 6).m=some (0,false)):
  eh5 u k (fun q=>q.Off=false/\q.T6=0/\q.Open=true/\q.ap5=u.Time):=by
 intro s hs hq hsk hst
 have hz:qzB s.u.K4=true:=by rw[hq];exact h.qz.1
 cases ho:s.u.K4.Open
 ·grind [dX3]
 ·obtain⟨q,e,a1,a2,a3,a4,a5,a6⟩:=dX2 hs hz ho (by grind) (hk s hs hsk hst) (fun h=>by cases h)
  rw[if_neg (by simp),hq,herr,fn9]at a2
  grind
theorem dX8 {s:j6}{b:aa6}{n:Int}(hk:s.k=[b])(h6:b.az4=n):(V8 s n).m=some (bif decide (b.ca5<=s.t)&&decide (s.t<b.To)then(b.Value,true)else(0,false)):=by
 have hb:∀i:Int,(ag4 s n i b ()).run=some (bif decide (b.ca5<=s.t)&&decide (s.t<b.To)then .ret (b.Value,true)else .next ()):=fun i=>by
  simp only[ag4,M.run,h6,beq_self_eq_true]
  grind
 simp only[V8,C.of,M.run,hk]
 rcases bx0 [b] (by simp) (fun i x (u:Unit)=>(ag4 s n i x u).run) (fun k _=>k=0\/(decide (b.ca5<=s.t)&&decide (s.t<b.To))=false) (fun r=>r=(b.Value,true)/\(decide (b.ca5<=s.t)&&decide (s.t<b.To))=true) () (.inl rfl) (fun k x u hx _=>by
  grind)with⟨s',e,h⟩|⟨r,e,h1,h2⟩
 all_goals grind
theorem eE4 {s:j6}(hs:SOk s){b:aa6}(hk:s.k=[b])(hp:b.az4=3\/b.az4=4)(hv:151<=b.Value){c:Bool}(hc:(decide (b.ca5<=s.t)&&decide (s.t<b.To))=c):(aU0 s).m=some (false,false,(b.az4==3)&&c,(b.az4==4)&&c,false,s.u.M3.Off,s.u.K4.Off):=by
 have h1:=hs.ped;have h2:=hs.pre;have h3:=hs.t
 have bn:∀n:Int,n≠b.az4->(V8 s n).m=some (0,false):=fun n hn=>bQ8 hs (fun x hx=>by rw[hk,eh4]at hx;rw[hx];exact fun e=>hn e.symm)
 have bp:∀n:Int,n=b.az4->(V8 s n).m=some (bif c then(b.Value,true)else(0,false)):=fun n hn=>by rw[dX8 hk hn.symm,hc]
 obtain⟨x,hx⟩:=dg7 s.u.B3
 have e0:(D3 s 0).m=some s.d.L5:=by
  simp only[D3,C.of,M.run,bn 0 (by omega),aF2];rfl
 have e1:(D3 s 1).m=some (s.d.L5/2):=by
  simp only[D3,C.of,M.run,bn 1 (by omega),aF2]
  rw[cx1 h1.1,j4 (by omega) (by omega)];rfl
 have e2:(D3 s 2).m=some s.u.B3.N0:=by
  simp only[D3,C.of,M.run,bn 2 (by omega),aF2];rfl
 have e3:∃v,(D3 s 3).m=some v/\(decide (v< -40)||decide (v>150))=((b.az4==3)&&c):=by
  rcases hp with hp|hp
  ·simp only[D3,C.of,M.run,bp 3 (by omega),aF2]
   rw[hp]
   cases c
   ·exact⟨20,rfl,rfl⟩
   ·exact⟨b.Value,rfl,by rw[fk8 (show b.Value>150 by omega),Bool.or_true];rfl⟩
  ·simp only[D3,C.of,M.run,bn 3 (by omega),aF2]
   rw[hp]
   exact⟨20,rfl,rfl⟩
 have ok4:∃v,some (F7 (j5 (20+j5 (Int.tdiv s.t 1000000))) 90)=some v/\(decide (v< -40)||decide (v>150))=false:=by
  refine⟨_,rfl,?_⟩
  rw[cx1 h3.1,j4 (n:=s.t/1000000) (by omega) (by omega),j4 (by omega) (by omega),cw7]
  unfold F7
  split<;>exact⟨fk9 (by omega),fk9 (by omega)⟩
 have e4:∃v,(D3 s 4).m=some v/\(decide (v< -40)||decide (v>150))=((b.az4==4)&&c):=by
  rcases hp with hp|hp
  ·simp only[D3,C.of,M.run,bn 4 (by omega),aF2]
   rw[hp]
   exact ok4
  ·simp only[D3,C.of,M.run,bp 4 (by omega),aF2]
   rw[hp]
   cases c
   ·exact ok4
   ·exact⟨b.Value,rfl,by rw[fk8 (show b.Value>150 by omega),Bool.or_true];rfl⟩
 have e5:∃v,(D3 s 5).m=some v/\100<=v/\v<=800:=by
  simp only[D3,C.of,M.run,bn 5 (by omega),hx,aF2]
  cases decide (x<1000)
  ·exact⟨100,rfl,by omega,by omega⟩
  ·exact⟨800,rfl,by omega,by omega⟩
 obtain⟨v3,e3,k3⟩:=e3
 obtain⟨v4,e4,k4⟩:=e4
 obtain⟨v5,e5,k5⟩:=e5
 simp only[aU0,C.of,M.run,e0,e1,e2,e3,e4,e5,dz5,aT7,aF2]
 grind [em4,j4,G8]
def cfF {p:Nat}(h:p<cf0.length):(cf0[p]).aW6=3:=by
 have e:(cf0.all fun c=>c.aW6==3)=true:=by kernel_rfl
 grind
abbrev aT6 (fs0 n p:Nat)(v:Int):List aa6:=[⟨10000*fs0,10000*((fs0:Int)+n),(p:Int)+1,v⟩]
structure Bk (fs0 n p i:Nat)(u:af9):Prop where
 ok:UOk u
 time:u.Time=10000*(i:Int)
 guard:u.M3.Off=false
 off:u.K4.Off=false
 err:u.K4.T6=0
 op:u.K4.Open=true->u.K4.ap5+10000=u.Time
 flt:∀j (h:j<u.D9.L.length),j≠p->Fr.fqP u.D9.L[j]
 pre:∀h:p<u.D9.L.length,i<=fs0->Fr.fqP u.D9.L[p]
 cnt:∀h:p<u.D9.L.length,fs0<=i->i<=fs0+n->G8 (u.D9.L[p]).Count 0=((min (i-fs0) 3:Nat):Int)
 sts:∀h:p<u.D9.L.length,(i<=fs0+2\/n<3)->(u.D9.L[p]).D8=0\/(u.D9.L[p]).D8=8
structure RcB (fs0 n p i:Nat)(a:Int)(r:aa9):Prop where
 off:r.Off=false
 act:∃b:Bool,r.K5=(bif b then [⟨a,[(p:Int)]⟩]else [])/\(i<fs0+2\/n<3->b=false)/\(fs0+2<=i->i<fs0+n->b=true)
theorem eR1 {p:Nat}{a:Int}(h:p=2/\a=4\/p=3/\a=5)(b:Bool):bL4 (fun c=>c==(p:Int)&&b) 7=bif b then [⟨a,[(p:Int)]⟩]else []:=by
 rcases h with⟨rfl,rfl⟩|⟨rfl,rfl⟩<;>cases b<;>kernel_rfl
def eL5 {x:Int}(h:x=0\/x=8):(U3 .i64 x 5 !=0)=false:=by rcases h with rfl|rfl<;>rfl
theorem max_le {x:Int}(h:x<=0):G8 x 0=0:=by grind [G8]
def dj3 {l:List I9}{fs0 n p:Nat}{a:Int}(hp:p=2/\a=4\/p=3/\a=5){v:Int}(hv:151<=v)(g:da2 l (aT6 fs0 n p v)){u:af9}{i:Nat}(hi:i<1000)(h:Bk fs0 n p i u):
  (∃d,(bv1 l u.Time).m=some (d,0)/\(bn4 u d (aT6 fs0 n p v)).m=some (nxU l (aT6 fs0 n p v) u)/\(nxU l (aT6 fs0 n p v) u).2.2=0)/\Bk fs0 n p (i+1) (nxU l (aT6 fs0 n p v) u).1/\RcB fs0 n p i a (nxU l (aT6 fs0 n p v) u).2.1:=by
 have hp7:p<7/\(p=2\/p=3):=by omega
 have ht:=h.time
 obtain⟨c,hc⟩:∃c,c=(decide (fs0<=i)&&decide (i<fs0+n)):=⟨_,rfl⟩
 have hcb:∀s:j6,s.t=u.Time->(decide (10000*(fs0:Int)<=s.t)&&decide (s.t<10000*((fs0:Int)+n)))=c:=fun s hst=>by
  rw[hst,ht,hc]
  congr 1
  ·exact decide_eq_decide.2 (by omega)
  ·exact decide_eq_decide.2 (by omega)
 have hs7:∀b∈aT6 fs0 n p v,b.az4≠7:=by intro b hb;rw[eh4.1 hb];simp only;omega
 obtain⟨d,e1,e2,e3,q⟩:=fo6 (V:=(false,false,((p:Int)+1==3)&&c,((p:Int)+1==4)&&c,false,false,false)) g h.ok (by omega) hs7 h.guard
  (fun s hs hk hst hg hq=>by
   rw[eE4 hs hk (by simp only;omega) hv (hcb s hst),hg,hq,h.guard,h.off])
  (dY1 h.ok h.off h.err h.op fun s hs hk hst=>bQ8 hs (by rw[hk];intro b hb;rw[eh4.1 hb];simp only;omega))
 refine⟨⟨d,e1,e2,e3⟩,?_⟩
 obtain⟨q1,q2,q3,q4⟩:=q.fo9
 obtain⟨cyc,_,hts⟩:=q.flt
 obtain⟨cy,t,_,hin⟩:=h.ok.flt
 have h7:=bl1
 have hl:=hin.len;have hl2:=hts.len
 have n7:(nxU l (aT6 fs0 n p v) u).1.D9.L.length=7:=by omega
 have bl7:(bl (false,false,((p:Int)+1==3)&&c,((p:Int)+1==4)&&c,false,false,false)).length=7:=rfl
 have bv:∀j (hj:j<(bl (false,false,((p:Int)+1==3)&&c,((p:Int)+1==4)&&c,false,false,false)).length),(bl (false,false,((p:Int)+1==3)&&c,((p:Int)+1==4)&&c,false,false,false))[j]=(decide (j=p)&&c):=by
  intro j hj
  have:j=0\/j=1\/j=2\/j=3\/j=4\/j=5\/j=6:=by rw[bl7]at hj;omega
  rcases hp7.2 with rfl|rfl<;>rcases this with rfl|rfl|rfl|rfl|rfl|rfl|rfl<;>rfl
 have hq:∀j (hj:j<(nxU l (aT6 fs0 n p v) u).1.D9.L.length),j≠p->Fr.fqP (nxU l (aT6 fs0 n p v) u).1.D9.L[j]:=by
  intro j hj hne
  obtain⟨fr,e⟩:=hts.done j (by omega) hj (by omega) (by omega) (by rw[bl7];omega)
  rw[e,bv,fk9 hne,eg6]
  obtain⟨b1,b2,b4,b16,hb⟩:=hin.rt j (by omega) (by omega)
  exact Fr.cU2 (g.cf.ok (by omega)) (h.flt j (by omega) hne) hb.count.1
 have pu:p<u.D9.L.length:=by omega
 have pn:p<(nxU l (aT6 fs0 n p v) u).1.D9.L.length:=by omega
 obtain⟨fr,e⟩:=hts.done p (by omega) pn pu (by omega) (by rw[bl7];omega)
 rw[bv,fk8 rfl,Bool.true_and]at e
 have hrt:=hin.rt p (by omega) pu
 have hcf:Fr.ca4 cf0[p]:=g.cf.ok (by omega)
 have hcnt:-(cf0[p]).Pass<=(u.D9.L[p]).Count:=by obtain⟨b1,b2,b4,b16,hb⟩:=hrt;exact hb.count.1
 have key:(i+1<=fs0->Fr.fqP (nxU l (aT6 fs0 n p v) u).1.D9.L[p])/\(fs0<=i+1->i+1<=fs0+n->G8 ((nxU l (aT6 fs0 n p v) u).1.D9.L[p]).Count 0=((min (i+1-fs0) 3:Nat):Int))/\
   ((i+1<=fs0+2\/n<3)->((nxU l (aT6 fs0 n p v) u).1.D9.L[p]).D8=0\/((nxU l (aT6 fs0 n p v) u).1.D9.L[p]).D8=8)/\(fs0+2<=i->i<fs0+n->(U3 .i64 ((nxU l (aT6 fs0 n p v) u).1.D9.L[p]).D8 5 !=0)=true):=by
  rw[e]
  by_cases h1:i<fs0
  ·have hc0:c=false:=by rw[hc,fk9 (by omega),eg6]
   have:=Fr.cU2 (E5:=cyc) (fr:=fr) hcf (h.pre pu (by omega)) hcnt
   rw[hc0]
   exact⟨fun _=>this,fun h2 _=>by rw[max_le this.2,show i+1-fs0=0 by omega];rfl,fun _=>this.1,fun h2=>by omega⟩
  ·by_cases h2:i<fs0+n
   ·have hc1:c=true:=by rw[hc,fk8 (by omega),fk8 h2];rfl
    obtain⟨r1,r2,r3⟩:=Fr.ee4 (cyc:=cyc) (fr:=fr) hrt (cfF _) hcf (h.cnt pu (by omega) (by omega))
    rw[hc1]
    exact⟨fun h3=>by omega,fun _ _=>by rw[r1,show i+1-fs0=i-fs0+1 by omega],fun h3=>by rw[r3 (by omega)];exact h.sts pu (by omega),fun h3 _=>r2 (by omega)⟩
   ·have hc0:c=false:=by rw[hc,fk9 h2,eP0]
    rw[hc0]
    refine⟨fun h3=>by omega,fun _ h3=>by omega,fun h3=>?_,fun _ h3=>by omega⟩
    exact(Fr.ee5 (E5:=cyc) (fr:=fr) hcf (h.sts pu (by omega)) hcnt).1
 obtain⟨k1,k2,k3,k4⟩:=key
 refine⟨⟨q.ok,by rw[q.time,ht];omega,q.guard,q1,q2,fun _=>by rw[q4,q.time],hq,fun _=>k1,fun _=>k2,fun _=>k3⟩,by rw[q.off];exact q1,(U3 .i64 ((nxU l (aT6 fs0 n p v) u).1.D9.L[p]).D8 5 !=0),?_,fun h1=>eL5 (k3 (by omega)),k4⟩
 rw[q.act (fun c=>c==(p:Int)&&(U3 .i64 ((nxU l (aT6 fs0 n p v) u).1.D9.L[p]).D8 5 !=0)) (fun c hc=>?_),eR1 hp]
 by_cases hcp:c=p
 ·subst hcp
  simp
 ·rw[eG6 (hq c hc hcp),show((c:Int)==(p:Int))=false by rw[beq_eq_false_iff_ne];omega];rfl
def dG8 {l:List I9}{fs0 n p:Nat}{a:Int}(hp:p=2/\a=4\/p=3/\a=5){v:Int}(hv:151<=v)(g:da2 l (aT6 fs0 n p v)){u:af9}(h:Bk fs0 n p 0 u):∀i,i<=1000->Bk fs0 n p i (sq l (aT6 fs0 n p v) u i)
 |0,_=>h
 |i+1,hi=>(dj3 hp hv g (by omega) (dG8 hp hv g h i (by omega))).2.1
theorem dY2:(cf0.all fun f=>decide (-9223372036854775808<=f.Code)&&decide (f.Code<=9223372036854775807))=true:=by kernel_rfl
def exA (a:List Q7):ByteArray:=(exV nmR (bc5 cf0) (cG6 a) (cu9 a) cf0.length a.length).1
def ff0 {r:aa9}(h1:r.K5.length<=70)(h2:∀a∈r.K5,a.W9.length<=20):(bR0 r cf0).m=some (exV nmR (bc5 cf0) (cG6 r.K5) (cu9 r.K5) cf0.length r.K5.length):=by
 show exM r cf0=_
 unfold exM
 rw[if_pos ⟨h1,h2,fun f hf=>by
  grind [dY2]⟩]
def dQ8:exV nmR (bc5 cf0) (cG6 []) (cu9 []) cf0.length 0=(⟨#[]⟩,0):=by kernel_rfl
def eU2 {p:Nat}{a:Int}(h:p=2/\a=4\/p=3/\a=5):(exV nmR (bc5 cf0) (cG6 [⟨a,[(p:Int)]⟩]) (cu9 [⟨a,[(p:Int)]⟩]) cf0.length 1).2=0:=by
 rcases h with⟨rfl,rfl⟩|⟨rfl,rfl⟩<;>kernel_rfl
def nmB (D6:Bool):ByteArray:=bif D6 then ByteArray.mk #[99,111,111,108,97,110,116,58,32]else ByteArray.mk #[97,105,114,58,32]
def eU3 {p:Nat}{a:Int}{k:Bool}(h:p=2/\a=4/\k=false\/p=3/\a=5/\k=true):(strings_HasPrefix (exA [⟨a,[(p:Int)]⟩]) (nmB k)).m=some true/\(strings_Count (exA [⟨a,[(p:Int)]⟩]) (ByteArray.mk #[10])).m=some 1/\(aQ5 [(p:Int)] [(p:Int)]).m=some true:=by
 rcases h with⟨rfl,rfl,rfl⟩|⟨rfl,rfl,rfl⟩
 ·exact⟨by kernel_rfl,by kernel_rfl,(aQ5 [((2:Nat):Int)] [((2:Nat):Int)]).le 100 _ (by kernel_rfl)⟩
 ·exact⟨by kernel_rfl,by kernel_rfl,(aQ5 [((3:Nat):Int)] [((3:Nat):Int)]).le 100 _ (by kernel_rfl)⟩
theorem eo2:(aA7 [(⟨0,100,0,0,0⟩:I9)]).m=some true:=cO4 ⟨by simp,by simp,by simp,by simp,by simp⟩ rfl
def dt2 {u:af9}{p:Nat}{a:Int}{k:Bool}(hp:p=2/\a=4/\k=false\/p=3/\a=5/\k=true){fs0 n:Nat}(hf:fs0<20)(hn:n<8){w0 n0 v:Int}(ew:dq1 (j5 w0) 20=(fs0:Int))(en:dq1 (j5 n0) 8=(n:Int))(hv:151<=v)(g:da2 [(⟨0,100,0,0,0⟩:I9)] (aT6 fs0 n p v))(h:Bk fs0 n p 0 u)(i:Nat)(hi:i<30):
  (aj2 w0 n0 cf0 ((p:Int)+1,nmB k) (cG7 [(⟨0,100,0,0,0⟩:I9)] (aT6 fs0 n p v) u 30,0) (i:Int) ()).run=some (.next ()):=by
 have X8:p=2/\a=4\/p=3/\a=5:=by omega
 have a1:=(dj3 X8 hv g (by omega) (dG8 X8 hv g h i (by omega))).2.2
 obtain⟨bb,b1,b2,b3⟩:=a1.act
 have b0:=a1.off
 have hrec:(cG7 [(⟨0,100,0,0,0⟩:I9)] (aT6 fs0 n p v) u 30)[i]? =some (nxU [(⟨0,100,0,0,0⟩:I9)] (aT6 fs0 n p v) (sq [(⟨0,100,0,0,0⟩:I9)] (aT6 fs0 n p v) u i)).2.1:=by
  unfold cG7
  rw[List.getElem?_map,List.getElem?_range hi]
  rfl
 simp only[aj2,M.run,L1.m]
 rw[U4,hrec]
 generalize(nxU [(⟨0,100,0,0,0⟩:I9)] (aT6 fs0 n p v) (sq [(⟨0,100,0,0,0⟩:I9)] (aT6 fs0 n p v) u i)).2.1=r at b0 b1|-
 have ex:(bR0 r cf0).m=some (exV nmR (bc5 cf0) (cG6 r.K5) (cu9 r.K5) cf0.length r.K5.length):=ff0 (by rw[b1];cases bb<;>simp) (by rw[b1];cases bb<;>simp)
 have e2:(exV nmR (bc5 cf0) (cG6 r.K5) (cu9 r.K5) cf0.length r.K5.length).2=0:=by
  rw[b1]
  cases bb
  ·exact congrArg Prod.snd dQ8
  ·exact eU2 X8
 have e1:bb=false->(exV nmR (bc5 cf0) (cG6 r.K5) (cu9 r.K5) cf0.length r.K5.length).1=⟨#[]⟩:=fun hb=>by
  rw[b1,hb];exact congrArg Prod.fst dQ8
 have e3:bb=true->(exV nmR (bc5 cf0) (cG6 r.K5) (cu9 r.K5) cf0.length r.K5.length).1=exA [⟨a,[(p:Int)]⟩]:=fun hb=>by
  rw[b1,hb];rfl
 simp only[aF2]
 rw[ex]
 generalize exV nmR (bc5 cf0) (cG6 r.K5) (cu9 r.K5) cf0.length r.K5.length=T at e1 e2 e3|-
 obtain⟨T1,T2⟩:=T
 simp only at e1 e2 e3
 subst e2
 simp only[aF2,b0,ew,en]
 rw[j4 (n:=(fs0:Int)+2) (by omega) (by omega),j4 (n:=(fs0:Int)+(n:Int)) (by omega) (by omega)]
 rw[show(((0:Int) !=0)||false)=false from rfl]
 simp only[fk6]
 by_cases c1:i<fs0+2\/n<3
 ·have:(decide ((i:Int)<(fs0:Int)+2)||decide ((n:Int)<3))=true:=by
   rcases c1 with c1|c1
   ·rw[fk8 (show(i:Int)<(fs0:Int)+2 by omega)];rfl
   ·rw[fk8 (show(n:Int)<3 by omega),Bool.or_true]
  rw[this,e1 (b2 c1)]
  rfl
 ·have:(decide ((i:Int)<(fs0:Int)+2)||decide ((n:Int)<3))=false:=by
   rw[fk9 (show¬(i:Int)<(fs0:Int)+2 by omega),fk9 (show¬(n:Int)<3 by omega)];rfl
  rw[this]
  simp only[fk6]
  by_cases c2:i<fs0+n
  ·have hb:bb=true:=b3 (by omega) c2
   obtain⟨f1,f2,f3⟩:=eU3 hp
   rw[fk8 (show(i:Int)<(fs0:Int)+(n:Int) by omega),e3 hb,b1,hb]
   rw[show j5 ((p:Int)+1-1)=(p:Int) by rw[j4 (by omega) (by omega)];omega]
   simp only[fk7,f1,f2,aF2,aX5,fk6]
   rw[show(((1:Int) !=1)||((([(⟨a,[(p:Int)]⟩:Q7)]:List Q7).length:Int) !=1))=false from rfl,show E0 [(⟨a,[(p:Int)]⟩:Q7)] 0=some ⟨a,[(p:Int)]⟩from rfl]
   simp only[fk6,aF2,f3,aX5]
  ·rw[fk9 (show¬(i:Int)<(fs0:Int)+(n:Int) by omega)]
   rfl
def el6 (p fs0 n:Nat)(hf:fs0<20)(hn:n<8){w0 n0 v:Int}(ew:dq1 (j5 w0) 20=(fs0:Int))(en:dq1 (j5 n0) 8=(n:Int))(hv:0<=v/\v<=65535):
  ([(⟨j5 (10000*(dq1 (j5 w0) 20)),j5 (10000*(j5 ((dq1 (j5 w0) 20)+(dq1 (j5 n0) 8)))),(p:Int)+1,j5 (151+(j5 v))⟩:aa6)]:List aa6)=aT6 fs0 n p (151+v):=by
 grind [j4]
def dG9 (t:o7)(b:L6)(e:o5)(cY3:Bool)(w n v:Int)(hw:0<=w/\w<=255)(hn:0<=n/\n<=255)(hv:0<=v/\v<=65535):(az8 t b e cY3 w n v).m=some true:=by
 obtain⟨f,ef⟩:=eG2 t
 simp only[az8,C.of,M.run,aw,ef,aF2,aX5,fk6]
 cases hb:(!f||decide ((e.A7.length:Int)>20))
 ·simp only[fk6,du3,aF2]
  obtain⟨u,x,e5,h5,h6⟩:=fh2 t b e
  rw[e5]
  simp only[aF2]
  by_cases hx:x=0
  ·subst hx
   obtain⟨hc,hu,hu0,cB5,_⟩:=h6 rfl
   rw[show((0:Int) !=0)=false from rfl]
   simp only[fk6]
   obtain⟨fs0,ew,hf⟩:∃fs0:Nat,dq1 (j5 w) 20=(fs0:Int)/\fs0<20:=by
    rw[j4 (n:=w) (by omega) (by omega),cX1 hw.1]
    exact⟨(w%20).toNat,by omega,by omega⟩
   obtain⟨n1,en,hn1⟩:∃n1:Nat,dq1 (j5 n) 8=(n1:Int)/\n1<8:=by
    rw[j4 (n:=n) (by omega) (by omega),cX1 hn.1]
    exact⟨(n%8).toNat,by omega,by omega⟩
   obtain⟨v4,e4,h4⟩:=dI2 [(⟨0,100,0,0,0⟩:I9)] (by simp)
   have hv4:v4=true:=by rw[eo2]at e4;exact(ca0 e4).symm
   have main:∀(p:Nat) (a:Int),(p=2/\a=4/\cY3=false\/p=3/\a=5/\cY3=true)->da2 [(⟨0,100,0,0,0⟩:I9)] (aT6 fs0 n1 p (151+v))/\Bk fs0 n1 p 0 u:=fun p a hp=>⟨⟨hc,eo2,h4 hv4,by simp,by
     intro x hx
     rw[eh4.1 hx]
     unfold eS0
     simp only
     omega⟩,hu,hu0,cB5.guard,cB5.off,cB5.err,cB5.op,fun j h _=>cB5.flt _ (bf3 h),fun h _=>cB5.flt _ (bf3 h),fun h h1 h2=>by
      rw[max_le (cB5.flt _ (bf3 h)).2,show 0-fs0=0 by omega];rfl,fun h _=>(cB5.flt _ (bf3 h)).1⟩
   have run:∀(p:Nat) (a:Int) (hp:p=2/\a=4/\cY3=false\/p=3/\a=5/\cY3=true),(cH9 u [(⟨0,100,0,0,0⟩:I9)] (aT6 fs0 n1 p (151+v)) 30).m=some (cG7 [(⟨0,100,0,0,0⟩:I9)] (aT6 fs0 n1 p (151+v)) u 30,0):=fun p a hp=>by
    obtain⟨g,hst⟩:=main p a hp
    have X8:p=2/\a=4\/p=3/\a=5:=by omega
    exact fi1 g hu 30 (by omega) fun i hi=>(dj3 X8 (by omega) g (by omega) (dG8 X8 (by omega) g hst i (by omega))).1
   have hlen:∀p:Nat,(cG7 [(⟨0,100,0,0,0⟩:I9)] (aT6 fs0 n1 p (151+v)) u 30).length=30:=fun p=>by simp[cG7]
   have body:∀(p:Nat) (a:Int) (hp:p=2/\a=4/\cY3=false\/p=3/\a=5/\cY3=true),∃s,L8 (fun q:Int×Unit=>bif decide (q.1<((30:Nat):Int))then(((aj2 w n cf0 ((p:Int)+1,nmB cY3) (cG7 [(⟨0,100,0,0,0⟩:I9)] (aT6 fs0 n1 p (151+v)) u 30,0) q.1 q.2).run).bind (aJ9 q.1))else some (.inr (.inl q.2))) (0,())=some (.inl s):=fun p a hp=>by
    obtain⟨g,hst⟩:=main p a hp
    obtain⟨s,e9,_⟩:=ag9 30 (by omega) (fun i (x:Unit)=>(aj2 w n cf0 ((p:Int)+1,nmB cY3) (cG7 [(⟨0,100,0,0,0⟩:I9)] (aT6 fs0 n1 p (151+v)) u 30,0) i x).run) (fun _ _=>True) () trivial (fun i x hi _=>⟨(),dt2 hp hf hn1 ew en (by omega) g hst i hi,trivial⟩)
    exact⟨s,e9⟩
   cases cY3
   ·simp only[fk6,aF2]
    have eb:=el6 2 fs0 n1 hf hn1 ew en hv
    rw[show(((2:Nat):Int)+1)=3 from rfl]at eb
    rw[eb,run 2 4 (.inl ⟨rfl,rfl,rfl⟩)]
    simp only[aF2,hlen,bl1]
    obtain⟨s,e9⟩:=body 2 4 (.inl ⟨rfl,rfl,rfl⟩)
    rw[show((((0:Int) !=0)||(((30:Nat):Int) !=30))||(((7:Nat):Int) !=7))=false from rfl]
    simp only[fk6]
    refine Eq.trans (congrArg (fun z=>ak4 z _) e9) ?_
    rfl
   ·simp only[fk7,aF2]
    have eb:=el6 3 fs0 n1 hf hn1 ew en hv
    rw[show(((3:Nat):Int)+1)=4 from rfl]at eb
    rw[eb,run 3 5 (.inr ⟨rfl,rfl,rfl⟩)]
    simp only[aF2,hlen,bl1]
    obtain⟨s,e9⟩:=body 3 5 (.inr ⟨rfl,rfl,rfl⟩)
    rw[show((((0:Int) !=0)||(((30:Nat):Int) !=30))||(((7:Nat):Int) !=7))=false from rfl]
    simp only[fk6]
    refine Eq.trans (congrArg (fun z=>ak4 z _) e9) ?_
    rfl
  grind
 ·rfl
end Go.Proofs.YtjhedhnghldjbaaGreatDoor.Ec
namespace Go.Proofs.YtjhedhnghldjbaaGreatDoor
open Go Go.Pv Go.Proofs
def u8_in {x:Int}(h:(de1 .u8 x).wf=true):0<=x/\x<=255:=by
 have m0:IntKind.u8.min=0:=by decide
 have m1:IntKind.u8.max=255:=by decide
 simp[Lit.wf,m0,m1]at h
 omega
def cG5 (x0:o7)(x1:L6)(x2:o5)(x3:Bool)(x4 x5 x6:Int)(_:ch8 x0)(_:cW4 x1)(_:ch6 x2)(_:(fun _=>True) x3)(g4:(fun n=>(de1 .u8 n).wf=true) x4)(g5:(fun n=>(de1 .u8 n).wf=true) x5)(g6:(fun n=>(de1 .u16 n).wf=true) x6):(az8 x0 x1 x2 x3 x4 x5 x6).m=some true:=
 Ec.dG9 x0 x1 x2 x3 x4 x5 x6 (u8_in g4) (u8_in g5) (by
  have m0:IntKind.u16.min=0:=by decide
  have m1:IntKind.u16.max=65535:=by decide
  simp[Lit.wf,m0,m1]at g6
  omega)
open Go Go.Pv Go.Proofs Go.RowKit Go.ChangeShapes Go.WideShapes Go.ChangeAt
abbrev dx5:List (String×DataW Unit):=[("math/bits.deBruijn32tab",Rows.laid_math_bits_deBruijn32tab),("math/bits.deBruijn64tab",Rows.laid_math_bits_deBruijn64tab),("internal/strconv.uint64pow10",Rows.laid_internal_strconv_uint64pow10)]
def eo1 (os:Os)(args:Array Value):laidMetH Tryz.prog dx5 ((World.doorLaid Tryz.prog 400 os).forCall (fun _ _=>0) ⟨#[],args,[]⟩).memory:=
 laidMetH_of_parts3 (fuel:=8) (laidMet_of_run' 8 (by kernel_rfl) (by kernel_rfl)) (by kernel_rfl) (by kernel_rfl)
def dJ1 {W:World}(h:laidMetH Tryz.prog dx5 W):GlL Tryz.prog W (fun _=>False):=by
 rw[MakeChecks.laidMetH_plain _ _ _ (by kernel_rfl)]at h
 obtain⟨ps,⟨g0,t0,cs0,f0,p0,q0,hg0,ht0,hv0,hd0,⟨g1,t1,cs1,f1,p1,q1,hg1,ht1,hv1,hd1,⟨g2,t2,cs2,f2,p2,q2,hg2,ht2,hv2,hd2,_,_⟩,_⟩,_⟩,_,_⟩:=h
 intro b hb
 have hgn:Tryz.prog.globalNamed glN=some 1:=by kernel_rfl
 obtain rfl:(1:Nat)=b:=ca0 (hgn.symm.trans hb)
 obtain rfl:(1:Nat)=g2:=ca0 (hgn.symm.trans hg2)
 have htn:(Tryz.prog.globals[1]?).map (·.type)=some 461:=by kernel_rfl
 obtain rfl:(461:Nat)=t2:=ca0 (htn.symm.trans ht2)
 have hlt:1<W.heap.size:=by
  unfold World.var? at hv2
  rw[show Tryz.prog.globalNamed "internal/strconv.uint64pow10" =some 1 from hgn]at hv2
  simp only[aF2]at hv2
  by_cases h:1<W.heap.size
  ·exact h
  ·rw[Array.getElem?_eq_none (by omega)]at hv2
   simp at hv2
 refine⟨fun x=>x,hlt,?_⟩
 have hc:=Lib.cells_of_tab (zs:=Lib.pow10Tab) (k:=.u64) (n:=20) (e:=413) Tryz.underlying461 Tryz.underlying413 (by kernel_rfl) (by kernel_rfl) hd2
 unfold Lib.TabIs
 rw[show glN= "internal/strconv.uint64pow10" from rfl,hv2]
 obtain⟨l⟩:=cs2
 simp only at hc
 rw[hc]
end Go.Proofs.YtjhedhnghldjbaaGreatDoor
namespace Go.Proofs.YtjhedhnghldjbaaGreatDoor.ecuBroken
open Go Go.Pv Go.Proofs Go.ChangeShapes Go.WideShapes Go.ChangeAt Go.RowKit Go.Proofs.YtjhedhnghldjbaaGreatDoor
def own:ownKnob Tryz.prog.godebug=none:=by kernel_rfl
theorem laidOut:laidOutB Tryz.prog=true:=by kernel_rfl
set_option maxRecDepth 100000 in
def lifted (os:Os)(started:os.Started)(H:Type)(enc:TypeId×Value->H):
  ReturnsInHanded {} Tryz.checked os 4 .any (fun w args=>(Rows.ecuBrokenSpec.pre enc Tryz.prog Tryz.f4 [] false w args/\laidMetH Tryz.prog dx5 w)/\sizedMet enc Tryz.prog Tryz.f4 (OpenSpec.ofChange Rows.ecuBrokenSpec) false w args)
   (Rows.ecuBrokenSpec.post enc Tryz.prog Tryz.f4 false true false false):=by
 refine returnsInHanded_of_change_and (C:=Tryz.checked) (X:=fun w _=>laidMetH Tryz.prog dx5 w) (fun _ _ _ hh h=>h.of_heap hh) own started (by kernel_rfl) Tryz.func4
  (ChangeSpec.witness_shaped (enc:=enc) (C:=Tryz.checked) (os:=os) (X:=fun w _=>laidMetH Tryz.prog dx5 w) false (World.doorLaid Tryz.prog 400 os) #[.agg #[.slice none 0 0,.slice none 0 0,.slice none 0 0,.slice none 0 0,.slice none 0 0,.slice none 0 0,.slice none 0 0,.slice none 0 0,.slice none 0 0,.slice none 0 0,.slice none 0 0,.slice none 0 0,.slice none 0 0,.slice none 0 0,.slice none 0 0,.slice none 0 0,.slice none 0 0,.slice none 0 0,.slice none 0 0,.slice none 0 0,.int .i64 0,.int .i64 0,.int .i64 0,.int .i64 0],.agg #[.int .i64 0,.int .i64 0,.int .i64 0,.int .i64 0,.int .i64 0,.int .i64 0,.int .i64 0],.agg #[.slice none 0 0,.int .i64 0],.bool false,.int .u8 0,.int .u8 0,.int .u16 0] 16 rfl (World.shaped_of_RefB (by kernel_rfl) (by kernel_rfl)) (by kernel_rfl) (by kernel_rfl) (by kernel_rfl) (eo1 os _)) ?_
 intro W base args ds gs before hval0 hW hcnd _ hL _
 have dw7:∀(j:Nat) t v,Tryz.f4.params[j]? =some t->args[j]? =some v->Value.okWide Tryz.prog W .any base t v:=hval0
 have hW':=hW
 obtain⟨p,q,hA0,hV,rfl,hfz,hnd⟩:=hW
 have hA:DataW.TrodAll enc Tryz.prog W 0 (fun _=>true) true Tryz.f4.params.toList args.toList ds p:=hA0
 rw[Tryz.params4]at hA dw7
 obtain⟨v0,Z0,d0,ds0,p0,q0,de4,rfl,rfl,h0,r0⟩:=trodAll_cons hA
 obtain⟨v1,vs1,d1,ds1,p1,q1,rfl,rfl,rfl,h1,r1⟩:=trodAll_cons r0
 obtain⟨v2,vs2,d2,ds2,p2,q2,rfl,rfl,rfl,h2,r2⟩:=trodAll_cons r1
 obtain⟨v3,vs3,d3,ds3,p3,q3,rfl,rfl,rfl,h3,r3⟩:=trodAll_cons r2
 obtain⟨v4,vs4,d4,ds4,p4,q4,rfl,rfl,rfl,h4,r4⟩:=trodAll_cons r3
 obtain⟨v5,vs5,d5,ds5,p5,q5,rfl,rfl,rfl,h5,r5⟩:=trodAll_cons r4
 obtain⟨v6,vs6,d6,ds6,p6,q6,rfl,rfl,rfl,h6,r6⟩:=trodAll_cons r5
 obtain⟨rfl,rfl,rfl⟩:=trodAll_nil r6
 obtain rfl:args= #[v0,v1,v2,v3,v4,v5,v6]:=by cases args;simp_all
 obtain⟨rfl,rfl⟩:=trodVars_none hV
 have k0:=h0
 have lt0:∀x∈p0,x.block<W.heap.size:=by obtain⟨m,hm⟩:=k0;exact DataW.trod_lt m _ _ _ hm
 obtain⟨x0,g0,a0⟩:=eR2 _ _ W _ _ _ _ (dw7 0 55 v0 rfl rfl) h0
 have k1:=h1
 have lt1:∀x∈p1,x.block<W.heap.size:=by obtain⟨m,hm⟩:=k1;exact DataW.trod_lt m _ _ _ hm
 obtain⟨x1,g1,a1⟩:=eR3 _ _ W _ _ _ _ (dw7 1 59 v1 rfl rfl) h1
 have k2:=h2
 have lt2:∀x∈p2,x.block<W.heap.size:=by obtain⟨m,hm⟩:=k2;exact DataW.trod_lt m _ _ _ hm
 obtain⟨x2,g2,a2⟩:=eR4 _ _ W _ _ _ _ (dw7 2 68 v2 rfl rfl) h2
 have k3:=h3
 have lt3:∀x∈p3,x.block<W.heap.size:=by obtain⟨m,hm⟩:=k3;exact DataW.trod_lt m _ _ _ hm
 obtain⟨x3,g3,a3⟩:=fc9 _ _ W _ _ _ _ (dw7 3 4 v3 rfl rfl) h3
 have k4:=h4
 have lt4:∀x∈p4,x.block<W.heap.size:=by obtain⟨m,hm⟩:=k4;exact DataW.trod_lt m _ _ _ hm
 obtain⟨x4,g4,a4⟩:=eN4 _ _ W _ _ _ _ (dw7 4 5 v4 rfl rfl) h4
 have k5:=h5
 have lt5:∀x∈p5,x.block<W.heap.size:=by obtain⟨m,hm⟩:=k5;exact DataW.trod_lt m _ _ _ hm
 obtain⟨x5,g5,a5⟩:=eN4 _ _ W _ _ _ _ (dw7 5 5 v5 rfl rfl) h5
 have k6:=h6
 have lt6:∀x∈p6,x.block<W.heap.size:=by obtain⟨m,hm⟩:=k6;exact DataW.trod_lt m _ _ _ hm
 obtain⟨x6,g6,a6⟩:=eR5 _ _ W _ _ _ _ (dw7 6 69 v6 rfl rfl) h6
 clear hA0 hval0
 refine(aM2.calls ((az8 x0 x1 x2 x3 x4 x5 x6).ok) (cG5 x0 x1 x2 x3 x4 x5 x6 g0 g1 g2 g3 g4 g5 g6) (bx5 (a0 _) (bx5 (a1 _) (bx5 (a2 _) (bx5 (a3 _) (bx5 (a4 _) (bx5 (a5 _) (bx5 (a6 _) eK8))))))) (dJ1 hL)).mono fun e W' ⟨he,bel⟩=>?_
 subst he
 exact⟨_,rfl,_,_,_,[],_,[],hW',trodAll_mk1 (shut_bool Tryz.underlying4 _),(trodAll_cons_mk (Below.trod laidOut (by kernel_rfl) (of_decide_eq_true (by kernel_rfl)) k0 bel lt0) (trodAll_cons_mk (Below.trod laidOut (by kernel_rfl) (of_decide_eq_true (by kernel_rfl)) k1 bel lt1) (trodAll_cons_mk (Below.trod laidOut (by kernel_rfl) (of_decide_eq_true (by kernel_rfl)) k2 bel lt2) (trodAll_cons_mk (Below.trod laidOut (by kernel_rfl) (of_decide_eq_true (by kernel_rfl)) k3 bel lt3) (trodAll_cons_mk (Below.trod laidOut (by kernel_rfl) (of_decide_eq_true (by kernel_rfl)) k4 bel lt4) (trodAll_cons_mk (Below.trod laidOut (by kernel_rfl) (of_decide_eq_true (by kernel_rfl)) k5 bel lt5) (trodAll_cons_mk (Below.trod laidOut (by kernel_rfl) (of_decide_eq_true (by kernel_rfl)) k6 bel lt6) trodAll_mk0))))))),rfl,bel.frame _,fun h=>by cases h⟩
end Go.Proofs.YtjhedhnghldjbaaGreatDoor.ecuBroken

/- A part of the proof of EcuJoins: Plain Lean, and more. -/
import Derived.Test.YtfplhihoadkhlaaGreatEcuJoinsD
set_option linter.unusedSimpArgs false
set_option linter.unusedVariables false
set_option maxRecDepth 100000
noncomputable section
open Bool renaming and_eq_false_iff->eZ6,and_eq_true->au2,and_false->fe7,and_true->eY4,eq_iff_iff->dJ4,false_and->ez8,false_eq_true->do8,false_or->ed1,not_eq_true'->bZ6,not_false->cI8,not_not->eK8,not_true->aK4,or_eq_false_iff->bG8,or_eq_true->cx1,or_false->fd0,true_and->cJ4
open Int renaming ediv_le_self->eM3,ediv_nonneg->eM7,le_refl->dF5,mul_le_mul->eP1,mul_le_mul_of_nonneg_left->ed9,mul_nonneg->eP2,natAbs->fg4,tdiv->da8,tdiv_eq_ediv_of_nonneg->cW1,tmod->ef7,tmod_eq_emod_of_nonneg->do3
open Go.IntKind renaming u64->aK3
open List renaming all_eq_true->by6,any_eq_false->dB8,any_eq_not_all_not->dZ2,append_nil->dn6,filter_append->dR0,filter_cons->ew7,filter_cons_of_pos->eb4,filter_eq_nil_iff->eB1,filter_nil->eK3,getD_eq_getElem?_getD->dj0,getElem?_eq_getElem->aJ9,getElem?_eq_none->ed6,getElem?_set_ne->fc8,getElem_mem->bf2,length_append->aX7,length_cons->bu6,length_nil->cY9,length_replicate->eH5,length_singleton->cH0,mem_append->do2,mem_cons->cr6,mem_cons_self->bL5,mem_filter->dO7,mem_iff_getElem->da7,mem_map->cZ1,mem_range->ed7,mem_range'->eN1,nil_append->cY1,pairwise_append->eV1,pairwise_cons->ey1,range->dy2,range'->ed5,replicate->cD1
open Nat renaming add_sub_cancel->fg2,eq_zero_or_pos->dS1,le_refl->cB6,lt_or_ge->dh0
open Option renaming bind->ab6,bind_assoc->bO6,bind_some->ac0
open Option.some renaming injEq->aj7
namespace Go.Pv.Ec
open Go Go.Pv Go.Proofs Go.Proofs.YtfplhihoadkhlaaGreat
theorem aN0 {S B:Type}{mb:S->Option (S⊕B)}(I:S->Prop)(μ:S->Nat)(J:B->Prop)(h:∀s,I s->(∃s',mb s=some (.inl s')/\I s'/\μ s'<μ s)\/(∃b,mb s=some (.inr b)/\J b)):
  ∀(n:Nat) (s:S),μ s<=n->I s->∃b,M0 mb s=some b/\J b:=by
 intro n
 induction n with
 |zero=>
  intro s hn hI
  rcases h s hI with⟨s',_,_,h3⟩|⟨b,h1,h2⟩
  ·omega
  ·exact⟨b,F7 h1,h2⟩
 |succ n ih=>
  intro s hn hI
  rcases h s hI with⟨s',h1,h2,h3⟩|⟨b,h1,h2⟩
  ·rw[I5 h1];exact ih s' (by omega) h2
  ·exact⟨b,F7 h1,h2⟩
theorem dP3 (p b:Int)(hp:0<=p)(hb:0<b):(aa1 p b).m=some (p%b):=by
 simp only[aa1,C.of,M.run,L1.m]
 rw[show((b==0)||(b==(-1)))=false by simp;omega]
 simp only[fh3]
 have e:cg7 p b=some (p%b):=by unfold cg7;rw[if_neg (by omega),do3 hp]
 rw[e]
 simp only[ac0]
 have h1:0<=p%b:=Int.emod_nonneg p (by omega)
 rw[show((p%b !=0)&&(!((decide (p%b<0))==(decide (b<0)))))=false by
  rw[fh7 (by omega),fh7 (by omega)];simp]
 rfl
theorem ep2 (p:Int)(h0:0<=p)(h1:p<=1099511627776):∃q k,(ci0 w0 p).m=some (q,k)/\p<q/\q<=p+23040:=by
 have hm:0<=p%23040/\p%23040<23040:=⟨Int.emod_nonneg p (by omega),Int.emod_lt_of_pos p (by omega)⟩
 simp only[ci0,C.of,M.run,L1.m,dP3 p 23040 h0 (by omega),cy9,bG6,ac0]
 rw[k6 (n:=p-p%23040) (by omega) (by omega),show p-(p-p%23040)=p%23040 by omega,k6 (n:=p%23040) (by omega) (by omega),er1 hm.1 (by omega) (by omega)]
 simp only[ac0]
 rw[k6 (n:=p%23040/384+1) (by omega) (by omega)]
 by_cases hk:p%23040/384+1>=58
 ·rw[fh6 hk]
  refine⟨_,_,rfl,?_,?_⟩
  ·rw[k6 (by omega) (by omega)];omega
  ·rw[k6 (by omega) (by omega)];omega
 ·rw[fh7 hk]
  have e1:o6 ((p%23040/384+1)*384)=(p%23040/384+1)*384:=k6 (by omega) (by omega)
  refine⟨_,_,rfl,?_,?_⟩
  ·rw[e1,k6 (by omega) (by omega)];omega
  ·rw[e1,k6 (by omega) (by omega)];omega
theorem dZ4 (p:Int)(h0:0<=p)(h1:p<=1099511627776):∃q,(ba3 p w0).m=some q/\p<q/\q<=p+46080:=by
 obtain⟨q,k,e,h2,h3⟩:=ep2 p h0 h1
 simp only[ba3,C.of,M.run]
 exact⟨q,bP3 e rfl,h2,by omega⟩
theorem dV0 (p:Int)(h0:0<=p)(h1:p<=1099511627776):∃q,(aO1 p c0).m=some q/\p<q/\q<=p+51080:=by
 have hm:0<=p%46080/\p%46080<46080:=⟨Int.emod_nonneg p (by omega),Int.emod_lt_of_pos p (by omega)⟩
 simp only[aO1,C.of,M.run,dP3 p 46080 h0 (by omega),ac0]
 have e0:o6 (p-p%46080)=p-p%46080:=k6 (by omega) (by omega)
 have key:∃b,ad4 c0.by5 (fun i x t=>(aE7 p (p%46080) i x t).run) ()=some b/\((b= .inl ()/\p-p%46080+46080>p)\/∃q,b= .inr q/\p<q/\q<=p+46080):=by
  rw[M4 _ (by decide)]
  have st:∀i x,(aE7 p (p%46080) i x ()).run=bif decide (o6 (p-p%46080+x)>p)then some (.ret (o6 (p-p%46080+x)))else some (.next ()):=fun i x=>by
   simp only[aE7,M.run,e0]
  simp only[N3,st]
  have f:∀x:Int,0<=x->x<=46080->o6 (p-p%46080+x)=p-p%46080+x:=fun x _ _=>k6 (by omega) (by omega)
  rw[f 5000 (by omega) (by omega),f 12000 (by omega) (by omega),f 30000 (by omega) (by omega)]
  by_cases g1:p-p%46080+5000>p
  ·rw[fh6 g1];exact⟨_,rfl,.inr ⟨_,rfl,g1,by omega⟩⟩
  rw[fh7 g1]
  by_cases g2:p-p%46080+12000>p
  ·rw[fh6 g2];exact⟨_,rfl,.inr ⟨_,rfl,g2,by omega⟩⟩
  rw[fh7 g2]
  by_cases g3:p-p%46080+30000>p
  ·rw[fh6 g3];exact⟨_,rfl,.inr ⟨_,rfl,g3,by omega⟩⟩
  rw[fh7 g3]
  exact⟨_,rfl,.inl ⟨rfl,by omega⟩⟩
 obtain⟨b,hb,hc⟩:=key
 rcases hc with⟨rfl,_⟩|⟨q,rfl,h2,h3⟩
 ·refine⟨p-p%46080+46080+5000,bP3 hb ?_,by omega,by omega⟩
  show(ab6 (F0 c0.by5 0) fun t=>some (o6 (o6 (o6 (p-p%46080)+46080)+t)))=_
  rw[e0,show F0 c0.by5 0=some 5000 from rfl]
  simp only[ac0]
  rw[k6 (n:=p-p%46080+46080) (by omega) (by omega),k6 (by omega) (by omega)]
 ·exact⟨q,bP3 hb rfl,h2,by omega⟩
structure Edg (a b:Int)(l:List Int):Prop where
 len:l.length<=1000
 lo:∀x∈l,a<x
 hi:∀x∈l,x<=b
 asc:l.Pairwise (· <·)
theorem eE7 (p:Int):(bx2 p).m=some (ag2 p):=rfl
theorem cz8 (a b:Int)(f:Cl Tryz.prog Int Int (fun x=>[.t (tI x)]) (fun r=>.t (tI r)))(hf:∀p,0<=p->p<=1099511627776->∃q,f.f p=some q/\p<q/\q<=p+100000):
  ∃l e,(bm2 a b f).m=some (l,e)/\Edg a b l:=by
 have enil:Edg a b []:=⟨by simp,by simp,by simp,by simp⟩
 simp only[bm2,C.of,M.run,eE7,ac0,Cl.at]
 cases ha:ag2 a
 ·exact⟨_,_,rfl,enil⟩
 cases hb:ag2 b
 ·exact⟨_,_,rfl,enil⟩
 simp only[aK4,fh3,ac0,ed1]
 by_cases hab:a>b
 ·rw[fh6 hab];exact⟨_,_,rfl,enil⟩
 rw[fh7 hab]
 have ha:=aZ0.1 ha
 have hb:=aZ0.1 hb
 obtain⟨q,hq,h1,h2⟩:=hf a ha.1 ha.2
 simp only[fh3,hq,ac0]
 obtain⟨r,e,hr⟩:=aN0 (mb:=fun s=>(bl1 b f s).run)
  (fun s=>s.1.length<=1000/\(∀x∈s.1,a<x)/\(∀x∈s.1,x<=b)/\s.1.Pairwise (· <·)/\(∀x∈s.1,x<s.2)/\a<s.2) (fun s=>(b+1-s.2).toNat)
  (fun r=>match r with| .inl s=>Edg a b s.1| .inr t=>Edg a b t.1) (fun s ⟨i1,i2,i3,i4,i5,i6⟩=>by
   obtain⟨l,p⟩:=s
   simp only at i1 i2 i3 i4 i5 i6
   simp only[bl1,M.run,U1.m,Cl.at]
   by_cases hp:p<=b
   ·rw[fh6 hp]
    simp only[fh5]
    by_cases hl:(l.length:Int)=1000
    ·simp only[hl,beq_self_eq_true,fh5]
     exact .inr ⟨_,rfl,enil⟩
    ·simp only[bf hl,fh3]
     obtain⟨q,hq,h1,h2⟩:=hf p (by omega) (by omega)
     rw[K4 _ _ (by simp;omega),hq]
     simp only[ac0]
     refine .inl ⟨_,rfl,⟨?_,?_,?_,?_,?_,by simp only;omega⟩,?_⟩
     ·simp;omega
     ·intro x hx;rcases do2.1 hx with hx|hx
      ·exact i2 x hx
      ·simp at hx;omega
     ·intro x hx;rcases do2.1 hx with hx|hx
      ·exact i3 x hx
      ·simp at hx;omega
     ·refine eV1.2 ⟨i4,by simp,fun x hx y hy=>?_⟩
      simp at hy;subst hy;exact i5 x hx
     ·intro x hx;rcases do2.1 hx with hx|hx
      ·have:=i5 x hx;simp only;omega
      ·simp at hx;simp only;omega
     ·simp only;omega
   ·rw[fh7 hp]
    exact .inr ⟨_,rfl,⟨i1,i2,i3,i4⟩⟩) _ ([],q) (cB6 _) ⟨by simp,by simp,by simp,by simp,by simp,by simp only;omega⟩
 rw[e]
 cases r with
 |inl s=>exact⟨_,_,rfl,hr⟩
 |inr t=>exact⟨_,_,rfl,hr⟩
theorem dp7 (a b:Int):∃l e,(bC0 w0 a b).m=some (l,e)/\Edg a b l:=by
 obtain⟨l,e,h1,h2⟩:=cz8 a b (.of (fun z_=>ba3 z_ w0) _ [ce7 w0]) (fun p h0 h1=>by
  obtain⟨q,e,h2,h3⟩:=dZ4 p h0 h1
  exact⟨q,e,h2,by omega⟩)
 simp only[bC0,C.of,M.run,bY3,ac0,aK4,fh3]
 exact⟨l,e,bP3 h1 rfl,h2⟩
theorem di5 (a b:Int):∃l e,(bl0 c0 a b).m=some (l,e)/\Edg a b l:=by
 obtain⟨l,e,h1,h2⟩:=cz8 a b (.of (fun z_=>aO1 z_ c0) _ [cO3 c0]) (fun p h0 h1=>by
  obtain⟨q,e,h2,h3⟩:=dV0 p h0 h1
  exact⟨q,e,h2,by omega⟩)
 simp only[bl0,C.of,M.run,da3,ac0,aK4,fh3]
 exact⟨l,e,bP3 h1 rfl,h2⟩
theorem eF9 (v:Int)(h0:0<=v)(h1:v<=262144):(cg2 v).m=some (v*60000000/1509949440,0):=by
 simp only[cg2,C.of,M.run]
 rw[show(decide (v<0)||decide (v>524288))=false by simp;omega,k6 (n:=v*60000000) (by omega) (by omega),cW1 (by omega),k6 (by omega) (by omega)]
 rfl
end Go.Pv.Ec
namespace Go.Pv
open Go
def ai9 (a:Int):Option Bool:=
 some ((decide (a>=0))&&(decide (a<46080)))
def ap1 (s:List Int)(v i:Int)(_:Unit):Option (Fl Unit Int):=
 ab6 (F0 s i) fun x=>bif (v==x)then(some (.ret i))else(some (.next ()))
def Y8 (s:List Int)(v:Int):Option Int:=
 ab6 (N1 (s.length:Int) (ap1 s v) ()) fun(t:Unit⊕Int)=>match t with| .inl _=>(some (-1))| .inr r2=>some r2
def S1 (s:List Int)(v:Int):Option Bool:=
 ab6 (Y8 s v) fun v2=>some (decide (v2>=0))
def at6 (e2:o7)(i:Int):Option (Int⊕(Int⊕Bool)):=
 bif (decide (i<=(e2.z7.length:Int)))then(ab6 (S1 e2.z7 i) fun v2=>bif (!v2)then(some (.inr (.inr false)))else(some (.inl (o6 (i+1)))))else(some (.inr (.inl i)))
def R3 (e2:o7):Option Bool:=
 ab6 (bif ((decide ((e2.z7.length:Int)<1))||(decide ((e2.z7.length:Int)>8)))then(some true)else(ab6 (ai9 e2.P0) fun v=>some (!v))) fun b2=>bif b2 then(some false)else(ab6 (M0 (at6 e2) 1) fun(t:Int⊕Bool)=>match t with| .inl _=>(some true)| .inr r2=>some r2)
def aU9 (n2:Int):Option (List D0×Int):=
 bif ((decide (n2<1))||(decide (n2>8)))then(some (([]:List D0),2))else(ab6 (S4 ([(⟨0,100,0⟩:D0)]:List D0) n2) fun v=>some (v,0))
def bj8:Option L4:=
 some (⟨0,0,false⟩:L4)
def aL9:Option I2:=
 ab6 (aY2 9 (⟨0,0⟩:ad1)) fun l=>some (⟨false,false,1000,0,l⟩:I2)
def aA5 (e2:o7):Option (z8×Int):=
 ab6 (R3 e2) fun v=>bif (!v)then(some ((⟨(⟨0,0,false⟩:L4),(⟨0⟩:B9),([]:List D0),(⟨false,false,0,0,([]:List ad1)⟩:I2),0,(⟨0,0⟩:N4)⟩:z8),1))else(ab6 (aU9 (e2.z7.length:Int)) fun r2=>bif (r2.2 !=0)then(some ((⟨(⟨0,0,false⟩:L4),(⟨0⟩:B9),([]:List D0),(⟨false,false,0,0,([]:List ad1)⟩:I2),0,(⟨0,0⟩:N4)⟩:z8),1))else(ab6 (bj8) fun v2=>ab6 (aL9) fun v3=>some ((⟨v2,(⟨0⟩:B9),r2.1,v3,0,(⟨0,(-1)⟩:N4)⟩:z8),0)))
def Z2 (s:List Int)(f2:Int->Option Bool)(i:Int)(_:Unit):Option (Fl Unit Int):=
 ab6 (F0 s i) fun x=>ab6 (f2 x) fun v=>bif v then(some (.ret i))else(some (.next ()))
def W6 (s:List Int)(f2:Int->Option Bool):Option Int:=
 ab6 (N1 (s.length:Int) (Z2 s f2) ()) fun(t:Unit⊕Int)=>match t with| .inl _=>(some (-1))| .inr r2=>some r2
def u7 (s:List Int)(f2:Int->Option Bool):Option Bool:=
 ab6 (W6 s f2) fun v=>some (decide (v>=0))
def ae0 (n2:Int):Option Bool:=
 some ((decide (n2>=(-1073741824)))&&(decide (n2<=1073741824)))
def az0 (l:List Int)(i:Int)(_:Unit):Option (Fl Unit Bool):=
 ab6 (F0 l i) fun x=>ab6 (ae0 x) fun v=>ab6 (bif (!v)then(some true)else(ab6 (bif (decide (i>0))then(ab6 (F0 l (o6 (i-1))) fun x2=>some (decide (x<=x2)))else(some false)) fun b2=>some b2)) fun b3=>bif b3 then(some (.ret false))else(some (.next ()))
def as7 (l:List Int):Option Bool:=
 bif ((decide ((l.length:Int)<2))||(decide ((l.length:Int)>32)))then(some false)else(ab6 (N1 (l.length:Int) (az0 l) ()) fun(t:Unit⊕Bool)=>match t with| .inl _=>(some true)| .inr r2=>some r2)
def ai7 (z:Int):Option Bool:=
 ab6 (ae0 z) fun v=>some (!v)
def aC4 (m2:SMap)(_:Int)(x:List Int)(_:Unit):Option (Fl Unit Bool):=
 ab6 (bif ((x.length:Int) !=(m2.Y.length:Int))then(some true)else(ab6 (u7 x ai7) fun v3=>some v3)) fun b3=>bif b3 then(some (.ret false))else(some (.next ()))
def L0 (m2:SMap):Option Bool:=
 ab6 (as7 m2.X) fun v=>ab6 (bif (!v)then(some true)else(ab6 (as7 m2.Y) fun v2=>some (!v2))) fun b2=>bif (b2||((m2.Z.length:Int) !=(m2.X.length:Int)))then(some false)else(ab6 (ad4 m2.Z (aC4 m2) ()) fun(t:Unit⊕Bool)=>match t with| .inl _=>(some true)| .inr r2=>some r2)
def aB9 (n2:Int):Option Bool:=
 some ((decide (n2<(-1073741824)))||(decide (n2>1073741824)))
def aH8 (l:List Int)(i:Int)(_:Unit):Option (Fl Unit Bool):=
 ab6 (F0 l i) fun x=>ab6 (F0 l (o6 (i+1))) fun x2=>bif (decide (x>=x2))then(some (.ret false))else(some (.next ()))
def aM6 (l:List Int):Option Bool:=
 ab6 (bif ((decide ((l.length:Int)<2))||(decide ((l.length:Int)>32)))then(some true)else(ab6 (u7 l aB9) fun v=>some v)) fun b2=>bif b2 then(some false)else(ab6 (N1 (o6 ((l.length:Int)-1)) (aH8 l) ()) fun(t:Unit⊕Bool)=>match t with| .inl _=>(some true)| .inr r2=>some r2)
def R9 (c:A7):Option Bool:=
 ab6 (bif ((c.X.length:Int)==(c.Y.length:Int))then(ab6 (aM6 c.X) fun v=>some v)else(some false)) fun b2=>ab6 (bif b2 then(ab6 (u7 c.Y aB9) fun v2=>some (!v2))else(some false)) fun b3=>some b3
def cmp_isNaN_int (x:Int):Option Bool:=
 some (x !=x)
def cmp_Less_int (x y:Int):Option Bool:=
 ab6 (cmp_isNaN_int x) fun v=>ab6 (bif v then(ab6 (cmp_isNaN_int y) fun v2=>some (!v2))else(some false)) fun b2=>some (b2||(decide (x<y)))
def T1 (x:List Int)(i:Int):Option (Int⊕(Int⊕Bool)):=
 bif (decide (i>0))then(ab6 (F0 x i) fun x2=>ab6 (F0 x (o6 (i-1))) fun x3=>ab6 (cmp_Less_int x2 x3) fun v=>bif v then(some (.inr (.inr false)))else(some (.inl (o6 (i-1)))))else(some (.inr (.inl i)))
def S3 (x:List Int):Option Bool:=
 ab6 (M0 (T1 x) (o6 ((x.length:Int)-1))) fun(t:Int⊕Bool)=>match t with| .inl _=>(some true)| .inr r2=>some r2
def K3 (n2 low high:Int):Option Bool:=
 some ((decide (n2>=low))&&(decide (n2<=high)))
def aK9 (y:Int):Option Bool:=
 ab6 (K3 y 100 3000) fun v=>some (!v)
def aT5 (_:Int)(x:List Int)(_:Unit):Option (Fl Unit Bool):=
 ab6 (S3 x) fun v3=>ab6 (bif (!v3)then(some true)else(ab6 (F0 x 0) fun x2=>ab6 (K3 x2 0 1048576) fun v4=>some (!v4))) fun b3=>ab6 (bif b3 then(some true)else(ab6 (F0 x (o6 ((x.length:Int)-1))) fun x3=>ab6 (K3 x3 0 1048576) fun v5=>some (!v5))) fun b4=>bif b4 then(some (.ret false))else(some (.next ()))
def aB6 (t2:p6):Option Bool:=
 ab6 (L0 t2.Air) fun v=>ab6 (bif (!v)then(some true)else(ab6 (R9 t2.C6) fun v2=>some (!v2))) fun b2=>bif b2 then(some false)else(ab6 (ad4 t2.Air.Z (aT5) ()) fun(t:Unit⊕Bool)=>match t with| .inl _=>(ab6 (u7 t2.C6.Y aK9) fun v6=>some (!v6))| .inr r2=>some r2)
def ac3 (s:List (List Int))(f2:(List Int)->Option Bool)(i:Int)(_:Unit):Option (Fl Unit Int):=
 ab6 (F0 s i) fun x=>ab6 (f2 x) fun v=>bif v then(some (.ret i))else(some (.next ()))
def Y7 (s:List (List Int))(f2:(List Int)->Option Bool):Option Int:=
 ab6 (N1 (s.length:Int) (ac3 s f2) ()) fun(t:Unit⊕Int)=>match t with| .inl _=>(some (-1))| .inr r2=>some r2
def H2 (s:List (List Int))(f2:(List Int)->Option Bool):Option Bool:=
 ab6 (Y7 s f2) fun v=>some (decide (v>=0))
def J3 (x low high:Int):Option Bool:=
 some ((decide (x>=low))&&(decide (x<=high)))
def ap3 (x c c2:Int):Option Bool:=
 ab6 (J3 x c c2) fun v=>some (!v)
def ai2 (l:List Int)(low high:Int):Option Bool:=
 ab6 (u7 l (fun x0=>ap3 x0 low high)) fun v=>some v
def N7 (x:List Int)(cmp:Int->Int->Option Int)(i:Int):Option (Int⊕(Int⊕Bool)):=
 bif (decide (i>0))then(ab6 (F0 x i) fun x2=>ab6 (F0 x (o6 (i-1))) fun x3=>ab6 (cmp x2 x3) fun v=>bif (decide (v<0))then(some (.inr (.inr false)))else(some (.inl (o6 (i-1)))))else(some (.inr (.inl i)))
def J5 (x:List Int)(cmp:Int->Int->Option Int):Option Bool:=
 ab6 (M0 (N7 x cmp) (o6 ((x.length:Int)-1))) fun(t:Int⊕Bool)=>match t with| .inl _=>(some true)| .inr r2=>some r2
def ae1 (a b2:Int):Option Int:=
 some (o6 (b2-a))
def am1 (row:List Int):Option Bool:=
 ab6 (ai2 row 0 10000) fun v=>ab6 (bif v then(some true)else(ab6 (S3 row) fun v2=>some (!v2))) fun b2=>some b2
def aj3 (t2:p6):Option Bool:=
 ab6 (L0 t2.j9) fun v=>ab6 (bif (!v)then(some true)else(ab6 (R9 t2.u6) fun v2=>some (!v2))) fun b2=>ab6 (bif b2 then(some true)else(ab6 (ai2 t2.u6.Y 0 1000) fun v3=>some v3)) fun b3=>bif b3 then(some false)else(ab6 (J5 t2.u6.Y ae1) fun v4=>bif (!v4)then(some false)else(ab6 (H2 t2.j9.Z am1) fun v5=>some (!v5)))
def L5 (x low high:Int):Option Bool:=
 some ((decide (x>=low))&&(decide (x<=high)))
def aA6 (x c c2:Int):Option Bool:=
 ab6 (L5 x c c2) fun v=>some (!v)
def ag9 (l:List Int)(low high:Int):Option Bool:=
 ab6 (u7 l (fun x0=>aA6 x0 low high)) fun v=>some (!v)
def T0 (g:ak0):Option Bool:=
 some (((((((decide (g.P>=0))&&(decide (g.P<=65536)))&&(decide (g.I>=0)))&&(decide (g.I<=65536)))&&(decide (g.Low>=(-1073741824))))&&(decide (g.Low<=g.aC5)))&&(decide (g.aC5<=1073741824)))
def aB8 (_:Int)(x:List Int)(_:Unit):Option (Fl Unit Bool):=
 ab6 (ag9 x (-1280) 3840) fun v7=>bif (!v7)then(some (.ret false))else(some (.next ()))
def ae2 (t2:p6):Option Bool:=
 ab6 (aB6 t2) fun v=>ab6 (bif (!v)then(some true)else(ab6 (aj3 t2) fun v2=>some (!v2))) fun b2=>ab6 (bif b2 then(some true)else(ab6 (L0 t2.D9) fun v3=>some (!v3))) fun b3=>ab6 (bif b3 then(some true)else(ab6 (L0 t2.R6) fun v4=>some (!v4))) fun b4=>ab6 (bif b4 then(some true)else(ab6 (R9 t2.L2) fun v5=>some (!v5))) fun b5=>ab6 (bif b5 then(some true)else(ab6 (R9 t2.V6) fun v6=>some (!v6))) fun b6=>bif b6 then(some false)else(ab6 (ad4 t2.D9.Z (aB8) ()) fun(t:Unit⊕Bool)=>match t with| .inl _=>(ab6 (ag9 t2.L2.Y 500 10000) fun v8=>ab6 (bif v8 then(ab6 (ag9 t2.V6.Y 0 10000) fun v9=>some v9)else(some false)) fun b7=>ab6 (bif b7 then(ab6 (T0 t2.G6) fun v10=>some v10)else(some false)) fun b8=>some b8)| .inr r2=>some r2)
def H0 (x low high:Int):Option Bool:=
 some ((decide (x>=low))&&(decide (x<=high)))
def ak5 (b2:J4):Option Bool:=
 ab6 (H0 b2.O5 100 1048576) fun v=>ab6 (bif v then(ab6 (H0 b2.N9 0 65536) fun v2=>some v2)else(some false)) fun b3=>ab6 (bif b3 then(ab6 (H0 b2.C4 0 65536) fun v3=>some v3)else(some false)) fun b4=>ab6 (bif b4 then(ab6 (H0 b2.ac4 1 65536) fun v4=>some v4)else(some false)) fun b5=>ab6 (bif b5 then(ab6 (H0 b2.H9 0 1023) fun v5=>some v5)else(some false)) fun b6=>ab6 (bif b6 then(ab6 (H0 b2.E9 1 1024) fun v6=>some v6)else(some false)) fun b7=>ab6 (bif b7 then(ab6 (H0 b2.an6 0 20) fun v7=>some v7)else(some false)) fun b8=>some b8
def ay0 (p2:L4):Option Bool:=
 ab6 (bif p2.ai8 then(some 200)else(some 1000)) fun(most:Int)=>some (((((decide (p2.Value>=0))&&(decide (p2.Value<=most)))&&(decide (p2.O8>=0)))&&(decide (p2.O8<=3)))&&(p2.ai8==(p2.O8==3)))
def U9 (x low high:Int):Option Bool:=
 some ((decide (x>=low))&&(decide (x<=high)))
def aj6 (s:List ad1)(f2:ad1->Option Bool)(i:Int)(_:Unit):Option (Fl Unit Int):=
 ab6 (F0 s i) fun x=>ab6 (f2 x) fun v=>bif v then(some (.ret i))else(some (.next ()))
def ac8 (s:List ad1)(f2:ad1->Option Bool):Option Int:=
 ab6 (N1 (s.length:Int) (aj6 s f2) ()) fun(t:Unit⊕Int)=>match t with| .inl _=>(some (-1))| .inr r2=>some r2
def T5 (s:List ad1)(f2:ad1->Option Bool):Option Bool:=
 ab6 (ac8 s f2) fun v=>some (decide (v>=0))
def ad3 (c:ad1):Option Bool:=
 ab6 (U9 c.Value (-100) 100) fun v=>ab6 (bif (!v)then(some true)else(ab6 (U9 c.F2 0 1000) fun v2=>some (!v2))) fun b2=>some b2
def ae4 (p2:I2):Option Bool:=
 ab6 (U9 p2.P3 750 1250) fun v=>ab6 (bif (!v)then(some true)else(ab6 (U9 p2.av7 0 1000) fun v2=>some (!v2))) fun b2=>bif (b2||((p2.Cells.length:Int) !=9))then(some false)else(ab6 (bif (!p2.Q8)then(some (((p2.P3 !=1000)||(p2.av7 !=0))||p2.ay2))else(some false)) fun b3=>bif b3 then(some false)else(ab6 (T5 p2.Cells ad3) fun v3=>some (!v3)))
def ah9 (s:List D0)(f2:D0->Option Bool)(i:Int)(_:Unit):Option (Fl Unit Int):=
 ab6 (F0 s i) fun x=>ab6 (f2 x) fun v=>bif v then(some (.ret i))else(some (.next ()))
def aa7 (s:List D0)(f2:D0->Option Bool):Option Int:=
 ab6 (N1 (s.length:Int) (ah9 s f2) ()) fun(t:Unit⊕Int)=>match t with| .inl _=>(some (-1))| .inr r2=>some r2
def K8 (s:List D0)(f2:D0->Option Bool):Option Bool:=
 ab6 (aa7 s f2) fun v=>some (decide (v>=0))
def ai5 (n2:Int):Option Bool:=
 some ((decide (n2>=0))&&(decide (n2<=4095)))
def ax5 (k:D0):Option Bool:=
 ab6 (bif ((decide (k.au3>=0))&&(decide (k.au3<=960)))then(ab6 (ai5 k.aI6) fun v=>some v)else(some false)) fun b2=>some ((b2&&(decide (k.Quiet>=0)))&&(decide (k.Quiet<100)))
def al4 (k:D0):Option Bool:=
 ab6 (ax5 k) fun v=>some (!v)
def ar1 (e2:o7)(c:z8):Option Bool:=
 ab6 (R3 e2) fun v=>ab6 (bif (!v)then(some true)else(ab6 (ay0 c.C5) fun v2=>some (!v2))) fun b2=>ab6 (bif b2 then(some true)else(ab6 (ae4 c.B2) fun v3=>some (!v3))) fun b3=>bif (b3||((c.R7.length:Int) !=(e2.z7.length:Int)))then(some false)else(ab6 (K8 c.R7 al4) fun v4=>bif v4 then(some false)else(ab6 (L5 c.G6.Sum (-4398046511104) 4398046511104) fun v5=>ab6 (bif v5 then(ab6 (L5 c.H9 0 1073741824) fun v6=>some v6)else(some false)) fun b4=>ab6 (bif b4 then(ab6 (L5 c.L8.j9 (-5000) 10000) fun v7=>some v7)else(some false)) fun b5=>ab6 (bif b5 then(ab6 (L5 c.L8.I7 (-1) 15) fun v8=>some v8)else(some false)) fun b6=>some b6))
def ad7 (s:List j6)(f2:j6->Option Bool)(i:Int)(_:Unit):Option (Fl Unit Int):=
 ab6 (F0 s i) fun x=>ab6 (f2 x) fun v=>bif v then(some (.ret i))else(some (.next ()))
def X7 (s:List j6)(f2:j6->Option Bool):Option Int:=
 ab6 (N1 (s.length:Int) (ad7 s f2) ()) fun(t:Unit⊕Int)=>match t with| .inl _=>(some (-1))| .inr r2=>some r2
def F5 (s:List j6)(f2:j6->Option Bool):Option Bool:=
 ab6 (X7 s f2) fun v=>some (decide (v>=0))
def R8 (t2:Int):Option Bool:=
 some ((decide (t2>=(-5000)))&&(decide (t2<=10000)))
def V1 (r2:j6):Option Bool:=
 ab6 (bif ((((decide (r2.I7<0))||(decide (r2.I7>15)))||(decide (r2.G5<0)))||(decide (r2.G5>15)))then(some true)else(ab6 (R8 r2.j9) fun v=>some (!v))) fun b2=>bif b2 then(some false)else(ab6 (bif (r2.Kind==1)then(some true)else(ab6 (bif (decide (r2.I7<=1))then(some ((r2.Kind==2)||(r2.Kind==3)))else(some false)) fun b3=>some b3)) fun b4=>some b4)
def ai4 (r2:j6):Option Bool:=
 ab6 (V1 r2) fun v=>some (!v)
def aw2 (i:X5)(C2:Int):Option Bool:=
 ab6 (L5 C2 1 8) fun v=>bif (((!v)||((i.W7.length:Int) !=C2))||(decide ((i.Requests.length:Int)>30)))then(some false)else(ab6 (L5 i.C9 0 12000) fun v2=>ab6 (bif v2 then(ab6 (L5 i.G0 50 3000) fun v3=>some v3)else(some false)) fun b2=>ab6 (bif b2 then(ab6 (L5 i.C6 (-40) 150) fun v4=>some v4)else(some false)) fun b3=>ab6 (bif b3 then(ab6 (L5 i.ap5 (-40) 150) fun v5=>some v5)else(some false)) fun b4=>ab6 (bif b4 then(ab6 (L5 i.az4 0 20000) fun v6=>some v6)else(some false)) fun b5=>ab6 (bif b5 then(ab6 (L5 i.Lambda 0 20000) fun v7=>some v7)else(some false)) fun b6=>ab6 (bif b6 then(ab6 (ag9 i.W7 0 4095) fun v8=>some v8)else(some false)) fun b7=>ab6 (bif b7 then(ab6 (F5 i.Requests ai4) fun v9=>some (!v9))else(some false)) fun b8=>some b8)
def D7 (x low high:Int):Option Int:=
 some (J1 (K2 x low) high)
def ak4 (n2:Int):Option Bool:=
 some ((decide (n2>=0))&&(decide (n2<=12000)))
def ax4 (B0:Int):Option Int:=
 bif (decide (B0<=(-20)))then(some 1200)else(bif (decide (B0>=70))then(some 800)else(some (o6 (1200-(o6 (da8 (o6 (400*(o6 (B0+20)))) 90))))))
def bc8 (u0 B0:Int):Option Bool:=
 ab6 (ax4 B0) fun v=>some (decide (u0<(o6 (v+300))))
def ax3 (bg4 u0 B0:Int):Option Bool:=
 ab6 (bif ((decide (bg4>=0))&&(decide (bg4<20)))then(ab6 (ak4 u0) fun v=>some v)else(some false)) fun b2=>ab6 (bif b2 then(ab6 (bc8 u0 B0) fun v2=>some v2)else(some false)) fun b3=>some b3
def aN3 (p2:L4)(first second:Int):Option (L4×Int):=
 ab6 (ay0 p2) fun v=>bif (!v)then(some ((⟨0,0,false⟩:L4),1))else(ab6 (D7 first 0 1000) fun v2=>ab6 (D7 second 0 500) fun v3=>ab6 (bif (decide ((K2 (o6 (v2-(o6 (2*v3)))) (o6 ((o6 (2*v3))-v2)))>50))then(some (J1 3 (o6 (p2.O8+1))))else(bif (!p2.ai8)then(some 0)else(some p2.O8))) fun(f2:Int)=>bif (f2==3)then(some ((⟨J1 (J1 v2 (o6 (2*v3))) 200,f2,(f2==3)⟩:L4),0))else(bif (decide ((K2 (o6 (v2-(o6 (2*v3)))) (o6 ((o6 (2*v3))-v2)))>50))then(some ((⟨J1 (J1 v2 (o6 (2*v3))) p2.Value,f2,(f2==3)⟩:L4),0))else(some ((⟨v2,f2,(f2==3)⟩:L4),0))))
def A1 (s:p7)(e2:Int):Option p7:=
 bif (s.fail==0)then(some ({s with fail:=e2}:p7))else(some s)
def ad8 (f2:Int->Option Bool)(s:Int×Int):Option ((Int×Int)⊕((Int×Int)⊕Empty)):=
 bif (decide (s.1<s.2))then(ab6 (f2 (o6 (F1 .u64 (aK3.wrap (o6 (s.1+s.2))) 1))) fun v=>bif (!v)then(some (.inl (o6 ((o6 (F1 .u64 (aK3.wrap (o6 (s.1+s.2))) 1))+1),s.2)))else(some (.inl (s.1,o6 (F1 .u64 (aK3.wrap (o6 (s.1+s.2))) 1)))))else(some (.inr (.inl (s.1,s.2))))
def S7 (n2:Int)(f2:Int->Option Bool):Option Int:=
 ab6 (M0 (ad8 f2) (0,n2)) fun(t:(Int×Int)⊕Empty)=>match t with| .inl s2=>(some s2.1)| .inr r=>r.elim
def ag1 (i:Int)(c:List Int)(c2:Int):Option Bool:=
 ab6 (F0 c i) fun x=>some (decide (x>c2))
def Z9 (l:List Int)(x:Int):Option (Int×Int):=
 ab6 (F0 l 0) fun x2=>ab6 (F0 l (o6 ((l.length:Int)-1))) fun x3=>ab6 (D7 x x2 x3) fun v=>ab6 (S7 (l.length:Int) (fun x0=>ag1 x0 l v)) fun v2=>some (J1 (o6 (v2-1)) (o6 ((l.length:Int)-2)),v)
def X8 (n2:Int):Option Int:=
 bif (decide (n2<0))then(some (aK3.wrap ((aK3.wrap (o6 (0-(o6 (n2+1)))))+1)))else(some (aK3.wrap n2))
def aP1 (x:Int):Option Int:=
 cw2 x
def Z0 (x:Int):Option Int:=
 ab6 (aP1 x) fun v=>some (o6 (64-v))
def aE0 (q3 q6:Int)(s3:Int×Int):Option ((Int×Int)⊕((Int×Int)⊕Empty)):=
 bif ((decide (s3.1>=4294967296))||(decide ((aK3.wrap (s3.1*(V8 .u64 q3 4294967295)))>(aK3.wrap ((aK3.wrap (4294967296*s3.2))+(F1 .u64 q6 32))))))then(bif (decide ((aK3.wrap (s3.2+(F1 .u64 q3 32)))>=4294967296))then(some (.inr (.inl (aK3.wrap (s3.1-1),aK3.wrap (s3.2+(F1 .u64 q3 32))))))else(some (.inl (aK3.wrap (s3.1-1),aK3.wrap (s3.2+(F1 .u64 q3 32))))))else(some (.inr (.inl (s3.1,s3.2))))
def aE1 (q3 q6:Int)(s5:Int×Int):Option ((Int×Int)⊕((Int×Int)⊕Empty)):=
 bif ((decide (s5.2>=4294967296))||(decide ((aK3.wrap (s5.2*(V8 .u64 q3 4294967295)))>(aK3.wrap ((aK3.wrap (4294967296*s5.1))+(V8 .u64 q6 4294967295))))))then(bif (decide ((aK3.wrap (s5.1+(F1 .u64 q3 32)))>=4294967296))then(some (.inr (.inl (aK3.wrap (s5.1+(F1 .u64 q3 32)),aK3.wrap (s5.2-1)))))else(some (.inl (aK3.wrap (s5.1+(F1 .u64 q3 32)),aK3.wrap (s5.2-1)))))else(some (.inr (.inl (s5.1,s5.2))))
def am5 (hi lo y:Int):Option (Int×Int):=
 ab6 (bif (y==0)then none else(some ())) fun(_:Unit)=>ab6 (bif (decide (y<=hi))then none else(some ())) fun(_:Unit)=>bif (hi==0)then(ab6 (bo2 .u64 lo y) fun q=>ab6 (cg7 lo y) fun q2=>some (q,q2))else(ab6 (Z0 y) fun v=>ab6 (et2 .u64 y (aK3.wrap v)) fun q3=>ab6 (et2 .u64 hi (aK3.wrap v)) fun q4=>ab6 (et3 .u64 lo (aK3.wrap (64-(aK3.wrap v)))) fun q5=>ab6 (et2 .u64 lo (aK3.wrap v)) fun q6=>ab6 (bo2 .u64 (X1 .u64 q4 q5) (F1 .u64 q3 32)) fun q7=>ab6 (M0 (aE0 q3 q6) (q7,aK3.wrap ((X1 .u64 q4 q5)-(aK3.wrap (q7*(F1 .u64 q3 32)))))) fun(t:(Int×Int)⊕Empty)=>match t with| .inl s4=>(ab6 (bo2 .u64 (aK3.wrap ((aK3.wrap ((aK3.wrap ((X1 .u64 q4 q5)*4294967296))+(F1 .u64 q6 32)))-(aK3.wrap (s4.1*q3)))) (F1 .u64 q3 32)) fun q8=>ab6 (M0 (aE1 q3 q6) (aK3.wrap ((aK3.wrap ((aK3.wrap ((aK3.wrap ((X1 .u64 q4 q5)*4294967296))+(F1 .u64 q6 32)))-(aK3.wrap (s4.1*q3))))-(aK3.wrap (q8*(F1 .u64 q3 32)))),q8)) fun(t:(Int×Int)⊕Empty)=>match t with| .inl s6=>(ab6 (et3 .u64 (aK3.wrap ((aK3.wrap ((aK3.wrap ((aK3.wrap ((aK3.wrap ((aK3.wrap ((X1 .u64 q4 q5)*4294967296))+(F1 .u64 q6 32)))-(aK3.wrap (s4.1*q3))))*4294967296))+(V8 .u64 q6 4294967295)))-(aK3.wrap (s6.2*q3)))) (aK3.wrap v)) fun q9=>some (aK3.wrap ((aK3.wrap (s4.1*4294967296))+s6.2),q9))| .inr r=>r.elim)| .inr r=>r.elim)
def al3 (r2 c:Int)(negative:Bool)(mode:Int):Option Bool:=
 bif (mode==1)then(some (negative&&(decide (r2>0))))else(bif (mode==2)then(some ((!negative)&&(decide (r2>0))))else(bif negative then(some (decide (r2>(aK3.wrap (c-r2)))))else(some (decide (r2>=(aK3.wrap (c-r2)))))))
def az5 (a b2 c mode:Int):Option (Int×Int):=
 bif ((decide (mode<1))||(decide (mode>3)))then(some (0,1))else(bif (c==0)then(some (0,10))else(ab6 (X8 a) fun v=>ab6 (X8 b2) fun v2=>ab6 (at9 v v2) fun r2=>ab6 (X8 c) fun v3=>bif (decide (r2.1>=v3))then(some (0,9))else(ab6 (am5 r2.1 r2.2 v3) fun r3=>bif (decide (r3.1>9223372036854775808))then(some (0,9))else(ab6 (al3 r3.2 v3 (!((!((decide (a<0))==(decide (b2<0))))==(decide (c<0)))) mode) fun v4=>ab6 (bif v4 then(some (aK3.wrap (r3.1+1)))else(some r3.1)) fun(q:Int)=>bif ((!((!((decide (a<0))==(decide (b2<0))))==(decide (c<0))))&&(decide (q<=9223372036854775808)))then(some (o6 ((o6 (0-(o6 (aK3.wrap (q-1)))))-1),0))else(bif ((!(!((!((decide (a<0))==(decide (b2<0))))==(decide (c<0)))))&&(decide (q<9223372036854775808)))then(some (o6 q,0))else(some (0,9)))))))
def ao2 (a b2 mode:Int):Option (Int×Int):=
 ab6 (az5 a 1 b2 mode) fun r2=>some (r2.1,r2.2)
def Y3 (a b2:Int):Option Int:=
 ab6 (ao2 a b2 1) fun r2=>some r2.1
def ad9 (x0 x1 y0 y1 x:Int):Option Int:=
 ab6 (Y3 (o6 ((o6 (x-x0))*(o6 (y1-y0)))) (o6 (x1-x0))) fun v=>some (o6 (y0+v))
def as6 (j:Int)(c:SMap)(c2 c3:Int):Option Int:=
 ab6 (F0 c.X c2) fun x=>ab6 (F0 c.X (o6 (c2+1))) fun x2=>ab6 (F0 c.Z c2) fun x3=>ab6 (F0 x3 j) fun x4=>ab6 (F0 c.Z (o6 (c2+1))) fun x5=>ab6 (F0 x5 j) fun x6=>ab6 (ad9 x x2 x4 x6 c3) fun v=>some v
def aN9 (m2:SMap)(x y:Int):Option Int:=
 ab6 (Z9 m2.X x) fun r2=>ab6 (Z9 m2.Y y) fun r3=>ab6 (F0 m2.Y r3.1) fun x2=>ab6 (F0 m2.Y (o6 (r3.1+1))) fun x3=>ab6 (as6 r3.1 m2 r2.1 r2.2) fun v=>ab6 (as6 (o6 (r3.1+1)) m2 r2.1 r2.2) fun v2=>ab6 (ad9 x2 x3 v v2 r3.2) fun v3=>some v3
def aa9 (m2:SMap)(x y:Int):Option Int:=
 ab6 (L0 m2) fun v=>bif (!v)then(some 0)else(ab6 (aN9 m2 x y) fun v2=>some v2)
def aN4 (t2:p6)(value u0:Int):Option (Int×Int):=
 ab6 (L0 t2.R6) fun v=>bif (!v)then(some (0,1))else(bif ((((decide (value<0))||(decide (value>1000)))||(decide (u0<0)))||(decide (u0>12000)))then(some (0,2))else(ab6 (aa9 t2.R6 u0 value) fun v2=>ab6 (D7 v2 (-5000) 10000) fun v3=>some (v3,0)))
def ar4 (s:B9)(g:ak0)(e2:Int):Option (B9×Int×Int):=
 ab6 (T0 g) fun v=>bif (((!v)||(decide (s.Sum<(-4398046511104))))||(decide (s.Sum>4398046511104)))then(some ((⟨0⟩:B9),0,1))else(bif ((decide (e2<(-1048576)))||(decide (e2>1048576)))then(some ((⟨0⟩:B9),0,2))else(ab6 (bif ((decide ((F1 .i64 (o6 ((o6 (g.P*e2))+s.Sum)) 10)<=g.aC5))||(decide (e2<=0)))then(some ((decide ((F1 .i64 (o6 ((o6 (g.P*e2))+s.Sum)) 10)>=g.Low))||(decide (e2>=0))))else(some false)) fun b2=>ab6 (bif b2 then(ab6 (D7 (o6 (s.Sum+(o6 (g.I*e2)))) (-4398046511104) 4398046511104) fun v2=>some v2)else(some s.Sum)) fun(f2:Int)=>ab6 (D7 (F1 .i64 (o6 ((o6 (g.P*e2))+s.Sum)) 10) g.Low g.aC5) fun v3=>some ((⟨f2⟩:B9),v3,0)))
def aF2 (s:B9)(g:ak0)(target u0:Int):Option (B9×Int×Int):=
 ab6 (T0 g) fun v=>bif (!v)then(some ((⟨0⟩:B9),0,1))else(ab6 (ak4 target) fun v2=>ab6 (bif (!v2)then(some true)else(ab6 (ak4 u0) fun v3=>some (!v3))) fun b2=>bif b2 then(some ((⟨0⟩:B9),0,2))else(ab6 (ar4 s g (o6 (target-u0))) fun r2=>some (r2.1,r2.2.1,r2.2.2)))
def ai3 (r2:j6):Option Bool:=
 ab6 (V1 r2) fun v=>some (!v)
def aw1 (l:List j6)(low high:Int):Option Int:=
 ab6 (F5 l ai3) fun v=>bif v then(some 1)else(bif (decide ((l.length:Int)>32))then(some 5)else(ab6 (R8 low) fun v2=>ab6 (bif (!v2)then(some true)else(ab6 (R8 high) fun v3=>some (!v3))) fun b2=>bif (b2||(decide (low>high)))then(some 2)else(some 0)))
def Z6 (s:List j6):Option (List j6):=
 ab6 (U8 ([]:List j6) s) fun l=>some l
def S6 (a:Int)(cmp:j6->j6->Option Int)(s2:Int×List j6):Option ((Int×List j6)⊕((Int×List j6)⊕Empty)):=
 ab6 (bif (decide (s2.1>a))then(ab6 (F0 s2.2 s2.1) fun x=>ab6 (F0 s2.2 (o6 (s2.1-1))) fun x2=>ab6 (cmp x x2) fun v=>some (decide (v<0)))else(some false)) fun(v2:Bool)=>bif v2 then(ab6 (ab6 (F0 s2.2 (o6 (s2.1-1))) fun x3=>ab6 (F0 s2.2 s2.1) fun x4=>ab6 (ak9 s2.2 s2.1 x3) fun l=>ab6 (F0 l (o6 (s2.1-1))) fun _=>ab6 (ak9 l (o6 (s2.1-1)) x4) fun l2=>some l2) fun(f2:List j6)=>some (.inl (o6 (s2.1-1),f2)))else(some (.inr (.inl (s2.1,s2.2))))
def S5 (a b2:Int)(cmp:j6->j6->Option Int)(s:Int×List j6):Option ((Int×List j6)⊕((Int×List j6)⊕Empty)):=
 bif (decide (s.1<b2))then(ab6 (M0 (S6 a cmp) (s.1,s.2)) fun(t:(Int×List j6)⊕Empty)=>match t with| .inl s3=>(some (.inl (o6 (s.1+1),s3.2)))| .inr r=>r.elim)else(some (.inr (.inl (s.1,s.2))))
def G7 (data:List j6)(a b2:Int)(cmp:j6->j6->Option Int):Option (List j6):=
 ab6 (M0 (S5 a b2 cmp) (o6 (a+1),data)) fun(t:(Int×List j6)⊕Empty)=>match t with| .inl s4=>(some s4.2)| .inr r=>r.elim
def Q3 (_:Nat)(_:List j6)(_ _ _:Int)(_:j6->j6->Option Int):Option (List j6):=none
def U3 (n2:Int)(cmp:j6->j6->Option Int)(s:Int×Int×List j6):Option ((Int×Int×List j6)⊕((Int×Int×List j6)⊕Empty)):=
 bif (decide (s.2.1<=n2))then(ab6 (G7 s.2.2 s.1 s.2.1 cmp) fun v=>some (.inl (s.2.1,o6 (s.2.1+20),v)))else(some (.inr (.inl (s.1,s.2.1,s.2.2))))
def Z4 (n2:Int)(cmp:j6->j6->Option Int)(s3:Int×List j6)(s4:Int×Int×List j6):Option ((Int×Int×List j6)⊕((Int×Int×List j6)⊕Empty)):=
 bif (decide (s4.2.1<=n2))then(ab6 (Q3 64 s4.2.2 s4.1 (o6 (s4.1+s3.1)) s4.2.1 cmp) fun v3=>some (.inl (s4.2.1,o6 (s4.2.1+(o6 (2*s3.1))),v3)))else(some (.inr (.inl (s4.1,s4.2.1,s4.2.2))))
def U4 (n2:Int)(cmp:j6->j6->Option Int)(s3:Int×List j6):Option ((Int×List j6)⊕((Int×List j6)⊕Empty)):=
 bif (decide (s3.1<n2))then(ab6 (M0 (Z4 n2 cmp s3) (0,o6 (2*s3.1),s3.2)) fun(t:(Int×Int×List j6)⊕Empty)=>match t with| .inl s5=>(bif (decide ((o6 (s5.1+s3.1))<n2))then(ab6 (Q3 64 s5.2.2 s5.1 (o6 (s5.1+s3.1)) n2 cmp) fun v4=>some (.inl (o6 (s3.1*2),v4)))else(some (.inl (o6 (s3.1*2),s5.2.2))))| .inr r=>r.elim)else(some (.inr (.inl (s3.1,s3.2))))
def P1 (data:List j6)(n2:Int)(cmp:j6->j6->Option Int):Option (List j6):=
 ab6 (M0 (U3 n2 cmp) (0,20,data)) fun(t:(Int×Int×List j6)⊕Empty)=>match t with| .inl s2=>(ab6 (G7 s2.2.2 s2.1 n2 cmp) fun v2=>ab6 (M0 (U4 n2 cmp) (20,v2)) fun(t:(Int×List j6)⊕Empty)=>match t with| .inl s6=>(some s6.2)| .inr r=>r.elim)| .inr r=>r.elim
def L6 (x:List j6)(cmp:j6->j6->Option Int):Option (List j6):=
 ab6 (P1 x (x.length:Int) cmp) fun v=>some v
def Q1 (a b2:j6):Option Int:=
 some (o6 (b2.G5-a.G5))
def af2 (s:z6)(t2:Int):Option z6:=
 some (⟨s.low,K2 s.low (J1 s.high t2),s.source⟩:z6)
def ab7 (s:z6)(t2:Int):Option z6:=
 some ({s with low:=J1 s.high (K2 s.low t2)}:z6)
def ab8 (s:z6)(t2:Int):Option z6:=
 ab6 (D7 t2 s.low s.high) fun v=>some (⟨v,v,s.source⟩:z6)
def Z7 (s:z6)(r2:j6):Option (Bool×z6):=
 ab6 (bif (r2.Kind==1)then(ab6 (af2 s r2.j9) fun v=>some v)else(bif (r2.Kind==2)then(ab6 (ab7 s r2.j9) fun v2=>some v2)else(bif (r2.Kind==3)then(ab6 (ab8 s r2.j9) fun v3=>some v3)else(some s)))) fun(f2:z6)=>ab6 (bif (f2.low !=s.low)then(some r2.I7)else(some f2.source)) fun(f3:Int)=>bif (f2.low !=s.low)then(some (true,(⟨f2.low,f2.high,f3⟩:z6)))else(some ((f2.high !=s.high),(⟨f2.low,f2.high,f3⟩:z6)))
def aC3 (s:List Int):Option (List Int):=
 bU5 s
def at4 (s:List Int):Option (List Int):=
 bn1 s
def ak2 (_:Int)(x:j6)(s:List Int×z6):Option (Fl (List Int×z6) Empty):=
 ab6 (Z7 s.2 x) fun r2=>bif r2.1 then(ab6 (U8 s.1 ([x.I7]:List Int)) fun l2=>some (.next (l2,r2.2)))else(some (.next (s.1,r2.2)))
def aq8 (l:List j6)(low high:Int):Option (z6×List Int):=
 ab6 (Z6 l) fun v=>ab6 (L6 v Q1) fun v2=>ab6 (ad4 v2 (ak2) (([]:List Int),(⟨low,high,(-1)⟩:z6))) fun(t:(List Int×z6)⊕Empty)=>match t with| .inl s2=>(ab6 (aC3 s2.1) fun v3=>ab6 (ab6 (at4 v3) fun v4=>some (v4,s2.2)) fun(s3:List Int×z6)=>some (s3.2,s3.1))| .inr r=>r.elim
def aq7 (g:N4)(l:List j6)(low high up down:Int):Option (N4×Int):=
 ab6 (R8 g.j9) fun v=>bif (((!v)||(decide (g.I7<(-1))))||(decide (g.I7>15)))then(some ((⟨0,0⟩:N4),1))else(ab6 (aw1 l low high) fun v2=>bif (v2 !=0)then(some ((⟨0,0⟩:N4),v2))else(bif ((((decide (up<0))||(decide (up>20000)))||(decide (down<0)))||(decide (down>20000)))then(some ((⟨0,0⟩:N4),2))else(ab6 (aq8 l low high) fun r2=>some ((⟨K2 (J1 (J1 (K2 r2.1.low (o6 (g.j9-down))) (o6 (g.j9+up))) r2.1.high) low,r2.1.source⟩:N4),0))))
def Z8 (s:p7):Option p7:=
 ab6 (ab6 (aN3 s.c.C5 s.i.bo7 s.i.bo8) fun r2=>some (r2.2,r2.1)) fun(s2:Int×L4)=>ab6 (A1 ({s with c:=(⟨s2.2,s.c.G6,s.c.R7,s.c.B2,s.c.H9,s.c.L8⟩:z8)}:p7) s2.1) fun v=>ab6 (aN4 v.t v.c.C5.Value v.i.C9) fun r3=>ab6 (A1 v r3.2) fun v2=>ab6 (ax3 v2.c.C5.Value v2.i.C9 v2.i.ap5) fun v3=>ab6 (bif v3 then(ab6 (ab6 (ax4 v2.i.ap5) fun v4=>ab6 (aF2 v2.c.G6 v2.t.G6 v4 v2.i.C9) fun r4=>some (r4.2.2,r4.2.1,r4.1.Sum)) fun(s3:Int×Int×Int)=>ab6 (A1 ({v2 with c:=(⟨v2.c.C5,(⟨s3.2.2⟩:B9),v2.c.R7,v2.c.B2,v2.c.H9,v2.c.L8⟩:z8)}:p7) s3.1) fun v5=>ab6 (D7 s3.2.1 (-5000) 10000) fun v6=>ab6 (U8 ([(⟨0,3,r3.1,0⟩:j6)]:List j6) ([(⟨1,2,v6,1⟩:j6)]:List j6)) fun l=>some (v5,l))else(some (({v2 with c:=(⟨v2.c.C5,(⟨0⟩:B9),v2.c.R7,v2.c.B2,v2.c.H9,v2.c.L8⟩:z8)}:p7),([(⟨0,3,r3.1,0⟩:j6)]:List j6)))) fun(s4:p7×List j6)=>ab6 (ab6 (U8 s4.2 s4.1.i.Requests) fun l2=>ab6 (aq7 s4.1.c.L8 l2 (-5000) 10000 300 1000) fun r5=>some (r5.2,r5.1,l2)) fun(s5:Int×N4×List j6)=>ab6 (A1 (⟨s4.1.t,s4.1.e,s4.1.b,(⟨s4.1.c.C5,s4.1.c.G6,s4.1.c.R7,s4.1.c.B2,s4.1.c.H9,s5.2.1⟩:z8),s4.1.i,s4.1.wanted,s4.1.u9,s4.1.X2,s4.1.late,s4.1.pattern,s4.1.time,s4.1.out,s4.1.fail⟩:p7) s5.1) fun v7=>some ({v7 with wanted:=K2 0 v7.c.L8.j9}:p7)
def an2 (i:Int)(c:p6)(c2 c3 c4:Int):Option Bool:=
 ab6 (aa9 c.j9 c2 (o6 (c3+i))) fun v=>some (decide (v>=c4))
def aq4 (t2:p6)(u0 J7:Int):Option (Int×Int):=
 ab6 (aj3 t2) fun v=>bif (!v)then(some (0,1))else(ab6 (J3 u0 0 12000) fun v2=>bif (!v2)then(some (0,2))else(ab6 (F0 t2.j9.Y 0) fun x=>ab6 (F0 t2.j9.Y (o6 ((t2.j9.Y.length:Int)-1))) fun x2=>ab6 (S7 (o6 ((o6 (x2-x))+1)) (fun x0=>an2 x0 t2 u0 x J7)) fun v3=>bif (v3==(o6 ((o6 (x2-x))+1)))then(some (0,7))else(some (o6 (x+v3),0))))
def av2 (x e2 other:Int):Option Int:=
 bif (e2 !=0)then(some other)else(some x)
def am2 (i:Int)(c:A7)(c2:Int):Option Bool:=
 ab6 (F0 c.X i) fun x=>some (decide (x>c2))
def aw3 (c:A7)(x:Int):Option Int:=
 ab6 (S7 (c.X.length:Int) (fun x0=>am2 x0 c x)) fun v=>some (o6 (v-1))
def aF7 (c:A7)(x:Int):Option Int:=
 ab6 (F0 c.X 0) fun x2=>bif (decide (x<=x2))then(ab6 (F0 c.Y 0) fun x3=>some x3)else(ab6 (F0 c.X (o6 ((c.X.length:Int)-1))) fun x4=>bif (decide (x>=x4))then(ab6 (F0 c.Y (o6 ((c.X.length:Int)-1))) fun x5=>some x5)else(ab6 (aw3 c x) fun v=>ab6 (F0 c.Y v) fun x6=>ab6 (F0 c.X v) fun x7=>ab6 (F0 c.Y (o6 (v+1))) fun x8=>ab6 (F0 c.X (o6 (v+1))) fun x9=>ab6 (Y3 (o6 ((o6 (x-x7))*(o6 (x8-x6)))) (o6 (x9-x7))) fun v2=>some (o6 (x6+v2))))
def au7 (c:A7)(x:Int):Option Int:=
 ab6 (R9 c) fun v=>bif (!v)then(some 0)else(ab6 (aF7 c x) fun v2=>some v2)
def aC8 (t2:p6)(u0 A3 N0:Int):Option Int:=
 ab6 (aa9 t2.Air u0 A3) fun v=>ab6 (au7 t2.C6 N0) fun v2=>ab6 (Y3 (o6 (v*v2)) 1000) fun v3=>some (J1 1048576 v3)
def al1 (k:Int)(c:p6)(c2 c3 c4:Int):Option Bool:=
 ab6 (aC8 c c2 (o6 (50+k)) c3) fun v=>some (decide (v>=c4))
def av8 (t2:p6)(u0 want N0:Int):Option (Int×Int):=
 ab6 (aB6 t2) fun v=>bif (!v)then(some (0,1))else(ab6 (K3 u0 0 12000) fun v2=>ab6 (bif (!v2)then(some true)else(ab6 (K3 want 0 1048576) fun v3=>some (!v3))) fun b2=>ab6 (bif b2 then(some true)else(ab6 (K3 N0 (-40) 150) fun v4=>some (!v4))) fun b3=>bif b3 then(some (0,2))else(ab6 (S7 2951 (fun x0=>al1 x0 t2 u0 N0 want)) fun v5=>bif (decide ((o6 (50+v5))>3000))then(some (0,7))else(some (o6 (50+v5),0))))
def ax9 (rpm:Int):Option (Int×Int):=
 bif ((decide (rpm<0))||(decide (rpm>20000)))then(some (0,2))else(ab6 (ao2 (o6 ((o6 (rpm*65536))*23040)) 60000000 2) fun r2=>some (r2.1,r2.2))
def be2 (u0 A3:Int):Option (Int×Int):=
 ab6 (K3 u0 0 12000) fun v=>ab6 (bif (!v)then(some true)else(ab6 (K3 A3 50 3000) fun v2=>some (!v2))) fun b2=>bif b2 then(some (0,2))else(ab6 (ax9 u0) fun r2=>some (o6 (da8 (o6 (r2.1*A3)) 1024),r2.2))
def al2 (k:Int)(c:J4)(c2 c3:Int):Option Bool:=
 some (decide ((o6 (da8 (o6 ((o6 (c.C4*k))*(o6 (1013-c2)))) 1000))>=c3))
def av9 (b2:J4)(cX6 A3:Int):Option (Int×Int):=
 ab6 (ak5 b2) fun v=>bif (!v)then(some (0,1))else(ab6 (K3 cX6 0 1099511627776) fun v2=>ab6 (bif (!v2)then(some true)else(ab6 (K3 A3 50 1013) fun v3=>some (!v3))) fun b3=>bif b3 then(some (0,2))else(ab6 (S7 1001 (fun x0=>al2 x0 b2 A3 cX6)) fun v4=>bif (decide (v4>1000))then(some (0,7))else(some (v4,0))))
def W5 (s:p7):Option p7:=
 ab6 (aq4 s.t s.i.C9 s.wanted) fun r2=>ab6 (av2 r2.1 r2.2 1048576) fun v=>ab6 (av8 s.t s.i.C9 (K2 0 v) s.i.C6) fun r3=>ab6 (av2 r3.1 r3.2 3000) fun v2=>ab6 (be2 s.i.C9 (J1 1012 v2)) fun r4=>ab6 (A1 s r4.2) fun v3=>ab6 (av9 v3.b r4.1 (J1 1012 v2)) fun r5=>ab6 (av2 r5.1 r5.2 1000) fun v4=>some ({v3 with out:=(⟨v4,v3.out.N8,v3.out.j9⟩:J9)}:p7)
def aC7 (t2:p6)(u0 A3 N0:Int):Option (Int×Int):=
 ab6 (aB6 t2) fun v=>bif (!v)then(some (0,1))else(ab6 (K3 u0 0 12000) fun v2=>ab6 (bif (!v2)then(some true)else(ab6 (K3 A3 50 3000) fun v3=>some (!v3))) fun b2=>ab6 (bif b2 then(some true)else(ab6 (K3 N0 (-40) 150) fun v4=>some (!v4))) fun b3=>bif b3 then(some (0,2))else(ab6 (aC8 t2 u0 A3 N0) fun v5=>some (v5,0)))
def ai1 (t2:p6)(u0 u9:Int):Option (Int×Int):=
 ab6 (aj3 t2) fun v=>bif (!v)then(some (0,1))else(ab6 (J3 u0 0 12000) fun v2=>ab6 (bif (!v2)then(some true)else(ab6 (J3 u9 0 1048576) fun v3=>some (!v3))) fun b2=>bif b2 then(some (0,2))else(ab6 (aa9 t2.j9 u0 u9) fun v4=>some (v4,0)))
def ab4 (t2:p6)(bK3 late X2 C2:Int):Option Int:=
 ab6 (au7 t2.u6 late) fun v=>ab6 (bo2 .i64 (o6 ((o6 (bK3*v))*X2)) (o6 (1000*C2))) fun q=>some q
def am0 (late:Int)(c:p6)(c2 c3 c4 c5:Int):Option Bool:=
 ab6 (ab4 c c2 late c3 c4) fun v=>some (decide (v<=c5))
def an4 (t2:p6)(most C2:Int)(r2:Int×Int)(f2:Int):Option (Int⊕(Int⊕Empty)):=
 bif (decide (f2>0))then(ab6 (ab4 t2 r2.1 2560 f2 C2) fun v2=>bif (decide (v2<=most))then(some (.inr (.inl f2)))else(some (.inl (o6 (f2-1)))))else(some (.inr (.inl f2)))
def an3 (t2:p6)(u0 u9 most C2:Int):Option (Int×Int×Int):=
 ab6 (ai1 t2 u0 u9) fun r2=>bif (r2.2 !=0)then(some (0,0,r2.2))else(ab6 (J3 C2 1 8) fun v=>bif ((!v)||(decide (most<0)))then(some (0,0,2))else(ab6 (M0 (an4 t2 most C2 r2) C2) fun(t:Int⊕Empty)=>match t with| .inl f3=>(ab6 (S7 2560 (fun x0=>am0 x0 t2 r2.1 f3 C2 most)) fun v3=>some (f3,v3,0))| .inr r=>r.elim))
def as9 (C2 X2 G8 i:Int)(f2:List Bool):Option (Fl (List Bool) Empty):=
 ab6 (cg7 (o6 (i+G8)) C2) fun q=>ab6 (bo2 .i64 (o6 ((o6 (q+1))*X2)) C2) fun q2=>ab6 (bo2 .i64 (o6 (q*X2)) C2) fun q3=>ab6 (F0 f2 i) fun _=>ab6 (ak9 f2 i (decide (q2>q3))) fun l2=>some (.next l2)
def as8 (C2 X2 G8:Int):Option (List Bool×Int):=
 ab6 (J3 C2 1 8) fun v=>ab6 (bif (!v)then(some true)else(ab6 (J3 X2 0 C2) fun v2=>some (!v2))) fun b2=>ab6 (bif b2 then(some true)else(ab6 (J3 G8 0 1099511627776) fun v3=>some (!v3))) fun b3=>bif b3 then(some (([]:List Bool),2))else(ab6 (aY2 C2 false) fun l=>ab6 (N1 (l.length:Int) (as9 C2 X2 G8) l) fun(t:(List Bool)⊕Empty)=>match t with| .inl f3=>(some (f3,0))| .inr r=>r.elim)
def aw9 (t2:p6)(u0 u9 late X2 C2:Int):Option (Int×Int):=
 ab6 (ai1 t2 u0 u9) fun r2=>bif (r2.2 !=0)then(some (0,r2.2))else(ab6 (J3 late 0 2560) fun v=>ab6 (bif (!v)then(some true)else(ab6 (J3 C2 1 8) fun v2=>some (!v2))) fun b2=>ab6 (bif b2 then(some true)else(ab6 (J3 X2 0 C2) fun v3=>some (!v3))) fun b3=>bif b3 then(some (0,2))else(ab6 (ab4 t2 r2.1 late X2 C2) fun v4=>some (v4,0)))
def ac6 (s:p7):Option p7:=
 ab6 (ab6 (aC7 s.t s.i.C9 s.i.G0 s.i.C6) fun r2=>some (r2.2,r2.1)) fun(s2:Int×Int)=>ab6 (A1 ({s with u9:=s2.2}:p7) s2.1) fun v=>ab6 (ab6 (an3 v.t v.i.C9 v.u9 v.wanted (s.e.z7.length:Int)) fun r3=>some (r3.2.2,r3.1,r3.2.1)) fun(s3:Int×Int×Int)=>ab6 (A1 ({v with X2:=s3.2.1,late:=s3.2.2}:p7) s3.1) fun v2=>ab6 (as8 (s.e.z7.length:Int) v2.X2 0) fun r4=>ab6 (A1 ({v2 with pattern:=r4.1}:p7) r4.2) fun v3=>ab6 (ab6 (aw9 v3.t v3.i.C9 v3.u9 v3.late v3.X2 (s.e.z7.length:Int)) fun r5=>some (r5.2,r5.1)) fun(s4:Int×Int)=>ab6 (A1 ({v3 with out:=(⟨v3.out.C4,v3.out.N8,s4.2⟩:J9)}:p7) s4.1) fun v4=>some v4
def ae5 (u0 u9:Int):Option Bool:=
 ab6 (U9 u0 0 12000) fun v=>ab6 (bif v then(ab6 (U9 u9 0 1048576) fun v2=>some v2)else(some false)) fun b2=>some b2
def ah8 (s:List ad1):Option (List ad1):=
 ab6 (U8 ([]:List ad1) s) fun l=>some l
def ax6 (p2:I2):Option I2:=
 ab6 (ah8 p2.Cells) fun v=>some ({p2 with Cells:=v}:I2)
def az9 (p2:I2)(D1 u0 u9:Int):Option (I2×Int):=
 ab6 (ae4 p2) fun v=>bif (!v)then(some ((⟨false,false,0,0,([]:List ad1)⟩:I2),1))else(ab6 (ae5 u0 u9) fun v2=>ab6 (bif (!v2)then(some true)else(ab6 (U9 D1 0 20000) fun v3=>some (!v3))) fun b2=>bif b2 then(some ((⟨false,false,0,0,([]:List ad1)⟩:I2),2))else(ab6 (ax6 p2) fun v4=>bif (!v4.Q8)then(some (({v4 with Q8:=((decide (D1<300))||(decide (D1>600))),ay2:=decide (D1>600)}:I2),0))else(ab6 (bif (decide (D1>500))then(some true)else(some ((decide (D1>=400))&&v4.ay2))) fun b3=>ab6 (bif (!(b3==v4.ay2))then(some (15,0))else(some (1,J1 1000 (o6 (v4.av7+1))))) fun(s:Int×Int)=>ab6 (bif b3 then(some (o6 (0-s.1)))else(some s.1)) fun(v_by:Int)=>ab6 (D7 (o6 (v4.P3+v_by)) 750 1250) fun v5=>some ((⟨v4.Q8,b3,v5,s.2,v4.Cells⟩:I2),0))))
def aC2 (x _ x2 n2:Int):Option (Fl Int Empty):=
 bif (decide (x>=x2))then(some (.next (o6 (n2+1))))else(some (.next n2))
def al7 (x:Int)(bb9:List Int):Option Int:=
 ab6 (ad4 bb9 (aC2 x) 0) fun(t:Int⊕Empty)=>match t with| .inl n3=>(some n3)| .inr r=>r.elim
def aG8 (u0 u9:Int):Option Int:=
 ab6 (ae5 u0 u9) fun v=>bif (!v)then(some (-1))else(ab6 (al7 u0 ([1500,3500]:List Int)) fun v2=>ab6 (al7 u9 ([150000,350000]:List Int)) fun v3=>some (o6 ((o6 (3*v2))+v3)))
def ar7 (p2:I2)(u0 u9:Int):Option (Int×Int):=
 ab6 (ae4 p2) fun v=>bif (!v)then(some (0,1))else(ab6 (ae5 u0 u9) fun v2=>bif (!v2)then(some (0,2))else(ab6 (aG8 u0 u9) fun v3=>ab6 (F0 p2.Cells v3) fun x=>ab6 (D7 (o6 (p2.P3+x.Value)) 700 1300) fun v4=>some (v4,0)))
def ag4 (x low high:Int):Option Bool:=
 some ((decide (x>=low))&&(decide (x<=high)))
def aU5 (u9 bJ3:Int):Option (Int×Int):=
 ab6 (ag4 u9 0 1048576) fun v=>ab6 (bif (!v)then(some true)else(ab6 (ag4 bJ3 500 2000) fun v2=>some (!v2))) fun b2=>bif b2 then(some (0,2))else(ab6 (bo2 .i64 (o6 (u9*10000)) (o6 (bJ3*147))) fun q=>some (q,0))
def aJ8 (b2:J4):Option Bool:=
 ab6 (ag4 b2.H9 0 1023) fun v=>ab6 (bif v then(ab6 (ag4 b2.E9 0 1024) fun v2=>some v2)else(some false)) fun b3=>some b3
def aN7 (cmp:Int->Option Int)(s:Int×Int):Option ((Int×Int)⊕((Int×Int)⊕Empty)):=
 bif (decide (s.1<s.2))then(ab6 (cmp (o6 (F1 .u64 (aK3.wrap (o6 (s.1+s.2))) 1))) fun v=>bif (decide (v>0))then(some (.inl (o6 ((o6 (F1 .u64 (aK3.wrap (o6 (s.1+s.2))) 1))+1),s.2)))else(some (.inl (s.1,o6 (F1 .u64 (aK3.wrap (o6 (s.1+s.2))) 1)))))else(some (.inr (.inl (s.1,s.2))))
def aP9 (n2:Int)(cmp:Int->Option Int):Option (Int×Bool):=
 ab6 (M0 (aN7 cmp) (0,n2)) fun(t:(Int×Int)⊕Empty)=>match t with| .inl s2=>(ab6 (bif (decide (s2.1<n2))then(ab6 (cmp s2.1) fun v2=>some (v2==0))else(some false)) fun b2=>some (s2.1,b2))| .inr r=>r.elim
def aC1 (b2:J4)(aG1 aI0:Int):Option (Int×Int):=
 some (o6 ((o6 (aI0-(o6 (da8 (o6 (aI0*b2.H9)) 1024))))+(o6 (da8 (o6 (aG1*b2.E9)) 1024))),o6 ((o6 (aG1+(o6 (da8 (o6 (aI0*b2.H9)) 1024))))-(o6 (da8 (o6 (aG1*b2.E9)) 1024))))
def aB1 (i:Int)(c:J4)(c2 c3:Int):Option Int:=
 ab6 (aC1 c c2 i) fun r2=>some (o6 (c3-r2.1))
def aJ7 (b2:J4)(aG1 br8:Int):Option (Int×Int×Int):=
 ab6 (aJ8 b2) fun v=>bif (!v)then(some (0,0,1))else(ab6 (ag4 aG1 0 1073741824) fun v2=>ab6 (bif (!v2)then(some true)else(ab6 (ag4 br8 0 1048576) fun v3=>some (!v3))) fun b3=>bif b3 then(some (0,0,2))else(ab6 (aP9 1048577 (fun x0=>aB1 x0 b2 aG1 br8)) fun r2=>bif (decide (r2.1>1048576))then(some (0,0,9))else(ab6 (aC1 b2 aG1 r2.1) fun r3=>bif (decide (r3.2>1073741824))then(some (0,0,9))else(some (r2.1,r3.2,0)))))
def aP6 (b2:J4)(aG1 aI0:Int):Option (Int×Int×Int):=
 ab6 (aJ8 b2) fun v=>bif (!v)then(some (0,0,1))else(ab6 (ag4 aG1 0 1073741824) fun v2=>ab6 (bif (!v2)then(some true)else(ab6 (ag4 aI0 0 1048576) fun v3=>some (!v3))) fun b3=>bif b3 then(some (0,0,2))else(ab6 (aC1 b2 aG1 aI0) fun r2=>bif (decide (r2.2>1073741824))then(some (0,0,9))else(some (r2.1,r2.2,0))))
def aG2 (y:Int):Option Bool:=
 ab6 (ag4 y 0 10000) fun v=>some (!v)
def aC0 (t2:p6)(cb9 D1:Int):Option (Int×Int):=
 ab6 (R9 t2.V6) fun v=>ab6 (bif (!v)then(some true)else(ab6 (u7 t2.V6.Y aG2) fun v2=>some v2)) fun b2=>bif b2 then(some (0,1))else(ab6 (ag4 cb9 0 1048576) fun v3=>ab6 (bif (!v3)then(some true)else(ab6 (ag4 D1 0 20000) fun v4=>some (!v4))) fun b3=>bif b3 then(some (0,2))else(ab6 (au7 t2.V6 D1) fun v5=>some (v5,0)))
def aP7 (t2:p6)(br8 D1:Int):Option (Int×Int):=
 ab6 (aC0 t2 br8 D1) fun r2=>bif ((r2.2 !=0)||(br8==0))then(some (0,r2.2))else(ab6 (ao2 br8 3 2) fun r3=>some (o6 (r2.1+r3.1),r3.2))
def af6 (s:p7):Option p7:=
 ab6 (ab6 (az9 s.c.B2 s.i.Lambda s.i.C9 s.u9) fun r2=>some (r2.2,r2.1)) fun(s2:Int×I2)=>ab6 (A1 ({s with c:=(⟨s.c.C5,s.c.G6,s.c.R7,s2.2,s.c.H9,s.c.L8⟩:z8)}:p7) s2.1) fun v=>ab6 (ar7 v.c.B2 v.i.C9 v.u9) fun r3=>ab6 (A1 v r3.2) fun v2=>ab6 (aU5 v2.u9 1000) fun r4=>ab6 (A1 v2 r4.2) fun v3=>ab6 (aJ7 v3.b v3.c.H9 (J1 1048576 (o6 (da8 (o6 (r4.1*r3.1)) 1000)))) fun r5=>ab6 (bif ((v3.X2==0)||(r5.2.2 !=0))then(ab6 (aP6 v3.b v3.c.H9 0) fun r6=>ab6 (A1 v3 r6.2.2) fun v4=>some (0,r6.2.1,v4))else(some (r5.1,r5.2.1,v3))) fun(s3:Int×Int×p7)=>bif (decide (s3.1>0))then(ab6 (aP7 s3.2.2.t s3.1 s3.2.2.i.az4) fun r7=>ab6 (A1 (⟨s3.2.2.t,s3.2.2.e,s3.2.2.b,(⟨s3.2.2.c.C5,s3.2.2.c.G6,s3.2.2.c.R7,s3.2.2.c.B2,s3.2.1,s3.2.2.c.L8⟩:z8),s3.2.2.i,s3.2.2.wanted,s3.2.2.u9,s3.2.2.X2,s3.2.2.late,s3.2.2.pattern,s3.2.2.time,s3.2.2.out,s3.2.2.fail⟩:p7) r7.2) fun v5=>ab6 (D7 r7.1 200 20000) fun v6=>some ({v5 with time:=v6}:p7))else(some (⟨s3.2.2.t,s3.2.2.e,s3.2.2.b,(⟨s3.2.2.c.C5,s3.2.2.c.G6,s3.2.2.c.R7,s3.2.2.c.B2,s3.2.1,s3.2.2.c.L8⟩:z8),s3.2.2.i,s3.2.2.wanted,s3.2.2.u9,s3.2.2.X2,s3.2.2.late,s3.2.2.pattern,s3.2.2.time,s3.2.2.out,s3.2.2.fail⟩:p7))
def aB2 (k:D0):Option Bool:=
 ab6 (ax5 k) fun v=>some (!v)
def aG4 (n2:Int):Option Bool:=
 ab6 (ai5 n2) fun v=>some (!v)
def af4 (s:List D0):Option (List D0):=
 ab6 (U8 ([]:List D0) s) fun l=>some l
def aI1 (k:D0)(n2:Int):Option (D0×Bool):=
 bif (decide (n2>(o6 ((o6 (3*k.aI6))+40))))then(some ((⟨J1 (o6 (k.au3+96)) 960,k.aI6,0⟩:D0),true))else(ab6 (bif ((o6 (k.Quiet+1))==100)then(some (K2 (o6 (k.au3-16)) 0,0))else(some (k.au3,o6 (k.Quiet+1)))) fun(s:Int×Int)=>ab6 (Y3 (o6 (n2-k.aI6)) 8) fun v=>some ((⟨s.1,o6 (k.aI6+v),s.2⟩:D0),false))
def aM9 (l:List D0)(ah0:List Int)(i:Int)(f2:List D0):Option (Fl (List D0) Empty):=
 ab6 (ab6 (F0 l i) fun x=>ab6 (F0 ah0 i) fun x2=>ab6 (aI1 x x2) fun r2=>ab6 (F0 f2 i) fun _=>ab6 (ak9 f2 i r2.1) fun l2=>some l2) fun(f3:List D0)=>some (.next f3)
def aU8 (l:List D0)(ah0:List Int):Option (List D0×Int):=
 ab6 (bif (((decide ((l.length:Int)<1))||(decide ((l.length:Int)>8)))||((ah0.length:Int) !=(l.length:Int)))then(some true)else(ab6 (K8 l aB2) fun v=>some v)) fun b2=>bif b2 then(some (([]:List D0),1))else(ab6 (u7 ah0 aG4) fun v2=>bif v2 then(some (([]:List D0),2))else(ab6 (af4 l) fun v3=>ab6 (N1 (v3.length:Int) (aM9 l ah0) v3) fun(t:(List D0)⊕Empty)=>match t with| .inl f4=>(some (f4,0))| .inr r=>r.elim))
def aB3 (a b2:Int):Option Int:=
 some (o6 (b2-a))
def aH3 (l:List Int):Option Bool:=
 ab6 (J5 l aB3) fun v=>some v
def T2 (x low high:Int):Option Bool:=
 some ((decide (x>=low))&&(decide (x<=high)))
def au1 (x c c2:Int):Option Bool:=
 ab6 (T2 x c c2) fun v=>some (!v)
def af0 (l:List Int)(low high:Int):Option Bool:=
 ab6 (u7 l (fun x0=>au1 x0 low high)) fun v=>some v
def aw8 (l:List Int):Option Bool:=
 ab6 (af0 l (-1280) 3840) fun v=>some v
def ay1 (t2:p6):Option Bool:=
 ab6 (L0 t2.D9) fun v=>ab6 (bif (!v)then(some true)else(ab6 (R9 t2.L2) fun v2=>some (!v2))) fun b2=>ab6 (bif b2 then(some true)else(ab6 (R9 t2.u6) fun v3=>some (!v3))) fun b3=>ab6 (bif b3 then(some true)else(ab6 (aH3 t2.u6.Y) fun v4=>some (!v4))) fun b4=>bif b4 then(some false)else(ab6 (H2 t2.D9.Z aw8) fun v5=>ab6 (bif (!v5)then(ab6 (af0 t2.L2.Y 500 10000) fun v6=>some (!v6))else(some false)) fun b5=>ab6 (bif b5 then(ab6 (af0 t2.u6.Y 0 1000) fun v7=>some (!v7))else(some false)) fun b6=>some b6)
def aH2 (t2:p6)(D1 O3:Int):Option (Int×Int):=
 ab6 (ay1 t2) fun v=>bif (!v)then(some (0,1))else(ab6 (T2 D1 0 20000) fun v2=>ab6 (bif (!v2)then(some true)else(ab6 (T2 O3 4000 1000000) fun v3=>some (!v3))) fun b2=>bif b2 then(some (0,2))else(ab6 (au7 t2.L2 D1) fun v4=>some (J1 v4 (o6 (da8 (o6 (3*O3)) 4)),0)))
def aN8 (t2:p6)(u0 u9:Int):Option (Int×Int):=
 ab6 (ay1 t2) fun v=>bif (!v)then(some (0,1))else(ab6 (T2 u0 0 12000) fun v2=>ab6 (bif (!v2)then(some true)else(ab6 (T2 u9 0 1048576) fun v3=>some (!v3))) fun b2=>bif b2 then(some (0,2))else(ab6 (aa9 t2.D9 u0 u9) fun v4=>some (v4,0)))
def aH1 (t2:p6)(u0 u9 B0 bk6:Int):Option (Int×Int):=
 ab6 (aN8 t2 u0 u9) fun r2=>bif (r2.2 !=0)then(some (0,r2.2))else(ab6 (T2 B0 (-40) 150) fun v=>ab6 (bif (!v)then(some true)else(ab6 (T2 bk6 0 1280) fun v2=>some (!v2))) fun b2=>bif b2 then(some (0,2))else(bif (decide (B0<20))then(ab6 (D7 (o6 ((o6 (r2.1+(o6 (2*(o6 (20-B0))))))-bk6)) (-1280) 3840) fun v3=>some (v3,0))else(bif (decide (B0>100))then(ab6 (D7 (o6 ((o6 (r2.1-(o6 (8*(o6 (B0-100))))))-bk6)) (-1280) 3840) fun v4=>some (v4,0))else(ab6 (D7 (o6 (r2.1-bk6)) (-1280) 3840) fun v5=>some (v5,0)))))
def af5 (r3:Int×Int)(i:Int)(f2:p7):Option (Fl p7 Empty):=
 ab6 (F0 f2.c.R7 i) fun x=>ab6 (aH1 f2.t f2.i.C9 f2.u9 f2.i.ap5 x.au3) fun r4=>ab6 (A1 f2 r4.2) fun v4=>ab6 (F0 v4.pattern i) fun x2=>ab6 (bif x2 then(some v4.time)else(some 0)) fun(f3:Int)=>ab6 (ab6 (U8 v4.out.N8 ([(⟨o6 (i+1),K2 (-1280) (o6 (r4.1-v4.late)),K2 500 r3.1,5760,f3,0,0⟩:A6)]:List A6)) fun l=>some l) fun(f4:List A6)=>some (.next ({v4 with out:=(⟨v4.out.C4,f4,v4.out.j9⟩:J9)}:p7))
def ac5 (s:p7):Option p7:=
 ab6 (ab6 (aU8 s.c.R7 s.i.W7) fun r2=>some (r2.2,r2.1)) fun(s2:Int×List D0)=>ab6 (A1 ({s with c:=(⟨s.c.C5,s.c.G6,s2.2,s.c.B2,s.c.H9,s.c.L8⟩:z8)}:p7) s2.1) fun v=>ab6 (bo2 .i64 60000000 (K2 1 v.i.C9)) fun q=>ab6 (D7 q 4000 1000000) fun v2=>ab6 (aH2 v.t v.i.az4 v2) fun r3=>ab6 (A1 v r3.2) fun v3=>bif (v3.fail !=0)then(some v3)else(ab6 (N1 (v3.e.z7.length:Int) (af5 r3) v3) fun(t:p7⊕Empty)=>match t with| .inl f5=>(some f5)| .inr r=>r.elim)
def aF6 (t2:p6)(e2:o7)(b2:J4)(c:z8)(i:X5):Option (z8×J9×Int):=
 ab6 (ae2 t2) fun v=>ab6 (bif (!v)then(some true)else(ab6 (ak5 b2) fun v2=>some (!v2))) fun b3=>ab6 (bif b3 then(some true)else(ab6 (ar1 e2 c) fun v3=>some (!v3))) fun b4=>bif b4 then(some ((⟨(⟨0,0,false⟩:L4),(⟨0⟩:B9),([]:List D0),(⟨false,false,0,0,([]:List ad1)⟩:I2),0,(⟨0,0⟩:N4)⟩:z8),(⟨0,([]:List A6),0⟩:J9),1))else(ab6 (aw2 i (e2.z7.length:Int)) fun v4=>bif (!v4)then(some ((⟨(⟨0,0,false⟩:L4),(⟨0⟩:B9),([]:List D0),(⟨false,false,0,0,([]:List ad1)⟩:I2),0,(⟨0,0⟩:N4)⟩:z8),(⟨0,([]:List A6),0⟩:J9),2))else(ab6 (Z8 (⟨t2,e2,b2,c,i,0,0,0,0,([]:List Bool),0,(⟨0,([]:List A6),0⟩:J9),0⟩:p7)) fun v5=>ab6 (W5 v5) fun v6=>ab6 (ac6 v6) fun v7=>ab6 (af6 v7) fun v8=>ab6 (ac5 v8) fun v9=>bif (v9.fail !=0)then(ab6 (some v9.fail) fun(v10:Int)=>some ((⟨(⟨0,0,false⟩:L4),(⟨0⟩:B9),([]:List D0),(⟨false,false,0,0,([]:List ad1)⟩:I2),0,(⟨0,0⟩:N4)⟩:z8),(⟨0,([]:List A6),0⟩:J9),v10))else(ab6 (some (0,v9.c,v9.out)) fun(s:Int×z8×J9)=>some (s.2.1,s.2.2,s.1))))
def aV4 (n2:Int):Option (u5×Int):=
 bif ((decide (n2<1))||(decide (n2>16)))then(some ((⟨0,([]:List o4)⟩:u5),2))else(ab6 (aY2 n2 (⟨false,0,false,false⟩:o4)) fun l=>some ((⟨0,l⟩:u5),0))
def P9 (s:List Int):Option (List Int):=
 ab6 (U8 ([]:List Int) s) fun l=>some l
def bc2:Option B8:=
 some (⟨false,0,0,0,0,0⟩:B8)
def aq2 (e2:o7):Option (j2×Int):=
 ab6 (R3 e2) fun v=>bif (!v)then(some ((⟨(⟨([]:List Int),0⟩:o7),(⟨false,0,0,0,0,0⟩:B8),(⟨0,([]:List o4)⟩:u5),([]:List A6),([]:List A9),false⟩:j2),1))else(ab6 (aV4 (o6 (2*(e2.z7.length:Int)))) fun r2=>bif (r2.2 !=0)then(some ((⟨(⟨([]:List Int),0⟩:o7),(⟨false,0,0,0,0,0⟩:B8),(⟨0,([]:List o4)⟩:u5),([]:List A6),([]:List A9),false⟩:j2),1))else(ab6 (P9 e2.z7) fun v2=>ab6 (bc2) fun v3=>some ((⟨(⟨v2,e2.P0⟩:o7),v3,r2.1,([]:List A6),([]:List A9),false⟩:j2),0)))
def aw0 (t2:Int):Option Bool:=
 some ((decide (t2>=0))&&(decide (t2<=1099511627776)))
def ak1 (c:B8):Option Bool:=
 bif (!c.L9)then(some ((c.L9==false)&&((c.At==0)&&((c.E3==0)&&((c.A0==0)&&((c.M5==0)&&((c.Q4==0)&&true)))))))else(ab6 (aw0 c.At) fun v=>bif (((((((!v)||(decide (c.E3<0)))||(decide (c.E3>=46080)))||(decide (c.A0<1)))||(decide (c.A0>1073741824)))||(decide (c.M5<192)))||(decide (c.M5>1920)))then(some false)else(some (((c.Q4==c.M5)||(c.Q4==(o6 (2*c.M5))))||(c.Q4==(o6 (3*c.M5))))))
def Y1 (s:List o4)(f2:o4->Option Bool)(i:Int)(_:Unit):Option (Fl Unit Int):=
 ab6 (F0 s i) fun x=>ab6 (f2 x) fun v=>bif v then(some (.ret i))else(some (.next ()))
def T6 (s:List o4)(f2:o4->Option Bool):Option Int:=
 ab6 (N1 (s.length:Int) (Y1 s f2) ()) fun(t:Unit⊕Int)=>match t with| .inl _=>(some (-1))| .inr r2=>some r2
def H8 (s:List o4)(f2:o4->Option Bool):Option Bool:=
 ab6 (T6 s f2) fun v=>some (decide (v>=0))
def aq3 (c:o4)(c2:u5):Option Bool:=
 bif c.F6 then(some ((decide (c.At<=c2.P8))||(decide (c.At>1099511627776))))else(some ((c.At !=0)||c.Next))
def ap2 (t2:u5):Option Bool:=
 bif ((((decide (t2.P8<0))||(decide (t2.P8>1099511627776)))||(decide ((t2.j5.length:Int)<1)))||(decide ((t2.j5.length:Int)>16)))then(some false)else(ab6 (H8 t2.j5 (fun x0=>aq3 x0 t2)) fun v=>some (!v))
def O4 (x low high:Int):Option Bool:=
 some ((decide (x>=low))&&(decide (x<=high)))
def aa2 (e2:o7)(f2:A6):Option Bool:=
 ab6 (R3 e2) fun v=>ab6 (bif (!v)then(some true)else(ab6 (S1 e2.z7 f2.w9) fun v2=>some (!v2))) fun b2=>ab6 (bif b2 then(some true)else(ab6 (O4 f2.D9 (-1280) 3840) fun v3=>some (!v3))) fun b3=>ab6 (bif b3 then(some true)else(ab6 (O4 f2.L2 500 10000) fun v4=>some (!v4))) fun b4=>ab6 (bif b4 then(some true)else(ab6 (O4 f2.End 0 23040) fun v5=>some (!v5))) fun b5=>bif b5 then(some false)else(ab6 (bif (f2.ag3 !=0)then(ab6 (O4 f2.ag3 200 20000) fun v6=>some (!v6))else(some false)) fun b6=>bif b6 then(some false)else(ab6 (bif ((f2.Gap==0)&&(f2.Extra==0))then(some true)else(ab6 (bif (f2.ag3 !=0)then(ab6 (O4 f2.Gap 200 20000) fun v7=>some v7)else(some false)) fun b7=>ab6 (bif b7 then(ab6 (O4 f2.Extra 200 20000) fun v8=>some v8)else(some false)) fun b8=>some b8)) fun b9=>some b9))
def P7 (s:List A6)(f2:A6->Option Bool)(i:Int)(_:Unit):Option (Fl Unit Int):=
 ab6 (F0 s i) fun x=>ab6 (f2 x) fun v=>bif v then(some (.ret i))else(some (.next ()))
def J2 (s:List A6)(f2:A6->Option Bool):Option Int:=
 ab6 (N1 (s.length:Int) (P7 s f2) ()) fun(t:Unit⊕Int)=>match t with| .inl _=>(some (-1))| .inr r2=>some r2
def G4 (s:List A6)(f2:A6->Option Bool):Option Bool:=
 ab6 (J2 s f2) fun v=>some (decide (v>=0))
def ag0 (g c:A6):Option Bool:=
 some (g.w9==c.w9)
def an9 (e2:o7)(l:List A6)(i:Int)(_:Unit):Option (Fl Unit Bool):=
 ab6 (F0 l i) fun x=>ab6 (aa2 e2 x) fun v=>ab6 (bif (!v)then(some true)else(ab6 (ay9 l 0 i) fun l2=>ab6 (G4 l2 (fun x0=>ag0 x0 x)) fun v2=>some v2)) fun b2=>bif b2 then(some (.ret false))else(some (.next ()))
def ad5 (e2:o7)(l:List A6):Option Bool:=
 ab6 (N1 (l.length:Int) (an9 e2 l) ()) fun(t:Unit⊕Bool)=>match t with| .inl _=>(some true)| .inr r2=>some r2
def R4 (s:List A9)(f2:A9->Option Bool):Option Bool:=
 ab6 (D4 s f2) fun v=>some (decide (v>=0))
def aw7 (s:j2)(j:A9):Option Bool:=
 ab6 (bif ((((((((((decide (j.Event.w9>=1))&&(decide (j.Event.w9<=(s.o9.z7.length:Int))))&&(decide (j.Event.Kind>=1)))&&(decide (j.Event.Kind<=4)))&&(decide (j.Event.E3>=0)))&&(decide (j.Event.E3<46080)))&&(decide (j.Event.aj9>=0)))&&(decide (j.Event.aj9<=2)))&&(decide (j.Left>=(-1048576))))&&(decide (j.Left<=1048576)))then(some (j.F6||(j.At==0)))else(some false)) fun b2=>some b2
def ab0 (j:A9)(c:j2):Option Bool:=
 ab6 (aw7 c j) fun v=>some (!v)
def I9 (x:C8):Option Int:=
 bif ((x.Kind==3)||(x.Kind==4))then(some (o6 ((o6 (2*(o6 (x.w9-1))))+1)))else(some (o6 (2*(o6 (x.w9-1)))))
def as3 (kind:Int):Option Bool:=
 some ((kind==1)||(kind==3))
def ab3 (s:j2)(c:Int)(x:o4)(_:Int)(x2:A9)(s2:Bool×Bool):Option (Fl (Bool×Bool) Bool):=
 ab6 (I9 x2.Event) fun v=>bif (v !=c)then(some (.next (s2.1,s2.2)))else(ab6 (as3 x2.Event.Kind) fun v2=>bif (v2==s2.1)then(some (.ret false))else(ab6 (bif s2.2 then(ab6 (bif (!(x2.F6==x.F6))then(some true)else(ab6 (bif x2.F6 then(some ((x2.At !=x.At)||(!(x.Next==(!s2.1)))))else(some false)) fun b2=>some b2)) fun b3=>bif b3 then(some (Sum.inr false))else(some (Sum.inl ())))else(bif (x2.F6||s.Cut)then(some (Sum.inr false))else(some (Sum.inl ())))) fun(t:Unit⊕Bool)=>match t with| .inl _=>(ab6 (bif s.Cut then(some (((x2.Event.Kind !=2)||(!x2.F6))||(decide (x2.At>(o6 (s.j7.P8+5000))))))else(some false)) fun b4=>bif b4 then(some (.ret false))else(some (.next ((!s2.1),false))))| .inr r2=>some (.ret r2)))
def as2 (s:j2)(c:Int):Option Bool:=
 ab6 (F0 s.j7.j5 c) fun x=>ab6 (ad4 s.F3 (ab3 s c x) (x.M9,true)) fun(t:(Bool×Bool)⊕Bool)=>match t with| .inl s4=>(ab6 (bif (!s4.1)then(some (!(s4.2&&x.F6)))else(some false)) fun b5=>some b5)| .inr r3=>some r3
def an8 (s:j2)(i:Int)(_:Unit):Option (Fl Unit Bool):=
 ab6 (as2 s i) fun v6=>bif (!v6)then(some (.ret false))else(some (.next ()))
def K9 (s:j2):Option Bool:=
 ab6 (R3 s.o9) fun v=>ab6 (bif (!v)then(some true)else(ab6 (ak1 s.j8) fun v2=>some (!v2))) fun b2=>ab6 (bif b2 then(some true)else(ab6 (ap2 s.j7) fun v3=>some (!v3))) fun b3=>ab6 (bif (b3||((s.j7.j5.length:Int) !=(o6 (2*(s.o9.z7.length:Int)))))then(some true)else(ab6 (ad5 s.o9 s.Next) fun v4=>some (!v4))) fun b4=>bif b4 then(some false)else(ab6 (bif (decide ((s.F3.length:Int)>200))then(some true)else(some ((!s.j8.L9)&&(decide ((s.F3.length:Int)>0))))) fun b5=>ab6 (bif b5 then(some true)else(ab6 (R4 s.F3 (fun x0=>ab0 x0 s)) fun v5=>some v5)) fun b6=>bif b6 then(some false)else(ab6 (N1 (s.j7.j5.length:Int) (an8 s) ()) fun(t:Unit⊕Bool)=>match t with| .inl _=>(some true)| .inr r2=>some r2))
def W4 (s:List A6):Option (List A6):=
 ab6 (U8 ([]:List A6) s) fun l=>some l
def ak7 (s:List A9):Option (List A9):=
 ab6 (U8 ([]:List A9) s) fun l=>some l
def N5 (s:j2):Option j2:=
 ab6 (ak7 s.F3) fun v=>ab6 (W4 s.Next) fun v2=>some ({s with Next:=v2,F3:=v}:j2)
def as1 (s:j2)(l:List A6):Option (j2×Int):=
 ab6 (K9 s) fun v=>ab6 (bif (!v)then(some true)else(ab6 (ad5 s.o9 l) fun v2=>some (!v2))) fun b2=>bif b2 then(some ((⟨(⟨([]:List Int),0⟩:o7),(⟨false,0,0,0,0,0⟩:B8),(⟨0,([]:List o4)⟩:u5),([]:List A6),([]:List A9),false⟩:j2),1))else(ab6 (N5 s) fun v3=>ab6 (W4 l) fun v4=>some (({v3 with Next:=v4}:j2),0))
def ah5 (x:o4):Option Bool:=
 some x.M9
def ae7 (s:j2):Option (j2×Int):=
 ab6 (K9 s) fun v=>bif (!v)then(some ((⟨(⟨([]:List Int),0⟩:o7),(⟨false,0,0,0,0,0⟩:B8),(⟨0,([]:List o4)⟩:u5),([]:List A6),([]:List A9),false⟩:j2),1))else(ab6 (bif (!s.Cut)then(some true)else(ab6 (H8 s.j7.j5 ah5) fun v2=>some v2)) fun b2=>bif b2 then(some ((⟨(⟨([]:List Int),0⟩:o7),(⟨false,0,0,0,0,0⟩:B8),(⟨0,([]:List o4)⟩:u5),([]:List A6),([]:List A9),false⟩:j2),6))else(ab6 (N5 s) fun v3=>some (({v3 with Cut:=false}:j2),0)))
def ai0 (t2:u5)(channel:Int):Option (u5×Int):=
 ab6 (ap2 t2) fun v=>bif (!v)then(some ((⟨0,([]:List o4)⟩:u5),1))else(bif ((decide (channel<0))||(decide (channel>=(t2.j5.length:Int))))then(some ((⟨0,([]:List o4)⟩:u5),2))else(ab6 (aY2 (t2.j5.length:Int) (⟨false,0,false,false⟩:o4)) fun l=>some ((⟨t2.P8,aJ5 l t2.j5⟩:u5),0)))
def aH5 (t2:u5)(channel:Int)(level:Bool):Option (u5×List o5×Int):=
 ab6 (ai0 t2 channel) fun r2=>bif (r2.2 !=0)then(some ((⟨0,([]:List o4)⟩:u5),([]:List o5),r2.2))else(ab6 (F0 r2.1.j5 channel) fun _=>ab6 (ak9 r2.1.j5 channel (⟨false,0,false,level⟩:o4)) fun l=>ab6 (F0 t2.j5 channel) fun x2=>bif (x2.M9==level)then(some ((⟨r2.1.P8,l⟩:u5),([]:List o5),0))else(ab6 (some (([(⟨t2.P8,channel,level⟩:o5)]:List o5),(⟨r2.1.P8,l⟩:u5))) fun(s:List o5×u5)=>some (s.2,s.1,0)))
def aA4 (t2:u5)(channel:Int):Option (u5×Int):=
 ab6 (ai0 t2 channel) fun r2=>bif (r2.2 !=0)then(some ((⟨0,([]:List o4)⟩:u5),r2.2))else(ab6 (F0 t2.j5 channel) fun x=>ab6 (F0 r2.1.j5 channel) fun _=>ab6 (ak9 r2.1.j5 channel (⟨false,0,false,x.M9⟩:o4)) fun l=>some ((⟨r2.1.P8,l⟩:u5),0))
def au0 (j:A9)(c:Int):Option Bool:=
 ab6 (I9 j.Event) fun v=>some (v==c)
def aK2 (t2:u5)(channel aZ1:Int)(level:Bool):Option (u5×Int):=
 ab6 (ai0 t2 channel) fun r2=>bif (r2.2 !=0)then(some ((⟨0,([]:List o4)⟩:u5),r2.2))else(bif (decide (aZ1<=t2.P8))then(some ((⟨0,([]:List o4)⟩:u5),16))else(bif (decide (aZ1>1099511627776))then(some ((⟨0,([]:List o4)⟩:u5),2))else(ab6 (F0 t2.j5 channel) fun x=>ab6 (F0 r2.1.j5 channel) fun _=>ab6 (ak9 r2.1.j5 channel (⟨true,aZ1,level,x.M9⟩:o4)) fun l=>some ((⟨r2.1.P8,l⟩:u5),0))))
def ae6 (s:j2)(i:Int)(s2:List o5×u5×List A9):Option (Fl (List o5×u5×List A9) Empty):=
 ab6 (F0 s.j7.j5 i) fun x=>ab6 (bif x.M9 then(some ((!((ef7 i 2)==0))||(s.j7.P8==1099511627776)))else(some false)) fun b2=>bif b2 then(ab6 (aH5 s2.2.1 i false) fun r2=>ab6 (U8 s2.1 r2.2.1) fun l=>some (.next (l,r2.1,s2.2.2)))else(ab6 (aA4 s2.2.1 i) fun r3=>bif (!x.M9)then(some (.next (s2.1,r3.1,s2.2.2)))else(ab6 (D4 s.F3 (fun x0=>au0 x0 i)) fun v3=>ab6 (F0 s.F3 v3) fun x2=>ab6 (bif ((!x2.F6)||(decide (x2.At>(o6 (s.j7.P8+5000)))))then(some (J1 (o6 (s.j7.P8+5000)) 1099511627776))else(some x2.At)) fun(f2:Int)=>ab6 (aK2 r3.1 i f2 false) fun r4=>ab6 (U8 s2.2.2 ([(⟨x2.Event,x2.Left,true,f2⟩:A9)]:List A9)) fun l2=>some (.next (s2.1,r4.1,l2))))
def aq1 (s:j2):Option (j2×List o5×Int):=
 ab6 (K9 s) fun v=>bif (!v)then(some ((⟨(⟨([]:List Int),0⟩:o7),(⟨false,0,0,0,0,0⟩:B8),(⟨0,([]:List o4)⟩:u5),([]:List A6),([]:List A9),false⟩:j2),([]:List o5),1))else(ab6 (N5 s) fun v2=>bif s.Cut then(some (v2,([]:List o5),0))else(ab6 (N1 (s.j7.j5.length:Int) (ae6 s) (([]:List o5),v2.j7,([]:List A9))) fun(t:(List o5×u5×List A9)⊕Empty)=>match t with| .inl s3=>(some ((⟨v2.o9,v2.j8,s3.2.1,v2.Next,s3.2.2,true⟩:j2),s3.1,0))| .inr r=>r.elim))
def X9 (j:A9)(c:Int):Option Bool:=
 ab6 (I9 j.Event) fun v=>some (v==c)
def aA0 (a b2:Int):Option Int:=
 ab6 (bo2 .i64 a b2) fun q=>ab6 (cg7 a b2) fun q2=>bif (decide (q2>0))then(some (o6 (q+1)))else(some q)
def Y0 (s:j2)(i:Int)(s2:u5×List A9):Option (Fl (u5×List A9) Empty):=
 ab6 (D4 s2.2 (fun x0=>X9 x0 i)) fun v=>ab6 (bif (decide (v<0))then(some true)else(ab6 (F0 s2.2 v) fun x=>some (decide (x.Left>s.j8.Q4)))) fun(v2:Bool)=>bif v2 then(some (.next (s2.1,s2.2)))else(ab6 (F0 s2.2 v) fun x2=>ab6 (aA0 (o6 (x2.Left*s.j8.A0)) s.j8.M5) fun v3=>bif (decide ((K2 (o6 (s.j8.At+v3)) (o6 (s2.1.P8+1)))>1099511627776))then(some (.next (s2.1,s2.2)))else(ab6 (ab6 (as3 x2.Event.Kind) fun v4=>ab6 (aK2 s2.1 i (K2 (o6 (s.j8.At+v3)) (o6 (s2.1.P8+1))) v4) fun r2=>some (r2.2,r2.1)) fun(s3:Int×u5)=>bif (s3.1==0)then(ab6 (ak9 s2.2 v ({x2 with F6:=true}:A9)) fun l=>ab6 (ak9 l v (⟨x2.Event,x2.Left,true,K2 (o6 (s.j8.At+v3)) (o6 (s2.1.P8+1))⟩:A9)) fun l2=>some (.next (s3.2,l2)))else(some (.next (s2.1,s2.2)))))
def al8 (s:j2):Option j2:=
 bif s.Cut then(some s)else(ab6 (N1 (s.j7.j5.length:Int) (Y0 s) (s.j7,s.F3)) fun(t:(u5×List A9)⊕Empty)=>match t with| .inl s4=>(some ({s with j7:=s4.1,F3:=s4.2}:j2))| .inr r=>r.elim)
def aI5 (_:Int)(x:o4)(s:Int×Bool):Option (Fl (Int×Bool) Empty):=
 ab6 (bif x.F6 then(some ((!s.2)||(decide (x.At<s.1))))else(some false)) fun b2=>bif b2 then(some (.next (x.At,true)))else(some (.next (s.1,s.2)))
def aO0 (t2:u5):Option (Int×Bool):=
 ab6 (ap2 t2) fun v=>bif (!v)then(some (0,false))else(ab6 (ad4 t2.j5 (aI5) (0,false)) fun(t:(Int×Bool)⊕Empty)=>match t with| .inl s2=>(some (s2.1,s2.2))| .inr r=>r.elim)
def aa8 (s:List o5)(f:o5->o5->Option Int):Option (List o5):=
 bU6 f s
def G9 (x y:Int):Option Int:=
 ab6 (cmp_isNaN_int x) fun v=>ab6 (cmp_isNaN_int y) fun v2=>bif v then(bif v2 then(some 0)else(some (-1)))else(bif v2 then(some 1)else(bif (decide (x<y))then(some (-1))else(bif (decide (x>y))then(some 1)else(some 0))))
def ap9 (_ x:Int)(_:Unit):Option (Fl Unit Int):=
 bif (x !=0)then(some (.ret x))else(some (.next ()))
def ag8 (by3:List Int):Option Int:=
 ab6 (ad4 by3 (ap9) ()) fun(t:Unit⊕Int)=>match t with| .inl _=>(some 0)| .inr r2=>some r2
def aa0 (a b2:o5):Option Int:=
 ab6 (G9 a.At b2.At) fun v=>ab6 (G9 a.Channel b2.Channel) fun v2=>ab6 (ag8 ([v,v2]:List Int)) fun v3=>some v3
def av6 (t2:u5)(M8 i:Int)(s:List o5×List o4):Option (Fl (List o5×List o4) Empty):=
 ab6 (F0 t2.j5 i) fun x=>bif ((!x.F6)||(decide (x.At>M8)))then(some (.next (s.1,s.2)))else(ab6 (bif (!(x.Next==x.M9))then(ab6 (U8 s.1 ([(⟨x.At,i,x.Next⟩:o5)]:List o5)) fun l=>some l)else(some s.1)) fun(f2:List o5)=>ab6 (F0 s.2 i) fun _=>ab6 (ak9 s.2 i (⟨false,0,false,x.Next⟩:o4)) fun l2=>some (.next (f2,l2)))
def al9 (t2:u5)(M8:Int):Option (u5×List o5×Int):=
 ab6 (ai0 t2 0) fun r2=>bif (r2.2 !=0)then(some ((⟨0,([]:List o4)⟩:u5),([]:List o5),r2.2))else(bif (decide (M8<t2.P8))then(some ((⟨0,([]:List o4)⟩:u5),([]:List o5),16))else(bif (decide (M8>1099511627776))then(some ((⟨0,([]:List o4)⟩:u5),([]:List o5),2))else(ab6 (N1 (t2.j5.length:Int) (av6 t2 M8) (([]:List o5),r2.1.j5)) fun(t:(List o5×List o4)⊕Empty)=>match t with| .inl s2=>(ab6 (aa8 s2.1 aa0) fun v=>some ((⟨M8,s2.2⟩:u5),v,0))| .inr r=>r.elim)))
def ap0 (j:A9)(c:Int):Option Bool:=
 some (j.F6&&(j.At==c))
def ab2 (M8:Int)(s2:List o5×j2):Option ((List o5×j2)⊕((List o5×j2)⊕Empty)):=
 ab6 (aO0 s2.2.j7) fun r2=>bif ((!r2.2)||(decide (r2.1>M8)))then(some (.inr (.inl (s2.1,s2.2))))else(ab6 (ab6 (al9 s2.2.j7 r2.1) fun r3=>some (r3.2.1,r3.1)) fun(s3:List o5×u5)=>ab6 (U8 s2.1 s3.1) fun l=>ab6 (N2 s2.2.F3 (fun x0=>ap0 x0 r2.1)) fun v=>ab6 (al8 (⟨s2.2.o9,s2.2.j8,s3.2,s2.2.Next,v,s2.2.Cut⟩:j2)) fun v2=>some (.inl (l,v2)))
def ad6 (s:j2)(M8:Int):Option (List o5×j2):=
 ab6 (M0 (ab2 M8) (([]:List o5),s)) fun(t:(List o5×j2)⊕Empty)=>match t with| .inl s4=>(ab6 (al9 s4.2.j7 M8) fun r4=>ab6 (U8 s4.1 r4.2.1) fun l2=>some (l2,(⟨s4.2.o9,s4.2.j8,r4.1,s4.2.Next,s4.2.F3,s4.2.Cut⟩:j2)))| .inr r=>r.elim
def W0 (s:j2)(M8:Int):Option (j2×List o5×Int):=
 ab6 (K9 s) fun v=>bif (!v)then(some ((⟨(⟨([]:List Int),0⟩:o7),(⟨false,0,0,0,0,0⟩:B8),(⟨0,([]:List o4)⟩:u5),([]:List A6),([]:List A9),false⟩:j2),([]:List o5),1))else(bif (decide (M8<s.j7.P8))then(some ((⟨(⟨([]:List Int),0⟩:o7),(⟨false,0,0,0,0,0⟩:B8),(⟨0,([]:List o4)⟩:u5),([]:List A6),([]:List A9),false⟩:j2),([]:List o5),16))else(bif (decide (M8>1099511627776))then(some ((⟨(⟨([]:List Int),0⟩:o7),(⟨false,0,0,0,0,0⟩:B8),(⟨0,([]:List o4)⟩:u5),([]:List A6),([]:List A9),false⟩:j2),([]:List o5),2))else(ab6 (N5 s) fun v2=>ab6 (ad6 v2 M8) fun r2=>some (r2.2,r2.1,0))))
def aa1 (a b2:Int):Option Int:=
 bif ((b2==0)||(b2==(-1)))then(some 0)else(ab6 (cg7 a b2) fun q=>bif ((q !=0)&&(!((decide (q<0))==(decide (b2<0)))))then(some (o6 (q+b2)))else(some q))
def T4 (bM0 M8:Int):Option Int:=
 ab6 (ai9 bM0) fun v=>ab6 (bif (!v)then(some true)else(ab6 (ai9 M8) fun v2=>some (!v2))) fun b2=>bif b2 then(some (-1))else(ab6 (aa1 (o6 (M8-bM0)) 46080) fun v3=>some v3)
def aL0 (c:B8):Option Int:=
 ab6 (ak1 c) fun v=>bif (!v)then(some 1)else(bif (!c.L9)then(some 6)else(some 0))
def bm6 (a b2:Int):Option Int:=
 ab6 (ao2 a b2 2) fun r2=>some r2.1
def aF5 (c:B8)(bV5:Int):Option (Int×Int):=
 ab6 (aL0 c) fun v=>bif (v !=0)then(some (0,v))else(bif ((decide (bV5<0))||(decide (bV5>46080)))then(some (0,2))else(ab6 (bm6 (o6 (bV5*c.A0)) c.M5) fun v2=>some (v2,0)))
def al6 (e2:o7)(aD1:Int):Option (Int×Bool):=
 ab6 (Y8 e2.z7 aD1) fun v=>ab6 (bo2 .i64 (o6 ((K2 v 0)*46080)) (e2.z7.length:Int)) fun q=>some (ef7 (o6 (e2.P0+q)) 46080,decide (v>=0))
def aw4 (e2:o7)(aD1:Int):Option (Int×Int):=
 ab6 (R3 e2) fun v=>bif (!v)then(some (0,1))else(ab6 (al6 e2 aD1) fun r2=>bif (!r2.2)then(some (0,7))else(some (r2.1,0)))
def ab1 (f2:A6)(c:Int):Option Bool:=
 some (f2.w9==c)
def aq0 (f2:A6)(c:o7):Option Bool:=
 ab6 (aa2 c f2) fun v=>some (!v)
def aw5 (g c:A6):Option Bool:=
 some (g.w9==c.w9)
def Q9 (aZ1 kind bT5:Int)(c:List C8)(c2:A6):Option (List C8):=
 ab6 (ab6 (aa1 aZ1 46080) fun v=>ab6 (U8 c ([(⟨v,kind,c2.w9,bT5⟩:C8)]:List C8)) fun l=>some l) fun(f2:List C8)=>some f2
def M6 (d c:Int):Option Int:=
 ab6 (bo2 .i64 (o6 (d*23040)) c) fun q=>some q
def al5 (f2:A6):Option Int:=
 bif (f2.ag3==0)then(some 0)else(bif (f2.Extra==0)then(some 1)else(some 2))
def ac9 (s:List C8)(f:C8->C8->Option Int):Option (List C8):=
 bU6 f s
def am3 (a b2:C8):Option Int:=
 ab6 (G9 a.E3 b2.E3) fun v=>ab6 (G9 a.w9 b2.w9) fun v2=>ab6 (G9 a.Kind b2.Kind) fun v3=>ab6 (G9 a.aj9 b2.aj9) fun v4=>ab6 (ag8 ([v,v2,v3,v4]:List Int)) fun v5=>some v5
def aD4 (l:List A6)(i:Int)(_:Unit):Option (Fl Unit (List C8×Int)):=
 ab6 (F0 l i) fun x=>ab6 (ay9 l 0 i) fun l2=>ab6 (G4 l2 (fun x0=>aw5 x0 x)) fun v4=>bif v4 then(some (.ret (([]:List C8),8)))else(some (.next ()))
def ax2 (e2:o7)(O3 _:Int)(x2:A6)(f2:List C8):Option (Fl (List C8) (List C8×Int)):=
 ab6 (al6 e2 x2.w9) fun r2=>ab6 (Q9 (o6 (r2.1-x2.D9)) 2 0 f2 x2) fun v5=>ab6 (M6 x2.L2 O3) fun v6=>ab6 (Q9 (o6 ((o6 (r2.1-x2.D9))-(J1 v6 23040))) 1 0 v5 x2) fun v7=>ab6 (M6 x2.ag3 O3) fun v8=>ab6 (M6 x2.Gap O3) fun v9=>ab6 (M6 x2.Extra O3) fun v10=>bif (decide ((K2 (K2 v8 v9) v10)>23040))then(some (.ret (([]:List C8),2)))else(ab6 (al5 x2) fun v11=>ab6 (bif (decide (v11>0))then(ab6 (Q9 (o6 (r2.1-x2.End)) 4 1 v7 x2) fun v12=>ab6 (M6 x2.ag3 O3) fun v13=>ab6 (Q9 (o6 ((o6 (r2.1-x2.End))-v13)) 3 1 v12 x2) fun v14=>some v14)else(some v7)) fun(f3:List C8)=>ab6 (al5 x2) fun v15=>bif (decide (v15>1))then(ab6 (M6 x2.Gap O3) fun v16=>ab6 (Q9 (o6 ((o6 (r2.1-x2.End))+v16)) 3 2 f3 x2) fun v17=>ab6 (ab6 (M6 x2.Gap O3) fun v18=>ab6 (M6 x2.Extra O3) fun v19=>ab6 (Q9 (o6 ((o6 ((o6 (r2.1-x2.End))+v18))+v19)) 4 2 v17 x2) fun v20=>some v20) fun(f4:List C8)=>some (.next f4))else(some (.next f3)))
def aF8 (e2:o7)(l:List A6)(O3:Int):Option (List C8×Int):=
 ab6 (R3 e2) fun v=>ab6 (bif (!v)then(some true)else(ab6 (G4 l (fun x0=>aq0 x0 e2)) fun v2=>some v2)) fun b2=>bif b2 then(some (([]:List C8),1))else(ab6 (O4 O3 4000 1000000) fun v3=>bif (!v3)then(some (([]:List C8),2))else(ab6 (N1 (l.length:Int) (aD4 l) ()) fun(t:Unit⊕(List C8×Int))=>match t with| .inl _=>(ab6 (ad4 l (ax2 e2 O3) ([]:List C8)) fun(t:(List C8)⊕(List C8×Int))=>match t with| .inl f5=>(ab6 (ac9 f5 am3) fun v21=>some (v21,0))| .inr r3=>some r3)| .inr r4=>some r4))
def D2 (a:Int)(cmp:j1->j1->Option Int)(s2:Int×List j1):Option ((Int×List j1)⊕((Int×List j1)⊕Empty)):=
 ab6 (bif (decide (s2.1>a))then(ab6 (F0 s2.2 s2.1) fun x=>ab6 (F0 s2.2 (o6 (s2.1-1))) fun x2=>ab6 (cmp x x2) fun v=>some (decide (v<0)))else(some false)) fun(v2:Bool)=>bif v2 then(ab6 (ab6 (F0 s2.2 (o6 (s2.1-1))) fun x3=>ab6 (F0 s2.2 s2.1) fun x4=>ab6 (ak9 s2.2 s2.1 x3) fun l=>ab6 (F0 l (o6 (s2.1-1))) fun _=>ab6 (ak9 l (o6 (s2.1-1)) x4) fun l2=>some l2) fun(f2:List j1)=>some (.inl (o6 (s2.1-1),f2)))else(some (.inr (.inl (s2.1,s2.2))))
def C0 (a b2:Int)(cmp:j1->j1->Option Int)(s:Int×List j1):Option ((Int×List j1)⊕((Int×List j1)⊕Empty)):=
 bif (decide (s.1<b2))then(ab6 (M0 (D2 a cmp) (s.1,s.2)) fun(t:(Int×List j1)⊕Empty)=>match t with| .inl s3=>(some (.inl (o6 (s.1+1),s3.2)))| .inr r=>r.elim)else(some (.inr (.inl (s.1,s.2))))
def B7 (data:List j1)(a b2:Int)(cmp:j1->j1->Option Int):Option (List j1):=
 ab6 (M0 (C0 a b2 cmp) (o6 (a+1),data)) fun(t:(Int×List j1)⊕Empty)=>match t with| .inl s4=>(some s4.2)| .inr r=>r.elim
def J6 (_:Nat)(_:List j1)(_ _ _:Int)(_:j1->j1->Option Int):Option (List j1):=none
def M1 (n2:Int)(cmp:j1->j1->Option Int)(s:Int×Int×List j1):Option ((Int×Int×List j1)⊕((Int×Int×List j1)⊕Empty)):=
 bif (decide (s.2.1<=n2))then(ab6 (B7 s.2.2 s.1 s.2.1 cmp) fun v=>some (.inl (s.2.1,o6 (s.2.1+20),v)))else(some (.inr (.inl (s.1,s.2.1,s.2.2))))
def P2 (n2:Int)(cmp:j1->j1->Option Int)(s3:Int×List j1)(s4:Int×Int×List j1):Option ((Int×Int×List j1)⊕((Int×Int×List j1)⊕Empty)):=
 bif (decide (s4.2.1<=n2))then(ab6 (J6 64 s4.2.2 s4.1 (o6 (s4.1+s3.1)) s4.2.1 cmp) fun v3=>some (.inl (s4.2.1,o6 (s4.2.1+(o6 (2*s3.1))),v3)))else(some (.inr (.inl (s4.1,s4.2.1,s4.2.2))))
def M3 (n2:Int)(cmp:j1->j1->Option Int)(s3:Int×List j1):Option ((Int×List j1)⊕((Int×List j1)⊕Empty)):=
 bif (decide (s3.1<n2))then(ab6 (M0 (P2 n2 cmp s3) (0,o6 (2*s3.1),s3.2)) fun(t:(Int×Int×List j1)⊕Empty)=>match t with| .inl s5=>(bif (decide ((o6 (s5.1+s3.1))<n2))then(ab6 (J6 64 s5.2.2 s5.1 (o6 (s5.1+s3.1)) n2 cmp) fun v4=>some (.inl (o6 (s3.1*2),v4)))else(some (.inl (o6 (s3.1*2),s5.2.2))))| .inr r=>r.elim)else(some (.inr (.inl (s3.1,s3.2))))
def I8 (data:List j1)(n2:Int)(cmp:j1->j1->Option Int):Option (List j1):=
 ab6 (M0 (M1 n2 cmp) (0,20,data)) fun(t:(Int×Int×List j1)⊕Empty)=>match t with| .inl s2=>(ab6 (B7 s2.2.2 s2.1 n2 cmp) fun v2=>ab6 (M0 (M3 n2 cmp) (20,v2)) fun(t:(Int×List j1)⊕Empty)=>match t with| .inl s6=>(some s6.2)| .inr r=>r.elim)| .inr r=>r.elim
def E6 (x:List j1)(cmp:j1->j1->Option Int):Option (List j1):=
 ab6 (I8 x (x.length:Int) cmp) fun v=>some v
def ae8 (a b2:j1):Option Int:=
 ab6 (G9 a.cF7 b2.cF7) fun v=>ab6 (I9 a.x) fun v2=>ab6 (I9 b2.x) fun v3=>ab6 (G9 v2 v3) fun v4=>ab6 (ag8 ([v,v4]:List Int)) fun v5=>some v5
def ak6 (begin _:Int)(x:C8)(out:List j1):Option (Fl (List j1) Empty):=
 ab6 (ab6 (T4 begin x.E3) fun v=>ab6 (U8 out ([(⟨x,v⟩:j1)]:List j1)) fun l=>some l) fun(f3:List j1)=>some (.next f3)
def Y6 (x2:(Int×Int))(_:Int)(x3:j1)(s:Int×Int×Int):Option (Fl (Int×Int×Int) (List j1×Bool)):=
 bif ((x3.x.Kind !=x2.1)&&(x3.x.Kind !=x2.2))then(some (.next (s.1,s.2.1,s.2.2)))else(bif (((x3.x.Kind !=s.2.2)||(decide (x3.cF7<=s.1)))||(decide (x3.x.aj9<s.2.1)))then(some (.ret (([]:List j1),false)))else(some (.next (x3.cF7,x3.x.aj9,o6 ((o6 (x2.1+x2.2))-s.2.2)))))
def W2 (v2:List j1)(v3:Int):Option (Int⊕(Int⊕(List j1×Bool))):=
 bif (decide (v3<2))then(ab6 (F0 ([(1,2),(3,4)]:List (Int×Int)) v3) fun x2=>ab6 (ad4 v2 (Y6 x2) ((-1),0,x2.1)) fun(t:(Int×Int×Int)⊕(List j1×Bool))=>match t with| .inl _=>(some (.inl (o6 (v3+1))))| .inr r3=>some (.inr (.inr r3)))else(some (.inr (.inl v3)))
def as4 (e2:o7)(f2:A6)(begin O3:Int):Option (List j1×Bool):=
 ab6 (aF8 e2 ([f2]:List A6) O3) fun r2=>bif (r2.2 !=0)then(some (([]:List j1),false))else(ab6 (ad4 r2.1 (ak6 begin) ([]:List j1)) fun(t:(List j1)⊕Empty)=>match t with| .inl dm0=>(ab6 (E6 dm0 ae8) fun v2=>ab6 (M0 (W2 v2) 0) fun(t:Int⊕(List j1×Bool))=>match t with| .inl _=>(some (v2,true))| .inr r4=>some r4)| .inr r=>r.elim)
def ah7 (v _:Int)(x3:j1)(f3:List A9):Option (Fl (List A9) Empty):=
 ab6 (ab6 (U8 f3 ([(⟨x3.x,o6 (v+x3.cF7),false,0⟩:A9)]:List A9)) fun l=>some l) fun(f4:List A9)=>some (.next f4)
def ah6 (s:j2)(r2:Int×Int)(_ x:Int)(f2:List A9):Option (Fl (List A9) Empty):=
 ab6 (aw4 s.o9 x) fun r3=>ab6 (T4 s.j8.E3 (ef7 (o6 (r3.1+5760)) 46080)) fun v=>ab6 (J2 s.Next (fun x0=>ab1 x0 x)) fun v2=>bif ((decide (v>=s.j8.Q4))||(decide (v2<0)))then(some (.next f2))else(ab6 (F0 s.Next v2) fun x2=>ab6 (as4 s.o9 x2 (ef7 (o6 (r3.1+5760)) 46080) r2.1) fun r4=>bif (!r4.2)then(some (.next f2))else(ab6 (ad4 r4.1 (ah7 v) f2) fun(t:(List A9)⊕Empty)=>match t with| .inl f5=>(some (.next f5))| .inr r=>r.elim))
def ai6 (s:j2):Option j2:=
 ab6 (aF5 s.j8 23040) fun r2=>ab6 (ad4 s.o9.z7 (ah6 s r2) s.F3) fun(t:(List A9)⊕Empty)=>match t with| .inl f6=>(some ({s with F3:=f6}:j2))| .inr r=>r.elim
def ac7 (v4 i:Int)(f2:List A9):Option (Fl (List A9) Empty):=
 ab6 (F0 f2 i) fun x=>ab6 (ak9 f2 i ({x with Left:=K2 (-1048576) (o6 (x.Left-v4))}:A9)) fun l=>some (.next l)
def am8 (s:j2)(c:B8):Option (j2×List o5×Int):=
 ab6 (K9 s) fun v=>ab6 (bif (!v)then(some true)else(ab6 (ak1 c) fun v2=>some (!v2))) fun b2=>bif b2 then(some ((⟨(⟨([]:List Int),0⟩:o7),(⟨false,0,0,0,0,0⟩:B8),(⟨0,([]:List o4)⟩:u5),([]:List A6),([]:List A9),false⟩:j2),([]:List o5),1))else(bif (!c.L9)then(some ((⟨(⟨([]:List Int),0⟩:o7),(⟨false,0,0,0,0,0⟩:B8),(⟨0,([]:List o4)⟩:u5),([]:List A6),([]:List A9),false⟩:j2),([]:List o5),6))else(bif (decide (c.At<s.j7.P8))then(some ((⟨(⟨([]:List Int),0⟩:o7),(⟨false,0,0,0,0,0⟩:B8),(⟨0,([]:List o4)⟩:u5),([]:List A6),([]:List A9),false⟩:j2),([]:List o5),16))else(ab6 (N5 s) fun v3=>ab6 (ad6 v3 c.At) fun r2=>ab6 (bif s.j8.L9 then(ab6 (T4 s.j8.E3 c.E3) fun v4=>ab6 (N1 (r2.2.F3.length:Int) (ac7 v4) r2.2.F3) fun(t:(List A9)⊕Empty)=>match t with| .inl f3=>(some f3)| .inr r=>r.elim)else(some r2.2.F3)) fun(f4:List A9)=>bif (!r2.2.Cut)then(ab6 (ai6 (⟨r2.2.o9,c,r2.2.j7,r2.2.Next,f4,r2.2.Cut⟩:j2)) fun v5=>bif (decide ((v5.F3.length:Int)>200))then(some ((⟨(⟨([]:List Int),0⟩:o7),(⟨false,0,0,0,0,0⟩:B8),(⟨0,([]:List o4)⟩:u5),([]:List A6),([]:List A9),false⟩:j2),([]:List o5),5))else(ab6 (al8 v5) fun v6=>some (v6,r2.1,0)))else(some ((⟨r2.2.o9,c,r2.2.j7,r2.2.Next,f4,r2.2.Cut⟩:j2),r2.1,0)))))
def Z3 (s:List A5)(f2:A5->Option Bool)(i:Int)(_:Unit):Option (Fl Unit Int):=
 ab6 (F0 s i) fun x=>ab6 (f2 x) fun v=>bif v then(some (.ret i))else(some (.next ()))
def V4 (s:List A5)(f2:A5->Option Bool):Option Int:=
 ab6 (N1 (s.length:Int) (Z3 s f2) ()) fun(t:Unit⊕Int)=>match t with| .inl _=>(some (-1))| .inr r2=>some r2
def K1 (s:List A5)(f2:A5->Option Bool):Option Bool:=
 ab6 (V4 s f2) fun v=>some (decide (v>=0))
def F4 (x low high:Int):Option Bool:=
 some ((decide (x>=low))&&(decide (x<=high)))
def af7 (c:A5):Option Bool:=
 ab6 (F4 c.Code 1 16777215) fun v=>ab6 (bif v then(ab6 (F4 c.bq6 1 100) fun v2=>some v2)else(some false)) fun b2=>ab6 (bif b2 then(ab6 (F4 c.Pass 1 100) fun v3=>some v3)else(some false)) fun b3=>ab6 (bif b3 then(ab6 (F4 c.cD4 1 100) fun v4=>some v4)else(some false)) fun b4=>ab6 (bif b4 then(ab6 (F4 c.Age c.cD4 255) fun v5=>some v5)else(some false)) fun b5=>ab6 (bif b5 then(ab6 (F4 c.G5 0 255) fun v6=>some v6)else(some false)) fun b6=>ab6 (bif b6 then(ab6 (F4 c.Frame 0 8) fun v7=>some v7)else(some false)) fun b7=>some b7
def ao7 (c:A5):Option Bool:=
 ab6 (af7 c) fun v=>some (!v)
def aD7 (_:Int)(x:A5)(f2:List (Int×Bool)):Option (Fl (List (Int×Bool)) Bool):=
 bif (cQ9 false f2 x.Code)then(some (.ret false))else(some (.next (dl2 f2 x.Code true)))
def ao6 (l:List A5):Option Bool:=
 ab6 (ad4 l (aD7) ([]:List (Int×Bool))) fun(t:(List (Int×Bool))⊕Bool)=>match t with| .inl _=>(some true)| .inr r2=>some r2
def ac1 (s:List A5):Option (List A5):=
 ab6 (U8 ([]:List A5) s) fun l=>some l
def aP5 (l:List A5):Option (B3×Int):=
 bif (decide ((l.length:Int)>64))then(some ((⟨([]:List A5),([]:List B1),0,false⟩:B3),5))else(ab6 (K1 l ao7) fun v=>bif v then(some ((⟨([]:List A5),([]:List B1),0,false⟩:B3),1))else(ab6 (ao6 l) fun v2=>bif (!v2)then(some ((⟨([]:List A5),([]:List B1),0,false⟩:B3),8))else(ab6 (ac1 l) fun v3=>ab6 (aY2 (l.length:Int) (⟨0,0,0,0,0,([]:List Int),0⟩:B1)) fun l2=>some ((⟨v3,l2,0,false⟩:B3),0))))
def aR8 (x:Int):Option Bool:=
 ab6 (F4 x (-1099511627776) 1099511627776) fun v=>some v
def aA8 (x:Int):Option Bool:=
 ab6 (aR8 x) fun v=>some (!v)
def at7 (c:A5)(l:List Int):Option Bool:=
 ab6 (bif ((l.length:Int)==c.Frame)then(ab6 (u7 l aA8) fun v=>some (!v))else(some false)) fun b2=>some b2
def aa3 (f2:B1)(bits:Int):Option Bool:=
 some ((V8 .i64 f2.K7 bits)==bits)
def aL5 (f2:B1):Option Bool:=
 some ((V8 .i64 f2.K7 6) !=0)
def aG0 (c:A5)(f2:B1)(G8:Int):Option Bool:=
 ab6 (F4 f2.K7 0 31) fun v=>ab6 (bif (!v)then(some true)else(ab6 (F4 f2.F2 (o6 (0-c.Pass)) c.bq6) fun v2=>some (!v2))) fun b2=>ab6 (bif b2 then(some true)else(ab6 (F4 f2.I4 0 2) fun v3=>some (!v3))) fun b3=>ab6 (bif b3 then(some true)else(ab6 (F4 f2.Clean 0 (o6 (c.Age-1))) fun v4=>some (!v4))) fun b4=>ab6 (bif b4 then(some true)else(ab6 (F4 f2.A2 0 255) fun v5=>some (!v5))) fun b5=>ab6 (bif b5 then(some true)else(ab6 (F4 f2.E0 0 G8) fun v6=>some (!v6))) fun b6=>ab6 (bif b6 then(some true)else(ab6 (bif (decide ((f2.Frame.length:Int)>0))then(ab6 (at7 c f2.Frame) fun v7=>some (!v7))else(some false)) fun b7=>some b7)) fun b8=>bif b8 then(some false)else(ab6 (aa3 f2 1) fun v8=>ab6 (bif v8 then(ab6 (aa3 f2 10) fun v9=>some ((!v9)||(f2.E0 !=G8)))else(some false)) fun b9=>bif b9 then(some false)else(ab6 (aa3 f2 4) fun v10=>bif (!(v10==(f2.I4==2)))then(some false)else(ab6 (aa3 f2 16) fun v11=>ab6 (bif v11 then(ab6 (aa3 f2 4) fun v12=>some ((!v12)||(!c.cr8)))else(some false)) fun b10=>bif b10 then(some false)else(ab6 (aa3 f2 2) fun v13=>bif (v13&&(f2.Clean !=0))then(some false)else(ab6 (aL5 f2) fun v14=>bif v14 then(some ((((decide (f2.A2>=1))&&(decide (f2.I4>=1)))&&(decide (f2.E0>=1)))&&((f2.Frame.length:Int)==c.Frame)))else(some (((((f2.I4==0)&&(f2.Clean==0))&&(f2.A2==0))&&(f2.E0==0))&&((f2.Frame.length:Int)==0))))))))
def aD6 (f2:B3)(i:Int)(_:Unit):Option (Fl Unit Bool):=
 ab6 (F0 f2.L i) fun x=>ab6 (F0 f2.K6 i) fun x2=>ab6 (aG0 x2 x f2.af1) fun v4=>bif (!v4)then(some (.ret false))else(some (.next ()))
def ab9 (f2:B3):Option Bool:=
 ab6 (bif (decide ((f2.K6.length:Int)>64))then(some true)else(ab6 (K1 f2.K6 ao7) fun v=>some v)) fun b2=>ab6 (bif b2 then(some true)else(ab6 (ao6 f2.K6) fun v2=>some (!v2))) fun b3=>ab6 (bif (b3||((f2.L.length:Int) !=(f2.K6.length:Int)))then(some true)else(ab6 (F4 f2.af1 0 1073741824) fun v3=>some (!v3))) fun b4=>ab6 (bif b4 then(some true)else(some (f2.S8&&(decide (f2.af1<1))))) fun b5=>bif b5 then(some false)else(ab6 (N1 (f2.L.length:Int) (aD6 f2) ()) fun(t:Unit⊕Bool)=>match t with| .inl _=>(some true)| .inr r2=>some r2)
def af3 (s:List B1):Option (List B1):=
 ab6 (U8 ([]:List B1) s) fun l=>some l
def ay7 (i:Int)(f3:List B1):Option (Fl (List B1) Empty):=
 ab6 (F0 f3 i) fun x=>ab6 (P9 x.Frame) fun v2=>ab6 (ak9 f3 i ({x with Frame:=v2}:B1)) fun l=>some (.next l)
def am4 (f2:B3):Option B3:=
 ab6 (af3 f2.L) fun v=>ab6 (N1 (v.length:Int) (ay7) v) fun(t:(List B1)⊕Empty)=>match t with| .inl f4=>(some ({f2 with L:=f4}:B3))| .inr r=>r.elim
def aD5 (i:Int)(f3:List B1):Option (Fl (List B1) Empty):=
 ab6 (F0 f3 i) fun x=>ab6 (ak9 f3 i ({x with F2:=0}:B1)) fun l=>ab6 (ak9 l i ({x with K7:=aP4 .i64 x.K7 9,F2:=0}:B1)) fun l2=>some (.next l2)
def aL4 (f2:B3):Option (B3×Int):=
 ab6 (ab9 f2) fun v=>bif (!v)then(some ((⟨([]:List A5),([]:List B1),0,false⟩:B3),1))else(bif f2.S8 then(some ((⟨([]:List A5),([]:List B1),0,false⟩:B3),6))else(bif (f2.af1==1073741824)then(some ((⟨([]:List A5),([]:List B1),0,false⟩:B3),9))else(ab6 (am4 f2) fun v2=>ab6 (N1 (v2.L.length:Int) (aD5) v2.L) fun(t:(List B1)⊕Empty)=>match t with| .inl f4=>(some ((⟨v2.K6,f4,o6 (v2.af1+1),true⟩:B3),0))| .inr r=>r.elim)))
def aF9 (l:List B1)(i:Int)(c:A5)(G8:Int)(frame:List Int):Option (List B1):=
 ab6 (F0 l i) fun x2=>ab6 (aa3 x2 1) fun v=>ab6 (bif (!v)then(ab6 (ak9 l i ({x2 with A2:=J1 255 (o6 (x2.A2+1))}:B1)) fun l2=>ab6 (aa3 ({x2 with A2:=J1 255 (o6 (x2.A2+1))}:B1) 4) fun v2=>bif (!v2)then(ab6 (P9 frame) fun v3=>ab6 (ak9 l2 i ({x2 with A2:=J1 255 (o6 (x2.A2+1)),Frame:=v3}:B1)) fun l3=>some l3)else(some l2))else(some l)) fun(f2:List B1)=>ab6 (F0 f2 i) fun x3=>ab6 (ak9 f2 i ({x3 with K7:=X1 .i64 x3.K7 11}:B1)) fun l4=>ab6 (ak9 l4 i ({x3 with K7:=X1 .i64 x3.K7 11,Clean:=0}:B1)) fun l5=>bif (x3.E0==G8)then(some l5)else(ab6 (ak9 l5 i ({x3 with K7:=X1 .i64 x3.K7 11,Clean:=0,E0:=G8}:B1)) fun l6=>ab6 (ak9 l6 i (⟨X1 .i64 x3.K7 11,x3.F2,J1 2 (o6 (x3.I4+1)),0,x3.A2,x3.Frame,G8⟩:B1)) fun l7=>bif (decide ((J1 2 (o6 (x3.I4+1)))<2))then(some l7)else(ab6 (ak9 l7 i (⟨X1 .i64 (X1 .i64 x3.K7 11) 4,x3.F2,J1 2 (o6 (x3.I4+1)),0,x3.A2,x3.Frame,G8⟩:B1)) fun l8=>bif c.cr8 then(ab6 (ak9 l8 i (⟨X1 .i64 (X1 .i64 (X1 .i64 x3.K7 11) 4) 16,x3.F2,J1 2 (o6 (x3.I4+1)),0,x3.A2,x3.Frame,G8⟩:B1)) fun l9=>some l9)else(some l8)))
def az7 (f2:B3)(i:Int)(bad:Bool)(l:List Int):Option (B3×Int):=
 ab6 (ab9 f2) fun v=>bif (!v)then(some ((⟨([]:List A5),([]:List B1),0,false⟩:B3),1))else(bif ((decide (i<0))||(decide (i>=(f2.L.length:Int))))then(some ((⟨([]:List A5),([]:List B1),0,false⟩:B3),2))else(bif (!f2.S8)then(some ((⟨([]:List A5),([]:List B1),0,false⟩:B3),6))else(ab6 (F0 f2.K6 i) fun x=>ab6 (at7 x l) fun v2=>bif (!v2)then(some ((⟨([]:List A5),([]:List B1),0,false⟩:B3),1))else(ab6 (am4 f2) fun v3=>ab6 (ab6 (F0 v3.L i) fun _=>ab6 (F0 v3.K6 i) fun x3=>some x3) fun(f3:A5)=>ab6 (bif bad then(ab6 (F0 v3.L i) fun x4=>ab6 (ak9 v3.L i ({x4 with F2:=J1 f3.bq6 (o6 ((K2 x4.F2 0)+1))}:B1)) fun l2=>some l2)else(ab6 (F0 v3.L i) fun x5=>ab6 (ak9 v3.L i ({x5 with F2:=K2 (o6 (0-f3.Pass)) (o6 ((J1 x5.F2 0)-1))}:B1)) fun l3=>some l3)) fun(f4:List B1)=>ab6 (F0 f4 i) fun x6=>bif (x6.F2==f3.bq6)then(ab6 (aF9 f4 i f3 v3.af1 l) fun v4=>some (({v3 with L:=v4}:B3),0))else(bif (x6.F2==(o6 (0-f3.Pass)))then(ab6 (ak9 f4 i ({x6 with K7:=X1 .i64 x6.K7 8}:B1)) fun l4=>ab6 (ak9 l4 i ({x6 with K7:=aP4 .i64 (X1 .i64 x6.K7 8) 1}:B1)) fun l5=>some (({v3 with L:=l5}:B3),0))else(some (({v3 with L:=f4}:B3),0)))))))
def O7 (x low high:Int):Option Bool:=
 some ((decide (x>=low))&&(decide (x<=high)))
def X0 (r2:j6):Option Bool:=
 ab6 (V1 r2) fun v=>some (!v)
def ar9 (bo9:List Int)(x i below:Int):Option (Fl Int Empty):=
 ab6 (F0 bo9 i) fun x2=>bif (decide (x2<=x))then(some (.next i))else(some (.next below))
def af9 (bo9:List Int)(x:Int)(s:Int×Int):Option ((Int×Int)⊕((Int×Int)⊕Empty)):=
 bif (decide (s.1>=0))then(ab6 (F0 bo9 s.1) fun x3=>bif (decide (x3>=x))then(some (.inl (o6 (s.1-1),s.1)))else(some (.inl (o6 (s.1-1),s.2))))else(some (.inr (.inl (s.1,s.2))))
def ah3 (bo9:List Int)(x:Int):Option (Int×Int):=
 ab6 (N1 (bo9.length:Int) (ar9 bo9 x) 0) fun(t:Int⊕Empty)=>match t with| .inl cK5=>(ab6 (M0 (af9 bo9 x) (o6 ((bo9.length:Int)-1),o6 ((bo9.length:Int)-1))) fun(t:(Int×Int)⊕Empty)=>match t with| .inl s2=>(ab6 (F0 bo9 0) fun x4=>bif (decide (x<x4))then(some (cK5,0))else(some (cK5,s2.2)))| .inr r=>r.elim)| .inr r=>r.elim
def aa5 (m2:SMap)(x y:Int):Option Int:=
 ab6 (ah3 m2.X x) fun r2=>ab6 (ah3 m2.Y y) fun r3=>ab6 (F0 m2.Z r2.1) fun x2=>ab6 (F0 x2 r3.1) fun x3=>ab6 (F0 x2 r3.2) fun x4=>ab6 (F0 m2.Z r2.2) fun x5=>ab6 (F0 x5 r3.1) fun x6=>ab6 (F0 x5 r3.2) fun x7=>some (K2 (K2 (K2 x3 x4) x6) x7)
def ax8 (r2:j6):Option Bool:=
 some ((r2.Kind==2)||(r2.Kind==3))
def ah1 (_:Int)(x:j6)(s:Int×Int):Option (Fl (Int×Int) Empty):=
 ab6 (ax8 x) fun v6=>bif (!v6)then(some (.next (s.1,s.2)))else(bif (x.I7==1)then(some (.next (K2 s.1 (J1 x.j9 1500),K2 s.2 x.G5)))else(some (.next (s.1,K2 s.2 x.G5))))
def ah2 (s2:Int×Int)(_:Int)(x2:j6)(Y5:Int):Option (Fl Int Empty):=
 bif ((x2.Kind==1)&&(decide (x2.G5>s2.2)))then(some (.next (J1 Y5 x2.j9)))else(some (.next Y5))
def af8 (t2:p6)(bg4 u0:Int)(l:List j6):Option (Int×Int):=
 ab6 (L0 t2.R6) fun v=>ab6 (bif (!v)then(some true)else(ab6 (F5 l X0) fun v2=>some v2)) fun b2=>bif b2 then(some (0,1))else(bif (decide ((l.length:Int)>32))then(some (0,5))else(ab6 (O7 bg4 0 1000) fun v3=>ab6 (bif (!v3)then(some true)else(ab6 (O7 u0 0 12000) fun v4=>some (!v4))) fun b3=>bif b3 then(some (0,2))else(ab6 (aa5 t2.R6 u0 bg4) fun v5=>ab6 (ad4 l (ah1) ((-5000),(-1))) fun(t:(Int×Int)⊕Empty)=>match t with| .inl s2=>(ab6 (ad4 l (ah2 s2) 10000) fun(t:Int⊕Empty)=>match t with| .inl dH3=>(some (o6 ((K2 0 (J1 dH3 (K2 (J1 (K2 v5 (-5000)) 10000) s2.1)))+100),0))| .inr r=>r.elim)| .inr r=>r.elim)))
def ar8 (_:Int)(x:A6)(n2:Int):Option (Fl Int Empty):=
 bif (x.ag3 !=0)then(some (.next (o6 (n2+1))))else(some (.next n2))
def ax7 (t2:p6)(u0 u9:Int)(l:List A6):Option (Int×Int):=
 ab6 (L0 t2.j9) fun v=>bif (!v)then(some (0,1))else(bif (decide ((l.length:Int)>8))then(some (0,5))else(ab6 (O7 u0 0 12000) fun v2=>ab6 (bif (!v2)then(some true)else(ab6 (O7 u9 0 1048576) fun v3=>some (!v3))) fun b2=>bif b2 then(some (0,2))else(bif ((l.length:Int)==0)then(some (0,0))else(ab6 (ad4 l (ar8) 0) fun(t:Int⊕Empty)=>match t with| .inl n3=>(ab6 (aa5 t2.j9 u0 u9) fun v4=>ab6 (bo2 .i64 (o6 ((o6 ((o6 ((J1 (K2 v4 0) 10000)*n3))+(l.length:Int)))-1)) (l.length:Int)) fun q=>some (q,0))| .inr r=>r.elim))))
def aB0 (t2:p6)(O3 D1:Int):Option (Int×Int):=
 ab6 (aC0 t2 O3 D1) fun r2=>bif (r2.2 !=0)then(some (0,r2.2))else(some (o6 (3*(K2 0 (o6 (O3-r2.1)))),0))
end Go.Pv
namespace Go.Proofs.YtfplhihoadkhlaaGreat
open Go Go.Pv Go.Proofs
set_option maxHeartbeats 1000000
theorem bM4 (a:Int):(ai9 a).m=Pv.ai9 a:=by
 simp only[ai9,Pv.ai9,C.of,M.run]<;>kernel_rfl
theorem bm9 (s:List Int)(v:Int):(Y8 s v).m=Pv.Y8 s v:=by
 delta Pv.Y8 Pv.ap1
 simp only[Y8,ap1,C.of,M.run,L1.m,bO6,N1,O2]<;>kernel_rfl
theorem bc4 (s:List Int)(v:Int):(S1 s v).m=Pv.S1 s v:=by
 simp only[S1,Pv.S1,C.of,M.run,bm9]<;>kernel_rfl
theorem ay5 (e2:o7):(R3 e2).m=Pv.R3 e2:=by
 delta Pv.R3 Pv.at6
 simp only[R3,at6,C.of,M.run,bM4,bc4]<;>kernel_rfl
theorem cc9 (x y:Int):(at9 x y).m=Pv.at9 x y:=rfl
theorem bD5 (x:List D0)(count:Int):(S4 x count).m=Pv.S4 x count:=rfl
theorem di1 (n2:Int):(aU9 n2).m=Pv.aU9 n2:=by
 simp only[aU9,Pv.aU9,C.of,M.run,bD5]<;>kernel_rfl
theorem di2:(bj8).m=Pv.bj8:=by
 simp only[bj8,Pv.bj8,C.of,M.run]<;>kernel_rfl
theorem cM3:(aL9).m=Pv.aL9:=by
 simp only[aL9,Pv.aL9,C.of,M.run]<;>kernel_rfl
theorem bP5 (e2:o7):(aA5 e2).m=Pv.aA5 e2:=by
 simp only[aA5,Pv.aA5,C.of,M.run,ay5,di1,cM3,di2]<;>kernel_rfl
theorem bA8 (s:List Int)(f2:Cl Tryz.prog Int Bool (fun x=>[.t (tI x)]) (fun r=>.t (tB r))):(W6 s f2).m=Pv.W6 s (fun x0=>f2.f x0):=by
 delta Pv.W6 Pv.Z2
 simp only[W6,Z2,C.of,M.run,L1.m,Cl.at,bO6,N1,O2]<;>kernel_rfl
theorem L7 (s:List Int)(f2:Cl Tryz.prog Int Bool (fun x=>[.t (tI x)]) (fun r=>.t (tB r))):(u7 s f2).m=Pv.u7 s (fun x0=>f2.f x0):=by
 simp only[u7,Pv.u7,C.of,M.run,bA8]<;>kernel_rfl
theorem bu4 (n2:Int):(ae0 n2).m=Pv.ae0 n2:=by
 simp only[ae0,Pv.ae0,C.of,M.run]<;>kernel_rfl
theorem cF3 (l:List Int):(as7 l).m=Pv.as7 l:=by
 delta Pv.as7 Pv.az0
 simp only[as7,az0,C.of,M.run,L1.m,bO6,N1,O2,bu4]<;>kernel_rfl
theorem cd6 (z:Int):(ai7 z).m=Pv.ai7 z:=by
 simp only[ai7,Pv.ai7,C.of,M.run,bu4]<;>kernel_rfl
theorem ao3 (m2:SMap):(L0 m2).m=Pv.L0 m2:=by
 delta Pv.L0 Pv.aC4
 simp only[L0,aC4,C.of,M.run,Cl.of,bO6,ad4,as0,L7,cd6,cF3]<;>kernel_rfl
theorem cj6 (n2:Int):(aB9 n2).m=Pv.aB9 n2:=by
 simp only[aB9,Pv.aB9,C.of,M.run]<;>kernel_rfl
theorem cW6 (l:List Int):(aM6 l).m=Pv.aM6 l:=by
 delta Pv.aM6 Pv.aH8
 simp only[aM6,aH8,C.of,M.run,L1.m,Cl.of,bO6,N1,O2,cj6,L7]<;>kernel_rfl
theorem aJ2 (c:A7):(R9 c).m=Pv.R9 c:=by
 simp only[R9,Pv.R9,C.of,M.run,Cl.of,cW6,cj6,L7]<;>kernel_rfl
theorem bC9 (x:Int):(cmp_isNaN_int x).m=Pv.cmp_isNaN_int x:=by
 simp only[cmp_isNaN_int,Pv.cmp_isNaN_int,C.of,M.run]<;>kernel_rfl
theorem cE4 (x y:Int):(cmp_Less_int x y).m=Pv.cmp_Less_int x y:=by
 simp only[cmp_Less_int,Pv.cmp_Less_int,C.of,M.run,bC9]<;>kernel_rfl
theorem bc5 (x:List Int):(S3 x).m=Pv.S3 x:=by
 delta Pv.S3 Pv.T1
 simp only[S3,T1,C.of,M.run,L1.m,cE4]<;>kernel_rfl
theorem aJ1 (n2 low high:Int):(K3 n2 low high).m=Pv.K3 n2 low high:=by
 simp only[K3,Pv.K3,C.of,M.run]<;>kernel_rfl
theorem cK8 (y:Int):(aK9 y).m=Pv.aK9 y:=by
 simp only[aK9,Pv.aK9,C.of,M.run,aJ1]<;>kernel_rfl
theorem bH5 (t2:p6):(aB6 t2).m=Pv.aB6 t2:=by
 delta Pv.aB6 Pv.aT5
 simp only[aB6,aT5,C.of,M.run,L1.m,Cl.of,bO6,ad4,as0,cK8,aJ1,aJ2,L7,bc5,ao3]<;>kernel_rfl
theorem bx7 (s:List (List Int))(f2:Cl Tryz.prog (List Int) Bool (fun x=>[.t (tS Pv.encI x)]) (fun r=>.t (tB r))):(Y7 s f2).m=Pv.Y7 s (fun x0=>f2.f x0):=by
 delta Pv.Y7 Pv.ac3
 simp only[Y7,ac3,C.of,M.run,L1.m,Cl.at,bO6,N1,O2]<;>kernel_rfl
theorem aO6 (s:List (List Int))(f2:Cl Tryz.prog (List Int) Bool (fun x=>[.t (tS Pv.encI x)]) (fun r=>.t (tB r))):(H2 s f2).m=Pv.H2 s (fun x0=>f2.f x0):=by
 simp only[H2,Pv.H2,C.of,M.run,bx7]<;>kernel_rfl
theorem aB7 (x low high:Int):(J3 x low high).m=Pv.J3 x low high:=by
 simp only[J3,Pv.J3,C.of,M.run]<;>kernel_rfl
theorem bZ1 (x c c2:Int):(ap3 x c c2).m=Pv.ap3 x c c2:=by
 simp only[ap3,Pv.ap3,C.of,M.run,aB7]<;>kernel_rfl
theorem bz2 (l:List Int)(low high:Int):(ai2 l low high).m=Pv.ai2 l low high:=by
 simp only[ai2,Pv.ai2,C.of,M.run,Cl.of,L7,bZ1]<;>kernel_rfl
theorem aQ3 (x:List Int)(cmp:Cl Tryz.prog (Int×Int) Int (fun x=>[.t (tI x.1),.t (tI x.2)]) (fun r=>.t (tI r))):(J5 x cmp).m=Pv.J5 x (fun x0 x1=>cmp.f (x0,x1)):=by
 delta Pv.J5 Pv.N7
 simp only[J5,N7,C.of,M.run,L1.m,Cl.at]<;>kernel_rfl
theorem cl3 (a b2:Int):(ae1 a b2).m=Pv.ae1 a b2:=by
 simp only[ae1,Pv.ae1,C.of,M.run]<;>kernel_rfl
theorem cl4 (row:List Int):(am1 row).m=Pv.am1 row:=by
 simp only[am1,Pv.am1,C.of,M.run,bc5,bz2]<;>kernel_rfl
theorem bp3 (t2:p6):(aj3 t2).m=Pv.aj3 t2:=by
 simp only[aj3,Pv.aj3,C.of,M.run,Cl.of,aJ2,aO6,aQ3,ao3,cl3,cl4,bz2]<;>kernel_rfl
theorem bA5 (x low high:Int):(L5 x low high).m=Pv.L5 x low high:=by
 simp only[L5,Pv.L5,C.of,M.run]<;>kernel_rfl
theorem cs9 (x c c2:Int):(aA6 x c c2).m=Pv.aA6 x c c2:=by
 simp only[aA6,Pv.aA6,C.of,M.run,bA5]<;>kernel_rfl
theorem bP6 (l:List Int)(low high:Int):(ag9 l low high).m=Pv.ag9 l low high:=by
 simp only[ag9,Pv.ag9,C.of,M.run,Cl.of,cs9,L7]<;>kernel_rfl
theorem aW3 (g:ak0):(T0 g).m=Pv.T0 g:=by
 simp only[T0,Pv.T0,C.of,M.run]<;>kernel_rfl
theorem bi1 (t2:p6):(ae2 t2).m=Pv.ae2 t2:=by
 delta Pv.ae2 Pv.aB8
 simp only[ae2,aB8,C.of,M.run,bO6,ad4,as0,bH5,bP6,aJ2,aW3,ao3,bp3]<;>kernel_rfl
theorem cF0 (x low high:Int):(H0 x low high).m=Pv.H0 x low high:=by
 simp only[H0,Pv.H0,C.of,M.run]<;>kernel_rfl
theorem bt9 (b2:J4):(ak5 b2).m=Pv.ak5 b2:=by
 simp only[ak5,Pv.ak5,C.of,M.run,cF0]<;>kernel_rfl
theorem bQ7 (p2:L4):(ay0 p2).m=Pv.ay0 p2:=by
 simp only[ay0,Pv.ay0,C.of,M.run]<;>kernel_rfl
theorem bl2 (x low high:Int):(U9 x low high).m=Pv.U9 x low high:=by
 simp only[U9,Pv.U9,C.of,M.run]<;>kernel_rfl
theorem bx6 (s:List ad1)(f2:Cl Tryz.prog ad1 Bool (fun x=>[bV9 x]) (fun r=>.t (tB r))):(ac8 s f2).m=Pv.ac8 s (fun x0=>f2.f x0):=by
 delta Pv.ac8 Pv.aj6
 simp only[ac8,aj6,C.of,M.run,L1.m,Cl.at,bO6,N1,O2]<;>kernel_rfl
theorem bp0 (s:List ad1)(f2:Cl Tryz.prog ad1 Bool (fun x=>[bV9 x]) (fun r=>.t (tB r))):(T5 s f2).m=Pv.T5 s (fun x0=>f2.f x0):=by
 simp only[T5,Pv.T5,C.of,M.run,bx6]<;>kernel_rfl
set_option maxHeartbeats 1000000
theorem cd0 (c:ad1):(ad3 c).m=Pv.ad3 c:=by
 simp only[ad3,Pv.ad3,C.of,M.run,bl2]<;>kernel_rfl
theorem bi3 (p2:I2):(ae4 p2).m=Pv.ae4 p2:=by
 simp only[ae4,Pv.ae4,C.of,M.run,Cl.of,bg,bga,cd0,bl2,bp0]<;>kernel_rfl
theorem bu1 (s:List D0)(f2:Cl Tryz.prog D0 Bool (fun x=>[aX4 x]) (fun r=>.t (tB r))):(aa7 s f2).m=Pv.aa7 s (fun x0=>f2.f x0):=by
 delta Pv.aa7 Pv.ah9
 simp only[aa7,ah9,C.of,M.run,L1.m,Cl.at,bO6,N1,O2]<;>kernel_rfl
theorem aL2 (s:List D0)(f2:Cl Tryz.prog D0 Bool (fun x=>[aX4 x]) (fun r=>.t (tB r))):(K8 s f2).m=Pv.K8 s (fun x0=>f2.f x0):=by
 simp only[K8,Pv.K8,C.of,M.run,bu1]<;>kernel_rfl
theorem bt8 (n2:Int):(ai5 n2).m=Pv.ai5 n2:=by
 simp only[ai5,Pv.ai5,C.of,M.run]<;>kernel_rfl
theorem bQ5 (k:D0):(ax5 k).m=Pv.ax5 k:=by
 simp only[ax5,Pv.ax5,C.of,M.run,bt8]<;>kernel_rfl
theorem cj5 (k:D0):(al4 k).m=Pv.al4 k:=by
 simp only[al4,Pv.al4,C.of,M.run,bQ5]<;>kernel_rfl
theorem bM3 (e2:o7)(c:z8):(ar1 e2 c).m=Pv.ar1 e2 c:=by
 simp only[ar1,Pv.ar1,C.of,M.run,Cl.of,cj5,bA5,ay5,bi3,bQ7,aL2]<;>kernel_rfl
theorem bp2 (s:List j6)(f2:Cl Tryz.prog j6 Bool (fun x=>[I3 x]) (fun r=>.t (tB r))):(X7 s f2).m=Pv.X7 s (fun x0=>f2.f x0):=by
 delta Pv.X7 Pv.ad7
 simp only[X7,ad7,C.of,M.run,L1.m,Cl.at,bO6,N1,O2]<;>kernel_rfl
theorem au4 (s:List j6)(f2:Cl Tryz.prog j6 Bool (fun x=>[I3 x]) (fun r=>.t (tB r))):(F5 s f2).m=Pv.F5 s (fun x0=>f2.f x0):=by
 simp only[F5,Pv.F5,C.of,M.run,bp2]<;>kernel_rfl
theorem be3 (t2:Int):(R8 t2).m=Pv.R8 t2:=by
 simp only[R8,Pv.R8,C.of,M.run]<;>kernel_rfl
theorem bi0 (r2:j6):(V1 r2).m=Pv.V1 r2:=by
 simp only[V1,Pv.V1,C.of,M.run,bg,bga,bgo,be3]<;>kernel_rfl
theorem cc5 (r2:j6):(ai4 r2).m=Pv.ai4 r2:=by
 simp only[ai4,Pv.ai4,C.of,M.run,bi0]<;>kernel_rfl
theorem cs8 (i:X5)(C2:Int):(aw2 i C2).m=Pv.aw2 i C2:=by
 simp only[aw2,Pv.aw2,C.of,M.run,Cl.of,cc5,bP6,bA5,au4]<;>kernel_rfl
theorem ag7 (x low high:Int):(D7 x low high).m=Pv.D7 x low high:=by
 simp only[D7,Pv.D7,C.of,M.run]<;>kernel_rfl
theorem bQ4 (n2:Int):(ak4 n2).m=Pv.ak4 n2:=by
 simp only[ak4,Pv.ak4,C.of,M.run]<;>kernel_rfl
theorem bQ3 (B0:Int):(ax4 B0).m=Pv.ax4 B0:=by
 simp only[ax4,Pv.ax4,C.of,M.run]<;>kernel_rfl
theorem dh9 (u0 B0:Int):(bc8 u0 B0).m=Pv.bc8 u0 B0:=by
 simp only[bc8,Pv.bc8,C.of,M.run,bQ3]<;>kernel_rfl
theorem bQ2 (bg4 u0 B0:Int):(ax3 bg4 u0 B0).m=Pv.ax3 bg4 u0 B0:=by
 simp only[ax3,Pv.ax3,C.of,M.run,dh9,bQ4]<;>kernel_rfl
theorem cW8 (p2:L4)(first second:Int):(aN3 p2 first second).m=Pv.aN3 p2 first second:=by
 simp only[aN3,Pv.aN3,C.of,M.run,ag7,bQ7]<;>kernel_rfl
theorem ax0 (s:p7)(e2:Int):(A1 s e2).m=Pv.A1 s e2:=by
 simp only[A1,Pv.A1,CG.of,M.run]<;>kernel_rfl
theorem aJ4 (n2:Int)(f2:Cl Tryz.prog Int Bool (fun x=>[.t (tI x)]) (fun r=>.t (tB r))):(S7 n2 f2).m=Pv.S7 n2 (fun x0=>f2.f x0):=by
 delta Pv.S7 Pv.ad8
 simp only[S7,ad8,C.of,M.run,Cl.at,elE]<;>kernel_rfl
theorem bR3 (i:Int)(c:List Int)(c2:Int):(ag1 i c c2).m=Pv.ag1 i c c2:=by
 simp only[ag1,Pv.ag1,C.of,M.run,L1.m]<;>kernel_rfl
theorem cd7 (l:List Int)(x:Int):(Z9 l x).m=Pv.Z9 l x:=by
 simp only[Z9,Pv.Z9,C.of,M.run,L1.m,Cl.of,ag7,aJ4,bR3]<;>kernel_rfl
theorem cc4 (n2:Int):(X8 n2).m=Pv.X8 n2:=by
 simp only[X8,Pv.X8,C.of,M.run]<;>kernel_rfl
theorem cc8 (x:Int):(aP1 x).m=Pv.aP1 x:=rfl
theorem bq9 (x:Int):(Z0 x).m=Pv.Z0 x:=by
 simp only[Z0,Pv.Z0,C.of,M.run,cc8]<;>kernel_rfl
theorem cc7 (hi lo y:Int):(am5 hi lo y).m=Pv.am5 hi lo y:=by
 delta Pv.am5 Pv.aE0 Pv.aE1
 simp only[am5,aE0,aE1,C.of,M.run,L1.m,elE,bq9]<;>kernel_rfl
theorem cs7 (r2 c:Int)(negative:Bool)(mode:Int):(al3 r2 c negative mode).m=Pv.al3 r2 c negative mode:=by
 simp only[al3,Pv.al3,C.of,M.run]<;>kernel_rfl
theorem cE3 (a b2 c mode:Int):(az5 a b2 c mode).m=Pv.az5 a b2 c mode:=by
 simp only[az5,Pv.az5,C.of,M.run,cc4,cs7,cc7,cc9]<;>kernel_rfl
theorem bq8 (a b2 mode:Int):(ao2 a b2 mode).m=Pv.ao2 a b2 mode:=by
 simp only[ao2,Pv.ao2,C.of,M.run,cE3]<;>kernel_rfl
theorem aR2 (a b2:Int):(Y3 a b2).m=Pv.Y3 a b2:=by
 simp only[Y3,Pv.Y3,C.of,M.run,bq8]<;>kernel_rfl
theorem bu3 (x0 x1 y0 y1 x:Int):(ad9 x0 x1 y0 y1 x).m=Pv.ad9 x0 x1 y0 y1 x:=by
 simp only[ad9,Pv.ad9,C.of,M.run,aR2]<;>kernel_rfl
theorem cF2 (j:Int)(c:SMap)(c2 c3:Int):(as6 j c c2 c3).m=Pv.as6 j c c2 c3:=by
 simp only[as6,Pv.as6,C.of,M.run,L1.m,bu3]<;>kernel_rfl
theorem cX1 (m2:SMap)(x y:Int):(aN9 m2 x y).m=Pv.aN9 m2 x y:=by
 simp only[aN9,Pv.aN9,C.of,M.run,L1.m,cF2,bu3,cd7]<;>kernel_rfl
theorem aX8 (m2:SMap)(x y:Int):(aa9 m2 x y).m=Pv.aa9 m2 x y:=by
 simp only[aa9,Pv.aa9,C.of,M.run,ao3,cX1]<;>kernel_rfl
theorem cW9 (t2:p6)(value u0:Int):(aN4 t2 value u0).m=Pv.aN4 t2 value u0:=by
 simp only[aN4,Pv.aN4,C.of,M.run,ag7,aX8,ao3]<;>kernel_rfl
theorem cj8 (s:B9)(g:ak0)(e2:Int):(ar4 s g e2).m=Pv.ar4 s g e2:=by
 simp only[ar4,Pv.ar4,C.of,M.run,bg,bga,ag7,aW3]<;>kernel_rfl
theorem dh8 (s:B9)(g:ak0)(target u0:Int):(aF2 s g target u0).m=Pv.aF2 s g target u0:=by
 simp only[aF2,Pv.aF2,C.of,M.run,cj8,aW3,bQ4]<;>kernel_rfl
theorem cc3 (r2:j6):(ai3 r2).m=Pv.ai3 r2:=by
 simp only[ai3,Pv.ai3,C.of,M.run,bi0]<;>kernel_rfl
theorem cs6 (l:List j6)(low high:Int):(aw1 l low high).m=Pv.aw1 l low high:=by
 simp only[aw1,Pv.aw1,C.of,M.run,Cl.of,cc3,be3,au4]<;>kernel_rfl
theorem bA7 (s:List j6):(Z6 s).m=Pv.Z6 s:=by
 simp only[Z6,Pv.Z6,CG.of,M.run,U1.m,fh3]<;>kernel_rfl
theorem aR4 (data:List j6)(a b2:Int)(cmp:Cl Tryz.prog (j6×j6) Int (fun x=>[I3 x.1,I3 x.2]) (fun r=>.t (tI r))):(G7 data a b2 cmp).m=Pv.G7 data a b2 (fun x0 x1=>cmp.f (x0,x1)):=by
 delta Pv.G7 Pv.S6 Pv.S5
 simp only[G7,S6,S5,CG.of,M.run,L1.m,U1.m,Cl.at,bso,bO6,elE]<;>kernel_rfl
set_option maxHeartbeats 1000000
theorem bd4 (data:List j6)(a m2 b2:Int)(cmp:Cl Tryz.prog (j6×j6) Int (fun x=>[I3 x.1,I3 x.2]) (fun r=>.t (tI r))):(Q3 data a m2 b2 cmp).m=Pv.Q3 64 data a m2 b2 (fun x0 x1=>cmp.f (x0,x1)):=rfl
theorem bh2 (data:List j6)(n2:Int)(cmp:Cl Tryz.prog (j6×j6) Int (fun x=>[I3 x.1,I3 x.2]) (fun r=>.t (tI r))):(P1 data n2 cmp).m=Pv.P1 data n2 (fun x0 x1=>cmp.f (x0,x1)):=by
 delta Pv.P1 Pv.U3 Pv.Z4 Pv.U4
 simp only[P1,U3,Z4,U4,CG.of,M.run,elE,aR4,bd4]<;>kernel_rfl
theorem bd3 (x:List j6)(cmp:Cl Tryz.prog (j6×j6) Int (fun x=>[I3 x.1,I3 x.2]) (fun r=>.t (tI r))):(L6 x cmp).m=Pv.L6 x (fun x0 x1=>cmp.f (x0,x1)):=by
 simp only[L6,Pv.L6,CG.of,M.run,bh2]<;>kernel_rfl
theorem bY6 (a b2:j6):(Q1 a b2).m=Pv.Q1 a b2:=by
 simp only[Q1,Pv.Q1,C.of,M.run]<;>kernel_rfl
theorem bH6 (s:z6)(t2:Int):(af2 s t2).m=Pv.af2 s t2:=by
 simp only[af2,Pv.af2,CG.of,M.run]<;>kernel_rfl
theorem bC7 (s:z6)(t2:Int):(ab7 s t2).m=Pv.ab7 s t2:=by
 simp only[ab7,Pv.ab7,CG.of,M.run]<;>kernel_rfl
theorem bC8 (s:z6)(t2:Int):(ab8 s t2).m=Pv.ab8 s t2:=by
 simp only[ab8,Pv.ab8,CG.of,M.run,ag7]<;>kernel_rfl
theorem bH7 (s:z6)(r2:j6):(Z7 s r2).m=Pv.Z7 s r2:=by
 simp only[Z7,Pv.Z7,CG.of,M.run,bg,bgo,bgt,bC7,bH6,bC8]<;>kernel_rfl
theorem bZ0 (s:List Int):(aC3 s).m=Pv.aC3 s:=rfl
theorem bI4 (s:List Int):(at4 s).m=Pv.at4 s:=rfl
theorem cj3 (l:List j6)(low high:Int):(aq8 l low high).m=Pv.aq8 l low high:=by
 delta Pv.aq8 Pv.ak2
 simp only[aq8,ak2,C.of,M.run,U1.m,Cl.of,bso,bO6,ad4,as0,elE,bY6,bH7,bA7,bI4,bd3,bZ0]<;>kernel_rfl
theorem cE2 (g:N4)(l:List j6)(low high up down:Int):(aq7 g l low high up down).m=Pv.aq7 g l low high up down:=by
 simp only[aq7,Pv.aq7,C.of,M.run,cj3,cs6,be3]<;>kernel_rfl
theorem bH8 (s:p7):(Z8 s).m=Pv.Z8 s:=by
 simp only[Z8,Pv.Z8,CG.of,M.run,U1.m,bso,bO6,cE2,ag7,ax0,bQ2,dh8,bQ3,cW8,cW9]<;>kernel_rfl
theorem cd9 (i:Int)(c:p6)(c2 c3 c4:Int):(an2 i c c2 c3 c4).m=Pv.an2 i c c2 c3 c4:=by
 simp only[an2,Pv.an2,C.of,M.run,aX8]<;>kernel_rfl
theorem cu5 (t2:p6)(u0 J7:Int):(aq4 t2 u0 J7).m=Pv.aq4 t2 u0 J7:=by
 simp only[aq4,Pv.aq4,C.of,M.run,L1.m,Cl.of,aJ4,cd9,bp3,aB7]<;>kernel_rfl
theorem cW5 (x e2 other:Int):(av2 x e2 other).m=Pv.av2 x e2 other:=by
 simp only[av2,Pv.av2,C.of,M.run]<;>kernel_rfl
theorem cc6 (i:Int)(c:A7)(c2:Int):(am2 i c c2).m=Pv.am2 i c c2:=by
 simp only[am2,Pv.am2,C.of,M.run,L1.m]<;>kernel_rfl
theorem ct0 (c:A7)(x:Int):(aw3 c x).m=Pv.aw3 c x:=by
 simp only[aw3,Pv.aw3,C.of,M.run,Cl.of,cc6,aJ4]<;>kernel_rfl
theorem cL1 (c:A7)(x:Int):(aF7 c x).m=Pv.aF7 c x:=by
 simp only[aF7,Pv.aF7,C.of,M.run,L1.m,aR2,ct0]<;>kernel_rfl
theorem by7 (c:A7)(x:Int):(au7 c x).m=Pv.au7 c x:=by
 simp only[au7,Pv.au7,C.of,M.run,aJ2,cL1]<;>kernel_rfl
theorem ca2 (t2:p6)(u0 A3 N0:Int):(aC8 t2 u0 A3 N0).m=Pv.aC8 t2 u0 A3 N0:=by
 simp only[aC8,Pv.aC8,C.of,M.run,aR2,by7,aX8]<;>kernel_rfl
theorem cj1 (k:Int)(c:p6)(c2 c3 c4:Int):(al1 k c c2 c3 c4).m=Pv.al1 k c c2 c3 c4:=by
 simp only[al1,Pv.al1,C.of,M.run,ca2]<;>kernel_rfl
theorem cD9 (t2:p6)(u0 want N0:Int):(av8 t2 u0 want N0).m=Pv.av8 t2 u0 want N0:=by
 simp only[av8,Pv.av8,C.of,M.run,Cl.of,cj1,bH5,aJ1,aJ4]<;>kernel_rfl
theorem ck6 (rpm:Int):(ax9 rpm).m=Pv.ax9 rpm:=by
 simp only[ax9,Pv.ax9,C.of,M.run,bq8]<;>kernel_rfl
theorem dp8 (u0 A3:Int):(be2 u0 A3).m=Pv.be2 u0 A3:=by
 simp only[be2,Pv.be2,C.of,M.run,aJ1,ck6]<;>kernel_rfl
theorem cj2 (k:Int)(c:J4)(c2 c3:Int):(al2 k c c2 c3).m=Pv.al2 k c c2 c3:=by
 simp only[al2,Pv.al2,C.of,M.run]<;>kernel_rfl
theorem cE0 (b2:J4)(cX6 A3:Int):(av9 b2 cX6 A3).m=Pv.av9 b2 cX6 A3:=by
 simp only[av9,Pv.av9,C.of,M.run,Cl.of,cj2,aJ1,bt9,aJ4]<;>kernel_rfl
theorem bA6 (s:p7):(W5 s).m=Pv.W5 s:=by
 simp only[W5,Pv.W5,CG.of,M.run,dp8,cD9,cE0,cW5,ax0,cu5]<;>kernel_rfl
theorem ca1 (t2:p6)(u0 A3 N0:Int):(aC7 t2 u0 A3 N0).m=Pv.aC7 t2 u0 A3 N0:=by
 simp only[aC7,Pv.aC7,C.of,M.run,bH5,aJ1,ca2]<;>kernel_rfl
theorem bz1 (t2:p6)(u0 u9:Int):(ai1 t2 u0 u9).m=Pv.ai1 t2 u0 u9:=by
 simp only[ai1,Pv.ai1,C.of,M.run,aX8,bp3,aB7]<;>kernel_rfl
theorem bi5 (t2:p6)(bK3 late X2 C2:Int):(ab4 t2 bK3 late X2 C2).m=Pv.ab4 t2 bK3 late X2 C2:=by
 simp only[ab4,Pv.ab4,C.of,M.run,L1.m,by7]<;>kernel_rfl
theorem cl2 (late:Int)(c:p6)(c2 c3 c4 c5:Int):(am0 late c c2 c3 c4 c5).m=Pv.am0 late c c2 c3 c4 c5:=by
 simp only[am0,Pv.am0,C.of,M.run,bi5]<;>kernel_rfl
theorem cF5 (t2:p6)(u0 u9 most C2:Int):(an3 t2 u0 u9 most C2).m=Pv.an3 t2 u0 u9 most C2:=by
 delta Pv.an3 Pv.an4
 simp only[an3,an4,C.of,M.run,Cl.of,elE,aJ4,bz1,cl2,bi5,aB7]<;>kernel_rfl
theorem cl1 (C2 X2 G8:Int):(as8 C2 X2 G8).m=Pv.as8 C2 X2 G8:=by
 delta Pv.as8 Pv.as9
 simp only[as8,as9,C.of,M.run,L1.m,U1.m,bso,bO6,N1,O2,elE,aB7]<;>kernel_rfl
theorem cu6 (t2:p6)(u0 u9 late X2 C2:Int):(aw9 t2 u0 u9 late X2 C2).m=Pv.aw9 t2 u0 u9 late X2 C2:=by
 simp only[aw9,Pv.aw9,C.of,M.run,bz1,bi5,aB7]<;>kernel_rfl
theorem bN6 (s:p7):(ac6 s).m=Pv.ac6 s:=by
 simp only[ac6,Pv.ac6,CG.of,M.run,bso,bO6,ca1,ax0,cl1,cF5,cu6]<;>kernel_rfl
theorem bi4 (u0 u9:Int):(ae5 u0 u9).m=Pv.ae5 u0 u9:=by
 simp only[ae5,Pv.ae5,C.of,M.run,bl2]<;>kernel_rfl
theorem bN8 (s:List ad1):(ah8 s).m=Pv.ah8 s:=by
 simp only[ah8,Pv.ah8,C.of,M.run,U1.m,fh3]<;>kernel_rfl
theorem ck2 (p2:I2):(ax6 p2).m=Pv.ax6 p2:=by
 simp only[ax6,Pv.ax6,C.of,M.run,bN8]<;>kernel_rfl
theorem cE9 (p2:I2)(D1 u0 u9:Int):(az9 p2 D1 u0 u9).m=Pv.az9 p2 D1 u0 u9:=by
 simp only[az9,Pv.az9,C.of,M.run,bg,bgo,ag7,bi3,ck2,bl2,bi4]<;>kernel_rfl
theorem ct8 (x:Int)(bb9:List Int):(al7 x bb9).m=Pv.al7 x bb9:=by
 delta Pv.al7 Pv.aC2
 simp only[al7,aC2,C.of,M.run,ad4,as0,elE]<;>kernel_rfl
theorem cE8 (u0 u9:Int):(aG8 u0 u9).m=Pv.aG8 u0 u9:=by
 simp only[aG8,Pv.aG8,C.of,M.run,ct8,bi4]<;>kernel_rfl
theorem ck1 (p2:I2)(u0 u9:Int):(ar7 p2 u0 u9).m=Pv.ar7 p2 u0 u9:=by
 simp only[ar7,Pv.ar7,C.of,M.run,L1.m,ag7,cE8,bi3,bi4]<;>kernel_rfl
theorem bi2 (x low high:Int):(ag4 x low high).m=Pv.ag4 x low high:=by
 simp only[ag4,Pv.ag4,C.of,M.run]<;>kernel_rfl
theorem dh5 (u9 bJ3:Int):(aU5 u9 bJ3).m=Pv.aU5 u9 bJ3:=by
 simp only[aU5,Pv.aU5,C.of,M.run,L1.m,bi2]<;>kernel_rfl
set_option maxHeartbeats 1000000
theorem ck0 (b2:J4):(aJ8 b2).m=Pv.aJ8 b2:=by
 simp only[aJ8,Pv.aJ8,C.of,M.run,bi2]<;>kernel_rfl
theorem di3 (n2:Int)(cmp:Cl Tryz.prog Int Int (fun x=>[.t (tI x)]) (fun r=>.t (tI r))):(aP9 n2 cmp).m=Pv.aP9 n2 (fun x0=>cmp.f x0):=by
 delta Pv.aP9 Pv.aN7
 simp only[aP9,aN7,C.of,M.run,Cl.at,elE]<;>kernel_rfl
theorem bI0 (b2:J4)(aG1 aI0:Int):(aC1 b2 aG1 aI0).m=Pv.aC1 b2 aG1 aI0:=by
 simp only[aC1,Pv.aC1,C.of,M.run]<;>kernel_rfl
theorem cL9 (i:Int)(c:J4)(c2 c3:Int):(aB1 i c c2 c3).m=Pv.aB1 i c c2 c3:=by
 simp only[aB1,Pv.aB1,C.of,M.run,bI0]<;>kernel_rfl
theorem dh7 (b2:J4)(aG1 br8:Int):(aJ7 b2 aG1 br8).m=Pv.aJ7 b2 aG1 br8:=by
 simp only[aJ7,Pv.aJ7,C.of,M.run,Cl.of,cL9,ck0,bi2,bI0,di3]<;>kernel_rfl
theorem dh4 (b2:J4)(aG1 aI0:Int):(aP6 b2 aG1 aI0).m=Pv.aP6 b2 aG1 aI0:=by
 simp only[aP6,Pv.aP6,C.of,M.run,ck0,bi2,bI0]<;>kernel_rfl
theorem cM0 (y:Int):(aG2 y).m=Pv.aG2 y:=by
 simp only[aG2,Pv.aG2,C.of,M.run,bi2]<;>kernel_rfl
theorem cj9 (t2:p6)(cb9 D1:Int):(aC0 t2 cb9 D1).m=Pv.aC0 t2 cb9 D1:=by
 simp only[aC0,Pv.aC0,C.of,M.run,Cl.of,by7,aJ2,cM0,bi2,L7]<;>kernel_rfl
theorem dh6 (t2:p6)(br8 D1:Int):(aP7 t2 br8 D1).m=Pv.aP7 t2 br8 D1:=by
 simp only[aP7,Pv.aP7,C.of,M.run,bq8,cj9]<;>kernel_rfl
theorem bP7 (s:p7):(af6 s).m=Pv.af6 s:=by
 simp only[af6,Pv.af6,CG.of,M.run,bso,bO6,ag7,ax0,dh4,dh5,dh6,dh7,ck1,cE9]<;>kernel_rfl
theorem cM1 (k:D0):(aB2 k).m=Pv.aB2 k:=by
 simp only[aB2,Pv.aB2,C.of,M.run,bQ5]<;>kernel_rfl
theorem cM2 (n2:Int):(aG4 n2).m=Pv.aG4 n2:=by
 simp only[aG4,Pv.aG4,C.of,M.run,bt8]<;>kernel_rfl
theorem bI3 (s:List D0):(af4 s).m=Pv.af4 s:=by
 simp only[af4,Pv.af4,CG.of,M.run,U1.m,fh3]<;>kernel_rfl
theorem cW7 (k:D0)(n2:Int):(aI1 k n2).m=Pv.aI1 k n2:=by
 simp only[aI1,Pv.aI1,C.of,M.run,aR2]<;>kernel_rfl
theorem di0 (l:List D0)(ah0:List Int):(aU8 l ah0).m=Pv.aU8 l ah0:=by
 delta Pv.aU8 Pv.aM9
 simp only[aU8,aM9,C.of,M.run,L1.m,U1.m,Cl.of,bso,bO6,N1,O2,elE,cM1,cM2,cW7,bI3,aL2,L7]<;>kernel_rfl
theorem cu1 (a b2:Int):(aB3 a b2).m=Pv.aB3 a b2:=by
 simp only[aB3,Pv.aB3,C.of,M.run]<;>kernel_rfl
theorem cM6 (l:List Int):(aH3 l).m=Pv.aH3 l:=by
 simp only[aH3,Pv.aH3,C.of,M.run,Cl.of,aQ3,cu1]<;>kernel_rfl
theorem aZ4 (x low high:Int):(T2 x low high).m=Pv.T2 x low high:=by
 simp only[T2,Pv.T2,C.of,M.run]<;>kernel_rfl
theorem cd5 (x c c2:Int):(au1 x c c2).m=Pv.au1 x c c2:=by
 simp only[au1,Pv.au1,C.of,M.run,aZ4]<;>kernel_rfl
theorem bD6 (l:List Int)(low high:Int):(af0 l low high).m=Pv.af0 l low high:=by
 simp only[af0,Pv.af0,C.of,M.run,Cl.of,L7,cd5]<;>kernel_rfl
theorem cu2 (l:List Int):(aw8 l).m=Pv.aw8 l:=by
 simp only[aw8,Pv.aw8,C.of,M.run,bD6]<;>kernel_rfl
theorem bR2 (t2:p6):(ay1 t2).m=Pv.ay1 t2:=by
 simp only[ay1,Pv.ay1,C.of,M.run,Cl.of,aJ2,aO6,cM6,bD6,cu2,ao3]<;>kernel_rfl
theorem cM5 (t2:p6)(D1 O3:Int):(aH2 t2 D1 O3).m=Pv.aH2 t2 D1 O3:=by
 simp only[aH2,Pv.aH2,C.of,M.run,by7,bR2,aZ4]<;>kernel_rfl
theorem cX0 (t2:p6)(u0 u9:Int):(aN8 t2 u0 u9).m=Pv.aN8 t2 u0 u9:=by
 simp only[aN8,Pv.aN8,C.of,M.run,bR2,aZ4,aX8]<;>kernel_rfl
theorem cM4 (t2:p6)(u0 u9 B0 bk6:Int):(aH1 t2 u0 u9 B0 bk6).m=Pv.aH1 t2 u0 u9 B0 bk6:=by
 simp only[aH1,Pv.aH1,C.of,M.run,ag7,cX0,aZ4]<;>kernel_rfl
theorem bN5 (s:p7):(ac5 s).m=Pv.ac5 s:=by
 delta Pv.ac5 Pv.af5
 simp only[ac5,af5,CG.of,M.run,L1.m,U1.m,bso,bO6,N1,O2,elE,ag7,ax0,di0,cM4,cM5]<;>kernel_rfl
theorem cE5 (t2:p6)(e2:o7)(b2:J4)(c:z8)(i:X5):(aF6 t2 e2 b2 c i).m=Pv.aF6 t2 e2 b2 c i:=by
 simp only[aF6,Pv.aF6,CG.of,M.run,bso,cs8,bM3,bi1,bN5,bP7,bN6,bA6,bH8,bt9]<;>kernel_rfl
theorem di4 (n2:Int):(aV4 n2).m=Pv.aV4 n2:=by
 simp only[aV4,Pv.aV4,C.of,M.run]<;>kernel_rfl
theorem aR3 (s:List Int):(P9 s).m=Pv.P9 s:=by
 simp only[P9,Pv.P9,C.of,M.run,U1.m,fh3]<;>kernel_rfl
theorem dh3:(bc2).m=Pv.bc2:=by
 simp only[bc2,Pv.bc2,C.of,M.run]<;>kernel_rfl
theorem bD2 (e2:o7):(aq2 e2).m=Pv.aq2 e2:=by
 simp only[aq2,Pv.aq2,C.of,M.run,dh3,ay5,aR3,di4]<;>kernel_rfl
theorem cE1 (t2:Int):(aw0 t2).m=Pv.aw0 t2:=by
 simp only[aw0,Pv.aw0,C.of,M.run]<;>kernel_rfl
theorem bt7 (c:B8):(ak1 c).m=Pv.ak1 c:=by
 simp only[ak1,Pv.ak1,C.of,M.run,cE1]<;>kernel_rfl
theorem bp1 (s:List o4)(f2:Cl Tryz.prog o4 Bool (fun x=>[ba4 x]) (fun r=>.t (tB r))):(T6 s f2).m=Pv.T6 s (fun x0=>f2.f x0):=by
 delta Pv.T6 Pv.Y1
 simp only[T6,Y1,C.of,M.run,L1.m,Cl.at,bO6,N1,O2]<;>kernel_rfl
theorem aI7 (s:List o4)(f2:Cl Tryz.prog o4 Bool (fun x=>[ba4 x]) (fun r=>.t (tB r))):(H8 s f2).m=Pv.H8 s (fun x0=>f2.f x0):=by
 simp only[H8,Pv.H8,C.of,M.run,bp1]<;>kernel_rfl
theorem cu4 (c:o4)(c2:u5):(aq3 c c2).m=Pv.aq3 c c2:=by
 simp only[aq3,Pv.aq3,C.of,M.run]<;>kernel_rfl
theorem bu5 (t2:u5):(ap2 t2).m=Pv.ap2 t2:=by
 simp only[ap2,Pv.ap2,C.of,M.run,Cl.of,aI7,cu4]<;>kernel_rfl
theorem bD1 (x low high:Int):(O4 x low high).m=Pv.O4 x low high:=by
 simp only[O4,Pv.O4,C.of,M.run]<;>kernel_rfl
theorem bq3 (e2:o7)(f2:A6):(aa2 e2 f2).m=Pv.aa2 e2 f2:=by
 simp only[aa2,Pv.aa2,C.of,M.run,ay5,bD1,bc4]<;>kernel_rfl
theorem aV8 (s:List A6)(f2:Cl Tryz.prog A6 Bool (fun x=>[aQ2 x]) (fun r=>.t (tB r))):(J2 s f2).m=Pv.J2 s (fun x0=>f2.f x0):=by
 delta Pv.J2 Pv.P7
 simp only[J2,P7,C.of,M.run,L1.m,Cl.at,bO6,N1,O2]<;>kernel_rfl
theorem aO5 (s:List A6)(f2:Cl Tryz.prog A6 Bool (fun x=>[aQ2 x]) (fun r=>.t (tB r))):(G4 s f2).m=Pv.G4 s (fun x0=>f2.f x0):=by
 simp only[G4,Pv.G4,C.of,M.run,aV8]<;>kernel_rfl
theorem bR0 (g c:A6):(ag0 g c).m=Pv.ag0 g c:=by
 simp only[ag0,Pv.ag0,C.of,M.run]<;>kernel_rfl
theorem bu0 (e2:o7)(l:List A6):(ad5 e2 l).m=Pv.ad5 e2 l:=by
 delta Pv.ad5 Pv.an9
 simp only[ad5,an9,C.of,M.run,L1.m,U1.m,Cl.of,bO6,N1,O2,bq3,bR0,aO5]<;>kernel_rfl
theorem aH7 (s:List A9)(f2:Cl Tryz.prog A9 Bool (fun x=>[bd7 x]) (fun r=>.t (tB r))):(D4 s f2).m=Pv.D4 s (fun x0=>f2.f x0):=by
 delta Pv.D4 Pv.R5
 simp only[D4,R5,C.of,M.run,L1.m,Cl.at,bO6,N1,O2]<;>kernel_rfl
theorem br0 (s:List A9)(f2:Cl Tryz.prog A9 Bool (fun x=>[bd7 x]) (fun r=>.t (tB r))):(R4 s f2).m=Pv.R4 s (fun x0=>f2.f x0):=by
 simp only[R4,Pv.R4,C.of,M.run,aH7]<;>kernel_rfl
set_option maxHeartbeats 1000000
theorem cu0 (s:j2)(j:A9):(aw7 s j).m=Pv.aw7 s j:=by
 simp only[aw7,Pv.aw7,C.of,M.run,bg,bga]<;>kernel_rfl
theorem bQ8 (j:A9)(c:j2):(ab0 j c).m=Pv.ab0 j c:=by
 simp only[ab0,Pv.ab0,C.of,M.run,cu0]<;>kernel_rfl
theorem az6 (x:C8):(I9 x).m=Pv.I9 x:=by
 simp only[I9,Pv.I9,C.of,M.run]<;>kernel_rfl
theorem bM6 (kind:Int):(as3 kind).m=Pv.as3 kind:=by
 simp only[as3,Pv.as3,C.of,M.run]<;>kernel_rfl
theorem ck8 (s:j2)(c:Int):(as2 s c).m=Pv.as2 s c:=by
 delta Pv.as2 Pv.ab3
 simp only[as2,ab3,C.of,M.run,L1.m,bg,bga,bgo,bO6,ad4,as0,az6,bM6]<;>kernel_rfl
theorem av1 (s:j2):(K9 s).m=Pv.K9 s:=by
 delta Pv.K9 Pv.an8
 simp only[K9,an8,C.of,M.run,Cl.of,bg,bgo,bO6,N1,O2,bt7,ay5,bQ8,bu0,ck8,br0,bu5]<;>kernel_rfl
theorem bh5 (s:List A6):(W4 s).m=Pv.W4 s:=by
 simp only[W4,Pv.W4,C.of,M.run,U1.m,fh3]<;>kernel_rfl
theorem bR1 (s:List A9):(ak7 s).m=Pv.ak7 s:=by
 simp only[ak7,Pv.ak7,CG.of,M.run,U1.m,fh3]<;>kernel_rfl
theorem az3 (s:j2):(N5 s).m=Pv.N5 s:=by
 simp only[N5,Pv.N5,CG.of,M.run,bh5,bR1]<;>kernel_rfl
theorem ck7 (s:j2)(l:List A6):(as1 s l).m=Pv.as1 s l:=by
 simp only[as1,Pv.as1,C.of,M.run,CG.f,av1,az3,bu0,bh5]<;>kernel_rfl
theorem bN7 (x:o4):(ah5 x).m=Pv.ah5 x:=by
 simp only[ah5,Pv.ah5,C.of,M.run]<;>kernel_rfl
theorem bY7 (s:j2):(ae7 s).m=Pv.ae7 s:=by
 simp only[ae7,Pv.ae7,C.of,M.run,Cl.of,CG.f,bN7,av1,az3,aI7]<;>kernel_rfl
theorem be5 (t2:u5)(channel:Int):(ai0 t2 channel).m=Pv.ai0 t2 channel:=by
 simp only[ai0,Pv.ai0,CG.of,M.run,U1.m,bso,bu5]<;>kernel_rfl
theorem cM7 (t2:u5)(channel:Int)(level:Bool):(aH5 t2 channel level).m=Pv.aH5 t2 channel level:=by
 simp only[aH5,Pv.aH5,C.of,M.run,L1.m,U1.m,bso,be5]<;>kernel_rfl
theorem cF4 (t2:u5)(channel:Int):(aA4 t2 channel).m=Pv.aA4 t2 channel:=by
 simp only[aA4,Pv.aA4,C.of,M.run,L1.m,U1.m,be5]<;>kernel_rfl
theorem cd1 (j:A9)(c:Int):(au0 j c).m=Pv.au0 j c:=by
 simp only[au0,Pv.au0,C.of,M.run,az6]<;>kernel_rfl
theorem cl0 (t2:u5)(channel aZ1:Int)(level:Bool):(aK2 t2 channel aZ1 level).m=Pv.aK2 t2 channel aZ1 level:=by
 simp only[aK2,Pv.aK2,C.of,M.run,L1.m,U1.m,be5]<;>kernel_rfl
theorem ct9 (s:j2):(aq1 s).m=Pv.aq1 s:=by
 delta Pv.aq1 Pv.ae6
 simp only[aq1,ae6,C.of,M.run,L1.m,U1.m,Cl.of,CG.f,bg,bga,bO6,N1,O2,elE,cd1,av1,az3,aH7,cl0,cF4,cM7]<;>kernel_rfl
theorem cd3 (j:A9)(c:Int):(X9 j c).m=Pv.X9 j c:=by
 simp only[X9,Pv.X9,C.of,M.run,az6]<;>kernel_rfl
theorem cF1 (a b2:Int):(aA0 a b2).m=Pv.aA0 a b2:=by
 simp only[aA0,Pv.aA0,C.of,M.run,L1.m]<;>kernel_rfl
theorem bD3 (s:j2):(al8 s).m=Pv.al8 s:=by
 delta Pv.al8 Pv.Y0
 simp only[al8,Y0,CG.of,M.run,L1.m,U1.m,Cl.of,bso,bO6,N1,O2,elE,cd3,bM6,cF1,aH7,cl0]<;>kernel_rfl
theorem cX2 (t2:u5):(aO0 t2).m=Pv.aO0 t2:=by
 delta Pv.aO0 Pv.aI5
 simp only[aO0,aI5,C.of,M.run,bg,bga,ad4,as0,elE,bu5]<;>kernel_rfl
theorem bu2 (s:List o5)(f:Cl Tryz.prog (o5×o5) Int (fun x=>[aB5 x.1,aB5 x.2]) (fun r=>.t (tI r))):(aa8 s f).m=Pv.aa8 s (fun x0 x1=>f.f (x0,x1)):=rfl
theorem ba6 (x y:Int):(G9 x y).m=Pv.G9 x y:=by
 simp only[G9,Pv.G9,C.of,M.run,bC9]<;>kernel_rfl
theorem bA4 (by3:List Int):(ag8 by3).m=Pv.ag8 by3:=by
 delta Pv.ag8 Pv.ap9
 simp only[ag8,ap9,C.of,M.run,ad4,as0]<;>kernel_rfl
theorem cd8 (a b2:o5):(aa0 a b2).m=Pv.aa0 a b2:=by
 simp only[aa0,Pv.aa0,C.of,M.run,ba6,bA4]<;>kernel_rfl
theorem cu3 (t2:u5)(M8:Int):(al9 t2 M8).m=Pv.al9 t2 M8:=by
 delta Pv.al9 Pv.av6
 simp only[al9,av6,C.of,M.run,L1.m,U1.m,Cl.of,bO6,N1,O2,elE,bu2,cd8,be5]<;>kernel_rfl
theorem bx5 (s:List A9)(del:Cl Tryz.prog A9 Bool (fun x=>[bd7 x]) (fun r=>.t (tB r))):(N2 s del).m=Pv.N2 s (fun x0=>del.f x0):=rfl
theorem bY8 (j:A9)(c:Int):(ap0 j c).m=Pv.ap0 j c:=by
 simp only[ap0,Pv.ap0,C.of,M.run]<;>kernel_rfl
theorem bz0 (s:j2)(M8:Int):(ad6 s M8).m=Pv.ad6 s M8:=by
 delta Pv.ad6 Pv.ab2
 simp only[ad6,ab2,CG.of,M.run,U1.m,Cl.of,bso,bO6,elE,bD3,bY8,bx5,cu3,cX2]<;>kernel_rfl
theorem bm8 (s:j2)(M8:Int):(W0 s M8).m=Pv.W0 s M8:=by
 simp only[W0,Pv.W0,C.of,M.run,av1,az3,bz0]<;>kernel_rfl
theorem cj4 (a b2:Int):(aa1 a b2).m=Pv.aa1 a b2:=by
 simp only[aa1,Pv.aa1,C.of,M.run,L1.m]<;>kernel_rfl
theorem ba7 (bM0 M8:Int):(T4 bM0 M8).m=Pv.T4 bM0 M8:=by
 simp only[T4,Pv.T4,C.of,M.run,cj4,bM4]<;>kernel_rfl
theorem cL0 (c:B8):(aL0 c).m=Pv.aL0 c:=by
 simp only[aL0,Pv.aL0,C.of,M.run,bt7]<;>kernel_rfl
theorem dp9 (a b2:Int):(bm6 a b2).m=Pv.bm6 a b2:=by
 simp only[bm6,Pv.bm6,C.of,M.run,bq8]<;>kernel_rfl
theorem cK9 (c:B8)(bV5:Int):(aF5 c bV5).m=Pv.aF5 c bV5:=by
 simp only[aF5,Pv.aF5,C.of,M.run,cL0,dp9]<;>kernel_rfl
theorem bD0 (e2:o7)(aD1:Int):(al6 e2 aD1).m=Pv.al6 e2 aD1:=by
 simp only[al6,Pv.al6,C.of,M.run,L1.m,bm9]<;>kernel_rfl
theorem ct1 (e2:o7)(aD1:Int):(aw4 e2 aD1).m=Pv.aw4 e2 aD1:=by
 simp only[aw4,Pv.aw4,C.of,M.run,ay5,bD0]<;>kernel_rfl
theorem bQ9 (f2:A6)(c:Int):(ab1 f2 c).m=Pv.ab1 f2 c:=by
 simp only[ab1,Pv.ab1,C.of,M.run]<;>kernel_rfl
theorem ct2 (f2:A6)(c:o7):(aq0 f2 c).m=Pv.aq0 f2 c:=by
 simp only[aq0,Pv.aq0,C.of,M.run,bq3]<;>kernel_rfl
theorem ct3 (g c:A6):(aw5 g c).m=Pv.aw5 g c:=by
 simp only[aw5,Pv.aw5,C.of,M.run]<;>kernel_rfl
theorem ct4 (aZ1 kind bT5:Int)(c:List C8)(c2:A6):(Q9 aZ1 kind bT5 c c2).m=Pv.Q9 aZ1 kind bT5 c c2:=by
 simp only[Q9,Pv.Q9,CG.of,M.run,U1.m,bso,bO6,cj4]<;>kernel_rfl
theorem ct5 (d c:Int):(M6 d c).m=Pv.M6 d c:=by
 simp only[M6,Pv.M6,C.of,M.run,L1.m]<;>kernel_rfl
theorem ct6 (f2:A6):(al5 f2).m=Pv.al5 f2:=by
 simp only[al5,Pv.al5,C.of,M.run]<;>kernel_rfl
theorem bx8 (s:List C8)(f:Cl Tryz.prog (C8×C8) Int (fun x=>[aX3 x.1,aX3 x.2]) (fun r=>.t (tI r))):(ac9 s f).m=Pv.ac9 s (fun x0 x1=>f.f (x0,x1)):=rfl
set_option maxHeartbeats 1000000
theorem cE6 (a b2:C8):(am3 a b2).m=Pv.am3 a b2:=by
 simp only[am3,Pv.am3,C.of,M.run,ba6,bA4]<;>kernel_rfl
theorem cL2 (e2:o7)(l:List A6)(O3:Int):(aF8 e2 l O3).m=Pv.aF8 e2 l O3:=by
 delta Pv.aF8 Pv.aD4 Pv.ax2
 simp only[aF8,aD4,ax2,C.of,M.run,L1.m,U1.m,Cl.of,bso,bO6,ad4,N1,as0,O2,ct2,ct3,ct4,ct5,ct6,ay5,bD0,cE6,bD1,aO5,bx8]<;>kernel_rfl
theorem aE9 (data:List j1)(a b2:Int)(cmp:Cl Tryz.prog (j1×j1) Int (fun x=>[B5 x.1,B5 x.2]) (fun r=>.t (tI r))):(B7 data a b2 cmp).m=Pv.B7 data a b2 (fun x0 x1=>cmp.f (x0,x1)):=by
 delta Pv.B7 Pv.D2 Pv.C0
 simp only[B7,D2,C0,CG.of,M.run,L1.m,U1.m,Cl.at,bso,bO6,elE]<;>kernel_rfl
theorem aK6 (data:List j1)(a m2 b2:Int)(cmp:Cl Tryz.prog (j1×j1) Int (fun x=>[B5 x.1,B5 x.2]) (fun r=>.t (tI r))):(J6 data a m2 b2 cmp).m=Pv.J6 64 data a m2 b2 (fun x0 x1=>cmp.f (x0,x1)):=rfl
theorem aO7 (data:List j1)(n2:Int)(cmp:Cl Tryz.prog (j1×j1) Int (fun x=>[B5 x.1,B5 x.2]) (fun r=>.t (tI r))):(I8 data n2 cmp).m=Pv.I8 data n2 (fun x0 x1=>cmp.f (x0,x1)):=by
 delta Pv.I8 Pv.M1 Pv.P2 Pv.M3
 simp only[I8,M1,P2,M3,CG.of,M.run,elE,aE9,aK6]<;>kernel_rfl
theorem aK5 (x:List j1)(cmp:Cl Tryz.prog (j1×j1) Int (fun x=>[B5 x.1,B5 x.2]) (fun r=>.t (tI r))):(E6 x cmp).m=Pv.E6 x (fun x0 x1=>cmp.f (x0,x1)):=by
 simp only[E6,Pv.E6,CG.of,M.run,aO7]<;>kernel_rfl
theorem bY9 (a b2:j1):(ae8 a b2).m=Pv.ae8 a b2:=by
 simp only[ae8,Pv.ae8,C.of,M.run,ba6,bA4,az6]<;>kernel_rfl
theorem ck9 (e2:o7)(f2:A6)(begin O3:Int):(as4 e2 f2 begin O3).m=Pv.as4 e2 f2 begin O3:=by
 delta Pv.as4 Pv.ak6 Pv.Y6 Pv.W2
 simp only[as4,ak6,Y6,W2,C.of,M.run,L1.m,U1.m,Cl.of,bso,bO6,ad4,as0,elE,ba7,cL2,bY9,aK5]<;>kernel_rfl
theorem cd4 (s:j2):(ai6 s).m=Pv.ai6 s:=by
 delta Pv.ai6 Pv.ah7 Pv.ah6
 simp only[ai6,ah7,ah6,CG.of,M.run,L1.m,U1.m,Cl.of,bso,bO6,ad4,as0,elE,cK9,ct1,ba7,bQ9,ck9,aV8]<;>kernel_rfl
theorem cd2 (s:j2)(c:B8):(am8 s c).m=Pv.am8 s c:=by
 delta Pv.am8 Pv.ac7
 simp only[am8,ac7,C.of,M.run,L1.m,U1.m,bso,bO6,N1,O2,elE,bt7,ba7,av1,bD3,cd4,az3,bz0]<;>kernel_rfl
theorem br1 (s:List A5)(f2:Cl Tryz.prog A5 Bool (fun x=>[aP3 x]) (fun r=>.t (tB r))):(V4 s f2).m=Pv.V4 s (fun x0=>f2.f x0):=by
 delta Pv.V4 Pv.Z3
 simp only[V4,Z3,C.of,M.run,L1.m,Cl.at,bO6,N1,O2]<;>kernel_rfl
theorem aJ3 (s:List A5)(f2:Cl Tryz.prog A5 Bool (fun x=>[aP3 x]) (fun r=>.t (tB r))):(K1 s f2).m=Pv.K1 s (fun x0=>f2.f x0):=by
 simp only[K1,Pv.K1,C.of,M.run,br1]<;>kernel_rfl
theorem aZ3 (x low high:Int):(F4 x low high).m=Pv.F4 x low high:=by
 simp only[F4,Pv.F4,C.of,M.run]<;>kernel_rfl
theorem bP8 (c:A5):(af7 c).m=Pv.af7 c:=by
 simp only[af7,Pv.af7,C.of,M.run,aZ3]<;>kernel_rfl
theorem bQ1 (c:A5):(ao7 c).m=Pv.ao7 c:=by
 simp only[ao7,Pv.ao7,C.of,M.run,bP8]<;>kernel_rfl
theorem bP9 (l:List A5):(ao6 l).m=Pv.ao6 l:=by
 delta Pv.ao6 Pv.aD7
 simp only[ao6,aD7,C.of,M.run,ad4,as0]<;>kernel_rfl
theorem bD4 (s:List A5):(ac1 s).m=Pv.ac1 s:=by
 simp only[ac1,Pv.ac1,C.of,M.run,U1.m,fh3]<;>kernel_rfl
theorem bH9 (l:List A5):(aP5 l).m=Pv.aP5 l:=by
 simp only[aP5,Pv.aP5,C.of,M.run,Cl.of,bP9,bQ1,bD4,aJ3]<;>kernel_rfl
theorem cL7 (x:Int):(aR8 x).m=Pv.aR8 x:=by
 simp only[aR8,Pv.aR8,C.of,M.run,aZ3]<;>kernel_rfl
theorem ct7 (x:Int):(aA8 x).m=Pv.aA8 x:=by
 simp only[aA8,Pv.aA8,C.of,M.run,cL7]<;>kernel_rfl
theorem bQ0 (c:A5)(l:List Int):(at7 c l).m=Pv.at7 c l:=by
 simp only[at7,Pv.at7,C.of,M.run,Cl.of,ct7,L7]<;>kernel_rfl
theorem cj7 (f2:B1)(bits:Int):(aa3 f2 bits).m=Pv.aa3 f2 bits:=by
 simp only[aa3,Pv.aa3,C.of,M.run]<;>kernel_rfl
theorem cL5 (f2:B1):(aL5 f2).m=Pv.aL5 f2:=by
 simp only[aL5,Pv.aL5,C.of,M.run]<;>kernel_rfl
theorem cL6 (c:A5)(f2:B1)(G8:Int):(aG0 c f2 G8).m=Pv.aG0 c f2 G8:=by
 simp only[aG0,Pv.aG0,C.of,M.run,bQ0,cj7,cL5,aZ3]<;>kernel_rfl
theorem be4 (f2:B3):(ab9 f2).m=Pv.ab9 f2:=by
 delta Pv.ab9 Pv.aD6
 simp only[ab9,aD6,C.of,M.run,L1.m,Cl.of,bg,bgo,bO6,N1,O2,bP9,cL6,aZ3,bQ1,aJ3]<;>kernel_rfl
theorem bI2 (s:List B1):(af3 s).m=Pv.af3 s:=by
 simp only[af3,Pv.af3,CG.of,M.run,U1.m,fh3]<;>kernel_rfl
theorem bM5 (f2:B3):(am4 f2).m=Pv.am4 f2:=by
 delta Pv.am4 Pv.ay7
 simp only[am4,ay7,CG.of,M.run,L1.m,U1.m,bso,bO6,N1,O2,elE,bI2,aR3]<;>kernel_rfl
theorem cL3 (f2:B3):(aL4 f2).m=Pv.aL4 f2:=by
 delta Pv.aL4 Pv.aD5
 simp only[aL4,aD5,C.of,M.run,L1.m,U1.m,bso,bO6,N1,O2,elE,be4,bM5]<;>kernel_rfl
theorem cL4 (l:List B1)(i:Int)(c:A5)(G8:Int)(frame:List Int):(aF9 l i c G8 frame).m=Pv.aF9 l i c G8 frame:=by
 simp only[aF9,Pv.aF9,CG.of,M.run,U1.m,cj7,aR3]<;>kernel_rfl
theorem cE7 (f2:B3)(i:Int)(bad:Bool)(l:List Int):(az7 f2 i bad l).m=Pv.az7 f2 i bad l:=by
 simp only[az7,Pv.az7,C.of,M.run,L1.m,U1.m,bso,bO6,be4,bM5,cL4,bQ0]
 refine da1 fun v _=>dM4 rfl (dM4 rfl (dM4 rfl (da1 fun x _=>da1 fun v2 _=>dM4 rfl (da1 fun v3 _=>da1 fun y hy=>da1 fun f3 _=>?_))))
 simp only[hy,bso]
theorem by9 (x low high:Int):(O7 x low high).m=Pv.O7 x low high:=by
 simp only[O7,Pv.O7,C.of,M.run]<;>kernel_rfl
theorem bI1 (r2:j6):(X0 r2).m=Pv.X0 r2:=by
 simp only[X0,Pv.X0,C.of,M.run,bi0]<;>kernel_rfl
theorem ck4 (bo9:List Int)(x:Int):(ah3 bo9 x).m=Pv.ah3 bo9 x:=by
 delta Pv.ah3 Pv.ar9 Pv.af9
 simp only[ah3,ar9,af9,C.of,M.run,L1.m,bO6,N1,O2,elE]<;>kernel_rfl
theorem by8 (m2:SMap)(x y:Int):(aa5 m2 x y).m=Pv.aa5 m2 x y:=by
 simp only[aa5,Pv.aa5,C.of,M.run,L1.m,ck4]<;>kernel_rfl
theorem ck5 (r2:j6):(ax8 r2).m=Pv.ax8 r2:=by
 simp only[ax8,Pv.ax8,C.of,M.run]<;>kernel_rfl
theorem bQ6 (t2:p6)(bg4 u0:Int)(l:List j6):(af8 t2 bg4 u0 l).m=Pv.af8 t2 bg4 u0 l:=by
 delta Pv.af8 Pv.ah1 Pv.ah2
 simp only[af8,ah1,ah2,C.of,M.run,Cl.of,bO6,ad4,as0,elE,bI1,by8,ck5,by9,au4,ao3]<;>kernel_rfl
theorem ck3 (t2:p6)(u0 u9:Int)(l:List A6):(ax7 t2 u0 u9 l).m=Pv.ax7 t2 u0 u9 l:=by
 delta Pv.ax7 Pv.ar8
 simp only[ax7,ar8,C.of,M.run,L1.m,ad4,as0,elE,by8,by9,ao3]<;>kernel_rfl
theorem cL8 (t2:p6)(O3 D1:Int):(aB0 t2 O3 D1).m=Pv.aB0 t2 O3 D1:=by
 simp only[aB0,Pv.aB0,C.of,M.run,cj9]<;>kernel_rfl
end Go.Proofs.YtfplhihoadkhlaaGreat
namespace Go.Pv
open Go
def aj5 {α:Type}(a:Int)(cmp:α->α->Option Int)(s2:Int×List α):Option ((Int×List α)⊕((Int×List α)⊕Empty)):=
 ab6 (bif (decide (s2.1>a))then(ab6 (F0 s2.2 s2.1) fun x=>ab6 (F0 s2.2 (o6 (s2.1-1))) fun x2=>ab6 (cmp x x2) fun v=>some (decide (v<0)))else(some false)) fun(v2:Bool)=>bif v2 then(ab6 (ab6 (F0 s2.2 (o6 (s2.1-1))) fun x3=>ab6 (F0 s2.2 s2.1) fun x4=>ab6 (ak9 s2.2 s2.1 x3) fun l=>ab6 (F0 l (o6 (s2.1-1))) fun _=>ab6 (ak9 l (o6 (s2.1-1)) x4) fun l2=>some l2) fun(f2:List α)=>some (.inl (o6 (s2.1-1),f2)))else(some (.inr (.inl (s2.1,s2.2))))
def ac2 {α:Type}(a:Int)(b2:Int)(cmp:α->α->Option Int)(s:Int×List α):Option ((Int×List α)⊕((Int×List α)⊕Empty)):=
 bif (decide (s.1<b2))then(ab6 (M0 (aj5 a cmp) (s.1,s.2)) fun(t:(Int×List α)⊕Empty)=>match t with| .inl s3=>(some (.inl (o6 (s.1+1),s3.2)))| .inr r=>r.elim)else(some (.inr (.inl (s.1,s.2))))
def aj0 {α:Type}(data:List α)(a:Int)(b2:Int)(cmp:α->α->Option Int):Option (List α):=
 ab6 (M0 (ac2 a b2 cmp) (o6 (a+1),data)) fun(t:(Int×List α)⊕Empty)=>match t with| .inl s4=>(some s4.2)| .inr r=>r.elim
def bO0 {α:Type}(a:Int)(b2:Int)(n2:Int)(s:Int×List α):Option ((Int×List α)⊕((Int×List α)⊕Empty)):=
 bif (decide (s.1<n2))then(ab6 (ab6 (F0 s.2 (o6 (b2+s.1))) fun x=>ab6 (F0 s.2 (o6 (a+s.1))) fun x2=>ab6 (ak9 s.2 (o6 (a+s.1)) x) fun l=>ab6 (F0 l (o6 (b2+s.1))) fun _=>ab6 (ak9 l (o6 (b2+s.1)) x2) fun l2=>some l2) fun(f2:List α)=>some (.inl (o6 (s.1+1),f2)))else(some (.inr (.inl (s.1,s.2))))
def bb2 {α:Type}(data:List α)(a:Int)(b2:Int)(n2:Int)(_:α->α->Option Int):Option (List α):=
 ab6 (M0 (bO0 a b2 n2) (0,data)) fun(t:(Int×List α)⊕Empty)=>match t with| .inl s2=>(some s2.2)| .inr r=>r.elim
def cf2 {α:Type}(m2:Int)(cmp:α->α->Option Int)(s:Int×Int×List α):Option ((Int×Int×List α)⊕((Int×Int×List α)⊕Empty)):=
 bif (s.1 !=s.2.1)then(bif (decide (s.1>s.2.1))then(ab6 (bb2 s.2.2 (o6 (m2-s.1)) m2 s.2.1 cmp) fun v=>some (.inl (o6 (s.1-s.2.1),s.2.1,v)))else(ab6 (bb2 s.2.2 (o6 (m2-s.1)) (o6 ((o6 (m2+s.2.1))-s.1)) s.1 cmp) fun v2=>some (.inl (s.1,o6 (s.2.1-s.1),v2))))else(some (.inr (.inl (s.1,s.2.1,s.2.2))))
def cF8 {α:Type}(data:List α)(a:Int)(m2:Int)(b2:Int)(cmp:α->α->Option Int):Option (List α):=
 ab6 (M0 (cf2 m2 cmp) (o6 (m2-a),o6 (b2-m2),data)) fun(t:(Int×Int×List α)⊕Empty)=>match t with| .inl s2=>(ab6 (bb2 s2.2.2 (o6 (m2-s2.1)) m2 s2.1 cmp) fun v3=>some v3)| .inr r=>r.elim
def bS0 {α:Type}(data:List α)(a:Int)(cmp:α->α->Option Int)(s:Int×Int):Option ((Int×Int)⊕((Int×Int)⊕Empty)):=
 bif (decide (s.1<s.2))then(ab6 (F0 data (o6 (F1 .u64 (aK3.wrap (o6 (s.1+s.2))) 1))) fun x=>ab6 (F0 data a) fun x2=>ab6 (cmp x x2) fun v=>bif (decide (v<0))then(some (.inl (o6 ((o6 (F1 .u64 (aK3.wrap (o6 (s.1+s.2))) 1))+1),s.2)))else(some (.inl (s.1,o6 (F1 .u64 (aK3.wrap (o6 (s.1+s.2))) 1)))))else(some (.inr (.inl (s.1,s.2))))
def bS1 {α:Type}(s2:Int×Int)(s3:Int×List α):Option ((Int×List α)⊕((Int×List α)⊕Empty)):=
 bif (decide (s3.1<(o6 (s2.1-1))))then(ab6 (ab6 (F0 s3.2 (o6 (s3.1+1))) fun x3=>ab6 (F0 s3.2 s3.1) fun x4=>ab6 (ak9 s3.2 s3.1 x3) fun l=>ab6 (F0 l (o6 (s3.1+1))) fun _=>ab6 (ak9 l (o6 (s3.1+1)) x4) fun l2=>some l2) fun(f2:List α)=>some (.inl (o6 (s3.1+1),f2)))else(some (.inr (.inl (s3.1,s3.2))))
def bS2 {α:Type}(data:List α)(m2:Int)(cmp:α->α->Option Int)(s5:Int×Int):Option ((Int×Int)⊕((Int×Int)⊕Empty)):=
 bif (decide (s5.1<s5.2))then(ab6 (F0 data m2) fun x6=>ab6 (F0 data (o6 (F1 .u64 (aK3.wrap (o6 (s5.1+s5.2))) 1))) fun x7=>ab6 (cmp x6 x7) fun v2=>bif (!(decide (v2<0)))then(some (.inl (o6 ((o6 (F1 .u64 (aK3.wrap (o6 (s5.1+s5.2))) 1))+1),s5.2)))else(some (.inl (s5.1,o6 (F1 .u64 (aK3.wrap (o6 (s5.1+s5.2))) 1)))))else(some (.inr (.inl (s5.1,s5.2))))
def bS3 {α:Type}(s6:Int×Int)(s7:Int×List α):Option ((Int×List α)⊕((Int×List α)⊕Empty)):=
 bif (decide (s7.1>s6.1))then(ab6 (ab6 (F0 s7.2 (o6 (s7.1-1))) fun x8=>ab6 (F0 s7.2 s7.1) fun x9=>ab6 (ak9 s7.2 s7.1 x8) fun l3=>ab6 (F0 l3 (o6 (s7.1-1))) fun _=>ab6 (ak9 l3 (o6 (s7.1-1)) x9) fun l4=>some l4) fun(f3:List α)=>some (.inl (o6 (s7.1-1),f3)))else(some (.inr (.inl (s7.1,s7.2))))
def bS4 {α:Type}(data:List α)(a:Int)(m2:Int)(b2:Int)(cmp:α->α->Option Int)(s10:Int×Int):Option ((Int×Int)⊕((Int×Int)⊕Empty)):=
 bif (decide (s10.1<s10.2))then(ab6 (F0 data (o6 ((o6 ((o6 ((o6 (F1 .u64 (aK3.wrap (o6 (a+b2))) 1))+m2))-1))-(o6 (F1 .u64 (aK3.wrap (o6 (s10.1+s10.2))) 1))))) fun x11=>ab6 (F0 data (o6 (F1 .u64 (aK3.wrap (o6 (s10.1+s10.2))) 1))) fun x12=>ab6 (cmp x11 x12) fun v3=>bif (!(decide (v3<0)))then(some (.inl (o6 ((o6 (F1 .u64 (aK3.wrap (o6 (s10.1+s10.2))) 1))+1),s10.2)))else(some (.inl (s10.1,o6 (F1 .u64 (aK3.wrap (o6 (s10.1+s10.2))) 1)))))else(some (.inr (.inl (s10.1,s10.2))))
def bZ2 {α:Type}(rc:List α->Int->Int->Int->(α->α->Option Int)->Option (List α))(data:List α)(a:Int)(m2:Int)(b2:Int)(cmp:α->α->Option Int):Option (List α):=
 bif ((o6 (m2-a))==1)then(ab6 (M0 (bS0 data a cmp) (m2,b2)) fun(t:(Int×Int)⊕Empty)=>match t with| .inl s2=>(ab6 (M0 (bS1 s2) (a,data)) fun(t:(Int×List α)⊕Empty)=>match t with| .inl s4=>(some s4.2)| .inr r=>r.elim)| .inr r=>r.elim)else(bif ((o6 (b2-m2))==1)then(ab6 (M0 (bS2 data m2 cmp) (a,m2)) fun(t:(Int×Int)⊕Empty)=>match t with| .inl s6=>(ab6 (M0 (bS3 s6) (m2,data)) fun(t:(Int×List α)⊕Empty)=>match t with| .inl s8=>(some s8.2)| .inr r=>r.elim)| .inr r=>r.elim)else(ab6 (bif (decide (m2>(o6 (F1 .u64 (aK3.wrap (o6 (a+b2))) 1))))then(some (o6 ((o6 ((o6 (F1 .u64 (aK3.wrap (o6 (a+b2))) 1))+m2))-b2),o6 (F1 .u64 (aK3.wrap (o6 (a+b2))) 1)))else(some (a,m2))) fun(s9:Int×Int)=>ab6 (M0 (bS4 data a m2 b2 cmp) (s9.1,s9.2)) fun(t:(Int×Int)⊕Empty)=>match t with| .inl s11=>(ab6 (bif ((decide (s11.1<m2))&&(decide (m2<(o6 ((o6 ((o6 (F1 .u64 (aK3.wrap (o6 (a+b2))) 1))+m2))-s11.1)))))then(ab6 (cF8 data s11.1 m2 (o6 ((o6 ((o6 (F1 .u64 (aK3.wrap (o6 (a+b2))) 1))+m2))-s11.1)) cmp) fun v4=>some v4)else(some data)) fun(f4:List α)=>ab6 (bif ((decide (a<s11.1))&&(decide (s11.1<(o6 (F1 .u64 (aK3.wrap (o6 (a+b2))) 1)))))then(ab6 (rc f4 a s11.1 (o6 (F1 .u64 (aK3.wrap (o6 (a+b2))) 1)) cmp) fun v5=>some v5)else(some f4)) fun(f5:List α)=>bif ((decide ((o6 (F1 .u64 (aK3.wrap (o6 (a+b2))) 1))<(o6 ((o6 ((o6 (F1 .u64 (aK3.wrap (o6 (a+b2))) 1))+m2))-s11.1))))&&(decide ((o6 ((o6 ((o6 (F1 .u64 (aK3.wrap (o6 (a+b2))) 1))+m2))-s11.1))<b2)))then(ab6 (rc f5 (o6 (F1 .u64 (aK3.wrap (o6 (a+b2))) 1)) (o6 ((o6 ((o6 (F1 .u64 (aK3.wrap (o6 (a+b2))) 1))+m2))-s11.1)) b2 cmp) fun v6=>some v6)else(some f5))| .inr r=>r.elim))
def bf4 {α:Type}:Nat->List α->Int->Int->Int->(α->α->Option Int)->Option (List α)
 |0=>fun _ _ _ _ _=>none
 |fu+1=>bZ2 (bf4 fu)
def bb0 {α:Type}(n2:Int)(cmp:α->α->Option Int)(s:Int×Int×List α):Option ((Int×Int×List α)⊕((Int×Int×List α)⊕Empty)):=
 bif (decide (s.2.1<=n2))then(ab6 (aj0 s.2.2 s.1 s.2.1 cmp) fun v=>some (.inl (s.2.1,o6 (s.2.1+20),v)))else(some (.inr (.inl (s.1,s.2.1,s.2.2))))
def cf3 {α:Type}(n2:Int)(cmp:α->α->Option Int)(s3:Int×List α)(s4:Int×Int×List α):Option ((Int×Int×List α)⊕((Int×Int×List α)⊕Empty)):=
 bif (decide (s4.2.1<=n2))then(ab6 (bf4 64 s4.2.2 s4.1 (o6 (s4.1+s3.1)) s4.2.1 cmp) fun v3=>some (.inl (s4.2.1,o6 (s4.2.1+(o6 (2*s3.1))),v3)))else(some (.inr (.inl (s4.1,s4.2.1,s4.2.2))))
def bb1 {α:Type}(n2:Int)(cmp:α->α->Option Int)(s3:Int×List α):Option ((Int×List α)⊕((Int×List α)⊕Empty)):=
 bif (decide (s3.1<n2))then(ab6 (M0 (cf3 n2 cmp s3) (0,o6 (2*s3.1),s3.2)) fun(t:(Int×Int×List α)⊕Empty)=>match t with| .inl s5=>(bif (decide ((o6 (s5.1+s3.1))<n2))then(ab6 (bf4 64 s5.2.2 s5.1 (o6 (s5.1+s3.1)) n2 cmp) fun v4=>some (.inl (o6 (s3.1*2),v4)))else(some (.inl (o6 (s3.1*2),s5.2.2))))| .inr r=>r.elim)else(some (.inr (.inl (s3.1,s3.2))))
def bp6 {α:Type}(data:List α)(n2:Int)(cmp:α->α->Option Int):Option (List α):=
 ab6 (M0 (bb0 n2 cmp) (0,20,data)) fun(t:(Int×Int×List α)⊕Empty)=>match t with| .inl s2=>(ab6 (aj0 s2.2.2 s2.1 n2 cmp) fun v2=>ab6 (M0 (bb1 n2 cmp) (20,v2)) fun(t:(Int×List α)⊕Empty)=>match t with| .inl s6=>(some s6.2)| .inr r=>r.elim)| .inr r=>r.elim
def aU6 {α:Type}(x:List α)(cmp:α->α->Option Int):Option (List α):=
 ab6 (bp6 x (x.length:Int) cmp) fun v=>some v
section
variable {α β:Type}
theorem bS5 (P:List α)(x:α)(R:List α){i:Int}(h:i=(P.length:Int)):F0 (P++x::R) i=some x:=by
 subst h;rw[S0,List.getElem?_append_right (cB6 _),Nat.sub_self];rfl
theorem dz2 (P:List α)(x y:α)(R:List α){i:Int}(h:i=(P.length:Int)):ak9 (P++x::R) i y=some (P++y::R):=by
 subst h;rw[aa6 _ _ _ (by simp),List.set_append_right _ _ (cB6 _),Nat.sub_self];rfl
theorem fb8 (P:List α)(x y:α)(Q:List α){i j:Int}(hi:i=(P.length:Int))(hj:j=(P.length:Int)+1)(k:List α->Option β):
  (ab6 (ab6 (F0 (P++x::y::Q) i) fun u=>ab6 (F0 (P++x::y::Q) j) fun v=>ab6 (ak9 (P++x::y::Q) j u) fun l=>ab6 (F0 l i) fun _=>ab6 (ak9 l i v) fun l2=>some l2) k)=k (P++y::x::Q):=by
 have e:∀z w:α,P++z::w::Q=(P++[z])++w::Q:=fun z w=>by simp
 have hj2:∀z:α,j=((P++[z]).length:Int):=fun z=>by rw[aX7,cH0];omega
 have g1:F0 (P++x::y::Q) j=some y:=by rw[e];exact bS5 _ _ _ (hj2 x)
 have s1:ak9 (P++x::y::Q) j x=some (P++x::x::Q):=by rw[e,e];exact dz2 _ _ _ _ (hj2 x)
 rw[bS5 _ _ _ hi,ac0,g1,ac0,s1,ac0,bS5 _ _ _ hi,ac0,dz2 _ _ _ _ hi]
 rfl
end
section
variable {α:Type} {D:α -> Prop} {g:α -> α -> Option Int}
structure SW (D:α->Prop)(g:α->α->Option Int):Prop where
 ans:∀x y,D x->D y->∃c,g x y=some c
 asym:∀x y,D x->D y->ltM g x y=true->ltM g y x=false
 ntrans:∀x y z,D x->D y->D z->ltM g x y=false->ltM g y z=false->ltM g x z=false
theorem SW.cmp (h:SW D g){x y:α}(hx:D x)(hy:D y):∃c,g x y=some c/\decide (c<0)=ltM g x y:=by
 obtain⟨c,hc⟩:=h.ans x y hx hy
 exact⟨c,hc,by unfold ltM;rw[hc];rfl⟩
abbrev bN3 (D:α->Prop)(l:List α):Prop:=∀x∈l,D x
def eqv (g:α->α->Option Int)(x y:α):Bool:=!ltM g x y&& !ltM g y x
structure Sta (D:α->Prop)(g:α->α->Option Int)(l r:List α):Prop where
 perm:r.Perm l
 same:∀x,D x->r.filter (eqv g x)=l.filter (eqv g x)
abbrev Srt (g:α->α->Option Int)(l:List α):Prop:=l.Pairwise fun x y=>ltM g y x=false
theorem Sta.refl (l:List α):Sta D g l l:=⟨.refl _,fun _ _=>rfl⟩
theorem Sta.trans {l r s:List α}(h:Sta D g l r)(k:Sta D g r s):Sta D g l s:=⟨k.perm.trans h.perm,fun x hx=>(k.same x hx).trans (h.same x hx)⟩
theorem Sta.app {A A' B B':List α}(h:Sta D g A A')(k:Sta D g B B'):Sta D g (A++B) (A'++B'):=
 ⟨h.perm.append k.perm,fun x hx=>by rw[dR0,dR0,h.same x hx,k.same x hx]⟩
theorem Sta.len {l r:List α}(h:Sta D g l r):r.length=l.length:=h.perm.length_eq
theorem Sta.all {l r:List α}(h:Sta D g l r)(hl:bN3 D l):bN3 D r:=fun x hx=>hl x (h.perm.mem_iff.1 hx)
theorem Sta.swap (hs:SW D g){A B:List α}(hA:bN3 D A)(hB:bN3 D B)(h:∀a∈A,∀b∈B,ltM g b a=true):Sta D g (A++B) (B++A):=by
 refine⟨List.perm_append_comm,fun x hx=>?_⟩
 rw[dR0,dR0]
 by_cases he:∃a∈A,eqv g x a=true
 ·obtain⟨a,ha,hxa⟩:=he
  have:B.filter (eqv g x)=[]:=by
   rw[eB1]
   intro b hb hxb
   unfold eqv at hxa hxb
   simp only[au2,bZ6]at hxa hxb
   have:=hs.ntrans b x a (hB b hb) hx (hA a ha) hxb.2 hxa.1
   rw[h a ha b hb]at this
   cases this
  rw[this,cY1,dn6]
 ·have:A.filter (eqv g x)=[]:=by
   rw[eB1]
   intro a ha hxa
   exact he ⟨a,ha,hxa⟩
  rw[this,cY1,dn6]
theorem Srt.app {A B:List α}(hA:Srt g A)(hB:Srt g B)(h:∀a∈A,∀b∈B,ltM g b a=false):Srt g (A++B):=eV1.2 ⟨hA,hB,h⟩
theorem SW.irr (hs:SW D g){x:α}(hx:D x):ltM g x x=false:=by
 cases h:ltM g x x
 ·rfl
 ·have:=hs.asym x x hx hx h;rw[h]at this;cases this
theorem dX1 (hs:SW D g)(a:Int):∀(n:Nat) (R1:List α),R1.length=n->∀(P:List α) (x:α) (R2 Q:List α),a=(P.length:Int)->bN3 D R1->D x->bN3 D R2->Srt g (R1++R2)->(∀r∈R2,ltM g x r=true)->P.length+R1.length<=1073741824->
  ∃(j:Int) (R':List α),M0 (aj5 a g) ((P.length:Int)+(R1.length:Int),P++(R1++x::(R2++Q)))=some (.inl (j,P++(R'++Q)))/\Srt g R'/\Sta D g (R1++x::R2) R':=by
 intro n
 induction n with
 |zero=>
  intro R1 h1 P x R2 Q ha _ hx hR2 hsrt hlt hN
  have:R1=[]:=List.length_eq_zero_iff.1 h1
  subst this
  refine⟨(P.length:Int)+((0:Nat):Int),x::R2,F7 ?_,?_,Sta.refl _⟩
  ·unfold aj5
   simp only[cY9]
   rw[show decide ((P.length:Int)+((0:Nat):Int)>a)=false from fh7 (by omega)]
   rfl
  ·rw[Srt,ey1]
   exact⟨fun r hr=>hs.asym x r hx (hR2 r hr) (hlt r hr),by simpa using hsrt⟩
 |succ n ih=>
  intro R1 h1 P x R2 Q ha hR1 hx hR2 hsrt hlt hN
  have hne:R1≠[]:=by intro h;subst h;simp at h1
  obtain⟨S,y,rfl⟩:∃S y,R1=S++[y]:=⟨R1.dropLast,R1.getLast hne,(List.dropLast_concat_getLast hne).symm⟩
  rw[aX7,cH0]at h1 hN
  have hy:D y:=hR1 y (by simp)
  have hS:bN3 D S:=fun z hz=>hR1 z (by simp[hz])
  obtain⟨c,hc,hcl⟩:=hs.cmp hx hy
  have e1:P++(S++[y]++x::(R2++Q))=(P++S)++y::x::(R2++Q):=by simp
  have e2:P++(S++[y]++x::(R2++Q))=(P++S++[y])++x::(R2++Q):=by simp
  have hj:(P.length:Int)+(((S++[y]).length:Nat):Int)=(P.length:Int)+(S.length:Int)+1:=by rw[aX7,cH0];omega
  have hb:aj5 a g ((P.length:Int)+(((S++[y]).length:Nat):Int),P++(S++[y]++x::(R2++Q)))=some (bif ltM g x y then .inl ((P.length:Int)+(S.length:Int),P++(S++x::(y::R2++Q)))else .inr (.inl ((P.length:Int)+(S.length:Int)+1,P++(S++[y]++x::(R2++Q))))):=by
   unfold aj5
   simp only
   rw[hj,k6 (n:=(P.length:Int)+(S.length:Int)+1-1) (by omega) (by omega),show(P.length:Int)+(S.length:Int)+1-1=(P.length:Int)+(S.length:Int) by omega]
   rw[show decide ((P.length:Int)+(S.length:Int)+1>a)=true from fh6 (by omega)]
   have g1:F0 (P++(S++[y]++x::(R2++Q))) ((P.length:Int)+(S.length:Int)+1)=some x:=by rw[e2];exact bS5 _ _ _ (by simp only[aX7,cH0];omega)
   have g2:F0 (P++(S++[y]++x::(R2++Q))) ((P.length:Int)+(S.length:Int))=some y:=by rw[e1];exact bS5 _ _ _ (by simp only[aX7];omega)
   have sw:=fb8 (P++S) y x (R2++Q) (i:=(P.length:Int)+(S.length:Int)) (j:=(P.length:Int)+(S.length:Int)+1) (by simp only[aX7];omega) (by simp only[aX7];omega) (fun(f2:List α)=>some (Sum.inl ((P.length:Int)+(S.length:Int),f2):(Int×List α)⊕((Int×List α)⊕Empty)))
   rw[<-e1]at sw
   simp only[fh5]
   rw[sw,g1,ac0,g2,ac0,hc,ac0,hcl,ac0]
   cases ltM g x y
   ·rfl
   ·simp
  cases hxy:ltM g x y
  ·rw[hxy]at hb
   refine⟨(P.length:Int)+(S.length:Int)+1,S++[y]++x::R2,?_,?_,Sta.refl _⟩
   ·rw[F7 hb];simp
   ·have h2:=eV1.1 hsrt
    refine Srt.app h2.1 ?_ fun p hp q hq=>?_
    ·rw[Srt,ey1]
     exact⟨fun r hr=>hs.asym x r hx (hR2 r hr) (hlt r hr),h2.2.1⟩
    ·rcases cr6.1 hq with rfl|hq
     ·rcases do2.1 hp with hp|hp
      ·have h3:=(eV1.1 h2.1).2.2 p hp y (by simp)
       exact hs.ntrans q y p hx hy (hS p hp) hxy h3
      ·rw[List.mem_singleton]at hp;subst hp;exact hxy
     ·exact h2.2.2 p hp q hq
  ·rw[hxy]at hb
   rw[I5 hb]
   obtain⟨j,R',r1,r2,r3⟩:=ih S (by omega) P x (y::R2) Q ha hS hx (fun z hz=>by rcases cr6.1 hz with rfl|hz;exact hy;exact hR2 z hz) (by simpa using hsrt) (fun r hr=>by
    rcases cr6.1 hr with rfl|hr
    ·exact hxy
    ·exact hlt r hr) (by omega)
   refine⟨j,R',r1,r2,Sta.trans ?_ r3⟩
   have h4:Sta D g ([y]++[x]) ([x]++[y]):=Sta.swap hs (fun z hz=>by simp at hz;subst hz;exact hy) (fun z hz=>by simp at hz;subst hz;exact hx) (fun p hp q hq=>by simp at hp hq;subst hp;subst hq;exact hxy)
   have h5:=Sta.app (Sta.refl (D:=D) (g:=g) S) (Sta.app h4 (Sta.refl R2))
   simpa using h5
theorem dd3 (hs:SW D g)(a b:Int)(P Q:List α)(ha:a=(P.length:Int)):∀(T R:List α),b=(P.length:Int)+(R.length:Int)+(T.length:Int)->bN3 D R->bN3 D T->Srt g R->P.length+R.length+T.length<=1073741824->
  ∃R',M0 (ac2 a b g) ((P.length:Int)+(R.length:Int),P++(R++(T++Q)))=some (.inl (b,P++(R'++Q)))/\Srt g R'/\Sta D g (R++T) R'
 |[],R,hb,_,_,hR,_=>by
  refine⟨R,F7 ?_,hR,by rw[dn6];exact Sta.refl _⟩
  unfold ac2
  simp only[cY9]at hb
  simp only
  rw[show decide ((P.length:Int)+(R.length:Int)<b)=false from fh7 (by omega),show(P.length:Int)+(R.length:Int)=b by omega]
  simp
 |x::T,R,hb,dR,dT,hR,hN=>by
  simp only[bu6]at hb hN
  obtain⟨j,R1,r1,r2,r3⟩:=dX1 hs a R.length R rfl P x [] (T++Q) ha dR (dT x (bL5 ..)) (fun z hz=>by cases hz) (by rw[dn6];exact hR) (fun z hz=>by cases hz) (by omega)
  have hl:R1.length=R.length+1:=by have:=r3.len;simpa using this
  obtain⟨R',s1,s2,s3⟩:=dd3 hs a b P Q ha T R1 (by omega) (r3.all (fun z hz=>by
   rcases do2.1 hz with hz|hz
   ·exact dR z hz
   ·simp at hz;subst hz;exact dT z (by simp))) (fun z hz=>dT z (by simp[hz])) r2 (by omega)
  refine⟨R',?_,s2,Sta.trans ?_ s3⟩
  ·rw[<-s1]
   refine I5 ?_
   unfold ac2
   simp only
   rw[show decide ((P.length:Int)+(R.length:Int)<b)=true from fh6 (by omega),k6 (n:=(P.length:Int)+(R.length:Int)+1) (by omega) (by omega)]
   simp only[fh5]
   have e:P++(R++(x::T++Q))=P++(R++x::([]++(T++Q))):=by simp
   rw[e,r1]
   simp only[ac0]
   rw[hl,show(P.length:Int)+((R.length+1:Nat):Int)=(P.length:Int)+(R.length:Int)+1 by omega]
  ·have:=Sta.app r3 (Sta.refl (D:=D) (g:=g) T)
   simpa using this
theorem dk5 (hs:SW D g)(P A Q:List α){a b:Int}(ha:a=(P.length:Int))(hb:b=(P.length:Int)+(A.length:Int))(dA:bN3 D A)(hN:P.length+A.length<=1073741824):
  ∃R,aj0 (P++(A++Q)) a b g=some (P++(R++Q))/\Srt g R/\Sta D g A R:=by
 unfold aj0
 rw[k6 (n:=a+1) (by omega) (by omega)]
 cases A with
 |nil=>
  refine⟨[],?_,.nil,Sta.refl _⟩
  simp only[cY9]at hb
  have:ac2 a b g (a+1,P++([]++Q))=some (.inr (.inl (a+1,P++([]++Q)))):=by
   unfold ac2
   simp only
   rw[show decide (a+1<b)=false from fh7 (by omega)]
   rfl
  rw[F7 this];rfl
 |cons x T=>
  simp only[bu6]at hb hN
  obtain⟨R',s1,s2,s3⟩:=dd3 hs a b P Q ha T [x] (by simp only[cH0];omega) (fun z hz=>by simp at hz;subst hz;exact dA z (by simp)) (fun z hz=>dA z (by simp[hz])) (by simp) (by simp only[cH0];omega)
  refine⟨R',?_,s2,s3⟩
  simp only[cH0]at s1
  rw[show a+1=(P.length:Int)+((1:Nat):Int) by omega]
  have e:P++(x::T++Q)=P++([x]++(T++Q)):=by simp
  rw[e,s1]
  rfl
end
section
variable {α:Type} {D:α -> Prop} {g:α -> α -> Option Int}
end
section
variable {α:Type} {D:α -> Prop} {g:α -> α -> Option Int}
end
section
variable {α:Type} {D:α -> Prop} {g:α -> α -> Option Int}
structure fi8 (D:α->Prop)(g:α->α->Option Int)(bs:Nat)(L:List α)(Bs:List (List α))(T:List α):Prop where
 eq:L=Bs.flatten++T
 blk:∀B∈Bs,B.length=bs/\Srt g B
 rest:T.length<bs
theorem bX5 (hs:SW D g)(l:List α)(dl:bN3 D l)(h19:l.length<=19):∃r,aU6 l g=some r/\Srt g r/\Sta D g l r:=by
 obtain⟨R,r1,r2,r3⟩:=dk5 hs [] l [] (a:=0) (b:=(l.length:Int)) rfl (by simp) dl (by simp;omega)
 simp only[dn6,cY1]at r1
 unfold aU6 bp6
 have h1:decide ((20:Int)<=(l.length:Int))=false:=by simp;omega
 have h2:decide ((20:Int)<(l.length:Int))=false:=by simp;omega
 rw[F7 (b:=.inl (0,20,l)) (by unfold bb0;rw[h1];rfl)]
 simp only[ac0]
 rw[r1]
 simp only[ac0]
 rw[F7 (b:=.inl (20,R)) (by unfold bb1;rw[h2];rfl)]
 exact⟨R,rfl,r2,r3⟩
theorem dz7 (hs:SW D g):∀{r s:List α},bN3 D r->bN3 D s->Srt g r->Srt g s->(∀x,D x->r.filter (eqv g x)=s.filter (eqv g x))->r=s
 |[],[],_,_,_,_,_=>rfl
 |[],y::s,_,ds,_,_,h=>by
  have dy:=ds y (by simp)
  have:=h y dy
  rw[eK3,eb4 (by unfold eqv;rw[hs.irr dy];rfl)]at this
  cases this
 |x::r,[],dr,_,_,_,h=>by
  have dx:=dr x (by simp)
  have:=h x dx
  rw[eK3,eb4 (by unfold eqv;rw[hs.irr dx];rfl)]at this
  cases this
 |x::r,y::s,dr,ds,sr,ss,h=>by
  have dx:=dr x (by simp)
  have dy:=ds y (by simp)
  have exx:eqv g x x=true:=by unfold eqv;rw[hs.irr dx];rfl
  have eyy:eqv g y y=true:=by unfold eqv;rw[hs.irr dy];rfl
  rw[Srt,ey1]at sr ss
  have hx:=h x dx
  have hy:=h y dy
  have mx:x∈(y::s).filter (eqv g x):=by rw[<-hx,eb4 exx];exact bL5 ..
  have my:y∈(x::r).filter (eqv g y):=by rw[hy,eb4 eyy];exact bL5 ..
  have m1:=(dO7.1 mx).1
  have m2:=(dO7.1 my).1
  have exy:eqv g x y=true:=by
   have a1:ltM g x y=false:=by
    rcases cr6.1 m1 with e|m1
    ·rw[e];exact hs.irr dy
    ·exact ss.1 x m1
   have a2:ltM g y x=false:=by
    rcases cr6.1 m2 with e|m2
    ·rw[e];exact hs.irr dx
    ·exact sr.1 y m2
   unfold eqv;rw[a1,a2];rfl
  have hxy:x=y:=by
   rw[eb4 exx,eb4 exy]at hx
   exact(List.cons.inj hx).1
  subst hxy
  rw[dz7 hs (fun z hz=>dr z (by simp[hz])) (fun z hz=>ds z (by simp[hz])) sr.2 ss.2 fun z dz=>by
   have:=h z dz
   rw[ew7,ew7]at this
   split at this
   ·exact(List.cons.inj this).2
   ·exact this]
end
def elB (n:Int):Bool:=decide (n>= -1073741824)&&decide (n<=1073741824)
theorem cO2 (n:Int):ae0 n=some (elB n):=rfl
def axP (l:List Int)(i:Nat):Bool:=match l[i]?with
 |none=>false
 |some x=>elB x&&(i==0||(match l[i-1]?with|none=>false|some y=>decide (y<x)))
def axB (l:List Int):Bool:=!(decide ((l.length:Int)<2)||decide ((l.length:Int)>32))&&(ed5 0 l.length).all (axP l)
theorem ex2 (k:Nat)(h:k<1000000):o6 (((k+1:Nat):Int)-1)=(k:Int):=by rw[k6 (by omega) (by omega)];omega
theorem obs {α:Type}(o:Option α):(o.bind fun b=>some b)=o:=by cases o<;>rfl
theorem dU2 (l:List Int)(j:Nat)(hj:j<l.length)(hl:l.length<=32):
  (ab6 (F0 l j) fun x=>ab6 (ae0 x) fun v=>ab6 (bif (!v)then(some true)else(ab6 (bif (decide ((j:Int)>0))then(ab6 (F0 l (o6 (j-1))) fun x2=>some (decide (x<=x2)))else(some false)) fun b2=>some b2)) fun b3=>some b3)=some (!axP l j):=by
 rw[S0,aJ9 hj]
 simp only[ac0,cO2]
 unfold axP
 rw[aJ9 hj]
 simp only
 cases elB l[j]
 ·rfl
 ·simp only[aK4,fh3,cJ4]
  cases j with
  |zero=>rfl
  |succ k=>
   have e:decide (((k+1:Nat):Int)>0)=true:=by rw[fh8];omega
   have hk:k<l.length:=by omega
   rw[e,ex2 k (by omega),S0,aJ9 hk]
   simp only[fh5,ac0,fg2,aJ9 hk,aj7]
   rw[dJ4]
   simp
theorem dM2 (l:List Int):as7 l=some (axB l):=by
 unfold as7 axB
 cases h:(decide ((l.length:Int)<2)||decide ((l.length:Int)>32))
 ·have hl:l.length<=32:=by simp at h;omega
  have k:=bw9 (f:=az0 l) (p:=axP l) (r:=false) l.length 0 (fun j _ hj=>by
   have s:=dU2 l j (by omega) hl
   unfold az0
   rw[S0,aJ9 (by omega)]at s|-
   simp only[ac0,cO2]at s|-
   simp only[obs]at s|-
   rw[s]
   cases axP l j<;>rfl)
  rw[am7 _ (by omega)]
  rw[show((0:Nat):Int)=0 from rfl]at k
  rw[k]
  cases(ed5 0 l.length).all (axP l)<;>rfl
 ·rfl
theorem ed3 (z:Int):ai7 z=some (!elB z):=rfl
theorem contains_eq (l:List Int)(hn:l.length<=9223372036854775807):u7 l ai7=some (l.any fun z=>!elB z):=
 aj2 l hn ai7 _ (fun y _=>ed3 y)
def aI9 (m:SMap)(x:List Int):Bool:=!((x.length:Int) !=(m.Y.length:Int))&& !(x.any fun z=>!elB z)
def br7 (m:SMap):Bool:=axB m.X&&axB m.Y&& !((m.Z.length:Int) !=(m.X.length:Int))&&m.Z.all (aI9 m)
theorem cH3 {l:List Int}(h:axB l=true):2<=l.length/\l.length<=32:=by
 unfold axB at h
 simp at h
 omega
theorem ap4 (m:SMap):L0 m=some (br7 m):=by
 unfold L0 br7
 rw[dM2,dM2]
 simp only[ac0]
 cases h1:axB m.X
 ·rfl
 ·cases h2:axB m.Y
  ·rfl
  ·have l1:=cH3 h1
   have l2:=cH3 h2
   simp only[aK4,fh3,ac0,ed1,eY4,cJ4]
   cases h3:((m.Z.length:Int) !=(m.X.length:Int))
   ·have l3:m.Z.length=m.X.length:=by simp at h3;omega
    rw[M4 _ (by omega),bL7 (p:=aI9 m) (r:=false)]
    ·simp only[fh3,cI8,cJ4,ac0]
     cases m.Z.all (aI9 m)<;>rfl
    ·intro i y hy
     unfold aC4 aI9
     cases h4:((y.length:Int) !=(m.Y.length:Int))
     ·have l4:y.length=m.Y.length:=by simp at h4;omega
      rw[contains_eq y (by omega)]
      simp only[fh3,ac0,cI8,cJ4]
      cases(y.any fun z=>!elB z)<;>rfl
     ·rfl
   ·rfl
structure bA3 (l:List Int):Prop where
 two:2<=l.length
 most:l.length<=32
 el:∀i (h:i<l.length),-1073741824<=l[i]/\l[i]<=1073741824
 asc:∀i (h:i+1<l.length),l[i]<l[i+1]
theorem cH4 {l:List Int}(h:axB l=true):bA3 l:=by
 obtain⟨h2,h3⟩:=cH3 h
 unfold axB at h
 rw[au2,by6]at h
 have hp:∀i (hi:i<l.length),axP l i=true:=fun i hi=>h.2 i (by rw[eN1];exact⟨i,hi,by omega⟩)
 refine⟨h2,h3,fun i hi=>?_,fun i hi=>?_⟩
 ·have:=hp i hi
  unfold axP at this
  rw[aJ9 hi]at this
  simp[elB]at this
  omega
 ·have:=hp (i+1) hi
  unfold axP at this
  rw[aJ9 hi,fg2,aJ9 (by omega:i<l.length)]at this
  simp at this
  exact this.2
theorem bA3.lt {l:List Int}(h:bA3 l):∀(j i:Nat) (hj:j<l.length) (hi:i<j),l[i]<l[j]
 |0,_,_,hi=>absurd hi (by omega)
 |j+1,i,hj,hi=>by
  rcases dh0 i j with h1|h1
  ·exact Int.lt_trans (h.lt j i (by omega) h1) (h.asc j hj)
  ·have:i=j:=by omega
   subst this
   exact h.asc i hj
theorem bA3.le {l:List Int}(h:bA3 l)(j i:Nat)(hj:j<l.length)(hi:i<=j):l[i]<=l[j]:=by
 rcases dh0 i j with h1|h1
 ·exact Int.le_of_lt (h.lt j i hj h1)
 ·have:i=j:=by omega
  subst this
  exact dF5 _
def lim (l:List Int)(x:Int):Int:=min (max x (l.headD 0)) (l.getLastD 0)
theorem bE9 (l:List Int)(h:0<l.length):l.headD 0=l[0]:=by cases l with
 |nil=>simp at h
 |cons a l=>rfl
theorem bf5 (l:List Int)(h:0<l.length):l.getLastD 0=l[l.length-1]:=by
 cases l with
 |nil=>simp at h
 |cons a l=>rw[List.getLastD_cons,<-List.getLast_eq_getElem (List.cons_ne_nil a l),List.getLast_eq_getLastD]
theorem dH2 {l:List Int}(h:bA3 l)(x:Int):l.headD 0<=lim l x/\lim l x<=l.getLastD 0:=by
 have h2:=h.two
 have:=h.le (l.length-1) 0 (by omega) (by omega)
 unfold lim
 rw[bE9 l (by omega),bf5 l (by omega)]
 omega
def bm5 (l:List Int)(v:Int)(i:Nat):Prop:=∃h:i+1<l.length,l[i]<=v/\v<=l[i+1]/\(i+2=l.length\/v<l[i+1])
def nd (l:List Int)(i:Nat):Int:=l.getD i 0
def zz (m:SMap)(i j:Nat):Int:=(m.Z.getD i []).getD j 0
theorem P4 {l:List Int}{i:Nat}(h:i<l.length):nd l i=l[i]:=by unfold nd;rw[dj0,aJ9 h];rfl
theorem bV7 {m:SMap}{i j:Nat}(h:i<m.Z.length)(h2:j<m.Z[i].length):zz m i j=m.Z[i][j]:=by
 unfold zz
 have e:m.Z.getD i []=m.Z[i]:=by rw[dj0,aJ9 h];rfl
 rw[e,dj0,aJ9 h2];rfl
structure cZ4 (m:SMap):Prop where
 x:bA3 m.X
 y:bA3 m.Y
 zl:m.Z.length=m.X.length
 rl:∀i (h:i<m.Z.length),m.Z[i].length=m.Y.length
 el:∀i j,i<m.X.length->j<m.Y.length-> -1073741824<=zz m i j/\zz m i j<=1073741824
theorem ca6 {m:SMap}(h:br7 m=true):cZ4 m:=by
 unfold br7 at h
 simp only[au2,bZ6,by6]at h
 obtain⟨⟨⟨hx,hy⟩,hz⟩,hr⟩:=h
 have lz:m.Z.length=m.X.length:=by simp at hz;omega
 have len:∀r∈m.Z,r.length=m.Y.length/\∀z∈r,-1073741824<=z/\z<=1073741824:=by
  intro r hrm
  have:=hr r hrm
  unfold aI9 at this
  simp[elB]at this
  refine⟨by omega,fun z hz=>?_⟩
  have:=this.2 z hz
  omega
 refine⟨cH4 hx,cH4 hy,lz,fun i hi=>(len _ (bf2 hi)).1,fun i j hi hj=>?_⟩
 have hiz:i<m.Z.length:=by omega
 have:=len _ (bf2 hiz)
 have hj':j<m.Z[i].length:=by omega
 rw[bV7 hiz hj']
 exact this.2 _ (bf2 hj')
theorem dM1 {l:List Int}:axB l=true↔bA3 l:=by
 refine⟨cH4,fun h=>?_⟩
 have h2:=h.two
 have h3:=h.most
 unfold axB
 rw[au2,by6]
 refine⟨by simp;omega,fun i hi=>?_⟩
 rw[eN1]at hi
 obtain⟨j,hj,rfl⟩:=hi
 have hj':0+1*j=j:=by omega
 rw[hj']
 unfold axP
 rw[aJ9 hj]
 have e:=h.el j hj
 cases j with
 |zero=>simp[elB];omega
 |succ k=>
  have a:=h.asc k hj
  rw[fg2,aJ9 (by omega:k<l.length)]
  simp[elB];omega
theorem bc3 {a b:Bool}(h:a=true↔b=true):a=b:=dJ4.2 h
theorem ar0 (l:List Int)(hn:l.length<=9223372036854775807)(f:Int->Option Bool)(p:Int->Bool)(h:∀y∈l,f y=some (p y)):u7 l f=some (l.any p):=
 aj2 l hn f p h
theorem el0 (n:Int):aB9 n=some (!elB n):=by
 unfold aB9 elB
 rw[aj7,dJ4]
 simp only[cx1,bZ6,eZ6,fh8,fh9]
 omega
theorem ei1 (l:List Int):aM6 l=some (axB l):=by
 unfold aM6
 cases h:(decide ((l.length:Int)<2)||decide ((l.length:Int)>32))
 ·have hl:2<=l.length/\l.length<=32:=by simp at h;omega
  rw[fh3,ar0 l (by omega) aB9 _ (fun y _=>el0 y)]
  simp only[ac0]
  cases hf:(l.any fun n=>!elB n)
  ·have cm5:∀i (hi:i<l.length),-1073741824<=l[i]/\l[i]<=1073741824:=fun i hi=>by
    rw[dB8]at hf
    have:=hf _ (bf2 hi)
    simp[elB]at this
    omega
   have e:o6 ((l.length:Int)-1)=((l.length-1:Nat):Int):=by rw[k6 (by omega) (by omega)];omega
   have k:=bw9 (f:=aH8 l) (p:=fun j=>decide (nd l j<nd l (j+1))) (r:=false) (l.length-1) 0 (fun j _ hj=>by
    unfold aH8
    rw[k6 (by omega) (by omega),show(j:Int)+1=((j+1:Nat):Int)from rfl,E8 l j (by omega),ac0,E8 l (j+1) (by omega),ac0,P4 (by omega),P4 (by omega)]
    by_cases q:l[j]<l[j+1]
    ·rw[fh6 q,fh7 (by omega)];rfl
    ·rw[fh7 q,fh6 (by omega)];rfl)
   rw[show((0:Nat):Int)=0 from rfl]at k
   rw[fh3,e,am7 _ (by omega),k]
   have:((ed5 0 (l.length-1)).all fun j=>decide (nd l j<nd l (j+1)))=axB l:=by
    apply bc3
    rw[dM1,by6]
    constructor
    ·intro q
     refine⟨hl.1,hl.2,cm5,fun i hi=>?_⟩
     have:=q i (by rw[eN1];exact⟨i,by omega,by omega⟩)
     rw[fh8,P4 (by omega),P4 hi]at this
     exact this
    ·intro q i hi
     rw[eN1]at hi
     obtain⟨j,hj,rfl⟩:=hi
     rw[show 0+1*j=j by omega,fh8,P4 (by omega),P4 (by omega)]
     exact q.asc j (by omega)
   rw[this]
   cases axB l<;>rfl
  ·have:axB l=false:=by
    cases q:axB l
    ·rfl
    ·have:=(dM1.1 q).el
     rw[List.any_eq_true]at hf
     obtain⟨z,hz,hz2⟩:=hf
     obtain⟨i,hi,rfl⟩:=da7.1 hz
     have:=this i hi
     simp[elB]at hz2
     omega
   rw[this]
   rfl
 ·unfold axB
  rw[h]
  rfl
def bx9 (c:A7):Bool:=((c.X.length:Int)==(c.Y.length:Int))&&axB c.X&& !(c.Y.any fun n=>!elB n)
theorem ar2 (c:A7):R9 c=some (bx9 c):=by
 unfold R9 bx9
 cases h:((c.X.length:Int)==(c.Y.length:Int))
 ·rfl
 ·rw[fh5,ei1]
  simp only[ac0,cJ4]
  cases h2:axB c.X
  ·rfl
  ·have:=cH3 h2
   have hl:c.Y.length=c.X.length:=by simp at h;omega
   rw[fh5,ar0 c.Y (by omega) aB9 _ (fun y _=>el0 y)]
   rfl
structure dL5 (c:A7):Prop where
 x:bA3 c.X
 yl:c.Y.length=c.X.length
 el:∀i,i<c.X.length-> -1073741824<=nd c.Y i/\nd c.Y i<=1073741824
theorem bn2 {c:A7}(h:bx9 c=true):dL5 c:=by
 unfold bx9 at h
 simp only[au2,bZ6,dB8]at h
 obtain⟨⟨h1,h2⟩,h3⟩:=h
 have hl:c.Y.length=c.X.length:=by simp at h1;omega
 refine⟨cH4 h2,hl,fun i hi=>?_⟩
 rw[P4 (by omega)]
 have:=h3 _ (bf2 (by omega:i<c.Y.length))
 simp[elB]at this
 omega
theorem cN8 {mb:Int->Option (Int⊕(Int⊕Bool))}(bad:Nat->Bool):∀(k:Nat),(∀i:Nat,i<k->mb ((i+1:Nat):Int)=some (bif bad i then .inr (.inr false)else .inl (i:Int)))->(∀i:Int,i<=0->mb i=some (.inr (.inl i)))->
  ∃t:Int⊕Bool,M0 mb (k:Int)=some t/\(match t with| .inl _=>∀i,i<k->bad i=false| .inr r=>r=false/\∃i,i<k/\bad i=true)
 |0,_,h0=>⟨.inl 0,F7 (h0 0 (dF5 _)),fun i hi=>absurd hi (by omega)⟩
 |k+1,h,h0=>by
  have h1:=h k (by omega)
  cases hb:bad k
  ·rw[hb]at h1
   obtain⟨t,a,b⟩:=cN8 bad k (fun i hi=>h i (by omega)) h0
   refine⟨t,by rw[I5 h1];exact a,?_⟩
   cases t with
   |inl i=>
    exact fun i hi=>by
     rcases dh0 i k with q|q
     ·exact b i q
     ·have:i=k:=by omega
      subst this;exact hb
   |inr r=>exact⟨b.1,b.2.imp fun i hi=>⟨by omega,hi.2⟩⟩
  ·rw[hb]at h1
   exact⟨.inr false,F7 h1,rfl,k,by omega,hb⟩
def cD7 (l:List Int):Bool:=(ed5 0 (l.length-1)).all fun j=>decide (nd l j<=nd l (j+1))
def cA2 (l:List Int):Bool:=(ed5 0 (l.length-1)).all fun j=>decide (nd l (j+1)<=nd l j)
theorem bk2 {n:Nat}{p:Nat->Bool}:(ed5 0 n).all p=true↔∀i,i<n->p i=true:=by
 rw[by6]
 constructor
 ·exact fun h i hi=>h i (by rw[eN1];exact⟨i,hi,by omega⟩)
 ·intro h i hi
  rw[eN1]at hi
  obtain⟨j,hj,rfl⟩:=hi
  rw[show 0+1*j=j by omega]
  exact h j hj
theorem cS7 {l:List Int}(h:l.length<=9223372036854775807)(h0:0<l.length):o6 ((l.length:Int)-1)=((l.length-1:Nat):Int):=by rw[k6 (by omega) (by omega)];omega
theorem cB5 (l:List Int)(h:l.length<=9223372036854775807):S3 l=some (cD7 l):=by
 have h0:∀i:Int,i<=0->T1 l i=some (.inr (.inl i)):=fun i hi=>by
  unfold T1
  rw[fh7 (by omega)];rfl
 unfold S3
 rcases dS1 l.length with hz|hz
 ·have e:o6 ((l.length:Int)-1)= -1:=by rw[hz];decide
  rw[e,F7 (h0 (-1) (by omega))]
  unfold cD7
  rw[hz];rfl
 ·rw[cS7 h hz]
  obtain⟨t,a,b⟩:=cN8 (mb:=T1 l) (fun i=>decide (nd l (i+1)<nd l i)) (l.length-1) (fun i hi=>by
   unfold T1
   rw[fh6 (by omega),fh5,E8 l (i+1) (by omega),ac0,k6 (by omega) (by omega),show((i+1:Nat):Int)-1=(i:Int) by omega,E8 l i (by omega),ac0,P4 (by omega),P4 (by omega)]
   have e:cmp_Less_int l[i+1] l[i]=some (decide (l[i+1]<l[i])):=by
    unfold cmp_Less_int cmp_isNaN_int
    simp
   rw[e,ac0]
   cases decide (l[i+1]<l[i])<;>rfl) h0
  rw[a]
  cases t with
  |inl i=>
   have:cD7 l=true:=bk2.2 fun i hi=>by
    have:=b i hi
    rw[fh9]at this
    rw[fh8];omega
   rw[this];rfl
  |inr r=>
   obtain⟨rfl,i,hi,q⟩:=b
   have:cD7 l=false:=by
    cases z:cD7 l
    ·rfl
    ·have:=bk2.1 z i hi
     rw[fh8]at this q
     omega
   rw[this];rfl
theorem dd4 (l:List Int)(h:l.length<=9223372036854775807)(hb:∀i,i<l.length-> -1073741824<=nd l i/\nd l i<=1073741824):J5 l ae1=some (cA2 l):=by
 have h0:∀i:Int,i<=0->N7 l ae1 i=some (.inr (.inl i)):=fun i hi=>by
  unfold N7
  rw[fh7 (by omega)];rfl
 unfold J5
 rcases dS1 l.length with hz|hz
 ·have e:o6 ((l.length:Int)-1)= -1:=by rw[hz];decide
  rw[e,F7 (h0 (-1) (by omega))]
  unfold cA2
  rw[hz];rfl
 ·rw[cS7 h hz]
  obtain⟨t,a,b⟩:=cN8 (mb:=N7 l ae1) (fun i=>decide (nd l i<nd l (i+1))) (l.length-1) (fun i hi=>by
   unfold N7
   rw[fh6 (by omega),fh5,E8 l (i+1) (by omega),ac0,k6 (by omega) (by omega),show((i+1:Nat):Int)-1=(i:Int) by omega,E8 l i (by omega),ac0,<-P4 (by omega),<-P4 (by omega)]
   have b1:=hb i (by omega)
   have b2:=hb (i+1) (by omega)
   have e:ae1 (nd l (i+1)) (nd l i)=some (nd l i-nd l (i+1)):=by
    unfold ae1
    rw[k6 (by omega) (by omega)]
   rw[e,ac0]
   by_cases q:nd l i<nd l (i+1)
   ·rw[fh6 q,fh6 (by omega)];rfl
   ·rw[fh7 q,fh7 (by omega)];rfl) h0
  rw[a]
  cases t with
  |inl i=>
   have:cA2 l=true:=bk2.2 fun i hi=>by
    have:=b i hi
    rw[fh9]at this
    rw[fh8];omega
   rw[this];rfl
  |inr r=>
   obtain⟨rfl,i,hi,q⟩:=b
   have:cA2 l=false:=by
    cases z:cA2 l
    ·rfl
    ·have:=bk2.1 z i hi
     rw[fh8]at this q
     omega
   rw[this];rfl
def inR (lo hi x:Int):Bool:=decide (x>=lo)&&decide (x<=hi)
theorem cS0 (l:List Int)(h:l.length<=9223372036854775807)(lo hi:Int):ai2 l lo hi=some (!l.all (inR lo hi)):=by
 unfold ai2
 rw[ar0 l h (fun x0=>ap3 x0 lo hi) (fun x=>!inR lo hi x) (fun y _=>rfl)]
 have:(l.any fun x=>!inR lo hi x)= !l.all (inR lo hi):=by rw[dZ2];simp
 rw[this];rfl
def bc0 (t:p6):Bool:=br7 t.j9&&bx9 t.u6&&t.u6.Y.all (inR 0 1000)&&cA2 t.u6.Y&&t.j9.Z.all fun r=>r.all (inR 0 10000)&&cD7 r
theorem bq1 (t:p6):aj3 t=some (bc0 t):=by
 unfold aj3 bc0
 rw[ap4]
 cases h1:br7 t.j9
 ·rfl
 ·have hm:=ca6 h1
  simp only[ac0,aK4,fh3,cJ4,ar2]
  cases h2:bx9 t.u6
  ·rfl
  ·have hc:=bn2 h2
   have l1:=hc.x.most
   have l2:=hc.yl
   simp only[aK4,fh3,cJ4]
   rw[cS0 _ (by omega)]
   cases h3:t.u6.Y.all (inR 0 1000)
   ·rfl
   ·simp only[ac0,aK4,fh3,cJ4]
    rw[dd4 _ (by omega) (fun i hi=>hc.el i (by omega))]
    cases h4:cA2 t.u6.Y
    ·rfl
    ·simp only[ac0,aK4,fh3,cJ4]
     have k:H2 t.j9.Z am1=some (t.j9.Z.any fun r=>!(r.all (inR 0 10000)&&cD7 r)):=
      aj2 t.j9.Z (by have:=hm.zl;have:=hm.x.most;omega) am1 _ (fun r hr=>by
       obtain⟨i,hi,rfl⟩:=da7.1 hr
       have lr:t.j9.Z[i].length<=32:=by rw[hm.rl i hi];exact hm.y.most
       unfold am1
       rw[cS0 _ (by omega),ac0,cB5 _ (by omega)]
       cases t.j9.Z[i].all (inR 0 10000)<;>cases cD7 t.j9.Z[i]<;>rfl)
     rw[k,ac0,dZ2]
     simp
theorem dD6 {l : List Int} (h : cD7 l = true) : ∀ (j i : Nat), i <= j -> j < l.length -> nd l i <= nd l j
  | 0, i, hi, _ => by have : i = 0 := by omega
                      subst this; exact dF5 _
  | j + 1, i, hi, hj => by
    rcases dh0 i (j + 1) with q | q
    · have a := dD6 h j i (by omega) (by omega)
      have b := bk2.1 h j (by omega)
      rw [fh8] at b
      omega
    · have : i = j + 1 := by omega
      subst this; exact dF5 _
def cJ9 (r:List Int):Bool:=r.all (inR 0 1048576)&&cD7 r
def cW4 (t:p6):Bool:=br7 t.Air&&bx9 t.C6&&t.Air.Z.all cJ9&&t.C6.Y.all (inR 100 3000)
theorem ag6 (x lo hi:Int):K3 x lo hi=some (inR lo hi x):=rfl
theorem dp1 {r:List Int}(h0:0<r.length)(ha:cD7 r=true):(inR 0 1048576 (nd r 0)&&inR 0 1048576 (nd r (r.length-1)))=r.all (inR 0 1048576):=by
 apply bc3
 rw[au2,by6]
 unfold inR
 constructor
 ·rintro⟨a,b⟩ x hx
  obtain⟨i,hi,rfl⟩:=da7.1 hx
  have u:=dD6 ha i 0 (by omega) hi
  have v:=dD6 ha (r.length-1) i (by omega) (by omega)
  rw[P4 hi]at u v
  rw[au2,fh8,fh8]at*
  omega
 ·intro h
  rw[P4 h0,P4 (by omega:r.length-1<r.length)]
  exact⟨h _ (bf2 _),h _ (bf2 _)⟩
theorem bH2 (t:p6):aB6 t=some (cW4 t):=by
 unfold aB6 cW4
 rw[ap4]
 cases h1:br7 t.Air
 ·rfl
 ·have hm:=ca6 h1
  simp only[ac0,aK4,fh3,cJ4,ar2]
  cases h2:bx9 t.C6
  ·rfl
  ·have hc:=bn2 h2
   have l1:=hc.x.most
   have l2:=hc.yl
   have zl:=hm.zl
   have xm:=hm.x.most
   have ym:=hm.y.most
   have y2:=hm.y.two
   simp only[aK4,fh3,cJ4]
   rw[M4 _ (by omega),bL7 (p:=cJ9) (r:=false)]
   ·cases h3:t.Air.Z.all cJ9
    ·rfl
    ·rw[fh5,ac0]
     simp only
     rw[ar0 _ (by omega) aK9 (fun y=>!inR 100 3000 y) (fun y _=>rfl),ac0,dZ2,eK8]
     simp only[eK8,cJ4]
   ·intro i r hr
    obtain⟨k,hk,rfl⟩:=da7.1 hr
    have rl:=hm.rl k hk
    unfold aT5 cJ9
    rw[cB5 _ (by omega),ac0]
    cases h4:cD7 t.Air.Z[k]
    ·rw[fe7];rfl
    ·have g0:F0 t.Air.Z[k] 0=some (t.Air.Z[k][0]'(by omega)):=E8 _ 0 (by omega)
     rw[aK4,fh3,eY4,g0,cS7 (by omega) (by omega),E8 _ _ (by omega:t.Air.Z[k].length-1<t.Air.Z[k].length),<-P4,<-P4,<-dp1 (by omega) h4]
     simp only[ac0,ag6]
     cases inR 0 1048576 (nd t.Air.Z[k] 0)<;>cases inR 0 1048576 (nd t.Air.Z[k] (t.Air.Z[k].length-1))<;>rfl
def bL4 (t:p6):Bool:=br7 t.D9&&bx9 t.L2&&(t.D9.Z.all fun r=>r.all (inR (-1280) 3840))&&t.L2.Y.all (inR 500 10000)
def cB0 (g:ak0):Bool:=((((((decide (g.P>=0))&&(decide (g.P<=65536)))&&(decide (g.I>=0)))&&(decide (g.I<=65536)))&&(decide (g.Low>=(-1073741824))))&&(decide (g.Low<=g.aC5)))&&(decide (g.aC5<=1073741824))
def cl9 (t:p6):Bool:=cW4 t&&bL4 t&&bc0 t&&(bx9 t.V6&&t.V6.Y.all (inR 0 10000))&&br7 t.R6&&cB0 t.G6
theorem be7 (l:List Int)(h:l.length<=9223372036854775807)(lo hi:Int):ag9 l lo hi=some (l.all (inR lo hi)):=by
 unfold ag9
 rw[ar0 l h (fun x0=>aA6 x0 lo hi) (fun x=>!inR lo hi x) (fun y _=>rfl),ac0,dZ2,eK8]
 simp only[eK8]
theorem bi7 (t:p6):ae2 t=some (cl9 t):=by
 unfold ae2 cl9 bL4
 rw[bH2,bq1,ap4,ap4,ar2,ar2,show T0 t.G6=some (cB0 t.G6)from rfl]
 simp only[ac0]
 cases cW4 t
 ·rfl
 cases bc0 t
 ·simp only[aK4,cI8,fh3,fh5,ac0,fe7,ez8]
 cases h1:br7 t.D9
 ·rfl
 cases br7 t.R6
 ·simp only[aK4,cI8,fh3,fh5,ac0,fe7,ez8]
 cases h2:bx9 t.L2
 ·rfl
 cases h3:bx9 t.V6
 ·simp only[aK4,cI8,fh3,fh5,ac0,fe7,ez8]
 have hm:=ca6 h1
 have zl:=hm.zl
 have xm:=hm.x.most
 have ym:=hm.y.most
 have a1:=(bn2 h2).x.most
 have a2:=(bn2 h2).yl
 have b1:=(bn2 h3).x.most
 have b2:=(bn2 h3).yl
 simp only[aK4,fh3,ac0,cJ4,eY4]
 rw[M4 _ (by omega),bL7 (p:=fun r=>r.all (inR (-1280) 3840)) (r:=false)]
 ·rw[be7 _ (by omega),be7 _ (by omega)]
  cases t.D9.Z.all fun r=>r.all (inR (-1280) 3840)
  ·rfl
  ·cases t.L2.Y.all (inR 500 10000)<;>cases t.V6.Y.all (inR 0 10000)<;>rfl
 ·intro i r hr
  obtain⟨k,hk,rfl⟩:=da7.1 hr
  have rl:=hm.rl k hk
  unfold aB8
  rw[be7 _ (by omega),ac0]
  cases t.D9.Z[k].all (inR (-1280) 3840)<;>rfl
theorem dH6 (v:Bool)(q q':Int)(f:Int->Option (Int×Int))(h:(bif v then some (aK3.wrap (q+1))else some q)=some q')(h0:0<=q')(h1:q'<9223372036854775808):
  (ab6 (some v) fun v4=>ab6 (bif v4 then(some (aK3.wrap (q+1)))else(some q)) fun(q:Int)=>bif (false&&(decide (q<=9223372036854775808)))then f q else(bif ((!false)&&(decide (q<9223372036854775808)))then(some (o6 q,0))else(some (0,9))))=some (q',0):=by
 have e:decide (q'<9223372036854775808)=true:=fh6 h1
 rw[ac0,h,ac0,ez8,fh3,cI8,cJ4,e,fh5,k6 (by omega) (by omega)]
theorem bL9 {n:Int}(h0:0<=n)(h1:n<18446744073709551616):aK3.wrap n=n:=by
 unfold IntKind.wrap
 simp only[IntKind.bits,IntKind.signed]
 simp only[show(2:Int)^64=18446744073709551616 from rfl,ez8,do8,if_false]
 omega
theorem aD0 (x lo hi:Int):D7 x lo hi=some (J1 (K2 x lo) hi):=rfl
theorem bK2 (n:Int)(h0: -9223372036854775808<=n)(h1:n<=9223372036854775807):X8 n=some (n.natAbs:Int):=by
 unfold X8
 by_cases h:n<0
 ·simp only[h,decide_true,fh5,aj7]
  rw[k6 (n:=n+1) (by omega) (by omega),k6 (n:=0-(n+1)) (by omega) (by omega),bL9 (n:=0-(n+1)) (by omega) (by omega),bL9 (by omega) (by omega)]
  omega
 ·simp only[h,decide_false,fh3,aj7]
  rw[bL9 (by omega) (by omega)]
  omega
theorem ek1 (lo y:Nat)(h0:lo<18446744073709551616)(h1:0<y):am5 0 lo y=some (((lo/y:Nat):Int),((lo%y:Nat):Int)):=by
 unfold am5
 have e1:((y:Int)==0)=false:=by
  have:¬(y:Int)=0:=by omega
  simpa using this
 have e2:decide ((y:Int)<=0)=false:=by simp;omega
 have e3:¬(y:Int)=0:=by omega
 simp only[e1,e2,fh3,ac0,bo2,cg7,if_neg e3]
 have q1:(lo:Int).tdiv y=((lo/y:Nat):Int):=rfl
 have q2:(lo:Int).tmod y=((lo%y:Nat):Int):=rfl
 have q3:lo/y<=lo:=Nat.div_le_self _ _
 rw[q1,q2]
 generalize lo/y=q at q3|-
 rw[bL9 (by omega) (by omega),show((0:Int)==0)=true from rfl,fh5]
theorem bX1 (a c mode:Int)(ha0: -9223372036854775808<=a)(ha1:a<=9223372036854775807)(hc0:0<c)(hc1:c<=9223372036854775807)(hm:mode=1\/mode=2):
  az5 a 1 c mode=some (if mode=1 then a/c else -((-a)/c),0):=by
 unfold az5
 have m1:((decide (mode<1))||(decide (mode>3)))=false:=by
  rcases hm with rfl|rfl<;>rfl
 have c0:(c==0)=false:=by
  have:¬c=0:=by omega
  simpa using this
 rw[m1,c0,bK2 a ha0 ha1,bK2 1 (by omega) (by omega),bK2 c (by omega) hc1]
 obtain⟨m,hm'⟩:∃m:Nat,a.natAbs=m:=⟨_,rfl⟩
 obtain⟨k,rfl⟩:∃k:Nat,c=k:=⟨c.toNat,by omega⟩
 have hk:0<k:=by omega
 have hml:m<=9223372036854775808:=by omega
 rw[hm']
 simp only[fh3,ac0,at9,cw6]
 rw[if_pos (by omega)]
 simp only[ac0]
 have e1:(m:Int)*((fg4 1:Nat):Int)/18446744073709551616=0:=by
  have:((fg4 1:Nat):Int)=1:=rfl
  rw[this];omega
 have e2:(m:Int)*((fg4 1:Nat):Int)%18446744073709551616=(m:Int):=by
  have:((fg4 1:Nat):Int)=1:=rfl
  rw[this];omega
 have e3:(((fg4 (k:Int)):Nat):Int)=(k:Int):=by omega
 have e4:decide ((0:Int)>=(k:Int))=false:=fh7 (by omega)
 rw[e1,e2,e3,e4,show(0:Int)=0 from rfl,ek1 m k (by omega) hk]
 have q1:m/k<=m:=Nat.div_le_self _ _
 have q2:m%k<k:=Nat.mod_lt _ hk
 have q3:k*(m/k)+m%k=m:=Nat.div_add_mod m k
 generalize m/k=q at q1 q3|-
 generalize m%k=r at q2 q3|-
 have q4:(m:Int)=(q:Int)*(k:Int)+(r:Int):=by rw[<-q3,Int.natCast_add,Int.natCast_mul,Int.mul_comm]
 have hqk:r=0->0<m->0<q:=fun h0 h1=>by
  rcases dS1 q with h|h
  ·rw[h,h0]at q3;omega
  ·exact h
 have hql:0<r->q<9223372036854775808:=fun h0=>by
  rcases dh0 q 9223372036854775808 with h|h
  ·exact h
  ·have:k*q>=1*9223372036854775808:=Nat.mul_le_mul (by omega) h
   omega
 have hql2:0<r->m<=9223372036854775807->q<9223372036854775807:=fun h0 h1=>by
  rcases dh0 q 9223372036854775807 with h|h
  ·exact h
  ·have:k*q>=1*9223372036854775807:=Nat.mul_le_mul (by omega) h
   omega
 have e5:decide ((q:Int)>9223372036854775808)=false:=fh7 (by omega)
 simp only[fh3,ac0,e5]
 have d1:decide ((1:Int)<0)=false:=rfl
 have d2:decide ((k:Int)<0)=false:=fh7 (by omega)
 rw[d1,d2]
 have fl0:(m:Int)/(k:Int)=(q:Int):=by
  rw[q4,Int.add_comm,Int.add_mul_ediv_right _ _ (by omega),Int.ediv_eq_zero_of_lt (by omega) (by omega)];omega
 have fl1:(-(m:Int))/(k:Int)=if r=0 then -(q:Int)else -(q:Int)-1:=by
  split
  ·rename_i h
   have:-(m:Int)=(-(q:Int))*(k:Int):=by rw[q4,Int.neg_mul,h];omega
   rw[this,Int.mul_ediv_cancel _ (by omega)]
  ·rename_i h
   have e:-(m:Int)=((k:Int)-(r:Int))+(-(q:Int)-1)*(k:Int):=by
    rw[q4,Int.sub_mul,Int.neg_mul];omega
   rw[e,Int.add_mul_ediv_right _ _ (by omega),Int.ediv_eq_zero_of_lt (by omega) (by omega)];omega
 clear q3 q4
 by_cases hn:a<0
 ·have ha:a= -(m:Int):=by omega
  have e6:decide (a<0)=true:=fh6 hn
  have n1:(!(!true==false)==false)=true:=by decide
  rw[e6,n1]
  rcases hm with rfl|rfl
  · --down,of a negative number
   have r1:al3 (r:Int) (k:Int) true 1=some (decide ((r:Int)>0)):=rfl
   rw[if_pos rfl,ha,fl1,r1]
   by_cases hr:r=0
   ·have r2:decide ((r:Int)>0)=false:=fh7 (by omega)
    have bJ7:=hqk hr (by omega)
    have r3:decide ((q:Int)<=9223372036854775808)=true:=fh6 (by omega)
    rw[if_pos hr,r2]
    simp only[ac0,fh3,r3]
    rw[bL9 (n:=(q:Int)-1) (by omega) (by omega),k6 (n:=(q:Int)-1) (by omega) (by omega),k6 (n:=0-((q:Int)-1)) (by omega) (by omega),k6 (n:=0-((q:Int)-1)-1) (by omega) (by omega)]
    simp only[cJ4,fh5,aK4,ez8,fh3]
    rw[show 0-((q:Int)-1)-1= -(q:Int) by omega]
   ·have r2:decide ((r:Int)>0)=true:=fh6 (by omega)
    have hlt:=hql (by omega)
    have r3:decide ((q:Int)+1<=9223372036854775808)=true:=fh6 (by omega)
    rw[if_neg hr,r2]
    simp only[ac0,fh5]
    rw[bL9 (n:=(q:Int)+1) (by omega) (by omega),r3,show(q:Int)+1-1=q by omega]
    rw[bL9 (n:=(q:Int)) (by omega) (by omega),k6 (n:=(q:Int)) (by omega) (by omega),k6 (n:=0-(q:Int)) (by omega) (by omega),k6 (n:=0-(q:Int)-1) (by omega) (by omega)]
    simp only[cJ4,fh5,aK4,ez8,fh3]
    rw[show 0-(q:Int)-1= -(q:Int)-1 by omega]
  · --up,of a negative number
   have r1:al3 (r:Int) (k:Int) true 2=some false:=rfl
   rw[if_neg (by decide),ha,Int.neg_neg,fl0,r1]
   have r3:decide ((q:Int)<=9223372036854775808)=true:=fh6 (by omega)
   simp only[ac0,fh3,r3]
   rcases dS1 q with hz|hz
   ·have w1:aK3.wrap (((0:Nat):Int)-1)=18446744073709551615:=by decide
    have w2:o6 18446744073709551615= -1:=by decide
    have w3:o6 (0- -1)=1:=by decide
    have w4:o6 (1-1)=0:=by decide
    rw[hz,w1,w2,w3,w4]
    rfl
   ·rw[bL9 (n:=(q:Int)-1) (by omega) (by omega),k6 (n:=(q:Int)-1) (by omega) (by omega),k6 (n:=0-((q:Int)-1)) (by omega) (by omega),k6 (n:=0-((q:Int)-1)-1) (by omega) (by omega)]
    simp only[cJ4,fh5,aK4,ez8,fh3]
    rw[show 0-((q:Int)-1)-1= -(q:Int) by omega]
 ·have ha:a=(m:Int):=by omega
  have e6:decide (a<0)=false:=fh7 hn
  have n1:(!(!false==false)==false)=false:=by decide
  rw[e6,n1]
  rcases hm with rfl|rfl
  ·have r1:al3 (r:Int) (k:Int) false 1=some false:=rfl
   rw[if_pos rfl,ha,fl0,r1]
   exact dH6 false q q _ rfl (by omega) (by omega)
  ·have r1:al3 (r:Int) (k:Int) false 2=some (decide ((r:Int)>0)):=rfl
   rw[if_neg (by decide),ha,fl1,r1]
   by_cases hr:r=0
   ·have r2:decide ((r:Int)>0)=false:=fh7 (by omega)
    rw[if_pos hr,r2,Int.neg_neg]
    exact dH6 false q q _ rfl (by omega) (by omega)
   ·have r2:decide ((r:Int)>0)=true:=fh6 (by omega)
    have hlt:=hql2 (by omega) (by omega)
    rw[if_neg hr,r2,show -(-(q:Int)-1)=(q:Int)+1 by omega]
    exact dH6 true q (q+1) _ (by rw[fh5,bL9 (by omega) (by omega)]) (by omega) (by omega)
theorem bR9 (a c:Int)(ha0: -9223372036854775808<=a)(ha1:a<=9223372036854775807)(hc0:0<c)(hc1:c<=9223372036854775807):Y3 a c=some (a/c):=by
 unfold Y3 ao2
 rw[bX1 a c 1 ha0 ha1 hc0 hc1 (.inl rfl)]
 rfl
theorem aS5 (n:Nat)(hn:n<=2305843009213693951)(f:Int->Option Bool)(p:Nat->Bool)(hf:∀i,i<n->f (i:Int)=some (p i)):
  ∃k:Nat,k<=n/\S7 (n:Int) f=some (k:Int)/\(0<k->p (k-1)=false)/\(k<n->p k=true):=by
 have key:∀(m i j:Nat),j-i<=m->i<=j->j<=n->(0<i->p (i-1)=false)->(j<n->p j=true)->
   ∃k:Nat,k<=n/\M0 (ad8 f) ((i:Int),(j:Int))=some (.inl ((k:Int),(k:Int)))/\(0<k->p (k-1)=false)/\(k<n->p k=true):=by
  intro m
  induction m with
  |zero=>
   intro i j hm hij hjn h1 h2
   have:i=j:=by omega
   subst this
   refine⟨i,hjn,F7 ?_,h1,h2⟩
   unfold ad8
   rw[show decide (((i:Int),(i:Int)).1<((i:Int),(i:Int)).2)=false from fh7 (by simp)]
   rfl
  |succ m ih=>
   intro i j hm hij hjn h1 h2
   rcases dh0 i j with hlt|hge
   ·have hh:o6 (F1 .u64 (aK3.wrap (o6 ((i:Int)+(j:Int)))) 1)=(((i+j)/2:Nat):Int):=by
     rw[eC4 (by omega) (by omega)];omega
    have hi:(i+j)/2<n:=by omega
    have hb:ad8 f ((i:Int),(j:Int))=some (bif p ((i+j)/2)then .inl ((i:Int),(((i+j)/2:Nat):Int))else .inl ((((i+j)/2+1:Nat):Int),(j:Int))):=by
     unfold ad8
     rw[show decide (((i:Int),(j:Int)).1<((i:Int),(j:Int)).2)=true from fh6 (by show(i:Int)<(j:Int);omega)]
     simp only[fh5,hh,hf _ hi,ac0]
     cases p ((i+j)/2)
     ·simp only[cI8,fh5,fh3]
      rw[k6 (by omega) (by omega)];rfl
     ·rfl
    cases hp:p ((i+j)/2)
    ·rw[hp]at hb
     rw[I5 hb]
     exact ih ((i+j)/2+1) j (by omega) (by omega) hjn (fun _=>by simpa using hp) h2
    ·rw[hp]at hb
     rw[I5 hb]
     exact ih i ((i+j)/2) (by omega) (by omega) (by omega) h1 (fun _=>hp)
   ·have:i=j:=by omega
    subst this
    exact ih i i (by omega) (cB6 _) hjn h1 h2
 obtain⟨k,a,b,c,d⟩:=key n 0 n (by omega) (Nat.zero_le _) (cB6 _) (fun h=>absurd h (by omega)) (fun h=>absurd h (by omega))
 refine⟨k,a,?_,c,d⟩
 unfold S7
 rw[show((0:Nat):Int)=0 from rfl]at b
 rw[b]
 rfl
theorem ar5 (a b:Int):J1 a b=min a b:=by unfold J1;split<;>omega
theorem ap6 (a b:Int):K2 a b=max a b:=by unfold K2;split<;>omega
def itp (x0 x1 y0 y1 x:Int):Int:=y0+((x-x0)*(y1-y0))/(x1-x0)
theorem bj3 {x0 x1 y0 y1 x lo hi:Int}(h0:x0<=x)(h1:x<=x1)(h:x0<x1)(a0:lo<=y0)(a1:y0<=hi)(b0:lo<=y1)(b1:y1<=hi):lo<=itp x0 x1 y0 y1 x/\itp x0 x1 y0 y1 x<=hi:=by
 unfold itp
 have hd:0<x1-x0:=by omega
 have e:0<=x-x0:=by omega
 have e2:x-x0<=x1-x0:=by omega
 constructor
 ·have:lo-y0<=((x-x0)*(y1-y0))/(x1-x0):=by
   rw[Int.le_ediv_iff_mul_le hd]
   have m1:(x-x0)*(lo-y0)<=(x-x0)*(y1-y0):=ed9 (by omega) e
   have m2:(x1-x0)*(lo-y0)<=(x-x0)*(lo-y0):=Int.mul_le_mul_of_nonpos_right e2 (by omega)
   rw[Int.mul_comm (lo-y0)]
   omega
  omega
 ·have:((x-x0)*(y1-y0))/(x1-x0)<=hi-y0:=by
   have m1:(x-x0)*(y1-y0)<=(x-x0)*(hi-y0):=ed9 (by omega) e
   have m2:(x-x0)*(hi-y0)<=(x1-x0)*(hi-y0):=Int.mul_le_mul_of_nonneg_right e2 (by omega)
   have:=Int.ediv_le_ediv hd (Int.le_trans m1 m2)
   rw[Int.mul_ediv_cancel_left _ (by omega)]at this
   exact this
  omega
theorem du6 (x0 x1 y0 y1:Int):itp x0 x1 y0 y1 x0=y0:=by
 unfold itp;rw[Int.sub_self,Int.zero_mul,Int.zero_ediv,Int.add_zero]
theorem dd6 {x0 x1 y0 y1:Int}(h:x0<x1):itp x0 x1 y0 y1 x1=y1:=by
 unfold itp;rw[Int.mul_ediv_cancel_left _ (by omega)];omega
theorem eq9 {a b:Int}(a0:0<=a)(a1:a<=2147483648)(b0:-2147483648<=b)(b1:b<=2147483648):-4611686018427387904<=a*b/\a*b<=4611686018427387904:=by
 constructor
 ·have m1:a*(-2147483648)<=a*b:=ed9 b0 a0
  omega
 ·have m1:a*b<=a*2147483648:=ed9 b1 a0
  omega
theorem cK6 {x0 x1 y0 y1 x:Int}(h0:x0<=x)(h1:x<=x1)(h:x0<x1)(hx0:-1073741824<=x0)(hx1:x1<=1073741824)(a0:-1073741824<=y0)(a1:y0<=1073741824)(b0:-1073741824<=y1)(b1:y1<=1073741824):
  ad9 x0 x1 y0 y1 x=some (itp x0 x1 y0 y1 x):=by
 have hb:=bj3 (lo:=-1073741824) (hi:=1073741824) h0 h1 h a0 a1 b0 b1
 have hp:=eq9 (a:=x-x0) (b:=y1-y0) (by omega) (by omega) (by omega) (by omega)
 unfold ad9
 rw[k6 (n:=x-x0) (by omega) (by omega),k6 (n:=y1-y0) (by omega) (by omega),k6 (n:=x1-x0) (by omega) (by omega),k6 (n:=(x-x0)*(y1-y0)) (by omega) (by omega),
  bR9 _ _ (by omega) (by omega) (by omega) (by omega),ac0]
 unfold itp at hb|-
 rw[k6 (by omega) (by omega)]
theorem ch1 {l:List Int}(h:bA3 l)(x:Int):∃i:Nat,bm5 l (lim l x) i/\Z9 l x=some ((i:Int),lim l x):=by
 have h2:=h.two
 have h3:=h.most
 have hb:=dH2 h x
 rw[bE9 l (by omega),bf5 l (by omega)]at hb
 obtain⟨k,k1,k2,k3,k4⟩:=aS5 l.length (by omega) (fun x0=>ag1 x0 l (lim l x)) (fun i=>decide (l.getD i 0>lim l x)) (fun i hi=>by
  unfold ag1
  rw[E8 l i hi,dj0,aJ9 hi];rfl)
 have gd:∀i (hi:i<l.length),l.getD i 0=l[i]:=fun i hi=>by rw[dj0,aJ9 hi];rfl
 have hk0:0<k:=by
  rcases dS1 k with h0|h0
  ·have:=k4 (by omega)
   rw[fh8,gd k (by omega)]at this
   subst h0
   omega
  ·exact h0
 have dW8:=k3 hk0
 rw[fh9,gd (k-1) (by omega)]at dW8
 have hseg:Z9 l x=some (((min (k-1) (l.length-2):Nat):Int),lim l x):=by
  unfold Z9
  have e1:F0 l 0=some (l.headD 0):=by
   have:=E8 l 0 (by omega)
   rw[bE9 l (by omega)];exact this
  have e2:F0 l (o6 ((l.length:Int)-1))=some (l.getLastD 0):=by
   rw[k6 (by omega) (by omega),show(l.length:Int)-1=((l.length-1:Nat):Int) by omega,E8 l _ (by omega),bf5 l (by omega)]
  have e3:J1 (K2 x (l.headD 0)) (l.getLastD 0)=lim l x:=by rw[ar5,ap6];rfl
  rw[e1,e2,ac0,ac0,aD0,ac0,e3,k2,ac0,k6 (by omega) (by omega),k6 (by omega) (by omega),ar5]
  congr 2
  omega
 rcases dh0 k l.length with hk|hk
 ·have hhi:=k4 hk
  rw[fh8,gd k hk]at hhi
  have e:min (k-1) (l.length-2)=k-1:=by omega
  rw[e]at hseg
  refine⟨k-1,⟨by omega,by omega,?_,.inr ?_⟩,hseg⟩
  ·simp only[Nat.sub_add_cancel (show 1<=k from hk0)];omega
  ·simp only[Nat.sub_add_cancel (show 1<=k from hk0)];omega
 ·have e:min (k-1) (l.length-2)=l.length-2:=by omega
  rw[e]at hseg
  have hl:k-1=l.length-1:=by omega
  have hlow':¬l[l.length-1]>lim l x:=by simpa only[hl]using dW8
  have hs:l.length-2+1=l.length-1:=by omega
  refine⟨l.length-2,⟨by omega,?_,?_,.inl (by omega)⟩,hseg⟩
  ·have:=h.le (l.length-1) (l.length-2) (by omega) (by omega)
   omega
  ·simp only[hs];omega
def along (m:SMap)(i:Nat)(v:Int)(j:Nat):Int:=itp (nd m.X i) (nd m.X (i+1)) (zz m i j) (zz m (i+1) j) v
def atV (m:SMap)(i j:Nat)(v w:Int):Int:=itp (nd m.Y j) (nd m.Y (j+1)) (along m i v j) (along m i v (j+1)) w
theorem bm5.nd {l:List Int}{v:Int}{i:Nat}(h:bm5 l v i)(ha:bA3 l):i+1<l.length/\nd l i<=v/\v<=nd l (i+1)/\nd l i<nd l (i+1)/\ -1073741824<=Pv.nd l i/\Pv.nd l (i+1)<=1073741824:=by
 obtain⟨h0,h1,h2,_⟩:=h
 rw[P4 (by omega:i<l.length),P4 h0]
 exact⟨h0,h1,h2,ha.asc i h0,(ha.el i (by omega)).1,(ha.el (i+1) h0).2⟩
theorem cj0 {m:SMap}(h:cZ4 m){i j:Nat}{v lo hi:Int}(hi':bm5 m.X v i)(a0:lo<=zz m i j)(a1:zz m i j<=hi)(b0:lo<=zz m (i+1) j)(b1:zz m (i+1) j<=hi):
  lo<=along m i v j/\along m i v j<=hi:=by
 obtain⟨k0,k1,k2,k3,_,_⟩:=hi'.nd h.x
 exact bj3 k1 k2 k3 a0 a1 b0 b1
theorem dD7 {m:SMap}(h:cZ4 m){i j:Nat}{v w lo hi:Int}(hi':bm5 m.X v i)(hj':bm5 m.Y w j)(hz:∀i j,i<m.X.length->j<m.Y.length->lo<=zz m i j/\zz m i j<=hi):
  lo<=atV m i j v w/\atV m i j v w<=hi:=by
 obtain⟨k0,k1,k2,k3,_,_⟩:=hi'.nd h.x
 obtain⟨l0,l1,l2,l3,_,_⟩:=hj'.nd h.y
 have a:=fun j hj=>cj0 h (j:=j) hi' (hz i j (by omega) hj).1 (hz i j (by omega) hj).2 (hz (i+1) j (by omega) hj).1 (hz (i+1) j (by omega) hj).2
 exact bj3 l1 l2 l3 (a j (by omega)).1 (a j (by omega)).2 (a (j+1) (by omega)).1 (a (j+1) (by omega)).2
theorem eh3 {m:SMap}(h:cZ4 m){i j:Nat}{v:Int}(hi:bm5 m.X v i)(hj:j<m.Y.length):as6 (j:Int) m (i:Int) v=some (along m i v j):=by
 obtain⟨k0,k1,k2,k3,k4,k5⟩:=hi.nd h.x
 have lx:=h.x.most
 have hz0:i<m.Z.length:=by have:=h.zl;omega
 have hz1:i+1<m.Z.length:=by have:=h.zl;omega
 have r0:=h.rl i hz0
 have r1:=h.rl (i+1) hz1
 unfold as6
 rw[k6 (by omega) (by omega),show(i:Int)+1=((i+1:Nat):Int)from rfl,E8 m.X i (by omega),ac0,E8 m.X (i+1) k0,ac0,E8 m.Z i hz0,ac0,E8 _ j (by omega),
  ac0,E8 m.Z (i+1) hz1,ac0,E8 _ j (by omega),ac0,<-P4 (by omega:i<m.X.length),<-P4 k0,<-bV7 hz0 (by omega),<-bV7 hz1 (by omega)]
 rw[cK6 k1 k2 k3 k4 k5 (h.el i j (by omega) hj).1 (h.el i j (by omega) hj).2 (h.el (i+1) j k0 hj).1 (h.el (i+1) j k0 hj).2]
 rfl
theorem eW4 {m:SMap}(h:cZ4 m)(x y:Int):∃i j,bm5 m.X (lim m.X x) i/\bm5 m.Y (lim m.Y y) j/\aN9 m x y=some (atV m i j (lim m.X x) (lim m.Y y)):=by
 obtain⟨i,hi,ei⟩:=ch1 h.x x
 obtain⟨j,hj,ej⟩:=ch1 h.y y
 refine⟨i,j,hi,hj,?_⟩
 obtain⟨k0,k1,k2,k3,k4,k5⟩:=hi.nd h.x
 obtain⟨l0,l1,l2,l3,l4,l5⟩:=hj.nd h.y
 have ly:=h.y.most
 have a:=fun j hj=>cj0 h (j:=j) hi (h.el i j (by omega) hj).1 (h.el i j (by omega) hj).2 (h.el (i+1) j (by omega) hj).1 (h.el (i+1) j (by omega) hj).2
 unfold aN9
 rw[ei,ej]
 simp only[ac0]
 rw[k6 (by omega) (by omega),show(j:Int)+1=((j+1:Nat):Int)from rfl,E8 m.Y j (by omega),ac0,E8 m.Y (j+1) l0,ac0,eh3 h hi (by omega),ac0,eh3 h hi l0,ac0,
  <-P4 (by omega:j<m.Y.length),<-P4 l0,cK6 l1 l2 l3 l4 l5 (a j (by omega)).1 (a j (by omega)).2 (a (j+1) l0).1 (a (j+1) l0).2]
 rfl
theorem ee2 {m:SMap}(h:br7 m=true)(x y:Int):∃i j,bm5 m.X (lim m.X x) i/\bm5 m.Y (lim m.Y y) j/\aa9 m x y=some (atV m i j (lim m.X x) (lim m.Y y)):=by
 obtain⟨i,j,hi,hj,e⟩:=eW4 (ca6 h) x y
 refine⟨i,j,hi,hj,?_⟩
 unfold aa9
 rw[ap4,h]
 simp only[ac0,aK4,fh3]
 rw[e]
 rfl
def cuV (c:A7)(i:Nat)(v:Int):Int:=itp (nd c.X i) (nd c.X (i+1)) (nd c.Y i) (nd c.Y (i+1)) v
theorem dJ6 {l:List Int}(h:bA3 l)(x:Int):∃i,bm5 l (lim l x) i:=by
 obtain⟨i,hi,_⟩:=ch1 h x
 exact⟨i,hi⟩
theorem eQ3 {l:List Int}(h:bA3 l)(x:Int):lim l x=min (max x (nd l 0)) (nd l (l.length-1)):=by
 have h2:=h.two
 unfold lim
 rw[bE9 l (by omega),bf5 l (by omega),P4 (by omega),P4 (by omega)]
theorem bA3.nlt {l:List Int}(h:bA3 l){i j:Nat}(h1:i<j)(h2:j<l.length):nd l i<nd l j:=by rw[P4 h2,P4 (by omega)];exact h.lt j i h2 h1
theorem bA3.nle {l:List Int}(h:bA3 l){i j:Nat}(h1:i<=j)(h2:j<l.length):nd l i<=nd l j:=by rw[P4 h2,P4 (by omega)];exact h.le j i h2 h1
theorem du7 {l:List Int}(h:bA3 l){v:Int}{i:Nat}(hi:bm5 l v i)(f:Nat->Int){c:Nat}(hc:c<l.length)(e:v=nd l c):itp (nd l i) (nd l (i+1)) (f i) (f (i+1)) v=f c:=by
 obtain⟨k0,k1,k2,k3,_,_⟩:=hi.nd h
 subst e
 have c1:i<=c:=by
  rcases dh0 c i with q|q
  ·have:=h.nlt q (by omega);omega
  ·exact q
 have c2:c<=i+1:=by
  rcases dh0 (i+1) c with q|q
  ·have:=h.nlt q hc;omega
  ·exact q
 rcases(show c=i\/c=i+1 by omega)with rfl|rfl
 ·exact du6 ..
 ·exact dd6 k3
theorem ew9 {c:A7}(h:dL5 c)(x:Int):∃i,bm5 c.X (lim c.X x) i/\aF7 c x=some (cuV c i (lim c.X x)):=by
 obtain⟨i,hi⟩:=dJ6 h.x x
 refine⟨i,hi,?_⟩
 have h2:=h.x.two
 have h3:=h.x.most
 have hyl:=h.yl
 have hl:=eQ3 h.x x
 have h0l:=h.x.nlt (i:=0) (j:=c.X.length-1) (by omega) (by omega)
 have gx0:F0 c.X 0=some (nd c.X 0):=by have:=E8 c.X 0 (by omega);rw[P4 (by omega)];exact this
 have gy0:F0 c.Y 0=some (nd c.Y 0):=by have:=E8 c.Y 0 (by omega);rw[P4 (by omega)];exact this
 have ew:o6 ((c.X.length:Int)-1)=((c.X.length-1:Nat):Int):=by rw[k6 (by omega) (by omega)];omega
 have gxl:F0 c.X ((c.X.length-1:Nat):Int)=some (nd c.X (c.X.length-1)):=by rw[E8 _ _ (by omega),P4 (by omega)]
 have gyl:F0 c.Y ((c.X.length-1:Nat):Int)=some (nd c.Y (c.X.length-1)):=by rw[E8 _ _ (by omega),P4 (by omega)]
 unfold aF7
 rw[gx0,ac0]
 by_cases q0:x<=nd c.X 0
 ·have e:=du7 h.x hi (fun j=>nd c.Y j) (c:=0) (by omega) (by omega)
  rw[fh6 q0,fh5,gy0]
  unfold cuV
  rw[e];rfl
 ·rw[fh7 q0,fh3,ew,gxl,ac0]
  by_cases q1:x>=nd c.X (c.X.length-1)
  ·have e:=du7 h.x hi (fun j=>nd c.Y j) (c:=c.X.length-1) (by omega) (by omega)
   rw[fh6 q1,fh5,gyl]
   unfold cuV
   rw[e];rfl
  ·have elim:lim c.X x=x:=by omega
   rw[elim]at hi|-
   obtain⟨k0,k1,k2,k3,k4,k5⟩:=hi.nd h.x
   obtain⟨k,r1,r2,r3,r4⟩:=aS5 c.X.length (by omega) (fun x0=>am2 x0 c x) (fun i=>decide (nd c.X i>x)) (fun j hj=>by
    unfold am2
    rw[E8 c.X j hj,P4 hj];rfl)
   have hk:k=i+1:=by
    have hkl:k<c.X.length:=by
     rcases dh0 k c.X.length with q|q
     ·exact q
     ·have:=r3 (by omega)
      rw[fh9,show k-1=c.X.length-1 by omega]at this
      omega
    have a1:=r4 hkl
    rw[fh8]at a1
    have hk0:0<k:=by
     rcases dS1 k with q|q
     ·subst q;omega
     ·exact q
    have a2:=r3 hk0
    rw[fh9]at a2
    have b1:i<k:=by
     rcases dh0 i k with q|q
     ·exact q
     ·have:=h.x.nle q (by omega);omega
    have b2:k-1<=i:=by
     rcases dh0 i (k-1)with q|q
     ·have:=h.x.nle (i:=i+1) (j:=k-1) (by omega) (by omega)
      have hseg:=hi.2
      obtain⟨hh,s1,s2,s3⟩:=hi
      rcases s3 with s3|s3
      ·omega
      ·rw[<-P4 hh]at s3;omega
     ·exact q
    omega
   have es:aw3 c x=some (i:Int):=by
    unfold aw3
    rw[r2,ac0,k6 (by omega) (by omega),hk]
    congr 1;omega
   have hb:=bj3 (lo:=-1073741824) (hi:=1073741824) k1 k2 k3 (h.el i (by omega)).1 (h.el i (by omega)).2 (h.el (i+1) k0).1 (h.el (i+1) k0).2
   have y0:=h.el i (by omega)
   have y1:=h.el (i+1) k0
   have hp:=eq9 (a:=x-nd c.X i) (b:=nd c.Y (i+1)-nd c.Y i) (by omega) (by omega) (by omega) (by omega)
   rw[fh7 q1,fh3,es,ac0,k6 (n:=(i:Int)+1) (by omega) (by omega),show(i:Int)+1=((i+1:Nat):Int)from rfl,E8 c.Y i (by omega),ac0,E8 c.X i (by omega),ac0,
    E8 c.Y (i+1) (by omega),ac0,E8 c.X (i+1) k0,ac0,<-P4,<-P4,<-P4,<-P4]
   rw[k6 (n:=x-nd c.X i) (by omega) (by omega),k6 (n:=nd c.Y (i+1)-nd c.Y i) (by omega) (by omega),k6 (n:=nd c.X (i+1)-nd c.X i) (by omega) (by omega),k6 (n:=(x-nd c.X i)*(nd c.Y (i+1)-nd c.Y i)) (by omega) (by omega),
    bR9 _ _ (by omega) (by omega) (by omega) (by omega),ac0]
   unfold cuV
   unfold itp at hb|-
   rw[k6 (by omega) (by omega)]
theorem cN7 {c:A7}(h:dL5 c){v:Int}{i:Nat}{lo hi:Int}(hs:bm5 c.X v i)(hy:∀j,j<c.X.length->lo<=nd c.Y j/\nd c.Y j<=hi):lo<=cuV c i v/\cuV c i v<=hi:=by
 obtain⟨k0,k1,k2,k3,k4,k5⟩:=hs.nd h.x
 exact bj3 k1 k2 k3 (hy i (by omega)).1 (hy i (by omega)).2 (hy (i+1) k0).1 (hy (i+1) k0).2
theorem ce3 {c:A7}(h:bx9 c=true)(x:Int):∃i,bm5 c.X (lim c.X x) i/\au7 c x=some (cuV c i (lim c.X x)):=by
 obtain⟨i,hi,e⟩:=ew9 (bn2 h) x
 refine⟨i,hi,?_⟩
 unfold au7
 rw[ar2,h]
 simp only[ac0,aK4,fh3]
 rw[e]
 rfl
structure eW0 (t:p6):Prop where
 m:cZ4 t.j9
 c:dL5 t.u6
 e:∀i,i<t.u6.X.length->0<=nd t.u6.Y i/\nd t.u6.Y i<=1000
 ed:∀i,i+1<t.u6.X.length->nd t.u6.Y (i+1)<=nd t.u6.Y i
 z:∀i j,i<t.j9.X.length->j<t.j9.Y.length->0<=zz t.j9 i j/\zz t.j9 i j<=10000
 za:∀i j,i<t.j9.X.length->j+1<t.j9.Y.length->zz t.j9 i j<=zz t.j9 i (j+1)
theorem dL3 {m:SMap}{i j:Nat}(h:i<m.Z.length):zz m i j=nd m.Z[i] j:=by
 have e:m.Z.getD i []=m.Z[i]:=by rw[dj0,aJ9 h];rfl
 unfold zz nd
 rw[e]
theorem ew3 {t:p6}(h:bc0 t=true):eW0 t:=by
 unfold bc0 at h
 simp only[au2]at h
 obtain⟨⟨⟨⟨h1,h2⟩,h3⟩,h4⟩,h5⟩:=h
 have hm:=ca6 h1
 have hc:=bn2 h2
 rw[by6]at h3 h5
 have zl:=hm.zl
 have yl:=hc.yl
 refine⟨hm,hc,fun i hi=>?_,fun i hi=>?_,fun i j hi hj=>?_,fun i j hi hj=>?_⟩
 ·rw[P4 (by omega)]
  have:=h3 _ (bf2 (by omega:i<t.u6.Y.length))
  simp[inR]at this;omega
 ·have:=bk2.1 h4 i (by omega)
  rw[fh8]at this
  exact this
 ·have hz:i<t.j9.Z.length:=by omega
  have:=h5 _ (bf2 hz)
  rw[au2,by6]at this
  have lr:=hm.rl i hz
  have:=this.1 _ (bf2 (by omega:j<t.j9.Z[i].length))
  rw[dL3 hz,P4 (by omega)]
  simp[inR]at this;omega
 ·have hz:i<t.j9.Z.length:=by omega
  have:=h5 _ (bf2 hz)
  rw[au2]at this
  have lr:=hm.rl i hz
  have:=bk2.1 this.2 j (by omega)
  rw[fh8]at this
  rw[dL3 hz,dL3 hz]
  exact this
theorem dB3 {t:p6}(h:bc0 t=true):br7 t.j9=true:=by
 unfold bc0 at h
 simp only[au2]at h
 exact h.1.1.1.1
theorem dB2 {t:p6}(h:bc0 t=true):bx9 t.u6=true:=by
 unfold bc0 at h
 simp only[au2]at h
 exact h.1.1.1.2
theorem ec8 {t:p6}(h:bc0 t=true)(late:Int):∃e,au7 t.u6 late=some e/\0<=e/\e<=1000/\
  ∀o f c,0<=o->o<=10000->0<=f->f<=c->1<=c->c<=8->ab4 t o late f c=some ((o*e*f)/(1000*c)):=by
 obtain⟨i,hi,e⟩:=ce3 (dB2 h) late
 have hb:=cN7 (ew3 h).c hi (ew3 h).e
 refine⟨_,e,hb.1,hb.2,fun o f c o0 o1 f0 f1 c0 c1=>?_⟩
 generalize cuV t.u6 i (lim t.u6.X late)=v at hb e
 have p0:0<=o*v:=eP2 o0 hb.1
 have p1:o*v<=10000*1000:=eP1 o1 hb.2 hb.1 (by omega)
 have q0:0<=o*v*f:=eP2 p0 f0
 have q1:o*v*f<=10000*1000*8:=eP1 p1 (by omega) f0 (by omega)
 unfold ab4
 rw[e,ac0,k6 (n:=o*v) (by omega) (by omega),k6 (n:=o*v*f) (by omega) (by omega),k6 (n:=1000*c) (by omega) (by omega)]
 unfold bo2
 rw[if_neg (by omega),ac0,cW1 q0]
 have r0:0<=o*v*f/(1000*c):=eM7 q0 (by omega)
 have r1:o*v*f/(1000*c)<=o*v*f:=eM3 _ q0
 have:=k6 (n:=o*v*f/(1000*c)) (by omega) (by omega)
 unfold o6 at this
 rw[this]
def sAt (m:SMap)(x y:Int):Int:=(aa9 m x y).getD 0
def cAt (c:A7)(x:Int):Int:=(au7 c x).getD 0
theorem cU1 {m:SMap}(h:br7 m=true)(x y:Int):aa9 m x y=some (sAt m x y):=by
 obtain⟨i,j,_,_,e⟩:=ee2 h x y
 unfold sAt;rw[e];rfl
theorem dE2 {c:A7}(h:bx9 c=true)(x:Int):au7 c x=some (cAt c x):=by
 obtain⟨i,_,e⟩:=ce3 h x
 unfold cAt;rw[e];rfl
theorem ch0 {m:SMap}(h:br7 m=true)(x y:Int){lo hi:Int}(hz:∀i j,i<m.X.length->j<m.Y.length->lo<=zz m i j/\zz m i j<=hi):lo<=sAt m x y/\sAt m x y<=hi:=by
 obtain⟨i,j,a,b,e⟩:=ee2 h x y
 have:=dD7 (ca6 h) a b hz
 unfold sAt;rw[e];exact this
theorem ce1 {c:A7}(h:bx9 c=true)(x:Int){lo hi:Int}(hy:∀j,j<c.X.length->lo<=nd c.Y j/\nd c.Y j<=hi):lo<=cAt c x/\cAt c x<=hi:=by
 obtain⟨i,a,e⟩:=ce3 h x
 have:=cN7 (bn2 h) a hy
 unfold cAt;rw[e];exact this
theorem ba0 {lo hi x:Int}:inR lo hi x=true↔lo<=x/\x<=hi:=by
 unfold inR
 rw[au2,fh8,fh8]
theorem fc7 {m:SMap}(h:br7 m=true){lo hi:Int}(hz:∀r∈m.Z,r.all (inR lo hi)=true):∀i j,i<m.X.length->j<m.Y.length->lo<=zz m i j/\zz m i j<=hi:=by
 intro i j hi' hj
 have k:=ca6 h
 have hiz:i<m.Z.length:=by have:=k.zl;omega
 have hjz:j<m.Z[i].length:=by have:=k.rl i hiz;omega
 have:=hz _ (bf2 hiz)
 rw[by6]at this
 have:=this _ (bf2 hjz)
 rw[bV7 hiz hjz]
 exact ba0.1 this
theorem eU2 {c:A7}(h:bx9 c=true){lo hi:Int}(hy:c.Y.all (inR lo hi)=true):∀j,j<c.X.length->lo<=nd c.Y j/\nd c.Y j<=hi:=by
 intro j hj
 have k:=bn2 h
 have hjy:j<c.Y.length:=by have:=k.yl;omega
 rw[by6]at hy
 rw[P4 hjy]
 exact ba0.1 (hy _ (bf2 hjy))
structure eV4 (t:p6):Prop where
 m:br7 t.Air=true
 c:bx9 t.C6=true
 z:∀i j,i<t.Air.X.length->j<t.Air.Y.length->0<=zz t.Air i j/\zz t.Air i j<=1048576
 y:∀j,j<t.C6.X.length->100<=nd t.C6.Y j/\nd t.C6.Y j<=3000
theorem eW1 {t:p6}(h:cW4 t=true):eV4 t:=by
 unfold cW4 at h
 simp only[au2]at h
 obtain⟨⟨⟨h1,h2⟩,h3⟩,h4⟩:=h
 refine⟨h1,h2,fc7 h1 fun r hr=>?_,eU2 h2 h4⟩
 have:=by6.1 h3 r hr
 unfold cJ9 at this
 rw[au2]at this
 exact this.1
def chV (t:p6)(s p q:Int):Int:=min 1048576 (sAt t.Air s p*cAt t.C6 q/1000)
theorem aV2 {a b A B:Int}(a0:0<=a)(a1:a<=A)(b0:0<=b)(b1:b<=B):0<=a*b/\a*b<=A*B:=⟨eP2 a0 b0,eP1 a1 b1 b0 (by omega)⟩
theorem db0 {t:p6}(h:cW4 t=true)(s p q:Int):aC8 t s p q=some (chV t s p q)/\0<=chV t s p q/\chV t s p q<=1048576:=by
 have k:=eW1 h
 have b1:=ch0 k.m s p k.z
 have b2:=ce1 k.c q k.y
 have b3:=aV2 (A:=1048576) (B:=3000) b1.1 b1.2 (by omega) b2.2
 unfold aC8 chV
 rw[cU1 k.m,dE2 k.c]
 simp only[ac0]
 rw[k6 (by omega) (by omega),bR9 _ _ (by omega) (by omega) (by omega) (by omega)]
 simp only[ac0,ar5]
 exact⟨trivial,by omega,by omega⟩
theorem T8 {lo hi x:Int}(h0:lo<=x)(h1:x<=hi):inR lo hi x=true:=ba0.2 ⟨h0,h1⟩
theorem ci8 {t:p6}(h:cW4 t=true){s p q:Int}(s0:0<=s/\s<=12000)(p0:50<=p/\p<=3000)(q0:-40<=q/\q<=150):aC7 t s p q=some (chV t s p q,0):=by
 unfold aC7
 rw[bH2,h,ag6,ag6,ag6,T8 s0.1 s0.2,T8 p0.1 p0.2,T8 q0.1 q0.2,(db0 h s p q).1]
 rfl
structure fd9 (t:p6)(s w q p e:Int):Prop where
 out:e=0\/e=2\/e=7
 ran:e=2↔¬(0<=w/\w<=1048576)
 fit:e=0->50<=p/\p<=3000/\w<=chV t s p q
 low:e=0->50<p->chV t s (p-1) q<w
 big:e=7->chV t s 3000 q<w
theorem dx6 {t:p6}(h:cW4 t=true){s w q:Int}(s0:0<=s/\s<=12000)(q0:-40<=q/\q<=150):∃p e,av8 t s w q=some (p,e)/\fd9 t s w q p e:=by
 unfold av8
 rw[bH2,h,ag6,ag6,ag6,T8 s0.1 s0.2,T8 q0.1 q0.2]
 simp only[ac0,aK4,fh3]
 cases hw:inR 0 1048576 w
 ·have hw2:¬(0<=w/\w<=1048576):=fun h2=>by rw[ba0.2 h2]at hw;cases hw
  exact⟨0,2,rfl,.inr (.inl rfl),⟨fun _=>hw2,fun _=>rfl⟩,fun h=>(by cases h),fun h=>(by cases h),fun h=>(by cases h)⟩
 ·have hw2:=ba0.1 hw
  simp only[aK4,fh3]
  obtain⟨k,k1,k2,k3,k4⟩:=aS5 2951 (by omega) (fun x0=>al1 x0 t s q w) (fun i=>decide (chV t s (50+(i:Int)) q>=w)) (fun i hi=>by
   unfold al1
   rw[k6 (by omega) (by omega),(db0 h s _ q).1]
   rfl)
  have k2':S7 2951 (fun x0=>al1 x0 t s q w)=some (k:Int):=k2
  rw[k2']
  simp only[ac0]
  rw[k6 (n:=50+(k:Int)) (by omega) (by omega)]
  by_cases hk:k=2951
  ·subst hk
   refine⟨0,7,rfl,.inr (.inr rfl),⟨fun h=>(by cases h),fun h=>absurd hw2 h⟩,fun h=>(by cases h),fun h=>(by cases h),fun _=>?_⟩
   have:=k3 (by omega)
   rw[fh9]at this
   have e:(50:Int)+((2951-1:Nat):Int)=3000:=by omega
   rw[e]at this
   omega
  ·have h4:=k4 (by omega)
   rw[fh8]at h4
   rw[fh7 (show¬(50+(k:Int)>3000) by omega)]
   refine⟨50+(k:Int),0,rfl,.inl rfl,⟨fun h=>(by cases h),fun h=>absurd hw2 h⟩,fun _=>⟨by omega,by omega,by omega⟩,fun _ hp=>?_,fun h=>(by cases h)⟩
   have h3:=k3 (by omega)
   rw[fh9]at h3
   have e:(50:Int)+((k-1:Nat):Int)=50+(k:Int)-1:=by omega
   rw[e]at h3
   omega
def eb3 (s:Int):Int:=-((-(s*65536*23040))/60000000)
theorem dJ2 {s:Int}(s0:0<=s/\s<=12000):0<=eb3 s/\eb3 s<=310000:=by unfold eb3;omega
def dc5 (s p:Int):Int:=eb3 s*p/1024
theorem eB7 {s p:Int}(s0:0<=s/\s<=12000)(p0:50<=p/\p<=3000):be2 s p=some (dc5 s p,0)/\0<=dc5 s p/\dc5 s p<=930000000:=by
 have r:=dJ2 s0
 have b:=aV2 (B:=3000) r.1 r.2 (show 0<=p by omega) p0.2
 unfold be2 ax9 ao2
 rw[ag6,ag6,T8 s0.1 s0.2,T8 p0.1 p0.2]
 rw[show((decide (s<0))||(decide (s>20000)))=false by rw[bG8];exact⟨fh7 (by omega),fh7 (by omega)⟩]
 rw[k6 (n:=s*65536) (by omega) (by omega),k6 (n:=s*65536*23040) (by omega) (by omega),bX1 _ _ 2 (by omega) (by omega) (by omega) (by omega) (.inr rfl)]
 simp only[ac0,aK4,fh3]
 rw[if_neg (by decide)]
 have er:-((-(s*65536*23040))/60000000)=eb3 s:=rfl
 unfold dc5
 rw[er,k6 (n:=eb3 s*p) (by omega) (by omega),cW1 b.1,k6 (by omega) (by omega)]
 exact⟨rfl,by omega,by omega⟩
structure eL1 (b:J4):Prop where
 i:100<=b.O5/\b.O5<=1048576
 f:0<=b.N9/\b.N9<=65536
 t:0<=b.C4/\b.C4<=65536
 v:1<=b.ac4/\b.ac4<=65536
 fi:0<=b.H9/\b.H9<=1023
 ev:1<=b.E9/\b.E9<=1024
 de:0<=b.an6/\b.an6<=20
def aV7 (b:J4):Bool:=inR 100 1048576 b.O5&&inR 0 65536 b.N9&&inR 0 65536 b.C4&&inR 1 65536 b.ac4&&inR 0 1023 b.H9&&inR 1 1024 b.E9&&inR 0 20 b.an6
theorem dh2 (b:J4):ak5 b=some (aV7 b):=by
 unfold ak5 aV7
 have e:∀x lo hi,H0 x lo hi=some (inR lo hi x):=fun _ _ _=>rfl
 simp only[e,ac0]
 cases inR 100 1048576 b.O5<;>cases inR 0 65536 b.N9<;>cases inR 0 65536 b.C4<;>cases inR 1 65536 b.ac4<;>cases inR 0 1023 b.H9<;>cases inR 1 1024 b.E9<;>rfl
theorem bt6 {b:J4}(h:aV7 b=true):eL1 b:=by
 unfold aV7 at h
 simp only[au2,ba0]at h
 obtain⟨⟨⟨⟨⟨⟨h1,h2⟩,h3⟩,h4⟩,h5⟩,h6⟩,h7⟩:=h
 exact⟨h1,h2,h3,h4,h5,h6,h7⟩
structure fe2 (b:J4)(f p n e:Int):Prop where
 out:e=0\/e=7
 fit:e=0->0<=n/\n<=1000/\f<=b.C4*n*(1013-p)/1000
 low:e=0->0<n->b.C4*(n-1)*(1013-p)/1000<f
 big:e=7->b.C4*1000*(1013-p)/1000<f
theorem dA9 {b:J4}(h:aV7 b=true){f p:Int}(f0:0<=f/\f<=1099511627776)(p0:50<=p/\p<=1013):∃n e,av9 b f p=some (n,e)/\fe2 b f p n e:=by
 have kb:=(bt6 h).t
 have v:∀k:Nat,k<=1000->(o6 (da8 (o6 ((o6 (b.C4*(k:Int)))*(o6 (1013-p)))) 1000))=b.C4*(k:Int)*(1013-p)/1000:=by
  intro k hk
  have b1:=aV2 (A:=65536) (B:=1000) kb.1 kb.2 (show 0<=(k:Int) by omega) (by omega)
  have b2:=aV2 (A:=65536000) (B:=1000) b1.1 (by omega) (show 0<=1013-p by omega) (by omega)
  rw[k6 (n:=b.C4*(k:Int)) (by omega) (by omega),k6 (n:=1013-p) (by omega) (by omega),k6 (n:=b.C4*(k:Int)*(1013-p)) (by omega) (by omega),cW1 b2.1,k6 (by omega) (by omega)]
 unfold av9
 rw[dh2,h,ag6,ag6,T8 f0.1 f0.2,T8 p0.1 p0.2]
 simp only[ac0,aK4,fh3]
 obtain⟨k,k1,k2,k3,k4⟩:=aS5 1001 (by omega) (fun x0=>al2 x0 b p f) (fun i=>decide (b.C4*(i:Int)*(1013-p)/1000>=f)) (fun i hi=>by
  unfold al2
  rw[v i (by omega)])
 have k2':S7 1001 (fun x0=>al2 x0 b p f)=some (k:Int):=k2
 rw[k2']
 simp only[ac0]
 by_cases hk:k=1001
 ·subst hk
  refine⟨0,7,rfl,.inr rfl,fun h=>(by cases h),fun h=>(by cases h),fun _=>?_⟩
  have:=k3 (by omega)
  rw[fh9]at this
  have e:((1001-1:Nat):Int)=1000:=by omega
  rw[e]at this
  omega
 ·have h4:=k4 (by omega)
  rw[fh8]at h4
  rw[fh7 (show¬((k:Int)>1000) by omega)]
  refine⟨(k:Int),0,rfl,.inl rfl,fun _=>⟨by omega,by omega,by omega⟩,fun _ hp=>?_,fun h=>(by cases h)⟩
  have h3:=k3 (by omega)
  rw[fh9]at h3
  have e:((k-1:Nat):Int)=(k:Int)-1:=by omega
  rw[e]at h3
  omega
def cR8 (t:p6)(s c:Int):Int:=sAt t.j9 s c
def bO5 (t:p6)(o l f n:Int):Int:=o*cAt t.u6 l*f/(1000*n)
theorem aY9 (x lo hi:Int):J3 x lo hi=some (inR lo hi x):=rfl
theorem ep9 {t:p6}(h:bc0 t=true){s c:Int}(s0:0<=s/\s<=12000)(c0:0<=c/\c<=1048576):ai1 t s c=some (cR8 t s c,0)/\0<=cR8 t s c/\cR8 t s c<=10000:=by
 have k:=dB3 h
 have b:=ch0 k s c (ew3 h).z
 refine⟨?_,b.1,b.2⟩
 unfold ai1
 rw[bq1,h,aY9,aY9,T8 s0.1 s0.2,T8 c0.1 c0.2,cU1 k]
 rfl
theorem dK7 {t:p6}(h:bc0 t=true){o l f n:Int}(o0:0<=o/\o<=10000)(f0:0<=f/\f<=n)(n0:1<=n/\n<=8):ab4 t o l f n=some (bO5 t o l f n)/\0<=bO5 t o l f n/\bO5 t o l f n<=10000:=by
 obtain⟨e,h1,h2,h3,h4⟩:=ec8 h l
 unfold bO5 cAt
 rw[h4 o f n o0.1 o0.2 f0.1 f0.2 n0.1 n0.2,h1]
 have b1:=aV2 (A:=10000) (B:=1000) o0.1 o0.2 h2 h3
 have b2:=aV2 (A:=10000000) b1.1 (by omega) f0.1 f0.2
 refine⟨rfl,eM7 b2.1 (by omega),?_⟩
 have:o*e*f/(1000*n)<=10000000*n/(1000*n):=Int.ediv_le_ediv (by omega) b2.2
 rw[show 10000000*n=10000*(1000*n) by omega,Int.mul_ediv_cancel _ (by omega)]at this
 exact this
theorem eo1 {t:p6}(h:bc0 t=true){s w:Int}(s0:0<=s/\s<=12000):∃c e,aq4 t s w=some (c,e)/\(e=0\/e=7)/\
  (e=0->nd t.j9.Y 0<=c/\c<=nd t.j9.Y (t.j9.Y.length-1)/\w<=sAt t.j9 s c/\(nd t.j9.Y 0<c->sAt t.j9 s (c-1)<w))/\(e=7->sAt t.j9 s (nd t.j9.Y (t.j9.Y.length-1))<w):=by
 have k:=dB3 h
 have ky:=(ca6 k).y
 have y2:=ky.two
 have ym:=ky.most
 have e0:=ky.el 0 (by omega)
 have e1:=ky.el (t.j9.Y.length-1) (by omega)
 have le:=ky.le (t.j9.Y.length-1) 0 (by omega) (by omega)
 rw[<-P4 (by omega:0<t.j9.Y.length)]at e0 le
 rw[<-P4 (by omega:t.j9.Y.length-1<t.j9.Y.length)]at e1 le
 have g0:F0 t.j9.Y 0=some (nd t.j9.Y 0):=by have:=E8 t.j9.Y 0 (by omega);rw[P4 (by omega)];exact this
 have ew:o6 ((t.j9.Y.length:Int)-1)=((t.j9.Y.length-1:Nat):Int):=by rw[k6 (by omega) (by omega)];omega
 have gl:F0 t.j9.Y ((t.j9.Y.length-1:Nat):Int)=some (nd t.j9.Y (t.j9.Y.length-1)):=by rw[E8 _ _ (by omega),P4 (by omega)]
 unfold aq4
 rw[bq1,h,aY9,T8 s0.1 s0.2]
 simp only[ac0,aK4,fh3]
 rw[g0,ew]
 simp only[ac0]
 rw[gl]
 simp only[ac0]
 generalize nd t.j9.Y 0=a at*
 generalize nd t.j9.Y (t.j9.Y.length-1)=b at*
 rw[k6 (n:=b-a) (by omega) (by omega),k6 (n:=b-a+1) (by omega) (by omega)]
 obtain⟨n,hn⟩:∃n:Nat,b-a+1=n:=⟨(b-a+1).toNat,by omega⟩
 rw[hn]
 obtain⟨j,k1,k2,k3,k4⟩:=aS5 n (by omega) (fun x0=>an2 x0 t s a w) (fun i=>decide (sAt t.j9 s (a+(i:Int))>=w)) (fun i hi=>by
  unfold an2
  rw[k6 (by omega) (by omega),cU1 k];rfl)
 rw[k2]
 simp only[ac0]
 by_cases hj:j=n
 ·subst hj
  refine⟨0,7,by simp,.inr rfl,fun h=>(by cases h),fun _=>?_⟩
  have:=k3 (by omega)
  rw[fh9,show a+((j-1:Nat):Int)=b by omega]at this
  omega
 ·have:((j:Int)==(n:Int))=false:=by
   rw[beq_eq_false_iff_ne];omega
  rw[this,k6 (n:=a+(j:Int)) (by omega) (by omega)]
  have h4:=k4 (by omega)
  rw[fh8]at h4
  refine⟨a+(j:Int),0,rfl,.inl rfl,fun _=>⟨by omega,by omega,by omega,fun hp=>?_⟩,fun h=>(by cases h)⟩
  have h3:=k3 (by omega)
  rw[fh9,show a+((j-1:Nat):Int)=a+(j:Int)-1 by omega]at h3
  omega
structure ey7 (t:p6)(o w n f l:Int):Prop where
 f0:0<=f
 f1:f<=n
 l0:0<=l
 l1:l<=2560
 fit:f=0\/bO5 t o 2560 f n<=w
 more:f<n->w<bO5 t o 2560 (f+1) n
 late:l<2560->bO5 t o l f n<=w
 less:0<l->w<bO5 t o (l-1) f n
theorem cU4 {t:p6}(h:bc0 t=true){o w n:Int}(o0:0<=o/\o<=10000)(n0:1<=n/\n<=8):∀k:Nat,(k:Int)<=n->((k:Int)<n->w<bO5 t o 2560 ((k:Int)+1) n)->
  ∃f,M0 (an4 t w n (o,0)) (k:Int)=some (.inl f)/\0<=f/\f<=n/\(f=0\/bO5 t o 2560 f n<=w)/\(f<n->w<bO5 t o 2560 (f+1) n)
 |0,_,hm=>⟨0,F7 (by unfold an4;rfl),dF5 _,by omega,.inl rfl,hm⟩
 |k+1,hk,hm=>by
  have he:=(dK7 h (l:=2560) (f:=((k+1:Nat):Int)) o0 ⟨by omega,hk⟩ n0).1
  have hb:an4 t w n (o,0) ((k+1:Nat):Int)=some (bif decide (bO5 t o 2560 ((k+1:Nat):Int) n<=w)then .inr (.inl ((k+1:Nat):Int))else .inl (k:Int)):=by
   unfold an4
   rw[fh6 (show((k+1:Nat):Int)>0 by omega),he,k6 (by omega) (by omega),show((k+1:Nat):Int)-1=(k:Int) by omega]
   simp only[fh5,ac0]
   cases decide (bO5 t o 2560 ((k+1:Nat):Int) n<=w)<;>rfl
  by_cases hc:bO5 t o 2560 ((k+1:Nat):Int) n<=w
  ·rw[fh6 hc]at hb
   exact⟨_,F7 hb,by omega,hk,.inr hc,hm⟩
  ·rw[fh7 hc]at hb
   rw[I5 hb]
   exact cU4 h o0 n0 k (by omega) (fun _=>by rw[show(k:Int)+1=((k+1:Nat):Int) by omega];omega)
theorem et1 {t:p6}(h:bc0 t=true){s c w n:Int}(s0:0<=s/\s<=12000)(c0:0<=c/\c<=1048576)(w0:0<=w)(n0:1<=n/\n<=8):∃f l,an3 t s c w n=some (f,l,0)/\ey7 t (cR8 t s c) w n f l:=by
 obtain⟨h1,h2⟩:=ep9 h s0 c0
 unfold an3
 rw[h1]
 simp only[ac0]
 rw[show(((0:Int) !=0)=false)from rfl,aY9,T8 n0.1 n0.2,fh7 (show¬w<0 by omega)]
 simp only[fh3,ac0,aK4,Bool.or_self]
 generalize cR8 t s c=o at h2
 obtain⟨k,hk⟩:∃k:Nat,n=k:=⟨n.toNat,by omega⟩
 obtain⟨f,f1,f2,f3,f4,f5⟩:=cU4 h (w:=w) h2 n0 k (by omega) (fun h=>by omega)
 rw[<-hk]at f1
 rw[f1]
 simp only[ac0]
 obtain⟨j,k1,k2,k3,k4⟩:=aS5 2560 (by omega) (fun x0=>am0 x0 t o f n w) (fun i=>decide (bO5 t o (i:Int) f n<=w)) (fun i hi=>by
  unfold am0
  rw[(dK7 h h2 ⟨f2,f3⟩ n0).1];rfl)
 have k2':S7 2560 (fun x0=>am0 x0 t o f n w)=some (j:Int):=k2
 rw[k2']
 refine⟨f,(j:Int),rfl,f2,f3,by omega,by omega,f4,f5,fun hl=>?_,fun hl=>?_⟩
 ·have:=k4 (by omega)
  rwa[fh8]at this
 ·have:=k3 (by omega)
  rw[fh9,show((j-1:Nat):Int)=(j:Int)-1 by omega]at this
  omega
theorem ec7 {t:p6}(h:bc0 t=true){s c l f n:Int}(s0:0<=s/\s<=12000)(c0:0<=c/\c<=1048576)(l0:0<=l/\l<=2560)(f0:0<=f/\f<=n)(n0:1<=n/\n<=8):aw9 t s c l f n=some (bO5 t (cR8 t s c) l f n,0):=by
 obtain⟨h1,h2⟩:=ep9 h s0 c0
 unfold aw9
 rw[h1]
 simp only[ac0]
 rw[show(((0:Int) !=0)=false)from rfl,aY9,aY9,aY9,T8 l0.1 l0.2,T8 n0.1 n0.2,T8 f0.1 f0.2,(dK7 h h2 f0 n0).1]
 rfl
def cG4 (n f i:Int):Bool:=decide ((i+1)*f/n>i*f/n)
theorem eE9 {a b:Int}(ha:0<=a)(hb:0<b)(hm:a<=9223372036854775807):bo2 .i64 a b=some (a/b):=by
 have h1:a/b<=a:=eM3 _ ha
 have h2:0<=a/b:=eM7 ha (by omega)
 unfold bo2
 rw[if_neg (by omega),cW1 ha]
 have:=k6 (n:=a/b) (by omega) (by omega)
 unfold o6 at this
 rw[this]
theorem dI0 {n:Nat}{f:Int}(n0:1<=n/\n<=8)(f0:0<=f/\f<=n):as8 (n:Int) f 0=some ((dy2 n).map (fun i:Nat=>cG4 n f (i:Int)),0):=by
 unfold as8
 rw[aY9,aY9,aY9,T8 (by omega) (by omega),T8 f0.1 f0.2]
 simp only[ac0,aK4,fh3]
 rw[show inR 0 1099511627776 0=true from rfl,bW8 n (by omega)]
 simp only[ac0,aK4,fh3]
 obtain⟨u,e,hu⟩:=ah4 (cD1 n false).length (by simp;omega) (as9 (n:Int) f 0) (fun i u=>u.length=n/\∀j,j<i->u[j]? =some (cG4 n f (j:Int))) (cD1 n false) ⟨by simp,fun j hj=>by omega⟩ (fun j hj u hu=>by
  simp only[eH5]at hj
  obtain⟨hl,hg⟩:=hu
  unfold as9
  have m1:=aV2 (A:=9) (B:=8) (show 0<=(j:Int)+1 by omega) (by omega) f0.1 (by omega)
  have m2:=aV2 (A:=9) (B:=8) (show 0<=(j:Int) by omega) (by omega) f0.1 (by omega)
  have er:cg7 (o6 ((j:Int)+0)) (n:Int)=some (j:Int):=by
   unfold cg7
   rw[if_neg (by omega),Int.add_zero,k6 (by omega) (by omega),do3 (by omega),Int.emod_eq_of_lt (by omega) (by omega)]
  rw[er]
  simp only[ac0]
  rw[k6 (n:=(j:Int)+1) (by omega) (by omega),k6 (n:=((j:Int)+1)*f) (by omega) (by omega),k6 (n:=(j:Int)*f) (by omega) (by omega),eE9 m1.1 (by omega) (by omega),eE9 m2.1 (by omega) (by omega)]
  simp only[ac0]
  rw[E8 _ _ (by omega)]
  simp only[ac0]
  rw[aa6 _ _ _ (by omega)]
  refine⟨_,rfl,by simp[hl],fun i hi=>?_⟩
  rcases dh0 i j with h|h
  ·rw[fc8 (by omega)];exact hg i h
  ·have:i=j:=by omega
   subst this
   rw[List.getElem?_set_self (by omega)];rfl)
 rw[e]
 simp only[eH5]at hu
 have:u=(dy2 n).map (fun i:Nat=>cG4 n f (i:Int)):=by
  apply List.ext_getElem?
  intro i
  rcases dh0 i n with h|h
  ·rw[hu.2 i h,List.getElem?_map,List.getElem?_range h];rfl
  ·rw[ed6 (by omega),ed6 (by simp;omega)]
 rw[this]
 rfl
@[ext] structure aM4 where
 aC5:Int
 Low:Int
def aG5 (x:C8):Option Int:=
 bif ((x.Kind==1)||(x.Kind==2))then(some (o6 (2*(o6 (x.w9-1)))))else(some (o6 ((o6 (2*(o6 (x.w9-1))))+1)))
def cG1 (kind:Int):Option Bool:=
 some ((kind==1)||(kind==3))
def aQ5 (t2:u5):Option u5:=
 ab6 (ab6 (U8 ([]:List o4) t2.j5) fun l=>some (⟨t2.P8,l⟩:u5)) fun(f2:u5)=>some f2
def bz9 (s:j2):Option j2:=
 ab6 (U8 ([]:List Int) s.o9.z7) fun l=>ab6 (aQ5 s.j7) fun v=>ab6 (U8 ([]:List A6) s.Next) fun l2=>ab6 (U8 ([]:List A9) s.F3) fun l3=>some (⟨(⟨l,s.o9.P0⟩:o7),s.j8,v,l2,l3,s.Cut⟩:j2)
def bf9 (a:Int):Option Int:=
 bif (decide (a<0))then(some (aK3.wrap (0-(aK3.wrap a))))else(some (aK3.wrap a))
def bS7 (w:aM4)(c:Int)(s:Int×Int×Int):Option ((Int×Int×Int)⊕((Int×Int×Int)⊕Empty)):=
 bif (decide (s.2.2>=0))then(ab6 (et3 .u64 w.Low (aK3.wrap s.2.2)) fun q=>bif (((F1 .u64 s.1 63)==1)||(decide ((aK3.wrap ((bP4 .u64 s.1 1)+(V8 .u64 q 1)))>=c)))then(some (.inl (aK3.wrap ((aK3.wrap ((bP4 .u64 s.1 1)+(V8 .u64 q 1)))-c),aK3.wrap ((bP4 .u64 s.2.1 1)+1),o6 (s.2.2-1))))else(some (.inl (aK3.wrap ((bP4 .u64 s.1 1)+(V8 .u64 q 1)),bP4 .u64 s.2.1 1,o6 (s.2.2-1)))))else(some (.inr (.inl (s.1,s.2.1,s.2.2))))
def cn5 (w:aM4)(c:Int):Option (Int×Int×Bool):=
 bif (decide (w.aC5>=c))then(some (0,0,false))else(ab6 (M0 (bS7 w c) (w.aC5,0,63)) fun(t:(Int×Int×Int)⊕Empty)=>match t with| .inl s2=>(some (s2.2.1,s2.1,true))| .inr r=>r.elim)
def cf9 (a b2:Int):Option aM4:=
 some (⟨aK3.wrap ((aK3.wrap ((aK3.wrap ((F1 .u64 a 32)*(F1 .u64 b2 32)))+(F1 .u64 (aK3.wrap ((aK3.wrap ((F1 .u64 a 32)*(V8 .u64 b2 4294967295)))+(F1 .u64 (aK3.wrap ((V8 .u64 a 4294967295)*(V8 .u64 b2 4294967295))) 32))) 32)))+(F1 .u64 (aK3.wrap ((aK3.wrap ((V8 .u64 a 4294967295)*(F1 .u64 b2 32)))+(V8 .u64 (aK3.wrap ((aK3.wrap ((F1 .u64 a 32)*(V8 .u64 b2 4294967295)))+(F1 .u64 (aK3.wrap ((V8 .u64 a 4294967295)*(V8 .u64 b2 4294967295))) 32))) 4294967295))) 32)),aK3.wrap ((bP4 .u64 (aK3.wrap ((aK3.wrap ((V8 .u64 a 4294967295)*(F1 .u64 b2 32)))+(V8 .u64 (aK3.wrap ((aK3.wrap ((F1 .u64 a 32)*(V8 .u64 b2 4294967295)))+(F1 .u64 (aK3.wrap ((V8 .u64 a 4294967295)*(V8 .u64 b2 4294967295))) 32))) 4294967295))) 32)+(V8 .u64 (aK3.wrap ((V8 .u64 a 4294967295)*(V8 .u64 b2 4294967295))) 4294967295))⟩:aM4)
def bZ4 (a b2 c mode:Int):Option (Int×Int):=
 bif (((mode !=1)&&(mode !=2))&&(mode !=3))then(some (0,1))else(bif (c==0)then(some (0,10))else(ab6 (bf9 c) fun v=>ab6 (bf9 a) fun v2=>ab6 (bf9 b2) fun v3=>ab6 (cf9 v2 v3) fun v4=>ab6 (cn5 v4 v) fun r2=>bif (!r2.2.2)then(some (0,9))else(ab6 (bif (mode==1)then(some ((((a !=0)&&(b2 !=0))&&(!((!((decide (a<0))==(decide (b2<0))))==(decide (c<0)))))&&(decide (r2.2.1>0))))else(bif (mode==2)then(some ((!(((a !=0)&&(b2 !=0))&&(!((!((decide (a<0))==(decide (b2<0))))==(decide (c<0))))))&&(decide (r2.2.1>0))))else(bif (mode==3)then(ab6 (bif (decide (r2.2.1>(aK3.wrap (v-r2.2.1))))then(some true)else(some ((r2.2.1==(aK3.wrap (v-r2.2.1)))&&(!(((a !=0)&&(b2 !=0))&&(!((!((decide (a<0))==(decide (b2<0))))==(decide (c<0))))))))) fun b3=>some b3)else(some false)))) fun(away:Bool)=>ab6 (bif away then(bif (r2.1==18446744073709551615)then(some (Sum.inr (0,9)))else(some (Sum.inl (aK3.wrap (r2.1+1)))))else(some (Sum.inl r2.1))) fun(t:Int⊕(Int×Int))=>match t with| .inl q=>(bif (((a !=0)&&(b2 !=0))&&(!((!((decide (a<0))==(decide (b2<0))))==(decide (c<0)))))then(bif (decide (q>9223372036854775808))then(some (0,9))else(some (o6 (aK3.wrap (0-q)),0)))else(bif (decide (q>=9223372036854775808))then(some (0,9))else(some (o6 q,0))))| .inr r3=>some r3)))
def cw4 (a b2 mode:Int):Option (Int×Int):=
 ab6 (bZ4 a 1 b2 mode) fun r2=>some (r2.1,r2.2)
def cf8 (a b2:Int):Option Int:=
 ab6 (cw4 a b2 1) fun r2=>some r2.1
def cG2 (a b2:Int):Option Int:=
 ab6 (cf8 (o6 (0-a)) b2) fun v=>some (o6 (0-v))
def bO3 (s:j2)(channel i:Int):Option (Int⊕(Int⊕Int)):=
 bif (decide (i<(s.F3.length:Int)))then(ab6 (F0 s.F3 i) fun x=>ab6 (aG5 x.Event) fun v=>bif (v==channel)then(some (.inr (.inr i)))else(some (.inl (o6 (i+1)))))else(some (.inr (.inl i)))
def cg0 (s:j2)(channel:Int):Option Int:=
 ab6 (M0 (bO3 s channel) 0) fun(t:Int⊕Int)=>match t with| .inl _=>(some (-1))| .inr r2=>some r2
def bZ5 (s:j2)(s2:Int×List o4×List A9):Option ((Int×List o4×List A9)⊕((Int×List o4×List A9)⊕Empty)):=
 bif (decide (s2.1<(s2.2.1.length:Int)))then(ab6 (cg0 (⟨s.o9,s.j8,(⟨s.j7.P8,s2.2.1⟩:u5),s.Next,s2.2.2,s.Cut⟩:j2) s2.1) fun v=>ab6 (bif (decide (v<0))then(some true)else(ab6 (F0 s2.2.2 v) fun x=>some (decide (x.Left>s.j8.Q4)))) fun(v2:Bool)=>bif v2 then(some (.inl (o6 (s2.1+1),s2.2.1,s2.2.2)))else(ab6 (F0 s2.2.2 v) fun x2=>ab6 (cG2 (o6 (x2.Left*s.j8.A0)) s.j8.M5) fun v3=>bif (decide ((K2 (o6 (s.j8.At+v3)) (o6 (s.j7.P8+1)))<=1099511627776))then(ab6 (ak9 s2.2.2 v (⟨x2.Event,x2.Left,true,x2.At⟩:A9)) fun l=>ab6 (ak9 l v (⟨x2.Event,x2.Left,true,K2 (o6 (s.j8.At+v3)) (o6 (s.j7.P8+1))⟩:A9)) fun l2=>ab6 (cG1 x2.Event.Kind) fun v4=>ab6 (F0 s2.2.1 s2.1) fun x3=>ab6 (ak9 s2.2.1 s2.1 (⟨true,K2 (o6 (s.j8.At+v3)) (o6 (s.j7.P8+1)),v4,x3.M9⟩:o4)) fun l3=>some (.inl (o6 (s2.1+1),l3,l2)))else(some (.inl (o6 (s2.1+1),s2.2.1,s2.2.2)))))else(some (.inr (.inl (s2.1,s2.2.1,s2.2.2))))
def cw5 (s:j2):Option j2:=
 bif (s.Cut||(!s.j8.L9))then(some s)else(ab6 (M0 (bZ5 s) (0,s.j7.j5,s.F3)) fun(t:(Int×List o4×List A9)⊕Empty)=>match t with| .inl s3=>(some (⟨s.o9,s.j8,(⟨s.j7.P8,s3.2.1⟩:u5),s.Next,s3.2.2,s.Cut⟩:j2))| .inr r=>r.elim)
def bS9 (t2:u5)(s:Int×Bool×Int):Option ((Int×Bool×Int)⊕((Int×Bool×Int)⊕Empty)):=
 bif (decide (s.2.2<(t2.j5.length:Int)))then(ab6 (F0 t2.j5 s.2.2) fun x=>ab6 (bif x.F6 then(ab6 (bif (!s.2.1)then(some true)else(some (decide (x.At<s.1)))) fun b2=>some b2)else(some false)) fun b3=>bif b3 then(some (.inl (x.At,true,o6 (s.2.2+1))))else(some (.inl (s.1,s.2.1,o6 (s.2.2+1)))))else(some (.inr (.inl (s.1,s.2.1,s.2.2))))
def bg1 (t2:u5):Option (Int×Bool):=
 ab6 (M0 (bS9 t2) (0,false,0)) fun(t:(Int×Bool×Int)⊕Empty)=>match t with| .inl s2=>(some (s2.1,s2.2.1))| .inr r=>r.elim
def bF5 (s:List o5×Int×Bool×List o4)(s2:Int×List o4×List o5):Option ((Int×List o4×List o5)⊕((Int×List o4×List o5)⊕Empty)):=
 bif (decide (s2.1<(s2.2.1.length:Int)))then(ab6 (F0 s2.2.1 s2.1) fun x=>bif ((!x.F6)||(x.At !=s.2.1))then(some (.inl (o6 (s2.1+1),s2.2.1,s2.2.2)))else(ab6 (bif (!(x.M9==x.Next))then(ab6 (U8 s2.2.2 ([(⟨s.2.1,s2.1,x.Next⟩:o5)]:List o5)) fun l=>some l)else(some s2.2.2)) fun(f2:List o5)=>ab6 (ak9 s2.2.1 s2.1 (⟨false,0,false,x.Next⟩:o4)) fun l2=>some (.inl (o6 (s2.1+1),l2,f2))))else(some (.inr (.inl (s2.1,s2.2.1,s2.2.2))))
def bF4 (M8:Int)(v:u5)(s:List o5×Int×Bool×List o4):Option ((List o5×Int×Bool×List o4)⊕((List o5×Int×Bool×List o4)⊕Empty)):=
 bif (s.2.2.1&&(decide (s.2.1<=M8)))then(ab6 (M0 (bF5 s) (0,s.2.2.2,s.1)) fun(t:(Int×List o4×List o5)⊕Empty)=>match t with| .inl s3=>(ab6 (bg1 (⟨v.P8,s3.2.1⟩:u5)) fun r3=>some (.inl (s3.2.2,r3.1,r3.2,s3.2.1)))| .inr r=>r.elim)else(some (.inr (.inl (s.1,s.2.1,s.2.2.1,s.2.2.2))))
def bS8 (t2:u5)(M8:Int):Option (u5×List o5):=
 ab6 (aQ5 t2) fun v=>ab6 (bg1 v) fun r2=>ab6 (M0 (bF4 M8 v) (([]:List o5),r2.1,r2.2,v.j5)) fun(t:(List o5×Int×Bool×List o4)⊕Empty)=>match t with| .inl s4=>(some ((⟨M8,s4.2.2.2⟩:u5),s4.1))| .inr r=>r.elim
def cg1 (s2:List o5×j2)(r2:Int×Bool)(s3:List A9×Int):Option ((List A9×Int)⊕((List A9×Int)⊕Empty)):=
 bif (decide (s3.2<(s2.2.F3.length:Int)))then(ab6 (F0 s2.2.F3 s3.2) fun x=>ab6 (bif (!x.F6)then(some true)else(some (x.At !=r2.1))) fun b2=>bif b2 then(ab6 (U8 s3.1 ([x]:List A9)) fun l2=>some (.inl (l2,o6 (s3.2+1))))else(some (.inl (s3.1,o6 (s3.2+1)))))else(some (.inr (.inl (s3.1,s3.2))))
def dH5 (M8:Int)(s2:List o5×j2):Option ((List o5×j2)⊕((List o5×j2)⊕Empty)):=
 ab6 (bg1 (⟨s2.2.j7.P8,s2.2.j7.j5⟩:u5)) fun r2=>bif ((!r2.2)||(decide (r2.1>M8)))then(some (.inr (.inl (s2.1,(⟨(⟨s2.2.o9.z7,s2.2.o9.P0⟩:o7),(⟨s2.2.j8.L9,s2.2.j8.At,s2.2.j8.E3,s2.2.j8.A0,s2.2.j8.M5,s2.2.j8.Q4⟩:B8),(⟨s2.2.j7.P8,s2.2.j7.j5⟩:u5),s2.2.Next,s2.2.F3,s2.2.Cut⟩:j2)))))else(ab6 (bS8 (⟨s2.2.j7.P8,s2.2.j7.j5⟩:u5) r2.1) fun r3=>ab6 (U8 s2.1 r3.2) fun l=>ab6 (M0 (cg1 s2 r2) (([]:List A9),0)) fun(t:(List A9×Int)⊕Empty)=>match t with| .inl s4=>(ab6 (cw5 (⟨(⟨s2.2.o9.z7,s2.2.o9.P0⟩:o7),(⟨s2.2.j8.L9,s2.2.j8.At,s2.2.j8.E3,s2.2.j8.A0,s2.2.j8.M5,s2.2.j8.Q4⟩:B8),r3.1,s2.2.Next,s4.1,s2.2.Cut⟩:j2)) fun v2=>some (.inl (l,v2)))| .inr r=>r.elim)
end Go.Pv
namespace Go.Pv.Ev
open Go Go.Pv
theorem da2 {α:Type}(c:Bool)(x y:α):(bif c then some x else some y)=some (bif c then x else y):=by cases c<;>rfl
theorem eN4 {p:Prop}[Decidable p]{b:Bool}(h:p↔b=true):decide p=b:=by
 cases b
 ·exact fh7 fun hp=>Bool.noConfusion (h.1 hp)
 ·exact fh6 (h.2 rfl)
theorem bT3 {α:Type}[DecidableEq α]:∀{l m:List α},l.Nodup->(∀x∈l,x∈m)->m.length<=l.length->l.Perm m
 |[],m,_,_,h=>by
  have:m=[]:=List.length_eq_zero_iff.1 (Nat.le_zero.1 h)
  rw[this]
 |x::l,m,hn,hs,hl=>by
  have hx:x∈m:=hs x (bL5 ..)
  have hp:=List.perm_cons_erase hx
  rw[List.nodup_cons]at hn
  have hlen:=hp.length_eq
  simp only[bu6]at hlen hl
  refine(List.Perm.cons x (bT3 hn.2 (fun y hy=>?_) (by omega))).trans hp.symm
  have hne:y≠x:=fun h=>hn.1 (h▸hy)
  exact(List.mem_erase_of_ne hne).2 (hs y (List.mem_cons_of_mem _ hy))
theorem dZ8 {l:List Int}:(∀k,k<l.length->((k:Int)+1)∈l)↔(∀x∈l,1<=x/\x<=l.length)/\l.Nodup:=by
 have hN:((dy2 l.length).map (fun k:Nat=>(k:Int)+1)).Nodup:=by
  unfold List.Nodup
  rw[List.pairwise_map]
  exact List.Pairwise.imp (fun{a b} h=>by omega) List.pairwise_lt_range
 have hm:∀x:Int,x∈(dy2 l.length).map (fun k:Nat=>(k:Int)+1)↔1<=x/\x<=l.length:=by
  intro x
  rw[cZ1]
  constructor
  ·rintro⟨k,hk,rfl⟩
   rw[ed7]at hk
   omega
  ·intro h
   exact⟨(x-1).toNat,by rw[ed7];omega,by omega⟩
 constructor
 ·intro h
  have hp:((dy2 l.length).map (fun k:Nat=>(k:Int)+1)).Perm l:=bT3 hN (fun x hx=>by
   rw[cZ1]at hx
   obtain⟨k,hk,rfl⟩:=hx
   exact h k (ed7.1 hk)) (by simp)
  exact⟨fun x hx=>(hm x).1 (hp.mem_iff.2 hx),hp.nodup_iff.1 hN⟩
 ·rintro⟨h1,h2⟩ k hk
  have hp:l.Perm ((dy2 l.length).map (fun k:Nat=>(k:Int)+1)):=bT3 h2 (fun x hx=>(hm x).2 (h1 x hx)) (by simp)
  exact hp.mem_iff.2 ((hm _).2 (by omega))
def idx (v:Int):List Int->Nat->Int
 |[],_=>-1
 |x::l,i=>bif v==x then(i:Int)else idx v l (i+1)
theorem cQ3 (v:Int):∀(l:List Int) (i:Nat),(idx v l i= -1/\v∉l)\/∃k:Nat,idx v l i=((i+k:Nat):Int)/\l[k]? =some v
 |[],i=>.inl ⟨rfl,by simp⟩
 |x::l,i=>by
  unfold idx
  cases h:v==x
  ·have hne:v≠x:=by simpa using h
   rcases cQ3 v l (i+1)with⟨h1,h2⟩|⟨k,h1,h2⟩
   ·exact .inl ⟨h1,by simp[hne,h2]⟩
   ·exact .inr ⟨k+1,by simp only[fh3];rw[h1];omega,by simpa using h2⟩
  ·have:v=x:=by simpa using h
   exact .inr ⟨0,by simp,by simp[this]⟩
theorem dO6 (v:Int)(l:List Int):decide (idx v l 0>=0)=decide (v∈l):=by
 rcases cQ3 v l 0 with⟨h1,h2⟩|⟨k,h1,h2⟩
 ·rw[h1];simp[h2]
 ·rw[h1];simp[List.mem_of_getElem? h2]
theorem dd0 (v:Int):∀(l:List Int) (i:Nat),(ab6 (N3 (fun(i:Int) x (_:Unit)=>bif (v==x)then(some (Fl.ret i))else(some (Fl.next ()))) l (i:Int) ()) fun(t:Unit⊕Int)=>match t with| .inl _=>(some (-1))| .inr r2=>some r2)=some (idx v l i)
 |[],i=>rfl
 |x::l,i=>by
  simp only[N3,idx]
  cases v==x
  ·simpa using dd0 v l (i+1)
  ·rfl
theorem bS6 (s:List Int)(v:Int)(h:s.length<=9223372036854775807):Y8 s v=some (idx v s 0):=by
 unfold Y8
 have:N1 (s.length:Int) (ap1 s v) ()=N3 (fun(i:Int) x (_:Unit)=>bif (v==x)then(some (Fl.ret i))else(some (Fl.next ()))) s 0 ():=bc9 s h _ ()
 rw[this]
 exact dd0 v s 0
theorem contains_eq (s:List Int)(v:Int)(h:s.length<=9223372036854775807):S1 s v=some (decide (v∈s)):=by
 unfold S1
 rw[bS6 s v h,ac0,dO6]
def aE8 (e:o7):Prop:=1<=e.z7.length/\e.z7.length<=8/\0<=e.P0/\e.P0<46080/\(∀x∈e.z7,1<=x/\x<=(e.z7.length:Int))/\e.z7.Nodup
instance (e:o7):Decidable (aE8 e):=by unfold aE8;infer_instance
theorem ek7 {e:o7}(h:(((decide ((e.z7.length:Int)<1))||(decide ((e.z7.length:Int)>8)))|| !((decide (e.P0>=0))&&(decide (e.P0<46080))))=true):¬aE8 e:=by
 rintro⟨h1,h2,h3,h4,_⟩
 simp only[cx1,bZ6,eZ6,fh8,fh9]at h
 omega
theorem ek8 {e:o7}(h:(((decide ((e.z7.length:Int)<1))||(decide ((e.z7.length:Int)>8)))|| !((decide (e.P0>=0))&&(decide (e.P0<46080))))=false):1<=e.z7.length/\e.z7.length<=8/\0<=e.P0/\e.P0<46080:=by
 simp only[bG8,Bool.not_eq_false',au2,fh8,fh9]at h
 omega
theorem cb7 {n:Nat}{p:Nat->Bool}:(ed5 0 n).all p=true↔∀k,k<n->p k=true:=by
 rw[by6]
 constructor
 ·intro h k hk
  exact h k (by rw[List.mem_range'_1];omega)
 ·intro h k hk
  rw[List.mem_range'_1]at hk
  exact h k (by omega)
theorem ap4 (e:o7):R3 e=some (decide (aE8 e)):=by
 unfold R3 ai9
 have hb:(ab6 (bif ((decide ((e.z7.length:Int)<1))||(decide ((e.z7.length:Int)>8)))then(some true)else(ab6 (some ((decide (e.P0>=0))&&(decide (e.P0<46080)))) fun v=>some (!v))):(Bool->Option Bool)->Option Bool)=fun k=>k (((decide ((e.z7.length:Int)<1))||(decide ((e.z7.length:Int)>8)))|| !((decide (e.P0>=0))&&(decide (e.P0<46080)))):=by
  funext k
  cases((decide ((e.z7.length:Int)<1))||(decide ((e.z7.length:Int)>8)))<;>rfl
 rw[hb]
 cases hh:(((decide ((e.z7.length:Int)<1))||(decide ((e.z7.length:Int)>8)))|| !((decide (e.P0>=0))&&(decide (e.P0<46080))))
 ·obtain⟨h1,h2,h3,h4⟩:=ek8 hh
  have k:=dY2 (mb:=at6 e) (fun i=>(i:Int)+1) (p:=fun i=>decide (((i:Int)+1)∈e.z7)) (b0:=.inl ((e.z7.length:Int)+1)) (b1:=.inr false) e.z7.length (by
   unfold at6
   rw[show decide ((e.z7.length:Int)+1<=(e.z7.length:Int))=false by simp;omega];rfl) (fun k hk=>by
   unfold at6
   simp only[show decide ((k:Int)+1<=(e.z7.length:Int))=true by simp;omega,fh5,contains_eq e.z7 _ (by omega),ac0,k6 (n:=(k:Int)+1+1) (by omega) (by omega)]
   cases decide (((k:Int)+1)∈e.z7)<;>rfl)
  simp only[show((0:Nat):Int)+1=1 from rfl]at k
  simp only[fh3]
  rw[k]
  have hP:aE8 e↔(ed5 0 e.z7.length).all (fun i=>decide (((i:Int)+1)∈e.z7))=true:=by
   rw[cb7]
   simp only[fh8]
   rw[dZ8]
   unfold aE8
   constructor
   ·rintro⟨_,_,_,_,h5,h6⟩;exact⟨h5,h6⟩
   ·rintro⟨h5,h6⟩;exact⟨h1,h2,h3,h4,h5,h6⟩
  rw[eN4 hP]
  cases(ed5 0 e.z7.length).all (fun i=>decide (((i:Int)+1)∈e.z7))<;>rfl
 ·simp only[fh5]
  rw[fh7 (ek7 hh)]
end Go.Pv.Ev
namespace Go.Pv
open Go
def k0:D0:=⟨0,100,0⟩
def eK9:z8:=⟨⟨0,0,false⟩,⟨0⟩,[],⟨false,false,0,0,[]⟩,0,⟨0,0⟩⟩
def dI2:I2:=⟨false,false,1000,0,cD1 9 ⟨0,0⟩⟩
def eD7 (n:Nat):z8:=⟨⟨0,0,false⟩,⟨0⟩,cD1 n k0,dI2,0,⟨0,-1⟩⟩
theorem ea9 (n:Nat)(h1:1<=n)(h8:n<=8):S4 [k0] (n:Int)=some (cD1 n k0):=by
 have key:M0 aK1 (1,aJ5 (cD1 n ⟨0,0,0⟩) [k0])=some (.inl ((n:Int),cD1 n k0)):=by
  have:n=1\/n=2\/n=3\/n=4\/n=5\/n=6\/n=7\/n=8:=by omega
  rcases this with rfl|rfl|rfl|rfl|rfl|rfl|rfl|rfl
  ·exact F7 (by rfl)
  ·exact(I5 (s':=(2,[k0,k0])) (by rfl)).trans (F7 (by rfl))
  ·exact(I5 (s':=(2,[k0,k0,⟨0,0,0⟩])) (by rfl)).trans ((I5 (s':=(3,[k0,k0,k0])) (by rfl)).trans (F7 (by rfl)))
  ·exact(I5 (s':=(2,[k0,k0,⟨0,0,0⟩,⟨0,0,0⟩])) (by rfl)).trans ((I5 (s':=(4,[k0,k0,k0,k0])) (by rfl)).trans (F7 (by rfl)))
  ·exact(I5 (s':=(2,[k0,k0,⟨0,0,0⟩,⟨0,0,0⟩,⟨0,0,0⟩])) (by rfl)).trans ((I5 (s':=(4,[k0,k0,k0,k0,⟨0,0,0⟩])) (by rfl)).trans ((I5 (s':=(5,[k0,k0,k0,k0,k0])) (by rfl)).trans (F7 (by rfl))))
  ·exact(I5 (s':=(2,[k0,k0,⟨0,0,0⟩,⟨0,0,0⟩,⟨0,0,0⟩,⟨0,0,0⟩])) (by rfl)).trans ((I5 (s':=(4,[k0,k0,k0,k0,⟨0,0,0⟩,⟨0,0,0⟩])) (by rfl)).trans ((I5 (s':=(6,[k0,k0,k0,k0,k0,k0])) (by rfl)).trans (F7 (by rfl))))
  ·exact(I5 (s':=(2,[k0,k0,⟨0,0,0⟩,⟨0,0,0⟩,⟨0,0,0⟩,⟨0,0,0⟩,⟨0,0,0⟩])) (by rfl)).trans ((I5 (s':=(4,[k0,k0,k0,k0,⟨0,0,0⟩,⟨0,0,0⟩,⟨0,0,0⟩])) (by rfl)).trans ((I5 (s':=(7,[k0,k0,k0,k0,k0,k0,k0])) (by rfl)).trans (F7 (by rfl))))
  ·exact(I5 (s':=(2,[k0,k0,⟨0,0,0⟩,⟨0,0,0⟩,⟨0,0,0⟩,⟨0,0,0⟩,⟨0,0,0⟩,⟨0,0,0⟩])) (by rfl)).trans ((I5 (s':=(4,[k0,k0,k0,k0,⟨0,0,0⟩,⟨0,0,0⟩,⟨0,0,0⟩,⟨0,0,0⟩])) (by rfl)).trans ((I5 (s':=(8,[k0,k0,k0,k0,k0,k0,k0,k0])) (by rfl)).trans (F7 (by rfl))))
 have a1:bB5 (aK3.wrap (([k0]:List D0).length:Int)) (aK3.wrap (n:Int))=some (0,(n:Int)):=by
  have:n=1\/n=2\/n=3\/n=4\/n=5\/n=6\/n=7\/n=8:=by omega
  rcases this with rfl|rfl|rfl|rfl|rfl|rfl|rfl|rfl<;>rfl
 have a2:aY2 (o6 (n:Int)) (⟨0,0,0⟩:D0)=some (cD1 n ⟨0,0,0⟩):=by
  have:n=1\/n=2\/n=3\/n=4\/n=5\/n=6\/n=7\/n=8:=by omega
  rcases this with rfl|rfl|rfl|rfl|rfl|rfl|rfl|rfl<;>rfl
 have a3:(((min ([k0]:List D0).length (cD1 n (⟨0,0,0⟩:D0)).length:Nat):Int))=1:=by rw[eH5,cH0];omega
 unfold S4
 rw[fh7 (by omega),fh3,ac0,a1,ac0]
 simp only
 rw[fh7 (by omega:¬(0:Int)>0),fh7 (by omega),fd0,fh3,ac0,a2,ac0,a3,key]
 rfl
theorem ea3:aL9=some dI2:=rfl
theorem bR4 (e:o7):aA5 e=some (bif decide (Ev.aE8 e)then(eD7 e.z7.length,0)else(eK9,1)):=by
 unfold aA5
 rw[Ev.ap4,ac0]
 by_cases h:Ev.aE8 e
 ·rw[fh6 h,aK4,fh3]
  have h1:=h.1
  have h8:=h.2.1
  have:aU9 (e.z7.length:Int)=some (cD1 e.z7.length k0,0):=by
   unfold aU9
   rw[fh7 (by omega),fh7 (by omega),fd0,fh3,show([(⟨0,100,0⟩:D0)]:List D0)=[k0]from rfl,ea9 _ h1 h8]
   rfl
  rw[this,ea3]
  rfl
 ·rw[fh7 h];rfl
def cY2 (p:L4):Bool:=decide (0<=p.Value/\p.Value<=1000/\0<=p.O8/\p.O8<=3/\(p.ai8=true↔p.O8=3)/\(p.ai8=true->p.Value<=200))
theorem eq3 (p:L4):ay0 p=some (cY2 p):=by
 obtain⟨v,d,f⟩:=p
 unfold ay0 cY2
 cases f
 ·simp only[fh3,ac0,aj7]
  apply bc3
  by_cases q:d=3<;>simp[q]<;>omega
 ·simp only[fh5,ac0,aj7]
  apply bc3
  by_cases q:d=3<;>simp[q]<;>omega
def da4 (c:ad1):Bool:=inR (-100) 100 c.Value&&inR 0 1000 c.F2
def cR3 (p:I2):Bool:=inR 750 1250 p.P3&&inR 0 1000 p.av7&&decide (p.Cells.length=9)&&(p.Q8||(decide (p.P3=1000)&&decide (p.av7=0)&& !p.ay2))&&p.Cells.all da4
theorem ei3 (c:ad1):ad3 c=some (!da4 c):=by
 unfold ad3 da4
 rw[show U9 c.Value (-100) 100=some (inR (-100) 100 c.Value)from rfl,show U9 c.F2 0 1000=some (inR 0 1000 c.F2)from rfl]
 cases inR (-100) 100 c.Value<;>rfl
theorem dH7 (p:I2):ae4 p=some (cR3 p):=by
 unfold ae4 cR3
 rw[show U9 p.P3 750 1250=some (inR 750 1250 p.P3)from rfl,show U9 p.av7 0 1000=some (inR 0 1000 p.av7)from rfl,ac0]
 cases inR 750 1250 p.P3
 ·rfl
 cases inR 0 1000 p.av7
 ·rfl
 by_cases h9:p.Cells.length=9
 ·have:((p.Cells.length:Int) !=9)=false:=by simp;omega
  have k:T5 p.Cells ad3=some (p.Cells.any fun c=>!da4 c):=aj2 p.Cells (by omega) ad3 _ (fun c _=>ei3 c)
  rw[this,k,fh6 h9,dZ2]
  simp only[aK4,fh3,ac0,cJ4,fd0,eK8]
  cases p.Q8
  ·have e:((p.P3 !=1000||p.av7 !=0)||p.ay2)= !(decide (p.P3=1000)&&decide (p.av7=0)&& !p.ay2):=by
    cases p.ay2<;>by_cases a:p.P3=1000<;>by_cases b:p.av7=0<;>simp[a,b]
   simp only[cI8,fh5,ac0,ed1]
   rw[e]
   cases(decide (p.P3=1000)&&decide (p.av7=0)&& !p.ay2)<;>rfl
  ·rfl
 ·have:((p.Cells.length:Int) !=9)=true:=by simp;omega
  rw[this,fh7 h9]
  rfl
def knB (k:D0):Bool:=inR 0 960 k.au3&&inR 0 4095 k.aI6&&decide (k.Quiet>=0)&&decide (k.Quiet<=99)
theorem eJ5 (k:D0):ax5 k=some (knB k):=by
 unfold ax5 knB
 rw[show ai5 k.aI6=some (inR 0 4095 k.aI6)from rfl,show(decide (k.au3>=0)&&decide (k.au3<=960))=inR 0 960 k.au3 from rfl]
 have e:decide (k.Quiet<100)=decide (k.Quiet<=99):=by apply bc3;rw[fh8,fh8];omega
 rw[e]
 cases inR 0 960 k.au3<;>rfl
def bz6 (e:o7)(c:z8):Bool:=decide (Ev.aE8 e)&&cY2 c.C5&&cR3 c.B2&&decide (c.R7.length=e.z7.length)&&c.R7.all knB&&inR (-4398046511104) 4398046511104 c.G6.Sum&&inR 0 1073741824 c.H9&&inR (-5000) 10000 c.L8.j9&&inR (-1) 15 c.L8.I7
theorem dO2 (e:o7)(c:z8):ar1 e c=some (bz6 e c):=by
 unfold ar1 bz6
 rw[Ev.ap4,eq3,dH7]
 simp only[ac0]
 by_cases h:Ev.aE8 e
 ·rw[fh6 h]
  cases cY2 c.C5
  ·rfl
  cases cR3 c.B2
  ·rfl
  by_cases hl:c.R7.length=e.z7.length
  ·have:((c.R7.length:Int) !=(e.z7.length:Int))=false:=by simp;omega
   have h8:=h.2.1
   have k:K8 c.R7 al4=some (c.R7.any fun k=>!knB k):=aj2 c.R7 (by omega) al4 _ (fun k _=>by unfold al4;rw[eJ5];rfl)
   rw[this,fh6 hl,k,dZ2]
   simp only[aK4,fh3,ac0,cJ4,fd0,eK8]
   rw[show L5 c.G6.Sum (-4398046511104) 4398046511104=some (inR (-4398046511104) 4398046511104 c.G6.Sum)from rfl,show L5 c.H9 0 1073741824=some (inR 0 1073741824 c.H9)from rfl,
    show L5 c.L8.j9 (-5000) 10000=some (inR (-5000) 10000 c.L8.j9)from rfl,show L5 c.L8.I7 (-1) 15=some (inR (-1) 15 c.L8.I7)from rfl]
   cases c.R7.all knB
   ·rfl
   cases inR (-4398046511104) 4398046511104 c.G6.Sum
   ·rfl
   cases inR 0 1073741824 c.H9
   ·rfl
   cases inR (-5000) 10000 c.L8.j9<;>rfl
  ·have:((c.R7.length:Int) !=(e.z7.length:Int))=true:=by simp;omega
   rw[this,fh7 hl];rfl
 ·rw[fh7 h];rfl
def cT9 (r:j6):Bool:=decide (0<=r.I7/\r.I7<=15/\0<=r.G5/\r.G5<=15/\ -5000<=r.j9/\r.j9<=10000/\(r.Kind=1\/(r.I7<=1/\(r.Kind=2\/r.Kind=3))))
theorem dI9 (r:j6):V1 r=some (cT9 r):=by
 obtain⟨s,k,t,p⟩:=r
 unfold V1 cT9 R8
 simp only
 cases hb:((((decide (s<0))||(decide (s>15)))||(decide (p<0)))||(decide (p>15)))
 ·rw[fh3,ac0,ac0]
  cases ht:(decide (t>= -5000)&&decide (t<=10000))
  ·rw[cI8,fh5,aj7]
   symm;rw[fh9]
   simp at hb ht;omega
  ·rw[aK4,fh3]
   simp at hb ht
   by_cases q:k=1
   ·subst q
    simp;omega
   ·have:(k==1)=false:=by simp;exact q
    rw[this,fh3]
    by_cases z:s<=1
    ·rw[fh6 z,fh5,ac0,ac0,aj7]
     apply bc3
     simp;omega
    ·rw[fh7 z,fh3,ac0,ac0,aj7]
     symm;rw[fh9];omega
 ·rw[fh5,ac0,fh5,aj7]
  symm;rw[fh9]
  simp at hb;omega
def eh0 (i:X5)(n:Int):Bool:=inR 1 8 n&&decide ((i.W7.length:Int)=n)&&decide (i.Requests.length<=30)&&inR 0 12000 i.C9&&inR 50 3000 i.G0&&inR (-40) 150 i.C6&&inR (-40) 150 i.ap5&&inR 0 20000 i.az4&&inR 0 20000 i.Lambda&&i.W7.all (inR 0 4095)&&i.Requests.all cT9
theorem eN2 (x lo hi:Int):L5 x lo hi=some (inR lo hi x):=rfl
theorem eM1 (i:X5)(n:Int):aw2 i n=some (eh0 i n):=by
 unfold aw2 eh0
 simp only[eN2,ac0]
 cases hn:inR 1 8 n
 ·rfl
 have hn':1<=n/\n<=8:=by unfold inR at hn;simp at hn;omega
 by_cases hl:(i.W7.length:Int)=n
 ·by_cases hr:i.Requests.length<=30
  ·have k:F5 i.Requests ai4=some (i.Requests.any fun k=>!cT9 k):=aj2 i.Requests (by omega) ai4 _ (fun k _=>by unfold ai4;rw[dI9];rfl)
   have h1:((i.W7.length:Int) !=n)=false:=by simp;exact hl
   rw[h1,fh7 (by omega),fh6 hl,fh6 hr,k,be7 _ (by omega),dZ2]
   simp only[aK4,fh3,ac0,cJ4,fd0,eK8]
   cases inR 0 12000 i.C9
   ·rfl
   cases inR 50 3000 i.G0
   ·rfl
   cases inR (-40) 150 i.C6
   ·rfl
   cases inR (-40) 150 i.ap5
   ·rfl
   cases inR 0 20000 i.az4
   ·rfl
   cases inR 0 20000 i.Lambda
   ·rfl
   cases i.W7.all (inR 0 4095)<;>rfl
  ·rw[fh6 (by omega:(i.Requests.length:Int)>30),fh7 hr,Bool.or_true,fe7];rfl
 ·have h1:((i.W7.length:Int) !=n)=true:=by simp;exact hl
  rw[h1,fh7 hl];rfl
structure eV7 (p:L4):Prop where
 v:0<=p.Value/\p.Value<=1000
 d:0<=p.O8/\p.O8<=3
 f:p.ai8=true↔p.O8=3
 l:p.ai8=true->p.Value<=200
theorem dP7 {p:L4}:cY2 p=true↔eV7 p:=by
 unfold cY2
 rw[fh8]
 exact⟨fun⟨a,b,c,d,e,f⟩=>⟨⟨a,b⟩,⟨c,d⟩,e,f⟩,fun⟨⟨a,b⟩,⟨c,d⟩,e,f⟩=>⟨a,b,c,d,e,f⟩⟩
def dx1 (p:L4)(a b:Int):L4:=
 let f:=min (max a 0) 1000
 let s:=2*min (max b 0) 500
 let w:=decide (max (f-s) (s-f)>50)
 let d:=if w then min 3 (p.O8+1)else if p.ai8 then p.O8 else 0
 if d=3 then⟨min (min f s) 200,d,true⟩else if w then⟨min (min f s) p.Value,d,false⟩else⟨f,d,false⟩
theorem cS3 {p:L4}(h:cY2 p=true)(a b:Int):aN3 p a b=some (dx1 p a b,0)/\cY2 (dx1 p a b)=true:=by
 have k:=dP7.1 h
 have k1:=k.v;have k2:=k.d;have k3:=k.f;have k4:=k.l
 constructor
 ·unfold aN3 dx1
  rw[eq3,h,aD0,aD0]
  simp only[ac0,aK4,fh3,ar5,ap6]
  have f0:0<=min (max a 0) 1000/\min (max a 0) 1000<=1000:=by omega
  have s0:0<=min (max b 0) 500/\min (max b 0) 500<=500:=by omega
  generalize min (max a 0) 1000=f at f0
  generalize min (max b 0) 500=s at s0
  rw[k6 (n:=2*s) (by omega) (by omega),k6 (n:=f-2*s) (by omega) (by omega),k6 (n:=2*s-f) (by omega) (by omega),k6 (n:=p.O8+1) (by omega) (by omega)]
  cases hw:decide (max (f-2*s) (2*s-f)>50)
  ·simp only[fh3,do8,if_false]
   cases hf:p.ai8
   ·simp only[cI8,fh5,ac0,do8,if_false]
    rfl
   ·have:=k3.1 hf
    simp only[aK4,fh3,ac0,if_true]
    rw[this]
    rfl
  ·simp only[fh5,ac0,if_true]
   by_cases hd:min 3 (p.O8+1)=3
   ·rw[hd];rfl
   ·rw[if_neg hd,show(min 3 (p.O8+1)==3)=false from beq_eq_false_iff_ne.2 hd];rfl
 ·rw[dP7]
  unfold dx1
  simp only
  have f0:0<=min (max a 0) 1000/\min (max a 0) 1000<=1000:=by omega
  have s0:0<=min (max b 0) 500/\min (max b 0) 500<=500:=by omega
  generalize min (max a 0) 1000=f at f0
  generalize min (max b 0) 500=s at s0
  have hd:∀w:Bool,0<=(if w=true then min 3 (p.O8+1)else if p.ai8=true then p.O8 else 0)/\(if w=true then min 3 (p.O8+1)else if p.ai8=true then p.O8 else 0)<=3:=by
   intro w;split
   ·omega
   ·split<;>omega
  have hd:=hd (decide (max (f-2*s) (2*s-f)>50))
  generalize(if decide (max (f-2*s) (2*s-f)>50)=true then min 3 (p.O8+1)else if p.ai8=true then p.O8 else 0)=d at hd
  by_cases h3:d=3
  ·rw[if_pos h3];exact⟨by simp only;omega,hd,⟨fun _=>h3,fun _=>rfl⟩,fun _=>by simp only;omega⟩
  ·rw[if_neg h3]
   split
   ·exact⟨by simp only;omega,hd,⟨fun h=>(by cases h),fun h=>absurd h h3⟩,fun h=>(by cases h)⟩
   ·exact⟨by simp only;omega,hd,⟨fun h=>(by cases h),fun h=>absurd h h3⟩,fun h=>(by cases h)⟩
def dB6 (t:p6)(v s:Int):Int:=min (max (sAt t.R6 s v) (-5000)) 10000
theorem eH7 {t:p6}(h:br7 t.R6=true){v s:Int}(v0:0<=v/\v<=1000)(s0:0<=s/\s<=12000):aN4 t v s=some (dB6 t v s,0):=by
 unfold aN4
 rw[ap4,h,cU1 h]
 simp only[ac0,aK4,fh3]
 rw[show(((decide (v<0))||(decide (v>1000)))||(decide (s<0)))=false by simp only[bG8,fh9];omega,show decide (s>12000)=false from fh7 (by omega),aD0,ar5,ap6]
 rfl
theorem dL0 (t:p6)(v s:Int):-5000<=dB6 t v s/\dB6 t v s<=10000:=by unfold dB6;omega
def cy7 (c:Int):Int:=if c<= -20 then 1200 else if c>=70 then 800 else 1200-400*(c+20)/90
theorem dK3 {c:Int}(h:-40<=c/\c<=150):ax4 c=some (cy7 c)/\800<=cy7 c/\cy7 c<=1200:=by
 unfold ax4 cy7
 by_cases h1:c<= -20
 ·rw[fh6 h1,if_pos h1];exact⟨rfl,by omega,by omega⟩
 ·by_cases h2:c>=70
  ·rw[fh7 h1,fh6 h2,if_neg h1,if_pos h2];exact⟨rfl,by omega,by omega⟩
  ·rw[fh7 h1,fh7 h2,if_neg h1,if_neg h2,k6 (n:=c+20) (by omega) (by omega),k6 (n:=400*(c+20)) (by omega) (by omega),cW1 (by omega),k6 (n:=400*(c+20)/90) (by omega) (by omega),k6 (by omega) (by omega)]
   exact⟨rfl,by omega,by omega⟩
def dC8 (v s c:Int):Bool:=inR 0 19 v&&(inR 0 12000 s&&decide (s<cy7 c+300))
theorem ef0 {v s c:Int}(h:-40<=c/\c<=150):ax3 v s c=some (dC8 v s c):=by
 obtain⟨h1,h2⟩:=dK3 h
 unfold ax3 bc8 dC8
 rw[h1,show(decide (v>=0)&&decide (v<20))=inR 0 19 v by unfold inR;congr 1;rw[decide_eq_decide];omega,show ak4 s=some (inR 0 12000 s)from rfl]
 simp only[ac0]
 rw[k6 (by omega) (by omega)]
 cases inR 0 19 v<;>cases inR 0 12000 s<;>rfl
def bV2 (s:B9):Prop:=-4398046511104<=s.Sum/\s.Sum<=4398046511104
theorem eC5 {s:B9}{g:ak0}(hg:cB0 g=true)(hs:bV2 s){e:Int}(e0:-1048576<=e/\e<=1048576):∃s' u,ar4 s g e=some (s',u,0)/\bV2 s':=by
 have hs':=hs
 unfold bV2 at hs'
 unfold ar4
 rw[show T0 g=some (cB0 g)from rfl,hg]
 simp only[ac0]
 rw[show((!true||decide (s.Sum<(-4398046511104)))||decide (s.Sum>4398046511104))=false by simp only[aK4,ed1,bG8,fh9];omega]
 rw[show(decide (e<(-1048576))||decide (e>1048576))=false by simp only[bG8,fh9];omega]
 simp only[fh3]
 generalize F1 .i64 (o6 ((o6 (g.P*e))+s.Sum)) 10=u
 generalize(decide (u<=g.aC5)||decide (e<=0))=A
 generalize(decide (u>=g.Low)||decide (e>=0))=B
 cases A
 ·exact⟨s,_,rfl,hs⟩
 ·cases B
  ·exact⟨s,_,rfl,hs⟩
  ·refine⟨⟨_⟩,_,rfl,?_⟩
   unfold bV2
   simp only[ar5,ap6]
   omega
theorem en0 {s:B9}{g:ak0}(hg:cB0 g=true)(hs:bV2 s){c v:Int}(c0:-40<=c/\c<=150)(v0:0<=v/\v<=12000):∃s' u,aF2 s g (cy7 c) v=some (s',u,0)/\bV2 s':=by
 obtain⟨_,t0,t1⟩:=dK3 c0
 obtain⟨s',u,h1,h2⟩:=eC5 hg hs (e:=cy7 c-v) (by omega)
 refine⟨s',u,?_,h2⟩
 unfold aF2
 rw[show T0 g=some (cB0 g)from rfl,hg,show ak4 (cy7 c)=some (inR 0 12000 (cy7 c))from rfl,show ak4 v=some (inR 0 12000 v)from rfl,T8 (show 0<=cy7 c by omega) (by omega),T8 v0.1 v0.2,k6 (by omega) (by omega)]
 simp only[ac0,aK4,fh3]
 rw[h1];rfl
structure fd8 (k:D0):Prop where
 r:0<=k.au3/\k.au3<=960
 n:0<=k.aI6/\k.aI6<=4095
 q:0<=k.Quiet/\k.Quiet<=99
theorem eQ1 {k:D0}:knB k=true↔fd8 k:=by
 unfold knB
 simp only[au2,ba0,fh8]
 exact⟨fun⟨⟨⟨a,b⟩,c⟩,d⟩=>⟨a,b,c,d⟩,fun⟨a,b,c,d⟩=>⟨⟨⟨a,b⟩,c⟩,d⟩⟩
def kst (k:D0)(n:Int):D0:=
 if n>3*k.aI6+40 then⟨min (k.au3+96) 960,k.aI6,0⟩
 else if k.Quiet+1=100 then⟨max (k.au3-16) 0,k.aI6+(n-k.aI6)/8,0⟩else⟨k.au3,k.aI6+(n-k.aI6)/8,k.Quiet+1⟩
theorem eQ2 {k:D0}{n:Int}(h:knB k=true)(n0:inR 0 4095 n=true):(∃b,aI1 k n=some (kst k n,b))/\knB (kst k n)=true:=by
 have o:=eQ1.1 h
 have o1:=o.r;have o2:=o.n;have o3:=o.q
 have n1:=ba0.1 n0
 constructor
 ·unfold aI1 kst
  rw[k6 (n:=3*k.aI6) (by omega) (by omega),k6 (n:=3*k.aI6+40) (by omega) (by omega)]
  by_cases h1:n>3*k.aI6+40
  ·rw[fh6 h1,if_pos h1,k6 (n:=k.au3+96) (by omega) (by omega),ar5]
   exact⟨_,rfl⟩
  ·rw[fh7 h1,if_neg h1,k6 (n:=k.Quiet+1) (by omega) (by omega),k6 (n:=k.au3-16) (by omega) (by omega),k6 (n:=n-k.aI6) (by omega) (by omega),bR9 _ _ (by omega) (by omega) (by omega) (by omega),ap6]
   by_cases h2:k.Quiet+1=100
   ·rw[show(k.Quiet+1==100)=true from beq_iff_eq.2 h2,if_pos h2]
    simp only[fh3,fh5,ac0]
    rw[k6 (by omega) (by omega)]
    exact⟨_,rfl⟩
   ·rw[show(k.Quiet+1==100)=false from beq_eq_false_iff_ne.2 h2,if_neg h2]
    simp only[fh3,ac0]
    rw[k6 (by omega) (by omega)]
    exact⟨_,rfl⟩
 ·rw[eQ1]
  unfold kst
  split
  ·exact⟨by simp only;omega,by simp only;omega,by simp only;omega⟩
  ·split
   ·exact⟨by simp only;omega,by simp only;omega,by simp only;omega⟩
   ·exact⟨by simp only;omega,by simp only;omega,by simp only;omega⟩
def ksV (l:List D0)(m:List Int):List D0:=List.zipWith kst l m
theorem eJ7 {l:List D0}{m:List Int}(h:l.all knB=true)(hm:m.all (inR 0 4095)=true)(hl:1<=l.length/\l.length<=8)(he:m.length=l.length):
  aU8 l m=some (ksV l m,0)/\(ksV l m).all knB=true/\(ksV l m).length=l.length:=by
 rw[by6]at h hm
 have hlen:(ksV l m).length=l.length:=by unfold ksV;rw[List.length_zipWith];omega
 have cX7:∀j (h1:j<l.length) (h2:j<m.length),(ksV l m)[j]? =some (kst l[j] m[j]):=by
  intro j h1 h2
  unfold ksV
  rw[List.getElem?_zipWith,aJ9 h1,aJ9 h2]
 have hk:∀j (h1:j<l.length) (h2:j<m.length),(∃b,aI1 l[j] m[j]=some (kst l[j] m[j],b))/\knB (kst l[j] m[j])=true:=fun j h1 h2=>eQ2 (h _ (bf2 h1)) (hm _ (bf2 h2))
 refine⟨?_,?_,hlen⟩
 ·have a1:K8 l aB2=some (l.any fun k=>!knB k):=aj2 l (by omega) aB2 _ (fun k _=>by unfold aB2;rw[eJ5];rfl)
  have a2:u7 m aG4=some (m.any fun k=>!inR 0 4095 k):=ar0 m (by omega) aG4 _ (fun k _=>rfl)
  have b1:(l.any fun k=>!knB k)=false:=by rw[dB8];intro x hx;rw[h x hx];simp
  have b2:(m.any fun k=>!inR 0 4095 k)=false:=by rw[dB8];intro x hx;rw[hm x hx];simp
  unfold aU8
  rw[show(((decide ((l.length:Int)<1))||(decide ((l.length:Int)>8)))||((m.length:Int) !=(l.length:Int)))=false by simp;omega,a1,b1,a2,b2]
  simp only[fh3,ac0]
  unfold af4
  rw[K4 _ _ (by simp;omega)]
  simp only[ac0,cY1]
  obtain⟨u,e,hu⟩:=ah4 l.length (by omega) (aM9 l m) (fun i u=>u.length=l.length/\∀j,j<i->u[j]? =(ksV l m)[j]?) l ⟨rfl,fun j hj=>by omega⟩ (fun j hj u hu=>by
   obtain⟨⟨b,hb⟩,_⟩:=hk j hj (by omega)
   unfold aM9
   rw[E8 _ _ hj,E8 _ _ (show j<m.length by omega)]
   simp only[ac0]
   rw[hb]
   simp only[ac0]
   rw[E8 _ _ (by omega)]
   simp only[ac0]
   rw[aa6 _ _ _ (by omega)]
   refine⟨_,rfl,by simp[hu.1],fun i hi=>?_⟩
   rcases dh0 i j with h|h
   ·rw[fc8 (by omega)];exact hu.2 i h
   ·have:i=j:=by omega
    subst this
    rw[List.getElem?_set_self (by omega),cX7 i hj (by omega)])
  rw[e]
  have:u=ksV l m:=by
   apply List.ext_getElem?
   intro i
   rcases dh0 i l.length with h|h
   ·exact hu.2 i h
   ·rw[ed6 (by omega),ed6 (by omega)]
  rw[this]
  rfl
 ·rw[by6]
  intro x hx
  obtain⟨j,hj,rfl⟩:=da7.1 hx
  have h1:j<l.length:=by omega
  have:=cX7 j h1 (by omega)
  rw[aJ9 hj]at this
  rw[Option.some.inj this]
  exact(hk j h1 (by omega)).2
structure eV6 (p:I2):Prop where
 f:750<=p.P3/\p.P3<=1250
 w:0<=p.av7/\p.av7<=1000
 n:p.Cells.length=9
 a:p.Q8=true\/(p.P3=1000/\p.av7=0/\p.ay2=false)
 c:p.Cells.all da4=true
theorem eo8 {p:I2}:cR3 p=true↔eV6 p:=by
 unfold cR3
 simp only[au2,ba0,fh8,cx1,bZ6]
 exact⟨fun⟨⟨⟨⟨a,b⟩,c⟩,d⟩,e⟩=>⟨a,b,c,d.imp_right (fun h=>⟨h.1.1,h.1.2,h.2⟩),e⟩,fun⟨a,b,c,d,e⟩=>⟨⟨⟨⟨a,b⟩,c⟩,d.imp_right (fun h=>⟨⟨h.1,h.2.1⟩,h.2.2⟩)⟩,e⟩⟩
def mxR (p:I2)(m:Int):Bool:=decide (m>500)||(decide (m>=400)&&p.ay2)
def mxV (p:I2)(m:Int):I2:=
 bif p.Q8 then
  (bif mxR p m==p.ay2 then⟨true,mxR p m,min (max (p.P3+bif mxR p m then -1 else 1) 750) 1250,min 1000 (p.av7+1),p.Cells⟩
  else⟨true,mxR p m,min (max (p.P3+bif mxR p m then -15 else 15) 750) 1250,0,p.Cells⟩)
 else⟨decide (m<300)||decide (m>600),decide (m>600),p.P3,p.av7,p.Cells⟩
theorem eQ4 (x lo hi:Int):U9 x lo hi=some (inR lo hi x):=rfl
theorem dx5 (s c:Int):ae5 s c=some (inR 0 12000 s&&inR 0 1048576 c):=by
 unfold ae5
 rw[eQ4,eQ4]
 cases inR 0 12000 s<;>rfl
theorem de3 {p:I2}(h:cR3 p=true){m s c:Int}(m0:0<=m/\m<=20000)(s0:0<=s/\s<=12000)(c0:0<=c/\c<=1048576):az9 p m s c=some (mxV p m,0)/\cR3 (mxV p m)=true:=by
 have k:=eo8.1 h
 have k1:=k.f;have k2:=k.w;have k3:=k.n
 constructor
 ·unfold az9 ax6 ah8 mxV
  rw[dH7,h,dx5,T8 s0.1 s0.2,T8 c0.1 c0.2,eQ4,T8 m0.1 m0.2,K4 _ _ (by simp;omega)]
  simp only[ac0,aK4,fh3,Bool.and_self,cY1]
  cases ha:p.Q8
  ·rfl
  ·simp only[aK4,fh3,fh5]
   have hr:(bif (decide (m>500))then(some true)else(some ((decide (m>=400))&&p.ay2)))=some (mxR p m):=by unfold mxR;cases decide (m>500)<;>rfl
   rw[hr,k6 (n:=p.av7+1) (by omega) (by omega)]
   simp only[ac0,ar5]
   cases mxR p m==p.ay2
   ·simp only[cI8,fh5,fh3,ac0]
    cases mxR p m
    ·simp only[fh3,ac0,aD0,ar5,ap6]
     rw[k6 (by omega) (by omega)]
    ·simp only[fh5,ac0,aD0,ar5,ap6]
     rw[k6 (n:=0-15) (by omega) (by omega),k6 (by omega) (by omega)]
     rfl
   ·simp only[aK4,fh5,fh3,ac0]
    cases mxR p m
    ·simp only[fh3,ac0,aD0,ar5,ap6]
     rw[k6 (by omega) (by omega)]
    ·simp only[fh5,ac0,aD0,ar5,ap6]
     rw[k6 (n:=0-1) (by omega) (by omega),k6 (by omega) (by omega)]
     rfl
 ·rw[eo8]
  unfold mxV
  cases ha:p.Q8
  ·have a:=k.a
   rw[ha]at a
   obtain⟨a1,a2,a3⟩:=a.resolve_left (by simp)
   refine⟨k1,k2,k3,?_,k.c⟩
   by_cases hm:m>600
   ·exact .inl (by show(decide (m<300)||decide (m>600))=true;rw[fh6 hm,Bool.or_true])
   ·exact .inr ⟨a1,a2,fh7 hm⟩
  ·simp only[fh5]
   cases mxR p m==p.ay2
   ·exact⟨by simp only[fh3];omega,by simp only[fh3];omega,k3,.inl rfl,k.c⟩
   ·exact⟨by simp only[fh5];omega,by simp only[fh5];omega,k3,.inl rfl,k.c⟩
def di7 (x a b:Int):Nat:=if x>=b then 2 else if x>=a then 1 else 0
theorem ei8 (x a b:Int)(hab:a<=b):al7 x [a,b]=some (di7 x a b:Int):=by
 have w1:o6 ((0:Int)+1)=1:=by decide
 have w2:o6 ((1:Int)+1)=2:=by decide
 unfold al7 di7
 rw[M4 _ (by simp)]
 simp only[N3,aC2]
 by_cases h1:x>=a
 ·by_cases h2:x>=b
  ·rw[fh6 h1,fh6 h2,if_pos h2]
   simp only[fh5,ac0,w1,w2];rfl
  ·rw[fh6 h1,fh7 h2,if_neg h2,if_pos h1]
   simp only[fh5,fh3,ac0,w1];rfl
 ·have h2:¬x>=b:=by omega
  rw[fh7 h1,fh7 h2,if_neg h2,if_neg h1]
  simp only[fh3,ac0];rfl
theorem db3 (x a b:Int):di7 x a b<=2:=by unfold di7;split;omega;split<;>omega
def dq8 (s c:Int):Nat:=3*di7 s 1500 3500+di7 c 150000 350000
def cP1 (p:I2)(s c:Int):Int:=min (max (p.P3+(p.Cells.getD (dq8 s c) ⟨0,0⟩).Value) 700) 1300
theorem eO4 {p:I2}(h:cR3 p=true){s c:Int}(s0:0<=s/\s<=12000)(c0:0<=c/\c<=1048576):ar7 p s c=some (cP1 p s c,0):=by
 have k:=eo8.1 h
 have k1:=k.f;have k3:=k.n
 have q1:=db3 s 1500 3500
 have q2:=db3 c 150000 350000
 have hc:dq8 s c<p.Cells.length:=by unfold dq8;omega
 have cm6:=by6.1 k.c _ (bf2 hc)
 unfold da4 at cm6
 rw[au2,ba0]at cm6
 have hv:=cm6.1
 unfold ar7 aG8
 rw[dH7,h,dx5,T8 s0.1 s0.2,T8 c0.1 c0.2,ei8 _ _ _ (by omega),ei8 _ _ _ (by omega)]
 simp only[ac0,aK4,fh3,Bool.and_self]
 rw[k6 (n:=3*(di7 s 1500 3500:Int)) (by omega) (by omega),k6 (by omega) (by omega),show 3*(di7 s 1500 3500:Int)+(di7 c 150000 350000:Int)=((dq8 s c:Nat):Int) by unfold dq8;omega,E8 _ _ hc]
 simp only[ac0]
 unfold cP1
 rw[k6 (by omega) (by omega),aD0,ar5,ap6,dj0,aJ9 hc]
 rfl
theorem dW0 (p:I2)(s c:Int):700<=cP1 p s c/\cP1 p s c<=1300:=by unfold cP1;omega
theorem cP0 (x lo hi:Int):ag4 x lo hi=some (inR lo hi x):=rfl
theorem el5 {c:Int}(c0:0<=c/\c<=1048576):aU5 c 1000=some (c*10000/147000,0):=by
 unfold aU5
 rw[cP0,cP0,T8 c0.1 c0.2,show inR 500 2000 1000=true from rfl]
 simp only[ac0,aK4,fh3]
 rw[k6 (n:=c*10000) (by omega) (by omega),k6 (n:=1000*147) (by omega) (by omega),eE9 (by omega) (by omega) (by omega)]
 rfl
theorem dt0 {b:J4}(h:aV7 b=true):aJ8 b=some true:=by
 have k:=bt6 h
 have k1:=k.fi;have k2:=k.ev
 unfold aJ8
 rw[cP0,cP0,T8 k1.1 k1.2,T8 (show 0<=b.E9 by omega) k2.2]
 rfl
def aT0 (b:J4)(i:Int):Int:=i*b.H9/1024
def ay8 (b:J4)(f:Int):Int:=f*b.E9/1024
theorem cV8 {b:J4}(h:aV7 b=true){i:Int}(i0:0<=i):0<=aT0 b i/\aT0 b i<=i:=by
 have k:=(bt6 h).fi
 have b1:=aV2 (A:=i) i0 (dF5 i) k.1 k.2
 unfold aT0;omega
theorem bz8 {b:J4}(h:aV7 b=true){i:Int}(i0:0<=i):0<=ay8 b i/\ay8 b i<=i:=by
 have k:=(bt6 h).ev
 have b1:=aV2 (A:=i) i0 (dF5 i) (show 0<=b.E9 by omega) k.2
 unfold ay8;omega
theorem cP9 {b:J4}(h:aV7 b=true){f i:Int}(f0:0<=f/\f<=1073741824)(i0:0<=i/\i<=1048576):aC1 b f i=some (i-aT0 b i+ay8 b f,f+aT0 b i-ay8 b f):=by
 have k:=bt6 h
 have k1:=k.fi;have k2:=k.ev
 have b1:=aV2 i0.1 i0.2 k1.1 k1.2
 have b2:=aV2 f0.1 f0.2 (show 0<=b.E9 by omega) k2.2
 have r1:=cV8 h i0.1
 have r2:=bz8 h f0.1
 have e1:o6 (da8 (o6 (i*b.H9)) 1024)=aT0 b i:=by
  unfold aT0 at r1|-
  rw[k6 (n:=i*b.H9) (by omega) (by omega),cW1 b1.1,k6 (by omega) (by omega)]
 have e2:o6 (da8 (o6 (f*b.E9)) 1024)=ay8 b f:=by
  unfold ay8 at r2|-
  rw[k6 (n:=f*b.E9) (by omega) (by omega),cW1 b2.1,k6 (by omega) (by omega)]
 unfold aC1
 rw[e1,e2,k6 (n:=i-aT0 b i) (by omega) (by omega),k6 (n:=f+aT0 b i) (by omega) (by omega),k6 (by omega) (by omega),k6 (by omega) (by omega)]
theorem el1 {b:J4}(h:aV7 b=true){f:Int}(f0:0<=f/\f<=1073741824):aP6 b f 0=some (ay8 b f,f-ay8 b f,0):=by
 have r2:=bz8 h f0.1
 have e0:aT0 b 0=0:=by unfold aT0;rw[Int.zero_mul];rfl
 unfold aP6
 rw[dt0 h,cP0,cP0,T8 f0.1 f0.2,show inR 0 1048576 0=true from rfl,cP9 h f0 ⟨by omega,by omega⟩,e0]
 simp only[ac0,aK4,fh3]
 rw[fh7 (show¬(f+0-ay8 b f>1073741824) by omega),show(0:Int)-0+ay8 b f=ay8 b f by omega,show f+0-ay8 b f=f-ay8 b f by omega]
 rfl
theorem eB5 (f:Int->Option Int):aN7 f=ad8 (fun x=>ab6 (f x) fun v=>some (!decide (v>0))):=by
 funext s
 unfold aN7 ad8
 cases decide (s.1<s.2)
 ·rfl
 ·simp only[fh5]
  cases f (o6 (F1 .u64 (aK3.wrap (o6 (s.1+s.2))) 1))with
  |none=>rfl
  |some v=>simp only[ac0,eK8]
theorem find_spec (n:Nat)(hn:n<=2305843009213693951)(f:Int->Option Int)(g:Nat->Int)(hf:∀i,i<n->f (i:Int)=some (g i)):
  ∃(k:Nat) (b:Bool),k<=n/\aP9 (n:Int) f=some ((k:Int),b)/\(0<k->g (k-1)>0)/\(k<n->g k<=0):=by
 obtain⟨k,k1,k2,k3,k4⟩:=aS5 n hn (fun x=>ab6 (f x) fun v=>some (!decide (v>0))) (fun i=>!decide (g i>0)) (fun i hi=>by simp only[hf i hi,ac0])
 unfold S7 at k2
 have h3:0<k->g (k-1)>0:=fun h=>by have:=k3 h;simp at this;omega
 have h4:k<n->g k<=0:=fun h=>by have:=k4 h;simp at this;omega
 unfold aP9
 rw[eB5]
 cases hl:M0 (ad8 (fun x=>ab6 (f x) fun v=>some (!decide (v>0)))) (0,(n:Int))with
 |none=>rw[hl]at k2;cases k2
 |some t=>
  rw[hl]at k2
  cases t with
  |inr r=>exact r.elim
  |inl s2=>
   simp only[ac0,aj7]at k2
   simp only[ac0]
   rw[k2]
   rcases dh0 k n with h|h
   ·rw[fh6 (show(k:Int)<(n:Int) by omega),hf k h]
    exact⟨k,_,k1,rfl,h3,h4⟩
   ·rw[fh7 (show¬(k:Int)<(n:Int) by omega)]
    exact⟨k,_,k1,rfl,h3,h4⟩
structure ee9 (b:J4)(f m i x e:Int):Prop where
 out:e=0\/e=9
 inj:e=0->0<=i/\i<=1048576
 aG1:e=0->x=f+aT0 b i-ay8 b f
 ran:e=0->0<=x/\x<=1073741824
 fit:e=0->m<=i-aT0 b i+ay8 b f
 low:e=0->0<i->(i-1)-aT0 b (i-1)+ay8 b f<m
 big:e=9->1048576-aT0 b 1048576+ay8 b f<m\/∃j,0<=j/\j<=1048576/\m<=j-aT0 b j+ay8 b f/\(0<j->(j-1)-aT0 b (j-1)+ay8 b f<m)/\1073741824<f+aT0 b j-ay8 b f
theorem em1 {b:J4}(h:aV7 b=true){f m:Int}(f0:0<=f/\f<=1073741824)(m0:0<=m/\m<=1048576):∃i x e,aJ7 b f m=some (i,x,e)/\ee9 b f m i x e:=by
 have r2:=bz8 h f0.1
 have r1:∀i:Int,0<=i->0<=aT0 b i/\aT0 b i<=i:=fun i hi=>cV8 h hi
 unfold aJ7
 rw[dt0 h,cP0,cP0,T8 f0.1 f0.2,T8 m0.1 m0.2]
 simp only[ac0,aK4,fh3]
 obtain⟨k,q,k1,k2,k3,k4⟩:=find_spec 1048577 (by omega) (fun x0=>aB1 x0 b f m) (fun i=>m-((i:Int)-aT0 b (i:Int)+ay8 b f)) (fun i hi=>by
  have:=r1 (i:Int) (by omega)
  unfold aB1
  rw[cP9 h f0 ⟨by omega,by omega⟩]
  simp only[ac0]
  rw[k6 (by omega) (by omega)])
 have k2':aP9 1048577 (fun x0=>aB1 x0 b f m)=some ((k:Int),q):=k2
 rw[k2']
 simp only[ac0]
 by_cases hk:k=1048577
 ·subst hk
  refine⟨0,0,9,rfl,.inr rfl,fun h=>(by cases h),fun h=>(by cases h),fun h=>(by cases h),fun h=>(by cases h),fun h=>(by cases h),fun _=>.inl ?_⟩
  have:=k3 (by omega)
  rw[show(((1048577-1:Nat):Int))=1048576 by omega]at this
  omega
 ·have k4':=k4 (by omega)
  have rk:=r1 (k:Int) (by omega)
  rw[fh7 (show¬((k:Int)>1048576) by omega),cP9 h f0 ⟨by omega,by omega⟩]
  simp only[fh3,ac0]
  have dW8:0<(k:Int)->((k:Int)-1)-aT0 b ((k:Int)-1)+ay8 b f<m:=fun hp=>by
   have:=k3 (by omega)
   rw[show((k-1:Nat):Int)=(k:Int)-1 by omega]at this
   omega
  by_cases hb:f+aT0 b (k:Int)-ay8 b f>1073741824
  ·rw[fh6 hb]
   exact⟨0,0,9,rfl,.inr rfl,fun h=>(by cases h),fun h=>(by cases h),fun h=>(by cases h),fun h=>(by cases h),fun h=>(by cases h),fun _=>.inr ⟨(k:Int),by omega,by omega,by omega,dW8,by omega⟩⟩
  ·rw[fh7 hb]
   exact⟨(k:Int),_,0,rfl,.inl rfl,fun _=>⟨by omega,by omega⟩,fun _=>rfl,fun _=>⟨by omega,by omega⟩,fun _=>by omega,fun _=>dW8,fun h=>(by cases h)⟩
theorem dN2 {t:p6}(h:(bx9 t.V6&&t.V6.Y.all (inR 0 10000))=true){a v:Int}(a0:0<=a/\a<=1048576)(v0:0<=v/\v<=20000):aC0 t a v=some (cAt t.V6 v,0)/\0<=cAt t.V6 v/\cAt t.V6 v<=10000:=by
 rw[au2]at h
 obtain⟨h1,h2⟩:=h
 have hl:=(bn2 h1).yl
 have hx:=(bn2 h1).x.most
 have hb:=ce1 h1 v (eU2 h1 h2)
 refine⟨?_,hb⟩
 have e:u7 t.V6.Y aG2=some (t.V6.Y.any fun y=>!inR 0 10000 y):=ar0 _ (by omega) _ _ (fun y _=>rfl)
 have e2:(t.V6.Y.any fun y=>!inR 0 10000 y)=false:=by
  rw[dB8]
  intro y hy
  rw[by6.1 h2 y hy];simp
 unfold aC0
 rw[ar2,h1,e,e2,cP0,cP0,T8 a0.1 a0.2,T8 v0.1 v0.2,dE2 h1]
 rfl
def eU1 (m:Int):Int:=-((-m)/3)
theorem el7 {t:p6}(h:(bx9 t.V6&&t.V6.Y.all (inR 0 10000))=true){a v:Int}(a0:0<a/\a<=1048576)(v0:0<=v/\v<=20000):aP7 t a v=some (cAt t.V6 v+eU1 a,0):=by
 obtain⟨h1,h2⟩:=dN2 h (a:=a) (by omega) v0
 unfold aP7 ao2 eU1
 rw[h1,bX1 _ _ 2 (by omega) (by omega) (by omega) (by omega) (.inr rfl)]
 simp only[ac0]
 rw[show(((0:Int) !=0)||(a==0))=false by rw[bG8];exact⟨rfl,beq_eq_false_iff_ne.2 (by omega)⟩]
 simp only[fh3]
 rw[if_neg (by decide),k6 (by omega) (by omega)]
theorem dY5 {t:p6}(h:(bx9 t.V6&&t.V6.Y.all (inR 0 10000))=true){a v:Int}(a0:0<=a/\a<=1048576)(v0:0<=v/\v<=20000):aB0 t a v=some (3*max 0 (a-cAt t.V6 v),0):=by
 obtain⟨h1,h2⟩:=dN2 h a0 v0
 unfold aB0
 rw[h1]
 simp only[ac0]
 rw[show(((0:Int) !=0))=false from rfl,k6 (n:=a-cAt t.V6 v) (by omega) (by omega),ap6]
 simp only[fh3]
 rw[k6 (by omega) (by omega)]
theorem bF9 (x lo hi:Int):T2 x lo hi=some (inR lo hi x):=rfl
theorem cy1 (l:List Int)(h:l.length<=9223372036854775807)(lo hi:Int):af0 l lo hi=some (!l.all (inR lo hi)):=by
 unfold af0
 rw[ar0 l h (fun x0=>au1 x0 lo hi) (fun x=>!inR lo hi x) (fun y _=>rfl),ac0,dZ2]
 simp only[eK8]
theorem dy7 {t:p6}(h:bL4 t=true)(ht:bc0 t=true):ay1 t=some true:=by
 have hc:=dB2 ht
 unfold bL4 at h
 unfold bc0 at ht
 simp only[au2]at h ht
 obtain⟨⟨⟨h1,h2⟩,h3⟩,h4⟩:=h
 obtain⟨⟨⟨⟨_,_⟩,t3⟩,t4⟩,_⟩:=ht
 have hm:=ca6 h1
 have zl:=hm.zl
 have xm:=hm.x.most
 have ym:=hm.y.most
 have a1:=(bn2 h2).x.most
 have a2:=(bn2 h2).yl
 have b0:=bn2 hc
 have b1:=b0.x.most
 have b2:=b0.yl
 have hf:aH3 t.u6.Y=some true:=by
  have e:J5 t.u6.Y aB3=some (cA2 t.u6.Y):=dd4 t.u6.Y (by omega) (fun i hi=>b0.el i (by omega))
  unfold aH3
  rw[e,t4];rfl
 have hz:H2 t.D9.Z aw8=some (t.D9.Z.any fun r=>!r.all (inR (-1280) 3840)):=aj2 _ (by omega) _ _ (fun r hr=>by
  obtain⟨k,hk,rfl⟩:=da7.1 hr
  have rl:=hm.rl k hk
  unfold aw8
  rw[cy1 _ (by omega)];rfl)
 have hz2:(t.D9.Z.any fun r=>!r.all (inR (-1280) 3840))=false:=by
  rw[dB8]
  intro r hr
  rw[by6.1 h3 r hr];simp
 unfold ay1
 rw[ap4,h1,ar2,h2,ar2,hc,hf,hz,hz2,cy1 _ (by omega),cy1 _ (by omega),h4,t3]
 rfl
def cu9 (t:p6)(v k:Int):Int:=min (cAt t.L2 v) (3*k/4)
theorem ek3 {t:p6}(h:bL4 t=true)(ht:bc0 t=true){v k:Int}(v0:0<=v/\v<=20000)(k0:4000<=k/\k<=1000000):aH2 t v k=some (cu9 t v k,0)/\500<=cu9 t v k/\cu9 t v k<=10000:=by
 have hh:=h
 unfold bL4 at hh
 simp only[au2]at hh
 have hb:=ce1 hh.1.1.2 v (eU2 hh.1.1.2 hh.2)
 unfold aH2 cu9
 rw[dy7 h ht,bF9,bF9,T8 v0.1 v0.2,T8 k0.1 k0.2,dE2 hh.1.1.2]
 simp only[ac0,aK4,fh3]
 rw[k6 (n:=3*k) (by omega) (by omega),cW1 (by omega),k6 (by omega) (by omega),ar5]
 exact⟨rfl,by omega,by omega⟩
def dT4 (t:p6)(s c q r:Int):Int:=
 min (max (sAt t.D9 s c+(if q<20 then 2*(20-q)else if q>100 then -(8*(q-100))else 0)-r) (-1280)) 3840
theorem eg0 {t:p6}(h:bL4 t=true)(ht:bc0 t=true){s c q r:Int}(s0:0<=s/\s<=12000)(c0:0<=c/\c<=1048576)(q0:-40<=q/\q<=150)(r0:0<=r/\r<=1280):aH1 t s c q r=some (dT4 t s c q r,0):=by
 have hh:=h
 unfold bL4 at hh
 simp only[au2]at hh
 have hb:=ch0 hh.1.1.1 s c (fc7 hh.1.1.1 (fun r hr=>by6.1 hh.1.2 r hr))
 have e:aN8 t s c=some (sAt t.D9 s c,0):=by
  unfold aN8
  rw[dy7 h ht,bF9,bF9,T8 s0.1 s0.2,T8 c0.1 c0.2,cU1 hh.1.1.1]
  rfl
 unfold aH1 dT4
 rw[e]
 simp only[ac0]
 rw[show(((0:Int) !=0))=false from rfl,bF9,bF9,T8 q0.1 q0.2,T8 r0.1 r0.2]
 simp only[fh3,ac0,aK4]
 generalize sAt t.D9 s c=z at hb
 by_cases h1:q<20
 ·rw[fh6 h1,if_pos h1]
  simp only[fh5]
  rw[k6 (n:=20-q) (by omega) (by omega),k6 (n:=2*(20-q)) (by omega) (by omega),k6 (n:=z+2*(20-q)) (by omega) (by omega),k6 (by omega) (by omega),aD0,ar5,ap6]
  rfl
 ·rw[fh7 h1,if_neg h1]
  simp only[fh3]
  by_cases h2:q>100
  ·rw[fh6 h2,if_pos h2]
   simp only[fh5]
   rw[k6 (n:=q-100) (by omega) (by omega),k6 (n:=8*(q-100)) (by omega) (by omega),k6 (n:=z-8*(q-100)) (by omega) (by omega),k6 (by omega) (by omega),aD0,ar5,ap6]
   rfl
  ·rw[fh7 h2,if_neg h2]
   simp only[fh3]
   rw[k6 (by omega) (by omega),aD0,ar5,ap6,Int.add_zero]
   rfl
theorem dT5 (t:p6)(s c q r:Int):-1280<=dT4 t s c q r/\dT4 t s c q r<=3840:=by unfold dT4;omega
end Go.Pv

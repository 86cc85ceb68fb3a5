/- Proved: EcuJoins, called with any arguments that its row admits, returns true, and every argument reads behind the call as it read before. Conditions: none beyond the row's own. Printed by law.py. This file joins: Plain Lean: the crank turns, in a step of the unit. Plain Lean: the engine is driven, and what a step records. Plain Lean: a step of the unit: it ends, and the unit stays right. Plain Lean: a new unit is right, and steps. Plain Lean: runs of the unit join its steps. Plain Lean: EcuJoins answers true whatever its arguments: a run joins the steps. -/
import Derived.Test.YtfplhihoadkhlaaGreatEcuJoinsF
import Derived.Test.YtfplhihoadkhlaaGreatRows
set_option linter.unusedSimpArgs false
set_option linter.unusedVariables false
set_option maxRecDepth 100000
noncomputable section
open Bool renaming and_eq_true->au2,not_false->cI8,not_true->aK4,or_eq_false_iff->bG8,or_eq_true->cx1,or_self->eU3
open Int renaming tdiv_eq_ediv_of_nonneg->cW1,tmod_eq_emod_of_nonneg->do3,toNat_natCast->eI8
open Go.IntKind renaming u64->aK3
open List renaming any_eq_false->dB8,drop_drop->ep0,filter_append->dR0,getElem?_eq_getElem->aJ9,getElem_mem->bf2,head?_drop->ey0,length_append->aX7,length_cons->bu6,mem_append->do2,mem_cons_self->bL5,mem_singleton->eM4,take_length->eI1,take_succ_eq_append_getElem->dC0
open Nat renaming add_assoc->dM6
open Option renaming bind->ab6,bind_some->ac0
namespace Go.Proofs.YtfplhihoadkhlaaGreat.Ec
open Go Go.Pv Go.Pv.Ec Go.Proofs
abbrev upS (s:o8)(c:j2)(y:Q5)(p:Q0)(f:N6)(w:List o5):o8:={s with u:={s.u with c8:=c,D8:=y,D3:=p,B4:=f},u4:=w}
theorem dg3 {s:o8}(hp:phB s.u.D3=true)(x:Int)(l:List Int)(hl:l.length<=100000):
  ∃p,(aZ9 s (x::l)).m=some (upS s s.u.c8 s.u.D8 p s.u.B4 s.u4,l)/\phB p=true:=by
 obtain⟨r,e,e1,h1⟩:=eR4 s.u.D3
 have hr:phB (bif e !=0 then s.u.D3 else r)=true:=by
  by_cases he:e=0
  ·subst he;exact h1 rfl
  ·rw[enz he];exact hp
 have h2:ay9 (x::l) 1 ((x::l).length:Int)=some l:=by
  unfold ay9
  rw[if_pos (by simp only[bu6];omega)]
  simp
 simp only[aZ9,CG.of,M.run,U1.m,eJ1,en3,cm2,e1,h2,ac0]
 exact⟨_,rfl,hr⟩
theorem db6 (a:Int):∀(l:List Int) (s:o8),phB s.u.D3=true->l.length<=100000->
  ∃l' p,M0 (fun x=>(aU2 a x).run) (l,s)=some (.inl (l',upS s s.u.c8 s.u.D8 p s.u.B4 s.u4))/\phB p=true/\l'.length<=l.length
 |[],s,hp,_=>⟨[],s.u.D3,F7 rfl,hp,by simp⟩
 |x::l,s,hp,hl=>by
  by_cases hx:x<=a
  ·obtain⟨p,e1,h1⟩:=dg3 hp x l (by simp only[bu6]at hl;omega)
   obtain⟨l',p',e2,h2,h3⟩:=db6 a l (upS s s.u.c8 s.u.D8 p s.u.B4 s.u4) h1 (by simp only[bu6]at hl;omega)
   refine⟨l',p',?_,h2,by simp only[bu6];omega⟩
   rw[I5 (s':=(l,upS s s.u.c8 s.u.D8 p s.u.B4 s.u4)) ?_]
   ·exact e2
   ·simp only[aU2,M.run,L1.m]
    rw[fh6 (show(((x::l).length:Nat):Int)>0 by simp only[bu6];omega)]
    rw[show F0 (x::l) 0=some x from rfl]
    simp only[fh5,ac0,fh6 hx]
    rw[e1]
    rfl
  ·refine⟨x::l,s.u.D3,F7 ?_,hp,Nat.le_refl _⟩
   simp only[aU2,M.run,L1.m]
   rw[fh6 (show(((x::l).length:Nat):Int)>0 by simp only[bu6];omega)]
   rw[show F0 (x::l) 0=some x from rfl]
   simp only[fh5,ac0,fh7 hx]
   rfl
theorem db5:∀(l:List Int) (s:o8),phB s.u.D3=true->l.length<=100000->
  ∃p,M0 (fun x=>(bj2 x).run) (l,s)=some (.inl ([],upS s s.u.c8 s.u.D8 p s.u.B4 s.u4))/\phB p=true
 |[],s,hp,_=>⟨s.u.D3,F7 rfl,hp⟩
 |x::l,s,hp,hl=>by
  obtain⟨p,e1,h1⟩:=dg3 hp x l (by simp only[bu6]at hl;omega)
  obtain⟨p',e2,h2⟩:=db5 l (upS s s.u.c8 s.u.D8 p s.u.B4 s.u4) h1 (by simp only[bu6]at hl;omega)
  refine⟨p',?_,h2⟩
  rw[I5 (s':=(l,upS s s.u.c8 s.u.D8 p s.u.B4 s.u4)) ?_]
  ·exact e2
  ·simp only[bj2,M.run]
   rw[fh6 (show(((x::l).length:Nat):Int)>0 by simp only[bu6];omega)]
   simp only[fh5,ac0]
   rw[e1]
   rfl
theorem dg1 {s:o8}{l:List Int}(hp:bY5 s.u.E7 s.u.u3)(ht:0<=s.t/\s.t<=1099511627776)(he:Edg (s.u.u3.F8/65536) ((s.u.u3.F8+10000*s.u.u3.C9)/65536) l):
  ∃r,(aJ6 s l).m=some r/\r.length<=1000/\∀x∈r,x<=s.t+10000:=by
 have h1:=hp.pos
 have h2:=hp.spd
 have hn:=he.len
 by_cases h0:s.u.u3.C9=0
 ·have h3:l=[]:=by
   cases l with
   |nil=>rfl
   |cons x l=>
    have a:=he.lo x (bL5 ..)
    have b:=he.hi x (bL5 ..)
    rw[h0]at b
    simp only[Int.mul_zero,Int.add_zero]at b
    omega
  subst h3
  simp only[aJ6,CG.of,M.run]
  obtain⟨r,h3,h4⟩:=bk1 ([]:List Int) (by simp) (fun i x (o:List Int)=>(aQ4 s i x o).run) (fun _ o=>o=[]) [] rfl (fun k x o hx _=>by simp at hx)
  rw[h3]
  subst h4
  exact⟨[],rfl,by simp,by simp⟩
 ·obtain⟨r,e1,e2,e3⟩:=ec5 s l (by omega) (by omega) h1 ht (fun x hx=>by have:=he.hi x hx;omega) (fun x hx=>by have:=he.lo x hx;omega)
  exact⟨r,e1,by omega,e3⟩
structure Tst (T:Int)(s0:o8)(n:Nat)(c:j2)(y:Q5)(p:Q0)(f:N6)(w:List o5):Prop where
 sch:bq7 T s0.u.c8 c
 sy:syB y=true/\y.E0<=T
 ph:phB p=true
 tf:tfB f=true/\f.E0<=T
 few:w.length<=s0.u4.length+n
theorem dV2 {T:Int}{s:o8}(h:Tee T s)(l v:List Int)(hl:l.length<=1000)(hx:∀x∈l,x<=T)(hv:v.length<=1000)(hs:s.u4.length<=100000):
  ∃v' c y p f w,M0 (fun p:Int×(List Int×o8)=>bif decide (p.1<(l.length:Int))then((F0 l p.1).bind fun x=>((fun i x u=>(aU1 i x u).run) p.1 x p.2).bind (aE2 p.1))else some (.inr (.inl p.2))) (0,(v,s))=some (.inl (v',upS s c y p f w))/\v'.length<=1000/\Tst T s (10000*l.length) c y p f w:=by
 obtain⟨u,e1,⟨hu,c,y,p,f,w,h2,h3⟩⟩:=bk1 l (by omega) (fun i x (u:List Int×o8)=>(aU1 i x u).run)
  (fun k u=>u.1.length<=1000/\∃c y p f w,u.2=upS s c y p f w/\Tst T s (10000*k) c y p f w) (v,s)
  ⟨hv,s.u.c8,s.u.D8,s.u.D3,s.u.B4,s.u4,rfl,h.sch,h.sy,h.ph,h.tf,by omega⟩ (fun k x u hk hI=>by
   obtain⟨hu,c,y,p,f,w,h2,h3⟩:=hI
   obtain⟨v1,u2⟩:=u
   simp only at hu h2
   subst h2
   have hkl:=(List.getElem?_eq_some_iff.1 hk).1
   have hw:=h3.few
   obtain⟨l',p',q1,q2,q3⟩:=db6 x v1 (upS s c y p f w) h3.ph (by omega)
   simp only[aU1,M.run]
   rw[q1]
   simp only[ac0]
   obtain⟨c2,y2,p2,f2,w2,r1,r2,r3,r4,r5,r6⟩:=ec6 (T:=T) (s:=upS s c y p' f w) ⟨h.t0,h3.sch.self,h3.sy,q2,h3.tf⟩ x (hx x (List.mem_of_getElem? hk)) (by simp only;omega)
   simp only at r1 r2 r6
   rw[r1]
   exact⟨_,rfl,by simp only;omega,c2,y2,p2,f2,w2,rfl,h3.sch.trans r2,r3,r4,r5,by omega⟩)
 obtain⟨v',u2⟩:=u
 simp only at hu h2
 subst h2
 exact⟨v',c,y,p,f,w,e1,hu,h3⟩
theorem ew5 {s:o8}(h:Tee (s.t+10000) s)(hp:bY5 s.u.E7 s.u.u3)(ht:0<=s.t/\s.t+10000<=549755813888)(hl:s.u4.length<=1000):
  ∃c y p f w,(bl5 s).m=some (upS s c y p f w)/\Tst (s.t+10000) s 20000000 c y p f w/\c.j7.P8=s.t+10000:=by
 have bJ7:=hp.pos
 have hspd:=hp.spd
 have ht0:=h.t0
 obtain⟨r,e,e1,h1⟩:=ev1 s.u.D8 s.t
 have hy:syB (bif e !=0 then s.u.D8 else r)=true/\(bif e !=0 then s.u.D8 else r).E0<=s.t+10000:=by
  by_cases he:e=0
  ·subst he
   obtain⟨q1,q2⟩:=h1 rfl
   rw[show((0:Int) !=0)=false from rfl]
   refine⟨q1,?_⟩
   simp only[fh3]
   rcases q2 with q2|q2
   ·rw[q2];exact h.sy.2
   ·rw[q2];exact ht0
  ·rw[enz he];exact h.sy
 simp only[bl5,CG.of,M.run,eJ4,cy8,cm2,e1,en7,ac0]
 generalize(bif e !=0 then s.u.D8 else r)=z at hy|-
 obtain⟨c,p,w,q3,hc,hph,hw⟩:=cP8 (T:=s.t+10000) h.sch h.ph z s.t (by omega) (by omega)
 rw[q3]
 simp only[ac0]
 rw[k6 (n:=10000*s.u.u3.C9) (by omega) (by omega),k6 (n:=s.u.u3.F8+10000*s.u.u3.C9) (by omega) (by omega),cW1 bJ7.1,cW1 (show 0<=s.u.u3.F8+10000*s.u.u3.C9 by omega),
  k6 (n:=s.u.u3.F8/65536) (by omega) (by omega),k6 (n:=(s.u.u3.F8+10000*s.u.u3.C9)/65536) (by omega) (by omega)]
 obtain⟨l1,e4,b1,b2⟩:=dp7 (s.u.u3.F8/65536) ((s.u.u3.F8+10000*s.u.u3.C9)/65536)
 obtain⟨l2,e5,b3,b4⟩:=di5 (s.u.u3.F8/65536) ((s.u.u3.F8+10000*s.u.u3.C9)/65536)
 rw[b1]
 simp only[ac0]
 rw[b3]
 simp only[ac0]
 generalize hsv:({s with u:={s.u with c8:=c,D8:=z,D3:=p},u4:=w}:o8)=sv
 have hv1:sv.u.E7=s.u.E7:=by subst hsv;rfl
 have hv2:sv.u.u3=s.u.u3:=by subst hsv;rfl
 have hv3:sv.t=s.t:=by subst hsv;rfl
 obtain⟨v7,e7,k7,k8⟩:=dg1 (s:=sv) (l:=l2) (by rw[hv1,hv2];exact hp) (by rw[hv3];omega) (by rw[hv2];exact b4)
 obtain⟨v8,e8,k9,k10⟩:=dg1 (s:=sv) (l:=l1) (by rw[hv1,hv2];exact hp) (by rw[hv3];omega) (by rw[hv2];exact b2)
 rw[e7]
 simp only[ac0]
 rw[e8]
 simp only[ac0]
 rw[hv3]at k10
 have htee:Tee (s.t+10000) sv:=by subst hsv;exact⟨ht0,hc.self,hy,hph,h.tf⟩
 have hsw:sv.u4.length<=s.u4.length+3300:=by subst hsv;exact hw
 obtain⟨v',c2,y2,p2,f2,w2,e9,n9,t9⟩:=dV2 htee v8 v7 k9 k10 k7 (by omega)
 rw[e9]
 simp only[ac0]
 obtain⟨p3,e10,h10⟩:=db5 v' (upS sv c2 y2 p2 f2 w2) t9.ph (by omega)
 rw[e10]
 simp only[ac0]
 have hg:=t9.sch
 have bF1:=hg.now
 have hok:=hg.ok
 have dW8:=hok.most
 rw[hv3,k6 (n:=s.t+10000) (by omega) (by omega),bm8,Sc.dQ7 hok (by have:=hg.few;omega) (s.t+10000) bF1 (by omega)]
 obtain⟨a1,a2,a3,a4⟩:=Sc.cb5 hok (s.t+10000) bF1 (by omega)
 have a5:=Sc.dj8 hok (s.t+10000) bF1
 have hfew:=t9.few
 simp only[ac0]
 rw[bV3 _ _ (Sc.goE (s.t+10000) c2).1 0 (by simp only;omega)]
 have hsc:sv.u.c8=c:=by subst hsv;rfl
 rw[hsc]at hg
 refine⟨(Sc.goE (s.t+10000) c2).2,y2,p3,f2,w2++(Sc.goE (s.t+10000) c2).1,?_,⟨hc.trans (hg.trans ⟨a1,by rw[a3];exact hg.few,a2,by omega,by omega⟩),t9.sy,h10,t9.tf,by rw[aX7];omega⟩,a4⟩
 subst hsv
 rfl
theorem eB6 (l:List o5)(hl:l.length<=1000000)(f:o5->Option Bool)(p:o5->Bool)(h:∀y∈l,f y=some (p y)):Pv.ae9 l f=some (match l.findIdx? p with|some k=>(k:Int)|none=>-1):=by
 unfold Pv.ae9 Pv.aA3
 rw[bc9 l (by omega) (fun(i:Int) x (_:Unit)=>ab6 (f x) fun v=>bif v then(some (Fl.ret i))else(some (Fl.next ())))]
 have:=Sc.bJ5 f p l 0 h
 rw[show((0:Nat):Int)=0 from rfl]at this
 rw[this]
 cases l.findIdx? p with
 |none=>rfl
 |some k=>simp
theorem eN5 (l:List o5)(hl:l.length<=1000000)(f:o5->Option Bool)(p:o5->Bool)(h:∀y∈l,f y=some (p y)):Pv.P6 l f=some (l.filter fun y=>!p y):=by
 unfold Pv.P6
 rw[eB6 l hl f p h]
 cases hf:l.findIdx? p with
 |none=>simp only[ac0];rw[Sc.dc3 hf];rfl
 |some v=>
  obtain⟨hv,htk⟩:=Sc.cv3 hf
  simp only[ac0]
  have e0:((v:Int)== -1)=false:=beq_eq_false_iff_ne.2 (by omega)
  rw[e0,k6 (n:=(v:Int)+1) (by omega) (by omega)]
  simp only[fh3]
  obtain⟨t,k1,k2⟩:=cw3 (mb:=Pv.am9 f)
   (fun j st=>∃i:Nat,st.1=(i:Int)/\st.2.1=((v+1+j:Nat):Int)/\i<v+1+j/\i=((l.take (v+1+j)).filter fun y=>!p y).length/\st.2.2.length=l.length/\st.2.2.take i=((l.take (v+1+j)).filter fun y=>!p y)/\st.2.2.drop (v+1+j)=l.drop (v+1+j))
   (fun t=>∃(s:List o5) (i:Nat),t= .inl ((i:Int),(l.length:Int),s)/\s.length=l.length/\i<=l.length/\s.take i=l.filter fun y=>!p y) (l.length-(v+1)) 0 ((v:Int),(v:Int)+1,l)
   ⟨v,rfl,by push_cast;omega,by omega,by rw[Nat.add_zero,htk,List.length_take];omega,rfl,by rw[Nat.add_zero,htk],rfl⟩
   (fun j _ hj st ⟨i,h1,h2,h3,h4,h5,h6,h7⟩=>by
    have hjl:v+1+j<l.length:=by omega
    have cX7:F0 st.2.2 st.2.1=some l[v+1+j]:=by
     rw[h2,S0,<-ey0,h7,ey0,aJ9 hjl]
    have hlt:decide (st.2.1<(st.2.2.length:Int))=true:=by rw[h2,h5];simp;omega
    have htk2:l.take (v+1+(j+1))=l.take (v+1+j)++[l[v+1+j]]:=by rw[<-dM6];exact dC0 hjl
    have hdr:∀s:List o5,s.drop (v+1+j)=l.drop (v+1+j)->s.drop (v+1+(j+1))=l.drop (v+1+(j+1)):=fun s hs=>by
     rw[<-dM6,<-ep0,hs,ep0]
    unfold Pv.am9
    rw[hlt,cX7]
    simp only[fh5,ac0,h _ (bf2 hjl)]
    rw[h2,k6 (n:=((v+1+j:Nat):Int)+1) (by omega) (by omega)]
    cases hp:p l[v+1+j]
    ·have hi:i<st.2.2.length:=by omega
     simp only[cI8,fh5]
     rw[h1,E8 _ _ hi]
     simp only[ac0]
     rw[aa6 _ _ _ hi,k6 (n:=(i:Int)+1) (by omega) (by omega)]
     have hfl:((l.take (v+1+(j+1))).filter fun y=>!p y)=((l.take (v+1+j)).filter fun y=>!p y)++[l[v+1+j]]:=by
      rw[htk2,dR0];simp[hp]
     refine⟨_,rfl,i+1,by push_cast;rfl,by push_cast;omega,by omega,?_,by simp[h5],?_,?_⟩
     ·rw[hfl,aX7,<-h4];rfl
     ·rw[hfl,<-h6]
      rw[dC0 (by simpa using hi),List.take_set_of_le (Nat.le_refl _),List.getElem_set_self]
     ·refine hdr _ ?_
      rw[List.drop_set_of_lt (by omega)];exact h7
    ·simp only[aK4,fh3]
     have hfl:((l.take (v+1+(j+1))).filter fun y=>!p y)=((l.take (v+1+j)).filter fun y=>!p y):=by
      rw[htk2,dR0];simp[hp]
     exact⟨_,rfl,i,h1,by push_cast;omega,by omega,by rw[hfl];exact h4,h5,by rw[hfl];exact h6,hdr _ h7⟩)
   (fun st ⟨i,h1,h2,h3,h4,h5,h6,h7⟩=>by
    have hn:v+1+(0+(l.length-(v+1)))=l.length:=by omega
    rw[hn]at h2 h3 h4 h6
    have hlt:decide (st.2.1<(st.2.2.length:Int))=false:=by rw[h2,h5];simp
    unfold Pv.am9
    rw[hlt]
    simp only[fh3]
    refine⟨_,rfl,st.2.2,i,?_,h5,by omega,by rw[h6,eI1]⟩
    rw[h1,h2])
  obtain⟨s,i,rfl,hs,hi,ht⟩:=k2
  rw[k1]
  simp only[ac0]
  have hc:cl5 (i:Int) (s.length:Int) s.length=some ():=by unfold cl5;rw[if_pos ⟨by omega,by omega,by omega⟩]
  rw[hc]
  simp only[ac0]
  have hsl:ay9 (bI6 s (i:Int) (s.length:Int) (⟨0,0,false⟩:o5)) 0 (i:Int)=some (s.take i):=Sc.cN2 s i _ (by omega)
  rw[hsl,ht]
  rfl
theorem bgi {α β:Type}(c:Bool)(x y:α)(f:α->Option β):ab6 (bif c then some x else some y) f=f (bif c then x else y):=by cases c<;>rfl
theorem eI2 {α β:Type}{A:Option α}{F:α->Option β}(J:α->Prop){K:β->Prop}(h:∃x,A=some x/\J x)(k:∀x,J x->∃r,F x=some r/\K r):∃r,A.bind F=some r/\K r:=by
 obtain⟨x,rfl,h2⟩:=h
 exact k x h2
theorem eW6 {β:Type}{c:Bool}{A B:Option β}{K:β->Prop}(h:c=true->∃r,A=some r/\K r)(k:c=false->∃r,B=some r/\K r):∃r,(bif c then A else B)=some r/\K r:=by
 cases c
 ·exact k rfl
 ·exact h rfl
theorem cT2 {S R:Type}(n:Nat)(hn:n<=1000000000)(f:Int->S->Option (Fl S R))(I:Nat->S->Prop)(J:R->Prop)(s:S)(h0:I 0 s)(h:∀k s,k<n->I k s->(∃s',f (k:Int) s=some (.next s')/\I (k+1) s')\/∃u,f (k:Int) s=some (.ret u)/\J u):
  ∃b,M0 (fun p:Int×S=>bif decide (p.1<(n:Int))then((f p.1 p.2).bind (aE2 p.1))else some (.inr (.inl p.2))) (0,s)=some b/\((∃s',b= .inl s'/\I n s')\/∃u,b= .inr u/\J u):=by
 exact aN0 (mb:=fun p:Int×S=>bif decide (p.1<(n:Int))then((f p.1 p.2).bind (aE2 p.1))else some (.inr (.inl p.2))) (fun x=>∃k:Nat,x.1=(k:Int)/\k<=n/\I k x.2) (fun x=>n-x.1.toNat) (fun b:S⊕R=>(∃s',b= .inl s'/\I n s')\/∃u,b= .inr u/\J u)
  (fun x ⟨k,hk,hkn,hi⟩=>by
   obtain⟨a,u⟩:=x
   simp only at hk hi
   subst hk
   by_cases hlt:k<n
   ·rcases h k u hlt hi with⟨s',h1,h2⟩|⟨v,h1,h2⟩
    ·left
     simp only
     rw[fh6 (show((k:Nat):Int)<(n:Int) by omega),h1]
     refine⟨(((k+1:Nat):Int),s'),?_,⟨k+1,rfl,by omega,h2⟩,by simp only;omega⟩
     simp only[fh5,ac0,aE2]
     first|rfl|(rw[k6 (by omega) (by omega)];rfl)
    ·right
     simp only
     rw[fh6 (show((k:Nat):Int)<(n:Int) by omega),h1]
     exact⟨_,rfl,.inr ⟨v,rfl,h2⟩⟩
   ·right
    simp only
    rw[fh7 (show¬((k:Nat):Int)<(n:Int) by omega)]
    have:k=n:=by omega
    subst this
    exact⟨_,rfl,.inl ⟨u,rfl,hi⟩⟩) n (0,s) (by simp) ⟨0,rfl,by omega,h0⟩
theorem dG5 (l:List A6)(hl:l.length<=1000000)(f:Cl Tryz.prog A6 Bool (fun x=>[aQ2 x]) (fun r=>.t (tB r)))(p:A6->Bool)(h:∀x,f.f x=some (p x)):∃v,(J2 l f).m=some v/\(0<=v->v<(l.length:Int)):=by
 simp only[J2,C.of,M.run]
 obtain⟨b,e,h1⟩:=cT2 l.length (by omega) (fun i (u:Unit)=>(P7 l f i u).run) (fun _ _=>True) (fun v:Int=>v<(l.length:Int)) () trivial (fun k u hk _=>by
  simp only[P7,M.run,L1.m,Cl.at]
  rw[S0,aJ9 hk]
  simp only[ac0,h]
  cases p l[k]
  ·exact .inl ⟨(),rfl,trivial⟩
  ·exact .inr ⟨_,rfl,by omega⟩)
 rw[e]
 rcases h1 with⟨u,rfl,_⟩|⟨v,rfl,h2⟩
 ·exact⟨-1,rfl,fun h=>by omega⟩
 ·exact⟨v,rfl,fun _=>h2⟩
theorem eo5 {t:p6}(h:cl9 t=true)(a:Int):∃r,(aB0 t a 13500).m=some r:=by
 have hd:=(dA7 h).dead
 rw[cL8]
 by_cases ha:0<=a/\a<=1048576
 ·rw[dY5 hd ha (by omega)]
  exact⟨_,rfl⟩
 ·have hd':=hd
  rw[au2]at hd
  obtain⟨h1,h2⟩:=hd
  have hl:=(bn2 h1).yl
  have hx:=(bn2 h1).x.most
  have e:Pv.u7 t.V6.Y Pv.aG2=some (t.V6.Y.any fun y=>!inR 0 10000 y):=ar0 _ (by omega) _ _ (fun y _=>rfl)
  have e2:(t.V6.Y.any fun y=>!inR 0 10000 y)=false:=by
   rw[dB8]
   intro y hy
   rw[List.all_eq_true.1 h2 y hy];simp
  have e3:Pv.aC0 t a 13500=some (0,2):=by
   unfold Pv.aC0
   rw[ar2,h1,e,e2,cP0]
   have:inR 0 1048576 a=false:=by
    unfold inR
    rw[Bool.eq_false_iff]
    intro h3
    simp only[au2,fh8]at h3
    exact ha h3
   rw[this]
   rfl
  unfold Pv.aB0
  rw[e3]
  exact⟨_,rfl⟩
theorem eJ3 (o:O9):(bv1 o).m=some o:=rfl
theorem en6 (n:O9)(e:Int)(o:O9):(aT7 n e o).m=some (bif e !=0 then o else n):=by
 simp only[aT7,C.of,M.run]
 cases e !=0<;>rfl
theorem dO9 {b:J4}{p q:O9}{e:Int}(hp:bY5 b p)(h:e=0->bY5 b q):bY5 b (bif e !=0 then p else q):=by
 by_cases he:e=0
 ·subst he;exact h rfl
 ·rw[enz he];exact hp
theorem dV5 {s:o8}(hp:bY5 s.u.E7 s.u.u3)(ht:cl9 s.u.j3=true)(hf:s.A4.N8.length<=1000):
  ∃r,(bf0 s).m=some r/\∃p q,r={s with u:={s.u with u3:=p},J7:=q}/\bY5 s.u.E7 p:=by
 simp only[bf0,CG.of,M.run,bgi]
 generalize(bif (((!s.cut)&&s.u.G1.T7)&&s.known)then s.A4.j9 else s.J7)=f2
 refine eI2 (fun p=>bY5 s.u.E7 p) (eW6 (fun _=>?_) (fun _=>⟨_,rfl,hp⟩)) fun p h1=>?_
 ·obtain⟨v,e1,h2⟩:=dG5 s.A4.N8 (by omega) (.of (fun z_=>bE5 z_) 195 []) (fun x=>x.ag3 !=0) (fun x=>rfl)
  rw[e1]
  simp only[ac0]
  refine eI2 (fun _=>True) (eW6 (fun h3=>?_) (fun _=>⟨_,rfl,trivial⟩)) fun m _=>?_
  ·rw[fh8]at h3
   have h4:=h2 h3
   obtain⟨k,rfl⟩:∃k:Nat,v=(k:Int):=⟨v.toNat,by omega⟩
   simp only[L1.m]
   rw[S0,aJ9 (by omega)]
   simp only[ac0]
   obtain⟨r,e⟩:=eo5 ht (s.A4.N8[k]'(by omega)).ag3
   rw[e]
   exact⟨_,rfl,trivial⟩
  ·obtain⟨r,u,e,e2,h3⟩:=ea1 hp m s.u9
   simp only[e2,eJ3,en6,ac0]
   exact⟨_,rfl,dO9 hp h3⟩
 ·generalize(bif decide (s.u0<400)then o6 (f2+800)else f2)=q
  generalize(bif s.u.G1.T7 then s.A4.C4 else 0)=a
  generalize(bif s.d.be0 !=0 then o6 (s.d.be1+s.d.aF4)else 0)=g
  obtain⟨r,u,e,e2,h3⟩:=eE5 h1 a (J1 q 10000) g 10000
  simp only[e2,eJ3,en6,ac0]
  exact⟨_,rfl,_,_,rfl,dO9 h1 h3⟩
theorem eo2 (l:List o5):∃b,(ch4 l).m=some b/\(b=true->l.length<=1000):=by
 simp only[ch4,C.of,M.run]
 by_cases h:(l.length:Int)>1000
 ·rw[fh6 h];exact⟨false,rfl,fun h=>by cases h⟩
 ·rw[fh7 h]
  simp only[fh3]
  rcases bL1 l (by omega) (fun i x (s:Int)=>(bB9 i x s).run) (fun _ _=>True) (fun _=>True) 0 trivial (fun k x s hx _=>by
   simp only[bB9,M.run,dn2,ac0]
   cases((((!ag2 x.At)||(decide (x.At<s)))||(decide (x.Channel<0)))||(decide (x.Channel>=16)))
   ·exact .inl ⟨_,rfl,trivial⟩
   ·exact .inr ⟨_,rfl,trivial⟩)with⟨s',e,_⟩|⟨u,e,_⟩
  ·rw[e];exact⟨true,rfl,fun _=>by omega⟩
  ·rw[e];exact⟨u,rfl,fun _=>by omega⟩
theorem dU9 (l:List o5)(hl:l.length<=1073741824):(aS7 l).m=some l:=by
 simp only[aS7,CG.of,M.run,U1.m]
 rw[K4 _ _ (by simpa using hl)]
 rfl
theorem eq2 (g:V7)(l:List o5):∃x,(ch2 g l).m=some x/\x.1.length<=1000:=by
 obtain⟨b,e1,h1⟩:=eo2 l
 simp only[ch2,C.of,M.run,cU3,ac0]
 cases hv:sgB g
 ·exact⟨_,rfl,by simp⟩
 ·simp only[aK4,fh3,e1,ac0]
  cases b
  ·exact⟨_,rfl,by simp⟩
  ·have hl:=h1 rfl
   simp only[aK4,fh3]
   rw[dU9 l (by omega)]
   simp only[ac0]
   have e2:(P6 l (.of (fun z_=>cq0 z_ g) 284 [bv3 g])).m=some (l.filter fun y=>!(y.M9&& !g.T7)):=eN5 l (by omega) _ (fun y=>y.M9&& !g.T7) (fun y _=>rfl)
   rw[e2]
   exact⟨_,rfl,Nat.le_trans (List.length_filter_le ..) hl⟩
theorem dI8 (s:o8):∃r,(bp4 s).m=some r/\r.bt4.length<=1000/\r.Q8=s.X6:=by
 obtain⟨x,e1,h1⟩:=eq2 s.u.G1 s.u4
 simp only[bp4,CG.of,M.run,e1,ac0]
 exact⟨_,rfl,h1,rfl⟩
structure UOk (u:Y9):Prop where
 D5:cl9 u.j3=true
 pl:bY5 u.E7 u.u3
 sch:Sc.aO4 u.c8
 few:u.c8.Next.length<=8
 now:u.c8.j7.P8=u.Time
 con:bz6 u.c8.o9 u.j4=true
 tf:tfB u.B4=true/\u.B4.E0<=u.Time
 sy:syB u.D8=true/\u.D8.E0<=u.Time
 ph:phB u.D3=true
 gr:grB u.H4=true
 qz:ee5 u.Time u.H7
 sg:sgB u.G1=true/\u.G1.ao1<=u.Time
 flt:∃c t,(1<=c/\c<=1073741824)/\Fr.Inv cf0 u.C7 c true t
 time:0<=u.Time/\u.Time<=549755813888
 ten:u.Time%10000=0
structure Mid (T:Int)(s:o8):Prop where
 ok:SOk s
 D5:cl9 s.u.j3=true
 pl:bY5 s.u.E7 s.u.u3
 sch:Sc.aO4 s.u.c8
 few:s.u.c8.Next.length<=8
 now:s.u.c8.j7.P8=T
 con:bz6 s.u.c8.o9 s.u.j4=true
 tf:tfB s.u.B4=true/\s.u.B4.E0<=T
 sy:syB s.u.D8=true/\s.u.D8.E0<=T
 ph:phB s.u.D3=true
 gr:grB s.u.H4=true
 qz:ee5 s.t s.u.H7
 sg:sgB s.u.G1=true/\s.u.G1.ao1<=s.t
 flt:∃c t,(1<=c/\c<=1073741824)/\Fr.Inv cf0 s.u.C7 c true t
 act:s.X6.length<=7/\∀x∈s.X6,x.ag5.length<=16
structure DOk (d:L3)(k:List ab5):Prop where
 few:k.length<=100
 val:∀b∈k,-1000000<=b.Value/\b.Value<=1000000
 ped:0<=d.C5/\d.C5<=1000
structure ee6 (r:Y2):Prop where
 sw:r.bt4.length<=1000
 act:r.Q8.length<=7/\∀x∈r.Q8,x.ag5.length<=16
theorem dx2 {u:Y9}{d:L3}{k:List ab5}(hc:Fr.Cfs cf0)(h:UOk u)(hd:DOk d k)(ht:u.Time+10000<=549755813888):
  ∃v r,(bR7 u d k).m=some (v,r)/\UOk v/\v.Time=u.Time+10000/\ee6 r:=by
 have hspd:=h.pl.spd
 have hti:=h.time
 have e0:=eF9 u.u3.C9 hspd.1 hspd.2
 have hrpm:0<=u.u3.C9*60000000/1509949440/\u.u3.C9*60000000/1509949440<=12000:=by omega
 simp only[bR7,C.of,M.run,e0,ac0]
 generalize u.u3.C9*60000000/1509949440=rpm at hrpm|-
 generalize((u.D8.Mode==2)&&u.D3.ap8)=kn
 have m0:Mid u.Time (⟨u,d,k,u.Time,rpm,([]:List X4),0,0,0,0,0,(⟨0,([]:List A6),0⟩:J9),0,0,kn,false,([]:List o5),0⟩:o8):=
  ⟨⟨hd.few,hd.val,hd.ped,h.pl.pre,⟨by simp only;omega,by simp only;omega⟩,hrpm⟩,h.D5,h.pl,h.sch,h.few,h.now,h.con,h.tf,h.sy,h.ph,h.gr,h.qz,h.sg,h.flt,by simp,by simp⟩
 obtain⟨r1,e1,m1,a1,t1,sw1⟩:∃r,(bl4 (⟨u,d,k,u.Time,rpm,([]:List X4),0,0,0,0,0,(⟨0,([]:List A6),0⟩:J9),0,0,kn,false,([]:List o5),0⟩:o8)).m=some r/\Mid u.Time r/\ey4 r/\r.t=u.Time/\r.u4=[]:=by
  obtain⟨c,t,hct,hi⟩:=h.flt
  obtain⟨r,t',e,o,hi'⟩:=ev6 m0.ok hc hi hct.1 hct.2
  obtain⟨q1,q2,q3,q4,q5,q6,q7,q8,q9,q10,q11,q12,q13,q14,q15,q16,q17,q18,q19,q25,q20,q21,q22,q23,q24⟩:=o
  simp only at q1 q2 q3 q4 q5 q6 q7 q8 q9 q10 q11 q12 q13 q14 q15 q16 q17 q18 q19
  refine⟨r,e,⟨⟨by rw[q13];exact hd.few,by rw[q13];exact hd.val,by rw[q12];exact hd.ped,by rw[q10];exact h.pl.pre,by rw[q14];omega,by rw[q15];exact hrpm⟩,by rw[q1];exact h.D5,by rw[q11,q10];exact h.pl,by rw[q3];exact h.sch,by rw[q3];exact h.few,by rw[q3];exact h.now,by rw[q3,q2];exact h.con,by rw[q6];exact h.tf,by rw[q4];exact h.sy,by rw[q5];exact h.ph,by rw[q7];exact h.gr,by rw[q8,q14];exact h.qz,by rw[q9,q14];exact h.sg,⟨c,t',hct,hi'⟩,q25⟩,⟨q20,q21,q22,q23,q24⟩,q14,q18⟩
 rw[e1];simp only[ac0]
 obtain⟨r2,e2,m2,a2,t2,sw2,n2⟩:∃r,(aT8 r1).m=some r/\Mid u.Time r/\ey4 r/\r.t=u.Time/\r.u4=[]/\(1<=r.A4.N8.length/\r.A4.N8.length<=8):=by
  obtain⟨c,o,e,hg,hl⟩:=dr3 m1.ok a1 m1.D5 m1.pl.body m1.con
  have hn:=(cf4.1 m1.con).eng
  have hn1:=hn.1;have hn2:=hn.2.1
  exact⟨_,e,⟨⟨m1.ok.few,m1.ok.val,m1.ok.ped,m1.ok.pre,m1.ok.t,m1.ok.spd⟩,m1.D5,m1.pl,m1.sch,m1.few,m1.now,hg,m1.tf,m1.sy,m1.ph,m1.gr,m1.qz,m1.sg,m1.flt,m1.act⟩,⟨a1.Y5,a1.A3,a1.ak8,a1.B0,a1.V3⟩,t1,sw1,by show 1<=o.N8.length/\o.N8.length<=8;omega⟩
 rw[e2];simp only[ac0]
 obtain⟨r3,e3,m3,t3,sw3,n3⟩:∃r,(aT9 r2).m=some r/\Mid u.Time r/\r.t=u.Time/\r.u4=[]/\r.A4.N8.length<=8:=by
  obtain⟨g,f,p,c,b,e,hg,hl⟩:=dv7 m2.ok a2 m2.D5 m2.con m2.gr n2.1 n2.2
  exact⟨_,e,⟨⟨m2.ok.few,m2.ok.val,m2.ok.ped,m2.ok.pre,m2.ok.t,m2.ok.spd⟩,m2.D5,m2.pl,m2.sch,m2.few,m2.now,m2.con,m2.tf,m2.sy,m2.ph,hg,m2.qz,m2.sg,m2.flt,m2.act⟩,t2,sw2,by show f.length<=8;omega⟩
 rw[e3];simp only[ac0]
 obtain⟨r4,e4,m4,t4,sw4,n4⟩:∃r,(br5 r3).m=some r/\Mid u.Time r/\r.t=u.Time/\r.u4=[]/\r.A4.N8.length<=8:=by
  obtain⟨q,e,hq⟩:=ez4 m3.ok m3.qz
  exact⟨_,e,⟨⟨m3.ok.few,m3.ok.val,m3.ok.ped,m3.ok.pre,m3.ok.t,m3.ok.spd⟩,m3.D5,m3.pl,m3.sch,m3.few,m3.now,m3.con,m3.tf,m3.sy,m3.ph,m3.gr,hq,m3.sg,m3.flt,m3.act⟩,t3,sw3,n3⟩
 rw[e4];simp only[ac0]
 obtain⟨r5,e5,m5,t5,sw5,n5⟩:∃r,(aZ7 r4).m=some r/\Mid u.Time r/\r.t=u.Time/\r.u4.length<=100/\r.A4.N8.length<=8:=by
  obtain⟨g,c,w,e,hg,hs,hw⟩:=dF6 m4.sg ⟨m4.sch,m4.few,rfl,rfl⟩ n4 (by rw[sw4];simp)
  rw[sw4]at hw
  exact⟨_,e,⟨⟨m4.ok.few,m4.ok.val,m4.ok.ped,m4.ok.pre,m4.ok.t,m4.ok.spd⟩,m4.D5,m4.pl,hs.ok,hs.few,hs.now.trans m4.now,by show bz6 c.o9 r4.u.j4=true;rw[hs.eng];exact m4.con,m4.tf,m4.sy,m4.ph,m4.gr,m4.qz,hg,m4.flt,m4.act⟩,t4,by simpa using hw,n4⟩
 rw[e5];simp only[ac0]
 obtain⟨r6,e6,m6,t6,n6⟩:∃r,(bl5 r5).m=some r/\Mid (u.Time+10000) r/\r.t=u.Time/\r.A4.N8.length<=8:=by
  have bF1:=m5.now;have htf:=m5.tf;have hsy:=m5.sy
  obtain⟨c,y,p,f,w,e,q,hn⟩:=ew5 (s:=r5) (by rw[t5];exact⟨by omega,⟨m5.sch,m5.few,rfl,by omega,by omega⟩,⟨hsy.1,by omega⟩,m5.ph,⟨htf.1,by omega⟩⟩) m5.pl (by rw[t5];omega) (by omega)
  rw[t5]at q hn
  exact⟨_,e,⟨⟨m5.ok.few,m5.ok.val,m5.ok.ped,m5.ok.pre,m5.ok.t,m5.ok.spd⟩,m5.D5,m5.pl,q.sch.ok,q.sch.few,hn,by show bz6 c.o9 r5.u.j4=true;rw[q.sch.eng];exact m5.con,q.tf,q.sy,q.ph,m5.gr,m5.qz,m5.sg,m5.flt,m5.act⟩,t5,n5⟩
 rw[e6];simp only[ac0]
 obtain⟨r7,e7,m7,t7⟩:∃r,(bf0 r6).m=some r/\Mid (u.Time+10000) r/\r.t=u.Time:=by
  obtain⟨r,e,p,q,rfl,hp⟩:=dV5 m6.pl m6.D5 (by omega)
  exact⟨_,e,⟨⟨m6.ok.few,m6.ok.val,m6.ok.ped,hp.pre,m6.ok.t,m6.ok.spd⟩,m6.D5,hp,m6.sch,m6.few,m6.now,m6.con,m6.tf,m6.sy,m6.ph,m6.gr,m6.qz,m6.sg,m6.flt,m6.act⟩,t6⟩
 rw[e7];simp only[ac0]
 obtain⟨r8,e8,s8,a8⟩:=dI8 ({r7 with u:={r7.u with Time:=o6 (r7.t+10000)}}:o8)
 rw[e8];simp only[ac0]
 have hw:o6 (r7.t+10000)=u.Time+10000:=by rw[t7,k6 (by omega) (by omega)]
 have hq:=m7.qz;have hg:=m7.sg
 rw[t7]at hq hg
 have hten:=h.ten
 rw[hw]
 exact⟨_,_,rfl,⟨m7.D5,m7.pl,m7.sch,m7.few,m7.now,m7.con,m7.tf,m7.sy,m7.ph,m7.gr,⟨hq.1,by have:=hq.2;show r7.u.H7.an5<=u.Time+10000;omega⟩,⟨hg.1,by have:=hg.2;show r7.u.G1.ao1<=u.Time+10000;omega⟩,m7.flt,by show 0<=u.Time+10000/\u.Time+10000<=549755813888;omega,by show(u.Time+10000)%10000=0;omega⟩,rfl,⟨s8,by rw[a8];exact m7.act⟩⟩
theorem em0 {f:B3}(hc:Fr.Cfs cf0)(h:∃c t,(1<=c/\c<=1073741824)/\Fr.Inv cf0 f c true t):(ab9 f).m=some true/\f.L.length=7/\f.S8=true:=by
 obtain⟨c,t,hct,hi⟩:=h
 refine⟨?_,by rw[hi.len,bW2],hi.run⟩
 rw[be4]
 exact Fr.cq8 hc hi (by omega) hct.2 (fun _=>hct.1)
theorem eu9 {s:j2}(h:Sc.aO4 s)(hf:s.Next.length<=8):(K9 s).m=some true:=by
 have:=h.most
 rw[av1,Sc.bd1 s (by omega) (by omega),Sc.aY6.2 h]
theorem dg4 {u:Y9}(hc:Fr.Cfs cf0)(h:UOk u):(bW4 u).m=some true:=by
 have e1:(ae2 u.j3).m=some true:=by rw[bi1,bi7,h.D5]
 have e2:=dm3 h.pl
 have e3:=eu9 h.sch h.few
 have e4:(ar1 u.c8.o9 u.j4).m=some true:=by rw[bM3,dO2,h.con]
 obtain⟨e5,e6,e7⟩:=em0 hc h.flt
 have ht:=h.time
 have hf:=h.tf.2;have hs:=h.sy.2;have hq:=h.qz.2;have hg:=h.sg.2
 simp only[bW4,C.of,M.run,e1,e2,e3,e4,cV5,h.tf.1,cy8,cV3,h.sy.1,cm2,cS4,h.ph,cQ0,h.gr,co4,h.qz.1,cU3,h.sg.1,e5,e6,e7,ac0,aK4,cI8,fh3,fh5]
 rw[fh6 (show u.Time>=0 by omega),fh6 ht.2,h.now,do3 ht.1,h.ten]
 have hm:K2 (K2 (K2 u.B4.E0 u.D8.E0) u.G1.ao1) u.H7.an5<=u.Time:=by
  unfold K2
  split<;>split<;>(try split)<;>omega
 rw[fh6 hm]
 simp
theorem fa1:(cS9 1).m=some (⟨1,0,0,false,false⟩,0):=(cS9 1).le 100 _ (by kernel_rfl)
theorem fc0:(dA4).m=some sy0:=rfl
theorem tf0:(bN2).m=some ⟨false,0,0⟩:=rfl
theorem eS6:(df7).m=some ⟨false,1,0⟩:=rfl
theorem eD8 (t:p6)(b:J4)(e:o7):∃u f,(bW3 t b e cf0).m=some (u,f)/\(f=0\/f=1)/\(f=0->Fr.Cfs cf0/\UOk u/\u.Time=0):=by
 obtain⟨p,pe,e3,h3⟩:=eR5 b
 have e5:(ae2 t).m=some (cl9 t):=by rw[bi1,bi7]
 have bad:∀{c:Bool}{x:Option (Y9×Int)}{z:Y9},c=true->∃u f,(bif c then some (z,1)else x)=some (u,f)/\(f=0\/f=1)/\(f=0->Fr.Cfs cf0/\UOk u/\u.Time=0):=by
  intro c x z h
  rw[h]
  exact⟨_,_,rfl,.inr rfl,fun h=>by cases h⟩
 by_cases he:Ev.aE8 e
 ·have e1:(aA5 e).m=some (eD7 e.z7.length,0):=by rw[bP5,bR4,fh6 he];rfl
  have e2:(aq2 e).m=some (Sc.bZ7 e,0):=by rw[bD2,Sc.dR1,fh6 he];rfl
  rcases Fr.dl3 (l:=cf0) (by rw[bW2];omega)with⟨x,e4,hx⟩|⟨hc,f,e4,hi⟩
  ·simp only[bW3,C.of,M.run,e1,e2,e3,e5,bH9,e4,ac0]
   exact bad (by rw[enz hx];simp)
  ·simp only[bW3,C.of,M.run,e1,e2,e3,e5,bH9,e4,ac0]
   by_cases hp:pe=0
   ·subst hp
    have pk:=h3 rfl
    cases ht:cl9 t
    ·exact bad (by simp)
    ·rw[show((((((!true)||((0:Int) !=0))||((0:Int) !=0))||((0:Int) !=0))||((0:Int) !=0))||(decide ((cf0.length:Int)<7)))=false by rw[bW2];rfl]
     simp only[fh3]
     obtain⟨f',e6,hi'⟩:=Fr.eh6 hc hi (by omega) (by omega)
     simp only[cL3,e6,fa1,fc0,eq5,tf0,eS6,ac0]
     refine⟨_,_,rfl,.inl rfl,fun _=>⟨hc,⟨ht,pk,Sc.dl3 he,by simp[Sc.bZ7],rfl,ep1 he,⟨rfl,by simp⟩,⟨eS9,by simp⟩,eR3,rfl,⟨rfl,by simp⟩,⟨rfl,by simp⟩,⟨_,_,by omega,hi'⟩,by simp,by simp⟩,rfl⟩⟩
   ·exact bad (by rw[enz hp];simp)
 ·have e1:(aA5 e).m=some (eK9,1):=by rw[bP5,bR4,fh7 he];rfl
  have e2:(aq2 e).m=some (Sc.cr5,1):=by rw[bD2,Sc.dR1,fh7 he];rfl
  obtain⟨x,f,e4⟩:∃x f,Pv.aP5 cf0=some (x,f):=by
   rcases Fr.dl3 (l:=cf0) (by rw[bW2];omega)with⟨x,e4,hx⟩|⟨hc,f,e4,hi⟩
   ·exact⟨_,_,e4⟩
   ·exact⟨_,_,e4⟩
  simp only[bW3,C.of,M.run,e1,e2,e3,e5,bH9,e4,ac0]
  exact bad (by simp)
def dE1 (x:ab5):Prop:=((0<=x.cb3/\x.cb3<=1099511627776)/\(0<=x.To/\x.To<=1099511627776))/\(0<=x.ba5/\x.ba5<=7)/\(-1000000<=x.Value/\x.Value<=1000000)
theorem dD5 (l:List ab5)(hl:l.length<=1000000)(f:Cl Tryz.prog ab5 Bool (fun x=>[bO7 x]) (fun r=>.t (tB r)))(p:ab5->Bool)(h:∀x∈l,f.f x=some (p x)):(aE3 l f).m=some (l.any p):=by
 simp only[aE3,bd0,aS8,C.of,M.run,L1.m,Cl.at]
 refine Eq.trans ?_ (bJ8 l (by omega) f.f p h)
 kernel_rfl
theorem cM8 {k:List ab5}(h:k.length<=100)(hk:∀x∈k,dE1 x):(bJ0 k).m=some true:=by
 simp only[bJ0,C.of,M.run]
 rw[dD5 k (by omega) (.of (fun z_=>cm1 z_) 89 []) _ (fun x _=>rfl)]
 have:(k.any fun b2=>((((((((decide (b2.cb3<0))||(decide (b2.cb3>1099511627776)))||(decide (b2.To<0)))||(decide (b2.To>1099511627776)))||(decide (b2.ba5<0)))||(decide (b2.ba5>7)))||(decide (b2.Value<(-1000000))))||(decide (b2.Value>1000000))))=false:=by
  rw[dB8]
  intro x hx
  obtain⟨⟨h1,h2⟩,h3,h4⟩:=hk x hx
  simp only[cx1,fh8]
  omega
 rw[this,fh6 (show(k.length:Int)<=100 by omega)]
 rfl
theorem eO9 (x a b:Int):(aP0 x a b).m=some (decide (x>=a)&&decide (x<=b)):=rfl
theorem dy4 (k:List ab5)(hk:k.length<=1000000):∃b,(aW7 k).m=some b/\(b=true->k.length<=100/\∀x∈k,dE1 x):=by
 simp only[aW7,C.of,M.run]
 obtain⟨b,e,h⟩:=aN0 (mb:=fun s=>(aN2 k s).run) (fun i=>∃n:Nat,i=(n:Int)/\n<=k.length/\∀x∈k.take n,dE1 x) (fun i=>k.length-i.toNat)
  (fun b=>(∃i,b= .inl i/\∀x∈k,dE1 x)\/b= .inr false) (fun i ⟨n,hi,hn,hI⟩=>by
   subst hi
   simp only[aN2,M.run,L1.m,eO9,ac0,bg]
   by_cases hlt:n<k.length
   ·rw[fh6 (show((n:Nat):Int)<(k.length:Int) by omega),S0,aJ9 hlt]
    simp only[fh5,ac0,bgo]
    cases hc:((((!(decide (k[n].cb3>=0)&&decide (k[n].cb3<=1099511627776)))|| !(decide (k[n].To>=0)&&decide (k[n].To<=1099511627776)))|| !(decide (k[n].ba5>=0)&&decide (k[n].ba5<=7)))|| !(decide (k[n].Value>=(-1000000))&&decide (k[n].Value<=1000000)))
    ·left
     rw[k6 (n:=(n:Int)+1) (by omega) (by omega)]
     refine⟨_,rfl,⟨n+1,by omega,by omega,?_⟩,by omega⟩
     intro x hx
     rw[dC0 hlt,do2,eM4]at hx
     rcases hx with hx|hx
     ·exact hI x hx
     ·subst hx
      simp only[bG8,Bool.not_eq_false',au2,fh8]at hc
      unfold dE1
      omega
    ·right
     exact⟨_,rfl,.inr rfl⟩
   ·right
    rw[fh7 (show¬((n:Nat):Int)<(k.length:Int) by omega)]
    have:n=k.length:=by omega
    subst this
    rw[eI1]at hI
    exact⟨_,rfl,.inl ⟨_,rfl,hI⟩⟩) k.length 0 (by simp) ⟨0,rfl,by omega,by simp⟩
 rw[e]
 rcases h with⟨i,rfl,h⟩|rfl
 ·exact⟨_,rfl,fun h2=>⟨by have:=of_decide_eq_true h2;omega,h⟩⟩
 ·exact⟨_,rfl,fun h=>by cases h⟩
def dr9 (d:L3):Prop:=(0<=d.At/\d.At<=1099511627776)/\(0<=d.C5/\d.C5<=1000)/\(0<=d.aF4/\d.aF4<=1000)/\(0<=d.be0/\d.be0<=6)/\(-500<=d.be1/\d.be1<=2000)
noncomputable abbrev dw1 (d:L3):Int×Int×Int×Int×Int:=(d.At,d.C5,d.aF4,d.be0,d.be1)
noncomputable abbrev dx7:I1×I1×I1×I1×I1:=((⟨(ByteArray.mk #[97,116]),0,1099511627776⟩:I1),(⟨(ByteArray.mk #[112,101,100,97,108]),0,1000⟩:I1),(⟨(ByteArray.mk #[98,114,97,107,101]),0,1000⟩:I1),(⟨(ByteArray.mk #[103,101,97,114]),0,6⟩:I1),(⟨(ByteArray.mk #[108,111,97,100]),(-500),2000⟩:I1))
def bx (x a b:Int):Bool:=decide (x<a)||decide (x>b)
theorem eM5 {x a b:Int}:bx x a b=false↔a<=x/\x<=b:=by simp[bx]
theorem dx9 (x a b j:Int):((bif decide (x<a)then some true else some (decide (x>b))).bind fun v5=>bif v5 then some (.inr (.inr false))else some (.inl j))=(some (bif bx x a b then .inr (.inr false)else .inl j):Option (Int⊕(Int⊕Bool))):=by
 unfold bx
 cases decide (x<a)<;>cases decide (x>b)<;>rfl
theorem p0 (d:L3):(ax1 (dw1 d) dx7 0).run=some (bif bx d.At 0 1099511627776 then .inr (.inr false)else .inl 1):=dx9 d.At 0 1099511627776 1
theorem p1 (d:L3):(ax1 (dw1 d) dx7 1).run=some (bif bx d.C5 0 1000 then .inr (.inr false)else .inl 2):=dx9 d.C5 0 1000 2
theorem p2 (d:L3):(ax1 (dw1 d) dx7 2).run=some (bif bx d.aF4 0 1000 then .inr (.inr false)else .inl 3):=dx9 d.aF4 0 1000 3
theorem p3 (d:L3):(ax1 (dw1 d) dx7 3).run=some (bif bx d.be0 0 6 then .inr (.inr false)else .inl 4):=dx9 d.be0 0 6 4
theorem p4 (d:L3):(ax1 (dw1 d) dx7 4).run=some (bif bx d.be1 (-500) 2000 then .inr (.inr false)else .inl 5):=dx9 d.be1 (-500) 2000 5
theorem p5 (d:L3):(ax1 (dw1 d) dx7 5).run=some (.inr (.inl 5)):=rfl
def ek2 (d:L3):Bool:=bx d.At 0 1099511627776||(bx d.C5 0 1000||(bx d.aF4 0 1000||(bx d.be0 0 6||bx d.be1 (-500) 2000)))
theorem dr8 {d:L3}:ek2 d=false↔dr9 d:=by
 unfold ek2 dr9
 simp only[bG8,eM5]
theorem de7 (d:L3):M0 (fun x=>(ax1 (dw1 d) dx7 x).run) 0=some (bif ek2 d then .inr false else .inl 5):=by
 unfold ek2
 have q0:=p0 d;have q1:=p1 d;have q2:=p2 d;have q3:=p3 d;have q4:=p4 d
 cases h0:bx d.At 0 1099511627776
 ·rw[h0]at q0
  rw[I5 (s':=1) q0]
  cases h1:bx d.C5 0 1000
  ·rw[h1]at q1
   rw[I5 (s':=2) q1]
   cases h2:bx d.aF4 0 1000
   ·rw[h2]at q2
    rw[I5 (s':=3) q2]
    cases h3:bx d.be0 0 6
    ·rw[h3]at q3
     rw[I5 (s':=4) q3]
     cases h4:bx d.be1 (-500) 2000
     ·rw[h4]at q4
      rw[I5 (s':=5) q4]
      exact F7 (p5 d)
     ·rw[h4]at q4
      exact F7 q4
    ·rw[h3]at q3
     exact F7 q3
   ·rw[h2]at q2
    exact F7 q2
  ·rw[h1]at q1
   exact F7 q1
 ·rw[h0]at q0
  exact F7 q0
structure ey5 (l:List L3):Prop where
 pos:1<=l.length
 most:l.length<=200
 first:∀x,l[0]? =some x->x.At=0
 drv:∀x∈l,dr9 x
theorem dw2 (d:L3):(ca3 d).m=some (dw1 d):=rfl
theorem dx8:(cA3).m=some dx7:=rfl
theorem dF3 (l:List L3)(hl:l.length<=1000000):∃b,(aA7 l).m=some b/\(b=true->ey5 l):=by
 simp only[aA7,C.of,M.run,L1.m]
 by_cases h1:1<=l.length/\l.length<=200
 ·rw[fh7 (show¬(l.length:Int)<1 by omega),fh7 (show¬(l.length:Int)>200 by omega),show F0 l 0=some (l[0]'(by omega))from(S0 l 0).trans (aJ9 (by omega))]
  simp only[eU3,fh3,ac0]
  by_cases h2:(l[0]'(by omega)).At=0
  ·rw[show((l[0]'(by omega)).At !=0)=false by rw[h2];rfl]
   simp only[fh3]
   obtain⟨b,e,h⟩:=cT2 l.length (by omega) (fun i (u:Unit)=>(aR5 l i u).run) (fun k _=>∀x∈l.take k,dr9 x) (fun b:Bool=>b=false) () (by simp) (fun k u hk hI=>by
    simp only[aR5,M.run,L1.m]
    rw[S0,aJ9 hk]
    simp only[ac0]
    obtain⟨c,hc⟩:∃c,(bif decide ((k:Int)>0)then(F0 l (o6 ((k:Int)-1))).bind fun t=>some (decide (l[k].At<=t.At))else some false)=some c:=by
     by_cases h0:(k:Int)>0
     ·rw[fh6 h0,k6 (by omega) (by omega),show((k:Int)-1)=((k-1:Nat):Int) by omega,S0,aJ9 (by omega)]
      exact⟨_,rfl⟩
     ·rw[fh7 h0];exact⟨_,rfl⟩
    rw[hc]
    simp only[ac0]
    cases c
    ·simp only[fh3,dw2,dx8,ac0]
     rw[de7]
     cases hd:ek2 l[k]
     ·left
      refine⟨(),rfl,?_⟩
      intro x hx
      rw[dC0 hk,do2,eM4]at hx
      rcases hx with hx|hx
      ·exact hI x hx
      ·subst hx;exact dr8.1 hd
     ·right;exact⟨false,rfl,rfl⟩
    ·right;exact⟨false,rfl,rfl⟩)
   rw[e]
   rcases h with⟨u,rfl,h⟩|⟨b,rfl,rfl⟩
   ·rw[eI1]at h
    exact⟨true,rfl,fun _=>⟨h1.1,h1.2,fun x hx=>by rw[aJ9 (by omega)]at hx;cases hx;exact h2,h⟩⟩
   ·exact⟨false,rfl,fun h=>by cases h⟩
  ·rw[bnt h2]
   exact⟨false,rfl,fun h=>by cases h⟩
 ·refine⟨false,?_,fun h=>by cases h⟩
  rw[show((decide ((l.length:Int)<1))||(decide ((l.length:Int)>200)))=true by rw[cx1,fh8,fh8];omega]
  rfl
theorem dF2 {d:L3}(h:dr9 d)(h0:d.At=0):(aA7 [d]).m=some true:=by
 simp only[aA7,C.of,M.run,L1.m]
 rw[show F0 [d] 0=some d from rfl]
 simp only[ac0]
 rw[h0]
 obtain⟨u,e,_⟩:=ah4 [d].length (by simp) (fun i (u:Unit)=>(aR5 [d] i u).run) (fun _ _=>True) () trivial (fun k u hk _=>by
  have:k=0:=by simpa using hk
  subst this
  simp only[aR5,M.run,L1.m]
  rw[show F0 [d] ((0:Nat):Int)=some d from rfl]
  simp only[ac0]
  rw[fh7 (show¬(((0:Nat):Int)>0) by omega)]
  simp only[fh3,dw2,dx8,ac0]
  rw[de7,dr8.2 h]
  exact⟨(),rfl,trivial⟩)
 rw[e]
 rfl
theorem dZ9 {d:L3}(h:dr9 d):(cv0 d).m=some true:=by
 simp only[cv0,C.of,M.run]
 have h1:=h.1
 rw[fh6 (show d.At>=0 by omega),fh6 h1.2,dF2 (d:=⟨0,d.C5,d.aF4,d.be0,d.be1⟩) ⟨⟨Int.le_refl _,by show(0:Int)<=1099511627776;omega⟩,h.2⟩ rfl]
 rfl
theorem eo7 {a b:Int}(h0:0<=a)(h:a<=b)(hb:b<=1000000):o6 (F1 .u64 (aK3.wrap (o6 (a+b))) 1)=(a+b)/2:=by
 have h1:o6 (a+b)=a+b:=k6 (by omega) (by omega)
 rw[h1]
 have h2:aK3.wrap (a+b)=a+b:=by
  unfold IntKind.wrap
  simp[IntKind.signed,IntKind.bits]
  omega
 rw[h2]
 have h3:F1 .u64 (a+b) 1=(a+b)/2:=by
  unfold F1
  show(a+b).fdiv 2=_
  rw[Int.fdiv_eq_ediv_of_nonneg _ (by omega)]
 rw[h3,k6 (by omega) (by omega)]
theorem dJ5 (l:List L3)(hl:ey5 l)(t:Int)(ht:0<=t/\t<=1099511627776)(f:Cl Tryz.prog (L3×Int) Int (fun x=>[bd6 x.1,.t (tI x.2)]) (fun r=>.t (tI r)))(hf:∀x:L3,f.f (x,t)=some (o6 (x.At-t))):
  ∃i b,(av5 l t f).m=some (i,b)/\(b=true->0<=i/\i<(l.length:Int))/\(b=false->1<=i/\i<=(l.length:Int)):=by
 have hm:=hl.most
 have hp:=hl.pos
 have hw:∀x∈l,o6 (x.At-t)=x.At-t:=fun x hx=>by
  have:=(hl.drv x hx).1
  exact k6 (by omega) (by omega)
 simp only[av5,C.of,M.run,L1.m,Cl.at]
 obtain⟨b,e,h⟩:=aN0 (mb:=fun s=>(ap7 l t f s).run) (fun s=>0<=s.1/\s.1<=s.2/\s.2<=(l.length:Int)/\(s.2<(l.length:Int)->∀x,l[s.2.toNat]? =some x->t<=x.At)) (fun s=>(s.2-s.1).toNat)
  (fun b:(Int×Int)⊕Empty=>∃i,b= .inl (i,i)/\0<=i/\i<=(l.length:Int)/\(i<(l.length:Int)->∀x,l[i.toNat]? =some x->t<=x.At)) (fun s ⟨h0,h1,h2,h3⟩=>by
   obtain⟨a,b⟩:=s
   simp only at h0 h1 h2 h3
   simp only[ap7,M.run,L1.m,Cl.at]
   rw[eo7 h0 h1 (by omega)]
   by_cases hab:a<b
   ·left
    rw[fh6 hab]
    obtain⟨m,hm⟩:∃m:Nat,(a+b)/2=(m:Int):=⟨((a+b)/2).toNat,by omega⟩
    have hml:m<l.length:=by omega
    rw[hm,S0,aJ9 hml]
    simp only[fh5,ac0,hf,hw _ (bf2 hml)]
    by_cases hlt:l[m].At-t<0
    ·rw[fh6 hlt,k6 (n:=(m:Int)+1) (by omega) (by omega)]
     exact⟨_,rfl,⟨by simp only;omega,by simp only;omega,h2,h3⟩,by simp only;omega⟩
    ·rw[fh7 hlt]
     refine⟨_,rfl,⟨h0,by simp only;omega,by simp only;omega,fun _ x hx=>?_⟩,by simp only;omega⟩
     simp only[eI8]at hx
     rw[aJ9 hml]at hx
     cases hx
     omega
   ·right
    rw[fh7 hab]
    have:a=b:=by omega
    subst this
    exact⟨_,rfl,a,rfl,h0,h2,h3⟩) l.length (0,(l.length:Int)) (by simp) ⟨by simp only;omega,by simp only;omega,by simp only;omega,fun h=>absurd h (by simp)⟩
 rw[e]
 obtain⟨i,rfl,h0,h1,h2⟩:=h
 simp only[ac0]
 by_cases hi:i<(l.length:Int)
 ·rw[fh6 hi]
  obtain⟨m,hm⟩:∃m:Nat,i=(m:Int):=⟨i.toNat,by omega⟩
  have hml:m<l.length:=by omega
  subst hm
  rw[S0,aJ9 hml]
  simp only[fh5,ac0,hf,hw _ (bf2 hml)]
  refine⟨_,_,rfl,fun _=>⟨h0,hi⟩,fun hb=>⟨?_,h1⟩⟩
  rw[beq_eq_false_iff_ne]at hb
  by_cases hz:m=0
  ·subst hz
   exfalso
   have a0:=hl.first _ (aJ9 hml)
   have a1:=h2 hi _ (by rw[eI8];exact aJ9 hml)
   omega
  ·omega
 ·rw[fh7 hi]
  exact⟨_,_,rfl,fun h=>(by cases h),fun _=>by omega⟩
theorem eM2 {l:List L3}(hv:(aA7 l).m=some true)(hl:ey5 l)(t:Int)(ht:0<=t/\t<=1099511627776):∃d,(bE1 l t).m=some (d,0)/\dr9 d:=by
 obtain⟨i,b,e,h1,h2⟩:=dJ5 l hl t ht (.of (fun z_=>cm0 z_.1 z_.2) 91 []) (fun x=>rfl)
 have key:∃j:Nat,(ce4 l t).m=some ((j:Int),0)/\j<l.length:=by
  simp only[ce4,C.of,M.run,hv,ac0,aK4,fh3]
  rw[fh7 (show¬t<0 by omega),fh7 (show¬t>1099511627776 by omega)]
  simp only[eU3,fh3]
  rw[e]
  simp only[ac0]
  have hm:=hl.most
  cases b
  ·have h3:=h2 rfl
   simp only[cI8,fh5]
   rw[k6 (by omega) (by omega)]
   exact⟨(i-1).toNat,by rw[show(((i-1).toNat:Nat):Int)=i-1 by omega],by omega⟩
  ·have h3:=h1 rfl
   simp only[aK4,fh3]
   exact⟨i.toNat,by rw[show((i.toNat:Nat):Int)=i by omega],by omega⟩
 obtain⟨j,e2,hj⟩:=key
 simp only[bE1,C.of,M.run,L1.m,e2,ac0]
 rw[show((0:Int) !=0)=false from rfl,S0,aJ9 hj]
 simp only[fh3,ac0]
 exact⟨_,rfl,ht,(hl.drv _ (bf2 hj)).2⟩
theorem eu5 {u:Y9}{d:L3}{k:List ab5}(hc:Fr.Cfs cf0)(h:UOk u)(hd:dr9 d)(hk:k.length<=100)(hb:∀x∈k,dE1 x)(ht:u.Time+10000<=549755813888):
  ∃v r,(bu8 u d k).m=some (v,r,0)/\UOk v/\v.Time=u.Time+10000/\ee6 r:=by
 have h0:=h.time
 obtain⟨v,r,e,h1⟩:=dx2 hc h ⟨hk,fun x hx=>(hb x hx).2.2,hd.2.1⟩ ht
 simp only[bu8,C.of,M.run,dg4 hc h,cM8 hk hb,dZ9 hd,ac0,aK4,fh3]
 rw[k6 (by omega) (by omega),fh7 (by omega),e]
 exact⟨v,r,rfl,h1⟩
def nxU (l:List L3)(k:List ab5)(u:Y9):Y9×Y2×Int:=((bE1 l u.Time).m.bind fun r=>(bu8 u r.1 k).m).getD ⟨u,⟨0,0,0,0,[],[],false⟩,0⟩
def sq (l:List L3)(k:List ab5)(u:Y9):Nat->Y9
 |0=>u
 |i+1=>(nxU l k (sq l k u i)).1
structure dL6 (l:List L3)(k:List ab5):Prop where
 cf:Fr.Cfs cf0
 val:(aA7 l).m=some true
 dr:ey5 l
 few:k.length<=100
 brk:∀x∈k,dE1 x
theorem dl7 {l:List L3}{k:List ab5}(g:dL6 l k){u:Y9}(h:UOk u)(ht:u.Time+10000<=549755813888):
  ∃d,(bE1 l u.Time).m=some (d,0)/\(bu8 u d k).m=some (nxU l k u)/\(nxU l k u).2.2=0/\UOk (nxU l k u).1/\(nxU l k u).1.Time=u.Time+10000/\ee6 (nxU l k u).2.1:=by
 have h0:=h.time
 obtain⟨d,e1,hd⟩:=eM2 g.val g.dr u.Time (by omega)
 obtain⟨v,r,e2,h1,h2,h3⟩:=eu5 g.cf h hd g.few g.brk ht
 have e:nxU l k u=(v,r,0):=by
  unfold nxU
  rw[e1]
  simp only[ac0]
  rw[e2]
  rfl
 rw[e]
 exact⟨d,e1,e2,rfl,h1,h2,h3⟩
theorem dR2 {l:List L3}{k:List ab5}(g:dL6 l k){u:Y9}(h:UOk u)(h0:u.Time=0):∀i,i<=1000->UOk (sq l k u i)/\(sq l k u i).Time=10000*(i:Int)
 |0,_=>⟨h,by show u.Time=_;rw[h0];rfl⟩
 |i+1,hi=>by
  obtain⟨h1,h2⟩:=dR2 g h h0 i (by omega)
  obtain⟨_,_,_,_,h3,h4,_⟩:=dl7 g h1 (by rw[h2];omega)
  exact⟨h3,by show(nxU l k (sq l k u i)).1.Time=_;rw[h4,h2];omega⟩
def cT5 (l:List L3)(k:List ab5)(u:Y9)(n:Nat):List Y2:=(List.range n).map fun i=>(nxU l k (sq l k u i)).2.1
theorem eG0 {l:List L3}{k:List ab5}(g:dL6 l k){u:Y9}(h:UOk u)(h0:u.Time=0)(n:Nat)(hn:n<=1000):(cH7 u l k (n:Int)).m=some (cT5 l k u n,0):=by
 simp only[cH7,C.of,M.run,dg4 g.cf h,cM8 g.few g.brk,g.val,ac0,aK4,fh3]
 rw[fh7 (show¬(n:Int)<0 by omega),fh7 (show¬(n:Int)>1000 by omega)]
 simp only[eU3,fh3]
 obtain⟨s,e,h1,h2⟩:=ah4 n (by omega) (fun i (s:List Y2×Y9)=>(ce5 l k i s).run) (fun i s=>s.1=cT5 l k u i/\s.2=sq l k u i) ([],u) ⟨rfl,rfl⟩ (fun i s hi ⟨q1,q2⟩=>by
  obtain⟨o,v⟩:=s
  simp only at q1 q2
  subst q1;subst q2
  obtain⟨h3,h4⟩:=dR2 g h h0 i (by omega)
  obtain⟨d,e1,e2,e3,_⟩:=dl7 g h3 (by rw[h4];omega)
  simp only[ce5,M.run,U1.m,e1,e2,e3,ac0]
  rw[show((0:Int) !=0)=false from rfl,K4 _ _ (by simp only[cT5,List.length_map,List.length_range,List.length_singleton];omega)]
  refine⟨_,rfl,?_,rfl⟩
  simp only[cT5,List.range_succ,List.map_append,List.map_cons,List.map_nil])
 rw[e]
 show some (s.1,(0:Int))=_
 rw[h1]
theorem dq7 (a:List X4)(i:Nat)(hi:i<a.length)(h:a[i].ag5.length<=16):∃j:Int,M0 (fun k=>(aG6 a a (i:Int) k).run) 0=some (.inl j):=by
 obtain⟨b,e,j,rfl⟩:=aN0 (mb:=fun k=>(aG6 a a (i:Int) k).run) (fun k=>∃n:Nat,k=(n:Int)/\n<=a[i].ag5.length) (fun k=>a[i].ag5.length-k.toNat) (fun b:Int⊕Bool=>∃j,b= .inl j) (fun k ⟨n,hk,hn⟩=>by
  subst hk
  simp only[aG6,M.run,L1.m]
  rw[S0 a i,aJ9 hi]
  simp only[ac0]
  by_cases hlt:n<a[i].ag5.length
  ·left
   rw[fh6 (show((n:Nat):Int)<(a[i].ag5.length:Int) by omega),S0,aJ9 hlt]
   simp only[ac0,fh5,bne_self_eq_false,fh3]
   rw[k6 (by omega) (by omega)]
   exact⟨_,rfl,⟨n+1,by omega,by omega⟩,by omega⟩
  ·right
   rw[fh7 (show¬((n:Nat):Int)<(a[i].ag5.length:Int) by omega)]
   exact⟨_,rfl,_,rfl⟩) a[i].ag5.length 0 (by simp) ⟨0,rfl,by omega⟩
 exact⟨j,e⟩
theorem do7 (a:List X4)(h:a.length<=7/\∀x∈a,x.ag5.length<=16):(bg2 a a).m=some true:=by
 simp only[bg2,C.of,M.run,bne_self_eq_false,fh3]
 obtain⟨b,e,j,rfl⟩:=aN0 (mb:=fun k=>(aS1 a a k).run) (fun k=>∃n:Nat,k=(n:Int)/\n<=a.length) (fun k=>a.length-k.toNat) (fun b:Int⊕Bool=>∃j,b= .inl j) (fun k ⟨n,hk,hn⟩=>by
  subst hk
  simp only[aS1,M.run,L1.m]
  by_cases hlt:n<a.length
  ·left
   rw[fh6 (show((n:Nat):Int)<(a.length:Int) by omega),S0,aJ9 hlt]
   simp only[ac0,fh5,bne_self_eq_false,fh3]
   obtain⟨j,e⟩:=dq7 a n hlt (h.2 _ (bf2 hlt))
   rw[e]
   simp only[ac0]
   rw[k6 (by omega) (by omega)]
   exact⟨_,rfl,⟨n+1,by omega,by omega⟩,by omega⟩
  ·right
   rw[fh7 (show¬((n:Nat):Int)<(a.length:Int) by omega)]
   exact⟨_,rfl,_,rfl⟩) a.length 0 (by simp) ⟨0,rfl,by omega⟩
 rw[e]
 rfl
theorem cY8 (a:List o5)(h:a.length<=1000):(aQ0 a a).m=some true:=by
 simp only[aQ0,C.of,M.run,bne_self_eq_false,fh3]
 obtain⟨b,e,j,rfl⟩:=aN0 (mb:=fun k=>(aI3 a a k).run) (fun k=>∃n:Nat,k=(n:Int)/\n<=a.length) (fun k=>a.length-k.toNat) (fun b:Int⊕Bool=>∃j,b= .inl j) (fun k ⟨n,hk,hn⟩=>by
  subst hk
  simp only[aI3,M.run,L1.m]
  by_cases hlt:n<a.length
  ·left
   rw[fh6 (show((n:Nat):Int)<(a.length:Int) by omega),S0,aJ9 hlt]
   simp only[ac0,fh5,beq_self_eq_true,Bool.and_self,aK4,fh3]
   rw[k6 (by omega) (by omega)]
   exact⟨_,rfl,⟨n+1,by omega,by omega⟩,by omega⟩
  ·right
   rw[fh7 (show¬((n:Nat):Int)<(a.length:Int) by omega)]
   exact⟨_,rfl,_,rfl⟩) a.length 0 (by simp) ⟨0,rfl,by omega⟩
 rw[e]
 rfl
theorem cC5 {r:Y2}(h:ee6 r):(aG7 r r).m=some true:=by
 simp only[aG7,C.of,M.run,do7 r.Q8 h.act,cY8 r.bt4 h.sw,beq_self_eq_true,Bool.and_self,fh5,ac0]
theorem dV8 (l:List Y2)(hl:l.length<=1000000)(f:Cl Tryz.prog (Y2×Y2) Bool (fun x=>[aJ0 x.1,aJ0 x.2]) (fun r=>.t (tB r)))(h:∀x∈l,f.f (x,x)=some true):(aI4 l l f).m=some true:=by
 simp only[aI4,C.of,M.run,bne_self_eq_false,fh3]
 obtain⟨u,e,_⟩:=ah4 l.length (by omega) (fun i (u:Unit)=>(aA2 l l f i u).run) (fun _ _=>True) () trivial (fun i u hi _=>by
  simp only[aA2,M.run,L1.m,Cl.at]
  rw[S0,aJ9 hi]
  simp only[ac0,h _ (bf2 hi),aK4,fh3]
  exact⟨(),by first|rfl|trivial,trivial⟩)
 rw[e]
 rfl
theorem fc6:(bb4 w0).m=some true:=(bb4 w0).le 10 _ (by kernel_rfl)
theorem eH2:(bb3 w0).m=some 58:=(bb3 w0).le 10 _ (by kernel_rfl)
theorem eT3 (t:Int):(bg0 t).m=some (ag2 t):=rfl
theorem eT1 {s:Q5}(h:syB s=true):(bb5 w0 s).m=some true:=by
 simp only[bb5,C.of,M.run,fc6,eH2,eT3,ac0,aK4,fh3]
 unfold syB at h
 by_cases h0:s.Mode=0
 ·rw[if_pos h0]at h
  simp only[au2,beq_iff_eq]at h
  obtain⟨a1,a2,a3,a4,a5⟩:=h
  rw[h0,a1,a2,a3,a4,a5]
  rfl
 ·rw[if_neg h0]at h
  rw[bf h0]
  by_cases h1:s.Mode=1
  ·rw[if_pos h1]at h
   rw[h1]
   simp only[au2,beq_iff_eq]at h
   obtain⟨⟨a1,a2⟩,a3⟩:=h
   rw[a1,a2]
   by_cases h3:s.U2=0
   ·rw[if_pos h3]at a3
    simp only[au2,beq_iff_eq]at a3
    rw[a3.1,a3.2,h3]
    rfl
   ·rw[if_neg h3]at a3
    simp only[au2,beq_iff_eq,cx1,fh8]at a3
    obtain⟨⟨⟨b1,b2⟩,b3⟩,b4⟩:=a3
    rw[bf (show¬s.A0=0 by omega),fh6 b2,fh6 b3,b4,show((s.U2==1)||(s.U2==2))=true by simpa using b1]
    simp
  ·rw[if_neg h1]at h
   rw[bf h1]
   by_cases h2:s.Mode=2
   ·rw[if_pos h2]at h
    rw[h2]
    simp only[au2,beq_iff_eq,fh8]at h
    obtain⟨⟨⟨⟨⟨⟨⟨a1,a2⟩,a3⟩,a4⟩,a5⟩,a6⟩,a7⟩,a8⟩:=h
    rw[a3,fh6 a1,fh6 a2,fh6 a4,fh6 a5,fh6 a6,fh6 a7,a8]
    rfl
   ·rw[if_neg h2]at h
    cases h
theorem aw:(aN1).m=some true:=(aN1).le 1000 _ (by kernel_rfl)
theorem dT8 (l:List (List Int))(hl:l.length<=1000000)(f:Cl Tryz.prog (List Int) Bool (fun x=>[.t (tS Pv.encI x)]) (fun r=>.t (tB r)))(p:List Int->Bool)(h:∀x∈l,f.f x=some (p x)):(H2 l f).m=some (l.any p):=by
 simp only[H2,Y7,ac3,C.of,M.run,L1.m,Cl.at]
 refine Eq.trans ?_ (bJ8 l (by omega) f.f p h)
 kernel_rfl
theorem eB4 (t:p6):∃b,(bj4 t).m=some b:=by
 simp only[bj4,C.of,M.run]
 rcases bL1 [t.Air,t.D9,t.j9,t.R6] (by simp) (fun i x (u:Unit)=>(aW5 i x u).run) (fun _ _=>True) (fun _=>True) () trivial (fun k x u hx _=>by
  simp only[aW5,M.run]
  cases hc:(((decide ((x.X.length:Int)>40))||(decide ((x.Y.length:Int)>40)))||(decide ((x.Z.length:Int)>40)))
  ·simp only[bG8,fh9]at hc
   simp only[fh3]
   rw[dT8 x.Z (by omega) (.of (fun z_=>bv7 z_) 23 []) _ (fun y _=>rfl)]
   simp only[ac0]
   generalize(x.Z.any _)=c
   cases c
   ·exact .inl ⟨_,rfl,trivial⟩
   ·exact .inr ⟨_,rfl,trivial⟩
  ·exact .inr ⟨_,rfl,trivial⟩)with⟨u,e,_⟩|⟨r,e,_⟩
 ·rw[e]
  simp only[ac0]
  rcases bL1 [t.C6,t.L2,t.V6,t.u6] (by simp) (fun i x (u:Unit)=>(aW6 i x u).run) (fun _ _=>True) (fun _=>True) () trivial (fun k x u hx _=>by
   simp only[aW6,M.run]
   cases hc:((decide ((x.X.length:Int)>40))||(decide ((x.Y.length:Int)>40)))
   ·exact .inl ⟨_,rfl,trivial⟩
   ·exact .inr ⟨_,rfl,trivial⟩)with⟨u,e,_⟩|⟨r,e,_⟩
  ·rw[e];exact⟨_,rfl⟩
  ·rw[e];exact⟨_,rfl⟩
 ·rw[e];exact⟨_,rfl⟩
theorem dX6 (t:p6)(b:J4)(e:o7)(l:List L3)(k:List ab5)(n:Int)(hn:0<=n/\n<=255):(aE5 t b e l k n).m=some true:=by
 obtain⟨f,ef⟩:=eB4 t
 simp only[aE5,C.of,M.run,aw,ef,ac0,aK4,fh3]
 cases hb:(((!f||decide ((e.z7.length:Int)>20))||decide ((l.length:Int)>210))||decide ((k.length:Int)>100))
 ·simp only[bG8,fh9]at hb
  simp only[fh3]
  obtain⟨v3,e3,h3⟩:=dy4 k (by omega)
  rw[e3]
  simp only[ac0]
  cases v3
  ·rfl
  obtain⟨hk,hb3⟩:=h3 rfl
  simp only[aK4,fh3]
  obtain⟨v4,e4,h4⟩:=dF3 l (by omega)
  rw[e4]
  simp only[ac0]
  cases v4
  ·rfl
  have hdr:=h4 rfl
  simp only[aK4,fh3,dr2,ac0]
  obtain⟨u,x,e5,h5,h6⟩:=eD8 t b e
  rw[e5]
  simp only[ac0]
  by_cases hx:x=0
  ·subst hx
   obtain⟨hc,hu,hu0⟩:=h6 rfl
   have g:dL6 l k:=⟨hc,e4,hdr,hk,hb3⟩
   rw[show((0:Int) !=0)=false from rfl]
   simp only[fh3]
   obtain⟨m,hm,hm20⟩:∃m:Nat,Int.tmod (o6 n) 21=(m:Int)/\m<=20:=by
    rw[k6 (by omega) (by omega),do3 hn.1]
    exact⟨(n%21).toNat,by omega,by omega⟩
   rw[hm,eG0 g hu hu0 m (by omega)]
   simp only[ac0]
   have hlen:(cT5 l k u m).length=m:=by simp[cT5]
   have hrec:∀i,i<m->(cT5 l k u m)[i]? =some (nxU l k (sq l k u i)).2.1:=fun i hi=>by
    unfold cT5
    rw[List.getElem?_map,List.getElem?_range hi]
    rfl
   have hrc:∀i,i<m->ee6 (nxU l k (sq l k u i)).2.1:=fun i hi=>by
    obtain⟨h7,h8⟩:=dR2 g hu hu0 i (by omega)
    obtain⟨_,_,_,_,_,_,h9⟩:=dl7 g h7 (by rw[h8];omega)
    exact h9
   rw[hlen,show(((0:Int) !=0)||((0:Int) !=0)||((m:Int) !=(m:Int)))=false by simp]
   simp only[fh3]
   rw[dV8 (cT5 l k u m) (by omega) (.of (fun z_=>aG7 z_.1 z_.2) 12 []) (fun r hr=>by
    unfold cT5 at hr
    rw[List.mem_map]at hr
    obtain⟨i,hi,rfl⟩:=hr
    exact cC5 (hrc i (List.mem_range.1 hi)))]
   simp only[ac0,aK4,fh3]
   obtain⟨s,e9,_⟩:=ah4 m (by omega) (fun i (v:Y9)=>(aI2 l k (cT5 l k u m,0) i v).run) (fun i v=>v=sq l k u i) u rfl (fun i v hi hv=>by
    subst hv
    obtain⟨h7,h8⟩:=dR2 g hu hu0 i (by omega)
    obtain⟨d,q1,q2,q3,q4,q5,q6⟩:=dl7 g h7 (by rw[h8];omega)
    simp only[aI2,M.run,L1.m,q1,q2,q3,ac0]
    rw[show((0:Int) !=0)=false from rfl,S0,hrec i hi]
    simp only[fh3,ac0,cC5 q6,eu9 q4.sch q4.few,(em0 hc q4.flt).1,show(bv8).m=some w0 from rfl,eT1 q4.sy.1,aK4]
    exact⟨_,rfl,rfl⟩)
   rw[e9]
   rfl
  ·rcases h5 with h5|h5
   ·exact absurd h5 hx
   ·subst h5
    rfl
 ·rfl
end Go.Proofs.YtfplhihoadkhlaaGreat.Ec
namespace Go.Proofs.YtfplhihoadkhlaaGreat
open Go Go.Pv Go.Proofs
theorem cS5 (x0:p6)(x1:J4)(x2:o7)(x3:List L3)(x4:List ab5)(x5:Int)(_:ch9 x0)(_:cV9 x1)(_:ch8 x2)(_:(wfL bY2) x3)(_:(wfL bY1) x4)(g5:(fun n=>(Lit.int .u8 n).wf=true) x5):(aE5 x0 x1 x2 x3 x4 x5).m=some true:=by
 have h:0<=x5/\x5<=255:=by
  have m0:IntKind.u8.min=0:=by decide
  have m1:IntKind.u8.max=255:=by decide
  simp[Lit.wf,m0,m1]at g5
  omega
 exact Ec.dX6 x0 x1 x2 x3 x4 x5 h
end Go.Proofs.YtfplhihoadkhlaaGreat
namespace Go.Proofs.YtfplhihoadkhlaaGreat.ecuJoins
open Go Go.Pv Go.Proofs Go.ChangeShapes Go.WideShapes Go.ChangeAt Go.RowKit Go.Proofs.YtfplhihoadkhlaaGreat
theorem own:ownKnob Tryz.prog.godebug=none:=by kernel_rfl
theorem laidOut:laidOutB Tryz.prog=true:=by kernel_rfl
set_option maxRecDepth 100000 in
theorem lifted (os:Os)(started:os.Started)(H:Type)(enc:TypeId×Value->H):
    ReturnsInHanded {} Tryz.checked os 3 .any (Rows.ecuJoinsSpec.pre6 enc Tryz.prog Tryz.f3 Rows.ecuJoinsRow.domain false) (Rows.ecuJoinsSpec.post enc Tryz.prog Tryz.f3 false true false false):=by
  refine returnsInHanded_of_change (C:=Tryz.checked) own started (by kernel_rfl) Tryz.func3
    (ChangeSpec.witness6 (enc:=enc) (C:=Tryz.checked) false ⟨#[], #[.agg #[.slice none 0 0, .slice none 0 0, .slice none 0 0, .slice none 0 0, .slice none 0 0, .slice none 0 0, .slice none 0 0, .slice none 0 0, .slice none 0 0, .slice none 0 0, .slice none 0 0, .slice none 0 0, .slice none 0 0, .slice none 0 0, .slice none 0 0, .slice none 0 0, .slice none 0 0, .slice none 0 0, .slice none 0 0, .slice none 0 0, .int .i64 0, .int .i64 0, .int .i64 0, .int .i64 0], .agg #[.int .i64 0, .int .i64 0, .int .i64 0, .int .i64 0, .int .i64 0, .int .i64 0, .int .i64 0], .agg #[.slice none 0 0, .int .i64 0], .slice none 0 0, .slice none 0 0, .int .u8 0],[]⟩ 16 (by kernel_rfl) (by kernel_rfl) (by kernel_rfl) (by kernel_rfl)) ?_
  intro W base args ds gs before hval0 hW hcnd _
  have dG4:∀(j:Nat) t v,Tryz.f3.params[j]? =some t->args[j]? =some v->Value.okWide Tryz.prog W .any base t v:=hval0
  have hW':=hW
  obtain⟨p,q,hA0,hV,rfl,hfz,hnd⟩:=hW
  have hA:DataW.TrodAll enc Tryz.prog W 0 (fun _=>true) true Tryz.f3.params.toList args.toList ds p:=hA0
  rw[Tryz.params3]at hA dG4
  obtain⟨v0,vs0,d0,ds0,p0,q0,dc7,rfl,rfl,h0,r0⟩:=trodAll_cons hA
  obtain⟨v1,vs1,d1,ds1,p1,q1,rfl,rfl,rfl,h1,r1⟩:=trodAll_cons r0
  obtain⟨v2,vs2,d2,ds2,p2,q2,rfl,rfl,rfl,h2,r2⟩:=trodAll_cons r1
  obtain⟨v3,vs3,d3,ds3,p3,q3,rfl,rfl,rfl,h3,r3⟩:=trodAll_cons r2
  obtain⟨v4,vs4,d4,ds4,p4,q4,rfl,rfl,rfl,h4,r4⟩:=trodAll_cons r3
  obtain⟨v5,vs5,d5,ds5,p5,q5,rfl,rfl,rfl,h5,r5⟩:=trodAll_cons r4
  obtain⟨rfl,rfl,rfl⟩:=trodAll_nil r5
  obtain rfl:args= #[v0,v1,v2,v3,v4,v5]:=by cases args;simp_all
  obtain⟨rfl,rfl⟩:=trodVars_none hV
  have k0:=h0
  have lt0:∀x∈p0,x.block<W.heap.size:=by obtain⟨m,hm⟩:=k0;exact DataW.trod_lt m _ _ _ hm
  obtain⟨x0,g0,a0⟩:=eL6 _ _ W _ _ _ _ (dG4 0 31 v0 rfl rfl) h0
  have k1:=h1
  have lt1:∀x∈p1,x.block<W.heap.size:=by obtain⟨m,hm⟩:=k1;exact DataW.trod_lt m _ _ _ hm
  obtain⟨x1,g1,a1⟩:=eL7 _ _ W _ _ _ _ (dG4 1 33 v1 rfl rfl) h1
  have k2:=h2
  have lt2:∀x∈p2,x.block<W.heap.size:=by obtain⟨m,hm⟩:=k2;exact DataW.trod_lt m _ _ _ hm
  obtain⟨x2,g2,a2⟩:=eL8 _ _ W _ _ _ _ (dG4 2 35 v2 rfl rfl) h2
  have k3:=h3
  have lt3:∀x∈p3,x.block<W.heap.size:=by obtain⟨m,hm⟩:=k3;exact DataW.trod_lt m _ _ _ hm
  obtain⟨x3,g3,a3⟩:=eL9 _ _ W _ _ _ _ (dG4 3 36 v3 rfl rfl) h3
  have k4:=h4
  have lt4:∀x∈p4,x.block<W.heap.size:=by obtain⟨m,hm⟩:=k4;exact DataW.trod_lt m _ _ _ hm
  obtain⟨x4,g4,a4⟩:=eM0 _ _ W _ _ _ _ (dG4 4 37 v4 rfl rfl) h4
  have k5:=h5
  have lt5:∀x∈p5,x.block<W.heap.size:=by obtain⟨m,hm⟩:=k5;exact DataW.trod_lt m _ _ _ hm
  obtain⟨x5,g5,a5⟩:=eW2 _ _ W _ _ _ _ (dG4 5 5 v5 rfl rfl) h5
  clear hA0 hval0
  refine(aR1.calls ((aE5 x0 x1 x2 x3 x4 x5).ok) (cS5 x0 x1 x2 x3 x4 x5 g0 g1 g2 g3 g4 g5) (bF8 (a0 _) (bF8 (a1 _) (bF8 (a2 _) (bF8 (a3 _) (bF8 (a4 _) (bF8 (a5 _) eG1))))))).mono fun e W' ⟨he,bel⟩=>?_
  subst he
  exact⟨_,rfl,_,_,_,[],_,[],hW',trodAll_mk1 (shut_bool Tryz.underlying4 _),(trodAll_cons_mk (Below.trod laidOut (by kernel_rfl) (of_decide_eq_true (by kernel_rfl)) k0 bel lt0) (trodAll_cons_mk (Below.trod laidOut (by kernel_rfl) (of_decide_eq_true (by kernel_rfl)) k1 bel lt1) (trodAll_cons_mk (Below.trod laidOut (by kernel_rfl) (of_decide_eq_true (by kernel_rfl)) k2 bel lt2) (trodAll_cons_mk (Below.trod laidOut (by kernel_rfl) (of_decide_eq_true (by kernel_rfl)) k3 bel lt3) (trodAll_cons_mk (Below.trod laidOut (by kernel_rfl) (of_decide_eq_true (by kernel_rfl)) k4 bel lt4) (trodAll_cons_mk (Below.trod laidOut (by kernel_rfl) (of_decide_eq_true (by kernel_rfl)) k5 bel lt5) trodAll_mk0)))))),rfl,bel.frame _,fun h=>by cases h⟩
end Go.Proofs.YtfplhihoadkhlaaGreat.ecuJoins
namespace Go.Proofs.YtfplhihoadkhlaaGreat
theorem ecuJoins.inPlace:Tryz.prog.inPlace 3=Rows.ecuJoinsRow.inPlace:=by kernel_rfl
theorem ecuJoins.unfollowed:Tryz.prog.unfollowed 3=Rows.ecuJoinsRow.unfollowed:=by kernel_rfl
theorem ecuJoins.recurses:Tryz.prog.recurses 3=Rows.ecuJoinsRow.recurses:=by kernel_rfl
theorem ecuJoins.named:Tryz.prog.varsNamed 3=Rows.ecuJoinsRow.named:=by kernel_rfl
theorem ecuJoins.eP4:joinedFacts Tryz.prog 3 Tryz.f3 Rows.ecuJoinsSpec Rows.ecuJoinsRow=true:=by
  unfold joinedFacts
  rw[ecuJoins.inPlace,ecuJoins.unfollowed,ecuJoins.recurses,ecuJoins.named,ecuJoins.laidOut]
  kernel_rfl
theorem ecuJoins_holds:Rows.EcuJoinsSaid:=
  OpenClaim.holds_of_wide 3 Tryz.f3 rfl rfl rfl rfl rfl rfl rfl ⟨rfl,rfl,rfl,rfl,rfl⟩ rfl rfl rfl rfl rfl (by kernel_rfl) Tryz.func3 ecuJoins.eP4
    (of_decide_eq_true (by kernel_rfl)) (by unfold Func.isWrapper;first|(rw[if_pos (by decide+kernel)];kernel_rfl)|(rw[if_neg (by decide+kernel)];exact⟨rfl,rfl⟩))
    (fun os started H enc _=>ecuJoins.lifted os started H enc)
#print axioms ecuJoins_holds
end Go.Proofs.YtfplhihoadkhlaaGreat

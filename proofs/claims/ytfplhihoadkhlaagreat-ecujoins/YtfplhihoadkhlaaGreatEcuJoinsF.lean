/- A part of the proof of EcuJoins: The arbiter's functions, and more. -/
import Derived.Test.YtfplhihoadkhlaaGreatEcuJoinsE
import Derived.KernelRfl
set_option linter.unusedSimpArgs false
set_option linter.unusedVariables false
set_option maxRecDepth 100000
noncomputable section
open Bool renaming and_eq_false_iff->eZ6,and_eq_true->au2,cond_false_left->ff2,cond_false_right->fb9,cond_true_left->fd4,eq_iff_iff->dJ4,false_and->ez8,false_eq_true->do8,false_or->ed1,not_eq_false'->ee1,not_eq_true'->bZ6,not_false->cI8,not_not->eK8,not_true->aK4,or_eq_false_iff->bG8,or_eq_true->cx1,or_self->eU3,true_and->cJ4
open Int renaming ediv_le_self->eM3,ediv_nonneg->eM7,le_refl->dF5,le_trans->ff5,lt_or_le->fe5,mul_le_mul->eP1,mul_le_mul_of_nonneg_left->ed9,mul_nonneg->eP2,tdiv->da8,tdiv_eq_ediv_of_nonneg->cW1,tmod->ef7,tmod_eq_emod_of_nonneg->do3,toNat_natCast->eI8
open List renaming all_eq_true->by6,any_eq_false->dB8,any_eq_not_all_not->dZ2,append_assoc->dq9,append_nil->dn6,cons_append->dK4,drop_drop->ep0,eq_of_mem_replicate->eW3,filter_append->dR0,filter_congr->fg3,filter_cons->ew7,filter_cons_of_neg->eY1,filter_cons_of_pos->eb4,filter_eq_nil_iff->eB1,filter_eq_self->fd5,filter_filter->fg0,filter_map->ff6,filter_nil->eK3,findIdx?_cons->fg1,flatMap_cons->eJ6,flatMap_nil->fg6,foldl_cons->eE8,getElem?_eq_getElem->aJ9,getElem?_eq_some_iff->bD8,getElem?_map->cM9,getElem?_set_ne->fc8,getElem_mem->bf2,getElem_replicate->eZ2,getElem_set->eX2,getElem_set_self->ex9,head?_drop->ey0,length_append->aX7,length_cons->bu6,length_drop->do0,length_map->cW3,length_nil->cY9,length_replicate->eH5,length_set->ee7,length_singleton->cH0,length_take->bs8,map_append->eK7,map_cons->cX5,map_nil->ep3,mem_append->do2,mem_cons->cr6,mem_cons_of_mem->bO9,mem_cons_self->bL5,mem_filter->dO7,mem_flatMap->fg9,mem_iff_getElem->da7,mem_map->cZ1,mem_of_getElem?->dv3,mem_of_mem_drop->eV0,mem_of_mem_take->ey2,mem_or_eq_of_mem_set->fd7,mem_range->ed7,mem_range'->eN1,mem_singleton->eM4,nil_append->cY1,not_mem_nil->eP5,range->dy2,range'->ed5,replicate->cD1,set_set->ey6,take_length->eI1,take_succ_eq_append_getElem->dC0
open Nat renaming add_assoc->dM6,le_refl->cB6,lt_or_ge->dh0,zero_add->cY7
open Option renaming bind->ab6,bind_some->ac0,getD_some->ey3,map_some->cb0
open Option.some renaming inj->cJ3,injEq->aj7
namespace Go.Pv.Ar
open Go Go.Pv
theorem da2 {α:Type}(c:Bool)(x y:α):(bif c then some x else some y)=some (bif c then x else y):=by cases c<;>rfl
def cp2 (r:j6):Prop:=(0<=r.I7/\r.I7<=15)/\(0<=r.G5/\r.G5<=15)/\(-5000<=r.j9/\r.j9<=10000)/\(r.Kind=1\/(r.I7<=1/\(r.Kind=2\/r.Kind=3)))
instance (r:j6):Decidable (cp2 r):=by unfold cp2;infer_instance
theorem ap4 (r:j6):V1 r=some (decide (cp2 r)):=by
 unfold V1 R8
 simp only[ac0,da2]
 rw[aj7,dJ4,fh8]
 unfold cp2
 simp only[fd4,ff2,fb9,cx1,au2,bZ6,bG8,ee1,fh8,fh9,beq_iff_eq,ge_iff_le]
 omega
def bc0 (t:Int):Bool:=decide (t>= -5000)&&decide (t<=10000)
def eb1 (low high:Int):Bool:=(!bc0 low|| !bc0 high)||decide (low>high)
def dU4 (l:List j6):Bool:=l.any fun r=>!decide (cp2 r)
def chk (l:List j6)(low high:Int):Int:=bif dU4 l then 1 else bif decide ((l.length:Int)>32)then 5 else bif eb1 low high then 2 else 0
theorem eH1 (low high:Int):(ab6 (some (bc0 low)) fun v2=>ab6 (bif (!v2)then(some true)else(ab6 (some (bc0 high)) fun v3=>some (!v3))) fun b2=>bif (b2||(decide (low>high)))then(some (2:Int))else(some 0))=some (bif eb1 low high then 2 else 0):=by
 unfold eb1
 cases bc0 low<;>cases bc0 high<;>cases decide (low>high)<;>rfl
theorem em2 (l:List j6)(low high:Int)(hl:l.length<=1000):aw1 l low high=some (chk l low high):=by
 unfold aw1 chk
 have k:=aj2 l (by omega) ai3 (fun r=>!decide (cp2 r)) (fun y _=>by unfold ai3;rw[ap4];rfl)
 have k':F5 l ai3=some (dU4 l):=k
 rw[k']
 simp only[ac0]
 cases dU4 l
 ·simp only[fh3]
  cases decide ((l.length:Int)>32)
  ·simp only[fh3]
   exact eH1 low high
  ·rfl
 ·rfl
structure cW2 (l:List j6)(low high:Int):Prop where
 req:∀r∈l,cp2 r
 len:l.length<=32
 lo:-5000<=low
 hi:high<=10000
 ord:low<=high
theorem ei6 {l:List j6}{low high:Int}:chk l low high=0↔cW2 l low high:=by
 have hb:dU4 l=false↔∀r∈l,cp2 r:=by
  unfold dU4
  rw[dB8]
  constructor
  ·intro h r hr;simpa using h r hr
  ·intro h r hr;simpa using h r hr
 have hr:eb1 low high=false↔(-5000<=low/\low<=10000/\ -5000<=high/\high<=10000/\low<=high):=by
  unfold eb1 bc0
  simp only[bG8,ee1,au2,fh8,fh9]
  omega
 unfold chk
 constructor
 ·intro h
  cases h1:dU4 l<;>rw[h1]at h
  ·cases h2:decide ((l.length:Int)>32)<;>rw[h2]at h
   ·cases h3:eb1 low high<;>rw[h3]at h
    ·have h4:=hr.1 h3
     have h5:¬((l.length:Int)>32):=of_decide_eq_false h2
     exact⟨hb.1 h1,by omega,by omega,by omega,by omega⟩
    ·cases h
   ·cases h
  ·cases h
 ·intro h
  rw[hb.2 h.req,hr.2 (by have:=h.lo;have:=h.hi;have:=h.ord;omega),fh7 (show¬((l.length:Int)>32) by have:=h.len;omega)]
  rfl
def ins (s:z6)(r:j6):Int:=K2 s.low (J1 s.high r.j9)
def nlo (s:z6)(r:j6):Int:=if r.Kind=1 then s.low else ins s r
def nhi (s:z6)(r:j6):Int:=if r.Kind=2 then s.high else ins s r
def stp (s:z6)(r:j6):z6:=⟨nlo s r,nhi s r,if nlo s r=s.low then s.source else r.I7⟩
def chg (s:z6)(r:j6):Bool:=!(decide (nlo s r=s.low)&&decide (nhi s r=s.high))
theorem dX2 {s:z6}{r:j6}(h:s.low<=s.high):s.low<=ins s r/\ins s r<=s.high:=by
 unfold ins K2 J1;split<;>split<;>omega
theorem df8 {s:z6}{r:j6}(h:s.low<=s.high):s.low<=(stp s r).low/\(stp s r).low<=(stp s r).high/\(stp s r).high<=s.high:=by
 have:=dX2 (r:=r) h
 unfold stp nlo nhi
 simp only
 split<;>split<;>omega
theorem cR4 (s:z6)(r:j6)(lo hi:Int):(ab6 (bif (lo !=s.low)then(some r.I7)else(some s.source)) fun(f3:Int)=>bif (lo !=s.low)then(some (true,(⟨lo,hi,f3⟩:z6)))else(some ((hi !=s.high),(⟨lo,hi,f3⟩:z6))))=some (!(decide (lo=s.low)&&decide (hi=s.high)),⟨lo,hi,if lo=s.low then s.source else r.I7⟩):=by
 by_cases h1:lo=s.low
 ·rw[show(lo !=s.low)=false by simpa using h1,fh6 h1,if_pos h1];rfl
 ·rw[show(lo !=s.low)=true by simpa using h1,fh7 h1,if_neg h1];rfl
theorem dZ3 (s:z6)(r:j6)(h:s.low<=s.high)(hk:r.Kind=1\/r.Kind=2\/r.Kind=3):Z7 s r=some (chg s r,stp s r):=by
 have e1:K2 s.low (J1 s.high r.j9)=ins s r:=rfl
 have e2:J1 s.high (K2 s.low r.j9)=ins s r:=by
  unfold ins K2 J1;repeat' split
  all_goals omega
 have e3:J1 (K2 r.j9 s.low) s.high=ins s r:=by
  unfold ins K2 J1;repeat' split
  all_goals omega
 unfold Z7 af2 ab7 ab8 D7
 simp only[ac0]
 rw[e1,e2,e3]
 unfold stp chg nlo nhi
 rcases hk with hk|hk|hk
 ·rw[hk]
  exact cR4 s r s.low (ins s r)
 ·rw[hk]
  exact cR4 s r (ins s r) s.high
 ·rw[hk]
  exact cR4 s r (ins s r) (ins s r)
def lev (l:List j6)(j:Nat):List j6:=l.filter fun r=>r.G5==15-(j:Int)
def dw4 (l:List j6)(k:Nat):List j6:=(dy2 k).flatMap (lev l)
abbrev cR9 (l:List j6):List j6:=dw4 l 16
theorem de5 (l:List j6)(k:Nat):dw4 l (k+1)=dw4 l k++lev l k:=by
 unfold dw4;rw[List.range_succ,List.flatMap_append,List.flatMap_singleton]
def DR (r:j6):Prop:=0<=r.G5/\r.G5<=15
theorem bK1 {x y:j6}(hx:DR x)(hy:DR y):ltM Q1 x y=decide (y.G5<x.G5):=by
 unfold DR at hx hy
 unfold ltM Q1
 rw[ey3,k6 (by omega) (by omega),decide_eq_decide]
 omega
theorem dK2:SW DR Q1 where
 ans:=fun x y _ _=>⟨_,rfl⟩
 asym:=fun x y hx hy=>by rw[bK1 hx hy,bK1 hy hx,fh8,fh9];omega
 ntrans:=fun x y z hx hy hz=>by rw[bK1 hx hy,bK1 hy hz,bK1 hx hz];simp only[fh9];omega
theorem eB0 {x y:j6}(hx:DR x)(hy:DR y):eqv Q1 x y=(y.G5==x.G5):=by
 unfold eqv
 rw[bK1 hx hy,bK1 hy hx,dJ4]
 simp only[au2,bZ6,fh9,beq_iff_eq]
 omega
theorem dv5 {l:List j6}{k:Nat}{r:j6}:r∈dw4 l k↔r∈l/\∃j,j<k/\r.G5=15-(j:Int):=by
 unfold dw4 lev
 rw[fg9]
 constructor
 ·rintro⟨j,hj,h⟩
  rw[dO7]at h
  exact⟨h.1,j,ed7.1 hj,by simpa using h.2⟩
 ·rintro⟨h,j,hj,hp⟩
  exact⟨j,ed7.2 hj,dO7.2 ⟨h,by simpa using hp⟩⟩
theorem cn6 {l:List j6}(h:bN3 DR l){r:j6}:r∈cR9 l↔r∈l:=by
 rw[dv5]
 constructor
 ·exact fun h=>h.1
 ·intro hr
  have:=h r hr
  unfold DR at this
  exact⟨hr,(15-r.G5).toNat,by omega,by omega⟩
theorem dw5 {l:List j6}(h:bN3 DR l):∀k,Srt Q1 (dw4 l k)
 |0=>.nil
 |k+1=>by
  rw[de5]
  refine Srt.app (dw5 h k) ?_ fun a ha b hb=>?_
  ·unfold lev
   rw[Srt,List.pairwise_iff_getElem]
   intro i j hi hj _
   have m1:=dO7.1 (bf2 hi)
   have m2:=dO7.1 (bf2 hj)
   have p1:=m1.2
   simp only[beq_iff_eq]at p1
   have p2:=m2.2
   simp only[beq_iff_eq]at p2
   rw[bK1 (h _ m2.1) (h _ m1.1),fh9]
   omega
  ·obtain⟨ha1,j,hj,hp⟩:=dv5.1 ha
   have m2:=dO7.1 hb
   have p2:=m2.2
   simp only[beq_iff_eq]at p2
   rw[bK1 (h _ m2.1) (h _ ha1),fh9]
   omega
theorem cC1 (l:List j6)(p:Int):∀k,(dw4 l k).filter (fun r=>r.G5==p)=if 15-(k:Int)<p/\p<=15 then l.filter (fun r=>r.G5==p)else []
 |0=>by
  rw[if_neg (by omega)]
  rfl
 |k+1=>by
  rw[de5,dR0,cC1 l p k]
  unfold lev
  rw[fg0]
  by_cases hp:p=15-(k:Int)
  ·rw[if_neg (by omega),if_pos (by omega),cY1]
   congr 1
   funext r
   rw[<-hp]
   cases r.G5==p<;>rfl
  ·have:(l.filter fun a=>(a.G5==p)&&(a.G5==15-(k:Int)))=[]:=by
    rw[eB1]
    intro r _ h
    simp only[au2,beq_iff_eq]at h
    omega
   rw[this,dn6]
   by_cases h2:15-(k:Int)<p/\p<=15
   ·rw[if_pos h2,if_pos (by omega)]
   ·rw[if_neg h2,if_neg (by omega)]
theorem cU5 {l r:List j6}(h:bN3 DR l)(hs:Srt Q1 r)(ht:Sta DR Q1 l r):r=cR9 l:=by
 refine dz7 dK2 (ht.all h) (fun x hx=>h x ((cn6 h).1 hx)) hs (dw5 h 16) fun x hx=>?_
 rw[ht.same x hx]
 have e:∀m:List j6,bN3 DR m->m.filter (eqv Q1 x)=m.filter (fun r=>r.G5==x.G5):=fun m hm=>fg3 fun y hy=>eB0 hx (hm y hy)
 rw[e l h,e (cR9 l) (fun y hy=>h y ((cn6 h).1 hy)),cC1]
 unfold DR at hx
 rw[if_pos (by omega)]
theorem em9:G7=aj0:=by kernel_rfl
theorem eG7 (l:List j6)(hl:l.length<=19)(g:j6->j6->Option Int):L6 l g=aU6 l g:=by
 unfold L6 aU6 P1 bp6
 have h1:decide ((20:Int)<=(l.length:Int))=false:=by simp;omega
 have h2:decide ((20:Int)<(l.length:Int))=false:=by simp;omega
 rw[F7 (b:=.inl (0,20,l)) (by unfold U3;rw[h1];rfl),F7 (b:=.inl (0,20,l)) (by unfold bb0;rw[h1];rfl),em9]
 simp only[ac0]
 cases hx:aj0 l 0 (l.length:Int) g with
 |none=>rfl
 |some v=>
  simp only[ac0]
  rw[F7 (b:=.inl (20,v)) (by unfold U4;rw[h2];rfl),F7 (b:=.inl (20,v)) (by unfold bb1;rw[h2];rfl)]
  simp only[ac0]
def dec (s:z6):List j6->List Int
 |[]=>[]
 |r::l=>(bif chg s r then [r.I7]else [])++dec (stp s r) l
theorem dN3 (s:z6):∀l:List j6,(dec s l).length<=l.length
 |[]=>cB6 _
 |r::l=>by
  have:=dN3 (stp s r) l
  unfold dec
  cases chg s r
  ·simp only[fh3,cY1,bu6];omega
  ·simp only[fh5,aX7,bu6,cY9];omega
theorem eI7:∀(q:List j6) (i:Int) (acc:List Int) (s:z6),s.low<=s.high->(∀r∈q,r.Kind=1\/r.Kind=2\/r.Kind=3)->acc.length+q.length<=10000->
  N3 ak2 q i (acc,s)=some (.inl (acc++dec s q,q.foldl stp s))
 |[],i,acc,s,_,_,_=>by simp[N3,dec]
 |r::q,i,acc,s,hs,hk,hl=>by
  simp only[bu6]at hl
  have hr:=df8 (r:=r) hs
  have hb:ak2 i r (acc,s)=some (.next (acc++(bif chg s r then [r.I7]else []),stp s r)):=by
   unfold ak2
   simp only
   rw[dZ3 s r hs (hk r (by simp))]
   simp only[ac0]
   cases chg s r
   ·simp
   ·simp only[fh5]
    rw[K4 _ _ (by simp only[cH0];omega)]
    rfl
  simp only[N3,hb,ac0]
  rw[eI7 q (i+1) _ (stp s r) (by omega) (fun x hx=>hk x (by simp[hx])) (by rw[aX7];cases chg s r<;>simp<;>omega)]
  simp only[dec,eE8,dq9]
def s0 (low high:Int):z6:=⟨low,high,-1⟩
def fin (l:List j6)(low high:Int):z6:=(cR9 l).foldl stp (s0 low high)
def fg8 (l:List j6)(low high:Int):List Int:=bD9 ((dec (s0 low high) (cR9 l)).mergeSort fun x y=>decide (x<=y))
theorem cW2.dr {l:List j6}{low high:Int}(h:cW2 l low high):bN3 DR l:=fun r hr=>by
 have:=h.req r hr
 unfold cp2 at this
 unfold DR;omega
theorem cW2.kinds {l:List j6}{low high:Int}(h:cW2 l low high):∀r∈l,r.Kind=1\/r.Kind=2\/r.Kind=3:=fun r hr=>by
 have:=h.req r hr
 unfold cp2 at this
 omega
theorem eq0 {l:List j6}{low high:Int}(h:cW2 l low high)(h19:l.length<=19):(cR9 l).length=l.length:=by
 obtain⟨r,h1,h2,h3⟩:=bX5 dK2 l h.dr h19
 rw[<-cU5 h.dr h2 h3,h3.len]
theorem dV4 {l:List j6}{low high:Int}(h:cW2 l low high)(h19:l.length<=19):aq8 l low high=some (fin l low high,fg8 l low high):=by
 unfold aq8 Z6
 have hl:=h.len
 rw[K4 _ _ (by simp only[cY9];omega)]
 simp only[ac0,cY1]
 rw[eG7 _ h19]
 obtain⟨r,h1,h2,h3⟩:=bX5 dK2 l h.dr h19
 rw[h1,cU5 h.dr h2 h3]
 simp only[ac0]
 have hlen:=eq0 h h19
 rw[M4 _ (by omega),eI7 (cR9 l) 0 [] ⟨low,high,-1⟩ h.ord (fun x hx=>h.kinds x ((cn6 h.dr).1 hx)) (by simp only[cY9];omega)]
 simp only[ac0,cY1]
 unfold aC3 at4
 have hd:=dN3 (s0 low high) (cR9 l)
 rw[cy3 (show(dec (⟨low,high,-1⟩:z6) (cR9 l)).length<4611686018427387904 by unfold s0 at hd;omega)]
 simp only[ac0]
 rw[cA0 (by rw[List.length_mergeSort];unfold s0 at hd;omega)]
 rfl
theorem cP7:∀(q:List j6) (s:z6),s.low<=s.high->s.low<=(q.foldl stp s).low/\(q.foldl stp s).low<=(q.foldl stp s).high/\(q.foldl stp s).high<=s.high
 |[],s,h=>⟨dF5 _,h,dF5 _⟩
 |r::q,s,h=>by
  have h1:=df8 (r:=r) h
  have h2:=cP7 q (stp s r) (by omega)
  rw[eE8]
  omega
theorem dc2 {l:List j6}{low high:Int}(h:low<=high):low<=(fin l low high).low/\(fin l low high).low<=(fin l low high).high/\(fin l low high).high<=high:=cP7 (cR9 l) (s0 low high) h
end Go.Pv.Ar
namespace Go.Pv
open Go
theorem cp3 (r:j6):cT9 r=decide (Ar.cp2 r):=cJ3 ((dI9 r).symm.trans (Ar.ap4 r))
def dj9 (g:N4)(l:List j6):N4:=
 ⟨max (min (min (max (Ar.fin l (-5000) 10000).low (g.j9-1000)) (g.j9+300)) (Ar.fin l (-5000) 10000).high) (-5000),(Ar.fin l (-5000) 10000).source⟩
def granted (g:N4):Prop:=(-5000<=g.j9/\g.j9<=10000)/\(-1<=g.I7/\g.I7<=15)
theorem cA7:∀(q:List j6) (s:z6),(∀r∈q,0<=r.I7/\r.I7<=15)->(-1<=s.source/\s.source<=15)-> -1<=(q.foldl Ar.stp s).source/\(q.foldl Ar.stp s).source<=15
 |[],_,_,h=>h
 |r::q,s,hq,h=>by
  rw[eE8]
  refine cA7 q _ (fun x hx=>hq x (bO9 _ hx)) ?_
  have:=hq r (bL5 ..)
  unfold Ar.stp
  simp only
  split<;>omega
theorem em6 {l:List j6}(h:Ar.cW2 l (-5000) 10000)(g:N4):granted (dj9 g l):=by
 have r:=Ar.dc2 (l:=l) (low:=-5000) (high:=10000) (by omega)
 have s:=cA7 (Ar.cR9 l) (Ar.s0 (-5000) 10000) (fun x hx=>by
  have:=h.req x ((Ar.cn6 h.dr).1 hx)
  exact this.1) (by show -1<=(-1:Int)/\(-1:Int)<=15;omega)
 unfold granted dj9
 unfold Ar.fin at r s|-
 simp only
 exact⟨by omega,s⟩
theorem eh2 {g:N4}{l:List j6}(hg:granted g)(h:Ar.cW2 l (-5000) 10000)(h19:l.length<=19):aq7 g l (-5000) 10000 300 1000=some (dj9 g l,0):=by
 have r:=Ar.dc2 (l:=l) (low:=-5000) (high:=10000) (by omega)
 have hl:=h.len
 unfold granted at hg
 unfold aq7
 rw[show R8 g.j9=some (inR (-5000) 10000 g.j9)from rfl,T8 hg.1.1 hg.1.2]
 simp only[ac0]
 rw[show((!true||decide (g.I7< -1))||decide (g.I7>15))=false by simp only[aK4,ed1,bG8,fh9];omega,Ar.em2 _ _ _ (by omega),Ar.ei6.2 h]
 simp only[fh3,ac0]
 rw[show(((0:Int) !=0))=false from rfl,show(((decide ((300:Int)<0)||decide ((300:Int)>20000))||decide ((1000:Int)<0))||decide ((1000:Int)>20000))=false from rfl,Ar.dV4 h h19]
 simp only[fh3,ac0]
 rw[k6 (n:=g.j9-1000) (by omega) (by omega),k6 (n:=g.j9+300) (by omega) (by omega)]
 simp only[ar5,ap6]
 rfl
structure cJ6 (t:p6):Prop where
 air:cW4 t=true
 eK6:bL4 t=true
 tor:bc0 t=true
 dead:(bx9 t.V6&&t.V6.Y.all (inR 0 10000))=true
 cH2:br7 t.R6=true
 idle:cB0 t.G6=true
structure Giv (t:p6)(e:o7)(b:J4)(c:z8)(i:X5):Prop where
 t:cl9 t=true
 b:aV7 b=true
 c:bz6 e c=true
 i:eh0 i (e.z7.length:Int)=true
theorem dA7 {t:p6}(h:cl9 t=true):cJ6 t:=by
 unfold cl9 at h
 have h':=h
 simp only[au2]at h'
 exact⟨h'.1.1.1.1.1,h'.1.1.1.1.2,h'.1.1.1.2,by rw[au2];exact h'.1.1.2,h'.1.2,h'.2⟩
structure cZ2 (e:o7)(c:z8):Prop where
 eng:Ev.aE8 e
 ped:cY2 c.C5=true
 mix:cR3 c.B2=true
 num:c.R7.length=e.z7.length
 kno:c.R7.all knB=true
 sum:bV2 c.G6
 aG1:0<=c.H9/\c.H9<=1073741824
 gra:granted c.L8
theorem cf4 {e:o7}{c:z8}:bz6 e c=true↔cZ2 e c:=by
 unfold bz6
 simp only[au2,fh8,ba0]
 exact⟨fun⟨⟨⟨⟨⟨⟨⟨⟨a,b⟩,d⟩,f⟩,g⟩,h⟩,i⟩,j⟩,k⟩=>⟨a,b,d,f,g,h,i,j,k⟩,fun⟨a,b,d,f,g,h,i,j,k⟩=>⟨⟨⟨⟨⟨⟨⟨⟨a,b⟩,d⟩,f⟩,g⟩,h⟩,i⟩,j⟩,k⟩⟩
structure do6 (i:X5)(n:Nat):Prop where
 num:1<=n/\n<=8
 len:i.W7.length=n
 few:i.Requests.length<=30
 spd:0<=i.C9/\i.C9<=12000
 pre:50<=i.G0/\i.G0<=3000
 air:-40<=i.C6/\i.C6<=150
 coo:-40<=i.ap5/\i.ap5<=150
 vol:0<=i.az4/\i.az4<=20000
 lam:0<=i.Lambda/\i.Lambda<=20000
 int:i.W7.all (inR 0 4095)=true
 req:i.Requests.all cT9=true
theorem eh1 {i:X5}{n:Nat}:eh0 i (n:Int)=true↔do6 i n:=by
 unfold eh0
 simp only[au2,fh8,ba0]
 exact⟨fun⟨⟨⟨⟨⟨⟨⟨⟨⟨⟨a,b⟩,c⟩,d⟩,e⟩,f⟩,g⟩,h⟩,i⟩,j⟩,k⟩=>⟨by omega,by omega,c,d,e,f,g,h,i,j,k⟩,fun⟨a,b,c,d,e,f,g,h,i,j,k⟩=>⟨⟨⟨⟨⟨⟨⟨⟨⟨⟨by omega,by omega⟩,c⟩,d⟩,e⟩,f⟩,g⟩,h⟩,i⟩,j⟩,k⟩⟩
def dW9 (s:B9)(g:ak0)(c v:Int):B9×Int×Int:=(aF2 s g (cy7 c) v).getD (⟨0⟩,0,0)
theorem dO5 {s:B9}{g:ak0}(hg:cB0 g=true)(hs:bV2 s){c v:Int}(c0:-40<=c/\c<=150)(v0:0<=v/\v<=12000):aF2 s g (cy7 c) v=some ((dW9 s g c v).1,(dW9 s g c v).2.1,0)/\bV2 (dW9 s g c v).1:=by
 obtain⟨s',u,h1,h2⟩:=en0 hg hs c0 v0
 unfold dW9
 rw[h1]
 exact⟨rfl,h2⟩
section
variable (t:p6) (e:o7) (b:J4) (c:z8) (i:X5)
def pdV:L4:=dx1 c.C5 i.bo7 i.bo8
def wsV:Int:=dB6 t (pdV c i).Value i.C9
def acV:Bool:=dC8 (pdV c i).Value i.C9 i.ap5
def idV:B9:=bif acV c i then(dW9 c.G6 t.G6 i.ap5 i.C9).1 else⟨0⟩
def rqV:List j6:=⟨0,3,wsV t c i,0⟩::((bif acV c i then [⟨1,2,min (max (dW9 c.G6 t.G6 i.ap5 i.C9).2.1 (-5000)) 10000,1⟩]else [])++i.Requests)
def grV:N4:=dj9 c.L8 (rqV t c i)
def wtV:Int:=max 0 (grV t c i).j9
def thV (w:Int):Int:=
 let r2:=(aq4 t i.C9 w).getD (0,0)
 let r3:=(av8 t i.C9 (max 0 (bif r2.2 !=0 then 1048576 else r2.1)) i.C6).getD (0,0)
 let p:=min 1012 (bif r3.2 !=0 then 3000 else r3.1)
 let r5:=(av9 b (dc5 i.C9 p) p).getD (0,0)
 bif r5.2 !=0 then 1000 else r5.1
def cgV:Int:=chV t i.C9 i.G0 i.C6
def shV (w n:Int):Int×Int×Int:=(an3 t i.C9 (cgV t i) w n).getD (0,0,0)
def msV:Int:=min 1048576 ((cgV t i*10000/147000)*cP1 (mxV c.B2 i.Lambda) i.C9 (cgV t i)/1000)
def waV:Int×Int×Int:=(aJ7 b c.H9 (msV t c i)).getD (0,0,0)
def inV (f:Int):Int×Int:=bif (f==0)||((waV t b c i).2.2 !=0)then(0,c.H9-ay8 b c.H9)else((waV t b c i).1,(waV t b c i).2.1)
def tmV (j:Int):Int:=bif decide (j>0)then min (max (cAt t.V6 i.az4+eU1 j) 200) 20000 else 0
def tkV:Int:=min (max (60000000/max 1 i.C9) 4000) 1000000
def fiV (n:Nat)(f l tm:Int)(k:Nat):A6:=
 ⟨(k:Int)+1,max (-1280) (dT4 t i.C9 (cgV t i) i.ap5 ((ksV c.R7 i.W7).getD k ⟨0,0,0⟩).au3-l),max 500 (cu9 t i.az4 (tkV i)),5760,bif cG4 n f (k:Int)then tm else 0,0,0⟩
end
structure eL4 (t:p6)(e:o7)(b:J4)(c:z8)(i:X5)(f l:Int):Prop where
 sh:shV t i (wtV t c i) (e.z7.length:Int)=(f,l,0)
 ok:ey7 t (cR8 t i.C9 (cgV t i)) (wtV t c i) (e.z7.length:Int) f l
def nxC (t:p6)(b:J4)(c:z8)(i:X5)(f:Int):z8:=⟨pdV c i,idV t c i,ksV c.R7 i.W7,mxV c.B2 i.Lambda,(inV t b c i f).2,grV t c i⟩
def eZ7 (t:p6)(e:o7)(b:J4)(c:z8)(i:X5)(f l:Int):J9:=⟨thV t b i (wtV t c i),(dy2 e.z7.length).map (fiV t c i e.z7.length f l (tmV t i (inV t b c i f).1)),bO5 t (cR8 t i.C9 (cgV t i)) l f (e.z7.length:Int)⟩
theorem fg5 (w:Int)(h: -5000<=w/\w<=10000):Ar.cp2 ⟨0,3,w,0⟩:=
 ⟨⟨(by decide:(0:Int)<=0),(by decide:(0:Int)<=15)⟩,⟨(by decide:(0:Int)<=0),(by decide:(0:Int)<=15)⟩,h,.inr ⟨(by decide:(0:Int)<=1),.inr rfl⟩⟩
theorem fa2 (w:Int)(h: -5000<=w/\w<=10000):Ar.cp2 ⟨1,2,w,1⟩:=
 ⟨⟨(by decide:(0:Int)<=1),(by decide:(1:Int)<=15)⟩,⟨(by decide:(0:Int)<=1),(by decide:(1:Int)<=15)⟩,h,.inr ⟨(by decide:(1:Int)<=1),.inl rfl⟩⟩
theorem df4 {t:p6}{c:z8}{i:X5}{n:Nat}(hi:do6 i n):Ar.cW2 (rqV t c i) (-5000) 10000:=by
 have hw:=dL0 t (pdV c i).Value i.C9
 have hr:=hi.few
 refine⟨fun r h=>?_,?_,by omega,by omega,by omega⟩
 ·unfold rqV at h
  rcases cr6.1 h with rfl|h
  ·exact fg5 _ hw
  ·rcases do2.1 h with h|h
   ·cases ha:acV c i
    ·rw[ha]at h;simp at h
    ·rw[ha]at h
     simp only[fh5,cr6,eP5,or_false]at h
     subst h
     exact fa2 _ ⟨by omega,by omega⟩
   ·have:=by6.1 hi.req r h
    rw[cp3,fh8]at this
    exact this
 ·unfold rqV
  rw[bu6,aX7]
  cases acV c i<;>simp<;>omega
theorem al0 (s:p7)(h:s.fail=0):A1 s 0=some s:=by
 unfold A1
 rw[h]
 simp only[beq_self_eq_true,fh5]
 cases s
 simp only at h
 subst h
 rfl
theorem eb7 {t:p6}{e:o7}{b:J4}{c:z8}{i:X5}{n:Nat}(ht:cJ6 t)(hc:cZ2 e c)(hi:do6 i n)(h17:i.Requests.length<=17):
  Z8 ⟨t,e,b,c,i,0,0,0,0,[],0,⟨0,[],0⟩,0⟩=some ⟨t,e,b,⟨pdV c i,idV t c i,c.R7,c.B2,c.H9,grV t c i⟩,i,wtV t c i,0,0,0,[],0,⟨0,[],0⟩,0⟩:=by
 obtain⟨p1,p2⟩:=cS3 hc.ped i.bo7 i.bo8
 have p3:=(dP7.1 p2).v
 have hw:=eH7 ht.cH2 (v:=(dx1 c.C5 i.bo7 i.bo8).Value) p3 hi.spd
 have ha:=ef0 (v:=(dx1 c.C5 i.bo7 i.bo8).Value) (s:=i.C9) hi.coo
 obtain⟨d1,d2⟩:=dO5 ht.idle hc.sum hi.coo hi.spd
 have hf:=df4 (t:=t) (c:=c) hi
 have hst:=eh2 hc.gra hf (by unfold rqV;rw[bu6,aX7];cases acV c i<;>simp<;>omega)
 have hrl:=hi.few
 unfold Z8
 simp only
 rw[p1]
 simp only[ac0]
 rw[al0 _ rfl]
 simp only[ac0]
 rw[hw]
 simp only[ac0]
 rw[al0 _ rfl]
 simp only[ac0]
 rw[ha,(dK3 hi.coo).1]
 simp only[ac0]
 unfold grV wtV grV
 unfold idV rqV acV wsV pdV at*
 cases hac:dC8 (dx1 c.C5 i.bo7 i.bo8).Value i.C9 i.ap5
 ·rw[hac]at hst
  simp only[fh3,ac0,cY1]at hst|-
  rw[K4 _ _ (by simp only[bu6,cY9];omega)]
  simp only[ac0,dK4,cY1]
  show ab6 (ab6 (aq7 c.L8 _ _ _ _ _) _) _=_
  rw[hst]
  simp only[ac0]
  rw[al0 _ rfl]
  simp only[ac0,ap6]
 ·rw[hac]at hst
  simp only[fh5,dK4,cY1]at hst|-
  show ab6 (ab6 (ab6 (aF2 c.G6 t.G6 (cy7 i.ap5) i.C9) _) _) _=_
  rw[d1]
  simp only[ac0]
  rw[al0 _ rfl]
  simp only[ac0,aD0,ar5,ap6]
  rw[K4 _ _ (by simp only[bu6,cY9];omega)]
  simp only[ac0]
  rw[K4 _ _ (by simp only[aX7,bu6,cY9];omega)]
  simp only[ac0,dK4,cY1]
  show ab6 (ab6 (aq7 c.L8 _ _ _ _ _) _) _=_
  rw[hst]
  simp only[ac0]
  rw[al0 _ rfl]
  simp only[ac0]
theorem or_eq (x e o:Int):av2 x e o=some (bif e !=0 then o else x):=by unfold av2;cases e !=0<;>rfl
theorem dz8 {t:p6}{b:J4}{i:X5}{n:Nat}(ht:cJ6 t)(hb:aV7 b=true)(hi:do6 i n)(e:o7)(c:z8)(w:Int):
  W5 ⟨t,e,b,c,i,w,0,0,0,[],0,⟨0,[],0⟩,0⟩=some ⟨t,e,b,c,i,w,0,0,0,[],0,⟨thV t b i w,[],0⟩,0⟩/\0<=thV t b i w/\thV t b i w<=1000:=by
 obtain⟨c2,e2,h2,_,_,_⟩:=eo1 ht.tor (w:=w) hi.spd
 unfold W5 thV
 simp only
 rw[h2]
 simp only[ac0,or_eq,ey3,ap6]
 generalize max 0 (bif e2 !=0 then(1048576:Int)else c2)=x
 obtain⟨p,e3,h3,k3⟩:=dx6 ht.air (w:=x) hi.spd hi.air
 rw[h3]
 simp only[ac0,ey3,ar5]
 have hp:50<=(min 1012 (bif e3 !=0 then(3000:Int)else p))/\(min 1012 (bif e3 !=0 then(3000:Int)else p))<=1012:=by
  cases he:e3 !=0
  ·have h0:e3=0:=by simpa using he
   have:=k3.fit h0
   simp only[fh3];omega
  ·simp only[fh5];omega
 generalize min 1012 (bif e3 !=0 then(3000:Int)else p)=q at hp
 obtain⟨f1,f2,f3⟩:=eB7 (s:=i.C9) (p:=q) hi.spd (by omega)
 rw[f1]
 simp only[ac0]
 rw[al0 _ rfl]
 simp only[ac0]
 obtain⟨y,e5,h5,k5⟩:=dA9 hb (f:=dc5 i.C9 q) (p:=q) (by omega) (by omega)
 rw[h5]
 simp only[ac0,ey3]
 refine⟨trivial,?_⟩
 cases he:e5 !=0
 ·have h0:e5=0:=by simpa using he
  have:=k5.fit h0
  simp only[fh3];omega
 ·simp only[fh5];omega
theorem be6 {t:p6}(ht:cJ6 t)(i:X5):0<=cgV t i/\cgV t i<=1048576:=(db0 ht.air i.C9 i.G0 i.C6).2
theorem fa6 {t:p6}{i:X5}{n:Nat}(ht:cJ6 t)(hi:do6 i n){w:Int}(hw:0<=w):∃f l,shV t i w (n:Int)=(f,l,0)/\an3 t i.C9 (cgV t i) w (n:Int)=some (f,l,0)/\ey7 t (cR8 t i.C9 (cgV t i)) w (n:Int) f l:=by
 have hn:=hi.num
 obtain⟨f,l,h1,h2⟩:=et1 ht.tor hi.spd (be6 ht i) hw (n:=(n:Int)) (by omega)
 exact⟨f,l,by unfold shV;rw[h1];rfl,h1,h2⟩
theorem eu3 {t:p6}{i:X5}{e:o7}(ht:cJ6 t)(hi:do6 i e.z7.length){w f l:Int}(h:an3 t i.C9 (cgV t i) w (e.z7.length:Int)=some (f,l,0))(k:ey7 t (cR8 t i.C9 (cgV t i)) w (e.z7.length:Int) f l)(b:J4)(c:z8)(th:Int):
  ac6 ⟨t,e,b,c,i,w,0,0,0,[],0,⟨th,[],0⟩,0⟩=
   some ⟨t,e,b,c,i,w,cgV t i,f,l,(dy2 e.z7.length).map (fun j:Nat=>cG4 (e.z7.length:Int) f (j:Int)),0,⟨th,[],bO5 t (cR8 t i.C9 (cgV t i)) l f (e.z7.length:Int)⟩,0⟩:=by
 have hn:=hi.num
 have k1:=k.f0;have k2:=k.f1;have k3:=k.l0;have k4:=k.l1
 unfold ac6
 simp only
 rw[ci8 ht.air hi.spd hi.pre hi.air]
 simp only[ac0]
 rw[al0 _ rfl]
 simp only[ac0]
 rw[show chV t i.C9 i.G0 i.C6=cgV t i from rfl,h]
 simp only[ac0]
 rw[al0 _ rfl]
 simp only[ac0]
 rw[dI0 hn ⟨k1,k2⟩]
 simp only[ac0]
 rw[al0 _ rfl]
 simp only[ac0]
 rw[ec7 ht.tor hi.spd (be6 ht i) ⟨k3,k4⟩ ⟨k1,k2⟩ (by omega)]
 simp only[ac0]
 rw[al0 _ rfl]
 simp only[ac0]
theorem dv8 {t:p6}{c:z8}{i:X5}(ht:cJ6 t):(0<=cgV t i*10000/147000/\cgV t i*10000/147000<=80000)/\(0<=(cgV t i*10000/147000)*cP1 (mxV c.B2 i.Lambda) i.C9 (cgV t i)/\(cgV t i*10000/147000)*cP1 (mxV c.B2 i.Lambda) i.C9 (cgV t i)<=80000*1300)/\0<=msV t c i/\msV t c i<=1048576:=by
 have h1:=be6 ht i
 have h2:=dW0 (mxV c.B2 i.Lambda) i.C9 (cgV t i)
 have h3:0<=cgV t i*10000/147000/\cgV t i*10000/147000<=80000:=by omega
 have h4:=aV2 h3.1 h3.2 (show 0<=cP1 (mxV c.B2 i.Lambda) i.C9 (cgV t i) by omega) h2.2
 refine⟨h3,h4,?_⟩
 unfold msV
 omega
theorem dS2 {t:p6}{b:J4}{e:o7}{c:z8}{i:X5}(ht:cJ6 t)(hb:aV7 b=true)(hc:cZ2 e c):aJ7 b c.H9 (msV t c i)=some (waV t b c i)/\ee9 b c.H9 (msV t c i) (waV t b c i).1 (waV t b c i).2.1 (waV t b c i).2.2:=by
 obtain⟨j,x,e1,h1,h2⟩:=em1 hb hc.aG1 (dv8 (c:=c) (i:=i) ht).2.2
 unfold waV
 rw[h1]
 exact⟨rfl,h2⟩
theorem du3 {t:p6}{b:J4}{e:o7}{c:z8}{i:X5}(ht:cJ6 t)(hb:aV7 b=true)(hc:cZ2 e c)(f:Int):(0<=(inV t b c i f).1/\(inV t b c i f).1<=1048576)/\(0<=(inV t b c i f).2/\(inV t b c i f).2<=1073741824):=by
 obtain⟨_,k⟩:=dS2 (i:=i) ht hb hc
 have hl:=bz8 hb hc.aG1.1
 have hf:=hc.aG1
 unfold inV
 cases hz:(f==0)||((waV t b c i).2.2 !=0)
 ·rw[bG8]at hz
  have h0:(waV t b c i).2.2=0:=by simpa using hz.2
  exact⟨k.inj h0,k.ran h0⟩
 ·simp only[fh5];omega
theorem eG6 {t:p6}{b:J4}{e:o7}{c:z8}{i:X5}{n:Nat}(ht:cJ6 t)(hb:aV7 b=true)(hc:cZ2 e c)(hi:do6 i n)(pd:L4)(id:B9)(gr:N4)(w f l:Int)(pt:List Bool)(o:J9):
  af6 ⟨t,e,b,⟨pd,id,c.R7,c.B2,c.H9,gr⟩,i,w,cgV t i,f,l,pt,0,o,0⟩=
   some ⟨t,e,b,⟨pd,id,c.R7,mxV c.B2 i.Lambda,(inV t b c i f).2,gr⟩,i,w,cgV t i,f,l,pt,tmV t i (inV t b c i f).1,o,0⟩:=by
 obtain⟨x1,x2⟩:=de3 hc.mix hi.lam hi.spd (be6 ht i)
 have hf:=eO4 x2 hi.spd (be6 ht i)
 obtain⟨m1,m2,m3⟩:=dv8 (c:=c) (i:=i) ht
 obtain⟨w1,w2⟩:=dS2 (i:=i) ht hb hc
 have hr:=(du3 (i:=i) ht hb hc f).1
 have hm:J1 1048576 (o6 (da8 (o6 ((cgV t i*10000/147000)*cP1 (mxV c.B2 i.Lambda) i.C9 (cgV t i))) 1000))=msV t c i:=by
  unfold msV
  rw[k6 (n:=(cgV t i*10000/147000)*cP1 (mxV c.B2 i.Lambda) i.C9 (cgV t i)) (by omega) (by omega),cW1 m2.1,k6 (by omega) (by omega),ar5]
 unfold af6
 simp only
 rw[x1]
 simp only[ac0]
 rw[al0 _ rfl]
 simp only[ac0]
 rw[hf]
 simp only[ac0]
 rw[al0 _ rfl]
 simp only[ac0]
 rw[el5 (be6 ht i)]
 simp only[ac0]
 rw[al0 _ rfl]
 simp only[ac0]
 rw[hm,w1]
 simp only[ac0]
 have hin:∀s:p7,s.b=b->s.c.H9=c.H9->s.fail=0->(bif ((f==0)||((waV t b c i).2.2 !=0))then(ab6 (aP6 b c.H9 0) fun r6=>ab6 (A1 s r6.2.2) fun v4=>some (0,r6.2.1,v4))else(some ((waV t b c i).1,(waV t b c i).2.1,s)))=some ((inV t b c i f).1,(inV t b c i f).2,s):=by
  intro s _ _ hs
  unfold inV
  cases(f==0)||((waV t b c i).2.2 !=0)
  ·rfl
  ·simp only[fh5]
   rw[el1 hb hc.aG1]
   simp only[ac0]
   rw[al0 _ hs]
   rfl
 rw[hin _ rfl rfl rfl]
 simp only[ac0]
 unfold tmV
 cases hj:decide ((inV t b c i f).1>0)
 ·rfl
 ·have hj':=of_decide_eq_true hj
  simp only[fh5]
  show ab6 (aP7 t (inV t b c i f).1 i.az4) _=_
  rw[el7 ht.dead ⟨hj',hr.2⟩ hi.vol]
  simp only[ac0]
  rw[al0 _ rfl]
  simp only[ac0,aD0,ar5,ap6]
theorem eu1 {t:p6}{e:o7}{c:z8}{i:X5}(ht:cJ6 t)(hc:cZ2 e c)(hi:do6 i e.z7.length)(b:J4)(pd:L4)(id:B9)(pb:I2)(fm:Int)(gr:N4)(w f l tm th to_:Int)(hl:0<=l/\l<=2560):
  ac5 ⟨t,e,b,⟨pd,id,c.R7,pb,fm,gr⟩,i,w,cgV t i,f,l,(dy2 e.z7.length).map (fun j:Nat=>cG4 (e.z7.length:Int) f (j:Int)),tm,⟨th,[],to_⟩,0⟩=
   some ⟨t,e,b,⟨pd,id,ksV c.R7 i.W7,pb,fm,gr⟩,i,w,cgV t i,f,l,(dy2 e.z7.length).map (fun j:Nat=>cG4 (e.z7.length:Int) f (j:Int)),tm,⟨th,(dy2 e.z7.length).map (fiV t c i e.z7.length f l tm),to_⟩,0⟩:=by
 have hn:=hi.num
 have hs:=hi.spd
 obtain⟨k1,k2,k3⟩:=eJ7 hc.kno hi.int (by rw[hc.num];exact hn) (by rw[hc.num];exact hi.len)
 rw[hc.num]at k3
 have hk2:=by6.1 k2
 have hq:0<=60000000/max 1 i.C9/\60000000/max 1 i.C9<=60000000:=⟨eM7 (by omega) (by omega),eM3 _ (by omega)⟩
 have htk:4000<=tkV i/\tkV i<=1000000:=by unfold tkV;omega
 obtain⟨d1,d2,d3⟩:=ek3 ht.eK6 ht.tor hi.vol htk
 unfold ac5
 simp only
 rw[k1]
 simp only[ac0]
 rw[al0 _ rfl]
 simp only[ac0]
 rw[ap6,eE9 (by omega) (by omega) (by omega)]
 simp only[ac0,aD0,ar5,ap6]
 rw[show min (max (60000000/max 1 i.C9) 4000) 1000000=tkV i from rfl,d1]
 simp only[ac0]
 rw[al0 _ rfl]
 simp only[ac0]
 rw[show(((0:Int) !=0))=false from rfl]
 simp only[fh3]
 generalize hP:(dy2 e.z7.length).map (fun j:Nat=>cG4 (e.z7.length:Int) f (j:Int))=P
 have hPl:P.length=e.z7.length:=by rw[<-hP];simp
 have hPg:∀j,j<e.z7.length->P[j]? =some (cG4 (e.z7.length:Int) f (j:Int)):=fun j hj=>by rw[<-hP,cM9,List.getElem?_range hj];rfl
 obtain⟨u,eu,hu⟩:=ah4 e.z7.length (by omega) (af5 (cu9 t i.az4 (tkV i),0)) (fun k u=>u=⟨t,e,b,⟨pd,id,ksV c.R7 i.W7,pb,fm,gr⟩,i,w,cgV t i,f,l,P,tm,⟨th,(dy2 k).map (fiV t c i e.z7.length f l tm),to_⟩,0⟩)
  ⟨t,e,b,⟨pd,id,ksV c.R7 i.W7,pb,fm,gr⟩,i,w,cgV t i,f,l,P,tm,⟨th,[],to_⟩,0⟩ rfl (fun j hj u hu=>by
   subst hu
   have hj2:j<(ksV c.R7 i.W7).length:=by omega
   have hr:=(eQ1.1 (hk2 _ (bf2 hj2))).r
   have hang:=dT5 t i.C9 (cgV t i) i.ap5 (ksV c.R7 i.W7)[j].au3
   unfold af5
   simp only
   rw[E8 _ _ hj2]
   simp only[ac0]
   rw[eg0 ht.eK6 ht.tor hi.spd (be6 ht i) hi.coo ⟨hr.1,by omega⟩]
   simp only[ac0]
   rw[al0 _ rfl]
   simp only[ac0]
   rw[S0,hPg j hj]
   simp only[ac0]
   have hb:(bif cG4 (e.z7.length:Int) f (j:Int)then(some tm)else(some 0))=some (bif cG4 (e.z7.length:Int) f (j:Int)then tm else 0):=by cases cG4 (e.z7.length:Int) f (j:Int)<;>rfl
   rw[hb]
   simp only[ac0]
   rw[K4 _ _ (by simp only[cW3,List.length_range,bu6,cY9];omega)]
   simp only[ac0]
   refine⟨_,rfl,?_⟩
   rw[List.range_succ,eK7,cX5,ep3]
   unfold fiV
   rw[k6 (n:=(j:Int)+1) (by omega) (by omega),k6 (by omega) (by omega),ap6,ap6,List.getD_eq_getElem?_getD,aJ9 hj2]
   rfl)
 rw[eu,hu]
 rfl
theorem ej6 {t:p6}{e:o7}{b:J4}{c:z8}{i:X5}(h:Giv t e b c i)(h17:i.Requests.length<=17):∃f l,eL4 t e b c i f l/\aF6 t e b c i=some (nxC t b c i f,eZ7 t e b c i f l,0):=by
 have ht:=dA7 h.t
 have hc:=cf4.1 h.c
 have hi:=eh1.1 h.i
 obtain⟨f,l,s1,s2,s3⟩:=fa6 ht hi (w:=wtV t c i) (by unfold wtV;omega)
 refine⟨f,l,⟨s1,s3⟩,?_⟩
 unfold aF6
 rw[bi7,h.t,dh2,h.b,dO2,h.c]
 simp only[ac0,aK4,fh3]
 rw[eM1,h.i]
 simp only[ac0,aK4,fh3]
 rw[eb7 ht hc hi h17]
 simp only[ac0]
 rw[(dz8 ht h.b hi e _ (wtV t c i)).1]
 simp only[ac0]
 rw[eu3 ht hi s2 s3]
 simp only[ac0]
 rw[eG6 ht h.b hc hi]
 simp only[ac0]
 rw[eu1 ht hc hi _ _ _ _ _ _ _ _ _ _ _ _ ⟨s3.l0,s3.l1⟩]
 simp only[ac0]
 rfl
end Go.Pv
namespace Go.Proofs.YtfplhihoadkhlaaGreat.Ec
open Go Go.Pv Go.Pv.Ec Go.Proofs
theorem cv5 (a c:Int)(ha0: -9223372036854775808<=a)(ha1:a<=9223372036854775807)(hc0:0<c)(hc1:c<=9223372036854775807):(Y3 a c).m=some (a/c):=by
 rw[aR2]
 exact bR9 a c ha0 ha1 hc0 hc1
theorem bs6 (x lo hi:Int):(D7 x lo hi).m=some (J1 (K2 x lo) hi):=rfl
theorem bn0 (x lo hi:Int)(h:lo<=hi):lo<=J1 (K2 x lo) hi/\J1 (K2 x lo) hi<=hi:=by
 unfold J1 K2
 split<;>split<;>omega
theorem dl0 (p b:Int)(hb:0<b)(hb1:b<=1099511627776):∃r,(aa1 p b).m=some r/\0<=r/\r<b:=by
 simp only[aa1,C.of,M.run,L1.m]
 rw[show((b==0)||(b==(-1)))=false by simp;omega]
 simp only[fh3]
 have e:cg7 p b=some (ef7 p b):=by unfold cg7;rw[if_neg (by omega)]
 rw[e]
 simp only[ac0]
 have h1:(ef7 p b)<b:=Int.tmod_lt_of_pos p hb
 have h2:-b<ef7 p b:=by
  have h3:=Int.tmod_lt_of_pos (-p) hb
  rw[Int.neg_tmod]at h3
  omega
 generalize ef7 p b=q at h1 h2|-
 by_cases h3:q<0
 ·rw[show((q !=0)&&(!((decide (q<0))==(decide (b<0)))))=true by
   rw[fh6 h3,fh7 (by omega)];simp;omega]
  exact⟨_,rfl,by rw[k6 (by omega) (by omega)];omega,by rw[k6 (by omega) (by omega)];omega⟩
 ·rw[show((q !=0)&&(!((decide (q<0))==(decide (b<0)))))=false by
   rw[fh7 h3,fh7 (by omega)];simp]
  exact⟨_,rfl,by omega,h1⟩
theorem bw8 {α S R:Type}(f:Int->α->S->Option (Fl S R))(I:Nat->S->Prop):∀(r:List α) (k:Nat) (s:S),I k s->(∀j x s,r[j]? =some x->I (k+j) s->∃s',f ((k+j:Nat):Int) x s=some (.next s')/\I (k+j+1) s')->
  ∃s',N3 f r (k:Int) s=some (.inl s')/\I (k+r.length) s'
 |[],k,s,h,_=>⟨s,by simp[N3],h⟩
 |x::r,k,s,h,g=>by
  obtain⟨s',h1,h2⟩:=g 0 x s rfl h
  obtain⟨t,h3,h4⟩:=bw8 f I r (k+1) s' h2 (fun j y u hy hu=>by
   have:=g (j+1) y u (by simpa using hy) (by rw[show k+(j+1)=k+1+j by omega];exact hu)
   rw[show k+(j+1)=k+1+j by omega]at this
   exact this)
  refine⟨t,?_,by rw[bu6,show k+(r.length+1)=k+1+r.length by omega];exact h4⟩
  simp only[N3]
  rw[show((k:Nat):Int)=((k+0:Nat):Int) by rfl,h1]
  simp only[ac0]
  exact h3
theorem bk1 {α S R:Type}(l:List α)(hn:l.length<=9223372036854775807)(f:Int->α->S->Option (Fl S R))(I:Nat->S->Prop)(s:S)(h0:I 0 s)(h:∀k x s,l[k]? =some x->I k s->∃s',f (k:Int) x s=some (.next s')/\I (k+1) s'):
  ∃s',M0 (fun p:Int×S=>bif decide (p.1<(l.length:Int))then((F0 l p.1).bind fun x=>(f p.1 x p.2).bind (aE2 p.1))else some (.inr (.inl p.2))) (0,s)=some (.inl s')/\I l.length s':=by
 have e:=M4 l hn f s
 obtain⟨s',h1,h2⟩:=bw8 f I l 0 s h0 (fun j x s hx hs=>by rw[cY7]at hs|-;exact h j x s hx hs)
 refine⟨s',?_,by rw[cY7]at h2;exact h2⟩
 exact e.trans h1
structure bY5 (b:J4)(p:O9):Prop where
 body:aV7 b=true
 pos:0<=p.F8/\p.F8<=3019898879
 spd:0<=p.C9/\p.C9<=262144
 rest:0<=p.Rest/\p.Rest<=b.O5-1
 pre:50<=p.G0/\p.G0<=1013
 aG1:0<=p.H9/\p.H9<=2147483648
 few:(p.Path.length:Int)<=b.an6+1
 path:∀x∈p.Path,500<=x/\x<=2000
theorem cx4 (x a b:Int):(H0 x a b).m=some (decide (x>=a)&&decide (x<=b)):=rfl
theorem de8 {x a b:Int}(h:a<=x/\x<=b):(H0 x a b).m=some true:=by
 rw[cx4,fh6 (by omega),fh6 (by omega)];rfl
theorem dx4 (b:J4):(ak5 b).m=some (aV7 b):=by rw[bt9,dh2]
theorem dm3 {b:J4}{p:O9}(h:bY5 b p):(bw3 b p).m=some true:=by
 have hb:=bt6 h.body
 have h1:=hb.i
 simp only[bw3,C.of,M.run,dx4,h.body,ac0,de8 h.pos,de8 h.spd,de8 h.pre,de8 h.aG1,k6 (n:=b.O5-1) (by omega) (by omega),de8 h.rest,aK4,fh3]
 rw[k6 (n:=b.an6+1) (by have:=hb.de;omega) (by have:=hb.de;omega),fh7 (by have:=h.few;omega)]
 simp only[eU3,fh3]
 obtain⟨u,h2,_⟩:=bk1 p.Path (by have:=h.few;have:=hb.de;omega) (fun i x (s:Unit)=>(bB7 i x s).run) (fun _ _=>True) () trivial (fun k x s hx _=>by
  refine⟨(),?_,trivial⟩
  simp only[bB7,M.run,de8 (h.path x (dv3 hx)),ac0,aK4,fh3])
 rw[h2]
 rfl
theorem dS0 (n:Int):-9223372036854775808<=o6 n/\o6 n<=9223372036854775807:=by
 unfold o6 IntKind.wrap
 simp[IntKind.signed,IntKind.bits]
 omega
theorem eq7 {w:aq6}{q r g:Int}(hb:aV7 w.b=true):
  ∃v r',(bg6 w q r g).m=some ⟨⟨w.u3.F8,v,r',w.u3.G0,w.u3.H9,w.u3.Path⟩,w.b⟩/\(0<=v/\v<=262144)/\(0<=r'/\r'<=w.b.O5-1):=by
 have h1:=(bt6 hb).i
 simp only[bg6,CG.of,M.run]
 generalize hn:o6 ((o6 ((o6 ((o6 (q-r))-(o6 (da8 (o6 (w.b.N9*w.u3.C9)) 65536))))*g))+w.u3.Rest)=n
 have h2:-9223372036854775808<=n/\n<=9223372036854775807:=hn▸dS0 _
 obtain⟨m,h3,h4,h5⟩:=dl0 n w.b.O5 (by omega) (by omega)
 rw[cv5 n w.b.O5 h2.1 h2.2 (by omega) (by omega),h3]
 simp only[ac0]
 cases(decide (o6 (w.u3.C9+n/w.b.O5)<0)||decide (o6 (w.u3.C9+n/w.b.O5)>262144))
 ·simp only[fh3,ac0,bs6]
  exact⟨_,_,rfl,bn0 _ _ _ (by omega),h4,by omega⟩
 ·simp only[fh5,ac0,bs6]
  exact⟨_,_,rfl,bn0 _ _ _ (by omega),by omega,by omega⟩
theorem dx3 {w:aq6}{q r g:Int}(hb:aV7 w.b=true):
  ∃v,(aS3 w q r g).m=some ⟨⟨w.u3.F8,w.u3.C9,w.u3.Rest,v,w.u3.H9,w.u3.Path⟩,w.b⟩/\(50<=v/\v<=1013):=by
 have h1:=(bt6 hb).v
 simp only[aS3,CG.of,M.run]
 generalize hn:o6 ((o6 ((o6 (da8 (o6 ((o6 (w.b.C4*q))*(o6 (1013-w.u3.G0)))) 1000))-(o6 (da8 (o6 (r*w.u3.G0)) 1024))))*g)=n
 have h2:-9223372036854775808<=n/\n<=9223372036854775807:=hn▸dS0 _
 rw[k6 (n:=65536*w.b.ac4) (by omega) (by omega),cv5 n _ h2.1 h2.2 (by omega) (by omega)]
 simp only[ac0,bs6]
 exact⟨_,rfl,bn0 _ _ _ (by omega)⟩
theorem eE5 {b:J4}{p:O9}(h:bY5 b p)(a t l g:Int):∃r u e,(cg4 b p a t l g).m=some (r,u,e)/\(e=0->bY5 b r):=by
 have hb:=bt6 h.body
 simp only[cg4,C.of,M.run,dm3 h,cx4,ac0,aK4,fh3,bg,U1.m]
 generalize hc:(bif (bif (bif (!(decide (a>=0)&&decide (a<=1000)))then true else !(decide (t>= -5000)&&decide (t<=10000)))then true else !(decide (l>= -10000)&&decide (l<=10000)))then true else !(decide (g>=1)&&decide (g<=10000)))=c
 cases c
 ·have hg:1<=g/\g<=10000:=by
   simp only[fd4,bG8,ee1,au2,fh8]at hc
   omega
  have hf:=h.few
  rw[K4 _ _ (by simp only[cY9];have:=hb.de;omega)]
  simp only[fh3,ac0,cY1]
  obtain⟨v,r,e1,h1,h2⟩:=eq7 (w:=⟨⟨p.F8,p.C9,p.Rest,p.G0,p.H9,p.Path⟩,b⟩) (q:=t) (r:=l) (g:=g) h.body
  rw[e1]
  simp only[ac0]
  obtain⟨v3,e3,h3⟩:=dx3 (w:=⟨⟨(o6 (p.F8+o6 (p.C9*g))).tmod 3019898880,v,r,p.G0,p.H9,p.Path⟩,b⟩) (q:=a) (r:=p.C9) (g:=g) h.body
  rw[e3]
  refine⟨_,_,_,rfl,fun _=>⟨h.body,?_,h1,h2,h3,h.aG1,hf,h.path⟩⟩
  have hm0:0<=p.C9*g:=eP2 h.spd.1 (by omega)
  have hm1:p.C9*g<=262144*10000:=eP1 h.spd.2 hg.2 (by omega) (by omega)
  have hp:=h.pos
  rw[k6 (n:=p.C9*g) (by omega) (by omega),k6 (by omega) (by omega),do3 (by omega)]
  have:=Int.emod_lt_of_pos (p.F8+p.C9*g) (show(0:Int)<3019898880 by omega)
  refine⟨Int.emod_nonneg _ (by omega),?_⟩
  simp only
  omega
 ·exact⟨_,_,_,rfl,fun h=>by cases h⟩
theorem ea1 {b:J4}{p:O9}(h:bY5 b p)(f a:Int):∃r u e,(bK5 b p f a).m=some (r,u,e)/\(e=0->bY5 b r):=by
 have hb:=bt6 h.body
 simp only[bK5,C.of,M.run,dm3 h,cx4,ac0,aK4,fh3,bg,U1.m,L1.m]
 generalize hc:(bif (!(decide (f>=0)&&decide (f<=1048576)))then true else !(decide (a>=0)&&decide (a<=1048576)))=c
 cases c
 ·have hg:(0<=f/\f<=1048576)/\0<=a/\a<=1048576:=by
   simp only[fd4,bG8,ee1,au2,fh8]at hc
   omega
  have hf:=h.few
  have hfi:=hb.fi;have hev:=hb.ev;have hfl:=h.aG1
  have a0:0<=f*b.H9:=eP2 hg.1.1 hfi.1
  have a1:f*b.H9<=1048576*1023:=eP1 hg.1.2 hfi.2 (by omega) (by omega)
  have b0:0<=p.H9*b.E9:=eP2 hfl.1 (by omega)
  have b1:p.H9*b.E9<=p.H9*1024:=ed9 hev.2 hfl.1
  have b2:p.H9*1<=p.H9*b.E9:=ed9 hev.1 hfl.1
  generalize f*b.H9=A at a0 a1|-
  generalize p.H9*b.E9=B at b0 b1 b2|-
  rw[k6 (n:=A) (by omega) (by omega),k6 (n:=B) (by omega) (by omega),cW1 a0,cW1 b0]
  rw[k6 (n:=A/1024) (by omega) (by omega),k6 (n:=B/1024) (by omega) (by omega),k6 (n:=f-A/1024) (by omega) (by omega),k6 (n:=A/1024-B/1024) (by omega) (by omega),
   k6 (n:=f-A/1024+B/1024) (by omega) (by omega),k6 (n:=p.H9+(A/1024-B/1024)) (by omega) (by omega),k6 (n:=10000*a) (by omega) (by omega),k6 (n:=147*(f-A/1024+B/1024)) (by omega) (by omega),k6 (n:=b.an6+1) (by have:=hb.de;omega) (by have:=hb.de;omega)]
  have key:∃m,(bif decide (f-A/1024+B/1024>0)then(bo2 .i64 (10000*a) (147*(f-A/1024+B/1024))).bind fun t=>(D7 t 500 2000).m.bind fun t=>some t else some 2000)=some m/\500<=m/\m<=2000:=by
   by_cases hp:f-A/1024+B/1024>0
   ·rw[fh6 hp,er1 (by omega) (by omega) (by omega)]
    simp only[fh5,ac0,bs6]
    exact⟨_,rfl,bn0 _ _ _ (by omega)⟩
   ·rw[fh7 hp];exact⟨_,rfl,by omega,by omega⟩
  obtain⟨m,e1,h1⟩:=key
  rw[e1]
  have hde:=hb.de
  rw[K4 _ _ (by simp only[cY9];omega)]
  simp only[fh3,ac0,cY1]
  rw[K4 _ _ (by simp only[cH0];omega)]
  simp only[ac0]
  have hx:∀x∈p.Path++[m],500<=x/\x<=2000:=fun x hx=>by
   rcases do2.1 hx with h2|h2
   ·exact h.path x h2
   ·rw[eM4]at h2;subst h2;exact h1
  have hl:(p.Path++[m]).length=p.Path.length+1:=by simp
  have hfm:0<=p.H9+(A/1024-B/1024)/\p.H9+(A/1024-B/1024)<=2147483648:=by omega
  by_cases hd:((p.Path++[m]).length:Int)>b.an6+1
  ·rw[fh6 hd]
   have:ay9 (p.Path++[m]) 1 ((p.Path++[m]).length:Int)=some (((p.Path++[m]).drop 1).take ((p.Path++[m]).length-1)):=by
    unfold ay9
    rw[if_pos (by omega)]
    rfl
   rw[this]
   simp only[fh5,ac0]
   refine⟨_,_,_,rfl,fun _=>⟨h.body,h.pos,h.spd,h.rest,h.pre,hfm,?_,fun x h2=>hx x (eV0 (ey2 h2))⟩⟩
   simp only[bs8,do0]
   omega
  ·rw[fh7 hd]
   simp only[fh3,ac0]
   exact⟨_,_,_,rfl,fun _=>⟨h.body,h.pos,h.spd,h.rest,h.pre,hfm,by simp only;omega,hx⟩⟩
 ·exact⟨_,_,_,rfl,fun h=>by cases h⟩
theorem ea2 (p:O9):∃x,(bK6 p).m=some x:=by
 simp only[bK6,C.of,M.run,L1.m]
 cases h:p.Path with
 |nil=>exact⟨_,rfl⟩
 |cons x l=>exact⟨x,rfl⟩
theorem eR5 (b:J4):∃p e,(cx5 b).m=some (p,e)/\(e=0->bY5 b p):=by
 simp only[cx5,C.of,M.run,dx4,ac0]
 cases h:aV7 b
 ·exact⟨_,_,rfl,fun h=>by cases h⟩
 ·have hb:=bt6 h
  exact⟨_,_,rfl,fun _=>⟨h,by simp,by simp,⟨by simp,by have:=hb.i;simp only;omega⟩,by simp,by simp,by have:=hb.de;simp only[cY9];omega,by simp⟩⟩
theorem ec5 (s:o8)(l:List Int)(hl:l.length<=1000000)(hv:0<s.u.u3.C9/\s.u.u3.C9<=262144)(hp:0<=s.u.u3.F8/\s.u.u3.F8<=3019898879)(ht:0<=s.t/\s.t<=1099511627776)
  (he:∀x∈l,65536*x<=s.u.u3.F8+10000*s.u.u3.C9) (h0:∀x∈l,0<=x):
  ∃r,(aJ6 s l).m=some r/\r.length=l.length/\(∀x∈r,x<=s.t+10000):=by
 simp only[aJ6,CG.of,M.run]
 obtain⟨r,h1,h2,h3⟩:=bk1 l (by omega) (fun i x (o:List Int)=>(aQ4 s i x o).run) (fun k o=>o.length=k/\∀x∈o,x<=s.t+10000) [] ⟨rfl,by simp⟩ (fun k x o hx hI=>by
  have hk:=(bD8.1 hx).1
  have hm:=dv3 hx
  have e1:=he x hm
  have e0:=h0 x hm
  simp only[aQ4,M.run,U1.m]
  rw[k6 (n:=65536*x) (by omega) (by omega),k6 (n:=s.u.u3.F8-65536*x) (by omega) (by omega),cv5 _ _ (by omega) (by omega) hv.1 (by omega)]
  simp only[ac0]
  rw[K4 _ _ (by simp only[cH0];omega)]
  have hq:-10000<=(s.u.u3.F8-65536*x)/s.u.u3.C9:=by
   rw[Int.le_ediv_iff_mul_le hv.1]
   omega
  have hq1:(s.u.u3.F8-65536*x)/s.u.u3.C9<=s.u.u3.F8:=by
   refine ff5 (Int.ediv_le_ediv hv.1 (show s.u.u3.F8-65536*x<=s.u.u3.F8 by omega)) (eM3 _ hp.1)
  refine⟨_,rfl,by simp only[aX7,cH0];omega,fun y hy=>?_⟩
  rcases do2.1 hy with h4|h4
  ·exact hI.2 y h4
  ·rw[eM4]at h4
   subst h4
   rw[k6 (by omega) (by omega)]
   omega)
 rw[h1]
 exact⟨r,rfl,h2,h3⟩
end Go.Proofs.YtfplhihoadkhlaaGreat.Ec
namespace Go.Pv
open Go
namespace Fr
theorem cq2 {α S R:Type}(f:Int->α->S->Option (Fl S R)):∀(l:List α) (i:Int) (s:S),(∀i,∀y∈l,∀s,∃x,f i y s=some x)->∃r,N3 f l i s=some r
 |[],i,s,_=>⟨_,rfl⟩
 |y::l,i,s,h=>by
  obtain⟨x,hx⟩:=h i y (bL5 ..) s
  simp only[N3,hx,ac0]
  cases x with
  |next s'=>exact cq2 f l (i+1) s' fun i y hy s=>h i y (bO9 _ hy) s
  |brk s'=>exact⟨_,rfl⟩
  |ret r=>exact⟨_,rfl⟩
theorem dr1 (l:List A5)(hl:l.length<=9223372036854775807):∃b,ao6 l=some b:=by
 unfold ao6
 rw[M4 _ hl]
 obtain⟨r,hr⟩:=cq2 aD7 l 0 [] (fun i y _ s=>by unfold aD7;cases cQ9 false s y.Code<;>exact⟨_,rfl⟩)
 rw[hr]
 cases r<;>exact⟨_,rfl⟩
structure cJ2 (c:A5):Prop where
 fail:1<=c.bq6/\c.bq6<=100
 pass:1<=c.Pass/\c.Pass<=100
 eO8:1<=c.cD4/\c.cD4<=100
 age:c.cD4<=c.Age/\c.Age<=255
 frame:0<=c.Frame/\c.Frame<=8
def cfB (c:A5):Bool:=((((((decide (c.Code>=1)&&decide (c.Code<=16777215))&&(decide (c.bq6>=1)&&decide (c.bq6<=100)))&&(decide (c.Pass>=1)&&decide (c.Pass<=100)))&&(decide (c.cD4>=1)&&decide (c.cD4<=100)))&&(decide (c.Age>=c.cD4)&&decide (c.Age<=255)))&&(decide (c.G5>=0)&&decide (c.G5<=255)))&&(decide (c.Frame>=0)&&decide (c.Frame<=8))
theorem eX1 (c:A5):af7 c=some (cfB c):=by
 unfold af7 F4 cfB
 simp only[ac0,cK7,fb9]
theorem cJ2.of {c:A5}(h:cfB c=true):cJ2 c:=by
 simp only[cfB,au2,fh8]at h
 obtain⟨⟨⟨⟨⟨⟨_,h1⟩,h2⟩,h3⟩,h4⟩,_⟩,h5⟩:=h
 exact⟨h1,h2,h3,h4,h5⟩
theorem ex6 (c:A5):ao7 c=some (!cfB c):=by
 unfold ao7;rw[eX1];rfl
theorem cA1 (l:List A5)(hl:l.length<=9223372036854775807):K1 l ao7=some (l.any fun c=>!cfB c):=by
 unfold K1 V4 Z3
 exact aj2 l hl ao7 (fun c=>!cfB c) (fun y _=>ex6 y)
def stN (b1 b2 b4 b8 b16:Bool):Int:=(((((bif b1 then 1 else 0)+(bif b2 then 2 else 0))+(bif b4 then 4 else 0))+(bif b8 then 8 else 0))+(bif b16 then 16 else 0))
theorem eu2 (a b c d e:Bool):0<=stN a b c d e/\stN a b c d e<=31:=by
 cases a<;>cases b<;>cases c<;>cases d<;>cases e<;>decide
theorem fa8 (a b c d e:Bool):(V8 .i64 (stN a b c d e) 1==1)=a:=by cases a<;>cases b<;>cases c<;>cases d<;>cases e<;>rfl
theorem fh1 (a b c d e:Bool):(V8 .i64 (stN a b c d e) 2==2)=b:=by cases a<;>cases b<;>cases c<;>cases d<;>cases e<;>rfl
theorem fb1 (a b c d e:Bool):(V8 .i64 (stN a b c d e) 4==4)=c:=by cases a<;>cases b<;>cases c<;>cases d<;>cases e<;>rfl
theorem fb0 (a b c d e:Bool):(V8 .i64 (stN a b c d e) 16==16)=e:=by cases a<;>cases b<;>cases c<;>cases d<;>cases e<;>rfl
theorem fa9 (a b c d e:Bool):(V8 .i64 (stN a b c d e) 10==10)=(b&&d):=by cases a<;>cases b<;>cases c<;>cases d<;>cases e<;>rfl
theorem fh2 (a b c d e:Bool):(V8 .i64 (stN a b c d e) 6 !=0)=(b||c):=by cases a<;>cases b<;>cases c<;>cases d<;>cases e<;>rfl
theorem fb3 (a b c d e:Bool):aP4 .i64 (stN a b c d e) 9=stN false b c false e:=by cases a<;>cases b<;>cases c<;>cases d<;>cases e<;>rfl
theorem fb2 (a b c d e:Bool):aP4 .i64 (stN a b c d e) 1=stN false b c d e:=by cases a<;>cases b<;>cases c<;>cases d<;>cases e<;>rfl
theorem eS4 (a b c d e:Bool):X1 .i64 (stN a b c d e) 11=stN true true c true e:=by cases a<;>cases b<;>cases c<;>cases d<;>cases e<;>rfl
theorem fb4 (a b c d e:Bool):X1 .i64 (stN a b c d e) 4=stN a b true d e:=by cases a<;>cases b<;>cases c<;>cases d<;>cases e<;>rfl
theorem eS5 (a b c d e:Bool):X1 .i64 (stN a b c d e) 16=stN a b c d true:=by cases a<;>cases b<;>cases c<;>cases d<;>cases e<;>rfl
theorem fb5 (a b c d e:Bool):X1 .i64 (stN a b c d e) 8=stN a b c true e:=by cases a<;>cases b<;>cases c<;>cases d<;>cases e<;>rfl
def cr7 (c:A5)(l:List Int):Prop:=(l.length:Int)=c.Frame/\∀x∈l,-1099511627776<=x/\x<=1099511627776
theorem ar0 (l:List Int)(hl:l.length<=9223372036854775807)(f:Int->Option Bool)(p:Int->Bool)(h:∀y∈l,f y=some (p y)):u7 l f=some (l.any p):=by
 unfold u7 W6 Z2
 exact aj2 l hl f p h
theorem dt2 {c:A5}{l:List Int}(hc:cJ2 c)(h:cr7 c l):at7 c l=some true:=by
 unfold at7
 have hl:l.length<=9223372036854775807:=by have:=h.1;have:=hc.frame;omega
 have he:((l.length:Int)==c.Frame)=true:=by simpa using h.1
 rw[he,ar0 l hl aA8 (fun x=>!(decide (x>= -1099511627776)&&decide (x<=1099511627776))) (fun y _=>rfl)]
 have:l.any (fun x=>!(decide (x>= -1099511627776)&&decide (x<=1099511627776)))=false:=by
  rw[dB8]
  intro x hx
  have:=h.2 x hx
  simp[this.1,this.2]
 rw[this]
 rfl
structure RtB (c:A5)(x:B1)(G8:Int)(b1 b2 b4 b8 b16:Bool):Prop where
 st:x.K7=stN b1 b2 b4 b8 b16
 count:-c.Pass<=x.F2/\x.F2<=c.bq6
 cu8:0<=x.I4/\x.I4<=2
 clean:0<=x.Clean/\x.Clean<=c.Age-1
 occ:0<=x.A2/\x.A2<=255
 last:0<=x.E0/\x.E0<=G8
 frame:x.Frame=[]\/cr7 c x.Frame
 k1:b1=true->b2=true/\b8=true/\x.E0=G8
 k4:b4=true↔x.I4=2
 k16:b16=true->b4=true/\c.cr8=true
 k2:b2=true->x.Clean=0
 known:(b2||b4)=true->1<=x.A2/\1<=x.I4/\1<=x.E0/\(x.Frame.length:Int)=c.Frame
 none:(b2||b4)=false->x.I4=0/\x.Clean=0/\x.A2=0/\x.E0=0/\x.Frame=[]
def Rt (c:A5)(x:B1)(G8:Int)(b8:Bool):Prop:=∃b1 b2 b4 b16,RtB c x G8 b1 b2 b4 b8 b16
theorem es5 {c:A5}{x:B1}{G8:Int}{b8:Bool}(hc:cJ2 c)(h:Rt c x G8 b8):aG0 c x G8=some true:=by
 obtain⟨b1,b2,b4,b16,h⟩:=h
 have hfr:(ab6 (bif (decide ((x.Frame.length:Int)>0))then(ab6 (at7 c x.Frame) fun v7=>some (!v7))else(some false)) fun b7=>some b7)=some false:=by
  rcases h.frame with h1|h1
  ·rw[h1];rfl
  ·rw[dt2 hc h1];cases decide ((x.Frame.length:Int)>0)<;>rfl
 have:=h.count;have:=h.cu8;have:=h.clean;have:=h.occ;have:=h.last;have:=hc.pass;have:=hc.age;have:=hc.eO8
 have s:=eu2 b1 b2 b4 b8 b16
 unfold aG0
 rw[hfr]
 simp only[F4,aa3,aL5,ac0,h.st,fa8,fa9,fb1,fb0,fh1,fh2]
 rw[k6 (n:=0-c.Pass) (by omega) (by omega),k6 (n:=c.Age-1) (by omega) (by omega)]
 have e1:(decide (stN b1 b2 b4 b8 b16>=0)&&decide (stN b1 b2 b4 b8 b16<=31))=true:=by simp[s.1,s.2]
 have e2:(decide (x.F2>=0-c.Pass)&&decide (x.F2<=c.bq6))=true:=by simp;omega
 have e3:(decide (x.I4>=0)&&decide (x.I4<=2))=true:=by simp;omega
 have e4:(decide (x.Clean>=0)&&decide (x.Clean<=c.Age-1))=true:=by simp;omega
 have e5:(decide (x.A2>=0)&&decide (x.A2<=255))=true:=by simp;omega
 have e6:(decide (x.E0>=0)&&decide (x.E0<=G8))=true:=by simp;omega
 simp only[e1,e2,e3,e4,e5,e6,aK4,fh3,ac0]
 have f1:(bif b1 then some ((!(b2&&b8))||(x.E0 !=G8))else some false)=some false:=by
  cases hb:b1
  ·rfl
  ·obtain⟨h1,h2,h3⟩:=h.k1 hb
   rw[h1,h2,h3];simp
 rw[f1]
 simp only[ac0,fh3]
 have f2:(b4==(x.I4==2))=true:=by
  have:=h.k4
  cases hb:b4
  ·have h3:¬x.I4=2:=fun e=>by have:=this.2 e;rw[hb]at this;cases this
   simpa using h3
  ·have h3:=this.1 hb
   simpa using h3
 rw[f2]
 simp only[aK4,fh3]
 have f3:(bif b16 then some ((!b4)||(!c.cr8))else some false)=some false:=by
  cases hb:b16
  ·rfl
  ·obtain⟨h1,h2⟩:=h.k16 hb
   rw[h1,h2];rfl
 rw[f3]
 simp only[ac0,fh3]
 have f4:(b2&&(x.Clean !=0))=false:=by
  cases hb:b2
  ·rfl
  ·have:=h.k2 hb;simp[this]
 rw[f4]
 simp only[fh3]
 cases hk:b2||b4
 ·obtain⟨h1,h2,h3,h4,h5⟩:=h.none hk
  simp[h1,h2,h3,h4,h5]
 ·obtain⟨h1,h2,h3,h4⟩:=h.known hk
  simp[h1,h2,h3,h4]
structure Inv (l:List A5)(f:B3)(G8:Int)(run:Bool)(t:Nat->Bool):Prop where
 aZ5:f.K6=l
 cyc:f.af1=G8
 run:f.S8=run
 len:f.L.length=l.length
 rt:∀i (h1:i<l.length) (h2:i<f.L.length),Rt (l[i]) (f.L[i]) G8 (t i)
structure Cfs (l:List A5):Prop where
 len:l.length<=64
 cf:∀c∈l,cfB c=true
 eX4:ao6 l=some true
theorem Cfs.any {l:List A5}(h:Cfs l):(l.any fun c=>!cfB c)=false:=by
 rw[dB8];intro c hc;simp[h.cf c hc]
theorem Cfs.ok {l:List A5}(h:Cfs l){i:Nat}(hi:i<l.length):cJ2 l[i]:=.of (h.cf _ (bf2 hi))
theorem cq8 {l:List A5}{f:B3}{G8:Int}{run:Bool}{t:Nat->Bool}(hc:Cfs l)(h:Inv l f G8 run t)(h0:0<=G8)(h1:G8<=1073741824)(h2:run=true->1<=G8):ab9 f=some true:=by
 have hlen:=hc.len
 have e0:decide ((f.K6.length:Int)>64)=false:=by rw[h.aZ5];simp;omega
 have e2:((f.L.length:Int) !=(f.K6.length:Int))=false:=by rw[h.aZ5,h.len];simp
 have e3:(decide (f.af1>=0)&&decide (f.af1<=1073741824))=true:=by rw[h.cyc];simp[h0,h1]
 have e4:(f.S8&&decide (f.af1<1))=false:=by
  rw[h.run,h.cyc]
  cases hr:run
  ·rfl
  ·have:=h2 hr;simp;omega
 unfold ab9
 rw[e0,cA1 _ (by rw[h.aZ5];omega)]
 have e1:(f.K6.any fun c=>!cfB c)=false:=by rw[h.aZ5];exact hc.any
 rw[e1]
 have e5:ao6 f.K6=some true:=by rw[h.aZ5];exact hc.eX4
 rw[e5,e2]
 simp only[F4,e3,fh3,ac0,aK4,eU3,e4]
 have hl:=h.len
 obtain⟨s,k1,_⟩:=ah4 (R:=Bool) f.L.length (by omega) (aD6 f) (fun _ _=>True) () trivial (fun j hj s _=>⟨(),by
  unfold aD6
  have hj2:j<f.K6.length:=by rw[h.aZ5];omega
  rw[E8 _ _ hj,E8 _ _ hj2]
  simp only[ac0]
  have:f.K6[j]=l[j]'(by omega):=by simp[h.aZ5]
  rw[this,h.cyc,es5 (hc.ok (by omega)) (h.rt j (by omega) hj)]
  rfl,trivial⟩)
 rw[k1]
 rfl
theorem cl6 {α:Type}(l:List α)(h:l.length<=1073741824):(ab6 (U8 ([]:List α) l) fun l=>some l)=some l:=by
 rw[K4 _ _ (by simpa using h)];rfl
theorem es9 {α:Type}(l:List α)(i:Nat)(h:i<l.length):l.set i l[i]=l:=by simp
theorem dV1 {f:B3}(h:f.L.length<=64)(hf:∀x∈f.L,x.Frame.length<=8):am4 f=some f:=by
 unfold am4 af3
 rw[cl6 _ (by omega)]
 simp only[ac0]
 obtain⟨s,k1,k2⟩:=ah4 (R:=Empty) f.L.length (by omega) ay7 (fun _ s=>s=f.L) f.L rfl (fun j hj s hs=>⟨f.L,by
  subst hs
  unfold ay7 P9
  rw[E8 _ _ hj]
  simp only[ac0]
  rw[cl6 _ (by have:=hf _ (bf2 hj);omega)]
  simp only[ac0]
  rw[aa6 _ _ _ hj]
  have:=es9 f.L j hj
  simp only[ac0]
  rw[show(⟨f.L[j].K7,f.L[j].F2,f.L[j].I4,f.L[j].Clean,f.L[j].A2,f.L[j].Frame,f.L[j].E0⟩:B1)=f.L[j]from rfl,this],rfl⟩)
 rw[k1,k2]
 rfl
theorem Rt.eO5 {c:A5}{x:B1}{G8:Int}{b8:Bool}(hc:cJ2 c)(h:Rt c x G8 b8):x.Frame.length<=8:=by
 obtain⟨b1,b2,b4,b16,h⟩:=h
 rcases h.frame with h1|h1
 ·simp[h1]
 ·have:=h1.1;have:=hc.frame;omega
theorem Inv.eO6 {l:List A5}{f:B3}{G8:Int}{run:Bool}{t:Nat->Bool}(hc:Cfs l)(h:Inv l f G8 run t):∀x∈f.L,x.Frame.length<=8:=by
 intro x hx
 obtain⟨i,hi,rfl⟩:=da7.1 hx
 have hl:=h.len
 exact(h.rt i (by omega) hi).eO5 (hc.ok (by omega))
theorem Inv.copied {l:List A5}{f:B3}{G8:Int}{run:Bool}{t:Nat->Bool}(hc:Cfs l)(h:Inv l f G8 run t):am4 f=some f:=
 dV1 (by have:=h.len;have:=hc.len;omega) (h.eO6 hc)
theorem dI6 {α R:Type}(l:List α)(hn:l.length<=9223372036854775807)(f:Int->List α->Option (Fl (List α) R))(g:Nat->α->α)
  (h:∀(j:Nat) (s:List α) (hj:j<s.length),s.length=l.length->s[j]? =l[j]? ->f (j:Int) s=some (.next (s.set j (g j s[j])))):
  N1 (l.length:Int) f l=some (.inl (l.mapIdx g)):=by
 obtain⟨s,k1,k2⟩:=ah4 (R:=R) l.length hn f (fun j s=>s.length=l.length/\(∀i,i<j->s[i]? =(l[i]?).map (g i))/\∀i,j<=i->s[i]? =l[i]?) l ⟨rfl,fun i h=>by omega,fun i _=>rfl⟩ (fun j hj s ⟨h1,h2,h3⟩=>by
  have hj':j<s.length:=by omega
  refine⟨_,h j s hj' h1 (h3 j (cB6 _)),by simp[h1],fun i hi=>?_,fun i hi=>?_⟩
  ·rw[List.getElem?_set]
   by_cases e:j=i
   ·subst e
    rw[if_pos rfl,if_pos hj']
    have:=h3 j (cB6 _)
    rw[<-this,aJ9 hj'];rfl
   ·rw[if_neg e];exact h2 i (by omega)
  ·rw[List.getElem?_set,if_neg (by omega)];exact h3 i (by omega))
 rw[k1]
 congr 2
 apply List.ext_getElem?
 intro i
 rw[List.getElem?_mapIdx]
 by_cases hi:i<l.length
 ·exact k2.2.1 i hi
 ·rw[k2.2.2 i (by omega),List.getElem?_eq_none (by omega)];rfl
def eW5 (x:B1):B1:=⟨aP4 .i64 x.K7 9,0,x.I4,x.Clean,x.A2,x.Frame,x.E0⟩
theorem eh7 {c:A5}{x:B1}{G8:Int}{b8:Bool}(hc:cJ2 c)(h:Rt c x G8 b8):Rt c (eW5 x) (G8+1) false:=by
 obtain⟨b1,b2,b4,b16,h⟩:=h
 have:=hc.pass;have:=hc.fail;have:=h.last
 refine⟨false,b2,b4,b16,?_,?_,h.cu8,h.clean,h.occ,?_,h.frame,?_,h.k4,h.k16,h.k2,h.known,h.none⟩
 ·show aP4 .i64 x.K7 9=_
  rw[h.st,fb3]
 ·show -c.Pass<=(0:Int)/\(0:Int)<=c.bq6
  omega
 ·show 0<=x.E0/\x.E0<=G8+1
  omega
 ·intro h;cases h
theorem eh6 {l:List A5}{f:B3}{G8:Int}{t:Nat->Bool}(hc:Cfs l)(h:Inv l f G8 false t)(h0:0<=G8)(h1:G8<1073741824):
  ∃f',aL4 f=some (f',0)/\Inv l f' (G8+1) true (fun _=>false):=by
 have hl:=h.len;have hl2:=hc.len
 unfold aL4
 rw[cq8 hc h h0 (by omega) (fun e=>by cases e)]
 have e1:(f.af1==1073741824)=false:=by rw[h.cyc];simp;omega
 rw[h.run,e1,h.copied hc]
 simp only[ac0,aK4,fh3]
 rw[dI6 f.L (by omega) aD5 (fun _ x=>eW5 x) (fun j s hj _ _=>by
  unfold aD5
  rw[E8 _ _ hj]
  simp only[ac0]
  rw[aa6 _ _ _ hj]
  simp only[ac0]
  rw[aa6 _ _ _ (by simpa using hj)]
  simp only[ac0,ey6]
  rfl)]
 refine⟨_,rfl,h.aZ5,?_,rfl,by simp[hl],fun i a b=>?_⟩
 ·show o6 (f.af1+1)=_
  rw[h.cyc,k6 (by omega) (by omega)]
 ·simp only[List.getElem_mapIdx]
  exact eh7 (hc.ok a) (h.rt i a (by omega))
theorem dl3 {l:List A5}(hl:l.length<=9223372036854775807):(∃e,aP5 l=some (⟨[],[],0,false⟩,e)/\e≠0)\/(Cfs l/\∃f,aP5 l=some (f,0)/\Inv l f 0 false (fun _=>false)):=by
 unfold aP5
 cases h64:decide ((l.length:Int)>64)
 ·have h64:l.length<=64:=by simp at h64;omega
  rw[cA1 l (by omega)]
  cases hany:l.any fun c=>!cfB c
  ·obtain⟨b,hb⟩:=dr1 l (by omega)
   rw[hb]
   cases b
   ·left;exact⟨8,rfl,by decide⟩
   ·right
    have hcf:∀c∈l,cfB c=true:=fun c hc=>by
     rw[dB8]at hany
     have:=hany c hc
     simpa using this
    have hc:Cfs l:=⟨h64,hcf,hb⟩
    refine⟨hc,?_⟩
    unfold ac1
    rw[cl6 l (by omega),bW8 _ (by omega)]
    refine⟨_,rfl,rfl,rfl,rfl,by simp,fun i a b=>?_⟩
    have:=hc.ok a
    simp only[eZ2]
    refine⟨false,false,false,false,rfl,?_,⟨by decide,by decide⟩,?_,⟨by decide,by decide⟩,⟨by decide,by decide⟩,.inl rfl,fun h=>(by cases h),⟨fun h=>(by cases h),fun h=>(by cases h)⟩,fun h=>(by cases h),fun h=>(by cases h),fun h=>(by cases h),fun _=>⟨rfl,rfl,rfl,rfl,rfl⟩⟩
    ·have h1:=this.pass;have h2:=this.fail
     show -l[i].Pass<=(0:Int)/\(0:Int)<=l[i].bq6
     omega
    ·have h1:=this.eO8;have h2:=this.age
     show(0:Int)<=0/\(0:Int)<=l[i].Age-1
     omega
  ·left;exact⟨1,rfl,by decide⟩
 ·left;exact⟨5,rfl,by decide⟩
def ds9 (c:A5)(G8:Int)(fr:List Int)(x:B1):B1:=
 let y:B1:=bif !(V8 .i64 x.K7 1==1)then⟨x.K7,x.F2,x.I4,x.Clean,J1 255 (o6 (x.A2+1)),bif !(V8 .i64 x.K7 4==4)then fr else x.Frame,x.E0⟩else x
 bif y.E0==G8 then⟨X1 .i64 y.K7 11,y.F2,y.I4,0,y.A2,y.Frame,y.E0⟩else
 bif decide ((J1 2 (o6 (y.I4+1)))<2)then⟨X1 .i64 y.K7 11,y.F2,J1 2 (o6 (y.I4+1)),0,y.A2,y.Frame,G8⟩else
 bif c.cr8 then⟨X1 .i64 (X1 .i64 (X1 .i64 y.K7 11) 4) 16,y.F2,J1 2 (o6 (y.I4+1)),0,y.A2,y.Frame,G8⟩
 else⟨X1 .i64 (X1 .i64 y.K7 11) 4,y.F2,J1 2 (o6 (y.I4+1)),0,y.A2,y.Frame,G8⟩
theorem ek9 (s:List B1)(j:Nat)(hj:j<s.length)(c:A5)(G8:Int)(fr:List Int)(hfr:fr.length<=1073741824):aF9 s (j:Int) c G8 fr=some (s.set j (ds9 c G8 fr s[j])):=by
 have key:∀(s:List B1) (hj:j<s.length),(ab6 (F0 s (j:Int)) fun x3=>ab6 (ak9 s (j:Int) (⟨X1 .i64 x3.K7 11,x3.F2,x3.I4,x3.Clean,x3.A2,x3.Frame,x3.E0⟩:B1)) fun l4=>ab6 (ak9 l4 (j:Int) (⟨X1 .i64 x3.K7 11,x3.F2,x3.I4,0,x3.A2,x3.Frame,x3.E0⟩:B1)) fun l5=>bif (x3.E0==G8)then(some l5)else(ab6 (ak9 l5 (j:Int) (⟨X1 .i64 x3.K7 11,x3.F2,x3.I4,0,x3.A2,x3.Frame,G8⟩:B1)) fun l6=>ab6 (ak9 l6 (j:Int) (⟨X1 .i64 x3.K7 11,x3.F2,J1 2 (o6 (x3.I4+1)),0,x3.A2,x3.Frame,G8⟩:B1)) fun l7=>bif (decide ((J1 2 (o6 (x3.I4+1)))<2))then(some l7)else(ab6 (ak9 l7 (j:Int) (⟨X1 .i64 (X1 .i64 x3.K7 11) 4,x3.F2,J1 2 (o6 (x3.I4+1)),0,x3.A2,x3.Frame,G8⟩:B1)) fun l8=>bif c.cr8 then(ab6 (ak9 l8 (j:Int) (⟨X1 .i64 (X1 .i64 (X1 .i64 x3.K7 11) 4) 16,x3.F2,J1 2 (o6 (x3.I4+1)),0,x3.A2,x3.Frame,G8⟩:B1)) fun l9=>some l9)else(some l8))))=
   some (s.set j (bif s[j].E0==G8 then⟨X1 .i64 s[j].K7 11,s[j].F2,s[j].I4,0,s[j].A2,s[j].Frame,s[j].E0⟩else
 bif decide ((J1 2 (o6 (s[j].I4+1)))<2)then⟨X1 .i64 s[j].K7 11,s[j].F2,J1 2 (o6 (s[j].I4+1)),0,s[j].A2,s[j].Frame,G8⟩else
 bif c.cr8 then⟨X1 .i64 (X1 .i64 (X1 .i64 s[j].K7 11) 4) 16,s[j].F2,J1 2 (o6 (s[j].I4+1)),0,s[j].A2,s[j].Frame,G8⟩
 else⟨X1 .i64 (X1 .i64 s[j].K7 11) 4,s[j].F2,J1 2 (o6 (s[j].I4+1)),0,s[j].A2,s[j].Frame,G8⟩)):=by
  intro s hj
  rw[E8 _ _ hj]
  simp only[ac0]
  rw[aa6 _ _ _ hj]
  simp only[ac0]
  rw[aa6 _ _ _ (by simpa using hj)]
  simp only[ac0,ey6]
  cases(s[j].E0==G8)
  ·simp only[fh3]
   rw[aa6 _ _ _ (by simpa using hj)]
   simp only[ac0,ey6]
   rw[aa6 _ _ _ (by simpa using hj)]
   simp only[ac0,ey6]
   cases decide ((J1 2 (o6 (s[j].I4+1)))<2)
   ·simp only[fh3]
    rw[aa6 _ _ _ (by simpa using hj)]
    simp only[ac0,ey6]
    cases c.cr8
    ·rfl
    ·simp only[fh5]
     rw[aa6 _ _ _ (by simpa using hj)]
     simp only[ac0,ey6]
   ·rfl
  ·rfl
 unfold aF9
 rw[E8 _ _ hj]
 simp only[ac0,aa3]
 unfold ds9
 cases h1:(V8 .i64 s[j].K7 1==1)
 ·simp only[cI8,fh5]
  rw[aa6 _ _ _ hj]
  simp only[ac0]
  cases h4:(V8 .i64 s[j].K7 4==4)
  ·simp only[cI8,fh5,P9]
   rw[cl6 fr hfr]
   simp only[ac0]
   rw[aa6 _ _ _ (by simpa using hj)]
   simp only[ac0,ey6]
   rw[key _ (by simpa using hj)]
   simp only[ex9,ey6]
  ·simp only[aK4,fh3,ac0]
   rw[key _ (by simpa using hj)]
   simp only[ex9,ey6]
 ·simp only[aK4,fh3,ac0]
  rw[key _ hj]
theorem eB3 {c:A5}{x:B1}{G8:Int}{b8:Bool}{fr:List Int}(hc:cJ2 c)(h:Rt c x G8 b8)(hfr:cr7 c fr)(h1:1<=G8):Rt c (ds9 c G8 fr x) G8 true:=by
 obtain⟨b1,b2,b4,b16,h⟩:=h
 have p3:=h.last;have p8:=h.occ;have p9:=h.cu8;have p10:=hc.age;have p11:=hc.eO8
 have clean:0<=(0:Int)/\(0:Int)<=c.Age-1:=by omega
 have n1:(0:Int)<=1/\(1:Int)<=2:=by decide
 have n2:(0:Int)<=2/\(2:Int)<=2:=by decide
 have m1:(1:Int)<=1:=by decide
 have m2:(1:Int)<=2:=by decide
 obtain⟨y,hy,hst,hcn,hcy,cG0,dt8,hfrm,hfl⟩:∃y:B1,y=(bif !(V8 .i64 x.K7 1==1)then(⟨x.K7,x.F2,x.I4,x.Clean,J1 255 (o6 (x.A2+1)),bif !(V8 .i64 x.K7 4==4)then fr else x.Frame,x.E0⟩:B1)else x)/\
   y.K7=stN b1 b2 b4 b8 b16/\y.F2=x.F2/\y.I4=x.I4/\(1<=y.A2/\y.A2<=255)/\y.E0=x.E0/\(y.Frame=[]\/cr7 c y.Frame)/\(y.Frame.length:Int)=c.Frame:=by
  refine⟨_,rfl,?_⟩
  rw[h.st,fa8,fb1]
  cases hb1:b1
  ·subst hb1
   simp only[cI8,fh5]
   refine⟨trivial,trivial,trivial,?_,trivial,?_⟩
   ·rw[k6 (n:=x.A2+1) (by omega) (by omega)]
    unfold J1;split<;>omega
   ·cases hb4:b4
    ·simp only[cI8,fh5];exact⟨.inr hfr,hfr.1⟩
    ·subst hb4
     simp only[aK4,fh3]
     exact⟨h.frame,(h.known (by simp)).2.2.2⟩
  ·subst hb1
   have k:=h.k1 rfl
   have hk:=h.known (by rw[k.1];rfl)
   simp only[aK4,fh3]
   exact⟨h.st,trivial,trivial,⟨hk.1,h.occ.2⟩,trivial,h.frame,hk.2.2.2⟩
 unfold ds9
 rw[<-hy]
 simp only[hst,eS4,fb4,eS5]
 cases hL:(y.E0==G8)
 ·have hL:¬x.E0=G8:=by rw[dt8]at hL;simpa using hL
  have hb1:b1=false:=by
   cases hb:b1
   ·rfl
   ·exact absurd (h.k1 hb).2.2 hL
  simp only[fh3]
  rw[hcy,k6 (n:=x.I4+1) (by omega) (by omega)]
  have hm:J1 2 (x.I4+1)=if x.I4=0 then 1 else 2:=by unfold J1;split<;>split<;>omega
  rw[hm]
  by_cases hz:x.I4=0
  ·have hb4:b4=false:=by
    cases hb:b4
    ·rfl
    ·have:=h.k4.1 hb;omega
   subst hb4
   rw[if_pos hz]
   simp only[show decide ((1:Int)<2)=true from rfl,fh5]
   exact⟨true,true,false,b16,rfl,by rw[show(⟨_,y.F2,_,_,_,_,_⟩:B1).F2=x.F2 from hcn];exact h.count,n1,clean,⟨by have:=cG0.1;show 0<=y.A2;omega,cG0.2⟩,⟨by show 0<=G8;omega,dF5 _⟩,hfrm,fun _=>⟨rfl,rfl,rfl⟩,⟨fun h=>(by cases h),fun h=>(by cases h)⟩,h.k16,fun _=>rfl,fun _=>⟨cG0.1,m1,h1,hfl⟩,fun h=>(by cases h)⟩
  ·rw[if_neg hz]
   simp only[show decide ((2:Int)<2)=false from rfl,fh3]
   cases hlp:c.cr8
   ·simp only[fh3]
    exact⟨true,true,true,b16,rfl,by rw[show(⟨_,y.F2,_,_,_,_,_⟩:B1).F2=x.F2 from hcn];exact h.count,n2,clean,⟨by have:=cG0.1;show 0<=y.A2;omega,cG0.2⟩,⟨by show 0<=G8;omega,dF5 _⟩,hfrm,fun _=>⟨rfl,rfl,rfl⟩,⟨fun _=>rfl,fun _=>rfl⟩,fun hb=>⟨rfl,(h.k16 hb).2⟩,fun _=>rfl,fun _=>⟨cG0.1,m2,h1,hfl⟩,fun h=>(by cases h)⟩
   ·simp only[fh5]
    exact⟨true,true,true,true,rfl,by rw[show(⟨_,y.F2,_,_,_,_,_⟩:B1).F2=x.F2 from hcn];exact h.count,n2,clean,⟨by have:=cG0.1;show 0<=y.A2;omega,cG0.2⟩,⟨by show 0<=G8;omega,dF5 _⟩,hfrm,fun _=>⟨rfl,rfl,rfl⟩,⟨fun _=>rfl,fun _=>rfl⟩,fun _=>⟨rfl,hlp⟩,fun _=>rfl,fun _=>⟨cG0.1,m2,h1,hfl⟩,fun h=>(by cases h)⟩
 ·have hL:x.E0=G8:=by rw[dt8]at hL;simpa using hL
  simp only[fh5]
  have hkn:(b2||b4)=true:=by
   cases hk:b2||b4
   ·have:=(h.none hk).2.2.2.1;omega
   ·rfl
  have hk:=h.known hkn
  exact⟨true,true,b4,b16,rfl,by rw[show(⟨_,y.F2,_,_,_,_,_⟩:B1).F2=x.F2 from hcn];exact h.count,by rw[show(⟨_,_,y.I4,_,_,_,_⟩:B1).I4=x.I4 from hcy];exact h.cu8,clean,⟨by have:=cG0.1;show 0<=y.A2;omega,cG0.2⟩,by rw[show(⟨_,_,_,_,_,_,y.E0⟩:B1).E0=x.E0 from dt8];exact h.last,hfrm,fun _=>⟨rfl,rfl,dt8.trans hL⟩,
   by rw[show(⟨_,_,y.I4,_,_,_,_⟩:B1).I4=x.I4 from hcy];exact h.k4,h.k16,fun _=>rfl,fun _=>⟨cG0.1,by rw[show(⟨_,_,y.I4,_,_,_,_⟩:B1).I4=x.I4 from hcy];exact hk.2.1,by rw[show(⟨_,_,_,_,_,_,y.E0⟩:B1).E0=x.E0 from dt8];omega,hfl⟩,fun h=>(by cases h)⟩
def di8 (c:A5)(bad:Bool)(x:B1):B1:=
 ⟨x.K7,bif bad then J1 c.bq6 (o6 ((K2 x.F2 0)+1))else K2 (o6 (0-c.Pass)) (o6 ((J1 x.F2 0)-1)),x.I4,x.Clean,x.A2,x.Frame,x.E0⟩
def eF5 (c:A5)(G8:Int)(bad:Bool)(fr:List Int)(x:B1):B1:=
 let y:=di8 c bad x
 bif y.F2==c.bq6 then ds9 c G8 fr y else
 bif y.F2==o6 (0-c.Pass)then⟨aP4 .i64 (X1 .i64 y.K7 8) 1,y.F2,y.I4,y.Clean,y.A2,y.Frame,y.E0⟩else y
theorem eN0 {c:A5}{x:B1}{G8:Int}{b8:Bool}(bad:Bool)(hc:cJ2 c)(h:Rt c x G8 b8):Rt c (di8 c bad x) G8 b8:=by
 obtain⟨b1,b2,b4,b16,h⟩:=h
 have p1:=h.count;have p2:=hc.pass;have p3:=hc.fail
 refine⟨b1,b2,b4,b16,h.st,?_,h.cu8,h.clean,h.occ,h.last,h.frame,h.k1,h.k4,h.k16,h.k2,h.known,h.none⟩
 show -c.Pass<=(bif bad then _ else _)/\(bif bad then _ else _)<=c.bq6
 have a1:K2 x.F2 0=if 0>x.F2 then 0 else x.F2:=rfl
 have a2:J1 x.F2 0=if 0<x.F2 then 0 else x.F2:=rfl
 cases bad
 ·simp only[fh3]
  rw[a2,k6 (n:=0-c.Pass) (by omega) (by omega)]
  split
  ·rw[k6 (by omega) (by omega)];unfold K2;split<;>omega
  ·rw[k6 (by omega) (by omega)];unfold K2;split<;>omega
 ·simp only[fh5]
  rw[a1]
  split
  ·rw[k6 (by omega) (by omega)];unfold J1;split<;>omega
  ·rw[k6 (by omega) (by omega)];unfold J1;split<;>omega
theorem eR9 {c:A5}{x:B1}{G8:Int}{b8:Bool}{fr:List Int}(bad:Bool)(hc:cJ2 c)(h:Rt c x G8 b8)(hfr:cr7 c fr)(h1:1<=G8):∃b,Rt c (eF5 c G8 bad fr x) G8 b/\(b8=true->b=true):=by
 have h':=eN0 bad hc h
 unfold eF5
 simp only
 cases(di8 c bad x).F2==c.bq6
 ·simp only[fh3]
  cases(di8 c bad x).F2==o6 (0-c.Pass)
  ·exact⟨b8,h',id⟩
  ·simp only[fh5]
   refine⟨true,?_,fun _=>rfl⟩
   obtain⟨b1,b2,b4,b16,h'⟩:=h'
   exact⟨false,b2,b4,b16,by show aP4 .i64 (X1 .i64 (di8 c bad x).K7 8) 1=_;rw[h'.st,fb5,fb2],h'.count,h'.cu8,h'.clean,h'.occ,h'.last,h'.frame,fun h=>(by cases h),h'.k4,h'.k16,h'.k2,h'.known,h'.none⟩
 ·exact⟨true,eB3 hc h' hfr h1,fun _=>rfl⟩
theorem eb0 {l:List A5}{f:B3}{G8:Int}{t:Nat->Bool}{q:Nat}{bad:Bool}{fr:List Int}(hc:Cfs l)(h:Inv l f G8 true t)(h0:1<=G8)(h1:G8<=1073741824)(hq:q<l.length)(hfr:cr7 (l[q]) fr):
  ∃f' b,az7 f (q:Int) bad fr=some (f',0)/\Inv l f' G8 true (fun i=>if i=q then b else t i)/\(t q=true->b=true):=by
 have hl:=h.len;have hl2:=hc.len
 have hq2:q<f.L.length:=by omega
 have hq3:q<f.K6.length:=by rw[h.aZ5];omega
 have e1:f.K6[q]=l[q]:=by simp[h.aZ5]
 have hfl:fr.length<=8:=by have:=hfr.1;have:=(hc.ok hq).frame;omega
 have g1:decide ((q:Int)<0)=false:=by simp
 have g2:decide ((q:Int)>=(f.L.length:Int))=false:=by simp;omega
 obtain⟨b,hb,hm⟩:=eR9 (fr:=fr) bad (hc.ok hq) (h.rt q hq hq2) hfr h0
 have cv9:∀y:B1,q<(f.L.set q y).length:=fun y=>by simpa using hq2
 have main:az7 f (q:Int) bad fr=some (⟨f.K6,f.L.set q (eF5 (l[q]) G8 bad fr f.L[q]),f.af1,f.S8⟩,0):=by
  unfold az7
  rw[cq8 hc h (by omega) h1 (fun _=>h0),g1,g2,h.run,E8 _ _ hq3,e1]
  simp only[ac0,aK4,eU3,fh3]
  rw[dt2 (hc.ok hq) hfr,h.copied hc]
  simp only[ac0,aK4,fh3]
  rw[E8 _ _ hq2,E8 _ _ hq3,e1]
  simp only[ac0]
  rw[aa6 _ _ _ hq2,aa6 _ _ _ hq2]
  simp only[ac0]
  have e2:(bif bad then some (f.L.set q ⟨f.L[q].K7,J1 l[q].bq6 (o6 (K2 f.L[q].F2 0+1)),f.L[q].I4,f.L[q].Clean,f.L[q].A2,f.L[q].Frame,f.L[q].E0⟩)else some (f.L.set q ⟨f.L[q].K7,K2 (o6 (0-l[q].Pass)) (o6 (J1 f.L[q].F2 0-1)),f.L[q].I4,f.L[q].Clean,f.L[q].A2,f.L[q].Frame,f.L[q].E0⟩))=some (f.L.set q (di8 (l[q]) bad f.L[q])):=by
   unfold di8;cases bad<;>rfl
  rw[e2]
  simp only[ac0]
  rw[E8 _ _ (cv9 _)]
  simp only[ac0,ex9]
  unfold eF5
  simp only
  cases(di8 (l[q]) bad f.L[q]).F2==(l[q]).bq6
  ·simp only[fh3]
   cases(di8 (l[q]) bad f.L[q]).F2==o6 (0-(l[q]).Pass)
   ·simp only[fh3];rw[h.run]
   ·simp only[fh5]
    rw[aa6 _ _ _ (cv9 _)]
    simp only[ac0,ey6]
    rw[aa6 _ _ _ (cv9 _)]
    simp only[ac0,ey6]
    rw[h.run]
  ·simp only[fh5]
   rw[ek9 _ _ (cv9 _) _ _ _ (by omega)]
   simp only[ac0,ex9,ey6]
   rw[h.run,h.cyc]
 refine⟨_,b,main,⟨h.aZ5,h.cyc,h.run,by simp[hl],fun i a c=>?_⟩,hm⟩
 simp only[eX2]
 by_cases hi:q=i
 ·subst hi;simp only[if_true];exact hb
 ·rw[if_neg hi,if_neg (fun e=>hi e.symm)];exact h.rt i a (by omega)
end Fr
end Go.Pv
namespace Go.Proofs.YtfplhihoadkhlaaGreat.Ec
open Go Go.Pv Go.Pv.Ec Go.Proofs
theorem cU9 {α S R:Type}(f:Int->α->S->Option (Fl S R))(I:Nat->S->Prop)(J:R->Prop):∀(r:List α) (k:Nat) (s:S),I k s->(∀j x s,r[j]? =some x->I (k+j) s->(∃s',f ((k+j:Nat):Int) x s=some (.next s')/\I (k+j+1) s')\/∃u,f ((k+j:Nat):Int) x s=some (.ret u)/\J u)->
  (∃s',N3 f r (k:Int) s=some (.inl s')/\I (k+r.length) s')\/∃u,N3 f r (k:Int) s=some (.inr u)/\J u
 |[],k,s,h,_=>.inl ⟨s,by simp[N3],h⟩
 |x::r,k,s,h,g=>by
  rcases g 0 x s rfl h with⟨s',h1,h2⟩|⟨u,h1,h2⟩
  ·have:=cU9 f I J r (k+1) s' h2 (fun j y u hy hu=>by
    have:=g (j+1) y u (by simpa using hy) (by rw[show k+(j+1)=k+1+j by omega];exact hu)
    rw[show k+(j+1)=k+1+j by omega]at this
    exact this)
   have e:N3 f (x::r) (k:Int) s=N3 f r ((k+1:Nat):Int) s':=by
    simp only[N3]
    rw[show((k:Nat):Int)=((k+0:Nat):Int) by rfl,h1]
    rfl
   rw[e,bu6,show k+(r.length+1)=k+1+r.length by omega]
   exact this
  ·refine .inr ⟨u,?_,h2⟩
   simp only[N3]
   rw[show((k:Nat):Int)=((k+0:Nat):Int) by rfl,h1]
   rfl
theorem bL1 {α S R:Type}(l:List α)(hn:l.length<=9223372036854775807)(f:Int->α->S->Option (Fl S R))(I:Nat->S->Prop)(J:R->Prop)(s:S)(h0:I 0 s)
  (h:∀k x s,l[k]? =some x->I k s->(∃s',f (k:Int) x s=some (.next s')/\I (k+1) s')\/∃u,f (k:Int) x s=some (.ret u)/\J u):
  (∃s',M0 (fun p:Int×S=>bif decide (p.1<(l.length:Int))then((F0 l p.1).bind fun x=>(f p.1 x p.2).bind (aE2 p.1))else some (.inr (.inl p.2))) (0,s)=some (.inl s')/\I l.length s')\/
  ∃u,M0 (fun p:Int×S=>bif decide (p.1<(l.length:Int))then((F0 l p.1).bind fun x=>(f p.1 x p.2).bind (aE2 p.1))else some (.inr (.inl p.2))) (0,s)=some (.inr u)/\J u:=by
 have e:=M4 l hn f s
 rcases cU9 f I J l 0 s h0 (fun j x s hx hs=>by rw[cY7]at hs|-;exact h j x s hx hs)with⟨s',h1,h2⟩|⟨u,h1,h2⟩
 ·exact .inl ⟨s',e.trans h1,by rw[cY7]at h2;exact h2⟩
 ·exact .inr ⟨u,e.trans h1,h2⟩
structure SOk (s:o8):Prop where
 few:s.k.length<=100
 val:∀b∈s.k,-1000000<=b.Value/\b.Value<=1000000
 ped:0<=s.d.C5/\s.d.C5<=1000
 pre:50<=s.u.u3.G0/\s.u.u3.G0<=1013
 t:0<=s.t/\s.t<=1099511627776
 spd:0<=s.u0/\s.u0<=12000
theorem ce0 {s:o8}(hs:SOk s)(n:Int):∃v o,(aF0 s n).m=some (v,o)/\ -1000000<=v/\v<=1000000:=by
 have hk:=hs.few
 simp only[aF0,C.of,M.run]
 rcases bL1 s.k (by omega) (fun i x (u:Unit)=>(ba8 s n i x u).run) (fun _ _=>True) (fun r=>-1000000<=r.1/\r.1<=1000000) () trivial (fun k x u hx _=>by
  simp only[ba8,M.run]
  cases x.ba5==n
  ·exact .inl ⟨(),rfl,trivial⟩
  ·cases decide (x.cb3<=s.t)
   ·exact .inl ⟨(),rfl,trivial⟩
   ·cases decide (s.t<x.To)
    ·exact .inl ⟨(),rfl,trivial⟩
    ·exact .inr ⟨_,rfl,hs.val x (dv3 hx)⟩)with⟨u,h1,_⟩|⟨u,h1,h2⟩
 ·rw[h1];exact⟨_,_,rfl,by omega,by omega⟩
 ·rw[h1];exact⟨u.1,u.2,rfl,h2⟩
theorem ao9 {s:o8}(hs:SOk s)(n:Int):∃v,(Q2 s n).m=some v/\ -1000000<=v/\v<=1000000:=by
 obtain⟨v,o,h,hv⟩:=ce0 hs n
 obtain⟨x,hx⟩:=ea2 s.u.u3
 have h1:=hs.ped;have h2:=hs.pre;have h3:=hs.t
 simp only[Q2,C.of,M.run,h,hx,ac0]
 cases o
 ·simp only[fh3]
  cases n==0<;>simp only[fh3,fh5]
  ·cases n==1<;>simp only[fh3,fh5]
   ·cases n==2<;>simp only[fh3,fh5]
    ·cases n==3<;>simp only[fh3,fh5]
     ·cases n==4<;>simp only[fh3,fh5]
      ·cases decide (x<1000)
       ·exact⟨_,rfl,by omega,by omega⟩
       ·exact⟨_,rfl,by omega,by omega⟩
      ·refine⟨_,rfl,?_⟩
       rw[cW1 h3.1,k6 (n:=s.t/1000000) (by omega) (by omega),k6 (by omega) (by omega)]
       unfold J1
       split<;>omega
     ·exact⟨_,rfl,by omega,by omega⟩
    ·exact⟨_,rfl,by omega,by omega⟩
   ·refine⟨_,rfl,?_⟩
    rw[cW1 h1.1,k6 (by omega) (by omega)]
    omega
  ·exact⟨_,rfl,by omega,by omega⟩
 ·exact⟨_,rfl,hv⟩
theorem dw8 (x a b:Int):(bn4 x a b).m=some (decide (x<a)||decide (x>b)):=rfl
theorem ez5 {s:o8}(hs:SOk s):∃b,(bJ1 s).m=some b:=by
 obtain⟨v0,h0,_⟩:=ao9 hs 0
 obtain⟨v1,h1,_⟩:=ao9 hs 1
 obtain⟨v2,h2,_⟩:=ao9 hs 2
 obtain⟨v3,h3,_⟩:=ao9 hs 3
 obtain⟨v4,h4,_⟩:=ao9 hs 4
 obtain⟨v5,h5,_⟩:=ao9 hs 5
 simp only[bJ1,C.of,M.run,h0,h1,h2,h3,h4,h5,dw8,bs6,ac0]
 exact⟨_,rfl⟩
theorem el6 {c:A5}(hc:Fr.cJ2 c){a b:Int}(ha:-1000000<=a/\a<=1000000)(hb:-1000000<=b/\b<=1000000):∃l,aY2 c.Frame (0:Int)=some l/\Fr.cr7 c (aJ5 l [a,b]):=by
 have h:=hc.frame
 refine⟨cD1 c.Frame.toNat 0,by unfold aY2;rw[if_pos (by omega)],?_,fun x hx=>?_⟩
 ·unfold aJ5
  simp only[aX7,bs8,do0,eH5,bu6,cY9]
  omega
 ·unfold aJ5 at hx
  rcases do2.1 hx with h1|h1
  ·have:=ey2 h1
   simp only[cr6,eP5,or_false]at this
   rcases this with rfl|rfl<;>omega
  ·have:=eW3 (eV0 h1)
   omega
theorem eY8 (o:B3):(bM7 o).m=some o:=rfl
theorem eP7 (n:B3)(e:Int)(o:B3):(be8 n e o).m=some (bif e !=0 then o else n):=by
 simp only[be8,C.of,M.run]
 cases e !=0<;>rfl
theorem ec4 {s:o8}(hs:SOk s)(v:Bool×Bool×Bool×Bool×Bool×Bool×Bool){l:List A5}{cyc:Int}{t:Nat->Bool}(hc:Fr.Cfs l)(h7:7<=l.length)(h:Fr.Inv l s.u.C7 cyc true t)(h0:1<=cyc)(h1:cyc<=1073741824):
  ∃i f t',M0 (fun x=>(aU0 s v x).run) (0,s.u.C7)=some (.inl (i,f))/\Fr.Inv l f cyc true t':=by
 have key:=aN0 (mb:=fun x=>(aU0 s v x).run) (fun x=>∃k:Nat,x.1=(k:Int)/\k<=7/\∃t,Fr.Inv l x.2 cyc true t) (fun x=>7-x.1.toNat) (fun b=>∃i f t,b= .inl (i,f)/\Fr.Inv l f cyc true t)
  (fun x ⟨k,hk,hk7,t,hi⟩=>by
   obtain⟨a,f⟩:=x
   simp only at hk hi
   subst hk
   simp only[aU0,M.run,L1.m,U1.m]
   by_cases hlt:k<7
   ·left
    rw[fh6 (show((k:Nat):Int)<7 by omega)]
    simp only[fh5,S0]
    rw[aJ9 (show k<[v.1,v.2.1,v.2.2.1,v.2.2.2.1,v.2.2.2.2.1,v.2.2.2.2.2.1,v.2.2.2.2.2.2].length by simp only[bu6,cY9];omega),hi.aZ5,aJ9 (show k<l.length by omega)]
    simp only[ac0]
    have hs':SOk (⟨(⟨s.u.j3,s.u.j4,s.u.c8,s.u.D8,s.u.D3,s.u.B4,s.u.H4,s.u.H7,s.u.G1,f,s.u.u3,s.u.E7,s.u.Time⟩:Y9),s.d,s.k,s.t,s.u0,s.X6,s.Y5,s.A3,s.ak8,s.B0,s.V3,s.A4,s.G2,s.u9,s.known,s.cut,s.u4,s.J7⟩:o8):=⟨hs.few,hs.val,hs.ped,hs.pre,hs.t,hs.spd⟩
    obtain⟨r,e1,hr⟩:=ao9 hs' 2
    have hsp:=hs.spd
    obtain⟨fr,e2,h2⟩:=el6 (hc.ok (show k<l.length by omega)) (a:=s.u0) (b:=r) (by omega) hr
    obtain⟨f',b,e3,h3,_⟩:=Fr.eb0 (bad:=[v.1,v.2.1,v.2.2.1,v.2.2.2.1,v.2.2.2.2.1,v.2.2.2.2.2.1,v.2.2.2.2.2.2][k]'(by simp only[bu6,cY9];omega)) hc hi h0 h1 (show k<l.length by omega) h2
    rw[e2]
    simp only[ac0]
    rw[e1]
    simp only[ac0,eY8,cE7]
    rw[e3]
    simp only[ac0,eP7]
    refine⟨_,rfl,⟨k+1,?_,by omega,_,h3⟩,?_⟩
    ·simp only
     rw[k6 (by omega) (by omega)]
     omega
    ·simp only
     rw[k6 (by omega) (by omega)]
     omega
   ·right
    rw[fh7 (show¬((k:Nat):Int)<7 by omega)]
    exact⟨_,rfl,_,_,t,rfl,hi⟩)
 obtain⟨b,e1,i,f,t',e2,h2⟩:=key 7 (0,s.u.C7) (by simp) ⟨0,rfl,by omega,t,h⟩
 rw[e2]at e1
 exact⟨i,f,t',e1,h2⟩
theorem ah4 {S R:Type}(n:Nat)(hn:n<=1000000000)(f:Int->S->Option (Fl S R))(I:Nat->S->Prop)(s:S)(h0:I 0 s)(h:∀k s,k<n->I k s->∃s',f (k:Int) s=some (.next s')/\I (k+1) s'):
  ∃s',M0 (fun p:Int×S=>bif decide (p.1<(n:Int))then((f p.1 p.2).bind (aE2 p.1))else some (.inr (.inl p.2))) (0,s)=some (.inl s')/\I n s':=by
 have key:=aN0 (mb:=fun p:Int×S=>bif decide (p.1<(n:Int))then((f p.1 p.2).bind (aE2 p.1))else some (.inr (.inl p.2))) (fun x=>∃k:Nat,x.1=(k:Int)/\k<=n/\I k x.2) (fun x=>n-x.1.toNat) (fun b:S⊕R=>∃t,b= .inl t/\I n t)
  (fun x ⟨k,hk,hkn,hi⟩=>by
   obtain⟨a,u⟩:=x
   simp only at hk hi
   subst hk
   by_cases hlt:k<n
   ·left
    obtain⟨s',h1,h2⟩:=h k u hlt hi
    simp only
    rw[fh6 (show((k:Nat):Int)<(n:Int) by omega),h1]
    refine⟨(((k+1:Nat):Int),s'),?_,⟨k+1,rfl,by omega,h2⟩,by simp only;omega⟩
    simp only[fh5,ac0,aE2]
    first|rfl|(rw[k6 (by omega) (by omega)];rfl)
   ·right
    simp only
    rw[fh7 (show¬((k:Nat):Int)<(n:Int) by omega)]
    have:k=n:=by omega
    subst this
    exact⟨_,rfl,u,rfl,hi⟩)
 obtain⟨b,e1,t,e2,h2⟩:=key n (0,s) (by simp) ⟨0,rfl,by omega,h0⟩
 rw[e2]at e1
 exact⟨t,e1,h2⟩
def R0:List W8:=(bB0).m.getD []
theorem cY4:(bB0).m=some R0:=rfl
theorem dC5:R0.length=7:=rfl
theorem dS7:(R0.all fun r=>decide (r.ag5.length<=16)&&r.ag5.all fun c=>decide (0<=c)&&decide (c<7))=true:=by kernel_rfl
theorem dS8:(R0.all fun r=>decide (-5000<=r.ci4)&&decide (r.ci4<=10000))=true:=by kernel_rfl
theorem dS9:(aK0 R0 7).m=some true:=(aK0 R0 7).le 1000 _ (by kernel_rfl)
theorem dC6:(aK0 R0 64).m=some true:=(aK0 R0 64).le 1000 _ (by kernel_rfl)
def cf0:List A5:=((bn3).e 100).getD []
theorem dr2:(bn3).m=some cf0:=(bn3).le 100 _ (by kernel_rfl)
theorem bW2:cf0.length=7:=by kernel_rfl
theorem dD3 {α:Type}{l:List α}{p q:α->Bool}(h:(l.all fun r=>p r&&q r)=true){x:α}(hx:x∈l):p x=true/\q x=true:=by
 have:=by6.1 h x hx
 rwa[au2]at this
theorem dE6 {r:W8}{n:Nat}(h16:r.ag5.length<=16)(hr:∀c∈r.ag5,0<=c/\c<(n:Int))(f:Cl Tryz.prog Int Bool (fun x=>[.t (tI x)]) (fun r=>.t (tB r)))(hf:∀c,0<=c->c<(n:Int)->∃b,f.f c=some b):
  ∃o,(bp9 r f).m=some o/\o.length<=16:=by
 simp only[bp9,C.of,M.run]
 obtain⟨o,h1,h2⟩:=bk1 r.ag5 (by omega) (fun i x (o:List Int)=>(bb8 f i x o).run) (fun k o=>o.length<=k) [] (cB6 _) (fun k x o hx hI=>by
  have hk:=(bD8.1 hx).1
  have hm:=hr x (dv3 hx)
  obtain⟨b,hb⟩:=hf x hm.1 hm.2
  simp only[bb8,M.run,U1.m,Cl.at,hb,ac0]
  cases b
  ·exact⟨_,rfl,by omega⟩
  ·simp only[fh5]
   rw[K4 _ _ (by simp only[cH0];omega)]
   exact⟨_,rfl,by simp only[aX7,cH0];omega⟩)
 rw[h1]
 exact⟨_,rfl,by omega⟩
theorem du2 (f:Cl Tryz.prog Int Bool (fun x=>[.t (tI x)]) (fun r=>.t (tB r)))(hf:∀c,0<=c->c<7->∃b,f.f c=some b):
  ∃a,(bk4 R0 f).m=some a/\a.length<=7/\∀x∈a,(0<=x.T9/\x.T9<7)/\x.ag5.length<=16:=by
 simp only[bk4,C.of,M.run]
 obtain⟨a,h1,h2,h3⟩:=ah4 R0.length (by rw[dC5];omega) (fun i (o:List X4)=>(aW9 R0 f i o).run) (fun k o=>o.length<=k/\∀x∈o,(0<=x.T9/\x.T9<7)/\x.ag5.length<=16) [] ⟨cB6 _,by simp⟩ (fun k o hk hI=>by
  have hk7:k<7:=hk
  have hr:=dD3 dS7 (bf2 hk)
  rw[fh8]at hr
  obtain⟨v,hv,hv16⟩:=dE6 (n:=7) hr.1 (fun c hc=>by
   have:=by6.1 hr.2 c hc
   rw[au2,fh8,fh8]at this
   exact this) f hf
  simp only[aW9,M.run,L1.m,U1.m]
  rw[S0,aJ9 hk]
  simp only[ac0,hv]
  cases decide ((v.length:Int)>0)
  ·exact⟨_,rfl,by omega,hI.2⟩
  ·simp only[fh5]
   rw[K4 _ _ (by simp only[cH0];omega)]
   refine⟨_,rfl,by simp only[aX7,cH0];omega,fun x hx=>?_⟩
   rcases do2.1 hx with h|h
   ·exact hI.2 x h
   ·rw[eM4]at h
    subst h
    simp only
    exact⟨by omega,hv16⟩)
 rw[h1]
 exact⟨a,rfl,h2,h3⟩
theorem dC9 {f:B3}(hv:(ab9 f).m=some true)(hl:f.L.length=7):∃a,(bp8 R0 f).m=some (a,0)/\a.length<=7/\∀x∈a,(0<=x.T9/\x.T9<7)/\x.ag5.length<=16:=by
 obtain⟨a,h1,h2⟩:=du2 (.of (fun z_=>bg8 z_ (-1) f) 290 [Pv.encI (-1),bc6 f]) (fun c h0 h7=>by
  simp only[Cl.of,bg8,C.of,M.run,L1.m]
  rw[show(c != -1)=true by simp;omega]
  have:F0 f.L c=some (f.L[c.toNat]'(by omega)):=by
   conv=>lhs;rw[show c=((c.toNat:Nat):Int) by omega]
   rw[S0,aJ9 (by omega)]
  rw[this]
  exact⟨_,rfl⟩)
 refine⟨a,?_,h2⟩
 simp only[bp8,bT8,bN1,C.of,M.run,hv,hl,ac0,fh5]
 rw[show(((7:Nat):Int))=7 by rfl,dS9]
 simp only[ac0,aK4,fh3]
 rw[h1]
 rfl
theorem dY1 {a:List X4}(ha:a.length<=7)(hr:∀x∈a,0<=x.T9/\x.T9<7)(g o:Int):∃v e,(bw6 R0 a g o).m=some (v,e)/\(-5000<=o->o<=10000-> -5000<=v/\v<=10000):=by
 have hc:(aA1 a (.of (fun z_=>bk3 z_ R0) 227 [(Pv.encS ae3) R0])).m=some (a.any fun x=>decide (x.T9<0)||decide (x.T9>=(R0.length:Int))):=by
  simp only[aA1,aY7,aQ7,C.of,M.run,L1.m,Cl.at,Cl.of]
  refine Eq.trans ?_ (bJ8 a (by omega) (fun x=>(bk3 x R0).m) (fun x=>decide (x.T9<0)||decide (x.T9>=(R0.length:Int))) (fun y _=>rfl))
  kernel_rfl
 simp only[bw6,C.of,M.run,dC6,hc,ac0,aK4,ed1]
 rw[fh7 (show¬((a.length:Int)>64) by omega)]
 simp only[fh3,ac0]
 have hn:(a.any fun x=>decide (x.T9<0)||decide (x.T9>=(R0.length:Int)))=false:=by
  rw[dB8]
  intro x hx
  have:=hr x hx
  rw[dC5]
  simp only[cx1,fh8]
  omega
 rw[hn]
 simp only[fh3]
 cases(decide (g<0)||decide (g>15))
 ·simp only[fh3]
  obtain⟨u,h1,h2⟩:=bk1 a (by omega) (fun i x (s:Int×Int)=>(bg7 R0 g i x s).run) (fun _ s=>-5000<=o->o<=10000-> -5000<=s.1/\s.1<=10000) (o,-1) (fun h1 h2=>⟨h1,h2⟩) (fun k x s hx hI=>by
   have hm:=hr x (dv3 hx)
   have hlt:x.T9.toNat<R0.length:=by rw[dC5];omega
   have hl:=dD3 dS8 (bf2 hlt)
   rw[fh8,fh8]at hl
   simp only[bg7,M.run,L1.m]
   have:F0 R0 x.T9=some R0[x.T9.toNat]:=by
    conv=>lhs;rw[show x.T9=((x.T9.toNat:Nat):Int) by omega]
    rw[S0,aJ9 hlt]
   rw[this]
   simp only[ac0]
   cases((R0[x.T9.toNat].cZ3 !=g)||decide (R0[x.T9.toNat].G5<s.2))<;>simp only[fh3,fh5]
   ·cases decide (R0[x.T9.toNat].G5>s.2)
    ·refine⟨_,rfl,fun h3 h4=>?_⟩
     have:=hI h3 h4
     unfold J1
     simp only
     split<;>omega
    ·refine⟨_,rfl,fun h3 h4=>?_⟩
     unfold J1
     simp only
     split<;>omega
   ·exact⟨_,rfl,hI⟩)
  rw[h1]
  exact⟨_,_,rfl,h2⟩
 ·exact⟨_,_,rfl,fun _ _=>by omega⟩
theorem dg0 (n o:Int)(c:o8)(ha:c.X6.length<=7)(hr:∀x∈c.X6,0<=x.T9/\x.T9<7):∃v,(at5 n o R0 c).m=some v/\(-5000<=o->o<=10000-> -5000<=v/\v<=10000):=by
 obtain⟨v,e,h1,h2⟩:=dY1 ha hr n o
 simp only[at5,CG.of,M.run,h1,ac0]
 exact⟨v,rfl,h2⟩
structure fe1 (s r:o8):Prop where
 D5:r.u.j3=s.u.j3
 con:r.u.j4=s.u.j4
 sch:r.u.c8=s.u.c8
 syn:r.u.D8=s.u.D8
 pha:r.u.D3=s.u.D3
 fil:r.u.B4=s.u.B4
 gua:r.u.H4=s.u.H4
 qui:r.u.H7=s.u.H7
 sta:r.u.G1=s.u.G1
 pla:r.u.u3=s.u.u3
 bod:r.u.E7=s.u.E7
 d:r.d=s.d
 k:r.k=s.k
 t:r.t=s.t
 u0:r.u0=s.u0
 known:r.known=s.known
 cut:r.cut=s.cut
 u4:r.u4=s.u4
 J7:r.J7=s.J7
 act:r.X6.length<=7/\∀x∈r.X6,x.ag5.length<=16
 Y5:-5000<=r.Y5/\r.Y5<=10000
 A3:50<=r.A3/\r.A3<=1013
 ak8:-40<=r.ak8/\r.ak8<=150
 B0:-40<=r.B0/\r.B0<=150
 V3:0<=r.V3/\r.V3<=20000
theorem ev6 {s:o8}(hs:SOk s){cyc:Int}{t:Nat->Bool}(hc:Fr.Cfs cf0)(h:Fr.Inv cf0 s.u.C7 cyc true t)(h0:1<=cyc)(h1:cyc<=1073741824):
  ∃r t',(bl4 s).m=some r/\fe1 s r/\Fr.Inv cf0 r.u.C7 cyc true t':=by
 obtain⟨b,hb⟩:=ez5 hs
 obtain⟨i,f,t',e1,hi⟩:=ec4 hs b hc (by rw[bW2];exact cB6 _) h h0 h1
 have hv:(ab9 f).m=some true:=by rw[be4];exact Fr.cq8 hc hi (by omega) h1 (fun _=>h0)
 obtain⟨a,ea,ha,hr2⟩:=dC9 hv (by rw[hi.len,bW2])
 have hr:∀x∈a,0<=x.T9/\x.T9<7:=fun x hx=>(hr2 x hx).1
 simp only[bl4,CG.of,M.run,hb,ac0]
 rw[e1]
 simp only[ac0,cY4,ea]
 obtain⟨v6,e6,h6⟩:=dg0 0 10000 (⟨(⟨s.u.j3,s.u.j4,s.u.c8,s.u.D8,s.u.D3,s.u.B4,s.u.H4,s.u.H7,s.u.G1,f,s.u.u3,s.u.E7,s.u.Time⟩:Y9),s.d,s.k,s.t,s.u0,a,s.Y5,s.A3,s.ak8,s.B0,s.V3,s.A4,s.G2,s.u9,s.known,s.cut,s.u4,s.J7⟩:o8) ha hr
 rw[e6];simp only[ac0]
 have ok:∀(a:List X4) (l p h c q:Int),SOk (⟨(⟨s.u.j3,s.u.j4,s.u.c8,s.u.D8,s.u.D3,s.u.B4,s.u.H4,s.u.H7,s.u.G1,f,s.u.u3,s.u.E7,s.u.Time⟩:Y9),s.d,s.k,s.t,s.u0,a,l,p,h,c,q,s.A4,s.G2,s.u9,s.known,s.cut,s.u4,s.J7⟩:o8):=fun a l p h c q=>⟨hs.few,hs.val,hs.ped,hs.pre,hs.t,hs.spd⟩
 have tt:∀(n o:Int) (l p h c q:Int),∃v,(at5 n o R0 (⟨(⟨s.u.j3,s.u.j4,s.u.c8,s.u.D8,s.u.D3,s.u.B4,s.u.H4,s.u.H7,s.u.G1,f,s.u.u3,s.u.E7,s.u.Time⟩:Y9),s.d,s.k,s.t,s.u0,a,l,p,h,c,q,s.A4,s.G2,s.u9,s.known,s.cut,s.u4,s.J7⟩:o8)).m=some v:=fun n o l p h c q=>by
  obtain⟨v,e,_⟩:=dg0 n o (⟨(⟨s.u.j3,s.u.j4,s.u.c8,s.u.D8,s.u.D3,s.u.B4,s.u.H4,s.u.H7,s.u.G1,f,s.u.u3,s.u.E7,s.u.Time⟩:Y9),s.d,s.k,s.t,s.u0,a,l,p,h,c,q,s.A4,s.G2,s.u9,s.known,s.cut,s.u4,s.J7⟩:o8) ha hr
  exact⟨v,e⟩
 obtain⟨v7,e7,_⟩:=ao9 (ok a v6 s.A3 s.ak8 s.B0 s.V3) 2
 rw[e7];simp only[ac0]
 obtain⟨v8,e8⟩:=tt 1 v7 v6 s.A3 s.ak8 s.B0 s.V3
 rw[e8];simp only[ac0,bs6]
 have c9:=bn0 v8 50 1013 (by omega)
 generalize J1 (K2 v8 50) 1013=v9 at c9|-
 obtain⟨v10,e10,_⟩:=ao9 (ok a v6 v9 s.ak8 s.B0 s.V3) 3
 rw[e10];simp only[ac0]
 obtain⟨v11,e11⟩:=tt 2 v10 v6 v9 s.ak8 s.B0 s.V3
 rw[e11];simp only[ac0]
 have c12:=bn0 v11 (-40) 150 (by omega)
 generalize J1 (K2 v11 (-40)) 150=v12 at c12|-
 obtain⟨v13,e13,_⟩:=ao9 (ok a v6 v9 v12 s.B0 s.V3) 4
 rw[e13];simp only[ac0]
 obtain⟨v14,e14⟩:=tt 3 v13 v6 v9 v12 s.B0 s.V3
 rw[e14];simp only[ac0]
 have c15:=bn0 v14 (-40) 150 (by omega)
 generalize J1 (K2 v14 (-40)) 150=v15 at c15|-
 obtain⟨v16,e16,_⟩:=ao9 (ok a v6 v9 v12 v15 s.V3) 5
 rw[e16];simp only[ac0]
 obtain⟨v17,e17⟩:=tt 4 v16 v6 v9 v12 v15 s.V3
 rw[e17];simp only[ac0]
 exact⟨_,t',rfl,⟨rfl,rfl,rfl,rfl,rfl,rfl,rfl,rfl,rfl,rfl,rfl,rfl,rfl,rfl,rfl,rfl,rfl,rfl,rfl,⟨ha,fun x hx=>(hr2 x hx).2⟩,h6 (by omega) (by omega),c9,c12,c15,bn0 _ _ _ (by omega)⟩,hi⟩
end Go.Proofs.YtfplhihoadkhlaaGreat.Ec
namespace Go.Pv
open Go
theorem fb7:bV2 ⟨0⟩:=⟨by decide,by decide⟩
theorem dZ6 {t:p6}{e:o7}{b:J4}{c:z8}{i:X5}(h:Giv t e b c i)(f:Int):bz6 e (nxC t b c i f)=true:=by
 have ht:=dA7 h.t
 have hc:=cf4.1 h.c
 have hi:=eh1.1 h.i
 obtain⟨k1,k2,k3⟩:=eJ7 hc.kno hi.int (by rw[hc.num];exact hi.num) (by rw[hc.num];exact hi.len)
 rw[cf4]
 refine⟨hc.eng,(cS3 hc.ped _ _).2,(de3 hc.mix hi.lam hi.spd (be6 ht i)).2,by rw[<-hc.num];exact k3,k2,?_,(du3 ht h.b hc f).2,em6 (df4 hi) _⟩
 show bV2 (idV t c i)
 unfold idV
 cases acV c i
 ·exact fb7
 ·exact(dO5 ht.idle hc.sum hi.coo hi.spd).2
theorem ep1 {e:o7}(h:Ev.aE8 e):bz6 e (eD7 e.z7.length)=true:=by
 rw[cf4]
 refine⟨h,(show cY2 ⟨0,0,false⟩=true by decide),(show cR3 dI2=true by decide),by simp[eD7],?_,fb7,(show(0:Int)<=0/\(0:Int)<=1073741824 by decide),(show granted ⟨0,-1⟩from⟨⟨by decide,by decide⟩,⟨by decide,by decide⟩⟩)⟩
 rw[by6]
 intro x hx
 have:x=k0:=eW3 hx
 subst this;decide
end Go.Pv
namespace Go.Proofs.YtfplhihoadkhlaaGreat.Ec
open Go Go.Pv Go.Pv.Ec Go.Proofs
structure ey4 (s:o8):Prop where
 Y5:-5000<=s.Y5/\s.Y5<=10000
 A3:50<=s.A3/\s.A3<=1013
 ak8:-40<=s.ak8/\s.ak8<=150
 B0:-40<=s.B0/\s.B0<=150
 V3:0<=s.V3/\s.V3<=20000
theorem eY7 (o:z8):(bz3 o).m=some o:=rfl
theorem eP6 (n o:z8):(bq4 n 0 o).m=some n:=rfl
theorem eZ0 (o:J9):(bE4 o).m=some o:=rfl
theorem eP9 (n o:J9):(bu9 n 0 o).m=some n:=rfl
theorem cC8 (s:o8):(bj1 s).m=some ⟨9,1,s.Y5,15⟩:=rfl
theorem fa3 (w:Int)(h: -5000<=w/\w<=10000):Ar.cp2 ⟨9,1,w,15⟩:=
 ⟨⟨(by decide:(0:Int)<=9),(by decide:(9:Int)<=15)⟩,⟨(by decide:(0:Int)<=15),(by decide:(15:Int)<=15)⟩,h,.inl rfl⟩
theorem dr3 {s:o8}(hs:SOk s)(ha:ey4 s)(ht:cl9 s.u.j3=true)(hb:aV7 s.u.E7=true)(hg:bz6 s.u.c8.o9 s.u.j4=true):
  ∃c o,(aT8 s).m=some {s with u:={s.u with j4:=c},A4:=o}/\
   bz6 s.u.c8.o9 c=true/\o.N8.length=s.u.c8.o9.z7.length:=by
 obtain⟨v,e0,_⟩:=ao9 hs 0
 obtain⟨v2,e1,_⟩:=ao9 hs 1
 have hc:=cf4.1 hg
 have hn:1<=s.u.c8.o9.z7.length/\s.u.c8.o9.z7.length<=8:=⟨hc.eng.1,hc.eng.2.1⟩
 have em:aY2 (s.u.c8.o9.z7.length:Int) (0:Int)=some (cD1 s.u.c8.o9.z7.length 0):=by
  unfold aY2
  rw[if_pos (by omega)]
  rfl
 have hi:Giv s.u.j3 s.u.c8.o9 s.u.E7 s.u.j4 (⟨v,v2,s.u0,s.A3,s.ak8,13500,s.V3,s.B0,cD1 s.u.c8.o9.z7.length 0,([⟨9,1,s.Y5,15⟩]:List j6)⟩:X5):=by
  have h1:=ha.A3;have h2:=ha.ak8;have h3:=ha.B0;have h4:=ha.V3
  refine⟨ht,hb,hg,eh1.2 ⟨hn,by simp,by simp,hs.spd,by simp only;omega,h2,h3,by simp,h4,by simp[inR],?_⟩⟩
  simp only[List.all_cons,List.all_nil,Bool.and_true]
  rw[cp3,fh8]
  exact fa3 _ ha.Y5
 obtain⟨f,l,_,e2⟩:=ej6 hi (by simp)
 simp only[aT8,CG.of,M.run,e0,e1,em,cC8,ac0,cE5]
 rw[e2]
 simp only[ac0,eY7,eP6,eZ0,eP9]
 refine⟨_,_,rfl,dZ6 hi f,?_⟩
 simp only[eZ7,cW3,List.length_range]
end Go.Proofs.YtfplhihoadkhlaaGreat.Ec
namespace Go.Pv
open Go
def dL7 (l:List Int)(x:Int)(a:Nat):Prop:=∃_:a<l.length,(nd l a<=x/\∀j,a<j->j<l.length->x<nd l j)\/(a=0/\∀j,j<l.length->x<nd l j)
def dg9 (l:List Int)(x:Int)(b:Nat):Prop:=∃_:b<l.length,(x<=nd l b/\∀j,j<b->nd l j<x)\/(b+1=l.length/\∀j,j<l.length->nd l j<x)
theorem cz4 {l:List Int}(h:bA3 l)(x:Int):∃a b:Nat,dL7 l x a/\dg9 l x b/\ah3 l x=some ((a:Int),(b:Int)):=by
 have h2:=h.two
 have hl:=h.most
 obtain⟨u,hu,hu2⟩:=ah4 l.length (by omega) (ar9 l x) (fun k s=>∃a:Nat,s=(a:Int)/\a<l.length/\((a<k/\nd l a<=x/\∀j,a<j->j<k->x<nd l j)\/(a=0/\∀j,j<k->x<nd l j))) (0:Int)
  ⟨0,rfl,by omega,.inr ⟨rfl,fun j hj=>absurd hj (by omega)⟩⟩ (fun j hj s ⟨a,hs,ha,hI⟩=>by
   unfold ar9
   rw[E8 l j hj,ac0]
   by_cases hx:l[j]<=x
   ·rw[fh6 hx,fh5]
    refine⟨_,rfl,j,rfl,hj,.inl ⟨by omega,by rw[P4 hj];exact hx,fun i h1 h2=>absurd h2 (by omega)⟩⟩
   ·rw[fh7 hx,fh3]
    refine⟨_,rfl,a,hs,ha,?_⟩
    have step:∀i,i<j+1->(i<j->x<nd l i)->x<nd l i:=fun i hi hh=>by
     rcases dh0 i j with h1|h1
     ·exact hh h1
     ·have:i=j:=by omega
      subst this
      rw[P4 hj];omega
    rcases hI with⟨h1,h2,h3⟩|⟨h1,h2⟩
    ·exact .inl ⟨by omega,h2,fun i hi hi2=>step i hi2 (fun q=>h3 i hi q)⟩
    ·exact .inr ⟨h1,fun i hi=>step i hi (h2 i)⟩)
 obtain⟨a,rfl,ha,haI⟩:=hu2
 have down:∀(k b:Nat),k<=l.length->b<l.length->((k<=b/\x<=nd l b/\∀j,k<=j->j<b->nd l j<x)\/(b+1=l.length/\∀j,k<=j->j<l.length->nd l j<x))->
   ∃b':Nat,dg9 l x b'/\M0 (af9 l x) ((k:Int)-1,(b:Int))=some (.inl (-1,(b':Int))):=by
  intro k
  induction k with
  |zero=>
   intro b _ hb hI
   refine⟨b,⟨hb,?_⟩,F7 ?_⟩
   ·rcases hI with⟨_,h1,h2⟩|⟨h1,h2⟩
    ·exact .inl ⟨h1,fun j hj=>h2 j (Nat.zero_le _) hj⟩
    ·exact .inr ⟨h1,fun j hj=>h2 j (Nat.zero_le _) hj⟩
   ·simp[af9]
  |succ k ih=>
   intro b hk hb hI
   have hkl:k<l.length:=by omega
   have e0:((k+1:Nat):Int)-1=(k:Int):=by omega
   have e:decide ((k:Int)>=0)=true:=fh6 (by omega)
   have ew:o6 ((k:Int)-1)=(k:Int)-1:=k6 (by omega) (by omega)
   rw[e0]
   by_cases hx:l[k]>=x
   ·obtain⟨b',h1,h3⟩:=ih k (by omega) hkl (.inl ⟨cB6 _,by rw[P4 hkl];exact hx,fun j h1 h2=>absurd h2 (by omega)⟩)
    refine⟨b',h1,?_⟩
    rw[I5 (s':=((k:Int)-1,(k:Int)))]
    ·exact h3
    ·simp only[af9,e,fh5,S0,aJ9 hkl,ac0,hx,decide_true,ew]
   ·have step:∀j,k<=j->(k+1<=j->nd l j<x)->nd l j<x:=fun j hj hh=>by
     rcases dh0 k j with h1|h1
     ·exact hh h1
     ·have:j=k:=by omega
      subst this
      rw[P4 hkl];omega
    obtain⟨b',h1,h3⟩:=ih b (by omega) hb (by
     rcases hI with⟨h1,h2,h3⟩|⟨h1,h2⟩
     ·exact .inl ⟨by omega,h2,fun j h4 h5=>step j h4 (fun q=>h3 j q h5)⟩
     ·exact .inr ⟨h1,fun j h4 h5=>step j h4 (fun q=>h2 j q h5)⟩)
    refine⟨b',h1,?_⟩
    rw[I5 (s':=((k:Int)-1,(b:Int)))]
    ·exact h3
    ·simp only[af9,e,fh5,S0,aJ9 hkl,ac0,hx,decide_false,fh3,ew]
 obtain⟨b,hb,hb2⟩:=down l.length (l.length-1) (cB6 _) (by omega) (.inr ⟨by omega,fun j h1 h2=>absurd h2 (by omega)⟩)
 have ew:o6 ((l.length:Int)-1)=(l.length:Int)-1:=k6 (by omega) (by omega)
 have e1:((l.length-1:Nat):Int)=(l.length:Int)-1:=by omega
 have g0:=E8 l 0 (by omega)
 rw[show((0:Nat):Int)=0 from rfl]at g0
 refine⟨a,b,⟨ha,?_⟩,hb,?_⟩
 ·rcases haI with⟨_,h1,h2⟩|⟨h1,h2⟩
  ·exact .inl ⟨h1,h2⟩
  ·exact .inr ⟨h1,h2⟩
 ·unfold ah3
  rw[hu]
  simp only[ac0,ew]
  rw[e1]at hb2
  rw[hb2]
  simp only[ac0,g0]
  by_cases hx:x<l[0]
  · --the first node is above
   have:b=0:=by
    obtain⟨hbl,hb1⟩:=hb
    rcases hb1 with⟨_,h1⟩|⟨_,h1⟩
    ·rcases Nat.eq_zero_or_pos b with h0|h0
     ·exact h0
     ·have:=h1 0 h0
      rw[P4 (by omega)]at this
      omega
    ·have:=h1 0 (by omega)
     rw[P4 (by omega)]at this
     omega
   subst this
   rw[fh6 hx]
   rfl
  ·rw[fh7 hx]
   rfl
theorem cf7 {l:List Int}(h:bA3 l){x:Int}{a b i:Nat}(ha:dL7 l x a)(hb:dg9 l x b)(hi:bm5 l (lim l x) i)(f:Nat->Int):
  itp (nd l i) (nd l (i+1)) (f i) (f (i+1)) (lim l x)<=max (f a) (f b):=by
 have h2:=h.two
 obtain⟨k0,k1,k2,k3,_,_⟩:=hi.nd h
 obtain⟨hal,ha⟩:=ha
 obtain⟨hbl,hb⟩:=hb
 have hle:∀i j,i<=j->j<l.length->nd l i<=nd l j:=fun i j h1 h2=>by rw[P4 h2,P4 (by omega)];exact h.le j i h2 h1
 have hlt:∀i j,i<j->j<l.length->nd l i<nd l j:=fun i j h1 h2=>by rw[P4 h2,P4 (by omega)];exact h.lt j i h2 h1
 have hh:l.headD 0=nd l 0:=by rw[bE9 l (by omega),P4 (by omega)]
 have ht:l.getLastD 0=nd l (l.length-1):=by rw[bf5 l (by omega),P4 (by omega)]
 have hlim:lim l x=min (max x (nd l 0)) (nd l (l.length-1)):=by unfold lim;rw[hh,ht]
 have h0l:=hle 0 (l.length-1) (by omega) (by omega)
 have node:∀c,c<l.length->lim l x=nd l c->itp (nd l i) (nd l (i+1)) (f i) (f (i+1)) (lim l x)=f c:=fun c hc e=>by
  rw[e]at k1 k2|-
  have c1:i<=c:=by
   rcases dh0 c i with q|q
   ·have:=hlt c i q (by omega);omega
   ·exact q
  have c2:c<=i+1:=by
   rcases dh0 (i+1) c with q|q
   ·have:=hlt (i+1) c q hc;omega
   ·exact q
  rcases(show c=i\/c=i+1 by omega)with rfl|rfl
  ·exact du6 ..
  ·exact dd6 k3
 rcases fe5 x (nd l 0)with q|q
 ·have e:lim l x=nd l 0:=by omega
  have:a=0:=by
   rcases ha with⟨h1,_⟩|⟨h1,_⟩
   ·have:=hle 0 a (by omega) hal;omega
   ·exact h1
  subst this
  rw[node 0 (by omega) e];omega
 ·rcases fe5 (nd l (l.length-1)) x with r|r
  ·have e:lim l x=nd l (l.length-1):=by omega
   have:b=l.length-1:=by
    rcases hb with⟨h1,_⟩|⟨h1,_⟩
    ·have:=hle b (l.length-1) (by omega) (by omega);omega
    ·omega
   subst this
   rw[node (l.length-1) (by omega) e];omega
  ·have e:lim l x=x:=by omega
   have ha':nd l a<=x/\∀j,a<j->j<l.length->x<nd l j:=by
    rcases ha with h1|⟨_,h1⟩
    ·exact h1
    ·have:=h1 0 (by omega);omega
   have hb':x<=nd l b/\∀j,j<b->nd l j<x:=by
    rcases hb with h1|⟨_,h1⟩
    ·exact h1
    ·have:=h1 (l.length-1) (by omega);omega
   rcases fe5 (nd l a) x with s|s
   ·have c1:i=a:=by
     rcases Nat.lt_trichotomy i a with q1|q1|q1
     ·have:=hle (i+1) a (by omega) hal
      omega
     ·exact q1
     ·have:=ha'.2 i q1 (by omega)
      omega
    have c2:b=a+1:=by
     rcases Nat.lt_trichotomy b (a+1)with q1|q1|q1
     ·have:=hle b a (by omega) hal;omega
     ·exact q1
     ·have:=hb'.2 (a+1) q1
      have:=ha'.2 (a+1) (by omega) (by omega)
      omega
    subst c1 c2
    exact(bj3 (lo:=min (f i) (f (i+1))) k1 k2 k3 (by omega) (by omega) (by omega) (by omega)).2
   ·rw[node a hal (by omega)];omega
theorem db4 {m:SMap}(h:br7 m=true)(x y:Int):∃v c,aa9 m x y=some v/\aa5 m x y=some c/\v<=c:=by
 have hm:=ca6 h
 obtain⟨i,j,hi,hj,e⟩:=ee2 h x y
 obtain⟨a,b,ha,hb,eab⟩:=cz4 hm.x x
 obtain⟨c,d,hc,hd,ecd⟩:=cz4 hm.y y
 have la:=ha.1;have lb:=hb.1;have lc:=hc.1;have ld:=hd.1
 have za:a<m.Z.length:=by have:=hm.zl;omega
 have zb:b<m.Z.length:=by have:=hm.zl;omega
 have ra:=hm.rl a za
 have rb:=hm.rl b zb
 refine⟨_,max (max (zz m a c) (zz m a d)) (max (zz m b c) (zz m b d)),e,?_,?_⟩
 ·unfold aa5
  rw[eab,ecd]
  simp only[ac0]
  rw[E8 m.Z a za,ac0,E8 _ c (by omega),ac0,E8 _ d (by omega),ac0,E8 m.Z b zb,ac0,E8 _ c (by omega),ac0,E8 _ d (by omega),ac0,
   <-bV7 za (by omega),<-bV7 za (by omega),<-bV7 zb (by omega),<-bV7 zb (by omega)]
  simp only[ap6]
  congr 1;omega
 ·have h1:=cf7 hm.y hc hd hj (fun j=>along m i (lim m.X x) j)
  have h2:=cf7 hm.x ha hb hi (fun i=>zz m i c)
  have h3:=cf7 hm.x ha hb hi (fun i=>zz m i d)
  have e1:itp (nd m.X i) (nd m.X (i+1)) (zz m i c) (zz m (i+1) c) (lim m.X x)=along m i (lim m.X x) c:=rfl
  have e2:itp (nd m.X i) (nd m.X (i+1)) (zz m i d) (zz m (i+1) d) (lim m.X x)=along m i (lim m.X x) d:=rfl
  rw[e1]at h2
  rw[e2]at h3
  unfold atV
  omega
def cC7 (r:j6):Bool:=((!(((decide (r.I7<0))||(decide (r.I7>15)))||(decide (r.G5<0))||(decide (r.G5>15))))&&((decide (r.j9>=(-5000)))&&(decide (r.j9<=10000))))&&((r.Kind==1)||(decide (r.I7<=1)&&((r.Kind==2)||(r.Kind==3))))
theorem dQ5 (r:j6):V1 r=some (cC7 r):=by
 unfold V1 R8 cC7
 generalize decide (r.I7<0)=a,decide (r.I7>15)=b,decide (r.G5<0)=c,decide (r.G5>15)=d,decide (r.j9>=(-5000))=e,decide (r.j9<=10000)=f,(r.Kind==1)=h,decide (r.I7<=1)=i,(r.Kind==2)=j,(r.Kind==3)=k
 generalize(((a||b)||c)||d)=A,(j||k)=B
 cases A<;>cases e<;>cases f<;>cases h<;>cases i<;>cases B<;>rfl
theorem dU5 (l:List j6)(hl:l.length<=40):F5 l X0=some (!l.all cC7):=by
 have k:=aj2 l (by omega) X0 (fun r=>!cC7 r) (fun y _=>by simp[X0,dQ5])
 have e2:(l.any fun z=>!cC7 z)= !l.all cC7:=by rw[dZ2];simp
 rw[e2]at k
 exact k
def dP8 (s:Int×Int)(y:j6):Int×Int:=
 bif !((y.Kind==2)||(y.Kind==3))then s else(bif y.I7==1 then K2 s.1 (J1 y.j9 1500)else s.1,K2 s.2 y.G5)
def eq4 (p s:Int)(y:j6):Int:=bif (y.Kind==1)&&decide (y.G5>p)then J1 s y.j9 else s
theorem eZ8 (l:List j6)(hl:l.length<=40)(s:Int×Int):ad4 l ah1 s=some (.inl (l.foldl dP8 s)):=by
 rw[M4 _ (by omega)]
 refine bo4 l 0 s fun i s y _=>?_
 unfold ah1 ax8 dP8
 simp only[ac0]
 cases((y.Kind==2)||(y.Kind==3))<;>cases(y.I7==1)<;>rfl
theorem eZ9 (l:List j6)(hl:l.length<=40)(q:Int×Int)(s:Int):ad4 l (ah2 q) s=some (.inl (l.foldl (eq4 q.2) s)):=by
 rw[M4 _ (by omega)]
 refine bo4 l 0 s fun i s y _=>?_
 unfold ah2 eq4
 cases((y.Kind==1)&&decide (y.G5>q.2))<;>rfl
def em7 (g:U0):Prop:=(0<=g.Over/\g.Over<=5)/\(0<=g.Calm/\g.Calm<=1000)/\(g.Over=0\/g.Calm=0)/\(g.Off=true\/g.Over<5)
instance (g:U0):Decidable (em7 g):=by unfold em7;infer_instance
def dR9 (n:Int):Prop:=-20000<=n/\n<=20000
instance (n:Int):Decidable (dR9 n):=by unfold dR9;infer_instance
def dG6 (n:Int)(x:A6):Int:=bif (x.ag3 !=0)then o6 (n+1)else n
theorem fe4 (l:List A6)(hl:l.length<=20)(s:Int):ad4 l ar8 s=some (.inl (l.foldl dG6 s)):=by
 rw[M4 _ (by omega)]
 refine bo4 l 0 s fun i s y _=>?_
 unfold ar8 dG6
 cases(y.ag3 !=0)<;>rfl
def cB4 (x:A6):Bool:=x.ag3 !=0
theorem cw0:∀(l:List A6) (s:Nat),s+l.length<=100->l.foldl dG6 (s:Int)=((s+l.countP cB4:Nat):Int)
 |[],s,_=>by simp
 |y::l,s,h=>by
  simp only[bu6]at h
  by_cases hy:cB4 y=true
  ·have e:dG6 (s:Int) y=((s+1:Nat):Int):=by
    unfold dG6;unfold cB4 at hy;rw[hy];simp only[fh5];rw[k6 (by omega) (by omega)];simp
   rw[eE8,e,cw0 l (s+1) (by omega),List.countP_cons_of_pos hy]
   congr 1;omega
  ·have hy':cB4 y=false:=by simpa using hy
   have e:dG6 (s:Int) y=(s:Int):=by unfold dG6;unfold cB4 at hy';rw[hy'];rfl
   rw[eE8,e,cw0 l s (by omega),List.countP_cons_of_neg hy]
def dL8 (V n len:Int):Int:=(V*n+len-1).tdiv len
theorem dT1 (t:p6)(x1 x2:Int)(hm:br7 t.j9=true)(ho:(bif !(decide (x1>=0)&&decide (x1<=12000))then true else !(decide (x2>=0)&&decide (x2<=1048576)))=false)(c:Int)(c1:aa5 t.j9 x1 x2=some c):
  ∀l:List A6,1<=l.length->l.length<=8->ax7 t x1 x2 l=some (dL8 (J1 (K2 c 0) 10000) (l.countP cB4:Nat) (l.length:Nat),0):=by
 intro l hl hl2
 have h1:0<=J1 (K2 c 0) 10000:=by unfold K2 J1;repeat' split<;>omega
 have h2:J1 (K2 c 0) 10000<=10000:=by unfold J1;split<;>omega
 unfold ax7
 rw[ap4,hm]
 have h8:decide ((l.length:Int)>8)=false:=by simp;omega
 have h0:((l.length:Int)==0)=false:=by
  have:¬(l.length:Int)=0:=by omega
  simpa using this
 have hn:=cw0 l 0 (by omega)
 simp only[ac0,aK4,fh3,h8]
 unfold O7
 simp only[ac0,cK7]
 rw[ho]
 simp only[fh3,h0]
 rw[fe4 l (by omega),show(0:Int)=((0:Nat):Int)from rfl,hn]
 simp only[ac0,c1]
 rw[show((0:Nat):Int)=0 from rfl,cY7]
 have hcl:l.countP cB4<=l.length:=List.countP_le_length
 generalize J1 (K2 c 0) 10000=V at h1 h2|-
 generalize l.countP cB4=n at hcl|-
 have hV1:0<=V*(n:Int):=eP2 h1 (by omega)
 have hV2:V*(n:Int)<=10000*8:=by
  have:=eP1 h2 (show(n:Int)<=8 by omega) (by omega) (by omega)
  exact this
 have hne:¬(l.length:Int)=0:=by omega
 unfold dL8
 generalize V*(n:Int)=p at hV1 hV2|-
 rw[k6 (n:=p) (by omega) (by omega),k6 (n:=p+(l.length:Int)) (by omega) (by omega),k6 (n:=p+(l.length:Int)-1) (by omega) (by omega)]
 simp only[bo2,if_neg hne,ac0]
 have hq1:0<=(p+(l.length:Int)-1).tdiv (l.length:Int):=Int.tdiv_nonneg (by omega) (by omega)
 have hq2:(p+(l.length:Int)-1).tdiv (l.length:Int)<=p+(l.length:Int)-1:=Int.tdiv_le_self _ (by omega)
 have:=k6 (n:=(p+(l.length:Int)-1).tdiv (l.length:Int)) (by omega) (by omega)
 unfold o6 at this
 rw[this]
theorem dm2 (t:p6)(x1 x2:Int)(hm:br7 t.R6=true)(ho:(bif !(decide (x1>=0)&&decide (x1<=1000))then true else !(decide (x2>=0)&&decide (x2<=12000)))=false)(c:Int)(c1:aa5 t.R6 x2 x1=some c):
  ∀l:List j6,l.all cC7=true->l.length<=32->
   af8 t x1 x2 l=some (o6 (K2 0 (J1 (l.foldl (eq4 (l.foldl dP8 (-5000,-1)).2) 10000) (K2 (J1 (K2 c (-5000)) 10000) (l.foldl dP8 (-5000,-1)).1))+100),0):=by
 intro l hq hl
 unfold af8
 rw[ap4]
 simp only[ac0]
 rw[dU5 l (by omega),hm,hq]
 simp only[aK4,fh3,ac0]
 have h32:decide ((l.length:Int)>32)=false:=by simp;omega
 rw[h32]
 simp only[fh3]
 unfold O7
 simp only[ac0,cK7]
 rw[ho]
 simp only[fh3,c1,ac0]
 rw[eZ8 l (by omega)]
 simp only[ac0]
 rw[eZ9 l (by omega)]
 rfl
end Go.Pv
namespace Go.Proofs.YtfplhihoadkhlaaGreat.Ec
open Go Go.Pv Go.Pv.Ec Go.Proofs
theorem eJ0 (o:U0):(bR5 o).m=some o:=rfl
theorem en2 (n:U0)(e:Int)(o:U0):(bi9 n e o).m=some (bif e !=0 then o else n):=by
 simp only[bi9,C.of,M.run]
 cases e !=0<;>rfl
theorem cJ7 {c:o8}(ht:cl9 c.u.j3=true)(hs:0<=c.u0/\c.u0<=12000)(hc:0<=c.u9/\c.u9<=1048576)(h1:1<=c.A4.N8.length)(h8:c.A4.N8.length<=8):∃v,(aM7 c).m=some v:=by
 have hm:br7 c.u.j3.j9=true:=by
  have:=(dA7 ht).tor
  unfold bc0 at this
  simp only[au2]at this
  first|exact this.1.1.1.1|exact this.1.1|exact this.1|exact this.1.1.1
 obtain⟨v,k,_,e1,_⟩:=db4 hm c.u0 c.u9
 have:=dT1 c.u.j3 c.u0 c.u9 hm (by
  rw[fh6 hs.1,fh6 hs.2,fh6 hc.1,fh6 hc.2];rfl) k e1 c.A4.N8 h1 h8
 simp only[aM7,CG.of,M.run,ck3]
 rw[this]
 exact⟨_,rfl⟩
theorem dv7 {s:o8}(hs:SOk s)(ha:ey4 s)(ht:cl9 s.u.j3=true)(hg:bz6 s.u.c8.o9 s.u.j4=true)(hgr:grB s.u.H4=true)(h1:1<=s.A4.N8.length)(h8:s.A4.N8.length<=8):
  ∃g f p c b,(aT9 s).m=some {s with u:={s.u with H4:=g},A4:=⟨s.A4.C4,f,s.A4.j9⟩,G2:=p,u9:=c,cut:=b}/\
   grB g=true/\f.length=s.A4.N8.length:=by
 have hc:=cf4.1 hg
 have hp:=(dP7.1 hc.ped).v
 have h2:=ha.ak8;have h3:=ha.B0;have h4:=ha.A3
 have tok:=dA7 ht
 have e1:(ax3 s.u.j4.C5.Value s.u0 s.B0).m=some (dC8 s.u.j4.C5.Value s.u0 s.B0):=by
  rw[bQ2];exact ef0 h3
 have e2:(aC7 s.u.j3 s.u0 s.A3 s.ak8).m=some (chV s.u.j3 s.u0 s.A3 s.ak8,0):=by
  rw[ca1];exact ci8 tok.air hs.spd (by omega) h2
 have hch:0<=chV s.u.j3 s.u0 s.A3 s.ak8/\chV s.u.j3 s.u0 s.A3 s.ak8<=1048576:=
  be6 tok (⟨0,0,s.u0,s.A3,s.ak8,13500,s.V3,s.B0,[],[]⟩:X5)
 obtain⟨v,k,_,e3,_⟩:=db4 tok.cH2 s.u0 s.u.j4.C5.Value
 have mm:cC7=cT9:=funext fun r=>cJ3 ((dQ5 r).symm.trans (dI9 r))
 have r9:cT9 ⟨9,1,s.Y5,15⟩=true:=by rw[cp3,fh8];exact fa3 _ ha.Y5
 have r1:cT9 ⟨1,2,1500,1⟩=true:=by rw[cp3,fh8];exact fa2 _ (by omega)
 have e4:∀l:List j6,l.all cT9=true->l.length<=32->∃p e,(af8 s.u.j3 s.u.j4.C5.Value s.u0 l).m=some (p,e):=fun l hl hn=>by
  rw[bQ6,dm2 s.u.j3 s.u.j4.C5.Value s.u0 tok.cH2 (by
   have hsp:=hs.spd
   rw[fh6 (show s.u.j4.C5.Value>=0 by omega),fh6 (show s.u.j4.C5.Value<=1000 by omega),fh6 hsp.1,fh6 hsp.2];rfl) k e3 l (by rw[mm];exact hl) hn]
  exact⟨_,_,rfl⟩
 have e5:∃l:List j6,(bif dC8 s.u.j4.C5.Value s.u0 s.B0 then(U8 ([⟨9,1,s.Y5,15⟩]:List j6) ([⟨1,2,1500,1⟩]:List j6)).bind fun t=>some t else some ([⟨9,1,s.Y5,15⟩]:List j6))=some l/\l.all cT9=true/\l.length<=32:=by
  cases dC8 s.u.j4.C5.Value s.u0 s.B0
  ·exact⟨_,rfl,by simp[r9],by simp⟩
  ·rw[K4 _ _ (by simp)]
   exact⟨_,rfl,by simp[r9,r1],by simp⟩
 obtain⟨l,e6,l1,l2⟩:=e5
 obtain⟨p,e,e7⟩:=e4 l l1 l2
 simp only[aT9,CG.of,M.run,U1.m,cC8,e1,ac0]
 rw[e6]
 simp only[ac0,e7,e2]
 obtain⟨a1,e8⟩:=cJ7 (c:=⟨s.u,s.d,s.k,s.t,s.u0,s.X6,s.Y5,s.A3,s.ak8,s.B0,s.V3,s.A4,p,chV s.u.j3 s.u0 s.A3 s.ak8,s.known,s.cut,s.u4,s.J7⟩) ht hs.spd hch h1 h8
 rw[e8]
 simp only[ac0]
 obtain⟨b1,b2,e9,_⟩:=ce0 (s:=⟨s.u,s.d,s.k,s.t,s.u0,s.X6,s.Y5,s.A3,s.ak8,s.B0,s.V3,s.A4,p,chV s.u.j3 s.u0 s.A3 s.ak8,s.known,s.cut,s.u4,s.J7⟩) ⟨hs.few,hs.val,hs.ped,hs.pre,hs.t,hs.spd⟩ 7
 rw[e9]
 simp only[ac0]
 have gk:∀x:Int,∃g e,(br9 s.u.H4 p x).m=some (g,e)/\grB (bif e !=0 then s.u.H4 else g)=true:=fun x=>by
  obtain⟨h,e,q1,q2,_⟩:=eC1 s.u.H4 p x
  refine⟨h,e,q1,?_⟩
  by_cases he:e=0
  ·subst he;exact q2 rfl
  ·rw[show(e !=0)=true by simpa using he];exact hgr
 cases(decide (a1>p)&& !b2)
 ·simp only[fh3,ac0,eJ0]
  obtain⟨g,e,q1,q2⟩:=gk a1
  rw[q1]
  simp only[ac0,en2]
  exact⟨_,_,_,_,_,rfl,q2,rfl⟩
 ·simp only[fh5]
  obtain⟨f,w1,w2⟩:=ah4 s.A4.N8.length (by omega) (fun i (o:List A6)=>(aW4 i o).run) (fun _ o=>o.length=s.A4.N8.length) s.A4.N8 rfl (fun k o hk hI=>by
   simp only[aW4,M.run,L1.m,U1.m,S0]
   rw[aJ9 (by omega)]
   simp only[ac0,ak9]
   rw[if_pos (by omega)]
   exact⟨_,rfl,by rw[ee7];exact hI⟩)
  rw[w1]
  simp only[ac0]
  obtain⟨a2,e10⟩:=cJ7 (c:=⟨s.u,s.d,s.k,s.t,s.u0,s.X6,s.Y5,s.A3,s.ak8,s.B0,s.V3,⟨s.A4.C4,f,s.A4.j9⟩,p,chV s.u.j3 s.u0 s.A3 s.ak8,s.known,true,s.u4,s.J7⟩) ht hs.spd hch (by simp only;omega) (by simp only;omega)
  rw[e10]
  simp only[ac0,eJ0]
  obtain⟨g,e,q1,q2⟩:=gk a2
  rw[q1]
  simp only[ac0,en2]
  exact⟨_,_,_,_,_,rfl,q2,w2⟩
theorem eJ2 (o:W3):(bl3 o).m=some o:=rfl
theorem en4 (n:W3)(e:Int)(o:W3):(aO8 n e o).m=some (bif e !=0 then o else n):=by
 simp only[aO8,C.of,M.run]
 cases e !=0<;>rfl
def ee5 (t:Int)(q:W3):Prop:=qzB q=true/\q.an5<=t
theorem ez4 {s:o8}(hs:SOk s)(hq:ee5 s.t s.u.H7):
  ∃q,(br5 s).m=some {s with u:={s.u with H7:=q}}/\ee5 s.t q:=by
 have ht:=hs.t
 obtain⟨v,e1,_⟩:=dl0 s.G2 65536 (by omega) (by omega)
 obtain⟨a,ea,e2⟩:=de9 s.u.H7.Question [s.u0,v,7]
 obtain⟨b1,b2,e3,_⟩:=ce0 hs 6
 obtain⟨m,e4,_⟩:=dl0 (o6 (a+b1)) 65536 (by omega) (by omega)
 have key:∃f,(bif s.u.H7.Open then
   (aa1 s.G2 65536).m.bind fun t=>(bo1 s.u.H7.Question [s.u0,t,7]).m.bind fun t_1=>(aF0 s 6).m.bind fun t_2=>
    (bif t_2.2 then(aa1 (o6 (t_1.1+t_2.1)) 65536).m.bind fun t=>some t else some t_1.1).bind fun t_3=>
     (bl3 s.u.H7).m.bind fun t_4=>(bK9 s.u.H7 s.t t_3 [s.u0,t,7]).m.bind fun t_5=>(aO8 t_5.1 t_5.2 t_4).m.bind fun t=>some t
   else some s.u.H7)=some f/\ee5 s.t f:=by
  cases s.u.H7.Open
  ·exact⟨_,rfl,hq⟩
  ·have kk:∃x,(bif b2 then(aa1 (o6 (a+b1)) 65536).m.bind fun t=>some t else some a)=some x:=by
    cases b2
    ·exact⟨_,rfl⟩
    ·rw[e4];exact⟨_,rfl⟩
   obtain⟨x,e5⟩:=kk
   obtain⟨r,e,e6,h6⟩:=er3 s.u.H7 s.t x [s.u0,v,7]
   simp only[fh5,e1,e2,e3,e5,e6,eJ2,en4,ac0]
   refine⟨_,rfl,?_⟩
   by_cases he:e=0
   ·subst he
    obtain⟨h1,h2⟩:=h6 rfl
    exact⟨h1,by rw[show((0:Int) !=0)=false from rfl];simp only[fh3];omega⟩
   ·rw[show(e !=0)=true by simpa using he];exact hq
 obtain⟨f,e7,hf⟩:=key
 obtain⟨r,n,e,e8,h8,_⟩:=eR7 f s.t
 simp only[br5,CG.of,M.run]
 rw[e7]
 simp only[ac0,e8,eJ2,en4]
 refine⟨_,rfl,?_⟩
 by_cases he:e=0
 ·subst he
  obtain⟨h1,h2,_⟩:=h8 rfl
  exact⟨h1,by rw[show((0:Int) !=0)=false from rfl];simp only[fh3];omega⟩
 ·rw[show(e !=0)=true by simpa using he];exact hf
theorem en5 (o:j2):(aD2 o).m=some o:=rfl
theorem dG8 (n:j2)(e:Int)(o:j2):(ao4 n e o).m=some (bif e !=0 then o else n):=by
 simp only[ao4,C.of,M.run]
 cases e !=0<;>rfl
theorem bV3 (s:o8)(n:j2)(l:List o5)(e:Int)(hl:s.u4.length+l.length<=1073741824):
  (aH9 s n l e).m=some {s with u:={s.u with c8:=bif e !=0 then s.u.c8 else n},u4:=bif e !=0 then s.u4 else s.u4++l}:=by
 simp only[aH9,CG.of,M.run,U1.m,en5,dG8,ac0,K4 _ _ hl]
 by_cases he:e=0
 ·subst he;rfl
 ·rw[show(e !=0)=true by simpa using he,show(e==0)=false by simpa using he];rfl
end Go.Proofs.YtfplhihoadkhlaaGreat.Ec
namespace Go.Pv.Ev
open Go Go.Pv
def cen (e:o7)(c:Int):Int:=(e.P0+K2 (idx c e.z7 0) 0*46080/(e.z7.length:Int))%46080
theorem da5 (e:o7)(c:Int):0<=cen e c/\cen e c<46080:=by unfold cen;omega
theorem er2 {a b:Int}(ha:0<=a)(hb:0<b)(hm:a<=9223372036854775807):bo2 .i64 a b=some (a/b):=by
 have h1:a/b<=a:=eM3 _ ha
 have h2:0<=a/b:=eM7 ha (by omega)
 unfold bo2
 rw[if_neg (by omega),cW1 ha]
 exact congrArg some (k6 (by omega) (by omega))
theorem da6 (e:o7)(c:Int)(h:aE8 e):al6 e c=some (cen e c,decide (c∈e.z7)):=by
 obtain⟨h1,h2,h3,h4,h5,h6⟩:=h
 unfold al6
 rw[bS6 _ _ (by omega)]
 simp only[ac0]
 have hm:0<=K2 (idx c e.z7 0) 0/\K2 (idx c e.z7 0) 0<8:=by
  rcases cQ3 c e.z7 0 with⟨e1,_⟩|⟨k,e1,e2⟩
  ·rw[e1];decide
  ·have:=(bD8.1 e2).1
   rw[e1];unfold K2;split<;>omega
 rw[k6 (by omega) (by omega),er2 (by omega) (by omega) (by omega)]
 simp only[ac0]
 have hq:0<=K2 (idx c e.z7 0) 0*46080/(e.z7.length:Int):=eM7 (by omega) (by omega)
 have hq2:K2 (idx c e.z7 0) 0*46080/(e.z7.length:Int)<=K2 (idx c e.z7 0) 0*46080:=eM3 _ (by omega)
 rw[k6 (by omega) (by omega),do3 (by omega),dO6]
 rfl
theorem dS5 (e:o7)(c:Int):aw4 e c=some (bif !decide (aE8 e)then(0,1)else bif !decide (c∈e.z7)then(0,7)else(cen e c,0)):=by
 unfold aw4
 rw[ap4]
 cases hd:decide (aE8 e)
 ·rfl
 ·simp only[ac0,aK4,fh3]
  rw[da6 e c (of_decide_eq_true hd)]
  simp only[ac0]
  cases decide (c∈e.z7)<;>rfl
def bf3 (e:o7)(f:A6):Prop:=f.w9∈e.z7/\(-1280<=f.D9/\f.D9<=3840)/\(500<=f.L2/\f.L2<=10000)/\(0<=f.End/\f.End<=23040)/\(f.ag3=0\/(200<=f.ag3/\f.ag3<=20000))/\
 ((f.Gap=0/\f.Extra=0)\/(f.ag3≠0/\(200<=f.Gap/\f.Gap<=20000)/\(200<=f.Extra/\f.Extra<=20000)))
instance (e:o7)(f:A6):Decidable (bf3 e f):=by unfold bf3;infer_instance
theorem dN8 (e:o7)(f:A6):aa2 e f=some (decide (aE8 e)&&decide (bf3 e f)):=by
 unfold aa2 O4
 rw[ap4]
 cases hd:decide (aE8 e)
 ·rfl
 ·obtain⟨h1,h2,_⟩:=of_decide_eq_true hd
  simp only[ac0,aK4,fh3,contains_eq e.z7 f.w9 (by omega),da2,cJ4]
  rw[aj7,dJ4,fh8]
  unfold bf3
  simp only[fd4,ff2,fb9,cx1,au2,bZ6,bG8,eZ6,ee1,fh8,bne_iff_ne,bne_eq_false_iff_eq,beq_iff_eq,ne_eq,ge_iff_le]
  by_cases hm:f.w9∈e.z7
  ·simp only[hm,true_and]
   omega
  ·simp only[hm,false_and]
def pul (f:A6):Int:=bif f.ag3==0 then 0 else bif f.Extra==0 then 1 else 2
theorem ea4 (f:A6):al5 f=some (pul f):=by
 unfold al5 pul
 cases f.ag3==0<;>cases f.Extra==0<;>rfl
theorem cV0 {R:Type}(f:Int->Unit->Option (Fl Unit R))(p:Nat->Bool)(r:R):∀(k i:Nat),(∀j,i<=j->j<i+k->f (j:Int) ()=some (bif p j then .ret r else .next ()))->aX0 f k (i:Int) ()=some (bif (ed5 i k).any p then .inr r else .inl ())
 |0,i,_=>rfl
 |k+1,i,h=>by
  rw[List.range'_succ,List.any_cons]
  simp only[aX0,h i (cB6 _) (by omega),ac0]
  cases hp:p i
  ·exact cV0 f p r k (i+1) fun j a b=>h j (by omega) (by omega)
  ·rfl
theorem dI5 {R:Type}(n:Nat)(hn:n<=9223372036854775807)(f:Int->Unit->Option (Fl Unit R))(p:Nat->Bool)(r:R)(h:∀j,j<n->f (j:Int) ()=some (bif p j then .ret r else .next ())):N1 (n:Int) f ()=some (bif (ed5 0 n).any p then .inr r else .inl ()):=by
 rw[am7 _ hn]
 exact cV0 f p r n 0 fun j _ b=>h j (by omega)
theorem ey9 {α:Type}(l:List α)(p:α->Bool):(l.all fun x=>!p x)= !l.any p:=by
 induction l with
 |nil=>rfl
 |cons x l ih=>rw[List.all_cons,List.any_cons,ih];cases p x<;>rfl
theorem dK5 (a:Int):(0<=a/\a.tmod 46080=a%46080)\/(a<0/\a.tmod 46080= -((-a)%46080)):=by
 rcases fe5 a 0 with h|h
 ·refine .inr ⟨h,?_⟩
  have:a.tmod 46080=(- -a).tmod 46080:=by rw[Int.neg_neg]
  rw[this,Int.neg_tmod,do3 (by omega)]
 ·exact .inl ⟨h,do3 h⟩
theorem mod_eq (a:Int)(h1: -1000000000000000<=a)(h2:a<=1000000000000000):aa1 a 46080=some (a%46080):=by
 unfold aa1 cg7
 simp only[show((46080:Int)==0)=false from rfl,show((46080:Int)== -1)=false from rfl,eU3,fh3,show¬(46080:Int)=0 from by decide,if_false,ac0,show decide ((46080:Int)<0)=false from rfl]
 rcases dK5 a with⟨h,e⟩|⟨h,e⟩
 ·rw[e]
  have:decide (a%46080<0)=false:=by simp;omega
  rw[this]
  simp
 ·rw[e]
  rcases Int.lt_or_eq_of_le (show 0<=(-a)%46080 by omega)with hq|hq
  ·have h3:decide (-(-a%46080)<0)=true:=by simp;omega
   have h4:(-(-a%46080) !=0)=true:=by simp;omega
   rw[h3,h4]
   simp only[show(true==false)=false from rfl,cI8,Bool.and_self,fh5]
   rw[k6 (by omega) (by omega)]
   congr 1;omega
  ·rw[<-hq]
   simp only[show((-0:Int) !=0)=false from rfl,ez8,fh3]
   congr 1;omega
def trn (d O3:Int):Int:=d*23040/O3
theorem bX9 {d O3:Int}(h0:0<=d)(h1:d<=20000)(ht:4000<=O3):0<=trn d O3/\trn d O3<=460800000:=by
 have h2:d*23040/O3<=d*23040:=eM3 _ (by omega)
 exact⟨eM7 (by omega) (by omega),by unfold trn;omega⟩
theorem cJ0 {d O3:Int}(h0:0<=d)(h1:d<=20000)(ht:4000<=O3):M6 d O3=some (trn d O3):=by
 unfold M6
 rw[k6 (by omega) (by omega),er2 (by omega) (by omega) (by omega)]
 rfl
def mn (x:Int):Int:=J1 x 23040
theorem eo9 {x:Int}(h:0<=x):0<=mn x/\mn x<=23040:=by
 unfold mn J1;split<;>omega
def dZ7 (f:A6)(t:Int):List (Int×Int×Int):=
 [(-f.D9,2,0),(-f.D9-mn (trn f.L2 t),1,0)]++(bif decide (pul f>0)then [(-f.End,4,1),(-f.End-trn f.ag3 t,3,1)]else [])++(bif decide (pul f>1)then [(-f.End+trn f.Gap t,3,2),(-f.End+trn f.Gap t+trn f.Extra t,4,2)]else [])
def evF (e:o7)(f:A6)(o:Int×Int×Int):C8:=⟨(cen e f.w9+o.1)%46080,o.2.1,f.w9,o.2.2⟩
def evs (e:o7)(t:Int)(f:A6):List C8:=(dZ7 f t).map (evF e f)
def dk8 (t:Int)(f:A6):Bool:=decide (trn f.ag3 t>23040)||decide (trn f.Gap t>23040)||decide (trn f.Extra t>23040)
theorem bj9 (f:A6):pul f=0\/pul f=1\/pul f=2:=by
 unfold pul;cases f.ag3==0<;>cases f.Extra==0<;>simp
theorem ep7 (f:A6)(t:Int):(dZ7 f t).length<=6:=by
 rcases bj9 f with h|h|h<;>simp[dZ7,h]
theorem cI0 (e:o7)(t:Int)(f:A6):(evs e t f).length<=6:=by
 unfold evs;rw[cW3];exact ep7 f t
theorem cC2 (a k p:Int)(c:List C8)(x:A6)(h1: -1000000000000000<=a)(h2:a<=1000000000000000)(hc:c.length<=100000):Q9 a k p c x=some (c++[⟨a%46080,k,x.w9,p⟩]):=by
 unfold Q9
 rw[mod_eq a h1 h2]
 simp only[ac0]
 rw[K4 _ _ (by simp only[cH0];omega)]
 rfl
theorem dt1 {e:o7}{f:A6}(h:bf3 e f):(0<=f.L2/\f.L2<=20000)/\(0<=f.ag3/\f.ag3<=20000)/\(0<=f.Gap/\f.Gap<=20000)/\(0<=f.Extra/\f.Extra<=20000)/\(-1280<=f.D9/\f.D9<=3840)/\(0<=f.End/\f.End<=23040):=by
 unfold bf3 at h
 obtain⟨_,h⟩:=h
 omega
theorem step_eq (e:o7)(t i:Int)(x:A6)(c:List C8)(he:aE8 e)(hx:bf3 e x)(ht:4000<=t)(hc:c.length<=1000):
  ax2 e t i x c=some (bif dk8 t x then .ret ([],2)else .next (c++evs e t x)):=by
 obtain⟨⟨d0,d1⟩,⟨i0,i1⟩,⟨g0,g1⟩,⟨x0,x1⟩,⟨s0,s1⟩,n0,n1⟩:=dt1 hx
 obtain⟨c0,c1⟩:=da5 e x.w9
 have td:=eo9 (bX9 d0 d1 ht).1
 have ti:=bX9 i0 i1 ht
 have tg:=bX9 g0 g1 ht
 have tx:=bX9 x0 x1 ht
 unfold ax2
 rw[da6 e _ he,cJ0 d0 d1 ht,cJ0 i0 i1 ht,cJ0 g0 g1 ht,cJ0 x0 x1 ht,ea4]
 simp only[ac0]
 rw[show J1 (trn x.L2 t) 23040=mn (trn x.L2 t)from rfl]
 have hl:decide (K2 (K2 (trn x.ag3 t) (trn x.Gap t)) (trn x.Extra t)>23040)=dk8 t x:=by
  rw[dJ4]
  unfold dk8
  simp only[cx1,fh8]
  unfold K2
  split<;>split<;>omega
 rw[hl]
 unfold evs dZ7
 simp only[eK7,cX5,ep3,evF]
 generalize hC:cen e x.w9=C at*
 generalize hD:mn (trn x.L2 t)=D at*
 generalize hI:trn x.ag3 t=A at*
 generalize hG:trn x.Gap t=G at*
 generalize hX:trn x.Extra t=B at*
 rw[k6 (n:=C-x.D9) (by omega) (by omega),k6 (n:=C-x.D9-D) (by omega) (by omega),k6 (n:=C-x.End) (by omega) (by omega),k6 (n:=C-x.End-A) (by omega) (by omega),k6 (n:=C-x.End+G) (by omega) (by omega),k6 (n:=C-x.End+G+B) (by omega) (by omega)]
 rw[cC2 _ _ _ c _ (by omega) (by omega) (by omega)]
 simp only[ac0]
 rw[cC2 _ _ _ _ _ (by omega) (by omega) (by simp only[aX7,cH0];omega)]
 simp only[ac0]
 cases dk8 t x
 ·simp only[fh3]
  rcases bj9 x with hp|hp|hp
  ·rw[hp]
   simp only[show decide ((0:Int)>0)=false from rfl,show decide ((0:Int)>1)=false from rfl,fh3,ac0,ep3,dn6,dq9,dK4,cY1]
   rw[show C-x.D9-D=C+(-x.D9-D) by omega,show C-x.D9=C+ -x.D9 by omega]
  ·rw[hp]
   simp only[show decide ((1:Int)>0)=true from rfl,show decide ((1:Int)>1)=false from rfl,fh3,fh5]
   rw[cC2 _ _ _ _ _ (by omega) (by omega) (by simp only[aX7,cH0];omega)]
   simp only[ac0]
   rw[cC2 _ _ _ _ _ (by omega) (by omega) (by simp only[aX7,cH0];omega)]
   simp only[evF,hC,ac0,cX5,ep3,dn6,dq9,dK4,cY1]
   rw[show C-x.D9-D=C+(-x.D9-D) by omega,show C-x.D9=C+ -x.D9 by omega,show C-x.End-A=C+(-x.End-A) by omega,show C-x.End=C+ -x.End by omega]
  ·rw[hp]
   simp only[show decide ((2:Int)>0)=true from rfl,show decide ((2:Int)>1)=true from rfl,fh5]
   rw[cC2 _ _ _ _ _ (by omega) (by omega) (by simp only[aX7,cH0];omega)]
   simp only[ac0]
   rw[cC2 _ _ _ _ _ (by omega) (by omega) (by simp only[aX7,cH0];omega)]
   simp only[ac0]
   rw[cC2 _ _ _ _ _ (by omega) (by omega) (by simp only[aX7,cH0];omega)]
   simp only[ac0]
   rw[cC2 _ _ _ _ _ (by omega) (by omega) (by simp only[aX7,cH0];omega)]
   simp only[evF,hC,ac0,cX5,ep3,dq9,dK4,cY1]
   rw[show C-x.D9-D=C+(-x.D9-D) by omega,show C-x.D9=C+ -x.D9 by omega,show C-x.End-A=C+(-x.End-A) by omega,show C-x.End+G+B=C+(-x.End+G+B) by omega,show C-x.End+G=C+(-x.End+G) by omega,show C-x.End=C+ -x.End by omega]
 ·rfl
theorem dz9 (e:o7)(t:Int)(he:aE8 e)(ht:4000<=t):∀(l:List A6) (i:Int) (c:List C8),(∀x∈l,bf3 e x)->c.length+6*l.length<=1000->
  N3 (ax2 e t) l i c=some (bif l.any (dk8 t)then .inr ([],2)else .inl (c++l.flatMap (evs e t)))
 |[],i,c,_,_=>by simp[N3]
 |x::l,i,c,hx,hc=>by
  rw[bu6]at hc
  simp only[N3,step_eq e t i x c he (hx x (bL5 ..)) ht (by omega),ac0,List.any_cons]
  cases dk8 t x
  ·simp only[fh3,ed1,eJ6]
   have:=cI0 e t x
   rw[<-dq9]
   exact dz9 e t he ht l (i+1) _ (fun y hy=>hx y (bO9 _ hy)) (by rw[aX7];omega)
  ·rfl
def ltE (a b:C8):Bool:=decide (a.E3<b.E3\/(a.E3=b.E3/\(a.w9<b.w9\/(a.w9=b.w9/\(a.Kind<b.Kind\/(a.Kind=b.Kind/\a.aj9<b.aj9))))))
def cX4 (x y:Int):Int:=if x<y then -1 else if x>y then 1 else 0
theorem cN5 (x y:Int):G9 x y=some (cX4 x y):=by
 unfold G9 cmp_isNaN_int cX4
 have h:∀z:Int,(z !=z)=false:=fun z=>by simp
 rw[h,h]
 simp only[ac0,fh3]
 by_cases h1:x<y
 ·rw[fh6 h1,if_pos h1];rfl
 ·rw[fh7 h1,if_neg h1]
  by_cases h2:x>y
  ·rw[fh6 h2,if_pos h2];rfl
  ·rw[fh7 h2,if_neg h2];rfl
def dj6 (a b c d:Int):Int:=bif a !=0 then a else bif b !=0 then b else bif c !=0 then c else d
theorem or_eq (a b c d:Int):ag8 [a,b,c,d]=some (dj6 a b c d):=by
 unfold ag8 dj6
 rw[M4 _ (by simp)]
 simp only[N3,ap9]
 cases ha:a !=0
 ·cases hb:b !=0
  ·cases hc:c !=0
   ·cases hd:d !=0
    ·have:d=0:=by simpa using hd
     rw[this];rfl
    ·rfl
   ·rfl
  ·rfl
 ·rfl
theorem dw6 (a b:C8):am3 a b=some (dj6 (cX4 a.E3 b.E3) (cX4 a.w9 b.w9) (cX4 a.Kind b.Kind) (cX4 a.aj9 b.aj9)):=by
 unfold am3
 simp only[cN5,ac0,or_eq]
theorem bi6 (x y:Int):(x<y/\cX4 x y= -1)\/(x=y/\cX4 x y=0)\/(y<x/\cX4 x y=1):=by
 unfold cX4
 split
 ·exact .inl ⟨by assumption,rfl⟩
 ·split
  ·exact .inr (.inr ⟨by omega,rfl⟩)
  ·exact .inr (.inl ⟨by omega,rfl⟩)
theorem aP8 (a b:C8):ltM am3 a b=ltE a b:=by
 unfold ltM ltE
 rw[dw6,ey3,decide_eq_decide]
 unfold dj6
 rcases bi6 a.E3 b.E3 with⟨h1,e1⟩|⟨h1,e1⟩|⟨h1,e1⟩<;>rw[e1]
 ·simp;omega
 ·rcases bi6 a.w9 b.w9 with⟨h2,e2⟩|⟨h2,e2⟩|⟨h2,e2⟩<;>rw[e2]
  ·simp;omega
  ·rcases bi6 a.Kind b.Kind with⟨h3,e3⟩|⟨h3,e3⟩|⟨h3,e3⟩<;>rw[e3]
   ·simp;omega
   ·rcases bi6 a.aj9 b.aj9 with⟨h4,e4⟩|⟨h4,e4⟩|⟨h4,e4⟩<;>rw[e4]<;>simp<;>omega
   ·simp;omega
  ·simp;omega
 ·simp;omega
theorem eD3 (x:C8):ltE x x=false:=by unfold ltE;simp
theorem dY3 {x y z:C8}(h1:ltE x y=true)(h2:ltE y z=true):ltE x z=true:=by
 unfold ltE at*;simp only[fh8]at*;omega
theorem dX8 {x y z:C8}(h1:ltE x y=false)(h2:ltE y z=false):ltE x z=false:=by
 unfold ltE at*;simp only[fh9]at*;omega
theorem eo0 {x y:C8}(h1:ltE x y=false)(h2:ltE y x=false):x=y:=by
 unfold ltE at*;simp only[fh9]at*
 refine C8.ext ?_ ?_ ?_ ?_<;>omega
def srt (l:List C8):List C8:=l.mergeSort fun x y=>!ltE y x
theorem eu0 (l:List C8):(srt l).Perm l:=List.mergeSort_perm _ _
theorem eG5 (l:List C8)(h:l.length<=1000000):ac9 l am3=some (srt l):=by
 unfold ac9 srt
 have e:(fun x y=>!ltM am3 y x)=fun x y=>!ltE y x:=by funext x y;rw[aP8]
 rw[bU7 ⟨by omega,fun x _ y _=>⟨_,dw6 x y⟩,fun x _=>by rw[aP8,eD3],fun x _ y _ z _=>by rw[aP8,aP8,aP8];exact dY3,
  fun x _ y _ z _=>by rw[aP8,aP8,aP8];exact dX8,fun x _ y _=>by rw[aP8,aP8];exact eo0⟩,e]
def dN4 (l:List A6)(i:Nat):Bool:=match l[i]?with|some x=>(l.take i).any fun g=>g.w9==x.w9|none=>false
def eA3 (l:List A6):Bool:=(ed5 0 l.length).any (dN4 l)
def ev8 (t:Int):Bool:=decide (t>=4000)&&decide (t<=1000000)
def dU3 (e:o7)(l:List A6):Bool:=l.any fun f=>!decide (bf3 e f)
def bg5 (e:o7)(l:List A6)(t:Int):List C8×Int:=
 bif !decide (aE8 e)then([],1)else bif dU3 e l then([],1)else bif !ev8 t then([],2)else bif eA3 l then([],8)else bif l.any (dk8 t)then([],2)else(srt (l.flatMap (evs e t)),0)
theorem el4 (e:o7)(t:Int)(l:List A6):(l.flatMap (evs e t)).length<=6*l.length:=by
 induction l with
 |nil=>simp
 |cons x l ih=>
  have:=cI0 e t x
  rw[eJ6,aX7,bu6];omega
theorem dD8 {e:o7}{l:List A6}(h:dU3 e l=false):∀x∈l,bf3 e x:=by
 intro x hx
 unfold dU3 at h
 rw[dB8]at h
 simpa using h x hx
theorem eE6 (e:o7)(l:List A6)(t:Int)(hl:l.length<=100):aF8 e l t=some (bg5 e l t):=by
 unfold aF8 bg5
 rw[ap4]
 cases hd:decide (aE8 e)
 ·rfl
 ·have he:=of_decide_eq_true hd
  simp only[ac0,aK4,fh3]
  have k:=aj2 l (by omega) (fun x0=>aq0 x0 e) (fun f=>!decide (bf3 e f)) (fun y _=>by unfold aq0;rw[dN8,hd];rfl)
  have k':G4 l (fun x0=>aq0 x0 e)=some (dU3 e l):=k
  rw[k']
  simp only[ac0]
  cases hb:dU3 e l
  ·have hf:=dD8 hb
   simp only[fh3]
   unfold O4 ev8
   simp only[ac0]
   cases ht:(decide (t>=4000)&&decide (t<=1000000))
   ·rfl
   ·simp only[aK4,fh3]
    have ht1:4000<=t:=by simp at ht;omega
    rw[dI5 l.length (by omega) (aD4 l) (dN4 l) ([],8) (fun j hj=>by
     unfold aD4 dN4
     have hs:ay9 l 0 (j:Int)=some (l.take j):=by
      unfold ay9
      rw[if_pos ⟨by omega,by omega,by omega⟩]
      simp
     rw[E8 _ _ hj,aJ9 hj,hs]
     simp only[ac0]
     have k2:=aj2 (l.take j) (by rw[bs8];omega) (fun x0=>aw5 x0 l[j]) (fun g=>g.w9==l[j].w9) (fun y _=>rfl)
     have k3:G4 (l.take j) (fun x0=>aw5 x0 l[j])=some ((l.take j).any fun g=>g.w9==l[j].w9):=k2
     rw[k3]
     simp only[ac0]
     cases(l.take j).any fun g=>g.w9==l[j].w9<;>rfl)]
    rw[show(ed5 0 l.length).any (dN4 l)=eA3 l from rfl]
    cases eA3 l
    ·simp only[fh3,ac0]
     rw[M4 _ (by omega),dz9 e t he ht1 l 0 [] hf (by simp;omega)]
     cases l.any (dk8 t)
     ·simp only[fh3,ac0,cY1]
      have:=el4 e t l
      rw[eG5 _ (by omega)]
      rfl
     ·rfl
    ·rfl
  ·rfl
end Go.Pv.Ev
namespace Go.Pv
open Go
namespace Ev
def evP (x:C8):Prop:=(0<=x.E3/\x.E3<46080)/\(1<=x.Kind/\x.Kind<=4)/\(1<=x.w9/\x.w9<=8)/\(0<=x.aj9/\x.aj9<=2)
instance (x:C8):Decidable (evP x):=by unfold evP;infer_instance
def cc0 (a:Int):Bool:=decide (a>=0)&&decide (a<46080)
theorem bt5 {a:Int}:cc0 a=true↔0<=a/\a<46080:=by unfold cc0;simp
def dst (a b:Int):Int:=(b-a)%46080
theorem ek0 (a b:Int):T4 a b=some (bif cc0 a&&cc0 b then dst a b else -1):=by
 unfold T4 ai9
 simp only[ac0]
 have e:∀a:Int,(decide (a>=0)&&decide (a<46080))=cc0 a:=fun _=>rfl
 rw[e,e]
 cases ha:cc0 a
 ·rfl
 ·cases hb:cc0 b
  ·rfl
  ·have ha:=bt5.1 ha
   have hb:=bt5.1 hb
   simp only[aK4,fh3,ac0,Bool.and_self,fh5]
   rw[k6 (n:=b-a) (by omega) (by omega),mod_eq _ (by omega) (by omega)]
   rfl
theorem dj1 {a b:Int}(ha:cc0 a=true)(hb:cc0 b=true):T4 a b=some (dst a b):=by rw[ek0,ha,hb];rfl
end Ev
namespace Tm
abbrev cD5:Int:=1099511627776
abbrev tz:u5:=⟨0,[]⟩
def chB (now:Int)(c:o4):Bool:=!(bif c.F6 then(decide (c.At<=now)||decide (c.At>1099511627776))else((c.At !=0)||c.Next))
def bf6 (t:u5):Bool:=(((decide (t.P8<0))||(decide (t.P8>1099511627776)))||(decide ((t.j5.length:Int)<1)))||(decide ((t.j5.length:Int)>16))
def ag2 (t:u5):Bool:=!bf6 t&&t.j5.all (chB t.P8)
theorem dc8 {t:u5}(h:bf6 t=false):1<=t.j5.length/\t.j5.length<=16/\0<=t.P8/\t.P8<=1099511627776:=by
 unfold bf6 at h
 simp only[bG8,fh9]at h
 omega
theorem dt5 {t:u5}(h:1<=t.j5.length/\t.j5.length<=16/\0<=t.P8/\t.P8<=1099511627776):bf6 t=false:=by
 unfold bf6
 simp only[bG8,fh9]
 omega
theorem bG3 {t:u5}(h:ag2 t=true):1<=t.j5.length/\t.j5.length<=16/\0<=t.P8/\t.P8<=1099511627776:=by
 unfold ag2 at h
 simp only[au2,bZ6]at h
 exact dc8 h.1
theorem dK8 (t:u5):ap2 t=some (ag2 t):=by
 unfold ap2 ag2
 cases hh:bf6 t
 ·unfold bf6 at hh
  rw[hh]
  have hl:=dc8 (t:=t) hh
  have k:=aj2 t.j5 (by omega) (fun c=>aq3 c t) (fun c=>!chB t.P8 c) (fun y _=>by unfold aq3 chB;cases y.F6<;>simp)
  have e2:(t.j5.any fun z=>!chB t.P8 z)= !t.j5.all (chB t.P8):=by rw[dZ2];simp
  rw[e2]at k
  simp only[fh3,cI8,cJ4]
  have:H8 t.j5 (fun x0=>aq3 x0 t)=some (!t.j5.all (chB t.P8)):=k
  rw[this]
  simp
 ·unfold bf6 at hh
  rw[hh];rfl
def cD8 (t:u5)(ch:Int):Bool:=(decide (ch<0))||(decide (ch>=(t.j5.length:Int)))
theorem bC6 (t:u5)(ch:Int):ai0 t ch=some (bif !ag2 t then(tz,1)else bif cD8 t ch then(tz,2)else(t,0)):=by
 unfold ai0
 rw[dK8]
 cases h:ag2 t
 ·rfl
 ·have hl:=bG3 h
  simp only[ac0,aK4,fh3]
  cases hb:cD8 t ch
  ·unfold cD8 at hb
   rw[hb]
   simp only[fh3]
   rw[bW8 _ (by omega)]
   simp only[ac0]
   rw[dF0 _ _ (by simp)]
  ·unfold cD8 at hb
   rw[hb];rfl
theorem eg6 (t:u5)(ch at_:Int)(lvl:Bool):∀j:Nat,ch=(j:Int)->(hj:j<t.j5.length)->ag2 t=true->
  aK2 t ch at_ lvl=some (bif decide (at_<=t.P8)then(tz,16)else bif decide (at_>cD5)then(tz,2)else(⟨t.P8,t.j5.set j ⟨true,at_,lvl,t.j5[j].M9⟩⟩,0)):=by
 rintro j rfl hj h
 unfold aK2
 have hb:cD8 t (j:Int)=false:=by unfold cD8;simp;omega
 rw[bC6,h,hb]
 simp only[aK4,fh3,ac0,bne_self_eq_false]
 cases decide (at_<=t.P8)
 ·simp only[fh3]
  unfold cD5
  cases decide (at_>1099511627776)
  ·simp only[fh3,E8 _ _ hj,ac0,aa6 _ _ _ hj]
  ·rfl
 ·rfl
theorem db7 (t:u5)(ch:Int):∀j:Nat,ch=(j:Int)->(hj:j<t.j5.length)->ag2 t=true->
  aA4 t ch=some (⟨t.P8,t.j5.set j ⟨false,0,false,t.j5[j].M9⟩⟩,0):=by
 rintro j rfl hj h
 unfold aA4
 have hb:cD8 t (j:Int)=false:=by unfold cD8;simp;omega
 rw[bC6,h,hb]
 simp only[aK4,fh3,ac0,bne_self_eq_false,E8 _ _ hj,aa6 _ _ _ hj]
theorem force_eq (t:u5)(ch:Int)(lvl:Bool):∀j:Nat,ch=(j:Int)->(hj:j<t.j5.length)->ag2 t=true->
  aH5 t ch lvl=some (⟨t.P8,t.j5.set j ⟨false,0,false,lvl⟩⟩,bif t.j5[j].M9==lvl then []else [⟨t.P8,(j:Int),lvl⟩],0):=by
 rintro j rfl hj h
 unfold aH5
 have hb:cD8 t (j:Int)=false:=by unfold cD8;simp;omega
 rw[bC6,h,hb]
 simp only[aK4,fh3,ac0,bne_self_eq_false,E8 _ _ hj,aa6 _ _ _ hj]
 cases(t.j5[j].M9==lvl)<;>rfl
theorem copy_eq (t:u5)(h:t.j5.length<=1000):aQ5 t=some t:=by
 unfold aQ5
 rw[K4 _ _ (by simp;omega)]
 rfl
def due (M8:Int)(c:o4):Bool:=!((!c.F6)||(decide (c.At>M8)))
def swC (M8:Int)(i:Nat)(c:o4):List o5:=bif due M8 c&& !(c.Next==c.M9)then [⟨c.At,(i:Int),c.Next⟩]else []
def bH0 (M8:Int)(c:o4):o4:=bif due M8 c then⟨false,0,false,c.Next⟩else c
def bO4 (M8:Int):Nat->List o4->List o5
 |_,[]=>[]
 |i,c::r=>swC M8 i c++bO4 M8 (i+1) r
theorem eG8 (M8:Int)(i:Nat)(c:o4):(swC M8 i c).length<=1:=by
 unfold swC;cases(due M8 c&& !(c.Next==c.M9))<;>simp
theorem cq5 (M8:Int):∀(l:List o4) (i:Nat),(bO4 M8 i l).length<=l.length
 |[],_=>cB6 _
 |c::r,i=>by
  have:=cq5 M8 r (i+1)
  have:=eG8 M8 i c
  simp only[bO4,aX7,bu6];omega
theorem bX6 (M8:Int):∀(l:List o4) (i:Nat) (c:o4),bO4 M8 i (l++[c])=bO4 M8 i l++swC M8 (i+l.length) c
 |[],i,c=>by simp[bO4]
 |x::l,i,c=>by
  simp only[dK4,bO4,dq9,List.append_cancel_left_eq,bu6]
  rw[bX6 M8 l (i+1) c,show i+1+l.length=i+(l.length+1) by omega]
theorem dv6 {M8:Int}{s:o5}:∀{l:List o4}{i:Nat},s∈bO4 M8 i l->∃j c,l[j]? =some c/\due M8 c=true/\(c.Next==c.M9)=false/\s=⟨c.At,((i+j:Nat):Int),c.Next⟩
 |[],i,h=>by simp[bO4]at h
 |c::r,i,h=>by
  simp only[bO4,do2]at h
  rcases h with h|h
  ·unfold swC at h
   cases hd:(due M8 c&& !(c.Next==c.M9))<;>rw[hd]at h
   ·simp at h
   ·simp only[fh5,eM4]at h
    simp only[au2,bZ6]at hd
    exact⟨0,c,rfl,hd.1,hd.2,by simpa using h⟩
  ·obtain⟨j,c',h1,h2,h3,h4⟩:=dv6 h
   exact⟨j+1,c',by simpa using h1,h2,h3,by rw[h4,show i+1+j=i+(j+1) by omega]⟩
theorem dA3 {M8:Int}:∀(l:List o4) (i:Nat),(bO4 M8 i l).Pairwise (fun a b=>a.Channel<b.Channel)
 |[],_=>.nil
 |c::r,i=>by
  simp only[bO4]
  rw[List.pairwise_append]
  refine⟨?_,dA3 r (i+1),fun a ha b hb=>?_⟩
  ·unfold swC;cases(due M8 c&& !(c.Next==c.M9))<;>simp
  ·have h1:a.Channel=(i:Int):=by
    unfold swC at ha
    cases hd:(due M8 c&& !(c.Next==c.M9))<;>rw[hd]at ha
    ·simp at ha
    ·simp at ha;rw[ha]
   obtain⟨j,c',_,_,_,h4⟩:=dv6 hb
   rw[h1,h4];simp only;omega
def ltS (a b:o5):Bool:=decide (a.At<b.At\/(a.At=b.At/\a.Channel<b.Channel))
theorem ei9 (x y:Int):G9 x y=some (if x<y then -1 else if x>y then 1 else 0):=by
 unfold G9 cmp_isNaN_int
 simp only[ac0,bne_self_eq_false,fh3]
 by_cases h1:x<y
 ·simp[h1]
 ·by_cases h2:x>y<;>simp[h1,h2]
theorem or_eq (v v2:Int):ag8 [v,v2]=some (if v≠0 then v else v2):=by
 unfold ag8
 rw[M4 _ (by simp)]
 by_cases h1:v=0
 ·by_cases h2:v2=0
  ·simp[N3,ap9,h1,h2]
  ·have h3:(v2 !=0)=true:=by simpa using h2
   simp[N3,ap9,h1,h3]
 ·have h3:(v !=0)=true:=by simpa using h1
  simp[N3,ap9,h1,h3]
theorem eX3 (a b:o5):∃c,aa0 a b=some c/\(decide (c<0))=ltS a b:=by
 unfold aa0
 rw[ei9,ei9]
 simp only[ac0,or_eq]
 refine⟨_,rfl,?_⟩
 unfold ltS
 rw[dJ4]
 simp only[fh8]
 by_cases h1:a.At<b.At
 ·simp[h1]
 ·by_cases h2:a.At>b.At
  ·simp[h1,h2];omega
  ·have:a.At=b.At:=by omega
   by_cases h3:a.Channel<b.Channel
   ·simp[this,h3]
   ·by_cases h4:a.Channel>b.Channel<;>simp[this,h3,h4]<;>omega
theorem bB4 (a b:o5):ltM aa0 a b=ltS a b:=by
 obtain⟨c,h1,h2⟩:=eX3 a b
 unfold ltM;rw[h1];exact h2
theorem fa7 (l:List o5)(hl:l.length<=100)(hd:∀x∈l,∀y∈l,x.Channel=y.Channel->x=y):aa8 l aa0=some (l.mergeSort fun x y=>!ltS y x):=by
 unfold aa8
 have e:(fun x y=>!ltM aa0 y x)=fun x y=>!ltS y x:=by funext x y;rw[bB4]
 rw[bU7 ⟨by omega,fun x _ y _=>by obtain⟨c,h,_⟩:=eX3 x y;exact⟨c,h⟩,fun x _=>by rw[bB4];unfold ltS;simp,fun x _ y _ z _=>by rw[bB4,bB4,bB4];unfold ltS;simp only[fh8];omega,
  fun x _ y _ z _=>by rw[bB4,bB4,bB4];unfold ltS;simp only[fh9];omega,
  fun x hx y hy=>by rw[bB4,bB4];unfold ltS;simp only[fh9];intro a b;exact hd x hx y hy (by omega)⟩,e]
def cJ8 (M8:Int)(l:List o4):List o5:=(bO4 M8 0 l).mergeSort fun x y=>!ltS y x
theorem ei4 {R:o5->o5->Prop}{l:List o5}(h:l.Pairwise R)(hR:∀a b,R a b->a.Channel≠b.Channel):∀x∈l,∀y∈l,x.Channel=y.Channel->x=y:=by
 induction h with
 |nil=>intro x hx;simp at hx
 |cons h1 _ ih=>
  intro x hx y hy e
  rcases cr6.1 hx with hx1|hx1
  ·rcases cr6.1 hy with hy1|hy1
   ·rw[hx1,hy1]
   ·rw[hx1]at e;exact absurd e (hR _ _ (h1 y hy1))
  ·rcases cr6.1 hy with hy1|hy1
   ·rw[hy1]at e;exact absurd e.symm (hR _ _ (h1 x hx1))
   ·exact ih x hx1 y hy1 e
theorem ef5 (t:u5)(M8:Int):al9 t M8=some (bif !ag2 t then(tz,[],1)else bif decide (M8<t.P8)then(tz,[],16)else bif decide (M8>cD5)then(tz,[],2)else(⟨M8,t.j5.map (bH0 M8)⟩,cJ8 M8 t.j5,0)):=by
 unfold al9
 rw[bC6]
 cases h:ag2 t
 ·rfl
 ·have hl:=bG3 h
  have hb:cD8 t 0=false:=by unfold cD8;simp only[bG8,fh9];omega
  rw[hb]
  simp only[aK4,fh3,ac0,bne_self_eq_false]
  unfold cD5
  cases decide (M8<t.P8)
  ·simp only[fh3]
   cases decide (M8>1099511627776)
   ·simp only[fh3]
    obtain⟨s,h1,h2⟩:=ah4 (R:=Empty) t.j5.length (by omega) (av6 t M8) (fun i s=>s.1=bO4 M8 0 (t.j5.take i)/\s.2=(t.j5.take i).map (bH0 M8)++t.j5.drop i) ([],t.j5) ⟨by simp[bO4],by simp⟩ (fun j hj s ⟨i1,i2⟩=>by
     have htk:t.j5.take (j+1)=t.j5.take j++[t.j5[j]]:=dC0 hj
     have hdr:t.j5.drop j=t.j5[j]::t.j5.drop (j+1):=List.drop_eq_getElem_cons hj
     have hlt:(t.j5.take j).length=j:=by simp;omega
     unfold av6
     rw[E8 _ _ hj]
     simp only[ac0]
     cases hc:((!t.j5[j].F6)||(decide (t.j5[j].At>M8)))
     ·have dW6:due M8 t.j5[j]=true:=by unfold due;rw[hc];rfl
      have dO3:j<s.2.length:=by rw[i2];simp;omega
      have hlen1:s.1.length<=16:=by
       rw[i1];have:=cq5 M8 (t.j5.take j) 0;simp at this;omega
      have cv9:s.2.set j ⟨false,0,false,t.j5[j].Next⟩=(t.j5.take (j+1)).map (bH0 M8)++t.j5.drop (j+1):=by
       rw[i2,List.set_append_right _ _ (by simp;omega),hdr,htk]
       simp only[cW3,hlt,Nat.sub_self,List.set_cons_zero,eK7,cX5,ep3,dq9,List.singleton_append]
       unfold bH0;rw[dW6];rfl
      simp only[fh3]
      cases hn:(t.j5[j].Next==t.j5[j].M9)
      ·simp only[cI8,fh5]
       rw[K4 _ _ (by simp;omega)]
       simp only[ac0,E8 _ _ dO3,aa6 _ _ _ dO3]
       refine⟨_,rfl,?_,cv9⟩
       simp only
       rw[htk,bX6,<-i1,hlt,cY7]
       unfold swC;rw[dW6,hn];rfl
      ·simp only[aK4,fh3]
       simp only[ac0,E8 _ _ dO3,aa6 _ _ _ dO3]
       refine⟨_,rfl,?_,cv9⟩
       simp only
       rw[htk,bX6,<-i1,hlt,cY7]
       unfold swC;rw[dW6,hn];simp
     ·have dW6:due M8 t.j5[j]=false:=by unfold due;rw[hc];rfl
      simp only[fh5]
      refine⟨_,rfl,?_,?_⟩
      ·simp only
       rw[htk,bX6,<-i1]
       unfold swC;rw[dW6];simp
      ·simp only
       rw[i2,hdr,htk]
       simp only[eK7,cX5,ep3,dq9,List.singleton_append]
       unfold bH0;rw[dW6];rfl)
    rw[h1]
    obtain⟨i1,i2⟩:=h2
    rw[eI1]at i1
    rw[eI1,List.drop_length,dn6]at i2
    simp only[ac0]
    rw[i1,i2,fa7 _ (by have:=cq5 M8 t.j5 0;omega) (ei4 (dA3 t.j5 0) (fun a b h=>by omega))]
    rfl
   ·rfl
  ·rfl
theorem dT2 (M8:Int)(l:List o4):(cJ8 M8 l).Perm (bO4 M8 0 l):=List.mergeSort_perm _ _
theorem do9 (M8:Int)(l:List o4):(cJ8 M8 l).length<=l.length:=by
 rw[(dT2 M8 l).length_eq];exact cq5 M8 l 0
theorem ew0 {t:u5}{M8:Int}(h:ag2 t=true)(h1:¬M8<t.P8)(h2:¬M8>1099511627776):ag2 ⟨M8,t.j5.map (bH0 M8)⟩=true:=by
 have hl:=bG3 h
 unfold ag2 at h|-
 simp only[au2,bZ6,by6]at h|-
 refine⟨dt5 (by simp;omega),fun c hc=>?_⟩
 simp only[cZ1]at hc
 obtain⟨c0,hc0,rfl⟩:=hc
 have h3:=h.2 c0 hc0
 unfold bH0 due
 unfold chB at h3|-
 cases ha:c0.F6
 ·rw[ha]at h3;simp only[cI8,Bool.true_or,aK4,fh3,ha]at h3|-;exact h3
 ·rw[ha]at h3
  simp only[aK4,ed1]at h3|-
  by_cases h4:c0.At>M8
  ·simp only[h4,decide_true,aK4,fh3,ha,fh5]at h3|-
   simp at h3|-;omega
  ·simp[h4]
theorem eQ8 (n:Nat)(h1:1<=n)(h2:n<=16):aV4 (n:Int)=some (⟨0,cD1 n ⟨false,0,false,false⟩⟩,0):=by
 unfold aV4
 have:((decide ((n:Int)<1))||(decide ((n:Int)>16)))=false:=by simp;omega
 rw[this,bW8 _ (by omega)]
 rfl
theorem da9 {now:Int}{c:o4}(h:chB now c=true)(ha:c.F6=true):now<c.At/\c.At<=1099511627776:=by
 unfold chB at h;rw[ha]at h
 simp at h;omega
def nxS (s:Int×Bool)(c:o4):Int×Bool:=bif c.F6&&((!s.2)||decide (c.At<s.1))then(c.At,true)else s
def nxV (l:List o4):Int×Bool:=l.foldl nxS (0,false)
theorem dZ5 (l:List o4)(h:l.length<=1000)(s:Int×Bool):ad4 l aI5 s=some (.inl (l.foldl nxS s)):=by
 rw[M4 _ (by omega)]
 refine bo4 l 0 s fun i s y _=>?_
 unfold aI5 nxS
 cases y.F6<;>cases((!s.2)||decide (y.At<s.1))<;>rfl
theorem dP5 (t:u5):aO0 t=some (bif ag2 t then nxV t.j5 else(0,false)):=by
 unfold aO0
 rw[dK8]
 cases h:ag2 t
 ·rfl
 ·have hl:=bG3 h
  simp only[ac0,aK4,fh3,fh5]
  rw[dZ5 _ (by omega)]
  rfl
theorem dl8:∀(l:List o4) (s:Int×Bool),(∀c∈l,c.F6=true->(l.foldl nxS s).2=true/\(l.foldl nxS s).1<=c.At)/\(s.2=true->(l.foldl nxS s).2=true/\(l.foldl nxS s).1<=s.1)/\
  ((l.foldl nxS s).2=true->(l.foldl nxS s)=s\/∃c∈l,c.F6=true/\c.At=(l.foldl nxS s).1)
 |[],s=>⟨fun c h=>by simp at h,fun h=>⟨h,dF5 _⟩,fun _=>.inl rfl⟩
 |x::l,s=>by
  obtain⟨h1,h2,h3⟩:=dl8 l (nxS s x)
  simp only[eE8]
  have hx:x.F6=true->(nxS s x).2=true/\(nxS s x).1<=x.At:=fun ha=>by
   unfold nxS;rw[ha]
   cases hc:(!s.2)||decide (x.At<s.1)
   ·simp only[bG8,ee1,fh9]at hc
    simp only[cJ4,fh3]
    exact⟨hc.1,by omega⟩
   ·exact⟨rfl,dF5 _⟩
  have hs:s.2=true->(nxS s x).2=true/\(nxS s x).1<=s.1:=fun hb=>by
   unfold nxS
   cases hc:x.F6&&((!s.2)||decide (x.At<s.1))
   ·exact⟨hb,dF5 _⟩
   ·simp only[hb,aK4,ed1,au2,fh8]at hc
    exact⟨rfl,by simp only[fh5];omega⟩
  refine⟨fun c hc ha=>?_,fun hb=>?_,fun hb=>?_⟩
  ·rcases cr6.1 hc with rfl|hc
   ·have:=hx ha
    have h4:=h2 this.1
    exact⟨h4.1,ff5 h4.2 this.2⟩
   ·exact h1 c hc ha
  ·have:=hs hb
   have h4:=h2 this.1
   exact⟨h4.1,ff5 h4.2 this.2⟩
  ·rcases h3 hb with h4|⟨c,h5,h6,h7⟩
   ·rw[h4]
    unfold nxS
    cases hc:x.F6&&((!s.2)||decide (x.At<s.1))
    ·exact .inl rfl
    ·simp only[au2]at hc
     exact .inr ⟨x,bL5 ..,hc.1,rfl⟩
   ·exact .inr ⟨c,bO9 _ h5,h6,h7⟩
theorem cw7 {l:List o4}{c:o4}(hc:c∈l)(ha:c.F6=true):(nxV l).2=true/\(nxV l).1<=c.At:=(dl8 l (0,false)).1 c hc ha
theorem cR6 {l:List o4}(h:(nxV l).2=true):∃c∈l,c.F6=true/\c.At=(nxV l).1:=by
 rcases(dl8 l (0,false)).2.2 h with h1|h1
 ·exfalso;unfold nxV at h;rw[h1]at h;cases h
 ·exact h1
theorem ep5 {l:List o4}{M8:Int}(h:∀c∈l,due M8 c=false):cJ8 M8 l=[]/\l.map (bH0 M8)=l:=by
 have h1:∀(l:List o4) (i:Nat),(∀c∈l,due M8 c=false)->bO4 M8 i l=[]:=by
  intro l
  induction l with
  |nil=>intro i _;rfl
  |cons x l ih=>
   intro i h
   have:swC M8 i x=[]:=by unfold swC;rw[h x (bL5 ..)];rfl
   simp only[bO4,this,cY1]
   exact ih (i+1) fun c hc=>h c (bO9 _ hc)
 refine⟨by unfold cJ8;rw[h1 l 0 h];simp,?_⟩
 rw[List.map_congr_left (g:=id) (fun c hc=>by unfold bH0;rw[h c hc];rfl)]
 simp
end Tm
end Go.Pv
namespace Go.Pv.Sc
open Go Go.Pv Go.Pv.Ev
def bN9 (c:B8):Bool:=bif !c.L9 then((c.At==0)&&((c.E3==0)&&((c.A0==0)&&((c.M5==0)&&(c.Q4==0)))))else
 ((((((decide (c.At>=0)&&decide (c.At<=1099511627776))&&(decide (c.E3>=0)&&decide (c.E3<46080)))&&(decide (c.A0>=1)&&decide (c.A0<=1073741824)))&&(decide (c.M5>=192)&&decide (c.M5<=1920)))&&(((c.Q4==c.M5)||(c.Q4==2*c.M5))||(c.Q4==3*c.M5))))
theorem dE7 (c:B8):ak1 c=some (bN9 c):=by
 unfold ak1 bN9 aw0
 cases hv:c.L9
 ·simp
 ·simp only[aK4,fh3,ac0]
  by_cases hs:192<=c.M5/\c.M5<=1920
  ·rw[k6 (n:=2*c.M5) (by omega) (by omega),k6 (n:=3*c.M5) (by omega) (by omega),da2,aj7,dJ4]
   simp only[ff2,cx1,au2,bZ6,bG8,ee1,fh8,fh9,beq_iff_eq,ge_iff_le]
   omega
  ·have e1:(((((((!(decide (c.At>=0)&&decide (c.At<=1099511627776)))||decide (c.E3<0))||decide (c.E3>=46080))||decide (c.A0<1))||decide (c.A0>1073741824))||decide (c.M5<192))||decide (c.M5>1920))=true:=by
    simp only[cx1,fh8];omega
   have e2:(decide (c.M5>=192)&&decide (c.M5<=1920))=false:=by
    simp only[eZ6,fh9];omega
   rw[e1,e2];simp
structure bC3 (c:B8):Prop where
 at0:0<=c.At
 at1:c.At<=1099511627776
 an0:0<=c.E3
 an1:c.E3<46080
 p0:1<=c.A0
 p1:c.A0<=1073741824
 s0:192<=c.M5
 s1:c.M5<=1920
 ah:c.Q4=c.M5\/c.Q4=2*c.M5\/c.Q4=3*c.M5
theorem db2 {c:B8}(h:bN9 c=true)(hv:c.L9=true):bC3 c:=by
 unfold bN9 at h
 rw[hv]at h
 simp only[aK4,fh3,au2,cx1,fh8,beq_iff_eq]at h
 obtain⟨⟨⟨⟨⟨a,b⟩,c',d⟩,e,f⟩,g,i⟩,j⟩:=h
 exact⟨a,b,c',d,e,f,g,i,by rcases j with(j|j)|j<;>omega⟩
def cz0 (e:o7)(l:List A6)(i:Nat):Bool:=match l[i]?with|some x=>decide (bf3 e x)&& !((l.take i).any fun g=>g.w9==x.w9)|none=>false
def aW0 (e:o7)(l:List A6):Bool:=(ed5 0 l.length).all (cz0 e l)
theorem dg6 (e:o7)(l:List A6)(he:aE8 e)(hl:l.length<=1000000):ad5 e l=some (aW0 e l):=by
 unfold ad5 aW0
 have k:=bw9 (f:=an9 e l) (p:=cz0 e l) (r:=false) l.length 0 (fun j _ hj=>by
  have hj':j<l.length:=by omega
  unfold an9 cz0
  rw[E8 _ _ hj',aJ9 hj']
  simp only[ac0,dN8,fh6 he,cJ4]
  cases hf:decide (bf3 e l[j])
  ·rfl
  ·simp only[aK4,fh3,cJ4]
   have hs:ay9 l 0 (j:Int)=some (l.take j):=by
    unfold ay9
    rw[if_pos ⟨by omega,by omega,by omega⟩]
    simp
   rw[hs]
   simp only[ac0]
   have hc:G4 (l.take j) (fun x0=>ag0 x0 l[j])=some ((l.take j).any fun g=>g.w9==l[j].w9):=by
    unfold G4 J2 P7
    exact aj2 (l.take j) (by rw[bs8];omega) (fun x0=>ag0 x0 l[j]) (fun g=>g.w9==l[j].w9) (fun y _=>rfl)
   rw[hc]
   simp only[ac0]
   cases(l.take j).any fun g=>g.w9==l[j].w9<;>rfl)
 rw[am7 _ (by omega)]
 rw[show((0:Nat):Int)=0 from rfl]at k
 rw[k]
 cases(ed5 0 l.length).all (cz0 e l)<;>rfl
def chn (x:C8):Int:=2*(x.w9-1)+if x.Kind=3\/x.Kind=4 then 1 else 0
def onK (k:Int):Bool:=(k==1)||(k==3)
structure aK8 (n:Nat)(j:A9):Prop where
 cyl:1<=j.Event.w9/\j.Event.w9<=(n:Int)
 kind:1<=j.Event.Kind/\j.Event.Kind<=4
 ef9:0<=j.Event.E3/\j.Event.E3<46080
 bT5:0<=j.Event.aj9/\j.Event.aj9<=2
 left:-1048576<=j.Left/\j.Left<=1048576
 at0:j.F6=true\/j.At=0
instance (n:Nat)(j:A9):Decidable (aK8 n j):=
 decidable_of_iff ((1<=j.Event.w9/\j.Event.w9<=(n:Int))/\(1<=j.Event.Kind/\j.Event.Kind<=4)/\(0<=j.Event.E3/\j.Event.E3<46080)/\(0<=j.Event.aj9/\j.Event.aj9<=2)/\(-1048576<=j.Left/\j.Left<=1048576)/\(j.F6=true\/j.At=0))
  ⟨fun⟨a,b,c,d,e,f⟩=>⟨a,b,c,d,e,f⟩,fun⟨a,b,c,d,e,f⟩=>⟨a,b,c,d,e,f⟩⟩
theorem dX4 {n:Nat}{j:A9}:aK8 n j↔(1<=j.Event.w9/\j.Event.w9<=(n:Int))/\(1<=j.Event.Kind/\j.Event.Kind<=4)/\(0<=j.Event.E3/\j.Event.E3<46080)/\(0<=j.Event.aj9/\j.Event.aj9<=2)/\(-1048576<=j.Left/\j.Left<=1048576)/\(j.F6=true\/j.At=0):=
 ⟨fun⟨a,b,c,d,e,f⟩=>⟨a,b,c,d,e,f⟩,fun⟨a,b,c,d,e,f⟩=>⟨a,b,c,d,e,f⟩⟩
theorem eP3 (s:j2)(j:A9):aw7 s j=some (decide (aK8 s.o9.z7.length j)):=by
 unfold aw7
 rw[da2,ac0,aj7,dJ4,fh8,dX4]
 simp only[fb9,cx1,au2,fh8,beq_iff_eq,ge_iff_le]
 cases j.F6
 ·simp only[do8,false_or];omega
 ·simp only[true_or,and_true];omega
theorem eC8 (s:j2)(hl:s.F3.length<=1000000):R4 s.F3 (fun x0=>ab0 x0 s)=some (!s.F3.all fun j=>decide (aK8 s.o9.z7.length j)):=by
 unfold R4 D4 R5
 have:=aj2 s.F3 (by omega) (fun x0=>ab0 x0 s) (fun j=>!decide (aK8 s.o9.z7.length j)) (fun y _=>by unfold ab0;rw[eP3];rfl)
 rw[<-eK8 (s.F3.any _),<-ey9]at this
 simp only[eK8]at this
 exact this
theorem cH6 {n:Nat}{j:A9}(h:aK8 n j)(hn:n<=8):I9 j.Event=some (chn j.Event)/\aG5 j.Event=some (chn j.Event):=by
 have h1:=h.cyl;have h2:=h.kind
 unfold I9 aG5 chn
 rw[k6 (n:=j.Event.w9-1) (by omega) (by omega),k6 (n:=2*(j.Event.w9-1)) (by omega) (by omega),k6 (n:=2*(j.Event.w9-1)+1) (by omega) (by omega)]
 by_cases h3:j.Event.Kind=3\/j.Event.Kind=4
 ·have e1:((j.Event.Kind==3)||(j.Event.Kind==4))=true:=by simpa using h3
  have e2:((j.Event.Kind==1)||(j.Event.Kind==2))=false:=by simp;omega
  rw[e1,e2,if_pos h3];exact⟨rfl,rfl⟩
 ·have e1:((j.Event.Kind==3)||(j.Event.Kind==4))=false:=by simpa using h3
  have e2:((j.Event.Kind==1)||(j.Event.Kind==2))=true:=by simp;omega
  rw[e1,e2,if_neg h3];exact⟨by simp,by simp⟩
theorem dU8 {n:Nat}{j:A9}(h:aK8 n j):0<=chn j.Event/\chn j.Event<2*(n:Int):=by
 have h1:=h.cyl
 unfold chn;split<;>omega
def ar6 (l:List A9)(c:Int):List A9:=l.filter fun j=>chn j.Event==c
def alt:List A9->Bool->Bool
 |[],lv=>!lv
 |j::r,lv=>!(onK j.Event.Kind==lv)&& !j.F6&&alt r (!lv)
def aI9 (l:List A9)(x:o4):Bool:=match l with
 |[]=>!x.M9&& !x.F6
 |j::r=>!(onK j.Event.Kind==x.M9)&&(j.F6==x.F6)&&(!j.F6||((j.At==x.At)&&(x.Next== !x.M9)))&&alt r (!x.M9)
def bu7 (now:Int)(l:List A9):Bool:=match l with
 |[]=>true
 |[j]=>(j.Event.Kind==2)&&j.F6&&decide (j.At<=now+5000)
 |_=>false
def bF2 (s:j2)(c:Int)(x:o4):Bool:=aI9 (ar6 s.F3 c) x&&(!s.Cut||bu7 s.j7.P8 (ar6 s.F3 c))
def cX9 (cut:Bool)(now:Int)(x:o4):List A9->Bool->Bool->Bool
 |[],lv,fi=>!lv&& !(fi&&x.F6)
 |j::r,lv,fi=>bif onK j.Event.Kind==lv then false else
   bif (bif fi then(!(j.F6==x.F6))||(j.F6&&((j.At !=x.At)|| !(x.Next== !lv)))else(j.F6||cut))then false else
   bif cut&&(((j.Event.Kind !=2)|| !j.F6)||decide (j.At>now+5000))then false else cX9 cut now x r (!lv) false
theorem cQ5 (s:j2)(c:Int)(x:o4)(n:Nat)(hn:n<=8)(h0:0<=s.j7.P8)(h1:s.j7.P8<=1099511627776):∀(l:List A9) (i:Int) (lv fi:Bool),(∀j∈l,aK8 n j)->
  (ab6 (N3 (ab3 s c x) l i (lv,fi)) fun(t:(Bool×Bool)⊕Bool)=>match t with| .inl s4=>(ab6 (bif (!s4.1)then(some (!(s4.2&&x.F6)))else(some false)) fun b5=>some b5)| .inr r3=>some r3)=some (cX9 s.Cut s.j7.P8 x (ar6 l c) lv fi)
 |[],i,lv,fi,_=>by
  simp only[N3,ac0,ar6,eK3,cX9]
  cases lv<;>rfl
 |j::l,i,lv,fi,h=>by
  have hj:=h j (bL5 ..)
  have ih:=fun i lv fi=>cQ5 s c x n hn h0 h1 l i lv fi (fun y hy=>h y (bO9 _ hy))
  by_cases hc:chn j.Event=c
  ·have e1:(chn j.Event !=c)=false:=by simpa using hc
   have e2:ar6 (j::l) c=j::ar6 l c:=by unfold ar6;rw[eb4 (by simpa using hc)]
   have hb:ab3 s c x i j (lv,fi)=some (bif onK j.Event.Kind==lv then .ret false else
     bif (bif fi then(!(j.F6==x.F6))||(j.F6&&((j.At !=x.At)|| !(x.Next== !lv)))else(j.F6||s.Cut))then .ret false else
     bif s.Cut&&(((j.Event.Kind !=2)|| !j.F6)||decide (j.At>s.j7.P8+5000))then .ret false else .next (!lv,false)):=by
    unfold ab3
    rw[(cH6 hj hn).1]
    simp only[ac0,e1,fh3,as3]
    have e3:((j.Event.Kind==1)||(j.Event.Kind==3))=onK j.Event.Kind:=rfl
    rw[e3,k6 (n:=s.j7.P8+5000) (by omega) (by omega)]
    cases onK j.Event.Kind==lv
    ·simp only[fh3]
     have hA:(bif fi then(ab6 (bif (!(j.F6==x.F6))then(some true)else(ab6 (bif j.F6 then(some ((j.At !=x.At)||(!(x.Next==(!lv)))))else(some false)) fun b2=>some b2)) fun b3=>bif b3 then(some (Sum.inr false))else(some (Sum.inl ())))else(bif (j.F6||s.Cut)then(some (Sum.inr false))else(some (Sum.inl ()))))=
       (some (bif (bif fi then(!(j.F6==x.F6))||(j.F6&&((j.At !=x.At)|| !(x.Next== !lv)))else(j.F6||s.Cut))then Sum.inr false else Sum.inl ()):Option (Unit⊕Bool)):=by
      cases fi
      ·cases(j.F6||s.Cut)<;>rfl
      ·cases(j.F6==x.F6)<;>cases j.F6<;>simp only[aK4,cI8,fh5,fh3,ac0,Bool.true_or,ed1,cJ4,ez8,Bool.or_false]
       cases((j.At !=x.At)|| !(x.Next== !lv))<;>rfl
     rw[hA]
     cases(bif fi then(!(j.F6==x.F6))||(j.F6&&((j.At !=x.At)|| !(x.Next== !lv)))else(j.F6||s.Cut))
     ·simp only[fh3,ac0]
      have hB:(bif s.Cut then(some (((j.Event.Kind !=2)||(!j.F6))||(decide (j.At>s.j7.P8+5000))))else(some false))=some (s.Cut&&(((j.Event.Kind !=2)||(!j.F6))||(decide (j.At>s.j7.P8+5000)))):=by cases s.Cut<;>rfl
      rw[hB]
      simp only[ac0]
      cases(s.Cut&&(((j.Event.Kind !=2)||(!j.F6))||(decide (j.At>s.j7.P8+5000))))<;>rfl
     ·rfl
    ·rfl
   rw[e2]
   simp only[N3,hb,cX9,ac0]
   cases onK j.Event.Kind==lv
   ·simp only[fh3]
    cases(bif fi then(!(j.F6==x.F6))||(j.F6&&((j.At !=x.At)|| !(x.Next== !lv)))else(j.F6||s.Cut))
    ·simp only[fh3]
     cases(s.Cut&&(((j.Event.Kind !=2)||(!j.F6))||(decide (j.At>s.j7.P8+5000))))
     ·exact ih (i+1) (!lv) false
     ·rfl
    ·rfl
   ·rfl
  ·have e1:(chn j.Event !=c)=true:=by simpa using hc
   have e2:ar6 (j::l) c=ar6 l c:=by unfold ar6;rw[eY1 (by simpa using hc)]
   have hb:ab3 s c x i j (lv,fi)=some (.next (lv,fi)):=by
    unfold ab3
    rw[(cH6 hj hn).1]
    simp only[ac0,e1,fh5]
   rw[e2]
   simp only[N3,hb,ac0]
   exact ih (i+1) lv fi
theorem dd8 (cut:Bool)(now:Int)(x:o4):∀(l:List A9) (lv:Bool),cX9 cut now x l lv false=(alt l lv&&(!cut||l.isEmpty))
 |[],lv=>by simp[cX9,alt]
 |j::r,lv=>by
  simp only[cX9,alt,dd8 cut now x r (!lv)]
  cases onK j.Event.Kind==lv<;>cases j.F6<;>cases cut<;>simp
theorem eD1 (cut:Bool)(now:Int)(x:o4)(l:List A9):cX9 cut now x l x.M9 true=(aI9 l x&&(!cut||bu7 now l)):=by
 cases l with
 |nil=>simp[cX9,aI9,bu7]
 |cons j r=>
  simp only[cX9,aI9,dd8]
  cases ho:onK j.Event.Kind==x.M9<;>cases ha:j.F6==x.F6<;>cases hj:j.F6<;>cases hn:(j.At !=x.At)<;>cases hx:(x.Next== !x.M9)<;>cases cut<;>cases r with
  |nil=>
   simp_all[bu7,alt]
   try
    cases x.M9
    ·simp
    ·rw[dJ4]
     simp
  |cons k r=>simp_all[bu7]
theorem eD2 (s:j2)(c:Nat)(hc:c<s.j7.j5.length)(n:Nat)(hn:n<=8)(h0:0<=s.j7.P8)(h1:s.j7.P8<=1099511627776)(hl:s.F3.length<=1000000)(hj:∀j∈s.F3,aK8 n j):
  as2 s (c:Int)=some (bF2 s (c:Int) s.j7.j5[c]):=by
 unfold as2
 rw[E8 _ _ hc]
 simp only[ac0]
 rw[M4 _ (by omega)]
 have h:=cQ5 s (c:Int) s.j7.j5[c] n hn h0 h1 s.F3 0 s.j7.j5[c].M9 true hj
 rw[eD1]at h
 exact h
def cp5 (s:j2):Bool:=
 decide (aE8 s.o9)&&bN9 s.j8&&Tm.ag2 s.j7&&decide (s.j7.j5.length=2*s.o9.z7.length)&&aW0 s.o9 s.Next&&decide (s.F3.length<=200)&&(s.j8.L9||s.F3.isEmpty)&&(s.F3.all fun j=>decide (aK8 s.o9.z7.length j))&&
  (ed5 0 s.j7.j5.length).all fun c=>match s.j7.j5[c]?with|some x=>bF2 s (c:Int) x|none=>false
structure aO4 (s:j2):Prop where
 eng:aE8 s.o9
 clk:bN9 s.j8=true
 tim:Tm.ag2 s.j7=true
 chs:s.j7.j5.length=2*s.o9.z7.length
 cH2:aW0 s.o9 s.Next=true
 most:s.F3.length<=200
 none:s.j8.L9=false->s.F3=[]
 job:∀j∈s.F3,aK8 s.o9.z7.length j
 line:∀c (h:c<s.j7.j5.length),bF2 s (c:Int) s.j7.j5[c]=true
theorem aY6 {s:j2}:cp5 s=true↔aO4 s:=by
 unfold cp5
 simp only[au2,fh8,by6,cx1]
 constructor
 ·rintro⟨⟨⟨⟨⟨⟨⟨⟨h1,h2⟩,h3⟩,h4⟩,h5⟩,h6⟩,h7⟩,h8⟩,h9⟩
  refine⟨h1,h2,h3,h4,h5,h6,fun hv=>?_,h8,fun c hc=>?_⟩
  ·rcases h7 with h|h
   ·rw[hv]at h;cases h
   ·simpa using h
  ·have:=h9 c (by rw[eN1];exact⟨c,hc,by omega⟩)
   rw[aJ9 hc]at this
   exact this
 ·intro h
  refine⟨⟨⟨⟨⟨⟨⟨⟨h.eng,h.clk⟩,h.tim⟩,h.chs⟩,h.cH2⟩,h.most⟩,?_⟩,h.job⟩,fun c hc=>?_⟩
  ·cases hv:s.j8.L9
   ·right;rw[h.none hv];rfl
   ·left;rfl
  ·rw[eN1]at hc
   obtain⟨i,hi,rfl⟩:=hc
   have e:0+1*i=i:=by omega
   rw[e,aJ9 hi]
   exact h.line i hi
theorem dp2 (l:List A9):decide ((l.length:Int)>0)= !l.isEmpty:=by cases l<;>simp
theorem bd1 (s:j2)(hn:s.Next.length<=1000000)(hl:s.F3.length<=1000000):K9 s=some (cp5 s):=by
 unfold K9
 rw[Ev.ap4,dE7,Tm.dK8]
 unfold cp5
 cases he:decide (aE8 s.o9)
 ·simp
 ·have he':=of_decide_eq_true he
  have hE:=he'.2.1
  cases hc:bN9 s.j8
  ·simp
  ·cases ht:Tm.ag2 s.j7
   ·simp
   ·have htl:=Tm.bG3 ht
    have e1:((s.j7.j5.length:Int) !=o6 (2*(s.o9.z7.length:Int)))= !decide (s.j7.j5.length=2*s.o9.z7.length):=by
     rw[k6 (by omega) (by omega),dJ4];simp;omega
    simp only[ac0,aK4,fh3,ed1,e1,cJ4]
    cases h2:decide (s.j7.j5.length=2*s.o9.z7.length)
    ·simp
    ·simp only[aK4,fh3,dg6 _ _ he' hn,ac0,cJ4]
     cases hw:aW0 s.o9 s.Next
     ·simp
     ·simp only[aK4,fh3,cJ4]
      have e2:decide ((s.F3.length:Int)>200)= !decide (s.F3.length<=200):=by rw[dJ4];simp;omega
      rw[e2,dp2]
      cases h3:decide (s.F3.length<=200)
      ·simp
      ·simp only[aK4,fh3,ac0,cJ4]
       cases h4:(s.j8.L9||s.F3.isEmpty)
       ·have:(!s.j8.L9&& !s.F3.isEmpty)=true:=by simp only[bG8]at h4;simp[h4.1,h4.2]
        rw[this];simp
       ·have:(!s.j8.L9&& !s.F3.isEmpty)=false:=by rcases Bool.or_eq_true_iff.1 h4 with h|h<;>simp[h]
        rw[this,eC8 s hl]
        simp only[fh3,ac0,cJ4]
        cases h5:s.F3.all fun j=>decide (aK8 s.o9.z7.length j)
        ·simp
        ·simp only[aK4,fh3,cJ4]
         have hj:∀j∈s.F3,aK8 s.o9.z7.length j:=by simpa using h5
         have k:=bw9 (f:=an8 s) (p:=fun c=>match s.j7.j5[c]?with|some x=>bF2 s (c:Int) x|none=>false) (r:=false) s.j7.j5.length 0 (fun c _ hc=>by
          have hc':c<s.j7.j5.length:=by omega
          unfold an8
          rw[eD2 s c hc' _ hE (by omega) (by omega) hl hj,aJ9 hc']
          simp only[ac0]
          cases bF2 s (c:Int) s.j7.j5[c]<;>rfl)
         rw[am7 _ (by omega)]
         rw[show((0:Nat):Int)=0 from rfl]at k
         rw[k]
         cases(ed5 0 s.j7.j5.length).all fun c=>match s.j7.j5[c]?with|some x=>bF2 s (c:Int) x|none=>false<;>rfl
theorem dY7 {n:Nat}{l:List A9}{c:Int}{j:A9}(hj:∀j∈l,aK8 n j)(hm:j∈ar6 l c):aK8 n j/\chn j.Event=c:=by
 unfold ar6 at hm
 rw[dO7]at hm
 exact⟨hj j hm.1,by simpa using hm.2⟩
theorem dr0 {n:Nat}{j:A9}(h:aK8 n j):(chn j.Event).tmod 2=if j.Event.Kind=3\/j.Event.Kind=4 then 1 else 0:=by
 have h1:=h.cyl
 have h0:=(dU8 h).1
 rw[do3 h0]
 unfold chn;split<;>omega
end Go.Pv.Sc
namespace Go.Pv.R1
open Go Go.Pv
end Go.Pv.R1
namespace Go.Pv.Sc
open Go Go.Pv Go.Pv.Ev
def upV (a b:Int):Int:=-((-a)/b)
theorem fc5 (a b : Int) (h0 : -4611686018427387904 <= a) (h1 : a <= 4611686018427387904) (hb : 0 < b) (hb1 : b <= 4611686018427387904) : aA0 a b = some (upV a b) := by
  unfold aA0 bo2 cg7 upV
  rw [if_neg (by omega), if_neg (by omega)]
  simp only [ac0]
  obtain ⟨k, rfl⟩ : ∃ k : Nat, b = k := ⟨b.toNat, by omega⟩
  have hk : k > 0 := by omega
  by_cases ha : 0 <= a
  · obtain ⟨m, rfl⟩ : ∃ m : Nat, a = m := ⟨a.toNat, by omega⟩
    have e1 : da8 (m : Int) (k : Int) = ((m / k : Nat) : Int) := rfl
    have e2 : ef7 (m : Int) (k : Int) = ((m % k : Nat) : Int) := rfl
    rw [e1, e2]
    have hq : m / k <= m := Nat.div_le_self _ _
    have hr := Nat.mod_lt m hk
    have hd := Nat.div_add_mod m k
    generalize m / k = q at hq hd
    generalize m % k = r at hr hd
    have ew : IntKind.i64.wrap (q : Int) = (q : Int) := k6 (by omega) (by omega)
    rw [ew]
    by_cases hr0 : r = 0
    · subst hr0
      have : -(m : Int) = (k : Int) * (-(q : Int)) := by rw [Int.mul_neg]; have : (m : Int) = ((k * q : Nat) : Int) := by omega
                                                         rw [this]; push_cast; rfl
      rw [this, Int.mul_ediv_cancel_left _ (by omega)]
      simp
    · have e3 : decide ((r : Int) > 0) = true := by simp; omega
      rw [e3, k6 (by omega) (by omega)]
      simp only [fh5, aj7]
      have : -(m : Int) = ((k - r : Nat) : Int) + (k : Int) * (-(q : Int) - 1) := by
        have h5 : (k : Int) * (-(q : Int) - 1) = -((k * q : Nat) : Int) - (k : Int) := by rw [Int.mul_sub, Int.mul_neg, Int.mul_one]; push_cast; rfl
        rw [h5]; omega
      rw [this, Int.add_mul_ediv_left _ _ (by omega), Int.ediv_eq_zero_of_lt (by omega) (by omega)]
      omega
  · obtain ⟨m, rfl⟩ : ∃ m : Nat, a = -(m : Int) := ⟨a.natAbs, by omega⟩
    have e1 : da8 (-(m : Int)) (k : Int) = -((m / k : Nat) : Int) := by rw [Int.neg_tdiv]; rfl
    have e2 : ef7 (-(m : Int)) (k : Int) = -((m % k : Nat) : Int) := by rw [Int.neg_tmod]; rfl
    rw [e1, e2, Int.neg_neg]
    have e4 : (m : Int) / (k : Int) = ((m / k : Nat) : Int) := rfl
    rw [e4]
    have hq : m / k <= m := Nat.div_le_self _ _
    generalize m / k = q at hq
    generalize m % k = r
    have e3 : decide (-(r : Int) > 0) = false := fh7 (by omega)
    have ew : IntKind.i64.wrap (-(q : Int)) = -(q : Int) := k6 (by omega) (by omega)
    rw [e3, ew]
    rfl
theorem ed2 {a b:Int}(hb:0<b)(h0:-1125899906842624<=a)(h1:a<=1125899906842624):-1125899906842624<=upV a b/\upV a b<=1125899906842624:=by
 unfold upV
 have h2:-1125899906842624<=(-a)/b:=by
  rw[Int.le_ediv_iff_mul_le hb]
  have:-1125899906842624*b<= -1125899906842624*1:=Int.mul_le_mul_of_nonpos_left (by omega) (by omega)
  omega
 have h3:(-a)/b<=1125899906842624:=by
  apply Int.le_of_lt_add_one
  rw[Int.ediv_lt_iff_lt_mul hb]
  have:(1125899906842624+1)*1<=(1125899906842624+1)*b:=ed9 (by omega) (by omega)
  omega
 omega
def split (c:Int):List A9->Option (List A9×A9×List A9)
 |[]=>none
 |j::r=>if chn j.Event=c then some ([],j,r)else(split c r).map fun t=>(j::t.1,t.2.1,t.2.2)
theorem bk7 {c:Int}:∀{l:List A9}{a:List A9}{j:A9}{b:List A9},split c l=some (a,j,b)->l=a++j::b/\chn j.Event=c/\∀y∈a,chn y.Event≠c
 |[],a,j,b,h=>by simp[split]at h
 |x::r,a,j,b,h=>by
  simp only[split]at h
  by_cases hc:chn x.Event=c
  ·rw[if_pos hc]at h
   cases h
   exact⟨rfl,hc,fun y hy=>by simp at hy⟩
  ·rw[if_neg hc]at h
   cases hs:split c r with
   |none=>rw[hs]at h;simp at h
   |some t=>
    obtain⟨a',j',b'⟩:=t
    rw[hs]at h
    simp only[cb0,aj7,Prod.mk.injEq]at h
    obtain⟨rfl,rfl,rfl⟩:=h
    obtain⟨h1,h2,h3⟩:=bk7 hs
    exact⟨by rw[h1];rfl,h2,fun y hy=>by
     rcases cr6.1 hy with rfl|hy
     ·exact hc
     ·exact h3 y hy⟩
theorem cU8 {c:Int}:∀{l:List A9},split c l=none->∀y∈l,chn y.Event≠c
 |[],_,y,hy=>by simp at hy
 |x::r,h,y,hy=>by
  simp only[split]at h
  by_cases hc:chn x.Event=c
  ·rw[if_pos hc]at h;cases h
  ·rw[if_neg hc]at h
   cases hs:split c r with
   |none=>
    rcases cr6.1 hy with rfl|hy
    ·exact hc
    ·exact cU8 hs y hy
   |some t=>rw[hs]at h;simp at h
theorem aS2 (a b:List A9)(c:Int):ar6 (a++b) c=ar6 a c++ar6 b c:=by unfold ar6;rw[dR0]
theorem bw0 {l:List A9}{c:Int}(h:∀y∈l,chn y.Event≠c):ar6 l c=[]:=by
 unfold ar6
 rw[eB1]
 intro y hy
 simpa using h y hy
theorem ca8 {j:A9}{l:List A9}{c:Int}(h:chn j.Event=c):ar6 (j::l) c=j::ar6 l c:=by unfold ar6;rw[eb4 (by simpa using h)]
theorem ca7 {j:A9}{l:List A9}{c:Int}(h:chn j.Event≠c):ar6 (j::l) c=ar6 l c:=by unfold ar6;rw[eY1 (by simpa using h)]
theorem cR2 {c:Int}{l a b:List A9}{j:A9}(h:split c l=some (a,j,b)):ar6 l c=j::ar6 b c:=by
 obtain⟨rfl,h2,h3⟩:=bk7 h
 rw[aS2,bw0 h3,cY1,ca8 h2]
theorem dY8 {c:Int}{l:List A9}(h:split c l=none):ar6 l c=[]:=bw0 (cU8 h)
def cv4 (c:Int)(l:List A9):Int:=match split c l with|some t=>(t.1.length:Int)|none=>-1
theorem cB2 (c:Int)(n:Nat)(hn:n<=8):∀(l:List A9) (i:Nat),(∀j∈l,aK8 n j)->N3 (fun(i:Int) x (_:Unit)=>ab6 (X9 x c) fun v=>bif v then(some (Fl.ret i))else(some (Fl.next ()))) l (i:Int) ()=
  some (match split c l with|some t=>.inr ((i+t.1.length:Nat):Int)|none=>.inl ())
 |[],i,_=>rfl
 |j::l,i,h=>by
  have hj:=h j (bL5 ..)
  simp only[N3,X9,(cH6 hj hn).1,ac0,split]
  by_cases hc:chn j.Event=c
  ·have e:(chn j.Event==c)=true:=by simpa using hc
   rw[e,if_pos hc];rfl
  ·have e:(chn j.Event==c)=false:=by simpa using hc
   rw[e,if_neg hc]
   simp only[fh3,ac0]
   have:=cB2 c n hn l (i+1) (fun y hy=>h y (bO9 _ hy))
   rw[show((i:Int)+1)=((i+1:Nat):Int) by omega]
   unfold X9 at this
   rw[this]
   cases split c l with
   |none=>rfl
   |some t=>simp;omega
theorem bS6 (c:Int)(n:Nat)(hn:n<=8)(l:List A9)(hl:l.length<=1000000)(h:∀j∈l,aK8 n j):D4 l (fun x0=>X9 x0 c)=some (cv4 c l):=by
 unfold D4 R5
 rw[bc9 l (by omega) (fun(i:Int) x (_:Unit)=>ab6 (X9 x c) fun v=>bif v then(some (Fl.ret i))else(some (Fl.next ())))]
 have:=cB2 c n hn l 0 h
 rw[show((0:Nat):Int)=0 from rfl]at this
 rw[this]
 unfold cv4
 cases split c l with
 |none=>rfl
 |some t=>simp
def bP2 (now:Int)(k:B8)(j:A9):Int:=K2 (k.At+upV (j.Left*k.A0) k.M5) (now+1)
def dp5 (now:Int)(k:B8)(c:Nat)(u:List o4×List A9):List o4×List A9:=
 match split (c:Int) u.2 with
 |none=>u
 |some (a,j,b)=>if j.Left>k.Q4\/bP2 now k j>1099511627776 then u else
   match u.1[c]?with
   |none=>u
   |some x=>(u.1.set c ⟨true,bP2 now k j,onK j.Event.Kind,x.M9⟩,a++⟨j.Event,j.Left,true,bP2 now k j⟩::b)
def cc2 (now:Int)(k:B8):Nat->List o4×List A9->List o4×List A9
 |0,u=>u
 |c+1,u=>dp5 now k c (cc2 now k c u)
structure Rows (n:Nat)(now:Int)(u:List o4×List A9):Prop where
 len:u.1.length=2*n
 ch:∀x∈u.1,Tm.chB now x=true
 job:∀j∈u.2,aK8 n j
 row:∀c (h:c<u.1.length),aI9 (ar6 u.2 (c:Int)) u.1[c]=true
theorem dM5 {now at_:Int}{b l:Bool}(h0:now<at_)(h1:at_<=1099511627776):Tm.chB now ⟨true,at_,b,l⟩=true:=by
 unfold Tm.chB
 simp only[fh5,bZ6,bG8,fh9]
 omega
theorem dp4 (now:Int)(k:B8)(j:A9):now<bP2 now k j:=by unfold bP2 K2;split<;>omega
theorem eF8 {j:A9}{r:List A9}{x:o4}(at_:Int)(h:aI9 (j::r) x=true):aI9 (⟨j.Event,j.Left,true,at_⟩::r) ⟨true,at_,onK j.Event.Kind,x.M9⟩=true:=by
 unfold aI9 at h|-
 simp only[au2,bZ6]at h
 obtain⟨⟨⟨h1,_⟩,_⟩,h4⟩:=h
 have hk:onK j.Event.Kind= !x.M9:=by cases hk:onK j.Event.Kind<;>cases hx:x.M9<;>simp_all
 simp[h4,hk]
theorem eg7 {n:Nat}{now:Int}{k:B8}{c:Nat}{u:List o4×List A9}(h:Rows n now u):Rows n now (dp5 now k c u):=by
 unfold dp5
 cases hs:split (c:Int) u.2 with
 |none=>exact h
 |some t=>
  obtain⟨a,j,b⟩:=t
  simp only
  split
  ·exact h
  ·rename_i hq
   have hq1:bP2 now k j<=1099511627776:=by
    by_cases h5:bP2 now k j>1099511627776
    ·exact absurd (.inr h5) hq
    ·omega
   cases hx:u.1[c]?with
   |none=>exact h
   |some x=>
    obtain⟨hc,rfl⟩:=bD8.1 hx
    obtain⟨hl,hj,ha⟩:=bk7 hs
    have hjm:j∈u.2:=by rw[hl];simp
    have hjk:=h.job j hjm
    refine⟨by simp[h.len],fun y hy=>?_,fun y hy=>?_,fun d hd=>?_⟩
    ·rcases fd7 hy with hy|rfl
     ·exact h.ch y hy
     ·exact dM5 (dp4 now k j) hq1
    ·simp only[do2,cr6]at hy
     rcases hy with hy|rfl|hy
     ·exact h.job y (by rw[hl];simp[hy])
     ·exact⟨hjk.cyl,hjk.kind,hjk.ef9,hjk.bT5,hjk.left,.inl rfl⟩
     ·exact h.job y (by rw[hl];simp[hy])
    ·simp only[ee7]at hd
     have aQ9:=h.row d hd
     simp only[eX2]
     by_cases hdc:c=d
     ·subst hdc
      rw[if_pos rfl,aS2,bw0 ha,cY1,ca8 (by exact hj)]
      rw[cR2 hs]at aQ9
      exact eF8 _ aQ9
     ·rw[if_neg hdc,aS2,ca7 (by show chn j.Event≠(d:Int);rw[hj];omega)]
      rw[hl,aS2,ca7 (by rw[hj];omega)]at aQ9
      exact aQ9
theorem cs3 {n:Nat}{now:Int}{k:B8}{u:List o4×List A9}(h:Rows n now u):∀m,Rows n now (cc2 now k m u)
 |0=>h
 |m+1=>eg7 (cs3 h m)
theorem dU0 (now:Int)(k:B8)(c:Nat)(u:List o4×List A9):(dp5 now k c u).2.length=u.2.length:=by
 unfold dp5
 cases hs:split (c:Int) u.2 with
 |none=>rfl
 |some t=>
  obtain⟨a,j,b⟩:=t
  simp only
  split
  ·rfl
  ·cases u.1[c]?with
   |none=>rfl
   |some x=>
    have:=(bk7 hs).1
    simp[this]
theorem bC5 (now:Int)(k:B8)(u:List o4×List A9):∀m,(cc2 now k m u).2.length=u.2.length
 |0=>rfl
 |m+1=>by rw[cc2,dU0,bC5 now k u m]
theorem cK2 (now:Int)(k:B8)(ch:List o4):∀m,cc2 now k m (ch,[])=(ch,[])
 |0=>rfl
 |m+1=>by rw[cc2,cK2 now k ch m];rfl
theorem dU1 {n:Nat}{k:B8}{j:A9}(hk:bC3 k)(hj:aK8 n j):(-1125899906842624<=j.Left*k.A0/\j.Left*k.A0<=1125899906842624)/\(-1125899906842624<=upV (j.Left*k.A0) k.M5/\upV (j.Left*k.A0) k.M5<=1125899906842624):=by
 have h1:=hj.left;have h2:=hk.p0;have h3:=hk.p1;have h4:=hk.s0
 have a:j.Left*k.A0<=1048576*1073741824:=by
  by_cases h0:0<=j.Left
  ·exact eP1 h1.2 h3 (by omega) (by omega)
  ·have:j.Left*k.A0<=0:=Int.mul_nonpos_of_nonpos_of_nonneg (by omega) (by omega)
   omega
 have b:-(1048576*1073741824)<=j.Left*k.A0:=by
  by_cases h0:0<=j.Left
  ·have:0<=j.Left*k.A0:=eP2 h0 (by omega)
   omega
  ·have:(-j.Left)*k.A0<=1048576*1073741824:=eP1 (by omega) h3 (by omega) (by omega)
   rw[Int.neg_mul]at this
   omega
 exact⟨⟨by omega,by omega⟩,ed2 (by omega) (by omega) (by omega)⟩
theorem cI9 {n:Nat}{now:Int}{u:List o4×List A9}(h:Rows n now u)(h0:0<=now)(h1:now<=1099511627776)(hn:1<=n)(hn8:n<=8):Tm.ag2 ⟨now,u.1⟩=true:=by
 unfold Tm.ag2
 have hl:=h.len
 rw[Tm.dt5 (by simp only;omega)]
 simp only[cI8,cJ4,by6]
 exact h.ch
theorem dQ9 (a b:List A9)(j j':A9):ak9 (a++j::b) (a.length:Int) j'=some (a++j'::b):=by
 rw[aa6 _ _ _ (by simp)]
 simp
theorem dO1 (a b:List A9)(j:A9):F0 (a++j::b) (a.length:Int)=some j:=by
 rw[S0];simp
theorem eg8 {n:Nat}{s:j2}{now:Int}{u:List o4×List A9}(hu:Rows n now u)(hk:bC3 s.j8)(h0:0<=now)(h1:now<=1099511627776)(hn:1<=n)(hn8:n<=8)(hl:u.2.length<=1000000)(c:Nat)(hc:c<2*n):
  Y0 s (c:Int) (⟨now,u.1⟩,u.2)=some (.next (⟨now,(dp5 now s.j8 c u).1⟩,(dp5 now s.j8 c u).2)):=by
 unfold Y0
 simp only
 rw[bS6 (c:Int) n hn8 u.2 hl hu.job]
 have hcl:c<u.1.length:=by rw[hu.len];exact hc
 unfold cv4 dp5
 cases hs:split (c:Int) u.2 with
 |none=>rfl
 |some t=>
  obtain⟨a,j,b⟩:=t
  obtain⟨hl2,hj,ha⟩:=bk7 hs
  have hjm:j∈u.2:=by rw[hl2];simp
  have hjk:=hu.job j hjm
  obtain⟨r1,r2⟩:=dU1 hk hjk
  have hka:=hk.at0;have hka1:=hk.at1
  simp only[ac0]
  have e1:decide ((a.length:Int)<0)=false:=by simp
  have eg:F0 u.2 (a.length:Int)=some j:=by rw[hl2];exact dO1 a b j
  rw[e1,eg]
  simp only[fh3,ac0]
  by_cases hla:j.Left>s.j8.Q4
  ·rw[fh6 hla,if_pos (.inl hla)]
   rfl
  ·rw[fh7 hla]
   simp only[fh3]
   rw[k6 (n:=j.Left*s.j8.A0) (by omega) (by omega),fc5 _ _ (by omega) (by omega) (by have:=hk.s0;omega) (by have:=hk.s1;omega)]
   simp only[ac0]
   rw[k6 (n:=s.j8.At+upV (j.Left*s.j8.A0) s.j8.M5) (by omega) (by omega),k6 (n:=now+1) (by omega) (by omega)]
   have hat:K2 (s.j8.At+upV (j.Left*s.j8.A0) s.j8.M5) (now+1)=bP2 now s.j8 j:=rfl
   rw[hat]
   by_cases hmx:bP2 now s.j8 j>1099511627776
   ·rw[fh6 hmx,if_pos (.inr hmx)];rfl
   ·rw[fh7 hmx,if_neg (by omega)]
    simp only[fh3]
    have eo:as3 j.Event.Kind=some (onK j.Event.Kind):=rfl
    rw[eo]
    simp only[ac0]
    have hgt:=dp4 now s.j8 j
    have e2:decide (bP2 now s.j8 j<=now)=false:=by simp;omega
    have e3:decide (bP2 now s.j8 j>Tm.cD5)=false:=by unfold Tm.cD5;simp;omega
    rw[Tm.eg6 ⟨now,u.1⟩ _ _ _ c rfl hcl (cI9 hu h0 h1 hn hn8)]
    simp only
    rw[e2,e3]
    simp only[fh3,ac0,beq_self_eq_true,fh5]
    rw[hl2,dQ9]
    simp only[ac0]
    rw[dQ9,aJ9 hcl]
    rfl
theorem ez3 {n:Nat}{s:j2}{now:Int}{u:List o4×List A9}(hu:Rows n now u)(hk:bC3 s.j8)(h0:0<=now)(h1:now<=1099511627776)(hn:1<=n)(hn8:n<=8)(hl:u.2.length<=1000000):
  N1 ((2*n:Nat):Int) (Y0 s) (⟨now,u.1⟩,u.2)=some (.inl (⟨now,(cc2 now s.j8 (2*n) u).1⟩,(cc2 now s.j8 (2*n) u).2)):=by
 obtain⟨t,k1,k2⟩:=ah4 (R:=Empty) (2*n) (by omega) (Y0 s) (fun c t=>t=(⟨now,(cc2 now s.j8 c u).1⟩,(cc2 now s.j8 c u).2)) (⟨now,u.1⟩,u.2) rfl (fun c hc t ht=>by
  subst ht
  refine⟨_,eg8 (cs3 hu c) hk h0 h1 hn hn8 (by rw[bC5];exact hl) c hc,rfl⟩)
 rw[k1,k2]
def put (s:j2)(now:Int)(u:List o4×List A9):j2:=⟨s.o9,s.j8,⟨now,u.1⟩,s.Next,u.2,s.Cut⟩
def bN4 (s:j2):j2:=if s.Cut then s else put s s.j7.P8 (cc2 s.j7.P8 s.j8 s.j7.j5.length (s.j7.j5,s.F3))
theorem ca0 (s:j2)(t:u5):∀(k i:Nat),aX0 (Y0 s) k (i:Int) (t,[])=some (.inl (t,[]))
 |0,_=>rfl
 |k+1,i=>by
  have:Y0 s (i:Int) (t,[])=some (.next (t,[])):=by
   unfold Y0
   have hi:D4 [] (fun x0=>X9 x0 (i:Int))=some (-1):=by
    unfold D4
    rw[show((([]:List A9).length:Nat):Int)=((0:Nat):Int)from rfl,am7 0 (by decide)]
    rfl
   simp only[hi]
   rfl
  simp only[aX0,this,ac0]
  exact ca0 s t k (i+1)
theorem dQ8 {n:Nat}{s:j2}(hu:Rows n s.j7.P8 (s.j7.j5,s.F3))(hk:s.F3=[]\/bC3 s.j8)(h0:0<=s.j7.P8)(h1:s.j7.P8<=1099511627776)(hn:1<=n)(hn8:n<=8)(hl:s.F3.length<=1000000):
  al8 s=some (bN4 s):=by
 unfold al8 bN4
 have hlen:=hu.len
 simp only at hlen
 cases aK7:s.Cut
 ·simp only[fh3,do8,if_false]
  rcases hk with hk|hk
  ·rw[hk,cK2,am7 _ (by omega)]
   have:=ca0 s s.j7 s.j7.j5.length 0
   rw[show((0:Nat):Int)=0 from rfl]at this
   rw[this]
   unfold put
   simp only[ac0,aK7]
  ·have:=ez3 (s:=s) hu hk h0 h1 hn hn8 hl
   simp only at this
   have e:(⟨s.j7.P8,s.j7.j5⟩:u5)=s.j7:=rfl
   rw[e]at this
   rw[hlen,this]
   unfold put
   simp only[ac0,aK7]
 ·rfl
theorem bJ5 {α:Type}(f:α->Option Bool)(p:α->Bool):∀(l:List α) (i:Nat),(∀y∈l,f y=some (p y))->N3 (fun(i:Int) x (_:Unit)=>ab6 (f x) fun v=>bif v then(some (Fl.ret i))else(some (Fl.next ()))) l (i:Int) ()=
  some (match l.findIdx? p with|some k=>.inr ((i+k:Nat):Int)|none=>.inl ())
 |[],i,_=>rfl
 |y::l,i,h=>by
  simp only[N3,h y (bL5 ..),ac0,fg1]
  cases p y
  ·have:=bJ5 f p l (i+1) (fun y hy=>h y (bO9 _ hy))
   rw[show((i:Int)+1)=((i+1:Nat):Int) by omega]
   simp only[fh3,ac0,do8,if_false]
   rw[this]
   cases l.findIdx? p with
   |none=>rfl
   |some k=>simp;omega
  ·simp
theorem find_eq (l:List A9)(hl:l.length<=1000000)(f:A9->Option Bool)(p:A9->Bool)(h:∀y∈l,f y=some (p y)):D4 l f=some (match l.findIdx? p with|some k=>(k:Int)|none=>-1):=by
 unfold D4 R5
 rw[bc9 l (by omega) (fun(i:Int) x (_:Unit)=>ab6 (f x) fun v=>bif v then(some (Fl.ret i))else(some (Fl.next ())))]
 have:=bJ5 f p l 0 h
 rw[show((0:Nat):Int)=0 from rfl]at this
 rw[this]
 cases l.findIdx? p with
 |none=>rfl
 |some k=>simp
theorem cv3 {α:Type}{p:α->Bool}:∀{l:List α}{k:Nat},l.findIdx? p=some k->k<l.length/\(l.take (k+1)).filter (fun y=>!p y)=l.take k
 |[],k,h=>by simp at h
 |y::l,k,h=>by
  rw[fg1]at h
  cases hp:p y
  ·rw[hp]at h
   simp only[do8,if_false]at h
   cases hf:l.findIdx? p with
   |none=>rw[hf]at h;simp at h
   |some m=>
    rw[hf]at h
    simp only[cb0,aj7]at h
    subst h
    obtain⟨h1,h2⟩:=cv3 hf
    exact⟨by simpa using h1,by simp only[List.take_succ_cons,ew7,hp,cI8,if_true];rw[h2]⟩
  ·rw[hp]at h
   simp only[if_true,aj7]at h
   subst h
   exact⟨by simp,by simp[hp]⟩
theorem dc3 {α:Type}{p:α->Bool}{l:List α}(h:l.findIdx? p=none):l.filter (fun y=>!p y)=l:=by
 rw[List.findIdx?_eq_none_iff]at h
 rw[fd5]
 intro y hy
 simp[h y hy]
theorem cN2 {α:Type}(s:List α)(i:Nat)(z:α)(hi:i<=s.length):ay9 (bI6 s (i:Int) (s.length:Int) z) 0 (i:Int)=some (s.take i):=by
 have e:bI6 s (i:Int) (s.length:Int) z=s.take i++cD1 (s.length-i) z:=by
  unfold bI6 av3
  simp only[eI8,eH5]
  rw[List.drop_eq_nil_of_le (by omega),dn6]
 have hl:(s.take i++cD1 (s.length-i) z).length=s.length:=by
  rw[aX7,bs8,eH5];omega
 rw[e]
 unfold ay9
 rw[if_pos ⟨by omega,by omega,by rw[hl];omega⟩]
 simp only[eI8,Int.toNat_zero,List.drop_zero,Nat.sub_zero]
 rw[List.take_append_of_le_length (by rw[bs8];omega),List.take_take,Nat.min_self]
theorem del_eq (l:List A9)(hl:l.length<=1000000)(f:A9->Option Bool)(p:A9->Bool)(h:∀y∈l,f y=some (p y)):N2 l f=some (l.filter fun y=>!p y):=by
 unfold N2
 rw[find_eq l hl f p h]
 cases hf:l.findIdx? p with
 |none=>simp only[ac0];rw[dc3 hf];rfl
 |some v=>
  obtain⟨hv,htk⟩:=cv3 hf
  simp only[ac0]
  have e0:((v:Int)== -1)=false:=beq_eq_false_iff_ne.2 (by omega)
  rw[e0,k6 (n:=(v:Int)+1) (by omega) (by omega)]
  simp only[fh3]
  obtain⟨t,k1,k2⟩:=cw3 (mb:=au6 f)
   (fun j st=>∃i:Nat,st.1=(i:Int)/\st.2.1=((v+1+j:Nat):Int)/\i<v+1+j/\i=((l.take (v+1+j)).filter fun y=>!p y).length/\st.2.2.length=l.length/\st.2.2.take i=((l.take (v+1+j)).filter fun y=>!p y)/\st.2.2.drop (v+1+j)=l.drop (v+1+j))
   (fun t=>∃(s:List A9) (i:Nat),t= .inl ((i:Int),(l.length:Int),s)/\s.length=l.length/\i<=l.length/\s.take i=l.filter fun y=>!p y) (l.length-(v+1)) 0 ((v:Int),(v:Int)+1,l)
   ⟨v,rfl,by push_cast;omega,by omega,by rw[Nat.add_zero,htk,bs8];omega,rfl,by rw[Nat.add_zero,htk],rfl⟩
   (fun j _ hj st ⟨i,h1,h2,h3,h4,h5,h6,h7⟩=>by
    have hjl:v+1+j<l.length:=by omega
    have cX7:F0 st.2.2 st.2.1=some l[v+1+j]:=by
     rw[h2,S0,<-ey0,h7,ey0,aJ9 hjl]
    have hlt:decide (st.2.1<(st.2.2.length:Int))=true:=by rw[h2,h5];simp;omega
    have htk2:l.take (v+1+(j+1))=l.take (v+1+j)++[l[v+1+j]]:=by rw[<-dM6];exact dC0 hjl
    have hdr:∀s:List A9,s.drop (v+1+j)=l.drop (v+1+j)->s.drop (v+1+(j+1))=l.drop (v+1+(j+1)):=fun s hs=>by
     rw[<-dM6,<-ep0,hs,ep0]
    unfold au6
    rw[hlt,cX7]
    simp only[fh5,ac0,h _ (bf2 hjl)]
    rw[h2,k6 (n:=((v+1+j:Nat):Int)+1) (by omega) (by omega)]
    cases hp:p l[v+1+j]
    ·have hi:i<st.2.2.length:=by omega
     simp only[cI8,fh5]
     rw[h1,E8 _ _ hi]
     simp only[ac0]
     rw[aa6 _ _ _ hi,k6 (n:=(i:Int)+1) (by omega) (by omega)]
     have hfl:((l.take (v+1+(j+1))).filter fun y=>!p y)=((l.take (v+1+j)).filter fun y=>!p y)++[l[v+1+j]]:=by
      rw[htk2,dR0];simp[hp]
     refine⟨_,rfl,i+1,by push_cast;rfl,by push_cast;omega,by omega,?_,by simp[h5],?_,?_⟩
     ·rw[hfl,aX7,<-h4];rfl
     ·rw[hfl,<-h6]
      rw[dC0 (by simpa using hi),List.take_set_of_le (cB6 _),ex9]
     ·refine hdr _ ?_
      rw[List.drop_set_of_lt (by omega)];exact h7
    ·simp only[aK4,fh3]
     have hfl:((l.take (v+1+(j+1))).filter fun y=>!p y)=((l.take (v+1+j)).filter fun y=>!p y):=by
      rw[htk2,dR0];simp[hp]
     exact⟨_,rfl,i,h1,by push_cast;omega,by omega,by rw[hfl];exact h4,h5,by rw[hfl];exact h6,hdr _ h7⟩)
   (fun st ⟨i,h1,h2,h3,h4,h5,h6,h7⟩=>by
    have hn:v+1+(0+(l.length-(v+1)))=l.length:=by omega
    rw[hn]at h2 h3 h4 h6
    have hlt:decide (st.2.1<(st.2.2.length:Int))=false:=by rw[h2,h5];simp
    unfold au6
    rw[hlt]
    simp only[fh3]
    refine⟨_,rfl,st.2.2,i,?_,h5,by omega,by rw[h6,eI1]⟩
    rw[h1,h2])
  obtain⟨s,i,rfl,hs,hi,ht⟩:=k2
  rw[k1]
  simp only[ac0]
  have hc:cl5 (i:Int) (s.length:Int) s.length=some ():=by unfold cl5;rw[if_pos ⟨by omega,by omega,by omega⟩]
  rw[hc]
  simp only[ac0]
  have hsl:ay9 (bI6 s (i:Int) (s.length:Int) (⟨(⟨0,0,0,0⟩:C8),0,false,0⟩:A9)) 0 (i:Int)=some (s.take i):=cN2 s i _ (by omega)
  rw[hsl,ht]
  rfl
def bE2 (at_:Int)(j:A9):Bool:=j.F6&&(j.At==at_)
theorem em3 (l:List A9)(hl:l.length<=1000000)(at_:Int):N2 l (fun x0=>ap0 x0 at_)=some (l.filter fun j=>!bE2 at_ j):=
 del_eq l hl _ (bE2 at_) (fun _ _=>rfl)
def cD6 (at_:Int)(u:List o4×List A9):List o4×List A9:=(u.1.map (Tm.bH0 at_),u.2.filter fun j=>!bE2 at_ j)
theorem cz3:∀{l:List A9}{lv:Bool},alt l lv=true->∀k∈l,k.F6=false
 |[],lv,_,k,hk=>by simp at hk
 |j::r,lv,h,k,hk=>by
  simp only[alt,au2,bZ6]at h
  rcases cr6.1 hk with rfl|hk
  ·exact h.1.2
  ·exact cz3 h.2 k hk
theorem ez0 {l:List A9}{lv:Bool}(h:alt l lv=true):aI9 l ⟨false,0,false,lv⟩=true:=by
 cases l with
 |nil=>simpa[aI9,alt]using h
 |cons j r=>
  simp only[alt,au2,bZ6]at h
  simp[aI9,h.1.1,h.1.2,h.2]
theorem cP2 {l:List A9}(at_:Int)(h:∀k∈l,k.F6=false):(l.filter fun j=>!bE2 at_ j)=l:=by
 rw[fd5]
 intro k hk
 simp[bE2,h k hk]
theorem cB9 (l:List A9)(c at_:Int):ar6 (l.filter fun j=>!bE2 at_ j) c=(ar6 l c).filter fun j=>!bE2 at_ j:=by
 unfold ar6
 rw[fg0,fg0]
 congr 1
 funext j
 exact Bool.and_comm _ _
theorem eF7 {l:List A9}{x:o4}{at_:Int}(h:aI9 l x=true)(cv8:x.F6=true->at_<=x.At):aI9 (l.filter fun j=>!bE2 at_ j) (Tm.bH0 at_ x)=true:=by
 cases l with
 |nil=>
  simp only[aI9,au2,bZ6]at h
  have:Tm.bH0 at_ x=x:=by unfold Tm.bH0 Tm.due;rw[h.2];rfl
  rw[this]
  simp[aI9,h.1,h.2]
 |cons j r=>
  have h':=h
  simp only[aI9,au2,bZ6,cx1,beq_iff_eq]at h
  obtain⟨⟨⟨h1,h2⟩,h3⟩,h4⟩:=h
  have hr:=cP2 at_ (cz3 h4)
  cases hx:x.F6
  ·have hj:j.F6=false:=by rw[h2];exact hx
   have e1:Tm.bH0 at_ x=x:=by unfold Tm.bH0 Tm.due;rw[hx];rfl
   have e2:bE2 at_ j=false:=by unfold bE2;rw[hj];rfl
   rw[e1,ew7,e2]
   simp only[cI8,if_true]
   rw[hr];exact h'
  ·have hj:j.F6=true:=by rw[h2];exact hx
   have h3':j.At=x.At/\x.Next= !x.M9:=by
    rcases h3 with h3|h3
    ·rw[hj]at h3;cases h3
    ·exact h3
   have hm:=cv8 hx
   by_cases ha:x.At=at_
   ·have e1:Tm.bH0 at_ x=⟨false,0,false,!x.M9⟩:=by
     unfold Tm.bH0 Tm.due
     have:decide (x.At>at_)=false:=by simp;omega
     rw[hx,this,h3'.2];rfl
    have e2:bE2 at_ j=true:=by unfold bE2;rw[hj,h3'.1,ha];simp
    rw[e1,ew7,e2]
    simp only[aK4,do8,if_false]
    rw[hr];exact ez0 h4
   ·have e1:Tm.bH0 at_ x=x:=by
     unfold Tm.bH0 Tm.due
     have:decide (x.At>at_)=true:=by simp;omega
     rw[hx,this];rfl
    have e2:bE2 at_ j=false:=by unfold bE2;rw[hj,h3'.1];simp[ha]
    rw[e1,ew7,e2]
    simp only[cI8,if_true]
    rw[hr];exact h'
theorem ef6 {n:Nat}{now at_:Int}{u:List o4×List A9}(h:Rows n now u)(h0:0<=now)(h1:now<at_)(h2:at_<=1099511627776)(hn:1<=n)(hn8:n<=8)(cv8:∀x∈u.1,x.F6=true->at_<=x.At):Rows n at_ (cD6 at_ u):=by
 have ht:=cI9 h h0 (by omega) hn hn8
 have ht2:=Tm.ew0 (M8:=at_) ht (by simp only;omega) (by omega)
 refine⟨by simp[cD6,h.len],?_,fun j hj=>h.job j (dO7.1 hj).1,fun c hc=>?_⟩
 ·unfold Tm.ag2 at ht2
  simp only[au2,by6]at ht2
  exact ht2.2
 ·have hc':c<u.1.length:=by simpa[cD6]using hc
  simp only[cD6,List.getElem_map]
  rw[cB9]
  exact eF7 (h.row c hc') (cv8 _ (bf2 hc'))
theorem eA1 {now at_:Int}{l:List A9}(h:bu7 now l=true)(hle:now<=at_):bu7 at_ (l.filter fun j=>!bE2 at_ j)=true:=by
 match l,h with
 |[],_=>rfl
 |[j],h=>
  rw[ew7]
  cases bE2 at_ j
  ·simp only[cI8,if_true,eK3]
   simp only[bu7,au2,fh8]at h|-
   exact⟨h.1,by omega⟩
  ·rfl
 |i::j::r,h=>simp[bu7]at h
theorem dp0 {n:Nat}{now at_:Int}{u:List o4×List A9}(h:Rows n now u){x:o4}(hx:x∈u.1)(ha:x.F6=true)(hat:x.At=at_):(cD6 at_ u).2.length<u.2.length:=by
 obtain⟨c,hc,rfl⟩:=da7.1 hx
 have hr:=h.row c hc
 cases hm:ar6 u.2 (c:Int)with
 |nil=>rw[hm]at hr;simp[aI9,ha]at hr
 |cons j r=>
  rw[hm]at hr
  simp only[aI9,au2,bZ6,cx1,beq_iff_eq]at hr
  obtain⟨⟨⟨_,h2⟩,h3⟩,_⟩:=hr
  have hj:j.F6=true:=by rw[h2];exact ha
  have h3':j.At=u.1[c].At:=by
   rcases h3 with h3|h3
   ·rw[hj]at h3;cases h3
   ·exact h3.1
  have hjm:j∈u.2:=by
   have:j∈ar6 u.2 (c:Int):=by rw[hm];exact bL5 ..
   exact(dO7.1 this).1
  have hd:bE2 at_ j=true:=by unfold bE2;rw[hj,h3',hat];simp
  unfold cD6
  exact List.length_filter_lt_length_iff_exists.2 ⟨j,hjm,by simp[hd]⟩
structure Live (n:Nat)(s:j2):Prop where
 eng:n=s.o9.z7.length
 n1:1<=n
 n8:n<=8
 rows:Rows n s.j7.P8 (s.j7.j5,s.F3)
 cut:s.Cut=true->∀c,c<s.j7.j5.length->bu7 s.j7.P8 (ar6 s.F3 (c:Int))=true
 cG3:0<=s.j7.P8
 dl6:s.j7.P8<=1099511627776
 clk:(s.j8.L9=false/\s.F3=[])\/(s.j8.L9=true/\bC3 s.j8)
 most:s.F3.length<=1000
theorem Live.tim {n:Nat}{s:j2}(h:Live n s):Tm.ag2 s.j7=true:=cI9 h.rows h.cG3 h.dl6 h.n1 h.n8
theorem Live.len {n:Nat}{s:j2}(h:Live n s):s.j7.j5.length=2*n:=h.rows.len
theorem Live.of {s:j2}(h:aO4 s):Live s.o9.z7.length s:=by
 have ht:=Tm.bG3 h.tim
 refine⟨rfl,h.eng.1,h.eng.2.1,⟨h.chs,?_,h.job,fun c hc=>?_⟩,fun aK7 c hc=>?_,ht.2.2.1,ht.2.2.2,?_,Nat.le_trans h.most (by decide)⟩
 ·have:=h.tim
  unfold Tm.ag2 at this
  simp only[au2,by6]at this
  exact this.2
 ·have:=h.line c hc
  unfold bF2 at this
  simp only[au2]at this
  exact this.1
 ·have:=h.line c hc
  unfold bF2 at this
  rw[aK7]at this
  simp only[aK4,ed1,au2]at this
  exact this.2
 ·cases hv:s.j8.L9
  ·exact .inl ⟨rfl,h.none hv⟩
  ·exact .inr ⟨rfl,db2 h.clk hv⟩
def stepG (at_:Int)(s:j2):j2:=bN4 (put s at_ (cD6 at_ (s.j7.j5,s.F3)))
def goV (to:Int):Nat->List o5×j2->List o5×j2
 |0,u=>u
 |f+1,u=>if(Tm.nxV u.2.j7.j5).2=true/\(Tm.nxV u.2.j7.j5).1<=to then goV to f (u.1++Tm.cJ8 (Tm.nxV u.2.j7.j5).1 u.2.j7.j5,stepG (Tm.nxV u.2.j7.j5).1 u.2)else u
structure Alike (s t:j2):Prop where
 eng:t.o9=s.o9
 clk:t.j8=s.j8
 next:t.Next=s.Next
 cut:t.Cut=s.Cut
theorem Alike.refl (s:j2):Alike s s:=⟨rfl,rfl,rfl,rfl⟩
theorem Alike.trans {s t u:j2}(h:Alike s t)(k:Alike t u):Alike s u:=⟨k.eng.trans h.eng,k.clk.trans h.clk,k.next.trans h.next,k.cut.trans h.cut⟩
theorem cs2 (s:j2)(now:Int)(u:List o4×List A9):Alike s (put s now u):=⟨rfl,rfl,rfl,rfl⟩
theorem cs1 (s:j2):Alike s (bN4 s):=by unfold bN4;split;exact .refl s;exact cs2 ..
theorem dD2 (at_:Int)(s:j2):Alike s (stepG at_ s):=(cs2 ..).trans (cs1 _)
theorem dp6 {n:Nat}{s:j2}(h:Live n s):Live n (bN4 s):=by
 unfold bN4
 cases aK7:s.Cut
 ·simp only[do8,if_false]
  have hr:=cs3 (k:=s.j8) h.rows s.j7.j5.length
  refine⟨h.eng,h.n1,h.n8,hr,fun hc=>?_,h.cG3,h.dl6,?_,?_⟩
  ·have:s.Cut=true:=hc
   rw[aK7]at this;cases this
  ·rcases h.clk with⟨a,b⟩|h2
   ·left
    refine⟨a,?_⟩
    show(cc2 s.j7.P8 s.j8 s.j7.j5.length (s.j7.j5,s.F3)).2=[]
    rw[b,cK2]
   ·exact .inr h2
  ·show(cc2 s.j7.P8 s.j8 s.j7.j5.length (s.j7.j5,s.F3)).2.length<=1000
   rw[bC5];exact h.most
 ·simp only[if_true];exact h
theorem dy1 {n:Nat}{s:j2}(h:Live n s){at_:Int}(h1:s.j7.P8<at_)(h2:at_<=1099511627776)(cv8:∀x∈s.j7.j5,x.F6=true->at_<=x.At):Live n (put s at_ (cD6 at_ (s.j7.j5,s.F3))):=by
 have hr:=ef6 h.rows h.cG3 h1 h2 h.n1 h.n8 cv8
 refine⟨h.eng,h.n1,h.n8,hr,fun hc c hcl=>?_,by have:=h.cG3;show 0<=at_;omega,h2,?_,?_⟩
 ·show bu7 at_ (ar6 (s.F3.filter fun j=>!bE2 at_ j) (c:Int))=true
  rw[cB9]
  exact eA1 (h.cut hc c (by simpa[put,cD6]using hcl)) (by omega)
 ·rcases h.clk with⟨a,b⟩|h2
  ·left
   refine⟨a,?_⟩
   show(s.F3.filter fun j=>!bE2 at_ j)=[]
   rw[b];rfl
  ·exact .inr h2
 ·exact Nat.le_trans (List.length_filter_le ..) h.most
theorem ep6 {n:Nat}{s:j2}(h:Live n s)(hn:(Tm.nxV s.j7.j5).2=true):s.j7.P8<(Tm.nxV s.j7.j5).1/\(Tm.nxV s.j7.j5).1<=1099511627776/\(∀x∈s.j7.j5,x.F6=true->(Tm.nxV s.j7.j5).1<=x.At):=by
 obtain⟨x,hx,ha,hat⟩:=Tm.cR6 hn
 have:=Tm.da9 (h.rows.ch x hx) ha
 exact⟨by omega,by omega,fun y hy hya=>(Tm.cw7 hy hya).2⟩
theorem eb9 {n:Nat}{s:j2}(h:Live n s)(hn:(Tm.nxV s.j7.j5).2=true):Live n (stepG (Tm.nxV s.j7.j5).1 s):=by
 obtain⟨h1,h2,h3⟩:=ep6 h hn
 exact dp6 (dy1 h h1 h2 h3)
theorem eu4 (at_:Int)(s:j2):(stepG at_ s).j7.P8=at_:=by unfold stepG bN4;split<;>rfl
theorem eb8 (at_:Int)(s:j2):(stepG at_ s).F3.length=(cD6 at_ (s.j7.j5,s.F3)).2.length:=by
 unfold stepG bN4
 split
 ·rfl
 ·show(cc2 _ _ _ _).2.length=_
  rw[bC5];rfl
theorem eC0 {n:Nat}{s:j2}(h:Live n s)(to:Int)(out:List o5)(ho:out.length<=100000)(hn:(Tm.nxV s.j7.j5).2=true)(hto:(Tm.nxV s.j7.j5).1<=to):
  ab2 to (out,s)=some (.inl (out++Tm.cJ8 (Tm.nxV s.j7.j5).1 s.j7.j5,stepG (Tm.nxV s.j7.j5).1 s))/\
  True:=by
 obtain⟨h1,h2,h3⟩:=ep6 h hn
 have au9:=dy1 h h1 h2 h3
 have hlen:=h.len
 have hn8:=h.n8
 have hal:(Tm.cJ8 (Tm.nxV s.j7.j5).1 s.j7.j5).length<=16:=by have:=Tm.do9 (Tm.nxV s.j7.j5).1 s.j7.j5;omega
 have et:(⟨s.j7.P8,s.j7.j5⟩:u5)=s.j7:=rfl
 have hg:decide ((Tm.nxV s.j7.j5).1>to)=false:=by simp;omega
 have ha1:decide ((Tm.nxV s.j7.j5).1<s.j7.P8)=false:=by simp;omega
 have ha2:decide ((Tm.nxV s.j7.j5).1>Tm.cD5)=false:=by unfold Tm.cD5;simp;omega
 have hj:=h.most
 constructor
 ·unfold ab2
  try simp only[et]
  rw[Tm.dP5,h.tim]
  simp only[fh5,ac0,hn,hg,aK4,eU3,fh3]
  rw[Tm.ef5,h.tim,ha1,ha2]
  simp only[aK4,fh3,ac0]
  rw[K4 _ _ (by omega),em3 _ (by omega)]
  simp only[ac0]
  have:=dQ8 (s:=put s (Tm.nxV s.j7.j5).1 (cD6 (Tm.nxV s.j7.j5).1 (s.j7.j5,s.F3))) au9.rows (by rcases au9.clk with⟨_,b⟩|⟨_,b⟩;exact .inl b;exact .inr b) au9.cG3 au9.dl6 h.n1 h.n8 (by have:=au9.most;omega)
  unfold put cD6 at this
  simp only at this
  rw[this]
  rfl
 ·trivial
theorem em4 {n:Nat}{s:j2}(h:Live n s)(to:Int)(out:List o5)(hno:¬((Tm.nxV s.j7.j5).2=true/\(Tm.nxV s.j7.j5).1<=to)):
  ab2 to (out,s)=some (.inr (.inl (out,s)))/\True:=by
 have et:(⟨s.j7.P8,s.j7.j5⟩:u5)=s.j7:=rfl
 have hlen:=h.len
 have hn8:=h.n8
 have hb:(!(Tm.nxV s.j7.j5).2||decide ((Tm.nxV s.j7.j5).1>to))=true:=by
  cases hn:(Tm.nxV s.j7.j5).2
  ·rfl
  ·simp only[aK4,ed1,fh8]
   by_cases h5:(Tm.nxV s.j7.j5).1<=to
   ·exact absurd ⟨hn,h5⟩ hno
   ·omega
 constructor
 ·unfold ab2
  try simp only[et]
  rw[Tm.dP5,h.tim]
  simp only[fh5,ac0,hb]
 ·trivial
theorem em5 (to:Int){n:Nat}:∀(f:Nat) (s:j2) (out:List o5),Live n s->s.F3.length<=f->out.length+16*f<=100000->s.j7.P8<=to->
  M0 (ab2 to) (out,s)=some (.inl (goV to f (out,s)))/\True/\Live n (goV to f (out,s)).2/\Alike s (goV to f (out,s)).2/\(goV to f (out,s)).2.j7.P8<=to/\
   (∀x∈(goV to f (out,s)).2.j7.j5,x.F6=true->to<x.At)/\(goV to f (out,s)).1.length<=out.length+16*f/\(goV to f (out,s)).2.F3.length<=s.F3.length:=by
 intro f
 induction f with
 |zero=>
  intro s out h hj ho ht
  have hno:¬((Tm.nxV s.j7.j5).2=true/\(Tm.nxV s.j7.j5).1<=to):=by
   rintro⟨h1,_⟩
   obtain⟨x,hx,ha,hat⟩:=Tm.cR6 h1
   have:=dp0 h.rows hx ha hat
   simp only at this
   omega
  obtain⟨e1,e2⟩:=em4 h to out hno
  refine⟨F7 e1,trivial,h,.refl s,ht,fun x hx ha=>?_,by simp[goV],cB6 _⟩
  obtain⟨a,b⟩:=Tm.cw7 hx ha
  by_cases h5:to<x.At
  ·exact h5
  ·have b':(Tm.nxV s.j7.j5).1<=x.At:=b
   exact absurd ⟨a,by omega⟩ hno
 |succ f ih=>
  intro s out h hj ho ht
  by_cases hy:(Tm.nxV s.j7.j5).2=true/\(Tm.nxV s.j7.j5).1<=to
  ·obtain⟨e1,e2⟩:=eC0 h to out (by omega) hy.1 hy.2
   have hlen:=h.len
   have hn8:=h.n8
   have hal:(Tm.cJ8 (Tm.nxV s.j7.j5).1 s.j7.j5).length<=16:=by have:=Tm.do9 (Tm.nxV s.j7.j5).1 s.j7.j5;omega
   obtain⟨x,hx,ha,hat⟩:=Tm.cR6 hy.1
   have hless:=dp0 h.rows hx ha hat
   simp only at hless
   have hsj:=eb8 (Tm.nxV s.j7.j5).1 s
   obtain⟨r1,r2,r3,r4,r5,r6,r7,r8⟩:=ih (stepG (Tm.nxV s.j7.j5).1 s) (out++Tm.cJ8 (Tm.nxV s.j7.j5).1 s.j7.j5) (eb9 h hy.1) (by omega) (by rw[aX7];omega) (by rw[eu4];exact hy.2)
   have eg:goV to (f+1) (out,s)=goV to f (out++Tm.cJ8 (Tm.nxV s.j7.j5).1 s.j7.j5,stepG (Tm.nxV s.j7.j5).1 s):=by
    show(if _ then _ else _)=_
    rw[if_pos hy]
   rw[eg,I5 e1]
   refine⟨r1,r2,r3,(dD2 _ s).trans r4,r5,r6,by rw[aX7]at r7;omega,by omega⟩
  ·obtain⟨e1,e2⟩:=em4 h to out hy
   have eg:goV to (f+1) (out,s)=(out,s):=by
    show(if _ then _ else _)=_
    rw[if_neg hy]
   rw[eg]
   refine⟨F7 e1,trivial,h,.refl s,ht,fun x hx ha=>?_,by simp only;omega,cB6 _⟩
   obtain⟨a,b⟩:=Tm.cw7 hx ha
   by_cases h5:to<x.At
   ·exact h5
   ·have b':(Tm.nxV s.j7.j5).1<=x.At:=b
    exact absurd ⟨a,by omega⟩ hy
def goE (to:Int)(s:j2):List o5×j2:=((goV to s.F3.length ([],s)).1,put (goV to s.F3.length ([],s)).2 to ((goV to s.F3.length ([],s)).2.j7.j5,(goV to s.F3.length ([],s)).2.F3))
theorem dH0 {n:Nat}{s:j2}(h:Live n s){to:Int}(h1:s.j7.P8<=to)(h2:to<=1099511627776)(hno:∀x∈s.j7.j5,x.F6=true->to<x.At):Live n (put s to (s.j7.j5,s.F3)):=by
 refine⟨h.eng,h.n1,h.n8,⟨h.rows.len,fun x hx=>?_,h.rows.job,h.rows.row⟩,fun hc c hcl=>?_,by have:=h.cG3;show 0<=to;omega,h2,h.clk,h.most⟩
 ·have:=h.rows.ch x hx
  show Tm.chB to x=true
  unfold Tm.chB at this|-
  cases ha:x.F6
  ·rw[ha]at this;exact this
  ·rw[ha]at this
   have h5:=hno x hx ha
   simp only[fh5,bZ6,bG8,fh9]at this|-
   omega
 ·have:=h.cut hc c hcl
  show bu7 to (ar6 s.F3 (c:Int))=true
  match hm:ar6 s.F3 (c:Int)with
  |[]=>rfl
  |[j]=>
   rw[hm]at this
   simp only[bu7,au2,fh8]at this|-
   exact⟨this.1,by omega⟩
  |i::j::r=>rw[hm]at this;simp[bu7]at this
theorem dH9 {to:Int}{l:List o4}(h:∀x∈l,x.F6=true->to<x.At):∀c∈l,Tm.due to c=false:=by
 intro c hc
 unfold Tm.due
 cases ha:c.F6
 ·rfl
 ·have:=h c hc ha
  simp;omega
theorem cI3 {n:Nat}{s:j2}(h:Live n s)(to:Int)(h1:s.j7.P8<=to)(h2:to<=1099511627776):ad6 s to=some (goE to s)/\Live n (goE to s).2/\Alike s (goE to s).2/\(goE to s).2.j7.P8=to/\(goE to s).2.F3.length<=s.F3.length/\(∀x∈(goE to s).2.j7.j5,x.F6=true->to<x.At):=by
 have hm:=h.most
 obtain⟨r1,r2,r3,r4,r5,r6,r7,r8⟩:=em5 to s.F3.length s [] h (cB6 _) (by simp;omega) h1
 have hd:=Tm.ep5 (dH9 r6)
 refine⟨?_,dH0 r3 r5 h2 r6,r4.trans (cs2 ..),rfl,r8,r6⟩
 unfold ad6
 rw[r1]
 simp only[ac0]
 unfold goE
 generalize goV to s.F3.length ([],s)=u at r3 r5 r6 hd r7
 have et:(⟨u.2.j7.P8,u.2.j7.j5⟩:u5)=u.2.j7:=rfl
 have ha1:decide (to<u.2.j7.P8)=false:=by simp;omega
 have ha2:decide (to>Tm.cD5)=false:=by unfold Tm.cD5;simp;omega
 try rw[et]
 rw[Tm.ef5,r3.tim,ha1,ha2]
 simp only[aK4,fh3,ac0]
 rw[hd.1,hd.2,K4 _ _ (by simp at r7|-;omega)]
 simp only[ac0,dn6]
 rfl
theorem ff0 (s:j2)(h1:s.o9.z7.length<=1000)(h2:s.j7.j5.length<=1000)(h3:s.Next.length<=1000000)(h4:s.F3.length<=1000000):bz9 s=some s:=by
 unfold bz9
 rw[K4 _ _ (by simp;omega),Tm.copy_eq _ h2,K4 _ _ (by simp;omega),K4 _ _ (by simp;omega)]
 rfl
theorem bE0 (s:j2)(h3:s.Next.length<=1000000)(h4:s.F3.length<=1000000):N5 s=some s:=by
 unfold N5 ak7 W4
 rw[K4 _ _ (by simp;omega),K4 _ _ (by simp;omega)]
 rfl
section
variable {α β:Type}
def co3 (gt:α->α->Bool)(x:α)(l:List α):Nat->Nat
 |0=>0
 |k+1=>match l[k]?with|some y=>if gt y x then co3 gt x l k else k+1|none=>k+1
def bJ9 (gt:α->α->Bool)(l:List α)(x:α):List α:=l.take (co3 gt x l l.length)++x::l.drop (co3 gt x l l.length)
theorem eq8 (gt:α->α->Bool)(x:α)(l:List α){k:Nat}(h:k<l.length):co3 gt x l (k+1)=if gt l[k] x then co3 gt x l k else k+1:=by
 rw[co3,aJ9 h]
theorem bW6 (gt:α->α->Bool)(l:List α)(x:α):(bJ9 gt l x).Perm (x::l):=by
 unfold bJ9
 refine List.perm_middle.trans ?_
 rw[List.take_append_drop]
theorem cP4 (gt:α->α->Bool):∀(r l:List α),(r.foldl (bJ9 gt) l).Perm (l++r)
 |[],l=>by simp
 |x::r,l=>by
  refine(cP4 gt r (bJ9 gt l x)).trans ?_
  refine((bW6 gt l x).append_right r).trans ?_
  exact List.perm_middle.symm
theorem dP9 (f:α->β){gt:α->α->Bool}{gt':β->β->Bool}(x:α)(l:List α)(h:∀y∈l,gt' (f y) (f x)=gt y x):∀k,co3 gt' (f x) (l.map f) k=co3 gt x l k
 |0=>rfl
 |k+1=>by
  unfold co3
  rw[cM9]
  cases hk:l[k]?with
  |none=>rfl
  |some y=>
   simp only[cb0]
   rw[h y (dv3 hk),dP9 f x l h k]
theorem eC6 (f:α->β){gt:α->α->Bool}{gt':β->β->Bool}(x:α)(l:List α)(h:∀y∈l,gt' (f y) (f x)=gt y x):bJ9 gt' (l.map f) (f x)=(bJ9 gt l x).map f:=by
 unfold bJ9
 rw[cW3,dP9 f x l h,eK7,cX5,List.map_take,List.map_drop]
theorem fold_map (f:α->β){gt:α->α->Bool}{gt':β->β->Bool}(Q:α->Prop)(h:∀x y,Q x->Q y->gt' (f y) (f x)=gt y x):∀(r l:List α),(∀x∈l,Q x)->(∀x∈r,Q x)->(r.map f).foldl (bJ9 gt') (l.map f)=(r.foldl (bJ9 gt) l).map f
 |[],l,_,_=>rfl
 |x::r,l,hl,hr=>by
  rw[cX5,eE8,eE8,eC6 f x l (fun y hy=>h x y (hr x (bL5 ..)) (hl y hy))]
  refine fold_map f Q h r _ (fun y hy=>?_) (fun y hy=>hr y (bO9 _ hy))
  rcases cr6.1 ((bW6 gt l x).mem_iff.1 hy)with rfl|h2
  ·exact hr _ (bL5 ..)
  ·exact hl _ h2
theorem dO0 (a b:List α)(x:α):F0 (a++x::b) (a.length:Int)=some x:=by
 rw[S0,List.getElem?_append_right (cB6 _),Nat.sub_self];rfl
theorem es7 (a b:List α)(x z:α):ak9 (a++x::b) (a.length:Int) z=some (a++z::b):=by
 rw[aa6 _ _ _ (by simp)]
 rw[List.set_append_right _ _ (cB6 _),Nat.sub_self];rfl
end
section
variable {cmp:j1 -> j1 -> Option Int} {gt:j1 -> j1 -> Bool} {Q:j1 -> Prop}
theorem cC3 (hc:∀x y,Q x->Q y->∃c,cmp x y=some c/\decide (c<0)=gt y x)(x:j1)(P R:List j1)(hP:∀y∈P,Q y)(hx:Q x)(hl:P.length<=1000000):∀j,j<=P.length->
  M0 (D2 0 cmp) ((j:Int),P.take j++x::(P.drop j++R))=some (.inl ((co3 gt x P j:Int),P.take (co3 gt x P j)++x::(P.drop (co3 gt x P j)++R)))
 |0,_=>by
  refine F7 ?_
  unfold D2
  rfl
 |j+1,hj=>by
  have hjl:j<P.length:=by omega
  have e1:P.take (j+1)=P.take j++[P[j]]:=dC0 hjl
  have e2:P.drop j=P[j]::P.drop (j+1):=List.drop_eq_getElem_cons hjl
  have la:(P.take j).length=j:=by rw[bs8];omega
  have lb:(P.take j++[P[j]]).length=j+1:=by rw[aX7,la];rfl
  obtain⟨c,hc1,hc2⟩:=hc x P[j] hx (hP _ (bf2 hjl))
  have d1:P.take (j+1)++x::(P.drop (j+1)++R)=P.take j++P[j]::(x::(P.drop (j+1)++R)):=by rw[e1,dq9];rfl
  have g0:F0 (P.take (j+1)++x::(P.drop (j+1)++R)) ((j+1:Nat):Int)=some x:=by
   have:=dO0 (P.take j++[P[j]]) (P.drop (j+1)++R) x
   rw[lb]at this
   rw[e1];exact this
  have g1:F0 (P.take (j+1)++x::(P.drop (j+1)++R)) (j:Int)=some P[j]:=by
   have:=dO0 (P.take j) (x::(P.drop (j+1)++R)) P[j]
   rw[la]at this
   rw[d1];exact this
  have s0:ak9 (P.take (j+1)++x::(P.drop (j+1)++R)) ((j+1:Nat):Int) P[j]=some (P.take j++P[j]::(P[j]::(P.drop (j+1)++R))):=by
   have:=es7 (P.take j++[P[j]]) (P.drop (j+1)++R) x P[j]
   rw[lb]at this
   rw[e1,this,dq9];rfl
  have g2:F0 (P.take j++P[j]::(P[j]::(P.drop (j+1)++R))) (j:Int)=some P[j]:=by
   have:=dO0 (P.take j) (P[j]::(P.drop (j+1)++R)) P[j]
   rw[la]at this;exact this
  have s1:ak9 (P.take j++P[j]::(P[j]::(P.drop (j+1)++R))) (j:Int) x=some (P.take j++x::(P.drop j++R)):=by
   have:=es7 (P.take j) (P[j]::(P.drop (j+1)++R)) P[j] x
   rw[la]at this
   rw[this,e2];rfl
  have ew:o6 (((j+1:Nat):Int)-1)=(j:Int):=by rw[k6 (by omega) (by omega)];omega
  have e0:decide (((j+1:Nat):Int)>0)=true:=fh6 (by omega)
  have hb:D2 0 cmp (((j+1:Nat):Int),P.take (j+1)++x::(P.drop (j+1)++R))=some (bif gt P[j] x then .inl ((j:Int),P.take j++x::(P.drop j++R))else .inr (.inl (((j+1:Nat):Int),P.take (j+1)++x::(P.drop (j+1)++R)))):=by
   unfold D2
   simp only[e0,fh5,ew,g0,g1,ac0,hc1,hc2]
   cases gt P[j] x
   ·rfl
   ·simp only[fh5,s0,g2,s1,ac0]
  have ep:=eq8 gt x P hjl
  cases hg:gt P[j] x
  ·rw[hg]at hb ep
   simp only[do8,if_false]at ep
   rw[F7 hb,ep]
  ·rw[hg]at hb ep
   simp only[if_true]at ep
   rw[I5 hb,ep]
   exact cC3 hc x P R hP hx hl j (by omega)
theorem cC4 (hc:∀x y,Q x->Q y->∃c,cmp x y=some c/\decide (c<0)=gt y x)(n:Nat)(hn:n<=1000000):∀(R S:List j1),S.length+R.length=n->(∀y∈S,Q y)->(∀y∈R,Q y)->
  M0 (C0 0 (n:Int) cmp) ((S.length:Int),S++R)=some (.inl ((n:Int),R.foldl (bJ9 gt) S))
 |[],S,hl,hS,_=>by
  have:S.length=n:=by simpa using hl
  rw[this]
  refine F7 ?_
  unfold C0
  simp
 |x::R,S,hl,hS,hR=>by
  rw[bu6]at hl
  have hin:=cC3 hc x S R hS (hR x (bL5 ..)) (by omega) S.length (cB6 _)
  rw[eI1,List.drop_length]at hin
  have e1:decide ((S.length:Int)<(n:Int))=true:=by simp;omega
  have ew:o6 ((S.length:Int)+1)=((S.length+1:Nat):Int):=by rw[k6 (by omega) (by omega)];omega
  have hin2:bJ9 gt S x++R=S.take (co3 gt x S S.length)++x::(S.drop (co3 gt x S S.length)++R):=by
   unfold bJ9;rw[dq9];rfl
  have hb:C0 0 (n:Int) cmp ((S.length:Int),S++x::R)=some (.inl (((S.length+1:Nat):Int),bJ9 gt S x++R)):=by
   unfold C0
   simp only[e1,fh5]
   rw[show(S++x::R)=S++x::([]++R)from rfl,hin]
   simp only[ac0,ew,hin2]
  rw[I5 hb]
  have hlen:(bJ9 gt S x).length=S.length+1:=by rw[(bW6 gt S x).length_eq];rfl
  have:=cC4 hc n hn R (bJ9 gt S x) (by omega) (fun y hy=>by
   rcases cr6.1 ((bW6 gt S x).mem_iff.1 hy)with rfl|h2
   ·exact hR _ (bL5 ..)
   ·exact hS _ h2) (fun y hy=>hR y (bO9 _ hy))
  rw[hlen]at this
  exact this
theorem bX5 (hc:∀x y,Q x->Q y->∃c,cmp x y=some c/\decide (c<0)=gt y x)(l:List j1)(hl:l.length<=19)(hQ:∀y∈l,Q y):E6 l cmp=some (l.foldl (bJ9 gt) []):=by
 have hins:B7 l 0 (l.length:Int) cmp=some (l.foldl (bJ9 gt) []):=by
  unfold B7
  cases l with
  |nil=>
   rw[F7 (b:=.inl (1,[]))]
   ·rfl
   ·unfold C0;rfl
  |cons x R=>
   have:=cC4 hc (x::R).length (by omega) R [x] (by simp;omega) (fun y hy=>hQ y (by simp at hy;simp[hy])) (fun y hy=>hQ y (bO9 _ hy))
   rw[show o6 (0+1)=(([x].length:Nat):Int)from rfl]
   rw[show x::R=[x]++R from rfl]at this|-
   rw[this]
   rfl
 unfold E6 I8
 rw[F7 (b:=.inl (0,20,l)) (by unfold M1;rw[show decide ((20:Int)<=(l.length:Int))=false by simp;omega];rfl)]
 simp only[ac0]
 rw[hins]
 simp only[ac0]
 rw[F7 (b:=.inl (20,l.foldl (bJ9 gt) [])) (by unfold M3;rw[show decide ((20:Int)<(l.length:Int))=false by simp;omega];rfl)]
 rfl
end
def gtE (begin:Int)(y x:C8):Bool:=decide (dst begin x.E3<dst begin y.E3\/(dst begin x.E3=dst begin y.E3/\chn x<chn y))
def dl9 (begin:Int)(l:List C8):List C8:=l.foldl (bJ9 (gtE begin)) []
def plJ (begin:Int)(x:C8):j1:=⟨x,dst begin x.E3⟩
theorem cx0 (begin:Int)(l:List C8):(dl9 begin l).Perm l:=by
 have:=cP4 (gtE begin) l []
 simpa[dl9]using this
theorem db0 {x:C8}(h:Ev.evP x):I9 x=some (chn x)/\aG5 x=some (chn x):=by
 have:=cH6 (n:=8) (j:=⟨x,0,false,0⟩) ⟨h.2.2.1,h.2.1,h.1,h.2.2.2,by simp only;omega,.inr rfl⟩ (by omega)
 exact this
theorem eR1 (a b:Int):ag8 [a,b]=some (bif a !=0 then a else b):=by
 unfold ag8
 rw[M4 _ (by simp)]
 simp only[N3,ap9]
 cases ha:a !=0
 ·cases hb:b !=0
  ·have:b=0:=by simpa using hb
   rw[this];rfl
  ·rfl
 ·rfl
theorem eE3 (begin:Int)(x y:C8)(hx:Ev.evP x)(hy:Ev.evP y):∃c,ae8 (plJ begin x) (plJ begin y)=some c/\decide (c<0)=gtE begin y x:=by
 unfold ae8 plJ
 simp only[cN5,(db0 hx).1,(db0 hy).1,ac0,eR1]
 refine⟨_,rfl,?_⟩
 unfold gtE
 rw[decide_eq_decide]
 rcases bi6 (dst begin x.E3) (dst begin y.E3)with⟨a,b⟩|⟨a,b⟩|⟨a,b⟩
 ·rw[b];simp[a]
 ·rw[b]
  rcases bi6 (chn x) (chn y)with⟨c,d⟩|⟨c,d⟩|⟨c,d⟩<;>rw[d]<;>simp<;>omega
 ·rw[b];simp;omega
theorem er0 (begin:Int)(l:List C8)(hl:l.length<=19)(hQ:∀x∈l,Ev.evP x):E6 (l.map (plJ begin)) ae8=some ((dl9 begin l).map (plJ begin)):=by
 have e:∀p:j1,(∃x,Ev.evP x/\p=plJ begin x)->p=plJ begin p.x:=by
  rintro p ⟨x,_,rfl⟩;rfl
 rw[bX5 (gt:=fun q p=>gtE begin q.x p.x) (Q:=fun p=>∃x,Ev.evP x/\p=plJ begin x)
  (fun p q ⟨x,hx,ex⟩ ⟨y,hy,ey⟩=>by subst ex ey;exact eE3 begin x y hx hy) _ (by rw[cW3];exact hl)
  (fun p hp=>by obtain⟨x,hx,rfl⟩:=cZ1.1 hp;exact⟨x,hQ x hx,rfl⟩)]
 have:=fold_map (plJ begin) (gt:=gtE begin) (gt':=fun q p=>gtE begin q.x p.x) (fun _=>True) (fun _ _ _ _=>rfl) l [] (fun _ _=>trivial) (fun _ _=>trivial)
 rw[ep3]at this
 rw[this];rfl
theorem dN5 {e:o7}(h:aE8 e){c:Int}(hc:c∈e.z7):1<=c/\c<=(e.z7.length:Int):=h.2.2.2.2.1 c hc
theorem dF9 {e:o7}{f:A6}{t:Int}(he:aE8 e)(hf:bf3 e f):∀x∈evs e t f,Ev.evP x/\x.w9=f.w9:=by
 intro x hx
 unfold evs at hx
 obtain⟨o,ho,rfl⟩:=cZ1.1 hx
 have hc:=dN5 he hf.1
 have hn:=he.2.1
 have hk:(1<=o.2.1/\o.2.1<=4)/\(0<=o.2.2/\o.2.2<=2):=by
  unfold dZ7 at ho
  simp only[do2,cr6,eP5,or_false]at ho
  rcases ho with(ho|ho)|ho
  ·rcases ho with rfl|rfl<;>simp
  ·cases h:decide (pul f>0)
   ·rw[h]at ho;simp at ho
   ·rw[h]at ho
    simp only[fh5,cr6,eP5,or_false]at ho
    rcases ho with rfl|rfl<;>simp
  ·cases h:decide (pul f>1)
   ·rw[h]at ho;simp at ho
   ·rw[h]at ho
    simp only[fh5,cr6,eP5,or_false]at ho
    rcases ho with rfl|rfl<;>simp
 refine⟨⟨?_,hk.1,?_,hk.2⟩,rfl⟩
 ·unfold evF;simp only;omega
 ·show 1<=f.w9/\f.w9<=8;omega
def kp (x:C8):Int×Int:=(x.Kind,x.aj9)
def eI5 (k:Int×Int):Bool:=k.1==1||k.1==2
def ex0 (k:Int×Int):Bool:=k.1==3||k.1==4
def cN3:List (Int×Int):=[(2,0),(1,0)]
def bq2 (n:Int):List (Int×Int):=(bif decide (n>0)then [(4,1),(3,1)]else [])++(bif decide (n>1)then [(3,2),(4,2)]else [])
theorem eO3 (e:o7)(f:A6)(t:Int):(evs e t f).map kp=cN3++bq2 (pul f):=by
 unfold evs
 rw[List.map_map]
 rcases bj9 f with h|h|h<;>(unfold dZ7;rw[h];rfl)
def dX0 (begin:Int):List C8->Int->Bool
 |[],_=>true
 |x::r,last=>decide (last<dst begin x.E3)&&dX0 begin r (dst begin x.E3)
def kpP (a b:Int):List (Int×Int)->Int->Int->Bool
 |[],_,_=>true
 |x::r,p,k=>(x.1==k)&&decide (p<=x.2)&&kpP a b r x.2 (a+b-k)
def kpR (c:Nat):List (Int×Int)->Nat->Bool
 |[],_=>true
 |x::r,i=>(onK x.1==(i%2==0))&&(x.2==(if c=0 then 0 else((i/2+1:Nat):Int)))&&kpR c r (i+1)
theorem cg5 (begin a b:Int):∀(l:List C8) (i last p k:Int),(k=a\/k=b)->(0<=a/\a<=10)->(0<=b/\b<=10)->
  ((dX0 begin (l.filter fun x=>x.Kind==a||x.Kind==b) last&&kpP a b ((l.filter fun x=>x.Kind==a||x.Kind==b).map kp) p k)=true/\∃s,N3 (Y6 (a,b)) (l.map (plJ begin)) i (last,p,k)=some (.inl s))\/
  ((dX0 begin (l.filter fun x=>x.Kind==a||x.Kind==b) last&&kpP a b ((l.filter fun x=>x.Kind==a||x.Kind==b).map kp) p k)=false/\N3 (Y6 (a,b)) (l.map (plJ begin)) i (last,p,k)=some (.inr ([],false)))
 |[],i,last,p,k,_,_,_=>.inl ⟨rfl,_,rfl⟩
 |x::l,i,last,p,k,hk,ha,hb=>by
  have ih:=fun i last p k hk=>cg5 begin a b l i last p k hk ha hb
  simp only[cX5,N3]
  have ew:o6 (o6 (a+b)-k)=a+b-k:=by
   rw[k6 (n:=a+b) (by omega) (by omega),k6 (by omega) (by omega)]
  cases hm:(x.Kind==a||x.Kind==b)
  ·rw[eY1 (by simp[hm])]
   have h1:((x.Kind !=a)&&(x.Kind !=b))=true:=by
    rw[bG8]at hm;simp only[bne,hm.1,hm.2];rfl
   have hst:Y6 (a,b) i (plJ begin x) (last,p,k)=some (.next (last,p,k)):=by
    unfold Y6 plJ
    simp only[h1,fh5]
   rw[hst]
   exact ih (i+1) last p k hk
  ·rw[eb4 (by simp[hm])]
   have h1:((x.Kind !=a)&&(x.Kind !=b))=false:=by
    cases e1:x.Kind==a
    ·rw[e1]at hm;simp only[ed1]at hm;simp[bne,hm]
    ·simp[bne,e1]
   have hst:Y6 (a,b) i (plJ begin x) (last,p,k)=some (bif (((x.Kind !=k)||(decide (dst begin x.E3<=last)))||(decide (x.aj9<p)))then(.ret ([],false))else(.next (dst begin x.E3,x.aj9,a+b-k))):=by
    unfold Y6 plJ
    simp only[h1,fh3,ew]
    exact da2 ..
   rw[hst]
   have hq:(((x.Kind !=k)||(decide (dst begin x.E3<=last)))||(decide (x.aj9<p)))= !(decide (last<dst begin x.E3)&&((x.Kind==k)&&decide (p<=x.aj9))):=by
    rw[show decide (dst begin x.E3<=last)= !decide (last<dst begin x.E3) by rw[<-decide_not];exact decide_eq_decide.2 (by omega),show decide (x.aj9<p)= !decide (p<=x.aj9) by rw[<-decide_not];exact decide_eq_decide.2 (by omega)]
    unfold bne
    cases x.Kind==k<;>cases decide (last<dst begin x.E3)<;>cases decide (p<=x.aj9)<;>rfl
   rw[hq]
   simp only[dX0,cX5,kpP,kp]
   cases hz:(decide (last<dst begin x.E3)&&((x.Kind==k)&&decide (p<=x.aj9)))
   ·right
    refine⟨?_,by simp only[cI8,fh5,ac0]⟩
    cases h3:decide (last<dst begin x.E3)
    ·rfl
    ·rw[h3,cJ4]at hz
     rw[hz];simp
   ·simp only[aK4,fh3,ac0]
    simp only[au2]at hz
    rw[hz.1,hz.2.1,hz.2.2]
    exact ih (i+1) (dst begin x.E3) x.aj9 (a+b-k) (by omega)
theorem eC9:∀{l:List (Int×Int)},l.Perm cN3->kpP 1 2 l 0 1=kpR 0 l 0:=by
 intro l h
 have hm:∀x∈l,x∈cN3:=fun x hx=>h.mem_iff.1 hx
 have hl:=h.length_eq
 match l,hl with
 |[a,b],_=>
  have ha:=hm a (by simp)
  have hb:=hm b (by simp)
  revert h
  have key:∀a∈cN3,∀b∈cN3,kpP 1 2 [a,b] 0 1=kpR 0 [a,b] 0:=by decide
  exact fun _=>key a ha b hb
theorem en9 (n:Int)(hn:n=0\/n=1\/n=2):∀{l:List (Int×Int)},l.Perm (bq2 n)->kpP 3 4 l 0 3=kpR 1 l 0:=by
 intro l h
 have hm:∀x∈l,x∈bq2 n:=fun x hx=>h.mem_iff.1 hx
 have hl:=h.length_eq
 rcases hn with rfl|rfl|rfl
 ·have:l=[]:=List.eq_nil_of_length_eq_zero (by rw[hl];rfl)
  subst this;rfl
 ·match l,hl with
  |[a,b],_=>
   have ha:=hm a (by simp)
   have hb:=hm b (by simp)
   have key:∀a∈bq2 1,∀b∈bq2 1,kpP 3 4 [a,b] 0 3=kpR 1 [a,b] 0:=by decide
   exact key a ha b hb
 ·match l,hl with
  |[a,b,c,d],_=>
   have ha:=hm a (by simp)
   have hb:=hm b (by simp)
   have hc:=hm c (by simp)
   have hd:=hm d (by simp)
   have key:∀a∈bq2 2,∀b∈bq2 2,∀c∈bq2 2,∀d∈bq2 2,[a,b,c,d].isPerm (bq2 2)=true->kpP 3 4 [a,b,c,d] 0 3=kpR 1 [a,b,c,d] 0:=by decide
   exact key a ha b hb c hc d hd (List.isPerm_iff.2 h)
def beg (e:o7)(c:Int):Int:=(cen e c+5760)%46080
theorem dM3 (e:o7)(c:Int):cc0 (beg e c)=true:=by unfold beg;exact bt5.2 (by omega)
theorem eh5 (e:o7)(c:Int):ef7 (o6 (cen e c+5760)) 46080=beg e c:=by
 have:=da5 e c
 rw[k6 (by omega) (by omega),do3 (by omega)];rfl
def isC (x:C8):Bool:=x.Kind==1||x.Kind==2
def isV (x:C8):Bool:=x.Kind==3||x.Kind==4
def dC7 (begin:Int)(W:List C8):Bool:=(dX0 begin (W.filter isC) (-1)&&kpP 1 2 ((W.filter isC).map kp) 0 1)&&(dX0 begin (W.filter isV) (-1)&&kpP 3 4 ((W.filter isV).map kp) 0 3)
def dB5 (e:o7)(f:A6)(begin t:Int):List C8:=bif (bg5 e [f] t).2 !=0 then []else bif dC7 begin (dl9 begin (bg5 e [f] t).1)then dl9 begin (bg5 e [f] t).1 else []
theorem dm4 {e:o7}{f:A6}{t:Int}(he:aE8 e)(hf:bf3 e f)(h:((bg5 e [f] t).2 !=0)=false):(bg5 e [f] t).1.Perm (evs e t f):=by
 unfold bg5 at h|-
 rw[fh6 he]at h|-
 simp only[aK4,fh3]at h|-
 cases h1:dU3 e [f]<;>rw[h1]at h
 ·simp only[fh3]at h|-
  cases h2:!ev8 t<;>rw[h2]at h
  ·simp only[fh3]at h|-
   cases h3:eA3 [f]<;>rw[h3]at h
   ·simp only[fh3]at h|-
    cases h4:[f].any (dk8 t)<;>rw[h4]at h
    ·simp only[fh3]
     have:=eu0 ([f].flatMap (evs e t))
     simpa using this
    ·simp at h
   ·simp at h
  ·simp at h
 ·simp at h
theorem cS6 (begin:Int)(hb:cc0 begin=true):∀(l:List C8) (i:Int) (out:List j1),(∀x∈l,Ev.evP x)->out.length+l.length<=1000->N3 (ak6 begin) l i out=some (.inl (out++l.map (plJ begin)))
 |[],i,out,_,_=>by simp[N3]
 |x::l,i,out,h,hl=>by
  rw[bu6]at hl
  have hx:=h x (bL5 ..)
  have hst:ak6 begin i x out=some (.next (out++[plJ begin x])):=by
   unfold ak6
   rw[dj1 hb (bt5.2 hx.1)]
   simp only[ac0]
   rw[K4 _ _ (by simp only[bu6,cY9];omega)]
   rfl
  simp only[N3,hst,ac0]
  rw[cS6 begin hb l (i+1) _ (fun y hy=>h y (bO9 _ hy)) (by simp only[aX7,bu6,cY9];omega)]
  simp
theorem eM6 (begin:Int)(W:List C8)(hW:W.length<=1000):M0 (W2 (W.map (plJ begin))) 0=some (bif dC7 begin W then .inl 2 else .inr ([],false)):=by
 have hl:(W.map (plJ begin)).length<=1000:=by rw[cW3];exact hW
 have k0:=cg5 begin 1 2 W 0 (-1) 0 1 (.inl rfl) (by omega) (by omega)
 have k1:=cg5 begin 3 4 W 0 (-1) 0 3 (.inl rfl) (by omega) (by omega)
 have f0:(fun x:C8=>x.Kind==1||x.Kind==2)=isC:=rfl
 have f1:(fun x:C8=>x.Kind==3||x.Kind==4)=isV:=rfl
 rw[f0]at k0
 rw[f1]at k1
 unfold dC7
 rcases k0 with⟨a,s,b⟩|⟨a,b⟩
 ·rw[a]
  have st0:W2 (W.map (plJ begin)) 0=some (.inl 1):=by
   unfold W2
   rw[show F0 ([(1,2),(3,4)]:List (Int×Int)) 0=some (1,2)from rfl]
   simp only[show decide ((0:Int)<2)=true from rfl,fh5,ac0]
   rw[M4 _ (by omega),b]
   rfl
  rw[I5 st0]
  rcases k1 with⟨c,s',d⟩|⟨c,d⟩
  ·rw[c]
   have st1:W2 (W.map (plJ begin)) 1=some (.inl 2):=by
    unfold W2
    rw[show F0 ([(1,2),(3,4)]:List (Int×Int)) 1=some (3,4)from rfl]
    simp only[show decide ((1:Int)<2)=true from rfl,fh5,ac0]
    rw[M4 _ (by omega),d]
    rfl
   rw[I5 st1]
   exact F7 rfl
  ·rw[c]
   refine F7 ?_
   unfold W2
   rw[show F0 ([(1,2),(3,4)]:List (Int×Int)) 1=some (3,4)from rfl]
   simp only[show decide ((1:Int)<2)=true from rfl,fh5,ac0]
   rw[M4 _ (by omega),d]
   rfl
 ·rw[a]
  refine F7 ?_
  unfold W2
  rw[show F0 ([(1,2),(3,4)]:List (Int×Int)) 0=some (1,2)from rfl]
  simp only[show decide ((0:Int)<2)=true from rfl,fh5,ac0]
  rw[M4 _ (by omega),b]
  rfl
theorem et9 {e:o7}{f:A6}{begin t:Int}(he:aE8 e)(hf:bf3 e f)(hb:cc0 begin=true):∃b,as4 e f begin t=some ((dB5 e f begin t).map (plJ begin),b)/\(b=false->dB5 e f begin t=[]):=by
 unfold as4 dB5
 rw[eE6 e [f] t (by simp)]
 simp only[ac0]
 cases h:(bg5 e [f] t).2 !=0
 ·have hp:=dm4 he hf h
  have hlen:=hp.length_eq
  have h6:=cI0 e t f
  have hQ:∀x∈(bg5 e [f] t).1,Ev.evP x:=fun x hx=>(dF9 he hf x (hp.mem_iff.1 hx)).1
  have hwl:=(cx0 begin (bg5 e [f] t).1).length_eq
  simp only[fh3]
  rw[M4 _ (by omega),cS6 begin hb _ 0 [] hQ (by simp only[cY9];omega)]
  simp only[ac0,cY1]
  rw[er0 begin _ (by omega) hQ]
  simp only[ac0]
  rw[eM6 begin _ (by omega)]
  cases dC7 begin (dl9 begin (bg5 e [f] t).1)
  ·exact⟨false,rfl,fun _=>rfl⟩
  ·exact⟨true,rfl,fun h=>by cases h⟩
 ·exact⟨false,rfl,fun _=>rfl⟩
theorem el2 {W:List C8}{cyl:Int}(h:∀x∈W,Ev.evP x/\x.w9=cyl):(W.filter fun x=>chn x==2*(cyl-1))=W.filter isC/\(W.filter fun x=>chn x==2*(cyl-1)+1)=W.filter isV:=by
 constructor
 ·refine fg3 fun x hx=>?_
  obtain⟨hk,hc⟩:=h x hx
  unfold chn isC
  rw[hc]
  have:=hk.2.1
  by_cases h3:x.Kind=3\/x.Kind=4
  ·rw[if_pos h3,dJ4];simp;omega
  ·rw[if_neg h3,dJ4];simp;omega
 ·refine fg3 fun x hx=>?_
  obtain⟨hk,hc⟩:=h x hx
  unfold chn isV
  rw[hc]
  have:=hk.2.1
  by_cases h3:x.Kind=3\/x.Kind=4
  ·rw[if_pos h3,dJ4];simp;omega
  ·rw[if_neg h3,dJ4];simp;omega
theorem dX7 {e:o7}{f:A6}{t:Int}{W:List C8}(hp:W.Perm (evs e t f)):((W.filter isC).map kp).Perm cN3/\((W.filter isV).map kp).Perm (bq2 (pul f)):=by
 have hm:(W.map kp).Perm (cN3++bq2 (pul f)):=by rw[<-eO3 e f t];exact hp.map kp
 have c1:(W.filter isC).map kp=(W.map kp).filter eI5:=by rw[ff6];rfl
 have c2:(W.filter isV).map kp=(W.map kp).filter ex0:=by rw[ff6];rfl
 rw[c1,c2]
 constructor
 ·refine(hm.filter eI5).trans ?_
  rcases bj9 f with h|h|h<;>(rw[h];exact List.Perm.refl _)
 ·refine(hm.filter ex0).trans ?_
  rcases bj9 f with h|h|h<;>(rw[h];exact List.Perm.refl _)
def dR8 (c:B8):Int:=upV (23040*c.A0) c.M5
theorem ev9 {c:B8}(h:bC3 c)(hv:c.L9=true)(hb:bN9 c=true):aF5 c 23040=some (dR8 c,0):=by
 have h1:=h.p0;have h2:=h.p1;have h3:=h.s0;have h4:=h.s1
 unfold aF5 aL0
 rw[dE7,hb,hv]
 simp only[ac0,aK4,fh3]
 rw[show((0:Int) !=0)=false from rfl,show((decide ((23040:Int)<0))||(decide ((23040:Int)>46080)))=false from rfl]
 simp only[fh3]
 rw[k6 (by omega) (by omega)]
 unfold bm6 ao2
 rw[bX1 _ _ 2 (by omega) (by omega) (by omega) (by omega) (.inr rfl)]
 rfl
theorem bG7 {e:o7}{l:List A6}(h:aW0 e l=true):∀f∈l,bf3 e f:=by
 intro f hf
 obtain⟨i,hi,rfl⟩:=da7.1 hf
 have:=cb7.1 h i hi
 unfold cz0 at this
 rw[aJ9 hi]at this
 simp only[au2,fh8]at this
 exact this.1
theorem cz1 {e:o7}{l:List A6}(h:aW0 e l=true):l.Pairwise fun a b=>a.w9≠b.w9:=by
 rw[List.pairwise_iff_getElem]
 intro i j hi hj hij
 have:=cb7.1 h j hj
 unfold cz0 at this
 rw[aJ9 hj]at this
 simp only[au2,bZ6,dB8,beq_iff_eq]at this
 refine this.2 l[i] ?_
 rw[List.mem_take_iff_getElem]
 exact⟨i,by omega,rfl⟩
theorem filter_none {c:Int}:∀{l:List A6},(∀y∈l,y.w9≠c)->(l.filter fun f=>f.w9==c)=[]:=by
 intro l h
 rw[eB1]
 intro y hy
 simpa using h y hy
theorem cm4 (c:Int):∀{l:List A6},(l.Pairwise fun a b=>a.w9≠b.w9)->(l.findIdx? (fun f=>f.w9==c)=none/\(l.filter fun f=>f.w9==c)=[])\/∃k f,l.findIdx? (fun f=>f.w9==c)=some k/\k<l.length/\l[k]? =some f/\f.w9=c/\(l.filter fun f=>f.w9==c)=[f]
 |[],_=>.inl ⟨rfl,rfl⟩
 |x::l,h=>by
  rw[List.pairwise_cons]at h
  rw[fg1]
  cases hx:x.w9==c
  ·rw[eY1 (by simp[hx])]
   simp only[do8,if_false]
   rcases cm4 c h.2 with⟨a,b⟩|⟨k,f,a,b,d,e,g⟩
   ·exact .inl ⟨by rw[a];rfl,b⟩
   ·exact .inr ⟨k+1,f,by rw[a];rfl,by simpa using b,by simpa using d,e,g⟩
  ·rw[eb4 (by simp[hx])]
   simp only[if_true]
   have hxc:x.w9=c:=beq_iff_eq.1 hx
   exact .inr ⟨0,x,rfl,by simp,rfl,hxc,by rw[filter_none fun y hy=>by rw[<-hxc];exact(h.1 y hy).symm]⟩
theorem el3 (l:List A6)(hl:l.length<=1000000)(c:Int):J2 l (fun x0=>ab1 x0 c)=some (match l.findIdx? (fun f=>f.w9==c)with|some k=>(k:Int)|none=>-1):=by
 unfold J2 P7
 rw[bc9 l (by omega) (fun(i:Int) x (_:Unit)=>ab6 (ab1 x c) fun v=>bif v then(some (Fl.ret i))else(some (Fl.next ())))]
 have:=bJ5 (fun x=>ab1 x c) (fun f:A6=>f.w9==c) l 0 (fun _ _=>rfl)
 rw[show((0:Nat):Int)=0 from rfl]at this
 rw[this]
 cases l.findIdx? (fun f=>f.w9==c)with
 |none=>rfl
 |some k=>simp
def shJ (v begin:Int)(x:C8):A9:=⟨x,v+dst begin x.E3,false,0⟩
def dD1 (e:o7)(v t:Int)(f:A6):List A9:=(dB5 e f (beg e f.w9) t).map (shJ v (beg e f.w9))
def ci7 (e:o7)(k:B8)(next:List A6)(t x:Int):List A9:=
 bif decide (dst k.E3 (beg e x)>=k.Q4)then []else(next.filter fun f=>f.w9==x).flatMap (dD1 e (dst k.E3 (beg e x)) t)
theorem cr4 {e:o7}{f:A6}{begin t:Int}(he:aE8 e)(hf:bf3 e f):(dB5 e f begin t).length<=6/\∀x∈dB5 e f begin t,Ev.evP x/\x.w9=f.w9:=by
 unfold dB5
 cases h:(bg5 e [f] t).2 !=0
 ·have hp:=dm4 he hf h
  have hop:=(cx0 begin (bg5 e [f] t).1).trans hp
  have h6:=cI0 e t f
  simp only[fh3]
  cases dC7 begin (dl9 begin (bg5 e [f] t).1)
  ·simp
  ·refine⟨by rw[fh5,hop.length_eq];exact h6,fun x hx=>dF9 (t:=t) he hf x (hop.mem_iff.1 hx)⟩
 ·simp
theorem cK4 (v begin:Int)(hv:0<=v/\v<=46080):∀(W:List C8) (i:Int) (out:List A9),out.length+W.length<=100000->N3 (ah7 v) (W.map (plJ begin)) i out=some (.inl (out++W.map (shJ v begin)))
 |[],i,out,_=>by simp[N3]
 |x::W,i,out,hl=>by
  rw[bu6]at hl
  have hd:0<=dst begin x.E3/\dst begin x.E3<46080:=by unfold dst;omega
  have hst:ah7 v i (plJ begin x) out=some (.next (out++[shJ v begin x])):=by
   unfold ah7 plJ
   simp only
   rw[K4 _ _ (by simp only[bu6,cY9];omega),k6 (by omega) (by omega)]
   rfl
  simp only[cX5,N3,hst,ac0]
  rw[cK4 v begin hv W (i+1) _ (by simp only[aX7,bu6,cY9];omega)]
  simp
theorem dD9 {s:j2}{r2:Int×Int}(he:aE8 s.o9)(hk:bC3 s.j8)(hw:aW0 s.o9 s.Next=true)(hn:s.Next.length<=1000000)(i x:Int)(hx:x∈s.o9.z7)(out:List A9)(ho:out.length<=10000):
  ah6 s r2 i x out=some (.next (out++ci7 s.o9 s.j8 s.Next r2.1 x)):=by
 have ha:cc0 s.j8.E3=true:=bt5.2 ⟨hk.an0,hk.an1⟩
 unfold ah6
 rw[dS5,fh6 he,fh6 hx]
 simp only[aK4,fh3,ac0,eh5]
 rw[dj1 ha (dM3 ..),el3 _ hn]
 simp only[ac0]
 unfold ci7
 cases hv:decide (dst s.j8.E3 (beg s.o9 x)>=s.j8.Q4)
 ·have hd:0<=dst s.j8.E3 (beg s.o9 x)/\dst s.j8.E3 (beg s.o9 x)<=46080:=by unfold dst;omega
  rcases cm4 x (cz1 hw)with⟨a,b⟩|⟨k,f,a,b,d,e,g⟩
  ·rw[a,b]
   simp
  ·have hf:=bG7 hw f (dv3 d)
   obtain⟨ok,p1,p2⟩:=et9 (t:=r2.1) he hf (dM3 s.o9 x)
   have hwl:=cr4 (begin:=beg s.o9 x) (t:=r2.1) he hf
   rw[a,g]
   simp only[ed1,show decide (((k:Nat):Int)<0)=false from fh7 (by omega),fh3,S0,d,ac0]
   rw[p1]
   simp only[ac0,eJ6,fg6,dn6]
   unfold dD1
   rw[e]
   cases ok
   ·rw[p2 rfl];simp
   ·simp only[aK4,fh3]
    rw[M4 _ (by rw[cW3];omega),cK4 _ _ hd _ _ _ (by omega)]
    rfl
 ·simp
theorem da0 {s:j2}{r2:Int×Int}(he:aE8 s.o9)(hk:bC3 s.j8)(hw:aW0 s.o9 s.Next=true)(hn:s.Next.length<=1000000):∀(l:List Int) (i:Int) (out:List A9),(∀x∈l,x∈s.o9.z7)->out.length+6*l.length<=10000->
  N3 (ah6 s r2) l i out=some (.inl (out++l.flatMap (ci7 s.o9 s.j8 s.Next r2.1)))
 |[],i,out,_,_=>by simp[N3]
 |x::l,i,out,h,ho=>by
  rw[bu6]at ho
  have hx:=h x (bL5 ..)
  have hal:(ci7 s.o9 s.j8 s.Next r2.1 x).length<=6:=by
   unfold ci7
   cases decide (dst s.j8.E3 (beg s.o9 x)>=s.j8.Q4)
   ·rcases cm4 x (cz1 hw)with⟨a,b⟩|⟨k,f,a,b,d,e,g⟩
    ·rw[b];simp
    ·have hf:=bG7 hw f (dv3 d)
     rw[g]
     simp only[fh3,eJ6,fg6,dn6]
     unfold dD1
     rw[cW3]
     exact(cr4 he hf).1
   ·simp
  simp only[N3,dD9 he hk hw hn i x hx out (by omega),ac0]
  rw[da0 he hk hw hn l (i+1) _ (fun y hy=>h y (bO9 _ hy)) (by rw[aX7];omega)]
  rw[eJ6,dq9]
theorem bC6 {s:j2}(he:aE8 s.o9)(hk:bC3 s.j8)(hv:s.j8.L9=true)(hb:bN9 s.j8=true)(hw:aW0 s.o9 s.Next=true)(hn:s.Next.length<=1000000)(hj:s.F3.length<=1000):
  ai6 s=some ⟨s.o9,s.j8,s.j7,s.Next,s.F3++s.o9.z7.flatMap (ci7 s.o9 s.j8 s.Next (dR8 s.j8)),s.Cut⟩:=by
 have hn8:=he.2.1
 unfold ai6
 rw[ev9 hk hv hb]
 simp only[ac0]
 rw[M4 _ (by omega),da0 he hk hw hn _ 0 _ (fun _ h=>h) (by omega)]
 rfl
theorem ef4 {e:o7}{k:B8}{l:List A6}{t x:Int}(he:aE8 e)(hw:aW0 e l=true):(ci7 e k l t x).length<=6:=by
 unfold ci7
 cases decide (dst k.E3 (beg e x)>=k.Q4)
 ·rcases cm4 x (cz1 hw)with⟨a,b⟩|⟨k,f,a,b,d,e,g⟩
  ·rw[b];simp
  ·have hf:=bG7 hw f (dv3 d)
   rw[g]
   simp only[fh3,eJ6,fg6,dn6]
   unfold dD1
   rw[cW3]
   exact(cr4 he hf).1
 ·simp
def aS6 (d:Int)(j:A9):A9:=⟨j.Event,K2 (-1048576) (j.Left-d),j.F6,j.At⟩
theorem cC9 (d:Int)(hd:0<=d/\d<=46080):∀(r p:List A9),(∀j∈r,-1048576<=j.Left/\j.Left<=1048576)->
  aX0 (ac7 d) r.length (p.length:Int) (p++r)=some (.inl (p++r.map (aS6 d)))
 |[],p,_=>rfl
 |j::r,p,h=>by
  have hj:=h j (bL5 ..)
  have hst:ac7 d (p.length:Int) (p++j::r)=some (.next (p++aS6 d j::r)):=by
   unfold ac7
   rw[dO0]
   simp only[ac0]
   rw[k6 (n:=j.Left-d) (by omega) (by omega),es7]
   rfl
  simp only[bu6,aX0,hst,ac0]
  have:=cC9 d hd r (p++[aS6 d j]) (fun k hk=>h k (bO9 _ hk))
  rw[dq9,aX7]at this
  rw[show((p.length:Int)+1)=((p.length+[aS6 d j].length:Nat):Int) by simp]
  rw[show p++aS6 d j::r=p++([aS6 d j]++r)from rfl,this]
  simp
theorem cb8 {w:List A9}(hw:alt w false=true):∀{l:List A9}{lv:Bool},alt l lv=true->alt (l++w) lv=true
 |[],lv,h=>by
  have:lv=false:=by simpa[alt]using h
  subst this;exact hw
 |j::l,lv,h=>by
  simp only[alt,au2]at h
  simp only[dK4,alt,au2]
  exact⟨h.1,cb8 hw h.2⟩
theorem dJ1 {w l:List A9}{x:o4}(hw:alt w false=true)(h:aI9 l x=true):aI9 (l++w) x=true:=by
 cases l with
 |nil=>
  simp only[aI9,au2,bZ6]at h
  cases w with
  |nil=>simp[aI9,h.1,h.2]
  |cons j r=>
   simp only[alt,au2,bZ6]at hw
   simp only[cY1,aI9,h.1,h.2,hw.1.1,hw.1.2,hw.2]
   rfl
 |cons j r=>
  simp only[aI9,au2]at h
  simp only[dK4,aI9,au2]
  exact⟨h.1,cb8 hw h.2⟩
theorem dk6 (c:Nat)(v begin:Int):∀(F:List C8) (i:Nat),kpR c (F.map kp) i=true->(i+F.length)%2=0->alt (F.map (shJ v begin)) (i%2==1)=true
 |[],i,_,h=>by
  have:(i%2==1)=false:=beq_eq_false_iff_ne.2 (by simp at h;omega)
  rw[this];rfl
 |x::F,i,h,hp=>by
  simp only[cX5,kpR,au2]at h
  simp only[bu6]at hp
  have ih:=dk6 c v begin F (i+1) h.2 (by omega)
  have e:(!(i%2==1))=((i+1)%2==1):=by
   rcases Nat.mod_two_eq_zero_or_one i with h2|h2
   ·rw[h2,show(i+1)%2=1 by omega];rfl
   ·rw[h2,show(i+1)%2=0 by omega];rfl
  have h1:=h.1.1
  simp only[cX5,alt]
  rw[e,ih]
  have e2:(i%2==0)= !(i%2==1):=by
   rcases Nat.mod_two_eq_zero_or_one i with h2|h2<;>rw[h2]<;>rfl
  rw[e2]at h1
  have hk:(kp x).1=x.Kind:=rfl
  rw[hk]at h1
  unfold shJ
  simp only
  revert h1
  cases onK x.Kind<;>cases(i%2==1)<;>simp
theorem eD4 (v begin:Int)(W:List C8)(c:Int):ar6 (W.map (shJ v begin)) c=(W.filter fun x=>chn x==c).map (shJ v begin):=by
 unfold ar6
 rw[ff6]
 rfl
theorem dG0 {W:List C8}{cyl c:Int}(h:∀x∈W,Ev.evP x/\x.w9=cyl)(h0:c≠2*(cyl-1))(h1:c≠2*(cyl-1)+1):(W.filter fun x=>chn x==c)=[]:=by
 rw[eB1]
 intro x hx
 obtain⟨_,hc⟩:=h x hx
 unfold chn
 rw[hc]
 split<;>simp<;>omega
theorem ef1 {e:o7}{f:A6}{v t:Int}(he:aE8 e)(hf:bf3 e f)(c:Int):alt (ar6 (dD1 e v t f) c) false=true:=by
 unfold dD1 dB5
 cases h:(bg5 e [f] t).2 !=0
 ·have hp:=dm4 he hf h
  have hop:=(cx0 (beg e f.w9) (bg5 e [f] t).1).trans hp
  simp only[fh3]
  cases ha:dC7 (beg e f.w9) (dl9 (beg e f.w9) (bg5 e [f] t).1)
  ·rfl
  ·simp only[fh5]
   generalize hW:dl9 (beg e f.w9) (bg5 e [f] t).1=W at ha hop
   have hE:∀x∈W,Ev.evP x/\x.w9=f.w9:=fun x hx=>dF9 (t:=t) he hf x (hop.mem_iff.1 hx)
   have hk:=dX7 hop
   have fl:=el2 hE
   unfold dC7 at ha
   rw[eC9 hk.1,en9 (pul f) (bj9 f) hk.2]at ha
   simp only[au2]at ha
   rw[eD4]
   by_cases h0:c=2*(f.w9-1)
   ·subst h0
    rw[fl.1]
    have l2:=hk.1.length_eq
    rw[cW3]at l2
    exact dk6 0 v _ _ 0 ha.1.2 (by rw[l2];rfl)
   ·by_cases h1:c=2*(f.w9-1)+1
    ·subst h1
     rw[fl.2]
     have l2:=hk.2.length_eq
     rw[cW3]at l2
     refine dk6 1 v _ _ 0 ha.2.2 ?_
     rw[l2]
     rcases bj9 f with h|h|h<;>(rw[h];rfl)
    ·rw[dG0 hE h0 h1];rfl
 ·rfl
theorem cP3 {α:Type}(g:α->List A9)(c:Int):∀(l:List α),(∀x∈l,alt (ar6 (g x) c) false=true)->alt (ar6 (l.flatMap g) c) false=true
 |[],_=>rfl
 |x::l,h=>by
  rw[eJ6,aS2]
  exact cb8 (cP3 g c l fun y hy=>h y (bO9 _ hy)) (h x (bL5 ..))
theorem ef2 {e:o7}{k:B8}{l:List A6}{t x:Int}(he:aE8 e)(hw:aW0 e l=true)(c:Int):alt (ar6 (ci7 e k l t x) c) false=true:=by
 unfold ci7
 cases decide (dst k.E3 (beg e x)>=k.Q4)
 ·exact cP3 _ c _ fun f hf=>ef1 he (bG7 hw f (dO7.1 hf).1) c
 ·rfl
theorem ef3 {e:o7}{k:B8}{l:List A6}{t x:Int}(he:aE8 e)(hw:aW0 e l=true):∀j∈ci7 e k l t x,aK8 e.z7.length j:=by
 intro j hj
 unfold ci7 at hj
 cases hv:decide (dst k.E3 (beg e x)>=k.Q4)<;>rw[hv]at hj
 ·simp only[fh3,fg9]at hj
  obtain⟨f,hf,hj⟩:=hj
  have hff:=bG7 hw f (dO7.1 hf).1
  unfold dD1 at hj
  obtain⟨y,hy,rfl⟩:=cZ1.1 hj
  obtain⟨h1,h2⟩:=(cr4 he hff).2 y hy
  have hc:=dN5 he hff.1
  refine⟨by unfold shJ;simp only;rw[h2];exact hc,h1.2.1,h1.1,h1.2.2.2,?_,.inr rfl⟩
  unfold shJ dst;simp only;omega
 ·simp at hj
theorem cZ6 (d:Int):∀(l:List A9) (lv:Bool),alt (l.map (aS6 d)) lv=alt l lv
 |[],_=>rfl
 |j::l,lv=>by
  simp only[cX5,alt,cZ6 d l]
  rfl
theorem eb2 (d:Int)(l:List A9)(x:o4):aI9 (l.map (aS6 d)) x=aI9 l x:=by
 cases l with
 |nil=>rfl
 |cons j r=>simp only[cX5,aI9,cZ6 d r];rfl
theorem dV3 (d now:Int)(l:List A9):bu7 now (l.map (aS6 d))=bu7 now l:=by
 match l with
 |[]=>rfl
 |[j]=>rfl
 |i::j::r=>rfl
theorem cR1 (d:Int)(l:List A9)(c:Int):ar6 (l.map (aS6 d)) c=(ar6 l c).map (aS6 d):=by
 unfold ar6
 rw[ff6]
 rfl
theorem dX5 {n:Nat}{d:Int}{j:A9}(hd:0<=d/\d<=46080)(h:aK8 n j):aK8 n (aS6 d j):=by
 have hl:=h.left
 refine⟨h.cyl,h.kind,h.ef9,h.bT5,?_,h.at0⟩
 unfold aS6 K2
 simp only
 split<;>omega
theorem dJ8 {n:Nat}{now d:Int}{ch:List o4}{l:List A9}(hd:0<=d/\d<=46080)(h:Rows n now (ch,l)):Rows n now (ch,l.map (aS6 d)):=by
 refine⟨h.len,h.ch,fun j hj=>?_,fun c hc=>?_⟩
 ·obtain⟨k,hk,rfl⟩:=cZ1.1 hj
  exact dX5 hd (h.job k hk)
 ·have:=h.row c hc
  simp only at this|-
  rw[cR1,eb2];exact this
theorem dY9 {n:Nat}{now:Int}{ch:List o4}{l w:List A9}(h:Rows n now (ch,l))(hj:∀j∈w,aK8 n j)(hw:∀c,alt (ar6 w c) false=true):Rows n now (ch,l++w):=by
 refine⟨h.len,h.ch,fun j hj2=>?_,fun c hc=>?_⟩
 ·rcases do2.1 hj2 with h2|h2
  ·exact h.job j h2
  ·exact hj j h2
 ·have:=h.row c hc
  simp only at this|-
  rw[aS2]
  exact dJ1 (hw _) this
def cr5:j2:=⟨(⟨([]:List Int),0⟩:o7),(⟨false,0,0,0,0,0⟩:B8),(⟨0,([]:List o4)⟩:u5),([]:List A6),([]:List A9),false⟩
def bh6 (s:j2)(c:B8)(l:List A9):List A9:=bif s.j8.L9 then l.map (aS6 (dst s.j8.E3 c.E3))else l
def mk (s:j2)(c:B8)(l:List A9):j2:=⟨s.o9,c,s.j7,s.Next,l,s.Cut⟩
def bT1 (s:j2)(c:B8)(g:j2):List A9:=bh6 s c g.F3++g.o9.z7.flatMap (ci7 g.o9 c g.Next (dR8 c))
def dn8 (s:j2)(c:B8)(g:List o5×j2):j2×List o5×Int:=
 bif g.2.Cut then(mk g.2 c (bh6 s c g.2.F3),g.1,0)else bif decide (((bT1 s c g.2).length:Int)>200)then(cr5,[],5)else(bN4 (mk g.2 c (bT1 s c g.2)),g.1,0)
def aX1 (s:j2)(c:B8):j2×List o5×Int:=
 bif !cp5 s|| !bN9 c then(cr5,[],1)else bif !c.L9 then(cr5,[],6)else bif decide (c.At<s.j7.P8)then(cr5,[],16)else dn8 s c (goE c.At s)
theorem ez9 {s:j2}(h:aO4 s)(hv:s.j8.L9=true):cc0 s.j8.E3=true:=bt5.2 ⟨(db2 h.clk hv).an0,(db2 h.clk hv).an1⟩
theorem dc4 {e:o7}{k:B8}{next:List A6}{t:Int}(he:aE8 e)(hw:aW0 e next=true):∀l:List Int,(l.flatMap (ci7 e k next t)).length<=6*l.length
 |[]=>by simp
 |x::l=>by
  have:=dc4 (k:=k) (t:=t) he hw l
  have:=ef4 (k:=k) (t:=t) (x:=x) he hw
  rw[eJ6,aX7,bu6];omega
theorem cn0 (s:j2)(c:B8)(l:List A9):(bh6 s c l).length=l.length:=by
 unfold bh6;cases s.j8.L9<;>simp
structure bq7 (s:j2)(c:B8)(g:List o5×j2):Prop where
 live:Live s.o9.z7.length g.2
 eng:g.2.o9=s.o9
 clk:g.2.j8=s.j8
 next:g.2.Next=s.Next
 cut:g.2.Cut=s.Cut
 now:g.2.j7.P8=c.At
 en1:g.2.F3.length<=200
theorem gone {s:j2}{c:B8}(h:aO4 s)(hc:bC3 c)(hle:s.j7.P8<=c.At):ad6 s c.At=some (goE c.At s)/\bq7 s c (goE c.At s):=by
 obtain⟨h1,h2,h3,h4,h5,h6⟩:=cI3 (.of h) c.At hle hc.at1
 have:=h.most
 exact⟨h1,h2,h3.eng,h3.clk,h3.next,h3.cut,h4,by omega⟩
theorem dd7 {s:j2}{c:B8}{g:List o5×j2}(h:bq7 s c g):Rows s.o9.z7.length g.2.j7.P8 (g.2.j7.j5,bh6 s c g.2.F3):=by
 unfold bh6
 cases s.j8.L9
 ·exact h.live.rows
 ·exact dJ8 (by unfold dst;omega) h.live.rows
theorem ej7 {s:j2}{c:B8}{g:List o5×j2}(h:bq7 s c g)(hc:bC3 c)(hv:c.L9=true)(aK7:g.2.Cut=true):Live s.o9.z7.length (mk g.2 c (bh6 s c g.2.F3)):=by
 refine⟨h.live.eng,h.live.n1,h.live.n8,dd7 h,fun _ ch hch=>?_,h.live.cG3,h.live.dl6,.inr ⟨hv,hc⟩,?_⟩
 ·show bu7 g.2.j7.P8 (ar6 (bh6 s c g.2.F3) (ch:Int))=true
  have:=h.live.cut aK7 ch hch
  unfold bh6
  cases s.j8.L9
  ·exact this
  ·simp only[fh5]
   rw[cR1,dV3];exact this
 ·show(bh6 s c g.2.F3).length<=1000
  rw[cn0];have:=h.en1;omega
theorem dv9 {s:j2}{c:B8}{g:List o5×j2}(h:bq7 s c g)(hs:aO4 s)(hc:bC3 c)(hv:c.L9=true)(aK7:g.2.Cut=false):Live s.o9.z7.length (mk g.2 c (bT1 s c g.2)):=by
 have he:aE8 g.2.o9:=by rw[h.eng];exact hs.eng
 have hw:aW0 g.2.o9 g.2.Next=true:=by rw[h.eng,h.next];exact hs.cH2
 have hn:g.2.o9.z7.length=s.o9.z7.length:=by rw[h.eng]
 have hn8:=he.2.1
 have h6:=dc4 (k:=c) (t:=dR8 c) he hw g.2.o9.z7
 have hl:=cn0 s c g.2.F3
 have hjb:=h.en1
 refine⟨h.live.eng,h.live.n1,h.live.n8,?_,fun hcc=>?_,h.live.cG3,h.live.dl6,.inr ⟨hv,hc⟩,?_⟩
 ·refine dY9 (dd7 h) (fun j hj=>?_) fun ch=>cP3 _ ch _ fun x _=>ef2 he hw ch
  obtain⟨x,_,hx⟩:=fg9.1 hj
  rw[<-hn]
  exact ef3 he hw j hx
 ·have:g.2.Cut=true:=hcc
  rw[aK7]at this;cases this
 ·show(bT1 s c g.2).length<=1000
  unfold bT1
  rw[aX7];omega
theorem cU2 {s:j2}(h:Live s.o9.z7.length s)(he:aE8 s.o9)(hb:bN9 s.j8=true)(hv:s.j8.L9=true)(hw:aW0 s.o9 s.Next=true)(hm:s.F3.length<=200):aO4 s:=by
 refine⟨he,hb,h.tim,h.len,hw,hm,fun h2=>absurd (hv.symm.trans h2) (by decide),h.rows.job,fun c hc=>?_⟩
 have h1:=h.rows.row c hc
 simp only at h1
 unfold bF2
 rw[h1]
 cases aK7:s.Cut
 ·rfl
 ·rw[h.cut aK7 c hc];rfl
theorem ew2 {s:j2}{c:B8}(h0:(aX1 s c).2.2=0):aO4 (aX1 s c).1:=by
 unfold aX1 at h0|-
 cases h1:!cp5 s|| !bN9 c<;>rw[h1]at h0
 ·simp only[fh3]at h0|-
  cases h2:!c.L9<;>rw[h2]at h0
  ·simp only[fh3]at h0|-
   cases h3:decide (c.At<s.j7.P8)<;>rw[h3]at h0
   ·simp only[fh3]at h0|-
    simp only[bG8,ee1]at h1
    have hv:c.L9=true:=by simpa using h2
    have hs:=aY6.1 h1.1
    have hc:=db2 h1.2 hv
    have hle:s.j7.P8<=c.At:=by simpa using h3
    obtain⟨_,hg⟩:=gone hs hc hle
    unfold dn8 at h0|-
    cases aK7:(goE c.At s).2.Cut<;>rw[aK7]at h0
    ·simp only[fh3]at h0|-
     cases h4:decide (((bT1 s c (goE c.At s).2).length:Int)>200)<;>rw[h4]at h0
     ·simp only[fh3]
      have hl:=dp6 (dv9 hg hs hc hv aK7)
      have ha:=cs1 (mk (goE c.At s).2 c (bT1 s c (goE c.At s).2))
      have e1:(bN4 (mk (goE c.At s).2 c (bT1 s c (goE c.At s).2))).o9=s.o9:=ha.eng.trans hg.eng
      have e2:(bN4 (mk (goE c.At s).2 c (bT1 s c (goE c.At s).2))).j8=c:=ha.clk
      have e3:(bN4 (mk (goE c.At s).2 c (bT1 s c (goE c.At s).2))).Next=s.Next:=ha.next.trans hg.next
      refine cU2 (by rw[e1];exact hl) (by rw[e1];exact hs.eng) (by rw[e2];exact h1.2) (by rw[e2];exact hv) (by rw[e1,e3];exact hs.cH2) ?_
      have hcf:(mk (goE c.At s).2 c (bT1 s c (goE c.At s).2)).Cut=false:=aK7
      unfold bN4
      rw[hcf]
      simp only[do8,if_false]
      show(cc2 _ _ _ _).2.length<=200
      rw[bC5]
      have:(bT1 s c (goE c.At s).2).length<=200:=by
       have:=of_decide_eq_false h4;omega
      exact this
     ·simp at h0
    ·simp only[fh5]
     have hl:=ej7 hg hc hv aK7
     refine cU2 (by show Live (goE c.At s).2.o9.z7.length _;rw[hg.eng];exact hl) (by show aE8 (goE c.At s).2.o9;rw[hg.eng];exact hs.eng) h1.2 hv (by show aW0 (goE c.At s).2.o9 (goE c.At s).2.Next=true;rw[hg.eng,hg.next];exact hs.cH2) ?_
     show(bh6 s c (goE c.At s).2.F3).length<=200
     rw[cn0];exact hg.en1
   ·simp at h0
  ·simp at h0
 ·simp at h0
theorem dK6 (s:j2)(c:B8)(hn:s.Next.length<=1000000)(hj:s.F3.length<=1000000):
  (ab6 (K9 s) fun v=>(bif (!v)then(some true)else(ab6 (ak1 c) fun v2=>some (!v2))))=some (!cp5 s|| !bN9 c):=by
 rw[bd1 s hn hj,dE7]
 cases cp5 s<;>rfl
theorem eW7 {α β γ:Type}(x:Option α)(f:α->Option β)(g:β->Option γ):(ab6 x fun v=>ab6 (f v) g)=ab6 (ab6 x f) g:=by cases x<;>rfl
theorem ec0 (s:j2)(c:B8)(hn:s.Next.length<=1000000)(hj:s.F3.length<=1000000):am8 s c=some (aX1 s c):=by
 unfold am8 aX1
 rw[eW7,dK6 s c hn hj]
 simp only[ac0]
 cases h1:!cp5 s|| !bN9 c
 ·simp only[fh3]
  cases h2:!c.L9
  ·simp only[fh3]
   cases h3:decide (c.At<s.j7.P8)
   ·simp only[fh3]
    simp only[bG8,ee1]at h1
    have hv:c.L9=true:=by simpa using h2
    have hs:=aY6.1 h1.1
    have hc:=db2 h1.2 hv
    have hle:s.j7.P8<=c.At:=by simpa using h3
    obtain⟨hgo,hg⟩:=gone hs hc hle
    rw[bE0 s hn hj]
    simp only[ac0]
    rw[hgo]
    simp only[ac0]
    unfold dn8
    generalize goE c.At s=g at hg
    have hcb:cc0 c.E3=true:=bt5.2 ⟨hc.an0,hc.an1⟩
    have hleft:(bif s.j8.L9 then(ab6 (T4 s.j8.E3 c.E3) fun v4=>ab6 (N1 (g.2.F3.length:Int) (ac7 v4) g.2.F3) fun(t:(List A9)⊕Empty)=>match t with| .inl f3=>(some f3)| .inr r=>r.elim)else(some g.2.F3))=some (bh6 s c g.2.F3):=by
     unfold bh6
     cases hsv:s.j8.L9
     ·rfl
     ·have hjb:=hg.en1
      have:=cC9 (dst s.j8.E3 c.E3) (by unfold dst;omega) g.2.F3 [] (fun j hj=>(hg.live.rows.job j hj).left)
      simp only[fh5]
      rw[dj1 (ez9 hs hsv) hcb]
      simp only[ac0]
      rw[am7 _ (by omega)]
      rw[show((([]:List A9).length:Nat):Int)=0 from rfl,cY1,cY1]at this
      rw[this]
      rfl
    erw [hleft]
    simp only[ac0]
    cases aK7:g.2.Cut
    ·simp only[cI8,fh5,fh3]
     have hl:=cn0 s c g.2.F3
     have hjb:=hg.en1
     have hb:=bC6 (s:=mk g.2 c (bh6 s c g.2.F3)) (by show aE8 g.2.o9;rw[hg.eng];exact hs.eng) hc hv h1.2 (by show aW0 g.2.o9 g.2.Next=true;rw[hg.eng,hg.next];exact hs.cH2) (by show g.2.Next.length<=1000000;rw[hg.next];exact hn) (by show(bh6 s c g.2.F3).length<=1000;omega)
     have hb':ai6 (⟨(⟨g.2.o9.z7,g.2.o9.P0⟩:o7),c,(⟨g.2.j7.P8,g.2.j7.j5⟩:u5),g.2.Next,bh6 s c g.2.F3,false⟩:j2)=some (mk g.2 c (bT1 s c g.2)):=by
      have e:(⟨(⟨g.2.o9.z7,g.2.o9.P0⟩:o7),c,(⟨g.2.j7.P8,g.2.j7.j5⟩:u5),g.2.Next,bh6 s c g.2.F3,false⟩:j2)=mk g.2 c (bh6 s c g.2.F3):=by unfold mk;rw[aK7]
      rw[e,hb];rfl
     rw[hb']
     simp only[ac0]
     have hll:=dv9 hg hs hc hv aK7
     have ha:=dQ8 hll.rows (.inr hc) hll.cG3 hll.dl6 hll.n1 hll.n8 (by have:=hll.most;omega)
     show(bif decide (((bT1 s c g.2).length:Int)>200)then _ else _)=_
     cases decide (((bT1 s c g.2).length:Int)>200)
     ·simp only[fh3]
      rw[ha];rfl
     ·rfl
    ·simp only[aK4,fh5,fh3]
     unfold mk
     rw[aK7]
   ·rfl
  ·rfl
 ·rfl
def z0:o4:=⟨false,0,false,false⟩
def k0:B8:=⟨false,0,0,0,0,0⟩
def bZ7 (e:o7):j2:=⟨e,k0,⟨0,cD1 (2*e.z7.length) z0⟩,[],[],false⟩
theorem dR1 (e:o7):aq2 e=some (bif decide (aE8 e)then(bZ7 e,0)else(cr5,1)):=by
 unfold aq2
 rw[Ev.ap4]
 cases hd:decide (aE8 e)
 ·rfl
 ·have he:=of_decide_eq_true hd
  have h1:=he.1;have h2:=he.2.1
  simp only[ac0,aK4,fh3]
  rw[k6 (n:=2*(e.z7.length:Int)) (by omega) (by omega),show 2*(e.z7.length:Int)=((2*e.z7.length:Nat):Int) by omega,Tm.eQ8 _ (by omega) (by omega)]
  simp only[ac0]
  unfold P9 bc2
  rw[K4 _ _ (by simp;omega)]
  rfl
def ex4 (s:j2)(l:List A6):j2:=⟨s.o9,s.j8,s.j7,l,s.F3,s.Cut⟩
theorem ev0 (s:j2)(l:List A6)(hn:s.Next.length<=1000000)(hj:s.F3.length<=1000000)(hl:l.length<=1000000):as1 s l=some (bif cp5 s&&aW0 s.o9 l then(ex4 s l,0)else(cr5,1)):=by
 unfold as1
 rw[bd1 s hn hj]
 cases hd:cp5 s
 ·rfl
 ·have hs:=aY6.1 hd
  simp only[ac0,aK4,fh3]
  rw[dg6 _ _ hs.eng hl]
  cases aW0 s.o9 l
  ·rfl
  ·simp only[ac0,aK4,fh3]
   rw[bE0 s hn hj]
   simp only[ac0]
   unfold W4
   rw[K4 _ _ (by simp;omega)]
   rfl
def e1:o7:=⟨[1],0⟩
def f1:A6:=⟨1,640,2000,0,0,0,0⟩
def c1:B8:=⟨true,1000,5760,1000,384,384⟩
def c2:B8:=⟨true,2000,44544,1000,384,384⟩
def xa:C8:=⟨45440,2,1,0⟩
def xb:C8:=⟨44672,1,1,0⟩
def s1:j2:=ex4 (bZ7 e1) [f1]
def g1:j2:=put s1 1000 (s1.j7.j5,[])
def s2:j2:=bN4 (mk g1 c1 [shJ 0 5760 xb,shJ 0 5760 xa])
def g2:j2:=put s2 2000 (s2.j7.j5,s2.F3)
def s3:j2:=bN4 (mk g2 c2 [aS6 38784 (shJ 0 5760 xb),aS6 38784 (shJ 0 5760 xa)])
theorem dl3 {e:o7}(h:aE8 e):aO4 (bZ7 e):=by
 have h1:=h.1;have h2:=h.2.1
 have hl:Live e.z7.length (bZ7 e):=by
  refine⟨rfl,h1,h2,⟨by simp[bZ7],fun x hx=>?_,fun j hj=>by simp[bZ7]at hj,fun c hc=>?_⟩,fun hc=>by simp[bZ7]at hc,by simp[bZ7],by simp[bZ7],.inl ⟨rfl,rfl⟩,by simp[bZ7]⟩
  ·have:x=z0:=by simp only[bZ7]at hx;exact eW3 hx
   subst this
   show Tm.chB 0 z0=true
   decide
  ·have:(bZ7 e).j7.j5[c]=z0:=by simp only[bZ7,eZ2]
   simp only
   rw[this];rfl
 refine⟨h,rfl,hl.tim,hl.len,rfl,by simp[bZ7],fun _=>rfl,hl.rows.job,fun c hc=>?_⟩
 have hr:=hl.rows.row c hc
 simp only at hr
 unfold bF2
 rw[hr];rfl
theorem dT7 (l:List o4)(hl:l.length<=1000000)(f:o4->Option Bool)(hf:∀x,f x=some x.M9):H8 l f=some (l.any fun x=>x.M9):=by
 unfold H8 T6 Y1
 exact aj2 l (by omega) f (fun x=>x.M9) (fun y _=>hf y)
def ep8 (s:j2):j2:=⟨s.o9,s.j8,s.j7,s.Next,s.F3,false⟩
theorem dK0 (s:j2)(hn:s.Next.length<=1000000)(hj:s.F3.length<=1000000)(hc:s.j7.j5.length<=1000000):ae7 s=some (bif !cp5 s then(cr5,1)else bif !s.Cut||s.j7.j5.any fun x=>x.M9 then(cr5,6)else(ep8 s,0)):=by
 unfold ae7
 rw[bd1 s hn hj]
 cases cp5 s
 ·rfl
 ·simp only[ac0,aK4,fh3]
  cases aK7:s.Cut
  ·rfl
  ·rw[dT7 _ hc ah5 (fun _=>rfl)]
   simp only[ac0,aK4,fh3,ed1]
   cases s.j7.j5.any fun x=>x.M9
   ·simp only[fh3]
    rw[bE0 s hn hj]
    rfl
   ·rfl
theorem dM9 {n:Nat}{s:j2}(h:Live n s)(aK7:s.Cut=true){c:Nat}(hc:c<s.j7.j5.length):
  (ar6 s.F3 (c:Int)=[]/\s.j7.j5[c].M9=false/\s.j7.j5[c].F6=false)\/
  (∃j,ar6 s.F3 (c:Int)=[j]/\j.Event.Kind=2/\j.F6=true/\s.j7.j5[c].F6=true/\s.j7.j5[c].M9=true/\s.j7.j5[c].Next=false/\s.j7.j5[c].At=j.At/\j.At<=s.j7.P8+5000):=by
 have hr:=h.rows.row c hc
 have hk:=h.cut aK7 c hc
 simp only at hr
 match hm:ar6 s.F3 (c:Int)with
 |[]=>
  rw[hm]at hr
  simp only[aI9,au2,bZ6]at hr
  exact .inl ⟨rfl,hr.1,hr.2⟩
 |[j]=>
  rw[hm]at hr hk
  simp only[bu7,au2,beq_iff_eq,fh8]at hk
  simp only[aI9,au2,bZ6,cx1,beq_iff_eq]at hr
  obtain⟨⟨⟨h1,h2⟩,h3⟩,_⟩:=hr
  obtain⟨⟨k1,k2⟩,k3⟩:=hk
  have hl:s.j7.j5[c].M9=true:=by
   have ho:onK j.Event.Kind=false:=by rw[k1];rfl
   rw[ho]at h1
   cases hx:s.j7.j5[c].M9
   ·rw[hx]at h1;simp at h1
   ·rfl
  have h3':j.At=s.j7.j5[c].At/\s.j7.j5[c].Next= !s.j7.j5[c].M9:=by
   rcases h3 with h3|h3
   ·rw[k2]at h3;cases h3
   ·exact h3
  exact .inr ⟨j,rfl,k1,k2,by rw[<-h2];exact k2,hl,by rw[h3'.2,hl];rfl,h3'.1.symm,k3⟩
 |i::j::r=>rw[hm]at hk;simp[bu7]at hk
structure dC4 (s:j2)(n i:Nat)(u:List o5×u5×List A9):Prop where
 now:u.2.1.P8=s.j7.P8
 len:u.2.1.j5.length=2*n
 off:∀w∈u.1,w.M9=false
 few:u.1.length<=i/\u.2.2.length<=i
 rest:∀c,i<=c->u.2.1.j5[c]? =s.j7.j5[c]?
 ch:∀x∈u.2.1.j5,Tm.chB s.j7.P8 x=true
 job:∀j∈u.2.2,aK8 n j/\chn j.Event<(i:Int)
 row:∀c x,c<i->u.2.1.j5[c]? =some x->aI9 (ar6 u.2.2 (c:Int)) x=true/\bu7 s.j7.P8 (ar6 u.2.2 (c:Int))=true/\(c%2=1->x.M9=false)
theorem dB0 {s:j2}{n i:Nat}{u:List o5×u5×List A9}(hs:Live n s)(h:dC4 s n i u):Tm.ag2 u.2.1=true:=by
 have h1:=hs.n1;have h2:=hs.n8;have h3:=hs.cG3;have h4:=hs.dl6
 have hl:=h.len
 have hn:=h.now
 have:=cI9 (n:=n) (now:=s.j7.P8) (u:=(u.2.1.j5,([]:List A9)))
 unfold Tm.ag2
 rw[au2,by6]
 have ht:=hs.tim
 unfold Tm.ag2 at ht
 rw[au2]at ht
 refine⟨?_,fun x hx=>by rw[hn];exact h.ch x hx⟩
 have e:Tm.bf6 u.2.1=Tm.bf6 s.j7:=by
  unfold Tm.bf6
  rw[hn,hl,<-hs.len]
 rw[e];exact ht.1
theorem dn1 {s:j2}{n i:Nat}{u:List o5×u5×List A9}(h:dC4 s n i u)(hi:i<2*n)(out:List o5)(y:o4)(more:List A9)
  (ho:∀w∈out,w.M9=false) (ho1:out.length<=1) (hm1:more.length<=1) (hy:Tm.chB s.j7.P8 y=true) (hj:∀j∈more,aK8 n j/\chn j.Event=(i:Int)) (hr:aI9 more y=true/\bu7 s.j7.P8 more=true/\(i%2=1->y.M9=false)):
  dC4 s n (i+1) (u.1++out,⟨s.j7.P8,u.2.1.j5.set i y⟩,u.2.2++more):=by
 have hf:=h.few
 have hl:=h.len
 have hni:∀c:Nat,c<i->ar6 more (c:Int)=[]:=fun c hc=>bw0 fun j hj2=>by have:=(hj j hj2).2;omega
 have hmi:ar6 u.2.2 (i:Int)=[]:=bw0 fun j hj2=>by have:=(h.job j hj2).2;omega
 have hmm:ar6 more (i:Int)=more:=by
  unfold ar6
  rw[fd5]
  intro j hj2
  simp[(hj j hj2).2]
 refine⟨rfl,by simp[hl],fun w hw=>?_,?_,fun c hc=>?_,fun x hx=>?_,fun j hj2=>?_,fun c x hc hx=>?_⟩
 ·rcases do2.1 hw with h2|h2
  ·exact h.off w h2
  ·exact ho w h2
 ·simp only[aX7];omega
 ·simp only
  rw[fc8 (by omega)]
  exact h.rest c (by omega)
 ·simp only at hx
  rcases fd7 hx with h2|h2
  ·exact h.ch x h2
  ·rw[h2];exact hy
 ·rcases do2.1 hj2 with h2|h2
  ·have:=h.job j h2;exact⟨this.1,by omega⟩
  ·have:=hj j h2;exact⟨this.1,by omega⟩
 ·simp only at hx|-
  rw[aS2]
  by_cases hci:c=i
  ·subst hci
   rw[List.getElem?_set_self (by omega)]at hx
   have:y=x:=cJ3 hx
   subst this
   rw[hmi,hmm];exact hr
  ·rw[fc8 (by omega)]at hx
   rw[hni c (by omega),dn6]
   exact h.row c x (by omega) hx
theorem di6 (now:Int)(l:Bool):Tm.chB now ⟨false,0,false,l⟩=true:=by
 unfold Tm.chB;rfl
theorem ej9 {s:j2}{n:Nat}(hs:Live n s)(hm:s.F3.length<=1000)(i:Nat)(hi:i<2*n)(u:List o5×u5×List A9)(h:dC4 s n i u):∃u',ae6 s (i:Int) u=some (.next u')/\dC4 s n (i+1) u':=by
 have hl:=hs.len
 have hn8:=hs.n8
 have h0:=hs.cG3
 have h1:=hs.dl6
 have hi2:i<s.j7.j5.length:=by omega
 have hi3:i<u.2.1.j5.length:=by rw[h.len];exact hi
 have htb:=dB0 hs h
 have hxe:u.2.1.j5[i]=s.j7.j5[i]:=by
  have:=h.rest i (cB6 _)
  rw[aJ9 hi2,aJ9 hi3]at this
  exact cJ3 this
 have hf:=h.few
 have aQ9:=hs.rows.row i hi2
 simp only at aQ9
 have hmd:((i:Int).tmod 2==0)=(i%2==0):=by
  rw[do3 (by omega),dJ4,beq_iff_eq,beq_iff_eq];omega
 have bF1:=h.now
 unfold ae6
 rw[E8 _ _ hi2]
 simp only[ac0,hmd]
 generalize hx:s.j7.j5[i]=x at aQ9 hxe
 have hcond:(bif x.M9 then(some ((!(i%2==0))||(s.j7.P8==1099511627776)))else(some false))=some (x.M9&&((!(i%2==0))||(s.j7.P8==1099511627776))):=by cases x.M9<;>rfl
 rw[hcond]
 simp only[ac0]
 cases hb:x.M9&&((!(i%2==0))||(s.j7.P8==1099511627776))
 ·simp only[fh3]
  rw[Tm.db7 u.2.1 (i:Int) i rfl hi3 htb]
  simp only[ac0]
  rw[hxe,bF1]
  cases hlv:x.M9
  ·simp only[cI8,fh5]
   refine⟨_,rfl,?_⟩
   have:=dn1 h hi [] ⟨false,0,false,false⟩ [] (by simp) (by simp) (by simp) (di6 _ _) (by simp) ⟨rfl,rfl,fun _=>rfl⟩
   rw[dn6,dn6]at this
   exact this
  ·simp only[aK4,fh3]
   rw[hlv,cJ4,bG8]at hb
   have hev:i%2=0:=by simpa using hb.1
   have hnm:s.j7.P8≠1099511627776:=by simpa using hb.2
   cases hsp:split (i:Int) s.F3 with
   |none=>
    rw[dY8 hsp]at aQ9
    simp[aI9,hlv]at aQ9
   |some t=>
    obtain⟨a,j,b⟩:=t
    obtain⟨ej,ec,_⟩:=bk7 hsp
    have hjo:=hs.rows.job j (by rw[ej];simp)
    rw[cR2 hsp]at aQ9
    simp only[aI9,au2,bZ6,cx1,beq_iff_eq]at aQ9
    obtain⟨⟨⟨r1,r2⟩,r3⟩,_⟩:=aQ9
    have hk2:j.Event.Kind=2:=by
     have hk:=hjo.kind
     have hce:=dr0 hjo
     rw[ec,do3 (by omega)]at hce
     have hno:¬(j.Event.Kind=3\/j.Event.Kind=4):=by
      intro h3;rw[if_pos h3]at hce;omega
     rw[hlv]at r1
     have:onK j.Event.Kind=false:=by
      cases ho:onK j.Event.Kind
      ·rfl
      ·rw[ho]at r1;simp at r1
     unfold onK at this
     simp only[bG8,beq_eq_false_iff_ne]at this
     omega
    have hfi:D4 s.F3 (fun x0=>au0 x0 (i:Int))=some (cv4 (i:Int) s.F3):=bS6 (i:Int) n hn8 s.F3 (by omega) (fun y hy=>hs.rows.job y hy)
    rw[hfi]
    have hfv:cv4 (i:Int) s.F3=(a.length:Int):=by unfold cv4;rw[hsp]
    have hgm:F0 s.F3 (a.length:Int)=some j:=by rw[ej];exact dO1 a b j
    rw[hfv]
    simp only[ac0]
    rw[hgm]
    simp only[ac0]
    rw[k6 (n:=s.j7.P8+5000) (by omega) (by omega)]
    have hxa:j.F6=true->s.j7.P8<j.At/\j.At<=1099511627776:=by
     intro hja
     have hxm:x∈s.j7.j5:=by rw[<-hx];exact bf2 hi2
     have:=Tm.da9 (hs.rows.ch x hxm) (by rw[<-r2];exact hja)
     rcases r3 with r3|r3
     ·rw[hja]at r3;cases r3
     ·rw[r3.1];exact this
    obtain⟨at2,hat,ha1,ha2,ha3⟩:∃at2,(bif ((!j.F6)||(decide (j.At>s.j7.P8+5000)))then(some (J1 (s.j7.P8+5000) 1099511627776))else(some j.At))=some at2/\s.j7.P8<at2/\at2<=1099511627776/\at2<=s.j7.P8+5000:=by
     cases hc:(!j.F6)||(decide (j.At>s.j7.P8+5000))
     ·rw[bG8]at hc
      have hja:j.F6=true:=by simpa using hc.1
      have:=hxa hja
      have h5:¬j.At>s.j7.P8+5000:=of_decide_eq_false hc.2
      exact⟨j.At,rfl,by omega,by omega,by omega⟩
     ·refine⟨_,rfl,?_,?_,?_⟩<;>unfold J1<;>split<;>omega
    rw[hat]
    simp only[ac0]
    have htb2:Tm.ag2 ⟨s.j7.P8,u.2.1.j5.set i ⟨false,0,false,true⟩⟩=true:=by
     unfold Tm.ag2 at htb|-
     simp only[au2,by6]at htb|-
     refine⟨?_,fun y hy=>?_⟩
     ·have e:Tm.bf6 ⟨s.j7.P8,u.2.1.j5.set i ⟨false,0,false,true⟩⟩=Tm.bf6 u.2.1:=by
       unfold Tm.bf6
       simp only[ee7,bF1]
      rw[e];exact htb.1
     ·rcases fd7 hy with h2|h2
      ·exact h.ch y h2
      ·rw[h2];exact di6 _ _
    rw[Tm.eg6 _ (i:Int) at2 false i rfl (by simpa using hi3) htb2]
    have d1:decide (at2<=s.j7.P8)=false:=fh7 (by omega)
    have d2:decide (at2>Tm.cD5)=false:=by unfold Tm.cD5;exact fh7 (by omega)
    simp only[d1,d2,fh3,ac0]
    rw[K4 _ _ (by simp only[bu6,cY9];omega)]
    simp only[ac0,ex9,ey6]
    refine⟨_,rfl,?_⟩
    have:=dn1 h hi [] ⟨true,at2,false,true⟩ [⟨j.Event,j.Left,true,at2⟩] (by simp) (by simp) (by simp) (dM5 ha1 ha2)
     (fun k hk=>by
      have:k=⟨j.Event,j.Left,true,at2⟩:=by simpa using hk
      subst this
      exact⟨⟨hjo.cyl,hjo.kind,hjo.ef9,hjo.bT5,hjo.left,.inl rfl⟩,ec⟩)
     ⟨by simp[aI9,hk2,alt,onK],by simp[bu7,hk2,ha3],fun h3=>by omega⟩
    rw[dn6]at this
    exact this
 ·simp only[fh5]
  rw[au2]at hb
  rw[Tm.force_eq u.2.1 (i:Int) false i rfl hi3 htb]
  simp only[ac0]
  rw[K4 _ _ (by cases(u.2.1.j5[i].M9==false)<;>simp<;>omega)]
  simp only[ac0]
  refine⟨_,rfl,?_⟩
  rw[bF1]
  have:=dn1 h hi (bif u.2.1.j5[i].M9==false then []else [⟨s.j7.P8,(i:Int),false⟩]) ⟨false,0,false,false⟩ [] (fun w hw=>by
   cases hc:u.2.1.j5[i].M9==false<;>rw[hc]at hw
   ·have:w=⟨s.j7.P8,(i:Int),false⟩:=by simpa using hw
    rw[this]
   ·simp at hw) (by cases u.2.1.j5[i].M9==false<;>simp) (by simp) (di6 _ _) (by simp) ⟨rfl,rfl,fun _=>rfl⟩
  rw[dn6]at this
  exact this
theorem ej8 {s:j2}{n i:Nat}{u u':List o5×u5×List A9}(hs:Live n s)(hj:s.F3=[])(h:dC4 s n i u)(hu:u.2.2=[])(hi:i<2*n)(e:ae6 s (i:Int) u=some (.next u')):∀j,j∉u'.2.2:=by
 have hi2:i<s.j7.j5.length:=by have:=hs.len;omega
 have hi3:i<u.2.1.j5.length:=by rw[h.len];exact hi
 have aQ9:=hs.rows.row i hi2
 simp only at aQ9
 rw[hj]at aQ9
 have hlv:s.j7.j5[i].M9=false:=by
  simp only[ar6,eK3,aI9,au2,bZ6]at aQ9
  exact aQ9.1
 unfold ae6 at e
 rw[E8 _ _ hi2]at e
 simp only[ac0,hlv,fh3]at e
 rw[Tm.db7 u.2.1 (i:Int) i rfl hi3 (dB0 hs h)]at e
 simp only[ac0,cI8,fh5,aj7,Fl.next.injEq]at e
 subst e
 simp[hu]
structure eI0 (s t:j2)(out:List o5):Prop where
 ok:aO4 t
 cut:t.Cut=true
 now:t.j7.P8=s.j7.P8
 off:∀w∈out,w.M9=false
 few:out.length<=100
 odd:∀c x,t.j7.j5[c]? =some x->c%2=1->x.M9=false
 fj9:∀x∈t.j7.j5,x.F6=true->x.At<=s.j7.P8+5000
 next:t.Next=s.Next
 eng:t.o9=s.o9
theorem eG4 {n:Nat}{t:j2}(h:Live n t)(aK7:t.Cut=true):∀x∈t.j7.j5,x.F6=true->x.At<=t.j7.P8+5000:=by
 intro x hx ha
 obtain⟨c,hc,rfl⟩:=da7.1 hx
 rcases dM9 h aK7 hc with⟨_,_,b⟩|⟨j,_,_,_,_,_,_,e,f⟩
 ·rw[ha]at b;cases b
 ·omega
theorem eQ9 {n:Nat}{t:j2}(h:Live n t)(aK7:t.Cut=true):∀c x,t.j7.j5[c]? =some x->c%2=1->x.M9=false:=by
 intro c x hx ho
 obtain⟨hc,rfl⟩:=bD8.1 hx
 rcases dM9 h aK7 hc with⟨_,a,_⟩|⟨j,a,b,_⟩
 ·exact a
 ·exfalso
  have hm:j∈ar6 t.F3 (c:Int):=by rw[a];simp
  obtain⟨hj,hce⟩:=dY7 h.rows.job hm
  have:=dr0 hj
  rw[hce,do3 (by omega),if_neg (by omega)]at this
  omega
theorem dr6 {s t:j2}{out:List o5}(hs:aO4 s)(h:Live s.o9.z7.length t)(aK7:t.Cut=true)(he:t.o9=s.o9)(hk:t.j8=s.j8)(hnx:t.Next=s.Next)(bF1:t.j7.P8=s.j7.P8)(hoff:∀w∈out,w.M9=false)(hfew:out.length<=100)(hm:t.F3.length<=200)(hnone:s.j8.L9=false->t.F3=[]):eI0 s t out:=by
 refine⟨⟨by rw[he];exact hs.eng,by rw[hk];exact hs.clk,h.tim,by rw[he];exact h.len,by rw[he,hnx];exact hs.cH2,hm,fun h2=>hnone (by rw[<-hk];exact h2),by rw[he];exact h.rows.job,fun c hc=>?_⟩,aK7,bF1,hoff,hfew,eQ9 h aK7,by rw[<-bF1];exact eG4 h aK7,hnx,he⟩
 have hr:=h.rows.row c hc
 simp only at hr
 unfold bF2
 rw[hr,h.cut aK7 c hc]
 simp
theorem eG2 {s:j2}(hs:aO4 s)(hn:s.Next.length<=1000000):∃t out,aq1 s=some (t,out,0)/\eI0 s t out:=by
 have hl:=Live.of hs
 have hm:=hs.most
 have hlen:=hl.len
 have hn8:=hl.n8
 have h0:=hl.cG3
 have h1:=hl.dl6
 unfold aq1
 rw[bd1 s hn (by omega),aY6.2 hs]
 simp only[ac0,aK4,fh3]
 rw[bE0 s hn (by omega)]
 simp only[ac0]
 cases aK7:s.Cut
 ·simp only[fh3]
  obtain⟨u,e,hu⟩:=ah4 s.j7.j5.length (by omega) (ae6 s) (fun i u=>dC4 s s.o9.z7.length i u/\(s.F3=[]->u.2.2=[])) ([],s.j7,[])
   ⟨⟨rfl,hlen,by simp,by simp,fun _ _=>rfl,hl.rows.ch,by simp,fun c x hc=>by omega⟩,fun _=>rfl⟩
   (fun i hi u hu=>by
    obtain⟨u',e1,e2⟩:=ej9 hl (by omega) i (by omega) u hu.1
    refine⟨u',e1,e2,fun hj=>?_⟩
    apply List.eq_nil_iff_forall_not_mem.2
    intro j hj2
    exact ej8 hl hj hu.1 (hu.2 hj) (by omega) e1 j hj2)
  rw[e]
  refine⟨_,_,rfl,?_⟩
  have hf:=hu.1.few
  have bF1:=hu.1.now
  have hlu:=hu.1.len
  have hlv:Live s.o9.z7.length ⟨s.o9,s.j8,u.2.1,s.Next,u.2.2,true⟩:=by
   refine⟨rfl,hl.n1,hl.n8,⟨hlu,fun x hx=>by show Tm.chB u.2.1.P8 x=true;rw[bF1];exact hu.1.ch x hx,fun j hj=>(hu.1.job j hj).1,fun c hc=>?_⟩,fun _ c hc=>?_,by show 0<=u.2.1.P8;omega,by show u.2.1.P8<=_;omega,?_,by show u.2.2.length<=1000;omega⟩
   ·have hc2:c<u.2.1.j5.length:=hc
    exact(hu.1.row c _ (by omega) (aJ9 hc2)).1
   ·have hc2:c<u.2.1.j5.length:=hc
    show bu7 u.2.1.P8 _=true
    rw[bF1]
    exact(hu.1.row c _ (by omega) (aJ9 hc2)).2.1
   ·rcases hl.clk with⟨a,b⟩|a
    ·exact .inl ⟨a,hu.2 b⟩
    ·exact .inr a
  exact dr6 hs hlv rfl rfl rfl rfl bF1 hu.1.off (by omega) (by show u.2.2.length<=200;omega) (fun hv=>hu.2 (hs.none hv))
 ·simp only[fh5]
  refine⟨s,[],?_,dr6 hs hl aK7 rfl rfl rfl rfl (by simp) (by simp) hm hs.none⟩
  cases s;rfl
theorem eE2 {s:j2}(h:aO4 s):aO4 (ep8 s):=
 ⟨h.eng,h.clk,h.tim,h.chs,h.cH2,h.most,h.none,h.job,fun c hc=>by
  have:=h.line c hc
  unfold bF2 at this|-
  simp only[au2]at this|-
  refine⟨this.1,?_⟩
  simp[ep8]⟩
theorem eH8 {s:j2}(h:aO4 s){l:List A6}(hl:aW0 s.o9 l=true):aO4 (ex4 s l):=
 ⟨h.eng,h.clk,h.tim,h.chs,hl,h.most,h.none,h.job,fun c hc=>h.line c hc⟩
end Go.Pv.Sc
namespace Go.Proofs.YtfplhihoadkhlaaGreat.Ec
open Go Go.Pv Go.Pv.Ec Go.Proofs
structure Sch (s t:j2):Prop where
 ok:Sc.aO4 t
 few:t.Next.length<=8
 eng:t.o9=s.o9
 now:t.j7.P8=s.j7.P8
theorem eZ1 (o:V7):(bR6 o).m=some o:=rfl
theorem eQ0 (n:V7)(e:Int)(o:V7):(bj0 n e o).m=some (bif e !=0 then o else n):=by
 simp only[bj0,C.of,M.run]
 cases e !=0<;>rfl
theorem ex5 {s:j2}(h:Sch s s)(l:List A6)(hl:l.length<=8):∃t e,(as1 s l).m=some (t,e)/\Sch s (bif e !=0 then s else t):=by
 have hm:=h.ok.most
 rw[ck7,Sc.ev0 s l (by have:=h.few;omega) (by omega) (by omega),Sc.aY6.2 h.ok]
 cases hw:Sc.aW0 s.o9 l
 ·exact⟨_,_,rfl,h⟩
 ·exact⟨_,_,rfl,Sc.eH8 h.ok hw,hl,rfl,rfl⟩
theorem dJ0 {s:j2}(h:Sch s s):∃t e,(ae7 s).m=some (t,e)/\Sch s (bif e !=0 then s else t):=by
 have hm:=h.ok.most
 have hc:=h.ok.chs
 have he:=h.ok.eng.2.1
 rw[bY7,Sc.dK0 s (by have:=h.few;omega) (by omega) (by omega),Sc.aY6.2 h.ok]
 simp only[aK4,fh3]
 cases(!s.Cut||s.j7.j5.any fun x=>x.M9)
 ·exact⟨_,_,rfl,Sc.eE2 h.ok,h.few,rfl,rfl⟩
 ·exact⟨_,_,rfl,h⟩
theorem dN0 {s:j2}(h:Sch s s):∃t l,(aq1 s).m=some (t,l,0)/\Sch s t/\l.length<=100:=by
 obtain⟨t,l,e,k⟩:=Sc.eG2 h.ok (by have:=h.few;omega)
 rw[ct9]
 exact⟨t,l,e,⟨k.ok,by rw[k.next];exact h.few,k.eng,k.now⟩,k.few⟩
theorem dF6 {s:o8}(hg:sgB s.u.G1=true/\s.u.G1.ao1<=s.t)(h:Sch s.u.c8 s.u.c8)(hf:s.A4.N8.length<=8)(hl:s.u4.length<=1000000):
  ∃g c w,(aZ7 s).m=some {s with u:={s.u with c8:=c,G1:=g},u4:=w}/\
   (sgB g=true/\g.ao1<=s.t)/\Sch s.u.c8 c/\w.length<=s.u4.length+100:=by
 obtain⟨r,e,e1,h1,_⟩:=eG3 s.u.G1 true s.u.H4 s.u.H7 s.t
 have hr:sgB (bif e !=0 then s.u.G1 else r)=true/\(bif e !=0 then s.u.G1 else r).ao1<=s.t:=by
  by_cases he:e=0
  ·subst he
   obtain⟨q1,q2,_⟩:=h1 rfl
   rw[show((0:Int) !=0)=false from rfl]
   exact⟨q1,by simp only[fh3];omega⟩
  ·rw[show(e !=0)=true by simpa using he];exact hg
 simp only[aZ7,CG.of,M.run,eZ1,eQ0,e1,ac0]
 generalize(bif e !=0 then s.u.G1 else r)=g at hr|-
 cases g.T7
 ·obtain⟨t,l,e2,h2,h3⟩:=dN0 h
  simp only[cI8,fh5,e2,ac0]
  rw[bV3 _ _ l 0 (by simp only;omega)]
  simp only[ac0]
  exact⟨g,t,s.u4++l,rfl,hr,h2,by rw[aX7];omega⟩
 ·simp only[aK4,fh3]
  have key:∃c,(bif s.u.c8.Cut then(aD2 s.u.c8).m.bind fun t=>(ae7 s.u.c8).m.bind fun t_1=>(ao4 t_1.1 t_1.2 t).m.bind fun t=>some t else some s.u.c8)=some c/\Sch s.u.c8 c:=by
   cases s.u.c8.Cut
   ·exact⟨_,rfl,h⟩
   ·obtain⟨t,e,e2,h2⟩:=dJ0 h
    simp only[fh5,en5,dG8,e2,ac0]
    exact⟨_,rfl,h2⟩
  obtain⟨c,e3,h3⟩:=key
  rw[e3]
  simp only[ac0]
  obtain⟨t,e,e4,h4⟩:=ex5 (s:=c) ⟨h3.ok,h3.few,rfl,rfl⟩ s.A4.N8 hf
  simp only[en5,dG8,e4,ac0]
  exact⟨g,_,s.u4,rfl,hr,⟨h4.ok,h4.few,h4.eng.trans h3.eng,h4.now.trans h3.now⟩,by omega⟩
end Go.Proofs.YtfplhihoadkhlaaGreat.Ec
namespace Go.Pv.Sc
open Go Go.Pv Go.Pv.Ev
theorem dQ7 {s:j2}(hs:aO4 s)(hn:s.Next.length<=1000000)(to:Int)(h1:s.j7.P8<=to)(h2:to<=1099511627776):W0 s to=some ((goE to s).2,(goE to s).1,0):=by
 have hm:=hs.most
 unfold W0
 rw[bd1 s hn (by omega),aY6.2 hs]
 simp only[ac0,aK4,fh3]
 rw[fh7 (show¬to<s.j7.P8 by omega),fh7 (show¬to>1099511627776 by omega)]
 simp only[fh3]
 rw[bE0 s hn (by omega)]
 simp only[ac0]
 rw[(cI3 (.of hs) to h1 h2).1]
 rfl
theorem cb5 {s:j2}(hs:aO4 s)(to:Int)(h1:s.j7.P8<=to)(h2:to<=1099511627776):aO4 (goE to s).2/\(goE to s).2.o9=s.o9/\(goE to s).2.Next=s.Next/\(goE to s).2.j7.P8=to:=by
 obtain⟨_,hl,ha,bF1,hj,_⟩:=cI3 (.of hs) to h1 h2
 refine⟨⟨by rw[ha.eng];exact hs.eng,by rw[ha.clk];exact hs.clk,hl.tim,by rw[ha.eng];exact hl.len,by rw[ha.eng,ha.next];exact hs.cH2,by have:=hs.most;omega,fun hv=>?_,by rw[ha.eng];exact hl.rows.job,fun c hc=>?_⟩,ha.eng,ha.next,bF1⟩
 ·rw[ha.clk]at hv
  have:=hs.none hv
  rw[this]at hj
  exact List.length_eq_zero_iff.1 (by simpa using hj)
 ·have hr:=hl.rows.row c hc
  simp only at hr
  unfold bF2
  rw[hr]
  cases aK7:(goE to s).2.Cut
  ·simp
  ·rw[hl.cut aK7 c hc];simp
theorem dj8 {s:j2}(hs:aO4 s)(to:Int)(h1:s.j7.P8<=to):(goE to s).1.length<=3200:=by
 have hm:=hs.most
 obtain⟨_,_,_,_,_,_,r7,_⟩:=em5 to s.F3.length s [] (.of hs) (cB6 _) (by simp;omega) h1
 have:(goE to s).1=(goV to s.F3.length ([],s)).1:=rfl
 rw[this]
 simp only[cY9]at r7
 omega
end Go.Pv.Sc
namespace Go.Proofs.YtfplhihoadkhlaaGreat.Ec
open Go Go.Pv Go.Pv.Ec Go.Proofs
structure bq7 (T:Int)(s t:j2):Prop where
 ok:Sc.aO4 t
 few:t.Next.length<=8
 eng:t.o9=s.o9
 low:s.j7.P8<=t.j7.P8
 now:t.j7.P8<=T
theorem ey8 {T:Int}{s:j2}(h:bq7 T s s)(to:Int)(hT:to<=T):∃t l e,(W0 s to).m=some (t,l,e)/\l.length<=3200/\bq7 T s (bif e !=0 then s else t):=by
 have hm:=h.ok.most
 have hf:=h.few
 rw[bm8]
 by_cases h1:to<s.j7.P8
 ·unfold Pv.W0
  rw[Sc.bd1 s (by omega) (by omega),Sc.aY6.2 h.ok]
  simp only[ac0,aK4,fh3]
  rw[fh6 h1]
  exact⟨_,_,_,rfl,by simp,h⟩
 ·by_cases h2:to>1099511627776
  ·unfold Pv.W0
   rw[Sc.bd1 s (by omega) (by omega),Sc.aY6.2 h.ok]
   simp only[ac0,aK4,fh3]
   rw[fh7 h1,fh6 h2]
   exact⟨_,_,_,rfl,by simp,h⟩
  ·rw[Sc.dQ7 h.ok (by omega) to (by omega) (by omega)]
   obtain⟨k1,k2,k3,k4⟩:=Sc.cb5 h.ok to (by omega) (by omega)
   exact⟨_,_,_,rfl,Sc.dj8 h.ok to (by omega),⟨k1,by show(Sc.goE to s).2.Next.length<=8;rw[k3];exact hf,k2,by show s.j7.P8<=(Sc.goE to s).2.j7.P8;omega,by show(Sc.goE to s).2.j7.P8<=T;omega⟩⟩
theorem dA0 {T:Int}{s:o8}(h:bq7 T s.u.c8 s.u.c8)(a:Int)(hT:a<=T)(hl:s.u4.length<=1000000000):
  ∃c w,(aY0 s a).m=some {s with u:={s.u with c8:=c},u4:=w}/\bq7 T s.u.c8 c/\w.length<=s.u4.length+3300:=by
 obtain⟨t,l,e,e1,h1,h2⟩:=ey8 h a hT
 simp only[aY0,CG.of,M.run,e1,ac0]
 rw[bV3 s t l e (by omega)]
 simp only[ac0]
 have hw:(bif e !=0 then s.u4 else s.u4++l).length<=s.u4.length+3200:=by
  cases e !=0
  ·simp only[fh3,aX7];omega
  ·simp only[fh5];omega
 generalize(bif e !=0 then s.u.c8 else t)=c at h2|-
 generalize(bif e !=0 then s.u4 else s.u4++l)=w at hw|-
 obtain⟨t2,l2,e2,k,h3⟩:=dN0 (s:=c) ⟨h2.ok,h2.few,rfl,rfl⟩
 rw[e2]
 simp only[ac0]
 rw[bV3 _ t2 l2 0 (by simp only;omega)]
 exact⟨t2,w++l2,rfl,⟨k.ok,k.few,k.eng.trans h2.eng,by have:=k.now;have:=h2.low;omega,by have:=k.now;have:=h2.now;omega⟩,by rw[aX7];omega⟩
theorem eq5:(cx3).m=some ⟨false,0,0,false⟩:=rfl
theorem cP8 {T:Int}{s:o8}(h:bq7 T s.u.c8 s.u.c8)(hp:phB s.u.D3=true)(n:Q5)(a:Int)(hT:a<=T)(hl:s.u4.length<=1000000000):
  ∃c p w,(aZ8 s n a).m=some {s with u:={s.u with c8:=c,D8:=n,D3:=p},u4:=w}/\
   bq7 T s.u.c8 c/\phB p=true/\w.length<=s.u4.length+3300:=by
 simp only[aZ8,CG.of,M.run,eq5,ac0]
 cases((s.u.D8.Mode !=0)&&(n.Mode==0))
 ·exact⟨_,_,_,rfl,h,hp,by omega⟩
 ·simp only[fh5]
  obtain⟨c,w,e,h1,h2⟩:=dA0 (s:={s with u:={s.u with D8:=n,D3:=⟨false,0,0,false⟩}}) h a hT hl
  rw[e]
  exact⟨c,_,w,rfl,h1,rfl,h2⟩
theorem ef8 (t:Int):(aw0 t).m=some (decide (t>=0)&&decide (t<=1099511627776)):=rfl
theorem ex3 (n:Int):∃a e,(bV6 w0 n).m=some (a,e):=by
 simp only[bV6,C.of,M.run,bY3,bG6,cy9,ac0,aK4,fh3,bg]
 cases(bif decide (n<0)then true else decide (n>=58))<;>exact⟨_,_,rfl⟩
theorem dT6 (t n h p:Int)(hp:0<=p/\p<=1099511627776):∃c e,(bP1 w0 t n h p).m=some (c,e)/\(c.At=t\/c.At=0):=by
 obtain⟨a,e,e1⟩:=ex3 n
 have q:bo2 .i64 p (o6 (w0.aE4+1))=some (p/3):=er1 (b:=3) hp.1 (by omega) (by omega)
 simp only[bP1,C.of,M.run,L1.m,bY3,bG6,cy9,e1,ef8,q,ac0,aK4,fh3,bg]
 generalize(bif e !=0 then true else !(decide (t>=0)&&decide (t<=1099511627776)))=c1
 generalize(c1||decide (h<0)||decide (h>1)||decide (p<o6 (2+1))||decide (p>1073741824))=c2
 cases c2
 ·simp only[fh3]
  cases n==0<;>cases n==o6 (58-1)<;>exact⟨_,_,rfl,.inl rfl⟩
 ·exact⟨_,_,rfl,.inr rfl⟩
end Go.Proofs.YtfplhihoadkhlaaGreat.Ec
namespace Go.Pv.Sc
open Go Go.Pv Go.Pv.Ev
theorem dB1 {s:j2}(hs:aO4 s)(c:B8):(aX1 s c).2.1.length<=3200/\((aX1 s c).2.2=0->(aX1 s c).1.o9=s.o9/\(aX1 s c).1.Next=s.Next/\(aX1 s c).1.j7.P8=c.At/\s.j7.P8<=c.At):=by
 unfold aX1
 cases h1:(!cp5 s|| !bN9 c)
 ·cases h2:!c.L9
  ·cases h3:decide (c.At<s.j7.P8)
   ·have h4:=of_decide_eq_false h3
    have hc:bN9 c=true:=by
     cases h:bN9 c
     ·rw[h]at h1;simp at h1
     ·rfl
    have hv:c.L9=true:=by simpa using h2
    have hm:=(db2 hc hv)
    have h5:c.At<=1099511627776:=by
     have:=hc
     unfold bN9 at this
     rw[hv]at this
     simp only[aK4,fh3,au2,fh8]at this
     omega
    obtain⟨_,_,ha,bF1,_⟩:=cI3 (.of hs) c.At (by omega) h5
    have hf:=dj8 hs c.At (by omega)
    simp only[fh3,dn8]
    cases(goE c.At s).2.Cut
    ·cases decide (((bT1 s c (goE c.At s).2).length:Int)>200)
     ·refine⟨hf,fun _=>?_⟩
      have k:=cs1 (mk (goE c.At s).2 c (bT1 s c (goE c.At s).2))
      refine⟨k.eng.trans ha.eng,k.next.trans ha.next,?_,by omega⟩
      show(bN4 _).j7.P8=c.At
      unfold bN4
      split<;>exact bF1
     ·exact⟨by simp,fun h=>by cases h⟩
    ·exact⟨hf,fun _=>⟨ha.eng,ha.next,bF1,by omega⟩⟩
   ·exact⟨by simp,fun h=>by cases h⟩
  ·exact⟨by simp,fun h=>by cases h⟩
 ·exact⟨by simp,fun h=>by cases h⟩
end Go.Pv.Sc
namespace Go.Proofs.YtfplhihoadkhlaaGreat.Ec
open Go Go.Pv Go.Pv.Ec Go.Proofs
theorem dz1 {T:Int}{s:j2}(h:bq7 T s s)(c:B8)(hT:c.At<=T):∃t l e,(am8 s c).m=some (t,l,e)/\l.length<=3200/\bq7 T s (bif e !=0 then s else t):=by
 have hm:=h.ok.most
 have hf:=h.few
 rw[cd2,Sc.ec0 s c (by omega) (by omega)]
 obtain⟨k1,k2⟩:=Sc.dB1 h.ok c
 refine⟨(Sc.aX1 s c).1,(Sc.aX1 s c).2.1,(Sc.aX1 s c).2.2,rfl,k1,?_⟩
 by_cases he:(Sc.aX1 s c).2.2=0
 ·obtain⟨a,b,d,f⟩:=k2 he
  rw[he,show((0:Int) !=0)=false from rfl]
  exact⟨Sc.ew2 he,by simp only[fh3];rw[b];exact hf,a,by simp only[fh3];omega,by simp only[fh3];omega⟩
 ·rw[show((Sc.aX1 s c).2.2 !=0)=true by simpa using he];exact h
theorem bq7.trans {T:Int}{s t u:j2}(h:bq7 T s t)(k:bq7 T t u):bq7 T s u:=⟨k.ok,k.few,k.eng.trans h.eng,ff5 h.low k.low,k.now⟩
theorem bq7.self {T:Int}{s t:j2}(h:bq7 T s t):bq7 T t t:=⟨h.ok,h.few,rfl,dF5 _,h.now⟩
theorem eJ1 (o:Q0):(bv0 o).m=some o:=rfl
theorem en3 (n:Q0)(e:Int)(o:Q0):(aT6 n e o).m=some (bif e !=0 then o else n):=by
 simp only[aT6,C.of,M.run]
 cases e !=0<;>rfl
theorem eJ4 (o:Q5):(bB1 o).m=some o:=rfl
theorem en7 (n:Q5)(e:Int)(o:Q5):(aZ6 n e o).m=some (bif e !=0 then o else n):=by
 simp only[aZ6,C.of,M.run]
 cases e !=0<;>rfl
theorem eY9 (o:N6):(bM8 o).m=some o:=rfl
theorem eP8 (n:N6)(e:Int)(o:N6):(be9 n e o).m=some (bif e !=0 then o else n):=by
 simp only[be9,C.of,M.run]
 cases e !=0<;>rfl
theorem enz {e:Int}(h:¬e=0):(e !=0)=true:=by simpa using h
theorem ec2 {y:Q5}(h:syB y=true):0<=y.A0/\y.A0<=1099511627776:=by
 unfold syB at h
 split at h
 ·simp only[au2,beq_iff_eq]at h;omega
 ·split at h
  ·split at h
   ·simp only[au2,beq_iff_eq,aZ0]at h;omega
   ·simp only[au2,fh8,aZ0]at h;omega
  ·split at h
   ·simp only[au2,fh8,aZ0]at h;omega
   ·cases h
structure Tee (T:Int)(s:o8):Prop where
 t0:0<=T
 sch:bq7 T s.u.c8 s.u.c8
 sy:syB s.u.D8=true/\s.u.D8.E0<=T
 ph:phB s.u.D3=true
 tf:tfB s.u.B4=true/\s.u.B4.E0<=T
theorem ec6 {T:Int}{s:o8}(h:Tee T s)(a:Int)(ha:a<=T)(hl:s.u4.length<=900000000):
  ∃c y p f w,(bv2 s a).m=some {s with u:={s.u with c8:=c,D8:=y,D3:=p,B4:=f},u4:=w}/\
   bq7 T s.u.c8 c/\(syB y=true/\y.E0<=T)/\phB p=true/\(tfB f=true/\f.E0<=T)/\w.length<=s.u4.length+10000:=by
 have ht0:=h.t0
 obtain⟨f,ok,e,e1,h1⟩:=eH3 s.u.B4 a
 have hf:tfB (bif e !=0 then s.u.B4 else f)=true/\(bif e !=0 then s.u.B4 else f).E0<=T:=by
  by_cases he:e=0
  ·subst he
   obtain⟨_,q2,q3,_⟩:=h1 rfl
   rw[show((0:Int) !=0)=false from rfl]
   refine⟨q2,?_⟩
   simp only[fh3]
   rcases q3 with q3|q3
   ·omega
   ·rw[q3];exact h.tf.2
  ·rw[enz he];exact h.tf
 simp only[bv2,CG.of,M.run,eY9,eP8,e1,ac0]
 generalize(bif e !=0 then s.u.B4 else f)=g at hf|-
 cases(e !=0|| !ok)
 ·simp only[fh3,eJ4,cy8,ac0]
  obtain⟨y,e2,q1,q2⟩:=eH0 s.u.D8 a
  simp only[q1,en7,ac0]
  have hy:syB (bif e2 !=0 then s.u.D8 else y)=true/\(bif e2 !=0 then s.u.D8 else y).E0<=T:=by
   by_cases he:e2=0
   ·subst he
    obtain⟨r1,r2⟩:=q2 rfl
    rw[show((0:Int) !=0)=false from rfl]
    refine⟨r1,?_⟩
    simp only[fh3]
    rcases r2 with r2|r2
    ·omega
    ·rw[r2];exact ht0
   ·rw[enz he];exact h.sy
  generalize(bif e2 !=0 then s.u.D8 else y)=z at hy|-
  obtain⟨c,p,w,q3,hc,hp,hw⟩:=cP8 (T:=T) (s:={s with u:={s.u with B4:=g}}) h.sch h.ph z a ha (by simp only;omega)
  simp only at hc hw
  rw[q3]
  simp only[ac0]
  cases(z.Mode !=2)
  ·simp only[fh3]
   have key:∃c2 p2 w2,(bif z.Z5==0 then
     (bK4 c0 p).m.bind fun t_1=>(bif !(bif t_1.2 !=0 then p else t_1.1).ap8 then
       (aY0 {s with u:={s.u with c8:=c,D8:=z,D3:=bif t_1.2 !=0 then p else t_1.1,B4:=g},u4:=w} a).m.bind fun t=>some t
      else some {s with u:={s.u with c8:=c,D8:=z,D3:=bif t_1.2 !=0 then p else t_1.1,B4:=g},u4:=w})
     else some {s with u:={s.u with c8:=c,D8:=z,D3:=p,B4:=g},u4:=w})=
     some ({s with u:={s.u with c8:=c2,D8:=z,D3:=p2,B4:=g},u4:=w2}:o8)/\bq7 T s.u.c8 c2/\phB p2=true/\w2.length<=s.u4.length+6600:=by
    cases z.Z5==0
    ·exact⟨c,p,w,rfl,hc,hp,by omega⟩
    ·obtain⟨r,e4,q4,q5⟩:=eE4 p
     simp only[fh5,q4,ac0]
     have hr:phB (bif e4 !=0 then p else r)=true:=by
      by_cases he:e4=0
      ·subst he;exact q5 rfl
      ·rw[enz he];exact hp
     generalize(bif e4 !=0 then p else r)=p3 at hr|-
     cases p3.ap8
     ·simp only[cI8,fh5]
      obtain⟨c3,w3,q6,h6,h7⟩:=dA0 (T:=T) (s:={s with u:={s.u with c8:=c,D8:=z,D3:=p3,B4:=g},u4:=w}) hc.self a ha (by simp only;omega)
      rw[q6]
      exact⟨c3,p3,w3,rfl,hc.trans h6,hr,by simp only at h7;omega⟩
     ·exact⟨c,p3,w,rfl,hc,hr,by omega⟩
   obtain⟨c2,p2,w2,q7,h7,h8,h9⟩:=key
   simp only[eJ1,en3,cm2,ac0]
   rw[q7]
   simp only[ac0]
   cases p2.ap8
   ·exact⟨c2,z,p2,g,w2,rfl,h7,hy,h8,hf,by omega⟩
   ·simp only[fh5]
    obtain⟨k,e8,q8,hk⟩:=dT6 a z.Z5 p2.aO3 z.A0 (ec2 hy.1)
    obtain⟨t3,l3,e9,q9,hl3,h10⟩:=dz1 h7.self k (by omega)
    simp only[q8,q9,ac0]
    rw[bV3 _ t3 l3 e9 (by simp only;omega)]
    simp only[ac0]
    refine⟨_,z,p2,g,_,rfl,h7.trans h10,hy,h8,hf,?_⟩
    cases e9 !=0
    ·simp only[fh3,aX7];omega
    ·simp only[fh5];omega
  ·exact⟨c,z,p,g,w,rfl,hc,hy,hp,hf,by omega⟩
 ·exact⟨_,_,_,g,_,rfl,h.sch,h.sy,h.ph,hf,by omega⟩
end Go.Proofs.YtfplhihoadkhlaaGreat.Ec

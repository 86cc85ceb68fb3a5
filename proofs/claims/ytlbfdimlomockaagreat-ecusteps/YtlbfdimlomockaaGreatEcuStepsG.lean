/- Proved: EcuSteps, called with any arguments that its row admits, returns true, and every argument reads behind the call as it read before. Conditions: none beyond the row's own. Printed by law.py. This file joins: Plain Lean: schedulers that are valid; the program's and the reference's Valid. Plain Lean: what scheduler's arm and goOn compute, and their references. Plain Lean: scheduler's goOn, and its reference. Plain Lean: stable insertion, the order of a fire's window in the scheduler and in its reference. Plain Lean: a fire's window in the scheduler, and in its reference. Plain Lean: scheduler's plan = its reference's window. Plain Lean: what a tooth's time begins, in the scheduler and in its reference. Plain Lean: what a tooth's time begins, in the reference. Plain Lean: scheduler's Tooth = its reference, and what comes of it is valid. Plain Lean: Tooth and the reference's Tooth compute toothV. Plain Lean: SchedulerTeeth. Plain Lean: SchedulerStates. Plain Lean: a scheduler that is cut; SchedulerSafe. Plain Lean: what a scheduler's going on does to each channel. Plain Lean: what Cut makes, with what it switches; the reference's Cut. Plain Lean: what Cut makes. Plain Lean: SchedulerSafe. Plain Lean: schedulers that are valid stay so: resumed, with other wishes. Plain Lean: schedulers that go on. Plain Lean: what a scheduler has switched since a time: in order, each a change of its channel's level, and few. Plain Lean: the question, what a step takes from the scheduler, the power stages; and the references' parts. Plain Lean: the scheduler goes on, is cut, follows a tooth; and the references' parts. Plain Lean: the crank turns, in a step of the unit, and the reference's. Plain Lean: the engine is driven, and what a step records; the references'. Plain Lean: a step of the unit is the reference's, and the unit stays right. Plain Lean: what a step looks at first: the unit, the breaks, the order. Plain Lean: the reference finds valid faults valid. Plain Lean: a step, with what it looks at first. Plain Lean: a record is the same as itself. Plain Lean: a unit is the same as itself. Plain Lean: a new unit: the program's and the reference's. Plain Lean: what both laws look at first; a unit is the same as itself. Plain Lean: EcuSteps. Plain Lean: EcuSteps answers true whatever its arguments: the program's unit and steps are the reference's. -/
import Derived.Test.YtlbfdimlomockaaGreatEcuStepsF
import Derived.KernelRfl
import Derived.Test.YtlbfdimlomockaaGreatRows
set_option linter.all false
set_option maxRecDepth 100000
noncomputable section
open Bool renaming and_eq_true->BY,and_false->cY3,and_self->cM0,and_true->dd8,eq_iff_iff->zc,false_eq_true->cX5,false_or->db8,not_eq_false'->cZ4,not_eq_true'->nW,not_false->cV8,not_true->AT,or_eq_false_iff->Ky,or_eq_true->bh7,or_self->aj3,true_and->cV0
open Int renaming ediv_lt_iff_lt_mul->da2,le_ediv_iff_mul_le->cL7,le_refl->QA,tdiv->bQ2,tmod->uk,tmod_eq_emod_of_nonneg->aW6
open List renaming all_eq_true->cV2,append_assoc->cW5,append_nil->iy,drop_drop->bT3,drop_eq_getElem_cons->bw1,drop_eq_nil_iff->de7,filter_append->bO6,filter_cons->dc3,filter_cons_of_neg->cM5,filter_cons_of_pos->dd7,filter_eq_nil_iff->cu9,filter_map->cP5,filter_nil->dd6,findIdx?_cons->cT4,flatMap_cons->de2,foldl_cons->da1,getElem?_append_right->dc0,getElem?_eq_getElem->IN,getElem?_eq_some_iff->No,getElem?_map->bg5,getElem?_set_ne->de8,getElem_map->cX7,getElem_mem->al8,getElem_replicate->de3,getElem_set_self->cY0,head?_drop->cX6,length->cO3,length_append->IT,length_cons->cU9,length_filter_le->cD8,length_map->cW2,length_nil->cX0,length_set->cz1,length_take->cV5,map_append->dc9,map_cons->ew,map_nil->db6,mem_append->bX2,mem_cons->cV6,mem_cons_of_mem->cV3,mem_cons_self->cV7,mem_filter->de0,mem_iff_getElem->Kz,mem_map->cX3,mem_of_getElem?->bX3,mem_or_eq_of_mem_set->cR4,nil_append->wS,pairwise_append->cu5,pairwise_cons->ba8,pairwise_iff_forall_sublist->cS3,pairwise_iff_getElem->dd5,range'->cX1,replicate->cI5,set_set->dd2,take_add_one->cQ4,take_length->cZ0,take_succ_eq_append_getElem->cd8
open Nat renaming add_assoc->cD6,add_zero->cq7,div_le_self->de6,le_refl->cW6,le_trans->cw2
open Option renaming bind->tI,bind_some->oq,map_some->cW3
open Option.some renaming inj->oa,injEq->AI
namespace Go.Pv.Sc
open Go Go.Pv Go.Pv.Ev
def AD (c:A1):Bool:=bif !c.F8 then(c.At==0)&&(c.q7==0&&(c.q8==0&&(c.I9==0&&c.K6==0)))else(decide (c.At>=0)&&decide (c.At<=1099511627776))&&(decide (c.q7>=0)&&decide (c.q7<46080))&&(decide (c.q8>=1)&&decide (c.q8<=1073741824))&&(decide (c.I9>=192)&&decide (c.I9<=1920))&&(c.K6==c.I9||c.K6==2*c.I9||c.K6==3*c.I9)
theorem aZ9 (c:A1):Ck c=some (AD c):=by unfold Ck AD Rz Q;cases a:c.F8;simp;simp only[AT,cT8,oq];by_cases b:192<=c.I9/\c.I9<=1920;rw[b6 (n:=2*c.I9) F F,b6 (n:=3*c.I9) F F,Ll,AI,zc];grind;grind
theorem bp3 (c:A1):Z8 c=some (AD c):=by unfold Z8 AD zw Q;cases a:c.F8;simp;simp only[AT,cT8,oq];by_cases b:192<=c.I9/\c.I9<=1920;rw[b6 (n:=2*c.I9) F F,b6 (n:=3*c.I9) F F,Ll,oq,AI,zc];grind;grind
structure Aj (c:A1):Prop where
 at0:0<=c.At
 at1:c.At<=1099511627776
 an0:0<=c.q7
 an1:c.q7<46080
 p0:1<=c.q8
 p1:c.q8<=1073741824
 s0:192<=c.I9
 s1:c.I9<=1920
 ah:c.K6=c.I9\/c.K6=2*c.I9\/c.K6=3*c.I9
def al5 {c:A1}(h:AD c=true)(k:c.F8=true):Aj c:=by unfold AD at h;rw[k]at h;simp only[AT,cT8,BY,bh7,dg1,beq_iff_eq]at h;obtain⟨⟨⟨⟨⟨a,b⟩,l,d⟩,e,f⟩,g,i⟩,j⟩:=h;exact⟨a,b,l,d,e,f,g,i,by omega⟩
def Rj (e:j5)(l:List o9)(i:Nat):Bool:=match l[i]?with|some x=>decide (jQ e x)&&!(l.take i).any λg=>g.h8==x.h8|none=>false
def lC (e:j5)(l:List o9):Bool:=(cX1 0 l.length).all<|Rj e l
theorem ar9 (e:j5)(l:List o9)(c:R5 e)(h:l.length<=1000000):wo e l=some (lC e l):=by
 unfold wo lC Q;have k:=Gi (f:=xE e l) (p:=Rj e l) (r:=false) l.length 0 (λj _ i=>by
  have a:j<l.length:=by omega
  unfold xE Rj Q;rw[j2 _ _ a,IN a];simp only[oq,bl6,cU0 c,cV0];cases m:decide<|jQ e l[j];rfl;simp only[AT,cT8,cV0];have d:U4 l 0 (j:Int)=some (l.take j):=by unfold U4;grind
  rw[d];simp only[oq];have n:G9 (l.take j) (λb=>zW b l[j])=some ((l.take j).any λg=>g.h8==l[j].h8):=by unfold G9 O0 cH;exact W2 (l.take j) gq (λb=>zW b l[j]) (λg=>g.h8==l[j].h8) λy _=>rfl
  grind);rw[U2 _ F];grind
theorem ZV (e:j5)(l:List o9)(c:R5 e)(f:l.length<=1000000):mN e l=some (lC e l):=by unfold mN lC Q;have k:=tM (mb:=hD e l) (λi=>(i:Int)) (p:=Rj e l) (b0:=.inl (l.length:Int)) (b1:=.inr false) l.length (by simp[hD,Q]) (λj b=>by
  unfold hD Rj Q;have e1:decide ((j:Int)<(l.length:Int))=true:=by simp;omega
  rw[e1,j2 _ _ b,IN b];simp only[cT9,oq,aR9 e _ c];cases h:decide<|jQ e l[j];rfl;simp only[AT,cT8,cV0];have d:(l.take j).length=j:=by grind
  have k2:=lL (mb:=hF l (j:Int) l[j]) (λi=>(i:Int)) (p:=λg=>!g.h8==l[j].h8) (b0:=.inl (j:Int)) (b1:=.inr false) (l.take j) (by grind [hF,Q]) (λi y m=>by
   have hi:i<j:=by grind
   have a:l[i]?=some y:=by grind
   unfold hF Q;simp only[show decide ((i:Int)<(j:Int))=true by simp;omega,cT9,B3,a,oq,b6 (n:=(i:Int)+1) F F];grind);rw[show((0:Nat):Int)=0 from rfl]at k2;rw[k2,b6 (n:=(j:Int)+1) F F];grind);grind
def yE (x:j8):Int:=2*(x.h8-1)+if x.Kind=3\/x.Kind=4 then 1 else 0
def EJ (k:Int):Bool:=k==1||k==3
structure cI (n:Nat)(j:k6):Prop where
 cyl:1<=j.Event.h8/\j.Event.h8<=(n:Int)kind:1<=j.Event.Kind/\j.Event.Kind<=4
 bI2:0<=j.Event.q7/\j.Event.q7<46080
 Ga:0<=j.Event.O1/\j.Event.O1<=2
 left:-1048576<=j.Left/\j.Left<=1048576
 at0:j.u7=true\/j.At=0
instance (n:Nat)(j:k6):Decidable<|cI n j:=decidable_of_iff ((1<=j.Event.h8/\j.Event.h8<=(n:Int))/\(1<=j.Event.Kind/\j.Event.Kind<=4)/\(0<=j.Event.q7/\j.Event.q7<46080)/\(0<=j.Event.O1/\j.Event.O1<=2)/\(-1048576<=j.Left/\j.Left<=1048576)/\(j.u7=true\/j.At=0)) ⟨λ⟨a,b,c,d,e,f⟩=>⟨a,b,c,d,e,f⟩,λ⟨a,b,c,d,e,f⟩=>⟨a,b,c,d,e,f⟩⟩
theorem an7 {n:Nat}{j:k6}:cI n j↔(1<=j.Event.h8/\j.Event.h8<=(n:Int))/\(1<=j.Event.Kind/\j.Event.Kind<=4)/\(0<=j.Event.q7/\j.Event.q7<46080)/\(0<=j.Event.O1/\j.Event.O1<=2)/\(-1048576<=j.Left/\j.Left<=1048576)/\(j.u7=true\/j.At=0):=⟨λ⟨a,b,c,d,e,f⟩=>⟨a,b,c,d,e,f⟩,λ⟨a,b,c,d,e,f⟩=>⟨a,b,c,d,e,f⟩⟩
theorem cx7 (s:a7)(j:k6):BZ s j=some (decide<|cI s.h9.ai9.length j):=by unfold BZ;rw[Ll,oq,AI,zc,dg1,an7];grind
theorem ck0 (s:a7)(b:s.o1.length<=1000000):Y6 s.o1 (λa=>lx a s)=some !s.o1.all λj=>decide<|cI s.h9.ai9.length j:=by unfold Y6 y9 P0;have:=W2 s.o1 F (λa=>lx a s) (λj=>!decide (cI s.h9.ai9.length j)) (λy _=>by simp[lx,Q,cx7]);grind
theorem bU1 (x:j8):la [x]=some (decide<|Ev.Kq x):=by rw[ck4];unfold cv4;simp
theorem bW6 (s:a7)(b:R5 s.h9)(c:s.o1.length<=1000000):o3 (X4 s) 0=some (bif s.o1.all λj=>decide (cI s.h9.ai9.length j)then .inl (s.o1.length:Int)else .inr false):=by
 have d:=b.2.1;have k:=lL (mb:=X4 s) (λi=>(i:Int)) (p:=λj=>decide<|cI s.h9.ai9.length j) (b0:=.inl (s.o1.length:Int)) (b1:=.inr false) s.o1 (by simp[X4]) (λk y a=>by
  have hk:=(No.1 a).1;unfold X4;have e1:decide ((k:Int)<(s.o1.length:Int))=true:=by simp;omega
  rw[e1,B3,a];simp only[cT9,oq,bU1,Ll,b6 (n:=(k:Int)+1) F F];have e2:(bif !decide (Ev.Kq y.Event)||decide (y.Event.h8>(s.h9.ai9.length:Int))||decide (y.Left< -1048576)||decide (y.Left>1048576)then true else(!y.u7)&&y.At !=0)=!decide (cI s.h9.ai9.length y):=by rw[zc];simp only[Bool.cond_true_left,bh7,BY,nW,dg1,cU3,bne_iff_ne,an7];unfold Ev.Kq;grind
  grind);omega
theorem Ke {n:Nat}{j:k6}(h:cI n j)(a:n<=8):gu j.Event=some (yE j.Event)/\aI j.Event=some (yE j.Event):=by have h1:=h.cyl;have b:=h.kind;unfold gu aI yE Q;rw[b6 (n:=j.Event.h8-1) F F,b6 (n:=2*(j.Event.h8-1)) F F,b6 (n:=2*(j.Event.h8-1)+1) F F];grind
def bu8 {n:Nat}{j:k6}(h:cI n j):0<=yE j.Event/\yE j.Event<2*(n:Int):=by have h1:=h.cyl;grind [yE]
def K9 (l:List k6)(c:Int):List k6:=l.filter λj=>yE j.Event==c
def alt:List k6->Bool->Bool|[],a=>!a|j::r,a=>!EJ j.Event.Kind==a&&!j.u7&&alt r !a
def cX (l:List k6)(x:ai1):Bool:=match l with|[]=>!x.s8&&!x.u7|j::r=>!EJ j.Event.Kind==x.s8&&j.u7==x.u7&&(!j.u7||j.At==x.At&&x.Next==!x.s8)&&alt r !x.s8
def Dj (now:Int)(l:List k6):Bool:=match l with|[]=>true|[j]=>j.Event.Kind==2&&j.u7&&decide (j.At<=now+5000)|_=>false
def CQ (s:a7)(c:Int)(x:ai1):Bool:=cX (K9 s.o1 c) x&&(!s.Cut||Dj s.b9.D2 (K9 s.o1 c))
def ai2 (cut:Bool)(now:Int)(x:ai1):List k6->Bool->Bool->Bool|[],a,fi=>!a&&!(fi&&x.u7)|j::r,a,fi=>bif EJ j.Event.Kind==a then false else bif bif fi then !j.u7==x.u7||j.u7&&(j.At !=x.At||!x.Next==!a)else(j.u7||cut)then false else bif cut&&(j.Event.Kind !=2||!j.u7||decide (j.At>now+5000))then false else ai2 cut now x r (!a) false
def YP (s:a7)(c:Int)(x:ai1)(n:Nat)(b:n<=8)(h0:0<=s.b9.D2)(h1:s.b9.D2<=1099511627776):∀(l:List k6)(i:Int)(a fi:Bool),(∀j∈l,cI n j)->(tI (F0 (bN s c x) l i (a,fi)) λ(t:Bool×Bool⊕Bool)=>match t with|.inl d=>tI (bif !d.1then some !(d.2&&x.u7)else some false) λk=>some k|.inr r3=>some r3)=some (ai2 s.Cut s.b9.D2 x (K9 l c) a fi)
 |[],i,a,fi,_=>by grind [F0,K9,ai2]|j::l,i,a,fi,h=>by
  have e:=h j<|cV7 ..;have p:=λi a fi=>YP s c x n b h0 h1 l i a fi λy m=>h y<|cV3 _ m;by_cases f:yE j.Event=c;have e1:(yE j.Event !=c)=false:=by grind
  have e2:K9 (j::l) c=j::K9 l c:=by grind [K9]
  have g:bN s c x i j (a,fi)=some (bif EJ j.Event.Kind==a then .ret false else bif bif fi then !j.u7==x.u7||j.u7&&(j.At !=x.At||!x.Next==!a)else(j.u7||s.Cut)then .ret false else bif s.Cut&&(j.Event.Kind !=2||!j.u7||decide (j.At>s.b9.D2+5000))then .ret false else .next (!a,false)):=by unfold bN;rw[(Ke e b).1];simp only[oq,e1,cT8,zX,Q];have o:(j.Event.Kind==1||j.Event.Kind==3)=EJ j.Event.Kind:=rfl;rw[o,b6 (n:=s.b9.D2+5000) F F];grind
  rw[e2];simp only[F0,g,ai2,oq];grind;have e1:(yE j.Event !=c)=true:=by simpa using f
  have e2:K9 (j::l) c=K9 l c:=by unfold K9;rw[cM5<|by simpa using f]
  have g:bN s c x i j (a,fi)=some (.next (a,fi)):=by unfold bN;rw[(Ke e b).1];simp only[oq,e1,cT9]
  grind [F0]
theorem ao1 (cut:Bool)(now:Int)(x:ai1):∀(l:List k6)(a:Bool),ai2 cut now x l a false=(alt l a&&(!cut||l.isEmpty))|[],a=>by simp[ai2,alt]|j::r,a=>by simp only[ai2,alt,ao1 cut now x r !a];cases EJ j.Event.Kind==a<;>cases j.u7<;>cases cut<;>simp
theorem ck2 (cut:Bool)(now:Int)(x:ai1)(l:List k6):ai2 cut now x l x.s8 true=(cX l x&&(!cut||Dj now l)):=by cases l with|nil=>simp[ai2,cX,Dj]|cons j r=>simp only[ai2,cX,ao1];cases a:EJ j.Event.Kind==x.s8<;>cases b:j.u7==x.u7<;>cases c:j.u7<;>cases d:j.At !=x.At<;>cases hx:x.Next==!x.s8<;>cases cut<;>cases r with
  |nil=>simp_all[Dj,alt];try
    cases x.s8;·simp
    ·rw[zc];simp|cons k r=>simp_all[Dj]
theorem ck3 (s:a7)(c:Nat)(a:c<s.b9.a8.length)(n:Nat)(b:n<=8)(h0:0<=s.b9.D2)(h1:s.b9.D2<=1099511627776)(e:s.o1.length<=1000000)(d:∀j∈s.o1,cI n j):sH s (c:Int)=some (CQ s (c:Int) s.b9.a8[c]):=by unfold sH;rw[j2 _ _ a];simp only[oq];rw[B5 _ F];have h:=YP s (c:Int) s.b9.a8[c] n b h0 h1 s.o1 0 s.b9.a8[c].s8 true d;rw[ck2]at h;exact h
theorem of_eq (l:List k6)(c:Int)(n:Nat)(f:n<=8)(p:l.length<=1000000)(g:∀j∈l,cI n j):pz l c=some (K9 l c):=by
 unfold pz Q;have key:∀(r:List k6)(i:Nat)(out:List k6),l.drop i=r->i<=l.length->out.length<=i->o3 (iF l c) (out,(i:Int))=some (.inl (out++K9 r c,(l.length:Int))):=by intro r;induction r with|nil=>grind [j3,K9,iF,Q]|cons y r h=>
   intro i out k hi q;have d:l[i]?=some y:=by rw[<-cX6,k];rfl
   have o:=(No.1 d).1;have a:l.drop (i+1)=r:=by rw[<-bT3,k];rfl
   have b:=List.mem_iff_getElem?.2 ⟨i,d⟩;have e1:decide ((i:Int)<(l.length:Int))=true:=by simp;omega
   have m:H ((i:Int)+1)=((i+1:Nat):Int):=by rw[b6 F F];omega
   by_cases e:yE y.Event=c;rw[j7 (s':=(out++[y],((i+1:Nat):Int)))];rw[h (i+1) (out++[y]) a F<|by simp;omega];unfold K9;rw[dd7<|by simpa using e];simp;unfold iF Q;simp only[e1,cT9,B3,d,oq,(Ke (g y b) f).2];have e2:(yE y.Event==c)=true:=by simpa using e
   rw[e2,l5 _ _<|by simp;omega,m];rfl;rw[j7 (s':=(out,((i+1:Nat):Int)))];rw[h (i+1) out a F F];unfold K9;rw[cM5<|by simpa using e];unfold iF Q;simp only[e1,cT9,B3,d,oq,(Ke (g y b) f).2];have e2:(yE y.Event==c)=false:=by simpa using e
   rw[e2,m];rfl
 have:=key l 0 [] rfl F sq;grind
def VJ (l:List k6)(g:l.length<=1000000):∀(r:List k6)(i:Nat)(lv:Bool),l.drop i=r->0<i->i<=l.length->∃t:Bool×Int⊕Bool,o3 (Q0 l) (lv,(i:Int))=some t/\match t with|.inl q=>alt r lv=!q.1|.inr b=>b=false/\alt r lv=false
 |[],i,lv,a,h0,hi=>by
  have:i=l.length:=by grind [de7]
  subst this;refine⟨.inl (lv,(l.length:Int)),j3 ?_,rfl⟩;simp[Q0,Q]|y::r,i,lv,a,h0,hi=>by
  have f:l[i]?=some y:=by rw[<-cX6,a];rfl
  have h:=(No.1 f).1;have c:l.drop (i+1)=r:=by rw[<-bT3,a];rfl
  have e1:decide ((i:Int)<(l.length:Int))=true:=by simp;omega
  have j:H ((i:Int)+1)=((i+1:Nat):Int):=by grind [b6]
  have k:decide ((i:Int)>0)=true:=by simp;omega
  have d:Q0 l (lv,(i:Int))=some (bif EJ y.Event.Kind==lv||y.u7 then .inr (.inr false)else .inl (EJ y.Event.Kind,((i+1:Nat):Int))):=by unfold Q0 Q;simp only[e1,cT9,B3,f,oq,fP,k,dd8,j,Q];have n:(y.Event.Kind==1||y.Event.Kind==3)=EJ y.Event.Kind:=rfl;grind
  cases e:EJ y.Event.Kind==lv||y.u7;rw[e]at d;simp only[Ky]at e;obtain⟨t,h1,o⟩:=VJ l g r (i+1) (EJ y.Event.Kind) c F F;refine⟨t,by grind [j7],?_⟩;have m:EJ y.Event.Kind=!lv:=by grind
  simp_all[alt];rw[e]at d;refine⟨.inr false,j3 d,rfl,?_⟩;simp only[alt];grind
theorem bC1 (l:List k6)(x:ai1)(k:l.length<=1000000):oF l x=some (cX l x):=by unfold oF Q;cases l with|nil=>rfl|cons j r=>
  have m:(((j::r).length:Int)==0)=false:=by rfl
  rw[m];simp only[cT8];have e1:decide ((0:Int)<((j::r).length:Int))=true:=by simp
  have h:Q0 (j::r) (x.s8,0)=some (bif EJ j.Event.Kind==x.s8 then .inr (.inr false)else .inl (EJ j.Event.Kind,1)):=by unfold Q0 Q;simp only[e1,cT9,fP,Q];rw[show y3 (j::r) 0=some j from rfl];simp only[oq];have f:(j.Event.Kind==1||j.Event.Kind==3)=EJ j.Event.Kind:=rfl;rw[f,show decide ((0:Int)>0)=false from rfl];cases EJ j.Event.Kind==x.s8<;>simp<;>rfl
  cases i:EJ j.Event.Kind==x.s8
  ·rw[i]at h;obtain⟨t,h1,d⟩:=VJ (j::r) k r 1 (EJ j.Event.Kind) rfl F sq;have a:EJ j.Event.Kind=!x.s8:=by grind
   rw[a]at d;rw[show((1:Nat):Int)=1 from rfl]at h1;rw[j7 h,h1];cases t with|inr b=>obtain⟨rfl,s⟩:=d;simp_all[cX]|inl q=>
    simp only[oq];simp only at d;unfold cX;simp only[i,d,cV8,cV0];rw[show y3 (j::r) 0=some j from rfl];simp only[oq,fP,Q];have f:(j.Event.Kind==1||j.Event.Kind==3)=EJ j.Event.Kind:=rfl;rw[f,a];cases q.1<;>cases n:j.u7<;>cases o:x.u7<;>simp;all_goals try first|done|skip
    cases c:x.At !=j.At
    ·have g:x.At=j.At:=by simpa using c
     rw[g];cases x.Next==!x.s8<;>simp
    ·have g:¬x.At=j.At:=by simpa using c
     have p:¬j.At=x.At:=λe=>g e.symm;simp[p]
  simp_all[j3,cX]
def Ji (s:a7):Bool:=decide (R5 s.h9)&&AD s.k7&&Tm.T0 s.b9&&decide (s.b9.a8.length=2*s.h9.ai9.length)&&lC s.h9 s.Next&&decide (s.o1.length<=200)&&(s.k7.F8||s.o1.isEmpty)&&(s.o1.all λj=>decide<|cI s.h9.ai9.length j)&&(cX1 0 s.b9.a8.length).all λc=>match s.b9.a8[c]?with|some x=>CQ s (c:Int) x|none=>false
structure mS (s:a7):Prop where
 lE:R5 s.h9
 Wp:AD s.k7=true
 tim:Tm.T0 s.b9=true
 chs:s.b9.a8.length=2*s.h9.ai9.length
 Ti:lC s.h9 s.Next=true
 most:s.o1.length<=200
 none:s.k7.F8=false->s.o1=[]Pu:∀j∈s.o1,cI s.h9.ai9.length j
 line:∀c (h:c<s.b9.a8.length),CQ s (c:Int) s.b9.a8[c]=true
theorem vB {s:a7}:Ji s=true↔mS s:=by
 unfold Ji;simp only[BY,dg1,cV2,bh7];constructor;rintro⟨⟨⟨⟨⟨⟨⟨⟨h1,d⟩,f⟩,g⟩,j⟩,k⟩,n⟩,l⟩,m⟩;refine⟨h1,d,f,g,j,k,λb=>?_,l,λc a=>?_⟩;grind;have:=m c gq;grind;intro h;refine⟨⟨⟨⟨⟨⟨⟨⟨h.lE,h.Wp⟩,h.tim⟩,h.chs⟩,h.Ti⟩,h.most⟩,?_⟩,h.Pu⟩,λc a=>?_⟩;cases b:s.k7.F8;right;rw[h.none b];rfl;left;rfl;rw[List.mem_range']at a;obtain⟨i,hi,rfl⟩:=a;have e:0+1*i=i:=by omega
 rw[e,IN hi];exact h.line i hi
theorem UY (l:List k6):decide ((l.length:Int)>0)=!l.isEmpty:=by cases l<;>simp
theorem Fe (s:a7)(g:s.Next.length<=1000000)(e:s.o1.length<=1000000):jJ s=some (Ji s):=by
 unfold jJ;rw[Ev.aN,aZ9,Tm.bh8];unfold Ji;cases i:decide<|R5 s.h9;simp;have a:=of_decide_eq_true i;have l:=a.2.1;cases m:AD s.k7;simp;cases ht:Tm.T0 s.b9;simp;have n:=Tm.Db ht;have e1:((s.b9.a8.length:Int)!=H (2*(s.h9.ai9.length:Int)))=!decide (s.b9.a8.length=2*s.h9.ai9.length):=by rw[b6 F F,zc];simp;omega
 simp only[oq,AT,cT8,db8,e1,cV0];cases t:decide<|s.b9.a8.length=2*s.h9.ai9.length;simp;simp only[AT,cT8,ar9 _ _ a g,oq,cV0];cases u:lC s.h9 s.Next;simp;simp only[AT,cT8,cV0];have e2:decide ((s.o1.length:Int)>200)=!decide (s.o1.length<=200):=by rw[zc];simp;omega
 rw[e2,UY];cases v:decide<|s.o1.length<=200;simp;simp only[AT,cT8,oq,cV0];cases d:s.k7.F8||s.o1.isEmpty;have:(!s.k7.F8&&!s.o1.isEmpty)=true:=by simp only[Ky]at d;simp[d.1,d.2]
 rw[this];simp;have:(!s.k7.F8&&!s.o1.isEmpty)=false:=by rcases Bool.or_eq_true_iff.1 d with h|h<;>simp[h]
 rw[this,ck0 s e];simp only[cT8,oq,cV0];cases o:s.o1.all λj=>decide<|cI s.h9.ai9.length j;simp;simp only[AT,cT8,cV0];have q:∀j∈s.o1,cI s.h9.ai9.length j:=by simpa using o
 have k:=Gi (f:=oP s) (p:=λc=>match s.b9.a8[c]?with|some x=>CQ s (c:Int) x|none=>false) (r:=false) s.b9.a8.length 0 (λc _ m=>by
  have b:c<s.b9.a8.length:=by omega
  unfold oP;rw[ck3 s c b _ l F F e q,IN b];simp only[oq];cases CQ s (c:Int) s.b9.a8[c]<;>rfl);rw[U2 _ F];rw[show((0:Nat):Int)=0 from rfl]at k;rw[k];cases(cX1 0 s.b9.a8.length).all λc=>match s.b9.a8[c]?with|some x=>CQ s (c:Int) x|none=>false<;>rfl
theorem by7 {n:Nat}{l:List k6}{c:Int}{j:k6}(a:∀j∈l,cI n j)(b:j∈K9 l c):cI n j/\yE j.Event=c:=by grind [K9]
def aJ6 {n:Nat}{j:k6}(h:cI n j):(yE j.Event).tmod 2=if j.Event.Kind=3\/j.Event.Kind=4 then 1 else 0:=by have h1:=h.cyl;grind [yE]
theorem ch7 (now:Int)(n:Nat)(l:List k6)(c:Int)(x:ai1)(b:∀j∈l,cI n j/\yE j.Event=c)(d:cX l x=true)(h0:0<=now)(h1:now<=1099511627776):(bif decide<|(l.length:Int)>0then bif decide<|(l.length:Int)>1then some true else bif uk c 2==1then some true else tI (y3 l 0) λf=>bif !f.u7 then some true else some<|decide<|f.At>H (now+5000)else some false)=some !Dj now l:=by rw[b6 F F];match l,b,d with
 |[],_,_=>rfl|[j],b,d=>
  obtain⟨hk,k⟩:=b j<|cV7 ..;have hp:=hk.kind;have a:=aJ6 hk;rw[k]at a;have g:EJ j.Event.Kind=false:=by simp only[cX,alt,BY,Bool.not_not]at d;grind
  have e:j.Event.Kind=2\/j.Event.Kind=4:=by grind [EJ]
  rw[show y3 [j] 0=some j from rfl,a];unfold Dj;simp only[List.length_singleton,oq];rcases e with h|h;rw[if_neg F,h];simp only[show decide (((1:Nat):Int)>0)=true from rfl,show decide (((1:Nat):Int)>1)=false from rfl,cT9,cT8,show((0:Int)==1)=false from rfl,beq_self_eq_true,cV0];cases j.u7;rfl;simp only[AT,cT8,cV0,AI];grind;simp_all|i::j::r,_,_=>grind [Dj]
theorem Fc (s:a7)(m:s.Next.length<=1000000)(d:s.o1.length<=1000000):dt s=some (Ji s):=by
 unfold dt;rw[Ev.Fc,bp3,Tm.cA6];unfold Ji;cases o:decide<|R5 s.h9;simp;have a:=of_decide_eq_true o;have q:=a.2.1;cases e:AD s.k7;simp;cases ht:Tm.T0 s.b9;simp;have r:=Tm.Db ht;have f:H (2*(s.h9.ai9.length:Int))=2*(s.h9.ai9.length:Int):=b6 F F;have e1:((s.b9.a8.length:Int)!=H (2*(s.h9.ai9.length:Int)))=!decide (s.b9.a8.length=2*s.h9.ai9.length):=by rw[f,zc];simp;omega
 simp only[oq,AT,cT8,db8,e1,cV0];cases t:decide<|s.b9.a8.length=2*s.h9.ai9.length;simp;have u:=of_decide_eq_true t;simp only[AT,cT8,ZV _ _ a m,oq,cV0];have e2:decide ((s.o1.length:Int)>200)=!decide (s.o1.length<=200):=by rw[zc];simp;omega
 rw[e2,UY];cases A:lC s.h9 s.Next;simp;cases B:decide<|s.o1.length<=200;simp;simp only[AT,aj3,cT8,cV0];cases b:s.k7.F8||s.o1.isEmpty;have:(!s.k7.F8&&!s.o1.isEmpty)=true:=by simp only[Ky]at b;simp[b.1,b.2]
 rw[this];simp;have:(!s.k7.F8&&!s.o1.isEmpty)=false:=by rcases Bool.or_eq_true_iff.1 b with h|h<;>simp[h]
 rw[this,bW6 s a d];simp only[cT8,cV0];cases v:s.o1.all λj=>decide<|cI s.h9.ai9.length j;simp;simp only[cT9,oq,cV0];have l:∀j∈s.o1,cI s.h9.ai9.length j:=by simpa using v
 have k:=tM (mb:=cW s) (λi=>(i:Int)) (p:=λc=>match s.b9.a8[c]?with|some x=>CQ s (c:Int) x|none=>false) (b0:=.inl (s.b9.a8.length:Int)) (b1:=.inr false) s.b9.a8.length (by
  unfold cW;rw[f];have:decide ((s.b9.a8.length:Int)<2*(s.h9.ai9.length:Int))=false:=by simp;omega
  rw[this];rfl) (λc e=>by
  unfold cW;rw[f];have w:decide ((c:Int)<2*(s.h9.ai9.length:Int))=true:=by simp;omega
  have g:(K9 s.o1 (c:Int)).length<=1000000:=cw2 (cD8 ..) d;rw[w,of_eq _ _ _ q d l,j2 _ _ e,IN e];simp only[cT9,oq];rw[bC1 _ _ g,b6 (n:=(c:Int)+1) F F];simp only[oq];unfold CQ;cases y:cX (K9 s.o1 (c:Int)) s.b9.a8[c];rfl;simp only[AT,cT8,cV0];rw[ch7 s.b9.D2 s.h9.ai9.length (K9 s.o1 (c:Int)) (c:Int) s.b9.a8[c] (λj z=>by7 l z) y F F];cases s.Cut;rfl;simp only[cT9,oq,AT,db8];cases Dj s.b9.D2<|K9 s.o1 (c:Int)<;>rfl);rw[show((0:Nat):Int)=0 from rfl]at k;rw[k];cases(cX1 0 s.b9.a8.length).all λc=>match s.b9.a8[c]?with|some x=>CQ s (c:Int) x|none=>false<;>rfl
theorem bp1 (t:w8)(to:Int)(h:Tm.T0 t=true):sm t to=some (⟨to,t.a8.map<|Tm.Cj to⟩,Tm.Az to t.a8):=by have c:=Tm.Db h;unfold sm Q;rw[Tm.copy_eq _ F];simp only[oq];rw[Tm.SL _ F];simp only[oq];have d:t.a8.countP (Tm.due to)<=16:=cw2 List.countP_le_length c.2.1;obtain⟨a,b,h⟩:=Tm.bU4 to t 16 t.a8 [] d c.2.1 sq;rw[h];rfl
def upV (a b:Int):Int:=-(-a/b)
theorem cL2 (a b:Int)(h0:-4611686018427387904<=a)(h1:a<=4611686018427387904)(l:0<b)(f:b<=4611686018427387904):EM a b=some (upV a b):=by
 unfold EM KT SF upV Q;rw[if_neg F,if_neg F];simp only[oq];obtain⟨k,rfl⟩:∃k:Nat,b=k:=⟨b.toNat,by omega⟩;have hk:k>0:=by omega
 by_cases n:0<=a;obtain⟨m,rfl⟩:∃m:Nat,a=m:=⟨a.toNat,by omega⟩;have e1:bQ2 (m:Int) (k:Int)=((m/k:Nat):Int):=rfl;have e2:uk (m:Int) (k:Int)=((m%k:Nat):Int):=rfl;rw[e1,e2];have d:m/k<=m:=de6 _ _;have g:=Nat.mod_lt m hk;have e:=Nat.div_add_mod m k;generalize m/k=q at d e;generalize m%k=r at g e;have h:IntKind.i64.wrap (q:Int)=(q:Int):=b6 F F;rw[h];by_cases c:r=0;subst c;have:-(m:Int)=(k:Int)*-(q:Int):=by grind
 grind [Int.mul_ediv_cancel_left];have i:decide ((r:Int)>0)=true:=by simp;omega
 rw[i,b6 F F];simp only[cT9,AI];have:-(m:Int)=((k-r:Nat):Int)+(k:Int)*(-(q:Int)-1):=by grind
 rw[this,Int.add_mul_ediv_left _ _ F,Int.ediv_eq_zero_of_lt F F];omega;obtain⟨m,rfl⟩:∃m:Nat,a=-(m:Int):=⟨a.natAbs,by omega⟩;have e1:bQ2 (-(m:Int)) (k:Int)=-((m/k:Nat):Int):=by simp
 have e2:uk (-(m:Int)) (k:Int)=-((m%k:Nat):Int):=by rw[Int.neg_tmod];rfl
 rw[e1,e2,Int.neg_neg];have j:(m:Int)/(k:Int)=((m/k:Nat):Int):=rfl;rw[j];have d:m/k<=m:=de6 _ _;grind [b6]
theorem bX4 (a b:Int)(h0:-4611686018427387904<=a)(h1:a<=4611686018427387904)(c:0<b)(d:b<=4611686018427387904):pA a b=some (upV a b):=by
 unfold pA upV Q;rw[b6 (n:=0-a) F F,show 0-a=-a by omega,R1.pK _ _ F F c d];simp only[oq,AI];have e:-4611686018427387904<=-a/b:=by rw[cL7 c];omega
 have f:-a/b<=4611686018427387904:=by apply Int.le_of_lt_add_one;rw[da2 c];omega
 grind [b6]
def bE1 {a b:Int}(c:0<b)(h0:-1125899906842624<=a)(h1:a<=1125899906842624):-1125899906842624<=upV a b/\upV a b<=1125899906842624:=by
 unfold upV;have d:-1125899906842624<=-a/b:=by rw[cL7 c];omega
 have e:-a/b<=1125899906842624:=by apply Int.le_of_lt_add_one;rw[da2 c];omega
 omega
def split (c:Int):List k6->Option (List k6×k6×List k6)|[]=>none|j::r=>if yE j.Event=c then some ([],j,r)else(split c r).map λt=>(j::t.1,t.2.1,t.2.2)
def sN {c:Int}:∀{l:List k6}{a:List k6}{j:k6}{b:List k6},split c l=some (a,j,b)->l=a++j::b/\yE j.Event=c/\∀y∈a,yE y.Event≠c|[],a,j,b,h=>by simp[split]at h|x::r,a,j,b,h=>by simp only[split]at h;by_cases e:yE x.Event=c;grind;rw[if_neg e]at h;cases d:split c r with|none=>grind|some t=>obtain⟨f,g,i⟩:=t;rw[d]at h;simp only[cW3,AI,Prod.mk.injEq]at h;obtain⟨rfl,rfl,rfl⟩:=h;obtain⟨h1,k,m⟩:=sN d;grind
def aa4 {c:Int}:∀{l:List k6},split c l=none->∀y∈l,yE y.Event≠c|[],_,y,a=>by simp at a|x::r,h,y,a=>by simp only[split]at h;by_cases b:yE x.Event=c;grind;rw[if_neg b]at h;cases d:split c r with|none=>rcases cV6.1 a with rfl|a;exact b;exact aa4 d y a|some t=>grind
theorem sA (a b:List k6)(c:Int):K9 (a++b) c=K9 a c++K9 b c:=by unfold K9;simp
theorem FU {l:List k6}{c:Int}(h:∀y∈l,yE y.Event≠c):K9 l c=[]:=by grind [K9,cu9]
theorem aU8 {j:k6}{l:List k6}{c:Int}(h:yE j.Event=c):K9 (j::l) c=j::K9 l c:=by grind [K9]
theorem Py {j:k6}{l:List k6}{c:Int}(h:yE j.Event≠c):K9 (j::l) c=K9 l c:=by grind [K9]
theorem YY {c:Int}{l a b:List k6}{j:k6}(h:split c l=some (a,j,b)):K9 l c=j::K9 b c:=by obtain⟨rfl,d,e⟩:=sN h;rw[sA,FU e,wS,aU8 d]
theorem by8 {c:Int}{l:List k6}(h:split c l=none):K9 l c=[]:=FU<|aa4 h
def HI (c:Int)(l:List k6):Int:=match split c l with|some t=>(t.1.length:Int)|none=>-1
def Vq (c:Int)(n:Nat)(a:n<=8):∀(l:List k6)(i:Nat),(∀j∈l,cI n j)->F0 (λ(i:Int)x (_:Unit)=>tI (cg x c) λv=>bif v then some (Fl.ret i)else some<|Fl.next ()) l (i:Int) ()=some (match split c l with|some t=>.inr ((i+t.1.length:Nat):Int)|none=>.inl ())
 |[],i,_=>rfl|j::l,i,h=>by
  have b:=h j<|cV7 ..;simp only[F0,cg,(Ke b a).1,oq,split,Q];by_cases d:yE j.Event=c;grind;have e:(yE j.Event==c)=false:=by grind
  rw[e,if_neg d];simp only[cT8,oq];have:=Vq c n a l (i+1) λy f=>h y<|cV3 _ f;grind [cg,Q]
theorem MW (c:Int)(n:Nat)(a:n<=8)(l:List k6)(d:l.length<=1000000)(h:∀j∈l,cI n j):y9 l (λb=>cg b c)=some (HI c l):=by unfold y9 P0;rw[yi l F λ(i:Int)x (_:Unit)=>tI (cg x c) λv=>bif v then some (Fl.ret i)else some<|Fl.next ()];have:=Vq c n a l 0 h;rw[show((0:Nat):Int)=0 from rfl]at this;grind [HI]
theorem Yt (s:a7)(c:Int)(n:Nat)(f:n<=8)(l:s.o1.length<=1000000)(h:∀j∈s.o1,cI n j):∀(r:List k6)(i:Nat),s.o1.drop i=r->i<=s.o1.length->o3 (cV s c) (i:Int)=some (match split c r with|some t=>.inr ((i+t.1.length:Nat):Int)|none=>.inl (s.o1.length:Int))
 |[],i,a,hi=>by grind [de7,j3,cV,Q,split]|y::r,i,a,hi=>by
  have b:s.o1[i]?=some y:=by rw[<-cX6,a];rfl
  have m:=(No.1 b).1;have d:s.o1.drop (i+1)=r:=by rw[<-bT3,a];rfl
  have e:=List.mem_iff_getElem?.2 ⟨i,b⟩;have e1:decide ((i:Int)<(s.o1.length:Int))=true:=by simp;omega
  have o:H ((i:Int)+1)=((i+1:Nat):Int):=by grind [b6]
  have g:cV s c (i:Int)=some (if yE y.Event=c then .inr<|.inr (i:Int)else .inl ((i+1:Nat):Int)):=by unfold cV Q;simp only[e1,cT9,B3,b,oq,(Ke (h y e) f).2,o];grind
  simp only[split];by_cases k:yE y.Event=c;simp_all[j3];rw[if_neg k]at g;rw[j7 g,Yt s c n f l h r (i+1) d F,if_neg k];grind
theorem aL6 (s:a7)(c:Int)(n:Nat)(a:n<=8)(b:s.o1.length<=1000000)(h:∀j∈s.o1,cI n j):iE s c=some (HI c s.o1):=by unfold iE Q;have:=Yt s c n a b h s.o1 0 rfl F;rw[show((0:Nat):Int)=0 from rfl]at this;grind [HI]
def Li (now:Int)(k:A1)(j:k6):Int:=q9 (k.At+upV (j.Left*k.q8) k.I9)<|now+1
def PN (now:Int)(k:A1)(c:Nat)(u:List ai1×List k6):List ai1×List k6:=match split (c:Int) u.2 with|none=>u|some (a,j,b)=>if j.Left>k.K6\/Li now k j>1099511627776 then u else match u.1[c]?with|none=>u|some x=>(u.1.set c ⟨true,Li now k j,EJ j.Event.Kind,x.s8⟩,a++⟨j.Event,j.Left,true,Li now k j⟩::b)
def Fh (now:Int)(k:A1):Nat->List ai1×List k6->List ai1×List k6|0,u=>u|c+1,u=>PN now k c<|Fh now k c u
structure Rows (n:Nat)(now:Int)(u:List ai1×List k6):Prop where
 len:u.1.length=2*n
 ch:∀x∈u.1,Tm.chB now x=true
 Pu:∀j∈u.2,cI n j
 row:∀c (h:c<u.1.length),cX (K9 u.2 (c:Int)) u.1[c]=true
theorem bk8 {now a:Int}{b l:Bool}(h0:now<a)(h1:a<=1099511627776):Tm.chB now ⟨true,a,b,l⟩=true:=by simp_all[Tm.chB]
theorem aF3 (now:Int)(k:A1)(j:k6):now<Li now k j:=by grind [Li,q9]
theorem cn8 {j:k6}{r:List k6}{x:ai1}(a:Int)(h:cX (j::r) x=true):cX (⟨j.Event,j.Left,true,a⟩::r) ⟨true,a,EJ j.Event.Kind,x.s8⟩=true:=by unfold cX at h|-;grind
def bJ1 {n:Nat}{now:Int}{k:A1}{c:Nat}{u:List ai1×List k6}(h:Rows n now u):Rows n now<|PN now k c u:=by unfold PN;cases p:split (c:Int) u.2 with|none=>exact h|some t=>
  obtain⟨a,j,b⟩:=t;simp only;split;exact h;rename_i s;have q:Li now k j<=1099511627776:=by omega
  cases hx:u.1[c]?with|none=>exact h|some x=>
   obtain⟨v,rfl⟩:=No.1 hx;obtain⟨w,l,r⟩:=sN p;have i:j∈u.2:=by grind
   have e:=h.Pu j i;refine⟨by simp[h.len],λy f=>?_,λy f=>?_,λd m=>?_⟩;rcases cR4 f with f|rfl;exact h.ch y f;grind [bk8,aF3];simp only[bX2,cV6]at f;rcases f with f|rfl|f;exact h.Pu y gq;exact⟨e.cyl,e.kind,e.bI2,e.Ga,e.left,.inl rfl⟩;exact h.Pu y gq;simp only[cz1]at m;have o:=h.row d m;simp only[List.getElem_set];by_cases g:c=d;subst g;rw[if_pos rfl,sA,FU r,wS,aU8<|by exact l];grind [YY,cn8];rw[if_neg g,sA,Py<|by show yE j.Event≠(d:Int);rw[l];omega];grind [sA,Py]
def Ij {n:Nat}{now:Int}{k:A1}{u:List ai1×List k6}(h:Rows n now u):∀m,Rows n now<|Fh now k m u|0=>h|m+1=>bJ1<|Ij h m
theorem bt0 (now:Int)(k:A1)(c:Nat)(u:List ai1×List k6):(PN now k c u).2.length=u.2.length:=by unfold PN;cases d:split (c:Int) u.2 with|none=>rfl|some t=>obtain⟨a,j,b⟩:=t;simp only;split;rfl;cases u.1[c]?with|none=>rfl|some x=>have:=(sN d).1;simp[this]
theorem EW (now:Int)(k:A1)(u:List ai1×List k6):∀m,(Fh now k m u).2.length=u.2.length|0=>rfl|m+1=>by rw[Fh,bt0,EW now k u m]
theorem RB (now:Int)(k:A1)(ch:List ai1):∀m,Fh now k m (ch,[])=(ch,[])|0=>rfl|m+1=>by rw[Fh,RB now k ch m];rfl
def aj9 {n:Nat}{k:A1}{j:k6}(hk:Aj k)(d:cI n j):(-1125899906842624<=j.Left*k.q8/\j.Left*k.q8<=1125899906842624)/\-1125899906842624<=upV (j.Left*k.q8) k.I9/\upV (j.Left*k.q8) k.I9<=1125899906842624:=by
 have h1:=d.left;have e:=hk.p0;have c:=hk.p1;have f:=hk.s0;have a:j.Left*k.q8<=1048576*1073741824:=by by_cases h0:0<=j.Left;exact Int.mul_le_mul h1.2 c F F;have:j.Left*k.q8<=0:=Int.mul_nonpos_of_nonpos_of_nonneg F F;omega
 have b:-(1048576*1073741824)<=j.Left*k.q8:=by by_cases h0:0<=j.Left;have:0<=j.Left*k.q8:=Int.mul_nonneg h0 F;omega;have:-j.Left*k.q8<=1048576*1073741824:=Int.mul_le_mul F c F F;grind
 exact⟨⟨F,by omega⟩,bE1 F F F⟩
theorem Xi {n:Nat}{now:Int}{u:List ai1×List k6}(h:Rows n now u)(h0:0<=now)(h1:now<=1099511627776)(b:1<=n)(a:n<=8):Tm.T0 ⟨now,u.1⟩=true:=by unfold Tm.T0;have c:=h.len;rw[Tm.aM2 gq];simp only[cV8,cV0,cV2];exact h.ch
theorem Xg (a b:List k6)(j c:k6):fQ (a++j::b) (a.length:Int) c=some (a++c::b):=by simp[D4]
def aw2 (a b:List k6)(j:k6):y3 (a++j::b) (a.length:Int)=some j:=by rw[B3];simp
def bJ2 {n:Nat}{s:a7}{now:Int}{u:List ai1×List k6}(h:Rows n now u)(hk:Aj s.k7)(h0:0<=now)(h1:now<=1099511627776)(o:1<=n)(f:n<=8)(p:u.2.length<=1000000)(c:Nat)(q:c<2*n):U3 s (c:Int) (⟨now,u.1⟩,u.2)=some (.next (⟨now,(PN now s.k7 c u).1⟩,(PN now s.k7 c u).2)):=by
 unfold U3;simp only;rw[MW (c:Int) n f u.2 p h.Pu];have g:c<u.1.length:=by rw[h.len];exact q
 unfold HI PN;cases r:split (c:Int) u.2 with|none=>rfl|some t=>
  obtain⟨a,j,b⟩:=t;obtain⟨d,A,B⟩:=sN r;have i:j∈u.2:=by rw[d];simp
  have k:=h.Pu j i;obtain⟨r1,r2⟩:=aj9 hk k;have v:=hk.at0;have m:=hk.at1;simp only[oq];have e1:decide ((a.length:Int)<0)=false:=by simp
  have w:y3 u.2 (a.length:Int)=some j:=by rw[d];exact aw2 a b j
  rw[e1,w];simp only[cT8,oq];by_cases e:j.Left>s.k7.K6;rw[cU0 e,if_pos<|.inl e];rfl;rw[cU1 e];simp only[cT8];rw[b6 (n:=j.Left*s.k7.q8) F F,cL2 _ _ F F (by have:=hk.s0;omega)<|by have:=hk.s1;omega];simp only[oq];rw[b6 (n:=s.k7.At+upV (j.Left*s.k7.q8) s.k7.I9) F F,b6 (n:=now+1) F F];have l:q9 (s.k7.At+upV (j.Left*s.k7.q8) s.k7.I9) (now+1)=Li now s.k7 j:=rfl;rw[l];by_cases hmx:Li now s.k7 j>1099511627776;rw[cU0 hmx,if_pos<|.inr hmx];rfl;rw[cU1 hmx,if_neg F];simp only[cT8];have x:zX j.Event.Kind=some (EJ j.Event.Kind):=rfl;rw[x];simp only[oq];have y:=aF3 now s.k7 j;have e2:decide (Li now s.k7 j<=now)=false:=by simp;omega
  have z:decide (Li now s.k7 j>Tm.Xm)=false:=by unfold Tm.Xm;simp;omega
  rw[Tm.bJ0 ⟨now,u.1⟩ _ _ _ c rfl g<|Xi h h0 h1 o f];simp only;rw[e2,z];simp only[cT8,oq,beq_self_eq_true,cT9];rw[d,Xg];simp only[oq];rw[Xg,IN g];rfl
def ce9 {n:Nat}{s:a7}{now:Int}{u:List ai1×List k6}(b:Rows n now u)(hk:Aj s.k7)(h0:0<=now)(h1:now<=1099511627776)(d:1<=n)(a:n<=8)(f:u.2.length<=1000000):J9 ((2*n:Nat):Int) (U3 s) (⟨now,u.1⟩,u.2)=some (.inl (⟨now,(Fh now s.k7 (2*n) u).1⟩,(Fh now s.k7 (2*n) u).2)):=by obtain⟨t,k1,k2⟩:=sB (R:=Empty) (2*n) F (U3 s) (λc t=>t=(⟨now,(Fh now s.k7 c u).1⟩,(Fh now s.k7 c u).2)) (⟨now,u.1⟩,u.2) rfl (λc e t ht=>by subst ht;refine⟨_,bJ2 (Ij b c) hk h0 h1 d a (by grind [EW]) c e,rfl⟩);rw[k1,k2]
def put (s:a7)(now:Int)(u:List ai1×List k6):a7:=⟨s.h9,s.k7,⟨now,u.1⟩,s.Next,u.2,s.Cut⟩
def Af (s:a7):a7:=if s.Cut then s else put s s.b9.D2<|Fh s.b9.D2 s.k7 s.b9.a8.length (s.b9.a8,s.o1)
def Pj (s:a7)(t:w8):∀(k i:Nat),qw (U3 s) k (i:Int) (t,[])=some (.inl (t,[]))
 |0,_=>rfl|k+1,i=>by
  have:U3 s (i:Int) (t,[])=some (.next (t,[])):=by
   unfold U3;have hi:y9 [] (λa=>cg a (i:Int))=some (-1):=by unfold y9;rw[show((([]:List k6).length:Nat):Int)=((0:Nat):Int)from rfl,U2 0 dq];rfl
   grind
  simp only[qw,this,oq];exact Pj s t k<|i+1
def bq1 {n:Nat}{s:a7}(c:Rows n s.b9.D2 (s.b9.a8,s.o1))(hk:s.o1=[]\/Aj s.k7)(h0:0<=s.b9.D2)(h1:s.b9.D2<=1099511627776)(f:1<=n)(b:n<=8)(g:s.o1.length<=1000000):vC s=some (Af s):=by unfold vC Af;have a:=c.len;simp only at a;cases d:s.Cut;simp only[cT8,cX5,if_false];rcases hk with hk|hk;rw[hk,RB,U2 _ F];have:=Pj s s.b9 s.b9.a8.length 0;rw[show((0:Nat):Int)=0 from rfl]at this;simp_all[put];have:=ce9 (s:=s) c hk h0 h1 f b g;simp only at this;have e:(⟨s.b9.D2,s.b9.a8⟩:w8)=s.b9:=rfl;simp_all[put];rfl
def bA5 {n:Nat}{s:a7}{u:List ai1×List k6}(g:Rows n s.b9.D2 u)(hk:Aj s.k7)(h0:0<=s.b9.D2)(h1:s.b9.D2<=1099511627776)(h:n<=8)(o:u.2.length<=1000000)(c:Nat)(p:c<2*n):bY s ((c:Int),u.1,u.2)=some (.inl (((c+1:Nat):Int),(PN s.b9.D2 s.k7 c u).1,(PN s.b9.D2 s.k7 c u).2)):=by
 have d:c<u.1.length:=by rw[g.len];exact p
 have q:=g.len;unfold bY Q;simp only;have r:decide ((c:Int)<(u.1.length:Int))=true:=by simp;omega
 have v:H ((c:Int)+1)=((c+1:Nat):Int):=by grind [b6]
 rw[r,aL6 _ (c:Int) n h o g.Pu,v];simp only[cT9];unfold HI PN;cases w:split (c:Int) u.2 with|none=>rfl|some t=>
  obtain⟨a,j,b⟩:=t;obtain⟨e,A,B⟩:=sN w;have i:j∈u.2:=by rw[e];simp
  have k:=g.Pu j i;obtain⟨r1,r2⟩:=aj9 hk k;have x:=hk.at0;have m:=hk.at1;simp only[oq];have e1:decide ((a.length:Int)<0)=false:=by simp
  have y:y3 u.2 (a.length:Int)=some j:=by rw[e];exact aw2 a b j
  rw[e1,y];simp only[cT8,oq];by_cases f:j.Left>s.k7.K6;rw[cU0 f,if_pos<|.inl f];rfl;rw[cU1 f];simp only[cT8];rw[b6 (n:=j.Left*s.k7.q8) F F,bX4 _ _ F F (by have:=hk.s0;omega)<|by have:=hk.s1;omega];simp only[oq];rw[b6 (n:=s.k7.At+upV (j.Left*s.k7.q8) s.k7.I9) F F,b6 (n:=s.b9.D2+1) F F];have l:q9 (s.k7.At+upV (j.Left*s.k7.q8) s.k7.I9) (s.b9.D2+1)=Li s.b9.D2 s.k7 j:=rfl;rw[l];by_cases hmx:Li s.b9.D2 s.k7 j>1099511627776;rw[cU1 F,if_pos<|.inr hmx];rfl;rw[cU0 F,if_neg F];simp only[cT9];have z:fP j.Event.Kind=some (EJ j.Event.Kind):=rfl;rw[z,j2 _ _ d,IN d,e,Xg];simp only[oq];rw[Xg];simp only[oq];rw[D4 _ _ _ d];rfl
def bV4 {n:Nat}{s:a7}{u:List ai1×List k6}(b:Rows n s.b9.D2 u)(hk:Aj s.k7)(h0:0<=s.b9.D2)(h1:s.b9.D2<=1099511627776)(a:n<=8)(e:u.2.length<=1000000):o3 (bY s) (0,u.1,u.2)=some (.inl (((2*n:Nat):Int),Fh s.b9.D2 s.k7 (2*n) u)):=by obtain⟨t,k1,k2⟩:=Ba (mb:=bY s) (λc t=>t=((c:Int),Fh s.b9.D2 s.k7 c u)) (λt=>t=.inl (((2*n:Nat):Int),Fh s.b9.D2 s.k7 (2*n) u)) (2*n) 0 (0,u.1,u.2) rfl (λc _ f t ht=>by subst ht;have:=bA5 (s:=s) (Ij (k:=s.k7) b c) hk h0 h1 a (by grind [EW]) c F;exact⟨_,this,rfl⟩) (λt ht=>by subst ht;have d:=(Ij (k:=s.k7) b<|0+2*n).len;unfold bY Q;grind);rw[k1,k2]
def ay8 {n:Nat}{s:a7}(d:Rows n s.b9.D2 (s.b9.a8,s.o1))(hk:s.k7.F8=false/\s.o1=[]\/s.k7.F8=true/\Aj s.k7)(h0:0<=s.b9.D2)(h1:s.b9.D2<=1099511627776)(b:n<=8)(g:s.o1.length<=1000000):nn s=some (Af s):=by
 unfold nn Af Q;have a:=d.len;simp only at a;cases f:s.Cut;simp only[db8,cX5,if_false];rcases hk with⟨c,hk⟩|⟨c,hk⟩;have e:Fh s.b9.D2 s.k7 s.b9.a8.length (s.b9.a8,s.o1)=(s.b9.a8,s.o1):=by rw[hk,RB]
 rw[c,e];rfl;rw[c,a];have:=bV4 (s:=s) d hk h0 h1 b g;simp_all[put];rfl
def Kt {α:Type}(f:α->Option Bool)(p:α->Bool):∀(l:List α)(i:Nat),(∀y∈l,f y=some (p y))->F0 (λ(i:Int)x (_:Unit)=>tI (f x) λv=>bif v then some (Fl.ret i)else some<|Fl.next ()) l (i:Int) ()=some (match l.findIdx? p with|some k=>.inr ((i+k:Nat):Int)|none=>.inl ())|[],i,_=>rfl|y::l,i,h=>by simp only[F0,h y<|cV7 ..,oq,cT4];cases p y;have:=Kt f p l (i+1) λy a=>h y<|cV3 _ a;grind;simp
theorem find_eq (l:List k6)(a:l.length<=1000000)(f:k6->Option Bool)(p:k6->Bool)(h:∀y∈l,f y=some (p y)):y9 l f=some (match l.findIdx? p with|some k=>(k:Int)|none=>-1):=by unfold y9 P0;rw[yi l F λ(i:Int)x (_:Unit)=>tI (f x) λv=>bif v then some (Fl.ret i)else some<|Fl.next ()];have:=Kt f p l 0 h;grind
def Ue {α:Type}{p:α->Bool}:∀{l:List α}{k:Nat},l.findIdx? p=some k->k<l.length/\(l.take<|k+1).filter (λy=>!p y)=l.take k
 |[],k,h=>by simp at h|y::l,k,h=>by
  rw[cT4]at h;cases hp:p y;rw[hp]at h;simp only[cX5,if_false]at h;cases a:l.findIdx? p with|none=>grind|some m=>rw[a]at h;simp only[cW3,AI]at h;subst h;obtain⟨h1,b⟩:=Ue a;grind
  grind
theorem am4 {α:Type}{p:α->Bool}{l:List α}(h:l.findIdx? p=none):l.filter (λy=>!p y)=l:=by simp_all
def Ye {α:Type}(s:List α)(i:Nat)(z:α)(hi:i<=s.length):U4 (Og s (i:Int) (s.length:Int) z) 0 (i:Int)=some (s.take i):=by
 have e:Og s (i:Int) (s.length:Int) z=s.take i++cI5 (s.length-i) z:=by simp_all[cZ]
 have a:(s.take i++cI5 (s.length-i) z).length=s.length:=by grind
 rw[e];unfold U4;grind
def del_eq (l:List k6)(A:l.length<=1000000)(f:k6->Option Bool)(p:k6->Bool)(h:∀y∈l,f y=some (p y)):H8 l f=some (l.filter λy=>!p y):=by unfold H8;rw[find_eq l A f p h];cases B:l.findIdx? p with|none=>grind [am4]|some v=>
  obtain⟨I,k⟩:=Ue B;simp only[oq];have C:((v:Int)==-1)=false:=beq_eq_false_iff_ne.2 F;rw[C,b6 (n:=(v:Int)+1) F F];simp only[cT8];obtain⟨t,k1,k2⟩:=Ba (mb:=cE f) (λj st=>∃i:Nat,st.1=(i:Int)/\st.2.1=((v+1+j:Nat):Int)/\i<v+1+j/\i=((l.take<|v+1+j).filter λy=>!p y).length/\st.2.2.length=l.length/\st.2.2.take i=((l.take<|v+1+j).filter λy=>!p y)/\st.2.2.drop (v+1+j)=l.drop (v+1+j)) (λt=>∃(s:List k6)(i:Nat),t=.inl ((i:Int),(l.length:Int),s)/\s.length=l.length/\i<=l.length/\s.take i=l.filter λy=>!p y) (l.length-(v+1)) 0 ((v:Int),(v:Int)+1,l) ⟨v,rfl,by push_cast;omega,by omega,by rw[cq7,k,cV5];omega,rfl,by rw[cq7,k],rfl⟩ (λj _ J st ⟨i,h1,c,x,r,g,m,u⟩=>by
    have d:v+1+j<l.length:=by omega
    have o:y3 st.2.2 st.2.1=some l[v+1+j]:=by rw[c,B3,<-cX6,u,cX6,IN d]
    have e:decide (st.2.1<(st.2.2.length:Int))=true:=by rw[c,g];simp;omega
    have b:l.take (v+1+(j+1))=l.take (v+1+j)++[l[v+1+j]]:=by rw[<-cD6];exact cd8 d
    have q:∀s:List k6,s.drop (v+1+j)=l.drop (v+1+j)->s.drop (v+1+(j+1))=l.drop (v+1+(j+1)):=λs z=>by rw[<-cD6,<-bT3,z,bT3]
    unfold cE;rw[e,o];simp only[cT9,oq,h _<|al8 d];rw[c,b6 (n:=((v+1+j:Nat):Int)+1) F F];cases hp:p l[v+1+j];have hi:i<st.2.2.length:=by omega
    simp only[cV8,cT9];rw[h1,j2 _ _ hi];simp only[oq];rw[D4 _ _ _ hi,b6 (n:=(i:Int)+1) F F];have a:((l.take<|v+1+(j+1)).filter λy=>!p y)=((l.take<|v+1+j).filter λy=>!p y)++[l[v+1+j]]:=by rw[b,bO6];simp[hp]
    refine⟨_,rfl,i+1,by push_cast;rfl,by push_cast;omega,by omega,?_,by simp[g],?_,?_⟩;rw[a,IT,<-r];rfl;rw[a,<-m];rw[cd8<|by simpa using hi,List.take_set_of_le<|cW6 _,cY0];refine q _ ?_;rw[List.drop_set_of_lt F];exact u;simp only[AT,cT8];have a:((l.take<|v+1+(j+1)).filter λy=>!p y)=(l.take<|v+1+j).filter λy=>!p y:=by rw[b,bO6];simp[hp]
    exact⟨_,rfl,i,h1,by push_cast;omega,by omega,by rw[a];exact r,g,by rw[a];exact m,q _ u⟩) (λst ⟨i,h1,c,x,r,g,m,u⟩=>by
    have D:v+1+(0+(l.length-(v+1)))=l.length:=by omega
    rw[D]at c x r m;have e:decide (st.2.1<(st.2.2.length:Int))=false:=by rw[c,g];simp
    unfold cE;rw[e];simp only[cT8];refine⟨_,rfl,st.2.2,i,?_,g,by omega,by rw[m,cZ0]⟩;rw[h1,c]);obtain⟨s,i,rfl,z,hi,ht⟩:=k2;rw[k1];simp only[oq];have E:RU (i:Int) (s.length:Int) s.length=some ():=by unfold RU;rw[if_pos ⟨F,by omega,by omega⟩]
  rw[E];simp only[oq];have w:U4 (Og s (i:Int) (s.length:Int) (⟨(⟨0,0,0,0⟩:j8),0,false,0⟩:k6)) 0 (i:Int)=some (s.take i):=Ye s i _ F;rw[w,ht];rfl
def rr (a:Int)(j:k6):Bool:=j.u7&&j.At==a
theorem bQ9 (l:List k6)(b:l.length<=1000000)(a:Int):H8 l (λc=>Bn c a)=some (l.filter λj=>!rr a j):=del_eq l b _ (rr a) λ_ _=>rfl
def cx2 (out:List e9)(s:a7)(a:Int)(b:Bool)(n:s.o1.length<=1000000):o3 (dp (out,s) (a,b)) (([]:List k6),0)=some (.inl (s.o1.filter λj=>!rr a j,(s.o1.length:Int))):=by
 have key:∀(r:List k6)(i:Nat)(o:List k6),s.o1.drop i=r->i<=s.o1.length->o.length<=i->o3 (dp (out,s) (a,b)) (o,(i:Int))=some (.inl (o++r.filter λj=>!rr a j,(s.o1.length:Int))):=by intro r;induction r with|nil=>grind [j3,dp,Q]|cons y r g=>
   intro i o h hi p;have k:s.o1[i]?=some y:=by rw[<-cX6,h];rfl
   have l:=(No.1 k).1;have d:s.o1.drop (i+1)=r:=by rw[<-bT3,h];rfl
   have e1:decide ((i:Int)<(s.o1.length:Int))=true:=by simp;omega
   have m:H ((i:Int)+1)=((i+1:Nat):Int):=by rw[b6 F F];omega
   have f:dp (out,s) (a,b) (o,(i:Int))=some (bif !rr a y then .inl (o++[y],((i+1:Nat):Int))else .inl (o,((i+1:Nat):Int))):=by
    unfold dp Q;simp only[e1,cT9,B3,k,oq,m];rw[l5 _ _<|by simp;omega];unfold rr;cases y.u7;rfl;cases e:y.At==a;have:(y.At !=a)=true:=by simp only[bne,e];rfl
    simp[this];have:(y.At !=a)=false:=by simp only[bne,e];rfl
    simp[this]
   cases c:rr a y;rw[c]at f;rw[j7 f,g (i+1) (o++[y]) d F<|by simp;omega];simp[c];rw[c]at f;rw[j7 f,g (i+1) o d F F];simp[c]
 have:=key s.o1 0 [] rfl F sq;grind
def Ru (a:Int)(u:List ai1×List k6):List ai1×List k6:=(u.1.map<|Tm.Cj a,u.2.filter λj=>!rr a j)
def Mb:∀{l:List k6}{a:Bool},alt l a=true->∀k∈l,k.u7=false|[],a,_,k,hk=>by simp at hk|j::r,a,h,k,hk=>by simp only[alt,BY,nW]at h;rcases cV6.1 hk with rfl|hk;exact h.1.2;exact Mb h.2 k hk
theorem ce4 {l:List k6}{a:Bool}(h:alt l a=true):cX l ⟨false,0,false,a⟩=true:=by cases l with|nil=>simpa[cX,alt]using h|cons j r=>simp_all[alt,cX]
def MM {l:List k6}(a:Int)(h:∀k∈l,k.u7=false):(l.filter λj=>!rr a j)=l:=by grind [List.filter_eq_self,rr]
theorem Nu (l:List k6)(c a:Int):K9 (l.filter λj=>!rr a j) c=(K9 l c).filter λj=>!rr a j:=by simp[K9,Bool.and_comm]
def cn7 {l:List k6}{x:ai1}{a:Int}(h:cX l x=true)(b:x.u7=true->a<=x.At):cX (l.filter λj=>!rr a j) (Tm.Cj a x)=true:=by cases l with|nil=>simp_all[cX,Tm.Cj,Tm.due]|cons j r=>
  have f:=h;simp only[cX,BY,nW,bh7,beq_iff_eq]at h;obtain⟨⟨⟨h1,g⟩,i⟩,c⟩:=h;have k:=MM a<|Mb c;cases hx:x.u7;have d:j.u7=false:=by grind
  have e1:Tm.Cj a x=x:=by grind [Tm.Cj,Tm.due]
  have e2:rr a j=false:=by grind [rr]
  grind;have d:j.u7=true:=by grind
  have e:j.At=x.At/\x.Next=!x.s8:=by grind
  have m:=b hx;by_cases n:x.At=a;have e1:Tm.Cj a x=⟨false,0,false,!x.s8⟩:=by grind [Tm.Cj,Tm.due]
  have e2:rr a j=true:=by grind [rr]
  rw[e1,dc3,e2];simp only[AT,cX5,if_false];grind [ce4];have e1:Tm.Cj a x=x:=by grind [Tm.Cj,Tm.due]
  have e2:rr a j=false:=by grind [rr]
  grind
def bH9 {n:Nat}{now a:Int}{u:List ai1×List k6}(h:Rows n now u)(h0:0<=now)(h1:now<a)(k:a<=1099511627776)(g:1<=n)(f:n<=8)(d:∀x∈u.1,x.u7=true->a<=x.At):Rows n a<|Ru a u:=by
 have ht:=Xi h h0 F g f;have b:=Tm.ca8 (u4:=a) ht gq F;refine⟨by simp[Ru,h.len],?_,λj i=>h.Pu j (de0.1 i).1,λc l=>?_⟩;unfold Tm.T0 at b;simp only[BY,cV2]at b;exact b.2;have e:c<u.1.length:=by grind [Ru]
 simp only[Ru,cX7];rw[Nu];exact cn7 (h.row c e)<|d _<|al8 e
def ch6 {now a:Int}{l:List k6}(h:Dj now l=true)(b:now<=a):Dj a (l.filter λj=>!rr a j)=true:=by match l,h with|[],_=>rfl|[j],h=>rw[dc3];cases rr a j;simp only[cV8,if_true,dd6];simp only[Dj,BY,dg1]at h|-;grind;rfl|i::j::r,h=>simp[Dj]at h
def aE8 {n:Nat}{now a:Int}{u:List ai1×List k6}(h:Rows n now u){x:ai1}(hx:x∈u.1)(l:x.u7=true)(e:x.At=a):(Ru a u).2.length<u.2.length:=by obtain⟨c,f,rfl⟩:=Kz.1 hx;have b:=h.row c f;cases g:K9 u.2 (c:Int)with|nil=>grind [cX]|cons j r=>
  rw[g]at b;simp only[cX,BY,nW,bh7,beq_iff_eq]at b;obtain⟨⟨⟨_,m⟩,o⟩,_⟩:=b;have p:j.u7=true:=by grind
  have i:j.At=u.1[c].At:=by grind
  have d:j∈u.2:=by grind [K9,cV7]
  have k:rr a j=true:=by grind [rr]
  unfold Ru;exact List.length_filter_lt_length_iff_exists.2 ⟨j,d,by simp[k]⟩
structure Live (n:Nat)(s:a7):Prop where
 lE:n=s.h9.ai9.length
 n1:1<=n
 n8:n<=8
 rows:Rows n s.b9.D2 (s.b9.a8,s.o1)cut:s.Cut=true->∀c,c<s.b9.a8.length->Dj s.b9.D2 (K9 s.o1 (c:Int))=true
 QM:0<=s.b9.D2
 Wy:s.b9.D2<=1099511627776
 Wp:s.k7.F8=false/\s.o1=[]\/(s.k7.F8=true/\Aj s.k7)most:s.o1.length<=1000
theorem Live.tim {n:Nat}{s:a7}(h:Live n s):Tm.T0 s.b9=true:=Xi h.rows h.QM h.Wy h.n1 h.n8
theorem Live.len {n:Nat}{s:a7}(h:Live n s):s.b9.a8.length=2*n:=h.rows.len
theorem Live.of {s:a7}(h:mS s):Live s.h9.ai9.length s:=by have ht:=Tm.Db h.tim;refine⟨rfl,h.lE.1,h.lE.2.1,⟨h.chs,?_,h.Pu,λc a=>?_⟩,λb c a=>?_,ht.2.2.1,ht.2.2.2,?_,cw2 h.most dq⟩;have:=h.tim;simp_all[Tm.T0];have:=h.line c a;simp_all[CQ];have:=h.line c a;simp_all[CQ];cases d:s.k7.F8;exact .inl ⟨rfl,h.none d⟩;exact .inr ⟨rfl,al5 h.Wp d⟩
def stepG (a:Int)(s:a7):a7:=Af<|put s a<|Ru a (s.b9.a8,s.o1)
def Ps (to:Int):Nat->List e9×a7->List e9×a7|0,u=>u|f+1,u=>if(Tm.hZ u.2.b9.a8).2=true/\(Tm.hZ u.2.b9.a8).1<=to then Ps to f (u.1++Tm.Az (Tm.hZ u.2.b9.a8).1 u.2.b9.a8,stepG (Tm.hZ u.2.b9.a8).1 u.2)else u
structure Alike (s t:a7):Prop where
 lE:t.h9=s.h9
 Wp:t.k7=s.k7
 next:t.Next=s.Next
 cut:t.Cut=s.Cut
theorem Alike.refl (s:a7):Alike s s:=⟨rfl,rfl,rfl,rfl⟩
theorem Alike.trans {s t u:a7}(h:Alike s t)(k:Alike t u):Alike s u:=⟨k.lE.trans h.lE,k.Wp.trans h.Wp,k.next.trans h.next,k.cut.trans h.cut⟩
theorem Tu (s:a7)(now:Int)(u:List ai1×List k6):Alike s<|put s now u:=⟨rfl,rfl,rfl,rfl⟩
def Oc (s:a7):Alike s<|Af s:=by unfold Af;split;exact .refl s;exact Tu ..
def aX1 (a:Int)(s:a7):Alike s<|stepG a s:=(Tu ..).trans<|Oc _
def aF5 {n:Nat}{s:a7}(h:Live n s):Live n<|Af s:=by unfold Af;cases c:s.Cut;simp only[cX5,if_false];have d:=Ij (k:=s.k7) h.rows s.b9.a8.length;refine⟨h.lE,h.n1,h.n8,d,λe=>?_,h.QM,h.Wy,?_,?_⟩;have:s.Cut=true:=e;grind;rcases h.Wp with⟨a,b⟩|f;left;refine⟨a,?_⟩;show(Fh s.b9.D2 s.k7 s.b9.a8.length (s.b9.a8,s.o1)).2=[];rw[b,RB];exact .inr f;show(Fh s.b9.D2 s.k7 s.b9.a8.length (s.b9.a8,s.o1)).2.length<=1000;rw[EW];exact h.most;grind
def aQ8 {n:Nat}{s:a7}(h:Live n s){d:Int}(h1:s.b9.D2<d)(h2:d<=1099511627776)(e:∀x∈s.b9.a8,x.u7=true->d<=x.At):Live n<|put s d<|Ru d (s.b9.a8,s.o1):=by have f:=bH9 h.rows h.QM h1 h2 h.n1 h.n8 e;refine⟨h.lE,h.n1,h.n8,f,λg c i=>?_,by have:=h.QM;show 0<=d;omega,h2,?_,?_⟩;show Dj d (K9 (s.o1.filter λj=>!rr d j) (c:Int))=true;rw[Nu];exact ch6 (h.cut g c<|by grind [put,Ru]) F;rcases h.Wp with⟨a,b⟩|h2;left;refine⟨a,?_⟩;show(s.o1.filter λj=>!rr d j)=[];rw[b];rfl;exact .inr h2;exact cw2 (cD8 ..) h.most
def Ze {n:Nat}{s:a7}(h:Live n s)(a:(Tm.hZ s.b9.a8).2=true):s.b9.D2<(Tm.hZ s.b9.a8).1/\(Tm.hZ s.b9.a8).1<=1099511627776/\∀x∈s.b9.a8,x.u7=true->(Tm.hZ s.b9.a8).1<=x.At:=by obtain⟨x,hx,b,c⟩:=Tm.Nz a;have:=Tm.al3 (h.rows.ch x hx) b;grind [Tm.Je]
def aq8 {n:Nat}{s:a7}(h:Live n s)(a:(Tm.hZ s.b9.a8).2=true):Live n<|stepG (Tm.hZ s.b9.a8).1 s:=by obtain⟨h1,b,c⟩:=Ze h a;exact aF5<|aQ8 h h1 b c
theorem aa7 (at_:Int)(s:a7):(stepG at_ s).b9.D2=at_:=by unfold stepG Af;split<;>rfl
def bC7 (a:Int)(s:a7):(stepG a s).o1.length=(Ru a (s.b9.a8,s.o1)).2.length:=by unfold stepG Af;split;rfl;show(Fh _ _ _ _).2.length=_;rw[EW];rfl
def cj3 {n:Nat}{s:a7}(h:Live n s)(to:Int)(out:List e9)(p:out.length<=100000)(a:(Tm.hZ s.b9.a8).2=true)(i:(Tm.hZ s.b9.a8).1<=to):bM to (out,s)=some (.inl (out++Tm.Az (Tm.hZ s.b9.a8).1 s.b9.a8,stepG (Tm.hZ s.b9.a8).1 s))/\dn to (out,s)=some (.inl (out++Tm.Az (Tm.hZ s.b9.a8).1 s.b9.a8,stepG (Tm.hZ s.b9.a8).1 s)):=by
 obtain⟨h1,j,k⟩:=Ze h a;have aT:=aQ8 h h1 j k;have e:=h.len;have l:=h.n8;have m:(Tm.Az (Tm.hZ s.b9.a8).1 s.b9.a8).length<=16:=by grind [Tm.aE7]
 have et:(⟨s.b9.D2,s.b9.a8⟩:w8)=s.b9:=rfl;have f:decide ((Tm.hZ s.b9.a8).1>to)=false:=by simp;omega
 have c:decide ((Tm.hZ s.b9.a8).1<s.b9.D2)=false:=by simp;omega
 have d:decide ((Tm.hZ s.b9.a8).1>Tm.Xm)=false:=by grind
 have q:=h.most;constructor
 ·unfold bM;try simp only[et]
  rw[Tm.bo1,h.tim];simp only[cT9,oq,a,f,AT,aj3,cT8];rw[Tm.bH8,h.tim,c,d];simp only[AT,cT8,oq];rw[l5 _ _ F,bQ9 _ F];simp only[oq];have:=bq1 (s:=put s (Tm.hZ s.b9.a8).1<|Ru (Tm.hZ s.b9.a8).1 (s.b9.a8,s.o1)) aT.rows (by rcases aT.Wp with⟨_,b⟩|⟨_,b⟩;all_goals grind) aT.QM aT.Wy h.n1 h.n8 (by have:=aT.most;omega);unfold put Ru at this;simp only at this;rw[this];rfl
 ·unfold dn Q;try simp only[et]
  rw[Tm.SL _ F];simp only[oq,a,f,AT,aj3,cT8];rw[bp1 _ _ h.tim];simp only[oq];rw[l5 _ _ F];have g:=cx2 out s (Tm.hZ s.b9.a8).1 (Tm.hZ s.b9.a8).2 F;have o:((Tm.hZ s.b9.a8).1,(Tm.hZ s.b9.a8).2)=Tm.hZ s.b9.a8:=rfl;rw[o]at g;simp only[oq];rw[g];simp only[oq];have:=ay8 (s:=put s (Tm.hZ s.b9.a8).1<|Ru (Tm.hZ s.b9.a8).1 (s.b9.a8,s.o1)) aT.rows aT.Wp aT.QM aT.Wy h.n8 (by have:=aT.most;omega);unfold put Ru at this;simp only at this;rw[this];rfl
def bR0 {n:Nat}{s:a7}(h:Live n s)(to:Int)(out:List e9)(b:¬((Tm.hZ s.b9.a8).2=true/\(Tm.hZ s.b9.a8).1<=to)):bM to (out,s)=some (.inr<|.inl (out,s))/\dn to (out,s)=some (.inr<|.inl (out,s)):=by
 have et:(⟨s.b9.D2,s.b9.a8⟩:w8)=s.b9:=rfl;have a:=h.len;have c:=h.n8;have d:(!(Tm.hZ s.b9.a8).2||decide ((Tm.hZ s.b9.a8).1>to))=true:=by grind
 constructor
 ·unfold bM;try simp only[et]
  rw[Tm.bo1,h.tim];grind
 ·unfold dn Q;try simp only[et]
  rw[Tm.SL _ F];grind
def aw3 (to:Int){n:Nat}:∀(f:Nat)(s:a7)(out:List e9),Live n s->s.o1.length<=f->out.length+16*f<=100000->s.b9.D2<=to->o3 (bM to) (out,s)=some (.inl<|Ps to f (out,s))/\o3 (dn to) (out,s)=some (.inl<|Ps to f (out,s))/\Live n (Ps to f (out,s)).2/\Alike s (Ps to f (out,s)).2/\(Ps to f (out,s)).2.b9.D2<=to/\
   (∀x∈(Ps to f (out,s)).2.b9.a8,x.u7=true->to<x.At)/\(Ps to f (out,s)).1.length<=out.length+16*f/\(Ps to f (out,s)).2.o1.length<=s.o1.length:=by intro f;induction f with|zero=>
  intro s out h m o ht;have i:¬((Tm.hZ s.b9.a8).2=true/\(Tm.hZ s.b9.a8).1<=to):=by rintro⟨h1,_⟩;obtain⟨x,hx,d,e⟩:=Tm.Nz h1;have:=aE8 h.rows hx d e;grind
  obtain⟨e1,e2⟩:=bR0 h to out i;refine⟨j3 e1,j3 e2,h,.refl s,ht,λx hx d=>?_,by simp[Ps],cW6 _⟩;obtain⟨a,b⟩:=Tm.Je hx d;by_cases j:to<x.At;exact j;have p:(Tm.hZ s.b9.a8).1<=x.At:=b;exact absurd ⟨a,by omega⟩ i|succ f q=>
  intro s out h m o ht;by_cases c:(Tm.hZ s.b9.a8).2=true/\(Tm.hZ s.b9.a8).1<=to;obtain⟨e1,e2⟩:=cj3 h to out F c.1 c.2;have l:=h.len;have r:=h.n8;have t:(Tm.Az (Tm.hZ s.b9.a8).1 s.b9.a8).length<=16:=by have:=Tm.aE7 (Tm.hZ s.b9.a8).1 s.b9.a8;omega
  obtain⟨x,hx,d,e⟩:=Tm.Nz c.1;have g:=aE8 h.rows hx d e;simp only at g;have u:=bC7 (Tm.hZ s.b9.a8).1 s;obtain⟨r1,r2,r3,r4,r5,v,w,y⟩:=q (stepG (Tm.hZ s.b9.a8).1 s) (out++Tm.Az (Tm.hZ s.b9.a8).1 s.b9.a8) (aq8 h c.1) F (by rw[IT];omega) (by rw[aa7];exact c.2);have k:Ps to (f+1) (out,s)=Ps to f (out++Tm.Az (Tm.hZ s.b9.a8).1 s.b9.a8,stepG (Tm.hZ s.b9.a8).1 s):=by show(if _ then _ else _)=_;rw[if_pos c]
  rw[k,j7 e1,j7 e2];refine⟨r1,r2,r3,(aX1 _ s).trans r4,r5,v,by rw[IT]at w;omega,by omega⟩;obtain⟨e1,e2⟩:=bR0 h to out c;have k:Ps to (f+1) (out,s)=(out,s):=by show(if _ then _ else _)=_;rw[if_neg c]
  rw[k];refine⟨j3 e1,j3 e2,h,.refl s,ht,λx hx d=>?_,by simp only;omega,cW6 _⟩;obtain⟨a,b⟩:=Tm.Je hx d;by_cases j:to<x.At;exact j;have p:(Tm.hZ s.b9.a8).1<=x.At:=b;exact absurd ⟨a,by omega⟩ c
def oU (to:Int)(s:a7):List e9×a7:=((Ps to s.o1.length ([],s)).1,put (Ps to s.o1.length ([],s)).2 to ((Ps to s.o1.length ([],s)).2.b9.a8,(Ps to s.o1.length ([],s)).2.o1))
def bc6 {n:Nat}{s:a7}(h:Live n s){to:Int}(h1:s.b9.D2<=to)(e:to<=1099511627776)(a:∀x∈s.b9.a8,x.u7=true->to<x.At):Live n<|put s to (s.b9.a8,s.o1):=by refine⟨h.lE,h.n1,h.n8,⟨h.rows.len,λx hx=>?_,h.rows.Pu,h.rows.row⟩,λf c b=>?_,by have:=h.QM;show 0<=to;omega,e,h.Wp,h.most⟩;have:=h.rows.ch x hx;show Tm.chB to x=true;unfold Tm.chB at this|-;cases d:x.u7;grind;rw[d]at this;have k:=a x hx d;grind;have:=h.cut f c b;show Dj to (K9 s.o1 (c:Int))=true;match g:K9 s.o1 (c:Int)with|[]=>rfl|[j]=>rw[g]at this;simp only[Dj,BY,dg1]at this|-;grind|i::j::r=>grind [Dj]
def Zc {to:Int}{l:List ai1}(h:∀x∈l,x.u7=true->to<x.At):∀c∈l,Tm.due to c=false:=by grind [Tm.due]
theorem WW {n:Nat}{s:a7}(h:Live n s)(to:Int)(h1:s.b9.D2<=to)(f:to<=1099511627776):sG s to=some (oU to s)/\Live n (oU to s).2/\Alike s (oU to s).2/\(oU to s).2.b9.D2=to/\(oU to s).2.o1.length<=s.o1.length/\∀x∈(oU to s).2.b9.a8,x.u7=true->to<x.At:=by
 have i:=h.most;obtain⟨r1,r2,r3,r4,r5,a,e,g⟩:=aw3 to s.o1.length s [] h (cW6 _) (by simp;omega) h1;have b:=Tm.Zd<|Zc a;refine⟨?_,bc6 r3 r5 f a,r4.trans<|Tu ..,rfl,g,a⟩;unfold sG;rw[r1];simp only[oq];unfold oU;generalize Ps to s.o1.length ([],s)=u at r3 r5 a b e;have et:(⟨u.2.b9.D2,u.2.b9.a8⟩:w8)=u.2.b9:=rfl;have c:decide (to<u.2.b9.D2)=false:=by simp;omega
 have d:decide (to>Tm.Xm)=false:=by unfold Tm.Xm;simp;omega
 try rw[et]
 rw[Tm.bH8,r3.tim,c,d];simp only[AT,cT8,oq];rw[b.1,b.2,l5 _ _<|by simp at e|-;omega];simp only[oq,iy];rfl
theorem ba4 (s:a7)(h1:s.h9.ai9.length<=1000)(a:s.b9.a8.length<=1000)(b:s.Next.length<=1000000)(c:s.o1.length<=1000000):rf s=some s:=by unfold rf Q;rw[l5 _ _<|by simp;omega,Tm.copy_eq _ a,l5 _ _<|by simp;omega,l5 _ _<|by simp;omega];rfl
theorem bf6 {n:Nat}{s:a7}(h:Live n s)(to:Int)(h1:s.b9.D2<=to)(c:s.Next.length<=1000000):wm s to=some ((oU to s).2,(oU to s).1):=by
 have f:=h.most;have g:=h.len;have d:=h.n8;have i:=h.lE;obtain⟨r1,r2,r3,r4,r5,a,e,j⟩:=aw3 to s.o1.length s [] h (cW6 _) (by simp;omega) h1;have b:=Tm.Zd<|Zc a;unfold wm Q;rw[ba4 s F F c F];simp only[oq];rw[r2];simp only[oq];unfold oU;generalize Ps to s.o1.length ([],s)=u at r3 r5 a b e;have et:(⟨u.2.b9.D2,u.2.b9.a8⟩:w8)=u.2.b9:=rfl;try rw[et]
 rw[bp1 _ _ r3.tim,b.2];rfl
theorem Iz (s:a7)(a:s.Next.length<=1000000)(b:s.o1.length<=1000000):tQ s=some s:=by unfold tQ Hp xF Q;rw[l5 _ _<|by simp;omega,l5 _ _<|by simp;omega];rfl
section
variable {α β:Type}
def FZ (gt:α->α->Bool)(x:α)(l:List α):Nat->Nat|0=>0|k+1=>match l[k]?with|some y=>if gt y x then FZ gt x l k else k+1|none=>k+1
def Dm (gt:α->α->Bool)(l:List α)(x:α):List α:=l.take (FZ gt x l l.length)++x::l.drop (FZ gt x l l.length)
def bo4 (gt:α->α->Bool)(x:α)(l:List α):∀k,FZ gt x l k<=k|0=>cW6 _|k+1=>by have:=bo4 gt x l k;unfold FZ;split;split<;>omega;omega
def aQ3 (gt:α->α->Bool)(x:α)(l:List α){k:Nat}(h:k<l.length):FZ gt x l (k+1)=if gt l[k] x then FZ gt x l k else k+1:=by rw[FZ,IN h]
theorem EZ (gt:α->α->Bool)(l:List α)(x:α):(Dm gt l x).Perm<|x::l:=by unfold Dm;refine List.perm_middle.trans ?_;simp
theorem Yv (gt:α->α->Bool):∀(r l:List α),(r.foldl (Dm gt) l).Perm<|l++r|[],l=>by simp|x::r,l=>by refine(Yv gt r<|Dm gt l x).trans ?_;refine((EZ gt l x).append_right r).trans ?_;exact List.perm_middle.symm
theorem bo5 (f:α->β){gt:α->α->Bool}{gt':β->β->Bool}(x:α)(l:List α)(h:∀y∈l,gt' (f y) (f x)=gt y x):∀k,FZ gt' (f x) (l.map f) k=FZ gt x l k|0=>rfl|k+1=>by unfold FZ;rw[bg5];cases hk:l[k]?with|none=>rfl|some y=>simp only[cW3];rw[h y<|bX3 hk,bo5 f x l h k]
theorem cj8 (f:α->β){gt:α->α->Bool}{gt':β->β->Bool}(x:α)(l:List α)(h:∀y∈l,gt' (f y) (f x)=gt y x):Dm gt' (l.map f) (f x)=(Dm gt l x).map f:=by grind [Dm,bo5,List.map_take,List.map_drop]
def fold_map (f:α->β){gt:α->α->Bool}{gt':β->β->Bool}(Q:α->Prop)(h:∀x y,Q x->Q y->gt' (f y) (f x)=gt y x):∀(r l:List α),(∀x∈l,Q x)->(∀x∈r,Q x)->(r.map f).foldl (Dm gt') (l.map f)=(r.foldl (Dm gt) l).map f|[],l,_,_=>rfl|x::r,l,c,b=>by rw[ew,da1,da1,cj8 f x l λy a=>h x y (b x<|cV7 ..)<|c y a];refine fold_map f Q h r _ (λy a=>?_) λy a=>b y<|cV3 _ a;rcases cV6.1 ((EZ gt l x).mem_iff.1 a)with rfl|d;all_goals grind
theorem am7 (a b:List α)(x:α):y3 (a++x::b) (a.length:Int)=some x:=by rw[B3,dc0<|cW6 _,Nat.sub_self];rfl
theorem aT0 (a b:List α)(x z:α):fQ (a++x::b) (a.length:Int) z=some (a++z::b):=by simp[D4]
end
section
variable {cmp:ap3->ap3->Option Int}{gt:ap3->ap3->Bool}{Q:ap3->Prop}
def VD (h:∀x y,Q x->Q y->∃c,cmp x y=some c/\decide (c<0)=gt y x)(x:ap3)(P R:List ap3)(i:∀y∈P,Q y)(hx:Q x)(m:P.length<=1000000):∀j,j<=P.length->o3 (C3 0 cmp) ((j:Int),P.take j++x::(P.drop j++R))=some (.inl ((FZ gt x P j:Int),P.take (FZ gt x P j)++x::(P.drop (FZ gt x P j)++R)))
 |0,_=>by refine j3 ?_;rfl|j+1,q=>by
  have a:j<P.length:=by omega
  have e1:P.take (j+1)=P.take j++[P[j]]:=cd8 a;have e2:P.drop j=P[j]::P.drop (j+1):=bw1 a;have d:(P.take j).length=j:=by rw[cV5];omega
  have k:(P.take j++[P[j]]).length=j+1:=by rw[IT,d];rfl
  obtain⟨c,f,g⟩:=h x P[j] hx<|i _<|al8 a;have d1:P.take (j+1)++x::(P.drop (j+1)++R)=P.take j++P[j]::x::(P.drop (j+1)++R):=by rw[e1,cW5];rfl
  have n:y3 (P.take (j+1)++x::(P.drop (j+1)++R)) ((j+1:Nat):Int)=some x:=by have:=am7 (P.take j++[P[j]]) (P.drop (j+1)++R) x;rw[k]at this;rw[e1];exact this
  have g1:y3 (P.take (j+1)++x::(P.drop (j+1)++R)) (j:Int)=some P[j]:=by have:=am7 (P.take j) (x::(P.drop (j+1)++R)) P[j];rw[d]at this;rw[d1];exact this
  have s0:fQ (P.take (j+1)++x::(P.drop (j+1)++R)) ((j+1:Nat):Int) P[j]=some (P.take j++P[j]::P[j]::(P.drop (j+1)++R)):=by have:=aT0 (P.take j++[P[j]]) (P.drop (j+1)++R) x P[j];rw[k]at this;rw[e1,this,cW5];rfl
  have g2:y3 (P.take j++P[j]::P[j]::(P.drop (j+1)++R)) (j:Int)=some P[j]:=by have:=am7 (P.take j) (P[j]::(P.drop (j+1)++R)) P[j];rw[d]at this;exact this
  have s1:fQ (P.take j++P[j]::P[j]::(P.drop (j+1)++R)) (j:Int) x=some (P.take j++x::(P.drop j++R)):=by have:=aT0 (P.take j) (P[j]::(P.drop (j+1)++R)) P[j] x;rw[d]at this;rw[this,e2];rfl
  have o:H (((j+1:Nat):Int)-1)=(j:Int):=by rw[b6 F F];omega
  have p:decide (((j+1:Nat):Int)>0)=true:=cU0 F;have e:C3 0 cmp (((j+1:Nat):Int),P.take (j+1)++x::(P.drop (j+1)++R))=some (bif gt P[j] x then .inl ((j:Int),P.take j++x::(P.drop j++R))else .inr<|.inl (((j+1:Nat):Int),P.take (j+1)++x::(P.drop (j+1)++R))):=by unfold C3;simp only[p,cT9,o,n,g1,oq,f,g];cases gt P[j] x;rfl;simp only[cT9,s0,g2,s1,oq]
  have b:=aQ3 gt x P a;cases l:gt P[j] x;rw[l]at e b;simp only[cX5,if_false]at b;rw[j3 e,b];rw[l]at e b;simp only[if_true]at b;rw[j7 e,b];exact VD h x P R i hx m j F
def VE (d:∀x y,Q x->Q y->∃c,cmp x y=some c/\decide (c<0)=gt y x)(n:Nat)(j:n<=1000000):∀(R S:List ap3),S.length+R.length=n->(∀y∈S,Q y)->(∀y∈R,Q y)->o3 (A2 0 (n:Int) cmp) ((S.length:Int),S++R)=some (.inl ((n:Int),R.foldl (Dm gt) S))
 |[],S,e,f,_=>by grind [j3,A2]|x::R,S,e,f,g=>by
  rw[cU9]at e;have a:=VD d x S R f (g x<|cV7 ..) F S.length<|cW6 _;rw[cZ0,List.drop_length]at a;have e1:decide ((S.length:Int)<(n:Int))=true:=by simp;omega
  have l:H ((S.length:Int)+1)=((S.length+1:Nat):Int):=by grind [b6]
  have h:Dm gt S x++R=S.take (FZ gt x S S.length)++x::(S.drop (FZ gt x S S.length)++R):=by simp[Dm]
  have k:A2 0 (n:Int) cmp ((S.length:Int),S++x::R)=some (.inl (((S.length+1:Nat):Int),Dm gt S x++R)):=by unfold A2;grind
  rw[j7 k];have i:(Dm gt S x).length=S.length+1:=by rw[(EZ gt S x).length_eq];rfl
  have:=VE d n j R (Dm gt S x) F λy b=>by rcases cV6.1 ((EZ gt S x).mem_iff.1 b)with rfl|m;all_goals grind λy b=>g y<|cV3 _ b;grind
theorem OE (f:∀x y,Q x->Q y->∃c,cmp x y=some c/\decide (c<0)=gt y x)(l:List ap3)(g:l.length<=19)(d:∀y∈l,Q y):C9 l cmp=some (l.foldl (Dm gt) []):=by
 have a:A8 l 0 (l.length:Int) cmp=some (l.foldl (Dm gt) []):=by unfold A8;cases l with|nil=>rw[j3 (b:=.inl (1,[]))];all_goals rfl|cons x R=>have:=VE f (x::R).length F R [x] (by simp;omega) (λy e=>d y gq) λy e=>d y<|cV3 _ e;rw[show H (0+1)=(([x].length:Nat):Int)from rfl];rw[show x::R=[x]++R from rfl]at this|-;rw[this];rfl
 unfold C9 K5;rw[j3 (b:=.inl (0,20,l))<|by grind [O7]];simp only[oq];rw[a];simp only[oq];rw[j3 (b:=.inl (20,l.foldl (Dm gt) []))<|by grind [O8]];rfl
end
def Wu (begin:Int)(y x:j8):Bool:=decide<|dst begin x.q7<dst begin y.q7\/dst begin x.q7=dst begin y.q7/\yE x<yE y
def Zl (begin:Int)(l:List j8):List j8:=l.foldl (Dm<|Wu begin) []
def WA (begin:Int)(x:j8):ap3:=⟨x,dst begin x.q7⟩
def DM (begin:Int)(x:j8):k6:=⟨x,dst begin x.q7,false,0⟩
def OA (begin:Int)(l:List j8):(Zl begin l).Perm l:=by grind [Yv,Zl]
theorem Va {x:j8}(h:Ev.Kq x):gu x=some (yE x)/\aI x=some (yE x):=by have:=Ke (n:=8) (j:=⟨x,0,false,0⟩) ⟨h.2.2.1,h.2.1,h.1,h.2.2.2,by simp,.inr rfl⟩ F;exact this
theorem cz6 (a b:Int):wz [a,b]=some (bif a !=0 then a else b):=by unfold wz Q;rw[B5 _ sq];grind [F0,Bv,Q]
theorem cm2 (begin:Int)(x y:j8)(hx:Ev.Kq x)(e:Ev.Kq y):∃c,nq (WA begin x) (WA begin y)=some c/\decide (c<0)=Wu begin y x:=by unfold nq WA Q;simp only[Yh,(Va hx).1,(Va e).1,oq,cz6];refine⟨_,rfl,?_⟩;unfold Wu;rw[decide_eq_decide];rcases AE (dst begin x.q7) (dst begin y.q7)with⟨a,b⟩|⟨a,b⟩|⟨a,b⟩;grind;rw[b];rcases AE (yE x) (yE y)with⟨c,d⟩|⟨c,d⟩|⟨c,d⟩<;>rw[d]<;>simp<;>omega;grind
theorem bV1 (begin:Int)(l:List j8)(c:l.length<=19)(d:∀x∈l,Ev.Kq x):C9 (l.map<|WA begin) nq=some ((Zl begin l).map<|WA begin):=by
 have e:∀p:ap3,(∃x,Ev.Kq x/\p=WA begin x)->p=WA begin p.x:=by rintro p ⟨x,_,rfl⟩;rfl
 rw[OE (gt:=λq p=>Wu begin q.x p.x) (Q:=λp=>∃x,Ev.Kq x/\p=WA begin x) (λp q ⟨x,hx,ex⟩⟨y,a,b⟩=>by subst ex b;exact cm2 begin x y hx a) _ gq λp hp=>by grind];have:=fold_map (WA begin) (gt:=Wu begin) (gt':=λq p=>Wu begin q.x p.x) (λ_=>True) (λ_ _ _ _=>rfl) l [] (λ_ _=>trivial) λ_ _=>trivial;rw[db6]at this;rw[this];rfl
def ZN (begin:Int)(x:j8)(hx:Ev.Kq x)(l:List j8)(e:l.length<=1000000)(c:∀y∈l,Ev.Kq y)(i:Int):∀k,k<=l.length->o3 (bJ (l.map<|DM begin,i) (x,dst begin x.q7)) (k:Int)=some (.inl (FZ (Wu begin) x l k:Int))
 |0,_=>by refine j3 ?_;rfl|k+1,hk=>by
  have a:k<l.length:=by omega
  have f:=c _<|al8 a;have h:H (((k+1:Nat):Int)-1)=(k:Int):=by grind [b6]
  have j:decide (((k+1:Nat):Int)>0)=true:=cU0 F;have g:y3 (l.map<|DM begin) (k:Int)=some (DM begin l[k]):=by rw[B3,bg5,IN a];rfl
  have d:bJ (l.map<|DM begin,i) (x,dst begin x.q7) ((k+1:Nat):Int)=some (bif Wu begin l[k] x then .inl (k:Int)else .inr<|.inl ((k+1:Nat):Int)):=by unfold bJ;simp only[j,cT9,h,g,oq];unfold DM Wu;simp only[(Va hx).2,(Va f).2,oq];grind
  have b:=aQ3 (Wu begin) x l a;cases m:Wu begin l[k] x;simp_all[j3];rw[m]at d b;simp only[if_true]at b;rw[j7 d,b];exact ZN begin x hx l e c i k F
def bB4 (begin:Int)(r2:List j8×Int)(b:Eh begin=true)(S:List j8)(i:Nat)(hi:i<r2.1.length)(g:r2.1.length<=1000)(h:S.length<=1000)(c:∀y∈S,Ev.Kq y)(hx:Ev.Kq r2.1[i]):T9 r2 begin (S.map<|DM begin,(i:Int))=some (.inl ((Dm (Wu begin) S r2.1[i]).map<|DM begin,((i+1:Nat):Int))):=by
 have d:decide ((i:Int)<(r2.1.length:Int))=true:=by simp;omega
 have e:Eh r2.1[i].q7=true:=oX.2 hx.1;have hp:=bo4 (Wu begin) r2.1[i] S S.length;have a:=ZN begin r2.1[i] hx S F c (i:Int) S.length<|cW6 _;have f:H ((i:Int)+1)=((i+1:Nat):Int):=by grind [b6]
 unfold T9;simp only[d,cT9,j2 _ _ hi,oq,ZB b e,cW2,a];have s1:U4 (S.map<|DM begin) 0 (FZ (Wu begin) r2.1[i] S S.length:Int)=some ((S.map<|DM begin).take<|FZ (Wu begin) r2.1[i] S S.length):=by simp_all[U4]
 have s2:U4 (S.map<|DM begin) (FZ (Wu begin) r2.1[i] S S.length:Int) (S.length:Int)=some ((S.map<|DM begin).drop<|FZ (Wu begin) r2.1[i] S S.length):=by simp_all[U4,List.take_of_length_le]
 have lt:((S.map<|DM begin).take<|FZ (Wu begin) r2.1[i] S S.length).length<=1000:=by grind
 have j:((S.map<|DM begin).drop<|FZ (Wu begin) r2.1[i] S S.length).length<=1000:=by grind
 rw[s1];simp only[oq];rw[l5 _ _<|by simp only[cX0];omega];simp only[oq,wS];rw[l5 _ _<|by simp only[cU9,cX0];omega];simp only[oq];rw[s2];simp only[oq];rw[l5 _ _<|by simp only[IT,cU9,cX0];omega];simp only[oq,f];unfold Dm;rw[dc9,ew,List.map_take,List.map_drop,cW5];rfl
def aq0 (begin:Int)(r2:List j8×Int)(d:Eh begin=true)(j:r2.1.length<=100)(e:∀y∈r2.1,Ev.Kq y):∀(R S:List j8)(i:Nat),r2.1.drop i=R->i+R.length=r2.1.length->S.length=i->(∀y∈S,Ev.Kq y)->o3 (T9 r2 begin) (S.map<|DM begin,(i:Int))=some (.inl ((R.foldl (Dm<|Wu begin) S).map<|DM begin,(r2.1.length:Int)))
 |[],S,i,f,hi,b,g=>by grind [j3,T9]|x::R,S,i,f,hi,b,g=>by
  rw[cU9]at hi;have a:i<r2.1.length:=by omega
  have hx:r2.1[i]=x:=by grind [cX6]
  have c:r2.1.drop (i+1)=R:=by rw[<-bT3,f];rfl
  have st:=bB4 begin r2 d S i a F F g<|e _<|al8 a;rw[j7 st,hx];have h:(Dm (Wu begin) S x).length=S.length+1:=by rw[(EZ (Wu begin) S x).length_eq];rfl
  refine aq0 begin r2 d j e R (Dm (Wu begin) S x) (i+1) c F F λy k=>?_;rcases cV6.1 ((EZ (Wu begin) S x).mem_iff.1 k)with rfl|l;all_goals grind
def av3 {e:j5}(h:R5 e){c:Int}(a:c∈e.ai9):1<=c/\c<=(e.ai9.length:Int):=h.2.2.2.2.1 c a
def av5 {e:j5}{f:o9}{t:Int}(a:R5 e)(b:jQ e f):∀x∈evs e t f,Ev.Kq x/\x.h8=f.h8:=by
 intro x hx;unfold evs at hx;obtain⟨o,c,rfl⟩:=cX3.1 hx;have d:=av3 a b.1;have g:=a.2.1;have hk:(1<=o.2.1/\o.2.1<=4)/\0<=o.2.2/\o.2.2<=2:=by unfold bd7 at c;grind
 refine⟨⟨?_,hk.1,?_,hk.2⟩,rfl⟩;all_goals grind [evF]
def kp (x:j8):Int×Int:=(x.Kind,x.O1)
def cr6 (k:Int×Int):Bool:=k.1==1||k.1==2
def cb8 (k:Int×Int):Bool:=k.1==3||k.1==4
def Vd:List<|Int×Int:=[(2,0),(1,0)]
def Bt (n:Int):List<|Int×Int:=(bif decide<|n>0then [(4,1),(3,1)]else[])++bif decide<|n>1then [(3,2),(4,2)]else[]
theorem cw7 (e:j5)(f:o9)(t:Int):(evs e t f).map kp=Vd++Bt (pul f):=by unfold evs;rw[List.map_map];rcases yg f with h|h|h<;>(unfold bd7;rw[h];rfl)
def YI (begin:Int):List j8->Int->Bool|[],_=>true|x::r,last=>decide (last<dst begin x.q7)&&YI begin r (dst begin x.q7)
def kpP (a b:Int):List (Int×Int)->Int->Int->Bool|[],_,_=>true|x::r,p,k=>x.1==k&&decide (p<=x.2)&&kpP a b r x.2 (a+b-k)
def kpR (c:Nat):List (Int×Int)->Nat->Bool|[],_=>true|x::r,i=>EJ x.1==(i%2==0)&&x.2==(if c=0 then 0 else((i/2+1:Nat):Int))&&kpR c r (i+1)
def QQ (begin a b:Int):∀(l:List j8)(i last p k:Int),k=a\/k=b->0<=a/\a<=10->0<=b/\b<=10->((YI begin (l.filter λx=>x.Kind==a||x.Kind==b) last&&kpP a b ((l.filter λx=>x.Kind==a||x.Kind==b).map kp) p k)=true/\∃s,F0 (W0 (a,b)) (l.map<|WA begin) i (last,p,k)=some (.inl s))\/(YI begin (l.filter λx=>x.Kind==a||x.Kind==b) last&&kpP a b ((l.filter λx=>x.Kind==a||x.Kind==b).map kp) p k)=false/\F0 (W0 (a,b)) (l.map<|WA begin) i (last,p,k)=some (.inr ([],false))
 |[],i,last,p,k,_,_,_=>.inl ⟨rfl,_,rfl⟩|x::l,i,last,p,k,hk,e,f=>by
  have j:=λi last p k hk=>QQ begin a b l i last p k hk e f;simp only[ew,F0];have g:H (H (a+b)-k)=a+b-k:=by grind [b6]
  cases d:x.Kind==a||x.Kind==b;rw[cM5<|by simp[d]];have h1:(x.Kind !=a&&x.Kind !=b)=true:=by grind
  have c:W0 (a,b) i (WA begin x) (last,p,k)=some (.next (last,p,k)):=by unfold W0 WA;grind
  grind;rw[dd7<|by simp[d]];have h1:(x.Kind !=a&&x.Kind !=b)=false:=by grind
  have c:W0 (a,b) i (WA begin x) (last,p,k)=some (bif x.Kind !=k||decide (dst begin x.q7<=last)||decide (x.O1<p)then .ret ([],false)else .next (dst begin x.q7,x.O1,a+b-k)):=by unfold W0 WA;simp only[h1,cT8,g];exact Ll ..
  rw[c];have h:(x.Kind !=k||decide (dst begin x.q7<=last)||decide (x.O1<p))=!(decide (last<dst begin x.q7)&&(x.Kind==k&&decide (p<=x.O1))):=by rw[show decide (dst begin x.q7<=last)=!decide (last<dst begin x.q7)by rw[<-decide_not];exact decide_eq_decide.2 F,show decide (x.O1<p)=!decide (p<=x.O1)by rw[<-decide_not];exact decide_eq_decide.2 F];unfold bne;cases x.Kind==k<;>cases decide<|last<dst begin x.q7<;>cases decide<|p<=x.O1<;>rfl
  rw[h];simp only[YI,ew,kpP,kp];grind
theorem UF (begin:Int)(c:Nat)(l:List j8)(o:l.length<=1000):∀(r:List j8)(i:Nat)(last:Int),l.drop i=r->i<=l.length->(i=0->last=-1)->(∀y,i≠0->l[i-1]?=some y->last=dst begin y.q7)->o3 (U0 (c:Int)<|l.map<|DM begin) (i:Int)=some (bif YI begin r last&&kpR c (r.map kp) i then .inl (l.length:Int)else .inr [])
 |[],i,last,g,hi,_,_=>by grind [de7,j3,U0,YI,kpR]|x::r,i,last,g,hi,h0,h1=>by
  have hx:l[i]?=some x:=by rw[<-cX6,g];rfl
  have q:=(No.1 hx).1;have h:l.drop (i+1)=r:=by rw[<-bT3,g];rfl
  have s:decide ((i:Int)<(((l.map<|DM begin).length:Nat):Int))=true:=by grind
  have t:H ((i:Int)+1)=((i+1:Nat):Int):=by grind [b6]
  have u:y3 (l.map<|DM begin) (i:Int)=some (DM begin x):=by rw[B3,bg5,hx];rfl
  have j:(i:Int).tdiv 2=((i/2:Nat):Int):=by rfl
  have k:((i:Int).tmod 2==0)=(i%2==0):=by grind
  have v:(tI (bif (c:Int)==0then some (0:Int)else some<|H<|H ((i:Int).tdiv 2)+1) λp=>some p)=some (if c=0 then 0 else((i/2+1:Nat):Int)):=by by_cases w:c=0;grind;rw[if_neg w,show((c:Int)==0)=false from beq_eq_false_iff_ne.2 F,j,b6 (n:=((i/2:Nat):Int)) F F,b6 F F];rfl
  have d:(bif (c:Int)==0then some (0:Int)else some<|H<|H ((i:Int).tdiv 2)+1)=some (if c=0 then 0 else((i/2+1:Nat):Int)):=by grind
  have a:(bif decide<|(i:Int)>0then tI (y3 (l.map<|DM begin)<|H<|(i:Int)-1) λz=>some<|decide ((DM begin x).Left<=z.Left)else some false)=some !decide (last<dst begin x.q7):=by
   by_cases e:i=0;subst e;rw[h0 rfl];have:0<=dst begin x.q7:=by unfold dst;omega
   rw[cU0<|show(-1:Int)<dst begin x.q7 by omega];rfl;have hp:l[i-1]?=some l[i-1]:=IN F;have b:=h1 _ e hp;rw[cU0<|show(i:Int)>0 by omega,show H ((i:Int)-1)=((i-1:Nat):Int)by rw[b6 F F];omega,B3,bg5,hp];simp only[cT9,cW3,oq,DM,AI];rw[b,<-decide_not];exact decide_eq_decide.2 F
  have f:U0 (c:Int) (l.map<|DM begin) (i:Int)=some (bif decide (last<dst begin x.q7)&&(EJ x.Kind==(i%2==0)&&x.O1==if c=0 then 0 else((i/2+1:Nat):Int))then .inl ((i+1:Nat):Int)else .inr<|.inr []):=by unfold U0;rw[s,d];simp only[cT9,oq,u,fP,t,k,a,Q];show tI (bif !EJ x.Kind==(i%2==0)then _ else bif x.O1 !=_ then _ else _) _=_;cases EJ x.Kind==(i%2==0);simp;unfold bne;cases x.O1==if c=0 then 0 else((i/2+1:Nat):Int);simp;cases decide<|last<dst begin x.q7<;>simp
  simp only[YI,ew,kpR,kp];cases hz:decide (last<dst begin x.q7)&&(EJ x.Kind==(i%2==0)&&x.O1==if c=0 then 0 else((i/2+1:Nat):Int));rw[hz]at f;rw[j3 f];cases A:decide<|last<dst begin x.q7;rfl;rw[A,cV0]at hz;rw[hz];simp;rw[hz]at f;rw[j7 f];simp only[BY]at hz;rw[UF begin c l o r (i+1) (dst begin x.q7) h F F λy _ m=>by rw[show i+1-1=i from rfl,hx]at m;rw[oa m],hz.1,hz.2.1,hz.2.2];rfl
theorem bn3:∀{l:List<|Int×Int},l.Perm Vd->kpP 1 2 l 0 1=kpR 0 l 0:=by intro l h;have c:∀x∈l,x∈Vd:=λx hx=>h.mem_iff.1 hx;have d:=h.length_eq;match l,d with
 |[a,b],_=>
  have e:=c a sq;have f:=c b sq;revert h;have key:∀a∈Vd,∀b∈Vd,kpP 1 2 [a,b] 0 1=kpR 0 [a,b] 0:=by decide
  grind
theorem aN1 (n:Int)(j:n=0\/n=1\/n=2):∀{l:List<|Int×Int},l.Perm (Bt n)->kpP 3 4 l 0 3=kpR 1 l 0:=by
 intro l h;have e:∀x∈l,x∈Bt n:=λx hx=>h.mem_iff.1 hx;have f:=h.length_eq;rcases j with rfl|rfl|rfl;have:l=[]:=List.eq_nil_of_length_eq_zero (by rw[f];rfl);subst this;rfl;match l,f with
 |[a,b],_=>
  have g:=e a sq;have i:=e b sq;have key:∀a∈Bt 1,∀b∈Bt 1,kpP 3 4 [a,b] 0 3=kpR 1 [a,b] 0:=by decide
  grind
 match l,f with
 |[a,b,c,d],_=>
  have g:=e a sq;have i:=e b sq;have k:=e c sq;have m:=e d sq;have key:∀a∈Bt 2,∀b∈Bt 2,∀c∈Bt 2,∀d∈Bt 2,[a,b,c,d].isPerm (Bt 2)=true->kpP 3 4 [a,b,c,d] 0 3=kpR 1 [a,b,c,d] 0:=by decide
  exact key a g b i c k d m<|List.isPerm_iff.2 h
def Jw (e:j5)(c:Int):Int:=(cen e c+5760)%46080
theorem WL (e:j5)(c:Int):Eh (Jw e c)=true:=by grind [Jw,oX]
theorem aF8 (e:j5)(c:Int):uk (H<|cen e c+5760) 46080=Jw e c:=by have:=TV e c;rw[b6 F F,aW6 F];rfl
theorem ap5 {e:j5}{c:Int}(h:R5 e)(a:c∈e.ai9):iD e c=some (Jw e c):=by grind [iD,Q,Zy,aF8]
def isC (x:j8):Bool:=x.Kind==1||x.Kind==2
def isV (x:j8):Bool:=x.Kind==3||x.Kind==4
def ae8 (begin:Int)(W:List j8):Bool:=YI begin (W.filter isC) (-1)&&kpP 1 2 ((W.filter isC).map kp) 0 1&&(YI begin (W.filter isV) (-1)&&kpP 3 4 ((W.filter isV).map kp) 0 3)
def WH (e:j5)(f:o9)(begin t:Int):List j8:=bif (lO e [f] t).2!=0 then[]else bif ae8 begin<|Zl begin (lO e [f] t).1then Zl begin (lO e [f] t).1 else[]
def Xa {e:j5}{f:o9}{t:Int}(a:R5 e)(g:jQ e f)(h:((lO e [f] t).2!=0)=false):(lO e [f] t).1.Perm<|evs e t f:=by
 unfold lO at h|-;rw[cU0 a]at h|-;simp only[AT,cT8]at h|-;cases h1:aF7 e [f]<;>rw[h1]at h
 ·simp only[cT8]at h|-;cases b:!ar2 t<;>rw[b]at h
  ·simp only[cT8]at h|-;cases c:bv7 [f]<;>rw[c]at h;·simp only[cT8]at h|-;cases d:[f].any<|Uw t<;>rw[d]at h;all_goals simp_all[aT5]
   ·simp at h
  ·simp at h
 ·simp at h
theorem Zs (begin:Int)(b:Eh begin=true):∀(l:List j8)(i:Int)(out:List ap3),(∀x∈l,Ev.Kq x)->out.length+l.length<=1000->F0 (lA begin) l i out=some (.inl<|out++l.map (WA begin))
 |[],i,out,_,_=>by simp[F0]|x::l,i,out,h,c=>by
  rw[cU9]at c;have hx:=h x<|cV7 ..;have a:lA begin i x out=some (.next<|out++[WA begin x]):=by unfold lA;rw[av2 b<|oX.2 hx.1];simp only[oq];rw[l5 _ _ gq];rfl
  simp only[F0,a,oq];rw[Zs begin b l (i+1) _ (λy d=>h y<|cV3 _ d)<|by simp only[IT,cU9,cX0];omega];simp
theorem cv8 (begin:Int)(W:List j8)(g:W.length<=1000):o3 (Q7<|W.map<|WA begin) 0=some (bif ae8 begin W then .inl 2 else .inr ([],false)):=by
 have h:(W.map<|WA begin).length<=1000:=by grind
 have k0:=QQ begin 1 2 W 0 (-1) 0 1 (.inl rfl) F F;have k1:=QQ begin 3 4 W 0 (-1) 0 3 (.inl rfl) F F;have f0:λx:j8=>x.Kind==1||x.Kind==2=isC:=rfl;have f1:λx:j8=>x.Kind==3||x.Kind==4=isV:=rfl;rw[f0]at k0;rw[f1]at k1;unfold ae8;rcases k0 with⟨a,s,b⟩|⟨a,b⟩;rw[a];have e:Q7 (W.map<|WA begin) 0=some (.inl 1):=by unfold Q7;rw[show y3 ([(1,2),(3,4)]:List<|Int×Int) 0=some (1,2)from rfl];simp only[show decide ((0:Int)<2)=true from rfl,cT9,oq];rw[B5 _ F,b];rfl
 rw[j7 e];rcases k1 with⟨c,s',d⟩|⟨c,d⟩;rw[c];have f:Q7 (W.map<|WA begin) 1=some (.inl 2):=by unfold Q7;rw[show y3 ([(1,2),(3,4)]:List<|Int×Int) 1=some (3,4)from rfl];simp only[show decide ((1:Int)<2)=true from rfl,cT9,oq];rw[B5 _ F,d];rfl
 rw[j7 f];exact j3 rfl;rw[c];refine j3 ?_;unfold Q7;rw[show y3 ([(1,2),(3,4)]:List<|Int×Int) 1=some (3,4)from rfl];simp only[show decide ((1:Int)<2)=true from rfl,cT9,oq];grind [B5];rw[a];refine j3 ?_;unfold Q7;rw[show y3 ([(1,2),(3,4)]:List<|Int×Int) 0=some (1,2)from rfl];simp only[show decide ((0:Int)<2)=true from rfl,cT9,oq];grind [B5]
def bZ0 {e:j5}{f:o9}{begin t:Int}(a:R5 e)(c:jQ e f)(i:Eh begin=true):∃b,sI e f begin t=some ((WH e f begin t).map<|WA begin,b)/\(b=false->WH e f begin t=[]):=by
 unfold sI WH;rw[cm5 e [f] t sq];simp only[oq];cases h:(lO e [f] t).2!=0;·have hp:=Xa a c h;have d:=hp.length_eq;have k:=Oi e t f;have g:∀x∈(lO e [f] t).1,Ev.Kq x:=λx hx=>(av5 a c x<|hp.mem_iff.1 hx).1;have j:=(OA begin (lO e [f] t).1).length_eq;simp only[cT8];rw[B5 _ F,Zs begin i _ 0 [] g gq];simp only[oq,wS];rw[bV1 begin _ F g];simp only[oq];rw[cv8 begin _ F];cases ae8 begin<|Zl begin (lO e [f] t).1;all_goals simp
 simp
theorem ct6 (l:List k6)(c:Int):iG l c=pz l c:=rfl
theorem bn7 (begin:Int)(W:List j8)(c:Int):K9 (W.map<|DM begin) c=(W.filter λx=>yE x==c).map (DM begin):=by unfold K9;rw[cP5];rfl
def aL5 {W:List j8}{cyl:Int}(h:∀x∈W,Ev.Kq x/\x.h8=cyl):W.filter λx=>yE x==2*(cyl-1)=W.filter isC/\W.filter λx=>yE x==2*(cyl-1)+1=W.filter isV:=by constructor;refine List.filter_congr λx hx=>?_;obtain⟨hk,a⟩:=h x hx;unfold yE isC;rw[a];have:=hk.2.1;grind;refine List.filter_congr λx hx=>?_;obtain⟨hk,a⟩:=h x hx;unfold yE isV;grind
theorem an9 {e:j5}{f:o9}{t:Int}{W:List j8}(hp:W.Perm<|evs e t f):((W.filter isC).map kp).Perm Vd/\((W.filter isV).map kp).Perm (Bt<|pul f):=by
 have a:(W.map kp).Perm<|Vd++Bt (pul f):=by rw[<-cw7 e f t];exact hp.map kp
 have c1:(W.filter isC).map kp=(W.map kp).filter cr6:=by rw[cP5];rfl
 have c2:(W.filter isV).map kp=(W.map kp).filter cb8:=by rw[cP5];rfl
 rw[c1,c2];constructor;refine(a.filter cr6).trans ?_;rcases yg f with h|h|h<;>(rw[h];exact List.Perm.refl _);refine(a.filter cb8).trans ?_;rcases yg f with h|h|h<;>(rw[h];exact List.Perm.refl _)
theorem cn0 {begin:Int}{f:o9}{W:List j8}(i:Int)(g:W.length<=1000)(k:∀x∈W,Ev.Kq x/\x.h8=f.h8)(q:1<=f.h8/\f.h8<=8)(hk:((W.filter isC).map kp).Perm Vd/\((W.filter isV).map kp).Perm (Bt<|pul f)):o3 (H7 f (W.map<|DM begin,i)) 0=some (bif ae8 begin W then .inl 2 else .inr []):=by
 have c:∀j∈W.map<|DM begin,cI 8 j:=by intro j c;obtain⟨x,hx,rfl⟩:=cX3.1 c;obtain⟨h1,r⟩:=k x hx;exact⟨h1.2.2.1,h1.2.1,h1.1,h1.2.2.2,by grind [DM,dst],.inr rfl⟩
 have w0:H (H (2*H (f.h8-1))+0)=2*(f.h8-1):=by grind [b6]
 have m:H (H (2*H (f.h8-1))+1)=2*(f.h8-1)+1:=by grind [b6]
 have fl:=aL5 k;have n:(W.filter isC).length<=1000:=cw2 (cD8 ..) g;have o:(W.filter isV).length<=1000:=cw2 (cD8 ..) g;have p:iG (W.map<|DM begin) (H<|H (2*H (f.h8-1))+0)=some ((W.filter isC).map<|DM begin):=by rw[ct6,w0,of_eq _ _ 8 F gq c,bn7,fl.1]
 have l:iG (W.map<|DM begin) (H<|H (2*H (f.h8-1))+1)=some ((W.filter isV).map<|DM begin):=by rw[ct6,m,of_eq _ _ 8 F gq c,bn7,fl.2]
 have r0:=UF begin 0 (W.filter isC) n (W.filter isC) 0 (-1) rfl F (λ_=>rfl) λy h=>absurd rfl h;have r1:=UF begin 1 (W.filter isV) o (W.filter isV) 0 (-1) rfl F (λ_=>rfl) λy h=>absurd rfl h;rw[show((0:Nat):Int)=0 from rfl]at r0 r1;rw[show((1:Nat):Int)=1 from rfl]at r1;unfold ae8;rw[bn3 hk.1,aN1 (pul f) (yg f) hk.2];cases a:YI begin (W.filter isC) (-1)&&kpR 0 ((W.filter isC).map kp) 0;rw[a]at r0;refine j3 ?_;unfold H7;grind;rw[a]at r0;have d:H7 f (W.map<|DM begin,i) 0=some (.inl 1):=by unfold H7;rw[p];simp only[show decide ((0:Int)<2)=true from rfl,cT9,oq];rw[r0];rfl
 rw[j7 d];cases b:YI begin (W.filter isV) (-1)&&kpR 1 ((W.filter isV).map kp) 0;rw[b]at r1;refine j3 ?_;unfold H7;rw[l];simp only[show decide ((1:Int)<2)=true from rfl,cT9,oq];rw[r1];rfl;rw[b]at r1;have e:H7 f (W.map<|DM begin,i) 1=some (.inl 2):=by unfold H7;rw[l];simp only[show decide ((1:Int)<2)=true from rfl,cT9,oq];rw[r1];rfl
 rw[j7 e];exact j3 rfl
theorem bg4 {e:j5}{f:o9}{t:Int}(b:R5 e)(c:jQ e f):gp e f t=some ((WH e f (Jw e f.h8) t).map<|DM<|Jw e f.h8):=by unfold gp WH;rw[bW8 e [f] t sq b];simp only[oq];cases h:(lO e [f] t).2!=0;have hp:=Xa b c h;have d:=hp.length_eq;have l:=Oi e t f;have g:=λx hx=>av5 b c x<|hp.mem_iff.1 hx;have a:=OA (Jw e f.h8) (lO e [f] t).1;have j:=a.length_eq;have m:=b.2.1;have k:=av3 b c.1;simp only[cT8];rw[ap5 b c.1];simp only[oq];have i:=aq0 (Jw e f.h8) (lO e [f] t) (WL ..) F (λx hx=>(g x hx).1) (lO e [f] t).1 [] 0 rfl sq rfl sq;rw[db6,show((0:Nat):Int)=0 from rfl]at i;rw[i];simp only[oq];rw[show(lO e [f] t).1.foldl (Dm<|Wu<|Jw e f.h8) []=Zl (Jw e f.h8) (lO e [f] t).1 from rfl];rw[cn0 _ F (λx hx=>g x<|a.mem_iff.1 hx) F<|an9<|a.trans hp];grind;rfl
def VQ (c:A1):Int:=upV (23040*c.q8) c.I9
theorem ca7 {c:A1}(h:Aj c)(a:c.F8=true)(b:AD c=true):GM c 23040=some (VQ c,0):=by have h1:=h.p0;have d:=h.p1;have e:=h.s0;have f:=h.s1;unfold GM UX Q;rw[aZ9,b,a];simp only[oq,AT,cT8];rw[show((0:Int)!=0)=false from rfl,show(decide ((23040:Int)<0)||decide ((23040:Int)>46080))=false from rfl];simp only[cT8];rw[b6 F F];unfold aF1 Ii Q;rw[Oy _ _ 2 F F F F<|.inr rfl];rfl
theorem bC3 {c:A1}(h:Aj c):pA (H<|23040*c.q8) c.I9=some (VQ c):=by have h1:=h.p0;have a:=h.p1;have b:=h.s0;have d:=h.s1;rw[b6 F F];exact bX4 _ _ F F F F
theorem Fg {e:j5}{l:List o9}(h:lC e l=true):∀f∈l,jQ e f:=by intro f a;obtain⟨i,hi,rfl⟩:=Kz.1 a;have:=JG.1 h i hi;simp_all[Rj]
def UR {e:j5}{l:List o9}(h:lC e l=true):l.Pairwise λa b=>a.h8≠b.h8:=by rw[dd5];intro i j hi c d;have:=JG.1 h j c;unfold Rj at this;rw[IN c]at this;simp only[BY,nW,List.any_eq_false,beq_iff_eq]at this;refine this.2 l[i] ?_;rw[List.mem_take_iff_getElem];grind
theorem filter_none {c:Int}:∀{l:List o9},(∀y∈l,y.h8≠c)->l.filter λf=>f.h8==c=[]:=by simp
def Si (c:Int):∀{l:List o9},(l.Pairwise λa b=>a.h8≠b.h8)->l.findIdx? λf=>f.h8==c=none/\l.filter λf=>f.h8==c=[]\/∃k f,l.findIdx? λf=>f.h8==c=some k/\k<l.length/\l[k]?=some f/\f.h8=c/\l.filter λf=>f.h8==c=[f]
 |[],_=>.inl ⟨rfl,rfl⟩|x::l,h=>by
  rw[ba8]at h;rw[cT4];cases hx:x.h8==c;·rw[cM5<|by simp[hx]];simp only[cX5,if_false];rcases Si c h.2 with⟨a,b⟩|⟨k,f,a,b,d,e,g⟩;all_goals simp_all
  ·rw[dd7<|by simp[hx]];simp only[if_true];have i:x.h8=c:=beq_iff_eq.1 hx;exact .inr ⟨0,x,rfl,by simp,rfl,i,by rw[filter_none λy j=>by grind]⟩
theorem bP8 (l:List o9)(b:l.length<=1000000)(c:Int):O0 l (λa=>lz a c)=some (match l.findIdx? λf=>f.h8==c with|some k=>(k:Int)|none=>-1):=by unfold O0 cH;rw[yi l F λ(i:Int)x (_:Unit)=>tI (lz x c) λv=>bif v then some (Fl.ret i)else some<|Fl.next ()];have:=Kt (λx=>lz x c) (λf:o9=>f.h8==c) l 0 λ_ _=>rfl;grind
def WG (v begin:Int)(x:j8):k6:=⟨x,v+dst begin x.q7,false,0⟩
def Xr (e:j5)(v t:Int)(f:o9):List k6:=(WH e f (Jw e f.h8) t).map<|WG v<|Jw e f.h8
def Ih (e:j5)(k:A1)(next:List o9)(t x:Int):List k6:=bif decide (dst k.q7 (Jw e x)>=k.K6)then[]else(next.filter λf=>f.h8==x).flatMap<|Xr e (dst k.q7<|Jw e x) t
theorem Ob {e:j5}{f:o9}{begin t:Int}(b:R5 e)(c:jQ e f):(WH e f begin t).length<=6/\∀x∈WH e f begin t,Ev.Kq x/\x.h8=f.h8:=by unfold WH;cases h:(lO e [f] t).2!=0;have hp:=Xa b c h;have a:=(OA begin (lO e [f] t).1).trans hp;have d:=Oi e t f;simp only[cT8];cases ae8 begin<|Zl begin (lO e [f] t).1;simp;refine⟨by rw[cT9,a.length_eq];exact d,λx hx=>av5 (t:=t) b c x<|a.mem_iff.1 hx⟩;simp
theorem Xy (v begin:Int)(b:0<=v/\v<=46080):∀(W:List j8)(i:Int)(out:List k6),out.length+W.length<=100000->F0 (iL v) (W.map<|WA begin) i out=some (.inl<|out++W.map (WG v begin))
 |[],i,out,_=>by simp[F0]|x::W,i,out,c=>by
  rw[cU9]at c;have d:0<=dst begin x.q7/\dst begin x.q7<46080:=by grind [dst]
  have a:iL v i (WA begin x) out=some (.next<|out++[WG v begin x]):=by unfold iL WA;simp only;rw[l5 _ _ gq,b6 F F];rfl
  simp only[ew,F0,a,oq];rw[Xy v begin b W (i+1) _<|by simp only[IT,cU9,cX0];omega];simp
theorem aY0 {s:a7}{r2:Int×Int}(c:R5 s.h9)(hk:Aj s.k7)(h:lC s.h9 s.Next=true)(l:s.Next.length<=1000000)(i x:Int)(hx:x∈s.h9.ai9)(out:List k6)(p:out.length<=10000):iK s r2 i x out=some (.next<|out++Ih s.h9 s.k7 s.Next r2.1 x):=by
 have m:Eh s.k7.q7=true:=oX.2 ⟨hk.an0,hk.an1⟩;unfold iK;rw[br9,cU0 c,cU0 hx];simp only[AT,cT8,oq,aF8];rw[av2 m<|WL ..,bP8 _ l];simp only[oq];unfold Ih;cases q:decide<|dst s.k7.q7 (Jw s.h9 x)>=s.k7.K6;have n:0<=dst s.k7.q7 (Jw s.h9 x)/\dst s.k7.q7 (Jw s.h9 x)<=46080:=by grind [dst]
 rcases Si x (UR h)with⟨a,b⟩|⟨k,f,a,b,d,e,g⟩;grind;have j:=Fg h f<|bX3 d;obtain⟨ok,p1,p2⟩:=bZ0 (t:=r2.1) c j<|WL s.h9 x;have o:=Ob (begin:=Jw s.h9 x) (t:=r2.1) c j;rw[a,g];simp only[db8,show decide (((k:Nat):Int)<0)=false from cU1 F,cT8,B3,d,oq];rw[p1];simp only[oq,de2,List.flatMap_nil,iy];unfold Xr;rw[e];cases ok;grind;simp only[AT,cT8];rw[B5 _ gq,Xy _ _ n _ _ _ F];rfl;simp
theorem ak3 {s:a7}{r2:Int×Int}(j:R5 s.h9)(hk:Aj s.k7)(c:lC s.h9 s.Next=true)(m:s.Next.length<=1000000):∀(l:List Int)(i:Int)(out:List k6),(∀x∈l,x∈s.h9.ai9)->out.length+6*l.length<=10000->F0 (iK s r2) l i out=some (.inl<|out++l.flatMap (Ih s.h9 s.k7 s.Next r2.1))
 |[],i,out,_,_=>by simp[F0]|x::l,i,out,h,n=>by
  rw[cU9]at n;have hx:=h x<|cV7 ..;have o:(Ih s.h9 s.k7 s.Next r2.1 x).length<=6:=by unfold Ih;cases decide<|dst s.k7.q7 (Jw s.h9 x)>=s.k7.K6;rcases Si x (UR c)with⟨a,b⟩|⟨k,f,a,b,d,e,g⟩;rw[b];simp;have q:=Fg c f<|bX3 d;simp_all[Xr,Ob];simp
  simp only[F0,aY0 j hk c m i x hx out F,oq];rw[ak3 j hk c m l (i+1) _ (λy p=>h y<|cV3 _ p)<|by rw[IT];omega];rw[de2,cW5]
theorem Ik {s:a7}(a:R5 s.h9)(hk:Aj s.k7)(b:s.k7.F8=true)(c:AD s.k7=true)(d:lC s.h9 s.Next=true)(e:s.Next.length<=1000000)(g:s.o1.length<=1000):pB s=some ⟨s.h9,s.k7,s.b9,s.Next,s.o1++s.h9.ai9.flatMap (Ih s.h9 s.k7 s.Next<|VQ s.k7),s.Cut⟩:=by have f:=a.2.1;unfold pB;rw[ca7 hk b c];simp only[oq];rw[B5 _ F,ak3 a hk d e _ 0 _ (λ_ h=>h) F];rfl
def aq4 (v begin:Int)(b:0<=v/\v<=46080)(W:List j8)(c:W.length<=1000):∀(r p:List j8),p++r=W->o3 (X3 v) ((p.length:Int),p.map (WG v begin)++r.map (DM begin))=some (.inl ((W.length:Int),W.map<|WG v begin))
 |[],p,h=>by grind [j3,X3]|x::r,p,h=>by
  have a:p.length+(r.length+1)=W.length:=by grind
  have j:0<=dst begin x.q7/\dst begin x.q7<46080:=by grind [dst]
  have d:(p.map<|WG v begin).length=p.length:=cW2 ..;have g:=am7 (p.map<|WG v begin) (r.map<|DM begin)<|DM begin x;have st:=aT0 (p.map<|WG v begin) (r.map<|DM begin) (DM begin x)<|WG v begin x;rw[d]at g st;have e:decide ((p.length:Int)<(((p.map (WG v begin)++DM begin x::r.map (DM begin)).length:Nat):Int))=true:=by grind
  have f:(⟨(DM begin x).Event,H<|(DM begin x).Left+v,(DM begin x).u7,(DM begin x).At⟩:k6)=WG v begin x:=by grind [DM,WG,b6]
  have i:X3 v ((p.length:Int),p.map (WG v begin)++DM begin x::r.map (DM begin))=some (.inl (((p.length+1:Nat):Int),p.map (WG v begin)++WG v begin x::r.map (DM begin))):=by unfold X3;simp only[e,cT9,g,oq,f,st];grind [b6]
  rw[ew,j7 i];have:=aq4 v begin b W c r (p++[x]) (by rw[cW5];exact h);rw[IT,dc9,cW5]at this;exact this
theorem bp0 {c:A1}{r2:a7×List e9}{t x v:Int}(b:R5 r2.1.h9)(k:lC r2.1.h9 r2.1.Next=true)(n:r2.1.Next.length<=1000)(l:0<=v/\v<=46080):∀(r:List o9)(i:Nat)(out:List k6),r2.1.Next.drop i=r->i<=r2.1.Next.length->out.length+6*r.length<=100000->o3 (X2 c r2 t x v) ((i:Int),out)=some (.inl ((r2.1.Next.length:Int),out++bif decide (v>=c.K6)then[]else(r.filter λf=>f.h8==x).flatMap<|Xr r2.1.h9 v t))
 |[],i,out,d,hi,_=>by grind [j3,X2]|f::r,i,out,d,hi,o=>by
  rw[cU9]at o;have e:r2.1.Next[i]?=some f:=by rw[<-cX6,d];rfl
  have p:=(No.1 e).1;have g:r2.1.Next.drop (i+1)=r:=by rw[<-bT3,d];rfl
  have q:decide ((i:Int)<(r2.1.Next.length:Int))=true:=cU0 F;have s:H ((i:Int)+1)=((i+1:Nat):Int):=by grind [b6]
  have a:=Fg k f<|bX3 e;have h:=Ob (begin:=Jw r2.1.h9 f.h8) (t:=t) b a;have u:X2 c r2 t x v ((i:Int),out)=some (.inl (((i+1:Nat):Int),out++bif decide (v>=c.K6)then[]else bif f.h8==x then Xr r2.1.h9 v t f else[])):=by
   unfold X2;simp only[q,cT9,B3,e,oq,s];cases hx:f.h8==x;·grind
   ·rw[show(f.h8 !=x)=false by grind];cases w:decide<|v>=c.K6
    ·simp only[cT8,cT9,oq];have j:(⟨r2.1.h9.ai9,r2.1.h9.R6⟩:j5)=r2.1.h9:=rfl;try rw[j]
     rw[bg4 b a];simp only[oq];have m:=aq4 v (Jw r2.1.h9 f.h8) l (WH r2.1.h9 f (Jw r2.1.h9 f.h8) t) F (WH r2.1.h9 f (Jw r2.1.h9 f.h8) t) [] rfl;rw[db6,wS,show((([]:List j8).length:Nat):Int)=0 from rfl]at m;rw[m];simp only[oq];rw[l5 _ _<|by rw[cW2];omega];rfl
    ·simp
  rw[j7 u];have y:(bif decide (v>=c.K6)then([]:List k6)else bif f.h8==x then Xr r2.1.h9 v t f else[]).length<=6:=by
   cases decide<|v>=c.K6
   ·cases f.h8==x;·simp
    ·simp only[cT9,cT8];unfold Xr;rw[cW2];exact h.1
   ·simp
  rw[bp0 b k n l r (i+1) _ g F<|by rw[IT];omega,cW5];grind
def Xs {e:j5}{k:A1}{l:List o9}{t x:Int}(h:R5 e)(c:lC e l=true):(Ih e k l t x).length<=6:=by unfold Ih;cases decide<|dst k.q7 (Jw e x)>=k.K6;rcases Si x (UR c)with⟨a,b⟩|⟨k,f,a,b,d,e,g⟩;rw[b];simp;have i:=Fg c f<|bX3 d;simp_all[Xr,Ob];simp
theorem KV {c:A1}{r2:a7×List e9}{t:Int}(hk:Aj c)(a:R5 r2.1.h9)(b:lC r2.1.h9 r2.1.Next=true)(h:r2.1.Next.length<=1000):∀(r:List Int)(i:Nat)(out:List k6),r2.1.h9.ai9.drop i=r->i<=r2.1.h9.ai9.length->out.length+6*r.length<=10000->o3 (X1 c r2 t) ((i:Int),out)=some (.inl ((r2.1.h9.ai9.length:Int),out++r.flatMap (Ih r2.1.h9 c r2.1.Next t)))
 |[],i,out,d,hi,_=>by grind [j3,X1]|x::r,i,out,d,hi,l=>by
  rw[cU9]at l;have m:=a.2.1;have hx:r2.1.h9.ai9[i]?=some x:=by rw[<-cX6,d];rfl
  have n:=(No.1 hx).1;have e:r2.1.h9.ai9.drop (i+1)=r:=by rw[<-bT3,d];rfl
  have o:decide ((i:Int)<(r2.1.h9.ai9.length:Int))=true:=cU0 F;have p:H ((i:Int)+1)=((i+1:Nat):Int):=by rw[b6 F F];omega
  have q:Eh c.q7=true:=oX.2 ⟨hk.an0,hk.an1⟩;have f:0<=dst c.q7 (Jw r2.1.h9 x)/\dst c.q7 (Jw r2.1.h9 x)<=46080:=by unfold dst;omega
  have j:=bp0 (c:=c) (r2:=r2) (t:=t) (x:=x) (v:=dst c.q7<|Jw r2.1.h9 x) a b h f r2.1.Next 0 out rfl F F;rw[show((0:Nat):Int)=0 from rfl]at j;have s:X1 c r2 t ((i:Int),out)=some (.inl (((i+1:Nat):Int),out++Ih r2.1.h9 c r2.1.Next t x)):=by
   unfold X1;simp only[o,cT9,B3,hx,oq,p];have g:(⟨r2.1.h9.ai9,r2.1.h9.R6⟩:j5)=r2.1.h9:=rfl;try rw[g]
   rw[ap5 a<|bX3 hx];simp only[oq];rw[ZB q<|WL ..];simp only[oq];rw[j];rfl
  have u:=Xs (k:=c) (t:=t) (x:=x) a b;rw[j7 s,KV hk a b h r (i+1) _ e F<|by rw[IT];omega,de2,cW5]
def nr (d:Int)(j:k6):k6:=⟨j.Event,q9 (-1048576)<|j.Left-d,j.u7,j.At⟩
def VK (d:Int)(b:0<=d/\d<=46080):∀(r p:List k6),(∀j∈r,-1048576<=j.Left/\j.Left<=1048576)->qw (oO d) r.length (p.length:Int) (p++r)=some (.inl<|p++r.map (nr d))
 |[],p,_=>rfl|j::r,p,h=>by
  have c:=h j<|cV7 ..;have a:oO d (p.length:Int) (p++j::r)=some (.next<|p++nr d j::r):=by unfold oO Q;rw[am7];simp only[oq];rw[b6 (n:=j.Left-d) F F,aT0];rfl
  simp only[cU9,qw,a,oq];have:=VK d b r (p++[nr d j]) λk hk=>h k<|cV3 _ hk;grind
theorem by4 (a b:Int):q9 a b=q9 b a:=by grind [q9]
def ZR {s:a7}{c:A1}(b:Eh s.k7.q7=true)(d:Eh c.q7=true)(n:Nat)(f:n<=100000):∀(r p:List k6),p.length+r.length=n->(∀j∈r,-1048576<=j.Left/\j.Left<=1048576)->o3 (X0 s c) ((p.length:Int),p++r)=some (.inl ((n:Int),p++r.map (nr<|dst s.k7.q7 c.q7)))
 |[],p,e,_=>by grind [j3,X0]|j::r,p,e,h=>by
  rw[cU9]at e;have i:=h j<|cV7 ..;have l:0<=dst s.k7.q7 c.q7/\dst s.k7.q7 c.q7<46080:=by unfold dst;omega
  have g:decide ((p.length:Int)<(((p++j::r).length:Nat):Int))=true:=cU0 (by rw[IT,cU9];omega);have a:X0 s c ((p.length:Int),p++j::r)=some (.inl (((p.length+1:Nat):Int),p++nr (dst s.k7.q7 c.q7) j::r)):=by unfold X0;simp only[g,cT9,am7,oq];rw[ZB b d];simp only[oq];rw[b6 (n:=j.Left-dst s.k7.q7 c.q7) F F,by4,aT0,b6 (n:=(p.length:Int)+1) F F];rfl
  rw[j7 a];have:=ZR b d n f r (p++[nr (dst s.k7.q7 c.q7) j]) (by simp only[IT,cU9,cX0];omega) λk hk=>h k<|cV3 _ hk;rw[cW5,IT,cW5]at this;exact this
theorem PM {w:List k6}(b:alt w false=true):∀{l:List k6}{a:Bool},alt l a=true->alt (l++w) a=true|[],a,h=>by grind [alt]|j::l,a,h=>by simp_all[alt,PM]
theorem bg0 {w l:List k6}{x:ai1}(a:alt w false=true)(h:cX l x=true):cX (l++w) x=true:=by cases l with
 |nil=>simp only[cX,BY,nW]at h;cases w with|nil=>grind [cX]|cons j r=>simp_all[alt,cX]
 |cons j r=>simp only[cX,BY]at h;simp only[List.cons_append,cX,BY];grind [PM]
def aw8 (c:Nat)(v begin:Int):∀(a:List j8)(i:Nat),kpR c (a.map kp) i=true->(i+a.length)%2=0->alt (a.map<|WG v begin) (i%2==1)=true
 |[],i,_,h=>by have:(i%2==1)=false:=beq_eq_false_iff_ne.2 gq;rw[this];rfl|x::a,i,h,hp=>by
  simp only[ew,kpR,BY]at h;simp only[cU9]at hp;have b:=aw8 c v begin a (i+1) h.2 F;have e:(!i%2==1)=((i+1)%2==1):=by grind
  have h1:=h.1.1;simp only[ew,alt];rw[e,b];have e2:(i%2==0)=!i%2==1:=by grind
  rw[e2]at h1;have hk:(kp x).1=x.Kind:=rfl;grind [WG]
theorem cl0 (v begin:Int)(W:List j8)(c:Int):K9 (W.map<|WG v begin) c=(W.filter λx=>yE x==c).map (WG v begin):=by unfold K9;rw[cP5];rfl
theorem bb7 {W:List j8}{cyl c:Int}(h:∀x∈W,Ev.Kq x/\x.h8=cyl)(h0:c≠2*(cyl-1))(h1:c≠2*(cyl-1)+1):W.filter λx=>yE x==c=[]:=by grind [cu9,yE]
theorem bH5 {e:j5}{f:o9}{v t:Int}(d:R5 e)(g:jQ e f)(c:Int):alt (K9 (Xr e v t f) c) false=true:=by unfold Xr WH;cases h:(lO e [f] t).2!=0;have hp:=Xa d g h;have a:=(OA (Jw e f.h8) (lO e [f] t).1).trans hp;simp only[cT8];cases b:ae8 (Jw e f.h8)<|Zl (Jw e f.h8) (lO e [f] t).1;rfl;simp only[cT9];generalize j:Zl (Jw e f.h8) (lO e [f] t).1=W at b a;have i:∀x∈W,Ev.Kq x/\x.h8=f.h8:=λx hx=>av5 (t:=t) d g x<|a.mem_iff.1 hx;have hk:=an9 a;have fl:=aL5 i;unfold ae8 at b;rw[bn3 hk.1,aN1 (pul f) (yg f) hk.2]at b;simp only[BY]at b;rw[cl0];by_cases h0:c=2*(f.h8-1);subst h0;rw[fl.1];have l2:=hk.1.length_eq;rw[cW2]at l2;exact aw8 0 v _ _ 0 b.1.2 (by rw[l2];rfl);by_cases h1:c=2*(f.h8-1)+1;subst h1;rw[fl.2];have l2:=hk.2.length_eq;rw[cW2]at l2;refine aw8 1 v _ _ 0 b.2.2 ?_;rw[l2];rcases yg f with h|h|h<;>(rw[h];rfl);rw[bb7 i h0 h1];rfl;rfl
theorem Yu {α:Type}(g:α->List k6)(c:Int):∀(l:List α),(∀x∈l,alt (K9 (g x) c) false=true)->alt (K9 (l.flatMap g) c) false=true|[],_=>rfl|x::l,h=>by rw[de2,sA];exact PM (Yu g c l λy a=>h y<|cV3 _ a)<|h x<|cV7 ..
def bH6 {e:j5}{k:A1}{l:List o9}{t x:Int}(a:R5 e)(b:lC e l=true)(c:Int):alt (K9 (Ih e k l t x) c) false=true:=by unfold Ih;cases decide<|dst k.q7 (Jw e x)>=k.K6;grind [Yu,bH5,Fg];rfl
theorem bH7 {e:j5}{k:A1}{l:List o9}{t x:Int}(c:R5 e)(d:lC e l=true):∀j∈Ih e k l t x,cI e.ai9.length j:=by intro j a;unfold Ih at a;cases g:decide<|dst k.q7 (Jw e x)>=k.K6<;>rw[g]at a;simp only[cT8,List.mem_flatMap]at a;obtain⟨f,h,a⟩:=a;have b:=Fg d f (de0.1 h).1;unfold Xr at a;obtain⟨y,i,rfl⟩:=cX3.1 a;obtain⟨h1,m⟩:=(Ob c b).2 y i;have n:=av3 c b.1;refine⟨by grind [WG],h1.2.1,h1.1,h1.2.2.2,?_,.inr rfl⟩;grind [WG,dst];grind
theorem aj6 (d:Int):∀(l:List k6)(a:Bool),alt (l.map<|nr d) a=alt l a|[],_=>rfl|j::l,a=>by simp only[ew,alt,aj6 d l];rfl
theorem bB8 (d:Int)(l:List k6)(x:ai1):cX (l.map<|nr d) x=cX l x:=by cases l with|nil=>rfl|cons j r=>simp only[ew,cX,aj6 d r];rfl
theorem bv4 (d now:Int)(l:List k6):Dj now (l.map<|nr d)=Dj now l:=by match l with|[]=>rfl|[j]=>rfl|i::j::r=>rfl
theorem YX (d:Int)(l:List k6)(c:Int):K9 (l.map<|nr d) c=(K9 l c).map (nr d):=by unfold K9;rw[cP5];rfl
def bx4 {n:Nat}{d:Int}{j:k6}(a:0<=d/\d<=46080)(h:cI n j):cI n<|nr d j:=by have b:=h.left;refine⟨h.cyl,h.kind,h.bI2,h.Ga,?_,h.at0⟩;grind [nr,q9]
def bg8 {n:Nat}{now d:Int}{ch:List ai1}{l:List k6}(a:0<=d/\d<=46080)(h:Rows n now (ch,l)):Rows n now (ch,l.map<|nr d):=by refine⟨h.len,h.ch,λj b=>?_,λc e=>?_⟩;obtain⟨k,hk,rfl⟩:=cX3.1 b;exact bx4 a<|h.Pu k hk;have:=h.row c e;grind [YX,bB8]
def by9 {n:Nat}{now:Int}{ch:List ai1}{l w:List k6}(h:Rows n now (ch,l))(e:∀j∈w,cI n j)(f:∀c,alt (K9 w c) false=true):Rows n now (ch,l++w):=by refine⟨h.len,h.ch,λj a=>?_,λc d=>?_⟩;rcases bX2.1 a with b|b;exact h.Pu j b;grind;have:=h.row c d;grind [sA,bg0]
def Ju:a7:=⟨(⟨([]:List Int),0⟩:j5),(⟨false,0,0,0,0,0⟩:A1),(⟨0,([]:List ai1)⟩:w8),([]:List o9),([]:List k6),false⟩
def ju (s:a7)(c:A1)(l:List k6):List k6:=bif s.k7.F8 then l.map<|nr (dst s.k7.q7 c.q7)else l
def mk (s:a7)(c:A1)(l:List k6):a7:=⟨s.h9,c,s.b9,s.Next,l,s.Cut⟩
def zS (s:a7)(c:A1)(g:a7):List k6:=ju s c g.o1++g.h9.ai9.flatMap (Ih g.h9 c g.Next<|VQ c)
def UN (s:a7)(c:A1)(g:List e9×a7):a7×List e9×Int:=bif g.2.Cut then(mk g.2 c<|ju s c g.2.o1,g.1,0)else bif decide<|((zS s c g.2).length:Int)>200then(Ju,[],5)else(Af<|mk g.2 c<|zS s c g.2,g.1,0)
def oS (s:a7)(c:A1):a7×List e9×Int:=bif !Ji s||!AD c then(Ju,[],1)else bif !c.F8 then(Ju,[],6)else bif decide (c.At<s.b9.D2)then(Ju,[],16)else UN s c<|oU c.At s
theorem bk9 {s:a7}(h:mS s)(a:s.k7.F8=true):Eh s.k7.q7=true:=oX.2 ⟨(al5 h.Wp a).an0,(al5 h.Wp a).an1⟩
def am5 {e:j5}{k:A1}{next:List o9}{t:Int}(a:R5 e)(b:lC e next=true):∀l:List Int,(l.flatMap<|Ih e k next t).length<=6*l.length|[]=>by simp|x::l=>by have:=am5 (k:=k) (t:=t) a b l;have:=Xs (k:=k) (t:=t) (x:=x) a b;rw[de2,IT,cU9];omega
theorem Nt (s:a7)(c:A1)(l:List k6):(ju s c l).length=l.length:=by grind [ju]
structure PI (s:a7)(c:A1)(g:List e9×a7):Prop where
 live:Live s.h9.ai9.length g.2
 lE:g.2.h9=s.h9
 Wp:g.2.k7=s.k7
 next:g.2.Next=s.Next
 cut:g.2.Cut=s.Cut
 now:g.2.b9.D2=c.At
 bx5:g.2.o1.length<=200
def gone {s:a7}{c:A1}(h:mS s)(d:Aj c)(b:s.b9.D2<=c.At):sG s c.At=some (oU c.At s)/\PI s c (oU c.At s):=by obtain⟨h1,e,a,f,g,i⟩:=WW (.of h) c.At b d.at1;have:=h.most;exact⟨h1,e,a.lE,a.Wp,a.next,a.cut,f,by omega⟩
def ao0 {s:a7}{c:A1}{g:List e9×a7}(h:PI s c g):Rows s.h9.ai9.length g.2.b9.D2 (g.2.b9.a8,ju s c g.2.o1):=by unfold ju;cases s.k7.F8;exact h.live.rows;exact bg8 (by grind [dst]) h.live.rows
def aK4 {s:a7}{c:A1}{g:List e9×a7}(h:PI s c g)(d:Aj c)(e:c.F8=true)(a:g.2.Cut=true):Live s.h9.ai9.length<|mk g.2 c<|ju s c g.2.o1:=by
 refine⟨h.live.lE,h.live.n1,h.live.n8,ao0 h,λ_ ch b=>?_,h.live.QM,h.live.Wy,.inr ⟨e,d⟩,?_⟩;·show Dj g.2.b9.D2 (K9 (ju s c g.2.o1) (ch:Int))=true;have:=h.live.cut a ch b;unfold ju;cases s.k7.F8;all_goals simp_all[YX,bv4]
 ·show(ju s c g.2.o1).length<=1000;rw[Nt];have:=h.bx5;omega
def Za {s:a7}{c:A1}{g:List e9×a7}(h:PI s c g)(d:mS s)(i:Aj c)(l:c.F8=true)(e:g.2.Cut=false):Live s.h9.ai9.length<|mk g.2 c<|zS s c g.2:=by
 have a:R5 g.2.h9:=by rw[h.lE];exact d.lE
 have f:lC g.2.h9 g.2.Next=true:=by rw[h.lE,h.next];exact d.Ti
 have o:g.2.h9.ai9.length=s.h9.ai9.length:=by rw[h.lE]
 have m:=a.2.1;have p:=am5 (k:=c) (t:=VQ c) a f g.2.h9.ai9;have q:=Nt s c g.2.o1;have n:=h.bx5;refine⟨h.live.lE,h.live.n1,h.live.n8,?_,λb=>?_,h.live.QM,h.live.Wy,.inr ⟨l,i⟩,?_⟩;refine by9 (ao0 h) (λj r=>?_) λch=>Yu _ ch _ λx _=>bH6 a f ch;grind [bH7];have:g.2.Cut=true:=b;grind;show(zS s c g.2).length<=1000;grind [zS]
def ZX {s:a7}(h:Live s.h9.ai9.length s)(d:R5 s.h9)(e:AD s.k7=true)(f:s.k7.F8=true)(g:lC s.h9 s.Next=true)(i:s.o1.length<=200):mS s:=by refine⟨d,e,h.tim,h.len,g,i,λj=>absurd (f.symm.trans j) dq,h.rows.Pu,λc b=>?_⟩;have h1:=h.rows.row c b;simp only at h1;unfold CQ;rw[h1];cases a:s.Cut;rfl;rw[h.cut a c b];rfl
def cb1 {s:a7}{c:A1}(h0:(oS s c).2.2=0):mS (oS s c).1:=by
 unfold oS at h0|-;cases h1:!Ji s||!AD c<;>rw[h1]at h0;simp only[cT8]at h0|-;cases k:!c.F8<;>rw[k]at h0;simp only[cT8]at h0|-;cases l:decide<|c.At<s.b9.D2<;>rw[l]at h0;simp only[cT8]at h0|-;simp only[Ky,cZ4]at h1;have e:c.F8=true:=by grind
 have d:=vB.1 h1.1;have f:=al5 h1.2 e;have g:s.b9.D2<=c.At:=by grind
 obtain⟨_,b⟩:=gone d f g;unfold UN at h0|-;cases a:(oU c.At s).2.Cut<;>rw[a]at h0;simp only[cT8]at h0|-;cases m:decide<|((zS s c (oU c.At s).2).length:Int)>200<;>rw[m]at h0;simp only[cT8];have j:=aF5<|Za b d f e a;have h:=Oc<|mk (oU c.At s).2 c<|zS s c (oU c.At s).2;have e1:(Af<|mk (oU c.At s).2 c<|zS s c (oU c.At s).2).h9=s.h9:=h.lE.trans b.lE;have e2:(Af<|mk (oU c.At s).2 c<|zS s c (oU c.At s).2).k7=c:=h.Wp;have n:(Af<|mk (oU c.At s).2 c<|zS s c (oU c.At s).2).Next=s.Next:=h.next.trans b.next;refine ZX gq (by rw[e1];exact d.lE) gq gq (by rw[e1,n];exact d.Ti) ?_;have i:(mk (oU c.At s).2 c<|zS s c (oU c.At s).2).Cut=false:=a;unfold Af;rw[i];simp only[cX5,if_false];show(Fh _ _ _ _).2.length<=200;rw[EW];have:(zS s c (oU c.At s).2).length<=200:=by grind
 exact this;grind;simp only[cT9];have j:=aK4 b f e a;refine ZX (by show Live (oU c.At s).2.h9.ai9.length _;rw[b.lE];exact j) (by show R5 (oU c.At s).2.h9;rw[b.lE];exact d.lE) h1.2 e (by show lC (oU c.At s).2.h9 (oU c.At s).2.Next=true;rw[b.lE,b.next];exact d.Ti) ?_;show(ju s c (oU c.At s).2.o1).length<=200;rw[Nt];exact b.bx5;grind;grind;grind
theorem bh6 (s:a7)(c:A1)(b:s.Next.length<=1000000)(d:s.o1.length<=1000000):(tI (jJ s) λv=>bif !v then some true else tI (Ck c) λa=>some !a)=some (!Ji s||!AD c):=by grind [Fe,aZ9]
theorem aS7 (s:a7)(c:A1)(b:s.Next.length<=1000000)(d:s.o1.length<=1000000):(tI (dt s) λv=>bif !v then some true else tI (Z8 c) λa=>some !a)=some (!Ji s||!AD c):=by grind [Fc,bp3]
theorem cq9 {α β γ:Type}(x:Option α)(f:α->Option β)(g:β->Option γ):(tI x λv=>tI (f v) g)=tI (tI x f) g:=by grind
def bD0 (s:a7)(c:A1)(k:s.Next.length<=1000000)(i:s.o1.length<=1000000):DC s c=some (oS s c):=by
 unfold DC oS Q;rw[cq9,bh6 s c k i];simp only[oq];cases h1:!Ji s||!AD c;simp only[cT8];cases v:!c.F8;simp only[cT8];cases w:decide<|c.At<s.b9.D2;simp only[cT8];simp only[Ky,cZ4]at h1;have l:c.F8=true:=by grind
 have h:=vB.1 h1.1;have f:=al5 h1.2 l;have m:s.b9.D2<=c.At:=by grind
 obtain⟨n,b⟩:=gone h f m;rw[Iz s k i];simp only[oq];rw[n];simp only[oq];unfold UN;generalize oU c.At s=g at b;have o:Eh c.q7=true:=oX.2 ⟨f.an0,f.an1⟩;refine Eq.trans (congrArg (λz=>tI z _) (a₂:=some<|ju s c g.2.o1) ?_) ?_;unfold ju;cases p:s.k7.F8;rfl;have q:=b.bx5;have:=VK (dst s.k7.q7 c.q7) (by unfold dst;omega) g.2.o1 [] λj i=>(b.live.rows.Pu j i).left;simp only[cT9];rw[av2 (bk9 h p) o];simp only[oq];rw[U2 _ F];rw[show((([]:List k6).length:Nat):Int)=0 from rfl,wS,wS]at this;rw[this];rfl;simp only[oq];cases d:g.2.Cut;simp only[cV8,cT9,cT8];have x:=Nt s c g.2.o1;have q:=b.bx5;have t:=Ik (s:=mk g.2 c<|ju s c g.2.o1) (by show R5 g.2.h9;rw[b.lE];exact h.lE) f l h1.2 (by show lC g.2.h9 g.2.Next=true;rw[b.lE,b.next];exact h.Ti) (by show g.2.Next.length<=1000000;rw[b.next];exact k) (by show(ju s c g.2.o1).length<=1000;omega);have r:pB (⟨(⟨g.2.h9.ai9,g.2.h9.R6⟩:j5),c,(⟨g.2.b9.D2,g.2.b9.a8⟩:w8),g.2.Next,ju s c g.2.o1,false⟩:a7)=some (mk g.2 c<|zS s c g.2):=by
  have e:(⟨(⟨g.2.h9.ai9,g.2.h9.R6⟩:j5),c,(⟨g.2.b9.D2,g.2.b9.a8⟩:w8),g.2.Next,ju s c g.2.o1,false⟩:a7)=mk g.2 c (ju s c g.2.o1):=by unfold mk;rw[d]
  rw[e,t];rfl
 rw[r];simp only[oq];have a:=Za b h f l d;have u:=bq1 a.rows (.inr f) a.QM a.Wy a.n1 a.n8 (by have:=a.most;omega);show(bif decide<|((zS s c g.2).length:Int)>200then _ else _)=_;cases decide<|((zS s c g.2).length:Int)>200;simp only[cT8];rw[u];rfl;rfl;simp_all[mk];rfl;rfl;rfl
def bC4 (s:a7)(c:A1)(p:s.Next.length<=1000)(k:s.o1.length<=1000000):oE s c=some (oS s c):=by
 unfold oE oS;rw[cq9,aS7 s c F k];simp only[oq];cases h1:!Ji s||!AD c;simp only[cT8];cases v:!c.F8;simp only[cT8];cases w:decide<|c.At<s.b9.D2;simp only[cT8];simp only[Ky,cZ4]at h1;have l:c.F8=true:=by grind
 have h:=vB.1 h1.1;have f:=al5 h1.2 l;have i:s.b9.D2<=c.At:=by grind
 obtain⟨_,b⟩:=gone h f i;rw[bf6 (.of h) c.At i F];simp only[oq];unfold UN;generalize oU c.At s=g at b;have m:Eh c.q7=true:=oX.2 ⟨f.an0,f.an1⟩;have q:=b.bx5;refine Eq.trans (congrArg (λz=>tI z _) (a₂:=some<|ju s c g.2.o1) ?_) ?_;unfold ju;cases n:s.k7.F8;rfl;have:=ZR (s:=s) (c:=c) (bk9 h n) m g.2.o1.length F g.2.o1 [] sq λj k=>(b.live.rows.Pu j k).left;grind;simp only[oq];have x:=Nt s c g.2.o1;cases d:g.2.Cut;simp only[cV8,cT9,cT8];rw[bC3 f];simp only[oq];have e:R5 g.2.h9:=by rw[b.lE];exact h.lE
 have r:=e.2.1;have o:=KV (c:=c) (r2:=(g.2,g.1)) (t:=VQ c) f e (by show lC g.2.h9 g.2.Next=true;rw[b.lE,b.next];exact h.Ti) (by show g.2.Next.length<=1000;rw[b.next];exact p) g.2.h9.ai9 0 (ju s c g.2.o1) rfl F F;rw[show((0:Nat):Int)=0 from rfl]at o;rw[o];simp only[oq];have a:=Za b h f l d;have u:=ay8 a.rows a.Wp a.QM a.Wy a.n8 (by have:=a.most;omega);show(bif decide<|((zS s c g.2).length:Int)>200then _ else _)=_;cases decide<|((zS s c g.2).length:Int)>200;simp_all[mk,zS];rfl;simp only[AT,cT9,cT8];have a:=aK4 b f l d;have u:=ay8 a.rows a.Wp a.QM a.Wy a.n8 (by have:=a.most;omega);grind [mk,Af];rfl;rfl;rfl
def z0:ai1:=⟨false,0,false,false⟩
def k0:A1:=⟨false,0,0,0,0,0⟩
def cy9 (e:j5):a7:=⟨e,k0,⟨0,cI5 (2*e.ai9.length) z0⟩,[],[],false⟩
theorem co5 (e:j5):HZ e=some (bif decide (R5 e)then(cy9 e,0)else(Ju,1)):=by unfold HZ Q;rw[Ev.aN];cases b:decide<|R5 e;rfl;have a:=of_decide_eq_true b;have h1:=a.1;have c:=a.2.1;simp only[oq,AT,cT8];rw[b6 (n:=2*(e.ai9.length:Int)) F F,show 2*(e.ai9.length:Int)=((2*e.ai9.length:Nat):Int)by omega,Tm.cz0 _ F F];simp only[oq];unfold rq aj8 Q;rw[l5 _ _<|by simp;omega];rfl
def cc3 (s:a7)(l:List o9):a7:=⟨s.h9,s.k7,s.b9,l,s.o1,s.Cut⟩
theorem ca1 (s:a7)(l:List o9)(a:s.Next.length<=1000000)(b:s.o1.length<=1000000)(c:l.length<=1000000):Gg s l=some (bif Ji s&&lC s.h9 l then(cc3 s l,0)else(Ju,1)):=by unfold Gg Q;rw[Fe s a b];cases d:Ji s;rfl;have e:=vB.1 d;simp only[oq,AT,cT8];rw[ar9 _ _ e.lE c];cases lC s.h9 l;rfl;simp only[oq,AT,cT8];rw[Iz s a b];simp only[oq];unfold xF Q;rw[l5 _ _<|by simp;omega];rfl
def e1:j5:=⟨[1],0⟩
def f1:o9:=⟨1,640,2000,0,0,0,0⟩
def c1:A1:=⟨true,1000,5760,1000,384,384⟩
def c2:A1:=⟨true,2000,44544,1000,384,384⟩
def xa:j8:=⟨45440,2,1,0⟩
def xb:j8:=⟨44672,1,1,0⟩
def s1:a7:=cc3 (cy9 e1) [f1]
def g1:a7:=put s1 1000 (s1.b9.a8,[])
def s2:a7:=Af<|mk g1 c1 [WG 0 5760 xb,WG 0 5760 xa]
def g2:a7:=put s2 2000 (s2.b9.a8,s2.o1)
def s3:a7:=Af<|mk g2 c2 [nr 38784<|WG 0 5760 xb,nr 38784<|WG 0 5760 xa]
theorem bs7 (l:List ai1)(b:l.length<=1000000)(f:ai1->Option Bool)(a:∀x,f x=some x.s8):O6 l f=some (l.any λx=>x.s8):=by unfold O6 cG fR;exact W2 l F f (λx=>x.s8) λy _=>a y
def Zi (s:a7):a7:=⟨s.h9,s.k7,s.b9,s.Next,s.o1,false⟩
theorem bh0 (s:a7)(a:s.Next.length<=1000000)(b:s.o1.length<=1000000)(d:s.b9.a8.length<=1000000):Bm s=some (bif !Ji s then(Ju,1)else bif !s.Cut||s.b9.a8.any λx=>x.s8 then(Ju,6)else(Zi s,0)):=by unfold Bm Q;rw[Fe s a b];cases Ji s;rfl;simp only[oq,AT,cT8];cases c:s.Cut;rfl;rw[bs7 _ d Gf λ_=>rfl];simp only[oq,AT,cT8,db8];cases s.b9.a8.any λx=>x.s8;simp only[cT8];rw[Iz s a b];rfl;rfl
def fl (l:List k6):List Bool:=l.map λj=>EJ j.Event.Kind
def swc (out:List e9)(c:Int):List Bool:=(out.filter λw=>w.Channel==c).map λw=>w.s8
theorem Rg (a b:List e9)(c:Int):swc (a++b) c=swc a c++swc b c:=by unfold swc;simp
def st (j:k6):j8×Int:=(j.Event,j.Left)
theorem cH0 {a b:List k6}(h:a.map st=b.map st):fl a=fl b:=by
 have:∀l:List k6,fl l=(l.map st).map λx=>EJ x.1.Kind:=λl=>by unfold fl;rw[List.map_map];rfl
 grind
theorem cl1 {a b:List k6}(c:Int)(h:a.map st=b.map st):(K9 a c).map st=(K9 b c).map st:=by
 have:∀l:List k6,(K9 l c).map st=(l.map st).filter λx=>yE x.1==c:=λl=>by unfold K9;rw[cP5];rfl
 grind
theorem ce8 (now:Int)(k:A1)(c:Nat)(u:List ai1×List k6):(PN now k c u).2.map st=u.2.map st:=by unfold PN;cases d:split (c:Int) u.2 with|none=>rfl|some t=>obtain⟨a,j,b⟩:=t;simp only;split;rfl;cases u.1[c]?with|none=>rfl|some x=>have:=(sN d).1;grind [st]
theorem bj3 (now:Int)(k:A1)(u:List ai1×List k6):∀m,(Fh now k m u).2.map st=u.2.map st|0=>rfl|m+1=>by rw[Fh,ce8,bj3 now k u m]
theorem bj4 (s:a7):(Af s).o1.map st=s.o1.map st:=by unfold Af;split;rfl;exact bj3 _ _ _ _
theorem bI9 (now:Int)(k:A1)(c:Nat)(u:List ai1×List k6):(PN now k c u).1.map (λx=>x.s8)=u.1.map λx=>x.s8:=by unfold PN;cases split (c:Int) u.2 with|none=>rfl|some t=>simp only;split;rfl;cases hx:u.1[c]?with|none=>rfl|some x=>simp only;rw[List.map_set];apply List.ext_getElem?;intro i;rw[List.getElem?_set];split;rename_i hi;subst hi;rw[bg5,hx];obtain⟨a,_⟩:=No.1 hx;simp[a];rfl
theorem ar1 (t:Int):∀(l:List ai1)(i:Nat)(c:Int),c<(i:Int)->(Tm.yr t i l).filter λw=>w.Channel==c=[]|[],_,_,_=>rfl|x::l,i,c,h=>by simp only[Tm.yr,bO6];rw[ar1 t l (i+1) c F,iy];unfold Tm.Rf;cases Tm.due t x&&!x.Next==x.s8;rfl;simp;omega
def br1 (t:Int):∀(l:List ai1)(i c:Nat)(h:c<l.length),(Tm.yr t i l).filter λw=>w.Channel==((i+c:Nat):Int)=Tm.Rf t (i+c) l[c]
 |x::l,i,0,_=>by simp only[Tm.yr,bO6,List.getElem_cons_zero,cq7];rw[ar1 t l (i+1) (i:Int) F,iy];grind [Tm.Rf]|x::l,i,c+1,h=>by
  simp only[Tm.yr,bO6,List.getElem_cons_succ];have:=br1 t l (i+1) c (by simpa using h);rw[show i+1+c=i+(c+1)by omega]at this;rw[this];have e:(Tm.Rf t i x).filter λw=>w.Channel==((i+(c+1):Nat):Int)=[]:=by unfold Tm.Rf;cases Tm.due t x&&!x.Next==x.s8;rfl;simp;omega
  rw[e];rfl
theorem be2 {α:Type}{a b:List α}(h:a.Perm b)(c:b.length<=1):a=b:=by match b,c with|[],_=>exact h.eq_nil|[x],_=>simp_all
theorem ce3 (t:Int)(l:List ai1)(c:Nat)(h:c<l.length):(Tm.Az t l).filter λw=>w.Channel==(c:Int)=Tm.Rf t c l[c]:=by have h1:=(Tm.EU t l).filter λw=>w.Channel==(c:Int);have a:=br1 t l 0 c h;rw[Nat.zero_add]at a;grind [be2,Tm.bq9]
def bW7 {q:List k6}{x:ai1}{t:Int}(c:Nat)(h:cX q x=true)(d:x.u7=true->t<=x.At):(Tm.Rf t c x).map (λw=>w.s8)++fl (q.filter λj=>!rr t j)=fl q/\(∀w∈Tm.Rf t c x,w.At=t/\w.Channel=(c:Int))/\(x.u7=true->x.At=t->∃j r,q=j::r/\(q.filter λj=>!rr t j)=r/\Tm.Rf t c x=[⟨t,(c:Int),EJ j.Event.Kind⟩])/\(¬(x.u7=true/\x.At=t)->(q.filter λj=>!rr t j)=q/\Tm.Rf t c x=[]):=by cases q with
 |nil=>
  simp only[cX,BY,nW]at h;have a:Tm.Rf t c x=[]:=by grind [Tm.Rf,Tm.due]
  grind|cons j r=>
  simp only[cX,BY,nW,bh7,beq_iff_eq]at h;obtain⟨⟨⟨h1,m⟩,n⟩,e⟩:=h;have o:=MM t<|Mb e;have f:EJ j.Event.Kind=!x.s8:=by grind
  by_cases g:x.u7=true/\x.At=t;have p:j.u7=true:=by grind
  have i:j.At=x.At/\x.Next=!x.s8:=by grind
  have k:rr t j=true:=by grind [rr]
  have b:Tm.due t x=true:=by grind [Tm.due]
  have a:Tm.Rf t c x=[⟨t,(c:Int),EJ j.Event.Kind⟩]:=by grind [Tm.Rf]
  have l:((j::r).filter λj=>!rr t j)=r:=by grind
  rw[a,l];refine⟨rfl,λw s=>?_,λ_ _=>⟨j,r,rfl,rfl,rfl⟩,λh=>absurd g h⟩;grind;have b:Tm.due t x=false:=by grind [Tm.due]
  have k:rr t j=false:=by grind [rr]
  have a:Tm.Rf t c x=[]:=by grind [Tm.Rf]
  grind
theorem bC8 (t:Int)(s:a7)(c:Int):(K9 (stepG t s).o1 c).map st=((K9 s.o1 c).filter λj=>!rr t j).map st:=by unfold stepG;rw[cl1 c<|bj4 _];show(K9 (s.o1.filter λj=>!rr t j) c).map st=_;rw[Nu]
theorem bh1 {n:Nat}{s:a7}(h:Live n s)(d:(Tm.hZ s.b9.a8).2=true)(c:Nat)(b:c<s.b9.a8.length):swc (Tm.Az (Tm.hZ s.b9.a8).1 s.b9.a8) (c:Int)++fl (K9 (stepG (Tm.hZ s.b9.a8).1 s).o1 (c:Int))=fl (K9 s.o1 (c:Int)):=by obtain⟨_,_,e⟩:=Ze h d;have a:=h.rows.row c b;simp only at a;have:=(bW7 c a<|e _<|al8 b).1;grind [cH0,bC8,swc,ce3]
structure Sw (m:Nat)(lo hi:Int)(out:List e9):Prop where
 asc:out.Pairwise λa b=>a.At<=b.At
 Zv:∀w∈out,lo<w.At/\w.At<=hi
 ch:∀w∈out,0<=w.Channel/\w.Channel<(m:Int)
def Sw.nil (m:Nat)(lo hi:Int):Sw m lo hi []:=⟨.nil,by simp,by simp⟩
def Sw.append {m:Nat}{a b c:Int}{x y:List e9}(h:Sw m a b x)(k:Sw m b c y)(e:a<=b)(f:b<=c):Sw m a c<|x++y:=by refine⟨cu5.2 ⟨h.asc,k.asc,λv g w d=>?_⟩,λw d=>?_,λw d=>?_⟩;have:=h.Zv v g;have:=k.Zv w d;omega;rcases bX2.1 d with d|d;have:=h.Zv w d;omega;have:=k.Zv w d;omega;rcases bX2.1 d with d|d;exact h.ch w d;exact k.ch w d
def Sw.wide {m:Nat}{a b c:Int}{x:List e9}(h:Sw m a b x)(d:b<=c):Sw m a c x:=⟨h.asc,λw e=>by have:=h.Zv w e;omega,h.ch⟩
def cp0 {n:Nat}{s:a7}(h:Live n s)(d:(Tm.hZ s.b9.a8).2=true):Sw s.b9.a8.length s.b9.D2 (Tm.hZ s.b9.a8).1<|Tm.Az (Tm.hZ s.b9.a8).1 s.b9.a8:=by
 obtain⟨h1,_,e⟩:=Ze h d;have b:∀w∈Tm.Az (Tm.hZ s.b9.a8).1 s.b9.a8,w.At=(Tm.hZ s.b9.a8).1/\0<=w.Channel/\w.Channel<(s.b9.a8.length:Int):=by intro w a;obtain⟨j,c,e1,e2,_,f⟩:=Tm.aO0.1 a;obtain⟨g,rfl⟩:=No.1 e1;grind [Tm.due]
 refine⟨?_,λw a=>by grind,λw a=>(b w a).2⟩;grind [cS3]
def am8 (to:Int){n:Nat}:∀(f:Nat)(s:a7),Live n s->s.b9.D2<=to->∃out,(∀o,(Ps to f (o,s)).1=o++out)/\(∀o,(Ps to f (o,s)).2=(Ps to f ([],s)).2)/\Sw (2*n) s.b9.D2 (Ps to f ([],s)).2.b9.D2 out/\s.b9.D2<=(Ps to f ([],s)).2.b9.D2/\∀c:Nat,c<2*n->swc out (c:Int)++fl (K9 (Ps to f ([],s)).2.o1 (c:Int))=fl (K9 s.o1 (c:Int))
 |0,s,h,ht=>⟨[],λo=>by simp[Ps],λo=>rfl,Sw.nil _ _ _,QA _,λc _=>rfl⟩|f+1,s,h,ht=>by
  by_cases b:(Tm.hZ s.b9.a8).2=true/\(Tm.hZ s.b9.a8).1<=to
  ·have a:∀o,Ps to (f+1) (o,s)=Ps to f (o++Tm.Az (Tm.hZ s.b9.a8).1 s.b9.a8,stepG (Tm.hZ s.b9.a8).1 s):=λo=>by show(if _ then _ else _)=_;rw[if_pos b]
   obtain⟨out,i,g,i3,e,j⟩:=am8 to f _ (aq8 h b.1) (by grind [aa7]);obtain⟨h1,_,_⟩:=Ze h b.1;have d:=h.len;have e2:∀o,(Ps to (f+1) (o,s)).2=(Ps to f ([],stepG (Tm.hZ s.b9.a8).1 s)).2:=λo=>by rw[a,g]
   rw[aa7]at i3 e;refine⟨Tm.Az (Tm.hZ s.b9.a8).1 s.b9.a8++out,λo=>by grind,λo=>by rw[e2,e2],?_,?_,λc k=>?_⟩;·rw[e2];have:=cp0 h b.1;rw[d]at this;exact this.append i3 F e
   all_goals grind [Rg,bh1]
  ·have a:∀o,Ps to (f+1) (o,s)=(o,s):=λo=>by show(if _ then _ else _)=_;rw[if_neg b]
   refine⟨[],λo=>by rw[a];simp,λo=>by rw[a,a],by rw[a];exact Sw.nil _ _ _,by rw[a];exact QA _,λc _=>by rw[a];rfl⟩
def bw4 {n:Nat}{s:a7}(h:Live n s)(to:Int)(h1:s.b9.D2<=to):Sw (2*n) s.b9.D2 to (oU to s).1/\∀c:Nat,c<2*n->swc (oU to s).1 (c:Int)++fl (K9 (oU to s).2.o1 (c:Int))=fl (K9 s.o1 (c:Int)):=by obtain⟨out,a,d,i3,f,b⟩:=am8 to s.o1.length s h h1;have g:=h.most;obtain⟨_,_,_,_,r5,_⟩:=aw3 to s.o1.length s [] h (cW6 _) (by simp;omega) h1;have e:=a [];rw[wS]at e;unfold oU;rw[e];exact⟨i3.wide r5,b⟩
end Go.Pv.Sc
namespace Go.Pv.Sc.Sx
open Go Go.Pv Go.Pv.Ev Go.Pv.Sc
structure aW5 (s:a7)(n i:Nat)(u:List e9×w8×List k6):Prop where
 now:u.2.1.D2=s.b9.D2
 len:u.2.1.a8.length=2*n
 Ah:u.1.length<=i/\u.2.2.length<=i
 rest:∀c,i<=c->u.2.1.a8[c]?=s.b9.a8[c]?ch:∀x∈u.2.1.a8,Tm.chB s.b9.D2 x=true
 Pu:∀j∈u.2.2,cI n j/\yE j.Event<(i:Int)row:∀c x,c<i->u.2.1.a8[c]?=some x->cX (K9 u.2.2 (c:Int)) x=true/\Dj s.b9.D2 (K9 u.2.2 (c:Int))=true
 sw:∀w∈u.1,w.At=s.b9.D2/\0<=w.Channel/\w.Channel<(i:Int)lev:∀(c:Nat)(x0 x:ai1),c<i->s.b9.a8[c]?=some x0->u.2.1.a8[c]?=some x->u.1.filter λw=>w.Channel==(c:Int)=[]/\x.s8=x0.s8\/(u.1.filter λw=>w.Channel==(c:Int)=[⟨s.b9.D2,(c:Int),false⟩]/\x0.s8=true/\x.s8=false)cnt:u.1.length+u.2.2.length<=((s.b9.a8.take i).filter λx=>x.s8).length
def cN4 (now:Int)(i:Nat)(a:ai1)(out:List e9)(y:ai1)(more:List k6):Prop:=out=[]/\y.s8=a.s8/\(a.s8=false->more=[])\/out=[⟨now,(i:Int),false⟩]/\a.s8=true/\y.s8=false/\more=[]
def av1 (now:Int)(l:Bool):Tm.chB now ⟨false,0,false,l⟩=true:=by rfl
theorem aU4 {s:a7}{n i:Nat}{u:List e9×w8×List k6}(a:Live n s)(h:aW5 s n i u):Tm.T0 u.2.1=true:=by have h1:=a.n1;have c:=a.n8;have d:=a.QM;have e:=a.Wy;have f:=h.len;have b:=h.now;have:=Xi (n:=n) (now:=s.b9.D2) (u:=(u.2.1.a8,([]:List k6)));unfold Tm.T0;rw[BY,cV2];have ht:=a.tim;unfold Tm.T0 at ht;rw[BY]at ht;refine⟨?_,λx hx=>by rw[b];exact h.ch x hx⟩;grind [Tm.xP]
def az7 {s:a7}{n i:Nat}{u:List e9×w8×List k6}(h:aW5 s n i u)(hi:i<2*n)(out:List e9)(y:ai1)(more:List k6)(A:out.length<=1)(B:more.length<=1)(C:Tm.chB s.b9.D2 y=true)(D:∀j∈more,cI n j/\yE j.Event=(i:Int))(E:cX more y=true/\Dj s.b9.D2 more=true){f:ai1}(k:s.b9.a8[i]?=some f)(hp:cN4 s.b9.D2 i f out y more):aW5 s n (i+1) (u.1++out,⟨s.b9.D2,u.2.1.a8.set i y⟩,u.2.2++more):=by
 have J:=h.Ah;have I:=h.len;have o:∀c:Nat,c<i->K9 more (c:Int)=[]:=λc l=>FU λj b=>by grind
 have p:K9 u.2.2 (i:Int)=[]:=FU λj b=>by have:=(h.Pu j b).2;omega
 have q:K9 more (i:Int)=more:=by grind [K9,List.filter_eq_self]
 have r:∀c:Nat,c≠i->out.filter λw=>w.Channel==(c:Int)=[]:=λc l=>by rcases hp with⟨e,_⟩|⟨e,_⟩;all_goals grind
 have t:u.1.filter λw=>w.Channel==(i:Int)=[]:=by rw[cu9];intro w v;have:=(h.sw w v).2;simp;omega
 refine⟨rfl,by simp[I],?_,λc l=>?_,λx hx=>?_,λj b=>?_,λc x l hx=>?_,λw v=>?_,λc y0 x l g hx=>?_,?_⟩;·grind
 ·simp only;rw[de8 F];exact h.rest c F
 ·simp only at hx;rcases cR4 hx with a|a;·exact h.ch x a
  ·rw[a];exact C
 ·rcases bX2.1 b with a|a;·have:=h.Pu j a;exact⟨this.1,by omega⟩
  ·have:=D j a;exact⟨this.1,by omega⟩
 ·simp only at hx|-;rw[sA];by_cases d:c=i;·subst d;rw[List.getElem?_set_self F]at hx;have:y=x:=oa hx;subst this;rw[p,q];exact E
  ·rw[de8 F]at hx;rw[o c F,iy];exact h.row c x F hx
 ·rcases bX2.1 v with a|a;·have:=h.sw w a;omega
  ·rcases hp with⟨e,_⟩|⟨e,_⟩;·rw[e]at a;simp at a
   ·rw[e]at a;have:w=⟨s.b9.D2,(i:Int),false⟩:=by simpa using a
    subst this;exact⟨rfl,by show(0:Int)<=(i:Int);omega,by show(i:Int)<((i+1:Nat):Int);omega⟩
 ·simp only at hx|-;rw[bO6];by_cases d:c=i
  ·subst d;rw[List.getElem?_set_self F]at hx;have:y=x:=oa hx;subst this;rw[k]at g;have:f=y0:=oa g;subst this;rw[t,wS];rcases hp with⟨e,e2,_⟩|⟨e,e2,z,_⟩;·exact .inl ⟨by rw[e];rfl,e2⟩
   ·exact .inr ⟨by rw[e];simp,e2,z⟩
  ·rw[de8 F]at hx;rw[r c d,iy];exact h.lev c y0 x F g hx
 ·have l:=h.cnt;have ht:s.b9.a8.take (i+1)=s.b9.a8.take i++[f]:=by rw[cQ4,k];rfl
  rw[ht,bO6,IT,IT,IT];rcases hp with⟨e,_,e2⟩|⟨e,e2,_,z⟩
  ·cases m:f.s8;·rw[e,e2 m];simp only[cX0];omega
   ·rw[e];have:([f].filter λx=>x.s8).length=1:=by simp[m]
    simp only[cX0];omega
  ·have:([f].filter λx=>x.s8).length=1:=by simp[e2]
   rw[e,z];simp only[cU9,cX0];omega
def bO2 {s:a7}{n:Nat}(r:Live n s)(hm:s.o1.length<=1000)(i:Nat)(hi:i<2*n)(u:List e9×w8×List k6)(h:aW5 s n i u):∃u',dw s (i:Int) u=some (.next u')/\V3 s s (u.1,(i:Int),u.2.2,u.2.1.a8)=some (.inl (u'.1,((i+1:Nat):Int),u'.2.2,u'.2.1.a8))/\aW5 s n (i+1) u':=by
 have hl:=r.len;have C:=r.n8;have h0:=r.QM;have h1:=r.Wy;have o:i<s.b9.a8.length:=by omega
 have m:i<u.2.1.a8.length:=by rw[h.len];exact hi
 have p:=aU4 r h;have A:u.2.1.a8[i]=s.b9.a8[i]:=by have:=h.rest i<|cW6 _;rw[IN o,IN m]at this;exact oa this
 have hf:=h.Ah;have d:=r.rows.row i o;simp only at d;have N:((i:Int).tmod 2==0)=(i%2==0):=by rw[aW6 F,zc,beq_iff_eq,beq_iff_eq];omega
 have l:=h.now;have O:((i:Int).tmod 2==1)=!i%2==0:=by rw[aW6 F,zc];simp;omega
 have P:∀y:ai1,fQ u.2.1.a8 (i:Int) y=some (u.2.1.a8.set i y):=λy=>D4 _ _ _ m;unfold dw V3;simp only;rw[cU0<|show(i:Int)<(u.2.1.a8.length:Int)by omega,j2 _ _ o,j2 _ _ m,b6 (n:=(i:Int)+1) F F];simp only[cT9,oq,N,O,P];have v:s.b9.a8[i]?=some s.b9.a8[i]:=IN o;generalize hx:s.b9.a8[i]=x at d A v;have B:(bif x.s8 then some<|!i%2==0||(s.b9.D2==1099511627776)else some false)=some (x.s8&&(!i%2==0||s.b9.D2==1099511627776)):=by cases x.s8<;>rfl
 rw[B];simp only[oq];cases z:x.s8&&(!i%2==0||s.b9.D2==1099511627776)
 ·simp only[cT8];rw[Tm.al7 u.2.1 (i:Int) i rfl m p];simp only[oq];rw[A,l];cases f:x.s8;·simp only[cV8,cT9];refine⟨_,rfl,rfl,?_⟩;have:=az7 h hi [] ⟨false,0,false,false⟩ [] sq sq (av1 _ _) sq ⟨rfl,rfl⟩ v<|.inl ⟨rfl,f.symm,λ_=>rfl⟩;rw[iy,iy]at this;exact this
  ·simp only[AT,cT8];rw[f,cV0,Ky]at z;have Q:i%2=0:=by simpa using z.1
   have D:s.b9.D2≠1099511627776:=by simpa using z.2
   cases q:split (i:Int) s.o1 with|none=>rw[by8 q]at d;simp[cX,f]at d|some t=>
    obtain⟨a,j,b⟩:=t;obtain⟨ej,ec,_⟩:=sN q;have g:=r.rows.Pu j (by rw[ej];simp);rw[YY q]at d;simp only[cX,BY,nW,bh7,beq_iff_eq]at d;obtain⟨⟨⟨r1,r2⟩,r3⟩,_⟩:=d;have E:j.Event.Kind=2:=by
     have hk:=g.kind;have I:=aJ6 g;rw[ec,aW6 F]at I;have hno:¬(j.Event.Kind=3\/j.Event.Kind=4):=by intro h3;rw[if_pos h3]at I;omega
     rw[f]at r1;have:EJ j.Event.Kind=false:=by
      cases ho:EJ j.Event.Kind;·rfl
      ·rw[ho]at r1;simp at r1
     unfold EJ at this;simp only[Ky,beq_eq_false_iff_ne]at this;omega
    have R:y9 s.o1 (λx0=>DB x0 (i:Int))=some (HI (i:Int) s.o1):=MW (i:Int) n C s.o1 F λy J=>r.rows.Pu y J;rw[R];have S:HI (i:Int) s.o1=(a.length:Int):=by unfold HI;rw[q]
    have K:y3 s.o1 (a.length:Int)=some j:=by rw[ej];exact aw2 a b j
    rw[S];simp only[oq];rw[K];simp only[oq];rw[b6 (n:=s.b9.D2+5000) F F];have T:j.u7=true->s.b9.D2<j.At/\j.At<=1099511627776:=by
     intro w;have U:x∈s.b9.a8:=by rw[<-hx];exact al8 o
     have:=Tm.al3 (r.rows.ch x U) (by rw[<-r2];exact w);rcases r3 with r3|r3;·rw[w]at r3;cases r3
     ·rw[r3.1];exact this
    obtain⟨c,V,L,W,X,Z⟩:∃c,(bif !j.u7||decide (j.At>s.b9.D2+5000)then some (ba9 (s.b9.D2+5000) 1099511627776)else some j.At)=some c/\(bif j.u7 then some (ba9 (ba9 (s.b9.D2+5000) 1099511627776) j.At)else some<|ba9 (s.b9.D2+5000) 1099511627776)=some c/\s.b9.D2<c/\c<=1099511627776/\c<=s.b9.D2+5000:=by
     cases w:j.u7;·refine⟨_,rfl,rfl,?_,?_,?_⟩<;>unfold ba9<;>split<;>omega
     ·have:=T w;cases hc:decide<|j.At>s.b9.D2+5000;·have h5:¬j.At>s.b9.D2+5000:=of_decide_eq_false hc;refine⟨j.At,rfl,?_,by omega,by omega,by omega⟩;show some _=_;unfold ba9;congr 1;split<;>split<;>omega
      ·have h5:=of_decide_eq_true hc;refine⟨_,rfl,?_,?_,?_,?_⟩;·show some _=some _;unfold ba9;congr 1;split<;>split<;>omega
       all_goals unfold ba9;split<;>omega
    have hrf:iE s (i:Int)=some (a.length:Int):=by rw[aL6 s (i:Int) n C F λy J=>r.rows.Pu y J];unfold HI;rw[q]
    rw[V,hrf];simp only[oq];have M:Tm.T0 ⟨s.b9.D2,u.2.1.a8.set i ⟨false,0,false,true⟩⟩=true:=by
     unfold Tm.T0 at p|-;simp only[BY,cV2]at p|-;refine⟨?_,λy J=>?_⟩
     ·have e:Tm.xP ⟨s.b9.D2,u.2.1.a8.set i ⟨false,0,false,true⟩⟩=Tm.xP u.2.1:=by unfold Tm.xP;simp only[cz1,l]
      rw[e];exact p.1
     ·rcases cR4 J with h2|h2;·exact h.ch y h2
      ·rw[h2];exact av1 _ _
    rw[Tm.bJ0 _ (i:Int) c false i rfl (by simpa using m) M];have d1:decide (c<=s.b9.D2)=false:=cU1 F;have d2:decide (c>Tm.Xm)=false:=by unfold Tm.Xm;exact cU1 F
    simp only[d1,d2,cT8,oq];rw[l5 _ _<|by simp only[cU9,cX0];omega];simp only[oq,cY0,dd2];simp only[K,L,AT,Bool.or_false,cT8,cT9,oq,Q,D,beq_self_eq_true,show(s.b9.D2==1099511627776)=false by simpa using D];rw[l5 _ _<|by simp only[cU9,cX0];omega];refine⟨_,rfl,rfl,?_⟩;have:=az7 h hi [] ⟨true,c,false,true⟩ [⟨j.Event,j.Left,true,c⟩] sq sq (bk8 W X) (λk hk=>by
      have:k=⟨j.Event,j.Left,true,c⟩:=by simpa using hk
      subst this;exact⟨⟨g.cyl,g.kind,g.bI2,g.Ga,g.left,.inl rfl⟩,ec⟩) ⟨by simp[cX,f,E,alt,EJ],by simp[Dj,E,Z]⟩ v<|.inl ⟨rfl,f.symm,λh=>by rw[f]at h;cases h⟩;rw[iy]at this;exact this
 ·simp only[cT9];rw[BY]at z;rw[Tm.force_eq u.2.1 (i:Int) false i rfl m p];simp only[oq];have hne:(bif u.2.1.a8[i].s8==false then[]else[(⟨u.2.1.D2,(i:Int),false⟩:e9)])=[⟨s.b9.D2,(i:Int),false⟩]:=by rw[A,z.1,l];rfl
  rw[hne,l5 _ _<|by simp;omega];simp only[oq,z.1,z.2,AT,cT8,cT9];refine⟨_,rfl,rfl,?_⟩;rw[l];have:=az7 h hi [⟨s.b9.D2,(i:Int),false⟩] ⟨false,0,false,false⟩ [] sq sq (av1 _ _) sq ⟨rfl,rfl⟩ v<|.inr ⟨rfl,z.1,rfl,rfl⟩;rw[iy]at this;exact this
theorem bO1 {s:a7}{n i:Nat}{u g:List e9×w8×List k6}(c:Live n s)(k:s.o1=[])(h:aW5 s n i u)(l:u.2.2=[])(hi:i<2*n)(e:dw s (i:Int) u=some (.next g)):∀j,j∉g.2.2:=by
 have b:i<s.b9.a8.length:=by have:=c.len;omega
 have d:i<u.2.1.a8.length:=by rw[h.len];exact hi
 have a:=c.rows.row i b;simp only at a;rw[k]at a;have f:s.b9.a8[i].s8=false:=by simp_all[K9,cX]
 unfold dw at e;rw[j2 _ _ b]at e;simp only[oq,f,cT8]at e;rw[Tm.al7 u.2.1 (i:Int) i rfl d<|aU4 c h]at e;grind
structure bG9 (s t:a7)(out:List e9):Prop where
 ok:mS t
 now:t.b9.D2=s.b9.D2
 Ah:out.length<=100
 next:t.Next=s.Next
 lE:t.h9=s.h9
 sw:∀w∈out,w.At=s.b9.D2/\0<=w.Channel/\w.Channel<(s.b9.a8.length:Int)lev:∀(c:Nat)(x0 x:ai1),s.b9.a8[c]?=some x0->t.b9.a8[c]?=some x->out.filter λw=>w.Channel==(c:Int)=[]/\x.s8=x0.s8\/(out.filter λw=>w.Channel==(c:Int)=[⟨s.b9.D2,(c:Int),false⟩]/\x0.s8=true/\x.s8=false)cnt:s.Cut=false->out.length+t.o1.length<=(s.b9.a8.filter λx=>x.s8).length
 same:s.Cut=true->t=s/\out=[]
def aK3 {s t:a7}{out:List e9}(i:mS s)(h:Live s.h9.ai9.length t)(b:t.Cut=true)(d:t.h9=s.h9)(hk:t.k7=s.k7)(e:t.Next=s.Next)(f:t.b9.D2=s.b9.D2)(g:out.length<=100)(n:t.o1.length<=200)(a:s.k7.F8=false->t.o1=[])(h1:∀w∈out,w.At=s.b9.D2/\0<=w.Channel/\w.Channel<(s.b9.a8.length:Int))(k:∀(c:Nat)(j x:ai1),s.b9.a8[c]?=some j->t.b9.a8[c]?=some x->out.filter λw=>w.Channel==(c:Int)=[]/\x.s8=j.s8\/out.filter λw=>w.Channel==(c:Int)=[⟨s.b9.D2,(c:Int),false⟩]/\j.s8=true/\x.s8=false)(o:s.Cut=false->out.length+t.o1.length<=(s.b9.a8.filter λx=>x.s8).length)(p:s.Cut=true->t=s/\out=[]):bG9 s t out:=by refine⟨⟨by rw[d];exact i.lE,by rw[hk];exact i.Wp,h.tim,by rw[d];exact h.len,by rw[d,e];exact i.Ti,n,λk=>a gq,by rw[d];exact h.rows.Pu,λc l=>?_⟩,f,g,e,d,h1,k,o,p⟩;have m:=h.rows.row c l;simp only at m;unfold CQ;rw[m,h.cut b c l];simp
def bf0 {S R T C:Type}(n:Nat)(b:n<=1000000)(f:Int->S->Option (Fl S R))(g:T->Option (T⊕T⊕C))(σ:Nat->S->T)(I:Nat->S->Prop)(s:S)(h0:I 0 s)(h:∀k,k<n->∀s,I k s->∃s',f (k:Int) s=some (.next s')/\g (σ k s)=some (.inl<|σ (k+1) s')/\I (k+1) s')(a:∀s,I n s->g (σ n s)=some (.inr<|.inl<|σ n s)):∃s',J9 (n:Int) f s=some (.inl s')/\o3 g (σ 0 s)=some (.inl<|σ n s')/\I n s':=by
 have key:∀(m k:Nat)s,k+m=n->I k s->∃s',qw f m (k:Int) s=some (.inl s')/\o3 g (σ k s)=some (.inl<|σ n s')/\I n s':=by
  intro m;induction m with|zero=>
   intro k s hk hi;have:k=n:=by omega
   subst this;exact⟨s,rfl,j3<|a s hi,hi⟩|succ m c=>grind [j7,qw]
 obtain⟨s',d,e,i⟩:=key n 0 s F h0;grind [U2]
def bq2 {s:a7}(l:mS s)(p:s.Next.length<=1000000):∃t out,BX s=some (t,out,0)/\tO s=some (t,out)/\bG9 s t out:=by
 have k:=Live.of l;have B:=l.most;have n:=k.len;have C:=k.n8;have h0:=k.QM;have h1:=k.Wy;unfold BX tO;rw[Fe s p F,vB.2 l];simp only[oq,AT,cT8];rw[Iz s p F,ba4 s F F p F];simp only[oq];cases f:s.Cut;simp only[cT8];obtain⟨u,e,q,d⟩:=bf0 s.b9.a8.length F (dw s) (V3 s s) (λi u=>(u.1,(i:Int),u.2.2,u.2.1.a8)) (λi u=>aW5 s s.h9.ai9.length i u/\(s.o1=[]->u.2.2=[])) ([],s.b9,[]) ⟨⟨rfl,n,by simp,λ_ _=>rfl,k.rows.ch,by simp,λc x o=>by omega,by simp,λc _ _ o=>by omega,by simp⟩,λ_=>rfl⟩ λi hi u d=>by obtain⟨D,e1,q,e2⟩:=bO2 k F i F u d.1;refine⟨D,e1,q,e2,λz=>?_⟩;apply List.eq_nil_iff_forall_not_mem.2;grind [bO1] (λu d=>by unfold V3;simp only;rw[cU1<|by have:=d.1.len;omega];rfl);have r:o3 (V3 s s) ([],0,[],s.b9.a8)=some (.inl (u.1,(s.b9.a8.length:Int),u.2.2,u.2.1.a8)):=q;rw[e,r];have v:=d.1.now;refine⟨_,_,rfl,?_,?_⟩;simp only[oq];rw[<-v];have I:=d.1.Ah;have g:=d.1.now;have w:=d.1.len;have y:Live s.h9.ai9.length ⟨s.h9,s.k7,u.2.1,s.Next,u.2.2,true⟩:=by refine⟨rfl,k.n1,k.n8,⟨w,λx hx=>by show Tm.chB u.2.1.D2 x=true;rw[g];exact d.1.ch x hx,λj z=>(d.1.Pu j z).1,λc o=>?_⟩,λ_ c o=>?_,by grind,by grind,?_,by grind⟩;have m:c<u.2.1.a8.length:=o;exact(d.1.row c _ F<|IN m).1;have m:c<u.2.1.a8.length:=o;show Dj u.2.1.D2 _=true;rw[g];exact(d.1.row c _ F<|IN m).2;rcases k.Wp with⟨a,b⟩|a;exact .inl ⟨a,d.2 b⟩;exact .inr a
 exact aK3 l y rfl rfl rfl rfl g F (by show u.2.2.length<=200;omega) (λE=>d.2<|l.none E) d.1.sw (λc A x h0 h1=>d.1.lev c A x (No.1 h0).1 h0 h1) (λ_=>by have:=d.1.cnt;rw[cZ0]at this;exact this) λh=>absurd (h.symm.trans f) dq;simp only[cT9];refine⟨s,[],?_,rfl,aK3 l k f rfl rfl rfl rfl sq B l.none sq (λc A x h0 h1=>.inl ⟨rfl,by rw[h0]at h1;rw[oa h1]⟩) (λh=>absurd (h.symm.trans f) dq) λ_=>⟨rfl,rfl⟩⟩;cases s;rfl
end Go.Pv.Sc.Sx
namespace Go.Pv.Sc
open Go Go.Pv Go.Pv.Ev
def cm0 {s:a7}(h:mS s):mS<|Zi s:=⟨h.lE,h.Wp,h.tim,h.chs,h.Ti,h.most,h.none,h.Pu,λc a=>by have:=h.line c a;unfold CQ at this|-;simp only[BY]at this|-;refine⟨this.1,?_⟩;simp[Zi]⟩
def cq5 {s:a7}(h:mS s){l:List o9}(a:lC s.h9 l=true):mS<|cc3 s l:=⟨h.lE,h.Wp,h.tim,h.chs,a,h.most,h.none,h.Pu,λc b=>h.line c b⟩
def bq0 {s:a7}(a:mS s)(b:s.Next.length<=1000000)(to:Int)(h1:s.b9.D2<=to)(c:to<=1099511627776):zV s to=some ((oU to s).2,(oU to s).1,0):=by have d:=a.most;unfold zV Q;rw[Fe s b F,vB.2 a];simp only[oq,AT,cT8];rw[cU1<|show¬to<s.b9.D2 by omega,cU1<|show¬to>1099511627776 by omega];simp only[cT8];rw[Iz s b F];simp only[oq];rw[(WW (.of a) to h1 c).1];rfl
def Jy {s:a7}(b:mS s)(to:Int)(h1:s.b9.D2<=to)(j:to<=1099511627776):mS (oU to s).2/\(oU to s).2.h9=s.h9/\(oU to s).2.Next=s.Next/\(oU to s).2.b9.D2=to:=by obtain⟨_,d,a,e,k,_⟩:=WW (.of b) to h1 j;refine⟨⟨by rw[a.lE];exact b.lE,by rw[a.Wp];exact b.Wp,d.tim,by rw[a.lE];exact d.len,by rw[a.lE,a.next];exact b.Ti,by have:=b.most;omega,λg=>?_,by rw[a.lE];exact d.rows.Pu,λc h=>?_⟩,a.lE,a.next,e⟩;rw[a.Wp]at g;have:=b.none g;simp_all;have i:=d.rows.row c h;simp only at i;unfold CQ;rw[i];cases f:(oU to s).2.Cut;simp;rw[d.cut f c h];simp
def bm0 {s:a7}(a:mS s)(to:Int)(h1:s.b9.D2<=to):(oU to s).1.length<=3200:=by have b:=a.most;obtain⟨_,_,_,_,_,_,c,_⟩:=aw3 to s.o1.length s [] (.of a) (cW6 _) (by simp;omega) h1;have:(oU to s).1=(Ps to s.o1.length ([],s)).1:=rfl;grind
def wy:Bool->List Bool->Bool->Prop|a,[],b=>a=b|a,x::l,b=>x=!a/\wy x l b
def Qj:∀{l m:List Bool}{a b c:Bool},wy a l b->wy b m c->wy a (l++m) c|[],_,_,_,_,h,k=>by cases h;exact k|_::_,_,_,_,_,h,k=>⟨h.1,Qj h.2 k⟩
def aZ8:∀{y:List Bool}{a b d:Bool},wy a y d->wy b y d->a=b|[],_,_,_,h,k=>h.trans k.symm|x::_,a,b,_,h,k=>by have:=h.1.symm.trans k.1;cases a<;>cases b<;>simp_all
def Yd:∀{x y:List Bool}{a b d:Bool},wy a (x++y) d->wy b y d->wy a x b|[],_,_,_,_,h,k=>aZ8 h k|_::_,_,_,_,_,h,k=>⟨h.1,Yd h.2 k⟩
def aj5:∀{l:List k6}{lv:Bool},alt l lv=true->wy lv (fl l) false
 |[],lv,h=>by show lv=false;simpa[alt]using h|j::r,lv,h=>by
  simp only[alt,BY,nW]at h;have e:EJ j.Event.Kind=!lv:=by have:=h.1.1;cases a:EJ j.Event.Kind<;>cases lv<;>simp_all
  refine⟨e,?_⟩;show wy (EJ j.Event.Kind) (fl r) false;rw[e];exact aj5 h.2
def bB7 {q:List k6}{x:ai1}(h:cX q x=true):wy x.s8 (fl q) false:=by cases q with|nil=>simp only[cX,BY,nW]at h;exact h.1|cons j r=>
  simp only[cX,BY,nW]at h;have e:EJ j.Event.Kind=!x.s8:=by have:=h.1.1.1;cases a:EJ j.Event.Kind<;>cases b:x.s8<;>simp_all
  refine⟨e,?_⟩;show wy (EJ j.Event.Kind) (fl r) false;rw[e];exact aj5 h.2
def lvl (s:a7)(c:Nat):Bool:=match s.b9.a8[c]?with|some x=>x.s8|none=>false
theorem WZ {s:a7}{c:Nat}(h:c<s.b9.a8.length):lvl s c=s.b9.a8[c].s8:=by unfold lvl;rw[IN h]
def ck9 {s t:a7}(h:t.b9.a8.map (λx=>x.s8)=s.b9.a8.map λx=>x.s8)(c:Nat):lvl t c=lvl s c:=by
 have e:∀l:List ai1,(match l[c]?with|some x=>x.s8|none=>false)=(l.map λx=>x.s8)[c]?.getD false:=λl=>by rw[bg5];cases l[c]?<;>rfl
 unfold lvl;rw[e,e,h]
def Zf {s:a7}(h:mS s){c:Nat}(b:c<2*s.h9.ai9.length):wy (lvl s c) (fl<|K9 s.o1 (c:Int)) false:=by
 have a:c<s.b9.a8.length:=by rw[h.chs];exact b
 have:=h.line c a;unfold CQ at this;rw[BY]at this;rw[WZ a];exact bB7 this.1
def gs (g:Nat->Nat):Nat->Nat|0=>0|m+1=>gs g m+g m
theorem bc0 (a b:Nat->Nat):∀m,gs (λc=>a c+b c) m=gs a m+gs b m|0=>rfl|m+1=>by simp only[gs,bc0 a b m];omega
theorem YE {a b:Nat->Nat}:∀{m:Nat},(∀c,c<m->a c=b c)->gs a m=gs b m|0,_=>rfl|m+1,h=>by simp only[gs];rw[YE λc d=>h c F,h m F]
def cs3 {a b:Nat->Nat}:∀{m:Nat},(∀c,c<m->a c<=b c)->gs a m<=gs b m|0,_=>cW6 _|m+1,h=>by simp only[gs];have:=cs3 λc (d:c<m)=>h c F;have:=h m F;omega
theorem bR2 (k:Int):∀m:Nat,gs (λc=>if k=(c:Int)then 1 else 0) m=if 0<=k/\k<(m:Int)then 1 else 0|0=>by rw[if_neg F];rfl|m+1=>by simp only[gs];rw[bR2 k m];by_cases h:k=(m:Int);rw[if_pos h,if_neg F,if_pos F];rw[if_neg h];by_cases a:0<=k/\k<(m:Int);rw[if_pos a,if_pos F];rw[if_neg a,if_neg F]
theorem bm5:∀m,gs (λ_=>0) m=0|0=>rfl|m+1=>by simp only[gs,bm5 m]
theorem bc1 {α:Type}(f:α->Int)(m:Nat):∀l:List α,(∀x∈l,0<=f x/\f x<(m:Int))->l.length=gs (λc=>(l.filter λx=>f x==(c:Int)).length) m
 |[],_=>by simp only[dd6,cX0,bm5]|x::l,h=>by
  have e:gs (λc=>((x::l).filter λx=>f x==(c:Int)).length) m=gs (λc=>(if f x=(c:Int)then 1 else 0)+(l.filter λx=>f x==(c:Int)).length) m:=YE λc _=>by rw[dc3];by_cases a:f x=(c:Int);rw[if_pos a,if_pos<|by simp[a],cU9];omega;rw[if_neg a,if_neg<|by simp[a]];omega
  rw[e,bc0,bR2,if_pos<|h x<|cV7 ..,<-bc1 f m l λy b=>h y<|cV3 _ b,cU9];omega
theorem bm4 {α:Type}(p:α->Bool)(l:List α):∀i,i<=l.length->((l.take i).filter p).length=gs (λc=>match l[c]?with|some x=>if p x then 1 else 0|none=>0) i
 |0,_=>rfl|i+1,h=>by
  have hi:i<l.length:=by omega
  simp only[gs];rw[<-bm4 p l i F,cQ4,bO6,IT,IN hi];congr 1;show(List.filter p [l[i]]).length=if p l[i]=true then 1 else 0;rw[dc3];by_cases hp:p l[i]=true;rw[if_pos hp,if_pos hp];rfl;rw[if_neg hp,if_neg hp];rfl
def YL {s:a7}(h:∀j∈s.o1,cI s.h9.ai9.length j):s.o1.length=gs (λc=>(K9 s.o1 (c:Int)).length) (2*s.h9.ai9.length):=bc1 (λj:k6=>yE j.Event) _ s.o1 λj a=>by have:=bu8<|h j a;push_cast;omega
theorem bP9 (l:List k6):(fl l).length=l.length:=by unfold fl;rw[cW2]
structure Rs (m:Nat)(t0:Int)(L:Nat->Bool)(N:Nat)(s:a7)(w:List e9):Prop where
 lE:m=2*s.h9.ai9.length
 low:t0<=s.b9.D2
 asc:w.Pairwise λa b=>a.At<=b.At
 Zv:∀x∈w,t0<=x.At/\x.At<=s.b9.D2
 yE:∀x∈w,0<=x.Channel/\x.Channel<(m:Int)alt:∀c,c<m->wy (L c) (swc w (c:Int)) (lvl s c)cnt:w.length+s.o1.length<=N
def Rs.go {m:Nat}{t0:Int}{L:Nat->Bool}{N:Nat}{s:a7}{w:List e9}(h:Rs m t0 L N s w)(e:mS s)(to:Int)(h1:s.b9.D2<=to)(k:to<=1099511627776):Rs m t0 L N (oU to s).2<|w++(oU to s).1:=by
 obtain⟨k1,k2,_,k4⟩:=Jy e to h1 k;obtain⟨g1,g2⟩:=bw4 (.of e) to h1;have g:=h.lE;have q:=h.low;have i:=h.cnt;refine⟨by rw[k2];exact g,by omega,cu5.2 ⟨h.asc,g1.asc,λa l b n=>?_⟩,λx hx=>?_,λx hx=>?_,λc f=>?_,?_⟩;have:=h.Zv a l;have:=g1.Zv b n;omega;rcases bX2.1 hx with hx|hx;have:=h.Zv x hx;omega;have:=g1.Zv x hx;omega;rcases bX2.1 hx with hx|hx;exact h.yE x hx;rw[g];exact g1.ch x hx;rw[Rg];refine Qj (h.alt c f)<|Yd (y:=fl<|K9 (oU to s).2.o1 (c:Int)) (d:=false) ?_<|Zf k1 (by rw[k2];omega);rw[g2 c F];exact Zf e F;have e1:=bc1 (λx:e9=>x.Channel) (2*s.h9.ai9.length) (oU to s).1 g1.ch;have e2:=YL k1.Pu;have o:=YL e.Pu;rw[k2]at e2;have j:=bc0 (λc=>((oU to s).1.filter λx=>x.Channel==(c:Int)).length) (λc=>(K9 (oU to s).2.o1 (c:Int)).length)<|2*s.h9.ai9.length;rw[<-e1,<-e2]at j;have p:gs (λc=>((oU to s).1.filter λx=>x.Channel==(c:Int)).length+(K9 (oU to s).2.o1 (c:Int)).length) (2*s.h9.ai9.length)=gs (λc=>(K9 s.o1 (c:Int)).length) (2*s.h9.ai9.length):=YE λc i=>by have:=congrArg cO3<|g2 c i;rw[IT,bP9,bP9]at this;unfold swc at this;rw[cW2]at this;exact this
 rw[p,<-o]at j;rw[IT];omega
theorem Rs.cut {m:Nat}{t0:Int}{L:Nat->Bool}{N:Nat}{s t:a7}{w out:List e9}(h:Rs m t0 L N s w)(n:mS s)(k:Sx.bG9 s t out):Rs m t0 L N t<|w++out:=by
  cases f:s.Cut;have z:=h.lE;have C:=h.low;have o:=h.cnt;have u:=k.now;have p:=n.chs;have ht:=k.ok.chs;rw[k.lE]at ht;refine⟨by rw[k.lE];exact z,F,cu5.2 ⟨h.asc,?_,λa v b y=>?_⟩,λx hx=>?_,λx hx=>?_,λc q=>?_,?_⟩;rw[cS3];intro a b i;have v:=k.sw a<|i.subset sq;have y:=k.sw b<|i.subset sq;omega;have:=h.Zv a v;have:=k.sw b y;omega;rcases bX2.1 hx with hx|hx;have:=h.Zv x hx;omega;have:=k.sw x hx;omega;rcases bX2.1 hx with hx|hx;exact h.yE x hx;have:=k.sw x hx;omega;rw[Rg];refine Qj (h.alt c q) ?_;have c1:c<s.b9.a8.length:=F;have c2:c<t.b9.a8.length:=F;rw[WZ c1,WZ c2];unfold swc;rcases k.lev c _ _ (IN c1) (IN c2)with⟨a,b⟩|⟨a,b,d⟩;rw[a];exact b.symm;rw[a,b,d];exact⟨rfl,rfl⟩;have e:=k.cnt f;have e2:=bm4 (λx:ai1=>x.s8) s.b9.a8 s.b9.a8.length<|cW6 _;rw[cZ0]at e2;have A:=YL n.Pu;have D:(s.b9.a8.filter λx=>x.s8).length<=gs (λc=>(K9 s.o1 (c:Int)).length) s.b9.a8.length:=by rw[e2];refine cs3 λc o=>?_;rw[IN o];show(if s.b9.a8[c].s8=true then 1 else 0)<=_;have l:=Zf n (c:=c) F;rw[WZ o]at l;cases g:s.b9.a8[c].s8;simp[g];rw[g]at l;cases B:K9 s.o1 (c:Int)with|nil=>rw[B]at l;cases l|cons j r=>simp[g]
  rw[<-p]at A;rw[IT];omega;obtain⟨e1,e2⟩:=k.same f;rw[e1,e2,iy];exact h
def Rs.alike {m:Nat}{t0:Int}{L:Nat->Bool}{N:Nat}{s t:a7}{w:List e9}(h:Rs m t0 L N s w)(h1:t.h9=s.h9)(a:t.b9=s.b9)(b:t.o1=s.o1):Rs m t0 L N t w:=⟨by rw[h1];exact h.lE,by rw[a];exact h.low,h.asc,by rw[a];exact h.Zv,h.yE,λc d=>by unfold lvl;rw[a];exact h.alt c d,by rw[b];exact h.cnt⟩
def Rs.more {m:Nat}{t0:Int}{L:Nat->Bool}{N M:Nat}{s:a7}{w:List e9}(h:Rs m t0 L N s w)(a:N<=M):Rs m t0 L M s w:=⟨h.lE,h.low,h.asc,h.Zv,h.yE,h.alt,by have:=h.cnt;omega⟩
theorem aF4 (now:Int)(k:A1)(u:List ai1×List k6):∀m,(Fh now k m u).1.map (λx=>x.s8)=u.1.map λx=>x.s8|0=>rfl|m+1=>by rw[Fh,bI9,aF4 now k u m]
def aL8 {α:Type}(c:Int->List α):∀l:List Int,l.Nodup->(∀x∈l,∀y∈l,c x≠[]->c y≠[]->x=y)->(∀x∈l,(c x).length<=6)->(l.flatMap c).length<=6
 |[],_,_,_=>by simp|x::l,f,h,g=>by
  rw[de2,IT];by_cases hx:c x=[];rw[hx];have:=aL8 c l (List.nodup_cons.1 f).2 (λa d b j=>h a (cV3 _ d) b<|cV3 _ j) λa d=>g a<|cV3 _ d;simp only[cX0];omega;have:l.flatMap c=[]:=by rw[List.flatMap_eq_nil_iff];intro y i;refine Classical.byContradiction λe=>?_;have:=h x (cV7 ..) y (cV3 _ i) hx e;subst this;exact(List.nodup_cons.1 f).1 i
  rw[this];have:=g x<|cV7 ..;simp only[cX0];omega
def bT4 {e:j5}(o:R5 e){a x y:Int}(hx:x∈e.ai9)(r:y∈e.ai9)(h1:dst a (Jw e x)<1152)(d:dst a (Jw e y)<1152):x=y:=by
 obtain⟨n1,n8,f0,f1,_,_⟩:=o;rcases IH x e.ai9 0 with⟨_,h⟩|⟨i,s,m⟩;exact absurd hx h;rcases IH y e.ai9 0 with⟨_,h⟩|⟨j,t,g⟩;exact absurd r h;have hi:=(No.1 m).1;have k:=(No.1 g).1;have key:i=j:=by
  unfold dst Jw cen at h1 d;rw[s,show q9 ((0+i:Nat):Int) 0=(i:Int)by unfold q9;split<;>omega]at h1;rw[t,show q9 ((0+j:Nat):Int) 0=(j:Int)by unfold q9;split<;>omega]at d;generalize e.ai9.length=n at n1 n8 hi k h1 d;have f:∀a b:Nat,a<n->b<n->a<b->5759<=(b:Int)*46080/(n:Int)-(a:Int)*46080/(n:Int)/\(b:Int)*46080/(n:Int)-(a:Int)*46080/(n:Int)<=40321:=λa b v w u=>by
   have:n=1\/n=2\/n=3\/n=4\/n=5\/n=6\/n=7\/n=8:=by omega
   rcases this with rfl|rfl|rfl|rfl|rfl|rfl|rfl|rfl<;>omega
  refine Classical.byContradiction λl=>?_;rcases Nat.lt_or_gt_of_ne l with c|c;have:=f i j hi k c;generalize(i:Int)*46080/(n:Int)=p at h1 this;generalize(j:Int)*46080/(n:Int)=q at d this;omega;have:=f j i k hi c;generalize(i:Int)*46080/(n:Int)=p at h1 this;generalize(j:Int)*46080/(n:Int)=q at d this;omega
 subst key;rw[m]at g;exact oa g
def cl5 {e:j5}{c:A1}{l:List o9}{t:Int}(a:R5 e)(d:lC e l=true)(h:c.K6<=1152):(e.ai9.flatMap<|Ih e c l t).length<=6:=aL8 _ _ a.2.2.2.2.2 (λx hx y f h1 g=>by
  have k:∀z:Int,Ih e c l t z≠[]->dst c.q7 (Jw e z)<1152:=λz hz=>by unfold Ih at hz;cases b:decide<|dst c.q7 (Jw e z)>=c.K6;have:=of_decide_eq_false b;omega;rw[b]at hz;exact absurd rfl hz
  exact bT4 a hx f (k x h1)<|k y g) λx _=>Xs a d
theorem Rs.sR {m:Nat}{t0:Int}{L:Nat->Bool}{N:Nat}{s:a7}{w:List e9}(h:Rs m t0 L N s w)(l:mS s)(c:A1)(q:c.K6<=1152)(a:(oS s c).2.2=0):Rs m t0 L (N+6) (oS s c).1<|w++(oS s c).2.1:=by
 unfold oS at a|-;cases h1:!Ji s||!AD c<;>rw[h1]at a;simp only[cT8]at a|-;cases n:!c.F8<;>rw[n]at a;simp only[cT8]at a|-;cases o:decide<|c.At<s.b9.D2<;>rw[o]at a;have A:=of_decide_eq_false o;have r:AD c=true:=by cases h:AD c;rw[h]at h1;simp at h1;rfl
 have p:c.At<=1099511627776:=by
  have:=r;unfold AD at this;have u:c.F8=true:=by simpa using n
  rw[u]at this;simp only[AT,cT8,BY,dg1]at this;omega
 have b:=h.go l c.At F p;obtain⟨k1,k2,B,k4⟩:=Jy l c.At F p;simp only[cT8,UN]at a|-;have e:(ju s c (oU c.At s).2.o1).length=(oU c.At s).2.o1.length:=by unfold ju;cases s.k7.F8;rfl;simp only[cT9,cW2]
 have v:=b.cnt;cases f:(oU c.At s).2.Cut<;>rw[f]at a;simp only[cT8]at a|-;cases x:decide<|((zS s c (oU c.At s).2).length:Int)>200<;>rw[x]at a;simp only[cT8];have y:(zS s c (oU c.At s).2).length<=(oU c.At s).2.o1.length+6:=by unfold zS;rw[IT,e];have:=cl5 (t:=VQ c) k1.lE k1.Ti q;omega
 have g:=congrArg cO3<|bj4<|Sc.mk (oU c.At s).2 c<|zS s c (oU c.At s).2;rw[cW2,cW2]at g;have k:=Oc<|Sc.mk (oU c.At s).2 c<|zS s c (oU c.At s).2;have i:(Af<|Sc.mk (oU c.At s).2 c<|zS s c (oU c.At s).2).b9.D2=(oU c.At s).2.b9.D2:=by unfold Af;split<;>rfl
 have j:∀d,lvl (Af<|Sc.mk (oU c.At s).2 c<|zS s c (oU c.At s).2) d=lvl (oU c.At s).2 d:=λd=>ck9 (by unfold Af;split;rfl;exact aF4 _ _ _ _) d;refine⟨by rw[k.lE];exact b.lE,by rw[i];exact b.low,b.asc,by rw[i];exact b.Zv,b.yE,λd z=>by rw[j];exact b.alt d z,?_⟩;rw[g];show _+(zS s c (oU c.At s).2).length<=_;omega;simp only[cT9]at a;cases a;simp only[cT9];refine⟨b.lE,b.low,b.asc,b.Zv,b.yE,b.alt,?_⟩;show _+(ju s c (oU c.At s).2.o1).length<=_;rw[e];omega;simp only[cT9]at a;cases a;simp only[cT9]at a;cases a;simp only[cT9]at a;cases a
end Go.Pv.Sc
namespace Go.Proofs.YtlbfdimlomockaaGreat.Ec
open Go Go.Pv Go.Proofs
theorem cs6 (o:bc):(vU o).m=some o:=rfl
theorem bS0 (n:bc)(e:Int)(o:bc):(jS n e o).m=some (bif e !=0 then o else n):=by simp only[jS,C.of,M.run];grind
theorem cK7 (n:Int):uk (H<|uk n 65536+65536) 65536=n%65536:=by have h:uk n 65536=n%65536-((if 0<=n\/65536∣n then 0 else Int.natAbs 65536:Nat):Int):=Int.tmod_eq_emod;have e:((65536:Int).natAbs:Int)=65536:=rfl;grind [b6]
def ce0 (t:Int)(q:bc):Prop:=qzB q=true/\q.jo<=t
def cf0 {s:k8}(d:SOk s)(p:ce0 s.t s.u.aS)(hp:0<=s.F7/\s.F7<=65535):∃q f r,(FF s).m=some {s with u.aS:=q}/\(bif s.u.aS.Open then(W7 s.u.aS.Question [s.c8,uk (H<|uk s.F7 65536+65536) 65536,7]).m.bind λv=>(P7 s.k 6 s.t).m.bind λb=>(bif b.2 then some (uk (H<|uk (H<|v+b.1) 65536+65536) 65536)else some v).bind λa=>(eo s.u.aS s.t a [s.c8,uk (H<|uk s.F7 65536+65536) 65536,7]).m.bind λr=>bif r.2==0 then some r.1 else some s.u.aS else some s.u.aS)=some f/\(od f s.t).m=some r/\(bif r.2.2==0 then some r.1 else some f)=some q/\ce0 s.t q:=by
 have ht:=d.t;have g:=sQ.2 ht;have w:quB s.u.aS.Question=true:=by have:=p.1;simp only[qzB,BY]at this;exact this.1.1.1.1.1.1
 have A:w16 s.F7:=hp;have h:w16 s.c8:=⟨d.La.1,by have:=d.La.2;omega⟩;have B:w16 7:=⟨dq,by decide⟩;have e1:(K2 s.F7 65536).m=some s.F7:=by rw[ax4 F F,Int.emod_eq_of_lt F F]
 have r1:uk (H<|uk s.F7 65536+65536) 65536=s.F7:=by rw[cK7,Int.emod_eq_of_lt F F]
 obtain⟨a,D,ra,E⟩:=ap4 w h A B;have e2:=Qh d.Ah 6;have i:=NH d.Ah s.t 6;generalize Qg s.k s.t 6=b at e2 i;have I:(K2 (H<|a+b.1) 65536).m=some (H (a+b.1)%65536):=ax4 F F;have key:∃f,(bif s.u.aS.Open then(K2 s.F7 65536).m.bind λt=>(vq s.u.aS.Question [s.c8,t,7]).m.bind λj=>(eK s 6).m.bind λl=>(bif l.2 then(K2 (H<|j.1+l.1) 65536).m.bind λt=>some t else some j.1).bind λy=>(vU s.u.aS).m.bind λz=>(EC s.u.aS s.t y [s.c8,t,7]).m.bind λo=>(jS o.1 o.2 z).m.bind λt=>some t else some s.u.aS)=some f/\(bif s.u.aS.Open then(W7 s.u.aS.Question [s.c8,uk (H<|uk s.F7 65536+65536) 65536,7]).m.bind λv=>(P7 s.k 6 s.t).m.bind λb=>(bif b.2 then some (uk (H<|uk (H<|v+b.1) 65536+65536) 65536)else some v).bind λa=>(eo s.u.aS s.t a [s.c8,uk (H<|uk s.F7 65536+65536) 65536,7]).m.bind λr=>bif r.2==0 then some r.1 else some s.u.aS else some s.u.aS)=some f/\ce0 s.t f:=by
  cases s.u.aS.Open;exact⟨_,rfl,rfl,p⟩;have J:∃x,(bif b.2 then(K2 (H<|a+b.1) 65536).m.bind λt=>some t else some a)=some x/\(bif b.2 then some (uk (H<|uk (H<|a+b.1) 65536+65536) 65536)else some a)=some x/\w16 x:=by rw[I,cK7];cases b.2;exact⟨_,rfl,rfl,E⟩;exact⟨_,rfl,rfl,by unfold w16;omega⟩
  obtain⟨x,K,r5,hx⟩:=J;obtain⟨r,e,L,N,O⟩:=bV3 p.1 g hx h A B;simp only[cT9,r1,e1,D,ra,e2,i,K,r5,L,N,cs6,bS0,oq];by_cases c:e=0;subst c;obtain⟨h1,P⟩:=O rfl;exact⟨r,rfl,rfl,h1,by omega⟩;rw[bnt c,bf c];exact⟨_,rfl,rfl,p⟩
 obtain⟨f,Q,R,C⟩:=key;obtain⟨r,n,e,S,T,U⟩:=cA1 C.1 g;refine⟨bif e !=0 then f else r,f,(r,n,e),?_,R,T,?_⟩;simp only[FF,CG.of,M.run];rw[Q];simp only[oq,S,cs6,bS0];by_cases c:e=0;subst c;obtain⟨h1,P⟩:=U rfl;exact⟨rfl,h1,by show r.jo<=s.t;omega⟩;simp only[bnt c,bf c];exact⟨rfl,C⟩
theorem bS1 (o:a7):(jT o).m=some o:=rfl
theorem bc4 (n:a7)(e:Int)(o:a7):(bh n e o).m=some (bif e !=0 then o else n):=by simp only[bh,C.of,M.run];grind
theorem Tb (s:k8)(n:a7)(l:List e9)(a:s.o8.length+l.length<=1073741824):(O3 s n l 0).m=some {s with u.c9:=n,o8:=s.o8++l}:=by simp_all[O3,CG.of,M.run,U1.m,bS1,bc4,l5]
theorem cp3 (s:k8)(n:a7)(l:List e9){e:Int}(a:¬e=0):(O3 s n l e).m=some s:=by simp only[O3,CG.of,M.run,U1.m,bS1,bc4,oq];rw[bnt a,bf a];rfl
structure Sch (s t:a7):Prop where
 ok:Sc.mS t
 Ah:t.Next.length<=8
 lE:t.h9=s.h9
 now:t.b9.D2=s.b9.D2
theorem cI0 (o:fJ):(IL o).m=some o:=rfl
theorem cy3 (n:fJ)(e:Int)(o:fJ):(wH n e o).m=some (bif e !=0 then o else n):=by simp only[wH,C.of,M.run];grind
theorem bR5 (s:a7)(h:s.b9.a8.length<=1000):(mD s).m=some (s.b9.a8.any λx=>x.s8):=by
 simp only[mD,C.of,M.run];have e:=Ov (l:=s.b9.a8) (mb:=λi=>(gS s i).run) (g:=λx=>bif x.s8 then some true else none) λi hi=>by simp only[gS,M.run,L1.m];rw[cU0 F,j2 _ _ hi,b6 F F];grind (by simp[gS,M.run]);refine C2 e ?_;have k:∀l:List ai1,l.findSome? (λx=>bif x.s8 then some true else none)=bif l.any λx=>x.s8 then some true else none:=λl=>by induction l with|nil=>rfl|cons x l a=>grind
 grind
theorem bN8 {s:a7}(h:Sch s s):(P3 s).m=some s:=by have a:=h.ok.most;have b:=h.ok.chs;have c:=h.ok.lE.2.1;have d:=h.Ah;grind [Cr,Sc.ba4]
def bb0 {s:k8}(B:sgB s.u.Q3=true/\s.u.Q3.Ce<=s.t)(q:grB s.u.dT=true)(z:qzB s.u.aS=true)(ht:T0 s.t=true)(h:Sch s.u.c9 s.u.c9)(C:s.y8.C1.length<=8)(h0:s.o8=[]):∃g c w,(yY s).m=some {s with u.c9:=c,u.Q3:=g,o8:=w}/\(mx s.u.Q3 true s.u.dT s.u.aS s.t).m=some g/\(bif g.J1 then(P3 s.u.c9).m.bind λv=>(bif v.Cut then(mD v).m.bind λv=>some !v else some false).bind λb=>(bif b then some false else some v.Cut).bind λf=>(W3 s.u.c9.h9 s.y8.C1).m.bind λy=>bif y then(G2 ([]:List o9) s.y8.C1).bind λl=>some (([]:List e9),({v with Next:=l,Cut:=f}:a7))else some ([],{v with Cut:=f})else(il s.u.c9).m.bind λr=>(G2 ([]:List e9) r.2).bind λl=>some (l,r.1))=some (w,c)/\(sgB g=true/\g.Ce<=s.t)/\Sch s.u.c9 c/\Sc.Rs (2*s.u.c9.h9.ai9.length) s.u.c9.b9.D2 (Sc.lvl s.u.c9) 200 c w:=by
 have L:=h.ok.most;have N:=h.ok.chs;have O:=h.ok.lE.2.1;have p:=h.Ah;obtain⟨g,e1,r1,h1,A⟩:=co3 true B.1 q z ht B.2;have k0:Sc.Rs (2*s.u.c9.h9.ai9.length) s.u.c9.b9.D2 (Sc.lvl s.u.c9) 200 s.u.c9 []:=⟨rfl,by omega,.nil,by simp,by simp,λc _=>rfl,by grind⟩;simp only[yY,CG.of,M.run,cI0,cy3,e1,oq,show((0:Int)!=0)=false from rfl,cT8];refine⟨g,?_⟩;cases P:g.J1;obtain⟨t,l,e2,r2,k⟩:=Sc.Sx.bq2 h.ok F;have Q:=k.Ah;have D:=Tb {s with u.Q3:=g} t l gq;simp only[cV8,cT9,cT8,Is,DJ,e2,r2,oq];rw[D,l5 _ _ gq];simp only[oq];refine⟨t,l,?_,r1,rfl,⟨h1,A⟩,⟨k.ok,by rw[k.next];exact p,k.lE,k.now⟩,k0.cut h.ok k⟩;rw[h0];rfl;simp only[AT,cT9,cT8,bN8 h,bR5 s.u.c9 F,OU,yB,Sc.ZV _ _ h.ok.lE<|show s.y8.C1.length<=1000000 by omega,Sc.bh0 s.u.c9 F F F,Sc.vB.2 h.ok,bS1,bc4,oq];have i:Sch s.u.c9 {s.u.c9 with Cut:=s.u.c9.Cut&&s.u.c9.b9.a8.any λx=>x.s8}:=by cases o:s.u.c9.Cut;rw[Bool.false_and,<-o];exact h;cases hx:s.u.c9.b9.a8.any λx=>x.s8;exact⟨Sc.cm0 h.ok,p,rfl,rfl⟩;rw[dd8,<-o];exact h
 have E:(bif s.u.c9.Cut then some<|bif (bif !s.u.c9.Cut||s.u.c9.b9.a8.any λx=>x.s8 then(Sc.Ju,(6:Int))else(Sc.Zi s.u.c9,0)).2!=0 then s.u.c9 else(bif !s.u.c9.Cut||s.u.c9.b9.a8.any λx=>x.s8 then(Sc.Ju,(6:Int))else(Sc.Zi s.u.c9,0)).1else some s.u.c9)=some ({s.u.c9 with Cut:=s.u.c9.Cut&&s.u.c9.b9.a8.any λx=>x.s8}:a7):=by
  have key:∀(c:a7)(a:Bool),(bif c.Cut then some<|bif (bif !c.Cut||a then(Sc.Ju,(6:Int))else(Sc.Zi c,0)).2!=0 then c else(bif !c.Cut||a then(Sc.Ju,(6:Int))else(Sc.Zi c,0)).1else some c)=some {c with Cut:=c.Cut&&a}:=λc a=>by obtain⟨e,k,t,n,j,cut⟩:=c;cases cut<;>cases a<;>rfl
  exact key s.u.c9 _
 have I:∀{β:Type}(d:Bool->Option β),(bif s.u.c9.Cut then some !s.u.c9.b9.a8.any λx=>x.s8 else some false).bind (λb=>(bif b then some false else some s.u.c9.Cut).bind d)=d (s.u.c9.Cut&&s.u.c9.b9.a8.any λx=>x.s8):=λd=>by cases s.u.c9.Cut;rfl;cases s.u.c9.b9.a8.any λx=>x.s8<;>rfl
 rw[E,I];generalize(s.u.c9.Cut&&s.u.c9.b9.a8.any λx=>x.s8)=J at i|-;simp only[oq];rw[RL,Sc.ca1 {s.u.c9 with Cut:=J} s.y8.C1 (show s.u.c9.Next.length<=1000000 by omega) (show s.u.c9.o1.length<=1000000 by omega) F,Sc.vB.2 i.ok,cV0];simp only[oq];cases K:Sc.lC s.u.c9.h9 s.y8.C1;exact⟨_,s.o8,rfl,r1,by rw[h0];rfl,⟨h1,A⟩,i,by rw[h0];exact k0.alike rfl rfl rfl⟩;rw[l5 _ _<|by simp only[cX0];omega];exact⟨_,s.o8,rfl,r1,by rw[h0];rfl,⟨h1,A⟩,⟨Sc.cq5 i.ok K,C,rfl,rfl⟩,by rw[h0];exact k0.alike rfl rfl rfl⟩
end Go.Proofs.YtlbfdimlomockaaGreat.Ec
namespace Go.Pv.Sc
open Go Go.Pv Go.Pv.Ev
def aU5 {s:a7}(d:mS s)(c:A1):(oS s c).2.1.length<=3200/\((oS s c).2.2=0->(oS s c).1.h9=s.h9/\(oS s c).1.Next=s.Next/\(oS s c).1.b9.D2=c.At)/\(c.F8=false->(oS s c).2.2≠0):=by
 unfold oS;cases h1:!Ji s||!AD c;cases i:!c.F8;have j:c.F8=true:=by grind
 cases f:decide<|c.At<s.b9.D2;have l:=of_decide_eq_false f;have m:AD c=true:=by grind
 have g:c.At<=1099511627776:=by simp_all[AD]
 obtain⟨_,_,b,a,_⟩:=WW (.of d) c.At F g;have e:=bm0 d c.At F;simp only[cT8,UN];cases(oU c.At s).2.Cut;cases decide<|((zS s c (oU c.At s).2).length:Int)>200;refine⟨e,λ_=>?_,λh=>by grind⟩;have k:=Oc<|mk (oU c.At s).2 c<|zS s c (oU c.At s).2;refine⟨k.lE.trans b.lE,k.next.trans b.next,?_⟩;show(Af _).b9.D2=c.At;unfold Af;split<;>exact a;simp;exact⟨e,λ_=>⟨b.lE,b.next,a⟩,λh=>by grind⟩;simp;simp;simp
end Go.Pv.Sc
namespace Go.Proofs.YtlbfdimlomockaaGreat.Ec
open Go Go.Pv Go.Proofs
theorem n0:((0:Int)!=0)=false:=rfl
theorem bsx {α:Type}(x:Option α):(x.bind λt=>some t)=x:=by simp
structure PI (T:Int)(s t:a7):Prop where
 ok:Sc.mS t
 Ah:t.Next.length<=8
 lE:t.h9=s.h9
 now:t.b9.D2<=T
def PI.self {T:Int}{s t:a7}(h:PI T s t):PI T t t:=⟨h.ok,h.Ah,rfl,h.now⟩
abbrev upE (u:Z6)(c:a7)(y:T2)(p:I2)(f:N3):Z6:={u with c9:=c,G6:=y,C6:=p,H4:=f}
abbrev upS (s:k8)(c:a7)(y:T2)(p:I2)(f:N3)(w:List e9):k8:={s with u.c9:=c,u.G6:=y,u.C6:=p,u.H4:=f,o8:=w}
def ab1 {T a t0:Int}{s:k8}{m N:Nat}{L:Nat->Bool}(h:PI T s.u.c9 s.u.c9)(hk:Sc.Rs m t0 L N s.u.c9 s.o8)(p:T<=a)(e:a<=1099511627776)(q:N<=100000):∃c w,(pb s a).m=some {s with u.c9:=c,o8:=s.o8++w}/\(∀v:Z6,v.c9=s.u.c9->(iv v a).m=some ({v with c9:=c},w))/\PI a s.u.c9 c/\Sc.Rs m t0 L N c (s.o8++w):=by have r:=h.ok.most;have i:=h.Ah;have x:=h.now;have j:=hk.cnt;have e1:=Sc.bq0 h.ok F a F e;have r1:=Sc.bf6 (.of h.ok) a F F;obtain⟨k1,k2,f,k4⟩:=Sc.Jy h.ok a F e;have n:=Sc.bm0 h.ok a F;have b:=hk.go h.ok a F e;have d:=b.cnt;generalize Sc.oU a s.u.c9=g at e1 r1 k1 k2 f k4 n b d;obtain⟨t,l,e2,r2,k⟩:=Sc.Sx.bq2 k1 gq;have y:=k.Ah;rw[IT]at d;refine⟨t,g.1++l,?_,λv o=>?_,⟨k.ok,by rw[k.next,f];exact i,k.lE.trans k2,by rw[k.now];omega⟩,?_⟩;simp only[pb,CG.of,M.run,Cs,Is,e1,oq];grind [Tb];simp only[iv,C.of,M.run,U1.m,o,wv,DJ,r1,r2,oq];grind [l5];rw[<-cW5];exact b.cut k1 k
theorem Ug {s:k8}{n:T2}{a:Int}(h:(s.u.G6.Mode !=0&&n.Mode==0)=false):(M5 s n a).m=some {s with u.G6:=n}:=by simp only[M5,CG.of,M.run,h,cT8]
theorem Yz {s:k8}{n:T2}{a:Int}(h:(s.u.G6.Mode !=0&&n.Mode==0)=true):(M5 s n a).m=(pb {s with u.G6:=n,u.C6:=⟨false,0,0,false⟩} a).m:=by simp only[M5,CG.of,M.run,h,cT9,bU9,oq,bsx]
theorem aN8 {u v:Z6}{a:Int}{w:List e9}(h:(iv {u with C6:=⟨false,0,0,false⟩} a).m=some (v,w)):(gi u a).m=some (v,w):=by simp only[gi,C.of,M.run,h,oq]
theorem cs5 (o:I2):(AO o).m=some o:=rfl
theorem bR9 (n:I2)(e:Int)(o:I2):(nT n e o).m=some (bif e !=0 then o else n):=by simp only[nT,C.of,M.run];grind
theorem bS3 (o:T2):(Dp o).m=some o:=rfl
theorem bc5 (n:T2)(e:Int)(o:T2):(qG n e o).m=some (bif e !=0 then o else n):=by simp only[qG,C.of,M.run];grind
theorem cH8 (o:N3):(GX o).m=some o:=rfl
theorem cy1 (n:N3)(e:Int)(o:N3):(ue n e o).m=some (bif e !=0 then o else n):=by simp only[ue,C.of,M.run];grind
def cB8 {y:T2}(h:syB y=true)(a:y.Mode=2):(0<=y.aU/\y.aU<58)/\0<=y.q8/\y.q8<=1099511627776:=by unfold syB at h;rw[a]at h;simp only[BY,dg1,sQ,if_neg<|show¬(2:Int)=0 by omega,if_neg<|show¬(2:Int)=1 by omega,if_true]at h;omega
def an8 {T a t0:Int}{s:k8}{m N:Nat}{L:Nat->Bool}{y:T2}{p:I2}{g:N3}(h:PI T s.u.c9 s.u.c9)(hk:Sc.Rs m t0 L N s.u.c9 s.o8)(A:T<=a)(i:syB y=true)(j:y.Mode=2)(B:N<=100000):∃c w,((BE w0 a y.aU p.Ed y.q8).m.bind λr=>(kN s.u.c9 r.1).m.bind λq=>(O3 {s with u.G6:=y,u.C6:=p,u.H4:=g} q.1 q.2.1 q.2.2).m)=some (upS s c y p g<|s.o8++w)/\((ka w0 a y.aU p.Ed y.q8).m.bind λr=>bif r.2==0 then(ki s.u.c9 r.1).m.bind λq=>bif q.2.2==0 then some ({s.u with c9:=q.1,G6:=y,C6:=p,H4:=g},q.2.1)else some ({s.u with G6:=y,C6:=p,H4:=g},([]:List e9))else some ({s.u with G6:=y,C6:=p,H4:=g},[]))=some (upE s.u c y p g,w)/\PI a s.u.c9 c/\Sc.Rs m t0 L (N+6) c (s.o8++w):=by
 obtain⟨k,l⟩:=cB8 i j;have C:=h.ok.most;have n:=h.Ah;have D:=h.now;have E:=hk.cnt;obtain⟨c,e,e1,r1,c1,c2,o⟩:=bs6 (t:=a) (h:=p.Ed) k l;have e2:=Sc.bD0 s.u.c9 c F F;have r2:=Sc.bC4 s.u.c9 c F F;obtain⟨k1,k2,x⟩:=Sc.aU5 h.ok c;have kt:=hk.sR h.ok c o;have f:=Sc.cb1 (s:=s.u.c9) (c:=c);simp only[e1,r1,PW,LG,e2,r2,oq];generalize Sc.oS s.u.c9 c=v at k1 k2 x kt f|-;by_cases b:v.2.2=0;obtain⟨z,I,a3⟩:=k2 b;have d:e=0:=by grind
 rw[b,d,Tb _ _ _ gq];exact⟨v.1,v.2.1,rfl,rfl,⟨f b,by grind,z,by omega⟩,kt b⟩;rw[cp3 _ _ _ b,bf b];refine⟨s.u.c9,[],by simp,?_,⟨h.ok,n,rfl,by omega⟩,by rw[iy];exact hk.more F⟩;simp
structure Tee (T:Int)(u:Z6):Prop where
 sch:PI T u.c9 u.c9
 sy:syB u.G6=true/\u.G6.A6<=T
 ph:Zq u.C6=true
 tf:tfB u.H4=true/\u.H4.A6<=T
 lnk:u.G6.Mode≠0->u.H4.Seen=true/\u.G6.A6<=u.H4.A6
def bD5 {T a t0:Int}{s:k8}{m N:Nat}{L:Nat->Bool}(h:Tee T s.u)(hk:Sc.Rs m t0 L N s.u.c9 s.o8)(R:0<=T)(q:T<=a)(t:a<=1099511627776)(S:N<=90000):∃c y p f w,(AQ s a).m=some (upS s c y p f<|s.o8++w)/\(uu s.u a).m=some (upE s.u c y p f,w)/\Tee a (upE s.u c y p f)/\c.h9=s.u.c9.h9/\Sc.Rs m t0 L (N+6) c (s.o8++w):=by
 have ht:T0 a=true:=sQ.2 ⟨F,t⟩;have B:=h.sch.now;obtain⟨g,ok,e1,r1,g1,g2,D⟩:=cp5 h.tf.1 ht (by have:=h.tf.2;omega);simp only[AQ,uu,CG.of,C.of,M.run,cH8,cy1,e1,r1,oq,n0,cT8];cases ok;have E:=g2 rfl;subst E;exact⟨s.u.c9,s.u.G6,s.u.C6,s.u.H4,[],by simp,rfl,⟨⟨h.sch.ok,h.sch.Ah,rfl,by grind⟩,⟨h.sy.1,by have:=h.sy.2;grind⟩,h.ph,⟨h.tf.1,by have:=h.tf.2;grind⟩,h.lnk⟩,rfl,by rw[iy];exact hk.more F⟩;obtain⟨ga,U,I⟩:=D rfl;obtain⟨y,e2,r2,v,z⟩:=cp1 h.sy.1 ht (λd=>by obtain⟨J,V⟩:=h.lnk d;have:=I J;omega);have K:y.A6<=a:=by rcases z with rfl|z;show(0:Int)<=a;omega;omega
 have PE:∀(c:a7)(p:I2),PI a s.u.c9 c->Zq p=true->Tee a (upE s.u c y p g):=λc p O hp=>⟨O.self,⟨v,K⟩,hp,⟨g1,by show g.A6<=a;omega⟩,λd=>⟨ga,by show y.A6<=g.A6;omega⟩⟩;have l:PI a s.u.c9 s.u.c9:=⟨h.sch.ok,h.sch.Ah,rfl,by omega⟩;simp only[db8,AT,cT8,bS3,bc5,OK,QX,e2,r2,oq,n0];cases d:s.u.G6.Mode !=0&&y.Mode==0;have e:(y.Mode==0&&s.u.G6.Mode !=0)=false:=by rw[Bool.and_comm];exact d
 rw[Ug (s:={s with u.H4:=g}) d,e];simp only[oq,cT8];cases P:y.Mode !=2;have n:y.Mode=2:=by simpa using P
 simp only[cT8];cases y.aU==0;simp only[cT8,oq];cases s.u.C6.hL;exact⟨s.u.c9,y,s.u.C6,g,[],by rw[iy];rfl,rfl,PE _ _ l h.ph,rfl,by rw[iy];exact hk.more F⟩;obtain⟨c,w,i,j,b,k⟩:=an8 (p:=s.u.C6) (g:=g) h.sch hk q v n F;simp only[cT9,bsx];exact⟨c,y,s.u.C6,g,w,i,j,PE _ _ b h.ph,b.lE,k⟩;obtain⟨r,Q,r3,A⟩:=cm3 h.ph;simp only[cT9,cs5,bR9,Sa,aR0,Q,r3,oq,n0,cT8];cases o:r.hL;obtain⟨c,w,i,j,b,k⟩:=ab1 (s:={s with u.H4:=g,u.G6:=y,u.C6:=r}) h.sch hk q t F;simp only[cV8,cT9,i,oq,o,cT8];rw[j _ rfl];exact⟨c,y,r,g,w,rfl,rfl,PE _ _ b A,b.lE,k.more F⟩;simp only[AT,cT8,oq,o,cT9,bsx];obtain⟨c,w,i,j,b,k⟩:=an8 (p:=r) (g:=g) h.sch hk q v n F;exact⟨c,y,r,g,w,i,j,PE _ _ b A,b.lE,k⟩;exact⟨s.u.c9,y,s.u.C6,g,[],by rw[iy];rfl,rfl,PE _ _ l h.ph,rfl,by rw[iy];exact hk.more F⟩;have e:(y.Mode==0&&s.u.G6.Mode !=0)=true:=by rw[Bool.and_comm];exact d
 have x:y.Mode=0:=by rw[BY]at d;simpa using d.2
 obtain⟨c,w,i,j,b,k⟩:=ab1 (s:={s with u.H4:=g,u.G6:=y,u.C6:=⟨false,0,0,false⟩}) h.sch hk q t F;rw[Yz (s:={s with u.H4:=g}) d,e,i];simp only[oq,cT9,x];rw[aN8 (u:={s.u with G6:=y,H4:=g})<|j _ rfl];exact⟨c,y,⟨false,0,0,false⟩,g,w,rfl,rfl,PE _ _ b be4,b.lE,k.more F⟩
def ar6 {s:k8}(hp:Zq s.u.C6=true)(x:Int)(l:List Int):∃q,Zq q=true/\(qH s<|x::l).m=some ({s with u.C6:=q},l)/\(fZ s.u.C6).m=some q:=by
 obtain⟨r,e1,r1,h1⟩:=cz8 hp;have a:U4 (x::l) 1 ((x::l).length:Int)=some l:=by unfold U4;grind
 simp only[qH,CG.of,M.run,U1.m,cs5,bR9,Sa,e1,a,oq,n0,cT8];grind
def cG2 {B C:Type}{l:List Int}{W:Int->Int}{a:List Int×k8->Option (List Int×k8⊕List Int×k8⊕B)}{fr:Int×I2->Option (Int×I2⊕Int×I2⊕C)}(h0:∀st,a ([],st)=some (.inr<|.inl ([],st)))(r0:∀p,fr ((l.length:Int),p)=some (.inr<|.inl ((l.length:Int),p)))(h1:∀(j:Nat)(_:j<l.length)(st:k8),Zq st.u.C6=true->(∃q,Zq q=true/\a ((l.drop j).map W,st)=some (.inl ((l.drop<|j+1).map W,{st with u.C6:=q}))/\fr ((j:Int),st.u.C6)=some (.inl (((j+1:Nat):Int),q)))\/a ((l.drop j).map W,st)=some (.inr<|.inl ((l.drop j).map W,st))/\fr ((j:Int),st.u.C6)=some (.inr<|.inl ((j:Int),st.u.C6))):∀(n j:Nat)(st:k8),n+j=l.length->Zq st.u.C6=true->∃(k:Nat)(q:I2),k<=l.length/\Zq q=true/\o3 a ((l.drop j).map W,st)=some (.inl ((l.drop k).map W,{st with u.C6:=q}))/\o3 fr ((j:Int),st.u.C6)=some (.inl ((k:Int),q)):=by
 intro n;induction n with|zero=>
  intro j st c hp;have:j=l.length:=by omega
  subst this;refine⟨l.length,st.u.C6,cW6 _,hp,j3 ?_,j3<|r0 _⟩;simp_all|succ n d=>intro j st c hp;rcases h1 j F st hp with⟨q,e,e1,e2⟩|⟨e1,e2⟩;obtain⟨k,f,hk,b,g,h⟩:=d (j+1) {st with u.C6:=q} F e;exact⟨k,f,hk,b,by rw[j7 e1];exact g,by rw[j7 e2];exact h⟩;exact⟨j,st.u.C6,by omega,hp,j3 e1,j3 e2⟩
abbrev WU (u:Z6)(e:Int):Int:=Gr u.Time u.o6.y5 u.o6.n4 e
def cd9 (u:Z6)(l:List Int):Prop:=∀x∈l,u.o6.y5/65536<x/\x<=(u.o6.y5+10000*u.o6.n4)/65536
def bw9 {u:Z6}{l:List Int}{b:Bool}(f:WhO u.Time u.o6.y5 u.o6.n4)(hx:cd9 u l)(n:l.length<=1000)(a:Int)(j:Nat)(c:j<=l.length)(st:k8)(hp:Zq st.u.C6=true):∃(k:Nat)(q:I2),k<=l.length/\Zq q=true/\o3 (λx=>(wM a x).run) ((l.drop j).map<|WU u,st)=some (.inl ((l.drop k).map<|WU u,{st with u.C6:=q}))/\o3 (λx=>(gQ u (l,b) a x).run) ((j:Int),st.u.C6)=some (.inl ((k:Int),q)):=cG2 (λ_=>rfl) λp=>by simp[gQ,M.run] λj c st hp=>by have g:=bw1 c;have d:=hx _<|al8 c;have e:=aU9 f d.1 d.2;obtain⟨q,o,h,i⟩:=ar6 hp (WU u l[j])<|(l.drop<|j+1).map<|WU u;simp only[wM,gQ,M.run,L1.m,g,ew];rw[cU0<|show(((WU u l[j]::(l.drop<|j+1).map (WU u)).length:Nat):Int)>0 by simp,cU0<|show(j:Int)<(l.length:Int)by omega,j2 _ _ c,show y3 (WU u l[j]::(l.drop<|j+1).map (WU u)) 0=some (WU u l[j])from rfl];simp only[cT9,oq,e];cases decide<|WU u l[j]<=a;simp;simp only[cT9,h,i,oq];rw[b6 F F];grind (l.length-j) j st F hp
def bS9 {u:Z6}{l:List Int}{b:Bool}(f:l.length<=1000)(j:Nat)(a:j<=l.length)(st:k8)(hp:Zq st.u.C6=true):∃(k:Nat)(q:I2),k<=l.length/\Zq q=true/\o3 (λx=>(wN x).run) ((l.drop j).map<|WU u,st)=some (.inl ((l.drop k).map<|WU u,{st with u.C6:=q}))/\o3 (λx=>(gR (l,b) x).run) ((j:Int),st.u.C6)=some (.inl ((k:Int),q)):=cG2 (λ_=>rfl) λp=>by simp[gR,M.run] λj a st hp=>by have c:=bw1 a;obtain⟨q,g,d,e⟩:=ar6 hp (WU u l[j])<|(l.drop<|j+1).map<|WU u;simp only[wN,gR,M.run,c,ew];rw[cU0<|show(((WU u l[j]::(l.drop<|j+1).map (WU u)).length:Nat):Int)>0 by simp,cU0<|show(j:Int)<(l.length:Int)by omega];simp only[cT9,d,e,oq];rw[b6 F F];grind (l.length-j) j st F hp
structure Trn (s:k8)(m:Nat)(t0:Int)(L:Nat->Bool)(N:Nat)(T:Int)(c:a7)(y:T2)(p:I2)(f:N3)(w:List e9):Prop where
 PE:Tee T (upE s.u c y p f)lo:s.t<=T
 hi:T<=s.t+10000
 lE:c.h9=s.u.c9.h9
 trk:Sc.Rs m t0 L N c<|s.o8++w
def bv3 {s:k8}{m N:Nat}{t0:Int}{L:Nat->Bool}{l1 l2:List Int}{b1 b2:Bool}(h:Tee s.t s.u)(hk:Sc.Rs m t0 L N s.u.c9 s.o8)(l:WhO s.u.Time s.u.o6.y5 s.u.o6.n4)(U:s.u.Time=s.t)(ht:s.t+10000<=549755813888)(D:cd9 s.u l1)(I:cd9 s.u l2)(n1:l1.length<=105)(J:l2.length<=1000)(E:l1.Pairwise (·<·))(V:N<=1000):∃(S:List Int×k8)(R:List e9×Int×Int×Z6⊕Empty),o3 (λp:Int×List Int×k8=>bif decide<|p.1<((l1.map<|WU s.u).length:Int)then(y3 (l1.map<|WU s.u) p.1).bind λx=>((λi x u=>(nV i x u).run) p.1 x p.2).bind<|iH p.1else some<|.inr<|.inl p.2) (0,(l2.map<|WU s.u,s))=some (.inl S)/\o3 (λx=>(bB s.u (l1,b1) (l2,b2) x).run) ([],0,0,s.u)=some R/\∃(j:Nat)(i T:Int)(c:a7)(y:T2)(p:I2)(f:N3)(w:List e9),S=((l2.drop j).map<|WU s.u,upS s c y p f<|s.o8++w)/\R=.inl (w,(j:Int),i,upE s.u c y p f)/\j<=l2.length/\Trn s m t0 L (N+630) T c y p f w:=by
 have W:=l.t;refine OB (l1.map<|WU s.u) gq (λi x u=>(nV i x u).run) (g:=λx=>(bB s.u (l1,b1) (l2,b2) x).run) (λk S R=>∃(j:Nat)(T:Int)(c:a7)(y:T2)(p:I2)(f:N3)(w:List e9),S=((l2.drop j).map<|WU s.u,upS s c y p f<|s.o8++w)/\R=(w,(j:Int),(k:Int),upE s.u c y p f)/\j<=l2.length/\(∀x∈l1.drop k,T<=WU s.u x)/\Trn s m t0 L (N+6*k) T c y p f w) (λS R=>∃(j:Nat)(i T:Int)(c:a7)(y:T2)(p:I2)(f:N3)(w:List e9),S=((l2.drop j).map<|WU s.u,upS s c y p f<|s.o8++w)/\R=.inl (w,(j:Int),i,upE s.u c y p f)/\j<=l2.length/\Trn s m t0 L (N+630) T c y p f w) (l2.map<|WU s.u,s) ([],0,0,s.u) ⟨0,s.t,s.u.c9,s.u.G6,s.u.C6,s.u.H4,[],by simp,rfl,by omega,λx hx=>?_,h,by omega,by omega,rfl,by grind⟩ ?_ ?_;have e:=D x hx;have:=(Xl l e.1 e.2).1;grind;rintro k d S R ⟨j,T,c,y,p,f,w,rfl,rfl,hj,hx,a1,a2,a3,a4,a5⟩;rw[cW2]at d;rw[cX7];have e:=D _<|al8 d;have n:=aU9 l e.1 e.2;have K:=Xl l e.1 e.2;have o:=hx l1[k] (by rw[bw1 d];exact cV7 ..);obtain⟨r,q,z,O,e1,r1⟩:=bw9 (b:=b2) l I J (WU s.u l1[k]) j hj (upS s c y p f<|s.o8++w) a1.ph;obtain⟨c2,A,p2,B,C,e2,r2,t2,g2,k2⟩:=bD5 (s:=upS s c y q f<|s.o8++w) (T:=T) (a:=WU s.u l1[k]) ⟨a1.sch,a1.sy,O,a1.tf,a1.lnk⟩ a5 F o (by show Gr _ _ _ _<=_;omega) F;have P:=k2.cnt;rw[IT,IT]at P;refine⟨((l2.drop r).map<|WU s.u,upS s c2 A p2 B<|s.o8++(w++C)),(w++C,(r:Int),((k+1:Nat):Int),upE s.u c2 A p2 B),?_,?_,r,WU s.u l1[k],c2,A,p2,B,w++C,rfl,rfl,z,λx hx=>?_,t2,by show s.t<=Gr _ _ _ _;omega,by show Gr _ _ _ _<=_;omega,g2.trans a4,?_⟩;simp only[nV,M.run];rw[e1];simp only[oq];rw[e2,<-cW5];rfl;simp only[bB,M.run,L1.m,U1.m];rw[cU0<|show(k:Int)<(l1.length:Int)by omega,j2 _ _ d];simp only[cT9,oq,n];refine C2 r1 ?_;simp only;rw[r2];simp only[oq];rw[l5 _ _ F,b6 F F];rfl;rw[bw1 d]at*;have Q:l1[k]<x:=by rw[dd5]at E;obtain⟨i,hi,rfl⟩:=List.getElem_of_mem hx;rw[List.getElem_drop];exact E k (k+1+i) d (by simp at hi;omega) F
 exact bE5 l.v.1 F;rw[<-cW5];exact k2;rintro S R ⟨j,T,c,y,p,f,w,rfl,rfl,hj,hx,a1,a2,a3,a4,a5⟩;rw[cW2]at a5|-;refine⟨.inl (w,(j:Int),(l1.length:Int),upE s.u c y p f),?_,j,_,T,c,y,p,f,w,rfl,rfl,hj,a1,a2,a3,a4,a5.more F⟩;simp only[bB,M.run];rw[cU1 F];rfl
def bl4 {s:k8}{m N:Nat}{t0 T:Int}{L:Nat->Bool}{c:a7}{y:T2}{p:I2}{f:N3}{w:List e9}(h:Trn s m t0 L N T c y p f w)(ht:0<=s.t/\s.t+10000<=549755813888)(A:N<=10000):∃d v,((bW c<|H<|s.t+10000).m.bind λr=>(O3 (upS s c y p f<|s.o8++w) r.1 r.2.1 r.2.2).m)=some (upS s d y p f<|s.o8++(w++v))/\((bq c<|H<|s.t+10000).m.bind λr=>(G2 w r.2).bind λl=>some (({upE s.u c y p f with c9:=r.1}:Z6),l))=some (upE s.u d y p f,w++v)/\Trn s m t0 L N (s.t+10000) d y p f (w++v)/\d.b9.D2=s.t+10000:=by obtain⟨a,B,a3,a4,a5⟩:=h;have b:=a.sch;have ok:=b.ok;have o:=b.Ah;have q:=b.now;have x:=ok.most;simp only at ok o q x;have e1:=Sc.bq0 ok F (s.t+10000) F F;have r1:=Sc.bf6 (.of ok) (s.t+10000) F F;obtain⟨k1,k2,z,k4⟩:=Sc.Jy ok (s.t+10000) F F;have e:=a5.go ok (s.t+10000) F F;have i:=e.cnt;rw[IT,IT]at i;generalize Sc.oU (s.t+10000) c=g at e1 r1 k1 k2 z k4 e i;rw[b6 (n:=s.t+10000) F F,Cs,wv,e1,r1];simp only[oq];rw[Tb _ _ _ gq,l5 _ _ F];have j:=a.sy;have k:=a.tf;simp only at j k;refine⟨g.2,g.1,by simp,rfl,⟨⟨⟨k1,by grind,rfl,by grind⟩,⟨j.1,by grind⟩,a.ph,⟨k.1,by grind⟩,a.lnk⟩,by omega,by omega,k2.trans a4,by grind⟩,k4⟩
def ar7 {s:k8}{m N:Nat}{t0:Int}{L:Nat->Bool}(r:(tE w0 s.u.G6 s.t).m=some (s.u.G6,0))(h:Tee s.t s.u)(hk:Sc.Rs m t0 L N s.u.c9 s.o8)(hp:VX s.u.mR s.u.o6)(ht:0<=s.t/\s.t+10000<=549755813888)(e:s.u.Time=s.t)(I:N<=1000):∃c y p f w,(fN s).m=some (upS s c y p f<|s.o8++w)/\(mB s.u).m=some (upE s.u c y p f,w)/\Trn s m t0 L (N+630) (s.t+10000) c y p f w/\c.b9.D2=s.t+10000:=by
 have g:=hp.pos;have k:H (s.u.Time+10000)=H (s.t+10000):=by rw[e]
 have A:=hp.La;have J:(M5 s s.u.G6 s.t).m=some s:=Ug (by simp);have K:H (bQ2 s.u.o6.y5 65536)=s.u.o6.y5/65536:=by grind [b6]
 have O:H (bQ2 (H<|s.u.o6.y5+H (10000*s.u.o6.n4)) 65536)=(s.u.o6.y5+10000*s.u.o6.n4)/65536:=by grind [b6]
 obtain⟨b1,b2⟩:=aF9 (a:=s.u.o6.y5/65536) (b:=(s.u.o6.y5+10000*s.u.o6.n4)/65536) F F F;obtain⟨B,D⟩:=au9 (a:=s.u.o6.y5/65536) (b:=(s.u.o6.y5+10000*s.u.o6.n4)/65536) F F F F;obtain⟨n,n1,P⟩:=bN9 (s.u.o6.y5/65536)<|(s.u.o6.y5+10000*s.u.o6.n4)/65536;obtain⟨o,Q⟩:=cv7 (s.u.o6.y5/65536)<|(s.u.o6.y5+10000*s.u.o6.n4)/65536;generalize TX (s.u.o6.y5/65536) ((s.u.o6.y5+10000*s.u.o6.n4)/65536)=l1 at b1 b2 n n1 P;generalize Mz (s.u.o6.y5/65536) ((s.u.o6.y5+10000*s.u.o6.n4)/65536)=l2 at B D o Q;simp only[fN,mB,CG.of,C.of,CG.f,M.run,U1.m,bS3,OK,Sa,QX,aR0,r,bc5,J,n0,cT8,K,O,b1,b2,B,D,oq];by_cases h0:s.u.o6.n4=0;have U:l1=[]:=by cases l1 with|nil=>rfl|cons x l=>have:=n x<|cV7 ..;rw[h0]at this;omega
 have V:l2=[]:=by cases l2 with|nil=>rfl|cons x l=>have:=o x<|cV7 ..;rw[h0]at this;omega
 subst U;subst V;have et:(db s []).m=some []:=by simp only[db,CG.of,M.run];refine C2 (j3 rfl) rfl
 rw[et,cU1 F];simp only[oq,cT8];obtain⟨d,v,e1,r1,k1,k2⟩:=bl4 (s:=s) (m:=m) (t0:=t0) (L:=L) (N:=N) (T:=s.t) (c:=s.u.c9) (y:=s.u.G6) (p:=s.u.C6) (f:=s.u.H4) (w:=[]) ⟨h,by omega,by omega,rfl,by rw[iy];exact hk⟩ ht F;rw[k];refine⟨d,s.u.G6,s.u.C6,s.u.H4,v,?_,r1,⟨k1.PE,k1.lo,k1.hi,k1.lE,k1.trk.more F⟩,k2⟩;refine C2 (j3 rfl)<|C2 (j3 rfl) ?_;rw[iy]at e1;simp only[bsx];exact e1;have E:WhO s.u.Time s.u.o6.y5 s.u.o6.n4:=⟨by rw[e];omega,g,by omega⟩;have z:WhO s.t s.u.o6.y5 s.u.o6.n4:=by rw[<-e];exact E
 obtain⟨S,R,e1,r1,j,i,T,c,y,p,f,w,rfl,rfl,W,k1⟩:=bv3 (b1:=true) (b2:=true) h hk E e ht.2 n o F F n1 I;obtain⟨j',q,_,X,e2,r2⟩:=bS9 (u:=s.u) (b:=true) (l:=l2) F j W (upS s c y p f<|s.o8++w) k1.PE.ph;obtain⟨d,v,Z,r3,k3,k4⟩:=bl4 (p:=q) ⟨⟨k1.PE.sch,k1.PE.sy,X,k1.PE.tf,k1.PE.lnk⟩,k1.lo,k1.hi,k1.lE,k1.trk⟩ ht F;have et:∀l,l.length<=1000->cd9 s.u l->(db s l).m=some (l.map<|WU s.u):=λl hl hx=>by rw[bD4 F z hx,<-e]
 rw[et l1 F n,et l2 F o,cU0 F];simp only[oq,cT9];refine⟨d,y,q,f,w++v,C2 e1<|C2 e2 ?_,?_,k3,k4⟩;simp only[bsx];exact Z;rw[k];refine C2 (C2 r1<|C2 r2 rfl) ?_;exact r3
open Go.Pv.Et
theorem cj0 (l:List e9)(a:l.length<=1000000)(f:e9->Option Bool)(p:e9->Bool)(h:∀y∈l,f y=some (p y)):P1 l f=some (match l.findIdx? p with|some k=>(k:Int)|none=>-1):=by unfold P1 hI;rw[yi l F λ(i:Int)x (_:Unit)=>tI (f x) λv=>bif v then some (Fl.ret i)else some<|Fl.next ()];have:=Sc.Kt f p l 0 h;grind
def cw3 (l:List e9)(A:l.length<=1000000)(f:e9->Option Bool)(p:e9->Bool)(h:∀y∈l,f y=some (p y)):N1 l f=some (l.filter λy=>!p y):=by unfold N1;rw[cj0 l A f p h];cases B:l.findIdx? p with|none=>grind [Sc.am4]|some v=>
  obtain⟨I,k⟩:=Sc.Ue B;simp only[oq];have C:((v:Int)==-1)=false:=beq_eq_false_iff_ne.2 F;rw[C,b6 (n:=(v:Int)+1) F F];simp only[cT8];obtain⟨t,k1,k2⟩:=Ba (mb:=Z4 f) (λj st=>∃i:Nat,st.1=(i:Int)/\st.2.1=((v+1+j:Nat):Int)/\i<v+1+j/\i=((l.take<|v+1+j).filter λy=>!p y).length/\st.2.2.length=l.length/\st.2.2.take i=((l.take<|v+1+j).filter λy=>!p y)/\st.2.2.drop (v+1+j)=l.drop (v+1+j)) (λt=>∃(s:List e9)(i:Nat),t=.inl ((i:Int),(l.length:Int),s)/\s.length=l.length/\i<=l.length/\s.take i=l.filter λy=>!p y) (l.length-(v+1)) 0 ((v:Int),(v:Int)+1,l) ⟨v,rfl,by push_cast;omega,by omega,by rw[cq7,k,cV5];omega,rfl,by rw[cq7,k],rfl⟩ (λj _ J st ⟨i,h1,c,x,r,g,m,u⟩=>by
    have d:v+1+j<l.length:=by omega
    have o:y3 st.2.2 st.2.1=some l[v+1+j]:=by rw[c,B3,<-cX6,u,cX6,IN d]
    have e:decide (st.2.1<(st.2.2.length:Int))=true:=by rw[c,g];simp;omega
    have b:l.take (v+1+(j+1))=l.take (v+1+j)++[l[v+1+j]]:=by rw[<-cD6];exact cd8 d
    have q:∀s:List e9,s.drop (v+1+j)=l.drop (v+1+j)->s.drop (v+1+(j+1))=l.drop (v+1+(j+1)):=λs z=>by rw[<-cD6,<-bT3,z,bT3]
    unfold Z4;rw[e,o];simp only[cT9,oq,h _<|al8 d];rw[c,b6 (n:=((v+1+j:Nat):Int)+1) F F];cases hp:p l[v+1+j];have hi:i<st.2.2.length:=by omega
    simp only[cV8,cT9];rw[h1,j2 _ _ hi];simp only[oq];rw[D4 _ _ _ hi,b6 (n:=(i:Int)+1) F F];have a:((l.take<|v+1+(j+1)).filter λy=>!p y)=((l.take<|v+1+j).filter λy=>!p y)++[l[v+1+j]]:=by rw[b,bO6];simp[hp]
    refine⟨_,rfl,i+1,by push_cast;rfl,by push_cast;omega,by omega,?_,by simp[g],?_,?_⟩;rw[a,IT,<-r];rfl;rw[a,<-m];rw[cd8<|by simpa using hi,List.take_set_of_le<|cW6 _,cY0];refine q _ ?_;rw[List.drop_set_of_lt F];exact u;simp only[AT,cT8];have a:((l.take<|v+1+(j+1)).filter λy=>!p y)=(l.take<|v+1+j).filter λy=>!p y:=by rw[b,bO6];simp[hp]
    exact⟨_,rfl,i,h1,by push_cast;omega,by omega,by rw[a];exact r,g,by rw[a];exact m,q _ u⟩) (λst ⟨i,h1,c,x,r,g,m,u⟩=>by
    have D:v+1+(0+(l.length-(v+1)))=l.length:=by omega
    rw[D]at c x r m;have e:decide (st.2.1<(st.2.2.length:Int))=false:=by rw[c,g];simp
    unfold Z4;rw[e];simp only[cT8];refine⟨_,rfl,st.2.2,i,?_,g,by omega,by rw[m,cZ0]⟩;rw[h1,c]);obtain⟨s,i,rfl,z,hi,ht⟩:=k2;rw[k1];simp only[oq];have E:RU (i:Int) (s.length:Int) s.length=some ():=by unfold RU;rw[if_pos ⟨F,by omega,by omega⟩]
  rw[E];simp only[oq];have w:U4 (Og s (i:Int) (s.length:Int) (⟨0,0,false⟩:e9)) 0 (i:Int)=some (s.take i):=Sc.Ye s i _ F;rw[w,ht];rfl
def QT {S R:Type}(n:Nat)(g:n<=1000000000)(f:Int->S->Option (Fl S R))(I:Nat->S->Prop)(J:R->Prop)(s:S)(h0:I 0 s)(h:∀k s,k<n->I k s->(∃s',f (k:Int) s=some (.next s')/\I (k+1) s')\/∃u,f (k:Int) s=some (.ret u)/\J u):∃b,o3 (λp:Int×S=>bif decide<|p.1<(n:Int)then(f p.1 p.2).bind<|iH p.1else some<|.inr<|.inl p.2) (0,s)=some b/\((∃s',b=.inl s'/\I n s')\/∃u,b=.inr u/\J u):=by
 exact oz (mb:=λp:Int×S=>bif decide<|p.1<(n:Int)then(f p.1 p.2).bind<|iH p.1else some<|.inr<|.inl p.2) (λx=>∃k:Nat,x.1=(k:Int)/\k<=n/\I k x.2) (λx=>n-x.1.toNat) (λb:S⊕R=>(∃s',b=.inl s'/\I n s')\/∃u,b=.inr u/\J u) λx ⟨k,hk,e,hi⟩=>by
   obtain⟨a,u⟩:=x;simp only at hk hi;subst hk;by_cases c:k<n
   ·rcases h k u c hi with⟨s',h1,d⟩|⟨v,h1,d⟩;·left;simp only;rw[cU0<|show((k:Nat):Int)<(n:Int)by omega,h1];refine⟨(((k+1:Nat):Int),s'),?_,⟨k+1,rfl,by omega,d⟩,by simp only;omega⟩;simp only[cT9,oq,iH];first|rfl|rw[b6 F F];rfl
    grind
   grind n (0,s) sq ⟨0,rfl,by omega,h0⟩
theorem bu9 (l:List e9)(a:l.length<=1073741824):(ou l).m=some l:=by simp_all[ou,CG.of,M.run,U1.m,l5]
def HL:List o9->Int|[]=>0|x::l=>if x.F4=0 then HL l else x.F4
theorem an3 (x:o9)(l:List o9):HL (x::l)=if x.F4=0 then HL l else x.F4:=rfl
def cj7 {l:List o9}(h:∀x∈l,0<=x.F4/\x.F4<=20000):0<=HL l/\HL l<=20000:=by induction l with|nil=>exact⟨dq,by decide⟩|cons x l a=>grind [HL]
def Oq (l:List o9)(d:l.length<=1000)(f:Cl Tryz.prog o9 Bool (λx=>[qe x]) λr=>.t<|tB r)(h:∀x,f.f x=some (x.F4 !=0)):∃v,(I0 l f).m=some v/\(v=-1/\HL l=0\/∃(k:Nat)(hk:k<l.length),v=(k:Int)/\l[k].F4=HL l):=by simp only[I0,C.of,M.run];obtain⟨b,e,h1⟩:=QT l.length F (λi (u:Unit)=>(aP l f i u).run) (λk _=>HL l=HL (l.drop k)) (λv:Int=>∃(k:Nat)(hk:k<l.length),v=(k:Int)/\l[k].F4=HL l) () rfl (λk u hk c=>by simp only[aP,M.run,L1.m,Cl.at];rw[B3,IN hk];simp only[oq,h];rw[bw1 hk,an3]at c;grind);rw[e];rcases h1 with⟨u,rfl,a⟩|⟨v,rfl,a⟩;rw[List.drop_length]at a;exact⟨-1,rfl,.inl ⟨rfl,a⟩⟩;grind
def bW5 (l:List o9)(e:l.length<=1000)(a:Int)(b:Bool):∃k,o3 (λx=>(T7 (a,b,l) x).run) (0,0)=some (.inl (HL l,k)):=by
 have key:∀(m:List o9)(i:Nat),l.drop i=m->i<=l.length->∃k,o3 (λx=>(T7 (a,b,l) x).run) (0,(i:Int))=some (.inl (HL m,k)):=by
  intro m;induction m with|nil=>
   intro i c hi;have:i=l.length:=by have:=congrArg cO3 c;grind
   refine⟨(i:Int),j3 ?_⟩;simp only[T7,M.run];rw[cU1 F];rfl|cons x m f=>
   intro i c hi;have d:i<l.length:=by grind
   rw[bw1 d]at c;obtain⟨hx,g⟩:=List.cons.inj c;rw[j7 (s':=(x.F4,((i+1:Nat):Int)))<|by grind [T7,M.run,L1.m,j2,b6]];rw[an3];by_cases h0:x.F4=0;grind;simp_all[j3,T7,M.run,bf]
 exact key l 0 rfl F
theorem cs7 (o:U8):(tl o).m=some o:=rfl
theorem bS2 (n:U8)(e:Int)(o:U8):(ie n e o).m=some (bif e !=0 then o else n):=by simp only[ie,C.of,M.run];grind
def bf7 {t:j1}(h:(mU t.X5&&t.X5.Y.all (E6 0 10000))=true){a v:Int}(a0:0<=a/\a<=1048576)(v0:0<=v/\v<=20000):uH t a v=some (3*max 0 (a-HB t.X5 v),0):=by
 have b:mU t.X5=true:=by grind
 have c:=(RY h a0 v0).2;unfold uH xi Q;rw[HY,h,show fH a=some (E6 0 1048576 a)from rfl,A7 a0.1 a0.2,cU1<|show¬v<0 by omega,cU1<|show¬v>20000 by omega,My b];simp only[oq,AT,cT8,aj3];rw[show((0:Int)!=0)=false from rfl];simp only[cT8];grind [b6,E5]
theorem bgi {α β:Type}(c:Bool)(x y:α)(f:α->Option β):tI (bif c then some x else some y) f=f (bif c then x else y):=by grind
def bv6 {s:k8}(hp:VX s.u.mR s.u.o6)(ht:ME s.u.w3=true)(g:0<=s.ao6/\s.ao6<=1048576)(e:aE3 s.y8)(h0:s.B8=0)(L:-10000<=s.d.Ee+s.d.qx/\s.d.Ee+s.d.qx<=10000):∃r q p,(AP s).m=some {s with u.o6:=r,B8:=q}/\VX s.u.mR r/\(bif s.cut||!s.u.Q3.J1||!s.known then some 0 else some s.y8.j4)=some q/\(bif decide<|q>0then(W4 s.u.w3 (HL s.y8.C1) 13500).m.bind λb=>(bif b.2==0 then(S3 b.1).m.bind λv=>some v else some false).bind λh=>(bif h then(S3 s.ao6).m.bind λv=>some v else some false).bind λi=>bif i then(cM s.u.mR s.u.o6 b.1 s.ao6).m.bind λr=>some r.1 else some s.u.o6 else some s.u.o6)=some p/\(lZ s.u.mR p (bif s.u.Q3.J1 then s.y8.B2 else 0) (ba9 10000<|H<|q+bif decide<|s.c8<400then 800 else 0) (bif s.d.Hv !=0 then H (s.d.Ee+s.d.qx)else 0) 10000).m=some r:=by
 have S:=e.Ah;have c:=(ab5 ht).dead;obtain⟨q,T,N,j⟩:∃q,(0<=q/\q<=10000)/\(bif !s.cut&&s.u.Q3.J1&&s.known then some s.y8.j4 else some s.B8)=some q/\(bif s.cut||!s.u.Q3.J1||!s.known then some 0 else some s.y8.j4)=some q:=by rw[h0];cases s.cut<;>cases s.u.Q3.J1<;>cases s.known<;>first|exact⟨_,e.tor,rfl,rfl⟩|exact⟨_,⟨dq,by decide⟩,rfl,rfl⟩
 have key:∃p,VX s.u.mR p/\(bif decide<|q>0then(I0 s.y8.C1<|.of (λl=>wJ l) 329 []).m.bind λv=>(bif decide<|v>=0then(y3 s.y8.C1 v).bind λx=>(pF s.u.w3 x.F4 13500).m.bind λr2=>some r2.1 else some 0).bind λm=>(zg s.u.mR s.u.o6 m s.ao6).m.bind λr=>(tl s.u.o6).m.bind λO=>(ie r.1 r.2.2 O).m.bind λt=>some t else some s.u.o6)=some p/\(bif decide<|q>0then(W4 s.u.w3 (HL s.y8.C1) 13500).m.bind λb=>(bif b.2==0 then(S3 b.1).m.bind λv=>some v else some false).bind λh=>(bif h then(S3 s.ao6).m.bind λv=>some v else some false).bind λi=>bif i then(cM s.u.mR s.u.o6 b.1 s.ao6).m.bind λr=>some r.1 else some s.u.o6 else some s.u.o6)=some p:=by
  cases decide<|q>0;·exact⟨s.u.o6,hp,rfl,rfl⟩
  ·have hi:=cj7 e.inj;obtain⟨v,e1,h1⟩:=Oq s.y8.C1 F (.of (λl=>wJ l) 329 []) λx=>rfl;have U:=(RY c (a:=0) (v:=13500) F F).2;have P:=by3 c (a:=HL s.y8.C1) (v:=13500) F F;have E:=bf7 c (a:=HL s.y8.C1) (v:=13500) F F;have e2:(bif decide<|v>=0then(y3 s.y8.C1 v).bind λx=>(pF s.u.w3 x.F4 13500).m.bind λr2=>some r2.1 else some 0)=some (3*max 0 (HL s.y8.C1-HB s.u.w3.X5 13500)):=by
    rcases h1 with⟨rfl,n⟩|⟨k,hk,rfl,n⟩;·rw[n];show some (0:Int)=_;congr 1;omega
    ·rw[cU0 F,j2 _ _ hk];simp only[cT9,oq,XN,n,P]
   have I:0<=3*max 0 (HL s.y8.C1-HB s.u.w3.X5 13500)/\3*max 0 (HL s.y8.C1-HB s.u.w3.X5 13500)<=60000:=by omega
   generalize 3*max 0 (HL s.y8.C1-HB s.u.w3.X5 13500)=z at e2 E I;obtain⟨r,u,o,r3,w⟩:=bA0 hp (f:=z) (a:=s.ao6) F g;refine⟨r,w,?_,?_⟩;·simp only[cT9,e1,e2,o,cs7,bS2,n0,cT8,oq]
   ·have J:∀x:Int,0<=x->x<=1048576->(S3 x).m=some true:=λx V W=>by simp only[S3,C.of,M.run,bp5,oq];rw[cU0 F,cU0 F];rfl
    simp only[cT9,oq,JW,E,J _ I.1 F,J _ g.1 g.2,r3];rfl
 obtain⟨p,hp2,e1,r1⟩:=key;have y:0<=(bif s.u.Q3.J1 then s.y8.B2 else 0)/\(bif s.u.Q3.J1 then s.y8.B2 else 0)<=1000:=by
  cases s.u.Q3.J1;·show(0:Int)<=0/\(0:Int)<=1000;omega
  ·exact e.thr
 obtain⟨x,e2,A,B,D⟩:∃x:Int,(bif decide<|s.c8<400then some<|H (q+800)else some q)=some x/\ba9 x 10000=ba9 10000 (H<|q+bif decide<|s.c8<400then 800 else 0)/\-5000<=ba9 x 10000/\ba9 x 10000<=10000:=by
  have K:H (q+800)=q+800:=b6 F F;have Q:H (q+0)=q:=by rw[Int.add_zero];exact b6 F F
  cases decide<|s.c8<400;·refine⟨q,rfl,?_⟩;simp only[cT8,Q];unfold ba9;refine⟨?_,?_,?_⟩<;>(repeat' split)<;>omega
  ·refine⟨q+800,by simp only[cT9,K],?_⟩;simp only[cT9,K];unfold ba9;refine⟨?_,?_,?_⟩<;>(repeat' split)<;>omega
 have R:-10000<=(bif s.d.Hv !=0 then H (s.d.Ee+s.d.qx)else 0)/\(bif s.d.Hv !=0 then H (s.d.Ee+s.d.qx)else 0)<=10000:=by
  cases s.d.Hv !=0;·show(-10000:Int)<=0/\(0:Int)<=10000;omega
  ·simp only[cT9];rw[b6 F F];exact L
 obtain⟨r,o,r3,w⟩:=cm4 hp2 y ⟨B,D⟩ R;refine⟨r,q,p,?_,w,j,r1,by rw[<-A];exact r3⟩;simp only[AP,CG.of,M.run,L1.m];refine C2 N<|C2 e1<|C2 e2 ?_;simp only[bgi,o,cs7,bS2,n0,cT8,oq]
structure SwL (l:List e9):Prop where
 Ah:l.length<=1000
 asc:l.Pairwise λa b=>a.At<=b.At
 tim:∀w∈l,0<=w.At/\w.At<=1099511627776
 yE:∀w∈l,0<=w.Channel/\w.Channel<16
theorem cy5 {l:List e9}(h:SwL l):(KI l).m=some true:=by have f:=h.Ah;simp only[KI,C.of,M.run];rw[cU1<|show¬(l.length:Int)>1000 by omega];simp only[cT8];obtain⟨s,e,_⟩:=QS l F (λi x (s:Int)=>(Dt i x s).run) (λk s=>k=0/\s=0\/∃w,(1<=k/\l[k-1]?=some w)/\s=w.At) 0 (.inl ⟨rfl,rfl⟩) (λk x s hx b=>by
  have a:=bX3 hx;have h1:=h.tim x a;have g:=h.yE x a;have j:s<=x.At:=by rcases b with⟨_,rfl⟩|⟨w,⟨hk,c⟩,rfl⟩;exact h1.1;obtain⟨d,n⟩:=No.1 hx;obtain⟨b1,b2⟩:=No.1 c;have:=dd5.1 h.asc (k-1) k b1 d F;grind
  simp only[Dt,M.run,az8,oq];rw[sQ.2 h1,cU1<|show¬x.At<s by omega,cU1<|show¬x.Channel<0 by omega,cU1<|show¬x.Channel>=16 by omega];grind);rw[e];rfl
def bU5 {g:fJ}{l:List e9}(b:sgB g=true)(h:SwL l):∃x,x.length<=1000/\(KF g l).m=some (x,0)/\(mw g l).m=some x:=by have c:=h.Ah;refine⟨l.filter λy=>!(y.s8&&!g.J1),cw2 (cD8 ..) c,?_,?_⟩;simp only[KF,C.of,M.run,ZZ,b,cy5 h,oq,AT,cT8];rw[bu9 l F];simp only[oq];have e2:(qQ l<|.of (λd=>Np d g) 471 [AL g]).m=some (l.filter λy=>!(y.s8&&!g.J1)):=cw3 l F _ (λy=>y.s8&&!g.J1) λy _=>rfl;grind;simp only[mw,C.of,M.run];have e:=cd (mb:=λs=>(gN g l s).run) (λk:Nat=>((l.take k).filter λy=>!(y.s8&&!g.J1),(k:Int))) (b0:=.inl (l.filter λy=>!(y.s8&&!g.J1),(l.length:Int))) l.length (by simp[gN,M.run]) (λk hk=>by simp only[gN,M.run,L1.m,U1.m];rw[cU0 F,j2 _ _ hk,b6 F F,cQ4,IN hk,bO6];have a:((l.take k).filter λy=>!(y.s8&&!g.J1)).length<=1000:=cw2 (cD8 ..) gq;simp only[cT9,oq,Option.toList_some];grind [l5]);grind
def bf3 {s:k8}(a:sgB s.u.Q3=true)(h:SwL s.o8):∃l,l.length<=1000/\(yZ s).m=some ⟨s.t,s.c8,s.B8,s.F7,l,s.cY,!s.u.Q3.J1⟩/\(mw s.u.Q3 s.o8).m=some l:=by obtain⟨x,h1,e1,r1⟩:=bU5 a h;simp only[yZ,CG.of,M.run,e1,oq];grind
def cC2 {m N:Nat}{t0:Int}{L:Nat->Bool}{s:a7}{w:List e9}(h:Sc.Rs m t0 L N s w)(a:N<=1000)(b:m<=16)(h0:0<=t0)(c:s.b9.D2<=1099511627776):SwL w:=⟨by have:=h.cnt;omega,h.asc,λx hx=>by have:=h.Zv x hx;omega,λx hx=>by have:=h.yE x hx;omega⟩
def bD8 {s r:k8}{z:T2}(h:(tE w0 s.u.G6 s.t).m=some (z,0))(a:(M5 s z s.t).m=some r)(ht:r.t=s.t)(h1:(tE w0 r.u.G6 r.t).m=some (r.u.G6,0)):(fN s).m=(fN r).m:=by have b:(M5 r r.u.G6 r.t).m=some r:=Ug (by simp);simp only[fN,CG.of,M.run,bS3,OK,h,h1,bc5,n0,cT8,oq,a,b]
def cb4 {s:k8}{m N:Nat}{t0:Int}{L:Nat->Bool}(h:Tee s.t s.u)(hk:Sc.Rs m t0 L N s.u.c9 s.o8)(hp:VX s.u.mR s.u.o6)(ht:0<=s.t/\s.t+10000<=549755813888)(j:s.u.Time=s.t)(k:N<=1000):∃b v d c y p f w,(bif s.u.G6.Mode !=0 then(eS w0 s.u.G6).m.bind λm=>some<|decide (H (s.t-s.u.G6.A6)>m)else some false)=some b/\(bif b then(gi {s.u with G6:=sy0} s.t).m.bind λr=>(G2 s.o8 r.2).bind λl=>some (r.1,l)else some (s.u,s.o8))=some (v,s.o8++d)/\(mB v).m=some (upE s.u c y p f,w)/\(fN s).m=some (upS s c y p f<|s.o8++d++w)/\Tee (s.t+10000) (upE s.u c y p f)/\c.h9=s.u.c9.h9/\Sc.Rs m t0 L (N+630) c (s.o8++d++w)/\c.b9.D2=s.t+10000:=by
 have g:=sQ.2 (show 0<=s.t/\s.t<=1099511627776 by omega);obtain⟨x,r1,e1⟩:=aU2 h.sy.1 g h.sy.2;cases e:s.u.G6.Mode !=0&&decide (H (s.t-s.u.G6.A6)>x);rw[e]at e1;obtain⟨c,y,p,f,w,e2,r2,k1,k2⟩:=ar7 e1 h hk hp ht j k;refine⟨false,s.u,[],c,y,p,f,w,?_,by rw[iy];rfl,r2,by rw[iy];exact e2,k1.PE,k1.lE,by rw[iy];exact k1.trk,k2⟩;rw[r1,<-e];cases s.u.G6.Mode !=0<;>rfl;rw[e]at e1;have i:(s.u.G6.Mode !=0)=true:=by rw[BY]at e;exact e.1
 obtain⟨c1,d,z,A,n,o⟩:=ab1 (s:={s with u.G6:=sy0,u.C6:=⟨false,0,0,false⟩}) (T:=s.t) (a:=s.t) h.sch hk F F F;have B:(M5 s sy0 s.t).m=some {s with u.c9:=c1,u.G6:=sy0,u.C6:=⟨false,0,0,false⟩,o8:=s.o8++d}:=by rw[Yz<|by rw[i];rfl];exact z
 obtain⟨C,_,e2⟩:=aU2 (s:=sy0) (t:=s.t) bh4 g (by show(0:Int)<=s.t;omega);have D:=bD8 (r:={s with u.c9:=c1,u.G6:=sy0,u.C6:=⟨false,0,0,false⟩,o8:=s.o8++d}) e1 B rfl e2;have q:=o.cnt;rw[IT]at q;obtain⟨c,y,p,f,w,E,r4,k1,k2⟩:=ar7 (s:={s with u.c9:=c1,u.G6:=sy0,u.C6:=⟨false,0,0,false⟩,o8:=s.o8++d}) e2 ⟨n.self,⟨bh4,by show(0:Int)<=s.t;omega⟩,be4,h.tf,λI=>absurd rfl I⟩ o hp ht j k;refine⟨true,{s.u with c9:=c1,G6:=sy0,C6:=⟨false,0,0,false⟩},d,c,y,p,f,w,?_,?_,r4,?_,k1.PE,k1.lE.trans n.lE,k1.trk,k2⟩;rw[i,r1];rw[BY]at e;exact congrArg some e.2;simp only[cT9];rw[aN8 (u:={s.u with G6:=sy0})<|A _ rfl];simp only[oq];rw[l5 _ _<|by simp only at q;omega];rfl;rw[D,E]
structure UOk (l:List n9)(u:Z6):Prop where
 tab:ME u.w3=true
 pl:VX u.mR u.o6
 PE:Tee u.Time u
 now:u.c9.b9.D2=u.Time
 con:FA u.c9.h9 u.w5=true
 gr:grB u.dT=true
 qz:ce0 u.Time u.aS
 sg:sgB u.Q3=true/\u.Q3.Ce<=u.Time
 flt:∃c t,(1<=c/\c<=1073741824)/\Fr.Inv l u.B9 c true t
 time:0<=u.Time/\u.Time<=549755813888
 ten:u.Time%10000=0
structure DOk (d:D5)(k:List H5):Prop where
 Ah:k.length<=100
 val:∀b∈k,-1000000<=b.Value/\b.Value<=1000000
 ped:0<=d.B6/\d.B6<=1000
 load:-10000<=d.Ee+d.qx/\d.Ee+d.qx<=10000
structure bs3 (r:J7):Prop where
 sw:r.LY.length<=1000
 act:r.T3.length<=7/\∀x∈r.T3,x.M7.length<=16
def co0 (v:Int)(h0:0<=v)(h1:v<=262144):(KB v).m=some (v*60000000/1509949440,0)/\(Z7 v).m=some (v*60000000/1509949440):=by constructor;simp only[KB,C.of,M.run];grind [b6];simp only[Z7,C.of,M.run,iM];grind [b6,R1.pK]
def ck5 (p:U8):Bool:=match p.Path with|[]=>false|x::_=>decide<|x<1000
def ck6 (p:U8):(bif decide<|(p.Path.length:Int)>0then(y3 p.Path 0).bind λx=>some<|decide (x<1000)else some false)=some (ck5 p):=by unfold ck5;cases p.Path with|nil=>rfl|cons x l=>rw[cU0 sq];rfl
def ck7 (p:U8):(bif ck5 p then some (800:Int)else some 100)=some (aA7 p):=by unfold ck5 aA7;grind
def cl9 (l:List o9)(d:l.length<=1000):o3 (λx=>(bA x).run) (0,l)=some (.inl ((l.length:Int),l.map Wz)):=by have e:=cd (mb:=λs=>(bA s).run) (λk:Nat=>((k:Int),(l.take k).map Wz++l.drop k)) (b0:=.inl ((l.length:Int),l.map Wz)) l.length (by simp[bA,M.run]) (λk hk=>by
  have a:((l.take k).map Wz).length=k:=by rw[cW2,cV5];omega
  have b:k<((l.take k).map Wz++l.drop k).length:=by rw[IT,a,List.length_drop];omega
  have c:((l.take k).map Wz++l.drop k)[k]?=some l[k]:=by rw[dc0 F,a,Nat.sub_self,List.getElem?_drop,cq7,IN hk]
  simp only[bA,M.run,L1.m,U1.m];rw[cU0 F,B3,c,b6 F F];simp only[cT9,oq];rw[D4 _ _ _ b];exact congrArg (λz=>some<|Sum.inl (((k+1:Nat):Int),z))<|bY1 Wz l k hk);exact e
theorem ZL {f:y2}(h:f.L.length<=1000):(my f).m=some f:=by simp only[my,CG.of,M.run,U1.m];rw[l5 _ _ gq];rfl
def aP9 {u:Z6}{d:D5}{k:List H5}{l:List n9}(hc:Fr.VV l)(h7:7<=l.length)(h:UOk l u)(i:DOk d k)(ht:u.Time+10000<=549755813888):∃v r,(HN u d k).m=some (v,r)/\(mA u d k).m=some (v,r)/\UOk l v/\v.Time=u.Time+10000/\bs3 r:=by
 have E:=h.pl.La;have hti:=h.time;have htm:=sQ.2 (show 0<=u.Time/\u.Time<=1099511627776 by omega);obtain⟨e0,r0⟩:=co0 u.o6.n4 E.1 E.2;have e:0<=u.o6.n4*60000000/1509949440/\u.o6.n4*60000000/1509949440<=12000:=by omega
 generalize u.o6.n4*60000000/1509949440=n at e e0 r0;obtain⟨MH,tt,Q,hi⟩:=h.flt;have hfl:=hi.len;have hcl:=hc.len;obtain⟨f,a,w,p,I,c,q,e1,T⟩:=ca5 (s:=⟨u,d,k,u.Time,n,([]:List K1),0,0,0,0,0,(⟨0,([]:List o9),0⟩:X7),0,0,u.G6.Mode==2&&u.C6.hL,false,([]:List e9),0⟩) ⟨i.Ah,i.val,i.ped,h.pl.pre,by show 0<=u.Time/\u.Time<=_;omega,e⟩ hc h7 hi Q.1 Q.2;have c1:=uU p 50 1013 F;have c2:=uU I (-40) 150 F;have c3:=uU c (-40) 150 F;have c4:=uU q 0 20000 F;obtain⟨t,o,e2,r2,g2,n2,o2⟩:=aJ9 (s:=⟨{u with B9:=f},d,k,u.Time,n,a,w,ba9 (q9 p 50) 1013,ba9 (q9 I<|-40) 150,ba9 (q9 c<|-40) 150,ba9 (q9 q 0) 20000,(⟨0,([]:List o9),0⟩:X7),0,0,u.G6.Mode==2&&u.C6.hL,false,([]:List e9),0⟩) ⟨i.Ah,i.val,i.ped,h.pl.pre,by show 0<=u.Time/\u.Time<=_;omega,e⟩ ⟨T.win,c1,c2,c3,c4⟩ h.tab h.pl.body h.con;obtain⟨g,N,A,ch,b,v0,x,y,av,e3,j⟩:=aO5 (s:=⟨{u with B9:=f,w5:=t},d,k,u.Time,n,a,w,ba9 (q9 p 50) 1013,ba9 (q9 I<|-40) 150,ba9 (q9 c<|-40) 150,ba9 (q9 q 0) 20000,o,0,0,u.G6.Mode==2&&u.C6.hL,false,([]:List e9),0⟩) ⟨i.Ah,i.val,i.ped,h.pl.pre,by show 0<=u.Time/\u.Time<=_;omega,e⟩ ⟨T.win,c1,c2,c3,c4⟩ h.tab g2 h.gr o2;have hpp:=j.Rm;obtain⟨qz,qf,qr,e4,r4,r5,r6,hq⟩:=cf0 (s:=⟨{u with B9:=f,w5:=t,dT:=g},d,k,u.Time,n,a,w,ba9 (q9 p 50) 1013,ba9 (q9 I<|-40) 150,ba9 (q9 c<|-40) 150,ba9 (q9 q 0) 20000,{o with C1:=N},A,ch,u.G6.Mode==2&&u.C6.hL,b,([]:List e9),0⟩) ⟨i.Ah,i.val,i.ped,h.pl.pre,by show 0<=u.Time/\u.Time<=_;omega,e⟩ h.qz (by show 0<=A/\A<=65535;omega);obtain⟨sg,R,sw,e5,r7,r8,O,B,hk5⟩:=bb0 (s:=⟨{u with B9:=f,w5:=t,dT:=g,aS:=qz},d,k,u.Time,n,a,w,ba9 (q9 p 50) 1013,ba9 (q9 I<|-40) 150,ba9 (q9 c<|-40) 150,ba9 (q9 q 0) 20000,{o with C1:=N},A,ch,u.G6.Mode==2&&u.C6.hL,b,([]:List e9),0⟩) h.sg j.gr hq.1 htm ⟨h.PE.sch.ok,h.PE.sch.Ah,rfl,rfl⟩ j.out.Ah.2 rfl;have hsn:=B.now;obtain⟨st,tv,X,P,ty,tp,tf,Z,r9,r10,r11,e6,S,g6,t6,n6⟩:=cb4 (s:=⟨{u with B9:=f,w5:=t,dT:=g,aS:=qz,c9:=R,Q3:=sg},d,k,u.Time,n,a,w,ba9 (q9 p 50) 1013,ba9 (q9 I<|-40) 150,ba9 (q9 c<|-40) 150,ba9 (q9 q 0) 20000,{o with C1:=N},A,ch,u.G6.Mode==2&&u.C6.hL,b,sw,0⟩) ⟨⟨B.ok,B.Ah,rfl,by rw[hsn];exact h.PE.sch.now⟩,h.PE.sy,h.PE.ph,h.PE.tf,h.PE.lnk⟩ hk5 h.pl ⟨by show 0<=u.Time;omega,ht⟩ rfl F;obtain⟨pr,tq,pi,e7,hpl,r12,D,r14⟩:=bv6 (s:=upS ⟨{u with B9:=f,w5:=t,dT:=g,aS:=qz,c9:=R,Q3:=sg},d,k,u.Time,n,a,w,ba9 (q9 p 50) 1013,ba9 (q9 I<|-40) 150,ba9 (q9 c<|-40) 150,ba9 (q9 q 0) 20000,{o with C1:=N},A,ch,u.G6.Mode==2&&u.C6.hL,b,sw,0⟩ P ty tp tf<|sw++X++Z) h.pl h.tab j.cin j.out rfl i.load;have hn6:P.b9.D2=u.Time+10000:=n6;obtain⟨rl,hrl,e8,r15⟩:=bf3 (s:={upS ⟨{u with B9:=f,w5:=t,dT:=g,aS:=qz,c9:=R,Q3:=sg},d,k,u.Time,n,a,w,ba9 (q9 p 50) 1013,ba9 (q9 I<|-40) 150,ba9 (q9 c<|-40) 150,ba9 (q9 q 0) 20000,{o with C1:=N},A,ch,u.G6.Mode==2&&u.C6.hL,b,sw,tq⟩ P ty tp tf (sw++X++Z)with u.o6:=pr,u.Time:=H<|u.Time+10000}) O.1<|cC2 t6 F (by have:=h.PE.sch.ok.lE.2.1;show 2*u.c9.h9.ai9.length<=16;omega) (by rw[h.now];exact hti.1) F;have J:H (u.Time+10000)=u.Time+10000:=b6 F F;refine⟨{upE {u with B9:=f,w5:=t,dT:=g,aS:=qz,c9:=R,Q3:=sg} P ty tp tf with o6:=pr,Time:=u.Time+10000},⟨u.Time,n,tq,A,rl,a,!sg.J1⟩,?_,?_,⟨h.tab,hpl,⟨S.sch,S.sy,S.ph,S.tf,S.lnk⟩,n6,?_,j.gr,⟨hq.1,?_⟩,⟨O.1,?_⟩,T.inv,?_,?_⟩,rfl,hrl,T.Ah⟩;simp only[HN,C.of,M.run,e0,oq];refine C2 e1<|C2 e2<|C2 e3<|C2 e4<|C2 e5<|C2 e6<|C2 e7<|C2 e8 ?_;simp only[J];simp only[mA,C.of,CG.f,M.run,L1.m,U1.m];refine C2 (ck6 u.o6)<|C2 (ck7 u.o6)<|C2 (bg2 i.Ah _ _ _ _ _ _) ?_;refine C2 r0<|C2 rfl<|C2 rfl<|C2 rfl<|C2 rfl ?_;refine C2 (x:=[(Ly u d k u.Time).1,(Ly u d k u.Time).2.1,(Ly u d k u.Time).2.2.1,(Ly u d k u.Time).2.2.2.1,(Ly u d k u.Time).2.2.2.2.1,(Ly u d k u.Time).2.2.2.2.2.1,(Ly u d k u.Time).2.2.2.2.2.2]) ?_ ?_;unfold Ly;cases U:decide<|ce6 (Au k u.Time 0 d.B6) (Au k u.Time 1<|H<|bQ2 d.B6 2)>50;refine Eq.trans (congrArg (λz=>bif z then _ else _) U) ?_;rfl;refine Eq.trans (congrArg (λz=>bif z then _ else _) U) ?_;rfl;refine C2 (ZL F)<|C2 (T.ref _ _ rfl) ?_;have V:(cQ R0 ({u.B9 with L:=f.L}:y2)).m=some a:=by have:=T.same;simp only at this;rw[this];exact T.act
 refine C2 ZQ<|C2 V<|C2 T.l0<|C2 rfl<|C2 T.l1<|C2 rfl<|C2 rfl<|C2 T.l2<|C2 rfl<|C2 rfl<|C2 T.l3<|C2 rfl<|C2 rfl<|C2 T.l4<|C2 rfl ?_;refine C2 (ct0 _<|by have:=h.PE.sch.ok.lE.2.1;omega)<|C2 r2<|C2 (x:=(t,o)) rfl ?_;have hof:=o2.Ah;refine C2 (x:=o.C1) (l5 _ _<|by simp only[cX0];omega) ?_;refine C2 j.ra<|C2 (x:=asks w av) ?_<|C2 j.rp<|C2 j.rc<|C2 j.rx<|C2 (NH i.Ah u.Time 7) ?_;cases av<;>rfl;refine C2 (x:=(y,b,N)) ?_ ?_;cases K:decide (x>A)&&!(Qg k u.Time 7).2;obtain⟨z1,z2,z3⟩:=j.rn K;simp only[z1,z2,z3,cT8];obtain⟨z1,z2,z3⟩:=j.ry K;simp only[cT9];refine C2 (cl9 o.C1 F) ?_;rw[z2]at z3|-;rw[z1];exact C2 z3 rfl;refine C2 j.rg<|C2 r4<|C2 r5<|C2 r6<|C2 r7<|C2 r8 ?_;refine C2 (x:=st) (by rw[QX];exact r9) ?_;have hT:({u.B9 with L:=f.L}:y2)=f:=T.same;have hs1:u.B9.G3=f.G3:=by have:=congrArg y2.G3 hT;exact this
 have hs2:u.B9.jq=f.jq:=by have:=congrArg y2.jq hT;exact this
 have hs3:u.B9.dA=f.dA:=by have:=congrArg y2.dA hT;exact this
 rw[hs1,hs2,hs3];refine C2 r10<|C2 r11 ?_;have hcn:sw.length+X.length+Z.length+P.o1.length<=830:=by have:=t6.cnt;rw[IT,IT]at this;exact this
 refine C2 (l5 _ _<|show(sw++X).length+Z.length<=1073741824 by rw[IT];omega)<|C2 r15<|C2 r12 ?_;refine C2 (x:=pi) ?_ ?_;cases W:decide<|tq>0;rw[W]at D;exact D;rw[W]at D;obtain⟨kk,hkk⟩:=bW5 N (by have:=j.out.Ah;simp only at this;omega) y b;exact C2 hkk D;rw[bgi,bgi,bgi];refine C2 r14 ?_;rw[J];show FA P.h9 t=true;rw[g6];show FA R.h9 t=true;rw[B.lE];exact g2;have:=hq.2;simp only at this;show qz.jo<=u.Time+10000;omega;have:=O.2;simp only at this;show sg.Ce<=u.Time+10000;omega;show 0<=u.Time+10000/\u.Time+10000<=_;omega;have:=h.ten;show(u.Time+10000)%10000=0;omega
def cx1 {l:List n9}{f:y2}(b:Fr.VV l)(d:7<=l.length)(h:∃c t,(1<=c/\c<=1073741824)/\Fr.Inv l f c true t):(dD f).m=some true/\decide ((f.L.length:Int)<7)=false/\f.dA=true:=by obtain⟨c,t,a,hi⟩:=h;have e:=hi.len;refine⟨?_,cU1 F,hi.run⟩;grind [Fj,Fr.Js]
def cB5 {s:a7}(h:Sc.mS s)(a:s.Next.length<=8):(Q5 s).m=some true/\(kj s).m=some true:=by have:=h.most;grind [Fo,Sc.Fe,Sc.vB,An,Sc.Fc]
theorem OI {u:Z6}{l:List n9}(a:Fr.VV l)(b:7<=l.length)(h:UOk l u):(CE u).m=some true:=by
 have e1:(cb u.w3).m=some true:=by rw[Io,AG,h.tab]
 have e2:=(ay1 h.pl).1;have c:=(cB5 h.PE.sch.ok h.PE.sch.Ah).1;have d:(mX u.c9.h9 u.w5).m=some true:=by rw[Wc,bm1,h.con]
 obtain⟨e,f,g⟩:=cx1 a b h.flt;have ht:=h.time;have j:=h.PE.tf.2;have k:=h.PE.sy.2;have n:=h.qz.2;have o:=h.sg.2;have i:(tF w0 u.G6).m=some true:=by rw[(ab4 u.G6).1,h.PE.sy.1]
 simp only[CE,C.of,M.run,e1,e2,c,d,ab7,h.PE.tf.1,OK,i,Sa,Zr,h.PE.ph,YD,h.gr,SE,h.qz.1,ZZ,h.sg.1,e,f,g,oq,AT,cV8,cT8,cT9];rw[cU0<|show u.Time>=0 by omega,cU0 ht.2,h.now,aW6 ht.1,h.ten];grind [q9]
def okB (x:H5):Bool:=decide (x.Tp>=0)&&decide (x.Tp<=1099511627776)&&(decide (x.To>=0)&&decide (x.To<=1099511627776))&&(decide (x.Ay>=0)&&decide (x.Ay<=7))&&(decide (x.Value>=-1000000)&&decide (x.Value<=1000000))
def bkB (k:List H5):Bool:=decide ((k.length:Int)<=100)&&k.all okB
def aX6 (l:List H5)(a:l.length<=1000000)(f:Cl Tryz.prog H5 Bool (λx=>[qe x]) λr=>.t<|tB r)(p:H5->Bool)(h:∀x∈l,f.f x=some (p x)):(fO l f).m=some (l.any p):=by simp only[fO,tW,pq,C.of,M.run,L1.m,Cl.at];refine Eq.trans ?_<|FC l F f.f p h;kernel_rfl
theorem Qe {k:List H5}(hk:k.length<=1000):(Ey k).m=some (bkB k)/\(pY k).m=some (bkB k):=by
 constructor;simp only[Ey,C.of,M.run];have e:=aX6 k F (.of (λa=>MZ a) 150 []) (λx=>!okB x) (λx _=>by refine congrArg some ?_;rw[zc];grind [okB]);grind [bkB];simp only[pY,C.of,M.run];have e:=Ov (l:=k) (mb:=λi=>(dN k i).run) (g:=λx=>bif okB x then none else some false) λi hi=>by simp only[dN,M.run,L1.m,bp5,oq];rw[cU0 F,j2 _ _ hi,b6 F F];simp only[cT9,oq];grind [okB] (by simp[dN,M.run]);refine C2 e ?_;have q:∀m:List H5,m.findSome? (λx=>bif okB x then none else some false)=bif m.all okB then none else some false:=λm=>by induction m with|nil=>rfl|cons x m b=>grind
 rw[q];unfold bkB;grind
def as4 {k:List H5}(h:bkB k=true):k.length<=100/\∀b∈k,-1000000<=b.Value/\b.Value<=1000000:=by unfold bkB at h;rw[BY,dg1,cV2]at h;grind [okB]
def cG6 (d:D5):Prop:=(0<=d.At/\d.At<=1099511627776)/\(0<=d.B6/\d.B6<=1000)/\(0<=d.qx/\d.qx<=1000)/\(0<=d.Hv/\d.Hv<=6)/\-500<=d.Ee/\d.Ee<=2000
noncomputable abbrev aO8 (d:D5):Int×Int×Int×Int×Int:=(d.At,d.B6,d.qx,d.Hv,d.Ee)
noncomputable abbrev aQ4:D6×D6×D6×D6×D6:=((⟨ByteArray.mk #[97,116],0,1099511627776⟩:D6),(⟨ByteArray.mk #[112,101,100,97,108],0,1000⟩:D6),(⟨ByteArray.mk #[98,114,97,107,101],0,1000⟩:D6),(⟨ByteArray.mk #[103,101,97,114],0,6⟩:D6),(⟨ByteArray.mk #[108,111,97,100],-500,2000⟩:D6))
def bx (x a b:Int):Bool:=decide (x<a)||decide (x>b)
theorem cv6 {x a b:Int}:bx x a b=false↔a<=x/\x<=b:=by simp[bx]
def aQ6 (x a b j:Int):((bif decide (x<a)then some true else some<|decide<|x>b).bind λv5=>bif v5 then some<|.inr (.inr false)else some<|.inl j)=(some<|bif bx x a b then .inr (.inr false)else .inl j:Option<|Int⊕Int⊕Bool):=by grind [bx]
def p0 (d:D5):(ag (aO8 d) aQ4 0).run=some (bif bx d.At 0 1099511627776 then .inr (.inr false)else .inl 1):=aQ6 d.At 0 1099511627776 1
theorem p1 (d:D5):(ag (aO8 d) aQ4 1).run=some (bif bx d.B6 0 1000 then .inr (.inr false)else .inl 2):=aQ6 d.B6 0 1000 2
def p2 (d:D5):(ag (aO8 d) aQ4 2).run=some (bif bx d.qx 0 1000 then .inr (.inr false)else .inl 3):=aQ6 d.qx 0 1000 3
def p3 (d:D5):(ag (aO8 d) aQ4 3).run=some (bif bx d.Hv 0 6 then .inr (.inr false)else .inl 4):=aQ6 d.Hv 0 6 4
def p4 (d:D5):(ag (aO8 d) aQ4 4).run=some (bif bx d.Ee (-500) 2000 then .inr (.inr false)else .inl 5):=aQ6 d.Ee (-500) 2000 5
def p5 (d:D5):(ag (aO8 d) aQ4 5).run=some (.inr<|.inl 5):=rfl
def Kk (d:D5):Bool:=bx d.At 0 1099511627776||(bx d.B6 0 1000||(bx d.qx 0 1000||(bx d.Hv 0 6||bx d.Ee (-500) 2000)))
def RZ {d:D5}:Kk d=false↔cG6 d:=by simp[Kk,cG6,cv6]
theorem ap1 (d:D5):o3 (λx=>(ag (aO8 d) aQ4 x).run) 0=some (bif Kk d then .inr false else .inl 5):=by unfold Kk;have a:=p0 d;have b:=p1 d;have c:=p2 d;have e:=p3 d;have f:=p4 d;cases h0:bx d.At 0 1099511627776;rw[h0]at a;rw[j7 (s':=1) a];cases h1:bx d.B6 0 1000;rw[h1]at b;rw[j7 (s':=2) b];cases g:bx d.qx 0 1000;rw[g]at c;rw[j7 (s':=3) c];cases h:bx d.Hv 0 6;rw[h]at e;rw[j7 (s':=4) e];cases i:bx d.Ee (-500) 2000;rw[i]at f;rw[j7 (s':=5) f];exact j3<|p5 d;grind [j3];grind [j3];grind [j3];grind [j3];grind [j3]
theorem aO9 (d:D5):(Lo d).m=some (aO8 d):=rfl
theorem aQ5:(Pw).m=some aQ4:=rfl
theorem ba7 {d:D5}(h0:d.At=0):(ba [d]).m=some !Kk d:=by simp only[ba,C.of,M.run,L1.m];rw[show y3 [d] 0=some d from rfl];simp only[oq];rw[h0];obtain⟨b,e,h1⟩:=QT [d].length sq (λi (u:Unit)=>(mY [d] i u).run) (λk _=>k=0\/Kk d=false) (λv:Bool=>v=false/\Kk d=true) () (.inl rfl) (λk u hk _=>by
  have:k=0:=by simpa using hk
  subst this;simp only[mY,M.run,L1.m];rw[show y3 [d] ((0:Nat):Int)=some d from rfl];simp only[oq];rw[cU1<|show¬((0:Nat):Int)>0 by omega];simp only[cT8,aO9,aQ5,oq];rw[ap1];cases c:Kk d;exact .inl ⟨(),rfl,.inr rfl⟩;exact .inr ⟨false,rfl,rfl,rfl⟩);rw[e];rcases h1 with⟨u,rfl,h1⟩|⟨v,rfl,rfl,a⟩;rcases h1 with h1|h1;simp at h1;rw[h1];rfl;rw[a];rfl
theorem bz6 (d:D5):(Na d).m=some !Kk d/\(CK d).m=some !Kk d:=by
 constructor;simp only[Na,C.of,M.run,ba7 (d:=⟨0,d.B6,d.qx,d.Hv,d.Ee⟩) rfl,oq];unfold Kk bx;grind;have e:(DS d).m=some !Kk d:=by refine congrArg some ?_;rw[zc];grind [Kk,bx]
 simp only[CK,C.of,M.run,e,oq]
def cw5 {d:D5}{k:List H5}(h:Kk d=false)(hk:bkB k=true):DOk d k:=by obtain⟨h1,a,b,c,e⟩:=RZ.1 h;obtain⟨k1,k2⟩:=as4 hk;exact⟨k1,k2,a,by omega⟩
end Go.Proofs.YtlbfdimlomockaaGreat.Ec
namespace Go.Pv.Fr
open Go Go.Pv
def cY8 (a b c d e:Bool):0<=PD a b c d e/\PD a b c d e<=31:=by cases a<;>cases b<;>cases c<;>cases d<;>cases e<;>exact⟨dq,by decide⟩
theorem db2 (a b c d e:Bool):(F5 .i64 (PD a b c d e) 2!=0)=b:=by cases a<;>cases b<;>cases c<;>cases d<;>cases e<;>rfl
theorem db3 (a b c d e:Bool):(F5 .i64 (PD a b c d e) 8!=0)=d:=by cases a<;>cases b<;>cases c<;>cases d<;>cases e<;>rfl
theorem cY7 (a b c d e:Bool):(F5 .i64 (PD a b c d e) 16!=0)=e:=by cases a<;>cases b<;>cases c<;>cases d<;>cases e<;>rfl
end Go.Pv.Fr
namespace Go.Proofs.YtlbfdimlomockaaGreat.Ec
open Go Go.Pv Go.Proofs
theorem cL1 {x a b:Int}(h:a<=x/\x<=b):(V8 x a b).m=some true:=by show some (decide (x>=a)&&decide (x<=b))=_;rw[cU0 F,cU0 h.2];rfl
theorem cQ8 {α R:Type}:∀l:List α,l.findSome? (λ_=>(none:Option R))=none|[]=>rfl|_::l=>by rw[List.findSome?_cons];exact cQ8 l
def cu3 {l:List Int}(a:l.length<=1000)(h:∀x∈l,-1099511627776<=x/\x<=1099511627776):(bH3 l).m=some true:=by simp only[bH3,C.of,M.run];have e:=Ov (l:=l) (mb:=λi=>(bm2 l i).run) (g:=λ_=>(none:Option Bool)) λi hi=>by simp only[bm2,M.run,L1.m];rw[cU0 F,j2 _ _ hi,b6 F F];simp only[cT9,oq,cL1<|h _<|al8 hi,AT,cT8];rfl (by simp only[bm2,M.run];rw[cU1 F];rfl);rw[cQ8]at e;exact C2 e rfl
def da7 {x:A3}{b1 b2 a b b16:Bool}(h:x.C0=Fr.PD b1 b2 a b b16):(wQ x 1).m=some b1/\(wQ x 2).m=some b2/\(wQ x 4).m=some a/\(wQ x 8).m=some b/\(wQ x 16).m=some b16:=by simp only[wQ,C.of,M.run,h,Fr.cu1,Fr.db2,Fr.cJ8,Fr.db3,Fr.cY7,and_self]
theorem cR8 {c:n9}{x:A3}{a:Int}{p:Bool}(f:Fr.VU c)(h:Fr.Rt c x a p):(cd5 c x a).m=some true:=by
 obtain⟨b1,b2,b4,e,h⟩:=h;have p2:=f.pass;have p3:=f.age;have p4:=f.cx3;have p5:=f.frame;have i:0<=x.C0/\x.C0<=31:=by rw[h.st];exact Fr.cY8 ..
 obtain⟨s1,s2,r,s,j⟩:=da7 h.st;have f1:((x.Frame.length:Int)!=0&&(x.Frame.length:Int)!=c.Frame)=false:=by rcases h.frame with h1|h1;rw[h1];rfl;rw[show((x.Frame.length:Int)!=c.Frame)=false by rw[h1.1];simp,cY3]
 have t:(bH3 x.Frame).m=some true:=by rcases h.frame with h1|h1;rw[h1];exact cu3 sq sq;exact cu3 (by have:=h1.1;omega) h1.2
 have k4:(x.A0==2)=b4:=by rw[zc,beq_iff_eq];exact h.k4.symm
 simp only[cd5,C.of,M.run,b6 (n:=0-c.Pass) F F,b6 (n:=c.Age-1) F F,cL1 i,cL1<|show 0-c.Pass<=x.s6/\x.s6<=c.ru by have:=h.count;omega,cL1 h.Qm,cL1 h.clean,cL1 h.occ,cL1 h.last,f1,t,s1,s2,r,s,j,k4,oq,AT,aj3,cT8];have g1:=h.k1;have g2:=h.k2;have k:=h.k16;have gk:=h.known;have u:=h.none;have fin:(bif b2||b4 then some<|decide (x.k9>=1)&&decide (x.A0>=1)&&decide (x.A6>=1)&&((x.Frame.length:Int)==c.Frame)else some<|x.A0==0&&x.Clean==0&&x.k9==0&&x.A6==0&&(x.Frame.length:Int)==0)=some true:=by cases q:b2||b4;obtain⟨b,d,g,l,w⟩:=u q;rw[b,d,g,l,w];rfl;obtain⟨b,d,g,l⟩:=gk q;rw[cU0<|show x.k9>=1 by omega,cU0<|show x.A0>=1 by omega,cU0<|show x.A6>=1 by omega,l];simp
 have e2:(b2&&x.Clean !=0)=false:=by cases b2;rfl;rw[g2 rfl];rfl
 have e1:(bif b1 then(bif b2 then some p else some false).bind λv=>some !(v&&x.A6==a)else some false)=some false:=by cases b1;rfl;obtain⟨b,d,g⟩:=g1 rfl;rw[b,d,g];simp
 have o:(bif e then some !(b4&&c.Rq)else some false)=some false:=by cases e;rfl;obtain⟨b,d⟩:=k rfl;rw[b,d];rfl
 refine C2 (x:=b2||b4) (by cases b2<;>rfl)<|C2 e1 ?_;simp only[cT8,beq_self_eq_true,AT,oq];rw[o,e2];simp only[oq,cT8];exact fin
def cR1 {l:List n9}{f:y2}(b:Fr.VV l)(a:(oe l).m=some 0)(h:∃c t,(1<=c/\c<=1073741824)/\Fr.Inv l f c true t):(bM4 f).m=some true:=by obtain⟨c,t,j,hi⟩:=h;have k:=hi.len;have n:=b.len;simp only[bM4,C.of,M.run,hi.jP,a,hi.MH,hi.run,oq];rw[show((0:Int)!=0)=false from rfl,show((f.L.length:Int)!=(l.length:Int))=false by rw[k];simp];simp only[aj3,cT8,cL1<|show 0<=c/\c<=1073741824 by omega,oq,AT];rw[cU1<|show¬c<1 by omega,cY3];simp only[aj3,cT8];have e:=Ov (l:=f.L) (mb:=λi=>(bn1 f i).run) (g:=λ_=>(none:Option Bool)) λi d=>by simp only[bn1,M.run,L1.m,hi.jP,hi.MH];rw[cU0 F,j2 _ _ d,j2 l i F,b6 F F];simp only[cT9,oq,cR8 (b.ok F)<|hi.rt i F d,AT,cT8];rfl (by simp only[bn1,M.run];rw[cU1 F];rfl);rw[cQ8]at e;exact C2 e rfl
theorem ct4 {u:Z6}{l:List n9}(c:Fr.VV l)(d:7<=l.length)(a:(oe l).m=some 0)(h:UOk l u):(bi0 u).m=some true:=by
 have e1:(aB u.w3).m=some true:=by rw[LO,NJ,h.tab]
 have e2:=(ay1 h.pl).2;have e:=(cB5 h.PE.sch.ok h.PE.sch.Ah).2;have f:(mr u.c9.h9 u.w5).m=some true:=by rw[aI1,bW3,h.con]
 obtain⟨_,g,i⟩:=cx1 c d h.flt;have j:=cR1 c a h.flt;have ht:=h.time;have k:=h.PE.tf.2;have n:=h.PE.sy.2;have o:=h.qz.2;have p:=h.sg.2;have q:(CJ w0 u.G6).m=some true:=by rw[(ab4 u.G6).2,h.PE.sy.1]
 have b:(F2 u.Time 0 549755813888).m=some true:=by rw[bp5,cU0 ht.1,cU0 ht.2];rfl
 simp only[bi0,C.of,M.run,e1,e2,e,f,cD5,h.PE.tf.1,QX,q,aR0,cD3,h.PE.ph,cD2,h.gr,aq3,h.qz.1,cD4,h.sg.1,j,g,i,b,oq,AT,aj3,cT8];rw[h.now,aW6 ht.1,h.ten,cU0 k,cU0 n,cU0 p,cU0 o];simp
def bZ5 {u:Z6}{d:D5}{k:List H5}{l:List n9}(a:Fr.VV l)(b:7<=l.length)(h:UOk l u)(hk:bkB k=true)(c:Kk d=false)(ht:u.Time+10000<=549755813888):∃v r,(KA u d k).m=some (v,r,0)/\(mA u d k).m=some (v,r)/\UOk l v/\v.Time=u.Time+10000/\bs3 r:=by have e:=h.time;have g:=(as4 hk).1;obtain⟨v,r,e1,e2,f⟩:=aP9 a b h (cw5 c hk) ht;refine⟨v,r,?_,e2,f⟩;simp only[KA,C.of,M.run,OI a b h,(Qe (k:=k) F).1,(bz6 d).1,hk,c,oq,AT,cV8,cT8,b6 (n:=u.Time+10000) F F];grind
def cL8 {u:Z6}{d:D5}{k:List H5}{l:List n9}(b:Fr.VV l)(c:7<=l.length)(h:UOk l u)(hk:k.length<=1000)(a:bkB k=false\/Kk d=true):∃v r,(KA u d k).m=some (v,r,1)/\v.Time=0/\r.Time=0:=by simp only[KA,C.of,M.run,OI b c h,(Qe hk).1,(bz6 d).1,oq,AT,cT8];cases hk:bkB k;exact⟨_,_,rfl,rfl,rfl⟩;rcases a with a|a;grind;rw[a];exact⟨_,_,rfl,rfl,rfl⟩
def cS0 {u:Z6}{d:D5}{k:List H5}{l:List n9}(a:Fr.VV l)(b:7<=l.length)(h:UOk l u)(hk:bkB k=true)(c:Kk d=false)(ht:u.Time+10000>549755813888):∃v r,(KA u d k).m=some (v,r,2)/\v.Time=0/\r.Time=0:=by have e:=h.time;have f:=(as4 hk).1;simp only[KA,C.of,M.run,OI a b h,(Qe (k:=k) F).1,(bz6 d).1,hk,c,oq,AT,cV8,cT8,b6 (n:=u.Time+10000) F F];rw[cU0 ht];grind
def cW7 {u:Z6}{d:D5}{k:List H5}(h:(CE u).m=some false):∃v r,(KA u d k).m=some (v,r,1)/\v.Time=0/\r.Time=0:=by simp only[KA,C.of,M.run,h,oq,cV8,cT9];grind
open Go.Pv.Et
def aJ5 (a:List K1)(i:Nat)(hi:i<a.length)(h:a[i].M7.length<=16):∃j:Int,o3 (λk=>(gO a a (i:Int) k).run) 0=some (.inl j):=by obtain⟨b,e,j,rfl⟩:=oz (mb:=λk=>(gO a a (i:Int) k).run) (λk=>∃n:Nat,k=(n:Int)/\n<=a[i].M7.length) (λk=>a[i].M7.length-k.toNat) (λb:Int⊕Bool=>∃j,b=.inl j) (λk ⟨n,hk,d⟩=>by subst hk;simp only[gO,M.run,L1.m];rw[B3 a i,IN hi];simp only[oq];by_cases c:n<a[i].M7.length;left;rw[cU0<|show((n:Nat):Int)<(a[i].M7.length:Int)by omega,B3,IN c];simp only[oq,cT9,bne_self_eq_false,cT8];rw[b6 F F];exact⟨_,rfl,⟨n+1,by omega,by omega⟩,by omega⟩;right;rw[cU1<|show¬((n:Nat):Int)<(a[i].M7.length:Int)by omega];exact⟨_,rfl,_,rfl⟩) a[i].M7.length 0 sq ⟨0,rfl,by omega⟩;exact⟨j,e⟩
theorem aE5 (a:List K1)(h:a.length<=7/\∀x∈a,x.M7.length<=16):(ur a a).m=some true:=by simp only[ur,C.of,M.run,bne_self_eq_false,cT8];obtain⟨b,e,j,rfl⟩:=oz (mb:=λk=>(og a a k).run) (λk=>∃n:Nat,k=(n:Int)/\n<=a.length) (λk=>a.length-k.toNat) (λb:Int⊕Bool=>∃j,b=.inl j) (λk ⟨n,hk,d⟩=>by subst hk;simp only[og,M.run,L1.m];by_cases c:n<a.length;left;rw[cU0<|show((n:Nat):Int)<(a.length:Int)by omega,B3,IN c];simp only[oq,cT9,bne_self_eq_false,cT8];obtain⟨j,e⟩:=aJ5 a n c<|h.2 _<|al8 c;rw[e];simp only[oq];rw[b6 F F];exact⟨_,rfl,⟨n+1,by omega,by omega⟩,by omega⟩;right;rw[cU1<|show¬((n:Nat):Int)<(a.length:Int)by omega];exact⟨_,rfl,_,rfl⟩) a.length 0 sq ⟨0,rfl,by omega⟩;rw[e];rfl
theorem aj0 (a:List e9)(h:a.length<=1000):(na a a).m=some true:=by simp only[na,C.of,M.run,bne_self_eq_false,cT8];obtain⟨b,e,j,rfl⟩:=oz (mb:=λk=>(im a a k).run) (λk=>∃n:Nat,k=(n:Int)/\n<=a.length) (λk=>a.length-k.toNat) (λb:Int⊕Bool=>∃j,b=.inl j) (λk ⟨n,hk,d⟩=>by subst hk;simp only[im,M.run,L1.m];by_cases c:n<a.length;left;rw[cU0<|show((n:Nat):Int)<(a.length:Int)by omega,B3,IN c];simp only[oq,cT9,beq_self_eq_true,cM0,AT,cT8];rw[b6 F F];exact⟨_,rfl,⟨n+1,by omega,by omega⟩,by omega⟩;right;rw[cU1<|show¬((n:Nat):Int)<(a.length:Int)by omega];exact⟨_,rfl,_,rfl⟩) a.length 0 sq ⟨0,rfl,by omega⟩;rw[e];rfl
theorem aR3 {r:J7}(h:bs3 r):(mz r r).m=some true:=by simp only[mz,C.of,M.run,aE5 r.T3 h.act,aj0 r.LY h.sw,beq_self_eq_true,cM0,cT9,oq]
def ch3 {α R:Type}{l:List α}{mb:Int->Option (Int⊕Int⊕R)}(h:∀(i:Nat)(_:i<l.length),mb (i:Int)=some (.inl ((i+1:Nat):Int)))(a:mb (l.length:Int)=some (.inr<|.inl (l.length:Int))):o3 mb 0=some (.inl (l.length:Int)):=by have e:=Ov (l:=l) (mb:=mb) (g:=λ_=>(none:Option R)) h a;rw[cQ8]at e;exact e
theorem nne {α:Type}[BEq α][LawfulBEq α](a:α):(a !=a)=false:=by simp
theorem cD7 {l:List Int}(a:l.length<=1000):(bV2 l l).m=some true:=by simp only[bV2,C.of,M.run,nne,cT8];refine C2 (ch3 (l:=l) (mb:=λi=>(bl5 l l i).run) λi hi=>by simp only[bl5,M.run,L1.m];rw[cU0 F,j2 _ _ hi,b6 F F];simp only[cT9,oq,nne,cT8];rfl (by simp only[bl5,M.run];rw[cU1 F];rfl)) rfl
def cN1 {p:U8}(a:p.Path.length<=1000):(bT8 p p).m=some true:=by simp only[bT8,C.of,M.run,nne,aj3,cT8];refine C2 (ch3 (l:=p.Path) (mb:=λi=>(bG1 p p i).run) λi hi=>by simp only[bG1,M.run,L1.m];rw[cU0 F,j2 _ _ hi,b6 F F];simp only[cT9,oq,nne,cT8];rfl (by simp only[bG1,M.run];rw[cU1 F];rfl)) rfl
theorem cO0 {t:w8}(a:t.a8.length<=1000):(cd6 t t).m=some true:=by simp only[cd6,C.of,M.run,nne,aj3,cT8];refine C2 (ch3 (l:=t.a8) (mb:=λi=>(bq3 t t i).run) λi hi=>by simp only[bq3,M.run,L1.m];rw[cU0 F,j2 _ _ hi,b6 F F];simp only[cT9,oq,beq_self_eq_true,cM0,AT,cT8];rfl (by simp only[bq3,M.run];rw[cU1 F];rfl)) rfl
theorem cN3 {p:E7}(a:p.Cells.length<=1000):(ce1 p p).m=some true:=by simp only[ce1,C.of,M.run,nne,beq_self_eq_true,AT,aj3,cT8];refine C2 (ch3 (l:=p.Cells) (mb:=λi=>(bG2 p p i).run) λi hi=>by simp only[bG2,M.run,L1.m];rw[cU0 F,j2 _ _ hi,b6 F F];simp only[cT9,oq,beq_self_eq_true,cM0,AT,cT8];rfl (by simp only[bG2,M.run];rw[cU1 F];rfl)) rfl
def cx8 {c:w4}(hp:c.K7.Cells.length<=1000)(a:c.I7.length<=1000):(bU6 c c).m=some true:=by simp only[bU6,C.of,M.run,nne,beq_self_eq_true,cM0,AT,aj3,cT8,cN3 hp,oq];refine C2 (ch3 (l:=c.I7) (mb:=λi=>(bG4 c c i).run) λi hi=>by simp only[bG4,M.run,L1.m];rw[cU0 F,j2 _ _ hi,b6 F F];simp only[cT9,oq,beq_self_eq_true,cM0,AT,cT8];rfl (by simp only[bG4,M.run];rw[cU1 F];rfl)) rfl
def cK9 {f:y2}(h1:f.G3.length<=1000)(b:f.L.length<=1000)(a:∀x∈f.L,x.Frame.length<=1000):(bU7 f f).m=some true:=by simp only[bU7,C.of,M.run,nne,beq_self_eq_true,cM0,AT,aj3,cT8];refine C2 (ch3 (l:=f.G3) (mb:=λi=>(bG6 f f i).run) λi hi=>by simp only[bG6,M.run,L1.m];rw[cU0 F,j2 _ _ hi,b6 F F];simp only[cT9,oq,beq_self_eq_true,cM0,AT,cT8];rfl (by simp only[bG6,M.run];rw[cU1 F];rfl)) ?_;refine C2 (ch3 (l:=f.L) (mb:=λi=>(bG7 f f i).run) λi hi=>by simp only[bG7,ch5,C.of,M.run,L1.m];rw[cU0 F,j2 _ _ hi,b6 F F];simp only[cT9,oq,beq_self_eq_true,cM0,cD7<|a _<|al8 hi,AT,cT8];rfl (by simp only[bG7,M.run];rw[cU1 F];rfl)) rfl
def cN9 {s:a7}(h1:s.b9.a8.length<=1000)(a:s.h9.ai9.length<=1000)(b:s.Next.length<=1000)(c:s.o1.length<=1000):(bS8 s s).m=some true:=by simp only[bS8,C.of,M.run,nne,beq_self_eq_true,cM0,AT,aj3,cT8,cO0 h1,oq];refine C2 (ch3 (l:=s.h9.ai9) (mb:=λi=>(bs0 s s i).run) λi hi=>by simp only[bs0,M.run,L1.m];rw[cU0 F,j2 _ _ hi,b6 F F];simp only[cT9,oq,nne,cT8];rfl (by simp only[bs0,M.run];rw[cU1 F];rfl)) ?_;refine C2 (ch3 (l:=s.Next) (mb:=λi=>(bx6 s s i).run) λi hi=>by simp only[bx6,M.run,L1.m];rw[cU0 F,j2 _ _ hi,b6 F F];simp only[cT9,oq,beq_self_eq_true,cM0,AT,cT8];rfl (by simp only[bx6,M.run];rw[cU1 F];rfl)) ?_;refine C2 (ch3 (l:=s.o1) (mb:=λi=>(bE8 s s i).run) λi hi=>by simp only[bE8,M.run,L1.m];rw[cU0 F,j2 _ _ hi,b6 F F];simp only[cT9,oq,beq_self_eq_true,cM0,AT,cT8];rfl (by simp only[bE8,M.run];rw[cU1 F];rfl)) rfl
def cS2 {u:Z6}(h1:(bU6 u.w5 u.w5).m=some true)(a:(bS8 u.c9 u.c9).m=some true)(b:(bU7 u.B9 u.B9).m=some true)(c:(bT8 u.o6 u.o6).m=some true):(bi6 u u).m=some true:=by simp only[bi6,C.of,M.run,h1,a,b,c,beq_self_eq_true,cM0,cT9,oq]
end Go.Proofs.YtlbfdimlomockaaGreat.Ec
namespace Go.Pv.Fr
open Go Go.Pv
def Dis (l:List n9)(n:Nat):Prop:=∀i j (hi:i<l.length)(a:j<l.length),i<j->j<n->l[i].Code≠l[j].Code
theorem Dis.pw {l:List n9}:Dis l l.length↔l.Pairwise λa b=>a.Code≠b.Code:=by rw[dd5];exact⟨λh i j hi d c=>h i j hi d c d,λh i j hi d c _=>h i j hi d c⟩
theorem ao4 (a b:Int):∀s:List<|Int×Bool,KN false (Wx s a true) b=(b==a||KN false s b)|[]=>by rfl|(c,x)::r=>by simp only[Wx];cases h:a==c;simp only[cT8,KN,ao4 a b r];grind;rw[beq_iff_eq]at h;subst h;simp only[cT9,KN];grind
def Vc:∀(l:List n9)(i:Int)(s:List<|Int×Bool),∃r,F0 Fx l i s=some r/\((∃t,r=.inl t)/\(∀c∈l,KN false s c.Code=false)/\l.Pairwise (λa b=>a.Code≠b.Code)\/r=.inr false/\¬((∀c∈l,KN false s c.Code=false)/\l.Pairwise λa b=>a.Code≠b.Code))
 |[],_,s=>⟨_,rfl,.inl ⟨⟨s,rfl⟩,by simp,.nil⟩⟩|x::l,i,s=>by
  simp only[F0,Fx,Q];cases hx:KN false s x.Code;obtain⟨r,e,h⟩:=Vc l (i+1)<|Wx s x.Code true;refine⟨r,e,?_⟩;have q:((∀c∈x::l,KN false s c.Code=false)/\(x::l).Pairwise λa b=>a.Code≠b.Code)↔(∀c∈l,KN false (Wx s x.Code true) c.Code=false)/\l.Pairwise λa b=>a.Code≠b.Code:=by rw[ba8];simp only[cV6,forall_eq_or_imp,ao4,Ky,beq_eq_false_iff_ne];grind
  grind;grind
def al6 {l:List n9}(a:l.length<=1000):xM l=some true↔Dis l l.length:=by unfold xM Q;rw[B5 _ F,Dis.pw];obtain⟨r,e,h⟩:=Vc l 0 [];rw[e];rcases h with⟨⟨t,rfl⟩,_,h⟩|⟨rfl,h⟩;grind;exact⟨λq=>by simp at q,λq=>absurd ⟨λ_ _=>rfl,q⟩ h⟩
theorem ch1 {l:List n9}(a:l.length<=1000):VV l↔l.length<=64/\l.all cfB=true/\Dis l l.length:=by rw[cV2];exact⟨λh=>⟨h.len,h.cf,(al6 a).1 h.bN1⟩,λh=>⟨h.1,h.2.1,(al6 a).2 h.2.2⟩⟩
def Vi:A3:=⟨0,0,0,0,0,[],0⟩
theorem bo0 {l:List n9}(h:VV l):Oj l=some (⟨l,cI5 l.length Vi,0,false⟩,0):=by have a:=h.len;unfold Oj Q;rw[cU1 F,MB l F,h.any,h.bN1];unfold CY Q;rw[MA l F,yf _ F];rfl
theorem cf4 (n:Nat):(cI5 n Vi).mapIdx (λ_ x=>cf3 x)=cI5 n Vi:=by rw[List.eq_replicate_iff];refine⟨sq,λb a=>?_⟩;rw[List.mem_mapIdx]at a;obtain⟨i,hi,rfl⟩:=a;rw[de3];rfl
theorem bj8 {l:List n9}(a:VV l):ML ⟨l,cI5 l.length Vi,0,false⟩=some (⟨l,cI5 l.length Vi,1,true⟩,0)/\Inv l ⟨l,cI5 l.length Vi,1,true⟩ 1 true λ_=>false:=by
 have c:=a.len;rcases bT6 (l:=l) F with⟨e,h1,d⟩|⟨_,f,h1,hi⟩;grind [bo0];rw[bo0 a]at h1;have:=(Prod.mk.inj<|oa h1).1;subst this;have e:ML ⟨l,cI5 l.length Vi,0,false⟩=some (⟨l,cI5 l.length Vi,1,true⟩,0):=by unfold ML Q;rw[Js a hi F F (λe=>by cases e),hi.copied a];simp only[oq,AT,cT8];rw[Zw (cI5 l.length Vi) (by simp;omega) Fw (λ_ x=>cf3 x) λj s b _ _=>by unfold Fw Q;rw[j2 _ _ b];simp only[oq];rw[D4 _ _ _ b];simp only[oq];rw[D4 _ _ _ gq];simp only[oq,dd2];rfl,cf4];rfl
 grind [bJ8]
end Go.Pv.Fr
namespace Go.Proofs.YtlbfdimlomockaaGreat.Ec
open Go Go.Pv Go.Proofs
theorem ba2 (c:n9):(pW c).m=some (Fr.cfB c):=by simp only[pW,V8,C.of,M.run,Fr.cfB];generalize(decide (c.Code>=1)&&decide (c.Code<=16777215))=a;generalize(decide (c.ru>=1)&&decide (c.ru<=100))=b;generalize(decide (c.Pass>=1)&&decide (c.Pass<=100))=a3;generalize(decide (c.ON>=1)&&decide (c.ON<=100))=a4;generalize(decide (c.Age>=c.ON)&&decide (c.Age<=255))=a5;generalize(decide (c.u5>=0)&&decide (c.u5<=255))=d;generalize(decide (c.Frame>=0)&&decide (c.Frame<=8))=e;cases a<;>cases b<;>cases a3<;>cases a4<;>cases a5<;>cases d<;>cases e<;>rfl
def cw4 {l:List n9}(o:l.length<=1000)(n:Nat)(g:n<l.length):∃b,o3 (λk=>(cA l (n:Int) k).run) 0=some b/\((∃j,b=.inl j)/\(∀j (a:j<l.length),j<n->l[j].Code≠l[n].Code)\/b=.inr 8/\¬∀j (a:j<l.length),j<n->l[j].Code≠l[n].Code):=by
 refine oz (mb:=λk=>(cA l (n:Int) k).run) (λk=>∃m:Nat,k=(m:Int)/\m<=n/\∀j (a:j<l.length),j<m->l[j].Code≠l[n].Code) (λk=>n-k.toNat) _ (λk ⟨m,hk,p,f⟩=>?_) n 0 sq ⟨0,rfl,by omega,λj _ a=>by omega⟩;subst hk;simp only[cA,M.run,L1.m];by_cases e:m<n;rw[cU0 F,j2 _ _<|show m<l.length by omega,j2 _ _ g,b6 F F];simp only[cT9,oq];by_cases d:l[m].Code=l[n].Code;right;rw[d,beq_self_eq_true];exact⟨_,rfl,.inr ⟨rfl,λh=>h m F e d⟩⟩;left;rw[beq_eq_false_iff_ne.2 d];refine⟨_,rfl,⟨m+1,by omega,by omega,λj a i=>?_⟩,by omega⟩;by_cases c:j=m;subst c;exact d;exact f j a F;right;rw[cU1 F];have:m=n:=by omega
 subst this;exact⟨_,rfl,.inl ⟨⟨_,rfl⟩,f⟩⟩
def ch8 {l:List n9}(p:l.length<=1000):∃b,o3 (λi=>(cz l i).run) 0=some b/\((∃j,b=.inl j)/\Fr.Dis l l.length\/b=.inr 8/\¬Fr.Dis l l.length):=by
 refine oz (mb:=λi=>(cz l i).run) (λk=>∃m:Nat,k=(m:Int)/\m<=l.length/\Fr.Dis l m) (λk=>l.length-k.toNat) _ (λk ⟨m,hk,r,o⟩=>?_) l.length 0 sq ⟨0,rfl,by omega,λi j hi g a h=>by omega⟩;subst hk;simp only[cz,M.run];by_cases c:m<l.length;rw[cU0 F,b6 (n:=(m:Int)+1) F F];simp only[cT9];obtain⟨b,e,h⟩:=cw4 p m c;rw[e];rcases h with⟨⟨j,rfl⟩,h⟩|⟨rfl,h⟩;left;refine⟨_,rfl,⟨m+1,by omega,by omega,λi j hi g a d=>?_⟩,by omega⟩;by_cases f:j=m;subst f;exact h i hi a;exact o i j hi g a F;right;exact⟨_,rfl,.inr ⟨rfl,λq=>h λj g d=>q j m g c d c⟩⟩;right;rw[cU1 F];have:m=l.length:=by omega
 subst this;exact⟨_,rfl,.inl ⟨⟨_,rfl⟩,o⟩⟩
def bv1 {l:List n9}(a:l.length<=1000):∃c,(oe l).m=some c/\(c=0↔Fr.VV l):=by
 rw[Fr.ch1 a];simp only[oe,C.of,M.run];by_cases d:l.length<=64
 ·rw[cU1<|show¬(l.length:Int)>64 by omega];simp only[cT8];have e:=Ov (l:=l) (mb:=λi=>(cy l i).run) (g:=λx=>bif Fr.cfB x then none else some (1:Int)) λi hi=>by simp only[cy,M.run,L1.m];rw[cU0 F,j2 _ _ hi,b6 F F];simp only[cT9,oq,ba2];grind (by simp[cy,M.run]);have q:∀m:List n9,m.findSome? (λx=>bif Fr.cfB x then none else some (1:Int))=bif m.all Fr.cfB then none else some 1:=λm=>by induction m with|nil=>rfl|cons x m f=>grind
  rw[q]at e;rw[e];cases k:l.all Fr.cfB;·simp
  ·obtain⟨b,e2,h⟩:=ch8 a;simp only[cT9,oq];rw[e2];rcases h with⟨⟨j,rfl⟩,h⟩|⟨rfl,h⟩;all_goals simp_all
 ·rw[cU0<|show(l.length:Int)>64 by omega];grind
theorem KV (l:List n9)(b:l.length<=64):(kJ ⟨l,cI5 l.length Fr.Vi,0,false⟩).m=some ⟨l,cI5 l.length Fr.Vi,1,true⟩:=by simp only[kJ,C.of,M.run,ZL (f:=⟨l,cI5 l.length Fr.Vi,0,false⟩)<|by simp;omega,oq];rw[show o3 (λs=>(aC s).run) (0,cI5 l.length Fr.Vi)=some (.inl ((l.length:Int),cI5 l.length Fr.Vi))from cd (mb:=λs=>(aC s).run) (λk:Nat=>((k:Int),cI5 l.length Fr.Vi)) l.length (by simp[aC,M.run]) λk hk=>by have a:(cI5 l.length Fr.Vi)[k]'gq=Fr.Vi:=de3 ..;simp only[aC,M.run,L1.m,U1.m];rw[cU0<|by simp;omega,j2 _ _ gq,a,b6 F F];simp only[cT9,oq];rw[show(M9 Fr.Vi 8).m=some Fr.Vi from(M9 Fr.Vi 8).le 10 _<|by kernel_rfl];simp only[oq];rw[show(M9 Fr.Vi 1).m=some Fr.Vi from(M9 Fr.Vi 1).le 10 _<|by kernel_rfl];grind [D4,Fr.Vi,Fr.aT1]];rfl
def LW (e:j5)(T:Int):a7:=⟨e,Sc.k0,⟨T,cI5 (2*e.ai9.length) Sc.z0⟩,[],[],false⟩
def cF7 {e:j5}(h:Ev.R5 e){T:Int}(h0:0<=T)(f:T<=1099511627776):Sc.mS<|LW e T:=by
 have h1:=h.1;have g:=h.2.1;have a:Sc.Live e.ai9.length<|LW e T:=by
  refine⟨rfl,h1,g,⟨by simp[LW],λx hx=>?_,λj i=>by simp[LW]at i,λc b=>?_⟩,λb=>by simp[LW]at b,h0,f,.inl ⟨rfl,rfl⟩,by simp[LW]⟩;have:x=Sc.z0:=by grind [LW]
  subst this;rfl;have:(LW e T).b9.a8[c]=Sc.z0:=by simp only[LW,de3]
  simp only;rw[this];rfl
 refine⟨h,rfl,a.tim,a.len,rfl,by simp[LW],λ_=>rfl,a.rows.Pu,λc b=>?_⟩;have d:=a.rows.row c b;simp only at d;unfold Sc.CQ;rw[d];rfl
def UO (t:j1)(b:D0)(e:j5)(l:List n9)(T:Int):Z6:=⟨t,bd6 e.ai9.length,LW e T,sy0,⟨false,0,0,false⟩,⟨false,0,0⟩,⟨0,0,false⟩,⟨1,0,0,false,false⟩,⟨false,1,0⟩,⟨l,cI5 l.length Fr.Vi,1,true⟩,⟨0,0,0,1013,0,[]⟩,b,T⟩
structure bH0 (t:j1)(b:D0)(e:j5)(l:List n9):Prop where
 lE:Ev.R5 e
 cf:Fr.VV l
 c7:7<=l.length
 body:fU b=true
 tab:ME t=true
def cz9 {b:D0}(h:fU b=true):VX b ⟨0,0,0,1013,0,[]⟩:=by have a:=yA h;exact⟨h,by simp,by simp,⟨sq,by have:=a.i;grind⟩,by simp,by simp,by have:=a.de;grind,by simp⟩
def cp9 {t:j1}{b:D0}{e:j5}{l:List n9}(h:bH0 t b e l){T:Int}(h0:0<=T/\T<=549755813888)(h1:T%10000=0):UOk l<|UO t b e l T:=⟨h.tab,cz9 h.body,⟨⟨cF7 h.lE h0.1 F,by simp[UO,LW],rfl,QA T⟩,⟨bh4,h0.1⟩,be4,⟨rfl,h0.1⟩,λq=>absurd rfl q⟩,rfl,bT5 h.lE,rfl,⟨rfl,h0.1⟩,⟨rfl,h0.1⟩,⟨1,_,by omega,(Fr.bj8 h.cf).2⟩,h0,h1⟩
theorem cI9:(QD 1).m=some (⟨1,0,0,false,false⟩,0):=(QD 1).le 100 _<|by kernel_rfl
theorem cK5:(YN).m=some sy0:=rfl
theorem tf0:(Hk).m=some ⟨false,0,0⟩:=rfl
theorem cB3:(Vv).m=some ⟨false,1,0⟩:=rfl
def zU:Z6:=⟨⟨⟨[],[],[]⟩,⟨[],[],[]⟩,⟨[],[],[]⟩,⟨[],[],[]⟩,⟨[],[]⟩,⟨[],[]⟩,⟨[],[]⟩,⟨[],[]⟩,⟨0,0,0,0⟩⟩,⟨⟨0,0,false⟩,⟨0⟩,[],⟨false,false,0,0,[]⟩,0,⟨0,0⟩⟩,⟨⟨[],0⟩,⟨false,0,0,0,0,0⟩,⟨0,[]⟩,[],[],false⟩,⟨0,0,0,0,0,0⟩,⟨false,0,0,false⟩,⟨false,0,0⟩,⟨0,0,false⟩,⟨0,0,0,false,false⟩,⟨false,0,0⟩,⟨[],[],0,false⟩,⟨0,0,0,0,0,[]⟩,⟨0,0,0,0,0,0,0⟩,0⟩
def cI6 (t:j1)(b:D0)(e:j5)(l:List n9)(u:l.length<=1000):bH0 t b e l/\(IJ t b e l).m=some (UO t b e l 0,0)/\(iu t b e l).m=some (UO t b e l 0,true)\/(IJ t b e l).m=some (zU,1)/\(iu t b e l).m=some (zU,false):=by
 have r:(Ng b).m=some (bif fU b then(⟨0,0,0,1013,0,[]⟩,0)else(⟨0,0,0,0,0,[]⟩,1)):=by simp only[Ng,C.of,M.run,aQ0,oq];grind
 have s:(cb t).m=some (ME t):=by rw[Io,AG]
 have r5:(aB t).m=some (ME t):=by rw[LO,NJ]
 have e1:(va e).m=some (bif decide (Ev.R5 e)then(bd6 e.ai9.length,0)else(br8,1)):=by rw[XF,Yi]
 have r1:(iq e).m=some (bif decide (Ev.R5 e)then(bd6 e.ai9.length,0)else(br8,1)):=by rw[OT,az1]
 have e2:(po e).m=some (bif decide (Ev.R5 e)then(Sc.cy9 e,0)else(Sc.Ju,1)):=by rw[TN,Sc.co5]
 obtain⟨c,r4,g⟩:=bv1 u;obtain⟨f,x,d,i⟩:∃f x,(rR l).m=some (f,x)/\(x=0↔Fr.VV l):=by
  rw[RI];rcases Fr.bT6 (l:=l) F with⟨x,d,hx⟩|⟨g,f,d,hi⟩;·grind [Fr.bo0]
  grind
 by_cases a:bH0 t b e l
 ·left;refine⟨a,?_,?_⟩
  ·have v:f=⟨l,cI5 l.length Fr.Vi,0,false⟩:=by rw[RI,Fr.bo0 a.cf]at d;exact(Prod.mk.inj<|oa d).1.symm
   have hx:=i.2 a.cf;subst v;subst hx;have w:=a.c7;simp only[IJ,C.of,M.run,e1,e2,r,d,s,a.body,a.tab,cU0 a.lE,oq,cT9];rw[cU1<|show¬(l.length:Int)<7 by omega];simp only[XI,(Fr.bj8 a.cf).1,cI9,cK5,bU9,tf0,cB3,oq];rfl
  ·have hx:=g.2 a.cf;subst hx;have w:=a.c7;have j:=a.cf.len;have B:=a.lE.2.1;simp only[iu,C.of,M.run,r1,r4,r5,aq2,a.body,a.tab,cU0 a.lE,oq,cT9,AT,cT8];rw[cU1<|show¬(l.length:Int)<7 by omega,show((0:Int)!=0)=false from rfl];simp only[aj3,cT8,oq];rw[show H (2*(e.ai9.length:Int))=((2*e.ai9.length:Nat):Int)by rw[b6 F F];omega,yf _ F];simp only[oq];rw[yf _ F];simp only[oq];rw[show(kJ ⟨l,cI5 l.length ⟨0,0,0,0,0,[],0⟩,0,false⟩).m=_ from KV l j];rfl
 ·right;have no:(!ME t||!decide (Ev.R5 e)||!fU b||x !=0||decide ((l.length:Int)<7))=true:=by refine eq_true_of_ne_false λh=>?_;simp only[Ky,cZ4,cU3,dg1,bne_eq_false_iff_eq]at h;obtain⟨⟨⟨⟨h1,y⟩,z⟩,A⟩,D⟩:=h;exact a ⟨y,i.1 A,by omega,z,h1⟩
  have k:(c !=0)=(x !=0):=by rw[zc,bne_iff_ne,bne_iff_ne];exact not_congr<|g.trans i.symm
  constructor;·simp only[IJ,C.of,M.run,e1,e2,r,d,s,oq];generalize ME t=n at no|-;generalize fU b=o at no|-;generalize(x !=0)=q4 at no|-;generalize decide ((l.length:Int)<7)=p at no|-;generalize decide (Ev.R5 e)=q at no|-;revert no;cases n<;>cases q<;>cases o<;>cases q4<;>cases p<;>intro no<;>first|cases no;done|rfl
  ·simp only[iu,C.of,M.run,r1,r4,r5,aq2,oq,k];generalize ME t=n at no|-;generalize fU b=o at no|-;generalize(x !=0)=q4 at no|-;generalize decide ((l.length:Int)<7)=p at no|-;generalize decide (Ev.R5 e)=q at no|-;revert no;cases n<;>cases q<;>cases o<;>cases q4<;>cases p<;>intro no<;>first|cases no;done|rfl
def VF {α S R:Type}(l:List α)(i:l.length<=1000000000)(f:Int->α->S->Option (Fl S R))(I:Nat->S->Prop)(J:R->Prop)(s:S)(h0:I 0 s)(h:∀k s (hk:k<l.length),I k s->(∃s',f (k:Int) l[k] s=some (.next s')/\I (k+1) s')\/∃u,f (k:Int) l[k] s=some (.ret u)/\J u):∃b,o3 (λp:Int×S=>bif decide<|p.1<(l.length:Int)then(y3 l p.1).bind λx=>(f p.1 x p.2).bind<|iH p.1else some<|.inr<|.inl p.2) (0,s)=some b/\((∃s',b=.inl s'/\I l.length s')\/∃u,b=.inr u/\J u):=by exact oz (mb:=λp:Int×S=>bif decide<|p.1<(l.length:Int)then(y3 l p.1).bind λx=>(f p.1 x p.2).bind<|iH p.1else some<|.inr<|.inl p.2) (λx=>∃k:Nat,x.1=(k:Int)/\k<=l.length/\I k x.2) (λx=>l.length-x.1.toNat) (λb:S⊕R=>(∃s',b=.inl s'/\I l.length s')\/∃u,b=.inr u/\J u) λx ⟨k,hk,g,hi⟩=>by obtain⟨a,u⟩:=x;simp only at hk hi;subst hk;simp only;by_cases c:k<l.length;rw[cU0<|show(k:Int)<(l.length:Int)by omega,j2 _ _ c];simp only[cT9,oq];rcases h k u c hi with⟨s',e,d⟩|⟨v,e,j⟩;left;rw[e];refine⟨_,rfl,⟨k+1,?_,by omega,d⟩,?_⟩;show H ((k:Int)+1)=_;rw[b6 F F];omega;show l.length-(H<|(k:Int)+1).toNat<l.length-(k:Int).toNat;rw[b6 F F];omega;grind;grind l.length (0,s) sq ⟨0,rfl,by omega,h0⟩
theorem aw:(jV).m=some true:=(jV).le 1000 _<|by kernel_rfl
theorem bs8 (l:List<|List Int)(a:l.length<=1000000)(f:Cl Tryz.prog (List Int) Bool (λx=>[.t<|tS Pv.encI x]) λr=>.t<|tB r)(p:List Int->Bool)(h:∀x∈l,f.f x=some (p x)):(H6 l f).m=some (l.any p):=by simp only[H6,dQ,gV,C.of,M.run,L1.m,Cl.at];refine Eq.trans ?_<|FC l F f.f p h;kernel_rfl
def ci8 (t:j1):∃b,(wO t).m=some b:=by
 simp only[wO,C.of,M.run];obtain⟨b,e,h⟩:=VF [t.Ai,t.D1,t.j4,t.rA] sq (λi x (u:Unit)=>(pQ i x u).run) (λ_ _=>True) (λ_=>True) () trivial (λk u hk _=>by
  generalize [t.Ai,t.D1,t.j4,t.rA][k]=x;simp only[pQ,M.run];cases a:decide ((x.X.length:Int)>40)||decide ((x.Y.length:Int)>40)||decide ((x.Z.length:Int)>40);·simp only[Ky,cU3]at a;simp only[cT8];rw[bs8 x.Z F (.of (λd=>CI d) 26 []) _ λy _=>rfl];simp only[oq];generalize x.Z.any _=c;cases c;all_goals simp
  simp);rw[e];rcases h with⟨u,rfl,_⟩|⟨r,rfl,_⟩;·simp only[oq];obtain⟨b,e,h⟩:=VF [t.B4,t.L5,t.X5,t.p8] sq (λi x (u:Unit)=>(pR i x u).run) (λ_ _=>True) (λ_=>True) () trivial (λk u hk _=>by generalize [t.B4,t.L5,t.X5,t.p8][k]=x;simp only[pR,M.run];cases a:decide ((x.X.length:Int)>40)||decide ((x.Y.length:Int)>40);all_goals simp);rw[e];rcases h with⟨u,rfl,_⟩|⟨r,rfl,_⟩;all_goals simp
 simp
theorem cq3 {l:List n9}(d:Fr.VV l){u:Z6}(h:UOk l u):(bi6 u u).m=some true:=by
 have a:=Ku.1 h.con;have j:=a.lE.2.1;obtain⟨c,q,e,hi⟩:=h.flt;have k:=hi.len;have f:=d.len;have n:=(yA h.pl.body).de;have hp:=h.pl.Ah;have b:=h.PE.sch;have o:=b.ok.most;have g:=b.ok.chs;have i:=b.Ah;have hk:=a.num;have hx:u.w5.K7.Cells.length=9:=by have:=a.mix;simp_all[Pd]
 exact cS2 (cx8 F F) (cN9 F F F F) (cK9 (by rw[hi.jP];omega) F λx hx=>by have:=hi.cx0 d x hx;omega)<|cN1 F
def cU2 {v:Z6}{x:Bool}(b:ME v.w3=true)(c:VX v.mR v.o6)(a3:(Q5 v.c9).m=some x/\(kj v.c9).m=some x)(a4:FA v.c9.h9 v.w5=true)(a5:tfB v.H4=true)(d:syB v.G6=true)(e:Zq v.C6=true)(f:grB v.dT=true)(a9:qzB v.aS=true)(b1:sgB v.Q3=true)(b2:(dD v.B9).m=some true/\decide ((v.B9.L.length:Int)<7)=false/\v.B9.dA=true)(j:(bM4 v.B9).m=some true)(g:¬((0<=v.Time/\v.Time<=549755813888)/\v.Time%10000=0)):(CE v).m=some false/\(bi0 v).m=some false:=by
 obtain⟨k,h,i⟩:=b2;constructor;have e1:(cb v.w3).m=some true:=by rw[Io,AG,b]
 have a:(tF w0 v.G6).m=some true:=by rw[(ab4 v.G6).1,d]
 have g1:(mX v.c9.h9 v.w5).m=some true:=by rw[Wc,bm1,a4]
 simp only[CE,C.of,M.run,e1,(ay1 c).1,a3.1,oq,AT,cT8];cases x;rfl;simp only[AT,cT8,g1,ab7,a5,OK,a,Sa,Zr,e,YD,f,SE,a9,ZZ,b1,k,h,i,oq,aj3];refine congrArg some ?_;have q:(decide (v.Time>=0)&&decide (v.Time<=549755813888)&&uk v.Time 10000==0)=false:=by rw[Bool.eq_false_iff];intro q;simp only[BY,dg1,beq_iff_eq]at q;rw[aW6 q.1.1]at q;exact g ⟨⟨q.1.1,q.1.2⟩,q.2⟩
 rw[q];rfl;have e1:(aB v.w3).m=some true:=by rw[LO,NJ,b]
 have a:(CJ w0 v.G6).m=some true:=by rw[(ab4 v.G6).2,d]
 have g2:(mr v.c9.h9 v.w5).m=some true:=by rw[aI1,bW3,a4]
 simp only[bi0,C.of,M.run,e1,(ay1 c).2,a3.2,oq,AT,cT8];cases x;rfl;simp only[AT,cT8,g2,cD5,a5,QX,a,aR0,cD3,e,cD2,f,aq3,a9,cD4,b1,j,h,i,bp5,oq,aj3];have q:(!(decide (v.Time>=0)&&decide (v.Time<=549755813888))||uk v.Time 10000!=0)=true:=by refine eq_true_of_ne_false λq=>?_;simp only[Ky,cZ4,BY,dg1,bne_eq_false_iff_eq]at q;rw[aW6 q.1.1]at q;exact g q
 rw[q];rfl
def cW4 {t:j1}{b:D0}{e:j5}{l:List n9}(h:bH0 t b e l){T:Int}(d:¬((0<=T/\T<=549755813888)/\T%10000=0)):(CE<|UO t b e l T).m=some false/\(bi0<|UO t b e l T).m=some false:=by have h0:UOk l<|UO t b e l 0:=cp9 h F F;obtain⟨c,a,f⟩:=bv1 (l:=l) (by have:=h.cf.len;omega);rw[f.2 h.cf]at a;exact cU2 (x:=Sc.Ji<|LW e T) h.tab (cz9 h.body) ⟨by simp[Fo,Sc.Fe,UO,LW],by simp[An,Sc.Fc,UO,LW]⟩ (bT5 h.lE) rfl rfl rfl rfl rfl rfl (cx1 h.cf h.c7 h0.flt) (cR1 h.cf a h0.flt) d
def cN0 {l:List n9}(c:Fr.VV l)(g:7<=l.length)(h:(oe l).m=some 0)(k:List H5)(hk:k.length<=1000)(a:List D5)(q:a.length<=12){u:Z6}(j:UOk l u)(ht:u.Time=0):∃b,o3 (λp:Int×Z6=>bif decide<|p.1<(a.length:Int)then(y3 a p.1).bind λx=>((bi1 k p.1 x p.2).run).bind<|iH p.1else some<|.inr<|.inl p.2) (0,u)=some b/\((∃s',b=.inl s'/\UOk l s'/\s'.Time=10000*(a.length:Int))\/∃v,b=.inr v/\v=true):=by refine VF a F (λi x s=>(bi1 k i x s).run) (λn s=>UOk l s/\s.Time=10000*(n:Int)) (λv=>v=true) u ⟨j,by rw[ht];rfl⟩ λn s t ⟨h1,w⟩=>?_;obtain⟨b1,b2⟩:=Qe hk;obtain⟨d1,d2⟩:=bz6 a[n];simp only[bi1,M.run];by_cases e:bkB k=true/\Kk a[n]=false;left;obtain⟨v,r,e1,e2,f,y,o⟩:=bZ5 c g h1 e.1 e.2 F;refine⟨v,?_,f,by omega⟩;simp only[e1,e2,b2,d2,e.1,e.2,cq3 c f,aR3 o,ct4 c g h f,oq,AT,cV8,cT9,cT8];rfl;right;obtain⟨v,r,e1,e2,f⟩:=cL8 (k:=k) (d:=a[n]) c g h1 hk (by grind);refine⟨_,?_,rfl⟩;grind
def cS1 (t:j1)(b:D0)(e:j5)(l:List n9)(a:List D5)(k:List H5)(skip:Int):(bn0 t b e l a k skip).m=some true:=by
 obtain⟨f,D⟩:=ci8 t;simp only[bn0,C.of,M.run,aw,D,oq,AT,cT8];cases i:!f||decide ((e.ai9.length:Int)>20)||decide ((l.length:Int)>70)||decide ((a.length:Int)>12)||decide ((k.length:Int)>120);simp only[Ky,cU3]at i;obtain⟨⟨⟨_,O⟩,P⟩,hk⟩:=i;simp only[cT8];rcases cI6 t b e l F with⟨g,e1,e2⟩|⟨e1,e2⟩;have y:=cp9 g (T:=0) F F;obtain⟨c,o,E⟩:=bv1 (l:=l) F;rw[E.2 g.cf]at o;have I:((P3 (UO t b e l 0).c9).f rfl λ_=>rfl).m=some (UO t b e l 0).c9:=bN8 ⟨y.PE.sch.ok,y.PE.sch.Ah,rfl,rfl⟩;simp only[e1,e2,I,cq3 g.cf y,oq,AT,cT8,show((0:Int)!=0)=false from rfl];obtain⟨w,J,K⟩:=cN0 g.cf g.c7 o k F a F y rfl;refine C2 (x:=.inl ()) ?_ ?_;cases a with|nil=>rfl|cons d ds=>obtain⟨b1,b2⟩:=Qe (k:=k) F;obtain⟨d1,d2⟩:=bz6 d;rw[cU0<|show((d::ds).length:Int)>0 by simp only[cU9];omega];simp only[L1.m];rw[show y3 (d::ds) 0=some d from rfl];simp only[cT9,oq];rw[show(⟨(UO t b e l 0).w3,(UO t b e l 0).w5,({(UO t b e l 0).c9 with b9.D2:=skip}:a7),(UO t b e l 0).G6,(UO t b e l 0).C6,(UO t b e l 0).H4,(UO t b e l 0).dT,(UO t b e l 0).aS,(UO t b e l 0).Q3,(UO t b e l 0).B9,(UO t b e l 0).o6,(UO t b e l 0).mR,skip⟩:Z6)=UO t b e l skip from rfl];by_cases A:(0<=skip/\skip<=549755813888)/\skip%10000=0;have z:=cp9 g A.1 A.2;have B:=ct4 g.cf g.c7 o z;by_cases i:bkB k=true/\Kk d=false;by_cases h:skip+10000>549755813888;obtain⟨v,r,p,j,u⟩:=cS0 g.cf g.c7 z i.1 i.2 h;simp only[p,B,b2,d2,i.1,i.2,oq,AT,cV8,cT8,b6 (n:=skip+10000) F F,cU0 h,cT9,j,u];rfl;obtain⟨v,r,p,j,u,Q,L⟩:=bZ5 g.cf g.c7 z i.1 i.2 (show skip+10000<=549755813888 by omega);simp only[p,j,B,b2,d2,i.1,i.2,oq,AT,cV8,cT8,b6 (n:=skip+10000) F F,cU1 h,cq3 g.cf u,aR3 L];rfl;obtain⟨v,r,p,j,u⟩:=cL8 (k:=k) (d:=d) g.cf g.c7 z F (by cases q:bkB k;exact .inl rfl;cases j:Kk d;exact absurd ⟨q,j⟩ i;exact .inr rfl);simp only[p,B,b2,d2,oq,AT,cT8,j,u];cases q:bkB k;rfl;cases j:Kk d;exact absurd ⟨q,j⟩ i;rfl;obtain⟨n1,N⟩:=cW4 g A;obtain⟨v,r,p,j,u⟩:=cW7 (d:=d) (k:=k) n1;simp only[p,N,j,u,oq,cV8,cT9];rfl
 simp only;rw[J];rcases K with⟨s,rfl,_⟩|⟨v,rfl,rfl⟩<;>rfl;simp only[e1,e2,oq,cV8,cT9];rfl;rfl
end Go.Proofs.YtlbfdimlomockaaGreat.Ec
namespace Go.Proofs.YtlbfdimlomockaaGreat
open Go Go.Pv Go.Proofs
def cq8 (a:j1)(b:D0)(c:j5)(d:List n9)(e:List D5)(f:List H5)(g:Int)(_:bi4 a)(_:cc1 b)(_:bi3 c)(_:(wfL cC9) d)(_:(wfL bE4) e)(_:(wfL bE3) f)(_:(λn=>(Lit.int .i64 n).wf=true) g):(bn0 a b c d e f g).m=some true:=Ec.cS1 a b c d e f g
end Go.Proofs.YtlbfdimlomockaaGreat
namespace Go.Proofs.YtlbfdimlomockaaGreat.ecuSteps
open Go Go.Pv Go.Proofs Go.ChangeShapes Go.WideShapes Go.ChangeAt Go.RowKit Go.Proofs.YtlbfdimlomockaaGreat
def own:ownKnob Tryz.prog.godebug=none:=by kernel_rfl
set_option maxRecDepth 100000 in
def lifted (os:Os)(f:os.Started)(a:Type)(enc:TypeId×Value->a):ReturnsInHanded {} Tryz.checked os 3 .any (Rows.ecuStepsSpec.pre6 enc Tryz.prog Tryz.f3 Rows.ecuStepsRow.domain false)<|Rows.ecuStepsSpec.post enc Tryz.prog Tryz.f3 false true false false:=by
  refine returnsInHanded_of_change (C:=Tryz.checked) own f (by kernel_rfl) Tryz.func3 (ChangeSpec.witness6 (enc:=enc) (C:=Tryz.checked) false ⟨#[],#[.agg #[.slice none 0 0,.slice none 0 0,.slice none 0 0,.slice none 0 0,.slice none 0 0,.slice none 0 0,.slice none 0 0,.slice none 0 0,.slice none 0 0,.slice none 0 0,.slice none 0 0,.slice none 0 0,.slice none 0 0,.slice none 0 0,.slice none 0 0,.slice none 0 0,.slice none 0 0,.slice none 0 0,.slice none 0 0,.slice none 0 0,.int .i64 0,.int .i64 0,.int .i64 0,.int .i64 0],.agg #[.int .i64 0,.int .i64 0,.int .i64 0,.int .i64 0,.int .i64 0,.int .i64 0,.int .i64 0],.agg #[.slice none 0 0,.int .i64 0],.slice none 0 0,.slice none 0 0,.slice none 0 0,.int .i64 0],[]⟩ 16 (by kernel_rfl) (by kernel_rfl) (by kernel_rfl)<|by kernel_rfl) ?_;intro W base args ds gs k g A B _;have b:∀(j:Nat)t v,Tryz.f3.params[j]?=some t->args[j]?=some v->Value.okWide Tryz.prog W .any base t v:=g;have l:=A;obtain⟨p,q,i,hV,rfl,hfz,hnd⟩:=A;have D:DataW.TrodAll enc Tryz.prog W 0 (λ_=>true) true Tryz.f3.params.toList args.toList ds p:=i;rw[Tryz.params3]at D b;obtain⟨v0,vs0,d0,ds0,p0,q0,n,rfl,rfl,h0,r0⟩:=trodAll_cons D;obtain⟨E,vs1,d1,ds1,p1,q1,rfl,rfl,rfl,h1,r1⟩:=trodAll_cons r0;obtain⟨I,vs2,d2,ds2,p2,q2,rfl,rfl,rfl,J,r2⟩:=trodAll_cons r1;obtain⟨v3,vs3,d3,ds3,p3,q3,rfl,rfl,rfl,K,r3⟩:=trodAll_cons r2;obtain⟨v4,vs4,d4,ds4,p4,q4,rfl,rfl,rfl,L,r4⟩:=trodAll_cons r3;obtain⟨v5,vs5,d5,ds5,p5,q5,rfl,rfl,rfl,M,r5⟩:=trodAll_cons r4;obtain⟨N,vs6,d6,ds6,p6,q6,rfl,rfl,rfl,O,r6⟩:=trodAll_cons r5;obtain⟨rfl,rfl,rfl⟩:=trodAll_nil r6;obtain rfl:args=#[v0,E,I,v3,v4,v5,N]:=by cases args;simp_all
  obtain⟨rfl,rfl⟩:=trodVars_none hV;have k0:=h0;have o:∀x∈p0,x.block<W.heap.size:=by obtain⟨m,d⟩:=k0;exact DataW.trod_lt m _ _ _ d
  obtain⟨P,g0,a0⟩:=cO4 _ _ W _ _ _ _ (b 0 31 v0 rfl rfl) h0;have k1:=h1;have r:∀x∈p1,x.block<W.heap.size:=by obtain⟨m,d⟩:=k1;exact DataW.trod_lt m _ _ _ d
  obtain⟨Q,g1,a1⟩:=cO5 _ _ W _ _ _ _ (b 1 33 E rfl rfl) h1;have k2:=J;have s:∀x∈p2,x.block<W.heap.size:=by obtain⟨m,d⟩:=k2;exact DataW.trod_lt m _ _ _ d
  obtain⟨R,g2,a2⟩:=cO7 _ _ W _ _ _ _ (b 2 35 I rfl rfl) J;have S:=K;have u:∀x∈p3,x.block<W.heap.size:=by obtain⟨m,d⟩:=S;exact DataW.trod_lt m _ _ _ d
  obtain⟨T,g3,a3⟩:=cV9 _ _ W _ _ _ _ (b 3 36 v3 rfl rfl) K;have k4:=L;have w:∀x∈p4,x.block<W.heap.size:=by obtain⟨m,d⟩:=k4;exact DataW.trod_lt m _ _ _ d
  obtain⟨U,g4,a4⟩:=cO8 _ _ W _ _ _ _ (b 4 37 v4 rfl rfl) L;have V:=M;have y:∀x∈p5,x.block<W.heap.size:=by obtain⟨m,d⟩:=V;exact DataW.trod_lt m _ _ _ d
  obtain⟨X,g5,a5⟩:=cP2 _ _ W _ _ _ _ (b 5 38 v5 rfl rfl) M;have Z:=O;have z:∀x∈p6,x.block<W.heap.size:=by obtain⟨m,d⟩:=Z;exact DataW.trod_lt m _ _ _ d
  obtain⟨x6,g6,a6⟩:=cS5 _ _ W _ _ _ _ (b 6 3 N rfl rfl) O;clear i g;refine(uR.calls (bn0 P Q R T U X x6).ok (cq8 P Q R T U X x6 g0 g1 g2 g3 g4 g5 g6)<|aO6 (a0 _)<|aO6 (a1 _)<|aO6 (a2 _)<|aO6 (a3 _)<|aO6 (a4 _)<|aO6 (a5 _)<|aO6 (a6 _) cM4).mono λe W' ⟨he,c⟩=>?_;subst he;exact⟨_,rfl,_,_,_,[],_,[],l,trodAll_mk1<|shut_bool Tryz.underlying4 _,trodAll_cons_mk (Below.trod laidOut (by kernel_rfl) (of_decide_eq_true<|by kernel_rfl) k0 c o)<|trodAll_cons_mk (Below.trod laidOut (by kernel_rfl) (of_decide_eq_true<|by kernel_rfl) k1 c r)<|trodAll_cons_mk (Below.trod laidOut (by kernel_rfl) (of_decide_eq_true<|by kernel_rfl) k2 c s)<|trodAll_cons_mk (Below.trod laidOut (by kernel_rfl) (of_decide_eq_true<|by kernel_rfl) S c u)<|trodAll_cons_mk (Below.trod laidOut (by kernel_rfl) (of_decide_eq_true<|by kernel_rfl) k4 c w)<|trodAll_cons_mk (Below.trod laidOut (by kernel_rfl) (of_decide_eq_true<|by kernel_rfl) V c y)<|trodAll_cons_mk (Below.trod laidOut (by kernel_rfl) (of_decide_eq_true<|by kernel_rfl) Z c z) trodAll_mk0,rfl,c.frame _,λh=>by cases h⟩
end Go.Proofs.YtlbfdimlomockaaGreat.ecuSteps
namespace Go.Proofs.YtlbfdimlomockaaGreat
def ecuSteps.closed:Tryz.prog.inPlace 3=[]/\Tryz.prog.unfollowed 3=true/\Tryz.prog.recurses 3=true/\Tryz.prog.varsNamed 3=Rows.ecuStepsRow.named:=by have h:=Pz.bu7 (P:=Tryz.prog) (lo:=3) (hi:=696) (D:=618) (f:=3) (u:=102) (p:=[6,25,102]) (q:=[11,51,157,322,455,533,585,618]) (l0:=Pz.gl Tryz.prog 618) cW1 F F (of_decide_eq_true<|by kernel_rfl) (by kernel_rfl) sq (by kernel_rfl) sq rfl (by kernel_rfl);exact⟨h.1,h.2.1,h.2.2.1,h.2.2.2.trans<|by kernel_rfl⟩
def ecuSteps.cQ5:joinedFacts Tryz.prog 3 Tryz.f3 Rows.ecuStepsSpec Rows.ecuStepsRow=true:=by unfold joinedFacts;rw[ecuSteps.closed.1,ecuSteps.closed.2.1,ecuSteps.closed.2.2.1,ecuSteps.closed.2.2.2,laidOut,cT0,cQ1,cQ3,cQ0];kernel_rfl
theorem ecuSteps_holds:Rows.EcuStepsSaid:=OpenClaim.holds_of_wide 3 Tryz.f3 rfl rfl rfl rfl rfl rfl rfl ⟨rfl,rfl,rfl,rfl,rfl⟩ rfl rfl rfl rfl rfl (by kernel_rfl) Tryz.func3 ecuSteps.cQ5 (of_decide_eq_true<|by kernel_rfl) (by unfold Func.isWrapper;first|rw[if_pos<|by decide+kernel];kernel_rfl|rw[if_neg<|by decide+kernel];exact⟨rfl,rfl⟩) λos b a enc _=>ecuSteps.lifted os b a enc
#print axioms ecuSteps_holds
end Go.Proofs.YtlbfdimlomockaaGreat

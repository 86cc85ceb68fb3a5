/- A part of the proof of EcuSteps: Plain Lean, and more. -/
import Derived.Test.YtlbfdimlomockaaGreatEcuStepsE
import Derived.KernelRfl
set_option linter.all false
set_option maxRecDepth 100000
noncomputable section
open Bool renaming and_eq_true->BY,and_false->cY3,and_self->cM0,and_true->dd8,eq_iff_iff->zc,false_and->dc2,false_or->db8,not_eq_false'->cZ4,not_eq_true'->nW,not_false->cV8,not_true->AT,or_eq_false_iff->Ky,or_eq_true->bh7,or_self->aj3,true_and->cV0
open Int renaming add_mul_ediv_left->da5,ediv_eq_zero_of_lt->cZ1,ediv_le_ediv->cv2,ediv_le_self->cC0,ediv_lt_iff_lt_mul->da2,ediv_nonneg->cY5,emod_lt_of_pos->cM3,emod_nonneg->cZ3,le_ediv_iff_mul_le->cL7,le_refl->QA,le_trans->cZ7,mul_le_mul_of_nonneg_left->cX2,mul_le_mul_of_nonneg_right->dc4,mul_nonneg->cM7,tdiv->bQ2,tdiv_eq_ediv_of_nonneg->br2,tmod->uk,tmod_eq_emod->df7,tmod_eq_emod_of_nonneg->aW6,toNat->cy6
open Go.IntKind renaming bits->cL0,signed->cZ5,u64->IS,wrap->de9
open List renaming all_eq_true->cV2,any_eq_false->cH5,any_eq_not_all_not->dc8,append_assoc->cW5,append_nil->iy,cons_append->cX8,drop_drop->bT3,drop_eq_getElem_cons->bw1,foldl_cons->da1,getD_eq_getElem?_getD->db9,getElem?_append_right->dc0,getElem?_eq_getElem->IN,getElem?_eq_none->cK8,getElem?_eq_some_iff->No,getElem_mem->al8,getElem_set_self->cY0,head?_drop->cX6,length->cO3,length_append->IT,length_cons->cU9,length_drop->dc1,length_map->cW2,length_nil->cX0,length_range->cI4,length_singleton->cX9,length_take->cV5,map_append->dc9,map_cons->ew,map_nil->db6,mem_append->bX2,mem_cons->cV6,mem_cons_of_mem->cV3,mem_cons_self->cV7,mem_filter->de0,mem_iff_getElem->Kz,mem_map->cX3,mem_of_getElem?->bX3,mem_of_mem_take->cL4,mem_range->cD9,nil_append->wS,not_mem_nil->cC1,pairwise_append->cu5,pairwise_cons->ba8,pairwise_iff_getElem->dd5,perm_append_comm->df0,range->MY,range'->cX1,range_succ->da8,replicate->cI5,set_append_right->db0,set_cons_zero->cT5,set_set->dd2,singleton_append->cY4,take_add_one->cQ4,take_length->cZ0,take_succ_eq_append_getElem->cd8
open List.Pairwise renaming sublist->cT7
open List.Perm renaming append_left->cS4,cons->cZ6,swap->df5
open Nat renaming add_zero->cq7,div_add_mod->cL5,div_eq_of_lt->df1,div_le_self->de6,le_refl->cW6,lt_or_ge->db7,mod_eq_of_lt->cZ2,mod_lt->cY9,sub_self->cQ9,zero_add->cX4
open Option renaming bind->tI,bind_some->oq,getD_some->cx4
open Option.some renaming inj->oa,injEq->AI
namespace Go.Pv
open Go
structure cE6 (p:ia):Prop where
 v:0<=p.Value/\p.Value<=1000
 d:0<=p.X6/\p.X6<=3
 f:p.xI=true↔p.X6=3
 l:p.xI=true->p.Value<=200
theorem ap2 {p:ia}:SB p=true↔cE6 p:=by unfold SB;rw[dg1];exact⟨λ⟨a,b,c,d,e,f⟩=>⟨⟨a,b⟩,⟨c,d⟩,e,f⟩,λ⟨⟨a,b⟩,⟨c,d⟩,e,f⟩=>⟨a,b,c,d,e,f⟩⟩
def Zp (p:ia)(a b:Int):ia:=let f:=min (max a 0) 1000
 let s:=2*min (max b 0) 500
 let w:=decide<|max (f-s) (s-f)>50
 let d:=if w then min 3 (p.X6+1)else if p.xI then p.X6 else 0
 if d=3 then⟨min (min f s) 200,d,true⟩else if w then⟨min (min f s) p.Value,d,false⟩else⟨f,d,false⟩
def QP {p:ia}(h:SB p=true)(a b:Int):KP p a b=some (Zp p a b,0)/\SB (Zp p a b)=true:=by
 have k:=ap2.1 h;have k1:=k.v;have k2:=k.d;have g:=k.f;have k4:=k.l;constructor;unfold KP Zp Q;rw[bU8,h,fV,fV];simp only[oq,AT,cT8,H2,E5];have f0:0<=min (max a 0) 1000/\min (max a 0) 1000<=1000:=by omega
 have s0:0<=min (max b 0) 500/\min (max b 0) 500<=500:=by omega
 generalize min (max a 0) 1000=f at f0;generalize min (max b 0) 500=s at s0;rw[b6 (n:=2*s) F F,b6 (n:=f-2*s) F F,b6 (n:=2*s-f) F F,b6 (n:=p.X6+1) F F];grind;rw[ap2];unfold Zp;simp only;have f0:0<=min (max a 0) 1000/\min (max a 0) 1000<=1000:=by omega
 have s0:0<=min (max b 0) 500/\min (max b 0) 500<=500:=by omega
 generalize min (max a 0) 1000=f at f0;generalize min (max b 0) 500=s at s0;have c:∀w:Bool,0<=(if w=true then min 3 (p.X6+1)else if p.xI=true then p.X6 else 0)/\(if w=true then min 3 (p.X6+1)else if p.xI=true then p.X6 else 0)<=3:=by omega
 have c:=c<|decide<|max (f-2*s) (2*s-f)>50;generalize(if decide (max (f-2*s) (2*s-f)>50)=true then min 3 (p.X6+1)else if p.xI=true then p.X6 else 0)=d at c;by_cases e:d=3;rw[if_pos e];exact⟨gq,c,⟨λ_=>e,λ_=>rfl⟩,λ_=>by simp only;omega⟩;rw[if_neg e];split;exact⟨by simp only;omega,c,⟨λh=>(by cases h),λh=>absurd h e⟩,λh=>by cases h⟩;exact⟨by simp only;omega,c,⟨λh=>(by cases h),λh=>absurd h e⟩,λh=>by cases h⟩
def VT (t:j1)(v s:Int):Int:=min (max (QZ t.rA s v)<|-5000) 10000
def cq4 {t:j1}(h:sx t.rA=true){v s:Int}(v0:0<=v/\v<=1000)(s0:0<=s/\s<=12000):KQ t v s=some (VT t v s,0):=by unfold KQ Q;rw[aN,h,ZW h];simp only[oq,AT,cT8];rw[show(decide (v<0)||decide (v>1000)||decide (s<0))=false by grind,show decide (s>12000)=false from cU1 F,fV,H2,E5];rfl
def ac5 (t:j1)(v s:Int):-5000<=VT t v s/\VT t v s<=10000:=by grind [VT]
def EO (c:Int):Int:=if c<=-20 then 1200 else if c>=70 then 800 else 1200-400*(c+20)/90
theorem ab8 {c:Int}(h:-40<=c/\c<=150):GU c=some (EO c)/\800<=EO c/\EO c<=1200:=by unfold GU EO Q;by_cases h1:c<=-20;grind;by_cases a:c>=70;grind;rw[cU1 h1,cU1 a,if_neg h1,if_neg a,b6 (n:=c+20) F F,b6 (n:=400*(c+20)) F F,br2 F,b6 (n:=400*(c+20)/90) F F,b6 F F];grind
def ae9 (v s c:Int):Bool:=E6 0 19 v&&(E6 0 12000 s&&decide (s<EO c+300))
def bH4 {v s c:Int}(h:-40<=c/\c<=150):GS v s c=some (ae9 v s c):=by obtain⟨h1,a⟩:=ab8 h;unfold GS am9 ae9 Q;rw[h1,show(decide (v>=0)&&decide (v<20))=E6 0 19 v by unfold E6;grind,show xQ s=some (E6 0 12000 s)from rfl];simp only[oq];rw[b6 F F];grind
def Gj (s:B1):Prop:=-4398046511104<=s.Sum/\s.Sum<=4398046511104
def bm7 {s:B1}{g:uQ}(c:Fz g=true)(a:Gj s){e:Int}(d:-1048576<=e/\e<=1048576):∃s' u,mV s g e=some (s',u,0)/\Gj s':=by have b:=a;unfold Gj at b;unfold mV;rw[show da g=some (Fz g)from rfl,c];simp only[oq];rw[show(!true||decide (s.Sum< -4398046511104)||decide (s.Sum>4398046511104))=false by grind];rw[show(decide (e< -1048576)||decide (e>1048576))=false by grind];simp only[cT8];generalize w9 .i64 (H<|H (g.P*e)+s.Sum) 10=u;generalize(decide (u<=g.fI)||decide (e<=0))=A;generalize(decide (u>=g.Bu)||decide (e>=0))=B;cases A;exact⟨s,_,rfl,a⟩;cases B;exact⟨s,_,rfl,a⟩;refine⟨⟨_⟩,_,rfl,?_⟩;grind [Gj,H2,E5]
def bR7 {s:B1}{g:uQ}(a:Fz g=true)(b:Gj s){c v:Int}(c0:-40<=c/\c<=150)(v0:0<=v/\v<=12000):∃s' u,sZ s g (EO c) v=some (s',u,0)/\Gj s':=by obtain⟨_,t0,f⟩:=ab8 c0;obtain⟨s',u,h1,d⟩:=bm7 a b (e:=EO c-v) F;refine⟨s',u,?_,d⟩;unfold sZ Q;rw[show da g=some (Fz g)from rfl,a,show xQ (EO c)=some (E6 0 12000<|EO c)from rfl,show xQ v=some (E6 0 12000 v)from rfl,A7 (show 0<=EO c by omega) F,A7 v0.1 v0.2,b6 F F];grind
structure cM9 (k:y6):Prop where
 r:0<=k.U7/\k.U7<=960
 n:0<=k.Q9/\k.Q9<=4095
 q:0<=k.Quiet/\k.Quiet<=99
theorem bS4 {k:y6}:knB k=true↔cM9 k:=by unfold knB;simp only[BY,nQ,dg1];exact⟨λ⟨⟨⟨a,b⟩,c⟩,d⟩=>⟨a,b,c,d⟩,λ⟨a,b,c,d⟩=>⟨⟨⟨a,b⟩,c⟩,d⟩⟩
def kst (k:y6)(n:Int):y6:=if n>3*k.Q9+40 then⟨min (k.U7+96) 960,k.Q9,0⟩else if k.Quiet+1=100 then⟨max (k.U7-16) 0,k.Q9+(n-k.Q9)/8,0⟩else⟨k.U7,k.Q9+(n-k.Q9)/8,k.Quiet+1⟩
def cy4 {k:y6}{n:Int}(h:knB k=true)(n0:E6 0 4095 n=true):(∃b,FP k n=some (kst k n,b))/\knB (kst k n)=true:=by have o:=bS4.1 h;have c:=o.r;have d:=o.n;have e:=o.q;have n1:=nQ.1 n0;constructor;unfold FP kst Q;rw[b6 (n:=3*k.Q9) F F,b6 (n:=3*k.Q9+40) F F];by_cases h1:n>3*k.Q9+40;rw[cU0 h1,if_pos h1,b6 (n:=k.U7+96) F F,H2];simp;rw[cU1 h1,if_neg h1,b6 (n:=k.Quiet+1) F F,b6 (n:=k.U7-16) F F,b6 (n:=n-k.Q9) F F,MO _ _ F F F F,E5];by_cases a:k.Quiet+1=100;rw[show(k.Quiet+1==100)=true from beq_iff_eq.2 a,if_pos a];simp only[cT8,cT9,oq];rw[b6 F F];simp;rw[show(k.Quiet+1==100)=false from beq_eq_false_iff_ne.2 a,if_neg a];simp only[cT8,cT9,oq];rw[b6 F F];simp;rw[bS4];unfold kst;split;exact⟨gq,by omega,by simp⟩;split;exact⟨gq,by grind,by simp⟩;exact⟨F,by grind,by grind⟩
def Ww (l:List y6)(m:List Int):List y6:=List.zipWith kst l m
def bS7 {l:List y6}{m:List Int}(h:l.all knB=true)(g:m.all (E6 0 4095)=true)(r:1<=l.length/\l.length<=8)(s:m.length=l.length):IW l m=some (Ww l m,0)/\(Ww l m).all knB=true/\(Ww l m).length=l.length:=by
 rw[cV2]at h g;have d:(Ww l m).length=l.length:=by grind [Ww]
 have a:∀j (h1:j<l.length)(n:j<m.length),(Ww l m)[j]?=some (kst l[j] m[j]):=by grind [Ww]
 have hk:∀j (h1:j<l.length)(n:j<m.length),(∃b,FP l[j] m[j]=some (kst l[j] m[j],b))/\knB (kst l[j] m[j])=true:=λj h1 n=>cy4 (h _<|al8 h1)<|g _<|al8 n;refine⟨?_,?_,d⟩;have o:S9 l CP=some (l.any λk=>!knB k):=W2 l F CP _ (λk _=>by unfold CP Q;rw[cs8];rfl);have p:G1 m Hl=some (m.any λk=>!E6 0 4095 k):=dB m F Hl _ λk _=>rfl;have b1:(l.any λk=>!knB k)=false:=by rw[cH5];intro x hx;rw[h x hx];simp
 have b2:(m.any λk=>!E6 0 4095 k)=false:=by rw[cH5];intro x hx;rw[g x hx];simp
 unfold IW;rw[show(decide ((l.length:Int)<1)||decide ((l.length:Int)>8)||(m.length:Int)!=(l.length:Int))=false by simp;omega,o,b1,p,b2];simp only[cT8,oq];unfold uN Q;rw[l5 _ _<|by simp;omega];simp only[oq,wS];obtain⟨u,e,f⟩:=sB l.length F (EH l m) (λi u=>u.length=l.length/\∀j,j<i->u[j]?=(Ww l m)[j]?) l ⟨rfl,λj c=>by omega⟩ (λj c u f=>by
  obtain⟨⟨b,q⟩,_⟩:=hk j c F;unfold EH;rw[j2 _ _ c,j2 _ _<|show j<m.length by omega];simp only[oq];rw[q];simp only[oq];rw[j2 _ _ F];simp only[oq];rw[D4 _ _ _ F];refine⟨_,rfl,by simp[f.1],λi hi=>?_⟩;rcases db7 i j with h|h;rw[List.getElem?_set_ne F];exact f.2 i h;have:i=j:=by omega
  subst this;rw[List.getElem?_set_self F,a i c F]);rw[e];have:u=Ww l m:=by apply List.ext_getElem?;intro i;rcases db7 i l.length with h|h;exact f.2 i h;rw[cK8 F,cK8 F]
 rw[this];rfl;rw[cV2];intro x hx;obtain⟨j,c,rfl⟩:=Kz.1 hx;have h1:j<l.length:=by omega
 have:=a j h1 F;rw[IN c]at this;rw[oa this];exact(hk j h1 F).2
structure cE5 (p:E7):Prop where
 f:750<=p.N2/\p.N2<=1250
 w:0<=p.pL/\p.pL<=1000
 n:p.Cells.length=9
 a:p.T3=true\/(p.N2=1000/\p.pL=0/\p.nA=false)c:p.Cells.all Po=true
theorem aO3 {p:E7}:Pd p=true↔cE5 p:=by unfold Pd;simp only[BY,nQ,dg1,bh7,nW];exact⟨λ⟨⟨⟨⟨a,b⟩,c⟩,d⟩,e⟩=>⟨a,b,c,d.imp_right λh=>⟨h.1.1,h.1.2,h.2⟩,e⟩,λ⟨a,b,c,d,e⟩=>⟨⟨⟨⟨a,b⟩,c⟩,d.imp_right λh=>⟨⟨h.1,h.2.1⟩,h.2.2⟩⟩,e⟩⟩
def mxR (p:E7)(m:Int):Bool:=decide (m>500)||decide (m>=400)&&p.nA
def mxV (p:E7)(m:Int):E7:=bif p.T3 then bif mxR p m==p.nA then⟨true,mxR p m,min (max (p.N2+bif mxR p m then-1 else 1) 750) 1250,min 1000<|p.pL+1,p.Cells⟩else⟨true,mxR p m,min (max (p.N2+bif mxR p m then-15 else 15) 750) 1250,0,p.Cells⟩else⟨decide (m<300)||decide (m>600),decide<|m>600,p.N2,p.pL,p.Cells⟩
theorem cI2 (x lo hi:Int):oJ x lo hi=some (E6 lo hi x):=rfl
theorem aQ2 (s c:Int):BU s c=some (E6 0 12000 s&&E6 0 1048576 c):=by grind [BU,Q,cI2]
def UB {p:E7}(h:Pd p=true){m s c:Int}(d:0<=m/\m<=20000)(s0:0<=s/\s<=12000)(c0:0<=c/\c<=1048576):zR p m s c=some (mxV p m,0)/\Pd (mxV p m)=true:=by
 have k:=aO3.1 h;have k1:=k.f;have k2:=k.w;have b:=k.n;constructor;unfold zR FV Gh mxV Q;rw[bd4,h,aQ2,A7 s0.1 s0.2,A7 c0.1 c0.2,cI2,A7 d.1 d.2,l5 _ _<|by simp;omega];simp only[oq,AT,cT8,cM0,wS];cases e:p.T3;rfl;simp only[AT,cT8,cT9];have i:(bif decide<|m>500then some true else some<|decide (m>=400)&&p.nA)=some (mxR p m):=by grind [mxR]
 rw[i,b6 (n:=p.pL+1) F F];simp only[oq,H2];cases mxR p m==p.nA;simp only[cV8,cT9,cT8,oq];cases mxR p m;simp only[cT8,oq,fV,H2,E5];grind [b6];simp only[cT9,oq,fV,H2,E5];grind [b6];simp only[AT,cT9,cT8,oq];cases mxR p m;simp only[cT8,oq,fV,H2,E5];rw[b6 F F];simp only[cT9,oq,fV,H2,E5];rw[b6 (n:=0-1) F F,b6 F F];rfl;rw[aO3];unfold mxV;cases e:p.T3;have a:=k.a;rw[e]at a;obtain⟨j,l,a3⟩:=a.resolve_left sq;refine⟨k1,k2,b,?_,k.c⟩;by_cases g:m>600;exact .inl (by show(decide (m<300)||decide (m>600))=true;rw[cU0 g,Bool.or_true]);exact .inr ⟨j,l,cU1 g⟩;simp only[cT9];cases mxR p m==p.nA;exact⟨by simp only[cT8];omega,by simp only[cT8];omega,b,.inl rfl,k.c⟩;exact⟨by simp only[cT9];omega,by simp only[cT9];omega,b,.inl rfl,k.c⟩
def ah8 (x a b:Int):Nat:=if x>=b then 2 else if x>=a then 1 else 0
theorem bM8 (x a b:Int)(c:a<=b):HW x [a,b]=some (ah8 x a b:Int):=by
 have d:H ((0:Int)+1)=1:=by decide
 have e:H ((1:Int)+1)=2:=by decide
 unfold HW ah8 Q;rw[B5 _ sq];simp only[F0,Jc,Q];grind
def Oh (x a b:Int):ah8 x a b<=2:=by grind [ah8]
def UZ (s c:Int):Nat:=3*ah8 s 1500 3500+ah8 c 150000 350000
def Qt (p:E7)(s c:Int):Int:=min (max (p.N2+(p.Cells.getD (UZ s c) ⟨0,0⟩).Value) 700) 1300
def cw8 {p:E7}(h:Pd p=true){s c:Int}(s0:0<=s/\s<=12000)(c0:0<=c/\c<=1048576):zQ p s c=some (Qt p s c,0):=by
 have k:=aO3.1 h;have k1:=k.f;have d:=k.n;have e:=Oh s 1500 3500;have g:=Oh c 150000 350000;have b:UZ s c<p.Cells.length:=by grind [UZ]
 have a:=cV2.1 k.c _<|al8 b;unfold Po at a;rw[BY,nQ]at a;have i:=a.1;unfold zQ Su Q;rw[bd4,h,aQ2,A7 s0.1 s0.2,A7 c0.1 c0.2,bM8 _ _ _ F,bM8 _ _ _ F];simp only[oq,AT,cT8,cM0];rw[b6 (n:=3*(ah8 s 1500 3500:Int)) F F,b6 F F,show 3*(ah8 s 1500 3500:Int)+(ah8 c 150000 350000:Int)=((UZ s c:Nat):Int)by rfl,j2 _ _ b];grind [Qt,b6,fV,H2,E5]
def am2 (p:E7)(s c:Int):700<=Qt p s c/\Qt p s c<=1300:=by grind [Qt]
theorem aL1 (x lo hi:Int):bl9 x lo hi=some (E6 lo hi x):=rfl
theorem bQ0 {c:Int}(c0:0<=c/\c<=1048576):Ol c 1000=some (c*10000/147000,0):=by unfold Ol Q;rw[aL1,aL1,A7 c0.1 c0.2,show E6 500 2000 1000=true from rfl];simp only[oq,AT,cT8];grind [b6,ay5]
theorem aL4 {b:D0}(h:fU b=true):Ui b=some true:=by have k:=yA h;have k1:=k.fi;have k2:=k.ev;grind [Ui,Q,aL1,A7]
def R4 (b:D0)(i:Int):Int:=i*b.E4/1024
def O5 (b:D0)(f:Int):Int:=f*b.B0/1024
def xH {b:D0}(h:fU b=true){i:Int}(a:0<=i):0<=R4 b i/\R4 b i<=i:=by have k:=(yA h).fi;have b1:=bL (A:=i) a (QA i) k.1 k.2;grind [R4]
def nJ {b:D0}(h:fU b=true){i:Int}(a:0<=i):0<=O5 b i/\O5 b i<=i:=by have k:=(yA h).ev;have b1:=bL (A:=i) a (QA i) (show 0<=b.B0 by omega) k.2;grind [O5]
theorem YB {b:D0}(h:fU b=true){f i:Int}(f0:0<=f/\f<=1073741824)(a:0<=i/\i<=1048576):Uj b f i=some (i-R4 b i+O5 b f,f+R4 b i-O5 b f):=by
 have k:=yA h;have k1:=k.fi;have k2:=k.ev;have b1:=bL a.1 a.2 k1.1 k1.2;have b2:=bL f0.1 f0.2 (show 0<=b.B0 by omega) k2.2;have r1:=xH h a.1;have r2:=nJ h f0.1;have e1:H (bQ2 (H<|i*b.E4) 1024)=R4 b i:=by grind [R4,b6]
 have e2:H (bQ2 (H<|f*b.B0) 1024)=O5 b f:=by grind [O5,b6]
 grind [Uj,Q,b6]
theorem bP7 {b:D0}(h:fU b=true){f:Int}(f0:0<=f/\f<=1073741824):IE b f 0=some (O5 b f,f-O5 b f,0):=by
 have r2:=nJ h f0.1;have a:R4 b 0=0:=by simp[R4]
 unfold IE Q;rw[aL4 h,aL1,aL1,A7 f0.1 f0.2,show E6 0 1048576 0=true from rfl,YB h f0 ⟨F,by omega⟩,a];grind
theorem ci9 (f:Int->Option Int):EN f=bO λx=>tI (f x) λv=>some !decide (v>0):=by funext s;unfold EN bO;grind
def find_spec (n:Nat)(d:n<=2305843009213693951)(f:Int->Option Int)(g:Nat->Int)(e:∀i,i<n->f (i:Int)=some (g i)):∃(k:Nat)(b:Bool),k<=n/\Jj (n:Int) f=some ((k:Int),b)/\(0<k->g (k-1)>0)/\(k<n->g k<=0):=by
 obtain⟨k,k1,k2,l,k4⟩:=sJ n d (λx=>tI (f x) λv=>some !decide (v>0)) (λi=>!decide (g i>0)) (λi hi=>by grind);unfold nK at k2;have a:0<k->g (k-1)>0:=λh=>by grind
 have c:k<n->g k<=0:=λh=>by grind
 unfold Jj;rw[ci9];cases j:o3 (bO λx=>tI (f x) λv=>some !decide (v>0)) (0,(n:Int))with|none=>grind|some t=>rw[j]at k2;cases t with|inr r=>grind|inl s2=>simp only[oq,AI]at k2;simp only[oq];rw[k2];rcases db7 k n with h|h;rw[cU0<|show(k:Int)<(n:Int)by omega,e k h];exact⟨k,_,k1,rfl,a,c⟩;rw[cU1<|show¬(k:Int)<(n:Int)by omega];exact⟨k,_,k1,rfl,a,c⟩
structure aW9 (b:D0)(f m i x e:Int):Prop where
 out:e=0\/e=9
 inj:e=0->0<=i/\i<=1048576
 O2:e=0->x=f+R4 b i-O5 b f
 Zv:e=0->0<=x/\x<=1073741824
 fit:e=0->m<=i-R4 b i+O5 b f
 low:e=0->0<i->i-1-R4 b (i-1)+O5 b f<m
 vJ:e=9->1048576-R4 b 1048576+O5 b f<m\/∃j,0<=j/\j<=1048576/\m<=j-R4 b j+O5 b f/\(0<j->j-1-R4 b (j-1)+O5 b f<m)/\1073741824<f+R4 b j-O5 b f
def bQ7 {b:D0}(h:fU b=true){f m:Int}(f0:0<=f/\f<=1073741824)(g:0<=m/\m<=1048576):∃i x e,EY b f m=some (i,x,e)/\aW9 b f m i x e:=by
 have r2:=nJ h f0.1;have r1:∀i:Int,0<=i->0<=R4 b i/\R4 b i<=i:=λi hi=>xH h hi;unfold EY Q;rw[aL4 h,aL1,aL1,A7 f0.1 f0.2,A7 g.1 g.2];simp only[oq,AT,cT8];obtain⟨k,q,k1,k2,j,k4⟩:=find_spec 1048577 F (λc=>GR c b f m) (λi=>m-((i:Int)-R4 b (i:Int)+O5 b f)) (λi hi=>by have:=r1 (i:Int) F;unfold GR Q;rw[YB h f0 ⟨F,by omega⟩];simp only[oq];rw[b6 F F]);have d:Jj 1048577 (λc=>GR c b f m)=some ((k:Int),q):=k2;rw[d];simp only[oq];by_cases hk:k=1048577;subst hk;refine⟨0,0,9,rfl,.inr rfl,λh=>(by cases h),λh=>(by cases h),λh=>(by cases h),λh=>(by cases h),λh=>(by cases h),λ_=>.inl ?_⟩;have:=j F;rw[show((1048577-1:Nat):Int)=1048576 by omega]at this;omega;have n:=k4 F;have o:=r1 (k:Int) F;rw[cU1<|show¬(k:Int)>1048576 by omega,YB h f0 ⟨F,by omega⟩];simp only[cT8,oq];have a:0<(k:Int)->(k:Int)-1-R4 b ((k:Int)-1)+O5 b f<m:=λhp=>by have:=j F;rw[show((k-1:Nat):Int)=(k:Int)-1 by omega]at this;omega
 by_cases l:f+R4 b (k:Int)-O5 b f>1073741824;rw[cU0 l];exact⟨0,0,9,rfl,.inr rfl,λh=>(by cases h),λh=>(by cases h),λh=>(by cases h),λh=>(by cases h),λh=>(by cases h),λ_=>.inr ⟨(k:Int),by omega,by omega,by omega,a,by omega⟩⟩;rw[cU1 l];exact⟨(k:Int),_,0,rfl,.inl rfl,λ_=>⟨F,by omega⟩,λ_=>rfl,λ_=>⟨F,by omega⟩,λ_=>by omega,λ_=>a,λh=>by cases h⟩
def RY {t:j1}(h:(mU t.X5&&t.X5.Y.all (E6 0 10000))=true){a v:Int}(a0:0<=a/\a<=1048576)(v0:0<=v/\v<=20000):Uh t a v=some (HB t.X5 v,0)/\0<=HB t.X5 v/\HB t.X5 v<=10000:=by
 rw[BY]at h;obtain⟨h1,b⟩:=h;have d:=(uV h1).yl;have hx:=(uV h1).x.most;have c:=Ft h1 v<|cD0 h1 b;refine⟨?_,c⟩;have e:G1 t.X5.Y Vn=some (t.X5.Y.any λy=>!E6 0 10000 y):=dB _ F _ _ λy _=>rfl;have e2:(t.X5.Y.any λy=>!E6 0 10000 y)=false:=by grind
 simp_all[Uh,Q,dW,aL1,A7,aZ4]
def aU7 (m:Int):Int:=-(-m/3)
theorem bQ4 {t:j1}(h:(mU t.X5&&t.X5.Y.all (E6 0 10000))=true){a v:Int}(a0:0<a/\a<=1048576)(v0:0<=v/\v<=20000):IF t a v=some (HB t.X5 v+aU7 a,0):=by obtain⟨h1,b⟩:=RY h (a:=a) F v0;unfold IF Ii aU7 Q;rw[h1,Oy _ _ 2 F F F F<|.inr rfl];simp only[oq];rw[show((0:Int)!=0||a==0)=false by grind];simp only[cT8];rw[if_neg dq,b6 F F]
def by3 {t:j1}(h:(mU t.X5&&t.X5.Y.all (E6 0 10000))=true){a v:Int}(a0:0<=a/\a<=1048576)(v0:0<=v/\v<=20000):MP t a v=some (3*max 0 (a-HB t.X5 v),0):=by obtain⟨h1,b⟩:=RY h a0 v0;unfold MP Q;rw[h1];simp only[oq];rw[show((0:Int)!=0)=false from rfl,b6 (n:=a-HB t.X5 v) F F,E5];simp only[cT8];grind [b6]
theorem NO (x lo hi:Int):SU x lo hi=some (E6 lo hi x):=rfl
theorem UJ (l:List Int)(h:l.length<=9223372036854775807)(lo hi:Int):Ia l lo hi=some !l.all (E6 lo hi):=by unfold Ia Q;rw[dB l h (λa=>Lw a lo hi) (λx=>!E6 lo hi x) λy _=>rfl,oq,dc8];simp
theorem aS0 {t:j1}(h:uP t=true)(ht:lQ t=true):NX t=some true:=by
 have f:=Tc ht;unfold uP at h;unfold lQ at ht;simp only[BY]at h ht;obtain⟨⟨⟨h1,b⟩,g⟩,j⟩:=h;obtain⟨⟨⟨⟨_,_⟩,t3⟩,t4⟩,_⟩:=ht;have a:=DZ h1;have zl:=a.zl;have m:=a.x.most;have n:=a.y.most;have o:=(uV b).x.most;have p:=(uV b).yl;have b0:=uV f;have b1:=b0.x.most;have b2:=b0.yl;have l:NW t.p8.Y=some true:=by have e:Y7 t.p8.Y PC=some (DL t.p8.Y):=an5 t.p8.Y F λi hi=>b0.el i F;unfold NW Q;rw[e,t4];rfl
 have hz:cD t.D1.Z Ib=some (t.D1.Z.any λr=>!r.all (E6 (-1280) 3840)):=W2 _ F _ _ (λr c=>by obtain⟨k,hk,rfl⟩:=Kz.1 c;have rl:=a.rl k hk;unfold Ib Q;rw[UJ _ F];rfl);have d:(t.D1.Z.any λr=>!r.all (E6 (-1280) 3840))=false:=by rw[cH5];intro r c;rw[cV2.1 g r c];simp
 unfold NX Q;rw[aN,h1,dW,b,dW,f,l,hz,d,UJ _ F,UJ _ F,j,t3];rfl
def MI (t:j1)(v k:Int):Int:=min (HB t.L5 v)<|3*k/4
def bO7 {t:j1}(h:uP t=true)(ht:lQ t=true){v k:Int}(v0:0<=v/\v<=20000)(k0:4000<=k/\k<=1000000):Hr t v k=some (MI t v k,0)/\500<=MI t v k/\MI t v k<=10000:=by have a:=h;unfold uP at a;simp only[BY]at a;have b:=Ft a.1.1.2 v<|cD0 a.1.1.2 a.2;unfold Hr MI Q;rw[aS0 h ht,NO,NO,A7 v0.1 v0.2,A7 k0.1 k0.2,aZ4 a.1.1.2];simp only[oq,AT,cT8];rw[b6 (n:=3*k) F F,br2 F,b6 F F,H2];grind
def aF0 (t:j1)(s c q r:Int):Int:=min (max (QZ t.D1 s c+(if q<20 then 2*(20-q)else if q>100 then-(8*(q-100))else 0)-r)<|-1280) 3840
theorem bI3 {t:j1}(h:uP t=true)(ht:lQ t=true){s c q r:Int}(s0:0<=s/\s<=12000)(c0:0<=c/\c<=1048576)(d:-40<=q/\q<=150)(r0:0<=r/\r<=1280):Hq t s c q r=some (aF0 t s c q r,0):=by
 have a:=h;unfold uP at a;simp only[BY]at a;have f:=Bl a.1.1.1 s c<|cD1 a.1.1.1 λr g=>cV2.1 a.1.2 r g;have e:Rb t s c=some (QZ t.D1 s c,0):=by simp_all[Rb,Q,aS0,NO,A7,ZW]
 unfold Hq aF0 Q;rw[e];simp only[oq];rw[show((0:Int)!=0)=false from rfl,NO,NO,A7 d.1 d.2,A7 r0.1 r0.2];simp only[cT8,oq,AT];generalize QZ t.D1 s c=z at f;by_cases h1:q<20;rw[cU0 h1,if_pos h1];simp only[cT9];grind [b6,fV,H2,E5];rw[cU1 h1,if_neg h1];simp only[cT8];by_cases b:q>100;rw[cU0 b,if_pos b];simp only[cT9];grind [b6,fV,H2,E5];rw[cU1 b,if_neg b];simp only[cT8];rw[b6 F F,fV,H2,E5,Int.add_zero];rfl
def aj7 (t:j1)(s c q r:Int):-1280<=aF0 t s c q r/\aF0 t s c q r<=3840:=by grind [aF0]
end Go.Pv
namespace Go.Pv.Ar
open Go Go.Pv
theorem Ll {α:Type}(c:Bool)(x y:α):(bif c then some x else some y)=some (bif c then x else y):=by grind
def SJ (r:b7):Prop:=(0<=r.H3/\r.H3<=15)/\(0<=r.u5/\r.u5<=15)/\(-5000<=r.j4/\r.j4<=10000)/\(r.Kind=1\/r.H3<=1/\(r.Kind=2\/r.Kind=3))
instance (r:b7):Decidable<|SJ r:=by unfold SJ;infer_instance
theorem aN (r:b7):pD r=some (decide<|SJ r):=by unfold pD rD Q;simp only[oq,Ll];rw[AI,zc,dg1];unfold SJ;grind
def lQ (t:Int):Bool:=decide (t>=-5000)&&decide (t<=10000)
def bB6 (low high:Int):Bool:=!lQ low||!lQ high||decide (low>high)
def bt1 (l:List b7):Bool:=l.any λr=>!decide (SJ r)
def nz (l:List b7)(low high:Int):Int:=bif bt1 l then 1 else bif decide<|(l.length:Int)>32then 5 else bif bB6 low high then 2 else 0
def cp2 (low high:Int):(tI (some<|lQ low) λa=>tI (bif !a then some true else tI (some<|lQ high) λv3=>some !v3) λb2=>bif b2||decide (low>high)then some (2:Int)else some 0)=some (bif bB6 low high then 2 else 0):=by grind [bB6]
theorem bQ8 (l:List b7)(low high:Int)(b:l.length<=1000):Hw l low high=some (nz l low high):=by unfold Hw nz Q;have k:=W2 l F vI (λr=>!decide (SJ r)) (λy _=>by simp[vI,Q,aN]);have a:Z3 l vI=some (bt1 l):=k;rw[a];simp only[oq];cases bt1 l;simp only[cT8];cases decide<|(l.length:Int)>32;simp only[cT8];exact cp2 low high;rfl;rfl
structure VW (l:List b7)(low high:Int):Prop where
 req:∀r∈l,SJ r
 len:l.length<=32
 lo:-5000<=low
 hi:high<=10000
 ord:low<=high
def bM6 {l:List b7}{low high:Int}:nz l low high=0↔VW l low high:=by
 have a:bt1 l=false↔∀r∈l,SJ r:=by simp[bt1]
 have b:bB6 low high=false↔-5000<=low/\low<=10000/\-5000<=high/\high<=10000/\low<=high:=by unfold bB6 lQ;grind
 unfold nz;constructor;intro h;cases h1:bt1 l<;>rw[h1]at h;cases c:decide<|(l.length:Int)>32<;>rw[c]at h;cases d:bB6 low high<;>rw[d]at h;have e:=b.1 d;have f:¬(l.length:Int)>32:=of_decide_eq_false c;exact⟨a.1 h1,by omega,by omega,by omega,by omega⟩;cases h;cases h;cases h;intro h;rw[a.2 h.req,b.2<|by have:=h.lo;have:=h.hi;have:=h.ord;omega,cU1<|show¬(l.length:Int)>32 by have:=h.len;omega];rfl
def ins (s:l6)(r:b7):Int:=q9 s.low<|ba9 s.high r.j4
def nlo (s:l6)(r:b7):Int:=if r.Kind=1 then s.low else ins s r
def nhi (s:l6)(r:b7):Int:=if r.Kind=2 then s.high else ins s r
def Pf (s:l6)(r:b7):l6:=⟨nlo s r,nhi s r,if nlo s r=s.low then s.source else r.H3⟩
def chg (s:l6)(r:b7):Bool:=!(decide (nlo s r=s.low)&&decide (nhi s r=s.high))
def bx1 {s:l6}{r:b7}(h:s.low<=s.high):s.low<=ins s r/\ins s r<=s.high:=by grind [ins,q9,ba9]
def aq9 {s:l6}{r:b7}(h:s.low<=s.high):s.low<=(Pf s r).low/\(Pf s r).low<=(Pf s r).high/\(Pf s r).high<=s.high:=by have:=bx1 (r:=r) h;grind [Pf,nlo,nhi]
theorem bz2 (s:l6)(r:b7)(h:s.low<=s.high)(hk:r.Kind=1\/r.Kind=2\/r.Kind=3):fS s r=some (chg s r,Pf s r):=by
 have e1:q9 s.low (ba9 s.high r.j4)=ins s r:=rfl;have e2:ba9 s.high (q9 s.low r.j4)=ins s r:=by grind [q9,ba9]
 have a:ba9 (q9 r.j4 s.low) s.high=ins s r:=by grind [q9,ba9]
 unfold fS ua rB rC jN Q;grind [Pf,chg,nlo,nhi]
def lev (l:List b7)(j:Nat):List b7:=l.filter λr=>r.u5==15-(j:Int)
def ax9 (l:List b7)(k:Nat):List b7:=(MY k).flatMap<|lev l
abbrev Zk (l:List b7):List b7:=ax9 l 16
theorem UE (l:List b7)(k:Nat):ax9 l (k+1)=ax9 l k++lev l k:=by unfold ax9;rw[da8,List.flatMap_append,List.flatMap_singleton]
def DR (r:b7):Prop:=0<=r.u5/\r.u5<=15
theorem QJ {x y:b7}(hx:DR x)(a:DR y):EI O9 x y=decide (y.u5<x.u5):=by unfold DR at hx a;unfold EI O9 Q;rw[cx4,b6 F F,decide_eq_decide];omega
def bh3:SW DR O9 where
 ans:=λx y _ _=>⟨_,rfl⟩;asym:=λx y hx a=>by rw[QJ hx a,QJ a hx,dg1,cU3];omega
 ntrans:=λx y z hx a hz=>by grind [QJ]
def ci5 {x y:b7}(hx:DR x)(a:DR y):eqv O9 x y=(y.u5==x.u5):=by unfold eqv;rw[QJ hx a,QJ a hx,zc];grind
theorem aO2 {l:List b7}{k:Nat}{r:b7}:r∈ax9 l k↔r∈l/\∃j,j<k/\r.u5=15-(j:Int):=by unfold ax9 lev;rw[List.mem_flatMap];constructor;grind;simp_all
theorem Ss {l:List b7}(h:Lx DR l){r:b7}:r∈Zk l↔r∈l:=by rw[aO2];constructor;grind;intro a;have:=h r a;unfold DR at this;exact⟨a,(15-r.u5).toNat,by omega,by omega⟩
def aP2 {l:List b7}(h:Lx DR l):∀k,Srt O9<|ax9 l k|0=>.nil|k+1=>by rw[UE];refine Srt.app (aP2 h k) ?_ λa e b f=>?_;unfold lev;rw[Srt,dd5];intro i j hi c _;have m:=de0.1<|al8 hi;have d:=de0.1<|al8 c;simp_all[QJ];obtain⟨g,j,c,hp⟩:=aO2.1 e;have d:=de0.1 f;have p2:=d.2;simp only[beq_iff_eq]at p2;grind [QJ]
theorem VA (l:List b7)(p:Int):∀k,(ax9 l k).filter λr=>r.u5==p=if 15-(k:Int)<p/\p<=15 then l.filter λr=>r.u5==p else[]
 |0=>by rw[if_neg F];rfl|k+1=>by
  rw[UE,List.filter_append,VA l p k];unfold lev;rw[List.filter_filter];by_cases hp:p=15-(k:Int);grind;have:(l.filter λa=>a.u5==p&&a.u5==15-(k:Int))=[]:=by simp_all
  grind
theorem aa1 {l r:List b7}(h:Lx DR l)(b:Srt O9 r)(ht:LX DR O9 l r):r=Zk l:=by refine aT6 bh3 (ht.all h) (λx hx=>h x<|(Ss h).1 hx) b (aP2 h 16) λx hx=>?_;rw[ht.same x hx];have e:∀m:List b7,Lx DR m->m.filter (eqv O9 x)=m.filter λr=>r.u5==x.u5:=λm c=>List.filter_congr λy a=>ci5 hx<|c y a;rw[e l h,e (Zk l) λy a=>h y<|(Ss h).1 a,VA];unfold DR at hx;grind
theorem bR6:I1=T5:=by kernel_rfl
theorem co9 (l:List b7)(c:l.length<=19)(g:b7->b7->Option Int):M3 l g=sX l g:=by
 unfold M3 sX Z5 Dl;have h1:decide ((20:Int)<=(l.length:Int))=false:=by simp;omega
 have a:decide ((20:Int)<(l.length:Int))=false:=by simp;omega
 rw[j3 (b:=.inl (0,20,l))<|by unfold cr;rw[h1];rfl,j3 (b:=.inl (0,20,l))<|by unfold wB;rw[h1];rfl,bR6];simp only[oq];cases hx:T5 l 0 (l.length:Int) g with|none=>rfl|some v=>simp only[oq];rw[j3 (b:=.inl (20,v))<|by unfold ct;rw[a];rfl,j3 (b:=.inl (20,v))<|by unfold wC;rw[a];rfl];simp only[oq]
def dec (s:l6):List b7->List Int|[]=>[]|r::l=>(bif chg s r then[r.H3]else[])++dec (Pf s r) l
def bl3 (s:l6):∀l:List b7,(dec s l).length<=l.length|[]=>cW6 _|r::l=>by have:=bl3 (Pf s r) l;unfold dec;grind
theorem cr8:∀(q:List b7)(i:Int)(a:List Int)(s:l6),s.low<=s.high->(∀r∈q,r.Kind=1\/r.Kind=2\/r.Kind=3)->a.length+q.length<=10000->F0 jM q i (a,s)=some (.inl (a++dec s q,q.foldl Pf s))
 |[],i,a,s,_,_,_=>by simp[F0,dec]|r::q,i,a,s,b,hk,c=>by
  simp only[cU9]at c;have e:=aq9 (r:=r) b;have d:jM i r (a,s)=some (.next (a++bif chg s r then[r.H3]else[],Pf s r)):=by unfold jM;simp only;rw[bz2 s r b<|hk r sq];simp only[oq];cases chg s r;simp;simp only[cT9];grind [l5]
  simp only[F0,d,oq];rw[cr8 q (i+1) _ (Pf s r) F (λx hx=>hk x<|by simp[hx])<|by rw[IT];cases chg s r<;>simp<;>omega];simp only[dec,da1,cW5]
def s0 (low high:Int):l6:=⟨low,high,-1⟩
def fin (l:List b7)(low high:Int):l6:=(Zk l).foldl Pf<|s0 low high
def cP4 (l:List b7)(low high:Int):List Int:=Ix<|(dec (s0 low high)<|Zk l).mergeSort λx y=>decide<|x<=y
theorem VW.dr {l:List b7}{low high:Int}(h:VW l low high):Lx DR l:=λr a=>by have:=h.req r a;grind [SJ,DR]
theorem VW.kinds {l:List b7}{low high:Int}(h:VW l low high):∀r∈l,r.Kind=1\/r.Kind=2\/r.Kind=3:=λr a=>by have:=h.req r a;grind [SJ]
def bU2 {l:List b7}{low high:Int}(h:VW l low high)(a:l.length<=19):(Zk l).length=l.length:=by obtain⟨r,h1,c,b⟩:=OE bh3 l h.dr a;rw[<-aa1 h.dr c b,b.len]
theorem bv5 {l:List b7}{low high:Int}(h:VW l low high)(a:l.length<=19):yz l low high=some (fin l low high,cP4 l low high):=by unfold yz qu Q;have e:=h.len;rw[l5 _ _ gq];simp only[oq,wS];rw[co9 _ a];obtain⟨r,h1,c,d⟩:=OE bh3 l h.dr a;rw[h1,aa1 h.dr c d];simp only[oq];have b:=bU2 h a;rw[B5 _ F,cr8 (Zk l) 0 [] ⟨low,high,-1⟩ h.ord (λx hx=>h.kinds x<|(Ss h.dr).1 hx) gq];simp only[oq,wS];unfold Bo uO;have f:=bl3 (s0 low high)<|Zk l;rw[UL<|show(dec (⟨low,high,-1⟩:l6)<|Zk l).length<4611686018427387904 by grind [s0]];simp only[oq];rw[Vg<|by grind [List.length_mergeSort,s0]];rfl
def Yy:∀(q:List b7)(s:l6),s.low<=s.high->s.low<=(q.foldl Pf s).low/\(q.foldl Pf s).low<=(q.foldl Pf s).high/\(q.foldl Pf s).high<=s.high|[],s,h=>⟨QA _,h,QA _⟩|r::q,s,h=>by have h1:=aq9 (r:=r) h;have a:=Yy q (Pf s r) F;grind
def Ud {l:List b7}{low high:Int}(h:low<=high):low<=(fin l low high).low/\(fin l low high).low<=(fin l low high).high/\(fin l low high).high<=high:=Yy (Zk l) (s0 low high) h
end Go.Pv.Ar
namespace Go.Pv
open Go
theorem aR4 (r:b7):ZJ r=decide (Ar.SJ r):=oa<|(bW0 r).symm.trans<|Ar.aN r
def Qz (g:rz)(l:List b7):rz:=⟨max (min (min (max (Ar.fin l (-5000) 10000).low<|g.j4-1000)<|g.j4+300) (Ar.fin l (-5000) 10000).high)<|-5000,(Ar.fin l (-5000) 10000).source⟩
def granted (g:rz):Prop:=(-5000<=g.j4/\g.j4<=10000)/\-1<=g.H3/\g.H3<=15
def Vl:∀(q:List b7)(s:l6),(∀r∈q,0<=r.H3/\r.H3<=15)->-1<=s.source/\s.source<=15->-1<=(q.foldl Ar.Pf s).source/\(q.foldl Ar.Pf s).source<=15|[],_,_,h=>h|r::q,s,a,h=>by rw[da1];refine Vl q _ (λx hx=>a x<|cV3 _ hx) ?_;grind [Ar.Pf]
def bR1 {l:List b7}(h:Ar.VW l (-5000) 10000)(g:rz):granted<|Qz g l:=by have r:=Ar.Ud (l:=l) (low:=-5000) (high:=10000) F;have s:=Vl (Ar.Zk l) (Ar.s0 (-5000) 10000) (λx hx=>by have:=h.req x<|(Ar.Ss h.dr).1 hx;exact this.1) (by show-1<=(-1:Int)/\(-1:Int)<=15;omega);grind [granted,Qz,Ar.fin]
def bJ4 {g:rz}{l:List b7}(a:granted g)(h:Ar.VW l (-5000) 10000)(b:l.length<=19):sT g l (-5000) 10000 300 1000=some (Qz g l,0):=by have r:=Ar.Ud (l:=l) (low:=-5000) (high:=10000) F;have c:=h.len;unfold granted at a;unfold sT Q;rw[show rD g.j4=some (E6 (-5000) 10000 g.j4)from rfl,A7 a.1.1 a.1.2];simp only[oq];rw[show(!true||decide (g.H3< -1)||decide (g.H3>15))=false by grind,Ar.bQ8 _ _ _ F,Ar.bM6.2 h];simp only[cT8,oq];rw[show((0:Int)!=0)=false from rfl,show(decide ((300:Int)<0)||decide ((300:Int)>20000)||decide ((1000:Int)<0)||decide ((1000:Int)>20000))=false from rfl,Ar.bv5 h b];simp only[cT8,oq];rw[b6 (n:=g.j4-1000) F F,b6 (n:=g.j4+300) F F];simp only[H2,E5];rfl
structure VY (t:j1):Prop where
 air:JA t=true
 bq4:uP t=true
 tor:lQ t=true
 dead:(mU t.X5&&t.X5.Y.all (E6 0 10000))=true
 Ti:sx t.rA=true
 idle:Fz t.T4=true
structure Giv (t:j1)(e:j5)(b:D0)(c:w4)(i:G4):Prop where
 t:ME t=true
 b:fU b=true
 c:FA e c=true
 i:aX7 i (e.ai9.length:Int)=true
def ab5 {t:j1}(h:ME t=true):VY t:=by unfold ME at h;have a:=h;simp only[BY]at a;exact⟨a.1.1.1.1.1,a.1.1.1.1.2,a.1.1.1.2,by grind,a.1.2,a.2⟩
structure aj1 (e:j5)(c:w4):Prop where
 lE:Ev.R5 e
 ped:SB c.B6=true
 mix:Pd c.K7=true
 num:c.I7.length=e.ai9.length
 kno:c.I7.all knB=true
 sum:Gj c.T4
 O2:0<=c.E4/\c.E4<=1073741824
 gra:granted c.bZ
theorem Ku {e:j5}{c:w4}:FA e c=true↔aj1 e c:=by unfold FA;simp only[BY,dg1,nQ];exact⟨λ⟨⟨⟨⟨⟨⟨⟨⟨a,b⟩,d⟩,f⟩,g⟩,h⟩,i⟩,j⟩,k⟩=>⟨a,b,d,f,g,h,i,j,k⟩,λ⟨a,b,d,f,g,h,i,j,k⟩=>⟨⟨⟨⟨⟨⟨⟨⟨a,b⟩,d⟩,f⟩,g⟩,h⟩,i⟩,j⟩,k⟩⟩
structure as0 (i:G4)(n:Nat):Prop where
 num:1<=n/\n<=8
 len:i.A5.length=n
 Ah:i.Requests.length<=30
 La:0<=i.n4/\i.n4<=12000
 pre:50<=i.z6/\i.z6<=3000
 air:-40<=i.B4/\i.B4<=150
 coo:-40<=i.M4/\i.M4<=150
 vol:0<=i.aO/\i.aO<=20000
 lam:0<=i.Lambda/\i.Lambda<=20000
 int:i.A5.all (E6 0 4095)=true
 req:i.Requests.all ZJ=true
def ak2 {i:G4}{n:Nat}:aX7 i (n:Int)=true↔as0 i n:=by unfold aX7;simp only[BY,dg1,nQ];exact⟨λ⟨⟨⟨⟨⟨⟨⟨⟨⟨⟨a,b⟩,c⟩,d⟩,e⟩,f⟩,g⟩,h⟩,i⟩,j⟩,k⟩=>⟨F,by omega,c,d,e,f,g,h,i,j,k⟩,λ⟨a,b,c,d,e,f,g,h,i,j,k⟩=>⟨⟨⟨⟨⟨⟨⟨⟨⟨⟨F,by omega⟩,c⟩,d⟩,e⟩,f⟩,g⟩,h⟩,i⟩,j⟩,k⟩⟩
def YG (s:B1)(g:uQ)(c v:Int):B1×Int×Int:=(sZ s g (EO c) v).getD (⟨0⟩,0,0)
def bm8 {s:B1}{g:uQ}(a:Fz g=true)(b:Gj s){c v:Int}(c0:-40<=c/\c<=150)(v0:0<=v/\v<=12000):sZ s g (EO c) v=some ((YG s g c v).1,(YG s g c v).2.1,0)/\Gj (YG s g c v).1:=by obtain⟨s',u,h1,d⟩:=bR7 a b c0 v0;unfold YG;grind
section
variable (t:j1)(e:j5)(b:D0)(c:w4)(i:G4)
def pdV:ia:=Zp c.B6 i.Aw i.Ax
def wsV:Int:=VT t (pdV c i).Value i.n4
def acV:Bool:=ae9 (pdV c i).Value i.n4 i.M4
def idV:B1:=bif acV c i then(YG c.T4 t.T4 i.M4 i.n4).1 else⟨0⟩
def rqV:List b7:=⟨0,3,wsV t c i,0⟩::((bif acV c i then[⟨1,2,min (max (YG c.T4 t.T4 i.M4 i.n4).2.1<|-5000) 10000,1⟩]else[])++i.Requests)
def grV:rz:=Qz c.bZ<|rqV t c i
def wtV:Int:=max 0 (grV t c i).j4
def thV (w:Int):Int:=let r2:=(vG t i.n4 w).getD (0,0)
 let r3:=(Ef t i.n4 (max 0<|bif r2.2!=0 then 1048576 else r2.1) i.B4).getD (0,0)
 let p:=min 1012<|bif r3.2!=0 then 3000 else r3.1
 let r5:=(Eg b (Pr i.n4 p) p).getD (0,0)
 bif r5.2!=0 then 1000 else r5.1
def Gs:Int:=Tn t i.n4 i.z6 i.B4
def shV (w n:Int):Int×Int×Int:=(oT t i.n4 (Gs t i) w n).getD (0,0,0)
def msV:Int:=min 1048576<|Gs t i*10000/147000*Qt (mxV c.K7 i.Lambda) i.n4 (Gs t i)/1000
def waV:Int×Int×Int:=(EY b c.E4<|msV t c i).getD (0,0,0)
def Rl (f:Int):Int×Int:=bif f==0||(waV t b c i).2.2!=0then(0,c.E4-O5 b c.E4)else((waV t b c i).1,(waV t b c i).2.1)
def tmV (j:Int):Int:=bif decide<|j>0then min (max (HB t.X5 i.aO+aU7 j) 200) 20000 else 0
def tkV:Int:=min (max (60000000/max 1 i.n4) 4000) 1000000
def fiV (n:Nat)(f l tm:Int)(k:Nat):o9:=⟨(k:Int)+1,max (-1280)<|aF0 t i.n4 (Gs t i) i.M4 ((Ww c.I7 i.A5).getD k ⟨0,0,0⟩).U7-l,max 500<|MI t i.aO<|tkV i,5760,bif Jf n f (k:Int)then tm else 0,0,0⟩
end
structure aW8 (t:j1)(e:j5)(b:D0)(c:w4)(i:G4)(f l:Int):Prop where sh:shV t i (wtV t c i) (e.ai9.length:Int)=(f,l,0)ok:aW7 t (DA t i.n4<|Gs t i) (wtV t c i) (e.ai9.length:Int) f l
def PB (t:j1)(b:D0)(c:w4)(i:G4)(f:Int):w4:=⟨pdV c i,idV t c i,Ww c.I7 i.A5,mxV c.K7 i.Lambda,(Rl t b c i f).2,grV t c i⟩
def bd9 (t:j1)(e:j5)(b:D0)(c:w4)(i:G4)(f l:Int):X7:=⟨thV t b i<|wtV t c i,(MY e.ai9.length).map<|fiV t c i e.ai9.length f l<|tmV t i (Rl t b c i f).1,xG t (DA t i.n4<|Gs t i) l f (e.ai9.length:Int)⟩
def cO9 (w:Int)(h:-5000<=w/\w<=10000):Ar.SJ ⟨0,3,w,0⟩:=⟨⟨(by decide:(0:Int)<=0),(by decide:(0:Int)<=15)⟩,⟨(by decide:(0:Int)<=0),(by decide:(0:Int)<=15)⟩,h,.inr ⟨(by decide:(0:Int)<=1),.inr rfl⟩⟩
theorem cP0 (w:Int)(h:-5000<=w/\w<=10000):Ar.SJ ⟨1,2,w,1⟩:=⟨⟨(by decide:(0:Int)<=1),(by decide:(1:Int)<=15)⟩,⟨(by decide:(0:Int)<=1),(by decide:(1:Int)<=15)⟩,h,.inr ⟨(by decide:(1:Int)<=1),.inl rfl⟩⟩
def UG {t:j1}{c:w4}{i:G4}{n:Nat}(hi:as0 i n):Ar.VW (rqV t c i) (-5000) 10000:=by have a:=ac5 t (pdV c i).Value i.n4;have d:=hi.Ah;refine⟨λr h=>?_,?_,by omega,by omega,by omega⟩;unfold rqV at h;rcases cV6.1 h with rfl|h;exact cO9 _ a;rcases bX2.1 h with h|h;cases b:acV c i;grind;rw[b]at h;simp only[cT9,cV6,cC1,or_false]at h;grind [cP0];have:=cV2.1 hi.req r h;simp_all[aR4];grind [rqV]
theorem aK (s:n3)(h:s.fail=0):A4 s 0=some s:=by unfold A4 Q;rw[h];simp only[beq_self_eq_true,cT9];cases s;grind
theorem bC6 {t:j1}{e:j5}{b:D0}{c:w4}{i:G4}{n:Nat}(ht:VY t)(f:aj1 e c)(hi:as0 i n)(g:i.Requests.length<=17):lR ⟨t,e,b,c,i,0,0,0,0,[],0,⟨0,[],0⟩,0⟩=some ⟨t,e,b,⟨pdV c i,idV t c i,c.I7,c.K7,c.E4,grV t c i⟩,i,wtV t c i,0,0,0,[],0,⟨0,[],0⟩,0⟩:=by obtain⟨p1,p2⟩:=QP f.ped i.Aw i.Ax;have p3:=(ap2.1 p2).v;have h:=cq4 ht.Ti (v:=(Zp c.B6 i.Aw i.Ax).Value) p3 hi.La;have j:=bH4 (v:=(Zp c.B6 i.Aw i.Ax).Value) (s:=i.n4) hi.coo;obtain⟨d1,d2⟩:=bm8 ht.idle f.sum hi.coo hi.La;have k:=UG (t:=t) (c:=c) hi;have a:=bJ4 f.gra k (by unfold rqV;rw[cU9,IT];cases acV c i<;>simp<;>omega);have l:=hi.Ah;unfold lR;simp only;rw[p1];simp only[oq];rw[aK _ rfl];simp only[oq];rw[h];simp only[oq];rw[aK _ rfl];simp only[oq];rw[j,(ab8 hi.coo).1];simp only[oq];unfold grV wtV grV;unfold idV rqV acV wsV pdV at*;cases d:ae9 (Zp c.B6 i.Aw i.Ax).Value i.n4 i.M4;rw[d]at a;simp only[cT8,oq,wS]at a|-;rw[l5 _ _<|by simp only[cU9,cX0];omega];simp only[oq,cX8,wS];show tI (tI (sT c.bZ _ _ _ _ _) _) _=_;rw[a];simp only[oq];rw[aK _ rfl];simp only[oq,E5];rw[d]at a;simp only[cT9,oq,cX8,wS]at a|-;show tI (tI (tI (sZ c.T4 t.T4 (EO i.M4) i.n4) _) _) _=_;rw[d1];simp only[oq];rw[aK _ rfl];simp only[oq,fV,H2,E5];rw[l5 _ _<|by simp only[cU9,cX0];omega];simp only[oq];rw[l5 _ _<|by simp only[IT,cU9,cX0];omega];simp only[oq,cX8,wS];show tI (tI (sT c.bZ _ _ _ _ _) _) _=_;rw[a];simp only[oq];rw[aK _ rfl];simp only[oq,E5]
theorem or_eq (x e o:Int):Qk x e o=some (bif e !=0 then o else x):=by grind [Qk,Q]
theorem VL {t:j1}{b:D0}{i:G4}{n:Nat}(ht:VY t)(h:fU b=true)(hi:as0 i n)(e:j5)(c:w4)(w:Int):pM ⟨t,e,b,c,i,w,0,0,0,[],0,⟨0,[],0⟩,0⟩=some ⟨t,e,b,c,i,w,0,0,0,[],0,⟨thV t b i w,[],0⟩,0⟩/\0<=thV t b i w/\thV t b i w<=1000:=by
 obtain⟨c2,e2,j,_,_,_⟩:=YO ht.tor (w:=w) hi.La;unfold pM thV Q;simp only;rw[j];simp only[oq,or_eq,cx4,E5];generalize max 0 (bif e2 !=0 then(1048576:Int)else c2)=x;obtain⟨p,a,k,l⟩:=VC ht.air (w:=x) hi.La hi.air;rw[k];simp only[oq,or_eq,cx4,H2];have hp:50<=min 1012 (bif a !=0 then(3000:Int)else p)/\min 1012 (bif a !=0 then(3000:Int)else p)<=1012:=by
  cases d:a !=0;have h0:a=0:=by simpa using d
  have:=l.fit h0;simp only[cT8];omega;simp only[cT9];omega
 generalize min 1012 (bif a !=0 then(3000:Int)else p)=q at hp;obtain⟨f1,r,u⟩:=bl8 (s:=i.n4) (p:=q) hi.La F;rw[f1];simp only[oq];rw[aK _ rfl];simp only[oq];obtain⟨y,g,m,o⟩:=VP h (f:=Pr i.n4 q) (p:=q) F F;rw[m];simp only[oq,cx4];refine⟨trivial,?_⟩;cases d:g !=0;have h0:g=0:=by simpa using d
 have:=o.fit h0;simp only[cT8];omega;simp
theorem rG {t:j1}(ht:VY t)(i:G4):0<=Gs t i/\Gs t i<=1048576:=(Va ht.air i.n4 i.z6 i.B4).2
def cJ2 {t:j1}{i:G4}{n:Nat}(ht:VY t)(hi:as0 i n){w:Int}(a:0<=w):∃f l,shV t i w (n:Int)=(f,l,0)/\oT t i.n4 (Gs t i) w (n:Int)=some (f,l,0)/\aW7 t (DA t i.n4<|Gs t i) w (n:Int) f l:=by have b:=hi.num;obtain⟨f,l,h1,c⟩:=bY3 ht.tor hi.La (rG ht i) a (n:=(n:Int)) F;grind [shV]
theorem bZ4 {t:j1}{i:G4}{e:j5}(ht:VY t)(hi:as0 i e.ai9.length){w f l:Int}(h:oT t i.n4 (Gs t i) w (e.ai9.length:Int)=some (f,l,0))(k:aW7 t (DA t i.n4<|Gs t i) w (e.ai9.length:Int) f l)(b:D0)(c:w4)(a:Int):nN ⟨t,e,b,c,i,w,0,0,0,[],0,⟨a,[],0⟩,0⟩=some ⟨t,e,b,c,i,w,Gs t i,f,l,(MY e.ai9.length).map λj:Nat=>Jf (e.ai9.length:Int) f (j:Int),0,⟨a,[],xG t (DA t i.n4<|Gs t i) l f (e.ai9.length:Int)⟩,0⟩:=by have d:=hi.num;have k1:=k.f0;have k2:=k.f1;have g:=k.l0;have k4:=k.l1;unfold nN;simp only;rw[Rv ht.air hi.La hi.pre hi.air];simp only[oq];rw[aK _ rfl];simp only[oq];rw[show Tn t i.n4 i.z6 i.B4=Gs t i from rfl,h];simp only[oq];rw[aK _ rfl];simp only[oq];rw[be1 d ⟨k1,k2⟩];simp only[oq];rw[aK _ rfl];simp only[oq];rw[bD7 ht.tor hi.La (rG ht i) ⟨g,k4⟩ ⟨k1,k2⟩ F];rfl
def YZ {t:j1}{c:w4}{i:G4}(ht:VY t):(0<=Gs t i*10000/147000/\Gs t i*10000/147000<=80000)/\(0<=Gs t i*10000/147000*Qt (mxV c.K7 i.Lambda) i.n4 (Gs t i)/\Gs t i*10000/147000*Qt (mxV c.K7 i.Lambda) i.n4 (Gs t i)<=80000*1300)/\0<=msV t c i/\msV t c i<=1048576:=by
 have h1:=rG ht i;have b:=am2 (mxV c.K7 i.Lambda) i.n4<|Gs t i;have a:0<=Gs t i*10000/147000/\Gs t i*10000/147000<=80000:=by omega
 have d:=bL a.1 a.2 (show 0<=Qt (mxV c.K7 i.Lambda) i.n4 (Gs t i)by omega) b.2;grind [msV]
def aA9 {t:j1}{b:D0}{e:j5}{c:w4}{i:G4}(ht:VY t)(a:fU b=true)(d:aj1 e c):EY b c.E4 (msV t c i)=some (waV t b c i)/\aW9 b c.E4 (msV t c i) (waV t b c i).1 (waV t b c i).2.1 (waV t b c i).2.2:=by obtain⟨j,x,e1,h1,f⟩:=bQ7 a d.O2 (YZ (c:=c) (i:=i) ht).2.2;unfold waV;grind
def YH {t:j1}{b:D0}{e:j5}{c:w4}{i:G4}(ht:VY t)(d:fU b=true)(a:aj1 e c)(f:Int):(0<=(Rl t b c i f).1/\(Rl t b c i f).1<=1048576)/\0<=(Rl t b c i f).2/\(Rl t b c i f).2<=1073741824:=by
 obtain⟨_,k⟩:=aA9 (i:=i) ht d a;have g:=nJ d a.O2.1;have h:=a.O2;unfold Rl;cases hz:f==0||(waV t b c i).2.2!=0;rw[Ky]at hz;have h0:(waV t b c i).2.2=0:=by grind
 exact⟨k.inj h0,k.Zv h0⟩;grind
theorem co8 {t:j1}{b:D0}{e:j5}{c:w4}{i:G4}{n:Nat}(ht:VY t)(d:fU b=true)(a:aj1 e c)(hi:as0 i n)(j:ia)(id:B1)(gr:rz)(w f l:Int)(pt:List Bool)(o:X7):qB ⟨t,e,b,⟨j,id,c.I7,c.K7,c.E4,gr⟩,i,w,Gs t i,f,l,pt,0,o,0⟩=some ⟨t,e,b,⟨j,id,c.I7,mxV c.K7 i.Lambda,(Rl t b c i f).2,gr⟩,i,w,Gs t i,f,l,pt,tmV t i (Rl t b c i f).1,o,0⟩:=by
 obtain⟨m,p⟩:=UB a.mix hi.lam hi.La<|rG ht i;have q:=cw8 p hi.La<|rG ht i;obtain⟨A,r,B⟩:=YZ (c:=c) (i:=i) ht;obtain⟨u,C⟩:=aA9 (i:=i) ht d a;have v:=(YH (i:=i) ht d a f).1;have x:ba9 1048576 (H<|bQ2 (H<|Gs t i*10000/147000*Qt (mxV c.K7 i.Lambda) i.n4 (Gs t i)) 1000)=msV t c i:=by unfold msV;rw[b6 (n:=Gs t i*10000/147000*Qt (mxV c.K7 i.Lambda) i.n4 (Gs t i)) F F,br2 r.1,b6 F F,H2]
 unfold qB;simp only;rw[m];simp only[oq];rw[aK _ rfl];simp only[oq];rw[q];simp only[oq];rw[aK _ rfl];simp only[oq];rw[bQ0<|rG ht i];simp only[oq];rw[aK _ rfl];simp only[oq];rw[x,u];simp only[oq];have g:∀s:n3,s.b=b->s.c.E4=c.E4->s.fail=0->(bif f==0||(waV t b c i).2.2!=0then tI (IE b c.E4 0) λk=>tI (A4 s k.2.2) λv4=>some (0,k.2.1,v4)else some ((waV t b c i).1,(waV t b c i).2.1,s))=some ((Rl t b c i f).1,(Rl t b c i f).2,s):=by intro s _ _ y;unfold Rl;cases f==0||(waV t b c i).2.2!=0;rfl;simp only[cT9];rw[bP7 d a.O2];simp only[oq];rw[aK _ y];rfl
 rw[g _ rfl rfl rfl];simp only[oq];unfold tmV;cases z:decide<|(Rl t b c i f).1>0;rfl;have h:=of_decide_eq_true z;simp only[cT9];show tI (IF t (Rl t b c i f).1 i.aO) _=_;rw[bQ4 ht.dead ⟨h,v.2⟩ hi.vol];simp only[oq];rw[aK _ rfl];simp only[oq,fV,H2,E5]
theorem bZ1 {t:j1}{e:j5}{c:w4}{i:G4}(ht:VY t)(g:aj1 e c)(hi:as0 i e.ai9.length)(b:D0)(h:ia)(id:B1)(m:E7)(o:Int)(gr:rz)(w f l tm p a:Int)(I:0<=l/\l<=2560):nM ⟨t,e,b,⟨h,id,c.I7,m,o,gr⟩,i,w,Gs t i,f,l,(MY e.ai9.length).map λj:Nat=>Jf (e.ai9.length:Int) f (j:Int),tm,⟨p,[],a⟩,0⟩=some ⟨t,e,b,⟨h,id,Ww c.I7 i.A5,m,o,gr⟩,i,w,Gs t i,f,l,(MY e.ai9.length).map λj:Nat=>Jf (e.ai9.length:Int) f (j:Int),tm,⟨p,(MY e.ai9.length).map<|fiV t c i e.ai9.length f l tm,a⟩,0⟩:=by
 have A:=hi.num;have J:=hi.La;obtain⟨k1,k2,B⟩:=bS7 g.kno hi.int (by rw[g.num];exact A) (by rw[g.num];exact hi.len);rw[g.num]at B;have q:=cV2.1 k2;have K:0<=60000000/max 1 i.n4/\60000000/max 1 i.n4<=60000000:=⟨cY5 F F,cC0 _ F⟩;have s:4000<=tkV i/\tkV i<=1000000:=by grind [tkV]
 obtain⟨d1,d2,d3⟩:=bO7 ht.bq4 ht.tor hi.vol s;unfold nM;simp only;rw[k1];simp only[oq];rw[aK _ rfl];simp only[oq];rw[E5,ay5 F F F];simp only[oq,fV,H2,E5];rw[show min (max (60000000/max 1 i.n4) 4000) 1000000=tkV i from rfl,d1];simp only[oq];rw[aK _ rfl];simp only[oq];rw[show((0:Int)!=0)=false from rfl];simp only[cT8];generalize L:(MY e.ai9.length).map (λj:Nat=>Jf (e.ai9.length:Int) f (j:Int))=P;have C:P.length=e.ai9.length:=by grind
 have v:∀j,j<e.ai9.length->P[j]?=some (Jf (e.ai9.length:Int) f (j:Int)):=λj x=>by grind
 obtain⟨u,M,y⟩:=sB e.ai9.length F (iN (MI t i.aO<|tkV i,0)) (λk u=>u=⟨t,e,b,⟨h,id,Ww c.I7 i.A5,m,o,gr⟩,i,w,Gs t i,f,l,P,tm,⟨p,(MY k).map<|fiV t c i e.ai9.length f l tm,a⟩,0⟩) ⟨t,e,b,⟨h,id,Ww c.I7 i.A5,m,o,gr⟩,i,w,Gs t i,f,l,P,tm,⟨p,[],a⟩,0⟩ rfl (λj x u y=>by
   subst y;have d:j<(Ww c.I7 i.A5).length:=by omega
   have D:=(bS4.1<|q _<|al8 d).r;have z:=aj7 t i.n4 (Gs t i) i.M4 (Ww c.I7 i.A5)[j].U7;unfold iN;simp only;rw[j2 _ _ d];simp only[oq];rw[bI3 ht.bq4 ht.tor hi.La (rG ht i) hi.coo ⟨D.1,by omega⟩];simp only[oq];rw[aK _ rfl];simp only[oq];rw[B3,v j x];simp only[oq];have E:(bif Jf (e.ai9.length:Int) f (j:Int)then some tm else some 0)=some (bif Jf (e.ai9.length:Int) f (j:Int)then tm else 0):=by cases Jf (e.ai9.length:Int) f (j:Int)<;>rfl
   rw[E];simp only[oq];rw[l5 _ _<|by simp only[cW2,cI4,cU9,cX0];omega];simp only[oq];refine⟨_,rfl,?_⟩;rw[da8,dc9,ew,db6];unfold fiV;rw[b6 (n:=(j:Int)+1) F F,b6 F F,E5,E5,db9,IN d];rfl);grind
def bO0 {t:j1}{e:j5}{b:D0}{c:w4}{i:G4}(h:Giv t e b c i)(a:i.Requests.length<=17):∃f l,aW8 t e b c i f l/\Kg t e b c i=some (PB t b c i f,bd9 t e b c i f l,0):=by have ht:=ab5 h.t;have d:=Ku.1 h.c;have hi:=ak2.1 h.i;obtain⟨f,l,s1,s2,s3⟩:=cJ2 ht hi (w:=wtV t c i) (by unfold wtV;omega);refine⟨f,l,⟨s1,s3⟩,?_⟩;unfold Kg Q;rw[AG,h.t,as5,h.b,bm1,h.c];simp only[oq,AT,cT8];rw[cv1,h.i];simp only[oq,AT,cT8];rw[bC6 ht d hi a];simp only[oq];rw[(VL ht h.b hi e _<|wtV t c i).1];simp only[oq];rw[bZ4 ht hi s2 s3];simp only[oq];rw[co8 ht h.b d hi];simp only[oq];rw[bZ1 ht d hi _ _ _ _ _ _ _ _ _ _ _ _ ⟨s3.l0,s3.l1⟩];simp only[oq];rfl
end Go.Pv
namespace Go.Pv.R1
open Go Go.Pv
theorem ac1 {n:Int}(h0:0<=n)(h1:n<18446744073709551616):IS.wrap n=n:=by unfold de9;simp only[cL0,cZ5];grind
theorem Te {n:Nat}(h0:0<n)(h1:n<18446744073709551616):IS.wrap (-(n:Int))=18446744073709551616-(n:Int):=by unfold de9;simp only[cL0,cZ5];grind
theorem cc0 {n:Nat}(h0:0<n)(h1:n<=9223372036854775808):H (18446744073709551616-(n:Int))=-(n:Int):=by unfold H de9;simp only[cL0,cZ5];grind
theorem size_eq (a:Int)(h0:-4611686018427387904<=a)(h1:a<=4611686018427387904):fF a=some (a.natAbs:Int):=by
 unfold fF Q;by_cases h:a<0;rw[cU0 h];simp only[cT9,AI];obtain⟨n,rfl⟩:∃n:Nat,a=-(n:Int):=⟨a.natAbs,by omega⟩;rw[Te F F];have:(0:Int)-(18446744073709551616-(n:Int))=-((18446744073709551616-n:Nat):Int):=by omega
 rw[this,Te F F];omega;rw[cU1 h];simp only[cT8,AI];grind [ac1]
def Ry (x m k:Nat)(hx:x<18446744073709551616)(a:m=2^k-1)(hk:k<=63):F5 .u64 (x:Int) (m:Int)=((x%2^k:Nat):Int):=by
 have hp:2^k<=2^63:=Nat.pow_le_pow_right dq hk;have hp0:0<2^k:=Nat.pow_pos dq;have e:(BitVec.ofInt 64 (x:Int)&&&BitVec.ofInt 64 (m:Int)).toNat=x%2^k:=by grind [Nat.and_two_pow_sub_one_eq_mod]
 show IS.wrap ((BitVec.ofInt 64 (x:Int)&&&BitVec.ofInt 64 (m:Int)).toNat:Int)=_;rw[e];have:x%2^k<2^k:=cY9 _ hp0;grind [ac1]
theorem SO (x i:Nat)(hi:i<=63):w9 .u64 (x:Int) (i:Int)=((x/2^i:Nat):Int):=by
 unfold w9;have e:min (cy6 (i:Int)) IS.bits=i:=by show min (cy6 (i:Int)) 64=i;omega
 grind
def az9 (x i:Nat)(hi:i<=63)(h:x*2^i<18446744073709551616):AA .u64 (x:Int) (i:Int)=((x*2^i:Nat):Int):=by
 unfold AA;have e:min (cy6 (i:Int)) IS.bits=i:=by show min (cy6 (i:Int)) 64=i;omega
 grind [ac1]
theorem bD3 (x:Nat)(hx:x<9223372036854775808):oB (x:Int) 1=some ⟨0,(x:Int)⟩:=by
 unfold oB Q;have c:w9 .u64 (x:Int) 32=((x/4294967296:Nat):Int):=SO x 32 dq;have d:F5 .u64 (x:Int) 4294967295=((x%4294967296:Nat):Int):=Ry x 4294967295 32 F dq dq;have a3:w9 .u64 1 32=0:=by decide
 have a4:F5 .u64 1 4294967295=1:=by decide
 rw[c,d,a3,a4];generalize k:x/4294967296=h;generalize m:x%4294967296=l;have e:x=4294967296*h+l:=by omega
 have f:l<4294967296:=by omega
 have g:h<2147483648:=by omega
 simp only[Int.mul_zero,Int.mul_one];have b:IS.wrap 0=0:=by decide
 have el:IS.wrap (l:Int)=(l:Int):=ac1 F F;have a:IS.wrap (h:Int)=(h:Int):=ac1 F F;rw[el,a,b];have b1:w9 .u64 (l:Int) 32=0:=by have:=SO l 32 dq;grind
 rw[b1];simp only[Int.add_zero];rw[a];have b2:w9 .u64 (h:Int) 32=0:=by have:=SO h 32 dq;grind
 have i:F5 .u64 (h:Int) 4294967295=(h:Int):=by have:=Ry h 4294967295 32 F dq dq;grind
 have j:F5 .u64 (l:Int) 4294967295=(l:Int):=by have:=Ry l 4294967295 32 F dq dq;grind
 rw[b2,i,j];simp only[Int.zero_add,Int.add_zero];rw[a,b2,b];have n:AA .u64 (h:Int) 32=((h*4294967296:Nat):Int):=az9 h 32 dq F;grind [ac1]
theorem bz7 (x c N i:Nat)(hi:i<=63)(hx:x<9223372036854775808)(e:0<c)(D:c<=4611686018427387904)(E:N=x/2^(i+1)):ey ⟨0,(x:Int)⟩ (c:Int) (((N%c:Nat):Int),((N/c:Nat):Int),(i:Int))=some (.inl (((x/2^i%c:Nat):Int),((x/2^i/c:Nat):Int),(i:Int)-1)):=by
 have d:x/2^i=2*N+x/2^i%2:=by
  have h1:x/2^(i+1)=x/2^i/2:=by rw[Nat.pow_succ,Nat.div_div_eq_div_mul]
  omega
 have g:N<=x/2^i:=by omega
 have h:x/2^i<=x:=de6 _ _;generalize I:x/2^i=M at d g h;have m:N%c<c:=cY9 _ e;have f:=cL5 N c;have o:N/c<=N:=de6 _ _;generalize p:N%c=r at m f;generalize s:N/c=q at o f;have j:M%2<2:=cY9 _ dq;generalize t:M%2=b at j d;unfold ey Q;simp only;have e1:decide ((i:Int)>=0)=true:=by simp
 have e2:IS.wrap (i:Int)=(i:Int):=ac1 F F;have u:co4 .u64 (x:Int) (i:Int)=some ((M:Nat):Int):=by simp_all[co4,SO]
 have v:w9 .u64 (r:Int) 63=0:=by have:=SO r 63 dq;grind
 have w:AA .u64 (r:Int) 1=((r*2:Nat):Int):=az9 r 1 dq F;have y:F5 .u64 (M:Int) 1=((b:Nat):Int):=by have:=Ry M 1 1 F dq dq;grind
 have z:AA .u64 (q:Int) 1=((q*2:Nat):Int):=az9 q 1 dq F;rw[e1,e2,u];simp only[cT9,oq];rw[v,w,y,z];have A:IS.wrap (((r*2:Nat):Int)+(b:Int))=((r*2+b:Nat):Int):=by grind [ac1]
 rw[A,b6 (n:=(i:Int)-1) F F];simp only[show((0:Int)==1)=false from rfl,db8];have B:M=c*(2*q)+(r*2+b):=by grind
 by_cases C:r*2+b>=c;have k:decide (((r*2+b:Nat):Int)>=(c:Int))=true:=by simp;omega
 rw[k];simp only[cT9];have a:M=r*2+b-c+c*(2*q+1):=by rw[Nat.mul_add,Nat.mul_one];omega
 have h1:M%c=r*2+b-c:=by rw[a,Nat.add_mul_mod_self_left,cZ2 F]
 have l:M/c=2*q+1:=by rw[a,Nat.add_mul_div_left _ _ e,df1 F];omega
 rw[h1,l,ac1 (n:=((r*2+b:Nat):Int)-(c:Int)) F F,ac1 (n:=((q*2:Nat):Int)+1) F F];congr 3;omega;congr 1;omega;have k:decide (((r*2+b:Nat):Int)>=(c:Int))=false:=by simp;omega
 rw[k];simp only[cT8];have a:M=r*2+b+c*(2*q):=by omega
 have h1:M%c=r*2+b:=by rw[a,Nat.add_mul_mod_self_left,cZ2 F]
 have l:M/c=2*q:=by rw[a,Nat.add_mul_div_left _ _ e,df1 F];omega
 rw[h1,l];congr 4;omega
def ap0 (x c:Nat)(hx:x<9223372036854775808)(a:0<c)(b:c<=4611686018427387904):∀(k:Nat),k<=64->o3 (ey ⟨0,(x:Int)⟩ (c:Int)) (((x/2^k%c:Nat):Int),((x/2^k/c:Nat):Int),(k:Int)-1)=some (.inl (((x%c:Nat):Int),((x/c:Nat):Int),-1))
 |0,_=>by simp[j3,ey,Q]|k+1,hk=>by
  have e:((k+1:Nat):Int)-1=(k:Int):=by omega
  rw[e,j7<|bz7 x c (x/2^(k+1)) k F hx a b rfl];exact ap0 x c hx a b k F
theorem cm1 (x c:Nat)(hx:x<9223372036854775808)(a:0<c)(b:c<=4611686018427387904):rb ⟨0,(x:Int)⟩ (c:Int)=some (((x/c:Nat):Int),((x%c:Nat):Int),true):=by
 unfold rb Q;have e:decide ((0:Int)>=(c:Int))=false:=by simp;omega
 simp only[e,cT8];have:=ap0 x c hx a b 64 dq;have h0:x/2^64=0:=df1 F;simp_all
theorem pK (a c:Int)(h0:-4611686018427387904<=a)(h1:a<=4611686018427387904)(l:0<c)(o:c<=4611686018427387904):oA a c=some (a/c):=by
 unfold oA IZ uB Q;have p:(c==0)=false:=by simp;omega
 rw[p,size_eq a h0 h1,size_eq c F o,size_eq 1 dq dq];obtain⟨k,rfl⟩:∃k:Nat,c=k:=⟨c.toNat,by omega⟩;obtain⟨m,s⟩:∃m:Nat,a.natAbs=m:=⟨_,rfl⟩;rw[s];have hk:((k:Int).natAbs:Int)=(k:Int):=by omega
 simp only[show((1:Int)!=1&&(1:Int)!=2)=false from rfl,dc2,cT8,oq,hk,show((Int.natAbs 1:Nat):Int)=1 from rfl];rw[bD3 m F];simp only[oq];rw[cm1 m k F F F];simp only[oq,AT,cT8,show((1:Int)==1)=true from rfl,cT9];have t:m/k<=m:=de6 _ _;have e:=cL5 m k;have u:=cY9 m (show k>0 by omega);generalize m/k=q at t e;generalize m%k=r at u e;have h:decide ((k:Int)<0)=false:=by simp
 have i:decide ((1:Int)<0)=false:=rfl;rw[h,i,show((1:Int)!=0)=true from rfl];by_cases v:a<0;have e1:decide (a<0)=true:=by simp[v]
 have e2:(a !=0)=true:=by simp;omega
 rw[e1,e2];simp only[cM0,show(!(!true==false)==false)=true from rfl,dd8,cV0];have d:a=-((k*q+r:Nat):Int):=by omega
 by_cases j:r=0;subst j;simp only[show decide (((0:Nat):Int)>0)=false from rfl,cT8,oq,cT9];have f:decide ((q:Int)>9223372036854775808)=false:=cU1 F;rw[f];simp only[cT8,oq,AI];have g:a/(k:Int)=-(q:Int):=by
  rw[d,cq7];have:-((k*q:Nat):Int)=(k:Int)*-(q:Int):=by rw[Int.mul_neg];push_cast;rfl
  rw[this,Int.mul_ediv_cancel_left _ F]
 rw[g];rcases Nat.eq_zero_or_pos q with b|b;subst b;decide;rw[show(0:Int)-(q:Int)=-(q:Int)by omega,Te b F];exact cc0 b F;have f:decide ((r:Int)>0)=true:=by simp;omega
 rw[f];have g:((q:Int)==18446744073709551615)=false:=beq_eq_false_iff_ne.2 F;simp only[cT9,g,cT8,oq];rw[ac1 (n:=(q:Int)+1) F F];have w:decide ((q:Int)+1>9223372036854775808)=false:=cU1 F;rw[w];simp only[cT8,oq,AI];have x:a/(k:Int)=-(q:Int)-1:=by
  have:a=(k:Int)*(-(q:Int)-1)+((k-r:Nat):Int):=by
   have y:(k:Int)*(-(q:Int)-1)=-((k*q:Nat):Int)-(k:Int):=by rw[Int.mul_sub,Int.mul_neg,Int.mul_one];push_cast;rfl
   rw[y,d];omega
  rw[this,Int.add_comm,da5 _ _ F,cZ1 F F];omega
 rw[x];rw[show(0:Int)-((q:Int)+1)=-((q+1:Nat):Int)by omega,Te F F];rw[cc0 F F];omega;have e1:decide (a<0)=false:=by simp;omega
 rw[e1];simp only[show(!(!false==false)==false)=false from rfl,cY3,cT8,oq,dc2];have f:decide ((q:Int)>=9223372036854775808)=false:=cU1 F;rw[f];simp only[cT8,oq,AI];rw[b6 F F];have:a=((k*q+r:Nat):Int):=by omega
 rw[this];have g:((k*q+r:Nat):Int)=(r:Int)+(k:Int)*(q:Int):=by push_cast;omega
 rw[g,da5 _ _ F,cZ1 F F];omega
end Go.Pv.R1
namespace Go.Pv
open Go
theorem eH (l:List Int)(i:Nat)(h:i<l.length):y3 l (i:Int)=some (nd l i):=by rw[j2 l i h,E0 h]
def ct9 {mb:Int->Option (Int⊕Int⊕Empty)}{xs:List Int}(a:Eb xs){x:Int}(b:∀i:Nat,i+1<xs.length->mb (i:Int)=some (bif decide<|nd xs (i+1)<=x then .inl ((i+1:Nat):Int)else .inr<|.inl (i:Int)))(h0:nd xs 0<=x)(h1:x<nd xs (xs.length-1)):∃i:Nat,jL xs x i/\o3 mb 0=some (.inl (i:Int)):=by
  have g:=a.two;have key:∀k i:Nat,i+k=xs.length-1->nd xs i<=x->∃j:Nat,jL xs x j/\o3 mb (i:Int)=some (.inl (j:Int)):=by intro k;induction k with|zero=>intro i hi hx;have:i=xs.length-1:=F;subst this;omega|succ k c=>intro i hi hx;have e:=b i F;by_cases q:nd xs (i+1)<=x;rw[cU0 q]at e;obtain⟨j,d,f⟩:=c (i+1) F q;exact⟨j,d,by rw[j7 e];exact f⟩;rw[cU1 q]at e;refine⟨i,⟨F,?_,?_,.inr ?_⟩,j3 e⟩;rw[<-E0 (by omega:i<xs.length)];exact hx;rw[<-E0 (by omega:i+1<xs.length)];omega;rw[<-E0 (by omega:i+1<xs.length)];omega
  exact key (xs.length-1) 0 F h0
theorem bf5 {a c:Int}(h0:-4611686018427387904<=a)(h1:a<=4611686018427387904)(d:0<c)(e:c<=4611686018427387904):xd a c=some (a/c):=by
 have f:-4611686018427387904<=a/c:=by rw[cL7 d];omega
 have g:a/c<=4611686018427387904:=by have:=cv2 d h1;have h:(4611686018427387904:Int)/c<=4611686018427387904:=cC0 _ F;omega
 have i:∀n:Int,-4611686018427387905<=n->n<=4611686018427387905->IntKind.i64.wrap n=n:=λn a b=>b6 F F;unfold xd KT SF Q;rw[if_neg F,if_neg F,Int.tdiv_eq_ediv,df7];have j:0<=a%c:=cZ3 _ F;have k:a%c<c:=cM3 _ d;grind
section
variable {xs ys:List Int}
theorem ap6 (d:Eb xs)(t:ys.length=xs.length)(k:∀i,i<xs.length->-1073741824<=nd ys i/\nd ys i<=1073741824)(x:Int){i:Nat}(f:jL xs (lim xs x) i):xc xs ys x=some (Pt (nd xs i) (nd xs<|i+1) (nd ys i) (nd ys<|i+1)<|lim xs x):=by
 have u:=d.two;have v:=d.most;have w:=bc9 d x;have o:=d.nlt (i:=0) (j:=xs.length-1) F F;have p:H ((xs.length:Int)-1)=((xs.length-1:Nat):Int):=by grind [b6]
 unfold xc Q;rw[show(0:Int)=((0:Nat):Int)from rfl,eH xs 0 F,oq];by_cases l:x<=nd xs 0;have e:=II d f (λj=>nd ys j) (c:=0) F F;rw[cU0 l,cT9,eH ys 0 F];rw[e];rfl;rw[cU1 l,cT8,p,eH xs _ F,oq];by_cases m:x>=nd xs (xs.length-1);have e:=II d f (λj=>nd ys j) (c:=xs.length-1) F F;rw[cU0 m,cT9,eH ys _ F];rw[e];rfl;rw[cU1 m,cT8];have el:lim xs x=x:=by omega
 rw[el]at f|-;obtain⟨j,q,r⟩:=ct9 (mb:=je xs x) d (x:=x) λi hi=>by unfold je Q;rw[b6 F F,show(i:Int)+1=((i+1:Nat):Int)by omega,eH xs _ hi,oq];cases decide<|nd xs (i+1)<=x<;>rfl F F;have g:=jL.uniq d q f;subst g;obtain⟨k0,k1,k2,s,k4,y⟩:=f.nd d;have b0:=k j F;have b1:=k (j+1) F;have hp:=ay3 (a:=x-nd xs j) (b:=nd ys (j+1)-nd ys j) F F F F;have h:=wE (lo:=-1073741824) (hi:=1073741824) k1 k2 s b0.1 b0.2 b1.1 b1.2;rw[show o3 (je xs x) ((0:Nat):Int)=some (.inl (j:Int))from r];simp only[oq];rw[b6 (n:=(j:Int)+1) F F,show(j:Int)+1=((j+1:Nat):Int)by omega,eH ys j F,eH xs j F,eH ys (j+1) F,eH xs (j+1) F];simp only[oq];rw[b6 (n:=x-nd xs j) F F,b6 (n:=nd ys (j+1)-nd ys j) F F,b6 (n:=nd xs (j+1)-nd xs j) F F,b6 (n:=(x-nd xs j)*(nd ys (j+1)-nd ys j)) F F,bf5 hp.1 hp.2 F F,oq];unfold Pt at h|-;rw[b6 F F]
end
theorem My {c:R7}(h:mU c=true)(x:Int):Dv c x=some (HB c x):=by
 obtain⟨i,f,e⟩:=AH h x;have p:HB c x=cuV c i (lim c.X x):=by grind [HB]
 rw[p];have g:=uV h;have d:=g.x;have w:=d.two;have y:=d.most;have q:=g.yl;have z:=bc9 d x;have r:=d.nlt (i:=0) (j:=c.X.length-1) F F;have s:H ((c.X.length:Int)-1)=((c.X.length-1:Nat):Int):=by grind [b6]
 unfold Dv cuV Q;rw[show(0:Int)=((0:Nat):Int)from rfl,eH c.X 0 F,oq];by_cases m:x<=nd c.X 0;have e:=II d f (λj=>nd c.Y j) (c:=0) F F;rw[cU0 m,cT9,eH c.Y 0 F];rw[e];rfl;rw[cU1 m,cT8,s,eH c.X _ F,oq];by_cases o:x>=nd c.X (c.X.length-1);have e:=II d f (λj=>nd c.Y j) (c:=c.X.length-1) F F;rw[cU0 o,cT9,eH c.Y _ F];rw[e];rfl;rw[cU1 o,cT8];have el:lim c.X x=x:=by omega
 rw[el]at f|-;obtain⟨j,t,u⟩:=ct9 (mb:=oC c x) d (x:=x) λi hi=>by unfold oC Q;rw[b6 F F,show(i:Int)+1=((i+1:Nat):Int)by omega,eH c.X _ hi,oq];cases decide<|nd c.X (i+1)<=x<;>rfl F F;have k:=jL.uniq d t f;subst k;obtain⟨k0,k1,k2,v,k4,A⟩:=f.nd d;have b0:=g.el j F;have b1:=g.el (j+1) F;have hp:=ay3 (a:=x-nd c.X j) (b:=nd c.Y (j+1)-nd c.Y j) F F F F;have l:=wE (lo:=-1073741824) (hi:=1073741824) k1 k2 v b0.1 b0.2 b1.1 b1.2;rw[show o3 (oC c x) ((0:Nat):Int)=some (.inl (j:Int))from u];simp only[oq];rw[b6 (n:=(j:Int)+1) F F,show(j:Int)+1=((j+1:Nat):Int)by omega,eH c.Y j F,eH c.X j F,eH c.Y (j+1) F,eH c.X (j+1) F];simp only[oq];rw[b6 (n:=x-nd c.X j) F F,b6 (n:=nd c.Y (j+1)-nd c.Y j) F F,b6 (n:=nd c.X (j+1)-nd c.X j) F F,b6 (n:=(x-nd c.X j)*(nd c.Y (j+1)-nd c.Y j)) F F,R1.pK _ _ hp.1 hp.2 F F,oq];unfold Pt at l|-;rw[b6 F F]
theorem QU {α:Type}(f:Nat->α)(k:Nat):(MY k).map f++[f k]=(MY<|k+1).map f:=by rw[da8,dc9];rfl
theorem UC (f:Nat->Int)(n i:Nat)(h:i<n):nd ((MY n).map f) i=f i:=by grind [nd]
theorem bf1 {m:SMap}(h:Xn m)(x:Int){i:Nat}(c:jL m.X (lim m.X x) i):uC m x=some ((MY m.Y.length).map<|along m i<|lim m.X x):=by
 have e:=h.x.most;have f:=h.y.most;unfold uC Q;have key:=cd (mb:=gX m x) (σ:=λk:Nat=>((MY k).map<|along m i<|lim m.X x,(k:Int))) (b0:=.inl ((MY m.Y.length).map<|along m i<|lim m.X x,(m.Y.length:Int))) m.Y.length (by
   simp[gX,Q]) (λj d=>by have a:=cd (mb:=gY m ((MY j).map<|along m i<|lim m.X x,(j:Int))) (σ:=λk:Nat=>((MY k).map λk=>zz m k j,(k:Int))) (b0:=.inl ((MY m.X.length).map λk=>zz m k j,(m.X.length:Int))) m.X.length (by simp[gY,Q]) (λk hk=>by
     have b:k<m.Z.length:=by rw[h.zl];exact hk
     have g:=h.rl k b;unfold gY Q;simp only;rw[cU0 F,cT9,j2 m.Z k b,oq,j2 _ j F,oq,l5 _ _<|by simp;omega,oq,<-Rk b F,QU (λk=>zz m k j) k,b6 F F];rfl);unfold gX Q;simp only;rw[cU0 F,cT9,show(([]:List Int),(0:Int))=((MY 0).map λk=>zz m k j,((0:Nat):Int))from rfl,a];simp only[oq];rw[ap6 h.x sq (λk hk=>by rw[UC _ _ _ hk];exact h.el k j hk d) x c,oq,l5 _ _<|by simp;omega,oq,b6 F F];obtain⟨k0,_⟩:=c.nd h.x;rw[UC _ _ _ (by omega:i<m.X.length),UC _ _ _ k0,show Pt (nd m.X i) (nd m.X<|i+1) (zz m i j) (zz m (i+1) j) (lim m.X x)=along m i (lim m.X x) j from rfl,QU (along m i<|lim m.X x) j];rfl);grind
theorem SM {m:SMap}(h:sx m=true)(x y:Int):Dw m x y=some (QZ m x y):=by
 obtain⟨i,j,hi,b,e⟩:=aE2 h x y;have c:QZ m x y=atV m i j (lim m.X x) (lim m.Y y):=by grind [QZ]
 have a:=DZ h;obtain⟨k0,_⟩:=hi.nd a.x;obtain⟨l0,_⟩:=b.nd a.y;rw[c];unfold Dw FQ Q;rw[yj,h,oq,AT,cT8,bf1 a x hi,oq,ap6 a.y sq (λj b=>by rw[UC _ _ _ b];exact JH a hi (a.el i j F b).1 (a.el i j F b).2 (a.el (i+1) j k0 b).1 (a.el (i+1) j k0 b).2) y b,oq,oq,UC _ _ _ (by omega:j<m.Y.length),UC _ _ _ l0];rfl
theorem bn2 {a b c d x:Int}(h:a<b):Pt a b c d x=(c*(b-x)+d*(x-a))/(b-a):=by
 unfold Pt;have e:c*(b-x)+d*(x-a)=(x-a)*(d-c)+c*(b-a):=by grind
 rw[e,Int.add_mul_ediv_right _ _ F];omega
def bx3 {c d e f z0 g x:Int}(h:c<d)(a:c<=x)(b:x<=d)(h0:e<=z0)(h1:f<=g):Pt c d e f x<=Pt c d z0 g x:=by rw[bn2 h,bn2 h];refine cv2 F ?_;have i:=dc4 h0 (show 0<=d-x by omega);have j:=dc4 h1 (show 0<=x-c by omega);omega
theorem Up {b c d e x z:Int}(h:b<c)(f:d<=e)(a:x<=z):Pt b c d e x<=Pt b c d e z:=by simp_all[Pt,cv2,dc4]
theorem Uo {b c d e x z:Int}(h:b<c)(f:e<=d)(a:x<=z):Pt b c d e z<=Pt b c d e x:=by unfold Pt;have:=cv2 (show 0<c-b by omega)<|Int.mul_le_mul_of_nonpos_right (show x-b<=z-b by omega) (show e-d<=0 by omega);omega
def bX9 {l:List Int}(a:Eb l){f:Nat->Int}(b:∀i j,i<=j->j<l.length->f i<=f j){v w:Int}(d:v<=w){i j:Nat}(hi:jL l v i)(c:jL l w j):Pt (nd l i) (nd l<|i+1) (f i) (f<|i+1) v<=Pt (nd l j) (nd l<|j+1) (f j) (f<|j+1) w:=by
 obtain⟨a0,m,g,a3,_,_⟩:=hi.nd a;obtain⟨b0,b1,b2,k,_,_⟩:=c.nd a;rcases Nat.lt_trichotomy i j with h|h|h;have e1:=Up a3 (b i (i+1) F a0) g;rw[Uq a3]at e1;have e2:=Up k (b j (j+1) F b0) b1;grind [YK];simp_all[Up];have:=a.nle (i:=j+1) (j:=i) F F;have e:v=w:=by omega
 subst e;have:=hi.uniq a c;omega
def bX8 {l:List Int}(a:Eb l){f:Nat->Int}(b:∀i j,i<=j->j<l.length->f j<=f i){v w:Int}(d:v<=w){i j:Nat}(hi:jL l v i)(c:jL l w j):Pt (nd l j) (nd l<|j+1) (f j) (f<|j+1) w<=Pt (nd l i) (nd l<|i+1) (f i) (f<|i+1) v:=by
 obtain⟨a0,m,g,a3,_,_⟩:=hi.nd a;obtain⟨b0,b1,b2,k,_,_⟩:=c.nd a;rcases Nat.lt_trichotomy i j with h|h|h;have e1:=Uo a3 (b i (i+1) F a0) g;rw[Uq a3]at e1;have e2:=Uo k (b j (j+1) F b0) b1;grind [YK];simp_all[Uo];have:=a.nle (i:=j+1) (j:=i) F F;have e:v=w:=by omega
 subst e;have:=hi.uniq a c;omega
def aN4 (l:List Int){x y:Int}(h:x<=y):lim l x<=lim l y:=by grind [lim]
def aT8 {f:Nat->Int}{n:Nat}(h:∀i,i+1<n->f i<=f (i+1)):∀i j,i<=j->j<n->f i<=f j:=by intro i j;induction j with|zero=>grind|succ j a=>grind
def bZ6 {f:Nat->Int}{n:Nat}(h:∀i,i+1<n->f (i+1)<=f i):∀i j,i<=j->j<n->f j<=f i:=by intro i j hi a;have:=aT8 (f:=λi=>-f i) (n:=n) λi hi=>by grind i j hi a;omega
def aS9 {m:SMap}(h:sx m=true)(hz:∀i j,i<m.X.length->j+1<m.Y.length->zz m i j<=zz m i (j+1))(x:Int){y w:Int}(g:y<=w):QZ m x y<=QZ m x w:=by
 obtain⟨i,j,hi,d,e⟩:=aE2 h x y;obtain⟨c,k,l,hk,e'⟩:=aE2 h x w;have n:=DZ h;have o:=l.uniq n.x hi;subst o;obtain⟨k0,k1,k2,p,_,_⟩:=hi.nd n.x;have a:QZ m x y=atV m c j (lim m.X x) (lim m.Y y):=by grind [QZ]
 have b:QZ m x w=atV m c k (lim m.X x) (lim m.Y w):=by grind [QZ]
 rw[a,b];exact bX9 n.y (f:=along m c<|lim m.X x) (aT8 λj d=>bx3 p k1 k2 (hz c j F d)<|hz (c+1) j k0 d) (aN4 _ g) d hk
def bL8 {c:R7}(h:mU c=true)(g:∀j,j+1<c.X.length->nd c.Y (j+1)<=nd c.Y j){x y:Int}(d:x<=y):HB c y<=HB c x:=by
 obtain⟨i,hi,e⟩:=AH h x;obtain⟨j,k,e'⟩:=AH h y;have a:HB c x=cuV c i (lim c.X x):=by grind [HB]
 have b:HB c y=cuV c j (lim c.X y):=by grind [HB]
 rw[a,b];exact bX8 (uV h).x (f:=nd c.Y) (bZ6 g) (aN4 _ d) hi k
def aP1 {t:j1}(h:lQ t=true)(s:Int){a b:Int}(c:a<=b):QZ t.j4 s a<=QZ t.j4 s b:=aS9 (Jq h) (ar3 h).za s c
def bO8 {t:j1}(h:lQ t=true){a b:Int}(c:a<=b):HB t.p8 b<=HB t.p8 a:=bL8 (Tc h) (ar3 h).ed c
def cv0 {t:j1}(h:JA t=true):∀i j,i<t.Ai.X.length->j+1<t.Ai.Y.length->zz t.Ai i j<=zz t.Ai i (j+1):=by
 intro i j hi d;have c:=DZ (bj1 h).m;unfold JA at h;simp only[BY,cV2]at h;have a:i<t.Ai.Z.length:=by rw[c.zl];exact hi
 have b:=h.1.2 _<|al8 a;unfold JB at b;rw[BY]at b;have e:=c.rl i a;have:=as1 b.2 (j+1) j F F;grind [E0,Rk]
def ch2 {t:j1}(h:JA t=true)(s q:Int){a b:Int}(d:a<=b):Tn t s a q<=Tn t s b q:=by unfold Tn;have k:=bj1 h;have m:=aS9 k.m (cv0 h) s d;have c:=(Ft k.c q k.y).1;have:=cv2 (show(0:Int)<1000 by omega)<|dc4 m (show 0<=HB t.B4 q by omega);omega
def cb2 {t:j1}(h:lQ t=true){o f n:Int}(d:0<=o)(f0:0<=f)(n0:1<=n){a b:Int}(c:a<=b):xG t o b f n<=xG t o a f n:=by unfold xG;refine cv2 F<|dc4 (cX2 (bO8 h c) d) f0
structure Bis (p:Int->Prop)(lo hi j:Int):Prop where
 a:lo<=j
 b:j<=hi
 h1:j<hi->p j
 h0:lo<j->¬p (j-1)
theorem Bis.uniq {p:Int->Prop}{lo hi j k:Int}(mono:∀x y,lo<=x->x<=y->y<hi->p x->p y)(x:Bis p lo hi j)(y:Bis p lo hi k):j=k:=by obtain⟨a,b1,c1,d1⟩:=x;obtain⟨b,b2,c2,d2⟩:=y;grind
def Md {R:Type}{mb:Int×Int->Option (Int×Int⊕Int×Int⊕R)}{p:Int->Prop}{lo hi:Int}(k:∀a b,lo<=a->a<b->b<=hi->∃m,a<=m/\m<b/\(p m/\mb (a,b)=some (.inl (a,m))\/¬p m/\mb (a,b)=some (.inl (m+1,b))))(g:∀a,lo<=a->a<=hi->mb (a,a)=some (.inr<|.inl (a,a)))(h:lo<=hi):∃j,o3 mb (lo,hi)=some (.inl (j,j))/\Bis p lo hi j:=by
 have key:∀(n:Nat)(a b:Int),b-a<=n->lo<=a->a<=b->b<=hi->(b<hi->p b)->(lo<a->¬p (a-1))->∃j,o3 mb (a,b)=some (.inl (j,j))/\Bis p lo hi j:=by
  intro n;induction n with|zero=>
   intro a b l h1 o c d e;have:a=b:=by omega
   subst this;exact⟨a,j3<|g a h1 c,⟨h1,c,d,e⟩⟩|succ n i=>intro a b l h1 o c d e;by_cases q:a=b;subst q;exact⟨a,j3<|g a h1 c,⟨h1,c,d,e⟩⟩;obtain⟨m,r,s,f⟩:=k a b h1 F c;rcases f with⟨e1,e2⟩|⟨e1,e2⟩;rw[j7 e2];exact i a m F h1 r F (λ_=>e1) e;rw[j7 e2];exact i (m+1) b F F F c d λ_=>by rw[show m+1-1=m by omega];exact e1
 exact key (hi-lo).toNat lo hi F (QA _) h (QA _) λh=>by omega λh=>by omega
theorem by6 (a b:Int):min a b=min b a:=by omega
def YF {a b:Int}(c:-4611686018427387904<=a)(d:b<=4611686018427387903)(h:a<b)(h0:0<=a):H (bQ2 (H<|a+b) 2)=(a+b)/2/\a<=(a+b)/2/\(a+b)/2<b:=by rw[b6 (n:=a+b) F F,br2 F,b6 F F];omega
theorem Zz {t:j1}(h:JA t=true)(s p q:Int):uG t s p q=some (Tn t s p q):=by have k:=bj1 h;have a:=Bl k.m s p k.z;have c:=Ft k.c q k.y;have hp:=bL a.1 a.2 (show 0<=HB t.B4 q by omega) c.2;unfold uG Tn Q;rw[SM k.m,oq,My k.c,oq,b6 F F,R1.pK _ _ F F F F,oq,H2,by6]
def Zu {t:j1}(h:JA t=true){s p q:Int}(s0:0<=s/\s<=12000)(p0:50<=p/\p<=3000)(a:-40<=q/\q<=150):uF t s p q=some (Tn t s p q,0):=by simp_all[uF,Q,Gc,eC,A7,Zz]
def bC0 {t:j1}(h:JA t=true){s w q p e:Int}(s0:0<=s/\s<=12000)(l:-40<=q/\q<=150)(k:cE7 t s w q p e):∃n e',qd t s w q=some (n,e')/\(e'=0↔e=0)/\(e=0->n=p):=by
 unfold qd Q;rw[Gc,h,eC,eC,eC,A7 s0.1 s0.2,A7 l.1 l.2];simp only[oq,AT,cT8];by_cases c:0<=w/\w<=1048576;rw[A7 c.1 c.2];simp only[oq,AT,cT8];have u:e≠2:=λi=>(k.Zv.1 i) c;obtain⟨j,v,o⟩:=Md (mb:=dR t s w q) (p:=λm=>w<=Tn t s m q) (lo:=50) (hi:=3001) (λa b h1 d C=>by obtain⟨e1,e2,z⟩:=YF (a:=a) (b:=b) F F d F;refine⟨(a+b)/2,e2,z,?_⟩;unfold dR Q;simp only;rw[cU0 d,cT9,e1,Zz h,oq];by_cases q:w<=Tn t s ((a+b)/2) q;grind;exact .inr ⟨q,by rw[cU1 q,cT8,b6 F F]⟩) λa h1 d=>by simp[dR,Q] F;rw[v];simp only[oq];have mono:∀x y,(50:Int)<=x->x<=y->y<3001->w<=Tn t s x q->w<=Tn t s y q:=λx y _ d _ A=>cZ7 A<|ch2 h s q d;rcases k.out with h0|h0|h0;have f:=k.fit h0;have r:=Bis.uniq mono o ⟨f.1,by omega,λ_=>f.2.2,λg=>by have:=k.low h0 g;omega⟩;grind;omega;have f:=k.vJ h0;have r:=Bis.uniq mono o ⟨show(50:Int)<=3001 by omega,QA _,λg=>by omega,λ_=>by show¬w<=Tn t s (3001-1) q;rw[show(3001:Int)-1=3000 from rfl];omega⟩;subst r;exact⟨0,7,rfl,by omega,λi=>by omega⟩;have i:e=2:=k.Zv.2 c;have:E6 0 1048576 w=false:=by cases B:E6 0 1048576 w;rfl;exact absurd (nQ.1 B) c
 rw[this];exact⟨0,2,rfl,by omega,λh0=>by omega⟩
theorem bW2 {s:Int}(s0:0<=s/\s<=12000):sk s=some (aS5 s):=by unfold sk Q;obtain⟨j,d,e⟩:=Md (mb:=fG s) (p:=λm=>s<=m*60000000/1509949440) (lo:=0) (hi:=1048576) (λa b h1 c f=>by refine⟨(a+b)/2,by omega,by omega,?_⟩;unfold fG Ja Q;simp only;rw[cU0 c,cT9,b6 F F,R1.pK _ _ F F F F,oq,b6 F F,R1.pK _ _ F F F F];simp only[oq];by_cases q:s<=(a+b)/2*60000000/1509949440;grind;exact .inr ⟨q,by rw[cU1 q,cT8,b6 F F]⟩) λa h1 c=>by simp[fG,Q] F;rw[d];simp only[oq,AI];refine Bis.uniq (p:=λm=>s<=m*60000000/1509949440) (lo:=0) (hi:=1048576) λx y _ c _ g=>by omega e ?_;unfold aS5;exact⟨F,by omega,λ_=>by omega,λ_=>by omega⟩
theorem bW1 {s p:Int}(s0:0<=s/\s<=12000)(p0:50<=p/\p<=3000):zB s p=some (Pr s p,0):=by have r:=ZP s0;have hp:=bL r.1 r.2 (show 0<=p by omega) p0.2;unfold zB Pr Q;rw[eC,eC,A7 s0.1 s0.2,A7 p0.1 p0.2];simp only[oq,AT,cT8];grind [bW2,b6,R1.pK]
theorem bV5 (b:D0):zA b=some (fU b):=by unfold zA fU Q;simp only[eC,oq];grind
def az6 {b:D0}(h:fU b=true){f p n e:Int}(f0:0<=f/\f<=1099511627776)(p0:50<=p/\p<=1013)(k:cE9 b f p n e):∃g e',qg b f p=some (g,e')/\(e'=0↔e=0)/\(e=0->g=n):=by
 have kb:=(yA h).t;unfold qg Q;rw[bV5,h,eC,eC,A7 f0.1 f0.2,A7 p0.1 p0.2];simp only[oq,AT,cT8];have v:∀x:Int,0<=x->x<=1000->K8 b f p x=some (bif decide<|f<=b.B2*x*(1013-p)/1000then .inr<|.inr (x,0)else .inl<|x+1):=λx c i=>by have h1:=bL kb.1 kb.2 c i;have j:=bL h1.1 h1.2 (show 0<=1013-p by omega) (show 1013-p<=1013 by omega);unfold K8 Q;rw[cU0 i,cT9,b6 (n:=b.B2*x) F F,b6 (n:=1013-p) F F,b6 F F,R1.pK _ _ F F F F,oq,b6 (n:=x+1) F F];by_cases q:f<=b.B2*x*(1013-p)/1000;rw[cU0 q];simp only[ge_iff_le,cU0 q,cT9];rw[cU1 q];simp only[ge_iff_le,cU1 q,cT8]
 have mono:∀x y:Int,x<=y->b.B2*x*(1013-p)/1000<=b.B2*y*(1013-p)/1000:=λx y d=>cv2 F<|dc4 (cX2 d kb.1) F;have run:∀(m:Nat)(x:Int),0<=x->(∀y,x<=y->y<x+m->¬f<=b.B2*y*(1013-p)/1000)->x+m<=1001->o3 (K8 b f p) x=o3 (K8 b f p) (x+m):=by intro m;induction m with|zero=>intro x _ _ _;rw[show x+((0:Nat):Int)=x by omega]|succ m l=>intro x c hx w;have e:=v x c F;rw[cU1<|hx x (QA _) F]at e;rw[j7 e,l (x+1) F (λy h1 j=>hx y F F) F,show x+1+(m:Int)=x+((m+1:Nat):Int)by omega]
 rcases k.out with h0|h0;obtain⟨n0,n1,o⟩:=k.fit h0;have a:=run n.toNat 0 (QA _) λy r s u=>by have:=k.low h0 F;have:=mono y (n-1) F;omega F;have e:=v n n0 n1;rw[cU0 o]at e;rw[show(0:Int)+(n.toNat:Int)=n by omega,j3 e]at a;rw[a];exact⟨n,0,rfl,by omega,λ_=>rfl⟩;have z:=k.vJ h0;have a:=run 1001 0 (QA _) λy r s u=>by have:=mono y 1000 F;omega F;have e:K8 b f p (0+((1001:Nat):Int))=some (.inr<|.inl 1001):=by unfold K8 Q;rfl
 rw[j3 e]at a;rw[a];exact⟨0,7,rfl,by omega,λh=>by omega⟩
theorem az5 {t:j1}(h:lQ t=true)(s c:Int):ss t s c=some (DA t s c):=by grind [ss,DA,Q,SM,Jq]
def Zj {t:j1}(h:lQ t=true)(s c:Int):0<=DA t s c/\DA t s c<=10000:=Bl (Jq h) s c (ar3 h).z
theorem Xd {t:j1}(h:lQ t=true)(s c l:Int){f n:Int}(f0:0<=f/\f<=n)(n0:1<=n/\n<=8):uL t s c l f n=some (xG t (DA t s c) l f n):=by have o:=Zj h s c;have e:=am0 h l;have h1:=bL o.1 o.2 e.1 e.2;have a:=bL h1.1 h1.2 f0.1 (show f<=8 by omega);unfold uL ye Q;rw[az5 h,oq,My<|Tc h];simp only[oq];rw[b6 (n:=DA t s c*HB t.p8 l) F F,b6 (n:=DA t s c*HB t.p8 l*f) F F,b6 (n:=1000*n) F F,ay5 a.1 F F];rfl
def bB5 {t:j1}(h:lQ t=true){s w c e:Int}(o:vG t s w=some (c,e))(s0:0<=s/\s<=12000):∃r b,xq t s w=some (r,b)/\(b=true↔e=0)/\(e=0->r=c):=by
 obtain⟨c1,e1,A,h1,d,B⟩:=YO h (w:=w) s0;rw[A]at o;cases o;have k:=Jq h;have f:=(DZ k).y;have M:=f.two;have N:=f.most;have C:=f.el 0 F;have g:=f.el (t.j4.Y.length-1) F;have le:=f.le (t.j4.Y.length-1) 0 F F;rw[<-E0 (by omega:0<t.j4.Y.length)]at C le;rw[<-E0 (by omega:t.j4.Y.length-1<t.j4.Y.length)]at g le;have D:H ((t.j4.Y.length:Int)-1)=((t.j4.Y.length-1:Nat):Int):=by grind [b6]
 unfold xq Q;rw[show(0:Int)=((0:Nat):Int)from rfl,eH _ 0 F,oq,D,eH _ _ F,oq,az5 h,oq];unfold DA;generalize nd t.j4.Y 0=a at*;generalize nd t.j4.Y (t.j4.Y.length-1)=b at*;by_cases u:QZ t.j4 s b<w;·rw[cU0 u];refine⟨_,false,rfl,⟨λh=>(by cases h),λh0=>?_⟩,λh0=>?_⟩;all_goals obtain⟨v,i,z,_⟩:=d h0;have:=aP1 h s i;omega
 ·rw[cU1 u];have h0:e=0:=by omega
  obtain⟨v,i,z,E⟩:=d h0;obtain⟨j,O,I⟩:=Md (mb:=jj t s w) (p:=λm=>w<=QZ t.j4 s m) (lo:=a) (hi:=b) (λx y h1 d B=>by
   have J:H (x+H (bQ2 (H<|y-x) 2))=x+(y-x)/2:=by rw[b6 (n:=y-x) F F,br2 F,b6 (n:=(y-x)/2) F F,b6 F F]
   refine⟨x+(y-x)/2,by omega,by omega,?_⟩;unfold jj Q;simp only;rw[cU0 d,cT9,J,az5 h,oq];unfold DA;by_cases q:w<=QZ t.j4 s (x+(y-x)/2);·exact .inl ⟨q,by rw[cU0 q];rfl⟩
   ·exact .inr ⟨q,by rw[cU1 q,cT8,b6 F F]⟩) λx h1 d=>by unfold jj Q;simp only;rw[cU1 F];rfl F;have K:=Bis.uniq (p:=λm=>w<=QZ t.j4 s m) (lo:=a) (hi:=b) (λx y _ d _ L=>cZ7 L<|aP1 h s d) I ⟨v,i,λ_=>z,λl=>by have:=E l;omega⟩;simp_all
def bD6 {t:j1}(h:lQ t=true){o l n:Int}(d:0<=o)(n0:1<=n){a b:Int}(c:a<=b):xG t o l a n<=xG t o l b n:=by unfold xG;exact cv2 F<|cX2 c<|cM7 d (am0 h l).1
def bC2 {t:j1}(h:lQ t=true){s c w n f l:Int}(w0:0<=w)(n0:1<=n/\n<=8)(k:aW7 t (DA t s c) w n f l):xr t s c w n=some (f,l):=by
 have o:=Zj h s c;unfold xr Q;have e:∀m:Nat,f+m<=n->o3 (L8 t s c w n) (f+m)=o3 (L8 t s c w n) f:=by intro m;induction m with|zero=>simp|succ m D=>
   intro E;have f0:=k.f0;have u:L8 t s c w n (f+((m+1:Nat):Int))=some (.inl<|f+(m:Int)):=by unfold L8 Q;have I:=k.more F;have J:=bD6 h (l:=2560) o.1 n0.1 (show f+1<=f+((m+1:Nat):Int)by omega);rw[cU0 F,cT9,Xd h s c 2560 (f:=f+((m+1:Nat):Int)) F n0,oq,cU0 F,cT9,b6 F F];grind
   grind [j7]
 have v:=e (n-f).toNat (by have:=k.f1;omega);rw[show f+((n-f).toNat:Int)=n by have:=k.f1;omega]at v;rw[v];by_cases z:f=0;have i:l=0:=by by_cases q:0<l;have:=k.less q;grind [aU6];have:=k.l0;omega
 rw[z,i];rw[show o3 (L8 t s c w n) 0=some (.inl 0)from j3<|by rfl];rfl;have f0:=k.f0;have f1:=k.f1;have fit:=k.fit.resolve_left z;obtain⟨j,i,A⟩:=Md (mb:=jk t s c w n f) (p:=λm=>xG t (DA t s c) m f n<=w) (lo:=0) (hi:=2560) (λx y h1 g K=>by obtain⟨e1,e2,B⟩:=YF (a:=x) (b:=y) F F g F;refine⟨(x+y)/2,e2,B,?_⟩;unfold jk Q;simp only;rw[cU0 g,cT9,e1,Xd h s c _ ⟨f0,f1⟩ n0,oq];by_cases q:xG t (DA t s c) ((x+y)/2) f n<=w;grind;exact .inr ⟨q,by rw[cU1 q,cT8,b6 F F]⟩) λx h1 g=>by simp[jk,Q] F;have r:=Bis.uniq (p:=λm=>xG t (DA t s c) m f n<=w) (lo:=0) (hi:=2560) (λx y _ g _ C=>cZ7 (cb2 h o.1 f0 n0.1 g) C) A ⟨k.l0,k.l1,λd=>k.late d,λd=>by have:=k.less d;omega⟩;subst r;have u:L8 t s c w n f=some (.inr<|.inr (f,j)):=by unfold L8 Q;rw[cU0 F,cT9,Xd h s c 2560 ⟨f0,f1⟩ n0,oq,cU1 F,cT8,i];rfl
 rw[j3 u];rfl
theorem bB1 {n:Nat}{f:Int}(n0:1<=n/\n<=8)(f0:0<=f/\f<=n){i:Nat}(hi:i<n):xp (n:Int) f 0 (i:Int)=some (Jf n f (i:Int)):=by
 have h1:=bL (a:=(i:Int)+1) (b:=f) (A:=8) (B:=8) F F f0.1 F;have c:=bL (a:=(i:Int)) (b:=f) (A:=8) (B:=8) F F f0.1 F;unfold xp Jf SF Q;rw[b6 (n:=(i:Int)+0) F F,if_neg F,oq];have e:((i:Int)+0).tmod (n:Int)=(i:Int):=by simp_all[Int.tmod_eq_of_lt]
 rw[e,b6 (n:=(i:Int)+1) F F,b6 (n:=((i:Int)+1)*f) F F,b6 (n:=(i:Int)*f) F F,ay5 h1.1 F F,ay5 c.1 F F];rfl
end Go.Pv
namespace Go.Pv.Ar
open Go Go.Pv
theorem bf9 (s:l6)(r:b7)(hk:r.Kind=1\/r.Kind=2\/r.Kind=3):mP ⟨s.low,s.high⟩ r=some ⟨nlo s r,nhi s r⟩:=by grind [mP,nlo,nhi,ins,Q]
def mrk (p:Int):l6->List b7->List Bool->List Bool|s,r::l,b::d=>bif r.u5==p then chg s r::mrk p (Pf s r) l d else b::mrk p s l d|_,_,_=>[]
theorem ax6 (p:Int):∀(l:List b7)(d:List Bool)(s:l6),d.length=l.length->(mrk p s l d).length=l.length|[],[],_,_=>rfl|[],b::d,_,h=>by rfl|r::l,[],_,h=>by simp at h|r::l,b::d,s,h=>by simp only[cU9,Nat.add_right_cancel_iff]at h;unfold mrk;cases r.u5==p;all_goals simp_all[ax6]
def rng (s:l6):dV:=⟨s.low,s.high⟩
theorem MX (l:List b7)(p:Int)(st:Int×Int×dV×List Bool)(e:st.2.1=p)(m:l.length<=1000)(hk:∀r∈l,r.Kind=1\/r.Kind=2\/r.Kind=3):∀(rest:List b7)(i:Nat)(s:l6)(A d:List Bool),l.drop i=rest->i+rest.length=l.length->A.length=i->d.length=rest.length->o3 (G0 l st) (s.source,(i:Int),rng s,A++d)=some (.inl (((rest.filter λr=>r.u5==p).foldl Pf s).source,(l.length:Int),rng<|(rest.filter λr=>r.u5==p).foldl Pf s,A++mrk p s rest d))
 |[],i,s,A,d,g,hi,h,a=>by
  have:d=[]:=List.length_eq_zero_iff.1 a;subst this;simp only[cX0,cq7]at hi;have f:G0 l st (s.source,(i:Int),rng s,A++[])=some (.inr<|.inl (s.source,(i:Int),rng s,A++[])):=by grind [G0]
  rw[j3 f,hi];rfl|y::rest,i,s,A,[],g,hi,h,a=>by grind|y::rest,i,s,A,b::d,g,hi,h,a=>by
  simp only[cU9,Nat.add_right_cancel_iff]at a;simp only[cU9]at hi;have j:l[i]?=some y:=by rw[<-cX6,g];rfl
  have k:=hk y<|bX3 j;have c:l.drop (i+1)=rest:=by rw[<-bT3,g];rfl
  rw[List.filter_cons];cases hp:y.u5==p;have f:G0 l st (s.source,(i:Int),rng s,A++b::d)=some (.inl (s.source,((i+1:Nat):Int),rng s,A++[b]++d)):=by unfold G0;simp only;rw[show decide ((i:Int)<(l.length:Int))=true from cU0 F,B3,j,e,b6 (n:=(i:Int)+1) F F];grind
  rw[j7 f,MX l p st e m hk rest (i+1) s (A++[b]) d c F (by simp[h]) a];simp[mrk,hp];have f:G0 l st (s.source,(i:Int),rng s,A++b::d)=some (.inl ((Pf s y).source,((i+1:Nat):Int),rng<|Pf s y,A++[chg s y]++d)):=by
   unfold G0;simp only;rw[show decide ((i:Int)<(l.length:Int))=true from cU0 F,B3 l,j,e,b6 (n:=(i:Int)+1) F F];simp only[cT9,oq];have:(y.u5 !=p)=false:=by unfold bne;rw[hp];rfl
   rw[this];simp only[cT8];rw[show rng s=⟨s.low,s.high⟩from rfl,bf9 s y k];simp only[oq];have o:(bif nlo s y !=s.low then some y.H3 else some s.source)=some (Pf s y).source:=by unfold Pf;by_cases h1:nlo s y=s.low;rw[show(nlo s y !=s.low)=false by simpa using h1,if_pos h1];rfl;rw[show(nlo s y !=s.low)=true by simpa using h1,if_neg h1];rfl
   rw[o];simp only[oq];rw[MV A b d F];simp only[oq];rw[ZY A b _ d F];simp only[oq];have q:(!(nlo s y==s.low&&(nhi s y==s.high&&true)))=chg s y:=by unfold chg;rw[dd8];rfl
   grind [rng,Pf]
  rw[j7 f,MX l p st e m hk rest (i+1) (Pf s y) (A++[chg s y]) d c F (by simp[h]) a];simp[mrk,hp]
def aM8 {l:List b7}{low high:Int}(h:VW l low high):∃d:List Bool,jl l low high=some (rng<|fin l low high,(fin l low high).source,d):=by unfold jl;have g:=h.len;rw[yf _ F];simp only[oq];obtain⟨b,h1,d,i⟩:=Ba (mb:=Y5 l) (λk st=>∃(s:l6)(d:List Bool),st=(s.source,15-(k:Int),rng s,d)/\s=(ax9 l k).foldl Pf (s0 low high)/\d.length=l.length) (λb=>∃d:List Bool,b=.inl ((fin l low high).source,(-1:Int),rng<|fin l low high,d)) 16 0 (-1,15,⟨low,high⟩,cI5 l.length false) ⟨s0 low high,cI5 l.length false,rfl,rfl,by simp⟩ λk _ hk st a=>by obtain⟨s,d,rfl,c,f⟩:=a;have e:=MX l (15-(k:Int)) (s.source,15-(k:Int),rng s,d) rfl F h.kinds l 0 s [] d sq sq rfl f;simp only[wS]at e;refine⟨(((l.filter λr=>r.u5==15-(k:Int)).foldl Pf s).source,15-((k+1:Nat):Int),rng<|(l.filter λr=>r.u5==15-(k:Int)).foldl Pf s,mrk (15-(k:Int)) s l d),?_,_,_,rfl,?_,?_⟩;unfold Y5;simp only;rw[show decide (15-(k:Int)>=0)=true from cU0 F,b6 (n:=15-(k:Int)-1) F F];grind;rw[UE,List.foldl_append,<-c];rfl;grind [ax6] (λst a=>by obtain⟨s,d,rfl,c,f⟩:=a;simp only[cX4]at c;refine⟨.inl (s.source,-1,rng s,d),?_,d,?_⟩;rfl;rw[c];rfl);simp_all
end Go.Pv.Ar
namespace Go.Pv
open Go
theorem bB9 {p:ia}(h:SB p=true)(a b:Int):zM p a b=some (Zp p a b):=by
 have k:=ap2.1 h;have k1:=k.v;have k2:=k.d;have c:=k.f;unfold zM wX Zp Q;simp only[oq,H2,E5];generalize e:min (max a 0) 1000=f;generalize i:min (max b 0) 500=g;have f0:0<=f/\f<=1000:=by omega
 have j:0<=g/\g<=500:=by omega
 rw[b6 (n:=2*g) F F,b6 (n:=f-2*g) F F,b6 (n:=2*g-f) F F,b6 (n:=p.X6+1) F F];grind
theorem bX7 {t:j1}(h:sx t.rA=true){v s:Int}(v0:0<=v/\v<=1000)(s0:0<=s/\s<=12000):zN t v s=some (VT t v s,0):=by unfold zN wX VT Q;rw[yj,h,cU1<|show¬v<0 by omega,cU1<|show¬v>1000 by omega,cU1<|show¬s<0 by omega,cU1<|show¬s>12000 by omega,SM h];simp only[oq,AT,cT8,aj3,H2,E5]
theorem bp7 {c:Int}(h:-40<=c/\c<=150):mO c=some (EO c):=by unfold mO EO Q;by_cases h1:c<=-20;grind;by_cases a:c>=70;grind;rw[cU1 h1,cU1 a,if_neg h1,if_neg a,b6 (n:=c+20) F F,b6 (n:=400*(c+20)) F F,R1.pK _ _ F F F F];simp only[cT8,oq];grind [b6]
theorem bo9 {v s c:Int}(h:-40<=c/\c<=150):uJ v s c=some (ae9 v s c):=by obtain⟨_,t0,a⟩:=ab8 h;unfold uJ ae9 Q;rw[bp7 h,show(decide (v>=0)&&decide (v<20))=E6 0 19 v by unfold E6;grind,show oH s=some (E6 0 12000 s)from rfl];simp only[oq];rw[b6 F F];grind
theorem cJ4 (x:Int):w9 .i64 x 10=x/1024:=by unfold w9;rw[show min (cy6 10) IntKind.i64.bits=10 from rfl,show(2:Int)^10=1024 from rfl,Int.fdiv_eq_ediv_of_nonneg _ F]
theorem cn1 {s:B1}{g:uQ}(j:Fz g=true)(o:Gj s){e:Int}(d:-1048576<=e/\e<=1048576){s':B1}{u:Int}(h:mV s g e=some (s',u,0)):kZ s g e=some (s',u):=by
 have i:=o;unfold Gj at i;have a:=j;unfold Fz at a;simp only[BY,dg1]at a;obtain⟨⟨⟨⟨⟨⟨p0,p1⟩,k⟩,A⟩,lo⟩,B⟩,hi⟩:=a;have hp:-68719476736<=g.P*e/\g.P*e<=68719476736:=by have p:g.P*e<=g.P*1048576:=cX2 d.2 p0;have q:g.P*-1048576<=g.P*e:=cX2 d.1 p0;omega
 have r:-68719476736<=g.I*e/\g.I*e<=68719476736:=by have p:g.I*e<=g.I*1048576:=cX2 d.2 k;have q:g.I*-1048576<=g.I*e:=cX2 d.1 k;omega
 unfold mV at h;rw[show da g=some (Fz g)from rfl,j]at h;simp only[oq]at h;rw[show(!true||decide (s.Sum< -4398046511104)||decide (s.Sum>4398046511104))=false by simp only[AT,db8,Ky,cU3];omega]at h;rw[show(decide (e< -1048576)||decide (e>1048576))=false by simp only[Ky,cU3];omega,cJ4]at h;simp only[cT8]at h;unfold kZ;rw[b6 (n:=g.P*e) F F,b6 (n:=g.P*e+s.Sum) F F]at h|-;rw[R1.pK _ _ F F F F];rw[b6 (n:=g.I*e) F F,b6 (n:=s.Sum+g.I*e) F F]at h|-;simp only[oq];generalize(g.P*e+s.Sum)/1024=v at h|-;have fin:∀f:Int,(tI (bif decide (v>g.fI)then some g.fI else some v) λ(u:Int)=>bif decide (u<g.Bu)then some ((⟨f⟩:B1),g.Bu)else some ((⟨f⟩:B1),u))=some (⟨f⟩,min (max v g.Bu) g.fI):=λf=>by by_cases b:v>g.fI;rw[cU0 b,cT9,oq,cU1 F,cT8];congr 2;omega;rw[cU1 b,cT8,oq];by_cases c:v<g.Bu;rw[cU0 c,cT9];congr 2;omega;rw[cU1 c,cT8];congr 2;omega
 have l:∀x:Int,(tI (bif decide<|x>4398046511104then some 4398046511104 else some x) λ(m:Int)=>tI (bif decide<|m< -4398046511104then some (-4398046511104)else some m) λ(t:Int)=>some (⟨t⟩,min (max v g.Bu) g.fI))=some ((⟨min (max x<|-4398046511104) 4398046511104⟩:B1),min (max v g.Bu) g.fI):=λx=>by by_cases b:x>4398046511104;rw[cU0 b,cT9,oq,cU1 F,cT8,oq];congr 3;omega;rw[cU1 b,cT8,oq];by_cases c:x< -4398046511104;rw[cU0 c,cT9,oq];congr 3;omega;rw[cU1 c,cT8,oq];congr 3;omega
 have w:(decide (v<=g.fI)||decide (e<=0))=!(decide (v>g.fI)&&decide (e>0)):=by rw[Bool.not_and,<-decide_not,<-decide_not];congr 1<;>rw[decide_eq_decide]<;>omega
 have y:(decide (v>=g.Bu)||decide (e>=0))=!(decide (v<g.Bu)&&decide (e<0)):=by rw[Bool.not_and,<-decide_not,<-decide_not];congr 1<;>rw[decide_eq_decide]<;>omega
 rw[w,y]at h;simp only[fin,l];simp only[fV,oq,H2,E5]at h;have es:(⟨min (max s.Sum<|-4398046511104) 4398046511104⟩:B1)=⟨s.Sum⟩:=by congr 1;omega
 revert h;cases !(decide (v>g.fI)&&decide (e>0))<;>cases !(decide (v<g.Bu)&&decide (e<0))<;>simp only[cT9,cT8,oq,l,es,AI,Prod.mk.injEq]<;>exact λ⟨h1,z,_⟩=>⟨h1,z⟩
theorem bg3 {s:B1}{g:uQ}(b:Fz g=true)(d:Gj s){c v:Int}(c0:-40<=c/\c<=150)(v0:0<=v/\v<=12000):rk s g (EO c) v=some ((YG s g c v).1,(YG s g c v).2.1,0):=by
 obtain⟨_,t0,f⟩:=ab8 c0;have a:=d;unfold Gj at a;obtain⟨s',u,h1,h⟩:=bm7 b d (e:=EO c-v) F;have e1:sZ s g (EO c) v=some (s',u,0):=by unfold sZ Q;rw[show da g=some (Fz g)from rfl,b,show xQ (EO c)=some (E6 0 12000<|EO c)from rfl,show xQ v=some (E6 0 12000 v)from rfl,A7 (show 0<=EO c by omega) F,A7 v0.1 v0.2,b6 F F];grind
 have e2:YG s g c v=(s',u,0):=by grind [YG]
 rw[e2];unfold rk Q;rw[show zu g=some (Fz g)from rfl,b,show oH (EO c)=some (E6 0 12000<|EO c)from rfl,show oH v=some (E6 0 12000 v)from rfl,A7 (show 0<=EO c by omega) F,A7 v0.1 v0.2,show qc s=some (E6 (-4398046511104) 4398046511104 s.Sum)from rfl,A7 a.1 a.2,b6 F F];simp only[oq,AT,cT8];rw[cn1 b d F h1];rfl
def bB3 {g:rz}{l:List b7}(a:granted g)(h:Ar.VW l (-5000) 10000):xz g l=some (Qz g l):=by obtain⟨d,b⟩:=Ar.aM8 h;have r:=Ar.Ud (l:=l) (low:=-5000) (high:=10000) F;unfold granted at a;unfold xz S8 Qz Q;grind [H2,E5,Ar.rng,b6]
def cn6 {k:y6}{n:Int}(h:knB k=true)(n0:E6 0 4095 n=true):∃b,zJ k n=some (kst k n,b):=by
 have o:=bS4.1 h;have e:=o.r;have f:=o.n;have g:=o.q;rw[nQ]at n0;unfold zJ kst Q;rw[b6 (n:=3*k.Q9) F F,b6 (n:=3*k.Q9+40) F F];by_cases q:n>3*k.Q9+40;rw[cU0 q,if_pos q,b6 (n:=k.U7+96) F F,H2];simp;rw[cU1 q,if_neg q,b6 (n:=k.Quiet+1) F F,b6 (n:=k.U7-16) F F,E5];simp only[cT8];have e1:k.Q9<=n->H (k.Q9+H (bQ2 (H<|n-k.Q9) 8))=k.Q9+(n-k.Q9)/8:=λd=>by grind [b6]
 have e2:n<k.Q9->H (k.Q9-H (bQ2 (H<|H (k.Q9-n)+7) 8))=k.Q9+(n-k.Q9)/8:=λd=>by grind [b6]
 by_cases c:k.Quiet+1=100;rw[show(k.Quiet+1==100)=true by grind,if_pos c];by_cases a:n>=k.Q9;simp_all;simp only[cT9,oq,cU1 a,cT8,e2 F];simp;rw[show(k.Quiet+1==100)=false by simpa using c,if_neg c];by_cases a:n>=k.Q9;simp only[cT8,oq,cU0 a,cT9,e1 a];exact⟨false,rfl⟩;simp only[cT8,oq,cU1 a,e2 F];exact⟨false,rfl⟩
theorem UH (s c:Int):xo s c=some (E6 0 12000 s&&E6 0 1048576 c):=by grind [xo,Q,yh]
theorem bV6 (p:E7)(h:p.Cells.length<=1000):rm p=some p:=by unfold rm;have:=cd (mb:=eB p) (σ:=λk:Nat=>((k:Int),p.Cells.take k)) (b0:=.inl ((p.Cells.length:Int),p.Cells.take p.Cells.length)) p.Cells.length (by simp[eB]) (λk hk=>by unfold eB;simp only;rw[cU0 F,cT9,j2 _ _ hk,oq,l5 _ _<|by simp;omega,b6 F F];simp);simp_all
def bf8 {p:E7}(h:Pd p=true){m s c:Int}(d:0<=m/\m<=20000)(s0:0<=s/\s<=12000)(c0:0<=c/\c<=1048576):zL p m s c=some (mxV p m,0):=by
 have k:=aO3.1 h;have k1:=k.f;have k2:=k.w;have l:=k.n;unfold zL Q;rw[az4,h,UH,A7 s0.1 s0.2,A7 c0.1 c0.2,yh,A7 d.1 d.2,bV6 p F];simp only[oq,AT,cT8,cM0];unfold mxV;cases o:p.T3;rfl;simp only[AT,cT8,cT9];have j:(tI (bif decide<|m>500then some true else some p.nA) λa=>tI (bif decide<|m<400then some false else some a) λb=>some b)=some (mxR p m):=by unfold mxR;by_cases e:m>500;rw[cU0 e,cU1<|show¬m<400 by omega];rfl;rw[cU1 e];by_cases i:m<400;rw[cU0 i,cU1<|show¬m>=400 by omega];rfl;rw[cU1 i,cU0<|show m>=400 by omega];simp
 have hk:∀(g:Bool->Option (E7×Int)),(tI (bif decide<|m>500then some true else some p.nA) λa=>tI (bif decide<|m<400then some false else some a) λb=>g b)=g (mxR p m):=λg=>by
  have:(tI (bif decide<|m>500then some true else some p.nA) λa=>tI (bif decide<|m<400then some false else some a) λb=>g b)=tI (tI (bif decide<|m>500then some true else some p.nA) λa=>tI (bif decide<|m<400then some false else some a) λb=>some b) g:=by cases decide<|m>500<;>cases decide<|m<400<;>rfl
  rw[this,j];rfl
 rw[hk];cases q:mxR p m==p.nA;simp only[cV8,cT9,cT8,oq];cases mxR p m;simp only[cT8,oq];rw[b6 F F,H2,E5];congr 3;omega;simp only[cT9,oq];rw[show H (0-15)=-15 from rfl,b6 F F,H2,E5];congr 3;omega;simp only[AT,cT9,cT8,oq];rw[b6 (n:=p.pL+1) F F,H2];cases mxR p m;simp only[cT8,oq];rw[b6 F F,H2,E5];congr 3;omega;simp only[cT9,oq];rw[show H (0-1)=-1 from rfl,b6 F F,H2,E5];congr 3;omega
def cn5 {p:E7}(h:Pd p=true){s c:Int}(s0:0<=s/\s<=12000)(c0:0<=c/\c<=1048576):uK p s c=some (Qt p s c,0):=by
 have k:=aO3.1 h;have k1:=k.f;have i:=k.n;have j:=Oh s 1500 3500;have l:=Oh c 150000 350000;have b:UZ s c<p.Cells.length:=by grind [UZ]
 have a:=cV2.1 k.c _<|al8 b;unfold Po at a;rw[BY,nQ]at a;have m:=a.1;have e:zK s c=some ((UZ s c:Nat):Int):=by unfold zK Q;rw[UH,A7 s0.1 s0.2,A7 c0.1 c0.2];simp only[oq,cM0,AT,cT8];unfold UZ ah8;by_cases d:s>=3500;rw[if_pos d,cU1<|show¬s<3500 by omega,cU1<|show¬s<1500 by omega];by_cases b1:c>=350000;rw[if_pos b1,cU1<|show¬c<350000 by omega,cU1<|show¬c<150000 by omega];rfl;rw[if_neg b1,cU0<|show c<350000 by omega];by_cases b2:c>=150000;rw[if_pos b2,cU1<|show¬c<150000 by omega];rfl;rw[if_neg b2,cU0<|show c<150000 by omega];rfl;rw[if_neg d,cU0<|show s<3500 by omega];by_cases g:s>=1500;rw[if_pos g,cU1<|show¬s<1500 by omega];by_cases b1:c>=350000;rw[if_pos b1,cU1<|show¬c<350000 by omega,cU1<|show¬c<150000 by omega];rfl;rw[if_neg b1,cU0<|show c<350000 by omega];by_cases b2:c>=150000;rw[if_pos b2,cU1<|show¬c<150000 by omega];rfl;rw[if_neg b2,cU0<|show c<150000 by omega];rfl;rw[if_neg g,cU0<|show s<1500 by omega];by_cases b1:c>=350000;rw[if_pos b1,cU1<|show¬c<350000 by omega,cU1<|show¬c<150000 by omega];rfl;rw[if_neg b1,cU0<|show c<350000 by omega];by_cases b2:c>=150000;rw[if_pos b2,cU1<|show¬c<150000 by omega];rfl;rw[if_neg b2,cU0<|show c<150000 by omega];rfl
 unfold uK Q;rw[az4,h,UH,A7 s0.1 s0.2,A7 c0.1 c0.2,e];simp only[oq,AT,cT8,cM0];rw[j2 _ _ b,oq];grind [Qt,b6,H2,E5]
def bB2 {c:Int}(c0:0<=c/\c<=1048576):zF c 1000=some (c*10000/147000,0):=by unfold zF Q;rw[show fH c=some (E6 0 1048576 c)from rfl,A7 c0.1 c0.2];simp only[oq];rw[show(!true||decide ((1000:Int)<500)||decide ((1000:Int)>2000))=false from rfl,cT8,b6 F F,show H (1000*147)=147000 from rfl,ay5 F F F];rfl
section
variable {b:D0} (h:fU b = true)
 include h
theorem bp2:zC b=some true:=by have k:=yA h;have k1:=k.fi;have k2:=k.ev;grind [zC,Q]
theorem ZT {i:Int}(a:0<=i/\i<=1048576):zI b i=some (R4 b i):=by have k1:=(yA h).fi;have b1:=bL a.1 a.2 k1.1 k1.2;grind [zI,Q,R4,b6]
theorem bp6 {f:Int}(f0:0<=f/\f<=1073741824):Bc b f=some (O5 b f):=by have k2:=(yA h).ev;have b2:=bL f0.1 f0.2 (show 0<=b.B0 by omega) k2.2;grind [Bc,Q,O5,b6]
theorem aR8 {f i:Int}(f0:0<=f/\f<=1073741824)(a:0<=i/\i<=1048576):rj b f i=some (bif decide<|f+R4 b i-O5 b f>1073741824then(0,0,9)else(i-R4 b i+O5 b f,f+R4 b i-O5 b f,0)):=by have r1:=xH h a.1;have r2:=nJ h f0.1;unfold rj Q;rw[bp2 h,cU1<|show¬f<0 by omega,cU1<|show¬f>1073741824 by omega,show fH i=some (E6 0 1048576 i)from rfl,A7 a.1 a.2];simp only[oq,AT,cT8,aj3];grind [ZT,bp6,b6]
def YC {i j:Int}(a:i<=j):i-R4 b i<=j-R4 b j:=by have k1:=(yA h).fi;unfold R4;have m:(j-i)*b.E4<=(j-i)*1023:=cX2 k1.2 F;grind
def bX6 {f m i x e:Int}(f0:0<=f/\f<=1073741824)(u:0<=m/\m<=1048576)(k:aW9 b f m i x e):∃v w e',zH b f m=some (v,w,e')/\(e'=0↔e=0)/\(e=0->v=i/\w=x):=by
 have r2:=nJ h f0.1;have M:=xH h (show(0:Int)<=1048576 by omega);unfold zH Q;rw[bp2 h,cU1<|show¬f<0 by omega,cU1<|show¬f>1073741824 by omega,show fH m=some (E6 0 1048576 m)from rfl,A7 u.1 u.2];simp only[oq,AT,cT8,aj3];rw[bp6 h f0,ZT h F];simp only[oq];rw[b6 (n:=m-O5 b f) F F,b6 (n:=1048576-R4 b 1048576) F F,E5];generalize B:max 0 (m-O5 b f)=R;by_cases z:1048576-R4 b 1048576<R;rw[cU0 z];refine⟨0,0,9,rfl,?_,?_⟩;constructor;simp;intro h0;have c:=k.inj h0;have:=YC h c.2;have:=k.fit h0;omega;intro h0;exfalso;have c:=k.inj h0;have:=YC h c.2;have:=k.fit h0;omega;rw[cU1 z,cT8];have g:R<=1048576:=by omega
 obtain⟨j,C,l⟩:=Md (mb:=lp b m<|O5 b f) (p:=λy=>R<=y-R4 b y) (lo:=R) (hi:=1048576) (λp q h1 d N=>by obtain⟨e1,e2,D⟩:=YF (a:=p) (b:=q) F F d F;have E:=xH h (show 0<=(p+q)/2 by omega);refine⟨(p+q)/2,e2,D,?_⟩;unfold lp Q;simp only;rw[cU0 d,cT9,e1,ZT h F,oq,b6 (n:=(p+q)/2-R4 b ((p+q)/2)) F F,b6 (n:=m-O5 b f) F F,E5,B];by_cases q:R<=(p+q)/2-R4 b ((p+q)/2);exact .inl ⟨q,by rw[cU0 q];rfl⟩;exact .inr ⟨q,by rw[cU1 q,cT8,b6 F F]⟩) λx h1 d=>by unfold lp Q;simp only;rw[cU1 F];rfl g;have mono:∀x y:Int,R<=x->x<=y->y<1048576->R<=x-R4 b x->R<=y-R4 b y:=λx y _ d _ I=>cZ7 I<|YC h d;have key:∀y:Int,0<=y->y<=1048576->m<=y-R4 b y+O5 b f->(0<y->y-1-R4 b (y-1)+O5 b f<m)->y=j:=λy o r A s=>by have E:=xH h o;refine Bis.uniq mono ⟨F,r,λ_=>by omega,λJ=>?_⟩ l;have:=s F;omega
 rw[C];simp only[oq];rw[aR8 h f0<|show 0<=j/\j<=1048576 from⟨by have:=l.a;omega,l.b⟩];simp only[oq];rcases k.out with h0|h0;have c:=k.inj h0;have t:=key i c.1 c.2 (k.fit h0)<|k.low h0;subst t;have hx:=k.O2 h0;have O:=k.Zv h0;rw[cU1<|show¬f+R4 b i-O5 b f>1073741824 by omega];exact⟨i,f+R4 b i-O5 b f,0,rfl,by omega,λ_=>⟨rfl,hx.symm⟩⟩;rcases k.vJ h0 with K|⟨y,o,r,A,s,P⟩;omega;have L:=key y o r A s;subst L;rw[cU0<|show f+R4 b y-O5 b f>1073741824 by omega];exact⟨0,0,9,rfl,by omega,λh=>by omega⟩
end
def bX1 {t:j1}(h:(mU t.X5&&t.X5.Y.all (E6 0 10000))=true){a v:Int}(a0:0<=a/\a<=1048576)(v0:0<=v/\v<=20000):zG t a v=some (bif a==0 then 0 else HB t.X5 v+aU7 a,0):=by
 have b:mU t.X5=true:=by grind
 have c:=(RY h a0 v0).2;unfold zG xi Q;rw[HY,h,show fH a=some (E6 0 1048576 a)from rfl,A7 a0.1 a0.2,cU1<|show¬v<0 by omega,cU1<|show¬v>20000 by omega,My b];simp only[oq,AT,cT8,aj3];rw[show((0:Int)!=0)=false from rfl];simp only[cT8];grind [b6,aU7]
def aq6 {t:j1}(h:uP t=true):sx t.D1=true/\mU t.L5=true/\(∀r∈t.D1.Z,r.all (E6 (-1280) 3840)=true)/\t.L5.Y.all (E6 500 10000)=true:=by unfold uP at h;grind
theorem bA4 {t:j1}(h:uP t=true){s c q r:Int}(f:-40<=q/\q<=150)(r0:0<=r/\r<=1280):xj t s c q r=some (aF0 t s c q r):=by
 obtain⟨h1,g,e,i⟩:=aq6 h;have a:=Bl h1 s c<|cD1 h1 e;unfold xj Hn aF0 Q;rw[SM h1];simp only[oq];generalize QZ t.D1 s c=v at a;rw[b6 (n:=v-r) F F,b6 (n:=20-q) F F,b6 (n:=2*(20-q)) F F,b6 (n:=v-r+2*(20-q)) F F,b6 (n:=q-100) F F,b6 (n:=8*(q-100)) F F];have fin:∀x:Int,(bif decide<|x< -1280then some (-1280)else bif decide<|x>3840then some 3840 else some x)=some (min (max x<|-1280) 3840):=λx=>by by_cases b:x< -1280;rw[cU0 b,cT9];congr 1;omega;rw[cU1 b,cT8];by_cases d:x>3840;rw[cU0 d,cT9];congr 1;omega;rw[cU1 d,cT8];congr 1;omega
 by_cases b:q<20;rw[cU0 b,if_pos b,cU1<|show¬q>100 by omega];simp only[cT9,cT8,oq,fin];congr 1;omega;rw[cU1 b,if_neg b];by_cases d:q>100;rw[cU0 d,if_pos d];simp only[cT9,cT8,oq];rw[b6 F F,fin];congr 1;omega;rw[cU1 d,if_neg d];simp only[cT9,cT8,oq,fin];congr 1;omega
theorem bA8 {t:j1}(h:uP t=true){v k:Int}(k0:4000<=k/\k<=1000000):xl t v k=some (MI t v k):=by obtain⟨h1,a,b,c⟩:=aq6 h;unfold xl MI Q;rw[My a];simp only[oq];rw[b6 (n:=3*k) F F,br2 F,b6 F F];grind
def be0 {t:j1}{e:j5}{b:D0}{c:w4}{i:G4}(h:Giv t e b c i){f l:Int}(k:aW8 t e b c i f l):0<=(bd9 t e b c i f l).j4/\(bd9 t e b c i f l).j4<=wtV t c i:=by have ht:=ab5 h.t;have hi:=ak2.1 h.i;have j:=hi.num;have k1:=k.ok;have k2:=k1.f0;have a:=k1.f1;obtain⟨_,d,g⟩:=bd8 ht.tor hi.La<|rG ht i;have r:=(aA5 ht.tor (o:=DA t i.n4<|Gs t i) (l:=l) (f:=f) (n:=(e.ai9.length:Int)) ⟨d,g⟩ ⟨k2,a⟩ F).2.1;exact⟨r,k1.most<|by unfold wtV;omega⟩
def ZS {t:j1}{b:D0}{i:G4}{n:Nat}(ht:VY t)(l:fU b=true)(hi:as0 i n)(w:Int):qt t b i w=some (thV t b i w):=by
 obtain⟨c2,e2,m,_⟩:=YO ht.tor (w:=w) hi.La;obtain⟨j,e,g1,g2,v⟩:=bB5 ht.tor m hi.La;unfold qt thV Q;simp only;rw[m,g1];simp only[oq,cx4,E5];have hx:(bif !e then some (1048576:Int)else some j)=some (bif e2 !=0 then 1048576 else c2):=by
  cases g:e;have:e2≠0:=λh0=>by have:=g2.2 h0;rw[g]at this;cases this
  rw[show(e2 !=0)=true by simpa using this];rfl;have h0:=g2.1 g;rw[v h0,show(e2 !=0)=false by simpa using h0];rfl
 rw[hx];simp only[oq];generalize max 0 (bif e2 !=0 then(1048576:Int)else c2)=x;obtain⟨p,a,z,o⟩:=VC ht.air (w:=x) hi.La hi.air;obtain⟨A,c,B,r,C⟩:=bC0 ht.air hi.La hi.air o;rw[z,B];simp only[oq,cx4,H2];have D:(bif c !=0then some (3000:Int)else some A)=some (bif a !=0 then 3000 else p):=by by_cases h0:a=0;rw[show(c !=0)=false by simpa using r.2 h0,show(a !=0)=false by simpa using h0,C h0];rfl;have:c≠0:=λh=>h0<|r.1 h;rw[show(c !=0)=true by simpa using this,show(a !=0)=true by simpa using h0];rfl
 rw[D];simp only[oq];have hp:50<=min 1012 (bif a !=0 then(3000:Int)else p)/\min 1012 (bif a !=0 then(3000:Int)else p)<=1012:=by
  cases E:a !=0;have h0:a=0:=by simpa using E
  have:=o.fit h0;simp only[cT8];omega;simp only[cT9];omega
 generalize min 1012 (bif a !=0 then(3000:Int)else p)=q at hp;obtain⟨f1,L,M⟩:=bl8 (s:=i.n4) (p:=q) hi.La F;obtain⟨y,k,I,J⟩:=VP l (f:=Pr i.n4 q) (p:=q) F F;obtain⟨N,d,K,u,v3⟩:=az6 l (f:=Pr i.n4 q) (p:=q) F F J;rw[bW1 hi.La F,I];simp only[oq,cx4];rw[K];simp only[oq];by_cases h0:k=0;rw[show(d !=0)=false by simpa using u.2 h0,show(k !=0)=false by simpa using h0,v3 h0];rfl;have:d≠0:=λh=>h0<|u.1 h;rw[show(d !=0)=true by simpa using this,show(k !=0)=true by simpa using h0];rfl
theorem Zx (b:D0):xg b=some (fU b):=by unfold xg fU Q;have e:∀x lo hi,Lr x lo hi=some (E6 lo hi x):=λ_ _ _=>rfl;simp only[e,oq];cases E6 100 1048576 b.E1<;>cases E6 0 65536 b.aa<;>cases E6 0 65536 b.B2<;>cases E6 1 65536 b.jv<;>cases E6 0 1023 b.E4<;>cases E6 1 1024 b.B0<;>cases E6 0 20 b.tT<;>rfl
def bh5 {α:Type}{R:Type}(l:List α)(k:Nat){mb:Int×List R->Option (Int×List R⊕Int×List R⊕Empty)}(g:Nat->R)(s0:List R)(a:∀r,mb ((k:Int),r)=some (.inr<|.inl ((k:Int),r)))(h:∀j,j<k->mb ((j:Int),s0++(MY j).map g)=some (.inl (((j+1:Nat):Int),s0++(MY j).map g++[g j]))):o3 mb (0,s0)=some (.inl ((k:Int),s0++(MY k).map g)):=by have:=cd (mb:=mb) (σ:=λj:Nat=>((j:Int),s0++(MY j).map g)) (b0:=.inl ((k:Int),s0++(MY k).map g)) k (a _) (λj b=>by rw[h j b,cW5,QU]);grind
def Cu {α β:Type}{A:Option α}{a:α}{b:α->Option β}{R:Option β}(h:A=some a)(k:b a=R):tI A b=R:=by grind
def bW9 {t:j1}{e:j5}{b:D0}{c:w4}{i:G4}(h:Giv t e b c i){f l:Int}(so:aW8 t e b c i f l):zP t e b c i=some (PB t b c i f,bd9 t e b c i f l,0):=by
 have ht:=ab5 h.t;have d:=Ku.1 h.c;have hi:=ak2.1 h.i;have R:=hi.num;have x:=hi.La;have k:=rG ht i;have o:=so.ok;obtain⟨p1,p2⟩:=QP d.ped i.Aw i.Ax;have pv:=(ap2.1 p2).v;have hws:=ac5 t (pdV c i).Value i.n4;have hw:(0:Int)<=wtV t c i:=by unfold wtV;omega
 obtain⟨x1,x2⟩:=UB d.mix hi.lam x k;have S:=am2 (mxV c.K7 i.Lambda) i.n4<|Gs t i;obtain⟨k1,k2,T⟩:=bS7 d.kno hi.int (by rw[d.num];exact R) (by rw[d.num];exact hi.len);rw[d.num]at T;have A:=cV2.1 k2;unfold zP Q;rw[NJ,h.t,Zx,h.b,bW3,h.c,cm9,h.i,bB9 d.ped];simp only[oq,AT,cT8];rw[show Zp c.B6 i.Aw i.Ax=pdV c i from rfl,bX7 ht.Ti (v:=(pdV c i).Value) pv x,bo9 hi.coo];simp only[oq];rw[show ae9 (pdV c i).Value i.n4 i.M4=acV c i from rfl,show VT t (pdV c i).Value i.n4=wsV t c i from rfl];generalize p:(bif acV c i then[(⟨1,2,min (max (YG c.T4 t.T4 i.M4 i.n4).2.1<|-5000) 10000,1⟩:b7)]else[])=l0;have U:l0.length<=1:=by rw[<-p];cases acV c i<;>simp
 have s:(bif acV c i then tI (mO i.M4) λv7=>tI (rk c.T4 t.T4 v7 i.n4) λr3=>tI (S8 r3.2.1 (-5000) 10000) λv8=>tI (G2 ([(⟨0,3,wsV t c i,0⟩:b7)]:List b7) ([(⟨1,2,v8,1⟩:b7)]:List b7)) λl=>some (r3.1.Sum,l)else some (0,([(⟨0,3,wsV t c i,0⟩:b7)]:List b7)))=some ((idV t c i).Sum,⟨0,3,wsV t c i,0⟩::l0):=by rw[<-p];unfold idV;cases acV c i;rfl;rw[bp7 hi.coo];simp only[oq,cT9];rw[bg3 ht.idle d.sum hi.coo x];simp only[oq];unfold S8 Q;rw[H2,E5];simp only[oq];rw[l5 _ _ sq];simp only[oq,cX8,wS];congr 5;omega
 rw[s];simp only[oq];have B:rqV t c i=⟨0,3,wsV t c i,0⟩::l0++i.Requests:=by unfold rqV;rw[p];rfl
 have m:=bh5 i.Requests i.Requests.length (mb:=lq i) (λj=>i.Requests.getD j ⟨0,0,0,0⟩) (⟨0,3,wsV t c i,0⟩::l0) λr=>by unfold lq Q;rw[cU1 sq];rfl (λj u=>by have V:=hi.Ah;unfold lq Q;simp only;rw[cU0 F,cT9,j2 _ _ u,oq,l5 _ _<|by simp only[IT,cU9,cW2,cI4,cX0];omega,b6 F F];simp only[oq];rw[db9,IN u];rfl);have C:(MY i.Requests.length).map (λj=>i.Requests.getD j ⟨0,0,0,0⟩)=i.Requests:=by apply List.ext_getElem;simp;intro j h1 D;simp[db9,IN D]
 rw[C,<-B]at m;have hmx:q9 0 (Qz c.bZ<|rqV t c i).j4=wtV t c i:=E5 _ _;have y:=bh5 c.I7 e.ai9.length (mb:=lr e c i) (λj=>(Ww c.I7 i.A5).getD j ⟨0,0,0⟩) [] λr=>by unfold lr Q;rw[cU1 sq];rfl (λj u=>by
  have w:j<c.I7.length:=by rw[d.num];exact u
  have g:j<i.A5.length:=by rw[hi.len];exact u
  have hj3:j<(Ww c.I7 i.A5).length:=by omega
  obtain⟨bb,hb⟩:=cn6 (cV2.1 d.kno _<|al8 w)<|cV2.1 hi.int _<|al8 g;have hz:(Ww c.I7 i.A5).getD j ⟨0,0,0⟩=kst c.I7[j] i.A5[j]:=by unfold Ww;rw[db9,List.getElem?_zipWith,IN w,IN g];rfl
  unfold lr Q;simp only;rw[cU0 F,cT9,j2 _ _ w,oq,j2 _ _ g,oq,hb];simp only[oq];rw[l5 _ _<|by simp only[IT,cW2,cI4,cU9,cX0];omega,b6 F F,hz];rfl);have E:([]:List y6)++(MY e.ai9.length).map (λj=>(Ww c.I7 i.A5).getD j ⟨0,0,0⟩)=Ww c.I7 i.A5:=by apply List.ext_getElem;simp[T];intro j h1 D;simp[db9,IN D]
 rw[E]at y;obtain⟨m1,m2,m3⟩:=YZ (c:=c) (i:=i) ht;have I:ba9 1048576 (H<|bQ2 (H<|Gs t i*10000/147000*Qt (mxV c.K7 i.Lambda) i.n4 (Gs t i)) 1000)=msV t c i:=by rw[b6 (n:=Gs t i*10000/147000*Qt (mxV c.K7 i.Lambda) i.n4 (Gs t i)) F F,br2 m2.1,b6 F F,H2];rfl
 obtain⟨_,wk⟩:=aA9 (i:=i) ht h.b d;obtain⟨W,X,e',v1,Z,v3⟩:=bX6 h.b d.O2 m3 wk;have w0:R4 b 0=0:=by unfold R4;rw[Int.zero_mul];rfl
 have r2:=nJ h.b d.O2.1;have hcf:=d.O2;have J:(bif e' !=0||f==0then tI (rj b c.E4 0) λK=>some ((0:Int),K.2.1)else some (W,X))=some ((Rl t b c i f).1,(Rl t b c i f).2):=by unfold Rl;rw[aR8 h.b d.O2 F,w0,cU1<|show¬c.E4+0-O5 b c.E4>1073741824 by omega];by_cases hf:f=0;rw[show(f==0)=true by simpa using hf,Bool.or_true,Bool.true_or];simp only[cT9,cT8,oq];congr 2;omega;rw[show(f==0)=false by simpa using hf,Bool.or_false,db8];by_cases h0:(waV t b c i).2.2=0;obtain⟨q1,q2⟩:=v3 h0;rw[show(e' !=0)=false by simpa using Z.2 h0,show((waV t b c i).2.2!=0)=false by simpa using h0,q1,q2];rfl;have:e'≠0:=λh=>h0<|Z.1 h;rw[show(e' !=0)=true by simpa using this,show((waV t b c i).2.2!=0)=true by simpa using h0];simp only[cT9,cT8,oq];congr 2;omega
 obtain⟨n1,n2⟩:=YH (i:=i) ht h.b d f;have L:(bif decide<|(Rl t b c i f).1>0then tI (S8 (bif (Rl t b c i f).1==0 then 0 else HB t.X5 i.aO+aU7 (Rl t b c i f).1) 200 20000) λM=>some M else some<|bif (Rl t b c i f).1==0 then 0 else HB t.X5 i.aO+aU7 (Rl t b c i f).1)=some (tmV t i (Rl t b c i f).1):=by unfold tmV S8 Q;rw[H2,E5];by_cases q:(Rl t b c i f).1>0;rw[cU0 q,show((Rl t b c i f).1==0)=false by rw[beq_eq_false_iff_ne];omega];simp only[cT9,cT8,oq];congr 1;omega;rw[cU1 q,show((Rl t b c i f).1==0)=true by rw[beq_iff_eq];omega];rfl
 have hq:0<=60000000/max 1 i.n4/\60000000/max 1 i.n4<=60000000:=⟨cY5 F F,cC0 _ F⟩;have N:4000<=tkV i/\tkV i<=1000000:=by unfold tkV;omega
 have O:S8 (60000000/max 1 i.n4) 4000 1000000=some (tkV i):=by unfold S8 tkV Q;rw[H2,E5];congr 1;omega
 have z:=bh5 c.I7 e.ai9.length (mb:=lu t e i (Gs t i,0) (f,l) ((e.ai9.length:Int),Ww c.I7 i.A5) (tmV t i (Rl t b c i f).1)<|tkV i) (fiV t c i e.ai9.length f l<|tmV t i (Rl t b c i f).1) [] λr=>by unfold lu Q;rw[cU1 sq];rfl (λj u=>by
  have g:j<(Ww c.I7 i.A5).length:=by omega
  have hr:=(bS4.1<|A _<|al8 g).r;have hang:=aj7 t i.n4 (Gs t i) i.M4 (Ww c.I7 i.A5)[j].U7;have l0:=o.l0;have l1:=o.l1;unfold lu Q;simp only;rw[cU0 F,cT9,j2 _ _ g,oq,bA4 ht.bq4 hi.coo ⟨hr.1,by omega⟩,oq,bA8 ht.bq4 N,oq,bB1 R ⟨o.f0,o.f1⟩ u,oq];have P:(bif Jf (e.ai9.length:Int) f (j:Int)then some<|tmV t i (Rl t b c i f).1else some 0)=some (bif Jf (e.ai9.length:Int) f (j:Int)then tmV t i (Rl t b c i f).1else 0):=by cases Jf (e.ai9.length:Int) f (j:Int)<;>rfl
  rw[P];simp only[oq];rw[l5 _ _<|by simp only[IT,cW2,cI4,cU9,cX0];omega];simp only[oq];unfold fiV;rw[b6 (n:=(j:Int)+1) F F,b6 F F,E5,E5,db9,IN g];rfl);rw[wS]at z;refine Cu m ?_;refine Cu (bB3 d.gra<|UG (t:=t) (c:=c) hi) ?_;refine Cu (a:=thV t b i<|wtV t c i) (by rw[hmx];exact ZS ht h.b hi _) ?_;refine Cu (Zu ht.air x hi.pre hi.air) ?_;refine Cu (a:=(f,l)) (by rw[hmx];exact bC2 ht.tor hw F o) ?_;refine Cu y ?_;refine Cu (bf8 d.mix hi.lam x k) ?_;refine Cu (cn5 x2 x k) ?_;refine Cu (bB2 k) ?_;refine Cu (a:=(W,X,e')) (by rw[show Tn t i.n4 i.z6 i.B4=Gs t i from rfl,I];exact v1) ?_;refine Cu J ?_;refine Cu (bX1 ht.dead n1 hi.vol) ?_;refine Cu L ?_;refine Cu (a:=60000000/max 1 i.n4) (by rw[E5];exact ay5 F F F) ?_;refine Cu O ?_;refine Cu z ?_;refine Cu (Xd ht.tor i.n4 (Gs t i) l ⟨o.f0,o.f1⟩ F) ?_;rfl
end Go.Pv
namespace Go.Proofs.YtlbfdimlomockaaGreat.Ec
open Go Go.Pv Go.Proofs
theorem Uf (a c:Int)(b:-9223372036854775808<=a)(d:a<=9223372036854775807)(e:0<c)(f:c<=9223372036854775807):(X9 a c).m=some (a/c):=by grind [XE,MO]
theorem EX (x lo hi:Int):(z8 x lo hi).m=some (ba9 (q9 x lo) hi):=rfl
def uU (x lo hi:Int)(h:lo<=hi):lo<=ba9 (q9 x lo) hi/\ba9 (q9 x lo) hi<=hi:=by grind [ba9,q9]
theorem KX (x lo hi:Int)(h:lo<=hi):(au x lo hi).m=some (ba9 (q9 x lo) hi):=by simp only[au,C.of,M.run];unfold ba9 q9;grind
theorem ax4 {p b:Int}(d:0<b)(f:b<=1099511627776):(K2 p b).m=some (p%b):=by
 simp only[K2,C.of,M.run,L1.m];rw[show(b==0||b==-1)=false by simp;omega];simp only[cT8];have e:SF p b=some (uk p b):=by unfold SF;grind
 rw[e];simp only[oq];have g:0<=p%b:=cZ3 p F;have i:p%b<b:=cM3 p d;rw[df7];by_cases c:0<=p\/b∣p;grind;rw[if_neg c];have j:p%b≠0:=λh=>c<|.inr<|Int.dvd_of_emod_eq_zero h;have a:((b.natAbs:Nat):Int)=b:=by omega
 rw[a,cU0<|show p%b-b<0 by omega,cU1<|show¬b<0 by omega,show(p%b-b !=0&&!true==false)=true by simp;omega];simp only[cT9];grind [b6]
def aa8 {α S R:Type}(f:Int->α->S->Option (Fl S R))(I:Nat->S->Prop):∀(r:List α)(k:Nat)(s:S),I k s->(∀j x s,r[j]?=some x->I (k+j) s->∃s',f ((k+j:Nat):Int) x s=some (.next s')/\I (k+j+1) s')->∃s',F0 f r (k:Int) s=some (.inl s')/\I (k+r.length) s'|[],k,s,h,_=>⟨s,by rfl,h⟩|x::r,k,s,h,g=>by obtain⟨s',h1,a⟩:=g 0 x s rfl h;obtain⟨t,b,c⟩:=aa8 f I r (k+1) s' a (λj y u d e=>by have:=g (j+1) y u gq gq;grind);grind [F0]
def QS {α S R:Type}(l:List α)(a:l.length<=9223372036854775807)(f:Int->α->S->Option (Fl S R))(I:Nat->S->Prop)(s:S)(h0:I 0 s)(h:∀k x s,l[k]?=some x->I k s->∃s',f (k:Int) x s=some (.next s')/\I (k+1) s'):∃s',o3 (λp:Int×S=>bif decide<|p.1<(l.length:Int)then(y3 l p.1).bind λx=>(f p.1 x p.2).bind<|iH p.1else some<|.inr<|.inl p.2) (0,s)=some (.inl s')/\I l.length s':=by have e:=B5 l a f s;obtain⟨s',h1,b⟩:=aa8 f I l 0 s h0 (λj x s hx c=>by grind);grind
structure VX (b:D0)(p:U8):Prop where
 body:fU b=true
 pos:0<=p.y5/\p.y5<=3019898879
 La:0<=p.n4/\p.n4<=262144
 rest:0<=p.Rest/\p.Rest<=b.E1-1
 pre:50<=p.z6/\p.z6<=1013
 O2:0<=p.E4/\p.E4<=2147483648
 Ah:(p.Path.length:Int)<=b.tT+1
 path:∀x∈p.Path,500<=x/\x<=2000
theorem Jg {x a b:Int}(h:a<=x/\x<=b):(B7 x a b).m=some true/\(C7 x a b).m=some true:=by
 have:(decide (x>=a)&&decide (x<=b))=true:=by grind
 exact⟨congrArg some this,congrArg some this⟩
theorem aQ0 (b:D0):(hP b).m=some (fU b):=by rw[XU,as5]
theorem aq2 (b:D0):(ar b).m=some (fU b):=by rw[LI,Zx]
theorem ay1 {b:D0}{p:U8}(h:VX b p):(zf b p).m=some true/\(DQ b p).m=some true:=by have a:=yA h.body;have h1:=a.i;have c:=a.de;have d:=h.Ah;simp only[zf,DQ,C.of,M.run,aQ0,h.body,oq,Jg h.pos,Jg h.La,Jg h.pre,Jg h.O2,b6 (n:=b.E1-1) F F,Jg h.rest,AT,cT8];rw[b6 (n:=b.tT+1) F F,cU1 F];simp only[aj3,cT8];constructor;obtain⟨u,c,_⟩:=QS p.Path F (λi x (s:Unit)=>(Dr i x s).run) (λ_ _=>True) () trivial (λk x s hx _=>by refine⟨(),?_,trivial⟩;simp only[Dr,M.run,Jg<|h.path x<|bX3 hx,oq,AT,cT8]);grind;have e:=cd (mb:=λs=>(gI p s).run) (λk:Nat=>(k:Int)) (b0:=.inl (p.Path.length:Int)) p.Path.length (by simp[gI,M.run]) (λk hk=>by simp only[gI,M.run,L1.m];rw[cU0 F,j2 _ _ hk];simp only[cT9,oq,Jg<|h.path _<|al8 hk,AT,cT8];grind [b6]);grind
def br6 (n:Int):-9223372036854775808<=H n/\H n<=9223372036854775807:=by unfold H de9;grind [cZ5,cL0]
theorem cq2 (a b:Int):H (a-H b)=H (a-b):=by unfold H de9;grind [cL0]
def ZM {a c:Int}(h0:-9223372036854775808<=a)(h1:a<=9223372036854775807)(d:0<c):(kn a c).m=some (a/c):=by
 have i:-9223372036854775808<=a/c:=by rw[cL7 d];omega
 have j:a/c<=9223372036854775807:=by have:=cv2 d h1;have k:(9223372036854775807:Int)/c<=9223372036854775807:=cC0 _ F;omega
 have f:∀n:Int,-9223372036854775808<=n->n<=9223372036854775807->IntKind.i64.wrap n=n:=λn a b=>b6 F F;simp only[kn,C.of,M.run,L1.m,KT,SF];rw[if_neg F,if_neg F,Int.tdiv_eq_ediv,df7];have l:0<=a%c:=cZ3 _ F;have o:a%c<c:=cM3 _ d;by_cases e:0<=a\/c∣a;grind;rw[if_neg e,if_neg e,Int.sign_eq_one_of_pos d];have g:a<0:=by refine Classical.byContradiction λh=>e<|.inl F
 have p:a/c<0:=Int.ediv_neg_of_neg_of_pos g d;simp only[oq];rw[cU0 F,f _ F F,cT9,b6 F F];congr 1;omega
def cm4 {b:D0}{p:U8}(h:VX b p){a t l:Int}(x:0<=a/\a<=1000)(ht:-5000<=t/\t<=10000)(y:-10000<=l/\l<=10000):∃r,(KD b p a t l 10000).m=some (r,⟨10000,p.n4⟩,0)/\(lZ b p a t l 10000).m=some r/\VX b r:=by
 have o:=yA h.body;have u:=h.Ah;have hi:=o.i;have E:=o.v;have I:=o.de;have hp:=h.pos;have J:=h.La;generalize w:H (H (H (H (t-l)-H (bQ2 (H<|b.aa*p.n4) 65536))*10000)+p.Rest)=n;have j:-9223372036854775808<=n/\n<=9223372036854775807:=w▸br6 _;generalize d:H (H (H (bQ2 (H<|H (b.B2*a)*H (1013-p.z6)) 1000)-H (bQ2 (H<|p.n4*p.z6) 1024))*10000)=f;have k:-9223372036854775808<=f/\f<=9223372036854775807:=d▸br6 _;have q:H (65536*b.jv)=65536*b.jv:=b6 F F;have f1:=Uf n b.E1 j.1 j.2 F F;have s:=Uf f (65536*b.jv) k.1 k.2 F F;have g1:=ZM (a:=n) (c:=b.E1) j.1 j.2 F;have g2:=ZM (a:=f) (c:=65536*b.jv) k.1 k.2 F;have z:=ax4 (p:=n) (b:=b.E1) F F;have A:0<=n%b.E1:=cZ3 _ F;have K:n%b.E1<b.E1:=cM3 _ F;have B:H (n-H (n/b.E1*b.E1))=n%b.E1:=by rw[cq2,Int.mul_comm,show n-b.E1*(n/b.E1)=n%b.E1 by have:=Int.emod_add_mul_ediv n b.E1;omega,b6 F F]
 have c1:=uU (H<|p.z6+f/(65536*b.jv)) 50 1013 F;have c2:=uU (H<|p.n4+n/b.E1) 0 262144 F;have g:0<=uk (H<|p.y5+H (p.n4*10000)) 3019898880/\uk (H<|p.y5+H (p.n4*10000)) 3019898880<=3019898879:=by rw[b6 (n:=p.n4*10000) F F,b6 F F,aW6 F];omega
 have ap:=l5 ([]:List Int) p.Path (by simp only[cX0];omega);simp only[KD,lZ,DT,zh,C.of,CG.of,M.run,ay1 h,Jg x,Jg ht,Jg y,Jg<|show(1:Int)<=10000/\(10000:Int)<=10000 by omega,oq,AT,cT8,U1.m,ap,wS,w,d,q,f1,s,g1,g2,z,B,EX,KX _ _ _<|show(0:Int)<=262144 by omega,KX _ _ _<|show(50:Int)<=1013 by omega];by_cases D:H (p.n4+n/b.E1)<0\/H (p.n4+n/b.E1)>262144;have:(decide (H (p.n4+n/b.E1)<0)||decide (H (p.n4+n/b.E1)>262144))=true:=by rw[bh7,dg1,dg1];exact D
 rw[this];simp only[cT9,oq,d,q,s,EX];exact⟨_,rfl,rfl,h.body,g,c2,⟨QA _,by show(0:Int)<=_;omega⟩,c1,h.O2,u,h.path⟩;have:(decide (H (p.n4+n/b.E1)<0)||decide (H (p.n4+n/b.E1)>262144))=false:=by rw[Ky,cU3,cU3];omega
 have e:ba9 (q9 (H<|p.n4+n/b.E1) 0) 262144=H (p.n4+n/b.E1):=by unfold ba9 q9;split<;>split<;>omega
 rw[this];rw[e]at c2;simp only[cT8,oq,d,q,s,EX,e];exact⟨_,rfl,rfl,h.body,g,c2,⟨A,by show n%b.E1<=_;omega⟩,c1,h.O2,u,h.path⟩
def bA0 {b:D0}{p:U8}(h:VX b p){f a:Int}(c:0<=f/\f<=1048576)(k:0<=a/\a<=1048576):∃r u,(zg b p f a).m=some (r,u,0)/\(cM b p f a).m=some (r,u)/\VX b r:=by
 have l:=yA h.body;have v:=h.Ah;have e:=l.fi;have g:=l.ev;have d:=h.O2;have q:=l.de;have a0:0<=f*b.E4:=cM7 c.1 e.1;have s:f*b.E4<=1048576*1023:=Int.mul_le_mul c.2 e.2 F F;have b0:0<=p.E4*b.B0:=cM7 d.1 F;have b1:p.E4*b.B0<=p.E4*1024:=cX2 g.2 d.1;have b2:p.E4*1<=p.E4*b.B0:=cX2 g.1 d.1;simp only[zg,cM,C.of,M.run,ay1 h,Jg c,Jg k,oq,AT,cT8,U1.m,L1.m];generalize f*b.E4=A at a0 s|-;generalize p.E4*b.B0=B at b0 b1 b2|-;rw[b6 (n:=A) F F,b6 (n:=B) F F,br2 a0,br2 b0];rw[b6 (n:=A/1024) F F,b6 (n:=B/1024) F F,b6 (n:=f-A/1024) F F,b6 (n:=A/1024-B/1024) F F,b6 (n:=f-A/1024+B/1024) F F,b6 (n:=p.E4+(A/1024-B/1024)) F F,b6 (n:=p.E4+A/1024) F F,b6 (n:=p.E4+A/1024-B/1024) F F,b6 (n:=10000*a) F F,b6 (n:=147*(f-A/1024+B/1024)) F F,b6 (n:=b.tT+1) F F,show p.E4+(A/1024-B/1024)=p.E4+A/1024-B/1024 by omega];have key:∃m,(bif decide<|f-A/1024+B/1024>0then(KT .i64 (10000*a)<|147*(f-A/1024+B/1024)).bind λt=>(z8 t 500 2000).m.bind λt=>some t else some 2000)=some m/\(bif decide<|f-A/1024+B/1024>0then(KT .i64 (10000*a)<|147*(f-A/1024+B/1024)).bind λt=>(au t 500 2000).m.bind λt=>some t else some 2000)=some m/\500<=m/\m<=2000:=by by_cases hp:f-A/1024+B/1024>0;rw[cU0 hp,be8 F F F];simp only[cT9,oq,EX,KX _ _ _<|show(500:Int)<=2000 by omega];exact⟨_,rfl,rfl,uU _ _ _ F⟩;rw[cU1 hp];simp
 obtain⟨m,e1,e2,h1⟩:=key;rw[e1,e2,l5 _ _ gq];simp only[cT8,oq,wS];rw[l5 _ _ gq];simp only[oq];have hx:∀x∈p.Path++[m],500<=x/\x<=2000:=λx hx=>by rcases bX2.1 hx with j|j;exact h.path x j;grind
 have w:(p.Path++[m]).length=p.Path.length+1:=by simp
 have i:0<=p.E4+A/1024-B/1024/\p.E4+A/1024-B/1024<=2147483648:=by omega
 by_cases o:((p.Path++[m]).length:Int)>b.tT+1;rw[cU0 o];have:U4 (p.Path++[m]) 1 ((p.Path++[m]).length:Int)=some (((p.Path++[m]).drop 1).take<|(p.Path++[m]).length-1):=by unfold U4;rw[if_pos F];rfl
 rw[this];simp only[cT9,oq];refine⟨_,_,rfl,rfl,h.body,h.pos,h.La,h.rest,h.pre,i,?_,λx j=>hx x<|List.mem_of_mem_drop<|cL4 j⟩;simp only[cV5,dc1];omega;rw[cU1 o];simp only[cT8,oq];exact⟨_,_,rfl,rfl,h.body,h.pos,h.La,h.rest,h.pre,i,by simp only;omega,hx⟩
def Gr (t p v e:Int):Int:=t+(65536*e-p+v-1)/v
def ch0 {x v:Int}(a:0<v):(x+v-1)/v=-(-x/v):=by have h1:=Int.emod_add_mul_ediv (-x) v;have b:=cZ3 (-x) (show v≠0 by omega);have c:=cM3 (-x) a;rw[show x+v-1=v-1- -x%v+v*-(-x/v)by grind,da5 _ _ F,cZ1 F F];omega
structure WhO (t p v:Int):Prop where
 t:0<=t/\t<=1099511627776
 p:0<=p/\p<=3019898879
 v:0<v/\v<=262144
def Xl {t p v e:Int}(h:WhO t p v)(h1:p/65536<e)(d:e<=(p+10000*v)/65536):t<Gr t p v e/\Gr t p v e<=t+10000:=by
 obtain⟨ht,hp,c⟩:=h;have a:1<=(65536*e-p+v-1)/v:=by rw[cL7 c.1];omega
 have b:(65536*e-p+v-1)/v<10001:=by rw[da2 c.1];omega
 grind [Gr]
def bE5 {t p v e f:Int}(a:0<v)(h:e<=f):Gr t p v e<=Gr t p v f:=by simp_all[cv2,Gr]
def aU9 {t p v e:Int}(h:WhO t p v)(h1:p/65536<e)(a:e<=(p+10000*v)/65536):(mC t p v e).m=some (Gr t p v e):=by have hk:=Xl h h1 a;obtain⟨ht,hp,b⟩:=h;simp only[mC,C.of,M.run,L1.m];grind [b6,be8,Gr]
theorem bD4 {s:k8}{l:List Int}(f:l.length<=100000)(h:WhO s.t s.u.o6.y5 s.u.o6.n4)(hx:∀x∈l,s.u.o6.y5/65536<x/\x<=(s.u.o6.y5+10000*s.u.o6.n4)/65536):(db s l).m=some (l.map<|Gr s.t s.u.o6.y5 s.u.o6.n4):=by simp only[db,CG.of,M.run];obtain⟨r,h1,g⟩:=QS l F (λi x (o:List Int)=>(uf s i x o).run) (λk o=>o=(l.take k).map (Gr s.t s.u.o6.y5 s.u.o6.n4)) [] rfl (λk x o hk a=>by have d:=(No.1 hk).1;have b:=hx x<|bX3 hk;have j:=Xl h b.1 b.2;obtain⟨ht,hp,c⟩:=h;simp only[uf,M.run,U1.m];rw[b6 (n:=65536*x) F F,b6 (n:=s.u.o6.y5-65536*x) F F,Uf _ _ F F c.1 F];have e:=ch0 (x:=65536*x-s.u.o6.y5) c.1;rw[show-(65536*x-s.u.o6.y5)=s.u.o6.y5-65536*x by omega]at e;unfold Gr at*;simp only[oq];rw[b6 F F,l5 _ _<|by rw[a];simp;omega];refine⟨_,rfl,?_⟩;rw[a,cQ4,hk];simp only[Option.toList_some,dc9,ew,db6];congr 2;omega);grind
end Go.Proofs.YtlbfdimlomockaaGreat.Ec
namespace Go.Pv
open Go
namespace Fr
theorem SX {α S R:Type}(f:Int->α->S->Option (Fl S R)):∀(l:List α)(i:Int)(s:S),(∀i,∀y∈l,∀s,∃x,f i y s=some x)->∃r,F0 f l i s=some r|[],i,s,_=>⟨_,rfl⟩|y::l,i,s,h=>by obtain⟨x,hx⟩:=h i y (cV7 ..) s;simp only[F0,hx,oq];cases x with|next s'=>simp_all[SX]|brk s'=>simp|ret r=>simp
def aJ7 (l:List n9)(a:l.length<=9223372036854775807):∃b,xM l=some b:=by unfold xM Q;rw[B5 _ a];obtain⟨r,c⟩:=SX Fx l 0 [] (λi y _ s=>by unfold Fx Q;cases KN false s y.Code<;>exact⟨_,rfl⟩);rw[c];cases r<;>exact⟨_,rfl⟩
structure VU (c:n9):Prop where
 fail:1<=c.ru/\c.ru<=100
 pass:1<=c.Pass/\c.Pass<=100
 cx3:1<=c.ON/\c.ON<=100
 age:c.ON<=c.Age/\c.Age<=255
 frame:0<=c.Frame/\c.Frame<=8
def cfB (c:n9):Bool:=decide (c.Code>=1)&&decide (c.Code<=16777215)&&(decide (c.ru>=1)&&decide (c.ru<=100))&&(decide (c.Pass>=1)&&decide (c.Pass<=100))&&(decide (c.ON>=1)&&decide (c.ON<=100))&&(decide (c.Age>=c.ON)&&decide (c.Age<=255))&&(decide (c.u5>=0)&&decide (c.u5<=255))&&(decide (c.Frame>=0)&&decide (c.Frame<=8))
theorem cG3 (c:n9):yK c=some (cfB c):=by simp[yK,yN,cfB,Q,bK1]
theorem VU.of {c:n9}(h:cfB c=true):VU c:=by simp only[cfB,BY,dg1]at h;obtain⟨⟨⟨⟨⟨⟨_,h1⟩,a⟩,b⟩,d⟩,_⟩,e⟩:=h;exact⟨h1,a,b,d,e⟩
def cc4 (c:n9):xN c=some !cfB c:=by simp[xN,Q,cG3]
theorem MB (l:List n9)(a:l.length<=9223372036854775807):Q8 l xN=some (l.any λc=>!cfB c):=by unfold Q8 dS hG;exact W2 l a xN (λc=>!cfB c) λy _=>cc4 y
def PD (b1 b2 b c a:Bool):Int:=(bif b1 then 1 else 0)+(bif b2 then 2 else 0)+(bif b then 4 else 0)+(bif c then 8 else 0)+bif a then 16 else 0
def bZ3 (a b c d e:Bool):0<=PD a b c d e/\PD a b c d e<=31:=by cases a<;>cases b<;>cases c<;>cases d<;>cases e<;>decide
theorem cB1 (a b c d e:Bool):(F5 .i64 (PD a b c d e) 1==1)=a:=by cases a<;>cases b<;>cases c<;>cases d<;>cases e<;>rfl
theorem cP7 (a b c d e:Bool):(F5 .i64 (PD a b c d e) 2==2)=b:=by cases a<;>cases b<;>cases c<;>cases d<;>cases e<;>rfl
theorem cB2 (a b c d e:Bool):(F5 .i64 (PD a b c d e) 4==4)=c:=by cases a<;>cases b<;>cases c<;>cases d<;>cases e<;>rfl
theorem cJ7 (a b c d e:Bool):(F5 .i64 (PD a b c d e) 16==16)=e:=by cases a<;>cases b<;>cases c<;>cases d<;>cases e<;>rfl
theorem cJ6 (a b c d e:Bool):(F5 .i64 (PD a b c d e) 10==10)=(b&&d):=by cases a<;>cases b<;>cases c<;>cases d<;>cases e<;>rfl
theorem cP8 (a b c d e:Bool):(F5 .i64 (PD a b c d e) 6!=0)=(b||c):=by cases a<;>cases b<;>cases c<;>cases d<;>cases e<;>rfl
theorem cJ9 (a b c d e:Bool):sU .i64 (PD a b c d e) 9=PD false b c false e:=by cases a<;>cases b<;>cases c<;>cases d<;>cases e<;>rfl
theorem cu2 (a b c d e:Bool):sU .i64 (PD a b c d e) 1=PD false b c d e:=by cases a<;>cases b<;>cases c<;>cases d<;>cases e<;>rfl
theorem aa6 (a b c d e:Bool):P2 .i64 (PD a b c d e) 11=PD true true c true e:=by cases a<;>cases b<;>cases c<;>cases d<;>cases e<;>rfl
theorem bq6 (a b c d e:Bool):P2 .i64 (PD a b c d e) 4=PD a b true d e:=by cases a<;>cases b<;>cases c<;>cases d<;>cases e<;>rfl
theorem aA2 (a b c d e:Bool):P2 .i64 (PD a b c d e) 16=PD a b c d true:=by cases a<;>cases b<;>cases c<;>cases d<;>cases e<;>rfl
theorem bZ2 (a b c d e:Bool):P2 .i64 (PD a b c d e) 8=PD a b c true e:=by cases a<;>cases b<;>cases c<;>cases d<;>cases e<;>rfl
def Rp (c:n9)(l:List Int):Prop:=(l.length:Int)=c.Frame/\∀x∈l,-1099511627776<=x/\x<=1099511627776
theorem dB (l:List Int)(a:l.length<=9223372036854775807)(f:Int->Option Bool)(p:Int->Bool)(h:∀y∈l,f y=some (p y)):G1 l f=some (l.any p):=by unfold G1 jn lM;exact W2 l a f p h
theorem YA {c:n9}{l:List Int}(a:VU c)(h:Rp c l):Cz c l=some true:=by
 unfold Cz Q;have b:l.length<=9223372036854775807:=by have:=h.1;have:=a.frame;omega
 have d:((l.length:Int)==c.Frame)=true:=by simpa using h.1
 rw[d,dB l b Pq (λx=>!(decide (x>=-1099511627776)&&decide (x<=1099511627776))) λy _=>rfl];have:l.any (λx=>!(decide (x>=-1099511627776)&&decide (x<=1099511627776)))=false:=by rw[cH5];intro x hx;have:=h.2 x hx;grind
 grind
structure RtB (c:n9)(x:A3)(ic:Int)(b1 b2 b4 b8 b16:Bool):Prop where
 st:x.C0=PD b1 b2 b4 b8 b16
 count:-c.Pass<=x.s6/\x.s6<=c.ru
 Qm:0<=x.A0/\x.A0<=2
 clean:0<=x.Clean/\x.Clean<=c.Age-1
 occ:0<=x.k9/\x.k9<=255
 last:0<=x.A6/\x.A6<=ic
 frame:x.Frame=[]\/Rp c x.Frame
 k1:b1=true->b2=true/\b8=true/\x.A6=ic
 k4:b4=true↔x.A0=2
 k16:b16=true->b4=true/\c.Rq=true
 k2:b2=true->x.Clean=0
 known:(b2||b4)=true->1<=x.k9/\1<=x.A0/\1<=x.A6/\(x.Frame.length:Int)=c.Frame
 none:(b2||b4)=false->x.A0=0/\x.Clean=0/\x.k9=0/\x.A6=0/\x.Frame=[]
def Rt (c:n9)(x:A3)(a:Int)(d:Bool):Prop:=∃b1 b2 e b,RtB c x a b1 b2 e d b
theorem bW4 {c:n9}{x:A3}{a:Int}{j:Bool}(k:VU c)(h:Rt c x a j):GO c x a=some true:=by
 obtain⟨b1,b2,g,b,h⟩:=h;have l:(tI (bif decide<|(x.Frame.length:Int)>0then tI (Cz c x.Frame) λo=>some (!o)else some false) λp=>some p)=some false:=by rcases h.frame with h1|h1;rw[h1];rfl;rw[YA k h1];cases decide<|(x.Frame.length:Int)>0<;>rfl
 have:=h.count;have:=h.Qm;have:=h.clean;have:=h.occ;have:=h.last;have:=k.pass;have:=k.age;have:=k.cx3;have s:=bZ3 b1 b2 g j b;unfold GO Q;rw[l];simp only[yN,Uc,Vk,oq,h.st,cB1,cJ6,cB2,cJ7,cP7,cP8,Q];rw[b6 (n:=0-c.Pass) F F,b6 (n:=c.Age-1) F F];have e1:(decide (PD b1 b2 g j b>=0)&&decide (PD b1 b2 g j b<=31))=true:=by simp[s.1,s.2]
 have e2:(decide (x.s6>=0-c.Pass)&&decide (x.s6<=c.ru))=true:=by simp;omega
 have q:(decide (x.A0>=0)&&decide (x.A0<=2))=true:=by simp;omega
 have r:(decide (x.Clean>=0)&&decide (x.Clean<=c.Age-1))=true:=by simp;omega
 have t:(decide (x.k9>=0)&&decide (x.k9<=255))=true:=by simp;omega
 have u:(decide (x.A6>=0)&&decide (x.A6<=a))=true:=by simp;omega
 simp only[e1,e2,q,r,t,u,AT,cT8,oq];have f1:(bif b1 then some<|!(b2&&j)||(x.A6 !=a)else some false)=some false:=by cases f:b1;rfl;obtain⟨h1,i,d⟩:=h.k1 f;rw[h1,i,d];simp
 rw[f1];simp only[oq,cT8];have v:(g==(x.A0==2))=true:=by
  have:=h.k4;cases f:g;have d:¬x.A0=2:=λe=>by have:=this.2 e;rw[f]at this;cases this
  simpa using d;have d:=this.1 f;simpa using d
 rw[v];simp only[AT,cT8];have w:(bif b then some<|!g||(!c.Rq)else some false)=some false:=by cases f:b;rfl;obtain⟨h1,i⟩:=h.k16 f;rw[h1,i];rfl
 rw[w];simp only[oq,cT8];have y:(b2&&x.Clean !=0)=false:=by cases f:b2;rfl;have:=h.k2 f;simp[this]
 rw[y];simp only[cT8];cases hk:b2||g;obtain⟨h1,i,d,m,z⟩:=h.none hk;simp[h1,i,d,m,z];obtain⟨h1,i,d,m⟩:=h.known hk;simp[h1,i,d,m]
structure Inv (l:List n9)(f:y2)(ic:Int)(run:Bool)(t:Nat->Bool):Prop where
 jP:f.G3=l
 MH:f.jq=ic
 run:f.dA=run
 len:f.L.length=l.length
 rt:∀i (h1:i<l.length)(h2:i<f.L.length),Rt l[i] f.L[i] ic<|t i
structure VV (l:List n9):Prop where
 len:l.length<=64
 cf:∀c∈l,cfB c=true
 bN1:xM l=some true
theorem VV.any {l:List n9}(h:VV l):(l.any λc=>!cfB c)=false:=by rw[cH5];intro c a;simp[h.cf c a]
theorem VV.ok {l:List n9}(h:VV l){i:Nat}(hi:i<l.length):VU l[i]:=.of<|h.cf _<|al8 hi
theorem Js {l:List n9}{f:y2}{a:Int}{run:Bool}{t:Nat->Bool}(b:VV l)(h:Inv l f a run t)(h0:0<=a)(h1:a<=1073741824)(i:run=true->1<=a):Cy f=some true:=by
 have e:=b.len;have k:decide ((f.G3.length:Int)>64)=false:=by rw[h.jP];simp;omega
 have e2:((f.L.length:Int)!=(f.G3.length:Int))=false:=by rw[h.jP,h.len];simp
 have m:(decide (f.jq>=0)&&decide (f.jq<=1073741824))=true:=by rw[h.MH];simp[h0,h1]
 have n:(f.dA&&decide (f.jq<1))=false:=by rw[h.run,h.MH];cases o:run;rfl;have:=i o;simp;omega
 unfold Cy;rw[k,MB _<|by rw[h.jP];omega];have e1:(f.G3.any λc=>!cfB c)=false:=by rw[h.jP];exact b.any
 rw[e1];have p:xM f.G3=some true:=by rw[h.jP];exact b.bN1
 rw[p,e2];simp only[yN,m,cT8,oq,AT,aj3,n,Q];have q:=h.len;obtain⟨s,k1,_⟩:=sB (R:=Bool) f.L.length F (yL f) (λ_ _=>True) () trivial λj g s _=>⟨(),by
  unfold yL;have d:j<f.G3.length:=by rw[h.jP];omega
  rw[j2 _ _ g,j2 _ _ d];simp only[oq];have:f.G3[j]=l[j]'F:=by simp[h.jP]
  rw[this,h.MH,bW4 (b.ok F)<|h.rt j F g];rfl,trivial⟩;rw[k1];rfl
theorem MA {α:Type}(l:List α)(h:l.length<=1073741824):(tI (G2 ([]:List α) l) λl=>some l)=some l:=by grind [l5]
theorem aT1 {α:Type}(l:List α)(i:Nat)(h:i<l.length):l.set i l[i]=l:=by simp
def bv2 {f:y2}(h:f.L.length<=64)(c:∀x∈f.L,x.Frame.length<=8):yM f=some f:=by unfold yM Ea Q;rw[MA _ F];simp only[oq];obtain⟨s,k1,k2⟩:=sB (R:=Empty) f.L.length F Dk (λ_ s=>s=f.L) f.L rfl λj a s b=>⟨f.L,by subst b;unfold Dk rq Q;rw[j2 _ _ a];simp only[oq];rw[MA _ gq];simp only[oq];rw[D4 _ _ _ a];have:=aT1 f.L j a;simp only[oq];rw[show(⟨f.L[j].C0,f.L[j].s6,f.L[j].A0,f.L[j].Clean,f.L[j].k9,f.L[j].Frame,f.L[j].A6⟩:A3)=f.L[j]from rfl,this],rfl⟩;simp_all
def Rt.cw9 {c:n9}{x:A3}{a:Int}{b:Bool}(d:VU c)(h:Rt c x a b):x.Frame.length<=8:=by obtain⟨b1,b2,f,e,h⟩:=h;rcases h.frame with h1|h1;simp[h1];have:=h1.1;have:=d.frame;omega
def Inv.cx0 {l:List n9}{f:y2}{a:Int}{run:Bool}{t:Nat->Bool}(b:VV l)(h:Inv l f a run t):∀x∈f.L,x.Frame.length<=8:=by intro x hx;obtain⟨i,hi,rfl⟩:=Kz.1 hx;have c:=h.len;exact(h.rt i F hi).cw9<|b.ok F
theorem Inv.copied {l:List n9}{f:y2}{a:Int}{run:Bool}{t:Nat->Bool}(b:VV l)(h:Inv l f a run t):yM f=some f:=bv2 (by have:=h.len;have:=b.len;omega)<|h.cx0 b
theorem Zw {α R:Type}(l:List α)(c:l.length<=9223372036854775807)(f:Int->List α->Option (Fl (List α) R))(g:Nat->α->α)
  (h:∀(j:Nat)(s:List α)(d:j<s.length),s.length=l.length->s[j]?=l[j]?->f (j:Int) s=some (.next<|s.set j<|g j s[j])):J9 (l.length:Int) f l=some (.inl<|l.mapIdx g):=by obtain⟨s,k1,k2⟩:=sB (R:=R) l.length c f (λj s=>s.length=l.length/\(∀i,i<j->s[i]?=l[i]?.map (g i))/\∀i,j<=i->s[i]?=l[i]?) l ⟨rfl,λi h=>by omega,λi _=>rfl⟩ (λj d s ⟨h1,k,b⟩=>by
  have a:j<s.length:=by omega
  refine⟨_,h j s a h1<|b j<|cW6 _,by simp[h1],λi hi=>?_,λi hi=>?_⟩;rw[List.getElem?_set];by_cases e:j=i;subst e;rw[if_pos rfl,if_pos a];have:=b j<|cW6 _;rw[<-this,IN a];rfl;rw[if_neg e];exact k i F;rw[List.getElem?_set,if_neg F];exact b i F);rw[k1];congr 2;apply List.ext_getElem?;grind
def cf3 (x:A3):A3:=⟨sU .i64 x.C0 9,0,x.A0,x.Clean,x.k9,x.Frame,x.A6⟩
def bJ9 {c:n9}{x:A3}{a:Int}{e:Bool}(d:VU c)(h:Rt c x a e):Rt c (cf3 x) (a+1) false:=by obtain⟨b1,b2,f,b,h⟩:=h;have:=d.pass;have:=d.fail;have:=h.last;refine⟨false,b2,f,b,?_,?_,h.Qm,h.clean,h.occ,?_,h.frame,?_,h.k4,h.k16,h.k2,h.known,h.none⟩;show sU .i64 x.C0 9=_;rw[h.st,cJ9];show-c.Pass<=(0:Int)/\(0:Int)<=c.ru;omega;show 0<=x.A6/\x.A6<=a+1;omega;simp
theorem bJ8 {l:List n9}{f:y2}{c:Int}{t:Nat->Bool}(d:VV l)(h:Inv l f c false t)(h0:0<=c)(h1:c<1073741824):∃g,ML f=some (g,0)/\Inv l g (c+1) true λ_=>false:=by
 have m:=h.len;have n:=d.len;unfold ML Q;rw[Js d h h0 F λe=>by cases e];have e1:(f.jq==1073741824)=false:=by rw[h.MH];simp;omega
 rw[h.run,e1,h.copied d];simp only[oq,AT,cT8];rw[Zw f.L F Fw (λ_ x=>cf3 x) λj s k _ _=>by unfold Fw Q;rw[j2 _ _ k];simp only[oq];rw[D4 _ _ _ k];simp only[oq];rw[D4 _ _ _ gq];simp only[oq,dd2];rfl];refine⟨_,rfl,h.jP,?_,rfl,by simp[m],λi a b=>?_⟩;show H (f.jq+1)=_;rw[h.MH,b6 F F];simp only[List.getElem_mapIdx];exact bJ9 (d.ok a)<|h.rt i a F
def bT6 {l:List n9}(o:l.length<=9223372036854775807):(∃e,Oj l=some (⟨[],[],0,false⟩,e)/\e≠0)\/VV l/\∃f,Oj l=some (f,0)/\Inv l f 0 false λ_=>false:=by
 unfold Oj Q;cases d:decide<|(l.length:Int)>64;have d:l.length<=64:=by grind
 rw[MB l F];cases k:l.any λc=>!cfB c;obtain⟨b,m⟩:=aJ7 l F;rw[m];cases b;simp;right;have g:∀c∈l,cfB c=true:=λc j=>by grind
 have j:VV l:=⟨d,g,m⟩;refine⟨j,?_⟩;unfold CY Q;rw[MA l F,yf _ F];refine⟨_,rfl,rfl,rfl,rfl,by simp,λi a b=>?_⟩;have:=j.ok a;simp only[List.getElem_replicate];refine⟨false,false,false,false,rfl,?_,⟨dq,by decide⟩,?_,⟨dq,by decide⟩,⟨dq,by decide⟩,.inl rfl,λh=>(by cases h),⟨λh=>(by cases h),λh=>by cases h⟩,λh=>(by cases h),λh=>(by cases h),λh=>(by cases h),λ_=>⟨rfl,rfl,rfl,rfl,rfl⟩⟩;have h1:=this.pass;have n:=this.fail;grind;have h1:=this.cx3;have n:=this.age;grind;simp;simp
def am3 (c:n9)(a:Int)(fr:List Int)(x:A3):A3:=let y:A3:=bif !F5 .i64 x.C0 1==1then⟨x.C0,x.s6,x.A0,x.Clean,ba9 255<|H<|x.k9+1,bif !F5 .i64 x.C0 4==4then fr else x.Frame,x.A6⟩else x
 bif y.A6==a then⟨P2 .i64 y.C0 11,y.s6,y.A0,0,y.k9,y.Frame,y.A6⟩else bif decide<|ba9 2 (H<|y.A0+1)<2then⟨P2 .i64 y.C0 11,y.s6,ba9 2<|H<|y.A0+1,0,y.k9,y.Frame,a⟩else bif c.Rq then⟨P2 .i64 (P2 .i64 (P2 .i64 y.C0 11) 4) 16,y.s6,ba9 2<|H<|y.A0+1,0,y.k9,y.Frame,a⟩else⟨P2 .i64 (P2 .i64 y.C0 11) 4,y.s6,ba9 2<|H<|y.A0+1,0,y.k9,y.Frame,a⟩
theorem aL2 (s:List A3)(j:Nat)(d:j<s.length)(c:n9)(a:Int)(fr:List Int)(e:fr.length<=1073741824):GN s (j:Int) c a fr=some (s.set j<|am3 c a fr s[j]):=by
 have key:∀(s:List A3)(d:j<s.length),(tI (y3 s (j:Int)) λb=>tI (fQ s (j:Int) (⟨P2 .i64 b.C0 11,b.s6,b.A0,b.Clean,b.k9,b.Frame,b.A6⟩:A3)) λl4=>tI (fQ l4 (j:Int) (⟨P2 .i64 b.C0 11,b.s6,b.A0,0,b.k9,b.Frame,b.A6⟩:A3)) λf=>bif b.A6==a then some f else tI (fQ f (j:Int) (⟨P2 .i64 b.C0 11,b.s6,b.A0,0,b.k9,b.Frame,a⟩:A3)) λi=>tI (fQ i (j:Int) (⟨P2 .i64 b.C0 11,b.s6,ba9 2<|H<|b.A0+1,0,b.k9,b.Frame,a⟩:A3)) λg=>bif decide<|ba9 2 (H<|b.A0+1)<2then some g else tI (fQ g (j:Int) (⟨P2 .i64 (P2 .i64 b.C0 11) 4,b.s6,ba9 2<|H<|b.A0+1,0,b.k9,b.Frame,a⟩:A3)) λh=>bif c.Rq then tI (fQ h (j:Int) (⟨P2 .i64 (P2 .i64 (P2 .i64 b.C0 11) 4) 16,b.s6,ba9 2<|H<|b.A0+1,0,b.k9,b.Frame,a⟩:A3)) λk=>some k else some h)=some (s.set j<|bif s[j].A6==a then⟨P2 .i64 s[j].C0 11,s[j].s6,s[j].A0,0,s[j].k9,s[j].Frame,s[j].A6⟩else bif decide<|ba9 2 (H<|s[j].A0+1)<2then⟨P2 .i64 s[j].C0 11,s[j].s6,ba9 2<|H<|s[j].A0+1,0,s[j].k9,s[j].Frame,a⟩else bif c.Rq then⟨P2 .i64 (P2 .i64 (P2 .i64 s[j].C0 11) 4) 16,s[j].s6,ba9 2<|H<|s[j].A0+1,0,s[j].k9,s[j].Frame,a⟩else⟨P2 .i64 (P2 .i64 s[j].C0 11) 4,s[j].s6,ba9 2<|H<|s[j].A0+1,0,s[j].k9,s[j].Frame,a⟩):=by intro s d;rw[j2 _ _ d];simp only[oq];rw[D4 _ _ _ d];simp only[oq];rw[D4 _ _ _<|by simpa using d];simp only[oq,dd2];cases s[j].A6==a;simp only[cT8];rw[D4 _ _ _<|by simpa using d];simp only[oq,dd2];rw[D4 _ _ _<|by simpa using d];simp only[oq,dd2];cases decide<|ba9 2 (H<|s[j].A0+1)<2;simp only[cT8];rw[D4 _ _ _<|by simpa using d];simp only[oq,dd2];cases c.Rq;rfl;simp only[cT9];rw[D4 _ _ _<|by simpa using d];simp only[oq,dd2];rfl;rfl
 unfold GN Q;rw[j2 _ _ d];simp only[oq,Uc,Q];unfold am3;cases h1:F5 .i64 s[j].C0 1==1;simp only[cV8,cT9];rw[D4 _ _ _ d];simp only[oq];cases l:F5 .i64 s[j].C0 4==4;simp only[cV8,cT9,rq,Q];rw[MA fr e];simp only[oq];rw[D4 _ _ _<|by simpa using d];simp only[oq,dd2];rw[key _<|by simpa using d];simp only[cY0,dd2];simp only[AT,cT8,oq];rw[key _<|by simpa using d];simp only[cY0,dd2];simp only[AT,cT8,oq];rw[key _ d]
def ci7 {c:n9}{x:A3}{ic:Int}{u:Bool}{fr:List Int}(v:VU c)(h:Rt c x ic u)(p:Rp c fr)(h1:1<=ic):Rt c (am3 c ic fr x) ic true:=by
 obtain⟨b1,b2,l,e,h⟩:=h;have p3:=h.last;have I:=h.occ;have J:=h.Qm;have A:=v.age;have B:=v.cx3;have clean:0<=(0:Int)/\(0:Int)<=c.Age-1:=by omega
 have n1:(0:Int)<=1/\(1:Int)<=2:=by decide
 have w:(0:Int)<=2/\(2:Int)<=2:=by decide
 have C:(1:Int)<=1:=by decide
 have z:(1:Int)<=2:=by decide
 obtain⟨y,D,r,f,g,a,b,d,i⟩:∃y:A3,y=(bif !F5 .i64 x.C0 1==1then(⟨x.C0,x.s6,x.A0,x.Clean,ba9 255<|H<|x.k9+1,bif !F5 .i64 x.C0 4==4then fr else x.Frame,x.A6⟩:A3)else x)/\y.C0=PD b1 b2 l u e/\y.s6=x.s6/\y.A0=x.A0/\(1<=y.k9/\y.k9<=255)/\y.A6=x.A6/\(y.Frame=[]\/Rp c y.Frame)/\(y.Frame.length:Int)=c.Frame:=by refine⟨_,rfl,?_⟩;rw[h.st,cB1,cB2];cases m:b1;subst m;simp only[cV8,cT9];refine⟨trivial,trivial,trivial,?_,trivial,?_⟩;rw[b6 (n:=x.k9+1) F F];unfold ba9;split<;>omega;cases o:l;simp only[cV8,cT9];exact⟨.inr p,p.1⟩;subst o;simp only[AT,cT8];exact⟨h.frame,(h.known sq).2.2.2⟩;subst m;have k:=h.k1 rfl;have hk:=h.known (by rw[k.1];rfl);simp only[AT,cT8];exact⟨h.st,trivial,trivial,⟨hk.1,h.occ.2⟩,trivial,h.frame,hk.2.2.2⟩
 unfold am3;rw[<-D];simp only[r,aa6,bq6,aA2];cases j:y.A6==ic;have j:¬x.A6=ic:=by rw[b]at j;simpa using j
 have m:b1=false:=by cases q:b1;rfl;exact absurd (h.k1 q).2.2 j
 simp only[cT8];rw[g,b6 (n:=x.A0+1) F F];have E:ba9 2 (x.A0+1)=if x.A0=0 then 1 else 2:=by unfold ba9;split<;>split<;>omega
 rw[E];by_cases hz:x.A0=0;have o:l=false:=by cases q:l;rfl;have:=h.k4.1 q;omega
 subst o;rw[if_pos hz];simp only[show decide ((1:Int)<2)=true from rfl,cT9];exact⟨true,true,false,e,rfl,by rw[show(⟨_,y.s6,_,_,_,_,_⟩:A3).s6=x.s6 from f];exact h.count,n1,clean,⟨by have:=a.1;show 0<=y.k9;omega,a.2⟩,⟨by show 0<=ic;omega,QA _⟩,d,λ_=>⟨rfl,rfl,rfl⟩,⟨λh=>(by cases h),λh=>by cases h⟩,h.k16,λ_=>rfl,λ_=>⟨a.1,C,h1,i⟩,λh=>by cases h⟩;rw[if_neg hz];simp only[show decide ((2:Int)<2)=false from rfl,cT8];cases s:c.Rq;simp only[cT8];exact⟨true,true,true,e,rfl,by rw[show(⟨_,y.s6,_,_,_,_,_⟩:A3).s6=x.s6 from f];exact h.count,w,clean,⟨by have:=a.1;show 0<=y.k9;omega,a.2⟩,⟨by show 0<=ic;omega,QA _⟩,d,λ_=>⟨rfl,rfl,rfl⟩,⟨λ_=>rfl,λ_=>rfl⟩,λq=>⟨rfl,(h.k16 q).2⟩,λ_=>rfl,λ_=>⟨a.1,z,h1,i⟩,λh=>by cases h⟩;simp only[cT9];exact⟨true,true,true,true,rfl,by rw[show(⟨_,y.s6,_,_,_,_,_⟩:A3).s6=x.s6 from f];exact h.count,w,clean,⟨by have:=a.1;show 0<=y.k9;omega,a.2⟩,⟨by show 0<=ic;omega,QA _⟩,d,λ_=>⟨rfl,rfl,rfl⟩,⟨λ_=>rfl,λ_=>rfl⟩,λ_=>⟨rfl,s⟩,λ_=>rfl,λ_=>⟨a.1,z,h1,i⟩,λh=>by cases h⟩;have j:x.A6=ic:=by rw[b]at j;simpa using j
 simp only[cT9];have t:(b2||l)=true:=by cases hk:b2||l;have:=(h.none hk).2.2.2.1;omega;rfl
 have hk:=h.known t;exact⟨true,true,l,e,rfl,by rw[show(⟨_,y.s6,_,_,_,_,_⟩:A3).s6=x.s6 from f];exact h.count,by rw[show(⟨_,_,y.A0,_,_,_,_⟩:A3).A0=x.A0 from g];exact h.Qm,clean,⟨by have:=a.1;show 0<=y.k9;omega,a.2⟩,by rw[show(⟨_,_,_,_,_,_,y.A6⟩:A3).A6=x.A6 from b];exact h.last,d,λ_=>⟨rfl,rfl,b.trans j⟩,by rw[show(⟨_,_,y.A0,_,_,_,_⟩:A3).A0=x.A0 from g];exact h.k4,h.k16,λ_=>rfl,λ_=>⟨a.1,by rw[show(⟨_,_,y.A0,_,_,_,_⟩:A3).A0=x.A0 from g];exact hk.2.1,by rw[show(⟨_,_,_,_,_,_,y.A6⟩:A3).A6=x.A6 from b];omega,i⟩,λh=>by cases h⟩
def Fv (c:n9)(bad:Bool)(x:A3):A3:=⟨x.C0,bif bad then ba9 c.ru<|H (q9 x.s6 0+1)else q9 (H<|0-c.Pass)<|H<|ba9 x.s6 0-1,x.A0,x.Clean,x.k9,x.Frame,x.A6⟩
def aR5 (c:n9)(a:Int)(bad:Bool)(fr:List Int)(x:A3):A3:=let y:=Fv c bad x
 bif y.s6==c.ru then am3 c a fr y else bif y.s6==H (0-c.Pass)then⟨sU .i64 (P2 .i64 y.C0 8) 1,y.s6,y.A0,y.Clean,y.k9,y.Frame,y.A6⟩else y
def bN0 {c:n9}{x:A3}{a:Int}{b8:Bool}(bad:Bool)(d:VU c)(h:Rt c x a b8):Rt c (Fv c bad x) a b8:=by obtain⟨b1,b2,e,b,h⟩:=h;have p1:=h.count;have p2:=d.pass;have p3:=d.fail;refine⟨b1,b2,e,b,h.st,?_,h.Qm,h.clean,h.occ,h.last,h.frame,h.k1,h.k4,h.k16,h.k2,h.known,h.none⟩;show-c.Pass<=(bif bad then _ else _)/\(bif bad then _ else _)<=c.ru;have f:q9 x.s6 0=if 0>x.s6 then 0 else x.s6:=rfl;have g:ba9 x.s6 0=if 0<x.s6 then 0 else x.s6:=rfl;cases bad;simp only[cT8];grind [b6,q9];simp only[cT9];grind [b6,ba9]
def cA4 {c:n9}{x:A3}{a:Int}{g:Bool}{fr:List Int}(bad:Bool)(i:VU c)(h:Rt c x a g)(e:Rp c fr)(h1:1<=a):∃b,Rt c (aR5 c a bad fr x) a b/\(g=true->b=true):=by have d:=bN0 bad i h;unfold aR5;simp only;cases(Fv c bad x).s6==c.ru;simp only[cT8];cases(Fv c bad x).s6==H (0-c.Pass);grind;simp only[cT9];refine⟨true,?_,λ_=>rfl⟩;obtain⟨b1,b2,j,f,d⟩:=d;exact⟨false,b2,j,f,by show sU .i64 (P2 .i64 (Fv c bad x).C0 8) 1=_;rw[d.st,bZ2,cu2],d.count,d.Qm,d.clean,d.occ,d.last,d.frame,λh=>(by cases h),d.k4,d.k16,d.k2,d.known,d.none⟩;exact⟨true,ci7 i d e h1,λ_=>rfl⟩
def bB0 {l:List n9}{f:y2}{d:Int}{t:Nat->Bool}{q:Nat}{bad:Bool}{fr:List Int}(m:VV l)(h:Inv l f d true t)(h0:1<=d)(h1:d<=1073741824)(p:q<l.length)(k:Rp l[q] fr):∃r b,yJ f (q:Int) bad fr=some (r,0)/\Inv l r d true (λi=>if i=q then b else t i)/\(t q=true->b=true):=by
 have s:=h.len;have u:=m.len;have j:q<f.L.length:=by omega
 have n:q<f.G3.length:=by rw[h.jP];omega
 have e1:f.G3[q]=l[q]:=by simp[h.jP]
 have v:fr.length<=8:=by have:=k.1;have:=(m.ok p).frame;omega
 have g1:decide ((q:Int)<0)=false:=by simp
 have g2:decide ((q:Int)>=(f.L.length:Int))=false:=by simp;omega
 obtain⟨b,w,x⟩:=cA4 (fr:=fr) bad (m.ok p) (h.rt q p j) k h0;have g:∀y:A3,q<(f.L.set q y).length:=λy=>by grind
 have o:yJ f (q:Int) bad fr=some (⟨f.G3,f.L.set q<|aR5 l[q] d bad fr f.L[q],f.jq,f.dA⟩,0):=by
  unfold yJ;rw[Js m h F h1 λ_=>h0,g1,g2,h.run,j2 _ _ n,e1];simp only[oq,AT,aj3,cT8];rw[YA (m.ok p) k,h.copied m];simp only[oq,AT,aj3,cT8];rw[j2 _ _ j,j2 _ _ n,e1];simp only[oq];rw[D4 _ _ _ j,D4 _ _ _ j];simp only[oq];have e2:(bif bad then some<|f.L.set q ⟨f.L[q].C0,ba9 l[q].ru<|H<|q9 f.L[q].s6 0+1,f.L[q].A0,f.L[q].Clean,f.L[q].k9,f.L[q].Frame,f.L[q].A6⟩else some<|f.L.set q ⟨f.L[q].C0,q9 (H<|0-l[q].Pass)<|H<|ba9 f.L[q].s6 0-1,f.L[q].A0,f.L[q].Clean,f.L[q].k9,f.L[q].Frame,f.L[q].A6⟩)=some (f.L.set q<|Fv l[q] bad f.L[q]):=by unfold Fv;cases bad<;>rfl
  rw[e2];simp only[oq];rw[j2 _ _<|g _];simp only[oq,cY0];unfold aR5;simp only;cases(Fv l[q] bad f.L[q]).s6==l[q].ru;simp only[cT8];cases(Fv l[q] bad f.L[q]).s6==H (0-l[q].Pass);simp only[cT8];rw[h.run];simp only[cT9];rw[D4 _ _ _<|g _];simp only[oq,dd2];rw[D4 _ _ _<|g _];simp only[oq,dd2];rw[h.run];simp only[cT9];rw[aL2 _ _ (g _) _ _ _ F];simp only[oq,cY0,dd2];rw[h.run,h.MH]
 refine⟨_,b,o,⟨h.jP,h.MH,h.run,by simp[s],λi a c=>?_⟩,x⟩;simp only[List.getElem_set];by_cases hi:q=i;subst hi;simp only[if_true];exact w;rw[if_neg hi,if_neg λe=>hi e.symm];exact h.rt i a F
end Fr
end Go.Pv
namespace Go.Pv.Fr
open Go Go.Pv
def aR6 {l:List n9}{f:y2}{a:Int}{t:Nat->Bool}{q:Nat}{bad:Bool}{fr:List Int}(d:VV l)(h:Inv l f a true t)(h0:1<=a)(h1:a<=1073741824)(i:q<l.length)(c:q<f.L.length)(e:Rp l[q] fr):yJ f (q:Int) bad fr=some (⟨f.G3,f.L.set q<|aR5 l[q] a bad fr f.L[q],f.jq,f.dA⟩,0):=by
 have m:=h.len;have j:=d.len;have g:q<f.G3.length:=by rw[h.jP];omega
 have e1:f.G3[q]=l[q]:=by simp[h.jP]
 have k:fr.length<=8:=by have:=e.1;have:=(d.ok i).frame;omega
 have g1:decide ((q:Int)<0)=false:=by simp
 have g2:decide ((q:Int)>=(f.L.length:Int))=false:=by simp;omega
 have b:∀y:A3,q<(f.L.set q y).length:=λy=>by grind
 unfold yJ;rw[Js d h F h1 λ_=>h0,g1,g2,h.run,j2 _ _ g,e1];simp only[oq,AT,aj3,cT8];rw[YA (d.ok i) e,h.copied d];simp only[oq,AT,aj3,cT8];rw[j2 _ _ c,j2 _ _ g,e1];simp only[oq];rw[D4 _ _ _ c,D4 _ _ _ c];simp only[oq];have e2:(bif bad then some<|f.L.set q ⟨f.L[q].C0,ba9 l[q].ru<|H<|q9 f.L[q].s6 0+1,f.L[q].A0,f.L[q].Clean,f.L[q].k9,f.L[q].Frame,f.L[q].A6⟩else some<|f.L.set q ⟨f.L[q].C0,q9 (H<|0-l[q].Pass)<|H<|ba9 f.L[q].s6 0-1,f.L[q].A0,f.L[q].Clean,f.L[q].k9,f.L[q].Frame,f.L[q].A6⟩)=some (f.L.set q<|Fv l[q] bad f.L[q]):=by grind [Fv]
 rw[e2];simp only[oq];rw[j2 _ _<|b _];simp only[oq,cY0];unfold aR5;simp only;cases(Fv l[q] bad f.L[q]).s6==l[q].ru;simp only[cT8];cases(Fv l[q] bad f.L[q]).s6==H (0-l[q].Pass);simp only[cT8];rw[h.run];simp only[cT9];rw[D4 _ _ _<|b _];simp only[oq,dd2];rw[D4 _ _ _<|b _];simp only[oq,dd2];rw[h.run];simp only[cT9];rw[aL2 _ _ (b _) _ _ _ F];simp only[oq,cY0,dd2];rw[h.run,h.MH]
theorem cK0 (a b c d e:Bool):P2 .i64 (PD a b c d e) 1=PD true b c d e:=by cases a<;>cases b<;>cases c<;>cases d<;>cases e<;>rfl
theorem bq5 (a b c d e:Bool):P2 .i64 (PD a b c d e) 2=PD a true c d e:=by cases a<;>cases b<;>cases c<;>cases d<;>cases e<;>rfl
theorem cu1 (a b c d e:Bool):(F5 .i64 (PD a b c d e) 1!=0)=a:=by cases a<;>cases b<;>cases c<;>cases d<;>cases e<;>rfl
theorem cJ8 (a b c d e:Bool):(F5 .i64 (PD a b c d e) 4!=0)=c:=by cases a<;>cases b<;>cases c<;>cases d<;>cases e<;>rfl
theorem cK1 (b c d e:Bool):H (PD true b c d e-1)=PD false b c d e:=by cases b<;>cases c<;>cases d<;>cases e<;>rfl
end Go.Pv.Fr
namespace Go.Proofs.YtlbfdimlomockaaGreat.Ec
open Go Go.Pv Go.Proofs
theorem VM {α R:Type}{f:Int->α->Unit->Option (Fl Unit R)}{g:α->Option R}:∀(l:List α)(i:Int),(∀i,∀x∈l,f i x ()=some (match g x with|some r=>.ret r|none=>.next ()))->F0 f l i ()=some (match l.findSome? g with|some r=>.inr r|none=>.inl ())|[],_,_=>rfl|x::l,i,h=>by simp only[F0];rw[h i x<|cV7 ..,List.findSome?_cons];cases b:g x with|some r=>rfl|none=>exact VM l (i+1) λi y a=>h i y<|cV3 _ a
def Ov {α R:Type}{l:List α}{mb:Int->Option (Int⊕Int⊕R)}{g:α->Option R}(h:∀(i:Nat)(hi:i<l.length),mb (i:Int)=some (match g l[i]with|some r=>.inr<|.inr r|none=>.inl ((i+1:Nat):Int)))(j:mb (l.length:Int)=some (.inr<|.inl (l.length:Int))):o3 mb 0=some (match l.findSome? g with|some r=>.inr r|none=>.inl (l.length:Int)):=by
 have key:∀(m:List α)(i:Nat),l.drop i=m->i<=l.length->o3 mb (i:Int)=some (match m.findSome? g with|some r=>.inr r|none=>.inl (l.length:Int)):=by intro m;induction m with
  |nil=>
   intro i a hi;have:i=l.length:=by have:=congrArg cO3 a;grind
   grind [j3]|cons x m d=>
   intro i a hi;have b:i<l.length:=by have:=congrArg cO3 a;simp at this;omega
   have hx:l[i]=x:=by rw[bw1 b]at a;exact(List.cons.inj a).1
   have f:l.drop (i+1)=m:=by rw[bw1 b]at a;exact(List.cons.inj a).2
   have e:=h i b;rw[hx]at e;rw[List.findSome?_cons];cases c:g x with|some r=>rw[c]at e;exact j3 e|none=>rw[c]at e;rw[j7 e];exact d (i+1) f F
 grind
def aA6 {S T B C:Type}{f:S->Option (S⊕B)}{g:T->Option (T⊕C)}(n:Nat)(I:Nat->S->T->Prop)(J:B->C->Prop)(s:S)(t:T)(h0:I 0 s t)(h:∀k s t,k<n->I k s t->∃s' a,f s=some (.inl s')/\g t=some (.inl a)/\I (k+1) s' a)(d:∀s t,I n s t->∃b c,f s=some (.inr b)/\g t=some (.inr c)/\J b c):∃b c,o3 f s=some b/\o3 g t=some c/\J b c:=by
 have key:∀(m k:Nat)s t,k+m=n->I k s t->∃b c,o3 f s=some b/\o3 g t=some c/\J b c:=by intro m;induction m with|zero=>grind [j3]|succ m e=>grind [j7]
 exact key n 0 s t F h0
structure SOk (s:k8):Prop where
 Ah:s.k.length<=100
 val:∀b∈s.k,-1000000<=b.Value/\b.Value<=1000000
 ped:0<=s.d.B6/\s.d.B6<=1000
 pre:50<=s.u.o6.z6/\s.u.o6.z6<=1013
 t:0<=s.t/\s.t<=1099511627776
 La:0<=s.c8/\s.c8<=12000
def aZ3 (t n:Int)(b:H5):Option<|Int×Bool:=bif b.Ay==n&&(decide (b.Tp<=t)&&decide (t<b.To))then some (b.Value,true)else none
def Qg (k:List H5)(t n:Int):Int×Bool:=(k.findSome?<|aZ3 t n).getD (0,false)
def cg9 {k:List H5}(h:∀b∈k,-1000000<=b.Value/\b.Value<=1000000)(t n:Int):-1000000<=(Qg k t n).1/\(Qg k t n).1<=1000000:=by unfold Qg;cases e:k.findSome? (aZ3 t n)with|none=>simp|some r=>obtain⟨b,a,c⟩:=List.exists_of_findSome?_eq_some e;grind [aZ3]
theorem Qh {s:k8}(a:s.k.length<=100)(n:Int):(eK s n).m=some (Qg s.k s.t n):=by simp only[eK,C.of,M.run];have e:=B5 s.k F (λi x (u:Unit)=>(rQ s n i x u).run) ();rw[VM (g:=aZ3 s.t n) s.k 0 λi x _=>by simp only[rQ,M.run,aZ3];grind]at e;refine C2 e ?_;grind [Qg]
theorem NH {k:List H5}(hk:k.length<=100)(t n:Int):(P7 k n t).m=some (Qg k t n):=by simp only[P7,C.of,M.run];have e:=Ov (l:=k) (mb:=λx=>(dO k n t x).run) (g:=aZ3 t n) λi hi=>by simp only[dO,M.run,L1.m,aZ3];rw[cU0 F,j2 _ _ hi,b6 F F];grind (by simp[dO,M.run]);refine C2 e ?_;grind [Qg]
def Au (k:List H5)(t n x:Int):Int:=bif (Qg k t n).2 then(Qg k t n).1 else x
def aA7 (p:U8):Int:=match p.Path with|[]=>100|x::_=>if x<1000 then 800 else 100
def ba3 (t:Int):Int:=ba9 90<|H<|20+H (bQ2 t 1000000)
def cA3 {k:List H5}(h:∀b∈k,-1000000<=b.Value/\b.Value<=1000000)(t n:Int){x:Int}(hx:-1000000<=x/\x<=1000000):-1000000<=Au k t n x/\Au k t n x<=1000000:=by have:=cg9 h t n;grind [Au]
structure Reads (s:k8):Prop where r0:(z7 s 0).m=some (Au s.k s.t 0 s.d.B6)r1:(z7 s 1).m=some (Au s.k s.t 1<|H<|bQ2 s.d.B6 2)r2:(z7 s 2).m=some (Au s.k s.t 2 s.u.o6.z6)r3:(z7 s 3).m=some (Au s.k s.t 3 20)r4:(z7 s 4).m=some (Au s.k s.t 4<|ba3 s.t)r5:(z7 s 5).m=some (Au s.k s.t 5<|aA7 s.u.o6)
def sD {s:k8}(a:s.k.length<=100):Reads s:=by
 have b:(FJ s.u.o6).m=some (s.u.o6.Path.headD 1000):=by simp only[FJ,C.of,M.run,L1.m];cases s.u.o6.Path<;>rfl
 have c:(bif decide<|s.u.o6.Path.headD 1000<1000then some (800:Int)else some 100)=some (aA7 s.u.o6):=by unfold aA7;grind
 have m:ba9 (H<|20+H (bQ2 s.t 1000000)) 90=ba3 s.t:=by grind [ba3,ba9]
 constructor<;>simp only[z7,C.of,M.run,Qh a,b,c,m,oq,Au];all_goals grind
def bg2 {u:Z6}{k:List H5}(hk:k.length<=100)(a b c d e f:Int):o3 (λx=>(gP u k x).run) (0,[a,b,c,d,e,f])=some (.inl (6,[Au k u.Time 0 a,Au k u.Time 1 b,Au k u.Time 2 c,Au k u.Time 3 d,Au k u.Time 4 e,Au k u.Time 5 f])):=by
 have st:∀(i:Nat)(r:List Int)(hi:i<r.length),r.length=6->(gP u k ((i:Int),r)).run=some (.inl (((i+1:Nat):Int),r.set i<|Au k u.Time i r[i])):=λi r hi g=>by simp only[gP,M.run,L1.m,U1.m,NH hk];rw[cU0 F,b6 F F,j2 _ _ hi];unfold Au;simp only[cT9,oq];cases(Qg k u.Time i).2;simp;simp only[cT9];grind [D4]
 rw[j7<|st 0 _ sq rfl,j7<|st 1 _ sq rfl,j7<|st 2 _ sq rfl,j7<|st 3 _ sq rfl,j7<|st 4 _ sq rfl,j7<|st 5 _ sq rfl];exact j3 rfl
theorem aP5 (x a b:Int):(vd x a b).m=some !(decide (x>=a)&&decide (x<=b)):=by
 have:(decide (x<a)||decide (x>b))=!(decide (x>=a)&&decide (x<=b)):=by grind
 exact congrArg some this
theorem bp5 (x a b:Int):(F2 x a b).m=some (decide (x>=a)&&decide (x<=b)):=rfl
def ce6 (a b:Int):Int:=H<|ba9 (q9 a 0) 1000-H (2*ba9 (q9 b 0) 500)
def Ly (u:Z6)(d:D5)(k:List H5)(t:Int):Bool×Bool×Bool×Bool×Bool×Bool×Bool:=(decide (ce6 (Au k t 0 d.B6) (Au k t 1<|H<|bQ2 d.B6 2)>50)||decide (ce6 (Au k t 0 d.B6) (Au k t 1<|H<|bQ2 d.B6 2)< -50),!(decide (Au k t 2 u.o6.z6>=50)&&decide (Au k t 2 u.o6.z6<=1013)),!(decide (Au k t 3 20>=-40)&&decide (Au k t 3 20<=150)),!(decide (Au k t 4 (ba3 t)>=-40)&&decide (Au k t 4 (ba3 t)<=150)),!(decide (Au k t 5 (aA7 u.o6)>=50)&&decide (Au k t 5 (aA7 u.o6)<=900)),u.dT.ET,u.aS.ET)
theorem cf2 {s:k8}(c:s.k.length<=100):(FG s).m=some (Ly s.u s.d s.k s.t):=by obtain⟨h0,h1,e,f,g,h⟩:=sD c;simp only[FG,C.of,M.run,h0,h1,e,f,g,h,aP5,EX,oq];unfold Ly ce6;have c1:=uU (Au s.k s.t 0 s.d.B6) 0 1000 F;have c2:=uU (Au s.k s.t 1<|H<|bQ2 s.d.B6 2) 0 500 F;generalize ba9 (q9 (Au s.k s.t 0 s.d.B6) 0) 1000=a at c1;generalize ba9 (q9 (Au s.k s.t 1<|H<|bQ2 s.d.B6 2) 0) 500=b at c2;rw[b6 (n:=2*b) F F,b6 (n:=a-2*b) F F,b6 (n:=2*b-a) F F];congr 2;rw[zc,bh7,dg1,dg1,dg1];grind [q9]
def bQ3 {c:n9}(d:Fr.VU c){a b:Int}(e:-1000000<=a/\a<=1000000)(f:-1000000<=b/\b<=1000000):∃l,CT c.Frame (0:Int)=some l/\(rZ c a b).m=some (lN l [a,b])/\Fr.Rp c (lN l [a,b]):=by
 have h:=d.frame;refine⟨cI5 c.Frame.toNat 0,by unfold CT;grind,?_,?_,λx hx=>?_⟩;simp only[rZ,C.of,M.run,U1.m];have:c.Frame=0\/c.Frame=1\/c.Frame=2\/c.Frame=3\/c.Frame=4\/c.Frame=5\/c.Frame=6\/c.Frame=7\/c.Frame=8:=by omega
 rcases this with h|h|h|h|h|h|h|h|h<;>rw[h]<;>rfl;grind [lN];unfold lN at hx;rcases bX2.1 hx with h1|h1;have:=cL4 h1;simp only[cV6,cC1,or_false]at this;rcases this with rfl|rfl<;>omega;have:=List.eq_of_mem_replicate<|List.mem_of_mem_drop h1;omega
theorem aS6 {c:n9}{x:A3}{MH:Int}{p:Bool}(e:Fr.VU c)(h:Fr.Rt c x MH p)(bad:Bool){fr:List Int}(r:fr.length<=1000):(pX c x MH bad fr).m=some (Fr.aR5 c MH bad fr x):=by
 obtain⟨b1,b2,l,f,h⟩:=h;have p1:=h.count;have p2:=e.pass;have p3:=e.fail;have p4:=h.occ;have p5:=h.Qm;have w0:H (0-c.Pass)=0-c.Pass:=b6 F F;have s:H (x.k9+1)=x.k9+1:=b6 F F;have o:H (x.A0+1)=x.A0+1:=b6 F F;have e1:(bif bad then(bif decide<|x.s6<0then some 0 else some x.s6).bind λt=>bif decide (t<c.ru)then some<|H (t+1)else some t else(bif decide<|x.s6>0then some 0 else some x.s6).bind λt=>bif decide<|t>H (0-c.Pass)then some<|H (t-1)else some t)=some (Fr.Fv c bad x).s6:=by
  unfold Fr.Fv;rw[w0];cases bad
  ·simp only[cT8];by_cases q:x.s6>0;·rw[cU0 q,show ba9 x.s6 0=0 from cy8 q];simp only[cT9,oq];rw[cU0<|show(0:Int)>0-c.Pass by omega,cT9,b6 (n:=(0:Int)-1) F F];grind [q9]
   ·rw[cU1 q,show ba9 x.s6 0=x.s6 from bd3 F];simp only[cT8,oq];rw[b6 (n:=x.s6-1) F F];unfold q9;grind
  ·simp only[cT9];by_cases q:x.s6<0;·rw[cU0 q,show q9 x.s6 0=0 by simp_all[q9]];simp only[cT9,oq];rw[cU0<|show(0:Int)<c.ru by omega,cT9,b6 (n:=(0:Int)+1) F F];grind [ba9]
   ·rw[cU1 q,show q9 x.s6 0=x.s6 by simp_all[q9,if_neg]];simp only[cT8,oq];rw[b6 (n:=x.s6+1) F F];unfold ba9;grind
 have g:(Fr.Fv c bad x).s6>=-c.Pass:=by obtain⟨_,_,_,_,k⟩:=Fr.bN0 bad e ⟨b1,b2,l,f,h⟩;exact k.count.1
 simp only[pX,C.of,M.run,e1,oq];unfold Fr.aR5;simp only;rw[show(⟨x.C0,(Fr.Fv c bad x).s6,x.A0,x.Clean,x.k9,x.Frame,x.A6⟩:A3)=Fr.Fv c bad x from rfl];have ys:(Fr.Fv c bad x).C0=x.C0:=rfl;have a:(Fr.Fv c bad x).A0=x.A0:=rfl;have b:(Fr.Fv c bad x).k9=x.k9:=rfl;have yl:(Fr.Fv c bad x).A6=x.A6:=rfl;generalize Fr.Fv c bad x=y at g ys a b yl|-;rw[w0];by_cases k1:y.s6=0-c.Pass
 ·rw[show(y.s6==0-c.Pass)=true by simpa using k1,bf<|show¬y.s6=c.ru by omega];simp only[cT9,cT8,S1,M9,C.of,M.run,oq,ys,a,b,yl,h.st,Fr.bZ2,Fr.cu1,Fr.cu2];cases b1;·rfl
  ·simp only[cT9,Fr.cK1];rfl
 ·rw[bf k1];by_cases k2:y.s6=c.ru
  ·rw[show(y.s6==c.ru)=true by simpa using k2,show(y.s6 !=c.ru)=false by simpa using k2];have u:(bif decide<|x.k9<255then some<|H (x.k9+1)else some x.k9)=some (ba9 255<|H<|x.k9+1):=by
    rw[s];unfold ba9;by_cases q:x.k9<255;·rw[cU0 q];split<;>first|rfl|show some _=some _;congr 1;omega
    ·rw[cU1 q];split<;>first|rfl|show some _=some _;congr 1;omega
   have i:(bif decide<|x.A0<2then some<|H (x.A0+1)else some x.A0)=some (ba9 2<|H<|x.A0+1):=by
    rw[o];unfold ba9;by_cases q:x.A0<2;·rw[cU0 q];split<;>first|rfl|show some _=some _;congr 1;omega
    ·rw[cU1 q];split<;>first|rfl|show some _=some _;congr 1;omega
   have j:decide (ba9 2 (H<|x.A0+1)<2)=!ba9 2 (H<|x.A0+1)==2:=by rw[zc,o];simp;unfold ba9;split<;>omega
   have ap:G2 ([]:List Int) fr=some fr:=by rw[l5 _ _<|by simp;omega];rfl
   have d:(x.A6 !=MH)=!x.A6==MH:=rfl;unfold Fr.am3;simp only[cT9,cT8,S1,wQ,C.of,M.run,U1.m,oq,ys,a,b,yl,h.st,Fr.bZ2,Fr.cK0,Fr.bq5,Fr.cu1,Fr.cJ8,Fr.cB1,Fr.cB2,Fr.aa6,Fr.bq6,Fr.aA2,u,i,j,ap,d];cases b1<;>cases l<;>simp only[AT,cV8,cT9,cT8,oq,ys,a,b,yl,h.st,Fr.bq5,Fr.aa6,i,j,d]<;>cases x.A6==MH<;>simp only[AT,cV8,cT9,cT8,oq,ys,a,b,yl,Fr.bq5,Fr.bq6,Fr.aA2,Fr.aa6,i,j]<;>cases ba9 2 (H<|x.A0+1)==2<;>cases c.Rq<;>first|rfl|simp only[AT,cV8,cT9,cT8,oq,Fr.bq5,Fr.bq6,Fr.aA2,Fr.aa6]<;>rfl
  ·rw[bf k2,bnt k2];rfl
theorem cH7 (o:y2):(GW o).m=some o:=rfl
theorem cy0 (n:y2)(e:Int)(o:y2):(ud n e o).m=some (bif e !=0 then o else n):=by simp only[ud,C.of,M.run];grind
def bD2 {s:k8}(j:SOk s){l:List n9}{MH:Int}{t:Nat->Bool}(o:Fr.VV l)(O:7<=l.length)(h:Fr.Inv l s.u.B9 MH true t)(h0:1<=MH)(h1:MH<=1073741824)(v:Bool×Bool×Bool×Bool×Bool×Bool×Bool){u:Z6}(a:List Int)(C:y3 a 2=some (Au s.k s.t 2 s.u.o6.z6))(i:Int):∃f t',o3 (λx=>(nU s v x).run) (0,s.u.B9)=some (.inl (7,f))/\o3 (λx=>(bz (i,a) s.c8 [v.1,v.2.1,v.2.2.1,v.2.2.2.1,v.2.2.2.2.1,v.2.2.2.2.2.1,v.2.2.2.2.2.2] s.u.B9 x).run) (0,s.u.B9.L)=some (.inl (7,f.L))/\Fr.Inv l f MH true t':=by obtain⟨b,c,e1,e2,f,t',p,q,hi⟩:=aA6 (f:=λx=>(nU s v x).run) (g:=λx=>(bz (i,a) s.c8 [v.1,v.2.1,v.2.2.1,v.2.2.2.1,v.2.2.2.2.1,v.2.2.2.2.2.1,v.2.2.2.2.2.2] s.u.B9 x).run) 7 (λk x y=>∃f t,x=((k:Int),f)/\y=((k:Int),f.L)/\Fr.Inv l f MH true t) (λb c=>∃f t,b=.inl (7,f)/\c=.inl (7,f.L)/\Fr.Inv l f MH true t) (0,s.u.B9) (0,s.u.B9.L) ⟨s.u.B9,t,rfl,rfl,h⟩ (λk x y hk ⟨f,t,hx,r,hi⟩=>by
   subst hx r;have B:k<[v.1,v.2.1,v.2.2.1,v.2.2.2.1,v.2.2.2.2.1,v.2.2.2.2.2.1,v.2.2.2.2.2.2].length:=by simp only[cU9,cX0];omega
   have d:k<f.L.length:=by have:=hi.len;omega
   have e:=o.ok (show k<l.length by omega);have D:=j.La;have E:=j.pre;obtain⟨fr,I,J,w⟩:=bQ3 e (a:=s.c8) (b:=Au s.k s.t 2 s.u.o6.z6) F<|cA3 j.val _ _ F;have z:(lN fr [s.c8,Au s.k s.t 2 s.u.o6.z6]).length<=1000:=by have:=w.1;have:=e.frame;omega
   have q:=Fr.aR6 (bad:=[v.1,v.2.1,v.2.2.1,v.2.2.2.1,v.2.2.2.2.1,v.2.2.2.2.2.1,v.2.2.2.2.2.2][k]) o hi h0 h1 (show k<l.length by omega) d w;obtain⟨n,b,p,K,_⟩:=Fr.bB0 (bad:=[v.1,v.2.1,v.2.2.1,v.2.2.2.1,v.2.2.2.2.1,v.2.2.2.2.2.1,v.2.2.2.2.2.2][k]) o hi h0 h1 (show k<l.length by omega) w;rw[p]at q;have N:n=_:=(Prod.mk.inj<|oa q).1;have A:=hi.rt k F d;have rd:=(sD (s:={s with u.B9:=f}) j.Ah).r2;refine⟨((k+1:Nat),n),((k+1:Nat),n.L),?_,?_,n,_,rfl,rfl,K⟩;simp only[nU,M.run,L1.m,U1.m];rw[cU0<|show((k:Nat):Int)<7 by omega,j2 _ _ B,hi.jP,j2 _ _<|show k<l.length by omega];simp only[cT9,oq,I];rw[rd];simp only[oq,cH7,Wf];rw[p];simp only[oq,cy0];rw[b6 F F];rfl;simp only[bz,M.run,L1.m,U1.m];rw[cU0<|show((k:Nat):Int)<7 by omega,j2 _ _ B,h.jP,j2 _ _<|show k<l.length by omega,j2 _ _ d];simp only[cT9,oq,C,J];rw[h.MH,aS6 e A _ z];simp only[oq];rw[D4 _ _ _ d,b6 F F,N];rfl) (λx y ⟨f,t,hx,r,hi⟩=>by subst hx r;exact⟨.inl (7,f),.inl (7,f.L),rfl,rfl,f,t,rfl,rfl,hi⟩);grind
def OB {α S R T C:Type}(l:List α)(m:l.length<=1000000000)(f:Int->α->S->Option (Fl S R)){g:T->Option (T⊕C)}(I:Nat->S->T->Prop)(J:S->C->Prop)(s:S)(t:T)(h0:I 0 s t)(h:∀k (hk:k<l.length)s t,I k s t->∃s' a,f (k:Int) l[k] s=some (.next s')/\g t=some (.inl a)/\I (k+1) s' a)(i:∀s t,I l.length s t->∃c,g t=some (.inr c)/\J s c):∃s' c,o3 (λp:Int×S=>bif decide<|p.1<(l.length:Int)then(y3 l p.1).bind λx=>(f p.1 x p.2).bind<|iH p.1else some<|.inr<|.inl p.2) (0,s)=some (.inl s')/\o3 g t=some c/\J s' c:=by obtain⟨b,c,e1,e2,s',rfl,j⟩:=aA6 (f:=λp:Int×S=>bif decide<|p.1<(l.length:Int)then(y3 l p.1).bind λx=>(f p.1 x p.2).bind<|iH p.1else some<|.inr<|.inl p.2) (g:=g) l.length (λk x y=>∃s,x=((k:Int),s)/\I k s y) (λb c=>∃s,b=(.inl s:S⊕R)/\J s c) (0,s) t ⟨s,rfl,h0⟩ λk x y hk ⟨s,hx,hi⟩=>by subst hx;obtain⟨s',a,e1,e2,d⟩:=h k hk s y hi;refine⟨(((k+1:Nat):Int),s'),a,?_,e2,s',rfl,d⟩;simp only;rw[cU0 F,j2 _ _ hk];simp only[cT9,oq,e1,iH];first|rfl|rw[b6 F F];rfl (λx y ⟨s,hx,hi⟩=>by subst hx;obtain⟨c,e,j⟩:=i s y hi;refine⟨.inl s,c,?_,e,s,rfl,j⟩;simp only;rw[cU1 F];rfl);grind
def KU {S R T C:Type}(n:Nat)(l:n<=1000000000)(f:Int->S->Option (Fl S R)){g:T->Option (T⊕C)}(I:Nat->S->T->Prop)(J:S->C->Prop)(s:S)(t:T)(h0:I 0 s t)(h:∀k (_:k<n)s t,I k s t->∃s' a,f (k:Int) s=some (.next s')/\g t=some (.inl a)/\I (k+1) s' a)(i:∀s t,I n s t->∃c,g t=some (.inr c)/\J s c):∃s' c,o3 (λp:Int×S=>bif decide<|p.1<(n:Int)then(f p.1 p.2).bind<|iH p.1else some<|.inr<|.inl p.2) (0,s)=some (.inl s')/\o3 g t=some c/\J s' c:=by obtain⟨b,c,e1,e2,s',rfl,j⟩:=aA6 (f:=λp:Int×S=>bif decide<|p.1<(n:Int)then(f p.1 p.2).bind<|iH p.1else some<|.inr<|.inl p.2) (g:=g) n (λk x y=>∃s,x=((k:Int),s)/\I k s y) (λb c=>∃s,b=(.inl s:S⊕R)/\J s c) (0,s) t ⟨s,rfl,h0⟩ λk x y hk ⟨s,hx,hi⟩=>by subst hx;obtain⟨s',a,e1,e2,d⟩:=h k hk s y hi;refine⟨(((k+1:Nat):Int),s'),a,?_,e2,s',rfl,d⟩;simp only;rw[cU0 F];simp only[cT9,oq,e1,iH];first|rfl|rw[b6 F F];rfl (λx y ⟨s,hx,hi⟩=>by subst hx;obtain⟨c,e,j⟩:=i s y hi;refine⟨.inl s,c,?_,e,s,rfl,j⟩;simp only;rw[cU1 F];rfl);grind
def VG {S R:Type}(n:Nat)(a:n<=1000000000)(f:Int->S->Option (Fl S R))(I:Nat->S->Prop)(s:S)(h0:I 0 s)(h:∀k s,k<n->I k s->∃s',f (k:Int) s=some (.next s')/\I (k+1) s'):∃s',o3 (λp:Int×S=>bif decide<|p.1<(n:Int)then(f p.1 p.2).bind<|iH p.1else some<|.inr<|.inl p.2) (0,s)=some (.inl s')/\I n s':=by obtain⟨s',c,e,_,j⟩:=KU (C:=Unit) n a f (g:=λk:Nat=>if k<n then some<|.inl (k+1)else some<|.inr ()) (λk s t=>t=k/\I k s) (λs _=>I n s) s 0 ⟨rfl,h0⟩ λk hk s t ⟨ht,hi⟩=>by grind λs t ⟨ht,hi⟩=>⟨(),by grind,hi⟩;grind
def R0:List K0:=(Dn).m.getD []
theorem ai6:(Dn).m=some R0:=rfl
def ZQ:(vn).m=some R0:=rfl
theorem bH2:R0.length=7:=rfl
def bs1:(R0.all λr=>decide (r.M7.length<=16)&&r.M7.all λc=>decide (0<=c)&&decide (c<7))=true:=by kernel_rfl
def bs2:(R0.all λr=>decide (-5000<=r.Ph)&&decide (r.Ph<=10000))=true:=by kernel_rfl
theorem aE4 {n:Nat}(b:7<=n)(a:n<=64):(hY R0 (n:Int)).m=some true:=by
 have h:(MY 58).all λi=>(hY R0 ((i+7:Nat):Int)).e 1000==some true=true:=by kernel_rfl
 have:=cV2.1 h (n-7)<|cD9.2 F;rw[show n-7+7=n by omega,beq_iff_eq]at this;exact(hY R0 (n:Int)).le 1000 _ this
def aX2 {α:Type}{l:List α}{p q:α->Bool}(h:(l.all λr=>p r&&q r)=true){x:α}(hx:x∈l):p x=true/\q x=true:=by grind
def aZ7 {r:K0}{f:y2}(d:r.M7.length<=16)(e:∀c∈r.M7,0<=c/\c<(f.L.length:Int))(a:Cl Tryz.prog Int Bool (λx=>[.t<|Y x]) λr=>.t<|tB r)(b:∀c,a.f c=(gj c (-1) f).m):∃o,(zk r a).m=some o/\(nf r f).m=some o/\o.length<=16:=by simp only[zk,nf,C.of,M.run];obtain⟨o,c,h1,q,j,rfl,u⟩:=OB r.M7 F (λi x (o:List Int)=>(sa a i x o).run) (g:=λx=>(bw r f x).run) (λk s t=>t=(s,(k:Int))/\s.length<=k) (λs c=>∃j,c=.inl (s,j)/\s.length<=16) [] ([],0) ⟨rfl,cW6 _⟩ (λk hk s t ⟨ht,h⟩=>by
  subst ht;have v:=e _<|al8 hk;have l:r.M7[k].toNat<f.L.length:=by omega
  have p:y3 f.L r.M7[k]=some f.L[r.M7[k].toNat]:=by grind [j2]
  have ap:=l5 s [r.M7[k]] (by simp;omega);simp only[sa,bw,gj,C.of,M.run,U1.m,L1.m,Cl.at,b];rw[cU0<|show(k:Int)<(r.M7.length:Int)by omega,j2 _ _ hk,show(r.M7[k]!=-1)=true by simp;omega];simp only[cT9,oq,p,b6 (n:=(k:Int)+1) F F];grind) (λs t ⟨ht,h⟩=>by subst ht;simp only[bw,M.run];grind);grind
def aX0 {f:y2}(p:(dD f).m=some true)(q:7<=f.L.length)(b:f.L.length<=64):∃a,(zj R0 f).m=some (a,0)/\(cQ R0 f).m=some a/\a.length<=7/\∀x∈a,(0<=x.I8/\x.I8<7)/\x.M7.length<=16:=by simp only[zj,IU,Hg,FK,cQ,C.of,M.run,p,aE4 q b,oq,cT9,AT,cT8];obtain⟨o,c,h1,y,j,rfl,z⟩:=KU R0.length (by rw[bH2];omega) (λi (o:List K1)=>(pZ R0 (.of (λd=>gj d (-1) f) 495 [Pv.encI<|-1,nE f]) i o).run) (g:=λx=>(dM R0 f x).run) (λk s t=>t=(s,(k:Int))/\s.length<=k/\∀x∈s,(0<=x.I8/\x.I8<7)/\x.M7.length<=16) (λs c=>∃j,c=.inl (s,j)/\s.length<=7/\∀x∈s,(0<=x.I8/\x.I8<7)/\x.M7.length<=16) [] ([],0) ⟨rfl,cW6 _,by simp⟩ λk hk s t ⟨ht,e,hx⟩=>by subst ht;have r:k<7:=hk;have h:=aX2 bs1<|al8 hk;rw[dg1]at h;obtain⟨v,u,w,l⟩:=aZ7 (f:=f) h.1 λc A=>by grind (.of (λd=>gj d (-1) f) 495 [Pv.encI<|-1,nE f]) λ_=>rfl;have ap:=l5 s [(⟨(k:Int),v⟩:K1)] (by simp;omega);simp only[pZ,dM,M.run,L1.m,U1.m];rw[cU0<|show(k:Int)<(R0.length:Int)by omega,j2 _ _ hk];simp only[cT9,oq,u,w,b6 (n:=(k:Int)+1) F F];grind (λs t ⟨ht,e,hx⟩=>by subst ht;simp only[dM,M.run];rw[cU1 F];exact⟨_,rfl,_,rfl,e,hx⟩);grind
def bx9 {a:List K1}(D:a.length<=7)(r:∀x∈a,0<=x.I8/\x.I8<7){g:Int}(b:0<=g/\g<=15)(o:Int):∃v,(AW R0 a g o).m=some (v,0)/\(D8 R0 a g o).m=some v/\(-5000<=o->o<=10000->-5000<=v/\v<=10000):=by
 have w:(eu a<|.of (λz=>wT z R0) 414 [(Pv.encS aY) R0]).m=some (a.any λx=>decide (x.I8<0)||decide (x.I8>=(R0.length:Int))):=by simp only[eu,sc,nG,C.of,M.run,L1.m,Cl.at,Cl.of];refine Eq.trans ?_<|FC a F (λx=>(wT x R0).m) (λx=>decide (x.I8<0)||decide (x.I8>=(R0.length:Int))) λy _=>rfl;kernel_rfl
 have A:(a.any λx=>decide (x.I8<0)||decide (x.I8>=(R0.length:Int)))=false:=by simp_all[bH2]
 have d:(hY R0 64).m=some true:=aE4 (n:=64) F F;simp only[AW,D8,C.of,M.run,d,w,A,oq,AT,db8,cU1<|show¬(a.length:Int)>64 by omega,cT8,cU1<|show¬g<0 by omega,cU1<|show¬g>15 by omega,aj3];obtain⟨u,c,h1,l,j,p,rfl,e⟩:=OB a F (λi x (s:Int×Int)=>(uz R0 g i x s).run) (g:=λx=>(fB R0 a g x).run) (λk s t=>t=(s.2,s.1,(k:Int))/\(-5000<=o->o<=10000->-5000<=s.1/\s.1<=10000)) (λs c=>∃j p,c=.inl (p,s.1,j)/\(-5000<=o->o<=10000->-5000<=s.1/\s.1<=10000)) (o,-1) (-1,o,0) ⟨rfl,λh1 l=>⟨h1,l⟩⟩ λk hk s t ⟨ht,f⟩=>by
  subst ht;have E:=r _<|al8 hk;have h:a[k].I8.toNat<R0.length:=by grind
  have B:=aX2 bs2<|al8 h;rw[dg1,dg1]at B;have b:y3 R0 a[k].I8=some R0[a[k].I8.toNat]:=by grind [j2]
  simp only[uz,fB,M.run,L1.m,b,oq];rw[cU0<|show(k:Int)<(a.length:Int)by omega,j2 _ _ hk];simp only[cT9,oq,b,b6 (n:=(k:Int)+1) F F];cases(R0[a[k].I8.toNat].aj2 !=g)||decide (R0[a[k].I8.toNat].u5<s.2)<;>simp only[cT8,cT9];cases decide<|R0[a[k].I8.toNat].u5>s.2;refine⟨_,_,rfl,rfl,rfl,λe q=>?_⟩;have:=f e q;unfold ba9;simp only;split<;>omega;refine⟨_,_,rfl,rfl,rfl,λe q=>?_⟩;unfold ba9;simp only;split<;>omega;grind (λs t ⟨ht,f⟩=>by subst ht;simp only[fB,M.run];rw[cU1 F];exact⟨_,rfl,_,_,rfl,f⟩);grind
def Jn {n o:Int}(a:0<=n/\n<=15){c:k8}(b:c.cY.length<=7)(d:∀x∈c.cY,0<=x.I8/\x.I8<7):∃v,(bl n o R0 c).m=some v/\(D8 R0 c.cY n o).m=some v/\(-5000<=o->o<=10000->-5000<=v/\v<=10000):=by obtain⟨v,h1,e⟩:=bx9 b d a o;simp only[bl,CG.of,M.run,h1,oq];grind
structure Tst (s:k8)(l:List n9)(f:y2)(a:List K1)(w p h c q:Int):Prop where
 inv:∃MH t,(1<=MH/\MH<=1073741824)/\Fr.Inv l f MH true t
 ref:∀(b:List Int)(i:Int),y3 b 2=some (Au s.k s.t 2 s.u.o6.z6)->o3 (λx=>(bz (i,b) s.c8 [(Ly s.u s.d s.k s.t).1,(Ly s.u s.d s.k s.t).2.1,(Ly s.u s.d s.k s.t).2.2.1,(Ly s.u s.d s.k s.t).2.2.2.1,(Ly s.u s.d s.k s.t).2.2.2.2.1,(Ly s.u s.d s.k s.t).2.2.2.2.2.1,(Ly s.u s.d s.k s.t).2.2.2.2.2.2] s.u.B9 x).run) (0,s.u.B9.L)=some (.inl (7,f.L))same:({s.u.B9 with L:=f.L}:y2)=f
 act:(cQ R0 f).m=some a
 Ah:a.length<=7/\∀x∈a,x.M7.length<=16
 l0:(D8 R0 a 0 10000).m=some w
 l1:(D8 R0 a 1<|Au s.k s.t 2 s.u.o6.z6).m=some p
 l2:(D8 R0 a 2<|Au s.k s.t 3 20).m=some h
 l3:(D8 R0 a 3<|Au s.k s.t 4<|ba3 s.t).m=some c
 l4:(D8 R0 a 4<|Au s.k s.t 5<|aA7 s.u.o6).m=some q
 win:-5000<=w/\w<=10000
def ca5 {s:k8}(z:SOk s){l:List n9}{MH:Int}{t:Nat->Bool}(r:Fr.VV l)(B:7<=l.length)(h:Fr.Inv l s.u.B9 MH true t)(h0:1<=MH)(h1:MH<=1073741824):∃f a w p h c q,(Dq s).m=some {s with u.B9:=f,cY:=a,dz:=w,k5:=ba9 (q9 p 50) 1013,yq:=ba9 (q9 h<|-40) 150,p9:=ba9 (q9 c<|-40) 150,Lv:=ba9 (q9 q 0) 20000}/\Tst s l f a w p h c q:=by
 have v:=h;have hk:=z.Ah;have A:=λ(b:List Int)(y:y3 b 2=some (Au s.k s.t 2 s.u.o6.z6))(i:Int)=>bD2 (u:=s.u) z r B h h0 h1 (Ly s.u s.d s.k s.t) b y i;obtain⟨f,C,e1,_,hi⟩:=A [0,0,Au s.k s.t 2 s.u.o6.z6] rfl 0;have D:(dD f).m=some true:=by rw[Fj];exact Fr.Js r hi F h1 λ_=>h0
 have V:=hi.len;have E:=r.len;obtain⟨a,I,ra,e,g⟩:=aX0 D F F;have j:∀x∈a,0<=x.I8/\x.I8<7:=λx hx=>(g x hx).1;obtain⟨w,J,K,z0⟩:=Jn (n:=0) (o:=10000) F (c:={s with u.B9:=f,cY:=a}) e j;obtain⟨p,L,N,_⟩:=Jn (n:=1) (o:=Au s.k s.t 2 s.u.o6.z6) F (c:={s with u.B9:=f,cY:=a,dz:=w}) e j;obtain⟨h,O,P,_⟩:=Jn (n:=2) (o:=Au s.k s.t 3 20) F (c:={s with u.B9:=f,cY:=a,dz:=w,k5:=ba9 (q9 p 50) 1013}) e j;obtain⟨c,Q,R,_⟩:=Jn (n:=3) (o:=Au s.k s.t 4<|ba3 s.t) F (c:={s with u.B9:=f,cY:=a,dz:=w,k5:=ba9 (q9 p 50) 1013,yq:=ba9 (q9 h<|-40) 150}) e j;obtain⟨q,S,T,_⟩:=Jn (n:=4) (o:=Au s.k s.t 5<|aA7 s.u.o6) F (c:={s with u.B9:=f,cY:=a,dz:=w,k5:=ba9 (q9 p 50) 1013,yq:=ba9 (q9 h<|-40) 150,p9:=ba9 (q9 c<|-40) 150}) e j;have r2:=(sD (s:={s with u.B9:=f,cY:=a,dz:=w}) hk).r2;have r3:=(sD (s:={s with u.B9:=f,cY:=a,dz:=w,k5:=ba9 (q9 p 50) 1013}) hk).r3;have r4:=(sD (s:={s with u.B9:=f,cY:=a,dz:=w,k5:=ba9 (q9 p 50) 1013,yq:=ba9 (q9 h<|-40) 150}) hk).r4;have r5:=(sD (s:={s with u.B9:=f,cY:=a,dz:=w,k5:=ba9 (q9 p 50) 1013,yq:=ba9 (q9 h<|-40) 150,p9:=ba9 (q9 c<|-40) 150}) hk).r5;refine⟨f,a,w,p,h,c,q,?_,⟨MH,C,⟨h0,h1⟩,hi⟩,λb i y=>?_,?_,ra,⟨e,λx hx=>(g x hx).2⟩,K,N,P,R,T,z0 F F⟩;simp only[Dq,CG.of,M.run,cf2 hk,oq];rw[e1];simp only[oq,ai6,I,EX];rw[J];simp only[oq];rw[r2];simp only[oq];rw[L];simp only[oq];rw[r3];simp only[oq];rw[O];simp only[oq];rw[r4];simp only[oq];rw[Q];simp only[oq];rw[r5];simp only[oq];rw[S];rfl;obtain⟨f2,t2,k1,k2,_⟩:=A b y i;rw[e1]at k1;have:f=f2:=(Prod.mk.inj<|Sum.inl.inj<|oa k1).2;rw[this];exact k2;have d1:=hi.jP;have d2:=hi.MH;have d3:=hi.run;have g1:=v.jP;have g2:=v.MH;have U:=v.run;cases f;simp only at d1 d2 d3;show y2.mk s.u.B9.G3 _ s.u.B9.jq s.u.B9.dA=_;rw[g1,g2,U,d1,d2,d3]
end Go.Proofs.YtlbfdimlomockaaGreat.Ec
namespace Go.Pv
open Go
def cK3:Gj ⟨0⟩:=⟨dq,by decide⟩
def bz4 {t:j1}{e:j5}{b:D0}{c:w4}{i:G4}(h:Giv t e b c i)(f:Int):FA e (PB t b c i f)=true:=by have ht:=ab5 h.t;have a:=Ku.1 h.c;have hi:=ak2.1 h.i;obtain⟨k1,k2,d⟩:=bS7 a.kno hi.int (by rw[a.num];exact hi.num) (by rw[a.num];exact hi.len);rw[Ku];refine⟨a.lE,(QP a.ped _ _).2,(UB a.mix hi.lam hi.La<|rG ht i).2,by rw[<-a.num];exact d,k2,?_,(YH ht h.b a f).2,bR1 (UG hi) _⟩;show Gj<|idV t c i;unfold idV;cases acV c i;exact cK3;exact(bm8 ht.idle a.sum hi.coo hi.La).2
def bT5 {e:j5}(h:Ev.R5 e):FA e (bd6 e.ai9.length)=true:=by rw[Ku];refine⟨h,show SB ⟨0,0,false⟩=true by decide,show Pd ay2=true by decide,by simp[bd6],?_,cK3,show(0:Int)<=0/\(0:Int)<=1073741824 by decide,show granted ⟨0,-1⟩from⟨⟨dq,by decide⟩,⟨dq,by decide⟩⟩⟩;rw[cV2];intro x hx;have:x=k0:=List.eq_of_mem_replicate hx;subst this;decide
end Go.Pv
namespace Go.Proofs.YtlbfdimlomockaaGreat.Ec
open Go Go.Pv Go.Proofs
open Go.Pv.Et
structure cE1 (s:k8):Prop where
 dz:-5000<=s.dz/\s.dz<=10000
 k5:50<=s.k5/\s.k5<=1013
 yq:-40<=s.yq/\s.yq<=150
 p9:-40<=s.p9/\s.p9<=150
 Lv:0<=s.Lv/\s.Lv<=20000
structure aE3 (o:X7):Prop where
 Ah:1<=o.C1.length/\o.C1.length<=8
 thr:0<=o.B2/\o.B2<=1000
 tor:0<=o.j4/\o.j4<=10000
 inj:∀x∈o.C1,0<=x.F4/\x.F4<=20000
theorem cH6 (o:w4):(DO o).m=some o:=rfl
theorem cx9 (n o:w4):(Ap n 0 o).m=some n:=rfl
theorem cH9 (o:X7):(FE o).m=some o:=rfl
theorem cy2 (n o:X7):(CD n 0 o).m=some n:=rfl
theorem VI (s:k8):(wL s).m=some ⟨9,1,s.dz,15⟩:=rfl
def cP1 (w:Int)(h:-5000<=w/\w<=10000):Ar.SJ ⟨9,1,w,15⟩:=⟨⟨(by decide:(0:Int)<=9),(by decide:(9:Int)<=15)⟩,⟨(by decide:(0:Int)<=15),(by decide:(15:Int)<=15)⟩,h,.inl rfl⟩
def ct0 (n:Nat)(h:n<=1000):CT (n:Int) (0:Int)=some (cI5 n 0):=by unfold CT;grind
def aJ9 {s:k8}(h:SOk s)(a:cE1 s)(ht:ME s.u.w3=true)(w:fU s.u.mR=true)(n:FA s.u.c9.h9 s.u.w5=true):∃c o,(wI s).m=some {s with u.w5:=c,y8:=o}/\(L4 s.u.w3 s.u.c9.h9 s.u.mR s.u.w5 ⟨Au s.k s.t 0 s.d.B6,Au s.k s.t 1<|H<|bQ2 s.d.B6 2,s.c8,s.k5,s.yq,13500,s.Lv,s.p9,cI5 s.u.c9.h9.ai9.length 0,[⟨9,1,s.dz,15⟩]⟩).m=some (c,o,0)/\FA s.u.c9.h9 c=true/\o.C1.length=s.u.c9.h9.ai9.length/\aE3 o:=by
 obtain⟨y,e1,_⟩:=sD h.Ah;have p:=Ku.1 n;have r:1<=s.u.c9.h9.ai9.length/\s.u.c9.h9.ai9.length<=8:=⟨p.lE.1,p.lE.2.1⟩;have z:=ct0 s.u.c9.h9.ai9.length F;have hi:Giv s.u.w3 s.u.c9.h9 s.u.mR s.u.w5 (⟨Au s.k s.t 0 s.d.B6,Au s.k s.t 1<|H<|bQ2 s.d.B6 2,s.c8,s.k5,s.yq,13500,s.Lv,s.p9,cI5 s.u.c9.h9.ai9.length 0,([⟨9,1,s.dz,15⟩]:List b7)⟩:G4):=by have h1:=a.k5;have A:=a.yq;have B:=a.p9;have C:=a.Lv;refine⟨ht,w,n,ak2.2 ⟨r,by simp,by simp,h.La,by simp only;omega,A,B,by simp,C,by simp[E6],?_⟩⟩;simp only[List.all_cons,List.all_nil,dd8];rw[aR4,dg1];exact cP1 _ a.dz
 obtain⟨f,l,v,e2⟩:=bO0 hi sq;have D:=bW9 hi v;have E:=ab5 hi.t;have I:=Ku.1 hi.c;have g:=ak2.1 hi.i;obtain⟨J,K⟩:=be0 hi v;obtain⟨_,L,t2⟩:=VL E hi.b g s.u.c9.h9 s.u.w5<|wtV s.u.w3 s.u.w5 ⟨Au s.k s.t 0 s.d.B6,Au s.k s.t 1<|H<|bQ2 s.d.B6 2,s.c8,s.k5,s.yq,13500,s.Lv,s.p9,cI5 s.u.c9.h9.ai9.length 0,[⟨9,1,s.dz,15⟩]⟩;have e:=bz4 hi f;refine⟨_,_,?_,?_,e,by simp only[bd9,cW2,cI4],⟨by simp only[bd9,cW2,cI4];exact r,⟨L,t2⟩,⟨J,?_⟩,?_⟩⟩;simp only[wI,CG.of,M.run,y,e1,z,VI,oq,Wd];rw[e2];simp only[oq,cH6,cx9,cH9,cy2];rw[yD];exact D;exact cZ7 K<|Int.max_le.2 ⟨F,(Ku.1 e).gra.1.2⟩;intro x hx;simp only[bd9,cX3,cD9]at hx;obtain⟨j,N,rfl⟩:=hx;show 0<=(bif Jf _ f (j:Int)then tmV _ _ _ else 0)/\(bif Jf _ f (j:Int)then tmV _ _ _ else 0)<=20000;cases Jf _ f (j:Int);show(0:Int)<=0/\(0:Int)<=20000;omega;simp only[cT9];have q:∀(b:Bool)(x:Int),0<=(bif b then min (max x 200) 20000 else 0)/\(bif b then min (max x 200) 20000 else 0)<=20000:=λb x=>by cases b<;>simp only[cT9,cT8]<;>omega
 exact q _ _
def aF6 (l:List Int)(x:Int)(g:l.length<=32):∀(k:Nat)(a:Int),k<=l.length->0<=a->a<l.length->∃u:Int,0<=u/\u<l.length/\o3 (λs=>(mE l x s).run) ((k:Int)-1,a)=some (.inl (-1,u))/\(k=0->u=a)/\(0<k->∀y,l[0]?=some y->x<=y->u=0):=by intro k;induction k with|zero=>exact λa _ h0 h1=>⟨a,h0,h1,j3 rfl,λ_=>rfl,λh=>absurd h F⟩|succ k c=>
  intro a hk h0 h1;have b:k<l.length:=by omega
  have st:(mE l x ((k:Int),a)).run=some (.inl ((k:Int)-1,if l[k]>=x then(k:Int)else a)):=by simp only[mE,M.run,L1.m];rw[cU0<|show(k:Int)>=0 by omega,j2 _ _ b,b6 F F];grind
  obtain⟨u,d,e,a3,a4,a5⟩:=c (if l[k]>=x then(k:Int)else a) F F F;refine⟨u,d,e,?_,λh=>absurd h F,λ_ y i f=>?_⟩;grind [j7];grind
def Xw {l:List Int}(x:Int)(n:2<=l.length)(d:l.length<=32):∃p:Int×Int,0<=p.1/\p.1<l.length/\0<=p.2/\p.2<l.length/\(tu l x).m=some p/\(iX l x).m=some p:=by
 obtain⟨u,c,e1,e2,j,rfl,e,f⟩:=KU l.length F (λi s=>(uy l x i s).run) (g:=λs=>(dK l x s).run) (λk s t=>t=((k:Int),s)/\0<=s/\s<l.length) (λs c=>∃j,c=.inl (j,s)/\0<=s/\s<l.length) 0 (0,0) ⟨rfl,by omega,by omega⟩ λk hk s t ⟨ht,h⟩=>by subst ht;simp only[uy,dK,M.run,L1.m];rw[cU0<|show(k:Int)<(l.length:Int)by omega,j2 _ _ hk,b6 F F];grind (λs t ⟨ht,h⟩=>by subst ht;simp only[dK,M.run];grind);obtain⟨v,b1,b2,a,_,o⟩:=aF6 l x d l.length ((l.length:Int)-1) (cW6 _) F F;have b:H ((l.length:Int)-1)=(l.length:Int)-1:=b6 F F;have h0:0<l.length:=by omega
 refine⟨(u,v),e,f,b1,b2,?_,?_⟩;simp only[tu,C.of,M.run,L1.m,b];rw[e1];simp only[oq];rw[a,show(0:Int)=((0:Nat):Int)from rfl,j2 _ _ h0];grind;simp only[iX,C.of,M.run,b];rw[e2];simp only[oq];exact C2 a rfl
def Om {α:Type}(l:List α)(i:Int)(h0:0<=i)(h1:i<l.length):∃y,y∈l/\y3 l i=some y:=by simp_all[y3]
theorem ax1 {α:Type}(a b:Int)(f:Int->Option α):tI (bif decide (b>a)then some b else some a) f=f (q9 a b):=by unfold q9;grind
def Yk {m:SMap}(x y:Int)(h:sx m=true):∃c,(tw m x y).m=some c/\(iY m x y).m=some c:=by
 unfold sx at h;simp only[BY,nW,cV2]at h;obtain⟨⟨⟨hx,g⟩,hz⟩,u⟩:=h;have d:=Ei hx;have ly:=Ei g;have v:m.Z.length=m.X.length:=by grind
 obtain⟨p,p1,p2,p3,p4,p5,i⟩:=Xw x d.1 d.2;obtain⟨q,e,w,f,z,A,j⟩:=Xw y ly.1 ly.2;obtain⟨r1,k,a⟩:=Om m.Z p.1 p1 F;obtain⟨r2,l,b⟩:=Om m.Z p.2 p3 F;have len:∀r∈m.Z,r.length=m.Y.length:=by grind [cX]
 obtain⟨n,_,e1⟩:=Om r1 q.1 e gq;obtain⟨o,_,e2⟩:=Om r1 q.2 f gq;obtain⟨z3,_,s⟩:=Om r2 q.1 e gq;obtain⟨z4,_,t⟩:=Om r2 q.2 f gq;refine⟨q9 (q9 (q9 n o) z3) z4,?_,?_⟩;simp_all[tw,C.of,M.run,L1.m];simp only[iY,C.of,M.run,L1.m,i,j,oq,a,b,e1,e2,s,t,ax1];unfold q9;grind
theorem FW (x lo hi:Int)(h:lo<=hi):(kH x lo hi).m=some (ba9 (q9 x lo) hi):=KX x lo hi h
def ce5 (l:List b7)(a:l.length<=1000)(f:Cl Tryz.prog b7 Bool (λx=>[qe x]) λr=>.t<|tB r)(h:∀x∈l,f.f x=some false):(D9 l f).m=some false:=by simp only[D9,aQ,dh,C.of,M.run,L1.m,Cl.at];refine(Eq.trans ?_<|FC l F f.f (λ_=>false) h).trans sq;kernel_rfl
abbrev asks (w:Int)(b:Bool):List b7:=bif b then[⟨9,1,w,15⟩,⟨1,2,1500,1⟩]else[⟨9,1,w,15⟩]
set_option maxHeartbeats 1000000 in
def be3 {t:j1}{v n w:Int}(e:sx t.rA=true)(g:0<=v/\v<=1000)(j:0<=n/\n<=12000)(q:-5000<=w/\w<=10000)(b:Bool):∃p,(ux t v n<|asks w b).m=some (p,0)/\(dL t v n<|asks w b).m=some p/\100<=p/\p<=10100:=by
 obtain⟨c,c1,c2⟩:=Yk n v e;have k:(I5 t.rA).m=some true:=by rw[Iv,aN];exact congrArg some e
 have f:(P8 ⟨9,1,w,15⟩).m=some false:=by simp only[P8,jD,af,C.of,M.run,oq];rw[cU0<|show w>=-5000 by omega,cU0<|show w<=10000 by omega];rfl
 have r1:(P8 ⟨1,2,1500,1⟩).m=some false:=(P8 _).le 100 _ (by kernel_rfl);have l:(D9 (asks w b)<|.of (λo=>P8 o) 426 []).m=some false:=ce5 _ (by cases b<;>simp) _ (λx hx=>by
  show(P8 x).m=_;cases b<;>simp at hx;·subst hx;exact f
  ·rcases hx with rfl|rfl;·exact f
   ·exact r1);simp only[ux,dL,C.of,M.run,k,l,Uk,c1,c2,FW _ _ _<|show(-5000:Int)<=10000 by omega,FW _ _ _<|show(0:Int)<=10000 by omega,oq,AT,cT8];rw[show(decide (v>=0)&&decide (v<=1000))=true by simp[g],show(decide (n>=0)&&decide (n<=12000))=true by simp[j],cU1<|show¬((asks w b).length:Int)>32 by cases b<;>simp];simp only[AT,cT8,oq];cases b
 ·have e1:iI (asks w false) (λi x s=>(oi i x s).run) (-5000,-1)=some (.inl (-5000,-1)):=by rw[B5 _ sq];rfl
  have e2:iI (asks w false) (λi x s=>(oj (-5000,-1) i x s).run) 10000=some (.inl<|ba9 10000 w):=by rw[B5 _ sq];rfl
  have a:o3 (λs=>(L0 (asks w false) s).run) (-5000,-1,0)=some (.inl (-5000,-1,1)):=by rw[j7 (s':=(-5000,-1,1)) rfl];exact j3 rfl
  have d:∀most:Int,o3 (λs=>(Q4 (asks w false) (-5000,-1,1) s).run) (most,0)=some (.inl (if w<most then w else most,1)):=λmost=>by
   rw[j7 (s':=(if w<most then w else most,1)) ?_];·exact j3 rfl
   ·simp only[Q4,M.run,L1.m];show(bif decide (w<most)then _ else _)=_;by_cases h:w<most;·rw[cU0 h,if_pos h];rfl
    ·rw[cU1 h,if_neg h];rfl
  refine⟨_,C2 e1<|C2 e2 rfl,C2 a ?_,?_⟩
  ·simp only[show decide ((-5000:Int)>1500)=false from rfl,cT8,oq];rw[ax1];refine C2 (d _) ?_;simp only[FW _ _ _<|show(0:Int)<=10000 by omega,oq];congr 2;unfold ba9 q9;repeat' split
   all_goals omega
  ·rw[b6 (by unfold ba9 q9;repeat' split;all_goals omega)<|by unfold ba9 q9;repeat' split;all_goals omega];unfold ba9 q9;repeat' split
   all_goals omega
 ·have e1:iI (asks w true) (λi x s=>(oi i x s).run) (-5000,-1)=some (.inl (1500,1)):=by rw[B5 _ sq];rfl
  have e2:iI (asks w true) (λi x s=>(oj (1500,1) i x s).run) 10000=some (.inl<|ba9 10000 w):=by rw[B5 _ sq];rfl
  have p1:(L0 (asks w true) (-5000,-1,0)).run=some (.inl (-5000,-1,1)):=by kernel_rfl
  have p2:(L0 (asks w true) (-5000,-1,1)).run=some (.inl (1500,1,2)):=by kernel_rfl
  have p3:(L0 (asks w true) (1500,1,2)).run=some (.inr<|.inl (1500,1,2)):=by kernel_rfl
  have a:o3 (λs=>(L0 (asks w true) s).run) (-5000,-1,0)=some (.inl (1500,1,2)):=by refine Eq.trans (j7 (s':=(-5000,-1,1)) p1) ?_;refine Eq.trans (j7 (s':=(1500,1,2)) p2) ?_;exact j3 p3
  have d:∀most:Int,o3 (λs=>(Q4 (asks w true) (1500,1,2) s).run) (most,0)=some (.inl (if w<most then w else most,2)):=λmost=>by
   rw[j7 (s':=(if w<most then w else most,1)) ?_,j7 (s':=(if w<most then w else most,2)) ?_];·exact j3 rfl
   ·rfl
   ·simp only[Q4,M.run,L1.m];show(bif decide (w<most)then _ else _)=_;by_cases h:w<most;·rw[cU0 h,if_pos h];rfl
    ·rw[cU1 h,if_neg h];rfl
  refine⟨_,C2 e1<|C2 e2 rfl,C2 a ?_,?_⟩
  ·simp only[show decide ((1500:Int)>1500)=false from rfl,cT8,oq];rw[ax1];refine C2 (d _) ?_;simp only[FW _ _ _<|show(0:Int)<=10000 by omega,oq];congr 2;unfold ba9 q9;repeat' split
   all_goals omega
  ·rw[b6 (by unfold ba9 q9;repeat' split;all_goals omega)<|by unfold ba9 q9;repeat' split;all_goals omega];unfold ba9 q9;repeat' split
   all_goals omega
def Xq {t:j1}{n c:Int}(a:sx t.j4=true)(b:0<=n/\n<=12000)(e:0<=c/\c<=1048576){l:List o9}(h1:1<=l.length)(o:l.length<=8):∃v,(AS t n c l).m=some (v,0)/\(W6 t n c l).m=some v/\0<=v/\v<=10000:=by
 obtain⟨z,c1,c2⟩:=Yk n c a;have f:(I5 t.j4).m=some true:=by simp_all[Iv,aN]
 have hz:=uU z 0 10000 F;simp only[AS,W6,C.of,M.run,L1.m,f,Uk,c1,c2,FW _ _ _<|show(0:Int)<=10000 by omega,oq,AT,cT8,cU1<|show¬(l.length:Int)>8 by omega,bf<|show¬(l.length:Int)=0 by omega];rw[show(decide (n>=0)&&decide (n<=12000))=true by simp[b],show(decide (c>=0)&&decide (c<=1048576))=true by simp[e]];simp only[AT,cT8,oq];obtain⟨k,d,e1,e2,j,rfl,k0,k1⟩:=OB l F (λi x s=>(uw i x s).run) (g:=λs=>(dJ l s).run) (λk s t=>t=(s,(k:Int))/\0<=s/\s<=k) (λs c=>∃j,c=.inl (s,j)/\0<=s/\s<=l.length) 0 (0,0) ⟨rfl,by omega,by omega⟩ λk hk s t ⟨ht,h⟩=>by subst ht;simp only[uw,dJ,M.run,L1.m];rw[cU0<|show(k:Int)<(l.length:Int)by omega,j2 _ _ hk,b6 (n:=(k:Int)+1) F F,b6 (n:=s+1) F F];simp only[cT9,oq];cases l[k].F4 !=0;all_goals grind (λs t ⟨ht,h⟩=>by subst ht;simp only[dJ,M.run];grind);rw[e1,e2];simp only[oq];generalize ba9 (q9 z 0) 10000=V at hz|-;have p:0<=V*k:=cM7 hz.1 k0;have q:V*k<=V*l.length:=cX2 k1 hz.1;have r:V*l.length<=10000*l.length:=dc4 hz.2 F;rw[b6 (n:=V*k) F F,b6 (n:=V*k+l.length) F F,b6 (n:=V*k+l.length-1) F F,be8 F F F];refine⟨_,rfl,rfl,cY5 F F,?_⟩;have:(V*k+l.length-1)/l.length<V+1:=by rw[da2 F,Int.add_mul,Int.one_mul];omega
 omega
theorem cs4 (o:dU):(IK o).m=some o:=rfl
theorem bR8 (n:dU)(e:Int)(o:dU):(wG n e o).m=some (bif e !=0 then o else n):=by simp only[wG,C.of,M.run];grind
def Wz (x:o9):o9:={x with F4:=0}
def bY1 {α:Type}(g:α->α)(l:List α)(k:Nat)(hk:k<l.length):((l.take k).map g++l.drop k).set k (g l[k])=(l.take<|k+1).map g++l.drop (k+1):=by
 have a:((l.take k).map g).length=k:=by grind
 rw[bw1 hk,db0 _ _ F,a,cQ9,cT5,cQ4,IN hk,dc9];simp
structure Mon (s:k8)(g:dU)(f:List o9)(p c:Int)(b:Bool)(v x y:Int)(av:Bool):Prop where
 ra:(P6 s.u.w5.B6.Value s.c8 s.p9).m=some av
 rp:(dL s.u.w3 s.u.w5.B6.Value s.c8<|asks s.dz av).m=some p
 rc:(P5 s.u.w3 s.c8 s.k5 s.yq).m=some (c,0)rx:(W6 s.u.w3 s.c8 c s.y8.C1).m=some x
 ry:(decide (x>p)&&!(Qg s.k s.t 7).2)=true->b=true/\f=s.y8.C1.map Wz/\(W6 s.u.w3 s.c8 c f).m=some y
 rn:(decide (x>p)&&!(Qg s.k s.t 7).2)=false->b=s.cut/\f=s.y8.C1/\y=x
 rg:(mu s.u.dT p y).m=some g
 gr:grB g=true
 Rm:100<=p/\p<=10100
 cin:0<=c/\c<=1048576
 out:aE3 {s.y8 with C1:=f}
def aO5 {s:k8}(A:SOk s)(J:cE1 s)(ht:ME s.u.w3=true)(V:FA s.u.c9.h9 s.u.w5=true)(B:grB s.u.dT=true)(j:aE3 s.y8):∃g f p c b v x y av,(wK s).m=some {s with u.dT:=g,y8.C1:=f,F7:=p,ao6:=c,cut:=b}/\Mon s g f p c b v x y av:=by
 have W:=Ku.1 V;have hp:=(ap2.1 W.ped).v;have T:=J.yq;have U:=J.p9;have h4:=J.k5;have tok:=ab5 ht;have C:sx s.u.w3.j4=true:=by have:=tok.tor;unfold lQ at this;simp only[BY]at this;first|exact this.1.1.1.1|exact this.1.1|exact this.1|exact this.1.1.1
 have e1:(pG s.u.w5.B6.Value s.c8 s.p9).m=some (ae9 s.u.w5.B6.Value s.c8 s.p9):=by rw[Mf];exact bH4 U
 have n:(P6 s.u.w5.B6.Value s.c8 s.p9).m=some (ae9 s.u.w5.B6.Value s.c8 s.p9):=by rw[JX];exact bo9 U
 have e2:(ta s.u.w3 s.c8 s.k5 s.yq).m=some (Tn s.u.w3 s.c8 s.k5 s.yq,0):=by rw[Pk];exact Rv tok.air A.La F T
 have r:(P5 s.u.w3 s.c8 s.k5 s.yq).m=some (Tn s.u.w3 s.c8 s.k5 s.yq,0):=by rw[JU];exact Zu tok.air A.La F T
 have d:0<=Tn s.u.w3 s.c8 s.k5 s.yq/\Tn s.u.w3 s.c8 s.k5 s.yq<=1048576:=rG tok (⟨0,0,s.c8,s.k5,s.yq,13500,s.Lv,s.p9,[],[]⟩:G4);generalize Tn s.u.w3 s.c8 s.k5 s.yq=c at e2 r d;generalize ae9 s.u.w5.B6.Value s.c8 s.p9=av at e1 n;obtain⟨p,X,D,p0,p1⟩:=be3 (t:=s.u.w3) (v:=s.u.w5.B6.Value) tok.Ti hp A.La J.dz av;have Z:(bif av then(G2 ([⟨9,1,s.dz,15⟩]:List b7) ([⟨1,2,1500,1⟩]:List b7)).bind λt=>some t else some ([⟨9,1,s.dz,15⟩]:List b7))=some (asks s.dz av):=by cases av<;>rfl
 obtain⟨x,e5,E,x0,x1⟩:=Xq C A.La d j.Ah.1 j.Ah.2;have K:(ai {s with F7:=p,ao6:=c}).m=some x:=by simp only[ai,CG.of,M.run,e5,oq]
 have e6:=Qh (s:={s with F7:=p,ao6:=c}) A.Ah 7;simp only[wK,CG.of,M.run,L1.m,U1.m,VI,e1,oq];rw[Z];simp only[oq,X,e2];rw[K];simp only[oq];rw[e6];simp only[oq];cases e:decide (x>p)&&!(Qg s.k s.t 7).2;·obtain⟨g,k1,k2,L⟩:=bm3 (g:=s.u.dT) (p:=p) (a:=x) B F F;simp only[cT8,oq,cs4,k1,bR8];exact⟨g,s.y8.C1,p,c,s.cut,p,x,x,av,rfl,n,D,r,E,λh=>(by rw[e]at h;cases h),λ_=>⟨rfl,rfl,rfl⟩,k2,L,⟨p0,p1⟩,d,j⟩
 ·obtain⟨f,w1,I⟩:=VG s.y8.C1.length (by have:=j.Ah;omega) (λi (o:List o9)=>(pP i o).run) (λk o=>o=(s.y8.C1.take k).map Wz++s.y8.C1.drop k) s.y8.C1 rfl (λk o hk N=>by
   have O:k<o.length:=by rw[N];simp;omega
   have P:((s.y8.C1.take k).map Wz).length=k:=by rw[cW2,cV5];omega
   have Q:o[k]?=some s.y8.C1[k]:=by rw[N,dc0 F,P,cQ9,List.getElem?_drop,cq7,IN hk]
   simp only[pP,M.run,L1.m,U1.m];rw[B3,Q];simp only[oq];rw[D4 _ _ _ O];refine⟨_,rfl,?_⟩;rw[N];exact bY1 Wz s.y8.C1 k hk);have I:f=s.y8.C1.map Wz:=by rw[I];simp
  have w:aE3 {s.y8 with C1:=f}:=⟨by rw[I];simpa using j.Ah,j.thr,j.tor,λz hz=>by rw[I]at hz;obtain⟨q,_,rfl⟩:=cX3.1 hz;exact(by omega:(0:Int)<=0/\(0:Int)<=20000)⟩;obtain⟨y,e7,R,y0,y1⟩:=Xq C A.La d (l:=f) w.Ah.1 w.Ah.2;obtain⟨g,k1,k2,L⟩:=bm3 (g:=s.u.dT) (p:=p) (a:=y) B F F;have S:(ai {s with y8.C1:=f,F7:=p,ao6:=c,cut:=true}).m=some y:=by simp only[ai,CG.of,M.run,e7,oq]
  simp only[cT9];rw[w1];simp only[oq];rw[S];simp only[oq,cs4,k1,bR8];exact⟨g,f,p,c,true,p,x,y,av,rfl,n,D,r,E,λ_=>⟨rfl,I,R⟩,λh=>(by rw[e]at h;cases h),k2,L,⟨p0,p1⟩,d,w⟩
end Go.Proofs.YtlbfdimlomockaaGreat.Ec
namespace Go.Pv.Ev
open Go Go.Pv
theorem aQ1 (e:j5)(c:Int)(h:e.ai9.length<=1000000):xf e c=some (idx c e.ai9 0):=by
 unfold xf Q;have key:∀(r:List Int)(i:Nat),e.ai9.drop i=r->(tI (o3 (W9 e c) (i:Int)) λ(t:Int⊕Int)=>match t with|.inl _=>some<|-1|.inr r2=>some r2)=some (idx c r i):=by
  intro r
  induction r with|nil=>
   intro i a;have hi:e.ai9.length<=i:=by simpa using a
   have:W9 e c (i:Int)=some (.inr<|.inl (i:Int)):=by grind [W9,Q]
   rw[j3 this];rfl|cons y r d=>
   intro i a;have hi:i<e.ai9.length:=by have:=congrArg cO3 a;grind
   have f:e.ai9[i]?=some y:=by rw[<-cX6,a];rfl
   have b:W9 e c (i:Int)=some (bif c==y then .inr<|.inr (i:Int)else .inl ((i+1:Nat):Int)):=by unfold W9 Q;rw[show decide ((i:Int)<(e.ai9.length:Int))=true by simp;omega,B3,f,b6 (n:=(i:Int)+1) F F];grind
   unfold idx;cases g:c==y;rw[g]at b;rw[j7 b,d (i+1)<|by rw[<-bT3,a];rfl];rfl;simp_all[j3]
 refine Eq.trans ?_<|key e.ai9 0 rfl;kernel_rfl
def cen (e:j5)(c:Int):Int:=(e.R6+q9 (idx c e.ai9 0) 0*46080/(e.ai9.length:Int))%46080
def TV (e:j5)(c:Int):0<=cen e c/\cen e c<46080:=by grind [cen]
theorem ay6 {a b:Int}(c:0<=a)(d:0<b)(e:a<=9223372036854775807):KT .i64 a b=some (a/b):=by have h1:a/b<=a:=cC0 _ c;have f:0<=a/b:=cY5 c F;unfold KT;rw[if_neg F,br2 c];exact congrArg some<|b6 F F
theorem al2 (e:j5)(c:Int)(h:R5 e):BA e c=some (cen e c,decide<|c∈e.ai9):=by
 obtain⟨h1,b,d,f,g,i⟩:=h;unfold BA Q;rw[MW _ _ F];simp only[oq];have j:0<=q9 (idx c e.ai9 0) 0/\q9 (idx c e.ai9 0) 0<8:=by grind [IH,q9]
 rw[b6 F F,ay6 F F F];simp only[oq];have k:0<=q9 (idx c e.ai9 0) 0*46080/(e.ai9.length:Int):=cY5 F F;have a:q9 (idx c e.ai9 0) 0*46080/(e.ai9.length:Int)<=q9 (idx c e.ai9 0) 0*46080:=cC0 _ F;rw[b6 F F,aW6 F,aw4];rfl
theorem br9 (e:j5)(c:Int):Bx e c=some (bif !decide (R5 e)then(0,1)else bif !decide (c∈e.ai9)then(0,7)else(cen e c,0)):=by unfold Bx Q;rw[aN];cases a:decide<|R5 e;rfl;simp only[oq,AT,cT8];rw[al2 e c<|of_decide_eq_true a];grind
theorem Zy (e:j5)(c:Int)(h:R5 e)(a:c∈e.ai9):mL e c=some (cen e c):=by obtain⟨h1,d,f,g,i,j⟩:=h;obtain⟨k,e1,hk,_⟩:=cx5 a;unfold mL Q;rw[aQ1 e c F];simp only[oq];unfold cen;rw[e1,show q9 (k:Int) 0=(k:Int)by rfl,b6 F F,ay6 F F F];simp only[oq];have l:0<=(k:Int)*46080/(e.ai9.length:Int):=cY5 F F;have b:(k:Int)*46080/(e.ai9.length:Int)<=(k:Int)*46080:=cC0 _ F;grind [b6]
def jQ (e:j5)(f:o9):Prop:=f.h8∈e.ai9/\(-1280<=f.D1/\f.D1<=3840)/\(500<=f.L5/\f.L5<=10000)/\(0<=f.End/\f.End<=23040)/\(f.F4=0\/200<=f.F4/\f.F4<=20000)/\(f.US=0/\f.Extra=0\/f.F4≠0/\(200<=f.US/\f.US<=20000)/\200<=f.Extra/\f.Extra<=20000)
instance (e:j5)(f:o9):Decidable<|jQ e f:=by unfold jQ;infer_instance
theorem bl6 (e:j5)(f:o9):AM e f=some (decide (R5 e)&&decide (jQ e f)):=by unfold AM BB Q;rw[aN];cases b:decide<|R5 e;rfl;obtain⟨h1,c,_⟩:=of_decide_eq_true b;simp only[oq,AT,cT8,contains_eq e.ai9 f.h8 F,Ll,cV0];rw[AI,zc,dg1];unfold jQ;simp only[Bool.cond_true_left,Bool.cond_false_left,Bool.cond_true_right,Bool.cond_false_right,bh7,BY,nW,Ky,Bool.and_eq_false_iff,cZ4,dg1,cU3,bne_iff_ne,bne_eq_false_iff_eq,beq_iff_eq,beq_eq_false_iff_ne,ne_eq,ge_iff_le];by_cases a:f.h8∈e.ai9;simp only[a,true_and,not_true_eq_false,false_or];omega;simp only[a,false_and,not_false_eq_true,true_or,iff_false,not_and]
theorem aR9 (e:j5)(f:o9)(h:R5 e):zx e f=some (decide<|jQ e f):=by obtain⟨h1,c,_⟩:=h;unfold zx FR Q;rw[aQ1 e _ F];have a:=aw4 f.h8 e.ai9;have b:idx f.h8 e.ai9 0>=0↔f.h8∈e.ai9:=decide_eq_decide.1 a;simp only[oq,Ll];rw[AI,zc,dg1];unfold jQ;grind
def pul (f:o9):Int:=bif f.F4==0 then 0 else bif f.Extra==0 then 1 else 2
theorem bA2 (f:o9):uZ f=some (pul f):=by grind [uZ,pul,Q]
theorem bg1 (f:o9):gn f=some (pul f):=by grind [gn,pul,Q]
def aa9 {R:Type}(f:Int->Unit->Option (Fl Unit R))(p:Nat->Bool)(r:R):∀(k i:Nat),(∀j,i<=j->j<i+k->f (j:Int) ()=some (bif p j then .ret r else .next ()))->qw f k (i:Int) ()=some (bif (cX1 i k).any p then .inr r else .inl ())|0,i,_=>rfl|k+1,i,h=>by rw[List.range'_succ,List.any_cons];simp only[qw,h i (cW6 _) F,oq];cases hp:p i;exact aa9 f p r k (i+1) λj a b=>h j F F;rfl
theorem be9 {R:Type}(n:Nat)(a:n<=9223372036854775807)(f:Int->Unit->Option (Fl Unit R))(p:Nat->Bool)(r:R)(h:∀j,j<n->f (j:Int) ()=some (bif p j then .ret r else .next ())):J9 (n:Int) f ()=some (bif (cX1 0 n).any p then .inr r else .inl ()):=by rw[U2 _ a];exact aa9 f p r n 0 λj _ b=>h j F
theorem bj2 {α:Type}(l:List α)(p:α->Bool):(l.all λx=>!p x)=!l.any p:=by grind
def YS {S B:Type}{mb:S->Option (S⊕B)}(I:Nat->S->Prop)(J:B->Prop){bad:Nat->Bool}{b1:B}:∀(n k:Nat)(s:S),I k s->(∀j,k<=j->j<k+n->∀s,I j s->bad j=true/\mb s=some (.inr b1)\/bad j=false/\∃s',mb s=some (.inl s')/\I (j+1) s')->(∀s,I (k+n) s->∃b,mb s=some (.inr b)/\J b)->(cX1 k n).any bad=true/\o3 mb s=some b1\/(cX1 k n).any bad=false/\∃b,o3 mb s=some b/\J b|0,k,s,h,_,e=>by obtain⟨b,h1,c⟩:=e s h;exact .inr ⟨rfl,b,j3 h1,c⟩|n+1,k,s,h,st,e=>by rw[List.range'_succ,List.any_cons];rcases st k (cW6 _) F s h with⟨d,h1⟩|⟨d,s',h1,c⟩;exact .inl ⟨by rw[d];rfl,j3 h1⟩;rw[d,j7 h1,db8];exact YS I J n (k+1) s' c (λj a b=>st j F F)<|by rw[show k+1+n=k+(n+1)by omega];exact e
def ac0 (a:Int):0<=a/\a.tmod 46080=a%46080\/a<0/\a.tmod 46080=-(-a%46080):=by
 rcases Int.lt_or_le a 0 with h|h;refine .inr ⟨h,?_⟩;have:a.tmod 46080=(- -a).tmod 46080:=by rw[Int.neg_neg]
 rw[this,Int.neg_tmod,aW6 F];exact .inl ⟨h,aW6 h⟩
theorem mod_eq (a:Int)(h1:-1000000000000000<=a)(d:a<=1000000000000000):Of a 46080=some (a%46080):=by
 unfold Of SF Q;simp only[show((46080:Int)==0)=false from rfl,show((46080:Int)==-1)=false from rfl,aj3,cT8,show¬(46080:Int)=0 from dq,if_false,oq,show decide ((46080:Int)<0)=false from rfl];rcases ac0 a with⟨h,e⟩|⟨h,e⟩;grind;rw[e];rcases Int.lt_or_eq_of_le (show 0<=-a%46080 by omega)with hq|hq;have b:decide (-(-a%46080)<0)=true:=by simp;omega
 have c:(-(-a%46080)!=0)=true:=by simp;omega
 rw[b,c];simp only[show(true==false)=false from rfl,cV8,cM0,cT9];grind [b6];grind
theorem ak0 (a:Int):M0 a=some (a%46080):=by unfold M0 Q;rcases ac0 a with⟨h,e⟩|⟨h,e⟩;all_goals grind [b6]
def Rn (d a:Int):Int:=d*23040/a
def ym {d a:Int}(h0:0<=d)(h1:d<=20000)(ht:4000<=a):0<=Rn d a/\Rn d a<=460800000:=by have b:d*23040/a<=d*23040:=cC0 _ F;exact⟨cY5 F F,by grind [Rn]⟩
theorem Xj {d a:Int}(h0:0<=d)(h1:d<=20000)(ht:4000<=a):X8 d a=some (Rn d a):=by unfold X8 Q;rw[b6 F F,ay6 F F F];rfl
theorem NM {d a:Int}(h0:0<=d)(h1:d<=20000)(ht:4000<=a):M6 d a=some (Rn d a):=by unfold M6 Q;rw[b6 F F,ay6 F F F];rfl
def mn (x:Int):Int:=ba9 x 23040
def aO4 {x:Int}(h:0<=x):0<=mn x/\mn x<=23040:=by grind [mn,ba9]
def bd7 (f:o9)(t:Int):List<|Int×Int×Int:=[(-f.D1,2,0),(-f.D1-mn (Rn f.L5 t),1,0)]++(bif decide<|pul f>0then [(-f.End,4,1),(-f.End-Rn f.F4 t,3,1)]else[])++bif decide<|pul f>1then [(-f.End+Rn f.US t,3,2),(-f.End+Rn f.US t+Rn f.Extra t,4,2)]else[]
def evF (e:j5)(f:o9)(o:Int×Int×Int):j8:=⟨(cen e f.h8+o.1)%46080,o.2.1,f.h8,o.2.2⟩
def evs (e:j5)(t:Int)(f:o9):List j8:=(bd7 f t).map<|evF e f
def Uw (t:Int)(f:o9):Bool:=decide (Rn f.F4 t>23040)||decide (Rn f.US t>23040)||decide (Rn f.Extra t>23040)
theorem yg (f:o9):pul f=0\/pul f=1\/pul f=2:=by grind [pul]
theorem bU0 (f:o9)(t:Int):(bd7 f t).length<=6:=by grind [bd7]
theorem Oi (e:j5)(t:Int)(f:o9):(evs e t f).length<=6:=by simp[evs,bU0]
theorem VB (a k p:Int)(c:List j8)(x:o9)(h1:-1000000000000000<=a)(b:a<=1000000000000000)(d:c.length<=100000):aZ a k p c x=some (c++[⟨a%46080,k,x.h8,p⟩]):=by grind [aZ,mod_eq,l5,cX9]
def MN {e:j5}{f:o9}(h:jQ e f):(0<=f.L5/\f.L5<=20000)/\(0<=f.F4/\f.F4<=20000)/\(0<=f.US/\f.US<=20000)/\(0<=f.Extra/\f.Extra<=20000)/\(-1280<=f.D1/\f.D1<=3840)/\0<=f.End/\f.End<=23040:=by grind [jQ]
theorem step_eq (e:j5)(t i:Int)(x:o9)(c:List j8)(l:R5 e)(hx:jQ e x)(ht:4000<=t)(o:c.length<=1000):rL e t i x c=some (bif Uw t x then .ret ([],2)else .next<|c++evs e t x):=by
 obtain⟨⟨b,d1⟩,⟨d,f⟩,⟨g,g1⟩,⟨h,j⟩,⟨s0,s1⟩,n0,n1⟩:=MN hx;obtain⟨c0,c1⟩:=TV e x.h8;have p:=aO4 (ym b d1 ht).1;have ti:=ym d f ht;have q:=ym g g1 ht;have r:=ym h j ht;unfold rL;rw[al2 e _ l,Xj b d1 ht,Xj d f ht,Xj g g1 ht,Xj h j ht,bA2];simp only[oq];rw[show ba9 (Rn x.L5 t) 23040=mn (Rn x.L5 t)from rfl];have m:decide (q9 (q9 (Rn x.F4 t)<|Rn x.US t) (Rn x.Extra t)>23040)=Uw t x:=by rw[zc];unfold Uw;simp only[bh7,dg1];grind [q9]
 rw[m];unfold evs bd7;simp only[dc9,ew,db6,evF];generalize k:cen e x.h8=C at*;generalize s:mn (Rn x.L5 t)=D at*;generalize u:Rn x.F4 t=A at*;generalize v:Rn x.US t=a at*;generalize w:Rn x.Extra t=B at*;rw[b6 (n:=C-x.D1) F F,b6 (n:=C-x.D1-D) F F,b6 (n:=C-x.End) F F,b6 (n:=C-x.End-A) F F,b6 (n:=C-x.End+a) F F,b6 (n:=C-x.End+a+B) F F];rw[VB _ _ _ c _ F F F];simp only[oq];rw[VB _ _ _ _ _ F F gq];simp only[oq];cases Uw t x;simp only[cT8];rcases yg x with hp|hp|hp;rw[hp];simp only[show decide ((0:Int)>0)=false from rfl,show decide ((0:Int)>1)=false from rfl,cT8,oq,db6,iy,cW5,cX8,wS];rw[show C-x.D1-D=C+(-x.D1-D)by omega,show C-x.D1=C+-x.D1 by omega];rw[hp];simp only[show decide ((1:Int)>0)=true from rfl,show decide ((1:Int)>1)=false from rfl,cT8,cT9,oq];rw[VB _ _ _ _ _ F F<|by simp only[IT,cX9];omega];simp only[oq];rw[VB _ _ _ _ _ F F<|by simp only[IT,cX9];omega];simp only[evF,k,oq,ew,db6,iy,cW5,cX8,wS];rw[show C-x.D1-D=C+(-x.D1-D)by omega,show C-x.D1=C+-x.D1 by omega,show C-x.End-A=C+(-x.End-A)by omega,show C-x.End=C+-x.End by omega];rw[hp];simp only[show decide ((2:Int)>0)=true from rfl,show decide ((2:Int)>1)=true from rfl,cT8,cT9,oq];rw[VB _ _ _ _ _ F F<|by simp only[IT,cX9];omega];simp only[oq];rw[VB _ _ _ _ _ F F<|by simp only[IT,cX9];omega];simp only[oq];rw[VB _ _ _ _ _ F F<|by simp only[IT,cX9];omega];simp only[oq];rw[VB _ _ _ _ _ F F<|by simp only[IT,cX9];omega];simp only[evF,k,oq,ew,db6,iy,cW5,cX8,wS];rw[show C-x.D1-D=C+(-x.D1-D)by omega,show C-x.D1=C+-x.D1 by omega,show C-x.End-A=C+(-x.End-A)by omega,show C-x.End+a+B=C+(-x.End+a+B)by omega,show C-x.End+a=C+(-x.End+a)by omega,show C-x.End=C+-x.End by omega];rfl
theorem aT7 (e:j5)(t:Int)(a:R5 e)(ht:4000<=t):∀(l:List o9)(i:Int)(c:List j8),(∀x∈l,jQ e x)->c.length+6*l.length<=1000->F0 (rL e t) l i c=some (bif l.any (Uw t)then .inr ([],2)else .inl<|c++l.flatMap (evs e t))|[],i,c,_,_=>by simp[F0]|x::l,i,c,hx,b=>by rw[cU9]at b;simp only[F0,step_eq e t i x c a (hx x<|cV7 ..) ht F,oq,List.any_cons];cases Uw t x;simp only[cT8,db8,List.flatMap_cons];have:=Oi e t x;rw[<-cW5];exact aT7 e t a ht l (i+1) _ (λy d=>hx y<|cV3 _ d) (by rw[IT];omega);rfl
def QH (a b:j8):Bool:=decide<|a.q7<b.q7\/a.q7=b.q7/\(a.h8<b.h8\/a.h8=b.h8/\(a.Kind<b.Kind\/a.Kind=b.Kind/\a.O1<b.O1))
def ah9 (x y:Int):Int:=if x<y then-1 else if x>y then 1 else 0
theorem Yh (x y:Int):pa x y=some (ah9 x y):=by unfold pa cmp_isNaN_int ah9 Q;grind
def aw0 (a b c d:Int):Int:=bif a !=0 then a else bif b !=0 then b else bif c !=0 then c else d
theorem or_eq (a b c d:Int):wz [a,b,c,d]=some (aw0 a b c d):=by unfold wz aw0 Q;rw[B5 _ sq];simp only[F0,Bv,Q];cases e:a !=0;all_goals grind
theorem aP3 (a b:j8):nP a b=some (aw0 (ah9 a.q7 b.q7) (ah9 a.h8 b.h8) (ah9 a.Kind b.Kind)<|ah9 a.O1 b.O1):=by simp[nP,Q,Yh,or_eq]
def AE (x y:Int):x<y/\ah9 x y=-1\/x=y/\ah9 x y=0\/y<x/\ah9 x y=1:=by unfold ah9;omega
theorem IY (a b:j8):EI nP a b=QH a b:=by unfold EI QH;rw[aP3,cx4,decide_eq_decide];unfold aw0;rcases AE a.q7 b.q7 with⟨h1,e1⟩|⟨h1,e1⟩|⟨h1,e1⟩<;>rw[e1];simp;omega;rcases AE a.h8 b.h8 with⟨e,e2⟩|⟨e,e2⟩|⟨e,e2⟩<;>rw[e2];simp;omega;rcases AE a.Kind b.Kind with⟨f,c⟩|⟨f,c⟩|⟨f,c⟩<;>rw[c];simp;omega;rcases AE a.O1 b.O1 with⟨g,d⟩|⟨g,d⟩|⟨g,d⟩<;>rw[d]<;>simp<;>omega;grind;grind;grind
theorem ck8 (x:j8):QH x x=false:=by simp[QH]
theorem by0 {x y z:j8}(h1:QH x y=true)(a:QH y z=true):QH x z=true:=by unfold QH at*;grind
theorem Ou {x y z:j8}(h1:QH x y=false)(a:QH y z=false):QH x z=false:=by grind [QH]
theorem aN2 {x y:j8}(h1:QH x y=false)(a:QH y x=false):x=y:=by grind [QH,j8.ext]
theorem aN9 {x y:j8}(h:QH x y=true):QH y x=false:=by unfold QH at*;grind
abbrev Asc (l:List j8):Prop:=l.Pairwise λa b=>QH b a=false
theorem cu4:∀{l m:List j8},Asc l->Asc m->l.Perm m->l=m
 |[],m,_,_,hp=>hp.nil_eq|x::l,[],_,_,hp=>by simp_all|x::l,y::m,c,d,hp=>by
  have b:x=y:=by have h1:x∈y::m:=hp.mem_iff.1<|cV7 ..;have a:y∈x::l:=hp.mem_iff.2<|cV7 ..;rcases cV6.1 h1 with h1|h1;exact h1;rcases cV6.1 a with a|a;exact a.symm;exact aN2 ((ba8.1 d).1 x h1)<|(ba8.1 c).1 y a
  subst b;rw[cu4 (ba8.1 c).2 (ba8.1 d).2<|List.Perm.cons_inv hp]
def srt (l:List j8):List j8:=l.mergeSort λx y=>!QH y x
theorem aT5 (l:List j8):(srt l).Perm l:=List.mergeSort_perm _ _
theorem co7 (l:List j8):Asc<|srt l:=by have:=List.pairwise_mergeSort (le:=λx y=>!QH y x) λa b c h1 d=>by grind [Ou] λa b=>by grind [aN9] l;exact this.imp λh=>by grind
theorem co6 (l:List j8)(h:l.length<=1000000):hJ l nP=some (srt l):=by
 unfold hJ srt;have e:(λx y=>!EI nP y x)=λx y=>!QH y x:=by simp[IY]
 rw[NV ⟨F,λx _ y _=>⟨_,aP3 x y⟩,λx _=>by rw[IY,ck8],λx _ y _ z _=>by grind [IY,by0],λx _ y _ z _=>by grind [IY,Ou],λx _ y _=>by grind [IY,aN2]⟩,e]
def Yn (l:List o9)(i:Nat):Bool:=match l[i]?with|some x=>(l.take i).any λg=>g.h8==x.h8|none=>false
def bv7 (l:List o9):Bool:=(cX1 0 l.length).any<|Yn l
def ar2 (t:Int):Bool:=decide (t>=4000)&&decide (t<=1000000)
def aF7 (e:j5)(l:List o9):Bool:=l.any λf=>!decide (jQ e f)
def lO (e:j5)(l:List o9)(t:Int):List j8×Int:=bif !decide (R5 e)then([],1)else bif aF7 e l then([],1)else bif !ar2 t then([],2)else bif bv7 l then([],8)else bif l.any (Uw t)then([],2)else(srt<|l.flatMap<|evs e t,0)
def aL7 (e:j5)(t:Int)(l:List o9):(l.flatMap<|evs e t).length<=6*l.length:=by induction l with|nil=>simp|cons x l a=>grind [Oi]
def aX9 {e:j5}{l:List o9}(h:aF7 e l=false):∀x∈l,jQ e x:=by grind [aF7]
theorem cm5 (e:j5)(l:List o9)(t:Int)(p:l.length<=100):Cw e l t=some (lO e l t):=by
 unfold Cw lO;rw[aN];cases d:decide<|R5 e;rfl;have h:=of_decide_eq_true d;simp only[oq,AT,cT8];have k:=W2 l F (λa=>uY a e) (λf=>!decide (jQ e f)) (λy _=>by grind [uY,Q,bl6]);have i:G9 l (λa=>uY a e)=some (aF7 e l):=k;rw[i];simp only[oq];cases m:aF7 e l;have n:=aX9 m;simp only[cT8];unfold BB ar2 Q;simp only[oq];cases ht:decide (t>=4000)&&decide (t<=1000000);rfl;simp only[AT,cT8];have b:4000<=t:=by grind
 rw[be9 l.length F (yH l) (Yn l) ([],8) λj c=>by
  unfold yH Yn;have o:U4 l 0 (j:Int)=some (l.take j):=by unfold U4;grind
  rw[j2 _ _ c,IN c,o];simp only[oq];have k2:=W2 (l.take j) gq (λa=>Bz a l[j]) (λg=>g.h8==l[j].h8) λy _=>rfl;have q:G9 (l.take j) (λa=>Bz a l[j])=some ((l.take j).any λg=>g.h8==l[j].h8):=k2;grind];rw[show(cX1 0 l.length).any (Yn l)=bv7 l from rfl];cases bv7 l;simp only[cT8,oq];rw[B5 _ F,aT7 e t h b l 0 [] n<|by simp;omega];cases l.any<|Uw t;simp only[cT8,oq,wS];have:=aL7 e t l;rw[co6 _ F];rfl;rfl;rfl;rfl
def bf4 (e:j5)(f:o9)(t:Int)(s:R5 e)(b:jQ e f)(ht:4000<=t):∃r,mM e f t=some r/\r.Perm (evs e t f):=by
 obtain⟨⟨c,d1⟩,⟨d,g⟩,⟨i,g1⟩,⟨j,k⟩,⟨s0,s1⟩,n0,n1⟩:=MN b;obtain⟨c0,c1⟩:=TV e f.h8;have w:=aO4 (ym c d1 ht).1;have ti:=ym d g ht;have x:=ym i g1 ht;have y:=ym j k ht;unfold mM;rw[Zy e _ s b.1,NM c d1 ht,NM d g ht,NM i g1 ht,NM j k ht,bg1];simp only[oq];have a:(bif decide<|Rn f.L5 t>23040then some 23040 else some<|Rn f.L5 t)=some (mn<|Rn f.L5 t):=by unfold mn ba9;by_cases h:Rn f.L5 t>23040;rw[cU0 h,if_pos F];rfl;rw[cU1 h,if_neg F];rfl
 rw[a];simp only[oq];unfold evs bd7;simp only[dc9,ew,db6,evF];generalize l:cen e f.h8=C at*;generalize z:mn (Rn f.L5 t)=D at*;generalize E:Rn f.F4 t=A at*;generalize I:Rn f.US t=G at*;generalize J:Rn f.Extra t=B at*;rw[b6 (n:=C-f.D1) F F,b6 (n:=C-f.D1-D) F F,b6 (n:=C-f.End) F F,b6 (n:=C-f.End-A) F F,b6 (n:=C-f.End+G) F F,b6 (n:=C-f.End+G+B) F F];simp only[ak0,oq];have u:C+(-f.D1-D)=C-f.D1-D:=by omega
 have v:C+-f.D1=C-f.D1:=by omega
 have m:C+(-f.End-A)=C-f.End-A:=by omega
 have o:C+(-f.End+G+B)=C-f.End+G+B:=by omega
 have p:C+(-f.End+G)=C-f.End+G:=by omega
 have q:C+-f.End=C-f.End:=by omega
 rw[u,v];rcases yg f with hp|hp|hp;rw[hp];simp only[show((0:Int)==0)=true from rfl,show decide ((0:Int)>0)=false from rfl,show decide ((0:Int)>1)=false from rfl,cT9,cT8,db6,iy];exact⟨_,rfl,df5 _ _ _⟩;rw[hp];simp only[show((1:Int)==0)=false from rfl,show((1:Int)==1)=true from rfl,show decide ((1:Int)>0)=true from rfl,show decide ((1:Int)>1)=false from rfl,cT9,cT8,db6,iy,ew,evF,l];rw[l5 _ _ sq];simp only[oq];rw[l5 _ _ sq];simp only[oq,cX8,wS,m,o,p,q];exact⟨_,rfl,(df5 _ _ _).trans<|cZ6 _<|cZ6 _<|df5 _ _ _⟩;rw[hp];simp only[show((2:Int)==0)=false from rfl,show((2:Int)==1)=false from rfl,show decide ((2:Int)>0)=true from rfl,show decide ((2:Int)>1)=true from rfl,cT9,cT8,db6,iy,ew,evF,l];rw[l5 _ _ sq];simp only[oq];rw[l5 _ _ sq];simp only[oq];rw[l5 _ _ sq];simp only[oq];rw[l5 _ _ sq];simp only[oq,cX8,wS,m,o,p,q];exact⟨_,rfl,(df5 _ _ _).trans<|cZ6 _<|cZ6 _<|df5 _ _ _⟩
theorem bt2 (a b:j8):uD a b=some (QH a b):=by unfold uD Q;rw[Ll,Ll,Ll,AI,zc];grind [QH]
def aM7 (l:List j8)(x:j8)(d:l.length<=1000000):∀i,i<=l.length->(∀j (h:j<l.length),i<=j->QH x l[j]=true)->∃k,k<=i/\o3 (gZ l x) (i:Int)=some (.inl (k:Int))/\(∀j (h:j<l.length),k<=j->QH x l[j]=true)/\∀(h:k-1<l.length),0<k->QH x l[k-1]=false
 |0,_,a=>⟨0,cW6 _,j3 rfl,a,λ_ h=>by omega⟩|i+1,hi,a=>by
  have b:gZ l x ((i+1:Nat):Int)=some (bif QH x (l[i]'F)then .inl (i:Int)else .inr<|.inl ((i+1:Nat):Int)):=by unfold gZ Q;rw[show decide (((i+1:Nat):Int)>0)=true from cU0 F,b6 (n:=((i+1:Nat):Int)-1) F F,show((i+1:Nat):Int)-1=(i:Int)by omega,j2 _ _ F];simp only[cT9,oq,bt2];grind
  cases c:QH x<|l[i]'F;rw[c]at b;exact⟨i+1,cW6 _,j3 b,a,λ_ _=>c⟩;rw[c]at b;rw[j7 b];obtain⟨k,h1,f,g,m⟩:=aM7 l x d i F (λj h o=>by by_cases e:j=i;subst e;exact c;exact a j h F);exact⟨k,by omega,f,g,m⟩
def insert_eq (l:List j8)(x:j8)(o:l.length<=1000000)(g:Asc l):∃r,uE l x=some r/\Asc r/\r.Perm (x::l):=by
 obtain⟨k,h1,p,q,s⟩:=aM7 l x o l.length (cW6 _) (λj h t=>by omega);unfold uE Q;rw[p];have s1:U4 l 0 (k:Int)=some (l.take k):=by unfold U4;rw[if_pos ⟨F,by omega,by omega⟩];simp
 have s2:U4 l (k:Int) (l.length:Int)=some (l.drop k):=by unfold U4;rw[if_pos ⟨F,by omega,by omega⟩];simp only[Int.toNat_natCast];rw[List.take_of_length_le<|by rw[dc1];omega]
 simp only[oq];rw[s1];simp only[oq];rw[l5 _ _<|by simp only[cX0,cV5];omega];simp only[oq];rw[l5 _ _<|by simp only[wS,cV5,cX9];omega];simp only[oq];rw[s2];simp only[oq];rw[l5 _ _<|by simp only[wS,IT,dc1,cV5,cX9];omega];simp only[oq,wS];refine⟨_,rfl,?_,?_⟩;show(l.take k++[x]++l.drop k).Pairwise _;rw[cW5,cu5];have hx:∀b∈l.drop k,QH b x=false:=λb d=>by obtain⟨j,i,rfl⟩:=Kz.1 d;rw[List.getElem_drop];rw[dc1]at i;exact aN9<|q _ F F
 have c:=g;unfold Asc at c;rw[dd5]at c;have m:∀a∈l.take k,QH x a=false:=λa f=>by obtain⟨j,i,rfl⟩:=Kz.1 f;rw[List.getElem_take];rw[cV5]at i;have n:=s F F;by_cases e:j=k-1;subst e;exact n;exact Ou n<|c j (k-1) F F F
 refine⟨cT7 (List.take_sublist _ _) g,?_,λa f b d=>?_⟩;rw[cY4,ba8];exact⟨hx,cT7 (List.drop_sublist _ _) g⟩;rw[cY4,cV6]at d;rcases d with rfl|d;exact m a f;exact Ou (hx b d)<|m a f;rw[cW5];refine df0.trans ?_;rw[cW5,cY4];refine cZ6 x<|df0.trans ?_;rw[List.take_append_drop]
def bQ1 (v5 out:List j8)(i:out.length+v5.length<=10000)(h:Asc out):∃r,o3 (eA v5) (out,0)=some (.inl (r,(v5.length:Int)))/\Asc r/\r.Perm (out++v5):=by obtain⟨b,h1,r,f,g,l⟩:=Ba (mb:=eA v5) (λk s=>s.2=(k:Int)/\Asc s.1/\s.1.Perm (out++v5.take k)) (λb=>∃r,b=.inl (r,(v5.length:Int))/\Asc r/\r.Perm (out++v5)) v5.length 0 (out,0) ⟨rfl,h,by simp⟩ (λj _ d s e=>by
  obtain⟨s1,s2⟩:=s;obtain⟨e1,e2,a⟩:=e;simp only at e1 e2 a;subst e1;have d:j<v5.length:=by omega
  have c:=a.length_eq;rw[IT,cV5]at c;obtain⟨r,h1,f,g⟩:=insert_eq s1 v5[j] F e2;unfold eA Q;simp only[show decide ((j:Int)<(v5.length:Int))=true by simp;omega,cT9,j2 _ _ d,oq,h1,b6 (n:=(j:Int)+1) F F];refine⟨_,rfl,rfl,f,?_⟩;simp only;rw[cd8 d,<-cW5];exact g.trans<|(cZ6 _ a).trans (List.perm_append_singleton _ _).symm) (λs e=>by obtain⟨s1,s2⟩:=s;obtain⟨e1,e2,a⟩:=e;simp only[cX4]at e1 e2 a;subst e1;unfold eA Q;grind);grind
theorem cP9 (t:Int)(f:o9)(e:j5)(a:jQ e f)(ht:4000<=t)(k:Bool->Option (List j8×Int⊕List j8×Int⊕List j8×Int)):(tI (M6 f.F4 t) λb=>tI (bif decide<|b>23040then some true else tI (M6 f.US t) λv3=>some<|decide<|v3>23040) λb2=>tI (bif b2 then some true else tI (M6 f.Extra t) λv4=>some<|decide<|v4>23040) k)=k (Uw t f):=by obtain⟨_,⟨c,d⟩,⟨g,g1⟩,⟨h,i⟩,_⟩:=MN a;grind [NM,Uw]
theorem aX5 {α:Type}(l:List α)(p:α->Bool):(cX1 0 l.length).any (λi=>l[i]?.any p)=l.any p:=by rw[zc,List.any_eq_true,List.any_eq_true];constructor;grind;rintro⟨x,hx,h⟩;obtain⟨i,hi,rfl⟩:=Kz.1 hx;exact⟨i,by grind,by grind⟩
theorem bW8 (e:j5)(l:List o9)(t:Int)(N:l.length<=100)(q:R5 e):re e l t=some (lO e l t):=by
 unfold re lO Q;rw[cU0 q];simp only[AT,cT8];have k1:=lL (mb:=lg e l) (λi=>(i:Int)) (p:=λf=>decide<|jQ e f) (b0:=.inl (l.length:Int)) (b1:=.inr ([],1)) l (by grind [lg,Q]) (λj y h=>by have c:=(No.1 h).1;unfold lg Q;simp only[show decide ((j:Int)<(l.length:Int))=true by simp;omega,cT9,B3,h,oq,aR9 e y q,b6 (n:=(j:Int)+1) F F];grind);simp only[show((0:Nat):Int)=0 from rfl]at k1;rw[k1];have E:aF7 e l=!l.all λf=>decide<|jQ e f:=by simp[aF7,dc8]
 rw[E];cases C:l.all λf=>decide<|jQ e f;rfl;have I:∀x∈l,jQ e x:=λx hx=>by grind
 simp only[cT9,AT,cT8,oq];have u:(decide (t<4000)||decide (t>1000000))=!ar2 t:=by unfold ar2;grind
 rw[u];cases ht:ar2 t;rfl;have m:4000<=t:=by grind
 simp only[AT,cT8];have k2:=tM (mb:=lh l) (λi=>(i:Int)) (p:=λi=>!Yn l i) (b0:=.inl (l.length:Int)) (b1:=.inr ([],8)) l.length (by grind [lh,Q]) (λj c=>by
  have v:(l.take j).length=j:=by rw[cV5];omega
  have w:=lL (mb:=lj l (j:Int)) (λi=>(i:Int)) (p:=λy=>!y.h8==l[j].h8) (b0:=.inl (j:Int)) (b1:=.inr ([],8)) (l.take j) (by rw[v];unfold lj Q;rw[show decide ((j:Int)<(j:Int))=false by simp];rfl) (λi y h=>by
   have hi:i<j:=by have:=(No.1 h).1;omega
   have z:l[i]?=some y:=by rw[<-h,List.getElem?_take,if_pos hi]
   unfold lj Q;simp only[show decide ((i:Int)<(j:Int))=true by simp;omega,cT9,B3,z,IN c,oq,b6 (n:=(i:Int)+1) F F,show(l[j].h8==y.h8)=(y.h8==l[j].h8)from BEq.comm];cases y.h8==l[j].h8<;>rfl);simp only[show((0:Nat):Int)=0 from rfl]at w;rw[bj2]at w;unfold lh Yn Q;simp only[show decide ((j:Int)<(l.length:Int))=true by simp;omega,cT9,w,IN c,oq,b6 (n:=(j:Int)+1) F F];cases(l.take j).any λy=>y.h8==l[j].h8<;>rfl);simp only[show((0:Nat):Int)=0 from rfl]at k2;rw[bj2,show(cX1 0 l.length).any (Yn l)=bv7 l from rfl]at k2;rw[k2];cases bv7 l;simp only[cV8,cT9,cT8,oq];have k4:=YS (mb:=lk e l t) (λk s=>s.2=(k:Int)/\Asc s.1/\s.1.Perm ((l.take k).flatMap<|evs e t)) (λb=>b=.inl (srt<|l.flatMap<|evs e t,(l.length:Int))) (bad:=λi=>l[i]?.any<|Uw t) (b1:=.inr ([],2)) l.length 0 ([],0) ⟨rfl,.nil,by simp⟩ (λj _ c s A=>by
  obtain⟨s1,s2⟩:=s;obtain⟨e1,e2,d⟩:=A;simp only at e1 e2 d;subst e1;have c:j<l.length:=by omega
  have o:=I _<|al8 c;have D:=d.length_eq;have B:=aL7 e t<|l.take j;rw[cV5]at B;rw[IN c];unfold lk Q;simp only[show decide ((j:Int)<(l.length:Int))=true by simp;omega,cT9,j2 _ _ c,oq];rw[cP9 t l[j] e o m];cases a:Uw t l[j];obtain⟨r,h1,g⟩:=bf4 e l[j] t q o m;have J:=g.length_eq;have:=Oi e t l[j];obtain⟨r2,K,L,M⟩:=bQ1 r s1 F e2;refine .inr ⟨a,?_⟩;simp only[cT8,h1,K,oq,b6 (n:=(j:Int)+1) F F];refine⟨_,rfl,rfl,L,?_⟩;simp only;rw[cd8 c,List.flatMap_append,List.flatMap_singleton];exact M.trans<|List.Perm.append d g;exact .inl ⟨a,rfl⟩) (λs A=>by obtain⟨s1,s2⟩:=s;obtain⟨e1,e2,d⟩:=A;simp only[cX4]at e1 e2 d;subst e1;rw[cZ0]at d;unfold lk Q;simp only[show decide ((l.length:Int)<(l.length:Int))=false by simp,cT8];refine⟨_,rfl,?_⟩;rw[cu4 e2 (co7 _)<|d.trans (aT5 _).symm]);rw[aX5]at k4;rcases k4 with⟨h1,g⟩|⟨h1,b,g,rfl⟩;rw[h1,g];rfl;rw[h1,g];rfl;rfl
end Go.Pv.Ev
namespace Go.Pv
open Go
namespace Ev
def Kq (x:j8):Prop:=(0<=x.q7/\x.q7<46080)/\(1<=x.Kind/\x.Kind<=4)/\(1<=x.h8/\x.h8<=8)/\0<=x.O1/\x.O1<=2
instance (x:j8):Decidable<|Kq x:=by unfold Kq;infer_instance
def cv4 (l:List j8):Bool:=decide ((l.length:Int)>1000)||l.any λx=>!decide (Kq x)
theorem ck4 (l:List j8):la l=some !cv4 l:=by
 unfold la cv4 Q;cases a:decide<|(l.length:Int)>1000;have a:=of_decide_eq_false a;simp only[cT8,db8];have k:=lL (mb:=lb l) (λi=>(i:Int)) (p:=λx=>decide<|Kq x) (b0:=.inl (l.length:Int)) (b1:=.inr false) l (by grind [lb,Q]) (λj y b=>by
  have c:=(No.1 b).1;unfold lb xe Q;rw[show decide ((j:Int)<(l.length:Int))=true from cU0 F,B3,b,b6 (n:=(j:Int)+1) F F];simp only[cT9,oq];have:(!(decide (y.q7>=0)&&decide (y.q7<46080))||decide (y.Kind<1)||decide (y.Kind>4)||decide (y.h8<1)||decide (y.h8>8)||decide (y.O1<0)||decide (y.O1>2))=!decide (Kq y):=by rw[zc,nW,cU3];unfold Kq;grind
  grind);grind;rfl
def Eh (a:Int):Bool:=decide (a>=0)&&decide (a<46080)
theorem oX {a:Int}:Eh a=true↔0<=a/\a<46080:=by simp[Eh]
def dst (a b:Int):Int:=(b-a)%46080
theorem bO4 (a b:Int):jC a b=some (bif Eh a&&Eh b then dst a b else-1):=by unfold jC Kr Q;simp only[oq];have e:∀a:Int,(decide (a>=0)&&decide (a<46080))=Eh a:=λ_=>rfl;rw[e,e];cases c:Eh a;rfl;cases d:Eh b;rfl;have c:=oX.1 c;have d:=oX.1 d;simp only[AT,cT8,oq,cM0,cT9];rw[b6 (n:=b-a) F F,mod_eq _ F F];rfl
theorem av2 {a b:Int}(c:Eh a=true)(d:Eh b=true):jC a b=some (dst a b):=by grind [bO4]
theorem ZB {a b:Int}(c:Eh a=true)(d:Eh b=true):W8 a b=some (dst a b):=by have c:=oX.1 c;have d:=oX.1 d;unfold W8 Q;rw[b6 (n:=b-a) F F,ak0];rfl
end Ev
namespace Tm
abbrev Xm:Int:=1099511627776
abbrev tz:w8:=⟨0,[]⟩
def chB (now:Int)(c:ai1):Bool:=!bif c.u7 then decide (c.At<=now)||decide (c.At>1099511627776)else(c.At !=0)||c.Next
def xP (t:w8):Bool:=decide (t.D2<0)||decide (t.D2>1099511627776)||decide ((t.a8.length:Int)<1)||decide ((t.a8.length:Int)>16)
def T0 (t:w8):Bool:=!xP t&&t.a8.all (chB t.D2)
theorem Ul {t:w8}(h:xP t=false):1<=t.a8.length/\t.a8.length<=16/\0<=t.D2/\t.D2<=1099511627776:=by grind [xP]
theorem aM2 {t:w8}(h:1<=t.a8.length/\t.a8.length<=16/\0<=t.D2/\t.D2<=1099511627776):xP t=false:=by grind [xP]
def Db {t:w8}(h:T0 t=true):1<=t.a8.length/\t.a8.length<=16/\0<=t.D2/\t.D2<=1099511627776:=by simp_all[T0,Ul]
theorem bh8 (t:w8):Dc t=some (T0 t):=by
 unfold Dc T0 Q;cases a:xP t;unfold xP at a;rw[a];have d:=Ul (t:=t) a;have k:=W2 t.a8 F (λc=>Cb c t) (λc=>!chB t.D2 c) (λy _=>by unfold Cb chB Q;cases y.u7<;>simp);have e2:(t.a8.any λz=>!chB t.D2 z)=!t.a8.all (chB t.D2):=by rw[dc8];simp
 rw[e2]at k;simp only[cT8,cV8,cV0];have:O6 t.a8 (λb=>Cb b t)=some !t.a8.all (chB t.D2):=k;rw[this];simp;unfold xP at a;rw[a];rfl
theorem cA6 (t:w8):iC t=some (T0 t):=by unfold iC T0;cases a:xP t;unfold xP at a;rw[a];have c:=Ul (t:=t) a;have k:=lL (mb:=cU t) (λi=>(i:Int)) (p:=chB t.D2) (b0:=.inl (t.a8.length:Int)) (b1:=.inr false) t.a8 (by simp[cU]) (λj y b=>by
  have d:=(No.1 b).1;unfold cU;have e:decide ((j:Int)<(t.a8.length:Int))=true:=by simp;omega
  rw[e,B3,b,b6 (n:=(j:Int)+1) F F];unfold chB;simp only[oq,cT9];cases y.u7<;>cases decide (y.At<=t.D2)||decide (y.At>1099511627776)<;>cases(y.At !=0)||y.Next<;>rfl);rw[show((0:Nat):Int)=0 from rfl]at k;simp only[cT8,cV8,cV0];rw[k];cases t.a8.all<|chB t.D2<;>rfl;unfold xP at a;rw[a];rfl
def VZ (t:w8)(ch:Int):Bool:=decide (ch<0)||decide (ch>=(t.a8.length:Int))
theorem Ik (t:w8)(ch:Int):Oa t ch=some (bif !T0 t then(tz,1)else bif VZ t ch then(tz,2)else(t,0)):=by unfold Oa Q;rw[bh8];cases h:T0 t;rfl;have b:=Db h;simp only[oq,AT,cT8];cases a:VZ t ch;unfold VZ at a;rw[a];simp only[cT8];rw[yf _ F];simp[ba5];grind [VZ]
def cS6 {t:w8}{ch:Int}(h:VZ t ch=false):∃j:Nat,ch=(j:Int)/\j<t.a8.length:=by unfold VZ at h;simp only[Ky,cU3]at h;exact⟨ch.toNat,by omega,by omega⟩
theorem bJ0 (t:w8)(ch a:Int)(lvl:Bool):∀j:Nat,ch=(j:Int)->(hj:j<t.a8.length)->T0 t=true->Jp t ch a lvl=some (bif decide (a<=t.D2)then(tz,16)else bif decide (a>Xm)then(tz,2)else(⟨t.D2,t.a8.set j ⟨true,a,lvl,t.a8[j].s8⟩⟩,0)):=by
 rintro j rfl hj h;unfold Jp Q;have b:VZ t (j:Int)=false:=by grind [VZ]
 rw[Ik,h,b];simp only[AT,cT8,oq,bne_self_eq_false];cases decide<|a<=t.D2;·simp only[cT8];unfold Xm;cases decide<|a>1099511627776;all_goals simp_all[j2,D4]
 ·rfl
theorem al7 (t:w8)(ch:Int):∀j:Nat,ch=(j:Int)->(hj:j<t.a8.length)->T0 t=true->ER t ch=some (⟨t.D2,t.a8.set j ⟨false,0,false,t.a8[j].s8⟩⟩,0):=by
 rintro j rfl hj h;unfold ER Q;have a:VZ t (j:Int)=false:=by grind [VZ]
 simp_all[Ik,j2,D4]
theorem force_eq (t:w8)(ch:Int)(lvl:Bool):∀j:Nat,ch=(j:Int)->(hj:j<t.a8.length)->T0 t=true->Hu t ch lvl=some (⟨t.D2,t.a8.set j ⟨false,0,false,lvl⟩⟩,bif t.a8[j].s8==lvl then[]else[⟨t.D2,(j:Int),lvl⟩],0):=by
 rintro j rfl hj h;unfold Hu Q;have a:VZ t (j:Int)=false:=by grind [VZ]
 rw[Ik,h,a];simp only[AT,cT8,oq,bne_self_eq_false,j2 _ _ hj,D4 _ _ _ hj];grind
theorem copy_eq (t:w8)(h:t.a8.length<=1000):ll t=some t:=by unfold ll;rw[l5 _ _<|by simp;omega];rfl
def due (u4:Int)(c:ai1):Bool:=!(!c.u7||decide (c.At>u4))
def Rf (u4:Int)(i:Nat)(c:ai1):List e9:=bif due u4 c&&!c.Next==c.s8 then[⟨c.At,(i:Int),c.Next⟩]else[]
def Cj (u4:Int)(c:ai1):ai1:=bif due u4 c then⟨false,0,false,c.Next⟩else c
def yr (u4:Int):Nat->List ai1->List e9|_,[]=>[]|i,c::r=>Rf u4 i c++yr u4 (i+1) r
theorem bq9 (u4:Int)(i:Nat)(c:ai1):(Rf u4 i c).length<=1:=by grind [Rf]
theorem Ta (u4:Int):∀(l:List ai1)(i:Nat),(yr u4 i l).length<=l.length|[],_=>cW6 _|c::r,i=>by have:=Ta u4 r<|i+1;have:=bq9 u4 i c;simp only[yr,IT,cU9];omega
theorem OG (u4:Int):∀(l:List ai1)(i:Nat)(c:ai1),yr u4 i (l++[c])=yr u4 i l++Rf u4 (i+l.length) c|[],i,c=>by simp[yr]|x::l,i,c=>by simp only[cX8,yr,cW5,List.append_cancel_left_eq,cU9];rw[OG u4 l (i+1) c,show i+1+l.length=i+(l.length+1)by omega]
theorem YV {u4:Int}{s:e9}:∀{l:List ai1}{i:Nat},s∈yr u4 i l->∃j c,l[j]?=some c/\due u4 c=true/\(c.Next==c.s8)=false/\s=⟨c.At,((i+j:Nat):Int),c.Next⟩|[],i,h=>by simp[yr]at h|c::r,i,h=>by simp only[yr,bX2]at h;rcases h with h|h;unfold Rf at h;cases a:due u4 c&&!c.Next==c.s8<;>rw[a]at h;simp at h;simp only[cT9,List.mem_singleton]at h;simp only[BY,nW]at a;exact⟨0,c,rfl,a.1,a.2,by omega⟩;obtain⟨j,b,h1,d,e,f⟩:=YV h;exact⟨j+1,b,by grind,d,e,by grind⟩
def aU1 {u4:Int}:∀{l:List ai1}{i j:Nat}{c:ai1},l[j]?=some c->due u4 c=true->(c.Next==c.s8)=false->(⟨c.At,((i+j:Nat):Int),c.Next⟩:e9)∈yr u4 i l|[],i,j,c,h,_,_=>by simp at h|x::r,i,0,c,h,a,b=>by grind [yr,Rf]|x::r,i,j+1,c,h,a,b=>by simp only[List.getElem?_cons_succ]at h;have:=aU1 (i:=i+1) h a b;grind [yr]
theorem ab3 {u4:Int}:∀(l:List ai1)(i:Nat),(yr u4 i l).Pairwise λa b=>a.Channel<b.Channel
 |[],_=>.nil|c::r,i=>by
  simp only[yr];rw[cu5];refine⟨?_,ab3 r<|i+1,λa d b e=>?_⟩;unfold Rf;cases due u4 c&&!c.Next==c.s8<;>simp;have h1:a.Channel=(i:Int):=by unfold Rf at d;cases f:due u4 c&&!c.Next==c.s8<;>rw[f]at d;simp at d;simp at d;rw[d]
  obtain⟨j,h,_,_,_,g⟩:=YV e;rw[h1,g];simp only;omega
def WY (a b:e9):Bool:=decide<|a.At<b.At\/a.At=b.At/\a.Channel<b.Channel
theorem bM9 (x y:Int):pa x y=some (if x<y then-1 else if x>y then 1 else 0):=by unfold pa cmp_isNaN_int Q;grind
theorem or_eq (v a:Int):wz [v,a]=some (if v≠0 then v else a):=by unfold wz Q;rw[B5 _ sq];grind [F0,Bv,Q]
theorem cG4 (a b:e9):∃c,jK a b=some c/\decide (c<0)=WY a b:=by unfold jK Q;rw[bM9,bM9];simp only[oq,or_eq];refine⟨_,rfl,?_⟩;unfold WY;grind
theorem QI (a b:e9):EI jK a b=WY a b:=by obtain⟨c,h1,d⟩:=cG4 a b;grind [EI]
theorem cJ5 (l:List e9)(a:l.length<=100)(b:∀x∈l,∀y∈l,x.Channel=y.Channel->x=y):yk l jK=some (l.mergeSort λx y=>!WY y x):=by
 unfold yk;have e:(λx y=>!EI jK y x)=λx y=>!WY y x:=by simp[QI]
 rw[NV ⟨F,λx _ y _=>by obtain⟨c,h,_⟩:=cG4 x y;exact⟨c,h⟩,λx _=>by simp[QI,WY],λx _ y _ z _=>by rw[QI,QI,QI];unfold WY;grind,λx _ y _ z _=>by grind [QI,WY],λx hx y d=>by grind [QI,WY]⟩,e]
def Az (u4:Int)(l:List ai1):List e9:=(yr u4 0 l).mergeSort λx y=>!WY y x
theorem bM3 {R:e9->e9->Prop}{l:List e9}(h:l.Pairwise R)(c:∀a b,R a b->a.Channel≠b.Channel):∀x∈l,∀y∈l,x.Channel=y.Channel->x=y:=by induction h with|nil=>simp|cons h1 _ d=>grind
theorem bH8 (t:w8)(u4:Int):vF t u4=some (bif !T0 t then(tz,[],1)else bif decide (u4<t.D2)then(tz,[],16)else bif decide (u4>Xm)then(tz,[],2)else(⟨u4,t.a8.map<|Cj u4⟩,Az u4 t.a8,0)):=by
 unfold vF Q;rw[Ik];cases h:T0 t;rfl;have v:=Db h;have r:VZ t 0=false:=by grind [VZ]
 rw[r];simp only[AT,cT8,oq,bne_self_eq_false];unfold Xm;cases decide<|u4<t.D2;simp only[cT8];cases decide<|u4>1099511627776;simp only[cT8];obtain⟨s,h1,u⟩:=sB (R:=Empty) t.a8.length F (Bq t u4) (λi s=>s.1=yr u4 0 (t.a8.take i)/\s.2=(t.a8.take i).map (Cj u4)++t.a8.drop i) ([],t.a8) ⟨by simp[yr],by simp⟩ (λj n s ⟨g,l⟩=>by
  have e:t.a8.take (j+1)=t.a8.take j++[t.a8[j]]:=cd8 n;have m:t.a8.drop j=t.a8[j]::t.a8.drop (j+1):=bw1 n;have k:(t.a8.take j).length=j:=by simp;omega
  unfold Bq Q;rw[j2 _ _ n];simp only[oq];cases p:!t.a8[j].u7||decide (t.a8[j].At>u4);have c:due u4 t.a8[j]=true:=by unfold due;rw[p];rfl
  have d:j<s.2.length:=by rw[l];simp;omega
  have o:s.1.length<=16:=by rw[g];have:=Ta u4 (t.a8.take j) 0;simp at this;omega
  have f:s.2.set j ⟨false,0,false,t.a8[j].Next⟩=(t.a8.take<|j+1).map (Cj u4)++t.a8.drop (j+1):=by rw[l,db0 _ _<|by simp;omega,m,e];simp only[cW2,k,cQ9,cT5,dc9,ew,db6,cW5,cY4];unfold Cj;rw[c];rfl
  simp only[cT8];cases q:t.a8[j].Next==t.a8[j].s8;simp only[cV8,cT9];rw[l5 _ _<|by simp;omega];simp only[oq,j2 _ _ d,D4 _ _ _ d];refine⟨_,rfl,?_,f⟩;simp only;rw[e,OG,<-g,k,cX4];unfold Rf;rw[c,q];rfl;simp only[AT,cT8];simp only[oq,j2 _ _ d,D4 _ _ _ d];refine⟨_,rfl,?_,f⟩;simp only;rw[e,OG,<-g,k,cX4];unfold Rf;rw[c,q];simp;have c:due u4 t.a8[j]=false:=by unfold due;rw[p];rfl
  simp only[cT9];refine⟨_,rfl,?_,?_⟩;simp only;rw[e,OG,<-g];unfold Rf;rw[c];simp;simp only;rw[l,m,e];simp only[dc9,ew,db6,cW5,cY4];unfold Cj;rw[c];rfl);rw[h1];obtain⟨g,l⟩:=u;rw[cZ0]at g;rw[cZ0,List.drop_length,iy]at l;simp only[oq];rw[g,l,cJ5 _ (by have:=Ta u4 t.a8 0;omega)<|bM3 (ab3 t.a8 0) λa b h=>by omega];rfl;rfl;rfl
theorem EU (u4:Int)(l:List ai1):(Az u4 l).Perm<|yr u4 0 l:=List.mergeSort_perm _ _
def UT (u4:Int)(l:List ai1):(Az u4 l).Pairwise λa b=>WY a b=true:=by
 have h1:(Az u4 l).Pairwise λa b=>(!WY b a)=true:=List.pairwise_mergeSort (le:=λx y=>!WY y x) λa b c=>by grind [WY] λa b=>by simp only[bh7,nW];grind [WY] _;have e:(Az u4 l).Pairwise λa b=>a.Channel≠b.Channel:=by
  have d:(yr u4 0 l).Pairwise λa b=>a.Channel≠b.Channel:=(ab3 l 0).imp λh=>by omega
  exact(List.Perm.pairwise_iff (λh=>Ne.symm h)<|EU u4 l).2 d
 refine(h1.and e).imp λ{a b}h=>?_;obtain⟨d,f⟩:=h;simp only[nW]at d;unfold WY at d|-;grind
def aO0 {u4:Int}{l:List ai1}{s:e9}:s∈Az u4 l↔∃(j:Nat)(c:ai1),l[j]?=some c/\due u4 c=true/\(c.Next==c.s8)=false/\s=⟨c.At,(j:Int),c.Next⟩:=by rw[(EU u4 l).mem_iff];constructor;grind [YV];rintro⟨j,c,h1,a,b,rfl⟩;have:=aU1 (i:=0) h1 a b;grind
theorem aE7 (u4:Int)(l:List ai1):(Az u4 l).length<=l.length:=by rw[(EU u4 l).length_eq];simp[Ta]
def ca8 {t:w8}{u4:Int}(h:T0 t=true)(h1:¬u4<t.D2)(e:¬u4>1099511627776):T0 ⟨u4,t.a8.map<|Cj u4⟩=true:=by have f:=Db h;unfold T0 at h|-;simp only[BY,nW,cV2]at h|-;refine⟨aM2<|by simp;omega,λc b=>?_⟩;simp only[cX3]at b;obtain⟨c0,a,rfl⟩:=b;have d:=h.2 c0 a;unfold Cj due;unfold chB at d|-;grind
theorem cz0 (n:Nat)(h1:1<=n)(a:n<=16):UM (n:Int)=some (⟨0,cI5 n ⟨false,0,false,false⟩⟩,0):=by grind [UM,Q,yf]
def al3 {now:Int}{c:ai1}(h:chB now c=true)(a:c.u7=true):now<c.At/\c.At<=1099511627776:=by grind [chB]
def nxS (s:Int×Bool)(c:ai1):Int×Bool:=bif c.u7&&(!s.2||decide (c.At<s.1))then(c.At,true)else s
def hZ (l:List ai1):Int×Bool:=l.foldl nxS (0,false)
theorem bz3 (l:List ai1)(h:l.length<=1000)(s:Int×Bool):iI l Ca s=some (.inl<|l.foldl nxS s):=by rw[B5 _ F];grind [VN,Ca,nxS]
theorem bo1 (t:w8):Gm t=some (bif T0 t then hZ t.a8 else(0,false)):=by unfold Gm;rw[bh8];cases h:T0 t;rfl;have a:=Db h;simp only[oq,AT,cT8,cT9];rw[bz3 _ F];rfl
def ax8:∀(l:List ai1)(s:Int×Bool),(∀c∈l,c.u7=true->(l.foldl nxS s).2=true/\(l.foldl nxS s).1<=c.At)/\(s.2=true->(l.foldl nxS s).2=true/\(l.foldl nxS s).1<=s.1)/\((l.foldl nxS s).2=true->l.foldl nxS s=s\/∃c∈l,c.u7=true/\c.At=(l.foldl nxS s).1)
 |[],s=>⟨λc h=>by simp at h,λh=>⟨h,QA _⟩,λ_=>.inl rfl⟩|x::l,s=>by
  obtain⟨h1,f,g⟩:=ax8 l<|nxS s x;simp only[da1];have hx:x.u7=true->(nxS s x).2=true/\(nxS s x).1<=x.At:=λe=>by unfold nxS;rw[e];cases a:!s.2||decide (x.At<s.1);simp only[Ky,cZ4,cU3]at a;simp only[cV0,cT8];exact⟨a.1,by omega⟩;exact⟨rfl,QA _⟩
  have i:s.2=true->(nxS s x).2=true/\(nxS s x).1<=s.1:=λd=>by unfold nxS;cases a:x.u7&&(!s.2||decide (x.At<s.1));exact⟨d,QA _⟩;simp only[d,AT,db8,BY,dg1]at a;exact⟨rfl,by simp only[cT9];omega⟩
  refine⟨λc a e=>?_,λd=>?_,λd=>?_⟩;rcases cV6.1 a with rfl|a;have:=hx e;have b:=f this.1;exact⟨b.1,cZ7 b.2 this.2⟩;exact h1 c a e;have:=i d;have b:=f this.1;exact⟨b.1,cZ7 b.2 this.2⟩;rcases g d with b|⟨c,j,k,m⟩;rw[b];unfold nxS;cases a:x.u7&&(!s.2||decide (x.At<s.1));exact .inl rfl;simp only[BY]at a;exact .inr ⟨x,cV7 ..,a.1,rfl⟩;exact .inr ⟨c,cV3 _ j,k,m⟩
theorem Je {l:List ai1}{c:ai1}(a:c∈l)(b:c.u7=true):(hZ l).2=true/\(hZ l).1<=c.At:=(ax8 l (0,false)).1 c a b
def Nz {l:List ai1}(h:(hZ l).2=true):∃c∈l,c.u7=true/\c.At=(hZ l).1:=by rcases(ax8 l (0,false)).2.2 h with h1|h1;exfalso;unfold hZ at h;rw[h1]at h;cases h;exact h1
def Zd {l:List ai1}{u4:Int}(h:∀c∈l,due u4 c=false):Az u4 l=[]/\l.map (Cj u4)=l:=by
 have h1:∀(l:List ai1)(i:Nat),(∀c∈l,due u4 c=false)->yr u4 i l=[]:=by intro l;induction l with|nil=>intro i _;rfl|cons x l a=>grind [Rf,yr]
 refine⟨by simp_all[Az],?_⟩;rw[List.map_congr_left (g:=id) λc b=>by grind [Cj]];simp
theorem SL (t:w8)(h:t.a8.length<=1000):zy t=some (hZ t.a8):=by
 unfold zy Q;have k:=bd1 (mb:=ln t) (λi s=>(s.1,s.2,(i:Int))) (g:=nxS) (out:=λs=>.inl (s.1,s.2,(t.a8.length:Int))) t.a8 (0,false) λs=>by simp[ln,Q] (λj ⟨a,b⟩y c=>by
  have d:=(No.1 c).1;unfold ln nxS Q;have e:decide ((j:Int)<(t.a8.length:Int))=true:=by simp;omega
  simp only[e,B3,c,oq,cT9,b6 (n:=(j:Int)+1) F F];grind);simp only at k;rw[show((0:Nat):Int)=0 from rfl]at k;rw[k];rfl
def atB (m:Int)(c:ai1):Bool:=!(!c.u7||c.At !=m)
def OO (m:Int)(c:ai1):ai1:=bif atB m c then⟨false,0,false,c.Next⟩else c
def atW (m:Int)(i:Nat)(c:ai1):List e9:=bif atB m c&&!c.s8==c.Next then[⟨m,(i:Int),c.Next⟩]else[]
def LW (m:Int):Nat->List ai1->List e9|_,[]=>[]|i,c::r=>atW m i c++LW m (i+1) r
def cf1 (m:Int)(i:Nat)(c:ai1):(atW m i c).length<=1:=by grind [atW]
def as2 (m:Int):∀(l:List ai1)(i:Nat),(LW m i l).length<=l.length|[],_=>cW6 _|c::r,i=>by have:=as2 m r<|i+1;have:=cf1 m i c;simp only[LW,IT,cU9];omega
theorem RC (m:Int):∀(l:List ai1)(i:Nat)(c:ai1),LW m i (l++[c])=LW m i l++atW m (i+l.length) c|[],i,c=>by simp[LW]|x::l,i,c=>by simp only[cX8,LW,cW5,List.append_cancel_left_eq,cU9];rw[RC m l (i+1) c,show i+1+l.length=i+(l.length+1)by omega]
def ax2 {m:Int}{s:e9}:∀{l:List ai1}{i:Nat},s∈LW m i l->s.At=m/\(i:Int)<=s.Channel|[],i,h=>by simp[LW]at h|c::r,i,h=>by simp only[LW,bX2]at h;rcases h with h|h;unfold atW at h;grind;have:=ax2 h;omega
def bj5 {m:Int}:∀(l:List ai1)(i:Nat),(LW m i l).Pairwise λa b=>WY a b=true
 |[],_=>.nil|c::r,i=>by
  simp only[LW];rw[cu5];refine⟨?_,bj5 r<|i+1,λa d b e=>?_⟩;unfold atW;cases atB m c&&!c.s8==c.Next<;>simp;have h1:a.At=m/\a.Channel=(i:Int):=by unfold atW at d;grind
  have f:=ax2 e;unfold WY;grind
theorem WI {m:Int}{c:ai1}:atB m c=true↔c.u7=true/\c.At=m:=by simp[atB]
def aa5 {u4 m:Int}(a:m<=u4):∀(l:List ai1)(i:Nat),(yr u4 i l).Perm<|LW m i l++yr u4 i (l.map<|OO m)
 |[],_=>.refl _|c::r,i=>by
  have b:=aa5 a r<|i+1;have d:Rf u4 i c=atW m i c++Rf u4 i (OO m c):=by grind [atW,OO,Rf,due,WI]
  simp only[yr,LW,ew];rw[d];simp only[cW5];refine cS4 _ ?_;refine(cS4 _ b).trans ?_;grind [List.Perm.append_right,df0]
theorem VR:∀{l m:List e9},l.Pairwise (λa b=>WY a b=true)->m.Pairwise (λa b=>WY a b=true)->l.Perm m->l=m
 |[],m,_,_,hp=>hp.nil_eq|x::l,[],_,_,hp=>by simp_all|x::l,y::m,e,f,hp=>by
  have asym:∀a b:e9,WY a b=true->WY b a=true->False:=λa b h1 c=>by unfold WY at h1 c;grind
  have d:x=y:=by have h1:x∈y::m:=hp.mem_iff.1<|cV7 ..;have c:y∈x::l:=hp.mem_iff.2<|cV7 ..;rcases cV6.1 h1 with h1|h1;exact h1;rcases cV6.1 c with c|c;exact c.symm;exact(asym x y ((ba8.1 e).1 y c)<|(ba8.1 f).1 x h1).elim
  subst d;rw[VR (ba8.1 e).2 (ba8.1 f).2<|List.Perm.cons_inv hp]
theorem bs5 {u4 m:Int}{l:List ai1}(o:m<=u4)(f:∀c∈l,c.u7=true->m<=c.At):Az u4 l=LW m 0 l++Az u4 (l.map<|OO m):=by refine VR (UT _ _) ?_<|(EU u4 l).trans<|(aa5 o l 0).trans<|cS4 _ (EU u4 _).symm;rw[cu5];refine⟨bj5 l 0,UT _ _,λa i b k=>?_⟩;have h1:=(ax2 i).1;obtain⟨j,c,g,p,r,rfl⟩:=aO0.1 k;rw[List.getElem?_map]at g;cases n:l[j]?with|none=>grind|some d=>
  rw[n]at g;simp only[Option.map_some,AI]at g;subst g;cases k:atB m d;have e:OO m d=d:=by grind [OO]
  rw[e]at p|-;have i:d.u7=true:=by grind [due]
  have:=f d (bX3 n) i;have q:d.At≠m:=λh=>by grind [WI]
  unfold WY;grind;grind [OO,due]
def ce2 {u4 m:Int}(a:m<=u4)(c:ai1):Cj u4 (OO m c)=Cj u4 c:=by grind [OO,WI,due,Cj]
theorem MX (out:List e9)(m:Int)(b:Bool)(l:List ai1)(h:l.length<=16)(w:out.length<=1000):o3 (aH (out,m,b,l)) (0,l,out)=some (.inl ((l.length:Int),l.map<|OO m,out++LW m 0 l)):=by
 obtain⟨r,h1,u⟩:=Ba (mb:=aH (out,m,b,l)) (λi s=>s=((i:Int),(l.take i).map (OO m)++l.drop i,out++LW m 0 (l.take i))) (λr=>r=.inl ((l.length:Int),l.map<|OO m,out++LW m 0 l)) l.length 0 (0,l,out) (by simp[LW]) λj _ k s p=>by
  subst p;have k:j<l.length:=by omega
  have e:l.take (j+1)=l.take j++[l[j]]:=cd8 k;have f:l.drop j=l[j]::l.drop (j+1):=bw1 k;have a:(l.take j).length=j:=by simp;omega
  have c:((l.take j).map (OO m)++l.drop j).length=l.length:=by simp;omega
  have o:((l.take j).map (OO m)++l.drop j)[j]?=some l[j]:=by rw[dc0<|by simp;omega,cW2,a,cQ9,f];rfl
  unfold aH Q;have d1:decide ((j:Int)<(((l.take j).map (OO m)++l.drop j).length:Int))=true:=by rw[c];simp;omega
  simp only[d1,cT9,B3,o,oq,b6 (n:=(j:Int)+1) F F];have d:((l.take j).map (OO m)++l.drop j).set j ⟨false,0,false,l[j].Next⟩=(l.take j).map (OO m)++⟨false,0,false,l[j].Next⟩::l.drop (j+1):=by rw[db0 _ _<|by simp;omega,cW2,a,cQ9,f,cT5]
  cases q:!l[j].u7||l[j].At !=m
  ·have g:atB m l[j]=true:=by unfold atB;rw[q];rfl
   have e1:OO m l[j]=⟨false,0,false,l[j].Next⟩:=by unfold OO;rw[g];rfl
   simp only[cT8];have v:(out++LW m 0 (l.take j)).length<=1100:=by have:=as2 m (l.take j) 0;simp only[IT,cV5]at this|-;omega
   cases t:l[j].s8==l[j].Next;·simp only[cV8,cT9];rw[l5 _ _<|by simp only[cX9];omega];simp only[oq];rw[D4 _ _ _<|by rw[c];exact k,d];refine⟨_,rfl,?_⟩;rw[e,RC,a,cX4];unfold atW;rw[g,t];simp only[dc9,ew,db6,e1,cW5,cY4];first|rfl|simp only[AT,cY3,cT8,iy];rfl
   ·simp only[AT,cT8,oq];rw[D4 _ _ _<|by rw[c];exact k,d];refine⟨_,rfl,?_⟩;rw[e,RC,a,cX4];unfold atW;rw[g,t];simp only[dc9,ew,db6,e1,cW5,cY4];first|rfl|simp only[AT,cY3,cT8,iy];rfl
  ·have g:atB m l[j]=false:=by unfold atB;rw[q];rfl
   have e1:OO m l[j]=l[j]:=by unfold OO;rw[g];rfl
   refine⟨_,rfl,?_⟩;rw[e,RC,a,cX4,f];unfold atW;rw[g];simp only[dc9,ew,db6,e1,cW5,cY4,dc2,cT8,iy];rfl (λs p=>by
  subst p;unfold aH Q;have d1:decide (((0+l.length:Nat):Int)<(((l.take<|0+l.length).map (OO m)++l.drop (0+l.length)).length:Int))=false:=by simp
  simp only[d1,cT8];exact⟨_,rfl,by simp⟩);rw[h1,u]
def ao9 (u4:Int)(v:w8)(l:List ai1)(out:List e9)(d:∀c∈l,due u4 c=false):∃a b,o3 (R3 u4 v) (out,(hZ l).1,(hZ l).2,l)=some (.inl (out++Az u4 l,a,b,l.map<|Cj u4)):=by
 have e:((hZ l).2&&decide ((hZ l).1<=u4))=false:=by cases f:(hZ l).2;rfl;obtain⟨c,g,h,i⟩:=Nz f;have:=d c g;unfold due at this;rw[h]at this;simp at this;simp;omega
 obtain⟨k1,k2⟩:=Zd d;refine⟨(hZ l).1,(hZ l).2,?_⟩;rw[k1,k2,iy];refine j3 ?_;unfold R3 Q;simp only[e,cT8]
def aK2 {α:Type}{p q:α->Bool}:∀{l:List α}{y:α},(∀x,p x=true->q x=true)->y∈l->q y=true->p y=false->l.countP p<l.countP q|[],y,_,a,_,_=>by simp at a|x::l,y,h,a,b,hp=>by have c:l.countP p<=l.countP q:=List.countP_mono_left λx _ hx=>h x hx;rcases cV6.1 a with rfl|a;grind;have:=aK2 h a b hp;grind
def bU4 (u4:Int)(v:w8):∀(n:Nat)(l:List ai1)(out:List e9),l.countP (due u4)<=n->l.length<=16->out.length+n*16<=1000->∃a b,o3 (R3 u4 v) (out,(hZ l).1,(hZ l).2,l)=some (.inl (out++Az u4 l,a,b,l.map<|Cj u4)):=by intro n;induction n with|zero=>intro l out u o w;exact ao9 u4 v l out λc m=>by grind|succ n y=>
  intro l out u o w;by_cases t:∀c∈l,due u4 c=false;exact ao9 u4 v l out t;obtain⟨c,m,f⟩:∃c∈l,due u4 c=true:=by refine Classical.byContradiction λhx=>t λc m=>?_;cases h:due u4 c;rfl;exact(hx ⟨c,m,h⟩).elim
  have p:c.u7=true/\c.At<=u4:=by unfold due at f;cases h:c.u7<;>simp[h]at f|-;exact f
  obtain⟨h1,B⟩:=Je m p.1;have z:((hZ l).2&&decide ((hZ l).1<=u4))=true:=by rw[h1];simp;omega
  obtain⟨c0,q,g,i⟩:=Nz h1;have A:(hZ l).1<=u4:=by omega
  have j:(l.map<|OO (hZ l).1).length<=16:=by simpa using o
  have r:R3 u4 v (out,(hZ l).1,(hZ l).2,l)=some (.inl (out++LW (hZ l).1 0 l,(hZ<|l.map<|OO (hZ l).1).1,(hZ<|l.map<|OO (hZ l).1).2,l.map<|OO (hZ l).1)):=by unfold R3 Q;simp only[z,cT9];rw[MX _ _ _ _ o F];simp only[oq];rw[SL _<|by simp only[cW2];omega];rfl
  have d:(l.map<|OO (hZ l).1).countP (due u4)<=n:=by
   have C:(l.map<|OO (hZ l).1).countP (due u4)<l.countP (due u4):=by
    rw[List.countP_map];exact aK2 (λx hx=>by
     simp only[Function.comp_apply]at hx;cases k:atB (hZ l).1 x;have e:OO (hZ l).1 x=x:=by unfold OO;rw[k];rfl
     rwa[e]at hx;unfold OO due at hx;rw[k]at hx;simp at hx) q (by unfold due;rw[g];simp;omega)<|by simp only[Function.comp_apply];unfold OO due;rw[WI.2 ⟨g,i⟩];rfl
   omega
  have s:(out++LW (hZ l).1 0 l).length+n*16<=1000:=by have:=as2 (hZ l).1 l 0;simp only[IT];omega
  obtain⟨a,b,D⟩:=y _ (out++LW (hZ l).1 0 l) d j s;refine⟨a,b,?_⟩;have E:(l.map<|OO (hZ l).1).map (Cj u4)=l.map (Cj u4):=by rw[List.map_map];exact List.map_congr_left λx _=>ce2 A x
  grind [j7,bs5,Je]
end Tm
end Go.Pv

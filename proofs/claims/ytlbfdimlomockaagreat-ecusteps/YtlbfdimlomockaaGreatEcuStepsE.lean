/- A part of the proof of EcuSteps: Plain Lean, and more. -/
import Derived.Test.YtlbfdimlomockaaGreatEcuStepsD
import Derived.KernelRfl
set_option linter.all false
set_option maxRecDepth 100000
noncomputable section
open Bool renaming and_assoc->df9,and_eq_true->BY,and_false->cY3,and_true->dd8,eq_iff_iff->zc,false_and->dc2,false_eq_true->cX5,false_or->db8,not_eq_true'->nW,not_false->cV8,not_not->cM8,not_true->AT,or_eq_true->bh7,or_false->cM1,or_self->aj3,true_and->cV0,true_or->cS9
open Int renaming ediv_eq_zero_of_lt->cZ1,ediv_le_ediv->cv2,ediv_le_self->cC0,ediv_nonneg->cY5,emod_lt_of_pos->cM3,emod_nonneg->cZ3,le_refl->QA,mul_le_mul_of_nonneg_left->cX2,mul_nonneg->cM7,natAbs->df4,tdiv->bQ2,tdiv_eq_ediv_of_nonneg->br2,tmod->uk,tmod_eq_emod_of_nonneg->aW6
open Go.IntKind renaming bits->cL0,u64->IS
open List renaming all_eq_true->cV2,any_eq_false->cH5,any_eq_not_all_not->dc8,append_nil->iy,filter_append->bO6,filter_cons->dc3,filter_cons_of_pos->dd7,filter_eq_nil_iff->cu9,filter_nil->dd6,getElem?_eq_getElem->IN,getElem?_eq_none->cK8,getElem?_eq_some_iff->No,getElem_mem->al8,length_append->IT,length_cons->cU9,length_filter_le->cD8,length_singleton->cX9,mem_append->bX2,mem_cons->cV6,mem_cons_self->cV7,mem_filter->de0,mem_iff_getElem->Kz,mem_range'->df8,not_mem_nil->cC1,pairwise_append->cu5,pairwise_cons->ba8,range->MY,range'->cX1,replicate->cI5
open Nat renaming div_le_self->de6,eq_zero_or_pos->cz3,lt_or_ge->db7
open Option renaming bind->tI,bind_assoc->iZ,bind_some->oq
open Option.some renaming injEq->AI
open Sum renaming inl->df6
namespace Go.Proofs.YtlbfdimlomockaaGreat.Ec
open Go Go.Pv Go.Proofs
theorem cy8 {x y:Int}(h:y<x):ba9 x y=y:=by unfold ba9;rw[if_pos h]
theorem bd3 {x y:Int}(h:x<=y):ba9 x y=x:=by simp_all[ba9,if_neg]
def T0 (t:Int):Bool:=decide (t>=0)&&decide (t<=1099511627776)
theorem sQ {t:Int}:T0 t=true↔0<=t/\t<=1099511627776:=by simp[T0]
theorem bf {a b:Int}(h:¬a=b):(a==b)=false:=by grind
theorem bnt {a b:Int}(h:¬a=b):(a !=b)=true:=by grind
def tfB (f:N3):Bool:=T0 f.A6&&T0 f.q8&&decide (f.q8<=f.A6)&&(f.Seen||f.A6==0&&f.q8==0)
theorem br5 (t:Int):(ox t).m=some (T0 t):=rfl
theorem ab7 (f:N3):(gm f).m=some (tfB f):=by simp only[gm,C.of,M.run,br5,oq];grind [tfB]
theorem cU7 (t:Int):(co1 t).m=some (T0 t):=rfl
theorem cD5 (f:N3):(bY4 f).m=some (tfB f):=by simp only[bY4,C.of,M.run,cU7,oq];cases a:f.Seen<;>simp only[AT,cV8,cT9,cT8,AI]<;>rw[zc]<;>simp[tfB,T0,a]<;>omega
def ca6 {f:N3}(h:tfB f=true)(a:f.Seen=true):∃n,(uA f).m=some n/\(rU f).m=some n/\20<=n:=by refine⟨q9 20<|H<|bQ2 f.q8 4,?_,?_,by grind [q9]⟩;simp_all[uA,C.of,M.run,ab7];simp only[rU,C.of,M.run,a,AT,cT8];unfold q9;grind
def cp5 {f:N3}{t:Int}(h1:tfB f=true)(c:T0 t=true)(i:f.A6<=t):∃g b,(wU f t).m=some (g,b,0)/\(ug f t).m=some (g,b)/\tfB g=true/\(b=false->g=f)/\(b=true->g.Seen=true/\g.A6=t/\(f.Seen=true->f.A6<t)):=by have ht:=sQ.1 c;have a:=h1;simp only[tfB,BY,dg1,sQ]at a;simp only[wU,ug,C.of,M.run,ab7,br5,h1,c,oq,AT,cT8];rw[cU1<|show¬t<f.A6 by omega,cY3];cases d:f.Seen;exact⟨_,_,rfl,rfl,by simp[tfB,T0,ht],λh=>(by cases h),λ_=>⟨rfl,rfl,λh=>by cases h⟩⟩;obtain⟨n,e1,e2,j⟩:=ca6 h1 d;have w:H (t-f.A6)=t-f.A6:=b6 F F;simp only[cT9,cT8,e1,e2,w,oq];by_cases e:t-f.A6<n;simp_all;rw[cU1 e];exact⟨_,_,rfl,rfl,by grind [tfB,T0],λh=>(by cases h),λ_=>⟨rfl,rfl,λ_=>by omega⟩⟩
def grB (g:dU):Bool:=decide (g.Over>=0)&&decide (g.Over<=5)&&(decide (g.Calm>=0)&&decide (g.Calm<=1000))&&(g.Over==0||g.Calm==0)&&(g.ET||decide (g.Over<5))
theorem Uk (x a b:Int):(aF x a b).m=some (decide (x>=a)&&decide (x<=b)):=rfl
theorem YD (g:dU):(pk g).m=some (grB g):=by simp only[pk,C.of,M.run,Uk,oq];cases h:decide (g.Over>=0)&&decide (g.Over<=5)<;>simp[grB,h]
theorem cY6 (x a b:Int):(cj9 x a b).m=some (decide (x>=a)&&decide (x<=b)):=rfl
theorem cD2 (g:dU):(cc5 g).m=some (grB g):=by simp only[cc5,C.of,M.run,cY6,oq];cases h:decide (g.Over>=0)&&decide (g.Over<=5)<;>simp[grB,h,Bool.or_comm]
theorem bw5 (t:Int):(AU t).m=some (decide (t>=-20000)&&decide (t<=20000)):=rfl
def bm3 {g:dU}{p a:Int}(h1:grB g=true)(hp:-20000<=p/\p<=20000)(d:-20000<=a/\a<=20000):∃h,(FI g p a).m=some (h,0)/\(mu g p a).m=some h/\grB h=true:=by
 have e:=h1;simp only[grB,BY,dg1,bh7,beq_iff_eq]at e;have f:H (g.Over+1)=g.Over+1:=b6 F F;have i:H (g.Calm+1)=g.Calm+1:=b6 F F;have e1:(decide (p>=-20000)&&decide (p<=20000))=true:=by simp[hp]
 have e2:(decide (a>=-20000)&&decide (a<=20000))=true:=by simp[d]
 simp only[FI,mu,C.of,M.run,YD,bw5,h1,e1,e2,f,i,oq,AT,cT8];by_cases c:a>p;rw[cU0 c];simp only[cT9,oq];by_cases b:g.Over+1>5;rw[cU0 b,bd3 F];exact⟨_,rfl,rfl,by simp[grB]⟩;rw[cU1 b];have:ba9 5 (g.Over+1)=g.Over+1:=by grind [ba9]
 rw[this];refine⟨_,rfl,rfl,?_⟩;simp only[grB,BY,dg1,bh7,beq_iff_eq];grind;rw[cU1 c];simp only[cT8,oq];by_cases b:g.Calm+1>1000;rw[cU0 b,bd3 F];refine⟨_,rfl,rfl,?_⟩;simp[grB];rw[cU1 b];have:ba9 1000 (g.Calm+1)=g.Calm+1:=by grind [ba9]
 rw[this];refine⟨_,rfl,rfl,?_⟩;grind [grB]
def quB (n:Int):Bool:=decide (n>=1)&&decide (n<=65535)
def qzB (q:bc):Bool:=quB q.Question&&T0 q.jo&&(q.Open||q.jo==0)&&decide (q.aR>=0)&&decide (q.aR<=7)&&q.ET==(q.aR==7)&&!(q.Open&&q.ET)
theorem NG (n:Int):(pn n).m=some (quB n):=rfl
theorem QR (n:Int):(zi n).m=some (T0 n):=rfl
theorem cm8 (n:Int):(Ni n).m=some (decide (n>=0)&&decide (n<=65535)):=rfl
theorem SE (q:bc):(tA q).m=some (qzB q):=by simp only[tA,C.of,M.run,NG,QR,oq];grind [qzB]
theorem aq3 (q:bc):(kI q).m=some (qzB q):=by simp only[kI,C.of,M.run,show∀n,(yd n).m=some (quB n)from λ_=>rfl,show∀n,(bV n).m=some (T0 n)from λ_=>rfl,oq];grind [qzB]
theorem bI4 (l:List Int)(a:l.length<=1000000)(f:Cl Tryz.prog Int Bool (λx=>[.t<|Y x]) λr=>.t<|tB r)(p:Int->Bool)(h:∀x∈l,f.f x=some (p x)):(w7 l f).m=some (l.any p):=by simp only[w7,fD,iA,C.of,M.run,L1.m,Cl.at];refine Eq.trans ?_<|FC l F f.f p h;kernel_rfl
def w16 (x:Int):Prop:=0<=x/\x<=65535
theorem aQ9 {a b c:Int}(d:w16 a)(f:w16 b)(g:w16 c):(ED [a,b,c]).m=some true/\(uo [a,b,c]).m=some true:=by
 unfold w16 at d f g;constructor;simp only[ED,C.of,M.run];rw[bI4 [a,b,c] sq _ (λp=>!(decide (p>=0)&&decide (p<=65535))) λx _=>rfl];grind;have st:∀k:Nat,k<3->(gM [a,b,c] k).run=some (.inl ((k+1:Nat):Int)):=λk hk=>by
  have:k=0\/k=1\/k=2:=by omega
  simp only[gM,M.run,L1.m,B3];rcases this with rfl|rfl|rfl<;>simp[d,f,g,show¬a<0 by omega,show¬b<0 by omega,show¬c<0 by omega,show¬a>65535 by omega,show¬b>65535 by omega,show¬c>65535 by omega]<;>rfl
 have e:o3 (λs=>(gM [a,b,c] s).run) 0=some (.inl 3):=cd (λk:Nat=>(k:Int)) 3 rfl st;simp_all[uo,C.of,M.run]
theorem cF5 (x:Int):F5 .i64 x 65535=x%65536:=by
 unfold F5;show IntKind.i64.wrap ((BitVec.ofInt 64 x&&&BitVec.ofInt 64 65535).toNat:Int)=_;have e:(BitVec.ofInt 64 x&&&BitVec.ofInt 64 (65535:Int)).toNat=(BitVec.ofInt 64 x).toNat%65536:=by rw[BitVec.toNat_and,show(BitVec.ofInt 64 (65535:Int)).toNat=2^16-1 by rfl,Nat.and_two_pow_sub_one_eq_mod]
 grind [b6,BitVec.toNat_ofInt]
def ap4 {n a b c:Int}(d:quB n=true)(f:w16 a)(g:w16 b)(j:w16 c):∃r,(vq n [a,b,c]).m=some (r,0)/\(W7 n [a,b,c]).m=some r/\w16 r:=by
 simp only[vq,C.of,M.run,(aQ9 f g j).1,NG,d,oq,AT,cT8];simp only[quB,BY,dg1]at d;unfold w16 at*;have st:∀n x:Int,0<=n->n<=65535->0<=x->x<=65535->H (H (H (5*n)+x)+1)=5*n+x+1:=λn x _ _ _ _=>by rw[b6 (n:=5*n) F F,b6 (n:=5*n+x) F F,b6 F F]
 have s1:=st n a F F F F;have s2:=st ((5*n+a+1)%65536) b F F F F;have s3:=st ((5*((5*n+a+1)%65536)+b+1)%65536) c F F F F;refine⟨(5*((5*((5*n+a+1)%65536)+b+1)%65536)+c+1)%65536,?_,?_,by omega⟩;have e:iI [a,b,c] (λi x t=>(AV i x t).run) n=some (.inl<|(5*((5*((5*n+a+1)%65536)+b+1)%65536)+c+1)%65536):=by rw[B5 _ sq];simp only[F0,AV,M.run,cF5,oq];rw[s1,s2,s3]
 exact C2 e rfl;have tm:∀x:Int,0<=x->uk x 65536=x%65536:=λx h=>aW6 h;have e:o3 (λs=>(vm [a,b,c] s).run) (n,0)=some (.inl ((5*((5*((5*n+a+1)%65536)+b+1)%65536)+c+1)%65536,3)):=by rw[j7 (s':=((5*n+a+1)%65536,1)) ?_,j7 (s':=((5*((5*n+a+1)%65536)+b+1)%65536,2)) ?_,j7 (s':=((5*((5*((5*n+a+1)%65536)+b+1)%65536)+c+1)%65536,3)) ?_];exact j3 rfl;show some (df6 (uk (H<|H (H (5*_)+c)+1) 65536,H<|2+1))=_;rw[s3,tm _ F];rfl;show some (df6 (uk (H<|H (H (5*_)+b)+1) 65536,H<|1+1))=_;rw[s2,tm _ F];rfl;show some (df6 (uk (H<|H (H (5*_)+a)+1) 65536,H<|0+1))=_;rw[s1,tm _ F];rfl
 simp only[W7,C.of,M.run,e,oq]
theorem cQ2 (a:Nat)(h:a<32768):as3 .i64 (a:Int) 46080=((a^^^46080:Nat):Int):=by
 unfold as3;have e1:(BitVec.ofInt (cL0 .i64) (a:Int)).toNat=a:=by show(BitVec.ofInt 64 (a:Int)).toNat=a;simp;omega
 have e2:(BitVec.ofInt (cL0 .i64) (46080:Int)).toNat=46080:=by rfl
 rw[BitVec.toNat_xor,e1,e2];have:a^^^46080<2^16:=Nat.xor_lt_two_pow F F;grind [b6]
theorem cN2 (a:Nat)(h:a<65536):F5 .i64 (a:Int) 1=((a%2:Nat):Int):=by grind [F5,cL0,b6]
theorem cP3 (a:Nat):w9 .i64 (a:Int) 1=((a/2:Nat):Int):=by unfold w9;show(a:Int).fdiv 2=_;grind
def cq6 (a:Nat)(h:a<32768):0<a^^^46080:=by
 have h1:(a^^^46080).testBit 15=true:=by grind
 grind
def cm7 (n:Int)(h:quB n=true):∃m,(Nh n).m=some m/\(uq n).m=some m/\quB m=true:=by simp only[Nh,uq,C.of,M.run,NG,h,oq,AT,cT8];simp only[quB,BY,dg1]at h;obtain⟨a,rfl⟩:∃a:Nat,n=(a:Int):=⟨n.toNat,by omega⟩;rw[cN2 a F,cP3,show uk (a:Int) 2=((a%2:Nat):Int)by rfl,show H (bQ2 (a:Int) 2)=((a/2:Nat):Int)by grind [b6]];cases h1:((a%2:Nat):Int)==1;simp only[beq_eq_false_iff_ne]at h1;exact⟨_,rfl,rfl,by simp only[quB,BY,dg1];omega⟩;rw[cQ2 _ F];have b:a/2^^^46080<2^16:=Nat.xor_lt_two_pow F F;have c:=cq6 (a/2) F;exact⟨_,rfl,rfl,by simp only[quB,BY,dg1];omega⟩
def cA2 (q:bc)(b:Bool)(h:qzB q=true):∃r,(QE q b).m=some r/\(ir q b).m=some r/\qzB r=true/\r.jo=0:=by
 simp only[qzB,BY,dg1,bh7,beq_iff_eq,nW]at h;have a:H (q.aR-1)=q.aR-1:=b6 F F;have c:H (q.aR+2)=q.aR+2:=b6 F F;have d:ba9 (q.aR+2) 7=ba9 7 (q.aR+2):=by grind [ba9]
 have e:q9 (q.aR-1) 0=q9 0 (q.aR-1):=by grind [q9]
 simp only[QE,ir,C.of,M.run,a,c,d,e];have h1:=h.1.1.1.1.1.1;cases b;refine⟨_,rfl,rfl,?_,rfl⟩;grind [ba9,qzB,T0];refine⟨_,rfl,rfl,?_,rfl⟩;grind [q9,qzB,T0]
def cA1 {q:bc}{now:Int}(h:qzB q=true)(a:T0 now=true):∃r n e,(QC q now).m=some (r,n,e)/\(od q now).m=some (r,n,e)/\(e=0->qzB r=true/\r.jo=now):=by simp only[QC,od,C.of,M.run,SE,aq3,QR,show∀n,(bV n).m=some (T0 n)from λ_=>rfl,h,a,oq,AT,cT8];cases b:q.Open||q.ET;simp only[Bool.or_eq_false_iff]at b;simp only[qzB,BY,dg1,bh7,beq_iff_eq,nW]at h;obtain⟨m,e1,e2,c⟩:=cm7 q.Question h.1.1.1.1.1.1;simp only[cT8,e1,e2,oq];refine⟨_,_,_,rfl,rfl,λ_=>⟨?_,rfl⟩⟩;grind [qzB];grind
def bV3 {q:bc}{now x a b c:Int}(h:qzB q=true)(j:T0 now=true)(hx:w16 x)(d:w16 a)(f:w16 b)(g:w16 c):∃r e,(EC q now x [a,b,c]).m=some (r,e)/\(eo q now x [a,b,c]).m=some (r,e)/\(e=0->qzB r=true/\r.jo=0):=by
 have i:=h;simp only[qzB,BY]at i;obtain⟨y,e1,e2,o⟩:=ap4 i.1.1.1.1.1.1 d f g;obtain⟨g1,g2⟩:=aQ9 d f g;unfold w16 at hx;simp only[EC,eo,C.of,M.run,SE,aq3,QR,show∀n,(bV n).m=some (T0 n)from λ_=>rfl,g1,g2,cm8,e1,e2,h,j,oq,AT,cT8];rw[show(decide (x>=0)&&decide (x<=65535))=true by simp[hx],cU1<|show¬x<0 by omega,cU1<|show¬x>65535 by omega];simp only[AT,aj3,cT8,oq];cases q.Open;exact⟨_,_,rfl,rfl,λh=>by cases h⟩;cases decide<|now<q.jo;simp only[AT,cT8];have k:(y==x)=(x==y):=by grind
 obtain⟨r,k1,k2,l,k4⟩:=cA2 q (y==x&&decide (H (now-q.jo)>=10000)&&decide (H (now-q.jo)<=20000)) h;refine⟨r,0,C2 k1 rfl,?_,λ_=>⟨l,k4⟩⟩;grind;exact⟨_,_,rfl,rfl,λh=>by cases h⟩
def sgB (s:fJ):Bool:=decide (s.Ro>=0)&&decide (s.Ro<=3)&&s.J1==(s.Ro==0)&&T0 s.Ce
theorem az8 (t:Int):(EF t).m=some (T0 t):=rfl
theorem ZZ (s:fJ):(vv s).m=some (sgB s):=by simp only[vv,C.of,M.run,az8,oq];grind [sgB]
theorem cD4 (s:fJ):(cd4 s).m=some (sgB s):=by simp only[cd4,C.of,M.run,sgB,T0,df9]
def bY2 (key:Bool)(g:dU)(q:bc):∃c,(HS key g q).m=some c/\(rY key g q).m=some c/\0<=c/\c<=3:=by simp only[HS,rY,C.of,M.run];cases key<;>cases g.ET<;>cases q.ET<;>exact⟨_,rfl,rfl,by decide,by decide⟩
def co3 {s:fJ}{g:dU}{q:bc}{now:Int}(key:Bool)(h1:sgB s=true)(h:grB g=true)(i:qzB q=true)(b:T0 now=true)(d:s.Ce<=now):∃r,(KH s key g q now).m=some (r,0)/\(mx s key g q now).m=some r/\sgB r=true/\r.Ce<=now:=by obtain⟨c,e1,e2,c0,e⟩:=bY2 key g q;simp only[KH,mx,C.of,M.run,ZZ,YD,SE,az8,e1,e2,h1,h,i,b,oq,AT,cT8];rw[cU1<|show¬now<s.Ce by omega];have a:=h1;simp only[sgB,BY]at a;have e:decide (c<=3)=true:=cU0 e;have c0:decide (c>=0)=true:=cU0 c0;by_cases f:c=0;subst f;cases s.J1;exact⟨_,rfl,rfl,by simp[sgB,b],QA _⟩;exact⟨_,rfl,rfl,by simp[sgB,a.2],d⟩;rw[bf f];cases s.J1;exact⟨_,rfl,rfl,by simp_all[sgB],d⟩;exact⟨_,rfl,rfl,by simp_all[sgB],QA _⟩
abbrev w0:U9:=⟨60,2⟩
abbrev c0:Ig:=⟨[5000,12000,30000]⟩
theorem OK:(xT).m=some w0:=rfl
theorem Sa:(CC).m=some c0:=rfl
theorem QX:(ep).m=some w0:=rfl
theorem aR0:(wR).m=some c0:=rfl
theorem OL:(hR w0).m=some true:=(hR w0).le 1 _<|by kernel_rfl
theorem Jt:(lK w0).m=some 58:=(lK w0).le 1 _<|by kernel_rfl
theorem UQ:(pJ w0).m=some 384:=(pJ w0).le 1 _<|by kernel_rfl
theorem al1:(nk c0).m=some true:=(nk c0).le 100 _<|by kernel_rfl
theorem aZ6:(FO c0).m=some (2,1):=(FO c0).le 100 _<|by kernel_rfl
theorem QY:(eb w0).m=some true:=(eb w0).le 1 _<|by kernel_rfl
theorem Ge:(al w0).m=some 58:=rfl
theorem ZU:(ea w0).m=some 384:=(ea w0).le 1 _<|by kernel_rfl
theorem cN8:(ci6 c0).m=some true:=(ci6 c0).le 100 _<|by kernel_rfl
theorem aR1:(pT c0).m=some (2,1):=(pT c0).le 100 _<|by kernel_rfl
theorem be8 {a b:Int}(c:0<=a)(d:0<b)(e:a<=9223372036854775807):KT .i64 a b=some (a/b):=by unfold KT;rw[if_neg F,br2 c];have h1:a/b<=a:=cC0 b c;have h0:0<=a/b:=cY5 c F;exact congrArg some<|b6 F F
def syB (s:T2):Bool:=if s.Mode=0 then s.aU==0&&(s.A6==0&&(s.q8==0&&(s.J8==0&&s.V4==0)))else if s.Mode=1 then(s.aU==0)&&T0 s.A6&&if s.V4=0 then s.q8==0&&s.J8==0 else(s.V4==1||s.V4==2)&&decide (s.q8>=1)&&decide (s.q8<=s.A6)&&(s.J8==s.q8)else if s.Mode=2 then decide (s.aU>=0)&&decide (s.aU<58)&&T0 s.A6&&decide (s.q8>=1)&&decide (s.q8<=s.A6)&&decide (s.J8>=1)&&decide (s.J8<=s.q8)&&s.V4==0 else false
theorem Rh (t:Int):(si t).m=some (T0 t):=rfl
theorem bX0 (t:Int):(ui t).m=some (T0 t):=rfl
theorem ab4 (s:T2):(tF w0 s).m=some (syB s)/\(CJ w0 s).m=some (syB s):=by simp only[tF,CJ,C.of,M.run,OL,Jt,Rh,QY,Ge,bX0,oq,AT,cT8];by_cases h0:s.Mode=0;simp[syB,h0];by_cases h1:s.Mode=1;simp only[syB,h1];by_cases ht:s.aU=0;cases b:T0 s.A6;simp[ht,b];by_cases a:s.V4=0;by_cases hp:s.q8=0;simp[ht,b,a,hp];simp[ht,b,a,hp,bf hp];by_cases hp:s.q8=0;simp[ht,b,a,bf a,hp];rw[show(s.q8==0)=false from bf hp];simp[ht,b,a,bf a,Bool.and_comm,Bool.and_left_comm,df9];simp[ht,bf ht,bnt ht];by_cases c:s.Mode=2;simp only[syB,c];cases decide<|s.aU>=0<;>cases decide<|s.aU<58<;>cases T0 s.A6<;>cases decide<|s.q8>=1<;>cases decide<|s.q8<=s.A6<;>cases decide<|s.J8>=1<;>simp;simp_all[syB,bf]
abbrev sy0:T2:=⟨0,0,0,0,0,0⟩
def bh4:syB sy0=true:=rfl
def Xh {p q:Int}(hp:0<=p/\p<=1099511627776)(g:0<=q/\q<=3298534883328):∃b,(Hh p q).m=some b/\(lW p q).m=some b/\(b=true->4*(q-p)<=q):=by
 have c:H (p-q)=p-q:=b6 F F;have d:H (q-p)=q-p:=b6 F F;have e:H (0-(p-q))=q-p:=by grind
 have a:H (4*(p-q))=4*(p-q):=b6 F F;have f:H (4*(q-p))=4*(q-p):=b6 F F;simp only[Hh,lW,C.of,M.run,c,d,e,a,f];by_cases h:p-q<0;have:q9 (p-q) (q-p)=q-p:=by unfold q9;omega
 simp_all;have:q9 (p-q) (q-p)=p-q:=by grind [q9]
 rw[cU1 h,this,a];grind
theorem br3 (s:T2):(Hi w0 s).m=some (s.aU==57):=by rfl
def VO (s:T2):(we w0 s).m=some (if s.aU=57 then H (3*s.J8)else s.J8)/\(eR w0 s).m=some (if s.aU=57 then H (3*s.J8)else s.J8):=by simp only[we,eR,C.of,M.run,br3,Ge,oq];by_cases h:s.aU=57;simp only[h,if_true];exact⟨rfl,rfl⟩;simp only[if_neg h,bf h,show(s.aU==H (58-1))=false from bf h];simp
def cB7 {n p:Int}(a:1<=n/\n<=1099511627776)(hp:1<=p/\p<=1099511627776):(QG w0 n p).m=some (decide<|p>2*n)/\(wP w0 n p).m=some (decide<|p>2*n):=by have w:H (2*n)=2*n:=b6 F F;simp only[QG,wP,C.of,M.run,QY,w,oq,cU1<|show¬n<1 by omega,cU1<|show¬n>1099511627776 by omega,cU1<|show¬p<1 by omega,cU1<|show¬p>1099511627776 by omega];simp
def cp1 {s:T2}{t:Int}(e:syB s=true)(ht:T0 t=true)(j:s.Mode≠0->s.A6<t):∃r,(Nq w0 s t).m=some (r,0)/\(uh w0 s t).m=some r/\syB r=true/\(r=sy0\/r.A6=t):=by
 have a:=sQ.1 ht;obtain⟨l,o⟩:=VO s;simp only[Nq,Vw,uh,C.of,M.run,(ab4 s).1,Rh,br3,l,o,Ge,e,ht,oq,L1.m,AT,cT8];have g:(s.Mode !=0&&decide (t<=s.A6))=false:=by by_cases h0:s.Mode=0;simp[h0];rw[cU1<|show¬t<=s.A6 by have:=j h0;omega,cY3]
 rw[g];clear l o g;obtain⟨c,sR,last,i,normal,d⟩:=s;simp only[syB,T0]at e j|-;by_cases h0:c=0;subst h0;exact⟨_,rfl,rfl,by simp[a],.inr rfl⟩;have v:=j h0;have x:0<=last/\last<=1099511627776:=by by_cases h1:c=1;simp[h1]at e;omega;by_cases f:c=2;simp[f]at e;omega;simp[h0,h1,f]at e
 have w:H (t-last)=t-last:=b6 F F;simp only[w];by_cases h1:c=1;subst h1;simp at e;by_cases f:d=2;subst f;simp at e;obtain⟨g1,g2⟩:=cB7 (n:=normal) (p:=t-last) F F;simp only[beq_self_eq_true,cT9,cT8,g1,g2,oq,show((1:Int)==0)=false from rfl];by_cases u:t-last>2*normal;rw[cU0 u];have q:KT .i64 (t-last) (H<|w0.Q2+1)=some ((t-last)/3):=be8 (b:=3) F F F;simp only[cT9,cT8,q,oq];exact⟨_,rfl,rfl,by simp[a];omega,.inr rfl⟩;rw[cU1 u];obtain⟨b,f1,h,_⟩:=Xh (p:=t-last) (q:=normal) F F;simp only[cT9,cT8,f1,h,oq,show((2:Int)!=0)=true from rfl];cases b;exact⟨_,rfl,rfl,by simp[a];omega,.inr rfl⟩;exact⟨_,rfl,rfl,by simp[a];omega,.inr rfl⟩;simp only[beq_self_eq_true,cT9,cT8,bf f,oq,show((1:Int)==0)=false from rfl];by_cases k:d=0;subst k;exact⟨_,rfl,rfl,by simp[a];omega,.inr rfl⟩;simp[k]at e;obtain⟨b,f1,h,_⟩:=Xh (p:=t-last) (q:=normal) F F;simp only[bnt k,cT9,f1,h,oq];cases b;exact⟨_,rfl,rfl,by simp[a];omega,.inr rfl⟩;exact⟨_,rfl,rfl,by simp[a];omega,.inr rfl⟩;by_cases f:c=2;subst f;simp at e;simp only[show((2:Int)==0)=false from rfl,show((2:Int)==1)=false from rfl,beq_self_eq_true,cT9,cT8];by_cases g:sR=57;subst g;have y:H (3*normal)=3*normal:=b6 F F;obtain⟨b,f1,h,z⟩:=Xh (p:=t-last) (q:=3*normal) F F;have q:KT .i64 (t-last) (H<|w0.Q2+1)=some ((t-last)/3):=be8 (b:=3) F F F;simp only[if_true,y,f1,h,q,beq_self_eq_true,oq];cases b;exact⟨_,rfl,rfl,rfl,.inl rfl⟩;have:=z rfl;exact⟨_,rfl,rfl,by simp[a];omega,.inr rfl⟩;obtain⟨b,f1,h,_⟩:=Xh (p:=t-last) (q:=normal) F F;simp only[if_neg g,f1,h,bf g,show(sR==H (58-1))=false from bf g,oq,b6 (n:=sR+1) F F];cases b;exact⟨_,rfl,rfl,rfl,.inl rfl⟩;exact⟨_,rfl,rfl,by simp[a];omega,.inr rfl⟩;simp[h0,h1,f]at e
def aU2 {s:T2}{t:Int}(h1:syB s=true)(b:T0 t=true)(e:s.A6<=t):∃m,(eS w0 s).m=some m/\(tE w0 s t).m=some (bif s.Mode !=0&&decide (H (t-s.A6)>m)then sy0 else s,0):=by
 obtain⟨c,d⟩:=VO s;simp only[tE,eS,C.of,M.run,(ab4 s).1,Rh,c,d,h1,b,oq,AT,cT8];rw[cU1<|show¬t<s.A6 by omega,cY3];have key:∃m,(bif s.Mode==2 then some<|H (4*if s.aU=57 then H (3*s.J8)else s.J8)else bif s.q8==0 then some 1000000 else some<|H<|4*s.J8)=some m/\((s.Mode !=0)=true->(bif s.Mode==2 then some<|H (4*if s.aU=57 then H (3*s.J8)else s.J8)else bif decide<|s.V4>0then some<|H (4*s.J8)else some 1000000)=some m)/\((s.Mode !=0)=false->∃n,(bif s.Mode==2 then some<|H (4*if s.aU=57 then H (3*s.J8)else s.J8)else bif decide<|s.V4>0then some<|H (4*s.J8)else some 1000000)=some n):=by by_cases b:s.Mode=2;grind;rw[bf b];by_cases h0:s.Mode=0;grind;refine⟨bif s.q8==0 then 1000000 else H<|4*s.J8,by grind,λ_=>?_,λh=>absurd (bnt h0)<|by rw[h];simp⟩;have a:=h1;simp only[syB,if_neg h0,if_neg b]at a;split at a;by_cases ht:s.V4=0;grind;simp[ht]at a;grind;cases a
 grind
def Zq (p:I2):Bool:=!(decide (p.s6<0)||decide (p.s6>16)||decide (p.Ed<0)||decide (p.Ed>1))&&(!(!p.Seen&&(p.s6 !=0||p.hL))&&(p.hL||p.Ed==0))
theorem bz9 (p:I2):(HR p).m=some (Zq p):=by simp only[HR,C.of,M.run];grind [Zq]
theorem Zr (p:I2):(vp c0 p).m=some (Zq p):=by simp only[vp,C.of,M.run,al1,bz9,oq,cT9]
theorem cD3 (p:I2):(ca0 c0 p).m=some (Zq p):=by simp only[ca0,cl4,C.of,M.run,cN8,oq,cT9,AI];rw[zc];grind [Zq]
def cz8 {p:I2}(h:Zq p=true):∃r,(Nd c0 p).m=some (r,0)/\(fZ p).m=some r/\Zq r=true:=by
 simp only[Nd,fZ,C.of,M.run,Zr,h,oq,AT,cT8];cases a:p.Seen;grind;simp[Zq,a]at h;have m:ba9 (H<|p.s6+1) 16=ba9 16 (H<|p.s6+1):=by grind [ba9]
 rw[m];refine⟨_,rfl,by rfl,?_⟩;grind [Zq,b6,ba9]
def cm3 {p:I2}(h:Zq p=true):∃r,(KC c0 p).m=some (r,0)/\(uj c0 p).m=some r/\Zq r=true:=by
 simp only[KC,uj,C.of,M.run,Zr,aZ6,aR1,h,oq,AT,cT8];cases c:p.Seen;exact⟨_,rfl,rfl,rfl⟩;simp only[AT,cT8];have a:p.Ed=0\/p.Ed=1:=by grind [Zq]
 by_cases b:p.s6=2;rw[b];rcases a with a|a<;>rw[a]<;>cases p.hL<;>exact⟨_,rfl,rfl,rfl⟩;by_cases h1:p.s6=1;rw[h1];rcases a with a|a<;>rw[a]<;>cases p.hL<;>exact⟨_,rfl,rfl,rfl⟩;rw[bf b,bf h1];exact⟨_,rfl,rfl,rfl⟩
def be4:Zq ⟨false,0,0,false⟩=true:=rfl
theorem bU9:(Nf).m=some ⟨false,0,0,false⟩:=rfl
theorem bI1 (t:Int):(mW t).m=some (T0 t):=rfl
theorem bA3 (t:Int):(bT t).m=some (T0 t):=rfl
def bs6 {t n h p:Int}(d:0<=n/\n<58)(hp:0<=p/\p<=1099511627776):∃c e,(BE w0 t n h p).m=some (c,e)/\(ka w0 t n h p).m=some (c,e)/\(e≠0->c=⟨false,0,0,0,0,0⟩)/\(e=0->c.At=t)/\c.K6<=1152:=by
 have q:KT .i64 p (H<|w0.Q2+1)=some (p/3):=be8 (b:=3) hp.1 F F;have e1:(HT w0 n).m=some (H<|n*384,0):=by simp only[HT,C.of,M.run,OL,Jt,UQ,oq,AT,cT8,cU1<|show¬n<0 by omega,cU1<|show¬n>=58 by omega]
 simp only[BE,ka,C.of,M.run,L1.m,OL,Jt,UQ,QY,Ge,ZU,e1,bI1,bA3,q,oq,AT,cT8,cU1<|show¬n<0 by omega,cU1<|show¬n>=58 by omega,show((0:Int)!=0)=false from rfl,cM1];have a:decide (p<H (w0.Q2+1))=decide (p<=w0.Q2):=by show decide (p<3)=decide (p<=2);grind
 rw[a];cases(!T0 t)||decide (h<0)||decide (h>1)||decide (p<=w0.Q2)||decide (p>1073741824);·simp only[cT8];cases n==0<;>cases n==H (58-1)<;>exact⟨_,_,rfl,rfl,λh=>absurd rfl h,λ_=>rfl,show _<=(1152:Int)by first|exact(by decide:(384:Int)<=1152)|exact(by decide:H (384*H (2+1))<=1152)⟩
 grind
def oz {S B:Type}{mb:S->Option (S⊕B)}(I:S->Prop)(μ:S->Nat)(J:B->Prop)(h:∀s,I s->(∃s',mb s=some (.inl s')/\I s'/\μ s'<μ s)\/∃b,mb s=some (.inr b)/\J b):∀(n:Nat)(s:S),μ s<=n->I s->∃b,o3 mb s=some b/\J b:=by intro n;induction n with|zero=>grind [j3]|succ n a=>grind [j7,j3]
theorem bn8 (p b:Int)(hp:0<=p)(a:0<b):(K2 p b).m=some (p%b):=by
 simp only[K2,C.of,M.run,L1.m];rw[show(b==0||b==-1)=false by simp;omega];simp only[cT8];have e:SF p b=some (p%b):=by unfold SF;grind
 rw[e];simp only[oq];have h1:0<=p%b:=cZ3 p F;grind
def Ao (nx:Int->Int)(b:Int):Nat->Int->List Int|0,_=>[]|n+1,p=>if p<=b then p::Ao nx b n (nx p)else[]
def aJ8 {nx:Int->Int}{b D:Int}{P:Int->Prop}(c:0<D)(h:∀p,P p->p<=b->P (nx p)/\p+D<=nx p):∀(n:Nat)(p:Int),P p->(∀x∈Ao nx b n p,p<=x/\x<=b)/\(Ao nx b n p).Pairwise (·<·)/\D*(Ao nx b n p).length<=max (b-p+D) 0|0,p,_=>by simp only[Ao,List.length_nil];exact⟨sq,.nil,by omega⟩|n+1,p,hp=>by simp only[Ao];by_cases a:p<=b;rw[if_pos a];obtain⟨h1,d⟩:=h p hp a;obtain⟨k1,k2,e⟩:=aJ8 c h n (nx p) h1;refine⟨λx hx=>?_,ba8.2 ⟨λx hx=>by grind,k2⟩,?_⟩;grind;rw[cU9,Int.natCast_add,Int.mul_add];omega;rw[if_neg a];exact⟨sq,.nil,by grind⟩
def Yf {B:Type}{mb:List Int×Int->Option (List Int×Int⊕List Int×Int⊕B)}{nx:Int->Int}{b D:Int}{P:Int->Prop}{err:B}(f:0<D)(h:∀p,P p->p<=b->P (nx p)/\p+D<=nx p)(d:∀l p,P p->l.length<=1000->mb (l,p)=some (bif decide (p<=b)then bif (l.length:Int)==1000then .inr (.inr err)else .inl (l++[p],nx p)else .inr<|.inl (l,p))):∀(n:Nat)(l:List Int)(p:Int),P p->l.length+n<=1000->b-p<D*n->∃q,o3 mb (l,p)=some (.inl (l++Ao nx b n p,q))|0,l,p,hp,g,c=>by grind [j3,Ao]|n+1,l,p,hp,g,c=>by have e:=d l p hp F;by_cases a:p<=b;rw[cU0 a,bf<|show¬(l.length:Int)=1000 by omega]at e;obtain⟨h1,i⟩:=h p hp a;rw[Int.natCast_add,Int.mul_add]at c;obtain⟨q,k⟩:=Yf f h d n (l++[p]) (nx p) h1 (by simp;omega) (by simp at c;omega);exact⟨q,by rw[j7 e,k];simp[Ao,a]⟩;rw[cU1 a]at e;exact⟨p,by rw[j3 e];simp[Ao,a]⟩
theorem cm6 (p:Int):(AZ p).m=some (T0 p):=rfl
def Ve {a b D:Int}{P:Int->Prop}{nx:Int->Int}(n:0<=a)(d:a<=b)(o:b<=1000000)(k:0<D)(h:∀p,P p->p<=b->P (nx p)/\p+D<=nx p)(g:P<|nx a)(h0:b-nx a<D*1000)(f:Cl Tryz.prog Int Int (λx=>[.t<|Y x]) λr=>.t<|Y r)(j:∀p,p=a\/P p->p<=b->f.f p=some (nx p)):(wj a b f).m=some (Ao nx b 1000<|nx a,0):=by have e1:T0 a=true:=sQ.2 F;have e2:T0 b=true:=sQ.2 F;simp only[wj,C.of,M.run,cm6,oq,Cl.at,e1,e2,AT,cT8,db8,cU1<|show¬a>b by omega,j a (.inl rfl) d];obtain⟨q,e⟩:=Yf (mb:=λs=>(wW b f s).run) (err:=(([]:List Int),(5:Int))) k h λl p hp u=>by simp only[wW,M.run,U1.m,Cl.at];by_cases c:p<=b;rw[cU0 c,j p (.inr hp) c];by_cases i:(l.length:Int)=1000;simp[i];rw[l5 _ _<|by simp;omega];grind;grind 1000 [] (nx a) g sq h0;rw[e];rfl
def nxW (p:Int):Int:=p-p%23040+if p%23040/384+1>=58 then 23040 else(p%23040/384+1)*384
def NA (p:Int):p<nxW p/\nxW p%384=0/\(p%384=0->p+384<=nxW p):=by grind [nxW]
def bT7 {p:Int}(h0:0<=p)(h1:p<=1000000):∃k,(KK w0 p).m=some (nxW p,k):=by have a:0<=p%23040/\p%23040<23040:=⟨cZ3 p F,cM3 p F⟩;simp only[KK,C.of,M.run,L1.m,bn8 p 23040 h0 F,UQ,Jt,oq];rw[b6 (n:=p-p%23040) F F,show p-(p-p%23040)=p%23040 by omega,b6 (n:=p%23040) F F,be8 a.1 F F];simp only[oq];rw[b6 (n:=p%23040/384+1) F F];unfold nxW;by_cases hk:p%23040/384+1>=58;rw[cU0 hk,if_pos hk,b6 F F];simp;rw[cU1 hk,if_neg hk,b6 (n:=(p%23040/384+1)*384) F F,b6 (n:=p-p%23040+(p%23040/384+1)*384) F F];simp
def aq1 {p:Int}(h0:0<=p)(h1:p<=1000000):∃k,(lV w0 p).m=some (nxW p,k):=by
 have c:0<=p%23040/\p%23040<23040:=⟨cZ3 p F,cM3 p F⟩;have b:H (H (bQ2 p 23040)*23040)=p-p%23040:=by grind [b6]
 have st:∀i:Nat,i<58->(bo w0 p (i:Int)).run=some (if(i:Int)*384>p%23040 then .inr<|.inr (p-p%23040+i*384,(i:Int))else .inl ((i+1:Nat):Int)):=λi hi=>by simp only[bo,M.run,Ge,ZU,oq,b,b6 (n:=(i:Int)*384) F F,b6 (n:=p-p%23040+(i:Int)*384) F F,b6 (n:=(i:Int)+1) F F];grind
 obtain⟨K,d⟩:∃K:Nat,p%23040/384+1=(K:Int):=⟨(p%23040/384+1).toNat,by omega⟩;simp only[lV,C.of,M.run];unfold nxW;by_cases a:p%23040/384+1>=58;have e:o3 (λs=>(bo w0 p s).run) 0=some (.inl 58):=cd (λk:Nat=>(k:Int)) 58 (by rfl) (λk hk=>by grind);rw[if_pos a,e];refine⟨0,?_⟩;grind [b6];have e:o3 (λs=>(bo w0 p s).run) 0=some (.inr (p-p%23040+K*384,(K:Int))):=cd (λk:Nat=>(k:Int)) K gq (λk hk=>by grind);grind
abbrev TX (a b:Int):List Int:=Ao nxW b 1000<|nxW a
def bN9 (a b:Int):(∀x∈TX a b,a<x/\x<=b)/\(TX a b).Pairwise (·<·)/\384*((TX a b).length:Int)<=max (b-a+383) 0:=by obtain⟨h1,c,d⟩:=aJ8 (nx:=nxW) (b:=b) (D:=384) (P:=λp=>p%384=0) F (λp hp _=>⟨(NA p).2.1,(NA p).2.2 hp⟩) 1000 (nxW a) (NA a).2.1;have:=(NA a).1;grind
def aF9 {a b:Int}(g:0<=a)(f:a<=b)(j:b<=200000):(Du w0 a b).m=some (TX a b,0)/\(nZ w0 a b).m=some (TX a b,true):=by
 have n:=(NA a).1;have h:∀p,p%384=0/\0<=p->p<=b->(nxW p%384=0/\0<=nxW p)/\p+384<=nxW p:=λp hp _=>by have:=NA p;omega
 constructor;have e:=Ve (D:=384) (P:=λp=>p%384=0/\0<=p) g f F F h ⟨(NA a).2.1,by omega⟩ F (.of (λi=>qZ i w0) _ [Ko w0]) (λp hp c=>by obtain⟨k,e⟩:=bT7 (p:=p) (by rcases hp with rfl|hp<;>omega) F;show(qZ p w0).m=_;simp only[qZ,C.of,M.run,e,oq]);simp only[Du,C.of,M.run,OL,oq,AT,cT8];exact C2 e rfl;obtain⟨k,e1⟩:=aq1 g F;simp only[nZ,C.of,M.run,e1,oq];obtain⟨q,e⟩:=Yf (mb:=λs=>(jx w0 b s).run) (P:=λp=>p%384=0/\0<=p) (err:=(([]:List Int),false)) (D:=384) F h λl p hp o=>by simp only[jx,M.run,U1.m];by_cases c:p<=b;obtain⟨k,e⟩:=aq1 hp.2 F;rw[cU0 c,e];by_cases d:(l.length:Int)=1000;simp[d];rw[l5 _ _<|by simp;omega];simp[bf d];rw[cU1 c];rfl 1000 [] (nxW a) ⟨(NA a).2.1,by omega⟩ sq F;rw[e];rfl
def PB (p:Int):Int:=if p<5000 then 5000 else if p<12000 then 12000 else if p<30000 then 30000 else if p<51080 then 51080 else if p<58080 then 58080 else if p<76080 then 76080 else 97160
def cz2 (p:Int)(h:p<92160):p<PB p:=by grind [PB]
def bv0 {p:Int}(h0:0<=p)(h1:p<92160):(kW p c0).m=some (PB p):=by
 simp only[kW,C.of,M.run,bn8 p 46080 h0 F,oq];have b:H (p-p%46080)=p-p%46080:=b6 F F;have st:∀i x,(fE p (p%46080) i x ()).run=bif decide (H (p-p%46080+x)>p)then some<|.ret<|H (p-p%46080+x)else some<|.next ():=λi x=>by grind [fE,M.run]
 have f:∀x:Int,0<=x->x<=46080->H (p-p%46080+x)=p-p%46080+x:=λx _ _=>b6 F F;have key:iI c0.yv (λi x t=>(fE p (p%46080) i x t).run) ()=some (if p-p%46080+5000>p then .inr (p-p%46080+5000)else if p-p%46080+12000>p then .inr (p-p%46080+12000)else if p-p%46080+30000>p then .inr (p-p%46080+30000)else .inl ()):=by rw[B5 _ dq];simp only[F0,st,f 5000 F F,f 12000 F F,f 30000 F F];grind
 have last:(y3 c0.yv 0).bind (λt=>some<|H<|H (H (p-p%46080)+46080)+t)=some (p-p%46080+51080):=by show some (H<|H (H (p-p%46080)+46080)+5000)=_;rw[b,b6 (n:=p-p%46080+46080) F F,b6 F F];congr 1;omega
 have c:PB p=if p-p%46080+5000>p then p-p%46080+5000 else if p-p%46080+12000>p then p-p%46080+12000 else if p-p%46080+30000>p then p-p%46080+30000 else p-p%46080+51080:=by
  unfold PB;repeat' split
  all_goals omega
 rw[c];refine C2 key ?_;by_cases g1:p-p%46080+5000>p;·simp only[if_pos g1]<;>rfl
 by_cases g2:p-p%46080+12000>p;·simp only[if_neg g1,if_pos g2]<;>rfl
 by_cases a:p-p%46080+30000>p;·simp only[if_neg g1,if_neg g2,if_pos a]<;>rfl
 simp only[if_neg g1,if_neg g2,if_neg a]<;>exact last
abbrev Mz (a b:Int):List Int:=[5000,12000,30000,51080,58080,76080].filter λx=>decide (x>a)&&decide (x<=b)
def cv7 (a b:Int):(∀x∈Mz a b,a<x/\x<=b)/\(Mz a b).length<=6:=⟨λx hx=>by grind,cD8 ..⟩
theorem bM1 {a b:Int}(r:0<=a)(o:a<=b)(s:b<92160):Ao PB b 1000 (PB a)=Mz a b:=by
 have e:¬(97160:Int)<=b:=by omega
 have f:∀n,Ao PB b n 97160=[]:=λn=>by cases n<;>simp[Ao,e]
 have st:∀(n:Nat)(p q:Int)(l:List Int),PB p=q->Ao PB b n q=l.filter (λx=>decide<|x<=b)->(∀x∈l,p<=x)->Ao PB b (n+1) p=(p::l).filter λx=>decide<|x<=b:=λn p q l t u hx=>by grind [Ao,cu9]
 have g:=λn=>st n 76080 97160 [] rfl (f n) sq;have i:=λn=>st (n+1) 58080 76080 [76080] rfl (g n) sq;have j:=λn=>st (n+2) 51080 58080 [58080,76080] rfl (i n) sq;have k:=λn=>st (n+3) 30000 51080 [51080,58080,76080] rfl (j n) sq;have m:=λn=>st (n+4) 12000 30000 [30000,51080,58080,76080] rfl (k n) sq;have h1:=λn=>st (n+5) 5000 12000 [12000,30000,51080,58080,76080] rfl (m n) sq;have d:∀c:Int,a<c->decide (c>a)=true:=λc h=>cU0 h;have t0:∀c:Int,c<=a->decide (c>a)=false:=λc h=>cU1 F;rcases show a<5000\/5000<=a/\a<12000\/12000<=a/\a<30000\/30000<=a/\a<51080\/51080<=a/\a<58080\/58080<=a/\a<76080\/76080<=a by omega with h|h|h|h|h|h|h;rw[show PB a=5000 by simp_all[PB],h1 994];simp(disch:=omega)only[Mz,dc3,dd6,d,t0,cV0,dc2];rw[show PB a=12000 by unfold PB;rw[if_neg F,if_pos F],m 995];simp(disch:=omega)only[Mz,dc3,dd6,d,t0,cV0,dc2,cX5,if_false];rw[show PB a=30000 by unfold PB;rw[if_neg F,if_neg F,if_pos F],k 996];simp(disch:=omega)only[Mz,dc3,dd6,d,t0,cV0,dc2,cX5,if_false];rw[show PB a=51080 by unfold PB;rw[if_neg F,if_neg F,if_neg F,if_pos F],j 997];simp(disch:=omega)only[Mz,dc3,dd6,d,t0,cV0,dc2,cX5,if_false];rw[show PB a=58080 by unfold PB;rw[if_neg F,if_neg F,if_neg F,if_neg F,if_pos F],i 998];simp(disch:=omega)only[Mz,dc3,dd6,d,t0,cV0,dc2,cX5,if_false];rw[show PB a=76080 by unfold PB;rw[if_neg F,if_neg F,if_neg F,if_neg F,if_neg F,if_pos F],g 999];simp(disch:=omega)only[Mz,dc3,dd6,d,t0,cV0,dc2,cX5,if_false];rw[show PB a=97160 by unfold PB;rw[if_neg F,if_neg F,if_neg F,if_neg F,if_neg F,if_neg F],f 1000];simp(disch:=omega)only[Mz,dc3,dd6,d,t0,cV0,dc2,cX5,if_false]
theorem ct8 {a b k:Int}{s:List Int×Int}(hk:s.2=k)(h0:0<=k)(h1:k<=1)(l:List Int)(d:l.length<=100):o3 (λx=>(Y9 c0 a b s x).run) (0,l)=some (.inl (3,l++[k*46080+5000,k*46080+12000,k*46080+30000].filter λx=>decide (x>a)&&decide (x<=b))):=by
 have st:∀(i:Nat)(e:Int)(m:List Int),y3 c0.yv (i:Int)=some e->i<3->m.length<=200->0<=e->e<=46080->(Y9 c0 a b s ((i:Int),m)).run=some (.inl (((i+1:Nat):Int),m++[k*46080+e].filter λx=>decide (x>a)&&decide (x<=b))):=λi e m c hi f g e1=>by simp only[Y9,M.run,L1.m,U1.m,hk,c,oq,b6 (n:=k*46080) F F,b6 (n:=k*46080+e) F F,b6 (n:=(i:Int)+1) F F];rw[cU0<|show(i:Int)<(c0.yv.length:Int)by grind,bf<|show¬(m.length:Int)=1000 by omega,l5 _ _<|by simp;omega];grind
 have lf:∀(m:List Int)(e:Int),(m++[e].filter λx=>decide (x>a)&&decide (x<=b)).length<=m.length+1:=λm e=>by grind
 have l1:=lf l<|k*46080+5000;have l2:=lf (l++[k*46080+5000].filter λx=>decide (x>a)&&decide (x<=b))<|k*46080+12000;rw[j7<|st 0 5000 l rfl F F F F,j7<|st 1 12000 _ rfl F F F F,j7<|st 2 30000 _ rfl F F F F,j3 rfl];grind
def au9 {a b:Int}(f:0<=a)(g:a<46080)(c:a<=b)(h:b<92160):(wV c0 a b).m=some (Mz a b,0)/\(jy c0 a b).m=some (Mz a b,true):=by
 constructor;have e:=Ve (D:=100) (nx:=PB) (P:=λp=>p∈[5000,12000,30000,51080,58080,76080,(97160:Int)]) f c F F λp hp d=>by simp only[cV6,cC1,or_false]at hp|-;unfold PB;omega (by simp only[cV6,cC1,or_false];grind [PB]) (by have:=cz2 a F;omega) (.of (λi=>kW i c0) _ [Se c0]) λp hp d=>bv0 (by grind) F;simp only[wV,C.of,M.run,al1,oq,AT,cT8];rw[bM1 f c h]at e;grind;have j:H (bQ2 a 46080)=0:=by grind [b6]
 simp only[jy,C.of,M.run,j];have s0:(G8 c0 a b ([],0)).run=some (.inl ([0*46080+5000,0*46080+12000,0*46080+30000].filter λx=>decide (x>a)&&decide (x<=b),1)):=by simp only[G8,M.run];rw[cU0<|show H (0*46080)<=b by grind,ct8 (k:=0) rfl dq dq [] sq];rfl
 have lf:=cD8 (λx=>decide (x>a)&&decide (x<=b)) [0*46080+5000,0*46080+12000,(0*46080+30000:Int)];rw[j7 s0];by_cases l:46080<=b;have s1:(G8 c0 a b ([0*46080+5000,0*46080+12000,0*46080+30000].filter λx=>decide (x>a)&&decide (x<=b),1)).run=some (.inl (Mz a b,2)):=by simp only[G8,M.run];rw[cU0<|show H (1*46080)<=b by show(46080:Int)<=b;omega,ct8 (k:=1) rfl dq dq _ gq,<-bO6];rfl
 rw[j7 s1,j3 (b:=.inl (Mz a b,2))<|by simp only[G8,M.run];rw[cU1<|show¬H (2*46080)<=b by show¬(92160:Int)<=b;omega];rfl];rfl;have n:([0*46080+5000,0*46080+12000,0*46080+30000].filter λx=>decide (x>a)&&decide (x<=b))=Mz a b:=by
  have:([51080,58080,76080].filter λx=>decide (x>a)&&decide (x<=b))=[]:=by rw[cu9];intro x hx;simp only[cV6,cC1,or_false]at hx;rw[cU1<|show¬x<=b by omega,cY3];simp
  show _=(([5000,12000,30000]:List Int)++[51080,58080,76080]).filter _;rw[bO6,this,iy];rfl
 rw[n,j3 (b:=.inl (Mz a b,1))<|by simp only[G8,M.run];rw[cU1<|show¬H (1*46080)<=b by show¬(46080:Int)<=b;omega];rfl];rfl
end Go.Proofs.YtlbfdimlomockaaGreat.Ec
set_option maxHeartbeats 1000000
namespace Go.Pv
open Go Go.Pv.Et
def Q {α:Type}{x:Option α}(o:Option α)(_:x=o):Option α:=o
def Qp {α:Type}{x o:Option α}{h:x=o}:x=Q o h:=h
def foldM {α S R:Type}(l:List α)(a:Int->α->S->Option (Fl S R))(s:S):o3 (λp:Int×S=>bif decide<|p.1<(l.length:Int)then(y3 l p.1).bind λx=>(a p.1 x p.2).bind<|iH p.1else some<|.inr<|.inl p.2) (0,s)=iI l a s:=rfl
def cH1 {S R:Type}(n:Int)(a:Int->S->Option (Fl S R))(s:S):o3 (λp:Int×S=>bif decide (p.1<n)then(a p.1 p.2).bind<|iH p.1else some<|.inr<|.inl p.2) (0,s)=J9 n a s:=rfl
def cF {α:Type}(a b:α):cond false a b=b:=rfl
def cT {α:Type}(a b:α):cond true a b=a:=rfl
def qS:=And.intro @cF<|And.intro @cT<|And.intro @foldM<|@cH1
end Go.Pv
open Go.Proofs Go.Proofs.YtlbfdimlomockaaGreat
namespace Go.Pv
open Go Go.Pv.Et
theorem ah7 (x y:Int):(Sl x y).m=Dz x y:=rfl
theorem ae7 (x:List y6)(count:Int):(KE x count).m=aM x count:=rfl
theorem lD (s:List k6)(a:Cl Tryz.prog k6 Bool (λx=>[qe x]) λr=>.t<|tB r):(aG s a).m=y9 s λb=>a.f b:=by delta y9 P0;simp only[aG,sd,C.of,M.run,L1.m,Cl.at,iZ,J9,P4]<;>kernel_rfl
theorem Gu (s:List k6)(a:Cl Tryz.prog k6 Bool (λx=>[qe x]) λr=>.t<|tB r):(vr s a).m=H8 s λb=>a.f b:=rfl
def Kr:=λa=>Q (x:=(mZ a).m) _<|by simp only[mZ,C.of,M.run,qS];rfl
theorem bF3 (a):(mZ a).m=Kr a:=Qp
def CZ:=λs v i a=>Q (x:=(gW s v i a).run) _<|by simp only[gW,M.run,L1.m,qS];rfl
theorem ah5 (s v i u3):(gW s v i u3).run=CZ s v i u3:=Qp
def zY:=λs v=>Q (x:=(aD7 s v).m) _<|by simp only[aD7,C.of,M.run,L1.m,qS,ah5];rfl
theorem aI3 (s v):(aD7 s v).m=zY s v:=Qp
def sK:=λs v=>Q (x:=(bF s v).m) _<|by simp only[bF,C.of,M.run,qS,aI3];rfl
theorem It (s v):(bF s v).m=sK s v:=Qp
def vM:=λe2 i=>Q (x:=(qI e2 i).run) _<|by simp only[qI,M.run,qS,It];rfl
theorem aV7 (e2 i):(qI e2 i).run=vM e2 i:=Qp
def yI:=λe2=>Q (x:=(Y1 e2).m) _<|by simp only[Y1,C.of,M.run,qS,bF3,aV7];rfl
theorem Lj (e2):(Y1 e2).m=yI e2:=Qp
def lM (s:List Int)(a:Int->Option Bool)(i:Int)(_:Unit):Option<|Fl Unit Int:=tI (y3 s i) λx=>tI (a x) λv=>bif v then some (.ret i)else some<|.next ()
def jn (s:List Int)(a:Int->Option Bool):Option Int:=tI (J9 (s.length:Int) (lM s a) ()) λ(t:Unit⊕Int)=>match t with|.inl _=>some<|-1|.inr r2=>some r2
theorem Hy (s:List Int)(a:Cl Tryz.prog Int Bool (λx=>[.t<|Y x]) λr=>.t<|tB r):(fD s a).m=jn s λb=>a.f b:=by delta jn lM;simp only[fD,iA,C.of,M.run,L1.m,Cl.at,iZ,J9,P4]<;>kernel_rfl
def G1 (s:List Int)(a:Int->Option Bool):Option Bool:=tI (jn s a) λv=>some<|decide<|v>=0
theorem qy (s:List Int)(a:Cl Tryz.prog Int Bool (λx=>[.t<|Y x]) λr=>.t<|tB r):(w7 s a).m=G1 s λb=>a.f b:=by simp only[w7,G1,C.of,M.run,Hy]<;>kernel_rfl
def cmp_isNaN_int:=λx=>Q (x:=(fM x).m) _<|by simp only[fM,C.of,M.run,qS];rfl
theorem bt6 (x):(fM x).m=cmp_isNaN_int x:=Qp
def cmp_Less_int:=λx y=>Q (x:=(yW x y).m) _<|by simp only[yW,C.of,M.run,qS,bt6];rfl
theorem Wb (x y):(yW x y).m=cmp_Less_int x y:=Qp
def aL:=λx i=>Q (x:=(cB x i).run) _<|by simp only[cB,M.run,L1.m,qS,Wb];rfl
theorem WR (x i):(cB x i).run=aL x i:=Qp
def sM:=λx=>Q (x:=(bG x).m) _<|by simp only[bG,C.of,M.run,qS,WR];rfl
theorem Iu (x):(bG x).m=sM x:=Qp
def tY (s:List<|List Int)(a:List Int->Option Bool)(i:Int)(_:Unit):Option<|Fl Unit Int:=tI (y3 s i) λx=>tI (a x) λv=>bif v then some (.ret i)else some<|.next ()
def oR (s:List<|List Int)(a:List Int->Option Bool):Option Int:=tI (J9 (s.length:Int) (tY s a) ()) λ(t:Unit⊕Int)=>match t with|.inl _=>some<|-1|.inr r2=>some r2
theorem Gw (s:List<|List Int)(a:Cl Tryz.prog (List Int) Bool (λx=>[.t<|tS Pv.encI x]) λr=>.t<|tB r):(dQ s a).m=oR s λb=>a.f b:=by delta oR tY;simp only[dQ,gV,C.of,M.run,L1.m,Cl.at,iZ,J9,P4]<;>kernel_rfl
def cD (s:List<|List Int)(a:List Int->Option Bool):Option Bool:=tI (oR s a) λv=>some<|decide<|v>=0
theorem Wk (s:List<|List Int)(a:Cl Tryz.prog (List Int) Bool (λx=>[.t<|tS Pv.encI x]) λr=>.t<|tB r):(H6 s a).m=cD s λb=>a.f b:=by simp only[H6,cD,C.of,M.run,Gw]<;>kernel_rfl
def L3 (x:List Int)(cmp:Int->Int->Option Int)(i:Int):Option<|Int⊕Int⊕Bool:=bif decide<|i>0then tI (y3 x i) λa=>tI (y3 x<|H<|i-1) λb=>tI (cmp a b) λv=>bif decide<|v<0then some<|.inr (.inr false)else some<|.inl<|H (i-1)else some<|.inr<|.inl i
def Y7 (x:List Int)(cmp:Int->Int->Option Int):Option Bool:=tI (o3 (L3 x cmp)<|H<|(x.length:Int)-1) λ(t:Int⊕Bool)=>match t with|.inl _=>some true|.inr r2=>some r2
theorem WN (x:List Int)(cmp:Cl Tryz.prog (Int×Int) Int (λx=>[.t<|Y x.1,.t<|Y x.2]) λr=>.t<|Y r):(S5 x cmp).m=Y7 x λa b=>cmp.f (a,b):=by delta Y7 L3;simp only[S5,nI,C.of,M.run,L1.m,Cl.at]<;>kernel_rfl
def tX (s:List dy)(a:dy->Option Bool)(i:Int)(_:Unit):Option<|Fl Unit Int:=tI (y3 s i) λx=>tI (a x) λv=>bif v then some (.ret i)else some<|.next ()
def oQ (s:List dy)(a:dy->Option Bool):Option Int:=tI (J9 (s.length:Int) (tX s a) ()) λ(t:Unit⊕Int)=>match t with|.inl _=>some<|-1|.inr r2=>some r2
theorem Gv (s:List dy)(a:Cl Tryz.prog dy Bool (λx=>[qe x]) λr=>.t<|tB r):(lI s a).m=oQ s λb=>a.f b:=by delta oQ tX;simp only[lI,qR,C.of,M.run,L1.m,Cl.at,iZ,J9,P4]<;>kernel_rfl
def cC (s:List dy)(a:dy->Option Bool):Option Bool:=tI (oQ s a) λv=>some<|decide<|v>=0
theorem Df (s:List dy)(a:Cl Tryz.prog dy Bool (λx=>[qe x]) λr=>.t<|tB r):(gT s a).m=cC s λb=>a.f b:=by simp only[gT,cC,C.of,M.run,Gv]<;>kernel_rfl
def sL (s:List y6)(a:y6->Option Bool)(i:Int)(_:Unit):Option<|Fl Unit Int:=tI (y3 s i) λx=>tI (a x) λv=>bif v then some (.ret i)else some<|.next ()
def ns (s:List y6)(a:y6->Option Bool):Option Int:=tI (J9 (s.length:Int) (sL s a) ()) λ(t:Unit⊕Int)=>match t with|.inl _=>some<|-1|.inr r2=>some r2
theorem Fp (s:List y6)(a:Cl Tryz.prog y6 Bool (λx=>[qe x]) λr=>.t<|tB r):(jz s a).m=ns s λb=>a.f b:=by delta ns sL;simp only[jz,px,C.of,M.run,L1.m,Cl.at,iZ,J9,P4]<;>kernel_rfl
def S9 (s:List y6)(a:y6->Option Bool):Option Bool:=tI (ns s a) λv=>some<|decide<|v>=0
theorem Ct (s:List y6)(a:Cl Tryz.prog y6 Bool (λx=>[qe x]) λr=>.t<|tB r):(Z0 s a).m=S9 s λb=>a.f b:=by simp only[Z0,S9,C.of,M.run,Fp]<;>kernel_rfl
def pC (s:List b7)(a:b7->Option Bool)(i:Int)(_:Unit):Option<|Fl Unit Int:=tI (y3 s i) λx=>tI (a x) λv=>bif v then some (.ret i)else some<|.next ()
def jA (s:List b7)(a:b7->Option Bool):Option Int:=tI (J9 (s.length:Int) (pC s a) ()) λ(t:Unit⊕Int)=>match t with|.inl _=>some<|-1|.inr r2=>some r2
theorem Dh (s:List b7)(a:Cl Tryz.prog b7 Bool (λx=>[qe x]) λr=>.t<|tB r):(aQ s a).m=jA s λb=>a.f b:=by delta jA pC;simp only[aQ,dh,C.of,M.run,L1.m,Cl.at,iZ,J9,P4]<;>kernel_rfl
def Z3 (s:List b7)(a:b7->Option Bool):Option Bool:=tI (jA s a) λv=>some<|decide<|v>=0
theorem Tl (s:List b7)(a:Cl Tryz.prog b7 Bool (λx=>[qe x]) λr=>.t<|tB r):(D9 s a).m=Z3 s λb=>a.f b:=by simp only[D9,Z3,C.of,M.run,Dh]<;>kernel_rfl
def jN:=λx low high=>Q (x:=(z8 x low high).m) _<|by simp only[z8,C.of,M.run,qS];rfl
theorem rE (x low high):(z8 x low high).m=jN x low high:=Qp
def bO (a:Int->Option Bool)(s:Int×Int):Option<|Int×Int⊕Int×Int⊕Empty:=bif decide<|s.1<s.2then tI (a<|H<|w9 .u64 (IS.wrap<|H<|s.1+s.2) 1) λv=>bif !v then some<|.inl (H<|H (w9 .u64 (IS.wrap<|H<|s.1+s.2) 1)+1,s.2)else some<|.inl (s.1,H<|w9 .u64 (IS.wrap<|H<|s.1+s.2) 1)else some<|.inr<|.inl (s.1,s.2)
def nK (a:Int)(b:Int->Option Bool):Option Int:=tI (o3 (bO b) (0,a)) λ(t:Int×Int⊕Empty)=>match t with|.inl s2=>some s2.1|.inr r=>r.elim
theorem bL3 (a:Int)(b:Cl Tryz.prog Int Bool (λx=>[.t<|Y x]) λr=>.t<|tB r):(hQ a b).m=nK a λc=>b.f c:=by delta nK bO;simp only[hQ,IV,C.of,M.run,Cl.at,Wr]<;>kernel_rfl
def De:=λa=>Q (x:=(eI a).m) _<|by simp only[eI,C.of,M.run,qS];rfl
theorem aY1 (n2):(eI n2).m=De n2:=Qp
def bG3 (x:Int):Option Int:=Uv x
theorem af0 (x:Int):(Sk x).m=bG3 x:=rfl
def HU:=λx=>Q (x:=(bC x).m) _<|by simp only[bC,C.of,M.run,qS,af0];rfl
theorem WM (x):(bC x).m=HU x:=Qp
def QK:=λa b s3=>Q (x:=(kK a b s3).run) _<|by simp only[kK,M.run,qS];rfl
theorem au5 (q3 q6 s3):(kK q3 q6 s3).run=QK q3 q6 s3:=Qp
def QL:=λa b c=>Q (x:=(kL a b c).run) _<|by simp only[kL,M.run,qS,au5];rfl
theorem au6 (q3 q6 s5):(kL q3 q6 s5).run=QL q3 q6 s5:=Qp
def Dy:=λhi lo y=>Q (x:=(qM hi lo y).m) _<|by simp only[qM,C.of,M.run,L1.m,Wr,qS,WM,au5,au6];rfl
theorem aY7 (hi lo y):(qM hi lo y).m=Dy hi lo y:=Qp
def uS:=λr2 c a b=>Q (x:=(vO r2 c a b).m) _<|by simp only[vO,C.of,M.run,qS];rfl
theorem bt5 (r2 c negative mode):(vO r2 c negative mode).m=uS r2 c negative mode:=Qp
def JI:=λa b2 c b=>Q (x:=(yV a b2 c b).m) _<|by simp only[yV,C.of,M.run,qS,aY1,bt5,aY7,ah7];rfl
theorem bF2 (a b2 c mode):(yV a b2 c mode).m=JI a b2 c mode:=Qp
def Ii:=λa b2 b=>Q (x:=(rN a b2 b).m) _<|by simp only[rN,C.of,M.run,qS,bF2];rfl
theorem cf9 (a b2 mode):(rN a b2 mode).m=Ii a b2 mode:=Qp
def Mc:=λa b2=>Q (x:=(X9 a b2).m) _<|by simp only[X9,C.of,M.run,qS,cf9];rfl
theorem XE (a b2):(X9 a b2).m=Mc a b2:=Qp
def qu:=λs=>Q (x:=(fC s).m) _<|by simp only[fC,CG.of,M.run,U1.m,qS];rfl
theorem Hx (s):(fC s).m=qu s:=Qp
def eE (a:Int)(cmp:b7->b7->Option Int)(s2:Int×List b7):Option<|Int×List b7⊕Int×List b7⊕Empty:=tI (bif decide (s2.1>a)then tI (y3 s2.2 s2.1) λx=>tI (y3 s2.2<|H<|s2.1-1) λb=>tI (cmp x b) λv=>some<|decide (v<0)else some false) λ(c:Bool)=>bif c then tI (tI (y3 s2.2<|H<|s2.1-1) λd=>tI (y3 s2.2 s2.1) λe=>tI (fQ s2.2 s2.1 d) λl=>tI (y3 l<|H<|s2.1-1) λ_=>tI (fQ l (H<|s2.1-1) e) λl2=>some l2) λ(f:List b7)=>some<|.inl (H<|s2.1-1,f)else some<|.inr<|.inl (s2.1,s2.2)
def eD (a b2:Int)(cmp:b7->b7->Option Int)(s:Int×List b7):Option<|Int×List b7⊕Int×List b7⊕Empty:=bif decide (s.1<b2)then tI (o3 (eE a cmp) (s.1,s.2)) λ(t:Int×List b7⊕Empty)=>match t with|.inl s3=>some<|.inl (H<|s.1+1,s3.2)|.inr r=>r.elim else some<|.inr<|.inl (s.1,s.2)
def I1 (b:List b7)(a b2:Int)(cmp:b7->b7->Option Int):Option<|List b7:=tI (o3 (eD a b2 cmp) (H<|a+1,b)) λ(t:Int×List b7⊕Empty)=>match t with|.inl c=>some c.2|.inr r=>r.elim
theorem rF (b:List b7)(a b2:Int)(cmp:Cl Tryz.prog (b7×b7) Int (λx=>[qe x.1,qe x.2]) λr=>.t<|Y r):(L2 b a b2 cmp).m=I1 b a b2 λc d=>cmp.f (c,d):=by delta I1 eE eD;simp only[L2,cS,cR,CG.of,M.run,L1.m,U1.m,Cl.at,bso,iZ,Wr]<;>kernel_rfl
def dx (_:Nat)(_:List b7)(_ _ _:Int)(_:b7->b7->Option Int):Option<|List b7:=none
theorem yp (b:List b7)(a c b2:Int)(cmp:Cl Tryz.prog (b7×b7) Int (λx=>[qe x.1,qe x.2]) λr=>.t<|Y r):(bI b a c b2 cmp).m=dx 64 b a c b2 λd e=>cmp.f (d,e):=rfl
def cr (a:Int)(cmp:b7->b7->Option Int)(s:Int×Int×List b7):Option<|Int×Int×List b7⊕Int×Int×List b7⊕Empty:=bif decide (s.2.1<=a)then tI (I1 s.2.2 s.1 s.2.1 cmp) λv=>some<|.inl (s.2.1,H<|s.2.1+20,v)else some<|.inr<|.inl (s.1,s.2.1,s.2.2)
def lP (b:Int)(cmp:b7->b7->Option Int)(s3:Int×List b7)(a:Int×Int×List b7):Option<|Int×Int×List b7⊕Int×Int×List b7⊕Empty:=bif decide (a.2.1<=b)then tI (dx 64 a.2.2 a.1 (H<|a.1+s3.1) a.2.1 cmp) λv3=>some<|.inl (a.2.1,H<|a.2.1+H (2*s3.1),v3)else some<|.inr<|.inl (a.1,a.2.1,a.2.2)
def ct (b:Int)(cmp:b7->b7->Option Int)(s3:Int×List b7):Option<|Int×List b7⊕Int×List b7⊕Empty:=bif decide (s3.1<b)then tI (o3 (lP b cmp s3) (0,H<|2*s3.1,s3.2)) λ(t:Int×Int×List b7⊕Empty)=>match t with|.inl a=>bif decide (H (a.1+s3.1)<b)then tI (dx 64 a.2.2 a.1 (H<|a.1+s3.1) b cmp) λv4=>some<|.inl (H<|s3.1*2,v4)else some<|.inl (H<|s3.1*2,a.2.2)|.inr r=>r.elim else some<|.inr<|.inl (s3.1,s3.2)
def Z5 (a:List b7)(b:Int)(cmp:b7->b7->Option Int):Option<|List b7:=tI (o3 (cr b cmp) (0,20,a)) λ(t:Int×Int×List b7⊕Empty)=>match t with|.inl s2=>(tI (I1 s2.2.2 s2.1 b cmp) λc=>tI (o3 (ct b cmp) (20,c)) λ(t:Int×List b7⊕Empty)=>match t with|.inl d=>some d.2|.inr r=>r.elim)|.inr r=>r.elim
theorem Ag (a:List b7)(b:Int)(cmp:Cl Tryz.prog (b7×b7) Int (λx=>[qe x.1,qe x.2]) λr=>.t<|Y r):(di a b cmp).m=Z5 a b λc d=>cmp.f (c,d):=by delta Z5 cr lP ct;simp only[di,jr,jt,js,CG.of,M.run,Wr,rF,yp]<;>kernel_rfl
def M3 (x:List b7)(cmp:b7->b7->Option Int):Option<|List b7:=tI (Z5 x (x.length:Int) cmp) λv=>some v
theorem yo (x:List b7)(cmp:Cl Tryz.prog (b7×b7) Int (λx=>[qe x.1,qe x.2]) λr=>.t<|Y r):(bH x cmp).m=M3 x λa b=>cmp.f (a,b):=by simp only[bH,M3,CG.of,M.run,Ag]<;>kernel_rfl
def Bo (s:List Int):Option<|List Int:=NT s
theorem OX (s:List Int):(FN s).m=Bo s:=rfl
def uO (s:List Int):Option<|List Int:=Cv s
theorem Kb (s:List Int):(As s).m=uO s:=rfl
def Nv:=λa=>Q (x:=(tx a).m) _<|by simp only[tx,C.of,M.run,qS,cf9];rfl
theorem bk1 (rpm):(tx rpm).m=Nv rpm:=Qp
def Gh:=λs=>Q (x:=(kR s).m) _<|by simp only[kR,C.of,M.run,U1.m,qS];rfl
theorem aD4 (s):(kR s).m=Gh s:=Qp
def EN (cmp:Int->Option Int)(s:Int×Int):Option<|Int×Int⊕Int×Int⊕Empty:=bif decide<|s.1<s.2then tI (cmp<|H<|w9 .u64 (IS.wrap<|H<|s.1+s.2) 1) λv=>bif decide<|v>0then some<|.inl (H<|H (w9 .u64 (IS.wrap<|H<|s.1+s.2) 1)+1,s.2)else some<|.inl (s.1,H<|w9 .u64 (IS.wrap<|H<|s.1+s.2) 1)else some<|.inr<|.inl (s.1,s.2)
def Jj (a:Int)(cmp:Int->Option Int):Option<|Int×Bool:=tI (o3 (EN cmp) (0,a)) λ(t:Int×Int⊕Empty)=>match t with|.inl s2=>tI (bif decide (s2.1<a)then tI (cmp s2.1) λb=>some (b==0)else some false) λb2=>some (s2.1,b2)|.inr r=>r.elim
theorem cg7 (a:Int)(cmp:Cl Tryz.prog Int Int (λx=>[.t<|Y x]) λr=>.t<|Y r):(Nk a cmp).m=Jj a λb=>cmp.f b:=by delta Jj EN;simp only[Nk,Nn,C.of,M.run,Cl.at,Wr]<;>kernel_rfl
def uN:=λs=>Q (x:=(jb s).m) _<|by simp only[jb,CG.of,M.run,U1.m,qS];rfl
theorem Ka (s):(jb s).m=uN s:=Qp
def rq:=λs=>Q (x:=(bX s).m) _<|by simp only[bX,C.of,M.run,U1.m,qS];rfl
theorem Mv (s):(bX s).m=rq s:=Qp
def fR (s:List ai1)(a:ai1->Option Bool)(i:Int)(_:Unit):Option<|Fl Unit Int:=tI (y3 s i) λx=>tI (a x) λv=>bif v then some (.ret i)else some<|.next ()
def cG (s:List ai1)(a:ai1->Option Bool):Option Int:=tI (J9 (s.length:Int) (fR s a) ()) λ(t:Unit⊕Int)=>match t with|.inl _=>some<|-1|.inr r2=>some r2
theorem Dg (s:List ai1)(a:Cl Tryz.prog ai1 Bool (λx=>[qe x]) λr=>.t<|tB r):(gU s a).m=cG s λb=>a.f b:=by delta cG fR;simp only[gU,ng,C.of,M.run,L1.m,Cl.at,iZ,J9,P4]<;>kernel_rfl
def O6 (s:List ai1)(a:ai1->Option Bool):Option Bool:=tI (cG s a) λv=>some<|decide<|v>=0
theorem Tk (s:List ai1)(a:Cl Tryz.prog ai1 Bool (λx=>[qe x]) λr=>.t<|tB r):(T8 s a).m=O6 s λb=>a.f b:=by simp only[T8,O6,C.of,M.run,Dg]<;>kernel_rfl
def cH (s:List o9)(a:o9->Option Bool)(i:Int)(_:Unit):Option<|Fl Unit Int:=tI (y3 s i) λx=>tI (a x) λv=>bif v then some (.ret i)else some<|.next ()
def O0 (s:List o9)(a:o9->Option Bool):Option Int:=tI (J9 (s.length:Int) (cH s a) ()) λ(t:Unit⊕Int)=>match t with|.inl _=>some<|-1|.inr r2=>some r2
theorem tU (s:List o9)(a:Cl Tryz.prog o9 Bool (λx=>[qe x]) λr=>.t<|tB r):(I0 s a).m=O0 s λb=>a.f b:=by delta O0 cH;simp only[I0,aP,C.of,M.run,L1.m,Cl.at,iZ,J9,P4]<;>kernel_rfl
def G9 (s:List o9)(a:o9->Option Bool):Option Bool:=tI (O0 s a) λv=>some<|decide<|v>=0
theorem oY (s:List o9)(a:Cl Tryz.prog o9 Bool (λx=>[qe x]) λr=>.t<|tB r):(Q6 s a).m=G9 s λb=>a.f b:=by simp only[Q6,G9,C.of,M.run,tU]<;>kernel_rfl
def Y6 (s:List k6)(a:k6->Option Bool):Option Bool:=tI (y9 s a) λv=>some<|decide<|v>=0
theorem Ej (s:List k6)(a:Cl Tryz.prog k6 Bool (λx=>[qe x]) λr=>.t<|tB r):(iw s a).m=Y6 s λb=>a.f b:=by simp only[iw,Y6,C.of,M.run,lD]<;>kernel_rfl
def xF:=λs=>Q (x:=(er s).m) _<|by simp only[er,C.of,M.run,U1.m,qS];rfl
theorem aD5 (s):(er s).m=xF s:=Qp
def Hp:=λs=>Q (x:=(mI s).m) _<|by simp only[mI,CG.of,M.run,U1.m,qS];rfl
theorem aI2 (s):(mI s).m=Hp s:=Qp
def yk (s:List e9)(f:e9->e9->Option Int):Option<|List e9:=NU f s
theorem ae6 (s:List e9)(f:Cl Tryz.prog (e9×e9) Int (λx=>[qe x.1,qe x.2]) λr=>.t<|Y r):(GG s f).m=yk s λa b=>f.f (a,b):=rfl
def pa:=λx y=>Q (x:=(I4 x y).m) _<|by simp only[I4,C.of,M.run,qS,bt6];rfl
theorem aY2 (x y):(I4 x y).m=pa x y:=Qp
def Bv:=λa x b=>Q (x:=(vP a x b).run) _<|by simp only[vP,M.run,qS];rfl
theorem bk5 (u0 x u2):(vP u0 x u2).run=Bv u0 x u2:=Qp
def wz:=λGJ=>Q (x:=(td GJ).m) _<|by simp only[td,C.of,M.run,L1.m,qS,bk5];rfl
theorem cc7 (GJ):(td GJ).m=wz GJ:=Qp
def Of:=λa b2=>Q (x:=(K2 a b2).m) _<|by simp only[K2,C.of,M.run,L1.m,qS];rfl
theorem as6 (a b2):(K2 a b2).m=Of a b2:=Qp
def hJ (s:List j8)(f:j8->j8->Option Int):Option<|List j8:=NU f s
theorem Gx (s:List j8)(f:Cl Tryz.prog (j8×j8) Int (λx=>[qe x.1,qe x.2]) λr=>.t<|Y r):(vt s f).m=hJ s λa b=>f.f (a,b):=rfl
def C3 (a:Int)(cmp:ap3->ap3->Option Int)(s2:Int×List ap3):Option<|Int×List ap3⊕Int×List ap3⊕Empty:=tI (bif decide (s2.1>a)then tI (y3 s2.2 s2.1) λx=>tI (y3 s2.2<|H<|s2.1-1) λb=>tI (cmp x b) λv=>some<|decide (v<0)else some false) λ(c:Bool)=>bif c then tI (tI (y3 s2.2<|H<|s2.1-1) λd=>tI (y3 s2.2 s2.1) λe=>tI (fQ s2.2 s2.1 d) λl=>tI (y3 l<|H<|s2.1-1) λ_=>tI (fQ l (H<|s2.1-1) e) λl2=>some l2) λ(f:List ap3)=>some<|.inl (H<|s2.1-1,f)else some<|.inr<|.inl (s2.1,s2.2)
def A2 (a b2:Int)(cmp:ap3->ap3->Option Int)(s:Int×List ap3):Option<|Int×List ap3⊕Int×List ap3⊕Empty:=bif decide (s.1<b2)then tI (o3 (C3 a cmp) (s.1,s.2)) λ(t:Int×List ap3⊕Empty)=>match t with|.inl s3=>some<|.inl (H<|s.1+1,s3.2)|.inr r=>r.elim else some<|.inr<|.inl (s.1,s.2)
def A8 (b:List ap3)(a b2:Int)(cmp:ap3->ap3->Option Int):Option<|List ap3:=tI (o3 (A2 a b2 cmp) (H<|a+1,b)) λ(t:Int×List ap3⊕Empty)=>match t with|.inl c=>some c.2|.inr r=>r.elim
theorem jw (b:List ap3)(a b2:Int)(cmp:Cl Tryz.prog (ap3×ap3) Int (λx=>[qe x.1,qe x.2]) λr=>.t<|Y r):(F3 b a b2 cmp).m=A8 b a b2 λc d=>cmp.f (c,d):=by delta A8 C3 A2;simp only[F3,S7,S6,CG.of,M.run,L1.m,U1.m,Cl.at,bso,iZ,Wr]<;>kernel_rfl
def Q1 (_:Nat)(_:List ap3)(_ _ _:Int)(_:ap3->ap3->Option Int):Option<|List ap3:=none
theorem nC (b:List ap3)(a c b2:Int)(cmp:Cl Tryz.prog (ap3×ap3) Int (λx=>[qe x.1,qe x.2]) λr=>.t<|Y r):(N9 b a c b2 cmp).m=Q1 64 b a c b2 λd e=>cmp.f (d,e):=rfl
def O7 (a:Int)(cmp:ap3->ap3->Option Int)(s:Int×Int×List ap3):Option<|Int×Int×List ap3⊕Int×Int×List ap3⊕Empty:=bif decide (s.2.1<=a)then tI (A8 s.2.2 s.1 s.2.1 cmp) λv=>some<|.inl (s.2.1,H<|s.2.1+20,v)else some<|.inr<|.inl (s.1,s.2.1,s.2.2)
def cj (b:Int)(cmp:ap3->ap3->Option Int)(s3:Int×List ap3)(a:Int×Int×List ap3):Option<|Int×Int×List ap3⊕Int×Int×List ap3⊕Empty:=bif decide (a.2.1<=b)then tI (Q1 64 a.2.2 a.1 (H<|a.1+s3.1) a.2.1 cmp) λv3=>some<|.inl (a.2.1,H<|a.2.1+H (2*s3.1),v3)else some<|.inr<|.inl (a.1,a.2.1,a.2.2)
def O8 (b:Int)(cmp:ap3->ap3->Option Int)(s3:Int×List ap3):Option<|Int×List ap3⊕Int×List ap3⊕Empty:=bif decide (s3.1<b)then tI (o3 (cj b cmp s3) (0,H<|2*s3.1,s3.2)) λ(t:Int×Int×List ap3⊕Empty)=>match t with|.inl a=>bif decide (H (a.1+s3.1)<b)then tI (Q1 64 a.2.2 a.1 (H<|a.1+s3.1) b cmp) λv4=>some<|.inl (H<|s3.1*2,v4)else some<|.inl (H<|s3.1*2,a.2.2)|.inr r=>r.elim else some<|.inr<|.inl (s3.1,s3.2)
def K5 (a:List ap3)(b:Int)(cmp:ap3->ap3->Option Int):Option<|List ap3:=tI (o3 (O7 b cmp) (0,20,a)) λ(t:Int×Int×List ap3⊕Empty)=>match t with|.inl s2=>(tI (A8 s2.2.2 s2.1 b cmp) λc=>tI (o3 (O8 b cmp) (20,c)) λ(t:Int×List ap3⊕Empty)=>match t with|.inl d=>some d.2|.inr r=>r.elim)|.inr r=>r.elim
theorem oZ (a:List ap3)(b:Int)(cmp:Cl Tryz.prog (ap3×ap3) Int (λx=>[qe x.1,qe x.2]) λr=>.t<|Y r):(P9 a b cmp).m=K5 a b λc d=>cmp.f (c,d):=by delta K5 O7 cj O8;simp only[P9,aV,aX,aW,CG.of,M.run,Wr,jw,nC]<;>kernel_rfl
def C9 (x:List ap3)(cmp:ap3->ap3->Option Int):Option<|List ap3:=tI (K5 x (x.length:Int) cmp) λv=>some v
theorem nB (x:List ap3)(cmp:Cl Tryz.prog (ap3×ap3) Int (λx=>[qe x.1,qe x.2]) λr=>.t<|Y r):(N8 x cmp).m=C9 x λa b=>cmp.f (a,b):=by simp only[N8,C9,CG.of,M.run,oZ]<;>kernel_rfl
def hG (s:List n9)(a:n9->Option Bool)(i:Int)(_:Unit):Option<|Fl Unit Int:=tI (y3 s i) λx=>tI (a x) λv=>bif v then some (.ret i)else some<|.next ()
def dS (s:List n9)(a:n9->Option Bool):Option Int:=tI (J9 (s.length:Int) (hG s a) ()) λ(t:Unit⊕Int)=>match t with|.inl _=>some<|-1|.inr r2=>some r2
theorem Ek (s:List n9)(a:Cl Tryz.prog n9 Bool (λx=>[qe x]) λr=>.t<|tB r):(iz s a).m=dS s λb=>a.f b:=by delta dS hG;simp only[iz,nH,C.of,M.run,L1.m,Cl.at,iZ,J9,P4]<;>kernel_rfl
def Q8 (s:List n9)(a:n9->Option Bool):Option Bool:=tI (dS s a) λv=>some<|decide<|v>=0
theorem AB (s:List n9)(a:Cl Tryz.prog n9 Bool (λx=>[qe x]) λr=>.t<|tB r):(V9 s a).m=Q8 s λb=>a.f b:=by simp only[V9,Q8,C.of,M.run,Ek]<;>kernel_rfl
def CY:=λs=>Q (x:=(bE s).m) _<|by simp only[bE,C.of,M.run,U1.m,qS];rfl
theorem ak7 (s):(bE s).m=CY s:=Qp
def Ea:=λs=>Q (x:=(ja s).m) _<|by simp only[ja,CG.of,M.run,U1.m,qS];rfl
theorem au1 (s):(ja s).m=Ea s:=Qp
def Lr:=λx low high=>Q (x:=(C7 x low high).m) _<|by simp only[C7,C.of,M.run,qS];rfl
theorem aY6 (x low high):(C7 x low high).m=Lr x low high:=Qp
def xg:=λb2=>Q (x:=(ar b2).m) _<|by simp only[ar,C.of,M.run,qS,aY6];rfl
theorem LI (b2):(ar b2).m=xg b2:=Qp
def xe:=λa=>Q (x:=(ee a).m) _<|by simp only[ee,C.of,M.run,qS];rfl
theorem LB (a):(ee a).m=xe a:=Qp
def jg:=λe2 i x k=>Q (x:=(eV e2 i x k).run) _<|by simp only[eV,M.run,L1.m,qS];rfl
theorem Gz (e2 i x k):(eV e2 i x k).run=jg e2 i x k:=Qp
def jf:=λe2 i=>Q (x:=(eU e2 i).run) _<|by simp only[eU,M.run,L1.m,qS,Gz];rfl
theorem ad2 (e2 i):(eU e2 i).run=jf e2 i:=Qp
def oD:=λe2=>Q (x:=(ao e2).m) _<|by simp only[ao,C.of,M.run,qS,LB,Gz,ad2];rfl
theorem LC (e2):(ao e2).m=oD e2:=Qp
def fF:=λa=>Q (x:=(bS a).m) _<|by simp only[bS,C.of,M.run,qS];rfl
theorem Mh (a):(bS a).m=fF a:=Qp
def ey:=λw c s=>Q (x:=(gx w c s).run) _<|by simp only[gx,M.run,L1.m,qS];rfl
theorem ag1 (w c s):(gx w c s).run=ey w c s:=Qp
def rb:=λw c=>Q (x:=(lT w c).m) _<|by simp only[lT,C.of,M.run,Wr,qS,ag1];rfl
theorem Mg (w c):(lT w c).m=rb w c:=Qp
def oB:=λa b2=>Q (x:=(jW a b2).m) _<|by simp only[jW,C.of,M.run,qS];rfl
theorem Lz (a b2):(jW a b2).m=oB a b2:=Qp
def uB (a b2 c b:Int):Option<|Int×Int:=bif b !=1&&b !=2&&b !=3then some (0,1)else bif c==0then some (0,10)else tI (fF c) λv=>tI (fF a) λe=>tI (fF b2) λv3=>tI (oB e v3) λv4=>tI (rb v4 v) λr2=>bif !r2.2.2then some (0,9)else tI (bif b==1then some<|a !=0&&b2 !=0&&!(!decide (a<0)==decide (b2<0))==decide (c<0)&&decide (r2.2.1>0)else bif b==2then some<|!(a !=0&&b2 !=0&&!(!decide (a<0)==decide (b2<0))==decide (c<0))&&decide (r2.2.1>0)else bif b==3then tI (bif decide<|r2.2.1>IS.wrap (v-r2.2.1)then some true else some<|r2.2.1==IS.wrap (v-r2.2.1)&&!(a !=0&&b2 !=0&&!(!decide (a<0)==decide (b2<0))==decide (c<0))) λf=>some f else some false) λ(d:Bool)=>tI (bif d then bif r2.1==18446744073709551615then some<|Sum.inr (0,9)else some<|df6<|IS.wrap (r2.1+1)else some<|df6 r2.1) λ(t:Int⊕Int×Int)=>match t with|.inl q=>bif a !=0&&b2 !=0&&!(!decide (a<0)==decide (b2<0))==decide (c<0)then bif decide<|q>9223372036854775808then some (0,9)else some (H<|IS.wrap<|0-q,0)else bif decide<|q>=9223372036854775808then some (0,9)else some (H q,0)|.inr r3=>some r3
theorem at6 (a b2 c mode:Int):(pS a b2 c mode).m=uB a b2 c mode:=by simp only[pS,uB,C.of,M.run,bg,bgo,Mg,Mh,Lz]<;>kernel_rfl
def IZ:=λa b2 b=>Q (x:=(nX a b2 b).m) _<|by simp only[nX,C.of,M.run,qS,at6];rfl
theorem aV3 (a b2 mode):(nX a b2 mode).m=IZ a b2 mode:=Qp
def oA:=λa b2=>Q (x:=(E3 a b2).m) _<|by simp only[E3,C.of,M.run,qS,aV3];rfl
theorem iM (a b2):(E3 a b2).m=oA a b2:=Qp
def Ja:=λc8=>Q (x:=(Z7 c8).m) _<|by simp only[Z7,C.of,M.run,qS,iM];rfl
theorem OS (c8):(Z7 c8).m=Ja c8:=Qp
def fG:=λa s=>Q (x:=(cu a s).run) _<|by simp only[cu,M.run,qS,iM,OS];rfl
theorem WO (rpm s):(cu rpm s).run=fG rpm s:=Qp
def sk:=λa=>Q (x:=(gA a).m) _<|by simp only[gA,C.of,M.run,Wr,qS,WO];rfl
theorem ak6 (rpm):(gA rpm).m=sk rpm:=Qp
end Go.Pv
set_option maxHeartbeats 1000000
open Go.Proofs Go.Proofs.YtlbfdimlomockaaGreat
namespace Go.Pv
open Go Go.Pv.Et
def Uu:=λa=>Q (x:=(He a).m) _<|by simp only[He,C.of,M.run,qS,ae7];rfl
theorem cg5 (n2):(He n2).m=Uu n2:=Qp
def bz8:=Q (x:=(Hf).m) _<|by simp only[Hf,C.of,M.run,qS];rfl
theorem cg6:(Hf).m=bz8:=Qp
def Vy:=Q (x:=(BP).m) _<|by simp only[BP,C.of,M.run,U1.m,qS];rfl
theorem bL1:(BP).m=Vy:=Qp
def MC:=λe2=>Q (x:=(va e2).m) _<|by simp only[va,C.of,M.run,qS,Lj,cg5,bL1,cg6];rfl
theorem XF (e2):(va e2).m=MC e2:=Qp
def DF:=λa=>Q (x:=(kU a).m) _<|by simp only[kU,C.of,M.run,qS];rfl
theorem Qb (n2):(kU n2).m=DF n2:=Qp
def DD:=λl i a=>Q (x:=(qV l i a).run) _<|by simp only[qV,M.run,L1.m,qS,Qb];rfl
theorem aV9 (l i u2):(qV l i u2).run=DD l i u2:=Qp
def Ld:=λl=>Q (x:=(sf l).m) _<|by simp only[sf,C.of,M.run,L1.m,qS,aV9];rfl
theorem bF8 (l):(sf l).m=Ld l:=Qp
def wq:=λz=>Q (x:=(qU z).m) _<|by simp only[qU,C.of,M.run,qS,Qb];rfl
theorem Qa (z):(qU z).m=wq z:=Qp
def Jm:=λa b x c=>Q (x:=(ov a b x c).run) _<|by simp only[ov,M.run,Cl.of,qS,qy,Qa];rfl
theorem aI6 (m2 u1 x u3):(ov m2 u1 x u3).run=Jm m2 u1 x u3:=Qp
def Ic:=λa=>Q (x:=(I5 a).m) _<|by simp only[I5,C.of,M.run,L1.m,qS,bF8,aI6];rfl
theorem Iv (m2):(I5 m2).m=Ic m2:=Qp
def IB:=λa=>Q (x:=(CB a).m) _<|by simp only[CB,C.of,M.run,qS];rfl
theorem RH (n2):(CB n2).m=IB n2:=Qp
def HF:=λl i a=>Q (x:=(vS l i a).run) _<|by simp only[vS,M.run,L1.m,qS];rfl
theorem bk6 (l i u2):(vS l i u2).run=HF l i u2:=Qp
def Ql:=λl=>Q (x:=(Ex l).m) _<|by simp only[Ex,C.of,M.run,L1.m,Cl.of,qS,RH,qy,bk6];rfl
theorem cd0 (l):(Ex l).m=Ql l:=Qp
def MF:=λc=>Q (x:=(Y0 c).m) _<|by simp only[Y0,C.of,M.run,Cl.of,qS,cd0,RH,qy];rfl
theorem bK5 (c):(Y0 c).m=MF c:=Qp
def UW:=λa low high=>Q (x:=(J5 a low high).m) _<|by simp only[J5,C.of,M.run,qS];rfl
theorem XB (n2 low high):(J5 n2 low high).m=UW n2 low high:=Qp
def UU:=λy=>Q (x:=(BC y).m) _<|by simp only[BC,C.of,M.run,qS,XB];rfl
theorem XA (y):(BC y).m=UU y:=Qp
def Rw:=λa x b=>Q (x:=(yS a x b).run) _<|by simp only[yS,M.run,L1.m,qS,XB,Iu];rfl
theorem bu4 (u0 x u2):(yS u0 x u2).run=Rw u0 x u2:=Qp
def Tt:=λt2=>Q (x:=(xR t2).m) _<|by simp only[xR,C.of,M.run,L1.m,Cl.of,qS,XA,bK5,qy,Iv,bu4];rfl
theorem cf7 (t2):(xR t2).m=Tt t2:=Qp
def PG:=λx low high=>Q (x:=(I6 x low high).m) _<|by simp only[I6,C.of,M.run,qS];rfl
theorem bu3 (x low high):(I6 x low high).m=PG x low high:=Qp
def Jr:=λx c c2=>Q (x:=(oy x c c2).m) _<|by simp only[oy,C.of,M.run,qS,bu3];rfl
theorem OY (x c c2):(oy x c c2).m=Jr x c c2:=Qp
def Gp:=λl low high=>Q (x:=(nj l low high).m) _<|by simp only[nj,C.of,M.run,Cl.of,qS,qy,OY];rfl
theorem bk4 (l low high):(nj l low high).m=Gp l low high:=Qp
def nv:=λa b2=>Q (x:=(tJ a b2).m) _<|by simp only[tJ,C.of,M.run,qS];rfl
theorem RR (a b2):(tJ a b2).m=nv a b2:=Qp
def Ad:=λrow=>Q (x:=(tL row).m) _<|by simp only[tL,C.of,M.run,qS,Iu,bk4];rfl
theorem RS (row):(tL row).m=Ad row:=Qp
def Le:=λt2=>Q (x:=(ni t2).m) _<|by simp only[ni,C.of,M.run,Cl.of,qS,bK5,Wk,WN,Iv,RR,RS,bk4];rfl
theorem bF9 (t2):(ni t2).m=Le t2:=Qp
def AF:=λx low high=>Q (x:=(N4 x low high).m) _<|by simp only[N4,C.of,M.run,qS];rfl
theorem cc8 (x low high):(N4 x low high).m=AF x low high:=Qp
def Pp:=λx c c2=>Q (x:=(vR x c c2).m) _<|by simp only[vR,C.of,M.run,qS,cc8];rfl
theorem Tz (x c c2):(vR x c c2).m=Pp x c c2:=Qp
def MD:=λl low high=>Q (x:=(lF l low high).m) _<|by simp only[lF,C.of,M.run,Cl.of,qS,Tz,qy];rfl
theorem XG (l low high):(lF l low high).m=MD l low high:=Qp
def da:=λg=>Q (x:=(dc g).m) _<|by simp only[dc,C.of,M.run,qS];rfl
theorem OR (g):(dc g).m=da g:=Qp
def Iy:=λa x b=>Q (x:=(nS a x b).run) _<|by simp only[nS,M.run,qS,XG];rfl
theorem aI4 (u0 x u2):(nS u0 x u2).run=Iy u0 x u2:=Qp
def HD:=λt2=>Q (x:=(cb t2).m) _<|by simp only[cb,C.of,M.run,L1.m,qS,cf7,XG,bK5,OR,Iv,bF9,aI4];rfl
theorem Io (t2):(cb t2).m=HD t2:=Qp
def SD:=λx low high=>Q (x:=(B7 x low high).m) _<|by simp only[B7,C.of,M.run,qS];rfl
theorem bF5 (x low high):(B7 x low high).m=SD x low high:=Qp
def NF:=λb2=>Q (x:=(hP b2).m) _<|by simp only[hP,C.of,M.run,qS,bF5];rfl
theorem XU (b2):(hP b2).m=NF b2:=Qp
def NC:=λp2=>Q (x:=(vo p2).m) _<|by simp only[vo,C.of,M.run,qS];rfl
theorem bL2 (p2):(vo p2).m=NC p2:=Qp
def oJ:=λx low high=>Q (x:=(dP x low high).m) _<|by simp only[dP,C.of,M.run,qS];rfl
theorem Pl (x low high):(dP x low high).m=oJ x low high:=Qp
def jI:=λc=>Q (x:=(qN c).m) _<|by simp only[qN,C.of,M.run,qS,Pl];rfl
theorem PU (c):(qN c).m=jI c:=Qp
def vy (p2:E7):Option Bool:=tI (oJ p2.N2 750 1250) λv=>tI (bif !v then some true else tI (oJ p2.pL 0 1000) λa=>some !a) λb2=>bif b2||(p2.Cells.length:Int)!=9then some false else tI (bif !p2.T3 then some (p2.N2 !=1000||p2.pL !=0||p2.nA)else some false) λb=>bif b then some false else tI (cC p2.Cells jI) λv3=>some !v3
theorem TL (p2:E7):(pg p2).m=vy p2:=by simp only[pg,vy,C.of,M.run,Cl.of,bg,bga,PU,Pl,Df]<;>kernel_rfl
def Lq:=λa=>Q (x:=(jU a).m) _<|by simp only[jU,C.of,M.run,qS];rfl
theorem aY3 (n2):(jU n2).m=Lq n2:=Qp
def Ns:=λk=>Q (x:=(vh k).m) _<|by simp only[vh,C.of,M.run,qS,aY3];rfl
theorem bL0 (k):(vh k).m=Ns k:=Qp
def yF:=λk=>Q (x:=(tg k).m) _<|by simp only[tg,C.of,M.run,qS,bL0];rfl
theorem RG (k):(tg k).m=yF k:=Qp
def Kf:=λe2 c=>Q (x:=(mX e2 c).m) _<|by simp only[mX,C.of,M.run,Cl.of,qS,RG,cc8,Lj,TL,bL2,Ct];rfl
theorem Wc (e2 c):(mX e2 c).m=Kf e2 c:=Qp
def rD:=λt2=>Q (x:=(af t2).m) _<|by simp only[af,C.of,M.run,qS];rfl
theorem RF (t2):(af t2).m=rD t2:=Qp
def pD (r2:b7):Option Bool:=tI (bif decide (r2.H3<0)||decide (r2.H3>15)||decide (r2.u5<0)||decide (r2.u5>15)then some true else tI (rD r2.j4) λv=>some !v) λb2=>bif b2 then some false else tI (bif r2.Kind==1then some true else tI (bif decide<|r2.H3<=1then some<|r2.Kind==2||(r2.Kind==3)else some false) λa=>some a) λb=>some b
theorem bt3 (r2:b7):(jD r2).m=pD r2:=by simp only[jD,pD,C.of,M.run,bg,bga,bgo,RF]<;>kernel_rfl
def vL:=λr2=>Q (x:=(qE r2).m) _<|by simp only[qE,C.of,M.run,qS,bt3];rfl
theorem PQ (r2):(qE r2).m=vL r2:=Qp
def HC:=λi a=>Q (x:=(vQ i a).m) _<|by simp only[vQ,C.of,M.run,Cl.of,qS,PQ,XG,cc8,Tl];rfl
theorem bt7 (i D7):(vQ i D7).m=HC i D7:=Qp
def xQ:=λa=>Q (x:=(pH a).m) _<|by simp only[pH,C.of,M.run,qS];rfl
theorem bK9 (n2):(pH n2).m=xQ n2:=Qp
def GU:=λp9=>Q (x:=(vg p9).m) _<|by simp only[vg,C.of,M.run,qS];rfl
theorem XQ (p9):(vg p9).m=GU p9:=Qp
def am9:=λc8 p9=>Q (x:=(Hd c8 p9).m) _<|by simp only[Hd,C.of,M.run,qS,XQ];rfl
theorem cg4 (c8 p9):(Hd c8 p9).m=am9 c8 p9:=Qp
def GS:=λa c8 p9=>Q (x:=(pG a c8 p9).m) _<|by simp only[pG,C.of,M.run,qS,cg4,bK9];rfl
theorem Mf (aP8 c8 p9):(pG aP8 c8 p9).m=GS aP8 c8 p9:=Qp
def KP:=λp2 first a=>Q (x:=(EA p2 first a).m) _<|by simp only[EA,C.of,M.run,qS,rE,bL2];rfl
theorem af8 (p2 first second):(EA p2 first second).m=KP p2 first second:=Qp
def A4:=λs e2=>Q (x:=(y4 s e2).m) _<|by simp only[y4,CG.of,M.run,qS];rfl
theorem jO (s e2):(y4 s e2).m=A4 s e2:=Qp
def zZ:=λi c c2=>Q (x:=(mJ i c c2).m) _<|by simp only[mJ,C.of,M.run,L1.m,qS];rfl
theorem Mw (i c c2):(mJ i c c2).m=zZ i c c2:=Qp
def aD8:=λl x=>Q (x:=(kV l x).m) _<|by simp only[kV,C.of,M.run,L1.m,Cl.of,qS,rE,bL3,Mw];rfl
theorem aZ0 (l x):(kV l x).m=aD8 l x:=Qp
def DE:=λa b c d x=>Q (x:=(kT a b c d x).m) _<|by simp only[kT,C.of,M.run,qS,XE];rfl
theorem aY9 (x0 x1 y0 y1 x):(kT x0 x1 y0 y1 x).m=DE x0 x1 y0 y1 x:=Qp
def Lc:=λj c c2 a=>Q (x:=(se j c c2 a).m) _<|by simp only[se,C.of,M.run,L1.m,qS,aY9];rfl
theorem bF7 (j c c2 c3):(se j c c2 c3).m=Lc j c c2 c3:=Qp
def Re:=λa x y=>Q (x:=(EG a x y).m) _<|by simp only[EG,C.of,M.run,L1.m,qS,bF7,aY9,aZ0];rfl
theorem cd3 (m2 x y):(EG m2 x y).m=Re m2 x y:=Qp
def Gk:=λa x y=>Q (x:=(kS a x y).m) _<|by simp only[kS,C.of,M.run,qS,Iv,cd3];rfl
theorem cd2 (m2 x y):(kS m2 x y).m=Gk m2 x y:=Qp
def KQ:=λt2 a c8=>Q (x:=(EB t2 a c8).m) _<|by simp only[EB,C.of,M.run,qS,rE,cd2,Iv];rfl
theorem af9 (t2 value c8):(EB t2 value c8).m=KQ t2 value c8:=Qp
def mV (s:B1)(g:uQ)(e2:Int):Option<|B1×Int×Int:=tI (da g) λv=>bif !v||decide (s.Sum< -4398046511104)||decide (s.Sum>4398046511104)then some ((⟨0⟩:B1),0,1)else bif decide (e2< -1048576)||decide (e2>1048576)then some ((⟨0⟩:B1),0,2)else tI (bif decide (w9 .i64 (H<|H (g.P*e2)+s.Sum) 10<=g.fI)||decide (e2<=0)then some<|decide (w9 .i64 (H<|H (g.P*e2)+s.Sum) 10>=g.Bu)||decide (e2>=0)else some false) λb2=>tI (bif b2 then tI (jN (H<|s.Sum+H (g.I*e2)) (-4398046511104) 4398046511104) λa=>some a else some s.Sum) λ(b:Int)=>tI (jN (w9 .i64 (H<|H (g.P*e2)+s.Sum) 10) g.Bu g.fI) λv3=>some ((⟨b⟩:B1),v3,0)
theorem bk0 (s:B1)(g:uQ)(e2:Int):(AR s g e2).m=mV s g e2:=by simp only[AR,mV,C.of,M.run,bg,bga,rE,OR]<;>kernel_rfl
def sZ:=λs g a c8=>Q (x:=(Hc s g a c8).m) _<|by simp only[Hc,C.of,M.run,qS,bk0,OR,bK9];rfl
theorem at4 (s g target c8):(Hc s g target c8).m=sZ s g target c8:=Qp
def vI:=λr2=>Q (x:=(qC r2).m) _<|by simp only[qC,C.of,M.run,qS,bt3];rfl
theorem PO (r2):(qC r2).m=vI r2:=Qp
def Hw:=λl low high=>Q (x:=(vN l low high).m) _<|by simp only[vN,C.of,M.run,Cl.of,qS,PO,RF,Tl];rfl
theorem bt4 (l low high):(vN l low high).m=Hw l low high:=Qp
def O9:=λa b2=>Q (x:=(nR a b2).m) _<|by simp only[nR,C.of,M.run,qS];rfl
theorem OP (a b2):(nR a b2).m=O9 a b2:=Qp
def ua:=λs t2=>Q (x:=(iO s t2).m) _<|by simp only[iO,CG.of,M.run,qS];rfl
theorem JL (s t2):(iO s t2).m=ua s t2:=Qp
def rB:=λs t2=>Q (x:=(gv s t2).m) _<|by simp only[gv,CG.of,M.run,qS];rfl
theorem Il (s t2):(gv s t2).m=rB s t2:=Qp
def rC:=λs t2=>Q (x:=(gw s t2).m) _<|by simp only[gw,CG.of,M.run,qS,rE];rfl
theorem Im (s t2):(gw s t2).m=rC s t2:=Qp
def fS (s:l6)(r2:b7):Option<|Bool×l6:=tI (bif r2.Kind==1then tI (ua s r2.j4) λv=>some v else bif r2.Kind==2then tI (rB s r2.j4) λc=>some c else bif r2.Kind==3then tI (rC s r2.j4) λv3=>some v3 else some s) λ(a:l6)=>tI (bif a.low !=s.low then some r2.H3 else some a.source) λ(b:Int)=>bif a.low !=s.low then some (true,(⟨a.low,a.high,b⟩:l6))else some (a.high !=s.high,(⟨a.low,a.high,b⟩:l6))
theorem JM (s:l6)(r2:b7):(pN s r2).m=fS s r2:=by simp only[pN,fS,CG.of,M.run,bg,bgo,bgt,Il,JL,Im]<;>kernel_rfl
def jM (_:Int)(x:b7)(s:List Int×l6):Option<|Fl (List Int×l6) Empty:=tI (fS s.2 x) λr2=>bif r2.1 then tI (G2 s.1 ([x.H3]:List Int)) λl2=>some<|.next (l2,r2.2)else some<|.next (s.1,r2.2)
def yz (l:List b7)(low high:Int):Option<|l6×List Int:=tI (qu l) λv=>tI (M3 v O9) λa=>tI (iI a jM (([]:List Int),(⟨low,high,-1⟩:l6))) λ(t:List Int×l6⊕Empty)=>match t with|.inl s2=>tI (Bo s2.1) λv3=>tI (tI (uO v3) λv4=>some (v4,s2.2)) λ(s3:List Int×l6)=>some (s3.2,s3.1)|.inr r=>r.elim
theorem bj9 (l:List b7)(low high:Int):(AN l low high).m=yz l low high:=by delta yz jM;simp only[AN,DN,C.of,M.run,U1.m,Cl.of,bso,iZ,iI,Bj,Wr,OP,JM,Hx,Kb,yo,OX]<;>kernel_rfl
def sT:=λg l low high b a=>Q (x:=(yU g l low high b a).m) _<|by simp only[yU,C.of,M.run,qS,bj9,bt4,RF];rfl
theorem Wa (g l low high up down):(yU g l low high up down).m=sT g l low high up down:=Qp
def lR (s:n3):Option n3:=tI (tI (KP s.c.B6 s.i.Aw s.i.Ax) λr2=>some (r2.2,r2.1)) λ(s2:Int×ia)=>tI (A4 ({s with c.B6:=s2.2}:n3) s2.1) λv=>tI (KQ v.t v.c.B6.Value v.i.n4) λr3=>tI (A4 v r3.2) λd=>tI (GS d.c.B6.Value d.i.n4 d.i.M4) λv3=>tI (bif v3 then tI (tI (GU d.i.M4) λv4=>tI (sZ d.c.T4 d.t.T4 v4 d.i.n4) λr4=>some (r4.2.2,r4.2.1,r4.1.Sum)) λ(s3:Int×Int×Int)=>tI (A4 ({d with c.T4:=(⟨s3.2.2⟩:B1)}:n3) s3.1) λv5=>tI (jN s3.2.1 (-5000) 10000) λh=>tI (G2 ([(⟨0,3,r3.1,0⟩:b7)]:List b7) ([(⟨1,2,h,1⟩:b7)]:List b7)) λl=>some (v5,l)else some (({d with c.T4:=(⟨0⟩:B1)}:n3),([(⟨0,3,r3.1,0⟩:b7)]:List b7))) λ(a:n3×List b7)=>tI (tI (G2 a.2 a.1.i.Requests) λl2=>tI (sT a.1.c.bZ l2 (-5000) 10000 300 1000) λr5=>some (r5.2,r5.1,l2)) λ(f:Int×rz×List b7)=>tI (A4 (⟨a.1.t,a.1.e,a.1.b,(⟨a.1.c.B6,a.1.c.T4,a.1.c.I7,a.1.c.K7,a.1.c.E4,f.2.1⟩:w4),a.1.i,a.1.wanted,a.1.ao6,a.1.D3,a.1.late,a.1.pattern,a.1.time,a.1.out,a.1.fail⟩:n3) f.1) λg=>some ({g with wanted:=q9 0 g.c.bZ.j4}:n3)
theorem as7 (s:n3):(pO s).m=lR s:=by simp only[pO,lR,CG.of,M.run,U1.m,bso,iZ,Wa,rE,jO,Mf,at4,XQ,af8,af9]<;>kernel_rfl
def DG:=λi c c2 a b=>Q (x:=(qX i c c2 a b).m) _<|by simp only[qX,C.of,M.run,qS,cd2];rfl
theorem Qd (i c c2 c3 c4):(qX i c c2 c3 c4).m=DG i c c2 c3 c4:=Qp
def vG:=λt2 c8 B8=>Q (x:=(wh t2 c8 B8).m) _<|by simp only[wh,C.of,M.run,L1.m,Cl.of,qS,bL3,Qd,bF9,bu3];rfl
theorem bu2 (t2 c8 B8):(wh t2 c8 B8).m=vG t2 c8 B8:=Qp
def Qk:=λx e2 other=>Q (x:=(th x e2 other).m) _<|by simp only[th,C.of,M.run,qS];rfl
theorem cc9 (x e2 other):(th x e2 other).m=Qk x e2 other:=Qp
def Di:=λi c c2=>Q (x:=(qF i c c2).m) _<|by simp only[qF,C.of,M.run,L1.m,qS];rfl
theorem PR (i c c2):(qF i c c2).m=Di i c c2:=Qp
def HG:=λc x=>Q (x:=(vT c x).m) _<|by simp only[vT,C.of,M.run,Cl.of,qS,PR,bL3];rfl
theorem bt8 (c x):(vT c x).m=HG c x:=Qp
def MG:=λc x=>Q (x:=(BG c x).m) _<|by simp only[BG,C.of,M.run,L1.m,qS,XE,bt8];rfl
theorem bK6 (c x):(BG c x).m=MG c x:=Qp
def IA:=λc x=>Q (x:=(wF c x).m) _<|by simp only[wF,C.of,M.run,qS,bK5,bK6];rfl
theorem cr3 (c x):(wF c x).m=IA c x:=Qp
def PL:=λt2 c8 k5 a=>Q (x:=(yT t2 c8 k5 a).m) _<|by simp only[yT,C.of,M.run,qS,XE,cr3,cd2];rfl
theorem cc6 (t2 c8 k5 J2):(yT t2 c8 k5 J2).m=PL t2 c8 k5 J2:=Qp
def yx:=λk c c2 a b=>Q (x:=(tb k c c2 a b).m) _<|by simp only[tb,C.of,M.run,qS,cc6];rfl
theorem RD (k c c2 c3 c4):(tb k c c2 c3 c4).m=yx k c c2 c3 c4:=Qp
def Ef:=λt2 c8 b a=>Q (x:=(yQ t2 c8 b a).m) _<|by simp only[yQ,C.of,M.run,Cl.of,qS,RD,cf7,XB,bL3];rfl
theorem bE9 (t2 c8 want J2):(yQ t2 c8 want J2).m=Ef t2 c8 want J2:=Qp
def Xt:=λc8 k5=>Q (x:=(Kw c8 k5).m) _<|by simp only[Kw,C.of,M.run,qS,XB,bk1];rfl
theorem cr1 (c8 k5):(Kw c8 k5).m=Xt c8 k5:=Qp
def yy:=λk c c2 a=>Q (x:=(tc k c c2 a).m) _<|by simp only[tc,C.of,M.run,qS];rfl
theorem RE (k c c2 c3):(tc k c c2 c3).m=yy k c c2 c3:=Qp
def Eg:=λb2 a k5=>Q (x:=(yR b2 a k5).m) _<|by simp only[yR,C.of,M.run,Cl.of,qS,RE,XB,XU,bL3];rfl
theorem bF0 (b2 aL9 k5):(yR b2 aL9 k5).m=Eg b2 aL9 k5:=Qp
def pM:=λs=>Q (x:=(eJ s).m) _<|by simp only[eJ,CG.of,M.run,qS,cr1,bE9,bF0,cc9,jO,bu2];rfl
theorem af1 (s):(eJ s).m=pM s:=Qp
def JC:=λt2 c8 k5 a=>Q (x:=(ta t2 c8 k5 a).m) _<|by simp only[ta,C.of,M.run,qS,cf7,XB,cc6];rfl
theorem Pk (t2 c8 k5 J2):(ta t2 c8 k5 J2).m=JC t2 c8 k5 J2:=Qp
def Gn:=λt2 c8 ao6=>Q (x:=(nh t2 c8 ao6).m) _<|by simp only[nh,C.of,M.run,qS,cd2,bF9,bu3];rfl
theorem bk3 (t2 c8 ao6):(nh t2 c8 ao6).m=Gn t2 c8 ao6:=Qp
def Cd:=λt2 b late D3 a=>Q (x:=(jG t2 b late D3 a).m) _<|by simp only[jG,C.of,M.run,L1.m,qS,cr3];rfl
theorem TU (t2 bo3 late D3 D7):(jG t2 bo3 late D3 D7).m=Cd t2 bo3 late D3 D7:=Qp
def Ac:=λlate c c2 a b d=>Q (x:=(tH late c c2 a b d).m) _<|by simp only[tH,C.of,M.run,qS,TU];rfl
theorem RQ (late c c2 c3 c4 c5):(tH late c c2 c3 c4 c5).m=Ac late c c2 c3 c4 c5:=Qp
def wu:=λt2 most a r2 b=>Q (x:=(qY t2 most a r2 b).run) _<|by simp only[qY,M.run,qS,TU];rfl
theorem aW0 (t2 most D7 r2 f2):(qY t2 most D7 r2 f2).run=wu t2 most D7 r2 f2:=Qp
def oT:=λt2 c8 ao6 most a=>Q (x:=(zp t2 c8 ao6 most a).m) _<|by simp only[zp,C.of,M.run,Cl.of,Wr,qS,bL3,bk3,RQ,bu3,aW0];rfl
theorem Wm (t2 c8 ao6 most D7):(zp t2 c8 ao6 most D7).m=oT t2 c8 ao6 most D7:=Qp
def Ab:=λa D3 b i c=>Q (x:=(mK a D3 b i c).run) _<|by simp only[mK,M.run,L1.m,U1.m,qS];rfl
theorem aD6 (D7 D3 ic i f2):(mK D7 D3 ic i f2).run=Ab D7 D3 ic i f2:=Qp
def Aa:=λa D3 b=>Q (x:=(tG a D3 b).m) _<|by simp only[tG,C.of,M.run,L1.m,U1.m,Wr,qS,bu3,aD6];rfl
theorem RP (D7 D3 ic):(tG D7 D3 ic).m=Aa D7 D3 ic:=Qp
def Cc:=λt2 c8 ao6 late D3 a=>Q (x:=(wi t2 c8 ao6 late D3 a).m) _<|by simp only[wi,C.of,M.run,qS,bk3,TU,bu3];rfl
theorem TT (t2 c8 ao6 late D3 D7):(wi t2 c8 ao6 late D3 D7).m=Cc t2 c8 ao6 late D3 D7:=Qp
def nN (s:n3):Option n3:=tI (tI (JC s.t s.i.n4 s.i.z6 s.i.B4) λr2=>some (r2.2,r2.1)) λ(s2:Int×Int)=>tI (A4 ({s with ao6:=s2.2}:n3) s2.1) λv=>tI (tI (oT v.t v.i.n4 v.ao6 v.wanted (s.e.ai9.length:Int)) λr3=>some (r3.2.2,r3.1,r3.2.1)) λ(s3:Int×Int×Int)=>tI (A4 ({v with D3:=s3.2.1,late:=s3.2.2}:n3) s3.1) λa=>tI (Aa (s.e.ai9.length:Int) a.D3 0) λr4=>tI (A4 ({a with pattern:=r4.1}:n3) r4.2) λv3=>tI (tI (Cc v3.t v3.i.n4 v3.ao6 v3.late v3.D3 (s.e.ai9.length:Int)) λr5=>some (r5.2,r5.1)) λ(b:Int×Int)=>tI (A4 ({v3 with out.j4:=b.2}:n3) b.1) λv4=>some v4
theorem aB1 (s:n3):(rP s).m=nN s:=by simp only[rP,nN,CG.of,M.run,bso,iZ,Pk,jO,RP,Wm,TT]<;>kernel_rfl
def BU:=λc8 ao6=>Q (x:=(jE c8 ao6).m) _<|by simp only[jE,C.of,M.run,qS,Pl];rfl
theorem TM (c8 ao6):(jE c8 ao6).m=BU c8 ao6:=Qp
def FV:=λp2=>Q (x:=(tr p2).m) _<|by simp only[tr,C.of,M.run,qS,aD4];rfl
theorem RK (p2):(tr p2).m=FV p2:=Qp
def zR (p2:E7)(a c8 ao6:Int):Option<|E7×Int:=tI (vy p2) λv=>bif !v then some ((⟨false,false,0,0,([]:List dy)⟩:E7),1)else tI (BU c8 ao6) λd=>tI (bif !d then some true else tI (oJ a 0 20000) λv3=>some !v3) λb2=>bif b2 then some ((⟨false,false,0,0,([]:List dy)⟩:E7),2)else tI (FV p2) λv4=>bif !v4.T3 then some (({v4 with T3:=decide (a<300)||decide (a>600),nA:=decide<|a>600}:E7),0)else tI (bif decide<|a>500then some true else some<|decide (a>=400)&&v4.nA) λc=>tI (bif !(c==v4.nA)then some (15,0)else some (1,ba9 1000<|H<|v4.pL+1)) λ(s:Int×Int)=>tI (bif c then some<|H<|0-s.1else some s.1) λ(b:Int)=>tI (jN (H<|v4.N2+b) 750 1250) λv5=>some ((⟨v4.T3,c,v5,s.2,v4.Cells⟩:E7),0)
theorem Wi (p2:E7)(a c8 ao6:Int):(FH p2 a c8 ao6).m=zR p2 a c8 ao6:=by simp only[FH,zR,C.of,M.run,bg,bgo,rE,TL,RK,Pl,TM]<;>kernel_rfl
def Jc:=λx a b c=>Q (x:=(oh x a b c).run) _<|by simp only[oh,M.run,qS];rfl
theorem aI5 (x u1 x2 n2):(oh x u1 x2 n2).run=Jc x u1 x2 n2:=Qp
def HW:=λx a=>Q (x:=(pj x a).m) _<|by simp only[pj,C.of,M.run,L1.m,Wr,qS,aI5];rfl
theorem bt9 (x ab9):(pj x ab9).m=HW x ab9:=Qp
def Su:=λc8 ao6=>Q (x:=(ze c8 ao6).m) _<|by simp only[ze,C.of,M.run,qS,bt9,TM];rfl
theorem bF4 (c8 ao6):(ze c8 ao6).m=Su c8 ao6:=Qp
def zQ:=λp2 c8 ao6=>Q (x:=(tn p2 c8 ao6).m) _<|by simp only[tn,C.of,M.run,L1.m,qS,rE,bF4,TL,TM];rfl
theorem RJ (p2 c8 ao6):(tn p2 c8 ao6).m=zQ p2 c8 ao6:=Qp
def bl9:=λx low high=>Q (x:=(eM x low high).m) _<|by simp only[eM,C.of,M.run,qS];rfl
theorem cv5 (x low high):(eM x low high).m=bl9 x low high:=Qp
def Ol:=λao6 a=>Q (x:=(GZ ao6 a).m) _<|by simp only[GZ,C.of,M.run,L1.m,qS,cv5];rfl
theorem as9 (ao6 Ys):(GZ ao6 Ys).m=Ol ao6 Ys:=Qp
def Ui:=λb2=>Q (x:=(CH b2).m) _<|by simp only[CH,C.of,M.run,qS,cv5];rfl
theorem cg2 (b2):(CH b2).m=Ui b2:=Qp
def Uj:=λb2 O2 a=>Q (x:=(xU b2 O2 a).m) _<|by simp only[xU,C.of,M.run,qS];rfl
theorem cg3 (b2 O2 FD):(xU b2 O2 FD).m=Uj b2 O2 FD:=Qp
def GR:=λi c c2 a=>Q (x:=(BL i c c2 a).m) _<|by simp only[BL,C.of,M.run,qS,cg3];rfl
theorem XO (i c c2 c3):(BL i c c2 c3).m=GR i c c2 c3:=Qp
def EY:=λb2 O2 a=>Q (x:=(Hb b2 O2 a).m) _<|by simp only[Hb,C.of,M.run,Cl.of,qS,XO,cg2,cv5,cg3,cg7];rfl
theorem at3 (b2 O2 mass):(Hb b2 O2 mass).m=EY b2 O2 mass:=Qp
def IE:=λb2 O2 a=>Q (x:=(GY b2 O2 a).m) _<|by simp only[GY,C.of,M.run,qS,cg2,cv5,cg3];rfl
theorem as8 (b2 O2 FD):(GY b2 O2 FD).m=IE b2 O2 FD:=Qp
def Vn:=λy=>Q (x:=(BM y).m) _<|by simp only[BM,C.of,M.run,qS,cv5];rfl
theorem XP (y):(BM y).m=Vn y:=Qp
def Uh:=λt2 b a=>Q (x:=(CF t2 b a).m) _<|by simp only[CF,C.of,M.run,Cl.of,qS,cr3,bK5,XP,cv5,qy];rfl
theorem cg1 (t2 amount bK):(CF t2 amount bK).m=Uh t2 amount bK:=Qp
def IF:=λt2 b a=>Q (x:=(Ha t2 b a).m) _<|by simp only[Ha,C.of,M.run,qS,cf9,cg1];rfl
theorem at2 (t2 mass bK):(Ha t2 mass bK).m=IF t2 mass bK:=Qp
def qB (s:n3):Option n3:=tI (tI (zR s.c.K7 s.i.Lambda s.i.n4 s.ao6) λr2=>some (r2.2,r2.1)) λ(s2:Int×E7)=>tI (A4 ({s with c.K7:=s2.2}:n3) s2.1) λv=>tI (zQ v.c.K7 v.i.n4 v.ao6) λr3=>tI (A4 v r3.2) λa=>tI (Ol a.ao6 1000) λr4=>tI (A4 a r4.2) λv3=>tI (EY v3.b v3.c.E4<|ba9 1048576<|H<|bQ2 (H<|r4.1*r3.1) 1000) λr5=>tI (bif v3.D3==0||r5.2.2!=0then tI (IE v3.b v3.c.E4 0) λd=>tI (A4 v3 d.2.2) λv4=>some (0,d.2.1,v4)else some (r5.1,r5.2.1,v3)) λ(s3:Int×Int×n3)=>bif decide<|s3.1>0then tI (IF s3.2.2.t s3.1 s3.2.2.i.aO) λf=>tI (A4 (⟨s3.2.2.t,s3.2.2.e,s3.2.2.b,(⟨s3.2.2.c.B6,s3.2.2.c.T4,s3.2.2.c.I7,s3.2.2.c.K7,s3.2.1,s3.2.2.c.bZ⟩:w4),s3.2.2.i,s3.2.2.wanted,s3.2.2.ao6,s3.2.2.D3,s3.2.2.late,s3.2.2.pattern,s3.2.2.time,s3.2.2.out,s3.2.2.fail⟩:n3) f.2) λv5=>tI (jN f.1 200 20000) λg=>some ({v5 with time:=g}:n3)else some (⟨s3.2.2.t,s3.2.2.e,s3.2.2.b,(⟨s3.2.2.c.B6,s3.2.2.c.T4,s3.2.2.c.I7,s3.2.2.c.K7,s3.2.1,s3.2.2.c.bZ⟩:w4),s3.2.2.i,s3.2.2.wanted,s3.2.2.ao6,s3.2.2.D3,s3.2.2.late,s3.2.2.pattern,s3.2.2.time,s3.2.2.out,s3.2.2.fail⟩:n3)
theorem aG0 (s:n3):(uc s).m=qB s:=by simp only[uc,qB,CG.of,M.run,bso,iZ,rE,jO,as8,as9,at2,at3,RJ,Wi]<;>kernel_rfl
def CP:=λk=>Q (x:=(BN k).m) _<|by simp only[BN,C.of,M.run,qS,bL0];rfl
theorem XR (k):(BN k).m=CP k:=Qp
def Hl:=λa=>Q (x:=(BO a).m) _<|by simp only[BO,C.of,M.run,qS,aY3];rfl
theorem XS (n2):(BO n2).m=Hl n2:=Qp
def FP:=λk a=>Q (x:=(Ez k a).m) _<|by simp only[Ez,C.of,M.run,qS,XE];rfl
theorem af2 (k n2):(Ez k n2).m=FP k n2:=Qp
def EH (l:List y6)(a:List Int)(i:Int)(b:List y6):Option<|Fl (List y6) Empty:=tI (tI (y3 l i) λx=>tI (y3 a i) λc=>tI (FP x c) λr2=>tI (y3 b i) λ_=>tI (fQ b i r2.1) λl2=>some l2) λ(d:List y6)=>some<|.next d
def IW (l:List y6)(a:List Int):Option<|List y6×Int:=tI (bif decide ((l.length:Int)<1)||decide ((l.length:Int)>8)||(a.length:Int)!=(l.length:Int)then some true else tI (S9 l CP) λv=>some v) λb2=>bif b2 then some (([]:List y6),1)else tI (G1 a Hl) λb=>bif b then some (([]:List y6),2)else tI (uN l) λv3=>tI (J9 (v3.length:Int) (EH l a) v3) λ(t:List y6⊕Empty)=>match t with|.inl c=>some (c,0)|.inr r=>r.elim
theorem at5 (l:List y6)(Vt:List Int):(Nb l Vt).m=IW l Vt:=by delta IW EH;simp only[Nb,Nc,C.of,M.run,L1.m,U1.m,Cl.of,bso,iZ,J9,P4,Wr,XR,XS,af2,Ka,Ct,qy]<;>kernel_rfl
def PC:=λa b2=>Q (x:=(wb a b2).m) _<|by simp only[wb,C.of,M.run,qS];rfl
theorem TP (a b2):(wb a b2).m=PC a b2:=Qp
def NW:=λl=>Q (x:=(BS l).m) _<|by simp only[BS,C.of,M.run,Cl.of,qS,WN,TP];rfl
theorem bL4 (l):(BS l).m=NW l:=Qp
def SU:=λx low high=>Q (x:=(Y4 x low high).m) _<|by simp only[Y4,C.of,M.run,qS];rfl
theorem bF6 (x low high):(Y4 x low high).m=SU x low high:=Qp
def Lw:=λx c c2=>Q (x:=(qT x c c2).m) _<|by simp only[qT,C.of,M.run,qS,bF6];rfl
theorem PZ (x c c2):(qT x c c2).m=Lw x c c2:=Qp
def Ia:=λl low high=>Q (x:=(jF l low high).m) _<|by simp only[jF,C.of,M.run,Cl.of,qS,qy,PZ];rfl
theorem bu1 (l low high):(jF l low high).m=Ia l low high:=Qp
def Ib:=λl=>Q (x:=(wc l).m) _<|by simp only[wc,C.of,M.run,qS,bu1];rfl
theorem TQ (l):(wc l).m=Ib l:=Qp
def NX:=λt2=>Q (x:=(vu t2).m) _<|by simp only[vu,C.of,M.run,Cl.of,qS,bK5,Wk,bL4,bu1,TQ,Iv];rfl
theorem bL5 (t2):(vu t2).m=NX t2:=Qp
def Hr:=λt2 a b=>Q (x:=(BR t2 a b).m) _<|by simp only[BR,C.of,M.run,qS,cr3,bL5,bF6];rfl
theorem XW (t2 bK eF):(BR t2 bK eF).m=Hr t2 bK eF:=Qp
def Rb:=λt2 c8 ao6=>Q (x:=(EE t2 c8 ao6).m) _<|by simp only[EE,C.of,M.run,qS,bL5,bF6,cd2];rfl
theorem cd1 (t2 c8 ao6):(EE t2 c8 ao6).m=Rb t2 c8 ao6:=Qp
def Hq:=λt2 c8 ao6 p9 a=>Q (x:=(BQ t2 c8 ao6 p9 a).m) _<|by simp only[BQ,C.of,M.run,qS,rE,cd1,bF6];rfl
theorem XV (t2 c8 ao6 p9 ZK):(BQ t2 c8 ao6 p9 ZK).m=Hq t2 c8 ao6 p9 ZK:=Qp
def iN (r3:Int×Int)(i:Int)(a:n3):Option<|Fl n3 Empty:=tI (y3 a.c.I7 i) λx=>tI (Hq a.t a.i.n4 a.ao6 a.i.M4 x.U7) λr4=>tI (A4 a r4.2) λv4=>tI (y3 v4.pattern i) λb=>tI (bif b then some v4.time else some 0) λ(d:Int)=>tI (tI (G2 v4.out.C1 ([(⟨H<|i+1,q9 (-1280)<|H<|r4.1-v4.late,q9 500 r3.1,5760,d,0,0⟩:o9)]:List o9)) λl=>some l) λ(e:List o9)=>some<|.next ({v4 with out.C1:=e}:n3)
def nM (s:n3):Option n3:=tI (tI (IW s.c.I7 s.i.A5) λr2=>some (r2.2,r2.1)) λ(s2:Int×List y6)=>tI (A4 ({s with c.I7:=s2.2}:n3) s2.1) λv=>tI (KT .i64 60000000<|q9 1 v.i.n4) λq=>tI (jN q 4000 1000000) λa=>tI (Hr v.t v.i.aO a) λr3=>tI (A4 v r3.2) λv3=>bif v3.fail !=0then some v3 else tI (J9 (v3.e.ai9.length:Int) (iN r3) v3) λ(t:n3⊕Empty)=>match t with|.inl b=>some b|.inr r=>r.elim
theorem aB0 (s:n3):(rO s).m=nM s:=by delta nM iN;simp only[rO,xS,CG.of,M.run,L1.m,U1.m,bso,iZ,J9,P4,Wr,rE,jO,at5,XV,XW]<;>kernel_rfl
def Kg:=λt2 e2 b2 c i=>Q (x:=(yX t2 e2 b2 c i).m) _<|by simp only[yX,CG.of,M.run,qS,bt7,Wc,Io,aB0,aG0,aB1,af1,as7,XU];rfl
theorem Wd (t2 e2 b2 c i):(yX t2 e2 b2 c i).m=Kg t2 e2 b2 c i:=Qp
def MP:=λt2 b a=>Q (x:=(pF t2 b a).m) _<|by simp only[pF,C.of,M.run,qS,cg1];rfl
theorem XN (t2 eF bK):(pF t2 eF bK).m=MP t2 eF bK:=Qp
end Go.Pv
set_option maxHeartbeats 1000000
open Go.Proofs Go.Proofs.YtlbfdimlomockaaGreat
namespace Go.Pv
open Go Go.Pv.Et
def UM:=λa=>Q (x:=(Hj a).m) _<|by simp only[Hj,C.of,M.run,U1.m,qS];rfl
theorem cg8 (n2):(Hj n2).m=UM n2:=Qp
def aj8:=Q (x:=(GV).m) _<|by simp only[GV,C.of,M.run,qS];rfl
theorem cf8:(GV).m=aj8:=Qp
def HZ:=λe2=>Q (x:=(po e2).m) _<|by simp only[po,C.of,M.run,qS,cf8,Lj,Mv,cg8];rfl
theorem TN (e2):(po e2).m=HZ e2:=Qp
def Rz:=λt2=>Q (x:=(mW t2).m) _<|by simp only[mW,C.of,M.run,qS];rfl
theorem bF1 (t2):(mW t2).m=Rz t2:=Qp
def Ck:=λc=>Q (x:=(pE c).m) _<|by simp only[pE,C.of,M.run,qS,bF1];rfl
theorem XD (c):(pE c).m=Ck c:=Qp
def Cb:=λc c2=>Q (x:=(wg c c2).m) _<|by simp only[wg,C.of,M.run,qS];rfl
theorem TS (c c2):(wg c c2).m=Cb c c2:=Qp
def Dc:=λt2=>Q (x:=(pI t2).m) _<|by simp only[pI,C.of,M.run,Cl.of,qS,Tk,TS];rfl
theorem Mx (t2):(pI t2).m=Dc t2:=Qp
def BB:=λx low high=>Q (x:=(T1 x low high).m) _<|by simp only[T1,C.of,M.run,qS];rfl
theorem TJ (x low high):(T1 x low high).m=BB x low high:=Qp
def AM:=λe2 a=>Q (x:=(ig e2 a).m) _<|by simp only[ig,C.of,M.run,qS,Lj,TJ,It];rfl
theorem OQ (e2 f2):(ig e2 f2).m=AM e2 f2:=Qp
def zW:=λg c=>Q (x:=(mH g c).m) _<|by simp only[mH,C.of,M.run,qS];rfl
theorem Mt (g c):(mH g c).m=zW g c:=Qp
def xE:=λe2 l i a=>Q (x:=(kQ e2 l i a).run) _<|by simp only[kQ,M.run,L1.m,U1.m,Cl.of,qS,OQ,Mt,oY];rfl
theorem au8 (e2 l i u3):(kQ e2 l i u3).run=xE e2 l i u3:=Qp
def wo:=λe2 l=>Q (x:=(kP e2 l).m) _<|by simp only[kP,C.of,M.run,L1.m,qS,au8];rfl
theorem PY (e2 l):(kP e2 l).m=wo e2 l:=Qp
def BZ (s:a7)(j:k6):Option Bool:=tI (bif decide (j.Event.h8>=1)&&decide (j.Event.h8<=(s.h9.ai9.length:Int))&&decide (j.Event.Kind>=1)&&decide (j.Event.Kind<=4)&&decide (j.Event.q7>=0)&&decide (j.Event.q7<46080)&&decide (j.Event.O1>=0)&&decide (j.Event.O1<=2)&&decide (j.Left>=-1048576)&&decide (j.Left<=1048576)then some<|j.u7||(j.At==0)else some false) λb2=>some b2
theorem bu0 (s:a7)(j:k6):(Ds s j).m=BZ s j:=by simp only[Ds,BZ,C.of,M.run,bg,bga]<;>kernel_rfl
def lx:=λj c=>Q (x:=(mF j c).m) _<|by simp only[mF,C.of,M.run,qS,bu0];rfl
theorem Mr (j c):(mF j c).m=lx j c:=Qp
def gu:=λx=>Q (x:=(L7 x).m) _<|by simp only[L7,C.of,M.run,qS];rfl
theorem JZ (x):(L7 x).m=gu x:=Qp
def zX:=λkind=>Q (x:=(sb kind).m) _<|by simp only[sb,C.of,M.run,qS];rfl
theorem Lk (kind):(sb kind).m=zX kind:=Qp
def bN (s:a7)(c:Int)(x:ai1)(_:Int)(a:k6)(s2:Bool×Bool):Option<|Fl (Bool×Bool) Bool:=tI (gu a.Event) λv=>bif v !=c then some<|.next (s2.1,s2.2)else tI (zX a.Event.Kind) λb=>bif b==s2.1then some (.ret false)else tI (bif s2.2 then tI (bif !(a.u7==x.u7)then some true else tI (bif a.u7 then some<|a.At !=x.At||!x.Next==!s2.1else some false) λb2=>some b2) λd=>bif d then some (Sum.inr false)else some<|df6 ()else bif a.u7||s.Cut then some (Sum.inr false)else some<|df6 ()) λ(t:Unit⊕Bool)=>match t with|.inl _=>tI (bif s.Cut then some<|a.Event.Kind !=2||!a.u7||decide (a.At>H (s.b9.D2+5000))else some false) λe=>bif e then some (.ret false)else some<|.next (!s2.1,false)|.inr r2=>some<|.ret r2
def sH (s:a7)(c:Int):Option Bool:=tI (y3 s.b9.a8 c) λx=>tI (iI s.o1 (bN s c x) (x.s8,true)) λ(t:Bool×Bool⊕Bool)=>match t with|.inl a=>tI (bif !a.1then some !(a.2&&x.u7)else some false) λb=>some b|.inr r3=>some r3
theorem RM (s:a7)(c:Int):(AX s c).m=sH s c:=by delta sH bN;simp only[AX,DV,C.of,M.run,L1.m,bg,bga,bgo,iZ,iI,Bj,JZ,Lk]<;>kernel_rfl
def oP (s:a7)(i:Int)(_:Unit):Option<|Fl Unit Bool:=tI (sH s i) λa=>bif !a then some (.ret false)else some<|.next ()
def jJ (s:a7):Option Bool:=tI (yI s.h9) λv=>tI (bif !v then some true else tI (Ck s.k7) λa=>some !a) λb2=>tI (bif b2 then some true else tI (Dc s.b9) λv3=>some !v3) λb=>tI (bif b||(s.b9.a8.length:Int)!=H (2*(s.h9.ai9.length:Int))then some true else tI (wo s.h9 s.Next) λv4=>some !v4) λc=>bif c then some false else tI (bif decide<|(s.o1.length:Int)>200then some true else some<|!s.k7.F8&&decide ((s.o1.length:Int)>0)) λd=>tI (bif d then some true else tI (Y6 s.o1 λe=>lx e s) λv5=>some v5) λf=>bif f then some false else tI (J9 (s.b9.a8.length:Int) (oP s) ()) λ(t:Unit⊕Bool)=>match t with|.inl _=>some true|.inr r2=>some r2
theorem Fo (s:a7):(Q5 s).m=jJ s:=by delta jJ oP;simp only[Q5,CL,C.of,M.run,Cl.of,bg,bgo,iZ,J9,P4,XD,Lj,Mr,PY,RM,Ej,Mx]<;>kernel_rfl
def tQ:=λs=>Q (x:=(S4 s).m) _<|by simp only[S4,CG.of,M.run,qS,aD5,aI2];rfl
theorem ub (s):(S4 s).m=tQ s:=Qp
def Gg:=λs l=>Q (x:=(tC s l).m) _<|by simp only[tC,C.of,M.run,CG.f,CG.f,qS,Fo,ub,PY,aD5];rfl
theorem RL (s l):(tC s l).m=Gg s l:=Qp
def Gf:=λx=>Q (x:=(kM x).m) _<|by simp only[kM,C.of,M.run,qS];rfl
theorem LP (x):(kM x).m=Gf x:=Qp
def Bm:=λs=>Q (x:=(om s).m) _<|by simp only[om,C.of,M.run,CG.f,Cl.of,CG.f,qS,LP,Fo,ub,Tk];rfl
theorem OU (s):(om s).m=Bm s:=Qp
def Oa:=λt2 a=>Q (x:=(lJ t2 a).m) _<|by simp only[lJ,CG.of,M.run,U1.m,qS,Mx];rfl
theorem bL6 (t2 channel):(lJ t2 channel).m=Oa t2 channel:=Qp
def Hu:=λt2 a b=>Q (x:=(BT t2 a b).m) _<|by simp only[BT,C.of,M.run,L1.m,U1.m,qS,bL6];rfl
theorem XX (t2 channel level):(BT t2 channel level).m=Hu t2 channel level:=Qp
def ER:=λt2 a=>Q (x:=(zo t2 a).m) _<|by simp only[zo,C.of,M.run,L1.m,U1.m,qS,bL6];rfl
theorem Wl (t2 channel):(zo t2 channel).m=ER t2 channel:=Qp
def DB:=λj c=>Q (x:=(qO j c).m) _<|by simp only[qO,C.of,M.run,qS,JZ];rfl
theorem PV (j c):(qO j c).m=DB j c:=Qp
def Jp:=λt2 a c b=>Q (x:=(CO t2 a c b).m) _<|by simp only[CO,C.of,M.run,L1.m,U1.m,qS,bL6];rfl
theorem RO (t2 channel v_at level):(CO t2 channel v_at level).m=Jp t2 channel v_at level:=Qp
def dw (s:a7)(i:Int)(s2:List e9×w8×List k6):Option<|Fl (List e9×w8×List k6) Empty:=tI (y3 s.b9.a8 i) λx=>tI (bif x.s8 then some<|!uk i 2==0||(s.b9.D2==1099511627776)else some false) λb2=>bif b2 then tI (Hu s2.2.1 i false) λr2=>tI (G2 s2.1 r2.2.1) λl=>some<|.next (l,r2.1,s2.2.2)else tI (ER s2.2.1 i) λr3=>bif !x.s8 then some<|.next (s2.1,r3.1,s2.2.2)else tI (y9 s.o1 λc=>DB c i) λv3=>tI (y3 s.o1 v3) λa=>tI (bif !a.u7||decide (a.At>H (s.b9.D2+5000))then some (ba9 (H<|s.b9.D2+5000) 1099511627776)else some a.At) λ(b:Int)=>tI (Jp r3.1 i b false) λr4=>tI (G2 s2.2.2 ([(⟨a.Event,a.Left,true,b⟩:k6)]:List k6)) λl2=>some<|.next (s2.1,r4.1,l2)
def BX (s:a7):Option<|a7×List e9×Int:=tI (jJ s) λv=>bif !v then some ((⟨(⟨([]:List Int),0⟩:j5),(⟨false,0,0,0,0,0⟩:A1),(⟨0,([]:List ai1)⟩:w8),([]:List o9),([]:List k6),false⟩:a7),([]:List e9),1)else tI (tQ s) λa=>bif s.Cut then some (a,([]:List e9),0)else tI (J9 (s.b9.a8.length:Int) (dw s) (([]:List e9),a.b9,([]:List k6))) λ(t:List e9×w8×List k6⊕Empty)=>match t with|.inl s3=>some ((⟨a.h9,a.k7,s3.2.1,a.Next,s3.2.2,true⟩:a7),s3.1,0)|.inr r=>r.elim
theorem Is (s:a7):(vZ s).m=BX s:=by delta BX dw;simp only[vZ,FL,C.of,M.run,L1.m,U1.m,Cl.of,CG.f,bg,bga,iZ,J9,P4,Wr,PV,Fo,ub,lD,RO,Wl,XX]<;>kernel_rfl
def cg:=λj c=>Q (x:=(qP j c).m) _<|by simp only[qP,C.of,M.run,qS,JZ];rfl
theorem PX (j c):(qP j c).m=cg j c:=Qp
def EM:=λa b2=>Q (x:=(zn a b2).m) _<|by simp only[zn,C.of,M.run,L1.m,qS];rfl
theorem Wj (a b2):(zn a b2).m=EM a b2:=Qp
def U3 (s:a7)(i:Int)(s2:w8×List k6):Option<|Fl (w8×List k6) Empty:=tI (y9 s2.2 λb=>cg b i) λv=>tI (bif decide<|v<0then some true else tI (y3 s2.2 v) λx=>some<|decide<|x.Left>s.k7.K6) λ(c:Bool)=>bif c then some<|.next (s2.1,s2.2)else tI (y3 s2.2 v) λa=>tI (EM (H<|a.Left*s.k7.q8) s.k7.I9) λv3=>bif decide<|q9 (H<|s.k7.At+v3) (H<|s2.1.D2+1)>1099511627776then some<|.next (s2.1,s2.2)else tI (tI (zX a.Event.Kind) λv4=>tI (Jp s2.1 i (q9 (H<|s.k7.At+v3)<|H<|s2.1.D2+1) v4) λr2=>some (r2.2,r2.1)) λ(s3:Int×w8)=>bif s3.1==0then tI (fQ s2.2 v ({a with u7:=true}:k6)) λl=>tI (fQ l v (⟨a.Event,a.Left,true,q9 (H<|s.k7.At+v3)<|H<|s2.1.D2+1⟩:k6)) λl2=>some<|.next (s3.2,l2)else some<|.next (s2.1,s2.2)
def vC (s:a7):Option a7:=bif s.Cut then some s else tI (J9 (s.b9.a8.length:Int) (U3 s) (s.b9,s.o1)) λ(t:w8×List k6⊕Empty)=>match t with|.inl a=>some ({s with b9:=a.1,o1:=a.2}:a7)|.inr r=>r.elim
theorem TO (s:a7):(wa s).m=vC s:=by delta vC U3;simp only[wa,FM,CG.of,M.run,L1.m,U1.m,Cl.of,bso,iZ,J9,P4,Wr,PX,Lk,Wj,lD,RO]<;>kernel_rfl
def Ca (_:Int)(x:ai1)(s:Int×Bool):Option<|Fl (Int×Bool) Empty:=tI (bif x.u7 then some<|!s.2||decide (x.At<s.1)else some false) λb2=>bif b2 then some<|.next (x.At,true)else some<|.next (s.1,s.2)
def Gm (t2:w8):Option<|Int×Bool:=tI (Dc t2) λv=>bif !v then some (0,false)else tI (iI t2.a8 Ca (0,false)) λ(t:Int×Bool⊕Empty)=>match t with|.inl s2=>some (s2.1,s2.2)|.inr r=>r.elim
theorem ag0 (t2:w8):(KJ t2).m=Gm t2:=by delta Gm Ca;simp only[KJ,Lp,C.of,M.run,bg,bga,iI,Bj,Wr,Mx]<;>kernel_rfl
def jK:=λa b2=>Q (x:=(qW a b2).m) _<|by simp only[qW,C.of,M.run,qS,aY2,cc7];rfl
theorem Qc (a b2):(qW a b2).m=jK a b2:=Qp
def Bq:=λt2 u4 i s=>Q (x:=(ow t2 u4 i s).run) _<|by simp only[ow,M.run,L1.m,U1.m,qS];rfl
theorem aI7 (t2 u4 i s):(ow t2 u4 i s).run=Bq t2 u4 i s:=Qp
def vF:=λt2 u4=>Q (x:=(py t2 u4).m) _<|by simp only[py,C.of,M.run,L1.m,Cl.of,Wr,qS,ae6,Qc,bL6,aI7];rfl
theorem TR (t2 u4):(py t2 u4).m=vF t2 u4:=Qp
def Bn:=λj c=>Q (x:=(oo j c).m) _<|by simp only[oo,C.of,M.run,qS];rfl
theorem OV (j c):(oo j c).m=Bn j c:=Qp
def bM (u4:Int)(s2:List e9×a7):Option<|List e9×a7⊕List e9×a7⊕Empty:=tI (Gm s2.2.b9) λr2=>bif !r2.2||decide (r2.1>u4)then some<|.inr<|.inl (s2.1,s2.2)else tI (tI (vF s2.2.b9 r2.1) λr3=>some (r3.2.1,r3.1)) λ(s3:List e9×w8)=>tI (G2 s2.1 s3.1) λl=>tI (H8 s2.2.o1 λa=>Bn a r2.1) λv=>tI (vC (⟨s2.2.h9,s2.2.k7,s3.2,s2.2.Next,v,s2.2.Cut⟩:a7)) λb=>some<|.inl (l,b)
def sG (s:a7)(u4:Int):Option<|List e9×a7:=tI (o3 (bM u4) (([]:List e9),s)) λ(t:List e9×a7⊕Empty)=>match t with|.inl a=>tI (vF a.2.b9 u4) λr4=>tI (G2 a.1 r4.2.1) λl2=>some (l2,(⟨a.2.h9,a.2.k7,r4.1,a.2.Next,a.2.o1,a.2.Cut⟩:a7))|.inr r=>r.elim
theorem bk2 (s:a7)(u4:Int):(tD s u4).m=sG s u4:=by delta sG bM;simp only[tD,DU,CG.of,M.run,U1.m,Cl.of,bso,iZ,Wr,TO,OV,Gu,TR,ag0]<;>kernel_rfl
def zV:=λs u4=>Q (x:=(bW s u4).m) _<|by simp only[bW,C.of,M.run,qS,Fo,ub,bk2];rfl
theorem Cs (s u4):(bW s u4).m=zV s u4:=Qp
def jC:=λa u4=>Q (x:=(eL a u4).m) _<|by simp only[eL,C.of,M.run,qS,as6,bF3];rfl
theorem Fi (ac3 u4):(eL ac3 u4).m=jC ac3 u4:=Qp
def UX:=λc=>Q (x:=(BF c).m) _<|by simp only[BF,C.of,M.run,qS,XD];rfl
theorem bK4 (c):(BF c).m=UX c:=Qp
def aF1:=λa b2=>Q (x:=(Kx a b2).m) _<|by simp only[Kx,C.of,M.run,qS,cf9];rfl
theorem cr2 (a b2):(Kx a b2).m=aF1 a b2:=Qp
def GM:=λc a=>Q (x:=(BD c a).m) _<|by simp only[BD,C.of,M.run,qS,bK4,cr2];rfl
theorem XC (c units):(BD c units).m=GM c units:=Qp
def BA:=λe2 a=>Q (x:=(pd e2 a).m) _<|by simp only[pd,C.of,M.run,L1.m,qS,aI3];rfl
theorem TH (e2 dX):(pd e2 dX).m=BA e2 dX:=Qp
def Bx:=λe2 a=>Q (x:=(vV e2 a).m) _<|by simp only[vV,C.of,M.run,qS,Lj,TH];rfl
theorem TA (e2 dX):(vV e2 dX).m=Bx e2 dX:=Qp
def lz:=λa c=>Q (x:=(mG a c).m) _<|by simp only[mG,C.of,M.run,qS];rfl
theorem Ms (f2 c):(mG f2 c).m=lz f2 c:=Qp
def uY:=λa c=>Q (x:=(vW a c).m) _<|by simp only[vW,C.of,M.run,qS,OQ];rfl
theorem TB (f2 c):(vW f2 c).m=uY f2 c:=Qp
def Bz:=λg c=>Q (x:=(vX g c).m) _<|by simp only[vX,C.of,M.run,qS];rfl
theorem TC (g c):(vX g c).m=Bz g c:=Qp
def aZ (a kind Ga:Int)(c:List j8)(c2:o9):Option<|List j8:=tI (tI (Of a 46080) λv=>tI (G2 c ([(⟨v,kind,c2.h8,Ga⟩:j8)]:List j8)) λl=>some l) λ(b:List j8)=>some b
theorem TE (a kind Ga:Int)(c:List j8)(c2:o9):(cc a kind Ga c c2).m=aZ a kind Ga c c2:=by simp only[cc,aZ,CG.of,M.run,U1.m,bso,iZ,as6]<;>kernel_rfl
def X8:=λd c=>Q (x:=(O4 d c).m) _<|by simp only[O4,C.of,M.run,L1.m,qS];rfl
theorem TF (d c):(O4 d c).m=X8 d c:=Qp
def uZ:=λa=>Q (x:=(pc a).m) _<|by simp only[pc,C.of,M.run,qS];rfl
theorem TG (f2):(pc f2).m=uZ f2:=Qp
def nP:=λa b2=>Q (x:=(zb a b2).m) _<|by simp only[zb,C.of,M.run,qS,aY2,cc7];rfl
theorem We (a b2):(zb a b2).m=nP a b2:=Qp
def yH (l:List o9)(i:Int)(_:Unit):Option<|Fl Unit<|List j8×Int:=tI (y3 l i) λx=>tI (U4 l 0 i) λl2=>tI (G9 l2 λa=>Bz a x) λv4=>bif v4 then some<|.ret (([]:List j8),8)else some<|.next ()
def rL (e2:j5)(a _:Int)(b:o9)(p:List j8):Option<|Fl (List j8)<|List j8×Int:=tI (BA e2 b.h8) λr2=>tI (aZ (H<|r2.1-b.D1) 2 0 p b) λv5=>tI (X8 b.L5 a) λq=>tI (aZ (H<|H (r2.1-b.D1)-ba9 q 23040) 1 0 v5 b) λn=>tI (X8 b.F4 a) λr=>tI (X8 b.US a) λv9=>tI (X8 b.Extra a) λc=>bif decide<|q9 (q9 r v9) c>23040then some<|.ret (([]:List j8),2)else tI (uZ b) λd=>tI (bif decide<|d>0then tI (aZ (H<|r2.1-b.End) 4 1 n b) λe=>tI (X8 b.F4 a) λf=>tI (aZ (H<|H (r2.1-b.End)-f) 3 1 e b) λg=>some g else some n) λ(o:List j8)=>tI (uZ b) λh=>bif decide<|h>1then tI (X8 b.US a) λi=>tI (aZ (H<|H (r2.1-b.End)+i) 3 2 o b) λj=>tI (tI (X8 b.US a) λk=>tI (X8 b.Extra a) λl=>tI (aZ (H<|H (H (r2.1-b.End)+k)+l) 4 2 j b) λm=>some m) λ(s:List j8)=>some (.next s)else some<|.next o
def Cw (e2:j5)(l:List o9)(a:Int):Option<|List j8×Int:=tI (yI e2) λv=>tI (bif !v then some true else tI (G9 l λc=>uY c e2) λd=>some d) λb2=>bif b2 then some (([]:List j8),1)else tI (BB a 4000 1000000) λv3=>bif !v3 then some (([]:List j8),2)else tI (J9 (l.length:Int) (yH l) ()) λ(t:Unit⊕List j8×Int)=>match t with|.inl _=>(tI (iI l (rL e2 a) ([]:List j8)) λ(t:List j8⊕List j8×Int)=>match t with|.inl e=>tI (hJ e nP) λb=>some (b,0)|.inr r3=>some r3)|.inr r4=>some r4
theorem XH (e2:j5)(l:List o9)(eF:Int):(HO e2 l eF).m=Cw e2 l eF:=by delta Cw yH rL;simp only[HO,IM,IP,C.of,M.run,L1.m,U1.m,Cl.of,bso,iZ,iI,J9,Bj,P4,TB,TC,TE,TF,TG,Lj,TH,We,TJ,oY,Gx]<;>kernel_rfl
def nq:=λa b2=>Q (x:=(ot a b2).m) _<|by simp only[ot,C.of,M.run,qS,aY2,cc7,JZ];rfl
theorem OW (a b2):(ot a b2).m=nq a b2:=Qp
def lA (begin _:Int)(x:j8)(out:List ap3):Option<|Fl (List ap3) Empty:=tI (tI (jC begin x.q7) λv=>tI (G2 out ([(⟨x,v⟩:ap3)]:List ap3)) λl=>some l) λ(a:List ap3)=>some<|.next a
def W0 (b:Int×Int)(_:Int)(a:ap3)(s:Int×Int×Int):Option<|Fl (Int×Int×Int)<|List ap3×Bool:=bif a.x.Kind !=b.1&&a.x.Kind !=b.2then some<|.next (s.1,s.2.1,s.2.2)else bif a.x.Kind !=s.2.2||decide (a.av6<=s.1)||decide (a.x.O1<s.2.1)then some<|.ret (([]:List ap3),false)else some<|.next (a.av6,a.x.O1,H<|H (b.1+b.2)-s.2.2)
def Q7 (b:List ap3)(v3:Int):Option<|Int⊕Int⊕List ap3×Bool:=bif decide<|v3<2then tI (y3 ([(1,2),(3,4)]:List<|Int×Int) v3) λa=>tI (iI b (W0 a) (-1,0,a.1)) λ(t:Int×Int×Int⊕List ap3×Bool)=>match t with|.inl _=>some<|.inl<|H<|v3+1|.inr r3=>some<|.inr (.inr r3)else some<|.inr<|.inl v3
def sI (e2:j5)(d:o9)(begin a:Int):Option<|List ap3×Bool:=tI (Cw e2 ([d]:List o9) a) λr2=>bif r2.2!=0then some (([]:List ap3),false)else tI (iI r2.1 (lA begin) ([]:List ap3)) λ(t:List ap3⊕Empty)=>match t with|.inl b=>(tI (C9 b nq) λc=>tI (o3 (Q7 c) 0) λ(t:Int⊕List ap3×Bool)=>match t with|.inl _=>some (c,true)|.inr r4=>some r4)|.inr r=>r.elim
theorem RN (e2:j5)(a:o9)(begin eF:Int):(AY e2 a begin eF).m=sI e2 a begin eF:=by delta sI lA W0 Q7;simp only[AY,DW,DY,DX,C.of,M.run,L1.m,U1.m,Cl.of,bso,iZ,iI,Bj,Wr,Fi,XH,OW,nB]<;>kernel_rfl
def iL (v _:Int)(a:ap3)(b:List k6):Option<|Fl (List k6) Empty:=tI (tI (G2 b ([(⟨a.x,H<|v+a.av6,false,0⟩:k6)]:List k6)) λl=>some l) λ(c:List k6)=>some<|.next c
def iK (s:a7)(r2:Int×Int)(_ x:Int)(a:List k6):Option<|Fl (List k6) Empty:=tI (Bx s.h9 x) λr3=>tI (jC s.k7.q7<|uk (H<|r3.1+5760) 46080) λv=>tI (O0 s.Next λc=>lz c x) λb=>bif decide (v>=s.k7.K6)||decide (b<0)then some (.next a)else tI (y3 s.Next b) λd=>tI (sI s.h9 d (uk (H<|r3.1+5760) 46080) r2.1) λr4=>bif !r4.2then some (.next a)else tI (iI r4.1 (iL v) a) λ(t:List k6⊕Empty)=>match t with|.inl e=>some<|.next e|.inr r=>r.elim
def pB (s:a7):Option a7:=tI (GM s.k7 23040) λr2=>tI (iI s.h9.ai9 (iK s r2) s.o1) λ(t:List k6⊕Empty)=>match t with|.inl f6=>some ({s with o1:=f6}:a7)|.inr r=>r.elim
theorem aY8 (s:a7):(zm s).m=pB s:=by delta pB iL iK;simp only[zm,CN,CM,CG.of,M.run,L1.m,U1.m,Cl.of,bso,iZ,iI,Bj,Wr,XC,TA,Fi,Ms,RN,tU]<;>kernel_rfl
def oO:=λv4 i a=>Q (x:=(kO v4 i a).run) _<|by simp only[kO,M.run,L1.m,U1.m,qS];rfl
theorem au7 (v4 i f2):(kO v4 i f2).run=oO v4 i f2:=Qp
def DC:=λs c=>Q (x:=(kN s c).m) _<|by simp only[kN,C.of,M.run,L1.m,Wr,qS,XD,Fi,Fo,TO,aY8,ub,bk2,au7];rfl
theorem PW (s c):(kN s c).m=DC s c:=Qp
end Go.Pv
set_option maxHeartbeats 1000000
open Go.Proofs Go.Proofs.YtlbfdimlomockaaGreat
namespace Go.Pv
open Go Go.Pv.Et
def Bb:=λa=>Q (x:=(ij a).m) _<|by simp only[ij,C.of,M.run,qS];rfl
theorem DI (n2):(ij n2).m=Bb n2:=Qp
def kY:=λl i=>Q (x:=(gz l i).run) _<|by simp only[gz,M.run,L1.m,qS,DI];rfl
theorem ag3 (l i):(gz l i).run=kY l i:=Qp
def zt:=λl=>Q (x:=(fX l).m) _<|by simp only[fX,C.of,M.run,qS,ag3];rfl
theorem aG3 (l):(fX l).m=zt l:=Qp
def jd:=λa x j=>Q (x:=(eP a x j).run) _<|by simp only[eP,M.run,L1.m,qS,DI];rfl
theorem Gy (m2 x j):(eP m2 x j).run=jd m2 x j:=Qp
def jc:=λa i=>Q (x:=(eO a i).run) _<|by simp only[eO,M.run,L1.m,qS,Gy];rfl
theorem ac9 (m2 i):(eO m2 i).run=jc m2 i:=Qp
def wZ:=λa=>Q (x:=(K3 a).m) _<|by simp only[K3,C.of,M.run,qS,aG3,Gy,ac9];rfl
theorem aB4 (m2):(K3 m2).m=wZ m2:=Qp
def Ls:=λx low high=>Q (x:=(y7 x low high).m) _<|by simp only[y7,C.of,M.run,qS];rfl
theorem Fm (x low high):(y7 x low high).m=Ls x low high:=Qp
def Hm:=λx=>Q (x:=(fW x).m) _<|by simp only[fW,C.of,M.run,qS];rfl
theorem Cn (x):(fW x).m=Hm x:=Qp
def kX:=λl i=>Q (x:=(gy l i).run) _<|by simp only[gy,M.run,L1.m,qS,Cn];rfl
theorem ag2 (l i):(gy l i).run=kX l i:=Qp
def zr:=λl=>Q (x:=(lU l).m) _<|by simp only[lU,C.of,M.run,qS,ag2];rfl
theorem aG2 (l):(lU l).m=zr l:=Qp
def qa:=λc i=>Q (x:=(eN c i).run) _<|by simp only[eN,M.run,L1.m,qS,Cn];rfl
theorem ac8 (c i):(eN c i).run=qa c i:=Qp
def wY:=λc=>Q (x:=(R9 c).m) _<|by simp only[R9,C.of,M.run,qS,aG2,ac8];rfl
theorem aB3 (c):(R9 c).m=wY c:=Qp
def qi:=λt2 i j=>Q (x:=(ff t2 i j).run) _<|by simp only[ff,M.run,L1.m,qS,Fm];rfl
theorem GA (t2 i j):(ff t2 i j).run=qi t2 i j:=Qp
def qh:=λt2 i=>Q (x:=(fc t2 i).run) _<|by simp only[fc,M.run,qS,GA];rfl
theorem ad6 (t2 i):(fc t2 i).run=qh t2 i:=Qp
def qj:=λt2 i3=>Q (x:=(fg t2 i3).run) _<|by simp only[fg,M.run,L1.m,qS,Fm,GA,ad6];rfl
theorem ad7 (t2 i3):(fg t2 i3).run=qj t2 i3:=Qp
def xh:=λt2=>Q (x:=(ay t2).m) _<|by simp only[ay,C.of,M.run,qS,aB3,aB4,GA,ad6,ad7];rfl
theorem aB9 (t2):(ay t2).m=xh t2:=Qp
def CS:=λa low high=>Q (x:=(A9 a low high).m) _<|by simp only[A9,C.of,M.run,qS];rfl
theorem xL (n2 low high):(A9 n2 low high).m=CS n2 low high:=Qp
def qq:=λt2 i j=>Q (x:=(fw t2 i j).run) _<|by simp only[fw,M.run,L1.m,qS,xL];rfl
theorem GD (t2 i j):(fw t2 i j).run=qq t2 i j:=Qp
def qp:=λt2 i=>Q (x:=(fv t2 i).run) _<|by simp only[fv,M.run,qS,GD];rfl
theorem ae4 (t2 i):(fv t2 i).run=qp t2 i:=Qp
def qs:=λt2 i3=>Q (x:=(fx t2 i3).run) _<|by simp only[fx,M.run,L1.m,qS,xL,GD,ae4];rfl
theorem ae5 (t2 i3):(fx t2 i3).run=qs t2 i3:=Qp
def xA:=λt2=>Q (x:=(kG t2).m) _<|by simp only[kG,C.of,M.run,qS,aB3,aB4,GD,ae4,ae5];rfl
theorem aD3 (t2):(kG t2).m=xA t2:=Qp
def jh:=λl i=>Q (x:=(fh l i).run) _<|by simp only[fh,M.run,L1.m,qS];rfl
theorem ad8 (l i):(fh l i).run=jh l i:=Qp
def xm:=λl=>Q (x:=(ku l).m) _<|by simp only[ku,C.of,M.run,qS,ad8];rfl
theorem aC2 (l):(ku l).m=xm l:=Qp
def Lt:=λx low high=>Q (x:=(qL x low high).m) _<|by simp only[qL,C.of,M.run,qS];rfl
theorem PT (x low high):(qL x low high).m=Lt x low high:=Qp
def uI:=λl low high i=>Q (x:=(iT l low high i).run) _<|by simp only[iT,M.run,L1.m,qS,PT];rfl
theorem ak9 (l low high i):(iT l low high i).run=uI l low high i:=Qp
def Bd:=λl low high=>Q (x:=(ob l low high).m) _<|by simp only[ob,C.of,M.run,qS,ak9];rfl
theorem aV5 (l low high):(ob l low high).m=Bd l low high:=Qp
def xk:=λc=>Q (x:=(kq c).m) _<|by simp only[kq,C.of,M.run,qS,aB3,aC2,aV5];rfl
theorem aC1 (c):(kq c).m=xk c:=Qp
def qm:=λt2 i j=>Q (x:=(fp t2 i j).run) _<|by simp only[fp,M.run,L1.m,qS];rfl
theorem GC (t2 i j):(fp t2 i j).run=qm t2 i j:=Qp
def qk:=λt2 i=>Q (x:=(fo t2 i).run) _<|by simp only[fo,M.run,qS,GC];rfl
theorem ae1 (t2 i):(fo t2 i).run=qk t2 i:=Qp
def xt:=λt2=>Q (x:=(kB t2).m) _<|by simp only[kB,C.of,M.run,qS,aB4,aC1,GC,ae1];rfl
theorem aC8 (t2):(kB t2).m=xt t2:=Qp
def sr:=λt2 i=>Q (x:=(gJ t2 i).run) _<|by simp only[gJ,M.run,L1.m,qS];rfl
theorem ag9 (t2 i):(gJ t2 i).run=sr t2 i:=Qp
def zD:=λt2=>Q (x:=(gg t2).m) _<|by simp only[gg,C.of,M.run,qS,aB3,ag9];rfl
theorem aG8 (t2):(gg t2).m=zD t2:=Qp
def zu:=λg=>Q (x:=(fY g).m) _<|by simp only[fY,C.of,M.run,qS];rfl
theorem aG4 (g):(fY g).m=zu g:=Qp
def xy:=λt2=>Q (x:=(aB t2).m) _<|by simp only[aB,C.of,M.run,qS,aB4,aG4,aB9,aG8,aC8,aD3];rfl
theorem LO (t2):(aB t2).m=xy t2:=Qp
def xw:=λp2=>Q (x:=(kD p2).m) _<|by simp only[kD,C.of,M.run,qS];rfl
theorem aC9 (p2):(kD p2).m=xw p2:=Qp
def aJ:=λa low high=>Q (x:=(F9 a low high).m) _<|by simp only[F9,C.of,M.run,qS];rfl
theorem Iq (n2 low high):(F9 n2 low high).m=aJ n2 low high:=Qp
def ji (p2:E7)(i:Int):Option<|Int⊕Int⊕Bool:=bif decide<|i<9then tI (y3 p2.Cells i) λx=>tI (aJ x.Value (-100) 100) λv3=>tI (bif !v3 then some true else tI (aJ x.s6 0 1000) λv4=>some !v4) λa=>bif a then some<|.inr (.inr false)else some<|.inl<|H (i+1)else some<|.inr<|.inl i
def oI (p2:E7):Option Bool:=tI (aJ p2.N2 750 1250) λv=>tI (bif !v then some true else tI (aJ p2.pL 0 1000) λa=>some !a) λb2=>bif b2||(p2.Cells.length:Int)!=9then some false else tI (o3 (ji p2) 0) λ(t:Int⊕Bool)=>match t with|.inl _=>tI (bif p2.T3 then some true else some<|p2.N2==1000&&p2.pL==0&&!p2.nA) λb=>some b|.inr r2=>some r2
theorem aC4 (p2:E7):(en p2).m=oI p2:=by delta oI ji;simp only[en,yc,C.of,M.run,L1.m,bg,bgo,Iq]<;>kernel_rfl
def qc:=λs=>Q (x:=(ak s).m) _<|by simp only[ak,C.of,M.run,qS];rfl
theorem af3 (s):(ak s).m=qc s:=Qp
def oG:=λa=>Q (x:=(Y2 a).m) _<|by simp only[Y2,C.of,M.run,qS];rfl
theorem Gt (n2):(Y2 n2).m=oG n2:=Qp
def xn:=λk=>Q (x:=(kx k).m) _<|by simp only[kx,C.of,M.run,qS,Gt];rfl
theorem LL (k):(kx k).m=xn k:=Qp
def uM:=λt2=>Q (x:=(cP t2).m) _<|by simp only[cP,C.of,M.run,qS];rfl
theorem au0 (t2):(cP t2).m=uM t2:=Qp
def su:=λc i=>Q (x:=(gL c i).run) _<|by simp only[gL,M.run,L1.m,qS,LL];rfl
theorem ah1 (c i):(gL c i).run=su c i:=Qp
def zO:=λe2 c=>Q (x:=(mr e2 c).m) _<|by simp only[mr,C.of,M.run,qS,af3,LC,aC4,au0,aC9,xL,ah1];rfl
theorem aI1 (e2 c):(mr e2 c).m=zO e2 c:=Qp
def mO:=λp9=>Q (x:=(cO p9).m) _<|by simp only[cO,C.of,M.run,qS,iM];rfl
theorem at8 (p9):(cO p9).m=mO p9:=Qp
def oH:=λa=>Q (x:=(az a).m) _<|by simp only[az,C.of,M.run,qS];rfl
theorem aC3 (n2):(az n2).m=oH n2:=Qp
def uJ:=λa c8 p9=>Q (x:=(P6 a c8 p9).m) _<|by simp only[P6,C.of,M.run,qS,aC3,at8];rfl
theorem JX (aP8 c8 p9):(P6 aP8 c8 p9).m=uJ aP8 c8 p9:=Qp
def oC:=λc x i=>Q (x:=(jX c x i).run) _<|by simp only[jX,M.run,L1.m,qS];rfl
theorem au2 (c x i):(jX c x i).run=oC c x i:=Qp
def Dv:=λc x=>Q (x:=(V7 c x).m) _<|by simp only[V7,C.of,M.run,L1.m,Wr,qS,iM,au2];rfl
theorem aY4 (c x):(V7 c x).m=Dv c x:=Qp
def xd:=λa b2=>Q (x:=(jY a b2).m) _<|by simp only[jY,C.of,M.run,L1.m,qS];rfl
theorem aB5 (a b2):(jY a b2).m=xd a b2:=Qp
def je:=λxs x i=>Q (x:=(eQ xs x i).run) _<|by simp only[eQ,M.run,L1.m,qS];rfl
theorem ad0 (xs x i):(eQ xs x i).run=je xs x i:=Qp
def xc:=λxs ys x=>Q (x:=(dZ xs ys x).m) _<|by simp only[dZ,C.of,M.run,L1.m,Wr,qS,aB5,ad0];rfl
theorem LA (xs ys x):(dZ xs ys x).m=xc xs ys x:=Qp
def gY:=λa s s2=>Q (x:=(dF a s s2).run) _<|by simp only[dF,M.run,L1.m,U1.m,qS];rfl
theorem Fq (m2 s s2):(dF m2 s s2).run=gY m2 s s2:=Qp
def gX:=λa x s=>Q (x:=(dE a x s).run) _<|by simp only[dE,M.run,U1.m,Wr,qS,LA,Fq];rfl
theorem XY (m2 x s):(dE m2 x s).run=gX m2 x s:=Qp
def uC:=λa x=>Q (x:=(iP a x).m) _<|by simp only[iP,C.of,M.run,Wr,qS,Fq,XY];rfl
theorem at7 (m2 x):(iP m2 x).m=uC m2 x:=Qp
def FQ:=λa x y=>Q (x:=(jZ a x y).m) _<|by simp only[jZ,C.of,M.run,qS,at7,LA];rfl
theorem aB6 (m2 x y):(jZ m2 x y).m=FQ m2 x y:=Qp
def Dw:=λa x y=>Q (x:=(bn a x y).m) _<|by simp only[bn,C.of,M.run,qS,aB4,aB6];rfl
theorem aY5 (m2 x y):(bn m2 x y).m=Dw m2 x y:=Qp
def uG:=λt2 c8 k5 a=>Q (x:=(cN t2 c8 k5 a).m) _<|by simp only[cN,C.of,M.run,qS,iM,aY4,aY5];rfl
theorem JV (t2 c8 k5 J2):(cN t2 c8 k5 J2).m=uG t2 c8 k5 J2:=Qp
def uF:=λt2 c8 k5 a=>Q (x:=(P5 t2 c8 k5 a).m) _<|by simp only[P5,C.of,M.run,qS,aB9,JV,Fm];rfl
theorem JU (t2 c8 k5 J2):(P5 t2 c8 k5 J2).m=uF t2 c8 k5 J2:=Qp
def xu:=λr2=>Q (x:=(kC r2).m) _<|by simp only[kC,C.of,M.run,qS,au0];rfl
theorem LN (r2):(kC r2).m=xu r2:=Qp
def qn:=λa b i=>Q (x:=(fq a b i).run) _<|by simp only[fq,M.run,L1.m,qS,Gt];rfl
theorem ae2 (Gq n2 i):(fq Gq n2 i).run=qn Gq n2 i:=Qp
def qo:=λa i3=>Q (x:=(ft a i3).run) _<|by simp only[ft,M.run,L1.m,qS,LN,ae2];rfl
theorem ae3 (Gq i3):(ft Gq i3).run=qo Gq i3:=Qp
def xx:=λa b=>Q (x:=(kE a b).m) _<|by simp only[kE,C.of,M.run,qS,xL,ae2,ae3];rfl
theorem aD0 (Gq n2):(kE Gq n2).m=xx Gq n2:=Qp
def wX:=λx low high=>Q (x:=(aj x low high).m) _<|by simp only[aj,C.of,M.run,qS];rfl
theorem aB2 (x low high):(aj x low high).m=wX x low high:=Qp
def zM:=λp2 first a=>Q (x:=(mo p2 first a).m) _<|by simp only[mo,C.of,M.run,qS,aB2];rfl
theorem aH9 (p2 first second):(mo p2 first second).m=zM p2 first second:=Qp
def zN:=λt2 a c8=>Q (x:=(mq t2 a c8).m) _<|by simp only[mq,C.of,M.run,qS,aB2,aY5,aB4];rfl
theorem aI0 (t2 value c8):(mq t2 value c8).m=zN t2 value c8:=Qp
def kZ (s:B1)(g:uQ)(e2:Int):Option<|B1×Int:=tI (oA (H<|H (g.P*e2)+s.Sum) 1024) λv=>tI (bif !(decide (v>g.fI)&&decide (e2>0))then some !(decide (v<g.Bu)&&decide (e2<0))else some false) λb2=>tI (bif b2 then some<|H<|s.Sum+H (g.I*e2)else some s.Sum) λ(a:Int)=>tI (bif decide<|a>4398046511104then some 4398046511104 else some a) λ(b:Int)=>tI (bif decide<|b< -4398046511104then some (-4398046511104)else some b) λ(c:Int)=>tI (bif decide (v>g.fI)then some g.fI else some v) λ(u:Int)=>bif decide (u<g.Bu)then some ((⟨c⟩:B1),g.Bu)else some ((⟨c⟩:B1),u)
theorem ak5 (s:B1)(g:uQ)(e2:Int):(nY s g e2).m=kZ s g e2:=by simp only[nY,kZ,C.of,M.run,bg,bga,iM]<;>kernel_rfl
def rk:=λs g a c8=>Q (x:=(mj s g a c8).m) _<|by simp only[mj,C.of,M.run,qS,ak5,aG4,af3,aC3];rfl
theorem aH5 (s g target c8):(mj s g target c8).m=rk s g target c8:=Qp
def S8:=λa low high=>Q (x:=(S0 a low high).m) _<|by simp only[S0,C.of,M.run,qS];rfl
theorem aD1 (n2 low high):(S0 n2 low high).m=S8 n2 low high:=Qp
def mP:=λx r2=>Q (x:=(iV x r2).m) _<|by simp only[iV,C.of,M.run,qS];rfl
theorem JY (x r2):(iV x r2).m=mP x r2:=Qp
def G0 (l:List b7)(s s2:Int×Int×dV×List Bool):Option<|Int×Int×dV×List Bool⊕Int×Int×dV×List Bool⊕Empty:=bif decide<|s2.2.1<(l.length:Int)then tI (y3 l s2.2.1) λx=>bif x.u5 !=s.2.1then some<|.inl (s2.1,H<|s2.2.1+1,s2.2.2.1,s2.2.2.2)else tI (tI (mP s2.2.2.1 x) λv=>some v) λ(a:dV)=>tI (bif a.Bu !=s2.2.2.1.Bu then some x.H3 else some s2.1) λ(source:Int)=>tI (y3 s2.2.2.2 s2.2.1) λ_=>tI (fQ s2.2.2.2 s2.2.1 !(a.Bu==s2.2.2.1.Bu&&(a.fI==s2.2.2.1.fI&&true))) λl3=>some<|.inl (source,H<|s2.2.1+1,a,l3)else some<|.inr<|.inl (s2.1,s2.2.1,s2.2.2.1,s2.2.2.2)
def Y5 (l:List b7)(s:Int×Int×dV×List Bool):Option<|Int×Int×dV×List Bool⊕Int×Int×dV×List Bool⊕Empty:=bif decide<|s.2.1>=0then tI (o3 (G0 l s) (s.1,0,s.2.2.1,s.2.2.2)) λ(t:Int×Int×dV×List Bool⊕Empty)=>match t with|.inl s3=>some<|.inl (s3.1,H<|s.2.1-1,s3.2.2.1,s3.2.2.2)|.inr r=>r.elim else some<|.inr<|.inl (s.1,s.2.1,s.2.2.1,s.2.2.2)
def jl (l:List b7)(low high:Int):Option<|dV×Int×List Bool:=tI (CT (l.length:Int) false) λl2=>tI (o3 (Y5 l) (-1,15,(⟨low,high⟩:dV),l2)) λ(t:Int×Int×dV×List Bool⊕Empty)=>match t with|.inl a=>some (a.2.2.1,a.1,a.2.2.2)|.inr r=>r.elim
theorem af6 (l:List b7)(low high:Int):(nc l low high).m=jl l low high:=by delta jl G0 Y5;simp only[nc,rX,rW,C.of,M.run,L1.m,U1.m,bso,iZ,Wr,JY]<;>kernel_rfl
def xz:=λg l=>Q (x:=(kF g l).m) _<|by simp only[kF,C.of,M.run,qS,af6,aD1];rfl
theorem aD2 (g l):(kF g l).m=xz g l:=Qp
def ss:=λt2 c8 ao6=>Q (x:=(T6 t2 c8 ao6).m) _<|by simp only[T6,C.of,M.run,qS,aY5];rfl
theorem Ir (t2 c8 ao6):(T6 t2 c8 ao6).m=ss t2 c8 ao6:=Qp
def jj:=λt2 c8 B8 s=>Q (x:=(fj t2 c8 B8 s).run) _<|by simp only[fj,M.run,qS,Ir];rfl
theorem ad9 (t2 c8 B8 s):(fj t2 c8 B8 s).run=jj t2 c8 B8 s:=Qp
def xq:=λt2 c8 B8=>Q (x:=(kz t2 c8 B8).m) _<|by simp only[kz,C.of,M.run,L1.m,Wr,qS,Ir,ad9];rfl
theorem aC6 (t2 c8 B8):(kz t2 c8 B8).m=xq t2 c8 B8:=Qp
def dR:=λt2 c8 b a s=>Q (x:=(bt t2 c8 b a s).run) _<|by simp only[bt,M.run,qS,JV];rfl
theorem Wn (t2 c8 want J2 s):(bt t2 c8 want J2 s).run=dR t2 c8 want J2 s:=Qp
def qd:=λt2 c8 b a=>Q (x:=(eZ t2 c8 b a).m) _<|by simp only[eZ,C.of,M.run,Wr,qS,aB9,Fm,Wn];rfl
theorem af4 (t2 c8 want J2):(eZ t2 c8 want J2).m=qd t2 c8 want J2:=Qp
def zB:=λc8 k5=>Q (x:=(mc c8 k5).m) _<|by simp only[mc,C.of,M.run,qS,iM,ak6,Fm];rfl
theorem aG6 (c8 k5):(mc c8 k5).m=zB c8 k5:=Qp
def zA:=λb2=>Q (x:=(ma b2).m) _<|by simp only[ma,C.of,M.run,qS,Fm];rfl
theorem aG5 (b2):(ma b2).m=zA b2:=Qp
def K8:=λb2 a k5 x=>Q (x:=(bu b2 a k5 x).run) _<|by simp only[bu,M.run,qS,iM];rfl
theorem Wo (b2 aL9 k5 x):(bu b2 aL9 k5 x).run=K8 b2 aL9 k5 x:=Qp
def qg:=λb2 a k5=>Q (x:=(fa b2 a k5).m) _<|by simp only[fa,C.of,M.run,qS,aG5,Fm,Wo];rfl
theorem af5 (b2 aL9 k5):(fa b2 aL9 k5).m=qg b2 aL9 k5:=Qp
def qt:=λt2 b2 a b=>Q (x:=(fA t2 b2 a b).m) _<|by simp only[fA,C.of,M.run,qS,aG6,af4,af5,aC6];rfl
theorem af7 (t2 b2 Gq want):(fA t2 b2 Gq want).m=qt t2 b2 Gq want:=Qp
def ye:=λc late=>Q (x:=(cx c late).m) _<|by simp only[cx,C.of,M.run,qS,aY4];rfl
theorem XT (c late):(cx c late).m=ye c late:=Qp
def uL:=λt2 c8 ao6 late D3 a=>Q (x:=(W5 t2 c8 ao6 late D3 a).m) _<|by simp only[W5,C.of,M.run,L1.m,qS,XT,Ir];rfl
theorem yC (t2 c8 ao6 late D3 D7):(W5 t2 c8 ao6 late D3 D7).m=uL t2 c8 ao6 late D3 D7:=Qp
def jk:=λt2 c8 ao6 B8 a D3 s=>Q (x:=(fm t2 c8 ao6 B8 a D3 s).run) _<|by simp only[fm,M.run,qS,yC];rfl
theorem GB (t2 c8 ao6 B8 D7 D3 s):(fm t2 c8 ao6 B8 D7 D3 s).run=jk t2 c8 ao6 B8 D7 D3 s:=Qp
def L8:=λt2 c8 ao6 B8 a D3=>Q (x:=(fk t2 c8 ao6 B8 a D3).run) _<|by simp only[fk,M.run,Wr,qS,yC,GB];rfl
theorem ae0 (t2 c8 ao6 B8 D7 D3):(fk t2 c8 ao6 B8 D7 D3).run=L8 t2 c8 ao6 B8 D7 D3:=Qp
def xr:=λt2 c8 ao6 B8 a=>Q (x:=(kA t2 c8 ao6 B8 a).m) _<|by simp only[kA,C.of,M.run,qS,GB,ae0];rfl
theorem aC7 (t2 c8 ao6 B8 D7):(kA t2 c8 ao6 B8 D7).m=xr t2 c8 ao6 B8 D7:=Qp
def zJ:=λk a=>Q (x:=(mi k a).m) _<|by simp only[mi,C.of,M.run,qS];rfl
theorem Mp (k n2):(mi k n2).m=zJ k n2:=Qp
def xo:=λc8 ao6=>Q (x:=(aA c8 ao6).m) _<|by simp only[aA,C.of,M.run,qS,Iq];rfl
theorem aC5 (c8 ao6):(aA c8 ao6).m=xo c8 ao6:=Qp
def eB (p2:E7)(s:Int×List dy):Option<|Int×List dy⊕Int×List dy⊕Empty:=bif decide<|s.1<(p2.Cells.length:Int)then tI (tI (y3 p2.Cells s.1) λx=>tI (G2 s.2 ([x]:List dy)) λl=>some l) λ(a:List dy)=>some<|.inl (H<|s.1+1,a)else some<|.inr<|.inl (s.1,s.2)
def rm (p2:E7):Option E7:=tI (o3 (eB p2) (0,([]:List dy))) λ(t:Int×List dy⊕Empty)=>match t with|.inl s2=>some ({p2 with Cells:=s2.2}:E7)|.inr r=>r.elim
theorem aH7 (p2:E7):(um p2).m=rm p2:=by delta rm eB;simp only[um,zd,C.of,M.run,L1.m,U1.m,bso,iZ,Wr]<;>kernel_rfl
def zL:=λp2 a c8 ao6=>Q (x:=(mm p2 a c8 ao6).m) _<|by simp only[mm,C.of,M.run,qS,aH7,aC4,Iq,aC5];rfl
theorem aH8 (p2 mv c8 ao6):(mm p2 mv c8 ao6).m=zL p2 mv c8 ao6:=Qp
def zK:=λc8 ao6=>Q (x:=(ml c8 ao6).m) _<|by simp only[ml,C.of,M.run,qS,aC5];rfl
theorem aH6 (c8 ao6):(ml c8 ao6).m=zK c8 ao6:=Qp
def uK:=λp2 c8 ao6=>Q (x:=(iU p2 c8 ao6).m) _<|by simp only[iU,C.of,M.run,L1.m,qS,aH6,aC4,aC5];rfl
theorem at9 (p2 c8 ao6):(iU p2 c8 ao6).m=uK p2 c8 ao6:=Qp
def fH:=λa=>Q (x:=(V0 a).m) _<|by simp only[V0,C.of,M.run,qS];rfl
theorem aH3 (n2):(V0 n2).m=fH n2:=Qp
def zF:=λao6 a=>Q (x:=(me ao6 a).m) _<|by simp only[me,C.of,M.run,L1.m,qS,aH3];rfl
theorem aH0 (ao6 Ys):(me ao6 Ys).m=zF ao6 Ys:=Qp
def zC:=λb2=>Q (x:=(gd b2).m) _<|by simp only[gd,C.of,M.run,qS];rfl
theorem aG7 (b2):(gd b2).m=zC b2:=Qp
def Bc:=λb2 O2=>Q (x:=(dg b2 O2).m) _<|by simp only[dg,C.of,M.run,qS];rfl
theorem aV4 (b2 O2):(dg b2 O2).m=Bc b2 O2:=Qp
def zI:=λb2 a=>Q (x:=(V1 b2 a).m) _<|by simp only[V1,C.of,M.run,qS];rfl
theorem Mo (b2 FD):(V1 b2 FD).m=zI b2 FD:=Qp
def rj:=λb2 O2 a=>Q (x:=(gh b2 O2 a).m) _<|by simp only[gh,C.of,M.run,qS,aG7,aH3,aV4,Mo];rfl
theorem aG9 (b2 O2 FD):(gh b2 O2 FD).m=rj b2 O2 FD:=Qp
def lp:=λb2 a v3 s=>Q (x:=(gK b2 a v3 s).run) _<|by simp only[gK,M.run,qS,Mo];rfl
theorem ah0 (b2 want v3 s):(gK b2 want v3 s).run=lp b2 want v3 s:=Qp
def zH:=λb2 O2 a=>Q (x:=(mg b2 O2 a).m) _<|by simp only[mg,C.of,M.run,Wr,qS,aG7,aG9,aH3,aV4,Mo,ah0];rfl
theorem aH2 (b2 O2 want):(mg b2 O2 want).m=zH b2 O2 want:=Qp
def xi:=λt2 a b=>Q (x:=(ek t2 a b).m) _<|by simp only[ek,C.of,M.run,qS,aG8,aH3];rfl
theorem aC0 (t2 n2 mv):(ek t2 n2 mv).m=xi t2 n2 mv:=Qp
def zG:=λt2 a b=>Q (x:=(mf t2 a b).m) _<|by simp only[mf,C.of,M.run,qS,aY4,aC0];rfl
theorem aH1 (t2 n2 mv):(mf t2 n2 mv).m=zG t2 n2 mv:=Qp
def Hn:=λt2 c8 ao6=>Q (x:=(mh t2 c8 ao6).m) _<|by simp only[mh,C.of,M.run,qS,aY5];rfl
theorem aH4 (t2 c8 ao6):(mh t2 c8 ao6).m=Hn t2 c8 ao6:=Qp
def xj:=λt2 c8 ao6 p9 a=>Q (x:=(ko t2 c8 ao6 p9 a).m) _<|by simp only[ko,C.of,M.run,qS,aH4];rfl
theorem LJ (t2 c8 ao6 p9 ZK):(ko t2 c8 ao6 p9 ZK).m=xj t2 c8 ao6 p9 ZK:=Qp
def xl:=λt2 a b=>Q (x:=(kr t2 a b).m) _<|by simp only[kr,C.of,M.run,qS,aY4];rfl
theorem LK (t2 bK eF):(kr t2 bK eF).m=xl t2 bK eF:=Qp
def xp:=λa D3 b i=>Q (x:=(ky a D3 b i).m) _<|by simp only[ky,C.of,M.run,L1.m,qS];rfl
theorem LM (D7 D3 ic i):(ky D7 D3 ic i).m=xp D7 D3 ic i:=Qp
def lq:=λa s2=>Q (x:=(N5 a s2).run) _<|by simp only[N5,M.run,L1.m,U1.m,qS];rfl
theorem ah2 (Gq s2):(N5 Gq s2).run=lq Gq s2:=Qp
def lr:=λe2 c a b=>Q (x:=(N6 e2 c a b).run) _<|by simp only[N6,M.run,L1.m,U1.m,qS,Mp,ah2];rfl
theorem ah3 (e2 c Gq s4):(N6 e2 c Gq s4).run=lr e2 c Gq s4:=Qp
def lu:=λt2 e2 b r4 r5 d a c e=>Q (x:=(N7 t2 e2 b r4 r5 d a c e).run) _<|by simp only[N7,M.run,L1.m,U1.m,qS,LJ,LK,LM,ah2,ah3];rfl
theorem ah4 (t2 e2 Gq r4 r5 s5 eF v12 s7):(N7 t2 e2 Gq r4 r5 s5 eF v12 s7).run=lu t2 e2 Gq r4 r5 s5 eF v12 s7:=Qp
def zP:=λt2 e2 b2 c a=>Q (x:=(L4 t2 e2 b2 c a).m) _<|by simp only[L4,CG.of,M.run,L1.m,U1.m,Wr,qS,LI,JU,aG9,aH0,aH1,aH2,JX,aH5,at8,at9,aH8,aC7,yC,aH9,aI0,aD0,aI1,LO,aD1,aD2,af7,ah2,ah3,ah4];rfl
theorem yD (t2 e2 b2 c Gq):(L4 t2 e2 b2 c Gq).m=zP t2 e2 b2 c Gq:=Qp
def Jb:=Q (x:=(oc).m) _<|by simp only[oc,C.of,M.run,U1.m,qS];rfl
theorem aV6:(oc).m=Jb:=Qp
def mQ:=λe2 s=>Q (x:=(iW e2 s).run) _<|by simp only[iW,M.run,U1.m,qS];rfl
theorem al0 (e2 s):(iW e2 s).run=mQ e2 s:=Qp
def Be:=λe2=>Q (x:=(iq e2).m) _<|by simp only[iq,C.of,M.run,Wr,qS,LC,aV6,al0];rfl
theorem OT (e2):(iq e2).m=Be e2:=Qp
def uH:=λt2 a b=>Q (x:=(W4 t2 a b).m) _<|by simp only[W4,C.of,M.run,qS,aY4,aC0];rfl
theorem JW (t2 eF mv):(W4 t2 eF mv).m=uH t2 eF mv:=Qp
end Go.Pv
set_option maxHeartbeats 1000000
open Go.Proofs Go.Proofs.YtlbfdimlomockaaGreat
namespace Go.Pv
open Go Go.Pv.Et
theorem ac7 (t2:w8):(DP t2).m=ll t2:=rfl
def W9:=λe2 a i=>Q (x:=(eT e2 a i).run) _<|by simp only[eT,M.run,L1.m,qS];rfl
theorem ad1 (e2 dX i):(eT e2 dX i).run=W9 e2 dX i:=Qp
def xf:=λe2 a=>Q (x:=(ef e2 a).m) _<|by simp only[ef,C.of,M.run,qS,ad1];rfl
theorem aB7 (e2 dX):(ef e2 dX).m=xf e2 dX:=Qp
def FR:=λa=>Q (x:=(aq a).m) _<|by simp only[aq,C.of,M.run,qS];rfl
theorem aB8 (n2):(aq n2).m=FR n2:=Qp
def zx:=λe2 a=>Q (x:=(gb e2 a).m) _<|by simp only[gb,C.of,M.run,qS,aB7,aB8];rfl
theorem Co (e2 f2):(gb e2 f2).m=zx e2 f2:=Qp
def hF:=λl i x k=>Q (x:=(dI l i x k).run) _<|by simp only[dI,M.run,L1.m,qS];rfl
theorem Fs (l i x k):(dI l i x k).run=hF l i x k:=Qp
def hD:=λe2 l i=>Q (x:=(dH e2 l i).run) _<|by simp only[dH,M.run,L1.m,qS,Co,Fs];rfl
theorem Ya (e2 l i):(dH e2 l i).run=hD e2 l i:=Qp
def mN:=λe2 l=>Q (x:=(W3 e2 l).m) _<|by simp only[W3,C.of,M.run,qS,Fs,Ya];rfl
theorem yB (e2 l):(W3 e2 l).m=mN e2 l:=Qp
def zw:=λt2=>Q (x:=(bT t2).m) _<|by simp only[bT,C.of,M.run,qS];rfl
theorem Mi (t2):(bT t2).m=zw t2:=Qp
def Z8 (c:A1):Option Bool:=bif !c.F8 then some<|c.F8==false&&(c.At==0&&(c.q7==0&&(c.q8==0&&(c.I9==0&&(c.K6==0&&true)))))else tI (zw c.At) λv=>tI (bif v&&decide (c.q7>=0)&&decide (c.q7<46080)&&decide (c.q8>=1)&&decide (c.q8<=1073741824)&&decide (c.I9>=192)&&decide (c.I9<=1920)then some<|c.K6==c.I9||c.K6==H (2*c.I9)||c.K6==H (3*c.I9)else some false) λb2=>some b2
theorem Ak (c:A1):(kc c).m=Z8 c:=by simp only[kc,Z8,C.of,M.run,bg,bga,Mi]<;>kernel_rfl
def cU (t2:w8)(i:Int):Option<|Int⊕Int⊕Bool:=bif decide<|i<(t2.a8.length:Int)then tI (y3 t2.a8 i) λx=>tI (bif x.u7 then some<|decide (x.At<=t2.D2)||decide (x.At>1099511627776)else some false) λb2=>tI (bif b2 then some true else tI (bif !x.u7 then some (x.At !=0||x.Next)else some false) λa=>some a) λb=>bif b then some<|.inr (.inr false)else some<|.inl<|H (i+1)else some<|.inr<|.inl i
def iC (t2:w8):Option Bool:=bif decide (t2.D2<0)||decide (t2.D2>1099511627776)||decide ((t2.a8.length:Int)<1)||decide ((t2.a8.length:Int)>16)then some false else tI (o3 (cU t2) 0) λ(t:Int⊕Bool)=>match t with|.inl _=>some true|.inr r2=>some r2
theorem LD (t2:w8):(rV t2).m=iC t2:=by delta iC cU;simp only[rV,xV,C.of,M.run,L1.m,bg,bga,bgo]<;>kernel_rfl
def lb:=λl i=>Q (x:=(gB l i).run) _<|by simp only[gB,M.run,L1.m,qS,LB];rfl
theorem ag4 (l i):(gB l i).run=lb l i:=Qp
def la:=λl=>Q (x:=(lX l).m) _<|by simp only[lX,C.of,M.run,qS,ag4];rfl
theorem Mj (l):(lX l).m=la l:=Qp
def aI:=λx=>Q (x:=(K4 x).m) _<|by simp only[K4,C.of,M.run,qS];rfl
theorem eG (x):(K4 x).m=aI x:=Qp
def iF:=λl a s=>Q (x:=(kg l a s).run) _<|by simp only[kg,M.run,L1.m,U1.m,qS,eG];rfl
theorem au4 (l channel s):(kg l channel s).run=iF l channel s:=Qp
def pz:=λl a=>Q (x:=(qK l a).m) _<|by simp only[qK,C.of,M.run,Wr,qS,au4];rfl
theorem PS (l channel):(qK l channel).m=pz l channel:=Qp
def fP:=λkind=>Q (x:=(br kind).m) _<|by simp only[br,C.of,M.run,qS];rfl
theorem wx (kind):(br kind).m=fP kind:=Qp
def Q0:=λl s=>Q (x:=(eY l s).run) _<|by simp only[eY,M.run,L1.m,qS,wx];rfl
theorem ad5 (l s):(eY l s).run=Q0 l s:=Qp
def oF:=λl c=>Q (x:=(kl l c).m) _<|by simp only[kl,C.of,M.run,L1.m,qS,wx,ad5];rfl
theorem LH (l c):(kl l c).m=oF l c:=Qp
def X4 (s:a7)(i:Int):Option<|Int⊕Int⊕Bool:=bif decide<|i<(s.o1.length:Int)then tI (y3 s.o1 i) λx=>tI (la ([x.Event]:List j8)) λv5=>tI (bif !v5||decide (x.Event.h8>(s.h9.ai9.length:Int))||decide (x.Left< -1048576)||decide (x.Left>1048576)then some true else some<|!x.u7&&x.At !=0) λa=>bif a then some<|.inr (.inr false)else some<|.inl<|H (i+1)else some<|.inr<|.inl i
def cW (s:a7)(c:Int):Option<|Int⊕Int⊕Bool:=bif decide<|c<H (2*(s.h9.ai9.length:Int))then tI (pz s.o1 c) λa=>tI (y3 s.b9.a8 c) λd=>tI (oF a d) λe=>bif !e then some<|.inr (.inr false)else tI (bif s.Cut then bif decide<|(a.length:Int)>0then bif decide<|(a.length:Int)>1then some true else bif uk c 2==1then some true else tI (y3 a 0) λb=>bif !b.u7 then some true else some<|decide<|b.At>H (s.b9.D2+5000)else(some false)else some false) λ(f:Bool)=>bif f then some<|.inr (.inr false)else some<|.inl<|H (c+1)else some<|.inr<|.inl c
def dt (s:a7):Option Bool:=tI (oD s.h9) λv=>tI (bif !v then some true else tI (Z8 s.k7) λa=>some !a) λb2=>tI (bif b2 then some true else tI (iC s.b9) λv3=>some !v3) λb=>tI (bif b||(s.b9.a8.length:Int)!=H (2*(s.h9.ai9.length:Int))then some true else tI (mN s.h9 s.Next) λv4=>some !v4) λc=>bif c||decide ((s.o1.length:Int)>200)then some false else bif !s.k7.F8&&decide ((s.o1.length:Int)>0)then some false else tI (o3 (X4 s) 0) λ(t:Int⊕Bool)=>match t with|.inl _=>(tI (o3 (cW s) 0) λ(t:Int⊕Bool)=>match t with|.inl _=>some true|.inr r2=>some r2)|.inr r3=>some r3
theorem An (s:a7):(kj s).m=dt s:=by delta dt X4 cW;simp only[kj,ya,yb,C.of,M.run,L1.m,bg,bgo,cT8,cT9,Ak,Mj,LC,LD,PS,yB,LH]<;>kernel_rfl
def rf:=λs=>Q (x:=(P3 s).m) _<|by simp only[P3,CG.of,M.run,U1.m,qS,ac7];rfl
theorem Cr (s):(P3 s).m=rf s:=Qp
def ln:=λt2 s=>Q (x:=(gH t2 s).run) _<|by simp only[gH,M.run,L1.m,qS];rfl
theorem ag8 (t2 s):(gH t2 s).run=ln t2 s:=Qp
def zy:=λt2=>Q (x:=(bU t2).m) _<|by simp only[bU,C.of,M.run,Wr,qS,ag8];rfl
theorem Cq (t2):(bU t2).m=zy t2:=Qp
def aH:=λs s2=>Q (x:=(cw s s2).run) _<|by simp only[cw,M.run,L1.m,U1.m,qS];rfl
theorem El (s s2):(cw s s2).run=aH s s2:=Qp
def R3:=λu4 v s=>Q (x:=(cv u4 v s).run) _<|by simp only[cv,M.run,Wr,qS,Cq,El];rfl
theorem WQ (u4 v s):(cv u4 v s).run=R3 u4 v s:=Qp
def sm:=λt2 u4=>Q (x:=(bp t2 u4).m) _<|by simp only[bp,CG.of,M.run,Wr,qS,ac7,Cq,El,WQ];rfl
theorem Ip (t2 u4):(bp t2 u4).m=sm t2 u4:=Qp
def cV:=λs a i=>Q (x:=(eW s a i).run) _<|by simp only[eW,M.run,L1.m,qS,eG];rfl
theorem ad3 (s channel i):(eW s channel i).run=cV s channel i:=Qp
def iE:=λs a=>Q (x:=(ei s a).m) _<|by simp only[ei,C.of,M.run,qS,ad3];rfl
theorem Am (s channel):(ei s channel).m=iE s channel:=Qp
def pA:=λa b2=>Q (x:=(km a b2).m) _<|by simp only[km,C.of,M.run,qS,iM];rfl
theorem Fk (a b2):(km a b2).m=pA a b2:=Qp
def bY:=λs s2=>Q (x:=(iS s s2).run) _<|by simp only[iS,M.run,L1.m,U1.m,qS,Am,wx,Fk];rfl
theorem ak8 (s s2):(iS s s2).run=bY s s2:=Qp
def nn:=λs=>Q (x:=(df s).m) _<|by simp only[df,CG.of,M.run,Wr,qS,ak8];rfl
theorem DK (s):(df s).m=nn s:=Qp
def dp:=λs2 r2 s3=>Q (x:=(kf s2 r2 s3).run) _<|by simp only[kf,M.run,L1.m,U1.m,qS];rfl
theorem Kc (s2 r2 s3):(kf s2 r2 s3).run=dp s2 r2 s3:=Qp
def dn:=λu4 s2=>Q (x:=(kd u4 s2).run) _<|by simp only[kd,M.run,U1.m,Wr,qS,Ip,Cq,DK,Kc];rfl
theorem au3 (u4 s2):(kd u4 s2).run=dn u4 s2:=Qp
def wm:=λs u4=>Q (x:=(bq s u4).m) _<|by simp only[bq,CG.of,M.run,Wr,qS,Ip,Cr,Kc,au3];rfl
theorem wv (s u4):(bq s u4).m=wm s u4:=Qp
def M0:=λa=>Q (x:=(G5 a).m) _<|by simp only[G5,C.of,M.run,qS];rfl
theorem JQ (a):(G5 a).m=M0 a:=Qp
def W8:=λa u4=>Q (x:=(R2 a u4).m) _<|by simp only[R2,C.of,M.run,qS,JQ];rfl
theorem uT (ac3 u4):(R2 ac3 u4).m=W8 ac3 u4:=Qp
def mL:=λe2 a=>Q (x:=(cK e2 a).m) _<|by simp only[cK,C.of,M.run,L1.m,qS,aB7];rfl
theorem JN (e2 dX):(cK e2 dX).m=mL e2 dX:=Qp
def iD:=λe2 a=>Q (x:=(eh e2 a).m) _<|by simp only[eh,C.of,M.run,qS,JN];rfl
theorem Al (e2 dX):(eh e2 dX).m=iD e2 dX:=Qp
def M6:=λd a=>Q (x:=(J6 d a).m) _<|by simp only[J6,C.of,M.run,L1.m,qS];rfl
theorem Cp (d eF):(J6 d eF).m=M6 d eF:=Qp
def gn:=λa=>Q (x:=(cL a).m) _<|by simp only[cL,C.of,M.run,qS];rfl
theorem JP (f2):(cL f2).m=gn f2:=Qp
def mM (e2:j5)(a:o9)(b:Int):Option<|List j8:=tI (mL e2 a.h8) λv=>tI (M6 a.L5 b) λi=>tI (bif decide<|i>23040then some 23040 else some i) λ(c:Int)=>tI (M0<|H<|H (v-a.D1)-c) λv3=>tI (M0<|H<|v-a.D1) λv4=>tI (gn a) λv5=>bif v5==0then some ([(⟨v3,1,a.h8,0⟩:j8),(⟨v4,2,a.h8,0⟩:j8)]:List j8)else tI (tI (M6 a.F4 b) λk=>tI (M0<|H<|H (v-a.End)-k) λm=>tI (G2 ([(⟨v3,1,a.h8,0⟩:j8),(⟨v4,2,a.h8,0⟩:j8)]:List j8) ([(⟨m,3,a.h8,1⟩:j8)]:List j8)) λl=>some l) λ(n:List j8)=>tI (tI (M0<|H<|v-a.End) λo=>tI (G2 n ([(⟨o,4,a.h8,1⟩:j8)]:List j8)) λl2=>some l2) λ(j:List j8)=>tI (gn a) λv9=>bif v9==1then some j else tI (M6 a.US b) λd=>tI (tI (M0<|H<|H (v-a.End)+d) λe=>tI (G2 j ([(⟨e,3,a.h8,2⟩:j8)]:List j8)) λl3=>some l3) λ(p:List j8)=>tI (tI (M6 a.Extra b) λf=>tI (M0<|H<|H (H (v-a.End)+d)+f) λg=>tI (G2 p ([(⟨g,4,a.h8,2⟩:j8)]:List j8)) λl4=>some l4) λ(h:List j8)=>some h
theorem JO (e2:j5)(a:o9)(eF:Int):(pU e2 a eF).m=mM e2 a eF:=by simp only[pU,mM,C.of,M.run,U1.m,bso,iZ,JN,JP,Cp,JQ]<;>kernel_rfl
def uD:=λa b2=>Q (x:=(iQ a b2).m) _<|by simp only[iQ,C.of,M.run,qS];rfl
theorem JR (a b2):(iQ a b2).m=uD a b2:=Qp
def gZ:=λl x i=>Q (x:=(dG l x i).run) _<|by simp only[dG,M.run,L1.m,qS,JR];rfl
theorem XZ (l x i):(dG l x i).run=gZ l x i:=Qp
def uE:=λl x=>Q (x:=(iR l x).m) _<|by simp only[iR,C.of,M.run,U1.m,Wr,qS,XZ];rfl
theorem JS (l x):(iR l x).m=uE l x:=Qp
def lg:=λe2 l i=>Q (x:=(gC e2 l i).run) _<|by simp only[gC,M.run,L1.m,qS,Co];rfl
theorem ag5 (e2 l i):(gC e2 l i).run=lg e2 l i:=Qp
def lj:=λl i3 k=>Q (x:=(gE l i3 k).run) _<|by simp only[gE,M.run,L1.m,qS,ag5];rfl
theorem Hz (l i3 k):(gE l i3 k).run=lj l i3 k:=Qp
def lh:=λl i3=>Q (x:=(gD l i3).run) _<|by simp only[gD,M.run,qS,ag5,Hz];rfl
theorem ag6 (l i3):(gD l i3).run=lh l i3:=Qp
def eA:=λv5 s2=>Q (x:=(gG v5 s2).run) _<|by simp only[gG,M.run,L1.m,qS,JS,ag5,Hz,ag6];rfl
theorem HA (v5 s2):(gG v5 s2).run=eA v5 s2:=Qp
def lk:=λe2 l a s=>Q (x:=(gF e2 l a s).run) _<|by simp only[gF,M.run,L1.m,Wr,qS,JO,Cp,ag5,Hz,ag6,HA];rfl
theorem ag7 (e2 l eF s):(gF e2 l eF s).run=lk e2 l eF s:=Qp
def re:=λe2 l a=>Q (x:=(lY e2 l a).m) _<|by simp only[lY,C.of,M.run,qS,ag5,Hz,ag6,HA,ag7];rfl
theorem Mn (e2 l eF):(lY e2 l eF).m=re e2 l eF:=Qp
def LV:=λl a s=>Q (x:=(eX l a s).run) _<|by simp only[eX,M.run,L1.m,U1.m,qS,eG];rfl
theorem ad4 (l channel s):(eX l channel s).run=LV l channel s:=Qp
def iG:=λl a=>Q (x:=(kh l a).m) _<|by simp only[kh,CG.of,M.run,Wr,qS,ad4];rfl
theorem LF (l channel):(kh l channel).m=iG l channel:=Qp
def bJ (s:List k6×Int)(s2:j8×Int)(k:Int):Option<|Int⊕Int⊕Empty:=tI (bif decide<|k>0then tI (y3 s.1<|H<|k-1) λa=>bif decide<|a.Left>s2.2then some true else bif a.Left==s2.2then tI (aI a.Event) λv3=>tI (aI s2.1) λv4=>some<|decide (v3>v4)else(some false)else some false) λ(v5:Bool)=>bif v5 then some<|.inl<|H (k-1)else some<|.inr<|.inl k
def T9 (r2:List j8×Int)(v:Int)(s:List k6×Int):Option<|List k6×Int⊕List k6×Int⊕Empty:=bif decide<|s.2<(r2.1.length:Int)then tI (tI (y3 r2.1 s.2) λx=>tI (W8 v x.q7) λa=>some (x,a)) λ(s2:j8×Int)=>tI (o3 (bJ s s2) (s.1.length:Int)) λ(t:Int⊕Empty)=>match t with|.inl k2=>tI (U4 s.1 0 k2) λl=>tI (G2 ([]:List k6) l) λl2=>tI (G2 l2 ([(⟨s2.1,s2.2,false,0⟩:k6)]:List k6)) λl3=>tI (U4 s.1 k2 (s.1.length:Int)) λl4=>tI (G2 l3 l4) λb=>some<|.inl (b,H<|s.2+1)|.inr r=>r.elim else some<|.inr<|.inl (s.1,s.2)
def U0 (c:Int)(a:List k6)(i:Int):Option<|Int⊕Int⊕List k6:=bif decide<|i<(a.length:Int)then tI (bif c==0then some 0 else some<|H<|H (bQ2 i 2)+1) λ(Ga:Int)=>tI (tI (y3 a i) λb=>tI (fP b.Event.Kind) λd=>bif !d==(uk i 2==0)then some true else bif b.Event.O1 !=Ga then some true else bif decide<|i>0then tI (y3 a<|H<|i-1) λe=>some<|decide (b.Left<=e.Left)else some false) λ(f:Bool)=>bif f then some<|.inr<|.inr ([]:List k6)else some<|.inl<|H (i+1)else some<|.inr<|.inl i
def H7 (a:o9)(s3:List k6×Int)(c:Int):Option<|Int⊕Int⊕List k6:=bif decide<|c<2then tI (iG s3.1<|H<|H (2*H (a.h8-1))+c) λb=>tI (o3 (U0 c b) 0) λ(t:Int⊕List k6)=>match t with|.inl _=>some<|.inl<|H<|c+1|.inr r3=>some<|.inr (.inr r3)else some<|.inr<|.inl c
def gp (e2:j5)(b:o9)(a:Int):Option<|List k6:=tI (re e2 ([b]:List o9) a) λr2=>bif r2.2!=0then some ([]:List k6)else tI (iD e2 b.h8) λv=>tI (o3 (T9 r2 v) (([]:List k6),0)) λ(t:List k6×Int⊕Empty)=>match t with|.inl s3=>(tI (o3 (H7 b s3) 0) λ(t:Int⊕List k6)=>match t with|.inl _=>some s3.1|.inr r4=>some r4)|.inr r=>r.elim
theorem JT (e2:j5)(a:o9)(eF:Int):(pV e2 a eF).m=gp e2 a eF:=by delta gp bJ T9 U0 H7;simp only[pV,vj,vi,vl,vk,CG.of,M.run,L1.m,U1.m,cT9,bso,iZ,Wr,uT,Mn,Al,eG,LF,wx]<;>kernel_rfl
def X0 (s:a7)(c:A1)(s2:Int×List k6):Option<|Int×List k6⊕Int×List k6⊕Empty:=bif decide<|s2.1<(s2.2.length:Int)then tI (y3 s2.2 s2.1) λx=>tI (W8 s.k7.q7 c.q7) λv3=>tI (fQ s2.2 s2.1 ({x with Left:=q9 (H<|x.Left-v3)<|-1048576}:k6)) λl=>some<|.inl (H<|s2.1+1,l)else some<|.inr<|.inl (s2.1,s2.2)
def X3 (c:Int)(a:Int×List k6):Option<|Int×List k6⊕Int×List k6⊕Empty:=bif decide<|a.1<(a.2.length:Int)then tI (y3 a.2 a.1) λb=>tI (fQ a.2 a.1 ({b with Left:=H<|b.Left+c}:k6)) λl3=>some<|.inl (H<|a.1+1,l3)else some<|.inr<|.inl (a.1,a.2)
def X2 (c:A1)(r2:a7×List e9)(v4 d b:Int)(a:Int×List k6):Option<|Int×List k6⊕Int×List k6⊕Empty:=bif decide<|a.1<(r2.1.Next.length:Int)then tI (tI (y3 r2.1.Next a.1) λe=>bif e.h8 !=d then some true else some<|decide<|b>=c.K6) λ(f:Bool)=>bif f then some<|.inl (H<|a.1+1,a.2)else(tI (tI (y3 r2.1.Next a.1) λg=>tI (gp r2.1.h9 g v4) λh=>some h) λ(l2:List k6)=>tI (o3 (X3 b) (0,l2)) λ(t:Int×List k6⊕Empty)=>match t with|.inl i=>tI (G2 a.2 i.2) λl4=>some<|.inl (H<|a.1+1,l4)|.inr r=>r.elim)else some<|.inr<|.inl (a.1,a.2)
def X1 (c:A1)(r2:a7×List e9)(v4:Int)(a:Int×List k6):Option<|Int×List k6⊕Int×List k6⊕Empty:=bif decide<|a.1<(r2.1.h9.ai9.length:Int)then tI (y3 r2.1.h9.ai9 a.1) λb=>tI (iD r2.1.h9 b) λv5=>tI (W8 c.q7 v5) λd=>tI (o3 (X2 c r2 v4 b d) (0,a.2)) λ(t:Int×List k6⊕Empty)=>match t with|.inl e=>some<|.inl (H<|a.1+1,e.2)|.inr r=>r.elim else some<|.inr<|.inl (a.1,a.2)
def oE (s:a7)(c:A1):Option<|a7×List e9×Int:=tI (dt s) λv=>tI (bif !v then some true else tI (Z8 c) λe=>some !e) λb2=>bif b2 then some ((⟨(⟨([]:List Int),0⟩:j5),(⟨false,0,0,0,0,0⟩:A1),(⟨0,([]:List ai1)⟩:w8),([]:List o9),([]:List k6),false⟩:a7),([]:List e9),1)else bif !c.F8 then some ((⟨(⟨([]:List Int),0⟩:j5),(⟨false,0,0,0,0,0⟩:A1),(⟨0,([]:List ai1)⟩:w8),([]:List o9),([]:List k6),false⟩:a7),([]:List e9),6)else bif decide (c.At<s.b9.D2)then some ((⟨(⟨([]:List Int),0⟩:j5),(⟨false,0,0,0,0,0⟩:A1),(⟨0,([]:List ai1)⟩:w8),([]:List o9),([]:List k6),false⟩:a7),([]:List e9),16)else tI (wm s c.At) λr2=>tI (bif s.k7.F8 then tI (o3 (X0 s c) (0,r2.1.o1)) λ(t:Int×List k6⊕Empty)=>match t with|.inl s3=>some s3.2|.inr r=>r.elim else some r2.1.o1) λ(b:List k6)=>bif !r2.1.Cut then tI (pA (H<|23040*c.q8) c.I9) λv4=>tI (o3 (X1 c r2 v4) (0,b)) λ(t:Int×List k6⊕Empty)=>match t with|.inl d=>bif decide<|(d.2.length:Int)>200then some ((⟨(⟨([]:List Int),0⟩:j5),(⟨false,0,0,0,0,0⟩:A1),(⟨0,([]:List ai1)⟩:w8),([]:List o9),([]:List k6),false⟩:a7),([]:List e9),5)else tI (nn (⟨r2.1.h9,c,r2.1.b9,r2.1.Next,d.2,r2.1.Cut⟩:a7)) λv9=>some (v9,r2.2,0)|.inr r=>r.elim else tI (nn (⟨r2.1.h9,c,r2.1.b9,r2.1.Next,b,r2.1.Cut⟩:a7)) λa=>some (a,r2.2,0)
theorem LG (s:a7)(c:A1):(ki s c).m=oE s c:=by delta oE X0 X3 X2 X1;simp only[ki,xW,xZ,xY,xX,C.of,M.run,L1.m,U1.m,bg,bgo,bso,iZ,Wr,Ak,uT,Al,wv,An,DK,Fk,JT]<;>kernel_rfl
def V3 (s v:a7)(s2:List e9×Int×List k6×List ai1):Option<|List e9×Int×List k6×List ai1⊕List e9×Int×List k6×List ai1⊕Empty:=bif decide<|s2.2.1<(s2.2.2.2.length:Int)then tI (y3 s.b9.a8 s2.2.1) λx=>bif !x.s8 then tI (y3 s2.2.2.2 s2.2.1) λ_=>tI (fQ s2.2.2.2 s2.2.1 (⟨false,0,false,false⟩:ai1)) λl=>some<|.inl (s2.1,H<|s2.2.1+1,s2.2.2.1,l)else bif uk s2.2.1 2==1||v.b9.D2==1099511627776then tI (y3 s2.2.2.2 s2.2.1) λ_=>tI (fQ s2.2.2.2 s2.2.1 (⟨false,0,false,false⟩:ai1)) λl2=>tI (G2 s2.1 ([(⟨v.b9.D2,s2.2.1,false⟩:e9)]:List e9)) λl3=>some<|.inl (l3,H<|s2.2.1+1,s2.2.2.1,l2)else tI (tI (iE s s2.2.1) λb=>tI (y3 s.o1 b) λc=>some c) λ(a:k6)=>tI (bif a.u7 then some (ba9 (ba9 (H<|v.b9.D2+5000) 1099511627776) a.At)else some<|ba9 (H<|v.b9.D2+5000) 1099511627776) λ(t2:Int)=>tI (G2 s2.2.2.1 ([(⟨a.Event,a.Left,true,t2⟩:k6)]:List k6)) λl4=>tI (y3 s2.2.2.2 s2.2.1) λ_=>tI (fQ s2.2.2.2 s2.2.1 (⟨true,t2,false,true⟩:ai1)) λd=>some<|.inl (s2.1,H<|s2.2.1+1,l4,d)else some<|.inr<|.inl (s2.1,s2.2.1,s2.2.2.1,s2.2.2.2)
def tO (s:a7):Option<|a7×List e9:=bif s.Cut then some (s,([]:List e9))else tI (rf s) λv=>tI (o3 (V3 s v) (([]:List e9),0,([]:List k6),v.b9.a8)) λ(t:List e9×Int×List k6×List ai1⊕Empty)=>match t with|.inl s3=>some (({v with b9.a8:=s3.2.2.2,o1:=s3.2.2.1,Cut:=true}:a7),s3.1)|.inr r=>r.elim
theorem DJ (s:a7):(il s).m=tO s:=by delta tO V3;simp only[il,Aq,C.of,M.run,L1.m,U1.m,bso,iZ,Wr,Cr,Am]<;>kernel_rfl
end Go.Pv
set_option maxHeartbeats 1000000
open Go.Proofs Go.Proofs.YtlbfdimlomockaaGreat
namespace Go.Pv
open Go Go.Pv.Et
def yN:=λx low high=>Q (x:=(E9 x low high).m) _<|by simp only[E9,C.of,M.run,qS];rfl
theorem Wh (x low high):(E9 x low high).m=yN x low high:=Qp
def yK:=λc=>Q (x:=(lS c).m) _<|by simp only[lS,C.of,M.run,qS,Wh];rfl
theorem aG1 (c):(lS c).m=yK c:=Qp
def xN:=λc=>Q (x:=(vf c).m) _<|by simp only[vf,C.of,M.run,qS,aG1];rfl
theorem Me (c):(vf c).m=xN c:=Qp
def Fx:=λa x b=>Q (x:=(hX a x b).run) _<|by simp only[hX,M.run,qS];rfl
theorem aZ2 (u0 x f2):(hX u0 x f2).run=Fx u0 x f2:=Qp
def xM:=λl=>Q (x:=(lH l).m) _<|by simp only[lH,C.of,M.run,L1.m,qS,aZ2];rfl
theorem XJ (l):(lH l).m=xM l:=Qp
def Oj:=λl=>Q (x:=(rR l).m) _<|by simp only[rR,C.of,M.run,U1.m,Cl.of,qS,XJ,Me,ak7,AB];rfl
theorem RI (l):(rR l).m=Oj l:=Qp
def aL3:=λx=>Q (x:=(BK x).m) _<|by simp only[BK,C.of,M.run,qS,Wh];rfl
theorem bK8 (x):(BK x).m=aL3 x:=Qp
def Pq:=λx=>Q (x:=(vY x).m) _<|by simp only[vY,C.of,M.run,qS,bK8];rfl
theorem TK (x):(vY x).m=Pq x:=Qp
def Cz:=λc l=>Q (x:=(ve c l).m) _<|by simp only[ve,C.of,M.run,Cl.of,qS,TK,qy];rfl
theorem XL (c l):(ve c l).m=Cz c l:=Qp
def Uc:=λa bits=>Q (x:=(dY a bits).m) _<|by simp only[dY,C.of,M.run,qS];rfl
theorem cg0 (f2 bits):(dY f2 bits).m=Uc f2 bits:=Qp
def Vk:=λa=>Q (x:=(BI a).m) _<|by simp only[BI,C.of,M.run,qS];rfl
theorem bK7 (f2):(BI f2).m=Vk f2:=Qp
def GO:=λc b a=>Q (x:=(BJ c b a).m) _<|by simp only[BJ,C.of,M.run,qS,XL,cg0,bK7,Wh];rfl
theorem XM (c f2 ic):(BJ c f2 ic).m=GO c f2 ic:=Qp
def yL (a:y2)(i:Int)(_:Unit):Option<|Fl Unit Bool:=tI (y3 a.L i) λx=>tI (y3 a.G3 i) λb=>tI (GO b x a.jq) λv4=>bif !v4 then some (.ret false)else some<|.next ()
def Cy (a:y2):Option Bool:=tI (bif decide<|(a.G3.length:Int)>64then some true else tI (Q8 a.G3 xN) λv=>some v) λb2=>tI (bif b2 then some true else tI (xM a.G3) λb=>some !b) λc=>tI (bif c||(a.L.length:Int)!=(a.G3.length:Int)then some true else tI (yN a.jq 0 1073741824) λv3=>some !v3) λd=>tI (bif d then some true else some<|a.dA&&decide (a.jq<1)) λe=>bif e then some false else tI (J9 (a.L.length:Int) (yL a) ()) λ(t:Unit⊕Bool)=>match t with|.inl _=>some true|.inr r2=>some r2
theorem Fj (f2:y2):(dD f2).m=Cy f2:=by delta Cy yL;simp only[dD,IQ,C.of,M.run,L1.m,Cl.of,bg,bgo,iZ,J9,P4,XJ,XM,Wh,Me,AB]<;>kernel_rfl
def Dk:=λi a=>Q (x:=(qJ i a).run) _<|by simp only[qJ,M.run,L1.m,U1.m,qS,Mv];rfl
theorem aV8 (i f3):(qJ i f3).run=Dk i f3:=Qp
def yM:=λa=>Q (x:=(rT a).m) _<|by simp only[rT,CG.of,M.run,L1.m,Wr,qS,au1,aV8];rfl
theorem Wg (f2):(rT f2).m=yM f2:=Qp
def Fw:=λi a=>Q (x:=(hU i a).run) _<|by simp only[hU,M.run,L1.m,U1.m,qS];rfl
theorem aZ1 (i f3):(hU i f3).run=Fw i f3:=Qp
def ML:=λa=>Q (x:=(lG a).m) _<|by simp only[lG,C.of,M.run,L1.m,Wr,qS,Fj,Wg,aZ1];rfl
theorem XI (f2):(lG f2).m=ML f2:=Qp
def GN:=λl i c a frame=>Q (x:=(BH l i c a frame).m) _<|by simp only[BH,CG.of,M.run,L1.m,U1.m,qS,cg0,Mv];rfl
theorem XK (l i c ic frame):(BH l i c ic frame).m=GN l i c ic frame:=Qp
def yJ (b:y2)(i:Int)(bad:Bool)(l:List Int):Option<|y2×Int:=tI (Cy b) λv=>bif !v then some ((⟨([]:List n9),([]:List A3),0,false⟩:y2),1)else bif decide (i<0)||decide (i>=(b.L.length:Int))then some ((⟨([]:List n9),([]:List A3),0,false⟩:y2),2)else bif !b.dA then some ((⟨([]:List n9),([]:List A3),0,false⟩:y2),6)else tI (y3 b.G3 i) λx=>tI (Cz x l) λg=>bif !g then some ((⟨([]:List n9),([]:List A3),0,false⟩:y2),1)else tI (yM b) λv3=>tI (tI (y3 v3.L i) λ_=>tI (y3 v3.G3 i) λh=>some h) λ(c:n9)=>tI (bif bad then tI (y3 v3.L i) λe=>tI (fQ v3.L i ({e with s6:=ba9 c.ru<|H<|q9 e.s6 0+1}:A3)) λl2=>some l2 else tI (y3 v3.L i) λf=>tI (fQ v3.L i ({f with s6:=q9 (H<|0-c.Pass)<|H<|ba9 f.s6 0-1}:A3)) λl3=>some l3) λ(d:List A3)=>tI (y3 d i) λa=>bif a.s6==c.ru then tI (GN d i c v3.jq l) λv4=>some (({v3 with L:=v4}:y2),0)else bif a.s6==H (0-c.Pass)then tI (fQ d i ({a with C0:=P2 .i64 a.C0 8}:A3)) λl4=>tI (fQ l4 i ({a with C0:=sU .i64 (P2 .i64 a.C0 8) 1}:A3)) λj=>some (({v3 with L:=j}:y2),0)else some (({v3 with L:=d}:y2),0)
theorem Wf (a:y2)(i:Int)(bad:Bool)(l:List Int):(rS a i bad l).m=yJ a i bad l:=by simp only[rS,yJ,C.of,M.run,L1.m,U1.m,bso,iZ,Fj,Wg,XK,XL];refine ak4 λv _=>bk7 rfl<|bk7 rfl<|bk7 rfl<|ak4 λx _=>ak4 λc _=>bk7 rfl<|ak4 λv3 _=>ak4 λy b=>ak4 λd _=>?_;simp only[b,bso]
end Go.Pv
set_option maxHeartbeats 1000000
open Go.Proofs Go.Proofs.YtlbfdimlomockaaGreat
namespace Go.Pv
open Go Go.Pv.Et
open Go
def U6 {α:Type}(a:Int)(cmp:α->α->Option Int)(s2:Int×List α):Option<|Int×List α⊕Int×List α⊕Empty:=tI (bif decide (s2.1>a)then tI (y3 s2.2 s2.1) λx=>tI (y3 s2.2<|H<|s2.1-1) λb=>tI (cmp x b) λv=>some<|decide (v<0)else some false) λ(c:Bool)=>bif c then tI (tI (y3 s2.2<|H<|s2.1-1) λd=>tI (y3 s2.2 s2.1) λe=>tI (fQ s2.2 s2.1 d) λl=>tI (y3 l<|H<|s2.1-1) λ_=>tI (fQ l (H<|s2.1-1) e) λl2=>some l2) λ(f:List α)=>some<|.inl (H<|s2.1-1,f)else some<|.inr<|.inl (s2.1,s2.2)
def N0 {α:Type}(a:Int)(b2:Int)(cmp:α->α->Option Int)(s:Int×List α):Option<|Int×List α⊕Int×List α⊕Empty:=bif decide (s.1<b2)then tI (o3 (U6 a cmp) (s.1,s.2)) λ(t:Int×List α⊕Empty)=>match t with|.inl s3=>some<|.inl (H<|s.1+1,s3.2)|.inr r=>r.elim else some<|.inr<|.inl (s.1,s.2)
def T5 {α:Type}(b:List α)(a:Int)(b2:Int)(cmp:α->α->Option Int):Option<|List α:=tI (o3 (N0 a b2 cmp) (H<|a+1,b)) λ(t:Int×List α⊕Empty)=>match t with|.inl c=>some c.2|.inr r=>r.elim
def LR {α:Type}(a:Int)(b2:Int)(b:Int)(s:Int×List α):Option<|Int×List α⊕Int×List α⊕Empty:=bif decide (s.1<b)then tI (tI (y3 s.2<|H<|b2+s.1) λx=>tI (y3 s.2<|H<|a+s.1) λc=>tI (fQ s.2 (H<|a+s.1) x) λl=>tI (y3 l<|H<|b2+s.1) λ_=>tI (fQ l (H<|b2+s.1) c) λl2=>some l2) λ(d:List α)=>some<|.inl (H<|s.1+1,d)else some<|.inr<|.inl (s.1,s.2)
def wD {α:Type}(b:List α)(a:Int)(b2:Int)(c:Int)(_:α->α->Option Int):Option<|List α:=tI (o3 (LR a b2 c) (0,b)) λ(t:Int×List α⊕Empty)=>match t with|.inl s2=>some s2.2|.inr r=>r.elim
def Qx {α:Type}(a:Int)(cmp:α->α->Option Int)(s:Int×Int×List α):Option<|Int×Int×List α⊕Int×Int×List α⊕Empty:=bif s.1!=s.2.1then bif decide<|s.1>s.2.1then tI (wD s.2.2 (H<|a-s.1) a s.2.1 cmp) λv=>some<|.inl (H<|s.1-s.2.1,s.2.1,v)else tI (wD s.2.2 (H<|a-s.1) (H<|H (a+s.2.1)-s.1) s.1 cmp) λb=>some<|.inl (s.1,H<|s.2.1-s.1,b)else some<|.inr<|.inl (s.1,s.2.1,s.2.2)
def Wt {α:Type}(b:List α)(a:Int)(c:Int)(b2:Int)(cmp:α->α->Option Int):Option<|List α:=tI (o3 (Qx c cmp) (H<|c-a,H<|b2-c,b)) λ(t:Int×Int×List α⊕Empty)=>match t with|.inl s2=>tI (wD s2.2.2 (H<|c-s2.1) c s2.1 cmp) λv3=>some v3|.inr r=>r.elim
def MQ {α:Type}(b:List α)(a:Int)(cmp:α->α->Option Int)(s:Int×Int):Option<|Int×Int⊕Int×Int⊕Empty:=bif decide<|s.1<s.2then tI (y3 b<|H<|w9 .u64 (IS.wrap<|H<|s.1+s.2) 1) λx=>tI (y3 b a) λc=>tI (cmp x c) λv=>bif decide<|v<0then some<|.inl (H<|H (w9 .u64 (IS.wrap<|H<|s.1+s.2) 1)+1,s.2)else some<|.inl (s.1,H<|w9 .u64 (IS.wrap<|H<|s.1+s.2) 1)else some<|.inr<|.inl (s.1,s.2)
def MR {α:Type}(s2:Int×Int)(s3:Int×List α):Option<|Int×List α⊕Int×List α⊕Empty:=bif decide<|s3.1<H (s2.1-1)then tI (tI (y3 s3.2<|H<|s3.1+1) λa=>tI (y3 s3.2 s3.1) λb=>tI (fQ s3.2 s3.1 a) λl=>tI (y3 l<|H<|s3.1+1) λ_=>tI (fQ l (H<|s3.1+1) b) λl2=>some l2) λ(c:List α)=>some<|.inl (H<|s3.1+1,c)else some<|.inr<|.inl (s3.1,s3.2)
def MS {α:Type}(b:List α)(c:Int)(cmp:α->α->Option Int)(a:Int×Int):Option<|Int×Int⊕Int×Int⊕Empty:=bif decide<|a.1<a.2then tI (y3 b c) λd=>tI (y3 b<|H<|w9 .u64 (IS.wrap<|H<|a.1+a.2) 1) λe=>tI (cmp d e) λf=>bif !decide (f<0)then some<|.inl (H<|H (w9 .u64 (IS.wrap<|H<|a.1+a.2) 1)+1,a.2)else some<|.inl (a.1,H<|w9 .u64 (IS.wrap<|H<|a.1+a.2) 1)else some<|.inr<|.inl (a.1,a.2)
def MT {α:Type}(b:Int×Int)(a:Int×List α):Option<|Int×List α⊕Int×List α⊕Empty:=bif decide<|a.1>b.1then tI (tI (y3 a.2<|H<|a.1-1) λc=>tI (y3 a.2 a.1) λd=>tI (fQ a.2 a.1 c) λl3=>tI (y3 l3<|H<|a.1-1) λ_=>tI (fQ l3 (H<|a.1-1) d) λl4=>some l4) λ(e:List α)=>some<|.inl (H<|a.1-1,e)else some<|.inr<|.inl (a.1,a.2)
def MU {α:Type}(c:List α)(a:Int)(f:Int)(b2:Int)(cmp:α->α->Option Int)(b:Int×Int):Option<|Int×Int⊕Int×Int⊕Empty:=bif decide<|b.1<b.2then tI (y3 c<|H<|H (H (H (w9 .u64 (IS.wrap<|H<|a+b2) 1)+f)-1)-H (w9 .u64 (IS.wrap<|H<|b.1+b.2) 1)) λd=>tI (y3 c<|H<|w9 .u64 (IS.wrap<|H<|b.1+b.2) 1) λe=>tI (cmp d e) λv3=>bif !decide (v3<0)then some<|.inl (H<|H (w9 .u64 (IS.wrap<|H<|b.1+b.2) 1)+1,b.2)else some<|.inl (b.1,H<|w9 .u64 (IS.wrap<|H<|b.1+b.2) 1)else some<|.inr<|.inl (b.1,b.2)
def OZ {α:Type}(rc:List α->Int->Int->Int->(α->α->Option Int)->Option (List α))(b:List α)(a:Int)(d:Int)(b2:Int)(cmp:α->α->Option Int):Option<|List α:=bif H (d-a)==1then tI (o3 (MQ b a cmp) (d,b2)) λ(t:Int×Int⊕Empty)=>match t with|.inl s2=>(tI (o3 (MR s2) (a,b)) λ(t:Int×List α⊕Empty)=>match t with|.inl h=>some h.2|.inr r=>r.elim)|.inr r=>r.elim else bif H (b2-d)==1then tI (o3 (MS b d cmp) (a,d)) λ(t:Int×Int⊕Empty)=>match t with|.inl i=>(tI (o3 (MT i) (d,b)) λ(t:Int×List α⊕Empty)=>match t with|.inl j=>some j.2|.inr r=>r.elim)|.inr r=>r.elim else tI (bif decide<|d>H (w9 .u64 (IS.wrap<|H<|a+b2) 1)then some (H<|H (H (w9 .u64 (IS.wrap<|H<|a+b2) 1)+d)-b2,H<|w9 .u64 (IS.wrap<|H<|a+b2) 1)else some (a,d)) λ(e:Int×Int)=>tI (o3 (MU b a d b2 cmp) (e.1,e.2)) λ(t:Int×Int⊕Empty)=>match t with|.inl c=>tI (bif decide (c.1<d)&&decide (d<H (H (H (w9 .u64 (IS.wrap<|H<|a+b2) 1)+d)-c.1))then tI (Wt b c.1 d (H<|H (H (w9 .u64 (IS.wrap<|H<|a+b2) 1)+d)-c.1) cmp) λv4=>some v4 else some b) λ(f:List α)=>tI (bif decide (a<c.1)&&decide (c.1<H (w9 .u64 (IS.wrap<|H<|a+b2) 1))then tI (rc f a c.1 (H<|w9 .u64 (IS.wrap<|H<|a+b2) 1) cmp) λv5=>some v5 else some f) λ(g:List α)=>bif decide (H (w9 .u64 (IS.wrap<|H<|a+b2) 1)<H (H (H (w9 .u64 (IS.wrap<|H<|a+b2) 1)+d)-c.1))&&decide (H (H (H (w9 .u64 (IS.wrap<|H<|a+b2) 1)+d)-c.1)<b2)then tI (rc g (H<|w9 .u64 (IS.wrap<|H<|a+b2) 1) (H<|H (H (w9 .u64 (IS.wrap<|H<|a+b2) 1)+d)-c.1) b2 cmp) λk=>some k else some g|.inr r=>r.elim
def yO {α:Type}:Nat->List α->Int->Int->Int->(α->α->Option Int)->Option (List α)|0=>λ_ _ _ _ _=>none|fu+1=>OZ<|yO fu
def wB {α:Type}(a:Int)(cmp:α->α->Option Int)(s:Int×Int×List α):Option<|Int×Int×List α⊕Int×Int×List α⊕Empty:=bif decide (s.2.1<=a)then tI (T5 s.2.2 s.1 s.2.1 cmp) λv=>some<|.inl (s.2.1,H<|s.2.1+20,v)else some<|.inr<|.inl (s.1,s.2.1,s.2.2)
def Qy {α:Type}(b:Int)(cmp:α->α->Option Int)(s3:Int×List α)(a:Int×Int×List α):Option<|Int×Int×List α⊕Int×Int×List α⊕Empty:=bif decide (a.2.1<=b)then tI (yO 64 a.2.2 a.1 (H<|a.1+s3.1) a.2.1 cmp) λv3=>some<|.inl (a.2.1,H<|a.2.1+H (2*s3.1),v3)else some<|.inr<|.inl (a.1,a.2.1,a.2.2)
def wC {α:Type}(b:Int)(cmp:α->α->Option Int)(s3:Int×List α):Option<|Int×List α⊕Int×List α⊕Empty:=bif decide (s3.1<b)then tI (o3 (Qy b cmp s3) (0,H<|2*s3.1,s3.2)) λ(t:Int×Int×List α⊕Empty)=>match t with|.inl a=>bif decide (H (a.1+s3.1)<b)then tI (yO 64 a.2.2 a.1 (H<|a.1+s3.1) b cmp) λv4=>some<|.inl (H<|s3.1*2,v4)else some<|.inl (H<|s3.1*2,a.2.2)|.inr r=>r.elim else some<|.inr<|.inl (s3.1,s3.2)
def Dl {α:Type}(a:List α)(b:Int)(cmp:α->α->Option Int):Option<|List α:=tI (o3 (wB b cmp) (0,20,a)) λ(t:Int×Int×List α⊕Empty)=>match t with|.inl s2=>(tI (T5 s2.2.2 s2.1 b cmp) λc=>tI (o3 (wC b cmp) (20,c)) λ(t:Int×List α⊕Empty)=>match t with|.inl d=>some d.2|.inr r=>r.elim)|.inr r=>r.elim
def sX {α:Type}(x:List α)(cmp:α->α->Option Int):Option<|List α:=tI (Dl x (x.length:Int) cmp) λv=>some v
section
variable {α β:Type}
theorem MV (P:List α)(x:α)(R:List α){i:Int}(h:i=(P.length:Int)):y3 (P++x::R) i=some x:=by simp_all[B3]
theorem ZY (P:List α)(x y:α)(R:List α){i:Int}(h:i=(P.length:Int)):fQ (P++x::R) i y=some (P++y::R):=by simp_all[D4]
def cK4 (P:List α)(x y:α)(Q:List α){i j:Int}(hi:i=(P.length:Int))(a:j=(P.length:Int)+1)(k:List α->Option β):tI (tI (y3 (P++x::y::Q) i) λu=>tI (y3 (P++x::y::Q) j) λv=>tI (fQ (P++x::y::Q) j u) λl=>tI (y3 l i) λ_=>tI (fQ l i v) λl2=>some l2) k=k (P++y::x::Q):=by
 have e:∀z w:α,P++z::w::Q=P++[z]++w::Q:=λz w=>by simp
 have g1:y3 (P++x::y::Q) j=some y:=by grind [MV]
 have s1:fQ (P++x::y::Q) j x=some (P++x::x::Q):=by grind [ZY]
 grind [MV,ZY]
end
section
variable {α:Type}{D:α->Prop}{g:α->α->Option Int}
structure SW (D:α->Prop)(g:α->α->Option Int):Prop where
 ans:∀x y,D x->D y->∃c,g x y=some c
 asym:∀x y,D x->D y->EI g x y=true->EI g y x=false
 ntrans:∀x y z,D x->D y->D z->EI g x y=false->EI g y z=false->EI g x z=false
def SW.cmp (h:SW D g){x y:α}(hx:D x)(a:D y):∃c,g x y=some c/\decide (c<0)=EI g x y:=by obtain⟨c,b⟩:=h.ans x y hx a;grind [EI]
abbrev Lx (D:α->Prop)(l:List α):Prop:=∀x∈l,D x
def eqv (g:α->α->Option Int)(x y:α):Bool:=!EI g x y&&!EI g y x
structure LX (D:α->Prop)(g:α->α->Option Int)(l r:List α):Prop where
 perm:r.Perm l
 same:∀x,D x->r.filter (eqv g x)=l.filter (eqv g x)
abbrev Srt (g:α->α->Option Int)(l:List α):Prop:=l.Pairwise λx y=>EI g y x=false
theorem LX.refl (l:List α):LX D g l l:=⟨.refl _,λ_ _=>rfl⟩
theorem LX.trans {l r s:List α}(h:LX D g l r)(k:LX D g r s):LX D g l s:=⟨k.perm.trans h.perm,λx hx=>(k.same x hx).trans<|h.same x hx⟩
def LX.app {A a B b:List α}(h:LX D g A a)(k:LX D g B b):LX D g (A++B)<|a++b:=⟨h.perm.append k.perm,λx hx=>by rw[bO6,bO6,h.same x hx,k.same x hx]⟩
theorem LX.len {l r:List α}(h:LX D g l r):r.length=l.length:=h.perm.length_eq
theorem LX.all {l r:List α}(h:LX D g l r)(a:Lx D l):Lx D r:=λx hx=>a x<|h.perm.mem_iff.1 hx
def LX.swap (e:SW D g){A B:List α}(f:Lx D A)(i:Lx D B)(h:∀a∈A,∀b∈B,EI g b a=true):LX D g (A++B)<|B++A:=by
 refine⟨List.perm_append_comm,λx hx=>?_⟩;by_cases j:∃a∈A,eqv g x a=true
 ·obtain⟨a,k,c⟩:=j;have:B.filter (eqv g x)=[]:=by rw[cu9];intro b l d;unfold eqv at c d;simp[BY,nW]at c d;have:=e.ntrans b x a (i b l) hx (f a k) d.2 c.1;grind
  grind
 grind [cu9]
def Srt.app {A B:List α}(c:Srt g A)(d:Srt g B)(h:∀a∈A,∀b∈B,EI g b a=false):Srt g<|A++B:=cu5.2 ⟨c,d,h⟩
theorem SW.irr (a:SW D g){x:α}(hx:D x):EI g x x=false:=by cases h:EI g x x;rfl;have:=a.asym x x hx hx h;grind
def bx0 (o:SW D g)(a:Int):∀(n:Nat)(R1:List α),R1.length=n->∀(P:List α)(x:α)(b Q:List α),a=(P.length:Int)->Lx D R1->D x->Lx D b->Srt g (R1++b)->(∀r∈b,EI g x r=true)->P.length+R1.length<=1073741824->∃(j:Int)(R':List α),o3 (U6 a g) ((P.length:Int)+(R1.length:Int),P++(R1++x::(b++Q)))=some (.inl (j,P++(R'++Q)))/\Srt g R'/\LX D g (R1++x::b) R':=by
 intro n;induction n with|zero=>
  intro R1 h1 P x b Q B _ hx f e k E;have:R1=[]:=List.length_eq_zero_iff.1 h1;subst this;refine⟨(P.length:Int)+((0:Nat):Int),x::b,j3 ?_,?_,LX.refl _⟩;·grind [U6]
  ·rw[Srt,ba8];exact⟨λr l=>o.asym x r hx (f r l)<|k r l,by grind⟩|succ n I=>
  intro R1 h1 P x b Q B s hx f e k E;have t:R1≠[]:=by intro h;subst h;simp at h1
  obtain⟨S,y,rfl⟩:∃S y,R1=S++[y]:=⟨R1.dropLast,R1.getLast t,(List.dropLast_concat_getLast t).symm⟩;have u:D y:=s y sq;have C:Lx D S:=λz hz=>s z (by simp[hz]);obtain⟨c,J,A⟩:=o.cmp hx u;have e1:P++(S++[y]++x::(b++Q))=P++S++y::x::(b++Q):=by simp
  have e2:P++(S++[y]++x::(b++Q))=P++S++[y]++x::(b++Q):=by simp
  have K:(P.length:Int)+(((S++[y]).length:Nat):Int)=(P.length:Int)+(S.length:Int)+1:=by rw[IT,cX9];omega
  have v:U6 a g ((P.length:Int)+(((S++[y]).length:Nat):Int),P++(S++[y]++x::(b++Q)))=some (bif EI g x y then .inl ((P.length:Int)+(S.length:Int),P++(S++x::(y::b++Q)))else .inr<|.inl ((P.length:Int)+(S.length:Int)+1,P++(S++[y]++x::(b++Q)))):=by
   unfold U6;simp only;rw[K,b6 F F,show(P.length:Int)+(S.length:Int)+1-1=(P.length:Int)+(S.length:Int)by omega];rw[cU0 F];have g1:y3 (P++(S++[y]++x::(b++Q))) ((P.length:Int)+(S.length:Int)+1)=some x:=by rw[e2];exact MV _ _ _<|by simp only[IT,cX9];omega
   have g2:y3 (P++(S++[y]++x::(b++Q))) ((P.length:Int)+(S.length:Int))=some y:=by rw[e1];exact MV _ _ _<|by simp only[IT];omega
   have sw:=cK4 (P++S) y x (b++Q) (i:=(P.length:Int)+(S.length:Int)) (j:=(P.length:Int)+(S.length:Int)+1) (by simp only[IT];omega) (by simp only[IT];omega) λ(L:List α)=>some (df6 ((P.length:Int)+(S.length:Int),L):Int×List α⊕Int×List α⊕Empty);rw[<-e1]at sw;simp only[cT9];rw[sw,g1,oq,g2,oq,J,oq,A,oq];cases EI g x y;·rfl
   ·simp
  cases d:EI g x y
  ·rw[d]at v;refine⟨(P.length:Int)+(S.length:Int)+1,S++[y]++x::b,?_,?_,LX.refl _⟩;·rw[j3 v];simp
   ·have w:=cu5.1 e;refine Srt.app w.1 ?_ λp hp q m=>?_;·rw[Srt,ba8];exact⟨λr l=>o.asym x r hx (f r l)<|k r l,w.2.1⟩
    ·rcases cV6.1 m with rfl|m
     ·rcases bX2.1 hp with hp|hp;·have M:=(cu5.1 w.1).2.2 p hp y sq;exact o.ntrans q y p hx u (C p hp) d M
      ·rw[List.mem_singleton]at hp;subst hp;exact d
     ·exact w.2.2 p hp q m
  ·rw[d]at v;rw[j7 v];obtain⟨j,R',r1,r2,r3⟩:=I S F P x (y::b) Q B C hx (λz hz=>by rcases cV6.1 hz with rfl|hz;exact u;exact f z hz) (by simpa using e) (λr l=>by
    rcases cV6.1 l with rfl|l;·exact d
    ·exact k r l) F;refine⟨j,R',r1,r2,LX.trans ?_ r3⟩;have N:LX D g ([y]++[x])<|[x]++[y]:=LX.swap o (λz hz=>by simp at hz;subst hz;exact u) (λz hz=>by simp at hz;subst hz;exact hx) (λp hp q m=>by simp at hp m;subst hp;subst m;exact d);have O:=LX.app (LX.refl (D:=D) (g:=g) S)<|LX.app N<|LX.refl b;simpa using O
def an4 (f:SW D g)(a b:Int)(P Q:List α)(h:a=(P.length:Int)):∀(T R:List α),b=(P.length:Int)+(R.length:Int)+(T.length:Int)->Lx D R->Lx D T->Srt g R->P.length+R.length+T.length<=1073741824->∃c,o3 (N0 a b g) ((P.length:Int)+(R.length:Int),P++(R++(T++Q)))=some (.inl (b,P++(c++Q)))/\Srt g c/\LX D g (R++T) c
 |[],R,i,_,_,k,_=>by grind [j3,LX.refl,N0]|x::T,R,i,l,d,k,m=>by
  simp[cU9]at i m;obtain⟨j,R1,r1,r2,r3⟩:=bx0 f a R.length R rfl P x [] (T++Q) h l (d x<|cV7 ..) (λz hz=>by cases hz) (by rw[iy];exact k) (λz hz=>by cases hz) F;have n:R1.length=R.length+1:=by have:=r3.len;simpa using this
  obtain⟨c,s1,s2,s3⟩:=an4 f a b P Q h T R1 F (r3.all λz hz=>by rcases bX2.1 hz with hz|hz;exact l z hz;simp at hz;subst hz;exact d z sq) (λz hz=>d z<|by simp[hz]) r2 F;refine⟨c,?_,s2,LX.trans ?_ s3⟩;rw[<-s1];refine j7 ?_;unfold N0;rw[cU0 F,b6 F F];simp only;have e:P++(R++(x::T++Q))=P++(R++x::([]++(T++Q))):=by simp
  rw[e,r1];simp[oq];rw[n,show P.length+(R.length+1:Nat)=(P.length:Int)+R.length+1 by omega];have:=LX.app r3<|LX.refl T;simpa using this
def aw6 (c:SW D g)(P A Q:List α){a b:Int}(d:a=(P.length:Int))(f:b=(P.length:Int)+(A.length:Int))(e:Lx D A)(h:P.length+A.length<=1073741824):∃R,T5 (P++(A++Q)) a b g=some (P++(R++Q))/\Srt g R/\LX D g A R:=by
 unfold T5;rw[b6 F F]
 cases A with|nil=>
  refine⟨[],?_,.nil,LX.refl _⟩;have:N0 a b g (a+1,P++([]++Q))=some (.inr<|.inl (a+1,P++([]++Q))):=by grind [N0]
  rw[j3 this];rfl|cons x T=>obtain⟨i,s1,s2,s3⟩:=an4 c a b P Q d T [x] gq λz hz=>by grind (λz hz=>e z<|by simp[hz]) sq gq;simp_all
end
section
variable {α:Type}{D:α->Prop}{g:α->α->Option Int}
end
section
variable {α:Type}{D:α->Prop}{g:α->α->Option Int}
end
section
variable {α:Type}{D:α->Prop}{g:α->α->Option Int}
structure cR3 (D:α->Prop)(g:α->α->Option Int)(bs:Nat)(L:List α)(Bs:List<|List α)(T:List α):Prop where
 eq:L=Bs.flatten++T
 ny:∀B∈Bs,B.length=bs/\Srt g B
 rest:T.length<bs
theorem OE (c:SW D g)(l:List α)(d:Lx D l)(e:l.length<=19):∃r,sX l g=some r/\Srt g r/\LX D g l r:=by
 obtain⟨R,r1,r2,r3⟩:=aw6 c [] l [] (a:=0) (b:=(l.length:Int)) rfl sq d (by simp;omega);simp only[iy,List.nil_append]at r1;unfold sX Dl;have h1:decide ((20:Int)<=(l.length:Int))=false:=by simp;omega
 have f:decide ((20:Int)<(l.length:Int))=false:=by simp;omega
 rw[j3 (b:=.inl (0,20,l))<|by unfold wB;rw[h1];rfl];simp only[oq];rw[r1];simp only[oq];rw[j3 (b:=.inl (20,R))<|by unfold wC;rw[f];rfl];exact⟨R,rfl,r2,r3⟩
theorem aT6 (a:SW D g):∀{r s:List α},Lx D r->Lx D s->Srt g r->Srt g s->(∀x,D x->r.filter (eqv g x)=s.filter (eqv g x))->r=s
 |[],[],_,_,_,_,_=>rfl|[],y::s,_,ds,_,_,h=>by have c:=ds y sq;have:=h y c;rw[dd7<|by unfold eqv;rw[a.irr c];rfl]at this;cases this|x::r,[],dr,_,_,_,h=>by have b:=dr x sq;have:=h x b;rw[dd7<|by unfold eqv;rw[a.irr b];rfl]at this;cases this|x::r,y::s,dr,ds,d,f,h=>by
  have b:=dr x sq;have c:=ds y sq;have i:eqv g x x=true:=by unfold eqv;rw[a.irr b];rfl
  have n:eqv g y y=true:=by unfold eqv;rw[a.irr c];rfl
  rw[Srt,ba8]at d f;have hx:=h x b;have o:x∈(y::s).filter (eqv g x):=by grind
  have p:y∈(x::r).filter (eqv g y):=by grind
  have j:=(de0.1 o).1;have k:=(de0.1 p).1;have l:eqv g x y=true:=by
   have q:EI g x y=false:=by rcases cV6.1 j with e|j;rw[e];exact a.irr c;exact f.1 x j
   have t:EI g y x=false:=by rcases cV6.1 k with e|k;rw[e];exact a.irr b;exact d.1 y k
   unfold eqv;rw[q,t];rfl
  have m:x=y:=by rw[dd7 i,dd7 l]at hx;exact(List.cons.inj hx).1
  subst m;rw[aT6 a (λz hz=>dr z<|by simp[hz]) (λz hz=>ds z<|by simp[hz]) d.2 f.2 λz u=>by have:=h z u;rw[dc3,dc3]at this;split at this;exact(List.cons.inj this).2;exact this]
end
def Sb (n:Int):Bool:=decide (n>=-1073741824)&&decide (n<=1073741824)
theorem Kl (n:Int):DF n=some (Sb n):=rfl
theorem bP6 (n:Int):Bb n=some !Sb n:=by unfold Bb Sb Q;rw[AI,zc];simp
def axP (l:List Int)(i:Nat):Bool:=match l[i]?with|none=>false|some x=>Sb x&&(i==0||match l[i-1]?with|none=>false|some y=>decide<|y<x)
def Tw (l:List Int):Bool:=!(decide ((l.length:Int)<2)||decide ((l.length:Int)>32))&&(cX1 0 l.length).all (axP l)
theorem ac4 (k:Nat)(h:k<1000000):H (((k+1:Nat):Int)-1)=(k:Int):=by grind [b6]
theorem Y8 (k:Nat)(h:k<9000000000000000000):H ((k:Int)+1)=((k+1:Nat):Int):=by grind [b6]
theorem obs {α:Type}(o:Option α):(o.bind λb=>some b)=o:=by simp
def Tx (l:List Int)(j:Nat)(a:j<l.length)(d:l.length<=32):(tI (y3 l j) λx=>tI (DF x) λv=>tI (bif !v then some true else tI (bif decide<|(j:Int)>0then tI (y3 l<|H<|j-1) λb=>some<|decide (x<=b)else some false) λb2=>some b2) λc=>some c)=some !axP l j:=by rw[B3,IN a];simp only[oq,Kl];unfold axP;rw[IN a];simp only;cases Sb l[j];rfl;simp only[AT,cT8,cV0];cases j with|zero=>rfl|succ k=>
  have e:decide (((k+1:Nat):Int)>0)=true:=by simp
  have hk:k<l.length:=by omega
  rw[e,ac4 k F,B3,IN hk];grind
theorem bj7 (l:List Int):Ld l=some (Tw l):=by
 unfold Ld Tw Q;cases h:decide ((l.length:Int)<2)||decide ((l.length:Int)>32);have a:l.length<=32:=by simp at h;omega
 have k:=Gi (f:=DD l) (p:=axP l) (r:=false) l.length 0 (λj _ b=>by have s:=Tx l j F a;unfold DD Q;rw[B3,IN F]at s|-;simp only[oq,Kl]at s|-;simp only[obs]at s|-;rw[s];cases axP l j<;>rfl);rw[U2 _ F];rw[show((0:Nat):Int)=0 from rfl]at k;rw[k];cases(cX1 0 l.length).all<|axP l<;>rfl;rfl
theorem ZF (l:List Int):zt l=some (Tw l):=by
 unfold zt Tw Q;cases h:decide ((l.length:Int)<2)||decide ((l.length:Int)>32);have a:l.length<=32:=by simp at h;omega
 have k:=tM (mb:=kY l) (λi=>(i:Int)) (p:=axP l) (b0:=.inl (l.length:Int)) (b1:=.inr false) l.length (by simp[kY,Q]) (λj b=>by
  have s:=Tx l j F a;unfold kY Q;have e:decide ((j:Int)<(l.length:Int))=true:=by simp;omega
  rw[e];rw[B3,IN F]at s|-;simp only[oq,Kl,bP6,cT9]at s|-;simp only[obs]at s|-;rw[s,Y8 j F];cases axP l j<;>rfl);rw[show((0:Nat):Int)=0 from rfl]at k;rw[k];cases(cX1 0 l.length).all<|axP l<;>rfl;rfl
def bE2 (z:Int):wq z=some !Sb z:=rfl
theorem contains_eq (l:List Int)(a:l.length<=9223372036854775807):G1 l wq=some (l.any λz=>!Sb z):=W2 l a wq _ λy _=>bE2 y
def cX (m:SMap)(x:List Int):Bool:=!(x.length:Int)!=(m.Y.length:Int)&&!x.any λz=>!Sb z
def sx (m:SMap):Bool:=Tw m.X&&Tw m.Y&&!(m.Z.length:Int)!=(m.X.length:Int)&&m.Z.all (cX m)
def Ei {l:List Int}(h:Tw l=true):2<=l.length/\l.length<=32:=by grind [Tw]
theorem aN (m:SMap):Ic m=some (sx m):=by
 unfold Ic sx Q;rw[bj7,bj7];simp only[oq];cases h1:Tw m.X;rfl;cases a:Tw m.Y;rfl;have l1:=Ei h1;have l2:=Ei a;simp only[AT,cT8,oq,db8,dd8,cV0];cases b:(m.Z.length:Int)!=(m.X.length:Int);have l3:m.Z.length=m.X.length:=by simp at b;omega
 rw[B5 _ F,Lb (p:=cX m) (r:=false)];simp only[cT8,cV8,cV0,oq];cases m.Z.all<|cX m<;>rfl;intro i y d;unfold Jm cX Q;cases c:(y.length:Int)!=(m.Y.length:Int);have l4:y.length=m.Y.length:=by simp at c;omega
 rw[contains_eq y F];simp only[cT8,oq,cV8,cV0];cases y.any λz=>!Sb z<;>rfl;rfl;rfl
theorem yj (m:SMap):wZ m=some (sx m):=by
 unfold wZ sx Q;rw[ZF,ZF];simp only[oq];cases h1:Tw m.X;rfl;cases b:Tw m.Y;rfl;have l1:=Ei h1;have l2:=Ei b;simp only[AT,cT8,oq,db8,dd8,cV0];cases c:(m.Z.length:Int)!=(m.X.length:Int);have l3:m.Z.length=m.X.length:=by simp at c;omega
 have k:=lL (mb:=jc m) (λi=>(i:Int)) (p:=cX m) (b0:=.inl (m.Z.length:Int)) (b1:=.inr false) m.Z (by simp[jc,Q]) (λj y a=>by
  have f:=(No.1 a).1;unfold jc cX Q;have e:decide ((j:Int)<(m.Z.length:Int))=true:=by simp;omega
  rw[e,B3,a];simp only[oq,cT9];cases d:(y.length:Int)!=(m.Y.length:Int);have l4:y.length=m.Y.length:=by simp at d;omega
  have k2:=lL (mb:=jd m y) (λi=>(i:Int)) (p:=Sb) (b0:=.inl (y.length:Int)) (b1:=.inr false) y (by simp[jd,l4,Q]) (λi x hx=>by
   have hi:=(No.1 hx).1;unfold jd Q;have e:decide ((i:Int)<(m.Y.length:Int))=true:=by simp;omega
   rw[e,B3,hx];simp only[oq,cT9,bP6];rw[Y8 i F];cases Sb x<;>rfl);rw[show((0:Nat):Int)=0 from rfl]at k2;rw[k2,Y8 j F];have e2:(y.any λz=>!Sb z)=!y.all Sb:=by rw[dc8];simp
  rw[e2];cases y.all Sb<;>rfl;rfl);rw[show((0:Nat):Int)=0 from rfl]at k;rw[k];simp only[cT8,cV8,cV0,oq];cases m.Z.all<|cX m<;>rfl;rfl
structure Eb (l:List Int):Prop where
 two:2<=l.length
 most:l.length<=32
 el:∀i (h:i<l.length),-1073741824<=l[i]/\l[i]<=1073741824
 asc:∀i (h:i+1<l.length),l[i]<l[i+1]
def WJ {l:List Int}(h:Tw l=true):Eb l:=by obtain⟨a,b⟩:=Ei h;unfold Tw at h;rw[BY,cV2]at h;have hp:∀i (hi:i<l.length),axP l i=true:=λi hi=>h.2 i gq;refine⟨a,b,λi hi=>?_,λi hi=>?_⟩;all_goals grind [axP,Sb]
def Eb.lt {l:List Int}(h:Eb l):∀(j i:Nat)(a:j<l.length)(hi:i<j),l[i]<l[j]
 |0,_,_,hi=>absurd hi F|j+1,i,a,hi=>by
  rcases db7 i j with h1|h1;exact Int.lt_trans (h.lt j i F h1)<|h.asc j a;have:i=j:=by omega
  subst this;exact h.asc i a
theorem Eb.le {l:List Int}(h:Eb l)(j i:Nat)(a:j<l.length)(hi:i<=j):l[i]<=l[j]:=by rcases db7 i j with h1|h1;exact Int.le_of_lt<|h.lt j i a h1;grind
def lim (l:List Int)(x:Int):Int:=min (max x<|l.headD 0)<|l.getLastD 0
theorem On (l:List Int)(h:0<l.length):l.headD 0=l[0]:=by cases l with|nil=>simp at h|cons a l=>rfl
theorem Ew (l:List Int)(h:0<l.length):l.getLastD 0=l[l.length-1]:=by grind
def bc8 {l:List Int}(h:Eb l)(x:Int):l.headD 0<=lim l x/\lim l x<=l.getLastD 0:=by have a:=h.two;have:=h.le (l.length-1) 0 F F;grind [lim,On]
def jL (l:List Int)(v:Int)(i:Nat):Prop:=∃h:i+1<l.length,l[i]<=v/\v<=l[i+1]/\(i+2=l.length\/v<l[i+1])
theorem jL.uniq {l:List Int}(h:Eb l){v:Int}{i j:Nat}(a:jL l v i)(b:jL l v j):i=j:=by obtain⟨hi,c,d,a3⟩:=a;obtain⟨e,b1,b2,f⟩:=b;rcases Nat.lt_trichotomy i j with h1|h1|h1;have:=h.le j (i+1) F F;omega;exact h1;have:=h.le i (j+1) F F;omega
def nd (l:List Int)(i:Nat):Int:=l.getD i 0
def zz (m:SMap)(i j:Nat):Int:=(m.Z.getD i []).getD j 0
theorem E0 {l:List Int}{i:Nat}(h:i<l.length):nd l i=l[i]:=by grind [nd]
theorem Rk {m:SMap}{i j:Nat}(h:i<m.Z.length)(a:j<m.Z[i].length):zz m i j=m.Z[i][j]:=by grind [zz]
structure Xn (m:SMap):Prop where
 x:Eb m.X
 y:Eb m.Y
 zl:m.Z.length=m.X.length
 rl:∀i (h:i<m.Z.length),m.Z[i].length=m.Y.length
 el:∀i j,i<m.X.length->j<m.Y.length->-1073741824<=zz m i j/\zz m i j<=1073741824
def DZ {m:SMap}(h:sx m=true):Xn m:=by
 unfold sx at h;simp only[BY,nW,cV2]at h;obtain⟨⟨⟨hx,a⟩,hz⟩,c⟩:=h;have b:m.Z.length=m.X.length:=by grind
 have len:∀r∈m.Z,r.length=m.Y.length/\∀z∈r,-1073741824<=z/\z<=1073741824:=by grind [cX,Sb]
 refine⟨WJ hx,WJ a,b,λi hi=>(len _<|al8 hi).1,λi j hi d=>?_⟩;grind [al8,Rk]
theorem bj6 {l:List Int}:Tw l=true↔Eb l:=by
 refine⟨WJ,λh=>?_⟩;have d:=h.two;have f:=h.most;unfold Tw;rw[BY,cV2];refine⟨by simp;omega,λi hi=>?_⟩;rw[df8]at hi;obtain⟨j,b,rfl⟩:=hi;have c:0+1*j=j:=by omega
 rw[c];unfold axP;rw[IN b];have e:=h.el j b;cases j with|zero=>simp[Sb];omega|succ k=>have a:=h.asc k b;grind [Sb]
theorem xK {a b:Bool}(h:a=true↔b=true):a=b:=zc.2 h
theorem dB (l:List Int)(a:l.length<=9223372036854775807)(f:Int->Option Bool)(p:Int->Bool)(h:∀y∈l,f y=some (p y)):G1 l f=some (l.any p):=W2 l a f p h
theorem bP5 (n:Int):IB n=some !Sb n:=by unfold IB Sb Q;rw[AI,zc];simp
theorem bL9 (l:List Int):Ql l=some (Tw l):=by
 unfold Ql Q;cases h:decide ((l.length:Int)<2)||decide ((l.length:Int)>32);have d:2<=l.length/\l.length<=32:=by grind
 rw[cT8,dB l F IB _ λy _=>bP5 y];simp only[oq];cases b:l.any λn=>!Sb n;have a:∀i (hi:i<l.length),-1073741824<=l[i]/\l[i]<=1073741824:=λi hi=>by rw[cH5]at b;have:=b _<|al8 hi;simp[Sb]at this;omega
 have e:H ((l.length:Int)-1)=((l.length-1:Nat):Int):=by rw[b6 F F];omega
 have k:=Gi (f:=HF l) (p:=λj=>decide<|nd l j<nd l (j+1)) (r:=false) (l.length-1) 0 (λj _ g=>by unfold HF Q;rw[b6 F F,show(j:Int)+1=((j+1:Nat):Int)from rfl,j2 l j F,oq,j2 l (j+1) F,oq,E0 F,E0 F];by_cases q:l[j]<l[j+1];rw[cU0 q,cU1 F];rfl;rw[cU1 q,cU0 F];rfl);rw[show((0:Nat):Int)=0 from rfl]at k;rw[cT8,e,U2 _ F,k];have:((cX1 0<|l.length-1).all λj=>decide<|nd l j<nd l (j+1))=Tw l:=by apply xK;rw[bj6,cV2];constructor;intro q;refine⟨d.1,d.2,a,λi hi=>?_⟩;have:=q i (by rw[df8];exact⟨i,by omega,by omega⟩);rw[dg1,E0 F,E0 hi]at this;exact this;intro q i hi;rw[df8]at hi;obtain⟨j,g,rfl⟩:=hi;rw[show 0+1*j=j by omega,dg1,E0 F,E0 F];exact q.asc j F
 rw[this];cases Tw l<;>rfl;have:Tw l=false:=by cases q:Tw l;rfl;have:=(bj6.1 q).el;rw[List.any_eq_true]at b;obtain⟨z,hz,c⟩:=b;obtain⟨i,hi,rfl⟩:=Kz.1 hz;have:=this i hi;simp[Sb]at c;omega
 rw[this];rfl;grind [Tw]
def mU (c:R7):Bool:=(c.X.length:Int)==(c.Y.length:Int)&&Tw c.X&&!c.Y.any λn=>!Sb n
theorem dW (c:R7):MF c=some (mU c):=by
 unfold MF mU Q;cases h:(c.X.length:Int)==(c.Y.length:Int);rfl;rw[cT9,bL9];simp only[oq,cV0];cases a:Tw c.X;rfl;have:=Ei a;have b:c.Y.length=c.X.length:=by grind
 rw[cT9,dB c.Y F IB _ λy _=>bP5 y];rfl
structure bi9 (c:R7):Prop where
 x:Eb c.X
 yl:c.Y.length=c.X.length
 el:∀i,i<c.X.length->-1073741824<=nd c.Y i/\nd c.Y i<=1073741824
theorem uV {c:R7}(h:mU c=true):bi9 c:=by
 unfold mU at h;simp only[BY,nW,cH5]at h;obtain⟨⟨h1,a⟩,d⟩:=h;have b:c.Y.length=c.X.length:=by grind
 refine⟨WJ a,b,λi hi=>?_⟩;grind [E0,al8,Sb]
def Ym {mb:Int->Option (Int⊕Int⊕Bool)}(bad:Nat->Bool):∀(k:Nat),(∀i:Nat,i<k->mb ((i+1:Nat):Int)=some (bif bad i then .inr (.inr false)else .inl (i:Int)))->(∀i:Int,i<=0->mb i=some (.inr<|.inl i))->∃t:Int⊕Bool,o3 mb (k:Int)=some t/\(match t with|.inl _=>∀i,i<k->bad i=false|.inr r=>r=false/\∃i,i<k/\bad i=true)|0,_,h0=>⟨.inl 0,j3<|h0 0<|QA _,λi hi=>absurd hi F⟩|k+1,h,h0=>by have h1:=h k F;cases c:bad k;rw[c]at h1;obtain⟨t,a,b⟩:=Ym bad k (λi hi=>h i F) h0;grind [j7];rw[c]at h1;exact⟨.inr false,j3 h1,rfl,k,by omega,c⟩
def JK (l:List Int):Bool:=(cX1 0<|l.length-1).all λj=>decide<|nd l j<=nd l (j+1)
def DL (l:List Int):Bool:=(cX1 0<|l.length-1).all λj=>decide<|nd l (j+1)<=nd l j
theorem tP {n:Nat}{p:Nat->Bool}:(cX1 0 n).all p=true↔∀i,i<n->p i=true:=by simp
theorem Zt {l:List Int}(h:l.length<=9223372036854775807)(h0:0<l.length):H ((l.length:Int)-1)=((l.length-1:Nat):Int):=by grind [b6]
theorem Vu (l:List Int)(h:l.length<=9223372036854775807):sM l=some (JK l):=by
 have h0:∀i:Int,i<=0->aL l i=some (.inr<|.inl i):=λi hi=>by grind [aL,Q]
 unfold sM Q;rcases cz3 l.length with hz|hz;have e:H ((l.length:Int)-1)=-1:=by rw[hz];decide
 simp_all[j3,JK];rw[Zt h hz];obtain⟨t,a,b⟩:=Ym (mb:=aL l) (λi=>decide<|nd l (i+1)<nd l i) (l.length-1) λi hi=>by unfold aL Q;rw[cU0 F,cT9,j2 l (i+1) F,oq,b6 F F,show((i+1:Nat):Int)-1=(i:Int)by omega,j2 l i F,oq,E0 F,E0 F];grind [cmp_Less_int,cmp_isNaN_int,Q] h0;rw[a];cases t with|inl i=>simp_all[JK]|inr r=>
  obtain⟨rfl,i,hi,q⟩:=b;have:JK l=false:=by cases z:JK l;rfl;have:=tP.1 z i hi;grind
  grind
theorem an5 (l:List Int)(h:l.length<=9223372036854775807)(c:∀i,i<l.length->-1073741824<=nd l i/\nd l i<=1073741824):Y7 l nv=some (DL l):=by
 have h0:∀i:Int,i<=0->L3 l nv i=some (.inr<|.inl i):=λi hi=>by grind [L3]
 unfold Y7;rcases cz3 l.length with hz|hz;have e:H ((l.length:Int)-1)=-1:=by rw[hz];decide
 simp_all[j3,DL];rw[Zt h hz];obtain⟨t,a,b⟩:=Ym (mb:=L3 l nv) (λi=>decide<|nd l i<nd l (i+1)) (l.length-1) λi hi=>by unfold L3;rw[cU0 F,cT9,j2 l (i+1) F,oq,b6 F F,show((i+1:Nat):Int)-1=(i:Int)by omega,j2 l i F,oq,<-E0 F,<-E0 F];grind [nv,Q,b6] h0;rw[a];cases t with|inl i=>simp_all[DL]|inr r=>
  obtain⟨rfl,i,hi,q⟩:=b;have:DL l=false:=by cases z:DL l;rfl;have:=tP.1 z i hi;grind
  grind
def E6 (lo hi x:Int):Bool:=decide (x>=lo)&&decide (x<=hi)
theorem Zm (l:List Int)(h:l.length<=9223372036854775807)(lo hi:Int):Gp l lo hi=some !l.all (E6 lo hi):=by unfold Gp Q;rw[dB l h (λa=>Jr a lo hi) (λx=>!E6 lo hi x) λy _=>rfl];grind
def lQ (t:j1):Bool:=sx t.j4&&mU t.p8&&t.p8.Y.all (E6 0 1000)&&DL t.p8.Y&&t.j4.Z.all λr=>r.all (E6 0 10000)&&JK r
theorem DH (t:j1):Le t=some (lQ t):=by unfold Le lQ Q;rw[aN];cases h1:sx t.j4;rfl;have a:=DZ h1;simp only[oq,AT,cT8,cV0,dW];cases c:mU t.p8;rfl;have b:=uV c;have l1:=b.x.most;have l2:=b.yl;simp only[oq,AT,cT8,cV0];rw[Zm _ F];cases e:t.p8.Y.all<|E6 0 1000;rfl;simp only[oq,AT,cT8,cV0];rw[an5 _ F λi hi=>b.el i F];cases f:DL t.p8.Y;rfl;simp only[oq,AT,cT8,cV0];have k:cD t.j4.Z Ad=some (t.j4.Z.any λr=>!(r.all (E6 0 10000)&&JK r)):=W2 t.j4.Z (by have:=a.zl;have:=a.x.most;omega) Ad _ (λr d=>by
   obtain⟨i,hi,rfl⟩:=Kz.1 d;have g:t.j4.Z[i].length<=32:=by rw[a.rl i hi];exact a.y.most
   unfold Ad Q;rw[Zm _ F,oq,Vu _ F];cases t.j4.Z[i].all<|E6 0 10000<;>cases JK t.j4.Z[i]<;>rfl);rw[k,oq,dc8];simp
theorem bl7 (n:Int):Hm n=some (Sb n):=rfl
theorem az0 (l:List Int):zr l=some (Tw l):=by
 unfold zr Tw Q;cases h:decide ((l.length:Int)<2)||decide ((l.length:Int)>32);have a:l.length<=32:=by simp at h;omega
 have k:=tM (mb:=kX l) (λi=>(i:Int)) (p:=axP l) (b0:=.inl (l.length:Int)) (b1:=.inr false) l.length (by simp[kX,Q]) (λj b=>by
  have s:=Tx l j F a;unfold kX Q;have e:decide ((j:Int)<(l.length:Int))=true:=by simp;omega
  rw[e];rw[B3,IN F]at s|-;simp only[oq,Kl,bl7,cT9]at s|-;simp only[obs]at s|-;rw[s,Y8 j F];cases axP l j<;>rfl);rw[show((0:Nat):Int)=0 from rfl]at k;rw[k];cases(cX1 0 l.length).all<|axP l<;>rfl;rfl
theorem aX4 (l:List Int):(!l.any λn=>!Sb n)=l.all Sb:=by grind
theorem Br {α:Type}{mb:Int->Option (Int⊕Int⊕Bool)}(p:α->Bool)(l:List α)(a:mb (l.length:Int)=some (.inr<|.inl (l.length:Int)))(h:∀(k:Nat)(hk:k<l.length),mb (k:Int)=some (bif p l[k]then .inl ((k+1:Nat):Int)else .inr<|.inr false)):o3 mb 0=some (bif l.all p then .inl (l.length:Int)else .inr false):=by have k:=lL (mb:=mb) (λi=>(i:Int)) (p:=p) (b0:=.inl (l.length:Int)) (b1:=.inr false) l a (λk y b=>by grind);omega
theorem cC8 {mb:Int->Option (Int⊕Int⊕Bool)}(p:Nat->Bool)(n:Nat)(a:mb (n:Int)=some (.inr<|.inl (n:Int)))(h:∀k,k<n->mb (k:Int)=some (bif p k then .inl ((k+1:Nat):Int)else .inr<|.inr false)):o3 mb 0=some (bif (cX1 0 n).all p then .inl (n:Int)else .inr false):=by have k:=tM (mb:=mb) (λi=>(i:Int)) (p:=p) (b0:=.inl (n:Int)) (b1:=.inr false) n a h;omega
theorem ltN {k n:Nat}(h:k<n):decide ((k:Int)<(n:Int))=true:=by grind
theorem ai3 (n:Nat):decide ((n:Int)<(n:Int))=false:=by simp
theorem zT (c:R7):wY c=some (mU c):=by
 unfold wY mU Q;rw[az0,oq];cases h:Tw c.X;simp;have hx:=Ei h;cases a:(c.X.length:Int)==(c.Y.length:Int);grind;have b:c.Y.length=c.X.length:=by grind
 have:((c.Y.length:Int)!=(c.X.length:Int))=false:=by simp;omega
 rw[this,AT,cM1,cT8,Br Sb c.Y (by simp[qa,Q]) λk hk=>by unfold qa Q;rw[ltN hk,cT9,j2 _ k hk,oq,bl7,oq,Y8 k F];grind,aX4];grind
def as1 {l:List Int}(h:JK l=true):∀(j i:Nat),i<=j->j<l.length->nd l i<=nd l j
 |0,i,hi,_=>by grind|j+1,i,hi,c=>by
  rcases db7 i<|j+1with q|q;have a:=as1 h j i F F;have b:=tP.1 h j F;rw[dg1]at b;omega;have:i=j+1:=by omega
  subst this;exact QA _
theorem bC9 (l:List Int)(q:Int->Bool):((cX1 0 l.length).all λj=>q (nd l j)&&(decide (j=0)||decide (nd l (j-1)<=nd l j)))=(l.all q&&JK l):=by apply xK;rw[tP,BY];unfold JK;rw[tP,cV2];constructor;intro h;refine⟨λx hx=>?_,λi hi=>?_⟩;obtain⟨i,hi,rfl⟩:=Kz.1 hx;simp_all[E0];grind;rintro⟨a,b⟩i hi;rw[BY,bh7,dg1];refine⟨by grind [E0],?_⟩;grind
def JB (r:List Int):Bool:=r.all (E6 0 1048576)&&JK r
def JA (t:j1):Bool:=sx t.Ai&&mU t.B4&&t.Ai.Z.all JB&&t.B4.Y.all (E6 100 3000)
theorem bd (x lo hi:Int):UW x lo hi=some (E6 lo hi x):=rfl
theorem eC (x lo hi:Int):Ls x lo hi=some (E6 lo hi x):=rfl
theorem aE9 {r:List Int}(h0:0<r.length)(c:JK r=true):(E6 0 1048576 (nd r 0)&&E6 0 1048576 (nd r<|r.length-1))=r.all (E6 0 1048576):=by apply xK;rw[BY,cV2];unfold E6;constructor;rintro⟨a,b⟩x hx;obtain⟨i,hi,rfl⟩:=Kz.1 hx;have u:=as1 c i 0 F hi;have v:=as1 c (r.length-1) i F F;rw[E0 hi]at u v;grind;grind [E0]
theorem JD (t:j1):Tt t=some (JA t):=by unfold Tt JA Q;rw[aN];cases h1:sx t.Ai;rfl;have a:=DZ h1;simp only[oq,AT,cT8,cV0,dW];cases c:mU t.B4;rfl;have b:=uV c;have l1:=b.x.most;have l2:=b.yl;have zl:=a.zl;have g:=a.x.most;have h:=a.y.most;have j:=a.y.two;simp only[oq,AT,cT8,cV0];rw[B5 _ F,Lb (p:=JB) (r:=false)];cases l:t.Ai.Z.all JB;rfl;rw[cT9,oq];simp only;rw[dB _ F UU (λy=>!E6 100 3000 y) λy _=>rfl,oq,dc8,cM8];simp only[cM8,cV0];intro i r d;obtain⟨k,hk,rfl⟩:=Kz.1 d;have rl:=a.rl k hk;unfold Rw JB Q;rw[Vu _ F,oq];cases e:JK t.Ai.Z[k];rw[cY3];rfl;have f:y3 t.Ai.Z[k] 0=some (t.Ai.Z[k][0]'F):=j2 _ 0 F;rw[AT,cT8,dd8,f,Zt F F,j2 _ _ (by omega:t.Ai.Z[k].length-1<t.Ai.Z[k].length),<-E0,<-E0,<-aE9 F e];simp only[oq,bd];cases E6 0 1048576<|nd t.Ai.Z[k] 0<;>cases E6 0 1048576<|nd t.Ai.Z[k]<|t.Ai.Z[k].length-1<;>rfl
theorem aS4 {mb:Int->Option (Int⊕Int⊕Bool)}(r:List Int)(q:Int->Bool)(a:mb (r.length:Int)=some (.inr<|.inl (r.length:Int)))(h:∀k,k<r.length->mb (k:Int)=some (bif q (nd r k)&&(decide (k=0)||decide (nd r (k-1)<=nd r k))then .inl ((k+1:Nat):Int)else .inr<|.inr false)):o3 mb 0=some (bif r.all q&&JK r then .inl (r.length:Int)else .inr false):=by grind [cC8,bC9]
theorem ct7 (r:List Int)(k:Nat)(hk:k<r.length)(c:r.length<=1000)(y:Int)(a:y=nd r k):(bif decide<|(k:Int)>0then tI (y3 r<|H<|k-1) λb=>some<|decide (y<b)else some false)=some !(decide (k=0)||decide (nd r (k-1)<=nd r k)):=by subst a;cases k with|zero=>rfl|succ k=>rw[cU0 F,cT9,ac4 k F,j2 r k F,oq,<-E0,cU1 (by omega:¬k+1=0),db8,Nat.add_sub_cancel];grind [cU1]
theorem Gc (t:j1):xh t=some (JA t):=by unfold xh JA Q;rw[yj];cases h1:sx t.Ai;rfl;have a:=DZ h1;simp only[oq,AT,cT8,cV0,zT];cases d:mU t.B4;rfl;have c:=uV d;have l1:=c.x.most;have l2:=c.yl;have zl:=a.zl;have e:=a.x.most;have f:=a.y.most;simp only[oq,AT,cT8,cV0];rw[Br JB t.Ai.Z (by unfold qh Q;rw[ai3];rfl) λk hk=>by have rl:=a.rl k hk;unfold qh JB Q;rw[ltN hk,cT9,aS4 t.Ai.Z[k] (E6 0 1048576) (by unfold qi Q;rw[j2 _ k hk,oq,ai3];rfl) λj b=>by unfold qi Q;rw[j2 _ k hk,oq,ltN b,cT9,j2 _ j b,oq,<-E0 b,eC,oq,ct7 _ j b F _ rfl,Y8 j F];cases E6 0 1048576<|nd t.Ai.Z[k] j;rfl;cases decide (j=0)||decide (nd t.Ai.Z[k] (j-1)<=nd t.Ai.Z[k] j)<;>rfl,Y8 k F];cases t.Ai.Z[k].all (E6 0 1048576)&&JK t.Ai.Z[k]<;>rfl];cases g:t.Ai.Z.all JB;rfl;rw[cT9,oq];simp only;rw[Br (E6 100 3000) t.B4.Y (by unfold qj Q;rw[ai3];rfl) λk hk=>by unfold qj Q;rw[ltN hk,cT9,j2 _ k hk,oq,eC,oq,Y8 k F];cases E6 100 3000 t.B4.Y[k]<;>rfl];cases t.B4.Y.all<|E6 100 3000<;>rfl
def uP (t:j1):Bool:=sx t.D1&&mU t.L5&&(t.D1.Z.all λr=>r.all<|E6 (-1280) 3840)&&t.L5.Y.all (E6 500 10000)
theorem CX (x lo hi:Int):CS x lo hi=some (E6 lo hi x):=rfl
theorem ZE (t:j1):xA t=some (uP t):=by unfold xA uP Q;rw[yj];cases h1:sx t.D1;rfl;have a:=DZ h1;simp only[oq,AT,cT8,cV0,zT];cases d:mU t.L5;rfl;have b:=uV d;have l1:=b.x.most;have l2:=b.yl;have zl:=a.zl;have e:=a.x.most;have f:=a.y.most;simp only[oq,AT,cT8,cV0];rw[Br (λr=>r.all<|E6 (-1280) 3840) t.D1.Z (by unfold qp Q;rw[ai3];rfl) λk hk=>by have rl:=a.rl k hk;unfold qp Q;rw[ltN hk,cT9,Br (E6 (-1280) 3840) t.D1.Z[k] (by unfold qq Q;rw[j2 _ k hk,oq,ai3];rfl) λj c=>by unfold qq Q;rw[j2 _ k hk,oq,ltN c,cT9,j2 _ j c,oq,CX,oq,Y8 j F];cases E6 (-1280) 3840 t.D1.Z[k][j]<;>rfl,Y8 k F];cases t.D1.Z[k].all<|E6 (-1280) 3840<;>rfl];cases g:t.D1.Z.all λr=>r.all<|E6 (-1280) 3840;rfl;rw[cT9,oq];simp only;rw[Br (E6 500 10000) t.L5.Y (by unfold qs Q;rw[ai3];rfl) λk hk=>by unfold qs Q;rw[ltN hk,cT9,j2 _ k hk,oq,CX,oq,Y8 k F];cases E6 500 10000 t.L5.Y[k]<;>rfl];cases t.L5.Y.all<|E6 500 10000<;>rfl
theorem bP4 (l:List Int)(a:l.length<=1000):xm l=some (DL l):=by
 have e:l.length-1=l.length\/l.length-1+1=l.length:=by omega
 have k:=tM (mb:=jh l) (λi=>((i+1:Nat):Int)) (p:=λj=>decide<|nd l (j+1)<=nd l j) (b0:=.inl ((l.length-1+1:Nat):Int)) (b1:=.inr false) (l.length-1) (by grind [jh,Q]) (λj b=>by unfold jh Q;rw[cU0 F,cT9,j2 l (j+1) F,oq,ac4 j F,j2 l j F,oq,Y8 (j+1) F,<-E0,<-E0];grind);unfold xm Q;rw[show((0+1:Nat):Int)=1 from rfl]at k;grind [DL]
theorem bI0 (l:List Int)(a:l.length<=1000)(lo hi:Int):Bd l lo hi=some (l.all<|E6 lo hi):=by unfold Bd Q;rw[Br (E6 lo hi) l (by simp[uI,Q]) λk hk=>by unfold uI Q;rw[ltN hk,cT9,j2 _ k hk,oq,show Lt l[k] lo hi=some (E6 lo hi l[k])from rfl,oq,Y8 k F];grind];grind
theorem ZC (c:R7):xk c=some (mU c&&DL c.Y&&c.Y.all (E6 0 1000)):=by unfold xk Q;rw[zT];cases h:mU c;rfl;have a:=uV h;have l1:=a.x.most;have l2:=a.yl;simp only[oq,cT9,bP4 c.Y F,cV0];cases DL c.Y;rfl;simp only[cT9,bI0 c.Y F,oq,cV0]
theorem ZD (t:j1):xt t=some (lQ t):=by
 unfold xt lQ Q;rw[yj];cases h1:sx t.j4;rfl;have a:=DZ h1;have zl:=a.zl;have c:=a.x.most;have d:=a.y.most;simp only[oq,AT,cT8,cV0,ZC];have e:(mU t.p8&&DL t.p8.Y&&t.p8.Y.all (E6 0 1000))=(mU t.p8&&t.p8.Y.all (E6 0 1000)&&DL t.p8.Y):=by rw[df9,df9,Bool.and_comm<|DL _]
 rw[e];cases f:mU t.p8&&t.p8.Y.all (E6 0 1000)&&DL t.p8.Y
 rfl;rw[AT,cT8,cV0,Br (λr=>r.all (E6 0 10000)&&JK r) t.j4.Z (by unfold qk Q;rw[ai3];rfl) λk hk=>by have rl:=a.rl k hk;unfold qk Q;rw[ltN hk,cT9,aS4 t.j4.Z[k] (E6 0 10000) (by unfold qm Q;rw[rl,ai3];rfl) λj b=>by
   unfold qm Q;rw[cU0 F,cT9,j2 _ k hk,oq,j2 _ j b,oq,<-E0 b,ct7 _ j b F _ rfl,Y8 j F];have:(decide (nd t.j4.Z[k] j<0)||decide (nd t.j4.Z[k] j>10000))=!E6 0 10000 (nd t.j4.Z[k] j):=by unfold E6;apply xK;simp only[bh7,nW,Bool.and_eq_false_iff,dg1,cU3];omega
   rw[this];cases E6 0 10000<|nd t.j4.Z[k] j;rfl;cases decide (j=0)||decide (nd t.j4.Z[k] (j-1)<=nd t.j4.Z[k] j)<;>rfl,Y8 k F];cases t.j4.Z[k].all (E6 0 10000)&&JK t.j4.Z[k]<;>rfl];cases t.j4.Z.all λr=>r.all (E6 0 10000)&&JK r<;>rfl
theorem HY (t:j1):zD t=some (mU t.X5&&t.X5.Y.all (E6 0 10000)):=by unfold zD Q;rw[zT,oq];cases h:mU t.X5;rfl;have a:=uV h;have l1:=a.x.most;have l2:=a.yl;rw[AT,cT8,cV0,Br (E6 0 10000) t.X5.Y (by simp[sr,Q]) λk hk=>by unfold sr Q;rw[ltN hk,cT9,j2 _ k hk,oq,Y8 k F];grind [E6]];grind
def Fz (g:uQ):Bool:=decide (g.P>=0)&&decide (g.P<=65536)&&decide (g.I>=0)&&decide (g.I<=65536)&&decide (g.Bu>=-1073741824)&&decide (g.Bu<=g.fI)&&decide (g.fI<=1073741824)
def ME (t:j1):Bool:=JA t&&uP t&&lQ t&&(mU t.X5&&t.X5.Y.all (E6 0 10000))&&sx t.rA&&Fz t.T4
theorem NJ (t:j1):xy t=some (ME t):=by unfold xy ME Q;rw[Gc,ZE,ZD,HY,yj,show zu t.T4=some (Fz t.T4)from rfl];simp only[oq];cases JA t<;>cases uP t<;>cases lQ t<;>cases mU t.X5&&t.X5.Y.all (E6 0 10000)<;>cases sx t.rA<;>rfl
theorem yG (l:List Int)(h:l.length<=9223372036854775807)(lo hi:Int):MD l lo hi=some (l.all<|E6 lo hi):=by unfold MD Q;rw[dB l h (λa=>Pp a lo hi) (λx=>!E6 lo hi x) λy _=>rfl,oq,dc8,cM8];simp
theorem AG (t:j1):HD t=some (ME t):=by unfold HD ME uP Q;rw[JD,DH,aN,aN,dW,dW,show da t.T4=some (Fz t.T4)from rfl];simp only[oq];cases JA t;rfl;cases lQ t;simp only[AT,cV8,cT8,cT9,oq,cY3,dc2];cases h1:sx t.D1;rfl;cases sx t.rA;simp only[AT,cV8,cT8,cT9,oq,cY3,dc2];cases b:mU t.L5;rfl;cases c:mU t.X5;simp only[AT,cV8,cT8,cT9,oq,cY3,dc2];have a:=DZ h1;have zl:=a.zl;have e:=a.x.most;have f:=a.y.most;have g:=(uV b).x.most;have h:=(uV b).yl;have b1:=(uV c).x.most;have b2:=(uV c).yl;simp only[AT,cV8,cT8,cT9,oq,cV0,dd8];rw[B5 _ F,Lb (p:=λr=>r.all<|E6 (-1280) 3840) (r:=false)];rw[yG _ F,yG _ F];cases t.D1.Z.all λr=>r.all<|E6 (-1280) 3840;rfl;cases t.L5.Y.all<|E6 500 10000<;>cases t.X5.Y.all<|E6 0 10000<;>rfl;intro i r d;obtain⟨k,hk,rfl⟩:=Kz.1 d;have rl:=a.rl k hk;unfold Iy Q;rw[yG _ F,oq];cases t.D1.Z[k].all<|E6 (-1280) 3840<;>rfl
def bd2 (v:Bool)(q a:Int)(f:Int->Option (Int×Int))(h:(bif v then some<|IS.wrap (q+1)else some q)=some a)(h0:0<=a)(h1:a<9223372036854775808):(tI (some v) λv4=>tI (bif v4 then some<|IS.wrap (q+1)else some q) λ(q:Int)=>bif false&&decide (q<=9223372036854775808)then f q else bif !false&&decide (q<9223372036854775808)then some (H q,0)else some (0,9))=some (a,0):=by have e:decide (a<9223372036854775808)=true:=cU0 h1;rw[oq,h,oq,dc2,cT8,cV8,cV0,e,cT9,b6 F F]
theorem Lg {n:Int}(h0:0<=n)(h1:n<18446744073709551616):IS.wrap n=n:=by unfold IntKind.wrap;simp only[cL0,IntKind.signed];grind
theorem fV (x lo hi:Int):jN x lo hi=some (ba9 (q9 x lo) hi):=rfl
theorem KM (n:Int)(h0:-9223372036854775808<=n)(h1:n<=9223372036854775807):De n=some (n.natAbs:Int):=by unfold De Q;by_cases h:n<0;simp only[h,decide_true,cT9,AI];grind [b6,Lg];simp only[h,decide_false,cT8,AI];grind [Lg]
theorem bO5 (lo y:Nat)(h0:lo<18446744073709551616)(h1:0<y):Dy 0 lo y=some (((lo/y:Nat):Int),((lo%y:Nat):Int)):=by
 unfold Dy Q;have e1:((y:Int)==0)=false:=by grind
 have e2:decide ((y:Int)<=0)=false:=by simp;omega
 have a:¬(y:Int)=0:=by omega
 simp only[e1,e2,cT8,oq,KT,SF,if_neg a];have b:(lo:Int).tdiv y=((lo/y:Nat):Int):=rfl;have c:(lo:Int).tmod y=((lo%y:Nat):Int):=rfl;have d:lo/y<=lo:=de6 _ _;rw[b,c];generalize lo/y=q at d|-;rw[Lg F F,show((0:Int)==0)=true from rfl,cT9]
theorem Oy (a c b:Int)(l:-9223372036854775808<=a)(o:a<=9223372036854775807)(A:0<c)(p:c<=9223372036854775807)(s:b=1\/b=2):
  JI a 1 c b=some (if b=1 then a/c else-(-a/c),0):=by
 unfold JI Q
 have B:(decide (b<1)||decide (b>3))=false:=by
  rcases s with rfl|rfl<;>rfl
 have c0:(c==0)=false:=by
  have:¬c=0:=by omega
  simpa using this
 rw[B,c0,KM a l o,KM 1 F F,KM c F p]
 obtain⟨m,t⟩:∃m:Nat,a.natAbs=m:=⟨_,rfl⟩
 obtain⟨k,rfl⟩:∃k:Nat,c=k:=⟨c.toNat,by omega⟩
 have hk:0<k:=by omega
 have C:m<=9223372036854775808:=by omega
 rw[t]
 simp only[cT8,oq,Dz,UA]
 rw[if_pos F]
 simp only[oq]
 have e1:(m:Int)*((df4 1:Nat):Int)/18446744073709551616=0:=by
  have:((df4 1:Nat):Int)=1:=rfl
  rw[this];omega
 have e2:(m:Int)*((df4 1:Nat):Int)%18446744073709551616=(m:Int):=by
  have:((df4 1:Nat):Int)=1:=rfl
  rw[this];omega
 have D:((df4 (k:Int):Nat):Int)=(k:Int):=by omega
 have E:decide ((0:Int)>=(k:Int))=false:=cU1 F
 rw[e1,e2,D,E,show(0:Int)=0 from rfl,bO5 m k F hk]
 have I:m/k<=m:=de6 _ _
 have J:m%k<k:=Nat.mod_lt _ hk
 have f:k*(m/k)+m%k=m:=Nat.div_add_mod m k
 generalize m/k=q at I f|-
 generalize m%k=r at J f|-
 have j:(m:Int)=(q:Int)*(k:Int)+(r:Int):=by rw[<-f,Int.natCast_add,Int.natCast_mul,Int.mul_comm]
 have u:r=0->0<m->0<q:=λh0 h1=>by
  rcases cz3 q with h|h
  ·rw[h,h0]at f;omega
  ·exact h
 have v:0<r->q<9223372036854775808:=λh0=>by
  rcases db7 q 9223372036854775808 with h|h
  ·exact h
  ·have:k*q>=1*9223372036854775808:=Nat.mul_le_mul F h
   omega
 have g:0<r->m<=9223372036854775807->q<9223372036854775807:=λh0 h1=>by
  rcases db7 q 9223372036854775807 with h|h
  ·exact h
  ·have:k*q>=1*9223372036854775807:=Nat.mul_le_mul F h
   omega
 have K:decide ((q:Int)>9223372036854775808)=false:=cU1 F
 simp only[cT8,oq,K]
 have d1:decide ((1:Int)<0)=false:=rfl
 have d2:decide ((k:Int)<0)=false:=cU1 F
 rw[d1,d2]
 have fl0:(m:Int)/(k:Int)=(q:Int):=by
  rw[j,Int.add_comm,Int.add_mul_ediv_right _ _ F,cZ1 F F];omega
 have fl1:-(m:Int)/(k:Int)=if r=0 then-(q:Int)else-(q:Int)-1:=by
  split
  ·rename_i h
   have:-(m:Int)=-(q:Int)*(k:Int):=by rw[j,Int.neg_mul,h];omega
   rw[this,Int.mul_ediv_cancel _ F]
  ·rename_i h
   have e:-(m:Int)=(k:Int)-(r:Int)+(-(q:Int)-1)*(k:Int):=by
    rw[j,Int.sub_mul,Int.neg_mul];omega
   rw[e,Int.add_mul_ediv_right _ _ F,cZ1 F F];omega
 clear f j
 by_cases y:a<0
 ·have i:a=-(m:Int):=by omega
  have w:decide (a<0)=true:=cU0 y
  have n1:!!true==false==false=true:=by decide
  rw[w,n1]
  rcases s with rfl|rfl
  · --down,of a negative number
   have r1:uS (r:Int) (k:Int) true 1=some (decide<|(r:Int)>0):=rfl
   rw[if_pos rfl,i,fl1,r1]
   by_cases d:r=0
   ·have r2:decide ((r:Int)>0)=false:=cU1 F
    have z:=u d F
    have r3:decide ((q:Int)<=9223372036854775808)=true:=cU0 F
    rw[if_pos d,r2]
    simp only[oq,cT8,r3]
    rw[Lg (n:=(q:Int)-1) F F,b6 (n:=(q:Int)-1) F F,b6 (n:=0-((q:Int)-1)) F F,b6 (n:=0-((q:Int)-1)-1) F F]
    simp only[cV0,cV8,cT9,AT,dc2,cT8]
    rw[show 0-((q:Int)-1)-1=-(q:Int)by omega]
   ·have r2:decide ((r:Int)>0)=true:=cU0 F
    have x:=v F
    have r3:decide ((q:Int)+1<=9223372036854775808)=true:=cU0 F
    rw[if_neg d,r2]
    simp only[oq,cT9]
    rw[Lg (n:=(q:Int)+1) F F,r3,show(q:Int)+1-1=q by omega]
    rw[Lg (n:=(q:Int)) F F,b6 (n:=(q:Int)) F F,b6 (n:=0-(q:Int)) F F,b6 (n:=0-(q:Int)-1) F F]
    simp only[cV0,cV8,cT9,AT,dc2,cT8]
    rw[show 0-(q:Int)-1=-(q:Int)-1 by omega]
  · --up,of a negative number
   have r1:uS (r:Int) (k:Int) true 2=some false:=rfl
   rw[if_neg dq,i,Int.neg_neg,fl0,r1]
   have r3:decide ((q:Int)<=9223372036854775808)=true:=cU0 F
   simp only[oq,cT8,r3]
   rcases cz3 q with hz|hz
   ·have L:IS.wrap (((0:Nat):Int)-1)=18446744073709551615:=by decide
    have M:H 18446744073709551615=-1:=by decide
    have N:H (0- -1)=1:=by decide
    have O:H (1-1)=0:=by decide
    rw[hz,L,M,N,O]
    rfl
   ·rw[Lg (n:=(q:Int)-1) F F,b6 (n:=(q:Int)-1) F F,b6 (n:=0-((q:Int)-1)) F F,b6 (n:=0-((q:Int)-1)-1) F F]
    simp only[cV0,cV8,cT9,AT,dc2,cT8]
    rw[show 0-((q:Int)-1)-1=-(q:Int)by omega]
 ·have i:a=(m:Int):=by omega
  have w:decide (a<0)=false:=cU1 y
  have n1:!!false==false==false=false:=by decide
  rw[w,n1]
  rcases s with rfl|rfl
  ·have r1:uS (r:Int) (k:Int) false 1=some false:=rfl
   rw[if_pos rfl,i,fl0,r1]
   exact bd2 false q q _ rfl F F
  ·have r1:uS (r:Int) (k:Int) false 2=some (decide<|(r:Int)>0):=rfl
   rw[if_neg dq,i,fl1,r1]
   by_cases d:r=0
   ·have r2:decide ((r:Int)>0)=false:=cU1 F
    rw[if_pos d,r2,Int.neg_neg]
    exact bd2 false q q _ rfl F F
   ·have r2:decide ((r:Int)>0)=true:=cU0 F
    have x:=g F F
    rw[if_neg d,r2,show-(-(q:Int)-1)=(q:Int)+1 by omega]
    exact bd2 true q (q+1) _ (by rw[cT9,Lg F F]) F F
theorem MO (a c:Int)(b:-9223372036854775808<=a)(d:a<=9223372036854775807)(e:0<c)(f:c<=9223372036854775807):Mc a c=some (a/c):=by unfold Mc Ii Q;rw[Oy a c 1 b d e f<|.inl rfl];rfl
def sJ (n:Nat)(v:n<=2305843009213693951)(f:Int->Option Bool)(p:Nat->Bool)(q:∀i,i<n->f (i:Int)=some (p i)):∃k:Nat,k<=n/\nK (n:Int) f=some (k:Int)/\(0<k->p (k-1)=false)/\(k<n->p k=true):=by
 have key:∀(m i j:Nat),j-i<=m->i<=j->j<=n->(0<i->p (i-1)=false)->(j<n->p j=true)->∃k:Nat,k<=n/\o3 (bO f) ((i:Int),(j:Int))=some (.inl ((k:Int),(k:Int)))/\(0<k->p (k-1)=false)/\(k<n->p k=true):=by intro m;induction m with|zero=>grind [j3,bO]|succ m l=>
   intro i j w r e h1 o;rcases db7 i j with s|t;have u:H (w9 .u64 (IS.wrap<|H<|(i:Int)+(j:Int)) 1)=(((i+j)/2:Nat):Int):=by rw[cj6 F F];omega
   have hi:(i+j)/2<n:=by omega
   have g:bO f ((i:Int),(j:Int))=some (bif p<|(i+j)/2then .inl ((i:Int),(((i+j)/2:Nat):Int))else .inl ((((i+j)/2+1:Nat):Int),(j:Int))):=by unfold bO;rw[show decide (((i:Int),(j:Int)).1<((i:Int),(j:Int)).2)=true from cU0<|by show(i:Int)<(j:Int);omega];simp only[cT9,u,q _ hi,oq];cases p<|(i+j)/2;simp only[cV8,cT9,cT8];rw[b6 F F];rfl;rfl
   cases hp:p<|(i+j)/2;rw[hp]at g;rw[j7 g];exact l ((i+j)/2+1) j F F e (λ_=>by simpa using hp) o;rw[hp]at g;rw[j7 g];exact l i ((i+j)/2) F F F h1 λ_=>hp;have:i=j:=by omega
   subst this;exact l i i F (Nat.le_refl _) e h1 o
 obtain⟨k,a,b,c,d⟩:=key n 0 n F (Nat.zero_le _) (Nat.le_refl _) (λh=>absurd h F) λh=>absurd h F;refine⟨k,a,?_,c,d⟩;unfold nK;grind
theorem H2 (a b:Int):ba9 a b=min a b:=by grind [ba9]
theorem E5 (a b:Int):q9 a b=max a b:=by grind [q9]
def Pt (a c b d x:Int):Int:=b+(x-a)*(d-b)/(c-a)
def wE {x0 a y0 b x lo hi:Int}(h0:x0<=x)(h1:x<=a)(h:x0<a)(a0:lo<=y0)(g:y0<=hi)(b0:lo<=b)(b1:b<=hi):lo<=Pt x0 a y0 b x/\Pt x0 a y0 b x<=hi:=by
 unfold Pt;have c:0<a-x0:=by omega
 have e:0<=x-x0:=by omega
 have e2:x-x0<=a-x0:=by omega
 constructor;have:lo-y0<=(x-x0)*(b-y0)/(a-x0):=by rw[Int.le_ediv_iff_mul_le c];have d:(x-x0)*(lo-y0)<=(x-x0)*(b-y0):=cX2 F e;have f:(a-x0)*(lo-y0)<=(x-x0)*(lo-y0):=Int.mul_le_mul_of_nonpos_right e2 F;grind
 omega;have:(x-x0)*(b-y0)/(a-x0)<=hi-y0:=by have d:(x-x0)*(b-y0)<=(x-x0)*(hi-y0):=cX2 F e;have f:(x-x0)*(hi-y0)<=(a-x0)*(hi-y0):=Int.mul_le_mul_of_nonneg_right e2 F;have:=cv2 c<|Int.le_trans d f;grind [Int.mul_ediv_cancel_left]
 omega
theorem YK (a b y0 c:Int):Pt a b y0 c a=y0:=by unfold Pt;simp
theorem Uq {b a c y1:Int}(h:b<a):Pt b a c y1 a=y1:=by grind [Pt,Int.mul_ediv_cancel_left]
def ay3 {a b:Int}(a0:0<=a)(d:a<=2147483648)(b0:-2147483648<=b)(b1:b<=2147483648):-4611686018427387904<=a*b/\a*b<=4611686018427387904:=by constructor;have c:a*-2147483648<=a*b:=cX2 b0 a0;omega;have c:a*b<=a*2147483648:=cX2 b1 a0;omega
theorem Xz {c d e f x:Int}(h0:c<=x)(h1:x<=d)(h:c<d)(g:-1073741824<=c)(i:d<=1073741824)(a0:-1073741824<=e)(j:e<=1073741824)(b0:-1073741824<=f)(b1:f<=1073741824):DE c d e f x=some (Pt c d e f x):=by have k:=wE (lo:=-1073741824) (hi:=1073741824) h0 h1 h a0 j b0 b1;have hp:=ay3 (a:=x-c) (b:=f-e) F F F F;grind [DE,Q,b6,MO,Pt]
def Ra {l:List Int}(h:Eb l)(x:Int):∃i:Nat,jL l (lim l x) i/\aD8 l x=some ((i:Int),lim l x):=by
 have q:=h.two;have r:=h.most;have j:=bc8 h x;rw[On l F,Ew l F]at j;obtain⟨k,k1,k2,m,k4⟩:=sJ l.length F (λn=>zZ n l<|lim l x) (λi=>decide<|l.getD i 0>lim l x) (λi hi=>by grind [zZ,Q,j2]);have g:∀i (hi:i<l.length),l.getD i 0=l[i]:=λi hi=>by grind
 have c:0<k:=by grind
 have b:=m c;rw[cU3,g (k-1) F]at b;have a:aD8 l x=some (((min (k-1)<|l.length-2:Nat):Int),lim l x):=by
  unfold aD8 Q;have e1:y3 l 0=some (l.headD 0):=by grind [j2,On]
  have e2:y3 l (H<|(l.length:Int)-1)=some (l.getLastD 0):=by grind [b6,j2]
  grind [lim,H2,E5,fV,b6]
 rcases db7 k l.length with hk|hk;have d:=k4 hk;rw[dg1,g k hk]at d;have e:min (k-1) (l.length-2)=k-1:=by omega
 rw[e]at a;refine⟨k-1,⟨F,by omega,?_,.inr ?_⟩,a⟩;simp only[Nat.sub_add_cancel<|show 1<=k from c];omega;simp only[Nat.sub_add_cancel<|show 1<=k from c];omega;have e:min (k-1) (l.length-2)=l.length-2:=by omega
 rw[e]at a;have o:k-1=l.length-1:=by omega
 have f:¬l[l.length-1]>lim l x:=by simpa only[o]using b
 have p:l.length-2+1=l.length-1:=by omega
 refine⟨l.length-2,⟨F,?_,?_,.inl F⟩,a⟩;have:=h.le (l.length-1) (l.length-2) F F;omega;simp only[p];omega
def along (m:SMap)(i:Nat)(v:Int)(j:Nat):Int:=Pt (nd m.X i) (nd m.X<|i+1) (zz m i j) (zz m (i+1) j) v
def atV (m:SMap)(i j:Nat)(v w:Int):Int:=Pt (nd m.Y j) (nd m.Y<|j+1) (along m i v j) (along m i v<|j+1) w
theorem jL.nd {l:List Int}{v:Int}{i:Nat}(h:jL l v i)(a:Eb l):i+1<l.length/\nd l i<=v/\v<=nd l (i+1)/\nd l i<nd l (i+1)/\-1073741824<=Pv.nd l i/\Pv.nd l (i+1)<=1073741824:=by obtain⟨h0,h1,b,_⟩:=h;rw[E0 (by omega:i<l.length),E0 h0];exact⟨h0,h1,b,a.asc i h0,(a.el i F).1,(a.el (i+1) h0).2⟩
theorem JH {m:SMap}(h:Xn m){i j:Nat}{v lo hi:Int}(a:jL m.X v i)(a0:lo<=zz m i j)(b:zz m i j<=hi)(b0:lo<=zz m (i+1) j)(b1:zz m (i+1) j<=hi):lo<=along m i v j/\along m i v j<=hi:=by obtain⟨k0,k1,k2,c,_,_⟩:=a.nd h.x;exact wE k1 k2 c a0 b b0 b1
def aX8 {m:SMap}(h:Xn m){i j:Nat}{v w lo hi:Int}(b:jL m.X v i)(d:jL m.Y w j)(hz:∀i j,i<m.X.length->j<m.Y.length->lo<=zz m i j/\zz m i j<=hi):lo<=atV m i j v w/\atV m i j v w<=hi:=by obtain⟨k0,k1,k2,e,_,_⟩:=b.nd h.x;obtain⟨l0,l1,l2,l3,_,_⟩:=d.nd h.y;have a:=λj c=>JH h (j:=j) b (hz i j F c).1 (hz i j F c).2 (hz (i+1) j F c).1 (hz (i+1) j F c).2;exact wE l1 l2 l3 (a j F).1 (a j F).2 (a (j+1) F).1 (a (j+1) F).2
theorem bJ5 {m:SMap}(h:Xn m){i j:Nat}{v:Int}(hi:jL m.X v i)(c:j<m.Y.length):Lc (j:Int) m (i:Int) v=some (along m i v j):=by
 obtain⟨k0,k1,k2,d,k4,e⟩:=hi.nd h.x;have f:=h.x.most;have a:i<m.Z.length:=by have:=h.zl;omega
 have b:i+1<m.Z.length:=by have:=h.zl;omega
 have r0:=h.rl i a;have r1:=h.rl (i+1) b;unfold Lc Q;rw[b6 F F,show(i:Int)+1=((i+1:Nat):Int)from rfl,j2 m.X i F,oq,j2 m.X (i+1) k0,oq,j2 m.Z i a,oq,j2 _ j F,oq,j2 m.Z (i+1) b,oq,j2 _ j F,oq,<-E0 (by omega:i<m.X.length),<-E0 k0,<-Rk a F,<-Rk b F];rw[Xz k1 k2 d k4 e (h.el i j F c).1 (h.el i j F c).2 (h.el (i+1) j k0 c).1 (h.el (i+1) j k0 c).2];rfl
def cF6 {m:SMap}(h:Xn m)(x y:Int):∃i j,jL m.X (lim m.X x) i/\jL m.Y (lim m.Y y) j/\Re m x y=some (atV m i j (lim m.X x)<|lim m.Y y):=by obtain⟨i,hi,c⟩:=Ra h.x x;obtain⟨j,b,d⟩:=Ra h.y y;refine⟨i,j,hi,b,?_⟩;obtain⟨k0,k1,k2,f,k4,g⟩:=hi.nd h.x;obtain⟨l0,l1,l2,l3,l4,e⟩:=b.nd h.y;have ly:=h.y.most;have a:=λj b=>JH h (j:=j) hi (h.el i j F b).1 (h.el i j F b).2 (h.el (i+1) j F b).1 (h.el (i+1) j F b).2;unfold Re Q;rw[c,d];simp only[oq];rw[b6 F F,show(j:Int)+1=((j+1:Nat):Int)from rfl,j2 m.Y j F,oq,j2 m.Y (j+1) l0,oq,bJ5 h hi F,oq,bJ5 h hi l0,oq,<-E0 (by omega:j<m.Y.length),<-E0 l0,Xz l1 l2 l3 l4 e (a j F).1 (a j F).2 (a (j+1) l0).1 (a (j+1) l0).2];rfl
def aE2 {m:SMap}(h:sx m=true)(x y:Int):∃i j,jL m.X (lim m.X x) i/\jL m.Y (lim m.Y y) j/\Gk m x y=some (atV m i j (lim m.X x)<|lim m.Y y):=by obtain⟨i,j,hi,a,e⟩:=cF6 (DZ h) x y;refine⟨i,j,hi,a,?_⟩;simp_all[Gk,Q,aN]
def cuV (c:R7)(i:Nat)(v:Int):Int:=Pt (nd c.X i) (nd c.X<|i+1) (nd c.Y i) (nd c.Y<|i+1) v
def bg6 {l:List Int}(h:Eb l)(x:Int):∃i,jL l (lim l x) i:=by obtain⟨i,hi,_⟩:=Ra h x;grind
def bc9 {l:List Int}(h:Eb l)(x:Int):lim l x=min (max x<|nd l 0) (nd l<|l.length-1):=by have a:=h.two;grind [lim,On,E0]
def Eb.nlt {l:List Int}(h:Eb l){i j:Nat}(h1:i<j)(a:j<l.length):nd l i<nd l j:=by rw[E0 a,E0 F];exact h.lt j i a h1
def Eb.nle {l:List Int}(h:Eb l){i j:Nat}(h1:i<=j)(a:j<l.length):nd l i<=nd l j:=by rw[E0 a,E0 F];exact h.le j i a h1
def II {l:List Int}(h:Eb l){v:Int}{i:Nat}(hi:jL l v i)(f:Nat->Int){c:Nat}(a:c<l.length)(e:v=nd l c):Pt (nd l i) (nd l<|i+1) (f i) (f<|i+1) v=f c:=by
 obtain⟨k0,k1,k2,b,_,_⟩:=hi.nd h;subst e;have c1:i<=c:=by
  rcases db7 c i with q|q;·have:=h.nlt q F;omega
  ·exact q
 have c2:c<=i+1:=by
  rcases db7 (i+1) c with q|q;·have:=h.nlt q a;omega
  ·exact q
 rcases show c=i\/c=i+1 by omega with rfl|rfl;all_goals grind [YK,Uq]
theorem cb7 {c:R7}(h:bi9 c)(x:Int):∃i,jL c.X (lim c.X x) i/\MG c x=some (cuV c i<|lim c.X x):=by
 obtain⟨i,hi⟩:=bg6 h.x x;refine⟨i,hi,?_⟩;have E:=h.x.two;have I:=h.x.most;have r:=h.yl;have J:=bc9 h.x x;have s:=h.x.nlt (i:=0) (j:=c.X.length-1) F F;have f:y3 c.X 0=some (nd c.X 0):=by grind [j2,E0]
 have t:y3 c.Y 0=some (nd c.Y 0):=by grind [j2,E0]
 have u:H ((c.X.length:Int)-1)=((c.X.length-1:Nat):Int):=by grind [b6]
 have g:y3 c.X ((c.X.length-1:Nat):Int)=some (nd c.X<|c.X.length-1):=by grind [j2,E0]
 have v:y3 c.Y ((c.X.length-1:Nat):Int)=some (nd c.Y<|c.X.length-1):=by grind [j2,E0]
 unfold MG Q;rw[f,oq];by_cases w:x<=nd c.X 0;have e:=II h.x hi (λj=>nd c.Y j) (c:=0) F F;simp_all[cuV];rw[cU1 w,cT8,u,g,oq];by_cases y:x>=nd c.X (c.X.length-1);have e:=II h.x hi (λj=>nd c.Y j) (c:=c.X.length-1) F F;simp_all[cuV];have d:lim c.X x=x:=by omega
 rw[d]at hi|-;obtain⟨k0,k1,k2,z,k4,K⟩:=hi.nd h.x;obtain⟨k,r1,r2,r3,r4⟩:=sJ c.X.length F (λA=>Di A c x) (λi=>decide<|nd c.X i>x) (λj o=>by unfold Di Q;rw[j2 c.X j o,E0 o];rfl);have hk:k=i+1:=by
  have l:k<c.X.length:=by rcases db7 k c.X.length with q|q;exact q;have:=r3 F;rw[cU3,show k-1=c.X.length-1 by omega]at this;omega
  have B:=r4 l;rw[dg1]at B;have m:0<k:=by rcases cz3 k with q|q;subst q;omega;exact q
  have C:=r3 m;rw[cU3]at C;have b1:i<k:=by rcases db7 i k with q|q;exact q;have:=h.x.nle q F;omega
  have b2:k-1<=i:=by rcases db7 i<|k-1with q|q;have:=h.x.nle (i:=i+1) (j:=k-1) F F;have p:=hi.2;obtain⟨D,s1,s2,s3⟩:=hi;rcases s3 with s3|s3;omega;rw[<-E0 D]at s3;omega;exact q
  omega
 have es:HG c x=some (i:Int):=by unfold HG Q;rw[r2,oq,b6 F F,hk];congr 1;omega
 have L:=wE (lo:=-1073741824) (hi:=1073741824) k1 k2 z (h.el i F).1 (h.el i F).2 (h.el (i+1) k0).1 (h.el (i+1) k0).2;have M:=h.el i F;have N:=h.el (i+1) k0;have hp:=ay3 (a:=x-nd c.X i) (b:=nd c.Y (i+1)-nd c.Y i) F F F F;rw[cU1 y,cT8,es,oq,b6 (n:=(i:Int)+1) F F,show(i:Int)+1=((i+1:Nat):Int)from rfl,j2 c.Y i F,oq,j2 c.X i F,oq,j2 c.Y (i+1) F,oq,j2 c.X (i+1) k0,oq,<-E0,<-E0,<-E0,<-E0];grind [b6,MO,cuV,Pt]
def Yl {c:R7}(h:bi9 c){v:Int}{i:Nat}{lo hi:Int}(b:jL c.X v i)(a:∀j,j<c.X.length->lo<=nd c.Y j/\nd c.Y j<=hi):lo<=cuV c i v/\cuV c i v<=hi:=by obtain⟨k0,k1,k2,d,k4,e⟩:=b.nd h.x;exact wE k1 k2 d (a i F).1 (a i F).2 (a (i+1) k0).1 (a (i+1) k0).2
def AH {c:R7}(h:mU c=true)(x:Int):∃i,jL c.X (lim c.X x) i/\IA c x=some (cuV c i<|lim c.X x):=by simp_all[cb7,uV,IA,Q,dW]
structure cF2 (t:j1):Prop where
 m:Xn t.j4
 c:bi9 t.p8
 e:∀i,i<t.p8.X.length->0<=nd t.p8.Y i/\nd t.p8.Y i<=1000
 ed:∀i,i+1<t.p8.X.length->nd t.p8.Y (i+1)<=nd t.p8.Y i
 z:∀i j,i<t.j4.X.length->j<t.j4.Y.length->0<=zz t.j4 i j/\zz t.j4 i j<=10000
 za:∀i j,i<t.j4.X.length->j+1<t.j4.Y.length->zz t.j4 i j<=zz t.j4 i (j+1)
theorem bi8 {m:SMap}{i j:Nat}(h:i<m.Z.length):zz m i j=nd m.Z[i] j:=by grind [zz,nd]
def ar3 {t:j1}(h:lQ t=true):cF2 t:=by
 unfold lQ at h;simp only[BY]at h;obtain⟨⟨⟨⟨h1,d⟩,e⟩,f⟩,b⟩:=h;have a:=DZ h1;have c:=uV d;rw[cV2]at e b;have zl:=a.zl;have yl:=c.yl;refine⟨a,c,λi hi=>?_,λi hi=>?_,λi j hi g=>?_,λi j hi g=>?_⟩;grind [E0,al8,E6];have:=tP.1 f i F;grind;have hz:i<t.j4.Z.length:=by omega
 have:=b _<|al8 hz;rw[BY,cV2]at this;have k:=a.rl i hz;grind [al8,bi8,E0,E6];have hz:i<t.j4.Z.length:=by omega
 have:=b _<|al8 hz;rw[BY]at this;have k:=a.rl i hz;have:=tP.1 this.2 j F;simp_all[bi8]
theorem Jq {t:j1}(h:lQ t=true):sx t.j4=true:=by simp_all[lQ]
theorem Tc {t:j1}(h:lQ t=true):mU t.p8=true:=by simp_all[lQ]
def ar4 {t:j1}(h:lQ t=true)(late:Int):∃e,IA t.p8 late=some e/\0<=e/\e<=1000/\∀o f c,0<=o->o<=10000->0<=f->f<=c->1<=c->c<=8->Cd t o late f c=some (o*e*f/(1000*c)):=by obtain⟨i,hi,e⟩:=AH (Tc h) late;have a:=Yl (ar3 h).c hi (ar3 h).e;refine⟨_,e,a.1,a.2,λo f c d g f0 f1 c0 c1=>?_⟩;generalize cuV t.p8 i (lim t.p8.X late)=v at a e;have p0:0<=o*v:=cM7 d a.1;have p1:o*v<=10000*1000:=Int.mul_le_mul g a.2 a.1 F;have b:0<=o*v*f:=cM7 p0 f0;have j:o*v*f<=10000*1000*8:=Int.mul_le_mul p1 F f0 F;unfold Cd Q;rw[e,oq,b6 (n:=o*v) F F,b6 (n:=o*v*f) F F,b6 (n:=1000*c) F F];unfold KT;rw[if_neg F,oq,br2 b];have r0:0<=o*v*f/(1000*c):=cY5 b F;have r1:o*v*f/(1000*c)<=o*v*f:=cC0 _ b;have:=b6 (n:=o*v*f/(1000*c)) F F;unfold H at this;rw[this]
def QZ (m:SMap)(x y:Int):Int:=(Gk m x y).getD 0
def HB (c:R7)(x:Int):Int:=(IA c x).getD 0
theorem ZW {m:SMap}(h:sx m=true)(x y:Int):Gk m x y=some (QZ m x y):=by obtain⟨i,j,_,_,e⟩:=aE2 h x y;grind [QZ]
theorem aZ4 {c:R7}(h:mU c=true)(x:Int):IA c x=some (HB c x):=by obtain⟨i,_,e⟩:=AH h x;grind [HB]
def Bl {m:SMap}(h:sx m=true)(x y:Int){lo hi:Int}(hz:∀i j,i<m.X.length->j<m.Y.length->lo<=zz m i j/\zz m i j<=hi):lo<=QZ m x y/\QZ m x y<=hi:=by obtain⟨i,j,a,b,e⟩:=aE2 h x y;have:=aX8 (DZ h) a b hz;grind [QZ]
def Ft {c:R7}(h:mU c=true)(x:Int){lo hi:Int}(b:∀j,j<c.X.length->lo<=nd c.Y j/\nd c.Y j<=hi):lo<=HB c x/\HB c x<=hi:=by obtain⟨i,a,e⟩:=AH h x;have:=Yl (uV h) a b;grind [HB]
theorem nQ {lo hi x:Int}:E6 lo hi x=true↔lo<=x/\x<=hi:=by simp[E6]
def cD1 {m:SMap}(h:sx m=true){lo hi:Int}(hz:∀r∈m.Z,r.all (E6 lo hi)=true):∀i j,i<m.X.length->j<m.Y.length->lo<=zz m i j/\zz m i j<=hi:=by
 intro i j b d;have k:=DZ h;have a:i<m.Z.length:=by have:=k.zl;omega
 have c:j<m.Z[i].length:=by have:=k.rl i a;omega
 grind [al8,Rk,nQ]
def cD0 {c:R7}(h:mU c=true){lo hi:Int}(b:c.Y.all (E6 lo hi)=true):∀j,j<c.X.length->lo<=nd c.Y j/\nd c.Y j<=hi:=by
 intro j d;have k:=uV h;have a:j<c.Y.length:=by have:=k.yl;omega
 grind [E0,nQ,al8]
structure cE0 (t:j1):Prop where
 m:sx t.Ai=true
 c:mU t.B4=true
 z:∀i j,i<t.Ai.X.length->j<t.Ai.Y.length->0<=zz t.Ai i j/\zz t.Ai i j<=1048576
 y:∀j,j<t.B4.X.length->100<=nd t.B4.Y j/\nd t.B4.Y j<=3000
def bj1 {t:j1}(h:JA t=true):cE0 t:=by unfold JA at h;simp only[BY]at h;obtain⟨⟨⟨h1,a⟩,b⟩,c⟩:=h;refine⟨h1,a,cD1 h1 λr d=>?_,cD0 a c⟩;have:=cV2.1 b r d;simp_all[JB]
def Tn (t:j1)(s p q:Int):Int:=min 1048576<|QZ t.Ai s p*HB t.B4 q/1000
def bL {a b A B:Int}(a0:0<=a)(c:a<=A)(b0:0<=b)(b1:b<=B):0<=a*b/\a*b<=A*B:=⟨cM7 a0 b0,Int.mul_le_mul c b1 b0 F⟩
theorem Va {t:j1}(h:JA t=true)(s p q:Int):PL t s p q=some (Tn t s p q)/\0<=Tn t s p q/\Tn t s p q<=1048576:=by have k:=bj1 h;have b1:=Bl k.m s p k.z;have b2:=Ft k.c q k.y;have a:=bL (A:=1048576) (B:=3000) b1.1 b1.2 F b2.2;unfold PL Tn Q;rw[ZW k.m,aZ4 k.c];simp only[oq];rw[b6 F F,MO _ _ F F F F];simp only[oq,H2];grind
theorem A7 {lo hi x:Int}(h0:lo<=x)(h1:x<=hi):E6 lo hi x=true:=nQ.2 ⟨h0,h1⟩
theorem Rv {t:j1}(h:JA t=true){s p q:Int}(s0:0<=s/\s<=12000)(p0:50<=p/\p<=3000)(a:-40<=q/\q<=150):JC t s p q=some (Tn t s p q,0):=by simp_all[JC,Q,JD,bd,A7,Va]
structure cE7 (t:j1)(s w q p e:Int):Prop where
 out:e=0\/e=2\/e=7
 Zv:e=2↔¬(0<=w/\w<=1048576)fit:e=0->50<=p/\p<=3000/\w<=Tn t s p q
 low:e=0->50<p->Tn t s (p-1) q<w
 vJ:e=7->Tn t s 3000 q<w
def VC {t:j1}(h:JA t=true){s w q:Int}(s0:0<=s/\s<=12000)(d:-40<=q/\q<=150):∃p e,Ef t s w q=some (p,e)/\cE7 t s w q p e:=by
 unfold Ef Q;rw[JD,h,bd,bd,bd,A7 s0.1 s0.2,A7 d.1 d.2];simp only[oq,AT,cT8];cases f:E6 0 1048576 w;have a:¬(0<=w/\w<=1048576):=λj=>by grind [nQ]
 exact⟨0,2,rfl,.inr<|.inl rfl,⟨λ_=>a,λ_=>rfl⟩,λh=>(by cases h),λh=>(by cases h),λh=>by cases h⟩;have a:=nQ.1 f;simp only[AT,cT8];obtain⟨k,k1,k2,l,k4⟩:=sJ 2951 F (λb=>yx b t s q w) (λi=>decide<|Tn t s (50+(i:Int)) q>=w) (λi hi=>by unfold yx Q;rw[b6 F F,(Va h s _ q).1];rfl);have c:nK 2951 (λb=>yx b t s q w)=some (k:Int):=k2;rw[c];simp only[oq];rw[b6 (n:=50+(k:Int)) F F];by_cases hk:k=2951;subst hk;refine⟨0,7,rfl,.inr<|.inr rfl,⟨λh=>(by cases h),λh=>absurd a h⟩,λh=>(by cases h),λh=>(by cases h),λ_=>?_⟩;grind;have g:=k4 F;rw[dg1]at g;rw[cU1<|show¬50+(k:Int)>3000 by omega];refine⟨50+(k:Int),0,rfl,.inl rfl,⟨λh=>(by cases h),λh=>absurd a h⟩,λ_=>⟨F,by omega,by omega⟩,λ_ hp=>?_,λh=>by cases h⟩;grind
def aS5 (s:Int):Int:=-(-(s*65536*23040)/60000000)
def ZP {s:Int}(s0:0<=s/\s<=12000):0<=aS5 s/\aS5 s<=310000:=by grind [aS5]
def Pr (s p:Int):Int:=aS5 s*p/1024
def bl8 {s p:Int}(s0:0<=s/\s<=12000)(p0:50<=p/\p<=3000):Xt s p=some (Pr s p,0)/\0<=Pr s p/\Pr s p<=930000000:=by have r:=ZP s0;have b:=bL (B:=3000) r.1 r.2 (show 0<=p by omega) p0.2;unfold Xt Nv Ii Q;rw[bd,bd,A7 s0.1 s0.2,A7 p0.1 p0.2];rw[show(decide (s<0)||decide (s>20000))=false by grind];rw[b6 (n:=s*65536) F F,b6 (n:=s*65536*23040) F F,Oy _ _ 2 F F F F<|.inr rfl];simp only[oq,AT,cT8];rw[if_neg dq];have a:-(-(s*65536*23040)/60000000)=aS5 s:=rfl;unfold Pr;rw[a,b6 (n:=aS5 s*p) F F,br2 b.1,b6 F F];grind
structure cu6 (b:D0):Prop where
 i:100<=b.E1/\b.E1<=1048576
 f:0<=b.aa/\b.aa<=65536
 t:0<=b.B2/\b.B2<=65536
 v:1<=b.jv/\b.jv<=65536
 fi:0<=b.E4/\b.E4<=1023
 ev:1<=b.B0/\b.B0<=1024
 de:0<=b.tT/\b.tT<=20
def fU (b:D0):Bool:=E6 100 1048576 b.E1&&E6 0 65536 b.aa&&E6 0 65536 b.B2&&E6 1 65536 b.jv&&E6 0 1023 b.E4&&E6 1 1024 b.B0&&E6 0 20 b.tT
theorem as5 (b:D0):NF b=some (fU b):=by unfold NF fU Q;have e:∀x lo hi,SD x lo hi=some (E6 lo hi x):=λ_ _ _=>rfl;simp only[e,oq];cases E6 100 1048576 b.E1<;>cases E6 0 65536 b.aa<;>cases E6 0 65536 b.B2<;>cases E6 1 65536 b.jv<;>cases E6 0 1023 b.E4<;>cases E6 1 1024 b.B0<;>rfl
def yA {b:D0}(h:fU b=true):cu6 b:=by unfold fU at h;simp only[BY,nQ]at h;obtain⟨⟨⟨⟨⟨⟨h1,a⟩,c⟩,d⟩,e⟩,f⟩,g⟩:=h;exact⟨h1,a,c,d,e,f,g⟩
structure cE9 (b:D0)(f p n e:Int):Prop where
 out:e=0\/e=7
 fit:e=0->0<=n/\n<=1000/\f<=b.B2*n*(1013-p)/1000
 low:e=0->0<n->b.B2*(n-1)*(1013-p)/1000<f
 vJ:e=7->b.B2*1000*(1013-p)/1000<f
def VP {b:D0}(h:fU b=true){f p:Int}(f0:0<=f/\f<=1099511627776)(p0:50<=p/\p<=1013):∃n e,Eg b f p=some (n,e)/\cE9 b f p n e:=by
 have kb:=(yA h).t;have v:∀k:Nat,k<=1000->H (bQ2 (H<|H (b.B2*(k:Int))*H (1013-p)) 1000)=b.B2*(k:Int)*(1013-p)/1000:=by intro k hk;have b1:=bL (A:=65536) (B:=1000) kb.1 kb.2 (show 0<=(k:Int)by omega) F;have b2:=bL (A:=65536000) (B:=1000) b1.1 F (show 0<=1013-p by omega) F;grind [b6]
 unfold Eg Q;rw[as5,h,bd,bd,A7 f0.1 f0.2,A7 p0.1 p0.2];simp only[oq,AT,cT8];obtain⟨k,k1,k2,g,k4⟩:=sJ 1001 F (λa=>yy a b p f) (λi=>decide<|b.B2*(i:Int)*(1013-p)/1000>=f) (λi hi=>by grind [yy,Q]);have c:nK 1001 (λa=>yy a b p f)=some (k:Int):=k2;rw[c];simp only[oq];by_cases hk:k=1001;subst hk;refine⟨0,7,rfl,.inr rfl,λh=>(by cases h),λh=>(by cases h),λ_=>?_⟩;grind;have j:=k4 F;rw[dg1]at j;rw[cU1<|show¬(k:Int)>1000 by omega];refine⟨(k:Int),0,rfl,.inl rfl,λ_=>⟨F,by omega,by omega⟩,λ_ hp=>?_,λh=>by cases h⟩;have d:=g F;rw[cU3]at d;have e:((k-1:Nat):Int)=(k:Int)-1:=by omega
 rw[e]at d;omega
def DA (t:j1)(s c:Int):Int:=QZ t.j4 s c
def xG (t:j1)(o l f n:Int):Int:=o*HB t.p8 l*f/(1000*n)
theorem vE (x lo hi:Int):PG x lo hi=some (E6 lo hi x):=rfl
def bd8 {t:j1}(h:lQ t=true){s c:Int}(s0:0<=s/\s<=12000)(c0:0<=c/\c<=1048576):Gn t s c=some (DA t s c,0)/\0<=DA t s c/\DA t s c<=10000:=by have k:=Jq h;have b:=Bl k s c (ar3 h).z;refine⟨?_,b.1,b.2⟩;unfold Gn Q;rw[DH,h,vE,vE,A7 s0.1 s0.2,A7 c0.1 c0.2,ZW k];rfl
def am0 {t:j1}(h:lQ t=true)(l:Int):0<=HB t.p8 l/\HB t.p8 l<=1000:=by obtain⟨e,h1,a,b,_⟩:=ar4 h l;grind [HB]
theorem aA5 {t:j1}(h:lQ t=true){o l f n:Int}(a:0<=o/\o<=10000)(f0:0<=f/\f<=n)(n0:1<=n/\n<=8):Cd t o l f n=some (xG t o l f n)/\0<=xG t o l f n/\xG t o l f n<=10000:=by obtain⟨e,h1,b,c,d⟩:=ar4 h l;unfold xG HB;rw[d o f n a.1 a.2 f0.1 f0.2 n0.1 n0.2,h1];have b1:=bL (A:=10000) (B:=1000) a.1 a.2 b c;have b2:=bL (A:=10000000) b1.1 F f0.1 f0.2;refine⟨rfl,cY5 b2.1 F,?_⟩;have:o*e*f/(1000*n)<=10000000*n/(1000*n):=cv2 F b2.2;rw[show 10000000*n=10000*(1000*n)by omega,Int.mul_ediv_cancel _ F]at this;exact this
def YO {t:j1}(h:lQ t=true){s w:Int}(s0:0<=s/\s<=12000):∃c e,vG t s w=some (c,e)/\(e=0\/e=7)/\(e=0->nd t.j4.Y 0<=c/\c<=nd t.j4.Y (t.j4.Y.length-1)/\w<=QZ t.j4 s c/\(nd t.j4.Y 0<c->QZ t.j4 s (c-1)<w))/\(e=7->QZ t.j4 s (nd t.j4.Y<|t.j4.Y.length-1)<w):=by
 have k:=Jq h;have d:=(DZ k).y;have q:=d.two;have r:=d.most;have f:=d.el 0 F;have e1:=d.el (t.j4.Y.length-1) F;have le:=d.le (t.j4.Y.length-1) 0 F F;rw[<-E0 (by omega:0<t.j4.Y.length)]at f le;rw[<-E0 (by omega:t.j4.Y.length-1<t.j4.Y.length)]at e1 le;have g:y3 t.j4.Y 0=some (nd t.j4.Y 0):=by grind [j2,E0]
 have l:H ((t.j4.Y.length:Int)-1)=((t.j4.Y.length-1:Nat):Int):=by grind [b6]
 have gl:y3 t.j4.Y ((t.j4.Y.length-1:Nat):Int)=some (nd t.j4.Y<|t.j4.Y.length-1):=by grind [j2,E0]
 unfold vG Q;rw[DH,h,vE,A7 s0.1 s0.2];simp only[oq,AT,cT8];rw[g,l];simp only[oq];rw[gl];simp only[oq];generalize nd t.j4.Y 0=a at*;generalize nd t.j4.Y (t.j4.Y.length-1)=b at*;rw[b6 (n:=b-a) F F,b6 (n:=b-a+1) F F];obtain⟨n,m⟩:∃n:Nat,b-a+1=n:=⟨(b-a+1).toNat,by omega⟩;rw[m];obtain⟨j,k1,k2,u,k4⟩:=sJ n F (λo=>DG o t s a w) (λi=>decide<|QZ t.j4 s (a+(i:Int))>=w) (λi hi=>by unfold DG Q;rw[b6 F F,ZW k];rfl);rw[k2];simp only[oq];by_cases p:j=n;subst p;grind;have:((j:Int)==(n:Int))=false:=by grind
 rw[this,b6 (n:=a+(j:Int)) F F];grind
structure aW7 (t:j1)(o w n f l:Int):Prop where
 f0:0<=f
 f1:f<=n
 l0:0<=l
 l1:l<=2560
 fit:f=0\/xG t o 2560 f n<=w
 more:f<n->w<xG t o 2560 (f+1) n
 late:l<2560->xG t o l f n<=w
 less:0<l->w<xG t o (l-1) f n
theorem aU6 (t:j1)(o l n:Int):xG t o l 0 n=0:=by unfold xG;simp
theorem aW7.most {t:j1}{o w n f l:Int}(h:aW7 t o w n f l)(b:0<=w):xG t o l f n<=w:=by
 by_cases a:l<2560;·exact h.late a
 ·have:l=2560:=by have:=h.l1;omega
  subst this;rcases h.fit with h0|h0;all_goals grind [aU6]
def aa0 {t:j1}(h:lQ t=true){o w n:Int}(d:0<=o/\o<=10000)(n0:1<=n/\n<=8):∀k:Nat,(k:Int)<=n->((k:Int)<n->w<xG t o 2560 ((k:Int)+1) n)->∃f,o3 (wu t w n (o,0)) (k:Int)=some (.inl f)/\0<=f/\f<=n/\(f=0\/xG t o 2560 f n<=w)/\(f<n->w<xG t o 2560 (f+1) n)
 |0,_,b=>⟨0,j3<|by rfl,QA _,by omega,.inl rfl,b⟩|k+1,hk,b=>by
  have e:=(aA5 h (l:=2560) (f:=((k+1:Nat):Int)) d ⟨F,hk⟩ n0).1;have a:wu t w n (o,0) ((k+1:Nat):Int)=some (bif decide (xG t o 2560 ((k+1:Nat):Int) n<=w)then .inr<|.inl ((k+1:Nat):Int)else .inl (k:Int)):=by unfold wu Q;rw[cU0<|show((k+1:Nat):Int)>0 by omega,e,b6 F F,show((k+1:Nat):Int)-1=(k:Int)by omega];simp only[cT9,oq];cases decide<|xG t o 2560 ((k+1:Nat):Int) n<=w<;>rfl
  by_cases c:xG t o 2560 ((k+1:Nat):Int) n<=w;rw[cU0 c]at a;exact⟨_,j3 a,by omega,hk,.inr c,b⟩;rw[cU1 c]at a;rw[j7 a];exact aa0 h d n0 k F λ_=>by rw[show(k:Int)+1=((k+1:Nat):Int)by omega];omega
def bY3 {t:j1}(h:lQ t=true){s c w n:Int}(s0:0<=s/\s<=12000)(c0:0<=c/\c<=1048576)(w0:0<=w)(n0:1<=n/\n<=8):∃f l,oT t s c w n=some (f,l,0)/\aW7 t (DA t s c) w n f l:=by obtain⟨h1,d⟩:=bd8 h s0 c0;unfold oT Q;rw[h1];simp only[oq];rw[show((0:Int)!=0)=false from rfl,vE,A7 n0.1 n0.2,cU1<|show¬w<0 by omega];simp only[cT8,oq,AT,aj3];generalize DA t s c=o at d;obtain⟨k,hk⟩:∃k:Nat,n=k:=⟨n.toNat,by omega⟩;obtain⟨f,f1,e,g,m,p⟩:=aa0 h (w:=w) d n0 k F (λh=>by omega);rw[<-hk]at f1;rw[f1];simp only[oq];obtain⟨j,k1,k2,r,k4⟩:=sJ 2560 F (λa=>Ac a t o f n w) (λi=>decide<|xG t o (i:Int) f n<=w) (λi hi=>by grind [Ac,Q,aA5]);have b:nK 2560 (λa=>Ac a t o f n w)=some (j:Int):=k2;rw[b];refine⟨f,(j:Int),rfl,e,g,by omega,by omega,m,p,λq=>?_,λq=>?_⟩;all_goals grind
theorem bD7 {t:j1}(h:lQ t=true){s c l f n:Int}(s0:0<=s/\s<=12000)(c0:0<=c/\c<=1048576)(l0:0<=l/\l<=2560)(f0:0<=f/\f<=n)(n0:1<=n/\n<=8):Cc t s c l f n=some (xG t (DA t s c) l f n,0):=by obtain⟨h1,a⟩:=bd8 h s0 c0;unfold Cc Q;rw[h1];simp only[oq];rw[show((0:Int)!=0)=false from rfl,vE,vE,vE,A7 l0.1 l0.2,A7 n0.1 n0.2,A7 f0.1 f0.2,(aA5 h a f0 n0).1];rfl
def Jf (n f i:Int):Bool:=decide<|(i+1)*f/n>i*f/n
theorem ay5 {a b:Int}(c:0<=a)(d:0<b)(e:a<=9223372036854775807):KT .i64 a b=some (a/b):=by have h1:a/b<=a:=cC0 _ c;have f:0<=a/b:=cY5 c F;unfold KT;rw[if_neg F,br2 c];have:=b6 (n:=a/b) F F;grind
theorem be1 {n:Nat}{f:Int}(n0:1<=n/\n<=8)(f0:0<=f/\f<=n):Aa (n:Int) f 0=some ((MY n).map λi:Nat=>Jf n f (i:Int),0):=by
 unfold Aa Q;rw[vE,vE,vE,A7 F F,A7 f0.1 f0.2];simp only[oq,AT,cT8];rw[show E6 0 1099511627776 0=true from rfl,yf n F];simp only[oq,AT,cT8];obtain⟨u,e,a⟩:=sB (cI5 n false).length (by simp;omega) (Ab (n:Int) f 0) (λi u=>u.length=n/\∀j,j<i->u[j]?=some (Jf n f (j:Int))) (cI5 n false) ⟨sq,λj b=>by omega⟩ (λj b u a=>by
  simp only[List.length_replicate]at b;obtain⟨c,d⟩:=a;unfold Ab Q;have g:=bL (A:=9) (B:=8) (show 0<=(j:Int)+1 by omega) F f0.1 F;have k:=bL (A:=9) (B:=8) (show 0<=(j:Int)by omega) F f0.1 F;have l:SF (H<|(j:Int)+0) (n:Int)=some (j:Int):=by unfold SF;rw[if_neg F,Int.add_zero,b6 F F,aW6 F,Int.emod_eq_of_lt F F]
  rw[l];simp only[oq];rw[b6 (n:=(j:Int)+1) F F,b6 (n:=((j:Int)+1)*f) F F,b6 (n:=(j:Int)*f) F F,ay5 g.1 F F,ay5 k.1 F F];simp only[oq];rw[j2 _ _ F];simp only[oq];rw[D4 _ _ _ F];refine⟨_,rfl,by simp[c],λi hi=>?_⟩;rcases db7 i j with h|h;rw[List.getElem?_set_ne F];exact d i h;have:i=j:=by omega
  subst this;rw[List.getElem?_set_self F];rfl);rw[e];simp only[List.length_replicate]at a;have:u=(MY n).map λi:Nat=>Jf n f (i:Int):=by apply List.ext_getElem?;intro i;rcases db7 i n with h|h;rw[a.2 i h,List.getElem?_map,List.getElem?_range h];rfl;rw[cK8 F,cK8<|by simp;omega]
 rw[this];rfl
end Go.Pv
namespace Go.Pv.Ev
open Go Go.Pv
theorem Ll {α:Type}(c:Bool)(x y:α):(bif c then some x else some y)=some (bif c then x else y):=by grind
theorem bO3 {p:Prop}[Decidable p]{b:Bool}(h:p↔b=true):decide p=b:=by grind
def ND {α:Type}[DecidableEq α]:∀{l m:List α},l.Nodup->(∀x∈l,x∈m)->m.length<=l.length->l.Perm m|[],m,_,_,h=>by grind|x::l,m,b,d,f=>by have hx:x∈m:=d x<|cV7 ..;have hp:=List.perm_cons_erase hx;rw[List.nodup_cons]at b;have a:=hp.length_eq;simp only[cU9]at a f;refine(List.Perm.cons x<|ND b.2 (λy e=>?_) F).trans hp.symm;have c:y≠x:=λh=>b.1<|h▸e;exact(List.mem_erase_of_ne c).2<|d y<|List.mem_cons_of_mem _ e
theorem Zb {l:List Int}:l.Nodup↔∀i (h:i<l.length),l[i]∉l.take i:=by grind [List.pairwise_iff_getElem,Kz]
theorem bz5 {l:List Int}:(∀k,k<l.length->(k:Int)+1∈l)↔(∀x∈l,1<=x/\x<=l.length)/\l.Nodup:=by
 have a:((MY l.length).map λk:Nat=>(k:Int)+1).Nodup:=by grind [List.pairwise_lt_range]
 have b:∀x:Int,x∈(MY l.length).map (λk:Nat=>(k:Int)+1)↔1<=x/\x<=l.length:=by intro x;rw[List.mem_map];constructor;grind;intro h;exact⟨(x-1).toNat,by grind,by omega⟩
 constructor;intro h;have hp:((MY l.length).map λk:Nat=>(k:Int)+1).Perm l:=ND a λx hx=>by grind sq;grind;rintro⟨h1,c⟩k hk;have hp:l.Perm<|(MY l.length).map λk:Nat=>(k:Int)+1:=ND c (λx hx=>(b x).2<|h1 x hx) sq;grind
def idx (v:Int):List Int->Nat->Int|[],_=>-1|x::l,i=>bif v==x then(i:Int)else idx v l<|i+1
theorem IH (v:Int):∀(l:List Int)(i:Nat),idx v l i=-1/\v∉l\/∃k:Nat,idx v l i=((i+k:Nat):Int)/\l[k]?=some v
 |[],i=>.inl ⟨rfl,by simp⟩|x::l,i=>by
  unfold idx;cases h:v==x;have a:v≠x:=by grind
  rcases IH v l<|i+1with⟨h1,b⟩|⟨k,h1,b⟩;grind;exact .inr ⟨k+1,by grind,by grind⟩;grind
theorem aw4 (v:Int)(l:List Int):decide (idx v l 0>=0)=decide (v∈l):=by grind [IH]
def cx5 {v:Int}{l:List Int}(h:v∈l):∃k:Nat,idx v l 0=(k:Int)/\k<l.length/\l[k]?=some v:=by rcases IH v l 0 with⟨h1,a⟩|⟨k,h1,a⟩;all_goals grind
def an2 (v:Int):∀(l:List Int)(i:Nat),(tI (F0 (λ(i:Int)x (_:Unit)=>bif v==x then some (Fl.ret i)else some<|Fl.next ()) l (i:Int) ()) λ(t:Unit⊕Int)=>match t with|.inl _=>some<|-1|.inr r2=>some r2)=some (idx v l i)|[],i=>rfl|x::l,i=>by simp only[F0,idx];cases v==x;simpa using an2 v l<|i+1;rfl
theorem MW (s:List Int)(v:Int)(h:s.length<=9223372036854775807):zY s v=some (idx v s 0):=by unfold zY Q;have:J9 (s.length:Int) (CZ s v) ()=F0 (λ(i:Int)x (_:Unit)=>bif v==x then some (Fl.ret i)else some<|Fl.next ()) s 0 ():=yi s h _ ();rw[this];refine Eq.trans ?_<|an2 v s 0;kernel_rfl
theorem contains_eq (s:List Int)(v:Int)(h:s.length<=9223372036854775807):sK s v=some (decide<|v∈s):=by grind [sK,Q,MW,aw4]
def R5 (e:j5):Prop:=1<=e.ai9.length/\e.ai9.length<=8/\0<=e.R6/\e.R6<46080/\(∀x∈e.ai9,1<=x/\x<=(e.ai9.length:Int))/\e.ai9.Nodup
instance (e:j5):Decidable<|R5 e:=by unfold R5;infer_instance
theorem aK7 {e:j5}(h:(decide ((e.ai9.length:Int)<1)||decide ((e.ai9.length:Int)>8)||!(decide (e.R6>=0)&&decide (e.R6<46080)))=true):¬R5 e:=by rintro⟨h1,a,b,c,_⟩;grind
def aK8 {e:j5}(h:(decide ((e.ai9.length:Int)<1)||decide ((e.ai9.length:Int)>8)||!(decide (e.R6>=0)&&decide (e.R6<46080)))=false):1<=e.ai9.length/\e.ai9.length<=8/\0<=e.R6/\e.R6<46080:=by grind
theorem JG {n:Nat}{p:Nat->Bool}:(cX1 0 n).all p=true↔∀k,k<n->p k=true:=by simp
theorem aN (e:j5):yI e=some (decide<|R5 e):=by
 unfold yI Kr Q;have c:(tI<|bif decide ((e.ai9.length:Int)<1)||decide ((e.ai9.length:Int)>8)then some true else tI (some<|decide (e.R6>=0)&&decide (e.R6<46080)) λv=>some !v:(Bool->Option Bool)->Option Bool)=λk=>k<|decide ((e.ai9.length:Int)<1)||decide ((e.ai9.length:Int)>8)||!(decide (e.R6>=0)&&decide (e.R6<46080)):=by grind
 rw[c];cases d:decide ((e.ai9.length:Int)<1)||decide ((e.ai9.length:Int)>8)||!(decide (e.R6>=0)&&decide (e.R6<46080));obtain⟨h1,f,g,h⟩:=aK8 d;have k:=tM (mb:=vM e) (λi=>(i:Int)+1) (p:=λi=>decide<|(i:Int)+1∈e.ai9) (b0:=.inl<|(e.ai9.length:Int)+1) (b1:=.inr false) e.ai9.length (by unfold vM Q;rw[show decide ((e.ai9.length:Int)+1<=(e.ai9.length:Int))=false by simp;omega];rfl) (λk hk=>by unfold vM Q;simp only[show decide ((k:Int)+1<=(e.ai9.length:Int))=true by simp;omega,cT9,contains_eq e.ai9 _ F,oq,b6 (n:=(k:Int)+1+1) F F];cases decide<|(k:Int)+1∈e.ai9<;>rfl);simp only[show((0:Nat):Int)+1=1 from rfl]at k;simp only[cT8];rw[k];have j:R5 e↔(cX1 0 e.ai9.length).all (λi=>decide<|(i:Int)+1∈e.ai9)=true:=by rw[JG];simp only[dg1];rw[bz5];unfold R5;constructor;rintro⟨_,_,_,_,a,b⟩;exact⟨a,b⟩;rintro⟨a,b⟩;exact⟨h1,f,g,h,a,b⟩
 rw[bO3 j];cases(cX1 0 e.ai9.length).all λi=>decide<|(i:Int)+1∈e.ai9<;>rfl;simp_all[aK7]
theorem Fc (e:j5):oD e=some (decide<|R5 e):=by
 unfold oD xe Q;have g:(tI<|bif decide ((e.ai9.length:Int)<1)||decide ((e.ai9.length:Int)>8)then some true else tI (some<|decide (e.R6>=0)&&decide (e.R6<46080)) λv=>some !v:(Bool->Option Bool)->Option Bool)=λk=>k<|decide ((e.ai9.length:Int)<1)||decide ((e.ai9.length:Int)>8)||!(decide (e.R6>=0)&&decide (e.R6<46080)):=by grind
 rw[g];cases l:decide ((e.ai9.length:Int)<1)||decide ((e.ai9.length:Int)>8)||!(decide (e.R6>=0)&&decide (e.R6<46080));obtain⟨h1,m,o,q⟩:=aK8 l;have k:=tM (mb:=jf e) (λi=>(i:Int)) (p:=λi=>decide (1<=e.ai9.getD i 0/\e.ai9.getD i 0<=(e.ai9.length:Int))&&(e.ai9.take i).all λy=>!y==e.ai9.getD i 0) (b0:=.inl (e.ai9.length:Int)) (b1:=.inr false) e.ai9.length (by unfold jf Q;rw[show decide ((e.ai9.length:Int)<(e.ai9.length:Int))=false by simp];rfl) (λk hk=>by
  have a:e.ai9.getD k 0=e.ai9[k]:=by simp[List.getD,IN hk]
  have c:(e.ai9.take k).length=k:=by rw[List.length_take];omega
  have k2:=lL (mb:=jg e (k:Int) e.ai9[k]) (λi=>(i:Int)) (p:=λy=>!y==e.ai9[k]) (b0:=.inl (k:Int)) (b1:=.inr false) (e.ai9.take k) (by rw[c];unfold jg Q;rw[show decide ((k:Int)<(k:Int))=false by simp];rfl) (λj y b=>by
   have r:j<k:=by have:=(No.1 b).1;omega
   have d:e.ai9[j]?=some y:=by rw[<-b,List.getElem?_take,if_pos r]
   unfold jg Q;simp only[show decide ((j:Int)<(k:Int))=true by simp;omega,cT9,B3,d,oq,b6 (n:=(j:Int)+1) F F];cases y==e.ai9[k]<;>rfl);rw[show((0:Nat):Int)=0 from rfl]at k2;unfold jf Q;simp only[show decide ((k:Int)<(e.ai9.length:Int))=true by simp;omega,cT9,j2 _ _ hk,oq,a,b6 (n:=(k:Int)+1) F F,k2];have e1:(tI<|bif decide<|e.ai9[k]<1then some true else some<|decide<|e.ai9[k]>(e.ai9.length:Int):(Bool->Option (Int⊕Int⊕Bool))->Option (Int⊕Int⊕Bool))=λf=>f !decide (1<=e.ai9[k]/\e.ai9[k]<=(e.ai9.length:Int)):=by
   funext f;have:(!decide (1<=e.ai9[k]/\e.ai9[k]<=(e.ai9.length:Int)))=(decide (e.ai9[k]<1)||decide (e.ai9[k]>(e.ai9.length:Int))):=by rw[zc];simp only[nW,cU3,bh7,dg1];omega
   rw[this];cases decide<|e.ai9[k]<1<;>rfl
  rw[e1];cases decide<|1<=e.ai9[k]/\e.ai9[k]<=(e.ai9.length:Int);rfl;simp only[AT,cT8,cV0];cases(e.ai9.take k).all λy=>!y==e.ai9[k]<;>rfl);simp only[show((0:Nat):Int)=0 from rfl]at k;simp only[cT8];rw[k];have s:R5 e↔(cX1 0 e.ai9.length).all (λi=>decide (1<=e.ai9.getD i 0/\e.ai9.getD i 0<=(e.ai9.length:Int))&&(e.ai9.take i).all λy=>!y==e.ai9.getD i 0)=true:=by
  rw[JG];unfold R5;rw[Zb];have a:∀k (hk:k<e.ai9.length),e.ai9.getD k 0=e.ai9[k]:=λk hk=>by simp[List.getD,IN hk]
  constructor;rintro⟨_,_,_,_,t,u⟩k hk;rw[a k hk,BY,dg1,cV2];refine⟨t _<|al8 hk,λy b=>?_⟩;simp only[nW,beq_eq_false_iff_ne];exact λh=>u k hk<|h▸b;intro h;refine⟨h1,m,o,q,λx hx=>?_,λk hk w=>?_⟩;obtain⟨k,hk,rfl⟩:=Kz.1 hx;have:=h k hk;rw[a k hk,BY,dg1]at this;exact this.1;have:=h k hk;rw[a k hk,BY,cV2]at this;have:=this.2 _ w;simp at this
 rw[bO3 s];cases(cX1 0 e.ai9.length).all λi=>decide (1<=e.ai9.getD i 0/\e.ai9.getD i 0<=(e.ai9.length:Int))&&(e.ai9.take i).all λy=>!y==e.ai9.getD i 0<;>rfl;simp_all[aK7]
end Go.Pv.Ev
namespace Go.Pv
open Go
def k0:y6:=⟨0,100,0⟩
def br8:w4:=⟨⟨0,0,false⟩,⟨0⟩,[],⟨false,false,0,0,[]⟩,0,⟨0,0⟩⟩
def ay2:E7:=⟨false,false,1000,0,cI5 9 ⟨0,0⟩⟩
def bd6 (n:Nat):w4:=⟨⟨0,0,false⟩,⟨0⟩,cI5 n k0,ay2,0,⟨0,-1⟩⟩
theorem bA9 (n:Nat)(h1:1<=n)(a:n<=8):aM [k0] (n:Int)=some (cI5 n k0):=by
 have key:o3 nu (1,lN (cI5 n ⟨0,0,0⟩) [k0])=some (.inl ((n:Int),cI5 n k0)):=by
  have:n=1\/n=2\/n=3\/n=4\/n=5\/n=6\/n=7\/n=8:=by omega
  rcases this with rfl|rfl|rfl|rfl|rfl|rfl|rfl|rfl;exact j3 (by rfl);exact(j7 (s':=(2,[k0,k0]))<|by rfl).trans<|j3 (by rfl);exact(j7 (s':=(2,[k0,k0,⟨0,0,0⟩]))<|by rfl).trans<|(j7 (s':=(3,[k0,k0,k0]))<|by rfl).trans<|j3 (by rfl);exact(j7 (s':=(2,[k0,k0,⟨0,0,0⟩,⟨0,0,0⟩]))<|by rfl).trans<|(j7 (s':=(4,[k0,k0,k0,k0]))<|by rfl).trans<|j3 (by rfl);exact(j7 (s':=(2,[k0,k0,⟨0,0,0⟩,⟨0,0,0⟩,⟨0,0,0⟩]))<|by rfl).trans<|(j7 (s':=(4,[k0,k0,k0,k0,⟨0,0,0⟩]))<|by rfl).trans<|(j7 (s':=(5,[k0,k0,k0,k0,k0]))<|by rfl).trans<|j3 (by rfl);exact(j7 (s':=(2,[k0,k0,⟨0,0,0⟩,⟨0,0,0⟩,⟨0,0,0⟩,⟨0,0,0⟩]))<|by rfl).trans<|(j7 (s':=(4,[k0,k0,k0,k0,⟨0,0,0⟩,⟨0,0,0⟩]))<|by rfl).trans<|(j7 (s':=(6,[k0,k0,k0,k0,k0,k0]))<|by rfl).trans<|j3 (by rfl);exact(j7 (s':=(2,[k0,k0,⟨0,0,0⟩,⟨0,0,0⟩,⟨0,0,0⟩,⟨0,0,0⟩,⟨0,0,0⟩]))<|by rfl).trans<|(j7 (s':=(4,[k0,k0,k0,k0,⟨0,0,0⟩,⟨0,0,0⟩,⟨0,0,0⟩]))<|by rfl).trans<|(j7 (s':=(7,[k0,k0,k0,k0,k0,k0,k0]))<|by rfl).trans<|j3 (by rfl);exact(j7 (s':=(2,[k0,k0,⟨0,0,0⟩,⟨0,0,0⟩,⟨0,0,0⟩,⟨0,0,0⟩,⟨0,0,0⟩,⟨0,0,0⟩]))<|by rfl).trans<|(j7 (s':=(4,[k0,k0,k0,k0,⟨0,0,0⟩,⟨0,0,0⟩,⟨0,0,0⟩,⟨0,0,0⟩]))<|by rfl).trans<|(j7 (s':=(8,[k0,k0,k0,k0,k0,k0,k0,k0]))<|by rfl).trans<|j3<|by rfl
 have b:HV (IS.wrap (([k0]:List y6).length:Int)) (IS.wrap (n:Int))=some (0,(n:Int)):=by
  have:n=1\/n=2\/n=3\/n=4\/n=5\/n=6\/n=7\/n=8:=by omega
  rcases this with rfl|rfl|rfl|rfl|rfl|rfl|rfl|rfl<;>rfl
 have c:CT (H (n:Int)) (⟨0,0,0⟩:y6)=some (cI5 n ⟨0,0,0⟩):=by
  have:n=1\/n=2\/n=3\/n=4\/n=5\/n=6\/n=7\/n=8:=by omega
  rcases this with rfl|rfl|rfl|rfl|rfl|rfl|rfl|rfl<;>rfl
 have a3:((min ([k0]:List y6).length (cI5 n (⟨0,0,0⟩:y6)).length:Nat):Int)=1:=by grind
 unfold aM;grind
theorem bA1:Vy=some ay2:=rfl
theorem be6:Jb=some ay2:=rfl
theorem Yi (e:j5):MC e=some (bif decide (Ev.R5 e)then(bd6 e.ai9.length,0)else(br8,1)):=by
 unfold MC Q;rw[Ev.aN,oq];by_cases h:Ev.R5 e;rw[cU0 h,AT,cT8];have h1:=h.1;have a:=h.2.1;have:Uu (e.ai9.length:Int)=some (cI5 e.ai9.length k0,0):=by unfold Uu Q;rw[cU1 F,cU1 F,cM1,cT8,show([(⟨0,100,0⟩:y6)]:List y6)=[k0]from rfl,bA9 _ h1 a];rfl
 rw[this,bA1];rfl;rw[cU1 h];rfl
theorem az1 (e:j5):Be e=some (bif decide (Ev.R5 e)then(bd6 e.ai9.length,0)else(br8,1)):=by unfold Be Q;rw[Ev.Fc,oq];by_cases h:Ev.R5 e;rw[cU0 h,AT,cT8,be6,oq];have a:=h.2.1;have:=cd (mb:=mQ e) (λk=>((k:Int),cI5 k k0)) (b0:=.inl ((e.ai9.length:Int),cI5 e.ai9.length k0)) e.ai9.length (by simp[mQ,Q]) (λk hk=>by unfold mQ Q;simp only;rw[ltN hk,cT9,l5 _ _ gq,oq,Y8 k F,List.replicate_succ'];rfl);rw[show((0:Nat):Int)=0 from rfl,show cI5 0 k0=[]from rfl]at this;rw[this];rfl;rw[cU1 h];rfl
def SB (p:ia):Bool:=decide<|0<=p.Value/\p.Value<=1000/\0<=p.X6/\p.X6<=3/\(p.xI=true↔p.X6=3)/\(p.xI=true->p.Value<=200)
theorem bU8 (p:ia):NC p=some (SB p):=by obtain⟨v,d,f⟩:=p;unfold NC SB Q;cases f;simp only[cT8,oq,AI];grind;simp only[cT9,oq,AI];grind
theorem cn9 (p:ia):xw p=some (SB p):=by obtain⟨v,d,f⟩:=p;unfold xw SB Q;simp only;cases a:decide (v<0)||decide (v>1000)||decide (d<0)||decide (d>3)||!f==(d==3);rw[cT8,AI];grind;rw[cT9,AI];grind
def Po (c:dy):Bool:=E6 (-100) 100 c.Value&&E6 0 1000 c.s6
def Pd (p:E7):Bool:=E6 750 1250 p.N2&&E6 0 1000 p.pL&&decide (p.Cells.length=9)&&(p.T3||decide (p.N2=1000)&&decide (p.pL=0)&&!p.nA)&&p.Cells.all Po
def bM2 (c:dy):jI c=some !Po c:=by unfold jI Po Q;rw[show oJ c.Value (-100) 100=some (E6 (-100) 100 c.Value)from rfl,show oJ c.s6 0 1000=some (E6 0 1000 c.s6)from rfl];grind
theorem bd4 (p:E7):vy p=some (Pd p):=by
 unfold vy Pd;rw[show oJ p.N2 750 1250=some (E6 750 1250 p.N2)from rfl,show oJ p.pL 0 1000=some (E6 0 1000 p.pL)from rfl,oq];cases E6 750 1250 p.N2;rfl;cases E6 0 1000 p.pL;rfl;by_cases d:p.Cells.length=9;have:((p.Cells.length:Int)!=9)=false:=by simp;omega
 have k:cC p.Cells jI=some (p.Cells.any λc=>!Po c):=W2 p.Cells F jI _ λc _=>bM2 c;rw[this,k,cU0 d,dc8];simp only[AT,cV8,cT8,cT9,oq,cV0,cM1,cM8];cases p.T3;have e:(p.N2 !=1000||p.pL !=0||p.nA)=!(decide (p.N2=1000)&&decide (p.pL=0)&&!p.nA):=by cases p.nA<;>by_cases a:p.N2=1000<;>by_cases b:p.pL=0<;>simp[a,b]
 simp only[cV8,cT9,oq,db8];rw[e];cases decide (p.N2=1000)&&decide (p.pL=0)&&!p.nA<;>rfl;rfl;have:((p.Cells.length:Int)!=9)=true:=by simp;omega
 rw[this,cU1 d];rfl
theorem yh (x lo hi:Int):aJ x lo hi=some (E6 lo hi x):=rfl
theorem az4 (p:E7):oI p=some (Pd p):=by
 unfold oI Pd;rw[yh,yh,oq];cases E6 750 1250 p.N2;rfl;cases E6 0 1000 p.pL;rfl;by_cases c:p.Cells.length=9;have:((p.Cells.length:Int)!=9)=false:=by simp;omega
 rw[this,cU0 c,Br Po p.Cells (by unfold ji;rw[cU1 F];rfl) λk hk=>by unfold ji Po;rw[cU0 F,cT9,j2 _ k hk,oq,yh,yh,Y8 k F];cases E6 (-100) 100 p.Cells[k].Value;rfl;cases E6 0 1000 p.Cells[k].s6<;>rfl];simp only[AT,cV8,cT8,cT9,oq,cV0,cM1,cM8];cases p.Cells.all Po;rw[cY3];rfl;rw[dd8,cT9];simp only;cases p.T3;have e:(p.N2==1000&&p.pL==0&&!p.nA)=(decide (p.N2=1000)&&decide (p.pL=0)&&!p.nA):=by cases p.nA<;>by_cases a:p.N2=1000<;>by_cases b:p.pL=0<;>simp[a,b]
 rw[cT8,e];rfl;rfl;have:((p.Cells.length:Int)!=9)=true:=by simp;omega
 rw[this,cU1 c];rfl
def knB (k:y6):Bool:=E6 0 960 k.U7&&E6 0 4095 k.Q9&&decide (k.Quiet>=0)&&decide (k.Quiet<=99)
theorem cs8 (k:y6):Ns k=some (knB k):=by unfold Ns knB Q;rw[show Lq k.Q9=some (E6 0 4095 k.Q9)from rfl,show(decide (k.U7>=0)&&decide (k.U7<=960))=E6 0 960 k.U7 from rfl];grind
theorem cA5 (k:y6):xn k=some (knB k):=by unfold xn knB Q;rw[show oG k.Q9=some (E6 0 4095 k.Q9)from rfl,show(decide (k.U7>=0)&&decide (k.U7<=960))=E6 0 960 k.U7 from rfl];grind
def FA (e:j5)(c:w4):Bool:=decide (Ev.R5 e)&&SB c.B6&&Pd c.K7&&decide (c.I7.length=e.ai9.length)&&c.I7.all knB&&E6 (-4398046511104) 4398046511104 c.T4.Sum&&E6 0 1073741824 c.E4&&E6 (-5000) 10000 c.bZ.j4&&E6 (-1) 15 c.bZ.H3
theorem bm1 (e:j5)(c:w4):Kf e c=some (FA e c):=by
 unfold Kf FA Q;rw[Ev.aN,bU8,bd4];simp only[oq];by_cases h:Ev.R5 e;rw[cU0 h];cases SB c.B6;rfl;cases Pd c.K7;rfl;by_cases a:c.I7.length=e.ai9.length;have:((c.I7.length:Int)!=(e.ai9.length:Int))=false:=by simp;omega
 have b:=h.2.1;have k:S9 c.I7 yF=some (c.I7.any λk=>!knB k):=W2 c.I7 F yF _ (λk _=>by unfold yF Q;rw[cs8];rfl);rw[this,cU0 a,k,dc8];simp only[AT,cV8,cT8,cT9,oq,cV0,cM1,cM8];rw[show AF c.T4.Sum (-4398046511104) 4398046511104=some (E6 (-4398046511104) 4398046511104 c.T4.Sum)from rfl,show AF c.E4 0 1073741824=some (E6 0 1073741824 c.E4)from rfl,show AF c.bZ.j4 (-5000) 10000=some (E6 (-5000) 10000 c.bZ.j4)from rfl,show AF c.bZ.H3 (-1) 15=some (E6 (-1) 15 c.bZ.H3)from rfl];cases c.I7.all knB;rfl;cases E6 (-4398046511104) 4398046511104 c.T4.Sum;rfl;cases E6 0 1073741824 c.E4;rfl;cases E6 (-5000) 10000 c.bZ.j4<;>rfl;have:((c.I7.length:Int)!=(e.ai9.length:Int))=true:=by simp;omega
 rw[this,cU1 a];rfl;rw[cU1 h];rfl
theorem bW3 (e:j5)(c:w4):zO e c=some (FA e c):=by
 unfold zO FA Q;rw[Ev.Fc,cn9,az4,show qc c.T4=some (E6 (-4398046511104) 4398046511104 c.T4.Sum)from rfl,CX,CX,show uM c.bZ.j4=some (E6 (-5000) 10000 c.bZ.j4)from rfl];simp only[oq];by_cases h:Ev.R5 e;rw[cU0 h];cases SB c.B6;rfl;cases Pd c.K7;rfl;by_cases a:c.I7.length=e.ai9.length;have:((c.I7.length:Int)!=(e.ai9.length:Int))=false:=by simp;omega
 have b:=h.2.1;rw[this,cU0 a,Br knB c.I7 (by unfold su Q;rw[ai3];rfl) λk hk=>by unfold su Q;rw[ltN hk,cT9,j2 _ k hk,oq,cA5,oq,Y8 k F];cases knB c.I7[k]<;>rfl];cases E6 (-4398046511104) 4398046511104 c.T4.Sum;simp;cases E6 0 1073741824 c.E4;simp;cases c.I7.all knB;rfl;cases E6 (-5000) 10000 c.bZ.j4<;>rfl;have:((c.I7.length:Int)!=(e.ai9.length:Int))=true:=by simp;omega
 rw[this,cU1 a];cases E6 (-4398046511104) 4398046511104 c.T4.Sum<;>rfl;rw[cU1 h];simp
def ZJ (r:b7):Bool:=decide<|0<=r.H3/\r.H3<=15/\0<=r.u5/\r.u5<=15/\-5000<=r.j4/\r.j4<=10000/\(r.Kind=1\/r.H3<=1/\(r.Kind=2\/r.Kind=3))
theorem bW0 (r:b7):pD r=some (ZJ r):=by
 obtain⟨s,k,t,p⟩:=r;unfold pD ZJ rD Q;simp only;cases a:decide (s<0)||decide (s>15)||decide (p<0)||decide (p>15);rw[cT8,oq,oq];cases ht:decide (t>=-5000)&&decide (t<=10000);rw[cV8,cT9,AI];symm;rw[cU3];simp at a ht;omega;rw[AT,cT8];simp at a ht;by_cases q:k=1;subst q;simp;omega;have:(k==1)=false:=by simp;exact q
 rw[this,cT8];by_cases z:s<=1;rw[cU0 z,cT9,oq,oq,AI];apply xK;simp;omega;rw[cU1 z,cT8,oq,oq,AI];symm;rw[cU3];omega;rw[cT9,oq,cT9,AI];symm;rw[cU3];simp at a;omega
theorem co2 (r:b7):xu r=some (ZJ r):=by obtain⟨s,k,t,p⟩:=r;unfold xu ZJ uM Q;simp only;cases a:decide (s<0)||decide (s>15)||decide (p<0)||decide (p>15);rw[cT8,oq,oq];cases ht:decide (t>=-5000)&&decide (t<=10000);rw[cV8,cS9,cS9,cT9,AI];symm;rw[cU3];simp at a ht;omega;rw[AT,db8];cases hk:decide (k<1)||decide (k>3);rw[cT8,AI];apply xK;simp at a ht hk|-;omega;rw[cT9,AI];symm;rw[cU3];simp at a ht hk;omega;rw[cT9,oq,cS9,cS9,cT9,AI];symm;rw[cU3];simp at a;omega
def aX7 (i:G4)(n:Int):Bool:=E6 1 8 n&&decide ((i.A5.length:Int)=n)&&decide (i.Requests.length<=30)&&E6 0 12000 i.n4&&E6 50 3000 i.z6&&E6 (-40) 150 i.B4&&E6 (-40) 150 i.M4&&E6 0 20000 i.aO&&E6 0 20000 i.Lambda&&i.A5.all (E6 0 4095)&&i.Requests.all ZJ
theorem cw1 (x lo hi:Int):AF x lo hi=some (E6 lo hi x):=rfl
theorem cv1 (i:G4)(n:Int):HC i n=some (aX7 i n):=by
 unfold HC aX7 Q;simp only[cw1,oq];cases b:E6 1 8 n;rfl;have d:1<=n/\n<=8:=by unfold E6 at b;simp at b;omega
 by_cases a:(i.A5.length:Int)=n;by_cases c:i.Requests.length<=30;have k:Z3 i.Requests vL=some (i.Requests.any λk=>!ZJ k):=W2 i.Requests F vL _ (λk _=>by unfold vL Q;rw[bW0];rfl);have h1:((i.A5.length:Int)!=n)=false:=by simp;exact a
 rw[h1,cU1 F,cU0 a,cU0 c,k,yG _ F,dc8];simp only[AT,cV8,cT8,cT9,oq,cV0,cM1,cM8];cases E6 0 12000 i.n4;rfl;cases E6 50 3000 i.z6;rfl;cases E6 (-40) 150 i.B4;rfl;cases E6 (-40) 150 i.M4;rfl;cases E6 0 20000 i.aO;rfl;cases E6 0 20000 i.Lambda;rfl;cases i.A5.all<|E6 0 4095<;>rfl;rw[cU0 (by omega:(i.Requests.length:Int)>30),cU1 c,Bool.or_true,cY3];rfl;have h1:((i.A5.length:Int)!=n)=true:=by simp;exact a
 rw[h1,cU1 a];rfl
theorem cm9 (i:G4)(n:Int):xx i n=some (aX7 i n):=by
 unfold xx aX7 Q;simp only[CX,oq];cases b:E6 1 8 n;rfl;have d:1<=n/\n<=8:=by unfold E6 at b;simp at b;omega
 by_cases a:(i.A5.length:Int)=n;by_cases c:i.Requests.length<=30;have h1:((i.A5.length:Int)!=n)=false:=by simp;exact a
 rw[h1,cU1 F,cU0 a,cU0 c,Br (E6 0 4095) i.A5 (by unfold qn Q;rw[cU1 F];rfl) λk hk=>by unfold qn Q;rw[cU0 F,cT9,j2 _ k hk,oq,show oG i.A5[k]=some (E6 0 4095 i.A5[k])from rfl,oq,Y8 k F];cases E6 0 4095 i.A5[k]<;>rfl,Br ZJ i.Requests (by unfold qo Q;rw[ai3];rfl) λk hk=>by unfold qo Q;rw[ltN hk,cT9,j2 _ k hk,oq,co2,oq,Y8 k F];cases ZJ i.Requests[k]<;>rfl];simp only[AT,cV8,cT8,cT9,oq,cV0,cM1,cM8];cases E6 0 12000 i.n4;rfl;cases E6 50 3000 i.z6;rfl;cases E6 (-40) 150 i.B4;rfl;cases E6 (-40) 150 i.M4;rfl;cases E6 0 20000 i.aO;rfl;cases E6 0 20000 i.Lambda;rfl;cases i.A5.all<|E6 0 4095;rfl;cases i.Requests.all ZJ<;>rfl;rw[cU0 (by omega:(i.Requests.length:Int)>30),cU1 c,Bool.or_true,cY3];cases E6 0 12000 i.n4;rfl;cases E6 50 3000 i.z6;rfl;cases E6 (-40) 150 i.B4;rfl;cases E6 (-40) 150 i.M4;rfl;cases E6 0 20000 i.aO;rfl;cases E6 0 20000 i.Lambda<;>rfl;have h1:((i.A5.length:Int)!=n)=true:=by simp;exact a
 rw[h1,cU1 a];cases E6 0 12000 i.n4;rfl;cases E6 50 3000 i.z6;rfl;cases E6 (-40) 150 i.B4;rfl;cases E6 (-40) 150 i.M4;rfl;cases E6 0 20000 i.aO;rfl;cases E6 0 20000 i.Lambda<;>rfl
end Go.Pv

/- A part of the proof of EcuSteps: The value machine, and more. -/
import Derived.Test.YtlbfdimlomockaaGreatEcuStepsA
import Derived.Orders
import Derived.ProofKit
import Derived.OpenShut
import Derived.WalkKit
import Derived.Below
import Derived.Carry
import Derived.Laws.StructEq
import Derived.Laws.MakeOwn
import Derived.Shelf.SlSortCmp.NoneTotal
import Derived.Deep.Draws
import Derived.Lib.BitFns
import Derived.Shelf.Strconv.Itoa0
import Derived.Shelf.Bits.Mul64
import Derived.Scope
import Derived.OrdersHeld
import Derived.Shelf.Sort.Plain
import Derived.Shelf.Slices.In.SortNone
import Derived.Shelf.Slices.CompactI
set_option linter.all false
set_option maxRecDepth 100000
noncomputable section
open Array renaming getD_eq_getD_getElem?->cT3,getElem?_append_left->df2,getElem?_eq_some_iff->cL9,getElem_toList->cS7,length_toList->cT1,replicate->cS8
open Bool renaming and_eq_true->BY,false_eq_true->cX5,not_eq_true'->nW,or_eq_true->bh7
open Int renaming le_refl->QA
open Go.IntKind renaming bits->cL0,signed->cZ5,u64->IS,wrap->de9
open List renaming all_eq_true->cV2,append_assoc->cW5,append_nil->iy,cons_append->cX8,drop_drop->bT3,drop_eq_nil_iff->de7,eq_nil_of_length_eq_zero->de1,filter_append->bO6,getD_eq_getElem?_getD->db9,getElem?_append_left->cI7,getElem?_append_right->dc0,getElem?_cons_zero->cY1,getElem?_drop->de5,getElem?_eq_getElem->IN,getElem?_eq_some_iff->No,getElem?_map->bg5,getElem?_take->db5,getElem?_toArray->da9,getElem_append_left->cW9,getElem_append_right->cL3,getElem_drop->cY2,getElem_map->cX7,getElem_mem->al8,getElem_replicate->de3,getElem_set->cZ8,getElem_take->dd0,head?_drop->cX6,length_append->IT,length_cons->cU9,length_drop->dc1,length_map->cW2,length_set->cz1,length_take->cV5,map_append->dc9,map_cons->ew,map_nil->db6,map_toArray->cZ9,mem_append->bX2,mem_cons->cV6,mem_cons_of_mem->cV3,mem_cons_self->cV7,mem_iff_getElem->Kz,mem_map->cX3,mem_of_getElem?->bX3,mem_of_mem_take->cL4,mem_range->cD9,range->MY,range'->cX1,replicate->cI5,setIfInBounds_toArray->de4,size_toArray->da4
open Nat renaming add_assoc->cD6,add_mul->dd9,add_zero->cq7,beq->cV4,beq_refl->tj,ble->dc6,blt->Y3,div_add_mod->cL5,div_eq_of_lt->df1,div_lt_of_lt_mul->cO2,eq_of_beq_eq_true->bD,eq_zero_or_pos->cz3,le_of_ble_eq_true->cU8,le_refl->cW6,lt_of_lt_of_le->dc7,min_eq_left->cP6,mod_eq_of_lt->cZ2,mod_lt->cY9,mul_add_mod->cR5,mul_comm->dd3,mul_le_mul_right->cW8,succ_mul->dc5,zero_add->cX4,zero_lt_one->cR6
open Option renaming bind->tI,bind_some->oq,isNone_iff_eq_none->cR7,map_eq_some_iff->dd4,map_none->db1,map_some->cW3
open Option.some renaming inj->oa,injEq->AI
open Prod.mk renaming injEq->cz4
open Go.Result renaming andThen_ok->OF
open Go.Sem renaming run_bind->cV1,run_pure->cW0
namespace Go.Pv
open Go.RowKit
def more (tm tm':J4):Prop:=∀k t,look tm k=some t->look tm' k=some t
theorem u6 {tm tm':J4}(h:more tm tm'){x:Operand}{t:T}(hx:val tm x=some t):val tm' x=some t:=by cases x with|tmp k=>exact h k t hx|const v=>exact hx|func f=>exact hx|global g=>exact hx
theorem UP {tm tm':J4}(h:more tm tm'):∀{l:List Operand}{r:List T},GJ tm l=some r->GJ tm' l=some r
 |[],r,hx=>hx|o::l,r,hx=>by
  unfold GJ at hx|-;split at hx<;>try cases hx;done
  rename_i y m a b;rw[u6 h a,UP h b];exact hx
def Qv {f:Int->Int->Int}{tm tm':J4}(h:more tm tm'):∀{l:List Operand}{X:Option T}{r:T},Lm f tm X l=some r->Lm f tm' X l=some r|[],X,r,hx=>by cases X<;>exact hx|o::l,X,r,hx=>by unfold Lm at hx|-;split at hx;rename_i a;cases a;rename_i k i o' l' a;cases a;split at hx;rename_i c j b;simp[u6 h b];exact Qv h hx;cases hx;cases hx
def Yw {f:Int->Int->Int}{tm:J4}{l:List Operand}{r:T}(h:Lm f tm none l=some r):False:=by cases l<;>simp[Lm]at h
theorem Ks {hp:F1}{tm tm':J4}(h:more tm tm'){a:Nat->Option (Nat×Nat)}:∀{l:List<|Nat×Operand}{cs r:List T},nF hp tm a cs l=some r->nF hp tm' a cs l=some r|[],cs,r,hx=>hx|(i,x)::l,cs,r,hx=>by unfold nF at hx|-;cases b:val tm x with|none=>grind|some t=>
   rw[u6 h b];rw[b]at hx;split at hx<;>try cases hx
   rename_i o n m h1 d;cases c:cV4 m.length n&&dc6 (o+m.length) cs.length<;>simp only[c,cT9]at hx|-;·cases hx
   ·exact Ks h hx
def be5 {c:Bool}{X a b d:Option T}{t:T}(e:∀t,X=some t->b=some t)(f:∀t,a=some t->d=some t)(h:SC c X a=some t):SC c b d=some t:=by unfold SC at h;split at h;rw[e _ rfl,f _ rfl];exact h;cases c;unfold SC;grind;unfold SC;grind
def HM:Op->Bool|.move _|.assign _|.pick ..|.load ..|.fieldAddr ..|.nilCheck _|.binOp ..|.unOp ..|.convert ..|.extract ..|.build ..|.call _|.indexAddr ..|.index ..=>true|_=>false
def aL0 {tab:vH}{tm tm':J4}{hp:F1}{o:Oper}{t:T}(h:more tm tm')(hi:HM o.op=true)(a:evalOp tab ⟨tm,hp⟩ o=some (t,⟨tm,hp⟩)):evalOp tab ⟨tm',hp⟩ o=some (t,⟨tm',hp⟩):=by
 rw[sV]at a|-;obtain⟨dst,w,type,pos,C,guard⟩:=o;have mp:∀{x:Option T},x=some t->x.map (·,(⟨tm',hp⟩:St))=some (t,⟨tm',hp⟩):=λhx=>by rw[hx];rfl
 cases w<;>simp only[HM,reduceCtorEq]at hi<;>simp only[Bw]at a|-;case move x=>exact mp<|u6 h (H0 a).1
 case assign x=>exact mp<|u6 h (H0 a).1
 case pick c x y=>
  split at a<;>try cases a;done
  rename_i b D;rw[u6 h D];exact mp<|be5 (λt ht=>u6 h ht) (λt ht=>u6 h ht) (H0 a).1
 case load ty x=>
  split at a<;>try cases a;done
  ·rename_i id off ti hx j;rw[u6 h hx,j];split at a<;>try cases a;done
   rename_i I g;simp only[g];exact mp (H0 a).1
  ·rename_i cells ti hx j;rw[u6 h hx,j];exact mp (H0 a).1
 case nilCheck x=>
  split at a<;>try cases a;done
  ·rename_i id off hx;rw[u6 h hx];simp only[AI,cz4]at a;rw[<-a.1]
  ·rename_i cells hx;rw[u6 h hx];simp only[AI,cz4]at a;rw[<-a.1]
  ·rename_i hx;rw[u6 h hx];simp only[AI,cz4]at a;rw[<-a.1]
 case fieldAddr s x f=>
  split at a<;>try cases a;done
  all_goals
   rename_i hx j;rw[u6 h hx,j];split at a<;>try cases a;done
   rename_i r;simp only[r];simp only[AI,cz4]at a;rw[<-a.1]
 case binOp w ty x y yt=>
  have g:=(H0 a).1;refine mp ?_;unfold bK2 at g|-;split at g<;>try cases g;done
  ·rename_i hx A;rw[u6 h hx,u6 h A];exact g
  ·rename_i hx A;rw[u6 h hx,u6 h A];exact g
 case unOp w ty x=>
  have g:=(H0 a).1;refine mp ?_;unfold unT at g|-;split at g<;>try cases g;done
  ·rename_i hx;rw[u6 h hx];exact g
  ·rename_i hx;rw[u6 h hx];exact g
 case convert s d x=>
  split at a<;>try cases a;done
  rename_i ti J;have g:=(H0 a).1;refine mp ?_;unfold aK1 at g|-;split at g<;>try cases g;done
  rename_i hx;rw[u6 h hx];exact g
 case extract x k=>
  split at a<;>try cases a;done
  rename_i l hx;rw[u6 h hx];exact mp (H0 a).1
 case build ty parts=>
  split at a<;>try cases a;done
  ·rename_i sz E z j;cases r:nF hp tm (E[·]?) (z.map λx=>.t<|.v x) parts.toList with|none=>simp[r]at a|some l=>rw[Ks h r];simp only[r,cW3,AI,cz4]at a;simp only[cW3,a.1]
  ·rename_i sz n e z j;split at a<;>try cases a;done
   rename_i u m;try simp only[m]
   cases r:nF hp tm (λi=>some (i*u.size,u.size)) (z.map λx=>.t<|.v x) parts.toList with|none=>simp[r]at a|some l=>rw[Ks h r];simp only[r,cW3,AI,cz4]at a;simp only[cW3,a.1]
 case indexAddr ty x ix=>
  split at a<;>try cases a;done
  all_goals
   rename_i hx j p;split at a<;>try cases a;done
   rename_i u m
  ·rename_i id off sz n e z ik i _;rw[u6 h hx,j,u6 h p];try simp only[m]
   cases g:Y3 i n<;>simp only[g,cT9,cT8,reduceCtorEq,AI,cz4]at a|-;exact⟨a.1,trivial⟩
  ·rename_i cells sz n e z ik i _;rw[u6 h hx,j,u6 h p];try simp only[m]
   cases g:Y3 i n<;>simp only[g,cT9,cT8,reduceCtorEq,AI,cz4]at a|-;exact⟨a.1,trivial⟩
  ·rename_i id k sz' off sz n e z ik i _;rw[u6 h hx,j,u6 h p];try simp only[m]
   cases g:Y3 i n<;>simp only[g,cT9,cT8,reduceCtorEq,AI,cz4]at a|-;exact⟨a.1,trivial⟩
 case index ty x ix=>
  split at a<;>try cases a;done
  rename_i l sz n e z ik i hx j p;split at a<;>try cases a;done
  rename_i u m;rw[u6 h hx,j,u6 h p];try simp only[m]
  cases g:Y3 i n<;>simp only[g,cT9,cT8,reduceCtorEq]at a|-;exact mp (H0 a).1
 case call c=>
  have g:=(H0 a).1;refine mp ?_;unfold aJ1 at g|-;split at g<;>try cases g;done
  ·rename_i x ty h1 B K;cases q:val tm x with|none=>rw[show val (⟨tm,hp⟩:St).tm x=none from q]at g;unfold aN3 at g;split at g<;>simp at g|some y=>rw[show val (⟨tm,hp⟩:St).tm x=some y from q]at g;show aN3 tab hp ty (val tm' x)=some t;rw[u6 h q];exact g
  ·rename_i x rest h1 B;cases q:val tm x with|none=>rw[show val (⟨tm,hp⟩:St).tm x=none from q]at g;exact(Yw g).elim|some y=>rw[show val (⟨tm,hp⟩:St).tm x=some y from q]at g;show Lm ba9 tm' (val tm' x) rest=some t;rw[u6 h q];exact Qv h g
  ·rename_i x rest h1 B;cases q:val tm x with|none=>rw[show val (⟨tm,hp⟩:St).tm x=none from q]at g;exact(Yw g).elim|some y=>rw[show val (⟨tm,hp⟩:St).tm x=some y from q]at g;show Lm q9 tm' (val tm' x) rest=some t;rw[u6 h q];exact Qv h g
section
variable {ρ τ α:Type}{X:Cx}{ks:List K}{J3:J4}{hp:F1}{all:Array Oper}{o:Oper}{V:T}
theorem ca {tm tm':J4}{l:List Oper}{g:Option<|Nat×Bool}{b:Bool}(h:more tm tm')(a:R8 l tm g=some b):R8 l tm' g=some b:=by cases g with|none=>exact a|some p=>
  simp[R8]at a|-;split at a<;>try cases a
  split at a<;>try cases a
  rename_i d e;cases c:look tm d with|none=>grind|some t=>simp[c]at a;simp[h d t c];exact a
end
def uW (o:Oper):List Nat:=(o.after.toList.filter<|Region.binds .any).map (·.on)
def waits (ops:List Oper):Nat->Nat->Nat->Bool|0,_,_=>false|f+1,j,i=>match ops[j]?with|some o=>(uW o).any (λk=>cV4 k i)||(uW o).any λk=>waits ops f k i|none=>false
def ca3 (ops:List Oper)(h:Nat):Bool:=(MY ops.length).all λj=>(match ops[j]?with|some o=>(uW o).all λk=>Y3 k j|none=>true)&&(Y3 j h||(MY j).all λi=>waits ops ops.length j i)
def Um (nt:Nat)(tm0:J4):List Oper->Bool|[]=>true|o::r=>(match o.dst with|some d=>(look tm0 d).isNone&&Y3 d nt&&r.all (λo'=>match o'.dst with|some a=>!Nat.beq d a|none=>true)|none=>true)&&Um nt tm0 r
def minOf (ops:List Oper)(Vs:List T)(tm0:J4):List Nat->J4|[]=>tm0|j::r=>match ops[j]?,Vs[j]?with
  |some o,some V=>match o.dst with|some d=>(d,V)::minOf ops Vs tm0 r|none=>minOf ops Vs tm0 r
  |_,_=>minOf ops Vs tm0 r
def Qw:List Oper->List T->J4->J4
 |o::r,V::l,tm0=>match o.dst with|some d=>(d,V)::Qw r l tm0|none=>Qw r l tm0
 |_,_,tm0=>tm0
section
variable {X:Cx}{all:Array Oper}{Vs:List T}{tm0:J4}{hp:F1}
def YW {ops:List Oper}{tm:J4}(h0:more tm0 tm):∀(l:List Nat),(∀j o V d,j∈l->ops[j]?=some o->Vs[j]?=some V->o.dst=some d->look tm d=some V)->more (minOf ops Vs tm0 l) tm|[],_=>h0|j::r,h=>by have b:=YW h0 r λc o V d e=>h c o V d<|cV3 _ e;unfold minOf;split;split;rename_i d f;intro k t hk;simp[look]at hk;by_cases a:d=k;subst a;simp[tj,cT9]at hk;grind;simp[s9 a]at hk;exact b k t hk;exact b;exact b
def Vo {tm:J4}(h0:more tm0 tm):∀(ops:List Oper)(l:List T),(∀(j:Nat)(o:Oper)(V:T)(d:Nat),ops[j]?=some o->l[j]?=some V->o.dst=some d->look tm d=some V)->more (Qw ops l tm0) tm|[],_,_=>by cases‹List T›<;>exact h0|o::ops,[],_=>h0|o::ops,V::l,h=>by have b:=Vo h0 ops l λj o V d e f=>h (j+1) o V d gq gq;unfold Qw;split;rename_i d c;intro k t hk;simp[look]at hk;by_cases a:d=k;subst a;simp[tj,AI]at hk;subst hk;exact h 0 o V d rfl rfl c;simp[s9 a]at hk;exact b k t hk;exact b
def FB {nt:Nat}:∀{l:List Oper},Um nt tm0 l=true->∀(i j:Nat)(o o':Oper)(d b:Nat),l[i]?=some o->l[j]?=some o'->o.dst=some d->o'.dst=some b->(look tm0 d=none/\d<nt)/\(i≠j->d≠b)
 |[],_,i,j,o,o',d,b,hi,_,_,_=>by simp at hi|x::r,h,i,j,o,o',d,b,hi,m,g,f=>by
  simp[Um,BY]at h;have one:∀(k:Nat)(y:Oper)(c c':Nat),x.dst=some c->r[k]?=some y->y.dst=some c'->c≠c':=by intro k y c c' hx hk q;have n:y∈r:=bX3 hk;have h1:=h.1;rw[hx]at h1;simp[BY,cV2]at h1;have:=h1.2 y n;intro e;simp_all
  cases i with|zero=>simp[cY1,AI]at hi;refine⟨?_,λp=>?_⟩;simp_all;grind|succ i=>
   have a:r[i]?=some o:=by grind
   cases j with|zero=>simp[cY1,AI]at m;subst m;exact⟨(FB h.2 i i o o d d a a g g).1,λ_ e=>one i o b d f a g e.symm⟩|succ j=>have:=FB h.2 i j o o' d b a gq g f;grind
def Th {ops:List Oper}{o5:Array Bool}(a:∀j o,ops[j]?=some o->o5.getD j false=true->∀k∈uW o,o5.getD k false=true):∀(f j i:Nat),waits ops f j i=true->(∀o,ops[j]?=some o->∀k∈uW o,o5.getD k false=true)->o5.getD i false=true|0,_,_,h,_=>by simp[waits]at h|f+1,j,i,h,d=>by unfold waits at h;split at h;rename_i o e;simp only[bh7,List.any_eq_true]at h;rcases h with⟨k,hk,b⟩|⟨k,hk,b⟩;have:=bD b;subst this;exact d o e k hk;exact Th a f k i b λo' c=>a k o' c<|d o e k hk;cases h
def unl (n:Nat)(o5:Array Bool):Nat:=((MY n).filter λi=>!o5.getD i false).length
def cq1 {n i:Nat}{o5:Array Bool}(hi:i<n)(a:o5.size=n)(h:o5.getD i false=false):unl n o5=unl n (o5.setIfInBounds i true)+1:=by
 unfold unl;have key:∀m,((MY m).filter λj=>!o5.getD j false).length=((MY m).filter λj=>!(o5.setIfInBounds i true).getD j false).length+if i<m then 1 else 0:=by intro m;induction m with|zero=>simp|succ m b=>rw[List.range_succ,bO6,bO6,IT];by_cases c1:i=m;simp_all;have e:(o5.setIfInBounds i true).getD m false=o5.getD m false:=getD_set_ne false c1;grind
 grind
def cb5 {n:Nat}{o5:Array Bool}(h:unl n o5=0):∀i,i<n->o5.getD i false=true:=by grind [unl,List.filter_eq_nil_iff]
def Kh {o:Oper}{o5:Array Bool}(h:∀e∈o.after,Region.binds .any e=true->o5.getD e.on false=true):∀k∈uW o,o5.getD k false=true:=by intro k hk;simp[uW,cX3]at hk;grind
def bI5 {P:Program}{Q:Exit->Act->World->Prop}{h:Nat}(ht:ca3 all.toList h=true):∀(fuel m:Nat)(o5:Array Bool)(a:Act)(w:World),h<=m->m+fuel=all.size->o5.size=all.size->(∀j,j<all.size->o5.getD j false=decide (j<m))->wpList P all Q (all.toList.drop m) a w->wpAny P .any all Q fuel o5 a w:=by intro fuel;induction fuel with|zero=>intro m o5 a w D E s g f;have t:all.toList.drop m=[]:=List.drop_eq_nil_of_le (by simp;omega);rw[t]at f;refine⟨?_,f⟩;apply List.eq_nil_iff_forall_not_mem.2;grind [mem_ready]|succ fuel I=>
  intro m o5 a w D E s g f;have b:m<all.size:=by omega
  have u:all[m]?=some all[m]:=Array.getElem?_eq_getElem b;have A:∀j o,all.toList[j]?=some o->o5.getD j false=true->∀k∈uW o,o5.getD k false=true:=by
   intro j o p q k hk;have d:j<all.size:=by have:=(No.1 p).1;simpa using this
   have h1:=cV2.1 ht j<|cD9.2 (by simpa using d);rw[p]at h1;simp only[BY,cV2]at h1;have J:k<j:=cU8<|h1.1 k hk;rw[g j d]at q;rw[g k F];simp at q|-;omega
  have only:∀j∈Region.ready .any all o5,j=m:=by
   intro j q;obtain⟨h1,o,p,K⟩:=mem_ready.1 q;have d:j<all.size:=(cL9.1 p).1;have v:o5.getD j true=o5.getD j false:=by simp[s,d]
   rw[v,g j d]at h1;simp at h1;have r:=cV2.1 ht j<|cD9.2 (by simpa using d);simp only[BY,bh7,cV2]at r;rcases Nat.lt_or_ge m j with l|L;exfalso;have f:=(r.2.resolve_left λB=>by have:=cU8 B;omega) m<|cD9.2 l;have:=Th A _ j m f (λo' x k hk=>by
    have:o'=o:=by rw[<-Array.getElem?_toList]at p;rw[p]at x;exact(oa x).symm
    subst this;exact Kh K k hk);rw[g m b]at this;simp at this;omega
  have y:m∈Region.ready .any all o5:=by
   have v:o5.getD m true=false:=by
    have v:o5.getD m true=o5.getD m false:=by simp[s,b]
    rw[v,g m b];simp
   refine mem_ready.2 ⟨v,all[m],u,λe M B=>?_⟩;have r:=cV2.1 ht m<|cD9.2 (by simpa using b);have z:all.toList[m]?=some all[m]:=by simp
   rw[z]at r;simp only[BY,cV2]at r;have hk:e.on∈uW all[m]:=by simp only[uW,cX3,List.mem_filter];exact⟨e,⟨by simpa using M,B⟩,rfl⟩
   have l:e.on<m:=cU8<|r.1 e.on hk;rw[g e.on F];simpa using l
  refine⟨λh0=>(by rw[h0]at y;cases y),λi hi=>?_⟩;have:=only i hi;subst this;have n:all.toList.drop i=all[i]::all.toList.drop (i+1):=by rw[List.drop_eq_getElem_cons<|by simpa using b];simp
  rw[n]at f;unfold wpList at f;unfold wpOp;simp only[u];have next:∀a w,wpList P all Q (all.toList.drop<|i+1) a w->wpAny P .any all Q fuel (o5.setIfInBounds i true) a w:=λa w f=>I (i+1) _ a w F F (by simp[s]) λj q=>by by_cases c:i=j;subst c;simp[s,b];rw[getD_set_ne false c,g j q];simp;omega f;split at f;rename_i C;rw[if_pos C];exact f.imp (Oper.wp_mono next) id;rename_i C;rw[if_neg C];exact next _ _ f
theorem SI (n j:Nat):(cS8 n false).getD j false=false:=by simp[cT3];grind
end
def ca2 {P:Program}{t:Nat}{ti:TI}{t0:Nat}{a:TI}{r:vH}(h:look ((t0,a)::r) t=some ti)(h0:Ci P t0 a)(k:look r t=some ti->Ci P t ti):Ci P t ti:=by simp[look]at h;by_cases ht:t0=t;subst ht;simp[tj,AI]at h;subst h;exact h0;simp[s9 ht]at h;exact k h
mutual def sP (id:Nat)(u:T):T->T|.own i=>bif cV4 i id then u else .own i|.agg l=>.agg<|vD id u l|.Z9 l=>.Z9<|vD id u l|.Fu f l=>.Fu f<|vD id u l|x=>x def vD (id:Nat)(u:T):List T->List T|[]=>[]|x::r=>sP id u x::vD id u r end
def SY (id:Nat)(u:T):J4->J4|[]=>[]|(k,x)::r=>(k,sP id u x)::SY id u r
def Da (id:Nat)(u:T):F1->F1|[]=>[]|(k,.box l)::r=>bif cV4 k id then Da id u r else(k,.box<|vD id u l)::Da id u r|(k,x)::r=>bif cV4 k id then Da id u r else(k,x)::Da id u r
section
variable {w:World}{S S':Nat->Prop}{E:Nat->Value}{id:Nat}{u:T}
mutual theorem ab2 (d:∀b,S b->S' b)(j:RV w S' E (E id) u):∀{t:T}{v:Value},RV w S E v t->RV w S' E v (sP id u t)
 |.t x,v,h=>by simp only[sP];exact h.mono d (λ_ _=>rfl) λ_ _=>rfl|.el c,v,h=>by simp only[sP];exact h.mono d (λ_ _=>rfl) λ_ _=>rfl|.ptr i o,v,h=>by simp only[sP];exact h.mono d (λ_ _=>rfl) λ_ _=>rfl|.pe i a b c,v,h=>by simp only[sP];exact h.mono d (λ_ _=>rfl) λ_ _=>rfl|.vw i a b c,v,h=>by simp only[sP];exact h.mono d (λ_ _=>rfl) λ_ _=>rfl|.own i,v,h=>by
  simp only[sP];by_cases hi:i=id;subst hi;simp only[tj,cT9];cases h with|own _ _ k=>rw[<-k];exact j
  simp only[s9 hi,cT8];exact h.mono d (λ_ _=>rfl) λ_ _=>rfl|.agg l,v,h=>by simp only[sP];cases h with|agg vs _ e g=>have:=Jl d j (l:=l) (vs:=vs) ⟨e,g⟩;exact .agg vs _ this.1 this.2
 |.Z9 l,v,h=>by simp only[sP];cases h with|Z9 vs _ e g=>have:=Jl d j (l:=l) (vs:=vs) ⟨e,g⟩;exact .Z9 vs _ this.1 this.2
 |.Fu f l,v,h=>by simp only[sP];cases h with|Fu _ vs _ e g=>have:=Jl d j (l:=l) (vs:=vs) ⟨e,g⟩;exact .Fu f vs _ this.1 this.2
 |.fz n c,v,h=>by simp only[sP];exact h.mono d (λ_ _=>rfl) λ_ _=>rfl|.any,v,h=>by simp only[sP];exact .any v;theorem Jl (d:∀b,S b->S' b)(e:RV w S' E (E id) u):∀{l:List T}{vs:List Value},xJ w S E vs l->xJ w S' E vs (vD id u l)|[],vs,h=>⟨h.1,λj _ c=>by simp[vD]at c⟩|x::l,vs,h=>by cases vs with|nil=>have:=h.1;simp at this|cons v vs=>have h1:=ab2 d e (t:=x)<|h.2 0 sq sq;have c:=Jl d e (l:=l) (vs:=vs) ⟨by simpa using h.1,λj a b=>h.2 (j+1) (by simpa using a)<|by simpa using b⟩;refine⟨by simp[vD,c.1],λj a b=>?_⟩;cases j with|zero=>exact h1|succ j=>exact c.2 j (by simpa using a)<|by simpa[vD]using b;end
end
theorem Rc (id:Nat)(u:T):∀(l:J4)(k:Nat),look (SY id u l) k=(look l k).map (sP id u)|[],k=>rfl|(j,x)::r,k=>by simp[SY,look];by_cases a:j=k;subst a;simp;simp[s9 a,Rc id u r k]
theorem bP (id:Nat)(u:T):∀(l:F1)(k:Nat)(b:ck),look (Da id u l) k=some b->k≠id/\∃b0,look l k=some b0/\(match b0 with|.box f=>b=.box (vD id u f)|x=>b=x)|[],k,b,h=>by simp[Da,look]at h|(j,.box f)::r,k,b,h=>by simp[Da]at h;by_cases a:j=id;subst a;simp[tj]at h;obtain⟨h1,b0,c,d⟩:=bP j u r k b h;exact⟨h1,b0,by simp[look,s9<|Ne.symm h1];exact c,d⟩;simp[s9 a,cT8,look]at h;by_cases hk:j=k;subst hk;simp[tj,cT9,AI]at h;exact⟨a,.box f,by simp[look],h.symm⟩;simp[s9 hk]at h;obtain⟨h1,b0,c,d⟩:=bP id u r k b h;exact⟨h1,b0,by simp[look,s9 hk];exact c,d⟩|(j,.rows e sz n rs)::r,k,b,h=>by simp[Da]at h;by_cases a:j=id;subst a;simp[tj,cT9]at h;obtain⟨h1,b0,c,d⟩:=bP j u r k b h;exact⟨h1,b0,by simp[look,s9<|Ne.symm h1];exact c,d⟩;simp[s9 a,cT8,look]at h;by_cases hk:j=k;subst hk;simp[tj,AI]at h;exact⟨a,.rows e sz n rs,by simp[look],h.symm⟩;simp[s9 hk,cT8]at h;obtain⟨h1,b0,c,d⟩:=bP id u r k b h;exact⟨h1,b0,by simp[look,s9 hk,cT8];exact c,d⟩|(j,.mp es)::r,k,b,h=>by simp[Da]at h;by_cases a:j=id;subst a;simp[tj,cT9]at h;obtain⟨h1,b0,c,d⟩:=bP j u r k b h;exact⟨h1,b0,by simp[look,s9<|Ne.symm h1,cT8];exact c,d⟩;simp[s9 a,cT8,look]at h;by_cases hk:j=k;subst hk;simp[tj,AI]at h;exact⟨a,.mp es,by simp[look],h.symm⟩;simp[s9 hk,cT8]at h;obtain⟨h1,b0,c,d⟩:=bP id u r k b h;exact⟨h1,b0,by simp[look,s9 hk,cT8];exact c,d⟩|(j,.rv y e sz n rs)::r,k,b,h=>by simp[Da]at h;by_cases a:j=id;subst a;simp[tj]at h;obtain⟨h1,b0,c,d⟩:=bP j u r k b h;exact⟨h1,b0,by simp[look,s9<|Ne.symm h1];exact c,d⟩;simp[s9 a,cT8,look]at h;by_cases hk:j=k;subst hk;simp[tj,cT9,AI]at h;exact⟨a,.rv y e sz n rs,by simp[look],h.symm⟩;simp[s9 hk,cT8]at h;obtain⟨h1,b0,c,d⟩:=bP id u r k b h;exact⟨h1,b0,by simp[look,s9 hk];exact c,d⟩
section
variable {ρ τ α:Type}{X:Cx}{ks:List K}{tm:J4}{hp:F1}{m:Option ρ}{Q:ρ->Exit->St->Prop}{all:Array Oper}{o:Oper}{rest:List Oper}
theorem Jv.frz {w0:World}{L:GL}{nt:Nat}{a:Act}{w:World}(id:Nat){e sz n:Nat}{rs:List<|List Tree}(m:look hp id=some (.rows e sz n rs))(h:Jv w0 L nt ⟨tm,hp⟩ a w):Jv w0 L nt ⟨SY id (.t<|.sl n rs) tm,Da id (.t<|.sl n rs) hp⟩ a w:=by
 obtain⟨S,E,hk⟩:=h;let S':Nat->Prop:=λb=>S b\/H9 (E id)=some b;have o:∀b,S b->S' b:=λb m=>.inl m;have B:RV w S' E (E id)<|.t<|.sl n rs:=by have v:Ok w0 L nt ⟨tm,[(id,.rows e sz n rs)]⟩ S E a w:={hk with hp:=λi b d=>by simp[look]at d;by_cases hi:id=i;subst hi;simp[tj,AI]at d;subst d;exact hk.hp id _ m;simp[s9 hi]at d,own:=λi b β d l=>by simp[look]at d;by_cases hi:id=i;subst hi;simp[tj,AI]at d;exact hk.own id _ β m l;simp[s9 hi]at d,cJ:=λi x b C β h1 f _ _=>by simp[look]at h1 f;by_cases hi:id=i<;>by_cases q:id=x;exact hi.symm.trans q;simp[s9 q]at f;simp[s9 hi]at h1;simp[s9 hi]at h1};refine .t<|OC v (e:=e) (sz:=sz) (by simp[look]) S' o λb d=>?_;obtain⟨i,_,p,l⟩:=d;simp[look]at p;by_cases hi:id=i;subst hi;exact .inr l;simp[s9 hi]at p
 refine⟨S',E,{keep:=hk.keep,size:=hk.size,defers:=hk.defers,lB:=λb d=>?_,base:=λb d=>?_,tm:=λk t ht=>?_,hp:=λi b hi=>?_,own:=λi b β hi l=>?_,cJ:=λi x b C β h1 f l z=>?_,Rm:=hk.Rm}⟩;rcases d with h1|h1;exact hk.lB b h1;exact(hk.own id _ b m h1).2.1;rcases d with h1|h1;exact hk.base b h1;rcases(hk.own id _ b m h1).2.2 with f|f;exact .inr<|.inr f;exact .inr<|.inl f;rw[Rc]at ht;cases p:look tm k with|none=>simp[p]at ht|some t0=>simp[p,cW3,AI]at ht;subst ht;exact ab2 o B<|hk.tm k t0 p
 obtain⟨r,b0,g,u⟩:=bP _ _ _ _ _ hi;have j:=hk.hp i b0 g;cases b0 with|box P=>subst u;obtain⟨β,vs,s,h1,f,D,I,J⟩:=j;have:=Jl o B ⟨D,I⟩;exact⟨β,vs,s,h1,f,this.1,this.2,J⟩|rows e' K Q M=>subst u;exact j.mono o (λ_ _=>rfl) (λ_ _=>rfl) λ_ _=>rfl|mp es=>subst u;exact j.mono o (λ_ _=>rfl) (λ_ _=>rfl) λ_ _=>rfl|rv y e sz n rs=>subst u;exact j.mono o (λ_ _=>rfl) (λ_ _=>rfl) λ_ _=>rfl
 obtain⟨r,b0,g,_⟩:=bP _ _ _ _ _ hi;have:=hk.own i b0 β g l;exact⟨λhx=>hx.elim this.1 λhx=>r<|hk.cJ i id b0 _ β g m l hx,this.2⟩;obtain⟨_,c,N,_⟩:=bP _ _ _ _ _ h1;obtain⟨_,O,A,_⟩:=bP _ _ _ _ _ f;exact hk.cJ i x c O β N A l z
theorem o0.frz {ops:List Oper}(id:Nat){e sz n:Nat}{rs:List<|List Tree}(b:look hp id=some (.rows e sz n rs))(h:o0 X all ops ks ⟨SY id (.t<|.sl n rs) tm,Da id (.t<|.sl n rs) hp⟩ m Q):o0 X all ops ks ⟨tm,hp⟩ m Q:=λr c a w d=>h r c a w<|d.frz id b
theorem M8.frz {e':Exit}(id:Nat){e sz n:Nat}{rs:List<|List Tree}(b:look hp id=some (.rows e sz n rs))(h:M8 X ks e' ⟨SY id (.t<|.sl n rs) tm,Da id (.t<|.sl n rs) hp⟩ m Q):M8 X ks e' ⟨tm,hp⟩ m Q:=λr c a w d=>h r c a w<|d.frz id b
end
end Go.Pv
namespace Go.Pv
open Go.RowKit Go.WideShapes Go.ChangeShapes
def RTL (w:World)(S:Nat->Prop)(cs:List Value)(a:List Tree):Prop:=cs.length=a.length/\∀j (h1:j<cs.length)(b:j<a.length),RT w S cs[j] a[j]
def Dd (w:World):Nat->Prop:=λb=>b<w.heap.size
def Reads (P:Program)(t:Nat){α:Type}(enc:α->List Tree)(b:α->Prop):Prop:=∀(a:Type)(e:TypeId×Value->a)(w:World)(fuel:Nat)(cs:List Value)(x:DataW a×List MemPlace),DataW.trod e P w 0 (λ_=>true) true fuel t cs=some x->∃y:α,b y/\RTL w (Dd w) cs (enc y)
section
variable {P:Program}{t:Nat}
theorem RTL.one {w:World}{S:Nat->Prop}{v:Value}{y:Tree}(h:RT w S v y):RTL w S [v] [y]:=⟨rfl,λj h1 a=>by have:j=0:=(by simp at h1;omega);subst this;exact h⟩
def cs1 {k:IntKind}{enc:Int->List Tree}(ht:P.underlying t=some (.int k))(b:∀n,enc n=[.v<|.int k n]):Reads P t enc λn=>(Lit.int k n).wf=true:=by intro a e w fuel cs x h;obtain⟨n,rfl,_,c⟩:=DataW.trod_int ht h;exact⟨n,c,by rw[b];exact .one<|.v _⟩
def ca9 {enc:Bool->List Tree}(ht:P.underlying t=some .bool)(b:∀n,enc n=[.v<|.bool n]):Reads P t enc λ_=>True:=by intro a e w fuel cs x h;obtain⟨n,rfl,_⟩:=DataW.trod_bool ht h;exact⟨n,trivial,by rw[b];exact .one<|.v _⟩
def wfL {α:Type}(a:α->Prop)(l:List α):Prop:=l.length<=9223372036854775807/\∀y∈l,a y
def aD9 {el:Nat}{α:Type}{enc:α->List Tree}{K:α->Prop}{sz:Nat}(ht:P.underlying t=some (.slice el))(L:Reads P el enc K)(M:P.cellsOf el=sz)(k:0<sz)(d:∀y,(enc y).length=sz):Reads P t (encS enc)<|wfL K:=by
 intro c e w fuel cs x h;rcases DataW.trod_slice ht h with⟨rfl,_⟩|⟨a,len,N,elems,rest,n,_,rfl,_,_,V,W,U,D,_,_⟩;exact⟨[],⟨sq,by simp⟩,.one<|.slE _ _⟩;rw[M]at D;have each:∀i,i<len->∃(y:α)(cs:List Value),K y/\RTL w (Dd w) cs (enc y)/\∀j,j<sz->w.cell? ((a.add<|i*sz).add j)=cs[j]?:=by intro i hi;have h1:=D i hi;rw[IN F,Option.bind_eq_some_iff]at h1;obtain⟨E,O,Q⟩:=h1;obtain⟨y,X,z⟩:=L c e w n E _ Q;exact⟨y,E,X,z,(World.cells?_some O).2.2⟩
 by_cases h0:len=0;subst h0;exact⟨[],⟨sq,by simp⟩,.one<|.slE _ _⟩;let f:Nat->α:=λi=>if h:i<len then(each i h).choose else(each 0 F).choose;let l:=(MY len).map f;have R:∀i,i<len->K (f i)/\∃cs:List Value,RTL w (Dd w) cs (enc<|f i)/\∀j,j<sz->w.cell? ((a.add<|i*sz).add j)=cs[j]?:=by
  intro i hi;have T:f i=(each i hi).choose:=by simp[f,hi]
  rw[T];obtain⟨cs,h1,C,I⟩:=(each i hi).choose_spec;exact⟨h1,cs,C,I⟩
 have A:l.length=len:=by simp[l]
 have B:a.spot=none:=by
  obtain⟨_,cs,C,I⟩:=R 0 F;have p:=I 0 k;have q:0<cs.length:=by rw[C.1,d];exact k
  rw[IN q]at p;have Z:(a.add<|0*sz).add 0=a:=by simp[Addr.add]
  rw[Z]at p;unfold World.cell? at p;split at p;split at p;cases p;rename_i hs;simpa using hs;cases p
 obtain⟨b,o,sp⟩:=a;subst B;have g:∀i j,i<len->j<sz->∃v,w.cell? ⟨b,o+i*sz+j,none⟩=some v/\∀(u:j<(enc<|f i).length),RT w (Dd w) v (enc<|f i)[j]:=by
  intro i j hi u;obtain⟨_,cs,C,I⟩:=R i hi;have q:j<cs.length:=by rw[C.1,d];exact u
  have p:=I j u;rw[mT,mT,IN q]at p;exact⟨_,p,λs=>C.2 j q s⟩
 let vs:Nat->Nat->Value:=λi j=>(w.cell? ⟨b,o+i*sz+j,none⟩).getD undef;refine⟨l,⟨by rw[A];unfold maxLen at W;omega,λy Q=>?_⟩,.one ?_⟩;obtain⟨i,hi,rfl⟩:=cX3.1 Q;exact(R i<|cD9.1 hi).1;have hb:Dd w b:=by obtain⟨v,J,_⟩:=g 0 0 F k;have:=World.block_lt_of_cell? w _ J;simpa[Dd]using this
 have m:(l.map enc).length=len:=by simp[A]
 have key:=RT.sl (w:=w) (S:=Dd w) b o N sz (l.map enc) vs (by rw[m];exact V) hb (λr L=>by obtain⟨y,_,rfl⟩:=cX3.1 L;exact d y) λi j hi u=>by rw[m]at hi;obtain⟨v,J,_⟩:=g i j hi u;simp[vs,J] (λi j hi u=>by
   rw[m]at hi;have e1:(l.map enc)[i]'(by rw[m];exact hi)=enc (f i):=by simp[l]
   have s:j<sz:=by rw[e1,d]at u;exact u
   obtain⟨v,J,z⟩:=g i j hi s;have e2:vs i j=v:=by simp[vs,J]
   rw[e2];have:=z (by rw[d];exact s);simpa only[e1]using this);rw[m]at key;have e3:tS enc l=.sl len (l.map enc):=by simp[tS,A]
 rw[e3];exact key
def aE0 {w:World}{S:Nat->Prop}{cs:List Value}{o:Nat}(h:cs.length=o):RTL w S (cs.drop o) []:=by rw[List.drop_eq_nil_of_le F];exact⟨rfl,λj h1=>by simp at h1⟩
def aA4 {w:World}{S:Nat->Prop}{cs:List Value}{o o' n:Nat}{b rest:List Tree}(h:RTL w S ((cs.drop o).take n) b)(c:o'=o+n)(k:RTL w S (cs.drop o') rest):RTL w S (cs.drop o)<|b++rest:=by
 subst c;have e:cs.drop o=(cs.drop o).take n++cs.drop (o+n):=by rw[<-bT3,List.take_append_drop]
 rw[e];refine⟨by simp[IT,h.1,k.1],λj h1 d=>?_⟩;by_cases a:j<b.length;rw[cW9<|by rw[h.1];exact a,cW9 a];exact h.2 j (by rw[h.1];exact a) a;have f:¬j<((cs.drop o).take n).length:=by rw[h.1];exact a
 rw[cL3 F,cL3 F];simp only[h.1];exact k.2 (j-b.length) (by simp only[IT]at h1;have:=h.1;omega)<|by simp[IT]at d;omega
def av0 {a:Type}{e:TypeId×Value->a}{w:World}{n:Nat}{cs:List Value}{xs:List<|DataW a×List MemPlace}{c:Array Field}(b:xs.length=c.size)(h:∀(i:Nat)(f:Field),c[i]?=some f->DataW.trod e P w 0 (λ_=>true) true n f.type ((cs.drop f.offset).take<|P.cellsOf f.type)=xs[i]?)(i:Nat){f:Field}(hi:c[i]?=some f){α:Type}{enc:α->List Tree}{g:α->Prop}(j:Reads P f.type enc g):∃y:α,g y/\RTL w (Dd w) ((cs.drop f.offset).take<|P.cellsOf f.type) (enc y):=by
 have d:i<xs.length:=by rw[b];exact(cL9.1 hi).1
 have:=h i f hi;rw[IN d]at this;exact j a e w n _ _ this
def aS1 (P:Program)(t:Nat){α:Type}(A:α->T)(b:α->Prop):Prop:=∀(a:Type)(e:TypeId×Value->a)(w:World)(base:Nat)(v:Value)(d:DataW a)(p:List MemPlace),Value.okWide P w .any base t v->DataW.Trod e P w 0 (λ_=>true) true t v d p->∃y:α,b y/\∀E,RV w (Dd w) E v<|A y
def cd7 {α:Type}{enc:α->List Tree}{wf:α->Prop}{A:α->T}{f:α->Tree}(g:Reads P t enc wf)(i:∀w base v,Value.okWide P w .any base t v->v.cells.toList=[v])(b:∀y,enc y=[f y])(j:∀y,A y=.t (f y)):aS1 P t A wf:=by intro a e w base v d p k ⟨fuel,h⟩;rw[i w base v k]at h;obtain⟨y,l,m,c⟩:=g a e w fuel _ _ h;refine⟨y,l,λE=>?_⟩;rw[j];have:=c 0 sq (by rw[b];simp);simp[b]at this;exact .t this
def cL6 {k:IntKind}{enc:Int->List Tree}{A:Int->T}(ht:P.underlying t=some (.int k))(b:Reads P t enc λn=>(Lit.int k n).wf=true)(a:∀y,enc y=[.v<|.int k y])(c:∀y,A y=.t (.v<|.int k y)):aS1 P t A λn=>(Lit.int k n).wf=true:=cd7 b λw base v d=>by obtain⟨n,rfl⟩:=okWide_int ht d;rfl a c
def aW2 {el:Nat}{α:Type}{enc:α->List Tree}{b:α->Prop}{A:List α->T}(ht:P.underlying t=some (.slice el))(d:Reads P t (encS enc)<|wfL b)(e:∀y,A y=.t (tS enc y)):aS1 P t A<|wfL b:=cd7 d λw base v f=>by obtain⟨a,n,c,rfl⟩:=okWide_slice ht f;rfl (λ_=>rfl) e
def aV1 {c:Array Field}{α:Type}{enc:α->List Tree}{wf:α->Prop}{A:α->T}(ht:P.underlying t=some (.struct c))(f:Reads P t enc wf)(g:∀y,A y=.agg ((enc y).map .t)):aS1 P t A wf:=by intro a e w base v d p i ⟨fuel,h⟩;obtain⟨cs,rfl,_⟩:=okWide_struct ht i;obtain⟨y,k,l,b⟩:=f a e w fuel _ _ h;refine⟨y,k,λE=>?_⟩;rw[g];have:=RV.agg (E:=E) cs.toList ((enc y).map .t) (by simpa[Value.cells]using l) (λj h1 m=>by simp[cX7];exact .t<|b j h1<|by simpa using m);simpa using this
def uR.calls {n:Nat}{args:List T}{m:Option Bool}(h:uR P n args m λr=>.t<|.v<|.bool r)(c:m=some true){w:World}{vs:List Value}(a:xJ w (Dd w) (λ_=>undef) vs args):Calls P n vs.toArray w λe w'=>e=.returned (.bool true)/\Below w.heap.size w w':=(h.2 true c w (Dd w) _ vs (λ_ d=>d) a).mono λe w' ⟨v,S',f,a,hk,_,_⟩=>by have:=a.tv;subst this;exact⟨f,hk.os,hk.tape,hk.output,hk.size,λk b=>hk.block k b λx=>x⟩
def cM4 {w:World}{S:Nat->Prop}{E:Nat->Value}:xJ w S E [] []:=⟨rfl,λj h=>by simp at h⟩
def aO6 {w:World}{S:Nat->Prop}{E:Nat->Value}{v:Value}{t:T}{vs:List Value}{l:List T}(h:RV w S E v t)(k:xJ w S E vs l):xJ w S E (v::vs)<|t::l:=by refine⟨by simp[k.1],λj a b=>?_⟩;cases j with|zero=>exact h|succ j=>exact k.2 j (by simpa using a)<|by simpa using b
end
open Go.RowKit
def tvs (vs:List Value):List T:=vs.map λv=>.t<|.v v
def cE3 (P:Program)(ty:Nat)(vs a:List Value)(b:Bool):Prop:=(∀w,(Op.equalIn 10000 ty (.agg vs.toArray)<|.agg a.toArray).run P w=.ok b w)/\P.eqGuardType P.depth ty=false
def bj0 {w:World}{S:Nat->Prop}{E:Nat->Value}{v:Value}{vs:List Value}(h:RV w S E v<|.agg<|tvs vs):v=.agg vs.toArray:=by cases h with|agg cs _ b a=>congr 2;refine List.ext_getElem (by grind [tvs]) λj h1 c=>?_;have:=a j h1 F;simp[tvs,cX7]at this;exact this.tv
section
variable {ρ τ α:Type}{X:Cx}{ks:List K}{tm:J4}{hp:F1}{m:Option ρ}{Q:ρ->Exit->St->Prop}{all:Array Oper}{o:Oper}{rest:List Oper}{V:T}
def cw6 {ty yt:Nat}{x y:Operand}{vs d:List Value}{b:Bool}{a:Act}{w:World}(c:cE3 X.P ty vs d b)(hx:a.eval x=.agg vs.toArray)(e:a.eval y=.agg d.toArray):(o.op=.binOp .eql ty x y yt->(execOp a.eval o).run X.P w=.ok (.value<|.bool b) w)/\(o.op=.binOp .neq ty x y yt->(execOp a.eval o).run X.P w=.ok (.value<|.bool !b) w):=by constructor<;>intro f;simp only[execOp,f,hx,e,cV1,run_eqGuard_agg w .eql ty x y _ _ c.2,OF,run_eql_struct,c.1 w];rfl;simp only[execOp,f,hx,e,cV1,run_eqGuard_agg w .neq ty x y _ _ c.2,OF,run_neq_struct,c.1 w];rfl
end
section
variable {P:Program}{w:World}
def ci4 {d:Nat}{xs ys:Array Value}:(Op.eqFields d xs ys []).run P w=.ok true w:=rfl
def Yq {d:Nat}{f:Field}{e:List Field}{xs ys:Array Value}{a b:Value}{c r:Bool}(g:f.name≠ "_")(h1:(part f.type xs f.offset).run P w=.ok a w)(h:(part f.type ys f.offset).run P w=.ok b w)(i:(Op.equalIn d f.type a b).run P w=.ok c w)(j:(Op.eqFields d xs ys e).run P w=.ok r w):(Op.eqFields d xs ys<|f::e).run P w=.ok (c&&r) w:=by cases c<;>simp[Op.eqFields,g,h1,h,i,j]
def SA {t:Nat}{ti:TI}{cs:Array Value}{a:Nat}{v:Value}(b:Ci P t ti)(c:ti.desc.isAgg=false)(h:cs[a]?=some v):(part t cs a).run P w=.ok v w:=by simp[part,b.Xe,c,h]
def aP7 {t:Nat}{ti:TI}{cs:Array Value}{a:Nat}{r:Array Value}(b:Ci P t ti)(c:ti.desc.isAgg=true)(h:cs.extract a (a+ti.size)=r):(part t cs a).run P w=.ok (.agg r) w:=by simp[part,b.Xe,c,b.iJ,h]
def bw0 {d t:Nat}{xs ys:Array Value}{a:List Field}{b:Bool}(c:P.underlying t=some (.struct<|P.fieldsOf t))(e:P.stoodInHeld t=false)(f:(P.fieldsOf t).toList=a)(h:(Op.eqFields d xs ys a).run P w=.ok b w):(Op.equalIn (d+1) t (.agg xs)<|.agg ys).run P w=.ok b w:=by grind [run_equalIn_struct]
end
theorem b6 {n:Int}(h1:-9223372036854775808<=n)(a:n<=9223372036854775807):H n=n:=by unfold H de9;simp[cL0,cZ5];grind
def qw {S R:Type}(f:Int->S->Option (Fl S R)):Nat->Int->S->Option (S⊕R)|0,_,s=>some<|.inl s|k+1,i,s=>(f i s).bind λx=>match x with|.next s'=>qw f k (i+1) s'|.brk s'=>some<|.inl s'|.ret r=>some<|.inr r
def F0 {α S R:Type}(f:Int->α->S->Option (Fl S R)):List α->Int->S->Option (S⊕R)|[],_,s=>some<|.inl s|y::l,i,s=>(f i y s).bind λx=>match x with|.next s'=>F0 f l (i+1) s'|.brk s'=>some<|.inl s'|.ret r=>some<|.inr r
theorem j7 {S B:Type}{mb:S->Option (S⊕B)}{s s':S}(h:mb s=some (.inl s')):o3 mb s=o3 mb s':=by rw[Sr,h];rfl
theorem j3 {S B:Type}{mb:S->Option (S⊕B)}{s:S}{b:B}(h:mb s=some (.inr b)):o3 mb s=some b:=by rw[Sr,h];rfl
theorem U2 {S R:Type}(n:Nat)(c:n<=9223372036854775807)(f:Int->S->Option (Fl S R))(s:S):J9 (n:Int) f s=qw f n 0 s:=by
 have key:∀(k:Nat)(i:Nat)(s:S),i+k=n->o3 (Xb n f) (i,s)=qw f k i s:=by intro k;induction k with|zero=>intro i s hi;exact j3 gq|succ k b=>
   intro i s hi;have a:i<(n:Int):=by omega
   rw[Sr];simp[Xb,a,qw];cases d:f i s with|none=>rfl|some x=>cases x with|next s'=>have:=b (i+1) s' F;grind [b6]|brk s'=>rfl|ret r=>rfl
 have:=key n 0 s F;omega
theorem B3 {α:Type}(l:List α)(i:Nat):y3 l (i:Int)=l[i]?:=by rfl
theorem B5 {α S R:Type}(l:List α)(h:l.length<=9223372036854775807)(f:Int->α->S->Option (Fl S R))(s:S):iI l f s=F0 f l 0 s:=by
 have key:∀(r:List α)(i:Nat)(s:S),l.drop i=r->i<=l.length->o3 (ay7 l f) (i,s)=F0 f r i s:=by intro r;induction r with
  |nil=>
   intro i s a hi;have:¬i<l.length:=by simp_all
   exact j3 gq|cons y r d=>
   intro i s a hi;have e:i<l.length:=by grind
   have b:i<(l.length:Int):=by omega
   have g:l[i]?=some y:=by rw[<-cX6,a];rfl
   have c:l.drop (i+1)=r:=by rw[<-bT3,a];rfl
   rw[Sr];simp[ay7,b,F0,B3,g,oq];cases j:f i y s with|none=>rfl|some x=>cases x with|next s'=>have:=d (i+1) s' c F;grind [b6]|brk s'=>rfl|ret r=>rfl
 have:=key l 0 s rfl<|Nat.zero_le _;omega
theorem Lb {α R:Type}{f:Int->α->Unit->Option (Fl Unit R)}{p:α->Bool}{r:R}:∀(l:List α)(i:Int),(∀i,∀y∈l,f i y ()=some (bif p y then .next ()else .ret r))->F0 f l i ()=some (bif l.all p then .inl ()else .inr r)|[],_,_=>rfl|y::l,i,h=>by simp[F0,h i y<|cV7 ..,List.all_cons];cases hp:p y;rfl;exact Lb l (i+1) λi a b=>h i a<|cV3 _ b
theorem VN {α S R:Type}{f:Int->α->S->Option (Fl S R)}{g:S->α->S}:∀(l:List α)(i:Int)(s:S),(∀i s,∀y∈l,f i y s=some (.next<|g s y))->F0 f l i s=some (.inl<|l.foldl g s)|[],_,_,_=>rfl|y::l,i,s,h=>by simp[F0,h i s y<|cV7 ..,oq];exact VN l (i+1) _ λi s a b=>h i s a<|cV3 _ b
def Gi {R:Type}{f:Int->Unit->Option (Fl Unit R)}{p:Nat->Bool}{r:R}:∀(k i:Nat),(∀j,i<=j->j<i+k->f j ()=some (bif p j then .next ()else .ret r))->qw f k i ()=some (bif (cX1 i k).all p then .inl ()else .inr r)|0,_,_=>rfl|k+1,i,h=>by simp[qw,h i (cW6 _) F,List.range'_succ,List.all_cons];cases hp:p i;rfl;have:=Gi k (i+1) λj h1 a=>h j F F;grind
def tM {S B:Type}{mb:S->Option (S⊕B)}(σ:Nat->S){p:Nat->Bool}{b0 b1:B}(n:Nat)(a:mb (σ n)=some (.inr b0))(h:∀k,k<n->mb (σ k)=some (bif p k then .inl<|σ (k+1)else .inr b1)):o3 mb (σ 0)=some (bif (cX1 0 n).all p then b0 else b1):=by
 have key:∀k i,i+k=n->o3 mb (σ i)=some (bif (cX1 i k).all p then b0 else b1):=by intro k;induction k with|zero=>grind [j3]|succ k b=>grind [j3,j7]
 grind
theorem cd {S B:Type}{mb:S->Option (S⊕B)}(σ:Nat->S){b0:B}(n:Nat)(a:mb (σ n)=some (.inr b0))(h:∀k,k<n->mb (σ k)=some (.inl<|σ<|k+1)):o3 mb (σ 0)=some b0:=by
 have key:∀k i,i+k=n->o3 mb (σ i)=some b0:=by intro k;induction k with|zero=>grind [j3]|succ k b=>grind [j7]
 simp_all
def bd1 {α S S' B:Type}{mb:S'->Option (S'⊕B)}(σ:Nat->S->S'){g:S->α->S}{out:S->B}(l:List α)(s0:S)(a:∀s,mb (σ l.length s)=some (.inr<|out s))(h:∀k s y,l[k]?=some y->mb (σ k s)=some (.inl<|σ (k+1)<|g s y)):o3 mb (σ 0 s0)=some (out<|l.foldl g s0):=by
 have key:∀(r:List α)(i:Nat)(s:S),l.drop i=r->i<=l.length->o3 mb (σ i s)=some (out<|r.foldl g s):=by intro r;induction r with|nil=>grind [de7,j3]|cons y r d=>
   intro i s b hi;have e:l[i]?=some y:=by rw[<-cX6,b];rfl
   have c:l.drop (i+1)=r:=by rw[<-bT3,b];rfl
   grind [j7]
 grind
def lL {α S B:Type}{mb:S->Option (S⊕B)}(σ:Nat->S){p:α->Bool}{b0 b1:B}(l:List α)(a:mb (σ l.length)=some (.inr b0))(h:∀k y,l[k]?=some y->mb (σ k)=some (bif p y then .inl<|σ (k+1)else .inr b1)):o3 mb (σ 0)=some (bif l.all p then b0 else b1):=by
 have key:∀(r:List α)(i:Nat),l.drop i=r->i<=l.length->o3 mb (σ i)=some (bif r.all p then b0 else b1):=by intro r;induction r with|nil=>grind [de7,j3]|cons y r d=>
   intro i b hi;have e:l[i]?=some y:=by rw[<-cX6,b];rfl
   have c:l.drop (i+1)=r:=by rw[<-bT3,b];rfl
   grind [j3,j7]
 grind
theorem bK1 {α:Type}(b:Bool)(x y:α):(bif b then some x else some y)=some (bif b then x else y):=by grind
theorem yi {α S R:Type}(l:List α)(c:l.length<=9223372036854775807)(g:Int->α->S->Option (Fl S R))(s:S):J9 (l.length:Int) (λi s=>(y3 l i).bind λx=>g i x s) s=F0 g l 0 s:=by
 rw[U2 _ c];have key:∀(r:List α)(i:Nat)(s:S),l.drop i=r->qw (λi s=>(y3 l i).bind λx=>g i x s) r.length (i:Int) s=F0 g r (i:Int) s:=by intro r;induction r with|nil=>intro i s _;rfl|cons y r d=>
   intro i s b;have e:l[i]?=some y:=by rw[<-cX6,b];rfl
   have a:l.drop (i+1)=r:=by rw[<-bT3,b];rfl
   simp only[cU9,qw,F0,B3,e,oq];cases f:g i y s with|none=>rfl|some x=>cases x with|next s'=>have:=d (i+1) s' a;push_cast at this;simpa using this|brk s'=>rfl|ret h=>rfl
 have:=key l 0 s rfl;simpa using this
def SV {α:Type}{f:Int->α->Unit->Option (Fl Unit Int)}{p:α->Bool}:∀(l:List α)(i:Int),0<=i->(∀i,∀y∈l,f i y ()=some (bif p y then .ret i else .next ()))->∃r,F0 f l i ()=some r/\(match r with|.inl _=>l.any p=false|.inr j=>0<=j/\l.any p=true)|[],_,_,_=>⟨.inl (),rfl,rfl⟩|y::l,i,hi,h=>by simp only[F0,h i y<|cV7 ..,oq,List.any_cons];cases hp:p y;obtain⟨r,h1,a⟩:=SV l (i+1) F λi b c=>h i b<|cV3 _ c;refine⟨r,h1,?_⟩;cases r<;>simpa using a;exact⟨.inr i,rfl,hi,rfl⟩
theorem W2 {α:Type}(l:List α)(b:l.length<=9223372036854775807)(f:α->Option Bool)(p:α->Bool)(h:∀y∈l,f y=some (p y)):(tI (tI (J9 (l.length:Int) (λ(i:Int)(_:Unit)=>tI (y3 l i) λx=>tI (f x) λv=>bif v then some (Fl.ret i)else some<|Fl.next ()) ()) λ(t:Unit⊕Int)=>match t with|.inl _=>some<|-1|.inr r2=>some r2) λv=>some<|decide<|v>=0)=some (l.any p):=by rw[yi l b λ(i:Int)x (_:Unit)=>tI (f x) λv=>bif v then some (Fl.ret i)else some<|Fl.next ()];obtain⟨r,h1,a⟩:=SV (f:=λ(i:Int)x (_:Unit)=>tI (f x) λv=>bif v then some (Fl.ret i)else some<|Fl.next ()) (p:=p) l 0 (QA 0) (λi y c=>by simp only[h y c,oq];cases p y<;>rfl);rw[h1];cases r with|inl u=>simp only[oq];simp at a;simp;intro x hx;simpa using a x hx|inr j=>simp only[oq];rw[a.2];simp[a.1]
def bH1 (w:World)(v:Value)(e sz n:Nat)(xs:List Value):Prop:=v=.slice none 0 0/\n=0/\xs=[]\/∃(g a:Nat)(b:List Value),v=.slice (some ⟨g,0,none⟩) n a/\w.heap[g]?=some (.cells b.toArray e (0,0))/\n<=a/\a<=maxLen/\b.length=a*sz/\b.take (n*sz)=xs
def WC {P:Program}{w:World}{t ty e:Nat}{ti:TI}{v x:Value}{n c:Nat}{xs:List Value}{a:Option Addr}(ht:P.underlying t=some (.slice e))(b:Ci P e ti)(h:bH1 w v e ti.size n xs)(hx:x=.slice a 0 c):(Builtin.append_ #[t,t] ty #[v,x]).run P w=.ok v w:=by
 obtain⟨i,d,hi,m,_⟩:=b;subst hx;have f:(Builtin.firstCells i.size 0<|.slice a 0 c).run P w=.ok #[] w:=by cases a<;>simp[Builtin.firstCells,loadCells,loadCellsFrom]
 rcases h with⟨rfl,rfl,rfl⟩|⟨g,j,k,rfl,o,l,_⟩;simp[Builtin.append_,run_underlying ht,sizeOf,typeInfo,hi,Builtin.lenOf,f];simp[Builtin.append_,run_underlying ht,sizeOf,typeInfo,hi,Builtin.lenOf,f,l,storeCells]
def WD {P:Program}{w:World}{t ty e:Nat}{ti:TI}{v:Value}{n m c:Nat}{xs news:List Value}{a:Addr}(ht:P.underlying t=some (.slice e))(Q:Ci P e ti)(hz:ti.zero.length=ti.size)(V:bH1 w v e ti.size n xs)(x:news.length=m*ti.size)(h:∀j u,news[j]?=some u->w.cell? (a.add j)=some u)(h1:∀u∈news,u.oneCell'=true)(h0:0<m)(E:n+m<=1073741824):∃v' w',(Builtin.append_ #[t,t] ty #[v,.slice (some a) m c]).run P w=.ok v' w'/\tZ (λb=>H9 v=some b) w w'/\bH1 w' v' e ti.size (n+m) (xs++news)/\∀b,H9 v'=some b->b<w'.heap.size/\(H9 v=some b\/w.heap.size<=b):=by
 obtain⟨i,d,hi,X,_,_,⟨z,I,R⟩,S⟩:=Q;rw[<-X]at V x hz|-;have T:z.cells.size=i.size:=by rw[<-hz,<-R];simp
 have q:(n+m)*i.bytes<=140737488355328:=by have:=Nat.mul_le_mul E S;omega
 have grown:∀(Dd:Nat),Dd<n+m->xs.length=n*i.size->bH1 (w.drew.alloc<|.cells (xs.toArray++news.toArray++Builtin.zeroCells z.cells (grownCap w (n+m) Dd e-(n+m))) e) (.slice (some ⟨w.heap.size,0,none⟩) (n+m)<|grownCap w (n+m) Dd e) e i.size (n+m) (xs++news):=by
  intro Dd Z s;have U:=grownCap_ge w (n+m) Dd e;have A:grownCap w (n+m) Dd e<=maxLen:=grownCap_le_maxLen w (n+m) Dd e (by simp only[maxLen];omega);have r:(xs++news).length=(n+m)*i.size:=by rw[IT,s,x,dd9]
  refine .inr ⟨w.heap.size,_,xs++news++(Builtin.zeroCells z.cells<|grownCap w (n+m) Dd e-(n+m)).toList,rfl,?_,U,A,?_,?_⟩;have:(xs++news++(Builtin.zeroCells z.cells<|grownCap w (n+m) Dd e-(n+m)).toList).toArray=xs.toArray++news.toArray++Builtin.zeroCells z.cells (grownCap w (n+m) Dd e-(n+m)):=by simp
  rw[this];exact heap_alloc_new w.drew _;rw[IT,r,cT1,size_zeroCells,T,<-dd9];congr 1;omega;rw[<-r];exact List.take_left
 have y:∀o,tZ (λb=>H9 v=some b) w<|w.drew.alloc o:=λo=>⟨rfl,rfl,rfl,by simp,λk hk _=>Below.heap_alloc w.drew _ _ hk,Nat.le_succ _⟩;rcases V with⟨rfl,rfl,rfl⟩|⟨g,l,B,rfl,N,W,A,C,p⟩;have J:=run_append_nil (P:=P) w t ty e i z ht hi I a m c news x h h0 F (by have D:=q;simp only[cX4]at D;omega);have K:=grown 0 F sq;simp only[cX4,List.nil_append,Array.empty_append]at K|-;exact⟨_,_,J,y _,K,λb D=>by cases D;simp⟩;have s:xs.length=n*i.size:=by rw[<-p,cV5,C];exact cP6<|cW8 _ W
 by_cases f:n+m<=l;have L:n*i.size+news.length<=B.toArray.size:=by rw[x,da4,C,<-dd9];exact cW8 _ f
 have J:=run_append_room (P:=P) w t ty e i ht hi g n l B.toArray N a m c news x h h1 f L;refine⟨_,_,J,⟨rfl,rfl,rfl,by simp,λk _ hk=>setRow_other w g k _ λe=>hk<|by simp[H9,e],cW6 _⟩,.inr ⟨g,l,_,rfl,setRow_heap w g B.toArray _ e _ N,f,A,?_,?_⟩,λb D=>?_⟩;simp only[IT,cV5,dc1];rw[x,C];have h2:n*i.size+m*i.size<=l*i.size:=by rw[<-dd9];exact cW8 _ f
 have h3:n*i.size<=l*i.size:=cW8 _ W;omega;rw[p];have r:(xs++news).length=(n+m)*i.size:=by rw[IT,s,x,dd9]
 rw[<-r];exact List.take_left;cases D;refine⟨?_,.inl rfl⟩;have:=(cL9.1 N).1;simpa using this;have holds:∀j u,xs[j]?=some u->w.cell? ((⟨g,0,none⟩:Addr).add j)=some u:=by
  intro j u O;have M:(⟨g,0,none⟩:Addr).add j=⟨g,j,none⟩:=by rw[mT];simp
  rw[M,cell_of_row w g j _ e (0,0) N];rw[<-p,db5]at O;split at O;simpa using O;cases O
 have J:=run_append_grow (P:=P) w t ty e i z ht hi I ⟨g,0,none⟩ n l xs s holds a m c news x h F F<|growslice_fits F q;exact⟨_,_,J,y _,grown l F s,λb D=>by cases D;simp⟩
section
variable {w0:World}{L:GL}{nt:Nat}{tm:J4}{hp:F1}{S:Nat->Prop}{E:Nat->Value}{a:Act}{w w':World}
def Ok.ZG (h:Ok w0 L nt ⟨tm,hp⟩ S E a w){id:Nat}{v v':Value}{b:ck}(r:Y3 id vJ=true)(J:F6 id tm=true)(K:E8 id hp=true)(z:∀β,H9 v=some β->¬S β/\β<w.heap.size/\(w0.heap.size<=β\/L.KL β))(C:∀i ny β,look hp i=some ny->H9 v=some β->H9 (E i)=some β->False)(hk:tZ (λx=>H9 v=some x) w w')(s:∀β,H9 v'=some β->β<w'.heap.size/\(H9 v=some β\/w.heap.size<=β))(B:∀E',yu w' S E' v' b):∃E',E' id=v'/\Ok w0 L nt ⟨tm,(id,b)::hp⟩ S E' a w':=by
 let E':Nat->Value:=λi=>if i=id then v' else E i;have p:∀i,i≠id->E' i=E i:=λi hi=>by simp[E',hi]
 have m:E' id=v':=by simp[E']
 have D:∀x,S x->w'.heap[x]?=w.heap[x]?:=λx hx=>hk.block x (h.lB x hx) λe=>(z x e).1 hx;have M:=h.keep.size;refine⟨E',m,{keep:=h.keep.trans hk λx hx=>(z x hx).2.2.symm,lB:=λx hx=>dc7 (h.lB x hx) hk.size,base:=h.base,size:=h.size,defers:=h.defers,tm:=?_,hp:=?_,own:=?_,cJ:=?_,Rm:=λi hi=>by rw[p i λe=>by have:id<vJ:=cU8 r;omega];exact h.Rm i hi}⟩;exact λk t ht=>(h.tm k t ht).mono (λ_ x=>x) D λi hi=>p i λe=>by have:=xO J k t ht;subst e;rw[this]at hi;cases hi
 intro i ny c;simp[look]at c;by_cases d:id=i;subst d;simp[tj,AI]at c;subst c;rw[m];exact B E';simp[s9 d]at c;rw[p i λe=>d e.symm];exact(h.hp i ny c).mono (λ_ x=>x) D (λβ f=>hk.block β (h.own i ny β c f).2.1 λe=>C i ny β c e f) λj u=>p j λe=>by have:=(hM K i ny c).2;subst e;rw[this]at u;cases u
 intro i ny β c f;simp[look]at c;by_cases d:id=i;subst d;rw[m]at f;obtain⟨h1,h2⟩:=s β f;rcases h2 with h2|h2;exact⟨(z β h2).1,h1,(z β h2).2.2⟩;exact⟨λN=>by have:=h.lB β N;omega,h1,.inl F⟩;simp[s9 d]at c;rw[p i λe=>d e.symm]at f;have:=h.own i ny β c f;exact⟨this.1,dc7 this.2.1 hk.size,this.2.2⟩;intro i y ny q β c n f g;simp[look]at c n;have o:∀j A,look hp j=some A->H9 v'=some β->H9 (E j)=some β->False:=λj A u h1 h2=>by rcases(s β h1).2 with I|I;exact C j A β u I h2;have:=(h.own j A β u h2).2.1;omega
 by_cases d:id=i<;>by_cases l:id=y;exact d.symm.trans l;subst d;simp[s9 l]at n;rw[m]at f;rw[p y λe=>l e.symm]at g;exact(o y q n f g).elim;subst l;simp[s9 d]at c;rw[m]at g;rw[p i λe=>d e.symm]at f;exact(o i ny c g f).elim;simp[s9 d,s9 l]at c n;rw[p i λe=>d e.symm]at f;rw[p y λe=>l e.symm]at g;exact h.cJ i y ny q β c n f g
def KR {j a s:Nat}(h:j<a*s):0<s:=by rcases cz3 s with h1|h1;subst h1;simp at h;exact h1
def oK:Tree->Bool|.v x=>x.oneCell'|.sl _ _=>true
theorem RT.one {v:Value}{t:Tree}(h:RT w S v t)(ht:oK t=true):v.oneCell'=true:=by cases h<;>first|exact ht|rfl
def QW {v:Value}{m sz:Nat}{rs:List<|List Tree}(h:RT w S v<|.sl m rs)(f:∀r∈rs,r.length=sz)(l:∀r∈rs,∀t∈r,oK t=true):m=rs.length/\∃(z:Option Addr)(c:Nat),v=.slice z m c/\(0<m->∃(x:Addr)(news:List Value),z=some x/\news.length=m*sz/\(∀j u,news[j]?=some u->w.cell? (x.add j)=some u)/\(∀u∈news,u.oneCell'=true)/\∀i j (hi:i<rs.length)(d:j<rs[i].length)(B:i*sz+j<news.length),RT w S news[i*sz+j] rs[i][j]):=by cases h with|slE a c=>exact⟨rfl,a,c,rfl,λh=>absurd h F⟩|sl b o c sz' rows vs _ B n C A=>
  refine⟨rfl,_,c,rfl,λh0=>⟨_,(MY<|rs.length*sz).map λk=>vs (k/sz)<|k%sz,rfl,by simp,?_,?_,?_⟩⟩;all_goals
   have y:sz'=sz:=by rw[<-n rs[0]<|al8 h0,f rs[0]<|al8 h0]
   subst y
  ·intro j u q;rw[bg5]at q;obtain⟨k,hk,rfl⟩:=dd4.1 q;obtain⟨d,rfl⟩:=No.1 hk;simp[List.length_range]at d;simp[List.getElem_range];have g:0<sz':=KR d;have h1:j/sz'<rs.length:=cO2 (by rw[dd3];exact d);have s:j%sz'<sz':=cY9 _ g;have:=C (j/sz') (j%sz') h1 s;rw[mT];have e:o+j/sz'*sz'+j%sz'=o+j:=by have:=cL5 j sz';rw[dd3]at this;omega
   rw[e]at this;exact this
  ·intro u q;obtain⟨k,hk,rfl⟩:=cX3.1 q;have d:=cD9.1 hk;have g:0<sz':=KR d;have h1:k/sz'<rs.length:=cO2 (by rw[dd3];exact d);have s:k%sz'<rs[k/sz'].length:=by rw[f _<|al8 h1];exact cY9 _ g
   exact(A (k/sz') (k%sz') h1 s).one<|l _ (al8 h1) _<|al8 s
  ·intro i j hi d D;simp only[cX7,List.getElem_range];have p:j<sz':=by rw[<-f _<|al8 hi];exact d
   have e1:(i*sz'+j)/sz'=i:=by rw[dd3,Nat.mul_add_div F,df1 p,cq7]
   have e2:(i*sz'+j)%sz'=j:=by rw[dd3,cR5,cZ2 p]
   rw[e1,e2];exact A i j hi d
end
def Src (w:World)(S:Nat->Prop)(v:Value)(m sz:Nat)(rs:List<|List Tree):Prop:=m=rs.length/\∃(a:Option Addr)(c:Nat),v=.slice a m c/\(0<m->∃(x:Addr)(news:List Value),a=some x/\news.length=m*sz/\(∀j u,news[j]?=some u->w.cell? (x.add j)=some u)/\(∀u∈news,u.oneCell'=true)/\∀i j (hi:i<rs.length)(b:j<rs[i].length)(d:i*sz+j<news.length),RT w S news[i*sz+j] rs[i][j])
section
variable {P:Program}{w0:World}{L:GL}{nt:Nat}{tm:J4}{hp:F1}{S:Nat->Prop}{E:Nat->Value}{a:Act}{w:World}
def aA1 {v:Value}{e sz m:Nat}{rs:List<|List Tree}(h:yu w S E v<|.rows e sz m rs)(b:∀r∈rs,∀t∈r,oK t=true):Src w S v m sz rs:=by
 obtain⟨o,hx⟩:=h;subst o;refine⟨rfl,?_⟩;rcases hx with⟨rfl,d⟩|⟨β,p,vs,z,rfl,q,s,x,f,d⟩;subst d;exact⟨_,_,rfl,λh=>absurd h sq⟩;refine⟨_,_,rfl,λh0=>⟨_,vs.take<|rs.length*sz,rfl,?_,?_,?_,?_⟩⟩;rw[cV5,s];exact cP6<|cW8 _ x;intro j u a;rw[db5]at a;split at a;rw[mT,cell_of_row w β _ _ e _ q];simpa using a;cases a;intro u a;obtain⟨k,hk,rfl⟩:=Kz.1 a;have c:k<rs.length*sz:=by have:=hk;simp[cV5]at this;omega
 have g:0<sz:=KR c;have h1:k/sz<rs.length:=cO2 (by rw[dd3];exact c);have n:k%sz<rs[k/sz].length:=by rw[f _<|al8 h1];exact cY9 _ g
 have e1:k/sz*sz+k%sz=k:=by have:=cL5 k sz;rw[dd3]at this;exact this
 have l:k<vs.length:=by simp[cV5]at hk;omega
 have:=d (k/sz) (k%sz) h1 n (by rw[e1];exact l);simp[e1]at this;rw[dd0];exact this.one<|b _ (al8 h1) _<|al8 n;intro i j hi y A;rw[dd0];exact d i j hi y _
theorem Ln {α:Type}{l r:List α}{k i:Nat}(h:l.take k=r)(hi:i<r.length)(a:i<l.length):l[i]=r[i]:=by subst h;rw[dd0]
def Ok.append (h:Ok w0 L nt ⟨tm,hp⟩ S E a w){id e n m t ty:Nat}{ti:TI}{v x:Value}{rs r2:List<|List Tree}(s:Y3 id vJ=true)(hf:F6 id tm=true)(z:E8 id hp=true)(hv:∀β,H9 v=some β->¬S β/\β<w.heap.size/\(w0.heap.size<=β\/L.KL β))(hd:∀i ny β,look hp i=some ny->H9 v=some β->H9 (E i)=some β->False)(hbv:yu w S E v<|.rows e ti.size n rs)(ht:P.underlying t=some (.slice e))(K:Ci P e ti)(hz:ti.zero.length=ti.size)(hx:Src w S x m ti.size r2)(h2:∀r∈r2,r.length=ti.size)(M:n+m<=1073741824):∃v' w' E',(Builtin.append_ #[t,t] ty #[v,x]).run P w=.ok v' w'/\E' id=v'/\Ok w0 L nt ⟨tm,(id,.rows e ti.size (n+m)<|rs++r2)::hp⟩ S E' a w':=by
 obtain⟨N,ad,c,rfl,O⟩:=hx;obtain⟨o,u⟩:=hbv;have Q:∃xs:List Value,bH1 w v e ti.size n xs/\xs.length=n*ti.size/\(∀r∈rs,r.length=ti.size)/\∀i j (hi:i<rs.length)(A:j<rs[i].length)(z:i*ti.size+j<xs.length),RT w S xs[i*ti.size+j] rs[i][j]:=by rcases u with⟨rfl,d⟩|⟨β,B,vs,C,rfl,hh,hl,hc,hsz,d⟩;subst d;subst o;exact⟨[],.inl ⟨rfl,rfl,rfl⟩,by simp,by simp,λi j hi=>by simp at hi⟩;subst o;refine⟨vs.take<|rs.length*ti.size,.inr ⟨β,B,vs,rfl,hh,hc,C,hl,rfl⟩,?_,hsz,λi j hi A z=>?_⟩;rw[cV5,hl];exact cP6<|cW8 _ hc;rw[dd0];exact d i j hi A _
 obtain⟨xs,R,p,T,hrx⟩:=Q;rcases cz3 m with h0|h0;subst h0;have hr2:r2=[]:=de1 N.symm;subst hr2;have d:=WC (ty:=ty) ht K R (x:=.slice ad 0 c) rfl;obtain⟨E',hE,hk⟩:=h.ZG s hf z hv hd (tZ.refl _ w) (v':=v) (b:=.rows e ti.size (n+0)<|rs++[]) (λβ hβ=>⟨(hv β hβ).2.1,.inl hβ⟩) (λE'=>by rw[iy,cq7];exact⟨o,u⟩);exact⟨v,w,E',d,hE,hk⟩;obtain⟨y,news,rfl,U,D,V,hrn⟩:=O h0;obtain⟨v',w',d,hk,W,hbl⟩:=WD (ty:=ty) ht K hz R U D V h0 M;have hS:∀b,S b->w'.heap[b]?=w.heap[b]?:=λb z=>hk.block b (h.lB b z) λe=>(hv b e).1 z;obtain⟨E',hE,hok⟩:=h.ZG s hf z hv hd hk (v':=v') (b:=.rows e ti.size (n+m)<|rs++r2) hbl (λE'=>by
  refine⟨by rw[IT,o,N],?_⟩;rcases W with⟨_,hz0,_⟩|⟨g,B,I,rfl,hg,hnc,C,hcl,X⟩;omega;refine .inr ⟨g,B,I,C,by rw[IT,<-o,<-N],hg,hcl,by rw[IT,<-o,<-N];exact hnc,?_,?_⟩;intro r d;rcases bX2.1 d with d|d;exact T r d;exact h2 r d;intro i j hi A Z;by_cases f:i<rs.length;have k:j<rs[i].length:=by rw[cW9 f]at A;exact A
  have hjs:j<ti.size:=by rw[<-T _<|al8 f];exact k
  have q:i*ti.size+j<xs.length:=by rw[p,o];have:(i+1)*ti.size<=rs.length*ti.size:=cW8 _ f;rw[dc5]at this;omega
  have e1:I[i*ti.size+j]=xs[i*ti.size+j]:=by rw[Ln X (by rw[IT];omega) Z,cW9 q]
  have e2:(rs++r2)[i]=rs[i]:=cW9 f;rw[e1];simp only[e2];exact(hrx i j f k q).mono (λ_ x=>x) hS;have J:i-rs.length<r2.length:=by rw[IT]at hi;omega
  have e2:(rs++r2)[i]=r2[i-rs.length]:=cL3 F;have k:j<r2[i-rs.length].length:=by rw[e2]at A;exact A
  have hjs:j<ti.size:=by rw[<-h2 _<|al8 J];exact k
  have q:(i-rs.length)*ti.size+j<news.length:=by rw[U,N];have:(i-rs.length+1)*ti.size<=r2.length*ti.size:=cW8 _ J;rw[dc5]at this;omega
  have l:i*ti.size=rs.length*ti.size+(i-rs.length)*ti.size:=by rw[<-dd9];congr 1;omega
  have e3:i*ti.size+j-xs.length=(i-rs.length)*ti.size+j:=by rw[p,o,l];omega
  have e1:I[i*ti.size+j]=news[(i-rs.length)*ti.size+j]:=by rw[Ln X (by rw[IT,p,o,l];omega) Z,cL3<|by rw[p,o,l];omega];simp only[e3]
  rw[e1];simp only[e2];exact(hrn (i-rs.length) j J k q).mono (λ_ x=>x) hS);exact⟨v',w',E',d,hE,hok⟩
end
section
variable {ρ α:Type}{X:Cx}{ks:List K}{tm tm':J4}{hp L9:F1}{Q:ρ->Exit->St->Prop}{all:Array Oper}{o:Oper}{rest:List Oper}
def JE {enc:α->List Tree}(a:∀y,(enc y).all oK=true)(l:List α):∀r∈l.map enc,∀t∈r,oK t=true:=by intro r b t ht;obtain⟨y,_,rfl⟩:=cX3.1 b;exact cV2.1 (a y) t ht
def Od {enc:α->List Tree}{sz:Nat}(h:∀y,(enc y).length=sz)(l:List α):∀r∈l.map enc,r.length=sz:=by intro r a;obtain⟨y,_,rfl⟩:=cX3.1 a;exact h y
def o0.append {t e e' d id n m s0:Nat}{z0:List Value}{c:TI}{s x:Operand}{l r:List α}{enc:α->List Tree}{k:List α->Option ρ}(ho:o.op=.call ⟨.builtin .append,#[s,x],#[t,t]⟩)(hd:o.dst=some d)(W:Y3 d X.nt=true)(hg:R8 all.toList tm o.guard=some true)(Z:look X.tab t=some ⟨s0,.slice e,z0⟩)(hte:look X.tab e=some c)(hz:c.zero.length=c.size)(g:∀y,(enc y).length=c.size)(j:∀y,(enc y).all oK=true)(z:val tm s=some (.own id)/\look hp id=some (.rows e c.size n<|l.map enc)\/val tm s=some (.t<|.v<|.slice none 0 0)/\l=[])(hx:val tm x=some (.t<|.sl m<|r.map enc)\/∃U,val tm x=some (.own U)/\look hp U=some (.rows e' c.size m<|r.map enc))(p:Sub ⟨tm',L9⟩ ⟨tm,hp⟩)(A:Y3 id vJ=true)(hft:F6 id tm'=true)(B:E8 id L9=true)(h:o0 X all rest ks ⟨(d,.own id)::tm',(id,.rows e c.size (l++r).length<|(l++r).map enc)::L9⟩ (k<|l++r) Q):o0 X all (o::rest) ks ⟨tm,hp⟩ ((G2 l r).bind k) Q:=λy C a w ⟨S,E,hk⟩=>by
 unfold G2 at C;split at C;rename_i D;simp only[oq]at C;obtain⟨dd,_,V,I⟩:∃d,X.P.underlying t=some d/\X.P.underlying t=some d/\TD.ok X.P (.slice e) d:=by obtain⟨i,d,_,_,V,hdd,_⟩:=X.C8 t _ Z;exact⟨d,V,V,hdd⟩
 simp only[TD.ok]at I;subst I;have hk':Ok X.w0 X.L X.nt ⟨tm',L9⟩ S E a w:=hk.sub p;have J:Src w S (a.eval x) r.length c.size<|r.map enc:=by
  rcases hx with hx|⟨U,hx,hb2⟩;have b:=hk.val hx;generalize a.eval x=xv at b;cases b with|t b=>
   have:=QW b (Od g r)<|JE j r;have hm:m=r.length:=by simpa using this.1
   subst hm;exact⟨sq,this.2⟩
  have b:=hk.val hx;have M:=hk.hp U _ hb2;generalize a.eval x=xv at b;cases b with|own _ _ N=>
   subst N;have:=aA1 M<|JE j r;have hm:m=r.length:=by simpa using this.1
   subst hm;exact this
 have f:∃v,a.eval s=v/\yu w S E v (.rows e c.size l.length<|l.map enc)/\(∀β,H9 v=some β->¬S β/\β<w.heap.size/\(X.w0.heap.size<=β\/X.L.KL β))/\∀i ny β,look L9 i=some ny->H9 v=some β->H9 (E i)=some β->False:=by
  rcases z with⟨z,M⟩|⟨z,hl⟩;have b:=hk.val z;have O:=hk.hp id _ M;have hn:n=l.length:=by have:=O.1;simpa using this
  subst hn;generalize a.eval s=sv at b;cases b with|own _ _ N=>subst N;refine⟨_,rfl,O,λβ hβ=>hk.own id _ β M hβ,λi ny β hi h1 h2=>?_⟩;obtain⟨R,hi',_⟩:=Bp p.2 i ny hi;have:=hk.cJ id i _ R β M hi' h1 h2;exact(hM B i ny hi).1 this.symm
  have b:=(hk.val z).tv;subst hl;rw[b];exact⟨_,rfl,⟨sq,.inl ⟨rfl,rfl⟩⟩,λβ hβ=>by simp[H9]at hβ,λi ny β _ h1=>by simp[H9]at h1⟩
 obtain⟨v,b,hbv,T,q⟩:=f;obtain⟨v',w',E',hr,N,hok⟩:=hk'.append (ty:=o.type) A hft B T q hbv V (X.C8 e _ hte) hz J (Od g r) (by simpa using D);refine wpList_step λK hK=>?_;rw[I3 hk hg,if_pos rfl];unfold Oper.wp;have u:(execOp a.eval o).run X.P w=.ok (.value v') w':=by unfold execOp;simp only[ho,resolve,invoke,builtin,cV1,cW0,OF,cZ9,ew,db6,b,hr]
 rw[u];refine hK _ _<|h y C _ _ ⟨S,E',?_⟩;rw[hd,dc9,IT];exact hok.put (cU8 W)<|.own id _ N;simp at C
end
section
variable {ρ α:Type}{X:Cx}{ks:List K}{tm tm':J4}{hp L9:F1}{m:Option ρ}{Q:ρ->Exit->St->Prop}{all:Array Oper}{o:Oper}{rest:List Oper}
def o0.RA {t e e' d id n m s0:Nat}{z0:List Value}{a:TI}{s x:Operand}{l r:List α}{enc:α->List Tree}{k:List α->Option ρ}(z:o.op=.call ⟨.builtin .append,#[s,x],#[t,t]⟩)(A:o.dst=some d)(i:Y3 d X.nt=true)(B:R8 all.toList tm o.guard=some true)(j:look X.tab t=some ⟨s0,.slice e,z0⟩)(p:look X.tab e=some a)(hz:a.zero.length=a.size)(b:∀y,(enc y).length=a.size)(c:∀y,(enc y).all oK=true)(C:val tm s=some (.own id)/\look hp id=some (.rows e a.size n<|l.map enc)\/val tm s=some (.t<|.v<|.slice none 0 0)/\l=[])(hx:val tm x=some (.t<|.sl m<|r.map enc)\/∃w,val tm x=some (.own w)/\look hp w=some (.rows e' a.size m<|r.map enc))(f:Sub ⟨tm',L9⟩ ⟨tm,hp⟩)(g:Y3 id vJ=true)(q:F6 id tm'=true)(u:E8 id L9=true)(h:∀y,o0 X all rest ks ⟨(d,.own id)::tm',(id,.rows e a.size y.length<|y.map enc)::L9⟩ (k y) Q):o0 X all (o::rest) ks ⟨tm,hp⟩ ((G2 l r).bind k) Q:=o0.append z A i B j p hz b c C hx f g q u<|h<|l++r
end
def Jk {α:Type}(l:List α)(o:Nat)(c:List α):List α:=l.take o++c++l.drop (o+c.length)
theorem NY {α:Type}(l:List α)(o:Nat)(c:List α)(h:o+c.length<=l.length):(Jk l o c).length=l.length:=by simp[Jk];omega
def aT3 {α:Type}(l:List α)(o:Nat)(c:List α)(h:o+c.length<=l.length)(p:Nat):(Jk l o c)[p]?=if p<o then l[p]?else if p<o+c.length then c[p-o]?else l[p]?:=by
 unfold Jk;have e1:min o l.length=o:=by omega
 by_cases h1:p<o;rw[if_pos h1,cW5,cI7<|by simp;omega,db5,if_pos h1];rw[if_neg h1];by_cases a:p<o+c.length;rw[if_pos a,cI7<|by simp;omega,dc0<|by simp;omega];simp[cV5,e1];rw[if_neg a,dc0<|by simp;omega,de5];congr 1;simp[IT,cV5];omega
section
variable {P:Program}{w0:World}{L:GL}{nt:Nat}{σ:St}{S:Nat->Prop}{E:Nat->Value}{a:Act}{w:World}
theorem RV.rt {v:Value}{y:Tree}(h:RV w S E v<|.t y):RT w S v y:=by cases h with|t h=>exact h
def bD1 (m:Ok w0 L nt σ S E a w){t:Nat}{ti:TI}(M:Ci P t ti){id i sz off e n:Nat}{rs:List<|List Tree}{row lt:List Tree}{x:T}{v pv:Value}(hb:look σ.hp id=some (.rows e sz n rs))(hp:RV w S E pv<|.pe id i sz off)(hi:rs[i]?=some row)(hv:RV w S E v x)(hx:cq σ.hp x=some (lt.map .t))(hs:lt.length=ti.size)(hle:off+lt.length<=sz):∃w',(Instr.storeAt t pv v).run P w=.ok () w'/\Ok w0 L nt ⟨σ.tm,aT σ.hp id<|.rows e sz n<|rs.set i<|Jk row off lt⟩ S E a w':=by
 obtain⟨vs,N,hl,hr,h1⟩:=m.cells hv hx;obtain⟨hn,s⟩:=m.hp id _ hb;obtain⟨u,d⟩:=No.1 hi;have hvl:vs.length=lt.length:=by simpa using hl
 rcases s with⟨_,O⟩|⟨β,y,cs,Q,R,hh,U,V,g,W⟩;subst O;simp at u;cases hp with|pe _ _ _ _ β' n' cap' z=>
  rw[R]at z;cases z;have A:row.length=sz:=by rw[<-d];exact g _<|al8 u
  have l:i*sz+off+vs.length<=cs.length:=by have f:(i+1)*sz<=y*sz:=cW8 _ F;rw[dc5]at f;omega
  have X:(Instr.storeAt t (.pointer<|some ⟨β,i*sz+off,none⟩) v).run P w=.ok () (w.setRow β (Jk cs (i*sz+off) vs).toArray):=by
   have:=run_storeCells_at (P:=P) β (i*sz+off) e vs 0 cs.toArray w hh (by simp;omega) h1;have Z:vs.length=ti.size:=by omega
   simp only[Instr.storeAt,Instr.sureAddr,cV1,cW0,OF,storeVar,M.iJ,N];simpa[Jk,Z]using this
  refine⟨_,X,m.setRow hb (by rw[R];rfl) hh λhS B=>⟨by rw[cz1];exact hn,.inr ⟨β,y,Jk cs (i*sz+off) vs,Q,by rw[cz1];exact R,B,by rw[NY _ _ _ l];exact U,by rw[cz1];exact V,?_,?_⟩⟩⟩;intro r hr';obtain⟨j,C,rfl⟩:=Kz.1 hr';rw[cz1]at C;rw[cZ8];split;rw[NY _ _ _ F];exact A;exact g _<|al8 C;intro b j D C hb';have c:b<rs.length:=by rw[cz1]at D;exact D
  have hg:=aT3 cs (i*sz+off) vs l<|b*sz+j;rw[IN hb']at hg;have Dd:∀(I:b≠i\/j<off\/off+vs.length<=j),(b=i->(Jk row off lt)[j]?=row[j]?)->RT (w.setRow β (Jk cs (i*sz+off) vs).toArray) S (Jk cs (i*sz+off) vs)[b*sz+j] ((rs.set i<|Jk row off lt)[b]'(by rw[cz1];exact c))[j]:=by
   intro I o;have hjr:((rs.set i<|Jk row off lt)[b]'(by rw[cz1];exact c)).length=sz:=by rw[cZ8];split;rw[NY _ _ _ F];exact A;exact g _<|al8 c
   have hjs:j<sz:=by rw[hjr]at C;exact C
   have k:b*sz+j<i*sz+off\/i*sz+off+vs.length<=b*sz+j:=by rcases Nat.lt_trichotomy b i with f|f|f;left;have:(b+1)*sz<=i*sz:=cW8 _ f;rw[dc5]at this;omega;subst f;rcases I with J|J|J;exact absurd rfl J;left;omega;right;omega;right;have:(i+1)*sz<=b*sz:=cW8 _ f;rw[dc5]at this;omega
   have e1:some (Jk cs (i*sz+off) vs)[b*sz+j]=cs[b*sz+j]?:=by rw[hg];rcases k with f|f;rw[if_pos f];rw[if_neg F,if_neg F]
   obtain⟨hlt,e1⟩:=No.1 e1.symm;have hj2:j<rs[b].length:=by rw[g _<|al8 c];exact hjs
   have e2:((rs.set i<|Jk row off lt)[b]'(by rw[cz1];exact c))[j]=rs[b][j]:=by apply oa;rw[<-IN,<-IN,cZ8];split;rename_i J;subst J;rw[o rfl,<-d];rfl
   rw[<-e1,e2];exact(W b j c hj2 hlt).mono (λ_ x=>x) hS
  by_cases p:b=i;subst p;have q:=aT3 row off lt F j;by_cases c1:j<off;exact Dd (.inr<|.inl c1) (λ_=>by rw[q,if_pos c1]);by_cases c2:j<off+lt.length;have K:j-off<vs.length:=by omega
  have e1:(Jk cs (b*sz+off) vs)[b*sz+j]=vs[j-off]:=by apply oa;rw[hg,if_neg F,if_pos F,show b*sz+j-(b*sz+off)=j-off by omega,IN K]
  have e2:((rs.set b<|Jk row off lt)[b]'(by rw[cz1];exact c))[j]=lt[j-off]:=by apply oa;rw[<-IN,List.getElem_set_self,q,if_neg c1,if_pos c2,IN F]
  rw[e1,e2];have:=hr (j-off) K (by simp;omega);rw[cX7]at this;exact this.rt.mono (λ_ x=>x) hS;exact Dd (.inr<|.inr F) (λ_=>by rw[q,if_neg c1,if_neg c2]);exact Dd (.inl p) λh=>absurd h p
def aN5 (h:Ok w0 L nt σ S E a w){t:Nat}{ti:TI}(k:Ci P t ti){id i sz off e n:Nat}{rs:List<|List Tree}{row:List Tree}{p:Value}{r:T}(x:look σ.hp id=some (.rows e sz n rs))(hp:RV w S E p<|.pe id i sz off)(hi:rs[i]?=some row)(hx:Av ti.desc.isAgg ti.size (row.map .t) off=some r):∃v,(Instr.loadAt t p).run P w=.ok v w/\RV w S E v r:=by obtain⟨J,d⟩:=h.hp id _ x;obtain⟨c,b⟩:=No.1 hi;rcases d with⟨_,l⟩|⟨β,m,cs,y,z,A,B,C,f,o⟩;subst l;simp at c;cases hp with|pe _ _ _ _ K M q g=>
  rw[z]at g;cases g;have D:row.length=sz:=by rw[<-b];exact f _<|al8 c
  have s:i*sz+sz<=cs.length:=by have u:(i+1)*sz<=m*sz:=cW8 _ F;rw[dc5]at u;omega
  refine WX (vs:=(cs.drop<|i*sz).take sz) k ?_ ?_ ?_ hx;simp;omega;intro j h1;simp[cV5]at h1;rw[cell_of_row w β _ _ e _ A];have:i*sz+j<cs.length:=by omega
  simp;intro j h1 u;simp[cV5]at h1;have I:j<sz:=by omega
  have:=o i j c (by rw[f _<|al8 c];exact I) F;simp[dd0,cY2,cX7];simp[b]at this;exact .t this
end
section
variable {ρ α:Type}{X:Cx}{ks:List K}{tm:J4}{hp:F1}{m:Option ρ}{Q:ρ->Exit->St->Prop}{all:Array Oper}{o:Oper}{rest:List Oper}
def o0.cI1 {t d id i sz off e n:Nat}{ti:TI}{p:Operand}{l:List α}{enc:α->List Tree}{y:α}{r:T}(g:l[i]?=some y)(j:o.op=.load t p)(q:o.dst=some d)(b:Y3 d X.nt=true)(s:R8 all.toList tm o.guard=some true)(c:val tm p=some (.pe id i sz off))(u:look hp id=some (.rows e sz n<|l.map enc))(f:look X.tab t=some ti)(x:Av ti.desc.isAgg ti.size ((enc y).map .t) off=some r)(h:o0 X all rest ks ⟨(d,r)::tm,hp⟩ m Q):o0 X all (o::rest) ks ⟨tm,hp⟩ m Q:=by have:=o0.one (X:=X) (ks:=ks) (tm:=tm) (hp:=hp) (all:=all) (o:=o) (rest:=rest) (Q:=Q) (k:=λ_=>m) (m₁:=some ()) q b s (λ_=>r) λ_ S E a w _ hk=>by obtain⟨v,h1,z⟩:=aN5 (P:=X.P) hk (X.C8 t _ f) u (hk.val c) (by rw[bg5,g];rfl) x;refine⟨v,?_,z⟩;unfold execOp;simp only[j,cV1,h1,OF,cW0] λ_ _=>h;simpa using this
end
mutual def oN (h:List<|Nat×Nat):T->Option T
 |.t x=>some<|.t x|.el c=>some<|.el c|.fz n c=>some<|.fz n c|.any=>some .any|.ptr id a=>match look h id with|some i=>some<|.ptr i a|none=>none
 |.own id=>match look h id with|some i=>some<|.own i|none=>none
 |.pe id i sz a=>match look h id with|some j=>some<|.pe j i sz a|none=>none
 |.vw id lo n sz=>match look h id with|some j=>some<|.vw j lo n sz|none=>none
 |.agg l=>match NL h l with|some r=>some<|.agg r|none=>none
 |.Z9 l=>match NL h l with|some r=>some<|.Z9 r|none=>none
 |.Fu f l=>match NL h l with|some r=>some<|.Fu f r|none=>none def NL (h:List<|Nat×Nat):List T->Option (List T)|[]=>some []|x::r=>match oN h x,NL h r with|some y,some l=>some<|y::l|_,_=>none end
def NK (h:List<|Nat×Nat):ck->Option ck
 |.box l=>match NL h l with|some r=>some<|.box r|none=>none
 |.rows e sz n rs=>some<|.rows e sz n rs|.mp es=>some<|.mp es|.rv y e sz n rs=>some<|.rv y e sz n rs
section
variable {w:World}{S:Nat->Prop}{E E':Nat->Value}{h:List<|Nat×Nat}
mutual theorem SH (o:∀i j,look h i=some j->E' j=E i):∀{t u:T}{v:Value},RV w S E v t->oN h t=some u->RV w S E' v u
 |.t x,u,v,d,b=>by simp only[oN,AI]at b;subst b;exact d.mono (λ_ x=>x) (λ_ _=>rfl) λid g=>by simp[names]at g|.el c,u,v,d,b=>by simp only[oN,AI]at b;subst b;exact d.mono (λ_ x=>x) (λ_ _=>rfl) λid g=>by simp[names]at g|.fz n c,u,v,d,b=>by simp only[oN,AI]at b;subst b;exact d.mono (λ_ x=>x) (λ_ _=>rfl) λid g=>by simp[names]at g|.any,u,v,d,b=>by simp only[oN,AI]at b;subst b;exact .any v|.ptr id p,u,v,d,b=>by
  simp only[oN]at b;split at b<;>try cases b;done
  rename_i i hi;simp only[AI]at b;subst b;cases d with|ptr _ _ β q=>exact .ptr i p β<|by rw[o id i hi];exact q
 |.own id,u,v,d,b=>by
  simp only[oN]at b;split at b<;>try cases b;done
  rename_i i hi;simp only[AI]at b;subst b;cases d with|own _ _ q=>exact .own i v<|by rw[o id i hi];exact q
 |.pe id k sz p,u,v,d,b=>by
  simp only[oN]at b;split at b<;>try cases b;done
  rename_i i hi;simp only[AI]at b;subst b;cases d with|pe _ _ _ _ β n y q=>exact .pe i k sz p β n y<|by rw[o id i hi];exact q
 |.vw id lo n sz,u,v,d,b=>by
  simp only[oN]at b;split at b<;>try cases b;done
  rename_i i hi;simp only[AI]at b;subst b;cases d with|vw _ _ _ _ c a q=>exact .vw i lo n sz c a<|by rw[o id i hi];exact q
 |.agg l,u,v,d,b=>by
  simp only[oN]at b;split at b<;>try cases b;done
  rename_i r s;simp only[AI]at b;subst b;cases d with|agg vs _ e m=>have:=SG o ⟨e,m⟩ s;exact .agg vs r this.1 this.2
 |.Z9 l,u,v,d,b=>by
  simp only[oN]at b;split at b<;>try cases b;done
  rename_i r s;simp only[AI]at b;subst b;cases d with|Z9 vs _ e m=>have:=SG o ⟨e,m⟩ s;exact .Z9 vs r this.1 this.2
 |.Fu f l,u,v,d,b=>by
  simp only[oN]at b;split at b<;>try cases b;done
  rename_i r s;simp only[AI]at b;subst b;cases d with|Fu _ vs _ e m=>have:=SG o ⟨e,m⟩ s;exact .Fu f vs r this.1 this.2;theorem SG (g:∀i j,look h i=some j->E' j=E i):∀{l r:List T}{vs:List Value},xJ w S E vs l->NL h l=some r->xJ w S E' vs r
 |[],r,vs,d,c=>by simp only[NL,AI]at c;subst c;exact⟨d.1,λj _ e=>by simp at e⟩|x::l,r,vs,d,c=>by
  simp only[NL]at c;split at c<;>try cases c;done
  rename_i y l' k f;simp only[AI]at c;subst c;cases vs with|nil=>have:=d.1;simp at this|cons v vs=>have h1:=SH g (t:=x) (d.2 0 sq sq) k;have e:=SG g (l:=l) (vs:=vs) ⟨by simpa using d.1,λj a b=>d.2 (j+1) (by simpa using a)<|by simpa using b⟩ f;refine⟨by simp[e.1],λj a b=>?_⟩;cases j with|zero=>exact h1|succ j=>exact e.2 j (by simpa using a)<|by simpa using b;end
mutual theorem bE0 (o:∀i j,look h i=some j->E' j=E i):∀{t u:T}{v:Value},RV w S E' v u->oN h t=some u->RV w S E v t
 |.t x,u,v,d,b=>by simp only[oN,AI]at b;subst b;exact d.mono (λ_ x=>x) (λ_ _=>rfl) λid g=>by simp[names]at g|.el c,u,v,d,b=>by simp only[oN,AI]at b;subst b;exact d.mono (λ_ x=>x) (λ_ _=>rfl) λid g=>by simp[names]at g|.fz n c,u,v,d,b=>by simp only[oN,AI]at b;subst b;exact d.mono (λ_ x=>x) (λ_ _=>rfl) λid g=>by simp[names]at g|.any,u,v,d,b=>.any v|.ptr id p,u,v,d,b=>by
  simp only[oN]at b;split at b<;>try cases b;done
  rename_i i hi;simp only[AI]at b;subst b;cases d with|ptr _ _ β q=>exact .ptr id p β<|by rw[<-o id i hi];exact q
 |.own id,u,v,d,b=>by
  simp only[oN]at b;split at b<;>try cases b;done
  rename_i i hi;simp only[AI]at b;subst b;cases d with|own _ _ q=>exact .own id v<|by rw[<-o id i hi];exact q
 |.pe id k sz p,u,v,d,b=>by
  simp only[oN]at b;split at b<;>try cases b;done
  rename_i i hi;simp only[AI]at b;subst b;cases d with|pe _ _ _ _ β n y q=>exact .pe id k sz p β n y<|by rw[<-o id i hi];exact q
 |.vw id lo n sz,u,v,d,b=>by
  simp only[oN]at b;split at b<;>try cases b;done
  rename_i i hi;simp only[AI]at b;subst b;cases d with|vw _ _ _ _ c a q=>exact .vw id lo n sz c a<|by rw[<-o id i hi];exact q
 |.agg l,u,v,d,b=>by
  simp only[oN]at b;split at b<;>try cases b;done
  rename_i r s;simp only[AI]at b;subst b;cases d with|agg vs _ e m=>have:=Ff o ⟨e,m⟩ s;exact .agg vs l this.1 this.2
 |.Z9 l,u,v,d,b=>by
  simp only[oN]at b;split at b<;>try cases b;done
  rename_i r s;simp only[AI]at b;subst b;cases d with|Z9 vs _ e m=>have:=Ff o ⟨e,m⟩ s;exact .Z9 vs l this.1 this.2
 |.Fu f l,u,v,d,b=>by
  simp only[oN]at b;split at b<;>try cases b;done
  rename_i r s;simp only[AI]at b;subst b;cases d with|Fu _ vs _ e m=>have:=Ff o ⟨e,m⟩ s;exact .Fu f vs l this.1 this.2;theorem Ff (g:∀i j,look h i=some j->E' j=E i):∀{l r:List T}{vs:List Value},xJ w S E' vs r->NL h l=some r->xJ w S E vs l
 |[],r,vs,d,c=>by simp only[NL,AI]at c;subst c;exact⟨d.1,λj _ e=>by simp at e⟩|x::l,r,vs,d,c=>by
  simp only[NL]at c;split at c<;>try cases c;done
  rename_i y l' k f;simp only[AI]at c;subst c;cases vs with|nil=>have:=d.1;simp at this|cons v vs=>have h1:=bE0 g (t:=x) (d.2 0 sq sq) k;have e:=Ff g (l:=l) (vs:=vs) ⟨by simpa using d.1,λj a b=>d.2 (j+1) (by simpa using a)<|by simpa using b⟩ f;refine⟨by simp[e.1],λj a b=>?_⟩;cases j with|zero=>exact h1|succ j=>exact e.2 j (by simpa using a)<|by simpa using b;end
def az2 (k:∀i j,look h i=some j->E' j=E i){x:Value}{b c:ck}(g:yu w S E x b)(a:NK h b=some c):yu w S E' x c:=by
 cases b with|box l=>
  simp[NK]at a;split at a<;>try cases a;done
  rename_i r m;simp[AI]at a;subst a;obtain⟨β,vs,f,h1,o,p,q,s⟩:=g;have:=SG k ⟨p,q⟩ m;exact⟨β,vs,f,h1,o,this.1,this.2,s⟩|rows e sz n rs=>simp[NK,AI]at a;subst a;exact g.mono (λ_ x=>x) (λ_ _=>rfl) (λ_ _=>rfl) λ_ d=>by simp[Bf]at d|mp es=>simp[NK,AI]at a;subst a;exact g.mono (λ_ x=>x) (λ_ _=>rfl) (λ_ _=>rfl) λ_ d=>by simp[Bf]at d|rv y e sz n rs=>simp[NK,AI]at a;subst a;exact g.mono (λ_ x=>x) (λ_ _=>rfl) (λ_ _=>rfl) λ_ d=>by simp[Bf]at d
def bD9 (k:∀i j,look h i=some j->E' j=E i){x:Value}{b c:ck}(g:yu w S E' x c)(a:NK h b=some c):yu w S E x b:=by
 cases b with|box l=>
  simp[NK]at a;split at a<;>try cases a;done
  rename_i r m;simp[AI]at a;subst a;obtain⟨β,vs,f,h1,o,p,q,s⟩:=g;have:=Ff k ⟨p,q⟩ m;exact⟨β,vs,f,h1,o,this.1,this.2,s⟩|rows e sz n rs=>simp[NK,AI]at a;subst a;exact g.mono (λ_ x=>x) (λ_ _=>rfl) (λ_ _=>rfl) λ_ d=>by simp[Bf]at d|mp es=>simp[NK,AI]at a;subst a;exact g.mono (λ_ x=>x) (λ_ _=>rfl) (λ_ _=>rfl) λ_ d=>by simp[Bf]at d|rv y e sz n rs=>simp[NK,AI]at a;subst a;exact g.mono (λ_ x=>x) (λ_ _=>rfl) (λ_ _=>rfl) λ_ d=>by simp[Bf]at d
end
structure Rr (w:World)(S:Nat->Prop)(E:Nat->Value)(hp:F1):Prop where
 ny:∀id b,look hp id=some b->yu w S E (E id) b
 own:∀id b β,look hp id=some b->H9 (E id)=some β->¬S β/\β<w.heap.size
 cJ:∀id id' b b' β,look hp id=some b->look hp id'=some b'->H9 (E id)=some β->H9 (E id')=some β->id=id'
def iB (hp:F1)(E:Nat->Value)(β:Nat):Prop:=∃id b,look hp id=some b/\H9 (E id)=some β
def yw {ρ:Type}(P:Program)(n:FuncId)(args:List T)(hp:F1)(m:Option ρ)(res:ρ->T)(L9:ρ->F1):Prop:=(∀vs w,(callFunc n vs).run P w=.ok (.enter n vs) w)/\∀r,m=some r->∀(w:World)(S:Nat->Prop)(E:Nat->Value)(vs:List Value),(∀b,S b->b<w.heap.size)->Rr w S E hp->xJ w S E vs args->Calls P n vs.toArray w λe w'=>∃v S' E',e=.returned v/\RV w' S' E' v (res r)/\tZ (iB hp E) w w'/\(∀b,S' b->b<w'.heap.size)/\(∀b,S' b->S b\/iB hp E b\/w.heap.size<=b)/\Rr w' S' E' (L9 r)/\(∀β,iB (L9 r) E' β->iB hp E β\/w.heap.size<=β)/\∀id,vJ<=id->E' id=E id
theorem Rr.ok {w:World}{S:Nat->Prop}{E:Nat->Value}{hp:F1}(h:Rr w S E hp)(d:∀b,S b->b<w.heap.size):Ok w ⟨λ_=>True,λ_=>True,E⟩ 0 ⟨[],hp⟩ S E ⟨#[],[]⟩ w where
 keep:=tZ.refl _ _;lB:=d;base:=λ_ _=>.inl trivial;size:=rfl;defers:=rfl;tm:=λk t ht=>by simp[look]at ht
 hp:=h.ny;own:=λid b β a c=>⟨(h.own id b β a c).1,(h.own id b β a c).2,.inr trivial⟩;cJ:=h.cJ;Rm:=λ_ _=>rfl
def yw.toF {ρ:Type}{P:Program}{n:FuncId}{args:List T}{m:Option ρ}{res res':ρ->T}{L9:ρ->F1}(h:yw P n args [] m res L9)(hz:∀r,wA (L9 r) (res r)=some (res' r)):uR P n args m res':=by
 refine⟨h.1,λr g w S E vs i j=>(h.2 r g w S E vs i ⟨λid b a=>by simp[look]at a,λid b β a=>by simp[look]at a,λid id' b s β a=>by simp[look]at a⟩ j).mono λe w' ⟨v,S',E',l,c,hk,h1,t,f,o,_⟩=>?_⟩;have p:∀β,¬iB [] E β:=λβ ⟨id,b,a,_⟩=>by simp[look]at a
 refine⟨v,λb=>S' b\/EL (L9 r) E' b,l,aw1 (f.ok h1) (λ_ x=>.inl x) (λ_ x=>.inr x) c (hz r) E,⟨hk.os,hk.tape,hk.output,hk.size,λk d _=>hk.block k d<|p k,hk.drawn⟩,λb a=>?_,λb a=>?_⟩
 ·rcases a with a|⟨id,_,hl,hβ⟩;·grind
  ·exact(f.own id _ b hl hβ).2
 ·rcases a with a|⟨id,_,hl,hβ⟩;·grind
  ·rcases o b ⟨id,_,hl,hβ⟩with q|q;all_goals grind
end Go.Pv
namespace Go.Pv
open Go.RowKit
def xD:List Nat->Bool|[]=>true|x::r=>!r.any (cV4 x)&&xD r
def rev:List (Nat×Nat)->Nat->Option Nat|[],_=>none|(a,b)::r,c=>bif cV4 b c then some a else rev r c
theorem any_beq {l:List Nat}{x:Nat}(h:l.any (cV4 x)=false):x∉l:=by grind [tj]
theorem CR {α:Type}:∀{l:List<|Nat×α}{i:Nat}{x:α},look l i=some x->(i,x)∈l|[],i,x,h=>by simp[look]at h|(a,b)::r,i,x,h=>by simp[look]at h;by_cases hi:a=i;all_goals simp_all[s9,CR]
theorem Jh:∀{h:List<|Nat×Nat}{i j:Nat},xD (h.map (·.2))=true->look h i=some j->rev h j=some i|[],i,j,_,c=>by simp[look]at c|(a,b)::r,i,j,d,c=>by simp only[ew,xD,BY,nW]at d;simp[look]at c;by_cases hi:a=i;simp_all[rev];simp[s9 hi]at c;have f:b≠j:=λe=>any_beq d.1<|e▸cX3.2 ⟨(i,j),CR c,rfl⟩;simp[rev,s9 f];exact Jh d.2 c
theorem aR7:∀{h:List<|Nat×Nat}{c:Nat},c∉h.map (·.2)->rev h c=none|[],c,_=>rfl|(a,b)::r,c,d=>by simp only[ew,cV6,not_or]at d;simp[rev,s9<|Ne.symm d.1];exact aR7 d.2
theorem Xc:∀{h:List<|Nat×Nat}{c a:Nat},rev h c=some a->(a,c)∈h|[],c,a,b=>by simp[rev]at b|(x,y)::r,c,a,b=>by simp[rev]at b;by_cases d:y=c;all_goals simp_all[s9,Xc]
theorem sj {α:Type}:∀(l m:List<|Nat×α)(i:Nat),look (l++m) i=match look l i with|some x=>some x|none=>look m i
 |[],m,i=>rfl|(a,b)::r,m,i=>by simp[cX8,look];by_cases hi:a=i;all_goals simp_all[s9,sj]
def nodup_append:∀{l m:List Nat},xD (l++m)=true->xD l=true/\xD m=true/\∀x,x∈l->x∉m|[],m,h=>⟨rfl,h,λx hx=>by simp at hx⟩|a::r,m,h=>by simp only[cX8,xD,BY,Bool.or_eq_false_iff]at h;obtain⟨h1,b,c⟩:=nodup_append h.2;refine⟨by grind [xD],b,λx hx=>?_⟩;all_goals grind [any_beq]
def sE (h:List<|Nat×Nat):F1->Option F1|[]=>some []|(i,b)::r=>match look h i,NK h b,sE h r with|some j,some c,some l=>some<|(j,c)::l|_,_,_=>none
def ZH (h:List<|Nat×Nat):J4->Option J4|[]=>some []|(k,t)::r=>match oN h t,ZH h r with|some u,some l=>some<|(k,u)::l|_,_=>none
def Bk {h:List<|Nat×Nat}:∀{hp L9:F1},sE h hp=some L9->∀{c:Nat}{f:ck},look L9 c=some f->∃i b,look hp i=some b/\look h i=some c/\NK h b=some f
 |[],L9,a,c,f,d=>by grind [sE,look]|(i,b)::r,L9,a,c,f,d=>by
  simp[sE]at a;split at a<;>try cases a;done
  rename_i j b1 l o p g;simp[AI]at a;subst a;simp[look]at d;by_cases k:j=c;·subst k;simp[tj,AI]at d;subst d;exact⟨i,b,by simp[look],o,p⟩
  ·simp[s9 k]at d;obtain⟨i',b2,h1,m,q⟩:=Bk g d;refine⟨i',b2,?_,m,q⟩;have n:i≠i':=by intro e;subst e;rw[o]at m;exact k<|oa m
   simp[look,s9 n];exact h1
theorem Fb {h:List<|Nat×Nat}:∀{hp L9:F1},sE h hp=some L9->∀{i:Nat}{b:ck},look hp i=some b->∃j e,look h i=some j/\NK h b=some e/\(j,e)∈L9
 |[],L9,a,i,b,c=>by simp[look]at c|(f,b0)::r,L9,a,i,b,c=>by
  simp[sE]at a;split at a<;>try cases a;done
  rename_i j b1 l n o d;simp[AI]at a;subst a;simp[look]at c;by_cases hi:f=i;·simp_all
  ·simp[s9 hi]at c;obtain⟨g,b2,h1,k,m⟩:=Fb d c;exact⟨g,b2,h1,k,cV3 _ m⟩
theorem ZI {h:List<|Nat×Nat}:∀{tm tm':J4},ZH h tm=some tm'->∀{k:Nat}{u:T},look tm' k=some u->∃t,look tm k=some t/\oN h t=some u
 |[],tm',a,k,u,b=>by grind [ZH,look]|(k0,t0)::r,tm',a,k,u,b=>by
  simp[ZH]at a;split at a<;>try done
  simp[AI]at a;subst a;by_cases hk:k0=k;all_goals simp_all[look,s9,ZI]
def VH (h:List<|Nat×Nat):Bool:=xD (h.map (·.2))&&h.all λp=>Y3 p.2 vJ||cV4 p.1 p.2
def Ok.ren {w0:World}{L:GL}{nt:Nat}{tm tm':J4}{hp L9:F1}{S:Nat->Prop}{E:Nat->Value}{a:Act}{w:World}(k:Ok w0 L nt ⟨tm,hp⟩ S E a w)(h:List<|Nat×Nat)(q:VH h=true)(ht:ZH h tm=some tm')(p:sE h hp=some L9):∃E',Ok w0 L nt ⟨tm',L9⟩ S E' a w:=by
 simp only[VH,BY,cV2]at q;let E':Nat->Value:=λc=>match rev h c with|some s=>E s|none=>E c;have g:∀i j,look h i=some j->E' j=E i:=λi j d=>by simp[E',Jh q.1 d]
 refine⟨E',{keep:=k.keep,lB:=k.lB,base:=k.base,size:=k.size,defers:=k.defers,tm:=λn u d=>?_,hp:=λc b d=>?_,own:=λc b β d l=>?_,cJ:=λc A b D β d r l m=>?_,Rm:=λid o=>?_}⟩;obtain⟨t,h1,e⟩:=ZI ht d;exact SH g (k.tm n t h1) e;obtain⟨i,b0,h1,e,v⟩:=Bk p d;rw[g i c e];exact az2 g (k.hp i b0 h1) v;obtain⟨i,b0,h1,e,v⟩:=Bk p d;rw[g i c e]at l;exact k.own i b0 β h1 l;obtain⟨i,b0,h1,e,v⟩:=Bk p d;obtain⟨z,x,y,f,B⟩:=Bk p r;rw[g i c e]at l;rw[g z A f]at m;have:=k.cJ i z b0 x β h1 y l m;subst this;rw[e]at f;exact oa f;simp[E'];split;rename_i s C;have:=q.2 _<|Xc C;simp only[bh7]at this;rcases this with h1|h1;have:=cU8 h1;omega;have:=bD h1;subst this;exact k.Rm _ o;exact k.Rm id o
def Iw (tm:J4)(o:Oper):Option<|Nat×List T:=match o.op with
 |.call ⟨.value f,args,_⟩=>match val tm f,GJ tm args.toList with|some<|.fz n a,some l=>some (n,l++a.map .el)|some<|.Fu n c,some l=>some (n,l++c)|_,_=>none
 |_=>none
def aI9 {P:Program}{w0:World}{L:GL}{nt:Nat}{σ:St}{S:Nat->Prop}{E:Nat->Value}{a:Act}{w:World}(h:Ok w0 L nt σ S E a w){o:Oper}{n:Nat}{l:List T}(i:Iw σ.tm o=some (n,l))(y:∀vs w,(callFunc n vs).run P w=.ok (.enter n vs) w):∃vs:List Value,(execOp a.eval o).run P w=.ok (.enter n vs.toArray) w/\xJ w S E vs l:=by
 obtain⟨dst,z,type,pos,q,guard⟩:=o;unfold Iw at i;split at i<;>try cases i
 rename_i f args r s;subst s;have fin:∀(g:List Value)(b:List T)(l':List T),a.eval f=.func (.func n) #[] g.toArray->xJ w S E g b->GJ σ.tm args.toList=some l'->l=l'++b->∃vs:List Value,(execOp a.eval ⟨dst,.call ⟨.value f,args,r⟩,type,pos,q,guard⟩).run P w=.ok (.enter n vs.toArray) w/\xJ w S E vs l:=by intro g b l' hx t m e;subst e;refine⟨args.toList.map a.eval++g,?_,(Tg h _ _ m).append t⟩;simp_all[execOp,resolve,Deferred.ofValue,invoke]
 split at i<;>try cases i;done
 ·rename_i v k l' u m;obtain⟨rfl,rfl⟩:=i;have d:=h.val u;generalize hx:a.eval f=x at d;cases d with|fz _ g _ p hp=>exact fin g (k.map .el) l' hx ⟨gq,λj h1 A=>by simp[cX7];exact(hp j h1 F).rv⟩ m rfl
 ·rename_i v c l' u m;obtain⟨rfl,rfl⟩:=i;have d:=h.val u;generalize hx:a.eval f=x at d;cases d with|Fu _ g _ p hp=>exact fin g c l' hx ⟨p,hp⟩ m rfl
def bT2 (c:Nat)(l:List<|Nat×Nat):Bool:=l.any λp=>cV4 p.2 c
def dC (a:List<|Nat×Nat):F1->F1|[]=>[]|(i,b)::r=>match bT2 i a with|true=>dC a r|false=>(i,b)::dC a r
def Ki {d:List<|Nat×Nat}:∀{hp:F1}{i:Nat}{b:ck},look (dC d hp) i=some b->look hp i=some b/\i∉d.map (·.2)
 |[],i,b,h=>by simp[dC,look]at h|(j,c)::r,i,b,h=>by
  simp[dC]at h;cases a:bT2 j d<;>simp[a]at h
  ·simp[look]at h;by_cases e:j=i;·subst e;simp[tj,AI]at h;subst h;refine⟨by simp[look],λhx=>?_⟩;obtain⟨p,hp,f⟩:=cX3.1 hx;unfold bT2 at a;rw[List.any_eq_false]at a;exact a p hp<|by simp[f]
   ·simp[s9 e]at h;have:=Ki h;simp_all[look,s9]
  ·have:=Ki h;by_cases e:j=i;all_goals simp_all[bT2,look,s9]
def Dx (a b:List<|Nat×Nat)(tm:J4)(hp:F1):Bool:=xD ((a++b).map (·.2))&&a.all (λp=>dc6 vJ p.1)&&b.all λp=>Y3 p.2 vJ&&F6 p.2 tm&&E8 p.2 hp
def Ok.called {w0:World}{L:GL}{nt:Nat}{tm:J4}{hp B y sC rhp:F1}{S S':Nat->Prop}{E E':Nat->Value}{a:Act}{w w':World}(k:Ok w0 L nt ⟨tm,hp⟩ S E a w){z V:List<|Nat×Nat}{v:Value}{t u:T}(hm:Dx z V tm hp=true)(hr:sE z B=some sC)(hsub:sC.map (IX hp)=sC.map λp=>some p.2){Ec:Nat->Value}(hEc:∀i j,look z i=some j->Ec i=E j)(hv:RV w' S' E' v t)(q:tZ (iB B Ec) w w')(h1:∀b,S' b->b<w'.heap.size)(h2:∀b,S' b->S b\/iB B Ec b\/w.heap.size<=b)(hO:Rr w' S' E' y)(h3:∀β,iB y E' β->iB B Ec β\/w.heap.size<=β)(h4:∀id,vJ<=id->E' id=Ec id)(hres:oN (z++V) t=some u)(hrhp:sE (z++V) y=some rhp):∃S2 I,Ok w0 L nt ⟨tm,rhp++dC z hp⟩ S2 I a w'/\RV w' S2 I v u:=by
 simp only[Dx,BY,cV2]at hm;obtain⟨⟨hnd,hbig⟩,hfr⟩:=hm;rw[dc9]at hnd;obtain⟨nd1,nd2,ndx⟩:=nodup_append hnd;have hmem:∀p∈sC,∃D,look hp p.1=some D/\Uy D p.2=p.2:=by
  intro p L9;obtain⟨n,hn,rfl⟩:=Kz.1 L9;have:(sC.map<|IX hp)[n]?=(sC.map λp=>some p.2)[n]?:=by rw[hsub]
  grind [IX]
 have KL:∀β,iB B Ec β->∃i j D,look z i=some j/\look hp j=some D/\H9 (E j)=some β:=by rintro β ⟨i,b,P,o⟩;grind [Fb]
 have d:∀β,iB B Ec β->¬S β/\β<w.heap.size/\(w0.heap.size<=β\/L.KL β):=λβ e=>by obtain⟨i,j,D,_,e2,A⟩:=KL β e;exact k.own j D β e2 A
 have tgt:∀{i j:Nat},look z i=some j->j∈z.map (·.2):=λh=>cX3.2 ⟨_,CR h,rfl⟩;have hS:∀b,S b->w'.heap[b]?=w.heap[b]?:=λb P=>q.block b (k.lB b P) λe=>(d b e).1 P;have hsz:=q.size;have Z:=k.keep.size;let I:Nat->Value:=λc=>match rev V c with|some s=>E' s|none=>E c;have f:∀c,c∉V.map (·.2)->I c=E c:=λc J=>by simp[I,aR7 J]
 have g:∀c,c∈V.map (·.2)->c<vJ/\F6 c tm=true/\E8 c hp=true:=λc J=>by
  obtain⟨p,L9,rfl⟩:=cX3.1 J;obtain⟨⟨f1,f2⟩,f3⟩:=by simpa using hfr p L9
  exact⟨by simpa using f1,f2,f3⟩
 have K:∀i j,look (z++V) i=some j->I j=E' i:=by intro i j e;rw[sj]at e;cases Q:look z i with|some j'=>simp only[Q,AI]at e;subst e;rw[f j'<|ndx j'<|tgt Q,h4 i<|cU8<|hbig _<|CR Q,hEc i j' Q]|none=>simp only[Q]at e;simp[I,Jh nd2 e]
 refine⟨λb=>S b\/S' b,I,?_,(SH K hv hres).mono (λ_ x=>.inr x) (λ_ _=>rfl) λ_ _=>rfl⟩;have W:∀n x,look tm n=some x->∀id,names id x=true->I id=E id:=λn x hx id C=>f id λJ=>by have:=xO (g id J).2.1 n x hx;rw[this]at C;cases C
 have r:∀{c b},look rhp c=some b->∃i b0,look y i=some b0/\look (z++V) i=some c/\NK (z++V) b0=some b:=λh=>Bk hrhp h;have l:∀{c b},look (dC z hp) c=some b->look hp c=some b/\c∉z.map (·.2)/\I c=E c:=λ{c b}h=>by have:=Ki h;exact⟨this.1,this.2,f c λJ=>(hM (g c J).2.2 c b this.1).1 rfl⟩
 have blkA:∀{c b β},look rhp c=some b->H9 (I c)=some β->iB y E' β/\¬S' β/\β<w'.heap.size:=λ{c b β}h o=>by obtain⟨i,b0,e1,e2,A⟩:=r h;rw[K i c e2]at o;exact⟨⟨i,b0,e1,o⟩,hO.own i b0 β e1 o⟩
 have m:∀{c b β},look hp c=some b->c∉z.map (·.2)->H9 (E c)=some β->¬iB B Ec β:=λ{c b β}h J o e=>by obtain⟨i,j,D,e1,e2,A⟩:=KL β e;have:=k.cJ c j b D β h e2 o A;subst this;exact J<|tgt e1
 exact{
  keep:=k.keep.trans q λx hx=>(d x hx).2.2.symm,lB:=λb P=>P.elim (λh=>dc7 (k.lB b h) hsz)<|h1 b,base:=λb P=>by rcases P with P|P;exact k.base b P;rcases h2 b P with h5|h5|h5;exact k.base b h5;exact .inr (d b h5).2.2.symm;exact .inr<|.inr<|Nat.le_trans Z h5,size:=k.size,defers:=k.defers,tm:=λn x hx=>(k.tm n x hx).mono (λ_ x=>.inl x) hS<|W n x hx,hp:=λc b e=>by simp only at e;rw[sj]at e;cases O:look rhp c with|some b0=>simp only[O,AI]at e;subst e;obtain⟨i,b1,e1,e2,A⟩:=r O;rw[K i c e2];exact(az2 K (hO.ny i b1 e1) A).mono (λ_ x=>.inr x) (λ_ _=>rfl) (λ_ _=>rfl) λ_ _=>rfl|none=>simp only[O]at e;obtain⟨e1,e2,A⟩:=l e;rw[A];exact(k.hp c b e1).mono (λ_ x=>.inl x) hS (λβ o=>q.block β (k.own c b β e1 o).2.1<|m e1 e2 o) λid C=>f id λJ=>by have:=(hM (g id J).2.2 c b e1).2;rw[this]at C;cases C
  own:=λc b β e o=>by simp only at e;rw[sj]at e;cases O:look rhp c with|some b0=>obtain⟨e1,e2,A⟩:=blkA O o;rcases h3 β e1 with h5|h5;exact⟨λhx=>hx.elim (d β h5).1 e2,A,(d β h5).2.2⟩;exact⟨λhx=>hx.elim (λh6=>absurd (k.lB β h6)<|Nat.not_lt.2 h5) e2,A,.inl<|Nat.le_trans Z h5⟩|none=>simp only[O]at e;obtain⟨e1,e2,A⟩:=l e;rw[A]at o;have:=k.own c b β e1 o;refine⟨λhx=>hx.elim this.1 λh6=>?_,dc7 this.2.1 hsz,this.2.2⟩;rcases h2 β h6 with h7|h7|h7;exact this.1 h7;exact m e1 e2 o h7;exact absurd this.2.1<|Nat.not_lt.2 h7,cJ:=λc X b D β e M o N=>by
   simp only at e M;rw[sj]at e M;have R:∀{c X b D},look rhp c=some b->look (dC z hp) X=some D->H9 (I c)=some β->H9 (I X)=some β->False:=λ{c X b D}O hB q1 q2=>by obtain⟨e1,e2,A⟩:=blkA O q1;obtain⟨f1,f2,f3⟩:=l hB;rw[f3]at q2;rcases h3 β e1 with h5|h5;exact m f1 f2 q2 h5;exact absurd (k.own X D β f1 q2).2.1<|Nat.not_lt.2 h5
   cases O:look rhp c with
   |some b0=>cases U:look rhp X with|some b0'=>obtain⟨i,b1,e1,e2,A⟩:=r O;obtain⟨i',b1',e1',e2',e3'⟩:=r U;rw[K i c e2]at o;rw[K i' X e2']at N;have:=hO.cJ i i' b1 b1' β e1 e1' o N;subst this;rw[e2]at e2';exact oa e2'|none=>simp only[U]at M;exact(R O M o N).elim
   |none=>simp only[O]at e;cases U:look rhp X with|some b0'=>exact(R U e N o).elim|none=>simp only[U]at M;obtain⟨e1,_,A⟩:=l e;obtain⟨e1',_,e3'⟩:=l M;rw[A]at o;rw[e3']at N;exact k.cJ c X b D β e1 e1' o N,Rm:=λid C=>by rw[f id λJ=>by have:=(g id J).1;omega];exact k.Rm id C}
section
variable {ρ τ:Type}{X:Cx}{ks:List K}{tm tm':J4}{hp L9:F1}{m:Option ρ}{Q:ρ->Exit->St->Prop}
def M8.ren {e':Exit}(h:List<|Nat×Nat)(b:VH h=true)(ht:ZH h tm=some tm')(c:sE h hp=some L9)(k:M8 X ks e' ⟨tm',L9⟩ m Q):M8 X ks e' ⟨tm,hp⟩ m Q:=λr d a w ⟨S,E,e⟩=>by obtain⟨E',f⟩:=e.ren h b ht c;exact k r d a w ⟨S,E',f⟩
end
def Vx {α:Type}:∀{h:List<|Nat×α}{a:Nat}{b:α},xD (h.map (·.1))=true->(a,b)∈h->look h a=some b|[],a,b,_,c=>by simp at c|(x,y)::r,a,b,d,c=>by simp only[ew,xD,BY,nW]at d;rcases cV6.1 c with h1|h1;obtain⟨rfl,rfl⟩:=h1;simp[look];have f:x≠a:=λe=>any_beq d.1<|e▸cX3.2 ⟨(a,b),h1,rfl⟩;simp[look,s9 f];exact Vx d.2 h1
def ci2 (tab:vH)(σ:St)(l:List ResultVar):Option T:=match BW tab σ l with|some [x]=>some x|some l=>some<|.Z9 l|none=>none
def ci3 {P:Program}{tab:vH}(C8:oW P tab){σ:St}{w0:World}{L:GL}{nt:Nat}{S:Nat->Prop}{E:Nat->Value}{a:Act}{w:World}(h:Ok w0 L nt σ S E a w){fn:Func}{t:T}(c:ci2 tab σ fn.results.toList=some t):∃v,(results fn a.tmps).run P w=.ok v w/\RV w S E v t:=by unfold ci2 at c;cases g:BW tab σ fn.results.toList with|none=>grind|some l=>
    obtain⟨vs,h1,d⟩:=KW C8 h _ _ g;have i:(fn.results.mapM<|QV a.tmps).run P w=.ok vs.toArray w:=by rw[Array.mapM_eq_mapM_toList,Sem.run_map,h1];rfl
    have e:(results fn a.tmps).run P w=.ok (if h:vs.toArray.size=1 then vs.toArray[0]else .tuple vs.toArray) w:=by show(do let vs<-fn.results.mapM<|QV a.tmps;pure<|if h:vs.size=1 then vs[0]else .tuple vs).run P w=_;simp_all
    refine⟨_,e,?_⟩;rw[g]at c;have b:=d.1;match l,c,b with
    |[x],c,b=>match vs,b,d with|[v],_,d=>simp  [AI]at c;subst c;exact d.2 0 cR6 cR6
    |[],c,b=>simp  [AI]at c;subst c;match vs,b with|[],_=>exact .Z9 [] [] rfl λj h1=>sq
    |x::y::l,c,b=>simp  [AI]at c;subst c;have f:¬vs.toArray.size=1:=gq;rw[dif_neg f];exact .Z9 vs _ d.1 d.2
def ci1 (a:List<|Nat×Nat)(hp:F1)(p:Nat×ck):Option ck:=match rev a p.1 with
 |some s=>match look hp s with
  |some b=>match NK a b with|some c=>some<|Uy c p.2|none=>none
  |none=>none
 |none=>none
def cu7 (tab:vH)(σ:St)(rs:List ResultVar)(t:T)(b:F1):Prop:=∃(a:List<|Nat×Nat)(t0 c:T),(VH a&&xD (a.map (·.1)))=true/\ci2 tab σ rs=some t0/\oN a t0=some c/\Pe c t=t/\b.map (ci1 a σ.hp)=b.map λp=>some p.2
def yw.intro{τ:Type}{P:Program}{tab:vH}(C8:oW P tab){n:Nat}{fn:Func}{c:Code}{args:List T}{hp:F1}{m:Option τ}{res:τ->T}{L9:τ->F1}(nt:Nat)(rs:List ResultVar)(q:∀vs w,(callFunc n vs).run P w=.ok (.enter n vs) w)(hf:P.funcs[n]?=some fn)(g:fn.body=some c)(hnt:fn.ntmps=nt)(U:fn.results.toList=rs)(hsz:args.length<=nt)(body:∀(w0:World)(L:GL),w6 ⟨P,tab,C8,w0,L,nt⟩ [.c c] ⟨number 0 args,hp⟩ m λr e σ'=>(e=.ret\/e=.normal)/\cu7 tab σ' rs (res r) (L9 r)):yw P n args hp m res L9:=by
 refine⟨q,λr hr w S E vs hS M V=>?_⟩;refine calls_of_wp hf g ?_;have h:=body w ⟨iB hp E,S,E⟩ r hr ⟨vs.toArray++cS8 (fn.ntmps-vs.toArray.size) undef,[]⟩ w ⟨S,E,{
  keep:=tZ.refl _ _,lB:=hS,base:=λb g=>.inl g,size:=by have:=V.1;simp;omega,defers:=rfl,tm:=λk t ht=>by
   obtain⟨_,hk⟩:=Ny args 0 k t ht;obtain⟨W,rfl⟩:=No.1 hk;have C:k<vs.length:=by have:=V.1;omega
   have:=V.2 k C W;simp_all[Array.getElem?_append],hp:=M.ny,own:=λid b β g f=>⟨(M.own id b β g f).1,(M.own id b β g f).2,.inr ⟨id,b,g,f⟩⟩,cJ:=M.cJ,Rm:=λ_ _=>rfl}⟩;refine wp_mono h λe a' w' ⟨σ',⟨S',X,hk⟩,he,B,t0,t1,D,I,Z,hmr,hbl⟩=>?_;rw[<-U]at I;obtain⟨v,hv1,hv2⟩:=ci3 C8 hk I;simp only[BY,VH,cV2]at D;obtain⟨⟨hnd,hbg⟩,x⟩:=D;let N:Nat->Value:=λc=>match rev B c with|some s=>X s|none=>X c;have y:∀i j,look B i=some j->N j=X i:=λi j d=>by simp[N,Jh hnd d]
 have a:∀id b,look (L9 r) id=some b->∃s b0 c,rev B id=some s/\look B s=some id/\look σ'.hp s=some b0/\NK B b0=some c/\Uy c b=b:=by
  intro id b d;obtain⟨n,hn,hx⟩:=Kz.1<|CR d;have:((L9 r).map<|ci1 B σ'.hp)[n]?=((L9 r).map λp=>some p.2)[n]?:=by rw[hbl]
  rw[bg5,bg5,IN hn,hx]at this;simp[cW3,AI]at this;unfold ci1 at this;split at this<;>try cases this
  rename_i s O;split at this<;>try cases this;done
  rename_i b0 hb0;split at this<;>try cases this;done
  rename_i c hc;exact⟨s,b0,c,O,Vx x<|Xc O,hb0,hc,oa this⟩
 have fin:a'.defers=[]/\∃v,(results fn a'.tmps).run P w'=.ok v w'/\∃v' l o,Ending.returned v=.returned v'/\RV w' l o v' (res r)/\tZ (iB hp E) w w'/\(∀b,l b->b<w'.heap.size)/\(∀b,l b->S b\/iB hp E b\/w.heap.size<=b)/\Rr w' l o (L9 r)/\(∀β,iB (L9 r) o β->iB hp E β\/w.heap.size<=β)/\∀id,vJ<=id->o id=E id:=by
  refine⟨hk.defers,v,hv1,v,S',N,rfl,?_,hk.keep,hk.lB,λb g=>hk.base b g,⟨λid b d=>?_,λid b β d f=>?_,λid id' b b' β d hl' f J=>?_⟩,λβ d=>?_,λid K=>?_⟩;·have:=bd5 (u:=res r)<|SH y hv2 Z;rw[hmr]at this;exact this
  ·obtain⟨s,b0,c,e1,e2,z,Q,R⟩:=a id b d;have:=ax5 (u:=b)<|az2 y (hk.hp s b0 z) Q;rw[R]at this;rw[y s id e2];exact this
  ·obtain⟨s,b0,c,e1,e2,z,Q,R⟩:=a id b d;rw[y s id e2]at f;have:=hk.own s b0 β z f;exact⟨this.1,this.2.1⟩
  ·obtain⟨s,b0,c,e1,e2,z,Q,R⟩:=a id b d;obtain⟨s',b0',c',e1',A,e3',e4',e5'⟩:=a id' b' hl';rw[y s id e2]at f;rw[y s' id' A]at J;have:=hk.cJ s s' b0 b0' β z e3' f J;subst this;rw[e2]at A;exact oa A
  ·obtain⟨id,b,d,f⟩:=d;obtain⟨s,b0,c,e1,e2,z,Q,R⟩:=a id b d;rw[y s id e2]at f;exact(hk.own s b0 β z f).2.2.symm
  ·simp[N];split
   ·rename_i s O;have:=hbg _<|Xc O;simp only[bh7]at this;rcases this with h1|h1;·have:=cU8 h1;omega
    ·have:=bD h1;subst this;exact hk.Rm _ K
   ·exact hk.Rm id K
 rcases he with rfl|rfl<;>exact fin
def KZ (id:Nat):List Nat->T->Option T
 |[],.t<|.v<|.slice none 0 0=>some<|.own id|i::p,.agg l=>match l[i]?with
  |some x=>match KZ id p x with|some y=>some<|.agg<|l.set i y|none=>none
  |none=>none
 |i::p,.Z9 l=>match l[i]?with
  |some x=>match KZ id p x with|some y=>some<|.Z9<|l.set i y|none=>none
  |none=>none
 |_,_=>none
def xJ.set {w:World}{S:Nat->Prop}{E:Nat->Value}{vs:List Value}{l:List T}{i:Nat}{y:T}(h:xJ w S E vs l)(hi:i<vs.length)(a:RV w S E vs[i] y):xJ w S E vs<|l.set i y:=by refine⟨by simp[h.1],λj h1 b=>?_⟩;rw[cZ8];split;grind;exact h.2 j h1 gq
def OD {w:World}{S:Nat->Prop}{E:Nat->Value}{id:Nat}(e:E id=.slice none 0 0):∀{p:List Nat}{t u:T}{v:Value},RV w S E v t->KZ id p t=some u->RV w S E v u
 |[],t,u,v,d,a=>by
  unfold KZ at a;split at a<;>try done
  ·simp[AI]at a;subst a;have:=d.tv;subst this;exact .own id _ e
  all_goals grind|i::p,t,u,v,d,a=>by
  unfold KZ at a;split at a;·grind
  ·rename_i h j l b;cases b;split at a<;>try cases a
   rename_i x hx;split at a<;>try cases a;done
   rename_i y f;simp[AI]at a;subst a;obtain⟨hi,rfl⟩:=No.1 hx;cases d with|agg vs _ g c=>have:=xJ.set ⟨g,c⟩ F<|OD e (c i F hi) f;exact .agg vs _ this.1 this.2
  ·rename_i h j l b;cases b;split at a<;>try cases a
   rename_i x hx;split at a<;>try cases a;done
   rename_i y f;simp[AI]at a;subst a;obtain⟨hi,rfl⟩:=No.1 hx;cases d with|Z9 vs _ g c=>have:=xJ.set ⟨g,c⟩ F<|OD e (c i F hi) f;exact .Z9 vs _ this.1 this.2
  ·cases a
theorem Ok.cl6 {w0:World}{L:GL}{nt:Nat}{tm:J4}{hp:F1}{S:Nat->Prop}{E:Nat->Value}{a:Act}{w:World}(h:Ok w0 L nt ⟨tm,hp⟩ S E a w){id e sz:Nat}(b:Y3 id vJ=true)(c:F6 id tm=true)(d:E8 id hp=true):∃E',E' id=.slice none 0 0/\Ok w0 L nt ⟨tm,(id,.rows e sz 0 [])::hp⟩ S E' a w:=h.ZG (v:=.slice none 0 0) b c d (λβ f=>by simp[H9]at f) (λi ny β _ h1=>by simp[H9]at h1) (tZ.refl _ w) (λβ f=>by simp[H9]at f) λE'=>⟨rfl,.inl ⟨rfl,rfl⟩⟩
section
variable {ρ τ:Type}{X:Cx}{ks:List K}{tm tm':J4}{hp L9:F1}{m:Option ρ}{Q:ρ->Exit->St->Prop}
theorem M8.cl6 {e':Exit}(k id e sz:Nat)(path:List Nat){t u:T}(hk:look tm k=some t)(i:KZ id path t=some u)(c:Y3 id vJ=true)(d:F6 id tm=true)(f:E8 id hp=true)(h:M8 X ks e' ⟨(k,u)::tm,(id,.rows e sz 0 [])::hp⟩ m Q):M8 X ks e' ⟨tm,hp⟩ m Q:=λr l a w ⟨S,E,n⟩=>by obtain⟨E',o,b⟩:=n.cl6 c d f;refine h r l a w ⟨S,E',{b with tm:=λj p ht=>?_}⟩;simp[look]at ht;by_cases g:k=j;subst g;simp[tj,AI]at ht;subst ht;exact OD o (b.tm k t hk) i;simp[s9 g]at ht;exact b.tm j p ht
theorem M8.cO1 {e':Exit}(b id e sz:Nat)(path:List Nat){ts q:List T}(hk:look hp b=some (.box ts))(C:KZ id path (.agg ts)=some (.agg q))(j:Y3 id vJ=true)(t:F6 id tm=true)(k:E8 id hp=true)(h:M8 X ks e' ⟨tm,(id,.rows e sz 0 [])::aT hp b (.box q)⟩ m Q):M8 X ks e' ⟨tm,hp⟩ m Q:=λr D a w ⟨S,E,I⟩=>by
 obtain⟨E',J,d⟩:=I.cl6 j t k;have u:id≠b:=λe=>(hM k b _ hk).1 e.symm;have s:∀i ny,look ((id,ck.rows e sz 0 [])::aT hp b (.box q)) i=some ny->∃c,look ((id,ck.rows e sz 0 [])::hp) i=some c/\(ny=c\/i=b/\ny=.box q):=by intro i ny f;simp[look]at f|-;by_cases hi:id=i;simp_all;rw[jH]at f;grind
 refine h r D a w ⟨S,E',{d with hp:=λi ny f=>?_,own:=λi ny β f x=>by obtain⟨c,h0,_⟩:=s i ny f;exact d.own i c β h0 x,cJ:=λi B ny l β f y x z=>by obtain⟨c,h0,_⟩:=s i ny f;obtain⟨g,A,_⟩:=s B l y;exact d.cJ i B c g β h0 A x z}⟩;obtain⟨c,h0,h1⟩:=s i ny f;have n:=d.hp i c h0;rcases h1 with rfl|⟨rfl,rfl⟩;exact n;have:c=.box ts:=by simp[look,s9 u]at h0;grind
 subst this;obtain⟨β,vs,o,g1,g2,K,L,M⟩:=n;have:=OD J (.agg vs ts K L) C;generalize p:Value.agg vs.toArray=v at this;cases this with|agg vs' _ k1 k2=>
  simp only[Value.agg.injEq]at p;have:vs=vs':=by simpa using congrArg Array.toList p
  subst this;exact⟨β,vs,o,g1,g2,k1,k2,M⟩
end
mutual def elT (id:Nat)(c:List Tree):T->T|.ptr i a=>bif cV4 i id then .el (c.drop a)else .ptr i a|.agg l=>.agg<|elL id c l|.Z9 l=>.Z9<|elL id c l|.Fu f l=>.Fu f<|elL id c l|x=>x def elL (id:Nat)(c:List Tree):List T->List T|[]=>[]|x::r=>elT id c x::elL id c r end
def bv8 (id:Nat)(c:List Tree):J4->J4|[]=>[]|(k,x)::r=>(k,elT id c x)::bv8 id c r
def TY (id:Nat)(c:List Tree):F1->F1|[]=>[]|(k,.box l)::r=>bif cV4 k id then TY id c r else(k,.box<|elL id c l)::TY id c r|(k,x)::r=>bif cV4 k id then TY id c r else(k,x)::TY id c r
section
variable {w:World}{S S':Nat->Prop}{E:Nat->Value}{id:Nat}{c:List Tree}
mutual theorem bO9 (d:∀b,S b->S' b)(k:∀β e,E id=.pointer (some ⟨β,0,none⟩)->PF w S' (.pointer<|some ⟨β,e,none⟩) (c.drop e)):∀{t:T}{v:Value},RV w S E v t->RV w S' E v (elT id c t)
 |.t x,v,h=>by simp only[elT];exact h.mono d (λ_ _=>rfl) λ_ _=>rfl|.el c,v,h=>by simp only[elT];exact h.mono d (λ_ _=>rfl) λ_ _=>rfl|.own i,v,h=>by simp only[elT];exact h.mono d (λ_ _=>rfl) λ_ _=>rfl|.pe i a b c,v,h=>by simp only[elT];exact h.mono d (λ_ _=>rfl) λ_ _=>rfl|.vw i a b c,v,h=>by simp only[elT];exact h.mono d (λ_ _=>rfl) λ_ _=>rfl|.fz n c,v,h=>by simp only[elT];exact h.mono d (λ_ _=>rfl) λ_ _=>rfl|.any,v,h=>by simp only[elT];exact .any v|.ptr i e,v,h=>by
  simp only[elT];by_cases hi:i=id;subst hi;simp only[tj,cT9];cases h with|ptr _ _ β m=>exact(k β e m).rv
  simp only[s9 hi,cT8];exact h.mono d (λ_ _=>rfl) λ_ _=>rfl|.agg l,v,h=>by simp only[elT];cases h with|agg vs _ g j=>have:=Yo d k (l:=l) (vs:=vs) ⟨g,j⟩;exact .agg vs _ this.1 this.2
 |.Z9 l,v,h=>by simp only[elT];cases h with|Z9 vs _ g j=>have:=Yo d k (l:=l) (vs:=vs) ⟨g,j⟩;exact .Z9 vs _ this.1 this.2
 |.Fu f l,v,h=>by simp only[elT];cases h with|Fu _ vs _ g j=>have:=Yo d k (l:=l) (vs:=vs) ⟨g,j⟩;exact .Fu f vs _ this.1 this.2;theorem Yo (f:∀b,S b->S' b)(g:∀β d,E id=.pointer (some ⟨β,0,none⟩)->PF w S' (.pointer<|some ⟨β,d,none⟩) (c.drop d)):∀{l:List T}{vs:List Value},xJ w S E vs l->xJ w S' E vs (elL id c l)|[],vs,h=>⟨h.1,λj _ e=>by simp[elL]at e⟩|x::l,vs,h=>by cases vs with|nil=>have:=h.1;simp at this|cons v vs=>have h1:=bO9 f g (t:=x)<|h.2 0 sq sq;have e:=Yo f g (l:=l) (vs:=vs) ⟨by simpa using h.1,λj a b=>h.2 (j+1) (by simpa using a)<|by simpa using b⟩;refine⟨by simp[elL,e.1],λj a b=>?_⟩;cases j with|zero=>exact h1|succ j=>exact e.2 j (by simpa using a)<|by simpa[elL]using b;end
end
theorem am1 (id:Nat)(c:List Tree):∀(l:J4)(k:Nat),look (bv8 id c l) k=(look l k).map (elT id c)|[],k=>rfl|(j,x)::r,k=>by simp[bv8,look];by_cases a:j=k;subst a;simp;simp[s9 a,am1 id c r k]
def jB (id:Nat)(c:List Tree):∀(l:F1)(k:Nat)(b:ck),look (TY id c l) k=some b->k≠id/\∃b0,look l k=some b0/\(match b0 with|.box g=>b=.box (elL id c g)|x=>b=x)|[],k,b,h=>by simp[TY,look]at h|(j,.box g)::r,k,b,h=>by simp only[TY]at h;by_cases a:j=id;subst a;simp only[tj,cT9]at h;obtain⟨h1,b0,d,f⟩:=jB j c r k b h;simp_all[look,s9,Ne.symm];simp only[s9 a,cT8,look]at h;by_cases hk:j=k;simp_all[look];simp only[s9 hk,cT8]at h;obtain⟨h1,b0,d,f⟩:=jB id c r k b h;simp_all[look,s9]|(j,.rows e sz n rs)::r,k,b,h=>by simp only[TY]at h;by_cases a:j=id;subst a;simp only[tj,cT9]at h;obtain⟨h1,b0,d,f⟩:=jB j c r k b h;simp_all[look,s9,Ne.symm];simp only[s9 a,cT8,look]at h;by_cases hk:j=k;subst hk;simp only[tj,cT9,AI]at h;subst h;exact⟨a,.rows e sz n rs,by simp[look],rfl⟩;simp only[s9 hk,cT8]at h;obtain⟨h1,b0,d,f⟩:=jB id c r k b h;simp_all[look,s9]|(j,.mp es)::r,k,b,h=>by simp only[TY]at h;by_cases a:j=id;subst a;simp only[tj,cT9]at h;obtain⟨h1,b0,d,f⟩:=jB j c r k b h;simp_all[look,s9,Ne.symm];simp only[s9 a,cT8,look]at h;by_cases hk:j=k;subst hk;simp only[tj,cT9,AI]at h;subst h;exact⟨a,.mp es,by simp[look],rfl⟩;simp only[s9 hk,cT8]at h;obtain⟨h1,b0,d,f⟩:=jB id c r k b h;simp_all[look,s9]|(j,.rv y e sz n rs)::r,k,b,h=>by simp only[TY]at h;by_cases a:j=id;subst a;simp only[tj,cT9]at h;obtain⟨h1,b0,d,f⟩:=jB j c r k b h;simp_all[look,s9,Ne.symm];simp only[s9 a,cT8,look]at h;by_cases hk:j=k;subst hk;simp only[tj,cT9,AI]at h;subst h;exact⟨a,.rv y e sz n rs,by simp[look],rfl⟩;simp only[s9 hk,cT8]at h;obtain⟨h1,b0,d,f⟩:=jB id c r k b h;simp_all[look,s9]
theorem Ok.bb8 {w0:World}{L:GL}{nt:Nat}{tm:J4}{hp:F1}{S:Nat->Prop}{E:Nat->Value}{a:Act}{w:World}(hk:Ok w0 L nt ⟨tm,hp⟩ S E a w)(id:Nat){s:List T}{c:List Tree}(K:look hp id=some (.box s))(X:trees s=some c):∃S',Ok w0 L nt ⟨bv8 id c tm,TY id c hp⟩ S' E a w:=by
 let S':Nat->Prop:=λb=>S b\/H9 (E id)=some b;have q:∀b,S b->S' b:=λ_ x=>.inl x;obtain⟨β,vs,u,Q,Z,hl,hr,h1⟩:=hk.hp id _ K;have hβ:H9 (E id)=some β:=by rw[Q];rfl
 have v:=Td X;have R:s.length=c.length:=by have:=congrArg List.length v;grind
 have U:∀g f,E id=.pointer (some ⟨g,0,none⟩)->PF w S' (.pointer<|some ⟨g,f,none⟩) (c.drop f):=by
  intro g f z;rw[Q]at z;cases z;refine⟨β,f,λj=>vs.getD (f+j) undef,rfl,.inr hβ,λj V=>?_,λj V=>?_⟩;·rw[cell_of_row w β _ _ u _ Z];grind
  ·simp only[dc1]at V;have I:f+j<vs.length:=by omega
   have W:=ax7<|hr (f+j) I F;have h5:ai5 (s[f+j]'F)=T.t (c[f+j]'F):=by
    have h6:(s.map ai5)[f+j]?=(c.map T.t)[f+j]?:=by rw[v]
    grind
   rw[h5]at W;simp only[db9,IN I,Option.getD_some,cY2];exact W.cu0.mono q λ_ _=>rfl
 refine⟨S',{keep:=hk.keep,size:=hk.size,defers:=hk.defers,Rm:=hk.Rm,lB:=λb o=>?_,base:=λb o=>?_,tm:=λk t ht=>?_,hp:=λi b hi=>?_,own:=λi b g hi A=>?_,cJ:=λi i' b b' g q1 q2 M N=>?_}⟩
 ·rcases o with r|r;·exact hk.lB b r
  grind
 ·rcases o with r|r;·exact hk.base b r
  ·rcases(hk.own id _ b K r).2.2 with I|I;all_goals grind
 ·rw[am1]at ht;cases B:look tm k with|none=>grind|some t0=>simp only[B,cW3,AI]at ht;subst ht;exact bO9 q U<|hk.tm k t0 B
 ·obtain⟨C,b0,h,J⟩:=jB _ _ _ _ _ hi;have m:=hk.hp i b0 h;cases b0 with|box O=>subst J;obtain⟨g,D,p,g1,g2,g3,g4,g5⟩:=m;have:=Yo q U (l:=O) (vs:=D) ⟨g3,g4⟩;exact⟨g,D,p,g1,g2,this.1,this.2,g5⟩|rows e' sz' n' rs'=>subst J;exact m.mono q (λ_ _=>rfl) (λ_ _=>rfl) λ_ _=>rfl|mp es=>subst J;exact m.mono q (λ_ _=>rfl) (λ_ _=>rfl) λ_ _=>rfl|rv y e sz n rs=>subst J;exact m.mono q (λ_ _=>rfl) (λ_ _=>rfl) λ_ _=>rfl
 ·obtain⟨C,b0,h,_⟩:=jB _ _ _ _ _ hi;have:=hk.own i b0 g h A;exact⟨λhx=>hx.elim this.1 λhx=>C<|hk.cJ i id b0 _ g h K A hx,this.2⟩
 ·obtain⟨_,d,hd,_⟩:=jB _ _ _ _ _ q1;obtain⟨_,d',P,_⟩:=jB _ _ _ _ _ q2;exact hk.cJ i i' d d' g hd P M N
section
variable {ρ τ:Type}{X:Cx}{ks:List K}{tm tm':J4}{hp L9:F1}{m:Option ρ}{Q:ρ->Exit->St->Prop}
theorem M8.bb8 {e':Exit}(id:Nat){b:List T}{c:List Tree}(d:look hp id=some (.box b))(e:trees b=some c)(h:M8 X ks e' ⟨bv8 id c tm,TY id c hp⟩ m Q):M8 X ks e' ⟨tm,hp⟩ m Q:=λr f a w ⟨S,E,g⟩=>by obtain⟨S',hk⟩:=g.bb8 id d e;exact h r f a w ⟨S',E,hk⟩
end
end Go.Pv
namespace Go.Pv
open Go.RowKit
def CT {α:Type}(n:Int)(z:α):Option<|List α:=if 0<=n/\n<=1073741824 then some (cI5 n.toNat z)else none
def lN {α:Type}(l r:List α):List α:=r.take l.length++l.drop r.length
def U4 {α:Type}(l:List α)(lo hi:Int):Option<|List α:=if 0<=lo/\lo<=hi/\hi<=l.length then some<|(l.drop lo.toNat).take (hi.toNat-lo.toNat)else none
def fQ {α:Type}(l:List α)(i:Int)(y:α):Option<|List α:=if 0<=i/\i<l.length then some (l.set i.toNat y)else none
def bY0 {α:Type}{l l':List α}{i:Int}{y:α}(h:fQ l i y=some l'):y3 l' i=some y:=by unfold fQ at h;split at h;simp[AI]at h;subst h;simp_all[y3];cases h
section
variable {P:Program}{w0:World}{L:GL}{nt:Nat}{tm:J4}{hp:F1}{S:Nat->Prop}{E:Nat->Value}{a:Act}{w:World}
def Ok.make (h:Ok w0 L nt ⟨tm,hp⟩ S E a w){id t e n:Nat}{ti:TI}{c:List Tree}(g:Y3 id vJ=true)(B:F6 id tm=true)(C:E8 id hp=true)(ht:P.underlying t=some (.slice e))(m:Ci P e ti)(hz:ti.zero.length=ti.size)(r:0<ti.size)(T:c=ti.zero.map λv=>jm<|.v v)(l:n<=1073741824)(s u:IntKind):∃v' w' E',(Instr.makeSlice t (.int s n)<|.int u n).run P w=.ok v' w'/\E' id=v'/\Ok w0 L nt ⟨tm,(id,.rows e ti.size n<|cI5 n c)::hp⟩ S E' a w':=by
 obtain⟨i,d,hi,D,_,_,⟨z,p,I⟩,q⟩:=m;have J:c.length=ti.size:=by grind
 have f:i.bytes*(n:Int)<=281474976710656:=by have:=Nat.mul_le_mul q l;omega
 have U:=run_make w t e i z ht hi p s u n n F (QA _) f F;have y:∀k (hk:k<n*i.size),(madeCells z.cells<|n*i.size)[k]'(by grind [size_madeCells])=ti.zero[k%ti.size]'(by simp_all[cY9]):=by grind [madeCells]
 obtain⟨E',V,_,K⟩:=h.alloc (o:=.cells (madeCells z.cells<|n*i.size) e) (x:=.slice (some ⟨w.heap.size,0,none⟩) n n) (b:=.rows e ti.size n<|cI5 n c) g B C rfl (λE' M=>by
  refine⟨sq,.inr ⟨w.heap.size,n,(madeCells z.cells<|n*i.size).toList,by grind [maxLen],by simp,by rw[heap_alloc_new],?_,by simp,?_,?_⟩⟩;rw[cT1,size_madeCells,D];grind;intro A j N O Q;simp only[de3]at O|-;have R:A*ti.size+j<n*i.size:=by grind [size_madeCells]
  have e1:(madeCells z.cells<|n*i.size).toList[A*ti.size+j]=ti.zero[j]'F:=by grind [dd3,cR5,cZ2]
  rw[e1];have e2:c[j]=jm (.v<|ti.zero[j]'F):=by grind
  rw[e2];exact xC<|.v _);grind
def Ok.copy (h:Ok w0 L nt ⟨tm,hp⟩ S E a w){id e e' n m t t2 ty:Nat}{ti:TI}{x:Value}{rs r2:List<|List Tree}(Z:look hp id=some (.rows e ti.size n rs))(ht:P.underlying t=some (.slice e'))(hte:Ci P e' ti)(hx:Src w S x m ti.size r2)(X:∀r∈r2,r.length=ti.size):∃w',(Builtin.copy_ #[t,t2] ty #[E id,x]).run P w=.ok (.int .i64 (min m n:Nat)) w'/\Ok w0 L nt ⟨tm,aT hp id<|.rows e ti.size n<|lN rs r2⟩ S E a w':=by
 obtain⟨hm,J,c,rfl,K⟩:=hx;obtain⟨hn,M⟩:=h.hp id _ Z;obtain⟨i,d,hi,hs,_⟩:=hte;have l:(lN rs r2).length=rs.length:=by simp[lN];omega
 rcases M with⟨v,hr0⟩|⟨β,N,cs,hcm,v,hh,O,hcc,hsz,hcr⟩;subst hr0;simp only[List.length_nil]at hn;subst hn;have hf:(Builtin.firstCells i.size 0<|.slice J m c).run P w=.ok #[] w:=by cases J<;>simp[Builtin.firstCells,loadCells,loadCellsFrom]
 have hmin:min m 0=0:=by omega
 refine⟨w,?_,?_⟩;simp_all[Builtin.copy_,run_underlying,Builtin.lenOf,sizeOf,typeInfo,goInt];refine{h with hp:=λk b hk=>?_,own:=λk b β hk Q=>by simp only at hk;rw[jH]at hk;by_cases e:id=k;grind [H9];simp only[e,if_false]at hk;exact h.own k b β hk Q,cJ:=λk k' b b' β hk o Q z=>by simp only at hk o;rw[jH]at hk o;by_cases e:id=k;subst e;simp only[v,H9]at Q;cases Q;by_cases e2:id=k';subst e2;simp only[v,H9]at z;cases z;simp only[e,e2,if_false]at hk o;exact h.cJ k k' b b' β hk o Q z};simp only at hk;rw[jH]at hk;by_cases e:id=k;subst e;simp only[if_true,Z,cW3,AI]at hk;subst hk;exact⟨by simp[lN],.inl ⟨v,by simp[lN]⟩⟩;simp only[e,if_false]at hk;exact h.hp k b hk;subst hn;let q:=min m rs.length;have hq:q=min m rs.length:=rfl;have A:∃news:List Value,news.length=q*ti.size/\(Builtin.firstCells i.size q<|.slice J m c).run P w=.ok news.toArray w/\(∀u∈news,u.oneCell'=true)/\∀i j (hi:i<q)(s:j<ti.size),∃(h1:i*ti.size+j<news.length)(X:i<r2.length)(h3:j<r2[i].length),RT w S news[i*ti.size+j] r2[i][j]:=by
  by_cases h0:0<m;obtain⟨y,all,rfl,p,hac,g,har⟩:=K h0;have hqm:q*ti.size<=m*ti.size:=cW8 _ F;refine⟨all.take<|q*ti.size,by rw[cV5,p];omega,?_,λu D=>g u<|cL4 D,λi' j B s=>?_⟩;have:=run_loadCells_list (P:=P) w y (all.take<|q*ti.size) (λj u D=>by rw[db5]at D;split at D;exact hac j u D;cases D);rw[cV5,p,cP6 hqm]at this;simp[Builtin.firstCells,hs,this];have f:i'<r2.length:=by omega
  have R:=X _<|al8 f;have T:(i'+1)*ti.size<=q*ti.size:=cW8 _ B;rw[dc5]at T;refine⟨by rw[cV5,p];omega,f,by rw[R];exact s,?_⟩;rw[dd0];exact har i' j f (by rw[R];exact s) (by rw[p];omega);have hm0:m=0:=by omega
  have hq0:q=0:=by omega
  rw[hq0];cases J<;>simp[Builtin.firstCells,loadCells,loadCellsFrom]
 obtain⟨news,hnl,C,g,hnr⟩:=A;have hqr:q*ti.size<=N*ti.size:=cW8 _ F;have hst:=run_storeCells_at (P:=P) β 0 e news 0 cs.toArray w hh (by simp;rw[hnl,O];exact hqr) g;have U:(Builtin.copy_ #[t,t2] ty #[E id,.slice J m c]).run P w=.ok (.int .i64 (q:Nat)) (w.setRow β (news++cs.drop news.length).toArray):=by
  rw[v];have:Nat.min m rs.length=q:=rfl;have V:(storeCells ⟨β,0,none⟩ news).run P w=.ok () (w.setRow β (news++cs.drop news.length).toArray):=by simpa using hst
  simp[Builtin.copy_,run_underlying ht,Builtin.lenOf,sizeOf,typeInfo,hi,this,C,goInt,V]
 refine⟨_,U,h.setRow Z (by rw[v];rfl) hh λhS W=>⟨by rw[l],.inr ⟨β,N,news++cs.drop news.length,hcm,by rw[l];exact v,W,by simp;omega,by rw[l];exact hcc,?_,?_⟩⟩⟩;intro r I;unfold lN at I;rcases bX2.1 I with I|I;exact X r<|cL4 I;exact hsz r<|List.mem_of_mem_drop I;intro i' j B s hb';have f:i'<rs.length:=by rw[<-l];exact B
 by_cases hiq:i'<q;have hi3:i'<r2.length:=by omega
 have e1:(lN rs r2)[i']=r2[i']:=by apply oa;rw[<-IN,<-IN];unfold lN;rw[cI7<|by rw[cV5];omega,db5,if_pos f]
 have hj2:j<ti.size:=by have:=X _<|al8 hi3;rw[<-this];rw[e1]at s;exact s
 obtain⟨h5,_,h6,h7⟩:=hnr i' j hiq hj2;simp only[e1];rw[cW9 h5];exact h7.mono (λ_ x=>x) hS;have hm':m<=i':=by omega
 have e1:(lN rs r2)[i']=rs[i']:=by apply oa;rw[<-IN,<-IN];unfold lN;rw[dc0<|by rw[cV5];omega,cV5,de5];congr 1;omega
 have hj1:j<rs[i'].length:=by rw[e1]at s;exact s
 have T:q*ti.size<=i'*ti.size:=cW8 _ F;have hb2:i'*ti.size+j<cs.length:=by simp only[IT,dc1]at hb';omega
 have e2:(news++cs.drop news.length)[i'*ti.size+j]=cs[i'*ti.size+j]:=by apply oa;rw[<-IN,<-IN,dc0 F,de5];congr 1;omega
 simp only[e1];rw[e2];exact(hcr i' j f hj1 hb2).mono (λ_ x=>x) hS
end
def UD (tm:J4)(d:Int):Option Operand->Option Int|none=>some d|some o=>match val tm o with|some<|.t<|.v<|.int _ i=>some i|_=>none
section
variable {ρ α:Type}{X:Cx}{ks:List K}{tm tm':J4}{hp L9:F1}{m:Option ρ}{Q:ρ->Exit->St->Prop}{all:Array Oper}{o:Oper}{rest:List Oper}
def o0.cI3 {t e d s0:Nat}{z0:List Value}{f:TI}{x:Operand}{ik:IntKind}{n:Int}{enc:α->List Tree}{k:List α->Option ρ}(id:Nat)(z:α)(J:o.op=.makeSlice t x x)(L:o.dst=some d)(q:Y3 d X.nt=true)(M:R8 all.toList tm o.guard=some true)(hx:val tm x=some (.t<|.v<|.int ik n))(r:look X.tab t=some ⟨s0,.slice e,z0⟩)(s:look X.tab e=some f)(hz:f.zero.length=f.size)(g:Y3 0 f.size=true)(m:enc z=f.zero.map λv=>jm<|.v v)(p:Y3 id vJ=true)(u:F6 id tm=true)(A:E8 id hp=true)(h:∀y,CT n z=some y->o0 X all rest ks ⟨(d,.own id)::tm,(id,.rows e f.size y.length<|y.map enc)::hp⟩ (k y) Q):o0 X all (o::rest) ks ⟨tm,hp⟩ ((CT n z).bind k) Q:=λy D a w ⟨S,E,hk⟩=>by cases b:CT n z with|none=>grind|some l=>
  have h0:=b;unfold CT at h0;split at h0<;>try cases h0;done
  simp[AI]at h0;simp[b]at D;obtain⟨U,I,B⟩:∃d,X.P.underlying t=some d/\TD.ok X.P (.slice e) d:=by obtain⟨i,d,_,_,I,N,_⟩:=X.C8 t _ r;grind
  subst B;obtain⟨j,rfl⟩:∃j:Nat,n=j:=⟨n.toNat,by omega⟩;obtain⟨v',w',E',O,R,C⟩:=hk.make (n:=j) p u A I (X.C8 e _ s) hz (cU8 g) m F ik ik;refine wpList_step λK T=>?_;rw[I3 hk M];unfold Oper.wp;have c:(execOp a.eval o).run X.P w=.ok (.value v') w':=by unfold execOp;simp[J,(hk.val hx).tv,cV1,O,OF,cW0]
  rw[c];refine T _ _<|h l b y D _ _ ⟨S,E',?_⟩;rw[L];have e1:l.map enc=cI5 j (enc z):=by rw[<-h0];simp
  have e2:l.length=j:=by grind
  rw[e1,e2];exact C.put (cU8 q)<|.own id _ R
def o0.bN6 {t t2 e e' e2 n m2 s0 id:Nat}{z0:List Value}{j:TI}{s x:Operand}{l r:List α}{enc:α->List Tree}{σ₁:St}(O:o.op=.call ⟨.builtin .copy,#[s,x],#[t,t2]⟩)(R:R8 all.toList tm o.guard=some true)(z:look X.tab t=some ⟨s0,.slice e',z0⟩)(A:look X.tab e'=some j)(c:∀y,(enc y).length=j.size)(f:∀y,(enc y).all oK=true)(T:val tm s=some (.own id))(q:look hp id=some (.rows e j.size n<|l.map enc))(hx:val tm x=some (.t<|.sl m2<|r.map enc)\/∃u,val tm x=some (.own u)/\look hp u=some (.rows e2 j.size m2<|r.map enc))(aT:Gb X.nt o.dst (.t<|.v<|.int .i64 (min r.length l.length:Nat)) ⟨tm,aT hp id<|.rows e j.size (lN l r).length<|(lN l r).map enc⟩=some σ₁)(h:o0 X all rest ks σ₁ m Q):o0 X all (o::rest) ks ⟨tm,hp⟩ m Q:=λy U a w ⟨S,E,hk⟩=>by
 obtain⟨dd,B,C⟩:∃d,X.P.underlying t=some d/\TD.ok X.P (.slice e') d:=by obtain⟨i,d,_,_,B,D,_⟩:=X.C8 t _ z;exact⟨d,B,D⟩
 subst C;have k:Src w S (a.eval x) r.length j.size<|r.map enc:=by
  rcases hx with hx|⟨u,hx,I⟩;have b:=hk.val hx;generalize a.eval x=V at b;cases b with|t b=>
   have:=QW b (Od c r)<|JE f r;have J:m2=r.length:=by simpa using this.1
   subst J;exact⟨sq,this.2⟩
  have b:=hk.val hx;have q:=hk.hp u _ I;generalize a.eval x=V at b;cases b with|own _ _ L=>
   subst L;have:=aA1 q<|JE f r;have J:m2=r.length:=by simpa using this.1
   subst J;exact this
 have W:n=l.length:=by have:=(hk.hp id _ q).1;simpa using this
 have M:a.eval s=E id:=by have b:=hk.val T;generalize a.eval s=sv at b;cases b with|own _ _ L=>exact L.symm
 obtain⟨w',Z,p⟩:=hk.copy (ty:=o.type) (t2:=t2) q B (X.C8 e' _ A) k<|Od c r;refine wpList_step λK hK=>?_;rw[I3 hk R];unfold Oper.wp;have g:(execOp a.eval o).run X.P w=.ok (.value<|.int .i64 (min r.length n:Nat)) w':=by unfold execOp;simp[O,resolve,invoke,builtin,cV1,cW0,OF,cZ9,ew,db6,M,Z]
 rw[g];refine hK _ _<|h y U _ _ ⟨S,E,?_⟩;have N:(lN l r).length=l.length:=by simp[lN];omega
 have e1:lN (l.map enc) (r.map enc)=(lN l r).map enc:=by simp[lN,List.map_drop]
 rw[e1]at p;rw[N,<-W]at aT;exact Ho p (.t<|.v _) aT
def Gd {P:Program}{w:World}{lo hi:Option Value}{n c:Nat}{l h:Int}(b:lo=none/\l=0\/∃k,lo=some (.int k l))(d:hi=none/\h=n\/∃k,hi=some (.int k h))(h0:0<=l)(h1:l<=h)(a:h<=c):(Instr.sliceBounds true n c lo hi none).run P w=.ok (l.toNat,h.toNat,c) w:=by have e:h.toNat=h:=Int.toNat_of_nonneg F;rcases b with⟨rfl,rfl⟩|⟨k,rfl⟩<;>rcases d with⟨rfl,rfl⟩|⟨f,rfl⟩;rfl;simp[Instr.sliceBounds,run_sliceBound,h1,a];simp[Instr.sliceBounds,run_sliceBound,h0,h1];simp[Instr.sliceBounds,run_sliceBound,h0,h1,a,e,(by omega:0<=h)]
def CU {w0:World}{L:GL}{nt:Nat}{S:Nat->Prop}{E:Nat->Value}{a:Act}{w:World}(hk:Ok w0 L nt ⟨tm,hp⟩ S E a w){x:Option Operand}{d i:Int}(h:UD tm d x=some i):x.map a.eval=none/\i=d\/∃k,x.map a.eval=some (.int k i):=by cases x with|none=>simp[UD]at h;grind|some x=>
  simp[UD]at h;split at h<;>try cases h;done
  rename_i k c b;simp[AI]at h;subst h;exact .inr ⟨k,by simp[(hk.val b).tv]⟩
def o0.bY5 {t e d n s0:Nat}{z0:List Value}{u:TI}{x:Operand}{lo hi:Option Operand}{l:List α}{a b:Int}{enc:α->List Tree}{k:List α->Option ρ}(ho:o.op=.slice t x lo hi none)(hd:o.dst=some d)(D:Y3 d X.nt=true)(hg:R8 all.toList tm o.guard=some true)(hx:val tm x=some (.t<|.sl n<|l.map enc))(I:look X.tab t=some ⟨s0,.slice e,z0⟩)(J:look X.tab e=some u)(s:∀y,(enc y).length=u.size)(K:UD tm 0 lo=some a)(L:UD tm l.length hi=some b)(h:∀y,U4 l a b=some y->o0 X all rest ks ⟨(d,.t<|.sl y.length<|y.map enc)::tm,hp⟩ (k y) Q):o0 X all (o::rest) ks ⟨tm,hp⟩ ((U4 l a b).bind k) Q:=o0.one hd D hg (λy=>.t<|.sl y.length<|y.map enc) (λy S E ac w v hk=>by
  unfold U4 at v;split at v<;>try cases v;done
  rename_i hb;simp only[AI]at v;obtain⟨h0,h1,h2⟩:=hb;obtain⟨i,dd,hi',hs,hu,M,_⟩:=X.C8 t _ I;subst M;have N:=(X.C8 e _ J).iJ w;have A:=hk.val hx;generalize O:ac.eval x=xv at A;cases A with|t f=>
   have hn:n=l.length:=by generalize m:l.map enc=rows at f;cases f with|slE=>simp_all|sl=>grind
   have shape:∃R c,xv=.slice R n c/\n<=c:=by generalize l.map enc=rows at f;cases f with|slE R c=>simp|sl b o c sz rows vs p=>grind
   obtain⟨R,c,rfl,hnc⟩:=shape;have T:=Gd (P:=X.P) (w:=w) (n:=n) (c:=c) (CU hk K) (by rw[hn];exact CU hk L) h0 h1 F;refine⟨_,by simp only[execOp,ho,Instr.sliceAt,cV1,run_underlying hu,OF,Instr.slice,O,T,N,cW0,db1];rfl,?_⟩;have g:y.length=b.toNat-a.toNat:=by grind
   by_cases hz:b.toNat-a.toNat=0;·have U:y=[]:=de1 F;subst U;rw[hz];exact .t<|.slE _ _
   ·have V:a.toNat<l.length:=by omega
    generalize m:l.map enc=rows at f;cases f with|slE=>omega|sl bk W _ sz _ vs p hS B hc hr=>
     subst m;have Z:¬c=a.toNat:=by simp at p;omega
     simp only[Z,if_false,cW3,mT];have C:sz=u.size:=by have hm0:enc l[a.toNat]∈l.map enc:=cX3.2 ⟨_,al8 V,rfl⟩;rw[<-B _ hm0,s]
     subst C;have key:=RT.sl (w:=w) (S:=S) bk (W+a.toNat*u.size) (c-a.toNat) u.size (y.map enc) (λi j=>vs (a.toNat+i) j) (by simp at p;rw[cW2,g];omega) hS (λr hr'=>by obtain⟨z,_,rfl⟩:=cX3.1 hr';exact s z) λi j q hj=>by rw[cW2,g]at q;have:=hc (a.toNat+i) j (by simp;omega) hj;rw[dd9]at this;rw[<-this];congr 2;omega (λi j q hj=>by
       rw[cW2,g]at q;have e1:(y.map enc)[i]'(by rw[cW2,g];exact q)=(l.map enc)[a.toNat+i]'(by simp;omega):=by subst v;simp
       have hj':j<((l.map enc)[a.toNat+i]'(by simp;omega)).length:=by rw[<-e1];exact hj
       have:=hr (a.toNat+i) j (by simp;omega) hj';simp only[e1];exact this);rw[cW2,g]at key;rw[g];exact .t key) h
def o0.bY6 {t e e' d id id' sz n s0:Nat}{z0:List Value}{te:TI}{x:Operand}{hi:Option Operand}{l:List α}{b:Int}{enc:α->List Tree}{k:List α->Option ρ}(ho:o.op=.slice t x none hi none)(hd:o.dst=some d)(hdn:Y3 d X.nt=true)(hg:R8 all.toList tm o.guard=some true)(hx:val tm x=some (.own id))(W:look hp id=some (.rows e sz n<|l.map enc))(hty:look X.tab t=some ⟨s0,.slice e',z0⟩)(hte:look X.tab e'=some te)(A:UD tm l.length hi=some b)(m:Sub ⟨tm',L9⟩ ⟨tm,hp⟩)(B:Y3 id' vJ=true)(hft:F6 id' tm'=true)(hfb:E8 id' L9=true)(hfo:E8 id L9=true)(h:∀y,U4 l 0 b=some y->o0 X all rest ks ⟨(d,.own id')::tm',(id',.rows e sz y.length<|y.map enc)::L9⟩ (k y) Q):o0 X all (o::rest) ks ⟨tm,hp⟩ ((U4 l 0 b).bind k) Q:=λr hr a w ⟨S,E,hk⟩=>by cases hm:U4 l 0 b with|none=>grind|some y=>
  simp only[hm,oq]at hr;have s:=hm;unfold U4 at s;split at s<;>try cases s;done
  rename_i f;obtain⟨h0,h1,h2⟩:=f;have Z:y=l.take b.toNat:=by grind
  have C:y.length=b.toNat:=by grind
  obtain⟨i,dd,hi',hs,hu,D,_⟩:=X.C8 t _ hty;simp only[TD.ok]at D;subst D;have I:=(X.C8 e' _ hte).iJ w;have hbk:=hk.hp id _ W;obtain⟨hn,J⟩:=hbk;have hn':n=l.length:=by grind
  subst hn';have L:a.eval x=E id:=by have hv:=hk.val hx;generalize a.eval x=sv at hv;cases hv with|own _ _ p=>grind
  have hk':=hk.sub m;have fin:∀v',(execOp a.eval o).run X.P w=.ok (.value v') w->(∀β,H9 v'=some β->H9 (E id)=some β)->(∀E',yu w S E' v'<|.rows e sz y.length<|y.map enc)->wpList X.P all (after X.P ks<|X.post<|Q r) (o::rest) a w:=by intro v' u M N;obtain⟨E',p,hok⟩:=hk'.ZG (v:=E id) (v':=v') B hft hfb (λβ z=>hk.own id _ β W z) (λj ny β hj h1 h2=>by obtain⟨O,hj',_⟩:=Bp m.2 j ny hj;have:=hk.cJ id j _ O β W hj' h1 h2;exact(hM hfo j ny hj).1 this.symm) (tZ.refl _ w) (λβ z=>⟨(hk.own id _ β W<|M β z).2.1,.inl<|M β z⟩) N;refine wpList_step λK hK=>?_;rw[I3 hk hg,if_pos rfl];unfold Oper.wp;rw[u];refine hK _ _<|h y hm r hr _ _ ⟨S,E',?_⟩;rw[hd];exact hok.put (cU8 hdn)<|.own id' _ p
  rcases J with⟨p,hr0⟩|⟨β,g,cs,hcm,p,hh,hcl,R,T,hcr⟩
  ·have hl0:l=[]:=by simpa using hr0
   subst hl0;have hb0:b=0:=by simp at h2;omega
   subst hb0;have f:=Gd (P:=X.P) (w:=w) (lo:=none) (n:=0) (c:=0) (.inl ⟨rfl,rfl⟩) (CU hk A) (QA 0) (QA 0)<|QA 0;have hy0:y=[]:=by simpa using Z
   subst hy0;refine fin (.slice none 0 0) ?_ (λβ z=>by simp[H9]at z) λE'=>⟨rfl,.inl ⟨rfl,rfl⟩⟩;have U:(Instr.sliceBounds true 0 0 none (hi.map a.eval) none).run X.P w=.ok (0,0,0) w:=f;simp only[execOp,ho,Instr.sliceAt,cV1,run_underlying hu,OF,Instr.slice,L,p,db1,U,I,cW0];rfl
  ·have f:=Gd (P:=X.P) (w:=w) (lo:=none) (n:=l.length) (c:=g) (.inl ⟨rfl,rfl⟩) (CU hk A) (QA 0) h1 (by simp at R;omega);refine fin (.slice (some ⟨β,0,none⟩) y.length g) ?_ (λβ' hβ'=>by rw[p];exact hβ') λE'=>⟨sq,.inr ⟨β,g,cs,hcm,by simp,hh,hcl,by simp at R|-;omega,?_,?_⟩⟩
   ·simp only[cW2]at p;simp only[execOp,ho,Instr.sliceAt,cV1,run_underlying hu,OF,Instr.slice,L,p,db1,f,I,cW0];have ez:(0:Int).toNat=0:=rfl;by_cases V:g=0;·simp[V,C]
    ·simp[V,C,mT]
   ·intro q hq;exact T q<|by rw[Z,List.map_take]at hq;exact cL4 hq
   ·intro i j hi2 hj hbb;have hi3:i<(l.map enc).length:=by simp[Z]at hi2|-;omega
    have e1:(y.map enc)[i]=(l.map enc)[i]:=by subst Z;simp
    have hj2:j<(l.map enc)[i].length:=by rw[<-e1];exact hj
    simp only[e1];exact(hcr i j hi3 hj2 hbb).mono (λ_ x=>x) λ_ _=>rfl
end
section
variable {ρ α:Type}{X:Cx}{ks:List K}{tm:J4}{hp:F1}{m:Option ρ}{Q:ρ->Exit->St->Prop}{all:Array Oper}{o:Oper}{rest:List Oper}
def o0.cs9 {t d id sz off e n:Nat}{i:Int}{ti:TI}{p:Operand}{l:List α}{enc:α->List Tree}{y:α}{r:T}(f:y3 l i=some y)(g:o.op=.load t p)(j:o.dst=some d)(a:Y3 d X.nt=true)(k:R8 all.toList tm o.guard=some true)(b:val tm p=some (.pe id i.toNat sz off))(q:look hp id=some (.rows e sz n<|l.map enc))(c:look X.tab t=some ti)(s:Av ti.desc.isAgg ti.size ((enc y).map .t) off=some r)(h:o0 X all rest ks ⟨(d,r)::tm,hp⟩ m Q):o0 X all (o::rest) ks ⟨tm,hp⟩ m Q:=o0.cI1 (sY f).2.1 g j a k b q c s h
def o0.bh2 {t id sz off e n:Nat}{i:Int}{ti:TI}{p x:Operand}{l:List α}{enc:α->List Tree}{y:α}{k:List α->Option ρ}(f:α)(lt:List Tree){U:T}{cs:List T}(V:y3 l i=some y)(ho:o.op=.store t p x)(hd:o.dst=none)(hg:R8 all.toList tm o.guard=some true)(C:val tm p=some (.pe id i.toNat sz off))(W:look hp id=some (.rows e sz n<|l.map enc))(D:look X.tab t=some ti)(hx:val tm x=some U)(hc:cq hp U=some cs)(g:cs.map ai5=lt.map T.t)(hs:cV4 lt.length ti.size=true)(I:dc6 (off+lt.length) sz=true)(m:enc f=Jk (enc y) off lt)(h:∀l',fQ l i f=some l'->o0 X all rest ks ⟨tm,aT hp id<|.rows e sz l'.length<|l'.map enc⟩ (k l') Q):o0 X all (o::rest) ks ⟨tm,hp⟩ ((fQ l i f).bind k) Q:=λr J a w ⟨S,E,hk⟩=>by
 have b:fQ l i f=some (l.set i.toNat f):=by obtain⟨h0,_,M⟩:=sY V;unfold fQ;rw[if_pos ⟨h0,M⟩]
 rw[b]at J;simp only[oq]at J;have s:(l.map enc)[i.toNat]?=some (enc y):=by rw[bg5,(sY V).2.1];rfl
 have hcl:cs.length=lt.length:=by have:=congrArg List.length g;simpa using this
 obtain⟨vs,N,hl,O,h1⟩:=hk.cells (hk.val hx) hc;have hn:n=l.length:=by have:=(hk.hp id _ W).1;simpa using this
 have key:∃w',(Instr.storeAt t (a.eval p)<|a.eval x).run X.P w=.ok () w'/\Ok X.w0 X.L X.nt ⟨tm,aT hp id<|.rows e sz n<|(l.map enc).set i.toNat<|Jk (enc y) off lt⟩ S E a w':=by
  have u:RV w S E (.agg vs.toArray)<|.agg<|lt.map T.t:=by
   refine .agg vs _ (by simp;omega) λj c h3=>?_;have Z:=ax7<|O j c F;have h5:ai5 (cs[j]'F)=(lt.map T.t)[j]'h3:=by
    have h6:(cs.map ai5)[j]?=(lt.map T.t)[j]?:=by rw[g]
    rw[bg5,IN F,IN h3]at h6;simpa using h6
   rw[h5]at Z;exact Z
  have A:Zg hp (lt.map T.t)=true:=by
   have:∀q:List Tree,(∀j (B:j<q.length),Pv.one hp (T.t q[j])=true)->Zg hp (q.map T.t)=true:=by intro q;induction q with|nil=>intro _;rfl|cons z q ih=>intro hq;simp only[ew,Zg,BY];exact⟨hq 0 sq,ih λj B=>hq (j+1)<|by simpa using B⟩
   refine this lt λj B=>?_;have hv:=u;cases hv with|agg _ _ _ R=>have c:=R j F (by simpa using B);simp only[cX7]at c;have h3:=h1 _<|al8 (show j<vs.length by omega);generalize vs[j]'F=v at c h3;generalize lt[j]=z at c|-;cases z with|v q=>have:=c.tv;subst this;exact h3|sl _ _=>rfl
  obtain⟨w',q1,q2⟩:=bD1 (P:=X.P) hk (X.C8 t _ D) W (hk.val C) s u (by simp[cq,A]) (bD hs)<|cU8 I;refine⟨w',?_,q2⟩;have e1:(Value.agg vs.toArray).cells=(a.eval x).cells:=by rw[N];rfl
  simpa only[Instr.storeAt,storeVar,e1]using q1
 obtain⟨w',c,h3⟩:=key;refine wpList_step λK hK=>?_;rw[I3 hk hg,if_pos rfl];unfold Oper.wp;have d:(execOp a.eval o).run X.P w=.ok .skip w':=by unfold execOp;simp only[ho,cV1,c,OF,cW0]
 rw[d];refine hK _ _<|h _ b r J _ _ ⟨S,E,?_⟩;rw[hd,List.map_set,m,cz1,<-hn];exact h3
end
open Go.RowKit Go.WideShapes Go.ChangeShapes
section
variable {ρ τ:Type}{X:Cx}{ks:List K}{tm tm':J4}{hp L9:F1}{m:Option ρ}{Q:ρ->Exit->St->Prop}{all:Array Oper}{ops:List Oper}
def o0.via {σ σ':St}(h:∀{ρ:Type}{m:Option ρ}{Q:ρ->Exit->St->Prop}{e:Exit},M8 X [] e σ' m Q->M8 X [] e σ m Q)(k:o0 X all ops ks σ' m Q):o0 X all ops ks σ m Q:=λr d a w c=>by have:=h (e:=.normal) (Q:=λ_ _ b=>b=σ') (λr _ a w c=>⟨σ',c,rfl⟩) () rfl a w c;obtain⟨b,f,rfl⟩:=this;exact k r d a w f
open Classical in
def o0.Tj {σ:St}{m₁:Option τ}{t:τ}(hm:m₁=some t)(h:o0 X all ops ks σ (m₁.bind λt'=>if t'=t then m else none) Q):o0 X all ops ks σ m Q:=by subst hm;simpa using h
open Classical in
def o0.ifH {σ₂:τ->St}{t:τ}(h:o0 X all ops ks (σ₂ t) m Q):∀t',o0 X all ops ks (σ₂ t') (if t'=t then m else none) Q:=λt'=>by by_cases e:t'=t;subst e;simpa using h;simp only[e,if_false];exact o0.fail
open Classical in
def o0.ifG {σ₂:τ->St}{t:τ}{m₁:Option τ}(h:o0 X all ops ks (σ₂ t) m Q):∀t',m₁=some t'->o0 X all ops ks (σ₂ t') (if t'=t then m else none) Q:=λt' _=>o0.ifH h t'
end
def WE {P:Program}(w:World)(d:Nat)(t e:TypeId)(a:Option Addr)(l c:Nat)(h:P.underlying t=some (.slice e)):(Op.equalIn (d+1) t (.slice a l c)<|.slice none 0 0).run P w=.ok a.isNone w:=by cases a<;>simp[Op.equalIn,run_underlying h]
theorem ai7 {P:Program}(w:World)(t e:TypeId)(a:Option Addr)(l c:Nat)(h:P.underlying t=some (.slice e)):(Op.equal t (.slice a l c)<|.slice none 0 0).run P w=.ok a.isNone w:=WE w _ t e a l c h
theorem aS8 {P:Program}(w:World)(t e:TypeId)(a:Option Addr)(l c:Nat)(h:P.underlying t=some (.slice e)):(binOp .eql t (.slice a l c)<|.slice none 0 0).run P w=.ok (.bool a.isNone) w:=by simp_all[binOp,ai7]
theorem ai8 {P:Program}(w:World)(t:TypeId)(x y:Operand)(a:Option Addr)(l c:Nat):(eqGuard .eql t x y (.slice a l c)<|.slice none 0 0).run P w=.ok () w:=rfl
section
variable {ρ τ:Type}{X:Cx}{ks:List K}{σ:St}{tm:J4}{hp:F1}{m m':Option ρ}{Q:ρ->Exit->St->Prop}{all:Array Oper}{rest:List Oper}{o:Oper}
def o0.isNil {t e yt d n s0:Nat}{z0:List Value}{x:Operand}{α:Type}{enc:α->List Tree}{l:List α}(N:o.op=.binOp .eql t x (.const<|.slice none 0 0) yt)(y:o.dst=some d)(p:Y3 d X.nt=true)(z:R8 all.toList tm o.guard=some true)(s:look X.tab t=some ⟨s0,.slice e,z0⟩)(hx:val tm x=some (.t<|.sl n<|l.map enc))(h:∀b:Bool,(b=true->l=[])->o0 X all rest ks ⟨(d,.t<|.v<|.bool b)::tm,hp⟩ m Q):o0 X all (o::rest) ks ⟨tm,hp⟩ m Q:=λr A a w ⟨S,E,hk⟩=>by
 obtain⟨O,B,u⟩:∃d,X.P.underlying t=some d/\TD.ok X.P (.slice e) d:=by obtain⟨i,d,_,_,B,C,_⟩:=X.C8 t _ s;grind
 subst u;have g:=hk.val hx;have D:∃j c k,a.eval x=.slice j k c/\(j=none->l=[]):=by generalize a.eval x=v at g;cases g with|t g=>generalize R:l.map enc=q at g;cases g with|slE a c=>simp_all|sl=>simp
 obtain⟨j,c,k,I,J⟩:=D;refine wpList_step λK L=>?_;rw[I3 hk z];unfold Oper.wp;have f:(execOp a.eval o).run X.P w=.ok (.value<|.bool j.isNone) w:=by have h1:a.eval (.const<|.slice none 0 0)=.slice none 0 0:=rfl;simp_all[execOp,ai8,aS8]
 rw[f];refine L _ _<|h j.isNone (λM=>J<|by simpa using M) r A _ _ ⟨S,E,?_⟩;rw[y];exact hk.put (cU8 p)<|.t<|.v _
end
section
variable {τ α:Type}{X:Cx}{J3:J4}{hp:F1}{all:Array Oper}{o:Oper}
end
def cm (X:Cx)(ops:Array Oper)(fe:Nat)(le:List Bool)(fuel:Nat)(l:List Bool)(σ σ':St):Prop:=∀(Q:Exit->Act->World->Prop),(∀c a w,¬Q (.panic c) a w)->(∀a w,Jv X.w0 X.L X.nt σ' a w->wpAny X.P .any ops Q fe le.toArray a w)->∀a w,Jv X.w0 X.L X.nt σ a w->wpAny X.P .any ops Q fuel l.toArray a w
def oV (X:Cx)(ops:Array Oper)(fe:Nat)(le:List Bool)(fuel:Nat)(l:List Bool)(σ σ':St)(rs:List Nat):Prop:=∀i∈rs,∀(Q:Exit->Act->World->Prop),(∀c a w,¬Q (.panic c) a w)->(∀a w,Jv X.w0 X.L X.nt σ' a w->wpAny X.P .any ops Q fe le.toArray a w)->∀a w,Jv X.w0 X.L X.nt σ a w->wpOp X.P ops Q i (wpAny X.P .any ops Q fuel<|l.toArray.setIfInBounds i true) a w
section
variable {ρ:Type}{X:Cx}{ks:List K}{ops:Array Oper}{fe fuel:Nat}{le l l':List Bool}{σ σ₁ σ':St}{m:Option ρ}{Q:ρ->Exit->St->Prop}{o:Oper}
def cm.bR3 {aM1:Nat}{l₁:List Bool}(h:cm X ops fe le aM1 l₁ σ₁ σ')(k:cm X ops fe le aM1 l₁ σ₁ σ'->cm X ops fe le fuel l σ σ'):cm X ops fe le fuel l σ σ':=k h
def cm.done (b:Sub σ' σ):cm X ops fe le fe le σ σ':=λ_ _ c a w d=>c a w<|d.sub b
theorem cm.all (rs:List Nat)(b:Region.ready .any ops l.toArray=rs)(c:rs.isEmpty=false)(h:oV X ops fe le fuel l σ σ' rs):cm X ops fe le (fuel+1) l σ σ':=λQ hp d a w e=>wpAny_all b gq λi hi=>h i hi Q hp d a w e
def oV.nil:oV X ops fe le fuel l σ σ' []:=λ_ h=>by cases h
def oV.cons {i:Nat}{rs:List Nat}(l':List Bool)(k:ops[i]?=some o)(m:l.set i true=l')(p:o0 X ops [o] [] σ (some ()) λ_ e c=>e=.normal/\Sub σ₁ c)(q:cm X ops fe le fuel l' σ₁ σ')(s:oV X ops fe le fuel l σ σ' rs):oV X ops fe le fuel l σ σ'<|i::rs:=λj d Q hp f a w g=>by
 rcases cV6.1 d with rfl|d
 ·have h:=p () rfl a w g;unfold wpOp;simp only[k];have next:∀a w,wpList X.P ops (after X.P []<|X.post λe c=>e=.normal/\Sub σ₁ c) [] a w->wpAny X.P .any ops Q fuel (l.toArray.setIfInBounds j true) a w:=λa w ⟨c,t,_,e⟩=>by rw[de4,m];exact q Q hp f a w<|t.sub e
  unfold wpList at h;split at h
  ·rename_i u;rw[if_pos u];rcases h with h|⟨h1,v⟩;·refine .inl ?_;revert h;unfold Oper.wp;generalize(execOp a.eval o).run X.P w=r;intro h;cases r with
    |ok n w'=>cases n<;>simp only at h|-;all_goals first|exact next _ _ h|exact Calls.mono h (λe y b=>by cases e<;>first|exact next _ _ b|obtain⟨_,_,_,_,b,_⟩:=b;cases b|obtain⟨_,_,b,_⟩:=b;cases b)|exact Rows.mono h λ_ _ b=>next _ _ b|cases b|exact h
    |halt x w'=>cases x<;>simp at h|-<;>first|exact h|obtain⟨_,_,b,_⟩:=h;cases b
   ·obtain⟨_,_,_,_,b,_⟩:=v;cases b
  grind
 ·exact s j d Q hp f a w g
def cm.move {d:Nat}{x:Operand}{t:T}{tm:J4}{hp:F1}(i:Nat)(l':List Bool)(g:ops[i]?=some o)(j:l.set i true=l')(b:o.op=.move x\/o.op=.assign x)(k:o.dst=some d)(f:Y3 d X.nt=true)(u:o.guard=none)(m:Region.noSelect ops=true)(n:Region.free .any ops l.toArray i=true)(p:(Region.ready .any ops l.toArray).contains i=true)(hx:val tm x=some t)(h:cm X ops fe le fuel l' ⟨(d,t)::tm,hp⟩ σ'):cm X ops fe le (fuel+1) l ⟨tm,hp⟩ σ':=λQ e q a w ⟨S,E,hk⟩=>by have r:=hk.val hx;refine wpAny_take g m n p (λc a w s=>absurd s<|e _ _ _) (v:=a.eval x) (.inl ⟨?_,λw'=>?_⟩) ?_;grind [Region.wanted];rcases b with b|b<;>(simp_all[execOp]);rw[de4,j];exact h Q e q _ _ ⟨S,E,by rw[k];exact hk.put (cU8 f) r⟩
def cm.cK6 {d:Nat}{V:T}{tm:J4}{hp:F1}(i:Nat)(l':List Bool)(g:ops[i]?=some o)(j:l.set i true=l')(k:o.dst=some d)(e:Y3 d X.nt=true)(t:o.guard=none)(m:Region.noSelect ops=true)(n:Region.free .any ops l.toArray i=true)(p:(Region.ready .any ops l.toArray).contains i=true)(hx:∀S E a w,Ok X.w0 X.L X.nt ⟨tm,hp⟩ S E a w->∃v,(∀w',(execOp a.eval o).run X.P w'=.ok (.value v) w')/\RV w S E v V)(h:cm X ops fe le fuel l' ⟨(d,V)::tm,hp⟩ σ'):cm X ops fe le (fuel+1) l ⟨tm,hp⟩ σ':=λQ b q a w ⟨S,E,hk⟩=>by obtain⟨v,r,f⟩:=hx S E a w hk;refine wpAny_take g m n p (λc a w s=>absurd s<|b _ _ _) (.inl ⟨?_,r⟩) ?_;grind [Region.wanted];rw[de4,j];exact h Q b q _ _ ⟨S,E,by rw[k];exact hk.put (cU8 e) f⟩
def w6.cr9 {id:Nat}(h:Nat)(l e:List Bool)(σ₁:St)(hmx:X.P.follows .mixedOrders=true)(i:∀r c σ,¬Q r (.panic c) σ)(k:(cS8 ops.size false).toList=l)(d:dc6 h ops.size=true)(f:(MY ops.size).map (λj=>Y3 j h)=e)(ht:ca3 ops.toList h=true)(n:cm X ops (ops.size-h) e ops.size l σ σ₁)(o:o0 X ops (ops.toList.drop h) [] σ₁ m Q):w6 X [.c<|.region id ops true] σ m Q:=λr p a w ⟨S,E,hk⟩=>by have d:=cU8 d;have b:tZ (λ_=>False) w {w with drawn:=w.drawn+1}:=⟨rfl,rfl,rfl,cW6 _,λ_ _ _=>rfl,Nat.le_succ _⟩;have g:=n (X.post<|Q r) (λc a w ⟨σ,_,q⟩=>i r c σ q) λa w s=>by refine bI5 ht (ops.size-h) h e.toArray a w (cW6 _) F gq (λj t=>?_)<|o r p a w s;rw[<-f,cT3];simp[da9,bg5];rw[List.getElem?_range t];rw[Bool.eq_iff_iff];simp a _ ⟨S,E,hk.grow b⟩;rw[<-k]at g;exact wp_region_any hmx g
end
def EI {α:Type}(g:α->α->Option Int)(x y:α):Bool:=decide<|(g x y).getD 0<0
structure Xp {α:Type}(g:α->α->Option Int)(l:List α):Prop where
 len:l.length<4611686018427387904
 ans:∀x∈l,∀y∈l,∃c,g x y=some c
 irrefl:∀x∈l,EI g x x=false
 trans:∀x∈l,∀y∈l,∀z∈l,EI g x y=true->EI g y z=true->EI g x z=true
 ntrans:∀x∈l,∀y∈l,∀z∈l,EI g x y=false->EI g y z=false->EI g x z=false
 tot:∀x∈l,∀y∈l,EI g x y=false->EI g y x=false->x=y
open Classical in
def NU {α:Type}(g:α->α->Option Int)(l:List α):Option<|List α:=if Xp g l then some (l.mergeSort λx y=>!EI g y x)else none
theorem NV {α:Type}{g:α->α->Option Int}{l:List α}(h:Xp g l):NU g l=some (l.mergeSort λx y=>!EI g y x):=by unfold NU;rw[if_pos h]
open Go.RowKit Go.Sort Go.Shelf Go.Proofs
section
variable {α:Type}[Inhabited α](enc:α->List Value)(k:Nat)(w:World)(β m:Nat)(d:Array α)(os:Array Obj)
theorem aA3:(sortWorldK enc k w β 0 m d os).heap.size=w.heap.size+os.size:=by simp[sortWorldK,putRowK,grow]
def aU0 (b:Nat)(c:b<w.heap.size)(a:b≠β):(sortWorldK enc k w β 0 m d os).heap[b]?=w.heap[b]?:=by simp[sortWorldK,putRowK,putRow,mapBlock,Sort.ahead,grow];grind
theorem cB6 {cs:Array Value}{a:TypeId}(b:w.heap[β]?=some (.cells cs a (0,0))):(sortWorldK enc k w β 0 m d os).heap[β]?=some (.cells (putCells id 0 (flatK enc k d) cs) a (0,0)):=by simp[sortWorldK,putRowK,putRow,mapBlock,Sort.ahead,grow];rw[df2 gq,Array.getElem?_modify,if_pos rfl,b];rfl
def br0 (L:Nat->Prop)(a:L β):tZ L w (sortWorldK enc k w β 0 m d os)where
 os:=rfl;tape:=rfl;output:=rfl;size:=by rw[aA3];omega
 block:=λb c f=>aU0 enc k w β m d os b c λe=>f<|e▸a;drawn:=by simp[sortWorldK,putRowK,grow]
end
def tZ.grown {w w':World}(h:tZ (λ_=>False) w w'):∃q os,w'=grow (w.drewN q) os:=by refine⟨w'.drawn-w.drawn,w'.heap.extract w.heap.size w'.heap.size,?_⟩;have f:=h.drawn;have hz:=h.size;obtain⟨b,c,a,g,d⟩:=w';have e1:=h.os;have e2:=h.tape;have e:=h.output;simp at e1 e2 e f hz;subst e1 e2 e;simp only[grow,World.drewN,World.mk.injEq];refine⟨?_,trivial,by omega,trivial,trivial⟩;apply Array.ext_getElem?;intro i;by_cases hi:i<w.heap.size;rw[df2 hi];exact h.block i hi λx=>x;grind
def ai4 {α:Type}{g:α->α->Option Int}(l:List α):(l.attach.mergeSort λx y=>!EI g y.1 x.1).map (·.1)=l.mergeSort λx y=>!EI g y x:=by have:=List.map_mergeSort (s:=λx y=>!EI g y x) (f:=λx=>x.1) (l:=l.attach) λa _ b _=>rfl;rw[this];simp
theorem RTv {w:World}{S:Nat->Prop}{v u:Value}(h:RT w S v<|.v u):v=u:=by cases h;rfl
def SP {E:Type}{P:Program}{ρ:Ren}(L:SlLaysF0.n6 P ρ){enc:E->List Tree}{k:Nat}(p:E->List Value)(B:∀x,enc x=(p x).map Tree.v)(hk:∀x,(p x).length=k)(h1:∀x,∀v∈p x,v.oneCell'=true)
    (aE:∀w,(isAgg<|ρ.t 24).run P w=.ok true w)(zE:∀w,(Go.sizeOf<|ρ.t 24).run P w=.ok k w){e n:Nat}{cs:List<|List Tree}{A:E->T}(hA:∀x,A x=.agg ((enc x).map .t))(g:E->E->Option Int)
    (hg:∀x y,uR P n ([A x,A y]++cs.map T.el) (g x y) λr=>.t<|Y r)(l:List E):
    yw P (ρ.f 6) [.own 1000000,.fz n cs] [(1000000,.rows e k l.length<|l.map enc)] (NU g l) (λ_=>.Z9 []) λr=>[(1000000,.rows e k r.length<|r.map enc)]:=by
  refine⟨L.f6.enters rfl,λr hr w S E vs hS hO hv=>?_⟩
  have hC:Xp g l:=by
    grind [NU]
  rw[NV hC,AI]at hr
  subst hr
  obtain⟨v0,v1,rfl⟩:∃v0 v1,vs=[v0,v1]:=by
    have:=hv.1
    match vs,this with
    |[a,b],_=>simp
  have r0:RV w S E v0<|.own 1000000:=hv.2 0 sq sq
  have r1:RV w S E v1<|.fz n cs:=hv.2 1 sq sq
  cases r0 with
  |own _ _ hE=>
  cases r1 with
  |fz _ ps _ hpl hp=>
  have U:=hO.ny 1000000 (.rows e k l.length<|l.map enc) rfl
  rw[hE]at U
  obtain⟨hn,⟨hx,hnil⟩|⟨β,N,vs,hcm,hx,hh,hvl,V,hsz,hr⟩⟩:=U
  · -- no element
    have u:l=[]:=gq
    subst u
    subst hx
    refine(AnyF.slices_SortFunc_none L none 0 (.func (.func n) #[] ps.toArray) w).mono λe' w' ⟨he,hw⟩=>?_
    subst hw
    refine⟨_,S,E,he,.Z9 [] [] rfl λj h1=>sq,tZ.refl _ _,hS,λb C=>.inl C,?_,λβ u=>.inl ?_,λ_ _=>rfl⟩
    all_goals simp_all
  · have hl0:l≠[]\/l=[]:=by by_cases h:l=[]<;>simp[h]
    simp only[cW2]at hx V
    subst hx
    by_cases u:l=[]
    · subst u
      refine(AnyF.slices_SortFunc_none L (some ⟨β,0,none⟩) N (.func (.func n) #[] ps.toArray) w).mono λe' w' ⟨he,hw⟩=>?_
      subst hw
      refine⟨_,S,E,he,.Z9 [] [] rfl λj h1=>by simp at h1,tZ.refl _ _,hS,λb C=>.inl C,?_,λβ u=>.inl ?_,λ_ _=>rfl⟩
      ·simpa using hO
      ·simpa using u
    obtain⟨x0,hx0⟩:=List.exists_mem_of_ne_nil l u
    haveI:Inhabited {x//x∈l}:=⟨⟨x0,hx0⟩⟩
    let o:{x//x∈l}->List Value:=λx=>p x.1
    let cf:{x//x∈l}->{x//x∈l}->Int:=λx y=>(g x.1 y.1).getD 0
    let d:Array {x//x∈l}:=l.attach.toArray
    have O:d.size=l.length:=by simp[d]
    have hlt:∀x y,ltOf cf x y=EI g x.1 y.1:=λx y=>rfl
    have hO':SWO<|ltOf cf:=⟨λx=>hC.irrefl _ x.2,λx y z=>hC.trans _ x.2 _ y.2 _ z.2,λx y z=>hC.ntrans _ x.2 _ y.2 _ z.2⟩
    have hβS:¬S β:=(hO.own 1000000 (.rows e k l.length<|l.map enc) β rfl<|by rw[hE];rfl).1
    have hβw:β<w.heap.size:=(hO.own 1000000 (.rows e k l.length<|l.map enc) β rfl<|by rw[hE];rfl).2
    have eg:∀args w,(callFunc n args).run P w=.ok (.enter n args) w:=(hg x0 x0).1
    have hdget:∀i (hi:i<l.length),d[i]!.1=l[i]:=λi hi=>by
      rw[getElem!_pos d i F];simp[d]
    have hcmp:CmpLays P n ps.toArray o k cf β 0 d.size w:=by
      intro m os dk hdk x y
      obtain⟨c,hc⟩:=hC.ans _ x.2 _ y.2
      have hW:=br0 o k w β m dk os (λb=>b=β) rfl
      have hSW:∀b,S b->(sortWorldK o k w β 0 m dk os).heap[b]?=w.heap[b]?:=λb C=>aU0 o k w β m dk os b (hS b C) λe=>hβS<|e▸C
      have W:∀z:{x//x∈l},RV (sortWorldK o k w β 0 m dk os) S E (.agg (o z).toArray)<|A z.1:=λz=>by
        rw[hA,B]
        refine .agg _ _ (by simp[o]) λj h1 Q=>?_
        simp only[cX7]
        exact .t<|.v _
      have I:=(hg x.1 y.1).2 c hc (sortWorldK o k w β 0 m dk os) S E ([.agg (o x).toArray,.agg (o y).toArray]++ps) (λb C=>dc7 (hS b C) hW.size)<|by
        refine xJ.append (l:=[A x.1,A y.1]) ⟨rfl,λj h1 Q=>?_⟩ ⟨by simpa using hpl,λj h1 Q=>?_⟩
        ·match j,h1,Q with
          |0,_,_=>exact W x
          |1,_,_=>exact W y
        · simp only[cX7]
          exact(hp j h1<|by simpa using Q).rv (E:=E).mono (λ_ x=>x) hSW λ_ _=>rfl
      have e1:(([.agg (o x).toArray,.agg (o y).toArray]:List Value)++ps).toArray=#[.agg (o x).toArray,.agg (o y).toArray]++ps.toArray:=sq
      rw[e1]at I
      refine I.mono λe' w' ⟨v,S',he,hv',hkeep,_,_⟩=>?_
      subst he
      have:v=.int .i64 c:=by
        cases hv' with|t h=>exact RTv h
      subst this
      exact⟨by simp[cf,hc],hkeep.grown⟩
    have hcell:∀i (hi:i<l.length)j (M:j<k),∃C:i*k+j<vs.length,vs[i*k+j]=(p l[i])[j]'(by rw[hk];exact M):=λi hi j M=>by
      have Q:i*k+j<vs.length:=by
        have:(i+1)*k<=N*k:=cW8 _ F
        rw[dc5]at this;omega
      refine⟨Q,?_⟩
      have X:j<((l.map enc)[i]'(by simpa using hi)).length:=by simp[B,hk];exact M
      have:=hr i j (by simpa using hi) X Q
      have e2:((l.map enc)[i]'(by simpa using hi))[j]'X=.v ((p l[i])[j]'(by rw[hk];exact M)):=by simp[B]
      rw[e2]at this
      exact RTv this
    have hH:HoldsK o k w β 0 d:=by
      intro t ht
      rw[size_flatK,O]at ht
      have hk0 : 0 < k := by rcases cz3 k with h|h;·subst h;simp at ht
                             ·exact h
      have hi:t/k<l.length:=cO2<|by rw[dd3];exact ht
      have M:t%k<k:=cY9 _ hk0
      obtain⟨C,hc⟩:=hcell _ hi _ M
      have et:t/k*k+t%k=t:=by rw[dd3];exact cL5 t k
      refine⟨?_,by simp[World.frozen?,hh]⟩
      rw[cell_of_row w β (0+t) _ e _ hh,get_flatK _ _ _ t<|by rw[O];exact ht]
      have Q:(o d[t/k]!)[t%k]! =vs[t/k*k+t%k]:=by
        rw[hc,getElem!_pos _ _<|by simp only[o];rw[hk];exact M]
        simp only[o,hdget _ hi]
      rw[Q,cX4]
      simp only[id_eq,da9]
      rw[IN F]
      congr 2
      exact et.symm
    have J:=AnyQ.slices_SortFunc_total L k aE zE o (λx=>hk _) (λx=>h1 _) cf hO' n ps.toArray β 0 N d w eg hcmp hH hβw (by rw[O];exact hC.len) λx y a b=>Subtype.ext<|hC.tot _ x.2 _ y.2 a b
    rw[O]at J
    have D:=ai4 (g:=g) l
    have hdl:d.toList=l.attach:=by simp[d]
    rw[hdl]at J
    refine J.mono λe' w' ⟨he,m,os,hw⟩=>?_
    have hcong:(l.attach.mergeSort λx y=>!ltOf cf y x)=l.attach.mergeSort λx y=>!EI g y.1 x.1:=rfl
    rw[hcong]at hw
    generalize (l.attach.mergeSort λx y=>!EI g y.1 x.1)=q at hw D
    have hrl:(l.mergeSort λx y=>!EI g y x).length=l.length:=List.length_mergeSort l
    generalize (l.mergeSort λx y=>!EI g y x)=r at D hrl|-
    have hql:q.length=r.length:=by rw[<-D];simp
    have hlent:iB [(1000000,ck.rows e k l.length<|l.map enc)] E β:=⟨1000000,_,rfl,by rw[hE];rfl⟩
    subst hw
    have hqget:∀i (hi:i<r.length),q.toArray[i]!.1=r[i]:=λi hi=>by
      rw[getElem!_pos q.toArray i<|by simpa using(by omega:i<q.length)]
      subst D
      simp
    refine⟨.tuple #[],S,E,he,.Z9 [] [] rfl λj h1=>by simp at h1,br0 o k w β m q.toArray os _ hlent,λb C=>?_,λb C=>.inl C,⟨λid b u=>?_,λid b β' u R=>?_,λid id' b b' β' u hl' _ _=>?_⟩,λβ' ⟨id,b,u,R⟩=>.inl ?_,λ_ _=>rfl⟩
    ·rw[aA3];exact dc7 (hS b C)<|Nat.le_add_right _ _
    · have:id=1000000/\b=.rows e k r.length (r.map enc):=by
        simp only[look]at u
        by_cases s:1000000=id
        ·subst s;simp at u;exact⟨rfl,u.symm⟩
        ·simp[s9 s]at u
      obtain⟨rfl,rfl⟩:=this
      rw[hE]
      refine⟨sq,.inr ⟨β,N,(putCells id 0 (flatK o k q.toArray) vs.toArray).toList,hcm,by simp[hrl],by rw[cB6 o k w β m q.toArray os hh],by simp[putCells,hvl],by simpa[hrl]using V,?_,?_⟩⟩
      · intro x hx
        obtain⟨y,_,rfl⟩:=cX3.1 hx
        simp[B,hk]
      · intro i j hi M C
        have hi':i<r.length:=by simpa using hi
        have K:j<k:=by simpa[B,hk]using M
        have hk0:0<k:=F
        have ht:i*k+j<r.length*k:=by
          have:(i+1)*k<=r.length*k:=cW8 _ F
          rw[dc5]at this;omega
        have hdiv:(i*k+j)/k=i:=by rw[dd3,Nat.mul_add_div hk0,df1 K,cq7]
        have hmod:(i*k+j)%k=j:=by rw[dd3,cR5,cZ2 K]
        have e1:(putCells id 0 (flatK o k q.toArray) vs.toArray).toList[i*k+j]=(p r[i])[j]'(by rw[hk];exact K):=by
          simp only[cS7]
          simp only[putCells,Array.getElem_mapIdx,Nat.zero_le,true_and,cX4,Nat.sub_zero,size_flatK,da4,id_eq]
          rw[if_pos<|by rw[hql];exact ht,get_flatK _ _ _ _<|by simp only[da4];rw[hql];exact ht,hdiv,hmod,getElem!_pos _ _<|by simp only[o];rw[hk];exact K]
          simp only[o,hqget i hi']
        rw[e1]
        have e2:((r.map enc)[i]'hi)[j]'M=.v ((p r[i])[j]'(by rw[hk];exact K)):=by simp[B]
        rw[e2]
        exact .v _
    · have:id=1000000:=by
        simp only[look]at u
        by_cases s:1000000=id
        ·exact s.symm
        ·simp[s9 s]at u
      subst this
      have:β'=β:=by rw[hE]at R;simpa[H9]using R.symm
      subst this
      exact⟨hβS,by rw[aA3];omega⟩
    · simp only[look]at u hl'
      by_cases s:1000000=id
      · by_cases Z:1000000=id'
        ·exact s.symm.trans Z
        ·simp[s9 Z]at hl'
      ·simp[s9 s]at u
    · have:id=1000000:=by
        simp only[look]at u
        by_cases s:1000000=id
        ·exact s.symm
        ·simp[s9 s]at u
      subst this
      exact⟨1000000,_,rfl,R⟩
section
variable {X:Cx}{ops:Array Oper}{fe fuel:Nat}{le l l':List Bool}{σ':St}{o:Oper}{α:Type}
end
def F5 (k:IntKind)(x y:Int):Int:=k.wrap (BitVec.ofInt k.bits x&&&BitVec.ofInt k.bits y).toNat
def P2 (k:IntKind)(x y:Int):Int:=k.wrap (BitVec.ofInt k.bits x|||BitVec.ofInt k.bits y).toNat
def as3 (k:IntKind)(x y:Int):Int:=k.wrap (BitVec.ofInt k.bits x^^^BitVec.ofInt k.bits y).toNat
def sU (k:IntKind)(x y:Int):Int:=k.wrap (BitVec.ofInt k.bits x&&&~~~BitVec.ofInt k.bits y).toNat
def AA (k:IntKind)(x y:Int):Int:=k.wrap<|x*2^min y.toNat k.bits
def w9 (k:IntKind)(x y:Int):Int:=x.fdiv<|2^min y.toNat k.bits
abbrev dm {α:Type}(l:List α)(m:List<|Nat×α):List α:=m.foldl (λl p=>l.set p.1 p.2) l
def RU (lo hi:Int)(n:Nat):Option Unit:=if 0<=lo/\lo<=hi/\hi<=n then some ()else none
def cZ {α:Type}(l:List α)(lo:Nat)(r:List α):List α:=l.take lo++r++l.drop (lo+r.length)
abbrev bN7 {α:Type}(l:List α)(lo hi a b:Int):List α:=cZ l lo.toNat<|((l.drop a.toNat).take<|b.toNat-a.toNat).take<|hi.toNat-lo.toNat
abbrev Og {α:Type}(l:List α)(lo hi:Int)(z:α):List α:=cZ l lo.toNat<|cI5 (hi.toNat-lo.toNat) z
def cJ3 (k:IntKind)(x y:Int):Option Int:=if y<0 then none else some<|AA k x y
def co4 (k:IntKind)(x y:Int):Option Int:=if y<0 then none else some<|w9 k x y
def Uv (x:Int):Option Int:=if 0<=x/\x<=18446744073709551615 then some (Lib.bitLen x.toNat:Int)else none
def UA (x y:Int):Option<|Int×Int:=if(0<=x/\x<=18446744073709551615)/\0<=y/\y<=18446744073709551615then some (x*y/18446744073709551616,x*y%18446744073709551616)else none
theorem cj6 {x:Int}(h0:0<=x)(h1:x<=4611686018427387904):H (w9 .u64 (IS.wrap<|H x) 1)=x/2:=by
 rw[b6 (n:=x) F F];have e:IS.wrap x=x:=by unfold de9;simp only[cL0,cZ5];simp only[show(2:Int)^64=18446744073709551616 from rfl,Bool.false_and,cX5,if_false];omega
 rw[e];have e2:w9 .u64 x 1=x/2:=by unfold w9;show x.fdiv 2=x/2;exact Int.fdiv_eq_ediv_of_nonneg x dq
 rw[e2];exact b6 F F
def ac6 {α:Type}(n:Int)(z:α):Option<|List α:=if 0<n/\n<=1073741824 then some (cI5 n.toNat z)else none
def NT (l:List Int):Option<|List Int:=if l.length<4611686018427387904 then some<|l.mergeSort λx y=>decide (x<=y)else none
def Vf (p:Int):List Int->List Int|[]=>[]|y::l=>bif y==p then Vf y l else y::Vf y l
def Ix:List Int->List Int|[]=>[]|x::l=>x::Vf x l
def Cv (l:List Int):Option<|List Int:=if l.length<=9223372036854775807 then some (Ix l)else none
theorem UL {l:List Int}(h:l.length<4611686018427387904):NT l=some (l.mergeSort λx y=>decide<|x<=y):=by unfold NT;rw[if_pos h]
theorem Vg {l:List Int}(h:l.length<=9223372036854775807):Cv l=some (Ix l):=by unfold Cv;rw[if_pos h]
theorem Yg (x:Int):∀(l:List Int)(p:Int),Vf p (l++[x])=Vf p l++if x=l.getLastD p then[]else[x]|[],p=>by show(bif x==p then[]else[x])=[]++if x=p then[]else[x];by_cases h:x=p;rw[if_pos h,show(x==p)=true by simpa using h];rfl;rw[if_neg h,show(x==p)=false by simpa using h];rfl|y::l,p=>by simp only[cX8,Vf,List.getLastD_cons];rw[Yg x l y];cases y==p<;>rfl
theorem ba0 (x:Int):∀(l:List Int)(h:l≠[]),Ix (l++[x])=Ix l++if x=l.getLast h then[]else[x]
 |[],h=>(h rfl).elim|y::l,_=>by
  have e:(y::l).getLast (List.cons_ne_nil y l)=l.getLastD y:=by cases l with|nil=>rfl|cons z l=>rw[List.getLast_cons<|List.cons_ne_nil z l];rfl
  simp only[cX8,Ix];rw[Yg,e]
open Go.RowKit Go.Shelf Go.Proofs
def xJ.cN6 {w:World}{S:Nat->Prop}{E:Nat->Value}{vs:List Value}{a:Value}(h:xJ w S E vs [.t<|.v a]):vs=[a]:=by match vs,h with|[x],h=>have e:x=a:=RV.tv<|h.2 0 sq sq;rw[e]|[],h=>exact absurd h.1 sq|_::_::_,h=>exact absurd h.1 sq
def xJ.cN7 {w:World}{S:Nat->Prop}{E:Nat->Value}{vs:List Value}{a b:Value}(h:xJ w S E vs [.t<|.v a,.t<|.v b]):vs=[a,b]:=by match vs,h with|[x,y],h=>have e:x=a:=RV.tv<|h.2 0 sq sq;have f:y=b:=RV.tv<|h.2 1 sq sq;rw[e,f]|[],h=>exact absurd h.1 sq|[_],h=>exact absurd h.1 sq|_::_::_::_,h=>exact absurd h.1 sq
def bx8 {P:Program}{ρ:Ren}(L:Lays.n129 P ρ)(c:∀vs w,(callFunc (ρ.f 129) vs).run P w=.ok (.enter (ρ.f 129) vs) w)(x:Int):uR P (ρ.f 129) [.t<|tK .u64 x] (Uv x) λr=>.t<|Y r:=by refine⟨c,λr a w S E vs d g=>?_⟩;obtain rfl:=g.cN6;unfold Uv at a;by_cases h:0<=x/\x<=18446744073709551615;rw[if_pos h]at a;cases a;refine(Any.bits_Len64 L x w h.1 h.2).mono λe w' ⟨i,j⟩=>?_;subst j;exact⟨_,S,i,.t<|.v _,.refl _ _,d,λb k=>.inl k⟩;rw[if_neg h]at a;cases a
def bz1 {P:Program}{ρ:Ren}(L:Lays.n264 P ρ)(d:∀vs w,(callFunc (ρ.f 264) vs).run P w=.ok (.enter (ρ.f 264) vs) w)(x y:Int):uR P (ρ.f 264) [.t<|tK .u64 x,.t<|tK .u64 y] (UA x y) λr=>.Z9 [.t<|tK .u64 r.1,.t<|tK .u64 r.2]:=by
 refine⟨d,λr c w S E vs g i=>?_⟩;obtain rfl:=i.cN7;unfold UA at c;by_cases h:(0<=x/\x<=18446744073709551615)/\0<=y/\y<=18446744073709551615;rw[if_pos h]at c;cases c;obtain⟨a,rfl⟩:∃a:Nat,x=a:=⟨x.toNat,by omega⟩;obtain⟨b,rfl⟩:∃b:Nat,y=b:=⟨y.toNat,by omega⟩;refine(Any.bits_Mul64 L a b F F w).mono λe w' ⟨k,l⟩=>?_;subst l;refine⟨_,S,k,.Z9 [_,_] _ rfl λj h1 n=>?_,.refl _ _,g,λb m=>.inl m⟩;match j,h1 with|0,_=>exact .t<|.v _|1,_=>exact .t<|.v _
 rw[if_neg h]at c;cases c
section
variable {ρ:Type}{X:Cx}{ks:List K}{tm J3:J4}{hp:F1}{Q:ρ->Exit->St->Prop}{all:Array Oper}{o:Oper}{rest:List Oper}
end
def TW {lo hi:Int}{n:Nat}{y:Unit}(h:RU lo hi n=some y):lo.toNat+(hi.toNat-lo.toNat)<=n:=by grind [RU]
def HE {α:Type}{l r:List α}{lo:Nat}(h:lo+r.length<=l.length):(cZ l lo r).length=l.length:=by grind [cZ]
def Yj {α:Type}{l r:List α}{lo:Nat}(h:lo+r.length<=l.length)(i:Nat):(cZ l lo r)[i]?=if i<lo then l[i]?else if i<lo+r.length then r[i-lo]?else l[i]?:=by unfold cZ;grind
section
variable {P:Program}{w0:World}{L:GL}{nt:Nat}{tm:J4}{hp:F1}{S:Nat->Prop}{E:Nat->Value}{a:Act}{w:World}
def Ok.putAt (h:Ok w0 L nt ⟨tm,hp⟩ S E a w){id e sz n m cap β lo:Nat}{rs r2:List<|List Tree}{news:List Value}(M:look hp id=some (.rows e sz n rs))(Z:E id=.slice (some ⟨β,0,none⟩) m cap)(t:lo+r2.length<=rs.length)(hnl:news.length=r2.length*sz)(v:∀u∈news,u.oneCell'=true)(h2:∀r∈r2,r.length=sz)(N:∀i j (hi:i<r2.length)(K:j<r2[i].length)(M:i*sz+j<news.length),RT w S news[i*sz+j] r2[i][j]):∃w',(storeCells ⟨β,lo*sz,none⟩ news).run P w=.ok () w'/\Ok w0 L nt ⟨tm,aT hp id<|.rows e sz n<|cZ rs lo r2⟩ S E a w':=by
 obtain⟨hn,y⟩:=h.hp id _ M;have O:=HE t;rcases y with⟨s,_⟩|⟨Q,d,cs,R,s,V,W,hcc,z,A⟩;grind;rw[s]at Z;have hβ:Q=β:=by grind
 subst hβ;have B:(lo+r2.length)*sz<=d*sz:=cW8 _ F;rw[dd9]at B;have C:=run_storeCells_at (P:=P) Q (lo*sz) e news 0 cs.toArray w V gq v;simp only[cq7]at C;refine⟨_,C,h.setRow M (by rw[s];rfl) V λT D=>⟨F,.inr ⟨Q,d,cs.take (lo*sz)++news++cs.drop (lo*sz+news.length),R,by grind,D,?_,by omega,?_,?_⟩⟩⟩;grind;grind [cZ];intro i j hi K hb';have c:i<rs.length:=by rw[<-O];exact hi
 have p:=Yj t i;rw[IN hi]at p;have f:∀k,(cs.take (lo*sz)++news++cs.drop (lo*sz+news.length))[k]?=if k<lo*sz then cs[k]?else if k<lo*sz+news.length then news[k-lo*sz]?else cs[k]?:=λk=>Yj (l:=cs) (r:=news) (lo:=lo*sz) F k;by_cases h1:i<lo;rw[if_pos h1,IN c]at p;have q:=oa p;have b:j<rs[i].length:=by rw[<-q];exact K
 have I:j<sz:=by rw[<-z _<|al8 c];exact b
 have o:i*sz+j<lo*sz:=by have:(i+1)*sz<=lo*sz:=cW8 _ h1;rw[dc5]at this;omega
 have g:i*sz+j<cs.length:=by omega
 have J:(cs.take (lo*sz)++news++cs.drop (lo*sz+news.length))[i*sz+j]=cs[i*sz+j]:=by apply oa;rw[<-IN,f,if_pos o,IN g]
 simp only[q];rw[J];exact(A i j c b g).mono (λ_ x=>x) T;rw[if_neg h1]at p;by_cases X:i<lo+r2.length;rw[if_pos X,IN F]at p;have q:=oa p;have b:j<(r2[i-lo]'F).length:=by rw[<-q];exact K
 have I:j<sz:=by rw[<-h2 _<|al8 (by omega:i-lo<r2.length)];exact b
 have e1:i*sz=lo*sz+(i-lo)*sz:=by rw[<-dd9];congr 1;omega
 have o:(i-lo)*sz+j<news.length:=by have:(i-lo+1)*sz<=r2.length*sz:=cW8 _ F;rw[dc5]at this;omega
 have J:(cs.take (lo*sz)++news++cs.drop (lo*sz+news.length))[i*sz+j]=news[(i-lo)*sz+j]:=by apply oa;rw[<-IN,f,if_neg F,if_pos F,<-IN o];congr 1;omega
 simp only[q];rw[J];exact(N (i-lo) j F b o).mono (λ_ x=>x) T;rw[if_neg X,IN c]at p;have q:=oa p;have b:j<rs[i].length:=by rw[<-q];exact K
 have U:(lo+r2.length)*sz<=i*sz:=cW8 _ F;rw[dd9]at U;have I:j<sz:=by rw[<-z _<|al8 c];exact b
 have g:i*sz+j<cs.length:=by have:(i+1)*sz<=d*sz:=cW8 _ F;rw[dc5]at this;omega
 have J:(cs.take (lo*sz)++news++cs.drop (lo*sz+news.length))[i*sz+j]=cs[i*sz+j]:=by apply oa;rw[<-IN,f,if_neg F,if_neg F,IN g]
 simp only[q];rw[J];exact(A i j c b g).mono (λ_ x=>x) T
theorem Oo {hp:F1}{id:Nat}{b:ck}:∀{hp:F1},look hp id=some b->∀k,look (aT hp id b) k=look hp k:=λ{hp}h k=>by grind [jH]
def Ok.aM4 (h:Ok w0 L nt ⟨tm,hp⟩ S E a w){id:Nat}{b:ck}(e:look hp id=some b):Ok w0 L nt ⟨tm,aT hp id b⟩ S E a w:={h with hp:=λk c hk=>h.hp k c<|by rw[Oo (hp:=hp) e]at hk;exact hk,own:=λk c β hk=>h.own k c β<|by rw[Oo (hp:=hp) e]at hk;exact hk,cJ:=λk f c g β hk d=>h.cJ k f c g β (by rw[Oo (hp:=hp) e]at hk;exact hk)<|by rw[Oo (hp:=hp) e]at d;exact d}
end
section
variable {ρ α:Type}{X:Cx}{ks:List K}{tm J3:J4}{hp:F1}{m:Option ρ}{Q:ρ->Exit->St->Prop}{all:Array Oper}{o:Oper}{rest:List Oper}
def cb9 {w0:World}{L:GL}{nt:Nat}{S:Nat->Prop}{E:Nat->Value}{a:Act}{w:World}{tm0:J4}(hk:Ok w0 L nt ⟨tm0,hp⟩ S E a w){tab:vH}{P:Program}(C8:oW P tab){t e e' n s0 id sz:Nat}{z0:List Value}{K:TI}{x:Operand}{lo hi:Option Operand}{l:List α}{i j:Int}{enc:α->List Tree}(O:o.op=.slice t x lo hi none)(hx:val tm0 x=some (.own id))(Q:look hp id=some (.rows e sz n<|l.map enc))(p:look tab t=some ⟨s0,.slice e',z0⟩)(r:look tab e'=some K)(s:K.size=sz)(d:UD tm0 0 lo=some i)(f:UD tm0 l.length hi=some j)(u:RU i j l.length=some ()):∃v,(execOp a.eval o).run P w=.ok (.value v) w/\RV w S E v (.vw id i.toNat (j.toNat-i.toNat) sz):=by
 unfold RU at u;split at u<;>try cases u;done
 rename_i g;obtain⟨h0,h1,h2⟩:=g;obtain⟨q,dd,R,hs,T,y,_⟩:=C8 t _ p;subst y;have z:=(C8 e' _ r).iJ w;have A:a.eval x=E id:=by have M:=hk.val hx;generalize a.eval x=sv at M;cases M with|own _ _ h=>grind
 obtain⟨hn,k⟩:=hk.hp id _ Q;have B:n=l.length:=by grind
 subst B;rcases k with⟨h,U⟩|⟨β,b,cs,V,h,hh,W,X,N,Z⟩
 ·have C:l=[]:=by grind
  subst C;have D:j=0:=by grind
  have I:i=0:=by omega
  subst D I;have m:=Gd (P:=P) (w:=w) (n:=0) (c:=0) (CU hk d) (CU hk f) (QA 0) (QA 0)<|QA 0;refine⟨.slice none 0 0,?_,.vw id _ _ sz 0 none<|.inl rfl⟩;simp_all[execOp,Instr.sliceAt,run_underlying,Instr.slice]
 ·have m:=Gd (P:=P) (w:=w) (n:=l.length) (c:=b) (CU hk d) (CU hk f) h0 h1 F;simp only[cW2]at h;refine⟨_,by simp only[execOp,O,Instr.sliceAt,cV1,run_underlying T,OF,Instr.slice,A,h,db1,m,z,cW0];rfl,?_⟩;refine .vw id _ _ sz _ _ ?_;by_cases hz:j.toNat-i.toNat=0;·exact .inl hz
  ·refine .inr ⟨β,_,b,h,?_⟩;have J:¬b=i.toNat:=by omega
   simp only[J,if_false,cW3,mT,cX4,s]
def o0.ar8 {t e e' d n s0 id sz:Nat}{z0:List Value}{q:TI}{x:Operand}{lo hi:Option Operand}{l:List α}{i j:Int}{enc:α->List Tree}{k:Unit->Option ρ}(r:o.op=.slice t x lo hi none)(s:o.dst=some d)(b:Y3 d X.nt=true)(u:R8 all.toList tm o.guard=some true)(hx:val tm x=some (.own id))(v:look hp id=some (.rows e sz n<|l.map enc))(c:look X.tab t=some ⟨s0,.slice e',z0⟩)(f:look X.tab e'=some q)(g:q.size=sz)(m:UD tm 0 lo=some i)(p:UD tm l.length hi=some j)(h:∀y,RU i j l.length=some y->o0 X all rest ks ⟨(d,.vw id i.toNat (j.toNat-i.toNat) sz)::tm,hp⟩ (k y) Q):o0 X all (o::rest) ks ⟨tm,hp⟩ ((RU i j l.length).bind k) Q:=o0.one s b u (λ_=>.vw id i.toNat (j.toNat-i.toNat) sz) (λy S E a w z hk=>by exact cb9 hk X.C8 r hx v c f g m p z) h
def cA8 {w0:World}{L:GL}{nt:Nat}{S:Nat->Prop}{E:Nat->Value}{a:Act}{w:World}{tm0:J4}(hk:Ok w0 L nt ⟨tm0,hp⟩ S E a w){id e sz n lo q:Nat}{rs:List<|List Tree}{v:Value}(M:look hp id=some (.rows e sz n rs))(N:RV w S E v<|.vw id lo q sz)(O:lo+q<=rs.length)(g:∀r∈rs,∀t∈r,oK t=true):Src w S v q sz<|(rs.drop lo).take q:=by refine⟨gq,?_⟩;cases N with|vw _ _ _ _ c P h=>
  refine⟨P,c,rfl,λh0=>?_⟩;rcases h with h|⟨β,m,Q,J,R⟩;omega;obtain⟨hn,l⟩:=hk.hp id _ M;rcases l with⟨o,_⟩|⟨z,p,cs,T,o,U,K,V,A,s⟩;grind;rw[o]at J;have W:z=β:=by injection J with h1;injection h1 with h1;injection h1
  subst W;have x:(lo+q)*sz<=p*sz:=cW8 _ F;rw[dd9]at x;have d:((cs.drop<|lo*sz).take<|q*sz).length=q*sz:=by rw[cV5,dc1];omega
  have cell:∀k (b:k<q*sz),∃(h1:lo+k/sz<rs.length)(y:k%sz<rs[lo+k/sz].length)(X:lo*sz+k<cs.length),RT w S cs[lo*sz+k] rs[lo+k/sz][k%sz]:=λk b=>by
   have B:0<sz:=KR b;have h1:k/sz<q:=cO2 (by rw[dd3];exact b);have y:k%sz<(rs[lo+k/sz]'F).length:=by rw[A _<|al8 _];exact cY9 _ B
   have e1:(lo+k/sz)*sz+k%sz=lo*sz+k:=by have:=cL5 k sz;rw[dd3]at this;rw[dd9];omega
   refine⟨F,y,by omega,?_⟩;have:=s (lo+k/sz) (k%sz) F y F;simp only[e1]at this;exact this
  refine⟨⟨z,lo*sz,none⟩,(cs.drop<|lo*sz).take<|q*sz,R,d,λj u f=>?_,λu f=>?_,λi j hi Z hb2=>?_⟩;rw[db5]at f;split at f;rw[mT,cell_of_row w z _ _ e _ U];simpa using f;cases f;obtain⟨k,b,rfl⟩:=Kz.1 f;have C:k<q*sz:=by rw[d]at b;exact b
  obtain⟨h1,y,X,h4⟩:=cell k C;rw[dd0,cY2];exact h4.one<|g _ (al8 h1) _<|al8 y;have hi2:i<q:=by rw[cV5,dc1]at hi;omega
  have e1:((rs.drop lo).take q)[i]=rs[lo+i]'F:=by rw[dd0,cY2]
  have D:j<(rs[lo+i]'F).length:=by rw[<-e1];exact Z
  have e2:(lo+i)*sz+j=lo*sz+(i*sz+j):=by rw[dd9];omega
  have I:lo*sz+(i*sz+j)<cs.length:=by omega
  have:=s (lo+i) j F D (by rw[e2];exact I);simp only[e2]at this;simp only[e1];rw[dd0,cY2];exact this
def o0.copyV {t t2 e e' n s0 id lo q lo2 q2:Nat}{z0:List Value}{f:TI}{s x:Operand}{l:List α}{enc:α->List Tree}{σ₁:St}{hc R:Prop}
  (h1:hc)(h2:R)(T:hc->lo+q<=l.length)(p:R->lo2+q2<=l.length)
  (ho:o.op=.call ⟨.builtin .copy,#[s,x],#[t,t2]⟩)(hg:R8 all.toList tm o.guard=some true)
  (hty:look X.tab t=some ⟨s0,.slice e',z0⟩)(hte:look X.tab e'=some f)(U:∀y,(enc y).length=f.size)(V:∀y,(enc y).all oK=true)
  (hs:val tm s=some (.vw id lo q f.size))(hx:val tm x=some (.vw id lo2 q2 f.size))(hb:look hp id=some (.rows e f.size n<|l.map enc))
  (aT:Gb X.nt o.dst (.t<|.v<|.int .i64 (min q2 q:Nat)) ⟨tm,aT hp id<|.rows e f.size (cZ l lo<|((l.drop lo2).take q2).take q).length<|(cZ l lo<|((l.drop lo2).take q2).take q).map enc⟩=some σ₁)
  (h:o0 X all rest ks σ₁ m Q):o0 X all (o::rest) ks ⟨tm,hp⟩ m Q:=λy hy a w ⟨S,E,hk⟩=>by
 have T:=T h1
 have p:=p h2
 obtain⟨dd,k,W⟩:∃d,X.P.underlying t=some d/\TD.ok X.P (.slice e') d:=by
  obtain⟨i,d,_,_,k,hdd,_⟩:=X.C8 t _ hty
  grind
 simp only[TD.ok]at W
 subst W
 obtain⟨i0,d0,Z,hs0,_⟩:=X.C8 e' _ hte
 have hn:n=l.length:=by have:=(hk.hp id _ hb).1;grind
 subst hn
 have g:=cA8 hk hb (hk.val hx) gq<|JE V l
 obtain⟨_,I,c2,hxe,g⟩:=g
 have A:=hk.val hs
 have J:((l.drop lo2).take q2).length=q2:=by grind
 have e0:((l.map enc).drop lo2).take q2=((l.drop lo2).take q2).map enc:=by simp
 have hcl:(cZ l lo<|((l.drop lo2).take q2).take q).length=l.length:=HE gq
 rw[hcl]at aT
 have e1:(cZ l lo<|((l.drop lo2).take q2).take q).map enc=cZ (l.map enc) lo ((((l.drop lo2).take q2).take q).map enc):=by simp[cZ,List.map_take,List.map_drop]
 rw[e1]at aT
 generalize hse:a.eval s=sv at A
 have fin:∀w',(Builtin.copy_ #[t,t2] o.type #[sv,.slice I q2 c2]).run X.P w=.ok (.int .i64 (min q2 q:Nat)) w'->
   Ok X.w0 X.L X.nt ⟨tm,Go.Pv.aT hp id<|.rows e f.size l.length<|cZ (l.map enc) lo<|(((l.drop lo2).take q2).take q).map enc⟩ S E a w'->wpList X.P all (after X.P ks<|X.post<|Q y) (o::rest) a w:=λw' hr M=>by
  refine wpList_step λK hK=>?_
  rw[I3 hk hg,if_pos rfl]
  unfold Oper.wp
  have N:(execOp a.eval o).run X.P w=.ok (.value<|.int .i64 (min q2 q:Nat)) w':=by
   unfold execOp
   simp only[ho,resolve,invoke,builtin,cV1,cW0,OF,cZ9,ew,db6,hse,hxe,hr]
  rw[N]
  exact hK _ _<|h y hy _ _ ⟨S,E,Ho M (.t<|.v _) aT⟩
 cases A with
 |vw _ _ _ _ c ad hvw=>
  have B:Nat.min q2 q=min q2 q:=rfl
  by_cases hz:min q2 q=0
  · --nothing to copy
   have hf:(Builtin.firstCells i0.size 0<|.slice I q2 c2).run X.P w=.ok #[] w:=by cases I<;>simp[Builtin.firstCells,loadCells,loadCellsFrom]
   have hnil:((l.drop lo2).take q2).take q=[]:=de1<|by rw[cV5,J,Nat.min_comm];exact hz
   refine fin w ?_ ?_
   ·cases ad<;>simp[Builtin.copy_,run_underlying k,Builtin.lenOf,sizeOf,typeInfo,Z,hf,goInt,B,hz,storeCells]
   ·rw[hnil]
    have:cZ (l.map enc) lo (List.map enc [])=l.map enc:=by simp[cZ]
    rw[this]
    exact hk.aM4 hb
  ·have hq0:0<q2:=by omega
   obtain⟨C,aX2,rfl,hal,hac,hon,har⟩:=g hq0
   rcases hvw with hvw|⟨β,m',cap,hE,rfl⟩
   ·omega
   ·have D:min q2 q*f.size<=q2*f.size:=cW8 _<|Nat.min_le_left _ _
    have O:(Builtin.firstCells i0.size (min q2 q)<|.slice (some C) q2 c2).run X.P w=.ok (aX2.take<|min q2 q*f.size).toArray w:=by
     have:=run_loadCells_list (P:=X.P) w C (aX2.take<|min q2 q*f.size) λj u k=>by
      rw[db5]at k
      split at k
      ·exact hac j u k
      ·cases k
     rw[cV5,hal,cP6 D]at this
     simp[Builtin.firstCells,hs0,this]
    have b:((((l.drop lo2).take q2).take q).map enc).length=min q2 q:=by rw[cW2,cV5,J,Nat.min_comm]
    obtain⟨w',hst,M⟩:=hk.putAt (P:=X.P) (lo:=lo) (r2:=(((l.drop lo2).take q2).take q).map enc) (news:=aX2.take<|min q2 q*f.size) hb hE (by rw[b];simp;omega) (by rw[cV5,hal,b];exact cP6 D) (λu k=>hon u<|cL4 k)
     λr hr=>by obtain⟨z,_,rfl⟩:=cX3.1 hr;exact U z
     λi j hi hj hbb=>by
      rw[b]at hi
      have hi2:i<(((l.map enc).drop lo2).take q2).length:=by rw[e0,cW2,J];omega
      have eg:((((l.drop lo2).take q2).take q).map enc)[i]'(by rw[b];exact hi)=(((l.map enc).drop lo2).take q2)[i]:=by
       simp[dd0,cY2]
      have hj2:j<(((l.map enc).drop lo2).take q2)[i].length:=by rw[<-eg];exact hj
      have hb3:i*f.size+j<aX2.length:=by rw[cV5]at hbb;omega
      have:=har i j hi2 hj2 hb3
      simp only[eg]
      rw[dd0]
      exact this
    refine fin w' ?_ M
    simp[Builtin.copy_,run_underlying k,Builtin.lenOf,sizeOf,typeInfo,Z,B,O,goInt,hst]
def o0.bM7 {t e e' n s0 id lo q:Nat}{z0:List Value}{b:TI}{x:Operand}{l:List α}{enc:α->List Tree}{σ₁:St}{hc:Prop}(z:α)(h1:hc)(R:hc->lo+q<=l.length)(ho:o.op=.call ⟨.builtin .clear,#[x],#[t]⟩)(f:R8 all.toList tm o.guard=some true)(Z:look X.tab t=some ⟨s0,.slice e',z0⟩)(hte:look X.tab e'=some b)(hz:b.zero.length=b.size)(g:Y3 0 b.size=true)(B:b.zero.all Value.oneCell'=true)(p:enc z=b.zero.map λv=>jm<|.v v)(hx:val tm x=some (.vw id lo q b.size))(hb:look hp id=some (.rows e b.size n<|l.map enc))(aT:Gb X.nt o.dst (.Z9 []) ⟨tm,aT hp id<|.rows e b.size (cZ l lo<|cI5 q z).length<|(cZ l lo<|cI5 q z).map enc⟩=some σ₁)(h:o0 X all rest ks σ₁ m Q):o0 X all (o::rest) ks ⟨tm,hp⟩ m Q:=λy hy a w ⟨S,E,hk⟩=>by
 have R:=R h1;obtain⟨dd,T,ho2⟩:∃d,X.P.underlying t=some d/\TD.ok X.P (.slice e') d:=by obtain⟨i,d,_,_,T,hdd,_⟩:=X.C8 t _ Z;grind
 subst ho2;have hn:n=l.length:=by have:=(hk.hp id _ hb).1;grind
 subst hn;have s:=hk.val hx;have hcl:(cZ l lo<|cI5 q z).length=l.length:=HE gq;rw[hcl]at aT;have e1:(cZ l lo<|cI5 q z).map enc=cZ (l.map enc) lo ((cI5 q z).map enc):=by simp[cZ,List.map_take,List.map_drop]
 rw[e1]at aT;generalize hse:a.eval x=sv at s;have fin:∀w',(Builtin.clear_ #[t] o.type #[sv]).run X.P w=.ok (.tuple #[]) w'->Ok X.w0 X.L X.nt ⟨tm,Go.Pv.aT hp id<|.rows e b.size l.length<|cZ (l.map enc) lo<|(cI5 q z).map enc⟩ S E a w'->wpList X.P all (after X.P ks<|X.post<|Q y) (o::rest) a w:=λw' hr C=>by
  refine wpList_step λK hK=>?_;rw[I3 hk f,if_pos rfl];unfold Oper.wp;have D:(execOp a.eval o).run X.P w=.ok (.value<|.tuple #[]) w':=by unfold execOp;simp only[ho,resolve,invoke,builtin,cV1,cW0,OF,cZ9,ew,db6,hse,hr]
  rw[D];exact hK _ _<|h y hy _ _ ⟨S,E,Ho C (.Z9 [] [] rfl λj h1=>by simp) aT⟩
 cases s with|vw _ _ _ _ c ad I=>
  by_cases hq:q=0;subst hq;refine fin w ?_ ?_;cases ad<;>simp[Builtin.clear_,run_underlying T];have:cZ (l.map enc) lo (List.map enc<|cI5 0 z)=l.map enc:=by simp[cZ]
  rw[this];exact hk.aM4 hb;rcases I with I|⟨β,m',cap,hE,rfl⟩;exact absurd I hq;obtain⟨zv,hzr,U⟩:=(X.C8 e' _ hte).NN w;have hzl:zv.cells.size=b.size:=by rw[<-hz,<-U];simp
  have J:(Builtin.zeroCells zv.cells q).toList=yn q b.zero:=by unfold Builtin.zeroCells;rw[aV0 q zv.cells<|by rw[hzl];exact dc7 cR6<|cU8 g,U]
  have A:(yn q b.zero).length=q*b.size:=by rw[ES,hz]
  have hp0:0<b.zero.length:=by rw[hz];exact cU8 g
  obtain⟨w',hst,C⟩:=hk.putAt (P:=X.P) (lo:=lo) (r2:=(cI5 q z).map enc) (news:=yn q b.zero) hb hE (by simp;omega) (by rw[A];simp) (λu T=>by
    obtain⟨k,M,rfl⟩:=Kz.1 T;have N:k<q*b.zero.length:=by rw[ES]at M;exact M
    have f:=OM b.zero hp0 q k N;rw[IN M]at f;have:=bX3 f.symm;exact cV2.1 B _ this) λr hr=>by obtain⟨y,hy,rfl⟩:=cX3.1 hr;rw[List.eq_of_mem_replicate hy,p,cW2,hz] (λi j hi hj O=>by
    have eg:((cI5 q z).map enc)[i]=b.zero.map λv=>jm<|.v v:=by simp[p]
    have V:j<b.size:=by rw[eg,cW2,hz]at hj;exact hj
    have N:i*b.size+j<q*b.zero.length:=by rw[hz];rw[A]at O;exact O
    have f:=OM b.zero hp0 q (i*b.size+j) N;rw[IN O]at f;have W:(i*b.size+j)%b.zero.length=j:=by rw[hz,dd3,cR5,cZ2 V]
    rw[W,IN<|by rw[hz];exact V]at f;have e2:=oa f;simp only[eg];rw[e2,cX7];exact xC<|.v _);refine fin w' ?_ C;simp only[Builtin.clear_,run_underlying T,cV1,OF,da9,cY1,hzr,J,hst,cW0]
end
section
variable {X:Cx}{ops:Array Oper}{fe fuel:Nat}{le l l':List Bool}{σ':St}{o:Oper}
end
section
variable {ρ:Type}{X:Cx}{ks:List K}{σ:St}{m:Option ρ}{Q:ρ->Exit->St->Prop}
def PK {P:Program}{Q:Exit->Act->World->Prop}{l:Nat}{a:Act}{w:World}:∀(ks:List K),after P ks Q (.goto l) a w->Q (.goto l) a w|[],h=>h|.c _::ks,h=>PK ks h|.e _::ks,h=>PK ks h
def w6.scope {x:Code}(g:∀r l σ,¬Q r (.goto l) σ)(h:w6 X (.c x::ks) σ m Q):w6 X (.c (.scope x)::ks) σ m Q:=λr d a w f=>by refine wp_scope_straight<|wp_mono (h r d a w f) ?_;intro e a w b;cases e with|goto l=>obtain⟨σ,_,i⟩:=PK ks b;grind|_=>exact b
def w6.label {l:Nat}(h:w6 X ks σ m Q):w6 X (.c (.label l)::ks) σ m Q:=λr b a w d=>wp_label<|h r b a w d
end
def bm:Nat->Nat->List Bool|0,_=>[]|n+1,k=>cV4 (k%2) 1::bm n (k/2)
abbrev ck.rs {α:Type}(e sz:Nat)(l:List α)(enc:α->List Tree):ck:=.rows e sz l.length<|l.map enc
section
variable {X:Cx}{ops:Array Oper}{fe fuel:Nat}{le l:List Bool}{σ σ₁ σ₂ σ':St}{o:Oper}
def oV.cr7 {i:Nat}{rs:List Nat}(l':List Bool)(m:ops[i]?=some o)(p:l.set i true=l')(q:o0 X ops [o] [] σ (some ()) λ_ e c=>e=.normal/\c=σ₁)(s:cm X ops fe le fuel l' σ₁ σ')(t:oV X ops fe le fuel l σ σ' rs):oV X ops fe le fuel l σ σ'<|i::rs:=λj d Q hp g a w k=>by
 rcases cV6.1 d with rfl|d
 ·have h:=q () rfl a w k;unfold wpOp;simp only[m];have next:∀a w,wpList X.P ops (after X.P []<|X.post λe c=>e=.normal/\c=σ₁) [] a w->wpAny X.P .any ops Q fuel (l.toArray.setIfInBounds j true) a w:=λa w ⟨c,u,_,e⟩=>by rw[de4,p];subst e;exact s Q hp g a w u
  unfold wpList at h;split at h
  ·rename_i f;rw[if_pos f];rcases h with h|⟨h1,v⟩;·refine .inl ?_;revert h;unfold Oper.wp;generalize(execOp a.eval o).run X.P w=r;intro h;cases r with
    |ok n w'=>cases n<;>simp only[Oper.upon]at h|-;all_goals first|exact next _ _ h|exact Calls.mono h (λe y b=>by cases e<;>first|exact next _ _ b|obtain⟨_,_,_,_,b,_⟩:=b;cases b|obtain⟨_,_,b,_⟩:=b;cases b)|exact Rows.mono h λ_ _ b=>next _ _ b|cases b|exact h
    |halt x w'=>cases x<;>simp at h|-<;>first|exact h|obtain⟨_,_,b,_⟩:=h;cases b
   ·obtain⟨_,_,_,_,b,_⟩:=v;cases b
  ·rename_i f;rw[if_neg f];exact next _ _ h
 ·exact t j d Q hp g a w k
theorem oV.run {i:Nat}{rs:List Nat}(l':List Bool)(a:ops[i]?=some o)(b:l.set i true=l')(c:KY X.tab X.nt ops.toList 1 [o] σ=([],σ₁))(d:cm X ops fe le fuel l' σ₁ σ')(e:oV X ops fe le fuel l σ σ' rs):oV X ops fe le fuel l σ σ'<|i::rs:=oV.cr7 l' a b (o0.run 1 c<|.nil<|.leaf ⟨rfl,rfl⟩) d e
def oV.bp8 {i:Nat}{rs:List Nat}(l':List Bool)(a:ops[i]?=some o)(b:l.set i true=l')(c:KY X.tab X.nt ops.toList 1 [o] σ=([],σ₂))(d:Sub σ₁ σ₂)(e:cm X ops fe le fuel l' σ₁ σ')(f:oV X ops fe le fuel l σ σ' rs):oV X ops fe le fuel l σ σ'<|i::rs:=oV.cons l' a b (o0.run 1 c<|.nil<|.leaf ⟨rfl,d⟩) e f
def okA (nt:Nat)(ops:Array Oper)(l:List Bool)(i d:Nat)(o:Oper):Bool:=Y3 d nt&&o.guard.isNone&&Region.noSelect ops&&Region.free .any ops l.toArray i&&(Region.ready .any ops l.toArray).contains i
def cz5 {nt i d:Nat}(h:okA nt ops l i d o=true):Y3 d nt=true/\o.guard=none/\Region.noSelect ops=true/\Region.free .any ops l.toArray i=true/\(Region.ready .any ops l.toArray).contains i=true:=by unfold okA at h;simp only[BY,cR7]at h;exact⟨h.1.1.1.1,h.1.1.1.2,h.1.1.2,h.1.2,h.2⟩
end
def Rd {α:Type}(s:Sem α):Prop:=∀P w r w',s.run P w=.ok r w'->w'=w
theorem oM {α:Type}(x:α):Rd (pure x:Sem α):=λP w r w' h=>by simp_all
def BV {α:Type}(x:Halt):Rd (Sem.halt x:Sem α):=λP w r w' h=>by simp_all
theorem oL {α β:Type}{s:Sem α}{f:α->Sem β}(h:Rd s)(k:∀x,Rd<|f x):Rd<|s>>=f:=λP w r w' e=>by rw[cV1]at e;cases b:s.run P w with|ok x a=>rw[b]at e;have:=h P w x a b;subst this;exact k x P a r w' e|halt x a=>simp_all
theorem bp4 (a:Addr)(m:Mode):Rd<|load a m:=λP w r w' h=>by grind [load,Sem.run]
def ZA:Rd program:=λP w r w' h=>by simp_all
theorem HX (t:TypeId):Rd<|underlying t:=by refine oL ZA λp=>?_;split;exact oM _;exact BV _
theorem bV9 (t:TypeId):Rd<|isAgg t:=by grind [isAgg,oL,HX,oM]
theorem ap7 (t:TypeId):Rd<|sizeOf t:=by refine oL (oL ZA λp=>?_) λi=>oM _;split;exact oM _;exact BV _
theorem aR2 (a:Addr):∀(n i:Nat)(b:Array Value),Rd<|loadCellsFrom a i n b|0,i,b=>by simp[loadCellsFrom,oM]|n+1,i,b=>by exact oL (bp4 _ _) λv=>aR2 a n (i+1) _
def bA7 (t:TypeId)(v:Value):Rd<|Instr.loadAt t v:=by refine oL ?_ λa=>?_;unfold Instr.sureAddr;split;exact oM _;exact BV _;grind [loadVar,oL,bV9,ap7,oM,loadCells,aR2,bp4]
def bf2 (v:Value)(k:Nat):Rd<|Instr.extract v k:=by unfold Instr.extract;split;split;exact oM _;exact BV _;exact BV _
def bA6 {α:Type}(k:IntKind)(x y:Int)(c:BoundsCode):Rd (boundsPanic k x y c:Sem α):=λP w r w' e=>by
 exfalso;have key:∀b w r w',(runtimePanic<|.bounds (IntKind.i64.wrap x) y b c:Sem α).run P w≠.ok r w':=λb w r w' h=>by simp_all[runtimePanic]
 unfold boundsPanic at e;split at e<;>·rw[cV1]at e;revert e;generalize Sem.run P _ w=q;intro e;cases q with|ok b a=>exact key b a r w' e|halt p a=>cases e
def bV7 (v:Value):Rd<|asIntOf v:=by unfold asIntOf;split;exact oM _;exact BV _;exact BV _
def cn2 (v:Value):Rd<|Instr.sureAddr v:=by unfold Instr.sureAddr;split;exact oM _;exact BV _
def bV8 (t:TypeId)(x ix:Value):Rd<|Instr.indexAt t x ix:=by
 refine oL (bV7 _) λp=>oL (HX t) λd=>?_;have key:∀q:Option Addr×Nat×TypeId,Rd (match q with|(base,len,b)=>do let d<-underlying t;let c:=len<=1&&match d with|.array ..=>true|_=>false;match base with|some a=>if 0<=p.2/\p.2<len then pure<|Value.pointer<|some<|a.add<|p.2.toNat*(<-sizeOf b);else if c then unsupported<|.noEntry "op/indexAddr.an index out of range at an array of length 0 or 1 (ledger 616)";else boundsPanic p.1 p.2 len .index|none=>boundsPanic p.1 p.2 0 .index):=λ(base,len,b)=>by
  dsimp;refine oL (HX t) λd=>?_;repeat' split
  all_goals first|exact oL (ap7 _) λn=>oM _|exact BV _|exact bA6 _ _ _ _
 split;·exact oL (cn2 _) λa=>oL (oM _) λq=>key q
 ·exact oL (oM _) λq=>key q
 ·exact oL (BV _) λq=>key q
def Vp:Op->Bool|.move _|.assign _|.load ..|.extract ..|.indexAddr ..=>true|_=>false
theorem bm6 {P:Program}{o:Oper}(h:Vp o.op=true)(ρ:Operand->Value)(w:World)(n:Next)(w':World)(e:(execOp ρ o).run P w=.ok n w'):w'=w/\∃u,n=.value u:=by
 have key:∀s:Sem Value,Rd s->(execOp ρ o).run P w=(s>>=λv=>pure<|Next.value v).run P w->w'=w/\∃u,n=.value u:=by intro s b c;rw[c,cV1]at e;cases d:s.run P w with|ok x a=>have h1:=b P w x a d;grind [OF,cW0]|halt x a=>simp_all
 obtain⟨dst,f,type,pos,g,guard⟩:=o;cases f<;>simp[Vp,cX5]at h;case move x=>exact key (pure<|ρ x) (oM _)<|by rfl
 case assign x=>exact key (pure<|ρ x) (oM _)<|by rfl
 case load t x=>exact key (Instr.loadAt t<|ρ x) (bA7 _ _) rfl
 case extract x k=>exact key (Instr.extract (ρ x) k) (bf2 _ _) rfl
 case indexAddr t x ix=>exact key (Instr.indexAt t (ρ x)<|ρ ix) (bV8 _ _ _) rfl
section
variable {P:Program}{ops:Array Oper}{Q:Exit->Act->World->Prop}{md:Region.Mode}{S:World->Prop}
def bE6 {j:Nat}{b:Oper}(d:ops[j]?=some b)(e:Vp b.op=true){K:Act->World->Prop}{a:Act}{w:World}(f:S w)(h:wpOp P ops Q j K a w):wpOp P ops Q j (λg w'=>S w'/\K g w') a w:=by
 unfold wpOp at*;simp[d]at*;split;rename_i i;rw[if_pos i]at h;refine h.imp (λh=>?_) id;unfold Oper.wp at*;cases c:(execOp a.eval b).run P w with|ok n w'=>rw[c]at h;obtain⟨e1,u,e2⟩:=bm6 e a.eval w n w' c;subst e1;subst e2;exact⟨f,h⟩|halt x w'=>rw[c]at h;cases x<;>simp[Oper.upon]at h|-<;>exact h
 grind
def bi5 {i:Nat}{t:Oper}{v:Value}(hi:ops[i]?=some t)(r:∀(j:Nat)(o:Oper)cs b,ops[j]?=some o->o.op≠.select cs b)(N:∀c a w,Q (.panic c) (a.put t.dst v) w->Q (.panic c) a w)(W:Nat->Bool):∀(fuel:Nat)(o5:Array Bool)(a:Act)(w:World),(∀j,W j=true->o5.getD j true=false/\∃l,ops[j]?=some l/\∃e∈l.after,Region.binds md e=true/\(e.on=i\/W e.on=true))->(∀j l,ops[j]?=some l->j≠i->o5.getD j true=false->W j=false->t.apart ops l=true/\Vp l.op=true)->i∈Region.ready md ops o5->YieldsIf P ops S t v a->S w->wpAny P md ops Q fuel (o5.setIfInBounds i true) (a.put t.dst v) w->wpAny P md ops Q (fuel+1) o5 a w:=by
 have C:∀(o5:Array Bool)(j:Nat),(∀j,W j=true->o5.getD j true=false/\∃l,ops[j]?=some l/\∃e∈l.after,Region.binds md e=true/\(e.on=i\/W e.on=true))->i∈Region.ready md ops o5->j∈Region.ready md ops o5->W j=false:=by grind [mem_ready]
 intro fuel;induction fuel with|zero=>intro o5 a w D g x A B d;refine⟨λh=>gq,λj y=>?_⟩;by_cases f:j=i;subst f;exact A.wpOp hi B d;have:=ready_mono y f;rw[d.1]at this;cases this|succ fuel O=>
  intro o5 a w D g x A B d;refine⟨λh=>(by rw[h]at x;cases x),λj y=>?_⟩;by_cases f:j=i;subst f;exact A.wpOp hi B d;have h1:=d.2 j<|ready_mono y f;have m:=C o5 j D x y;obtain⟨s,l,n,M⟩:=mem_ready.1 y;obtain⟨E,u⟩:=g j l n f s m;have R:=bE6 n u B<|wpOp_putIf n E (λcs b=>r i t cs b hi) (λcs b=>r j l cs b n) N A h1;have I:∀k,W k=true->(o5.setIfInBounds j true).getD k true=false/\∃ok,ops[k]?=some ok/\∃e∈ok.after,Region.binds md e=true/\(e.on=i\/W e.on=true):=λk hk=>by
   obtain⟨T,U⟩:=D k hk;have p:j≠k:=λh=>by rw[h]at m;rw[hk]at m;cases m
   exact⟨by rw[getD_set_ne true p];exact T,U⟩
  have q:∀k ok,ops[k]?=some ok->k≠i->(o5.setIfInBounds j true).getD k true=false->W k=false->t.apart ops ok=true/\Vp ok.op=true:=λk ok hk J z K=>by refine g k ok hk J ?_ K;by_cases p:j=k;subst p;exact s;rw[getD_set_ne true p]at z;exact z
  refine wpOp_mono (λV w' L=>O (o5.setIfInBounds j true) V w' I q (ready_mono x<|Ne.symm f) L.2.1 L.1 ?_) R;rw[Array.setIfInBounds_comm _ _ f];exact L.2.2
end
def okW (ops:Array Oper)(l W:List Bool)(i:Nat)(b:Oper):Bool:=(MY ops.size).all λj=>bif W.getD j false then !l.getD j true&&match ops[j]?with|some a=>a.after.any λe=>Region.binds .any e&&(e.on==i||W.getD e.on false)|none=>false else j==i||l.getD j true||match ops[j]?with|some a=>b.apart ops a&&Vp a.op|none=>true
def okL (nt:Nat)(ops:Array Oper)(l W:List Bool)(i d:Nat)(o:Oper):Bool:=Y3 d nt&&o.guard.isNone&&Region.noSelect ops&&okW ops l W i o&&(Region.ready .any ops l.toArray).contains i&&dc6 W.length ops.size
def ap8:Op->Bool|.move _|.assign _|.load ..|.extract ..=>true|_=>false
def bw6 {o:Op}(h:ap8 o=true):Vp o=true:=by cases o<;>simp_all[ap8,Vp]
def bo6:Op->Bool|.move _|.assign _|.fieldAddr ..|.nilCheck _|.extract ..=>true|_=>false
def ca4 (nt:Nat)(ops:Array Oper)(l:List Bool)(i k:Nat)(o:Oper):Bool:=match o.dst with|some d=>bif cV4 k 0 then bo6 o.op&&okA nt ops l i d o else ap8 o.op&&okL nt ops l (bm ops.size<|k/2) i d o|none=>false
def bM5 (nt:Nat)(ops:Array Oper):List (Nat×Nat)->List Bool->Bool|[],_=>true|(i,k)::r,l=>(match ops[i]?with|some o=>ca4 nt ops l i k o|none=>false)&&bM5 nt ops r (l.set i true)
def YU:List (Nat×Nat)->List Bool->List Bool|[],l=>l|(i,_)::r,l=>YU r<|l.set i true
def evA (tab:vH)(ops:Array Oper):List (Nat×Nat)->J4->F1->Option J4|[],tm,_=>some tm|(i,_)::r,tm,hp=>match ops[i]?with
  |some o=>match o.dst with
   |some d=>match evalOp tab ⟨tm,hp⟩ o with|some (t,_)=>evA tab ops r ((d,t)::tm) hp|none=>none
   |none=>none
  |none=>none
section
variable {X:Cx}{ops:Array Oper}{fe fuel:Nat}{le l:List Bool}{σ':St}{o:Oper}
def aQ7 {t:T}{tm:J4}{hp:F1}{s2:St}(D:bo6 o.op=true)(d:evalOp X.tab ⟨tm,hp⟩ o=some (t,s2)):∀S E a w,Ok X.w0 X.L X.nt ⟨tm,hp⟩ S E a w->∃v,(∀w',(execOp a.eval o).run X.P w'=.ok (.value v) w')/\RV w S E v t:=by
 intro S E a w hk;rw[sV]at d;obtain⟨dst,I,type,pos,q,guard⟩:=o;cases I<;>simp only[bo6,cX5]at D<;>simp only[Bw]at d;case move x=>exact⟨_,λw'=>rfl,hk.val (H0 d).1⟩
 case assign x=>exact⟨_,λw'=>rfl,hk.val (H0 d).1⟩
 case fieldAddr s x f=>
  split at d<;>try cases d;done
  ·rename_i id off sz A z hx g;split at d<;>try cases d;done
   rename_i p n e;cases d;obtain⟨β,c,m⟩:=(hk.val hx).KS;exact⟨_,λw'=>by simp[execOp,c,sW (X.C8 s _ g) e β off rfl],.ptr id _ β m⟩
  ·rename_i cells sz A z hx g;split at d<;>try cases d;done
   rename_i p n e;cases d;have h:=hk.val hx;obtain⟨b,o',c⟩:=h.Qn;rw[c]at h;exact⟨_,λw'=>by simp[execOp,c,sW (X.C8 s _ g) e b o' rfl],h.WS p⟩
  ·rename_i id k sz' off sz A z hx g;split at d<;>try cases d;done
   rename_i p n e;cases d;have h:=hk.val hx;generalize c:a.eval x=J at h;cases h with|pe _ _ _ _ β B j m=>exact⟨.pointer<|some ⟨β,k*sz'+off+p,none⟩,λw'=>by simp[execOp,c,sW (X.C8 s _ g) e β _ rfl],by rw[cD6];exact .pe id k sz' (off+p) β B j m⟩
 case nilCheck x=>
  have h:∀y,val tm x=some y->(∃b o',a.eval x=.pointer (some ⟨b,o',none⟩))->y=t->∃v,(∀w',(execOp a.eval (⟨dst,.nilCheck x,type,pos,q,guard⟩:Oper)).run X.P w'=.ok (.value v) w')/\RV w S E v t:=by intro y hx ⟨b,o',c⟩K;subst K;exact⟨_,λw'=>by simp_all[execOp],c▸hk.val hx⟩
  split at d<;>try cases d;done
  ·rename_i id off hx;cases d;obtain⟨β,c,_⟩:=(hk.val hx).KS;simp_all
  ·rename_i cells hx;obtain⟨b,o',c⟩:=(hk.val hx).Qn;simp_all
  ·rename_i id i sz off hx;cases d;have C:=hk.val hx;generalize c:a.eval x=J at C;cases C with|pe _ _ _ _ β B j m=>simp_all
 case extract x k=>
  split at d<;>try cases d;done
  rename_i l hx;obtain⟨r,_⟩:=H0 d;have h:=hk.val hx;cases u:a.eval x<;>rw[u]at h<;>try cases h;done
  cases h with|Z9 vs _ N O=>obtain⟨M,rfl⟩:=No.1 r;simp_all[execOp,Instr.extract]
theorem bw7 {t:T}{tm:J4}{hp:F1}{s2:St}(b:ap8 o.op=true)(a:evalOp X.tab ⟨tm,hp⟩ o=some (t,s2)):s2=⟨tm,hp⟩:=by
 rw[sV]at a;obtain⟨dst,c,type,pos,d,guard⟩:=o;cases c<;>simp[ap8,cX5]at b<;>simp only[Bw]at a;case move x=>exact(H0 a).2
 case assign x=>exact(H0 a).2
 case load t x=>
  split at a<;>try cases a
  ·split at a<;>try cases a
   exact(H0 a).2
  ·exact(H0 a).2
 grind
theorem cm.late {d:Nat}{t:T}{tm:J4}{hp:F1}{s2:St}(i:Nat)(W:List Bool)(J:ops[i]?=some o)(K:o.dst=some d)(hh:ap8 o.op=true)(r:okL X.nt ops l W i d o=true)(D:evalOp X.tab ⟨tm,hp⟩ o=some (t,s2))(h:cm X ops fe le fuel (l.set i true) ⟨(d,t)::tm,hp⟩ σ'):cm X ops fe le (fuel+1) l ⟨tm,hp⟩ σ':=λQ n L a w ⟨S,E,hk⟩=>by
 unfold okL at r;simp only[BY,cR7]at r;obtain⟨⟨⟨⟨⟨s,M⟩,N⟩,q⟩,V⟩,u⟩:=r;obtain⟨v,w',E',g,p,O⟩:=ID X.C8 hk D;rw[bw7 hh D]at p;replace hh:=bw6 hh;have b:(execOp a.eval o).run X.P w=.ok (.value v) w/\w'=w:=by rcases g with g|⟨g,_⟩;all_goals grind [bm6]
 obtain⟨b,rfl⟩:=b;unfold okW at q;rw[cV2]at q;refine bi5 J (Region.noSelect_spec N) (λc a w R=>absurd R<|n _ _ _) (λj=>W.getD j false) fuel l.toArray a w' (λj x=>?_) (λj I f y A B=>?_) gq (v:=v) (.inl ⟨?_,λz hz=>?_⟩) rfl ?_
 ·have k:j<ops.size:=by
   have h1:j<W.length:=by
    rcases Nat.lt_or_ge j W.length with h|h;·exact h
    ·rw[db9,List.getElem?_eq_none h]at x;cases x
   have:=cU8 u;omega
  have:=q j<|cD9.2 k;simp only[x,cT9,BY]at this;obtain⟨U,t2⟩:=this;refine⟨?_,?_⟩;·simpa using U
  ·cases f:ops[j]?with|none=>rw[f]at t2;cases t2|some I=>rw[f]at t2;obtain⟨e,C,m⟩:=Array.any_eq_true'.1 t2;simp[BY,bh7]at m;exact⟨I,rfl,e,C,m.1,m.2⟩
 ·have k:j<ops.size:=(cL9.1 f).1;have:=q j<|cD9.2 k;rw[B]at this;simp only[cT8,bh7,beq_iff_eq]at this;rcases this with(h1|h1)|h1;·exact absurd h1 y
  ·rw[db9]at h1;have:l[j]?.getD true=false:=by simpa using A
   rw[h1]at this;cases this
  ·rw[f]at h1;simpa using h1
 ·unfold Region.wanted;rw[M]
 ·subst hz;exact b
 ·rw[de4];exact h Q n L _ _ ⟨S,E',by rw[K];exact p.put (cU8 s) O⟩
def cm.goN:∀(is:List<|Nat×Nat){fuel:Nat}{l:List Bool}{tm tm':J4}{hp:F1},bM5 X.nt ops is l=true->evA X.tab ops is tm hp=some tm'->cm X ops fe le fuel (YU is l) ⟨tm',hp⟩ σ'->cm X ops fe le (fuel+is.length) l ⟨tm,hp⟩ σ'|[],fuel,l,tm,tm',hp,_,a,h=>by cases a;exact h|(i,k)::r,fuel,l,tm,tm',hp,b,a,h=>by unfold bM5 at b;unfold evA at a;rw[BY]at b;obtain⟨h1,g⟩:=b;cases c:ops[i]?with|none=>grind|some o=>rw[c]at h1 a;simp at h1 a;unfold ca4 at h1;cases e:o.dst with|none=>grind|some d=>rw[e]at h1 a;cases f:evalOp X.tab ⟨tm,hp⟩ o with|none=>grind|some q=>rw[f]at a;have j:=cm.goN r g a h;rw[cU9];cases hk:cV4 k 0<;>rw[hk]at h1;grind [cm.late];simp[BY]at h1;have k:=cz5 h1.2;exact cm.cK6 i _ c rfl e k.1 k.2.1 k.2.2.1 k.2.2.2.1 k.2.2.2.2 (aQ7 h1.1 f) j
def cm.go {n:Nat}{tm tm':J4}{hp:F1}(fuel:Nat)(is:List<|Nat×Nat)(a:fuel+is.length=n)(b:bM5 X.nt ops is l=true)(c:evA X.tab ops is tm hp=some tm')(h:cm X ops fe le fuel (YU is l) ⟨tm',hp⟩ σ'):cm X ops fe le n l ⟨tm,hp⟩ σ':=a▸cm.goN is b c h
theorem cm.one {σ σ₁:St}(i:Nat)(b:ops[i]?=some o)(c:Region.ready .any ops l.toArray=[i])(d:o0 X ops [o] [] σ (some ()) λ_ e a=>e=.normal/\a=σ₁)(f:cm X ops fe le fuel (l.set i true) σ₁ σ'):cm X ops fe le (fuel+1) l σ σ':=cm.all [i] c rfl<|oV.cr7 _ b rfl d f oV.nil
def cm.cO6 {σ σ₁:St}(i:Nat)(a:ops[i]?=some o)(b:Region.ready .any ops l.toArray=[i])(c:KY X.tab X.nt ops.toList 1 [o] σ=([],σ₁))(d:cm X ops fe le fuel (l.set i true) σ₁ σ'):cm X ops fe le (fuel+1) l σ σ':=cm.one i a b (o0.run 1 c<|.nil<|.leaf ⟨rfl,rfl⟩) d
end
section
variable {ρ α:Type}{X:Cx}{ks:List K}{tm:J4}{hp:F1}{Q:ρ->Exit->St->Prop}{all:Array Oper}{o:Oper}{rest:List Oper}
end
abbrev NI (x:Int):T:=.t<|Y x
abbrev NB (x:Bool):T:=.t<|tB x
abbrev NS {α:Type}(e:α->List Tree)(l:List α):T:=.t<|tS e l
abbrev NP (n:Nat):Nat×T:=(n,.ptr n 0)
inductive Cf where|S (ks:List K)(σ:St)|O (all:Array Oper)(ops:List Oper)(ks:List K)(σ:St)
def adv (tab:vH)(nt:Nat):Nat->Cf->Cf
 |0,c=>c|n+1,.S (.c (.seq x y)::ks) σ=>adv tab nt n<|.S (.c x::.c y::ks) σ|n+1,.S (.c .skip::ks) σ=>adv tab nt n<|.S ks σ|n+1,.S (.c (.block id x)::ks) σ=>adv tab nt n<|.S (.c x::.e id::ks) σ|n+1,.S (.e _::ks) σ=>adv tab nt n<|.S ks σ|n+1,.S (.c (.region _ ops false)::ks) σ=>adv tab nt n<|.O ops ops.toList ks σ|n+1,.O _ [] ks σ=>adv tab nt n<|.S ks σ|n+1,.O all (o::r) ks σ=>match KY tab nt all.toList 1 (o::r) σ with|(ops,σ')=>adv tab nt n<|.O all ops ks σ'
 |_+1,c=>c
section
variable {ρ τ:Type}{X:Cx}{ks ks':List K}{σ σ':St}{m:Option ρ}{Q:ρ->Exit->St->Prop}{all all':Array Oper}{ops Sz:List Oper}
def cF1 {ρ:Type}(X:Cx)(c:Cf)(m:Option ρ)(Q:ρ->Exit->St->Prop):Prop:=match c with|.S ks σ=>w6 X ks σ m Q|.O all ops ks σ=>o0 X all ops ks σ m Q
def Jy:∀(n:Nat)(c:Cf),cF1 X (adv X.tab X.nt n c) m Q->cF1 X c m Q:=by intro n;induction n with|zero=>intro c h;exact h|succ n a=>intro c h;unfold adv at h;split at h;cases‹_=_›;rename_i e;cases e;exact w6.seq<|a _ h;rename_i e;cases e;exact w6.skip<|a _ h;rename_i e;cases e;exact w6.block<|a _ h;rename_i e;cases e;exact w6.cG7<|a _ h;rename_i e;cases e;exact w6.region<|a _ h;rename_i e;cases e;exact o0.nil<|a _ h;rename_i all o r ks σ e;cases e;split at h;rename_i b;exact o0.run 1 b<|a _ h;exact h
theorem w6.o (n:Nat)(a:adv X.tab X.nt n (.S ks σ)=.O all ops ks' σ')(h:o0 X all ops ks' σ' m Q):w6 X ks σ m Q:=Jy n (.S ks σ)<|by rw[a];exact h
theorem w6.s (n:Nat)(a:adv X.tab X.nt n (.S ks σ)=.S ks' σ')(h:w6 X ks' σ' m Q):w6 X ks σ m Q:=Jy n (.S ks σ)<|by rw[a];exact h
theorem o0.o (n:Nat)(a:adv X.tab X.nt n (.O all ops ks σ)=.O all' Sz ks' σ')(h:o0 X all' Sz ks' σ' m Q):o0 X all ops ks σ m Q:=Jy n (.O all ops ks σ)<|by rw[a];exact h
theorem o0.s (n:Nat)(a:adv X.tab X.nt n (.O all ops ks σ)=.S ks' σ')(h:w6 X ks' σ' m Q):o0 X all ops ks σ m Q:=Jy n (.O all ops ks σ)<|by rw[a];exact h
theorem w6.l {r:ρ}(n:Nat)(a:adv X.tab X.nt n (.S ks σ)=.S [] σ')(h:Q r .normal σ'):w6 X ks σ (some r) Q:=w6.s n a<|.leaf h
theorem o0.l {r:ρ}(n:Nat)(a:adv X.tab X.nt n (.O all ops ks σ)=.S [] σ')(h:Q r .normal σ'):o0 X all ops ks σ (some r) Q:=o0.s n a<|.leaf h
theorem w6.r {r:ρ}(n:Nat)(a:adv X.tab X.nt n (.S ks σ)=.S (.c .ret::ks') σ')(h:Q r .ret σ'):w6 X ks σ (some r) Q:=w6.s n a<|.ret h
theorem o0.r {r:ρ}(n:Nat)(a:adv X.tab X.nt n (.O all ops ks σ)=.S (.c .ret::ks') σ')(h:Q r .ret σ'):o0 X all ops ks σ (some r) Q:=o0.s n a<|.ret h
abbrev nrm {τ:Type}(f:τ->St):τ->Exit->St->Prop:=λt e σ'=>e=.normal/\Sub (f t) σ'
def lf {e:Exit}{σ₁:St}(a:σ₁.tm.map (aN6 σ.tm)=σ₁.tm.map λp=>some p.2)(b:σ₁.hp.map (IX σ.hp)=σ₁.hp.map λp=>some p.2):e=e/\Sub σ₁ σ:=⟨rfl,.of a b⟩
theorem rt {p q:Prop}(h:p):(Exit.ret=Exit.ret\/q)/\p:=⟨.inl rfl,h⟩
def cr4 (nt:Nat)(all:Array Oper)(tm:J4)(o:Oper):Option<|Nat×List T×Nat:=match R8 all.toList tm o.guard with
 |some true=>match aJ2 tm o with
  |some (n,targs,b)=>match CA [] targs,o.dst with|some a,some d=>bif Y3 d nt then some (n,a++b.map T.el,d)else none|_,_=>none
  |none=>none
 |_=>none
theorem o0.k {o:Oper}{rest:List Oper}{n d:Nat}{args:List T}{m₁:Option τ}{res:τ->T}{k:τ->Option ρ}{tm:J4}{hp:F1}(g:uR X.P n args m₁ res)(a:cr4 X.nt all tm o=some (n,args,d))(h:∀t,o0 X all rest ks ⟨(d,res t)::tm,hp⟩ (k t) Q):o0 X all (o::rest) ks ⟨tm,hp⟩ (m₁.bind k) Q:=by
 unfold cr4 at a;split at a<;>try cases a
 rename_i i;split at a<;>try cases a
 rename_i m targs c hz;split at a<;>try cases a
 rename_i b e j l;cases f:Y3 e X.nt with|false=>grind|true=>rw[f]at a;simp[AI,cz4]at a;obtain⟨rfl,rfl,rfl⟩:=a;exact o0.call (σ₂:=λt=>⟨(e,res t)::tm,hp⟩) i hz j g λt=>by rw[l];simp[Gb,f] h
theorem uR.i {P:Program}{tab:vH}(C8:oW P tab){n:Nat}{fn:Func}{c:Code}{args:List T}{m:Option τ}{res:τ->T}(nt:Nat)(rs:List ResultVar)(a:∀vs w,(callFunc n vs).run P w=.ok (.enter n vs) w)(g:P.funcs[n]?=some fn)(h:fn.body=some c)(b:fn.ntmps=nt)(d:fn.results.toList=rs)(f:dc6 args.length nt=true)(body:∀(w0:World)(L:GL),w6 ⟨P,tab,C8,w0,L,nt⟩ [.c c] ⟨number 0 args,[]⟩ m λr e σ'=>(e=.ret\/e=.normal)/\az3 tab σ' rs=some (res r)):uR P n args m res:=uR.intro C8 nt rs a g h b d (cU8 f) body
theorem yw.i {P:Program}{tab:vH}(C8:oW P tab){n:Nat}{fn:Func}{c:Code}{args:List T}{hp:F1}{m:Option τ}{res:τ->T}{L9:τ->F1}(nt:Nat)(rs:List ResultVar)(a:∀vs w,(callFunc n vs).run P w=.ok (.enter n vs) w)(g:P.funcs[n]?=some fn)(h:fn.body=some c)(b:fn.ntmps=nt)(d:fn.results.toList=rs)(f:dc6 args.length nt=true)(body:∀(w0:World)(L:GL),w6 ⟨P,tab,C8,w0,L,nt⟩ [.c c] ⟨number 0 args,hp⟩ m λr e σ'=>(e=.ret\/e=.normal)/\cu7 tab σ' rs (res r) (L9 r)):yw P n args hp m res L9:=yw.intro C8 nt rs a g h b d (cU8 f) body
end
def aJ0 (nt:Nat)(all:Array Oper)(tm:J4)(hp:F1)(o:Oper)(b e:List<|Nat×Nat)(a:List T)(c:F1):Option<|Nat×List T×List T×F1×Nat×F1:=match R8 all.toList tm o.guard with
 |some true=>match Pv.Iw tm o,NL b a,sE b c,o.dst with|some (n,targs),some bQ,some sC,some d=>bif Dx b e tm hp&&Y3 d nt then some (n,targs,bQ,sC,d,dC b hp)else none|_,_,_,_=>none
 |_=>none
section
variable {ρ τ:Type}{X:Cx}{ks:List K}{m:Option ρ}{Q:ρ->Exit->St->Prop}{all:Array Oper}
theorem o0.g {o:Oper}{rest:List Oper}{n d:Nat}{targs bQ Pm:List T}{chp sC hp2:F1}{m₁:Option τ}{res:τ->T}{x:τ->F1}{k:τ->Option ρ}{tm:J4}{hp:F1}(y nm:List<|Nat×Nat){rres:τ->T}{rhp:τ->F1}(hc:yw X.P n Pm chp m₁ res x)(m:aJ0 X.nt all tm hp o y nm Pm chp=some (n,targs,bQ,sC,d,hp2))(hmr:Jd targs bQ=bQ)(z:sC.map (IX hp)=sC.map λp=>some p.2)(J:∀t,oN (y++nm) (res t)=some (rres t))(L:∀t,sE (y++nm) (x t)=some (rhp t))(h:∀t,m₁=some t->o0 X all rest ks ⟨(d,rres t)::tm,rhp t++hp2⟩ (k t) Q):o0 X all (o::rest) ks ⟨tm,hp⟩ (m₁.bind k) Q:=by
 unfold aJ0 at m;split at m<;>try cases m;done
 rename_i hg;split at m<;>try cases m;done
 rename_i n' targs0 s c d' ho ha M hd;cases q:Dx y nm tm hp&&Y3 d' X.nt with|false=>grind|true=>rw[q]at m;simp[cT9,AI,cz4]at m;obtain⟨rfl,rfl,rfl,rfl,rfl,rfl⟩:=m;rw[BY]at q;intro r N a w ⟨S,E,hk⟩;cases A:m₁ with|none=>grind|some t=>
   simp[A]at N;have hm:=q.1;obtain⟨vs,O,hv⟩:=aI9 hk ho hc.1;let Ec:Nat->Value:=λi=>match look y i with|some j=>E j|none=>E i;have l:∀i j,look y i=some j->Ec i=E j:=λi j h=>by simp[Ec,h]
   have B:xJ w S Ec vs Pm:=by have h1:=Ow (u:=s) hv;grind [Ff]
   have f:∀p∈c,∃I,look hp p.1=some I/\Uy I p.2=p.2:=by
    intro p L9;obtain⟨n,hn,rfl⟩:=Kz.1 L9;have:(c.map<|IX hp)[n]?=(c.map λp=>some p.2)[n]?:=by rw[z]
    grind [IX]
   have hO:Rr w S Ec chp:=by
    refine⟨λi b q=>?_,λi b β q R=>?_,λi i' b I β q hb' R U=>?_⟩;·obtain⟨j,I,e1,e2,V⟩:=Fb M q;obtain⟨b0,W,e5⟩:=f _ V;have h1:=ax5 (u:=I)<|hk.hp j b0 W;rw[e5]at h1;rw[l i j e1];exact bD9 (λi j h=>(l i j h).symm) h1 e2
    ·obtain⟨j,I,e1,e2,V⟩:=Fb M q;obtain⟨b0,W,e5⟩:=f _ V;rw[l i j e1]at R;have:=hk.own j b0 β W R;exact⟨this.1,this.2.1⟩
    ·obtain⟨j,b1,e1,e2,V⟩:=Fb M q;obtain⟨b0,W,e5⟩:=f _ V;obtain⟨j',b1',Z,e2',e3'⟩:=Fb M hb';obtain⟨b0',e4',e5'⟩:=f _ e3';rw[l i j e1]at R;rw[l i' j' Z]at U;have:=hk.cJ j j' b0 b0' β W e4' R U;subst this;have hm':=hm;simp[Dx,BY]at hm';have nd:=(nodup_append<|by simpa using hm'.1.1).1;have r1:=Jh nd e1;rw[Jh nd Z]at r1;exact(oa r1).symm
   have C:=hc.2 t A w S Ec vs hk.lB hO B;refine wpList_step λK hK=>?_;rw[I3 hk hg];unfold Oper.wp;rw[O];refine C.mono λe w' ⟨v,S',E',m,hv',D,h1,h2,hO',h3,h4⟩=>?_;subst m;have aT:∀t,Gb X.nt o.dst (rres t) ⟨tm,rhp t++dC y hp⟩=some ⟨(d',rres t)::tm,rhp t++dC y hp⟩:=λt=>by rw[hd];simp[Gb,q.2,cT9]
   obtain⟨S2,E2,hok,hrv⟩:=hk.called hm M z l hv' D h1 h2 hO' h3 h4 (J t)<|L t;exact hK _ _<|h t A r N _ _ ⟨S2,E2,Ho hok hrv<|aT t⟩
end
section
variable {X:Cx}{all:Array Oper}{Vs:List T}{tm0:J4}{hp:F1}{o:Oper}{ops:List Oper}{V:T}{l:List T}
end
def chain (ops:Array Oper)(l:List Bool):List Nat->List (Nat×Nat)|[]=>[]|i::r=>(i,match ops[i]?with|some o=>bif bo6 o.op then 0 else 2*bitsOf ((MY ops.size).map λj=>!l.getD j true&&waits ops.toList ops.size j i)+1|none=>0)::chain ops (l.set i true) r where bitsOf:List Bool->Nat|[]=>0|b::r=>(bif b then 1 else 0)+2*bitsOf r
section
variable {X:Cx}{ops:Array Oper}{fe:Nat}{le l:List Bool}{σ':St}
def cm.ga {n:Nat}{tm tm':J4}{hp:F1}(fuel:Nat)(is:List Nat)(a:(cV4 (fuel+(chain ops l is).length) n&&bM5 X.nt ops (chain ops l is) l)=true)(b:evA X.tab ops (is.map λi=>(i,0)) tm hp=some tm')(h:cm X ops fe le fuel (YU (is.map λi=>(i,0)) l) ⟨tm',hp⟩ σ'):cm X ops fe le n l ⟨tm,hp⟩ σ':=by
 rw[BY]at a;have e1:∀(is:List Nat)(l l':List Bool)(tm:J4),evA X.tab ops (chain ops l' is) tm hp=evA X.tab ops (is.map λi=>(i,0)) tm hp:=by intro is;induction is with|nil=>intro l l' tm;rfl|cons i r c=>simp_all[chain,evA]
 have e2:∀(is:List Nat)(l l':List Bool),YU (chain ops l' is) l=YU (is.map λi=>(i,0)) l:=by intro is;induction is with|nil=>intro l l';rfl|cons i r c=>grind [chain,YU]
 exact cm.go fuel (chain ops l is) (bD a.1) a.2 ((e1 is l l tm).trans b) gq
end
structure GK:Type 1 where
 {α:Type}enc:α->List Tree
 l:List α
 i:Int
inductive V:Type 1 where|mk {α:Type}(a:α)|gf (f:GK)
inductive Tr:Type 1 where|ok|bad|eq (a b:V)|and (x y:Tr)|all {τ:Type}(f:τ->Tr)
def Tr.den:Tr->Prop|.ok=>True|.bad=>False|.eq a b=>a=b|.and x y=>x.den/\y.den|.all f=>∀t,(f t).den
inductive Tv:Type 1 where|ok|no (b:Bool)|v (a:V)|and (x y:Tv)|all {τ:Type}(f:τ->Tv)
def Tr.l:Tr->Tv|.ok=>.ok|.bad=>.no false|.eq a _=>.v a|.and x y=>.and x.l y.l|.all f=>.all λt=>(f t).l
def Tr.r:Tr->Tv|.ok=>.ok|.bad=>.no true|.eq _ b=>.v b|.and x y=>.and x.r y.r|.all f=>.all λt=>(f t).r
theorem Tr.of:∀{x:Tr},x.l=x.r->x.den|.ok,_=>trivial|.bad,h=>by simp[Tr.l,Tr.r]at h|.eq a b,h=>by show a=b;simpa[Tr.l,Tr.r]using h|.and x y,h=>by simp[Tr.l,Tr.r,Tv.and.injEq]at h;exact⟨Tr.of h.1,Tr.of h.2⟩|.all f,h=>by simp[Tr.l,Tr.r,Tv.all.injEq,heq_eq_eq]at h;exact λt=>Tr.of<|congrFun h t
def V.eq {α:Type}{a b:α}(h:V.mk a=V.mk b):a=b:=by simpa using h
def aT9 (σ₁ σ:St):Tr:=.and (.eq (.mk<|σ₁.tm.map<|aN6 σ.tm)<|.mk<|σ₁.tm.map λp=>some p.2)<|.eq (.mk<|σ₁.hp.map<|IX σ.hp)<|.mk<|σ₁.hp.map λp=>some p.2
def SZ {σ₁ σ:St}(h:(aT9 σ₁ σ).den):Sub σ₁ σ:=.of (V.eq h.1)<|V.eq h.2
def fL (d:Nat):List Nat->Bool|[]=>false|x::l=>bif cV4 x d then true else fL d l
def gk (all:List Oper)(kb:List Nat)(tm:J4):Option (Nat×Bool)->Option Bool|none=>some true|some (j,a)=>match all[j]?with
  |some o=>match o.dst with
   |some d=>match look tm d with|some<|.t<|.v<|.bool b=>bif fL d kb then some (match a with|true=>b|false=>!b)else none|some<|.t<|.v<|.tuple _=>some false|_=>none
   |none=>none
  |none=>none
theorem jR {all:List Oper}{kb:List Nat}{tm:J4}{g:Option<|Nat×Bool}{b:Bool}(h:gk all kb tm g=some b):R8 all tm g=some b:=by cases g with|none=>exact h|some p=>obtain⟨j,c⟩:=p;simp[gk]at h;simp[R8];cases e:all[j]?with|none=>simp only[e]at h;cases h|some o=>simp[e]at h|-;cases f:o.dst with|none=>simp only[f]at h;cases h|some d=>
    simp[f]at h|-;split at h<;>try cases h;done
    ·cases i:fL d kb<;>simp only[i,cT8,reduceCtorEq]at h;rename_i a;simp only[a];exact h
    ·rename_i a;simp only[a];exact h
def vA:List Nat->J4->J4|_,[]=>[]|ds,(k,x)::r=>bif fL k ds then vA ds r else(k,x)::vA (k::ds) r
def tV:List Oper->List Nat|[]=>[]|o::r=>match o.dst with|some d=>d::tV r|none=>tV r
def be7:Op->Bool
 |.binOp a _ _ y _=>match a with|.quo|.rem|.shl|.shr=>(match y with|.const _=>true|_=>false)|_=>true
 |.index _ _ y=>(match y with|.const _=>true|_=>false)|.indexAddr _ _ y=>(match y with|.const _=>true|_=>false)|_=>true
def bx2 (o:Op):Bool:=HM o&&be7 o
def an6 {o:Op}(h:bx2 o=true):HM o=true:=by unfold bx2 at h;rw[BY]at h;exact h.1
def cut (d:Nat):List Oper->Option (List Oper×Nat×Op×List Oper)|[]=>none|o::r=>match match o.op with|.pick (.tmp k) _ _=>cV4 k d|_=>false,o.dst with|true,some q=>some ([o],q,o.op,r)|_,_=>match cut d r with|some (g,q,a,b)=>some (o::g,q,a,b)|none=>none
theorem ba6 {d:Nat}:∀{l g r:List Oper}{q:Nat}{a:Op},cut d l=some (g,q,a,r)->l=g++r
 |[],_,_,_,_,h=>by cases h|o::l,g,r,q,a,h=>by
  unfold cut at h;split at h;·obtain⟨rfl,_,_,rfl⟩:=h;rfl
  ·split at h<;>try cases h;done
   rename_i b;obtain⟨rfl,rfl,rfl,rfl⟩:=h;rw[ba6 b];rfl
def comb (b v w:Bool):Op->Option Bool
 |.pick _ _<|.const<|.bool false=>match w with|false=>some<|b&&v|true=>none
 |.pick _ (.const<|.bool true) _=>match v with|true=>some<|b||w|false=>none
 |_=>some<|bif b then v else w
def ch4 {b v w c:Bool}{a:Op}(h:comb b v w a=some c):c=bif b then v else w:=by unfold comb at h;split at h;split at h<;>simp at h;subst h;cases b<;>simp;split at h<;>simp at h;subst h;cases b<;>simp;simp at h;exact h.symm
mutual def evG (tab:vH)(nt:Nat)(all:List Oper)(hp:F1):Nat->List Nat->List Oper->J4->Option J4|0,_,_,_=>none|_+1,_,[],tm=>some tm|f+1,kb,o::r,tm=>match gk all kb tm o.guard with
  |some true=>bif bx2 o.op then match evalOp tab ⟨tm,hp⟩ o,o.dst with|some (t,_),some d=>bif Y3 d nt then evG tab nt all hp f kb r ((d,t)::tm)else none|_,_=>none else none|some false=>match o.dst with|some d=>bif Y3 d nt then evG tab nt all hp f kb r ((d,.t<|.v undef)::tm)else none|none=>none
  |none=>match Kq tab nt all hp f kb (o::r) tm with|some (a,tm')=>evG tab nt all hp f kb a tm'|none=>none def Kq (tab:vH)(nt:Nat)(all:List Oper)(hp:F1):Nat->List Nat->List Oper->J4->Option (List Oper×J4)|0,_,_,_=>none|f+1,kb,ops,tm=>match ops with|[]=>none|o::_=>match o.guard with|none=>none|some (j,_)=>match all[j]?with|none=>none|some a=>match a.dst with|none=>none|some d=>match look tm d,cut d ops with
      |some<|.t<|.v<|.bool b,some (g,q,e,r)=>match evG tab nt all hp f (d::kb) g<|(d,.t<|.v<|.bool true)::tm,evG tab nt all hp f (d::kb) g ((d,.t<|.v<|.bool false)::tm)with
       |some h,some t2=>match look h q,look t2 q with
        |some<|.t<|.v<|.bool v,some<|.t<|.v<|.bool w=>match comb b v w e with|some c=>some (r,(q,.t<|.v<|.bool c)::vA (tV g) tm)|none=>none
        |_,_=>none
       |_,_=>none
      |_,_=>none end
def stO (tab:vH)(nt:Nat)(all:List Oper)(kb:List Nat)(o:Oper)(r:List Oper)(tm:J4)(hp:F1):Option<|List Oper×St:=match gk all kb tm o.guard with
 |some true=>bif be7 o.op then match WT tab tm hp o with
  |some (t,σ)=>match Gb nt o.dst t σ with|some σ'=>some (r,σ')|none=>none
  |none=>none else none|some false=>match Gb nt o.dst (.t<|.v undef) ⟨tm,hp⟩with|some σ'=>some (r,σ')|none=>none
 |none=>match Kq tab nt all hp 64 kb (o::r) tm with|some (a,tm')=>some (a,⟨tm',hp⟩)|none=>none
end Go.Pv
namespace Go.Pv
open Go.RowKit
theorem Fa {k d:Nat}{l:List Nat}:fL k (d::l)=false↔d≠k/\fL k l=false:=by simp only[fL];cases a:cV4 d k;exact⟨λh=>⟨λe=>by subst e;simp at a,h⟩,λh=>h.2⟩;have:=bD a;simp[this]
theorem C4 {α:Type}{d k:Nat}{x:α}{l:List<|Nat×α}(h:d≠k):look ((d,x)::l) k=look l k:=by simp[look,s9 h]
theorem Sq:∀{tm:J4}{ds:List Nat}{k:Nat},fL k ds=false->look (vA ds tm) k=look tm k|[],ds,k,_=>rfl|(j,x)::r,ds,k,h=>by unfold vA;by_cases a:j=k;subst a;rw[h];simp[look];cases b:fL j ds<;>simp[cT8];rw[C4 a,C4 a,Sq<|Fa.2 ⟨a,h⟩];rw[Sq h,C4 a]
theorem ZO:∀{tm:J4}{ds:List Nat}{k:Nat},fL k ds=true->look (vA ds tm) k=none
 |[],_,_,_=>rfl|(j,x)::r,ds,k,h=>by
  unfold vA;cases b:fL j ds<;>simp[cT9];have a:j≠k:=λe=>by subst e;rw[h]at b;cases b
  rw[C4 a];exact ZO (by simp[fL,h]);exact ZO h
def Sj {ds:List Nat}{tm:J4}{k:Nat}{t:T}(h:look (vA ds tm) k=some t):fL k ds=false/\look tm k=some t:=by cases hk:fL k ds;exact⟨rfl,by rwa[Sq hk]at h⟩;rw[ZO hk]at h;cases h
def Jv.more {w0:World}{L:GL}{nt:Nat}{tm tm':J4}{hp:F1}{a:Act}{w:World}(b:more tm' tm)(h:Jv w0 L nt ⟨tm,hp⟩ a w):Jv w0 L nt ⟨tm',hp⟩ a w:=by obtain⟨S,E,hk⟩:=h;exact⟨S,E,{hk with tm:=λk t ht=>hk.tm k t<|b k t ht}⟩
section
variable {ρ:Type}{X:Cx}{ks:List K}{m:Option ρ}{Q:ρ->Exit->St->Prop}{all:Array Oper}{tm tm':J4}{hp:F1}{ops:List Oper}
def o0.more (b:more tm' tm)(h:o0 X all ops ks ⟨tm',hp⟩ m Q):o0 X all ops ks ⟨tm,hp⟩ m Q:=λr c a w d=>h r c a w<|d.more b
theorem aN0 {k:Nat}:∀{l l':List Nat},fL k (l++l')=false↔fL k l=false/\fL k l'=false|[],l'=>by simp[fL]|x::l,l'=>by rw[cX8,Fa,Fa,aN0];exact and_assoc.symm
theorem al9:∀{l l':List Oper},tV (l++l')=tV l++tV l'|[],_=>rfl|o::l,l'=>by simp[cX8,tV];split<;>simp[al9]
def Vh {tab:vH}{tm:J4}{hp:F1}{o:Oper}{t:T}{σ':St}(hi:HM o.op=true)(a:evalOp tab ⟨tm,hp⟩ o=some (t,σ')):σ'=⟨tm,hp⟩:=by rw[sV]at a;obtain⟨dst,b,type,pos,c,guard⟩:=o;cases b<;>simp[HM]at hi<;>simp only[Bw]at a<;>first|exact(H0 a).2|(repeat' split at a)<;>first|cases a;done|exact(H0 a).2|simp[AI,cz4]at a;exact a.2.symm|simp[dd4,cz4]at a;obtain⟨_,_,_,h⟩:=a;exact h.symm|revert a;cases Y3 _ _<;>intro a<;>simp only[cT9,cT8,reduceCtorEq,AI,cz4]at a<;>first|exact a.2.symm|exact(H0 a).2
def bl1 {d:Nat}:∀{l g r:List Oper}{q:Nat}{a:Op},cut d l=some (g,q,a,r)->fL q (tV g)=true
 |[],_,_,_,_,h=>by cases h|o::l,g,r,q,a,h=>by
  unfold cut at h;split at h;·rename_i b;obtain⟨rfl,rfl,_,rfl⟩:=h;simp[tV,b,fL]
  ·split at h<;>try cases h;done
   rename_i c;obtain⟨rfl,rfl,rfl,rfl⟩:=h;have:=bl1 c;unfold tV;split;·simp only[fL];cases cV4 _ _<;>simp[this]
   ·exact this
def Jv.lit {w0:World}{L:GL}{nt:Nat}{tm:J4}{hp:F1}{a:Act}{w:World}{d:Nat}{x:T}(c:look tm d=some x)(h:Jv w0 L nt ⟨tm,hp⟩ a w):Jv w0 L nt ⟨(d,x)::tm,hp⟩ a w:=h.more λk t hk=>by by_cases b:d=k;subst b;simp[look,tj,AI]at hk;subst hk;exact c;rwa[C4 b]at hk
def cs2:∀(f:Nat),(∀(kb:List Nat)(ops:List Oper)(tm a:J4),evG X.tab X.nt all.toList hp f kb ops tm=some a->(∀k,fL k (tV ops)=false->look a k=look tm k)/\∀(rest:List Oper),o0 X all rest ks ⟨a,hp⟩ m Q->o0 X all (ops++rest) ks ⟨tm,hp⟩ m Q)/\∀(kb:List Nat)(ops r:List Oper)(tm a:J4),Kq X.tab X.nt all.toList hp f kb ops tm=some (r,a)->(∀k,fL k (tV ops)=false->fL k (tV r)=false/\look a k=look tm k)/\∀(rest:List Oper),o0 X all (r++rest) ks ⟨a,hp⟩ m Q->o0 X all (ops++rest) ks ⟨tm,hp⟩ m Q
 |0=>⟨λkb ops tm a h=>by simp[evG]at h,λkb ops r tm a h=>by simp[Kq]at h⟩|f+1=>by
  obtain⟨j,E⟩:=cs2 f;refine⟨λkb ops tm a h=>?_,λkb ops r tm a h=>?_⟩;·cases ops with|nil=>simp only[evG,AI]at h;subst h;exact⟨λ_ _=>rfl,λrest h=>h⟩|cons o r=>
    unfold evG at h;split at h
    ·rename_i I;cases L9:bx2 o.op<;>simp only[L9,cT9,cT8,reduceCtorEq]at h;have L9:=an6 L9;split at h<;>try cases h;done
     rename_i t σ' d C x;cases y:Y3 d X.nt<;>simp only[y,cT9,cT8,reduceCtorEq]at h;obtain⟨h1,z⟩:=j _ _ _ _ h;refine⟨λk hk=>?_,λrest p=>?_⟩;·simp only[tV,x,Fa]at hk;rw[h1 k hk.2,C4 hk.1]
     ·have O:σ'=⟨tm,hp⟩:=Vh L9 C;subst O;exact .step (jR I) C (by rw[x];simp only[Gb,y,cT9])<|z rest p
    ·rename_i I;split at h<;>try cases h;done
     rename_i d x;cases y:Y3 d X.nt<;>simp only[y,cT9,cT8,reduceCtorEq]at h;obtain⟨h1,z⟩:=j _ _ _ _ h;refine⟨λk hk=>?_,λrest p=>?_⟩;·simp only[tV,x,Fa]at hk;rw[h1 k hk.2,C4 hk.1]
     ·exact .pass (jR I) (by rw[x];simp only[Gb,y,cT9])<|z rest p
    ·split at h<;>try cases h;done
     rename_i J tm' C;obtain⟨h1,z⟩:=E _ _ _ _ _ C;obtain⟨P,R⟩:=j _ _ _ _ h;exact⟨λk hk=>by rw[P k (h1 k hk).1,(h1 k hk).2],λrest p=>z rest<|R rest p⟩
  ·unfold Kq at h;split at h<;>try cases h;done
   rename_i o r0;split at h<;>try cases h;done
   split at h<;>try cases h;done
   split at h<;>try cases h;done
   rename_i d _;split at h<;>try cases h;done
   rename_i b g q Z r1 D M;split at h<;>try cases h;done
   rename_i t1 t2 e1 e2;split at h<;>try cases h;done
   rename_i v w S T;split at h<;>try cases h;done
   rename_i c K;simp only[AI,cz4]at h;obtain⟨rfl,rfl⟩:=h;have s:=ba6 M;have l:=ch4 K;obtain⟨g1,g2⟩:=j _ _ _ _ e1;obtain⟨U,V⟩:=j _ _ _ _ e2;have W:fL q (tV g)=true:=bl1 M;refine⟨λk hk=>?_,λrest p=>?_⟩
   ·rw[s,al9,aN0]at hk;refine⟨hk.2,?_⟩;have i:q≠k:=λe=>by subst e;rw[W]at hk;exact absurd hk.1 sq
    rw[C4 i,Sq hk.1]
   ·rw[s,cW5];intro J A N w' B;cases b
    ·refine V (r1++rest) (o0.more (λk t hk=>?_) p) J A N w'<|Jv.lit D B;simp only[look]at hk;by_cases i:q=k;·subst i;simp only[tj,cT9,AI]at hk;subst hk;rw[T,l];rfl
     ·simp only[s9 i,cT8]at hk;obtain⟨L,u⟩:=Sj hk;rw[U k L];by_cases n:d=k;·subst n;rw[D]at u;simpa[look]using u
      ·rw[C4 n];exact u
    ·refine g2 (r1++rest) (o0.more (λk t hk=>?_) p) J A N w'<|Jv.lit D B;simp only[look]at hk;by_cases i:q=k;·subst i;simp only[tj,cT9,AI]at hk;subst hk;rw[S,l];rfl
     ·simp only[s9 i,cT8]at hk;obtain⟨L,u⟩:=Sj hk;rw[g1 k L];by_cases n:d=k;·subst n;rw[D]at u;simpa[look]using u
      ·rw[C4 n];exact u
def cB0 {kb:List Nat}{o:Oper}{r d:List Oper}{σ':St}(h:stO X.tab X.nt all.toList kb o r tm hp=some (d,σ'))(k:o0 X all d ks σ' m Q):o0 X all (o::r) ks ⟨tm,hp⟩ m Q:=by
 unfold stO at h;split at h
 ·rename_i b;cases e:be7 o.op<;>rw[e]at h<;>simp[reduceCtorEq]at h;split at h<;>try cases h
  rename_i c;split at h<;>try cases h;done
  rename_i a;obtain⟨rfl,rfl⟩:=h;exact .step (jR b) c a k
 ·rename_i b;split at h<;>try cases h;done
  rename_i a;obtain⟨rfl,rfl⟩:=h;exact .pass (jR b) a k
 ·split at h<;>try cases h;done
  rename_i c;obtain⟨rfl,rfl⟩:=h;have:=((cs2 64).2 _ _ _ _ _ c).2 [] (by simpa using k);simpa using this
theorem w6.out {id:Nat}{σ:St}(hp:FY id ks=none)(h:M8 X [] (.exit id) σ m Q):w6 X (.c (.exit id)::ks) σ m Q:=λr b a w d=>wp_exit<|fK hp<|h r b a w d
end
structure C (P:Program)(τ:Type)where
 n:Nat
 args:List T
 m:Option τ
 e:Nat->Option τ
 res:τ->T
 ok:uR P n args m res
 le:∀k r,e k=some r->m=some r
structure CG (P:Program)(τ:Type)where
 n:Nat
 args:List T
 hp:F1
 m:Option τ
 e:Nat->Option τ
 res:τ->T
 L9:τ->F1
 nw:List Nat
 ok:yw P n args hp m res L9
 le:∀k r,e k=some r->m=some r
structure Cl (P:Program)(α β:Type)(A:α->List T)(R:β->T)where
 n:Nat
 cs:List (List Tree)f:α->Option β
 e:Nat->α->Option β
 ok:∀x,uR P n (A x++cs.map T.el) (f x) R
 le:∀k x r,e k x=some r->f x=some r
def Cl.at{P:Program}{α β:Type}{A:α->List T}{R:β->T}(c:Cl P α β A R)(x:α):C P β:=⟨c.n,A x++c.cs.map T.el,c.f x,λk=>c.e k x,R,c.ok x,λk=>c.le k x⟩
def CG.f {P:Program}{τ:Type}(c:CG P τ)(h0:c.hp=[])(h:∀r,wA (c.L9 r) (c.res r)=some ((wA (c.L9 r)<|c.res r).getD .any)):C P τ:=⟨c.n,c.args,c.m,c.e,λr=>(wA (c.L9 r)<|c.res r).getD .any,yw.toF (h0▸c.ok) h,c.le⟩
def Cl.of {P:Program}{α β:Type}{A:α->List T}{R:β->T}(c:α->C P β)(n:Nat)(cs:List<|List Tree)(a:∀x,(c x).n=n:=by intro _;rfl)(b:∀x,(c x).args=A x++cs.map T.el:=by intro _;rfl)(d:∀x,(c x).res=R:=by intro _;rfl):Cl P α β A R:=⟨n,cs,λx=>(c x).m,λk x=>(c x).e k,λx=>a x▸b x▸d x▸(c x).ok,λk x=>(c x).le k⟩
def aN7 {S B:Type}(mb:S->Option (S⊕B)):Nat->S->Option B|0,_=>none|n+1,s=>match mb s with|some<|.inl s'=>aN7 mb n s'|some<|.inr b=>some b|none=>none
def YT {S B:Type}{mb c:S->Option (S⊕B)}(h:∀s f,c s=some f->mb s=some f):∀{n:Nat}{s:S}{b:B},aN7 c n s=some b->Lh mb s b|0,_,_,a=>by cases a|n+1,s,b,a=>by unfold aN7 at a;split at a;rename_i d;exact .next (h _ _ d)<|YT h a;rename_i d;cases a;exact .out<|h _ _ d;cases a
abbrev tq {α:Type}(a b:α):Tr:=.eq (.mk a)<|.mk b
structure GF:Type 1 where
 {α:Type}enc:α->List Tree
 l:List α
 i:Int
 y:α
def GF.ok (f:GF):Prop:=y3 f.l f.i=some f.y
structure EqV (P:Program)where
 f:Nat->List T->List T->Option Bool
 ok:∀ty xs ys b,f ty xs ys=some b->∃vs us,xs=tvs vs/\ys=tvs us/\cE3 P ty vs us b
def cat {α:Type}(enc:α->List Tree):List α->List Tree|[]=>[]|y::r=>enc y++cat enc r
inductive L1:Type->Type 1 where|ix {α:Type}(enc:α->List Tree)(l:List α)(i:Int):L1 α|quo (k:IntKind)(x y:Int):L1 Int|rem (x y:Int):L1 Int|shl (k:IntKind)(x y:Int):L1 Int|shr (k:IntKind)(x y:Int):L1 Int|str (s:ByteArray)(i:Int):L1 Int|arr {α:Type}(res:α->T)(ys:List α)(i:Int):L1 α|ax {α:Type}(enc:α->List Tree)(ys:List α)(i:Int):L1 α
def cK2 (s:ByteArray)(i:Int):Option Int:=(if 0<=i then s[i.toNat]?else none).map λb=>(b.toNat:Int)
def L1.m:{τ:Type}->L1 τ->Option τ|_,.ix _ l i=>y3 l i|_,.quo k x y=>KT k x y|_,.rem x y=>SF x y|_,.shl k x y=>cJ3 k x y|_,.shr k x y=>co4 k x y|_,.str s i=>cK2 s i|_,.arr _ ys i=>y3 ys i|_,.ax _ ys i=>y3 ys i
def L1.k:{τ:Type}->L1 τ->τ->List GF->List GF|_,.ix enc l i,y,Γ=>⟨enc,l,i,y⟩::Γ|_,_,_,Γ=>Γ
def bJ3 {α:Type}(a:Bool)(sz:Nat)(l:List T)(res:α->T):List α->Nat->Tr|[],_=>.ok|y::r,j=>.and (tq (Av a sz l<|j*sz)<|some<|res y)<|bJ3 a sz l res r<|j+1
def L1.q (tab:vH)(tm:J4)(hp:F1)(o:Op):{τ:Type}->L1 τ->Option (Tr×(τ->T))
 |_,.ix enc l i=>match o with
  |.indexAddr ty x c=>match val tm x,val tm c,look tab ty with
   |some X,some<|.t<|.v<|.int _ j,some ⟨_,.slice e,_⟩=>match look tab e with
    |some d=>match X with
     |.own id=>match look hp id with|some<|.rows _ sz n rs=>bif cV4 d.size sz then some (.and (tq (n,rs) (l.length,l.map enc))<|tq j i,λ_=>.pe id i.toNat sz 0)else none|_=>none
     |X=>some (.and (tq X<|.t<|tS enc l)<|.and (tq j i)<|tq (α:=_->Nat) (λy=>(enc y).length) λ_=>d.size,λy=>.el<|enc y)
    |none=>none
   |_,_,_=>none
  |_=>none
 |_,.quo k x y=>match o with
  |.binOp .quo _ a b _=>match val tm a,val tm b with|some<|.t<|.v<|.int k1 f,some<|.t<|.v<|.int k2 g=>some (tq (k1,f,k2,g) (k,x,k,y),λq=>.t<|.v<|.int k q)|_,_=>none
  |_=>none
 |_,.rem x y=>match o with
  |.binOp .rem _ a b _=>match val tm a,val tm b with|some<|.t<|.v<|.int k1 f,some<|.t<|.v<|.int k2 g=>some (tq (f,k2,g) (x,k1,y),λq=>.t<|.v<|.int k1 q)|_,_=>none
  |_=>none
 |_,.shl k x y=>match o with
  |.binOp .shl _ a b _=>match val tm a,val tm b with|some<|.t<|.v<|.int k1 f,some<|.t<|.v<|.int _ g=>some (tq (k1,f,g) (k,x,y),λq=>.t<|.v<|.int k q)|_,_=>none
  |_=>none
 |_,.shr k x y=>match o with
  |.binOp .shr _ a b _=>match val tm a,val tm b with|some<|.t<|.v<|.int k1 f,some<|.t<|.v<|.int _ g=>some (tq (k1,f,g) (k,x,y),λq=>.t<|.v<|.int k q)|_,_=>none
  |_=>none
 |_,.str s i=>match o with
  |.index ty x c=>match val tm x,val tm c,look tab ty with|some<|.t<|.v<|.string s',some<|.t<|.v<|.int _ j,some ⟨_,.string,_⟩=>some (tq (s',j) (s,i),λy=>.t<|.v<|.int .u8 y)|_,_,_=>none
  |_=>none
 |_,.arr res ys i=>match o with
  |.index ty x c=>match val tm x,val tm c,look tab ty with
   |some<|.agg l,some<|.t<|.v<|.int _ j,some ⟨_,.array n e,_⟩=>match look tab e with|some d=>bif cV4 ys.length n then some (.and (tq j i)<|bJ3 d.desc.isAgg d.size l res ys 0,res)else none|none=>none
   |_,_,_=>none
  |_=>none
 |_,.ax enc ys i=>match o with
  |.indexAddr ty x c=>match val tm x,val tm c,look tab ty with
   |some<|.el cs,some<|.t<|.v<|.int _ j,some ⟨_,.array n e,_⟩=>match look tab e with|some d=>bif cV4 ys.length n then some (.and (tq j i)<|.and (tq cs<|cat enc ys)<|tq (α:=_->Nat) (λy=>(enc y).length) λ_=>d.size,λy=>.el<|enc y)else none|none=>none
   |_,_,_=>none
  |_=>none
inductive W1 where|hx (n:Nat)|ly (n:Nat)|eq|cn|sn
def W1.q {P:Program}(Ev:EqV P)(tab:vH)(Γ:List GF)(tm:J4)(hp:F1)(o:Op):W1->Option (Tr×T)
 |.hx n=>match Γ[n]?with
  |some f=>match(L1.ix f.enc f.l f.i).q tab tm hp o with|some (t,res)=>some (t,res f.y)|none=>none
  |none=>none
 |.ly n=>match Γ[n]?,o with
  |some f,.load t p=>match val tm p,look tab t with
   |some<|.pe id i sz c,some ti=>match look hp id,Av ti.desc.isAgg ti.size ((f.enc f.y).map .t) c with|some<|.rows _ d n rs,some r=>bif cV4 sz d then some (tq (i,n,rs) (f.i.toNat,f.l.length,f.l.map f.enc),r)else none|_,_=>none
   |_,_=>none
  |_,_=>none
 |.eq=>match o with
  |.binOp g ty x y _=>match val tm x,val tm y with
   |some<|.agg xs,some<|.agg ys=>match Ev.f ty xs ys with
    |some b=>match g with|.eql=>some (.ok,.t<|.v<|.bool b)|.neq=>some (.ok,.t<|.v<|.bool !b)|_=>none
    |none=>none
   |_,_=>none
  |_=>none
 |.cn=>match o with
  |.call ⟨.builtin .cap,a,b⟩=>match a.toList,b.toList with
   |[x],[t]=>match val tm x,look tab t with|some<|.t<|.v<|.slice none 0 0,some ⟨_,.slice _,_⟩=>some (.ok,.t<|.v<|.int .i64 0)|_,_=>none
   |_,_=>none
  |_=>none
 |.sn=>match o with
  |.slice t x none (some hi) none=>match val tm x,val tm hi,look tab t with
   |some<|.t<|.v<|.slice none 0 0,some<|.t<|.v<|.int _ 0,some ⟨_,.slice e,_⟩=>match look tab e with|some _=>some (.ok,.t<|.v<|.slice none 0 0)|none=>none
   |_,_,_=>none
  |_=>none
def Yc (tm:J4)(o:Oper):Option<|Nat×List T×List (List Tree):=match o.op with
 |.call ⟨.value f,args,_⟩=>match val tm f,GJ tm args.toList with
  |some<|.fz n a,some l=>some (n,l,a)|some<|.Fu n cs,some l=>match els cs with|some a=>some (n,l,a)|none=>none
  |_,_=>none
 |_=>none
def Yb (tm:J4)(hp:F1)(o:Oper):Option<|Nat×List T×Bool×Nat:=match Yc tm o,o.dst with
 |some (n,targs,a),some d=>match CA [] targs with|some l=>some (n,l++a.map T.el,false,d)|none=>match CA hp targs with|some l=>some (n,l++a.map T.el,true,d)|none=>none
 |_,_=>none
open Go.RowKit Go.Sort Go.Shelf Go.Proofs
theorem ba1 (zs:List Int):Lib.compact zs=Ix zs:=by
 have key:∀m,m<=zs.length->Lib.compactUpTo zs.toArray m=Ix (zs.take m):=by intro m;induction m with|zero=>intro _;rfl|succ m d=>
   intro e;have b:∀j (c:j<zs.length),zs.toArray[j]! =zs[j]:=λj c=>by grind
   rw[Lib.compactUpTo_succ,List.take_succ_eq_append_getElem F,b m F];by_cases h0:m=0;subst h0;rfl;have a:zs.take m≠[]:=by intro h;simp_all
   rw[ba0 _ _ a];have f:(zs.take m).getLast a=zs[m-1]:=by grind
   unfold Lib.keeps;grind
 simp_all[Lib.compact]
section
variable (w:World)(β m:Nat)(d:Array Int)(os:Array Obj)
def WB:World:=grow (putRow (Value.int .i64) (Sort.ahead w m) β 0 d) os
theorem Xf:(WB w β m d os).heap.size=w.heap.size+os.size:=by simp[WB,grow]
def bX5 (b:Nat)(c:b<w.heap.size)(a:b≠β):(WB w β m d os).heap[b]?=w.heap[b]?:=by simp[WB,putRow,mapBlock,Sort.ahead,grow];grind
theorem cA7 {cs:Array Value}{a:TypeId}(b:w.heap[β]?=some (.cells cs a (0,0))):(WB w β m d os).heap[β]?=some (.cells (putCells (Value.int .i64) 0 d cs) a (0,0)):=by simp[WB,putRow,mapBlock,Sort.ahead,grow];rw[df2 gq,Array.getElem?_modify,if_pos rfl,b];rfl
def bp9 (L:Nat->Prop)(a:L β):tZ L w (WB w β m d os)where
 os:=rfl;tape:=rfl;output:=rfl;size:=by rw[Xf];omega
 block:=λb c f=>bX5 w β m d os b c λe=>f<|e▸a;drawn:=by simp[WB,grow]
end
def aS2 {w:World}{S:Nat->Prop}{E':Nat->Value}{e id' β a m:Nat}{r z:List Int}{vs:List Value}{os:Array Obj}(g:a<=maxLen)(p:w.heap[β]?=some (.cells vs.toArray e (0,0)))(h:vs.length=a*1)(q:r.length<=a)(d:E' id'=.slice (some ⟨β,0,none⟩) r.length a)(s:¬S β)(B:β<w.heap.size):Rr (WB w β m (r++z).toArray os) S E' [(id',.rows e 1 r.length<|r.map encI)]:=by
 have one:∀id b,look [(id',ck.rows e 1 r.length<|r.map encI)] id=some b->id=id'/\b=.rows e 1 r.length (r.map encI):=λid b c=>by simp[look]at c;by_cases t:id'=id;grind;grind [s9]
 refine⟨λid b c=>?_,λid b n c f=>?_,λid u b C n c A _ _=>?_⟩;obtain⟨rfl,rfl⟩:=one _ _ c;rw[d];refine⟨sq,.inr ⟨β,a,(putCells (Value.int .i64) 0 (r++z).toArray vs.toArray).toList,g,by simp,by rw[cA7 w β m _ os p],by simp[putCells,h],by grind,?_,?_⟩⟩;intro x hx;obtain⟨y,_,rfl⟩:=cX3.1 hx;rfl;intro i j hi o D;have k:i<r.length:=by simpa using hi
 have l:j=0:=by rw[cX7]at o;have:(encI r[i]).length=1:=rfl;omega
 subst l;have e1:(putCells (Value.int .i64) 0 (r++z).toArray vs.toArray).toList[i*1+0]=.int .i64 r[i]:=by simp[cS7,Nat.mul_one,cq7];simp only[putCells,Array.getElem_mapIdx,true_and,Nat.sub_zero,da4];rw[if_pos<|by rw[IT];omega,getElem!_pos _ _<|by simp[da4,IT];omega];simp[List.getElem_toArray];rw[cW9 k]
 rw[e1];have e2:((r.map encI)[i]'hi)[0]'o=.v (.int .i64 r[i]):=by simp[encI,Y]
 rw[e2];exact .v _;obtain⟨rfl,rfl⟩:=one _ _ c;have:n=β:=by rw[d]at f;simpa[H9]using f.symm
 subst this;exact⟨s,by rw[Xf];omega⟩;grind
def aS3 {w:World}{β e a:Nat}{l:List Int}{vs:List Value}(b:w.heap[β]?=some (.cells vs.toArray e (0,0)))(d:vs.length=a*1)(c:l.length<=a){S:Nat->Prop}(f:∀i j (hi:i<(l.map encI).length)(g:j<(l.map encI)[i].length)(h:i*1+j<vs.length),RT w S vs[i*1+j] (l.map encI)[i][j]):Holds (Value.int .i64) w β 0 l.toArray:=by
 intro t ht;refine⟨?_,by simp[World.frozen?,b]⟩;rw[cell_of_row w β (0+t) _ e _ b];have e2:((l.map encI)[t]'gq)[0]'(by simp[encI])=.v (.int .i64 l[t]):=by simp[encI]
 grind [RTv]
def aA0 {P:Program}{ρ:Ren}(L:Lays.n189 P ρ)(K:∀vs w,(callFunc (ρ.f 189) vs).run P w=.ok (.enter (ρ.f 189) vs) w){e:Nat}(l:List Int):yw P (ρ.f 189) [.own 1000000] [(1000000,.rows e 1 l.length<|l.map encI)] (NT l) (λ_=>.Z9 []) λr=>[(1000000,.rows e 1 r.length<|r.map encI)]:=by
 refine⟨K,λr n w S E vs M C D=>?_⟩;have c:l.length<4611686018427387904:=by grind [NT]
 rw[UL c,AI]at n;subst n;obtain⟨v0,rfl⟩:∃v0,vs=[v0]:=by have:=D.1;match vs,this with|[a],_=>simp
 have r0:RV w S E v0<|.own 1000000:=D.2 0 sq sq;cases r0 with|own _ _ o=>
 have d:=C.ny 1000000 (.rows e 1 l.length<|l.map encI) rfl;rw[o]at d;obtain⟨O,⟨hx,I⟩|⟨β,s,vs,t,hx,J,i,g,N,n⟩⟩:=d
 ·have u:l=[]:=by grind
  subst u;subst hx;refine(Any.slices_Sort_int_none L none 0 w).mono λe' w' ⟨v,p⟩=>?_;subst p;refine⟨_,S,E,v,.Z9 [] [] rfl λj h1=>by simp,tZ.refl _ _,M,λb q=>.inl q,?_,λβ u=>.inl ?_,λ_ _=>rfl⟩;all_goals simp_all
 ·simp only[cW2]at hx g;subst hx;have z:=C.own 1000000 (.rows e 1 l.length<|l.map encI) β rfl (by rw[o];rfl);have h:iB [(1000000,ck.rows e 1 l.length<|l.map encI)] E β:=⟨1000000,_,rfl,by rw[o];rfl⟩;refine(Any.slices_Sort_int L β 0 s l w (aS3 J i g n) z.2 c).mono λe' w' ⟨v,m,os,p⟩=>?_;have k:(l.mergeSort λx y=>decide<|x<=y).length=l.length:=List.length_mergeSort l;generalize(l.mergeSort λx y=>decide<|x<=y)=r at p k|-;have A:w'=WB w β m (r++[]).toArray os:=by rw[iy];exact p
  subst A;refine⟨.tuple #[],S,E,v,.Z9 [] [] rfl λj h1=>by simp,bp9 w β m _ os _ h,λb q=>?_,λb q=>.inl q,aS2 t J i F (by rw[o,k]) z.1 z.2,λQ ⟨id,b,u,B⟩=>.inl ?_,λ_ _=>rfl⟩;·rw[Xf];grind
  ·have:id=1000000:=by grind [look,s9]
   subst this;exact⟨1000000,_,rfl,B⟩
def Wq {P:Program}{ρ:Ren}(L:Lays2.n20 P ρ)(W:∀vs w,(callFunc (ρ.f 20) vs).run P w=.ok (.enter (ρ.f 20) vs) w){e:Nat}(l:List Int):yw P (ρ.f 20) [.own 1000000] [(1000000,.rows e 1 l.length<|l.map encI)] (Cv l) (λ_=>.own 900000) λr=>[(900000,.rows e 1 r.length<|r.map encI)]:=by
 refine⟨W,λr D w S E vs R T U=>?_⟩;have j:l.length<=9223372036854775807:=by grind [Cv]
 rw[Vg j,AI]at D;obtain⟨v0,rfl⟩:∃v0,vs=[v0]:=by have:=U.1;match vs,this with|[a],_=>simp
 have r0:RV w S E v0<|.own 1000000:=U.2 0 sq sq;have one:∀(r:List Int)id b,look [(900000,ck.rows e 1 r.length<|r.map encI)] id=some b->id=900000:=λr id b c=>by grind [look,s9]
 cases r0 with|own _ _ I=>
 have k:=T.ny 1000000 (.rows e 1 l.length<|l.map encI) rfl;rw[I]at k;have o:∀v,∀id,vJ<=id->(λid=>if id=900000 then v else E id) id=E id:=λv id h=>by simp only;rw[if_neg<|by grind [vJ]]
 obtain⟨hn,⟨hx,q⟩|⟨β,s,vs,J,hx,V,t,d,X,K⟩⟩:=k;have c:l=[]:=by simpa using q
 subst c;subst hx;subst D;refine(Any.slices_Compact_int_empty L none 0 w).mono λe' w' ⟨u,n⟩=>?_;subst n;have A:∀id b,look [(900000,ck.rows e 1 (Ix []).length<|(Ix []).map encI)] id=some b->H9 ((λid=>if id=900000 then Value.slice none 0 0 else E id) id)=none:=λid b c=>by rw[one _ _ _ c];rfl
 refine⟨_,S,λid=>if id=900000 then .slice none 0 0 else E id,u,.own _ _ sq,tZ.refl _ _,R,λb B=>.inl B,⟨λid b c=>?_,λid b M c i=>?_,λid Z b b' M c N _ _=>(one _ _ _ c).trans (one _ _ _ N).symm⟩,λβ ⟨id,b,c,C⟩=>?_,o _⟩;have:=one _ _ _ c;subst this;simp[look]at c;subst c;exact⟨sq,.inl ⟨sq,by simp[Ix]⟩⟩;rw[A _ _ c]at i;cases i;rw[A _ _ c]at C;cases C;simp only[cW2]at hx d;subst hx;have C:=T.own 1000000 (.rows e 1 l.length<|l.map encI) β rfl (by rw[I];rfl);have g:iB [(1000000,ck.rows e 1 l.length<|l.map encI)] E β:=⟨1000000,_,rfl,by rw[I];rfl⟩;refine(Any.slices_Compact_int L β 0 s l w (aS3 V t d K) j d).mono λe' w' ⟨u,m,n⟩=>?_;rw[ba1]at u n;have O:(Ix l).length<=l.length:=by
  have key:∀(l:List Int)p,(Vf p l).length<=l.length:=by intro l;induction l with|nil=>intro p;exact cW6 _|cons y l ih=>intro p;unfold Vf;have:=ih y;cases y==p;simp only[cT8,cU9];omega;simp only[cT9,cU9];omega
  cases l with|nil=>exact cW6 _|cons x l=>simp only[Ix,cU9];have:=key l x;omega
 rw[D]at u n O;generalize cI5 (l.length-r.length) (0:Int)=z at n;have Q:w'=WB w β m (r++z).toArray #[]:=by rw[n];simp[WB]
 subst Q;refine⟨_,S,λid=>if id=900000 then .slice (some ⟨β,0,none⟩) r.length s else E id,u,.own _ _ sq,bp9 w β m _ _ _ g,λb B=>?_,λb B=>.inl B,aS2 J V t F sq C.1 C.2,λM ⟨id,b,c,i⟩=>.inl ?_,o _⟩;rw[Xf];exact dc7 (R b B)<|Nat.le_add_right _ _;have:=one _ _ _ c;subst this;have e1:M=β:=by simpa[H9]using i.symm
 subst e1;exact g
def UI {P:Program}{w:World}(t u ty e:TypeId)(i:TypeInfo)(z:Value)(j ik:IntKind)(ht:P.underlying t=some (.slice e))(k:P.underlying u=some (.int j))(hi:P.info? e=some i)(hz:i.zero=some z)(n:Nat)(h0:0<n)(l:0<i.size)(o:n<=1073741824)(p:n*i.bytes<=140737488355328):(Builtin.append_ #[t,u] ty #[.slice none 0 0,.int ik n]).run P w=.ok (.slice (some ⟨w.heap.size,0,none⟩) n<|grownCap w n 0 e) (w.drew.alloc<|.cells (Builtin.zeroCells z.cells n++Builtin.zeroCells z.cells (grownCap w n 0 e-n)) e):=by
 have a:n≠0:=by omega
 have b:i.size≠0:=by omega
 have m:IntKind.i64.wrap (n:Int)=(n:Int):=b6 F F;have c:¬(n:Int)<0:=by omega
 have g:¬(281474976710656:Int)<(n:Int)*(i.bytes:Int):=by
  have:((n*i.bytes:Nat):Int)<=140737488355328:=by omega
  omega
 have d:¬9223372036854775807<(n:Int):=by omega
 have f:¬281474976710656<Builtin.nextslicecap n 0*i.bytes:=by rw[nextslicecap_zero h0];omega
 simp[Builtin.append_,run_underlying ht,run_underlying k,sizeOf,typeInfo,zeroValue,hi,hz,Builtin.lenOf,Builtin.firstCells,a,b,m,c,g,d,f,asInt,asIntOf,Question.forced,newRow,grownCap];intro h;exact absurd h<|Nat.mul_ne_zero a b
section
variable {ρ α:Type}{X:Cx}{ks:List K}{tm tm':J4}{hp L9:F1}{m:Option ρ}{Q:ρ->Exit->St->Prop}{all:Array Oper}{o:Oper}{rest:List Oper}{w0:World}{L:GL}{nt:Nat}{S:Nat->Prop}{E:Nat->Value}{a:Act}{w:World}
theorem Ok.yn {P:Program}(h:Ok w0 L nt ⟨tm,hp⟩ S E a w){id t u ty e n:Nat}{W ik:IntKind}{ti:TI}{c:List Tree}(p:Y3 id vJ=true)(hf:F6 id tm=true)(hb:E8 id hp=true)(ht:P.underlying t=some (.slice e))(hu:P.underlying u=some (.int W))(K:Ci P e ti)(hz:ti.zero.length=ti.size)(q:0<ti.size)(X:c=ti.zero.map λv=>jm<|.v v)(h0:0<n)(l:n<=1073741824):∃v' w' E',(Builtin.append_ #[t,u] ty #[.slice none 0 0,.int ik n]).run P w=.ok v' w'/\E' id=v'/\Ok w0 L nt ⟨tm,(id,.rows e ti.size n<|cI5 n c)::hp⟩ S E' a w':=by
 obtain⟨i,d,hi,I,_,_,⟨z,M,s⟩,N⟩:=K;have x:c.length=ti.size:=by rw[X,cW2,hz]
 have m:z.cells.size=i.size:=by rw[I,<-hz,<-s];simp
 have g:n*i.bytes<=140737488355328:=by have:=Nat.mul_le_mul l N;omega
 have J:=UI (P:=P) (w:=w) t u ty e i z W ik ht hu hi M n h0 F l g;have y:=grownCap_ge w n 0 e;have A:grownCap w n 0 e<=maxLen:=grownCap_le_maxLen w n 0 e (by simp only[maxLen];omega);generalize grownCap w n 0 e=f at J y A;have B:∀k (hk:k<n*i.size)(O:k<(Builtin.zeroCells z.cells n++Builtin.zeroCells z.cells (f-n)).toList.length),(Builtin.zeroCells z.cells n++Builtin.zeroCells z.cells (f-n)).toList[k]=ti.zero[k%ti.size]'(by rw[hz];exact cY9 _ q):=by
  intro k hk O;have Z:k%z.cells.size<z.cells.size:=cY9 _ F;have Q:k<(Builtin.zeroCells z.cells n).size:=by rw[size_zeroCells,m];exact hk
  rw[cS7,Array.getElem_append_left Q];simp only[Builtin.zeroCells,Array.getElem_map,Array.getElem_range];rw[getElem!_pos z.cells _ Z];have:z.cells[k%z.cells.size]=z.cells.toList[k%z.cells.size]'(by simpa using Z):=by simp
  rw[this];simp only[s,m,I]
 obtain⟨E',hE,R⟩:=h.ZG (w':=w.drew.alloc<|.cells (Builtin.zeroCells z.cells n++Builtin.zeroCells z.cells (f-n)) e) (v:=.slice none 0 0) (v':=.slice (some ⟨w.heap.size,0,none⟩) n f) (b:=.rows e ti.size n<|cI5 n c) p hf hb (λβ C=>by cases C) (λ_ _ β _ C=>by cases C) ⟨rfl,rfl,rfl,by simp,λk hk _=>Below.heap_alloc w.drew _ _ hk,Nat.le_succ _⟩ λβ C=>by cases C;simp (λE'=>by
  refine⟨sq,.inr ⟨w.heap.size,f,(Builtin.zeroCells z.cells n++Builtin.zeroCells z.cells (f-n)).toList,A,by simp,by exact heap_alloc_new w.drew _,?_,by simpa using y,?_,?_⟩⟩;rw[cT1,Array.size_append,size_zeroCells,size_zeroCells,m,<-dd9,I];congr 1;omega;intro r J;rw[(List.mem_replicate.1 J).2];exact x;intro D j T hj U;have hi2:D<n:=by simpa using T
  simp only[de3]at hj|-;have o:j<ti.size:=by rw[<-x];exact hj
  have V:D*ti.size+j<n*i.size:=by have:(D+1)*ti.size<=n*ti.size:=cW8 _ F;rw[dc5]at this;rw[I];omega
  have e1:(Builtin.zeroCells z.cells n++Builtin.zeroCells z.cells (f-n)).toList[D*ti.size+j]=ti.zero[j]'(by rw[hz];exact o):=by
   rw[B _ V U];have:(D*ti.size+j)%ti.size=j:=by rw[dd3,cR5,cZ2 o]
   simp only[this]
  rw[e1];have e2:c[j]=jm (.v<|ti.zero[j]'(by rw[hz];exact o)):=by subst X;simp
  rw[e2];exact xC<|.v _);exact⟨_,_,E',J,hE,R⟩
def o0.ce7 {t u e d s0 s1:Nat}{z0 U:List Value}{g:TI}{s x:Operand}{T ik:IntKind}{n:Int}{enc:α->List Tree}{k:List α->Option ρ}(id:Nat)(z:α)(V:o.op=.call ⟨.builtin .append,#[s,x],#[t,u]⟩)(W:o.dst=some d)(A:Y3 d X.nt=true)(Z:R8 all.toList tm o.guard=some true)(hs:val tm s=some (.t<|.v<|.slice none 0 0))(hx:val tm x=some (.t<|.v<|.int ik n))(B:look X.tab t=some ⟨s0,.slice e,z0⟩)(C:look X.tab u=some ⟨s1,.int T,U⟩)(D:look X.tab e=some g)(hz:g.zero.length=g.size)(m:Y3 0 g.size=true)(p:enc z=g.zero.map λv=>jm<|.v v)(q:Y3 id vJ=true)(I:F6 id tm=true)(J:E8 id hp=true)(h:∀y,ac6 n z=some y->o0 X all rest ks ⟨(d,.own id)::tm,(id,.rows e g.size y.length<|y.map enc)::hp⟩ (k y) Q):o0 X all (o::rest) ks ⟨tm,hp⟩ ((ac6 n z).bind k) Q:=λy L a w ⟨S,E,hk⟩=>by cases b:ac6 n z with|none=>simp[b]at L|some l=>
  have h0:=b;unfold ac6 at h0;split at h0<;>try cases h0;done
  simp[AI]at h0;simp[b]at L;obtain⟨dd,r,M⟩:∃d,X.P.underlying t=some d/\TD.ok X.P (.slice e) d:=by obtain⟨i,d,_,_,r,c,_⟩:=X.C8 t _ B;exact⟨d,r,c⟩
  subst M;obtain⟨du,N,O⟩:∃d,X.P.underlying u=some d/\TD.ok X.P (.int T) d:=by obtain⟨i,d,_,_,r,c,_⟩:=X.C8 u _ C;exact⟨d,r,c⟩
  subst O;obtain⟨j,rfl⟩:∃j:Nat,n=j:=⟨n.toNat,by omega⟩;obtain⟨v',w',E',hr,hE,R⟩:=hk.yn (n:=j) (ty:=o.type) (ik:=ik) q I J r N (X.C8 e _ D) hz (cU8 m) p F F;refine wpList_step λK hK=>?_;rw[I3 hk Z];unfold Oper.wp;have f:(execOp a.eval o).run X.P w=.ok (.value v') w':=by unfold execOp;simp[V,resolve,invoke,builtin,cV1,cW0,OF,cZ9,ew,db6,(hk.val hs).tv,(hk.val hx).tv,hr]
  rw[f];refine hK _ _<|h l b y L _ _ ⟨S,E',?_⟩;rw[W];have e1:l.map enc=cI5 j (enc z):=by rw[<-h0];simp
  have e2:l.length=j:=by rw[<-h0];simp
  rw[e1,e2];exact R.put (cU8 A)<|.own id _ hE
end
section
variable {P:Program}{ρ τ β:Type}{X:Cx}
def ak1 {α:Type}{a:Bool}{sz:Nat}{l:List T}{res:α->T}:∀{ys:List α}{k:Nat},(bJ3 a sz l res ys k).den->∀j y,ys[j]?=some y->Av a sz l ((k+j)*sz)=some (res y)|[],_,_,j,y,h=>by simp at h|z::r,k,ht,0,y,h=>by simp[cY1,AI]at h;subst h;exact V.eq ht.1|z::r,k,ht,j+1,y,h=>by have:=ak1 ht.2 j y (by simpa using h);rwa[cD6,Nat.add_comm 1 j]at this
def aJ4 {α:Type}{enc:α->List Tree}{sz:Nat}(h:∀y,(enc y).length=sz):∀{ys:List α}{j:Nat}{y:α},ys[j]?=some y->∃r,(cat enc ys).drop (j*sz)=enc y++r|[],j,y,a=>by simp at a|x::l,0,y,a=>by simp_all[cat]|x::l,j+1,y,a=>by obtain⟨r,b⟩:=aJ4 h (ys:=l) (j:=j) (y:=y) gq;refine⟨r,?_⟩;rw[cat,dc5,Nat.add_comm,<-bT3,List.drop_left'<|h x];exact b
def RV.ci0 {w:World}{S:Nat->Prop}{E:Nat->Value}{x:Value}{l r:List Tree}(h:RV w S E x<|.el<|l++r):RV w S E x<|.el l:=by cases h with|el b o _ vs a c e=>refine .el b o l vs a (λj d=>c j<|by simp;omega) λj d=>?_;grind
theorem L1.ok {tm:J4}{hp:F1}{o:Oper}:∀{τ:Type}{l:L1 τ}{t:Tr}{res:τ->T},l.q X.tab tm hp o.op=some (t,res)->t.den->∀(y:τ)(S:Nat->Prop)(E:Nat->Value)(a:Act)(w:World),l.m=some y->Ok X.w0 X.L X.nt ⟨tm,hp⟩ S E a w->∃v,(execOp a.eval o).run X.P w=.ok (.value v) w/\RV w S E v (res y)
 |_,.ix enc l i,t,res,h,ht=>by
  simp only[L1.q]at h;split at h<;>try cases h;done
  rename_i ty x Z f;split at h<;>try cases h;done
  rename_i X' k j s0 e z0 hx hi g;split at h<;>try cases h;done
  rename_i N u;split at h
  ·rename_i id;split at h<;>try cases h;done
   rename_i el sz n rs hb;cases O:cV4 N.size sz<;>simp only[O,cT9,cT8,reduceCtorEq,AI,cz4]at h;obtain⟨rfl,rfl⟩:=h;obtain⟨h1,z⟩:=ht;have h1:=V.eq h1;have z:=V.eq z;simp only[cz4]at h1;obtain⟨rfl,rfl⟩:=h1;subst z;intro y S E a w c hk;obtain⟨h0,hl,hlt⟩:=sY c;have hiv:=(hk.val hi).tv;obtain⟨dd,J,A⟩:=(X.C8 ty _ g).dv w;simp only[TD.ok]at A;subst A;have hs:=(X.C8 e _ u).iJ w;have hll:j.toNat<l.length:=by omega
   have Q:=hk.val hx;generalize hxe:a.eval x=xv at Q;cases Q with|own _ _ hE=>
    obtain⟨W,⟨K,hr⟩|⟨β,cap,vs,_,K,hh,_⟩⟩:=hk.hp id _ hb;·grind
    ·have:=bD O;subst this;have hpe:=RV.pe (w:=w) (S:=S) (E:=E) id j.toNat N.size 0 β (l.map enc).length cap K;refine⟨_,?_,hpe⟩;rw[K]at hE;subst hE;simp only[execOp,f,Instr.indexAt,hiv,asIntOf,cV1,cW0,OF,J,hxe];have c1:0<=j/\j<((l.map enc).length:Int):=⟨h0,by omega⟩;simp only[cV1,OF,cW0,c1,and_self,if_true,hs,mT,cX4,cq7]
  ·simp only[AI,cz4]at h;obtain⟨rfl,rfl⟩:=h;obtain⟨h1,z,C⟩:=ht;have h1:=V.eq h1;have z:=V.eq z;have C:=V.eq C;subst h1 z;intro y S E a w c hk;exact Oq hk c f hx hi g u λy=>congrFun C y|_,.quo k i j,t,res,h,ht=>by
  simp only[L1.q]at h;split at h<;>try cases h;done
  rename_i ty x y yt f;split at h<;>try cases h;done
  rename_i k1 x1 k2 y1 hx p;simp only[AI,cz4]at h;obtain⟨rfl,rfl⟩:=h;have h1:=V.eq ht;simp only[cz4]at h1;obtain⟨rfl,rfl,rfl,rfl⟩:=h1;intro q S E a w c hk;simp only[L1.m,KT]at c;split at c;·cases c
  ·rename_i B;cases c;refine⟨_,?_,.t<|.v _⟩;simp only[execOp,f,cV1,(hk.val hx).tv,(hk.val p).tv,rK .quo ty x y (.int _ _) (.int _ _) sq sq,OF];simp[binOp,Op.intDiv,B]|_,.rem i j,t,res,h,ht=>by
  simp only[L1.q]at h;split at h<;>try cases h;done
  rename_i ty x y yt f;split at h<;>try cases h;done
  rename_i k1 x1 k2 y1 hx p;simp only[AI,cz4]at h;obtain⟨rfl,rfl⟩:=h;have h1:=V.eq ht;simp only[cz4]at h1;obtain⟨rfl,rfl,rfl⟩:=h1;intro q S E a w c hk;simp only[L1.m,SF]at c;split at c;·cases c
  ·rename_i B;cases c;refine⟨_,?_,.t<|.v _⟩;simp only[execOp,f,cV1,(hk.val hx).tv,(hk.val p).tv,rK .rem ty x y (.int _ _) (.int _ _) sq sq,OF];simp[binOp,Op.intDiv,B]|_,.shl k i j,t,res,h,ht=>by
  simp only[L1.q]at h;split at h<;>try cases h;done
  rename_i ty x y yt f;split at h<;>try cases h;done
  rename_i k1 x1 k2 y1 hx p;simp only[AI,cz4]at h;obtain⟨rfl,rfl⟩:=h;have h1:=V.eq ht;simp only[cz4]at h1;obtain⟨rfl,rfl,rfl⟩:=h1;intro q S E a w c hk;simp only[L1.m,cJ3]at c;split at c;·cases c
  ·rename_i B;cases c;refine⟨_,?_,.t<|.v _⟩;simp only[execOp,f,cV1,(hk.val hx).tv,(hk.val p).tv,rK .shl ty x y (.int _ _) (.int _ _) sq sq,OF];simp[binOp,Op.shift,B,AA]|_,.shr k i j,t,res,h,ht=>by
  simp only[L1.q]at h;split at h<;>try cases h;done
  rename_i ty x y yt f;split at h<;>try cases h;done
  rename_i k1 x1 k2 y1 hx p;simp only[AI,cz4]at h;obtain⟨rfl,rfl⟩:=h;have h1:=V.eq ht;simp only[cz4]at h1;obtain⟨rfl,rfl,rfl⟩:=h1;intro q S E a w c hk;simp only[L1.m,co4]at c;split at c;·cases c
  ·rename_i B;cases c;refine⟨_,?_,.t<|.v _⟩;simp only[execOp,f,cV1,(hk.val hx).tv,(hk.val p).tv,rK .shr ty x y (.int _ _) (.int _ _) sq sq,OF];simp[binOp,Op.shift,B,w9]|_,.str s i,t,res,h,ht=>by
  simp only[L1.q]at h;split at h<;>try cases h;done
  rename_i ty x Z f;split at h<;>try cases h;done
  rename_i s1 k j s0 z0 hx hi g;simp only[AI,cz4]at h;obtain⟨rfl,rfl⟩:=h;have h1:=V.eq ht;simp only[cz4]at h1;obtain⟨rfl,rfl⟩:=h1;intro q S E a w c hk;obtain⟨dd,hu,A⟩:∃d,X.P.underlying ty=some d/\TD.ok X.P .string d:=by obtain⟨i,d,_,_,hu,J,_⟩:=X.C8 ty _ g;exact⟨d,hu,J⟩
  simp only[TD.ok]at A;subst A;simp only[L1.m,cK2]at c;refine⟨_,?_,.t<|.v _⟩;have R:0<=j/\j<s1.size:=by
   by_cases h0:0<=j
   ·rw[if_pos h0]at c;by_cases h1:j.toNat<s1.size;·exact⟨h0,by omega⟩
    ·rw[ByteArray.getElem?_ge' s1 _ F]at c;cases c
   ·rw[if_neg h0]at c;cases c
  rw[if_pos R.1,ByteArray.getElem?_lt' s1 _ F]at c;simp only[cW3,AI]at c;subst c;simp only[execOp,f,cV1,(hk.val hx).tv,(hk.val hi).tv,run_index_string w ty s1 k j hu,R,and_self,dite_true,OF,cW0]|_,.arr res ys i,t,res',h,ht=>by
  simp only[L1.q]at h;split at h<;>try cases h;done
  rename_i ty x Z f;split at h<;>try cases h;done
  rename_i l k j s0 n e z0 hx hi g;split at h<;>try cases h;done
  rename_i N u;cases U:cV4 ys.length n<;>rw[U]at h<;>simp only[cT9,cT8,reduceCtorEq,AI,cz4]at h;obtain⟨rfl,rfl⟩:=h;obtain⟨h1,z⟩:=ht;have h1:=V.eq h1;subst h1;have W:=bD U;intro q S E a w c hk;obtain⟨h0,p,_⟩:=sY c;obtain⟨j',rfl⟩:∃j':Nat,j=Int.ofNat j':=⟨j.toNat,by simp;omega⟩;have p:ys[j']?=some q:=by simpa using p
  have B:j'<n:=by rw[<-W];exact(No.1 p).1
  have M:=hk.val hx;generalize D:a.eval x=pv at M;cases M with|agg vs _ hl hrr=>have C:=ak1 z j' q p;rw[cX4]at C;obtain⟨v,hv1,I⟩:=Xx (ik:=k) X.C8 g u B ⟨hl,hrr⟩ C;exact⟨v,by simp only[execOp,f,D,(hk.val hi).tv,hv1,cV1,OF,cW0],I⟩
 |_,.ax enc ys i,t,res,h,ht=>by
  simp only[L1.q]at h;split at h<;>try cases h;done
  rename_i ty x Z f;split at h<;>try cases h;done
  rename_i cs k j s0 n e z0 hx hi g;split at h<;>try cases h;done
  rename_i N u;cases U:cV4 ys.length n<;>simp only[U,cT9,cT8,reduceCtorEq,AI,cz4]at h;obtain⟨rfl,rfl⟩:=h;obtain⟨h1,z,C⟩:=ht;have h1:=V.eq h1;have z:=V.eq z;have C:=V.eq C;subst h1 z;have W:=bD U;intro y S E a w c hk;obtain⟨h0,p,_⟩:=sY c;obtain⟨j',rfl⟩:∃j':Nat,j=Int.ofNat j':=⟨j.toNat,by simp;omega⟩;have p:ys[j']?=some y:=by simpa using p
  have B:j'<n:=by rw[<-W];exact(No.1 p).1
  have M:=hk.val hx;obtain⟨b,o',D⟩:=M.Qn;rw[D]at M;obtain⟨r,hr⟩:=aJ4 (λy=>congrFun C y) p;have I:=M.WS<|j'*N.size;rw[hr]at I;refine⟨_,?_,I.ci0⟩;simp only[execOp,f,D,(hk.val hi).tv,JJ X.C8 g u B,cV1,OF,cW0]
def L1.known {Γ:List GF}(b:∀f∈Γ,f.ok):∀{τ:Type}{l:L1 τ}{y:τ},l.m=some y->∀f∈l.k y Γ,f.ok|_,.ix enc l i,y,h,f,a=>by rcases cV6.1 a with rfl|a;exact h;grind|_,.quo _ _ _,y,h,f,a=>b f a|_,.rem _ _,y,h,f,a=>b f a|_,.shl _ _ _,y,h,f,a=>b f a|_,.shr _ _ _,y,h,f,a=>b f a|_,.str _ _,y,h,f,a=>b f a|_,.arr _ _ _,y,h,f,a=>b f a|_,.ax _ _ _,y,h,f,a=>b f a
theorem W1.ok {Ev:EqV X.P}{Γ:List GF}(K:∀f∈Γ,f.ok){tm:J4}{hp:F1}{o:Oper}:∀{u:W1}{t:Tr}{V:T},u.q Ev X.tab Γ tm hp o.op=some (t,V)->t.den->∀(S:Nat->Prop)(E:Nat->Value)(a:Act)(w:World),Ok X.w0 X.L X.nt ⟨tm,hp⟩ S E a w->∃v,(execOp a.eval o).run X.P w=.ok (.value v) w/\RV w S E v V
 |.hx n,t,V,h,ht=>by
  simp only[W1.q]at h;split at h<;>try cases h;done
  rename_i f B;split at h<;>try cases h;done
  rename_i g res N;obtain⟨rfl,rfl⟩:=h;intro S E a w hk;exact L1.ok N ht f.y S E a w (K f<|bX3 B) hk|.ly n,t,V,h,ht=>by
  simp only[W1.q]at h;split at h<;>try cases h;done
  rename_i f g p B j;split at h<;>try cases h;done
  rename_i id i sz off ti hp1 hti;split at h<;>try cases h;done
  rename_i e C W rs r z A;cases d:cV4 sz C<;>simp only[d,cT9,cT8,reduceCtorEq,AI,cz4]at h;have d:=bD d;subst d;obtain⟨rfl,rfl⟩:=h;have h1:=V.eq ht;simp only[cz4]at h1;obtain⟨rfl,rfl,rfl⟩:=h1;intro S E a w hk;have D:=K f<|bX3 B;obtain⟨v,h1,Z⟩:=aN5 (P:=X.P) hk (X.C8 g _ hti) z (hk.val hp1) (by rw[bg5,(sY D).2.1];rfl) A;grind [execOp,cV1,OF,cW0]|.eq,t,V,h,ht=>by
  simp only[W1.q]at h;split at h<;>try cases h;done
  rename_i op ty x y yt j;split at h<;>try cases h;done
  rename_i xs ys hx D;split at h<;>try cases h;done
  rename_i b z;obtain⟨vs,us,rfl,rfl,O⟩:=Ev.ok _ _ _ _ z;intro S E a w hk;have A:=cw6 (o:=o) (w:=w) (yt:=yt) O (bj0<|hk.val hx)<|bj0<|hk.val D;split at h<;>try cases h;done
  ·obtain⟨rfl,rfl⟩:=h;exact⟨_,A.1 j,.t<|.v _⟩
  ·obtain⟨rfl,rfl⟩:=h;exact⟨_,A.2 j,.t<|.v _⟩|.cn,t,V,h,ht=>by
  simp only[W1.q]at h;split at h<;>try cases h;done
  rename_i a b j;split at h<;>try cases h;done
  rename_i x g M z;split at h<;>try cases h;done
  rename_i s0 e z0 hx l;obtain⟨rfl,rfl⟩:=h;have M:a=#[x]:=by cases a;simp_all
  have z:b=#[g]:=by cases b;simp_all
  subst M z;intro S E a w hk;obtain⟨Q,m,c⟩:=(X.C8 g _ l).dv w;simp only[TD.ok]at c;subst c;have s:=(hk.val hx).tv;refine⟨.int .i64 0,?_,.t<|.v _⟩;unfold execOp;simp[j,resolve,invoke,builtin,s,Builtin.cap_,m,goInt]|.sn,t,V,h,ht=>by
  simp only[W1.q]at h;split at h<;>try cases h;done
  rename_i g x hi j;split at h<;>try cases h;done
  rename_i k s0 e z0 hx R l;split at h<;>try cases h;done
  rename_i te I;obtain⟨rfl,rfl⟩:=h;intro S E a w hk;obtain⟨Q,m,c⟩:=(X.C8 g _ l).dv w;simp only[TD.ok]at c;subst c;have s:=(hk.val hx).tv;have J:=(hk.val R).tv;have U:=(X.C8 e _ I).iJ w;refine⟨.slice none 0 0,?_,.t<|.v _⟩;unfold execOp;simp[j,Instr.sliceAt,Instr.slice,Instr.sliceBounds,Instr.sliceBound,asIntOf,s,J,m,U]
def bM0 {P:Program}{w0:World}{L:GL}{nt:Nat}{σ:St}{S:Nat->Prop}{E:Nat->Value}{a:Act}{w:World}(h:Ok w0 L nt σ S E a w){o:Oper}{n:Nat}{l:List T}{c:List<|List Tree}(d:Yc σ.tm o=some (n,l,c))(v:∀vs w,(callFunc n vs).run P w=.ok (.enter n vs) w):∃vs e:List Value,(execOp a.eval o).run P w=.ok (.enter n (vs++e).toArray) w/\xJ w S E vs l/\∀E',xJ w S E' e<|c.map T.el:=by
 obtain⟨dst,y,type,pos,m,guard⟩:=o;unfold Yc at d;split at d<;>try cases d
 rename_i f args p q;subst q;have key:∀(g:Nat)(b:List<|List Tree)(l':List T),RV w S E (a.eval f) (.fz g b)->GJ σ.tm args.toList=some l'->g=n->b=c->l'=l->∃vs e:List Value,(execOp a.eval ⟨dst,.call ⟨.value f,args,p⟩,type,pos,m,guard⟩).run P w=.ok (.enter n (vs++e).toArray) w/\xJ w S E vs l/\∀E',xJ w S E' e<|c.map T.el:=by intro g b l' i k e1 e2 s;subst e1 e2 s;generalize hx:a.eval f=x at i;cases i with|fz _ e _ t hp=>
   refine⟨args.toList.map a.eval,e,?_,Tg h _ _ k,λE'=>⟨gq,λj h1 z=>?_⟩⟩;·simp_all[execOp,resolve,Deferred.ofValue,invoke]
   ·simp[cX7];exact(hp j h1 F).rv
 split at d<;>try cases d;done
 ·rename_i g b l' r k;obtain⟨rfl,rfl,rfl⟩:=d;exact key _ _ _ (h.val r) k rfl rfl rfl
 ·rename_i g cs l' r k;split at d<;>try cases d;done
  rename_i b u;obtain⟨rfl,rfl,rfl⟩:=d;exact key _ _ _ (RV.cb0 (h.val r) u) k rfl rfl rfl
end
end Go.Pv

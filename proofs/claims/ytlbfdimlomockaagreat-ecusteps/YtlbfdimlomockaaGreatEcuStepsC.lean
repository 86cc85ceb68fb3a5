/- A part of the proof of EcuSteps: The walk reckoned, and more. -/
import Derived.Test.YtlbfdimlomockaaGreatEcuStepsB
import Derived.MapKept
import Derived.Carry
import Derived.KernelRfl
import Derived.Test.YtlbfdimlomockaaGreatProg
set_option linter.all false
set_option maxRecDepth 100000
noncomputable section
open Array renaming getElem?_eq_some_iff->cL9
open Bool renaming and_eq_true->BY,and_true->dd8,not_true->AT,or_eq_true->bh7
open Int renaming tdiv->bQ2,tmod->uk,toNat->cy6
open Go.IntKind renaming u64->IS
open List renaming all_eq_true->cV2,drop_drop->bT3,filter_cons->dc3,filter_nil->dd6,getElem?_cons_zero->cY1,getElem?_eq_some_iff->No,getElem?_map->bg5,getElem?_take->db5,head?_drop->cX6,length_append->IT,length_nil->cX0,map_cons->ew,mem_cons->cV6,mem_cons_of_mem->cV3,mem_cons_self->cV7,mem_filter->de0,mem_map->cX3,pairwise_cons->ba8
open Nat renaming add_assoc->cD6,beq->cV4,beq_refl->tj,ble->dc6,blt->Y3,eq_of_beq_eq_true->bD,le_of_ble_eq_true->cU8,le_refl->cW6,le_trans->cw2,lt_of_lt_of_le->dc7,lt_or_ge->db7,zero_add->cX4
open Option renaming bind->tI,bind_eq_some_iff->cM6,bind_some->oq,getD_some->cx4,isSome_iff_exists->da0,map_eq_some_iff->dd4,map_some->cW3
open Option.some renaming injEq->AI
open Prod.mk renaming injEq->cz4
open Go.Pv renaming encI->By,encS->cv3
open Go.Result renaming andThen_ok->OF
open Go.Sem renaming run_bind->cV1,run_pure->cW0
namespace Go.Pv
open Go.RowKit
def vz (hp L9:F1):Prop:=∀k b,look hp k=some b->look L9 k=some b
theorem ao7 {hp L9:F1}(h:vz hp L9){x:T}(a:one hp x=true):one L9 x=true:=by cases x with|own id=>simp[one,da0]at a|-;obtain⟨b,c⟩:=a;exact⟨b,h _ _ c⟩|t x=>cases x<;>exact a|_=>exact a
theorem Zh {hp L9:F1}(h:vz hp L9):∀{l:List T},Zg hp l=true->Zg L9 l=true|[],_=>rfl|x::l,a=>by simp[Zg,BY]at a|-;exact⟨ao7 h a.1,Zh h a.2⟩
theorem Eo {hp L9:F1}(h:vz hp L9){x:T}{l:List T}(a:cq hp x=some l):cq L9 x=some l:=by
 have b:∀{y:T},(bif one hp y then some [y]else none)=some l->(bif one L9 y then some [y]else none)=some l:=by grind [ao7]
 cases x with|agg m=>simp[cq]at a|-;grind [Zh]|_=>grind [cq]
theorem GP {hp L9:F1}{tm:J4}(h:vz hp L9){a:Nat->Option (Nat×Nat)}:∀{l:List<|Nat×Operand}{cs r:List T},nF hp tm a cs l=some r->nF L9 tm a cs l=some r|[],cs,r,hx=>hx|(i,x)::l,cs,r,hx=>by unfold nF at hx|-;cases c:val tm x with|none=>grind|some t=>simp[c,oq]at hx|-;cases b:cq hp t with|none=>grind|some m=>rw[Eo h b];rw[b]at hx;cases hp:a i with|none=>grind|some p=>obtain⟨o,n⟩:=p;simp[hp]at hx|-;cases d:cV4 m.length n&&dc6 (o+m.length) cs.length<;>simp only[d,cT9]at hx|-;cases hx;exact GP h hx
def bc7 {tab:vH}{hp L9:F1}(h:vz hp L9){ty:Nat}{x:Option T}{t:T}(a:aN3 tab hp ty x=some t):aN3 tab L9 ty x=some t:=by
 unfold aN3 at a|-;repeat' split at a
 all_goals first|done|simp_all;done|rename_i b;simp_all[h _ _ b]
def bw2 {tab:vH}{tm:J4}{hp L9:F1}{o:Oper}{t:T}(h:vz hp L9)(hi:HM o.op=true)(a:evalOp tab ⟨tm,hp⟩ o=some (t,⟨tm,hp⟩)):evalOp tab ⟨tm,L9⟩ o=some (t,⟨tm,L9⟩):=by
 rw[sV]at a|-;obtain⟨dst,j,type,pos,q,guard⟩:=o;have mp:∀{x:Option T},x=some t->x.map (·,(⟨tm,L9⟩:St))=some (t,⟨tm,L9⟩):=λhx=>by rw[hx];rfl
 cases j<;>simp only[HM,reduceCtorEq]at hi<;>simp only[Bw]at a|-;case move x=>simp_all
 case assign x=>simp_all
 case pick c x y=>
  split at a<;>try cases a;done
  simp_all
 case load ty x=>
  split at a<;>try cases a;done
  ·split at a<;>try cases a;done
   rename_i b;rw[h _ _ b];exact mp (H0 a).1
  simp_all
 case nilCheck x=>split at a<;>first|cases a;done|simp only[AI,cz4]at a;rw[<-a.1]
 case fieldAddr s x f=>
  split at a<;>try cases a;done
  all_goals
   split at a<;>try cases a;done
   simp only[AI,cz4]at a;rw[<-a.1]
 case binOp j ty x y yt=>exact mp (H0 a).1
 case unOp j ty x=>exact mp (H0 a).1
 case convert s d x=>
  split at a<;>try cases a;done
  exact mp (H0 a).1
 case extract x k=>
  split at a<;>try cases a;done
  exact mp (H0 a).1
 case build ty parts=>
  split at a<;>try cases a;done
  ·rename_i sz r z m;cases g:nF hp tm (r[·]?) (z.map λx=>.t<|.v x) parts.toList with|none=>simp[g]at a|some l=>rw[GP h g];simp only[g,cW3,AI,cz4]at a;simp only[cW3,a.1]
  ·rename_i sz n e z m;split at a<;>try cases a;done
   rename_i p u;cases g:nF hp tm (λi=>some (i*p.size,p.size)) (z.map λx=>.t<|.v x) parts.toList with|none=>simp[g]at a|some l=>rw[GP h g];simp only[g,cW3,AI,cz4]at a;simp only[cW3,a.1]
 case indexAddr ty x ix=>
  split at a<;>try cases a;done
  all_goals
   split at a<;>try cases a;done
   revert a;cases Y3 _ _<;>intro a<;>simp only[cT9,cT8,reduceCtorEq,AI,cz4]at a|-;exact⟨a.1,trivial⟩
 case index ty x ix=>
  split at a<;>try cases a;done
  split at a<;>try cases a;done
  revert a;cases Y3 _ _<;>intro a<;>simp only[cT9,cT8,reduceCtorEq]at a|-;exact mp (H0 a).1
 case call c=>
  have b:=(H0 a).1;refine mp ?_;unfold aJ1 at b|-;split at b<;>try cases b;done
  ·exact bc7 h b
  ·exact b
  ·exact b
def aK9 {tab:vH}{tm tm':J4}{hp L9:F1}{o:Oper}{t:T}(h:more tm tm')(a:vz hp L9)(hi:HM o.op=true)(b:evalOp tab ⟨tm,hp⟩ o=some (t,⟨tm,hp⟩)):evalOp tab ⟨tm',L9⟩ o=some (t,⟨tm',L9⟩):=bw2 a hi<|aL0 h hi b
def rM:Op->Bool|.alloc _|.box ..|.buildSlice ..|.makeSlice ..=>true|_=>false
def bb6 {tab:vH}{tm tm':J4}{hp L9:F1}{o:Oper}{t:T}{d:Nat}{b:ck}(h:more tm tm')(k:vz hp L9)(hi:rM o.op=true)(m:o.dst=some d)(a:evalOp tab ⟨tm,hp⟩ o=some (t,⟨tm,(d,b)::hp⟩))(z:(F6 d tm'&&E8 d L9)=true):evalOp tab ⟨tm',L9⟩ o=some (t,⟨tm',(d,b)::L9⟩):=by
 rw[sV]at a|-;obtain⟨dst,p,type,pos,q,guard⟩:=o;subst m;cases p<;>simp[rM]at hi<;>simp only[Bw]at a|-;case alloc e=>cases c:look tab e with|none=>grind|some ti=>grind
 case box e x=>cases r:val tm x with|none=>grind|some u=>simp[r,oq]at a;cases s:cq hp u with|none=>grind|some l=>simp[s]at a;cases w:Y3 d vJ&&F6 d tm&&E8 d hp<;>rw[w]at a<;>simp[and_true]at a;grind [u6,Eo]
 case buildSlice ty n parts=>
  split at a<;>try cases a
  rename_i A s0 e z0 f c;simp[AI]at f;split at a<;>try cases a
  rename_i g y;cases j:nF hp tm (λi=>some (i*g.size,g.size)) ((yn n g.zero).map λx=>.t<|.v x) parts.toList with|none=>grind|some l=>rw[GP k<|Ks h j];grind
 grind
def pt (o:Oper)(V:T)(tm:J4):J4:=match o.dst with|some d=>(d,V)::tm|none=>tm
def Bh (N:Option<|Nat×ck)(hp:F1):F1:=match N with|some p=>p::hp|none=>hp
def Xu (o:Oper)(N:Option<|Nat×ck):Option Nat:=match o.op with
 |.call _=>match N with|some (id,_)=>some id|none=>none
 |_=>none
theorem aF2 {o:Oper}{N:Option<|Nat×ck}(h:rM o.op=true):Xu o N=none:=by obtain⟨dst,a,type,pos,b,guard⟩:=o;cases a<;>simp[rM]at h<;>rfl
theorem bs9 {o:Oper}:Xu o none=none:=by grind [Xu]
def nfB (id:Nat):F1->Bool|[]=>true|(_,b)::r=>!Bf id b&&nfB id r
theorem Sy {id:Nat}:∀{hp:F1},nfB id hp=true->E8 id (HK hp id)=true|[],_=>rfl|(k,b)::r,h=>by simp[nfB,BY]at h;unfold HK;cases hk:cV4 k id<;>simp[cT8];simp[E8,hk,h.1,Sy h.2];exact Sy h.2
def Rp (o:Oper)(N:Option<|Nat×ck)(tm:J4)(hp:F1):Prop:=(rM o.op=true->∀d,o.dst=some d->(F6 d tm&&E8 d hp)=true)/\∀id,Xu o N=some id->F6 id tm=true/\nfB id hp=true
def U5 (X:Cx)(all:Array Oper)(o:Oper)(J3:J4)(ae:F1)(V:T)(N:Option<|Nat×ck):Prop:=∀tm hp,more J3 tm->vz ae hp->Rp o N tm hp->(∀d,o.dst=some d->Y3 d X.nt=true)->∀a w,Jv X.w0 X.L X.nt ⟨tm,hp⟩ a w->∀(K:Act->World->Prop)(c:Exit->Act->World->Prop),(∀b w',Jv X.w0 X.L X.nt ⟨pt o V tm,Bh N hp⟩ b w'->K b w')->if Region.wanted o (yielded all a.tmps)then o.wp X.P a w K c else K (a.put o.dst undef) w
section
variable {τ:Type}{X:Cx}{J3:J4}{ae:F1}{all:Array Oper}{o:Oper}{V:T}{N:Option<|Nat×ck}{kb:List Nat}
theorem Ok.pt {tm:J4}{hp:F1}{S:Nat->Prop}{E:Nat->Value}{a:Act}{w:World}{v:Value}(h:Ok X.w0 X.L X.nt ⟨tm,hp⟩ S E a w)(c:RV w S E v V)(e:∀d,o.dst=some d->Y3 d X.nt=true):Jv X.w0 X.L X.nt ⟨Pv.pt o V tm,hp⟩ (a.put o.dst v) w:=by unfold Pv.pt;cases b:o.dst with|none=>exact⟨S,E,h⟩|some d=>exact⟨S,E,h.put (cU8<|e d b) c⟩
def U5.pure (d:gk all.toList kb J3 o.guard=some true)(hi:HM o.op=true)(e:evalOp X.tab ⟨J3,ae⟩ o=some (V,⟨J3,ae⟩)):U5 X all o J3 ae V none:=by intro tm hp c f _ i a w ⟨S,E,hk⟩K j g;obtain⟨v,w',E',b,h,k⟩:=ID X.C8 hk<|aK9 c f hi e;rw[I3 hk<|ca c<|jR d];unfold Oper.wp;have:=g (a.put o.dst v) w' (by grind [Bh,Ok.pt]);rcases b with b|⟨b,rfl⟩<;>rw[b]<;>exact this
def U5.new {d:Nat}{b:ck}(i:gk all.toList kb J3 o.guard=some true)(hi:rM o.op=true)(g:o.dst=some d)(j:evalOp X.tab ⟨J3,ae⟩ o=some (V,⟨J3,(d,b)::ae⟩)):U5 X all o J3 ae V<|some (d,b):=by intro tm hp h k l e a w ⟨S,E,hk⟩K p m;obtain⟨v,w',E',c,f,n⟩:=ID X.C8 hk<|bb6 h k hi g j<|l.1 hi d g;rw[I3 hk<|ca h<|jR i];unfold Oper.wp;have:=m (a.put o.dst v) w'<|Ok.pt f n e;rcases c with c|⟨c,rfl⟩<;>rw[c]<;>exact this
theorem YR {hp:F1}{id k:Nat}{b c:ck}(h:look hp id=some b):look (aT hp id c) k=look ((id,c)::hp) k:=by rw[jH];by_cases hk:id=k;all_goals simp_all[look,s9]
def Jv.Lu {w0:World}{L:GL}{nt:Nat}{tm tm':J4}{hp L9:F1}{a:Act}{w:World}(g:Pv.more tm' tm)(c:vz L9 hp)(h:Jv w0 L nt ⟨tm,hp⟩ a w):Jv w0 L nt ⟨tm',L9⟩ a w:=by obtain⟨S,E,hk⟩:=h;exact⟨S,E,{hk with tm:=λk t ht=>hk.tm k t<|g k t ht,hp:=λi b d=>hk.hp i b<|c i b d,own:=λi b β d=>hk.own i b β<|c i b d,cJ:=λi e b f β h1 j=>hk.cJ i e b f β (c i b h1)<|c e f j}⟩
def U5.store {t id off:Nat}{x y:Operand}{ti:TI}{l d:List T}(r:gk all.toList kb J3 o.guard=some true)(s:o.op=.store t x y)(hx:val J3 x=some (.ptr id off))(e:look X.tab t=some ti)(D:(val J3 y).bind (cq ae)=some l)(m:look ae id=some (.box d))(z:(cV4 l.length ti.size&&dc6 (off+l.length) d.length)=true):U5 X all o J3 ae (.t<|.v undef)<|some (id,.box<|qv d off l):=by
 intro tm hp n p I f a w ⟨S,E,hk⟩K J A;have B:evalOp X.tab ⟨tm,hp⟩ o=some (.t<|.v undef,⟨tm,aT hp id<|.box<|qv d off l⟩):=by
  have g:(val tm y).bind (cq hp)=some l:=by cases q:val J3 y with|none=>grind|some u=>grind [u6,Eo]
  rw[sV];obtain⟨dst,L,type,pos,C,guard⟩:=o;subst s;simp[Bw,u6 n hx,e,g,p _ _ m,z]
 obtain⟨v,w',E',b,i,q⟩:=ID X.C8 hk B;rw[I3 hk<|ca n<|jR r];unfold Oper.wp;have:=A (a.put o.dst v) w'<|Jv.Lu (λ_ _ h=>h) (λk c j=>by rw[YR<|p _ _ m];exact j)<|Ok.pt i q f;rcases b with b|⟨b,rfl⟩<;>rw[b]<;>exact this
theorem U5.skip (b:gk all.toList kb J3 o.guard=some false):U5 X all o J3 ae (.t<|.v undef) none:=by intro tm hp c f g d a w ⟨S,E,hk⟩K h e;rw[I3 hk<|ca c<|jR b];exact e _ _<|by simpa[Bh]using Ok.pt hk (.t<|.v _) d
end
mutual theorem Nw:∀(t:T),Pe t t=t
 |.agg l=>by simp only[Pe,Ox l]|.Z9 l=>by simp only[Pe,Ox l]|.t x=>by unfold Pe;cases x with|sl n rs=>rfl|v x=>rfl
 |.Fu f l=>by simp only[Pe]|.el _=>by simp only[Pe]|.ptr _ _=>by simp only[Pe]|.own _=>by simp only[Pe]|.pe _ _ _ _=>by simp only[Pe]|.vw _ _ _ _=>by simp only[Pe]|.fz _ _=>by simp only[Pe]|.any=>by simp only[Pe];theorem Ox:∀(l:List T),Jd l l=l|[]=>by simp only[Jd]|x::l=>by simp only[Jd,Nw x,Ox l];end
theorem Uz (b:ck):Uy b b=b:=by cases b<;>simp[Uy,Ox]
theorem L1.ay4 {tab:vH}{tm tm':J4}{hp L9:F1}{o:Op}(a:more tm tm')(d:vz hp L9):∀{τ:Type}{l:L1 τ}{r:Tr×(τ->T)},l.q tab tm hp o=some r->l.q tab tm' L9 o=some r
 |_,.ix enc l i,r,h=>by
  simp only[L1.q]at h|-;split at h<;>try cases h;done
  split at h<;>try cases h;done
  rename_i hx hi b;rw[u6 a hx,u6 a hi,b];dsimp only;split at h<;>try cases h;done
  split at h
  ·split at h<;>try cases h;done
   rename_i e;rw[d _ _ e];exact h
  ·exact h|_,.quo k i j,r,h=>by
  simp only[L1.q]at h|-;split at h<;>try cases h;done
  split at h<;>try cases h;done
  rename_i hx c;rw[u6 a hx,u6 a c];exact h|_,.rem i j,r,h=>by
  simp only[L1.q]at h|-;split at h<;>try cases h;done
  split at h<;>try cases h;done
  rename_i hx c;rw[u6 a hx,u6 a c];exact h|_,.shl k i j,r,h=>by
  simp only[L1.q]at h|-;split at h<;>try cases h;done
  split at h<;>try cases h;done
  rename_i hx c;rw[u6 a hx,u6 a c];exact h|_,.shr k i j,r,h=>by
  simp only[L1.q]at h|-;split at h<;>try cases h;done
  split at h<;>try cases h;done
  rename_i hx c;rw[u6 a hx,u6 a c];exact h|_,.str s i,r,h=>by
  simp only[L1.q]at h|-;split at h<;>try cases h;done
  split at h<;>try cases h;done
  rename_i hx hi b;rw[u6 a hx,u6 a hi,b];exact h|_,.arr res ys i,r,h=>by
  simp only[L1.q]at h|-;split at h<;>try cases h;done
  split at h<;>try cases h;done
  rename_i hx hi b;rw[u6 a hx,u6 a hi,b];exact h|_,.ax enc ys i,r,h=>by
  simp only[L1.q]at h|-;split at h<;>try cases h;done
  split at h<;>try cases h;done
  rename_i hx hi b;rw[u6 a hx,u6 a hi,b];exact h
theorem Lf {hp L9:F1}(h:vz hp L9):∀{e:List T}{c:List Tree},bR hp e=some c->bR L9 e=some c
 |[],c,a=>by grind [bR]|.t x::r,c,a=>by simp[bR]at a|-;cases b:bR hp r with|none=>simp[b]at a|some d=>rw[Lf h b];rw[b]at a;exact a
 |.own id::r,c,a=>by
  simp[bR]at a|-;split at a<;>try cases a
  rename_i f;rw[h _ _ f];cases b:bR hp r with|none=>simp[b]at a|some d=>simp only[Lf h b];rw[b]at a;exact a
 |.el _::_,c,a=>by simp[bR]at a|.ptr _ _::_,c,a=>by simp[bR]at a|.pe _ _ _ _::_,c,a=>by simp[bR]at a|.vw _ _ _ _::_,c,a=>by simp[bR]at a|.agg _::_,c,a=>by simp[bR]at a|.Z9 _::_,c,a=>by simp[bR]at a|.Fu _ _::_,c,a=>by simp[bR]at a|.fz _ _::_,c,a=>by simp[bR]at a|.any::_,c,a=>by simp[bR]at a
mutual theorem bb9 {hp L9:F1}(h:vz hp L9):∀{x y:T},wA hp x=some y->wA L9 x=some y
 |.own id,y,a=>by
  simp only[wA]at a|-;split at a<;>try cases a;done
  rename_i d;rw[h _ _ d];exact a|.ptr id f,y,a=>by
  simp only[wA]at a|-;split at a<;>try cases a;done
  rename_i g d;rw[h _ _ d];cases e:bR hp g with|none=>simp[e]at a|some c=>simp only[Lf h e];rw[e]at a;exact a
 |.agg l,y,a=>by simp only[wA]at a|-;cases b:CA hp l with|none=>simp[b]at a|some r=>rw[Fy h b];rw[b]at a;exact a
 |.Z9 l,y,a=>by simp only[wA]at a|-;cases b:CA hp l with|none=>simp[b]at a|some r=>rw[Fy h b];rw[b]at a;exact a
 |.Fu n l,y,a=>by simp only[wA]at a|-;cases b:CA hp l with|none=>simp[b]at a|some r=>rw[Fy h b];rw[b]at a;exact a
 |.t x,y,a=>by simp only[wA]at a|-;exact a|.el c,y,a=>by simp only[wA]at a|-;exact a|.fz n c,y,a=>by simp only[wA]at a|-;exact a|.pe _ _ _ _,y,a=>by simp[wA]at a|.vw _ _ _ _,y,a=>by simp[wA]at a|.any,y,a=>by simp[wA]at a;theorem Fy {hp L9:F1}(h:vz hp L9):∀{l r:List T},CA hp l=some r->CA L9 l=some r
 |[],r,a=>by simp only[CA]at a|-;exact a|x::l,r,a=>by
  simp only[CA]at a|-;split at a<;>try cases a;done
  rename_i hx b;rw[bb9 h hx,Fy h b];exact a;end
section
variable {τ:Type}{X:Cx}{J3:J4}{ae:F1}{all:Array Oper}{o:Oper}{V:T}{kb:List Nat}
def aZ5 {tm tm':J4}{r:Nat×List T×List (List Tree)}(h:more tm tm')(a:Yc tm o=some r):Yc tm' o=some r:=by grind [Yc,u6,UP]
theorem W1.ay4 {P:Program}{Ev:EqV P}{tab:vH}{Γ:List GF}{tm tm':J4}{hp L9:F1}{o:Op}(b:more tm tm')(f:vz hp L9):∀{u:W1}{r:Tr×T},u.q Ev tab Γ tm hp o=some r->u.q Ev tab Γ tm' L9 o=some r
 |.hx n,r,h=>by simp[W1.q]at h|-;grind [L1.ay4]|.ly n,r,h=>by
  simp[W1.q]at h|-;split at h<;>try cases h
  split at h<;>try cases h
  rename_i c d;rw[u6 b c,d];dsimp;split at h<;>try cases h;done
  rename_i g i;rw[f _ _ g,i];exact h|.eq,r,h=>by
  simp[W1.q]at h|-;split at h<;>try cases h;done
  split at h<;>try cases h;done
  rename_i hx j;rw[u6 b hx,u6 b j];exact h|.cn,r,h=>by
  simp[W1.q]at h|-;split at h<;>try cases h;done
  split at h<;>try cases h;done
  split at h<;>try cases h;done
  rename_i hx a;rw[u6 b hx,a];exact h|.sn,r,h=>by
  simp[W1.q]at h|-;split at h<;>try cases h;done
  split at h<;>try cases h;done
  rename_i hx e a;rw[u6 b hx,u6 b e,a];exact h
def U5.known {Ev:EqV X.P}{Γ:List GF}(c:∀f∈Γ,f.ok){u:W1}{t:Tr}(d:gk all.toList kb J3 o.guard=some true)(e:u.q Ev X.tab Γ J3 ae o.op=some (t,V))(ht:t.den):U5 X all o J3 ae V none:=by intro tm hp b g _ i a w ⟨S,E,hk⟩K j h;obtain⟨v,h1,k⟩:=W1.ok c (W1.ay4 b g e) ht S E a w hk;rw[I3 hk<|ca b<|jR d];unfold Oper.wp;rw[h1];exact h (a.put o.dst v) w<|by grind [Bh,Ok.pt]
theorem U5.one {l:L1 τ}{t:Tr}{res:τ->T}{y:τ}(c:gk all.toList kb J3 o.guard=some true)(d:l.q X.tab J3 ae o.op=some (t,res))(ht:t.den)(e:l.m=some y):U5 X all o J3 ae (res y) none:=by intro tm hp b f _ h a w ⟨S,E,hk⟩K i g;obtain⟨v,h1,j⟩:=L1.ok (L1.ay4 b f d) ht y S E a w e hk;rw[I3 hk<|ca b<|jR c];unfold Oper.wp;rw[h1];exact g (a.put o.dst v) w<|by grind [Bh,Ok.pt]
def U5.call {n d:Nat}{args:List T}{s:Bool}{m₁:Option τ}{res:τ->T}{t:τ}(ht:m₁=some t)(I:gk all.toList kb J3 o.guard=some true)(g:Yb J3 ae o=some (n,args,s,d))(l:uR X.P n args m₁ res)(J:s=true->scalar (res t)=true):U5 X all o J3 ae (res t) none:=by
 intro tm hp y L _ z a w ⟨S,E,hk⟩K O A;unfold Yb at g;split at g<;>try cases g
 rename_i Q targs B R hz M;obtain⟨vs,C,i,D,j⟩:=bM0 hk (aZ5 y hz) (by
  split at g;·simp[AI,cz4]at g;obtain⟨rfl,_⟩:=g;exact l.1
  ·split at g<;>try cases g;done
   obtain⟨rfl,_⟩:=g;exact l.1);rw[I3 hk<|ca y<|jR I];unfold Oper.wp;rw[i];split at g;·rename_i l' m;obtain⟨rfl,rfl,rfl,rfl⟩:=g;have c:=l.2 t ht w S E (vs++C) hk.lB<|(RV.closed hk D m E).append<|j E;refine c.mono λe w' ⟨v,S',p,h,f,q,r⟩=>?_;subst p;refine A _ _ (by
   have:=Ok.pt ((hk.grow f).more q (λb k=>?_) λid ny β k u U=>?_) (h.mono (λ_ x=>.inr x) (λ_ _=>rfl) λ_ _=>rfl) z;·grind [Bh]
   ·rcases r b k with h1|h1;·exact hk.base b h1
    ·exact .inr<|.inr<|cw2 hk.keep.size h1
   ·have:=hk.own id ny β k u;grind)
 ·split at g<;>try cases g;done
  rename_i l' m;obtain⟨rfl,rfl,rfl,rfl⟩:=g;have c:=l.2 t ht w (λb=>S b\/EL hp E b) E (vs++C) (λb k=>k.elim (hk.lB b) λ⟨id,_,N,u⟩=>(hk.own id _ b N u).2.1)<|(GQ hk (λ_ x=>.inl x) (λ_ x=>.inr x) D (Fy L m) E).append<|(j E).ct1 (λ_ x=>.inl x) λ_ _=>rfl;refine c.mono λe w' ⟨v,S',p,h,f,_,_⟩=>?_;subst p;exact A _ _<|by simpa[Bh]using Ok.pt (hk.grow f) (h.scalar<|J rfl) z
theorem cj1 {w0:World}{L:GL}{nt d e sz n:Nat}{rs:List<|List Tree}{tm:J4}{hp:F1}{a:Act}{w:World}(y:E8 d hp=true)(h:Jv w0 L nt ⟨(d,.own d)::tm,(d,.rows e sz n rs)::hp⟩ a w):Jv w0 L nt ⟨(d,.t<|.sl n rs)::tm,hp⟩ a w:=by
 obtain⟨S,E,hk⟩:=h;have q:∀{id ny},look hp id=some ny->d≠id:=λl e=>(hM y _ _ l).1 e.symm;have f:look ((d,ck.rows e sz n rs)::hp) d=some (.rows e sz n rs):=by simp[look]
 have g:∀{id ny},look hp id=some ny->look ((d,ck.rows e sz n rs)::hp) id=some ny:=λl=>by grind [C4]
 have r:Ok w0 L nt ⟨(d,.own d)::tm,[(d,.rows e sz n rs)]⟩ S E a w:={hk with
   hp:=λi b c=>by
    simp[look]at c;by_cases hi:d=i;·subst hi;simp[tj,AI]at c;subst c;exact hk.hp d _ f
    grind [s9],own:=λi b β c m=>by
    simp[look]at c;by_cases hi:d=i;·subst hi;simp[tj,AI]at c;exact hk.own d _ β f m
    grind [s9],cJ:=λi u b v β h1 p _ _=>by grind [look,s9]};have s:Ok w0 L nt ⟨(d,.own d)::tm,hp⟩ S E a w:={hk with hp:=λi b c=>hk.hp i b<|g c,own:=λi b β c m=>hk.own i b β (g c) m,cJ:=λi u b v β h1 p=>hk.cJ i u b v β (g h1)<|g p};have j:=s.more (λb c=>(hk.own d _ b f c).2.1) λb c=>by rcases(hk.own d _ b f c).2.2 with p|p;all_goals grind λid ny β l m z=>q l<|hk.cJ d id _ ny β f (g l) z m;have A:RV w (λb=>S b\/H9 (E d)=some b) E (E d)<|.t<|.sl n rs:=by refine .t<|OC r (e:=e) (sz:=sz) (by simp[look]) _ (λ_ x=>.inl x) λb c=>?_;obtain⟨i,_,l,m⟩:=c;grind [look,s9]
 refine⟨_,E,{j with tm:=λk t ht=>?_}⟩;simp[look]at ht;by_cases o:d=k;·subst o;simp[tj,AI]at ht;have:=j.tm d (.own d) (by simp[look]);generalize a.tmps.getD d undef=x at this|-;cases this with|own _ _ B=>grind
 ·simp[s9 o]at ht;exact j.tm k t<|by grind [C4]
theorem U5.frz {d e sz n:Nat}{rs:List<|List Tree}(hi:rM o.op=true)(f:o.dst=some d)(h:U5 X all o J3 ae (.own d)<|some (d,.rows e sz n rs)):U5 X all o J3 ae (.t<|.sl n rs) none:=by intro tm hp g i c b a w hk K j k;have h1:=h tm hp g i ⟨c.1,λid l=>by grind [aF2]⟩ b a w hk K j λm w' p=>k m w' (by simp[pt,Bh]at p|-;have:=c.1 hi d f;grind [cj1]);exact h1
def Oper.br7 {P:Program}{o:Oper}{a:Act}{w:World}{K d:Act->World->Prop}{Q Q':Exit->Act->World->Prop}(h:∀a w,K a w->d a w)(hp:∀c a w,¬Q (.panic c) a w)(e:¬LetsOut Q)(b:o.wp P a w K Q):o.wp P a w d Q':=by unfold Oper.wp at*;generalize(execOp a.eval o).run P w=r at*;cases r with
 |ok n w'=>cases n<;>simp[Oper.upon]at b|-<;>first|grind|grind [Calls.mono]|grind [Rows.mono]
 |halt x w'=>cases x<;>simp[Oper.upon]at b|-<;>first|grind|exact b
def U5.ct5 {N:Option<|Nat×ck}(h:∀tm hp,more J3 tm->vz ae hp->∃σ':St,more (Pv.pt o V tm) σ'.tm/\vz (Bh N hp) σ'.hp/\o0 X all [o] [] ⟨tm,hp⟩ (some ()) λ_ e σ=>e=.normal/\σ=σ'):U5 X all o J3 ae V N:=by
 intro tm hp f g _ _ a w hk K q i;obtain⟨σ',h1,j,k⟩:=h tm hp f g;have b:=k () rfl a w hk;have L9:∀(e:Exit)a w,e≠.normal->¬(X.post λe σ=>e=.normal/\σ=σ') e a w:=λe a w l ⟨σ,_,hx,_⟩=>l hx;have d:∀a w,wpList X.P all (after X.P []<|X.post λe σ=>e=.normal/\σ=σ') [] a w->K a w:=λa w m=>by obtain⟨σ,n,_,rfl⟩:=m;exact i a w<|n.Lu h1 j
 unfold wpList at b;split at b;rename_i p;rw[if_pos p];rcases b with b|⟨_,b⟩;exact Oper.br7 d (λc a w=>L9 _ a w sq) (λ⟨a,w,hx⟩=>L9 _ a w sq hx) b;obtain⟨a,w,hx⟩:=b;exact absurd hx<|L9 _ a w sq;grind
def M1 {α:Type}{id:Nat}:∀{l:List<|Nat×α}{k:Nat}{b:α},look (HK l id) k=some b->k≠id/\look l k=some b|[],k,b,h=>by simp[HK,look]at h|(j,x)::r,k,b,h=>by unfold HK at h;by_cases a:j=id;subst a;simp[tj]at h;obtain⟨h1,c⟩:=M1 h;simp_all[C4,Ne.symm];simp[s9 a]at h;by_cases hk:j=k;subst hk;exact⟨a,by simpa[look]using h⟩;rw[C4 hk]at h|-;exact M1 h
theorem zq {α:Type}{id k:Nat}(hk:k≠id):∀{l:List<|Nat×α},look (HK l id) k=look l k|[]=>rfl|(j,x)::r=>by unfold HK;by_cases a:j=id;all_goals simp_all[Ne.symm,zq,s9,look]
def U5.append {α:Type}{t e e' d id n m s0:Nat}{z0:List Value}{g:TI}{s x:Operand}{sv:Value}{l r y:List α}{enc:α->List Tree}(hg:gk all.toList kb J3 o.guard=some true)(ho:o.op=.call ⟨.builtin .append,#[s,x],#[t,t]⟩)(hd:o.dst=some d)(O:look X.tab t=some ⟨s0,.slice e,z0⟩)(Q:look X.tab e=some g)(hz:g.zero.length=g.size)(p:∀y,(enc y).length=g.size)(q:∀y,(enc y).all oK=true)(hs:val J3 s=some (.t<|.v sv))(z:look ae id=some (.rv sv e g.size n<|l.map enc))(hx:val J3 x=some (.t<|.sl m<|r.map enc)\/∃N,val J3 x=some (.own N)/\look ae N=some (.rows e' g.size m<|r.map enc))(D:Y3 id vJ=true)(I:G2 l r=some y):U5 X all o J3 ae (.own id)<|some (id,.rows e g.size y.length<|y.map enc):=by
 intro tm hp u hh hf R a w ⟨S,E,hk⟩K Q' hK;unfold G2 at I;split at I<;>try cases I;done
 rename_i J;simp only[AI]at I;subst I;obtain⟨T,U⟩:=hf.2 id (by grind [Xu]);obtain⟨dd,hu,V⟩:∃d,X.P.underlying t=some d/\TD.ok X.P (.slice e) d:=by obtain⟨i,d,_,_,hu,hdd,_⟩:=X.C8 t _ O;grind
 subst V;have A:=hh _ _ z;have M:Src w S (a.eval x) r.length g.size<|r.map enc:=by
  rcases hx with hx|⟨N,hx,W⟩;·have j:=hk.val<|u6 u hx;generalize a.eval x=xv at j;cases j with|t j=>
    have:=QW j (Od p r)<|JE q r;have u:m=r.length:=by grind
    subst u;exact⟨sq,this.2⟩
  ·have j:=hk.val<|u6 u hx;have z:=hk.hp N _<|hh _ _ W;generalize a.eval x=xv at j;cases j with|own _ _ Z=>
    subst Z;have:=aA1 z<|JE q r;have u:m=r.length:=by simpa using this.1
    subst u;exact this
 have j:a.eval s=sv:=(hk.val<|u6 u hs).tv;obtain⟨B,f⟩:=hk.hp id _ A;have hn:n=l.length:=by have:=f.1;simpa using this
 subst hn;have hbv:yu w S E sv<|.rows e g.size l.length<|l.map enc:=by rw[<-B];exact f
 have hk':Ok X.w0 X.L X.nt ⟨tm,HK hp id⟩ S E a w:={hk with hp:=λi b z=>hk.hp i b (M1 z).2,own:=λi b β z hβ=>hk.own i b β (M1 z).2 hβ,cJ:=λi i' b b' β h1 h2=>hk.cJ i i' b b' β (M1 h1).2 (M1 h2).2};obtain⟨v',w',E',hr,Z,hok⟩:=hk'.append (ty:=o.type) D T (Sy U) (v:=sv) (λβ hβ=>hk.own id _ β A<|by rw[B];exact hβ) (λi ny β hi h1 h2=>by obtain⟨g1,g2⟩:=M1 hi;exact g1 (hk.cJ id i _ ny β A g2 (by rw[B];exact h1) h2).symm) hbv hu (X.C8 e _ Q) hz M (Od p r) (by simpa using J);rw[I3 hk<|ca u<|jR hg,if_pos rfl];unfold Oper.wp;have C:(execOp a.eval o).run X.P w=.ok (.value v') w':=by unfold execOp;simp only[ho,resolve,invoke,builtin,cV1,cW0,OF,List.map_toArray,ew,List.map_nil,j,hr]
 rw[C];refine hK (a.put o.dst v') w'<|Jv.Lu (λ_ _ h=>h) (λk c hkc=>?_)<|Ok.pt (o:=o) hok (.own id v' Z) R;by_cases hki:id=k;·subst hki;simpa[Bh,look]using hkc
 simp_all[Bh,C4,zq,Ne.symm]
theorem Qi {tm tm':J4}{r:Nat×List T}(h:more tm tm')(a:Iw tm o=some r):Iw tm' o=some r:=by grind [Iw,u6,UP]
theorem Kj {c:List<|Nat×Nat}{k:Nat}(h:k∉c.map (·.2)):∀{hp:F1},look (dC c hp) k=look hp k
 |[]=>rfl|(i,b)::r=>by
  simp[dC];split;have a:i≠k:=by grind [bT2,bD]
  rw[C4 a];exact Kj h;by_cases a:i=k;subst a;simp[look];rw[C4 a,C4 a];exact Kj h
def ap9 {h:List<|Nat×Nat}:∀{hp L9:F1},sE h hp=some L9->∀{p},p∈L9->p.1∈h.map (·.2)
 |[],L9,a,p,b=>by grind [sE]|(d,b0)::r,L9,a,p,b=>by
  simp[sE]at a;split at a<;>try cases a;done
  rename_i j c l e _ f;simp[AI]at a;subst a;rcases cV6.1 b with rfl|b;·exact cX3.2 ⟨(d,j),CR e,rfl⟩
  ·exact ap9 f b
def U5.cG1 {n d:Nat}{targs bQ a:List T}{e sC:F1}{m₁:Option τ}{res:τ->T}{h:τ->F1}{t:τ}{rt:T}(f:List<|Nat×Nat)(ht:m₁=some t)(z:yw X.P n a e m₁ res h)(I:gk all.toList kb J3 o.guard=some true)(J:Iw J3 o=some (n,targs))(l:o.dst=some d)(s:Y3 d X.nt=true)(K:NL f a=some bQ)(v:Jd targs bQ=bQ)(A:sE f e=some sC)(m:sC.map (λp=>look ae p.1)=sC.map λp=>some p.2)(L:Dx f [] [] []=true)(w:(f.all λp=>(look sC p.2).isSome)=true)(B:oN f (res t)=some rt)(x:h t=e):U5 X all o J3 ae rt none:=by
  have i:∀p∈sC,look ae p.1=some p.2:=λp L9=>by
    obtain⟨n,M,rfl⟩:=List.mem_iff_getElem.1 L9;have:(sC.map λp=>look ae p.1)[n]?=(sC.map λp=>some p.2)[n]?:=by rw[m]
    grind
  have y:yw X.P n a e (some ()) (λ_=>res t) λ_=>e:=⟨z.1,λr _=>by have:=z.2 t ht;grind⟩;refine .ct5 λtm hp C D=>⟨⟨(d,rt)::tm,sC++dC f hp⟩,?_,?_,?_⟩;intro k u hk;grind [pt];intro k c hk;simp only[Bh]at hk;by_cases q:k∈f.map (·.2);obtain⟨p,j,rfl⟩:=cX3.1 q;have:=cV2.1 w p j;rw[da0]at this;obtain⟨b,E⟩:=this;rw[sj,E];have:=D _ _<|i _<|CR E;grind;rw[sj];cases hx:look sC k with|some b=>exact absurd (ap9 A<|CR hx) q|none=>grind [Kj]
  have:=o0.g   (o:=o)   (k:=λ_=>some ()) (Q:=λ(_:Unit)e' σ=>e'=.normal/\σ=⟨(d,rt)::tm,sC++dC f hp⟩)  (d:=d) f []      (n:=n) y (by unfold aJ0;rw[ca C<|jR I];simp only[Qi C J,K,A,l,s];rw[show Dx f [] tm hp=true by grind [Dx]];rfl) v (by refine List.map_congr_left λp j=>?_;unfold IX;rw[D _ _<|i p j];simp only[Uz]) (λ_=>gq) (λ_=>gq) λ_ _=>o0.nil<|w6.leaf ⟨rfl,rfl⟩;exact this
def Jv.Rm {w0:World}{L:GL}{nt:Nat}{tm:J4}{hp:F1}{a:Act}{w:World}(id:Nat){e sz n:Nat}{rs:List<|List Tree}(s:look hp id=some (.rows e sz n rs))(h:Jv w0 L nt ⟨tm,hp⟩ a w):∃v:Value,Jv w0 L nt ⟨SY id (.t<|.v v) tm,(id,.rv v e sz n rs)::Da id (.t<|.v v) hp⟩ a w:=by
 obtain⟨S,E,hk⟩:=h;have r:RV w S E (E id)<|.t<|.v<|E id:=.t<|.v _;have c:∀{i:Nat}{b:ck},look ((id,ck.rv (E id) e sz n rs)::Da id (.t<|.v<|E id) hp) i=some b->∃b0,look hp i=some b0:=λ{i b}d=>by grind [C4,bP]
 refine⟨E id,S,E,{hk with tm:=λk t ht=>?_,hp:=λi b d=>?_,own:=λi b β d u=>?_,cJ:=λi z b K β h1 g=>?_}⟩;rw[Rc]at ht;cases d:look tm k with|none=>grind|some t0=>simp[d,cW3,AI]at ht;subst ht;exact ab2 (λ_ x=>x) r<|hk.tm k t0 d
 by_cases hi:id=i;subst hi;simp[look,tj,AI]at d;subst d;exact⟨rfl,hk.hp id _ s⟩;rw[C4 hi]at d;obtain⟨A,b0,j,B⟩:=bP _ _ _ _ _ d;have l:=hk.hp i b0 j;cases b0 with|box M=>subst B;obtain⟨β,vs,f,h1,g,C,D,I⟩:=l;have:=Jl (λ_ x=>x) r ⟨C,D⟩;exact⟨β,vs,f,h1,g,this.1,this.2,I⟩|rows e' m J o=>grind|mp es=>grind|rv y e' m J o=>grind
 obtain⟨b0,h0⟩:=c d;exact hk.own i b0 β h0 u;obtain⟨b0,h0⟩:=c h1;obtain⟨p,q⟩:=c g;exact hk.cJ i z b0 p β h0 q
mutual def ay0 (b:Nat):T->Bool|.t _=>true|.el _=>true|.fz _ _=>true|.any=>true|.own i=>cV4 i b|.agg l=>aP6 b l|.Z9 l=>aP6 b l|.Fu _ l=>aP6 b l|.ptr _ _=>false|.pe _ _ _ _=>false|.vw _ _ _ _=>false def aP6 (b:Nat):List T->Bool|[]=>true|x::l=>ay0 b x&&aP6 b l end
mutual theorem cC7 {w:World}{S:Nat->Prop}{E Ec:Nat->Value}{b:Nat}{k:Value}(j:Ec b=k):∀{t:T}{x:Value},ay0 b t=true->RV w S E x (sP b (.t<|.v k) t)->RV w S Ec x t
 |.t y,x,_,h=>by simp only[sP]at h;exact h.mono (λ_ x=>x) (λ_ _=>rfl) λid d=>by simp[names]at d|.el c,x,_,h=>by simp only[sP]at h;exact h.mono (λ_ x=>x) (λ_ _=>rfl) λid d=>by simp[names]at d|.fz n c,x,_,h=>by simp only[sP]at h;exact h.mono (λ_ x=>x) (λ_ _=>rfl) λid d=>by simp[names]at d|.any,x,_,_=>.any x|.own i,x,a,h=>by simp only[ay0]at a;have a:=bD a;subst a;simp only[sP,tj,cT9]at h;have:=h.tv;subst this;exact .own i _ j|.agg l,x,a,h=>by simp only[ay0]at a;simp only[sP]at h;cases h with|agg vs _ e g=>have:=ac2 j (l:=l) (vs:=vs) a ⟨e,g⟩;exact .agg vs _ this.1 this.2
 |.Z9 l,x,a,h=>by simp only[ay0]at a;simp only[sP]at h;cases h with|Z9 vs _ e g=>have:=ac2 j (l:=l) (vs:=vs) a ⟨e,g⟩;exact .Z9 vs _ this.1 this.2
 |.Fu f l,x,a,h=>by simp only[ay0]at a;simp only[sP]at h;cases h with|Fu _ vs _ e g=>have:=ac2 j (l:=l) (vs:=vs) a ⟨e,g⟩;exact .Fu f vs _ this.1 this.2
 |.ptr _ _,x,a,_=>by simp[ay0]at a|.pe _ _ _ _,x,a,_=>by simp[ay0]at a|.vw _ _ _ _,x,a,_=>by simp[ay0]at a;theorem ac2 {w:World}{S:Nat->Prop}{E Ec:Nat->Value}{b:Nat}{e:Value}(f:Ec b=e):∀{l:List T}{vs:List Value},aP6 b l=true->xJ w S E vs (vD b (.t<|.v e) l)->xJ w S Ec vs l|[],vs,_,h=>⟨by simpa[vD]using h.1,λj _ c=>by simp at c⟩|x::l,vs,d,h=>by simp only[aP6,BY]at d;cases vs with|nil=>have:=h.1;simp[vD]at this|cons v vs=>have h1:=cC7 f (t:=x) d.1<|h.2 0 sq (by simp[vD]);have c:=ac2 f (l:=l) (vs:=vs) d.2 ⟨by simpa[vD]using h.1,λj a b=>h.2 (j+1) (by simpa using a)<|by simpa[vD]using b⟩;refine⟨by simp[c.1],λj a b=>?_⟩;cases j with|zero=>exact h1|succ j=>exact c.2 j (by simpa using a)<|by simpa using b;end
def U5.cG0 {n d c b0 r0 e e2 sz N m m2:Nat}{Pm targs:List T}{rt:T}{rs O:List<|List Tree}{sv:Value}{m₁:Option τ}{res:τ->T}{C:τ->F1}{t:τ}(ht:m₁=some t)(hc:yw X.P n Pm [(b0,.rows e sz m rs)] m₁ res C)(hg:gk all.toList kb J3 o.guard=some true)(ho:Iw J3 o=some (n,targs))(hdst:o.dst=some d)(s:look ae c=some (.rv sv e sz m rs))(hbig:Y3 c vJ=true)(hargs:Jd targs (vD b0 (.t<|.v sv) Pm)=vD b0 (.t<|.v sv) Pm)(hon:aP6 b0 Pm=true)(hres:oN [(r0,c)] (res t)=some rt)(hhp:C t=[(r0,.rows e2 N m2 O)]):U5 X all o J3 ae rt<|some (c,.rows e2 N m2 O):=by
 intro tm hp hm hh hf hd' a w ⟨S,E,hk⟩K Q' hK;have hop:∃q,o.op=.call q:=by
  unfold Iw at ho;split at ho<;>try cases ho;done
  rename_i hx;exact⟨_,hx⟩
 obtain⟨hft,hfb⟩:=hf.2 c (by obtain⟨q,hq⟩:=hop;unfold Xu;rw[hq]);have hcb:c<vJ:=cU8 hbig;have Q:=hh _ _ s;obtain⟨R,hrows⟩:=hk.hp c _ Q;obtain⟨vs,hrun,hv⟩:=aI9 hk (Qi hm ho) hc.1;let Ec:Nat->Value:=λi=>if i=b0 then sv else E i;have U:Ec b0=sv:=by simp[Ec]
 have l:∀{i:Nat}{b:ck},look [(b0,ck.rows e sz m rs)] i=some b->i=b0/\b=.rows e sz m rs:=λ{i b}h=>by
  by_cases hi:b0=i;·subst hi;simp only[look,tj,cT9,AI]at h;exact⟨rfl,h.symm⟩
  ·simp[look,s9 hi]at h
 have hO:Rr w S Ec [(b0,.rows e sz m rs)]:=by
  refine⟨λi b hi=>?_,λi b β hi f=>?_,λi i' b b' β hi y _ _=>?_⟩;·obtain⟨rfl,rfl⟩:=l hi;rw[U,<-R];exact hrows
  ·obtain⟨rfl,rfl⟩:=l hi;rw[U,<-R]at f;have:=hk.own c _ β Q f;exact⟨this.1,this.2.1⟩
  ·exact(l hi).1.trans (l y).1.symm
 have hav:xJ w S Ec vs Pm:=by have h1:=Ow (u:=vD b0 (.t<|.v sv) Pm) hv;rw[hargs]at h1;exact ac2 U hon h1
 have hcall:=hc.2 t ht w S Ec vs hk.lB hO hav;rw[I3 hk<|ca hm<|jR hg,if_pos rfl];unfold Oper.wp;rw[hrun,Oper.upon_enter];refine hcall.mono λex w' ⟨v,S',E',he,hv',p,h1,h2,hO',h3,h4⟩=>?_;subst he;have KL:∀{β},iB [(b0,ck.rows e sz m rs)] Ec β->H9 sv=some β:=λ{β}⟨i,b,hi,f⟩=>by obtain⟨rfl,rfl⟩:=l hi;rw[U]at f;exact f
 generalize V:E' r0=q;have I:look (C t) r0=some (.rows e2 N m2 O):=by rw[hhp];simp[look]
 have J:∀{β},H9 sv=some β->¬S β/\β<w.heap.size/\(X.w0.heap.size<=β\/X.L.KL β):=λ{β}f=>hk.own c _ β Q (by rw[R];exact f);have other:∀{i:Nat}{b:ck}{β:Nat},look hp i=some b->i≠c->H9 (E i)=some β->H9 sv≠some β:=λ{i b β}hi hne f hs=>hne<|hk.cJ i c b _ β hi Q f (by rw[R];exact hs);have vb:∀{β},H9 q=some β->(H9 sv=some β\/w.heap.size<=β)/\¬S' β/\β<w'.heap.size:=λ{β}f=>by have hl:iB (C t) E' β:=⟨r0,_,I,by rw[V];exact f⟩;have:=hO'.own r0 _ β I (by rw[V];exact f);exact⟨(h3 β hl).imp KL λx=>x,this.1,this.2⟩
 have hS:∀b,S b->w'.heap[b]?=w.heap[b]?:=λb s=>p.block b (hk.lB b s) λhl=>(J<|KL hl).1 s;let W:Nat->Value:=λi=>if i=c then q else E i;have z:∀i,i≠c->W i=E i:=λi hi=>by simp[W,hi]
 have A:W c=q:=by simp[W]
 have cne:∀{t:T},names c t=false->∀i,names i t=true->W i=E i:=λ{t}hn i hi=>z i (λe=>by subst e;rw[hn]at hi;cases hi);have hok:Ok X.w0 X.L X.nt ⟨tm,(c,.rows e2 N m2 O)::HK hp c⟩ (λb=>S b\/S' b) W a w':=
  {keep:=hk.keep.trans p λβ hl=>by
    rcases(J<|KL hl).2.2 with h|h;·exact .inr h
    ·exact .inl h,lB:=λb s=>s.elim (λh=>dc7 (hk.lB b h) p.size)<|h1 b,base:=λb s=>by
    rcases s with s|s;·exact hk.base b s
    ·rcases h2 b s with s|s|s;·exact hk.base b s
     ·rcases(J<|KL s).2.2 with h|h;·exact .inr<|.inr h
      ·exact .inr<|.inl h
     ·exact .inr<|.inr<|cw2 hk.keep.size s,size:=hk.size,defers:=hk.defers,tm:=λk u hu=>(hk.tm k u hu).mono (λ_ x=>.inl x) hS<|cne<|xO hft k u hu,hp:=λi b hi=>by
    by_cases r:c=i;·subst r;simp only[look,tj,cT9,AI]at hi;subst hi;rw[A,<-V];exact(hO'.ny r0 _ I).mono (λ_ x=>.inr x) (λ_ _=>rfl) (λ_ _=>rfl) λ_ hid=>by simp[Bf]at hid
    ·simp only at hi;rw[C4 r]at hi;obtain⟨g1,g2⟩:=M1 hi;rw[z i g1];exact(hk.hp i b g2).mono (λ_ x=>.inl x) hS (λβ f=>p.block β (hk.own i b β g2 f).2.1 λhl=>other g2 g1 f<|KL hl) λj hj=>z j (λe=>by subst e;have:=(hM (Sy hfb) i b hi).2;rw[this]at hj;cases hj),own:=λi b β hi f=>by
    by_cases r:c=i
    ·subst r;rw[A]at f;obtain⟨g1,g2,g3⟩:=vb f;refine⟨λhx=>hx.elim (λhx=>?_) g2,g3,?_⟩
     ·rcases g1 with g1|g1;·exact(J g1).1 hx
      ·exact absurd (hk.lB β hx)<|Nat.not_lt.2 g1
     ·rcases g1 with g1|g1;·exact(J g1).2.2
      ·exact .inl<|cw2 hk.keep.size g1
    ·simp only at hi;rw[C4 r]at hi;obtain⟨g1,g2⟩:=M1 hi;rw[z i g1]at f;have:=hk.own i b β g2 f;refine⟨λhx=>hx.elim this.1 λhx=>?_,dc7 this.2.1 p.size,this.2.2⟩;rcases h2 β hx with hx|hx|hx;·exact this.1 hx
     ·exact other g2 g1 f<|KL hx
     ·exact absurd this.2.1<|Nat.not_lt.2 hx,cJ:=λi i' b b' β hi y f B=>by
    have M:∀{i:Nat}{b:ck},look (HK hp c) i=some b->H9 (W i)=some β->H9 q=some β->False:=λ{i b}hi f B=>by
     obtain⟨g1,g2⟩:=M1 hi;rw[z i g1]at f;rcases(vb B).1 with g|g;·exact other g2 g1 f g
     ·exact absurd (hk.own i b β g2 f).2.1<|Nat.not_lt.2 g
    by_cases r:c=i<;>by_cases D:c=i';·exact r.symm.trans D
    ·subst r;simp only at y;rw[C4 D]at y;rw[A]at f;exact(M y B f).elim
    ·subst D;simp only at hi;rw[C4 r]at hi;rw[A]at B;exact(M hi f B).elim
    ·simp only at hi y;rw[C4 r]at hi;rw[C4 D]at y;obtain⟨g1,g2⟩:=M1 hi;obtain⟨g1',g2'⟩:=M1 y;rw[z i g1]at f;rw[z i' g1']at B;exact hk.cJ i i' b b' β g2 g2' f B,Rm:=λi hi=>by rw[z i λe=>by omega];exact hk.Rm i hi};have hrv:RV w' (λb=>S b\/S' b) W v rt:=(SH (h:=[(r0,c)]) (E:=E') (E':=W) (λi j hij=>by
  by_cases hi:r0=i;·subst hi;simp only[look,tj,cT9,AI]at hij;subst hij;rw[A,<-V]
  ·simp[look,s9 hi]at hij) hv' hres).mono (λ_ x=>.inr x) (λ_ _=>rfl) λ_ _=>rfl;refine hK _ _<|Jv.Lu (λ_ _ h=>h) (λk x Z=>?_)<|Ok.pt (o:=o) hok hrv hd';by_cases hki:c=k;·subst hki;simpa[Bh,look]using Z
 ·simp only[Bh]at Z;rw[C4 hki]at Z|-;rw[zq<|Ne.symm hki];exact Z
def U5.cF9 {n d c r1 e2 i p:Nat}{f targs bQ:List T}{rt:T}{j:List<|List Tree}{m₁:Option τ}{res:τ->T}{l:τ->F1}{t:τ}(ht:m₁=some t)(C:yw X.P n f [] m₁ res l)(I:gk all.toList kb J3 o.guard=some true)(J:Iw J3 o=some (n,targs))(s:o.dst=some d)(z:Y3 d X.nt=true)(D:Y3 c vJ=true)(L:NL [] f=some bQ)(A:Jd targs bQ=bQ)(v:oN [(r1,c)] (res t)=some rt)(M:l t=[(r1,.rows e2 i p j)]):U5 X all o J3 ae rt<|some (c,.rows e2 i p j):=by
  intro tm hp E hh N _ a w hk K Q' O;have R:∃q,o.op=.call q:=by grind [Iw]
  obtain⟨S,U⟩:=N.2 c (by grind [Xu]);have B:yw X.P n f [] (some ()) (λ_=>res t) λ_=>[(r1,.rows e2 i p j)]:=⟨C.1,λr _=>by have:=C.2 t ht;grind⟩;have key:=o0.g (X:=X) (all:=all) (o:=o) (rest:=[]) (ks:=[]) (k:=λ_=>some ()) (Q:=λ(_:Unit)e' σ=>e'=.normal/\σ=⟨(d,rt)::tm,[(c,.rows e2 i p j)]++dC [] (HK hp c)⟩) (hp:=HK hp c) (tm:=tm)  (d:=d) [] [(r1,c)]   (sC:=[]) (targs:=targs) (bQ:=bQ) (n:=n) B (by unfold aJ0;rw[ca E<|jR I];simp only[Qi E J,L,sE,s,z,dd8];rw[show Dx [] [(r1,c)] tm (HK hp c)=true by grind [Dx,xD,Sy]];rfl) A rfl (λ_=>v) λ_=>by simp[sE,NK,look] λ_ _=>o0.nil<|w6.leaf ⟨rfl,rfl⟩;have m:=key () rfl a w<|hk.Lu (λ_ _ h=>h) λk b x=>(M1 x).2;have L9:∀(e:Exit)a w,e≠.normal->¬(X.post λe σ=>e=.normal/\σ=⟨(d,rt)::tm,[(c,.rows e2 i p j)]++dC [] (HK hp c)⟩) e a w:=λe a w V ⟨σ,_,hx,_⟩=>V hx;have y:∀a w,wpList X.P all (after X.P []<|X.post λe σ=>e=.normal/\σ=⟨(d,rt)::tm,[(c,.rows e2 i p j)]++dC [] (HK hp c)⟩) [] a w->K a w:=λa w W=>by obtain⟨σ,Z,_,rfl⟩:=W;refine O a w<|Z.Lu λk u hk=>by grind [pt] λk b x=>?_;by_cases hkc:c=k;all_goals simp_all [Bh,look,Kj,zq,Ne.symm]
  unfold wpList at m;split at m
  · rename_i hw;rw[if_pos hw];rcases m with m|⟨_,m⟩;·exact Oper.br7 y (λc a w=>L9 _ a w sq) (λ⟨a,w,hx⟩=>L9 _ a w sq hx) m
    ·obtain⟨a,w,hx⟩:=m;exact absurd hx<|L9 _ a w sq
  grind
end
end Go.Pv
namespace Go.Pv
open Go.RowKit
def uni:List Nat->List Nat->List Nat|[],m=>m|x::l,m=>bif fL x m then uni l m else x::uni l m
def bJ7 (a:List<|List Nat):List Nat->List Nat|[]=>[]|d::r=>uni (d::match a[d]?with|some l=>l|none=>[])<|bJ7 a r
def Cm:List Oper->List (List Nat)->List (List Nat)|[],a=>a|o::r,a=>Cm r<|a++[bJ7 a<|uW o]
theorem yP {k:Nat}:∀{l:List Nat},fL k l=true↔k∈l|[]=>by simp[fL]|x::l=>by simp only[fL,cV6];cases a:cV4 x k;simp only[cT8,yP];exact⟨.inr,λh=>h.resolve_left λe=>by simp_all⟩;simp_all
def ax3 {k:Nat}:∀{l m:List Nat},k∈uni l m->k∈l\/k∈m|[],m,h=>.inr h|x::l,m,h=>by unfold uni at h;cases a:fL x m<;>rw[a]at h<;>simp only[cT9,cT8]at h;rcases cV6.1 h with rfl|h;exact .inl<|cV7 ..;exact(ax3 h).imp (cV3 _) id;exact(ax3 h).imp (cV3 _) id
def aO1 {a:List<|List Nat}{k:Nat}:∀{ds:List Nat},k∈bJ7 a ds->∃d∈ds,k=d\/∃l,a[d]?=some l/\k∈l|[],h=>by simp[bJ7]at h|d::r,h=>by rcases ax3 h with h|h;grind;obtain⟨b,h1,c⟩:=aO1 h;exact⟨b,cV3 _ h1,c⟩
def WK {all:List Oper}{D:Nat->Prop}(c:∀(j:Nat)(o:Oper),all[j]?=some o->D j->∀k∈uW o,D k):∀(ops:List Oper)(a:List<|List Nat),all.drop a.length=ops->(∀(j:Nat)(l:List Nat)(o:Oper),a[j]?=some l->all[j]?=some o->(∀k∈uW o,D k)->∀i∈l,D i)->∀(j:Nat)(l:List Nat)(o:Oper),(Cm ops a)[j]?=some l->all[j]?=some o->(∀k∈uW o,D k)->∀i∈l,D i
 |[],a,_,h=>h|o::r,a,g,h=>by
  refine WK c r (a++[bJ7 a<|uW o]) (by rw[IT,<-bT3,g];rfl) λj l o' b e hk i hi=>?_;rw[List.getElem?_append]at b;split at b;grind;have f:j-a.length=0:=by grind
  rw[f]at b;simp[cY1,AI]at b;subst b;have m:all[j]?=some o:=by grind [cX6]
  rw[m]at e;obtain⟨d,n,hx⟩:=aO1 hi;grind
def Ma:Nat->List Nat->Bool|0,_=>true|n+1,l=>fL n l&&Ma n l
theorem Rx:∀{n:Nat}{l:List Nat},Ma n l=true->∀i,i<n->i∈l
 |0,_,_,i,hi=>by omega|n+1,l,h,i,hi=>by
  simp[Ma,BY]at h;rcases db7 i n with c|c;exact Rx h.2 i c;have:i=n:=by omega
  subst this;exact yP.1 h.1
def ab6 (h:Nat):Nat->List Oper->List (List Nat)->Bool|_,[],_=>true|j,o::r,b::a=>(uW o).all (λk=>Y3 k j)&&(Y3 j h||Ma j b)&&ab6 h (j+1) r a|_,_,[]=>false
def tR {h:Nat}:∀{ops:List Oper}{c:List<|List Nat}{j:Nat},ab6 h j ops c=true->∀(i:Nat)(o:Oper),ops[i]?=some o->∃b,c[i]?=some b/\(∀k∈uW o,k<j+i)/\(h<=j+i->∀x,x<j+i->x∈b)|[],_,_,_,i,o,a=>by simp at a|p::r,[],j,ht,i,o,a=>by simp[ab6]at ht|p::r,b::c,j,ht,i,o,a=>by simp only[ab6,BY,cV2,bh7]at ht;cases i with|zero=>simp[cY1,AI]at a;subst a;refine⟨b,rfl,λk hk=>cU8<|ht.1.1 k hk,λd x hx=>?_⟩;rcases ht.1.2 with h1|h1;have:=cU8 h1;omega;grind [Rx]|succ i=>obtain⟨e,h1,f,g⟩:=tR ht.2 i o (by simpa using a);exact⟨e,by simpa using h1,λk hk=>by have:=f k hk;omega,λd x hx=>g F x F⟩
def xP (nt:Nat)(tm0:J4)(hp0:F1):List Oper->Bool|[]=>true|o::r=>(match o.dst with|some d=>(look tm0 d).isNone&&Y3 d nt&&r.all (λo'=>match o'.dst with|some a=>!Nat.beq d a|none=>true)|none=>true)&&(match rM o.op,o.dst with|true,some d=>F6 d tm0&&E8 d hp0|_,_=>true)&&xP nt tm0 hp0 r
def aM3 {nt:Nat}{tm0:J4}{hp0:F1}:∀{l:List Oper},xP nt tm0 hp0 l=true->Um nt tm0 l=true/\∀(i:Nat)(o:Oper)(d:Nat),l[i]?=some o->rM o.op=true->o.dst=some d->(F6 d tm0&&E8 d hp0)=true|[],_=>⟨rfl,λi o d h=>by simp at h⟩|o::r,h=>by simp[xP,BY]at h;obtain⟨h1,a⟩:=aM3 h.2;refine⟨by simp[Um];grind,λi o' d hi b c=>?_⟩;grind
def Ty (d:Nat):Option (Nat×ck)->Bool|some (i,b)=>cV4 i d||Bf d b|none=>false
def Vz (d j:Nat):List (T×Option (Nat×ck))->List (List Nat)->Nat->Bool|[],_,_=>true|(V,N)::r,b::a,i=>(cV4 i j||!names d V&&!Ty d N||fL j b)&&Vz d j r a (i+1)|_::_,[],_=>false
def Sv (vs:List<|T×Option (Nat×ck))(a:List<|List Nat):Nat->List Oper->Bool|_,[]=>true|j,o::r=>(match rM o.op,o.dst with|true,some d=>Vz d j vs a 0|_,_=>true)&&Sv vs a (j+1) r
def Oz {d j:Nat}:∀{vs:List<|T×Option (Nat×ck)}{a:List<|List Nat}{c:Nat},Vz d j vs a c=true->∀(i:Nat)(V:T)(N:Option<|Nat×ck),vs[i]?=some (V,N)->c+i≠j->names d V=false/\Ty d N=false\/∃b,a[i]?=some b/\j∈b|[],_,_,_,i,V,N,hi,_=>by simp at hi|(e,f)::r,[],_,h,_,_,_,_,_=>by simp[Vz]at h|(e,f)::r,b::a,c,h,i,V,N,hi,g=>by simp[Vz,BY,bh7]at h;cases i with|zero=>rcases h.1 with(h1|h1)|h1;simp_all;grind;exact .inr ⟨b,rfl,yP.1 h1⟩|succ i=>have:=Oz h.2 i V N (by simpa using hi) F;simpa using this
def Nx {vs:List<|T×Option (Nat×ck)}{b:List<|List Nat}:∀{ops:List Oper}{a:Nat},Sv vs b a ops=true->∀(j:Nat)(o:Oper)(d:Nat),ops[j]?=some o->rM o.op=true->o.dst=some d->Vz d (a+j) vs b 0=true|[],_,_,j,o,d,c,_,_=>by simp at c|p::r,a,h,j,o,d,c,e,f=>by simp[Sv,BY]at h;cases j with|zero=>grind|succ j=>have:=Nx h.2 j o d gq e f;grind
def bI7 (tm0:J4)(hp0:F1)(vs:List<|T×Option (Nat×ck))(a:List<|List Nat):Nat->List Oper->Bool|_,[]=>true|j,o::r=>(match Xu o (match vs[j]?with|some (_,N)=>N|none=>none)with|some id=>F6 id tm0&&(nfB id hp0&&Vz id j vs a 0)|none=>true)&&bI7 tm0 hp0 vs a (j+1) r
def Xv {tm0:J4}{hp0:F1}{vs:List<|T×Option (Nat×ck)}{b:List<|List Nat}:∀{ops:List Oper}{a:Nat},bI7 tm0 hp0 vs b a ops=true->∀(j:Nat)(o:Oper)(V:T)(N:Option<|Nat×ck)(id:Nat),ops[j]?=some o->vs[a+j]?=some (V,N)->Xu o N=some id->F6 id tm0=true/\nfB id hp0=true/\Vz id (a+j) vs b 0=true|[],_,_,j,o,V,N,id,c,_,_=>by simp at c|p::r,a,h,j,o,V,N,id,c,d,hi=>by simp[bI7,BY]at h;cases j with|zero=>grind|succ j=>have:=Xv h.2 j o V N id gq gq hi;grind
def LZ (D:Nat->Bool):Nat->List (T×Option (Nat×ck))->F1->F1|_,[],hp=>hp|i,(_,N)::r,hp=>LZ D (i+1) r<|bif D i then Bh N hp else hp
def vis (a:List<|List Nat)(ws:List<|Nat×Nat)(i:Nat)(b:List Nat)(id:Nat):Bool:=ws.all λp=>!Nat.beq p.2 id||(cV4 p.1 i||(fL p.1 b||match a[p.1]?with|some c=>fL i c|none=>false))
def bw8 (a:List<|List Nat)(ws:List<|Nat×Nat)(i:Nat)(b:List Nat):F1->F1|[]=>[]|(k,c)::r=>bif vis a ws i b k then(k,c)::bw8 a ws i b r else bw8 a ws i b r
def by5 (a:List<|List Nat)(ws:List<|Nat×Nat)(vs:List<|T×Option (Nat×ck))(hp0:F1)(i:Nat)(b:List Nat):F1:=bw8 a ws i b<|LZ (λj=>fL j b) 0 vs hp0
def bQ5 (vs:List<|T×Option (Nat×ck))(hp0:F1):F1:=LZ (λ_=>true) 0 vs hp0
def inW (i id:Nat):List (Nat×Nat)->Bool|[]=>false|p::r=>cV4 p.1 i&&cV4 p.2 id||inW i id r
def VS (ws:List<|Nat×Nat):Nat->List (T×Option (Nat×ck))->Bool|_,[]=>true|i,(_,some (id,_))::r=>inW i id ws&&VS ws (i+1) r|i,(_,none)::r=>VS ws (i+1) r
def Zn (a:List<|List Nat):List (Nat×Nat)->Bool|[]=>true|p::r=>r.all (λq=>!Nat.beq p.2 q.2||(cV4 p.1 q.1||(Y3 p.1 q.1&&(match a[q.1]?with|some b=>fL p.1 b|none=>false)||Y3 q.1 p.1&&match a[p.1]?with|some b=>fL q.1 b|none=>false)))&&Zn a r
def Sn {a:List<|List Nat}{ws:List<|Nat×Nat}{i:Nat}{b:List Nat}:∀{hp:F1}{k:Nat}{c:ck},look (bw8 a ws i b hp) k=some c->vis a ws i b k=true/\look hp k=some c|[],k,c,h=>by simp[bw8,look]at h|(j,x)::r,k,c,h=>by unfold bw8 at h;by_cases d:j=k;subst d;cases e:vis a ws i b j<;>rw[e]at h<;>simp[cT9]at h;have:=Sn h;grind;exact⟨rfl,by simpa[look]using h⟩;rw[C4 d];cases e:vis a ws i b j<;>rw[e]at h<;>simp[cT8]at h;exact Sn h;rw[C4 d]at h;exact Sn h
theorem Ux {N:Option<|Nat×ck}{hp:F1}{k:Nat}(h:∀b,N≠some (k,b)):look (Bh N hp) k=look hp k:=by cases N with|none=>rfl|some p=>obtain⟨i,b⟩:=p;have:i≠k:=λe=>h b (by rw[e]);exact C4 this
def Jx {D a:Nat->Bool}{id:Nat}:∀{vs:List<|T×Option (Nat×ck)}{k:Nat}{hp L9:F1},look hp id=look L9 id->(∀j V b,vs[j]?=some (V,some (id,b))->D (k+j)=a (k+j))->look (LZ D k vs hp) id=look (LZ a k vs L9) id
 |[],_,_,_,h,_=>h|(V,N)::r,k,hp,L9,h,c=>by
  unfold LZ;refine Jx ?_ (λj d b f=>by have:=c (j+1) d b gq;grind);by_cases e:∃b,N=some (id,b);·obtain⟨b,rfl⟩:=e;have:=c 0 V b rfl;grind [Bh,look]
  ·all_goals grind [Ux]
theorem Ts {D:Nat->Bool}{id:Nat}:∀{vs:List<|T×Option (Nat×ck)}{k:Nat}{hp:F1},(∀j V b,vs[j]?=some (V,some (id,b))->D (k+j)=false)->look (LZ D k vs hp) id=look hp id|[],_,_,_=>rfl|(V,N)::r,k,hp,a=>by unfold LZ;rw[Ts λj c b d=>by have:=a (j+1) c b gq;grind];cases hk:D k;rfl;exact Ux λb e=>by have:=a 0 V b (by rw[e];rfl);grind
theorem aj4 {D:Nat->Bool}{id:Nat}{V:T}{b:ck}:∀{vs:List<|T×Option (Nat×ck)}{i k:Nat}{hp:F1},vs[i]?=some (V,some (id,b))->D (k+i)=true->(∀j V b,i<j->vs[j]?=some (V,some (id,b))->D (k+j)=false)->look (LZ D k vs hp) id=some b|[],i,_,_,h,_,_=>by simp at h|(f,N)::r,0,k,hp,h,a,c=>by obtain⟨rfl,rfl⟩:=h;rw[Nat.add_zero]at a;unfold LZ;rw[a];rw[Ts λj d b2 e=>by have:=c (j+1) d b2 F gq;grind];simp[Bh,look]|(f,N)::r,i+1,k,hp,h,a,c=>by unfold LZ;exact aj4 (by simpa using h) (by rwa[cD6,Nat.add_comm 1 i]) λj d b2 g e=>by have:=c (j+1) d b2 F (by simpa using e);rwa[cD6,Nat.add_comm 1 j]
theorem bs4 {D:Nat->Bool}{i:Nat}:∀{vs:List<|T×Option (Nat×ck)}{k:Nat}{hp:F1},(∀j,i<=j->D (k+j)=false)->LZ D k (vs.take i) hp=LZ D k vs hp:=by induction i with
 |zero=>intro vs;induction vs with|nil=>simp|cons x r a=>intro k hp h;have h0:=h 0<|cW6 _;have:=a (k:=k+1) (hp:=hp) (λj _=>by have:=h (j+1) F;grind);grind [LZ]
 |succ i a=>intro vs k hp h;cases vs with|nil=>rfl|cons x r=>exact a λj b=>by have:=h (j+1) F;grind
def bm9 {i id:Nat}:∀{ws:List<|Nat×Nat},inW i id ws=true->(i,id)∈ws|[],h=>by cases h|p::r,h=>by simp[inW,bh7,BY]at h;rcases h with⟨h1,c⟩|h;obtain⟨a,b⟩:=p;simp_all;exact cV3 _<|bm9 h
theorem OH {ws:List<|Nat×Nat}:∀{vs:List<|T×Option (Nat×ck)}{k:Nat},VS ws k vs=true->∀i V id b,vs[i]?=some (V,some (id,b))->(k+i,id)∈ws
 |[],_,_,i,V,id,b,h=>by simp at h|(c,N)::r,k,d,i,V,id,b,h=>by
  have a:VS ws (k+1) r=true/\∀p,N=some p->inW k p.1 ws=true:=by cases N with|none=>grind [VS]|some p=>simp_all[VS]
  cases i with|zero=>obtain⟨rfl,rfl⟩:=h;exact bm9<|a.2 _ rfl|succ i=>have:=OH a.1 i V id b gq;grind
theorem Zo {e:List<|List Nat}:∀{ws:List<|Nat×Nat},Zn e ws=true->∀i j id,(i,id)∈ws->(j,id)∈ws->i<j->∃b,e[j]?=some b/\i∈b
 |[],_,i,j,id,h,_,_=>by cases h|p::r,hp,i,j,id,hi,k,f=>by
  simp only[Zn,BY,cV2]at hp;have key:∀q∈r,p.2=q.2->p.1≠q.1->(p.1<q.1/\∃b,e[q.1]?=some b/\p.1∈b)\/q.1<p.1/\∃b,e[p.1]?=some b/\q.1∈b:=by intro q l n m;have:=hp.1 q l;simp only[bh7,BY]at this;rcases this with h1|h1|h1|h1;simp_all;simp_all;refine .inl ⟨cU8 h1.1,?_⟩;have a:=h1.2;split at a;rename_i b g;exact⟨b,g,yP.1 a⟩;cases a;refine .inr ⟨cU8 h1.1,?_⟩;have a:=h1.2;split at a;rename_i b g;exact⟨b,g,yP.1 a⟩;cases a
  rcases cV6.1 hi with e1|d;rcases cV6.1 k with e2|c;rw[<-e1]at e2;cases e2;omega;rcases key _ c (by rw[<-e1]) (by rw[<-e1];omega)with h|h;rw[<-e1]at h;exact h.2;have:=h.1;rw[<-e1]at this;omega;rcases cV6.1 k with e2|c;rcases key _ d (by rw[<-e2]) (by rw[<-e2];omega)with h|h;have:=h.1;rw[<-e2]at this;omega;rw[<-e2]at h;exact h.2;exact Zo hp.2 i j id d c f
def Tq (X:Cx)(all:Array Oper)(a:List<|List Nat)(ws:List<|Nat×Nat)(tm0:J4)(hp0:F1)(vs:List<|T×Option (Nat×ck)):Prop:=∀i V N o b,vs[i]?=some (V,N)->all.toList[i]?=some o->a[i]?=some b->U5 X all o (minOf all.toList ((vs.take i).map (·.1)) tm0<|uW o) (by5 a ws (vs.take i) hp0 i b) V N
theorem HJ {o5:Array Bool}{i n:Nat}(a:o5.size=n)(hi:i<n):(o5.setIfInBounds i true).getD i false=true:=by simp_all
section
variable {X:Cx}{all:Array Oper}{tm0:J4}{hp0:F1}{vs:List<|T×Option (Nat×ck)}{ws:List<|Nat×Nat}
def aU3 {P:Program}{Q:Exit->Act->World->Prop}{h:Nat}(ht:ab6 h 0 all.toList (Cm all.toList [])=true):∀(fuel m:Nat)(o5:Array Bool)(a:Act)(w:World),h<=m->m+fuel=all.size->o5.size=all.size->(∀j,j<all.size->o5.getD j false=decide (j<m))->wpList P all Q (all.toList.drop m) a w->wpAny P .any all Q fuel o5 a w:=by intro fuel;induction fuel with|zero=>intro m o5 a w E I s n f;have t:all.toList.drop m=[]:=List.drop_eq_nil_of_le (by simp;omega);rw[t]at f;refine⟨?_,f⟩;apply List.eq_nil_iff_forall_not_mem.2;grind [mem_ready]|succ fuel J=>
  intro m o5 a w E I s n f;have d:m<all.size:=by omega
  have u:all[m]?=some all[m]:=Array.getElem?_eq_getElem d;have z:∀(j:Nat)(o:Oper),all.toList[j]?=some o->o5.getD j false=true->∀k∈uW o,o5.getD k false=true:=by
   intro j o v p k hk;have g:j<all.size:=by have:=(No.1 v).1;simpa using this
   obtain⟨_,_,q,_⟩:=tR ht j o v;have K:=q k hk;rw[n j g]at p;rw[n k F];simp at p|-;omega
  have only:∀j∈Region.ready .any all o5,j=m:=by
   intro j p;obtain⟨h1,o,v,L⟩:=mem_ready.1 p;have g:j<all.size:=(cL9.1 v).1;have q:o5.getD j true=o5.getD j false:=by simp[s,g]
   rw[q,n j g]at h1;simp at h1;rcases db7 m j with A|M;exfalso;have x:all.toList[j]?=some o:=by simpa using v
   obtain⟨b,B,_,C⟩:=tR ht j o x;have:=WK z all.toList [] sq (λj l o p=>by simp at p) j b o B x (Kh L) m<|C F m F;rw[n m d]at this;simp at this;omega
  have y:m∈Region.ready .any all o5:=by
   have q:o5.getD m true=false:=by
    have q:o5.getD m true=o5.getD m false:=by simp[s,d]
    rw[q,n m d];simp
   refine mem_ready.2 ⟨q,all[m],u,λe N B=>?_⟩;have hk:e.on∈uW all[m]:=by simp only[uW,cX3,de0];exact⟨e,⟨by simpa using N,B⟩,rfl⟩
   obtain⟨_,_,C,_⟩:=tR ht m all[m] sq;have A:=C e.on hk;rw[n e.on F];simp;omega
  refine⟨λh0=>(by rw[h0]at y;cases y),λi hi=>?_⟩;have:=only i hi;subst this;have r:all.toList.drop i=all[i]::all.toList.drop (i+1):=by rw[List.drop_eq_getElem_cons<|by simpa using d];simp
  rw[r]at f;unfold wpList at f;unfold wpOp;simp only[u];have next:∀a w,wpList P all Q (all.toList.drop<|i+1) a w->wpAny P .any all Q fuel (o5.setIfInBounds i true) a w:=λa w f=>J (i+1) _ a w F F (by simp[s]) λj p=>by by_cases c:i=j;subst c;simp[s,d];rw[getD_set_ne false c,n j p];simp;omega f;split at f;rename_i D;rw[if_pos D];exact f.imp (Oper.wp_mono next) id;rename_i D;rw[if_neg D];exact next _ _ f
def Vm {d:Nat}{hp:F1}{N:Option<|Nat×ck}(h:E8 d hp=true)(a:Ty d N=false):E8 d (Bh N hp)=true:=by cases N with|none=>exact h|some p=>grind [Ty,Bh,E8]
def bT9 {d:Nat}{hp:F1}{N:Option<|Nat×ck}(h:nfB d hp=true)(a:Ty d N=false):nfB d (Bh N hp)=true:=by cases N with|none=>exact h|some p=>grind [Ty,Bh,nfB]
def bR4 {Q:Exit->Act->World->Prop}{h:Nat}(hv:vs.length=h)(hle:h<=all.size)(ht:ab6 h 0 all.toList (Cm all.toList [])=true)(hh:Um X.nt tm0 (all.toList.take h)=true)(hnm:Sv vs (Cm all.toList []) 0 (all.toList.take h)=true)(hus:VS ws 0 vs=true)(hps:Zn (Cm all.toList []) ws=true)(has:bI7 tm0 hp0 vs (Cm all.toList []) 0 (all.toList.take h)=true)(steps:Tq X all (Cm all.toList []) ws tm0 hp0 vs)(rest:∀a w,Jv X.w0 X.L X.nt ⟨Qw all.toList (vs.map (·.1)) tm0,bQ5 vs hp0⟩ a w->wpList X.P all Q (all.toList.drop h) a w):∀(fuel:Nat)(o5:Array Bool)(tm:J4)(hp:F1)(a:Act)(w:World),Jv X.w0 X.L X.nt ⟨tm,hp⟩ a w->more tm0 tm->vz (LZ (λj=>o5.getD j false) 0 vs hp0) hp->o5.size=all.size->unl all.size o5=fuel->(∀j,h<=j->j<all.size->o5.getD j false=false)->(∀(j:Nat)(o:Oper),all.toList[j]?=some o->o5.getD j false=true->∀k∈uW o,o5.getD k false=true)->(∀(i:Nat)(o:Oper)(V:T)(N:Option<|Nat×ck)(d:Nat),o5.getD i false=true->all.toList[i]?=some o->vs[i]?=some (V,N)->o.dst=some d->look tm d=some V)->(∀(i:Nat)(o:Oper)(d:Nat),i<h->o5.getD i false=false->all.toList[i]?=some o->rM o.op=true->o.dst=some d->F6 d tm=true/\E8 d hp=true)->(∀(i:Nat)(o:Oper)(V:T)(N:Option<|Nat×ck)(id:Nat),i<h->o5.getD i false=false->all.toList[i]?=some o->vs[i]?=some (V,N)->Xu o N=some id->F6 id tm=true/\nfB id hp=true)->wpAny X.P .any all Q fuel o5 a w:=by
 have bget:∀(j:Nat)(o:Oper),all.toList[j]?=some o->∃b,(Cm all.toList [])[j]?=some b:=λj o ho=>by obtain⟨b,E,_⟩:=tR ht j o ho;exact⟨b,E⟩
 have fin:∀(o5:Array Bool)(tm:J4)(hp:F1)(a:Act)(w:World),Jv X.w0 X.L X.nt ⟨tm,hp⟩ a w->more tm0 tm->vz (LZ (λj=>o5.getD j false) 0 vs hp0) hp->(∀j,j<h->o5.getD j false=true)->(∀(i:Nat)(o:Oper)(V:T)(N:Option<|Nat×ck)(d:Nat),o5.getD i false=true->all.toList[i]?=some o->vs[i]?=some (V,N)->o.dst=some d->look tm d=some V)->wpList X.P all Q (all.toList.drop h) a w:=λo5 tm hp a w hk hm O C I=>rest a w<|hk.Lu (Vo hm _ _ λj o V d ho hV hd=>by rw[bg5]at hV;cases v:vs[j]?with|none=>rw[v]at hV;cases hV|some p=>rw[v]at hV;simp only[cW3,AI]at hV;subst hV;exact I j o p.1 p.2 d (C j<|by have:=(No.1 v).1;omega) ho v hd) λk c hk=>O k c (by
    rw[<-hk]
    refine Jx rfl λj V b q=>?_;rw[cX4];exact C j<|by have:=(No.1 q).1;omega);intro fuel;induction fuel with|zero=>
  intro o5 tm hp a w hk hm O hs hu htl hcl I _ _;have C:=cb5 hu;have hh0:h=all.size:=by rcases db7 h all.size with h1|h1;have:=htl h (cW6 _) h1;rw[C h h1]at this;cases this;omega
  exact aU3 ht 0 h o5 a w (cW6 _) F hs λj q=>by rw[C j q];simp;omega (fin o5 tm hp a w hk hm O (λj q=>C j F) I)|succ fuel ih=>
  intro o5 tm hp a w hk hm O hs hu htl hcl I hfr hap;by_cases R:∀j,j<h->o5.getD j false=true;have hl:∀j,j<all.size->o5.getD j false=decide (j<h):=λj q=>by by_cases c:j<h;rw[R j c];simp[c];rw[htl j F q];simp[c]
  have hcount:h+(fuel+1)=all.size:=by
   have key:∀m,m<=all.size->((List.range m).filter λj=>!o5.getD j false).length=m-h:=by intro m;induction m with|zero=>intro _;simp|succ m ihm=>intro hm';rw[List.range_succ,List.filter_append,IT,ihm F];have:=hl m F;by_cases c:m<h;simp only[dc3,this,c,decide_true,AT,Bool.false_eq_true,if_false,dd6,cX0];omega;simp only[dc3,this,c,decide_false,Bool.not_false,if_true,dd6,List.length_cons,cX0];omega
   have:=key all.size<|cW6 _;unfold unl at hu;omega
  exact aU3 ht (fuel+1) h o5 a w (cW6 _) hcount hs hl<|fin o5 tm hp a w hk hm O R I;have hex:∃j,j<h/\o5.getD j false=false:=by refine Classical.byContradiction λhn=>R λj q=>?_;cases E:o5.getD j false;exact absurd ⟨j,q,E⟩ hn;rfl
  obtain⟨j0,hj0,hl0⟩:=hex;have bef:∀(j:Nat)(o:Oper)(b:List Nat),all.toList[j]?=some o->(Cm all.toList [])[j]?=some b->(∀k∈uW o,o5.getD k false=true)->∀i∈b,o5.getD i false=true:=λj o b ho E hd=>WK (D:=λk=>o5.getD k false=true) hcl all.toList [] sq (λj l o q=>by simp at q) j b o E ho hd;have S:∀i∈Region.ready .any all o5,i<h/\i<all.size/\o5.getD i false=false/\∃o,all[i]?=some o/\∀k∈uW o,o5.getD k false=true:=by
   intro i hi;obtain⟨h1,o,ho,hd⟩:=mem_ready.1 hi;have A:i<all.size:=(cL9.1 ho).1;have Z:o5.getD i true=o5.getD i false:=by simp[hs,A]
   rw[Z]at h1;refine⟨?_,A,h1,o,ho,Kh hd⟩;refine Classical.byContradiction λhnh=>?_;have y:all.toList[i]?=some o:=by simpa using ho
   obtain⟨b,E,_,h3⟩:=tR ht i o y;have:=bef i o b y E (Kh hd) j0<|h3 F j0 F;rw[hl0]at this;cases this
  have notEmpty:Region.ready .any all o5≠[]:=by
   have hmin:∃j,j<all.size/\o5.getD j false=false/\∀k,k<j->o5.getD k false=true:=by
    have:∀n,(∃j,j<n/\o5.getD j false=false)->∃j,j<n/\o5.getD j false=false/\∀k,k<j->o5.getD k false=true:=by intro n;induction n with|zero=>rintro⟨j,q,_⟩;omega|succ n ihn=>
      rintro⟨j,q,E⟩;by_cases hx:∃j,j<n/\o5.getD j false=false;obtain⟨j',h1,Z,h3⟩:=ihn hx;exact⟨j',by omega,Z,h3⟩;have:j=n:=by rcases db7 j n with c|c;exact absurd ⟨j,c,E⟩ hx;omega
      subst this;refine⟨j,q,E,λk hk=>?_⟩;cases hc:o5.getD k false;exact absurd ⟨k,hk,hc⟩ hx;rfl
    obtain⟨j,h1,Z,h3⟩:=this h ⟨j0,hj0,hl0⟩;exact⟨j,by omega,Z,h3⟩
   obtain⟨j,q,E,hk⟩:=hmin;have A:j∈Region.ready .any all o5:=by
    have hjo:all[j]?=some all[j]:=Array.getElem?_eq_getElem q;have Z:o5.getD j true=false:=by rw[<-E];simp[hs,q]
    refine mem_ready.2 ⟨Z,all[j],hjo,λe he hbd=>?_⟩;have hke:e.on∈uW all[j]:=by simp only[uW,cX3,de0];exact⟨e,⟨by simpa using he,hbd⟩,rfl⟩
    obtain⟨_,_,h3,_⟩:=tR ht j all[j] sq;exact hk e.on<|by have:=h3 e.on hke;omega
   intro h0;rw[h0]at A;cases A
  refine⟨λh0=>absurd h0 notEmpty,λi hi=>?_⟩;obtain⟨hih,A,hli,o,ho,hd⟩:=S i hi;have y:all.toList[i]?=some o:=by simpa using ho
  obtain⟨b,E⟩:=bget i o y;have hbl:=bef i o b y E hd;have B:vs[i]?=some (vs[i]'F):=List.getElem?_eq_getElem F;generalize vs[i]'F=p at B;obtain⟨V,N⟩:=p;have hti:(all.toList.take h)[i]?=some o:=by rw[db5,if_pos hih];exact y
  have tk:∀j V N,(vs.take i)[j]?=some (V,N)->vs[j]?=some (V,N):=λj V N q=>by rw[db5]at q;split at q;exact q;cases q
  have hmin:more (minOf all.toList ((vs.take i).map (·.1)) tm0<|uW o) tm:=YW hm _ λj u Vj dj q f z r=>by rw[bg5]at z;cases v:(vs.take i)[j]?with|none=>rw[v]at z;cases z|some p=>rw[v]at z;simp only[cW3,AI]at z;subst z;exact I j u p.1 p.2 dj (hd j q) f (tk j _ _ v) r
  have hblt:∀x∈b,x<i:=WK (D:=λx=>x<i) λj u f q k hk=>by obtain⟨_,_,Z,_⟩:=tR ht j u f;have:=Z k hk;omega all.toList [] sq (λj l o q=>by simp at q) i b o E y (λk hk=>by obtain⟨_,_,Z,_⟩:=tR ht i o y;have:=Z k hk;omega);have hbi:∀j,i<=j->fL j b=false:=λj q=>by cases hx:fL j b;rfl;have:=hblt j<|yP.1 hx;omega
  have W:∀j bj,(Cm all.toList [])[j]?=some bj->i∈bj->o5.getD j false=false:=λj bj hbj hib=>by
   cases hx:o5.getD j false;rfl;exfalso;have hjn:j<all.size:=by
    rcases db7 j all.size with c|c;exact c;have:o5.getD j false=false:=by simp[hs,c]
    rw[hx]at this;cases this
   have f:all.toList[j]?=some all[j]:=by simp
   have:=bef j all[j] bj f hbj (hcl j _ f hx) i hib;rw[hli]at this;cases this
  have hminH:vz (by5 (Cm all.toList []) ws (vs.take i) hp0 i b) hp:=λk c hk=>by obtain⟨hv1,hl1⟩:=Sn hk;rw[bs4 λj q=>by rw[cX4];exact hbi j q]at hl1;refine O k c ?_;rw[<-hl1];refine Jx rfl λj V' b' q=>?_;rw[cX4];have hw:=OH hus j V' k b' q;rw[cX4]at hw;have hx:=cV2.1 hv1 _ hw;simp only[tj,AT,Bool.false_or,bh7]at hx;rcases hx with hx|hx|hx;have:=bD hx;subst this;rw[hli,hbi j<|cW6 _];rw[hx];exact hbl j<|yP.1 hx;split at hx;rename_i bj hbj;have h1:=W j bj hbj<|yP.1 hx;rw[h1];cases hy:fL j b;rfl;have:=hbl j<|yP.1 hy;rw[h1]at this;cases this;cases hx
  have hacc:vz (LZ (λj=>(o5.setIfInBounds i true).getD j false) 0 vs hp0)<|Bh N hp:=λk c hk=>by by_cases hN:∃c',N=some (k,c');obtain⟨c',rfl⟩:=hN;rw[aj4 B (by rw[cX4];exact HJ hs A) λj V2 b2 hij q=>by rw[cX4,getD_set_ne false F];have w1:=OH hus i V k c' B;have w2:=OH hus j V2 k b2 q;rw[cX4]at w1 w2;obtain⟨bj,hbj,hib⟩:=Zo hps i j k w1 w2 hij;exact W j bj hbj hib]at hk;cases hk;simp[Bh,look];rw[Ux λc' e=>hN ⟨c',e⟩];refine O k c ?_;rw[<-hk];refine Jx rfl λj V' b' q=>?_;rw[cX4,getD_set_ne false];intro e;subst e;rw[B]at q;cases q;exact hN ⟨b',rfl⟩
  unfold wpOp;simp only[ho];have U:=steps i V N o b B y E tm hp hmin hminH ⟨λhn d s=>by have:=hfr i o d hih hli y hn s;rw[this.1,this.2];rfl,λid J=>hap i o V N id hih hli y B J⟩ (λd s=>(FB hh i i o o d d hti hti s s).1.2|>λh=>Nat.ble_eq_true_of_le h) a w hk (wpAny X.P .any all Q fuel<|o5.setIfInBounds i true) Q (λa' w' hk'=>by
   have hsz:(o5.setIfInBounds i true).size=all.size:=by simp[hs]
   have hun:unl all.size (o5.setIfInBounds i true)=fuel:=by have:=cq1 (o5:=o5) A hs hli;omega
   have htl':∀j,h<=j->j<all.size->(o5.setIfInBounds i true).getD j false=false:=λj h1 Z=>by rw[getD_set_ne false F];exact htl j h1 Z
   have hcl':∀(j:Nat)(o:Oper),all.toList[j]?=some o->(o5.setIfInBounds i true).getD j false=true->∀k∈uW o,(o5.setIfInBounds i true).getD k false=true:=λj u f g k hk=>by by_cases c:i=j;subst c;rw[y]at f;cases f;exact getD_set_true<|hd k hk;rw[getD_set_ne false c]at g;exact getD_set_true<|hcl j u f g k hk
   have hjh:∀j,j<all.size->o5.getD j false=true->j<h:=λj q g=>by refine Classical.byContradiction λhn=>?_;rw[htl j F q]at g;cases g
   have jlt:∀(j:Nat)(u:Oper),all.toList[j]?=some u->j<all.size:=λj u f=>by have:=(No.1 f).1;simpa using this
   have hap':∀(j:Nat)(u:Oper)(Vj:T)(Nj:Option<|Nat×ck)(id:Nat),j<h->(o5.setIfInBounds i true).getD j false=false->all.toList[j]?=some u->vs[j]?=some (Vj,Nj)->Xu u Nj=some id->(F6 id tm=true/\names id V=false)/\nfB id (Bh N hp)=true:=λj u Vj Nj id q g f v J=>by by_cases c:i=j;subst c;rw[HJ hs A]at g;cases g;rw[getD_set_ne false c]at g;obtain⟨f1,f2⟩:=hap j u Vj Nj id q g f v J;obtain⟨_,_,K⟩:=Xv has j u Vj Nj id (by rw[db5,if_pos q];exact f) (by rw[cX4];exact v) J;rw[cX4]at K;rcases Oz K i V N B F with⟨n1,n2⟩|⟨b',M,hjb⟩;exact⟨⟨f1,n1⟩,bT9 f2 n2⟩;rw[E]at M;cases M;have:=hbl j hjb;rw[g]at this;cases this
   cases s:o.dst with|none=>simp only[pt,s]at hk';refine ih _ tm _ _ w' hk' hm hacc hsz hun htl' hcl' (λj u Vj Nj dj g f z r=>?_) (λj u dj q g f hnj r=>?_) λj u Vj Nj bid q g f v J=>(hap' j u Vj Nj bid q g f v J).imp (·.1) λx=>x;by_cases c:i=j;subst c;rw[y]at f;cases f;rw[s]at r;cases r;rw[getD_set_ne false c]at g;exact I j u Vj Nj dj g f z r;by_cases c:i=j;subst c;rw[y]at f;cases f;rw[s]at r;cases r;rw[getD_set_ne false c]at g;obtain⟨f1,f2⟩:=hfr j u dj q g f hnj r;have K:=Nx hnm j u dj (by rw[db5,if_pos q];exact f) hnj r;rw[cX4]at K;rcases Oz K i V N B F with⟨n1,n2⟩|⟨b',M,hjb⟩;exact⟨f1,Vm f2 n2⟩;rw[E]at M;cases M;have:=hbl j hjb;rw[g]at this;cases this|some d=>
    have h1:=(FB hh i i o o d d hti hti s s).1;have hpt:pt o V tm=(d,V)::tm:=by simp[pt,s]
    rw[hpt]at hk';have dne:∀(j:Nat)(u:Oper)(dj:Nat),i≠j->j<h->all.toList[j]?=some u->u.dst=some dj->d≠dj:=λj u dj c q f r=>(FB hh i j o u d dj hti (by rw[db5,if_pos q];exact f) s r).2 c;refine ih _ ((d,V)::tm) _ _ w' hk' (λk t hkt=>?_) hacc hsz hun htl' hcl' (λj u Vj Nj dj g f z r=>?_) (λj u dj q g f hnj r=>?_) λj u Vj Nj bid q g f v J=>(hap' j u Vj Nj bid q g f v J).imp λh=>by simp[F6,h.1,h.2] λx=>x;have hne:d≠k:=by intro e;subst e;rw[h1.1]at hkt;cases hkt
    rw[C4 hne];exact hm k t hkt;by_cases c:i=j;subst c;rw[y]at f;cases f;rw[s]at r;cases r;rw[B]at z;cases z;simp[look];rw[getD_set_ne false c]at g;have hne:=dne j u dj c (hjh j (jlt j u f) g) f r;rw[C4 hne];exact I j u Vj Nj dj g f z r;by_cases c:i=j;subst c;rw[HJ hs A]at g;cases g;rw[getD_set_ne false c]at g;have hne:=dne j u dj c q f r;obtain⟨f1,f2⟩:=hfr j u dj q g f hnj r;have K:=Nx hnm j u dj (by rw[db5,if_pos q];exact f) hnj r;rw[cX4]at K;rcases Oz K i V N B F with⟨n1,n2⟩|⟨b',M,hjb⟩;exact⟨by simp[F6,n1,f1],Vm f2 n2⟩;rw[E]at M;cases M;have:=hbl j hjb;rw[g]at this;cases this);split at U;rename_i hg;rw[if_pos hg];exact .inl U;rename_i hg;rw[if_neg hg];exact U
def ch9 (nt:Nat)(all:List Oper)(h:Nat)(ws:List<|Nat×Nat)(tm0:J4)(hp0:F1)(vs:List<|T×Option (Nat×ck)):Bool:=cV4 vs.length h&&(dc6 h all.length&&(ab6 h 0 all (Cm all [])&&(xP nt tm0 hp0 (all.take h)&&(Sv vs (Cm all []) 0 (all.take h)&&(VS ws 0 vs&&(Zn (Cm all []) ws&&bI7 tm0 hp0 vs (Cm all []) 0 (all.take h)))))))
def w6.cN5 {ρ:Type}{ks:List K}{m:Option ρ}{Q:ρ->Exit->St->Prop}{id h:Nat}(hmx:X.P.follows .mixedOrders=true)(g:ch9 X.nt all.toList h ws tm0 hp0 vs=true)(e:Tq X all (Cm all.toList []) ws tm0 hp0 vs)(rest:o0 X all (all.toList.drop h) ks ⟨Qw all.toList (vs.map (·.1)) tm0,bQ5 vs hp0⟩ m Q):w6 X (.c (.region id all true)::ks) ⟨tm0,hp0⟩ m Q:=λr n a w p=>by simp only[ch9,BY]at g;obtain⟨h1,D,q,s,t,u,v,l⟩:=g;obtain⟨x,y⟩:=aM3 s;obtain⟨S,E,hk⟩:=p;have f:tZ (λ_=>False) w {w with drawn:=w.drawn+1}:=⟨rfl,rfl,rfl,cW6 _,λ_ _ _=>rfl,Nat.le_succ _⟩;refine wp_region_any hmx<|bR4 (bD h1) (by simp_all) q x t u v l e (λa w z=>rest r n a w z) _ _ tm0 hp0 a _ ⟨S,E,hk.grow f⟩ (λ_ _ h=>h) (λk c hk=>by rw[Ts λj V b _=>by exact SI _ _]at hk;exact hk) sq ?_ ?_ ?_ ?_ ?_ ?_;grind [unl,List.filter_eq_self,SI];simp_all;grind [SI];grind [SI];intro i o d hi _ A B C;have:=y i o d gq B C;grind;intro i o V N id hi _ A hv hid;have:=Xv l i o V N id gq gq hid;grind
end
open Go.RowKit Go.MapKept
def KN {κ ν:Type}[BEq κ](z:ν):List (κ×ν)->κ->ν|[],_=>z|(a,v)::r,k=>bif k==a then v else KN z r k
def Wx {κ ν:Type}[BEq κ]:List (κ×ν)->κ->ν->List (κ×ν)|[],k,v=>[(k,v)]|(a,x)::r,k,v=>bif k==a then(k,v)::r else(a,x)::Wx r k v
structure KeyLaw {κ:Type}[BEq κ](d:TypeDesc)(f:κ->Value):Prop where now:∀a b,Instr.sameNow d (f a) (f b)=some (a==b)key:∀a,IsKey d (f a)bits:∀a b,(a==b)=true->Instr.sameBits 10000 (f b) (f a)=true
def cx6 (ik:IntKind):KeyLaw (.int ik) λn:Int=>.int ik n:=⟨λa b=>by simp[Instr.sameNow],λa=>by rfl,λa b h=>by grind [Instr.sameBits]⟩
section
variable {κ ν:Type}[BEq κ]{d:TypeDesc}{f:κ->Value}{g:ν->Value}
def FT:List (κ×ν)->κ->Option (Nat×ν)|[],_=>none|(a,v)::r,k=>bif k==a then some (0,v)else(FT r k).map λp=>(p.1+1,p.2)
theorem ao3 (z:ν)(k:κ):∀m:List<|κ×ν,KN z m k=match FT m k with|some p=>p.2|none=>z
 |[]=>rfl|(a,v)::r=>by simp[KN,FT];cases k==a;rw[ao3 z k r];cases FT r k<;>rfl;rfl
theorem ao5 (k:κ)(v:ν):∀m:List<|κ×ν,Wx m k v=match FT m k with|some p=>m.set p.1 (k,v)|none=>m++[(k,v)]
 |[]=>rfl|(a,x)::r=>by simp[Wx,FT];cases k==a;rw[ao5 k v r];cases FT r k<;>rfl;rfl
theorem ao2 {k:κ}:∀{m:List<|κ×ν}{p:Nat×ν},FT m k=some p->∃a,m[p.1]?=some (a,p.2)/\(k==a)=true|[],p,h=>by simp[FT]at h|(a,v)::r,p,h=>by simp[FT]at h;cases hk:k==a;rw[hk]at h;simp only[cT8,dd4]at h;obtain⟨q,b,rfl⟩:=h;simp_all[ao2];grind
abbrev ent (f:κ->Value)(g:ν->Value)(p:κ×ν):Value×Value:=(f p.1,g p.2)
theorem Qu (K:KeyLaw d f)(k:κ):∀(m:List<|κ×ν)(l:List MapEntry)(i:Nat),l.map (λe=>(e.key,e.val))=m.map (ent f g)->Instr.findNow d (f k) l i=some ((FT m k).map λp=>(i+p.1,g p.2))
 |[],l,i,h=>by
  have:l=[]:=by simpa using h
  subst this;rfl|(a,v)::m,[],i,h=>by simp at h|(a,v)::m,e::l,i,h=>by simp[ew,List.cons.injEq,cz4]at h;obtain⟨⟨h1,b⟩,c⟩:=h;simp[Instr.findNow,h1,K.now,FT];cases hk:k==a;rw[Qu K k m l (i+1) c];cases FT m k<;>simp[cD6,Nat.add_comm 1];simp[b]
end
section
variable {κ ν:Type}[BEq κ]{d:TypeDesc}{f:κ->Value}{g:ν->Value}{P:Program}{w:World}{t kt et b clock:Nat}{es:Array MapEntry}{m:List<|κ×ν}
theorem bd0 (K:KeyLaw d f)(ht:P.underlying t=some (.map kt et))(hk:P.underlying kt=some d){z:ν}{ti:TypeInfo}(hz:P.info? et=some ti)(a:ti.zero=some (g z))(c:w.heap[b]?=some (.map es clock))(h:es.toList.map (λe=>(e.key,e.val))=m.map (ent f g))(k:κ):(Instr.lookup t (.map<|some b) (f k) false).run P w=.ok (g<|KN z m k) w:=by have h1:=Qu K k m es.toList 0 h;simp only[Instr.lookup,cV1,run_underlying ht,OF,MapKept.run_getObj_map c,cW0,run_checkKey hk<|K.key k,run_findKey hk h1];rw[ao3];cases FT m k with|none=>simp_all[zeroValue,typeInfo]|some p=>rfl
def bi2 (K:KeyLaw d f)(ht:P.underlying t=some (.map kt et))(hk:P.underlying kt=some d)(n:w.heap[b]?=some (.map es clock))(o:es.toList.map (λe=>(e.key,e.val))=m.map (ent f g))(k:κ)(v:ν):∃i c,(Instr.mapUpdate t (.map<|some b) (f k)<|g v).run P w=.ok () {w with heap:=w.heap.setIfInBounds b<|.map i c}/\i.toList.map (λe=>(e.key,e.val))=(Wx m k v).map (ent f g):=by have h1:=Qu K k m es.toList 0 o;rw[ao5];cases q:FT m k with|none=>rw[q]at h1;refine⟨es.push {key:=f k,val:=g v,born:=clock},clock+1,?_,?_⟩;simp only[Instr.mapUpdate,cV1,run_underlying ht,OF,MapKept.run_getObj_map n,run_checkKey hk<|K.key k,run_findKey hk h1];simp[run_setObj_map _ n];simp[o]|some p=>
  rw[q]at h1;obtain⟨a,y,x⟩:=ao2 q;have s:(es.toList.map λe=>(e.key,e.val))[p.1]?=some (f a,g p.2):=by grind
  rw[bg5,dd4]at s;obtain⟨e,z,u⟩:=s;simp only[cz4]at u;have r:es[p.1]?=some e:=by grind
  have h:Instr.sameBits 10000 e.key (f k)=true:=by rw[u.1];exact K.bits k a x
  refine⟨es.modify p.1 λe=>{e with key:=f k,val:=g v},clock,?_,?_⟩;simp[Instr.mapUpdate,cV1,run_underlying ht,OF,MapKept.run_getObj_map n,run_checkKey hk<|K.key k,run_findKey hk h1];simp only[cW3,cX4,r,cx4,Instr.keyThatStays,h,if_true,OF];simp[run_setObj_map _ n];apply List.ext_getElem?;intro j;have A:=congrArg (λl=>l[j]?) o;grind
end
section
variable {w0:World}{L:GL}{nt:Nat}{σ:St}{S:Nat->Prop}{E:Nat->Value}{a:Act}{w:World}
def Ok.cJ1 (h:Ok w0 L nt σ S E a w){id β c c':Nat}{es m:List<|Value×Value}{l l':Array MapEntry}(r:look σ.hp id=some (.mp es))(C:E id=.map (some β))(K:w.heap[β]?=some (.map l c))(M:l'.toList.map (λe=>(e.key,e.val))=m):Ok w0 L nt ⟨σ.tm,aT σ.hp id<|.mp m⟩ S E a {w with heap:=w.heap.setIfInBounds β<|.map l' c'}:=by
 have D:H9 (E id)=some β:=by rw[C];rfl
 have s:=h.own id _ β r D;have g:=heap_set (o':=.map l' c') K;have n:∀k,k≠β->{w with heap:=w.heap.setIfInBounds β<|.map l' c'}.heap[k]?=w.heap[k]?:=λk hk=>g.2 k hk;have I:∀b,S b->{w with heap:=w.heap.setIfInBounds β<|.map l' c'}.heap[b]?=w.heap[b]?:=λk hk=>n k λe=>s.1<|e▸hk;refine{keep:=?_,lB:=λb r=>by simpa using h.lB b r,base:=h.base,size:=h.size,defers:=h.defers,tm:=λk t ht=>(h.tm k t ht).mono (λ_ x=>x) I λ_ _=>rfl,hp:=?_,own:=?_,cJ:=?_,Rm:=h.Rm};exact h.keep.trans ⟨rfl,rfl,rfl,by simp,λk _ hk=>n k hk,cW6 _⟩ λx hx=>by grind
 intro id' ny d;rw[jH]at d;by_cases o:id=id';subst o;simp[r,cW3,AI]at d;subst d;exact⟨β,c',l',C,g.1,M⟩;simp[o]at d;refine(h.hp id' ny d).mono (λ_ x=>x) I (λu p=>n u λe=>?_) λ_ _=>rfl;subst e;exact o<|h.cJ id id' _ ny _ r d D p;intro id' ny u d p;rw[jH]at d;have:∃b0,look σ.hp id'=some b0:=by grind
 obtain⟨b0,q⟩:=this;simpa using h.own id' b0 u q p;intro i J x N u v d z A;rw[jH]at v d;have f:∀j y,(if id=j then(look σ.hp j).map λ_=>(.mp m)else look σ.hp j)=some y->∃b0,look σ.hp j=some b0:=by grind
 obtain⟨b0,q⟩:=f i x v;obtain⟨b1,B⟩:=f J N d;exact h.cJ i J b0 b1 u q B z A
end
section
variable {ρ κ ν:Type}[BEq κ]{X:Cx}{ks:List K}{tm:J4}{hp:F1}{m:Option ρ}{Q:ρ->Exit->St->Prop}{all:Array Oper}{o:Oper}{rest:List Oper}
def o0.cy7 {t d:Nat}(id:Nat)(s:o.op=.makeMap t none)(k:o.dst=some d)(f:Y3 d X.nt=true)(l:R8 all.toList tm o.guard=some true)(e:Y3 id vJ=true)(g:F6 id tm=true)(i:E8 id hp=true)(h:o0 X all rest ks ⟨(d,.own id)::tm,(id,.mp [])::hp⟩ m Q):o0 X all (o::rest) ks ⟨tm,hp⟩ m Q:=λy n a w ⟨S,E,hk⟩=>by
 obtain⟨E',p,q,j⟩:=hk.alloc (b:=.mp []) e g i rfl λE' _=>⟨w.heap.size,0,#[],rfl,(MapKept.heap_alloc w _).1,rfl⟩;refine wpList_step λK r=>?_;rw[I3 hk l];unfold Oper.wp;have c:(execOp a.eval o).run X.P w=.ok (.value<|.map<|some w.heap.size) (w.alloc<|.map #[] 0):=by grind [execOp,cV1,run_makeMap,OF,cW0]
 rw[c];refine r _ _<|h y n _ _ ⟨S,E',?_⟩;rw[k];exact j.put (cU8 f)<|.own id _ p
def o0.bT0 {t kt et d id:Nat}{x y:Operand}{dk:TypeDesc}{f:κ->Value}{g:ν->Value}{z:ν}{l:List<|κ×ν}{k:κ}(K:KeyLaw dk f)(r:o.op=.lookup t x y false)(s:o.dst=some d)(e:Y3 d X.nt=true)(u:R8 all.toList tm o.guard=some true)(hx:val tm x=some (.own id))(A:look hp id=some (.mp<|l.map<|ent f g))(B:val tm y=some (.t<|.v<|f k))(ht:X.P.underlying t=some (.map kt et))(i:X.P.underlying kt=some dk)(hz:∃ti,X.P.info? et=some ti/\ti.zero=some (g z))(h:o0 X all rest ks ⟨(d,.t<|.v<|g<|KN z l k)::tm,hp⟩ m Q):o0 X all (o::rest) ks ⟨tm,hp⟩ m Q:=by
 have:=o0.one (m₁:=some ()) s e u (λ_=>.t<|.v<|g<|KN z l k) λ_ S E a w _ hk=>by
  obtain⟨ti,j,n⟩:=hz;obtain⟨β,c,es,I,C,D⟩:=hk.hp id _ A;have b:=hk.val hx;refine⟨_,?_,.t<|.v _⟩;have p:a.eval x=.map (some β):=by generalize J:a.eval x=q at b;cases b with|own _ _ h=>grind
  simp[execOp,r,cV1,p,(hk.val B).tv,bd0 K ht i j n C D,OF,cW0] λ_ _=>h;grind
def o0.cb6 {t kt et id:Nat}{x y u:Operand}{dk:TypeDesc}{f:κ->Value}{g:ν->Value}{l:List<|κ×ν}{k:κ}{v:ν}(K:KeyLaw dk f)(s:o.op=.mapUpdate t x y u)(z:o.dst=none)(A:R8 all.toList tm o.guard=some true)(hx:val tm x=some (.own id))(n:look hp id=some (.mp<|l.map<|ent f g))(B:val tm y=some (.t<|.v<|f k))(C:val tm u=some (.t<|.v<|g v))(ht:X.P.underlying t=some (.map kt et))(e:X.P.underlying kt=some dk)(h:o0 X all rest ks ⟨tm,aT hp id<|.mp<|(Wx l k v).map<|ent f g⟩ m Q):o0 X all (o::rest) ks ⟨tm,hp⟩ m Q:=λr D a w ⟨S,E,hk⟩=>by
 obtain⟨β,c,es,I,p,J⟩:=hk.hp id _ n;have d:=hk.val hx;have i:a.eval x=.map (some β):=by generalize O:a.eval x=q at d;cases d with|own _ _ h=>grind
 obtain⟨j,L,h1,M⟩:=bi2 K ht e p J k v;refine wpList_step λK N=>?_;rw[I3 hk A];unfold Oper.wp;have b:(execOp a.eval o).run X.P w=.ok .skip {w with heap:=w.heap.setIfInBounds β<|.map j L}:=by unfold execOp;simp[s,cV1,i,(hk.val B).tv,(hk.val C).tv,h1,OF,cW0]
 rw[b];refine N _ _<|h r D _ _ ⟨S,E,?_⟩;rw[z];exact hk.cJ1 n I p M
end
inductive Cg (ρ:Type)where|S (ks:List K)(σ:St)|O (all:Array Oper)(kb:List Nat)(ops:List Oper)(ks:List K)(σ:St)|D (id:Nat)(all:Array Oper)(h:Nat)(bs:List<|List Nat)(ws:List<|Nat×Nat)(ops:List Oper)(vs:List<|T×Option (Nat×ck))(tm0:J4)(hp0:F1)(fz kb:List Nat)(ks:List K)|X (id:Nat)(σ:St)|R (r:ρ)
def tlH:List (List Nat)->Nat->Nat|[],j=>j|b::r,j=>match tlH r<|j+1with|h=>bif cV4 h (j+1)&&Ma j b then j else h
def aO7 (fz:List Nat):Nat->List Oper->List (Nat×Nat)|_,[]=>[]|j,o::r=>match rM o.op,o.dst with|true,some d=>bif fL d fz then aO7 fz (j+1) r else(j,d)::aO7 fz (j+1) r|_,_=>aO7 fz (j+1) r
def stD (tab:vH)(all:List Oper)(c:List<|List Nat)(ws:List<|Nat×Nat)(o:Oper)(vs:List<|T×Option (Nat×ck))(tm0:J4)(hp0:F1)(fz kb:List Nat):Option<|T×Option (Nat×ck):=match c[vs.length]?with|none=>none|some b=>match minOf all (vs.map (·.1)) tm0<|uW o,by5 c ws vs hp0 vs.length b with|tm,hp=>match gk all kb tm o.guard with
   |some false=>some (.t<|.v undef,none)|some true=>bif bx2 o.op then match WT tab tm hp o with|some (V,_)=>some (V,none)|none=>none else bif rM o.op then match WT tab tm hp o,o.dst with|some (V,⟨_,(_,N)::_⟩),some d=>bif fL d fz then match N with|.rows _ _ n rs=>some (.t<|.sl n rs,none)|_=>none else some (V,some (d,N))|_,_=>none else match o.op with
     |.store t x y=>match val tm x,look tab t,(val tm y).bind (cq hp)with
      |some<|.ptr id a,some ti,some l=>match look hp id with|some<|.box e=>bif cV4 l.length ti.size&&dc6 (a+l.length) e.length then some (.t<|.v undef,some (id,.box<|qv e a l))else none|_=>none
      |_,_,_=>none
     |_=>none
   |none=>none
def dedup:F1->F1|[]=>[]|(k,b)::r=>(k,b)::HK (dedup r) k
theorem YQ:∀{l:F1}{k:Nat},look (dedup l) k=look l k|[],_=>rfl|(j,b)::r,k=>by unfold dedup;by_cases a:j=k;all_goals simp_all[look,zq,Ne.symm,YQ]
def av {ρ:Type}(tab:vH)(nt:Nat)(a ed:Bool):Nat->Cg ρ->Cg ρ|0,c=>c|n+1,c=>match c with
  |.S (.c x::ks) σ=>match x with
   |.seq x y=>av tab nt a ed n<|.S (.c x::.c y::ks) σ|.skip=>av tab nt a ed n<|.S ks σ|.label _=>av tab nt a ed n<|.S ks σ|.scope x=>av tab nt a ed n<|.S (.c x::ks) σ|.block id x=>bif a then av tab nt a ed n (.S (.c x::.e id::ks) σ)else .S (.c (.block id x)::ks) σ|.region id ops d=>match d with|false=>av tab nt a ed n<|.O ops [] ops.toList ks σ|true=>bif ed then av tab nt a ed n (.D id ops (tlH (Cm ops.toList []) 0) (Cm ops.toList []) (aO7 [] 0<|ops.toList.take<|tlH (Cm ops.toList []) 0) ops.toList [] (vA (tV<|ops.toList.take<|tlH (Cm ops.toList []) 0) σ.tm) σ.hp [] [] ks)else .S (.c (.region id ops true)::ks) σ
   |.exit id=>match FY id ks with|some ks'=>av tab nt a ed n<|.S ks' σ|none=>.X id σ
   |x=>.S (.c x::ks) σ
  |.S (.e _::ks) σ=>av tab nt a ed n<|.S ks σ|.O all kb [] ks σ=>av tab nt a ed n<|.S ks σ|.O all kb (o::r) ks ⟨tm,hp⟩=>match stO tab nt all.toList kb o r tm hp with|some (f,σ')=>av tab nt a ed n<|.O all kb f ks σ'|none=>.O all kb (o::r) ks ⟨tm,hp⟩
  |.D id all h b ws ops vs tm0 hp0 fz kb ks=>bif cV4 vs.length h then bif ch9 nt all.toList h ws tm0 hp0 vs then av tab nt a ed n<|.O all kb ops ks ⟨Qw all.toList (vs.map (·.1)) tm0,dedup<|bQ5 vs hp0⟩else .D id all h b ws ops vs tm0 hp0 fz kb ks else match ops with|[]=>.D id all h b ws [] vs tm0 hp0 fz kb ks|o::r=>match stD tab all.toList b ws o vs tm0 hp0 fz kb with|some x=>av tab nt a ed n<|.D id all h b ws r (vs++[x]) tm0 hp0 fz kb ks|none=>.D id all h b ws (o::r) vs tm0 hp0 fz kb ks
  |c=>c
def fuel:Nat:=100000
def here {ρ:Type}:Cg ρ->Option (Array Oper×List Nat×Oper×J4×F1×List Nat×(T->Option (Nat×ck)->Cg ρ))
 |.O all kb (q::r) ks ⟨tm,hp⟩=>some (all,kb,q,tm,hp,[],λV N=>.O all kb r ks ⟨pt q V tm,Bh N hp⟩)|.D id all h a ws (q::r) vs tm0 hp0 fz kb ks=>match a[vs.length]?with|some b=>some (all,kb,q,minOf all.toList (vs.map (·.1)) tm0<|uW q,by5 a ws vs hp0 vs.length b,fz,λV N=>.D id all h a ws r (vs++[(V,N)]) tm0 hp0 fz kb ks)|none=>none
 |_=>none
def cC4 (q:Oper)(vs:List<|T×Option (Nat×ck)):Option<|Nat×Bool:=match q.guard with
 |some (j,_)=>match vs[j]?with|some (.t<|.v<|.bool b,none)=>some (j,b)|_=>none
 |none=>none
def bg7 (x:T):Nat->List (T×Option (Nat×ck))->List (T×Option (Nat×ck))|_,[]=>[]|0,(_,N)::r=>(x,N)::r|j+1,p::r=>p::bg7 x j r
def kbD (all:Array Oper)(j:Nat)(kb:List Nat):List Nat:=match all[j]?with|some o=>(match o.dst with|some d=>d::kb|none=>kb)|none=>kb
def cC3 (all:List Oper)(tm:J4)(q:Oper):Option<|Nat×Bool:=match q.guard with
 |some (j,_)=>match all[j]?with
  |some o=>match o.dst with
   |some d=>match look tm d with|some<|.t<|.v<|.bool b=>some (d,b)|_=>none
   |none=>none
  |none=>none
 |none=>none
inductive Ch where|t (k:Nat)(x:T)|x (k:Nat)|c (id j:Nat)(l:List T)|b (id:Nat)(b:ck)|d (id:Nat)
def chK:List Ch->List Nat|[]=>[]|.t k _::r=>k::chK r|.x k::r=>k::chK r|_::r=>chK r
def upT:List Ch->J4->J4|[],tm=>tm|.t k x::r,tm=>(k,x)::upT r tm|_::r,tm=>upT r tm
def upH:List Ch->F1->F1
 |[],hp=>hp|.c id j l::r,hp=>match upH r hp with|hp=>match look hp id with|some<|.box a=>(id,.box<|qv a j l)::HK hp id|_=>hp
 |.b id b::r,hp=>(id,b)::HK (upH r hp) id|.d id::r,hp=>HK (upH r hp) id|_::r,hp=>upH r hp
def Ri (l:List Ch)(σ:St):St:=⟨upT l<|vA (chK l) σ.tm,upH l σ.hp⟩
inductive Sh (ρ:Type)where|nx (l:List Ch)|ex (id:Nat)(l:List Ch)|rt (r:ρ)
inductive Out (ρ:Type)where|nx (σ:St)|ex (id:Nat)(σ:St)|rt (r:ρ)|top (r:ρ)|no
def Out.den {ρ:Type}(Qf:ρ->St->Prop):Out ρ->Exit->St->Prop|.nx σ,e,σ'=>e=.normal/\Sub σ σ'|.ex id σ,e,σ'=>e=.exit id/\Sub σ σ'|.rt r,e,σ'=>e=.ret/\Qf r σ'|.top r,e,σ'=>(e=.ret\/e=.normal)/\Qf r σ'|.no,_,_=>False
inductive Kd (ρ:Type):Type->Type 1 where|e:Kd ρ Empty|one {γ:Type}(o:γ->Sh ρ):Kd ρ γ|two {γ δ:Type}(o:γ->Sh ρ)(o':δ->Sh ρ):Kd ρ<|γ⊕δ|tri {γ δ ε:Type}(o:γ->Sh ρ)(o':δ->Sh ρ)(o'':ε->Sh ρ):Kd ρ<|γ⊕δ⊕ε
def Kd.sh {ρ:Type}:{γ:Type}->Kd ρ γ->γ->Sh ρ|_,.e,w=>w.elim|_,.one o,w=>o w|_,.two o _,.inl w=>o w|_,.two _ o,.inr w=>o w|_,.tri o _ _,.inl w=>o w|_,.tri _ o _,.inr<|.inl w=>o w|_,.tri _ _ o,.inr<|.inr w=>o w
def Kd.all {ρ:Type}:{γ:Type}->Kd ρ γ->(γ->Sh ρ->Tr)->Tr|_,.e,_=>.ok|_,.one o,a=>.all λw=>a w<|o w|_,.two o o',a=>.and (.all λw=>a (.inl w)<|o w)<|.all λw=>a (.inr w)<|o' w|_,.tri o o' b,a=>.and (.all λw=>a (.inl w)<|o w)<|.and (.all λw=>a (.inr<|.inl w)<|o' w)<|.all λw=>a (.inr<|.inr w)<|b w
def Kd.aX3 {ρ:Type}:∀{γ:Type}{k:Kd ρ γ}{a:γ->Sh ρ->Tr},(k.all a).den->∀w,(a w<|k.sh w).den|_,.e,_,_,w=>w.elim|_,.one o,_,h,w=>h w|_,.two o o',_,h,.inl w=>h.1 w|_,.two o o',_,h,.inr w=>h.2 w|_,.tri o o' b,_,h,.inl w=>h.1 w|_,.tri o o' b,_,h,.inr<|.inl w=>h.2.1 w|_,.tri o o' b,_,h,.inr<|.inr w=>h.2.2 w
def noE:List K->Bool|[]=>true|.c _::r=>noE r|.e _::_=>false
def cl7 {ρ:Type}:Out ρ->Out ρ|.nx _=>.no|.top _=>.no|o=>o
def ao8 {ρ:Type}(σ:St):Sh ρ->Out ρ|.nx l=>.nx<|Ri l σ|.ex id l=>.ex id<|Ri l σ|.rt r=>.rt r
def bU3 {ρ:Type}(σ:St):Sh ρ->Out ρ|.nx _=>.no|.ex id l=>.ex id<|Ri l σ|.rt r=>.rt r
def cont {ρ:Type}(ks:List K)(σ:St):Sh ρ->Cg ρ
 |.nx l=>.S ks<|Ri l σ|.ex id l=>match FY id ks with|some ks'=>.S ks'<|Ri l σ|none=>.X id<|Ri l σ
 |.rt r=>.R r
def V5:Code->List Nat|.region _ ops _=>tV ops.toList|.seq x y=>V5 x++V5 y|.cond _ x y=>V5 x++V5 y|.block _ x=>V5 x|.loop x=>V5 x|.scope x=>V5 x|_=>[]
def fgT (id:Nat):J4->J4|[]=>[]|(k,x)::r=>bif names id x then fgT id r else(k,x)::fgT id r
def fgL (id:Nat):List T->List T|[]=>[]|x::r=>(bif names id x then .any else x)::fgL id r
def fgB (id:Nat):ck->ck|.box a=>.box<|fgL id a|b=>b
def fgH (id:Nat):F1->F1|[]=>[]|(k,b)::r=>bif cV4 k id then fgH id r else(k,fgB id b)::fgH id r
def uniq:F1->Bool|[]=>true|(k,_)::r=>(look r k).isNone&&uniq r
inductive Z1 where|fr (id:Nat)|fb (id:Nat)|np (k id e sz:Nat)(path:List Nat)|nb (b id e sz:Nat)(path:List Nat)|rn (h:List<|Nat×Nat)|dr (id:Nat)|ke (ks:List Nat)
def kp (ks:List Nat):J4->J4|[]=>[]|(k,t)::r=>bif fL k ks then(k,t)::kp ks r else kp ks r
def idn (h:List<|Nat×Nat):F1->List (Nat×Nat)|[]=>[]|(i,_)::r=>match look h i with|some _=>idn h r|none=>(i,i)::idn h r
def rdT (h:List<|Nat×Nat):J4->J4|[]=>[]|(k,x)::r=>match oN h x with|some _=>(k,x)::rdT h r|none=>rdT h r
def Z1.fu:Z1->Nat|.ke _=>0|_=>fuel
def Z1.ap (tm:J4)(hp:F1):Z1->Option St
 |.fr id=>match look hp id with|some<|.rows _ _ n rs=>some ⟨SY id (.t<|.sl n rs) tm,Da id (.t<|.sl n rs) hp⟩|_=>none
 |.fb id=>match look hp id with
  |some<|.box a=>match trees a with|some c=>some ⟨bv8 id c tm,TY id c hp⟩|none=>none
  |_=>none
 |.np k id e sz path=>match look tm k with
  |some t=>match KZ id path t with|some u=>bif Y3 id vJ&&(F6 id tm&&E8 id hp)then some ⟨(k,u)::tm,(id,.rows e sz 0 [])::hp⟩else none|none=>none
  |none=>none
 |.nb b id e sz path=>match look hp b with
  |some<|.box a=>match KZ id path (.agg a)with|some<|.agg d=>bif Y3 id vJ&&(F6 id tm&&E8 id hp)then some ⟨tm,(id,.rows e sz 0 [])::aT hp b (.box d)⟩else none|_=>none
  |_=>none
 |.rn h=>match h++idn h hp with|h'=>bif uniq hp&&VH h' then match ZH h'<|rdT h'<|vA [] tm,sE h' hp with|some tm',some L9=>some ⟨tm',L9⟩|_,_=>none else none
 |.dr id=>bif uniq hp then some ⟨fgT id<|vA [] tm,fgH id hp⟩else none|.ke ks=>bif uniq hp then some ⟨vA []<|kp ks tm,hp⟩else none
inductive U1:Type->Type 1 where|ap {α:Type}(enc:α->List Tree)(l r:List α)(id:Nat):U1<|List α|an {α:Type}(enc:α->List Tree)(n:Int)(z:α)(id:Nat):U1<|List α|st {α:Type}(enc:α->List Tree)(l:List α)(i:Int)(y:α)(n:Nat):U1<|List α|sF {α:Type}(enc:α->List Tree)(l:List α)(a b:Int):U1<|List α|sO {α:Type}(enc:α->List Tree)(l:List α)(b:Int)(id:Nat):U1<|List α|cp {α:Type}(enc:α->List Tree)(l r:List α):U1<|List α
def U1.m:{τ:Type}->U1 τ->Option τ|_,.ap _ l r _=>G2 l r|_,.an _ n z _=>ac6 n z|_,.st _ l i y _=>fQ l i y|_,.sF _ l a b=>U4 l a b|_,.sO _ l b _=>U4 l 0 b|_,.cp _ l r=>some<|lN l r
def U1.k:{τ:Type}->U1 τ->τ->List GF->List GF|_,.st enc _ i y _,l,Γ=>⟨enc,l,i,y⟩::Γ|_,_,_,Γ=>Γ
def aq7 {α:Type}(enc:α->List Tree)(r:List α)(sz:Nat)(hp:F1):Option T->Tr
 |some<|.t<|.sl _ rs=>tq rs<|r.map enc|some<|.own a=>match look hp a with|some<|.rows _ s2 _ rs=>bif cV4 s2 sz then tq rs (r.map enc)else .bad|_=>.bad
 |_=>.bad
def U1.q (tab:vH)(nt:Nat)(Γ:List GF)(tm:J4)(hp:F1)(o:Oper):{τ:Type}->U1 τ->Option (Tr×(τ->St))
 |_,.ap enc l r id=>match o.op,o.dst with
  |.call ⟨.builtin .append,args,g⟩,some d=>match args.toList,g.toList with
   |[s,x],[t,w]=>match look tab t with
    |some ⟨_,.slice e,_⟩=>match look tab e with|some c=>bif cV4 t w&&Y3 d nt&&cV4 c.zero.length c.size&&Y3 id vJ&&F6 id (fgT id<|vA [] tm)&&E8 id (fgH id hp)&&uniq hp then some (.and (tq (α:=_->Nat) (λy=>(enc y).length) λ_=>c.size)<|.and (tq (α:=_->Bool) (λy=>(enc y).all oK) λ_=>true)<|.and (aq7 enc r c.size hp<|val tm x)<|match val tm s with
        |some<|.own i=>match look hp i with|some<|.rows e' sz _ rs=>bif cV4 i id&&cV4 e' e&&cV4 sz c.size then tq rs (l.map enc)else .bad|_=>.bad
        |some<|.t<|.v<|.slice none 0 0=>tq l []|_=>.bad,λy=>⟨(d,.own id)::fgT id (vA [] tm),(id,.rows e c.size y.length<|y.map enc)::fgH id hp⟩)else none|none=>none
    |_=>none
   |_,_=>none
  |_,_=>none
 |_,.an enc n z id=>match o.op,o.dst with
  |.call ⟨.builtin .append,args,g⟩,some d=>match args.toList,g.toList with
   |[s,x],[t,u]=>match look tab t,look tab u,val tm s,val tm x with
    |some ⟨_,.slice e,_⟩,some ⟨_,.int _,_⟩,some<|.t<|.v<|.slice none 0 0,some<|.t<|.v<|.int _ m=>match look tab e with|some c=>bif Y3 d nt&&cV4 c.zero.length c.size&&Y3 0 c.size&&Y3 id vJ&&F6 id tm&&E8 id hp then some (.and (tq m n)<|tq (enc z)<|c.zero.map λv=>jm<|.v v,λy=>⟨(d,.own id)::tm,(id,.rows e c.size y.length<|y.map enc)::hp⟩)else none|none=>none
    |_,_,_,_=>none
   |_,_=>none
  |_,_=>none
 |_,.st enc l i y n=>match o.op,o.dst,Γ[n]?with
  |.store t p x,none,some f=>match val tm p,look tab t,(val tm x).bind (cq hp)with
   |some<|.pe id A sz h,some ti,some cs=>match look hp id,trees cs with|some<|.rows e j m rs,some lt=>bif cV4 sz j&&cV4 lt.length ti.size&&dc6 (h+lt.length) sz then some (.and (.eq (.gf ⟨f.enc,f.l,f.i⟩)<|.gf ⟨enc,l,i⟩)<|.and (tq (A,rs) (i.toNat,l.map enc))<|.eq (.mk<|enc y)<|.mk<|Jk (f.enc f.y) h lt,λl'=>⟨tm,aT hp id<|.rows e sz l'.length<|l'.map enc⟩)else none|_,_=>none
   |_,_,_=>none
  |_,_,_=>none
 |_,.sF enc l a b=>match o.op,o.dst with
  |.slice t x lo hi none,some d=>match look tab t,val tm x,UD tm 0 lo,UD tm l.length hi with
   |some ⟨_,.slice e,_⟩,some<|.t<|.sl _ rs,some B,some k=>match look tab e with|some c=>bif Y3 d nt then some (.and (tq rs<|l.map enc)<|.and (tq (B,k) (a,b))<|tq (α:=_->Nat) (λy=>(enc y).length) λ_=>c.size,λy=>⟨(d,.t<|.sl y.length<|y.map enc)::tm,hp⟩)else none|none=>none
   |_,_,_,_=>none
  |_,_=>none
 |_,.sO enc l b id=>match o.op,o.dst with
  |.slice t x none hi none,some d=>match look tab t,val tm x,UD tm l.length hi with
   |some ⟨_,.slice e',_⟩,some<|.own i,some k=>match look tab e',look hp i with|some c,some<|.rows e sz _ rs=>bif Y3 d nt&&cV4 c.size sz&&Y3 id vJ&&F6 id (fgT i<|vA [] tm)&&E8 id (fgH i hp)&&E8 i (fgH i hp)&&uniq hp then some (.and (tq rs<|l.map enc)<|tq k b,λy=>⟨(d,.own id)::fgT i (vA [] tm),(id,.rows e sz y.length<|y.map enc)::fgH i hp⟩)else none|_,_=>none
   |_,_,_=>none
  |_,_=>none
 |_,.cp enc l r=>match o.op with
  |.call ⟨.builtin .copy,args,g⟩=>match args.toList,g.toList with
   |[s,x],[t,_]=>match look tab t,val tm s,Gb nt o.dst (.t<|.v<|.int .i64 (min r.length l.length:Nat)) ⟨tm,[]⟩with
    |some ⟨_,.slice e',_⟩,some<|.own id,some ⟨tm',_⟩=>match look tab e',look hp id with|some c,some<|.rows e sz _ rs=>bif cV4 sz c.size then some (.and (tq (α:=_->Nat) (λy=>(enc y).length) λ_=>c.size)<|.and (tq (α:=_->Bool) (λy=>(enc y).all oK) λ_=>true)<|.and (aq7 enc r c.size hp<|val tm x)<|tq rs<|l.map enc,λy=>⟨tm',aT hp id<|.rows e c.size y.length<|y.map enc⟩)else none|_,_=>none
    |_,_,_=>none
   |_,_=>none
  |_=>none
def U1.qA (tab:vH)(nt:Nat)(tm:J4)(hp:F1)(o:Oper){α:Type}(enc:α->List Tree)(l r:List α)(id:Nat):Option<|Tr×(List α->T×Option (Nat×ck)):=match o.op,o.dst with
 |.call ⟨.builtin .append,args,b⟩,some d=>match args.toList,b.toList with
  |[s,x],[t,c]=>match look tab t with
   |some ⟨_,.slice e,_⟩=>match look tab e with
    |some a=>match val tm s,look hp id with|some<|.t<|.v v,some<|.rv v' e' sz n rs=>bif cV4 t c&&Y3 d nt&&cV4 a.zero.length a.size&&Y3 id vJ&&cV4 e' e&&cV4 sz a.size then some (.and (tq v v')<|.and (tq rs<|l.map enc)<|.and (tq (α:=_->Nat) (λy=>(enc y).length) λ_=>a.size)<|.and (tq (α:=_->Bool) (λy=>(enc y).all oK) λ_=>true)<|aq7 enc r a.size hp<|val tm x,λy=>(.own id,some (id,.rows e a.size y.length<|y.map enc)))else none|_,_=>none
    |none=>none
   |_=>none
  |_,_=>none
 |_,_=>none
def U1.qD (tab:vH)(nt:Nat)(Γ:List GF)(tm:J4)(hp:F1)(o:Oper):{τ:Type}->U1 τ->Option (Tr×(τ->T×Option (Nat×ck)))
 |_,.st enc l i y n=>match(U1.st enc l i y n).q tab nt Γ tm hp o with
  |some (t,_)=>match o.op,o.dst with
   |.store _ p _,none=>match val tm p with
    |some<|.pe id _ sz _=>match look hp id with|some<|.rows e _ _ _=>some (t,λl'=>(.t<|.v undef,some (id,.rows e sz l'.length<|l'.map enc)))|_=>none
    |_=>none
   |_,_=>none
  |none=>none
 |_,.ap enc l r id=>U1.qA tab nt tm hp o enc l r id|_,_=>none
def mtT:T->T->List (Nat×Nat)|.own i,.own j=>[(i,j)]|.ptr i _,.ptr j _=>[(i,j)]|.pe i _ _ _,.pe j _ _ _=>[(i,j)]|.agg l,.agg l'=>mtL l l'|.Z9 l,.Z9 l'=>mtL l l'|.Fu _ l,.Fu _ l'=>mtL l l'|_,_=>[]where mtL:List T->List T->List (Nat×Nat)|x::l,y::l'=>mtT x y++mtL l l'|_,_=>[]
def cH3 (i:Nat):List (Nat×Nat)->Bool|[]=>false|p::r=>bif cV4 p.1 i then true else cH3 i r
def dd1:List (Nat×Nat)->List (Nat×Nat)->List (Nat×Nat)|[],l=>l|p::r,l=>bif cH3 p.1 l then dd1 r l else dd1 r<|l++[p]
def mtH (h a:F1):List (Nat×Nat)->List (Nat×Nat)|[]=>[]|(i,j)::r=>(match look h i,look a j with|some<|.box b,some<|.box c=>mtT.mtL b c|_,_=>[])++mtH h a r
def bn5 (a:List T)(b:F1)(targs:List T)(hp:F1):List<|Nat×Nat:=match dd1 (mtT.mtL a targs) []with|l=>match dd1 (mtH b hp l) l with|l=>dd1 (mtH b hp l) l
structure Mq (P:Program)(κ ν:Type)where
 beq:BEq κ
 t:Nat
 kt:Nat
 et:Nat
 dk:TypeDesc
 f:κ->Value
 g:ν->Value
 z:ν
 law:@KeyLaw κ beq dk f
 ht:P.underlying t=some (.map kt et)hk:P.underlying kt=some dk
 hz:∃ti,P.info? et=some ti/\ti.zero=some (g z)
inductive M (P:Program)(ρ:Type):Type->Type 1 where|R {τ:Type}(v:τ):M P ρ τ|N {τ:Type}:M P ρ τ|I {τ:Type}(b:Bool)(x y:M P ρ τ):M P ρ τ|K {β τ:Type}(c:C P β)(f:β->M P ρ τ):M P ρ τ|KG {β τ:Type}(c:CG P β)(nm:List Nat)(f:β->M P ρ τ):M P ρ τ|O {β τ:Type}(l:L1 β)(f:β->M P ρ τ):M P ρ τ|W {τ:Type}(u:W1)(x:M P ρ τ):M P ρ τ|U {β τ:Type}(u:U1 β)(f:β->M P ρ τ):M P ρ τ|Mk {α τ:Type}(enc:α->List Tree)(n:Int)(z:α)(f:List α->M P ρ τ):M P ρ τ|Z (z:Z1){τ:Type}(x:M P ρ τ):M P ρ τ|G {τ:Type}(b:Bool)(x y:M P ρ Bool)(f:Bool->M P ρ τ):M P ρ τ|J0 {β τ:Type}(n:Nat)(o:β->List Ch)(x:M P ρ β)(f:β->M P ρ τ):M P ρ τ|J {β γ τ:Type}(n:Nat)(o:β->List Ch)(k:Kd ρ γ)(x:M P ρ<|β⊕γ)(f:β->M P ρ τ)(g:γ->M P ρ τ):M P ρ τ|JF {S γ:Type}(n:Nat)(o:S->List Ch)(x:M P ρ<|Fl S γ)(i:Int):M P ρ<|Int×S⊕S⊕γ|L {S γ τ:Type}(hd:S->List Ch)(N:Nat)(k:Kd ρ γ)(x:S->M P ρ (S⊕S⊕γ))(s:S)(f:S->M P ρ τ)(g:γ->M P ρ τ):M P ρ τ|LQ {S γ τ:Type}(ri:Nat)(hd:S->List Ch)(N:Nat)(k:Kd ρ γ)(x:Int×S->M P ρ (Int×S⊕S⊕γ))(s:S)(f:S->M P ρ τ)(g:γ->M P ρ τ):M P ρ τ|A {α τ:Type}(enc:α->List Tree)(l:List α)(i:Int)(f:α->M P ρ τ):M P ρ τ|B {τ:Type}(x:M P ρ τ):M P ρ τ|D {τ:Type}(fz:List Nat)(ws:List<|Nat×Nat)(x:M P ρ τ):M P ρ τ|Sp {τ:Type}(b:Bool)(x y:M P ρ τ):M P ρ τ|Mm {τ:Type}(id:Nat)(x:M P ρ τ):M P ρ τ|Ml {κ ν τ:Type}(m:Mq P κ ν)(l:List<|κ×ν)(k:κ)(x:M P ρ τ):M P ρ τ|Mu {κ ν τ:Type}(m:Mq P κ ν)(l:List<|κ×ν)(k:κ)(v:ν)(x:M P ρ τ):M P ρ τ|Pn {τ:Type}(id:Nat)(x:M P ρ τ):M P ρ τ|Nl {α τ:Type}(enc:α->List Tree)(l:List α)(x:M P ρ τ)(y:List α->M P ρ τ):M P ρ τ
def M.run {P:Program}{ρ:Type}:{τ:Type}->M P ρ τ->Option τ
 |_,.R v=>some v|_,.N=>none|_,.I b x y=>bif b then x.run else y.run|_,.K c f=>c.m.bind λt=>(f t).run|_,.KG c _ f=>c.m.bind λt=>(f t).run|_,.O l f=>l.m.bind λt=>(f t).run|_,.W _ x=>x.run|_,.U u f=>u.m.bind λt=>(f t).run|_,.Mk _ n z f=>(CT n z).bind λt=>(f t).run|_,.Z _ x=>x.run|_,.G b x y f=>(bif b then x.run else y.run).bind λt=>(f t).run|_,.J0 _ _ x f=>x.run.bind λt=>(f t).run|_,.J _ _ _ x f g=>x.run.bind λt=>match t with|.inl t=>(f t).run|.inr t=>(g t).run
 |_,.JF _ _ x i=>x.run.bind<|iH i|_,.L _ _ _ x s f g=>(o3 (λs=>(x s).run) s).bind λt=>match t with|.inl t=>(f t).run|.inr t=>(g t).run
 |_,.LQ _ _ _ _ x s f g=>(o3 (λs=>(x s).run) (0,s)).bind λt=>match t with|.inl t=>(f t).run|.inr t=>(g t).run
 |_,.A _ l i f=>(y3 l i).bind λt=>(f t).run|_,.B x=>x.run|_,.D _ _ x=>x.run|_,.Sp b x y=>bif b then x.run else y.run|_,.Nl _ l _ y=>(y l).run|_,.Mm _ x=>x.run|_,.Pn _ x=>x.run|_,.Ml _ _ _ x=>x.run|_,.Mu _ _ _ _ x=>x.run
def M.rn {P:Program}{ρ:Type}(k:Nat):{τ:Type}->M P ρ τ->Option τ
 |_,.R v=>some v|_,.N=>none|_,.I b x y=>bif b then x.rn k else y.rn k|_,.K c f=>(c.e k).bind λt=>(f t).rn k|_,.KG c _ f=>(c.e k).bind λt=>(f t).rn k|_,.O l f=>l.m.bind λt=>(f t).rn k|_,.W _ x=>x.rn k|_,.U u f=>u.m.bind λt=>(f t).rn k|_,.Mk _ n z f=>(CT n z).bind λt=>(f t).rn k|_,.Z _ x=>x.rn k|_,.G b x y f=>(bif b then x.rn k else y.rn k).bind λt=>(f t).rn k|_,.J0 _ _ x f=>(x.rn k).bind λt=>(f t).rn k|_,.J _ _ _ x f g=>(x.rn k).bind λt=>match t with|.inl t=>(f t).rn k|.inr t=>(g t).rn k
 |_,.JF _ _ x i=>(x.rn k).bind<|iH i|_,.L _ _ _ x s f g=>(aN7 (λs=>(x s).rn k) k s).bind λt=>match t with|.inl t=>(f t).rn k|.inr t=>(g t).rn k
 |_,.LQ _ _ _ _ x s f g=>(aN7 (λs=>(x s).rn k) k (0,s)).bind λt=>match t with|.inl t=>(f t).rn k|.inr t=>(g t).rn k
 |_,.A _ l i f=>(y3 l i).bind λt=>(f t).rn k|_,.B x=>x.rn k|_,.D _ _ x=>x.rn k|_,.Sp b x y=>bif b then x.rn k else y.rn k|_,.Nl _ l _ y=>(y l).rn k|_,.Mm _ x=>x.rn k|_,.Pn _ x=>x.rn k|_,.Ml _ _ _ x=>x.rn k|_,.Mu _ _ _ _ x=>x.rn k
def vK {α β:Type}{a b:Option α}{f g:α->Option β}{r:β}(c:∀x,a=some x->b=some x)(d:∀x r,f x=some r->g x=some r)(h:a.bind f=some r):b.bind g=some r:=by cases a with|none=>cases h|some x=>grind
theorem M.le {P:Program}{ρ:Type}(k:Nat):∀{τ:Type}(x:M P ρ τ)(r:τ),x.rn k=some r->x.run=some r
 |_,.R v,r,h=>h|_,.N,r,h=>h|_,.I b x y,r,h=>by cases b;exact M.le k y r h;exact M.le k x r h|_,.K c f,r,h=>vK (λy a=>c.le k y a) (λy r a=>M.le k (f y) r a) h|_,.KG c _ f,r,h=>vK (λy a=>c.le k y a) (λy r a=>M.le k (f y) r a) h|_,.O l f,r,h=>vK (λy a=>a) (λy r a=>M.le k (f y) r a) h|_,.W _ x,r,h=>M.le k x r h|_,.U l f,r,h=>vK (λy a=>a) (λy r a=>M.le k (f y) r a) h|_,.Mk _ _ _ f,r,h=>vK (λy a=>a) (λy r a=>M.le k (f y) r a) h|_,.Z _ x,r,h=>M.le k x r h|_,.G b x y f,r,h=>vK (λz hz=>by cases b;exact M.le k y z hz;exact M.le k x z hz) (λy r a=>M.le k (f y) r a) h|_,.J0 _ _ x f,r,h=>vK (λz hz=>M.le k x z hz) (λy r a=>M.le k (f y) r a) h|_,.J _ _ _ x f g,r,h=>by rw[M.rn]at h;rw[M.run];refine vK (λz hz=>M.le k x z hz) (λy r a=>?_) h;cases y with|inl y=>exact M.le k (f y) r a|inr y=>exact M.le k (g y) r a
 |_,.JF _ _ x i,r,h=>vK (λz hz=>M.le k x z hz) (λy r a=>a) h|_,.L _ _ _ x s f g,r,h=>by rw[M.rn]at h;rw[M.run];refine vK (λz hz=>tN.2<|YT (λs f d=>M.le k (x s) f d) hz) (λy r a=>?_) h;cases y with|inl y=>exact M.le k (f y) r a|inr y=>exact M.le k (g y) r a
 |_,.LQ _ _ _ _ x s f g,r,h=>by rw[M.rn]at h;rw[M.run];refine vK (λz hz=>tN.2<|YT (λs f d=>M.le k (x s) f d) hz) (λy r a=>?_) h;cases y with|inl y=>exact M.le k (f y) r a|inr y=>exact M.le k (g y) r a
 |_,.A _ _ _ f,r,h=>vK (λy a=>a) (λy r a=>M.le k (f y) r a) h|_,.B x,r,h=>M.le k x r h|_,.D _ _ x,r,h=>M.le k x r h|_,.Sp b x y,r,h=>by cases b;exact M.le k y r h;exact M.le k x r h|_,.Nl _ l _ y,r,h=>M.le k (y l) r h|_,.Mm _ x,r,h=>M.le k x r h|_,.Pn _ x,r,h=>M.le k x r h|_,.Ml _ _ _ x,r,h=>M.le k x r h|_,.Mu _ _ _ _ x,r,h=>M.le k x r h
def aw9 {ρ:Type}(Qf:ρ->St->Tr):Cg ρ->Out ρ->Tr|.S [] σ,.nx σ₁=>aT9 σ₁ σ|.S [] σ,.top r=>Qf r σ|.S (.c .ret::_) σ,.rt r=>Qf r σ|.S (.c .ret::_) σ,.top r=>Qf r σ|.X id σ,.ex id' σ₁=>bif cV4 id id' then aT9 σ₁ σ else .bad|.R r,.rt a=>tq r a|.R r,.top a=>tq r a|_,_=>.bad
def cj4 (all:List Oper)(tm:J4)(ops:List Oper):Option<|Nat×Bool×List Oper×Nat×List Oper:=match ops with|[]=>none|o::_=>match o.guard with|none=>none|some (j,_)=>match all[j]?with|none=>none|some a=>match a.dst with|none=>none|some d=>match look tm d,cut d ops with|some<|.t<|.v<|.bool b,some (g,q,_,r)=>some (d,b,g,q,r)|_,_=>none
def M.isJ {P:Program}{ρ:Type}:{τ:Type}->M P ρ τ->Bool|_,.J0 0 _ _ _=>true|_,.J 0 _ _ _ _ _=>true|_,.B _=>true|_,.Z _ x=>x.isJ|_,.Pn _ x=>x.isJ|_,.D _ _ x=>x.isJ|_,_=>false
def M.isD {P:Program}{ρ:Type}:{τ:Type}->M P ρ τ->Bool|_,.Z _ x=>x.isD|_,.Pn _ _=>true|_,.D _ _ _=>true|_,.J0 (_+1) _ _ _=>true|_,_=>false
def bi7:List Nat->List Nat->List (Nat×Nat)|x::l,y::l'=>(x,y)::bi7 l l'|_,_=>[]
def M.nz {P:Program}{ρ:Type}(Ev:EqV P)(tab:vH)(nt:Nat)(Qf:ρ->St->Tr):{τ:Type}->M P ρ τ->List GF->Cg ρ->(τ->Out ρ)->Tr
 |_,.R v,_,c,o=>aw9 Qf (av tab nt true true fuel c)<|o v|_,.N,_,_,_=>.ok|_,.I b x y,Γ,c,o=>match av tab nt true true fuel c with
  |.S (.c (.cond q z w)::ks) σ=>match val σ.tm q with|some<|.t<|.v<|.bool Q=>.and (tq Q b)<|.and (x.nz Ev tab nt Qf Γ (.S (.c z::ks) σ) o)<|y.nz Ev tab nt Qf Γ (.S (.c w::ks) σ) o|_=>.bad
  |_=>.bad
 |_,.K f x,Γ,c,o=>match here (av tab nt true true fuel c)with
  |some (all,kb,q,tm,hp,_,nx)=>match gk all.toList kb tm q.guard,Yb tm hp q with|some true,some (n,l,s,d)=>bif Y3 d nt then .and (tq (n,l) (f.n,f.args))<|.and (bif s then tq (α:=_->Bool) (λt=>scalar<|f.res t) λ_=>true else .ok) (.all λt=>(x t).nz Ev tab nt Qf Γ (nx (f.res t) none) o)else .bad|_,_=>.bad
  |none=>.bad
 |_,.KG f nm x,Γ,c,o=>match av tab nt true true fuel c with
  |.O all kb (q::r) ks ⟨tm,hp⟩=>match gk all.toList kb tm q.guard,Iw tm q,q.dst with
   |some true,some (n,targs),some d=>match bn5 f.args f.hp targs hp with|lm=>match NL lm f.args,sE lm f.hp with|some bQ,some sC=>bif cV4 n f.n&&Y3 d nt&&Dx lm (bi7 f.nw nm) tm hp then .and (tq (Jd targs bQ) bQ)<|.and (tq (sC.map<|IX hp)<|sC.map λp=>some p.2) (.all λt=>match oN (lm++bi7 f.nw nm)<|f.res t,sE (lm++bi7 f.nw nm) (f.L9 t)with|some rt,some rh=>(x t).nz Ev tab nt Qf Γ (.O all kb r ks ⟨(d,rt)::tm,rh++dC lm hp⟩) o|_,_=>.bad)else .bad|_,_=>.bad
   |_,_,_=>.bad
  |.D id all h bs ws ops vs tm0 hp0 fz kb ks=>match here (ρ:=ρ) (.D id all h bs ws ops vs tm0 hp0 fz kb ks)with
   |some (all,kb,q,tm,hp,_,nx)=>match gk all.toList kb tm q.guard,Iw tm q,q.dst with
    |some true,some (n,targs),some d=>match nm with
     |[c]=>match f.hp,look hp c with
      |[],_=>match NL [] f.args with
       |some bQ=>bif cV4 n f.n&&Y3 d nt&&Y3 c vJ then .and (tq (Jd targs bQ) bQ) (.all λt=>match f.L9 t with
          |[(r1,.rows e2 T n2 rs2)]=>match oN [(r1,c)] (f.res t)with|some rt=>(x t).nz Ev tab nt Qf Γ (nx rt<|some (c,.rows e2 T n2 rs2)) o|none=>.bad
          |_=>.bad)else .bad|none=>.bad
      |[(b1,.rows e sz n1 rs)],some<|.rv v' e' sz' n1' rs'=>bif cV4 n f.n&&Y3 d nt&&Y3 c vJ&&aP6 b1 f.args then .and (tq (Jd targs<|vD b1 (.t<|.v v') f.args)<|vD b1 (.t<|.v v') f.args)<|.and (tq (e,sz,n1,rs) (e',sz',n1',rs')) (.all λt=>match f.L9 t with
         |[(r1,.rows e2 T n2 rs2)]=>match oN [(r1,c)] (f.res t)with|some rt=>(x t).nz Ev tab nt Qf Γ (nx rt<|some (c,.rows e2 T n2 rs2)) o|none=>.bad
         |_=>.bad)else .bad|_,_=>.bad
     |_=>match bn5 f.args f.hp targs hp with|lm=>match NL lm f.args,sE lm f.hp with|some bQ,some sC=>bif cV4 n f.n&&Y3 d nt&&Dx lm [] [] []&&lm.all λp=>(look sC p.2).isSome then .and (tq (Jd targs bQ) bQ)<|.and (tq (sC.map λp=>look hp p.1)<|sC.map λp=>some p.2)<|.all λt=>.and (tq (f.L9 t) f.hp) (match oN lm (f.res t)with|some rt=>(x t).nz Ev tab nt Qf Γ (nx rt none) o|none=>.bad)else .bad|_,_=>.bad
    |_,_,_=>.bad
   |none=>.bad
  |_=>.bad
 |_,.O l x,Γ,c,o=>match here (av tab nt true true fuel c)with
  |some (all,kb,q,tm,hp,_,nx)=>match gk all.toList kb tm q.guard,l.q tab tm hp q.op,q.dst with|some true,some (t,res),some d=>bif Y3 d nt then .and t (.all λy=>(x y).nz Ev tab nt Qf (l.k y Γ) (nx (res y) none) o)else .bad|_,_,_=>.bad
  |none=>.bad
 |_,.W u x,Γ,c,o=>match here (av tab nt true true fuel c)with
  |some (all,kb,q,tm,hp,_,nx)=>match gk all.toList kb tm q.guard,u.q Ev tab Γ tm hp q.op,q.dst with|some true,some (t,V),some d=>bif Y3 d nt then .and t (x.nz Ev tab nt Qf Γ (nx V none) o)else .bad|_,_,_=>.bad
  |none=>.bad
 |_,.U u x,Γ,c,o=>match av tab nt true true fuel c with
  |.O all kb (q::r) ks ⟨tm,hp⟩=>match gk all.toList kb tm q.guard,u.q tab nt Γ tm hp q with|some true,some (t,σ)=>.and t<|.all λy=>(x y).nz Ev tab nt Qf (u.k y Γ) (.O all kb r ks<|σ y) o|_,_=>.bad
  |.D id all h bs ws ops vs tm0 hp0 fz kb ks=>match here (ρ:=ρ) (.D id all h bs ws ops vs tm0 hp0 fz kb ks)with
   |some (all,kb,q,tm,hp,_,nx)=>match gk all.toList kb tm q.guard,u.qD tab nt Γ tm hp q with|some true,some (t,f)=>.and t<|.all λy=>(x y).nz Ev tab nt Qf (u.k y Γ) (nx (f y).1 (f y).2) o|_,_=>.bad
   |none=>.bad
  |_=>.bad
 |_,.Mk enc n z x,Γ,c,o=>match here (av tab nt true true fuel c)with
  |some (all,kb,q,tm,hp,fz,nx)=>match gk all.toList kb tm q.guard,q.op,q.dst with
   |some true,.makeSlice t a b,some d=>match val tm a,val tm b,look tab t with
    |some<|.t<|.v<|.int k n',some<|.t<|.v<|.int k2 n2,some ⟨_,.slice e,_⟩=>match look tab e with|some te=>bif Y3 d nt&&cV4 te.zero.length te.size&&Y3 0 te.size&&Y3 d vJ&&F6 d tm&&E8 d hp then .and (tq (n',k2,n2) (n,k,n))<|.and (tq (enc z)<|te.zero.map λv=>jm<|.v v) (.all λy=>(x y).nz Ev tab nt Qf Γ (bif fL d fz then nx (.t<|.sl y.length<|y.map enc) none else nx (.own d)<|some (d,.rows e te.size y.length<|y.map enc)) o)else .bad|none=>.bad
    |_,_,_=>.bad
   |_,_,_=>.bad
  |none=>.bad
 |_,.Z z x,Γ,c,o=>match av tab nt (!x.isJ) (!x.isD) z.fu c with
  |.S ks ⟨tm,hp⟩=>match z.ap tm hp with|some σ=>x.nz Ev tab nt Qf Γ (.S ks σ) o|none=>.bad
  |.O all kb ops ks ⟨tm,hp⟩=>match z.ap tm hp with|some σ=>x.nz Ev tab nt Qf Γ (.O all kb ops ks σ) o|none=>.bad
  |.X id ⟨tm,hp⟩=>match z.ap tm hp with|some σ=>x.nz Ev tab nt Qf Γ (.X id σ) o|none=>.bad
  |_=>.bad
 |_,.G b x y f,Γ,c,o=>match av tab nt true true fuel c with
  |.O all kb ops ks ⟨tm,hp⟩=>match cj4 all.toList tm ops with|some (d,Q,g,q,r)=>.and (tq Q b)<|.and (x.nz Ev tab nt Qf Γ (.O all (d::kb) g [] ⟨(d,.t<|.v<|.bool true)::tm,hp⟩) λv=>.nx ⟨(q,.t<|.v<|.bool v)::vA (d::q::tV g) tm,hp⟩)<|.and (y.nz Ev tab nt Qf Γ (.O all (d::kb) g [] ⟨(d,.t<|.v<|.bool false)::tm,hp⟩) λv=>.nx ⟨(q,.t<|.v<|.bool v)::vA (d::q::tV g) tm,hp⟩)<|.all λv=>(f v).nz Ev tab nt Qf Γ (.O all kb r ks ⟨(q,.t<|.v<|.bool v)::vA (d::q::tV g) tm,hp⟩) o|none=>.bad
  |_=>.bad
 |_,.J0 n s x f,Γ,c,o=>match match n with|0=>av tab nt false true fuel c|_=>av tab nt true false fuel c with|.S (.c z::ks) σ=>.and (x.nz Ev tab nt Qf Γ (.S [.c z] σ) λv=>.nx<|Ri (s v) ⟨vA (V5 z) σ.tm,σ.hp⟩)<|.all λv=>(f v).nz Ev tab nt Qf Γ (.S ks<|Ri (s v) ⟨vA (V5 z) σ.tm,σ.hp⟩) o|_=>.bad
 |_,.J n s k x f g,Γ,c,o=>match match n with|0=>av tab nt false true fuel c|n=>av tab nt true true n c with|.S (.c z::ks) σ=>.and (x.nz Ev tab nt Qf Γ (.S [.c z] σ) λv=>match v with|.inl v=>.nx<|Ri (s v) ⟨vA (V5 z) σ.tm,σ.hp⟩|.inr w=>ao8 ⟨vA (V5 z) σ.tm,σ.hp⟩<|k.sh w)<|.and (.all λv=>(f v).nz Ev tab nt Qf Γ (.S ks<|Ri (s v) ⟨vA (V5 z) σ.tm,σ.hp⟩) o)<|k.all λw sh=>(g w).nz Ev tab nt Qf Γ (cont ks ⟨vA (V5 z) σ.tm,σ.hp⟩ sh) o|_=>.bad
 |_,.JF n s x i,Γ,c,o=>match av tab nt true true n c with|.S (.c z::ks) σ=>bif noE ks then .and (x.nz Ev tab nt Qf Γ (.S [.c z] σ) λv=>match v with|.next v=>.nx<|Ri (s v) ⟨vA (V5 z) σ.tm,σ.hp⟩|.brk v=>cl7<|o<|.inr<|.inl v|.ret w=>cl7<|o<|.inr<|.inr w)<|.all λv=>aw9 Qf (av tab nt true true fuel<|.S ks<|Ri (s v) ⟨vA (V5 z) σ.tm,σ.hp⟩)<|o<|.inl (H<|i+1,v)else .bad|_=>.bad
 |_,.L C nx k x s₀ f g,Γ,c,o=>match av tab nt true true fuel c with|.S (.c (.loop z)::ks) σ=>.and (aT9 (Ri (C s₀) ⟨vA (V5 z) σ.tm,σ.hp⟩) σ)<|.and (.all λa=>(x a).nz Ev tab nt Qf Γ (.S [.c z]<|Ri (C a) ⟨vA (V5 z) σ.tm,σ.hp⟩) λv=>match v with|.inl E=>.nx<|Ri (C E) ⟨vA (V5 z) σ.tm,σ.hp⟩|.inr<|.inl E=>.ex nx<|Ri (C E) ⟨vA (V5 z) σ.tm,σ.hp⟩|.inr<|.inr w=>bU3 ⟨vA (V5 z) σ.tm,σ.hp⟩<|k.sh w)<|.and (.all λa=>(f a).nz Ev tab nt Qf Γ (cont ks ⟨vA (V5 z) σ.tm,σ.hp⟩<|.ex nx<|C a) o)<|k.all λw sh=>(g w).nz Ev tab nt Qf Γ (cont ks ⟨vA (V5 z) σ.tm,σ.hp⟩ sh) o|_=>.bad
 |_,.LQ ri C nx k x s₀ f g,Γ,c,o=>match av tab nt true true fuel c with|.S (.c (.loop z)::ks) σ=>.and (aT9 (Ri (.t ri (.t<|Y 0)::C s₀) ⟨vA (V5 z) σ.tm,σ.hp⟩) σ)<|.and (.all λa=>(x a).nz Ev tab nt Qf Γ (.S [.c z]<|Ri (.t ri (.t<|Y a.1)::C a.2) ⟨vA (V5 z) σ.tm,σ.hp⟩) λv=>match v with|.inl E=>.nx<|Ri (.t ri (.t<|Y E.1)::C E.2) ⟨vA (V5 z) σ.tm,σ.hp⟩|.inr<|.inl E=>.ex nx<|Ri (C E) ⟨vA (V5 z) σ.tm,σ.hp⟩|.inr<|.inr w=>bU3 ⟨vA (V5 z) σ.tm,σ.hp⟩<|k.sh w)<|.and (.all λa=>(f a).nz Ev tab nt Qf Γ (cont ks ⟨vA (V5 z) σ.tm,σ.hp⟩<|.ex nx<|C a) o)<|k.all λw sh=>(g w).nz Ev tab nt Qf Γ (cont ks ⟨vA (V5 z) σ.tm,σ.hp⟩ sh) o|_=>.bad
 |_,.A enc l i f,Γ,c,o=>.all λy=>(f y).nz Ev tab nt Qf (⟨enc,l,i,y⟩::Γ) c o|_,.B x,Γ,c,o=>match av tab nt false true fuel c with|.S (.c (.block id z)::ks) σ=>x.nz Ev tab nt Qf Γ (.S (.c z::.e id::ks) σ) o|_=>.bad
 |_,.D fz ws x,Γ,c,o=>match av tab nt (!x.isJ) false fuel c with|.S (.c (.region id ops true)::ks) σ=>x.nz Ev tab nt Qf Γ (.D id ops (tlH (Cm ops.toList []) 0) (Cm ops.toList []) (aO7 fz 0 (ops.toList.take<|tlH (Cm ops.toList []) 0)++ws) ops.toList [] (vA (tV<|ops.toList.take<|tlH (Cm ops.toList []) 0) σ.tm) σ.hp fz [] ks) o|_=>.bad
 |_,.Sp b x y,Γ,c,o=>match av tab nt true true fuel c with
  |.D id all h bs ws (q::r) vs tm0 hp0 fz kb ks=>match cC4 q vs with|some (j,Q)=>.and (tq Q b)<|.and (x.nz Ev tab nt Qf Γ (.D id all h bs ws (q::r) (bg7 (.t<|.v<|.bool true) j vs) tm0 hp0 fz (kbD all j kb) ks) o)<|y.nz Ev tab nt Qf Γ (.D id all h bs ws (q::r) (bg7 (.t<|.v<|.bool false) j vs) tm0 hp0 fz (kbD all j kb) ks) o|none=>.bad
  |.O all kb (q::r) ks ⟨tm,hp⟩=>match cC3 all.toList tm q with|some (d,Q)=>.and (tq Q b)<|.and (x.nz Ev tab nt Qf Γ (.O all (d::kb) (q::r) ks ⟨(d,.t<|.v<|.bool true)::tm,hp⟩) o)<|y.nz Ev tab nt Qf Γ (.O all (d::kb) (q::r) ks ⟨(d,.t<|.v<|.bool false)::tm,hp⟩) o|none=>.bad
  |_=>.bad
 |_,.Nl enc l x y,Γ,c,o=>match av tab nt true true fuel c with
  |.O all kb (q::r) ks ⟨tm,hp⟩=>match gk all.toList kb tm q.guard,q.op,q.dst with
   |some true,.binOp .eql t z (.const<|.slice none 0 0) _,some d=>match look tab t,val tm z with|some ⟨_,.slice _,_⟩,some<|.t<|.sl _ rs=>bif Y3 d nt then .and (tq rs<|l.map enc)<|.and (tq x.run (y []).run)<|.and (x.nz Ev tab nt Qf Γ (.O all kb r ks ⟨(d,.t<|.v<|.bool true)::tm,hp⟩) o) ((y l).nz Ev tab nt Qf Γ (.O all kb r ks ⟨(d,.t<|.v<|.bool false)::tm,hp⟩) o)else .bad|_,_=>.bad
   |_,_,_=>.bad
  |_=>.bad
 |_,.Pn id x,Γ,c,o=>match av tab nt (!x.isJ) false fuel c with
  |.S ks ⟨tm,hp⟩=>match look hp id with|some<|.rows e sz n rs=>.all λv:Value=>x.nz Ev tab nt Qf Γ (.S ks ⟨SY id (.t<|.v v) tm,(id,.rv v e sz n rs)::Da id (.t<|.v v) hp⟩) o|_=>.bad
  |_=>.bad
 |_,.Mm id x,Γ,c,o=>match av tab nt true true fuel c with
  |.O all kb (q::r) ks ⟨tm,hp⟩=>match gk all.toList kb tm q.guard,q.op,q.dst with|some true,.makeMap _ none,some d=>bif Y3 d nt&&(Y3 id vJ&&(F6 id tm&&E8 id hp))then x.nz Ev tab nt Qf Γ (.O all kb r ks ⟨(d,.own id)::tm,(id,.mp [])::hp⟩) o else .bad|_,_,_=>.bad
  |_=>.bad
 |_,.Ml m l k x,Γ,c,o=>match av tab nt true true fuel c with
  |.O all kb (q::r) ks ⟨tm,hp⟩=>match gk all.toList kb tm q.guard,q.op,q.dst with
   |some true,.lookup t a b false,some d=>match val tm a,val tm b with
    |some<|.own id,some<|.t<|.v kv=>match look hp id with|some<|.mp es=>bif Y3 d nt then .and (tq (t,es,kv) (m.t,l.map<|ent m.f m.g,m.f k)) (x.nz Ev tab nt Qf Γ (.O all kb r ks ⟨(d,.t<|.v<|m.g<|@KN _ _ m.beq m.z l k)::tm,hp⟩) o)else .bad|_=>.bad
    |_,_=>.bad
   |_,_,_=>.bad
  |_=>.bad
 |_,.Mu m l k v x,Γ,c,o=>match av tab nt true true fuel c with
  |.O all kb (q::r) ks ⟨tm,hp⟩=>match gk all.toList kb tm q.guard,q.op,q.dst with
   |some true,.mapUpdate t a b u,none=>match val tm a,val tm b,val tm u with
    |some<|.own id,some<|.t<|.v kv,some<|.t<|.v uv=>match look hp id with|some<|.mp es=>.and (tq (t,es,kv,uv) (m.t,l.map<|ent m.f m.g,m.f k,m.g v))<|x.nz Ev tab nt Qf Γ (.O all kb r ks ⟨tm,aT hp id<|.mp<|(@Wx _ _ m.beq l k v).map<|ent m.f m.g⟩) o|_=>.bad
    |_,_,_=>.bad
   |_,_,_=>.bad
  |_=>.bad
abbrev M.Q {P:Program}{ρ α S γ τ:Type}(enc:α->List Tree)(l:List α)(n b:Nat)(a:S->List Ch)(ex:Nat)(k:Kd ρ γ)(x:Int->α->S->M P ρ (Fl S γ))(s:S)(f:S->M P ρ τ)(g:γ->M P ρ τ):M P ρ τ:=.LQ b a ex k (λp=>.I (decide<|p.1<l.length) (.A enc l p.1 λe=>.JF n a (x p.1 e p.2) p.1)<|.R<|.inr<|.inl p.2) s f g
abbrev M.QN {P:Program}{ρ S γ τ:Type}(m:Int)(n b:Nat)(a:S->List Ch)(ex:Nat)(k:Kd ρ γ)(x:Int->S->M P ρ (Fl S γ))(s:S)(f:S->M P ρ τ)(g:γ->M P ρ τ):M P ρ τ:=.LQ b a ex k (λp=>.I (decide<|p.1<m) (.JF n a (x p.1 p.2) p.1)<|.R<|.inr<|.inl p.2) s f g
theorem cl2 (t:T):Pe t .any=.any:=by cases t<;>simp[Pe]
theorem bn9 (id:Nat):∀(l:List T),Jd l (fgL id l)=fgL id l|[]=>by rfl|x::l=>by simp[fgL,Jd,bn9 id l];cases names id x<;>simp[cl2,Nw]
theorem cl3 (id:Nat)(b:ck):Uy b (fgB id b)=fgB id b:=by cases b<;>simp[fgB,Uy,bn9]
def Ht:∀{l₁ l:J4},(∀k t,(k,t)∈l₁->∃a,look l k=some a/\Pe a t=t)->bZ9 l₁ l|[],_,_=>trivial|(k,t)::r,l,h=>⟨h k t<|cV7 ..,Ht λk t b=>h k t<|cV3 _ b⟩
def Hs:∀{l₁ l:F1},(∀k t,(k,t)∈l₁->∃a,look l k=some a/\Uy a t=t)->bZ8 l₁ l|[],_,_=>trivial|(k,t)::r,l,h=>⟨h k t<|cV7 ..,Hs λk t b=>h k t<|cV3 _ b⟩
def SK:∀{tm:J4}{ds:List Nat}{k:Nat}{t:T},(k,t)∈vA ds tm->fL k ds=false/\look tm k=some t
 |[],_,_,_,h=>by cases h|(j,x)::r,ds,k,t,h=>by
  unfold vA at h;cases b:fL j ds<;>rw[b]at h<;>simp only[cT9,cT8]at h;rcases cV6.1 h with h|h;simp_all[look];obtain⟨h1,c⟩:=SK h;grind [Fa,C4];obtain⟨h1,c⟩:=SK h;have a:j≠k:=λe=>by subst e;rw[b]at h1;cases h1
  exact⟨h1,by rw[C4 a];exact c⟩
def av8 {id:Nat}:∀{tm:J4}{k:Nat}{t:T},(k,t)∈fgT id tm->(k,t)∈tm|[],_,_,h=>by cases h|(j,x)::r,k,t,h=>by unfold fgT at h;cases a:names id x<;>rw[a]at h<;>simp only[cT9,cT8]at h;rcases cV6.1 h with h|h;cases h;exact cV7 ..;exact cV3 _<|av8 h;exact cV3 _<|av8 h
def ay9 {h:List<|Nat×Nat}:∀{tm:J4}{k:Nat}{t:T},(k,t)∈rdT h tm->(k,t)∈tm|[],_,_,a=>by cases a|(j,x)::r,k,t,a=>by unfold rdT at a;split at a;rcases cV6.1 a with a|a;cases a;exact cV7 ..;exact cV3 _<|ay9 a;exact cV3 _<|ay9 a
theorem Tf:∀{h:F1}{k:Nat}{b:ck},uniq h=true->(k,b)∈h->look h k=some b
 |[],_,_,_,h=>by cases h|(j,c)::r,k,b,a,d=>by
  simp[uniq,BY,Option.isNone_iff_eq_none]at a;rcases cV6.1 d with e|d;cases e;simp[look];have:=Tf a.2 d;have f:j≠k:=λe=>by subst e;rw[a.1]at this;cases this
  rw[C4 f];exact this
def av7 {id:Nat}:∀{h:F1}{k:Nat}{c:ck},(k,c)∈fgH id h->∃b,(k,b)∈h/\c=fgB id b|[],_,_,h=>by cases h|(j,x)::r,k,c,h=>by unfold fgH at h;cases d:cV4 j id<;>rw[d]at h<;>simp only[cT9,cT8]at h;rcases cV6.1 h with h|h;grind;obtain⟨b,h1,a⟩:=av7 h;exact⟨b,cV3 _ h1,a⟩;obtain⟨b,h1,a⟩:=av7 h;exact⟨b,cV3 _ h1,a⟩
theorem av9 {id:Nat}{tm:J4}{hp:F1}(c:uniq hp=true):Sub ⟨fgT id<|vA [] tm,fgH id hp⟩ ⟨tm,hp⟩:=⟨Ht λk t a=>⟨t,(SK<|av8 a).2,Nw t⟩,Hs λk t a=>by obtain⟨b,h1,rfl⟩:=av7 a;grind [Tf,cl3]⟩
def Ae {a ρ:Type}(X:Cx)(Qf:a->St->Prop)(c:Cg a)(m:Option ρ)(Q:ρ->Exit->St->Prop):Prop:=match c with|.S ks σ=>w6 X ks σ m Q|.O all _ ops ks σ=>o0 X all ops ks σ m Q|.D id all _ b ws ops vs tm0 hp0 _ _ ks=>ops=all.toList.drop vs.length->b=Cm all.toList []->Tq X all b ws tm0 hp0 vs->w6 X (.c (.region id all true)::ks) ⟨tm0,hp0⟩ m Q|.X id σ=>M8 X [] (.exit id) σ m Q|.R r=>∀v,m=some v->∀σ',Qf r σ'->Q v .ret σ'
section
variable {ρ τ β:Type}{X:Cx}{Qp:ρ->St->Prop}{m:Option τ}{Q:τ->Exit->St->Prop}
theorem Ae.pre {c:Cg ρ}{m₁:Option β}{k:β->Option τ}(h:∀y,m₁=some y->Ae X Qp c (k y) Q):Ae X Qp c (m₁.bind k) Q:=by cases d:m₁ with|some y=>grind|none=>cases c with|S ks σ=>exact w6.fail|O all kb ops ks σ=>exact o0.fail|D=>exact λ_ _ _=>w6.fail|X id σ=>exact λr a=>by cases a|R r=>exact λv b=>by cases b
def Tq.snoc {all:Array Oper}{a:List<|List Nat}{ws:List<|Nat×Nat}{tm0:J4}{hp0:F1}{vs:List<|T×Option (Nat×ck)}{V:T}{N:Option<|Nat×ck}{o:Oper}{b:List Nat}(h:Tq X all a ws tm0 hp0 vs)(j:all.toList[vs.length]?=some o)(k:a[vs.length]?=some b)(l:U5 X all o (minOf all.toList (vs.map (·.1)) tm0<|uW o) (by5 a ws vs hp0 vs.length b) V N):Tq X all a ws tm0 hp0<|vs++[(V,N)]:=by intro i e f o' g hi c d;rw[List.getElem?_append]at hi;split at hi;have:=h i e f o' g hi c d;grind;grind
def Yr {tab:vH}{tm:J4}{hp:F1}{o:Oper}{t:T}{σ':St}(hi:rM o.op=true)(a:evalOp tab ⟨tm,hp⟩ o=some (t,σ')):∃d b,o.dst=some d/\σ'=⟨tm,(d,b)::hp⟩/\((∃c,b=.box c)\/t=.own d):=by
 rw[sV]at a;obtain⟨dst,f,type,pos,g,guard⟩:=o;cases f<;>simp[rM]at hi<;>simp only[Bw]at a;case alloc e=>grind
 case box e x=>grind
 case buildSlice ty n parts=>cases dst with|none=>simp at a|some d=>
   split at a<;>try cases a
   grind
 grind
def cA9 {all:Array Oper}{f:List<|List Nat}{ws:List<|Nat×Nat}{o:Oper}{vs:List<|T×Option (Nat×ck)}{tm0:J4}{hp0:F1}{fz kb:List Nat}{V:T}{N:Option<|Nat×ck}(h:stD X.tab all.toList f ws o vs tm0 hp0 fz kb=some (V,N)):∃b,f[vs.length]?=some b/\U5 X all o (minOf all.toList (vs.map (·.1)) tm0<|uW o) (by5 f ws vs hp0 vs.length b) V N:=by
 unfold stD at h;split at h<;>try grind
 rename_i b n;refine⟨b,n,?_⟩;dsimp at h;split at h<;>try cases h;done
 ·rename_i a;obtain⟨rfl,rfl⟩:=h;exact .skip a
 ·rename_i a;cases hp:bx2 o.op<;>rw[hp]at h<;>simp[cT9]at h
  ·cases e:rM o.op<;>rw[e]at h<;>simp[reduceCtorEq]at h
   ·split at h<;>try cases h;done
    rename_i t x y p;split at h<;>try cases h;done
    rename_i id off ti l hx hti hy;split at h<;>try cases h;done
    rename_i k g;cases m:cV4 l.length ti.size&&dc6 (off+l.length) k.length<;>rw[m]at h<;>simp[reduceCtorEq,cz4]at h;obtain⟨rfl,rfl⟩:=h;exact .store a p hx hti hy g m
   split at h<;>try cases h;done
   rename_i q tm' r u L9 d c i;obtain⟨d2,b2,e1,e2,j⟩:=Yr e c;rw[i]at e1;cases e1;obtain⟨rfl,⟨rfl,rfl⟩,rfl⟩:=e2;have s:=U5.new a e i c;cases hz:fL r fz<;>rw[hz]at h<;>simp[cT9,cT8]at h;·grind
   ·split at h<;>try cases h;done
    obtain⟨rfl,rfl⟩:=h;rcases j with⟨k,j⟩|rfl;·cases j
    ·exact s.frz e i
  ·have hp:=an6 hp;split at h<;>try cases h;done
   rename_i q σ' c;obtain⟨rfl,rfl⟩:=h;have:=Vh hp c;subst this;exact .pure a hp c
def nD (hmx:X.P.follows .mixedOrders=true)(y:∀r l σ,¬Q r (.goto l) σ)(s ed:Bool):∀(n:Nat)(c:Cg ρ),Ae X Qp (av X.tab X.nt s ed n c) m Q->Ae X Qp c m Q:=by intro n;induction n with|zero=>intro c h;exact h|succ n e=>
  intro c h;unfold av at h;split at h;split at h;exact w6.seq<|e _ h;exact w6.skip<|e _ h;exact w6.label<|e _ h;exact w6.scope y<|e _ h;cases s<;>simp[cT8]at h;exact h;exact w6.block<|e _ h;split at h;exact w6.region<|e _ h;cases ed<;>simp[cT9]at h;exact h;have:=e _ h sq rfl (λi V N o b hi=>by simp at hi);exact λr j a w p=>this r j a w<|p.Lu (λk t hk=>(Sj hk).2) λk b hk=>hk;split at h;rename_i hp;exact w6.exit hp<|e _ h;rename_i hp;exact w6.out hp h;exact h;exact w6.cG7<|e _ h;exact o0.nil<|e _ h;split at h;rename_i z;exact cB0 z<|e _ h;exact h;rename_i id all h0 bs ws ops vs tm0 hp0 fz kb ks;cases u:cV4 vs.length h0<;>rw[u]at h<;>simp[cT8]at h;split at h;exact h;rename_i o r;split at h;rename_i x hx;intro d f g;have A:all.toList[vs.length]?=some o:=by rw[<-cX6,<-d];rfl
  obtain⟨b,q,B⟩:=cA9 hx;exact e _ h (by rw[IT,<-bT3,<-d];rfl) f<|g.snoc A q B;exact h;cases v:ch9 X.nt all.toList h0 ws tm0 hp0 vs<;>rw[v]at h<;>simp[cT8]at h;exact h;intro d f g;have:=bD u;subst this d f;exact w6.cN5 hmx v g λr j a w p=>e _ h r j a w<|p.Lu (λ_ _ h=>h) (λk b hk=>by rw[YQ]at hk;exact hk);exact h
theorem Rp.Dd {o:Oper}{tm:J4}{hp:F1}(h:rM o.op=false):Rp o none tm hp:=⟨λa=>gq,λid a=>by grind [bs9]⟩
def Kv {g i:Nat}{a all:Array Oper}{j:List<|List Nat}{k:List<|Nat×Nat}{c:List Oper}{f:List<|T×Option (Nat×ck)}{d:J4}{e:F1}{l n kb fz:List Nat}{o:List K}{q:Oper}{tm:J4}{hp:F1}{nx:T->Option (Nat×ck)->Cg ρ}{V:T}{N:Option<|Nat×ck}(h:here (.D g a i j k c f d e l n o:Cg ρ)=some (all,kb,q,tm,hp,fz,nx))(u:U5 X all q tm hp V N)(hk:Ae X Qp (nx V N) m Q):Ae X Qp (.D g a i j k c f d e l n o) m Q:=by cases c with|nil=>simp[here]at h|cons q0 r=>
  simp[here]at h;split at h<;>try cases h;done
  rename_i b v;simp[AI,cz4]at h;obtain⟨rfl,rfl,rfl,rfl,rfl,rfl,rfl⟩:=h;intro p s t;have w:a.toList[f.length]?=some q0:=by grind [cX6]
  exact hk (by rw[IT,<-bT3,<-p];rfl) s<|t.snoc w v u
def IG {c:Cg ρ}{all:Array Oper}{kb fz:List Nat}{q:Oper}{tm:J4}{hp:F1}{nx:T->Option (Nat×ck)->Cg ρ}{V:T}{N:Option<|Nat×ck}(h:here c=some (all,kb,q,tm,hp,fz,nx))(j:U5 X all q tm hp V N)(k:∀d,q.dst=some d->Y3 d X.nt=true)(l:Rp q N tm hp)(hk:Ae X Qp (nx V N) m Q):Ae X Qp c m Q:=by
 unfold here at h;split at h<;>try cases h;done
 ·obtain⟨rfl,rfl,rfl,rfl,rfl,rfl,rfl⟩:=h;intro r n a w o;exact wpList_step λK p=>j _ _ (λ_ _ h=>h) (λ_ _ h=>h) l k a w o K _ λu w' f=>p _ _<|hk r n _ _ f
 ·rename_i id all0 h0 bs ws q0 r vs tm0 hp0 fz0 kb0 ks;split at h<;>try cases h;done
  rename_i b s;simp[AI,cz4]at h;obtain⟨rfl,rfl,rfl,rfl,rfl,rfl,rfl⟩:=h;intro e g i;have t:all0.toList[vs.length]?=some q0:=by grind [cX6]
  exact hk (by rw[IT,<-bT3,<-e];rfl) g<|i.snoc t s j
def bS6 {ks:List Nat}:∀{tm:J4}{k:Nat}{t:T},look (kp ks tm) k=some t->fL k ks=true|[],_,_,h=>by simp[kp,look]at h|(a,b)::r,k,t,h=>by simp[kp]at h;cases hi:fL a ks<;>rw[hi]at h<;>simp[cT8]at h;exact bS6 h;by_cases hk:a=k;rw[<-hk];exact hi;rw[C4 hk]at h;exact bS6 h
def ax0 {ks:List Nat}:∀{tm:J4}{k:Nat}{t:T},look (kp ks tm) k=some t->look tm k=some t|[],_,_,h=>by simp[kp,look]at h|(a,c)::r,k,t,h=>by have b:=bS6 h;simp[kp]at h;by_cases hk:a=k;simp_all[look];rw[C4 hk];cases hi:fL a ks<;>rw[hi]at h<;>simp[cT9]at h;exact ax0 h;rw[C4 hk]at h;exact ax0 h
def Z1.bI6 {z:Z1}{tm:J4}{hp:F1}{σ:St}{ks:List K}{e:Exit}(h:z.ap tm hp=some σ)(k:M8 X ks e σ m Q):M8 X ks e ⟨tm,hp⟩ m Q:=by
 cases z with|fr id=>grind [Z1.ap,M8.frz]|fb id=>grind [Z1.ap,M8.bb8]|np j id e' sz path=>
  simp[Z1.ap]at h;split at h<;>try cases h
  split at h<;>try cases h
  cases a:Y3 id vJ&&(F6 id tm&&E8 id hp)<;>rw[a]at h<;>simp[AI]at h;grind [M8.cl6]|nb b id e' sz path=>
  simp[Z1.ap]at h;split at h<;>try cases h
  split at h<;>try cases h
  cases a:Y3 id vJ&&(F6 id tm&&E8 id hp)<;>rw[a]at h<;>simp[AI]at h;grind [M8.cO1]|rn l=>
  simp[Z1.ap]at h;cases a:uniq hp&&VH (l++idn l hp)<;>rw[a]at h<;>simp[cT8]at h;rw[BY]at a;split at h<;>try cases h;done
  rename_i h1 d;simp[AI]at h;subst h;exact M8.sub (σ':=⟨rdT (l++idn l hp)<|vA [] tm,hp⟩) ⟨Ht λk t c=>⟨t,(SK<|ay9 c).2,Nw t⟩,Hs λk b c=>⟨b,Tf a.1 c,Uz b⟩⟩<|M8.ren _ a.2 h1 d k|dr id=>simp[Z1.ap]at h;grind [M8.sub,av9]|ke l=>simp[Z1.ap]at h;cases a:uniq hp<;>rw[a]at h<;>simp[AI]at h;subst h;exact M8.sub (σ':=⟨vA []<|kp l tm,hp⟩) ⟨Ht λk t c=>⟨t,ax0 (SK c).2,Nw t⟩,Hs λk b c=>⟨b,Tf a c,Uz b⟩⟩ k
theorem U5.mk {α:Type}{all:Array Oper}{kb:List Nat}{o:Oper}{J3:J4}{ae:F1}{t e d s0:Nat}{z0:List Value}{f:TI}{x y:Operand}{k1 k2:IntKind}{n:Int}{enc:α->List Tree}{z:α}{l:List α}(g:CT n z=some l)(C:o.op=.makeSlice t x y)(p:o.dst=some d)(I:gk all.toList kb J3 o.guard=some true)(hx:val J3 x=some (.t<|.v<|.int k1 n))(J:val J3 y=some (.t<|.v<|.int k2 n))(q:look X.tab t=some ⟨s0,.slice e,z0⟩)(r:look X.tab e=some f)(hz:f.zero.length=f.size)(h:Y3 0 f.size=true)(k:enc z=f.zero.map λv=>jm<|.v v)(m:Y3 d vJ=true):U5 X all o J3 ae (.own d)<|some (d,.rows e f.size l.length<|l.map enc):=by
 intro tm hp s R L u a w ⟨S,E,hk⟩K T M;unfold CT at g;split at g<;>try cases g;done
 simp[AI]at g;obtain⟨j,rfl⟩:∃j:Nat,n=j:=⟨n.toNat,by omega⟩;obtain⟨U,D,A⟩:∃d,X.P.underlying t=some d/\TD.ok X.P (.slice e) d:=by obtain⟨i,d,_,_,D,N,_⟩:=X.C8 t _ q;grind
 subst A;have b:=L.1 (by rw[C];rfl) d p;rw[BY]at b;obtain⟨v',w',E',O,Q,B⟩:=hk.make (n:=j) m b.1 b.2 D (X.C8 e _ r) hz (cU8 h) k F k1 k2;rw[I3 hk<|ca s<|jR I];unfold Oper.wp;have c:(execOp a.eval o).run X.P w=.ok (.value v') w':=by unfold execOp;simp[C,(hk.val<|u6 s hx).tv,(hk.val<|u6 s J).tv,cV1,O,OF,cW0]
 rw[c];have e1:l.map enc=List.replicate j (enc z):=by rw[<-g];simp
 have e2:l.length=j:=by grind
 refine M (a.put o.dst v') w' ?_;rw[e1,e2];simp[p];rw[<-p];exact Ok.pt B (.own d v' Q) u
theorem UK {x:T}:∀{vs:List<|T×Option (Nat×ck)}{j:Nat}{N:Option<|Nat×ck},vs[j]?=some (x,N)->bg7 x j vs=vs|[],j,N,h=>by simp at h|p::r,0,N,h=>by simp[cY1,AI]at h;subst h;rfl|p::r,j+1,N,h=>by rw[bg7,UK<|by simpa using h]
def cC5 {id h j:Nat}{all:Array Oper}{c:List<|List Nat}{ws:List<|Nat×Nat}{q:Oper}{r:List Oper}{vs:List<|T×Option (Nat×ck)}{tm0:J4}{hp0:F1}{fz kb a:List Nat}{ks:List K}{b:Bool}{m₁ m₂:Option τ}(ht:cC4 q vs=some (j,b))(d:Ae X Qp (.D id all h c ws (q::r) (bg7 (.t<|.v<|.bool true) j vs) tm0 hp0 fz a ks:Cg ρ) m₁ Q)(e:Ae X Qp (.D id all h c ws (q::r) (bg7 (.t<|.v<|.bool false) j vs) tm0 hp0 fz a ks:Cg ρ) m₂ Q):Ae X Qp (.D id all h c ws (q::r) vs tm0 hp0 fz kb ks:Cg ρ) (bif b then m₁ else m₂) Q:=by
 unfold cC4 at ht;split at ht<;>try cases ht
 split at ht<;>try cases ht;done
 rename_i b0 f;simp[AI,cz4]at ht;obtain⟨e1,e2⟩:=ht;subst e1 e2;cases b0;·rw[UK f]at e;exact e
 ·rw[UK f]at d;exact d
def cp8 {d:Nat}{all:Array Oper}{kb c:List Nat}{q:Oper}{r:List Oper}{tm:J4}{hp:F1}{ks:List K}{b:Bool}{m₁ m₂:Option τ}(ht:cC3 all.toList tm q=some (d,b))(h:Ae X Qp (.O all c (q::r) ks ⟨(d,.t<|.v<|.bool true)::tm,hp⟩:Cg ρ) m₁ Q)(i:Ae X Qp (.O all c (q::r) ks ⟨(d,.t<|.v<|.bool false)::tm,hp⟩:Cg ρ) m₂ Q):Ae X Qp (.O all kb (q::r) ks ⟨tm,hp⟩:Cg ρ) (bif b then m₁ else m₂) Q:=by
 have j:look tm d=some (.t<|.v<|.bool b):=by
  unfold cC3 at ht;split at ht<;>try cases ht
  grind
 cases b;·intro r e a w f;exact i r e a w<|f.Lu λk t hk=>by simp[look]at hk;by_cases g:d=k;all_goals simp_all[s9] λk b hk=>hk
 ·intro r e a w f;exact h r e a w<|f.Lu λk t hk=>by simp[look]at hk;by_cases g:d=k;all_goals simp_all[s9] λk b hk=>hk
end
def Out.never {ρ:Type}{Qf:ρ->St->Prop}{l:Nat}{σ:St}:∀(o:Out ρ),¬o.den Qf (.goto l) σ|.nx _,h=>by cases h.1|.ex _ _,h=>by cases h.1|.rt _,h=>by cases h.1|.top _,h=>by rcases h.1 with h|h<;>cases h|.no,h=>h
section
variable {P:Program}{ρ τ β:Type}{X:Cx}{Qf:ρ->St->Tr}
abbrev Xo (Qf:ρ->St->Tr):ρ->St->Prop:=λr σ=>(Qf r σ).den
def bn4 {v:τ}{c:Cg ρ}{o:τ->Out ρ}(h:(aw9 Qf c<|o v).den):Ae X (Xo Qf) c (some v) λv e σ'=>(o v).den (Xo Qf) e σ':=by unfold aw9 at h;split at h;rename_i a;exact w6.leaf (by rw[a];exact⟨rfl,SZ h⟩);rename_i a;exact w6.leaf (by rw[a];exact⟨.inr rfl,h⟩);rename_i a;exact w6.ret (by rw[a];exact⟨rfl,h⟩);rename_i a;exact w6.ret (by rw[a];exact⟨.inl rfl,h⟩);rename_i id σ id' σ₁ a;cases f:cV4 id id'<;>rw[f]at h;exact h.elim;have:=bD f;subst this;exact M8.Eu rfl (by rw[a];exact⟨rfl,SZ h⟩);rename_i a;intro v' b σ' d;cases b;have:=V.eq h;subst this;rw[a];exact⟨rfl,d⟩;rename_i a;intro v' b σ' d;cases b;have:=V.eq h;subst this;rw[a];exact⟨.inl rfl,d⟩;exact h.elim
def RX {ks:List K}{σ σ':St}{e:Exit}{m:Option τ}{Q:τ->Exit->St->Prop}{s:Sh ρ}(c:(ao8 σ s).den (Xo Qf) e σ')(h:Ae X (Xo Qf) (cont ks σ s) m Q):M8 X ks e σ' m Q:=by cases s with|nx l=>obtain⟨rfl,b⟩:=c;exact M8.sub b h|ex id l=>obtain⟨rfl,b⟩:=c;unfold cont at h;simp at h;split at h;rename_i hp;exact M8.exit hp<|M8.sub b h;rename_i hp;intro r f a w d;exact fK hp<|h r f a w<|d.sub b|rt r=>obtain⟨rfl,g⟩:=c;intro v i a w d;exact EV ks ⟨σ',d,h v i σ' g⟩
def aP4 {σ σ':St}{e:Exit}{s:Sh ρ}(h:(bU3 σ s).den (Xo Qf) e σ'):e≠.normal/\(ao8 σ s).den (Xo Qf) e σ':=by cases s with|nx l=>exact h.elim|ex id l=>obtain⟨rfl,a⟩:=h;exact⟨sq,rfl,a⟩|rt r=>obtain⟨rfl,a⟩:=h;exact⟨sq,rfl,a⟩
def cl8 {o:Out ρ}{e:Exit}{σ':St}(h:(cl7 o).den (Xo Qf) e σ'):e≠.normal/\o.den (Xo Qf) e σ':=by cases o with|nx l=>exact h.elim|ex id l=>exact⟨by rw[h.1];simp,h⟩|rt r=>exact⟨by rw[h.1];simp,h⟩|top r=>exact h.elim|no=>exact h.elim
def Out.calm {σ:St}:∀(o:Out ρ),(∀ch,¬o.den (Xo Qf) (.panic ch) σ)/\¬o.den (Xo Qf) .outgrown σ|.nx _=>⟨(λ_ h=>by cases h.1),λh=>by cases h.1⟩|.ex _ _=>⟨(λ_ h=>by cases h.1),λh=>by cases h.1⟩|.rt _=>⟨(λ_ h=>by cases h.1),λh=>by cases h.1⟩|.top _=>⟨(λ_ h=>by rcases h.1 with h|h<;>cases h),λh=>by rcases h.1 with h|h<;>cases h⟩|.no=>⟨λ_ h=>h,λh=>h⟩
def bo2 {id:Nat}:∀{ks:List K},noE ks=true->FY id ks=none|[],_=>rfl|.c _::r,h=>bo2 (ks:=r) h|.e _::_,h=>by cases h
def cj5 {all:List Oper}{tm:J4}{ops g r:List Oper}{d q:Nat}{b:Bool}(h:cj4 all tm ops=some (d,b,g,q,r)):look tm d=some (.t<|.v<|.bool b)/\ops=g++r:=by
 unfold cj4 at h;split at h<;>try grind
 grind [ba6]
def o0.grp {ks:List K}{m₁ m₂:Option Bool}{k:Bool->Option τ}{Q:τ->Exit->St->Prop}{all:Array Oper}{tm:J4}{hp:F1}{ops g r:List Oper}{d q:Nat}{b:Bool}{σ₁:Bool->St}(a:cj4 all.toList tm ops=some (d,b,g,q,r))(c:o0 X all g [] ⟨(d,.t<|.v<|.bool true)::tm,hp⟩ m₁ λv e σ'=>e=.normal/\Sub (σ₁ v) σ')(f:o0 X all g [] ⟨(d,.t<|.v<|.bool false)::tm,hp⟩ m₂ λv e σ'=>e=.normal/\Sub (σ₁ v) σ')(h:∀v,o0 X all r ks (σ₁ v) (k v) Q):o0 X all ops ks ⟨tm,hp⟩ ((bif b then m₁ else m₂).bind k) Q:=by obtain⟨i,rfl⟩:=cj5 a;refine o0.bind g.length σ₁ ?_ λv _=>?_;all_goals grind [o0.split]
def aT4 {α:Type}{enc:α->List Tree}{r:List α}{sz:Nat}{hp:F1}{x:Option T}(h:(aq7 enc r sz hp x).den):∃m,x=some (.t<|.sl m<|r.map enc)\/∃a e',x=some (.own a)/\look hp a=some (.rows e' sz m<|r.map enc):=by unfold aq7 at h;split at h;have:=V.eq h;simp_all;split at h;rename_i e s2 n rs b;cases hz:cV4 s2 sz<;>rw[hz]at h;exact h.elim;have:=bD hz;have:=V.eq h;grind;exact h.elim;exact h.elim
def GF.as {α:Type}{enc:α->List Tree}{l:List α}{i:Int}:∀{f:GF},V.gf ⟨f.enc,f.l,f.i⟩=V.gf ⟨enc,l,i⟩->∃y:α,f=⟨enc,l,i,y⟩|⟨fe,fl,fi,a⟩,h=>by cases h;simp
def fT {b:Bool}{x:Tr}(h:(bif b then x else .bad).den):b=true/\x.den:=by cases b;exact h.elim;grind
def U1.known {Γ:List GF}(b:∀f∈Γ,f.ok):∀{τ:Type}{u:U1 τ}{y:τ},u.m=some y->∀f∈u.k y Γ,f.ok|_,.ap _ _ _ _,y,h,f,a=>b f a|_,.an _ _ _ _,y,h,f,a=>b f a|_,.st enc l i z n,y,h,f,a=>by rcases cV6.1 a with rfl|a;exact bY0 h;grind|_,.sF _ _ _ _,y,h,f,a=>b f a|_,.sO _ _ _ _,y,h,f,a=>b f a|_,.cp _ _ _,y,h,f,a=>b f a
def bo7 {nt:Nat}{d:Option Nat}{t:T}{tm tm':J4}{h:F1}(hp:F1)(hx:Gb nt d t ⟨tm,[]⟩=some ⟨tm',h⟩):Gb nt d t ⟨tm,hp⟩=some ⟨tm',hp⟩:=by unfold Gb at hx|-;grind
theorem U1.ok {all:Array Oper}{kb:List Nat}{ks:List K}{Γ:List GF}(hΓ:∀f∈Γ,f.ok){tm:J4}{hp:F1}{o:Oper}{rest:List Oper}{Q:τ->Exit->St->Prop}(P:gk all.toList kb tm o.guard=some true):∀{β:Type}{u:U1 β}{t:Tr}{σ:β->St}{k:β->Option τ},u.q X.tab X.nt Γ tm hp o=some (t,σ)->t.den->(∀y,u.m=some y->o0 X all rest ks (σ y) (k y) Q)->o0 X all (o::rest) ks ⟨tm,hp⟩ (u.m.bind k) Q
 |_,.ap (α:=α) enc l r id,t,σ,k,h,ht,J=>by
  simp only[U1.q]at h;split at h<;>try cases h;done
  rename_i args A d C L;split at h<;>try cases h;done
  rename_i s x M T R D;split at h<;>try cases h;done
  rename_i s0 e z0 c;split at h<;>try cases h;done
  rename_i B g;cases w:cV4 M T&&Y3 d X.nt&&cV4 B.zero.length B.size&&Y3 id vJ&&F6 id (fgT id<|vA [] tm)&&E8 id (fgH id hp)&&uniq hp<;>rw[w]at h<;>simp only[cT9,cT8,reduceCtorEq,AI,cz4]at h;obtain⟨rfl,rfl⟩:=h;simp only[BY]at w;obtain⟨⟨⟨⟨⟨⟨c1,c2⟩,S⟩,c4⟩,c5⟩,c6⟩,c7⟩:=w;have:=bD c1;subst this;obtain⟨h1,j,I,E⟩:=ht;have h1:=V.eq h1;have j:=V.eq j;have R:args=#[s,x]:=by cases args;simp_all
  have D:A=#[M,M]:=by cases A;simp_all
  subst R D;obtain⟨m,hx⟩:=aT4 I;have N:∃n,val tm s=some (.own id)/\look hp id=some (.rows e B.size n<|l.map enc)\/val tm s=some (.t<|.v<|.slice none 0 0)/\l=[]:=by
   split at E
   ·rename_i i U;split at E
    ·rename_i e' sz n rs O;cases hq:cV4 i id&&cV4 e' e&&cV4 sz B.size<;>rw[hq]at E;·exact E.elim
     ·simp only[BY]at hq;have q1:=bD hq.1.1;have q2:=bD hq.1.2;have q3:=bD hq.2;subst q1 q2 q3;have:=V.eq E;subst this;exact⟨n,.inl ⟨U,O⟩⟩
    ·exact E.elim
   ·rename_i U;have:=V.eq E;subst this;exact⟨0,.inr ⟨U,rfl⟩⟩
   ·exact E.elim
  obtain⟨n,N⟩:=N;have hen:∀y,(enc y).length=B.size:=λy=>congrFun h1 y;have hon:∀y,(enc y).all oK=true:=λy=>congrFun j y;show o0 X all _ ks _ ((G2 l r).bind k) Q;cases hm:G2 l r with|none=>exact o0.fail|some y=>
   have hy:y=l++r:=by
    unfold G2 at hm;split at hm;·exact(Option.some.inj hm).symm
    ·cases hm
   subst hy;have hk:=J (l++r) hm;rw[<-hm];rcases hx with hx|⟨i2,e',W,Z⟩;·exact o0.append (e':=0) C L c2 (jR P) c g (bD S) hen hon N (.inl hx) (av9 c7) c4 c5 c6 hk
   ·exact o0.append C L c2 (jR P) c g (bD S) hen hon N (.inr ⟨i2,W,Z⟩) (av9 c7) c4 c5 c6 hk
 |_,.an enc n z id,t,σ,k,h,ht,J=>by
  simp only[U1.q]at h;split at h<;>try cases h;done
  rename_i args A d C L;split at h<;>try cases h;done
  rename_i s x M u R D;split at h<;>try cases h;done
  rename_i s0 e z0 s1 kk z1 ik n' c htu N hx;split at h<;>try cases h;done
  rename_i B g;cases w:Y3 d X.nt&&cV4 B.zero.length B.size&&Y3 0 B.size&&Y3 id vJ&&F6 id tm&&E8 id hp<;>rw[w]at h<;>simp only[cT9,cT8,reduceCtorEq,AI,cz4]at h;obtain⟨rfl,rfl⟩:=h;simp only[BY]at w;obtain⟨⟨⟨⟨⟨c1,c2⟩,S⟩,c4⟩,c5⟩,c6⟩:=w;have h1:=V.eq ht.1;have j:=V.eq ht.2;subst h1;have R:args=#[s,x]:=by cases args;simp_all
  have D:A=#[M,u]:=by cases A;simp_all
  subst R D;exact o0.ce7 id z C L c1 (jR P) N hx c htu g (bD c2) S j c4 c5 c6 J|_,.st enc l i y n,t,σ,k,h,ht,J=>by
  simp only[U1.q]at h;split at h<;>try cases h;done
  rename_i M p x f C L hf;split at h<;>try cases h;done
  rename_i id i' sz off ti cs hp1 hti hx;split at h<;>try cases h;done
  rename_i e sz' n' rs lt D htr;cases w:cV4 sz sz'&&cV4 lt.length ti.size&&dc6 (off+lt.length) sz<;>rw[w]at h<;>simp only[cT9,cT8,reduceCtorEq,AI,cz4]at h;obtain⟨rfl,rfl⟩:=h;simp only[BY]at w;obtain⟨⟨c1,c2⟩,S⟩:=w;have:=bD c1;subst this;obtain⟨h1,j,I⟩:=ht;have hfo:=hΓ f<|List.mem_of_getElem? hf;obtain⟨fy,rfl⟩:=GF.as h1;have j:=V.eq j;have I:=V.eq I;simp only[cz4]at j;obtain⟨rfl,rfl⟩:=j;cases hv:val tm x with|none=>simp[hv]at hx|some vx=>simp only[hv,oq]at hx;exact o0.bh2 y lt hfo C L (jR P) hp1 D hti hv hx (Td htr) c2 S I J
 |_,.sF enc l a b,t,σ,k,h,ht,J=>by
  simp only[U1.q]at h;split at h<;>try cases h;done
  rename_i M x lo hi d C L;split at h<;>try cases h;done
  rename_i s0 e z0 n rs a' b' c hx hlo hhi;split at h<;>try cases h;done
  rename_i B g;cases w:Y3 d X.nt<;>rw[w]at h<;>simp only[cT9,cT8,reduceCtorEq,AI,cz4]at h;obtain⟨rfl,rfl⟩:=h;obtain⟨h1,j,I⟩:=ht;have h1:=V.eq h1;have j:=V.eq j;have I:=V.eq I;simp only[cz4]at j;obtain⟨rfl,rfl⟩:=j;subst h1;exact o0.bY5 C L w (jR P) hx c g (λy=>congrFun I y) hlo hhi J|_,.sO enc l b id,t,σ,k,h,ht,J=>by
  simp only[U1.q]at h;split at h<;>try cases h;done
  rename_i M x hi d C L;split at h<;>try cases h;done
  rename_i s0 e' z0 i b' c hx hhi;split at h<;>try cases h;done
  rename_i B e sz n rs g D;cases w:Y3 d X.nt&&cV4 B.size sz&&Y3 id vJ&&F6 id (fgT i<|vA [] tm)&&E8 id (fgH i hp)&&E8 i (fgH i hp)&&uniq hp<;>rw[w]at h<;>simp only[cT9,cT8,reduceCtorEq,AI,cz4]at h;obtain⟨rfl,rfl⟩:=h;simp only[BY]at w;obtain⟨⟨⟨⟨⟨⟨c1,c2⟩,S⟩,c4⟩,c5⟩,c6⟩,c7⟩:=w;have h1:=V.eq ht.1;have j:=V.eq ht.2;subst h1 j;exact o0.bY6 C L c1 (jR P) hx D c g hhi (av9 c7) S c4 c5 c6 J|_,.cp enc l r,t,σ,k,h,ht,J=>by
  simp only[U1.q]at h;split at h<;>try cases h;done
  rename_i args A C;split at h<;>try cases h;done
  rename_i s x M T R D;split at h<;>try cases h;done
  rename_i s0 e' z0 id tm' hp0 c N aT;split at h<;>try cases h;done
  rename_i B e sz n rs g O;cases w:cV4 sz B.size<;>rw[w]at h<;>simp only[cT9,cT8,reduceCtorEq,AI,cz4]at h;obtain⟨rfl,rfl⟩:=h;have:=bD w;subst this;obtain⟨h1,j,I,E⟩:=ht;have h1:=V.eq h1;have j:=V.eq j;have E:=V.eq E;subst E;have R:args=#[s,x]:=by cases args;simp_all
  have D:A=#[M,T]:=by cases A;simp_all
  subst R D;obtain⟨m,hx⟩:=aT4 I;have hk:=J (lN l r) rfl;rcases hx with hx|⟨i2,e2,W,Z⟩;·exact o0.bN6 (e2:=0) C (jR P) c g (λy=>congrFun h1 y) (λy=>congrFun j y) N O (.inl hx) (bo7 _ aT) hk
  ·exact o0.bN6 C (jR P) c g (λy=>congrFun h1 y) (λy=>congrFun j y) N O (.inr ⟨i2,W,Z⟩) (bo7 _ aT) hk
def cj2 {all:List Oper}{kb:List Nat}{tm tm':J4}{g:Option<|Nat×Bool}{b:Bool}(c:more tm tm')(h:gk all kb tm g=some b):gk all kb tm' g=some b:=by cases g with|none=>exact h|some p=>
  simp[gk]at h|-;split at h<;>try cases h
  split at h<;>try cases h
  split at h<;>try cases h;done
  ·rename_i a;rw[c _ _ a];exact h
  ·rename_i a;rw[c _ _ a];exact h
def U1.cI8 {all:Array Oper}{kb:List Nat}{Γ:List GF}(hΓ:∀f∈Γ,f.ok){J3:J4}{ae:F1}{o:Oper}(hg:gk all.toList kb J3 o.guard=some true):∀{β:Type}{u:U1 β}{t:Tr}{f:β->T×Option (Nat×ck)},u.qD X.tab X.nt Γ J3 ae o=some (t,f)->t.den->∀y,u.m=some y->U5 X all o J3 ae (f y).1 (f y).2
 |_,.st enc l i z n,t,f,h,ht,y,P=>by
  simp only[U1.qD]at h;split at h<;>try cases h;done
  rename_i t' σ a;split at h<;>try cases h;done
  rename_i ty p x w hd;split at h<;>try cases h;done
  rename_i id i' sz off hp1;split at h<;>try cases h;done
  rename_i e R n2 rs E;simp only[AI,cz4]at h;obtain⟨rfl,rfl⟩:=h;refine U5.ct5 λtm hp S U=>⟨⟨tm,aT hp id<|.rows e sz y.length<|y.map enc⟩,?_,?_,?_⟩;·intro k u hk;grind [pt]
  ·intro k c hk;rw[YR<|U _ _ E];exact hk
  ·have W:(U1.st enc l i z n).q X.tab X.nt Γ tm hp o=some (t',λl'=>⟨tm,aT hp id<|.rows e sz l'.length<|l'.map enc⟩):=by
    simp only[U1.q]at a|-;split at a<;>try cases a;done
    rename_i t2 p2 x2 g b hd2 hΓn;rw[w]at b;simp only[Op.store.injEq]at b;obtain⟨e1,e2,I⟩:=b;subst e1 e2 I;split at a<;>try cases a;done
    rename_i hp2 Z hx;rw[hp1]at hp2;simp only[AI,T.pe.injEq]at hp2;obtain⟨e1,e2,I,e4⟩:=hp2;subst e1 e2 I e4;split at a<;>try cases a;done
    rename_i j hlt;rw[E]at j;simp only[AI,ck.rows.injEq]at j;obtain⟨e1,e2,I,e4⟩:=j;subst e1 e2 I e4;have hx':∀cs,(val J3 x).bind (cq ae)=some cs->(val tm x).bind (cq hp)=some cs:=λcs A=>by cases hv:val J3 x with|none=>simp[hv]at A|some u=>rw[u6 S hv];rw[hv]at A;exact Eo U A
    simp only[u6 S hp1,Z,hx' _ hx,U _ _ E,hlt];revert a;cases cV4 sz R&&cV4 _ _&&dc6 _ sz<;>intro a<;>simp only[cT9,cT8,reduceCtorEq,AI,cz4]at a|-;exact⟨a.1,trivial⟩
   have:=U1.ok (X:=X) (all:=all) (rest:=[]) (ks:=[]) (k:=λ_=>some ()) (Q:=λ_ e' σ=>e'=.normal/\σ=⟨tm,aT hp id<|.rows e sz y.length<|y.map enc⟩) hΓ (cj2 S hg) W ht (λy' J=>by rw[P]at J;cases J;exact o0.nil<|w6.leaf ⟨rfl,rfl⟩);grind|_,.ap enc l r id,t,f,h,ht,y,P=>by
  simp only[U1.qD,U1.qA]at h;split at h<;>try cases h;done
  rename_i args tys d w hd;split at h<;>try cases h;done
  rename_i s x t1 t2 B K;split at h<;>try cases h;done
  rename_i s0 e z0 hty;split at h<;>try cases h;done
  rename_i N hte;split at h<;>try cases h;done
  rename_i v v' e' sz n rs hs E;cases A:cV4 t1 t2&&Y3 d X.nt&&cV4 N.zero.length N.size&&Y3 id vJ&&cV4 e' e&&cV4 sz N.size<;>rw[A]at h<;>simp only[cT9,cT8,reduceCtorEq,AI,cz4]at h;obtain⟨rfl,rfl⟩:=h;simp only[BY]at A;obtain⟨⟨⟨⟨⟨c1,c2⟩,c3⟩,c4⟩,c5⟩,c6⟩:=A;have c1:=bD c1;have c5:=bD c5;have c6:=bD c6;subst c1 c5 c6;obtain⟨h1,h2,h3,h4,C⟩:=ht;have h1:=V.eq h1;have h2:=V.eq h2;have h3:=V.eq h3;have h4:=V.eq h4;subst h1 h2;have L:o.op=.call ⟨.builtin .append,#[s,x],#[t1,t1]⟩:=by
   rw[w];congr 2;·exact Array.ext' B
   ·exact Array.ext' K
  obtain⟨m',D,M⟩:∃m' D,val J3 x=some (.t<|.sl m'<|r.map enc)\/∃O,val J3 x=some (.own O)/\look ae O=some (.rows D N.size m'<|r.map enc):=by
   unfold aq7 at C;split at C<;>try exact C.elim
   ·rename_i n1 rs1 hx;have:=V.eq C;subst this;exact⟨_,0,.inl hx⟩
   ·rename_i O hx;split at C<;>try exact C.elim
    rename_i e1 s2 n1 rs1 j;obtain⟨g1,g2⟩:=fT C;have g1:=bD g1;have:=V.eq g2;subst this g1;exact⟨_,_,.inr ⟨O,hx,j⟩⟩
  exact U5.append (e':=D) hg L hd hty hte (bD c3) (λy=>congrFun h3 y) (λy=>congrFun h4 y) hs E M c4 P|_,.an ..,t,f,h,_,_,_=>by simp[U1.qD]at h|_,.sF ..,t,f,h,_,_,_=>by simp[U1.qD]at h|_,.sO ..,t,f,h,_,_,_=>by simp[U1.qD]at h|_,.cp ..,t,f,h,_,_,_=>by simp[U1.qD]at h
def bu5 {tm:J4}{hp:F1}{o:Oper}{n d:Nat}{l:List T}{s:Bool}(h:Yb tm hp o=some (n,l,s,d)):o.dst=some d:=by grind [Yb]
def bu6 {tm:J4}{hp:F1}{o:Oper}{n d:Nat}{l:List T}{s:Bool}(h:Yb tm hp o=some (n,l,s,d)):rM o.op=false:=by
 unfold Yb at h;split at h<;>try cases h
 rename_i a _;unfold Yc at a;split at a<;>try cases a
 rename_i b;rw[b];rfl
theorem L1.bo8 {tab:vH}{tm:J4}{hp:F1}{o:Op}{r:Tr×(β->T)}:∀{l:L1 β},l.q tab tm hp o=some r->rM o=false:=by intro l h;cases l<;>simp[L1.q]at h<;>split at h<;>first|cases h|rfl
theorem W1.bo8 {P:Program}{Ev:EqV P}{tab:vH}{Γ:List GF}{tm:J4}{hp:F1}{o:Op}{r:Tr×T}:∀{u:W1},u.q Ev tab Γ tm hp o=some r->rM o=false
 |.hx n,h=>by simp[W1.q]at h;grind [L1.bo8]|.ly n,h=>by
  simp[W1.q]at h;split at h<;>try cases h
  rfl|.eq,h=>by
  simp[W1.q]at h;split at h<;>try cases h
  rfl|.cn,h=>by
  simp[W1.q]at h;split at h<;>try cases h
  rfl|.sn,h=>by
  simp[W1.q]at h;split at h<;>try cases h
  rfl
theorem M.ok {Ev:EqV X.P}(hmx:X.P.follows .mixedOrders=true):∀{τ:Type}(x:M X.P ρ τ)(Γ:List GF)(c:Cg ρ)(o:τ->Out ρ),(∀f∈Γ,f.ok)->(x.nz Ev X.tab X.nt Qf Γ c o).den->Ae X (Xo Qf) c x.run λv e σ'=>(o v).den (Xo Qf) e σ'
 |_,.R v,Γ,c,o,p,h=>by simp only[M.nz]at h;exact nD hmx (λr l σ=>Out.never _) true true _ c<|bn4 h|_,.N,Γ,c,o,p,h=>by cases c with|S ks σ=>exact w6.fail|O all kb ops ks σ=>exact o0.fail|D=>exact λ_ _ _=>w6.fail|X id σ=>exact λr hr=>by cases hr|R r=>exact λv hv=>by cases hv
 |_,.I b x y,Γ,c,o,p,h=>by
  simp only[M.nz]at h;refine nD hmx (λr l σ=>Out.never _) true true fuel c ?_;split at h<;>try exact h.elim
  rename_i q z w ks σ C;rw[C];split at h<;>try exact h.elim
  rename_i b' hv;obtain⟨h1,Q,h3⟩:=h;have h1:=V.eq h1;subst h1;exact w6.cond hv (M.ok hmx x Γ _ o p Q)<|M.ok hmx y Γ _ o p h3|_,.K f x,Γ,c,o,p,h=>by
  simp only[M.nz]at h;refine nD hmx (λr l σ=>Out.never _) true true fuel c ?_;split at h<;>try exact h.elim
  rename_i all kb q tm hp fz nx C;split at h<;>try exact h.elim
  rename_i n l s d hg hq;obtain⟨T,h1,Q,h3⟩:=fT h;have h5:=V.eq h1;simp only[cz4]at h5;obtain⟨h6,rfl⟩:=h5;refine Ae.pre λt ht=>?_;have E:q.dst=some d:=bu5 hq;have hnew:rM q.op=false:=bu6 hq;exact IG C (U5.call ht hg hq (by rw[h6];exact f.ok) λhs=>by subst hs;exact congrFun (V.eq Q) t) λd' hd'=>by grind (.Dd hnew)<|M.ok hmx (x t) Γ _ o p<|h3 t|_,.KG f nm x,Γ,c,o,p,h=>by
  simp only[M.nz]at h;refine nD hmx (λr l σ=>Out.never _) true true fuel c ?_;split at h<;>try exact h.elim
  ·rename_i all kb q r ks tm hp C;rw[C];split at h<;>try exact h.elim
   rename_i n targs d hg hq E;generalize bn5 f.args f.hp targs hp=lm at h;split at h<;>try exact h.elim
   rename_i bQ sC hr1 hr2;obtain⟨T,h1,Q,h3⟩:=fT h;simp only[BY]at T;have h1:=V.eq h1;have Q:=V.eq Q;have hn:=bD T.1.1;subst hn;have key:∀t,∃rt rh,oN (lm++bi7 f.nw nm) (f.res t)=some rt/\sE (lm++bi7 f.nw nm) (f.L9 t)=some rh/\((x t).nz Ev X.tab X.nt Qf Γ (.O all kb r ks ⟨(d,rt)::tm,rh++dC lm hp⟩) o).den:=λt=>by
    have h4:=h3 t;dsimp only at h4;split at h4;·rename_i rt rh e1 e2;exact⟨rt,rh,e1,e2,h4⟩
    ·exact h4.elim
   refine o0.g (rres:=λt=>(key t).choose) (rhp:=λt=>(key t).choose_spec.choose) lm (bi7 f.nw nm) f.ok (targs:=targs) (bQ:=bQ) (sC:=sC) (d:=d) (hp2:=dC lm hp) ?_ h1 Q (λt=>(key t).choose_spec.choose_spec.1) (λt=>(key t).choose_spec.choose_spec.2.1) λt ht=>M.ok hmx (x t) Γ _ o p (key t).choose_spec.choose_spec.2.2;unfold aJ0;rw[jR hg];simp only[hq,hr1,hr2,E,T.2,T.1.2,dd8,cT9]
  ·rename_i id all0 h0 bs ws ops vs tm0 hp0 fz kb0 ks C;rw[C];split at h<;>try exact h.elim
   rename_i all kb q tm hp fz' nx hh;split at h<;>try exact h.elim
   rename_i n targs d hg hq E;split at h
   ·rename_i c;split at h<;>try exact h.elim
    ·rename_i hhp;split at h<;>try exact h.elim
     rename_i bQ hr1;obtain⟨T,h1,h3⟩:=fT h;simp only[BY]at T;have h1:=V.eq h1;have hn:=bD T.1.1;subst hn;refine Ae.pre λt ht=>?_;have h4:=h3 t;dsimp only at h4;split at h4<;>try exact h4.elim
     rename_i r1 e2 sz2 n2 rs2 hr2;split at h4<;>try exact h4.elim
     rename_i rt hr3;have hok:=f.ok;rw[hhp]at hok;exact Kv hh (U5.cF9 ht hok hg hq E T.1.2 T.2 hr1 h1 hr3 hr2)<|M.ok hmx (x t) Γ _ o p h4
    ·rename_i b1 e sz n1 rs v' e' sz' n1' rs' hhp hlk;obtain⟨T,h1,Q,h3⟩:=fT h;simp only[BY]at T;have h1:=V.eq h1;have Q:=V.eq Q;simp only[cz4]at Q;obtain⟨rfl,rfl,rfl,rfl⟩:=Q;have hn:=bD T.1.1.1;subst hn;refine Ae.pre λt ht=>?_;have h4:=h3 t;dsimp only at h4;split at h4<;>try exact h4.elim
     rename_i r1 e2 sz2 n2 rs2 hr2;split at h4<;>try exact h4.elim
     rename_i rt hr1;have hok:=f.ok;rw[hhp]at hok;exact Kv hh (U5.cG0 ht hok hg hq E hlk T.1.2 h1 T.2 hr1 hr2)<|M.ok hmx (x t) Γ _ o p h4
   generalize bn5 f.args f.hp targs hp=lm at h;split at h<;>try exact h.elim
   rename_i bQ sC hr1 hr2;obtain⟨T,h1,Q,h3⟩:=fT h;simp only[BY]at T;have h1:=V.eq h1;have Q:=V.eq Q;have hn:=bD T.1.1.1;subst hn;refine Ae.pre λt ht=>?_;obtain⟨h4,h5⟩:=h3 t;have h4:=V.eq h4;split at h5<;>try exact h5.elim
   rename_i rt hrt;exact Kv hh (U5.cG1 lm ht f.ok hg hq E T.1.1.2 hr1 h1 hr2 Q T.1.2 T.2 hrt h4)<|M.ok hmx (x t) Γ _ o p h5|_,.O l x,Γ,c,o,p,h=>by
  simp only[M.nz]at h;refine nD hmx (λr l σ=>Out.never _) true true fuel c ?_;split at h<;>try exact h.elim
  rename_i all kb q tm hp fz nx C;split at h<;>try exact h.elim
  rename_i t res d hg hq E;obtain⟨T,h1,Q⟩:=fT h;refine Ae.pre λy hy=>?_;exact IG C (U5.one hg hq h1 hy) (λd' hd'=>by rw[E]at hd';cases hd';exact T) (.Dd<|L1.bo8 hq)<|M.ok hmx (x y) _ _ o (L1.known p hy)<|Q y|_,.W u x,Γ,c,o,p,h=>by
  simp only[M.nz]at h;refine nD hmx (λr l σ=>Out.never _) true true fuel c ?_;split at h<;>try exact h.elim
  rename_i all kb q tm hp fz nx C;split at h<;>try exact h.elim
  rename_i t V d hg hq E;obtain⟨T,h1,Q⟩:=fT h;exact IG C (U5.known p hg hq h1) (λd' hd'=>by rw[E]at hd';cases hd';exact T) (.Dd<|W1.bo8 hq)<|M.ok hmx x _ _ o p Q|_,.U u x,Γ,c,o,p,h=>by
  simp only[M.nz]at h;refine nD hmx (λr l σ=>Out.never _) true true fuel c ?_;split at h<;>try exact h.elim
  ·rename_i all kb q r ks tm hp C;rw[C];split at h<;>try exact h.elim
   rename_i t σ hg hq;exact U1.ok p hg hq h.1 λy hy=>M.ok hmx (x y) _ (.O all kb r ks<|σ y) o (U1.known p hy)<|h.2 y
  ·rename_i id all h0 bs ws ops vs tm0 hp0 fz kb ks C;rw[C];split at h<;>try exact h.elim
   rename_i all' kb' q tm hp fz' nx hh;split at h<;>try exact h.elim
   rename_i t f hg hq;refine Ae.pre λy hy=>?_;exact Kv hh (U1.cI8 (all:=all') p hg hq h.1 y hy)<|M.ok hmx (x y) _ _ o (U1.known p hy)<|h.2 y|_,.Mk enc n z x,Γ,c,o,p,h=>by
  simp only[M.nz]at h;refine nD hmx (λr l σ=>Out.never _) true true fuel c ?_;split at h<;>try exact h.elim
  rename_i all kb q tm hp fz nx C;split at h<;>try exact h.elim
  rename_i t a b d hg hop E;split at h<;>try exact h.elim
  rename_i k1 n1 k2 n2 s0 e z0 hx hy hty;split at h<;>try exact h.elim
  rename_i te hte;obtain⟨T,h1,Q,h3⟩:=fT h;simp only[BY]at T;obtain⟨⟨⟨⟨⟨c1,c2⟩,c3⟩,c4⟩,c5⟩,c6⟩:=T;have h1:=V.eq h1;have Q:=V.eq Q;simp only[cz4]at h1;obtain⟨rfl,rfl,rfl⟩:=h1;refine Ae.pre λy hy'=>?_;have hs:=U5.mk (ae:=hp) hy' hop E hg hx hy hty hte (bD c2) c3 Q c4;have hnew:rM q.op=true:=by rw[hop];rfl
  have h4:=h3 y;have hdd:∀d',q.dst=some d'->Y3 d' X.nt=true:=λd' hd'=>by rw[E]at hd';cases hd';exact c1
  have hff:∀N,Rp q N tm hp:=λN=>⟨λ_ d' hd'=>by rw[E]at hd';cases hd';rw[c5,c6];rfl,λid h'=>by rw[aF2 hnew]at h';cases h'⟩;cases hz:fL d fz<;>rw[hz]at h4;·exact IG C hs hdd (hff _)<|M.ok hmx (x y) Γ _ o p h4
  ·exact IG C (hs.frz hnew E) hdd (hff _)<|M.ok hmx (x y) Γ _ o p h4|_,.Z z x,Γ,c,o,p,h=>by
  simp only[M.nz]at h;refine nD hmx (λr l σ=>Out.never _) (!x.isJ) (!x.isD) z.fu c ?_;split at h<;>try exact h.elim
  ·rename_i ks tm hp C;rw[C];split at h<;>try exact h.elim
   rename_i σ hz;exact Z1.bI6 hz<|M.ok hmx x Γ (.S ks σ) o p h
  ·rename_i all kb ops ks tm hp C;rw[C];split at h<;>try exact h.elim
   rename_i σ hz;exact o0.via (λk=>Z1.bI6 hz k)<|M.ok hmx x Γ (.O all kb ops ks σ) o p h
  ·rename_i id tm hp C;rw[C];split at h<;>try exact h.elim
   rename_i σ hz;exact Z1.bI6 hz<|M.ok hmx x Γ (.X id σ) o p h|_,.G b x y f,Γ,c,o,p,h=>by
  simp only[M.nz]at h;refine nD hmx (λr l σ=>Out.never _) true true fuel c ?_;split at h<;>try exact h.elim
  rename_i all kb ops ks tm hp C;rw[C];split at h<;>try exact h.elim
  rename_i d b' g q r hg;obtain⟨h1,Q,h3,h4⟩:=h;have h1:=V.eq h1;subst h1;exact o0.grp hg (M.ok hmx x Γ _ _ p Q) (M.ok hmx y Γ _ _ p h3) λv=>M.ok hmx (f v) Γ _ o p<|h4 v|_,.J0 n s x f,Γ,c,o,p,h=>by
  have key:∀c':Cg ρ,(match c' with|.S (.c z::ks) σ=>Tr.and (x.nz Ev X.tab X.nt Qf Γ (.S [.c z] σ) λv=>.nx<|Ri (s v) ⟨vA (V5 z) σ.tm,σ.hp⟩)<|.all λv=>(f v).nz Ev X.tab X.nt Qf Γ (.S ks<|Ri (s v) ⟨vA (V5 z) σ.tm,σ.hp⟩) o|_=>Tr.bad).den->Ae X (Xo Qf) c' (M.run<|.J0 n s x f) λv e σ'=>(o v).den (Xo Qf) e σ':=by
   intro c' h;split at h<;>try exact h.elim
   rename_i z ks σ;refine w6.bind (Q₁:=λv e σ'=>(Out.nx<|Ri (s v) ⟨vA (V5 z) σ.tm,σ.hp⟩).den (Xo Qf) e σ') (M.ok hmx x Γ (.S [.c z] σ) _ p h.1) λv e σ' _ E=>?_;obtain⟨rfl,hs⟩:=E;exact M8.sub hs<|M.ok hmx (f v) Γ (.S ks _) o p<|h.2 v
  cases n with|zero=>rw[M.nz]at h;exact nD hmx (λr l σ=>Out.never _) false true fuel c<|key _ h|succ n=>
   rw[M.nz]at h;·exact nD hmx (λr l σ=>Out.never _) true false fuel c<|key _ h
   ·exact λh=>by cases h
 |_,.J n s k x f g,Γ,c,o,p,h=>by
  have key:∀c':Cg ρ,(match c' with|.S (.c z::ks) σ=>Tr.and (x.nz Ev X.tab X.nt Qf Γ (.S [.c z] σ) λv=>match v with|.inl v=>.nx<|Ri (s v) ⟨vA (V5 z) σ.tm,σ.hp⟩|.inr w=>ao8 ⟨vA (V5 z) σ.tm,σ.hp⟩<|k.sh w)<|.and (.all λv=>(f v).nz Ev X.tab X.nt Qf Γ (.S ks<|Ri (s v) ⟨vA (V5 z) σ.tm,σ.hp⟩) o)<|k.all λw sh=>(g w).nz Ev X.tab X.nt Qf Γ (cont ks ⟨vA (V5 z) σ.tm,σ.hp⟩ sh) o|_=>Tr.bad).den->Ae X (Xo Qf) c' (M.run<|.J n s k x f g) λv e σ'=>(o v).den (Xo Qf) e σ':=by
   intro c' h;split at h<;>try exact h.elim
   rename_i z ks σ;rw[M.run];refine w6.bind (M.ok hmx x Γ (.S [.c z] σ) _ p h.1) λv e σ' _ E=>?_;cases v with|inl v=>obtain⟨rfl,hs⟩:=E;exact M8.sub hs<|M.ok hmx (f v) Γ (.S ks _) o p<|h.2.1 v|inr w=>exact RX E<|M.ok hmx (g w) Γ _ o p<|Kd.aX3 h.2.2 w
  cases n with|zero=>rw[M.nz]at h;exact nD hmx (λr l σ=>Out.never _) false true fuel c<|key _ h|succ n=>
   rw[M.nz]at h;·exact nD hmx (λr l σ=>Out.never _) true true (n+1) c<|key _ h
   ·exact λh=>by cases h
 |_,.JF n s x i,Γ,c,o,p,h=>by
  rw[M.nz]at h;refine nD hmx (λr l σ=>Out.never _) true true n c ?_;split at h<;>try exact h.elim
  rename_i z ks σ C;rw[C];obtain⟨hne,h1,Q⟩:=fT h;have out:∀(v:_)(e:Exit)(σ':St),(cl7<|o v).den (Xo Qf) e σ'->M8 X ks e σ' (some v) λv e σ'=>(o v).den (Xo Qf) e σ':=λv e σ' E=>by obtain⟨hn,E⟩:=cl8 E;intro r hr a w hw;cases hr;cases e with|normal=>exact absurd rfl hn|exit id=>exact fK (bo2 hne) ⟨σ',hw,E⟩|ret=>exact EV ks ⟨σ',hw,E⟩|goto l=>exact absurd E<|Out.never _|panic ch=>exact absurd E<|(Out.calm _).1 ch|outgrown=>exact absurd E (Out.calm _).2
  refine w6.bind (M.ok hmx x Γ (.S [.c z] σ) _ p h1) λv e σ' _ E=>?_;cases v with|next v=>obtain⟨rfl,hs⟩:=E;exact M8.sub hs<|nD (c:=.S ks _) hmx (λr l σ=>Out.never _) true true fuel<|bn4<|Q v|brk v=>exact out _ e σ' E|ret w=>exact out _ e σ' E
 |_,.L (S:=S) (γ:=γ) E nx k x s₀ f g,Γ,c,o,p,h=>by
  rw[M.nz]at h;refine nD hmx (λr l σ=>Out.never _) true true fuel c ?_;split at h<;>try exact h.elim
  rename_i z ks σ C;rw[C];obtain⟨h1,Q,h3,h4⟩:=h;rw[M.run];refine w6.loop (S:=S) (B:=S⊕γ) (λa=>Ri (E a) ⟨vA (V5 z) σ.tm,σ.hp⟩) (λ(b:S⊕γ)e σ'=>match b with|.inl a'=>(Out.ex nx<|Ri (E a') ⟨vA (V5 z) σ.tm,σ.hp⟩).den (Xo Qf) e σ'|.inr w=>(ao8 ⟨vA (V5 z) σ.tm,σ.hp⟩<|k.sh w).den (Xo Qf) e σ') (SZ h1) (λa=>?_) λb e σ' _ hq=>?_;·have:=M.ok hmx (x a) Γ (.S [.c z]<|Ri (E a) ⟨vA (V5 z) σ.tm,σ.hp⟩) _ p<|Q a;refine λr hr a w hw=>nL (λe a w hp=>?_) _ _ _ _<|this r hr a w hw;obtain⟨σ',hs,hq⟩:=hp;refine⟨σ',hs,?_⟩;cases r with|inl s'=>exact hq|inr b=>cases b with|inl s'=>obtain⟨rfl,hs⟩:=hq;exact⟨sq,rfl,hs⟩|inr w=>exact aP4 hq
  ·cases b with|inl a=>exact RX (s:=.ex nx<|E a) hq<|M.ok hmx (f a) Γ _ o p<|h3 a|inr w=>exact RX hq<|M.ok hmx (g w) Γ _ o p<|Kd.aX3 h4 w
 |_,.LQ (S:=S) (γ:=γ) ri E nx k x s₀ f g,Γ,c,o,p,h=>by
  rw[M.nz]at h;refine nD hmx (λr l σ=>Out.never _) true true fuel c ?_;split at h<;>try exact h.elim
  rename_i z ks σ C;rw[C];obtain⟨h1,Q,h3,h4⟩:=h;rw[M.run];refine w6.loop (S:=Int×S) (B:=S⊕γ) (λa=>Ri (.t ri (.t<|Y a.1)::E a.2) ⟨vA (V5 z) σ.tm,σ.hp⟩) (λ(b:S⊕γ)e σ'=>match b with|.inl a'=>(Out.ex nx<|Ri (E a') ⟨vA (V5 z) σ.tm,σ.hp⟩).den (Xo Qf) e σ'|.inr w=>(ao8 ⟨vA (V5 z) σ.tm,σ.hp⟩<|k.sh w).den (Xo Qf) e σ') (SZ h1) (λa=>?_) λb e σ' _ hq=>?_;·have:=M.ok hmx (x a) Γ (.S [.c z]<|Ri (.t ri (.t<|Y a.1)::E a.2) ⟨vA (V5 z) σ.tm,σ.hp⟩) _ p<|Q a;refine λr hr a w hw=>nL (λe a w hp=>?_) _ _ _ _<|this r hr a w hw;obtain⟨σ',hs,hq⟩:=hp;refine⟨σ',hs,?_⟩;cases r with|inl s'=>exact hq|inr b=>cases b with|inl s'=>obtain⟨rfl,hs⟩:=hq;exact⟨sq,rfl,hs⟩|inr w=>exact aP4 hq
  ·cases b with|inl a=>exact RX (s:=.ex nx<|E a) hq<|M.ok hmx (f a) Γ _ o p<|h3 a|inr w=>exact RX hq<|M.ok hmx (g w) Γ _ o p<|Kd.aX3 h4 w
 |_,.A enc l i f,Γ,c,o,p,h=>Ae.pre λy hy=>M.ok hmx (f y) (⟨enc,l,i,y⟩::Γ) c o (λg hg=>by
   rcases cV6.1 hg with rfl|hg;·exact hy
   ·exact p g hg)<|h y|_,.B x,Γ,c,o,p,h=>by
  simp only[M.nz]at h;refine nD hmx (λr l σ=>Out.never _) false true fuel c ?_;split at h<;>try exact h.elim
  rename_i id z ks σ C;rw[C];exact w6.block<|M.ok hmx x Γ _ o p h|_,.D fz ws x,Γ,c,o,p,h=>by
  simp only[M.nz]at h;refine nD hmx (λr l σ=>Out.never _) (!x.isJ) false fuel c ?_;split at h<;>try exact h.elim
  rename_i id ops ks σ C;rw[C];have:=M.ok hmx x Γ _ o p h sq rfl (λi V N o b hi=>by simp at hi);exact λr hr a w hw=>this r hr a w<|hw.Lu (λk t hk=>(Sj hk).2) λk b hk=>hk|_,.Sp b x y,Γ,c,o,p,h=>by
  simp only[M.nz]at h;refine nD hmx (λr l σ=>Out.never _) true true fuel c ?_;split at h<;>try exact h.elim
  ·rename_i id all h0 bs ws q r vs tm0 hp0 fz kb ks hcc;rw[hcc];split at h<;>try exact h.elim
   rename_i j b' C;obtain⟨h1,Q,h3⟩:=h;have h1:=V.eq h1;subst h1;exact cC5 C (M.ok hmx x Γ _ o p Q)<|M.ok hmx y Γ _ o p h3
  ·rename_i all kb q r ks tm hp hcc;rw[hcc];split at h<;>try exact h.elim
   rename_i d b' C;obtain⟨h1,Q,h3⟩:=h;have h1:=V.eq h1;subst h1;exact cp8 C (M.ok hmx x Γ _ o p Q)<|M.ok hmx y Γ _ o p h3|_,.Nl enc l x y,Γ,c,o,p,h=>by
  simp only[M.nz]at h;refine nD hmx (λr l σ=>Out.never _) true true fuel c ?_;split at h<;>try exact h.elim
  rename_i all kb q r ks tm hp C;rw[C];split at h<;>try exact h.elim
  rename_i t z yt d hg ho E;split at h<;>try exact h.elim
  rename_i s0 e z0 n rs hty hz;obtain⟨T,h1,Q,h3,h4⟩:=fT h;have h1:=V.eq h1;subst h1;have Q:=V.eq Q;refine o0.isNil ho E T (jR hg) hty hz λb hbl=>?_;cases b;·exact M.ok hmx (y l) Γ (.O all kb r ks _) o p h4
  ·have hl:=hbl rfl;have e1:M.run (.Nl enc l x y)=x.run:=by rw[M.run,hl,Q]
   rw[e1];exact M.ok hmx x Γ (.O all kb r ks _) o p h3|_,.Pn id x,Γ,c,o,p,h=>by
  simp only[M.nz]at h;refine nD hmx (λr l σ=>Out.never _) (!x.isJ) false fuel c ?_;split at h<;>try exact h.elim
  rename_i ks tm hp C;rw[C];split at h<;>try exact h.elim
  rename_i e sz n rs T;intro r hr a w hw;obtain⟨v,hv⟩:=hw.Rm id T;exact M.ok hmx x Γ _ o p (h v) r hr a w hv|_,.Mm id x,Γ,c,o,p,h=>by
  simp only[M.nz]at h;refine nD hmx (λr l σ=>Out.never _) true true fuel c ?_;split at h<;>try exact h.elim
  rename_i all kb q r ks tm hp C;rw[C];split at h<;>try exact h.elim
  rename_i t d hg ho E;obtain⟨T,h1⟩:=fT h;simp only[BY]at T;exact o0.cy7 id ho E T.1 (jR hg) T.2.1 T.2.2.1 T.2.2.2<|M.ok hmx x Γ (.O all kb r ks _) o p h1|_,.Ml m l k x,Γ,c,o,p,h=>by
  simp only[M.nz]at h;refine nD hmx (λr l σ=>Out.never _) true true fuel c ?_;split at h<;>try exact h.elim
  rename_i all kb q r ks tm hp C;rw[C];split at h<;>try exact h.elim
  rename_i t a b d hg ho E;split at h<;>try exact h.elim
  rename_i id kv ha T;split at h<;>try exact h.elim
  rename_i es hl;obtain⟨hb2,h1,Q⟩:=fT h;have h3:=V.eq h1;simp only[cz4]at h3;obtain⟨e1,e2,e3⟩:=h3;subst e1 e2 e3;letI:=m.beq;exact o0.bT0 m.law ho E hb2 (jR hg) ha hl T m.ht m.hk m.hz<|M.ok hmx x Γ (.O all kb r ks _) o p Q|_,.Mu m l k v x,Γ,c,o,p,h=>by
  simp only[M.nz]at h;refine nD hmx (λr l σ=>Out.never _) true true fuel c ?_;split at h<;>try exact h.elim
  rename_i all kb q r ks tm hp C;rw[C];split at h<;>try exact h.elim
  rename_i t a b u hg ho E;split at h<;>try exact h.elim
  rename_i id kv uv ha T hu;split at h<;>try exact h.elim
  rename_i es hl;obtain⟨h1,Q⟩:=h;have h3:=V.eq h1;simp only[cz4]at h3;obtain⟨e1,e2,e3,e4⟩:=h3;subst e1 e2 e3 e4;letI:=m.beq;exact o0.cb6 m.law ho E (jR hg) ha hl T hu m.ht m.hk<|M.ok hmx x Γ (.O all kb r ks _) o p Q
end
section
variable {P:Program}{ρ:Type}{tab:vH}
def qfF (tab:vH)(rs:List ResultVar)(res:ρ->T)(r:ρ)(σ:St):Tr:=tq (az3 tab σ rs)<|some<|res r
def nmG (t0 r:T)(hp L9:F1):List<|Nat×Nat:=match dd1 (mtT t0 r) []with|l=>match dd1 (boxes hp L9) l with|l=>rest L9 l where boxes (hp:F1):F1->List (Nat×Nat)|[]=>[]|(j,.box us)::r=>(j,j)::(match look hp j with|some<|.box ts=>mtT.mtL ts us|_=>[])++boxes hp r|_::r=>boxes hp r;has2 (j:Nat):List (Nat×Nat)->Bool|[]=>false|p::r=>bif cV4 p.2 j then true else has2 j r;rest:F1->List (Nat×Nat)->List (Nat×Nat)|[],l=>l|(j,_)::r,l=>bif has2 j l then rest r l else rest r<|l++[(j,j)]
def qfG (tab:vH)(rs:List ResultVar)(res:ρ->T)(L9:ρ->F1)(r:ρ)(σ:St):Tr:=match ci2 tab σ rs with
 |some t0=>match nmG t0 (res r) σ.hp (L9 r)with|nm=>match oN nm t0 with|some a=>bif VH nm&&xD (nm.map (·.1))then .and (tq (Pe a<|res r)<|res r)<|tq ((L9 r).map<|ci1 nm σ.hp)<|(L9 r).map λp=>some p.2else .bad|none=>.bad
 |none=>.bad
def cA0 {rs:List ResultVar}{res:ρ->T}{L9:ρ->F1}{r:ρ}{σ:St}(h:(qfG tab rs res L9 r σ).den):cu7 tab σ rs (res r)<|L9 r:=by
 unfold qfG at h;split at h<;>try exact h.elim
 rename_i t0 h0;dsimp only at h;split at h<;>try exact h.elim
 rename_i a h1;obtain⟨b,c,d⟩:=fT h;exact⟨_,t0,a,b,h0,h1,V.eq c,V.eq d⟩
def cv9 (Ev:EqV P)(tab:vH)(f:Option Func)(args:List T)(res:ρ->T)(x:M P ρ ρ):Tr:=match f with
 |some fn=>match fn.body with|some c=>bif dc6 args.length fn.ntmps then x.nz Ev tab fn.ntmps (qfF tab fn.results.toList res) [] (.S [.c c] ⟨number 0 args,[]⟩) .top else .bad|none=>.bad
 |none=>.bad
def cw0 (Ev:EqV P)(tab:vH)(f:Option Func)(args:List T)(hp:F1)(res:ρ->T)(L9:ρ->F1)(x:M P ρ ρ):Tr:=match f with
 |some fn=>match fn.body with|some c=>bif dc6 args.length fn.ntmps then x.nz Ev tab fn.ntmps (qfG tab fn.results.toList res L9) [] (.S [.c c] ⟨number 0 args,hp⟩) .top else .bad|none=>.bad
 |none=>.bad
class En (P:Program)where
 tab:vH
 C8:oW P tab
 Ev:EqV P
 hmx:P.follows .mixedOrders=true
class Et (α:Type)where qe:α->T
class Er (α:Type)where qr:α->List Tree
class Em (α:Type)where ql:α->List T
open Et Er Em
instance iEi:Et Int:=⟨λx=>.t<|Y x⟩
instance iEb:Et Bool:=⟨λx=>.t<|tB x⟩
instance iRi:Er Int:=⟨encI⟩
instance iRb:Er Bool:=⟨Sd⟩
instance iRl {α:Type}[Er α]:Er<|List α:=⟨encS qr⟩
instance iEl {α:Type}[Er α]:Et<|List α:=⟨λx=>.t<|tS qr x⟩
def qb {α:Type}[Er α](x:α):List T:=(qr x).map .t
instance (priority:=low)iEs {α:Type}[Er α]:Et α:=⟨λx=>.agg<|qb x⟩
instance (priority:=low)iMo {α:Type}[Et α]:Em α:=⟨λx=>[qe x]⟩
instance iMc {α β:Type}[Et α][Em β]:Em<|α×β:=⟨λx=>qe x.1::ql x.2⟩
instance iEp {α β:Type}[Et α][Em β]:Et<|α×β:=⟨λx=>.Z9<|qe x.1::ql x.2⟩
def C.of [Z:En P](n:Nat)(args:List T)(x:M P ρ ρ)(res:ρ->T:=by exact Et.qe)(b:∀vs w,(callFunc n vs).run P w=.ok (.enter n vs) w:=by intros;kernel_rfl)(h:(cv9 Z.Ev Z.tab P.funcs[n]? args res x).l=(cv9 Z.Ev Z.tab P.funcs[n]? args res x).r:=by kernel_rfl):C P ρ where
 n:=n;args:=args;m:=x.run;e:=λk=>x.rn k;res:=res;ok:=by
  have h:=Tr.of h;unfold cv9 at h;split at h<;>try exact h.elim
  rename_i fn j;split at h<;>try exact h.elim
  rename_i c o;obtain⟨d,h⟩:=fT h;refine uR.i Z.C8 fn.ntmps fn.results.toList b j o rfl rfl d λw0 L=>?_;have key:w6 ⟨P,Z.tab,Z.C8,w0,L,fn.ntmps⟩ [.c c] _ x.run _:=M.ok (X:=⟨P,Z.tab,Z.C8,w0,L,fn.ntmps⟩) Z.hmx x [] _ .top sq h;refine λr f a w p=>nL (λe a w g=>?_) _ _ _ _<|key r f a w p;obtain⟨σ',q,s,g⟩:=g;exact⟨σ',q,s,V.eq g⟩
 le:=λk r f=>M.le k x r f
def CG.of [Z:En P](n:Nat)(args:List T)(hp:F1)(res:ρ->T)(L9:ρ->F1)(nw:List Nat)(x:M P ρ ρ)(b:∀vs w,(callFunc n vs).run P w=.ok (.enter n vs) w:=by intros;kernel_rfl)(h:(cw0 Z.Ev Z.tab P.funcs[n]? args hp res L9 x).l=(cw0 Z.Ev Z.tab P.funcs[n]? args hp res L9 x).r:=by kernel_rfl):CG P ρ where
 n:=n;args:=args;hp:=hp;m:=x.run;e:=λk=>x.rn k;res:=res;L9:=L9;nw:=nw;ok:=by
  have h:=Tr.of h;unfold cw0 at h;split at h<;>try exact h.elim
  rename_i fn j;split at h<;>try exact h.elim
  rename_i c o;obtain⟨d,h⟩:=fT h;refine yw.i Z.C8 fn.ntmps fn.results.toList b j o rfl rfl d λw0 L=>?_;have key:w6 ⟨P,Z.tab,Z.C8,w0,L,fn.ntmps⟩ [.c c] _ x.run _:=M.ok (X:=⟨P,Z.tab,Z.C8,w0,L,fn.ntmps⟩) Z.hmx x [] _ .top sq h;refine λr f a w p=>nL (λe a w g=>?_) _ _ _ _<|key r f a w p;obtain⟨σ',q,s,g⟩:=g;exact⟨σ',q,s,cA0 g⟩
 le:=λk r f=>M.le k x r f
end
open Go.MapKept in
def cB4:KeyLaw .string λs:ByteArray=>.string s:=⟨λa b=>by simp[Instr.sameNow],λa=>by simp[IsKey],λa b h=>by
 have e:a=b:=by obtain⟨a⟩:=a;obtain⟨b⟩:=b;have h2:(a==b)=true:=h;rw[eq_of_beq h2]
 subst e;simpa[Instr.sameBits]using h⟩
def aK5 {α:Type}:List α->Option (List α)|[]=>some []|_=>none
def cn3 {α:Type}:List α->Int->Option (List α)|[x],n=>if n=1 then some [x]else none|_,_=>none
def aq5 {α:Type}(g:α->α->Option Int):List α->Option (List α)
 |[]=>some []|[x]=>match g x x with|some c=>bif decide<|c<0then none else some [x]|none=>none
 |_=>none
def aT2 {α:Type}{g b:α->α->Option Int}(e:∀x y r,b x y=some r->g x y=some r){l r:List α}(h:aq5 b l=some r):NU g l=some r:=by match l,h with
 |[],h=>have:Xp g ([]:List α):=⟨sq,by simp,by simp,by simp,by simp,by simp⟩;rw[NV this];rw[aq5]at h;simpa using h|[x],h=>
  simp only[aq5]at h;split at h<;>try cases h;done
  rename_i c f;have hx:=e x x c f;cases d:decide<|c<0<;>rw[d]at h<;>simp only[cT9,cT8,reduceCtorEq,AI]at h;have a:EI g x x=false:=by unfold EI;rw[hx];simpa using d
  have:Xp g [x]:=⟨sq,by simp[hx],by simpa using a,by simp[a],by simp[a],by simp⟩;rw[NV this];simpa using h|_::_::_,h=>simp[aq5]at h
def bc2 (x:Int):List Int->List Int|[]=>[x]|y::l=>bif decide (x<=y)then x::y::l else y::bc2 x l
def isI:List Int->List Int|[]=>[]|x::l=>bc2 x<|isI l
def Un (x:Int):∀l:List Int,(bc2 x l).Perm<|x::l
 |[]=>.refl _|y::l=>by
  unfold bc2;cases decide<|x<=y;·exact((Un x l).cons y).trans<|.swap x y l
  ·exact .refl _
def aM9:∀l:List Int,(isI l).Perm l|[]=>.refl _|x::l=>(Un x _).trans<|(aM9 l).cons x
def Vr (x:Int):∀{l:List Int},l.Pairwise (·<=·)->(bc2 x l).Pairwise (·<=·)|[],_=>by simp[bc2]|y::l,h=>by rw[ba8]at h;unfold bc2;cases b:decide<|x<=y;refine ba8.2 ⟨λz hz=>?_,Vr x h.2⟩;rcases cV6.1 ((Un x l).mem_iff.1 hz)with rfl|hz;have:=of_decide_eq_false b;omega;exact h.1 z hz;have a:=of_decide_eq_true b;exact ba8.2 ⟨λz hz=>by rcases cV6.1 hz with rfl|hz;exact a;have:=h.1 z hz;omega,ba8.2 h⟩
def YJ:∀l:List Int,(isI l).Pairwise (·<=·)|[]=>.nil|x::l=>Vr x<|YJ l
theorem aa2:∀{l m:List Int},l.Perm m->l.Pairwise (·<=·)->m.Pairwise (·<=·)->l=m
 |[],m,h,_,_=>(List.Perm.eq_nil h.symm).symm|x::l,[],h,_,_=>absurd h.length_eq sq|x::l,y::m,h,a,b=>by
  rw[ba8]at a b;have c:x=y:=by have h1:x∈y::m:=h.mem_iff.1<|cV7 ..;have d:y∈x::l:=h.mem_iff.2<|cV7 ..;rcases cV6.1 h1 with e|h1;exact e;rcases cV6.1 d with e|d;exact e.symm;have:=a.1 y d;have:=b.1 x h1;omega
  subst c;rw[aa2 h.cons_inv a.2 b.2]
def bg9 (l:List Int):Option<|List Int:=bif dc6 l.length 1000 then some (isI l)else none
def bC5 {l r:List Int}(h:bg9 l=some r):NT l=some r:=by unfold bg9 at h;cases d:dc6 l.length 1000<;>rw[d]at h<;>simp only[cT9,cT8,reduceCtorEq,AI]at h;subst h;have:=cU8 d;rw[UL F];congr 1;refine aa2 ((List.mergeSort_perm ..).trans (aM9 l).symm) ?_<|YJ l;have:=List.pairwise_mergeSort (le:=λx y:Int=>decide<|x<=y) λa b c h1 e=>by simp only[dg1]at h1 e|-;omega λa b=>by simp only[bh7,dg1];omega l;exact this.imp λh=>of_decide_eq_true h
open Go
@[ext]structure SMap where
 X:List Int
 Y:List Int
 Z:List<|List Int
def Yp (x:SMap):List Tree:=[tS By x.X,tS By x.Y,tS (cv3 By) x.Z]
instance iRSMap:Er SMap:=⟨Yp⟩
@[ext]structure R7 where
 X:List Int
 Y:List Int
def Km (x:R7):List Tree:=[tS By x.X,tS By x.Y]
instance iRSCurve:Er R7:=⟨Km⟩
@[ext]structure uQ where
 P:Int
 I:Int
 Bu:Int
 fI:Int
def bv9 (x:uQ):List Tree:=[Y x.P,Y x.I,Y x.Bu,Y x.fI]
instance iRSGain:Er uQ:=⟨bv9⟩
@[ext]structure j1 where
 Ai:SMap
 D1:SMap
 j4:SMap
 rA:SMap
 B4:R7
 L5:R7
 X5:R7
 p8:R7
 T4:uQ
def rJ (x:j1):List Tree:=[tS By x.Ai.X,tS By x.Ai.Y,tS (cv3 By) x.Ai.Z,tS By x.D1.X,tS By x.D1.Y,tS (cv3 By) x.D1.Z,tS By x.j4.X,tS By x.j4.Y,tS (cv3 By) x.j4.Z,tS By x.rA.X,tS By x.rA.Y,tS (cv3 By) x.rA.Z,tS By x.B4.X,tS By x.B4.Y,tS By x.L5.X,tS By x.L5.Y,tS By x.X5.X,tS By x.X5.Y,tS By x.p8.X,tS By x.p8.Y,Y x.T4.P,Y x.T4.I,Y x.T4.Bu,Y x.T4.fI]
instance iRSTables:Er j1:=⟨rJ⟩
@[ext]structure D0 where
 E1:Int
 aa:Int
 jv:Int
 B2:Int
 E4:Int
 B0:Int
 tT:Int
def IC (x:D0):List Tree:=[Y x.E1,Y x.aa,Y x.jv,Y x.B2,Y x.E4,Y x.B0,Y x.tT]
instance iRSBody:Er D0:=⟨IC⟩
@[ext]structure j5 where
 ai9:List Int
 R6:Int
def MJ (x:j5):List Tree:=[tS By x.ai9,Y x.R6]
instance iRSEngine:Er j5:=⟨MJ⟩
@[ext]structure n9 where
 Code:Int
 ru:Int
 Pass:Int
 ON:Int
 Age:Int
 u5:Int
 Rq:Bool
 Frame:Int
def L6 (x:n9):List Tree:=[Y x.Code,Y x.ru,Y x.Pass,Y x.ON,Y x.Age,Y x.u5,tB x.Rq,Y x.Frame]
instance iRSConfig:Er n9:=⟨L6⟩
@[ext]structure D5 where
 At:Int
 B6:Int
 qx:Int
 Hv:Int
 Ee:Int
def nO (x:D5):List Tree:=[Y x.At,Y x.B6,Y x.qx,Y x.Hv,Y x.Ee]
instance iRSDrive:Er D5:=⟨nO⟩
@[ext]structure H5 where
 Tp:Int
 To:Int
 Ay:Int
 Value:Int
def AK (x:H5):List Tree:=[Y x.Tp,Y x.To,Y x.Ay,Y x.Value]
instance iRSBreak:Er H5:=⟨AK⟩
@[ext]structure ia where
 Value:Int
 X6:Int
 xI:Bool
def bb3 (x:ia):List Tree:=[Y x.Value,Y x.X6,tB x.xI]
instance iRSPedal:Er ia:=⟨bb3⟩
@[ext]structure B1 where Sum:Int
def ai0 (x:B1):List Tree:=[Y x.Sum]
instance iRSIntegral:Er B1:=⟨ai0⟩
@[ext]structure y6 where
 U7:Int
 Q9:Int
 Quiet:Int
def C5 (x:y6):List Tree:=[Y x.U7,Y x.Q9,Y x.Quiet]
instance iRSKnock:Er y6:=⟨C5⟩
@[ext]structure dy where
 Value:Int
 s6:Int
def ab (x:dy):List Tree:=[Y x.Value,Y x.s6]
instance iRSCell:Er dy:=⟨ab⟩
@[ext]structure E7 where
 T3:Bool
 nA:Bool
 N2:Int
 pL:Int
 Cells:List dy
def bb4 (x:E7):List Tree:=[tB x.T3,tB x.nA,Y x.N2,Y x.pL,tS ab x.Cells]
instance iRSProbe:Er E7:=⟨bb4⟩
@[ext]structure rz where
 j4:Int
 H3:Int
def bb2 (x:rz):List Tree:=[Y x.j4,Y x.H3]
instance iRSGrant:Er rz:=⟨bb2⟩
@[ext]structure w4 where
 B6:ia
 T4:B1
 I7:List y6
 K7:E7
 E4:Int
 bZ:rz
def HH (x:w4):List Tree:=[Y x.B6.Value,Y x.B6.X6,tB x.B6.xI,Y x.T4.Sum,tS C5 x.I7,tB x.K7.T3,tB x.K7.nA,Y x.K7.N2,Y x.K7.pL,tS ab x.K7.Cells,Y x.E4,Y x.bZ.j4,Y x.bZ.H3]
instance iRSControls:Er w4:=⟨HH⟩
@[ext]structure A1 where
 F8:Bool
 At:Int
 q7:Int
 q8:Int
 I9:Int
 K6:Int
def bb1 (x:A1):List Tree:=[tB x.F8,Y x.At,Y x.q7,Y x.q8,Y x.I9,Y x.K6]
instance iRSClock:Er A1:=⟨bb1⟩
@[ext]structure ai1 where
 u7:Bool
 At:Int
 Next:Bool
 s8:Bool
def j9 (x:ai1):List Tree:=[tB x.u7,Y x.At,tB x.Next,tB x.s8]
instance iRSChannel:Er ai1:=⟨j9⟩
@[ext]structure w8 where
 D2:Int
 a8:List ai1
def Qs (x:w8):List Tree:=[Y x.D2,tS j9 x.a8]
instance iRSTimer:Er w8:=⟨Qs⟩
@[ext]structure o9 where
 h8:Int
 D1:Int
 L5:Int
 End:Int
 F4:Int
 US:Int
 Extra:Int
def o4 (x:o9):List Tree:=[Y x.h8,Y x.D1,Y x.L5,Y x.End,Y x.F4,Y x.US,Y x.Extra]
instance iRSFire:Er o9:=⟨o4⟩
@[ext]structure j8 where
 q7:Int
 Kind:Int
 h8:Int
 O1:Int
def G7 (x:j8):List Tree:=[Y x.q7,Y x.Kind,Y x.h8,Y x.O1]
instance iRSEvent:Er j8:=⟨G7⟩
@[ext]structure k6 where
 Event:j8
 Left:Int
 u7:Bool
 At:Int
def n5 (x:k6):List Tree:=[Y x.Event.q7,Y x.Event.Kind,Y x.Event.h8,Y x.Event.O1,Y x.Left,tB x.u7,Y x.At]
instance iRSJob:Er k6:=⟨n5⟩
@[ext]structure a7 where
 h9:j5
 k7:A1
 b9:w8
 Next:List o9
 o1:List k6
 Cut:Bool
def rI (x:a7):List Tree:=[tS By x.h9.ai9,Y x.h9.R6,tB x.k7.F8,Y x.k7.At,Y x.k7.q7,Y x.k7.q8,Y x.k7.I9,Y x.k7.K6,Y x.b9.D2,tS j9 x.b9.a8,tS o4 x.Next,tS n5 x.o1,tB x.Cut]
instance iRSScheduler:Er a7:=⟨rI⟩
@[ext]structure T2 where
 Mode:Int
 aU:Int
 A6:Int
 q8:Int
 J8:Int
 V4:Int
def Ua (x:T2):List Tree:=[Y x.Mode,Y x.aU,Y x.A6,Y x.q8,Y x.J8,Y x.V4]
instance iRSSync:Er T2:=⟨Ua⟩
@[ext]structure I2 where
 hL:Bool
 Ed:Int
 s6:Int
 Seen:Bool
def Qq (x:I2):List Tree:=[tB x.hL,Y x.Ed,Y x.s6,tB x.Seen]
instance iRSPhase:Er I2:=⟨Qq⟩
@[ext]structure N3 where
 Seen:Bool
 A6:Int
 q8:Int
def MK (x:N3):List Tree:=[tB x.Seen,Y x.A6,Y x.q8]
instance iRSFilter:Er N3:=⟨MK⟩
@[ext]structure dU where
 Over:Int
 Calm:Int
 ET:Bool
def Qo (x:dU):List Tree:=[Y x.Over,Y x.Calm,tB x.ET]
instance iRSGuard:Er dU:=⟨Qo⟩
@[ext]structure bc where
 Question:Int
 jo:Int
 aR:Int
 Open:Bool
 ET:Bool
def TZ (x:bc):List Tree:=[Y x.Question,Y x.jo,Y x.aR,tB x.Open,tB x.ET]
instance iRSQuiz:Er bc:=⟨TZ⟩
@[ext]structure fJ where
 J1:Bool
 Ro:Int
 Ce:Int
def AL (x:fJ):List Tree:=[tB x.J1,Y x.Ro,Y x.Ce]
instance iRSStage:Er fJ:=⟨AL⟩
@[ext]structure A3 where
 C0:Int
 s6:Int
 A0:Int
 Clean:Int
 k9:Int
 Frame:List Int
 A6:Int
def u9 (x:A3):List Tree:=[Y x.C0,Y x.s6,Y x.A0,Y x.Clean,Y x.k9,tS By x.Frame,Y x.A6]
instance iRSFault:Er A3:=⟨u9⟩
@[ext]structure y2 where
 G3:List n9
 L:List A3
 jq:Int
 dA:Bool
def nE (x:y2):List Tree:=[tS L6 x.G3,tS u9 x.L,Y x.jq,tB x.dA]
instance iRSFaults:Er y2:=⟨nE⟩
@[ext]structure U8 where
 y5:Int
 n4:Int
 Rest:Int
 z6:Int
 E4:Int
 Path:List Int
def Qr (x:U8):List Tree:=[Y x.y5,Y x.n4,Y x.Rest,Y x.z6,Y x.E4,tS By x.Path]
instance iRSPlant:Er U8:=⟨Qr⟩
@[ext]structure Z6 where
 w3:j1
 w5:w4
 c9:a7
 G6:T2
 C6:I2
 H4:N3
 dT:dU
 aS:bc
 Q3:fJ
 B9:y2
 o6:U8
 mR:D0
 Time:Int
def bP1 (x:Z6):List Tree:=[tS By x.w3.Ai.X,tS By x.w3.Ai.Y,tS (cv3 By) x.w3.Ai.Z,tS By x.w3.D1.X,tS By x.w3.D1.Y,tS (cv3 By) x.w3.D1.Z,tS By x.w3.j4.X,tS By x.w3.j4.Y,tS (cv3 By) x.w3.j4.Z,tS By x.w3.rA.X,tS By x.w3.rA.Y,tS (cv3 By) x.w3.rA.Z,tS By x.w3.B4.X,tS By x.w3.B4.Y,tS By x.w3.L5.X,tS By x.w3.L5.Y,tS By x.w3.X5.X,tS By x.w3.X5.Y,tS By x.w3.p8.X,tS By x.w3.p8.Y,Y x.w3.T4.P,Y x.w3.T4.I,Y x.w3.T4.Bu,Y x.w3.T4.fI,Y x.w5.B6.Value,Y x.w5.B6.X6,tB x.w5.B6.xI,Y x.w5.T4.Sum,tS C5 x.w5.I7,tB x.w5.K7.T3,tB x.w5.K7.nA,Y x.w5.K7.N2,Y x.w5.K7.pL,tS ab x.w5.K7.Cells,Y x.w5.E4,Y x.w5.bZ.j4,Y x.w5.bZ.H3,tS By x.c9.h9.ai9,Y x.c9.h9.R6,tB x.c9.k7.F8,Y x.c9.k7.At,Y x.c9.k7.q7,Y x.c9.k7.q8,Y x.c9.k7.I9,Y x.c9.k7.K6,Y x.c9.b9.D2,tS j9 x.c9.b9.a8,tS o4 x.c9.Next,tS n5 x.c9.o1,tB x.c9.Cut,Y x.G6.Mode,Y x.G6.aU,Y x.G6.A6,Y x.G6.q8,Y x.G6.J8,Y x.G6.V4,tB x.C6.hL,Y x.C6.Ed,Y x.C6.s6,tB x.C6.Seen,tB x.H4.Seen,Y x.H4.A6,Y x.H4.q8,Y x.dT.Over,Y x.dT.Calm,tB x.dT.ET,Y x.aS.Question,Y x.aS.jo,Y x.aS.aR,tB x.aS.Open,tB x.aS.ET,tB x.Q3.J1,Y x.Q3.Ro,Y x.Q3.Ce,tS L6 x.B9.G3,tS u9 x.B9.L,Y x.B9.jq,tB x.B9.dA,Y x.o6.y5,Y x.o6.n4,Y x.o6.Rest,Y x.o6.z6,Y x.o6.E4,tS By x.o6.Path,Y x.mR.E1,Y x.mR.aa,Y x.mR.jv,Y x.mR.B2,Y x.mR.E4,Y x.mR.B0,Y x.mR.tT,Y x.Time]
instance iRSEcu:Er Z6:=⟨bP1⟩
@[ext]structure e9 where
 At:Int
 Channel:Int
 s8:Bool
def j6 (x:e9):List Tree:=[Y x.At,Y x.Channel,tB x.s8]
instance iRSSwitch:Er e9:=⟨j6⟩
@[ext]structure K1 where
 I8:Int
 M7:List Int
def V6 (x:K1):List Tree:=[Y x.I8,tS By x.M7]
instance iRSActive:Er K1:=⟨V6⟩
@[ext]structure J7 where
 Time:Int
 n4:Int
 j4:Int
 bG8:Int
 LY:List e9
 T3:List K1
 ET:Bool
def rH (x:J7):List Tree:=[Y x.Time,Y x.n4,Y x.j4,Y x.bG8,tS j6 x.LY,tS V6 x.T3,tB x.ET]
instance iRSRecord:Er J7:=⟨rH⟩
@[ext]structure U9 where
 V4:Int
 Q2:Int
def Ko (x:U9):List Tree:=[Y x.V4,Y x.Q2]
instance iRSWheel:Er U9:=⟨Ko⟩
@[ext]structure Ig where yv:List Int
def Se (x:Ig):List Tree:=[tS By x.yv]
instance iRSCam:Er Ig:=⟨Se⟩
@[ext]structure K0 where
 Name:ByteArray
 aj2:Int
 u5:Int
 M7:List Int
 Ph:Int
def aY (x:K0):List Tree:=[.v<|.string x.Name,Y x.aj2,Y x.u5,tS By x.M7,Y x.Ph]
instance iRSReaction:Er K0:=⟨aY⟩
@[ext]structure b7 where
 H3:Int
 Kind:Int
 j4:Int
 u5:Int
def p7 (x:b7):List Tree:=[Y x.H3,Y x.Kind,Y x.j4,Y x.u5]
instance iRSRequest:Er b7:=⟨p7⟩
@[ext]structure G4 where
 Aw:Int
 Ax:Int
 n4:Int
 z6:Int
 B4:Int
 aO:Int
 Lambda:Int
 M4:Int
 A5:List Int
 Requests:List b7
def aK6 (x:G4):List Tree:=[Y x.Aw,Y x.Ax,Y x.n4,Y x.z6,Y x.B4,Y x.aO,Y x.Lambda,Y x.M4,tS By x.A5,tS p7 x.Requests]
instance iRSInputs:Er G4:=⟨aK6⟩
@[ext]structure X7 where
 B2:Int
 C1:List o9
 j4:Int
def Kn (x:X7):List Tree:=[Y x.B2,tS o4 x.C1,Y x.j4]
instance iRSOutputs:Er X7:=⟨Kn⟩
abbrev aW4 (x:Int×Int×Int×Int×Int):T:=.agg [.t<|Y x.1,.t<|Y x.2.1,.t<|Y x.2.2.1,.t<|Y x.2.2.2.1,.t<|Y x.2.2.2.2]
@[ext]structure D6 where
 word:ByteArray
 low:Int
 high:Int
def Ws (x:D6):List Tree:=[.v<|.string x.word,Y x.low,Y x.high]
instance iRSdrive_part:Er D6:=⟨Ws⟩
abbrev PH (x:D6×D6×D6×D6×D6):T:=.agg [.t<|.v<|.string x.1.word,.t<|Y x.1.low,.t<|Y x.1.high,.t<|.v<|.string x.2.1.word,.t<|Y x.2.1.low,.t<|Y x.2.1.high,.t<|.v<|.string x.2.2.1.word,.t<|Y x.2.2.1.low,.t<|Y x.2.2.1.high,.t<|.v<|.string x.2.2.2.1.word,.t<|Y x.2.2.2.1.low,.t<|Y x.2.2.2.1.high,.t<|.v<|.string x.2.2.2.2.word,.t<|Y x.2.2.2.2.low,.t<|Y x.2.2.2.2.high]
@[ext]structure k8 where
 u:Z6
 d:D5
 k:List H5
 t:Int
 c8:Int
 cY:List K1
 dz:Int
 k5:Int
 yq:Int
 p9:Int
 Lv:Int
 y8:X7
 F7:Int
 ao6:Int
 known:Bool
 cut:Bool
 o8:List e9
 B8:Int
def uX (x:k8):List Tree:=[tS By x.u.w3.Ai.X,tS By x.u.w3.Ai.Y,tS (cv3 By) x.u.w3.Ai.Z,tS By x.u.w3.D1.X,tS By x.u.w3.D1.Y,tS (cv3 By) x.u.w3.D1.Z,tS By x.u.w3.j4.X,tS By x.u.w3.j4.Y,tS (cv3 By) x.u.w3.j4.Z,tS By x.u.w3.rA.X,tS By x.u.w3.rA.Y,tS (cv3 By) x.u.w3.rA.Z,tS By x.u.w3.B4.X,tS By x.u.w3.B4.Y,tS By x.u.w3.L5.X,tS By x.u.w3.L5.Y,tS By x.u.w3.X5.X,tS By x.u.w3.X5.Y,tS By x.u.w3.p8.X,tS By x.u.w3.p8.Y,Y x.u.w3.T4.P,Y x.u.w3.T4.I,Y x.u.w3.T4.Bu,Y x.u.w3.T4.fI,Y x.u.w5.B6.Value,Y x.u.w5.B6.X6,tB x.u.w5.B6.xI,Y x.u.w5.T4.Sum,tS C5 x.u.w5.I7,tB x.u.w5.K7.T3,tB x.u.w5.K7.nA,Y x.u.w5.K7.N2,Y x.u.w5.K7.pL,tS ab x.u.w5.K7.Cells,Y x.u.w5.E4,Y x.u.w5.bZ.j4,Y x.u.w5.bZ.H3,tS By x.u.c9.h9.ai9,Y x.u.c9.h9.R6,tB x.u.c9.k7.F8,Y x.u.c9.k7.At,Y x.u.c9.k7.q7,Y x.u.c9.k7.q8,Y x.u.c9.k7.I9,Y x.u.c9.k7.K6,Y x.u.c9.b9.D2,tS j9 x.u.c9.b9.a8,tS o4 x.u.c9.Next,tS n5 x.u.c9.o1,tB x.u.c9.Cut,Y x.u.G6.Mode,Y x.u.G6.aU,Y x.u.G6.A6,Y x.u.G6.q8,Y x.u.G6.J8,Y x.u.G6.V4,tB x.u.C6.hL,Y x.u.C6.Ed,Y x.u.C6.s6,tB x.u.C6.Seen,tB x.u.H4.Seen,Y x.u.H4.A6,Y x.u.H4.q8,Y x.u.dT.Over,Y x.u.dT.Calm,tB x.u.dT.ET,Y x.u.aS.Question,Y x.u.aS.jo,Y x.u.aS.aR,tB x.u.aS.Open,tB x.u.aS.ET,tB x.u.Q3.J1,Y x.u.Q3.Ro,Y x.u.Q3.Ce,tS L6 x.u.B9.G3,tS u9 x.u.B9.L,Y x.u.B9.jq,tB x.u.B9.dA,Y x.u.o6.y5,Y x.u.o6.n4,Y x.u.o6.Rest,Y x.u.o6.z6,Y x.u.o6.E4,tS By x.u.o6.Path,Y x.u.mR.E1,Y x.u.mR.aa,Y x.u.mR.jv,Y x.u.mR.B2,Y x.u.mR.E4,Y x.u.mR.B0,Y x.u.mR.tT,Y x.u.Time,Y x.d.At,Y x.d.B6,Y x.d.qx,Y x.d.Hv,Y x.d.Ee,tS AK x.k,Y x.t,Y x.c8,tS V6 x.cY,Y x.dz,Y x.k5,Y x.yq,Y x.p9,Y x.Lv,Y x.y8.B2,tS o4 x.y8.C1,Y x.y8.j4,Y x.F7,Y x.ao6,tB x.known,tB x.cut,tS j6 x.o8,Y x.B8]
instance iRSecu_step:Er k8:=⟨uX⟩
abbrev aE1 (x:Bool×Bool×Bool×Bool×Bool×Bool×Bool):T:=.agg [.t<|tB x.1,.t<|tB x.2.1,.t<|tB x.2.2.1,.t<|tB x.2.2.2.1,.t<|tB x.2.2.2.2.1,.t<|tB x.2.2.2.2.2.1,.t<|tB x.2.2.2.2.2.2]
@[ext]structure cu8 where
 cF0:Int
 n4:Int
def bP2 (x:cu8):List Tree:=[Y x.cF0,Y x.n4]
instance iRSRun:Er cu8:=⟨bP2⟩
@[ext]structure dV where
 Bu:Int
 fI:Int
def bb5 (x:dV):List Tree:=[Y x.Bu,Y x.fI]
instance iRSRange:Er dV:=⟨bb5⟩
@[ext]structure n3 where
 t:j1
 e:j5
 b:D0
 c:w4
 i:G4
 wanted:Int
 ao6:Int
 D3:Int
 late:Int
 pattern:List Bool
 time:Int
 out:X7
 fail:Int
def Sg (x:n3):List Tree:=[tS By x.t.Ai.X,tS By x.t.Ai.Y,tS (cv3 By) x.t.Ai.Z,tS By x.t.D1.X,tS By x.t.D1.Y,tS (cv3 By) x.t.D1.Z,tS By x.t.j4.X,tS By x.t.j4.Y,tS (cv3 By) x.t.j4.Z,tS By x.t.rA.X,tS By x.t.rA.Y,tS (cv3 By) x.t.rA.Z,tS By x.t.B4.X,tS By x.t.B4.Y,tS By x.t.L5.X,tS By x.t.L5.Y,tS By x.t.X5.X,tS By x.t.X5.Y,tS By x.t.p8.X,tS By x.t.p8.Y,Y x.t.T4.P,Y x.t.T4.I,Y x.t.T4.Bu,Y x.t.T4.fI,tS By x.e.ai9,Y x.e.R6,Y x.b.E1,Y x.b.aa,Y x.b.jv,Y x.b.B2,Y x.b.E4,Y x.b.B0,Y x.b.tT,Y x.c.B6.Value,Y x.c.B6.X6,tB x.c.B6.xI,Y x.c.T4.Sum,tS C5 x.c.I7,tB x.c.K7.T3,tB x.c.K7.nA,Y x.c.K7.N2,Y x.c.K7.pL,tS ab x.c.K7.Cells,Y x.c.E4,Y x.c.bZ.j4,Y x.c.bZ.H3,Y x.i.Aw,Y x.i.Ax,Y x.i.n4,Y x.i.z6,Y x.i.B4,Y x.i.aO,Y x.i.Lambda,Y x.i.M4,tS By x.i.A5,tS p7 x.i.Requests,Y x.wanted,Y x.ao6,Y x.D3,Y x.late,tS Pv.Sd x.pattern,Y x.time,Y x.out.B2,tS o4 x.out.C1,Y x.out.j4,Y x.fail]
instance iRScontrol_step:Er n3:=⟨Sg⟩
@[ext]structure sS where
 o6:U8
 b:D0
def Ub (x:sS):List Tree:=[Y x.o6.y5,Y x.o6.n4,Y x.o6.Rest,Y x.o6.z6,Y x.o6.E4,tS By x.o6.Path,Y x.b.E1,Y x.b.aa,Y x.b.jv,Y x.b.B2,Y x.b.E4,Y x.b.B0,Y x.b.tT]
instance iRSplant_world:Er sS:=⟨Ub⟩
@[ext]structure ib where
 fI:Int
 Bu:Int
def Kp (x:ib):List Tree:=[tK .u64 x.fI,tK .u64 x.Bu]
instance aM5:Er ib:=⟨Kp⟩
@[ext]structure l6 where
 low:Int
 high:Int
 source:Int
def Sf (x:l6):List Tree:=[Y x.low,Y x.high,Y x.source]
instance iRSarbiter_span:Er l6:=⟨Sf⟩
@[ext]structure ap3 where
 x:j8
 av6:Int
def o7 (x:ap3):List Tree:=[Y x.x.q7,Y x.x.Kind,Y x.x.h8,Y x.x.O1,Y x.av6]
instance aM6:Er ap3:=⟨o7⟩
def bl0 (P:Program):List Field->Option (List<|Nat×Nat)|[]=>some []|f::l=>(P.info? f.type).bind λi=>(bl0 P l).map λr=>(f.offset,i.size)::r
def bN3 (P:Program):TypeDesc->Option TD|.int k=>some<|.int k|.bool=>some .bool|.string=>some .string|.slice e=>some<|.slice e|.array n e=>some<|.array n e|.struct a=>(bl0 P a.toList).map TD.struct|_=>some .other
def cp6 (P:Program)(t:Nat):Option TI:=(P.info? t).bind λi=>(P.underlying t).bind λd=>i.zero.bind λz=>(bN3 P d).bind λx=>bif dc6 i.bytes 65536 then some ⟨i.size,x,z.cells.toList⟩else none
def aK0 {P:Program}:∀{b:List Field}{l:List<|Nat×Nat},bl0 P b=some l->l.length=b.length/\∀(f o n:Nat),l[f]?=some (o,n)->∃(c:Field)(i:TypeInfo),b[f]?=some c/\c.offset=o/\P.info? c.type=some i/\i.size=n|[],l,h=>by cases h;exact⟨rfl,λf o n h=>by simp at h⟩|x::b,l,h=>by simp only[bl0,cM6,dd4]at h;obtain⟨i,h1,r,d,rfl⟩:=h;obtain⟨e,g⟩:=aK0 d;refine⟨by simp[e],λf o n a=>?_⟩;cases f with|zero=>simp only[cY1,AI,cz4]at a;exact⟨x,i,rfl,a.1,h1,a.2⟩|succ f=>simp only[List.getElem?_cons_succ]at a|-;exact g f o n a
def bN4 {P:Program}{d:TypeDesc}{x:TD}(h:bN3 P d=some x):x.ok P d:=by
 cases d<;>simp only[bN3]at h<;>try cases h;first|rfl|trivial
 rename_i a;rw[dd4]at h;obtain⟨l,h1,rfl⟩:=h;obtain⟨b,c⟩:=aK0 h1;refine⟨a,rfl,by simpa using b,λf o n e=>?_⟩;obtain⟨g,i,j,k⟩:=c f o n e;exact⟨g,i,by simpa using j,k⟩
def cp7 {P:Program}{t:Nat}{i:TI}(h:cp6 P t=some i):Ci P t i:=by simp only[cp6,cM6]at h;obtain⟨a,h1,d,e,z,f,x,g,b⟩:=h;cases c:dc6 a.bytes 65536;rw[c]at b;cases b;rw[c]at b;cases b;exact⟨a,d,h1,rfl,e,bN4 g,⟨z,f,rfl⟩,cU8 c⟩
def cB9 (P:Program)(l:List Nat):vH:=l.map λt=>(t,(cp6 P t).getD ⟨0,.other,[]⟩)
def br4 {P:Program}:∀{l:List Nat},(l.all λt=>(cp6 P t).isSome)=true->oW P (cB9 P l)|[],_=>λt ti h=>by cases h|t::l,h=>by rw[List.all_cons,BY]at h;obtain⟨i,hi⟩:=da0.1 h.1;refine λu ti a=>?_;simp only[cB9,ew,hi,cx4]at a;exact ca2 a (cp7 hi) λa=>br4 h.2 u ti a
def eqS (P:Program)(tab:vH)(q:Nat->List Value->List Value->Option Bool)(xs ys:List Value):List Field->Option Bool|[]=>some true|f::l=>bif decide<|f.name= "_"then none else match look tab f.type with|none=>none|some ti=>(bif ti.desc.isAgg then q f.type ((xs.drop f.offset).take ti.size) ((ys.drop f.offset).take ti.size)else match P.underlying f.type,xs[f.offset]?,ys[f.offset]?with|some<|.int _,some<|.int k a,some<|.int d b=>bif decide (k=d)then some (a==b)else none|some .bool,some<|.bool a,some<|.bool b=>some<|a==b|_,_,_=>none).bind λc=>(eqS P tab q xs ys l).map λr=>c&&r
def av4 {P:Program}{tab:vH}(j:oW P tab){q:Nat->List Value->List Value->Option Bool}{d:Nat}{w:World}{xs ys:List Value}(m:∀t xs ys b,q t xs ys=some b->(Op.equalIn (d+1) t (.agg xs.toArray)<|.agg ys.toArray).run P w=.ok b w):∀{l:List Field}{b:Bool},eqS P tab q xs ys l=some b->(Op.eqFields (d+1) xs.toArray ys.toArray l).run P w=.ok b w|[],b,h=>by cases h;exact ci4|f::l,b,h=>by unfold eqS at h;cases i:decide<|f.name= "_"<;>rw[i]at h;simp only[cT8]at h;split at h;cases h;rename_i ti ht;obtain⟨c,h1,h⟩:=cM6.1 h;obtain⟨r,n,rfl⟩:=dd4.1 h;have i:=of_decide_eq_false i;have e:=j _ _ ht;cases g:ti.desc.isAgg<;>rw[g]at h1;simp only[cT8]at h1;split at h1;rename_i k0 k a s b o hx p;cases hk:decide<|k=s<;>rw[hk]at h1<;>cases h1;cases of_decide_eq_true hk;exact Yq i (SA e g<|by simpa using hx) (SA e g<|by simpa using p) (run_equalIn_int w _ _ _ _ _ _ o)<|av4 j m n;rename_i a b o hx p;cases h1;exact Yq i (SA e g<|by simpa using hx) (SA e g<|by simpa using p) (run_equalIn_bool' w _ _ _ _ o)<|av4 j m n;cases h1;exact Yq i (aP7 e g rfl) (aP7 e g rfl) (by simpa[List.extract]using m _ _ _ _ h1)<|av4 j m n;cases h
def eqR (P:Program)(tab:vH):Nat->Nat->List Value->List Value->Option Bool|0,_,_,_=>none|d+1,t,xs,ys=>match P.underlying t with|some<|.struct a=>bif P.stoodInHeld t then none else eqS P tab (eqR P tab d) xs ys a.toList|_=>none
def bP3 {P:Program}{tab:vH}(a:oW P tab){w:World}(n:Nat):∀(d t:Nat)(xs ys:List Value)(b:Bool),eqR P tab d t xs ys=some b->(Op.equalIn (n+d+1) t (.agg xs.toArray)<|.agg ys.toArray).run P w=.ok b w
 |0,_,_,_,_,h=>by cases h|d+1,t,xs,ys,b,h=>by
  unfold eqR at h;split at h;rename_i fs c;have e:P.fieldsOf t=fs:=by simp[Program.fieldsOf,c]
  cases f:P.stoodInHeld t<;>rw[f]at h;exact bw0 (by rw[e];exact c) f rfl<|e▸av4 a (bP3 a n d) h;cases h;cases h
def unv:List T->Option (List Value)|[]=>some []|.t (.v v)::l=>(unv l).map λr=>v::r|_=>none
theorem bh9:∀{l:List T}{vs:List Value},unv l=some vs->l=tvs vs|[],vs,h=>by cases h;rfl|t::l,vs,h=>by unfold unv at h;split at h;rename_i h0;cases h0;rename_i v l' h0;cases h0;obtain⟨r,h1,rfl⟩:=dd4.1 h;rw[bh9 h1];rfl;cases h
def EqV.all {P:Program}{tab:vH}(d:oW P tab):EqV P where f ty xs ys:=bif P.eqGuardType P.depth ty then none else(unv xs).bind λvs=>(unv ys).bind λa=>eqR P tab 3 ty vs a;ok ty xs ys b h:=by cases c:P.eqGuardType P.depth ty<;>rw[c]at h;obtain⟨vs,h1,h⟩:=cM6.1 h;obtain⟨a,e,h⟩:=cM6.1 h;exact⟨vs,a,bh9 h1,bh9 e,λw=>bP3 d 9996 3 ty vs a b h,c⟩;cases h
end Go.Pv
namespace Go.Proofs.YtlbfdimlomockaaGreat
open Go Go.Pv Go.Proofs
set_option maxHeartbeats 4000000
def mixed:Tryz.prog.follows .mixedOrders=true:=by kernel_rfl
noncomputable def tab:vH:=cB9 Tryz.prog [3,4,5,9,22,23,25,27,29,31,33,35,36,37,38,42,44,45,46,48,50,52,54,55,57,58,59,61,63,65,67,69,71,73,74,76,78,80,81,88,89,91,95,104,115,118,150,154,162,167,169,171,174,179,180,182,184,192,216,219,220,241,243,248,250,254,256,263,267,280,283,310,329,337,397,408,433,454,456,472,473,475,489,531,541,550,554,555,576,577,583]
theorem C8:oW Tryz.prog tab:=br4<|by kernel_rfl
noncomputable instance Z:En Tryz.prog:=⟨tab,C8,EqV.all C8,mixed⟩
def ct2:Mq Tryz.prog Int Bool:=⟨inferInstance,324,3,4,.int .i64,λn:Int=>.int .i64 n,λv:Bool=>.bool v,false,cx6 .i64,Tryz.underlying324,Tryz.underlying3,⟨Tryz.t4,by kernel_rfl,rfl⟩⟩
def ct3:Mq Tryz.prog ByteArray Bool:=⟨inferInstance,495,9,4,.string,λs:ByteArray=>.string s,λv:Bool=>.bool v,false,cB4,Tryz.underlying495,Tryz.underlying9,⟨Tryz.t4,by kernel_rfl,rfl⟩⟩
end Go.Proofs.YtlbfdimlomockaaGreat
namespace Go.Pv
open Go
open Go.Pv.Et
def Dz (x y:Int):Option<|Int×Int:=UA x y
def HV (x y:Int):Option<|Int×Int:=tI (Dz x y) λr2=>some (r2.1,r2.2)
def nu (s3:Int×List y6):Option<|Int×List y6⊕Int×List y6⊕Empty:=bif decide<|s3.1<(s3.2.length:Int)then tI (tI (RU s3.1 (s3.2.length:Int) s3.2.length) λ_=>tI (RU 0 s3.1 s3.2.length) λ_=>some (H<|s3.1+((min (cy6 s3.1-cy6 0)<|cy6 (s3.2.length:Int)-cy6 s3.1:Nat):Int),bN7 s3.2 s3.1 (s3.2.length:Int) 0 s3.1)) λ(a:Int×List y6)=>some<|.inl (a.1,a.2)else some<|.inr<|.inl (s3.1,s3.2)
def aM (x:List y6)(count:Int):Option<|List y6:=tI (bif decide<|count<0then none else some ()) λ(_:Unit)=>tI (HV (IS.wrap (x.length:Int))<|IS.wrap count) λr2=>tI (bif decide (r2.1>0)||decide (r2.2>9223372036854775807)then none else some ()) λ(_:Unit)=>tI (CT (H r2.2) (⟨0,0,0⟩:y6)) λl=>tI (o3 nu ((min (x).length (l).length:Nat),lN l x)) λ(t:Int×List y6⊕Empty)=>match t with|.inl a=>some a.2|.inr r=>r.elim
def P0 (s:List k6)(a:k6->Option Bool)(i:Int)(_:Unit):Option<|Fl Unit Int:=tI (y3 s i) λx=>tI (a x) λv=>bif v then some (.ret i)else some<|.next ()
def y9 (s:List k6)(a:k6->Option Bool):Option Int:=tI (J9 (s.length:Int) (P0 s a) ()) λ(t:Unit⊕Int)=>match t with|.inl _=>some<|-1|.inr r2=>some r2
def cE (a:k6->Option Bool)(s2:Int×Int×List k6):Option<|Int×Int×List k6⊕Int×Int×List k6⊕Empty:=bif decide<|s2.2.1<(s2.2.2.length:Int)then tI (y3 s2.2.2 s2.2.1) λx=>tI (a x) λb=>bif !b then tI (y3 s2.2.2 s2.1) λ_=>tI (fQ s2.2.2 s2.1 x) λl=>some<|.inl (H<|s2.1+1,H<|s2.2.1+1,l)else some<|.inl (s2.1,H<|s2.2.1+1,s2.2.2)else some<|.inr<|.inl (s2.1,s2.2.1,s2.2.2)
def H8 (s:List k6)(a:k6->Option Bool):Option<|List k6:=tI (y9 s a) λv=>bif v==-1then some s else tI (o3 (cE a) (v,H<|v+1,s)) λ(t:Int×Int×List k6⊕Empty)=>match t with|.inl s3=>tI (RU s3.1 (s3.2.2.length:Int) s3.2.2.length) λ_=>tI (U4 (Og s3.2.2 s3.1 (s3.2.2.length:Int) (⟨(⟨0,0,0,0⟩:j8),0,false,0⟩:k6)) 0 s3.1) λl2=>some l2|.inr r=>r.elim
def hI (s:List e9)(a:e9->Option Bool)(i:Int)(_:Unit):Option<|Fl Unit Int:=tI (y3 s i) λx=>tI (a x) λv=>bif v then some (.ret i)else some<|.next ()
def P1 (s:List e9)(a:e9->Option Bool):Option Int:=tI (J9 (s.length:Int) (hI s a) ()) λ(t:Unit⊕Int)=>match t with|.inl _=>some<|-1|.inr r2=>some r2
def Z4 (a:e9->Option Bool)(s2:Int×Int×List e9):Option<|Int×Int×List e9⊕Int×Int×List e9⊕Empty:=bif decide<|s2.2.1<(s2.2.2.length:Int)then tI (y3 s2.2.2 s2.2.1) λx=>tI (a x) λb=>bif !b then tI (y3 s2.2.2 s2.1) λ_=>tI (fQ s2.2.2 s2.1 x) λl=>some<|.inl (H<|s2.1+1,H<|s2.2.1+1,l)else some<|.inl (s2.1,H<|s2.2.1+1,s2.2.2)else some<|.inr<|.inl (s2.1,s2.2.1,s2.2.2)
def N1 (s:List e9)(a:e9->Option Bool):Option<|List e9:=tI (P1 s a) λv=>bif v==-1then some s else tI (o3 (Z4 a) (v,H<|v+1,s)) λ(t:Int×Int×List e9⊕Empty)=>match t with|.inl s3=>tI (RU s3.1 (s3.2.2.length:Int) s3.2.2.length) λ_=>tI (U4 (Og s3.2.2 s3.1 (s3.2.2.length:Int) (⟨0,0,false⟩:e9)) 0 s3.1) λl2=>some l2|.inr r=>r.elim
def ll (t2:w8):Option w8:=tI (tI (G2 ([]:List ai1) t2.a8) λl=>some (⟨t2.D2,l⟩:w8)) λ(a:w8)=>some a
end Go.Pv
namespace Go.Proofs.YtlbfdimlomockaaGreat
open Go Go.Pv Go.Proofs
open Go.Pv.Et
set_option maxHeartbeats 4000000
def PA:Go.Shelf.Ren:=⟨λ|264=>486|n=>n,λ|46=>433|53=>489|n=>n,λ|n=>n⟩
open Go.Shelf in
def bz0:Lays.n264 Tryz.prog PA:={mixed:=by kernel_rfl,f264:=Tryz.func486.trans<|congrArg some<|by kernel_rfl,t46:=Tryz.underlying433,a46:=Tryz.isAgg433,z46:=Tryz.sizeOf433,v46:=Tryz.zeroValue433,t53:=Tryz.underlying489,a53:=Tryz.isAgg489,z53:=Tryz.sizeOf489,v53:=Tryz.zeroValue489}
def CV (x y:Int):uR Tryz.prog 486 [.t<|tK .u64 x,.t<|tK .u64 y] (Dz x y) λr=>.Z9 [.t<|tK .u64 r.1,.t<|tK .u64 r.2]:=bz1 (ρ:=PA) bz0 Tryz.call486 x y
def QO (x y:Int):uR Tryz.prog 377 [.t<|tK .u64 x,.t<|tK .u64 y] (HV x y) λr=>.Z9 [.t<|tK .u64 r.1,.t<|tK .u64 r.2]:=by refine uR.i C8 30 [.tmp 4,.tmp 5] Tryz.call377 Tryz.func377 rfl rfl rfl rfl λw0 L=>?_;refine w6.s 6 rfl ?_;refine w6.cG5 rfl<|.o 5 rfl ?_;refine o0.k (CV x y) rfl λr2=>.o 8 rfl ?_;exact o0.r 5 rfl<|rt rfl
def GH (x:List y6)(count:Int):uR Tryz.prog 234 [NS C5 x,NI count] (aM x count) λr=>NS C5 r:=by
 refine uR.i C8 48 [.tmp 4] Tryz.call234 Tryz.func234 rfl rfl rfl rfl λw0 L=>?_;refine w6.s 5 rfl ?_;refine w6.s 5 rfl<|.bind (Q₁:=nrm λt=>⟨[(0,NS C5 x),(1,NI count)],[]⟩) ?_ ?_
 ·refine w6.cond rfl ?_ ?_;·exact w6.o 1 rfl .fail
  ·exact w6.l 1 rfl<|lf rfl rfl
 rintro s e σ' _ ⟨rfl,c⟩;refine M8.sub c<|w6.o 7 rfl<|.k (QO (IS.wrap (x.length:Int))<|IS.wrap count) rfl λr2=>?_;refine o0.o 9 rfl ?_;refine o0.o 3 rfl<|.cJ0 (v:=decide<|r2.2>9223372036854775807) 3 23 (λb=>⟨[(0,NS C5 x),(6,.t<|tK .u64 r2.2),(26,NB b)],[]⟩) rfl ?_ ?_ ?_;·exact o0.l 4 rfl<|lf rfl rfl
 ·exact o0.l 4 rfl<|lf rfl rfl
 refine o0.s 1 rfl<|.bind (Q₁:=nrm λt=>⟨[(0,NS C5 x),(6,.t<|tK .u64 r2.2)],[]⟩) ?_ ?_
 ·refine w6.cond rfl ?_ ?_;·exact w6.o 1 rfl .fail
  ·exact w6.l 1 rfl<|lf rfl rfl
 rintro s2 e σ' _ ⟨rfl,c⟩;refine M8.sub c<|w6.o 4 rfl<|.cI3 (enc:=C5) 2240 (⟨0,0,0⟩:y6) rfl rfl rfl rfl rfl rfl rfl rfl rfl rfl rfl rfl rfl λl g=>?_;refine o0.o 6 rfl ?_;refine o0.bN6 (e2:=0) (l:=l) (r:=x) rfl rfl rfl rfl (λ_=>rfl) (λ_=>rfl) rfl rfl (.inl rfl) rfl<|.s 4 rfl ?_;refine w6.loop (λt=>⟨[(7,.own 2240),(8,NI t.1)],[(2240,.rs 243 3 t.2 C5)]⟩) (λb e σ'=>match b with|.inl t=>e=.exit 0/\Sub ⟨[(7,.own 2240)],[(2240,.rs 243 3 t.2 C5)]⟩ σ'|.inr t=>False) (.of rfl rfl) ?_ ?_
 ·intro s3;refine w6.s 8 rfl ?_;refine w6.cond rfl ?_ ?_
  ·refine w6.s 2 rfl<|.bind (Q₁:=nrm λt=>⟨[(7,.own 2240),(8,NI t.1)],[(2240,.rs 243 3 t.2 C5)]⟩) ?_ ?_
   ·refine M8.pre λu d=>M8.pre λj a=>w6.cr9 8 (bm 10 0) (bm 10 255) ⟨[(7,.own 2240),(8,NI s3.1),(38,NI s3.1),(45,NI ((min (cy6 s3.1-cy6 0)<|cy6 (s3.2.length:Int)-cy6 s3.1:Nat):Int))],[(2240,.rs 243 3 (bN7 s3.2 s3.1 (s3.2.length:Int) 0 s3.1) C5)]⟩ mixed (λ_ _ _ h=>by cases h.1) rfl rfl rfl rfl ?_ ?_
    ·refine cm.ga 5 [0,1,2,4,5] (by kernel_rfl) rfl<|.all [3,6] (by kernel_rfl) rfl<|oV.cons (σ₁:=⟨[(7,.own 2240),(8,NI s3.1),(38,NI s3.1),(41,.vw 2240 (cy6 s3.1) (cy6 (s3.2.length:Int)-cy6 s3.1) 3),(42,.own 2240),(43,NI s3.1)],[(2240,.rs 243 3 s3.2 C5)]⟩) _ rfl rfl ?_ ?_ ?_;·refine o0.Tj d<|o0.ar8 rfl rfl rfl rfl rfl rfl rfl rfl rfl rfl rfl<|o0.ifG ?_;exact o0.l 1 rfl<|lf rfl rfl
     ·exact cm.one 6 rfl (by kernel_rfl) (o0.Tj a<|o0.ar8 rfl rfl rfl rfl rfl rfl rfl rfl rfl rfl rfl<|o0.ifG<|o0.l 1 rfl ⟨rfl,rfl⟩)<|.one 7 rfl (by kernel_rfl) (o0.copyV d a TW TW rfl rfl rfl rfl (λ_=>rfl) (λ_=>rfl) rfl rfl rfl rfl<|o0.l 1 rfl ⟨rfl,rfl⟩)<|.done<|.of rfl rfl
     refine oV.cons (σ₁:=⟨[(7,.own 2240),(8,NI s3.1),(38,NI s3.1),(39,.own 2240),(40,NI s3.1),(44,.vw 2240 (cy6 0) (cy6 s3.1-cy6 0) 3)],[(2240,.rs 243 3 s3.2 C5)]⟩) _ rfl rfl ?_ ?_ ?_;·refine o0.Tj a<|o0.ar8 rfl rfl rfl rfl rfl rfl rfl rfl rfl rfl rfl<|o0.ifG ?_;exact o0.l 1 rfl<|lf rfl rfl
     ·exact cm.one 3 rfl (by kernel_rfl) (o0.Tj d<|o0.ar8 rfl rfl rfl rfl rfl rfl rfl rfl rfl rfl rfl<|o0.ifG<|o0.l 1 rfl ⟨rfl,rfl⟩)<|.one 7 rfl (by kernel_rfl) (o0.copyV d a TW TW rfl rfl rfl rfl (λ_=>rfl) (λ_=>rfl) rfl rfl rfl rfl<|o0.l 1 rfl ⟨rfl,rfl⟩)<|.done<|.of rfl rfl
     exact oV.nil
    exact o0.l 3 rfl<|lf rfl rfl
   rintro m e σ' _ ⟨rfl,c⟩;exact M8.sub c<|w6.l 1 rfl<|lf rfl rfl
  ·exact w6.Eu rfl ⟨(λh=>by cases h),rfl,.of rfl rfl⟩
 rintro(n|r)e σ' _ f;·obtain⟨rfl,c⟩:=f;refine M8.exit rfl<|M8.sub c ?_;exact w6.r 5 rfl<|rt rfl
 ·exact f.elim
def FX (s:List k6)(d:Nat)(cs:List<|List Tree)(g:k6->Option Bool)(m:∀j,uR Tryz.prog d ([qe j]++cs.map T.el) (g j) λr=>NB r):uR Tryz.prog 395 [NS n5 s,.fz d cs] (y9 s g) λr=>NI r:=by refine uR.i C8 19 [.tmp 4] Tryz.call395 Tryz.func395 rfl rfl rfl rfl λw0 L=>?_;refine w6.s 5 rfl ?_;refine w6.s 7 rfl ?_;refine w6.loop (λp=>⟨[(0,NS n5 s),(1,.fz d cs),(7,NI (s.length:Int)),(8,NI p.1)],[]⟩) (λb e σ'=>match b with|.inl t=>e=.exit 0/\Sub ⟨[],[]⟩ σ'|.inr t=>e=.ret/\az3 tab σ' [.tmp 4]=some ((λr=>NI r:Int->T) t)) (.of rfl rfl) ?_ ?_;rintro⟨i,s2⟩;refine w6.s 5 rfl ?_;refine w6.cond rfl ?_ ?_;refine w6.s 2 rfl<|M8.sub (σ':=⟨[(0,NS n5 s),(1,.fz d cs),(7,NI (s.length:Int)),(8,NI i)],[]⟩) (.of rfl rfl)<|w6.bind (Q₁:=λf e σ'=>match f with|.next t=>e=.normal/\Sub ⟨[(0,NS n5 s),(1,.fz d cs),(7,NI (s.length:Int)),(8,NI i)],[]⟩ σ'|.brk t=>e=.exit 0/\Sub ⟨[],[]⟩ σ'|.ret t=>e=.ret/\az3 tab σ' [.tmp 4]=some ((λr=>NI r:Int->T) t)) ?_ ?_;refine w6.s 6 rfl ?_;refine w6.o 5 rfl<|.index rfl rfl rfl rfl rfl rfl rfl rfl (λ_=>rfl) λx hx=>.o 1 rfl ?_;refine o0.k (m x) rfl λv=>.s 1 rfl<|.cond rfl ?_ ?_;exact w6.r 5 rfl ⟨rfl,rfl⟩;exact w6.l 2 rfl<|lf rfl rfl;rintro(t|t|t)e σ' _ c;obtain⟨rfl,a⟩:=c;exact M8.sub a<|w6.l 4 rfl<|lf rfl rfl;obtain⟨rfl,a⟩:=c;exact M8.Eu rfl ⟨(λh=>by cases h),rfl,a⟩;obtain⟨rfl,a⟩:=c;exact M8.ret ⟨(λh=>by cases h),rfl,a⟩;exact w6.Eu rfl ⟨(λh=>by cases h),rfl,.of rfl rfl⟩;rintro(s3|r2)e σ' _ c;obtain⟨rfl,a⟩:=c;refine M8.exit rfl<|M8.sub a ?_;exact w6.r 4 rfl<|rt rfl;obtain⟨rfl,a⟩:=c;exact M8.ret ⟨.inl rfl,a⟩
def EK (s:List k6)(c:Nat)(cs:List<|List Tree)(a:k6->Option Bool)(f:∀g,uR Tryz.prog c ([qe g]++cs.map T.el) (a g) λr=>NB r):yw Tryz.prog 544 [.own 1000000,.fz c cs] [(1000000,.rs 250 7 s n5)] (H8 s a) (λ_=>.own 900000) λr=>[(900000,.rs 250 7 r n5)]:=by refine yw.i C8 42 [.tmp 4] Tryz.call544 Tryz.func544 rfl rfl rfl rfl λw0 L=>?_;refine w6.s 5 rfl ?_;refine w6.o 3 rfl<|.cr5 _ rfl rfl rfl (FX s c cs a f) (λ_=>rfl) (λ_=>rfl) λv=>.s 2 rfl ?_;refine w6.s 6 rfl ?_;refine w6.cond rfl ?_ ?_;exact w6.r 5 rfl<|rt ⟨[(1000000,900000)],_,_,rfl,rfl,rfl,rfl,rfl⟩;refine w6.o 7 rfl ?_;refine o0.s 2 rfl<|.loop (λt=>⟨[(0,.own 1000000),(1,.fz c cs),(5,NI t.1),(6,NI t.2.1)],[(1000000,.rs 250 7 t.2.2 n5)]⟩) (λb e σ'=>match b with|.inl t=>e=.exit 0/\Sub ⟨[(0,.own 1000000),(5,NI t.1)],[(1000000,.rs 250 7 t.2.2 n5)]⟩ σ'|.inr t=>False) (.of rfl rfl) ?_ ?_;intro s2;refine w6.s 8 rfl ?_;refine w6.cond rfl ?_ ?_;refine w6.o 5 rfl ?_;refine o0.o 2 rfl<|.aw5 rfl rfl rfl rfl rfl rfl rfl rfl rfl rfl λx hx=>.cs9 hx rfl rfl rfl rfl rfl rfl rfl rfl<|.s 3 rfl ?_;refine w6.o 4 rfl<|.k (f x) rfl λq=>.o 1 rfl ?_;refine o0.s 1 rfl<|.cond rfl ?_ ?_;refine w6.o 5 rfl<|.aw5 rfl rfl rfl rfl rfl rfl rfl rfl rfl rfl λw d=>.bh2 x [Y x.Event.q7,Y x.Event.Kind,Y x.Event.h8,Y x.Event.O1,Y x.Left,tB x.u7,Y x.At] d rfl rfl rfl rfl rfl rfl rfl rfl rfl rfl rfl rfl λl y=>?_;refine o0.s 7 rfl ?_;exact w6.l 5 rfl<|lf rfl rfl;refine w6.s 7 rfl ?_;exact w6.leaf<|lf rfl rfl;exact w6.Eu rfl ⟨(λh=>by cases h),rfl,.of rfl rfl⟩;rintro(s3|r)e σ' _ j;obtain⟨rfl,m⟩:=j;refine M8.exit rfl<|M8.sub m ?_;refine w6.o 4 rfl<|.ar8 rfl rfl rfl rfl rfl rfl rfl rfl rfl rfl rfl λu n=>.bM7 (⟨(⟨0,0,0,0⟩:j8),0,false,0⟩:k6) n TW rfl rfl rfl rfl rfl rfl rfl rfl rfl rfl rfl ?_;refine o0.o 5 rfl<|.bY6 (id':=2328) (tm':=[(5,NI s3.1),(37,NI s3.1),(40,NI s3.1)]) (L9:=[]) rfl rfl rfl rfl rfl rfl rfl rfl rfl (.of rfl rfl) rfl rfl rfl rfl λl2 p=>?_;exact o0.r 2 rfl<|rt ⟨[(2328,900000)],_,_,rfl,rfl,rfl,rfl,rfl⟩;exact j.elim
def CW (s:List e9)(d:Nat)(cs:List<|List Tree)(g:e9->Option Bool)(m:∀j,uR Tryz.prog d ([qe j]++cs.map T.el) (g j) λr=>NB r):uR Tryz.prog 548 [NS j6 s,.fz d cs] (P1 s g) λr=>NI r:=by refine uR.i C8 19 [.tmp 4] Tryz.call548 Tryz.func548 rfl rfl rfl rfl λw0 L=>?_;refine w6.s 5 rfl ?_;refine w6.s 7 rfl ?_;refine w6.loop (λp=>⟨[(0,NS j6 s),(1,.fz d cs),(7,NI (s.length:Int)),(8,NI p.1)],[]⟩) (λb e σ'=>match b with|.inl t=>e=.exit 0/\Sub ⟨[],[]⟩ σ'|.inr t=>e=.ret/\az3 tab σ' [.tmp 4]=some ((λr=>NI r:Int->T) t)) (.of rfl rfl) ?_ ?_;rintro⟨i,s2⟩;refine w6.s 5 rfl ?_;refine w6.cond rfl ?_ ?_;refine w6.s 2 rfl<|M8.sub (σ':=⟨[(0,NS j6 s),(1,.fz d cs),(7,NI (s.length:Int)),(8,NI i)],[]⟩) (.of rfl rfl)<|w6.bind (Q₁:=λf e σ'=>match f with|.next t=>e=.normal/\Sub ⟨[(0,NS j6 s),(1,.fz d cs),(7,NI (s.length:Int)),(8,NI i)],[]⟩ σ'|.brk t=>e=.exit 0/\Sub ⟨[],[]⟩ σ'|.ret t=>e=.ret/\az3 tab σ' [.tmp 4]=some ((λr=>NI r:Int->T) t)) ?_ ?_;refine w6.s 6 rfl ?_;refine w6.o 5 rfl<|.index rfl rfl rfl rfl rfl rfl rfl rfl (λ_=>rfl) λx hx=>.o 1 rfl ?_;refine o0.k (m x) rfl λv=>.s 1 rfl<|.cond rfl ?_ ?_;exact w6.r 5 rfl ⟨rfl,rfl⟩;exact w6.l 2 rfl<|lf rfl rfl;rintro(t|t|t)e σ' _ c;obtain⟨rfl,a⟩:=c;exact M8.sub a<|w6.l 4 rfl<|lf rfl rfl;obtain⟨rfl,a⟩:=c;exact M8.Eu rfl ⟨(λh=>by cases h),rfl,a⟩;obtain⟨rfl,a⟩:=c;exact M8.ret ⟨(λh=>by cases h),rfl,a⟩;exact w6.Eu rfl ⟨(λh=>by cases h),rfl,.of rfl rfl⟩;rintro(s3|r2)e σ' _ c;obtain⟨rfl,a⟩:=c;refine M8.exit rfl<|M8.sub a ?_;exact w6.r 4 rfl<|rt rfl;obtain⟨rfl,a⟩:=c;exact M8.ret ⟨.inl rfl,a⟩
def Bi (s:List e9)(c:Nat)(cs:List<|List Tree)(a:e9->Option Bool)(f:∀g,uR Tryz.prog c ([qe g]++cs.map T.el) (a g) λr=>NB r):yw Tryz.prog 469 [.own 1000000,.fz c cs] [(1000000,.rs 310 3 s j6)] (N1 s a) (λr=>NS j6 r) λ_=>[]:=by refine yw.i C8 42 [.tmp 4] Tryz.call469 Tryz.func469 rfl rfl rfl rfl λw0 L=>?_;refine w6.s 5 rfl ?_;refine w6.o 3 rfl<|.cr5 _ rfl rfl rfl (CW s c cs a f) (λ_=>rfl) (λ_=>rfl) λv=>.s 2 rfl ?_;refine w6.s 6 rfl ?_;refine w6.cond rfl ?_ ?_;refine w6.s 5 rfl<|M8.frz 1000000 rfl ?_;exact w6.ret<|rt ⟨[],_,_,rfl,rfl,rfl,rfl,rfl⟩;refine w6.o 7 rfl ?_;refine o0.s 2 rfl<|.loop (λt=>⟨[(0,.own 1000000),(1,.fz c cs),(5,NI t.1),(6,NI t.2.1)],[(1000000,.rs 310 3 t.2.2 j6)]⟩) (λb e σ'=>match b with|.inl t=>e=.exit 0/\Sub ⟨[(0,.own 1000000),(5,NI t.1)],[(1000000,.rs 310 3 t.2.2 j6)]⟩ σ'|.inr t=>False) (.of rfl rfl) ?_ ?_;intro s2;refine w6.s 8 rfl ?_;refine w6.cond rfl ?_ ?_;refine w6.o 5 rfl ?_;refine o0.o 2 rfl<|.aw5 rfl rfl rfl rfl rfl rfl rfl rfl rfl rfl λx hx=>.cs9 hx rfl rfl rfl rfl rfl rfl rfl rfl<|.s 3 rfl ?_;refine w6.o 4 rfl<|.k (f x) rfl λq=>.o 1 rfl ?_;refine o0.s 1 rfl<|.cond rfl ?_ ?_;refine w6.o 5 rfl<|.aw5 rfl rfl rfl rfl rfl rfl rfl rfl rfl rfl λw d=>.bh2 x [Y x.At,Y x.Channel,tB x.s8] d rfl rfl rfl rfl rfl rfl rfl rfl rfl rfl rfl rfl λl y=>?_;refine o0.s 7 rfl ?_;exact w6.l 5 rfl<|lf rfl rfl;refine w6.s 7 rfl ?_;exact w6.leaf<|lf rfl rfl;exact w6.Eu rfl ⟨(λh=>by cases h),rfl,.of rfl rfl⟩;rintro(s3|r)e σ' _ j;obtain⟨rfl,m⟩:=j;refine M8.exit rfl<|M8.sub m ?_;refine w6.o 4 rfl<|.ar8 rfl rfl rfl rfl rfl rfl rfl rfl rfl rfl rfl λu n=>.bM7 (⟨0,0,false⟩:e9) n TW rfl rfl rfl rfl rfl rfl rfl rfl rfl rfl rfl ?_;refine o0.o 5 rfl<|.frz 1000000 rfl ?_;exact o0.bY5 rfl rfl rfl rfl rfl rfl rfl (λ_=>rfl) rfl rfl λl2 p=>.r 2 rfl<|rt ⟨[],_,_,rfl,rfl,rfl,rfl,rfl⟩;exact j.elim
def KO (t2:w8):yw Tryz.prog 47 [qe t2] [] (ll t2) (λr=>.agg [NI r.D2,.own 900000]) λr=>[(900000,.rs 267 4 r.a8 j9)]:=by
 refine yw.i C8 10 [.cell 2 57] Tryz.call47 Tryz.func47 rfl rfl rfl rfl λw0 L=>?_;refine w6.s 6 rfl ?_;refine w6.bind (Q₁:=nrm λt=>⟨[NP 2],[(2,.box [NI t.D2,.own 5]),(5,.rs 267 4 t.a8 j9)]⟩) ?_ ?_
 ·refine M8.pre λl a=>w6.cr9 6 (bm 8 0) (bm 8 63) ⟨[NP 2,(4,NI t2.D2),(8,.own 5)],[(1,.box [NI t2.D2,NS j9 t2.a8]),(2,.box [NI 0,.t<|.v<|.slice none 0 0]),(5,.rs 267 4 l j9)]⟩ mixed (λ_ _ _ h=>by cases h.1) rfl rfl rfl rfl ?_ ?_
  ·refine cm.bR3 (aM1:=4) (l₁:=bm 8 27) (σ₁:=⟨[NP 2,(4,NI t2.D2),(7,NS j9 t2.a8)],[(1,.box [NI t2.D2,NS j9 t2.a8]),(2,.box [NI 0,.t<|.v<|.slice none 0 0])]⟩) ?_ λb=>?_;·exact cm.cO6 2 rfl (by kernel_rfl) rfl<|.one 5 rfl (by kernel_rfl) (o0.Tj a<|o0.RA (id:=5) (e':=0) (l:=([]:List ai1)) (r:=t2.a8) (tm':=[NP 2,(4,NI t2.D2),(7,NS j9 t2.a8)]) (L9:=[(1,.box [NI t2.D2,NS j9 t2.a8]),(2,.box [NI 0,.t<|.v<|.slice none 0 0])]) rfl rfl rfl rfl rfl rfl rfl (λ_=>rfl) (λ_=>rfl) (.inl ⟨rfl,rfl⟩) (.inl rfl) (.of rfl rfl) rfl rfl rfl<|o0.ifH<|o0.l 1 rfl ⟨rfl,rfl⟩)<|.done<|.of rfl rfl
   refine cm.bR3 (aM1:=3) (l₁:=bm 8 31) (σ₁:=⟨[NP 2,(4,NI t2.D2),(5,.own 5),(7,NS j9 t2.a8)],[(1,.box [NI t2.D2,NS j9 t2.a8]),(2,.box [NI 0,.t<|.v<|.slice none 0 0]),(5,.rs 267 4 ([]:List ai1) j9)]⟩) ?_ λc=>?_;·exact cm.one 5 rfl (by kernel_rfl) (o0.Tj a<|o0.RA (id:=5) (e':=0) (l:=([]:List ai1)) (r:=t2.a8) (tm':=[NP 2,(4,NI t2.D2),(7,NS j9 t2.a8)]) (L9:=[(1,.box [NI t2.D2,NS j9 t2.a8]),(2,.box [NI 0,.t<|.v<|.slice none 0 0])]) rfl rfl rfl rfl rfl rfl rfl (λ_=>rfl) (λ_=>rfl) (.inl ⟨rfl,rfl⟩) (.inl rfl) (.of rfl rfl) rfl rfl rfl<|o0.ifH<|o0.l 1 rfl ⟨rfl,rfl⟩)<|.done<|.of rfl rfl
   refine cm.bR3 (aM1:=3) (l₁:=bm 8 61) (σ₁:=⟨[NP 2,(3,.ptr 1 0),(8,.own 5)],[(1,.box [NI t2.D2,NS j9 t2.a8]),(2,.box [NI 0,.t<|.v<|.slice none 0 0]),(5,.rs 267 4 l j9)]⟩) ?_ λd=>?_;·exact cm.ga 2 [1] (by kernel_rfl) rfl<|.done<|.of rfl rfl
   refine cm.ga 6 [0,3] (by kernel_rfl) rfl<|.all [1,2,4] (by kernel_rfl) rfl<|oV.run _ rfl rfl rfl ?_ ?_
   ·refine cm.all [2,4] (by kernel_rfl) rfl<|oV.run _ rfl rfl rfl ?_ ?_;·exact cm.ga 3 [4] (by kernel_rfl) rfl<|.one 5 rfl (by kernel_rfl) (o0.Tj a<|o0.RA (id:=5) (e':=0) (l:=([]:List ai1)) (r:=t2.a8) (tm':=[NP 2,(4,NI t2.D2),(6,.ptr 1 1),(7,NS j9 t2.a8)]) (L9:=[(1,.box [NI t2.D2,NS j9 t2.a8]),(2,.box [NI 0,.t<|.v<|.slice none 0 0])]) rfl rfl rfl rfl rfl rfl rfl (λ_=>rfl) (λ_=>rfl) (.inl ⟨rfl,rfl⟩) (.inl rfl) (.of rfl rfl) rfl rfl rfl<|o0.ifH<|o0.l 1 rfl ⟨rfl,rfl⟩)<|.done<|.of rfl rfl
    exact oV.bp8 _ rfl rfl rfl (.of rfl rfl) b oV.nil
   refine oV.run _ rfl rfl rfl ?_ ?_
   ·refine cm.ga 4 [4] (by kernel_rfl) rfl<|.all [1,5] (by kernel_rfl) rfl<|oV.bp8 _ rfl rfl rfl (.of rfl rfl) c<|oV.cons _ rfl rfl ?_ d ?_;·refine o0.Tj a<|o0.RA (id:=5) (e':=0) (l:=([]:List ai1)) (r:=t2.a8) (tm':=[NP 2,(3,.ptr 1 0),(6,.ptr 1 1),(7,NS j9 t2.a8)]) (L9:=[(1,.box [NI t2.D2,NS j9 t2.a8]),(2,.box [NI 0,.t<|.v<|.slice none 0 0])]) rfl rfl rfl rfl rfl rfl rfl (λ_=>rfl) (λ_=>rfl) (.inl ⟨rfl,rfl⟩) (.inl rfl) (.of rfl rfl) rfl rfl rfl<|o0.ifH ?_;exact o0.l 1 rfl<|lf rfl rfl
    exact oV.nil
   refine oV.run _ rfl rfl rfl ?_ ?_
   ·refine cm.all [1,2] (by kernel_rfl) rfl<|oV.bp8 _ rfl rfl rfl (.of rfl rfl) b<|oV.run _ rfl rfl rfl ?_ ?_
    ·refine cm.all [1,5] (by kernel_rfl) rfl<|oV.bp8 _ rfl rfl rfl (.of rfl rfl) c<|oV.cons _ rfl rfl ?_ d ?_;·refine o0.Tj a<|o0.RA (id:=5) (e':=0) (l:=([]:List ai1)) (r:=t2.a8) (tm':=[NP 2,(3,.ptr 1 0),(7,NS j9 t2.a8)]) (L9:=[(1,.box [NI t2.D2,NS j9 t2.a8]),(2,.box [NI 0,.t<|.v<|.slice none 0 0])]) rfl rfl rfl rfl rfl rfl rfl (λ_=>rfl) (λ_=>rfl) (.inl ⟨rfl,rfl⟩) (.inl rfl) (.of rfl rfl) rfl rfl rfl<|o0.ifH ?_;exact o0.l 1 rfl<|lf rfl rfl
     exact oV.nil
    exact oV.nil
   exact oV.nil
  exact o0.l 3 rfl<|lf rfl rfl
 rintro f e σ' _ ⟨rfl,hs⟩;exact M8.sub hs<|w6.ret<|rt ⟨[(5,900000)],_,_,rfl,rfl,rfl,rfl,rfl⟩
def GI {s r:List y6}{n:Int}(h:cn3 s n=some r):Pv.aM s n=some r:=by match s,h with
 |[x],h=>
  change(if n=1 then some [x]else none)=some r at h;by_cases a:n=1;case neg=>rw[if_neg a]at h;cases h
  subst a;rw[if_pos rfl]at h;cases h;have e:Pv.aM [x] 1=tI (o3 Pv.nu (1,[x])) λt=>match t with|.inl c=>some c.2|.inr r=>r.elim:=by kernel_rfl
  rw[e,j3 (b:=.inl (1,[x])) rfl];rfl|[],h=>simp[cn3]at h|_::_::_,h=>simp[cn3]at h
def Es {s r:List k6}{f:k6->Option Bool}(h:aK5 s=some r):Pv.H8 s f=some r:=by
 cases s with|nil=>
  simp only[aK5,AI]at h;subst h;have h1:J9 (([]:List k6).length:Int) (Pv.P0 [] f) ()=some (.inl ()):=by rw[U2 _ sq];rfl
  have a:Pv.y9 [] f=some (-1):=by unfold Pv.y9;rw[h1];rfl
  unfold Pv.H8;rw[a];rfl|cons x l=>simp[aK5]at h
def AJ {s r:List e9}{f:e9->Option Bool}(h:aK5 s=some r):Pv.N1 s f=some r:=by
 cases s with|nil=>
  simp only[aK5,AI]at h;subst h;have h1:J9 (([]:List e9).length:Int) (Pv.hI [] f) ()=some (.inl ()):=by rw[U2 _ sq];rfl
  have a:Pv.P1 [] f=some (-1):=by unfold Pv.P1;rw[h1];rfl
  unfold Pv.N1;rw[a];rfl|cons x l=>simp[aK5]at h
open Go Go.Pv Go.Proofs Go.Pv.Et
open Tryz
set_option maxHeartbeats 4000000
def mZ (a:Int):C prog Bool:=.of 232 [qe a]<|.R<|a>=0&&a<46080
def gW (s:List Int)(v i:Int)(_:Unit):M prog Int<|Fl Unit Int:=.O (.ix By s i) λx=>.I (v==x) (.R<|.ret i)<|.R<|.next ()
def aD7 (s:List Int)(v:Int):C prog Int:=.of 376 [qe s,qe v]<|M.QN s.length 2 8 (λ_=>[]) 0 (.one .rt) (gW s v) () (λ_=>.R<|-1) .R
def bF (s:List Int)(v:Int):C prog Bool:=.of 233 [qe s,qe v]<|.K (aD7 s v) λa=>.R (a>=0)
def qI (e2:j5)(i:Int):M prog Bool<|Int⊕Int⊕Bool:=.I (i<=e2.ai9.length) (.K (bF e2.ai9 i) λa=>.I (!a) (.R<|.inr<|.inr false)<|.R<|.inl<|H<|i+1)<|.R<|.inr<|.inl i
def Y1 (e2:j5):C prog Bool:=.of 103 [qe e2]<|.G ((e2.ai9.length:Int)<1||(e2.ai9.length:Int)>8) (.R true) (.K (mZ e2.R6) λv=>.R !v) λb2=>.I b2 (.R false)<|.L (λt=>[.t 4<|qe t,.x 5]) 0 (.one .rt) (qI e2) 1 (λ_=>.R true) .R
def KE (x:List y6)(count:Int):C prog<|List y6:=⟨234,[qe x,qe count],aM x count,λ_=>cn3 x count,λr=>qe r,GH x count,λ_ r h=>GI h⟩
def He (a:Int):C prog<|List y6×Int:=.of 104 [qe a]<|.I (a<1||a>8) (.R ([],2))<|.Z (.fr 11)<|.K (KE [⟨0,100,0⟩] a) λv=>.R (v,0)
def Hf:C prog ia:=.of 105 []<|.R ⟨0,0,false⟩
def BP:C prog E7:=.of 106 []<|.Mk ab 9 ⟨0,0⟩ λl=>.R ⟨false,false,1000,0,l⟩
def va (e2:j5):C prog<|w4×Int:=.of 27 [qe e2]<|.K (Y1 e2) λv=>.I (!v) (.R (⟨⟨0,0,false⟩,⟨0⟩,[],⟨false,false,0,0,[]⟩,0,⟨0,0⟩⟩,1))<|.K (He e2.ai9.length) λr2=>.I (r2.2!=0) (.R (⟨⟨0,0,false⟩,⟨0⟩,[],⟨false,false,0,0,[]⟩,0,⟨0,0⟩⟩,1))<|.K Hf λa=>.K BP λv3=>.R (⟨a,⟨0⟩,r2.1,v3,0,⟨0,-1⟩⟩,0)
def Hj (a:Int):C prog<|w8×Int:=.of 107 [qe a]<|.I (a<1||a>16) (.R (⟨0,[]⟩,2))<|.Mk j9 a ⟨false,0,false,false⟩ λl=>.R (⟨0,l⟩,0)
def bX (s:List Int):C prog<|List Int:=.of 108 [qe s]<|.Nl By s (.I true (.R []) .N) λs=>.I false .N<|.U (.ap By [] s 5) .R
def GV:C prog A1:=.of 109 []<|.R ⟨false,0,0,0,0,0⟩
def po (e2:j5):C prog<|a7×Int:=.of 28 [qe e2]<|.K (Y1 e2) λv=>.I (!v) (.R (⟨⟨[],0⟩,⟨false,0,0,0,0,0⟩,⟨0,[]⟩,[],[],false⟩,1))<|.K (Hj<|H<|2*e2.ai9.length) λr2=>.I (r2.2!=0) (.R (⟨⟨[],0⟩,⟨false,0,0,0,0,0⟩,⟨0,[]⟩,[],[],false⟩,1))<|.D [] []<|.K (bX e2.ai9) λa=>.K GV λv3=>.R (⟨⟨a,e2.R6⟩,v3,r2.1,[],[],false⟩,0)
def B7 (x low high:Int):C prog Bool:=.of 235 [qe x,qe low,qe high]<|.R<|x>=low&&x<=high
def hP (b2:D0):C prog Bool:=.of 110 [qe b2]<|.K (B7 b2.E1 100 1048576) λv=>.G v (.K (B7 b2.aa 0 65536) .R) (.R false) λa=>.G a (.K (B7 b2.B2 0 65536) .R) (.R false) λb=>.G b (.K (B7 b2.jv 1 65536) .R) (.R false) λc=>.G c (.K (B7 b2.E4 0 1023) .R) (.R false) λd=>.G d (.K (B7 b2.B0 1 1024) .R) (.R false) λe=>.G e (.K (B7 b2.tT 0 20) .R) (.R false) .R
def Ng (b2:D0):C prog<|U8×Int:=.of 29 [qe b2]<|.K (hP b2) λv=>.I (!v) (.R (⟨0,0,0,0,0,[]⟩,1))<|.R (⟨0,0,0,1013,0,[]⟩,0)
def nH (s:List n9)(a:Cl prog n9 Bool (λx=>[qe x]) λr=>.t<|tB r)(i:Int)(_:Unit):M prog Int<|Fl Unit Int:=.O (.ix L6 s i) λx=>.K (a.at x) λv=>.I v (.R<|.ret i)<|.R<|.next ()
def iz (s:List n9)(a:Cl prog n9 Bool (λx=>[qe x]) λr=>.t<|tB r):C prog Int:=.of 236 [qe s,.fz a.n a.cs]<|M.QN s.length 2 8 (λ_=>[]) 0 (.one .rt) (nH s a) () (λ_=>.R<|-1) .R
def V9 (s:List n9)(a:Cl prog n9 Bool (λx=>[qe x]) λr=>.t<|tB r):C prog Bool:=.of 111 [qe s,.fz a.n a.cs]<|.K (iz s a) λv=>.R (v>=0)
def E9 (x low high:Int):C prog Bool:=.of 253 [qe x,qe low,qe high]<|.R<|x>=low&&x<=high
def lS (c:n9):C prog Bool:=.of 237 [qe c]<|.K (E9 c.Code 1 16777215) λv=>.G v (.K (E9 c.ru 1 100) .R) (.R false) λb2=>.G b2 (.K (E9 c.Pass 1 100) .R) (.R false) λa=>.G a (.K (E9 c.ON 1 100) .R) (.R false) λb=>.G b (.K (E9 c.Age c.ON 255) .R) (.R false) λd=>.G d (.K (E9 c.u5 0 255) .R) (.R false) λe=>.G e (.K (E9 c.Frame 0 8) .R) (.R false) .R
def vf (c:n9):C prog Bool:=.of 112 [qe c]<|.K (lS c) λv=>.R !v
def hX (_:Int)(x:n9)(a:List<|Int×Bool):M prog Bool<|Fl (List<|Int×Bool) Bool:=.W (.hx 0)<|.Ml ct2 a x.Code<|.I (KN false a x.Code) (.R<|.ret false)<|.Mu ct2 a x.Code true<|.R<|.next<|Wx a x.Code true
def lH (l:List n9):C prog Bool:=.of 113 [qe l]<|.Mm 2048<|M.Q L6 l 2 9 (λt=>[.x 6,.b 2048<|.mp<|List.map (ent (λn:Int=>.int .i64 n) λv:Bool=>.bool v) t]) 0 (.one .rt) hX [] (λ_=>.R true) .R
def bE (s:List n9):C prog<|List n9:=.of 114 [qe s]<|.Nl L6 s (.I true (.R []) .N) λs=>.I false .N<|.U (.ap L6 [] s 5) .R
def rR (l:List n9):C prog<|y2×Int:=.of 30 [qe l]<|.I ((l.length:Int)>64) (.R (⟨[],[],0,false⟩,5))<|.K (V9 l<|.of vf 112 []) λv=>.I v (.R (⟨[],[],0,false⟩,1))<|.K (lH l) λa=>.I (!a) (.R (⟨[],[],0,false⟩,8))<|.D [] []<|.K (bE l) λv3=>.Mk u9 l.length ⟨0,0,0,0,0,[],0⟩ λl2=>.R (⟨v3,l2,0,false⟩,0)
def iA (s:List Int)(a:Cl prog Int Bool (λx=>[.t<|Y x]) λr=>.t<|tB r)(i:Int)(_:Unit):M prog Int<|Fl Unit Int:=.O (.ix By s i) λx=>.K (a.at x) λv=>.I v (.R<|.ret i)<|.R<|.next ()
def fD (s:List Int)(a:Cl prog Int Bool (λx=>[.t<|Y x]) λr=>.t<|tB r):C prog Int:=.of 379 [qe s,.fz a.n a.cs]<|M.QN s.length 2 8 (λ_=>[]) 0 (.one .rt) (iA s a) () (λ_=>.R<|-1) .R
def w7 (s:List Int)(a:Cl prog Int Bool (λx=>[.t<|Y x]) λr=>.t<|tB r):C prog Bool:=.of 240 [qe s,.fz a.n a.cs]<|.K (fD s a) λv=>.R (v>=0)
def kU (a:Int):C prog Bool:=.of 248 [qe a]<|.R<|a>=-1073741824&&a<=1073741824
def qV (l:List Int)(i:Int)(_:Unit):M prog Bool<|Fl Unit Bool:=.O (.ix By l i) λx=>.K (kU x) λv=>.G (!v) (.R true) (.G (i>0) (.O (.ix By l<|H<|i-1) λa=>.R (x<=a)) (.R false) .R) λb=>.I b (.R<|.ret false)<|.R<|.next ()
def sf (l:List Int):C prog Bool:=.of 246 [qe l]<|.I ((l.length:Int)<2||(l.length:Int)>32) (.R false)<|M.QN l.length 2 15 (λ_=>[]) 0 (.one .rt) (qV l) () (λ_=>.R true) .R
def qU (z:Int):C prog Bool:=.of 247 [qe z]<|.K (kU z) λv=>.R !v
def ov (a:SMap)(_:Int)(x:List Int)(_:Unit):M prog Bool<|Fl Unit Bool:=.W (.hx 0)<|.G (x.length !=(a.Y.length:Int)) (.R true) (.K (w7 x<|.of qU 247 []) .R) λb=>.I b (.R<|.ret false)<|.R<|.next ()
def I5 (a:SMap):C prog Bool:=.of 117 [qe a]<|.K (sf a.X) λv=>.G (!v) (.R true) (.K (sf a.Y) λb=>.R !b) λb2=>.I (b2||a.Z.length !=(a.X.length:Int)) (.R false)<|M.Q (cv3 By) a.Z 2 27 (λ_=>[.x 5,.x 24]) 0 (.one .rt) (ov a) () (λ_=>.R true) .R
def CB (a:Int):C prog Bool:=.of 250 [qe a]<|.R<|a< -1073741824||a>1073741824
def vS (l:List Int)(i:Int)(_:Unit):M prog Bool<|Fl Unit Bool:=.D [] []<|.O (.ix By l i) λx=>.O (.ix By l<|H<|i+1) λa=>.I (x>=a) (.R<|.ret false)<|.R<|.next ()
def Ex (l:List Int):C prog Bool:=.of 249 [qe l]<|.G ((l.length:Int)<2||(l.length:Int)>32) (.R true) (.K (w7 l<|.of CB 250 []) .R) λb2=>.I b2 (.R false)<|M.QN (H<|l.length-1) 2 19 (λ_=>[]) 0 (.one .rt) (vS l) () (λ_=>.R true) .R
def Y0 (c:R7):C prog Bool:=.of 118 [qe c]<|.G (c.X.length==(c.Y.length:Int)) (.K (Ex c.X) .R) (.R false) λb2=>.G b2 (.K (w7 c.Y<|.of CB 250 []) λa=>.R !a) (.R false) .R
def fM (x:Int):C prog Bool:=.of 487 [qe x]<|.R<|x !=x
def yW (x y:Int):C prog Bool:=.of 378 [qe x,qe y]<|.K (fM x) λv=>.G v (.K (fM y) λa=>.R !a) (.R false) λb2=>.R<|b2||x<y
def cB (x:List Int)(i:Int):M prog Bool<|Int⊕Int⊕Bool:=.I (i>0) (.D [] []<|.O (.ix By x i) λa=>.O (.ix By x<|H<|i-1) λb=>.K (yW a b) λv=>.I v (.R<|.inr<|.inr false)<|.R<|.inl<|H<|i-1)<|.R<|.inr<|.inl i
def bG (x:List Int):C prog Bool:=.of 238 [qe x]<|.L (λt=>[.t 3<|qe t]) 0 (.one .rt) (cB x) (H<|x.length-1) (λ_=>.R true) .R
def J5 (a low high:Int):C prog Bool:=.of 239 [qe a,qe low,qe high]<|.R<|a>=low&&a<=high
def BC (y:Int):C prog Bool:=.of 241 [qe y]<|.K (J5 y 100 3000) λv=>.R !v
def yS (_:Int)(x:List Int)(_:Unit):M prog Bool<|Fl Unit Bool:=.W (.hx 0)<|.K (bG x) λv3=>.G (!v3) (.R true) (.O (.ix By x 0) λa=>.K (J5 a 0 1048576) λv4=>.R !v4) λb=>.G b (.R true) (.O (.ix By x<|H<|x.length-1) λc=>.K (J5 c 0 1048576) λv5=>.R !v5) λd=>.I d (.R<|.ret false)<|.R<|.next ()
def xR (t2:j1):C prog Bool:=.of 115 [qe t2]<|.K (I5 t2.Ai) λv=>.G (!v) (.R true) (.K (Y0 t2.B4) λa=>.R !a) λb2=>.I b2 (.R false)<|M.Q (cv3 By) t2.Ai.Z 2 19 (λ_=>[.x 5,.x 15,.x 16]) 0 (.one .rt) yS () (λ_=>.K (w7 t2.B4.Y<|.of BC 241 []) λb=>.R !b) .R
def gV (s:List<|List Int)(a:Cl prog (List Int) Bool (λx=>[.t<|tS By x]) λr=>.t<|tB r)(i:Int)(_:Unit):M prog Int<|Fl Unit Int:=.O (.ix (cv3 By) s i) λx=>.K (a.at x) λv=>.I v (.R<|.ret i)<|.R<|.next ()
def dQ (s:List<|List Int)(a:Cl prog (List Int) Bool (λx=>[.t<|tS By x]) λr=>.t<|tB r):C prog Int:=.of 102 [qe s,.fz a.n a.cs]<|M.QN s.length 2 8 (λ_=>[]) 0 (.one .rt) (gV s a) () (λ_=>.R<|-1) .R
def H6 (s:List<|List Int)(a:Cl prog (List Int) Bool (λx=>[.t<|tS By x]) λr=>.t<|tB r):C prog Bool:=.of 25 [qe s,.fz a.n a.cs]<|.K (dQ s a) λv=>.R (v>=0)
def I6 (x low high:Int):C prog Bool:=.of 381 [qe x,qe low,qe high]<|.R<|x>=low&&x<=high
def oy (x c c2:Int):C prog Bool:=.of 380 [qe x,.el<|By c,.el<|By c2]<|.K (I6 x c c2) λv=>.R !v
def nj (l:List Int)(low high:Int):C prog Bool:=.of 242 [qe l,qe low,qe high]<|.Z (.fb 4)<|.Z (.fb 5)<|.K (w7 l<|.of (λa=>oy a low high) 380 [By low,By high]) .R
def nI (x:List Int)(cmp:Cl prog (Int×Int) Int (λx=>[.t<|Y x.1,.t<|Y x.2]) λr=>.t<|Y r)(i:Int):M prog Bool<|Int⊕Int⊕Bool:=.I (i>0) (.D [] []<|.O (.ix By x i) λa=>.O (.ix By x<|H<|i-1) λb=>.K (cmp.at (a,b)) λv=>.I (v<0) (.R<|.inr<|.inr false)<|.R<|.inl<|H<|i-1)<|.R<|.inr<|.inl i
def S5 (x:List Int)(cmp:Cl prog (Int×Int) Int (λx=>[.t<|Y x.1,.t<|Y x.2]) λr=>.t<|Y r):C prog Bool:=.of 243 [qe x,.fz cmp.n cmp.cs]<|.L (λt=>[.t 5<|qe t]) 0 (.one .rt) (nI x cmp) (H<|x.length-1) (λ_=>.R true) .R
def tJ (a b2:Int):C prog Int:=.of 244 [qe a,qe b2]<|.R<|H<|b2-a
def tL (row:List Int):C prog Bool:=.of 245 [qe row]<|.K (nj row 0 10000) λv=>.G v (.R true) (.K (bG row) λa=>.R !a) .R
def ni (t2:j1):C prog Bool:=.of 116 [qe t2]<|.K (I5 t2.j4) λv=>.G (!v) (.R true) (.K (Y0 t2.p8) λb=>.R !b) λb2=>.G b2 (.R true) (.K (nj t2.p8.Y 0 1000) .R) λc=>.I c (.R false)<|.K (S5 t2.p8.Y<|.of (λa=>tJ a.1 a.2) 244 []) λv4=>.I (!v4) (.R false)<|.K (H6 t2.j4.Z<|.of tL 245 []) λv5=>.R !v5
def N4 (x low high:Int):C prog Bool:=.of 252 [qe x,qe low,qe high]<|.R<|x>=low&&x<=high
def vR (x c c2:Int):C prog Bool:=.of 251 [qe x,.el<|By c,.el<|By c2]<|.K (N4 x c c2) λv=>.R !v
def lF (l:List Int)(low high:Int):C prog Bool:=.of 119 [qe l,qe low,qe high]<|.Z (.fb 4)<|.Z (.fb 5)<|.K (w7 l<|.of (λa=>vR a low high) 251 [By low,By high]) λv=>.R !v
def dc (g:uQ):C prog Bool:=.of 120 [qe g]<|.R<|g.P>=0&&g.P<=65536&&g.I>=0&&g.I<=65536&&g.Bu>=-1073741824&&g.Bu<=g.fI&&g.fI<=1073741824
def nS (_:Int)(x:List Int)(_:Unit):M prog Bool<|Fl Unit Bool:=.W (.hx 0)<|.K (lF x (-1280) 3840) λa=>.I (!a) (.R<|.ret false)<|.R<|.next ()
def cb (t2:j1):C prog Bool:=.of 31 [qe t2]<|.K (xR t2) λv=>.G (!v) (.R true) (.K (ni t2) λa=>.R !a) λb2=>.G b2 (.R true) (.K (I5 t2.D1) λv3=>.R !v3) λb=>.G b (.R true) (.K (I5 t2.rA) λv4=>.R !v4) λc=>.G c (.R true) (.K (Y0 t2.L5) λv5=>.R !v5) λd=>.G d (.R true) (.K (Y0 t2.X5) λe=>.R !e) λf=>.I f (.R false)<|M.Q (cv3 By) t2.D1.Z 2 41 (λ_=>[.x 37,.x 38]) 0 (.one .rt) nS () (λ_=>.K (lF t2.L5.Y 500 10000) λg=>.G g (.K (lF t2.X5.Y 0 10000) .R) (.R false) λh=>.G h (.K (dc t2.T4) .R) (.R false) .R) .R
def BK (x:Int):C prog Bool:=.of 489 [qe x]<|.K (E9 x (-1099511627776) 1099511627776) .R
def vY (x:Int):C prog Bool:=.of 488 [qe x]<|.K (BK x) λv=>.R !v
def ve (c:n9)(l:List Int):C prog Bool:=.of 382 [qe c,qe l]<|.G (l.length==c.Frame) (.K (w7 l<|.of vY 488 []) λv=>.R !v) (.R false) .R
def dY (a:A3)(bits:Int):C prog Bool:=.of 383 [qe a,qe bits]<|.R<|F5 .i64 a.C0 bits==bits
def BI (a:A3):C prog Bool:=.of 384 [qe a]<|.R<|F5 .i64 a.C0 6!=0
def BJ (c:n9)(a:A3)(b:Int):C prog Bool:=.of 254 [qe c,qe a,qe b]<|.K (E9 a.C0 0 31) λv=>.G (!v) (.R true) (.K (E9 a.s6 (H<|0-c.Pass) c.ru) λj=>.R !j) λb2=>.G b2 (.R true) (.K (E9 a.A0 0 2) λv3=>.R !v3) λk=>.G k (.R true) (.K (E9 a.Clean 0<|H<|c.Age-1) λv4=>.R !v4) λl=>.G l (.R true) (.K (E9 a.k9 0 255) λv5=>.R !v5) λm=>.G m (.R true) (.K (E9 a.A6 0 b) λn=>.R !n) λo=>.G o (.R true) (.G ((a.Frame.length:Int)>0) (.K (ve c a.Frame) λp=>.R !p) (.R false) .R) λq=>.I q (.R false)<|.K (dY a 1) λr=>.G r (.K (dY a 10) λv9=>.R<|!v9||a.A6 !=b) (.R false) λs=>.I s (.R false)<|.D [] []<|.K (dY a 4) λd=>.I (!d==(a.A0==2)) (.R false)<|.K (dY a 16) λe=>.G e (.K (dY a 4) λf=>.R<|!f||!c.Rq) (.R false) λg=>.I g (.R false)<|.K (dY a 2) λh=>.I (h&&a.Clean !=0) (.R false)<|.K (BI a) λi=>.I i (.R<|a.k9>=1&&a.A0>=1&&a.A6>=1&&a.Frame.length==c.Frame)<|.R<|a.A0==0&&a.Clean==0&&a.k9==0&&a.A6==0&&(a.Frame.length:Int)==0
def IQ (a:y2)(i:Int)(_:Unit):M prog Bool<|Fl Unit Bool:=.O (.ix u9 a.L i) λx=>.D [] []<|.O (.ix L6 a.G3 i) λb=>.K (BJ b x a.jq) λv4=>.I (!v4) (.R<|.ret false)<|.R<|.next ()
def dD (a:y2):C prog Bool:=.of 121 [qe a]<|.G ((a.G3.length:Int)>64) (.R true) (.K (V9 a.G3<|.of vf 112 []) .R) λb2=>.G b2 (.R true) (.K (lH a.G3) λb=>.R !b) λc=>.G (c||a.L.length !=(a.G3.length:Int)) (.R true) (.K (E9 a.jq 0 1073741824) λv3=>.R !v3) λd=>.I (d||a.dA&&a.jq<1) (.R false)<|M.QN a.L.length 2 47 (λ_=>[.x 5,.x 44]) 0 (.one .rt) (IQ a) () (λ_=>.R true) .R
def ja (s:List A3):CG prog<|List A3:=.of 255 [qe s] [] (λ_=>.own 900000) (λr=>[(900000,.rs 171 7 r u9)]) [900000]<|.Nl u9 s (.I true (.Z (.np 2 70000 171 7 [])<|.R []) .N) λs=>.I false .N<|.U (.ap u9 [] s 5) .R
def qJ (i:Int)(a:List A3):M prog y2<|Fl (List A3) Empty:=.D [] []<|.O (.ix u9 a i) λx=>.W (.ly 0)<|.K (bX x.Frame) λb=>.W (.hx 0)<|.U (.st u9 a i {x with Frame:=b} 0) λl=>.R<|.next l
def rT (a:y2):CG prog y2:=.of 122 [qe a] [] (λr=>.agg [qe r.G3,.own 900000,qe r.jq,.t<|tB r.dA]) (λr=>[(900000,.rs 171 7 r.L u9)]) [900000]<|.KG (ja a.L) [2048] λv=>M.QN v.length 2 11 (λt=>[.x 4,.x 6,.x 7,.x 8,.x 9,.b 2048<|.rs 171 7 t u9]) 0 .e qJ v (λc=>.R {a with L:=c}) λt=>t.elim
def hU (i:Int)(a:List A3):M prog (y2×Int)<|Fl (List A3) Empty:=.O (.ix u9 a i) λx=>.U (.st u9 a i {x with s6:=0} 0) λl=>.W (.ly 0)<|.U (.st u9 l i {x with C0:=sU .i64 x.C0 9,s6:=0} 0) λl2=>.R<|.next l2
def lG (a:y2):C prog<|y2×Int:=.of 32 [qe a]<|.K (dD a) λv=>.I (!v) (.R (⟨[],[],0,false⟩,1))<|.I a.dA (.R (⟨[],[],0,false⟩,6))<|.I (a.jq==1073741824) (.R (⟨[],[],0,false⟩,9))<|.KG (rT a) [2168] λc=>M.QN c.L.length 2 30 (λt=>[.x 12,.x 16,.x 21,.x 22,.x 25,.x 26,.x 27,.x 28,.b 2168<|.rs 171 7 t u9]) 1 .e hU c.L (λd=>.R (⟨c.G3,d,H<|c.jq+1,true⟩,0)) λt=>t.elim
def pn (a:Int):C prog Bool:=.of 123 [qe a]<|.R<|a>=1&&a<=65535
def QD (a:Int):C prog<|bc×Int:=.of 33 [qe a]<|.K (pn a) λv=>.I (!v) (.R (⟨0,0,0,false,false⟩,2))<|.R (⟨a,0,0,false,false⟩,0)
def YN:C prog T2:=.of 34 []<|.R ⟨0,0,0,0,0,0⟩
def Nf:C prog I2:=.of 35 []<|.R ⟨false,0,0,false⟩
def Hk:C prog N3:=.of 36 []<|.R ⟨false,0,0⟩
def Vv:C prog fJ:=.of 37 []<|.R ⟨false,1,0⟩
def IJ (t2:j1)(b2:D0)(e2:j5)(l:List n9):C prog<|Z6×Int:=.of 7 [qe t2,qe b2,qe e2,qe l]<|.K (va e2) λr2=>.K (po e2) λr3=>.K (Ng b2) λr4=>.K (rR l) λr5=>.K (cb t2) λv=>.I (!v||r2.2!=0||r3.2!=0||r4.2!=0||r5.2!=0||(l.length:Int)<7) (.R (⟨⟨⟨[],[],[]⟩,⟨[],[],[]⟩,⟨[],[],[]⟩,⟨[],[],[]⟩,⟨[],[]⟩,⟨[],[]⟩,⟨[],[]⟩,⟨[],[]⟩,⟨0,0,0,0⟩⟩,⟨⟨0,0,false⟩,⟨0⟩,[],⟨false,false,0,0,[]⟩,0,⟨0,0⟩⟩,⟨⟨[],0⟩,⟨false,0,0,0,0,0⟩,⟨0,[]⟩,[],[],false⟩,⟨0,0,0,0,0,0⟩,⟨false,0,0,false⟩,⟨false,0,0⟩,⟨0,0,false⟩,⟨0,0,0,false,false⟩,⟨false,0,0⟩,⟨[],[],0,false⟩,⟨0,0,0,0,0,[]⟩,⟨0,0,0,0,0,0,0⟩,0⟩,1))<|.K (lG r5.1) λa=>.K (QD 1) λb=>.D [] []<|.K YN λc=>.K Nf λv3=>.K Hk λv4=>.K Vv λv5=>.R (⟨t2,r2.1,r3.1,c,v3,v4,⟨0,0,false⟩,b.1,v5,a.1,r4.1,b2,0⟩,0)
def Dr (_ x:Int)(_:Unit):M prog Bool<|Fl Unit Bool:=.W (.hx 0)<|.K (B7 x 500 2000) λa=>.I (!a) (.R<|.ret false)<|.R<|.next ()
def zf (b2:D0)(p2:U8):C prog Bool:=.of 138 [qe b2,qe p2]<|.K (hP b2) λv=>.G (!v) (.R true) (.K (B7 p2.y5 0 3019898879) λa=>.R !a) λb=>.G b (.R true) (.K (B7 p2.n4 0 262144) λv3=>.R !v3) λc=>.G c (.R true) (.K (B7 p2.Rest 0<|H<|b2.E1-1) λv4=>.R !v4) λe=>.G e (.R true) (.K (B7 p2.z6 50 1013) λv5=>.R !v5) λf=>.G f (.R true) (.K (B7 p2.E4 0 2147483648) λg=>.R !g) λh=>.I (h||p2.Path.length>H (b2.tT+1)) (.R false)<|M.Q By p2.Path 2 55 (λ_=>[.x 2,.x 3,.x 52,.d 2,.d 3]) 0 (.one .rt) Dr () (λ_=>.R true) .R
def mW (t2:Int):C prog Bool:=.of 389 [qe t2]<|.R<|t2>=0&&t2<=1099511627776
def pE (c:A1):C prog Bool:=.of 262 [qe c]<|.I (!c.F8) (.W .eq<|.R<|c.F8==false&&(c.At==0&&(c.q7==0&&(c.q8==0&&(c.I9==0&&(c.K6==0&&true))))))<|.K (mW c.At) λv=>.I (!v||c.q7<0||c.q7>=46080||c.q8<1||c.q8>1073741824||c.I9<192||c.I9>1920) (.R false)<|.R<|c.K6==c.I9||c.K6==H (2*c.I9)||c.K6==H (3*c.I9)
def ng (s:List ai1)(a:Cl prog ai1 Bool (λx=>[qe x]) λr=>.t<|tB r)(i:Int)(_:Unit):M prog Int<|Fl Unit Int:=.O (.ix j9 s i) λx=>.K (a.at x) λv=>.I v (.R<|.ret i)<|.R<|.next ()
def gU (s:List ai1)(a:Cl prog ai1 Bool (λx=>[qe x]) λr=>.t<|tB r):C prog Int:=.of 491 [qe s,.fz a.n a.cs]<|M.QN s.length 2 8 (λ_=>[]) 0 (.one .rt) (ng s a) () (λ_=>.R<|-1) .R
def T8 (s:List ai1)(a:Cl prog ai1 Bool (λx=>[qe x]) λr=>.t<|tB r):C prog Bool:=.of 390 [qe s,.fz a.n a.cs]<|.K (gU s a) λv=>.R (v>=0)
def wg (c:ai1)(c2:w8):C prog Bool:=.of 391 [qe c,.el<|Qs c2]<|.I c.u7 (.R<|c.At<=c2.D2||c.At>1099511627776)<|.R<|c.At !=0||c.Next
def pI (t2:w8):C prog Bool:=.of 263 [qe t2]<|.I (t2.D2<0||t2.D2>1099511627776||(t2.a8.length:Int)<1||(t2.a8.length:Int)>16) (.R false)<|.Z (.fb 1)<|.K (T8 t2.a8<|.of (λa=>wg a t2) 391 [Qs t2]) λv=>.R !v
def T1 (x low high:Int):C prog Bool:=.of 492 [qe x,qe low,qe high]<|.R<|x>=low&&x<=high
def ig (e2:j5)(a:o9):C prog Bool:=.of 392 [qe e2,qe a]<|.K (Y1 e2) λv=>.G (!v) (.R true) (.K (bF e2.ai9 a.h8) λb=>.R !b) λb2=>.G b2 (.R true) (.K (T1 a.D1 (-1280) 3840) λv3=>.R !v3) λc=>.G c (.R true) (.K (T1 a.L5 500 10000) λv4=>.R !v4) λd=>.G d (.R true) (.K (T1 a.End 0 23040) λv5=>.R !v5) λe=>.I e (.R false)<|.G (a.F4 !=0) (.K (T1 a.F4 200 20000) λf=>.R !f) (.R false) λg=>.I g (.R false)<|.G (a.US==0&&a.Extra==0) (.R true) (.G (a.F4 !=0) (.K (T1 a.US 200 20000) .R) (.R false) λh=>.G h (.K (T1 a.Extra 200 20000) .R) (.R false) .R) .R
def aP (s:List o9)(a:Cl prog o9 Bool (λx=>[qe x]) λr=>.t<|tB r)(i:Int)(_:Unit):M prog Int<|Fl Unit Int:=.O (.ix o4 s i) λx=>.K (a.at x) λv=>.I v (.R<|.ret i)<|.R<|.next ()
def I0 (s:List o9)(a:Cl prog o9 Bool (λx=>[qe x]) λr=>.t<|tB r):C prog Int:=.of 328 [qe s,.fz a.n a.cs]<|M.QN s.length 2 8 (λ_=>[]) 0 (.one .rt) (aP s a) () (λ_=>.R<|-1) .R
def Q6 (s:List o9)(a:Cl prog o9 Bool (λx=>[qe x]) λr=>.t<|tB r):C prog Bool:=.of 393 [qe s,.fz a.n a.cs]<|.K (I0 s a) λv=>.R (v>=0)
def mH (g c:o9):C prog Bool:=.of 394 [qe g,.el<|o4 c]<|.R<|g.h8==c.h8
def kQ (e2:j5)(l:List o9)(i:Int)(_:Unit):M prog Bool<|Fl Unit Bool:=.O (.ix o4 l i) λx=>.K (ig e2 x) λv=>.Z (.fb 6)<|.G (!v) (.R true) (.U (.sF o4 l 0 i) λl2=>.K (Q6 l2<|.of (λa=>mH a x) 394 [o4 x]) .R) λb2=>.I b2 (.R<|.ret false)<|.R<|.next ()
def kP (e2:j5)(l:List o9):C prog Bool:=.of 264 [qe e2,qe l]<|M.QN l.length 2 9 (λ_=>[]) 0 (.one .rt) (kQ e2 l) () (λ_=>.R true) .R
def sd (s:List k6)(a:Cl prog k6 Bool (λx=>[qe x]) λr=>.t<|tB r)(i:Int)(_:Unit):M prog Int<|Fl Unit Int:=.O (.ix n5 s i) λx=>.K (a.at x) λv=>.I v (.R<|.ret i)<|.R<|.next ()
def aG (s:List k6)(a:Cl prog k6 Bool (λx=>[qe x]) λr=>.t<|tB r):C prog Int:=.of 395 [qe s,.fz a.n a.cs]<|M.QN s.length 2 8 (λ_=>[]) 0 (.one .rt) (sd s a) () (λ_=>.R<|-1) .R
def iw (s:List k6)(a:Cl prog k6 Bool (λx=>[qe x]) λr=>.t<|tB r):C prog Bool:=.of 265 [qe s,.fz a.n a.cs]<|.K (aG s a) λv=>.R (v>=0)
def Ds (s:a7)(j:k6):C prog Bool:=.of 267 [qe s,qe j]<|.R<|j.Event.h8>=1&&j.Event.h8<=s.h9.ai9.length&&j.Event.Kind>=1&&j.Event.Kind<=4&&j.Event.q7>=0&&j.Event.q7<46080&&j.Event.O1>=0&&j.Event.O1<=2&&j.Left>=-1048576&&j.Left<=1048576&&(j.u7||j.At==0)
def mF (j:k6)(c:a7):C prog Bool:=.of 266 [qe j,.el<|rI c]<|.K (Ds c j) λv=>.R !v
def L7 (x:j8):C prog Int:=.of 396 [qe x]<|.I (x.Kind==3||x.Kind==4) (.R<|H<|H (2*H (x.h8-1))+1)<|.R<|H<|2*H (x.h8-1)
def sb (kind:Int):C prog Bool:=.of 397 [qe kind]<|.R<|kind==1||kind==3
def DV (s:a7)(c:Int)(x:ai1)(_:Int)(a:k6)(s2:Bool×Bool):M prog Bool<|Fl (Bool×Bool) Bool:=.W (.hx 0)<|.K (L7 a.Event) λv=>.I (v !=c) (.R<|.next (s2.1,s2.2))<|.K (sb a.Event.Kind) λb=>.I (b==s2.1) (.R<|.ret false)<|.J 0 (λ_=>[.x 25,.x 30,.x 31]) (.one .rt) (.I s2.2 (.I (!a.u7==x.u7||a.u7&&(a.At !=x.At||!x.Next==!s2.1)) (.R<|.inr false)<|.R<|.inl ())<|.I (a.u7||s.Cut) (.R<|.inr false)<|.R<|.inl ()) (λ_=>.I (s.Cut&&(a.Event.Kind !=2||!a.u7||a.At>H (s.b9.D2+5000))) (.R<|.ret false)<|.R<|.next (!s2.1,false)) λr2=>.R<|.ret r2
def AX (s:a7)(c:Int):C prog Bool:=.of 268 [qe s,qe c]<|.O (.ix j9 s.b9.a8 c) λx=>M.Q n5 s.o1 2 21 (λt=>[.t 6<|.t<|tB t.1,.t 7<|.t<|tB t.2,.x 10,.x 11,.x 16,.x 18]) 0 (.one .rt) (DV s c x) (x.s8,true) (λa=>.R<|!a.1&&!(a.2&&x.u7)) .R
def CL (s:a7)(i:Int)(_:Unit):M prog Bool<|Fl Unit Bool:=.K (AX s i) λa=>.I (!a) (.R<|.ret false)<|.R<|.next ()
def Q5 (s:a7):C prog Bool:=.of 139 [qe s]<|.K (Y1 s.h9) λv=>.G (!v) (.R true) (.K (pE s.k7) λa=>.R !a) λb2=>.G b2 (.R true) (.K (pI s.b9) λv3=>.R !v3) λb=>.G (b||s.b9.a8.length !=H (2*s.h9.ai9.length)) (.R true) (.K (kP s.h9 s.Next) λv4=>.R !v4) λc=>.I c (.R false)<|.Z (.fb 1)<|.G ((s.o1.length:Int)>200||!s.k7.F8&&(s.o1.length:Int)>0) (.R true) (.K (iw s.o1<|.of (λd=>mF d s) 266 [rI s]) .R) λe=>.I e (.R false)<|M.QN s.b9.a8.length 2 66 (λ_=>[]) 0 (.one .rt) (CL s) () (λ_=>.R true) .R
def vo (p2:ia):C prog Bool:=.of 269 [qe p2]<|.J0 0 (λt=>[.t 3<|qe t,.x 4]) (.I p2.xI (.R 200)<|.R 1000) λmost=>.R<|p2.Value>=0&&p2.Value<=most&&p2.X6>=0&&p2.X6<=3&&p2.xI==(p2.X6==3)
def dP (x low high:Int):C prog Bool:=.of 398 [qe x,qe low,qe high]<|.R<|x>=low&&x<=high
def qR (s:List dy)(a:Cl prog dy Bool (λx=>[qe x]) λr=>.t<|tB r)(i:Int)(_:Unit):M prog Int<|Fl Unit Int:=.O (.ix ab s i) λx=>.K (a.at x) λv=>.I v (.R<|.ret i)<|.R<|.next ()
def lI (s:List dy)(a:Cl prog dy Bool (λx=>[qe x]) λr=>.t<|tB r):C prog Int:=.of 493 [qe s,.fz a.n a.cs]<|M.QN s.length 2 8 (λ_=>[]) 0 (.one .rt) (qR s a) () (λ_=>.R<|-1) .R
def gT (s:List dy)(a:Cl prog dy Bool (λx=>[qe x]) λr=>.t<|tB r):C prog Bool:=.of 399 [qe s,.fz a.n a.cs]<|.K (lI s a) λv=>.R (v>=0)
def qN (c:dy):C prog Bool:=.of 400 [qe c]<|.K (dP c.Value (-100) 100) λv=>.G (!v) (.R true) (.K (dP c.s6 0 1000) λa=>.R !a) .R
def pg (p2:E7):C prog Bool:=.of 270 [qe p2]<|.K (dP p2.N2 750 1250) λv=>.G (!v) (.R true) (.K (dP p2.pL 0 1000) λa=>.R !a) λb2=>.I (b2||(p2.Cells.length:Int)!=9) (.R false)<|.I (!p2.T3&&(p2.N2 !=1000||p2.pL !=0||p2.nA)) (.R false)<|.K (gT p2.Cells<|.of qN 400 []) λv3=>.R !v3
def px (s:List y6)(a:Cl prog y6 Bool (λx=>[qe x]) λr=>.t<|tB r)(i:Int)(_:Unit):M prog Int<|Fl Unit Int:=.O (.ix C5 s i) λx=>.K (a.at x) λv=>.I v (.R<|.ret i)<|.R<|.next ()
def jz (s:List y6)(a:Cl prog y6 Bool (λx=>[qe x]) λr=>.t<|tB r):C prog Int:=.of 401 [qe s,.fz a.n a.cs]<|M.QN s.length 2 8 (λ_=>[]) 0 (.one .rt) (px s a) () (λ_=>.R<|-1) .R
def Z0 (s:List y6)(a:Cl prog y6 Bool (λx=>[qe x]) λr=>.t<|tB r):C prog Bool:=.of 271 [qe s,.fz a.n a.cs]<|.K (jz s a) λv=>.R (v>=0)
def jU (a:Int):C prog Bool:=.of 402 [qe a]<|.R<|a>=0&&a<=4095
def vh (k:y6):C prog Bool:=.of 273 [qe k]<|.G (k.U7>=0&&k.U7<=960) (.K (jU k.Q9) .R) (.R false) λb2=>.R<|b2&&k.Quiet>=0&&k.Quiet<100
def tg (k:y6):C prog Bool:=.of 272 [qe k]<|.K (vh k) λv=>.R !v
def mX (e2:j5)(c:w4):C prog Bool:=.of 140 [qe e2,qe c]<|.K (Y1 e2) λv=>.G (!v) (.R true) (.K (vo c.B6) λa=>.R !a) λb2=>.G b2 (.R true) (.K (pg c.K7) λv3=>.R !v3) λb=>.I (b||c.I7.length !=(e2.ai9.length:Int)) (.R false)<|.K (Z0 c.I7<|.of tg 272 []) λv4=>.I v4 (.R false)<|.K (N4 c.T4.Sum (-4398046511104) 4398046511104) λv5=>.G v5 (.K (N4 c.E4 0 1073741824) .R) (.R false) λd=>.G d (.K (N4 c.bZ.j4 (-5000) 10000) .R) (.R false) λe=>.G e (.K (N4 c.bZ.H3 (-1) 15) .R) (.R false) .R
def ox (t2:Int):C prog Bool:=.of 274 [qe t2]<|.R<|t2>=0&&t2<=1099511627776
def gm (a:N3):C prog Bool:=.of 141 [qe a]<|.K (ox a.A6) λv=>.G v (.K (ox a.q8) .R) (.R false) λb2=>.R<|b2&&a.q8<=a.A6&&(a.Seen||a.A6==0&&a.q8==0)
def hR (w:U9):C prog Bool:=.of 275 [qe w]<|.G ((w.Q2==1||w.Q2==2)&&w.V4>=12&&w.V4<=120&&w.V4>=H (8*w.Q2)) (.O (.rem 23040 w.V4) λq=>.R<|q==0) (.R false) .R
def si (t2:Int):C prog Bool:=.of 276 [qe t2]<|.R<|t2>=0&&t2<=1099511627776
def lK (w:U9):C prog Int:=.of 277 [qe w]<|.K (hR w) λv=>.I (!v) (.R 0)<|.R<|H<|w.V4-w.Q2
def tF (w:U9)(s:T2):C prog Bool:=.of 142 [qe w,qe s]<|.K (hR w) λv=>.I (!v) (.R false)<|.I (s.Mode==0) (.W .eq<|.R<|s.Mode==0&&(s.aU==0&&(s.A6==0&&(s.q8==0&&(s.J8==0&&(s.V4==0&&true))))))<|.I (s.Mode==1) (.G (s.aU !=0) (.R true) (.K (si s.A6) λa=>.R !a) λb2=>.I b2 (.R false)<|.I (s.V4==0) (.R<|s.q8==0&&s.J8==0)<|.R<|(s.V4==1||s.V4==2)&&s.q8>=1&&s.q8<=s.A6&&s.J8==s.q8)<|.I (s.Mode==2) (.J0 1 (λt=>[.t 4<|.t<|tB t,.x 2,.x 3,.x 8,.d 2,.d 3]) (.D [] []<|.Sp (s.aU>=0) (.K (lK w) λv3=>.Sp (s.aU<v3) (.K (si s.A6) λv4=>.Sp v4 (.Sp (s.q8>=1) (.Sp (s.q8<=s.A6) (.Sp (s.J8>=1) (.R<|s.J8<=s.q8&&s.V4==0)<|.R false)<|.Sp false .N<|.R false)<|.Sp false .N<|.Sp false .N<|.R false)<|.Sp false .N<|.Sp false .N<|.Sp false .N<|.R false)<|.Sp false .N<|.Sp false .N<|.Sp false .N<|.Sp false .N<|.R false)<|.Sp false .N<|.Sp false .N<|.Sp false .N<|.Sp false .N<|.Sp false .N<|.R false) .R)<|.R false
def xT:C prog U9:=.of 143 []<|.R ⟨60,2⟩
def I4 (x y:Int):C prog Int:=.of 403 [qe x,qe y]<|.K (fM x) λv=>.K (fM y) λa=>.I v (.I a (.R 0)<|.R<|-1)<|.I a (.R 1)<|.I (x<y) (.R<|-1)<|.I (x>y) (.R 1)<|.R 0
def Sm (_ x:Int)(s:Int×Int):M prog (Int×Int)<|Fl (Int×Int) Empty:=.W (.hx 0)<|.I (x<23040) (.R<|.next (H<|s.1+1,s.2))<|.R<|.next (s.1,H<|s.2+1)
def Nr (c:Ig):C prog<|Int×Int:=.of 404 [qe c]<|M.Q By c.yv 2 9 (λt=>[.t 2<|qe t.1,.t 3<|qe t.2,.x 1,.x 6,.d 1]) 0 .e Sm (0,0) (λs2=>.R (s2.1,s2.2)) λt=>t.elim
def Pc (c:Ig)(i:Int)(_:Unit):M prog Bool<|Fl Unit Bool:=.O (.ix By c.yv i) λx=>.G (x<0||x>=46080||uk x 23040<1920||uk x 23040>21120) (.R true) (.G (i>0) (.O (.ix By c.yv<|H<|i-1) λa=>.R (H (x-a)<1920)) (.R false) .R) λb=>.I b (.R<|.ret false)<|.R<|.next ()
def nk (c:Ig):C prog Bool:=.of 278 [qe c]<|.G ((c.yv.length:Int)<1||(c.yv.length:Int)>8) (.R true) (.K (S5 c.yv<|.of (λa=>I4 a.1 a.2) 403 []) λv=>.R !v) λb2=>.I b2 (.R false)<|M.QN c.yv.length 2 26 (λ_=>[.x 7,.x 23]) 0 (.one .rt) (Pc c) () (λ_=>.K (Nr c) λr2=>.R<|r2.1!=r2.2) .R
def HR (p2:I2):C prog Bool:=.of 279 [qe p2]<|.I (p2.s6<0||p2.s6>16||p2.Ed<0||p2.Ed>1) (.R false)<|.I (!p2.Seen&&(p2.s6 !=0||p2.hL)) (.R false)<|.R<|p2.hL||p2.Ed==0
def vp (c:Ig)(p2:I2):C prog Bool:=.of 144 [qe c,qe p2]<|.K (nk c) λv=>.G v (.K (HR p2) .R) (.R false) .R
def CC:C prog Ig:=.of 145 []<|.R ⟨[5000,12000,30000]⟩
def aF (x low high:Int):C prog Bool:=.of 280 [qe x,qe low,qe high]<|.R<|x>=low&&x<=high
def pk (g:dU):C prog Bool:=.of 146 [qe g]<|.K (aF g.Over 0 5) λv=>.G v (.K (aF g.Calm 0 1000) .R) (.R false) λb2=>.R<|b2&&(g.Over==0||g.Calm==0)&&(g.ET||g.Over<5)
def zi (t2:Int):C prog Bool:=.of 281 [qe t2]<|.R<|t2>=0&&t2<=1099511627776
def tA (q:bc):C prog Bool:=.of 147 [qe q]<|.K (pn q.Question) λv=>.G v (.K (zi q.jo) .R) (.R false) λb2=>.R<|b2&&(q.Open||q.jo==0)&&q.aR>=0&&q.aR<=7&&q.ET==(q.aR==7)&&!(q.Open&&q.ET)
def EF (t2:Int):C prog Bool:=.of 282 [qe t2]<|.R<|t2>=0&&t2<=1099511627776
def vv (s:fJ):C prog Bool:=.of 148 [qe s]<|.G (s.Ro>=0&&s.Ro<=3&&s.J1==(s.Ro==0)) (.K (EF s.Ce) .R) (.R false) .R
def CE (u:Z6):C prog Bool:=.of 48 [qe u]<|.J0 1 (λt=>[.t 49<|.t<|tB t]) (.D [] []<|.K (cb u.w3) λv=>.Sp (!v) (.Sp true (.Sp true (.Sp true (.Sp true (.Sp true (.R true) .N) .N) .N) .N) .N)<|.K (zf u.mR u.o6) λf=>.Sp (!f) (.Sp true (.Sp true (.Sp true (.Sp true (.R true) .N) .N) .N) .N)<|.K (Q5 u.c9) λv3=>.Sp (!v3) (.Sp true (.Sp true (.Sp true (.R true) .N) .N) .N)<|.K (mX u.c9.h9 u.w5) λv4=>.Sp (!v4) (.Sp true (.Sp true (.R true) .N) .N)<|.K (gm u.H4) λv5=>.Sp (!v5) (.Sp true (.R true) .N)<|.K xT λg=>.K (tF g u.G6) λh=>.Sp (!h) (.R true)<|.K CC λi=>.K (vp i u.C6) λv9=>.R !v9) λa=>.I a (.R false)<|.K (pk u.dT) λb=>.G (!b) (.R true) (.K (tA u.aS) λc=>.R !c) λb2=>.G b2 (.R true) (.K (vv u.Q3) λd=>.R !d) λj=>.G j (.R true) (.K (dD u.B9) λe=>.R !e) λk=>.I (k||(u.B9.L.length:Int)<7||!u.B9.dA) (.R false)<|.R<|u.Time>=0&&u.Time<=549755813888&&uk u.Time 10000==0&&u.c9.b9.D2==u.Time&&q9 (q9 (q9 u.H4.A6 u.G6.A6) u.Q3.Ce) u.aS.jo<=u.Time
def pq (s:List H5)(a:Cl prog H5 Bool (λx=>[qe x]) λr=>.t<|tB r)(i:Int)(_:Unit):M prog Int<|Fl Unit Int:=.O (.ix AK s i) λx=>.K (a.at x) λv=>.I v (.R<|.ret i)<|.R<|.next ()
def tW (s:List H5)(a:Cl prog H5 Bool (λx=>[qe x]) λr=>.t<|tB r):C prog Int:=.of 283 [qe s,.fz a.n a.cs]<|M.QN s.length 2 8 (λ_=>[]) 0 (.one .rt) (pq s a) () (λ_=>.R<|-1) .R
def fO (s:List H5)(a:Cl prog H5 Bool (λx=>[qe x]) λr=>.t<|tB r):C prog Bool:=.of 149 [qe s,.fz a.n a.cs]<|.K (tW s a) λv=>.R (v>=0)
def MZ (b2:H5):C prog Bool:=.of 150 [qe b2]<|.R<|b2.Tp<0||b2.Tp>1099511627776||b2.To<0||b2.To>1099511627776||b2.Ay<0||b2.Ay>7||b2.Value< -1000000||b2.Value>1000000
def Ey (k:List H5):C prog Bool:=.of 49 [qe k]<|.G ((k.length:Int)<=100) (.K (fO k<|.of MZ 150 []) λv=>.R !v) (.R false) .R
def Lo (d:D5):C prog<|Int×Int×Int×Int×Int:=.of 99 [qe d] (.R (d.At,d.B6,d.qx,d.Hv,d.Ee)) (res:=λr=>aW4 r)
def Pw:C prog<|D6×D6×D6×D6×D6:=.of 100 [] (.R (⟨ByteArray.mk #[97,116],0,1099511627776⟩,⟨ByteArray.mk #[112,101,100,97,108],0,1000⟩,⟨ByteArray.mk #[98,114,97,107,101],0,1000⟩,⟨ByteArray.mk #[103,101,97,114],0,6⟩,⟨ByteArray.mk #[108,111,97,100],-500,2000⟩)) (res:=λr=>PH r)
def ag (a:Int×Int×Int×Int×Int)(v3:D6×D6×D6×D6×D6)(v4:Int):M prog Bool<|Int⊕Int⊕Bool:=.I (v4<5) (.O (.arr (λy=>.agg [.t<|.v<|.string y.word,qe y.low,qe y.high]) [v3.1,v3.2.1,v3.2.2.1,v3.2.2.2.1,v3.2.2.2.2] v4) λb=>.J0 1 (λt=>[.t 63<|.t<|tB t,.x 7,.d 7]) (.D [] []<|.O (.ax By [a.1,a.2.1,a.2.2.1,a.2.2.2.1,a.2.2.2.2] v4) λc=>.Sp (c<b.low) (.R true)<|.O (.ax By [a.1,a.2.1,a.2.2.1,a.2.2.2.1,a.2.2.2.2] v4) λe=>.R (e>b.high)) λv5=>.I v5 (.R<|.inr<|.inr false)<|.R<|.inl<|H<|v4+1)<|.R<|.inr<|.inl v4
def mY (l:List D5)(i:Int)(_:Unit):M prog Bool<|Fl Unit Bool:=.O (.ix nO l i) λa=>.J0 1 (λt=>[.t 42<|.t<|tB t]) (.D [] []<|.Sp (i>0) (.O (.ix nO l<|H<|i-1) λb=>.R (a.At<=b.At))<|.R false) λv=>.I v (.R<|.ret false)<|.K (Lo a) λc=>.K Pw λv3=>.Z (.fb 5)<|.L (λt=>[.t 46<|qe t,.x 4,.d 4]) 2 (.one .rt) (ag c v3) 0 (λ_=>.R<|.next ()) λr2=>.R<|.ret r2
def ba (l:List D5):C prog Bool:=.of 19 [qe l]<|.G ((l.length:Int)<1||(l.length:Int)>200) (.R true) (.O (.ix nO l 0) λx=>.R<|x.At !=0) λb2=>.I b2 (.R false)<|M.QN l.length 2 25 (λ_=>[]) 0 (.one .rt) (mY l) () (λ_=>.R true) .R
def Na (d:D5):C prog Bool:=.of 50 [qe d]<|.G (d.At>=0&&d.At<=1099511627776) (.K (ba [{d with At:=0}]) .R) (.R false) .R
def KB (c8:Int):C prog<|Int×Int:=.of 151 [qe c8]<|.I (c8<0||c8>524288) (.R (0,2))<|.R (H<|bQ2 (H<|c8*60000000) 1509949440,0)
def rQ (s:k8)(a _:Int)(x:H5)(_:Unit):M prog (Int×Bool)<|Fl Unit<|Int×Bool:=.W (.hx 0)<|.J0 1 (λt=>[.t 38<|.t<|tB t]) (.D [] []<|.Sp (x.Ay==a) (.Sp (x.Tp<=s.t) (.R (s.t<x.To))<|.R false)<|.Sp false .N<|.R false) λv=>.I v (.R<|.ret (x.Value,true))<|.R<|.next ()
def eK (s:k8)(a:Int):C prog<|Int×Bool:=.of 302 [.el<|uX s,qe a]<|M.Q AK s.k 2 13 (λ_=>[]) 0 (.one .rt) (rQ s a) () (λ_=>.R (0,false)) .R
def FJ (p2:U8):C prog Int:=.of 406 [qe p2]<|.I ((p2.Path.length:Int)==0) (.R 1000)<|.O (.ix By p2.Path 0) .R
def z7 (s:k8)(a:Int):C prog Int:=.of 285 [.el<|uX s,qe a]<|.K (eK s a) λr2=>.I r2.2 (.R r2.1)<|.I (a==0) (.R s.d.B6)<|.I (a==1) (.R<|H<|bQ2 s.d.B6 2)<|.I (a==2) (.R s.u.o6.z6)<|.I (a==3) (.R 20)<|.I (a==4) (.R<|ba9 (H<|20+H (bQ2 s.t 1000000)) 90)<|.K (FJ s.u.o6) λv=>.I (v<1000) (.R 800)<|.R 100
def z8 (x low high:Int):C prog Int:=.of 292 [qe x,qe low,qe high]<|.R<|ba9 (q9 x low) high
def vd (x low high:Int):C prog Bool:=.of 405 [qe x,qe low,qe high]<|.R<|x<low||x>high
def FG (s:k8):C prog<|Bool×Bool×Bool×Bool×Bool×Bool×Bool:=.of 284 [.el<|uX s] (.K (z7 s 0) λv=>.K (z8 v 0 1000) λd=>.K (z7 s 1) λv3=>.K (z8 v3 0 500) λv4=>.D [] []<|.K (z7 s 2) λv5=>.K (vd v5 50 1013) λe=>.K (z7 s 3) λf=>.K (vd f (-40) 150) λg=>.K (z7 s 4) λv9=>.K (vd v9 (-40) 150) λa=>.K (z7 s 5) λb=>.K (vd b 50 900) λc=>.R (q9 (H<|d-H (2*v4)) (H<|H (2*v4)-d)>50,e,g,a,c,s.u.dT.ET,s.u.aS.ET)) (res:=λr=>aE1 r)
def GW (Dd:y2):C prog y2:=.of 286 [qe Dd] (.Z (.fb 1)<|.R Dd) (res:=λr=>.fz 407 [nE r])
def BH (l:List A3)(i:Int)(c:n9)(a:Int)(frame:List Int):CG prog<|List A3:=.of 408 [.pe 1000000 (cy6 i) 7 0,qe c,qe a,qe frame] [(1000000,.rs 171 7 l u9)] (λ_=>.Z9 []) (λr=>[(1000000,.rs 171 7 r u9)]) []<|.A u9 l i λe=>.W (.ly 0)<|.K (dY e 1) λv=>.J0 0 (λt=>[.x 8,.x 9,.b 1000000<|.rs 171 7 t u9]) (.I (!v) (.W (.ly 0)<|.U (.st u9 l i {e with k9:=ba9 255<|H<|e.k9+1} 0) λl2=>.W (.ly 0)<|.K (dY {e with k9:=ba9 255<|H<|e.k9+1} 4) λk=>.I (!k) (.K (bX frame) λv3=>.U (.st u9 l2 i {e with k9:=ba9 255<|H<|e.k9+1,Frame:=v3} 0) .R)<|.R l2)<|.R l) λf=>.A u9 f i λd=>.W (.ly 0)<|.U (.st u9 f i {d with C0:=P2 .i64 d.C0 11} 0) λl4=>.U (.st u9 l4 i {d with C0:=P2 .i64 d.C0 11,Clean:=0} 0) λg=>.W (.ly 0)<|.I (d.A6==a) (.R g)<|.U (.st u9 g i {d with C0:=P2 .i64 d.C0 11,Clean:=0,A6:=a} 0) λm=>.W (.ly 0)<|.U (.st u9 m i ⟨P2 .i64 d.C0 11,d.s6,ba9 2<|H<|d.A0+1,0,d.k9,d.Frame,a⟩ 0) λh=>.W (.ly 0)<|.I (ba9 2 (H<|d.A0+1)<2) (.R h)<|.W (.ly 0)<|.U (.st u9 h i ⟨P2 .i64 (P2 .i64 d.C0 11) 4,d.s6,ba9 2<|H<|d.A0+1,0,d.k9,d.Frame,a⟩ 0) λj=>.I c.Rq (.W (.ly 0)<|.U (.st u9 j i ⟨P2 .i64 (P2 .i64 (P2 .i64 d.C0 11) 4) 16,d.s6,ba9 2<|H<|d.A0+1,0,d.k9,d.Frame,a⟩ 0) .R)<|.R j
def rS (a:y2)(i:Int)(bad:Bool)(l:List Int):C prog<|y2×Int:=.of 287 [qe a,qe i,qe bad,qe l]<|.K (dD a) λv=>.I (!v) (.R (⟨[],[],0,false⟩,1))<|.I (i<0||i>=a.L.length) (.R (⟨[],[],0,false⟩,2))<|.I (!a.dA) (.R (⟨[],[],0,false⟩,6))<|.O (.ix L6 a.G3 i) λx=>.K (ve x l) λg=>.I (!g) (.R (⟨[],[],0,false⟩,1))<|.KG (rT a) [2352] λv3=>.D [] []<|.O (.ix u9 v3.L i) λe=>.O (.ix L6 v3.G3 i) λd=>.J0 0 (λt=>[.x 29,.x 34,.x 44,.x 45,.x 46,.x 48,.x 49,.b 2352<|.rs 171 7 t u9]) (.I bad (.D [] []<|.W (.ly 1)<|.U (.st u9 v3.L i {e with s6:=ba9 d.ru<|H<|q9 e.s6 0+1} 1) .R)<|.D [] []<|.W (.ly 1)<|.U (.st u9 v3.L i {e with s6:=q9 (H<|0-d.Pass)<|H<|ba9 e.s6 0-1} 1) .R) λf=>.A u9 f i λc=>.W (.ly 0)<|.I (c.s6==d.ru) (.KG (BH f i d v3.jq l) [] λv4=>.R ({v3 with L:=v4},0))<|.I (c.s6==H (0-d.Pass)) (.W (.ly 0)<|.U (.st u9 f i {c with C0:=P2 .i64 c.C0 8} 0) λl4=>.W (.ly 0)<|.U (.st u9 l4 i {c with C0:=sU .i64 (P2 .i64 c.C0 8) 1} 0) λh=>.R ({v3 with L:=h},0))<|.R ({v3 with L:=f},0)
def Dn:C prog<|List K0:=.of 288 []<|.Z (.fr 1)<|.Z (.fr 3)<|.Z (.fr 5)<|.Z (.fr 7)<|.Z (.fr 9)<|.Z (.fr 11)<|.Z (.fr 13)<|.R [⟨ByteArray.mk #[108,105,109,112],0,2,[0],600⟩,⟨ByteArray.mk #[100,114,111,112],0,2,[1,4],1500⟩,⟨ByteArray.mk #[115,116,111,112],0,9,[5,6],0⟩,⟨ByteArray.mk #[112,114,101,115,115,117,114,101],1,0,[1],500⟩,⟨ByteArray.mk #[97,105,114],2,0,[2],40⟩,⟨ByteArray.mk #[99,111,111,108,97,110,116],3,0,[3],90⟩,⟨ByteArray.mk #[112,114,111,98,101],4,0,[4],450⟩]
def QF (s:ByteArray)(i:Int)(_:Unit):M prog Bool<|Fl Unit Bool:=.O (.str s i) λb2=>.G (b2<33) (.R true) (.O (.str s i) λa=>.R (a>126)) λb=>.I b (.R<|.ret false)<|.R<|.next ()
def Wv (s:ByteArray):C prog Bool:=.of 557 [.t<|.v<|.string s]<|.I ((s.size:Int)<1||(s.size:Int)>24) (.R false)<|M.QN s.size 2 14 (λ_=>[]) 0 (.one .rt) (QF s) () (λ_=>.R true) .R
def Pb (r2:K0)(a i:Int)(_:Unit):M prog Bool<|Fl Unit Bool:=.O (.ix By r2.M7 i) λx=>.G (x<0||x>=a) (.R true) (.G (i>0) (.O (.ix By r2.M7<|H<|i-1) λb=>.R (x<=b)) (.R false) .R) λc=>.I c (.R<|.ret false)<|.R<|.next ()
def Ut (r2:K0)(a:Int):C prog Bool:=.of 496 [qe r2,qe a]<|.K (Wv r2.Name) λv=>.I (!v||r2.aj2<0||r2.aj2>15||r2.u5<0||r2.u5>15||(r2.M7.length:Int)<1||(r2.M7.length:Int)>16||r2.Ph< -5000||r2.Ph>10000) (.R false)<|M.QN r2.M7.length 2 56 (λ_=>[.x 7,.x 53]) 0 (.one .rt) (Pb r2 a) () (λ_=>.R true) .R
def Pa (a _:Int)(x:K0)(b:List<|ByteArray×Bool):M prog Bool<|Fl (List<|ByteArray×Bool) Bool:=.W (.hx 0)<|.K (Ut x a) λv=>.G (!v) (.R true) (.Ml ct3 b x.Name<|.R<|KN false b x.Name) λb2=>.I b2 (.R<|.ret false)<|.Mu ct3 b x.Name true<|.R<|.next<|Wx b x.Name true
def hY (l:List K0)(a:Int):C prog Bool:=.of 412 [qe l,qe a]<|.I (a<0||a>64||(l.length:Int)>64) (.R false)<|.Mm 2152<|M.Q aY l 2 22 (λt=>[.x 19,.b 2152<|.mp<|List.map (ent (λs:ByteArray=>.string s) λv:Bool=>.bool v) t]) 0 (.one .rt) (Pa a) [] (λ_=>.R true) .R
def IU (l:List K0)(a:y2):C prog Bool:=.of 409 [qe l,qe a]<|.K (dD a) λv=>.G v (.K (hY l a.L.length) .R) (.R false) .R
def sa (holds:Cl prog Int Bool (λx=>[.t<|Y x]) λr=>.t<|tB r)(_ x:Int)(out:List Int):M prog (List Int)<|Fl (List Int) Empty:=.W (.hx 0)<|.K (holds.at x) λv=>.I v (.U (.ap By out [x] 2168) λl=>.R<|.next l)<|.R<|.next out
def zk (r2:K0)(holds:Cl prog Int Bool (λx=>[.t<|Y x]) λr=>.t<|tB r):C prog<|List Int:=.of 494 [qe r2,.fz holds.n holds.cs]<|.Z (.np 5 2168 3 1 [])<|M.Q By r2.M7 2 11 (λt=>[.t 5<|.own 2168,.x 2,.x 8,.b 2168<|.rs 3 1 t By,.d 2]) 0 .e (sa holds) [] .R λt=>t.elim
def pZ (l:List K0)(holds:Cl prog Int Bool (λx=>[.t<|Y x]) λr=>.t<|tB r)(i:Int)(out:List K1):M prog (List K1)<|Fl (List K1) Empty:=.O (.ix aY l i) λx=>.K (zk x holds) λv=>.I ((v.length:Int)>0) (.U (.ap V6 out [⟨i,v⟩] 2216) λl2=>.R<|.next l2)<|.R<|.next out
def FK (l:List K0)(holds:Cl prog Int Bool (λx=>[.t<|Y x]) λr=>.t<|tB r):C prog<|List K1:=.of 410 [qe l,.fz holds.n holds.cs]<|.Z (.np 5 2216 283 2 [])<|M.QN l.length 2 11 (λt=>[.t 5<|.own 2216,.b 2216<|.rs 283 2 t V6]) 0 .e (pZ l holds) [] .R λt=>t.elim
def Hg (b:y2)(a:Int):C prog<|Int×y2:=.of 411 [qe b,qe a] (.Z (.fb 3)<|.Z (.fb 2)<|.R (a,b)) (res:=λr=>.fz 495 [By r.1,nE r.2])
def gj (i c:Int)(c2:y2):C prog Bool:=.of 495 [qe i,.el<|By c,.el<|nE c2]<|.G (i !=c) (.O (.ix u9 c2.L i) λx=>.R<|F5 .i64 x.C0 5!=0) (.R false) .R
def zj (l:List K0)(b:y2):C prog<|List K1×Int:=.of 289 [qe l,qe b]<|.K (IU l b) λv=>.I (!v) (.R ([],1))<|.K (Hg b<|-1) λa=>.K (FK l<|.of (λc=>gj c a.1 a.2) 495 [By a.1,nE a.2]) λv3=>.R (v3,0)
def nG (s:List K1)(a:Cl prog K1 Bool (λx=>[qe x]) λr=>.t<|tB r)(i:Int)(_:Unit):M prog Int<|Fl Unit Int:=.O (.ix V6 s i) λx=>.K (a.at x) λv=>.I v (.R<|.ret i)<|.R<|.next ()
def sc (s:List K1)(a:Cl prog K1 Bool (λx=>[qe x]) λr=>.t<|tB r):C prog Int:=.of 497 [qe s,.fz a.n a.cs]<|M.QN s.length 2 8 (λ_=>[]) 0 (.one .rt) (nG s a) () (λ_=>.R<|-1) .R
def eu (s:List K1)(a:Cl prog K1 Bool (λx=>[qe x]) λr=>.t<|tB r):C prog Bool:=.of 413 [qe s,.fz a.n a.cs]<|.K (sc s a) λv=>.R (v>=0)
def wT (x:K1)(c:List K0):C prog Bool:=.of 414 [qe x,.el<|(cv3 aY) c]<|.R<|x.I8<0||x.I8>=c.length
def uz (l:List K0)(a _:Int)(x:K1)(s:Int×Int):M prog (Int×Int)<|Fl (Int×Int) Empty:=.W (.hx 0)<|.O (.ix aY l x.I8) λb=>.I (b.aj2 !=a||b.u5<s.2) (.R<|.next (s.1,s.2))<|.I (b.u5>s.2) (.D [] []<|.R<|.next (ba9 b.Ph b.Ph,b.u5))<|.R<|.next (ba9 s.1 b.Ph,s.2)
def AW (l:List K0)(a:List K1)(b other:Int):C prog<|Int×Int:=.of 291 [qe l,qe a,qe b,qe other]<|.K (hY l 64) λv=>.Z (.fb 4)<|.G (!v||(a.length:Int)>64) (.R true) (.K (eu a<|.of (λc=>wT c l) 414 [(cv3 aY) l]) .R) λb2=>.I b2 (.R (0,1))<|.I (b<0||b>15) (.R (0,2))<|M.Q V6 a 2 37 (λt=>[.t 10<|qe t.1,.t 11<|qe t.2]) 0 .e (uz l b) (other,-1) (λs2=>.R (s2.1,0)) λt=>t.elim
def bl (a other:Int)(c:List K0)(c2:k8):CG prog Int:=.of 290 [qe a,qe other,.el<|(cv3 aY) c,.ptr 1000000 0] [(1000000,.box [.ptr 1000001 0]),(1000001,.box<|dm (qb c2) [(107,.own 1000002),(113,.own 1000003)]),(1000002,.rs 192 7 c2.y8.C1 o4),(1000003,.rs 310 3 c2.o8 j6)] (λr=>qe r) (λ_=>[(1000000,.box [.ptr 1000001 0]),(1000001,.box<|dm (qb c2) [(107,.own 1000002),(113,.own 1000003)]),(1000002,.rs 192 7 c2.y8.C1 o4),(1000003,.rs 310 3 c2.o8 j6)]) []<|.D [] []<|.K (AW c c2.cY a other) λr2=>.R r2.1
def ud (a:y2)(e2:Int)(c:y2):C prog y2:=.of 407 [qe a,qe e2,.el<|nE c]<|.I (e2 !=0) (.R c)<|.R a
end Go.Proofs.YtlbfdimlomockaaGreat

/- A part of the proof of EcuSteps: The value machine, and more. -/
import Derived.Below
import Derived.Laws.Rows
import Derived.Laws.CopyRow
import Derived.Laws.AppendOwn
import Derived.Tactics
set_option linter.all false
set_option maxRecDepth 100000
noncomputable section
theorem F{p:Prop}(h:p:=by omega):p:=h
theorem sq{p:Prop}(h:p:=by simp):p:=h
theorem gq{p:Prop}(h:p:=by grind):p:=h
theorem dq{p:Prop}(h:p:=by decide):p:=h
open Bool renaming and_eq_true->BY,not_eq_true'->nW
open Int renaming ofNat->df3
open List renaming append_assoc->cW5,getD_eq_getElem?_getD->db9,getElem?_append_left->cI7,getElem?_append_right->dc0,getElem?_eq_getElem->IN,getElem?_eq_none->cK8,getElem?_eq_some_iff->No,getElem?_map->bg5,getElem_append_left->cW9,getElem_append_right->cL3,getElem_drop->cY2,getElem_map->cX7,length_append->IT,length_cons->cU9,length_drop->dc1,length_map->cW2,length_range->cI4,length_take->cV5,map_cons->ew
open Nat renaming add_assoc->cD6,add_zero->cq7,beq->cV4,beq_refl->tj,ble->dc6,blt->Y3,eq_of_beq_eq_true->bD,le_of_ble_eq_true->cU8,le_refl->cW6,le_trans->cw2,lt_of_lt_of_le->dc7,succ_mul->dc5,zero_lt_one->cR6
open Option renaming bind_some->oq,map_some->cW3
open Option.some renaming inj->oa,injEq->AI
open Prod.mk renaming injEq->cz4
open Go.Result renaming andThen_ok->OF
open Go.Sem renaming run_bind->cV1,run_pure->cW0
theorem cT8{α:Sort _}(a b:α):cond false a b=b:=rfl
theorem cT9{α:Sort _}(a b:α):cond true a b=a:=rfl
theorem cU0{p:Prop}[Decidable p](h:p):decide p=true:=decide_eq_true h
theorem cU1{p:Prop}[Decidable p](h:¬p):decide p=false:=decide_eq_false h
theorem dg1{p:Prop}[Decidable p]:(decide p=true)=p:=decide_eq_true_eq
theorem cU3{p:Prop}[Decidable p]:decide p=false↔¬p:=decide_eq_false_iff_not
namespace Go.Pv
open Go.RowKit
inductive Tree where|v (x:Value)|sl (n:Nat)(rows:List<|List Tree)
inductive T where|t (x:Tree)|el (cells:List Tree)|ptr (id off:Nat)|own (id:Nat)|pe (id i sz off:Nat)|vw (id lo n sz:Nat)|agg (l:List T)|Z9 (l:List T)|Fu (f:FuncId)(cap:List T)|fz (f:FuncId)(caps:List<|List Tree)|any
inductive RT (w:World)(S:Nat->Prop):Value->Tree->Prop|v (x:Value):RT w S x<|.v x|slE (a:Option Addr)(cap:Nat):RT w S (.slice a 0 cap)<|.sl 0 []|sl (b o cap sz:Nat)(rows:List<|List Tree)(vs:Nat->Nat->Value)(hcap:rows.length<=cap)(hS:S b)(hsz:∀r,r∈rows->r.length=sz)(hc:∀i j,i<rows.length->j<sz->w.cell? ⟨b,o+i*sz+j,none⟩=some (vs i j))(hr:∀i j (hi:i<rows.length)(hj:j<rows[i].length),RT w S (vs i j) rows[i][j]):RT w S (.slice (some ⟨b,o,none⟩) rows.length cap)<|.sl rows.length rows
theorem RT.mono {w w':World}{S S':Nat->Prop}(g:∀b,S b->S' b)(k:∀b,S b->w'.heap[b]?=w.heap[b]?){x:Value}{t:Tree}(h:RT w S x t):RT w' S' x t:=by induction h with|v x=>exact .v x|slE a c=>exact .slE a c|sl b o c sz rows vs d f e l _ m=>exact .sl b o c sz rows vs d (g b f) e (λi j hi n=>(World.cell?_of_block<|k b f).trans<|l i j hi n) m
def PF (w:World)(S:Nat->Prop)(v:Value)(cells:List Tree):Prop:=∃(b o:Nat)(vs:Nat->Value),v=.pointer (some ⟨b,o,none⟩)/\S b/\(∀j,j<cells.length->w.cell? ⟨b,o+j,none⟩=some (vs j))/\∀j (a:j<cells.length),RT w S (vs j) cells[j]
theorem PF.mono {w w':World}{S S':Nat->Prop}(c:∀b,S b->S' b)(d:∀b,S b->w'.heap[b]?=w.heap[b]?){v:Value}{cells:List Tree}(h:PF w S v cells):PF w' S' v cells:=by obtain⟨b,o,vs,rfl,e,f,g⟩:=h;exact⟨b,o,vs,rfl,c b e,λj a=>(World.cell?_of_block<|d b e).trans<|f j a,λj a=>(g j a).mono c d⟩
inductive RV (w:World)(S:Nat->Prop)(E:Nat->Value):Value->T->Prop|t {x:Value}{y:Tree}(h:RT w S x y):RV w S E x<|.t y|el (b o:Nat)(cells:List Tree)(vs:Nat->Value)(hS:S b)(hc:∀j,j<cells.length->w.cell? ⟨b,o+j,none⟩=some (vs j))(hr:∀j (hj:j<cells.length),RT w S (vs j) cells[j]):RV w S E (.pointer<|some ⟨b,o,none⟩)<|.el cells|ptr (id off β:Nat)(h:E id=.pointer (some ⟨β,0,none⟩)):RV w S E (.pointer<|some ⟨β,off,none⟩)<|.ptr id off|own (id:Nat)(x:Value)(h:E id=x):RV w S E x<|.own id|pe (id i sz off β n cap:Nat)(h:E id=.slice (some ⟨β,0,none⟩) n cap):RV w S E (.pointer<|some ⟨β,i*sz+off,none⟩)<|.pe id i sz off|vw (id lo n sz c:Nat)(a:Option Addr)(h:n=0\/∃β m cap,E id=.slice (some ⟨β,0,none⟩) m cap/\a=some ⟨β,lo*sz,none⟩):RV w S E (.slice a n c)<|.vw id lo n sz|agg (vs:List Value)(l:List T)(hl:vs.length=l.length)(h:∀j (h1:j<vs.length)(h2:j<l.length),RV w S E vs[j] l[j]):RV w S E (.agg vs.toArray)<|.agg l|Z9 (vs:List Value)(l:List T)(hl:vs.length=l.length)(h:∀j (h1:j<vs.length)(h2:j<l.length),RV w S E vs[j] l[j]):RV w S E (.tuple vs.toArray)<|.Z9 l|Fu (f:FuncId)(vs:List Value)(l:List T)(hl:vs.length=l.length)(h:∀j (h1:j<vs.length)(h2:j<l.length),RV w S E vs[j] l[j]):RV w S E (.func (.func f) #[] vs.toArray)<|.Fu f l|fz (f:FuncId)(vs:List Value)(l:List<|List Tree)(hl:vs.length=l.length)(h:∀j (h1:j<vs.length)(h2:j<l.length),PF w S vs[j] l[j]):RV w S E (.func (.func f) #[] vs.toArray)<|.fz f l|any (x:Value):RV w S E x .any
mutual def names (d:Nat):T->Bool|.t _|.el _|.fz _ _|.any=>false|.ptr id _=>cV4 id d|.own id=>cV4 id d|.pe id _ _ _=>cV4 id d|.vw id _ _ _=>cV4 id d|.agg l=>xB d l|.Z9 l=>xB d l|.Fu _ l=>xB d l def xB (d:Nat):List T->Bool|[]=>false|x::r=>names d x||xB d r end
theorem Bg {d:Nat}:∀{l:List T},xB d l=false->∀j (h:j<l.length),names d l[j]=false|[],_,j,h=>by simp at h|x::r,a,j,h=>by simp[xB,Bool.or_eq_false_iff]at a;cases j with|zero=>exact a.1|succ j=>exact Bg a.2 j<|by simpa using h
theorem RV.mono {w w':World}{S S':Nat->Prop}{E E':Nat->Value}(r:∀b,S b->S' b)(s:∀b,S b->w'.heap[b]?=w.heap[b]?){x:Value}{t:T}(h:RV w S E x t)(g:∀id,names id t=true->E' id=E id):RV w' S' E' x t:=by induction h with|t h=>exact .t<|h.mono r s|el b o cells vs y z A=>exact .el b o cells vs (r b y) (λj u=>(World.cell?_of_block<|s b y).trans<|z j u) λj u=>(A j u).mono r s|ptr id k β h=>exact .ptr id k β<|by rw[g id<|by simp[names]];exact h|own id x h=>exact .own id x<|by rw[g id<|by simp[names]];exact h|pe id i sz k β n v h=>exact .pe id i sz k β n v<|by rw[g id<|by simp[names]];exact h|vw id lo n sz c a h=>exact .vw id lo n sz c a<|by rw[g id<|by simp[names]];exact h|agg vs l m _ p=>refine .agg vs l m λj h1 e=>p j h1 e λid d=>g id ?_;rw[names];cases q:xB id l;rw[Bg q j e]at d;cases d;rfl|Z9 vs l m _ p=>refine .Z9 vs l m λj h1 e=>p j h1 e λid d=>g id ?_;rw[names];cases q:xB id l;rw[Bg q j e]at d;cases d;rfl|Fu f vs l m _ p=>refine .Fu f vs l m λj h1 e=>p j h1 e λid d=>g id ?_;rw[names];cases q:xB id l;rw[Bg q j e]at d;cases d;rfl|fz f vs l m h=>exact .fz f vs l m λj h1 e=>(h j h1 e).mono r s|any x=>exact .any x
inductive ck where|box (ts:List T)|rows (elem sz n:Nat)(rs:List<|List Tree)|mp (es:List<|Value×Value)|rv (x:Value)(elem sz n:Nat)(rs:List<|List Tree)
abbrev J4:=List<|Nat×T
abbrev F1:=List<|Nat×ck
def Bf (d:Nat):ck->Bool|.box a=>xB d a|.rows ..=>false|.mp ..=>false|.rv ..=>false
structure St where
 tm:J4
 hp:F1
def look {α:Type}:List (Nat×α)->Nat->Option α|[],_=>none|(k,x)::r,n=>bif cV4 k n then some x else look r n
def aT {α:Type}:List (Nat×α)->Nat->α->List (Nat×α)|[],_,_=>[]|(k,x)::r,n,y=>bif cV4 k n then(k,y)::aT r n y else(k,x)::aT r n y
def HK {α:Type}:List (Nat×α)->Nat->List (Nat×α)|[],_=>[]|(k,x)::r,n=>bif cV4 k n then HK r n else(k,x)::HK r n
theorem s9 {a b:Nat}(h:a≠b):cV4 a b=false:=by cases c:cV4 a b;rfl;exact absurd (bD c) h
theorem jH {α:Type}(l:List<|Nat×α)(n:Nat)(y:α)(m:Nat):look (aT l n y) m=if n=m then(look l m).map λ_=>y else look l m:=by induction l with|nil=>simp[aT,look]|cons p r b=>obtain⟨k,x⟩:=p;simp[aT];by_cases hk:k=n;subst hk;simp[tj,look];by_cases a:k=m;subst a;simp;have:cV4 k m=false:=s9 a;simp[this,b,a];have h1:cV4 k n=false:=s9 hk;simp only[h1,cT8,look];by_cases a:k=m;subst a;simp[Ne.symm hk];have:cV4 k m=false:=s9 a;simp[this,b]
def F6 (d:Nat):J4->Bool|[]=>true|(_,x)::r=>!names d x&&F6 d r
def E8 (d:Nat):F1->Bool|[]=>true|(k,x)::r=>!Nat.beq k d&&!Bf d x&&E8 d r
theorem xO {d:Nat}:∀{l:J4},F6 d l=true->∀k x,look l k=some x->names d x=false|[],_,k,x,h=>by simp[look]at h|(c,y)::r,a,k,x,h=>by simp[F6,BY,nW]at a;simp[look]at h;cases b:cV4 c k;rw[b]at h;exact xO a.2 k x h;rw[b]at h;simp[AI]at h;rw[<-h];exact a.1
theorem hM {d:Nat}:∀{l:F1},E8 d l=true->∀k x,look l k=some x->k≠d/\Bf d x=false|[],_,k,x,h=>by simp[look]at h|(c,y)::r,a,k,x,h=>by simp[E8,BY,nW]at a;simp[look]at h;cases b:cV4 c k;rw[b]at h;exact hM a.2 k x h;rw[b]at h;simp[AI]at h;refine⟨λe=>?_,by rw[<-h];exact a.1.2⟩;have:=bD b;subst this;subst e;simp at a
end Go.Pv
namespace Go.Pv
open Go.RowKit
inductive TD where|int (k:IntKind)|bool|string|slice (e:Nat)|struct (fs:List<|Nat×Nat)|array (n e:Nat)|other
structure TI where
 size:Nat
 desc:TD
 zero:List Value
def TD.isAgg:TD->Bool|.struct _|.array _ _=>true|_=>false
def TD.ok (P:Program):TD->TypeDesc->Prop|.int k,d=>d=.int k|.bool,d=>d=.bool|.string,d=>d=.string|.slice e,d=>d=.slice e|.struct l,d=>∃a:Array Field,d=.struct a/\l.length=a.size/\∀(f o n:Nat),l[f]?=some (o,n)->∃(b:Field)(i:TypeInfo),a[f]?=some b/\b.offset=o/\P.info? b.type=some i/\i.size=n|.array n e,d=>d=.array n e|.other,d=>(match d with|.struct _|.array _ _=>true|_=>false)=false
def Ci (P:Program)(t:Nat)(ti:TI):Prop:=∃i d,P.info? t=some i/\i.size=ti.size/\P.underlying t=some d/\ti.desc.ok P d/\(∃z,i.zero=some z/\z.cells.toList=ti.zero)/\i.bytes<=65536
abbrev vH:=List<|Nat×TI
def oW (P:Program)(tab:vH):Prop:=∀t ti,look tab t=some ti->Ci P t ti
section types
variable {P:Program}{t:Nat}{ti:TI}
theorem Ci.iJ (h:Ci P t ti)(w:World):(sizeOf t).run P w=.ok ti.size w:=by obtain⟨i,d,hi,a,_⟩:=h;simp[sizeOf,typeInfo,hi,a]
theorem Ci.Xe (h:Ci P t ti)(w:World):(isAgg t).run P w=.ok ti.desc.isAgg w:=by
 obtain⟨i,d,hi,c,b,a,_⟩:=h;unfold isAgg;rw[cV1,run_underlying b w];cases hx:ti.desc<;>rw[hx]at a<;>simp[TD.ok,TD.isAgg]at a|-;case struct l=>obtain⟨e,rfl,_⟩:=a;simp
 case other=>cases d<;>simp_all
 all_goals simp_all
def Ci.NN (h:Ci P t ti)(w:World):∃z:Value,(zeroValue t).run P w=.ok z w/\z.cells.toList=ti.zero:=by obtain⟨i,d,hi,_,_,_,⟨z,hz,a⟩,_⟩:=h;simp_all[zeroValue,typeInfo]
def Ci.dv (h:Ci P t ti)(w:World):∃d,(underlying t).run P w=.ok d w/\ti.desc.ok P d:=by obtain⟨i,d,_,_,a,b,_⟩:=h;grind [run_underlying]
end types
def H9:Value->Option Nat|.pointer<|some a=>some a.block|.slice (some a) _ _=>some a.block|.map<|some b=>some b|_=>none
def PJ (w:World)(S:Nat->Prop)(x:Value)(b sz n:Nat)(rs:List<|List Tree):Prop:=n=rs.length/\(x=.slice none 0 0/\rs=[]\/∃(β a:Nat)(vs:List Value),a<=maxLen/\x=.slice (some ⟨β,0,none⟩) rs.length a/\w.heap[β]?=some (.cells vs.toArray b (0,0))/\vs.length=a*sz/\rs.length<=a/\(∀r,r∈rs->r.length=sz)/\∀i j (hi:i<rs.length)(c:j<rs[i].length)(d:i*sz+j<vs.length),RT w S vs[i*sz+j] rs[i][j])
def yu (w:World)(S:Nat->Prop)(E:Nat->Value)(x:Value):ck->Prop|.box b=>∃(β:Nat)(vs:List Value)(a:TypeId),x=.pointer (some ⟨β,0,none⟩)/\w.heap[β]?=some (.cells vs.toArray a (0,0))/\vs.length=b.length/\(∀j (h1:j<vs.length)(c:j<b.length),RV w S E vs[j] b[j])/\∀v∈vs,v.oneCell'=true|.rows a sz n rs=>PJ w S x a sz n rs|.rv y a sz n rs=>x=y/\PJ w S x a sz n rs|.mp es=>∃(β clock:Nat)(l:Array MapEntry),x=.map (some β)/\w.heap[β]?=some (.map l clock)/\l.toList.map (λe=>(e.key,e.val))=es
structure tZ (L:Nat->Prop)(w w':World):Prop where
 os:w'.os=w.os
 tape:w'.tape=w.tape
 output:w'.output=w.output
 size:w.heap.size<=w'.heap.size
 block:∀k,k<w.heap.size->¬L k->w'.heap[k]?=w.heap[k]?drawn:w.drawn<=w'.drawn
theorem tZ.refl (L:Nat->Prop)(w:World):tZ L w w:=⟨rfl,rfl,rfl,cW6 _,λ_ _ _=>rfl,cW6 _⟩
theorem tZ.trans {L d:Nat->Prop}{a b c:World}(h:tZ L a b)(k:tZ d b c)(f:∀x,d x->L x\/a.heap.size<=x):tZ L a c:=⟨k.os.trans h.os,k.tape.trans h.tape,k.output.trans h.output,cw2 h.size k.size,λi hi e=>(k.block i (dc7 hi h.size) λhx=>by grind).trans<|h.block i hi e,cw2 h.drawn k.drawn⟩
structure GL where
 KL:Nat->Prop
 base:Nat->Prop
 Rm:Nat->Value
def vJ:Nat:=1000000
structure Ok (w0:World)(L:GL)(nt:Nat)(σ:St)(S:Nat->Prop)(E:Nat->Value)(a:Act)(w:World):Prop where
 keep:tZ L.KL w0 w
 lB:∀b,S b->b<w.heap.size
 base:∀b,S b->L.base b\/L.KL b\/w0.heap.size<=b
 size:a.tmps.size=nt
 defers:a.defers=[]tm:∀k t,look σ.tm k=some t->RV w S E (a.tmps.getD k undef) t
 hp:∀id ny,look σ.hp id=some ny->yu w S E (E id) ny
 own:∀id ny β,look σ.hp id=some ny->H9 (E id)=some β->¬S β/\β<w.heap.size/\(w0.heap.size<=β\/L.KL β)cJ:∀id id' ny blk' β,look σ.hp id=some ny->look σ.hp id'=some blk'->H9 (E id)=some β->H9 (E id')=some β->id=id'
 Rm:∀id,vJ<=id->E id=L.Rm id
def Jv (w0:World)(L:GL)(nt:Nat)(σ:St)(a:Act)(w:World):Prop:=∃S E,Ok w0 L nt σ S E a w
theorem PJ.mono {w w':World}{S S':Nat->Prop}{x:Value}{a sz n:Nat}{rs:List<|List Tree}(h:PJ w S x a sz n rs)(e:∀b,S b->S' b)(f:∀b,S b->w'.heap[b]?=w.heap[b]?)(hx:∀β,H9 x=some β->w'.heap[β]?=w.heap[β]?):PJ w' S' x a sz n rs:=by obtain⟨g,h⟩:=h;refine⟨g,?_⟩;rcases h with⟨h1,s⟩|⟨β,c,vs,k,rfl,l,m,o,d,p⟩;grind;exact .inr ⟨β,c,vs,k,rfl,(hx β rfl).trans l,m,o,d,λi j hi q r=>(p i j hi q r).mono e f⟩
theorem yu.mono {w w':World}{S S':Nat->Prop}{E E':Nat->Value}{x:Value}{b:ck}(h:yu w S E x b)(d:∀b,S b->S' b)(e:∀b,S b->w'.heap[b]?=w.heap[b]?)(hx:∀β,H9 x=some β->w'.heap[β]?=w.heap[β]?)(i:∀id,Bf id b=true->E' id=E id):yu w' S' E' x b:=by cases b with|box o=>obtain⟨β,vs,c,rfl,f,g,k,h1⟩:=h;refine⟨β,vs,c,rfl,(hx β rfl).trans f,g,λj a b=>(k j a b).mono d e λid m=>i id ?_,h1⟩;grind [Bf,Bg]|rows c sz n rs=>exact PJ.mono h d e hx|rv y c sz n rs=>exact⟨h.1,PJ.mono h.2 d e hx⟩|mp es=>obtain⟨β,clock,l,rfl,f,g⟩:=h;exact⟨β,clock,l,rfl,(hx β rfl).trans f,g⟩
section
variable {w0:World}{L:GL}{nt:Nat}{σ:St}{S:Nat->Prop}{E:Nat->Value}{a:Act}{w:World}
theorem Ok.put (h:Ok w0 L nt σ S E a w){d:Nat}{v:Value}{t:T}(c:d<nt)(e:RV w S E v t):Ok w0 L nt ⟨(d,t)::σ.tm,σ.hp⟩ S E (a.put (some d) v) w:={h with size:=by simp[Act.put,h.size],defers:=by simp[Act.put,h.defers],tm:=λk b ht=>by simp[look]at ht;have f:=h.size;by_cases hk:d=k;simp_all[Act.put];simp[s9 hk]at ht;have:=h.tm k b ht;simp_all[Act.put]}
theorem Ok.grow (h:Ok w0 L nt σ S E a w){w':World}(hk:tZ (λ_=>False) w w'):Ok w0 L nt σ S E a w':=by have e:∀b,S b->w'.heap[b]?=w.heap[b]?:=λb c=>hk.block b (h.lB b c) λx=>x;refine{h with keep:=h.keep.trans hk λ_ x=>x.elim,lB:=λb c=>dc7 (h.lB b c) hk.size,tm:=λk t ht=>(h.tm k t ht).mono (λ_ x=>x) e λ_ _=>rfl,hp:=λid b c=>(h.hp id b c).mono (λ_ x=>x) e (λβ d=>hk.block β (h.own id b β c d).2.1 λx=>x) λ_ _=>rfl,own:=λid b β c d=>⟨(h.own id b β c d).1,dc7 (h.own id b β c d).2.1 hk.size,(h.own id b β c d).2.2⟩}
theorem Ok.alloc (h:Ok w0 L nt σ S E a w){d:Nat}(j:Y3 d vJ=true)(r:F6 d σ.tm=true)(s:E8 d σ.hp=true){o:Obj}{x:Value}{b:ck}(hx:H9 x=some w.heap.size)(p:∀E',(∀id,id≠d->E' id=E id)->yu (w.alloc o) S E' x b):∃E',E' d=x/\(∀id,id≠d->E' id=E id)/\Ok w0 L nt ⟨σ.tm,(d,b)::σ.hp⟩ S E' a (w.alloc o):=by
 have hk:tZ (λ_=>False) w<|w.alloc o:=⟨rfl,rfl,rfl,by simp,λk hk _=>Below.heap_alloc _ _ _ hk,cW6 _⟩;have j:d<vJ:=cU8 j;have l:=h.grow hk;let E':Nat->Value:=λid=>if id=d then x else E id;have g:∀id,id≠d->E' id=E id:=λid c=>by grind
 have m:E' d=x:=by simp[E']
 have n:=h.keep.size;refine⟨E',m,g,{keep:=l.keep,lB:=l.lB,base:=l.base,size:=l.size,defers:=l.defers,tm:=?_,hp:=?_,own:=?_,cJ:=?_,Rm:=λid c=>by rw[g id λe=>by omega];exact h.Rm id c}⟩;exact λk t ht=>(l.tm k t ht).mono (λ_ x=>x) (λ_ _=>rfl) λid c=>g id λe=>by grind [xO]
 intro id ny hl;simp[look]at hl;by_cases c:d=id;simp_all;simp[s9 c]at hl;rw[g id λe=>c e.symm];exact(l.hp id ny hl).mono (λ_ x=>x) (λ_ _=>rfl) (λ_ _=>rfl) λi hi=>g i λe=>by grind [hM]
 intro id ny β hl hβ;simp[look]at hl;by_cases c:d=id;subst c;rw[m,hx]at hβ;cases hβ;exact⟨λq=>absurd (h.lB _ q)<|Nat.lt_irrefl _,by simp,.inl n⟩;simp[s9 c]at hl;rw[g id λe=>c e.symm]at hβ;exact l.own id ny β hl hβ;intro id id' ny blk' β hl hl' hβ hβ';simp[look]at hl hl';by_cases c:d=id<;>by_cases f:d=id';omega;subst c;simp[s9 f]at hl';rw[m,hx]at hβ;cases hβ;rw[g id' λe=>f e.symm]at hβ';exact absurd (h.own id' blk' _ hl' hβ').2.1<|Nat.lt_irrefl _;subst f;simp[s9 c]at hl;rw[m,hx]at hβ';cases hβ';rw[g id λe=>c e.symm]at hβ;exact absurd (h.own id ny _ hl hβ).2.1<|Nat.lt_irrefl _;simp[s9 c,s9 f]at hl hl';rw[g id λe=>c e.symm]at hβ;rw[g id' λe=>f e.symm]at hβ';exact h.cJ id id' ny blk' β hl hl' hβ hβ'
end
def val (tm:J4):Operand->Option T|.tmp k=>look tm k|.const v=>some<|.t<|.v v|.func f=>some<|.fz f []|.global g=>some<|.t<|.v<|.pointer<|some ⟨g,0,none⟩
def one (hp:F1):T->Bool|.t<|.v x=>x.oneCell'|.own id=>(look hp id).isSome|.agg _|.Z9 _|.any=>false|_=>true
def Zg (hp:F1):List T->Bool|[]=>true|x::r=>one hp x&&Zg hp r
def cq (hp:F1):T->Option (List T)|.agg l=>bif Zg hp l then some l else none|x=>bif one hp x then some [x]else none
def Av (b:Bool)(n:Nat)(l:List T)(a:Nat):Option T:=bif b then bif dc6 (a+n) l.length then some<|.agg ((l.drop a).take n)else none else l[a]?
def by2:List Tree->List T|[]=>[]|x::r=>.t x::by2 r
theorem bn6 (l:List Tree):by2 l=l.map T.t:=by induction l<;>simp_all[by2]
section
variable {P:Program}{w0:World}{L:GL}{nt:Nat}{σ:St}{S:Nat->Prop}{E:Nat->Value}{a:Act}{w:World}
theorem Ok.val (h:Ok w0 L nt σ S E a w){x:Operand}{t:T}(hx:val σ.tm x=some t):RV w S E (a.eval x) t:=by cases x with|tmp k=>exact h.tm k t hx|const v=>cases hx;exact .t<|.v v|func f=>cases hx;exact .fz f [] [] rfl λj h1=>by simp at h1|global g=>cases hx;exact .t<|.v _
theorem Ok.one (h:Ok w0 L nt σ S E a w){v:Value}{t:T}(e:RV w S E v t)(ht:one σ.hp t=true):v.oneCell'=true:=by cases e with
 |t h=>cases h<;>first|exact ht|rfl
 |own id _ f=>subst f;simp[Pv.one,Option.isSome_iff_exists]at ht;obtain⟨b,g⟩:=ht;have:=h.hp id b g;cases b with|box i=>obtain⟨β,vs,c,hx,_⟩:=this;rw[hx];rfl|rows c sz n rs=>obtain⟨_,⟨hx,_⟩|⟨β,d,vs,_,hx,_⟩⟩:=this<;>rw[hx]<;>rfl|mp es=>obtain⟨β,clock,l,hx,_⟩:=this;rw[hx];rfl|rv y c sz n rs=>obtain⟨_,_,⟨hx,_⟩|⟨β,d,vs,_,hx,_⟩⟩:=this<;>rw[hx]<;>rfl
 |agg vs l=>simp[Pv.one]at ht|Z9 vs l=>simp[Pv.one]at ht|any=>simp[Pv.one]at ht|_=>rfl
def aP0 {hp:F1}:∀{l:List T},Zg hp l=true->∀j (h:j<l.length),one hp l[j]=true|[],_,j,h=>by simp at h|x::r,a,j,h=>by simp[Zg,BY]at a;cases j with|zero=>exact a.1|succ j=>exact aP0 a.2 j<|by simpa using h
theorem cells_one {v:Value}(h:v.oneCell'=true):v.cells=#[v]:=by cases v<;>first|rfl|simp[Value.oneCell']at h
theorem Ok.cells (h:Ok w0 L nt σ S E a w){v:Value}{t:T}{l:List T}(d:RV w S E v t)(ht:cq σ.hp t=some l):∃vs:List Value,v.cells=vs.toArray/\vs.length=l.length/\(∀j (h1:j<vs.length)(f:j<l.length),RV w S E vs[j] l[j])/\∀x∈vs,x.oneCell'=true:=by
 have c:∀(d:RV w S E v t)(b:Pv.one σ.hp t=true)(e:l=[t]),∃vs:List Value,v.cells=vs.toArray/\vs.length=l.length/\(∀j (h1:j<vs.length)(f:j<l.length),RV w S E vs[j] l[j])/\∀x∈vs,x.oneCell'=true:=by
  intro d b e;subst e;have h1:=h.one d b;refine⟨[v],by rw[cells_one h1],rfl,λj h1 f=>?_,by simpa using h1⟩;have:j=0:=by simp at h1;omega
  subst this;exact d
 cases t with
 |agg l'=>simp[cq]at ht;cases b:Zg σ.hp l'<;>rw[b]at ht<;>simp at ht;subst ht;cases d with|agg vs l e g=>refine⟨vs,rfl,e,g,λx hx=>?_⟩;obtain⟨j,i,rfl⟩:=List.getElem_of_mem hx;exact h.one (g j i F)<|aP0 b j F
 |_=>simp[cq]at ht;cases b:Pv.one σ.hp _<;>rw[b]at ht<;>simp at ht;exact c d b ht.symm
theorem mT (b o i:Nat):(⟨b,o,none⟩:Addr).add i=⟨b,o+i,none⟩:=by unfold Addr.add;split<;>simp_all
def WX {t:Nat}{ti:TI}(e:Ci P t ti){b o:Nat}{vs:List Value}{l:List T}(p:vs.length=l.length)(h:∀j (h1:j<vs.length),w.cell? ⟨b,o+j,none⟩=some vs[j])(i:∀j (h1:j<vs.length)(k:j<l.length),RV w S E vs[j] l[j]){a:Nat}{r:T}(hx:Av ti.desc.isAgg ti.size l a=some r):∃v,(Instr.loadAt t<|.pointer<|some ⟨b,o+a,none⟩).run P w=.ok v w/\RV w S E v r:=by
 simp[Instr.loadAt,Instr.sureAddr,cV1,cW0,OF,loadVar,e.Xe];unfold Av at hx;cases f:ti.desc.isAgg;simp[f]at hx;obtain⟨g,rfl⟩:=No.1 hx;have:=h a F;simp only[Bool.false_eq_true,this];exact⟨_,rfl,i a F g⟩;simp[f]at hx;cases c:dc6 (a+ti.size) l.length<;>simp only[c,cT9,AI]at hx;cases hx;subst hx;have c:=cU8 c;have d:(loadCells ⟨b,o+a,none⟩ ti.size).run P w=.ok ((vs.drop a).take ti.size).toArray w:=by have:=run_loadCells_list (P:=P) w ⟨b,o+a,none⟩ ((vs.drop a).take ti.size) (λj v m=>by rw[mT,cD6];obtain⟨n,rfl⟩:=No.1 m;simp[cV5]at n;rw[h (a+j) F];simp);rw[show((vs.drop a).take ti.size).length=ti.size by simp;omega]at this;exact this
 simp only[cV1,e.iJ,OF,d];refine⟨_,rfl,.agg _ _ (by simp;omega) λj h1 k=>?_⟩;simp[cV5]at h1 k;have:=i (a+j) F F;simpa using this
def Ok.setRow (h:Ok w0 L nt σ S E a w){id β:Nat}{b z:ck}{r c:Array Value}{g:TypeId}(n:look σ.hp id=some b)(I:H9 (E id)=some β)(M:w.heap[β]?=some (.cells r g (0,0)))(s:(∀b,S b->(w.setRow β c).heap[b]?=w.heap[b]?)->(w.setRow β c).heap[β]?=some (.cells c g (0,0))->yu (w.setRow β c) S E (E id) z):Ok w0 L nt ⟨σ.tm,aT σ.hp id z⟩ S E a<|w.setRow β c:=by
 have m:=h.own id b β n I;have o:∀k,k≠β->(w.setRow β c).heap[k]?=w.heap[k]?:=λk hk=>setRow_other w β k c hk;have A:∀b,S b->(w.setRow β c).heap[b]?=w.heap[b]?:=λk hk=>o k λe=>m.1<|e▸hk;refine{keep:=?_,lB:=λb n=>by simpa using h.lB b n,base:=h.base,size:=h.size,defers:=h.defers,tm:=λk t ht=>(h.tm k t ht).mono (λ_ x=>x) A λ_ _=>rfl,hp:=?_,own:=?_,cJ:=?_,Rm:=h.Rm};exact h.keep.trans ⟨rfl,rfl,rfl,by simp,λk _ hk=>o k hk,cW6 _⟩ λx hx=>by subst hx;exact m.2.2.symm
 intro id' ny f;rw[jH]at f;by_cases d:id=id';subst d;simp[n,cW3,AI]at f;subst f;exact s A<|setRow_heap w β r c g _ M;simp[d]at f;refine(h.hp id' ny f).mono (λ_ x=>x) A (λu p=>o u λe=>?_) λ_ _=>rfl;subst e;exact d<|h.cJ id id' b ny _ n f I p;intro id' ny u f p;rw[jH]at f;have:∃b0,look σ.hp id'=some b0:=by by_cases d:id=id';subst d;exact⟨b,n⟩;simp[d]at f;exact⟨_,f⟩
 obtain⟨b0,q⟩:=this;simpa using h.own id' b0 u q p;intro i J x N u f v B C;rw[jH]at f v;have l:∀j y,(if id=j then(look σ.hp j).map λ_=>z else look σ.hp j)=some y->∃b0,look σ.hp j=some b0:=by intro j y K;by_cases d:id=j;subst d;exact⟨b,n⟩;simp[d]at K;exact⟨_,K⟩
 obtain⟨b0,q⟩:=l i x f;obtain⟨b1,D⟩:=l J N v;exact h.cJ i J b0 b1 u q D B C
def bZ7 (d:Ok w0 L nt σ S E a w){t:Nat}{ti:TI}(m:Ci P t ti){id off:Nat}{b l:List T}{x:T}{v u:Value}(y:look σ.hp id=some (.box b))(hp:RV w S E u<|.ptr id off)(A:RV w S E v x)(hx:cq σ.hp x=some l)(M:l.length=ti.size)(B:off+l.length<=b.length):∃w',(Instr.storeAt t u v).run P w=.ok () w'/\Ok w0 L nt ⟨σ.tm,aT σ.hp id<|.box<|b.take off++l++b.drop (off+l.length)⟩ S E a w':=by obtain⟨vs,n,N,C,h1⟩:=d.cells A hx;obtain⟨β,cs,c,o,z,D,e,f⟩:=d.hp id _ y;cases hp with|ptr _ _ O g=>
  rw[o]at g;cases g;have p:(Instr.storeAt t (.pointer<|some ⟨β,off,none⟩) v).run P w=.ok () (w.setRow β (cs.take off++vs++cs.drop (off+vs.length)).toArray):=by
   have:=run_storeCells_at (P:=P) β off c vs 0 cs.toArray w z (by simp;omega) h1;have q:vs.length=ti.size:=by omega
   simp only[Instr.storeAt,Instr.sureAddr,cV1,cW0,OF,storeVar,m.iJ,n];simpa[q]using this
  refine⟨_,p,d.setRow y (by rw[o];rfl) z λI h=>⟨β,_,c,o,h,?_,?_,?_⟩⟩;simp;omega;intro j i k;have key:RV w S E ((cs.take off++vs++cs.drop (off+vs.length))[j]'i)<|(b.take off++l++b.drop (off+l.length))[j]'k:=by
   simp only[IT,cV5,dc1]at i k;by_cases c1:j<off;have r:j<(cs.take off++vs).length:=by simp;omega
   have s:j<(b.take off++l).length:=by simp;omega
   rw[cW9 r,cW9 s,cW9<|by simp;omega,cW9<|by simp;omega];simpa using e j F F;by_cases c2:j<off+vs.length;have r:j<(cs.take off++vs).length:=by simp;omega
   have s:j<(b.take off++l).length:=by simp;omega
   rw[cW9 r,cW9 s,cL3<|by simp;omega,cL3<|by simp;omega];have e1:min off cs.length=off:=by omega
   have e2:min off b.length=off:=by omega
   simp only[cV5,e1,e2];exact C (j-off) F F;rw[cL3<|by simp;omega,cL3<|by simp;omega];have e1:min off cs.length=off:=by omega
   have e2:min off b.length=off:=by omega
   simp only[IT,cV5,e1,e2,cY2];have:=e j F F;have J:off+vs.length+(j-(off+vs.length))=j:=by omega
   have K:off+l.length+(j-(off+l.length))=j:=by omega
   simpa only[J,K]using this
  exact key.mono (λ_ x=>x) I λ_ _=>rfl;intro x hx;simp only[List.mem_append]at hx;rcases hx with(hx|hx)|hx;exact f x<|List.mem_of_mem_take hx;exact h1 x hx;exact f x<|List.mem_of_mem_drop hx
end
def qv {α:Type}(l:List α)(a:Nat)(m:List α):List α:=l.take a++m++l.drop (a+m.length)
def xJ (w:World)(S:Nat->Prop)(E:Nat->Value)(vs:List Value)(l:List T):Prop:=vs.length=l.length/\∀j (h1:j<vs.length)(a:j<l.length),RV w S E vs[j] l[j]
section
variable {w:World}{S:Nat->Prop}{E:Nat->Value}
theorem xJ.qv {cs vs:List Value}{a l:List T}(h:xJ w S E cs a)(k:xJ w S E vs l){off:Nat}(g:off+l.length<=a.length):xJ w S E (qv cs off vs)<|qv a off l:=by
 obtain⟨i,b⟩:=h;obtain⟨p,m⟩:=k;unfold Pv.qv;refine⟨by simp;omega,λj c d=>?_⟩;simp only[IT,cV5,dc1]at c d;by_cases c1:j<off;have e:j<(cs.take off++vs).length:=by simp;omega
 have f:j<(a.take off++l).length:=by simp;omega
 rw[cW9 e,cW9 f,cW9<|by simp;omega,cW9<|by simp;omega];simpa using b j F F;by_cases c2:j<off+vs.length;have e:j<(cs.take off++vs).length:=by simp;omega
 have f:j<(a.take off++l).length:=by simp;omega
 rw[cW9 e,cW9 f,cL3<|by simp;omega,cL3<|by simp;omega];have e1:min off cs.length=off:=by omega
 have e2:min off a.length=off:=by omega
 simp only[cV5,e1,e2];exact m (j-off) F F;rw[cL3<|by simp;omega,cL3<|by simp;omega];have e1:min off cs.length=off:=by omega
 have e2:min off a.length=off:=by omega
 simp only[IT,cV5,e1,e2,cY2];have:=b j F F;have n:off+vs.length+(j-(off+vs.length))=j:=by omega
 have o:off+l.length+(j-(off+l.length))=j:=by omega
 simpa only[n,o]using this
end
theorem aa3 {α:Type}(l:List α)(off:Nat)(m:List α)(h:off+m.length<=l.length)(j:Nat):(qv l off m)[j]?=if j<off then l[j]?else if j<off+m.length then m[j-off]?else l[j]?:=by
 unfold qv;have e1:min off l.length=off:=by omega
 by_cases c1:j<off;rw[if_pos c1,cW5,cI7<|by simp;omega,List.getElem?_take,if_pos c1];rw[if_neg c1,cW5,dc0<|by simp;omega];simp[cV5,e1];by_cases c2:j<off+m.length;rw[if_pos c2,cI7 F];rw[if_neg c2,dc0 F,List.getElem?_drop];congr 1;omega
theorem am6 (a:Nat):∀(xs:List Value)(k:Nat)(cs:Array Value),a+k+xs.length<=cs.size->(xs.zipIdx k).foldl (λcs (c,j)=>cs.setIfInBounds (a+j) c) cs=(qv cs.toList (a+k) xs).toArray
 |[],k,cs,h=>by simp[qv]|x::xs,k,cs,h=>by
  simp[cU9]at h;rw[List.zipIdx_cons,List.foldl_cons,am6 a xs (k+1) _<|by simp;omega];congr 1;apply List.ext_getElem?;intro j;have b:a+k<cs.size:=by omega
  rw[aa3 _ _ _<|by simp;omega,aa3 _ _ _ F];simp[Array.toList_setIfInBounds,cU9,List.getElem?_set];by_cases c1:j<a+k;rw[if_pos F,if_pos c1,if_neg F];by_cases c2:j=a+k;subst c2;simp[b];rw[if_neg F,if_neg c1];by_cases d:j<a+k+1+xs.length;rw[if_pos F,if_pos F,show j-(a+k)=j-(a+(k+1))+1 by omega,List.getElem?_cons_succ];rw[if_neg F,if_neg F,if_neg F]
def nF (hp:F1)(tm:J4)(a:Nat->Option (Nat×Nat))(cells:List T):List (Nat×Operand)->Option (List T)|[]=>some cells|(i,x)::rest=>match a i,(val tm x).bind (cq hp)with|some (o,n),some l=>bif cV4 l.length n&&dc6 (o+l.length) cells.length then nF hp tm a (qv cells o l) rest else none|_,_=>none
section
variable {P:Program}{w0:World}{L:GL}{nt:Nat}{σ:St}{S:Nat->Prop}{E:Nat->Value}{a:Act}{w:World}
def WV (h:Ok w0 L nt σ S E a w){b:Nat->Option (Nat×Nat)}:∀(parts:List<|Nat×Operand)(cs:Array Value)(d r:List T),xJ w S E cs.toList d->nF σ.hp σ.tm b d parts=some r->∃c,Instr.fill b cs (parts.map λ(i,x)=>(i,a.eval x))=some c/\xJ w S E c.toList r|[],cs,d,r,e,hx=>by simp[nF,AI]at hx;subst hx;exact⟨cs,rfl,e⟩|(i,x)::rest,cs,d,r,e,hx=>by simp[nF]at hx;cases hp:b i with|none=>simp[hp]at hx|some p=>obtain⟨o,n⟩:=p;cases f:val σ.tm x with|none=>simp[f]at hx|some t=>cases j:cq σ.hp t with|none=>simp[f,j]at hx|some l=>
     simp[hp,f,j,oq]at hx;cases g:cV4 l.length n&&dc6 (o+l.length) d.length<;>simp only[g,cT9]at hx;cases hx;simp only[BY]at g;have A:=bD g.1;have k:=cU8 g.2;obtain⟨vs,m,u,q,_⟩:=h.cells (h.val f) j;have v:cs.size=d.length:=by simpa using e.1
     have y:=WV h rest (qv cs.toList o vs).toArray (qv d o l) r (by simpa using e.qv ⟨u,q⟩ k) hx;obtain⟨c,h1,z⟩:=y;refine⟨c,?_,z⟩;have s:=am6 o vs 0 cs F;simp[cq7]at s;rw[<-h1];simp only[ew,Instr.fill,hp,m];rw[if_neg<|by simp;omega];rw[<-s];simp
end
def yn:Nat->List Value->List Value|0,_=>[]|n+1,z=>z++yn n z
theorem ES (n:Nat)(z:List Value):(yn n z).length=n*z.length:=by induction n with|zero=>simp[yn]|succ n a=>simp[yn,a,dc5,Nat.add_comm]
theorem OM (z:List Value)(hz:0<z.length):∀(n i:Nat),i<n*z.length->(yn n z)[i]?=z[i%z.length]?|0,i,h=>by simp at h|n+1,i,h=>by rw[dc5]at h;simp[yn];by_cases hi:i<z.length;rw[cI7 hi,Nat.mod_eq_of_lt hi];rw[dc0 F,OM z hz n (i-z.length) F];congr 1;exact(Nat.mod_eq_sub_mod F).symm
theorem aV0 (n:Nat)(z:Array Value)(hz:0<z.size):(Array.range<|n*z.size).map (λi=>z[i%z.size]!)=(yn n z.toList).toArray:=by apply Array.ext';apply List.ext_getElem?;intro i;by_cases hi:i<n*z.size;rw[OM z.toList (by simpa using hz) n i<|by simpa using hi];have a:=Nat.mod_lt i hz;simp[hi,a];rw[cK8<|by simpa using hi,cK8<|by simp[ES];omega]
def chunk (sz:Nat):Nat->List Tree->List (List Tree)|0,_=>[]|n+1,l=>l.take sz::chunk sz n (l.drop sz)
def jm:Tree->Tree|.v<|.slice none 0 0=>.sl 0 []|x=>x
def xC {w:World}{S:Nat->Prop}{v:Value}{x:Tree}(h:RT w S v x):RT w S v<|jm x:=by unfold jm;split;cases h;exact .slE _ _;exact h
def ai5:T->T|.t x=>.t<|jm x|x=>x
def ax7 {w:World}{S:Nat->Prop}{E:Nat->Value}{v:Value}{x:T}(h:RV w S E v x):RV w S E v<|ai5 x:=by cases h<;>first|exact .t<|xC ‹_›|constructor<;>assumption
def trees:List T->Option (List Tree)|[]=>some []|.t x::r=>(trees r).map (jm x::·)|_::_=>none
theorem Td:∀{l:List T}{r:List Tree},trees l=some r->l.map ai5=r.map T.t|[],r,h=>by simp[trees]at h;subst h;rfl|x::l,r,h=>by cases x<;>simp[trees]at h;cases a:trees l with|none=>simp[a]at h|some m=>simp[a,cW3,AI]at h;subst h;simp[Td a,ai5]
theorem Ep (sz:Nat):∀(n:Nat)(l:List Tree),(chunk sz n l).length=n|0,_=>rfl|n+1,l=>by simp[chunk,Ep sz n]
theorem Vb (sz:Nat):∀(n:Nat)(l:List Tree),l.length=n*sz->∀r∈chunk sz n l,r.length=sz|0,_,_,r,h=>by simp[chunk]at h|n+1,l,a,r,h=>by rw[dc5]at a;simp[chunk,List.mem_cons]at h;rcases h with rfl|h;simp;omega;exact Vb sz n (l.drop sz) (by simp;omega) r h
theorem al4 (sz:Nat):∀(n:Nat)(l:List Tree)(_:l.length=n*sz)(i j:Nat)(hi:i<(chunk sz n l).length)(a:j<(chunk sz n l)[i].length)(c:i*sz+j<l.length),(chunk sz n l)[i][j]=l[i*sz+j]|0,_,_,i,j,hi,_,_=>by simp[chunk]at hi|n+1,l,d,i,j,hi,a,c=>by rw[dc5]at d;cases i with|zero=>simp[chunk]|succ i=>
   simp[chunk,List.getElem_cons_succ]at a|-;simp[chunk,cU9,Nat.add_lt_add_iff_right]at hi;have b:i*sz+j<(l.drop sz).length:=by rw[dc5]at c;simp;omega
   rw[al4 sz n (l.drop sz) (by simp;omega) i j hi a b];simp[cY2];congr 1;rw[dc5];omega
def arith (a:BinOp)(k:IntKind)(x y:Int):Option Value:=match a with|.add=>some<|.int k<|k.wrap<|x+y|.sub=>some<|.int k<|k.wrap<|x-y|.mul=>some<|.int k<|k.wrap<|x*y|.eql=>some<|.bool<|x==y|.neq=>some<|.bool<|x !=y|.lss=>some<|.bool<|x<y|.leq=>some<|.bool<|x<=y|.gtr=>some<|.bool<|x>y|.geq=>some<|.bool<|x>=y|.quo=>if y=0 then none else some<|.int k<|k.wrap<|x.tdiv y|.rem=>if y=0 then none else some<|.int k<|x.tmod y|.and=>some<|.int k<|k.wrap (BitVec.ofInt k.bits x&&&BitVec.ofInt k.bits y).toNat|.or=>some<|.int k<|k.wrap (BitVec.ofInt k.bits x|||BitVec.ofInt k.bits y).toNat|.xor=>some<|.int k<|k.wrap (BitVec.ofInt k.bits x^^^BitVec.ofInt k.bits y).toNat|.andNot=>some<|.int k<|k.wrap (BitVec.ofInt k.bits x&&&~~~BitVec.ofInt k.bits y).toNat|.shl=>if y<0 then none else some<|.int k<|k.wrap<|x*2^min y.toNat k.bits|.shr=>if y<0 then none else some<|.int k<|x.fdiv<|2^min y.toNat k.bits
def sameKind:IntKind->IntKind->Bool|.i8,.i8|.i16,.i16|.i32,.i32|.i64,.i64|.u8,.u8|.u16,.u16|.u32,.u32|.u64,.u64=>true|_,_=>false
def Ot:BinOp->Bool|.shl|.shr=>true|_=>false
def bK2 (tab:vH)(a:BinOp)(ty:Nat):Option T->Option T->Option T
 |some<|.t<|.v<|.int k x,some<|.t<|.v<|.int b y=>bif sameKind k b||Ot a then(arith a k x y).map λv=>.t (.v v)else none|some<|.t<|.v<|.bool x,some<|.t<|.v<|.bool y=>match look tab ty with
  |some ⟨_,.bool,_⟩=>match a with|.eql=>some<|.t<|.v<|.bool<|x==y|.neq=>some<|.t<|.v<|.bool !x==y|_=>none
  |_=>none
 |_,_=>none
def unT (a:UnOp):Option T->Option T
 |some<|.t<|.v<|.bool x=>match a with|.not=>some<|.t<|.v<|.bool !x|_=>none
 |some<|.t<|.v<|.int k x=>match a with|.neg=>some<|.t<|.v<|.int k<|k.wrap<|0-x|_=>none
 |_=>none
def SC (c:Bool):Option T->Option T->Option T|some<|.t<|.v<|.bool x,some<|.t<|.v<|.bool y=>some<|.t<|.v<|.bool<|bif c then x else y|a,b=>match c with|true=>a|false=>b
def aK1 (tab:vH)(d:Nat):Option T->Option T
 |some<|.t<|.v<|.int _ x=>match look tab d with|some ⟨_,.int k,_⟩=>some<|.t<|.v<|.int k<|k.wrap x|_=>none
 |_=>none
def aN3 (tab:vH)(hp:F1)(ty:Nat)(x:Option T):Option T:=match look tab ty with
 |some ⟨_,.slice _,_⟩=>match x with
  |some<|.t<|.sl n _=>some<|.t<|.v<|.int .i64 n|some<|.t<|.v<|.slice _ n _=>some<|.t<|.v<|.int .i64 n|some<|.own id=>match look hp id with|some<|.rows _ _ n _=>some<|.t<|.v<|.int .i64 n|_=>none
  |_=>none
 |some ⟨_,.string,_⟩=>match x with|some<|.t<|.v<|.string s=>some<|.t<|.v<|.int .i64 s.size|_=>none
 |_=>none
def ba9 (x y:Int):Int:=if y<x then y else x
def q9 (x y:Int):Int:=if y>x then y else x
def Lm (f:Int->Int->Int)(tm:J4):Option T->List Operand->Option T
 |r,[]=>r|some<|.t<|.v<|.int k x,o::rest=>match val tm o with|some<|.t<|.v<|.int _ y=>Lm f tm (some<|.t<|.v<|.int k<|f x y) rest|_=>none
 |_,_::_=>none
def GJ (tm:J4):List Operand->Option (List T)|[]=>some []|o::rest=>match val tm o,GJ tm rest with|some x,some l=>some<|x::l|_,_=>none
def bQ6 (tm:J4):Fn->List Operand->List Operand->Option T|.func f,[],a=>(GJ tm a).map (.Fu f ·)|_,_,_=>none
def aJ1 (tab:vH)(σ:St):Callee->List Operand->List TypeId->Option T|.builtin .len,[x],[ty]=>aN3 tab σ.hp ty<|val σ.tm x|.builtin .min,x::rest,_=>Lm ba9 σ.tm (val σ.tm x) rest|.builtin .max,x::rest,_=>Lm q9 σ.tm (val σ.tm x) rest|_,_,_=>none
def Bw (tab:vH)(σ:St)(o:Oper):Option<|T×St:=match o.op with
 |.move x=>(val σ.tm x).map (·,σ)|.assign x=>(val σ.tm x).map (·,σ)|.pick c x y=>match val σ.tm c with|some<|.t<|.v<|.bool b=>(SC b (val σ.tm x)<|val σ.tm y).map (·,σ)|_=>none
 |.alloc e=>match o.dst,look tab e with|some d,some ti=>bif Y3 d vJ&&F6 d σ.tm&&E8 d σ.hp&&ti.zero.all Value.oneCell' then some (.ptr d 0,⟨σ.tm,(d,.box<|ti.zero.map λz=>.t<|.v z)::σ.hp⟩)else none|_,_=>none
 |.box _ x=>match o.dst,(val σ.tm x).bind (cq σ.hp)with|some d,some l=>bif Y3 d vJ&&F6 d σ.tm&&E8 d σ.hp then some (.ptr d 0,⟨σ.tm,(d,.box l)::σ.hp⟩)else none|_,_=>none
 |.load t x=>match val σ.tm x,look tab t with
  |some<|.ptr id a,some ti=>match look σ.hp id with|some<|.box m=>(Av ti.desc.isAgg ti.size m a).map (·,σ)|_=>none
  |some<|.el cells,some ti=>(Av ti.desc.isAgg ti.size (by2 cells) 0).map (·,σ)|_,_=>none
 |.store t x y=>match val σ.tm x,look tab t,(val σ.tm y).bind (cq σ.hp)with
  |some<|.ptr id a,some ti,some l=>match look σ.hp id with|some<|.box m=>bif cV4 l.length ti.size&&dc6 (a+l.length) m.length then some (.t<|.v undef,⟨σ.tm,aT σ.hp id<|.box<|qv m a l⟩)else none|_=>none
  |_,_,_=>none
 |.fieldAddr s x f=>match val σ.tm x,look tab s with
  |some<|.ptr id a,some ⟨_,.struct j,_⟩=>match j[f]?with|some (p,.succ _)=>some (.ptr id<|a+p,σ)|_=>none
  |some<|.el cells,some ⟨_,.struct j,_⟩=>match j[f]?with|some (p,.succ _)=>some (.el<|cells.drop p,σ)|_=>none
  |some<|.pe id i sz a,some ⟨_,.struct j,_⟩=>match j[f]?with|some (p,.succ _)=>some (.pe id i sz<|a+p,σ)|_=>none
  |_,_=>none
 |.nilCheck x=>match val σ.tm x with|some<|.ptr id a=>some (.ptr id a,σ)|some<|.el cells=>some (.el cells,σ)|some<|.pe id i sz a=>some (.pe id i sz a,σ)|_=>none
 |.binOp q ty x y _=>(bK2 tab q ty (val σ.tm x)<|val σ.tm y).map (·,σ)|.unOp q _ x=>(unT q<|val σ.tm x).map (·,σ)|.convert s d x=>match look tab s with|some _=>(aK1 tab d<|val σ.tm x).map (·,σ)|none=>none
 |.extract x k=>match val σ.tm x with|some<|.Z9 l=>l[k]?.map (·,σ)|_=>none
 |.build t parts=>match look tab t with
  |some ⟨_,.struct j,z⟩=>(nF σ.hp σ.tm (j[·]?) (z.map λx=>.t<|.v x) parts.toList).map λl=>(.agg l,σ)|some ⟨_,.array _ e,z⟩=>match look tab e with|some h=>(nF σ.hp σ.tm (λi=>some (i*h.size,h.size)) (z.map λx=>.t<|.v x) parts.toList).map λl=>(.agg l,σ)|none=>none
  |_=>none
 |.indexAddr t x ix=>match val σ.tm x,look tab t,val σ.tm ix with
  |some<|.ptr id a,some ⟨_,.array n e,_⟩,some<|.t<|.v<|.int _<|.ofNat i=>match look tab e with|some h=>bif Y3 i n then some (.ptr id<|a+i*h.size,σ)else none|none=>none
  |some<|.el cells,some ⟨_,.array n e,_⟩,some<|.t<|.v<|.int _<|.ofNat i=>match look tab e with|some h=>bif Y3 i n then some (.el<|cells.drop<|i*h.size,σ)else none|none=>none
  |some<|.pe id k sz a,some ⟨_,.array n e,_⟩,some<|.t<|.v<|.int _<|.ofNat i=>match look tab e with|some h=>bif Y3 i n then some (.pe id k sz<|a+i*h.size,σ)else none|none=>none
  |_,_,_=>none
 |.index t x ix=>match val σ.tm x,look tab t,val σ.tm ix with
  |some<|.agg l,some ⟨_,.array n e,_⟩,some<|.t<|.v<|.int _<|.ofNat i=>match look tab e with|some h=>bif Y3 i n then(Av h.desc.isAgg h.size l<|i*h.size).map (·,σ)else none|none=>none
  |_,_,_=>none
 |.makeFunc fn first g=>(bQ6 σ.tm fn first.toList g.toList).map (·,σ)|.call c=>(aJ1 tab σ c.callee c.args.toList c.argTypes.toList).map (·,σ)|.buildSlice t n parts=>match o.dst,look tab t with
  |some d,some ⟨_,.slice e,_⟩=>match look tab e with
   |some ti=>match nF σ.hp σ.tm (λi=>some (i*ti.size,ti.size)) ((yn n ti.zero).map λx=>.t<|.v x) parts.toList with
    |some l=>match trees l with|some r=>bif Y3 d vJ&&F6 d σ.tm&&E8 d σ.hp&&cV4 r.length (n*ti.size)&&dc6 (n*ti.size) 1000000&&cV4 ti.zero.length ti.size&&Y3 0 ti.size then some (.own d,⟨σ.tm,(d,.rows e ti.size n<|chunk ti.size n r)::σ.hp⟩)else none|none=>none
    |none=>none
   |none=>none
  |_,_=>none
 |_=>none
def WT (tab:vH)(tm:J4)(hp:F1)(o:Oper):Option<|T×St:=match o.op with
 |.move x=>(val tm x).map (·,⟨tm,hp⟩)|.assign x=>(val tm x).map (·,⟨tm,hp⟩)|.pick c x y=>match val tm c with|some<|.t<|.v<|.bool b=>(SC b (val tm x)<|val tm y).map (·,⟨tm,hp⟩)|_=>none
 |.alloc e=>match o.dst,look tab e with|some d,some ti=>bif Y3 d vJ&&F6 d tm&&E8 d hp&&ti.zero.all Value.oneCell' then some (.ptr d 0,⟨tm,(d,.box<|ti.zero.map λz=>.t<|.v z)::hp⟩)else none|_,_=>none
 |.box _ x=>match o.dst,(val tm x).bind (cq hp)with|some d,some l=>bif Y3 d vJ&&F6 d tm&&E8 d hp then some (.ptr d 0,⟨tm,(d,.box l)::hp⟩)else none|_,_=>none
 |.load t x=>match val tm x,look tab t with
  |some<|.ptr id a,some ti=>match look hp id with|some<|.box m=>(Av ti.desc.isAgg ti.size m a).map (·,⟨tm,hp⟩)|_=>none
  |some<|.el cells,some ti=>(Av ti.desc.isAgg ti.size (by2 cells) 0).map (·,⟨tm,hp⟩)|_,_=>none
 |.store t x y=>match val tm x,look tab t,(val tm y).bind (cq hp)with
  |some<|.ptr id a,some ti,some l=>match look hp id with|some<|.box m=>bif cV4 l.length ti.size&&dc6 (a+l.length) m.length then some (.t<|.v undef,⟨tm,aT hp id<|.box<|qv m a l⟩)else none|_=>none
  |_,_,_=>none
 |.fieldAddr s x f=>match val tm x,look tab s with
  |some<|.ptr id a,some ⟨_,.struct j,_⟩=>match j[f]?with|some (p,.succ _)=>some (.ptr id<|a+p,⟨tm,hp⟩)|_=>none
  |some<|.el cells,some ⟨_,.struct j,_⟩=>match j[f]?with|some (p,.succ _)=>some (.el<|cells.drop p,⟨tm,hp⟩)|_=>none
  |some<|.pe id i sz a,some ⟨_,.struct j,_⟩=>match j[f]?with|some (p,.succ _)=>some (.pe id i sz<|a+p,⟨tm,hp⟩)|_=>none
  |_,_=>none
 |.nilCheck x=>match val tm x with|some<|.ptr id a=>some (.ptr id a,⟨tm,hp⟩)|some<|.el cells=>some (.el cells,⟨tm,hp⟩)|some<|.pe id i sz a=>some (.pe id i sz a,⟨tm,hp⟩)|_=>none
 |.binOp q ty x y _=>(bK2 tab q ty (val tm x)<|val tm y).map (·,⟨tm,hp⟩)|.unOp q _ x=>(unT q<|val tm x).map (·,⟨tm,hp⟩)|.convert s d x=>match look tab s with|some _=>(aK1 tab d<|val tm x).map (·,⟨tm,hp⟩)|none=>none
 |.extract x k=>match val tm x with|some<|.Z9 l=>l[k]?.map (·,⟨tm,hp⟩)|_=>none
 |.build t parts=>match look tab t with
  |some ⟨_,.struct j,z⟩=>(nF hp tm (j[·]?) (z.map λx=>.t<|.v x) parts.toList).map λl=>(.agg l,⟨tm,hp⟩)|some ⟨_,.array _ e,z⟩=>match look tab e with|some h=>(nF hp tm (λi=>some (i*h.size,h.size)) (z.map λx=>.t<|.v x) parts.toList).map λl=>(.agg l,⟨tm,hp⟩)|none=>none
  |_=>none
 |.indexAddr t x ix=>match val tm x,look tab t,val tm ix with
  |some<|.ptr id a,some ⟨_,.array n e,_⟩,some<|.t<|.v<|.int _<|.ofNat i=>match look tab e with|some h=>bif Y3 i n then some (.ptr id<|a+i*h.size,⟨tm,hp⟩)else none|none=>none
  |some<|.el cells,some ⟨_,.array n e,_⟩,some<|.t<|.v<|.int _<|.ofNat i=>match look tab e with|some h=>bif Y3 i n then some (.el<|cells.drop<|i*h.size,⟨tm,hp⟩)else none|none=>none
  |some<|.pe id k sz a,some ⟨_,.array n e,_⟩,some<|.t<|.v<|.int _<|.ofNat i=>match look tab e with|some h=>bif Y3 i n then some (.pe id k sz<|a+i*h.size,⟨tm,hp⟩)else none|none=>none
  |_,_,_=>none
 |.index t x ix=>match val tm x,look tab t,val tm ix with
  |some<|.agg l,some ⟨_,.array n e,_⟩,some<|.t<|.v<|.int _<|.ofNat i=>match look tab e with|some h=>bif Y3 i n then(Av h.desc.isAgg h.size l<|i*h.size).map (·,⟨tm,hp⟩)else none|none=>none
  |_,_,_=>none
 |.makeFunc fn first g=>(bQ6 tm fn first.toList g.toList).map (·,⟨tm,hp⟩)|.call c=>(aJ1 tab ⟨tm,hp⟩ c.callee c.args.toList c.argTypes.toList).map (·,⟨tm,hp⟩)|.buildSlice t n parts=>match o.dst,look tab t with
  |some d,some ⟨_,.slice e,_⟩=>match look tab e with
   |some ti=>match nF hp tm (λi=>some (i*ti.size,ti.size)) ((yn n ti.zero).map λx=>.t<|.v x) parts.toList with
    |some l=>match trees l with|some r=>bif Y3 d vJ&&F6 d tm&&E8 d hp&&cV4 r.length (n*ti.size)&&dc6 (n*ti.size) 1000000&&cV4 ti.zero.length ti.size&&Y3 0 ti.size then some (.own d,⟨tm,(d,.rows e ti.size n<|chunk ti.size n r)::hp⟩)else none|none=>none
    |none=>none
   |none=>none
  |_,_=>none
 |_=>none
def evalOp (tab:vH)(σ:St)(o:Oper):Option<|T×St:=match σ with|⟨tm,hp⟩=>WT tab tm hp o
theorem sV (tab:vH)(σ:St)(o:Oper):evalOp tab σ o=Bw tab σ o:=by rfl
def cE2 (P:Program)(o:Oper)(a:Act)(w:World)(v:Value)(w':World):Prop:=(execOp a.eval o).run P w=.ok (.value v) w'\/(execOp a.eval o).run P w=.ok .skip w'/\v=undef
def NQ {k k':IntKind}(h:sameKind k k'=true):k=k':=by cases k<;>cases k'<;>first|rfl|simp[sameKind]at h
section
variable {P:Program}{tab:vH}{w0:World}{L:GL}{nt:Nat}{σ σ':St}{S:Nat->Prop}{E:Nat->Value}{a:Act}{w:World}{t:T}
theorem RV.tv {x y:Value}(h:RV w S E x<|.t<|.v y):x=y:=by cases h with|t h=>cases h;rfl
theorem RV.slice {x:Value}{n:Nat}{rs:List<|List Tree}(h:RV w S E x<|.t<|.sl n rs):∃a c,x=.slice a n c:=by cases h with|t h=>cases h<;>exact⟨_,_,rfl⟩
def bI8 {b:BinOp}{k c:IntKind}{x y:Int}{v:Value}(hk:sameKind k c=true\/Ot b=true)(h:arith b k x y=some v):(binOp b 0 (.int k x)<|.int c y).run P w=.ok v w/\∀ty,binOp b ty (.int k x) (.int c y)=binOp b 0 (.int k x) (.int c y):=by
 cases b<;>simp only[arith,AI]at h;case quo=>split at h<;>simp[AI]at h;subst h;rename_i a;obtain rfl:=NQ<|hk.resolve_right (by simp[Ot]);exact⟨by simp[binOp,Op.intDiv,a],λty=>by simp[binOp]⟩
 case rem=>split at h<;>simp[AI]at h;subst h;rename_i a;obtain rfl:=NQ<|hk.resolve_right (by simp[Ot]);exact⟨by simp[binOp,Op.intDiv,a],λty=>by simp[binOp]⟩
 case shl=>split at h<;>simp[AI]at h;subst h;rename_i a;exact⟨by simp[binOp,Op.shift,a],λty=>by simp[binOp]⟩
 case shr=>split at h<;>simp[AI,reduceCtorEq]at h;subst h;rename_i a;exact⟨by simp[binOp,Op.shift,a],λty=>by simp[binOp]⟩
 all_goals subst h;obtain rfl:=NQ<|hk.resolve_right (by simp[Ot]);exact⟨by simp[binOp,Op.intArith,Op.intCmp,Op.intBits],λty=>by simp[binOp]⟩
theorem rK (a:BinOp)(ty:Nat)(x y:Operand)(v u:Value)(h1:v≠.nilIface)(b:∀l,v≠.agg l):(eqGuard a ty x y v u).run P w=.ok () w:=by unfold eqGuard;cases a<;>simp;all_goals cases v<;>first|simp at h1;done|exact absurd rfl<|b _|cases u<;>simp
def cf6 (C8:oW P tab){ty:Nat}{n:Nat}{z:List Value}(b:look tab ty=some ⟨n,.bool,z⟩)(x y:Bool):(Op.equal ty (.bool x)<|.bool y).run P w=.ok (x==y) w:=by obtain⟨d,c,a⟩:=(C8 ty _ b).dv w;subst a;show(Op.equalIn (9999+1) ty (.bool x)<|.bool y).run P w=_;rw[Op.equalIn];simp[c]
def cf5 (C8:oW P tab){c:BinOp}{ty:Nat}{x y:Operand}{X b:Option T}(hx:∀t,X=some t->RV w S E (a.eval x) t)(e:∀t,b=some t->RV w S E (a.eval y) t)(h:bK2 tab c ty X b=some t):∃v,(do eqGuard c ty x y (a.eval x)<|a.eval y;binOp c ty (a.eval x)<|a.eval y:Sem Value).run P w=.ok v w/\RV w S E v t:=by
  unfold bK2 at h;split at h;rename_i k i f j;have e1:=(hx _ rfl).tv;have e2:=(e _ rfl).tv;cases hk:sameKind k f||Ot c<;>simp  [hk,cT8]at h;cases d:arith c k i j with|none=>simp[d]at h|some v=>simp  [d,cW3,AI]at h;subst h;obtain⟨h1,l⟩:=bI8 (P:=P) (w:=w) (by simpa using hk) d;rw[e1,e2];refine⟨v,?_,.t<|.v v⟩;simp  [cV1,rK c ty x y (.int k i) (.int f j) sq sq,OF,l,h1]
  rename_i i j;have e1:=(hx _ rfl).tv;have e2:=(e _ rfl).tv;rw[e1,e2];split at h;rename_i n z m;have g:=cf6 (w:=w) C8 m i j;split at h;simp  [AI]at h;subst h;exact⟨_,by simp  [cV1,rK .eql ty x y (.bool i) (.bool j) sq sq];simp[binOp,g],.t<|.v _⟩;simp  [AI]at h;subst h;exact⟨_,by simp  [cV1,rK .neq ty x y (.bool i) (.bool j) sq sq];simp[binOp,g],.t<|.v _⟩;cases h;cases h;cases h
def cC6 {a:UnOp}{x:Value}{X:Option T}(hx:∀t,X=some t->RV w S E x t)(h:unT a X=some t):∃v,(Op.unary a x).run P w=.ok v w/\RV w S E v t:=by unfold unT at h;split at h;have e1:=(hx _ rfl).tv;subst e1;split at h;cases h;exact⟨_,by simp[Op.unary],.t<|.v _⟩;cases h;have e1:=(hx _ rfl).tv;subst e1;split at h;cases h;exact⟨_,by simp[Op.unary,Op.intArith],.t<|.v _⟩;cases h;cases h
def bV0 {c:Bool}{x y:Value}{X a:Option T}(hx:∀t,X=some t->RV w S E x t)(b:∀t,a=some t->RV w S E y t)(h:SC c X a=some t):RV w S E (if c then x else y) t:=by unfold SC at h;split at h;have e1:=(hx _ rfl).tv;have e2:=(b _ rfl).tv;cases h;subst e1;subst e2;cases c<;>exact .t<|.v _;cases c;exact b t h;exact hx t h
def bN5 (C8:oW P tab){s d:Nat}{x:Value}{X:Option T}(hx:∀t,X=some t->RV w S E x t)(h:aK1 tab d X=some t)(c:∃u,P.underlying s=some u):∃v,(convert s d x).run P w=.ok v w/\RV w S E v t:=by unfold aK1 at h;split at h;have e1:=(hx _ rfl).tv;subst e1;split at h;rename_i k n z e;cases h;obtain⟨u,f,a⟩:=(C8 d _ e).dv w;subst a;obtain⟨u,b⟩:=c;exact⟨_,by simp[convert,run_underlying b,f,Conv.intToInt],.t<|.v _⟩;cases h;cases h
def ck1 (C8:oW P tab)(b:Ok w0 L nt σ S E a w){ty type:Nat}{x:Value}{X:Option T}(hx:∀t,X=some t->RV w S E x t)(h:aN3 tab σ.hp ty X=some t):∃v,(Builtin.len_ #[ty] type #[x]).run P w=.ok v w/\RV w S E v t:=by
 unfold aN3 at h;split at h;rename_i n e z f;obtain⟨d,g,i⟩:=(C8 ty _ f).dv w;subst i;have key:∀(l:Option Addr)(m c:Nat),(Builtin.len_ #[ty] type #[.slice l m c]).run P w=.ok (.int .i64 m) w:=by simp[Builtin.len_,g,goInt]
 split at h;obtain⟨l,c,rfl⟩:=(hx _ rfl).slice;cases h;exact⟨_,key _ _ _,.t<|.v _⟩;have e1:=(hx _ rfl).tv;subst e1;cases h;exact⟨_,key _ _ _,.t<|.v _⟩;rename_i id;split at h;rename_i el sz m rs p;cases h;have q:=hx _ rfl;cases q with|own _ _ j=>subst j;obtain⟨o,⟨k,r⟩|⟨β,s,vs,_,k,_⟩⟩:=b.hp id _ p;subst r;subst o;rw[k];exact⟨_,key _ _ _,.t<|.v _⟩;rw[k];subst o;exact⟨_,key _ _ _,.t<|.v _⟩
 cases h;cases h;rename_i n z f;obtain⟨d,g,i⟩:=(C8 ty _ f).dv w;subst i;split at h;have e1:=(hx _ rfl).tv;subst e1;cases h;exact⟨_,by simp[Builtin.len_,g,goInt],.t<|.v _⟩;cases h;cases h
def Yx {f:Int->Int->Int}{g:Value->Value->Sem Value}(l:∀k x m y,g (.int k x) (.int m y)=pure (.int k<|f x y))(c:Ok w0 L nt σ S E a w):∀(rest:List Operand)(x:Value)(X:Option T),(∀t,X=some t->RV w S E x t)->∀t,Lm f σ.tm X rest=some t->∃v,((rest.map a.eval).foldlM g x).run P w=.ok v w/\RV w S E v t|[],x,X,hx,t,h=>by exact⟨x,by simp,hx t h⟩|o::rest,x,X,hx,t,h=>by unfold Lm at h;split at h;rename_i b;cases b;rename_i k i o' d b;cases b;have e1:=(hx _ rfl).tv;subst e1;split at h;rename_i m j n;have e2:=(c.val n).tv;have p:=Yx l c rest (.int k<|f i j) _ (λt ht=>by cases ht;exact .t<|.v _) t h;obtain⟨v,q,e⟩:=p;refine⟨v,?_,e⟩;simp[ew,List.foldlM_cons,e2,l];exact q;cases h;cases h
def Tg (b:Ok w0 L nt σ S E a w):∀(l:List Operand)(r:List T),GJ σ.tm l=some r->xJ w S E (l.map a.eval) r
 |[],r,h=>by simp[GJ]at h;subst h;exact⟨rfl,λj h1=>by simp at h1⟩|o::rest,r,h=>by
  unfold GJ at h;split at h;rename_i x m hx d;cases h;have c:=Tg b rest m d;refine⟨by simp[c.1],λj h1 e=>?_⟩;cases j with|zero=>exact b.val hx|succ j=>exact c.2 j (by simpa using h1)<|by simpa using e
  cases h
end
section
variable {P:Program}{tab:vH}{w0:World}{L:GL}{nt:Nat}{σ σ':St}{S:Nat->Prop}{E:Nat->Value}{a:Act}{w:World}{t:T}
theorem sW {s f p n m:Nat}{e:List<|Nat×Nat}{sz:Nat}{z:List Value}(a:Ci P s ⟨sz,.struct e,z⟩)(g:e[f]?=some (p,n+1))(b o:Nat)(_:m=p):(Instr.fieldAt s (.pointer<|some ⟨b,o,none⟩) f).run P w=.ok (.pointer<|some ⟨b,o+p,none⟩) w:=by obtain⟨d,h,j⟩:=a.dv w;obtain⟨k,rfl,t,c⟩:=j;obtain⟨u,i,h1,l,q,r⟩:=c f p (n+1) g;simp[Instr.fieldAt,h,h1,Instr.sureAddr,fieldPlace,sizeOf,typeInfo,q,r,mT,l]
def RV.WS {b o:Nat}{cells:List Tree}(h:RV w S E (.pointer<|some ⟨b,o,none⟩)<|.el cells)(p:Nat):RV w S E (.pointer<|some ⟨b,o+p,none⟩)<|.el<|cells.drop p:=by cases h with|el _ _ _ vs c d e=>refine .el b (o+p) _ (λj=>vs<|p+j) c (λj a=>?_) λj a=>?_;simp[dc1]at a;rw[cD6];exact d (p+j) F;simp[dc1]at a;simpa using e (p+j) F
def RV.Qn {x:Value}{cells:List Tree}(h:RV w S E x<|.el cells):∃b o,x=.pointer (some ⟨b,o,none⟩):=by cases h with|el b o=>exact⟨b,o,rfl⟩
def RV.cz7 {x:Value}{id i sz off:Nat}(h:RV w S E x<|.pe id i sz off):∃b o,x=.pointer (some ⟨b,o,none⟩):=by cases h with|pe _ _ _ _ b=>exact⟨b,_,rfl⟩
def RV.KS {x:Value}{id off:Nat}(h:RV w S E x<|.ptr id off):∃b,x=.pointer (some ⟨b,off,none⟩)/\E id=.pointer (some ⟨b,0,none⟩):=by cases h with|ptr _ _ b h=>exact⟨b,rfl,h⟩
def Oe (l:List Value):xJ w S E l<|l.map λz=>T.t<|.v z:=⟨sq,λj h1 a=>by simpa using RV.t<|.v _⟩
def bL7 (C8:oW P tab)(y:Ok w0 L nt σ S E a w){ty sz:Nat}{g:List<|Nat×Nat}{z:List Value}(D:look tab ty=some ⟨sz,.struct g,z⟩){parts:Array<|Nat×Operand}{l:List T}(h:nF σ.hp σ.tm (g[·]?) (z.map λx=>.t<|.v x) parts.toList=some l):∃v,(Instr.build ty<|parts.map λ(i,x)=>(i,a.eval x)).run P w=.ok v w/\RV w S E v (.agg l):=by
  obtain⟨I,hz,A⟩:=(C8 ty _ D).NN w;obtain⟨d,J,K⟩:=(C8 ty _ D).dv w;obtain⟨m,rfl,p,B⟩:=K;have M:xJ w S E I.cells.toList<|z.map λx=>T.t<|.v x:=by rw[A];exact Oe z
  obtain⟨r,c,s⟩:=WV y parts.toList I.cells _ l M h;have C:(m.mapM λf=>(do pure (f.offset,<-sizeOf f.type):Sem<|Nat×Nat)).run P w=.ok g.toArray w:=by
    have key:∀(fl:List Field)(k:List<|Nat×Nat),k.length=fl.length->(∀(f:Nat)(o n:Nat),k[f]?=some (o,n)->∃(u:Field)(i:TypeInfo),fl[f]?=some u/\u.offset=o/\P.info? u.type=some i/\i.size=n)->(fl.mapM λf=>(do pure (f.offset,<-sizeOf f.type):Sem<|Nat×Nat)).run P w=.ok k w:=by intro fl;induction fl with|nil=>intro k hk _;simp at hk;subst hk;simp|cons f fl N=>intro k hk b;cases k with|nil=>simp at hk|cons q k=>obtain⟨o,n⟩:=q;obtain⟨u,i,h1,O,Q,R⟩:=b 0 o n rfl;simp  [List.getElem?_cons_zero,AI]at h1;subst h1;have:=N k (by simpa using hk) (λj o n U=>by simpa using b (j+1) o n<|by simpa using U);simp[sizeOf,typeInfo,Q,R,O]at this|-;simp[this]
    have:=key m.toList g (by simpa using p) (λf o n V=>by simpa using B f o n V);rw[Array.mapM_eq_mapM_toList,Sem.run_map,this];rfl
  refine⟨.agg r,?_,?_⟩;simp only[Instr.build,cV1,hz,OF,J,C];have:(parts.map λ(i,x)=>(i,a.eval x)).toList=parts.toList.map λ(i,x)=>(i,a.eval x):=sq;rw[this];have e:(λx:Nat=>g.toArray[x]?)=λx:Nat=>g[x]?:=sq;rw[e,c];simp;have:=RV.agg    r.toList l s.1 s.2;simpa using this
def aI8 (C8:oW P tab)(g:Ok w0 L nt σ S E a w){ty sz n e:Nat}{j:TI}{z:List Value}(m:look tab ty=some ⟨sz,.array n e,z⟩)(p:look tab e=some j){parts:Array<|Nat×Operand}{l:List T}(h:nF σ.hp σ.tm (λi=>some (i*j.size,j.size)) (z.map λx=>.t<|.v x) parts.toList=some l):∃v,(Instr.build ty<|parts.map λ(i,x)=>(i,a.eval x)).run P w=.ok v w/\RV w S E v (.agg l):=by
 obtain⟨o,hz,k⟩:=(C8 ty _ m).NN w;obtain⟨d,q,r⟩:=(C8 ty _ m).dv w;subst r;have s:xJ w S E o.cells.toList<|z.map λx=>T.t<|.v x:=by rw[k];exact Oe z
 obtain⟨c,b,f⟩:=WV g parts.toList o.cells _ l s h;refine⟨.agg c,?_,?_⟩;have hp:(parts.map λ(i,x)=>(i,a.eval x)).toList=parts.toList.map λ(i,x)=>(i,a.eval x):=by simp
 simp[Instr.build,cV1,hz,OF,q,(C8 e _ p).iJ w,b,cW0];have:=RV.agg c.toList l f.1 f.2;simpa using this
theorem JJ {t n e i b o:Nat}{ik:IntKind}{c:TI}{sz:Nat}{z:List Value}(C8:oW P tab)(a:look tab t=some ⟨sz,.array n e,z⟩)(f:look tab e=some c)(hi:i<n):(Instr.indexAt t (.pointer<|some ⟨b,o,none⟩)<|.int ik<|df3 i).run P w=.ok (.pointer<|some ⟨b,o+i*c.size,none⟩) w:=by obtain⟨d,g,h⟩:=(C8 t _ a).dv w;subst h;have j:=(C8 e _ f).iJ w;have c1:0<=df3 i/\df3 i<n:=⟨Int.natCast_nonneg i,by simpa using hi⟩;simp only[Instr.indexAt,asIntOf,cV1,cW0,OF,g,Instr.sureAddr,c1,and_self,if_true,j,mT];simp
def Xx {t n e i:Nat}{ik:IntKind}{a:TI}{sz:Nat}{z:List Value}(C8:oW P tab)(h:look tab t=some ⟨sz,.array n e,z⟩)(q:look tab e=some a)(hi:i<n){vs:List Value}{l:List T}(k:xJ w S E vs l){r:T}(f:Av a.desc.isAgg a.size l (i*a.size)=some r):∃v,(Instr.index t (.agg vs.toArray)<|.int ik<|df3 i).run P w=.ok v w/\RV w S E v r:=by
 obtain⟨d,s,u⟩:=(C8 t _ h).dv w;subst u;have m:=(C8 e _ q).iJ w;have b:=(C8 e _ q).Xe w;have c1:0<=df3 i/\df3 i<n:=⟨Int.natCast_nonneg i,by simpa using hi⟩;unfold Av at f;have y:=k.1;cases g:a.desc.isAgg;simp only[g,cT8]at f;obtain⟨o,rfl⟩:=No.1 f;have c:i*a.size<vs.length:=by omega
 refine⟨vs[i*a.size],?_,k.2 _ c o⟩;rw[g]at b;simp only[Instr.index,asIntOf,cV1,cW0,OF,s,c1,and_self,if_true,m,part,b];simp[c];simp only[g,cT9]at f;cases p:dc6 (i*a.size+a.size) l.length<;>simp only[p,cT9,cT8,AI,reduceCtorEq]at f;subst f;rw[g]at b;refine⟨.agg<|vs.toArray.extract (i*a.size)<|i*a.size+a.size,?_,?_⟩;simp only[Instr.index,asIntOf,cV1,cW0,OF,s,c1,and_self,if_true,m,part,b];simp[m];have key:=RV.agg ((vs.drop<|i*a.size).take a.size) ((l.drop<|i*a.size).take a.size) (by simp;omega) (λj h1 x=>by simp only[cV5,dc1]at h1 x;have:=k.2 (i*a.size+j) F F;simpa using this);have e1:vs.toArray.extract (i*a.size) (i*a.size+a.size)=((vs.drop<|i*a.size).take a.size).toArray:=by simp
 rw[e1];exact key
def ah6 (C8:oW P tab)(o:Ok w0 L nt σ S E a w){ty sz e n:Nat}{z:List Value}{ti:TI}(C:look tab ty=some ⟨sz,.slice e,z⟩)(u:look tab e=some ti){parts:Array<|Nat×Operand}{l:List T}(h:nF σ.hp σ.tm (λi=>some (i*ti.size,ti.size)) ((yn n ti.zero).map λx=>.t<|.v x) parts.toList=some l)(D:n*ti.size<=1000000)(g:ti.zero.length=ti.size)(I:0<ti.size):∃cs:Array Value,(Instr.buildSlice ty n<|parts.map λ(i,x)=>(i,a.eval x)).run P w=.ok (.slice (some ⟨w.heap.size,0,none⟩) n n) (w.alloc<|.cells cs e)/\xJ w S E cs.toList l:=by
  obtain⟨d,y,J⟩:=(C8 ty _ C).dv w;subst J;obtain⟨A,hz,j⟩:=(C8 e _ u).NN w;have B:=(C8 e _ u).iJ w;have p:A.cells.size=ti.size:=by rw[<-g,<-j];simp
  have e1:∃start:Array Value,start.toList=yn n ti.zero/\
      (do let zero<-if n*ti.size=0 then pure #[]else do pure (<-zeroValue e).cells
          pure<|(Array.range<|n*ti.size).map (zero[·%zero.size]!)).run P w=.ok start w:=by
    by_cases h0:n*ti.size=0;refine⟨#[],?_,by simp[h0]⟩;have:(yn n ti.zero).length=0:=by rw[ES,g,h0]
    exact(List.eq_nil_of_length_eq_zero this).symm;refine⟨(yn n ti.zero).toArray,rfl,?_⟩;simp only[h0,if_false,cV1,hz,OF,cW0];rw[<-p,aV0 n A.cells F,j]
  obtain⟨start,q,b⟩:=e1;have K:xJ w S E start.toList<|(yn n ti.zero).map λx=>T.t<|.v x:=by rw[q];exact Oe _
  obtain⟨r,c,s⟩:=WV o parts.toList start _ l K h;refine⟨r,?_,s⟩;have hp:(parts.map λ(i,x)=>(i,a.eval x)).toList=parts.toList.map λ(i,x)=>(i,a.eval x):=sq;have k:¬n*ti.size>2^24:=F;by_cases h0:n*ti.size=0;have m:∀f:Nat->Value,(Array.range 0).map f=#[]:=λf=>sq;simp only[h0,if_true,cV1,cW0,OF]at b;simp only[Result.ok.injEq,and_true,m]at b;simp  [Instr.buildSlice,cV1,y,OF,B,h0,if_true,m,hp];simp  [<-b]at c;simp  [c];simp[newRow];simp  [h0,if_false,cV1,hz,OF,cW0,Result.ok.injEq,and_true]at b;simp only[Instr.buildSlice,cV1,y,OF,B,k,if_false,h0,cW0,hz,b,hp,c];simp[newRow]
end
section
variable {P:Program}{tab:vH}{w0:World}{L:GL}{nt:Nat}{σ σ':St}{S:Nat->Prop}{E:Nat->Value}{a:Act}{w:World}{t:T}{o:Oper}
def Z2 {v:Value}(h:Ok w0 L nt σ S E a w)(b:(execOp a.eval o).run P w=.ok (.value v) w)(c:RV w S E v t):∃v w' E',cE2 P o a w v w'/\Ok w0 L nt σ S E' a w'/\RV w' S E' v t:=⟨v,w,E,.inl b,h,c⟩
def H0 {x:Option T}{σ σ':St}{t:T}(h:x.map (·,σ)=some (t,σ')):x=some t/\σ'=σ:=by cases x with|none=>simp at h|some y=>grind
def bK3 {vs:List Value}{l:List T}{d e:Nat}(h:Ok w0 L nt σ S E a w)(k:xJ w S E vs l)(h1:∀x∈vs,x.oneCell'=true)(c:Y3 d vJ=true)(m:F6 d σ.tm=true)(f:E8 d σ.hp=true)(p:xB d l=false):∃E',Ok w0 L nt ⟨σ.tm,(d,.box l)::σ.hp⟩ S E' a (w.alloc<|.cells vs.toArray e)/\RV (w.alloc<|.cells vs.toArray e) S E' (.pointer<|some ⟨w.heap.size,0,none⟩) (.ptr d 0):=by obtain⟨E',n,_,g⟩:=h.alloc (b:=.box l) c m f rfl (λE' i=>by refine⟨w.heap.size,vs,e,rfl,heap_alloc_new w _,k.1,λj a b=>?_,h1⟩;refine(k.2 j a b).mono (λ_ x=>x) (λb f=>heap_alloc_old w _ b<|h.lB b f) λid o=>i id λeq=>?_;grind [Bg]);exact⟨E',g,.ptr d 0 _ n⟩
def RV.cu0 {v:Value}{y:Tree}(h:RV w S E v<|.t y):RT w S v y:=by cases h with|t h=>exact h
def bw3 {d:Nat}{x:Operand}{t:T}(a:F6 d σ.tm=true)(hx:val σ.tm x=some t):names d t=false:=by cases x with|tmp k=>exact xO a k t hx|const v=>cases hx;rfl|func f=>cases hx;rfl|global g=>cases hx;rfl
def aM0 {d:Nat}{hp:F1}{t:T}{l:List T}(a:names d t=false)(hx:cq hp t=some l):xB d l=false:=by cases t with|agg m=>grind [cq,names]|_=>grind [cq,xB]
def cb3 (d:Nat)(l:List Value):xB d (l.map λz=>T.t<|.v z)=false:=by induction l with|nil=>rfl|cons x l a=>grind [xB,names]
def ID (C8:oW P tab)(h:Ok w0 L nt σ S E a w)(m:evalOp tab σ o=some (t,σ')):∃v w' E',cE2 P o a w v w'/\Ok w0 L nt σ' S E' a w'/\RV w' S E' v t:=by
 rw[sV]at m;obtain⟨dst,op,type,pos,after,guard⟩:=o;cases op<;>simp only[Bw,reduceCtorEq]at m;case move x=>obtain⟨hx,rfl⟩:=H0 m;exact Z2 h rfl<|h.val hx
 case assign x=>obtain⟨hx,rfl⟩:=H0 m;exact Z2 h rfl<|h.val hx
 case pick c x y=>
  split at m;·rename_i b U;obtain⟨hx,rfl⟩:=H0 m;have hcv:=(h.val U).tv;exact Z2 h (by simp[execOp,hcv,asBool])<|bV0 (λt ht=>h.val ht) (λt ht=>h.val ht) hx
  ·cases m
 case alloc e=>
  split at m
  ·rename_i d ti A;cases D:Y3 d vJ&&F6 d σ.tm&&E8 d σ.hp&&ti.zero.all Value.oneCell'<;>simp only[D,cT9,cT8,reduceCtorEq,AI,cz4]at m;obtain⟨rfl,rfl⟩:=m;simp only[BY]at D;obtain⟨zv,hz,hzc⟩:=(C8 e _ A).NN w;obtain⟨E',N,I⟩:=bK3 (e:=e) h (Oe ti.zero) (by simpa using D.2) D.1.1.1 D.1.1.2 D.1.2<|cb3 d _;refine⟨_,_,E',.inl ?_,N,I⟩;have:zv.cells=ti.zero.toArray:=by rw[<-hzc]
   simp[execOp,Instr.alloc,hz,newVar,newRow,this]
  ·cases m
 case box e x=>
  split at m;·rename_i d l hx;cases D:Y3 d vJ&&F6 d σ.tm&&E8 d σ.hp<;>simp only[D,cT9,cT8,reduceCtorEq,AI,cz4]at m;obtain⟨rfl,rfl⟩:=m;simp only[BY]at D;cases I:val σ.tm x with|none=>simp[I]at hx|some y=>simp only[I,oq]at hx;obtain⟨vs,hvs,V,R,h1⟩:=h.cells (h.val I) hx;obtain⟨E',N,hv'⟩:=bK3 (e:=e) h ⟨V,R⟩ h1 D.1.1 D.1.2 D.2<|aM0 (bw3 D.1.2 I) hx;refine⟨_,_,E',.inl ?_,N,hv'⟩;simp[execOp,Instr.box,newVar,newRow,hvs]
  ·cases m
 case load ty x=>
  split at m
  ·rename_i id off ti hx A;split at m;·rename_i ts D;obtain⟨O,rfl⟩:=H0 m;obtain⟨β,q,W⟩:=(h.val hx).KS;obtain⟨β',vs,elem,hE',hh,V,R,_⟩:=h.hp id _ D;rw[W]at hE';cases hE';obtain⟨v,B,C⟩:=WX (P:=P) (w:=w) (b:=β) (o:=0) (C8 ty _ A) V λj h1=>by rw[cell_of_row w β (0+j) _ elem _ hh];simp[h1] R O;rw[Nat.zero_add]at B;exact Z2 h (by simp[execOp,q,B]) C
   ·cases m
  ·rename_i cells ti hx A;obtain⟨O,rfl⟩:=H0 m;have I:=h.val hx;obtain⟨b,o,q⟩:=I.Qn;rw[q]at I;cases I with|el _ _ _ vs hS U R=>obtain⟨v,B,C⟩:=WX (P:=P) (w:=w) (S:=S) (E:=E) (b:=b) (o:=o) (vs:=(List.range cells.length).map vs) (l:=by2 cells) (C8 ty _ A) (by simp[bn6]) λj h1=>by simp only[cW2,cI4]at h1;rw[U j h1];simp (λj h1 h2=>by simp only[cW2,cI4]at h1;simp only[bn6,cX7,List.getElem_range];exact .t<|R j h1) O;rw[cq7]at B;exact Z2 h (by simp[execOp,q,B]) C
  ·cases m
 case store ty x y=>
  split at m
  ·rename_i id off ti l hx A hy;split at m;·rename_i ts D;cases U:cV4 l.length ti.size&&dc6 (off+l.length) ts.length<;>simp only[U,cT9,cT8,reduceCtorEq,AI,cz4]at m;obtain⟨rfl,rfl⟩:=m;simp only[BY]at U;cases I:val σ.tm y with|none=>simp[I]at hy|some u=>simp only[I,oq]at hy;obtain⟨w',hs,N⟩:=bZ7 h (C8 ty _ A) D (h.val hx) (h.val I) hy (bD U.1)<|cU8 U.2;exact⟨undef,w',E,.inr ⟨by simp[execOp,hs],rfl⟩,N,.t<|.v _⟩
   ·cases m
  ·cases m
 case nilCheck x=>
  split at m;·rename_i id off hx;simp only[AI,cz4]at m;obtain⟨rfl,rfl⟩:=m;obtain⟨β,q,_⟩:=(h.val hx).KS;exact Z2 (v:=.pointer<|some ⟨β,off,none⟩) h (by simp[execOp,q])<|by rw[<-q];exact h.val hx
  ·rename_i cells hx;simp only[AI,cz4]at m;obtain⟨rfl,rfl⟩:=m;obtain⟨b,o,q⟩:=(h.val hx).Qn;exact Z2 (v:=.pointer<|some ⟨b,o,none⟩) h (by simp[execOp,q])<|by rw[<-q];exact h.val hx
  ·rename_i id i sz off hx;simp only[AI,cz4]at m;obtain⟨rfl,rfl⟩:=m;obtain⟨b,o,q⟩:=(h.val hx).cz7;exact Z2 (v:=.pointer<|some ⟨b,o,none⟩) h (by simp[execOp,q])<|by rw[<-q];exact h.val hx
  ·cases m
 case fieldAddr s x f=>
  split at m
  ·rename_i id off sz fs z hx A;split at m;·rename_i p n Q;simp only[AI,cz4]at m;obtain⟨rfl,rfl⟩:=m;obtain⟨β,q,W⟩:=(h.val hx).KS;exact Z2 h (by simp[execOp,q,sW (C8 s _ A) Q β off rfl])<|.ptr id _ β W
   ·cases m
  ·rename_i cells sz fs z hx A;split at m;·rename_i p n Q;simp only[AI,cz4]at m;obtain⟨rfl,rfl⟩:=m;have I:=h.val hx;obtain⟨b,o,q⟩:=I.Qn;rw[q]at I;exact Z2 h (by simp[execOp,q,sW (C8 s _ A) Q b o rfl])<|I.WS p
   ·cases m
  ·rename_i id i sz' off sz fs z hx A;split at m;·rename_i p n Q;simp only[AI,cz4]at m;obtain⟨rfl,rfl⟩:=m;have I:=h.val hx;generalize q:a.eval x=pv at I;cases I with|pe _ _ _ _ β n' cap W=>exact Z2 (v:=.pointer<|some ⟨β,i*sz'+off+p,none⟩) h (by simp[execOp,q,sW (C8 s _ A) Q β _ rfl])<|by rw[cD6];exact .pe id i sz' (off+p) β n' cap W
   ·cases m
  ·cases m
 case binOp op ty x y yt=>obtain⟨hx,rfl⟩:=H0 m;obtain⟨v,B,C⟩:=cf5 C8 (x:=x) (y:=y) (a:=a) (λt ht=>h.val ht) (λt ht=>h.val ht) hx;exact Z2 h (by simp only[execOp,cV1,B,OF,cW0]) C
 case unOp op ty x=>obtain⟨hx,rfl⟩:=H0 m;obtain⟨v,B,C⟩:=cC6 (P:=P) (λt ht=>h.val ht) hx;exact Z2 h (by simp only[execOp,cV1,B,OF,cW0]) C
 case convert s d x=>
  split at m;·rename_i ti hs;obtain⟨hx,rfl⟩:=H0 m;obtain⟨i,u,_,_,hu,_⟩:=C8 s _ hs;obtain⟨v,B,C⟩:=bN5 (s:=s) C8 (λt ht=>h.val ht) hx ⟨u,hu⟩;exact Z2 h (by simp only[execOp,cV1,B,OF,cW0]) C
  ·cases m
 case extract x k=>
  split at m
  ·rename_i l hx;obtain⟨O,rfl⟩:=H0 m;have I:=h.val hx;cases hxe:a.eval x<;>rw[hxe]at I<;>try cases I;done
   cases I with|Z9 vs _ V R=>obtain⟨hk,rfl⟩:=No.1 O;exact Z2 h (by simp[execOp,hxe,Instr.extract,V,hk])<|R k F hk
  ·cases m
 case build ty parts=>
  split at m;·rename_i sz fs z A;cases Q:nF σ.hp σ.tm (fs[·]?) (z.map λx=>.t<|.v x) parts.toList with|none=>simp[Q]at m|some l=>simp only[Q,cW3,AI,cz4]at m;obtain⟨rfl,rfl⟩:=m;obtain⟨v,B,C⟩:=bL7 C8 h A Q;exact Z2 h (by simp only[execOp,cV1,B,OF,cW0]) C
  ·rename_i sz n e z A;split at m<;>try cases m;done
   rename_i te K;cases Q:nF σ.hp σ.tm (λi=>some (i*te.size,te.size)) (z.map λx=>.t<|.v x) parts.toList with|none=>simp[Q]at m|some l=>simp only[Q,cW3,AI,cz4]at m;obtain⟨rfl,rfl⟩:=m;obtain⟨v,B,C⟩:=aI8 C8 h A K Q;exact Z2 h (by simp only[execOp,cV1,B,OF,cW0]) C
  ·cases m
 case indexAddr ty x ix=>
  split at m<;>try cases m;done
  all_goals
   rename_i hx A X;split at m<;>try cases m;done
   rename_i te K
  ·rename_i id off sz n e z ik i _;cases D:Y3 i n<;>simp only[D,cT9,cT8,reduceCtorEq,AI,cz4]at m;obtain⟨rfl,rfl⟩:=m;obtain⟨β,q,W⟩:=(h.val hx).KS;exact Z2 h (by simp only[execOp,q,(h.val X).tv,JJ C8 A K<|cU8 D,cV1,OF,cW0])<|.ptr id _ β W
  ·rename_i cells sz n e z ik i _;cases D:Y3 i n<;>simp only[D,cT9,cT8,reduceCtorEq,AI,cz4]at m;obtain⟨rfl,rfl⟩:=m;have I:=h.val hx;obtain⟨b,o,q⟩:=I.Qn;rw[q]at I;exact Z2 h (by simp only[execOp,q,(h.val X).tv,JJ C8 A K<|cU8 D,cV1,OF,cW0])<|I.WS _
  ·rename_i id k sz' off sz n e z ik i _;cases D:Y3 i n<;>simp only[D,cT9,cT8,reduceCtorEq,AI,cz4]at m;obtain⟨rfl,rfl⟩:=m;have I:=h.val hx;generalize q:a.eval x=pv at I;cases I with|pe _ _ _ _ β n' cap W=>exact Z2 (v:=.pointer<|some ⟨β,k*sz'+off+i*te.size,none⟩) h (by simp only[execOp,q,(h.val X).tv,JJ C8 A K<|cU8 D,cV1,OF,cW0])<|by rw[cD6];exact .pe id k sz' (off+i*te.size) β n' cap W
 case index ty x ix=>
  split at m<;>try cases m;done
  rename_i l sz n e z ik i hx A X;split at m<;>try cases m;done
  rename_i te K;cases D:Y3 i n<;>simp only[D,cT9,cT8,reduceCtorEq]at m;obtain⟨O,rfl⟩:=H0 m;have I:=h.val hx;generalize q:a.eval x=pv at I;cases I with|agg vs _ V R=>obtain⟨v,B,C⟩:=Xx (ik:=ik) C8 A K (cU8 D) ⟨V,R⟩ O;exact Z2 h (by simp only[execOp,q,(h.val X).tv,B,cV1,OF,cW0]) C
 case makeFunc fn first J=>obtain⟨hx,rfl⟩:=H0 m;cases fn<;>cases hfl:first.toList<;>simp only[bQ6,hfl,reduceCtorEq]at hx;·rename_i f;cases V:GJ σ'.tm J.toList with|none=>simp[V]at hx|some l=>
    simp only[V,cW3,AI]at hx;subst hx;have R:=Tg h _ l V;have hfirst:first=#[]:=by simpa using hfl
    subst hfirst;refine Z2 h ?_<|.Fu f (J.toList.map a.eval) l R.1 R.2;simp[execOp,Instr.makeFunc];exact Array.ext' sq
 case buildSlice ty n parts=>
  split at m
  ·rename_i d sz e z A;split at m
   ·rename_i ti K;split at m
    ·rename_i l Q;split at m
     ·rename_i r R;cases U:Y3 d vJ&&F6 d σ.tm&&E8 d σ.hp&&cV4 r.length (n*ti.size)&&dc6 (n*ti.size) 1000000&&cV4 ti.zero.length ti.size&&Y3 0 ti.size<;>simp only[U,cT9,cT8,reduceCtorEq,AI,cz4]at m;obtain⟨rfl,rfl⟩:=m;simp only[BY]at U;obtain⟨⟨⟨⟨⟨⟨c0,c1⟩,c2⟩,c3⟩,c4⟩,c5⟩,c6⟩:=U;have c3:=bD c3;have c6:0<ti.size:=cU8 c6;obtain⟨cs,hrun,hcl,hcr⟩:=ah6 C8 h A K Q (cU8 c4) (bD c5) c6;have hlr:=Td R;have M:r.length=l.length:=by have:=congrArg List.length hlr;simpa using this.symm
      obtain⟨E',W,_,N⟩:=h.alloc (o:=.cells cs e) (x:=.slice (some ⟨w.heap.size,0,none⟩) n n) (b:=.rows e ti.size n<|chunk ti.size n r) c0 c1 c2 rfl (λE' hE'=>by
       refine⟨(Ep _ _ _).symm,.inr ⟨w.heap.size,n,cs.toList,by have:n<=n*ti.size:=Nat.le_mul_of_pos_right n c6;have:=cU8 c4;unfold maxLen;omega,by rw[Ep],by rw[heap_alloc_new],?_,by rw[Ep];exact cW6 _,Vb _ _ _ c3,?_⟩⟩;·rw[hcl,<-M];simpa using c3
       ·intro i j hi hj D;have Z:i*ti.size+j<r.length:=by rw[hcl,<-M]at D;exact D
        rw[al4 ti.size n r c3 i j hi hj Z];have h3:=ax7<|hcr (i*ti.size+j) D (by rw[<-M];exact Z);have h4:ai5 (l[i*ti.size+j]'(by rw[<-M];exact Z))=T.t r[i*ti.size+j]:=by
         have h5:(l.map ai5)[i*ti.size+j]?=(r.map T.t)[i*ti.size+j]?:=by rw[hlr]
         rw[bg5,bg5,IN<|by rw[<-M];exact Z,IN Z]at h5;simpa using h5
        rw[h4]at h3;exact h3.cu0.mono (λ_ x=>x) λb D=>heap_alloc_old w _ b<|h.lB b D);refine⟨_,_,E',.inl ?_,N,.own d _ W⟩;simp only[execOp,cV1,hrun,OF,cW0]
     ·cases m
    ·cases m
   ·cases m
  ·cases m
 case call c=>
  obtain⟨hx,rfl⟩:=H0 m;obtain⟨callee,args,tys⟩:=c;simp only at hx;unfold aJ1 at hx;split at hx;·rename_i x ty h1 h2;obtain⟨v,B,C⟩:=ck1 (type:=type) C8 h (λt ht=>h.val ht) hx;obtain⟨args⟩:=args;obtain⟨tys⟩:=tys;simp only at h1 h2;subst h1;subst h2;refine Z2 h ?_ C;simp only[execOp,resolve,cV1,cW0,OF,invoke,builtin];simp[B]
  ·rename_i x rest h1;obtain⟨v,B,C⟩:=Yx (P:=P) (f:=ba9) (g:=Builtin.min2) (λ_ _ _ _=>rfl) h rest (a.eval x) _ (λt ht=>h.val ht) t hx;obtain⟨args⟩:=args;simp only at h1;subst h1;refine Z2 h ?_ C;simp only[execOp,resolve,cV1,cW0,OF,invoke,builtin,Builtin.min_];simp[B]
  ·rename_i x rest h1;obtain⟨v,B,C⟩:=Yx (P:=P) (f:=q9) (g:=Builtin.max2) (λ_ _ _ _=>rfl) h rest (a.eval x) _ (λt ht=>h.val ht) t hx;obtain⟨args⟩:=args;simp only at h1;subst h1;refine Z2 h ?_ C;simp only[execOp,resolve,cV1,cW0,OF,invoke,builtin,Builtin.max_];simp[B]
  ·cases hx
end
def Gb (nt:Nat)(dst:Option Nat)(t:T)(σ:St):Option St:=match dst with|none=>some σ|some d=>bif Y3 d nt then match σ with|⟨tm,hp⟩=>some ⟨(d,t)::tm,hp⟩else none
def R8 (all:List Oper)(tm:J4):Option (Nat×Bool)->Option Bool|none=>some true|some (j,a)=>match all[j]?with
  |some o=>match o.dst with
   |some d=>match look tm d with|some<|.t<|.v<|.bool b=>some (match a with|true=>b|false=>!b)|some<|.t<|.v<|.tuple _=>some false|_=>none
   |none=>none
  |none=>none
def KY (tab:vH)(nt:Nat)(all:List Oper):Nat->List Oper->St->List Oper×St|0,ops,σ=>(ops,σ)|_+1,[],σ=>([],σ)|n+1,o::rest,σ=>match R8 all σ.tm o.guard with
  |some true=>match evalOp tab σ o with
   |some (t,σ')=>match Gb nt o.dst t σ' with|some a=>KY tab nt all n rest a|none=>(o::rest,σ)
   |none=>(o::rest,σ)
  |some false=>match Gb nt o.dst (.t<|.v undef) σ with|some a=>KY tab nt all n rest a|none=>(o::rest,σ)
  |none=>(o::rest,σ)
inductive K where|c (x:Code)|e (id:Nat)
def after (P:Program):List K->(Exit->Act->World->Prop)->Exit->Act->World->Prop|[],Q=>Q|.c x::ks,Q=>Exit.then (x.wp P<|after P ks Q)<|after P ks Q|.e id::ks,Q=>Exit.inBlock id<|after P ks Q
def FY (id:Nat):List K->Option (List K)|[]=>none|.c _::ks=>FY id ks|.e i::ks=>bif cV4 id i then some ks else FY id ks
structure Cx where
 P:Program
 tab:vH
 C8:oW P tab
 w0:World
 L:GL
 nt:Nat
def Cx.post (X:Cx)(Q:Exit->St->Prop):Exit->Act->World->Prop:=λe a w=>∃σ,Jv X.w0 X.L X.nt σ a w/\Q e σ
def M8 {ρ:Type}(X:Cx)(ks:List K)(e:Exit)(σ:St)(m:Option ρ)(Q:ρ->Exit->St->Prop):Prop:=∀r,m=some r->∀a w,Jv X.w0 X.L X.nt σ a w->after X.P ks (X.post<|Q r) e a w
abbrev w6 {ρ:Type}(X:Cx)(ks:List K)(σ:St)(m:Option ρ)(Q:ρ->Exit->St->Prop):Prop:=M8 X ks .normal σ m Q
def o0 {ρ:Type}(X:Cx)(all:Array Oper)(ops:List Oper)(ks:List K)(σ:St)(m:Option ρ)(Q:ρ->Exit->St->Prop):Prop:=∀r,m=some r->∀a w,Jv X.w0 X.L X.nt σ a w->wpList X.P all (after X.P ks<|X.post<|Q r) ops a w
def els:List T->Option (List<|List Tree)|[]=>some []|.el c::r=>(els r).map (c::·)|_::_=>none
theorem bP0:∀{l:List T}{r:List<|List Tree},els l=some r->l=r.map T.el|[],r,h=>by grind [els]|x::l,r,h=>by cases x<;>simp only[els,reduceCtorEq]at h;cases a:els l with|none=>simp[a]at h|some m=>simp[a,cW3,AI]at h;subst h;simp[bP0 a]
def RV.pf {w:World}{S:Nat->Prop}{E:Nat->Value}{v:Value}{c:List Tree}(h:RV w S E v<|.el c):PF w S v c:=by cases h with|el b o _ vs a d e=>exact⟨b,o,vs,rfl,a,d,e⟩
def PF.rv {w:World}{S:Nat->Prop}{E:Nat->Value}{v:Value}{c:List Tree}(h:PF w S v c):RV w S E v<|.el c:=by obtain⟨b,o,vs,rfl,a,d,e⟩:=h;exact .el b o _ vs a d e
def RV.cb0 {w:World}{S:Nat->Prop}{E:Nat->Value}{v:Value}{n:Nat}{l:List T}{r:List<|List Tree}(h:RV w S E v<|.Fu n l)(a:els l=some r):RV w S E v<|.fz n r:=by have:=bP0 a;subst this;cases h with|Fu _ vs _ c b=>refine .fz n vs r gq λj h1 d=>?_;have:=b j h1 F;simp[cX7]at this;exact this.pf
mutual def Pe:T->T->T
 |.agg l,u=>match u with|.agg l'=>.agg<|Jd l l'|.any=>.any|_=>.agg l
 |.Z9 l,u=>match u with|.Z9 l'=>.Z9<|Jd l l'|.any=>.any|_=>.Z9 l
 |.t x,u=>match u with|.t<|.sl _ _=>.t<|jm x|.any=>.any|_=>.t x
 |.Fu f l,u=>match u with|.fz _ _=>(match els l with|some c=>.fz f c|none=>.Fu f l)|.any=>.any|_=>.Fu f l
 |x,u=>match u with|.any=>.any|_=>x def Jd:List T->List T->List T|[],_=>[]|x::l,u=>match u with|y::l'=>Pe x y::Jd l l'|[]=>x::l end
mutual theorem bd5 {w:World}{S:Nat->Prop}{E:Nat->Value}:∀{t u:T}{v:Value},RV w S E v t->RV w S E v (Pe t u)
 |.agg l,u,v,h=>by
  unfold Pe;split;·cases h with|agg vs _ d e=>have:=Ow (u:=‹List T›) ⟨d,e⟩;exact .agg vs _ this.1 this.2
  ·exact .any v
  ·exact h|.Z9 l,u,v,h=>by
  unfold Pe;split;·cases h with|Z9 vs _ d e=>have:=Ow (u:=‹List T›) ⟨d,e⟩;exact .Z9 vs _ this.1 this.2
  ·exact .any v
  ·exact h|.t x,u,v,h=>by
  unfold Pe;split;·cases h with|t h=>exact .t<|xC h
  ·exact .any v
  ·exact h|.Fu f l,u,v,h=>by
  unfold Pe;split
  ·split;·exact RV.cb0 h ‹_›
   ·exact h
  ·exact .any v
  ·exact h|.el c,u,v,h=>by unfold Pe;split<;>first|exact .any v|exact h
 |.ptr i o,u,v,h=>by unfold Pe;split<;>first|exact .any v|exact h
 |.own i,u,v,h=>by unfold Pe;split<;>first|exact .any v|exact h
 |.pe i a b c,u,v,h=>by unfold Pe;split<;>first|exact .any v|exact h
 |.vw i a b c,u,v,h=>by unfold Pe;split<;>first|exact .any v|exact h
 |.fz n c,u,v,h=>by unfold Pe;split<;>first|exact .any v|exact h
 |.any,u,v,h=>by unfold Pe;split<;>first|exact .any v|exact h;theorem Ow {w:World}{S:Nat->Prop}{E:Nat->Value}:∀{l u:List T}{vs:List Value},xJ w S E vs l->xJ w S E vs (Jd l u)
 |[],u,vs,h=>by simp only[Jd];exact h|x::l,u,vs,h=>by
  unfold Jd;split;·rename_i y l';cases vs with|nil=>have:=h.1;simp at this|cons v vs=>have h1:=bd5 (u:=y) (t:=x)<|h.2 0 sq sq;have c:=Ow (u:=l') (l:=l) (vs:=vs) ⟨by simpa using h.1,λj a b=>h.2 (j+1) (by simpa using a)<|by simpa using b⟩;refine⟨by simp[c.1],λj a b=>?_⟩;cases j with|zero=>exact h1|succ j=>exact c.2 j (by simpa using a)<|by simpa using b
  ·exact h;end
def Uy:ck->ck->ck
 |.box l,u=>match u with|.box l'=>.box<|Jd l l'|_=>.box l
 |x,_=>x
def ax5 {w:World}{S:Nat->Prop}{E:Nat->Value}{x:Value}{b u:ck}(h:yu w S E x b):yu w S E x<|Uy b u:=by cases b with|rows=>exact h|mp=>exact h|rv=>exact h|box l=>cases u with|box l'=>obtain⟨β,vs,a,h1,c,d,e,f⟩:=h;have:=Ow (u:=l') ⟨d,e⟩;exact⟨β,vs,a,h1,c,this.1,this.2,f⟩|rows=>exact h|mp=>exact h|rv=>exact h
def bZ9:J4->J4->Prop|[],_=>True|(k,t)::r,l=>(∃a,look l k=some a/\Pe a t=t)/\bZ9 r l
def bZ8:F1->F1->Prop|[],_=>True|(k,t)::r,l=>(∃a,look l k=some a/\Uy a t=t)/\bZ8 r l
def Sub (σ₁ σ:St):Prop:=bZ9 σ₁.tm σ.tm/\bZ8 σ₁.hp σ.hp
def ar0:∀{l₁ l:J4},bZ9 l₁ l->∀k t,look l₁ k=some t->∃a,look l k=some a/\Pe a t=t|[],_,_,k,t,h=>by simp[look]at h|(c,a)::r,l,b,k,t,h=>by simp[look]at h;by_cases hk:c=k;subst hk;simp[tj,AI]at h;subst h;exact b.1;simp[s9 hk]at h;exact ar0 b.2 k t h
def Bp:∀{l₁ l:F1},bZ8 l₁ l->∀k t,look l₁ k=some t->∃a,look l k=some a/\Uy a t=t|[],_,_,k,t,h=>by simp[look]at h|(c,a)::r,l,b,k,t,h=>by simp[look]at h;by_cases hk:c=k;subst hk;simp[tj,AI]at h;subst h;exact b.1;simp[s9 hk]at h;exact Bp b.2 k t h
def aN6 (l:J4)(p:Nat×T):Option T:=match look l p.1 with|some t=>some<|Pe t p.2|none=>none
def IX (l:F1)(p:Nat×ck):Option ck:=match look l p.1 with|some t=>some<|Uy t p.2|none=>none
def bq8:∀{l₁ l:J4},l₁.map (aN6 l)=l₁.map (λp=>some p.2)->bZ9 l₁ l|[],_,_=>trivial|(k,t)::r,l,h=>by simp only[ew,List.cons.injEq]at h;refine⟨?_,bq8 h.2⟩;have h1:=h.1;unfold aN6 at h1;split at h1;rename_i a ht;exact⟨a,ht,oa h1⟩;cases h1
def bq7:∀{l₁ l:F1},l₁.map (IX l)=l₁.map (λp=>some p.2)->bZ8 l₁ l|[],_,_=>trivial|(k,t)::r,l,h=>by simp only[ew,List.cons.injEq]at h;refine⟨?_,bq7 h.2⟩;have h1:=h.1;unfold IX at h1;split at h1;rename_i a ht;exact⟨a,ht,oa h1⟩;cases h1
theorem Sub.of {σ₁ σ:St}(a:σ₁.tm.map (aN6 σ.tm)=σ₁.tm.map λp=>some p.2)(b:σ₁.hp.map (IX σ.hp)=σ₁.hp.map λp=>some p.2):Sub σ₁ σ:=⟨bq8 a,bq7 b⟩
theorem Ok.sub {w0:World}{L:GL}{nt:Nat}{σ σ₁:St}{S:Nat->Prop}{E:Nat->Value}{a:Act}{w:World}(h:Ok w0 L nt σ S E a w)(d:Sub σ₁ σ):Ok w0 L nt σ₁ S E a w:={h with tm:=λk t ht=>by obtain⟨l,h1,e⟩:=ar0 d.1 k t ht;rw[<-e];exact bd5<|h.tm k l h1,hp:=λi b g=>by obtain⟨f,h1,e⟩:=Bp d.2 i b g;rw[<-e];exact ax5<|h.hp i f h1,own:=λi b β g m=>by obtain⟨f,h1,_⟩:=Bp d.2 i b g;exact h.own i f β h1 m,cJ:=λi j b f β h1 e=>by obtain⟨c,n,_⟩:=Bp d.2 i b h1;obtain⟨o,p,_⟩:=Bp d.2 j f e;exact h.cJ i j c o β n p}
theorem Jv.sub {w0:World}{L:GL}{nt:Nat}{σ σ₁:St}{a:Act}{w:World}(h:Jv w0 L nt σ a w)(b:Sub σ₁ σ):Jv w0 L nt σ₁ a w:=by obtain⟨S,E,h⟩:=h;exact⟨S,E,h.sub b⟩
def nL {P:Program}{Q d:Exit->Act->World->Prop}(b:∀e a w,Q e a w->d e a w):∀(ks:List K)e a w,after P ks Q e a w->after P ks d e a w
 |[],e,a,w,h=>b e a w h|.c x::ks,e,a,w,h=>by cases e<;>first|exact wp_mono h<|nL b ks|exact nL b ks _ a w h
 |.e id::ks,e,a,w,h=>by cases e with|exit i=>
   simp[after,Exit.inBlock]at h|-;split at h;·rename_i hi;rw[if_pos hi];exact nL b ks _ a w h
   ·rename_i hi;rw[if_neg hi];exact nL b ks _ a w h|_=>exact nL b ks _ a w h
def EV {P:Program}{Q:Exit->Act->World->Prop}{a:Act}{w:World}:∀(ks:List K),Q .ret a w->after P ks Q .ret a w|[],h=>h|.c _::ks,h=>EV ks h|.e _::ks,h=>EV ks h
theorem Jz {P:Program}{Q:Exit->Act->World->Prop}{a:Act}{w:World}{id:Nat}:∀{ks ks':List K},FY id ks=some ks'->after P ks' Q .normal a w->after P ks Q (.exit id) a w|[],_,h,_=>by simp[FY]at h|.c _::ks,ks',h,b=>Jz (ks:=ks) h b|.e i::ks,ks',h,b=>by simp[FY]at h;by_cases hi:id=i;simp_all[after,Exit.inBlock];simp_all[s9,after,Exit.inBlock,Jz]
theorem fK {P:Program}{Q:Exit->Act->World->Prop}{a:Act}{w:World}{id:Nat}:∀{ks:List K},FY id ks=none->Q (.exit id) a w->after P ks Q (.exit id) a w|[],_,b=>b|.c _::ks,h,b=>fK (ks:=ks) h b|.e i::ks,h,b=>by simp[FY]at h;by_cases hi:id=i;all_goals simp_all[s9,after,Exit.inBlock,fK]
section rules
variable {ρ τ:Type}{X:Cx}{ks:List K}{σ σ':St}{m:Option ρ}{Q:ρ->Exit->St->Prop}
theorem M8.sub {e:Exit}(b:Sub σ' σ)(h:M8 X ks e σ' m Q):M8 X ks e σ m Q:=λr c a w d=>h r c a w<|d.sub b
theorem M8.pre {e:Exit}{m₁:Option τ}{k:τ->Option ρ}(h:∀y,m₁=some y->M8 X ks e σ (k y) Q):M8 X ks e σ (m₁.bind k) Q:=λr d a w b=>by cases c:m₁ with|none=>grind|some y=>exact h y c r gq a w b
def w6.fail:w6 X ks σ none Q:=λr a=>by cases a
def o0.fail {all:Array Oper}{ops:List Oper}:o0 X all ops ks σ none Q:=λr a=>by cases a
def w6.leaf {r:ρ}(h:Q r .normal σ):w6 X [] σ (some r) Q:=λd b a w c=>by cases b;exact⟨σ,c,h⟩
theorem w6.ret {r:ρ}(h:Q r .ret σ):w6 X (.c .ret::ks) σ (some r) Q:=λe b a w d=>by cases b;exact wp_ret<|EV ks ⟨σ,d,h⟩
theorem w6.skip (h:w6 X ks σ m Q):w6 X (.c .skip::ks) σ m Q:=λr b a w d=>wp_skip<|h r b a w d
def w6.seq {x y:Code}(h:w6 X (.c x::.c y::ks) σ m Q):w6 X (.c (.seq x y)::ks) σ m Q:=λr b a w d=>wp_seq<|h r b a w d
def w6.block {id:Nat}{x:Code}(h:w6 X (.c x::.e id::ks) σ m Q):w6 X (.c (.block id x)::ks) σ m Q:=λr b a w d=>wp_block<|h r b a w d
def w6.cG7 {id:Nat}(h:w6 X ks σ m Q):w6 X (.e id::ks) σ m Q:=λr b a w c=>h r b a w c
def w6.exit {id:Nat}{ks':List K}(hp:FY id ks=some ks')(h:w6 X ks' σ m Q):w6 X (.c (.exit id)::ks) σ m Q:=λr b a w d=>wp_exit<|Jz hp<|h r b a w d
def w6.Eu {id:Nat}{r:ρ}(hp:FY id ks=.none)(h:Q r (.exit id) σ):w6 X (.c (.exit id)::ks) σ (some r) Q:=λe b a w d=>by cases b;exact wp_exit<|fK hp ⟨σ,d,h⟩
def M8.exit {id:Nat}{ks':List K}(hp:FY id ks=some ks')(h:w6 X ks' σ m Q):M8 X ks (.exit id) σ m Q:=λr b a w c=>Jz hp<|h r b a w c
def M8.Eu {id:Nat}{r:ρ}(hp:FY id ks=.none)(h:Q r (.exit id) σ):M8 X ks (.exit id) σ (some r) Q:=λd b a w c=>by cases b;exact fK hp ⟨σ,c,h⟩
theorem M8.ret {r:ρ}(h:Q r .ret σ):M8 X ks .ret σ (some r) Q:=λd b a w c=>by cases b;exact EV ks ⟨σ,c,h⟩
def w6.cond {c:Operand}{x y:Code}{b:Bool}{m₁ m₂:Option ρ}(f:val σ.tm c=some (.t<|.v<|.bool b))(g:w6 X (.c x::ks) σ m₁ Q)(h:w6 X (.c y::ks) σ m₂ Q):w6 X (.c (.cond c x y)::ks) σ (bif b then m₁ else m₂) Q:=λr d a w i=>by obtain⟨S,E,hk⟩:=i;have e:=(hk.val f).tv;cases b;exact wp_cond_false e<|h r d a w ⟨S,E,hk⟩;exact wp_cond_true e<|g r d a w ⟨S,E,hk⟩
def w6.bind {x:Code}{m₁:Option τ}{k:τ->Option ρ}{Q₁:τ->Exit->St->Prop}(f:w6 X [.c x] σ m₁ Q₁)(g:∀t e σ',m₁=some t->Q₁ t e σ'->M8 X ks e σ' (k t) Q):w6 X (.c x::ks) σ (m₁.bind k) Q:=λr d a w h=>by cases b:m₁ with|none=>grind|some t=>simp[b]at d;refine wp_mono (f t b a w h) λe i w' ⟨σ',j,l⟩=>?_;exact g t e σ' b l r d i w' j
def w6.region {id:Nat}{ops:Array Oper}(h:o0 X ops ops.toList ks σ m Q):w6 X (.c (.region id ops false)::ks) σ m Q:=λr b a w d=>wp_region_list<|h r b a w d
def o0.nil {all:Array Oper}(h:w6 X ks σ m Q):o0 X all [] ks σ m Q:=λr b a w c=>h r b a w c
def Ho {w0:World}{L:GL}{nt:Nat}{σ σ':St}{S:Nat->Prop}{E:Nat->Value}{a:Act}{w:World}{dst:Option Nat}{v:Value}{t:T}(h:Ok w0 L nt σ S E a w)(c:RV w S E v t)(hp:Gb nt dst t σ=some σ'):Ok w0 L nt σ' S E (a.put dst v) w:=by cases dst with|none=>simp[Gb,AI]at hp;subst hp;exact h|some d=>simp[Gb]at hp;cases b:Y3 d nt<;>simp[b,AI]at hp;subst hp;exact h.put (cU8 b) c
theorem I3 {w0:World}{L:GL}{nt:Nat}{σ:St}{S:Nat->Prop}{E:Nat->Value}{a:Act}{w:World}{all:Array Oper}{o:Oper}{b:Bool}(h:Ok w0 L nt σ S E a w)(c:R8 all.toList σ.tm o.guard=some b):Region.wanted o (yielded all a.tmps)=b:=by unfold Region.wanted;cases f:o.guard with|none=>grind [R8]|some p=>
  obtain⟨j,e⟩:=p;rw[f]at c;simp[R8]at c;split at c<;>try cases c
  rename_i o' k;split at c<;>try cases c
  rename_i d l;have m:all[j]?=some o':=by grind
  split at c<;>try cases c;done
  ·rename_i x hx;have n:=(h.tm d _ hx).tv;have i:a.tmps[d]?=some (.bool x):=by cases q:a.tmps[d]?with|none=>grind [undef]|some y=>simp_all
   have g:yielded all a.tmps j=some x:=by grind [yielded]
   simp[g];cases e<;>cases x<;>simp at c|-<;>first|exact c|rfl|assumption
  ·rename_i x hx;have n:=(h.tm d _ hx).tv;simp[AI]at c;subst c;have g:yielded all a.tmps j=none:=by simp[yielded,m,l,oq];cases q:a.tmps[d]?with|none=>rfl|some y=>simp_all
   simp[g]
def o0.step {all:Array Oper}{o:Oper}{rest:List Oper}{t:T}{σ₁ σ₂:St}(e:R8 all.toList σ.tm o.guard=some true)(f:evalOp X.tab σ o=some (t,σ₁))(hp:Gb X.nt o.dst t σ₁=some σ₂)(h:o0 X all rest ks σ₂ m Q):o0 X all (o::rest) ks σ m Q:=λr g a w ⟨S,E,hk⟩=>by obtain⟨v,w',E',c,d,i⟩:=ID X.C8 hk f;refine wpList_step λK j=>?_;rw[I3 hk e];have b:K (a.put o.dst v) w':=j _ _<|h r g _ _ ⟨S,E',Ho d i hp⟩;unfold Oper.wp;rcases c with c|⟨c,rfl⟩<;>rw[c];exact b;exact b
def o0.pass {all:Array Oper}{o:Oper}{rest:List Oper}{σ₂:St}(b:R8 all.toList σ.tm o.guard=some false)(hp:Gb X.nt o.dst (.t<|.v undef) σ=some σ₂)(h:o0 X all rest ks σ₂ m Q):o0 X all (o::rest) ks σ m Q:=λr c a w ⟨S,E,hk⟩=>by refine wpList_step λK d=>?_;rw[I3 hk b];exact d _ _<|h r c _ _ ⟨S,E,Ho hk (.t<|.v undef) hp⟩
def o0.run' {all:Array Oper}:∀(n:Nat)(ops Sz:List Oper)(σ σ':St),KY X.tab X.nt all.toList n ops σ=(Sz,σ')->o0 X all Sz ks σ' m Q->o0 X all ops ks σ m Q|0,ops,Sz,σ,σ',a,h=>by cases a;exact h|_+1,[],Sz,σ,σ',a,h=>by cases a;exact h|n+1,o::rest,Sz,σ,σ',a,h=>by unfold KY at a;split at a;rename_i b;split at a;rename_i t σ₁ c;split at a;rename_i σ₂ hp;exact .step b c hp<|o0.run' n rest Sz σ₂ σ' a h;cases a;exact h;cases a;exact h;rename_i b;split at a;rename_i σ₂ hp;exact .pass b hp<|o0.run' n rest Sz σ₂ σ' a h;cases a;exact h;cases a;exact h
theorem o0.run {all:Array Oper}{ops Sz:List Oper}(n:Nat)(a:KY X.tab X.nt all.toList n ops σ=(Sz,σ'))(h:o0 X all Sz ks σ' m Q):o0 X all ops ks σ m Q:=o0.run' n ops Sz σ σ' a h
theorem o0.split {all:Array Oper}{ops:List Oper}{tm:J4}{hp:F1}{b:Bool}{m₁ m₂:Option ρ}(d:Nat)(g:look tm d=some (.t<|.v<|.bool b))(h:o0 X all ops ks ⟨(d,.t<|.v<|.bool true)::tm,hp⟩ m₁ Q)(i:o0 X all ops ks ⟨(d,.t<|.v<|.bool false)::tm,hp⟩ m₂ Q):o0 X all ops ks ⟨tm,hp⟩ (bif b then m₁ else m₂) Q:=λr f a w j=>by
 have key:∀e,b=e->Jv X.w0 X.L X.nt ⟨(d,.t<|.v<|.bool e)::tm,hp⟩ a w:=by intro e l;subst l;obtain⟨S,E,hk⟩:=j;refine⟨S,E,{hk with tm:=λk t ht=>?_}⟩;simp[look]at ht;by_cases c:d=k;subst c;simp[tj,AI]at ht;subst ht;exact hk.tm d _ g;simp[s9 c]at ht;exact hk.tm k t ht
 cases b;exact i r f a w<|key _ rfl;exact h r f a w<|key _ rfl
theorem Ie {P:Program}{all:Array Oper}{Q:Exit->Act->World->Prop}:∀(l₁ b:List Oper)(a:Act)(w:World),wpList P all (Exit.then (wpList P all Q b) Q) l₁ a w->wpList P all Q (l₁++b) a w
  |[],b,a,w,h=>h|o::l₁,b,a,w,h=>by
    unfold wpList at h;simp  [List.cons_append];unfold wpList;split at h
    · rename_i d;rw[if_pos d];rcases h with h|⟨h1,f⟩;·left;have g:=λa w=>Ie (P:=P) (all:=all) (Q:=Q) l₁ b a w;unfold Oper.wp at h|-;unfold Oper.upon at h|-;split at h<;>first|grind|(refine h.mono λe w' c=>?_;cases e<;>first|grind|exact c)|exact g _ _ c|exact h|exact h.elim
      ·right;exact⟨h1,by obtain⟨i,w',j⟩:=f;exact⟨i,w',j⟩⟩
    simp_all [Ie]
def o0.bind {all:Array Oper}{ops:List Oper}{m₁:Option τ}{k:τ->Option ρ}(n:Nat)(σ₁:τ->St)(j:o0 X all (ops.take n) [] σ m₁ λt e σ'=>e=.normal/\Sub (σ₁ t) σ')(m:∀t,m₁=some t->o0 X all (ops.drop n) ks (σ₁ t) (k t) Q):o0 X all ops ks σ (m₁.bind k) Q:=λr g a w p=>by rw[<-List.take_append_drop n ops];cases b:m₁ with|none=>grind|some t=>
    simp  [b]at g;refine Ie _ _ _ _ ?_;have h:=j t b a w p;have mono:∀(l:List Oper)(Q c:Exit->Act->World->Prop),(∀e a w,Q e a w->c e a w)->∀a w,wpList X.P all Q l a w->wpList X.P all c l a w:=by intro l Q c d;induction l with|nil=>intro a w h;exact d _ _ _ h|cons o l q=>
        intro a w h;unfold wpList at h|-;split at h
        · rename_i s;rw[if_pos s];rcases h with h|⟨h1,f,w',u⟩;·left;unfold Oper.wp at h|-;unfold Oper.upon at h|-;split at h<;>first|grind|(refine h.mono λe w' i=>?_;cases e<;>first|grind|grind|obtain⟨v,x,y⟩:=i;exact⟨v,x,d _ _ _ y⟩)|exact q _ _ i|grind|omega
          ·right;exact⟨h1,f,w',d _ _ _ u⟩
        grind
    refine mono _ _ _ ?_ a w h;rintro e f w' ⟨σ',z,rfl,hsub⟩;exact m t b r g f w'<|z.sub hsub
end rules
end Go.Pv
namespace Go.Pv
open Go.RowKit
inductive Lh {S B:Type}(mb:S->Option (S⊕B)):S->B->Prop|out {s:S}{b:B}:mb s=some (.inr b)->Lh mb s b|next{s s':S}{b:B}:mb s=some (.inl s')->Lh mb s' b->Lh mb s b
theorem Lh.det {S B:Type}{mb:S->Option (S⊕B)}{s:S}{b b':B}(h:Lh mb s b)(a:Lh mb s b'):b=b':=by induction h with
 |out h=>cases a with|out k=>grind|next k _=>grind
 |next h _ c=>cases a with|out k=>grind|next k d=>grind
open Classical in
def o3 {S B:Type}(mb:S->Option (S⊕B))(s:S):Option B:=if h:∃b,Lh mb s b then some h.choose else none
theorem tN {S B:Type}{mb:S->Option (S⊕B)}{s:S}{b:B}:o3 mb s=some b↔Lh mb s b:=by
 unfold o3;constructor;·intro h;split at h;all_goals grind
 ·intro h;have hx:∃b,Lh mb s b:=⟨b,h⟩;rw[dif_pos hx,Lh.det hx.choose_spec h]
theorem Sr {S B:Type}(mb:S->Option (S⊕B))(s:S):o3 mb s=(mb s).bind λf=>match f with|.inl s'=>o3 mb s'|.inr b=>some b:=by cases d:mb s with
 |none=>cases a:o3 mb s with|none=>rfl|some b=>have:=tN.1 a;cases this with|out h=>grind|next h _=>grind
 |some f=>cases f with|inr b=>exact tN.2<|.out d|inl s'=>simp[oq];cases a:o3 mb s' with|some b=>exact tN.2<|.next d<|tN.1 a|none=>cases c:o3 mb s with|none=>rfl|some b=>have:=tN.1 c;cases this with|out h=>grind|next h k=>grind [tN]
def bT1 {S B:Type}{mb:S->Option (S⊕B)}{P:Program}{c:Code}{I:S->Act->World->Prop}{R:Exit->Act->World->Prop}{QB:B->Exit->Act->World->Prop}(body:∀s f,mb s=some f->∀a w,I s a w->c.wp P (λe a w=>match f with|.inl s'=>e=.normal/\I s' a w|.inr b=>e≠.normal/\QB b e a w) a w){s:S}{b:B}(h:Lh mb s b)(t:∀e a w,e≠.normal->QB b e a w->R e a w):∀a w,I s a w->(Code.loop c).wp P R a w:=by
 have key:∀a w,I s a w->∀(bf:Frame)(k:List Item)(cs:List Frame),∃e l w',R e l w'/\Arrives P (lone (bf.at a<|.code c::.inLoop c::k) cs w) bf k cs e l w':=by induction h with|out o=>intro a w i bf k cs;obtain⟨e,m,n,⟨j,p⟩,d⟩:=body _ _ o a w i bf (.inLoop c::k) cs;exact⟨e,m,n,t e m n j p,.pass rfl (λ_ _=>.inl j) d⟩|next o _ u=>intro a w i bf k cs;obtain⟨e,m,n,⟨rfl,q⟩,d⟩:=body _ _ o a w i bf (.inLoop c::k) cs;obtain⟨v,a₂,x,r,g⟩:=u t m n q bf k cs;exact⟨v,a₂,x,r,.of_steps (Steps.trans d<|.one step_inLoop) g⟩
 intro a w i bf k cs;obtain⟨e,l,w',p,d⟩:=key a w i bf k cs;exact⟨e,l,w',p,.of_steps (.one step_loop) d⟩
section
variable {ρ:Type}{X:Cx}{ks:List K}{σ:St}{m:Option ρ}{Q:ρ->Exit->St->Prop}
def w6.loop {S B:Type}{c:Code}{mb:S->Option (S⊕B)}{k:B->Option ρ}(g:S->St)(QB:B->Exit->St->Prop){i:S}(h0:Sub (g i) σ)(body:∀s,w6 X [.c c] (g s) (mb s) λf e σ'=>match f with|.inl s'=>e=.normal/\Sub (g s') σ'|.inr b=>e≠.normal/\QB b e σ')(rest:∀b e σ',e≠.normal->QB b e σ'->M8 X ks e σ' (k b) Q):w6 X (.c (.loop c)::ks) σ ((o3 mb i).bind k) Q:=λr l a w o=>by cases m:o3 mb i with|none=>grind|some b=>
  simp[m]at l;refine bT1 (I:=λs a w=>Jv X.w0 X.L X.nt (g s) a w) (QB:=λb e a w=>X.post (QB b) e a w) (λs f p a w q=>?_) (tN.1 m) (λe n w' j d=>?_) a w<|o.sub h0;refine wp_mono (body s f p a w q) λe n w' ⟨σ',h,d⟩=>?_;cases f with|inl s'=>exact⟨d.1,h.sub d.2⟩|inr t=>exact⟨d.1,σ',h,d.2⟩
  obtain⟨σ',h,d⟩:=d;have:=rest b e σ' j d r l n w' h;omega
end
def uR {ρ:Type}(P:Program)(n:FuncId)(args:List T)(m:Option ρ)(res:ρ->T):Prop:=(∀vs w,(callFunc n vs).run P w=.ok (.enter n vs) w)/\∀r,m=some r->∀(w:World)(S:Nat->Prop)(E:Nat->Value)(vs:List Value),(∀b,S b->b<w.heap.size)->xJ w S E vs args->Calls P n vs.toArray w λe w'=>∃v S',e=.returned v/\RV w' S' E v (res r)/\tZ (λ_=>False) w w'/\(∀b,S' b->b<w'.heap.size)/\∀b,S' b->S b\/w.heap.size<=b
def bR (hp:F1):List T->Option (List Tree)
 |[]=>some []|.t x::r=>(bR hp r).map (jm x::·)|.own id::r=>match look hp id with|some<|.rows _ _ n rs=>(bR hp r).map (.sl n rs::·)|_=>none
 |_::_=>none
mutual def wA (hp:F1):T->Option T
 |.own id=>match look hp id with|some<|.rows _ _ n rs=>some<|.t<|.sl n rs|_=>none
 |.agg l=>(CA hp l).map .agg|.Z9 l=>(CA hp l).map .Z9|.t x=>some<|.t<|jm x|.el c=>some<|.el c|.fz n c=>some<|.fz n c|.Fu n l=>(CA hp l).bind λr=>(els r).map<|.fz n|.ptr id a=>match look hp id with|some<|.box b=>(bR hp b).map λc=>.el<|c.drop a|_=>none
 |_=>none def CA (hp:F1):List T->Option (List T)|[]=>some []|x::r=>match wA hp x,CA hp r with|some y,some l=>some<|y::l|_,_=>none end
mutual def scalar:T->Bool|.t<|.v _=>true|.agg l=>SN l|.Z9 l=>SN l|_=>false def SN:List T->Bool|[]=>true|x::r=>scalar x&&SN r end
def NR:∀{l:List T},SN l=true->∀j (h:j<l.length),scalar l[j]=true|[],_,j,h=>by simp at h|x::r,a,j,h=>by simp[SN,BY]at a;cases j with|zero=>exact a.1|succ j=>exact NR a.2 j<|by simpa using h
theorem RV.scalar {w w':World}{S S':Nat->Prop}{E E':Nat->Value}{v:Value}{t:T}(h:RV w S E v t)(d:Pv.scalar t=true):RV w' S' E' v t:=by induction h with
 |t h=>cases h with|v=>exact .t<|.v _|_=>simp[Pv.scalar]at d
 |agg vs l b _ c=>exact .agg vs l b λj h1 a=>c j h1 a<|NR (by grind [Pv.scalar]) j a|Z9 vs l b _ c=>exact .Z9 vs l b λj h1 a=>c j h1 a<|NR (by grind [Pv.scalar]) j a|_=>simp[Pv.scalar]at d
def EL (hp:F1)(E:Nat->Value)(b:Nat):Prop:=∃id ny,look hp id=some ny/\H9 (E id)=some b
section
variable {w0:World}{L:GL}{nt:Nat}{σ:St}{S:Nat->Prop}{E:Nat->Value}{a:Act}{w:World}
theorem OC (h:Ok w0 L nt σ S E a w){id e sz n:Nat}{rs:List<|List Tree}(o:look σ.hp id=some (.rows e sz n rs))(S':Nat->Prop)(p:∀b,S b->S' b)(q:∀b,EL σ.hp E b->S' b):RT w S' (E id)<|.sl n rs:=by
 obtain⟨r,hx⟩:=h.hp id _ o;subst r;rcases hx with⟨f,k⟩|⟨β,c,vs,_,f,s,v,t,l,k⟩;subst k;rw[f];exact .slE _ _;rw[f];have d:∀i j,i<rs.length->j<sz->i*sz+j<vs.length:=by intro i j hi g;have h1:(i+1)*sz<=c*sz:=Nat.mul_le_mul_right _ F;grind
 refine .sl β 0 c sz rs (λi j=>vs.getD (i*sz+j) undef) t (q β ⟨id,_,o,by rw[f];rfl⟩) l (λi j hi g=>?_) λi j hi g=>?_;have:=d i j hi g;rw[cell_of_row w β _ _ e _ s];simp[this];have m:j<sz:=by grind
 have:=d i j hi m;have u:=k i j hi g this;simp[db9,IN this];exact u.mono p λ_ _=>rfl
def ar5 (h:Ok w0 L nt σ S E a w){S':Nat->Prop}(k:∀b,S b->S' b)(l:∀b,EL σ.hp E b->S' b):∀{e:List T}{c:List Tree}{vs:List Value},bR σ.hp e=some c->xJ w S E vs e->vs.length=c.length/\∀j (h1:j<vs.length)(m:j<c.length),RT w S' vs[j] c[j]
 |[],c,vs,d,f=>by simp[bR,AI]at d;have:=f.1;grind|x::e,c,vs,d,f=>by
  obtain⟨y,r,rfl,g,i⟩:∃y r,c=y::r/\bR σ.hp e=some r/\∀v,RV w S E v x->RT w S' v y:=by cases x with
   |t x=>simp only[bR]at d;cases g:bR σ.hp e with|none=>grind|some r=>simp[g,cW3,AI]at d;exact⟨_,r,d.symm,rfl,λv hx=>by cases hx with|t hx=>exact xC<|hx.mono k λ_ _=>rfl⟩
   |own id=>
    simp[bR]at d;split at d<;>try cases d
    cases g:bR σ.hp e with|none=>grind|some r=>simp[g,cW3,AI]at d;exact⟨_,r,d.symm,rfl,λv hx=>by cases hx with|own _ _ n=>grind [OC]⟩
   |_=>simp[bR]at d
  cases vs with|nil=>have:=f.1;grind|cons v vs=>obtain⟨g1,g2⟩:=ar5 h k l g ⟨by simpa using f.1,λj a b=>f.2 (j+1) gq gq⟩;refine⟨by simp[g1],λj a b=>?_⟩;cases j with|zero=>exact i v<|f.2 0 sq sq|succ j=>grind
mutual theorem aw1 (h:Ok w0 L nt σ S E a w){S':Nat->Prop}(m:∀b,S b->S' b)(p:∀b,EL σ.hp E b->S' b):∀{t u:T}{v:Value},RV w S E v t->wA σ.hp t=some u->∀E',RV w S' E' v u
 |.t x,u,v,f,d,E'=>by simp only[wA,AI]at d;subst d;cases f with|t hx=>exact .t<|xC<|hx.mono m λ_ _=>rfl
 |.el c,u,v,f,d,E'=>by simp only[wA,AI]at d;subst d;cases f with|el b o _ vs q s i=>exact .el b o _ vs (m b q) s λj y=>(i j y).mono m λ_ _=>rfl
 |.own id,u,v,f,d,E'=>by
  simp only[wA]at d;split at d<;>try cases d;done
  rename_i el sz n rs q;simp only[AI]at d;subst d;cases f with|own _ _ B=>subst B;exact .t<|OC h q S' m p
 |.agg l,u,v,f,d,E'=>by simp only[wA]at d;cases g:CA σ.hp l with|none=>simp[g]at d|some r=>simp only[g,cW3,AI]at d;subst d;cases f with|agg vs _ e i=>have:=GQ h m p ⟨e,i⟩ g E';exact .agg vs r this.1 this.2
 |.Z9 l,u,v,f,d,E'=>by simp only[wA]at d;cases g:CA σ.hp l with|none=>simp[g]at d|some r=>simp only[g,cW3,AI]at d;subst d;cases f with|Z9 vs _ e i=>have:=GQ h m p ⟨e,i⟩ g E';exact .Z9 vs r this.1 this.2
 |.fz n c,u,v,f,d,E'=>by simp only[wA,AI]at d;subst d;cases f with|fz _ vs _ g i=>exact .fz n vs c g λj h1 J=>(i j h1 J).mono m λ_ _=>rfl
 |.Fu n l,u,v,f,d,E'=>by simp only[wA]at d;cases g:CA σ.hp l with|none=>simp[g]at d|some r=>simp only[g,oq]at d;cases i:els r with|none=>simp[i]at d|some c=>simp only[i,cW3,AI]at d;subst d;cases f with|Fu _ vs _ e C=>have:=GQ h m p ⟨e,C⟩ g E';exact RV.cb0 (.Fu n vs r this.1 this.2) i
 |.ptr id k,u,v,f,d,E'=>by
  simp only[wA]at d;split at d<;>try cases d;done
  rename_i K q;cases s:bR σ.hp K with|none=>simp[s]at d|some c=>simp only[s,cW3,AI]at d;subst d;obtain⟨β,vs,z,B,M,g,i,h1⟩:=h.hp id _ q;obtain⟨e,D⟩:=ar5 h m p s ⟨g,i⟩;cases f with|ptr _ _ N A=>
    rw[B]at A;cases A;refine .el β k _ (λj=>vs.getD (k+j) undef) (p β ⟨id,_,q,by rw[B];rfl⟩) (λj y=>?_) λj y=>?_
    ·simp only[dc1]at y;rw[cell_of_row w β _ _ z _ M];have:k+j<vs.length:=by omega
     simp[this]
    ·simp only[dc1]at y;have I:k+j<vs.length:=by omega
     simp only[db9,IN I,Option.getD_some,cY2];exact D (k+j) I F
 |.pe _ _ _ _,_,_,_,d,_=>by simp[wA]at d|.vw _ _ _ _,_,_,_,d,_=>by simp[wA]at d|.any,_,_,_,d,_=>by simp[wA]at d;theorem GQ (h:Ok w0 L nt σ S E a w){S':Nat->Prop}(g:∀b,S b->S' b)(i:∀b,EL σ.hp E b->S' b):∀{l r:List T}{vs:List Value},xJ w S E vs l->CA σ.hp l=some r->∀E',xJ w S' E' vs r
 |[],r,vs,d,c,E'=>by simp only[CA,AI]at c;subst c;exact⟨d.1,λj _ e=>by simp at e⟩|x::l,r,vs,d,c,E'=>by
  simp only[CA]at c;split at c<;>try cases c;done
  rename_i y l' k f;simp only[AI]at c;subst c;cases vs with|nil=>have:=d.1;simp at this|cons v vs=>have h1:=aw1 h g i (t:=x) (d.2 0 sq sq) k E';have e:=GQ h g i (l:=l) (vs:=vs) ⟨by simpa using d.1,λj a b=>d.2 (j+1) (by simpa using a)<|by simpa using b⟩ f E';refine⟨by simp[e.1],λj a b=>?_⟩;cases j with|zero=>exact h1|succ j=>exact e.2 j (by simpa using a)<|by simpa using b;end
end
end Go.Pv
namespace Go.Pv
open Go.RowKit
def aJ2 (tm:J4)(o:Oper):Option<|Nat×List T×List (List Tree):=match o.op with
 |.call ⟨.value f,args,_⟩=>match val tm f,GJ tm args.toList with|some<|.fz n a,some l=>some (n,l,a)|_,_=>none
 |_=>none
section
variable {w0:World}{L:GL}{nt:Nat}{σ:St}{S:Nat->Prop}{E:Nat->Value}{a:Act}{w:World}
def Ok.more (h:Ok w0 L nt σ S E a w){S':Nat->Prop}(h1:∀b,S' b->b<w.heap.size)(e:∀b,S' b->L.base b\/L.KL b\/w0.heap.size<=b)(f:∀id ny β,look σ.hp id=some ny->H9 (E id)=some β->¬S' β):Ok w0 L nt σ (λb=>S b\/S' b) E a w:={h with lB:=λb c=>c.elim (h.lB b)<|h1 b,base:=λb c=>c.elim (h.base b)<|e b,tm:=λk t ht=>(h.tm k t ht).mono (λ_ x=>.inl x) (λ_ _=>rfl) λ_ _=>rfl,hp:=λid b c=>(h.hp id b c).mono (λ_ x=>.inl x) (λ_ _=>rfl) (λ_ _=>rfl) λ_ _=>rfl,own:=λid b β c d=>⟨λhx=>hx.elim (h.own id b β c d).1<|f id b β c d,(h.own id b β c d).2⟩}
def aJ3 {P:Program}(h:Ok w0 L nt σ S E a w){o:Oper}{n:Nat}{l:List T}{b:List<|List Tree}(c:aJ2 σ.tm o=some (n,l,b))(s:∀vs w,(callFunc n vs).run P w=.ok (.enter n vs) w):∃vs e:List Value,(execOp a.eval o).run P w=.ok (.enter n (vs++e).toArray) w/\xJ w S E vs l/\∀E',xJ w S E' e<|b.map T.el:=by
 obtain⟨dst,t,type,pos,i,guard⟩:=o;unfold aJ2 at c;split at c<;>try cases c
 rename_i f args k m;split at c<;>try cases c;done
 rename_i u g l' p q;obtain⟨rfl,rfl,rfl⟩:=c;have d:=h.val p;generalize hx:a.eval f=x at d;cases d with|fz _ e _ r hp=>
  refine⟨args.toList.map a.eval,e,?_,Tg h _ _ q,λE'=>⟨gq,λj h1 v=>?_⟩⟩;·simp_all[execOp,resolve,Deferred.ofValue,invoke]
  ·simp[cX7];exact(hp j h1 F).rv
def xJ.append {vs a:List Value}{l m:List T}(h:xJ w S E vs l)(k:xJ w S E a m):xJ w S E (vs++a)<|l++m:=by refine⟨by simp[h.1,k.1],λj h1 c=>?_⟩;have d:=h.1;by_cases b:j<vs.length;rw[cW9 b,cW9 F];exact h.2 j b F;simp[IT]at h1 c;have:=k.2 (j-vs.length) F F;grind
def xJ.ct1 {w':World}{S':Nat->Prop}{vs:List Value}{l:List T}(h:xJ w S E vs l)(a:∀b,S b->S' b)(c:∀b,S b->w'.heap[b]?=w.heap[b]?):xJ w' S' E vs l:=⟨h.1,λj h1 d=>(h.2 j h1 d).mono a c λ_ _=>rfl⟩
def RV.closed (h:Ok w0 L nt σ S E a w){l r:List T}{vs:List Value}(d:xJ w S E vs l)(e:CA [] l=some r):∀E',xJ w S E' vs r:=GQ (σ:=⟨σ.tm,[]⟩) {h with hp:=λid b c=>by simp[look]at c,own:=λid b β c=>by simp[look]at c,cJ:=λid id' b g β c=>by simp[look]at c} (λ_ x=>x) (λb c=>by obtain⟨id,_,f,_⟩:=c;simp[look]at f) d e
end
section
variable {ρ τ:Type}{X:Cx}{ks:List K}{σ:St}{m:Option ρ}{Q:ρ->Exit->St->Prop}
def o0.call {all:Array Oper}{o:Oper}{rest:List Oper}{n:Nat}{targs c:List T}{d:List<|List Tree}{m₁:Option τ}{res:τ->T}{k:τ->Option ρ}(σ₂:τ->St)(z:R8 all.toList σ.tm o.guard=some true)(A:aJ2 σ.tm o=some (n,targs,d))(B:CA [] targs=some c)(s:uR X.P n (c++d.map T.el) m₁ res)(hp:∀t,Gb X.nt o.dst (res t) σ=some (σ₂ t))(h:∀t,o0 X all rest ks (σ₂ t) (k t) Q):o0 X all (o::rest) ks σ (m₁.bind k) Q:=λr u a w ⟨S,E,hk⟩=>by cases y:m₁ with|none=>grind|some t=>simp[y]at u;obtain⟨vs,C,i,D,j⟩:=aJ3 hk A s.1;have f:=s.2 t y w S E (vs++C) hk.lB<|(RV.closed hk D B E).append<|j E;refine wpList_step λK I=>?_;rw[I3 hk z];unfold Oper.wp;rw[i];refine f.mono λe w' ⟨v,S',J,l,g,m,p⟩=>?_;subst J;refine I _ _<|h t r u _ _ ⟨λb=>S b\/S' b,E,Ho ((hk.grow g).more m (λb q=>?_) λid ny β q L M=>?_) (l.mono (λ_ x=>.inr x) (λ_ _=>rfl) λ_ _=>rfl)<|hp t⟩;rcases p b q with h1|h1;exact hk.base b h1;exact .inr<|.inr<|cw2 hk.keep.size h1;have:=hk.own id ny β q L;grind
def o0.cr5 {all:Array Oper}{o:Oper}{rest:List Oper}{n:Nat}{targs c:List T}{d:List<|List Tree}{m₁:Option τ}{res:τ->T}{k:τ->Option ρ}(σ₂:τ->St)(u:R8 all.toList σ.tm o.guard=some true)(y:aJ2 σ.tm o=some (n,targs,d))(z:CA σ.hp targs=some c)(p:uR X.P n (c++d.map T.el) m₁ res)(j:∀t,scalar (res t)=true)(hp:∀t,Gb X.nt o.dst (res t) σ=some (σ₂ t))(h:∀t,o0 X all rest ks (σ₂ t) (k t) Q):o0 X all (o::rest) ks σ (m₁.bind k) Q:=λr q a w ⟨S,E,hk⟩=>by cases s:m₁ with|none=>grind|some t=>simp[s]at q;obtain⟨vs,A,i,B,l⟩:=aJ3 hk y p.1;have f:=p.2 t s w (λb=>S b\/EL σ.hp E b) E (vs++A) (λb C=>C.elim (hk.lB b) λ⟨id,_,D,I⟩=>(hk.own id _ b D I).2.1)<|(GQ hk (λ_ x=>.inl x) (λ_ x=>.inr x) B z E).append<|(l E).ct1 (λ_ x=>.inl x) λ_ _=>rfl;refine wpList_step λK J=>?_;rw[I3 hk u];unfold Oper.wp;rw[i];refine f.mono λe w' ⟨v,S',L,m,g,_,_⟩=>?_;subst L;exact J _ _<|h t r q _ _ ⟨S,E,Ho (hk.grow g) (m.scalar<|j t)<|hp t⟩
def number:Nat->List T->J4|_,[]=>[]|k,x::r=>(k,x)::number (k+1) r
def Ny:∀(l:List T)(k j:Nat)(t:T),look (number k l) j=some t->k<=j/\l[j-k]?=some t|[],k,j,t,h=>by simp[number,look]at h|x::r,k,j,t,h=>by simp[number,look]at h;by_cases hk:k=j;simp_all;simp[s9 hk]at h;obtain⟨h1,a⟩:=Ny r (k+1) j t h;grind
def BW (tab:vH)(σ:St):List ResultVar->Option (List T)
 |[]=>some []|.tmp t::r=>match look σ.tm t,BW tab σ r with|some x,some l=>some<|x::l|_,_=>none
 |.cell c ty::r=>match look σ.tm c,look tab ty,BW tab σ r with
  |some<|.ptr id a,some ti,some l=>match look σ.hp id with|some<|.box b=>(Av ti.desc.isAgg ti.size b a).map (·::l)|_=>none
  |_,_,_=>none
def az3 (tab:vH)(σ:St)(l:List ResultVar):Option T:=match BW tab σ l with|some [x]=>wA σ.hp x|some l=>(CA σ.hp l).map .Z9|none=>none
def QV (a:Array Value):ResultVar->Sem Value|.tmp t=>pure<|a.getD t undef|.cell c t=>do loadVar t<|<-asAddr<|a.getD c undef
def KW {P:Program}{tab:vH}(C8:oW P tab){w0:World}{L:GL}{nt:Nat}{S:Nat->Prop}{E:Nat->Value}{a:Act}{w:World}(h:Ok w0 L nt σ S E a w):∀(l:List ResultVar)(r:List T),BW tab σ l=some r->∃vs:List Value,(l.mapM<|QV a.tmps).run P w=.ok vs w/\xJ w S E vs r
 |[],r,b=>by simp[BW,AI]at b;subst b;exact⟨[],by simp,rfl,λj h1=>by simp⟩|.tmp t::l,r,b=>by
  simp[BW]at b;split at b<;>try cases b;done
  rename_i x i hx d;simp[AI]at b;subst b;obtain⟨vs,h1,e⟩:=KW C8 h l i d;refine⟨a.tmps.getD t undef::vs,?_,by simp[e.1],λj o p=>?_⟩;·grind [cV1,QV,cW0,OF]
  ·cases j with|zero=>exact h.tm t x hx|succ j=>exact e.2 j gq gq
 |.cell c ty::l,r,b=>by
  simp[BW]at b;split at b<;>try cases b
  rename_i id off ti i hx hti d;split at b<;>try cases b;done
  rename_i q s;obtain⟨vs,h1,e⟩:=KW C8 h l i d;cases n:Av ti.desc.isAgg ti.size q off with|none=>grind|some y=>
   simp[n,cW3,AI]at b;subst b;obtain⟨β,u,z⟩:=(h.tm c _ hx).KS;obtain⟨I,cs,f,g,A,B,k,_⟩:=h.hp id _ s;rw[z]at g;cases g;obtain⟨v,C,m⟩:=WX (C8 ty _ hti) B λj h1=>by rw[cell_of_row w β (0+j) _ f _ A];simp k n;have D:(loadVar ty ⟨β,off,none⟩).run P w=.ok v w:=by grind [Instr.loadAt,Instr.sureAddr]
   refine⟨v::vs,?_,by simp[e.1],λj o p=>?_⟩;·grind [cV1,QV,asAddr,cW0,OF]
   ·cases j with|zero=>exact m|succ j=>exact e.2 j gq gq
def cn4 {P:Program}{tab:vH}(C8:oW P tab){w0:World}{L:GL}{nt:Nat}{S:Nat->Prop}{E:Nat->Value}{a:Act}{w:World}(h:Ok w0 L nt σ S E a w){fn:Func}{t:T}(d:az3 tab σ fn.results.toList=some t):∃v,(results fn a.tmps).run P w=.ok v w/\∀E',RV w (λb=>S b\/EL σ.hp E b) E' v t:=by unfold az3 at d;cases i:BW tab σ fn.results.toList with|none=>grind|some l=>
    obtain⟨vs,h1,e⟩:=KW C8 h _ _ i;have m:(fn.results.mapM<|QV a.tmps).run P w=.ok vs.toArray w:=by rw[Array.mapM_eq_mapM_toList,Sem.run_map,h1];rfl
    have f:(results fn a.tmps).run P w=.ok (if h:vs.toArray.size=1 then vs.toArray[0]else .tuple vs.toArray) w:=by show(do let vs<-fn.results.mapM<|QV a.tmps;pure<|if h:vs.size=1 then vs[0]else .tuple vs).run P w=_;simp_all
    refine⟨_,f,λE'=>?_⟩;rw[i]at d;have c:=e.1;match l,d,c with
    |[x],d,c=>match vs,c,e with|[v],_,e=>have h0:RV w S E v x:=e.2 0 cR6 cR6;grind [aw1]
    |[],d,c=>simp  [CA,cW3,AI]at d;subst d;match vs,c with|[],_=>exact .Z9 [] [] rfl λj h1=>sq
    |x::y::l,d,c=>cases k:CA σ.hp<|x::y::l with|none=>grind|some r=>simp  [k,cW3,AI]at d;subst d;have:=GQ h (S':=λb=>S b\/EL σ.hp E b) (λ_ x=>.inl x) (λ_ x=>.inr x) e k E';have g:¬vs.toArray.size=1:=gq;rw[dif_neg g];exact .Z9 vs r this.1 this.2
def uR.intro{P:Program}{tab:vH}(C8:oW P tab){n:Nat}{fn:Func}{c:Code}{args:List T}{m:Option τ}{res:τ->T}(nt:Nat)(rs:List ResultVar)(f:∀vs w,(callFunc n vs).run P w=.ok (.enter n vs) w)(u:P.funcs[n]?=some fn)(a:fn.body=some c)(x:fn.ntmps=nt)(j:fn.results.toList=rs)(y:args.length<=nt)(body:∀(w0:World)(L:GL),w6 ⟨P,tab,C8,w0,L,nt⟩ [.c c] ⟨number 0 args,[]⟩ m λr e σ'=>(e=.ret\/e=.normal)/\az3 tab σ' rs=some (res r)):uR P n args m res:=by
 refine⟨f,λr z w S E vs A l=>?_⟩;refine calls_of_wp u a ?_;have h:=body w ⟨λ_=>False,S,E⟩ r z ⟨vs.toArray++Array.replicate (fn.ntmps-vs.toArray.size) undef,[]⟩ w ⟨S,E,{
  keep:=tZ.refl _ _,lB:=A,base:=λb a=>.inl a,size:=by have:=l.1;simp;omega,defers:=rfl,tm:=λk t ht=>by
   obtain⟨_,hk⟩:=Ny args 0 k t ht;obtain⟨o,rfl⟩:=No.1 hk;have i:k<vs.length:=by have:=l.1;omega
   have:=l.2 k i o;simp_all[Array.getElem?_append],hp:=λid b a=>by simp[look]at a,own:=λid b β a=>by simp[look]at a,cJ:=λid id' b C β a=>by simp[look]at a,Rm:=λ_ _=>rfl}⟩;refine wp_mono h λe s w' ⟨σ',⟨S',E',hk⟩,B,d⟩=>?_;rw[<-j]at d;obtain⟨v,p,q⟩:=cn4 C8 hk d;have fin:s.defers=[]/\∃v,(results fn s.tmps).run P w'=.ok v w'/\∃v' g,Ending.returned v=.returned v'/\RV w' g E v' (res r)/\tZ (λ_=>False) w w'/\(∀b,g b->b<w'.heap.size)/\∀b,g b->S b\/w.heap.size<=b:=by
  refine⟨hk.defers,v,p,v,_,rfl,q E,hk.keep,λb a=>?_,λb a=>?_⟩
  ·rcases a with a|⟨id,_,hl,hβ⟩;·exact hk.lB b a
   ·exact(hk.own id _ b hl hβ).2.1
  ·rcases a with a|⟨id,_,hl,hβ⟩;·rcases hk.base b a with h1|h1|h1;all_goals grind
   ·rcases(hk.own id _ b hl hβ).2.2 with h1|h1;all_goals grind
 rcases B with rfl|rfl<;>exact fin
end
def y3 {α:Type}(l:List α)(i:Int):Option α:=if 0<=i then l[i.toNat]?else none
theorem sY {α:Type}{l:List α}{i:Int}{y:α}(h:y3 l i=some y):0<=i/\l[i.toNat]?=some y/\i<l.length:=by unfold y3 at h;split at h;rename_i h0;have:=(No.1 h).1;exact⟨h0,h,by omega⟩;cases h
def KT (k:IntKind)(x y:Int):Option Int:=if y=0 then none else some<|k.wrap<|x.tdiv y
def SF (x y:Int):Option Int:=if y=0 then none else some<|x.tmod y
def G2 {α:Type}(l m:List α):Option<|List α:=if l.length+m.length<=1073741824 then some (l++m)else none
section
variable {ρ τ α:Type}{X:Cx}{ks:List K}{tm:J4}{hp:F1}{m:Option ρ}{Q:ρ->Exit->St->Prop}{all:Array Oper}{o:Oper}{rest:List Oper}
theorem o0.one {d:Nat}{k:τ->Option ρ}{m₁:Option τ}(g:o.dst=some d)(e:Y3 d X.nt=true)(i:R8 all.toList tm o.guard=some true)(res:τ->T)(b:∀y S E a w,m₁=some y->Ok X.w0 X.L X.nt ⟨tm,hp⟩ S E a w->∃v,(execOp a.eval o).run X.P w=.ok (.value v) w/\RV w S E v (res y))(h:∀y,m₁=some y->o0 X all rest ks ⟨(d,res y)::tm,hp⟩ (k y) Q):o0 X all (o::rest) ks ⟨tm,hp⟩ (m₁.bind k) Q:=λr f a w ⟨S,E,hk⟩=>by cases c:m₁ with|none=>simp[c]at f|some y=>simp[c]at f;obtain⟨v,h1,j⟩:=b y S E a w c hk;refine wpList_step λK l=>?_;rw[I3 hk i];unfold Oper.wp;rw[h1];refine l _ _<|h y c r f _ _ ⟨S,E,?_⟩;rw[g];exact hk.put (cU8 e) j
def Oq {ty e n s0:Nat}{x ix:Operand}{ik:IntKind}{i:Int}{z0:List Value}{r:TI}{l:List α}{enc:α->List Tree}{y:α}{S:Nat->Prop}{E:Nat->Value}{a:Act}{w:World}(hk:Ok X.w0 X.L X.nt ⟨tm,hp⟩ S E a w)(O:y3 l i=some y)(Q:o.op=.indexAddr ty x ix)(hx:val tm x=some (.t<|.sl n<|l.map enc))(hi:val tm ix=some (.t<|.v<|.int ik i))(u:look X.tab ty=some ⟨s0,.slice e,z0⟩)(z:look X.tab e=some r)(h:∀y,(enc y).length=r.size):∃v,(execOp a.eval o).run X.P w=.ok (.value v) w/\RV w S E v (.el<|enc y):=by
 obtain⟨h0,N,A⟩:=sY O;have m:=hk.val hx;have B:=(hk.val hi).tv;obtain⟨Z,C,D⟩:=(X.C8 ty _ u).dv w;subst D;have R:=(X.C8 e _ z).iJ w;have f:i.toNat<l.length:=by omega
 generalize I:a.eval x=xv at m;cases m with|t p=>generalize d:l.map enc=rows at p;cases p with|slE a' c=>simp at d;subst d;simp at f|sl b J T sz K vs _ U M V W=>
   subst d;have g:(l.map enc).length=l.length:=by simp
   have k:l[i.toNat]=y:=by rw[IN f]at N;exact oa N
   have q:sz=r.size:=by rw[<-h y];exact(M (enc y)<|List.mem_map.2 ⟨y,k▸List.getElem_mem f,rfl⟩).symm
   subst q;refine⟨.pointer<|some ⟨b,J+i.toNat*r.size,none⟩,?_,.el b _ (enc y) (λj=>vs i.toNat j) U (λj s=>?_) λj s=>?_⟩;simp only[execOp,Q,Instr.indexAt,B,asIntOf,cV1,cW0,OF,C,I];have c1:0<=i/\i<(l.map enc).length:=⟨h0,by rw[g];exact A⟩;simp only[cV1,OF,cW0,c1,and_self,if_true,R,mT];rw[h]at s;exact V i.toNat j (by rw[g];exact f) s;have:=W i.toNat j (by rw[g];exact f) (by simp[cX7];rw[k];exact s);simpa[cX7,k]using this
theorem o0.index {ty e n s0:Nat}{x ix:Operand}{ik:IntKind}{i:Int}{z0:List Value}{g:TI}{d:Nat}{l:List α}{enc:α->List Tree}{k:α->Option ρ}(j:o.op=.indexAddr ty x ix)(m:o.dst=some d)(b:Y3 d X.nt=true)(p:R8 all.toList tm o.guard=some true)(hx:val tm x=some (.t<|.sl n<|l.map enc))(hi:val tm ix=some (.t<|.v<|.int ik i))(c:look X.tab ty=some ⟨s0,.slice e,z0⟩)(f:look X.tab e=some g)(a:∀y,(enc y).length=g.size)(h:∀y,y3 l i=some y->o0 X all rest ks ⟨(d,.el<|enc y)::tm,hp⟩ (k y) Q):o0 X all (o::rest) ks ⟨tm,hp⟩ ((y3 l i).bind k) Q:=o0.one m b p (λy=>.el<|enc y) (λ_ _ _ _ _ q hk=>Oq hk q j hx hi c f a) h
def o0.aw5 {ty e sz el n s0:Nat}{x ix:Operand}{ik:IntKind}{i:Int}{z0:List Value}{f:TI}{d id:Nat}{l:List α}{enc:α->List Tree}{k:α->Option ρ}(J:o.op=.indexAddr ty x ix)(K:o.dst=some d)(g:Y3 d X.nt=true)(L:R8 all.toList tm o.guard=some true)(hx:val tm x=some (.own id))(M:look hp id=some (.rows el sz n<|l.map enc))(hi:val tm ix=some (.t<|.v<|.int ik i))(j:look X.tab ty=some ⟨s0,.slice e,z0⟩)(m:look X.tab e=some f)(p:f.size=sz)(h:∀y,y3 l i=some y->o0 X all rest ks ⟨(d,.pe id i.toNat sz 0)::tm,hp⟩ (k y) Q):o0 X all (o::rest) ks ⟨tm,hp⟩ ((y3 l i).bind k) Q:=o0.one K g L (λ_=>.pe id i.toNat sz 0) λy S E a w N hk=>by
  obtain⟨h0,P,q⟩:=sY N;have r:=(hk.val hi).tv;obtain⟨R,s,u⟩:=(X.C8 ty _ j).dv w;subst u;have O:=(X.C8 e _ m).iJ w;have z:i.toNat<l.length:=by omega
  have c:=hk.val hx;generalize A:a.eval x=T at c;cases c with|own _ _ D=>obtain⟨U,⟨b,I⟩|⟨β,B,vs,_,b,V,_⟩⟩:=hk.hp id _ M;simp at I;subst I;simp at z;subst p;have C:=RV.pe (w:=w) (S:=S) id i.toNat f.size 0 β (l.map enc).length B b;refine⟨_,?_,C⟩;rw[b]at D;subst D;simp only[execOp,J,Instr.indexAt,r,asIntOf,cV1,cW0,OF,s,A];have c1:0<=i/\i<(l.map enc).length:=⟨h0,by simpa using q⟩;simp only[cV1,OF,cW0,c1,and_self,if_true,O,mT,Nat.zero_add,cq7] h
def o0.sel {ops:List Oper}{g v v' b:Bool}(n d:Nat)(σ₁:Bool->St)(i:b=bif g then v else v')(j:look tm d=some (.t<|.v<|.bool g))(k:o0 X all (ops.take n) [] ⟨(d,.t<|.v<|.bool true)::tm,hp⟩ (some ()) λ_ e σ'=>e=.normal/\Sub (σ₁ v) σ')(l:o0 X all (ops.take n) [] ⟨(d,.t<|.v<|.bool false)::tm,hp⟩ (some ()) λ_ e σ'=>e=.normal/\Sub (σ₁ v') σ')(h:o0 X all (ops.drop n) ks (σ₁ b) m Q):o0 X all ops ks ⟨tm,hp⟩ m Q:=by
 have o:m=(some b).bind λ_=>m:=rfl;rw[o];refine o0.bind n σ₁ ?_ (λt ht=>by cases ht;exact h);have:=o0.split (m₁:=some v) (m₂:=some v') (Q:=λt e σ'=>e=.normal/\Sub (σ₁ t) σ') d j (λr c a w f=>by cases c;exact k () rfl a w f) (λr c a w f=>by cases c;exact l () rfl a w f);subst i;have e:(bif g then some v else some v')=some (bif g then v else v'):=by cases g<;>rfl
 rw[e]at this;exact this
def o0.cJ0 {ops:List Oper}{g v:Bool}(n d:Nat)(σ₁:Bool->St)(a:look tm d=some (.t<|.v<|.bool g))(b:o0 X all (ops.take n) [] ⟨(d,.t<|.v<|.bool true)::tm,hp⟩ (some ()) λ_ e σ'=>e=.normal/\Sub (σ₁ true) σ')(c:o0 X all (ops.take n) [] ⟨(d,.t<|.v<|.bool false)::tm,hp⟩ (some ()) λ_ e σ'=>e=.normal/\Sub (σ₁ v) σ')(h:o0 X all (ops.drop n) ks (σ₁<|g||v) m Q):o0 X all ops ks ⟨tm,hp⟩ m Q:=o0.sel n d σ₁ (by cases g<;>rfl) a b c h
end
abbrev tK (k:IntKind)(n:Int):Tree:=.v<|.int k n
abbrev Y (n:Int):Tree:=.v<|.int .i64 n
abbrev tB (b:Bool):Tree:=.v<|.bool b
abbrev tS {α:Type}(enc:α->List Tree)(l:List α):Tree:=.sl l.length<|l.map enc
abbrev H (n:Int):Int:=IntKind.i64.wrap n
def encI (n:Int):List Tree:=[Y n]
def Sd (b:Bool):List Tree:=[tB b]
def encS {α:Type}(enc:α->List Tree)(l:List α):List Tree:=[tS enc l]
inductive Fl (S R:Type)where|next(s:S)|brk (s:S)|ret (r:R)
abbrev iH {S R:Type}(i:Int)(f:Fl S R):Option<|Int×S⊕S⊕R:=match f with|.next s=>some<|.inl (H<|i+1,s)|.brk s=>some<|.inr<|.inl s|.ret r=>some<|.inr<|.inr r
abbrev ay7 {α S R:Type}(l:List α)(f:Int->α->S->Option (Fl S R))(p:Int×S):Option<|Int×S⊕S⊕R:=bif decide (p.1<l.length)then(y3 l p.1).bind λx=>(f p.1 x p.2).bind<|iH p.1else some<|.inr<|.inl p.2
noncomputable abbrev iI {α S R:Type}(l:List α)(f:Int->α->S->Option (Fl S R))(s:S):Option<|S⊕R:=o3 (ay7 l f) (0,s)
abbrev Xb {S R:Type}(n:Int)(f:Int->S->Option (Fl S R))(p:Int×S):Option<|Int×S⊕S⊕R:=bif decide (p.1<n)then(f p.1 p.2).bind<|iH p.1else some<|.inr<|.inl p.2
noncomputable abbrev J9 {S R:Type}(n:Int)(f:Int->S->Option (Fl S R))(s:S):Option<|S⊕R:=o3 (Xb n f) (0,s)
section
variable {ρ τ:Type}{X:Cx}{ks:List K}{σ:St}{m:Option ρ}{Q:ρ->Exit->St->Prop}
def w6.cG5 {c:Operand}{x y:Code}(b:val σ.tm c=some (.t<|.v<|.bool false))(d:w6 X (.c y::ks) σ m Q):w6 X (.c (.cond c x y)::ks) σ m Q:=λr e a w ⟨S,E,hk⟩=>wp_cond_false (hk.val b).tv<|d r e a w ⟨S,E,hk⟩
end
end Go.Pv

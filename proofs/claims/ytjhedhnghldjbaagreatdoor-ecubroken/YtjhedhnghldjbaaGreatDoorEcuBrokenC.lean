/- A part of the proof of EcuBroken: The walk reckoned, and more. -/
import Derived.Test.YtjhedhnghldjbaaGreatDoorEcuBrokenB
import Derived.MapKept
import Derived.Carry
import Derived.KernelRfl
import Derived.Test.YtjhedhnghldjbaaGreatDoorProg
import Derived.Shelf.Strconv.Itoa3
import Derived.Shelf.Strings.OnBuilder
import Derived.Shelf.Strings.Prefix
import Derived.Shelf.Strings.Count
set_option linter.all false
set_option maxRecDepth 100000
noncomputable section
open Array renaming getElem?_eq_some_iff->dq5
open Bool renaming and_eq_true->aK5,and_true->eS9,not_eq_true'->bG5,not_true->aX5,or_eq_true->cH4
open Int renaming toNat->eD2
open Go.IntKind renaming u64->ba6
open List renaming all_eq_true->bt1,drop_drop->eh0,filter_nil->eS3,getElem?_cons_zero->dq2,getElem?_eq_getElem->aX4,getElem?_map->dr2,getElem?_take->dJ8,head?_drop->eB5,length_append->bd4,length_nil->cJ8,map_cons->cN4,mem_cons->ca1,mem_cons_of_mem->bE0,mem_cons_self->cq1,mem_filter->dE3,mem_map->cK0,pairwise_cons->ej0,replicate->cr7
open List.cons renaming injEq->fe6
open Nat renaming add_assoc->ef0,add_zero->eh1,beq->br8,beq_refl->cG4,ble->dE8,blt->bi3,eq_of_beq_eq_true->bq8,le_of_ble_eq_true->bd6,le_refl->bO2,le_trans->eC9,lt_of_lt_of_le->dp8,lt_or_ge->cZ9,zero_add->da1
open Option renaming bind->ak4,bind_eq_some_iff->fb0,bind_some->aF2,map_eq_some_iff->dV4,map_some->bN9
open Option.some renaming injEq->aI6
open Prod.mk renaming injEq->ba7
open Go.Pv renaming encI->aI7,encS->cY6
open Go.Result renaming andThen_ok->bd5
open Go.Sem renaming run_bind->bq9,run_pure->bB8
namespace Go.Pv
open Go.RowKit
def aY7 (hp X8:List (Nat×G6)):Prop:=∀k b,look hp k=some b->look X8 k=some b
theorem dg1 {hp X8:List (Nat×G6)}(h:aY7 hp X8){x:T}(ho:one hp x=true):one X8 x=true:=by
 cases x with
 |own id=>
  simp only[one,Option.isSome_iff_exists]at ho|-
  obtain⟨b,hb⟩:=ho
  exact⟨b,h _ _ hb⟩
 |t x=>cases x<;>exact ho
 |_=>exact ho
theorem cS2 {hp X8:List (Nat×G6)}(h:aY7 hp X8):∀{l:List T},cG2 hp l=true->cG2 X8 l=true
 |[],_=>rfl
 |x::l,ho=>by
  simp only[cG2,aK5]at ho|-
  exact⟨dg1 h ho.1,cS2 h ho.2⟩
theorem br6 {hp X8:List (Nat×G6)}(h:aY7 hp X8){x:T}{l:List T}(hc:at7 hp x=some l):at7 X8 x=some l:=by
 have gen:∀{y:T},(bif one hp y then some [y]else none)=some l->(bif one X8 y then some [y]else none)=some l:=by
  intro y hy
  cases ho:one hp y<;>rw[ho]at hy<;>simp only[fk7,fk6,reduceCtorEq]at hy
  grind [dg1]
 cases x with
 |agg m=>
  simp only[at7]at hc|-
  cases ho:cG2 hp m<;>rw[ho]at hc<;>simp only[fk7,fk6,reduceCtorEq]at hc
  grind [cS2]
 |_=>grind [at7]
theorem bA0 {hp X8:List (Nat×G6)}{tm:List (Nat×T)}(h:aY7 hp X8){place:Nat->Option (Nat×Nat)}:∀{l:List (Nat×Operand)}{cs r:List T},aL5 hp tm place cs l=some r->aL5 X8 tm place cs l=some r
 |[],cs,r,hx=>hx
 |(i,x)::l,cs,r,hx=>by
  unfold aL5 at hx|-
  cases hv:val tm x with
  |none=>grind
  |some t=>
   simp only[hv,aF2]at hx|-
   cases hc:at7 hp t with
   |none=>grind
   |some m=>
    rw[br6 h hc]
    rw[hc]at hx
    cases hp:place i with
    |none=>grind
    |some p=>
     obtain⟨o,n⟩:=p
     simp only[hp]at hx|-
     cases hb:(br8 m.length n&&dE8 (o+m.length) cs.length)<;>simp only[hb,fk7,fk6]at hx|-
     ·cases hx
     ·exact bA0 h hx
def dK0 {C8:Tab}{hp X8:List (Nat×G6)}(h:aY7 hp X8){ty:Nat}{x:Option T}{t:T}(hl:dx6 C8 hp ty x=some t):dx6 C8 X8 ty x=some t:=by
 unfold dx6 at hl|-
 repeat' split at hl
 all_goals first
  |(cases hl;done)
  |(simp_all;done)
  |(rename_i hb;simp_all[h _ _ hb])
def dZ3 {C8:Tab}{tm:List (Nat×T)}{hp X8:List (Nat×G6)}{o:Oper}{t:T}(h:aY7 hp X8)(hi:bB6 o.op=true)(he:evalOp C8 ⟨tm,hp⟩ o=some (t,⟨tm,hp⟩)):
  evalOp C8 ⟨tm,X8⟩ o=some (t,⟨tm,X8⟩):=by
 rw[aU6]at he|-
 obtain⟨dst,op,type,pos,aft,guard⟩:=o
 have mp:∀{x:Option T},x=some t->x.map (·,(⟨tm,X8⟩:St))=some (t,⟨tm,X8⟩):=fun hx=>by rw[hx];rfl
 cases op<;>simp only[bB6,reduceCtorEq]at hi<;>simp only[bl5]at he|-
 case move x=>simp_all
 case assign x=>simp_all
 case pick c x y=>
  split at he<;>try(cases he;done)
  simp_all
 case load ty x=>
  split at he<;>try(cases he;done)
  ·split at he<;>try(cases he;done)
   rename_i hb
   rw[h _ _ hb]
   exact mp (S6 he).1
  simp_all
 case nilCheck x=>
  split at he<;>first|(cases he;done)|(simp only[aI6,ba7]at he;rw[<-he.1])
 case fieldAddr s x f=>
  split at he<;>try(cases he;done)
  all_goals
   split at he<;>try(cases he;done)
   simp only[aI6,ba7]at he
   rw[<-he.1]
 case binOp op ty x y yt=>exact mp (S6 he).1
 case unOp op ty x=>exact mp (S6 he).1
 case convert s d x=>
  split at he<;>try(cases he;done)
  exact mp (S6 he).1
 case extract x k=>
  split at he<;>try(cases he;done)
  exact mp (S6 he).1
 case build ty parts=>
  split at he<;>try(cases he;done)
  ·rename_i sz fs z hti
   cases hf:aL5 hp tm (fs[·]?) (z.map fun x=>.t (.v x)) parts.toList with
   |none=>simp[hf]at he
   |some l=>
    rw[bA0 h hf]
    simp only[hf,bN9,aI6,ba7]at he
    simp only[bN9,he.1]
  ·rename_i sz n e z hti
   split at he<;>try(cases he;done)
   rename_i te hte
   cases hf:aL5 hp tm (fun i=>some (i*te.size,te.size)) (z.map fun x=>.t (.v x)) parts.toList with
   |none=>simp[hf]at he
   |some l=>
    rw[bA0 h hf]
    simp only[hf,bN9,aI6,ba7]at he
    simp only[bN9,he.1]
 case indexAddr ty x ix=>
  split at he<;>try(cases he;done)
  all_goals
   split at he<;>try(cases he;done)
   revert he
   cases bi3 _ _<;>intro he<;>simp only[fk7,fk6,reduceCtorEq,aI6,ba7]at he|-
   exact⟨he.1,trivial⟩
 case index ty x ix=>
  split at he<;>try(cases he;done)
  split at he<;>try(cases he;done)
  revert he
  cases bi3 _ _<;>intro he<;>simp only[fk7,fk6,reduceCtorEq]at he|-
  exact mp (S6 he).1
 case call c=>
  have hb:=(S6 he).1
  refine mp ?_
  unfold dt6 at hb|-
  split at hb<;>try(cases hb;done)
  ·exact dK0 h hb
  ·exact hb
  ·exact hb
def dv3 {C8:Tab}{tm tm':List (Nat×T)}{hp X8:List (Nat×G6)}{o:Oper}{t:T}(h:more tm tm')(h':aY7 hp X8)(hi:bB6 o.op=true)(he:evalOp C8 ⟨tm,hp⟩ o=some (t,⟨tm,hp⟩)):
  evalOp C8 ⟨tm',X8⟩ o=some (t,⟨tm',X8⟩):=dZ3 h' hi (dv4 h hi he)
def aR8:Op->Bool
 | .alloc _| .box .. | .buildSlice .. | .makeSlice ..=>true
 |_=>false
def dI5 {C8:Tab}{tm tm':List (Nat×T)}{hp X8:List (Nat×G6)}{o:Oper}{t:T}{d:Nat}{b:G6}(h:more tm tm')(h':aY7 hp X8)(hi:aR8 o.op=true)(hd:o.dst=some d)(he:evalOp C8 ⟨tm,hp⟩ o=some (t,⟨tm,(d,b)::hp⟩))
  (hf:(P1 d tm'&&O6 d X8)=true):evalOp C8 ⟨tm',X8⟩ o=some (t,⟨tm',(d,b)::X8⟩):=by
 rw[aU6]at he|-
 obtain⟨dst,op,type,pos,aft,guard⟩:=o
 simp only at hd
 subst hd
 rw[aK5]at hf
 cases op<;>simp only[aR8,reduceCtorEq]at hi<;>simp only[bl5]at he|-
 case alloc e=>
  cases hti:look C8 e with
  |none=>grind
  |some ti=>
   grind
 case box e x=>
  cases hv:val tm x with
  |none=>grind
  |some u=>
   simp only[hv,aF2]at he
   cases hc:at7 hp u with
   |none=>grind
   |some l=>
    simp only[hc]at he
    cases hb:(bi3 d big&&P1 d tm&&O6 d hp)<;>rw[hb]at he<;>simp only[fk7,fk6,reduceCtorEq,aI6,ba7,St.mk.injEq,fe6,true_and,and_true]at he
    simp only[aK5]at hb
    grind [C9,br6]
 case buildSlice ty n parts=>
  split at he<;>try(cases he;done)
  rename_i d' s0 e z0 hd' hti
  simp only[aI6]at hd'
  subst hd'
  split at he<;>try(cases he;done)
  rename_i te hte
  try simp only[hte]
  cases hfi:aL5 hp tm (fun i=>some (i*te.size,te.size)) ((aZ6 n te.zero).map fun x=>.t (.v x)) parts.toList with
  |none=>grind
  |some l=>
   rw[bA0 h' (bJ2 h hfi)]
   grind
 grind
def pt (o:Oper)(V:T)(tm:List (Nat×T)):List (Nat×T):=match o.dst with|some d=>(d,V)::tm|none=>tm
def bh0 (N:Option (Nat×G6))(hp:List (Nat×G6)):List (Nat×G6):=match N with|some p=>p::hp|none=>hp
def cK6 (o:Oper)(N:Option (Nat×G6)):Option Nat:=match o.op with
 | .call _=>match N with|some (id,_)=>some id|none=>none
 |_=>none
theorem dr8 {o:Oper}{N:Option (Nat×G6)}(h:aR8 o.op=true):cK6 o N=none:=by
 obtain⟨dst,op,type,pos,aft,guard⟩:=o
 cases op<;>simp only[aR8,reduceCtorEq]at h<;>rfl
theorem dW8 {o:Oper}:cK6 o none=none:=by
 grind [cK6]
def nfB (id:Nat):List (Nat×G6)->Bool
 |[]=>true
 |(_,b)::r=>!bj4 id b&&nfB id r
theorem co1 {id:Nat}:∀{hp:List (Nat×G6)},nfB id hp=true->O6 id (by5 hp id)=true
 |[],_=>rfl
 |(k,b)::r,h=>by
  simp only[nfB,aK5,bG5]at h
  unfold by5
  cases hk:br8 k id<;>simp only[fk7,fk6]
  ·simp[O6,hk,h.1,co1 h.2]
  ·exact co1 h.2
def ci3 (o:Oper)(N:Option (Nat×G6))(tm:List (Nat×T))(hp:List (Nat×G6)):Prop:=
 (aR8 o.op=true->∀d,o.dst=some d->(P1 d tm&&O6 d hp)=true)/\∀id,cK6 o N=some id->P1 id tm=true/\nfB id hp=true
def aj0 (X:Cx)(all:Array Oper)(o:Oper)(V0:List (Nat×T))(ao1:List (Nat×G6))(V:T)(N:Option (Nat×G6)):Prop:=
 ∀tm hp,more V0 tm->aY7 ao1 hp->ci3 o N tm hp->(∀d,o.dst=some d->bi3 d X.nt=true)->
  ∀a w,Sim X.w0 X.L X.nt ⟨tm,hp⟩ a w->∀(K:Act->World->Prop) (Q':Exit->Act->World->Prop),
  (∀a' w',Sim X.w0 X.L X.nt ⟨pt o V tm,bh0 N hp⟩ a' w'->K a' w')->
  if Region.wanted o (yielded all a.tmps)then o.wp X.P a w K Q' else K (a.put o.dst undef) w
section
variable {τ:Type} {X:Cx} {V0:List (Nat × T)} {ao1:List (Nat × G6)} {all:Array Oper} {o:Oper} {V:T} {N:Option (Nat × G6)} {kb:List Nat}
theorem Ok.pt {tm:List (Nat×T)}{hp:List (Nat×G6)}{S:Nat->Prop}{E:Nat->Value}{a:Act}{w:World}{v:Value}(h:Ok X.w0 X.L X.nt ⟨tm,hp⟩ S E a w)(hv:RV w S E v V)(hd:∀d,o.dst=some d->bi3 d X.nt=true):
  Sim X.w0 X.L X.nt ⟨Pv.pt o V tm,hp⟩ (a.put o.dst v) w:=by
 unfold Pv.pt
 cases bn8:o.dst with
 |none=>exact⟨S,E,h⟩
 |some d=>exact⟨S,E,h.put (bd6 (hd d bn8)) hv⟩
def aj0.pure (hg:gk all.toList kb V0 o.guard=some true)(hi:bB6 o.op=true)(he:evalOp X.C8 ⟨V0,ao1⟩ o=some (V,⟨V0,ao1⟩)):aj0 X all o V0 ao1 V none:=by
 intro tm hp hm hh _ hd a w ⟨S,E,hk⟩ K Q' hK
 obtain⟨v,w',E',hdo,hk',hv⟩:=bE8 X.K6 hk (dv3 hm hh hi he)
 rw[T7 hk (as8 hm (aG2 hg)),if_pos rfl]
 unfold Oper.wp
 have:=hK (a.put o.dst v) w' (by grind [bh0,Ok.pt])
 rcases hdo with hdo|⟨hdo,rfl⟩<;>rw[hdo]<;>exact this
def aj0.new {d:Nat}{b:G6}(hg:gk all.toList kb V0 o.guard=some true)(hi:aR8 o.op=true)(hd:o.dst=some d)(he:evalOp X.C8 ⟨V0,ao1⟩ o=some (V,⟨V0,(d,b)::ao1⟩)):aj0 X all o V0 ao1 V (some (d,b)):=by
 intro tm hp hm hh hf hd' a w ⟨S,E,hk⟩ K Q' hK
 obtain⟨v,w',E',hdo,hk',hv⟩:=bE8 X.K6 hk (dI5 hm hh hi hd he (hf.1 hi d hd))
 rw[T7 hk (as8 hm (aG2 hg)),if_pos rfl]
 unfold Oper.wp
 have:=hK (a.put o.dst v) w' (Ok.pt hk' hv hd')
 rcases hdo with hdo|⟨hdo,rfl⟩<;>rw[hdo]<;>exact this
theorem cR2 {hp:List (Nat×G6)}{id k:Nat}{b c:G6}(h:look hp id=some b):look (au3 hp id c) k=look ((id,c)::hp) k:=by
 rw[aF0]
 by_cases hk:id=k
 all_goals simp_all[look,D2]
def Sim.bM2 {w0:World}{L:Lim}{nt:Nat}{tm tm':List (Nat×T)}{hp X8:List (Nat×G6)}{a:Act}{w:World}(hm:Pv.more tm' tm)(hh:aY7 X8 hp)(h:Sim w0 L nt ⟨tm,hp⟩ a w):Sim w0 L nt ⟨tm',X8⟩ a w:=by
 obtain⟨S,E,hk⟩:=h
 exact⟨S,E,{hk with
  tm:=fun k t ht=>hk.tm k t (hm k t ht)
  hp:=fun i b hb=>hk.hp i b (hh i b hb)
  own:=fun i b β hb=>hk.own i b β (hh i b hb)
  au2:=fun i i' b b' β h1 h2=>hk.au2 i i' b b' β (hh i b h1) (hh i' b' h2)}⟩
def aj0.store {t id off:Nat}{x y:Operand}{ti:TI}{l ts:List T}(hg:gk all.toList kb V0 o.guard=some true)(ho:o.op= .store t x y)(hx:val V0 x=some (.ptr id off))(hti:look X.C8 t=some ti)(hy:(val V0 y).bind (at7 ao1)=some l)
  (hb:look ao1 id=some (.box ts)) (hc:(br8 l.length ti.size&&dE8 (off+l.length) ts.length)=true):aj0 X all o V0 ao1 (.t (.v undef)) (some (id,.box (aP7 ts off l))):=by
 intro tm hp hm hh hf hd' a w ⟨S,E,hk⟩ K Q' hK
 have he:evalOp X.C8 ⟨tm,hp⟩ o=some (.t (.v undef),⟨tm,au3 hp id (.box (aP7 ts off l))⟩):=by
  have hy':(val tm y).bind (at7 hp)=some l:=by
   cases hv:val V0 y with
   |none=>grind
   |some u=>grind [C9,br6]
  rw[aU6]
  obtain⟨dst,op,type,pos,aft,guard⟩:=o
  simp only at ho
  subst ho
  simp only[bl5,C9 hm hx,hti,hy',hh _ _ hb,hc,fk7]
 obtain⟨v,w',E',hdo,hk',hv⟩:=bE8 X.K6 hk he
 rw[T7 hk (as8 hm (aG2 hg)),if_pos rfl]
 unfold Oper.wp
 have:=hK (a.put o.dst v) w' (Sim.bM2 (fun _ _ h=>h) (fun k c hkc=>by rw[cR2 (hh _ _ hb)];exact hkc) (Ok.pt hk' hv hd'))
 rcases hdo with hdo|⟨hdo,rfl⟩<;>rw[hdo]<;>exact this
def aj0.skip (hg:gk all.toList kb V0 o.guard=some false):aj0 X all o V0 ao1 (.t (.v undef)) none:=by
 intro tm hp hm hh hf hd a w ⟨S,E,hk⟩ K Q' hK
 rw[T7 hk (as8 hm (aG2 hg)),if_neg (by simp)]
 exact hK _ _ (by simpa[bh0]using Ok.pt hk (.t (.v _)) hd)
end
mutual
theorem cn9:∀(t:T),mrg t t=t
 | .agg l=>by simp only[mrg,bW4 l]
 | .P4 l=>by simp only[mrg,bW4 l]
 | .t x=>by
  unfold mrg
  cases x with
  |sl n rs=>rfl
  |v x=>rfl
 | .clo f l=>by simp only[mrg]
 | .el _=>by simp only[mrg]
 | .ptr _ _=>by simp only[mrg]
 | .own _=>by simp only[mrg]
 | .pe _ _ _ _=>by simp only[mrg]
 | .vw _ _ _ _=>by simp only[mrg]
 | .fz _ _=>by simp only[mrg]
 | .any=>by simp only[mrg]
theorem bW4:∀(l:List T),bF6 l l=l
 |[]=>by simp only[bF6]
 |x::l=>by simp only[bF6,cn9 x,bW4 l]
end
theorem df8 (b:G6):cn8 b b=b:=by
 cases b<;>simp[cn8,bW4]
theorem L1.do6 {C8:Tab}{tm tm':List (Nat×T)}{hp X8:List (Nat×G6)}{o:Op}(hm:more tm tm')(hh:aY7 hp X8):∀{τ:Type}{l:L1 τ}{r:Tr×(τ->T)},l.q C8 tm hp o=some r->l.q C8 tm' X8 o=some r
 |_,.ix enc l i,r,h=>by
  simp only[L1.q]at h|-
  split at h<;>try(cases h;done)
  split at h<;>try(cases h;done)
  rename_i hx hi hty
  rw[C9 hm hx,C9 hm hi,hty]
  dsimp only
  split at h<;>try(cases h;done)
  split at h
  ·split at h<;>try(cases h;done)
   rename_i hb
   try dsimp only
   rw[hh _ _ hb];exact h
  ·exact h
 |_,.quo k i j,r,h=>by
  simp only[L1.q]at h|-
  split at h<;>try(cases h;done)
  split at h<;>try(cases h;done)
  rename_i hx hy
  rw[C9 hm hx,C9 hm hy];exact h
 |_,.rem i j,r,h=>by
  simp only[L1.q]at h|-
  split at h<;>try(cases h;done)
  split at h<;>try(cases h;done)
  rename_i hx hy
  rw[C9 hm hx,C9 hm hy];exact h
 |_,.shl k i j,r,h=>by
  simp only[L1.q]at h|-
  split at h<;>try(cases h;done)
  split at h<;>try(cases h;done)
  rename_i hx hy
  rw[C9 hm hx,C9 hm hy];exact h
 |_,.shr k i j,r,h=>by
  simp only[L1.q]at h|-
  split at h<;>try(cases h;done)
  split at h<;>try(cases h;done)
  rename_i hx hy
  rw[C9 hm hx,C9 hm hy];exact h
 |_,.str s i,r,h=>by
  simp only[L1.q]at h|-
  split at h<;>try(cases h;done)
  split at h<;>try(cases h;done)
  rename_i hx hi hty
  rw[C9 hm hx,C9 hm hi,hty];exact h
 |_,.ex8 s t,r,h=>by
  simp only[L1.q]at h|-
  split at h<;>try(cases h;done)
  split at h<;>try(cases h;done)
  rename_i hx hy
  rw[C9 hm hx,C9 hm hy];exact h
 |_,.b2s l,r,h=>by
  simp only[L1.q]at h|-
  split at h<;>try(cases h;done)
  split at h<;>try(cases h;done)
  rename_i hs hd hx
  rw[hs,hd,C9 hm hx];exact h
 |_,.ef2 b s t,r,h=>by
  simp only[L1.q]at h|-
  split at h<;>try(cases h;done)
  split at h<;>try(cases h;done)
  ·rename_i hx hy
   rw[C9 hm hx,C9 hm hy];exact h
  ·rename_i hx hy
   rw[C9 hm hx,C9 hm hy];exact h
 |_,.arr res ys i,r,h=>by
  simp only[L1.q]at h|-
  split at h<;>try(cases h;done)
  split at h<;>try(cases h;done)
  rename_i hx hi hty
  rw[C9 hm hx,C9 hm hi,hty];exact h
 |_,.ax enc ys i,r,h=>by
  simp only[L1.q]at h|-
  split at h<;>try(cases h;done)
  split at h<;>try(cases h;done)
  rename_i hx hi hty
  rw[C9 hm hx,C9 hm hi,hty];exact h
theorem bL0 {hp X8:List (Nat×G6)}(h:aY7 hp X8):∀{ts:List T}{c:List Tree},as1 hp ts=some c->as1 X8 ts=some c
 |[],c,hc=>by grind [as1]
 | .t x::r,c,hc=>by
  simp only[as1]at hc|-
  cases hr:as1 hp r with
  |none=>simp[hr]at hc
  |some d=>rw[bL0 h hr];rw[hr]at hc;exact hc
 | .own id::r,c,hc=>by
  simp only[as1]at hc|-
  split at hc<;>try(cases hc;done)
  rename_i hb
  rw[h _ _ hb]
  cases hr:as1 hp r with
  |none=>simp[hr]at hc
  |some d=>simp only[bL0 h hr];rw[hr]at hc;exact hc
 | .el _::_,c,hc=>by simp[as1]at hc
 | .ptr _ _::_,c,hc=>by simp[as1]at hc
 | .pe _ _ _ _::_,c,hc=>by simp[as1]at hc
 | .vw _ _ _ _::_,c,hc=>by simp[as1]at hc
 | .agg _::_,c,hc=>by simp[as1]at hc
 | .P4 _::_,c,hc=>by simp[as1]at hc
 | .clo _ _::_,c,hc=>by simp[as1]at hc
 | .fz _ _::_,c,hc=>by simp[as1]at hc
 | .any::_,c,hc=>by simp[as1]at hc
mutual
theorem dJ0 {hp X8:List (Nat×G6)}(h:aY7 hp X8):∀{x y:T},bb2 hp x=some y->bb2 X8 x=some y
 | .own id,y,hf=>by
  simp only[bb2]at hf|-
  split at hf<;>try(cases hf;done)
  rename_i hb
  rw[h _ _ hb];exact hf
 | .ptr id off,y,hf=>by
  simp only[bb2]at hf|-
  split at hf<;>try(cases hf;done)
  rename_i ts hb
  rw[h _ _ hb]
  cases hc:as1 hp ts with
  |none=>simp[hc]at hf
  |some c=>simp only[bL0 h hc];rw[hc]at hf;exact hf
 | .agg l,y,hf=>by
  simp only[bb2]at hf|-
  cases hl:bn7 hp l with
  |none=>simp[hl]at hf
  |some r=>rw[bv8 h hl];rw[hl]at hf;exact hf
 | .P4 l,y,hf=>by
  simp only[bb2]at hf|-
  cases hl:bn7 hp l with
  |none=>simp[hl]at hf
  |some r=>rw[bv8 h hl];rw[hl]at hf;exact hf
 | .clo n l,y,hf=>by
  simp only[bb2]at hf|-
  cases hl:bn7 hp l with
  |none=>simp[hl]at hf
  |some r=>rw[bv8 h hl];rw[hl]at hf;exact hf
 | .t x,y,hf=>by simp only[bb2]at hf|-;exact hf
 | .el c,y,hf=>by simp only[bb2]at hf|-;exact hf
 | .fz n c,y,hf=>by simp only[bb2]at hf|-;exact hf
 | .pe _ _ _ _,y,hf=>by simp[bb2]at hf
 | .vw _ _ _ _,y,hf=>by simp[bb2]at hf
 | .any,y,hf=>by simp[bb2]at hf
theorem bv8 {hp X8:List (Nat×G6)}(h:aY7 hp X8):∀{l r:List T},bn7 hp l=some r->bn7 X8 l=some r
 |[],r,hf=>by simp only[bn7]at hf|-;exact hf
 |x::l,r,hf=>by
  simp only[bn7]at hf|-
  split at hf<;>try(cases hf;done)
  rename_i hx hl
  rw[dJ0 h hx,bv8 h hl];exact hf
end
section
variable {τ:Type} {X:Cx} {V0:List (Nat × T)} {ao1:List (Nat × G6)} {all:Array Oper} {o:Oper} {V:T} {kb:List Nat}
def dH2 {tm tm':List (Nat×T)}{r:Nat×List T×List (List Tree)}(h:more tm tm')(hc:cN6 tm o=some r):cN6 tm' o=some r:=by
 grind [cN6,C9,cy9]
theorem W1.do6 {P:Program}{Ev:EqV P}{C8:Tab}{Γ:List GF}{tm tm':List (Nat×T)}{hp X8:List (Nat×G6)}{o:Op}(hm:more tm tm')(hh:aY7 hp X8):∀{u:W1}{r:Tr×T},u.q Ev C8 Γ tm hp o=some r->u.q Ev C8 Γ tm' X8 o=some r
 | .hx n,r,h=>by
  simp only[W1.q]at h|-
  grind [L1.do6]
 | .ly n,r,h=>by
  simp only[W1.q]at h|-
  split at h<;>try(cases h;done)
  rename_i hf
  try simp only[hf]
  split at h<;>try(cases h;done)
  rename_i hp1 hti
  rw[C9 hm hp1,hti]
  dsimp only
  split at h<;>try(cases h;done)
  rename_i hb hr
  rw[hh _ _ hb,hr];exact h
 | .eq,r,h=>by
  simp only[W1.q]at h|-
  grind [C9]
 | .cn,r,h=>by
  simp only[W1.q]at h|-
  grind [C9]
 | .sn,r,h=>by
  simp only[W1.q]at h|-
  split at h<;>try(cases h;done)
  split at h<;>try(cases h;done)
  rename_i hx hh' hty
  rw[C9 hm hx,C9 hm hh',hty];exact h
def aj0.known {Ev:EqV X.P}{Γ:List GF}(hΓ:∀f∈Γ,f.ok){u:W1}{t:Tr}(hg:gk all.toList kb V0 o.guard=some true)(hq:u.q Ev X.C8 Γ V0 ao1 o.op=some (t,V))(ht:t.den):aj0 X all o V0 ao1 V none:=by
 intro tm hp hm hh _ hd a w ⟨S,E,hk⟩ K Q' hK
 obtain⟨v,h1,h2⟩:=W1.ok hΓ (W1.do6 hm hh hq) ht S E a w hk
 rw[T7 hk (as8 hm (aG2 hg)),if_pos rfl]
 unfold Oper.wp
 rw[h1]
 exact hK (a.put o.dst v) w (by grind [bh0,Ok.pt])
theorem aj0.one {l:L1 τ}{t:Tr}{res:τ->T}{y:τ}(hg:gk all.toList kb V0 o.guard=some true)(hq:l.q X.C8 V0 ao1 o.op=some (t,res))(ht:t.den)(hy:l.m=some y):aj0 X all o V0 ao1 (res y) none:=by
 intro tm hp hm hh _ hd a w ⟨S,E,hk⟩ K Q' hK
 obtain⟨v,h1,h2⟩:=L1.ok (L1.do6 hm hh hq) ht y S E a w hy hk
 rw[T7 hk (as8 hm (aG2 hg)),if_pos rfl]
 unfold Oper.wp
 rw[h1]
 exact hK (a.put o.dst v) w (by grind [bh0,Ok.pt])
def aj0.call {d1:Bool}{n d:Nat}{args:List T}{s:Bool}{m₁:Option τ}{res:τ->T}{t:τ}(ht:m₁=some t)(hg:gk all.toList kb V0 o.guard=some true)(ho:cN5 V0 ao1 o=some (n,args,s,d))(hc:aM2 X.P n args m₁ res d1)
  (hs:s=true->scalar (res t)=true) (hd0:X.L.dr=true->d1=true:=by intro _;rfl):aj0 X all o V0 ao1 (res t) none:=by
 intro tm hp hm hh _ hd a w ⟨S,E,hk⟩ K Q' hK
 unfold cN5 at ho
 split at ho<;>try(cases ho;done)
 rename_i n' targs aW8 d' hz hd'
 obtain⟨vs,ps,bg9,hv,hps⟩:=el9 hk (dH2 hm hz) (by
  split at ho
  ·simp only[aI6,ba7]at ho;obtain⟨rfl,_⟩:=ho;exact hc.1
  ·split at ho<;>try(cases ho;done)
   simp only[aI6,ba7]at ho;obtain⟨rfl,_⟩:=ho;exact hc.1)
 rw[T7 hk (as8 hm (aG2 hg)),if_pos rfl]
 unfold Oper.wp
 rw[bg9,Oper.upon_enter]
 split at ho
 ·rename_i l' hf
  simp only[aI6,ba7]at ho
  obtain⟨rfl,rfl,rfl,rfl⟩:=ho
  have aL6:=hc.2 t ht w S E (vs++ps) (X.glF hk) hk.aH9 ((RV.closed hk hv hf E).append (hps E))
  refine aL6.mono fun e w' ⟨v,S',he,hv',aL7,hs1,hs2⟩=>?_
  subst he
  refine hK _ _ (by
   have:=Ok.pt (o:=o) (V:=res t) (v:=v) (S:=fun b=>S b\/S' b) (E:=E) ((hk.grow (aL7.dN8 hd0)).more hs1 (fun b hb=>?_) (fun id blk β hb hβ hS=>?_)) (hv'.mono (fun _ x=>.inr x) (fun _ _=>rfl) (fun _ _=>rfl)) hd
   ·grind [bh0]
   ·rcases hs2 b hb with h1|h1
    ·exact hk.base b h1
    ·exact .inr (.inr (eC9 hk.keep.size h1))
   ·have:=hk.own id blk β hb hβ
    grind)
 ·split at ho<;>try(cases ho;done)
  rename_i l' hf
  simp only[aI6,ba7]at ho
  obtain⟨rfl,rfl,rfl,rfl⟩:=ho
  have aL6:=hc.2 t ht w (fun b=>S b\/bs5 hp E b) E (vs++ps) (X.glF hk) (fun b hb=>hb.elim (hk.aH9 b) (fun⟨id,_,hl,hβ⟩=>(hk.own id _ b hl hβ).2.1))
   ((bA1 hk (fun _ x=>.inl x) (fun _ x=>.inr x) hv (bv8 hh hf) E).append ((hps E).eP4 (fun _ x=>.inl x) (fun _ _=>rfl)))
  refine aL6.mono fun e w' ⟨v,S',he,hv',aL7,_,_⟩=>?_
  subst he
  exact hK _ _ (by simpa[bh0]using Ok.pt (hk.grow (aL7.dN8 hd0)) (hv'.scalar (hs rfl)) hd)
theorem eG7 {w0:World}{L:Lim}{nt d e sz n:Nat}{rs:List (List Tree)}{tm:List (Nat×T)}{hp:List (Nat×G6)}{a:Act}{w:World}(hb:O6 d hp=true)(h:Sim w0 L nt ⟨(d,.own d)::tm,(d,.rows e sz n rs)::hp⟩ a w):
  Sim w0 L nt ⟨(d,.t (.sl n rs))::tm,hp⟩ a w:=by
 obtain⟨S,E,hk⟩:=h
 have hne:∀{id blk},look hp id=some blk->d≠id:=fun hl e=>(aB0 hb _ _ hl).1 e.symm
 have hd0:look ((d,G6.rows e sz n rs)::hp) d=some (.rows e sz n rs):=by simp[look]
 have hl':∀{id blk},look hp id=some blk->look ((d,G6.rows e sz n rs)::hp) id=some blk:=fun hl=>by grind [L7]
 have hk1:Ok w0 L nt ⟨(d,.own d)::tm,[(d,.rows e sz n rs)]⟩ S E a w:=
  {hk with
   hp:=fun i b hb'=>by
    simp only[look]at hb'
    by_cases hi:d=i
    ·subst hi;simp only[cG4,fk7,aI6]at hb';subst hb';exact hk.hp d _ hd0
    grind [D2]
   own:=fun i b β hb' hβ=>by
    simp only[look]at hb'
    by_cases hi:d=i
    ·subst hi;simp only[cG4,fk7,aI6]at hb';subst hb';exact hk.own d _ β hd0 hβ
    grind [D2]
   au2:=fun i i' b b' β h1 h2 _ _=>by
    grind [look,D2]}
 have hk2:Ok w0 L nt ⟨(d,.own d)::tm,hp⟩ S E a w:=
  {hk with
   hp:=fun i b hb'=>hk.hp i b (hl' hb')
   own:=fun i b β hb' hβ=>hk.own i b β (hl' hb') hβ
   au2:=fun i i' b b' β h1 h2=>hk.au2 i i' b b' β (hl' h1) (hl' h2)}
 have hk3:=hk2.more (S':=fun b=>S0 (E d)=some b) (fun b hb'=>(hk.own d _ b hd0 hb').2.1) (fun b hb'=>by
  rcases(hk.own d _ b hd0 hb').2.2 with h2|h2
  all_goals grind) (fun id blk β hl hβ hS=>hne hl (hk.au2 d id _ blk β hd0 (hl' hl) hS hβ))
 have hu:RV w (fun b=>S b\/S0 (E d)=some b) E (E d) (.t (.sl n rs)):=by
  refine .t (bW7 hk1 (id:=d) (e:=e) (sz:=sz) (by simp[look]) _ (fun _ x=>.inl x) fun b hb'=>?_)
  obtain⟨i,_,hl,hβ⟩:=hb'
  grind [look,D2]
 refine⟨_,E,{hk3 with tm:=fun k t ht=>?_}⟩
 simp only[look]at ht
 by_cases hdk:d=k
 ·subst hdk
  simp only[cG4,fk7,aI6]at ht
  subst ht
  have:=hk3.tm d (.own d) (by simp[look])
  generalize a.tmps.getD d undef=x at this|-
  cases this with
  |own _ _ hE=>grind
 ·simp only[D2 hdk,fk6]at ht
  exact hk3.tm k t (by grind [L7])
theorem aj0.frz {d e sz n:Nat}{rs:List (List Tree)}(hi:aR8 o.op=true)(hd:o.dst=some d)(h:aj0 X all o V0 ao1 (.own d) (some (d,.rows e sz n rs))):aj0 X all o V0 ao1 (.t (.sl n rs)) none:=by
 intro tm hp hm hh hf hd' a w hk K Q' hK
 have h1:=h tm hp hm hh ⟨hf.1,fun id hid=>by grind [dr8]⟩ hd' a w hk K Q' fun a' w' hs=>hK a' w' (by
  simp only[pt,bh0,hd]at hs|-
  have:=hf.1 hi d hd
  rw[aK5]at this
  grind [eG7])
 exact h1
def Oper.dV7 {P:Program}{o:Oper}{a:Act}{w:World}{K K':Act->World->Prop}{Q Q':Exit->Act->World->Prop}(h:∀a w,K a w->K' a w)(hp:∀c a w,¬Q (.panic c) a w)(hl:¬LetsOut Q)(hh:o.wp P a w K Q):o.wp P a w K' Q':=by
 unfold Oper.wp at*
 generalize(execOp a.eval o).run P w=r at*
 cases r with
 |ok n w'=>
  cases n<;>simp only[Oper.upon]at hh|- <;>
   first
    |grind
    |grind [Calls.mono]
    |grind [Rows.mono]
 |halt x w'=>cases x<;>simp only[Oper.upon]at hh|- <;>first|grind|exact hh
def aj0.eP8 {N:Option (Nat×G6)}(h:∀tm hp,more V0 tm->aY7 ao1 hp->∃σ':St,more (Pv.pt o V tm) σ'.tm/\aY7 (bh0 N hp) σ'.hp/\B9 X all [o] [] ⟨tm,hp⟩ (some ()) (fun _ e σ=>e= .normal/\σ=σ')):aj0 X all o V0 ao1 V N:=by
 intro tm hp hm hh _ _ a w hk K Q' hK
 obtain⟨σ',h1,h2,h3⟩:=h tm hp hm hh
 have h4:=h3 () rfl a w hk
 have X8:∀(e:Exit) a w,e≠ .normal->¬(X.post fun e σ=>e= .normal/\σ=σ') e a w:=fun e a w he ⟨σ,_,hx,_⟩=>he hx
 have hfin:∀a w,wpList X.P all (after X.P [] (X.post fun e σ=>e= .normal/\σ=σ')) [] a w->K a w:=fun a w hq=>by
  obtain⟨σ,hs,_,rfl⟩:=hq
  exact hK a w (hs.bM2 h1 h2)
 unfold wpList at h4
 split at h4
 ·rename_i hw
  rw[if_pos hw]
  rcases h4 with h4|⟨_,h4⟩
  ·exact Oper.dV7 hfin (fun c a w=>X8 _ a w (by simp)) (fun⟨a,w,hx⟩=>X8 _ a w (by simp) hx) h4
  ·obtain⟨a,w,hx⟩:=h4
   exact absurd hx (X8 _ a w (by simp))
 grind
def Y5 {α:Type}{id:Nat}:∀{l:List (Nat×α)}{k:Nat}{b:α},look (by5 l id) k=some b->k≠id/\look l k=some b
 |[],k,b,h=>by simp[by5,look]at h
 |(j,x)::r,k,b,h=>by
  unfold by5 at h
  by_cases hj:j=id
  ·subst hj
   simp only[cG4,fk7]at h
   obtain⟨h1,h2⟩:=Y5 h
   simp_all[L7,Ne.symm]
  ·simp only[D2 hj,fk6]at h
   by_cases hk:j=k
   ·subst hk
    exact⟨hj,by simpa[look]using h⟩
   ·rw[L7 hk]at h|-
    exact Y5 h
theorem bf9 {α:Type}{id k:Nat}(hk:k≠id):∀{l:List (Nat×α)},look (by5 l id) k=look l k
 |[]=>rfl
 |(j,x)::r=>by
  unfold by5
  by_cases hj:j=id
  all_goals simp_all[Ne.symm,bf9,D2,look]
def aj0.append {α:Type}{t e e' d id n m s0:Nat}{z0:List Value}{te:TI}{s x:Operand}{sv:Value}{l r y:List α}{enc:α->List Tree}(hg:gk all.toList kb V0 o.guard=some true)
  (ho:o.op= .call ⟨.builtin .append,#[s,x],#[t,t]⟩) (hd:o.dst=some d)
  (hty:look X.C8 t=some ⟨s0,.slice e,z0⟩) (hte:look X.C8 e=some te) (hz:te.zero.length=te.size) (ay6:∀y,(enc y).length=te.size) (bj1:∀y,(enc y).all aQ4=true)
  (hs:val V0 s=some (.t (.v sv))) (hb:look ao1 id=some (.rv sv e te.size n (l.map enc)))
  (hx:val V0 x=some (.t (.sl m (r.map enc)))\/∃i2,val V0 x=some (.own i2)/\look ao1 i2=some (.rows e' te.size m (r.map enc)))
  (aO4:bi3 id big=true) (hy:V4 l r=some y):aj0 X all o V0 ao1 (.own id) (some (id,.rows e te.size y.length (y.map enc))):=by
 intro tm hp hm hh hf hd' a w ⟨S,E,hk⟩ K Q' hK
 unfold V4 at hy
 split at hy<;>try(cases hy;done)
 rename_i cY8
 simp only[aI6]at hy
 subst hy
 obtain⟨hft,hfb⟩:=hf.2 id (by grind [cK6])
 obtain⟨dd,hu,ho2⟩:∃d,X.P.underlying t=some d/\TD.ok X.P (.slice e) d:=by
  obtain⟨i,d,_,_,hu,hdd,_⟩:=X.K6 t _ hty
  grind
 simp only[TD.ok]at ho2
 subst ho2
 have hb':=hh _ _ hb
 have cf2:Src w S (a.eval x) r.length te.size (r.map enc):=by
  rcases hx with hx|⟨i2,hx,hb2⟩
  ·have hv:=hk.val (C9 hm hx)
   generalize a.eval x=xv at hv
   cases hv with
   |t hv=>
    have:=cg5 hv (bV4 ay6 r) (bH3 bj1 r)
    have hm:m=r.length:=by grind
    subst hm
    exact⟨by simp,this.2⟩
  ·have hv:=hk.val (C9 hm hx)
   have hb:=hk.hp i2 _ (hh _ _ hb2)
   generalize a.eval x=xv at hv
   cases hv with
   |own _ _ hE=>
    subst hE
    have:=dp6 hb (bH3 bj1 r)
    have hm:m=r.length:=by simpa using this.1
    grind
 have hv:a.eval s=sv:=(hk.val (C9 hm hs)).tv
 obtain⟨hE0,bZ3⟩:=hk.hp id _ hb'
 have hn:n=l.length:=by have:=bZ3.1;grind
 subst hn
 have hbv:be0 w S E sv (.rows e te.size l.length (l.map enc)):=by rw[<-hE0];exact bZ3
 have hk':Ok X.w0 X.L X.nt ⟨tm,by5 hp id⟩ S E a w:=
  {hk with
   hp:=fun i b hb=>hk.hp i b (Y5 hb).2
   own:=fun i b β hb hβ=>hk.own i b β (Y5 hb).2 hβ
   au2:=fun i i' b b' β h1 h2=>hk.au2 i i' b b' β (Y5 h1).2 (Y5 h2).2}
 obtain⟨v',w',E',hr,hE,hok⟩:=hk'.append (ty:=o.type) aO4 hft (co1 hfb) (v:=sv) (x:=a.eval x) (fun β hβ=>hk.own id _ β hb' (by grind)) (fun i blk β hi h1 h2=>by
   obtain⟨g1,g2⟩:=Y5 hi
   exact g1 (hk.au2 id i _ blk β hb' g2 (by grind) h2).symm) hbv hu (X.K6 e _ hte) hz cf2 (bV4 ay6 r) (by omega)
 rw[T7 hk (as8 hm (aG2 hg)),if_pos rfl]
 unfold Oper.wp
 have aO5:(execOp a.eval o).run X.P w= .ok (.value v') w':=by
  unfold execOp
  simp only[ho,resolve,invoke,builtin,bq9,bB8,bd5,List.map_toArray,cN4,List.map_nil,hv,hr]
 rw[aO5]
 rw[<-List.map_append,<-bd4]at hok
 refine hK (a.put o.dst v') w' (Sim.bM2 (fun _ _ h=>h) (fun k c hkc=>?_) (Ok.pt (o:=o) hok (.own id v' hE) hd'))
 by_cases hki:id=k
 ·simp_all[bh0,look]
 simp_all[bh0,L7,bf9,Ne.symm]
theorem cd6 {tm tm':List (Nat×T)}{r:Nat×List T}(h:more tm tm')(hc:bD9 tm o=some r):bD9 tm' o=some r:=by
 grind [bD9,C9,cy9]
theorem bI8 {lm:List (Nat×Nat)}{k:Nat}(h:k∉lm.map (·.2)):∀{hp:List (Nat×G6)},look (aq3 lm hp) k=look hp k
 |[]=>rfl
 |(i,b)::r=>by
  simp only[aq3]
  split
  ·rename_i hm
   have hik:i≠k:=by
    rintro rfl
    grind [et0,bq8]
   rw[L7 hik];exact bI8 h
  ·by_cases hik:i=k
   ·subst hik;simp[look]
   ·rw[L7 hik,L7 hik];exact bI8 h
def dh0 {h:List (Nat×Nat)}:∀{hp X8:List (Nat×G6)},aS4 h hp=some X8->∀{p},p∈X8->p.1∈h.map (·.2)
 |[],X8,hr,p,hm=>by grind [aS4]
 |(i0,b0)::r,X8,hr,p,hm=>by
  simp only[aS4]at hr
  split at hr<;>try(cases hr;done)
  rename_i j c l hj _ hl
  simp only[aI6]at hr
  subst hr
  rcases ca1.1 hm with rfl|hm
  ·exact cK0.2 ⟨(i0,j),bn9 hj,rfl⟩
  ·exact dh0 hl hm
def aj0.fd8 {d1 : Bool} {n d : Nat} {targs an4 aD0 : List T} {chp aO7 : List (Nat × G6)} {m₁ : Option τ} {res : τ -> T} {bI5 : τ -> List (Nat × G6)} {t : τ} {rt : T} (lm : List (Nat × Nat)) (ht : m₁ = some t) (hc : bh6 X.P n aD0 chp m₁ res bI5 d1)
    (hg : gk all.toList kb V0 o.guard = some true) (ho : bD9 V0 o = some (n, targs)) (bn8 : o.dst = some d) (hdn : bi3 d X.nt = true) (ha : bT2 lm aD0 = some an4) (hmr : bF6 targs an4 = an4)
    (hr : aS4 lm chp = some aO7) (cn0 : aO7.map (fun p => look ao1 p.1) = aO7.map (fun p => some p.2)) (hm0 : bq0 lm [] [] [] = true) (hk0 : (lm.all fun p => (look aO7 p.2).isSome) = true)
    (dw6 : aN2 lm (res t) = some rt) (hsame : bI5 t = chp) (hd0 : X.L.dr = true -> d1 = true := by intro _; rfl) : aj0 X all o V0 ao1 rt none := by
  have ce9 : ∀ p ∈ aO7, look ao1 p.1 = some p.2 := fun p X8 => by
    obtain ⟨n, hn, rfl⟩ := List.mem_iff_getElem.1 X8
    have : (aO7.map (fun p => look ao1 p.1))[n]? = (aO7.map (fun p => some p.2))[n]? := by rw [cn0]
    grind
  have hct : bh6 X.P n aD0 chp (some ()) (fun _ => res t) (fun _ => chp) d1 := ⟨hc.1, fun r _ => by
    have := hc.2 t ht
    grind⟩
  refine .eP8 fun tm hp hm hh => ⟨⟨(d, rt) :: tm, aO7 ++ aq3 lm hp⟩, ?_, ?_, ?_⟩
  · intro k u hk; grind [pt]
  · intro k c hk
    simp only [bh0] at hk
    by_cases hkl : k ∈ lm.map (·.2)
    · obtain ⟨p, hp1, rfl⟩ := cK0.1 hkl
      have := bt1.1 hk0 p hp1
      rw [Option.isSome_iff_exists] at this
      obtain ⟨b, hb⟩ := this
      rw [aR9, hb]
      have := hh _ _ (ce9 _ (bn9 hb))
      grind
    · rw [aR9]
      cases hx : look aO7 k with
      | some b => exact absurd (dh0 hr (bn9 hx)) hkl
      | none => grind [bI8]
  · have := B9.g (hd0 := hd0) (X := X) (all := all) (o := o) (rest := []) (ks := []) (k := fun _ => some ()) (Q := fun (_ : Unit) e' σ => e' = .normal /\ σ = ⟨(d, rt) :: tm, aO7 ++ aq3 lm hp⟩) (hp2 := aq3 lm hp) (d := d) lm [] (dM1 := fun _ => rt) (rhp := fun _ => aO7) (aO7 := aO7) (targs := targs) (an4 := an4) (n := n) hct (by
        unfold dt5
        rw [as8 hm (aG2 hg)]
        simp only [cd6 hm ho, ha, hr, bn8, hdn, eS9]
        rw [show bq0 lm [] tm hp = true by grind [bq0]]
        rfl) hmr (by
        refine List.map_congr_left fun p hp1 => ?_
        unfold bF5
        rw [hh _ _ (ce9 p hp1)]
        simp only [df8]) (fun _ => by grind) (fun _ => by grind) (fun _ _ => B9.nil (E9.leaf ⟨rfl, rfl⟩))
    exact this
def Sim.pin {w0:World}{L:Lim}{nt:Nat}{tm:List (Nat×T)}{hp:List (Nat×G6)}{a:Act}{w:World}(id:Nat){e sz n:Nat}{rs:List (List Tree)}(hb:look hp id=some (.rows e sz n rs))(h:Sim w0 L nt ⟨tm,hp⟩ a w):
  ∃v:Value,Sim w0 L nt ⟨cq5 id (.t (.v v)) tm,(id,.rv v e sz n rs)::bo9 id (.t (.v v)) hp⟩ a w:=by
 obtain⟨S,E,hk⟩:=h
 have hu:RV w S E (E id) (.t (.v (E id))):=.t (.v _)
 have back:∀{i:Nat}{b:G6},look ((id,G6.rv (E id) e sz n rs)::bo9 id (.t (.v (E id))) hp) i=some b->∃b0,look hp i=some b0:=fun{i b} hl=>by
  grind [L7,ar6]
 refine⟨E id,S,E,{hk with tm:=fun k t ht=>?_,hp:=fun i b hl=>?_,own:=fun i b β hl hβ=>?_,au2:=fun i i' b b' β h1 h2=>?_}⟩
 ·simp only at ht
  rw[ch1]at ht
  cases hl:look tm k with
  |none=>grind
  |some t0=>simp only[hl,bN9,aI6]at ht;subst ht;exact cV7 (fun _ x=>x) hu (hk.tm k t0 hl)
 ·by_cases hi:id=i
  ·subst hi
   simp only[look,cG4,fk7,aI6]at hl
   subst hl
   exact⟨rfl,hk.hp id _ hb⟩
  ·simp only at hl
   rw[L7 hi]at hl
   obtain⟨hne,b0,hb0,hm⟩:=ar6 _ _ _ _ _ hl
   have hk0:=hk.hp i b0 hb0
   cases b0 with
   |box ts=>
    simp only at hm
    subst hm
    obtain⟨β,vs,elem,h1,h2,h3,h4,h5⟩:=hk0
    have:=bF9 (S':=S) (fun _ x=>x) hu (l:=ts) (vs:=vs) ⟨h3,h4⟩
    exact⟨β,vs,elem,h1,h2,this.1,this.2,h5⟩
   |rows e' sz' n' rs'=>grind
   |mp es=>grind
   |rv y e' sz' n' rs'=>grind
 ·obtain⟨b0,h0⟩:=back hl
  exact hk.own i b0 β h0 hβ
 ·obtain⟨b0,h0⟩:=back h1
  obtain⟨b0',h0'⟩:=back h2
  exact hk.au2 i i' b0 b0' β h0 h0'
mutual
def do2 (b:Nat):T->Bool
 | .t _=>true
 | .el _=>true
 | .fz _ _=>true
 | .any=>true
 | .own i=>br8 i b
 | .agg l=>dz6 b l
 | .P4 l=>dz6 b l
 | .clo _ l=>dz6 b l
 | .ptr _ _=>false
 | .pe _ _ _ _=>false
 | .vw _ _ _ _=>false
def dz6 (b:Nat):List T->Bool
 |[]=>true
 |x::l=>do2 b x&&dz6 b l
end
mutual
theorem fa7 {w:World}{S:Nat->Prop}{E Ec:Nat->Value}{b:Nat}{sv:Value}(hE:Ec b=sv):∀{t:T}{x:Value},do2 b t=true->RV w S E x (aS9 b (.t (.v sv)) t)->RV w S Ec x t
 | .t y,x,_,h=>by simp only[aS9]at h;exact h.mono (fun _ x=>x) (fun _ _=>rfl) (fun id hid=>by simp[names]at hid)
 | .el c,x,_,h=>by simp only[aS9]at h;exact h.mono (fun _ x=>x) (fun _ _=>rfl) (fun id hid=>by simp[names]at hid)
 | .fz n c,x,_,h=>by simp only[aS9]at h;exact h.mono (fun _ x=>x) (fun _ _=>rfl) (fun id hid=>by simp[names]at hid)
 | .any,x,_,_=>.any x
 | .own i,x,ho,h=>by
  simp only[do2]at ho
  have ho:=bq8 ho
  subst ho
  simp only[aS9,cG4,fk7]at h
  have:=h.tv
  subst this
  exact .own i _ hE
 | .agg l,x,ho,h=>by
  simp only[do2]at ho
  simp only[aS9]at h
  cases h with|agg vs _ hl hr=>have:=cW2 hE (l:=l) (vs:=vs) ho ⟨hl,hr⟩;exact .agg vs _ this.1 this.2
 | .P4 l,x,ho,h=>by
  simp only[do2]at ho
  simp only[aS9]at h
  cases h with|P4 vs _ hl hr=>have:=cW2 hE (l:=l) (vs:=vs) ho ⟨hl,hr⟩;exact .P4 vs _ this.1 this.2
 | .clo f l,x,ho,h=>by
  simp only[do2]at ho
  simp only[aS9]at h
  cases h with|clo _ vs _ hl hr=>have:=cW2 hE (l:=l) (vs:=vs) ho ⟨hl,hr⟩;exact .clo f vs _ this.1 this.2
 | .ptr _ _,x,ho,_=>by simp[do2]at ho
 | .pe _ _ _ _,x,ho,_=>by simp[do2]at ho
 | .vw _ _ _ _,x,ho,_=>by simp[do2]at ho
theorem cW2 {w:World}{S:Nat->Prop}{E Ec:Nat->Value}{b:Nat}{sv:Value}(hE:Ec b=sv):∀{l:List T}{vs:List Value},dz6 b l=true->RVL w S E vs (aZ1 b (.t (.v sv)) l)->RVL w S Ec vs l
 |[],vs,_,h=>⟨by simpa[aZ1]using h.1,fun j _ h2=>by simp at h2⟩
 |x::l,vs,ho,h=>by
  simp only[dz6,aK5]at ho
  cases vs with
  |nil=>have:=h.1;simp[aZ1]at this
  |cons v vs=>
   have h1:=fa7 hE (t:=x) ho.1 (h.2 0 (by simp) (by simp[aZ1]))
   have h2:=cW2 hE (l:=l) (vs:=vs) ho.2 ⟨by simpa[aZ1]using h.1,fun j a b=>h.2 (j+1) (by simpa using a) (by simpa[aZ1]using b)⟩
   refine⟨by simp[h2.1],fun j a b=>?_⟩
   cases j with
   |zero=>exact h1
   |succ j=>exact h2.2 j (by simpa using a) (by simpa using b)
end
def aj0.fd7 {d1:Bool}{n d c b0 r0 e e2 sz sz2 m m2:Nat}{aD0 targs:List T}{rt:T}{rs rs2:List (List Tree)}{sv:Value}{m₁:Option τ}{res:τ->T}{bI5:τ->List (Nat×G6)}{t:τ}(ht:m₁=some t)(hc:bh6 X.P n aD0 [(b0,.rows e sz m rs)] m₁ res bI5 d1)
  (hg:gk all.toList kb V0 o.guard=some true) (ho:bD9 V0 o=some (n,targs)) (bn8:o.dst=some d) (hb:look ao1 c=some (.rv sv e sz m rs)) (aO4:bi3 c big=true)
  (de4:bF6 targs (aZ1 b0 (.t (.v sv)) aD0)=aZ1 b0 (.t (.v sv)) aD0) (hon:dz6 b0 aD0=true) (dw6:aN2 [(r0,c)] (res t)=some rt) (hhp:bI5 t=[(r0,.rows e2 sz2 m2 rs2)]) (hd0:X.L.dr=true->d1=true:=by intro _;rfl):aj0 X all o V0 ao1 rt (some (c,.rows e2 sz2 m2 rs2)):=by
 intro tm hp hm hh hf hd' a w ⟨S,E,hk⟩ K Q' hK
 have hop:∃q,o.op= .call q:=by
  unfold bD9 at ho
  split at ho<;>try(cases ho;done)
  rename_i hx
  exact⟨_,hx⟩
 obtain⟨hft,hfb⟩:=hf.2 c (by obtain⟨q,hq⟩:=hop;unfold cK6;rw[hq])
 have hcb:c<big:=bd6 aO4
 have hb':=hh _ _ hb
 obtain⟨hE0,bZ3⟩:=hk.hp c _ hb'
 obtain⟨vs,bg9,hv⟩:=dt4 hk (cd6 hm ho) hc.1
 let Ec:Nat->Value:=fun i=>if i=b0 then sv else E i
 have hEc:Ec b0=sv:=by simp[Ec]
 have df5:∀{i:Nat}{b:G6},look [(b0,G6.rows e sz m rs)] i=some b->i=b0/\b= .rows e sz m rs:=fun{i b} h=>by
  by_cases hi:b0=i
  ·subst hi;simp only[look,cG4,fk7,aI6]at h;exact⟨rfl,h.symm⟩
  ·simp[look,D2 hi]at h
 have hO:ci6 w S Ec [(b0,.rows e sz m rs)]:=by
  refine⟨fun i b hi=>?_,fun i b β hi hβ=>?_,fun i i' b b' β hi hi' _ _=>?_⟩
  ·obtain⟨rfl,rfl⟩:=df5 hi
   rw[hEc,<-hE0];exact bZ3
  ·obtain⟨rfl,rfl⟩:=df5 hi
   rw[hEc,<-hE0]at hβ
   have:=hk.own c _ β hb' hβ
   exact⟨this.1,this.2.1⟩
  ·exact(df5 hi).1.trans (df5 hi').1.symm
 have hav:RVL w S Ec vs aD0:=by
  have h1:=bW3 (u:=aZ1 b0 (.t (.v sv)) aD0) hv
  rw[de4]at h1
  exact cW2 hEc hon h1
 have aL6:=hc.2 t ht w S Ec vs (X.glG hk (fun β ⟨i,b,hi,hβ⟩=>by
   obtain⟨rfl,rfl⟩:=df5 hi
   rw[hEc,<-hE0]at hβ
   exact⟨c,_,hb',hβ⟩)) hk.aH9 hO hav
 rw[T7 hk (as8 hm (aG2 hg)),if_pos rfl]
 unfold Oper.wp
 rw[bg9,Oper.upon_enter]
 refine aL6.mono fun ex w' ⟨v,S',E',he,hv',aL7,h1,h2,hO',h3,h4⟩=>?_
 subst he
 have bs2:∀{β},az7 [(b0,G6.rows e sz m rs)] Ec β->S0 sv=some β:=fun{β} ⟨i,b,hi,hβ⟩=>by
  obtain⟨rfl,rfl⟩:=df5 hi
  rw[hEc]at hβ;exact hβ
 generalize hEr:E' r0=q
 have bS1:look (bI5 t) r0=some (.rows e2 sz2 m2 rs2):=by rw[hhp];simp[look]
 have svb:∀{β},S0 sv=some β->¬S β/\β<w.heap.size/\(X.w0.heap.size<=β\/X.L.bs2 β):=fun{β} hβ=>hk.own c _ β hb' (by rw[hE0];exact hβ)
 have other:∀{i:Nat}{b:G6}{β:Nat},look hp i=some b->i≠c->S0 (E i)=some β->S0 sv≠some β:=fun{i b β} hi hne hβ hs=>hne (hk.au2 i c b _ β hi hb' hβ (by rw[hE0];exact hs))
 have vb:∀{β},S0 q=some β->(S0 sv=some β\/w.heap.size<=β)/\¬S' β/\β<w'.heap.size:=fun{β} hβ=>by
  have hl:az7 (bI5 t) E' β:=⟨r0,_,bS1,by rw[hEr];exact hβ⟩
  have:=hO'.own r0 _ β bS1 (by rw[hEr];exact hβ)
  exact⟨(h3 β hl).imp bs2 (fun x=>x),this.1,this.2⟩
 have hS:∀b,S b->w'.heap[b]? =w.heap[b]?:=fun b hb=>aL7.block b (hk.aH9 b hb) (fun hl=>(svb (bs2 hl)).1 hb)
 let E2:Nat->Value:=fun i=>if i=c then q else E i
 have hE2:∀i,i≠c->E2 i=E i:=fun i hi=>by simp[E2,hi]
 have hE2c:E2 c=q:=by simp[E2]
 have cne:∀{t:T},names c t=false->∀i,names i t=true->E2 i=E i:=fun{t} hn i hi=>hE2 i (fun e=>by subst e;rw[hn]at hi;cases hi)
 have hok:Ok X.w0 X.L X.nt ⟨tm,(c,.rows e2 sz2 m2 rs2)::by5 hp c⟩ (fun b=>S b\/S' b) E2 a w':=
  {keep:=hk.keep.trans (aL7.dN8 hd0) (fun β hl=>by
    rcases(svb (bs2 hl)).2.2 with h|h
    ·exact .inr h
    ·exact .inl h)
   aH9:=fun b hb=>hb.elim (fun h=>dp8 (hk.aH9 b h) aL7.size) (h1 b)
   base:=fun b hb=>by
    rcases hb with hb|hb
    ·exact hk.base b hb
    ·rcases h2 b hb with hb|hb|hb
     ·exact hk.base b hb
     ·rcases(svb (bs2 hb)).2.2 with h|h
      ·exact .inr (.inr h)
      ·exact .inr (.inl h)
     ·exact .inr (.inr (eC9 hk.keep.size hb))
   size:=hk.size
   defers:=hk.defers
   tm:=fun k u hu=>(hk.tm k u hu).mono (fun _ x=>.inl x) hS (cne (bc6 hft k u hu))
   hp:=fun i b hi=>by
    by_cases hic:c=i
    ·subst hic
     simp only[look,cG4,fk7,aI6]at hi
     subst hi
     rw[hE2c,<-hEr]
     exact(hO'.blk r0 _ bS1).mono (fun _ x=>.inr x) (fun _ _=>rfl) (fun _ _=>rfl) (fun _ hid=>by simp[bj4]at hid)
    ·simp only at hi
     rw[L7 hic]at hi
     obtain⟨g1,g2⟩:=Y5 hi
     rw[hE2 i g1]
     exact(hk.hp i b g2).mono (fun _ x=>.inl x) hS (fun β hβ=>aL7.block β (hk.own i b β g2 hβ).2.1 (fun hl=>other g2 g1 hβ (bs2 hl))) (fun j hj=>hE2 j (fun e=>by
      subst e
      have:=(aB0 (co1 hfb) i b hi).2
      rw[this]at hj;cases hj))
   own:=fun i b β hi hβ=>by
    by_cases hic:c=i
    ·subst hic
     rw[hE2c]at hβ
     obtain⟨g1,g2,g3⟩:=vb hβ
     refine⟨fun hx=>hx.elim (fun hx=>?_) g2,g3,?_⟩
     ·rcases g1 with g1|g1
      ·exact(svb g1).1 hx
      ·exact absurd (hk.aH9 β hx) (Nat.not_lt.2 g1)
     ·rcases g1 with g1|g1
      ·exact(svb g1).2.2
      ·exact .inl (eC9 hk.keep.size g1)
    ·simp only at hi
     rw[L7 hic]at hi
     obtain⟨g1,g2⟩:=Y5 hi
     rw[hE2 i g1]at hβ
     have:=hk.own i b β g2 hβ
     refine⟨fun hx=>hx.elim this.1 (fun hx=>?_),dp8 this.2.1 aL7.size,this.2.2⟩
     rcases h2 β hx with hx|hx|hx
     ·exact this.1 hx
     ·exact other g2 g1 hβ (bs2 hx)
     ·exact absurd this.2.1 (Nat.not_lt.2 hx)
   au2:=fun i i' b b' β hi hi' hβ hβ'=>by
    have dc4:∀{i:Nat}{b:G6},look (by5 hp c) i=some b->S0 (E2 i)=some β->S0 q=some β->False:=fun{i b} hi hβ hβ'=>by
     obtain⟨g1,g2⟩:=Y5 hi
     rw[hE2 i g1]at hβ
     rcases(vb hβ').1 with g|g
     ·exact other g2 g1 hβ g
     ·exact absurd (hk.own i b β g2 hβ).2.1 (Nat.not_lt.2 g)
    by_cases hic:c=i<;>by_cases hic':c=i'
    ·exact hic.symm.trans hic'
    ·subst hic
     simp only at hi'
     rw[L7 hic']at hi'
     rw[hE2c]at hβ
     exact(dc4 hi' hβ' hβ).elim
    ·subst hic'
     simp only at hi
     rw[L7 hic]at hi
     rw[hE2c]at hβ'
     exact(dc4 hi hβ hβ').elim
    ·simp only at hi hi'
     rw[L7 hic]at hi
     rw[L7 hic']at hi'
     obtain⟨g1,g2⟩:=Y5 hi
     obtain⟨g1',g2'⟩:=Y5 hi'
     rw[hE2 i g1]at hβ
     rw[hE2 i' g1']at hβ'
     exact hk.au2 i i' b b' β g2 g2' hβ hβ'
   pin:=fun i hi=>by rw[hE2 i (fun e=>by omega)];exact hk.pin i hi}
 have hrv:RV w' (fun b=>S b\/S' b) E2 v rt:=(cp1 (h:=[(r0,c)]) (E:=E') (E':=E2) (fun i j hij=>by
  by_cases hi:r0=i
  ·subst hi
   simp only[look,cG4,fk7,aI6]at hij
   subst hij
   rw[hE2c,<-hEr]
  ·simp[look,D2 hi]at hij) hv' dw6).mono (fun _ x=>.inr x) (fun _ _=>rfl) (fun _ _=>rfl)
 refine hK _ _ (Sim.bM2 (fun _ _ h=>h) (fun k x hkc=>?_) (Ok.pt (o:=o) hok hrv hd'))
 by_cases hki:c=k
 ·subst hki
  simpa[bh0,look]using hkc
 ·simp only[bh0]at hkc
  rw[L7 hki]at hkc|-
  rw[bf9 (Ne.symm hki)];exact hkc
def aj0.fd6 {d1 : Bool} {n d c r1 e2 sz2 m2 : Nat} {aD0 targs an4 : List T} {rt : T} {rs2 : List (List Tree)} {m₁ : Option τ} {res : τ -> T} {bI5 : τ -> List (Nat × G6)} {t : τ} (ht : m₁ = some t) (hc : bh6 X.P n aD0 [] m₁ res bI5 d1)
    (hg : gk all.toList kb V0 o.guard = some true) (ho : bD9 V0 o = some (n, targs)) (bn8 : o.dst = some d) (hdn : bi3 d X.nt = true) (aO4 : bi3 c big = true)
    (ha : bT2 [] aD0 = some an4) (hmr : bF6 targs an4 = an4) (dw6 : aN2 [(r1, c)] (res t) = some rt) (hhp : bI5 t = [(r1, .rows e2 sz2 m2 rs2)]) (hd0 : X.L.dr = true -> d1 = true := by intro _; rfl) : aj0 X all o V0 ao1 rt (some (c, .rows e2 sz2 m2 rs2)) := by
  intro tm hp hm hh hf _ a w hk K Q' hK
  have hop : ∃ q, o.op = .call q := by
    grind [bD9]
  obtain ⟨hft, hfb⟩ := hf.2 c (by grind [cK6])
  have hct : bh6 X.P n aD0 [] (some ()) (fun _ => res t) (fun _ => [(r1, .rows e2 sz2 m2 rs2)]) d1 := ⟨hc.1, fun r _ => by
    have := hc.2 t ht
    grind⟩
  have key := B9.g (hd0 := hd0) (X := X) (all := all) (o := o) (rest := []) (ks := []) (k := fun _ => some ()) (Q := fun (_ : Unit) e' σ => e' = .normal /\ σ = ⟨(d, rt) :: tm, [(c, .rows e2 sz2 m2 rs2)] ++ aq3 [] (by5 hp c)⟩) (hp := by5 hp c) (tm := tm) (hp2 := aq3 [] (by5 hp c)) (d := d) [] [(r1, c)] (dM1 := fun _ => rt) (rhp := fun _ => [(c, .rows e2 sz2 m2 rs2)]) (aO7 := []) (targs := targs) (an4 := an4) (n := n) hct (by
        unfold dt5
        rw [as8 hm (aG2 hg)]
        simp only [cd6 hm ho, ha, aS4, bn8, hdn, eS9]
        rw [show bq0 [] [(r1, c)] tm (by5 hp c) = true by grind [bq0,bb8,co1]]
        rfl) hmr rfl (fun _ => dw6) (fun _ => by simp [aS4, bT1, look]) (fun _ _ => B9.nil (E9.leaf ⟨rfl, rfl⟩))
  have h4 := key () rfl a w (hk.bM2 (fun _ _ h => h) (fun k b hkb => (Y5 hkb).2))
  have X8 : ∀ (e : Exit) a w, e ≠ .normal -> ¬ (X.post fun e σ => e = .normal /\ σ = ⟨(d, rt) :: tm, [(c, .rows e2 sz2 m2 rs2)] ++ aq3 [] (by5 hp c)⟩) e a w := fun e a w he ⟨σ, _, hx, _⟩ => he hx
  have hfin : ∀ a w, wpList X.P all (after X.P [] (X.post fun e σ => e = .normal /\ σ = ⟨(d, rt) :: tm, [(c, .rows e2 sz2 m2 rs2)] ++ aq3 [] (by5 hp c)⟩)) [] a w -> K a w := fun a w hq => by
    obtain ⟨σ, hs, _, rfl⟩ := hq
    refine hK a w (hs.bM2 (fun k u hk => by grind [pt]) (fun k b hkb => ?_))
    by_cases hkc : c = k
    all_goals simp_all [bh0,look,bI8,bf9,Ne.symm]
  unfold wpList at h4
  split at h4
  · rename_i hw
    rw [if_pos hw]
    rcases h4 with h4 | ⟨_, h4⟩
    · exact Oper.dV7 hfin (fun c a w => X8 _ a w (by simp)) (fun ⟨a, w, hx⟩ => X8 _ a w (by simp) hx) h4
    · obtain ⟨a, w, hx⟩ := h4
      exact absurd hx (X8 _ a w (by simp))
  grind
end
end Go.Pv
namespace Go.Pv
open Go.RowKit
def uni:List Nat->List Nat->List Nat
 |[],m=>m
 |x::l,m=>bif aE6 x m then uni l m else x::uni l m
def ek9 (acc:List (List Nat)):List Nat->List Nat
 |[]=>[]
 |d::r=>uni (d::(match acc[d]?with|some l=>l|none=>[])) (ek9 acc r)
def bm6:List Oper->List (List Nat)->List (List Nat)
 |[],acc=>acc
 |o::r,acc=>bm6 r (acc++[ek9 acc (aY3 o)])
theorem bf8 {k:Nat}:∀{l:List Nat},aE6 k l=true↔k∈l
 |[]=>by simp[aE6]
 |x::l=>by
  simp only[aE6,ca1]
  cases hb:br8 x k
  ·simp only[fk6,bf8]
   exact⟨.inr,fun h=>h.resolve_left fun e=>by simp_all⟩
  simp_all
def dn0 {k:Nat}:∀{l m:List Nat},k∈uni l m->k∈l\/k∈m
 |[],m,h=>.inr h
 |x::l,m,h=>by
  unfold uni at h
  cases hb:aE6 x m<;>rw[hb]at h<;>simp only[fk7,fk6]at h
  ·rcases ca1.1 h with rfl|h
   ·exact .inl (cq1 ..)
   ·exact(dn0 h).imp (bE0 _) id
  ·exact(dn0 h).imp (bE0 _) id
def dy1 {acc:List (List Nat)}{k:Nat}:∀{ds:List Nat},k∈ek9 acc ds->∃d∈ds,k=d\/∃l,acc[d]? =some l/\k∈l
 |[],h=>by simp[ek9]at h
 |d::r,h=>by
  rcases dn0 h with h|h
  ·grind
  ·obtain⟨d',h1,h2⟩:=dy1 h
   exact⟨d',bE0 _ h1,h2⟩
def cH7 {all:List Oper}{D:Nat->Prop}(hcl:∀(j:Nat) (o:Oper),all[j]? =some o->D j->∀k∈aY3 o,D k):∀(ops:List Oper) (acc:List (List Nat)),all.drop acc.length=ops->(∀(j:Nat) (l:List Nat) (o:Oper),acc[j]? =some l->all[j]? =some o->(∀k∈aY3 o,D k)->∀i∈l,D i)->
  ∀(j:Nat) (l:List Nat) (o:Oper),(bm6 ops acc)[j]? =some l->all[j]? =some o->(∀k∈aY3 o,D k)->∀i∈l,D i
 |[],acc,_,h=>h
 |o::r,acc,hd,h=>by
  refine cH7 hcl r (acc++[ek9 acc (aY3 o)]) (by rw[bd4,<-eh0,hd];rfl) fun j l o' hj ho' hk i hi=>?_
  rw[List.getElem?_append]at hj
  split at hj
  ·grind
  ·rename_i hlt
   have hj0:j-acc.length=0:=by
    grind
   rw[hj0]at hj
   simp only[dq2,aI6]at hj
   subst hj
   have hjl:j=acc.length:=by omega
   have ho:all[j]? =some o:=by grind [eB5]
   rw[ho]at ho'
   cases ho'
   obtain⟨d,hd',hx⟩:=dy1 hi
   grind
def bO5:Nat->List Nat->Bool
 |0,_=>true
 |n+1,l=>aE6 n l&&bO5 n l
theorem cj0:∀{n:Nat}{l:List Nat},bO5 n l=true->∀i,i<n->i∈l
 |0,_,_,i,hi=>by omega
 |n+1,l,h,i,hi=>by
  simp only[bO5,aK5]at h
  rcases cZ9 i n with c|c
  ·exact cj0 h.2 i c
  ·have:i=n:=by omega
   subst this;exact bf8.1 h.1
def cV9 (h:Nat):Nat->List Oper->List (List Nat)->Bool
 |_,[],_=>true
 |j,o::r,b::bs=>(aY3 o).all (fun k=>bi3 k j)&&(bi3 j h||bO5 j b)&&cV9 h (j+1) r bs
 |_,_,[]=>false
theorem aV6 {h:Nat}:∀{ops:List Oper}{bs:List (List Nat)}{j:Nat},cV9 h j ops bs=true->∀(i:Nat) (o:Oper),ops[i]? =some o->∃b,bs[i]? =some b/\(∀k∈aY3 o,k<j+i)/\(h<=j+i->∀x,x<j+i->x∈b)
 |[],_,_,_,i,o,ho=>by simp at ho
 |p::r,[],j,ht,i,o,ho=>by simp[cV9]at ht
 |p::r,b::bs,j,ht,i,o,ho=>by
  simp only[cV9,aK5,bt1,cH4]at ht
  cases i with
  |zero=>
   simp only[dq2,aI6]at ho
   subst ho
   refine⟨b,rfl,fun k hk=>bd6 (ht.1.1 k hk),fun hj x hx=>?_⟩
   rcases ht.1.2 with h1|h1
   ·have:=bd6 h1;omega
   grind [cj0]
  |succ i=>
   obtain⟨b',h1,h2,h3⟩:=aV6 ht.2 i o (by simpa using ho)
   exact⟨b',by simpa using h1,fun k hk=>by have:=h2 k hk;omega,fun hj x hx=>h3 (by omega) x (by omega)⟩
def bf7 (nt:Nat)(tm0:List (Nat×T))(hp0:List (Nat×G6)):List Oper->Bool
 |[]=>true
 |o::r=>(match o.dst with|some d=>(look tm0 d).isNone&&bi3 d nt&&r.all (fun o'=>match o'.dst with|some d'=>!Nat.beq d d'|none=>true)|none=>true)&&
   (match aR8 o.op,o.dst with|true,some d=>P1 d tm0&&O6 d hp0|_,_=>true)&&bf7 nt tm0 hp0 r
def dw1 {nt:Nat}{tm0:List (Nat×T)}{hp0:List (Nat×G6)}:∀{l:List Oper},bf7 nt tm0 hp0 l=true->cv9 nt tm0 l=true/\∀(i:Nat) (o:Oper) (d:Nat),l[i]? =some o->aR8 o.op=true->o.dst=some d->(P1 d tm0&&O6 d hp0)=true
 |[],_=>⟨rfl,fun i o d h=>by simp at h⟩
 |o::r,h=>by
  simp only[bf7,aK5]at h
  obtain⟨h1,h2⟩:=dw1 h.2
  refine⟨by simp only[cv9,aK5];grind,fun i o' d hi hn hd=>?_⟩
  grind
def cs7 (d:Nat):Option (Nat×G6)->Bool
 |some (i,b)=>br8 i d||bj4 d b
 |none=>false
def cC4 (d j:Nat):List (T×Option (Nat×G6))->List (List Nat)->Nat->Bool
 |[],_,_=>true
 |(V,N)::r,b::bs,i=>(br8 i j||(!names d V&& !cs7 d N)||aE6 j b)&&cC4 d j r bs (i+1)
 |_::_,[],_=>false
def co0 (vs:List (T×Option (Nat×G6)))(bs:List (List Nat)):Nat->List Oper->Bool
 |_,[]=>true
 |j,o::r=>(match aR8 o.op,o.dst with|true,some d=>cC4 d j vs bs 0|_,_=>true)&&co0 vs bs (j+1) r
def bW6 {d j:Nat}:∀{vs:List (T×Option (Nat×G6))}{bs:List (List Nat)}{i0:Nat},cC4 d j vs bs i0=true->∀(i:Nat) (V:T) (N:Option (Nat×G6)),vs[i]? =some (V,N)->i0+i≠j->(names d V=false/\cs7 d N=false)\/∃b,bs[i]? =some b/\j∈b
 |[],_,_,_,i,V,N,hi,_=>by simp at hi
 |(V',N')::r,[],_,h,_,_,_,_,_=>by simp[cC4]at h
 |(V',N')::r,b::bs,i0,h,i,V,N,hi,hne=>by
  simp only[cC4,aK5,cH4,bG5]at h
  cases i with
  |zero=>
   simp only[dq2,aI6,ba7]at hi
   obtain⟨rfl,rfl⟩:=hi
   rcases h.1 with(h1|h1)|h1
   ·simp_all
   ·grind
   ·exact .inr ⟨b,rfl,bf8.1 h1⟩
  |succ i=>
   have:=bW6 h.2 i V N (by simpa using hi) (by omega)
   simpa using this
def bS4 {vs:List (T×Option (Nat×G6))}{bs:List (List Nat)}:∀{ops:List Oper}{j0:Nat},co0 vs bs j0 ops=true->∀(j:Nat) (o:Oper) (d:Nat),ops[j]? =some o->aR8 o.op=true->o.dst=some d->cC4 d (j0+j) vs bs 0=true
 |[],_,_,j,o,d,hj,_,_=>by simp at hj
 |p::r,j0,h,j,o,d,hj,hn,hd=>by
  simp only[co0,aK5]at h
  cases j with
  |zero=>
   grind
  |succ j=>
   have:=bS4 h.2 j o d (by grind) hn hd
   grind
def ej8 (tm0:List (Nat×T))(hp0:List (Nat×G6))(vs:List (T×Option (Nat×G6)))(bs:List (List Nat)):Nat->List Oper->Bool
 |_,[]=>true
 |j,o::r=>(match cK6 o (match vs[j]?with|some (_,N)=>N|none=>none)with|some id=>P1 id tm0&&(nfB id hp0&&cC4 id j vs bs 0)|none=>true)&&ej8 tm0 hp0 vs bs (j+1) r
def cK7 {tm0:List (Nat×T)}{hp0:List (Nat×G6)}{vs:List (T×Option (Nat×G6))}{bs:List (List Nat)}:∀{ops:List Oper}{j0:Nat},ej8 tm0 hp0 vs bs j0 ops=true->∀(j:Nat) (o:Oper) (V:T) (N:Option (Nat×G6)) (id:Nat),ops[j]? =some o->vs[j0+j]? =some (V,N)->cK6 o N=some id->P1 id tm0=true/\nfB id hp0=true/\cC4 id (j0+j) vs bs 0=true
 |[],_,_,j,o,V,N,id,hj,_,_=>by simp at hj
 |p::r,j0,h,j,o,V,N,id,hj,hv,hi=>by
  simp only[ej8,aK5]at h
  cases j with
  |zero=>
   grind
  |succ j=>
   have:=cK7 h.2 j o V N id (by grind) (by grind) hi
   grind
def bM5 (D:Nat->Bool):Nat->List (T×Option (Nat×G6))->List (Nat×G6)->List (Nat×G6)
 |_,[],hp=>hp
 |i,(_,N)::r,hp=>bM5 D (i+1) r (bif D i then bh0 N hp else hp)
def vis (bs:List (List Nat))(ws:List (Nat×Nat))(i:Nat)(b:List Nat)(id:Nat):Bool:=
 ws.all fun p=>!Nat.beq p.2 id||(br8 p.1 i||(aE6 p.1 b||(match bs[p.1]?with|some bj=>aE6 i bj|none=>false)))
def ea0 (bs:List (List Nat))(ws:List (Nat×Nat))(i:Nat)(b:List Nat):List (Nat×G6)->List (Nat×G6)
 |[]=>[]
 |(k,c)::r=>bif vis bs ws i b k then(k,c)::ea0 bs ws i b r else ea0 bs ws i b r
def eb9 (bs:List (List Nat))(ws:List (Nat×Nat))(vs:List (T×Option (Nat×G6)))(hp0:List (Nat×G6))(i:Nat)(b:List Nat):List (Nat×G6):=
 ea0 bs ws i b (bM5 (fun j=>aE6 j b) 0 vs hp0)
def eq1 (vs:List (T×Option (Nat×G6)))(hp0:List (Nat×G6)):List (Nat×G6):=bM5 (fun _=>true) 0 vs hp0
def inW (i id:Nat):List (Nat×Nat)->Bool
 |[]=>false
 |p::r=>(br8 p.1 i&&br8 p.2 id)||inW i id r
def cD4 (ws:List (Nat×Nat)):Nat->List (T×Option (Nat×G6))->Bool
 |_,[]=>true
 |i,(_,some (id,_))::r=>inW i id ws&&cD4 ws (i+1) r
 |i,(_,none)::r=>cD4 ws (i+1) r
def cS6 (bs:List (List Nat)):List (Nat×Nat)->Bool
 |[]=>true
 |p::r=>r.all (fun q=>!Nat.beq p.2 q.2||(br8 p.1 q.1||((bi3 p.1 q.1&&(match bs[q.1]?with|some b=>aE6 p.1 b|none=>false))||(bi3 q.1 p.1&&(match bs[p.1]?with|some b=>aE6 q.1 b|none=>false)))))&&cS6 bs r
def cn4 {bs:List (List Nat)}{ws:List (Nat×Nat)}{i:Nat}{b:List Nat}:∀{hp:List (Nat×G6)}{k:Nat}{c:G6},look (ea0 bs ws i b hp) k=some c->vis bs ws i b k=true/\look hp k=some c
 |[],k,c,h=>by simp[ea0,look]at h
 |(j,x)::r,k,c,h=>by
  unfold ea0 at h
  by_cases hj:j=k
  ·subst hj
   cases hv:vis bs ws i b j<;>rw[hv]at h<;>simp only[fk7,fk6]at h
   ·have:=cn4 h
    grind
   ·exact⟨rfl,by simpa[look]using h⟩
  ·rw[L7 hj]
   cases hv:vis bs ws i b j<;>rw[hv]at h<;>simp only[fk7,fk6]at h
   ·exact cn4 h
   ·rw[L7 hj]at h;exact cn4 h
theorem cw4 {N:Option (Nat×G6)}{hp:List (Nat×G6)}{k:Nat}(h:∀b,N≠some (k,b)):look (bh0 N hp) k=look hp k:=by
 cases N with
 |none=>rfl
 |some p=>
  obtain⟨i,b⟩:=p
  have:i≠k:=fun e=>h b (by rw[e])
  exact L7 this
def bH0 {D D':Nat->Bool}{id:Nat}:∀{vs:List (T×Option (Nat×G6))}{k:Nat}{hp X8:List (Nat×G6)},look hp id=look X8 id->(∀j V b,vs[j]? =some (V,some (id,b))->D (k+j)=D' (k+j))->look (bM5 D k vs hp) id=look (bM5 D' k vs X8) id
 |[],_,_,_,h,_=>h
 |(V,N)::r,k,hp,X8,h,hd=>by
  unfold bM5
  refine bH0 ?_ (fun j V' b hj=>by have:=hd (j+1) V' b (by grind);grind)
  by_cases hN:∃b,N=some (id,b)
  ·obtain⟨b,rfl⟩:=hN
   have:=hd 0 V b rfl
   rw[eh1]at this
   grind [bh0,look]
  ·have hn:∀b,N≠some (id,b):=fun b e=>hN ⟨b,e⟩
   cases D k<;>cases D' k<;>simp only[fk7,fk6]
   all_goals grind [cw4]
theorem cs3 {D:Nat->Bool}{id:Nat}:∀{vs:List (T×Option (Nat×G6))}{k:Nat}{hp:List (Nat×G6)},(∀j V b,vs[j]? =some (V,some (id,b))->D (k+j)=false)->look (bM5 D k vs hp) id=look hp id
 |[],_,_,_=>rfl
 |(V,N)::r,k,hp,hd=>by
  unfold bM5
  rw[cs3 (fun j V' b hj=>by have:=hd (j+1) V' b (by grind);grind)]
  cases hk:D k
  ·rfl
  ·exact cw4 fun b e=>by have:=hd 0 V b (by rw[e];rfl);grind
theorem da8 {D:Nat->Bool}{id:Nat}{V:T}{b:G6}:∀{vs:List (T×Option (Nat×G6))}{i k:Nat}{hp:List (Nat×G6)},vs[i]? =some (V,some (id,b))->D (k+i)=true->(∀j V b,i<j->vs[j]? =some (V,some (id,b))->D (k+j)=false)->look (bM5 D k vs hp) id=some b
 |[],i,_,_,h,_,_=>by simp at h
 |(V',N)::r,0,k,hp,h,hD,hl=>by
  simp only[dq2,aI6,ba7]at h
  obtain⟨rfl,rfl⟩:=h
  rw[eh1]at hD
  unfold bM5
  rw[hD]
  rw[cs3 (fun j V2 b2 hj=>by have:=hl (j+1) V2 b2 (by omega) (by grind);grind)]
  simp[bh0,look]
 |(V',N)::r,i+1,k,hp,h,hD,hl=>by
  unfold bM5
  exact da8 (by simpa using h) (by rwa[ef0,Nat.add_comm 1 i]) (fun j V2 b2 hij hj=>by have:=hl (j+1) V2 b2 (by omega) (by simpa using hj);rwa[ef0,Nat.add_comm 1 j])
theorem dW0 {D:Nat->Bool}{i:Nat}:∀{vs:List (T×Option (Nat×G6))}{k:Nat}{hp:List (Nat×G6)},(∀j,i<=j->D (k+j)=false)->bM5 D k (vs.take i) hp=bM5 D k vs hp:=by
 induction i with
 |zero=>
  intro vs
  induction vs with
  |nil=>simp
  |cons x r ih=>
   intro k hp h
   obtain⟨V,N⟩:=x
   have h0:=h 0 (bO2 _)
   rw[eh1]at h0
   have:=ih (k:=k+1) (hp:=hp) (fun j _=>by have:=h (j+1) (by omega);grind)
   grind [bM5]
 |succ i ih=>
  intro vs k hp h
  cases vs with
  |nil=>rfl
  |cons x r=>
   obtain⟨V,N⟩:=x
   simp only[List.take_succ_cons,bM5]
   exact ih (fun j hj=>by have:=h (j+1) (by omega);grind)
def dS1 {i id:Nat}:∀{ws:List (Nat×Nat)},inW i id ws=true->(i,id)∈ws
 |[],h=>by cases h
 |p::r,h=>by
  simp only[inW,cH4,aK5]at h
  rcases h with⟨h1,h2⟩|h
  ·have:=bq8 h1
   have:=bq8 h2
   obtain⟨a,b⟩:=p
   simp_all
  ·exact bE0 _ (dS1 h)
theorem bX3 {ws:List (Nat×Nat)}:∀{vs:List (T×Option (Nat×G6))}{k:Nat},cD4 ws k vs=true->∀i V id b,vs[i]? =some (V,some (id,b))->(k+i,id)∈ws
 |[],_,_,i,V,id,b,h=>by simp at h
 |(V',N)::r,k,hu,i,V,id,b,h=>by
  have hr:cD4 ws (k+1) r=true/\∀p,N=some p->inW k p.1 ws=true:=by
   cases N with
   |none=>grind [cD4]
   |some p=>
    simp_all[cD4]
  cases i with
  |zero=>
   simp only[dq2,aI6,ba7]at h
   obtain⟨rfl,rfl⟩:=h
   exact dS1 (hr.2 _ rfl)
  |succ i=>
   have:=bX3 hr.1 i V id b (by grind)
   grind
theorem cS7 {bs:List (List Nat)}:∀{ws:List (Nat×Nat)},cS6 bs ws=true->∀i j id,(i,id)∈ws->(j,id)∈ws->i<j->∃b,bs[j]? =some b/\i∈b
 |[],_,i,j,id,h,_,_=>by cases h
 |p::r,hp,i,j,id,hi,hj,hij=>by
  simp only[cS6,aK5,bt1]at hp
  have key:∀q∈r,p.2=q.2->p.1≠q.1->(p.1<q.1/\∃b,bs[q.1]? =some b/\p.1∈b)\/(q.1<p.1/\∃b,bs[p.1]? =some b/\q.1∈b):=by
   intro q hq he hne
   have:=hp.1 q hq
   simp only[cH4,bG5,aK5]at this
   rcases this with h1|h1|h1|h1
   ·simp_all
   ·simp_all
   ·refine .inl ⟨bd6 h1.1,?_⟩
    grind [bf8]
   ·refine .inr ⟨bd6 h1.1,?_⟩
    grind [bf8]
  rcases ca1.1 hi with e1|hi'
  ·rcases ca1.1 hj with e2|hj'
   ·rw[<-e1]at e2;cases e2;omega
   ·rcases key _ hj' (by rw[<-e1]) (by rw[<-e1];simp;omega)with h|h
    ·rw[<-e1]at h;exact h.2
    ·have:=h.1;rw[<-e1]at this;simp at this;omega
  ·rcases ca1.1 hj with e2|hj'
   ·rcases key _ hi' (by rw[<-e2]) (by rw[<-e2];simp;omega)with h|h
    ·have:=h.1;rw[<-e2]at this;simp at this;omega
    ·rw[<-e2]at h;exact h.2
   ·exact cS7 hp.2 i j id hi' hj' hij
def cr9 (X:Cx)(all:Array Oper)(bs:List (List Nat))(ws:List (Nat×Nat))(tm0:List (Nat×T))(hp0:List (Nat×G6))(vs:List (T×Option (Nat×G6))):Prop:=
 ∀i V N o b,vs[i]? =some (V,N)->all.toList[i]? =some o->bs[i]? =some b->aj0 X all o (minOf all.toList ((vs.take i).map (·.1)) tm0 (aY3 o)) (eb9 bs ws (vs.take i) hp0 i b) V N
theorem bB5 {listed:Array Bool}{i n:Nat}(hs:listed.size=n)(hi:i<n):(listed.setIfInBounds i true).getD i false=true:=by
 simp_all
section
variable {X:Cx} {all:Array Oper} {tm0:List (Nat × T)} {hp0:List (Nat × G6)} {vs:List (T × Option (Nat × G6))} {ws:List (Nat × Nat)}
def dD2 {P:Program}{Q:Exit->Act->World->Prop}{h:Nat}(ht:cV9 h 0 all.toList (bm6 all.toList [])=true):∀(fuel m:Nat) (listed:Array Bool) (a:Act) (w:World),h<=m->m+fuel=all.size->listed.size=all.size->
  (∀j,j<all.size->listed.getD j false=decide (j<m))->wpList P all Q (all.toList.drop m) a w->wpAny P .any all Q fuel listed a w:=by
 intro fuel
 induction fuel with
 |zero=>
  intro m listed a w hm hf hs hl hw
  have cQ7:all.toList.drop m=[]:=List.drop_eq_nil_of_le (by simp;omega)
  rw[cQ7]at hw
  refine⟨?_,hw⟩
  apply List.eq_nil_iff_forall_not_mem.2
  grind [mem_ready]
 |succ fuel ih=>
  intro m listed a w hm hf hs hl hw
  have hmn:m<all.size:=by omega
  have hmo:all[m]? =some all[m]:=Array.getElem?_eq_getElem hmn
  have hcl:∀(j:Nat) (o:Oper),all.toList[j]? =some o->listed.getD j false=true->∀k∈aY3 o,listed.getD k false=true:=by
   grind [aV6]
  have only:∀j∈Region.ready .any all listed,j=m:=by
   intro j hj
   obtain⟨h1,o,ho,hd⟩:=mem_ready.1 hj
   have hjn:j<all.size:=(dq5.1 ho).1
   have h2:listed.getD j true=listed.getD j false:=by simp[hs,hjn]
   rw[h2,hl j hjn]at h1
   simp at h1
   rcases cZ9 m j with hlt|hge
   ·exfalso
    have ho':all.toList[j]? =some o:=by simpa using ho
    obtain⟨b,hb,_,h3⟩:=aV6 ht j o ho'
    have:=cH7 (D:=fun k=>listed.getD k false=true) hcl all.toList [] (by simp) (fun j l o hj=>by simp at hj) j b o hb ho' (bI6 hd) m (h3 (by omega) m (by omega))
    rw[hl m hmn]at this
    simp at this
   ·omega
  have hin:m∈Region.ready .any all listed:=by
   have h2:listed.getD m true=false:=by
    have h2:listed.getD m true=listed.getD m false:=by simp[hs,hmn]
    rw[h2,hl m hmn];simp
   refine mem_ready.2 ⟨h2,all[m],hmo,fun e he hb=>?_⟩
   have hk:e.on∈aY3 all[m]:=by
    simp only[aY3,cK0,dE3]
    exact⟨e,⟨by simpa using he,hb⟩,rfl⟩
   obtain⟨_,_,h3,_⟩:=aV6 ht m all[m] (by simp)
   have hlt:=h3 e.on hk
   rw[hl e.on (by omega)]
   simp;omega
  refine⟨fun h0=>(by rw[h0]at hin;cases hin),fun i hi=>?_⟩
  have:=only i hi
  subst this
  have hdrop:all.toList.drop i=all[i]::all.toList.drop (i+1):=by
   rw[List.drop_eq_getElem_cons (by simpa using hmn)];simp
  rw[hdrop]at hw
  unfold wpList at hw
  unfold wpOp
  simp only[hmo]
  have next:∀a w,wpList P all Q (all.toList.drop (i+1)) a w->wpAny P .any all Q fuel (listed.setIfInBounds i true) a w:=fun a w hw=>
   ih (i+1) _ a w (by omega) (by omega) (by simp[hs]) (fun j hj=>by
    by_cases c:i=j
    ·subst c;simp[hs,hmn]
    ·rw[getD_set_ne false c,hl j hj];simp;omega) hw
  split at hw
  ·rename_i hg
   rw[if_pos hg]
   exact hw.imp (Oper.wp_mono next) id
  grind
def cB1 {d:Nat}{hp:List (Nat×G6)}{N:Option (Nat×G6)}(h:O6 d hp=true)(hn:cs7 d N=false):O6 d (bh0 N hp)=true:=by
 cases N with
 |none=>exact h
 |some p=>
  grind [cs7,bh0,O6]
def et8 {d:Nat}{hp:List (Nat×G6)}{N:Option (Nat×G6)}(h:nfB d hp=true)(hn:cs7 d N=false):nfB d (bh0 N hp)=true:=by
 cases N with
 |none=>exact h
 |some p=>
  grind [cs7,bh0,nfB]
def er1 {Q:Exit->Act->World->Prop}{h:Nat}(hv:vs.length=h)(hle:h<=all.size)(ht:cV9 h 0 all.toList (bm6 all.toList [])=true)(hh:cv9 X.nt tm0 (all.toList.take h)=true)
  (hnm:co0 vs (bm6 all.toList []) 0 (all.toList.take h)=true) (hus:cD4 ws 0 vs=true) (hps:cS6 (bm6 all.toList []) ws=true) (has:ej8 tm0 hp0 vs (bm6 all.toList []) 0 (all.toList.take h)=true) (steps:cr9 X all (bm6 all.toList []) ws tm0 hp0 vs)
  (rest:∀a w,Sim X.w0 X.L X.nt ⟨ce5 all.toList (vs.map (·.1)) tm0,eq1 vs hp0⟩ a w->wpList X.P all Q (all.toList.drop h) a w):
  ∀(fuel:Nat) (listed:Array Bool) (tm:List (Nat×T)) (hp:List (Nat×G6)) (a:Act) (w:World),Sim X.w0 X.L X.nt ⟨tm,hp⟩ a w->more tm0 tm->aY7 (bM5 (fun j=>listed.getD j false) 0 vs hp0) hp->listed.size=all.size->unl all.size listed=fuel->
   (∀j,h<=j->j<all.size->listed.getD j false=false)->(∀(j:Nat) (o:Oper),all.toList[j]? =some o->listed.getD j false=true->∀k∈aY3 o,listed.getD k false=true)->
   (∀(i:Nat) (o:Oper) (V:T) (N:Option (Nat×G6)) (d:Nat),listed.getD i false=true->all.toList[i]? =some o->vs[i]? =some (V,N)->o.dst=some d->look tm d=some V)->
   (∀(i:Nat) (o:Oper) (d:Nat),i<h->listed.getD i false=false->all.toList[i]? =some o->aR8 o.op=true->o.dst=some d->P1 d tm=true/\O6 d hp=true)->
   (∀(i:Nat) (o:Oper) (V:T) (N:Option (Nat×G6)) (id:Nat),i<h->listed.getD i false=false->all.toList[i]? =some o->vs[i]? =some (V,N)->cK6 o N=some id->P1 id tm=true/\nfB id hp=true)->wpAny X.P .any all Q fuel listed a w:=by
 have bget:∀(j:Nat) (o:Oper),all.toList[j]? =some o->∃b,(bm6 all.toList [])[j]? =some b:=fun j o ho=>by
  grind [aV6]
 have fin:∀(listed:Array Bool) (tm:List (Nat×T)) (hp:List (Nat×G6)) (a:Act) (w:World),Sim X.w0 X.L X.nt ⟨tm,hp⟩ a w->more tm0 tm->aY7 (bM5 (fun j=>listed.getD j false) 0 vs hp0) hp->(∀j,j<h->listed.getD j false=true)->
   (∀(i:Nat) (o:Oper) (V:T) (N:Option (Nat×G6)) (d:Nat),listed.getD i false=true->all.toList[i]? =some o->vs[i]? =some (V,N)->o.dst=some d->look tm d=some V)->
   wpList X.P all Q (all.toList.drop h) a w:=fun listed tm hp a w hk hm hmh bN4 hsl=>
  rest a w (hk.bM2 (cB2 hm _ _ fun j o V d ho hV hd=>by
    grind)
   (fun k c hk=>hmh k c (by
    rw[<-hk]
    refine bH0 rfl fun j V b hj=>?_
    grind)))
 intro fuel
 induction fuel with
 |zero=>
  intro listed tm hp a w hk hm hmh hs hu htl hcl hsl _ _
  have bN4:=eB4 hu
  have hh0:h=all.size:=by
   rcases cZ9 h all.size with h1|h1
   ·have:=htl h (bO2 _) h1;rw[bN4 h h1]at this;cases this
   ·omega
  exact dD2 ht 0 h listed a w (bO2 _) (by omega) hs (fun j hj=>by rw[bN4 j hj];simp;omega) (fin listed tm hp a w hk hm hmh (fun j hj=>bN4 j (by omega)) hsl)
 |succ fuel ih=>
  intro listed tm hp a w hk hm hmh hs hu htl hcl hsl hfr hap
  by_cases hdone:∀j,j<h->listed.getD j false=true
  ·have hl:∀j,j<all.size->listed.getD j false=decide (j<h):=fun j hj=>by
    by_cases c:j<h
    ·rw[hdone j c];simp[c]
    ·rw[htl j (by omega) hj];simp[c]
   have hcount:h+(fuel+1)=all.size:=by
    have key:∀m,m<=all.size->((List.range m).filter fun j=>!listed.getD j false).length=m-h:=by
     intro m
     induction m with
     |zero=>intro _;simp
     |succ m ihm=>
      intro hm'
      rw[List.range_succ,List.filter_append,bd4,ihm (by omega)]
      have:=hl m (by omega)
      by_cases c:m<h
      ·simp only[List.filter_cons,this,c,decide_true,aX5,Bool.false_eq_true,if_false,eS3,cJ8];omega
      ·simp only[List.filter_cons,this,c,decide_false,Bool.not_false,if_true,eS3,List.length_cons,cJ8];omega
    have:=key all.size (bO2 _)
    unfold unl at hu
    omega
   exact dD2 ht (fuel+1) h listed a w (bO2 _) hcount hs hl (fin listed tm hp a w hk hm hmh hdone hsl)
  ·have hex:∃j,j<h/\listed.getD j false=false:=by
    refine Classical.byContradiction fun hn=>hdone fun j hj=>?_
    cases hb:listed.getD j false
    ·exact absurd ⟨j,hj,hb⟩ hn
    ·rfl
   obtain⟨j0,hj0,hl0⟩:=hex
   have bef:∀(j:Nat) (o:Oper) (b:List Nat),all.toList[j]? =some o->(bm6 all.toList [])[j]? =some b->(∀k∈aY3 o,listed.getD k false=true)->∀i∈b,listed.getD i false=true:=fun j o b ho hb hd=>
    cH7 (D:=fun k=>listed.getD k false=true) hcl all.toList [] (by simp) (fun j l o hj=>by simp at hj) j b o hb ho hd
   have ee2:∀i∈Region.ready .any all listed,i<h/\i<all.size/\listed.getD i false=false/\∃o,all[i]? =some o/\∀k∈aY3 o,listed.getD k false=true:=by
    intro i hi
    obtain⟨h1,o,ho,hd⟩:=mem_ready.1 hi
    have hin:i<all.size:=(dq5.1 ho).1
    have h2:listed.getD i true=listed.getD i false:=by simp[hs,hin]
    rw[h2]at h1
    refine⟨?_,hin,h1,o,ho,bI6 hd⟩
    refine Classical.byContradiction fun hnh=>?_
    have ho':all.toList[i]? =some o:=by simpa using ho
    obtain⟨b,hb,_,h3⟩:=aV6 ht i o ho'
    have:=bef i o b ho' hb (bI6 hd) j0 (h3 (by omega) j0 (by omega))
    rw[hl0]at this
    cases this
   have notEmpty:Region.ready .any all listed≠[]:=by
    have cw0:∃j,j<all.size/\listed.getD j false=false/\∀k,k<j->listed.getD k false=true:=by
     have:∀n,(∃j,j<n/\listed.getD j false=false)->∃j,j<n/\listed.getD j false=false/\∀k,k<j->listed.getD k false=true:=by
      intro n
      induction n with
      |zero=>rintro⟨j,hj,_⟩;omega
      |succ n ihn=>
       rintro⟨j,hj,hb⟩
       by_cases hx:∃j,j<n/\listed.getD j false=false
       ·obtain⟨j',h1,h2,h3⟩:=ihn hx
        exact⟨j',by omega,h2,h3⟩
       ·have:j=n:=by
         rcases cZ9 j n with c|c
         ·exact absurd ⟨j,c,hb⟩ hx
         ·omega
        subst this
        refine⟨j,hj,hb,fun k hk=>?_⟩
        cases hc:listed.getD k false
        ·exact absurd ⟨k,hk,hc⟩ hx
        ·rfl
     obtain⟨j,h1,h2,h3⟩:=this h ⟨j0,hj0,hl0⟩
     exact⟨j,by omega,h2,h3⟩
    obtain⟨j,hj,hb,hk⟩:=cw0
    have hin:j∈Region.ready .any all listed:=by
     have hjo:all[j]? =some all[j]:=Array.getElem?_eq_getElem hj
     have h2:listed.getD j true=false:=by rw[<-hb];simp[hs,hj]
     refine mem_ready.2 ⟨h2,all[j],hjo,fun e he hbd=>?_⟩
     have hke:e.on∈aY3 all[j]:=by
      simp only[aY3,cK0,dE3]
      exact⟨e,⟨by simpa using he,hbd⟩,rfl⟩
     obtain⟨_,_,h3,_⟩:=aV6 ht j all[j] (by simp)
     exact hk e.on (by have:=h3 e.on hke;omega)
    intro h0
    rw[h0]at hin
    cases hin
   refine⟨fun h0=>absurd h0 notEmpty,fun i hi=>?_⟩
   obtain⟨hih,hin,hli,o,ho,hd⟩:=ee2 i hi
   have ho':all.toList[i]? =some o:=by simpa using ho
   obtain⟨b,hb⟩:=bget i o ho'
   have hbl:=bef i o b ho' hb hd
   have hvi:vs[i]? =some (vs[i]'(by omega)):=aX4 (by omega)
   generalize vs[i]'(by omega)=p at hvi
   obtain⟨V,N⟩:=p
   have hti:(all.toList.take h)[i]? =some o:=by rw[dJ8,if_pos hih];exact ho'
   have tk:∀j V N,(vs.take i)[j]? =some (V,N)->vs[j]? =some (V,N):=fun j V N hj=>by
    rw[dJ8]at hj
    split at hj
    ·exact hj
    ·cases hj
   have cw0:more (minOf all.toList ((vs.take i).map (·.1)) tm0 (aY3 o)) tm:=cR6 hm _ fun j oj Vj dj hj hoj hVj hdj=>by
    rw[dr2]at hVj
    cases hvj:(vs.take i)[j]?with
    |none=>rw[hvj]at hVj;cases hVj
    |some p=>
     rw[hvj]at hVj
     simp only[bN9,aI6]at hVj
     subst hVj
     exact hsl j oj p.1 p.2 dj (hd j hj) hoj (tk j _ _ hvj) hdj
   have hblt:∀x∈b,x<i:=cH7 (D:=fun x=>x<i) (fun j oj hoj hj k hk=>by
     obtain⟨_,_,h2,_⟩:=aV6 ht j oj hoj
     have:=h2 k hk
     omega) all.toList [] (by simp) (fun j l o hj=>by simp at hj) i b o hb ho' (fun k hk=>by
     obtain⟨_,_,h2,_⟩:=aV6 ht i o ho'
     have:=h2 k hk
     omega)
   have hbi:∀j,i<=j->aE6 j b=false:=fun j hj=>by
    cases hx:aE6 j b
    ·rfl
    ·have:=hblt j (bf8.1 hx);omega
   have hlater:∀j bj,(bm6 all.toList [])[j]? =some bj->i∈bj->listed.getD j false=false:=fun j bj hbj hib=>by
    cases hx:listed.getD j false
    ·rfl
    ·exfalso
     have hjn:j<all.size:=by
      rcases cZ9 j all.size with c|c
      ·exact c
      ·have:listed.getD j false=false:=by simp[hs,c]
       rw[hx]at this;cases this
     have hoj:all.toList[j]? =some all[j]:=by simp
     have:=bef j all[j] bj hoj hbj (hcl j _ hoj hx) i hib
     rw[hli]at this;cases this
   have hminH:aY7 (eb9 (bm6 all.toList []) ws (vs.take i) hp0 i b) hp:=fun k c hk=>by
    obtain⟨hv1,hl1⟩:=cn4 hk
    rw[dW0 (fun j hj=>by rw[da1];exact hbi j hj)]at hl1
    refine hmh k c ?_
    rw[<-hl1]
    refine bH0 rfl fun j V' b' hj=>?_
    rw[da1]
    have hw:=bX3 hus j V' k b' hj
    rw[da1]at hw
    have hx:=bt1.1 hv1 _ hw
    simp only[cG4,aX5,Bool.false_or,cH4]at hx
    rcases hx with hx|hx|hx
    ·have:=bq8 hx
     subst this
     rw[hli,hbi j (bO2 _)]
    ·rw[hx];exact hbl j (bf8.1 hx)
    ·split at hx
     ·rename_i bj hbj
      have h1:=hlater j bj hbj (bf8.1 hx)
      rw[h1]
      cases hy:aE6 j b
      ·rfl
      ·have:=hbl j (bf8.1 hy);rw[h1]at this;cases this
     ·cases hx
   have hacc:aY7 (bM5 (fun j=>(listed.setIfInBounds i true).getD j false) 0 vs hp0) (bh0 N hp):=fun k c hk=>by
    by_cases hN:∃c',N=some (k,c')
    ·obtain⟨c',rfl⟩:=hN
     rw[da8 hvi (by rw[da1];exact bB5 hs hin) (fun j V2 b2 hij hj=>by
      rw[da1,getD_set_ne false (by omega)]
      have w1:=bX3 hus i V k c' hvi
      have w2:=bX3 hus j V2 k b2 hj
      rw[da1]at w1 w2
      obtain⟨bj,hbj,hib⟩:=cS7 hps i j k w1 w2 hij
      exact hlater j bj hbj hib)]at hk
     cases hk
     simp[bh0,look]
    ·rw[cw4 (fun c' e=>hN ⟨c',e⟩)]
     refine hmh k c ?_
     rw[<-hk]
     refine bH0 rfl fun j V' b' hj=>?_
     rw[da1,getD_set_ne false]
     intro e;subst e
     rw[hvi]at hj;cases hj
     exact hN ⟨b',rfl⟩
   unfold wpOp
   simp only[ho]
   have hstep:=steps i V N o b hvi ho' hb tm hp cw0 hminH ⟨fun hn d bn8=>by
     have:=hfr i o d hih hli ho' hn bn8
     rw[this.1,this.2];rfl,fun id hid=>hap i o V N id hih hli ho' hvi hid⟩ (fun d bn8=>(bv9 hh i i o o d d hti hti bn8 bn8).1.2|>fun h=>Nat.ble_eq_true_of_le h) a w hk
    (wpAny X.P .any all Q fuel (listed.setIfInBounds i true)) Q (fun a' w' hk'=>by
    have hsz:(listed.setIfInBounds i true).size=all.size:=by simp[hs]
    have hun:unl all.size (listed.setIfInBounds i true)=fuel:=by have:=eM6 (listed:=listed) hin hs hli;omega
    have htl':∀j,h<=j->j<all.size->(listed.setIfInBounds i true).getD j false=false:=fun j h1 h2=>by rw[getD_set_ne false (by omega)];exact htl j h1 h2
    have hcl':∀(j:Nat) (o:Oper),all.toList[j]? =some o->(listed.setIfInBounds i true).getD j false=true->∀k∈aY3 o,(listed.setIfInBounds i true).getD k false=true:=fun j oj hoj hlj k hk=>by
     by_cases c:i=j
     ·subst c
      rw[ho']at hoj;cases hoj
      exact getD_set_true (hd k hk)
     ·rw[getD_set_ne false c]at hlj
      exact getD_set_true (hcl j oj hoj hlj k hk)
    have hjh:∀j,j<all.size->listed.getD j false=true->j<h:=fun j hj hlj=>by
     refine Classical.byContradiction fun hn=>?_
     rw[htl j (by omega) hj]at hlj;cases hlj
    have jlt:∀(j:Nat) (oj:Oper),all.toList[j]? =some oj->j<all.size:=fun j oj hoj=>by have:=(List.getElem?_eq_some_iff.1 hoj).1;simpa using this
    have hap':∀(j:Nat) (oj:Oper) (Vj:T) (Nj:Option (Nat×G6)) (id:Nat),j<h->(listed.setIfInBounds i true).getD j false=false->all.toList[j]? =some oj->vs[j]? =some (Vj,Nj)->cK6 oj Nj=some id->(P1 id tm=true/\names id V=false)/\nfB id (bh0 N hp)=true:=fun j oj Vj Nj id hj hlj hoj hvj hid=>by
     by_cases c:i=j
     ·subst c
      rw[bB5 hs hin]at hlj;cases hlj
     ·rw[getD_set_ne false c]at hlj
      obtain⟨f1,f2⟩:=hap j oj Vj Nj id hj hlj hoj hvj hid
      obtain⟨_,_,hnb⟩:=cK7 has j oj Vj Nj id (by rw[dJ8,if_pos hj];exact hoj) (by rw[da1];exact hvj) hid
      rw[da1]at hnb
      rcases bW6 hnb i V N hvi (by omega)with⟨n1,n2⟩|⟨b',hb',hjb⟩
      ·exact⟨⟨f1,n1⟩,et8 f2 n2⟩
      ·rw[hb]at hb';cases hb'
       have:=hbl j hjb
       rw[hlj]at this;cases this
    cases bn8:o.dst with
    |none=>
     simp only[pt,bn8]at hk'
     refine ih _ tm _ _ w' hk' hm hacc hsz hun htl' hcl' (fun j oj Vj Nj dj hlj hoj hVj hdj=>?_) (fun j oj dj hj hlj hoj hnj hdj=>?_) (fun j oj Vj Nj bid hj hlj hoj hvj hid=>(hap' j oj Vj Nj bid hj hlj hoj hvj hid).imp (·.1) (fun x=>x))
     ·by_cases c:i=j
      ·subst c
       rw[ho']at hoj;cases hoj
       rw[bn8]at hdj;cases hdj
      ·rw[getD_set_ne false c]at hlj
       exact hsl j oj Vj Nj dj hlj hoj hVj hdj
     ·by_cases c:i=j
      ·subst c
       rw[ho']at hoj;cases hoj
       rw[bn8]at hdj;cases hdj
      ·rw[getD_set_ne false c]at hlj
       obtain⟨f1,f2⟩:=hfr j oj dj hj hlj hoj hnj hdj
       have hnb:=bS4 hnm j oj dj (by rw[dJ8,if_pos hj];exact hoj) hnj hdj
       rw[da1]at hnb
       rcases bW6 hnb i V N hvi (by omega)with⟨n1,n2⟩|⟨b',hb',hjb⟩
       ·exact⟨f1,cB1 f2 n2⟩
       ·rw[hb]at hb';cases hb'
        have:=hbl j hjb
        rw[hlj]at this;cases this
    |some d=>
     have h1:=(bv9 hh i i o o d d hti hti bn8 bn8).1
     have hpt:pt o V tm=(d,V)::tm:=by simp[pt,bn8]
     rw[hpt]at hk'
     have dne:∀(j:Nat) (oj:Oper) (dj:Nat),i≠j->j<h->all.toList[j]? =some oj->oj.dst=some dj->d≠dj:=fun j oj dj c hj hoj hdj=>
      (bv9 hh i j o oj d dj hti (by rw[dJ8,if_pos hj];exact hoj) bn8 hdj).2 c
     refine ih _ ((d,V)::tm) _ _ w' hk' (fun k t hkt=>?_) hacc hsz hun htl' hcl' (fun j oj Vj Nj dj hlj hoj hVj hdj=>?_) (fun j oj dj hj hlj hoj hnj hdj=>?_) (fun j oj Vj Nj bid hj hlj hoj hvj hid=>(hap' j oj Vj Nj bid hj hlj hoj hvj hid).imp (fun h=>by simp[P1,h.1,h.2]) (fun x=>x))
     ·have hne:d≠k:=by intro e;subst e;rw[h1.1]at hkt;cases hkt
      rw[L7 hne]
      exact hm k t hkt
     ·by_cases c:i=j
      ·subst c
       rw[ho']at hoj;cases hoj
       rw[bn8]at hdj;cases hdj
       rw[hvi]at hVj;cases hVj
       simp[look]
      ·rw[getD_set_ne false c]at hlj
       have hne:=dne j oj dj c (hjh j (jlt j oj hoj) hlj) hoj hdj
       rw[L7 hne]
       exact hsl j oj Vj Nj dj hlj hoj hVj hdj
     ·by_cases c:i=j
      ·subst c
       rw[bB5 hs hin]at hlj;cases hlj
      ·rw[getD_set_ne false c]at hlj
       have hne:=dne j oj dj c hj hoj hdj
       obtain⟨f1,f2⟩:=hfr j oj dj hj hlj hoj hnj hdj
       have hnb:=bS4 hnm j oj dj (by rw[dJ8,if_pos hj];exact hoj) hnj hdj
       rw[da1]at hnb
       rcases bW6 hnb i V N hvi (by omega)with⟨n1,n2⟩|⟨b',hb',hjb⟩
       ·exact⟨by simp[P1,n1,f1],cB1 f2 n2⟩
       ·rw[hb]at hb';cases hb'
        have:=hbl j hjb
        rw[hlj]at this;cases this)
   split at hstep
   ·rename_i hg
    rw[if_pos hg]
    exact .inl hstep
   ·rename_i hg
    rw[if_neg hg]
    exact hstep
def eF2 (nt:Nat)(all:List Oper)(h:Nat)(ws:List (Nat×Nat))(tm0:List (Nat×T))(hp0:List (Nat×G6))(vs:List (T×Option (Nat×G6))):Bool:=
 br8 vs.length h&&(dE8 h all.length&&(cV9 h 0 all (bm6 all [])&&(bf7 nt tm0 hp0 (all.take h)&&(co0 vs (bm6 all []) 0 (all.take h)&&(cD4 ws 0 vs&&(cS6 (bm6 all []) ws&&ej8 tm0 hp0 vs (bm6 all []) 0 (all.take h)))))))
def E9.fn5 {ρ:Type}{ks:List K}{m:Option ρ}{Q:ρ->Exit->St->Prop}{id h:Nat}(hmx:X.P.follows .mixedOrders=true)(hb:eF2 X.nt all.toList h ws tm0 hp0 vs=true)(steps:cr9 X all (bm6 all.toList []) ws tm0 hp0 vs)
  (rest:B9 X all (all.toList.drop h) ks ⟨ce5 all.toList (vs.map (·.1)) tm0,eq1 vs hp0⟩ m Q):E9 X (.c (.region id all true)::ks) ⟨tm0,hp0⟩ m Q:=fun r hr a w hw=>by
 simp only[eF2,aK5]at hb
 obtain⟨h1,h2,h3,h4,h5,h6,h7,h8⟩:=hb
 obtain⟨hh,hf⟩:=dw1 h4
 obtain⟨S,E,hk⟩:=hw
 have aL7:aF1 X.L.dr (fun _=>False) w {w with drawn:=w.drawn+1}:=⟨rfl,rfl,rfl,bO2 _,fun _ _ _=>rfl,fun _=>Nat.le_succ _⟩
 refine wp_region_any hmx (er1 (bq8 h1) (by simp_all) h3 hh h5 h6 h7 h8 steps (fun a w hs=>rest r hr a w hs) _ _ tm0 hp0 a _ ⟨S,E,hk.grow aL7⟩ (fun _ _ h=>h) (fun k c hk=>by rw[cs3 (fun j V b _=>by rw[da1];exact cp2 _ _)]at hk;exact hk) (by simp) ?_ ?_ ?_ ?_ ?_ ?_)
 ·grind [unl,List.filter_eq_self,cp2]
 ·simp_all
 ·grind [cp2]
 ·grind [cp2]
 ·intro i o d hi _ ho hn hd
  have:=hf i o d (by grind) hn hd
  grind
 ·intro i o V N id hi _ ho hv hid
  have:=cK7 h8 i o V N id (by grind) (by grind) hid
  grind
end
open Go.RowKit Go.MapKept
def cR5 {κ ν:Type}[BEq κ](z:ν):List (κ×ν)->κ->ν
 |[],_=>z
 |(a,v)::r,k=>bif k==a then v else cR5 z r k
def dn3 {κ ν:Type}[BEq κ]:List (κ×ν)->κ->ν->List (κ×ν)
 |[],k,v=>[(k,v)]
 |(a,x)::r,k,v=>bif k==a then(k,v)::r else(a,x)::dn3 r k v
structure KeyLaw {κ:Type}[BEq κ](d:TypeDesc)(f:κ->Value):Prop where
 now:∀a b,Instr.sameNow d (f a) (f b)=some (a==b)
 key:∀a,IsKey d (f a)
 bits:∀a b,(a==b)=true->Instr.sameBits 10000 (f b) (f a)=true
def eV3 (ik:IntKind):KeyLaw (.int ik) (fun n:Int=>.int ik n):=⟨fun a b=>by simp[Instr.sameNow],fun a=>by rfl,fun a b h=>by
 grind [Instr.sameBits]⟩
section
variable {κ ν:Type} [BEq κ] {d:TypeDesc} {f:κ -> Value} {g:ν -> Value}
def bw2:List (κ×ν)->κ->Option (Nat×ν)
 |[],_=>none
 |(a,v)::r,k=>bif k==a then some (0,v)else(bw2 r k).map fun p=>(p.1+1,p.2)
theorem df7 (z:ν)(k:κ):∀m:List (κ×ν),cR5 z m k=match bw2 m k with|some p=>p.2|none=>z
 |[]=>rfl
 |(a,v)::r=>by
  simp only[cR5,bw2]
  cases k==a
  ·simp only[fk6];rw[df7 z k r];cases bw2 r k<;>rfl
  ·rfl
theorem df9 (k:κ)(v:ν):∀m:List (κ×ν),dn3 m k v=match bw2 m k with|some p=>m.set p.1 (k,v)|none=>m++[(k,v)]
 |[]=>rfl
 |(a,x)::r=>by
  simp only[dn3,bw2]
  cases k==a
  ·simp only[fk6];rw[df9 k v r];cases bw2 r k<;>rfl
  ·rfl
theorem df6 {k:κ}:∀{m:List (κ×ν)}{p:Nat×ν},bw2 m k=some p->∃a,m[p.1]? =some (a,p.2)/\(k==a)=true
 |[],p,h=>by simp[bw2]at h
 |(a,v)::r,p,h=>by
  simp only[bw2]at h
  cases hk:k==a
  ·rw[hk]at h
   simp only[fk6,dV4]at h
   obtain⟨q,hq,rfl⟩:=h
   simp_all[df6]
  grind
abbrev ent (f:κ->Value)(g:ν->Value)(p:κ×ν):Value×Value:=(f p.1,g p.2)
theorem ce3 (K:KeyLaw d f)(k:κ):∀(m:List (κ×ν)) (l:List MapEntry) (i:Nat),l.map (fun e=>(e.key,e.val))=m.map (ent f g)->
  Instr.findNow d (f k) l i=some ((bw2 m k).map fun p=>(i+p.1,g p.2))
 |[],l,i,h=>by
  have:l=[]:=by simpa using h
  subst this;rfl
 |(a,v)::m,[],i,h=>by simp at h
 |(a,v)::m,e::l,i,h=>by
  simp only[cN4,fe6,ba7]at h
  obtain⟨⟨h1,h2⟩,h3⟩:=h
  simp only[Instr.findNow,h1,K.now,bw2]
  cases hk:k==a
  ·simp only[fk6]
   rw[ce3 K k m l (i+1) h3]
   cases bw2 m k<;>simp[ef0,Nat.add_comm 1]
  ·simp[h2]
end
section
variable {κ ν:Type} [BEq κ] {d:TypeDesc} {f:κ -> Value} {g:ν -> Value} {P:Program} {w:World} {t kt et b clock:Nat} {es:Array MapEntry} {m:List (κ × ν)}
theorem dK3 (K:KeyLaw d f)(ht:P.underlying t=some (.map kt et))(hk:P.underlying kt=some d){z:ν}{ti:TypeInfo}(hz:P.info? et=some ti)(hz2:ti.zero=some (g z))
  (hb:w.heap[b]? =some (.map es clock)) (he:es.toList.map (fun e=>(e.key,e.val))=m.map (ent f g)) (k:κ):
  (Instr.lookup t (.map (some b)) (f k) false).run P w= .ok (g (cR5 z m k)) w:=by
 have h1:=ce3 K k m es.toList 0 he
 simp only[Instr.lookup,bq9,run_underlying ht,bd5,MapKept.run_getObj_map hb,bB8,run_checkKey hk (K.key k),run_findKey hk h1]
 rw[df7]
 cases bw2 m k with
 |none=>
  simp_all[zeroValue,typeInfo]
 |some p=>rfl
def dN7 (K:KeyLaw d f)(ht:P.underlying t=some (.map kt et))(hk:P.underlying kt=some d)
  (hb:w.heap[b]? =some (.map es clock)) (he:es.toList.map (fun e=>(e.key,e.val))=m.map (ent f g)) (k:κ) (v:ν):
  ∃es' clock',(Instr.mapUpdate t (.map (some b)) (f k) (g v)).run P w= .ok () {w with heap:=w.heap.setIfInBounds b (.map es' clock')}/\es'.toList.map (fun e=>(e.key,e.val))=(dn3 m k v).map (ent f g):=by
 have h1:=ce3 K k m es.toList 0 he
 rw[df9]
 cases hf:bw2 m k with
 |none=>
  rw[hf]at h1
  refine⟨es.push {key:=f k,val:=g v,born:=clock},clock+1,?_,?_⟩
  ·simp only[Instr.mapUpdate,bq9,run_underlying ht,bd5,MapKept.run_getObj_map hb,run_checkKey hk (K.key k),run_findKey hk h1]
   simp[run_setObj_map _ hb]
  ·simp[he]
 |some p=>
  rw[hf]at h1
  obtain⟨a,h2,h3⟩:=df6 hf
  have h4:(es.toList.map (fun e=>(e.key,e.val)))[p.1]? =some (f a,g p.2):=by grind
  rw[dr2,dV4]at h4
  obtain⟨e,h5,h6⟩:=h4
  simp only[ba7]at h6
  have h5':es[p.1]? =some e:=by grind
  have hbits:Instr.sameBits 10000 e.key (f k)=true:=by rw[h6.1];exact K.bits k a h3
  refine⟨es.modify p.1 fun e=>{e with key:=f k,val:=g v},clock,?_,?_⟩
  ·simp only[Instr.mapUpdate,bq9,run_underlying ht,bd5,MapKept.run_getObj_map hb,run_checkKey hk (K.key k),run_findKey hk h1]
   simp only[bN9,da1,h5',Option.getD_some,Instr.keyThatStays,hbits,if_true,bB8,bq9,bd5]
   simp[run_setObj_map _ hb]
  ·simp only
   apply List.ext_getElem?
   intro j
   have h7:=congrArg (fun l=>l[j]?) he
   grind
end
section
variable {w0:World} {L:Lim} {nt:Nat} {σ:St} {S:Nat -> Prop} {E:Nat -> Value} {a:Act} {w:World}
def Ok.fi3 (h:Ok w0 L nt σ S E a w){id β c c':Nat}{es es':List (Value×Value)}{l l':Array MapEntry}(hb:look σ.hp id=some (.mp es))(hE:E id= .map (some β))
  (hh:w.heap[β]? =some (.map l c)) (hl:l'.toList.map (fun e=>(e.key,e.val))=es'):
  Ok w0 L nt ⟨σ.tm,au3 σ.hp id (.mp es')⟩ S E a {w with heap:=w.heap.setIfInBounds β (.map l' c')}:=by
 have hβ:S0 (E id)=some β:=by rw[hE];rfl
 have cf1:=h.own id _ β hb hβ
 have bN5:=heap_set (o':=.map l' c') hh
 have hne:∀k,k≠β->({w with heap:=w.heap.setIfInBounds β (.map l' c')}:World).heap[k]? =w.heap[k]?:=fun k hk=>bN5.2 k hk
 have hS:∀b,S b->({w with heap:=w.heap.setIfInBounds β (.map l' c')}:World).heap[b]? =w.heap[b]?:=fun k hk=>hne k fun e=>cf1.1 (e▸hk)
 refine{keep:=?_,aH9:=fun b hb=>by simpa using h.aH9 b hb,base:=h.base,size:=h.size,defers:=h.defers,tm:=fun k t ht=>(h.tm k t ht).mono (fun _ x=>x) hS (fun _ _=>rfl),hp:=?_,own:=?_,au2:=?_,pin:=h.pin}
 ·exact h.keep.trans (L':=fun k=>k=β) ⟨rfl,rfl,rfl,by simp,fun k _ hk=>hne k hk,fun _=>bO2 _⟩ fun x hx=>by grind
 ·intro id' blk hl'
  rw[aF0]at hl'
  by_cases hid:id=id'
  ·subst hid
   simp only[if_true,hb,bN9,aI6]at hl'
   subst hl'
   exact⟨β,c',l',hE,bN5.1,hl⟩
  ·simp only[hid,if_false]at hl'
   refine(h.hp id' blk hl').mono (fun _ x=>x) hS (fun β' hβ'=>hne β' fun e=>?_) (fun _ _=>rfl)
   subst e
   exact hid (h.au2 id id' _ blk _ hb hl' hβ hβ')
 ·intro id' blk β' hl' hβ'
  rw[aF0]at hl'
  have:∃b0,look σ.hp id'=some b0:=by
   grind
  obtain⟨b0,hb0⟩:=this
  simpa using h.own id' b0 β' hb0 hβ'
 ·intro i i' x x' β' hl1 hl' hβ1 hβ2
  rw[aF0]at hl1 hl'
  have dB8:∀j y,(if id=j then(look σ.hp j).map (fun _=>(.mp es':G6))else look σ.hp j)=some y->∃b0,look σ.hp j=some b0:=by
   grind
  obtain⟨b0,hb0⟩:=dB8 i x hl1
  obtain⟨b1,hb1⟩:=dB8 i' x' hl'
  exact h.au2 i i' b0 b1 β' hb0 hb1 hβ1 hβ2
end
section
variable {ρ κ ν:Type} [BEq κ] {X:Cx} {ks:List K} {tm:List (Nat × T)} {hp:List (Nat × G6)} {m:Option ρ} {Q:ρ -> Exit -> St -> Prop} {all:Array Oper} {o:Oper} {rest:List Oper}
def B9.eW7 {t d:Nat}(id:Nat)(ho:o.op= .makeMap t none)(hd:o.dst=some d)(hdn:bi3 d X.nt=true)(hg:ai6 all.toList tm o.guard=some true)
  (aO4:bi3 id big=true) (hft:P1 id tm=true) (hfb:O6 id hp=true) (h:B9 X all rest ks ⟨(d,.own id)::tm,(id,.mp [])::hp⟩ m Q):B9 X all (o::rest) ks ⟨tm,hp⟩ m Q:=fun y hy a w ⟨S,E,hk⟩=>by
 obtain⟨E',hE,hne,hok⟩:=hk.alloc (o:=.map #[] 0) (x:=.map (some w.heap.size)) (b:=.mp []) aO4 hft hfb rfl (fun E' _=>⟨w.heap.size,0,#[],rfl,(MapKept.heap_alloc w _).1,rfl⟩)
 refine wpList_step fun K hK=>?_
 rw[T7 hk hg,if_pos rfl]
 unfold Oper.wp
 have aO5:(execOp a.eval o).run X.P w= .ok (.value (.map (some w.heap.size))) (w.alloc (.map #[] 0)):=by
  grind [execOp,bq9,run_makeMap,bd5,bB8]
 rw[aO5]
 refine hK _ _ (h y hy _ _ ⟨S,E',?_⟩)
 rw[hd]
 exact hok.put (bd6 hdn) (.own id _ hE)
def B9.es7 {t kt et d id:Nat}{x y:Operand}{dk:TypeDesc}{f:κ->Value}{g:ν->Value}{z:ν}{l:List (κ×ν)}{k:κ}(K:KeyLaw dk f)(ho:o.op= .lookup t x y false)(hd:o.dst=some d)(hdn:bi3 d X.nt=true)(hg:ai6 all.toList tm o.guard=some true)
  (hx:val tm x=some (.own id)) (hb:look hp id=some (.mp (l.map (ent f g)))) (hy:val tm y=some (.t (.v (f k)))) (ht:X.P.underlying t=some (.map kt et)) (hkt:X.P.underlying kt=some dk) (hz:∃ti,X.P.info? et=some ti/\ti.zero=some (g z))
  (h:B9 X all rest ks ⟨(d,.t (.v (g (cR5 z l k))))::tm,hp⟩ m Q):B9 X all (o::rest) ks ⟨tm,hp⟩ m Q:=by
 have:=B9.one (X:=X) (ks:=ks) (tm:=tm) (hp:=hp) (all:=all) (o:=o) (rest:=rest) (Q:=Q) (k:=fun _=>m) (m₁:=some ()) hd hdn hg (fun _=>.t (.v (g (cR5 z l k)))) (fun _ S E a w _ hk=>by
  obtain⟨ti,hz1,hz2⟩:=hz
  obtain⟨β,c,es,hE,hh,hl⟩:=hk.hp id _ hb
  have hxv:=hk.val hx
  refine⟨_,?_,.t (.v _)⟩
  have hxe:a.eval x= .map (some β):=by
   generalize hq:a.eval x=q at hxv
   cases hxv with|own _ _ h=>grind
  simp only[execOp,ho,bq9,hxe,(hk.val hy).tv,dK3 K ht hkt hz1 hz2 hh hl,bd5,bB8]) (fun _ _=>h)
 grind
def B9.eB6 {t kt et id:Nat}{x y u:Operand}{dk:TypeDesc}{f:κ->Value}{g:ν->Value}{l:List (κ×ν)}{k:κ}{v:ν}(K:KeyLaw dk f)(ho:o.op= .mapUpdate t x y u)(hd:o.dst=none)(hg:ai6 all.toList tm o.guard=some true)
  (hx:val tm x=some (.own id)) (hb:look hp id=some (.mp (l.map (ent f g)))) (hy:val tm y=some (.t (.v (f k)))) (hu:val tm u=some (.t (.v (g v)))) (ht:X.P.underlying t=some (.map kt et)) (hkt:X.P.underlying kt=some dk)
  (h:B9 X all rest ks ⟨tm,au3 hp id (.mp ((dn3 l k v).map (ent f g)))⟩ m Q):B9 X all (o::rest) ks ⟨tm,hp⟩ m Q:=fun r hr a w ⟨S,E,hk⟩=>by
 obtain⟨β,c,es,hE,hh,hl⟩:=hk.hp id _ hb
 have hxv:=hk.val hx
 have hxe:a.eval x= .map (some β):=by
  generalize hq:a.eval x=q at hxv
  cases hxv with|own _ _ h=>grind
 obtain⟨es',c',h1,h2⟩:=dN7 K ht hkt hh hl k v
 refine wpList_step fun K hK=>?_
 rw[T7 hk hg,if_pos rfl]
 unfold Oper.wp
 have aO5:(execOp a.eval o).run X.P w= .ok .skip {w with heap:=w.heap.setIfInBounds β (.map es' c')}:=by
  unfold execOp
  simp only[ho,bq9,hxe,(hk.val hy).tv,(hk.val hu).tv,h1,bd5,bB8]
 rw[aO5]
 refine hK _ _ (h r hr _ _ ⟨S,E,?_⟩)
 rw[hd]
 exact hk.fi3 hb hE hh h2
end
inductive Cg (ρ:Type)where
 |S (ks:List K) (σ:St)
 |O (all:Array Oper) (kb:List Nat) (ops:List Oper) (ks:List K) (σ:St)
 |D (id:Nat) (all:Array Oper) (h:Nat) (bs:List (List Nat)) (ws:List (Nat×Nat)) (ops:List Oper) (vs:List (T×Option (Nat×G6))) (tm0:List (Nat×T)) (hp0:List (Nat×G6)) (fz kb:List Nat) (ks:List K)
 |X (id:Nat) (σ:St)
 |R (r:ρ)
def tlH:List (List Nat)->Nat->Nat
 |[],j=>j
 |b::r,j=>match tlH r (j+1)with|h=>bif br8 h (j+1)&&bO5 j b then j else h
def dy6 (fz:List Nat):Nat->List Oper->List (Nat×Nat)
 |_,[]=>[]
 |j,o::r=>match aR8 o.op,o.dst with
  |true,some d=>bif aE6 d fz then dy6 fz (j+1) r else(j,d)::dy6 fz (j+1) r
  |_,_=>dy6 fz (j+1) r
def stD (C8:Tab)(all:List Oper)(bs:List (List Nat))(ws:List (Nat×Nat))(o:Oper)(vs:List (T×Option (Nat×G6)))(tm0:List (Nat×T))(hp0:List (Nat×G6))(fz kb:List Nat):Option (T×Option (Nat×G6)):=
 match bs[vs.length]?with
 |none=>none
 |some b=>match minOf all (vs.map (·.1)) tm0 (aY3 o),eb9 bs ws vs hp0 vs.length b with
  |tm,hp=>match gk all kb tm o.guard with
   |some false=>some (.t (.v undef),none)
   |some true=>bif ea7 o.op then(match cI1 C8 tm hp o with|some (V,_)=>some (V,none)|none=>none)else
     bif aR8 o.op then(match cI1 C8 tm hp o,o.dst with
      |some (V,⟨_,(_,N)::_⟩),some d=>bif aE6 d fz then(match N with| .rows _ _ n rs=>some (.t (.sl n rs),none)|_=>none)else some (V,some (d,N))
      |_,_=>none)else
     match o.op with
     | .store t x y=>match val tm x,look C8 t,(val tm y).bind (at7 hp)with
      |some (.ptr id off),some ti,some l=>match look hp id with
       |some (.box ts)=>bif br8 l.length ti.size&&dE8 (off+l.length) ts.length then some (.t (.v undef),some (id,.box (aP7 ts off l)))else none
       |_=>none
      |_,_,_=>none
     |_=>none
   |none=>none
def dedup:List (Nat×G6)->List (Nat×G6)
 |[]=>[]
 |(k,b)::r=>(k,b)::by5 (dedup r) k
theorem cR1:∀{l:List (Nat×G6)}{k:Nat},look (dedup l) k=look l k
 |[],_=>rfl
 |(j,b)::r,k=>by
  unfold dedup
  by_cases hj:j=k
  all_goals simp_all[look,bf9,Ne.symm,cR1]
def av {ρ:Type}(C8:Tab)(nt:Nat)(eb ed:Bool):Nat->Cg ρ->Cg ρ
 |0,c=>c
 |n+1,c=>match c with
  | .S (.c x::ks) σ=>match x with
   | .seq x y=>av C8 nt eb ed n (.S (.c x:: .c y::ks) σ)
   | .skip=>av C8 nt eb ed n (.S ks σ)
   | .label _=>av C8 nt eb ed n (.S ks σ)
   | .scope x=>av C8 nt eb ed n (.S (.c x::ks) σ)
   | .block id x=>bif eb then av C8 nt eb ed n (.S (.c x:: .e id::ks) σ)else .S (.c (.block id x)::ks) σ
   | .region id ops d=>match d with
    |false=>av C8 nt eb ed n (.O ops [] ops.toList ks σ)
    |true=>bif ed then av C8 nt eb ed n (.D id ops (tlH (bm6 ops.toList []) 0) (bm6 ops.toList []) (dy6 [] 0 (ops.toList.take (tlH (bm6 ops.toList []) 0))) ops.toList [] (rmv (aW4 (ops.toList.take (tlH (bm6 ops.toList []) 0))) σ.tm) σ.hp [] [] ks)else .S (.c (.region id ops true)::ks) σ
   | .exit id=>match bw7 id ks with
    |some ks'=>av C8 nt eb ed n (.S ks' σ)
    |none=>.X id σ
   |x=>.S (.c x::ks) σ
  | .S (.e _::ks) σ=>av C8 nt eb ed n (.S ks σ)
  | .O all kb [] ks σ=>av C8 nt eb ed n (.S ks σ)
  | .O all kb (o::r) ks ⟨tm,hp⟩=>match stO C8 nt all.toList kb o r tm hp with
   |some (r',σ')=>av C8 nt eb ed n (.O all kb r' ks σ')
   |none=>.O all kb (o::r) ks ⟨tm,hp⟩
  | .D id all h bs ws ops vs tm0 hp0 fz kb ks=>bif br8 vs.length h then
    (bif eF2 nt all.toList h ws tm0 hp0 vs then av C8 nt eb ed n (.O all kb ops ks ⟨ce5 all.toList (vs.map (·.1)) tm0,dedup (eq1 vs hp0)⟩)else .D id all h bs ws ops vs tm0 hp0 fz kb ks)
   else match ops with
    |[]=>.D id all h bs ws [] vs tm0 hp0 fz kb ks
    |o::r=>match stD C8 all.toList bs ws o vs tm0 hp0 fz kb with
     |some x=>av C8 nt eb ed n (.D id all h bs ws r (vs++[x]) tm0 hp0 fz kb ks)
     |none=>.D id all h bs ws (o::r) vs tm0 hp0 fz kb ks
  |c=>c
def fuel:Nat:=100000
def here {ρ:Type}:Cg ρ->Option (Array Oper×List Nat×Oper×List (Nat×T)×List (Nat×G6)×List Nat×(T->Option (Nat×G6)->Cg ρ))
 | .O all kb (q::r) ks ⟨tm,hp⟩=>some (all,kb,q,tm,hp,[],fun V N=>.O all kb r ks ⟨pt q V tm,bh0 N hp⟩)
 | .D id all h bs ws (q::r) vs tm0 hp0 fz kb ks=>match bs[vs.length]?with
  |some b=>some (all,kb,q,minOf all.toList (vs.map (·.1)) tm0 (aY3 q),eb9 bs ws vs hp0 vs.length b,fz,fun V N=>.D id all h bs ws r (vs++[(V,N)]) tm0 hp0 fz kb ks)
  |none=>none
 |_=>none
def fa3 (q:Oper)(vs:List (T×Option (Nat×G6))):Option (Nat×Bool):=match q.guard with
 |some (j,_)=>match vs[j]?with
  |some (.t (.v (.bool b)),none)=>some (j,b)
  |_=>none
 |none=>none
def dM5 (x:T):Nat->List (T×Option (Nat×G6))->List (T×Option (Nat×G6))
 |_,[]=>[]
 |0,(_,N)::r=>(x,N)::r
 |j+1,p::r=>p::dM5 x j r
def kbD (all:Array Oper)(j:Nat)(kb:List Nat):List Nat:=match all[j]?with
 |some o=>(match o.dst with|some d=>d::kb|none=>kb)
 |none=>kb
def fa2 (all:List Oper)(tm:List (Nat×T))(q:Oper):Option (Nat×Bool):=match q.guard with
 |some (j,_)=>match all[j]?with
  |some o=>match o.dst with
   |some d=>match look tm d with
    |some (.t (.v (.bool b)))=>some (d,b)
    |_=>none
   |none=>none
  |none=>none
 |none=>none
inductive Ch where
 |t (k:Nat) (x:T)
 |x (k:Nat)
 |c (id j:Nat) (l:List T)
 |b (id:Nat) (b:G6)
 |d (id:Nat)
def upd:List Ch->St->St
 |[],σ=>σ
 |a::r,σ=>match upd r σ with
  |⟨tm,hp⟩=>match a with
   | .t k x=>⟨(k,x)::rmv [k] tm,hp⟩
   | .x k=>⟨rmv [k] tm,hp⟩
   | .c id j l=>match look hp id with
    |some (.box ts)=>⟨tm,(id,.box (aP7 ts j l))::by5 hp id⟩
    |_=>⟨tm,hp⟩
   | .b id b=>⟨tm,(id,b)::by5 hp id⟩
   | .d id=>⟨tm,by5 hp id⟩
inductive Sh (ρ:Type)where
 |nx (l:List Ch)
 |ex (id:Nat) (l:List Ch)
 |rt (r:ρ)
inductive Out (ρ:Type)where
 |nx (σ:St)
 |ex (id:Nat) (σ:St)
 |rt (r:ρ)
 |top (r:ρ)
 |no
def Out.den {ρ:Type}(Qf:ρ->St->Prop):Out ρ->Exit->St->Prop
 | .nx σ,e,σ'=>e= .normal/\Sub σ σ'
 | .ex id σ,e,σ'=>e= .exit id/\Sub σ σ'
 | .rt r,e,σ'=>e= .ret/\Qf r σ'
 | .top r,e,σ'=>(e= .ret\/e= .normal)/\Qf r σ'
 | .no,_,_=>False
inductive Kd (ρ:Type):Type->Type 1 where
 |e:Kd ρ Empty
 |one {γ:Type} (o:γ->Sh ρ):Kd ρ γ
 |two {γ δ:Type} (o:γ->Sh ρ) (o':δ->Sh ρ):Kd ρ (γ⊕δ)
 |tri {γ δ ε:Type} (o:γ->Sh ρ) (o':δ->Sh ρ) (o'':ε->Sh ρ):Kd ρ (γ⊕(δ⊕ε))
def Kd.sh {ρ:Type}:{γ:Type}->Kd ρ γ->γ->Sh ρ
 |_,.e,w=>w.elim
 |_,.one o,w=>o w
 |_,.two o _,.inl w=>o w
 |_,.two _ o,.inr w=>o w
 |_,.tri o _ _,.inl w=>o w
 |_,.tri _ o _,.inr (.inl w)=>o w
 |_,.tri _ _ o,.inr (.inr w)=>o w
def Kd.all {ρ:Type}:{γ:Type}->Kd ρ γ->(γ->Sh ρ->Tr)->Tr
 |_,.e,_=>.ok
 |_,.one o,F=>.all fun w=>F w (o w)
 |_,.two o o',F=>.and (.all fun w=>F (.inl w) (o w)) (.all fun w=>F (.inr w) (o' w))
 |_,.tri o o' o'',F=>.and (.all fun w=>F (.inl w) (o w)) (.and (.all fun w=>F (.inr (.inl w)) (o' w)) (.all fun w=>F (.inr (.inr w)) (o'' w)))
def Kd.dG1 {ρ:Type}:∀{γ:Type}{k:Kd ρ γ}{F:γ->Sh ρ->Tr},(k.all F).den->∀w,(F w (k.sh w)).den
 |_,.e,_,_,w=>w.elim
 |_,.one o,_,h,w=>h w
 |_,.two o o',_,h,.inl w=>h.1 w
 |_,.two o o',_,h,.inr w=>h.2 w
 |_,.tri o o' o'',_,h,.inl w=>h.1 w
 |_,.tri o o' o'',_,h,.inr (.inl w)=>h.2.1 w
 |_,.tri o o' o'',_,h,.inr (.inr w)=>h.2.2 w
def noE:List K->Bool
 |[]=>true
 | .c _::r=>noE r
 | .e _::_=>false
def eJ0 {ρ:Type}:Out ρ->Out ρ
 | .nx _=>.no
 | .top _=>.no
 |o=>o
def dg3 {ρ:Type}(σ:St):Sh ρ->Out ρ
 | .nx l=>.nx (upd l σ)
 | .ex id l=>.ex id (upd l σ)
 | .rt r=>.rt r
def eu5 {ρ:Type}(σ:St):Sh ρ->Out ρ
 | .nx _=>.no
 | .ex id l=>.ex id (upd l σ)
 | .rt r=>.rt r
def cont {ρ:Type}(ks:List K)(σ:St):Sh ρ->Cg ρ
 | .nx l=>.S ks (upd l σ)
 | .ex id l=>match bw7 id ks with
  |some ks'=>.S ks' (upd l σ)
  |none=>.X id (upd l σ)
 | .rt r=>.R r
def aj9:Code->List Nat
 | .region _ ops _=>aW4 ops.toList
 | .seq x y=>aj9 x++aj9 y
 | .cond _ x y=>aj9 x++aj9 y
 | .block _ x=>aj9 x
 | .loop x=>aj9 x
 | .scope x=>aj9 x
 |_=>[]
def fgT (id:Nat):List (Nat×T)->List (Nat×T)
 |[]=>[]
 |(k,x)::r=>bif names id x then fgT id r else(k,x)::fgT id r
def fgL (id:Nat):List T->List T
 |[]=>[]
 |x::r=>(bif names id x then .any else x)::fgL id r
def fgB (id:Nat):G6->G6
 | .box ts=>.box (fgL id ts)
 |b=>b
def fgH (id:Nat):List (Nat×G6)->List (Nat×G6)
 |[]=>[]
 |(k,b)::r=>bif br8 k id then fgH id r else(k,fgB id b)::fgH id r
def uniq:List (Nat×G6)->Bool
 |[]=>true
 |(k,_)::r=>(look r k).isNone&&uniq r
inductive Z1 where
 |fr (id:Nat)
 |fb (id:Nat)
 |np (k id e sz:Nat) (path:List Nat)
 |nb (b id e sz:Nat) (path:List Nat)
 |rn (h:List (Nat×Nat))
 |dr (id:Nat)
def idn (h:List (Nat×Nat)):List (Nat×G6)->List (Nat×Nat)
 |[]=>[]
 |(i,_)::r=>match look h i with
  |some _=>idn h r
  |none=>(i,i)::idn h r
def rdT (h:List (Nat×Nat)):List (Nat×T)->List (Nat×T)
 |[]=>[]
 |(k,x)::r=>match aN2 h x with
  |some _=>(k,x)::rdT h r
  |none=>rdT h r
def Z1.ap (tm:List (Nat×T))(hp:List (Nat×G6)):Z1->Option St
 | .fr id=>match look hp id with
  |some (.rows _ _ n rs)=>some ⟨cq5 id (.t (.sl n rs)) tm,bo9 id (.t (.sl n rs)) hp⟩
  |_=>none
 | .fb id=>match look hp id with
  |some (.box ts)=>match trees ts with
   |some c=>some ⟨dZ1 id c tm,cv5 id c hp⟩
   |none=>none
  |_=>none
 | .np k id e sz path=>match look tm k with
  |some t=>match bK6 id path t with
   |some u=>bif bi3 id big&&(P1 id tm&&O6 id hp)then some ⟨(k,u)::tm,(id,.rows e sz 0 [])::hp⟩else none
   |none=>none
  |none=>none
 | .nb b id e sz path=>match look hp b with
  |some (.box ts)=>match bK6 id path (.agg ts)with
   |some (.agg us)=>bif bi3 id big&&(P1 id tm&&O6 id hp)then some ⟨tm,(id,.rows e sz 0 [])::au3 hp b (.box us)⟩else none
   |_=>none
  |_=>none
 | .rn h=>match h++idn h hp with
  |h'=>bif uniq hp&&cC9 h' then(match cT9 h' (rdT h' (rmv [] tm)),aS4 h' hp with
   |some tm',some X8=>some ⟨tm',X8⟩
   |_,_=>none)else none
 | .dr id=>bif uniq hp then some ⟨fgT id (rmv [] tm),fgH id hp⟩else none
inductive U1:Type->Type 1 where
 |ap {α:Type} (enc:α->List Tree) (l r:List α) (id:Nat):U1 (List α)
 |an {α:Type} (enc:α->List Tree) (n:Int) (z:α) (id:Nat):U1 (List α)
 |st {α:Type} (enc:α->List Tree) (l:List α) (i:Int) (y:α) (n:Nat):U1 (List α)
 |sF {α:Type} (enc:α->List Tree) (l:List α) (a b:Int):U1 (List α)
 |sO {α:Type} (enc:α->List Tree) (l:List α) (b:Int) (id:Nat):U1 (List α)
 |cp {α:Type} (enc:α->List Tree) (l r:List α):U1 (List α)
def U1.m:{τ:Type}->U1 τ->Option τ
 |_,.ap _ l r _=>V4 l r
 |_,.an _ n z _=>cW6 n z
 |_,.st _ l i y _=>ao3 l i y
 |_,.sF _ l a b=>ay7 l a b
 |_,.sO _ l b _=>ay7 l 0 b
 |_,.cp _ l r=>some (aJ3 l r)
def U1.k:{τ:Type}->U1 τ->τ->List GF->List GF
 |_,.st enc _ i y _,l,Γ=>⟨enc,l,i,y⟩::Γ
 |_,_,_,Γ=>Γ
def dh3 {α:Type}(enc:α->List Tree)(r:List α)(sz:Nat)(hp:List (Nat×G6)):Option T->Tr
 |some (.t (.sl _ rs))=>tq rs (r.map enc)
 |some (.own i2)=>match look hp i2 with
  |some (.rows _ s2 _ rs)=>bif br8 s2 sz then tq rs (r.map enc)else .bad
  |_=>.bad
 |_=>.bad
def U1.q (C8:Tab)(nt:Nat)(Γ:List GF)(tm:List (Nat×T))(hp:List (Nat×G6))(o:Oper):{τ:Type}->U1 τ->Option (Tr×(τ->St))
 |_,.ap enc l r id=>match o.op,o.dst with
  | .call ⟨.builtin .append,args,tys⟩,some d=>match args.toList,tys.toList with
   |[s,x],[t,t']=>match look C8 t with
    |some ⟨_,.slice e,_⟩=>match look C8 e with
     |some te=>bif br8 t t'&&bi3 d nt&&br8 te.zero.length te.size&&bi3 id big&&P1 id (fgT id (rmv [] tm))&&O6 id (fgH id hp)&&uniq hp then
       some (.and (tq (α:=_->Nat) (fun y=>(enc y).length) (fun _=>te.size)) (.and (tq (α:=_->Bool) (fun y=>(enc y).all aQ4) (fun _=>true)) (.and (dh3 enc r te.size hp (val tm x)) (match val tm s with
        |some (.own i)=>match look hp i with
         |some (.rows e' sz _ rs)=>bif br8 i id&&br8 e' e&&br8 sz te.size then tq rs (l.map enc)else .bad
         |_=>.bad
        |some (.t (.v (.slice none 0 0)))=>tq l []
        |_=>.bad))),fun y=>⟨(d,.own id)::fgT id (rmv [] tm),(id,.rows e te.size y.length (y.map enc))::fgH id hp⟩)
      else none
     |none=>none
    |_=>none
   |_,_=>none
  |_,_=>none
 |_,.an enc n z id=>match o.op,o.dst with
  | .call ⟨.builtin .append,args,tys⟩,some d=>match args.toList,tys.toList with
   |[s,x],[t,u]=>match look C8 t,look C8 u,val tm s,val tm x with
    |some ⟨_,.slice e,_⟩,some ⟨_,.int _,_⟩,some (.t (.v (.slice none 0 0))),some (.t (.v (.int _ n')))=>match look C8 e with
     |some te=>bif bi3 d nt&&br8 te.zero.length te.size&&bi3 0 te.size&&bi3 id big&&P1 id tm&&O6 id hp then
       some (.and (tq n' n) (tq (enc z) (te.zero.map fun v=>aE3 (.v v))),fun y=>⟨(d,.own id)::tm,(id,.rows e te.size y.length (y.map enc))::hp⟩)
      else none
     |none=>none
    |_,_,_,_=>none
   |_,_=>none
  |_,_=>none
 |_,.st enc l i y n=>match o.op,o.dst,Γ[n]?with
  | .store t p x,none,some f=>match val tm p,look C8 t,(val tm x).bind (at7 hp)with
   |some (.pe id i' sz off),some ti,some cs=>match look hp id,trees cs with
    |some (.rows e sz' n' rs),some lt=>bif br8 sz sz'&&br8 lt.length ti.size&&dE8 (off+lt.length) sz then
      some (.and (.eq (.gf ⟨f.enc,f.l,f.i⟩) (.gf ⟨enc,l,i⟩)) (.and (tq (i',rs) (i.toNat,l.map enc)) (.eq (.mk (enc y)) (.mk (bF8 (f.enc f.y) off lt)))),fun l'=>⟨tm,au3 hp id (.rows e sz l'.length (l'.map enc))⟩)
     else none
    |_,_=>none
   |_,_,_=>none
  |_,_,_=>none
 |_,.sF enc l a b=>match o.op,o.dst with
  | .slice t x lo hi none,some d=>match look C8 t,val tm x,cw9 tm 0 lo,cw9 tm l.length hi with
   |some ⟨_,.slice e,_⟩,some (.t (.sl _ rs)),some a',some b'=>match look C8 e with
    |some te=>bif bi3 d nt then some (.and (tq rs (l.map enc)) (.and (tq (a',b') (a,b)) (tq (α:=_->Nat) (fun y=>(enc y).length) (fun _=>te.size))),fun y=>⟨(d,.t (.sl y.length (y.map enc)))::tm,hp⟩)else none
    |none=>none
   |_,_,_,_=>none
  |_,_=>none
 |_,.sO enc l b id=>match o.op,o.dst with
  | .slice t x none hi none,some d=>match look C8 t,val tm x,cw9 tm l.length hi with
   |some ⟨_,.slice e',_⟩,some (.own i),some b'=>match look C8 e',look hp i with
    |some te,some (.rows e sz _ rs)=>bif bi3 d nt&&br8 te.size sz&&bi3 id big&&P1 id (fgT i (rmv [] tm))&&O6 id (fgH i hp)&&O6 i (fgH i hp)&&uniq hp then
      some (.and (tq rs (l.map enc)) (tq b' b),fun y=>⟨(d,.own id)::fgT i (rmv [] tm),(id,.rows e sz y.length (y.map enc))::fgH i hp⟩)
     else none
    |_,_=>none
   |_,_,_=>none
  |_,_=>none
 |_,.cp enc l r=>match o.op with
  | .call ⟨.builtin .copy,args,tys⟩=>match args.toList,tys.toList with
   |[s,x],[t,_]=>match look C8 t,val tm s,bw8 nt o.dst (.t (.v (.int .i64 (min r.length l.length:Nat)))) ⟨tm,[]⟩with
    |some ⟨_,.slice e',_⟩,some (.own id),some ⟨tm',_⟩=>match look C8 e',look hp id with
     |some te,some (.rows e sz _ rs)=>bif br8 sz te.size then
       some (.and (tq (α:=_->Nat) (fun y=>(enc y).length) (fun _=>te.size)) (.and (tq (α:=_->Bool) (fun y=>(enc y).all aQ4) (fun _=>true)) (.and (dh3 enc r te.size hp (val tm x)) (tq rs (l.map enc)))),fun y=>⟨tm',au3 hp id (.rows e te.size y.length (y.map enc))⟩)
      else none
     |_,_=>none
    |_,_,_=>none
   |_,_=>none
  |_=>none
def U1.qA (C8:Tab)(nt:Nat)(tm:List (Nat×T))(hp:List (Nat×G6))(o:Oper){α:Type}(enc:α->List Tree)(l r:List α)(id:Nat):Option (Tr×(List α->T×Option (Nat×G6))):=
 match o.op,o.dst with
 | .call ⟨.builtin .append,args,tys⟩,some d=>match args.toList,tys.toList with
  |[s,x],[t,t']=>match look C8 t with
   |some ⟨_,.slice e,_⟩=>match look C8 e with
    |some te=>match val tm s,look hp id with
     |some (.t (.v v)),some (.rv v' e' sz n rs)=>bif br8 t t'&&bi3 d nt&&br8 te.zero.length te.size&&bi3 id big&&br8 e' e&&br8 sz te.size then
       some (.and (tq v v') (.and (tq rs (l.map enc)) (.and (tq (α:=_->Nat) (fun y=>(enc y).length) (fun _=>te.size)) (.and (tq (α:=_->Bool) (fun y=>(enc y).all aQ4) (fun _=>true)) (dh3 enc r te.size hp (val tm x))))),fun y=>(.own id,some (id,.rows e te.size y.length (y.map enc))))
      else none
     |_,_=>none
    |none=>none
   |_=>none
  |_,_=>none
 |_,_=>none
def U1.qD (C8:Tab)(nt:Nat)(Γ:List GF)(tm:List (Nat×T))(hp:List (Nat×G6))(o:Oper):{τ:Type}->U1 τ->Option (Tr×(τ->T×Option (Nat×G6)))
 |_,.st enc l i y n=>match(U1.st enc l i y n).q C8 nt Γ tm hp o with
  |some (t,_)=>match o.op,o.dst with
   | .store _ p _,none=>match val tm p with
    |some (.pe id _ sz _)=>match look hp id with
     |some (.rows e _ _ _)=>some (t,fun l'=>(.t (.v undef),some (id,.rows e sz l'.length (l'.map enc))))
     |_=>none
    |_=>none
   |_,_=>none
  |none=>none
 |_,.ap enc l r id=>U1.qA C8 nt tm hp o enc l r id
 |_,_=>none
def mtT:T->T->List (Nat×Nat)
 | .own i,.own j=>[(i,j)]
 | .ptr i _,.ptr j _=>[(i,j)]
 | .pe i _ _ _,.pe j _ _ _=>[(i,j)]
 | .agg l,.agg l'=>mtL l l'
 | .P4 l,.P4 l'=>mtL l l'
 | .clo _ l,.clo _ l'=>mtL l l'
 |_,_=>[]
 where mtL:List T->List T->List (Nat×Nat)
 |x::l,y::l'=>mtT x y++mtL l l'
 |_,_=>[]
def ff7 (i:Nat):List (Nat×Nat)->Bool
 |[]=>false
 |p::r=>bif br8 p.1 i then true else ff7 i r
def dd1:List (Nat×Nat)->List (Nat×Nat)->List (Nat×Nat)
 |[],l=>l
 |p::r,l=>bif ff7 p.1 l then dd1 r l else dd1 r (l++[p])
def mtH (h h':List (Nat×G6)):List (Nat×Nat)->List (Nat×Nat)
 |[]=>[]
 |(i,j)::r=>(match look h i,look h' j with
  |some (.box ts),some (.box us)=>mtT.mtL ts us
  |_,_=>[])++mtH h h' r
def dS5 (aD0:List T)(chp:List (Nat×G6))(targs:List T)(hp:List (Nat×G6)):List (Nat×Nat):=
 match dd1 (mtT.mtL aD0 targs) []with
 |l=>match dd1 (mtH chp hp l) l with
  |l=>dd1 (mtH chp hp l) l
structure Mq (P:Program)(κ ν:Type)where
 beq:BEq κ
 t:Nat
 kt:Nat
 et:Nat
 dk:TypeDesc
 f:κ->Value
 g:ν->Value
 z:ν
 law:@KeyLaw κ beq dk f
 ht:P.underlying t=some (.map kt et)
 hk:P.underlying kt=some dk
 hz:∃ti,P.info? et=some ti/\ti.zero=some (g z)
inductive M (P:Program)(ρ:Type):Type->Type 1 where
 |R {τ:Type} (v:τ):M P ρ τ
 |N {τ:Type}:M P ρ τ
 |I {τ:Type} (b:Bool) (x y:M P ρ τ):M P ρ τ
 |K {β τ:Type} (c:C P β) (f:β->M P ρ τ):M P ρ τ
 |KG {β τ:Type} (c:CG P β) (nm:List Nat) (f:β->M P ρ τ):M P ρ τ
 |O {β τ:Type} (l:L1 β) (f:β->M P ρ τ):M P ρ τ
 |W {τ:Type} (u:W1) (x:M P ρ τ):M P ρ τ
 |U {β τ:Type} (u:U1 β) (f:β->M P ρ τ):M P ρ τ
 |Mk {α τ:Type} (enc:α->List Tree) (n:Int) (z:α) (f:List α->M P ρ τ):M P ρ τ
 |Z (z:Z1) {τ:Type} (x:M P ρ τ):M P ρ τ
 |G {τ:Type} (b:Bool) (x y:M P ρ Bool) (f:Bool->M P ρ τ):M P ρ τ
 |J0 {β τ:Type} (n:Nat) (o:β->List Ch) (x:M P ρ β) (f:β->M P ρ τ):M P ρ τ
 |J {β γ τ:Type} (n:Nat) (o:β->List Ch) (k:Kd ρ γ) (x:M P ρ (β⊕γ)) (f:β->M P ρ τ) (g:γ->M P ρ τ):M P ρ τ
 |JF {S γ:Type} (n:Nat) (o:S->List Ch) (x:M P ρ (Fl S γ)) (i:Int):M P ρ ((Int×S)⊕(S⊕γ))
 |L {S γ τ:Type} (hd:S->List Ch) (N:Nat) (k:Kd ρ γ) (x:S->M P ρ (S⊕(S⊕γ))) (s:S) (f:S->M P ρ τ) (g:γ->M P ρ τ):M P ρ τ
 |LQ {S γ τ:Type} (ri:Nat) (hd:S->List Ch) (N:Nat) (k:Kd ρ γ) (x:Int×S->M P ρ ((Int×S)⊕(S⊕γ))) (s:S) (f:S->M P ρ τ) (g:γ->M P ρ τ):M P ρ τ
 |A {α τ:Type} (enc:α->List Tree) (l:List α) (i:Int) (f:α->M P ρ τ):M P ρ τ
 |B {τ:Type} (x:M P ρ τ):M P ρ τ
 |D {τ:Type} (fz:List Nat) (ws:List (Nat×Nat)) (x:M P ρ τ):M P ρ τ
 |Sp {τ:Type} (b:Bool) (x y:M P ρ τ):M P ρ τ
 |Mm {τ:Type} (id:Nat) (x:M P ρ τ):M P ρ τ
 |Ml {κ ν τ:Type} (m:Mq P κ ν) (l:List (κ×ν)) (k:κ) (x:M P ρ τ):M P ρ τ
 |Mu {κ ν τ:Type} (m:Mq P κ ν) (l:List (κ×ν)) (k:κ) (v:ν) (x:M P ρ τ):M P ρ τ
 |Pn {τ:Type} (id:Nat) (x:M P ρ τ):M P ρ τ
 |Nl {α τ:Type} (enc:α->List Tree) (l:List α) (x:M P ρ τ) (y:List α->M P ρ τ):M P ρ τ
def M.run {P:Program}{ρ:Type}:{τ:Type}->M P ρ τ->Option τ
 |_,.R v=>some v
 |_,.N=>none
 |_,.I b x y=>bif b then x.run else y.run
 |_,.K c f=>c.m.bind fun t=>(f t).run
 |_,.KG c _ f=>c.m.bind fun t=>(f t).run
 |_,.O l f=>l.m.bind fun t=>(f t).run
 |_,.W _ x=>x.run
 |_,.U u f=>u.m.bind fun t=>(f t).run
 |_,.Mk _ n z f=>(aY5 n z).bind fun t=>(f t).run
 |_,.Z _ x=>x.run
 |_,.G b x y f=>(bif b then x.run else y.run).bind fun t=>(f t).run
 |_,.J0 _ _ x f=>x.run.bind fun t=>(f t).run
 |_,.J _ _ _ x f g=>x.run.bind fun t=>match t with| .inl t=>(f t).run| .inr t=>(g t).run
 |_,.JF _ _ x i=>x.run.bind (aJ9 i)
 |_,.L _ _ _ x s f g=>(L8 (fun s=>(x s).run) s).bind fun t=>match t with| .inl t=>(f t).run| .inr t=>(g t).run
 |_,.LQ _ _ _ _ x s f g=>(L8 (fun s=>(x s).run) (0,s)).bind fun t=>match t with| .inl t=>(f t).run| .inr t=>(g t).run
 |_,.A _ l i f=>(E0 l i).bind fun t=>(f t).run
 |_,.B x=>x.run
 |_,.D _ _ x=>x.run
 |_,.Sp b x y=>bif b then x.run else y.run
 |_,.Nl _ l _ y=>(y l).run
 |_,.Mm _ x=>x.run
 |_,.Pn _ x=>x.run
 |_,.Ml _ _ _ x=>x.run
 |_,.Mu _ _ _ _ x=>x.run
def M.rn {P:Program}{ρ:Type}(k:Nat):{τ:Type}->M P ρ τ->Option τ
 |_,.R v=>some v
 |_,.N=>none
 |_,.I b x y=>bif b then x.rn k else y.rn k
 |_,.K c f=>(c.e k).bind fun t=>(f t).rn k
 |_,.KG c _ f=>(c.e k).bind fun t=>(f t).rn k
 |_,.O l f=>l.m.bind fun t=>(f t).rn k
 |_,.W _ x=>x.rn k
 |_,.U u f=>u.m.bind fun t=>(f t).rn k
 |_,.Mk _ n z f=>(aY5 n z).bind fun t=>(f t).rn k
 |_,.Z _ x=>x.rn k
 |_,.G b x y f=>(bif b then x.rn k else y.rn k).bind fun t=>(f t).rn k
 |_,.J0 _ _ x f=>(x.rn k).bind fun t=>(f t).rn k
 |_,.J _ _ _ x f g=>(x.rn k).bind fun t=>match t with| .inl t=>(f t).rn k| .inr t=>(g t).rn k
 |_,.JF _ _ x i=>(x.rn k).bind (aJ9 i)
 |_,.L _ _ _ x s f g=>(dx9 (fun s=>(x s).rn k) k s).bind fun t=>match t with| .inl t=>(f t).rn k| .inr t=>(g t).rn k
 |_,.LQ _ _ _ _ x s f g=>(dx9 (fun s=>(x s).rn k) k (0,s)).bind fun t=>match t with| .inl t=>(f t).rn k| .inr t=>(g t).rn k
 |_,.A _ l i f=>(E0 l i).bind fun t=>(f t).rn k
 |_,.B x=>x.rn k
 |_,.D _ _ x=>x.rn k
 |_,.Sp b x y=>bif b then x.rn k else y.rn k
 |_,.Nl _ l _ y=>(y l).rn k
 |_,.Mm _ x=>x.rn k
 |_,.Pn _ x=>x.rn k
 |_,.Ml _ _ _ x=>x.rn k
 |_,.Mu _ _ _ _ x=>x.rn k
def aZ7 {α β:Type}{a a':Option α}{f g:α->Option β}{r:β}(ha:∀x,a=some x->a'=some x)(hf:∀x r,f x=some r->g x=some r)(h:a.bind f=some r):a'.bind g=some r:=by
 cases a with
 |none=>cases h
 |some x=>grind
def M.le {P:Program}{ρ:Type}(k:Nat):∀{τ:Type} (x:M P ρ τ) (r:τ),x.rn k=some r->x.run=some r
 |_,.R v,r,h=>h
 |_,.N,r,h=>h
 |_,.I b x y,r,h=>by
  cases b
  ·exact M.le k y r h
  ·exact M.le k x r h
 |_,.K c f,r,h=>aZ7 (fun y hy=>c.le k y hy) (fun y r hy=>M.le k (f y) r hy) h
 |_,.KG c _ f,r,h=>aZ7 (fun y hy=>c.le k y hy) (fun y r hy=>M.le k (f y) r hy) h
 |_,.O l f,r,h=>aZ7 (fun y hy=>hy) (fun y r hy=>M.le k (f y) r hy) h
 |_,.W _ x,r,h=>M.le k x r h
 |_,.U l f,r,h=>aZ7 (fun y hy=>hy) (fun y r hy=>M.le k (f y) r hy) h
 |_,.Mk _ _ _ f,r,h=>aZ7 (fun y hy=>hy) (fun y r hy=>M.le k (f y) r hy) h
 |_,.Z _ x,r,h=>M.le k x r h
 |_,.G b x y f,r,h=>aZ7 (fun z hz=>by
   cases b
   ·exact M.le k y z hz
   ·exact M.le k x z hz) (fun y r hy=>M.le k (f y) r hy) h
 |_,.J0 _ _ x f,r,h=>aZ7 (fun z hz=>M.le k x z hz) (fun y r hy=>M.le k (f y) r hy) h
 |_,.J _ _ _ x f g,r,h=>by
  rw[M.rn]at h
  rw[M.run]
  refine aZ7 (fun z hz=>M.le k x z hz) (fun y r hy=>?_) h
  cases y with
  |inl y=>exact M.le k (f y) r hy
  |inr y=>exact M.le k (g y) r hy
 |_,.JF _ _ x i,r,h=>aZ7 (fun z hz=>M.le k x z hz) (fun y r hy=>hy) h
 |_,.L _ _ _ x s f g,r,h=>by
  rw[M.rn]at h
  rw[M.run]
  refine aZ7 (fun z hz=>aV3.2 (cR3 (fun s f hf=>M.le k (x s) f hf) hz)) (fun y r hy=>?_) h
  cases y with
  |inl y=>exact M.le k (f y) r hy
  |inr y=>exact M.le k (g y) r hy
 |_,.LQ _ _ _ _ x s f g,r,h=>by
  rw[M.rn]at h
  rw[M.run]
  refine aZ7 (fun z hz=>aV3.2 (cR3 (fun s f hf=>M.le k (x s) f hf) hz)) (fun y r hy=>?_) h
  cases y with
  |inl y=>exact M.le k (f y) r hy
  |inr y=>exact M.le k (g y) r hy
 |_,.A _ _ _ f,r,h=>aZ7 (fun y hy=>hy) (fun y r hy=>M.le k (f y) r hy) h
 |_,.B x,r,h=>M.le k x r h
 |_,.D _ _ x,r,h=>M.le k x r h
 |_,.Sp b x y,r,h=>by
  cases b
  ·exact M.le k y r h
  ·exact M.le k x r h
 |_,.Nl _ l _ y,r,h=>M.le k (y l) r h
 |_,.Mm _ x,r,h=>M.le k x r h
 |_,.Pn _ x,r,h=>M.le k x r h
 |_,.Ml _ _ _ x,r,h=>M.le k x r h
 |_,.Mu _ _ _ _ x,r,h=>M.le k x r h
def dm9 {ρ:Type}(Qf:ρ->St->Tr):Cg ρ->Out ρ->Tr
 | .S [] σ,.nx σ₁=>dC6 σ₁ σ
 | .S [] σ,.top r=>Qf r σ
 | .S (.c .ret::_) σ,.rt r=>Qf r σ
 | .S (.c .ret::_) σ,.top r=>Qf r σ
 | .X id σ,.ex id' σ₁=>bif br8 id id' then dC6 σ₁ σ else .bad
 | .R r,.rt r'=>tq r r'
 | .R r,.top r'=>tq r r'
 |_,_=>.bad
def eH2 (all:List Oper)(tm:List (Nat×T))(ops:List Oper):Option (Nat×Bool×List Oper×Nat×List Oper):=match ops with
 |[]=>none
 |o::_=>match o.guard with
  |none=>none
  |some (j,_)=>match all[j]?with
   |none=>none
   |some oj=>match oj.dst with
    |none=>none
    |some d=>match look tm d,cut d ops with
     |some (.t (.v (.bool b))),some (g,q,_,r)=>some (d,b,g,q,r)
     |_,_=>none
def M.isJ {P:Program}{ρ:Type}:{τ:Type}->M P ρ τ->Bool
 |_,.J0 0 _ _ _=>true
 |_,.J 0 _ _ _ _ _=>true
 |_,.B _=>true
 |_,.Z _ x=>x.isJ
 |_,.Pn _ x=>x.isJ
 |_,.D _ _ x=>x.isJ
 |_,_=>false
def M.isD {P:Program}{ρ:Type}:{τ:Type}->M P ρ τ->Bool
 |_,.Z _ x=>x.isD
 |_,.Pn _ _=>true
 |_,.D _ _ _=>true
 |_,.J0 (_+1) _ _ _=>true
 |_,_=>false
def dO1:List Nat->List Nat->List (Nat×Nat)
 |x::l,y::l'=>(x,y)::dO1 l l'
 |_,_=>[]
def M.chk {P:Program}{ρ:Type}(Ev:EqV P)(C8:Tab)(nt:Nat)(Qf:ρ->St->Tr):{τ:Type}->M P ρ τ->List GF->Cg ρ->(τ->Out ρ)->Tr
 |_,.R v,_,c,o=>dm9 Qf (av C8 nt true true fuel c) (o v)
 |_,.N,_,_,_=>.ok
 |_,.I b x y,Γ,c,o=>match av C8 nt true true fuel c with
  | .S (.c (.cond q z w)::ks) σ=>match val σ.tm q with
   |some (.t (.v (.bool b')))=>.and (tq b' b) (.and (x.chk Ev C8 nt Qf Γ (.S (.c z::ks) σ) o) (y.chk Ev C8 nt Qf Γ (.S (.c w::ks) σ) o))
   |_=>.bad
  |_=>.bad
 |_,.K f x,Γ,c,o=>.and (tq (f.d|| !Ev.dr) true)<|match here (av C8 nt true true fuel c)with
  |some (all,kb,q,tm,hp,_,nx)=>match gk all.toList kb tm q.guard,cN5 tm hp q with
   |some true,some (n,l,s,d)=>bif bi3 d nt then
     .and (tq (n,l) (f.n,f.args)) (.and (bif s then tq (α:=_->Bool) (fun t=>scalar (f.res t)) (fun _=>true)else .ok) (.all fun t=>(x t).chk Ev C8 nt Qf Γ (nx (f.res t) none) o))
    else .bad
   |_,_=>.bad
  |none=>.bad
 |_,.KG f nm x,Γ,c,o=>.and (tq (f.d|| !Ev.dr) true)<|match av C8 nt true true fuel c with
  | .O all kb (q::r) ks ⟨tm,hp⟩=>match gk all.toList kb tm q.guard,bD9 tm q,q.dst with
   |some true,some (n,targs),some d=>match dS5 f.args f.hp targs hp with
    |lm=>match bT2 lm f.args,aS4 lm f.hp with
     |some an4,some aO7=>bif br8 n f.n&&bi3 d nt&&bq0 lm (dO1 f.nw nm) tm hp then
       .and (tq (bF6 targs an4) an4) (.and (tq (aO7.map (bF5 hp)) (aO7.map fun p=>some p.2)) (.all fun t=>match aN2 (lm++dO1 f.nw nm) (f.res t),aS4 (lm++dO1 f.nw nm) (f.X8 t)with
        |some rt,some rh=>(x t).chk Ev C8 nt Qf Γ (.O all kb r ks ⟨(d,rt)::tm,rh++aq3 lm hp⟩) o
        |_,_=>.bad))
      else .bad
     |_,_=>.bad
   |_,_,_=>.bad
  | .D id all h bs ws ops vs tm0 hp0 fz kb ks=>match here (ρ:=ρ) (.D id all h bs ws ops vs tm0 hp0 fz kb ks)with
   |some (all,kb,q,tm,hp,_,nx)=>match gk all.toList kb tm q.guard,bD9 tm q,q.dst with
    |some true,some (n,targs),some d=>match nm with
     |[c]=>match f.hp,look hp c with
      |[],_=>match bT2 [] f.args with
       |some an4=>bif br8 n f.n&&bi3 d nt&&bi3 c big then
         .and (tq (bF6 targs an4) an4) (.all fun t=>match f.X8 t with
          |[(r1,.rows e2 sz2 n2 rs2)]=>match aN2 [(r1,c)] (f.res t)with
           |some rt=>(x t).chk Ev C8 nt Qf Γ (nx rt (some (c,.rows e2 sz2 n2 rs2))) o
           |none=>.bad
          |_=>.bad)
        else .bad
       |none=>.bad
      |[(b1,.rows e sz n1 rs)],some (.rv v' e' sz' n1' rs')=>bif br8 n f.n&&bi3 d nt&&bi3 c big&&dz6 b1 f.args then
        .and (tq (bF6 targs (aZ1 b1 (.t (.v v')) f.args)) (aZ1 b1 (.t (.v v')) f.args)) (.and (tq (e,sz,n1,rs) (e',sz',n1',rs')) (.all fun t=>match f.X8 t with
         |[(r1,.rows e2 sz2 n2 rs2)]=>match aN2 [(r1,c)] (f.res t)with
          |some rt=>(x t).chk Ev C8 nt Qf Γ (nx rt (some (c,.rows e2 sz2 n2 rs2))) o
          |none=>.bad
         |_=>.bad))
       else .bad
      |_,_=>.bad
     |_=>match dS5 f.args f.hp targs hp with
     |lm=>match bT2 lm f.args,aS4 lm f.hp with
      |some an4,some aO7=>bif br8 n f.n&&bi3 d nt&&bq0 lm [] [] []&&lm.all (fun p=>(look aO7 p.2).isSome)then
        .and (tq (bF6 targs an4) an4) (.and (tq (aO7.map fun p=>look hp p.1) (aO7.map fun p=>some p.2)) (.all fun t=>.and (tq (f.X8 t) f.hp) (match aN2 lm (f.res t)with
         |some rt=>(x t).chk Ev C8 nt Qf Γ (nx rt none) o
         |none=>.bad)))
       else .bad
      |_,_=>.bad
    |_,_,_=>.bad
   |none=>.bad
  |_=>.bad
 |_,.O l x,Γ,c,o=>match here (av C8 nt true true fuel c)with
  |some (all,kb,q,tm,hp,_,nx)=>match gk all.toList kb tm q.guard,l.q C8 tm hp q.op,q.dst with
   |some true,some (t,res),some d=>bif bi3 d nt then .and t (.all fun y=>(x y).chk Ev C8 nt Qf (l.k y Γ) (nx (res y) none) o)else .bad
   |_,_,_=>.bad
  |none=>.bad
 |_,.W u x,Γ,c,o=>match here (av C8 nt true true fuel c)with
  |some (all,kb,q,tm,hp,_,nx)=>match gk all.toList kb tm q.guard,u.q Ev C8 Γ tm hp q.op,q.dst with
   |some true,some (t,V),some d=>bif bi3 d nt then .and t (x.chk Ev C8 nt Qf Γ (nx V none) o)else .bad
   |_,_,_=>.bad
  |none=>.bad
 |_,.U u x,Γ,c,o=>match av C8 nt true true fuel c with
  | .O all kb (q::r) ks ⟨tm,hp⟩=>match gk all.toList kb tm q.guard,u.q C8 nt Γ tm hp q with
   |some true,some (t,σ)=>.and t (.all fun y=>(x y).chk Ev C8 nt Qf (u.k y Γ) (.O all kb r ks (σ y)) o)
   |_,_=>.bad
  | .D id all h bs ws ops vs tm0 hp0 fz kb ks=>match here (ρ:=ρ) (.D id all h bs ws ops vs tm0 hp0 fz kb ks)with
   |some (all,kb,q,tm,hp,_,nx)=>match gk all.toList kb tm q.guard,u.qD C8 nt Γ tm hp q with
    |some true,some (t,f)=>.and t (.all fun y=>(x y).chk Ev C8 nt Qf (u.k y Γ) (nx (f y).1 (f y).2) o)
    |_,_=>.bad
   |none=>.bad
  |_=>.bad
 |_,.Mk enc n z x,Γ,c,o=>match here (av C8 nt true true fuel c)with
  |some (all,kb,q,tm,hp,fz,nx)=>match gk all.toList kb tm q.guard,q.op,q.dst with
   |some true,.makeSlice t a b,some d=>match val tm a,val tm b,look C8 t with
    |some (.t (.v (.int k n'))),some (.t (.v (.int k2 n2))),some ⟨_,.slice e,_⟩=>match look C8 e with
     |some te=>bif bi3 d nt&&br8 te.zero.length te.size&&bi3 0 te.size&&bi3 d big&&P1 d tm&&O6 d hp then
       .and (tq (n',k2,n2) (n,k,n)) (.and (tq (enc z) (te.zero.map fun v=>aE3 (.v v))) (.all fun y=>(x y).chk Ev C8 nt Qf Γ (bif aE6 d fz then nx (.t (.sl y.length (y.map enc))) none else nx (.own d) (some (d,.rows e te.size y.length (y.map enc)))) o))
      else .bad
     |none=>.bad
    |_,_,_=>.bad
   |_,_,_=>.bad
  |none=>.bad
 |_,.Z z x,Γ,c,o=>match av C8 nt (!x.isJ) (!x.isD) fuel c with
  | .S ks ⟨tm,hp⟩=>match z.ap tm hp with
   |some σ=>x.chk Ev C8 nt Qf Γ (.S ks σ) o
   |none=>.bad
  | .O all kb ops ks ⟨tm,hp⟩=>match z.ap tm hp with
   |some σ=>x.chk Ev C8 nt Qf Γ (.O all kb ops ks σ) o
   |none=>.bad
  | .X id ⟨tm,hp⟩=>match z.ap tm hp with
   |some σ=>x.chk Ev C8 nt Qf Γ (.X id σ) o
   |none=>.bad
  |_=>.bad
 |_,.G b x y f,Γ,c,o=>match av C8 nt true true fuel c with
  | .O all kb ops ks ⟨tm,hp⟩=>match eH2 all.toList tm ops with
   |some (d,b',g,q,r)=>.and (tq b' b) (.and (x.chk Ev C8 nt Qf Γ (.O all (d::kb) g [] ⟨(d,.t (.v (.bool true)))::tm,hp⟩) (fun v=>.nx ⟨(q,.t (.v (.bool v)))::rmv (d::q::aW4 g) tm,hp⟩))
     (.and (y.chk Ev C8 nt Qf Γ (.O all (d::kb) g [] ⟨(d,.t (.v (.bool false)))::tm,hp⟩) (fun v=>.nx ⟨(q,.t (.v (.bool v)))::rmv (d::q::aW4 g) tm,hp⟩))
     (.all fun v=>(f v).chk Ev C8 nt Qf Γ (.O all kb r ks ⟨(q,.t (.v (.bool v)))::rmv (d::q::aW4 g) tm,hp⟩) o)))
   |none=>.bad
  |_=>.bad
 |_,.J0 n s x f,Γ,c,o=>match(match n with|0=>av C8 nt false true fuel c|_=>av C8 nt true false fuel c)with
  | .S (.c z::ks) σ=>.and (x.chk Ev C8 nt Qf Γ (.S [.c z] σ) (fun v=>.nx (upd (s v) ⟨rmv (aj9 z) σ.tm,σ.hp⟩))) (.all fun v=>(f v).chk Ev C8 nt Qf Γ (.S ks (upd (s v) ⟨rmv (aj9 z) σ.tm,σ.hp⟩)) o)
  |_=>.bad
 |_,.J n s k x f g,Γ,c,o=>match(match n with|0=>av C8 nt false true fuel c|n=>av C8 nt true true n c)with
  | .S (.c z::ks) σ=>.and (x.chk Ev C8 nt Qf Γ (.S [.c z] σ) (fun v=>match v with| .inl v=>.nx (upd (s v) ⟨rmv (aj9 z) σ.tm,σ.hp⟩)| .inr w=>dg3 ⟨rmv (aj9 z) σ.tm,σ.hp⟩ (k.sh w)))
    (.and (.all fun v=>(f v).chk Ev C8 nt Qf Γ (.S ks (upd (s v) ⟨rmv (aj9 z) σ.tm,σ.hp⟩)) o) (k.all fun w sh=>(g w).chk Ev C8 nt Qf Γ (cont ks ⟨rmv (aj9 z) σ.tm,σ.hp⟩ sh) o))
  |_=>.bad
 |_,.JF n s x i,Γ,c,o=>match av C8 nt true true n c with
  | .S (.c z::ks) σ=>bif noE ks then .and (x.chk Ev C8 nt Qf Γ (.S [.c z] σ) (fun v=>match v with| .next v=>.nx (upd (s v) ⟨rmv (aj9 z) σ.tm,σ.hp⟩)| .brk v=>eJ0 (o (.inr (.inl v)))| .ret w=>eJ0 (o (.inr (.inr w)))))
    (.all fun v=>dm9 Qf (av C8 nt true true fuel (.S ks (upd (s v) ⟨rmv (aj9 z) σ.tm,σ.hp⟩))) (o (.inl (j5 (i+1),v))))else .bad
  |_=>.bad
 |_,.L hd nx k x s₀ f g,Γ,c,o=>match av C8 nt true true fuel c with
  | .S (.c (.loop z)::ks) σ=>.and (dC6 (upd (hd s₀) ⟨rmv (aj9 z) σ.tm,σ.hp⟩) σ)
    (.and (.all fun a=>(x a).chk Ev C8 nt Qf Γ (.S [.c z] (upd (hd a) ⟨rmv (aj9 z) σ.tm,σ.hp⟩)) (fun v=>match v with| .inl a'=>.nx (upd (hd a') ⟨rmv (aj9 z) σ.tm,σ.hp⟩)| .inr (.inl a')=>.ex nx (upd (hd a') ⟨rmv (aj9 z) σ.tm,σ.hp⟩)| .inr (.inr w)=>eu5 ⟨rmv (aj9 z) σ.tm,σ.hp⟩ (k.sh w)))
    (.and (.all fun a=>(f a).chk Ev C8 nt Qf Γ (cont ks ⟨rmv (aj9 z) σ.tm,σ.hp⟩ (.ex nx (hd a))) o) (k.all fun w sh=>(g w).chk Ev C8 nt Qf Γ (cont ks ⟨rmv (aj9 z) σ.tm,σ.hp⟩ sh) o)))
  |_=>.bad
 |_,.LQ ri hd nx k x s₀ f g,Γ,c,o=>match av C8 nt true true fuel c with
  | .S (.c (.loop z)::ks) σ=>.and (dC6 (upd (.t ri (.t (tI 0))::hd s₀) ⟨rmv (aj9 z) σ.tm,σ.hp⟩) σ)
    (.and (.all fun a=>(x a).chk Ev C8 nt Qf Γ (.S [.c z] (upd (.t ri (.t (tI a.1))::hd a.2) ⟨rmv (aj9 z) σ.tm,σ.hp⟩)) (fun v=>match v with| .inl a'=>.nx (upd (.t ri (.t (tI a'.1))::hd a'.2) ⟨rmv (aj9 z) σ.tm,σ.hp⟩)| .inr (.inl a')=>.ex nx (upd (hd a') ⟨rmv (aj9 z) σ.tm,σ.hp⟩)| .inr (.inr w)=>eu5 ⟨rmv (aj9 z) σ.tm,σ.hp⟩ (k.sh w)))
    (.and (.all fun a=>(f a).chk Ev C8 nt Qf Γ (cont ks ⟨rmv (aj9 z) σ.tm,σ.hp⟩ (.ex nx (hd a))) o) (k.all fun w sh=>(g w).chk Ev C8 nt Qf Γ (cont ks ⟨rmv (aj9 z) σ.tm,σ.hp⟩ sh) o)))
  |_=>.bad
 |_,.A enc l i f,Γ,c,o=>.all fun y=>(f y).chk Ev C8 nt Qf (⟨enc,l,i,y⟩::Γ) c o
 |_,.B x,Γ,c,o=>match av C8 nt false true fuel c with
  | .S (.c (.block id z)::ks) σ=>x.chk Ev C8 nt Qf Γ (.S (.c z:: .e id::ks) σ) o
  |_=>.bad
 |_,.D fz ws x,Γ,c,o=>match av C8 nt (!x.isJ) false fuel c with
  | .S (.c (.region id ops true)::ks) σ=>x.chk Ev C8 nt Qf Γ (.D id ops (tlH (bm6 ops.toList []) 0) (bm6 ops.toList []) (dy6 fz 0 (ops.toList.take (tlH (bm6 ops.toList []) 0))++ws) ops.toList [] (rmv (aW4 (ops.toList.take (tlH (bm6 ops.toList []) 0))) σ.tm) σ.hp fz [] ks) o
  |_=>.bad
 |_,.Sp b x y,Γ,c,o=>match av C8 nt true true fuel c with
  | .D id all h bs ws (q::r) vs tm0 hp0 fz kb ks=>match fa3 q vs with
   |some (j,b')=>.and (tq b' b) (.and (x.chk Ev C8 nt Qf Γ (.D id all h bs ws (q::r) (dM5 (.t (.v (.bool true))) j vs) tm0 hp0 fz (kbD all j kb) ks) o) (y.chk Ev C8 nt Qf Γ (.D id all h bs ws (q::r) (dM5 (.t (.v (.bool false))) j vs) tm0 hp0 fz (kbD all j kb) ks) o))
   |none=>.bad
  | .O all kb (q::r) ks ⟨tm,hp⟩=>match fa2 all.toList tm q with
   |some (d,b')=>.and (tq b' b) (.and (x.chk Ev C8 nt Qf Γ (.O all (d::kb) (q::r) ks ⟨(d,.t (.v (.bool true)))::tm,hp⟩) o) (y.chk Ev C8 nt Qf Γ (.O all (d::kb) (q::r) ks ⟨(d,.t (.v (.bool false)))::tm,hp⟩) o))
   |none=>.bad
  |_=>.bad
 |_,.Nl enc l x y,Γ,c,o=>match av C8 nt true true fuel c with
  | .O all kb (q::r) ks ⟨tm,hp⟩=>match gk all.toList kb tm q.guard,q.op,q.dst with
   |some true,.binOp .eql t z (.const (.slice none 0 0)) _,some d=>match look C8 t,val tm z with
    |some ⟨_,.slice _,_⟩,some (.t (.sl _ rs))=>bif bi3 d nt then
      .and (tq rs (l.map enc)) (.and (tq x.run (y []).run) (.and (x.chk Ev C8 nt Qf Γ (.O all kb r ks ⟨(d,.t (.v (.bool true)))::tm,hp⟩) o) ((y l).chk Ev C8 nt Qf Γ (.O all kb r ks ⟨(d,.t (.v (.bool false)))::tm,hp⟩) o)))
     else .bad
    |_,_=>.bad
   |_,_,_=>.bad
  |_=>.bad
 |_,.Pn id x,Γ,c,o=>match av C8 nt (!x.isJ) false fuel c with
  | .S ks ⟨tm,hp⟩=>match look hp id with
   |some (.rows e sz n rs)=>.all fun v:Value=>x.chk Ev C8 nt Qf Γ (.S ks ⟨cq5 id (.t (.v v)) tm,(id,.rv v e sz n rs)::bo9 id (.t (.v v)) hp⟩) o
   |_=>.bad
  |_=>.bad
 |_,.Mm id x,Γ,c,o=>match av C8 nt true true fuel c with
  | .O all kb (q::r) ks ⟨tm,hp⟩=>match gk all.toList kb tm q.guard,q.op,q.dst with
   |some true,.makeMap _ none,some d=>bif bi3 d nt&&(bi3 id big&&(P1 id tm&&O6 id hp))then x.chk Ev C8 nt Qf Γ (.O all kb r ks ⟨(d,.own id)::tm,(id,.mp [])::hp⟩) o else .bad
   |_,_,_=>.bad
  |_=>.bad
 |_,.Ml m l k x,Γ,c,o=>match av C8 nt true true fuel c with
  | .O all kb (q::r) ks ⟨tm,hp⟩=>match gk all.toList kb tm q.guard,q.op,q.dst with
   |some true,.lookup t a b false,some d=>match val tm a,val tm b with
    |some (.own id),some (.t (.v kv))=>match look hp id with
     |some (.mp es)=>bif bi3 d nt then .and (tq (t,es,kv) (m.t,l.map (ent m.f m.g),m.f k)) (x.chk Ev C8 nt Qf Γ (.O all kb r ks ⟨(d,.t (.v (m.g (@cR5 _ _ m.beq m.z l k))))::tm,hp⟩) o)else .bad
     |_=>.bad
    |_,_=>.bad
   |_,_,_=>.bad
  |_=>.bad
 |_,.Mu m l k v x,Γ,c,o=>match av C8 nt true true fuel c with
  | .O all kb (q::r) ks ⟨tm,hp⟩=>match gk all.toList kb tm q.guard,q.op,q.dst with
   |some true,.mapUpdate t a b u,none=>match val tm a,val tm b,val tm u with
    |some (.own id),some (.t (.v kv)),some (.t (.v uv))=>match look hp id with
     |some (.mp es)=>.and (tq (t,es,kv,uv) (m.t,l.map (ent m.f m.g),m.f k,m.g v)) (x.chk Ev C8 nt Qf Γ (.O all kb r ks ⟨tm,au3 hp id (.mp ((@dn3 _ _ m.beq l k v).map (ent m.f m.g)))⟩) o)
     |_=>.bad
    |_,_,_=>.bad
   |_,_,_=>.bad
  |_=>.bad
abbrev M.Q {P:Program}{ρ α S γ τ:Type}(enc:α->List Tree)(l:List α)(n ri:Nat)(hd:S->List Ch)(ex:Nat)(k:Kd ρ γ)(x:Int->α->S->M P ρ (Fl S γ))(s:S)(f:S->M P ρ τ)(g:γ->M P ρ τ):M P ρ τ:=
 .LQ ri hd ex k (fun p=>.I (decide (p.1<l.length)) (.A enc l p.1 fun e=>.JF n hd (x p.1 e p.2) p.1) (.R (.inr (.inl p.2)))) s f g
abbrev M.QN {P:Program}{ρ S γ τ:Type}(m:Int)(n ri:Nat)(hd:S->List Ch)(ex:Nat)(k:Kd ρ γ)(x:Int->S->M P ρ (Fl S γ))(s:S)(f:S->M P ρ τ)(g:γ->M P ρ τ):M P ρ τ:=
 .LQ ri hd ex k (fun p=>.I (decide (p.1<m)) (.JF n hd (x p.1 p.2) p.1) (.R (.inr (.inl p.2)))) s f g
theorem eI6 (t:T):mrg t .any= .any:=by cases t<;>simp only[mrg]
theorem dS8 (id:Nat):∀(l:List T),bF6 l (fgL id l)=fgL id l
 |[]=>by rfl
 |x::l=>by
  simp only[fgL,bF6,dS8 id l]
  cases names id x<;>simp only[fk7,fk6,eI6,cn9]
theorem eI7 (id:Nat)(b:G6):cn8 b (fgB id b)=fgB id b:=by
 cases b<;>simp only[fgB,cn8,dS8]
def bU4:∀{l₁ l:List (Nat×T)},(∀k t,(k,t)∈l₁->∃t',look l k=some t'/\mrg t' t=t)->ez7 l₁ l
 |[],_,_=>trivial
 |(k,t)::r,l,h=>⟨h k t (cq1 ..),bU4 fun k t hm=>h k t (bE0 _ hm)⟩
def bU3:∀{l₁ l:List (Nat×G6)},(∀k t,(k,t)∈l₁->∃t',look l k=some t'/\cn8 t' t=t)->ez6 l₁ l
 |[],_,_=>trivial
 |(k,t)::r,l,h=>⟨h k t (cq1 ..),bU3 fun k t hm=>h k t (bE0 _ hm)⟩
def cJ1:∀{tm:List (Nat×T)}{ds:List Nat}{k:Nat}{t:T},(k,t)∈rmv ds tm->aE6 k ds=false/\look tm k=some t
 |[],_,_,_,h=>by cases h
 |(j,x)::r,ds,k,t,h=>by
  unfold rmv at h
  cases hj:aE6 j ds<;>rw[hj]at h<;>simp only[fk7,fk6]at h
  ·rcases ca1.1 h with h|h
   ·simp_all[look]
   ·obtain⟨h1,h2⟩:=cJ1 h
    grind [bt2,L7]
  ·obtain⟨h1,h2⟩:=cJ1 h
   have hjk:j≠k:=fun e=>by subst e;rw[hj]at h1;cases h1
   exact⟨h1,by rw[L7 hjk];exact h2⟩
def dl6 {id:Nat}:∀{tm:List (Nat×T)}{k:Nat}{t:T},(k,t)∈fgT id tm->(k,t)∈tm
 |[],_,_,h=>by cases h
 |(j,x)::r,k,t,h=>by
  unfold fgT at h
  cases hj:names id x<;>rw[hj]at h<;>simp only[fk7,fk6]at h
  ·rcases ca1.1 h with h|h
   ·cases h;exact cq1 ..
   ·exact bE0 _ (dl6 h)
  ·exact bE0 _ (dl6 h)
def do9 {h:List (Nat×Nat)}:∀{tm:List (Nat×T)}{k:Nat}{t:T},(k,t)∈rdT h tm->(k,t)∈tm
 |[],_,_,hm=>by cases hm
 |(j,x)::r,k,t,hm=>by
  unfold rdT at hm
  split at hm
  ·rcases ca1.1 hm with hm|hm
   ·cases hm;exact cq1 ..
   ·exact bE0 _ (do9 hm)
  ·exact bE0 _ (do9 hm)
theorem cW1:∀{h:List (Nat×G6)}{k:Nat}{b:G6},uniq h=true->(k,b)∈h->look h k=some b
 |[],_,_,_,h=>by cases h
 |(j,c)::r,k,b,hu,hm=>by
  simp only[uniq,aK5,Option.isNone_iff_eq_none]at hu
  rcases ca1.1 hm with e|hm
  ·cases e;simp[look]
  ·have:=cW1 hu.2 hm
   have hne:j≠k:=fun e=>by subst e;rw[hu.1]at this;cases this
   rw[L7 hne];exact this
def dl5 {id:Nat}:∀{h:List (Nat×G6)}{k:Nat}{c:G6},(k,c)∈fgH id h->∃b,(k,b)∈h/\c=fgB id b
 |[],_,_,h=>by cases h
 |(j,x)::r,k,c,h=>by
  unfold fgH at h
  cases hj:br8 j id<;>rw[hj]at h<;>simp only[fk7,fk6]at h
  ·rcases ca1.1 h with h|h
   ·grind
   ·obtain⟨b,h1,h2⟩:=dl5 h
    exact⟨b,bE0 _ h1,h2⟩
  ·obtain⟨b,h1,h2⟩:=dl5 h
   exact⟨b,bE0 _ h1,h2⟩
theorem dl7 {id:Nat}{tm:List (Nat×T)}{hp:List (Nat×G6)}(hu:uniq hp=true):Sub ⟨fgT id (rmv [] tm),fgH id hp⟩ ⟨tm,hp⟩:=
 ⟨bU4 fun k t hm=>⟨t,(cJ1 (dl6 hm)).2,cn9 t⟩,bU3 fun k t hm=>by
  obtain⟨b,h1,rfl⟩:=dl5 hm
  grind [cW1,eI7]⟩
def bg7 {ρf ρ:Type}(X:Cx)(Qf:ρf->St->Prop)(c:Cg ρf)(m:Option ρ)(Q:ρ->Exit->St->Prop):Prop:=match c with
 | .S ks σ=>E9 X ks σ m Q
 | .O all _ ops ks σ=>B9 X all ops ks σ m Q
 | .D id all _ bs ws ops vs tm0 hp0 _ _ ks=>ops=all.toList.drop vs.length->bs=bm6 all.toList []->cr9 X all bs ws tm0 hp0 vs->E9 X (.c (.region id all true)::ks) ⟨tm0,hp0⟩ m Q
 | .X id σ=>ab8 X [] (.exit id) σ m Q
 | .R r=>∀v,m=some v->∀σ',Qf r σ'->Q v .ret σ'
section
variable {ρ τ β:Type} {X:Cx} {Qp:ρ -> St -> Prop} {m:Option τ} {Q:τ -> Exit -> St -> Prop}
theorem bg7.pre {c:Cg ρ}{m₁:Option β}{k:β->Option τ}(h:∀y,m₁=some y->bg7 X Qp c (k y) Q):bg7 X Qp c (m₁.bind k) Q:=by
 cases hm:m₁ with
 |some y=>grind
 |none=>
  cases c with
  |S ks σ=>exact E9.fail
  |O all kb ops ks σ=>exact B9.fail
  |D=>exact fun _ _ _=>E9.fail
  |X id σ=>exact fun r hr=>by cases hr
  |R r=>exact fun v hv=>by cases hv
def cr9.snoc {all:Array Oper}{bs:List (List Nat)}{ws:List (Nat×Nat)}{tm0:List (Nat×T)}{hp0:List (Nat×G6)}{vs:List (T×Option (Nat×G6))}{V:T}{N:Option (Nat×G6)}{o:Oper}{b:List Nat}(h:cr9 X all bs ws tm0 hp0 vs)(ho:all.toList[vs.length]? =some o)(hb:bs[vs.length]? =some b)
  (hs:aj0 X all o (minOf all.toList (vs.map (·.1)) tm0 (aY3 o)) (eb9 bs ws vs hp0 vs.length b) V N):cr9 X all bs ws tm0 hp0 (vs++[(V,N)]):=by
 intro i V' N' o' b' hi ho' hb'
 rw[List.getElem?_append]at hi
 split at hi
 ·rename_i hlt
  have:=h i V' N' o' b' hi ho' hb'
  grind
 grind
def cP5 {C8:Tab}{tm:List (Nat×T)}{hp:List (Nat×G6)}{o:Oper}{t:T}{σ':St}(hi:aR8 o.op=true)(he:evalOp C8 ⟨tm,hp⟩ o=some (t,σ')):
  ∃d b,o.dst=some d/\σ'=⟨tm,(d,b)::hp⟩/\((∃ts,b= .box ts)\/t= .own d):=by
 rw[aU6]at he
 obtain⟨dst,op,type,pos,aft,guard⟩:=o
 cases op<;>simp only[aR8,reduceCtorEq]at hi<;>simp only[bl5]at he
 case alloc e=>
  grind
 case box e x=>
  grind
 case buildSlice ty n parts=>
  cases dst with
  |none=>simp at he
  |some d=>
   split at he<;>try(cases he;done)
   grind
 grind
def eY7 {all:Array Oper}{bs:List (List Nat)}{ws:List (Nat×Nat)}{o:Oper}{vs:List (T×Option (Nat×G6))}{tm0:List (Nat×T)}{hp0:List (Nat×G6)}{fz kb:List Nat}{V:T}{N:Option (Nat×G6)}(h:stD X.C8 all.toList bs ws o vs tm0 hp0 fz kb=some (V,N)):
  ∃b,bs[vs.length]? =some b/\aj0 X all o (minOf all.toList (vs.map (·.1)) tm0 (aY3 o)) (eb9 bs ws vs hp0 vs.length b) V N:=by
 unfold stD at h
 split at h<;>try grind
 rename_i b hb
 refine⟨b,hb,?_⟩
 dsimp only at h
 split at h<;>try(cases h;done)
 ·rename_i hg
  simp only[aI6,ba7]at h
  obtain⟨rfl,rfl⟩:=h
  exact .skip hg
 ·rename_i hg
  cases hp:ea7 o.op<;>rw[hp]at h<;>simp only[fk7,fk6]at h
  ·cases hn:aR8 o.op<;>rw[hn]at h<;>simp only[fk7,fk6,reduceCtorEq]at h
   ·split at h<;>try(cases h;done)
    rename_i t x y ho
    split at h<;>try(cases h;done)
    rename_i id off ti l hx hti hy
    split at h<;>try(cases h;done)
    rename_i ts hbx
    cases hc:(br8 l.length ti.size&&dE8 (off+l.length) ts.length)<;>rw[hc]at h<;>simp only[fk7,fk6,reduceCtorEq,aI6,ba7]at h
    obtain⟨rfl,rfl⟩:=h
    exact .store hg ho hx hti hy hbx hc
   split at h<;>try(cases h;done)
   rename_i V' tm' d' N' X8 d he hd
   obtain⟨d2,b2,e1,e2,e3⟩:=cP5 (C8:=X.C8) hn he
   rw[hd]at e1
   cases e1
   simp only[St.mk.injEq,fe6,ba7]at e2
   obtain⟨rfl,⟨rfl,rfl⟩,rfl⟩:=e2
   have hs:=aj0.new (X:=X) hg hn hd he
   cases hz:aE6 d' fz<;>rw[hz]at h<;>simp only[fk7,fk6]at h
   ·grind
   ·split at h<;>try(cases h;done)
    rename_i e sz n rs
    simp only[aI6,ba7]at h
    obtain⟨rfl,rfl⟩:=h
    rcases e3 with⟨ts,e3⟩|rfl
    ·cases e3
    ·exact hs.frz hn hd
  ·have hp:=df1 hp
   split at h<;>try(cases h;done)
   rename_i V' σ' he
   simp only[aI6,ba7]at h
   obtain⟨rfl,rfl⟩:=h
   have:=cA8 (C8:=X.C8) hp he
   subst this
   exact .pure hg hp he
def aL2 (hmx:X.P.follows .mixedOrders=true)(hQ:∀r l σ,¬Q r (.goto l) σ)(eb ed:Bool):∀(n:Nat) (c:Cg ρ),bg7 X Qp (av X.C8 X.nt eb ed n c) m Q->bg7 X Qp c m Q:=by
 intro n
 induction n with
 |zero=>intro c h;exact h
 |succ n ih=>
  intro c h
  unfold av at h
  split at h
  ·split at h
   ·exact E9.seq (ih _ h)
   ·exact E9.skip (ih _ h)
   ·exact E9.label (ih _ h)
   ·exact E9.scope hQ (ih _ h)
   ·cases eb<;>simp only[fk7,fk6]at h
    ·exact h
    ·exact E9.block (ih _ h)
   ·split at h
    ·exact E9.region (ih _ h)
    ·cases ed<;>simp only[fk7,fk6]at h
     ·exact h
     ·rename_i ks σ _ id ops _
      have:=ih _ h (by simp) rfl (fun i V N o b hi=>by simp at hi)
      exact fun r hr a w hw=>this r hr a w (hw.bM2 (fun k t hk=>(cn1 hk).2) (fun k b hk=>hk))
   ·split at h
    ·rename_i hp;exact E9.exit hp (ih _ h)
    ·rename_i hp;exact E9.out hp h
   ·exact h
  ·exact E9.fe8 (ih _ h)
  ·exact B9.nil (ih _ h)
  ·split at h
   ·rename_i he;exact eY8 he (ih _ h)
   ·exact h
  ·rename_i id all h0 bs ws ops vs tm0 hp0 fz kb ks
   cases hb:br8 vs.length h0<;>rw[hb]at h<;>simp only[fk7,fk6]at h
   ·split at h
    ·exact h
    ·rename_i o r
     split at h
     ·rename_i x hx
      intro dJ3 hbs hst
      have ho:all.toList[vs.length]? =some o:=by grind [eB5]
      obtain⟨V,N⟩:=x
      obtain⟨b,hbb,hs⟩:=eY7 hx
      exact ih _ h (by rw[bd4,<-eh0,<-dJ3];rfl) hbs (hst.snoc ho hbb hs)
     ·exact h
   ·cases hd:eF2 X.nt all.toList h0 ws tm0 hp0 vs<;>rw[hd]at h<;>simp only[fk7,fk6]at h
    ·exact h
    ·intro dJ3 hbs hst
     have:=bq8 hb
     subst this dJ3 hbs
     exact E9.fn5 hmx hd hst fun r hr a w hw=>ih _ h r hr a w (hw.bM2 (fun _ _ h=>h) (fun k b hk=>by rw[cR1]at hk;exact hk))
  ·exact h
theorem ci3.old {o:Oper}{tm:List (Nat×T)}{hp:List (Nat×G6)}(h:aR8 o.op=false):ci3 o none tm hp:=⟨fun h'=>(by grind),fun id h'=>(by grind [dW8])⟩
def bJ4 {id0 h00:Nat}{dW2 all:Array Oper}{bs0:List (List Nat)}{ws0:List (Nat×Nat)}{ops0:List Oper}{Z0:List (T×Option (Nat×G6))}{tm00:List (Nat×T)}{hp00:List (Nat×G6)}{fz0 kb0 kb fz:List Nat}{ks0:List K}{q:Oper}{tm:List (Nat×T)}{hp:List (Nat×G6)}{nx:T->Option (Nat×G6)->Cg ρ}{V:T}{N:Option (Nat×G6)}
  (h:here (.D id0 dW2 h00 bs0 ws0 ops0 Z0 tm00 hp00 fz0 kb0 ks0:Cg ρ)=some (all,kb,q,tm,hp,fz,nx)) (hs:aj0 X all q tm hp V N) (hk:bg7 X Qp (nx V N) m Q):bg7 X Qp (.D id0 dW2 h00 bs0 ws0 ops0 Z0 tm00 hp00 fz0 kb0 ks0) m Q:=by
 cases ops0 with
 |nil=>simp[here]at h
 |cons q0 r=>
  simp only[here]at h
  split at h<;>try(cases h;done)
  rename_i b hb
  simp only[aI6,ba7]at h
  obtain⟨rfl,rfl,rfl,rfl,rfl,rfl,rfl⟩:=h
  intro dJ3 hbs hst
  have ho:dW2.toList[Z0.length]? =some q0:=by grind [eB5]
  exact hk (by rw[bd4,<-eh0,<-dJ3];rfl) hbs (hst.snoc ho hb hs)
def bF3 {c:Cg ρ}{all:Array Oper}{kb fz:List Nat}{q:Oper}{tm:List (Nat×T)}{hp:List (Nat×G6)}{nx:T->Option (Nat×G6)->Cg ρ}{V:T}{N:Option (Nat×G6)}(h:here c=some (all,kb,q,tm,hp,fz,nx))(hs:aj0 X all q tm hp V N)
  (hd:∀d,q.dst=some d->bi3 d X.nt=true) (hf:ci3 q N tm hp) (hk:bg7 X Qp (nx V N) m Q):bg7 X Qp c m Q:=by
 unfold here at h
 split at h<;>try(cases h;done)
 ·simp only[aI6,ba7]at h
  obtain⟨rfl,rfl,rfl,rfl,rfl,rfl,rfl⟩:=h
  intro r hr a w hw
  exact wpList_step fun K hK=>hs _ _ (fun _ _ h=>h) (fun _ _ h=>h) hf hd a w hw K _ fun a' w' hs'=>hK _ _ (hk r hr _ _ hs')
 ·rename_i id dW2 h0 bs ws q0 r vs tm0 hp0 fz0 kb0 ks
  split at h<;>try(cases h;done)
  rename_i b hb
  simp only[aI6,ba7]at h
  obtain⟨rfl,rfl,rfl,rfl,rfl,rfl,rfl⟩:=h
  intro dJ3 hbs hst
  have ho:dW2.toList[vs.length]? =some q0:=by grind [eB5]
  exact hk (by rw[bd4,<-eh0,<-dJ3];rfl) hbs (hst.snoc ho hb hs)
def Z1.ej7 {z:Z1}{tm:List (Nat×T)}{hp:List (Nat×G6)}{σ:St}{ks:List K}{e:Exit}(h:z.ap tm hp=some σ)(k:ab8 X ks e σ m Q):ab8 X ks e ⟨tm,hp⟩ m Q:=by
 cases z with
 |fr id=>
  grind [Z1.ap,ab8.frz]
 |fb id=>
  grind [Z1.ap,ab8.dI9]
 |np j id e' sz path=>
  simp only[Z1.ap]at h
  split at h<;>try(cases h;done)
  rename_i hk
  split at h<;>try(cases h;done)
  rename_i hu
  cases hb:(bi3 id big&&(P1 id tm&&O6 id hp))<;>rw[hb]at h<;>simp only[fk7,fk6,reduceCtorEq,aI6]at h
  subst h
  simp only[aK5]at hb
  grind [ab8.eI9]
 |nb b id e' sz path=>
  simp only[Z1.ap]at h
  split at h<;>try(cases h;done)
  rename_i hk
  split at h<;>try(cases h;done)
  rename_i hu
  cases hb:(bi3 id big&&(P1 id tm&&O6 id hp))<;>rw[hb]at h<;>simp only[fk7,fk6,reduceCtorEq,aI6]at h
  subst h
  simp only[aK5]at hb
  grind [ab8.fo2]
 |rn l=>
  simp only[Z1.ap]at h
  cases hb:(uniq hp&&cC9 (l++idn l hp))<;>rw[hb]at h<;>simp only[fk7,fk6,reduceCtorEq]at h
  rw[aK5]at hb
  split at h<;>try(cases h;done)
  rename_i h1 h2
  simp only[aI6]at h;subst h
  exact ab8.sub (σ':=⟨rdT (l++idn l hp) (rmv [] tm),hp⟩) ⟨bU4 fun k t hm=>⟨t,(cJ1 (do9 hm)).2,cn9 t⟩,bU3 fun k b hm=>⟨b,cW1 hb.1 hm,df8 b⟩⟩ (ab8.ren _ hb.2 h1 h2 k)
 |dr id=>
  simp only[Z1.ap]at h
  cases hb:uniq hp<;>rw[hb]at h<;>simp only[fk7,fk6,reduceCtorEq,aI6]at h
  grind [ab8.sub,dl7]
theorem aj0.mk {α:Type}{all:Array Oper}{kb:List Nat}{o:Oper}{V0:List (Nat×T)}{ao1:List (Nat×G6)}{t e d s0:Nat}{z0:List Value}{te:TI}{x y:Operand}{k1 k2:IntKind}{n:Int}{enc:α->List Tree}{z:α}{l:List α}(hl:aY5 n z=some l)
  (ho:o.op= .makeSlice t x y) (hd:o.dst=some d) (hg:gk all.toList kb V0 o.guard=some true) (hx:val V0 x=some (.t (.v (.int k1 n)))) (hy:val V0 y=some (.t (.v (.int k2 n))))
  (hty:look X.C8 t=some ⟨s0,.slice e,z0⟩) (hte:look X.C8 e=some te) (hz:te.zero.length=te.size) (bS2:bi3 0 te.size=true) (ay6:enc z=te.zero.map fun v=>aE3 (.v v)) (aO4:bi3 d big=true):
  aj0 X all o V0 ao1 (.own d) (some (d,.rows e te.size l.length (l.map enc))):=by
 intro tm hp hm hh hf hd' a w ⟨S,E,hk⟩ K Q' hK
 unfold aY5 at hl
 split at hl<;>try(cases hl;done)
 rename_i hn
 simp only[aI6]at hl
 obtain⟨j,rfl⟩:∃j:Nat,n=(j:Int):=⟨n.toNat,by omega⟩
 simp only[Int.toNat_natCast]at hl
 obtain⟨dd,hu,ho2⟩:∃d,X.P.underlying t=some d/\TD.ok X.P (.slice e) d:=by
  obtain⟨i,d,_,_,hu,hdd,_⟩:=X.K6 t _ hty
  grind
 simp only[TD.ok]at ho2
 subst ho2
 have hfr:=hf.1 (by rw[ho];rfl) d hd
 rw[aK5]at hfr
 obtain⟨v',w',E',hr,hE,hok⟩:=hk.make (P:=X.P) (n:=j) (c:=enc z) aO4 hfr.1 hfr.2 hu (X.K6 e _ hte) hz (bd6 bS2) ay6 (by omega) k1 k2
 rw[T7 hk (as8 hm (aG2 hg)),if_pos rfl]
 unfold Oper.wp
 have aO5:(execOp a.eval o).run X.P w= .ok (.value v') w':=by
  unfold execOp
  simp only[ho,(hk.val (C9 hm hx)).tv,(hk.val (C9 hm hy)).tv,bq9,hr,bd5,bB8]
 rw[aO5]
 have e1:l.map enc=cr7 j (enc z):=by rw[<-hl];simp
 have e2:l.length=j:=by grind
 refine hK (a.put o.dst v') w' ?_
 rw[e1,e2]
 simp only[bh0,hd]
 rw[<-hd]
 exact Ok.pt hok (.own d v' hE) hd'
theorem cy3 {x:T}:∀{vs:List (T×Option (Nat×G6))}{j:Nat}{N:Option (Nat×G6)},vs[j]? =some (x,N)->dM5 x j vs=vs
 |[],j,N,h=>by simp at h
 |p::r,0,N,h=>by simp only[dq2,aI6]at h;subst h;rfl
 |p::r,j+1,N,h=>by rw[dM5,cy3 (by simpa using h)]
def fa4 {id h j:Nat}{all:Array Oper}{bs:List (List Nat)}{ws:List (Nat×Nat)}{q:Oper}{r:List Oper}{vs:List (T×Option (Nat×G6))}{tm0:List (Nat×T)}{hp0:List (Nat×G6)}{fz kb kb':List Nat}{ks:List K}{b:Bool}{m₁ m₂:Option τ}(ht:fa3 q vs=some (j,b))
  (h₁:bg7 X Qp (.D id all h bs ws (q::r) (dM5 (.t (.v (.bool true))) j vs) tm0 hp0 fz kb' ks:Cg ρ) m₁ Q) (h₂:bg7 X Qp (.D id all h bs ws (q::r) (dM5 (.t (.v (.bool false))) j vs) tm0 hp0 fz kb' ks:Cg ρ) m₂ Q):
  bg7 X Qp (.D id all h bs ws (q::r) vs tm0 hp0 fz kb ks:Cg ρ) (bif b then m₁ else m₂) Q:=by
 unfold fa3 at ht
 split at ht<;>try(cases ht;done)
 split at ht<;>try(cases ht;done)
 rename_i b0 hv
 simp only[aI6,ba7]at ht
 obtain⟨e1,e2⟩:=ht
 subst e1 e2
 cases b0
 ·rw[cy3 hv]at h₂;exact h₂
 ·rw[cy3 hv]at h₁;exact h₁
def eM4 {d:Nat}{all:Array Oper}{kb kb':List Nat}{q:Oper}{r:List Oper}{tm:List (Nat×T)}{hp:List (Nat×G6)}{ks:List K}{b:Bool}{m₁ m₂:Option τ}(ht:fa2 all.toList tm q=some (d,b))
  (h₁:bg7 X Qp (.O all kb' (q::r) ks ⟨(d,.t (.v (.bool true)))::tm,hp⟩:Cg ρ) m₁ Q) (h₂:bg7 X Qp (.O all kb' (q::r) ks ⟨(d,.t (.v (.bool false)))::tm,hp⟩:Cg ρ) m₂ Q):
  bg7 X Qp (.O all kb (q::r) ks ⟨tm,hp⟩:Cg ρ) (bif b then m₁ else m₂) Q:=by
 have hl:look tm d=some (.t (.v (.bool b))):=by
  unfold fa2 at ht
  split at ht<;>try(cases ht;done)
  grind
 cases b
 ·intro r hr a w hw
  exact h₂ r hr a w (hw.bM2 (fun k t hk=>by
   simp only[look]at hk
   by_cases hdk:d=k
   all_goals simp_all[D2]) (fun k b hk=>hk))
 ·intro r hr a w hw
  exact h₁ r hr a w (hw.bM2 (fun k t hk=>by
   simp only[look]at hk
   by_cases hdk:d=k
   all_goals simp_all[D2]) (fun k b hk=>hk))
end
def Out.never {ρ:Type}{Qf:ρ->St->Prop}{l:Nat}{σ:St}:∀(o:Out ρ),¬o.den Qf (.goto l) σ
 | .nx _,h=>by cases h.1
 | .ex _ _,h=>by cases h.1
 | .rt _,h=>by cases h.1
 | .top _,h=>by rcases h.1 with h|h<;>cases h
 | .no,h=>h
section
variable {P:Program} {ρ τ β:Type} {X:Cx} {Qf:ρ -> St -> Tr}
abbrev QfP (Qf:ρ->St->Tr):ρ->St->Prop:=fun r σ=>(Qf r σ).den
def dS4 {v:τ}{c:Cg ρ}{o:τ->Out ρ}(h:(dm9 Qf c (o v)).den):bg7 X (QfP Qf) c (some v) (fun v e σ'=>(o v).den (QfP Qf) e σ'):=by
 unfold dm9 at h
 split at h
 ·rename_i he;exact E9.leaf (by rw[he];exact⟨rfl,cq6 h⟩)
 ·rename_i he;exact E9.leaf (by rw[he];exact⟨.inr rfl,h⟩)
 ·rename_i he;exact E9.ret (by rw[he];exact⟨rfl,h⟩)
 ·rename_i he;exact E9.ret (by rw[he];exact⟨.inl rfl,h⟩)
 ·rename_i id σ id' σ₁ he
  cases hb:br8 id id'<;>rw[hb]at h
  ·exact h.elim
  ·have:=bq8 hb
   subst this
   exact ab8.bs1 rfl (by rw[he];exact⟨rfl,cq6 h⟩)
 ·rename_i he
  intro v' hv σ' hq;cases hv
  have:=V.eq h;subst this
  show(o v).den _ _ _
  rw[he];exact⟨rfl,hq⟩
 ·rename_i he
  intro v' hv σ' hq;cases hv
  have:=V.eq h;subst this
  show(o v).den _ _ _
  rw[he];exact⟨.inl rfl,hq⟩
 ·exact h.elim
def cl9 {ks:List K}{σ σ':St}{e:Exit}{m:Option τ}{Q:τ->Exit->St->Prop}{s:Sh ρ}(hd:(dg3 σ s).den (QfP Qf) e σ')(h:bg7 X (QfP Qf) (cont ks σ s) m Q):ab8 X ks e σ' m Q:=by
 cases s with
 |nx l=>obtain⟨rfl,hs⟩:=hd;exact ab8.sub hs h
 |ex id l=>
  obtain⟨rfl,hs⟩:=hd
  unfold cont at h
  simp only at h
  split at h
  ·rename_i hp;exact ab8.exit hp (ab8.sub hs h)
  ·rename_i hp
   intro r hr a w hw
   exact ay2 hp (h r hr a w (hw.sub hs))
 |rt r=>
  obtain⟨rfl,hq⟩:=hd
  intro v hv a w hw
  exact bs9 ks ⟨σ',hw,h v hv σ' hq⟩
def dz4 {σ σ':St}{e:Exit}{s:Sh ρ}(h:(eu5 σ s).den (QfP Qf) e σ'):e≠ .normal/\(dg3 σ s).den (QfP Qf) e σ':=by
 cases s with
 |nx l=>exact h.elim
 |ex id l=>obtain⟨rfl,hs⟩:=h;exact⟨by simp,rfl,hs⟩
 |rt r=>obtain⟨rfl,hs⟩:=h;exact⟨by simp,rfl,hs⟩
def eJ1 {o:Out ρ}{e:Exit}{σ':St}(h:(eJ0 o).den (QfP Qf) e σ'):e≠ .normal/\o.den (QfP Qf) e σ':=by
 cases o with
 |nx l=>exact h.elim
 |ex id l=>exact⟨by rw[h.1];simp,h⟩
 |rt r=>exact⟨by rw[h.1];simp,h⟩
 |top r=>exact h.elim
 |no=>exact h.elim
def Out.calm {σ:St}:∀(o:Out ρ),(∀ch,¬o.den (QfP Qf) (.panic ch) σ)/\¬o.den (QfP Qf) .outgrown σ
 | .nx _=>⟨(fun _ h=>by cases h.1),(fun h=>by cases h.1)⟩
 | .ex _ _=>⟨(fun _ h=>by cases h.1),(fun h=>by cases h.1)⟩
 | .rt _=>⟨(fun _ h=>by cases h.1),(fun h=>by cases h.1)⟩
 | .top _=>⟨(fun _ h=>by rcases h.1 with h|h<;>cases h),(fun h=>by rcases h.1 with h|h<;>cases h)⟩
 | .no=>⟨fun _ h=>h,fun h=>h⟩
def dT0 {id:Nat}:∀{ks:List K},noE ks=true->bw7 id ks=none
 |[],_=>rfl
 | .c _::r,h=>dT0 (ks:=r) h
 | .e _::_,h=>by cases h
def eH3 {all:List Oper}{tm:List (Nat×T)}{ops g r:List Oper}{d q:Nat}{b:Bool}(h:eH2 all tm ops=some (d,b,g,q,r)):look tm d=some (.t (.v (.bool b)))/\ops=g++r:=by
 unfold eH2 at h
 split at h<;>try grind
 split at h<;>try grind
 split at h<;>try grind
 split at h<;>try grind
 split at h<;>try(cases h;done)
 rename_i hl hc
 simp only[aI6,ba7]at h
 obtain⟨rfl,rfl,rfl,rfl,rfl⟩:=h
 grind [dI0]
def B9.grp {ks:List K}{m₁ m₂:Option Bool}{k:Bool->Option τ}{Q:τ->Exit->St->Prop}{all:Array Oper}{tm:List (Nat×T)}{hp:List (Nat×G6)}{ops g r:List Oper}{d q:Nat}{b:Bool}{σ₁:Bool->St}(hg:eH2 all.toList tm ops=some (d,b,g,q,r))
  (h₁:B9 X all g [] ⟨(d,.t (.v (.bool true)))::tm,hp⟩ m₁ (fun v e σ'=>e= .normal/\Sub (σ₁ v) σ')) (h₂:B9 X all g [] ⟨(d,.t (.v (.bool false)))::tm,hp⟩ m₂ (fun v e σ'=>e= .normal/\Sub (σ₁ v) σ'))
  (h:∀v,B9 X all r ks (σ₁ v) (k v) Q):B9 X all ops ks ⟨tm,hp⟩ ((bif b then m₁ else m₂).bind k) Q:=by
 obtain⟨hl,rfl⟩:=eH3 hg
 refine B9.bind g.length σ₁ ?_ (fun v _=>?_)
 all_goals grind [B9.split]
def dC1 {α:Type}{enc:α->List Tree}{r:List α}{sz:Nat}{hp:List (Nat×G6)}{x:Option T}(h:(dh3 enc r sz hp x).den):
  ∃m,x=some (.t (.sl m (r.map enc)))\/∃i2 e',x=some (.own i2)/\look hp i2=some (.rows e' sz m (r.map enc)):=by
 unfold dh3 at h
 split at h
 ·rename_i n rs;have:=V.eq h;simp_all
 ·rename_i i2
  split at h
  ·rename_i e s2 n rs hb
   cases hz:br8 s2 sz<;>rw[hz]at h
   ·exact h.elim
   ·have:=bq8 hz
    subst this
    have:=V.eq h;grind
  ·exact h.elim
 ·exact h.elim
def GF.as {α:Type}{enc:α->List Tree}{l:List α}{i:Int}:∀{f:GF},V.gf ⟨f.enc,f.l,f.i⟩=V.gf ⟨enc,l,i⟩->∃y:α,f=⟨enc,l,i,y⟩
 |⟨fe,fl,fi,fy⟩,h=>by
  simp only[V.gf.injEq]at h
  cases h
  simp
def az0 {b:Bool}{x:Tr}(h:(bif b then x else .bad).den):b=true/\x.den:=by
 cases b
 ·exact h.elim
 grind
def U1.known {Γ:List GF}(hΓ:∀f∈Γ,f.ok):∀{τ:Type}{u:U1 τ}{y:τ},u.m=some y->∀f∈u.k y Γ,f.ok
 |_,.ap _ _ _ _,y,h,f,hf=>hΓ f hf
 |_,.an _ _ _ _,y,h,f,hf=>hΓ f hf
 |_,.st enc l i z n,y,h,f,hf=>by
  rcases ca1.1 hf with rfl|hf
  ·exact ex9 h
  grind
 |_,.sF _ _ _ _,y,h,f,hf=>hΓ f hf
 |_,.sO _ _ _ _,y,h,f,hf=>hΓ f hf
 |_,.cp _ _ _,y,h,f,hf=>hΓ f hf
def dT6 {nt:Nat}{d:Option Nat}{t:T}{tm tm':List (Nat×T)}{h:List (Nat×G6)}(hp:List (Nat×G6))(hx:bw8 nt d t ⟨tm,[]⟩=some ⟨tm',h⟩):bw8 nt d t ⟨tm,hp⟩=some ⟨tm',hp⟩:=by
 unfold bw8 at hx|-
 grind
theorem U1.ok {all:Array Oper}{kb:List Nat}{ks:List K}{Γ:List GF}(hΓ:∀f∈Γ,f.ok){tm:List (Nat×T)}{hp:List (Nat×G6)}{o:Oper}{rest:List Oper}{Q:τ->Exit->St->Prop}(hg:gk all.toList kb tm o.guard=some true):
  ∀{β:Type}{u:U1 β}{t:Tr}{σ:β->St}{k:β->Option τ},u.q X.C8 X.nt Γ tm hp o=some (t,σ)->t.den->(∀y,u.m=some y->B9 X all rest ks (σ y) (k y) Q)->B9 X all (o::rest) ks ⟨tm,hp⟩ (u.m.bind k) Q
 |_,.ap (α:=α) enc l r id,t,σ,k,h,ht,hr=>by
  simp only[U1.q]at h
  split at h<;>try(cases h;done)
  rename_i args tys d ho hd
  split at h<;>try(cases h;done)
  rename_i s x t' t'' ha hb
  split at h<;>try(cases h;done)
  rename_i s0 e z0 hty
  split at h<;>try(cases h;done)
  rename_i te hte
  cases hc:(br8 t' t''&&bi3 d X.nt&&br8 te.zero.length te.size&&bi3 id big&&P1 id (fgT id (rmv [] tm))&&O6 id (fgH id hp)&&uniq hp)<;>rw[hc]at h<;>simp only[fk7,fk6,reduceCtorEq,aI6,ba7]at h
  obtain⟨rfl,rfl⟩:=h
  simp only[aK5]at hc
  obtain⟨⟨⟨⟨⟨⟨c1,c2⟩,c3⟩,c4⟩,c5⟩,c6⟩,c7⟩:=hc
  have:=bq8 c1
  subst this
  obtain⟨h1,h2,h3,h4⟩:=ht
  have h1:=V.eq h1
  have h2:=V.eq h2
  have ha:args= #[s,x]:=by grind
  have hb:tys= #[t',t']:=by grind
  subst ha hb
  obtain⟨m,hx⟩:=dC1 h3
  have hs:∃n,(val tm s=some (.own id)/\look hp id=some (.rows e te.size n (l.map enc)))\/(val tm s=some (.t (.v (.slice none 0 0)))/\l=[]):=by
   split at h4
   ·rename_i i hsv
    split at h4
    ·rename_i e' sz n rs hbl
     cases hq:(br8 i id&&br8 e' e&&br8 sz te.size)<;>rw[hq]at h4
     ·exact h4.elim
     ·simp only[aK5]at hq
      have q1:=bq8 hq.1.1
      have q2:=bq8 hq.1.2
      have q3:=bq8 hq.2
      subst q1 q2 q3
      have:=V.eq h4;subst this
      exact⟨n,.inl ⟨hsv,hbl⟩⟩
    ·exact h4.elim
   ·rename_i hsv
    have:=V.eq h4;subst this
    exact⟨0,.inr ⟨hsv,rfl⟩⟩
   ·exact h4.elim
  obtain⟨n,hs⟩:=hs
  have hen:∀y,(enc y).length=te.size:=fun y=>congrFun h1 y
  have hon:∀y,(enc y).all aQ4=true:=fun y=>congrFun h2 y
  show B9 X all _ ks _ ((V4 l r).bind k) Q
  cases hm:V4 l r with
  |none=>exact B9.fail
  |some y=>
   have hy:y=l++r:=by
    unfold V4 at hm
    split at hm
    ·exact(Option.some.inj hm).symm
    ·cases hm
   subst hy
   have hk:=hr (l++r) hm
   rw[<-hm]
   rcases hx with hx|⟨i2,e',hx1,hx2⟩
   ·exact B9.append (e':=0) ho hd c2 (aG2 hg) hty hte (bq8 c3) hen hon hs (.inl hx) (dl7 c7) c4 c5 c6 hk
   ·exact B9.append ho hd c2 (aG2 hg) hty hte (bq8 c3) hen hon hs (.inr ⟨i2,hx1,hx2⟩) (dl7 c7) c4 c5 c6 hk
 |_,.an enc n z id,t,σ,k,h,ht,hr=>by
  simp only[U1.q]at h
  split at h<;>try(cases h;done)
  rename_i args tys d ho hd
  split at h<;>try(cases h;done)
  rename_i s x t' u ha hb
  split at h<;>try(cases h;done)
  rename_i s0 e z0 s1 kk z1 ik n' hty htu hs hx
  split at h<;>try(cases h;done)
  rename_i te hte
  cases hc:(bi3 d X.nt&&br8 te.zero.length te.size&&bi3 0 te.size&&bi3 id big&&P1 id tm&&O6 id hp)<;>rw[hc]at h<;>simp only[fk7,fk6,reduceCtorEq,aI6,ba7]at h
  obtain⟨rfl,rfl⟩:=h
  simp only[aK5]at hc
  obtain⟨⟨⟨⟨⟨c1,c2⟩,c3⟩,c4⟩,c5⟩,c6⟩:=hc
  have h1:=V.eq ht.1
  have h2:=V.eq ht.2
  subst h1
  have ha:args= #[s,x]:=by cases args;simp_all
  have hb:tys= #[t',u]:=by cases tys;simp_all
  subst ha hb
  exact B9.eE2 id z ho hd c1 (aG2 hg) hs hx hty htu hte (bq8 c2) c3 h2 c4 c5 c6 hr
 |_,.st enc l i y n,t,σ,k,h,ht,hr=>by
  simp only[U1.q]at h
  split at h<;>try(cases h;done)
  rename_i t' p x f ho hd hf
  split at h<;>try(cases h;done)
  rename_i id i' sz off ti cs hp1 hti hx
  split at h<;>try(cases h;done)
  rename_i e sz' n' rs lt hb htr
  cases hc:(br8 sz sz'&&br8 lt.length ti.size&&dE8 (off+lt.length) sz)<;>rw[hc]at h<;>simp only[fk7,fk6,reduceCtorEq,aI6,ba7]at h
  obtain⟨rfl,rfl⟩:=h
  simp only[aK5]at hc
  obtain⟨⟨c1,c2⟩,c3⟩:=hc
  have:=bq8 c1
  subst this
  obtain⟨h1,h2,h3⟩:=ht
  have hfo:=hΓ f (List.mem_of_getElem? hf)
  obtain⟨fy,rfl⟩:=GF.as h1
  have h2:=V.eq h2
  have h3:=V.eq h3
  simp only[ba7]at h2
  obtain⟨rfl,rfl⟩:=h2
  cases hv:val tm x with
  |none=>simp[hv]at hx
  |some vx=>
   simp only[hv,aF2]at hx
   exact B9.dM9 y lt hfo ho hd (aG2 hg) hp1 hb hti hv hx (cq9 htr) c2 c3 h3 hr
 |_,.sF enc l a b,t,σ,k,h,ht,hr=>by
  simp only[U1.q]at h
  split at h<;>try(cases h;done)
  rename_i t' x lo hi d ho hd
  split at h<;>try(cases h;done)
  rename_i s0 e z0 n rs a' b' hty hx hlo hhi
  split at h<;>try(cases h;done)
  rename_i te hte
  cases hc:bi3 d X.nt<;>rw[hc]at h<;>simp only[fk7,fk6,reduceCtorEq,aI6,ba7]at h
  obtain⟨rfl,rfl⟩:=h
  obtain⟨h1,h2,h3⟩:=ht
  have h1:=V.eq h1
  have h2:=V.eq h2
  have h3:=V.eq h3
  simp only[ba7]at h2
  obtain⟨rfl,rfl⟩:=h2
  subst h1
  exact B9.ey4 ho hd hc (aG2 hg) hx hty hte (fun y=>congrFun h3 y) hlo hhi hr
 |_,.sO enc l b id,t,σ,k,h,ht,hr=>by
  simp only[U1.q]at h
  split at h<;>try(cases h;done)
  rename_i t' x hi d ho hd
  split at h<;>try(cases h;done)
  rename_i s0 e' z0 i b' hty hx hhi
  split at h<;>try(cases h;done)
  rename_i te e sz n rs hte hb
  cases hc:(bi3 d X.nt&&br8 te.size sz&&bi3 id big&&P1 id (fgT i (rmv [] tm))&&O6 id (fgH i hp)&&O6 i (fgH i hp)&&uniq hp)<;>rw[hc]at h<;>simp only[fk7,fk6,reduceCtorEq,aI6,ba7]at h
  obtain⟨rfl,rfl⟩:=h
  simp only[aK5]at hc
  obtain⟨⟨⟨⟨⟨⟨c1,c2⟩,c3⟩,c4⟩,c5⟩,c6⟩,c7⟩:=hc
  have h1:=V.eq ht.1
  have h2:=V.eq ht.2
  subst h1 h2
  exact B9.ey5 ho hd c1 (aG2 hg) hx hb hty hte hhi (dl7 c7) c3 c4 c5 c6 hr
 |_,.cp enc l r,t,σ,k,h,ht,hr=>by
  simp only[U1.q]at h
  split at h<;>try(cases h;done)
  rename_i args tys ho
  split at h<;>try(cases h;done)
  rename_i s x t' t'' ha hb
  split at h<;>try(cases h;done)
  rename_i s0 e' z0 id tm' hp0 hty hs au3
  split at h<;>try(cases h;done)
  rename_i te e sz n rs hte hbl
  cases hc:br8 sz te.size<;>rw[hc]at h<;>simp only[fk7,fk6,reduceCtorEq,aI6,ba7]at h
  obtain⟨rfl,rfl⟩:=h
  have:=bq8 hc
  subst this
  obtain⟨h1,h2,h3,h4⟩:=ht
  have h1:=V.eq h1
  have h2:=V.eq h2
  have h4:=V.eq h4
  subst h4
  have ha:args= #[s,x]:=by cases args;simp_all
  have hb:tys= #[t',t'']:=by cases tys;simp_all
  subst ha hb
  obtain⟨m,hx⟩:=dC1 h3
  have hk:=hr (aJ3 l r) rfl
  rcases hx with hx|⟨i2,e2,hx1,hx2⟩
  ·exact B9.en1 (e2:=0) ho (aG2 hg) hty hte (fun y=>congrFun h1 y) (fun y=>congrFun h2 y) hs hbl (.inl hx) (dT6 _ au3) hk
  ·exact B9.en1 ho (aG2 hg) hty hte (fun y=>congrFun h1 y) (fun y=>congrFun h2 y) hs hbl (.inr ⟨i2,hx1,hx2⟩) (dT6 _ au3) hk
def eG8 {all:List Oper}{kb:List Nat}{tm tm':List (Nat×T)}{g:Option (Nat×Bool)}{b:Bool}(hm:more tm tm')(h:gk all kb tm g=some b):gk all kb tm' g=some b:=by
 cases g with
 |none=>exact h
 |some p=>
  obtain⟨j,want⟩:=p
  simp only[gk]at h|-
  split at h<;>try(cases h;done)
  rename_i ho
  try simp only[ho]
  split at h<;>try(cases h;done)
  rename_i hd
  try simp only[hd]
  split at h<;>try(cases h;done)
  ·rename_i hl;rw[hm _ _ hl];exact h
  ·rename_i hl;rw[hm _ _ hl];exact h
def U1.fh7 {all:Array Oper}{kb:List Nat}{Γ:List GF}(hΓ:∀f∈Γ,f.ok){V0:List (Nat×T)}{ao1:List (Nat×G6)}{o:Oper}(hg:gk all.toList kb V0 o.guard=some true):
  ∀{β:Type}{u:U1 β}{t:Tr}{f:β->T×Option (Nat×G6)},u.qD X.C8 X.nt Γ V0 ao1 o=some (t,f)->t.den->∀y,u.m=some y->aj0 X all o V0 ao1 (f y).1 (f y).2
 |_,.st enc l i z n,t,f,h,ht,y,hy=>by
  simp only[U1.qD]at h
  split at h<;>try(cases h;done)
  rename_i t' σ hq
  split at h<;>try(cases h;done)
  rename_i ty p x hop hd
  split at h<;>try(cases h;done)
  rename_i id i' sz off hp1
  split at h<;>try(cases h;done)
  rename_i e sz2 n2 rs hb
  simp only[aI6,ba7]at h
  obtain⟨rfl,rfl⟩:=h
  refine aj0.eP8 fun tm hp hm hh=>⟨⟨tm,au3 hp id (.rows e sz y.length (y.map enc))⟩,?_,?_,?_⟩
  ·intro k u hk;grind [pt]
  ·intro k c hk;rw[cR2 (hh _ _ hb)];exact hk
  ·have hq2:(U1.st enc l i z n).q X.C8 X.nt Γ tm hp o=some (t',fun l'=>⟨tm,au3 hp id (.rows e sz l'.length (l'.map enc))⟩):=by
    simp only[U1.q]at hq|-
    split at hq<;>try(cases hq;done)
    rename_i t2 p2 x2 g hop2 hd2 hΓn
    rw[hop]at hop2
    simp only[Op.store.injEq]at hop2
    obtain⟨e1,e2,e3⟩:=hop2
    subst e1 e2 e3
    split at hq<;>try(cases hq;done)
    rename_i hp2 hti hx
    rw[hp1]at hp2
    simp only[aI6,T.pe.injEq]at hp2
    obtain⟨e1,e2,e3,e4⟩:=hp2
    subst e1 e2 e3 e4
    split at hq<;>try(cases hq;done)
    rename_i hb2 hlt
    rw[hb]at hb2
    simp only[aI6,G6.rows.injEq]at hb2
    obtain⟨e1,e2,e3,e4⟩:=hb2
    subst e1 e2 e3 e4
    have hx':∀cs,(val V0 x).bind (at7 ao1)=some cs->(val tm x).bind (at7 hp)=some cs:=fun cs hc=>by
     cases hv:val V0 x with
     |none=>simp[hv]at hc
     |some u=>rw[C9 hm hv];rw[hv]at hc;exact br6 hh hc
    simp only[C9 hm hp1,hti,hx' _ hx,hh _ _ hb,hlt]
    revert hq
    cases(br8 sz sz2&&br8 _ _&&dE8 _ sz)<;>intro hq<;>simp only[fk7,fk6,reduceCtorEq,aI6,ba7]at hq|-
    exact⟨hq.1,trivial⟩
   have:=U1.ok (X:=X) (all:=all) (rest:=[]) (ks:=[]) (k:=fun _=>some ()) (Q:=fun _ e' σ=>e'= .normal/\σ=⟨tm,au3 hp id (.rows e sz y.length (y.map enc))⟩) hΓ (eG8 hm hg) hq2 ht (fun y' hy'=>by
    rw[hy]at hy';cases hy'
    exact B9.nil (E9.leaf ⟨rfl,rfl⟩))
   grind
 |_,.ap enc l r id,t,f,h,ht,y,hy=>by
  simp only[U1.qD,U1.qA]at h
  split at h<;>try(cases h;done)
  rename_i args tys d hop hd
  split at h<;>try(cases h;done)
  rename_i s x t1 t2 de4 htys
  split at h<;>try(cases h;done)
  rename_i s0 e z0 hty
  split at h<;>try(cases h;done)
  rename_i te hte
  split at h<;>try(cases h;done)
  rename_i v v' e' sz n rs hs hb
  cases hc:(br8 t1 t2&&bi3 d X.nt&&br8 te.zero.length te.size&&bi3 id big&&br8 e' e&&br8 sz te.size)<;>rw[hc]at h<;>simp only[fk7,fk6,reduceCtorEq,aI6,ba7]at h
  obtain⟨rfl,rfl⟩:=h
  simp only[aK5]at hc
  obtain⟨⟨⟨⟨⟨c1,c2⟩,c3⟩,c4⟩,c5⟩,c6⟩:=hc
  have c1:=bq8 c1
  have c5:=bq8 c5
  have c6:=bq8 c6
  subst c1 c5 c6
  obtain⟨h1,h2,h3,h4,h5⟩:=ht
  have h1:=V.eq h1
  have h2:=V.eq h2
  have h3:=V.eq h3
  have h4:=V.eq h4
  subst h1 h2
  have hop':o.op= .call ⟨.builtin .append,#[s,x],#[t1,t1]⟩:=by
   rw[hop]
   congr 2
   ·exact Array.ext' de4
   ·exact Array.ext' htys
  obtain⟨m',e'',cf2⟩:∃m' e'',val V0 x=some (.t (.sl m' (r.map enc)))\/∃i2,val V0 x=some (.own i2)/\look ao1 i2=some (.rows e'' te.size m' (r.map enc)):=by
   unfold dh3 at h5
   split at h5<;>try(exact h5.elim)
   ·rename_i n1 rs1 hx
    have:=V.eq h5
    subst this
    exact⟨_,0,.inl hx⟩
   ·rename_i i2 hx
    split at h5<;>try(exact h5.elim)
    rename_i e1 s2 n1 rs1 hb2
    obtain⟨g1,g2⟩:=az0 h5
    have g1:=bq8 g1
    have:=V.eq g2
    subst this g1
    exact⟨_,_,.inr ⟨i2,hx,hb2⟩⟩
  exact aj0.append (e':=e'') hg hop' hd hty hte (bq8 c3) (fun y=>congrFun h3 y) (fun y=>congrFun h4 y) hs hb cf2 c4 hy
 |_,.an ..,t,f,h,_,_,_=>by simp[U1.qD]at h
 |_,.sF ..,t,f,h,_,_,_=>by simp[U1.qD]at h
 |_,.sO ..,t,f,h,_,_,_=>by simp[U1.qD]at h
 |_,.cp ..,t,f,h,_,_,_=>by simp[U1.qD]at h
def dX9 {tm:List (Nat×T)}{hp:List (Nat×G6)}{o:Oper}{n d:Nat}{l:List T}{s:Bool}(h:cN5 tm hp o=some (n,l,s,d)):o.dst=some d:=by
 grind [cN5]
def dY0 {tm:List (Nat×T)}{hp:List (Nat×G6)}{o:Oper}{n d:Nat}{l:List T}{s:Bool}(h:cN5 tm hp o=some (n,l,s,d)):aR8 o.op=false:=by
 unfold cN5 at h
 split at h<;>try(cases h;done)
 rename_i hy _
 unfold cN6 at hy
 split at hy<;>try(cases hy;done)
 rename_i ho
 rw[ho];rfl
theorem L1.dT7 {C8:Tab}{tm:List (Nat×T)}{hp:List (Nat×G6)}{o:Op}{r:Tr×(β->T)}:∀{l:L1 β},l.q C8 tm hp o=some r->aR8 o=false:=by
 intro l h
 cases l<;>simp only[L1.q]at h<;>split at h<;>first|(cases h;done)|rfl
theorem W1.dT7 {P:Program}{Ev:EqV P}{C8:Tab}{Γ:List GF}{tm:List (Nat×T)}{hp:List (Nat×G6)}{o:Op}{r:Tr×T}:∀{u:W1},u.q Ev C8 Γ tm hp o=some r->aR8 o=false
 | .hx n,h=>by
  simp only[W1.q]at h
  grind [L1.dT7]
 | .ly n,h=>by
  simp only[W1.q]at h
  split at h<;>try(cases h;done)
  rfl
 | .eq,h=>by
  simp only[W1.q]at h
  split at h<;>try(cases h;done)
  rfl
 | .cn,h=>by
  simp only[W1.q]at h
  split at h<;>try(cases h;done)
  rfl
 | .sn,h=>by
  simp only[W1.q]at h
  split at h<;>try(cases h;done)
  rfl
theorem M.ok {Ev:EqV X.P}(hmx:X.P.follows .mixedOrders=true)(hdr:X.L.dr=true->Ev.dr=true):∀{τ:Type} (x:M X.P ρ τ) (Γ:List GF) (c:Cg ρ) (o:τ->Out ρ),(∀f∈Γ,f.ok)->(x.chk Ev X.C8 X.nt Qf Γ c o).den->bg7 X (QfP Qf) c x.run (fun v e σ'=>(o v).den (QfP Qf) e σ')
 |_,.R v,Γ,c,o,hΓ,h=>by
  simp only[M.chk]at h
  exact aL2 hmx (fun r l σ=>Out.never _) true true _ c (dS4 h)
 |_,.N,Γ,c,o,hΓ,h=>by
  cases c with
  |S ks σ=>exact E9.fail
  |O all kb ops ks σ=>exact B9.fail
  |D=>exact fun _ _ _=>E9.fail
  |X id σ=>exact fun r hr=>by cases hr
  |R r=>exact fun v hv=>by cases hv
 |_,.I b x y,Γ,c,o,hΓ,h=>by
  simp only[M.chk]at h
  refine aL2 hmx (fun r l σ=>Out.never _) true true fuel c ?_
  split at h<;>try(exact h.elim)
  rename_i q z w ks σ hc
  rw[hc]
  split at h<;>try(exact h.elim)
  rename_i b' hv
  obtain⟨h1,h2,h3⟩:=h
  have h1:=V.eq h1
  subst h1
  exact E9.cond hv (M.ok hmx hdr x Γ _ o hΓ h2) (M.ok hmx hdr y Γ _ o hΓ h3)
 |_,.K f x,Γ,c,o,hΓ,h=>by
  simp only[M.chk]at h
  obtain⟨hfd,h⟩:=h
  have hd0:X.L.dr=true->f.d=true:=fun hx=>by
   have h1:=V.eq hfd
   grind
  refine aL2 hmx (fun r l σ=>Out.never _) true true fuel c ?_
  split at h<;>try(exact h.elim)
  rename_i all kb q tm hp fz nx hc
  split at h<;>try(exact h.elim)
  rename_i n l s d hg hq
  obtain⟨hb,h1,h2,h3⟩:=az0 h
  have h5:=V.eq h1
  simp only[ba7]at h5
  obtain⟨h6,rfl⟩:=h5
  refine bg7.pre fun t ht=>?_
  have hd:q.dst=some d:=dX9 hq
  have bS1:aR8 q.op=false:=dY0 hq
  exact bF3 hc (aj0.call ht hg hq (by rw[h6];exact f.ok) (fun hs=>by subst hs;exact congrFun (V.eq h2) t) hd0) (fun d' hd'=>by grind)
   (.old bS1) (M.ok hmx hdr (x t) Γ _ o hΓ (h3 t))
 |_,.KG f nm x,Γ,c,o,hΓ,h=>by
  simp only[M.chk]at h
  obtain⟨hfd,h⟩:=h
  have hd0:X.L.dr=true->f.d=true:=fun hx=>by
   have h1:=V.eq hfd
   rw[hdr hx]at h1
   simpa using h1
  refine aL2 hmx (fun r l σ=>Out.never _) true true fuel c ?_
  split at h<;>try(exact h.elim)
  ·rename_i all kb q r ks tm hp hc
   rw[hc]
   split at h<;>try(exact h.elim)
   rename_i n targs d hg hq hd
   generalize dS5 f.args f.hp targs hp=lm at h
   split at h<;>try(exact h.elim)
   rename_i an4 aO7 hr1 hr2
   obtain⟨hb,h1,h2,h3⟩:=az0 h
   simp only[aK5]at hb
   have h1:=V.eq h1
   have h2:=V.eq h2
   have hn:=bq8 hb.1.1
   subst hn
   have key:∀t,∃rt rh,aN2 (lm++dO1 f.nw nm) (f.res t)=some rt/\aS4 (lm++dO1 f.nw nm) (f.X8 t)=some rh/\((x t).chk Ev X.C8 X.nt Qf Γ (.O all kb r ks ⟨(d,rt)::tm,rh++aq3 lm hp⟩) o).den:=fun t=>by
    have h4:=h3 t
    dsimp only at h4
    split at h4
    ·rename_i rt rh e1 e2;exact⟨rt,rh,e1,e2,h4⟩
    ·exact h4.elim
   refine B9.g (dM1:=fun t=>(key t).choose) (rhp:=fun t=>(key t).choose_spec.choose) lm (dO1 f.nw nm) f.ok (targs:=targs) (an4:=an4) (aO7:=aO7) (d:=d) (hp2:=aq3 lm hp) ?_ h1 h2
    (fun t=>(key t).choose_spec.choose_spec.1) (fun t=>(key t).choose_spec.choose_spec.2.1) (fun t ht=>M.ok hmx hdr (x t) Γ _ o hΓ (key t).choose_spec.choose_spec.2.2) hd0
   unfold dt5
   rw[aG2 hg]
   simp only[hq,hr1,hr2,hd,hb.2,hb.1.2,eS9,fk7]
  ·rename_i id dW2 h0 bs ws ops vs tm0 hp0 fz kb0 ks hc
   rw[hc]
   split at h<;>try(exact h.elim)
   rename_i all kb q tm hp fz' nx hh
   split at h<;>try(exact h.elim)
   rename_i n targs d hg hq hd
   split at h
   ·rename_i c
    split at h<;>try(exact h.elim)
    ·rename_i hhp
     split at h<;>try(exact h.elim)
     rename_i an4 hr1
     obtain⟨hb,h1,h3⟩:=az0 h
     simp only[aK5]at hb
     have h1:=V.eq h1
     have hn:=bq8 hb.1.1
     subst hn
     refine bg7.pre fun t ht=>?_
     have h4:=h3 t
     dsimp only at h4
     split at h4<;>try(exact h4.elim)
     rename_i r1 e2 sz2 n2 rs2 hr2
     split at h4<;>try(exact h4.elim)
     rename_i rt hr3
     have hok:=f.ok
     rw[hhp]at hok
     exact bJ4 hh (aj0.fd6 ht hok hg hq hd hb.1.2 hb.2 hr1 h1 hr3 hr2 hd0) (M.ok hmx hdr (x t) Γ _ o hΓ h4)
    ·rename_i b1 e sz n1 rs v' e' sz' n1' rs' hhp hlk
     obtain⟨hb,h1,h2,h3⟩:=az0 h
     simp only[aK5]at hb
     have h1:=V.eq h1
     have h2:=V.eq h2
     simp only[ba7]at h2
     obtain⟨rfl,rfl,rfl,rfl⟩:=h2
     have hn:=bq8 hb.1.1.1
     subst hn
     refine bg7.pre fun t ht=>?_
     have h4:=h3 t
     dsimp only at h4
     split at h4<;>try(exact h4.elim)
     rename_i r1 e2 sz2 n2 rs2 hr2
     split at h4<;>try(exact h4.elim)
     rename_i rt hr1
     have hok:=f.ok
     rw[hhp]at hok
     exact bJ4 hh (aj0.fd7 ht hok hg hq hd hlk hb.1.2 h1 hb.2 hr1 hr2 hd0) (M.ok hmx hdr (x t) Γ _ o hΓ h4)
   generalize dS5 f.args f.hp targs hp=lm at h
   split at h<;>try(exact h.elim)
   rename_i an4 aO7 hr1 hr2
   obtain⟨hb,h1,h2,h3⟩:=az0 h
   simp only[aK5]at hb
   have h1:=V.eq h1
   have h2:=V.eq h2
   have hn:=bq8 hb.1.1.1
   subst hn
   refine bg7.pre fun t ht=>?_
   obtain⟨h4,h5⟩:=h3 t
   have h4:=V.eq h4
   split at h5<;>try(exact h5.elim)
   rename_i rt hrt
   exact bJ4 hh (aj0.fd8 lm ht f.ok hg hq hd hb.1.1.2 hr1 h1 hr2 h2 hb.1.2 hb.2 hrt h4 hd0) (M.ok hmx hdr (x t) Γ _ o hΓ h5)
 |_,.O l x,Γ,c,o,hΓ,h=>by
  simp only[M.chk]at h
  refine aL2 hmx (fun r l σ=>Out.never _) true true fuel c ?_
  split at h<;>try(exact h.elim)
  rename_i all kb q tm hp fz nx hc
  split at h<;>try(exact h.elim)
  rename_i t res d hg hq hd
  obtain⟨hb,h1,h2⟩:=az0 h
  refine bg7.pre fun y hy=>?_
  exact bF3 hc (aj0.one hg hq h1 hy) (fun d' hd'=>by rw[hd]at hd';cases hd';exact hb) (.old (L1.dT7 hq)) (M.ok hmx hdr (x y) _ _ o (L1.known hΓ hy) (h2 y))
 |_,.W u x,Γ,c,o,hΓ,h=>by
  simp only[M.chk]at h
  refine aL2 hmx (fun r l σ=>Out.never _) true true fuel c ?_
  split at h<;>try(exact h.elim)
  rename_i all kb q tm hp fz nx hc
  split at h<;>try(exact h.elim)
  rename_i t V d hg hq hd
  obtain⟨hb,h1,h2⟩:=az0 h
  exact bF3 hc (aj0.known hΓ hg hq h1) (fun d' hd'=>by rw[hd]at hd';cases hd';exact hb) (.old (W1.dT7 hq)) (M.ok hmx hdr x _ _ o hΓ h2)
 |_,.U u x,Γ,c,o,hΓ,h=>by
  simp only[M.chk]at h
  refine aL2 hmx (fun r l σ=>Out.never _) true true fuel c ?_
  split at h<;>try(exact h.elim)
  ·rename_i all kb q r ks tm hp hc
   rw[hc]
   split at h<;>try(exact h.elim)
   rename_i t σ hg hq
   exact U1.ok hΓ hg hq h.1 fun y hy=>M.ok hmx hdr (x y) _ (.O all kb r ks (σ y)) o (U1.known hΓ hy) (h.2 y)
  ·rename_i id all h0 bs ws ops vs tm0 hp0 fz kb ks hc
   rw[hc]
   split at h<;>try(exact h.elim)
   rename_i all' kb' q tm hp fz' nx hh
   split at h<;>try(exact h.elim)
   rename_i t f hg hq
   refine bg7.pre fun y hy=>?_
   exact bJ4 hh (U1.fh7 (all:=all') hΓ hg hq h.1 y hy) (M.ok hmx hdr (x y) _ _ o (U1.known hΓ hy) (h.2 y))
 |_,.Mk enc n z x,Γ,c,o,hΓ,h=>by
  simp only[M.chk]at h
  refine aL2 hmx (fun r l σ=>Out.never _) true true fuel c ?_
  split at h<;>try(exact h.elim)
  rename_i all kb q tm hp fz nx hc
  split at h<;>try(exact h.elim)
  rename_i t a b d hg hop hd
  split at h<;>try(exact h.elim)
  rename_i k1 n1 k2 n2 s0 e z0 hx hy hty
  split at h<;>try(exact h.elim)
  rename_i te hte
  obtain⟨hb,h1,h2,h3⟩:=az0 h
  simp only[aK5]at hb
  obtain⟨⟨⟨⟨⟨c1,c2⟩,c3⟩,c4⟩,c5⟩,c6⟩:=hb
  have h1:=V.eq h1
  have h2:=V.eq h2
  simp only[ba7]at h1
  obtain⟨rfl,rfl,rfl⟩:=h1
  refine bg7.pre fun y hy'=>?_
  have hs:=aj0.mk (ao1:=hp) hy' hop hd hg hx hy hty hte (bq8 c2) c3 h2 c4
  have bS1:aR8 q.op=true:=by rw[hop];rfl
  have h4:=h3 y
  have hdd:∀d',q.dst=some d'->bi3 d' X.nt=true:=fun d' hd'=>by rw[hd]at hd';cases hd';exact c1
  have hff:∀N,ci3 q N tm hp:=fun N=>⟨fun _ d' hd'=>by rw[hd]at hd';cases hd';rw[c5,c6];rfl,fun id h'=>by rw[dr8 bS1]at h';cases h'⟩
  cases hz:aE6 d fz<;>rw[hz]at h4
  ·exact bF3 hc hs hdd (hff _) (M.ok hmx hdr (x y) Γ _ o hΓ h4)
  ·exact bF3 hc (hs.frz bS1 hd) hdd (hff _) (M.ok hmx hdr (x y) Γ _ o hΓ h4)
 |_,.Z z x,Γ,c,o,hΓ,h=>by
  simp only[M.chk]at h
  refine aL2 hmx (fun r l σ=>Out.never _) (!x.isJ) (!x.isD) fuel c ?_
  split at h<;>try(exact h.elim)
  ·rename_i ks tm hp hc
   rw[hc]
   split at h<;>try(exact h.elim)
   rename_i σ hz
   exact Z1.ej7 hz (M.ok hmx hdr x Γ (.S ks σ) o hΓ h)
  ·rename_i all kb ops ks tm hp hc
   rw[hc]
   split at h<;>try(exact h.elim)
   rename_i σ hz
   exact B9.via (fun k=>Z1.ej7 hz k) (M.ok hmx hdr x Γ (.O all kb ops ks σ) o hΓ h)
  ·rename_i id tm hp hc
   rw[hc]
   split at h<;>try(exact h.elim)
   rename_i σ hz
   exact Z1.ej7 hz (M.ok hmx hdr x Γ (.X id σ) o hΓ h)
 |_,.G b x y f,Γ,c,o,hΓ,h=>by
  simp only[M.chk]at h
  refine aL2 hmx (fun r l σ=>Out.never _) true true fuel c ?_
  split at h<;>try(exact h.elim)
  rename_i all kb ops ks tm hp hc
  rw[hc]
  split at h<;>try(exact h.elim)
  rename_i d b' g q r hg
  obtain⟨h1,h2,h3,h4⟩:=h
  have h1:=V.eq h1
  subst h1
  exact B9.grp hg (M.ok hmx hdr x Γ _ _ hΓ h2) (M.ok hmx hdr y Γ _ _ hΓ h3) (fun v=>M.ok hmx hdr (f v) Γ _ o hΓ (h4 v))
 |_,.J0 n s x f,Γ,c,o,hΓ,h=>by
  have key:∀c':Cg ρ,(match c' with| .S (.c z::ks) σ=>Tr.and (x.chk Ev X.C8 X.nt Qf Γ (.S [.c z] σ) (fun v=>.nx (upd (s v) ⟨rmv (aj9 z) σ.tm,σ.hp⟩))) (.all fun v=>(f v).chk Ev X.C8 X.nt Qf Γ (.S ks (upd (s v) ⟨rmv (aj9 z) σ.tm,σ.hp⟩)) o)|_=>Tr.bad).den->
    bg7 X (QfP Qf) c' (M.run (.J0 n s x f)) (fun v e σ'=>(o v).den (QfP Qf) e σ'):=by
   intro c' h
   split at h<;>try(exact h.elim)
   rename_i z ks σ
   refine E9.bind (Q₁:=fun v e σ'=>(Out.nx (upd (s v) ⟨rmv (aj9 z) σ.tm,σ.hp⟩)).den (QfP Qf) e σ') (M.ok hmx hdr x Γ (.S [.c z] σ) _ hΓ h.1) fun v e σ' _ hd=>?_
   obtain⟨rfl,hs⟩:=hd
   exact ab8.sub hs (M.ok hmx hdr (f v) Γ (.S ks _) o hΓ (h.2 v))
  cases n with
  |zero=>rw[M.chk]at h;exact aL2 hmx (fun r l σ=>Out.never _) false true fuel c (key _ h)
  |succ n=>
   rw[M.chk]at h
   ·exact aL2 hmx (fun r l σ=>Out.never _) true false fuel c (key _ h)
   ·exact fun h=>by cases h
 |_,.J n s k x f g,Γ,c,o,hΓ,h=>by
  have key:∀c':Cg ρ,(match c' with| .S (.c z::ks) σ=>Tr.and (x.chk Ev X.C8 X.nt Qf Γ (.S [.c z] σ) (fun v=>match v with| .inl v=>.nx (upd (s v) ⟨rmv (aj9 z) σ.tm,σ.hp⟩)| .inr w=>dg3 ⟨rmv (aj9 z) σ.tm,σ.hp⟩ (k.sh w))) (.and (.all fun v=>(f v).chk Ev X.C8 X.nt Qf Γ (.S ks (upd (s v) ⟨rmv (aj9 z) σ.tm,σ.hp⟩)) o) (k.all fun w sh=>(g w).chk Ev X.C8 X.nt Qf Γ (cont ks ⟨rmv (aj9 z) σ.tm,σ.hp⟩ sh) o))|_=>Tr.bad).den->
    bg7 X (QfP Qf) c' (M.run (.J n s k x f g)) (fun v e σ'=>(o v).den (QfP Qf) e σ'):=by
   intro c' h
   split at h<;>try(exact h.elim)
   rename_i z ks σ
   rw[M.run]
   refine E9.bind (M.ok hmx hdr x Γ (.S [.c z] σ) _ hΓ h.1) fun v e σ' _ hd=>?_
   cases v with
   |inl v=>
    obtain⟨rfl,hs⟩:=hd
    exact ab8.sub hs (M.ok hmx hdr (f v) Γ (.S ks _) o hΓ (h.2.1 v))
   |inr w=>exact cl9 hd (M.ok hmx hdr (g w) Γ _ o hΓ (Kd.dG1 h.2.2 w))
  cases n with
  |zero=>rw[M.chk]at h;exact aL2 hmx (fun r l σ=>Out.never _) false true fuel c (key _ h)
  |succ n=>
   rw[M.chk]at h
   ·exact aL2 hmx (fun r l σ=>Out.never _) true true (n+1) c (key _ h)
   ·exact fun h=>by cases h
 |_,.JF n s x i,Γ,c,o,hΓ,h=>by
  rw[M.chk]at h
  refine aL2 hmx (fun r l σ=>Out.never _) true true n c ?_
  split at h<;>try(exact h.elim)
  rename_i z ks σ hc
  rw[hc]
  obtain⟨hne,h1,h2⟩:=az0 h
  have out:∀(v:_) (e:Exit) (σ':St),(eJ0 (o v)).den (QfP Qf) e σ'->ab8 X ks e σ' (some v) (fun v e σ'=>(o v).den (QfP Qf) e σ'):=fun v e σ' hd=>by
   obtain⟨hn,hd⟩:=eJ1 hd
   intro r hr a w hw
   cases hr
   cases e with
   |normal=>exact absurd rfl hn
   |exit id=>exact ay2 (dT0 hne) ⟨σ',hw,hd⟩
   |ret=>exact bs9 ks ⟨σ',hw,hd⟩
   |goto l=>exact absurd hd (Out.never _)
   |panic ch=>exact absurd hd ((Out.calm _).1 ch)
   |outgrown=>exact absurd hd (Out.calm _).2
  refine E9.bind (M.ok hmx hdr x Γ (.S [.c z] σ) _ hΓ h1) fun v e σ' _ hd=>?_
  cases v with
  |next v=>
   obtain⟨rfl,hs⟩:=hd
   exact ab8.sub hs (aL2 (c:=.S ks _) hmx (fun r l σ=>Out.never _) true true fuel (dS4 (h2 v)))
  |brk v=>exact out _ e σ' hd
  |ret w=>exact out _ e σ' hd
 |_,.L (S:=S) (γ:=γ) hd nx k x s₀ f g,Γ,c,o,hΓ,h=>by
  rw[M.chk]at h
  refine aL2 hmx (fun r l σ=>Out.never _) true true fuel c ?_
  split at h<;>try(exact h.elim)
  rename_i z ks σ hc
  rw[hc]
  obtain⟨h1,h2,h3,h4⟩:=h
  rw[M.run]
  refine E9.loop (S:=S) (B:=S⊕γ) (fun a=>upd (hd a) ⟨rmv (aj9 z) σ.tm,σ.hp⟩) (fun(b:S⊕γ) e σ'=>match b with| .inl a'=>(Out.ex nx (upd (hd a') ⟨rmv (aj9 z) σ.tm,σ.hp⟩)).den (QfP Qf) e σ'| .inr w=>(dg3 ⟨rmv (aj9 z) σ.tm,σ.hp⟩ (k.sh w)).den (QfP Qf) e σ') (cq6 h1) (fun a=>?_) (fun b e σ' _ hq=>?_)
  ·have:=M.ok hmx hdr (x a) Γ (.S [.c z] (upd (hd a) ⟨rmv (aj9 z) σ.tm,σ.hp⟩)) _ hΓ (h2 a)
   refine fun r hr a w hw=>aM3 (fun e a w hp=>?_) _ _ _ _ (this r hr a w hw)
   obtain⟨σ',hs,hq⟩:=hp
   refine⟨σ',hs,?_⟩
   cases r with
   |inl s'=>exact hq
   |inr b=>
    cases b with
    |inl s'=>obtain⟨rfl,hs⟩:=hq;exact⟨by simp,rfl,hs⟩
    |inr w=>exact dz4 hq
  ·cases b with
   |inl a=>exact cl9 (s:=.ex nx (hd a)) hq (M.ok hmx hdr (f a) Γ _ o hΓ (h3 a))
   |inr w=>exact cl9 hq (M.ok hmx hdr (g w) Γ _ o hΓ (Kd.dG1 h4 w))
 |_,.LQ (S:=S) (γ:=γ) ri hd nx k x s₀ f g,Γ,c,o,hΓ,h=>by
  rw[M.chk]at h
  refine aL2 hmx (fun r l σ=>Out.never _) true true fuel c ?_
  split at h<;>try(exact h.elim)
  rename_i z ks σ hc
  rw[hc]
  obtain⟨h1,h2,h3,h4⟩:=h
  rw[M.run]
  refine E9.loop (S:=Int×S) (B:=S⊕γ) (fun a=>upd (.t ri (.t (tI a.1))::hd a.2) ⟨rmv (aj9 z) σ.tm,σ.hp⟩) (fun(b:S⊕γ) e σ'=>match b with| .inl a'=>(Out.ex nx (upd (hd a') ⟨rmv (aj9 z) σ.tm,σ.hp⟩)).den (QfP Qf) e σ'| .inr w=>(dg3 ⟨rmv (aj9 z) σ.tm,σ.hp⟩ (k.sh w)).den (QfP Qf) e σ') (cq6 h1) (fun a=>?_) (fun b e σ' _ hq=>?_)
  ·have:=M.ok hmx hdr (x a) Γ (.S [.c z] (upd (.t ri (.t (tI a.1))::hd a.2) ⟨rmv (aj9 z) σ.tm,σ.hp⟩)) _ hΓ (h2 a)
   refine fun r hr a w hw=>aM3 (fun e a w hp=>?_) _ _ _ _ (this r hr a w hw)
   obtain⟨σ',hs,hq⟩:=hp
   refine⟨σ',hs,?_⟩
   cases r with
   |inl s'=>exact hq
   |inr b=>
    cases b with
    |inl s'=>obtain⟨rfl,hs⟩:=hq;exact⟨by simp,rfl,hs⟩
    |inr w=>exact dz4 hq
  ·cases b with
   |inl a=>exact cl9 (s:=.ex nx (hd a)) hq (M.ok hmx hdr (f a) Γ _ o hΓ (h3 a))
   |inr w=>exact cl9 hq (M.ok hmx hdr (g w) Γ _ o hΓ (Kd.dG1 h4 w))
 |_,.A enc l i f,Γ,c,o,hΓ,h=>bg7.pre fun y hy=>M.ok hmx hdr (f y) (⟨enc,l,i,y⟩::Γ) c o (fun g hg=>by
   rcases ca1.1 hg with rfl|hg
   ·exact hy
   ·exact hΓ g hg) (h y)
 |_,.B x,Γ,c,o,hΓ,h=>by
  simp only[M.chk]at h
  refine aL2 hmx (fun r l σ=>Out.never _) false true fuel c ?_
  split at h<;>try(exact h.elim)
  rename_i id z ks σ hc
  rw[hc]
  exact E9.block (M.ok hmx hdr x Γ _ o hΓ h)
 |_,.D fz ws x,Γ,c,o,hΓ,h=>by
  simp only[M.chk]at h
  refine aL2 hmx (fun r l σ=>Out.never _) (!x.isJ) false fuel c ?_
  split at h<;>try(exact h.elim)
  rename_i id ops ks σ hc
  rw[hc]
  have:=M.ok hmx hdr x Γ _ o hΓ h (by simp) rfl (fun i V N o b hi=>by simp at hi)
  exact fun r hr a w hw=>this r hr a w (hw.bM2 (fun k t hk=>(cn1 hk).2) (fun k b hk=>hk))
 |_,.Sp b x y,Γ,c,o,hΓ,h=>by
  simp only[M.chk]at h
  refine aL2 hmx (fun r l σ=>Out.never _) true true fuel c ?_
  split at h<;>try(exact h.elim)
  ·rename_i id all h0 bs ws q r vs tm0 hp0 fz kb ks hcc
   rw[hcc]
   split at h<;>try(exact h.elim)
   rename_i j b' hc
   obtain⟨h1,h2,h3⟩:=h
   have h1:=V.eq h1
   subst h1
   exact fa4 hc (M.ok hmx hdr x Γ _ o hΓ h2) (M.ok hmx hdr y Γ _ o hΓ h3)
  ·rename_i all kb q r ks tm hp hcc
   rw[hcc]
   split at h<;>try(exact h.elim)
   rename_i d b' hc
   obtain⟨h1,h2,h3⟩:=h
   have h1:=V.eq h1
   subst h1
   exact eM4 hc (M.ok hmx hdr x Γ _ o hΓ h2) (M.ok hmx hdr y Γ _ o hΓ h3)
 |_,.Nl enc l x y,Γ,c,o,hΓ,h=>by
  simp only[M.chk]at h
  refine aL2 hmx (fun r l σ=>Out.never _) true true fuel c ?_
  split at h<;>try(exact h.elim)
  rename_i all kb q r ks tm hp hc
  rw[hc]
  split at h<;>try(exact h.elim)
  rename_i t z yt d hg ho hd
  split at h<;>try(exact h.elim)
  rename_i s0 e z0 n rs hty hz
  obtain⟨hb,h1,h2,h3,h4⟩:=az0 h
  have h1:=V.eq h1
  subst h1
  have h2:=V.eq h2
  refine B9.isNil ho hd hb (aG2 hg) hty hz fun b hbl=>?_
  cases b
  ·exact M.ok hmx hdr (y l) Γ (.O all kb r ks _) o hΓ h4
  ·have hl:=hbl rfl
   have e1:M.run (.Nl enc l x y)=x.run:=by rw[M.run,hl,h2]
   rw[e1]
   exact M.ok hmx hdr x Γ (.O all kb r ks _) o hΓ h3
 |_,.Pn id x,Γ,c,o,hΓ,h=>by
  simp only[M.chk]at h
  refine aL2 hmx (fun r l σ=>Out.never _) (!x.isJ) false fuel c ?_
  split at h<;>try(exact h.elim)
  rename_i ks tm hp hc
  rw[hc]
  split at h<;>try(exact h.elim)
  rename_i e sz n rs hb
  intro r hr a w hw
  obtain⟨v,hv⟩:=hw.pin id hb
  exact M.ok hmx hdr x Γ _ o hΓ (h v) r hr a w hv
 |_,.Mm id x,Γ,c,o,hΓ,h=>by
  simp only[M.chk]at h
  refine aL2 hmx (fun r l σ=>Out.never _) true true fuel c ?_
  split at h<;>try(exact h.elim)
  rename_i all kb q r ks tm hp hc
  rw[hc]
  split at h<;>try(exact h.elim)
  rename_i t d hg ho hd
  obtain⟨hb,h1⟩:=az0 h
  simp only[aK5]at hb
  exact B9.eW7 id ho hd hb.1 (aG2 hg) hb.2.1 hb.2.2.1 hb.2.2.2 (M.ok hmx hdr x Γ (.O all kb r ks _) o hΓ h1)
 |_,.Ml m l k x,Γ,c,o,hΓ,h=>by
  simp only[M.chk]at h
  refine aL2 hmx (fun r l σ=>Out.never _) true true fuel c ?_
  split at h<;>try(exact h.elim)
  rename_i all kb q r ks tm hp hc
  rw[hc]
  split at h<;>try(exact h.elim)
  rename_i t a b d hg ho hd
  split at h<;>try(exact h.elim)
  rename_i id kv ha hb
  split at h<;>try(exact h.elim)
  rename_i es hl
  obtain⟨hb2,h1,h2⟩:=az0 h
  have h3:=V.eq h1
  simp only[ba7]at h3
  obtain⟨e1,e2,e3⟩:=h3
  subst e1 e2 e3
  letI:=m.beq
  exact B9.es7 m.law ho hd hb2 (aG2 hg) ha hl hb m.ht m.hk m.hz (M.ok hmx hdr x Γ (.O all kb r ks _) o hΓ h2)
 |_,.Mu m l k v x,Γ,c,o,hΓ,h=>by
  simp only[M.chk]at h
  refine aL2 hmx (fun r l σ=>Out.never _) true true fuel c ?_
  split at h<;>try(exact h.elim)
  rename_i all kb q r ks tm hp hc
  rw[hc]
  split at h<;>try(exact h.elim)
  rename_i t a b u hg ho hd
  split at h<;>try(exact h.elim)
  rename_i id kv uv ha hb hu
  split at h<;>try(exact h.elim)
  rename_i es hl
  obtain⟨h1,h2⟩:=h
  have h3:=V.eq h1
  simp only[ba7]at h3
  obtain⟨e1,e2,e3,e4⟩:=h3
  subst e1 e2 e3 e4
  letI:=m.beq
  exact B9.eB6 m.law ho hd (aG2 hg) ha hl hb hu m.ht m.hk (M.ok hmx hdr x Γ (.O all kb r ks _) o hΓ h2)
end
section
variable {P:Program} {ρ:Type} {C8:Tab}
def qfF (C8:Tab)(rs:List ResultVar)(res:ρ->T)(r:ρ)(σ:St):Tr:=tq (dp1 C8 σ rs) (some (res r))
def nmG (t0 r:T)(hp X8:List (Nat×G6)):List (Nat×Nat):=
 match dd1 (mtT t0 r) []with
 |l=>match dd1 (boxes hp X8) l with
  |l=>rest X8 l
 where
 boxes (hp:List (Nat×G6)):List (Nat×G6)->List (Nat×Nat)
  |[]=>[]
  |(j,.box us)::r=>(j,j)::(match look hp j with|some (.box ts)=>mtT.mtL ts us|_=>[])++boxes hp r
  |_::r=>boxes hp r
 has2 (j:Nat):List (Nat×Nat)->Bool
  |[]=>false
  |p::r=>bif br8 p.2 j then true else has2 j r
 rest:List (Nat×G6)->List (Nat×Nat)->List (Nat×Nat)
  |[],l=>l
  |(j,_)::r,l=>bif has2 j l then rest r l else rest r (l++[(j,j)])
def qfG (C8:Tab)(rs:List ResultVar)(res:ρ->T)(X8:ρ->List (Nat×G6))(r:ρ)(σ:St):Tr:=
 match eF7 C8 σ rs with
 |some t0=>match nmG t0 (res r) σ.hp (X8 r)with
  |nm=>match aN2 nm t0 with
   |some t1=>bif cC9 nm&&bb8 (nm.map (·.1))then .and (tq (mrg t1 (res r)) (res r)) (tq ((X8 r).map (eF6 nm σ.hp)) ((X8 r).map fun p=>some p.2))else .bad
   |none=>.bad
 |none=>.bad
def eY2 {rs:List ResultVar}{res:ρ->T}{X8:ρ->List (Nat×G6)}{r:ρ}{σ:St}(h:(qfG C8 rs res X8 r σ).den):eQ7 C8 σ rs (res r) (X8 r):=by
 unfold qfG at h
 split at h<;>try(exact h.elim)
 rename_i t0 h0
 dsimp only at h
 split at h<;>try(exact h.elim)
 rename_i t1 h1
 obtain⟨hb,h2,h3⟩:=az0 h
 exact⟨_,t0,t1,hb,h0,h1,V.eq h2,V.eq h3⟩
def eS4 (Ev:EqV P)(C8:Tab)(fn:Func)(args:List T)(res:ρ->T)(x:M P ρ ρ):Tr:=
 match fn.body with
 |some c=>bif dE8 args.length fn.ntmps then x.chk Ev C8 fn.ntmps (qfF C8 fn.results.toList res) [] (.S [.c c] ⟨number 0 args,[]⟩) .top else .bad
 |none=>.bad
def eS5 (Ev:EqV P)(C8:Tab)(fn:Func)(args:List T)(hp:List (Nat×G6))(res:ρ->T)(X8:ρ->List (Nat×G6))(x:M P ρ ρ):Tr:=
 match fn.body with
 |some c=>bif dE8 args.length fn.ntmps then x.chk Ev C8 fn.ntmps (qfG C8 fn.results.toList res X8) [] (.S [.c c] ⟨number 0 args,hp⟩) .top else .bad
 |none=>.bad
structure En (P:Program)where
 C8:Tab
 K6:aW1 P C8
 Ev:EqV P
 hmx:P.follows .mixedOrders=true
def C.of (Z:En P){n:Nat}{fn:Func}(aL6:∀vs w,(callFunc n vs).run P w= .ok (.enter n vs) w)(hf:P.funcs[n]? =some fn)(args:List T)(res:ρ->T)(x:M P ρ ρ)
  (h:(eS4 Z.Ev Z.C8 fn args res x).l=(eS4 Z.Ev Z.C8 fn args res x).r:=by kernel_rfl):C P ρ where
 n:=n
 args:=args
 m:=x.run
 e:=fun k=>x.rn k
 res:=res
 d:=Z.Ev.dr
 ok:=by
  have h:=Tr.of h
  unfold eS4 at h
  split at h<;>try(exact h.elim)
  rename_i c hb
  obtain⟨hle,h⟩:=az0 h
  refine aM2.i Z.K6 fn.ntmps fn.results.toList aL6 hf hb rfl rfl hle fun w0 L gl hld=>?_
  have key:E9 ⟨P,Z.C8,Z.K6,w0,L,fn.ntmps,gl⟩ [.c c] _ x.run _:=M.ok (X:=⟨P,Z.C8,Z.K6,w0,L,fn.ntmps,gl⟩) Z.hmx (fun hx=>by grind) x [] _ .top (by simp) h
  refine fun r hr a w hw=>aM3 (fun e a w hq=>?_) _ _ _ _ (key r hr a w hw)
  obtain⟨σ',hs,he,hq⟩:=hq
  exact⟨σ',hs,he,V.eq hq⟩
 le:=fun k r hr=>M.le k x r hr
def CG.of (Z:En P){n:Nat}{fn:Func}(aL6:∀vs w,(callFunc n vs).run P w= .ok (.enter n vs) w)(hf:P.funcs[n]? =some fn)(args:List T)(hp:List (Nat×G6))(res:ρ->T)(X8:ρ->List (Nat×G6))(nw:List Nat)(x:M P ρ ρ)
  (h:(eS5 Z.Ev Z.C8 fn args hp res X8 x).l=(eS5 Z.Ev Z.C8 fn args hp res X8 x).r:=by kernel_rfl):CG P ρ where
 n:=n
 args:=args
 hp:=hp
 m:=x.run
 e:=fun k=>x.rn k
 res:=res
 X8:=X8
 nw:=nw
 d:=Z.Ev.dr
 ok:=by
  have h:=Tr.of h
  unfold eS5 at h
  split at h<;>try(exact h.elim)
  rename_i c hb
  obtain⟨hle,h⟩:=az0 h
  refine bh6.i Z.K6 fn.ntmps fn.results.toList aL6 hf hb rfl rfl hle fun w0 L gl hld=>?_
  have key:E9 ⟨P,Z.C8,Z.K6,w0,L,fn.ntmps,gl⟩ [.c c] _ x.run _:=M.ok (X:=⟨P,Z.C8,Z.K6,w0,L,fn.ntmps,gl⟩) Z.hmx (fun hx=>by grind) x [] _ .top (by simp) h
  refine fun r hr a w hw=>aM3 (fun e a w hq=>?_) _ _ _ _ (key r hr a w hw)
  obtain⟨σ',hs,he,hq⟩:=hq
  exact⟨σ',hs,he,eY2 hq⟩
 le:=fun k r hr=>M.le k x r hr
end
open Go.MapKept in
def eZ2:KeyLaw .string (fun s:ByteArray=>.string s):=⟨fun a b=>by simp[Instr.sameNow],fun a=>by simp[IsKey],fun a b h=>by
 have e:a=b:=by
  obtain⟨a⟩:=a
  obtain⟨b⟩:=b
  have h2:(a==b)=true:=h
  rw[eq_of_beq h2]
 subst e
 simpa[Instr.sameBits]using h⟩
def du9 {α:Type}:List α->Option (List α)
 |[]=>some []
 |_=>none
def eK3 {α:Type}:List α->Int->Option (List α)
 |[x],n=>if n=1 then some [x]else none
 |_,_=>none
def dh2 {α:Type}(g:α->α->Option Int):List α->Option (List α)
 |[]=>some []
 |[x]=>match g x x with
  |some c=>bif decide (c<0)then none else some [x]
  |none=>none
 |_=>none
def dB9 {α:Type}{g g':α->α->Option Int}(hg:∀x y r,g' x y=some r->g x y=some r){l r:List α}(h:dh2 g' l=some r):bT9 g l=some r:=by
 match l,h with
 |[],h=>
  have:cK2 g ([]:List α):=⟨by simp,by simp,by simp,by simp,by simp,by simp⟩
  simp_all[bU0,dh2]
 |[x],h=>
  simp only[dh2]at h
  split at h<;>try(cases h;done)
  rename_i c hc
  have hx:=hg x x c hc
  cases hn:decide (c<0)<;>rw[hn]at h<;>simp only[fk7,fk6,reduceCtorEq,aI6]at h
  have hl:ltM g x x=false:=by grind [ltM]
  have:cK2 g [x]:=⟨by simp,by simp[hx],by grind,by simp[hl],by simp[hl],by simp⟩
  rw[bU0 this]
  simpa using h
 |_::_::_,h=>simp[dh2]at h
def dJ6 (x:Int):List Int->List Int
 |[]=>[x]
 |y::l=>bif decide (x<=y)then x::y::l else y::dJ6 x l
def isI:List Int->List Int
 |[]=>[]
 |x::l=>dJ6 x (isI l)
def cw2 (x:Int):∀l:List Int,(dJ6 x l).Perm (x::l)
 |[]=>.refl _
 |y::l=>by
  unfold dJ6
  cases decide (x<=y)
  ·exact((cw2 x l).cons y).trans (.swap x y l)
  ·exact .refl _
def dx0:∀l:List Int,(isI l).Perm l
 |[]=>.refl _
 |x::l=>(cw2 x _).trans ((dx0 l).cons x)
def cB7 (x:Int):∀{l:List Int},l.Pairwise (· <=·)->(dJ6 x l).Pairwise (· <=·)
 |[],_=>by simp[dJ6]
 |y::l,h=>by
  rw[ej0]at h
  unfold dJ6
  cases hd:decide (x<=y)
  ·refine ej0.2 ⟨fun z hz=>?_,cB7 x h.2⟩
   rcases ca1.1 ((cw2 x l).mem_iff.1 hz)with rfl|hz
   all_goals grind
  ·have hxy:=of_decide_eq_true hd
   exact ej0.2 ⟨fun z hz=>by
    grind,ej0.2 h⟩
def cQ9:∀l:List Int,(isI l).Pairwise (· <=·)
 |[]=>.nil
 |x::l=>cB7 x (cQ9 l)
theorem cV0:∀{l m:List Int},l.Perm m->l.Pairwise (· <=·)->m.Pairwise (· <=·)->l=m
 |[],m,h,_,_=>(List.Perm.eq_nil h.symm).symm
 |x::l,[],h,_,_=>absurd h.length_eq (by simp)
 |x::l,y::m,h,hl,hm=>by
  rw[ej0]at hl hm
  have hxy:x=y:=by
   have h1:x∈y::m:=h.mem_iff.1 (cq1 ..)
   have h2:y∈x::l:=h.mem_iff.2 (cq1 ..)
   rcases ca1.1 h1 with e|h1
   ·exact e
   rcases ca1.1 h2 with e|h2
   ·exact e.symm
   have:=hl.1 y h2
   have:=hm.1 x h1
   omega
  subst hxy
  rw[cV0 h.cons_inv hl.2 hm.2]
def dM7 (l:List Int):Option (List Int):=bif dE8 l.length 1000 then some (isI l)else none
def ef1 {l r:List Int}(h:dM7 l=some r):bT8 l=some r:=by
 unfold dM7 at h
 cases hl:dE8 l.length 1000<;>rw[hl]at h<;>simp only[fk7,fk6,reduceCtorEq,aI6]at h
 subst h
 have:=bd6 hl
 rw[cy4 (by omega)]
 congr 1
 refine cV0 ((List.mergeSort_perm ..).trans (dx0 l).symm) ?_ (cQ9 l)
 have:=List.pairwise_mergeSort (le:=fun x y:Int=>decide (x<=y)) (fun a b c h1 h2=>by grind) (fun a b=>by grind) l
 grind
open Go
def eF5 (n:Int):List Tree:=[tK .u16 n]
def eT2 (n:Int):List Tree:=[tK .u8 n]
@[ext] structure j8 where
 At:Int
 Channel:Int
 L4:Bool
def u9 (x:j8):List Tree:=[tI x.At,tI x.Channel,tB x.L4]
abbrev aB6 (x:j8):T:=.agg [.t (tI x.At),.t (tI x.Channel),.t (tB x.L4)]
@[ext] structure Q7 where
 Q6:Int
 W9:List Int
def T0 (x:Q7):List Tree:=[tI x.Q6,tS aI7 x.W9]
abbrev bV2 (x:Q7):T:=.agg [.t (tI x.Q6),.t (tS aI7 x.W9)]
@[ext] structure aa9 where
 Time:Int
 D7:Int
 o9:Int
 dr0:Int
 bO3:List j8
 K5:List Q7
 Off:Bool
def bn6 (x:aa9):List Tree:=[tI x.Time,tI x.D7,tI x.o9,tI x.dr0,tS u9 x.bO3,tS T0 x.K5,tB x.Off]
abbrev bh4 (x:aa9):T:=.agg [.t (tI x.Time),.t (tI x.D7),.t (tI x.o9),.t (tI x.dr0),.t (tS u9 x.bO3),.t (tS T0 x.K5),.t (tB x.Off)]
@[ext] structure y9 where
 Code:Int
 aW6:Int
 Pass:Int
 ci4:Int
 Age:Int
 E7:Int
 ca7:Bool
 Frame:Int
def H0 (x:y9):List Tree:=[tI x.Code,tI x.aW6,tI x.Pass,tI x.ci4,tI x.Age,tI x.E7,tB x.ca7,tI x.Frame]
abbrev aP0 (x:y9):T:=.agg [.t (tI x.Code),.t (tI x.aW6),.t (tI x.Pass),.t (tI x.ci4),.t (tI x.Age),.t (tI x.E7),.t (tB x.ca7),.t (tI x.Frame)]
@[ext] structure S1 where
 Name:ByteArray
 da4:Int
 E7:Int
 W9:List Int
 ci5:Int
def T3 (x:S1):List Tree:=[.v (.string x.Name),tI x.da4,tI x.E7,tS aI7 x.W9,tI x.ci5]
abbrev cz4 (x:S1):T:=.agg [.t (.v (.string x.Name)),.t (tI x.da4),.t (tI x.E7),.t (tS aI7 x.W9),.t (tI x.ci5)]
@[ext] structure SMap where
 X:List Int
 Y:List Int
 Z:List (List Int)
def cP1 (x:SMap):List Tree:=[tS aI7 x.X,tS aI7 x.Y,tS (cY6 aI7) x.Z]
abbrev di7 (x:SMap):T:=.agg [.t (tS aI7 x.X),.t (tS aI7 x.Y),.t (tS (cY6 aI7) x.Z)]
@[ext] structure Q4 where
 X:List Int
 Y:List Int
def bJ0 (x:Q4):List Tree:=[tS aI7 x.X,tS aI7 x.Y]
abbrev ci0 (x:Q4):T:=.agg [.t (tS aI7 x.X),.t (tS aI7 x.Y)]
@[ext] structure aW0 where
 P:Int
 I:Int
 Low:Int
 bt7:Int
def dZ2 (x:aW0):List Tree:=[tI x.P,tI x.I,tI x.Low,tI x.bt7]
abbrev di6 (x:aW0):T:=.agg [.t (tI x.P),.t (tI x.I),.t (tI x.Low),.t (tI x.bt7)]
@[ext] structure o7 where
 Air:SMap
 O2:SMap
 o9:SMap
 aI4:SMap
 M0:Q4
 af6:Q4
 aw6:Q4
 C7:Q4
 af5:aW0
def aR6 (x:o7):List Tree:=[tS aI7 x.Air.X,tS aI7 x.Air.Y,tS (cY6 aI7) x.Air.Z,tS aI7 x.O2.X,tS aI7 x.O2.Y,tS (cY6 aI7) x.O2.Z,tS aI7 x.o9.X,tS aI7 x.o9.Y,tS (cY6 aI7) x.o9.Z,tS aI7 x.aI4.X,tS aI7 x.aI4.Y,tS (cY6 aI7) x.aI4.Z,tS aI7 x.M0.X,tS aI7 x.M0.Y,tS aI7 x.af6.X,tS aI7 x.af6.Y,tS aI7 x.aw6.X,tS aI7 x.aw6.Y,tS aI7 x.C7.X,tS aI7 x.C7.Y,tI x.af5.P,tI x.af5.I,tI x.af5.Low,tI x.af5.bt7]
abbrev T5 (x:o7):T:=.agg [.t (tS aI7 x.Air.X),.t (tS aI7 x.Air.Y),.t (tS (cY6 aI7) x.Air.Z),.t (tS aI7 x.O2.X),.t (tS aI7 x.O2.Y),.t (tS (cY6 aI7) x.O2.Z),.t (tS aI7 x.o9.X),.t (tS aI7 x.o9.Y),.t (tS (cY6 aI7) x.o9.Z),.t (tS aI7 x.aI4.X),.t (tS aI7 x.aI4.Y),.t (tS (cY6 aI7) x.aI4.Z),.t (tS aI7 x.M0.X),.t (tS aI7 x.M0.Y),.t (tS aI7 x.af6.X),.t (tS aI7 x.af6.Y),.t (tS aI7 x.aw6.X),.t (tS aI7 x.aw6.Y),.t (tS aI7 x.C7.X),.t (tS aI7 x.C7.Y),.t (tI x.af5.P),.t (tI x.af5.I),.t (tI x.af5.Low),.t (tI x.af5.bt7)]
@[ext] structure L6 where
 aj5:Int
 ap6:Int
 aP6:Int
 J2:Int
 P5:Int
 M4:Int
 aY0:Int
def bE7 (x:L6):List Tree:=[tI x.aj5,tI x.ap6,tI x.aP6,tI x.J2,tI x.P5,tI x.M4,tI x.aY0]
abbrev aM0 (x:L6):T:=.agg [.t (tI x.aj5),.t (tI x.ap6),.t (tI x.aP6),.t (tI x.J2),.t (tI x.P5),.t (tI x.M4),.t (tI x.aY0)]
@[ext] structure o5 where
 A7:List Int
 as4:Int
def bR4 (x:o5):List Tree:=[tS aI7 x.A7,tI x.as4]
abbrev au5 (x:o5):T:=.agg [.t (tS aI7 x.A7),.t (tI x.as4)]
@[ext] structure V1 where
 Value:Int
 aj4:Int
 aV9:Bool
abbrev ci1 (x:V1):T:=.agg [.t (tI x.Value),.t (tI x.aj4),.t (tB x.aV9)]
@[ext] structure F9 where
 Sum:Int
abbrev by9 (x:F9):T:=.agg [.t (tI x.Sum)]
@[ext] structure C1 where
 at5:Int
 aI2:Int
 Quiet:Int
def I8 (x:C1):List Tree:=[tI x.at5,tI x.aI2,tI x.Quiet]
abbrev aX7 (x:C1):T:=.agg [.t (tI x.at5),.t (tI x.aI2),.t (tI x.Quiet)]
@[ext] structure ac0 where
 Value:Int
 Count:Int
def an8 (x:ac0):List Tree:=[tI x.Value,tI x.Count]
abbrev bV3 (x:ac0):T:=.agg [.t (tI x.Value),.t (tI x.Count)]
@[ext] structure N1 where
 K5:Bool
 be1:Bool
 ak6:Int
 be2:Int
 Cells:List ac0
abbrev bt4 (x:N1):T:=.agg [.t (tB x.K5),.t (tB x.be1),.t (tI x.ak6),.t (tI x.be2),.t (tS an8 x.Cells)]
@[ext] structure aa8 where
 o9:Int
 N7:Int
abbrev dq7 (x:aa8):T:=.agg [.t (tI x.o9),.t (tI x.N7)]
@[ext] structure A9 where
 L5:V1
 af5:F9
 ab9:List C1
 Q5:N1
 P5:Int
 af8:aa8
def bZ2 (x:A9):List Tree:=[tI x.L5.Value,tI x.L5.aj4,tB x.L5.aV9,tI x.af5.Sum,tS I8 x.ab9,tB x.Q5.K5,tB x.Q5.be1,tI x.Q5.ak6,tI x.Q5.be2,tS an8 x.Q5.Cells,tI x.P5,tI x.af8.o9,tI x.af8.N7]
abbrev aQ9 (x:A9):T:=.agg [.t (tI x.L5.Value),.t (tI x.L5.aj4),.t (tB x.L5.aV9),.t (tI x.af5.Sum),.t (tS I8 x.ab9),.t (tB x.Q5.K5),.t (tB x.Q5.be1),.t (tI x.Q5.ak6),.t (tI x.Q5.be2),.t (tS an8 x.Q5.Cells),.t (tI x.P5),.t (tI x.af8.o9),.t (tI x.af8.N7)]
@[ext] structure E8 where
 Y2:Bool
 At:Int
 I0:Int
 G1:Int
 ab6:Int
 as3:Int
abbrev bC4 (x:E8):T:=.agg [.t (tB x.Y2),.t (tI x.At),.t (tI x.I0),.t (tI x.G1),.t (tI x.ab6),.t (tI x.as3)]
@[ext] structure j7 where
 F4:Bool
 At:Int
 Next:Bool
 L4:Bool
def F2 (x:j7):List Tree:=[tB x.F4,tI x.At,tB x.Next,tB x.L4]
abbrev ba9 (x:j7):T:=.agg [.t (tB x.F4),.t (tI x.At),.t (tB x.Next),.t (tB x.L4)]
@[ext] structure A2 where
 V5:Int
 j2:List j7
def cP4 (x:A2):List Tree:=[tI x.V5,tS F2 x.j2]
abbrev aN8 (x:A2):T:=.agg [.t (tI x.V5),.t (tS F2 x.j2)]
@[ext] structure A6 where
 p7:Int
 O2:Int
 af6:Int
 End:Int
 Z7:Int
 Gap:Int
 Extra:Int
def B7 (x:A6):List Tree:=[tI x.p7,tI x.O2,tI x.af6,tI x.End,tI x.Z7,tI x.Gap,tI x.Extra]
abbrev aP8 (x:A6):T:=.agg [.t (tI x.p7),.t (tI x.O2),.t (tI x.af6),.t (tI x.End),.t (tI x.Z7),.t (tI x.Gap),.t (tI x.Extra)]
@[ext] structure C0 where
 I0:Int
 Kind:Int
 p7:Int
 aj6:Int
def ay4 (x:C0):List Tree:=[tI x.I0,tI x.Kind,tI x.p7,tI x.aj6]
abbrev aX6 (x:C0):T:=.agg [.t (tI x.I0),.t (tI x.Kind),.t (tI x.p7),.t (tI x.aj6)]
@[ext] structure B0 where
 Event:C0
 Left:Int
 F4:Bool
 At:Int
def I5 (x:B0):List Tree:=[tI x.Event.I0,tI x.Event.Kind,tI x.Event.p7,tI x.Event.aj6,tI x.Left,tB x.F4,tI x.At]
abbrev bd8 (x:B0):T:=.agg [.t (tI x.Event.I0),.t (tI x.Event.Kind),.t (tI x.Event.p7),.t (tI x.Event.aj6),.t (tI x.Left),.t (tB x.F4),.t (tI x.At)]
@[ext] structure c8 where
 A1:o5
 B5:E8
 j9:A2
 Next:List A6
 H7:List B0
 Cut:Bool
def bf2 (x:c8):List Tree:=[tS aI7 x.A1.A7,tI x.A1.as4,tB x.B5.Y2,tI x.B5.At,tI x.B5.I0,tI x.B5.G1,tI x.B5.ab6,tI x.B5.as3,tI x.j9.V5,tS F2 x.j9.j2,tS B7 x.Next,tS I5 x.H7,tB x.Cut]
abbrev S5 (x:c8):T:=.agg [.t (tS aI7 x.A1.A7),.t (tI x.A1.as4),.t (tB x.B5.Y2),.t (tI x.B5.At),.t (tI x.B5.I0),.t (tI x.B5.G1),.t (tI x.B5.ab6),.t (tI x.B5.as3),.t (tI x.j9.V5),.t (tS F2 x.j9.j2),.t (tS B7 x.Next),.t (tS I5 x.H7),.t (tB x.Cut)]
abbrev aM1 (x:c8):List T:=[.t (tS aI7 x.A1.A7),.t (tI x.A1.as4),.t (tB x.B5.Y2),.t (tI x.B5.At),.t (tI x.B5.I0),.t (tI x.B5.G1),.t (tI x.B5.ab6),.t (tI x.B5.as3),.t (tI x.j9.V5),.t (tS F2 x.j9.j2),.t (tS B7 x.Next),.t (tS I5 x.H7),.t (tB x.Cut)]
@[ext] structure ab5 where
 Mode:Int
 ay9:Int
 H6:Int
 G1:Int
 O1:Int
 aw7:Int
def dd4 (x:ab5):List Tree:=[tI x.Mode,tI x.ay9,tI x.H6,tI x.G1,tI x.O1,tI x.aw7]
abbrev aP9 (x:ab5):T:=.agg [.t (tI x.Mode),.t (tI x.ay9),.t (tI x.H6),.t (tI x.G1),.t (tI x.O1),.t (tI x.aw7)]
@[ext] structure ae3 where
 aY1:Bool
 bG7:Int
 Count:Int
 Seen:Bool
def cP2 (x:ae3):List Tree:=[tB x.aY1,tI x.bG7,tI x.Count,tB x.Seen]
abbrev aX8 (x:ae3):T:=.agg [.t (tB x.aY1),.t (tI x.bG7),.t (tI x.Count),.t (tB x.Seen)]
@[ext] structure aa7 where
 Seen:Bool
 H6:Int
 G1:Int
def cA7 (x:aa7):List Tree:=[tB x.Seen,tI x.H6,tI x.G1]
abbrev bc0 (x:aa7):T:=.agg [.t (tB x.Seen),.t (tI x.H6),.t (tI x.G1)]
@[ext] structure ai3 where
 Over:Int
 Calm:Int
 Off:Bool
def cP0 (x:ai3):List Tree:=[tI x.Over,tI x.Calm,tB x.Off]
abbrev bm2 (x:ai3):T:=.agg [.t (tI x.Over),.t (tI x.Calm),.t (tB x.Off)]
@[ext] structure ad9 where
 Question:Int
 ap5:Int
 T6:Int
 Open:Bool
 Off:Bool
def dd3 (x:ad9):List Tree:=[tI x.Question,tI x.ap5,tI x.T6,tB x.Open,tB x.Off]
abbrev aT3 (x:ad9):T:=.agg [.t (tI x.Question),.t (tI x.ap5),.t (tI x.T6),.t (tB x.Open),.t (tB x.Off)]
@[ext] structure ao8 where
 W4:Bool
 bt6:Int
 aR0:Int
def bv6 (x:ao8):List Tree:=[tB x.W4,tI x.bt6,tI x.aR0]
abbrev bm3 (x:ao8):T:=.agg [.t (tB x.W4),.t (tI x.bt6),.t (tI x.aR0)]
@[ext] structure A5 where
 D8:Int
 Count:Int
 J7:Int
 Clean:Int
 A8:Int
 Frame:List Int
 H6:Int
def G4 (x:A5):List Tree:=[tI x.D8,tI x.Count,tI x.J7,tI x.Clean,tI x.A8,tS aI7 x.Frame,tI x.H6]
abbrev cJ7 (x:A5):T:=.agg [.t (tI x.D8),.t (tI x.Count),.t (tI x.J7),.t (tI x.Clean),.t (tI x.A8),.t (tS aI7 x.Frame),.t (tI x.H6)]
@[ext] structure C2 where
 T9:List y9
 L:List A5
 aI1:Int
 ay1:Bool
def aR5 (x:C2):List Tree:=[tS H0 x.T9,tS G4 x.L,tI x.aI1,tB x.ay1]
abbrev aB5 (x:C2):T:=.agg [.t (tS H0 x.T9),.t (tS G4 x.L),.t (tI x.aI1),.t (tB x.ay1)]
@[ext] structure Z8 where
 K7:Int
 D7:Int
 Rest:Int
 N0:Int
 P5:Int
 Path:List Int
def cP3 (x:Z8):List Tree:=[tI x.K7,tI x.D7,tI x.Rest,tI x.N0,tI x.P5,tS aI7 x.Path]
abbrev aX9 (x:Z8):T:=.agg [.t (tI x.K7),.t (tI x.D7),.t (tI x.Rest),.t (tI x.N0),.t (tI x.P5),.t (tS aI7 x.Path)]
@[ext] structure af9 where
 A0:o7
 w9:A9
 j3:c8
 Q8:ab5
 M9:ae3
 I2:aa7
 M3:ai3
 K4:ad9
 M5:ao8
 D9:C2
 B3:Z8
 ab7:L6
 Time:Int
abbrev ca2 (x:af9):T:=.agg [.t (tS aI7 x.A0.Air.X),.t (tS aI7 x.A0.Air.Y),.t (tS (cY6 aI7) x.A0.Air.Z),.t (tS aI7 x.A0.O2.X),.t (tS aI7 x.A0.O2.Y),.t (tS (cY6 aI7) x.A0.O2.Z),.t (tS aI7 x.A0.o9.X),.t (tS aI7 x.A0.o9.Y),.t (tS (cY6 aI7) x.A0.o9.Z),.t (tS aI7 x.A0.aI4.X),.t (tS aI7 x.A0.aI4.Y),.t (tS (cY6 aI7) x.A0.aI4.Z),.t (tS aI7 x.A0.M0.X),.t (tS aI7 x.A0.M0.Y),.t (tS aI7 x.A0.af6.X),.t (tS aI7 x.A0.af6.Y),.t (tS aI7 x.A0.aw6.X),.t (tS aI7 x.A0.aw6.Y),.t (tS aI7 x.A0.C7.X),.t (tS aI7 x.A0.C7.Y),.t (tI x.A0.af5.P),.t (tI x.A0.af5.I),.t (tI x.A0.af5.Low),.t (tI x.A0.af5.bt7),.t (tI x.w9.L5.Value),.t (tI x.w9.L5.aj4),.t (tB x.w9.L5.aV9),.t (tI x.w9.af5.Sum),.t (tS I8 x.w9.ab9),.t (tB x.w9.Q5.K5),.t (tB x.w9.Q5.be1),.t (tI x.w9.Q5.ak6),.t (tI x.w9.Q5.be2),.t (tS an8 x.w9.Q5.Cells),.t (tI x.w9.P5),.t (tI x.w9.af8.o9),.t (tI x.w9.af8.N7),.t (tS aI7 x.j3.A1.A7),.t (tI x.j3.A1.as4),.t (tB x.j3.B5.Y2),.t (tI x.j3.B5.At),.t (tI x.j3.B5.I0),.t (tI x.j3.B5.G1),.t (tI x.j3.B5.ab6),.t (tI x.j3.B5.as3),.t (tI x.j3.j9.V5),.t (tS F2 x.j3.j9.j2),.t (tS B7 x.j3.Next),.t (tS I5 x.j3.H7),.t (tB x.j3.Cut),.t (tI x.Q8.Mode),.t (tI x.Q8.ay9),.t (tI x.Q8.H6),.t (tI x.Q8.G1),.t (tI x.Q8.O1),.t (tI x.Q8.aw7),.t (tB x.M9.aY1),.t (tI x.M9.bG7),.t (tI x.M9.Count),.t (tB x.M9.Seen),.t (tB x.I2.Seen),.t (tI x.I2.H6),.t (tI x.I2.G1),.t (tI x.M3.Over),.t (tI x.M3.Calm),.t (tB x.M3.Off),.t (tI x.K4.Question),.t (tI x.K4.ap5),.t (tI x.K4.T6),.t (tB x.K4.Open),.t (tB x.K4.Off),.t (tB x.M5.W4),.t (tI x.M5.bt6),.t (tI x.M5.aR0),.t (tS H0 x.D9.T9),.t (tS G4 x.D9.L),.t (tI x.D9.aI1),.t (tB x.D9.ay1),.t (tI x.B3.K7),.t (tI x.B3.D7),.t (tI x.B3.Rest),.t (tI x.B3.N0),.t (tI x.B3.P5),.t (tS aI7 x.B3.Path),.t (tI x.ab7.aj5),.t (tI x.ab7.ap6),.t (tI x.ab7.aP6),.t (tI x.ab7.J2),.t (tI x.ab7.P5),.t (tI x.ab7.M4),.t (tI x.ab7.aY0),.t (tI x.Time)]
abbrev eQ4 (x:af9):List T:=[.t (tS aI7 x.A0.Air.X),.t (tS aI7 x.A0.Air.Y),.t (tS (cY6 aI7) x.A0.Air.Z),.t (tS aI7 x.A0.O2.X),.t (tS aI7 x.A0.O2.Y),.t (tS (cY6 aI7) x.A0.O2.Z),.t (tS aI7 x.A0.o9.X),.t (tS aI7 x.A0.o9.Y),.t (tS (cY6 aI7) x.A0.o9.Z),.t (tS aI7 x.A0.aI4.X),.t (tS aI7 x.A0.aI4.Y),.t (tS (cY6 aI7) x.A0.aI4.Z),.t (tS aI7 x.A0.M0.X),.t (tS aI7 x.A0.M0.Y),.t (tS aI7 x.A0.af6.X),.t (tS aI7 x.A0.af6.Y),.t (tS aI7 x.A0.aw6.X),.t (tS aI7 x.A0.aw6.Y),.t (tS aI7 x.A0.C7.X),.t (tS aI7 x.A0.C7.Y),.t (tI x.A0.af5.P),.t (tI x.A0.af5.I),.t (tI x.A0.af5.Low),.t (tI x.A0.af5.bt7),.t (tI x.w9.L5.Value),.t (tI x.w9.L5.aj4),.t (tB x.w9.L5.aV9),.t (tI x.w9.af5.Sum),.t (tS I8 x.w9.ab9),.t (tB x.w9.Q5.K5),.t (tB x.w9.Q5.be1),.t (tI x.w9.Q5.ak6),.t (tI x.w9.Q5.be2),.t (tS an8 x.w9.Q5.Cells),.t (tI x.w9.P5),.t (tI x.w9.af8.o9),.t (tI x.w9.af8.N7),.t (tS aI7 x.j3.A1.A7),.t (tI x.j3.A1.as4),.t (tB x.j3.B5.Y2),.t (tI x.j3.B5.At),.t (tI x.j3.B5.I0),.t (tI x.j3.B5.G1),.t (tI x.j3.B5.ab6),.t (tI x.j3.B5.as3),.t (tI x.j3.j9.V5),.t (tS F2 x.j3.j9.j2),.t (tS B7 x.j3.Next),.t (tS I5 x.j3.H7),.t (tB x.j3.Cut),.t (tI x.Q8.Mode),.t (tI x.Q8.ay9),.t (tI x.Q8.H6),.t (tI x.Q8.G1),.t (tI x.Q8.O1),.t (tI x.Q8.aw7),.t (tB x.M9.aY1),.t (tI x.M9.bG7),.t (tI x.M9.Count),.t (tB x.M9.Seen),.t (tB x.I2.Seen),.t (tI x.I2.H6),.t (tI x.I2.G1),.t (tI x.M3.Over),.t (tI x.M3.Calm),.t (tB x.M3.Off),.t (tI x.K4.Question),.t (tI x.K4.ap5),.t (tI x.K4.T6),.t (tB x.K4.Open),.t (tB x.K4.Off),.t (tB x.M5.W4),.t (tI x.M5.bt6),.t (tI x.M5.aR0),.t (tS H0 x.D9.T9),.t (tS G4 x.D9.L),.t (tI x.D9.aI1),.t (tB x.D9.ay1),.t (tI x.B3.K7),.t (tI x.B3.D7),.t (tI x.B3.Rest),.t (tI x.B3.N0),.t (tI x.B3.P5),.t (tS aI7 x.B3.Path),.t (tI x.ab7.aj5),.t (tI x.ab7.ap6),.t (tI x.ab7.aP6),.t (tI x.ab7.J2),.t (tI x.ab7.P5),.t (tI x.ab7.M4),.t (tI x.ab7.aY0),.t (tI x.Time)]
@[ext] structure aa6 where
 ca5:Int
 To:Int
 az4:Int
 Value:Int
def aH6 (x:aa6):List Tree:=[tI x.ca5,tI x.To,tI x.az4,tI x.Value]
abbrev bO0 (x:aa6):T:=.agg [.t (tI x.ca5),.t (tI x.To),.t (tI x.az4),.t (tI x.Value)]
@[ext] structure I9 where
 At:Int
 L5:Int
 bt5:Int
 ca6:Int
 ca8:Int
def aD4 (x:I9):List Tree:=[tI x.At,tI x.L5,tI x.bt5,tI x.ca6,tI x.ca8]
abbrev bd7 (x:I9):T:=.agg [.t (tI x.At),.t (tI x.L5),.t (tI x.bt5),.t (tI x.ca6),.t (tI x.ca8)]
@[ext] structure aI8 where
 aw7:Int
 aQ0:Int
def ce2 (x:aI8):List Tree:=[tI x.aw7,tI x.aQ0]
abbrev aC7 (x:aI8):T:=.agg [.t (tI x.aw7),.t (tI x.aQ0)]
@[ext] structure ci7 where
 bz0:List Int
def cO9 (x:ci7):List Tree:=[tS aI7 x.bz0]
abbrev bO1 (x:ci7):T:=.agg [.t (tS aI7 x.bz0)]
abbrev dF0 (x:(Int×Int×Int×Int×Int)):T:=.agg [.t (tI x.1),.t (tI x.2.1),.t (tI x.2.2.1),.t (tI x.2.2.2.1),.t (tI x.2.2.2.2)]
@[ext] structure J1 where
 word:ByteArray
 low:Int
 high:Int
abbrev ca3 (x:(J1×J1×J1×J1×J1)):T:=.agg [.t (.v (.string x.1.word)),.t (tI x.1.low),.t (tI x.1.high),.t (.v (.string x.2.1.word)),.t (tI x.2.1.low),.t (tI x.2.1.high),.t (.v (.string x.2.2.1.word)),.t (tI x.2.2.1.low),.t (tI x.2.2.1.high),.t (.v (.string x.2.2.2.1.word)),.t (tI x.2.2.2.1.low),.t (tI x.2.2.2.1.high),.t (.v (.string x.2.2.2.2.word)),.t (tI x.2.2.2.2.low),.t (tI x.2.2.2.2.high)]
@[ext] structure O8 where
 J2:Int
 O3:List A6
 o9:Int
def cm4 (x:O8):List Tree:=[tI x.J2,tS B7 x.O3,tI x.o9]
abbrev dE9 (x:O8):T:=.agg [.t (tI x.J2),.t (tS B7 x.O3),.t (tI x.o9)]
@[ext] structure j6 where
 u:af9
 d:I9
 k:List aa6
 t:Int
 o8:Int
 Z9:List Q7
 au4:Int
 C5:Int
 aQ7:Int
 D6:Int
 aJ8:Int
 F3:O8
 V9:Int
 A4:Int
 known:Bool
 cut:Bool
 A3:List j8
 T8:Int
def bl4 (x:j6):List Tree:=[tS aI7 x.u.A0.Air.X,tS aI7 x.u.A0.Air.Y,tS (cY6 aI7) x.u.A0.Air.Z,tS aI7 x.u.A0.O2.X,tS aI7 x.u.A0.O2.Y,tS (cY6 aI7) x.u.A0.O2.Z,tS aI7 x.u.A0.o9.X,tS aI7 x.u.A0.o9.Y,tS (cY6 aI7) x.u.A0.o9.Z,tS aI7 x.u.A0.aI4.X,tS aI7 x.u.A0.aI4.Y,tS (cY6 aI7) x.u.A0.aI4.Z,tS aI7 x.u.A0.M0.X,tS aI7 x.u.A0.M0.Y,tS aI7 x.u.A0.af6.X,tS aI7 x.u.A0.af6.Y,tS aI7 x.u.A0.aw6.X,tS aI7 x.u.A0.aw6.Y,tS aI7 x.u.A0.C7.X,tS aI7 x.u.A0.C7.Y,tI x.u.A0.af5.P,tI x.u.A0.af5.I,tI x.u.A0.af5.Low,tI x.u.A0.af5.bt7,tI x.u.w9.L5.Value,tI x.u.w9.L5.aj4,tB x.u.w9.L5.aV9,tI x.u.w9.af5.Sum,tS I8 x.u.w9.ab9,tB x.u.w9.Q5.K5,tB x.u.w9.Q5.be1,tI x.u.w9.Q5.ak6,tI x.u.w9.Q5.be2,tS an8 x.u.w9.Q5.Cells,tI x.u.w9.P5,tI x.u.w9.af8.o9,tI x.u.w9.af8.N7,tS aI7 x.u.j3.A1.A7,tI x.u.j3.A1.as4,tB x.u.j3.B5.Y2,tI x.u.j3.B5.At,tI x.u.j3.B5.I0,tI x.u.j3.B5.G1,tI x.u.j3.B5.ab6,tI x.u.j3.B5.as3,tI x.u.j3.j9.V5,tS F2 x.u.j3.j9.j2,tS B7 x.u.j3.Next,tS I5 x.u.j3.H7,tB x.u.j3.Cut,tI x.u.Q8.Mode,tI x.u.Q8.ay9,tI x.u.Q8.H6,tI x.u.Q8.G1,tI x.u.Q8.O1,tI x.u.Q8.aw7,tB x.u.M9.aY1,tI x.u.M9.bG7,tI x.u.M9.Count,tB x.u.M9.Seen,tB x.u.I2.Seen,tI x.u.I2.H6,tI x.u.I2.G1,tI x.u.M3.Over,tI x.u.M3.Calm,tB x.u.M3.Off,tI x.u.K4.Question,tI x.u.K4.ap5,tI x.u.K4.T6,tB x.u.K4.Open,tB x.u.K4.Off,tB x.u.M5.W4,tI x.u.M5.bt6,tI x.u.M5.aR0,tS H0 x.u.D9.T9,tS G4 x.u.D9.L,tI x.u.D9.aI1,tB x.u.D9.ay1,tI x.u.B3.K7,tI x.u.B3.D7,tI x.u.B3.Rest,tI x.u.B3.N0,tI x.u.B3.P5,tS aI7 x.u.B3.Path,tI x.u.ab7.aj5,tI x.u.ab7.ap6,tI x.u.ab7.aP6,tI x.u.ab7.J2,tI x.u.ab7.P5,tI x.u.ab7.M4,tI x.u.ab7.aY0,tI x.u.Time,tI x.d.At,tI x.d.L5,tI x.d.bt5,tI x.d.ca6,tI x.d.ca8,tS aH6 x.k,tI x.t,tI x.o8,tS T0 x.Z9,tI x.au4,tI x.C5,tI x.aQ7,tI x.D6,tI x.aJ8,tI x.F3.J2,tS B7 x.F3.O3,tI x.F3.o9,tI x.V9,tI x.A4,tB x.known,tB x.cut,tS u9 x.A3,tI x.T8]
abbrev G9 (x:j6):List T:=[.t (tS aI7 x.u.A0.Air.X),.t (tS aI7 x.u.A0.Air.Y),.t (tS (cY6 aI7) x.u.A0.Air.Z),.t (tS aI7 x.u.A0.O2.X),.t (tS aI7 x.u.A0.O2.Y),.t (tS (cY6 aI7) x.u.A0.O2.Z),.t (tS aI7 x.u.A0.o9.X),.t (tS aI7 x.u.A0.o9.Y),.t (tS (cY6 aI7) x.u.A0.o9.Z),.t (tS aI7 x.u.A0.aI4.X),.t (tS aI7 x.u.A0.aI4.Y),.t (tS (cY6 aI7) x.u.A0.aI4.Z),.t (tS aI7 x.u.A0.M0.X),.t (tS aI7 x.u.A0.M0.Y),.t (tS aI7 x.u.A0.af6.X),.t (tS aI7 x.u.A0.af6.Y),.t (tS aI7 x.u.A0.aw6.X),.t (tS aI7 x.u.A0.aw6.Y),.t (tS aI7 x.u.A0.C7.X),.t (tS aI7 x.u.A0.C7.Y),.t (tI x.u.A0.af5.P),.t (tI x.u.A0.af5.I),.t (tI x.u.A0.af5.Low),.t (tI x.u.A0.af5.bt7),.t (tI x.u.w9.L5.Value),.t (tI x.u.w9.L5.aj4),.t (tB x.u.w9.L5.aV9),.t (tI x.u.w9.af5.Sum),.t (tS I8 x.u.w9.ab9),.t (tB x.u.w9.Q5.K5),.t (tB x.u.w9.Q5.be1),.t (tI x.u.w9.Q5.ak6),.t (tI x.u.w9.Q5.be2),.t (tS an8 x.u.w9.Q5.Cells),.t (tI x.u.w9.P5),.t (tI x.u.w9.af8.o9),.t (tI x.u.w9.af8.N7),.t (tS aI7 x.u.j3.A1.A7),.t (tI x.u.j3.A1.as4),.t (tB x.u.j3.B5.Y2),.t (tI x.u.j3.B5.At),.t (tI x.u.j3.B5.I0),.t (tI x.u.j3.B5.G1),.t (tI x.u.j3.B5.ab6),.t (tI x.u.j3.B5.as3),.t (tI x.u.j3.j9.V5),.t (tS F2 x.u.j3.j9.j2),.t (tS B7 x.u.j3.Next),.t (tS I5 x.u.j3.H7),.t (tB x.u.j3.Cut),.t (tI x.u.Q8.Mode),.t (tI x.u.Q8.ay9),.t (tI x.u.Q8.H6),.t (tI x.u.Q8.G1),.t (tI x.u.Q8.O1),.t (tI x.u.Q8.aw7),.t (tB x.u.M9.aY1),.t (tI x.u.M9.bG7),.t (tI x.u.M9.Count),.t (tB x.u.M9.Seen),.t (tB x.u.I2.Seen),.t (tI x.u.I2.H6),.t (tI x.u.I2.G1),.t (tI x.u.M3.Over),.t (tI x.u.M3.Calm),.t (tB x.u.M3.Off),.t (tI x.u.K4.Question),.t (tI x.u.K4.ap5),.t (tI x.u.K4.T6),.t (tB x.u.K4.Open),.t (tB x.u.K4.Off),.t (tB x.u.M5.W4),.t (tI x.u.M5.bt6),.t (tI x.u.M5.aR0),.t (tS H0 x.u.D9.T9),.t (tS G4 x.u.D9.L),.t (tI x.u.D9.aI1),.t (tB x.u.D9.ay1),.t (tI x.u.B3.K7),.t (tI x.u.B3.D7),.t (tI x.u.B3.Rest),.t (tI x.u.B3.N0),.t (tI x.u.B3.P5),.t (tS aI7 x.u.B3.Path),.t (tI x.u.ab7.aj5),.t (tI x.u.ab7.ap6),.t (tI x.u.ab7.aP6),.t (tI x.u.ab7.J2),.t (tI x.u.ab7.P5),.t (tI x.u.ab7.M4),.t (tI x.u.ab7.aY0),.t (tI x.u.Time),.t (tI x.d.At),.t (tI x.d.L5),.t (tI x.d.bt5),.t (tI x.d.ca6),.t (tI x.d.ca8),.t (tS aH6 x.k),.t (tI x.t),.t (tI x.o8),.t (tS T0 x.Z9),.t (tI x.au4),.t (tI x.C5),.t (tI x.aQ7),.t (tI x.D6),.t (tI x.aJ8),.t (tI x.F3.J2),.t (tS B7 x.F3.O3),.t (tI x.F3.o9),.t (tI x.V9),.t (tI x.A4),.t (tB x.known),.t (tB x.cut),.t (tS u9 x.A3),.t (tI x.T8)]
abbrev dq8 (x:(Bool×Bool×Bool×Bool×Bool×Bool×Bool)):T:=.agg [.t (tB x.1),.t (tB x.2.1),.t (tB x.2.2.1),.t (tB x.2.2.2.1),.t (tB x.2.2.2.2.1),.t (tB x.2.2.2.2.2.1),.t (tB x.2.2.2.2.2.2)]
@[ext] structure j1 where
 N7:Int
 Kind:Int
 o9:Int
 E7:Int
def D4 (x:j1):List Tree:=[tI x.N7,tI x.Kind,tI x.o9,tI x.E7]
abbrev H2 (x:j1):T:=.agg [.t (tI x.N7),.t (tI x.Kind),.t (tI x.o9),.t (tI x.E7)]
@[ext] structure X5 where
 bG8:Int
 bG9:Int
 D7:Int
 N0:Int
 M0:Int
 aI5:Int
 Lambda:Int
 av3:Int
 Y1:List Int
 Requests:List j1
abbrev da0 (x:X5):T:=.agg [.t (tI x.bG8),.t (tI x.bG9),.t (tI x.D7),.t (tI x.N0),.t (tI x.M0),.t (tI x.aI5),.t (tI x.Lambda),.t (tI x.av3),.t (tS aI7 x.Y1),.t (tS D4 x.Requests)]
@[ext] structure ei1 where
 fc5:Int
 D7:Int
abbrev eQ3 (x:ei1):T:=.agg [.t (tI x.fc5),.t (tI x.D7)]
@[ext] structure o4 where
 t:o7
 e:o5
 b:L6
 c:A9
 i:X5
 wanted:Int
 A4:Int
 ae9:Int
 late:Int
 pattern:List Bool
 time:Int
 out:O8
 fail:Int
abbrev R5 (x:o4):List T:=[.t (tS aI7 x.t.Air.X),.t (tS aI7 x.t.Air.Y),.t (tS (cY6 aI7) x.t.Air.Z),.t (tS aI7 x.t.O2.X),.t (tS aI7 x.t.O2.Y),.t (tS (cY6 aI7) x.t.O2.Z),.t (tS aI7 x.t.o9.X),.t (tS aI7 x.t.o9.Y),.t (tS (cY6 aI7) x.t.o9.Z),.t (tS aI7 x.t.aI4.X),.t (tS aI7 x.t.aI4.Y),.t (tS (cY6 aI7) x.t.aI4.Z),.t (tS aI7 x.t.M0.X),.t (tS aI7 x.t.M0.Y),.t (tS aI7 x.t.af6.X),.t (tS aI7 x.t.af6.Y),.t (tS aI7 x.t.aw6.X),.t (tS aI7 x.t.aw6.Y),.t (tS aI7 x.t.C7.X),.t (tS aI7 x.t.C7.Y),.t (tI x.t.af5.P),.t (tI x.t.af5.I),.t (tI x.t.af5.Low),.t (tI x.t.af5.bt7),.t (tS aI7 x.e.A7),.t (tI x.e.as4),.t (tI x.b.aj5),.t (tI x.b.ap6),.t (tI x.b.aP6),.t (tI x.b.J2),.t (tI x.b.P5),.t (tI x.b.M4),.t (tI x.b.aY0),.t (tI x.c.L5.Value),.t (tI x.c.L5.aj4),.t (tB x.c.L5.aV9),.t (tI x.c.af5.Sum),.t (tS I8 x.c.ab9),.t (tB x.c.Q5.K5),.t (tB x.c.Q5.be1),.t (tI x.c.Q5.ak6),.t (tI x.c.Q5.be2),.t (tS an8 x.c.Q5.Cells),.t (tI x.c.P5),.t (tI x.c.af8.o9),.t (tI x.c.af8.N7),.t (tI x.i.bG8),.t (tI x.i.bG9),.t (tI x.i.D7),.t (tI x.i.N0),.t (tI x.i.M0),.t (tI x.i.aI5),.t (tI x.i.Lambda),.t (tI x.i.av3),.t (tS aI7 x.i.Y1),.t (tS D4 x.i.Requests),.t (tI x.wanted),.t (tI x.A4),.t (tI x.ae9),.t (tI x.late),.t (tS Pv.dv1 x.pattern),.t (tI x.time),.t (tI x.out.J2),.t (tS B7 x.out.O3),.t (tI x.out.o9),.t (tI x.fail)]
@[ext] structure ap7 where
 B3:Z8
 b:L6
abbrev bd9 (x:ap7):List T:=[.t (tI x.B3.K7),.t (tI x.B3.D7),.t (tI x.B3.Rest),.t (tI x.B3.N0),.t (tI x.B3.P5),.t (tS aI7 x.B3.Path),.t (tI x.b.aj5),.t (tI x.b.ap6),.t (tI x.b.aP6),.t (tI x.b.J2),.t (tI x.b.P5),.t (tI x.b.M4),.t (tI x.b.aY0)]
@[ext] structure u7 where
 low:Int
 high:Int
 source:Int
abbrev cD5 (x:u7):T:=.agg [.t (tI x.low),.t (tI x.high),.t (tI x.source)]
@[ext] structure a7 where
 x:C0
 cF8:Int
def B2 (x:a7):List Tree:=[tI x.x.I0,tI x.x.Kind,tI x.x.p7,tI x.x.aj6,tI x.cF8]
abbrev B1 (x:a7):T:=.agg [.t (tI x.x.I0),.t (tI x.x.Kind),.t (tI x.x.p7),.t (tI x.x.aj6),.t (tI x.cF8)]
def dP6 (P:Program):List Field->Option (List (Nat×Nat))
 |[]=>some []
 |f::l=>(P.info? f.type).bind fun i=>(dP6 P l).map fun r=>(f.offset,i.size)::r
def em8 (P:Program):TypeDesc->Option TD
 | .int k=>some (.int k)
 | .bool=>some .bool
 | .string=>some .string
 | .slice e=>some (.slice e)
 | .array n e=>some (.array n e)
 | .struct fs=>(dP6 P fs.toList).map TD.struct
 |_=>some .other
def eZ8 (P:Program)(t:Nat):Option TI:=
 (P.info? t).bind fun i=>(P.underlying t).bind fun d=>i.zero.bind fun z=>(em8 P d).bind fun x=>bif dE8 i.bytes 65536 then some ⟨i.size,x,z.cells.toList⟩else none
def eA1 (P:Program):List Nat->Option Tab
 |[]=>some []
 |t::l=>(eZ8 P t).bind fun i=>(eA1 P l).map fun r=>(t,i)::r
def du5 {P:Program}:∀{fs:List Field}{l:List (Nat×Nat)},dP6 P fs=some l->l.length=fs.length/\∀(f o n:Nat),l[f]? =some (o,n)->∃(fd:Field) (i:TypeInfo),fs[f]? =some fd/\fd.offset=o/\P.info? fd.type=some i/\i.size=n
 |[],l,h=>by cases h;exact⟨rfl,fun f o n h=>by simp at h⟩
 |x::fs,l,h=>by
  simp only[dP6,fb0,dV4]at h
  obtain⟨i,h1,r,h2,rfl⟩:=h
  obtain⟨h3,h4⟩:=du5 h2
  refine⟨by simp[h3],fun f o n hf=>?_⟩
  cases f with
  |zero=>simp only[dq2,aI6,ba7]at hf;exact⟨x,i,rfl,hf.1,h1,hf.2⟩
  |succ f=>simp only[List.getElem?_cons_succ]at hf|-;exact h4 f o n hf
def em9 {P:Program}{d:TypeDesc}{x:TD}(h:em8 P d=some x):x.ok P d:=by
 cases d<;>simp only[em8]at h<;>try(cases h;first|rfl|trivial)
 rename_i fs
 rw[dV4]at h
 obtain⟨l,h1,rfl⟩:=h
 obtain⟨h2,h3⟩:=du5 h1
 refine⟨fs,rfl,by simpa using h2,fun f o n hf=>?_⟩
 obtain⟨fd,i,h4,h5⟩:=h3 f o n hf
 exact⟨fd,i,by simpa using h4,h5⟩
def dp9 {P:Program}{t:Nat}{i:TI}(h:eZ8 P t=some i):bh5 P t i:=by
 simp only[eZ8,fb0]at h
 obtain⟨a,h1,d,h2,z,h3,x,h4,h5⟩:=h
 cases hb:dE8 a.bytes 65536
 ·rw[hb]at h5;cases h5
 ·rw[hb]at h5;cases h5
  exact⟨a,d,h1,rfl,h2,em9 h4,⟨z,h3,rfl⟩,bd6 hb⟩
def dD1 {P:Program}:∀{l:List Nat}{C8:Tab},eA1 P l=some C8->aW1 P C8
 |[],C8,h=>by cases h;intro t ti h;cases h
 |t::l,C8,h=>by
  simp only[eA1,fb0,dV4]at h
  obtain⟨i,h1,r,h2,rfl⟩:=h
  exact fun u ti hu=>eA2 hu (dp9 h1) fun hu=>dD1 h2 u ti hu
end Go.Pv
namespace Go.Proofs.YtjhedhnghldjbaaGreatDoor
open Go Go.Pv Go.Proofs
set_option maxHeartbeats 4000000
def mixed:Tryz.prog.follows .mixedOrders=true:=by kernel_rfl
def G5:Value:=.int .i64 0
def Z0:Value:=.slice none 0 0
def C8:Tab:=[(3,⟨1,.int .i64,[G5]⟩),
 (4,⟨1,.bool,[.bool false]⟩),
 (5,⟨1,.int .u8,[.int .u8 0]⟩),
 (9,⟨1,.string,[.string (ByteArray.mk #[])]⟩),
 (22,⟨1,.slice 409,[Z0]⟩),
 (23,⟨1,.slice 31,[Z0]⟩),
 (25,⟨7,.struct [(0,1),(1,1),(2,1),(3,1),(4,1),(5,1),(6,1)],[G5,G5,G5,G5,Z0,Z0,.bool false]⟩),
 (26,⟨1,.slice 44,[Z0]⟩),
 (29,⟨1,.slice 3,[Z0]⟩),
 (31,⟨2,.struct [(0,1),(1,1)],[G5,Z0]⟩),
 (33,⟨1,.int .i64,[G5]⟩),
 (38,⟨1,.slice 63,[Z0]⟩),
 (44,⟨8,.struct [(0,1),(1,1),(2,1),(3,1),(4,1),(5,1),(6,1),(7,1)],[G5,G5,G5,G5,G5,G5,.bool false,G5]⟩),
 (47,⟨1,.slice 29,[Z0]⟩),
 (49,⟨3,.struct [(0,1),(1,1),(2,1)],[Z0,Z0,Z0]⟩),
 (51,⟨2,.struct [(0,1),(1,1)],[Z0,Z0]⟩),
 (53,⟨4,.struct [(0,1),(1,1),(2,1),(3,1)],[G5,G5,G5,G5]⟩),
 (55,⟨24,.struct [(0,3),(3,3),(6,3),(9,3),(12,2),(14,2),(16,2),(18,2),(20,4)],[Z0,Z0,Z0,Z0,Z0,Z0,Z0,Z0,Z0,Z0,Z0,Z0,Z0,Z0,Z0,Z0,Z0,Z0,Z0,Z0,G5,G5,G5,G5]⟩),
 (59,⟨7,.struct [(0,1),(1,1),(2,1),(3,1),(4,1),(5,1),(6,1)],[G5,G5,G5,G5,G5,G5,G5]⟩),
 (63,⟨5,.struct [(0,1),(1,1),(2,1),(3,1),(4,1)],[.string (ByteArray.mk #[]),G5,G5,Z0,G5]⟩),
 (68,⟨2,.struct [(0,1),(1,1)],[Z0,G5]⟩),
 (69,⟨1,.int .u16,[.int .u16 0]⟩),
 (71,⟨3,.struct [(0,1),(1,1),(2,1)],[G5,G5,.bool false]⟩),
 (73,⟨1,.struct [(0,1)],[G5]⟩),
 (74,⟨1,.slice 237,[Z0]⟩),
 (75,⟨1,.slice 359,[Z0]⟩),
 (77,⟨5,.struct [(0,1),(1,1),(2,1),(3,1),(4,1)],[.bool false,.bool false,G5,G5,Z0]⟩),
 (79,⟨2,.struct [(0,1),(1,1)],[G5,G5]⟩),
 (81,⟨13,.struct [(0,3),(3,1),(4,1),(5,5),(10,1),(11,2)],[G5,G5,.bool false,G5,Z0,.bool false,.bool false,G5,G5,Z0,G5,G5,G5]⟩),
 (83,⟨6,.struct [(0,1),(1,1),(2,1),(3,1),(4,1),(5,1)],[.bool false,G5,G5,G5,G5,G5]⟩),
 (84,⟨1,.slice 351,[Z0]⟩),
 (86,⟨2,.struct [(0,1),(1,1)],[G5,Z0]⟩),
 (87,⟨1,.slice 293,[Z0]⟩),
 (88,⟨1,.slice 248,[Z0]⟩),
 (90,⟨13,.struct [(0,2),(2,6),(8,2),(10,1),(11,1),(12,1)],[Z0,G5,.bool false,G5,G5,G5,G5,G5,G5,Z0,Z0,Z0,.bool false]⟩),
 (92,⟨6,.struct [(0,1),(1,1),(2,1),(3,1),(4,1),(5,1)],[G5,G5,G5,G5,G5,G5]⟩),
 (94,⟨4,.struct [(0,1),(1,1),(2,1),(3,1)],[.bool false,G5,G5,.bool false]⟩),
 (96,⟨3,.struct [(0,1),(1,1),(2,1)],[.bool false,G5,G5]⟩),
 (98,⟨3,.struct [(0,1),(1,1),(2,1)],[G5,G5,.bool false]⟩),
 (100,⟨5,.struct [(0,1),(1,1),(2,1),(3,1),(4,1)],[G5,G5,G5,.bool false,.bool false]⟩),
 (102,⟨3,.struct [(0,1),(1,1),(2,1)],[.bool false,G5,G5]⟩),
 (103,⟨1,.slice 197,[Z0]⟩),
 (105,⟨4,.struct [(0,1),(1,1),(2,1),(3,1)],[Z0,Z0,G5,.bool false]⟩),
 (107,⟨6,.struct [(0,1),(1,1),(2,1),(3,1),(4,1),(5,1)],[G5,G5,G5,G5,G5,Z0]⟩),
 (109,⟨92,.struct [(0,24),(24,13),(37,13),(50,6),(56,4),(60,3),(63,3),(66,5),(71,3),(74,4),(78,6),(84,7),(91,1)],[Z0,Z0,Z0,Z0,Z0,Z0,Z0,Z0,Z0,Z0,Z0,Z0,Z0,Z0,Z0,Z0,Z0,Z0,Z0,Z0,G5,G5,G5,G5,G5,G5,.bool false,G5,Z0,.bool false,.bool false,G5,G5,Z0,G5,G5,G5,Z0,G5,.bool false,G5,G5,G5,G5,G5,G5,Z0,Z0,Z0,.bool false,G5,G5,G5,G5,G5,G5,.bool false,G5,G5,.bool false,.bool false,G5,G5,G5,G5,.bool false,G5,G5,G5,.bool false,.bool false,.bool false,G5,G5,Z0,Z0,G5,.bool false,G5,G5,G5,G5,G5,Z0,G5,G5,G5,G5,G5,G5,G5,G5]⟩),
 (113,⟨4,.struct [(0,1),(1,1),(2,1),(3,1)],[G5,G5,G5,G5]⟩),
 (114,⟨1,.slice 113,[Z0]⟩),
 (115,⟨1,.slice 25,[Z0]⟩),
 (119,⟨5,.struct [(0,1),(1,1),(2,1),(3,1),(4,1)],[G5,G5,G5,G5,G5]⟩),
 (120,⟨1,.slice 119,[Z0]⟩),
 (128,⟨1,.other,[.pointer none]⟩),
 (129,⟨1,.slice 5,[Z0]⟩),
 (131,⟨2,.struct [(0,1),(1,1)],[.pointer none,Z0]⟩),
 (132,⟨1,.slice 9,[Z0]⟩),
 (146,⟨1,.slice 49,[Z0]⟩),
 (149,⟨1,.slice 51,[Z0]⟩),
 (195,⟨1,.other,[.pointer none]⟩),
 (197,⟨7,.struct [(0,1),(1,1),(2,1),(3,1),(4,1),(5,1),(6,1)],[G5,G5,G5,G5,G5,Z0,G5]⟩),
 (204,⟨2,.struct [(0,1),(1,1)],[G5,G5]⟩),
 (208,⟨1,.struct [(0,1)],[Z0]⟩),
 (215,⟨5,.array 5 3,[G5,G5,G5,G5,G5]⟩),
 (218,⟨3,.struct [(0,1),(1,1),(2,1)],[.string (ByteArray.mk #[]),G5,G5]⟩),
 (219,⟨15,.array 5 218,[.string (ByteArray.mk #[]),G5,G5,.string (ByteArray.mk #[]),G5,G5,.string (ByteArray.mk #[]),G5,G5,.string (ByteArray.mk #[]),G5,G5,.string (ByteArray.mk #[]),G5,G5]⟩),
 (223,⟨1,.other,[.pointer none]⟩),
 (225,⟨3,.struct [(0,1),(1,1),(2,1)],[G5,Z0,G5]⟩),
 (227,⟨115,.struct [(0,92),(92,5),(97,1),(98,1),(99,1),(100,1),(101,1),(102,1),(103,1),(104,1),(105,1),(106,3),(109,1),(110,1),(111,1),(112,1),(113,1),(114,1)],[Z0,Z0,Z0,Z0,Z0,Z0,Z0,Z0,Z0,Z0,Z0,Z0,Z0,Z0,Z0,Z0,Z0,Z0,Z0,Z0,G5,G5,G5,G5,G5,G5,.bool false,G5,Z0,.bool false,.bool false,G5,G5,Z0,G5,G5,G5,Z0,G5,.bool false,G5,G5,G5,G5,G5,G5,Z0,Z0,Z0,.bool false,G5,G5,G5,G5,G5,G5,.bool false,G5,G5,.bool false,.bool false,G5,G5,G5,G5,.bool false,G5,G5,G5,.bool false,.bool false,.bool false,G5,G5,Z0,Z0,G5,.bool false,G5,G5,G5,G5,G5,Z0,G5,G5,G5,G5,G5,G5,G5,G5,G5,G5,G5,G5,G5,Z0,G5,G5,Z0,G5,G5,G5,G5,G5,G5,Z0,G5,G5,G5,.bool false,.bool false,Z0,G5]⟩),
 (237,⟨3,.struct [(0,1),(1,1),(2,1)],[G5,G5,G5]⟩),
 (246,⟨4,.struct [(0,1),(1,1),(2,1),(3,1)],[G5,G5,G5,G5]⟩),
 (248,⟨7,.struct [(0,4),(4,1),(5,1),(6,1)],[G5,G5,G5,G5,G5,.bool false,G5]⟩),
 (265,⟨1,.int .u64,[.int .u64 0]⟩),
 (266,⟨7,.array 7 4,[.bool false,.bool false,.bool false,.bool false,.bool false,.bool false,.bool false]⟩),
 (276,⟨4,.struct [(0,1),(1,1),(2,1),(3,1)],[G5,G5,G5,G5]⟩),
 (278,⟨1,.slice 276,[Z0]⟩),
 (280,⟨10,.struct [(0,1),(1,1),(2,1),(3,1),(4,1),(5,1),(6,1),(7,1),(8,1),(9,1)],[G5,G5,G5,G5,G5,G5,G5,G5,Z0,Z0]⟩),
 (293,⟨7,.struct [(0,1),(1,1),(2,1),(3,1),(4,1),(5,1),(6,1)],[G5,G5,G5,G5,G5,G5,G5]⟩),
 (336,⟨2,.struct [(0,1),(1,1)],[G5,G5]⟩),
 (351,⟨4,.struct [(0,1),(1,1),(2,1),(3,1)],[.bool false,G5,.bool false,.bool false]⟩),
 (359,⟨2,.struct [(0,1),(1,1)],[G5,G5]⟩),
 (374,⟨1,.other,[.pointer none]⟩),
 (375,⟨1,.slice 4,[Z0]⟩),
 (377,⟨66,.struct [(0,24),(24,2),(26,7),(33,13),(46,10),(56,1),(57,1),(58,1),(59,1),(60,1),(61,1),(62,3),(65,1)],[Z0,Z0,Z0,Z0,Z0,Z0,Z0,Z0,Z0,Z0,Z0,Z0,Z0,Z0,Z0,Z0,Z0,Z0,Z0,Z0,G5,G5,G5,G5,Z0,G5,G5,G5,G5,G5,G5,G5,G5,G5,G5,.bool false,G5,Z0,.bool false,.bool false,G5,G5,Z0,G5,G5,G5,G5,G5,G5,G5,G5,G5,G5,G5,Z0,Z0,G5,G5,G5,G5,Z0,G5,G5,Z0,G5,G5]⟩),
 (401,⟨1,.other,[.pointer none]⟩),
 (402,⟨1,.other,[.pointer none]⟩),
 (404,⟨13,.struct [(0,6),(6,7)],[G5,G5,G5,G5,G5,Z0,G5,G5,G5,G5,G5,G5,G5]⟩),
 (409,⟨3,.struct [(0,1),(1,1),(2,1)],[G5,G5,.bool false]⟩),
 (413,⟨1,.int .u64,[.int .u64 0]⟩),
 (468,⟨3,.struct [(0,1),(1,1),(2,1)],[G5,G5,G5]⟩),
 (483,⟨1,.slice 487,[Z0]⟩),
 (487,⟨5,.struct [(0,4),(4,1)],[G5,G5,G5,G5,G5]⟩),
 (488,⟨1,.other,[.pointer none]⟩),
 (505,⟨1,.slice 246,[Z0]⟩),
 (510,⟨2,.array 2 3,[G5,G5]⟩),
 (511,⟨4,.array 2 510,[G5,G5,G5,G5]⟩),
 (516,⟨1,.other,[.pointer none]⟩)]
def ti4:bh5 Tryz.prog 4 ⟨1,.bool,[.bool false]⟩:=dp9 (by kernel_rfl)
def ti3:bh5 Tryz.prog 3 ⟨1,.int .i64,[G5]⟩:=dp9 (by kernel_rfl)
theorem K6:aW1 Tryz.prog C8:=dD1 (l:=[3,4,5,9,22,23,25,26,29,31,33,38,44,47,49,51,53,55,59,63,68,69,71,73,74,75,77,79,81,83,84,86,87,88,90,92,94,96,98,100,102,103,105,107,109,113,114,115,119,120,128,129,131,132,146,149,195,197,204,208,215,218,219,223,225,227,237,246,248,265,266,276,278,280,293,336,351,359,374,375,377,401,402,404,409,413,468,483,487,488,505,510,511,516]) (by kernel_rfl)
def eT6 (d:Nat)(w:World)(a0:Bool)(a1 a2 a3 a4 a5:Int)(b0:Bool)(b1 b2 b3 b4 b5:Int):(Op.equalIn (d+2) 83 (.agg #[.bool a0,.int .i64 a1,.int .i64 a2,.int .i64 a3,.int .i64 a4,.int .i64 a5]) (.agg #[.bool b0,.int .i64 b1,.int .i64 b2,.int .i64 b3,.int .i64 b4,.int .i64 b5])).run Tryz.prog w= .ok ((a0==b0)&&((a1==b1)&&((a2==b2)&&((a3==b3)&&((a4==b4)&&((a5==b5)&&true)))))) w:=
 dd5 (d:=d+1) (fs:=[⟨ "Valid",4,0,false,"","",0⟩,⟨ "At",3,1,false,"","",8⟩,⟨ "Angle",3,2,false,"","",16⟩,⟨ "Period",3,3,false,"","",24⟩,⟨ "Space",3,4,false,"","",32⟩,⟨ "Ahead",3,5,false,"","",40⟩]) (by kernel_rfl) (by kernel_rfl) (by kernel_rfl) (aO3 (by decide) (af2 ti4 rfl rfl) (af2 ti4 rfl rfl) (run_equalIn_bool' w _ 4 _ _ Tryz.underlying4) (aO3 (by decide) (af2 ti3 rfl rfl) (af2 ti3 rfl rfl) (run_equalIn_int w _ 3 _ _ _ _ Tryz.underlying3) (aO3 (by decide) (af2 ti3 rfl rfl) (af2 ti3 rfl rfl) (run_equalIn_int w _ 3 _ _ _ _ Tryz.underlying3) (aO3 (by decide) (af2 ti3 rfl rfl) (af2 ti3 rfl rfl) (run_equalIn_int w _ 3 _ _ _ _ Tryz.underlying3) (aO3 (by decide) (af2 ti3 rfl rfl) (af2 ti3 rfl rfl) (run_equalIn_int w _ 3 _ _ _ _ Tryz.underlying3) (aO3 (by decide) (af2 ti3 rfl rfl) (af2 ti3 rfl rfl) (run_equalIn_int w _ 3 _ _ _ _ Tryz.underlying3) (dQ5)))))))
def eT8 (a0:Bool)(a1 a2 a3 a4 a5:Int)(b0:Bool)(b1 b2 b3 b4 b5:Int):eh7 Tryz.prog 83 [.bool a0,.int .i64 a1,.int .i64 a2,.int .i64 a3,.int .i64 a4,.int .i64 a5] [.bool b0,.int .i64 b1,.int .i64 b2,.int .i64 b3,.int .i64 b4,.int .i64 b5] ((a0==b0)&&((a1==b1)&&((a2==b2)&&((a3==b3)&&((a4==b4)&&((a5==b5)&&true)))))):=⟨fun w=>eT6 9998 w a0 a1 a2 a3 a4 a5 b0 b1 b2 b3 b4 b5,by kernel_rfl⟩
def eT7 (d:Nat)(w:World)(a0 a1 a2 a3 a4 a5 b0 b1 b2 b3 b4 b5:Int):(Op.equalIn (d+2) 92 (.agg #[.int .i64 a0,.int .i64 a1,.int .i64 a2,.int .i64 a3,.int .i64 a4,.int .i64 a5]) (.agg #[.int .i64 b0,.int .i64 b1,.int .i64 b2,.int .i64 b3,.int .i64 b4,.int .i64 b5])).run Tryz.prog w= .ok ((a0==b0)&&((a1==b1)&&((a2==b2)&&((a3==b3)&&((a4==b4)&&((a5==b5)&&true)))))) w:=
 dd5 (d:=d+1) (fs:=[⟨ "Mode",3,0,false,"","",0⟩,⟨ "Tooth",3,1,false,"","",8⟩,⟨ "Last",3,2,false,"","",16⟩,⟨ "Period",3,3,false,"","",24⟩,⟨ "Normal",3,4,false,"","",32⟩,⟨ "Teeth",3,5,false,"","",40⟩]) (by kernel_rfl) (by kernel_rfl) (by kernel_rfl) (aO3 (by decide) (af2 ti3 rfl rfl) (af2 ti3 rfl rfl) (run_equalIn_int w _ 3 _ _ _ _ Tryz.underlying3) (aO3 (by decide) (af2 ti3 rfl rfl) (af2 ti3 rfl rfl) (run_equalIn_int w _ 3 _ _ _ _ Tryz.underlying3) (aO3 (by decide) (af2 ti3 rfl rfl) (af2 ti3 rfl rfl) (run_equalIn_int w _ 3 _ _ _ _ Tryz.underlying3) (aO3 (by decide) (af2 ti3 rfl rfl) (af2 ti3 rfl rfl) (run_equalIn_int w _ 3 _ _ _ _ Tryz.underlying3) (aO3 (by decide) (af2 ti3 rfl rfl) (af2 ti3 rfl rfl) (run_equalIn_int w _ 3 _ _ _ _ Tryz.underlying3) (aO3 (by decide) (af2 ti3 rfl rfl) (af2 ti3 rfl rfl) (run_equalIn_int w _ 3 _ _ _ _ Tryz.underlying3) (dQ5)))))))
def eT9 (a0 a1 a2 a3 a4 a5 b0 b1 b2 b3 b4 b5:Int):eh7 Tryz.prog 92 [.int .i64 a0,.int .i64 a1,.int .i64 a2,.int .i64 a3,.int .i64 a4,.int .i64 a5] [.int .i64 b0,.int .i64 b1,.int .i64 b2,.int .i64 b3,.int .i64 b4,.int .i64 b5] ((a0==b0)&&((a1==b1)&&((a2==b2)&&((a3==b3)&&((a4==b4)&&((a5==b5)&&true)))))):=⟨fun w=>eT7 9998 w a0 a1 a2 a3 a4 a5 b0 b1 b2 b3 b4 b5,by kernel_rfl⟩
def eqF:Nat->List T->List T->Option Bool
 |83,[.t (.v (.bool a0)),.t (.v (.int .i64 a1)),.t (.v (.int .i64 a2)),.t (.v (.int .i64 a3)),.t (.v (.int .i64 a4)),.t (.v (.int .i64 a5))],[.t (.v (.bool b0)),.t (.v (.int .i64 b1)),.t (.v (.int .i64 b2)),.t (.v (.int .i64 b3)),.t (.v (.int .i64 b4)),.t (.v (.int .i64 b5))]=>some (((a0==b0)&&((a1==b1)&&((a2==b2)&&((a3==b3)&&((a4==b4)&&((a5==b5)&&true)))))))
 |92,[.t (.v (.int .i64 a0)),.t (.v (.int .i64 a1)),.t (.v (.int .i64 a2)),.t (.v (.int .i64 a3)),.t (.v (.int .i64 a4)),.t (.v (.int .i64 a5))],[.t (.v (.int .i64 b0)),.t (.v (.int .i64 b1)),.t (.v (.int .i64 b2)),.t (.v (.int .i64 b3)),.t (.v (.int .i64 b4)),.t (.v (.int .i64 b5))]=>some (((a0==b0)&&((a1==b1)&&((a2==b2)&&((a3==b3)&&((a4==b4)&&((a5==b5)&&true)))))))
 |_,_,_=>none
def eT4:∀ty xs ys b,eqF ty xs ys=some b->∃vs us,xs=tvs vs/\ys=tvs us/\eh7 Tryz.prog ty vs us b:=by
 intro ty xs ys b h
 unfold eqF at h
 split at h
 ·cases h;exact⟨_,_,rfl,rfl,eT8 _ _ _ _ _ _ _ _ _ _ _ _⟩
 ·cases h;exact⟨_,_,rfl,rfl,eT9 _ _ _ _ _ _ _ _ _ _ _ _⟩
 ·cases h
def Z:En Tryz.prog:=⟨C8,K6,⟨eqF,eT4,true⟩,mixed⟩
def Zd:En Tryz.prog:={Z with Ev:={Z.Ev with dr:=false}}
def eP5:Mq Tryz.prog Int Bool:=⟨inferInstance,238,3,4,.int .i64,(fun n:Int=>.int .i64 n),(fun v:Bool=>.bool v),false,(eV3 .i64),Tryz.underlying238,Tryz.underlying3,⟨Tryz.t4,by kernel_rfl,rfl⟩⟩
def eP6:Mq Tryz.prog ByteArray Bool:=⟨inferInstance,424,9,4,.string,(fun s:ByteArray=>.string s),(fun v:Bool=>.bool v),false,eZ2,Tryz.underlying424,Tryz.underlying9,⟨Tryz.t4,by kernel_rfl,rfl⟩⟩
end Go.Proofs.YtjhedhnghldjbaaGreatDoor
namespace Go.Pv
open Go.RowKit
def cV6 {S R:Type}(f:Int->S->Option (Fl S R))(I:Nat->S->Prop):∀(k i:Nat) (s:S),I i s->(∀j,i<=j->j<i+k->∀s,I j s->∃s',f (j:Int) s=some (.next s')/\I (j+1) s')->∃s',aX2 f k (i:Int) s=some (.inl s')/\I (i+k) s'
 |0,i,s,h,_=>⟨s,rfl,h⟩
 |k+1,i,s,h,st=>by
  obtain⟨s1,h1,h2⟩:=st i (bO2 _) (by omega) s h
  obtain⟨s2,h3,h4⟩:=cV6 f I k (i+1) s1 h2 (fun j a b=>st j (by omega) (by omega))
  grind [aX2]
def ag9 {S R:Type}(n:Nat)(hn:n<=9223372036854775807)(f:Int->S->Option (Fl S R))(I:Nat->S->Prop)(s:S)(h:I 0 s)(st:∀j,j<n->∀s,I j s->∃s',f (j:Int) s=some (.next s')/\I (j+1) s'):∃s',L2 (n:Int) f s=some (.inl s')/\I n s':=by
 obtain⟨s',h1,h2⟩:=cV6 f I n 0 s h (fun j _ b=>st j (by omega))
 grind [am4]
def cw5 {S B:Type}{mb:S->Option (S⊕B)}(I:Nat->S->Prop)(J:B->Prop):∀(n k:Nat) (s:S),I k s->(∀j,k<=j->j<k+n->∀s,I j s->∃s',mb s=some (.inl s')/\I (j+1) s')->(∀s,I (k+n) s->∃b,mb s=some (.inr b)/\J b)->∃b,L8 mb s=some b/\J b
 |0,k,s,h,_,e=>by
  grind [E6]
 |n+1,k,s,h,st,e=>by
  obtain⟨s',h1,h2⟩:=st k (bO2 _) (by omega) s h
  rw[H3 h1]
  exact cw5 I J n (k+1) s' h2 (fun j a b=>st j (by omega) (by omega)) (by grind)
theorem U5 {α:Type}(l:List α)(i:Nat)(y:α)(h:i<l.length):ao3 l (i:Int) y=some (l.set i y):=by
 simp_all[ao3]
theorem D1 {α:Type}(l:List α)(i:Nat)(h:i<l.length):E0 l (i:Int)=some l[i]:=by rw[U4,aX4 h]
theorem bW2 {α:Type}(n:Nat)(h:n<=1073741824)(z:α):aY5 (n:Int) z=some (cr7 n z):=by
 unfold aY5;grind
theorem I1 {α:Type}(l r:List α)(h:l.length+r.length<=1073741824):V4 l r=some (l++r):=by
 unfold V4;rw[if_pos h]
theorem dH9 {α:Type}(l r:List α)(h:l.length=r.length):aJ3 l r=r:=by
 grind [aJ3]
theorem ar1 {α S R:Type}(l:List α)(f:Int->α->S->Option (Fl S R)):do8 l f=fun p=>bif decide (p.1<(l.length:Int))then((E0 l p.1).bind fun x=>(f p.1 x p.2).bind (aJ9 p.1))else some (.inr (.inl p.2)):=rfl
theorem M6 {S R:Type}(n:Int)(f:Int->S->Option (Fl S R)):cI8 n f=fun p=>bif decide (p.1<n)then(f p.1 p.2).bind (aJ9 p.1)else some (.inr (.inl p.2)):=rfl
theorem bg {α:Type}(c x y:Bool)(f:Bool->Option α):ak4 (bif c then some x else some y) f=f (bif c then x else y):=by grind
theorem bga (c x:Bool):(bif c then x else false)=(c&&x):=by simp
theorem bgo (c x:Bool):(bif c then true else x)=(c||x):=by rfl
theorem bso {α β:Type}(x:α)(f:α->Option β):ak4 (some x) f=f x:=rfl
def cj2 {α β:Type}{a:Option α}{x:α}{f:α->Option β}{r:Option β}(h:a=some x)(k:f x=r):a.bind f=r:=by grind
def bJ5 {α:Type}(l:List α)(hn:l.length<=9223372036854775807)(f:α->Option Bool)(p:α->Bool)(h:∀y∈l,f y=some (p y)):
  (ak4 (ak4 (L8 (fun(s:Int×Unit)=>bif decide (s.1<(l.length:Int))then(ak4 (ak4 (E0 l s.1) fun t=>ak4 (f t) fun t=>bif t then some (Fl.ret s.1)else some (Fl.next ())) (aJ9 s.1))else some (Sum.inr (Sum.inl s.2))) (0,())) fun(t:Unit⊕Int)=>match t with| .inl _=>(some (-1))| .inr r2=>some r2) fun v=>some (decide (v>=0)))=some (l.any p):=by
 have:=ai7 l hn f p h
 exact this
theorem elE {P:Program}{ρ τ:Type}(t:Empty):(t.elim:M P ρ τ).run=(t.elim:Option τ):=t.elim
theorem bgt {α:Type}(c d:Bool)(x:α):(bif c then some (true,x)else some (d,x))=some (c||d,x):=by grind
def db4 {α β:Type}{a:Option α}{f g:α->Option β}(h:∀y,a=some y->f y=g y):a.bind f=a.bind g:=by cases a;all_goals grind
def dP1 {α:Type}{c:Bool}{x y z w:α}(h:x=z)(k:y=w):(bif c then x else y)=(bif c then z else w):=by rw[h,k]
open Go.RowKit Go.Shelf Go.Proofs Go.Sort
def dx2 (n:Int):Option ByteArray:=if -9223372036854775808<=n/\n<=9223372036854775807 then some ⟨(Lib.itoa n).toArray⟩else none
def de3 (w:World)(k:Nat)(os:Array Obj):aF1 true (fun _=>False) w (grow (w.drewN k) os):=by
 refine⟨rfl,rfl,rfl,?_,fun i hi _=>?_,?_⟩
 all_goals grind [grow,World.drewN]
def er4 {P:Program}{ρ:Ren}(L:LaysM.n171 P ρ)(hc:∀vs w,(callFunc (ρ.f 171) vs).run P w= .ok (.enter (ρ.f 171) vs) w){b:Nat}(hg:P.globalNamed glN=some b)(n:Int):
  aM2 P (ρ.f 171) [.t (tI n)] (dx2 n) (fun r=>.t (.v (.string r))):=by
 refine⟨hc,fun r hr w S E vs hgl hS hv=>?_⟩
 unfold dx2 at hr
 split at hr<;>try(cases hr;done)
 rename_i hn
 cases hr
 obtain rfl:=hv.ff3
 refine(Any.strconv_Itoa L n hn.1 hn.2 w (hgl b hg).2.2).mono fun e w' ⟨he,k,os,hw⟩=>?_
 subst hw
 exact⟨_,S,he,.t (.v _),de3 w k os,fun b hb=>dp8 (hS b hb) (de3 w k os).size,fun b hb=>.inl hb⟩
def aF1.below {w w':World}(h:Below w.heap.size w w'):aF1 false (fun _=>False) w w':=⟨h.os,h.tape,h.output,h.size,fun k hk _=>h.block k hk,fun h=>by cases h⟩
def cY7 {P:Program}{ρ:Ren}(L:Lays.n99 P ρ)(hc:∀vs w,(callFunc (ρ.f 99) vs).run P w= .ok (.enter (ρ.f 99) vs) w)(s p:ByteArray):
  aM2 P (ρ.f 99) [.t (.v (.string s)),.t (.v (.string p))] (some (Lib.hasPrefix s.data.toList p.data.toList)) (fun r=>.t (.v (.bool r))):=by
 refine⟨hc,fun r hr w S E vs hgl hS hv=>?_⟩
 cases hr
 obtain rfl:=hv.eU9
 refine(Any.strings_HasPrefix L s p w).mono fun e w' ⟨he,hw⟩=>?_
 subst hw
 exact⟨_,S,he,.t (.v _),aF1.refl _ _,hS,fun b hb=>.inl hb⟩
def dl2 (s p:ByteArray):Option Int:=match p with
 |⟨⟨[c]⟩⟩=>some (Lib.countByte s.data.toList c)
 |_=>none
def dY7 {P:Program}{ρ:Ren}(L:Lays.n138 P ρ)(hc:∀vs w,(callFunc (ρ.f 138) vs).run P w= .ok (.enter (ρ.f 138) vs) w)(s p:ByteArray):
  aM2 P (ρ.f 138) [.t (.v (.string s)),.t (.v (.string p))] (dl2 s p) (fun r=>.t (.v (.int .i64 r))):=by
 refine⟨hc,fun r hr w S E vs hgl hS hv=>?_⟩
 unfold dl2 at hr
 split at hr<;>try(cases hr;done)
 rename_i c
 cases hr
 obtain rfl:=hv.eU9
 refine(Any.strings_Count_one L s c w).mono fun e w' ⟨he,hw⟩=>?_
 subst hw
 exact⟨_,S,he,.t (.v _),aF1.refl _ _,hS,fun b hb=>.inl hb⟩
open Go
def as9 (x y:Int):Option (Int×Int):=
 cw6 x y
def bB7 (x y:Int):Option (Int×Int):=
 ak4 (as9 x y) fun r2=>some (r2.1,r2.2)
def aK3 (s3:Int×List C1):Option ((Int×List C1)⊕((Int×List C1)⊕Empty)):=
 bif (decide (s3.1<(s3.2.length:Int)))then(ak4 (ak4 (cl6 s3.1 (s3.2.length:Int) s3.2.length) fun _=>ak4 (cl6 0 s3.1 s3.2.length) fun _=>some (j5 (s3.1+((min (eD2 s3.1-eD2 0) (eD2 (s3.2.length:Int)-eD2 s3.1):Nat):Int)),en2 s3.2 s3.1 (s3.2.length:Int) 0 s3.1)) fun(s4:Int×List C1)=>some (.inl (s4.1,s4.2)))else(some (.inr (.inl (s3.1,s3.2))))
def Q0 (x:List C1)(count:Int):Option (List C1):=
 ak4 (bif (decide (count<0))then none else(some ())) fun(_:Unit)=>ak4 (bB7 (ba6.wrap (x.length:Int)) (ba6.wrap count)) fun r2=>ak4 (bif ((decide (r2.1>0))||(decide (r2.2>9223372036854775807)))then none else(some ())) fun(_:Unit)=>ak4 (aY5 (j5 r2.2) (⟨0,0,0⟩:C1)) fun l=>ak4 (L8 (aK3) ((min (x).length (l).length:Nat),aJ3 l x)) fun(t:(Int×List C1)⊕Empty)=>match t with| .inl s5=>(some s5.2)| .inr r=>r.elim
def P3 (s:List B0)(f2:B0->Option Bool)(i:Int)(_:Unit):Option (Fl Unit Int):=
 ak4 (E0 s i) fun x=>ak4 (f2 x) fun v=>bif v then(some (.ret i))else(some (.next ()))
def C6 (s:List B0)(f2:B0->Option Bool):Option Int:=
 ak4 (L2 (s.length:Int) (P3 s f2) ()) fun(t:Unit⊕Int)=>match t with| .inl _=>(some (-1))| .inr r2=>some r2
def au0 (del:B0->Option Bool)(s2:Int×Int×List B0):Option ((Int×Int×List B0)⊕((Int×Int×List B0)⊕Empty)):=
 bif (decide (s2.2.1<(s2.2.2.length:Int)))then(ak4 (E0 s2.2.2 s2.2.1) fun x=>ak4 (del x) fun v2=>bif (!v2)then(ak4 (E0 s2.2.2 s2.1) fun _=>ak4 (ao3 s2.2.2 s2.1 x) fun l=>some (.inl (j5 (s2.1+1),j5 (s2.2.1+1),l)))else(some (.inl (s2.1,j5 (s2.2.1+1),s2.2.2))))else(some (.inr (.inl (s2.1,s2.2.1,s2.2.2))))
def L3 (s:List B0)(del:B0->Option Bool):Option (List B0):=
 ak4 (C6 s del) fun v=>bif (v==(-1))then(some s)else(ak4 (L8 (au0 del) (v,j5 (v+1),s)) fun(t:(Int×Int×List B0)⊕Empty)=>match t with| .inl s3=>(ak4 (cl6 s3.1 (s3.2.2.length:Int) s3.2.2.length) fun _=>ak4 (ay7 (bV6 s3.2.2 s3.1 (s3.2.2.length:Int) (⟨(⟨0,0,0,0⟩:C0),0,false,0⟩:B0)) 0 s3.1) fun l2=>some l2)| .inr r=>r.elim)
def aA2 (s:List j8)(f2:j8->Option Bool)(i:Int)(_:Unit):Option (Fl Unit Int):=
 ak4 (E0 s i) fun x=>ak4 (f2 x) fun v=>bif v then(some (.ret i))else(some (.next ()))
def ad7 (s:List j8)(f2:j8->Option Bool):Option Int:=
 ak4 (L2 (s.length:Int) (aA2 s f2) ()) fun(t:Unit⊕Int)=>match t with| .inl _=>(some (-1))| .inr r2=>some r2
def am6 (del:j8->Option Bool)(s2:Int×Int×List j8):Option ((Int×Int×List j8)⊕((Int×Int×List j8)⊕Empty)):=
 bif (decide (s2.2.1<(s2.2.2.length:Int)))then(ak4 (E0 s2.2.2 s2.2.1) fun x=>ak4 (del x) fun v2=>bif (!v2)then(ak4 (E0 s2.2.2 s2.1) fun _=>ak4 (ao3 s2.2.2 s2.1 x) fun l=>some (.inl (j5 (s2.1+1),j5 (s2.2.1+1),l)))else(some (.inl (s2.1,j5 (s2.2.1+1),s2.2.2))))else(some (.inr (.inl (s2.1,s2.2.1,s2.2.2))))
def N9 (s:List j8)(del:j8->Option Bool):Option (List j8):=
 ak4 (ad7 s del) fun v=>bif (v==(-1))then(some s)else(ak4 (L8 (am6 del) (v,j5 (v+1),s)) fun(t:(Int×Int×List j8)⊕Empty)=>match t with| .inl s3=>(ak4 (cl6 s3.1 (s3.2.2.length:Int) s3.2.2.length) fun _=>ak4 (ay7 (bV6 s3.2.2 s3.1 (s3.2.2.length:Int) (⟨0,0,false⟩:j8)) 0 s3.1) fun l2=>some l2)| .inr r=>r.elim)
end Go.Pv
namespace Go.Proofs.YtjhedhnghldjbaaGreatDoor
open Go Go.Pv Go.Proofs
set_option maxHeartbeats 4000000
def bZ9:Go.Shelf.Ren:=⟨fun|264=>316|n=>n,fun|46=>265|53=>413|n=>n,fun|n=>n⟩
open Go.Shelf in
def ec4:Lays.n264 Tryz.prog bZ9:={
 mixed:=by kernel_rfl,
 f264:=Tryz.func316.trans (congrArg some (by kernel_rfl)),
 t46:=Tryz.underlying265,
 a46:=Tryz.isAgg265,
 z46:=Tryz.sizeOf265,
 v46:=Tryz.zeroValue265,
 t53:=Tryz.underlying413,
 a53:=Tryz.isAgg413,
 z53:=Tryz.sizeOf413,
 v53:=Tryz.zeroValue413}
def bo1 (x y:Int):aM2 Tryz.prog 316 [.t (tK .u64 x),.t (tK .u64 y)] (as9 x y) (fun r=>.P4 [.t (tK .u64 r.1),.t (tK .u64 r.2)]):=
 ec5 (ρ:=bZ9) ec4 Tryz.call316 x y
def cf6 (x y:Int):aM2 Tryz.prog 223 [.t (tK .u64 x),.t (tK .u64 y)] (bB7 x y) (fun r=>.P4 [.t (tK .u64 r.1),.t (tK .u64 r.2)]):=by
 refine aM2.intro K6 30 [.tmp 4,.tmp 5] Tryz.call223 Tryz.func223 rfl rfl rfl (bd6 rfl) fun w0 L _ _=>?_
 refine E9.s 6 rfl ?_
 refine E9.fe4 rfl (.o 5 rfl ?_)
 refine B9.k (bo1 x y) rfl fun r2=>.o 8 rfl ?_
 exact B9.r 5 rfl (rt rfl)
def by6 (x:List C1)(count:Int):aM2 Tryz.prog 136 [NS I8 x,NI count] (Q0 x count) (fun r=>NS I8 r):=by
 refine aM2.intro K6 48 [.tmp 4] Tryz.call136 Tryz.func136 rfl rfl rfl (bd6 rfl) fun w0 L _ _=>?_
 refine E9.s 5 rfl ?_
 refine E9.s 5 rfl (.bind (Q₁:=nrm fun t=>⟨[(0,NS I8 x),(1,NI count)],[]⟩) ?_ ?_)
 ·refine E9.cond rfl ?_ ?_
  ·exact E9.o 1 rfl .fail
  ·exact E9.l 1 rfl (lf rfl rfl)
 rintro s e σ' _ ⟨rfl,hs⟩
 refine ab8.sub hs (E9.o 7 rfl (.k (cf6 (ba6.wrap (x.length:Int)) (ba6.wrap count)) rfl fun r2=>?_))
 refine B9.o 9 rfl ?_
 refine B9.o 3 rfl (.fi2 (v:=decide (r2.2>9223372036854775807)) 3 23 (fun b=>⟨[(0,NS I8 x),(6,.t (tK .u64 r2.2)),(26,NB b)],[]⟩) rfl ?_ ?_ ?_)
 ·exact B9.l 4 rfl (lf rfl rfl)
 ·exact B9.l 4 rfl (lf rfl rfl)
 refine B9.s 1 rfl (.bind (Q₁:=nrm fun t=>⟨[(0,NS I8 x),(6,.t (tK .u64 r2.2))],[]⟩) ?_ ?_)
 ·refine E9.cond rfl ?_ ?_
  ·exact E9.o 1 rfl .fail
  ·exact E9.l 1 rfl (lf rfl rfl)
 rintro s2 e σ' _ ⟨rfl,hs⟩
 refine ab8.sub hs (E9.o 4 rfl (.fh0 (enc:=I8) 2240 (⟨0,0,0⟩:C1) rfl rfl rfl rfl rfl rfl rfl rfl rfl rfl rfl rfl rfl fun l hl=>?_))
 refine B9.o 6 rfl ?_
 refine B9.en1 (e2:=0) (l:=l) (r:=x) rfl rfl rfl rfl (fun _=>rfl) (fun _=>rfl) rfl rfl (.inl rfl) rfl (.s 4 rfl ?_)
 refine E9.loop (fun t=>⟨[(7,.own 2240),(8,NI t.1)],[(2240,.rs 237 3 t.2 I8)]⟩) (fun b e σ'=>match b with| .inl t=>e= .exit 0/\Sub ⟨[(7,.own 2240)],[(2240,.rs 237 3 t.2 I8)]⟩ σ'| .inr t=>False) (.of rfl rfl) ?_ ?_
 ·intro s3
  refine E9.s 8 rfl ?_
  refine E9.cond rfl ?_ ?_
  ·refine E9.s 2 rfl (.bind (Q₁:=nrm fun t=>⟨[(7,.own 2240),(8,NI t.1)],[(2240,.rs 237 3 t.2 I8)]⟩) ?_ ?_)
   ·refine ab8.pre fun u hu=>ab8.pre fun u2 hu2=>E9.fe7 8 (bm 10 0) (bm 10 255) ⟨[(7,.own 2240),(8,NI s3.1),(38,NI s3.1),(45,NI ((min (eD2 s3.1-eD2 0) (eD2 (s3.2.length:Int)-eD2 s3.1):Nat):Int))],[(2240,.rs 237 3 (en2 s3.2 s3.1 (s3.2.length:Int) 0 s3.1) I8)]⟩ mixed (fun _ _ _ h=>by cases h.1) rfl rfl rfl rfl ?_ ?_
    ·refine aT4.ga 5 [0,1,2,4,5] (by kernel_rfl) rfl (.all [3,6] (by kernel_rfl) rfl (ci2.cons (σ₁:=⟨[(7,.own 2240),(8,NI s3.1),(38,NI s3.1),(41,.vw 2240 (eD2 s3.1) (eD2 (s3.2.length:Int)-eD2 s3.1) 3),(42,.own 2240),(43,NI s3.1)],[(2240,.rs 237 3 s3.2 I8)]⟩) _ rfl rfl ?_ ?_ ?_))
     ·refine B9.dV6 hu (B9.di3 rfl rfl rfl rfl rfl rfl rfl rfl rfl rfl rfl (B9.ifG ?_))
      exact B9.l 1 rfl (lf rfl rfl)
     ·exact aT4.one 6 rfl (by kernel_rfl) (B9.dV6 hu2 (B9.di3 rfl rfl rfl rfl rfl rfl rfl rfl rfl rfl rfl (B9.ifG (B9.l 1 rfl ⟨rfl,rfl⟩)))) (.one 7 rfl (by kernel_rfl) (B9.copyV hu hu2 cv0 cv0 rfl rfl rfl rfl (fun _=>rfl) (fun _=>rfl) rfl rfl rfl rfl (B9.l 1 rfl ⟨rfl,rfl⟩)) (.done (.of rfl rfl)))
     refine ci2.cons (σ₁:=⟨[(7,.own 2240),(8,NI s3.1),(38,NI s3.1),(39,.own 2240),(40,NI s3.1),(44,.vw 2240 (eD2 0) (eD2 s3.1-eD2 0) 3)],[(2240,.rs 237 3 s3.2 I8)]⟩) _ rfl rfl ?_ ?_ ?_
     ·refine B9.dV6 hu2 (B9.di3 rfl rfl rfl rfl rfl rfl rfl rfl rfl rfl rfl (B9.ifG ?_))
      exact B9.l 1 rfl (lf rfl rfl)
     ·exact aT4.one 3 rfl (by kernel_rfl) (B9.dV6 hu (B9.di3 rfl rfl rfl rfl rfl rfl rfl rfl rfl rfl rfl (B9.ifG (B9.l 1 rfl ⟨rfl,rfl⟩)))) (.one 7 rfl (by kernel_rfl) (B9.copyV hu hu2 cv0 cv0 rfl rfl rfl rfl (fun _=>rfl) (fun _=>rfl) rfl rfl rfl rfl (B9.l 1 rfl ⟨rfl,rfl⟩)) (.done (.of rfl rfl)))
     exact ci2.nil
    exact B9.l 3 rfl (lf rfl rfl)
   rintro s4 e σ' _ ⟨rfl,hs⟩
   exact ab8.sub hs (E9.l 1 rfl (lf rfl rfl))
  ·exact E9.bs1 rfl ⟨(fun h=>by cases h),rfl,.of rfl rfl⟩
 rintro(s5|r) e σ' _ hq
 ·obtain⟨rfl,hs⟩:=hq
  refine ab8.exit rfl (ab8.sub hs ?_)
  exact E9.r 5 rfl (rt rfl)
 ·exact hq.elim
def bw5 (s:List B0)(n2:Nat)(cs:List (List Tree))(f2:B0->Option Bool)(h2:∀x0,aM2 Tryz.prog n2 ([bd8 x0]++cs.map T.el) (f2 x0) (fun r=>NB r)):aM2 Tryz.prog 233 [NS I5 s,.fz n2 cs] (C6 s f2) (fun r=>NI r):=by
 refine aM2.intro K6 19 [.tmp 4] Tryz.call233 Tryz.func233 rfl rfl rfl (bd6 rfl) fun w0 L _ _=>?_
 refine E9.s 5 rfl ?_
 refine E9.s 7 rfl ?_
 refine E9.loop (fun p=>⟨[(0,NS I5 s),(1,.fz n2 cs),(7,NI (s.length:Int)),(8,NI p.1)],[]⟩) (fun b e σ'=>match b with| .inl t=>e= .exit 0/\Sub ⟨[],[]⟩ σ'| .inr t=>e= .ret/\dp1 C8 σ' [.tmp 4]=some (((fun r=>NI r):Int->T) t)) (.of rfl rfl) ?_ ?_
 ·rintro⟨i,s2⟩
  refine E9.s 5 rfl ?_
  refine E9.cond rfl ?_ ?_
  ·refine E9.s 2 rfl (ab8.sub (σ':=⟨[(0,NS I5 s),(1,.fz n2 cs),(7,NI (s.length:Int)),(8,NI i)],[]⟩) (.of rfl rfl) (E9.bind (Q₁:=fun f e σ'=>match f with| .next t=>e= .normal/\Sub ⟨[(0,NS I5 s),(1,.fz n2 cs),(7,NI (s.length:Int)),(8,NI i)],[]⟩ σ'| .brk t=>e= .exit 0/\Sub ⟨[],[]⟩ σ'| .ret t=>e= .ret/\dp1 C8 σ' [.tmp 4]=some (((fun r=>NI r):Int->T) t)) ?_ ?_))
   ·refine E9.s 6 rfl ?_
    refine E9.o 5 rfl (.index rfl rfl rfl rfl rfl rfl rfl rfl (fun _=>rfl) fun x hx=>.o 1 rfl ?_)
    refine B9.k (h2 x) rfl fun v=>.s 1 rfl (.cond rfl ?_ ?_)
    ·exact E9.r 5 rfl ⟨rfl,rfl⟩
    ·exact E9.l 2 rfl (lf rfl rfl)
   rintro(t|t|t) e σ' _ hq
   ·obtain⟨rfl,hs⟩:=hq
    exact ab8.sub hs (E9.l 4 rfl (lf rfl rfl))
   ·obtain⟨rfl,hs⟩:=hq
    exact ab8.bs1 rfl ⟨(fun h=>by cases h),rfl,hs⟩
   ·obtain⟨rfl,hs⟩:=hq
    exact ab8.ret ⟨(fun h=>by cases h),rfl,hs⟩
  ·exact E9.bs1 rfl ⟨(fun h=>by cases h),rfl,.of rfl rfl⟩
 rintro(s3|r2) e σ' _ hq
 ·obtain⟨rfl,hs⟩:=hq
  refine ab8.exit rfl (ab8.sub hs ?_)
  exact E9.r 4 rfl (rt rfl)
 ·obtain⟨rfl,hs⟩:=hq
  exact ab8.ret ⟨.inl rfl,hs⟩
def bs4 (s:List B0)(n2:Nat)(cs:List (List Tree))(del:B0->Option Bool)(h2:∀x0,aM2 Tryz.prog n2 ([bd8 x0]++cs.map T.el) (del x0) (fun r=>NB r)):bh6 Tryz.prog 371 [.own 1000000,.fz n2 cs] [(1000000,.rs 248 7 s I5)] (L3 s del) (fun _=>.own 900000) (fun r=>[(900000,.rs 248 7 r I5)]):=by
 refine bh6.intro K6 42 [.tmp 4] Tryz.call371 Tryz.func371 rfl rfl rfl (bd6 rfl) fun w0 L _ _=>?_
 refine E9.s 5 rfl ?_
 refine E9.o 3 rfl (.eN7 _ rfl rfl rfl (bw5 s n2 cs del h2) (fun _=>rfl) (fun _=>rfl) fun v=>.s 2 rfl ?_)
 refine E9.s 6 rfl ?_
 refine E9.cond rfl ?_ ?_
 ·exact E9.r 5 rfl (rt (⟨[(1000000,900000)],_,_,rfl,rfl,rfl,rfl,rfl⟩))
 ·refine E9.o 7 rfl ?_
  refine B9.s 2 rfl (.loop (fun t=>⟨[(0,.own 1000000),(1,.fz n2 cs),(5,NI t.1),(6,NI t.2.1)],[(1000000,.rs 248 7 t.2.2 I5)]⟩) (fun b e σ'=>match b with| .inl t=>e= .exit 0/\Sub ⟨[(0,.own 1000000),(5,NI t.1)],[(1000000,.rs 248 7 t.2.2 I5)]⟩ σ'| .inr t=>False) (.of rfl rfl) ?_ ?_)
  ·intro s2
   refine E9.s 8 rfl ?_
   refine E9.cond rfl ?_ ?_
   ·refine E9.o 5 rfl ?_
    refine B9.o 2 rfl (.dm6 rfl rfl rfl rfl rfl rfl rfl rfl rfl rfl fun x hx=>.eP3 hx rfl rfl rfl rfl rfl rfl rfl rfl (.s 3 rfl ?_))
    refine E9.o 4 rfl (.k (h2 x) rfl fun v2=>.o 1 rfl ?_)
    refine B9.s 1 rfl (.cond rfl ?_ ?_)
    ·refine E9.o 5 rfl (.dm6 rfl rfl rfl rfl rfl rfl rfl rfl rfl rfl fun x2 hx2=>.dM9 x [tI x.Event.I0,tI x.Event.Kind,tI x.Event.p7,tI x.Event.aj6,tI x.Left,tB x.F4,tI x.At] hx2 rfl rfl rfl rfl rfl rfl rfl rfl rfl rfl rfl rfl fun l hl=>?_)
     refine B9.s 7 rfl ?_
     exact E9.l 5 rfl (lf rfl rfl)
    ·refine E9.s 7 rfl ?_
     exact E9.leaf (lf rfl rfl)
   ·exact E9.bs1 rfl ⟨(fun h=>by cases h),rfl,.of rfl rfl⟩
  rintro(s3|r) e σ' _ hq
  ·obtain⟨rfl,hs⟩:=hq
   refine ab8.exit rfl (ab8.sub hs ?_)
   refine E9.o 4 rfl (.di3 rfl rfl rfl rfl rfl rfl rfl rfl rfl rfl rfl fun u hu=>.em5 (⟨(⟨0,0,0,0⟩:C0),0,false,0⟩:B0) hu cv0 rfl rfl rfl rfl rfl rfl rfl rfl rfl rfl rfl ?_)
   refine B9.o 5 rfl (.ey5 (id':=2328) (tm':=[(5,NI s3.1),(37,NI s3.1),(40,NI s3.1)]) (X8:=[]) rfl rfl rfl rfl rfl rfl rfl rfl rfl (.of rfl rfl) rfl rfl rfl rfl fun l2 hl2=>?_)
   exact B9.r 2 rfl (rt (⟨[(2328,900000)],_,_,rfl,rfl,rfl,rfl,rfl⟩))
  ·exact hq.elim
def bo2 (s:List j8)(n2:Nat)(cs:List (List Tree))(f2:j8->Option Bool)(h2:∀x0,aM2 Tryz.prog n2 ([aB6 x0]++cs.map T.el) (f2 x0) (fun r=>NB r)):aM2 Tryz.prog 375 [NS u9 s,.fz n2 cs] (ad7 s f2) (fun r=>NI r):=by
 refine aM2.intro K6 19 [.tmp 4] Tryz.call375 Tryz.func375 rfl rfl rfl (bd6 rfl) fun w0 L _ _=>?_
 refine E9.s 5 rfl ?_
 refine E9.s 7 rfl ?_
 refine E9.loop (fun p=>⟨[(0,NS u9 s),(1,.fz n2 cs),(7,NI (s.length:Int)),(8,NI p.1)],[]⟩) (fun b e σ'=>match b with| .inl t=>e= .exit 0/\Sub ⟨[],[]⟩ σ'| .inr t=>e= .ret/\dp1 C8 σ' [.tmp 4]=some (((fun r=>NI r):Int->T) t)) (.of rfl rfl) ?_ ?_
 ·rintro⟨i,s2⟩
  refine E9.s 5 rfl ?_
  refine E9.cond rfl ?_ ?_
  ·refine E9.s 2 rfl (ab8.sub (σ':=⟨[(0,NS u9 s),(1,.fz n2 cs),(7,NI (s.length:Int)),(8,NI i)],[]⟩) (.of rfl rfl) (E9.bind (Q₁:=fun f e σ'=>match f with| .next t=>e= .normal/\Sub ⟨[(0,NS u9 s),(1,.fz n2 cs),(7,NI (s.length:Int)),(8,NI i)],[]⟩ σ'| .brk t=>e= .exit 0/\Sub ⟨[],[]⟩ σ'| .ret t=>e= .ret/\dp1 C8 σ' [.tmp 4]=some (((fun r=>NI r):Int->T) t)) ?_ ?_))
   ·refine E9.s 6 rfl ?_
    refine E9.o 5 rfl (.index rfl rfl rfl rfl rfl rfl rfl rfl (fun _=>rfl) fun x hx=>.o 1 rfl ?_)
    refine B9.k (h2 x) rfl fun v=>.s 1 rfl (.cond rfl ?_ ?_)
    ·exact E9.r 5 rfl ⟨rfl,rfl⟩
    ·exact E9.l 2 rfl (lf rfl rfl)
   rintro(t|t|t) e σ' _ hq
   ·obtain⟨rfl,hs⟩:=hq
    exact ab8.sub hs (E9.l 4 rfl (lf rfl rfl))
   ·obtain⟨rfl,hs⟩:=hq
    exact ab8.bs1 rfl ⟨(fun h=>by cases h),rfl,hs⟩
   ·obtain⟨rfl,hs⟩:=hq
    exact ab8.ret ⟨(fun h=>by cases h),rfl,hs⟩
  ·exact E9.bs1 rfl ⟨(fun h=>by cases h),rfl,.of rfl rfl⟩
 rintro(s3|r2) e σ' _ hq
 ·obtain⟨rfl,hs⟩:=hq
  refine ab8.exit rfl (ab8.sub hs ?_)
  exact E9.r 4 rfl (rt rfl)
 ·obtain⟨rfl,hs⟩:=hq
  exact ab8.ret ⟨.inl rfl,hs⟩
def bj6 (s:List j8)(n2:Nat)(cs:List (List Tree))(del:j8->Option Bool)(h2:∀x0,aM2 Tryz.prog n2 ([aB6 x0]++cs.map T.el) (del x0) (fun r=>NB r)):bh6 Tryz.prog 308 [.own 1000000,.fz n2 cs] [(1000000,.rs 409 3 s u9)] (N9 s del) (fun r=>NS u9 r) (fun _=>[]):=by
 refine bh6.intro K6 42 [.tmp 4] Tryz.call308 Tryz.func308 rfl rfl rfl (bd6 rfl) fun w0 L _ _=>?_
 refine E9.s 5 rfl ?_
 refine E9.o 3 rfl (.eN7 _ rfl rfl rfl (bo2 s n2 cs del h2) (fun _=>rfl) (fun _=>rfl) fun v=>.s 2 rfl ?_)
 refine E9.s 6 rfl ?_
 refine E9.cond rfl ?_ ?_
 ·refine E9.s 5 rfl (ab8.frz 1000000 rfl ?_)
  exact E9.ret (rt (⟨[],_,_,rfl,rfl,rfl,rfl,rfl⟩))
 ·refine E9.o 7 rfl ?_
  refine B9.s 2 rfl (.loop (fun t=>⟨[(0,.own 1000000),(1,.fz n2 cs),(5,NI t.1),(6,NI t.2.1)],[(1000000,.rs 409 3 t.2.2 u9)]⟩) (fun b e σ'=>match b with| .inl t=>e= .exit 0/\Sub ⟨[(0,.own 1000000),(5,NI t.1)],[(1000000,.rs 409 3 t.2.2 u9)]⟩ σ'| .inr t=>False) (.of rfl rfl) ?_ ?_)
  ·intro s2
   refine E9.s 8 rfl ?_
   refine E9.cond rfl ?_ ?_
   ·refine E9.o 5 rfl ?_
    refine B9.o 2 rfl (.dm6 rfl rfl rfl rfl rfl rfl rfl rfl rfl rfl fun x hx=>.eP3 hx rfl rfl rfl rfl rfl rfl rfl rfl (.s 3 rfl ?_))
    refine E9.o 4 rfl (.k (h2 x) rfl fun v2=>.o 1 rfl ?_)
    refine B9.s 1 rfl (.cond rfl ?_ ?_)
    ·refine E9.o 5 rfl (.dm6 rfl rfl rfl rfl rfl rfl rfl rfl rfl rfl fun x2 hx2=>.dM9 x [tI x.At,tI x.Channel,tB x.L4] hx2 rfl rfl rfl rfl rfl rfl rfl rfl rfl rfl rfl rfl fun l hl=>?_)
     refine B9.s 7 rfl ?_
     exact E9.l 5 rfl (lf rfl rfl)
    ·refine E9.s 7 rfl ?_
     exact E9.leaf (lf rfl rfl)
   ·exact E9.bs1 rfl ⟨(fun h=>by cases h),rfl,.of rfl rfl⟩
  rintro(s3|r) e σ' _ hq
  ·obtain⟨rfl,hs⟩:=hq
   refine ab8.exit rfl (ab8.sub hs ?_)
   refine E9.o 4 rfl (.di3 rfl rfl rfl rfl rfl rfl rfl rfl rfl rfl rfl fun u hu=>.em5 (⟨0,0,false⟩:j8) hu cv0 rfl rfl rfl rfl rfl rfl rfl rfl rfl rfl rfl ?_)
   refine B9.o 5 rfl (.frz 1000000 rfl ?_)
   exact B9.ey4 rfl rfl rfl rfl rfl rfl rfl (fun _=>rfl) rfl rfl fun l2 hl2=>.r 2 rfl (rt (⟨[],_,_,rfl,rfl,rfl,rfl,rfl⟩))
  ·exact hq.elim
def by7 {s r:List C1}{n:Int}(h:eK3 s n=some r):Pv.Q0 s n=some r:=by
 match s,h with
 |[x],h=>
  change(if n=1 then some [x]else none)=some r at h
  by_cases hn:n=1
  case neg=>rw[if_neg hn]at h;cases h
  subst hn
  rw[if_pos rfl]at h
  cases h
  have e:Pv.Q0 [x] 1=ak4 (L8 Pv.aK3 (1,[x])) (fun t=>match t with| .inl s5=>(some s5.2)| .inr r=>r.elim):=by kernel_rfl
  rw[e,E6 (b:=.inl (1,[x])) rfl]
  rfl
 |[],h=>simp[eK3]at h
 |_::_::_,h=>simp[eK3]at h
def br9 {s r:List B0}{f:B0->Option Bool}(h:du9 s=some r):Pv.L3 s f=some r:=by
 cases s with
 |nil=>
  simp only[du9,aI6]at h
  subst h
  have h1:L2 (([]:List B0).length:Int) (Pv.P3 [] f) ()=some (.inl ()):=by rw[am4 _ (by simp)];rfl
  have h2:Pv.C6 [] f=some (-1):=by unfold Pv.C6;rw[h1];rfl
  unfold Pv.L3
  rw[h2]
  rfl
 |cons x l=>simp[du9]at h
def bi6 {s r:List j8}{f:j8->Option Bool}(h:du9 s=some r):Pv.N9 s f=some r:=by
 cases s with
 |nil=>
  simp only[du9,aI6]at h
  subst h
  have h1:L2 (([]:List j8).length:Int) (Pv.aA2 [] f) ()=some (.inl ()):=by rw[am4 _ (by simp)];rfl
  have h2:Pv.ad7 [] f=some (-1):=by unfold Pv.ad7;rw[h1];rfl
  unfold Pv.N9
  rw[h2]
  rfl
 |cons x l=>simp[du9]at h
open Tryz
set_option maxHeartbeats 4000000
def aH4:C prog (List S1):=.of Z call10 func10 [] (fun r=>.t (tS T3 r)) (
 .Z (.fr 1)<| .Z (.fr 3)<| .Z (.fr 5)<| .Z (.fr 7)<| .Z (.fr 9)<| .Z (.fr 11)<| .Z (.fr 13)<| .R ([(⟨(ByteArray.mk #[108,105,109,112]),0,2,([0]:List Int),600⟩:S1),(⟨(ByteArray.mk #[100,114,111,112]),0,2,([1,4]:List Int),1500⟩:S1),(⟨(ByteArray.mk #[115,116,111,112]),0,9,([5,6]:List Int),0⟩:S1),(⟨(ByteArray.mk #[112,114,101,115,115,117,114,101]),1,0,([1]:List Int),500⟩:S1),(⟨(ByteArray.mk #[97,105,114]),2,0,([2]:List Int),40⟩:S1),(⟨(ByteArray.mk #[99,111,111,108,97,110,116]),3,0,([3]:List Int),90⟩:S1),(⟨(ByteArray.mk #[112,114,111,98,101]),4,0,([4]:List Int),450⟩:S1)]:List S1))
def cB9:Go.Shelf.Ren:=⟨fun|129=>377|171=>67|243=>127|246=>219|283=>311|284=>312|285=>313|286=>314|317=>376|318=>378|319=>379|320=>380|337=>421|338=>422|n=>n,fun|0=>0|2=>2|3=>3|4=>4|5=>5|9=>9|20=>20|37=>129|46=>265|51=>364|53=>413|171=>412|173=>416|212=>461|213=>462|232=>513|233=>514|n=>n,fun|17=>1|18=>2|19=>3|n=>n⟩
open Go.Shelf in
def eH8:LaysM.n171 prog cB9:={
 mixed:=by kernel_rfl,
 f129:=func377.trans (congrArg some (by kernel_rfl)),
 f171:=func67.trans (congrArg some (by kernel_rfl)),
 f243:=func127.trans (congrArg some (by kernel_rfl)),
 f246:=func219.trans (congrArg some (by kernel_rfl)),
 f283:=func311.trans (congrArg some (by kernel_rfl)),
 f284:=func312.trans (congrArg some (by kernel_rfl)),
 f285:=func313.trans (congrArg some (by kernel_rfl)),
 f286:=func314.trans (congrArg some (by kernel_rfl)),
 f317:=func376.trans (congrArg some (by kernel_rfl)),
 f318:=func378.trans (congrArg some (by kernel_rfl)),
 f319:=func379.trans (congrArg some (by kernel_rfl)),
 f320:=func380.trans (congrArg some (by kernel_rfl)),
 f337:=func421.trans (congrArg some (by kernel_rfl)),
 f338:=func422.trans (congrArg some (by kernel_rfl)),
 t0:=Tryz.underlying0,
 a0:=Tryz.isAgg0,
 z0:=Tryz.sizeOf0,
 v0:=Tryz.zeroValue0,
 t2:=Tryz.underlying2,
 a2:=Tryz.isAgg2,
 z2:=Tryz.sizeOf2,
 v2:=Tryz.zeroValue2,
 t3:=Tryz.underlying3,
 a3:=Tryz.isAgg3,
 z3:=Tryz.sizeOf3,
 v3:=Tryz.zeroValue3,
 t4:=Tryz.underlying4,
 a4:=Tryz.isAgg4,
 z4:=Tryz.sizeOf4,
 v4:=Tryz.zeroValue4,
 t5:=Tryz.underlying5,
 a5:=Tryz.isAgg5,
 z5:=Tryz.sizeOf5,
 v5:=Tryz.zeroValue5,
 t9:=Tryz.underlying9,
 a9:=Tryz.isAgg9,
 z9:=Tryz.sizeOf9,
 v9:=Tryz.zeroValue9,
 t20:=Tryz.underlying20,
 a20:=Tryz.isAgg20,
 z20:=Tryz.sizeOf20,
 v20:=Tryz.zeroValue20,
 t37:=Tryz.underlying129,
 a37:=Tryz.isAgg129,
 z37:=Tryz.sizeOf129,
 v37:=Tryz.zeroValue129,
 t46:=Tryz.underlying265,
 a46:=Tryz.isAgg265,
 z46:=Tryz.sizeOf265,
 v46:=Tryz.zeroValue265,
 t51:=Tryz.underlying364,
 a51:=Tryz.isAgg364,
 z51:=Tryz.sizeOf364,
 v51:=Tryz.zeroValue364,
 t53:=Tryz.underlying413,
 a53:=Tryz.isAgg413,
 z53:=Tryz.sizeOf413,
 v53:=Tryz.zeroValue413,
 t171:=Tryz.underlying412,
 a171:=Tryz.isAgg412,
 z171:=Tryz.sizeOf412,
 v171:=Tryz.zeroValue412,
 t173:=Tryz.underlying416,
 a173:=Tryz.isAgg416,
 z173:=Tryz.sizeOf416,
 v173:=Tryz.zeroValue416,
 t212:=Tryz.underlying461,
 a212:=Tryz.isAgg461,
 z212:=Tryz.sizeOf461,
 v212:=Tryz.zeroValue461,
 t213:=Tryz.underlying462,
 a213:=Tryz.isAgg462,
 z213:=Tryz.sizeOf462,
 t232:=Tryz.underlying513,
 a232:=Tryz.isAgg513,
 z232:=Tryz.sizeOf513,
 v232:=Tryz.zeroValue513,
 t233:=Tryz.underlying514,
 a233:=Tryz.isAgg514,
 z233:=Tryz.sizeOf514,
 v233:=Tryz.zeroValue514,
 g17:=by kernel_rfl,
 g18:=by kernel_rfl,
 g19:=by kernel_rfl,
 i0:=by kernel_rfl,
 i2:=by kernel_rfl,
 i3:=by kernel_rfl,
 i4:=by kernel_rfl,
 i5:=by kernel_rfl,
 i9:=by kernel_rfl,
 i20:=by kernel_rfl,
 i37:=by kernel_rfl,
 i46:=by kernel_rfl,
 i51:=by kernel_rfl,
 i53:=by kernel_rfl,
 i171:=by kernel_rfl,
 i173:=by kernel_rfl,
 i212:=by kernel_rfl,
 i232:=by kernel_rfl,
 i233:=by kernel_rfl,
 m17:=by kernel_rfl,
 m18:=by kernel_rfl,
 m19:=by kernel_rfl}
def strconv_Itoa (n:Int):C prog ByteArray:=⟨67,[.t (tI n)],dx2 n,fun _=>dx2 n,fun r=>.t (.v (.string r)),true,er4 (ρ:=cB9) eH8 call67 (b:=1) (by kernel_rfl) n,fun _ _ h=>h⟩
def cb6 (n2:Int):C prog ByteArray:=.of Z call31 func31 [.t (tI n2)] (fun r=>.t (.v (.string r))) (
 .K (strconv_Itoa n2) fun v=>.R v)
end Go.Proofs.YtjhedhnghldjbaaGreatDoor

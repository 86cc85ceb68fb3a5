/- A part of the proof of EcuBroken: The value machine, and more. -/
import Derived.Test.YtjhedhnghldjbaaGreatDoorEcuBrokenA
import Derived.Orders
import Derived.ProofKit
import Derived.OpenShut
import Derived.WalkKit
import Derived.Below
import Derived.Carry
import Derived.Laws.StructEq
import Derived.Laws.MakeOwn
import Derived.Shelf.SlSortCmp.NoneTotal
import Derived.Deep.Draws
import Derived.Lib.BitFns
import Derived.Shelf.Strconv.Itoa0
import Derived.Shelf.Bits.Mul64
import Derived.Scope
import Derived.OrdersHeld
import Derived.Shelf.Sort.Plain
import Derived.Shelf.Slices.In.SortNone
import Derived.Shelf.Slices.CompactI
import Derived.Laws.Strings
import Derived.Laws.Concat
import Derived.Lib.BufferRead
set_option linter.all false
set_option maxRecDepth 100000
noncomputable section
open Array renaming getD_eq_getD_getElem?->eR0,getElem?_append_left->fd0,getElem?_eq_some_iff->dq5,length_toList->fe1,replicate->fg0
open Bool renaming and_eq_true->aK5,false_eq_true->dE6,not_eq_true'->bG5,or_eq_true->cH4
open Int renaming le_refl->dj2,toNat_natCast->eV1
open Go.IntKind renaming bits->eR9,i64->fb2,u64->ba6
open List renaming all_eq_true->bt1,append_nil->dq6,cons_append->dy7,drop_drop->eh0,eq_nil_of_length_eq_zero->eC6,filter_append->dq4,getD_eq_getElem?_getD->cY4,getElem?_cons_zero->dq2,getElem?_drop->fj7,getElem?_eq_getElem->aX4,getElem?_eq_some_iff->bG6,getElem?_map->dr2,getElem?_take->dJ8,getElem?_toArray->ff9,getElem_append_left->dM2,getElem_append_right->ez8,getElem_cons_zero->et7,getElem_drop->eV4,getElem_map->dc0,getElem_mem->bf3,getElem_replicate->fb3,getElem_set->fb9,getElem_take->eV5,head?_drop->eB5,length_append->bd4,length_cons->bu9,length_drop->en4,length_map->bY6,length_set->eh3,length_take->cZ8,map_append->eC5,map_cons->cN4,map_nil->dT4,map_take->fd2,map_toArray->fa0,mem_append->du0,mem_cons->ca1,mem_cons_of_mem->bE0,mem_cons_self->cq1,mem_filter->dE3,mem_iff_getElem->cW9,mem_map->cK0,mem_of_getElem?->db2,mem_of_mem_take->eN2,mem_range->dP5,range->di4,range'->dI4,replicate->cr7,setIfInBounds_toArray->eT3,size_toArray->eV8
open Nat renaming add_assoc->ef0,add_mul->eG0,add_zero->eh1,beq->br8,beq_refl->cG4,ble->dE8,blt->bi3,div_add_mod->fb1,div_lt_of_lt_mul->eY1,eq_of_beq_eq_true->bq8,eq_zero_or_pos->dU4,le_of_ble_eq_true->bd6,le_refl->bO2,lt_of_lt_of_le->dp8,mod_eq_of_lt->fa1,mod_lt->eQ6,mul_add_mod->ff1,mul_comm->es2,mul_le_mul_right->cC0,succ_mul->dN2,zero_add->da1,zero_lt_one->ff2
open Option renaming bind->ak4,bind_some->aF2,getD_some->ep8,map_eq_some_iff->dV4,map_none->fh1,map_some->bN9
open Option.some renaming inj->ca0,injEq->aI6
open Prod.mk renaming injEq->ba7
open Go.Result renaming andThen_ok->bd5
open Go.Sem renaming run_bind->bq9,run_pure->bB8
namespace Go.Pv
open Go.RowKit
def more (tm tm':List (Nat×T)):Prop:=∀k t,look tm k=some t->look tm' k=some t
theorem C9 {tm tm':List (Nat×T)}(h:more tm tm'){x:Operand}{t:T}(hx:val tm x=some t):val tm' x=some t:=by
 cases x with
 |tmp k=>exact h k t hx
 |const v=>exact hx
 |func f=>exact hx
 |global g=>exact hx
theorem cy9 {tm tm':List (Nat×T)}(h:more tm tm'):∀{l:List Operand}{r:List T},by8 tm l=some r->by8 tm' l=some r
 |[],r,hx=>hx
 |o::l,r,hx=>by
  unfold by8 at hx|-
  split at hx<;>try(cases hx;done)
  rename_i y m hy hm
  rw[C9 h hy,cy9 h hm]
  exact hx
def ce4 {f:Int->Int->Int}{tm tm':List (Nat×T)}(h:more tm tm'):∀{l:List Operand}{X:Option T}{r:T},bE9 f tm X l=some r->bE9 f tm' X l=some r
 |[],X,r,hx=>by cases X<;>exact hx
 |o::l,X,r,hx=>by
  unfold bE9 at hx|-
  split at hx
  ·rename_i heq;cases heq
  ·rename_i k i o' l' heq
   cases heq
   split at hx
   ·rename_i k' j hv
    simp only[C9 h hv]
    exact ce4 h hx
   ·cases hx
  ·cases hx
def cQ0 {f:Int->Int->Int}{tm:List (Nat×T)}{l:List Operand}{r:T}(h:bE9 f tm none l=some r):False:=by
 cases l<;>simp[bE9]at h
theorem bJ2 {hp:List (Nat×G6)}{tm tm':List (Nat×T)}(h:more tm tm'){place:Nat->Option (Nat×Nat)}:∀{l:List (Nat×Operand)}{cs r:List T},aL5 hp tm place cs l=some r->aL5 hp tm' place cs l=some r
 |[],cs,r,hx=>hx
 |(i,x)::l,cs,r,hx=>by
  unfold aL5 at hx|-
  cases hv:val tm x with
  |none=>grind
  |some t=>
   rw[C9 h hv]
   rw[hv]at hx
   split at hx<;>try(cases hx;done)
   rename_i o n m h1 h2
   cases hb:(br8 m.length n&&dE8 (o+m.length) cs.length)<;>simp only[hb,fk7,fk6]at hx|-
   ·cases hx
   ·exact bJ2 h hx
def dL0 {c:Bool}{X Y X' Y':Option T}{t:T}(hX:∀t,X=some t->X'=some t)(hY:∀t,Y=some t->Y'=some t)(h:co3 c X Y=some t):co3 c X' Y'=some t:=by
 unfold co3 at h
 split at h
 ·rw[hX _ rfl,hY _ rfl];exact h
 ·cases c
  ·rw[hY t h]
   unfold co3
   grind
  ·rw[hX t h]
   unfold co3
   grind
def bB6:Op->Bool
 | .move _| .assign _| .pick .. | .load .. | .fieldAddr .. | .nilCheck _| .binOp .. | .unOp .. | .convert .. | .extract .. | .build .. | .call _| .indexAddr .. | .index ..=>true
 |_=>false
def dv4 {C8:Tab}{tm tm':List (Nat×T)}{hp:List (Nat×G6)}{o:Oper}{t:T}(h:more tm tm')(hi:bB6 o.op=true)(he:evalOp C8 ⟨tm,hp⟩ o=some (t,⟨tm,hp⟩)):
  evalOp C8 ⟨tm',hp⟩ o=some (t,⟨tm',hp⟩):=by
 rw[aU6]at he|-
 obtain⟨dst,op,type,pos,aft,guard⟩:=o
 have mp:∀{x:Option T},x=some t->x.map (·,(⟨tm',hp⟩:St))=some (t,⟨tm',hp⟩):=fun hx=>by rw[hx];rfl
 cases op<;>simp only[bB6,reduceCtorEq]at hi<;>simp only[bl5]at he|-
 case move x=>exact mp (C9 h (S6 he).1)
 case assign x=>exact mp (C9 h (S6 he).1)
 case pick c x y=>
  split at he<;>try(cases he;done)
  rename_i b hc
  rw[C9 h hc]
  exact mp (dL0 (fun t ht=>C9 h ht) (fun t ht=>C9 h ht) (S6 he).1)
 case load ty x=>
  split at he<;>try(cases he;done)
  ·rename_i id off ti hx hti
   rw[C9 h hx,hti]
   split at he<;>try(cases he;done)
   rename_i ts hb
   simp only[hb]
   exact mp (S6 he).1
  ·rename_i cells ti hx hti
   rw[C9 h hx,hti]
   exact mp (S6 he).1
 case nilCheck x=>
  split at he<;>try(cases he;done)
  ·rename_i id off hx;rw[C9 h hx];simp only[aI6,ba7]at he;rw[<-he.1]
  ·rename_i cells hx;rw[C9 h hx];simp only[aI6,ba7]at he;rw[<-he.1]
  ·rename_i hx;rw[C9 h hx];simp only[aI6,ba7]at he;rw[<-he.1]
 case fieldAddr s x f=>
  split at he<;>try(cases he;done)
  all_goals
   rename_i hx hti
   rw[C9 h hx,hti]
   split at he<;>try(cases he;done)
   rename_i hf
   simp only[hf]
   simp only[aI6,ba7]at he
   rw[<-he.1]
 case binOp op ty x y yt=>
  have hb:=(S6 he).1
  refine mp ?_
  unfold el3 at hb|-
  split at hb<;>try(cases hb;done)
  ·rename_i hx hy;rw[C9 h hx,C9 h hy];exact hb
  ·rename_i hx hy;rw[C9 h hx,C9 h hy];exact hb
 case unOp op ty x=>
  have hb:=(S6 he).1
  refine mp ?_
  unfold unT at hb|-
  split at hb<;>try(cases hb;done)
  ·rename_i hx;rw[C9 h hx];exact hb
  ·rename_i hx;rw[C9 h hx];exact hb
 case convert s d x=>
  split at he<;>try(cases he;done)
  rename_i ti hs
  have hb:=(S6 he).1
  refine mp ?_
  unfold du6 at hb|-
  split at hb<;>try(cases hb;done)
  rename_i hx;rw[C9 h hx];exact hb
 case extract x k=>
  split at he<;>try(cases he;done)
  rename_i l hx
  rw[C9 h hx]
  exact mp (S6 he).1
 case build ty parts=>
  split at he<;>try(cases he;done)
  ·rename_i sz fs z hti
   cases hf:aL5 hp tm (fs[·]?) (z.map fun x=>.t (.v x)) parts.toList with
   |none=>simp[hf]at he
   |some l=>
    rw[bJ2 h hf]
    simp only[hf,bN9,aI6,ba7]at he
    simp only[bN9,he.1]
  ·rename_i sz n e z hti
   split at he<;>try(cases he;done)
   rename_i te hte
   try simp only[hte]
   cases hf:aL5 hp tm (fun i=>some (i*te.size,te.size)) (z.map fun x=>.t (.v x)) parts.toList with
   |none=>simp[hf]at he
   |some l=>
    rw[bJ2 h hf]
    simp only[hf,bN9,aI6,ba7]at he
    simp only[bN9,he.1]
 case indexAddr ty x ix=>
  split at he<;>try(cases he;done)
  all_goals
   rename_i hx hti hix
   split at he<;>try(cases he;done)
   rename_i te hte
  ·rename_i id off sz n e z ik i _
   rw[C9 h hx,hti,C9 h hix]
   try simp only[hte]
   cases hb:bi3 i n<;>simp only[hb,fk7,fk6,reduceCtorEq,aI6,ba7]at he|-
   exact⟨he.1,trivial⟩
  ·rename_i cells sz n e z ik i _
   rw[C9 h hx,hti,C9 h hix]
   try simp only[hte]
   cases hb:bi3 i n<;>simp only[hb,fk7,fk6,reduceCtorEq,aI6,ba7]at he|-
   exact⟨he.1,trivial⟩
  ·rename_i id k sz' off sz n e z ik i _
   rw[C9 h hx,hti,C9 h hix]
   try simp only[hte]
   cases hb:bi3 i n<;>simp only[hb,fk7,fk6,reduceCtorEq,aI6,ba7]at he|-
   exact⟨he.1,trivial⟩
 case index ty x ix=>
  split at he<;>try(cases he;done)
  rename_i l sz n e z ik i hx hti hix
  split at he<;>try(cases he;done)
  rename_i te hte
  rw[C9 h hx,hti,C9 h hix]
  try simp only[hte]
  cases hb:bi3 i n<;>simp only[hb,fk7,fk6,reduceCtorEq]at he|-
  exact mp (S6 he).1
 case call c=>
  have hb:=(S6 he).1
  refine mp ?_
  unfold dt6 at hb|-
  split at hb<;>try(cases hb;done)
  ·rename_i x ty h1 h2 h3
   cases hv:val tm x with
   |none=>rw[show val (⟨tm,hp⟩:St).tm x=none from hv]at hb;unfold dx6 at hb;split at hb<;>simp at hb
   |some y=>
    rw[show val (⟨tm,hp⟩:St).tm x=some y from hv]at hb
    show dx6 C8 hp ty (val tm' x)=some t
    rw[C9 h hv];exact hb
  ·rename_i x rest h1 h2
   cases hv:val tm x with
   |none=>rw[show val (⟨tm,hp⟩:St).tm x=none from hv]at hb;exact(cQ0 hb).elim
   |some y=>
    rw[show val (⟨tm,hp⟩:St).tm x=some y from hv]at hb
    show bE9 F7 tm' (val tm' x) rest=some t
    rw[C9 h hv];exact ce4 h hb
  ·rename_i x rest h1 h2
   cases hv:val tm x with
   |none=>rw[show val (⟨tm,hp⟩:St).tm x=none from hv]at hb;exact(cQ0 hb).elim
   |some y=>
    rw[show val (⟨tm,hp⟩:St).tm x=some y from hv]at hb
    show bE9 G8 tm' (val tm' x) rest=some t
    rw[C9 h hv];exact ce4 h hb
section
variable {ρ τ α:Type} {X:Cx} {ks:List K} {V0:List (Nat × T)} {hp:List (Nat × G6)} {all:Array Oper} {o:Oper} {V:T}
theorem as8 {tm tm':List (Nat×T)}{l:List Oper}{g:Option (Nat×Bool)}{b:Bool}(h:more tm tm')(hg:ai6 l tm g=some b):ai6 l tm' g=some b:=by
 cases g with
 |none=>exact hg
 |some p=>
  obtain⟨j,want⟩:=p
  simp only[ai6]at hg|-
  split at hg<;>try(cases hg;done)
  rename_i o ho
  split at hg<;>try(cases hg;done)
  rename_i d hd
  cases hl:look tm d with
  |none=>grind
  |some t=>simp only[hl]at hg;simp only[h d t hl];exact hg
end
def aY3 (o:Oper):List Nat:=(o.after.toList.filter (Region.binds .any)).map (·.on)
def waits (ops:List Oper):Nat->Nat->Nat->Bool
 |0,_,_=>false
 |f+1,j,i=>match ops[j]?with
  |some o=>(aY3 o).any (fun k=>br8 k i)||(aY3 o).any (fun k=>waits ops f k i)
  |none=>false
def eA3 (ops:List Oper)(h:Nat):Bool:=
 (di4 ops.length).all fun j=>(match ops[j]?with|some o=>(aY3 o).all (fun k=>bi3 k j)|none=>true)&&(bi3 j h||(di4 j).all (fun i=>waits ops ops.length j i))
def cv9 (nt:Nat)(tm0:List (Nat×T)):List Oper->Bool
 |[]=>true
 |o::r=>(match o.dst with|some d=>(look tm0 d).isNone&&bi3 d nt&&r.all (fun o'=>match o'.dst with|some d'=>!Nat.beq d d'|none=>true)|none=>true)&&cv9 nt tm0 r
def minOf (ops:List Oper)(Vs:List T)(tm0:List (Nat×T)):List Nat->List (Nat×T)
 |[]=>tm0
 |j::r=>match ops[j]?,Vs[j]?with
  |some o,some V=>match o.dst with
   |some d=>(d,V)::minOf ops Vs tm0 r
   |none=>minOf ops Vs tm0 r
  |_,_=>minOf ops Vs tm0 r
def ce5:List Oper->List T->List (Nat×T)->List (Nat×T)
 |o::r,V::l,tm0=>match o.dst with
  |some d=>(d,V)::ce5 r l tm0
  |none=>ce5 r l tm0
 |_,_,tm0=>tm0
section
variable {X:Cx} {all:Array Oper} {Vs:List T} {tm0:List (Nat × T)} {hp:List (Nat × G6)}
def cR6 {ops:List Oper}{tm:List (Nat×T)}(h0:more tm0 tm):∀(l:List Nat),(∀j o V d,j∈l->ops[j]? =some o->Vs[j]? =some V->o.dst=some d->look tm d=some V)->more (minOf ops Vs tm0 l) tm
 |[],_=>h0
 |j::r,h=>by
  have ih:=cR6 h0 r (fun j' o V d hj=>h j' o V d (bE0 _ hj))
  unfold minOf
  split
  ·rename_i o V ho hV
   split
   ·rename_i d hd
    intro k t hk
    simp only[look]at hk
    by_cases hdk:d=k
    ·subst hdk;simp only[cG4,fk7,aI6]at hk;grind
    ·simp only[D2 hdk,fk6]at hk;exact ih k t hk
   ·exact ih
  ·exact ih
def cB2 {tm:List (Nat×T)}(h0:more tm0 tm):∀(ops:List Oper) (l:List T),(∀(j:Nat) (o:Oper) (V:T) (d:Nat),ops[j]? =some o->l[j]? =some V->o.dst=some d->look tm d=some V)->more (ce5 ops l tm0) tm
 |[],_,_=>by cases‹List T› <;>exact h0
 |o::ops,[],_=>h0
 |o::ops,V::l,h=>by
  have ih:=cB2 h0 ops l (fun j o V d ho hV=>h (j+1) o V d (by grind) (by grind))
  unfold ce5
  split
  ·rename_i d hd
   intro k t hk
   simp only[look]at hk
   by_cases hdk:d=k
   ·subst hdk;simp only[cG4,fk7,aI6]at hk;subst hk;exact h 0 o V d rfl rfl hd
   ·simp only[D2 hdk,fk6]at hk;exact ih k t hk
  ·exact ih
def bv9 {nt:Nat}:∀{l:List Oper},cv9 nt tm0 l=true->∀(i j:Nat) (o o':Oper) (d d':Nat),l[i]? =some o->l[j]? =some o'->o.dst=some d->o'.dst=some d'->(look tm0 d=none/\d<nt)/\(i≠j->d≠d')
 |[],_,i,j,o,o',d,d',hi,_,_,_=>by simp at hi
 |x::r,h,i,j,o,o',d,d',hi,hj,hd,hd'=>by
  simp only[cv9,aK5]at h
  have one:∀(k:Nat) (y:Oper) (c c':Nat),x.dst=some c->r[k]? =some y->y.dst=some c'->c≠c':=by
   intro k y c c' hx hk hy
   have hm:y∈r:=db2 hk
   have h1:=h.1
   rw[hx]at h1
   simp only[aK5,bt1]at h1
   have:=h1.2 y hm
   rw[hy]at this
   intro e
   simp_all
  cases i with
  |zero=>
   simp only[dq2,aI6]at hi
   subst hi
   refine⟨?_,fun hne=>?_⟩
   ·simp_all
   grind
  |succ i=>
   have hi':r[i]? =some o:=by grind
   cases j with
   |zero=>
    simp only[dq2,aI6]at hj
    subst hj
    exact⟨(bv9 h.2 i i o o d d hi' hi' hd hd).1,fun _ e=>one i o d' d hd' hi' hd e.symm⟩
   |succ j=>
    have:=bv9 h.2 i j o o' d d' hi' (by grind) hd hd'
    grind
def cr1 {ops:List Oper}{listed:Array Bool}(hcl:∀j o,ops[j]? =some o->listed.getD j false=true->∀k∈aY3 o,listed.getD k false=true):
  ∀(f j i:Nat),waits ops f j i=true->(∀o,ops[j]? =some o->∀k∈aY3 o,listed.getD k false=true)->listed.getD i false=true
 |0,_,_,h,_=>by simp[waits]at h
 |f+1,j,i,h,hd=>by
  unfold waits at h
  split at h
  ·rename_i o ho
   simp only[cH4,List.any_eq_true]at h
   rcases h with⟨k,hk,he⟩|⟨k,hk,he⟩
   ·have:=bq8 he
    subst this
    exact hd o ho k hk
   ·exact cr1 hcl f k i he (fun o' ho'=>hcl k o' ho' (hd o ho k hk))
  ·cases h
def unl (n:Nat)(listed:Array Bool):Nat:=((di4 n).filter fun i=>!listed.getD i false).length
def eM6 {n i:Nat}{listed:Array Bool}(hi:i<n)(hs:listed.size=n)(h:listed.getD i false=false):unl n listed=unl n (listed.setIfInBounds i true)+1:=by
 unfold unl
 have key:∀m,((di4 m).filter fun j=>!listed.getD j false).length=((di4 m).filter fun j=>!(listed.setIfInBounds i true).getD j false).length+(if i<m then 1 else 0):=by
  intro m
  induction m with
  |zero=>simp
  |succ m ih=>
   rw[List.range_succ,dq4,dq4,bd4,bd4,ih]
   by_cases c1:i=m
   ·simp_all
   ·have e:(listed.setIfInBounds i true).getD m false=listed.getD m false:=getD_set_ne false c1
    grind
 grind
def eB4 {n:Nat}{listed:Array Bool}(h:unl n listed=0):∀i,i<n->listed.getD i false=true:=by
 grind [unl,List.filter_eq_nil_iff]
def bI6 {o:Oper}{listed:Array Bool}(h:∀e∈o.after,Region.binds .any e=true->listed.getD e.on false=true):∀k∈aY3 o,listed.getD k false=true:=by
 intro k hk
 simp only[aY3,cK0,dE3]at hk
 grind
def ej6 {P:Program}{Q:Exit->Act->World->Prop}{h:Nat}(ht:eA3 all.toList h=true):∀(fuel m:Nat) (listed:Array Bool) (a:Act) (w:World),h<=m->m+fuel=all.size->listed.size=all.size->
  (∀j,j<all.size->listed.getD j false=decide (j<m))->wpList P all Q (all.toList.drop m) a w->wpAny P .any all Q fuel listed a w:=by
 intro fuel
 induction fuel with
 |zero=>
  intro m listed a w hm hf hs hl hw
  have cQ7:all.toList.drop m=[]:=List.drop_eq_nil_of_le (by simp;omega)
  rw[cQ7]at hw
  refine⟨?_,hw⟩
  apply List.eq_nil_iff_forall_not_mem.2
  grind [mem_ready]
 |succ fuel ih=>
  intro m listed a w hm hf hs hl hw
  have hmn:m<all.size:=by omega
  have hmo:all[m]? =some all[m]:=Array.getElem?_eq_getElem hmn
  have hcl:∀j o,all.toList[j]? =some o->listed.getD j false=true->∀k∈aY3 o,listed.getD k false=true:=by
   intro j o ho hj k hk
   have hjn:j<all.size:=by have:=(bG6.1 ho).1;simpa using this
   have h1:=bt1.1 ht j (dP5.2 (by simpa using hjn))
   rw[ho]at h1
   simp only[aK5,bt1]at h1
   have hkj:k<j:=bd6 (h1.1 k hk)
   rw[hl j hjn]at hj
   rw[hl k (by omega)]
   simp at hj|-;omega
  have only:∀j∈Region.ready .any all listed,j=m:=by
   intro j hj
   obtain⟨h1,o,ho,hd⟩:=mem_ready.1 hj
   have hjn:j<all.size:=(dq5.1 ho).1
   have h2:listed.getD j true=listed.getD j false:=by simp[hs,hjn]
   rw[h2,hl j hjn]at h1
   simp at h1
   have h3:=bt1.1 ht j (dP5.2 (by simpa using hjn))
   simp only[aK5,cH4,bt1]at h3
   rcases Nat.lt_or_ge m j with hlt|hge
   ·exfalso
    have hw:=(h3.2.resolve_left (fun hb=>by have:=bd6 hb;omega)) m (dP5.2 hlt)
    have:=cr1 hcl _ j m hw (fun o' ho' k hk=>by
     have:o'=o:=by rw[<-Array.getElem?_toList]at ho;rw[ho]at ho';exact(ca0 ho').symm
     subst this
     exact bI6 hd k hk)
    rw[hl m hmn]at this
    simp at this
   ·omega
  have hin:m∈Region.ready .any all listed:=by
   have h2:listed.getD m true=false:=by
    have h2:listed.getD m true=listed.getD m false:=by simp[hs,hmn]
    rw[h2,hl m hmn];simp
   refine mem_ready.2 ⟨h2,all[m],hmo,fun e he hb=>?_⟩
   have h3:=bt1.1 ht m (dP5.2 (by simpa using hmn))
   have hmo':all.toList[m]? =some all[m]:=by simp
   rw[hmo']at h3
   simp only[aK5,bt1]at h3
   have hk:e.on∈aY3 all[m]:=by
    simp only[aY3,cK0,dE3]
    exact⟨e,⟨by simpa using he,hb⟩,rfl⟩
   have hlt:e.on<m:=bd6 (h3.1 e.on hk)
   rw[hl e.on (by omega)]
   simpa using hlt
  refine⟨fun h0=>(by rw[h0]at hin;cases hin),fun i hi=>?_⟩
  have:=only i hi
  subst this
  have hdrop:all.toList.drop i=all[i]::all.toList.drop (i+1):=by
   rw[List.drop_eq_getElem_cons (by simpa using hmn)];simp
  rw[hdrop]at hw
  unfold wpList at hw
  unfold wpOp
  simp only[hmo]
  have next:∀a w,wpList P all Q (all.toList.drop (i+1)) a w->wpAny P .any all Q fuel (listed.setIfInBounds i true) a w:=fun a w hw=>
   ih (i+1) _ a w (by omega) (by omega) (by simp[hs]) (fun j hj=>by
    by_cases c:i=j
    ·subst c;simp[hs,hmn]
    ·rw[getD_set_ne false c,hl j hj];simp;omega) hw
  split at hw
  ·rename_i hg
   rw[if_pos hg]
   exact hw.imp (Oper.wp_mono next) id
  grind
theorem cp2 (n j:Nat):(fg0 n false).getD j false=false:=by
 simp only[eR0,Array.getElem?_replicate]
 grind
end
def eA2 {P:Program}{t:Nat}{ti:TI}{t0:Nat}{ti0:TI}{r:Tab}(h:look ((t0,ti0)::r) t=some ti)(h0:bh5 P t0 ti0)(k:look r t=some ti->bh5 P t ti):bh5 P t ti:=by
 simp only[look]at h
 by_cases ht:t0=t
 all_goals simp_all[D2]
mutual
def aS9 (id:Nat)(u:T):T->T
 | .own i=>bif br8 i id then u else .own i
 | .agg l=>.agg (aZ1 id u l)
 | .P4 l=>.P4 (aZ1 id u l)
 | .clo f l=>.clo f (aZ1 id u l)
 |x=>x
def aZ1 (id:Nat)(u:T):List T->List T
 |[]=>[]
 |x::r=>aS9 id u x::aZ1 id u r
end
def cq5 (id:Nat)(u:T):List (Nat×T)->List (Nat×T)
 |[]=>[]
 |(k,x)::r=>(k,aS9 id u x)::cq5 id u r
def bo9 (id:Nat)(u:T):List (Nat×G6)->List (Nat×G6)
 |[]=>[]
 |(k,.box l)::r=>bif br8 k id then bo9 id u r else(k,.box (aZ1 id u l))::bo9 id u r
 |(k,x)::r=>bif br8 k id then bo9 id u r else(k,x)::bo9 id u r
section
variable {w:World} {S S':Nat -> Prop} {E:Nat -> Value} {id:Nat} {u:T}
mutual
theorem cV7 (hS:∀b,S b->S' b)(hu:RV w S' E (E id) u):∀{t:T}{v:Value},RV w S E v t->RV w S' E v (aS9 id u t)
 | .t x,v,h=>by simp only[aS9];exact h.mono hS (fun _ _=>rfl) (fun _ _=>rfl)
 | .el c,v,h=>by simp only[aS9];exact h.mono hS (fun _ _=>rfl) (fun _ _=>rfl)
 | .ptr i o,v,h=>by simp only[aS9];exact h.mono hS (fun _ _=>rfl) (fun _ _=>rfl)
 | .pe i a b c,v,h=>by simp only[aS9];exact h.mono hS (fun _ _=>rfl) (fun _ _=>rfl)
 | .vw i a b c,v,h=>by simp only[aS9];exact h.mono hS (fun _ _=>rfl) (fun _ _=>rfl)
 | .own i,v,h=>by
  simp only[aS9]
  by_cases hi:i=id
  ·subst hi
   simp only[cG4,fk7]
   cases h with|own _ _ hE=>rw[<-hE];exact hu
  ·simp only[D2 hi,fk6];exact h.mono hS (fun _ _=>rfl) (fun _ _=>rfl)
 | .agg l,v,h=>by
  simp only[aS9]
  cases h with|agg vs _ hl hr=>have:=bF9 hS hu (l:=l) (vs:=vs) ⟨hl,hr⟩;exact .agg vs _ this.1 this.2
 | .P4 l,v,h=>by
  simp only[aS9]
  cases h with|P4 vs _ hl hr=>have:=bF9 hS hu (l:=l) (vs:=vs) ⟨hl,hr⟩;exact .P4 vs _ this.1 this.2
 | .clo f l,v,h=>by
  simp only[aS9]
  cases h with|clo _ vs _ hl hr=>have:=bF9 hS hu (l:=l) (vs:=vs) ⟨hl,hr⟩;exact .clo f vs _ this.1 this.2
 | .fz n c,v,h=>by simp only[aS9];exact h.mono hS (fun _ _=>rfl) (fun _ _=>rfl)
 | .any,v,h=>by simp only[aS9];exact .any v
theorem bF9 (hS:∀b,S b->S' b)(hu:RV w S' E (E id) u):∀{l:List T}{vs:List Value},RVL w S E vs l->RVL w S' E vs (aZ1 id u l)
 |[],vs,h=>⟨h.1,fun j _ h2=>by simp[aZ1]at h2⟩
 |x::l,vs,h=>by
  cases vs with
  |nil=>have:=h.1;simp at this
  |cons v vs=>
   have h1:=cV7 hS hu (t:=x) (h.2 0 (by simp) (by simp))
   have h2:=bF9 hS hu (l:=l) (vs:=vs) ⟨by simpa using h.1,fun j a b=>h.2 (j+1) (by simpa using a) (by simpa using b)⟩
   refine⟨by simp[aZ1,h2.1],fun j a b=>?_⟩
   cases j with
   |zero=>exact h1
   |succ j=>exact h2.2 j (by simpa using a) (by simpa[aZ1]using b)
end
end
theorem ch1 (id:Nat)(u:T):∀(l:List (Nat×T)) (k:Nat),look (cq5 id u l) k=(look l k).map (aS9 id u)
 |[],k=>rfl
 |(j,x)::r,k=>by
  simp only[cq5,look]
  by_cases hj:j=k
  ·subst hj;simp
  ·simp[D2 hj,ch1 id u r k]
theorem ar6 (id:Nat)(u:T):∀(l:List (Nat×G6)) (k:Nat) (b:G6),look (bo9 id u l) k=some b->k≠id/\∃b0,look l k=some b0/\(match b0 with| .box ts=>b= .box (aZ1 id u ts)|x=>b=x)
 |[],k,b,h=>by simp[bo9,look]at h
 |(j,.box ts)::r,k,b,h=>by
  simp only[bo9]at h
  by_cases hj:j=id
  ·subst hj
   simp only[cG4,fk7]at h
   obtain⟨h1,b0,h2,h3⟩:=ar6 j u r k b h
   simp_all[look,D2,Ne.symm]
  ·simp only[D2 hj,fk6,look]at h
   by_cases hk:j=k
   ·simp_all[look]
   ·simp only[D2 hk,fk6]at h
    obtain⟨h1,b0,h2,h3⟩:=ar6 id u r k b h
    simp_all[look,D2]
 |(j,.rows e sz n rs)::r,k,b,h=>by
  simp only[bo9]at h
  by_cases hj:j=id
  ·subst hj
   simp only[cG4,fk7]at h
   obtain⟨h1,b0,h2,h3⟩:=ar6 j u r k b h
   simp_all[look,D2,Ne.symm]
  ·simp only[D2 hj,fk6,look]at h
   by_cases hk:j=k
   ·subst hk
    simp only[cG4,fk7,aI6]at h
    exact⟨hj,.rows e sz n rs,by simp[look],h.symm⟩
   ·simp only[D2 hk,fk6]at h
    obtain⟨h1,b0,h2,h3⟩:=ar6 id u r k b h
    simp_all[look,D2]
 |(j,.mp es)::r,k,b,h=>by
  simp only[bo9]at h
  by_cases hj:j=id
  ·subst hj
   simp only[cG4,fk7]at h
   obtain⟨h1,b0,h2,h3⟩:=ar6 j u r k b h
   simp_all[look,D2,Ne.symm]
  ·simp only[D2 hj,fk6,look]at h
   by_cases hk:j=k
   ·subst hk
    simp only[cG4,fk7,aI6]at h
    exact⟨hj,.mp es,by simp[look],h.symm⟩
   ·simp only[D2 hk,fk6]at h
    obtain⟨h1,b0,h2,h3⟩:=ar6 id u r k b h
    simp_all[look,D2]
 |(j,.rv y e sz n rs)::r,k,b,h=>by
  simp only[bo9]at h
  by_cases hj:j=id
  ·subst hj
   simp only[cG4,fk7]at h
   obtain⟨h1,b0,h2,h3⟩:=ar6 j u r k b h
   simp_all[look,D2,Ne.symm]
  ·simp only[D2 hj,fk6,look]at h
   by_cases hk:j=k
   ·subst hk
    simp only[cG4,fk7,aI6]at h
    exact⟨hj,.rv y e sz n rs,by simp[look],h.symm⟩
   ·simp only[D2 hk,fk6]at h
    obtain⟨h1,b0,h2,h3⟩:=ar6 id u r k b h
    simp_all[look,D2]
section
variable {ρ τ α:Type} {X:Cx} {ks:List K} {tm:List (Nat × T)} {hp:List (Nat × G6)} {m:Option ρ} {Q:ρ -> Exit -> St -> Prop} {all:Array Oper} {o:Oper} {rest:List Oper}
theorem Sim.frz {w0:World}{L:Lim}{nt:Nat}{a:Act}{w:World}(id:Nat){e sz n:Nat}{rs:List (List Tree)}(hb:look hp id=some (.rows e sz n rs))(h:Sim w0 L nt ⟨tm,hp⟩ a w):
  Sim w0 L nt ⟨cq5 id (.t (.sl n rs)) tm,bo9 id (.t (.sl n rs)) hp⟩ a w:=by
 obtain⟨S,E,hk⟩:=h
 let S':Nat->Prop:=fun b=>S b\/S0 (E id)=some b
 have hS:∀b,S b->S' b:=fun b hb=>.inl hb
 have hu:RV w S' E (E id) (.t (.sl n rs)):=by
  have hk1:Ok w0 L nt ⟨tm,[(id,.rows e sz n rs)]⟩ S E a w:=
   {hk with
    hp:=fun i b hb'=>by
     simp only[look]at hb'
     by_cases hi:id=i
     ·subst hi;simp only[cG4,fk7,aI6]at hb';subst hb';exact hk.hp id _ hb
     grind [D2]
    own:=fun i b β hb' hβ=>by
     simp only[look]at hb'
     by_cases hi:id=i
     ·subst hi;simp only[cG4,fk7,aI6]at hb';subst hb';exact hk.own id _ β hb hβ
     grind [D2]
    au2:=fun i i' b b' β h1 h2 _ _=>by
     grind [look,D2]}
  refine .t (bW7 hk1 (id:=id) (e:=e) (sz:=sz) (by simp[look]) S' hS fun b hb'=>?_)
  obtain⟨i,_,hl,hβ⟩:=hb'
  grind [look,D2]
 refine⟨S',E,{keep:=hk.keep,size:=hk.size,defers:=hk.defers,aH9:=fun b hb'=>?_,base:=fun b hb'=>?_,tm:=fun k t ht=>?_,hp:=fun i b hi=>?_,own:=fun i b β hi hβ=>?_,au2:=fun i i' b b' β h1 h2 hβ hβ'=>?_,pin:=hk.pin}⟩
 ·rcases hb' with h1|h1
  ·exact hk.aH9 b h1
  ·exact(hk.own id _ b hb h1).2.1
 ·rcases hb' with h1|h1
  ·exact hk.base b h1
  ·rcases(hk.own id _ b hb h1).2.2 with h2|h2
   all_goals grind
 ·rw[ch1]at ht
  cases hl:look tm k with
  |none=>grind
  |some t0=>simp only[hl,bN9,aI6]at ht;subst ht;exact cV7 hS hu (hk.tm k t0 hl)
 ·obtain⟨hne,b0,hb0,hm⟩:=ar6 _ _ _ _ _ hi
  have hk0:=hk.hp i b0 hb0
  cases b0 with
  |box ts=>
   simp only at hm
   subst hm
   obtain⟨β,vs,elem,h1,h2,h3,h4,h5⟩:=hk0
   have:=bF9 hS hu (l:=ts) (vs:=vs) ⟨h3,h4⟩
   exact⟨β,vs,elem,h1,h2,this.1,this.2,h5⟩
  |rows e' sz' n' rs'=>
   simp only at hm
   subst hm
   exact hk0.mono hS (fun _ _=>rfl) (fun _ _=>rfl) (fun _ _=>rfl)
  |mp es=>
   simp only at hm
   subst hm
   exact hk0.mono hS (fun _ _=>rfl) (fun _ _=>rfl) (fun _ _=>rfl)
  |rv y e sz n rs=>
   simp only at hm
   subst hm
   exact hk0.mono hS (fun _ _=>rfl) (fun _ _=>rfl) (fun _ _=>rfl)
 ·obtain⟨hne,b0,hb0,_⟩:=ar6 _ _ _ _ _ hi
  have:=hk.own i b0 β hb0 hβ
  exact⟨fun hx=>hx.elim this.1 (fun hx=>hne (hk.au2 i id b0 _ β hb0 hb hβ hx)),this.2⟩
 ·obtain⟨_,c,hc,_⟩:=ar6 _ _ _ _ _ h1
  obtain⟨_,c',hc',_⟩:=ar6 _ _ _ _ _ h2
  exact hk.au2 i i' c c' β hc hc' hβ hβ'
theorem B9.frz {ops:List Oper}(id:Nat){e sz n:Nat}{rs:List (List Tree)}(hb:look hp id=some (.rows e sz n rs))(h:B9 X all ops ks ⟨cq5 id (.t (.sl n rs)) tm,bo9 id (.t (.sl n rs)) hp⟩ m Q):B9 X all ops ks ⟨tm,hp⟩ m Q:=
 fun r hr a w hw=>h r hr a w (hw.frz id hb)
theorem ab8.frz {e':Exit}(id:Nat){e sz n:Nat}{rs:List (List Tree)}(hb:look hp id=some (.rows e sz n rs))(h:ab8 X ks e' ⟨cq5 id (.t (.sl n rs)) tm,bo9 id (.t (.sl n rs)) hp⟩ m Q):ab8 X ks e' ⟨tm,hp⟩ m Q:=
 fun r hr a w hw=>h r hr a w (hw.frz id hb)
end
end Go.Pv
namespace Go.Pv
open Go.RowKit Go.WideShapes Go.ChangeShapes
def RTL (w:World)(S:Nat->Prop)(cs:List Value)(ts:List Tree):Prop:=cs.length=ts.length/\∀j (h1:j<cs.length) (h2:j<ts.length),RT w S (cs[j]) (ts[j])
def old (w:World):Nat->Prop:=fun b=>b<w.heap.size
def Reads (P:Program)(t:Nat){α:Type}(enc:α->List Tree)(wf:α->Prop):Prop:=
 ∀(H:Type) (e:TypeId×Value->H) (w:World) (fuel:Nat) (cs:List Value) (x:DataW H×List MemPlace),DataW.trod e P w 0 (fun _=>true) true fuel t cs=some x->
  ∃y:α,wf y/\RTL w (old w) cs (enc y)
section
variable {P:Program} {t:Nat}
theorem RTL.one {w:World}{S:Nat->Prop}{v:Value}{y:Tree}(h:RT w S v y):RTL w S [v] [y]:=
 ⟨rfl,fun j h1 h2=>by grind⟩
def cx9 {k:IntKind}{enc:Int->List Tree}(ht:P.underlying t=some (.int k))(ay6:∀n,enc n=[.v (.int k n)]):Reads P t enc (fun n=>(Lit.int k n).wf=true):=by
 intro H e w fuel cs x h
 obtain⟨n,rfl,_,hw⟩:=DataW.trod_int ht h
 exact⟨n,hw,by rw[ay6];exact .one (.v _)⟩
def dL6 {enc:Bool->List Tree}(ht:P.underlying t=some .bool)(ay6:∀n,enc n=[.v (.bool n)]):Reads P t enc (fun _=>True):=by
 intro H e w fuel cs x h
 obtain⟨n,rfl,_⟩:=DataW.trod_bool ht h
 exact⟨n,trivial,by rw[ay6];exact .one (.v _)⟩
def wfL {α:Type}(wf:α->Prop)(l:List α):Prop:=l.length<=9223372036854775807/\∀y∈l,wf y
def bo6 {el:Nat}{α:Type}{enc:α->List Tree}{wf:α->Prop}{sz:Nat}(ht:P.underlying t=some (.slice el))(hr:Reads P el enc wf)(hsz:P.cellsOf el=sz)(bS2:0<sz)(ay6:∀y,(enc y).length=sz):
  Reads P t (encS enc) (wfL wf):=by
 intro H e w fuel cs x h
 rcases DataW.trod_slice ht h with⟨rfl,_⟩|⟨a,len,cap,elems,rest,n,_,rfl,_,_,hl,hm,hlen,hel,_,_⟩
 ·exact⟨[],⟨by simp,by simp⟩,.one (.slE _ _)⟩
 ·rw[hsz]at hel
  have each:∀i,i<len->∃(y:α) (cs:List Value),wf y/\RTL w (old w) cs (enc y)/\∀j,j<sz->w.cell? ((a.add (i*sz)).add j)=cs[j]?:=by
   intro i hi
   have h1:=hel i hi
   rw[aX4 (by omega),Option.bind_eq_some_iff]at h1
   obtain⟨cs',hcs,hy⟩:=h1
   obtain⟨y,hw,hrt⟩:=hr H e w n cs' _ hy
   exact⟨y,cs',hw,hrt,(World.cells?_some hcs).2.2⟩
  by_cases h0:len=0
  ·subst h0
   exact⟨[],⟨by simp,by simp⟩,.one (.slE _ _)⟩
  ·let f:Nat->α:=fun i=>if h:i<len then(each i h).choose else(each 0 (by omega)).choose
   let l:=(di4 len).map f
   have hf:∀i,i<len->wf (f i)/\∃cs:List Value,RTL w (old w) cs (enc (f i))/\∀j,j<sz->w.cell? ((a.add (i*sz)).add j)=cs[j]?:=by
    intro i hi
    have hfi:f i=(each i hi).choose:=by simp[f,hi]
    rw[hfi]
    obtain⟨cs,h1,h2,h3⟩:=(each i hi).choose_spec
    exact⟨h1,cs,h2,h3⟩
   have hll:l.length=len:=by simp[l]
   have hspot:a.spot=none:=by
    obtain⟨_,cs,h2,h3⟩:=hf 0 (by omega)
    have h4:=h3 0 bS2
    have hcl:0<cs.length:=by rw[h2.1,ay6];exact bS2
    rw[aX4 hcl]at h4
    have ea:(a.add (0*sz)).add 0=a:=by simp[Addr.add]
    rw[ea]at h4
    unfold World.cell? at h4
    split at h4
    ·split at h4
     ·cases h4
     ·rename_i hs;simpa using hs
    ·cases h4
   obtain⟨b,o,sp⟩:=a
   simp only at hspot
   subst hspot
   have cm8:∀i j,i<len->j<sz->∃v,w.cell? ⟨b,o+i*sz+j,none⟩=some v/\∀(hj:j<(enc (f i)).length),RT w (old w) v ((enc (f i))[j]):=by
    intro i j hi hj
    obtain⟨_,cs,h2,h3⟩:=hf i hi
    have hcl:j<cs.length:=by rw[h2.1,ay6];exact hj
    have h4:=h3 j hj
    rw[addr_add,addr_add,aX4 hcl]at h4
    exact⟨_,h4,fun hj'=>h2.2 j hcl hj'⟩
   let vs:Nat->Nat->Value:=fun i j=>(w.cell? ⟨b,o+i*sz+j,none⟩).getD undef
   refine⟨l,⟨by rw[hll];unfold maxLen at hm;omega,fun y hy=>?_⟩,.one ?_⟩
   ·obtain⟨i,hi,rfl⟩:=cK0.1 hy
    exact(hf i (dP5.1 hi)).1
   ·have hb:old w b:=by
     obtain⟨v,hv,_⟩:=cm8 0 0 (by omega) bS2
     have:=World.block_lt_of_cell? w _ hv
     simpa[old]using this
    have hml:(l.map enc).length=len:=by simp[hll]
    have key:=RT.sl (w:=w) (S:=old w) b o cap sz (l.map enc) vs (by rw[hml];exact hl) hb (fun r hr=>by obtain⟨y,_,rfl⟩:=cK0.1 hr;exact ay6 y)
     (fun i j hi hj=>by
      rw[hml]at hi
      obtain⟨v,hv,_⟩:=cm8 i j hi hj
      simp[vs,hv])
     (fun i j hi hj=>by
      rw[hml]at hi
      have e1:(l.map enc)[i]'(by rw[hml];exact hi)=enc (f i):=by simp[l]
      have hj':j<sz:=by rw[e1,ay6]at hj;exact hj
      obtain⟨v,hv,hrt⟩:=cm8 i j hi hj'
      have e2:vs i j=v:=by simp[vs,hv]
      rw[e2]
      have:=hrt (by rw[ay6];exact hj')
      simpa only[e1]using this)
    rw[hml]at key
    have e3:tS enc l= .sl len (l.map enc):=by simp[tS,hll]
    rw[e3]
    exact key
def bl9 {w:World}{S:Nat->Prop}{cs:List Value}{o:Nat}(h:cs.length=o):RTL w S (cs.drop o) []:=by
 rw[List.drop_eq_nil_of_le (by omega)]
 exact⟨rfl,fun j h1=>by simp⟩
def J4 {w:World}{S:Nat->Prop}{cs:List Value}{o o' n:Nat}{ts rest:List Tree}(h:RTL w S ((cs.drop o).take n) ts)(ho:o'=o+n)(k:RTL w S (cs.drop o') rest):RTL w S (cs.drop o) (ts++rest):=by
 subst ho
 have e:cs.drop o=(cs.drop o).take n++cs.drop (o+n):=by rw[<-eh0,List.take_append_drop]
 rw[e]
 refine⟨by simp only[bd4,h.1,k.1],fun j h1 h2=>?_⟩
 by_cases hj:j<ts.length
 ·rw[dM2 (by rw[h.1];exact hj),dM2 hj]
  exact h.2 j (by rw[h.1];exact hj) hj
 ·have hj':¬j<((cs.drop o).take n).length:=by rw[h.1];exact hj
  rw[ez8 (by omega),ez8 (by omega)]
  simp only[h.1]
  exact k.2 (j-ts.length) (by simp only[bd4]at h1;have:=h.1;omega) (by simp only[bd4]at h2;omega)
def J3 {H:Type}{e:TypeId×Value->H}{w:World}{n:Nat}{cs:List Value}{xs:List (DataW H×List MemPlace)}{fs:Array Field}(hlen:xs.length=fs.size)
  (hf:∀(i:Nat) (f:Field),fs[i]? =some f->DataW.trod e P w 0 (fun _=>true) true n f.type ((cs.drop f.offset).take (P.cellsOf f.type))=xs[i]?) (i:Nat) {f:Field} (hi:fs[i]? =some f)
  {α:Type}{enc:α->List Tree}{wf:α->Prop} (hr:Reads P f.type enc wf):∃y:α,wf y/\RTL w (old w) ((cs.drop f.offset).take (P.cellsOf f.type)) (enc y):=by
 have hlt:i<xs.length:=by grind
 have:=hf i f hi
 rw[aX4 hlt]at this
 exact hr H e w n _ _ this
def bC5 (P:Program)(t:Nat){α:Type}(A:α->T)(wf:α->Prop):Prop:=
 ∀(H:Type) (e:TypeId×Value->H) (w:World) (base:Nat) (v:Value) (d:DataW H) (p:List MemPlace),Value.okWide P w .any base t v->DataW.Trod e P w 0 (fun _=>true) true t v d p->
  ∃y:α,wf y/\∀E,RV w (old w) E v (A y)
def dj1 {α:Type}{enc:α->List Tree}{wf:α->Prop}{A:α->T}{tr:α->Tree}(hr:Reads P t enc wf)(hc:∀w base v,Value.okWide P w .any base t v->v.cells.toList=[v])(ay6:∀y,enc y=[tr y])(hA:∀y,A y= .t (tr y)):bC5 P t A wf:=by
 intro H e w base v d p hv ⟨fuel,h⟩
 rw[hc w base v hv]at h
 obtain⟨y,hw,hl,hrt⟩:=hr H e w fuel _ _ h
 refine⟨y,hw,fun E=>?_⟩
 rw[hA]
 have:=hrt 0 (by simp) (by grind)
 simp only[ay6,et7]at this
 exact .t this
def dO6 {k:IntKind}{enc:Int->List Tree}{A:Int->T}(ht:P.underlying t=some (.int k))(hr:Reads P t enc (fun n=>(Lit.int k n).wf=true))(ay6:∀y,enc y=[.v (.int k y)])(hA:∀y,A y= .t (.v (.int k y))):
  bC5 P t A (fun n=>(Lit.int k n).wf=true):=dj1 hr (fun w base v hv=>by obtain⟨n,rfl⟩:=okWide_int ht hv;rfl) ay6 hA
def ej9 {enc:Bool->List Tree}{A:Bool->T}(ht:P.underlying t=some .bool)(hr:Reads P t enc (fun _=>True))(ay6:∀y,enc y=[.v (.bool y)])(hA:∀y,A y= .t (.v (.bool y))):
  bC5 P t A (fun _=>True):=dj1 hr (fun w base v hv=>by obtain⟨n,rfl⟩:=okWide_bool ht hv;rfl) ay6 hA
def dW9 {el:Nat}{α:Type}{enc:α->List Tree}{wf:α->Prop}{A:List α->T}(ht:P.underlying t=some (.slice el))(hr:Reads P t (encS enc) (wfL wf))(hA:∀y,A y= .t (tS enc y)):
  bC5 P t A (wfL wf):=dj1 hr (fun w base v hv=>by obtain⟨a,n,c,rfl⟩:=okWide_slice ht hv;rfl) (fun _=>rfl) hA
def bH4 {fs:Array Field}{α:Type}{enc:α->List Tree}{wf:α->Prop}{A:α->T}(ht:P.underlying t=some (.struct fs))(hr:Reads P t enc wf)(hA:∀y,A y= .agg ((enc y).map .t)):bC5 P t A wf:=by
 intro H e w base v d p hv ⟨fuel,h⟩
 obtain⟨cs,rfl,_⟩:=okWide_struct ht hv
 obtain⟨y,hw,hl,hrt⟩:=hr H e w fuel _ _ h
 refine⟨y,hw,fun E=>?_⟩
 rw[hA]
 have:=RV.agg (w:=w) (S:=old w) (E:=E) cs.toList ((enc y).map .t) (by grind [Value.cells]) (fun j h1 h2=>by
  simp only[dc0]
  exact .t (hrt j h1 (by grind)))
 omega
def aM2.calls {d:Bool}{n:Nat}{args:List T}{m:Option Bool}(h:aM2 P n args m (fun r=>.t (.v (.bool r))) d)(hm:m=some true){w:World}{vs:List Value}(hv:RVL w (old w) (fun _=>undef) vs args)(hgl:GlL P w (fun _=>False)):
  Calls P n vs.toArray w fun e w'=>e= .returned (.bool true)/\Below w.heap.size w w':=
 (h.2 true hm w (old w) _ vs hgl (fun _ hb=>hb) hv).mono fun e w' ⟨v,S',he,hv,hk,_,_⟩=>by
  have:=hv.tv
  subst this
  exact⟨he,hk.os,hk.tape,hk.output,hk.size,fun k hk'=>hk.block k hk' (fun x=>x)⟩
def eK8 {w:World}{S:Nat->Prop}{E:Nat->Value}:RVL w S E [] []:=⟨rfl,fun j h=>by simp at h⟩
def bx5 {w:World}{S:Nat->Prop}{E:Nat->Value}{v:Value}{t:T}{vs:List Value}{l:List T}(h:RV w S E v t)(k:RVL w S E vs l):RVL w S E (v::vs) (t::l):=by
 refine⟨by simp[k.1],fun j a b=>?_⟩
 cases j with
 |zero=>exact h
 |succ j=>exact k.2 j (by grind) (by grind)
end
open Go.RowKit
def tvs (vs:List Value):List T:=vs.map fun v=>.t (.v v)
def eh7 (P:Program)(ty:Nat)(vs us:List Value)(b:Bool):Prop:=
 (∀w,(Op.equalIn 10000 ty (.agg vs.toArray) (.agg us.toArray)).run P w= .ok b w)/\P.eqGuardType P.depth ty=false
def dO5 {w:World}{S:Nat->Prop}{E:Nat->Value}{v:Value}{vs:List Value}(h:RV w S E v (.agg (tvs vs))):v= .agg vs.toArray:=by
 cases h with
 |agg cs _ hl hr=>
  congr 2
  refine List.ext_getElem (by grind [tvs]) fun j h1 h2=>?_
  have:=hr j h1 (by omega)
  simp only[tvs,dc0]at this
  exact this.tv
section
variable {ρ τ α:Type} {X:Cx} {ks:List K} {tm:List (Nat × T)} {hp:List (Nat × G6)} {m:Option ρ} {Q:ρ -> Exit -> St -> Prop} {all:Array Oper} {o:Oper} {rest:List Oper} {V:T}
def eT5 {ty yt:Nat}{x y:Operand}{vs us:List Value}{b:Bool}{a:Act}{w:World}(he:eh7 X.P ty vs us b)(hx:a.eval x= .agg vs.toArray)(hy:a.eval y= .agg us.toArray):
  (o.op= .binOp .eql ty x y yt->(execOp a.eval o).run X.P w= .ok (.value (.bool b)) w)/\(o.op= .binOp .neq ty x y yt->(execOp a.eval o).run X.P w= .ok (.value (.bool (!b))) w):=by
 constructor<;>intro ho
 ·simp only[execOp,ho,hx,hy,bq9,run_eqGuard_agg w .eql ty x y _ _ he.2,bd5,run_eql_struct,he.1 w];rfl
 ·simp only[execOp,ho,hx,hy,bq9,run_eqGuard_agg w .neq ty x y _ _ he.2,bd5,run_neq_struct,he.1 w];rfl
end
section
variable {P:Program} {w:World}
def dQ5 {d:Nat}{xs ys:Array Value}:(Op.eqFields d xs ys []).run P w= .ok true w:=rfl
def aO3 {d:Nat}{f:Field}{fs:List Field}{xs ys:Array Value}{a b:Value}{c r:Bool}(hn:f.name≠ "_")(h1:(part f.type xs f.offset).run P w= .ok a w)(h2:(part f.type ys f.offset).run P w= .ok b w)
  (h3:(Op.equalIn d f.type a b).run P w= .ok c w) (h4:(Op.eqFields d xs ys fs).run P w= .ok r w):(Op.eqFields d xs ys (f::fs)).run P w= .ok (c&&r) w:=by
 cases c<;>simp[Op.eqFields,hn,h1,h2,h3,h4]
def af2 {t:Nat}{ti:TI}{cs:Array Value}{off:Nat}{v:Value}(hti:bh5 P t ti)(hag:ti.desc.isAgg=false)(h:cs[off]? =some v):(part t cs off).run P w= .ok v w:=by
 simp[part,hti.dp2,hag,h]
def dd5 {d t:Nat}{xs ys:Array Value}{fs:List Field}{b:Bool}(hf:P.underlying t=some (.struct (P.fieldsOf t)))(hs:P.stoodInHeld t=false)(hl:(P.fieldsOf t).toList=fs)(h:(Op.eqFields d xs ys fs).run P w= .ok b w):
  (Op.equalIn (d+1) t (.agg xs) (.agg ys)).run P w= .ok b w:=by
 grind [run_equalIn_struct]
end
theorem j4 {n:Int}(h1:-9223372036854775808<=n)(h2:n<=9223372036854775807):j5 n=n:=by
 unfold j5 IntKind.wrap
 simp only[eR9,IntKind.signed]
 grind
def aX2 {S R:Type}(f:Int->S->Option (Fl S R)):Nat->Int->S->Option (S⊕R)
 |0,_,s=>some (.inl s)
 |k+1,i,s=>(f i s).bind fun x=>match x with
  | .next s'=>aX2 f k (i+1) s'
  | .brk s'=>some (.inl s')
  | .ret r=>some (.inr r)
def N4 {α S R:Type}(f:Int->α->S->Option (Fl S R)):List α->Int->S->Option (S⊕R)
 |[],_,s=>some (.inl s)
 |y::l,i,s=>(f i y s).bind fun x=>match x with
  | .next s'=>N4 f l (i+1) s'
  | .brk s'=>some (.inl s')
  | .ret r=>some (.inr r)
theorem H3 {S B:Type}{mb:S->Option (S⊕B)}{s s':S}(h:mb s=some (.inl s')):L8 mb s=L8 mb s':=by rw[cn6,h];rfl
theorem E6 {S B:Type}{mb:S->Option (S⊕B)}{s:S}{b:B}(h:mb s=some (.inr b)):L8 mb s=some b:=by rw[cn6,h];rfl
theorem am4 {S R:Type}(n:Nat)(hn:n<=9223372036854775807)(f:Int->S->Option (Fl S R))(s:S):L2 (n:Int) f s=aX2 f n 0 s:=by
 have key:∀(k:Nat) (i:Nat) (s:S),i+k=n->L8 (cI8 (n:Int) f) ((i:Int),s)=aX2 f k i s:=by
  intro k
  induction k with
  |zero=>
   intro i s hi
   have:¬((i:Int)<(n:Int)):=by omega
   exact E6 (by grind)
  |succ k ih=>
   intro i s hi
   have hlt:(i:Int)<(n:Int):=by omega
   rw[cn6]
   simp only[cI8,hlt,decide_true,fk7,aX2]
   cases hf:f i s with
   |none=>rfl
   |some x=>
    simp only[aF2]
    cases x with
    |next s'=>
     simp only[aJ9,aF2]
     have:=ih (i+1) s' (by omega)
     grind [j4]
    |brk s'=>rfl
    |ret r=>rfl
 have:=key n 0 s (by omega)
 omega
theorem U4 {α:Type}(l:List α)(i:Nat):E0 l (i:Int)=l[i]?:=by rfl
theorem L0 {α S R:Type}(l:List α)(hn:l.length<=9223372036854775807)(f:Int->α->S->Option (Fl S R))(s:S):ae5 l f s=N4 f l 0 s:=by
 have key:∀(r:List α) (i:Nat) (s:S),l.drop i=r->i<=l.length->L8 (do8 l f) ((i:Int),s)=N4 f r i s:=by
  intro r
  induction r with
  |nil=>
   intro i s hd hi
   have:¬((i:Int)<(l.length:Int)):=by simp_all
   exact E6 (by grind)
  |cons y r ih=>
   intro i s hd hi
   have hi':i<l.length:=by
    grind
   have hlt:(i:Int)<(l.length:Int):=by omega
   have hy:l[i]? =some y:=by rw[<-eB5,hd];rfl
   have hd':l.drop (i+1)=r:=by rw[<-eh0,hd];rfl
   rw[cn6]
   simp only[do8,hlt,decide_true,fk7,N4,U4,hy,aF2]
   cases hf:f i y s with
   |none=>rfl
   |some x=>
    simp only[aF2]
    cases x with
    |next s'=>
     simp only[aJ9,aF2]
     have:=ih (i+1) s' hd' (by omega)
     grind [j4]
    |brk s'=>rfl
    |ret r=>rfl
 have:=key l 0 s rfl (Nat.zero_le _)
 omega
theorem bK9 {α R:Type}{f:Int->α->Unit->Option (Fl Unit R)}{p:α->Bool}{r:R}:∀(l:List α) (i:Int),(∀i,∀y∈l,f i y ()=some (bif p y then .next ()else .ret r))->
  N4 f l i ()=some (bif l.all p then .inl ()else .inr r)
 |[],_,_=>rfl
 |y::l,i,h=>by
  simp only[N4,h i y (cq1 ..),aF2,List.all_cons]
  cases hp:p y
  ·rfl
  ·exact bK9 l (i+1) (fun i y' hy=>h i y' (bE0 _ hy))
theorem bo8 {α S R:Type}{f:Int->α->S->Option (Fl S R)}{g:S->α->S}:∀(l:List α) (i:Int) (s:S),(∀i s,∀y∈l,f i y s=some (.next (g s y)))->N4 f l i s=some (.inl (l.foldl g s))
 |[],_,_,_=>rfl
 |y::l,i,s,h=>by
  simp only[N4,h i s y (cq1 ..),aF2,List.foldl_cons]
  exact bo8 l (i+1) _ (fun i s y' hy=>h i s y' (bE0 _ hy))
def bx6 {R:Type}{f:Int->Unit->Option (Fl Unit R)}{p:Nat->Bool}{r:R}:∀(k i:Nat),(∀j,i<=j->j<i+k->f j ()=some (bif p j then .next ()else .ret r))->
  aX2 f k i ()=some (bif (dI4 i k).all p then .inl ()else .inr r)
 |0,_,_=>rfl
 |k+1,i,h=>by
  simp only[aX2,h i (bO2 _) (by omega),aF2,List.range'_succ,List.all_cons]
  cases hp:p i
  ·rfl
  ·have:=bx6 k (i+1) (fun j h1 h2=>h j (by omega) (by omega))
   grind
def eb5 {S B:Type}{mb:S->Option (S⊕B)}(σ:Nat->S){p:Nat->Bool}{b0 b1:B}(n:Nat)(hend:mb (σ n)=some (.inr b0))(h:∀k,k<n->mb (σ k)=some (bif p k then .inl (σ (k+1))else .inr b1)):
  L8 mb (σ 0)=some (bif (dI4 0 n).all p then b0 else b1):=by
 have key:∀k i,i+k=n->L8 mb (σ i)=some (bif (dI4 i k).all p then b0 else b1):=by
  intro k
  induction k with
  |zero=>grind [E6]
  |succ k ih=>
   grind [E6,H3]
 grind
theorem cL3 {α:Type}(b:Bool)(x y:α):(bif b then some x else some y)=some (bif b then x else y):=by grind
theorem bc8 {α S R:Type}(l:List α)(hn:l.length<=9223372036854775807)(g:Int->α->S->Option (Fl S R))(s:S):
  L2 (l.length:Int) (fun i s=>(E0 l i).bind fun x=>g i x s) s=N4 g l 0 s:=by
 rw[am4 _ hn]
 have key:∀(r:List α) (i:Nat) (s:S),l.drop i=r->aX2 (fun i s=>(E0 l i).bind fun x=>g i x s) r.length (i:Int) s=N4 g r (i:Int) s:=by
  intro r
  induction r with
  |nil=>intro i s _;rfl
  |cons y r ih=>
   intro i s hd
   have hy:l[i]? =some y:=by rw[<-eB5,hd];rfl
   have hd':l.drop (i+1)=r:=by rw[<-eh0,hd];rfl
   simp only[bu9,aX2,N4,U4,hy,aF2]
   cases hg:g i y s with
   |none=>rfl
   |some x=>
    cases x with
    |next s'=>
     have:=ih (i+1) s' hd'
     grind
    |brk s'=>rfl
    |ret r'=>rfl
 have:=key l 0 s rfl
 omega
def cq3 {α:Type}{f:Int->α->Unit->Option (Fl Unit Int)}{p:α->Bool}:∀(l:List α) (i:Int),0<=i->(∀i,∀y∈l,f i y ()=some (bif p y then .ret i else .next ()))->
  ∃r,N4 f l i ()=some r/\(match r with| .inl _=>l.any p=false| .inr j=>0<=j/\l.any p=true)
 |[],_,_,_=>⟨.inl (),rfl,rfl⟩
 |y::l,i,hi,h=>by
  simp only[N4,h i y (cq1 ..),aF2,List.any_cons]
  cases hp:p y
  ·obtain⟨r,h1,h2⟩:=cq3 l (i+1) (by omega) (fun i y' hy=>h i y' (bE0 _ hy))
   grind
  grind
theorem ai7 {α:Type}(l:List α)(hn:l.length<=9223372036854775807)(f:α->Option Bool)(p:α->Bool)(h:∀y∈l,f y=some (p y)):
  (ak4 (ak4 (L2 (l.length:Int) (fun(i:Int) (_:Unit)=>ak4 (E0 l i) fun x=>ak4 (f x) fun v=>bif v then(some (Fl.ret i))else(some (Fl.next ()))) ()) fun(t:Unit⊕Int)=>match t with| .inl _=>(some (-1))| .inr r2=>some r2) fun v=>some (decide (v>=0)))=some (l.any p):=by
 rw[bc8 l hn (fun(i:Int) x (_:Unit)=>ak4 (f x) fun v=>bif v then(some (Fl.ret i))else(some (Fl.next ())))]
 obtain⟨r,h1,h2⟩:=cq3 (f:=fun(i:Int) x (_:Unit)=>ak4 (f x) fun v=>bif v then(some (Fl.ret i))else(some (Fl.next ()))) (p:=p) l 0 (dj2 0) (fun i y hy=>by
  grind)
 grind
def ei0 (w:World)(v:Value)(e sz n:Nat)(xs:List Value):Prop:=
 (v= .slice none 0 0/\n=0/\xs=[])\/
 ∃(g cap:Nat) (cur:List Value),v= .slice (some ⟨g,0,none⟩) n cap/\w.heap[g]? =some (.cells cur.toArray e (0,0))/\n<=cap/\cap<=maxLen/\cur.length=cap*sz/\cur.take (n*sz)=xs
def cG9 {P:Program}{w:World}{t ty e:Nat}{ti:TI}{v x:Value}{n c:Nat}{xs:List Value}{a:Option Addr}(ht:P.underlying t=some (.slice e))(hte:bh5 P e ti)(hv:ei0 w v e ti.size n xs)(hx:x= .slice a 0 c):
  (Builtin.append_ #[t,t] ty #[v,x]).run P w= .ok v w:=by
 obtain⟨i,d,hi,hs,_⟩:=hte
 subst hx
 have hf:(Builtin.firstCells i.size 0 (.slice a 0 c)).run P w= .ok #[] w:=by
  cases a<;>simp[Builtin.firstCells,loadCells,loadCellsFrom]
 rcases hv with⟨rfl,rfl,rfl⟩|⟨g,cap,cur,rfl,hg,hn,_⟩
 ·simp[Builtin.append_,run_underlying ht,sizeOf,typeInfo,hi,Builtin.lenOf,hf]
 ·simp[Builtin.append_,run_underlying ht,sizeOf,typeInfo,hi,Builtin.lenOf,hf,hn,storeCells]
def cH0 {P:Program}{w:World}{t ty e:Nat}{ti:TI}{v:Value}{n m c:Nat}{xs news:List Value}{a:Addr}(ht:P.underlying t=some (.slice e))(hte:bh5 P e ti)(hz:ti.zero.length=ti.size)(hv:ei0 w v e ti.size n xs)
  (hl:news.length=m*ti.size) (cm9:∀j u,news[j]? =some u->w.cell? (a.add j)=some u) (h1:∀u∈news,u.oneCell'=true) (h0:0<m) (cY8:n+m<=1073741824):
  ∃v' w',(Builtin.append_ #[t,t] ty #[v,.slice (some a) m c]).run P w= .ok v' w'/\aF1 true (fun b=>S0 v=some b) w w'/\ei0 w' v' e ti.size (n+m) (xs++news)/\
   (∀b,S0 v'=some b->b<w'.heap.size/\(S0 v=some b\/w.heap.size<=b)):=by
 obtain⟨i,d,hi,hs,_,_,⟨z,hzz,hzc⟩,hby⟩:=hte
 rw[<-hs]at hv hl hz|-
 have hzs:z.cells.size=i.size:=by grind
 have cQ6:(n+m)*i.bytes<=140737488355328:=by
  have:=Nat.mul_le_mul cY8 hby
  omega
 have grown:∀(old:Nat),old<n+m->xs.length=n*i.size->
   ei0 (w.drew.alloc (.cells (xs.toArray++news.toArray++Builtin.zeroCells z.cells (grownCap w (n+m) old e-(n+m))) e)) (.slice (some ⟨w.heap.size,0,none⟩) (n+m) (grownCap w (n+m) old e)) e i.size (n+m) (xs++news):=by
  intro old ho hxl
  have hge:=grownCap_ge w (n+m) old e
  have hcm:grownCap w (n+m) old e<=maxLen:=grownCap_le_maxLen w (n+m) old e (by grind [maxLen])
  have hlen:(xs++news).length=(n+m)*i.size:=by grind
  refine .inr ⟨w.heap.size,_,(xs++news)++(Builtin.zeroCells z.cells (grownCap w (n+m) old e-(n+m))).toList,rfl,?_,hge,hcm,?_,?_⟩
  ·have:((xs++news)++(Builtin.zeroCells z.cells (grownCap w (n+m) old e-(n+m))).toList).toArray=xs.toArray++news.toArray++Builtin.zeroCells z.cells (grownCap w (n+m) old e-(n+m)):=by simp
   rw[this]
   exact heap_alloc_new w.drew _
  ·rw[bd4,hlen,fe1,size_zeroCells,hzs,<-eG0]
   grind
  grind
 have kept:∀o,aF1 true (fun b=>S0 v=some b) w (w.drew.alloc o):=fun o=>⟨rfl,rfl,rfl,by simp,fun k hk _=>Below.heap_alloc w.drew _ _ hk,fun _=>Nat.le_succ _⟩
 rcases hv with⟨rfl,rfl,rfl⟩|⟨g,cap,cur,rfl,hg,hn,hcm,hcs,htake⟩
 ·have hr:=run_append_nil (P:=P) w t ty e i z ht hi hzz a m c news hl cm9 h0 (by omega) (by grind)
  have hgr:=grown 0 (by omega) (by simp)
  simp only[da1,List.nil_append,Array.empty_append]at hgr|-
  exact⟨_,_,hr,kept _,hgr,fun b hb=>by cases hb;simp⟩
 ·have hxl:xs.length=n*i.size:=by
   grind [cC0]
  by_cases hroom:n+m<=cap
  ·have hfit:n*i.size+news.length<=cur.toArray.size:=by rw[hl,eV8,hcs,<-eG0];exact cC0 _ hroom
   have hr:=run_append_room (P:=P) w t ty e i ht hi g n cap cur.toArray hg a m c news hl cm9 h1 hroom hfit
   refine⟨_,_,hr,⟨rfl,rfl,rfl,by simp,fun k _ hk=>setRow_other w g k _ (fun e=>hk (by simp[S0,e])),fun _=>bO2 _⟩,.inr ⟨g,cap,_,rfl,setRow_heap w g cur.toArray _ e _ hg,hroom,hcm,?_,?_⟩,fun b hb=>?_⟩
   ·grind
   ·rw[htake]
    have hlen:(xs++news).length=(n+m)*i.size:=by rw[bd4,hxl,hl,eG0]
    rw[<-hlen]
    exact List.take_left
   ·cases hb
    refine⟨?_,.inl rfl⟩
    have:=(dq5.1 hg).1
    simpa using this
  ·have holds:∀j u,xs[j]? =some u->w.cell? ((⟨g,0,none⟩:Addr).add j)=some u:=by
    intro j u hu
    have hadd:(⟨g,0,none⟩:Addr).add j=⟨g,j,none⟩:=by rw[addr_add];simp
    rw[hadd,cell_of_row w g j _ e (0,0) hg]
    rw[<-htake,dJ8]at hu
    split at hu
    ·simpa using hu
    ·cases hu
   have hr:=run_append_grow (P:=P) w t ty e i z ht hi hzz ⟨g,0,none⟩ n cap xs hxl holds a m c news hl cm9 (by omega) (by omega) (growslice_fits (by omega) cQ6)
   exact⟨_,_,hr,kept _,grown cap (by omega) hxl,fun b hb=>by cases hb;simp⟩
section
variable {w0:World} {L:Lim} {nt:Nat} {tm:List (Nat × T)} {hp:List (Nat × G6)} {S:Nat -> Prop} {E:Nat -> Value} {a:Act} {w w':World}
def Ok.cT8 (h:Ok w0 L nt ⟨tm,hp⟩ S E a w){id:Nat}{v v':Value}{b:G6}(aO4:bi3 id big=true)(hf:P1 id tm=true)(hb:O6 id hp=true)
  (hv:∀β,S0 v=some β->¬S β/\β<w.heap.size/\(w0.heap.size<=β\/L.bs2 β)) (hd:∀i blk β,look hp i=some blk->S0 v=some β->S0 (E i)=some β->False)
  (hk:aF1 L.dr (fun x=>S0 v=some x) w w') (hv':∀β,S0 v'=some β->β<w'.heap.size/\(S0 v=some β\/w.heap.size<=β))
  (hok:∀E',be0 w' S E' v' b):∃E',E' id=v'/\Ok w0 L nt ⟨tm,(id,b)::hp⟩ S E' a w':=by
 let E':Nat->Value:=fun i=>if i=id then v' else E i
 have hE:∀i,i≠id->E' i=E i:=fun i hi=>by grind
 have hid:E' id=v':=by simp[E']
 have hS:∀x,S x->w'.heap[x]? =w.heap[x]?:=fun x hx=>hk.block x (h.aH9 x hx) (fun e=>(hv x e).1 hx)
 have hsz:=h.keep.size
 refine⟨E',hid,{keep:=h.keep.trans hk (fun x hx=>(hv x hx).2.2.symm),aH9:=fun x hx=>dp8 (h.aH9 x hx) hk.size,base:=h.base,size:=h.size,defers:=h.defers,tm:=?_,hp:=?_,own:=?_,au2:=?_,pin:=fun i hi=>by rw[hE i (fun e=>by have:id<big:=bd6 aO4;omega)];exact h.pin i hi}⟩
 ·exact fun k t ht=>(h.tm k t ht).mono (fun _ x=>x) hS fun i hi=>hE i fun e=>by
   grind [bc6]
 ·intro i blk hl
  simp only[look]at hl
  by_cases he:id=i
  ·simp_all
  ·simp only[D2 he,fk6]at hl
   rw[hE i (fun e=>he e.symm)]
   exact(h.hp i blk hl).mono (fun _ x=>x) hS (fun β hβ=>hk.block β (h.own i blk β hl hβ).2.1 (fun e=>hd i blk β hl e hβ)) fun j hj=>hE j fun e=>by
    grind [aB0]
 ·intro i blk β hl hβ
  simp only[look]at hl
  by_cases he:id=i
  ·grind
  ·simp only[D2 he,fk6]at hl
   rw[hE i (fun e=>he e.symm)]at hβ
   have:=h.own i blk β hl hβ
   exact⟨this.1,dp8 this.2.1 hk.size,this.2.2⟩
 ·intro i i' blk cD9 β hl hl' hβ hβ'
  simp only[look]at hl hl'
  have dc4:∀j bj,look hp j=some bj->S0 v'=some β->S0 (E j)=some β->False:=fun j bj hj h1 h2=>by
   rcases(hv' β h1).2 with h3|h3
   ·grind
   ·have:=(h.own j bj β hj h2).2.1;omega
  by_cases he:id=i<;>by_cases he':id=i'
  ·omega
  ·subst he
   simp only[D2 he',fk6]at hl'
   grind
  ·subst he'
   simp only[D2 he,fk6]at hl
   grind
  ·simp only[D2 he,D2 he',fk6]at hl hl'
   rw[hE i (fun e=>he e.symm)]at hβ
   rw[hE i' (fun e=>he' e.symm)]at hβ'
   exact h.au2 i i' blk cD9 β hl hl' hβ hβ'
def cf8 {j a s:Nat}(h:j<a*s):0<s:=by
 grind
def aQ4:Tree->Bool
 | .v x=>x.oneCell'
 | .sl _ _=>true
theorem RT.one {v:Value}{t:Tree}(h:RT w S v t)(ht:aQ4 t=true):v.oneCell'=true:=by
 cases h<;>first|exact ht|rfl
def cg5 {v:Value}{m sz:Nat}{rs:List (List Tree)}(h:RT w S v (.sl m rs))(hsz:∀r∈rs,r.length=sz)(bj1:∀r∈rs,∀t∈r,aQ4 t=true):
  m=rs.length/\∃(ad:Option Addr) (c:Nat),v= .slice ad m c/\(0<m->∃(x:Addr) (news:List Value),ad=some x/\news.length=m*sz/\(∀j u,news[j]? =some u->w.cell? (x.add j)=some u)/\(∀u∈news,u.oneCell'=true)/\
   ∀i j (hi:i<rs.length) (hj:j<(rs[i]).length) (hb:i*sz+j<news.length),RT w S (news[i*sz+j]) ((rs[i])[j])):=by
 cases h with
 |slE a c=>simp
 |sl b o c sz' rows vs _ hb hsz' hc hr=>
  refine⟨rfl,_,c,rfl,fun h0=>⟨_,(di4 (rs.length*sz)).map (fun k=>vs (k/sz) (k%sz)),rfl,by simp,?_,?_,?_⟩⟩
  all_goals
   have hne:sz'=sz:=by rw[<-hsz' (rs[0]) (bf3 h0),hsz (rs[0]) (bf3 h0)]
   subst hne
  ·intro j u hu
   rw[dr2]at hu
   obtain⟨k,hk,rfl⟩:=dV4.1 hu
   obtain⟨hj,rfl⟩:=bG6.1 hk
   grind [eY1,eQ6,addr_add,fb1]
  ·intro u hu
   obtain⟨k,hk,rfl⟩:=cK0.1 hu
   have hj:=dP5.1 hk
   have hs0:0<sz':=cf8 hj
   have h1:k/sz'<rs.length:=eY1 (by rw[es2];exact hj)
   have h2:k%sz'<(rs[k/sz']).length:=by rw[hsz _ (bf3 h1)];exact eQ6 _ hs0
   exact(hr (k/sz') (k%sz') h1 h2).one (bj1 _ (bf3 h1) _ (bf3 h2))
  ·intro i j hi hj hb'
   simp only[dc0,List.getElem_range]
   have hj':j<sz':=by rw[<-hsz _ (bf3 hi)];exact hj
   have e1:(i*sz'+j)/sz'=i:=by rw[es2,Nat.mul_add_div (by omega),Nat.div_eq_of_lt hj',eh1]
   have e2:(i*sz'+j)%sz'=j:=by rw[es2,ff1,fa1 hj']
   rw[e1,e2]
   exact hr i j hi hj
end
def Src (w:World)(S:Nat->Prop)(v:Value)(m sz:Nat)(rs:List (List Tree)):Prop:=
 m=rs.length/\∃(ad:Option Addr) (c:Nat),v= .slice ad m c/\(0<m->∃(x:Addr) (news:List Value),ad=some x/\news.length=m*sz/\(∀j u,news[j]? =some u->w.cell? (x.add j)=some u)/\(∀u∈news,u.oneCell'=true)/\
   ∀i j (hi:i<rs.length) (hj:j<(rs[i]).length) (hb:i*sz+j<news.length),RT w S (news[i*sz+j]) ((rs[i])[j]))
section
variable {P:Program} {w0:World} {L:Lim} {nt:Nat} {tm:List (Nat × T)} {hp:List (Nat × G6)} {S:Nat -> Prop} {E:Nat -> Value} {a:Act} {w:World}
def dp6 {v:Value}{e sz m:Nat}{rs:List (List Tree)}(h:be0 w S E v (.rows e sz m rs))(bj1:∀r∈rs,∀t∈r,aQ4 t=true):Src w S v m sz rs:=by
 obtain⟨hn,hx⟩:=h
 subst hn
 refine⟨rfl,?_⟩
 rcases hx with⟨rfl,hr⟩|⟨β,cap,vs,hm,rfl,hh,hl,hc,hsz,hr⟩
 ·simp_all
 ·refine⟨_,_,rfl,fun h0=>⟨_,vs.take (rs.length*sz),rfl,?_,?_,?_,?_⟩⟩
  ·simp_all
  ·intro j u hu
   rw[dJ8]at hu
   split at hu
   ·rw[addr_add,cell_of_row w β _ _ e _ hh];grind
   ·cases hu
  ·intro u hu
   obtain⟨k,hk,rfl⟩:=cW9.1 hu
   have hk':k<rs.length*sz:=by grind
   have hs0:0<sz:=cf8 hk'
   have h1:k/sz<rs.length:=eY1 (by grind)
   have h2:k%sz<(rs[k/sz]).length:=by simp_all[eQ6]
   have e1:k/sz*sz+k%sz=k:=by simp[fb1,es2]
   have hkv:k<vs.length:=by grind
   have:=hr (k/sz) (k%sz) h1 h2 (by omega)
   simp only[e1]at this
   rw[eV5]
   exact this.one (bj1 _ (bf3 h1) _ (bf3 h2))
  grind
theorem bM1 {α:Type}{l r:List α}{k i:Nat}(h:l.take k=r)(hi:i<r.length)(hl:i<l.length):l[i]=r[i]:=by
 grind
def Ok.append (h:Ok w0 L nt ⟨tm,hp⟩ S E a w){id e n m t ty:Nat}{ti:TI}{v x:Value}{rs r2:List (List Tree)}(aO4:bi3 id big=true)(hf:P1 id tm=true)(hb:O6 id hp=true)
  (hv:∀β,S0 v=some β->¬S β/\β<w.heap.size/\(w0.heap.size<=β\/L.bs2 β)) (hd:∀i blk β,look hp i=some blk->S0 v=some β->S0 (E i)=some β->False)
  (hbv:be0 w S E v (.rows e ti.size n rs)) (ht:P.underlying t=some (.slice e)) (hte:bh5 P e ti) (hz:ti.zero.length=ti.size)
  (hx:Src w S x m ti.size r2) (h2:∀r∈r2,r.length=ti.size) (cY8:n+m<=1073741824):
  ∃v' w' E',(Builtin.append_ #[t,t] ty #[v,x]).run P w= .ok v' w'/\E' id=v'/\Ok w0 L nt ⟨tm,(id,.rows e ti.size (n+m) (rs++r2))::hp⟩ S E' a w':=by
 obtain⟨hm,ad,c,rfl,cf2⟩:=hx
 obtain⟨hn,aQ8⟩:=hbv
 have cf1:∃xs:List Value,ei0 w v e ti.size n xs/\xs.length=n*ti.size/\(∀r∈rs,r.length=ti.size)/\∀i j (hi:i<rs.length) (hj:j<(rs[i]).length) (hb:i*ti.size+j<xs.length),RT w S (xs[i*ti.size+j]) ((rs[i])[j]):=by
  rcases aQ8 with⟨rfl,hr⟩|⟨β,cap,vs,hcm,rfl,hh,hl,hc,hsz,hr⟩
  ·subst hr;subst hn;exact⟨[],.inl ⟨rfl,rfl,rfl⟩,by simp,by simp,fun i j hi=>by simp⟩
  ·subst hn
   refine⟨vs.take (rs.length*ti.size),.inr ⟨β,cap,vs,rfl,hh,hc,hcm,hl,rfl⟩,?_,hsz,fun i j hi hj hb=>?_⟩
   all_goals grind [cC0]
 obtain⟨xs,hov,hxl,hrl,hrx⟩:=cf1
 rcases dU4 m with h0|h0
 ·subst h0
  have hr2:r2=[]:=eC6 hm.symm
  subst hr2
  have hr:=cG9 (ty:=ty) ht hte hov (x:=.slice ad 0 c) rfl
  obtain⟨E',hE,hk⟩:=h.cT8 aO4 hf hb hv hd (aF1.refl _ w) (v':=v) (b:=.rows e ti.size (n+0) (rs++[])) (fun β hβ=>⟨(hv β hβ).2.1,.inl hβ⟩) (fun E'=>by
   rw[dq6,eh1];exact⟨hn,aQ8⟩)
  grind
 ·obtain⟨y,news,rfl,hnl,cm9,bj1,hrn⟩:=cf2 h0
  obtain⟨v',w',hr,hk,hov',hbl⟩:=cH0 (ty:=ty) ht hte hz hov hnl cm9 bj1 h0 cY8
  have hS:∀b,S b->w'.heap[b]? =w.heap[b]?:=fun b hb=>hk.block b (h.aH9 b hb) (fun e=>(hv b e).1 hb)
  obtain⟨E',hE,hok⟩:=h.cT8 aO4 hf hb hv hd (hk.dN8 fun _=>rfl) (v':=v') (b:=.rows e ti.size (n+m) (rs++r2)) hbl (fun E'=>by
   refine⟨by rw[bd4,hn,hm],?_⟩
   rcases hov' with⟨_,hz0,_⟩|⟨g,cap,cur,rfl,hg,hnc,hcm,hcl,htk⟩
   ·omega
   ·refine .inr ⟨g,cap,cur,hcm,by rw[bd4,<-hn,<-hm],hg,hcl,by rw[bd4,<-hn,<-hm];exact hnc,?_,?_⟩
    ·intro r hr
     rcases du0.1 hr with hr|hr
     ·exact hrl r hr
     ·exact h2 r hr
    ·intro i j hi hj hb'
     by_cases hin:i<rs.length
     ·have hj1:j<(rs[i]).length:=by rw[dM2 hin]at hj;exact hj
      have hjs:j<ti.size:=by rw[<-hrl _ (bf3 hin)];exact hj1
      have hlt:i*ti.size+j<xs.length:=by
       rw[hxl,hn]
       have:(i+1)*ti.size<=rs.length*ti.size:=cC0 _ hin
       rw[dN2]at this;omega
      have e1:cur[i*ti.size+j]=xs[i*ti.size+j]:=by
       rw[bM1 htk (by rw[bd4];omega) hb',dM2 hlt]
      have e2:(rs++r2)[i]=rs[i]:=dM2 hin
      rw[e1]
      simp only[e2]
      exact(hrx i j hin hj1 hlt).mono (fun _ x=>x) hS
     ·have hi2:i-rs.length<r2.length:=by rw[bd4]at hi;omega
      have e2:(rs++r2)[i]=r2[i-rs.length]:=ez8 (by omega)
      have hj1:j<(r2[i-rs.length]).length:=by rw[e2]at hj;exact hj
      have hjs:j<ti.size:=by rw[<-h2 _ (bf3 hi2)];exact hj1
      have hlt:(i-rs.length)*ti.size+j<news.length:=by
       rw[hnl,hm]
       have:(i-rs.length+1)*ti.size<=r2.length*ti.size:=cC0 _ hi2
       rw[dN2]at this;omega
      have esum:i*ti.size=rs.length*ti.size+(i-rs.length)*ti.size:=by rw[<-eG0];congr 1;omega
      have e3:i*ti.size+j-xs.length=(i-rs.length)*ti.size+j:=by rw[hxl,hn,esum];omega
      have e1:cur[i*ti.size+j]=news[(i-rs.length)*ti.size+j]:=by
       rw[bM1 htk (by rw[bd4,hxl,hn,esum];omega) hb',ez8 (by rw[hxl,hn,esum];omega)]
       simp only[e3]
      rw[e1]
      simp only[e2]
      exact(hrn (i-rs.length) j hi2 hj1 hlt).mono (fun _ x=>x) hS)
  exact⟨v',w',E',hr,hE,hok⟩
end
section
variable {ρ α:Type} {X:Cx} {ks:List K} {tm tm':List (Nat × T)} {hp X8:List (Nat × G6)} {Q:ρ -> Exit -> St -> Prop} {all:Array Oper} {o:Oper} {rest:List Oper}
def bH3 {enc:α->List Tree}(bj1:∀y,(enc y).all aQ4=true)(l:List α):∀r∈l.map enc,∀t∈r,aQ4 t=true:=by
 grind
def bV4 {enc:α->List Tree}{sz:Nat}(h:∀y,(enc y).length=sz)(l:List α):∀r∈l.map enc,r.length=sz:=by
 grind
def B9.append {t e e' d id n m s0:Nat}{z0:List Value}{te:TI}{s x:Operand}{l r:List α}{enc:α->List Tree}{k:List α->Option ρ}
  (ho:o.op= .call ⟨.builtin .append,#[s,x],#[t,t]⟩) (hd:o.dst=some d) (hdn:bi3 d X.nt=true) (hg:ai6 all.toList tm o.guard=some true)
  (hty:look X.C8 t=some ⟨s0,.slice e,z0⟩) (hte:look X.C8 e=some te) (hz:te.zero.length=te.size) (ay6:∀y,(enc y).length=te.size) (bj1:∀y,(enc y).all aQ4=true)
  (hs:(val tm s=some (.own id)/\look hp id=some (.rows e te.size n (l.map enc)))\/(val tm s=some (.t (.v (.slice none 0 0)))/\l=[]))
  (hx:val tm x=some (.t (.sl m (r.map enc)))\/∃i2,val tm x=some (.own i2)/\look hp i2=some (.rows e' te.size m (r.map enc)))
  (cn0:Sub ⟨tm',X8⟩ ⟨tm,hp⟩) (aO4:bi3 id big=true) (hft:P1 id tm'=true) (hfb:O6 id X8=true)
  (h:B9 X all rest ks ⟨(d,.own id)::tm',(id,.rows e te.size (l++r).length ((l++r).map enc))::X8⟩ (k (l++r)) Q):
  B9 X all (o::rest) ks ⟨tm,hp⟩ ((V4 l r).bind k) Q:=fun y hy a w ⟨S,E,hk⟩=>by
 unfold V4 at hy
 split at hy
 ·rename_i cY8
  simp only[aF2]at hy
  obtain⟨dd,_,hu,ho2⟩:∃d,X.P.underlying t=some d/\X.P.underlying t=some d/\TD.ok X.P (.slice e) d:=by
   obtain⟨i,d,_,_,hu,hdd,_⟩:=X.K6 t _ hty
   grind
  simp only[TD.ok]at ho2
  subst ho2
  have hk':Ok X.w0 X.L X.nt ⟨tm',X8⟩ S E a w:=hk.sub cn0
  have cf2:Src w S (a.eval x) r.length te.size (r.map enc):=by
   rcases hx with hx|⟨i2,hx,hb2⟩
   ·have hv:=hk.val hx
    generalize a.eval x=xv at hv
    cases hv with
    |t hv=>
     have:=cg5 hv (bV4 ay6 r) (bH3 bj1 r)
     have hm:m=r.length:=by grind
     subst hm
     exact⟨by simp,this.2⟩
   ·have hv:=hk.val hx
    have hb:=hk.hp i2 _ hb2
    generalize a.eval x=xv at hv
    cases hv with
    |own _ _ hE=>
     subst hE
     have:=dp6 hb (bH3 bj1 r)
     have hm:m=r.length:=by simpa using this.1
     grind
  have dJ2:∃v,a.eval s=v/\be0 w S E v (.rows e te.size l.length (l.map enc))/\(∀β,S0 v=some β->¬S β/\β<w.heap.size/\(X.w0.heap.size<=β\/X.L.bs2 β))/\
    (∀i blk β,look X8 i=some blk->S0 v=some β->S0 (E i)=some β->False):=by
   rcases hs with⟨hs,hb⟩|⟨hs,hl⟩
   ·have hv:=hk.val hs
    have hb1:=hk.hp id _ hb
    have hn:n=l.length:=by have:=hb1.1;grind
    subst hn
    generalize a.eval s=sv at hv
    cases hv with
    |own _ _ hE=>
     subst hE
     refine⟨_,rfl,hb1,fun β hβ=>hk.own id _ β hb hβ,fun i blk β hi h1 h2=>?_⟩
     obtain⟨cD9,hi',_⟩:=bk6 cn0.2 i blk hi
     have:=hk.au2 id i _ cD9 β hb hi' h1 h2
     exact(aB0 hfb i blk hi).1 this.symm
   ·have hv:=(hk.val hs).tv
    subst hl
    rw[hv]
    exact⟨_,rfl,⟨by simp,.inl ⟨rfl,rfl⟩⟩,fun β hβ=>by simp[S0]at hβ,fun i blk β _ h1=>by simp[S0]at h1⟩
  obtain⟨v,hv,hbv,cf1,hdist⟩:=dJ2
  obtain⟨v',w',E',hr,hE,hok⟩:=hk'.append (ty:=o.type) aO4 hft hfb cf1 hdist hbv hu (X.K6 e _ hte) hz cf2 (bV4 ay6 r) (by omega)
  refine wpList_step fun K hK=>?_
  rw[T7 hk hg,if_pos rfl]
  unfold Oper.wp
  have aO5:(execOp a.eval o).run X.P w= .ok (.value v') w':=by
   unfold execOp
   simp only[ho,resolve,invoke,builtin,bq9,bB8,bd5,fa0,cN4,dT4,hv,hr]
  rw[aO5]
  refine hK _ _ (h y hy _ _ ⟨S,E',?_⟩)
  rw[hd,eC5,bd4]
  exact hok.put (bd6 hdn) (.own id _ hE)
 grind
end
section
variable {ρ α:Type} {X:Cx} {ks:List K} {tm tm':List (Nat × T)} {hp X8:List (Nat × G6)} {m:Option ρ} {Q:ρ -> Exit -> St -> Prop} {all:Array Oper} {o:Oper} {rest:List Oper}
end
def bF8 {α:Type}(l:List α)(o:Nat)(c:List α):List α:=l.take o++c++l.drop (o+c.length)
theorem bU1 {α:Type}(l:List α)(o:Nat)(c:List α)(h:o+c.length<=l.length):(bF8 l o c).length=l.length:=by
 simp[bF8];omega
def dC0 {α:Type}(l:List α)(o:Nat)(c:List α)(h:o+c.length<=l.length)(p:Nat):(bF8 l o c)[p]? =if p<o then l[p]?else if p<o+c.length then c[p-o]?else l[p]?:=by
 unfold bF8
 grind
section
variable {P:Program} {w0:World} {L:Lim} {nt:Nat} {σ:St} {S:Nat -> Prop} {E:Nat -> Value} {a:Act} {w:World}
theorem RV.rt {v:Value}{y:Tree}(h:RV w S E v (.t y)):RT w S v y:=by cases h with|t h=>exact h
def ef7 (hok:Ok w0 L nt σ S E a w){t:Nat}{ti:TI}(hti:bh5 P t ti){id i sz off e n:Nat}{rs:List (List Tree)}{row lt:List Tree}{x:T}{v pv:Value}
  (hb:look σ.hp id=some (.rows e sz n rs)) (hp:RV w S E pv (.pe id i sz off)) (hi:rs[i]? =some row) (hv:RV w S E v x) (hx:at7 σ.hp x=some (lt.map .t)) (hs:lt.length=ti.size) (hle:off+lt.length<=sz):
  ∃w',(Instr.storeAt t pv v).run P w= .ok () w'/\Ok w0 L nt ⟨σ.tm,au3 σ.hp id (.rows e sz n (rs.set i (bF8 row off lt)))⟩ S E a w':=by
 obtain⟨vs,hvs,hl,hr,h1⟩:=hok.cells hv hx
 obtain⟨hn,aQ8⟩:=hok.hp id _ hb
 obtain⟨hil,hirow⟩:=bG6.1 hi
 have hvl:vs.length=lt.length:=by grind
 rcases aQ8 with⟨_,hr0⟩|⟨β,cap,cs,hcm,hE,hh,hcl,hcc,hsz,hcr⟩
 ·grind
 ·cases hp with
  |pe _ _ _ _ β' n' dH4 hE'=>
   rw[hE]at hE'
   cases hE'
   have hrl:row.length=sz:=by grind
   have hfit:i*sz+off+vs.length<=cs.length:=by
    have h2:(i+1)*sz<=cap*sz:=cC0 _ (by omega)
    grind
   have hst:(Instr.storeAt t (.pointer (some ⟨β,i*sz+off,none⟩)) v).run P w= .ok () (w.setRow β (bF8 cs (i*sz+off) vs).toArray):=by
    have:=run_storeCells_at (P:=P) β (i*sz+off) e vs 0 cs.toArray w hh (by simp;omega) h1
    have hl2:vs.length=ti.size:=by omega
    simp only[Instr.storeAt,Instr.sureAddr,bq9,bB8,bd5,storeVar,hti.aG6,hvs]
    grind [bF8]
   refine⟨_,hst,hok.setRow hb (by rw[hE];rfl) hh fun hS bS1=>⟨by grind,.inr ⟨β,cap,bF8 cs (i*sz+off) vs,hcm,by grind,bS1,by grind [bU1],by grind,?_,?_⟩⟩⟩
   ·intro r hr'
    obtain⟨j,hj,rfl⟩:=cW9.1 hr'
    grind [bU1]
   ·intro i' j hi' hj hb'
    have hi2:i'<rs.length:=by rw[eh3]at hi';exact hi'
    have hg:=dC0 cs (i*sz+off) vs hfit (i'*sz+j)
    rw[aX4 hb']at hg
    have old:∀(hne:i'≠i\/j<off\/off+vs.length<=j),(i'=i->(bF8 row off lt)[j]? =row[j]?)->RT (w.setRow β (bF8 cs (i*sz+off) vs).toArray) S ((bF8 cs (i*sz+off) vs)[i'*sz+j]) (((rs.set i (bF8 row off lt))[i']'(by rw[eh3];exact hi2))[j]):=by
     intro hne hsame
     have hjr:((rs.set i (bF8 row off lt))[i']'(by rw[eh3];exact hi2)).length=sz:=by
      rw[fb9]
      split
      ·rw[bU1 _ _ _ (by omega)];exact hrl
      ·exact hsz _ (bf3 hi2)
     have hjs:j<sz:=by rw[hjr]at hj;exact hj
     have hrange:i'*sz+j<i*sz+off\/i*sz+off+vs.length<=i'*sz+j:=by
      rcases Nat.lt_trichotomy i' i with h2|h2|h2
      ·left
       have:(i'+1)*sz<=i*sz:=cC0 _ h2
       rw[dN2]at this;omega
      ·subst h2
       rcases hne with h3|h3|h3
       ·exact absurd rfl h3
       ·left;omega
       ·right;omega
      ·right
       have:(i+1)*sz<=i'*sz:=cC0 _ h2
       rw[dN2]at this;omega
     have e1:some ((bF8 cs (i*sz+off) vs)[i'*sz+j])=cs[i'*sz+j]?:=by
      rw[hg]
      rcases hrange with h2|h2
      ·rw[if_pos h2]
      ·rw[if_neg (by omega),if_neg (by omega)]
     obtain⟨hlt,e1⟩:=bG6.1 e1.symm
     have hj2:j<(rs[i']).length:=by rw[hsz _ (bf3 hi2)];exact hjs
     have e2:((rs.set i (bF8 row off lt))[i']'(by rw[eh3];exact hi2))[j]=(rs[i'])[j]:=by
      apply ca0
      rw[<-aX4,<-aX4,fb9]
      split
      ·rename_i h3
       subst h3
       rw[hsame rfl,<-hirow]
      ·rfl
     rw[<-e1,e2]
     exact(hcr i' j hi2 hj2 hlt).mono (fun _ x=>x) hS
    by_cases hii:i'=i
    ·subst hii
     have hsg:=dC0 row off lt (by omega) j
     by_cases c1:j<off
     ·exact old (.inr (.inl c1)) (fun _=>by rw[hsg,if_pos c1])
     ·by_cases c2:j<off+lt.length
      ·have hjv:j-off<vs.length:=by omega
       have e1:(bF8 cs (i'*sz+off) vs)[i'*sz+j]=vs[j-off]:=by
        apply ca0
        rw[hg,if_neg (by omega),if_pos (by omega),show i'*sz+j-(i'*sz+off)=j-off by omega,aX4 hjv]
       have e2:((rs.set i' (bF8 row off lt))[i']'(by rw[eh3];exact hi2))[j]=lt[j-off]:=by
        apply ca0
        rw[<-aX4,List.getElem_set_self,hsg,if_neg c1,if_pos c2,aX4 (by omega)]
       rw[e1,e2]
       have:=hr (j-off) hjv (by simp;omega)
       rw[dc0]at this
       exact this.rt.mono (fun _ x=>x) hS
      ·exact old (.inr (.inr (by omega))) (fun _=>by rw[hsg,if_neg c1,if_neg c2])
    ·exact old (.inl hii) (fun h=>absurd h hii)
def dx7 (hok:Ok w0 L nt σ S E a w){t:Nat}{ti:TI}(hti:bh5 P t ti){id i sz off e n:Nat}{rs:List (List Tree)}{row:List Tree}{pv:Value}{r:T}
  (hb:look σ.hp id=some (.rows e sz n rs)) (hp:RV w S E pv (.pe id i sz off)) (hi:rs[i]? =some row) (hx:bh3 ti.desc.isAgg ti.size (row.map .t) off=some r):
  ∃v,(Instr.loadAt t pv).run P w= .ok v w/\RV w S E v r:=by
 obtain⟨hn,aQ8⟩:=hok.hp id _ hb
 obtain⟨hil,hirow⟩:=bG6.1 hi
 rcases aQ8 with⟨_,hr0⟩|⟨β,cap,cs,hcm,hE,hh,hcl,hcc,hsz,hcr⟩
 ·grind
 ·cases hp with
  |pe _ _ _ _ β' n' dH4 hE'=>
   rw[hE]at hE'
   cases hE'
   have hrl:row.length=sz:=by grind
   have hfit:i*sz+sz<=cs.length:=by
    have h2:(i+1)*sz<=cap*sz:=cC0 _ (by omega)
    grind
   refine cI7 (P:=P) (b:=β) (o:=i*sz) (vs:=(cs.drop (i*sz)).take sz) hti (l:=row.map .t) ?_ ?_ ?_ hx
   ·simp;omega
   ·intro j h1
    simp only[cZ8,en4]at h1
    rw[cell_of_row w β _ _ e _ hh]
    simp
   ·intro j h1 h2
    simp only[cZ8,en4]at h1
    have hj:j<sz:=by omega
    have:=hcr i j hil (by rw[hsz _ (bf3 hil)];exact hj) (by omega)
    simp only[eV5,eV4,dc0]
    simp only[hirow]at this
    exact .t this
end
section
variable {ρ α:Type} {X:Cx} {ks:List K} {tm:List (Nat × T)} {hp:List (Nat × G6)} {m:Option ρ} {Q:ρ -> Exit -> St -> Prop} {all:Array Oper} {o:Oper} {rest:List Oper}
def B9.fg8 {t d id i sz off e n:Nat}{ti:TI}{p:Operand}{l:List α}{enc:α->List Tree}{y:α}{r:T}(hy:l[i]? =some y)
  (ho:o.op= .load t p) (hd:o.dst=some d) (hdn:bi3 d X.nt=true) (hg:ai6 all.toList tm o.guard=some true) (hp1:val tm p=some (.pe id i sz off)) (hb:look hp id=some (.rows e sz n (l.map enc)))
  (hti:look X.C8 t=some ti) (hr:bh3 ti.desc.isAgg ti.size ((enc y).map .t) off=some r) (h:B9 X all rest ks ⟨(d,r)::tm,hp⟩ m Q):B9 X all (o::rest) ks ⟨tm,hp⟩ m Q:=by
 have:=B9.one (X:=X) (ks:=ks) (tm:=tm) (hp:=hp) (all:=all) (o:=o) (rest:=rest) (Q:=Q) (k:=fun _=>m) (m₁:=some ()) hd hdn hg (fun _=>r) (fun _ S E a w _ hk=>by
  obtain⟨v,h1,h2⟩:=dx7 (P:=X.P) hk (X.K6 t _ hti) hb (hk.val hp1) (by grind) hr
  grind [execOp,bq9,bd5,bB8]) (fun _ _=>h)
 grind
end
mutual
def aN2 (h:List (Nat×Nat)):T->Option T
 | .t x=>some (.t x)
 | .el c=>some (.el c)
 | .fz n c=>some (.fz n c)
 | .any=>some .any
 | .ptr id off=>match look h id with|some i=>some (.ptr i off)|none=>none
 | .own id=>match look h id with|some i=>some (.own i)|none=>none
 | .pe id i sz off=>match look h id with|some j=>some (.pe j i sz off)|none=>none
 | .vw id lo n sz=>match look h id with|some j=>some (.vw j lo n sz)|none=>none
 | .agg l=>match bT2 h l with|some r=>some (.agg r)|none=>none
 | .P4 l=>match bT2 h l with|some r=>some (.P4 r)|none=>none
 | .clo f l=>match bT2 h l with|some r=>some (.clo f r)|none=>none
def bT2 (h:List (Nat×Nat)):List T->Option (List T)
 |[]=>some []
 |x::r=>match aN2 h x,bT2 h r with|some y,some l=>some (y::l)|_,_=>none
end
def bT1 (h:List (Nat×Nat)):G6->Option G6
 | .box l=>match bT2 h l with|some r=>some (.box r)|none=>none
 | .rows e sz n rs=>some (.rows e sz n rs)
 | .mp es=>some (.mp es)
 | .rv y e sz n rs=>some (.rv y e sz n rs)
section
variable {w:World} {S:Nat -> Prop} {E E':Nat -> Value} {h:List (Nat × Nat)}
mutual
theorem cp1 (hE:∀i j,look h i=some j->E' j=E i):∀{t u:T}{v:Value},RV w S E v t->aN2 h t=some u->RV w S E' v u
 | .t x,u,v,hv,hr=>by simp only[aN2,aI6]at hr;subst hr;exact hv.mono (fun _ x=>x) (fun _ _=>rfl) (fun id hid=>by simp[names]at hid)
 | .el c,u,v,hv,hr=>by simp only[aN2,aI6]at hr;subst hr;exact hv.mono (fun _ x=>x) (fun _ _=>rfl) (fun id hid=>by simp[names]at hid)
 | .fz n c,u,v,hv,hr=>by simp only[aN2,aI6]at hr;subst hr;exact hv.mono (fun _ x=>x) (fun _ _=>rfl) (fun id hid=>by simp[names]at hid)
 | .any,u,v,hv,hr=>by simp only[aN2,aI6]at hr;subst hr;exact .any v
 | .ptr id off,u,v,hv,hr=>by
  simp only[aN2]at hr
  split at hr<;>try(cases hr;done)
  rename_i i hi
  simp only[aI6]at hr;subst hr
  cases hv with|ptr _ _ β hb=>exact .ptr i off β (by rw[hE id i hi];exact hb)
 | .own id,u,v,hv,hr=>by
  simp only[aN2]at hr
  split at hr<;>try(cases hr;done)
  rename_i i hi
  simp only[aI6]at hr;subst hr
  cases hv with|own _ _ hb=>exact .own i v (by rw[hE id i hi];exact hb)
 | .pe id k sz off,u,v,hv,hr=>by
  simp only[aN2]at hr
  split at hr<;>try(cases hr;done)
  rename_i i hi
  simp only[aI6]at hr;subst hr
  cases hv with|pe _ _ _ _ β n cap hb=>exact .pe i k sz off β n cap (by rw[hE id i hi];exact hb)
 | .vw id lo n sz,u,v,hv,hr=>by
  simp only[aN2]at hr
  split at hr<;>try(cases hr;done)
  rename_i i hi
  simp only[aI6]at hr;subst hr
  cases hv with|vw _ _ _ _ c a hb=>exact .vw i lo n sz c a (by rw[hE id i hi];exact hb)
 | .agg l,u,v,hv,hr=>by
  simp only[aN2]at hr
  split at hr<;>try(cases hr;done)
  rename_i r hl
  simp only[aI6]at hr;subst hr
  cases hv with|agg vs _ hlen hrr=>have:=cp0 hE ⟨hlen,hrr⟩ hl;exact .agg vs r this.1 this.2
 | .P4 l,u,v,hv,hr=>by
  simp only[aN2]at hr
  split at hr<;>try(cases hr;done)
  rename_i r hl
  simp only[aI6]at hr;subst hr
  cases hv with|P4 vs _ hlen hrr=>have:=cp0 hE ⟨hlen,hrr⟩ hl;exact .P4 vs r this.1 this.2
 | .clo f l,u,v,hv,hr=>by
  simp only[aN2]at hr
  split at hr<;>try(cases hr;done)
  rename_i r hl
  simp only[aI6]at hr;subst hr
  cases hv with|clo _ vs _ hlen hrr=>have:=cp0 hE ⟨hlen,hrr⟩ hl;exact .clo f vs r this.1 this.2
theorem cp0 (hE:∀i j,look h i=some j->E' j=E i):∀{l r:List T}{vs:List Value},RVL w S E vs l->bT2 h l=some r->RVL w S E' vs r
 |[],r,vs,hv,hr=>by simp only[bT2,aI6]at hr;subst hr;exact⟨hv.1,fun j _ h2=>by simp at h2⟩
 |x::l,r,vs,hv,hr=>by
  simp only[bT2]at hr
  split at hr<;>try(cases hr;done)
  rename_i y l' hy hl'
  simp only[aI6]at hr;subst hr
  cases vs with
  |nil=>have:=hv.1;simp at this
  |cons v vs=>
   have h1:=cp1 hE (t:=x) (hv.2 0 (by simp) (by simp)) hy
   have h2:=cp0 hE (l:=l) (vs:=vs) ⟨by simpa using hv.1,fun j a b=>hv.2 (j+1) (by simpa using a) (by simpa using b)⟩ hl'
   refine⟨by simp[h2.1],fun j a b=>?_⟩
   cases j with
   |zero=>exact h1
   |succ j=>exact h2.2 j (by simpa using a) (by simpa using b)
end
mutual
theorem eg5 (hE:∀i j,look h i=some j->E' j=E i):∀{t u:T}{v:Value},RV w S E' v u->aN2 h t=some u->RV w S E v t
 | .t x,u,v,hv,hr=>by simp only[aN2,aI6]at hr;subst hr;exact hv.mono (fun _ x=>x) (fun _ _=>rfl) (fun id hid=>by simp[names]at hid)
 | .el c,u,v,hv,hr=>by simp only[aN2,aI6]at hr;subst hr;exact hv.mono (fun _ x=>x) (fun _ _=>rfl) (fun id hid=>by simp[names]at hid)
 | .fz n c,u,v,hv,hr=>by simp only[aN2,aI6]at hr;subst hr;exact hv.mono (fun _ x=>x) (fun _ _=>rfl) (fun id hid=>by simp[names]at hid)
 | .any,u,v,hv,hr=>.any v
 | .ptr id off,u,v,hv,hr=>by
  simp only[aN2]at hr
  split at hr<;>try(cases hr;done)
  rename_i i hi
  simp only[aI6]at hr;subst hr
  cases hv with|ptr _ _ β hb=>exact .ptr id off β (by rw[<-hE id i hi];exact hb)
 | .own id,u,v,hv,hr=>by
  simp only[aN2]at hr
  split at hr<;>try(cases hr;done)
  rename_i i hi
  simp only[aI6]at hr;subst hr
  cases hv with|own _ _ hb=>exact .own id v (by rw[<-hE id i hi];exact hb)
 | .pe id k sz off,u,v,hv,hr=>by
  simp only[aN2]at hr
  split at hr<;>try(cases hr;done)
  rename_i i hi
  simp only[aI6]at hr;subst hr
  cases hv with|pe _ _ _ _ β n cap hb=>exact .pe id k sz off β n cap (by rw[<-hE id i hi];exact hb)
 | .vw id lo n sz,u,v,hv,hr=>by
  simp only[aN2]at hr
  split at hr<;>try(cases hr;done)
  rename_i i hi
  simp only[aI6]at hr;subst hr
  cases hv with|vw _ _ _ _ c a hb=>exact .vw id lo n sz c a (by rw[<-hE id i hi];exact hb)
 | .agg l,u,v,hv,hr=>by
  simp only[aN2]at hr
  split at hr<;>try(cases hr;done)
  rename_i r hl
  simp only[aI6]at hr;subst hr
  cases hv with|agg vs _ hlen hrr=>have:=bt3 hE ⟨hlen,hrr⟩ hl;exact .agg vs l this.1 this.2
 | .P4 l,u,v,hv,hr=>by
  simp only[aN2]at hr
  split at hr<;>try(cases hr;done)
  rename_i r hl
  simp only[aI6]at hr;subst hr
  cases hv with|P4 vs _ hlen hrr=>have:=bt3 hE ⟨hlen,hrr⟩ hl;exact .P4 vs l this.1 this.2
 | .clo f l,u,v,hv,hr=>by
  simp only[aN2]at hr
  split at hr<;>try(cases hr;done)
  rename_i r hl
  simp only[aI6]at hr;subst hr
  cases hv with|clo _ vs _ hlen hrr=>have:=bt3 hE ⟨hlen,hrr⟩ hl;exact .clo f vs l this.1 this.2
theorem bt3 (hE:∀i j,look h i=some j->E' j=E i):∀{l r:List T}{vs:List Value},RVL w S E' vs r->bT2 h l=some r->RVL w S E vs l
 |[],r,vs,hv,hr=>by simp only[bT2,aI6]at hr;subst hr;exact⟨hv.1,fun j _ h2=>by simp at h2⟩
 |x::l,r,vs,hv,hr=>by
  simp only[bT2]at hr
  split at hr<;>try(cases hr;done)
  rename_i y l' hy hl'
  simp only[aI6]at hr;subst hr
  cases vs with
  |nil=>have:=hv.1;simp at this
  |cons v vs=>
   have h1:=eg5 hE (t:=x) (hv.2 0 (by simp) (by simp)) hy
   have h2:=bt3 hE (l:=l) (vs:=vs) ⟨by simpa using hv.1,fun j a b=>hv.2 (j+1) (by simpa using a) (by simpa using b)⟩ hl'
   refine⟨by simp[h2.1],fun j a b=>?_⟩
   cases j with
   |zero=>exact h1
   |succ j=>exact h2.2 j (by simpa using a) (by simpa using b)
end
def dp0 (hE:∀i j,look h i=some j->E' j=E i){x:Value}{b c:G6}(hb:be0 w S E x b)(hr:bT1 h b=some c):be0 w S E' x c:=by
 cases b with
 |box l=>
  simp only[bT1]at hr
  split at hr<;>try(cases hr;done)
  rename_i r hl
  simp only[aI6]at hr;subst hr
  obtain⟨β,vs,elem,h1,h2,h3,h4,h5⟩:=hb
  have:=cp0 hE (l:=l) (vs:=vs) ⟨h3,h4⟩ hl
  exact⟨β,vs,elem,h1,h2,this.1,this.2,h5⟩
 |rows e sz n rs=>
  simp only[bT1,aI6]at hr;subst hr
  exact hb.mono (fun _ x=>x) (fun _ _=>rfl) (fun _ _=>rfl) (fun _ hid=>by simp[bj4]at hid)
 |mp es=>
  simp only[bT1,aI6]at hr;subst hr
  exact hb.mono (fun _ x=>x) (fun _ _=>rfl) (fun _ _=>rfl) (fun _ hid=>by simp[bj4]at hid)
 |rv y e sz n rs=>
  simp only[bT1,aI6]at hr;subst hr
  exact hb.mono (fun _ x=>x) (fun _ _=>rfl) (fun _ _=>rfl) (fun _ hid=>by simp[bj4]at hid)
def eg4 (hE:∀i j,look h i=some j->E' j=E i){x:Value}{b c:G6}(hb:be0 w S E' x c)(hr:bT1 h b=some c):be0 w S E x b:=by
 cases b with
 |box l=>
  simp only[bT1]at hr
  split at hr<;>try(cases hr;done)
  rename_i r hl
  simp only[aI6]at hr;subst hr
  obtain⟨β,vs,elem,h1,h2,h3,h4,h5⟩:=hb
  have:=bt3 hE (l:=l) (vs:=vs) ⟨h3,h4⟩ hl
  exact⟨β,vs,elem,h1,h2,this.1,this.2,h5⟩
 |rows e sz n rs=>
  simp only[bT1,aI6]at hr;subst hr
  exact hb.mono (fun _ x=>x) (fun _ _=>rfl) (fun _ _=>rfl) (fun _ hid=>by simp[bj4]at hid)
 |mp es=>
  simp only[bT1,aI6]at hr;subst hr
  exact hb.mono (fun _ x=>x) (fun _ _=>rfl) (fun _ _=>rfl) (fun _ hid=>by simp[bj4]at hid)
 |rv y e sz n rs=>
  simp only[bT1,aI6]at hr;subst hr
  exact hb.mono (fun _ x=>x) (fun _ _=>rfl) (fun _ _=>rfl) (fun _ hid=>by simp[bj4]at hid)
end
structure ci6 (w:World)(S:Nat->Prop)(E:Nat->Value)(hp:List (Nat×G6)):Prop where
 blk:∀id b,look hp id=some b->be0 w S E (E id) b
 own:∀id b β,look hp id=some b->S0 (E id)=some β->¬S β/\β<w.heap.size
 au2:∀id id' b b' β,look hp id=some b->look hp id'=some b'->S0 (E id)=some β->S0 (E id')=some β->id=id'
def az7 (hp:List (Nat×G6))(E:Nat->Value)(β:Nat):Prop:=∃id b,look hp id=some b/\S0 (E id)=some β
def bh6 {ρ:Type}(P:Program)(n:FuncId)(args:List T)(hp:List (Nat×G6))(m:Option ρ)(res:ρ->T)(X8:ρ->List (Nat×G6))(d:Bool:=true):Prop:=
 (∀vs w,(callFunc n vs).run P w= .ok (.enter n vs) w)/\
 ∀r,m=some r->∀(w:World) (S:Nat->Prop) (E:Nat->Value) (vs:List Value),GlL P w (az7 hp E)->(∀b,S b->b<w.heap.size)->ci6 w S E hp->RVL w S E vs args->
  Calls P n vs.toArray w fun e w'=>∃v S' E',e= .returned v/\RV w' S' E' v (res r)/\aF1 d (az7 hp E) w w'/\(∀b,S' b->b<w'.heap.size)/\(∀b,S' b->S b\/az7 hp E b\/w.heap.size<=b)/\
   ci6 w' S' E' (X8 r)/\(∀β,az7 (X8 r) E' β->az7 hp E β\/w.heap.size<=β)/\(∀id,big<=id->E' id=E id)
theorem ci6.ok {w:World}{S:Nat->Prop}{E:Nat->Value}{hp:List (Nat×G6)}(h:ci6 w S E hp)(hS:∀b,S b->b<w.heap.size):Ok w ⟨fun _=>True,fun _=>True,E,true⟩ 0 ⟨[],hp⟩ S E ⟨#[],[]⟩ w where
 keep:=aF1.refl _ _
 aH9:=hS
 base:=fun _ _=>.inl trivial
 size:=rfl
 defers:=rfl
 tm:=fun k t ht=>by simp[look]at ht
 hp:=h.blk
 own:=fun id b β hb hβ=>⟨(h.own id b β hb hβ).1,(h.own id b β hb hβ).2,.inr trivial⟩
 au2:=h.au2
 pin:=fun _ _=>rfl
def bh6.toF {d:Bool}{ρ:Type}{P:Program}{n:FuncId}{args:List T}{m:Option ρ}{res res':ρ->T}{X8:ρ->List (Nat×G6)}(h:bh6 P n args [] m res X8 d)(hz:∀r,bb2 (X8 r) (res r)=some (res' r)):aM2 P n args m res' d:=by
 refine⟨h.1,fun r hr w S E vs hgl hS hv=>(h.2 r hr w S E vs (hgl.mono fun β ⟨id,b,hb,_⟩=>by simp[look]at hb) hS ⟨fun id b hb=>by simp[look]at hb,fun id b β hb=>by simp[look]at hb,fun id id' b b' β hb=>by simp[look]at hb⟩ hv).mono fun e w' ⟨v,S',E',he,hv',hk,h1,h2,hO,h3,_⟩=>?_⟩
 have nl:∀β,¬az7 [] E β:=fun β ⟨id,b,hb,_⟩=>by simp[look]at hb
 refine⟨v,fun b=>S' b\/bs5 (X8 r) E' b,he,dl9 (hO.ok h1) (fun _ x=>.inl x) (fun _ x=>.inr x) hv' (hz r) E,⟨hk.os,hk.tape,hk.output,hk.size,fun k hk' _=>hk.block k hk' (nl k),hk.drawn⟩,fun b hb=>?_,fun b hb=>?_⟩
 ·rcases hb with hb|⟨id,_,hl,hβ⟩
  ·grind
  ·exact(hO.own id _ b hl hβ).2
 ·rcases hb with hb|⟨id,_,hl,hβ⟩
  ·grind
  ·rcases h3 b ⟨id,_,hl,hβ⟩with h4|h4
   all_goals grind
end Go.Pv
namespace Go.Pv
open Go.RowKit
def bb8:List Nat->Bool
 |[]=>true
 |x::r=>!(r.any (br8 x))&&bb8 r
def rev:List (Nat×Nat)->Nat->Option Nat
 |[],_=>none
 |(a,b)::r,c=>bif br8 b c then some a else rev r c
theorem any_beq {l:List Nat}{x:Nat}(h:l.any (br8 x)=false):x∉l:=by
 grind [cG4]
theorem bn9 {α:Type}:∀{l:List (Nat×α)}{i:Nat}{x:α},look l i=some x->(i,x)∈l
 |[],i,x,h=>by simp[look]at h
 |(a,b)::r,i,x,h=>by
  simp only[look]at h
  by_cases hi:a=i
  all_goals simp_all[D2,bn9]
theorem bF7:∀{h:List (Nat×Nat)}{i j:Nat},bb8 (h.map (·.2))=true->look h i=some j->rev h j=some i
 |[],i,j,_,hl=>by simp[look]at hl
 |(a,b)::r,i,j,hn,hl=>by
  simp only[cN4,bb8,aK5,bG5]at hn
  simp only[look]at hl
  by_cases hi:a=i
  ·simp_all[rev]
  ·simp only[D2 hi,fk6]at hl
   have hne:b≠j:=fun e=>any_beq hn.1 (e▸cK0.2 ⟨(i,j),bn9 hl,rfl⟩)
   simp only[rev,D2 hne,fk6]
   exact bF7 hn.2 hl
theorem dB1:∀{h:List (Nat×Nat)}{c:Nat},c∉h.map (·.2)->rev h c=none
 |[],c,_=>rfl
 |(a,b)::r,c,hc=>by
  simp only[cN4,ca1,not_or]at hc
  simp only[rev,D2 (Ne.symm hc.1),fk6]
  exact dB1 hc.2
theorem cJ0:∀{h:List (Nat×Nat)}{c a:Nat},rev h c=some a->(a,c)∈h
 |[],c,a,hr=>by simp[rev]at hr
 |(x,y)::r,c,a,hr=>by
  simp only[rev]at hr
  by_cases hy:y=c
  all_goals simp_all[D2,cJ0]
theorem aR9 {α:Type}:∀(l m:List (Nat×α)) (i:Nat),look (l++m) i=match look l i with|some x=>some x|none=>look m i
 |[],m,i=>rfl
 |(a,b)::r,m,i=>by
  simp only[dy7,look]
  by_cases hi:a=i
  all_goals simp_all[D2,aR9]
def nodup_append:∀{l m:List Nat},bb8 (l++m)=true->bb8 l=true/\bb8 m=true/\∀x,x∈l->x∉m
 |[],m,h=>⟨rfl,h,fun x hx=>by simp at hx⟩
 |a::r,m,h=>by
  simp only[dy7,bb8,aK5,bG5,List.any_append,Bool.or_eq_false_iff]at h
  obtain⟨h1,h2,h3⟩:=nodup_append h.2
  refine⟨by grind [bb8],h2,fun x hx=>?_⟩
  rcases ca1.1 hx with rfl|hx
  all_goals grind [any_beq]
def aS4 (h:List (Nat×Nat)):List (Nat×G6)->Option (List (Nat×G6))
 |[]=>some []
 |(i,b)::r=>match look h i,bT1 h b,aS4 h r with|some j,some c,some l=>some ((j,c)::l)|_,_,_=>none
def cT9 (h:List (Nat×Nat)):List (Nat×T)->Option (List (Nat×T))
 |[]=>some []
 |(k,t)::r=>match aN2 h t,cT9 h r with|some u,some l=>some ((k,u)::l)|_,_=>none
def bk2 {h:List (Nat×Nat)}:∀{hp X8:List (Nat×G6)},aS4 h hp=some X8->∀{c:Nat}{b':G6},look X8 c=some b'->∃i b,look hp i=some b/\look h i=some c/\bT1 h b=some b'
 |[],X8,hr,c,b',hl=>by grind [aS4,look]
 |(i,b)::r,X8,hr,c,b',hl=>by
  simp only[aS4]at hr
  split at hr<;>try(cases hr;done)
  rename_i j b1 l hj hb hl'
  simp only[aI6]at hr;subst hr
  simp only[look]at hl
  by_cases hc:j=c
  ·subst hc
   simp only[cG4,fk7,aI6]at hl;subst hl
   exact⟨i,b,by simp[look],hj,hb⟩
  ·simp only[D2 hc,fk6]at hl
   obtain⟨i',b2,h1,h2,h3⟩:=bk2 hl' hl
   refine⟨i',b2,?_,h2,h3⟩
   have hne:i≠i':=by intro e;subst e;rw[hj]at h2;exact hc (ca0 h2)
   simp only[look,D2 hne,fk6]
   exact h1
theorem bk3 {h:List (Nat×Nat)}:∀{hp X8:List (Nat×G6)},aS4 h hp=some X8->∀{i:Nat}{b:G6},look hp i=some b->∃j b',look h i=some j/\bT1 h b=some b'/\(j,b')∈X8
 |[],X8,hr,i,b,hl=>by simp[look]at hl
 |(i0,b0)::r,X8,hr,i,b,hl=>by
  simp only[aS4]at hr
  split at hr<;>try(cases hr;done)
  rename_i j b1 l hj hb hl'
  simp only[aI6]at hr;subst hr
  simp only[look]at hl
  by_cases hi:i0=i
  ·simp_all
  ·simp only[D2 hi,fk6]at hl
   obtain⟨j',b2,h1,h2,h3⟩:=bk3 hl' hl
   exact⟨j',b2,h1,h2,bE0 _ h3⟩
theorem cU0 {h:List (Nat×Nat)}:∀{tm tm':List (Nat×T)},cT9 h tm=some tm'->∀{k:Nat}{u:T},look tm' k=some u->∃t,look tm k=some t/\aN2 h t=some u
 |[],tm',hr,k,u,hl=>by grind [cT9,look]
 |(k0,t0)::r,tm',hr,k,u,hl=>by
  simp only[cT9]at hr
  split at hr<;>try(cases hr;done)
  rename_i u1 l hu hl'
  simp only[aI6]at hr;subst hr
  simp only[look]at hl
  by_cases hk:k0=k
  all_goals simp_all[look,D2,cU0]
def cC9 (h:List (Nat×Nat)):Bool:=bb8 (h.map (·.2))&&h.all (fun p=>bi3 p.2 big||br8 p.1 p.2)
def Ok.ren {w0:World}{L:Lim}{nt:Nat}{tm tm':List (Nat×T)}{hp X8:List (Nat×G6)}{S:Nat->Prop}{E:Nat->Value}{a:Act}{w:World}(k:Ok w0 L nt ⟨tm,hp⟩ S E a w)(h:List (Nat×Nat))(ho:cC9 h=true)
  (ht:cT9 h tm=some tm') (hh:aS4 h hp=some X8):∃E',Ok w0 L nt ⟨tm',X8⟩ S E' a w:=by
 simp only[cC9,aK5,bt1]at ho
 let E':Nat->Value:=fun c=>match rev h c with|some s=>E s|none=>E c
 have hE:∀i j,look h i=some j->E' j=E i:=fun i j hl=>by simp[E',bF7 ho.1 hl]
 refine⟨E',{keep:=k.keep,aH9:=k.aH9,base:=k.base,size:=k.size,defers:=k.defers,tm:=fun n u hl=>?_,hp:=fun c b hl=>?_,own:=fun c b β hl hβ=>?_,au2:=fun c c' b b' β hl hl' hβ hβ'=>?_,pin:=fun id hid=>?_}⟩
 ·obtain⟨t,h1,h2⟩:=cU0 ht hl
  exact cp1 hE (k.tm n t h1) h2
 ·obtain⟨i,b0,h1,h2,h3⟩:=bk2 hh hl
  rw[hE i c h2]
  exact dp0 hE (k.hp i b0 h1) h3
 ·obtain⟨i,b0,h1,h2,h3⟩:=bk2 hh hl
  rw[hE i c h2]at hβ
  exact k.own i b0 β h1 hβ
 ·obtain⟨i,b0,h1,h2,h3⟩:=bk2 hh hl
  obtain⟨i',b0',h1',h2',h3'⟩:=bk2 hh hl'
  rw[hE i c h2]at hβ
  rw[hE i' c' h2']at hβ'
  have:=k.au2 i i' b0 b0' β h1 h1' hβ hβ'
  subst this
  rw[h2]at h2'
  exact ca0 h2'
 ·simp only[E']
  split
  ·rename_i s hs
   have:=ho.2 _ (cJ0 hs)
   simp only[cH4]at this
   rcases this with h1|h1
   ·have:=bd6 h1;omega
   ·have:=bq8 h1;subst this;exact k.pin _ hid
  ·exact k.pin id hid
def bD9 (tm:List (Nat×T))(o:Oper):Option (Nat×List T):=
 match o.op with
 | .call ⟨.value f,args,_⟩=>match val tm f,by8 tm args.toList with
  |some (.fz n aW8),some l=>some (n,l++aW8.map .el)
  |some (.clo n c),some l=>some (n,l++c)
  |_,_=>none
 |_=>none
def dt4 {P:Program}{w0:World}{L:Lim}{nt:Nat}{σ:St}{S:Nat->Prop}{E:Nat->Value}{a:Act}{w:World}(h:Ok w0 L nt σ S E a w){o:Oper}{n:Nat}{l:List T}(ho:bD9 σ.tm o=some (n,l))(hn:∀vs w,(callFunc n vs).run P w= .ok (.enter n vs) w):
  ∃vs:List Value,(execOp a.eval o).run P w= .ok (.enter n vs.toArray) w/\RVL w S E vs l:=by
 obtain⟨dst,op,type,pos,aft,guard⟩:=o
 unfold bD9 at ho
 split at ho<;>try(cases ho;done)
 rename_i f args tys hop
 simp only at hop
 subst hop
 have fin:∀(ps:List Value) (aW8:List T) (l':List T),a.eval f= .func (.func n) #[] ps.toArray->RVL w S E ps aW8->by8 σ.tm args.toList=some l'->l=l'++aW8->
   ∃vs:List Value,(execOp a.eval ⟨dst,.call ⟨.value f,args,tys⟩,type,pos,aft,guard⟩).run P w= .ok (.enter n vs.toArray) w/\RVL w S E vs l:=by
  intro ps aW8 l' hx hps hl e
  subst e
  refine⟨args.toList.map a.eval++ps,?_,(cr0 h _ _ hl).append hps⟩
  simp_all[execOp,resolve,Deferred.ofValue,invoke]
 split at ho<;>try(cases ho;done)
 ·rename_i n' cz8 l' hf hl
  simp only[aI6,ba7]at ho
  obtain⟨rfl,rfl⟩:=ho
  have hfv:=h.val hf
  generalize hx:a.eval f=x at hfv
  cases hfv with
  |fz _ ps _ hpl hp=>
   exact fin ps (cz8.map .el) l' hx ⟨by grind,fun j h1 h2=>by simp only[dc0];exact(hp j h1 (by omega)).rv⟩ hl rfl
 ·rename_i n' c l' hf hl
  simp only[aI6,ba7]at ho
  obtain⟨rfl,rfl⟩:=ho
  have hfv:=h.val hf
  generalize hx:a.eval f=x at hfv
  cases hfv with
  |clo _ ps _ hpl hp=>exact fin ps c l' hx ⟨hpl,hp⟩ hl rfl
def et0 (c:Nat)(l:List (Nat×Nat)):Bool:=l.any fun p=>br8 p.2 c
def aq3 (lm:List (Nat×Nat)):List (Nat×G6)->List (Nat×G6)
 |[]=>[]
 |(i,b)::r=>match et0 i lm with|true=>aq3 lm r|false=>(i,b)::aq3 lm r
def bI7 {lm:List (Nat×Nat)}:∀{hp:List (Nat×G6)}{i:Nat}{b:G6},look (aq3 lm hp) i=some b->look hp i=some b/\i∉lm.map (·.2)
 |[],i,b,h=>by simp[aq3,look]at h
 |(j,c)::r,i,b,h=>by
  simp only[aq3]at h
  cases hm:et0 j lm<;>simp only[hm]at h
  ·simp only[look]at h
   by_cases hj:j=i
   ·subst hj
    simp only[cG4,fk7,aI6]at h;subst h
    refine⟨by simp[look],fun hx=>?_⟩
    obtain⟨p,hp,he⟩:=cK0.1 hx
    unfold et0 at hm
    rw[List.any_eq_false]at hm
    exact hm p hp (by simp[he])
   ·simp only[D2 hj,fk6]at h
    have:=bI7 h
    simp_all[look,D2]
  ·have:=bI7 h
   refine⟨?_,this.2⟩
   by_cases hj:j=i
   all_goals simp_all[et0,look,D2]
def bq0 (lm nm:List (Nat×Nat))(tm:List (Nat×T))(hp:List (Nat×G6)):Bool:=
 bb8 ((lm++nm).map (·.2))&&lm.all (fun p=>dE8 big p.1)&&nm.all (fun p=>bi3 p.2 big&&P1 p.2 tm&&O6 p.2 hp)
def Ok.called {w0:World}{L:Lim}{nt:Nat}{tm:List (Nat×T)}{hp chp bI5 aO7 rhp:List (Nat×G6)}{S S':Nat->Prop}{E E':Nat->Value}{a:Act}{w w':World}(k:Ok w0 L nt ⟨tm,hp⟩ S E a w){lm nm:List (Nat×Nat)}{v:Value}{t u:T}
  (hm:bq0 lm nm tm hp=true) (hr:aS4 lm chp=some aO7) (cn0:aO7.map (bF5 hp)=aO7.map (fun p=>some p.2)) {Ec:Nat->Value} (hEc:∀i j,look lm i=some j->Ec i=E j)
  (hv:RV w' S' E' v t) (aL7:aF1 L.dr (az7 chp Ec) w w') (h1:∀b,S' b->b<w'.heap.size) (h2:∀b,S' b->S b\/az7 chp Ec b\/w.heap.size<=b)
  (hO:ci6 w' S' E' bI5) (h3:∀β,az7 bI5 E' β->az7 chp Ec β\/w.heap.size<=β) (h4:∀id,big<=id->E' id=Ec id)
  (dw6:aN2 (lm++nm) t=some u) (hrhp:aS4 (lm++nm) bI5=some rhp):
  ∃S2 E2,Ok w0 L nt ⟨tm,rhp++aq3 lm hp⟩ S2 E2 a w'/\RV w' S2 E2 v u:=by
 simp only[bq0,aK5,bt1]at hm
 obtain⟨⟨hnd,aO4⟩,hfr⟩:=hm
 rw[eC5]at hnd
 obtain⟨nd1,nd2,ndx⟩:=nodup_append hnd
 have ce9:∀p∈aO7,∃b',look hp p.1=some b'/\cn8 b' p.2=p.2:=by
  intro p X8
  obtain⟨n,hn,rfl⟩:=cW9.1 X8
  have:(aO7.map (bF5 hp))[n]? =(aO7.map (fun p=>some p.2))[n]?:=by rw[cn0]
  grind [bF5]
 have bs2:∀β,az7 chp Ec β->∃i j b',look lm i=some j/\look hp j=some b'/\S0 (E j)=some β:=by
  rintro β ⟨i,b,hb,hβ⟩
  grind [bk3]
 have cn3:∀β,az7 chp Ec β->¬S β/\β<w.heap.size/\(w0.heap.size<=β\/L.bs2 β):=fun β hl=>by
  obtain⟨i,j,b',_,e2,e3⟩:=bs2 β hl
  exact k.own j b' β e2 e3
 have tgt:∀{i j:Nat},look lm i=some j->j∈lm.map (·.2):=fun h=>cK0.2 ⟨_,bn9 h,rfl⟩
 have hS:∀b,S b->w'.heap[b]? =w.heap[b]?:=fun b hb=>aL7.block b (k.aH9 b hb) (fun hl=>(cn3 b hl).1 hb)
 have hsz:=aL7.size
 have hsz0:=k.keep.size
 let E2:Nat->Value:=fun c=>match rev nm c with|some s=>E' s|none=>E c
 have cO5:∀c,c∉nm.map (·.2)->E2 c=E c:=fun c hc=>by simp[E2,dB1 hc]
 have cI4:∀c,c∈nm.map (·.2)->c<big/\P1 c tm=true/\O6 c hp=true:=fun c hc=>by
  obtain⟨p,X8,rfl⟩:=cK0.1 hc
  obtain⟨⟨f1,f2⟩,f3⟩:=by simpa using hfr p X8
  grind
 have hE2:∀i j,look (lm++nm) i=some j->E2 j=E' i:=by
  intro i j hl
  rw[aR9]at hl
  cases hli:look lm i with
  |some j'=>
   simp only[hli,aI6]at hl
   subst hl
   rw[cO5 j' (ndx j' (tgt hli)),h4 i (bd6 (aO4 _ (bn9 hli))),hEc i j' hli]
  |none=>
   simp only[hli]at hl
   simp[E2,bF7 nd2 hl]
 refine⟨fun b=>S b\/S' b,E2,?_,(cp1 hE2 hv dw6).mono (fun _ x=>.inr x) (fun _ _=>rfl) (fun _ _=>rfl)⟩
 have nameTm:∀n x,look tm n=some x->∀id,names id x=true->E2 id=E id:=fun n x hx id hid=>cO5 id fun hc=>by
  have:=bc6 (cI4 id hc).2.1 n x hx;rw[this]at hid;cases hid
 have dR1:∀{c b},look rhp c=some b->∃i b0,look bI5 i=some b0/\look (lm++nm) i=some c/\bT1 (lm++nm) b0=some b:=fun h=>bk2 hrhp h
 have dv9:∀{c b},look (aq3 lm hp) c=some b->look hp c=some b/\c∉lm.map (·.2)/\E2 c=E c:=fun{c b} h=>by
  have:=bI7 h
  exact⟨this.1,this.2,cO5 c fun hc=>(aB0 (cI4 c hc).2.2 c b this.1).1 rfl⟩
 have blkA:∀{c b β},look rhp c=some b->S0 (E2 c)=some β->az7 bI5 E' β/\¬S' β/\β<w'.heap.size:=fun{c b β} h hβ=>by
  obtain⟨i,b0,e1,e2,e3⟩:=dR1 h
  rw[hE2 i c e2]at hβ
  exact⟨⟨i,b0,e1,hβ⟩,hO.own i b0 β e1 hβ⟩
 have dn7:∀{c b β},look hp c=some b->c∉lm.map (·.2)->S0 (E c)=some β->¬az7 chp Ec β:=fun{c b β} h hc hβ hl=>by
  obtain⟨i,j,b',e1,e2,e3⟩:=bs2 β hl
  have:=k.au2 c j b b' β h e2 hβ e3
  subst this
  exact hc (tgt e1)
 exact{
  keep:=k.keep.trans aL7 (fun x hx=>(cn3 x hx).2.2.symm)
  aH9:=fun b hb=>hb.elim (fun h=>dp8 (k.aH9 b h) hsz) (h1 b)
  base:=fun b hb=>by
   rcases hb with hb|hb
   ·exact k.base b hb
   ·rcases h2 b hb with h5|h5|h5
    ·exact k.base b h5
    ·exact .inr ((cn3 b h5).2.2.symm)
    ·exact .inr (.inr (Nat.le_trans hsz0 h5))
  size:=k.size
  defers:=k.defers
  tm:=fun n x hx=>(k.tm n x hx).mono (fun _ x=>.inl x) hS (nameTm n x hx)
  hp:=fun c b hl=>by
   simp only at hl
   rw[aR9]at hl
   cases hA:look rhp c with
   |some b0=>
    simp only[hA,aI6]at hl
    subst hl
    obtain⟨i,b1,e1,e2,e3⟩:=dR1 hA
    rw[hE2 i c e2]
    exact(dp0 hE2 (hO.blk i b1 e1) e3).mono (fun _ x=>.inr x) (fun _ _=>rfl) (fun _ _=>rfl) (fun _ _=>rfl)
   |none=>
    simp only[hA]at hl
    obtain⟨e1,e2,e3⟩:=dv9 hl
    rw[e3]
    exact(k.hp c b e1).mono (fun _ x=>.inl x) hS (fun β hβ=>aL7.block β (k.own c b β e1 hβ).2.1 (dn7 e1 e2 hβ)) fun id hid=>cO5 id fun hc=>by
     have:=(aB0 (cI4 id hc).2.2 c b e1).2;rw[this]at hid;cases hid
  own:=fun c b β hl hβ=>by
   simp only at hl
   rw[aR9]at hl
   cases hA:look rhp c with
   |some b0=>
    obtain⟨e1,e2,e3⟩:=blkA hA hβ
    rcases h3 β e1 with h5|h5
    ·exact⟨fun hx=>hx.elim (cn3 β h5).1 e2,e3,(cn3 β h5).2.2⟩
    ·exact⟨fun hx=>hx.elim (fun h6=>absurd (k.aH9 β h6) (Nat.not_lt.2 h5)) e2,e3,.inl (Nat.le_trans hsz0 h5)⟩
   |none=>
    simp only[hA]at hl
    obtain⟨e1,e2,e3⟩:=dv9 hl
    rw[e3]at hβ
    have:=k.own c b β e1 hβ
    refine⟨fun hx=>hx.elim this.1 fun h6=>?_,dp8 this.2.1 hsz,this.2.2⟩
    rcases h2 β h6 with h7|h7|h7
    ·exact this.1 h7
    ·exact dn7 e1 e2 hβ h7
    ·exact absurd this.2.1 (Nat.not_lt.2 h7)
  au2:=fun c c' b b' β hl hl' hβ hβ'=>by
   simp only at hl hl'
   rw[aR9]at hl hl'
   have dc4:∀{c c' b b'},look rhp c=some b->look (aq3 lm hp) c'=some b'->S0 (E2 c)=some β->S0 (E2 c')=some β->False:=fun{c c' b b'} hA hB q1 q2=>by
    obtain⟨e1,e2,e3⟩:=blkA hA q1
    obtain⟨f1,f2,f3⟩:=dv9 hB
    rw[f3]at q2
    rcases h3 β e1 with h5|h5
    ·exact dn7 f1 f2 q2 h5
    ·exact absurd (k.own c' b' β f1 q2).2.1 (Nat.not_lt.2 h5)
   cases hA:look rhp c with
   |some b0=>
    cases hA':look rhp c' with
    |some b0'=>
     obtain⟨i,b1,e1,e2,e3⟩:=dR1 hA
     obtain⟨i',b1',e1',e2',e3'⟩:=dR1 hA'
     rw[hE2 i c e2]at hβ
     rw[hE2 i' c' e2']at hβ'
     have:=hO.au2 i i' b1 b1' β e1 e1' hβ hβ'
     subst this
     rw[e2]at e2'
     exact ca0 e2'
    |none=>
     simp only[hA']at hl'
     exact(dc4 hA hl' hβ hβ').elim
   |none=>
    simp only[hA]at hl
    cases hA':look rhp c' with
    |some b0'=>exact(dc4 hA' hl hβ' hβ).elim
    |none=>
     simp only[hA']at hl'
     obtain⟨e1,_,e3⟩:=dv9 hl
     obtain⟨e1',_,e3'⟩:=dv9 hl'
     rw[e3]at hβ
     rw[e3']at hβ'
     exact k.au2 c c' b b' β e1 e1' hβ hβ'
  pin:=fun id hid=>by
   rw[cO5 id fun hc=>by have:=(cI4 id hc).1;omega]
   exact k.pin id hid}
section
variable {ρ τ:Type} {X:Cx} {ks:List K} {tm tm':List (Nat × T)} {hp X8:List (Nat × G6)} {m:Option ρ} {Q:ρ -> Exit -> St -> Prop}
def ab8.ren {e':Exit}(h:List (Nat×Nat))(ho:cC9 h=true)(ht:cT9 h tm=some tm')(hh:aS4 h hp=some X8)(k:ab8 X ks e' ⟨tm',X8⟩ m Q):ab8 X ks e' ⟨tm,hp⟩ m Q:=fun r hr a w ⟨S,E,hw⟩=>by
 obtain⟨E',h'⟩:=hw.ren h ho ht hh
 exact k r hr a w ⟨S,E',h'⟩
end
def cC2 {α:Type}:∀{h:List (Nat×α)}{a:Nat}{b:α},bb8 (h.map (·.1))=true->(a,b)∈h->look h a=some b
 |[],a,b,_,hm=>by simp at hm
 |(x,y)::r,a,b,hn,hm=>by
  simp only[cN4,bb8,aK5,bG5]at hn
  rcases ca1.1 hm with h1|h1
  ·simp only[ba7]at h1;obtain⟨rfl,rfl⟩:=h1;simp[look]
  ·have hne:x≠a:=fun e=>any_beq hn.1 (e▸cK0.2 ⟨(a,b),h1,rfl⟩)
   simp only[look,D2 hne,fk6]
   exact cC2 hn.2 h1
def eF7 (C8:Tab)(σ:St)(l:List ResultVar):Option T:=
 match bl8 C8 σ l with
 |some [x]=>some x
 |some l=>some (.P4 l)
 |none=>none
def eF8 {P : Program} {C8 : Tab} (K6 : aW1 P C8) {σ : St} {w0 : World} {L : Lim} {nt : Nat} {S : Nat -> Prop} {E : Nat -> Value} {a : Act} {w : World} (h : Ok w0 L nt σ S E a w) {fn : Func} {t : T}
    (hr : eF7 C8 σ fn.results.toList = some t) : ∃ v, (results fn a.tmps).run P w = .ok v w /\ RV w S E v t := by
  unfold eF7 at hr
  cases hl : bl8 C8 σ fn.results.toList with
  | none => grind
  | some l =>
    obtain ⟨vs, h1, h2⟩ := bK5 K6 h _ _ hl
    have hm : (fn.results.mapM (cg4 a.tmps)).run P w = .ok vs.toArray w := by
      rw [Array.mapM_eq_mapM_toList, Sem.run_map, h1]; rfl
    have bg9 : (results fn a.tmps).run P w = .ok (if h : vs.toArray.size = 1 then vs.toArray[0] else .tuple vs.toArray) w := by
      show (do let vs <- fn.results.mapM (cg4 a.tmps); pure (if h : vs.size = 1 then vs[0] else .tuple vs) : Sem Value).run P w = _
      simp_all
    refine ⟨_, bg9, ?_⟩
    rw [hl] at hr
    have hlen := h2.1
    match l, hr, hlen with
    | [x], hr, hlen =>
      match vs, hlen, h2 with
      | [v], _, h2 =>
        simp only [aI6] at hr
        subst hr
        exact h2.2 0 (ff2) (ff2)
    | [], hr, hlen =>
      simp only [aI6] at hr
      subst hr
      match vs, hlen with
      | [], _ => exact .P4 [] [] rfl fun j h1 => by simp
    | x :: y :: l, hr, hlen =>
      simp only [aI6] at hr
      subst hr
      have hsz : ¬ vs.toArray.size = 1 := by grind
      rw [dif_neg hsz]
      exact .P4 vs _ h2.1 h2.2
def eF6 (nm:List (Nat×Nat))(hp:List (Nat×G6))(p:Nat×G6):Option G6:=
 match rev nm p.1 with
 |some s=>match look hp s with
  |some b=>match bT1 nm b with
   |some c=>some (cn8 c p.2)
   |none=>none
  |none=>none
 |none=>none
def eQ7 (C8:Tab)(σ:St)(rs:List ResultVar)(t:T)(bl:List (Nat×G6)):Prop:=
 ∃(nm:List (Nat×Nat)) (t0 t1:T),(cC9 nm&&bb8 (nm.map (·.1)))=true/\eF7 C8 σ rs=some t0/\aN2 nm t0=some t1/\mrg t1 t=t/\bl.map (eF6 nm σ.hp)=bl.map (fun p=>some p.2)
theorem bh6.intro {d:Bool}{τ:Type}{P:Program}{C8:Tab}(K6:aW1 P C8){n:Nat}{fn:Func}{c:Code}{args:List T}{hp:List (Nat×G6)}{m:Option τ}{res:τ->T}{X8:τ->List (Nat×G6)}(nt:Nat)(rs:List ResultVar)
  (aL6:∀vs w,(callFunc n vs).run P w= .ok (.enter n vs) w) (hf:P.funcs[n]? =some fn) (hb:fn.body=some c) (hnt:fn.ntmps=nt) (hrs:fn.results.toList=rs) (hsz:args.length<=nt)
  (body:∀(w0:World) (L:Lim) (gl:GlL P w0 L.bs2) (_:L.dr=d),E9 ⟨P,C8,K6,w0,L,nt,gl⟩ [.c c] ⟨number 0 args,hp⟩ m (fun r e σ'=>(e= .ret\/e= .normal)/\eQ7 C8 σ' rs (res r) (X8 r))):bh6 P n args hp m res X8 d:=by
 refine⟨aL6,fun r hr w S E vs hgl hS hO hv=>?_⟩
 refine calls_of_wp hf hb ?_
 have h:=body w ⟨az7 hp E,S,E,d⟩ hgl rfl r hr ⟨vs.toArray++fg0 (fn.ntmps-vs.toArray.size) undef,[]⟩ w ⟨S,E,{
  keep:=aF1.refl _ _,aH9:=hS,base:=fun b hb=>.inl hb,size:=by have:=hv.1;simp;omega,defers:=rfl,
  tm:=fun k t ht=>by
   obtain⟨_,hk⟩:=bS6 args 0 k t ht
   simp only[Nat.sub_zero]at hk
   obtain⟨hlt,rfl⟩:=bG6.1 hk
   have hlt':k<vs.length:=by have:=hv.1;omega
   have:=hv.2 k hlt' hlt
   simp_all[Array.getElem?_append]
  hp:=hO.blk
  own:=fun id b β hb hβ=>⟨(hO.own id b β hb hβ).1,(hO.own id b β hb hβ).2,.inr ⟨id,b,hb,hβ⟩⟩
  au2:=hO.au2
  pin:=fun _ _=>rfl}⟩
 refine wp_mono h fun e a' w' ⟨σ',⟨S',E1,hk⟩,he,nm,t0,t1,hok,ht0,ht1,hmr,hbl⟩=>?_
 rw[<-hrs]at ht0
 obtain⟨v,hv1,hv2⟩:=eF8 K6 hk ht0
 simp only[aK5,cC9,bt1]at hok
 obtain⟨⟨hnd,hbg⟩,hkeys⟩:=hok
 let E2:Nat->Value:=fun c=>match rev nm c with|some s=>E1 s|none=>E1 c
 have hE:∀i j,look nm i=some j->E2 j=E1 i:=fun i j hl=>by simp[E2,bF7 hnd hl]
 have ce9:∀id b,look (X8 r) id=some b->∃s b0 c,rev nm id=some s/\look nm s=some id/\look σ'.hp s=some b0/\bT1 nm b0=some c/\cn8 c b=b:=by
  intro id b hl
  obtain⟨n,hn,hx⟩:=cW9.1 (bn9 hl)
  have:((X8 r).map (eF6 nm σ'.hp))[n]? =((X8 r).map (fun p=>some p.2))[n]?:=by rw[hbl]
  rw[dr2,dr2,aX4 hn,hx]at this
  simp only[bN9,aI6]at this
  unfold eF6 at this
  split at this<;>try(cases this;done)
  rename_i s hs
  split at this<;>try(cases this;done)
  rename_i b0 hb0
  split at this<;>try(cases this;done)
  rename_i c hc
  exact⟨s,b0,c,hs,cC2 hkeys (cJ0 hs),hb0,hc,ca0 this⟩
 have fin:a'.defers=[]/\∃v,(results fn a'.tmps).run P w'= .ok v w'/\∃v' S'' E'',Ending.returned v= .returned v'/\RV w' S'' E'' v' (res r)/\aF1 d (az7 hp E) w w'/\(∀b,S'' b->b<w'.heap.size)/\(∀b,S'' b->S b\/az7 hp E b\/w.heap.size<=b)/\
   ci6 w' S'' E'' (X8 r)/\(∀β,az7 (X8 r) E'' β->az7 hp E β\/w.heap.size<=β)/\(∀id,big<=id->E'' id=E id):=by
  refine⟨hk.defers,v,hv1,v,S',E2,rfl,?_,hk.keep,hk.aH9,fun b hb=>hk.base b hb,⟨fun id b hl=>?_,fun id b β hl hβ=>?_,fun id id' b b' β hl hl' hβ hβ'=>?_⟩,fun β hl=>?_,fun id hid=>?_⟩
  ·have:=dK6 (u:=res r) (cp1 hE hv2 ht1)
   rw[hmr]at this
   exact this
  ·obtain⟨s,b0,c,e1,e2,e3,e4,e5⟩:=ce9 id b hl
   have:=dn2 (u:=b) (dp0 hE (hk.hp s b0 e3) e4)
   rw[e5]at this
   rw[hE s id e2]
   exact this
  ·obtain⟨s,b0,c,e1,e2,e3,e4,e5⟩:=ce9 id b hl
   rw[hE s id e2]at hβ
   have:=hk.own s b0 β e3 hβ
   exact⟨this.1,this.2.1⟩
  ·obtain⟨s,b0,c,e1,e2,e3,e4,e5⟩:=ce9 id b hl
   obtain⟨s',b0',c',e1',e2',e3',e4',e5'⟩:=ce9 id' b' hl'
   rw[hE s id e2]at hβ
   rw[hE s' id' e2']at hβ'
   have:=hk.au2 s s' b0 b0' β e3 e3' hβ hβ'
   subst this
   rw[e2]at e2'
   exact ca0 e2'
  ·obtain⟨id,b,hl,hβ⟩:=hl
   obtain⟨s,b0,c,e1,e2,e3,e4,e5⟩:=ce9 id b hl
   rw[hE s id e2]at hβ
   exact(hk.own s b0 β e3 hβ).2.2.symm
  ·simp only[E2]
   split
   ·rename_i s hs
    have:=hbg _ (cJ0 hs)
    simp only[cH4]at this
    rcases this with h1|h1
    ·have:=bd6 h1;omega
    ·have:=bq8 h1;subst this;exact hk.pin _ hid
   ·exact hk.pin id hid
 rcases he with rfl|rfl<;>exact fin
def bK6 (id:Nat):List Nat->T->Option T
 |[],.t (.v (.slice none 0 0))=>some (.own id)
 |i::p,.agg l=>match l[i]?with
  |some x=>match bK6 id p x with
   |some y=>some (.agg (l.set i y))
   |none=>none
  |none=>none
 |i::p,.P4 l=>match l[i]?with
  |some x=>match bK6 id p x with
   |some y=>some (.P4 (l.set i y))
   |none=>none
  |none=>none
 |_,_=>none
def RVL.set {w:World}{S:Nat->Prop}{E:Nat->Value}{vs:List Value}{l:List T}{i:Nat}{y:T}(h:RVL w S E vs l)(hi:i<vs.length)(hy:RV w S E (vs[i]) y):RVL w S E vs (l.set i y):=by
 refine⟨by simp[h.1],fun j h1 h2=>?_⟩
 rw[fb9]
 split
 ·grind
 ·exact h.2 j h1 (by grind)
def bW8 {w:World}{S:Nat->Prop}{E:Nat->Value}{id:Nat}(hE:E id= .slice none 0 0):∀{p:List Nat}{t u:T}{v:Value},RV w S E v t->bK6 id p t=some u->RV w S E v u
 |[],t,u,v,hv,hs=>by
  unfold bK6 at hs
  split at hs<;>try(cases hs;done)
  ·simp only[aI6]at hs;subst hs
   have:=hv.tv
   subst this
   exact .own id _ hE
  all_goals grind
 |i::p,t,u,v,hv,hs=>by
  unfold bK6 at hs
  split at hs
  ·grind
  ·rename_i i' p' l heq
   cases heq
   split at hs<;>try(cases hs;done)
   rename_i x hx
   split at hs<;>try(cases hs;done)
   rename_i y hy
   simp only[aI6]at hs;subst hs
   obtain⟨hi,rfl⟩:=bG6.1 hx
   cases hv with
   |agg vs _ hl hr=>
    have:=RVL.set (w:=w) (S:=S) (E:=E) (vs:=vs) (l:=l) ⟨hl,hr⟩ (by omega) (bW8 hE (hr i (by omega) hi) hy)
    exact .agg vs _ this.1 this.2
  ·rename_i i' p' l heq
   cases heq
   split at hs<;>try(cases hs;done)
   rename_i x hx
   split at hs<;>try(cases hs;done)
   rename_i y hy
   simp only[aI6]at hs;subst hs
   obtain⟨hi,rfl⟩:=bG6.1 hx
   cases hv with
   |P4 vs _ hl hr=>
    have:=RVL.set (w:=w) (S:=S) (E:=E) (vs:=vs) (l:=l) ⟨hl,hr⟩ (by omega) (bW8 hE (hr i (by omega) hi) hy)
    exact .P4 vs _ this.1 this.2
  ·cases hs
theorem Ok.eI9 {w0:World}{L:Lim}{nt:Nat}{tm:List (Nat×T)}{hp:List (Nat×G6)}{S:Nat->Prop}{E:Nat->Value}{a:Act}{w:World}(h:Ok w0 L nt ⟨tm,hp⟩ S E a w){id e sz:Nat}(aO4:bi3 id big=true)(hft:P1 id tm=true)(hfb:O6 id hp=true):
  ∃E',E' id= .slice none 0 0/\Ok w0 L nt ⟨tm,(id,.rows e sz 0 [])::hp⟩ S E' a w:=
 h.cT8 (v:=.slice none 0 0) (v':=.slice none 0 0) (b:=.rows e sz 0 []) aO4 hft hfb (fun β hβ=>by simp[S0]at hβ) (fun i blk β _ h1=>by simp[S0]at h1)
  (aF1.refl _ w) (fun β hβ=>by simp[S0]at hβ) (fun E'=>⟨rfl,.inl ⟨rfl,rfl⟩⟩)
section
variable {ρ τ:Type} {X:Cx} {ks:List K} {tm tm':List (Nat × T)} {hp X8:List (Nat × G6)} {m:Option ρ} {Q:ρ -> Exit -> St -> Prop}
theorem ab8.eI9 {e':Exit}(k id e sz:Nat)(path:List Nat){t u:T}(hk:look tm k=some t)(hu:bK6 id path t=some u)(aO4:bi3 id big=true)(hft:P1 id tm=true)(hfb:O6 id hp=true)
  (h:ab8 X ks e' ⟨(k,u)::tm,(id,.rows e sz 0 [])::hp⟩ m Q):ab8 X ks e' ⟨tm,hp⟩ m Q:=fun r hr a w ⟨S,E,hw⟩=>by
 obtain⟨E',hE,hok⟩:=hw.eI9 (e:=e) (sz:=sz) aO4 hft hfb
 refine h r hr a w ⟨S,E',{hok with tm:=fun j t' ht=>?_}⟩
 simp only[look]at ht
 by_cases hj:k=j
 ·subst hj
  simp only[cG4,fk7,aI6]at ht
  subst ht
  exact bW8 hE (hok.tm k t hk) hu
 ·simp only[D2 hj,fk6]at ht
  exact hok.tm j t' ht
theorem ab8.fo2 {e':Exit}(b id e sz:Nat)(path:List Nat){ts us:List T}(hk:look hp b=some (.box ts))(hu:bK6 id path (.agg ts)=some (.agg us))(aO4:bi3 id big=true)(hft:P1 id tm=true)(hfb:O6 id hp=true)
  (h:ab8 X ks e' ⟨tm,(id,.rows e sz 0 [])::au3 hp b (.box us)⟩ m Q):ab8 X ks e' ⟨tm,hp⟩ m Q:=fun r hr a w ⟨S,E,hw⟩=>by
 obtain⟨E',hE,hok⟩:=hw.eI9 (e:=e) (sz:=sz) aO4 hft hfb
 have hne:id≠b:=fun e=>(aB0 hfb b _ hk).1 e.symm
 have lk:∀i blk,look ((id,G6.rows e sz 0 [])::au3 hp b (.box us)) i=some blk->∃dj4,look ((id,G6.rows e sz 0 [])::hp) i=some dj4/\(blk=dj4\/(i=b/\blk= .box us)):=by
  intro i blk hl
  simp only[look]at hl|-
  by_cases hi:id=i
  ·simp_all
  ·simp only[D2 hi,fk6]at hl|-
   rw[aF0]at hl
   grind
 refine h r hr a w ⟨S,E',{hok with
  hp:=fun i blk hl=>?_
  own:=fun i blk β hl hβ=>by obtain⟨dj4,h0,_⟩:=lk i blk hl;exact hok.own i dj4 β h0 hβ
  au2:=fun i i' blk cD9 β hl hl' hβ hβ'=>by
   obtain⟨dj4,h0,_⟩:=lk i blk hl
   obtain⟨blk0',h0',_⟩:=lk i' cD9 hl'
   exact hok.au2 i i' dj4 blk0' β h0 h0' hβ hβ'}⟩
 obtain⟨dj4,h0,h1⟩:=lk i blk hl
 have hb0:=hok.hp i dj4 h0
 rcases h1 with rfl|⟨rfl,rfl⟩
 ·exact hb0
 ·have:dj4= .box ts:=by
   simp only[look,D2 hne,fk6]at h0
   grind
  subst this
  obtain⟨β,vs,elem,g1,g2,g3,g4,g5⟩:=hb0
  have:=bW8 (w:=w) (S:=S) (p:=path) hE (.agg vs ts g3 g4) hu
  generalize hvs:Value.agg vs.toArray=v at this
  cases this with
  |agg vs' _ k1 k2=>
   simp only[Value.agg.injEq]at hvs
   have:vs=vs':=by grind
   subst this
   exact⟨β,vs,elem,g1,g2,k1,k2,g5⟩
end
mutual
def elT (id:Nat)(c:List Tree):T->T
 | .ptr i off=>bif br8 i id then .el (c.drop off)else .ptr i off
 | .agg l=>.agg (elL id c l)
 | .P4 l=>.P4 (elL id c l)
 | .clo f l=>.clo f (elL id c l)
 |x=>x
def elL (id:Nat)(c:List Tree):List T->List T
 |[]=>[]
 |x::r=>elT id c x::elL id c r
end
def dZ1 (id:Nat)(c:List Tree):List (Nat×T)->List (Nat×T)
 |[]=>[]
 |(k,x)::r=>(k,elT id c x)::dZ1 id c r
def cv5 (id:Nat)(c:List Tree):List (Nat×G6)->List (Nat×G6)
 |[]=>[]
 |(k,.box l)::r=>bif br8 k id then cv5 id c r else(k,.box (elL id c l))::cv5 id c r
 |(k,x)::r=>bif br8 k id then cv5 id c r else(k,x)::cv5 id c r
section
variable {w:World} {S S':Nat -> Prop} {E:Nat -> Value} {id:Nat} {c:List Tree}
mutual
theorem eo6 (hS:∀b,S b->S' b)(hu:∀β off,E id= .pointer (some ⟨β,0,none⟩)->PF w S' (.pointer (some ⟨β,off,none⟩)) (c.drop off)):∀{t:T}{v:Value},RV w S E v t->RV w S' E v (elT id c t)
 | .t x,v,h=>by simp only[elT];exact h.mono hS (fun _ _=>rfl) (fun _ _=>rfl)
 | .el c,v,h=>by simp only[elT];exact h.mono hS (fun _ _=>rfl) (fun _ _=>rfl)
 | .own i,v,h=>by simp only[elT];exact h.mono hS (fun _ _=>rfl) (fun _ _=>rfl)
 | .pe i a b c,v,h=>by simp only[elT];exact h.mono hS (fun _ _=>rfl) (fun _ _=>rfl)
 | .vw i a b c,v,h=>by simp only[elT];exact h.mono hS (fun _ _=>rfl) (fun _ _=>rfl)
 | .fz n c,v,h=>by simp only[elT];exact h.mono hS (fun _ _=>rfl) (fun _ _=>rfl)
 | .any,v,h=>by simp only[elT];exact .any v
 | .ptr i off,v,h=>by
  simp only[elT]
  by_cases hi:i=id
  ·subst hi
   simp only[cG4,fk7]
   cases h with|ptr _ _ β hE=>exact(hu β off hE).rv
  ·simp only[D2 hi,fk6];exact h.mono hS (fun _ _=>rfl) (fun _ _=>rfl)
 | .agg l,v,h=>by
  simp only[elT]
  cases h with|agg vs _ hl hr=>have:=cO7 hS hu (l:=l) (vs:=vs) ⟨hl,hr⟩;exact .agg vs _ this.1 this.2
 | .P4 l,v,h=>by
  simp only[elT]
  cases h with|P4 vs _ hl hr=>have:=cO7 hS hu (l:=l) (vs:=vs) ⟨hl,hr⟩;exact .P4 vs _ this.1 this.2
 | .clo f l,v,h=>by
  simp only[elT]
  cases h with|clo _ vs _ hl hr=>have:=cO7 hS hu (l:=l) (vs:=vs) ⟨hl,hr⟩;exact .clo f vs _ this.1 this.2
theorem cO7 (hS:∀b,S b->S' b)(hu:∀β off,E id= .pointer (some ⟨β,0,none⟩)->PF w S' (.pointer (some ⟨β,off,none⟩)) (c.drop off)):∀{l:List T}{vs:List Value},RVL w S E vs l->RVL w S' E vs (elL id c l)
 |[],vs,h=>⟨h.1,fun j _ h2=>by simp[elL]at h2⟩
 |x::l,vs,h=>by
  cases vs with
  |nil=>have:=h.1;simp at this
  |cons v vs=>
   have h1:=eo6 hS hu (t:=x) (h.2 0 (by simp) (by simp))
   have h2:=cO7 hS hu (l:=l) (vs:=vs) ⟨by simpa using h.1,fun j a b=>h.2 (j+1) (by simpa using a) (by simpa using b)⟩
   refine⟨by simp[elL,h2.1],fun j a b=>?_⟩
   cases j with
   |zero=>exact h1
   |succ j=>exact h2.2 j (by simpa using a) (by simpa[elL]using b)
end
end
theorem dd2 (id:Nat)(c:List Tree):∀(l:List (Nat×T)) (k:Nat),look (dZ1 id c l) k=(look l k).map (elT id c)
 |[],k=>rfl
 |(j,x)::r,k=>by
  simp only[dZ1,look]
  by_cases hj:j=k
  ·subst hj;simp
  ·simp[D2 hj,dd2 id c r k]
def aE8 (id:Nat)(c:List Tree):∀(l:List (Nat×G6)) (k:Nat) (b:G6),look (cv5 id c l) k=some b->k≠id/\∃b0,look l k=some b0/\(match b0 with| .box ts=>b= .box (elL id c ts)|x=>b=x)
 |[],k,b,h=>by simp[cv5,look]at h
 |(j,.box ts)::r,k,b,h=>by
  simp only[cv5]at h
  by_cases hj:j=id
  ·subst hj
   simp only[cG4,fk7]at h
   obtain⟨h1,b0,h2,h3⟩:=aE8 j c r k b h
   simp_all[look,D2,Ne.symm]
  ·simp only[D2 hj,fk6,look]at h
   by_cases hk:j=k
   ·simp_all[look]
   ·simp only[D2 hk,fk6]at h
    obtain⟨h1,b0,h2,h3⟩:=aE8 id c r k b h
    simp_all[look,D2]
 |(j,.rows e sz n rs)::r,k,b,h=>by
  simp only[cv5]at h
  by_cases hj:j=id
  ·subst hj
   simp only[cG4,fk7]at h
   obtain⟨h1,b0,h2,h3⟩:=aE8 j c r k b h
   simp_all[look,D2,Ne.symm]
  ·simp only[D2 hj,fk6,look]at h
   by_cases hk:j=k
   ·subst hk
    simp only[cG4,fk7,aI6]at h
    subst h
    exact⟨hj,.rows e sz n rs,by simp[look],rfl⟩
   ·simp only[D2 hk,fk6]at h
    obtain⟨h1,b0,h2,h3⟩:=aE8 id c r k b h
    simp_all[look,D2]
 |(j,.mp es)::r,k,b,h=>by
  simp only[cv5]at h
  by_cases hj:j=id
  ·subst hj
   simp only[cG4,fk7]at h
   obtain⟨h1,b0,h2,h3⟩:=aE8 j c r k b h
   simp_all[look,D2,Ne.symm]
  ·simp only[D2 hj,fk6,look]at h
   by_cases hk:j=k
   ·subst hk
    simp only[cG4,fk7,aI6]at h
    subst h
    exact⟨hj,.mp es,by simp[look],rfl⟩
   ·simp only[D2 hk,fk6]at h
    obtain⟨h1,b0,h2,h3⟩:=aE8 id c r k b h
    simp_all[look,D2]
 |(j,.rv y e sz n rs)::r,k,b,h=>by
  simp only[cv5]at h
  by_cases hj:j=id
  ·subst hj
   simp only[cG4,fk7]at h
   obtain⟨h1,b0,h2,h3⟩:=aE8 j c r k b h
   simp_all[look,D2,Ne.symm]
  ·simp only[D2 hj,fk6,look]at h
   by_cases hk:j=k
   ·subst hk
    simp only[cG4,fk7,aI6]at h
    subst h
    exact⟨hj,.rv y e sz n rs,by simp[look],rfl⟩
   ·simp only[D2 hk,fk6]at h
    obtain⟨h1,b0,h2,h3⟩:=aE8 id c r k b h
    simp_all[look,D2]
theorem Ok.dI9 {w0:World}{L:Lim}{nt:Nat}{tm:List (Nat×T)}{hp:List (Nat×G6)}{S:Nat->Prop}{E:Nat->Value}{a:Act}{w:World}(hk:Ok w0 L nt ⟨tm,hp⟩ S E a w)(id:Nat){ts:List T}{c:List Tree}(hb:look hp id=some (.box ts))(hc:trees ts=some c):
  ∃S',Ok w0 L nt ⟨dZ1 id c tm,cv5 id c hp⟩ S' E a w:=by
 let S':Nat->Prop:=fun b=>S b\/S0 (E id)=some b
 have hS:∀b,S b->S' b:=fun _ x=>.inl x
 obtain⟨β,vs,elem,hE,hh,hl,hr,h1⟩:=hk.hp id _ hb
 have hβ:S0 (E id)=some β:=by rw[hE];rfl
 have htr:=cq9 hc
 have hlen:ts.length=c.length:=by have:=congrArg List.length htr;grind
 have hu:∀β' off,E id= .pointer (some ⟨β',0,none⟩)->PF w S' (.pointer (some ⟨β',off,none⟩)) (c.drop off):=by
  intro β' off hE'
  rw[hE]at hE'
  cases hE'
  refine⟨β,off,fun j=>vs.getD (off+j) undef,rfl,.inr hβ,fun j hj=>?_,fun j hj=>?_⟩
  ·simp only[en4]at hj
   rw[cell_of_row w β _ _ elem _ hh]
   grind
  ·simp only[en4]at hj
   have h3:off+j<vs.length:=by omega
   have h4:=dn6 (hr (off+j) h3 (by omega))
   have h5:dn5 (ts[off+j]'(by omega))=T.t (c[off+j]'(by omega)):=by
    have h6:(ts.map dn5)[off+j]? =(c.map T.t)[off+j]?:=by rw[htr]
    grind
   rw[h5]at h4
   simp only[cY4,aX4 h3,ep8,eV4]
   exact h4.eP9.mono hS (fun _ _=>rfl)
 refine⟨S',{keep:=hk.keep,size:=hk.size,defers:=hk.defers,pin:=hk.pin,aH9:=fun b hb'=>?_,base:=fun b hb'=>?_,tm:=fun k t ht=>?_,hp:=fun i b hi=>?_,own:=fun i b β' hi hβ'=>?_,au2:=fun i i' b b' β' q1 q2 hβ1 hβ2=>?_}⟩
 ·rcases hb' with h2|h2
  ·exact hk.aH9 b h2
  grind
 ·rcases hb' with h2|h2
  ·exact hk.base b h2
  ·rcases(hk.own id _ b hb h2).2.2 with h3|h3
   all_goals grind
 ·simp only at ht
  rw[dd2]at ht
  cases hl':look tm k with
  |none=>grind
  |some t0=>simp only[hl',bN9,aI6]at ht;subst ht;exact eo6 hS hu (hk.tm k t0 hl')
 ·obtain⟨hne,b0,hb0,hm⟩:=aE8 _ _ _ _ _ hi
  have hk0:=hk.hp i b0 hb0
  cases b0 with
  |box ts'=>
   simp only at hm
   subst hm
   obtain⟨β',vs',elem',g1,g2,g3,g4,g5⟩:=hk0
   have:=cO7 hS hu (l:=ts') (vs:=vs') ⟨g3,g4⟩
   exact⟨β',vs',elem',g1,g2,this.1,this.2,g5⟩
  |rows e' sz' n' rs'=>
   simp only at hm
   subst hm
   exact hk0.mono hS (fun _ _=>rfl) (fun _ _=>rfl) (fun _ _=>rfl)
  |mp es=>
   simp only at hm
   subst hm
   exact hk0.mono hS (fun _ _=>rfl) (fun _ _=>rfl) (fun _ _=>rfl)
  |rv y e sz n rs=>
   simp only at hm
   subst hm
   exact hk0.mono hS (fun _ _=>rfl) (fun _ _=>rfl) (fun _ _=>rfl)
 ·obtain⟨hne,b0,hb0,_⟩:=aE8 _ _ _ _ _ hi
  have:=hk.own i b0 β' hb0 hβ'
  exact⟨fun hx=>hx.elim this.1 (fun hx=>hne (hk.au2 i id b0 _ β' hb0 hb hβ' hx)),this.2⟩
 ·obtain⟨_,d,hd,_⟩:=aE8 _ _ _ _ _ q1
  obtain⟨_,d',hd',_⟩:=aE8 _ _ _ _ _ q2
  exact hk.au2 i i' d d' β' hd hd' hβ1 hβ2
section
variable {ρ τ:Type} {X:Cx} {ks:List K} {tm tm':List (Nat × T)} {hp X8:List (Nat × G6)} {m:Option ρ} {Q:ρ -> Exit -> St -> Prop}
theorem ab8.dI9 {e':Exit}(id:Nat){ts:List T}{c:List Tree}(hb:look hp id=some (.box ts))(hc:trees ts=some c)(h:ab8 X ks e' ⟨dZ1 id c tm,cv5 id c hp⟩ m Q):ab8 X ks e' ⟨tm,hp⟩ m Q:=
 fun r hr a w ⟨S,E,hw⟩=>by
  obtain⟨S',hk⟩:=hw.dI9 id hb hc
  exact h r hr a w ⟨S',E,hk⟩
end
end Go.Pv
namespace Go.Pv
open Go.RowKit
def aY5 {α:Type}(n:Int)(z:α):Option (List α):=if 0<=n/\n<=1073741824 then some (cr7 n.toNat z)else none
def aJ3 {α:Type}(l r:List α):List α:=r.take l.length++l.drop r.length
def ay7 {α:Type}(l:List α)(lo hi:Int):Option (List α):=if 0<=lo/\lo<=hi/\hi<=l.length then some ((l.drop lo.toNat).take (hi.toNat-lo.toNat))else none
def ao3 {α:Type}(l:List α)(i:Int)(y:α):Option (List α):=if 0<=i/\i<l.length then some (l.set i.toNat y)else none
def ex9 {α:Type}{l l':List α}{i:Int}{y:α}(h:ao3 l i y=some l'):E0 l' i=some y:=by
 unfold ao3 at h
 split at h
 ·rename_i hi
  simp only[aI6]at h
  subst h
  simp_all[E0]
 ·cases h
section
variable {P:Program} {w0:World} {L:Lim} {nt:Nat} {tm:List (Nat × T)} {hp:List (Nat × G6)} {S:Nat -> Prop} {E:Nat -> Value} {a:Act} {w:World}
def Ok.make (h:Ok w0 L nt ⟨tm,hp⟩ S E a w){id t e n:Nat}{ti:TI}{c:List Tree}(aO4:bi3 id big=true)(hf:P1 id tm=true)(hb:O6 id hp=true)(ht:P.underlying t=some (.slice e))(hte:bh5 P e ti)(hz:ti.zero.length=ti.size)(bS2:0<ti.size)
  (hc:c=ti.zero.map fun v=>aE3 (.v v)) (cY8:n<=1073741824) (kl kc:IntKind):
  ∃v' w' E',(Instr.makeSlice t (.int kl n) (.int kc n)).run P w= .ok v' w'/\E' id=v'/\Ok w0 L nt ⟨tm,(id,.rows e ti.size n (cr7 n c))::hp⟩ S E' a w':=by
 obtain⟨i,d,hi,hs,_,_,⟨z,hzz,hzc⟩,hby⟩:=hte
 have hcl:c.length=ti.size:=by grind
 have cQ6:(i.bytes:Int)*(n:Int)<=281474976710656:=by
  have:=Nat.mul_le_mul hby cY8
  omega
 have hr:=run_make (P:=P) w t e i z ht hi hzz kl kc n n (by omega) (dj2 _) cQ6 (by omega)
 simp only[eV1]at hr
 have hzs:z.cells.size=ti.size:=by grind
 have dm4:∀k (hk:k<n*i.size),(madeCells z.cells (n*i.size))[k]'(by grind [size_madeCells])=ti.zero[k%ti.size]'(by simp_all[eQ6]):=by
  grind [madeCells]
 obtain⟨E',hE,_,hok⟩:=h.alloc (o:=.cells (madeCells z.cells (n*i.size)) e) (x:=.slice (some ⟨w.heap.size,0,none⟩) n n) (b:=.rows e ti.size n (cr7 n c)) aO4 hf hb rfl (fun E' hE'=>by
  refine⟨by simp,.inr ⟨w.heap.size,n,(madeCells z.cells (n*i.size)).toList,by grind [maxLen],by simp,by rw[heap_alloc_new],?_,by simp,?_,?_⟩⟩
  ·rw[fe1,size_madeCells,hs]
  ·grind
  ·intro i' j hi' hj hb'
   have hi2:i'<n:=by grind
   simp only[fb3]at hj|-
   have hj2:j<ti.size:=by omega
   have hlt:i'*ti.size+j<n*i.size:=by grind [size_madeCells]
   have e1:(madeCells z.cells (n*i.size)).toList[i'*ti.size+j]=ti.zero[j]'(by omega):=by
    grind [es2,ff1,fa1]
   rw[e1]
   have e2:c[j]=aE3 (.v (ti.zero[j]'(by omega))):=by grind
   rw[e2]
   exact bb7 (.v _))
 grind
def Ok.copy (h:Ok w0 L nt ⟨tm,hp⟩ S E a w){id e e' n m t t2 ty:Nat}{ti:TI}{x:Value}{rs r2:List (List Tree)}(hb:look hp id=some (.rows e ti.size n rs))(ht:P.underlying t=some (.slice e'))(hte:bh5 P e' ti)
  (hx:Src w S x m ti.size r2) (h2:∀r∈r2,r.length=ti.size):
  ∃w',(Builtin.copy_ #[t,t2] ty #[E id,x]).run P w= .ok (.int .i64 (min m n:Nat)) w'/\Ok w0 L nt ⟨tm,au3 hp id (.rows e ti.size n (aJ3 rs r2))⟩ S E a w':=by
 obtain⟨hm,ad,c,rfl,cf2⟩:=hx
 obtain⟨hn,aQ8⟩:=h.hp id _ hb
 obtain⟨i,d,hi,hs,_⟩:=hte
 have hcl:(aJ3 rs r2).length=rs.length:=by simp[aJ3];omega
 rcases aQ8 with⟨hE,hr0⟩|⟨β,cap,cs,hcm,hE,hh,hcl2,hcc,hsz,hcr⟩
 ·subst hr0
  simp only[List.length_nil]at hn
  subst hn
  have hf:(Builtin.firstCells i.size 0 (.slice ad m c)).run P w= .ok #[] w:=by cases ad<;>simp[Builtin.firstCells,loadCells,loadCellsFrom]
  have cw0:min m 0=0:=by omega
  refine⟨w,?_,?_⟩
  ·simp_all[Builtin.copy_,run_underlying,Builtin.lenOf,sizeOf,typeInfo,goInt]
  ·refine{h with
    hp:=fun k b hk=>?_
    own:=fun k b β hk hβ=>by
     simp only at hk
     rw[aF0]at hk
     by_cases e:id=k
     ·grind [S0]
     ·simp only[e,if_false]at hk;exact h.own k b β hk hβ
    au2:=fun k k' b b' β hk hk' hβ hβ'=>by
     simp only at hk hk'
     rw[aF0]at hk hk'
     by_cases e:id=k
     ·grind [S0]
     ·by_cases e2:id=k'
      ·grind [S0]
      ·simp only[e,e2,if_false]at hk hk';exact h.au2 k k' b b' β hk hk' hβ hβ'}
   simp only at hk
   rw[aF0]at hk
   by_cases e:id=k
   ·subst e
    simp only[if_true,hb,bN9,aI6]at hk
    subst hk
    exact⟨by simp[aJ3],.inl ⟨hE,by simp[aJ3]⟩⟩
   ·simp only[e,if_false]at hk;exact h.hp k b hk
 ·subst hn
  let q:=min m rs.length
  have hq:q=min m rs.length:=rfl
  have cm9:∃news:List Value,news.length=q*ti.size/\(Builtin.firstCells i.size q (.slice ad m c)).run P w= .ok news.toArray w/\(∀u∈news,u.oneCell'=true)/\
    ∀i j (hi:i<q) (hj:j<ti.size),∃(h1:i*ti.size+j<news.length) (h2:i<r2.length) (h3:j<(r2[i]).length),RT w S (news[i*ti.size+j]) ((r2[i])[j]):=by
   by_cases h0:0<m
   ·obtain⟨y,all,rfl,hal,hac,bj1,har⟩:=cf2 h0
    have hqm:q*ti.size<=m*ti.size:=cC0 _ (by omega)
    refine⟨all.take (q*ti.size),by rw[cZ8,hal];omega,?_,fun u hu=>bj1 u (eN2 hu),fun i' j hi' hj=>?_⟩
    ·have:=run_loadCells_list (P:=P) w y (all.take (q*ti.size)) (fun j u hu=>by
      rw[dJ8]at hu
      split at hu
      ·exact hac j u hu
      ·cases hu)
     rw[cZ8,hal,Nat.min_eq_left hqm]at this
     simp[Builtin.firstCells,hs,this]
    ·have hi2:i'<r2.length:=by omega
     have hrl:=h2 _ (bf3 hi2)
     have hle:(i'+1)*ti.size<=q*ti.size:=cC0 _ hi'
     rw[dN2]at hle
     refine⟨by rw[cZ8,hal];omega,hi2,by rw[hrl];exact hj,?_⟩
     rw[eV5]
     exact har i' j hi2 (by rw[hrl];exact hj) (by rw[hal];omega)
   ·have hm0:m=0:=by omega
    have hq0:q=0:=by omega
    refine⟨[],by rw[hq0];simp,?_,fun u hu=>by simp at hu,fun i' j hi' _=>by omega⟩
    rw[hq0]
    cases ad<;>simp[Builtin.firstCells,loadCells,loadCellsFrom]
  obtain⟨news,hnl,dw4,bj1,hnr⟩:=cm9
  have hqr:q*ti.size<=cap*ti.size:=cC0 _ (by omega)
  have hst:=run_storeCells_at (P:=P) β 0 e news 0 cs.toArray w hh (by simp;rw[hnl,hcl2];exact hqr) bj1
  have bg9:(Builtin.copy_ #[t,t2] ty #[E id,.slice ad m c]).run P w= .ok (.int .i64 (q:Nat)) (w.setRow β (news++cs.drop news.length).toArray):=by
   rw[hE]
   have:Nat.min m rs.length=q:=rfl
   have hst':(storeCells ⟨β,0,none⟩ news).run P w= .ok () (w.setRow β (news++cs.drop news.length).toArray):=by simpa using hst
   simp[Builtin.copy_,run_underlying ht,Builtin.lenOf,sizeOf,typeInfo,hi,this,dw4,goInt,hst']
  refine⟨_,bg9,h.setRow hb (by rw[hE];rfl) hh fun hS bS1=>⟨by rw[hcl],.inr ⟨β,cap,news++cs.drop news.length,hcm,by rw[hcl];exact hE,bS1,by simp;omega,by rw[hcl];exact hcc,?_,?_⟩⟩⟩
  ·intro r hr
   unfold aJ3 at hr
   rcases du0.1 hr with hr|hr
   ·exact h2 r (eN2 hr)
   ·exact hsz r (List.mem_of_mem_drop hr)
  ·intro i' j hi' hj hb'
   have hi2:i'<rs.length:=by rw[<-hcl];exact hi'
   by_cases hiq:i'<q
   ·have hi3:i'<r2.length:=by omega
    have e1:(aJ3 rs r2)[i']=r2[i']:=by
     apply ca0
     rw[<-aX4,<-aX4]
     unfold aJ3
     rw[List.getElem?_append_left (by rw[cZ8];omega),dJ8,if_pos hi2]
    have hj2:j<ti.size:=by have:=h2 _ (bf3 hi3);rw[<-this];rw[e1]at hj;exact hj
    obtain⟨h5,_,h6,h7⟩:=hnr i' j hiq hj2
    simp only[e1]
    rw[dM2 h5]
    exact h7.mono (fun _ x=>x) hS
   ·have hm':m<=i':=by omega
    have e1:(aJ3 rs r2)[i']=rs[i']:=by
     apply ca0
     rw[<-aX4,<-aX4]
     unfold aJ3
     rw[List.getElem?_append_right (by rw[cZ8];omega),cZ8,fj7]
     congr 1
     omega
    have hj1:j<(rs[i']).length:=by rw[e1]at hj;exact hj
    have hle:q*ti.size<=i'*ti.size:=cC0 _ (by omega)
    have hb2:i'*ti.size+j<cs.length:=by simp only[bd4,en4]at hb';omega
    have e2:(news++cs.drop news.length)[i'*ti.size+j]=cs[i'*ti.size+j]:=by
     apply ca0
     rw[<-aX4,<-aX4,List.getElem?_append_right (by omega),fj7]
     congr 1
     omega
    simp only[e1]
    rw[e2]
    exact(hcr i' j hi2 hj1 hb2).mono (fun _ x=>x) hS
end
def cw9 (tm:List (Nat×T))(d:Int):Option Operand->Option Int
 |none=>some d
 |some o=>match val tm o with|some (.t (.v (.int _ i)))=>some i|_=>none
section
variable {ρ α:Type} {X:Cx} {ks:List K} {tm tm':List (Nat × T)} {hp X8:List (Nat × G6)} {m:Option ρ} {Q:ρ -> Exit -> St -> Prop} {all:Array Oper} {o:Oper} {rest:List Oper}
def B9.fh0 {t e d s0:Nat}{z0:List Value}{te:TI}{x:Operand}{ik:IntKind}{n:Int}{enc:α->List Tree}{k:List α->Option ρ}(id:Nat)(z:α)
  (ho:o.op= .makeSlice t x x) (hd:o.dst=some d) (hdn:bi3 d X.nt=true) (hg:ai6 all.toList tm o.guard=some true) (hx:val tm x=some (.t (.v (.int ik n))))
  (hty:look X.C8 t=some ⟨s0,.slice e,z0⟩) (hte:look X.C8 e=some te) (hz:te.zero.length=te.size) (bS2:bi3 0 te.size=true) (ay6:enc z=te.zero.map fun v=>aE3 (.v v)) (aO4:bi3 id big=true) (hft:P1 id tm=true) (hfb:O6 id hp=true)
  (h:∀y,aY5 n z=some y->B9 X all rest ks ⟨(d,.own id)::tm,(id,.rows e te.size y.length (y.map enc))::hp⟩ (k y) Q):
  B9 X all (o::rest) ks ⟨tm,hp⟩ ((aY5 n z).bind k) Q:=fun y hy a w ⟨S,E,hk⟩=>by
 cases hmk:aY5 n z with
 |none=>grind
 |some l=>
  have h0:=hmk
  unfold aY5 at h0
  split at h0<;>try(cases h0;done)
  rename_i hn
  simp only[aI6]at h0
  simp only[hmk,aF2]at hy
  obtain⟨dd,hu,ho2⟩:∃d,X.P.underlying t=some d/\TD.ok X.P (.slice e) d:=by
   obtain⟨i,d,_,_,hu,hdd,_⟩:=X.K6 t _ hty
   grind
  simp only[TD.ok]at ho2
  subst ho2
  obtain⟨j,rfl⟩:∃j:Nat,n=(j:Int):=⟨n.toNat,by omega⟩
  simp only[eV1]at h0
  obtain⟨v',w',E',hr,hE,hok⟩:=hk.make (P:=X.P) (n:=j) (c:=enc z) aO4 hft hfb hu (X.K6 e _ hte) hz (bd6 bS2) ay6 (by omega) ik ik
  refine wpList_step fun K hK=>?_
  rw[T7 hk hg,if_pos rfl]
  unfold Oper.wp
  have aO5:(execOp a.eval o).run X.P w= .ok (.value v') w':=by
   unfold execOp
   simp only[ho,(hk.val hx).tv,bq9,hr,bd5,bB8]
  rw[aO5]
  refine hK _ _ (h l hmk y hy _ _ ⟨S,E',?_⟩)
  rw[hd]
  have e1:l.map enc=cr7 j (enc z):=by rw[<-h0];simp
  have e2:l.length=j:=by grind
  rw[e1,e2]
  exact hok.put (bd6 hdn) (.own id _ hE)
def B9.en1 {t t2 e e' e2 n m2 s0 id:Nat}{z0:List Value}{te:TI}{s x:Operand}{l r:List α}{enc:α->List Tree}{σ₁:St}
  (ho:o.op= .call ⟨.builtin .copy,#[s,x],#[t,t2]⟩) (hg:ai6 all.toList tm o.guard=some true)
  (hty:look X.C8 t=some ⟨s0,.slice e',z0⟩) (hte:look X.C8 e'=some te) (ay6:∀y,(enc y).length=te.size) (bj1:∀y,(enc y).all aQ4=true)
  (hs:val tm s=some (.own id)) (hb:look hp id=some (.rows e te.size n (l.map enc)))
  (hx:val tm x=some (.t (.sl m2 (r.map enc)))\/∃i2,val tm x=some (.own i2)/\look hp i2=some (.rows e2 te.size m2 (r.map enc)))
  (au3:bw8 X.nt o.dst (.t (.v (.int .i64 (min r.length l.length:Nat)))) ⟨tm,au3 hp id (.rows e te.size (aJ3 l r).length ((aJ3 l r).map enc))⟩=some σ₁)
  (h:B9 X all rest ks σ₁ m Q):B9 X all (o::rest) ks ⟨tm,hp⟩ m Q:=fun y hy a w ⟨S,E,hk⟩=>by
 obtain⟨dd,hu,ho2⟩:∃d,X.P.underlying t=some d/\TD.ok X.P (.slice e') d:=by
  obtain⟨i,d,_,_,hu,hdd,_⟩:=X.K6 t _ hty
  grind
 simp only[TD.ok]at ho2
 subst ho2
 have cf2:Src w S (a.eval x) r.length te.size (r.map enc):=by
  rcases hx with hx|⟨i2,hx,hb2⟩
  ·have hv:=hk.val hx
   generalize a.eval x=xv at hv
   cases hv with
   |t hv=>
    have:=cg5 hv (bV4 ay6 r) (bH3 bj1 r)
    have hm:m2=r.length:=by simpa using this.1
    subst hm
    exact⟨by simp,this.2⟩
  ·have hv:=hk.val hx
   have hb:=hk.hp i2 _ hb2
   generalize a.eval x=xv at hv
   cases hv with
   |own _ _ hE=>
    subst hE
    have:=dp6 hb (bH3 bj1 r)
    have hm:m2=r.length:=by simpa using this.1
    subst hm
    exact this
 have hn:n=l.length:=by have:=(hk.hp id _ hb).1;simpa using this
 have hsv:a.eval s=E id:=by
  have hv:=hk.val hs
  generalize a.eval s=sv at hv
  cases hv with|own _ _ hE=>exact hE.symm
 obtain⟨w',hr,hok⟩:=hk.copy (P:=X.P) (ty:=o.type) (t2:=t2) hb hu (X.K6 e' _ hte) cf2 (bV4 ay6 r)
 refine wpList_step fun K hK=>?_
 rw[T7 hk hg,if_pos rfl]
 unfold Oper.wp
 have aO5:(execOp a.eval o).run X.P w= .ok (.value (.int .i64 (min r.length n:Nat))) w':=by
  unfold execOp
  simp only[ho,resolve,invoke,builtin,bq9,bB8,bd5,fa0,cN4,dT4,hsv,hr]
 rw[aO5]
 refine hK _ _ (h y hy _ _ ⟨S,E,?_⟩)
 have hcl:(aJ3 l r).length=l.length:=by simp[aJ3];omega
 have e1:aJ3 (l.map enc) (r.map enc)=(aJ3 l r).map enc:=by simp[aJ3,fd2,List.map_drop]
 rw[e1]at hok
 rw[hcl,<-hn]at au3
 exact bA5 hok (.t (.v _)) au3
def bx4 {P:Program}{w:World}{lo hi:Option Value}{n c:Nat}{l h:Int}(hl:(lo=none/\l=0)\/∃k,lo=some (.int k l))(hh:(hi=none/\h=n)\/∃k,hi=some (.int k h))(h0:0<=l)(h1:l<=h)(h2:h<=c):
  (Instr.sliceBounds true n c lo hi none).run P w= .ok (l.toNat,h.toNat,c) w:=by
 have eh:(h.toNat:Int)=h:=Int.toNat_of_nonneg (by omega)
 rcases hl with⟨rfl,rfl⟩|⟨k,rfl⟩<;>rcases hh with⟨rfl,rfl⟩|⟨k',rfl⟩
 ·rfl
 ·simp[Instr.sliceBounds,run_sliceBound,h1,h2]
 ·simp[Instr.sliceBounds,run_sliceBound,h0,h1]
 ·simp[Instr.sliceBounds,run_sliceBound,h0,h1,h2,eh,(by omega:0<=h)]
def bo0 {w0:World}{L:Lim}{nt:Nat}{S:Nat->Prop}{E:Nat->Value}{a:Act}{w:World}(hk:Ok w0 L nt ⟨tm,hp⟩ S E a w){x:Option Operand}{d i:Int}(h:cw9 tm d x=some i):(x.map a.eval=none/\i=d)\/∃k,x.map a.eval=some (.int k i):=by
 cases x with
 |none=>simp only[cw9,aI6]at h;grind
 |some x=>
  simp only[cw9]at h
  split at h<;>try(cases h;done)
  rename_i k i' hv
  simp only[aI6]at h
  subst h
  exact .inr ⟨k,by simp[(hk.val hv).tv]⟩
def B9.ey4 {t e d n s0:Nat}{z0:List Value}{te:TI}{x:Operand}{lo hi:Option Operand}{l:List α}{a b:Int}{enc:α->List Tree}{k:List α->Option ρ}
  (ho:o.op= .slice t x lo hi none) (hd:o.dst=some d) (hdn:bi3 d X.nt=true) (hg:ai6 all.toList tm o.guard=some true) (hx:val tm x=some (.t (.sl n (l.map enc))))
  (hty:look X.C8 t=some ⟨s0,.slice e,z0⟩) (hte:look X.C8 e=some te) (ay6:∀y,(enc y).length=te.size) (hlo:cw9 tm 0 lo=some a) (hhi:cw9 tm l.length hi=some b)
  (h:∀y,ay7 l a b=some y->B9 X all rest ks ⟨(d,.t (.sl y.length (y.map enc)))::tm,hp⟩ (k y) Q):B9 X all (o::rest) ks ⟨tm,hp⟩ ((ay7 l a b).bind k) Q:=
 B9.one hd hdn hg (fun y=>.t (.sl y.length (y.map enc))) (fun y S E ac w hm hk=>by
  unfold ay7 at hm
  split at hm<;>try(cases hm;done)
  rename_i hb
  simp only[aI6]at hm
  obtain⟨h0,h1,h2⟩:=hb
  obtain⟨i,dd,hi',hs,hu,hdd,_⟩:=X.K6 t _ hty
  simp only[TD.ok]at hdd
  subst hdd
  have hsz:=(X.K6 e _ hte).aG6 w
  have hxv:=hk.val hx
  generalize hxe:ac.eval x=xv at hxv
  cases hxv with
  |t hxt=>
   have hn:n=l.length:=by
    generalize bZ3:l.map enc=rows at hxt
    cases hxt with
    |slE=>simp_all
    |sl=>grind
   have shape:∃ad c,xv= .slice ad n c/\n<=c:=by
    generalize l.map enc=rows at hxt
    cases hxt with
    |slE ad c=>simp
    |sl b o c sz rows vs bF1=>grind
   obtain⟨ad,c,rfl,hnc⟩:=shape
   have hbd:=bx4 (P:=X.P) (w:=w) (n:=n) (c:=c) (bo0 hk hlo) (by rw[hn];exact bo0 hk hhi) h0 h1 (by omega)
   refine⟨_,by
    simp only[execOp,ho,Instr.sliceAt,bq9,run_underlying hu,bd5,Instr.slice,hxe,hbd,hsz,bB8,fh1]
    rfl,?_⟩
   have hyl:y.length=b.toNat-a.toNat:=by grind
   by_cases hz:b.toNat-a.toNat=0
   ·have hy0:y=[]:=eC6 (by omega)
    subst hy0
    rw[hz]
    exact .t (.slE _ _)
   ·have hlt:a.toNat<l.length:=by omega
    generalize bZ3:l.map enc=rows at hxt
    cases hxt with
    |slE=>omega
    |sl bk off _ sz _ vs bF1 hS hszr hc hr=>
     subst bZ3
     have hne:¬c=a.toNat:=by simp at bF1;omega
     simp only[hne,if_false,bN9,addr_add]
     have hszt:sz=te.size:=by
      have hm0:enc (l[a.toNat])∈l.map enc:=cK0.2 ⟨_,bf3 hlt,rfl⟩
      rw[<-hszr _ hm0,ay6]
     subst hszt
     have key:=RT.sl (w:=w) (S:=S) bk (off+a.toNat*te.size) (c-a.toNat) te.size (y.map enc) (fun i j=>vs (a.toNat+i) j) (by simp at bF1;rw[bY6,hyl];omega) hS
      (fun r hr'=>by obtain⟨z,_,rfl⟩:=cK0.1 hr';exact ay6 z)
      (fun i j hi2 hj=>by
       rw[bY6,hyl]at hi2
       have:=hc (a.toNat+i) j (by simp;omega) hj
       rw[eG0]at this
       rw[<-this]
       congr 2
       omega)
      (fun i j hi2 hj=>by
       rw[bY6,hyl]at hi2
       have e1:(y.map enc)[i]'(by rw[bY6,hyl];exact hi2)=(l.map enc)[a.toNat+i]'(by simp;omega):=by
        subst hm
        simp
       have hj':j<((l.map enc)[a.toNat+i]'(by simp;omega)).length:=by rw[<-e1];exact hj
       have:=hr (a.toNat+i) j (by simp;omega) hj'
       simp only[e1]
       exact this)
     rw[bY6,hyl]at key
     rw[hyl]
     exact .t key) h
def B9.ey5 {t e e' d id id' sz n s0:Nat}{z0:List Value}{te:TI}{x:Operand}{hi:Option Operand}{l:List α}{b:Int}{enc:α->List Tree}{k:List α->Option ρ}
  (ho:o.op= .slice t x none hi none) (hd:o.dst=some d) (hdn:bi3 d X.nt=true) (hg:ai6 all.toList tm o.guard=some true) (hx:val tm x=some (.own id)) (hb:look hp id=some (.rows e sz n (l.map enc)))
  (hty:look X.C8 t=some ⟨s0,.slice e',z0⟩) (hte:look X.C8 e'=some te) (hhi:cw9 tm l.length hi=some b)
  (cn0:Sub ⟨tm',X8⟩ ⟨tm,hp⟩) (aO4:bi3 id' big=true) (hft:P1 id' tm'=true) (hfb:O6 id' X8=true) (hfo:O6 id X8=true)
  (h:∀y,ay7 l 0 b=some y->B9 X all rest ks ⟨(d,.own id')::tm',(id',.rows e sz y.length (y.map enc))::X8⟩ (k y) Q):B9 X all (o::rest) ks ⟨tm,hp⟩ ((ay7 l 0 b).bind k) Q:=fun r hr a w ⟨S,E,hk⟩=>by
 cases hm:ay7 l 0 b with
 |none=>grind
 |some y=>
  simp only[hm,aF2]at hr
  have hm0:=hm
  unfold ay7 at hm0
  split at hm0<;>try(cases hm0;done)
  rename_i hbd
  simp only[aI6]at hm0
  obtain⟨h0,h1,h2⟩:=hbd
  have hy:y=l.take b.toNat:=by grind
  have hyl:y.length=b.toNat:=by grind
  obtain⟨i,dd,hi',hs,hu,hdd,_⟩:=X.K6 t _ hty
  simp only[TD.ok]at hdd
  subst hdd
  have hsz:=(X.K6 e' _ hte).aG6 w
  have hbk:=hk.hp id _ hb
  obtain⟨hn,aQ8⟩:=hbk
  have hn':n=l.length:=by grind
  subst hn'
  have hxv:a.eval x=E id:=by
   have hv:=hk.val hx
   generalize a.eval x=sv at hv
   cases hv with|own _ _ hE=>grind
  have hk':=hk.sub cn0
  have fin:∀v',(execOp a.eval o).run X.P w= .ok (.value v') w->(∀β,S0 v'=some β->S0 (E id)=some β)->(∀E',be0 w S E' v' (.rows e sz y.length (y.map enc)))->
    wpList X.P all (after X.P ks (X.post (Q r))) (o::rest) a w:=by
   intro v' aO5 hv' hblk
   obtain⟨E',hE,hok⟩:=hk'.cT8 (v:=E id) (v':=v') (b:=.rows e sz y.length (y.map enc)) aO4 hft hfb (fun β hβ=>hk.own id _ β hb hβ)
    (fun j blk β hj h1 h2=>by
     obtain⟨cD9,hj',_⟩:=bk6 cn0.2 j blk hj
     have:=hk.au2 id j _ cD9 β hb hj' h1 h2
     exact(aB0 hfo j blk hj).1 this.symm) (aF1.refl _ w) (fun β hβ=>⟨(hk.own id _ β hb (hv' β hβ)).2.1,.inl (hv' β hβ)⟩) hblk
   refine wpList_step fun K hK=>?_
   rw[T7 hk hg,if_pos rfl]
   unfold Oper.wp
   rw[aO5]
   refine hK _ _ (h y hm r hr _ _ ⟨S,E',?_⟩)
   rw[hd]
   exact hok.put (bd6 hdn) (.own id' _ hE)
  rcases aQ8 with⟨hE,hr0⟩|⟨β,cap,cs,hcm,hE,hh,hcl,hcc,hszr,hcr⟩
  ·have hl0:l=[]:=by simpa using hr0
   subst hl0
   have hb0:b=0:=by simp at h2;omega
   subst hb0
   have hbd:=bx4 (P:=X.P) (w:=w) (lo:=none) (n:=0) (c:=0) (.inl ⟨rfl,rfl⟩) (bo0 hk hhi) (dj2 0) (dj2 0) (dj2 0)
   have hy0:y=[]:=by simpa using hy
   subst hy0
   refine fin (.slice none 0 0) ?_ (fun β hβ=>by simp[S0]at hβ) (fun E'=>⟨rfl,.inl ⟨rfl,rfl⟩⟩)
   have hbd':(Instr.sliceBounds true 0 0 none (hi.map a.eval) none).run X.P w= .ok (0,0,0) w:=hbd
   simp only[execOp,ho,Instr.sliceAt,bq9,run_underlying hu,bd5,Instr.slice,hxv,hE,fh1,hbd',hsz,bB8]
   rfl
  ·have hbd:=bx4 (P:=X.P) (w:=w) (lo:=none) (n:=l.length) (c:=cap) (.inl ⟨rfl,rfl⟩) (bo0 hk hhi) (dj2 0) h1 (by simp at hcc;omega)
   refine fin (.slice (some ⟨β,0,none⟩) y.length cap) ?_ (fun β' hβ'=>by rw[hE];exact hβ') (fun E'=>⟨by simp,.inr ⟨β,cap,cs,hcm,by simp,hh,hcl,by simp at hcc|-;omega,?_,?_⟩⟩)
   ·simp only[bY6]at hE
    simp only[execOp,ho,Instr.sliceAt,bq9,run_underlying hu,bd5,Instr.slice,hxv,hE,fh1,hbd,hsz,bB8]
    have ez:(0:Int).toNat=0:=rfl
    by_cases hc0:cap=0
    ·simp[hc0,hyl]
    ·simp[hc0,hyl,addr_add]
   ·intro q hq
    exact hszr q (by rw[hy,fd2]at hq;exact eN2 hq)
   ·intro i j hi2 hj hbb
    have hi3:i<(l.map enc).length:=by simp[hy]at hi2|-;omega
    have e1:(y.map enc)[i]=(l.map enc)[i]:=by subst hy;simp
    have hj2:j<((l.map enc)[i]).length:=by rw[<-e1];exact hj
    simp only[e1]
    exact(hcr i j hi3 hj2 hbb).mono (fun _ x=>x) (fun _ _=>rfl)
end
section
variable {ρ α:Type} {X:Cx} {ks:List K} {tm:List (Nat × T)} {hp:List (Nat × G6)} {m:Option ρ} {Q:ρ -> Exit -> St -> Prop} {all:Array Oper} {o:Oper} {rest:List Oper}
def B9.eP3 {t d id sz off e n:Nat}{i:Int}{ti:TI}{p:Operand}{l:List α}{enc:α->List Tree}{y:α}{r:T}(hy:E0 l i=some y)
  (ho:o.op= .load t p) (hd:o.dst=some d) (hdn:bi3 d X.nt=true) (hg:ai6 all.toList tm o.guard=some true) (hp1:val tm p=some (.pe id i.toNat sz off)) (hb:look hp id=some (.rows e sz n (l.map enc)))
  (hti:look X.C8 t=some ti) (hr:bh3 ti.desc.isAgg ti.size ((enc y).map .t) off=some r) (h:B9 X all rest ks ⟨(d,r)::tm,hp⟩ m Q):B9 X all (o::rest) ks ⟨tm,hp⟩ m Q:=
 B9.fg8 (aV0 hy).2.1 ho hd hdn hg hp1 hb hti hr h
def B9.dM9 {t id sz off e n:Nat}{i:Int}{ti:TI}{p x:Operand}{l:List α}{enc:α->List Tree}{y:α}{k:List α->Option ρ}(y':α)(lt:List Tree){vx:T}{cs:List T}(hy:E0 l i=some y)
  (ho:o.op= .store t p x) (hd:o.dst=none) (hg:ai6 all.toList tm o.guard=some true) (hp1:val tm p=some (.pe id i.toNat sz off)) (hb:look hp id=some (.rows e sz n (l.map enc)))
  (hti:look X.C8 t=some ti) (hx:val tm x=some vx) (hc:at7 hp vx=some cs) (hcs:cs.map dn5=lt.map T.t) (hs:br8 lt.length ti.size=true) (hle:dE8 (off+lt.length) sz=true) (ay6:enc y'=bF8 (enc y) off lt)
  (h:∀l',ao3 l i y'=some l'->B9 X all rest ks ⟨tm,au3 hp id (.rows e sz l'.length (l'.map enc))⟩ (k l') Q):B9 X all (o::rest) ks ⟨tm,hp⟩ ((ao3 l i y').bind k) Q:=fun r hr a w ⟨S,E,hk⟩=>by
 have bN5:ao3 l i y'=some (l.set i.toNat y'):=by
  obtain⟨h0,_,hlt⟩:=aV0 hy
  simp_all[ao3]
 rw[bN5]at hr
 simp only[aF2]at hr
 have aQ8:(l.map enc)[i.toNat]? =some (enc y):=by simp_all[aV0]
 have hcl:cs.length=lt.length:=by have:=congrArg List.length hcs;grind
 obtain⟨vs,hvs,hl,hr2,h1⟩:=hk.cells (hk.val hx) hc
 have hn:n=l.length:=by have:=(hk.hp id _ hb).1;grind
 have key:∃w',(Instr.storeAt t (a.eval p) (a.eval x)).run X.P w= .ok () w'/\Ok X.w0 X.L X.nt ⟨tm,au3 hp id (.rows e sz n ((l.map enc).set i.toNat (bF8 (enc y) off lt)))⟩ S E a w':=by
  have hv2:RV w S E (.agg vs.toArray) (.agg (lt.map T.t)):=by
   refine .agg vs _ (by simp;omega) fun j h2 h3=>?_
   grind [dn6]
  have bj1:cG2 hp (lt.map T.t)=true:=by
   have:∀q:List Tree,(∀j (hj:j<q.length),Pv.one hp (T.t (q[j]))=true)->cG2 hp (q.map T.t)=true:=by
    intro q
    induction q with
    |nil=>intro _;rfl
    |cons z q ih=>
     intro hq
     simp only[cN4,cG2,aK5]
     exact⟨hq 0 (by simp),ih fun j hj=>hq (j+1) (by grind)⟩
   refine this lt fun j hj=>?_
   have hv:=hv2
   cases hv with
   |agg _ _ _ hvv=>
    have h2:=hvv j (by omega) (by simpa using hj)
    simp only[dc0]at h2
    have h3:=h1 _ (bf3 (show j<vs.length by omega))
    generalize vs[j]'(by omega)=v at h2 h3
    generalize lt[j]=z at h2|-
    cases z with
    |v q=>have:=h2.tv;subst this;exact h3
    |sl _ _=>rfl
  obtain⟨w',q1,q2⟩:=ef7 (P:=X.P) hk (X.K6 t _ hti) hb (hk.val hp1) aQ8 hv2 (by simp[at7,bj1]) (bq8 hs) (bd6 hle)
  refine⟨w',?_,q2⟩
  have e1:(Value.agg vs.toArray).cells=(a.eval x).cells:=by rw[hvs];rfl
  grind [Instr.storeAt,storeVar]
 obtain⟨w',h2,h3⟩:=key
 refine wpList_step fun K hK=>?_
 rw[T7 hk hg,if_pos rfl]
 unfold Oper.wp
 have aO5:(execOp a.eval o).run X.P w= .ok .skip w':=by
  unfold execOp
  simp only[ho,bq9,h2,bd5,bB8]
 rw[aO5]
 refine hK _ _ (h _ bN5 r hr _ _ ⟨S,E,?_⟩)
 rw[hd,List.map_set,ay6,eh3,<-hn]
 exact h3
end
open Go.RowKit Go.WideShapes Go.ChangeShapes
section
variable {ρ τ:Type} {X:Cx} {ks:List K} {tm tm':List (Nat × T)} {hp X8:List (Nat × G6)} {m:Option ρ} {Q:ρ -> Exit -> St -> Prop} {all:Array Oper} {ops:List Oper}
def B9.via {σ σ':St}(h:∀{ρ:Type}{m:Option ρ}{Q:ρ->Exit->St->Prop}{e:Exit},ab8 X [] e σ' m Q->ab8 X [] e σ m Q)(k:B9 X all ops ks σ' m Q):B9 X all ops ks σ m Q:=fun r hr a w hw=>by
 have:=h (ρ:=Unit) (m:=some ()) (e:=.normal) (Q:=fun _ _ σ''=>σ''=σ') (fun r _ a w hw=>⟨σ',hw,rfl⟩) () rfl a w hw
 obtain⟨σ'',hs,rfl⟩:=this
 exact k r hr a w hs
open Classical in
def B9.dV6 {σ:St}{m₁:Option τ}{t:τ}(hm:m₁=some t)(h:B9 X all ops ks σ (m₁.bind fun t'=>if t'=t then m else none) Q):B9 X all ops ks σ m Q:=by
 subst hm;simpa using h
open Classical in
def B9.ifH {σ₂:τ->St}{t:τ}(h:B9 X all ops ks (σ₂ t) m Q):∀t',B9 X all ops ks (σ₂ t') (if t'=t then m else none) Q:=fun t'=>by
 by_cases e:t'=t
 ·subst e;simpa using h
 ·simp only[e,if_false];exact B9.fail
open Classical in
def B9.ifG {σ₂:τ->St}{t:τ}{m₁:Option τ}(h:B9 X all ops ks (σ₂ t) m Q):∀t',m₁=some t'->B9 X all ops ks (σ₂ t') (if t'=t then m else none) Q:=fun t' _=>B9.ifH h t'
end
def cH1 {P:Program}(w:World)(d:Nat)(t e:TypeId)(a:Option Addr)(l c:Nat)(h:P.underlying t=some (.slice e)):(Op.equalIn (d+1) t (.slice a l c) (.slice none 0 0)).run P w= .ok a.isNone w:=by
 cases a<;>simp[Op.equalIn,run_underlying h]
theorem cZ6 {P:Program}(w:World)(t e:TypeId)(a:Option Addr)(l c:Nat)(h:P.underlying t=some (.slice e)):(Op.equal t (.slice a l c) (.slice none 0 0)).run P w= .ok a.isNone w:=cH1 w _ t e a l c h
theorem dB5 {P:Program}(w:World)(t e:TypeId)(a:Option Addr)(l c:Nat)(h:P.underlying t=some (.slice e)):(binOp .eql t (.slice a l c) (.slice none 0 0)).run P w= .ok (.bool a.isNone) w:=by
 simp_all[binOp,cZ6]
theorem cZ7 {P:Program}(w:World)(t:TypeId)(x y:Operand)(a:Option Addr)(l c:Nat):(eqGuard .eql t x y (.slice a l c) (.slice none 0 0)).run P w= .ok () w:=rfl
section
variable {ρ τ:Type} {X:Cx} {ks:List K} {σ:St} {tm:List (Nat × T)} {hp:List (Nat × G6)} {m m':Option ρ} {Q:ρ -> Exit -> St -> Prop} {all:Array Oper} {rest:List Oper} {o:Oper}
def B9.isNil {t e yt d n s0:Nat}{z0:List Value}{x:Operand}{α:Type}{enc:α->List Tree}{l:List α}(ho:o.op= .binOp .eql t x (.const (.slice none 0 0)) yt)(hd:o.dst=some d)(hdn:bi3 d X.nt=true)(hg:ai6 all.toList tm o.guard=some true)
  (hty:look X.C8 t=some ⟨s0,.slice e,z0⟩) (hx:val tm x=some (.t (.sl n (l.map enc))))
  (h:∀b:Bool,(b=true->l=[])->B9 X all rest ks ⟨(d,.t (.v (.bool b)))::tm,hp⟩ m Q):B9 X all (o::rest) ks ⟨tm,hp⟩ m Q:=fun r hr a w ⟨S,E,hk⟩=>by
 obtain⟨dd,hu,ho2⟩:∃d,X.P.underlying t=some d/\TD.ok X.P (.slice e) d:=by
  obtain⟨i,d,_,_,hu,hdd,_⟩:=X.K6 t _ hty
  grind
 simp only[TD.ok]at ho2
 subst ho2
 have hv:=hk.val hx
 have hs:∃ad c k,a.eval x= .slice ad k c/\(ad=none->l=[]):=by
  generalize a.eval x=v at hv
  cases hv with
  |t hv=>
   generalize hq:l.map enc=q at hv
   cases hv with
   |slE a c=>simp_all
   |sl=>simp
 obtain⟨ad,c,k,hx',hl⟩:=hs
 refine wpList_step fun K hK=>?_
 rw[T7 hk hg,if_pos rfl]
 unfold Oper.wp
 have aO5:(execOp a.eval o).run X.P w= .ok (.value (.bool ad.isNone)) w:=by
  have h1:a.eval (.const (.slice none 0 0))= .slice none 0 0:=rfl
  simp_all[execOp,cZ7,dB5]
 rw[aO5]
 refine hK _ _ (h ad.isNone (fun hb=>hl (by simpa using hb)) r hr _ _ ⟨S,E,?_⟩)
 rw[hd]
 exact hk.put (bd6 hdn) (.t (.v _))
end
section
variable {τ α:Type} {X:Cx} {V0:List (Nat × T)} {hp:List (Nat × G6)} {all:Array Oper} {o:Oper}
end
def aT4 (X:Cx)(ops:Array Oper)(fe:Nat)(le:List Bool)(fuel:Nat)(l:List Bool)(σ σ':St):Prop:=
 ∀(Q:Exit->Act->World->Prop),(∀c a w,¬Q (.panic c) a w)->(∀a w,Sim X.w0 X.L X.nt σ' a w->wpAny X.P .any ops Q fe le.toArray a w)->∀a w,Sim X.w0 X.L X.nt σ a w->wpAny X.P .any ops Q fuel l.toArray a w
def ci2 (X:Cx)(ops:Array Oper)(fe:Nat)(le:List Bool)(fuel:Nat)(l:List Bool)(σ σ':St)(rs:List Nat):Prop:=
 ∀i∈rs,∀(Q:Exit->Act->World->Prop),(∀c a w,¬Q (.panic c) a w)->(∀a w,Sim X.w0 X.L X.nt σ' a w->wpAny X.P .any ops Q fe le.toArray a w)->∀a w,Sim X.w0 X.L X.nt σ a w->wpOp X.P ops Q i (wpAny X.P .any ops Q fuel (l.toArray.setIfInBounds i true)) a w
section
variable {ρ:Type} {X:Cx} {ks:List K} {ops:Array Oper} {fe fuel:Nat} {le l l':List Bool} {σ σ₁ σ':St} {m:Option ρ} {Q:ρ -> Exit -> St -> Prop} {o:Oper}
def aT4.done (hs:Sub σ' σ):aT4 X ops fe le fe le σ σ':=fun _ _ hQ a w hw=>hQ a w (hw.sub hs)
theorem aT4.all (rs:List Nat)(hr:Region.ready .any ops l.toArray=rs)(hne:rs.isEmpty=false)(h:ci2 X ops fe le fuel l σ σ' rs):aT4 X ops fe le (fuel+1) l σ σ':=fun Q hp hQ a w hw=>
 wpAny_all hr (by grind) fun i hi=>h i hi Q hp hQ a w hw
def ci2.nil:ci2 X ops fe le fuel l σ σ' []:=fun _ h=>by cases h
def ci2.cons {i:Nat}{rs:List Nat}(l':List Bool)(ho:ops[i]? =some o)(hl:l.set i true=l')(h₁:B9 X ops [o] [] σ (some ()) (fun _ e σ''=>e= .normal/\Sub σ₁ σ''))(h₂:aT4 X ops fe le fuel l' σ₁ σ')(h₃:ci2 X ops fe le fuel l σ σ' rs):ci2 X ops fe le fuel l σ σ' (i::rs):=fun j hj Q hp hQ a w hw=>by
 rcases ca1.1 hj with rfl|hj
 ·have h:=h₁ () rfl a w hw
  unfold wpOp
  simp only[ho]
  have next:∀a w,wpList X.P ops (after X.P [] (X.post fun e σ''=>e= .normal/\Sub σ₁ σ'')) [] a w->wpAny X.P .any ops Q fuel (l.toArray.setIfInBounds j true) a w:=fun a w ⟨σ'',hs,_,e⟩=>by
   rw[eT3,hl]
   exact h₂ Q hp hQ a w (hs.sub e)
  unfold wpList at h
  split at h
  ·rename_i hg
   rw[if_pos hg]
   rcases h with h|⟨h1,h2⟩
   ·refine .inl ?_
    revert h
    unfold Oper.wp
    generalize(execOp a.eval o).run X.P w=r
    intro h
    cases r with
    |ok n w'=>
     cases n<;>simp only[Oper.upon]at h|-
     all_goals first
      |exact next _ _ h
      |exact Calls.mono h (fun e w'' he=>by cases e<;>first|exact next _ _ he|(obtain⟨_,_,_,_,he,_⟩:=he;cases he)|(obtain⟨_,_,he,_⟩:=he;cases he))
      |exact Rows.mono h (fun _ _ he=>next _ _ he)
      |(obtain⟨_,_,he,_⟩:=h;cases he)
      |exact h
    |halt x w'=>cases x<;>simp only[Oper.upon]at h|- <;>first|exact h|(obtain⟨_,_,he,_⟩:=h;cases he)
   ·obtain⟨_,_,_,_,he,_⟩:=h2;cases he
  grind
 ·exact h₃ j hj Q hp hQ a w hw
def aT4.fj9 {d:Nat}{V:T}{tm:List (Nat×T)}{hp:List (Nat×G6)}(i:Nat)(l':List Bool)(ho:ops[i]? =some o)(hl:l.set i true=l')(hd:o.dst=some d)(hdn:bi3 d X.nt=true)(hg:o.guard=none)
  (hs:Region.noSelect ops=true) (hf:Region.free .any ops l.toArray i=true) (hr:(Region.ready .any ops l.toArray).contains i=true)
  (hx:∀S E a w,Ok X.w0 X.L X.nt ⟨tm,hp⟩ S E a w->∃v,(∀w',(execOp a.eval o).run X.P w'= .ok (.value v) w')/\RV w S E v V) (h:aT4 X ops fe le fuel l' ⟨(d,V)::tm,hp⟩ σ'):
  aT4 X ops fe le (fuel+1) l ⟨tm,hp⟩ σ':=fun Q hpn hQ a w ⟨S,E,hk⟩=>by
 obtain⟨v,hv,hr'⟩:=hx S E a w hk
 refine wpAny_take ho hs hf hr (fun c a w hc=>absurd hc (hpn _ _ _)) (v:=v) (.inl ⟨?_,hv⟩) ?_
 ·grind [Region.wanted]
 ·rw[eT3,hl]
  exact h Q hpn hQ _ _ ⟨S,E,by rw[hd];exact hk.put (bd6 hdn) hr'⟩
def E9.fe7 {id:Nat}(h:Nat)(l lh:List Bool)(σ₁:St)(hmx:X.P.follows .mixedOrders=true)(hQ:∀r c σ,¬Q r (.panic c) σ)(hl:(fg0 ops.size false).toList=l)(hle:dE8 h ops.size=true)
  (hlh:(di4 ops.size).map (fun j=>bi3 j h)=lh) (ht:eA3 ops.toList h=true) (h₁:aT4 X ops (ops.size-h) lh ops.size l σ σ₁) (h₂:B9 X ops (ops.toList.drop h) [] σ₁ m Q):E9 X [.c (.region id ops true)] σ m Q:=fun r hr a w ⟨S,E,hk⟩=>by
 have hle:=bd6 hle
 have aL7:aF1 X.L.dr (fun _=>False) w {w with drawn:=w.drawn+1}:=⟨rfl,rfl,rfl,bO2 _,fun _ _ _=>rfl,fun _=>Nat.le_succ _⟩
 have h3:=h₁ (X.post (Q r)) (fun c a w ⟨σ,_,hq⟩=>hQ r c σ hq) (fun a w hw=>by
  refine ej6 ht (ops.size-h) h lh.toArray a w (bO2 _) (by omega) (by grind) (fun j hj=>?_) (h₂ r hr a w hw)
  rw[<-hlh,eR0]
  simp only[ff9,dr2]
  rw[List.getElem?_range hj]
  simp only[bN9,ep8]
  rw[Bool.eq_iff_iff,decide_eq_true_iff]
  simp) a _ ⟨S,E,hk.grow aL7⟩
 rw[<-hl,Array.toArray_toList]at h3
 exact wp_region_any (id:=id) hmx h3
end
def ltM {α:Type}(g:α->α->Option Int)(x y:α):Bool:=decide ((g x y).getD 0<0)
structure cK2 {α:Type}(g:α->α->Option Int)(l:List α):Prop where
 len:l.length<4611686018427387904
 ans:∀x∈l,∀y∈l,∃c,g x y=some c
 irrefl:∀x∈l,ltM g x x=false
 trans:∀x∈l,∀y∈l,∀z∈l,ltM g x y=true->ltM g y z=true->ltM g x z=true
 ntrans:∀x∈l,∀y∈l,∀z∈l,ltM g x y=false->ltM g y z=false->ltM g x z=false
 tot:∀x∈l,∀y∈l,ltM g x y=false->ltM g y x=false->x=y
open Classical in
def bT9 {α:Type}(g:α->α->Option Int)(l:List α):Option (List α):=if cK2 g l then some (l.mergeSort fun x y=>!ltM g y x)else none
theorem bU0 {α:Type}{g:α->α->Option Int}{l:List α}(h:cK2 g l):bT9 g l=some (l.mergeSort fun x y=>!ltM g y x):=by
 unfold bT9;rw[if_pos h]
open Go.RowKit Go.Sort Go.Shelf Go.Proofs
section
variable {α:Type} [Inhabited α] (enc:α -> List Value) (k:Nat) (w:World) (β m:Nat) (d:Array α) (os:Array Obj)
theorem dp7:(sortWorldK enc k w β 0 m d os).heap.size=w.heap.size+os.size:=by
 simp[sortWorldK,putRowK,putRow,mapBlock,Sort.ahead,grow]
def dC7 (b:Nat)(hb:b<w.heap.size)(hne:b≠β):(sortWorldK enc k w β 0 m d os).heap[b]? =w.heap[b]?:=by
 simp only[sortWorldK,putRowK,putRow,mapBlock,Sort.ahead,grow]
 grind
theorem eZ4 {cs:Array Value}{elem:TypeId}(hh:w.heap[β]? =some (.cells cs elem (0,0))):(sortWorldK enc k w β 0 m d os).heap[β]? =some (.cells (putCells id 0 (flatK enc k d) cs) elem (0,0)):=by
 have hb:β<w.heap.size:=(dq5.1 hh).1
 simp only[sortWorldK,putRowK,putRow,mapBlock,Sort.ahead,grow]
 rw[fd0 (by grind),Array.getElem?_modify,if_pos rfl,hh]
 rfl
def dU8 (L:Nat->Prop)(hL:L β):aF1 true L w (sortWorldK enc k w β 0 m d os)where
 os:=rfl
 tape:=rfl
 output:=rfl
 size:=by rw[dp7];omega
 block:=fun b hb hn=>dC7 enc k w β m d os b hb (fun e=>hn (e▸hL))
 drawn:=fun _=>by simp[sortWorldK,putRowK,putRow,mapBlock,Sort.ahead,grow]
end
def aF1.grown {w w':World}(h:aF1 true (fun _=>False) w w'):∃q os,w'=grow (w.drewN q) os:=by
 refine⟨w'.drawn-w.drawn,w'.heap.extract w.heap.size w'.heap.size,?_⟩
 have hd:=h.drawn rfl
 have hz:=h.size
 obtain⟨heap',tape',drawn',os',out'⟩:=w'
 have e1:=h.os;have e2:=h.tape;have e3:=h.output
 simp only at e1 e2 e3 hd hz
 subst e1 e2 e3
 simp only[grow,World.drewN,World.mk.injEq]
 refine⟨?_,trivial,by omega,trivial,trivial⟩
 apply Array.ext_getElem?
 intro i
 by_cases hi:i<w.heap.size
 ·rw[fd0 hi];exact h.block i hi (fun x=>x)
 grind
def cZ1 {α:Type}{g:α->α->Option Int}(l:List α):(l.attach.mergeSort fun x y=>!ltM g y.1 x.1).map (·.1)=l.mergeSort fun x y=>!ltM g y x:=by
 have:=List.map_mergeSort (r:=fun(x y:{x//x∈l})=>!ltM g y.1 x.1) (s:=fun x y=>!ltM g y x) (f:=fun x=>x.1) (l:=l.attach) (fun a _ b _=>rfl)
 rw[this]
 simp
theorem RTv {w:World}{S:Nat->Prop}{v u:Value}(h:RT w S v (.v u)):v=u:=by cases h;rfl
def cp7 {E : Type} {P : Program} {ρ : Ren} (L : SlLaysF0.n6 P ρ) {enc : E -> List Tree} {k : Nat} (dv2 : E -> List Value) (ay6 : ∀ x, enc x = (dv2 x).map Tree.v) (hk : ∀ x, (dv2 x).length = k) (h1 : ∀ x, ∀ v ∈ dv2 x, v.oneCell' = true)
    (aE : ∀ w, (isAgg (ρ.t 24)).run P w = .ok true w) (zE : ∀ w, (Go.sizeOf (ρ.t 24)).run P w = .ok k w) {e n : Nat} {cs : List (List Tree)} {A : E -> T} (hA : ∀ x, A x = .agg ((enc x).map .t)) (g : E -> E -> Option Int)
    (hg : ∀ x y, aM2 P n ([A x, A y] ++ cs.map T.el) (g x y) (fun r => .t (tI r))) (l : List E) :
    bh6 P (ρ.f 6) [.own 1000000, .fz n cs] [(1000000, .rows e k l.length (l.map enc))] (bT9 g l) (fun _ => .P4 []) (fun r => [(1000000, .rows e k r.length (r.map enc))]) := by
  refine ⟨L.f6.enters rfl, fun r hr w S E vs hgl hS hO hv => ?_⟩
  have hC : cK2 g l := by
    grind [bT9]
  rw [bU0 hC, aI6] at hr
  subst hr
  obtain ⟨v0, v1, rfl⟩ : ∃ v0 v1, vs = [v0, v1] := by
    have := hv.1
    match vs, this with
    | [a, b], _ => simp
  have r0 : RV w S E v0 (.own 1000000) := hv.2 0 (by simp) (by simp)
  have r1 : RV w S E v1 (.fz n cs) := hv.2 1 (by simp) (by simp)
  cases r0 with
  | own _ _ hE =>
  cases r1 with
  | fz _ ps _ hpl hp =>
  have hblk := hO.blk 1000000 (.rows e k l.length (l.map enc)) rfl
  rw [hE] at hblk
  obtain ⟨hn, ⟨hx, cQ7⟩ | ⟨β, cap, vs, hcm, hx, hh, hvl, bF1, hsz, hr⟩⟩ := hblk
  · -- no element
    have hl : l = [] := by grind
    subst hl
    subst hx
    refine (AnyF.slices_SortFunc_none L none 0 (.func (.func n) #[] ps.toArray) w).mono fun e' w' ⟨he, hw⟩ => ?_
    subst hw
    refine ⟨_, S, E, he, .P4 [] [] rfl fun j h1 => by simp, aF1.refl _ _, hS, fun b hb => .inl hb, ?_, fun β hl => .inl ?_, fun _ _ => rfl⟩
    all_goals simp_all
  · have hl0 : l ≠ [] \/ l = [] := by by_cases h : l = [] <;> simp [h]
    simp only [bY6] at hx bF1
    subst hx
    by_cases hl : l = []
    · subst hl
      refine (AnyF.slices_SortFunc_none L (some ⟨β, 0, none⟩) cap (.func (.func n) #[] ps.toArray) w).mono fun e' w' ⟨he, hw⟩ => ?_
      subst hw
      refine ⟨_, S, E, he, .P4 [] [] rfl fun j h1 => by simp at h1, aF1.refl _ _, hS, fun b hb => .inl hb, ?_, fun β hl => .inl ?_, fun _ _ => rfl⟩
      · simpa using hO
      · simpa using hl
    obtain ⟨x0, hx0⟩ := List.exists_mem_of_ne_nil l hl
    haveI : Inhabited {x // x ∈ l} := ⟨⟨x0, hx0⟩⟩
    let bp7 : {x // x ∈ l} -> List Value := fun x => dv2 x.1
    let cf : {x // x ∈ l} -> {x // x ∈ l} -> Int := fun x y => (g x.1 y.1).getD 0
    let d : Array {x // x ∈ l} := l.attach.toArray
    have hds : d.size = l.length := by simp [d]
    have hlt : ∀ x y, ltOf cf x y = ltM g x.1 y.1 := fun x y => rfl
    have hO' : SWO (ltOf cf) := ⟨fun x => hC.irrefl _ x.2, fun x y z => hC.trans _ x.2 _ y.2 _ z.2, fun x y z => hC.ntrans _ x.2 _ y.2 _ z.2⟩
    have hβS : ¬ S β := (hO.own 1000000 (.rows e k l.length (l.map enc)) β rfl (by rw [hE]; rfl)).1
    have hβw : β < w.heap.size := (hO.own 1000000 (.rows e k l.length (l.map enc)) β rfl (by rw [hE]; rfl)).2
    have eg : ∀ args w, (callFunc n args).run P w = .ok (.enter n args) w := (hg x0 x0).1
    have hdget : ∀ i (hi : i < l.length), (d[i]!).1 = l[i] := fun i hi => by
      rw [getElem!_pos d i (by omega)]; simp [d]
    have hcmp : CmpLays P n ps.toArray bp7 k cf β 0 d.size w := by
      intro m os dk hdk x y
      obtain ⟨c, hc⟩ := hC.ans _ x.2 _ y.2
      have hW := dU8 bp7 k w β m dk os (fun b => b = β) rfl
      have hSW : ∀ b, S b -> (sortWorldK bp7 k w β 0 m dk os).heap[b]? = w.heap[b]? := fun b hb => dC7 bp7 k w β m dk os b (hS b hb) (fun e => hβS (e ▸ hb))
      have argA : ∀ z : {x // x ∈ l}, RV (sortWorldK bp7 k w β 0 m dk os) S E (.agg (bp7 z).toArray) (A z.1) := fun z => by
        rw [hA, ay6]
        refine .agg _ _ (by simp [bp7]) fun j h1 h2 => ?_
        simp only [dc0]
        exact .t (.v _)
      have aL6 := (hg x.1 y.1).2 c hc (sortWorldK bp7 k w β 0 m dk os) S E ([.agg (bp7 x).toArray, .agg (bp7 y).toArray] ++ ps) ((hgl.mono fun b (e : b = β) => ⟨1000000, _, rfl, by rw [hE, e]; rfl⟩).keep hW).any (fun b hb => dp8 (hS b hb) hW.size) (by
        refine RVL.append (l := [A x.1, A y.1]) ⟨rfl, fun j h1 h2 => ?_⟩ ⟨by simpa using hpl, fun j h1 h2 => ?_⟩
        · match j, h1, h2 with
          | 0, _, _ => exact argA x
          | 1, _, _ => exact argA y
        · simp only [dc0]
          exact ((hp j h1 (by simpa using h2)).rv (E := E)).mono (fun _ x => x) hSW (fun _ _ => rfl))
      have e1 : (([.agg (bp7 x).toArray, .agg (bp7 y).toArray] : List Value) ++ ps).toArray = #[.agg (bp7 x).toArray, .agg (bp7 y).toArray] ++ ps.toArray := by simp
      rw [e1] at aL6
      refine aL6.mono fun e' w' ⟨v, S', he, hv', aL7, _, _⟩ => ?_
      subst he
      have : v = .int .i64 c := by
        cases hv' with | t h => exact RTv h
      subst this
      exact ⟨by simp [cf, hc], aL7.grown⟩
    have cm8 : ∀ i (hi : i < l.length) j (hj : j < k), ∃ hb : i * k + j < vs.length, vs[i * k + j] = (dv2 l[i])[j]'(by rw [hk]; exact hj) := fun i hi j hj => by
      have h2 : i * k + j < vs.length := by
        have : (i + 1) * k <= cap * k := cC0 _ (by omega)
        rw [dN2] at this; omega
      refine ⟨h2, ?_⟩
      have hlen : j < ((l.map enc)[i]'(by simpa using hi)).length := by simp [ay6, hk]; exact hj
      have := hr i j (by simpa using hi) hlen h2
      have e2 : ((l.map enc)[i]'(by simpa using hi))[j]'hlen = .v ((dv2 l[i])[j]'(by rw [hk]; exact hj)) := by simp [ay6]
      rw [e2] at this
      exact RTv this
    have hH : HoldsK bp7 k w β 0 d := by
      intro t ht
      rw [size_flatK, hds] at ht
      have hk0 : 0 < k := by rcases dU4 k with h | h; · subst h; simp at ht
                             · exact h
      have hi : t / k < l.length := eY1 (by rw [es2]; exact ht)
      have hj : t % k < k := eQ6 _ hk0
      obtain ⟨hb, hc⟩ := cm8 _ hi _ hj
      have et : t / k * k + t % k = t := by rw [es2]; exact fb1 t k
      refine ⟨?_, by simp [World.frozen?, hh]⟩
      rw [cell_of_row w β (0 + t) _ e _ hh, get_flatK _ _ _ t (by rw [hds]; exact ht)]
      have h2 : (bp7 d[t / k]!)[t % k]! = vs[t / k * k + t % k] := by
        rw [hc, getElem!_pos _ _ (by simp only [bp7]; rw [hk]; exact hj)]
        simp only [bp7, hdget _ hi]
      rw [h2, da1]
      simp only [id_eq, ff9]
      rw [aX4 (by omega)]
      congr 2
      exact et.symm
    have hcon := AnyQ.slices_SortFunc_total L k aE zE bp7 (fun x => hk _) (fun x => h1 _) cf hO' n ps.toArray β 0 cap d w eg hcmp hH hβw (by rw [hds]; exact hC.len) (fun x y a b => Subtype.ext (hC.tot _ x.2 _ y.2 a b))
    rw [hds] at hcon
    have hmap := cZ1 (g := g) l
    have hdl : d.toList = l.attach := by simp [d]
    rw [hdl] at hcon
    refine hcon.mono fun e' w' ⟨he, m, os, hw⟩ => ?_
    have hcong : (l.attach.mergeSort fun x y => !ltOf cf y x) = l.attach.mergeSort fun x y => !ltM g y.1 x.1 := rfl
    rw [hcong] at hw
    generalize (l.attach.mergeSort fun x y => !ltM g y.1 x.1) = q at hw hmap
    have hrl : (l.mergeSort fun x y => !ltM g y x).length = l.length := List.length_mergeSort l
    generalize (l.mergeSort fun x y => !ltM g y x) = r at hmap hrl |-
    have hql : q.length = r.length := by rw [<- hmap]; simp
    have de6 : az7 [(1000000, G6.rows e k l.length (l.map enc))] E β := ⟨1000000, _, rfl, by rw [hE]; rfl⟩
    subst hw
    have hqget : ∀ i (hi : i < r.length), (q.toArray[i]!).1 = r[i] := fun i hi => by
      rw [getElem!_pos q.toArray i (by simpa using (by omega : i < q.length))]
      subst hmap
      simp
    refine ⟨.tuple #[], S, E, he, .P4 [] [] rfl fun j h1 => by simp at h1, dU8 bp7 k w β m q.toArray os _ de6, fun b hb => ?_, fun b hb => .inl hb, ⟨fun id b hl => ?_, fun id b β' hl hβ' => ?_, fun id id' b b' β' hl hl' _ _ => ?_⟩, fun β' ⟨id, b, hl, hβ'⟩ => .inl ?_, fun _ _ => rfl⟩
    · rw [dp7]; exact dp8 (hS b hb) (Nat.le_add_right _ _)
    · have : id = 1000000 /\ b = .rows e k r.length (r.map enc) := by
        simp only [look] at hl
        by_cases hid : 1000000 = id
        · subst hid; simp at hl; exact ⟨rfl, hl.symm⟩
        · simp [D2 hid] at hl
      obtain ⟨rfl, rfl⟩ := this
      rw [hE]
      refine ⟨by simp, .inr ⟨β, cap, (putCells id 0 (flatK bp7 k q.toArray) vs.toArray).toList, hcm, by simp [hrl], by rw [eZ4 bp7 k w β m q.toArray os hh], by simp [putCells, hvl], by simpa [hrl] using bF1, ?_, ?_⟩⟩
      · intro x hx
        obtain ⟨y, _, rfl⟩ := cK0.1 hx
        simp [ay6, hk]
      · intro i j hi hj hb
        have hi' : i < r.length := by simpa using hi
        have hj' : j < k := by simpa [ay6, hk] using hj
        have hk0 : 0 < k := by omega
        have ht : i * k + j < r.length * k := by
          have : (i + 1) * k <= r.length * k := cC0 _ (by omega)
          rw [dN2] at this; omega
        have hdiv : (i * k + j) / k = i := by rw [es2, Nat.mul_add_div hk0, Nat.div_eq_of_lt hj', eh1]
        have hmod : (i * k + j) % k = j := by rw [es2, ff1, fa1 hj']
        have e1 : (putCells id 0 (flatK bp7 k q.toArray) vs.toArray).toList[i * k + j] = (dv2 r[i])[j]'(by rw [hk]; exact hj') := by
          simp only [Array.getElem_toList]
          simp only [putCells, Array.getElem_mapIdx, Nat.zero_le, true_and, da1, Nat.sub_zero, size_flatK, eV8, id_eq]
          rw [if_pos (by rw [hql]; exact ht), get_flatK _ _ _ _ (by simp only [eV8]; rw [hql]; exact ht), hdiv, hmod, getElem!_pos _ _ (by simp only [bp7]; rw [hk]; exact hj')]
          simp only [bp7, hqget i hi']
        rw [e1]
        have e2 : ((r.map enc)[i]'hi)[j]'hj = .v ((dv2 r[i])[j]'(by rw [hk]; exact hj')) := by simp [ay6]
        rw [e2]
        exact .v _
    · have : id = 1000000 := by
        simp only [look] at hl
        by_cases hid : 1000000 = id
        · exact hid.symm
        · simp [D2 hid] at hl
      subst this
      have : β' = β := by rw [hE] at hβ'; simpa [S0] using hβ'.symm
      subst this
      exact ⟨hβS, by rw [dp7]; omega⟩
    · simp only [look] at hl hl'
      by_cases hid : 1000000 = id
      · by_cases dw2 : 1000000 = id'
        · exact hid.symm.trans dw2
        · simp [D2 dw2] at hl'
      · simp [D2 hid] at hl
    · have : id = 1000000 := by
        simp only [look] at hl
        by_cases hid : 1000000 = id
        · exact hid.symm
        · simp [D2 hid] at hl
      subst this
      exact ⟨1000000, _, rfl, hβ'⟩
section
variable {X:Cx} {ops:Array Oper} {fe fuel:Nat} {le l l':List Bool} {σ':St} {o:Oper} {α:Type}
end
def U3 (k:IntKind)(x y:Int):Int:=k.wrap (BitVec.ofInt k.bits x&&&BitVec.ofInt k.bits y).toNat
def R9 (k:IntKind)(x y:Int):Int:=k.wrap (BitVec.ofInt k.bits x|||BitVec.ofInt k.bits y).toNat
def dG7 (k:IntKind)(x y:Int):Int:=k.wrap (BitVec.ofInt k.bits x^^^BitVec.ofInt k.bits y).toNat
def aP1 (k:IntKind)(x y:Int):Int:=k.wrap (BitVec.ofInt k.bits x&&& ~~~(BitVec.ofInt k.bits y)).toNat
def el4 (k:IntKind)(x y:Int):Int:=k.wrap (x*2^(min y.toNat k.bits))
def G3 (k:IntKind)(x y:Int):Int:=x.fdiv (2^(min y.toNat k.bits))
abbrev aw2 {α:Type}(l:List α)(m:List (Nat×α)):List α:=m.foldl (fun l p=>l.set p.1 p.2) l
def cl6 (lo hi:Int)(n:Nat):Option Unit:=if 0<=lo/\lo<=hi/\hi<=n then some ()else none
def au8 {α:Type}(l:List α)(lo:Nat)(r:List α):List α:=l.take lo++r++l.drop (lo+r.length)
abbrev en2 {α:Type}(l:List α)(lo hi lo2 hi2:Int):List α:=au8 l lo.toNat (((l.drop lo2.toNat).take (hi2.toNat-lo2.toNat)).take (hi.toNat-lo.toNat))
abbrev bV6 {α:Type}(l:List α)(lo hi:Int)(z:α):List α:=au8 l lo.toNat (cr7 (hi.toNat-lo.toNat) z)
def ey3 (k:IntKind)(x y:Int):Option Int:=if y<0 then none else some (el4 k x y)
def eL2 (k:IntKind)(x y:Int):Option Int:=if y<0 then none else some (G3 k x y)
def cw3 (x:Int):Option Int:=if 0<=x/\x<=18446744073709551615 then some (Lib.bitLen x.toNat:Int)else none
def cw6 (x y:Int):Option (Int×Int):=if(0<=x/\x<=18446744073709551615)/\(0<=y/\y<=18446744073709551615)then some (x*y/18446744073709551616,x*y%18446744073709551616)else none
theorem eH4 {x:Int}(h0:0<=x)(h1:x<=4611686018427387904):j5 (G3 .u64 (ba6.wrap (j5 x)) 1)=x/2:=by
 rw[j4 (n:=x) (by omega) (by omega)]
 have e:ba6.wrap x=x:=by
  unfold IntKind.wrap
  simp only[eR9,IntKind.signed]
  grind
 rw[e]
 have e2:G3 .u64 x 1=x/2:=by
  unfold G3
  show x.fdiv 2=x/2
  grind
 grind [j4]
def cW6 {α:Type}(n:Int)(z:α):Option (List α):=if 0<n/\n<=1073741824 then some (cr7 n.toNat z)else none
def bT8 (l:List Int):Option (List Int):=if l.length<4611686018427387904 then some (l.mergeSort fun x y=>decide (x<=y))else none
def cA1 (p:Int):List Int->List Int
 |[]=>[]
 |y::l=>bif y==p then cA1 y l else y::cA1 y l
def bE1:List Int->List Int
 |[]=>[]
 |x::l=>x::cA1 x l
def bn1 (l:List Int):Option (List Int):=if l.length<=9223372036854775807 then some (bE1 l)else none
theorem cy4 {l:List Int}(h:l.length<4611686018427387904):bT8 l=some (l.mergeSort fun x y=>decide (x<=y)):=by
 unfold bT8;rw[if_pos h]
theorem cA2 {l:List Int}(h:l.length<=9223372036854775807):bn1 l=some (bE1 l):=by
 unfold bn1;rw[if_pos h]
theorem cN9 (x:Int):∀(l:List Int) (p:Int),cA1 p (l++[x])=cA1 p l++(if x=l.getLastD p then []else [x])
 |[],p=>by
  show(bif x==p then []else [x])=[]++(if x=p then []else [x])
  simp
 |y::l,p=>by
  simp only[dy7,cA1,List.getLastD_cons]
  rw[cN9 x l y]
  cases y==p<;>rfl
theorem dH7 (x:Int):∀(l:List Int) (h:l≠[]),bE1 (l++[x])=bE1 l++(if x=l.getLast h then []else [x])
 |[],h=>(h rfl).elim
 |y::l,_=>by
  have e:(y::l).getLast (List.cons_ne_nil y l)=l.getLastD y:=by
   grind
  grind [bE1,cN9]
open Go.RowKit Go.Shelf Go.Proofs
def RVL.ff3 {w:World}{S:Nat->Prop}{E:Nat->Value}{vs:List Value}{a:Value}(h:RVL w S E vs [.t (.v a)]):vs=[a]:=by
 match vs,h with
 |[x],h=>have e:x=a:=RV.tv (h.2 0 (by simp) (by simp));rw[e]
 |[],h=>exact absurd h.1 (by simp)
 |_::_::_,h=>exact absurd h.1 (by simp)
def RVL.eU9 {w:World}{S:Nat->Prop}{E:Nat->Value}{vs:List Value}{a b:Value}(h:RVL w S E vs [.t (.v a),.t (.v b)]):vs=[a,b]:=by
 match vs,h with
 |[x,y],h=>have e:x=a:=RV.tv (h.2 0 (by simp) (by simp));have f:y=b:=RV.tv (h.2 1 (by simp) (by simp));rw[e,f]
 |[],h=>exact absurd h.1 (by simp)
 |[_],h=>exact absurd h.1 (by simp)
 |_::_::_::_,h=>exact absurd h.1 (by simp)
def eb3 {P:Program}{ρ:Ren}(L:Lays.n129 P ρ)(hc:∀vs w,(callFunc (ρ.f 129) vs).run P w= .ok (.enter (ρ.f 129) vs) w)(x:Int):
  aM2 P (ρ.f 129) [.t (tK .u64 x)] (cw3 x) (fun r=>.t (tI r)):=by
 refine⟨hc,fun r hr w S E vs hgl hS hv=>?_⟩
 obtain rfl:=hv.ff3
 unfold cw3 at hr
 by_cases h:0<=x/\x<=18446744073709551615
 ·rw[if_pos h]at hr;cases hr
  refine(Any.bits_Len64 L x w h.1 h.2).mono fun e w' ⟨he,hw⟩=>?_
  subst hw
  exact⟨_,S,he,.t (.v _),.refl _ _,hS,fun b hb=>.inl hb⟩
 grind
def ec5 {P:Program}{ρ:Ren}(L:Lays.n264 P ρ)(hc:∀vs w,(callFunc (ρ.f 264) vs).run P w= .ok (.enter (ρ.f 264) vs) w)(x y:Int):
  aM2 P (ρ.f 264) [.t (tK .u64 x),.t (tK .u64 y)] (cw6 x y) (fun r=>.P4 [.t (tK .u64 r.1),.t (tK .u64 r.2)]):=by
 refine⟨hc,fun r hr w S E vs hgl hS hv=>?_⟩
 obtain rfl:=hv.eU9
 unfold cw6 at hr
 by_cases h:(0<=x/\x<=18446744073709551615)/\(0<=y/\y<=18446744073709551615)
 ·rw[if_pos h]at hr;cases hr
  obtain⟨a,rfl⟩:∃a:Nat,x=a:=⟨x.toNat,by omega⟩
  obtain⟨b,rfl⟩:∃b:Nat,y=b:=⟨y.toNat,by omega⟩
  refine(Any.bits_Mul64 L a b (by omega) (by omega) w).mono fun e w' ⟨he,hw⟩=>?_
  subst hw
  refine⟨_,S,he,.P4 [_,_] _ rfl fun j h1 h2=>?_,.refl _ _,hS,fun b hb=>.inl hb⟩
  match j,h1 with
  |0,_=>exact .t (.v _)
  |1,_=>exact .t (.v _)
 grind
section
variable {ρ:Type} {X:Cx} {ks:List K} {tm V0:List (Nat × T)} {hp:List (Nat × G6)} {Q:ρ -> Exit -> St -> Prop} {all:Array Oper} {o:Oper} {rest:List Oper}
end
def cv0 {lo hi:Int}{n:Nat}{y:Unit}(h:cl6 lo hi n=some y):lo.toNat+(hi.toNat-lo.toNat)<=n:=by
 grind [cl6]
def bB2 {α:Type}{l r:List α}{lo:Nat}(h:lo+r.length<=l.length):(au8 l lo r).length=l.length:=by
 grind [au8]
def cO1 {α:Type}{l r:List α}{lo:Nat}(h:lo+r.length<=l.length)(i:Nat):(au8 l lo r)[i]? =if i<lo then l[i]?else if i<lo+r.length then r[i-lo]?else l[i]?:=by
 unfold au8
 grind
section
variable {P:Program} {w0:World} {L:Lim} {nt:Nat} {tm:List (Nat × T)} {hp:List (Nat × G6)} {S:Nat -> Prop} {E:Nat -> Value} {a:Act} {w:World}
def Ok.putAt (h:Ok w0 L nt ⟨tm,hp⟩ S E a w){id e sz n m cap β lo:Nat}{rs r2:List (List Tree)}{news:List Value}(hb:look hp id=some (.rows e sz n rs))(hE:E id= .slice (some ⟨β,0,none⟩) m cap)
  (hlo:lo+r2.length<=rs.length) (hnl:news.length=r2.length*sz) (bj1:∀u∈news,u.oneCell'=true) (h2:∀r∈r2,r.length=sz)
  (hnr:∀i j (hi:i<r2.length) (hj:j<(r2[i]).length) (hb:i*sz+j<news.length),RT w S (news[i*sz+j]) ((r2[i])[j])):
  ∃w',(storeCells ⟨β,lo*sz,none⟩ news).run P w= .ok () w'/\Ok w0 L nt ⟨tm,au3 hp id (.rows e sz n (au8 rs lo r2))⟩ S E a w':=by
 obtain⟨hn,aQ8⟩:=h.hp id _ hb
 have hcl:=bB2 hlo
 rcases aQ8 with⟨hE',_⟩|⟨β',dH4,cs,hcm,hE',hh,hcl2,hcc,hsz,hcr⟩
 ·grind
 ·rw[hE']at hE
  have hβ:β'=β:=by grind
  subst hβ
  have hle1:(lo+r2.length)*sz<=dH4*sz:=cC0 _ (by omega)
  rw[eG0]at hle1
  have hst:=run_storeCells_at (P:=P) β' (lo*sz) e news 0 cs.toArray w hh (by grind) bj1
  simp only[eh1]at hst
  refine⟨_,hst,h.setRow hb (by rw[hE'];rfl) hh fun hS bS1=>⟨by omega,.inr ⟨β',dH4,cs.take (lo*sz)++news++cs.drop (lo*sz+news.length),hcm,by grind,bS1,?_,by omega,?_,?_⟩⟩⟩
  ·grind
  ·grind [au8]
  ·intro i j hi hj hb'
   have hi2:i<rs.length:=by rw[<-hcl];exact hi
   have hg:=cO1 hlo i
   rw[aX4 hi]at hg
   have hcat:∀k,(cs.take (lo*sz)++news++cs.drop (lo*sz+news.length))[k]? =if k<lo*sz then cs[k]?else if k<lo*sz+news.length then news[k-lo*sz]?else cs[k]?:=fun k=>cO1 (l:=cs) (r:=news) (lo:=lo*sz) (by omega) k
   by_cases h1:i<lo
   ·rw[if_pos h1,aX4 hi2]at hg
    have eg:=ca0 hg
    have hj1:j<(rs[i]).length:=by rw[<-eg];exact hj
    have hjs:j<sz:=by rw[<-hsz _ (bf3 hi2)];exact hj1
    have hlt:i*sz+j<lo*sz:=by
     have:(i+1)*sz<=lo*sz:=cC0 _ h1
     rw[dN2]at this;omega
    have hb2:i*sz+j<cs.length:=by omega
    have ec:(cs.take (lo*sz)++news++cs.drop (lo*sz+news.length))[i*sz+j]=cs[i*sz+j]:=by
     apply ca0
     rw[<-aX4,hcat,if_pos hlt,aX4 hb2]
    simp only[eg]
    rw[ec]
    exact(hcr i j hi2 hj1 hb2).mono (fun _ x=>x) hS
   ·rw[if_neg h1]at hg
    by_cases h3:i<lo+r2.length
    ·rw[if_pos h3,aX4 (by omega)]at hg
     have eg:=ca0 hg
     have hj1:j<(r2[i-lo]'(by omega)).length:=by rw[<-eg];exact hj
     have hjs:j<sz:=by rw[<-h2 _ (bf3 (by omega:i-lo<r2.length))];exact hj1
     have e1:i*sz=lo*sz+(i-lo)*sz:=by rw[<-eG0];congr 1;omega
     have hlt:(i-lo)*sz+j<news.length:=by
      have:(i-lo+1)*sz<=r2.length*sz:=cC0 _ (by omega)
      rw[dN2]at this;omega
     have ec:(cs.take (lo*sz)++news++cs.drop (lo*sz+news.length))[i*sz+j]=news[(i-lo)*sz+j]:=by
      apply ca0
      rw[<-aX4,hcat,if_neg (by omega),if_pos (by omega),<-aX4 hlt]
      congr 1;omega
     simp only[eg]
     rw[ec]
     exact(hnr (i-lo) j (by omega) hj1 hlt).mono (fun _ x=>x) hS
    ·rw[if_neg h3,aX4 hi2]at hg
     have eg:=ca0 hg
     have hj1:j<(rs[i]).length:=by rw[<-eg];exact hj
     have hle:(lo+r2.length)*sz<=i*sz:=cC0 _ (by omega)
     rw[eG0]at hle
     have hjs:j<sz:=by rw[<-hsz _ (bf3 hi2)];exact hj1
     have hb2:i*sz+j<cs.length:=by
      have:(i+1)*sz<=dH4*sz:=cC0 _ (by omega)
      rw[dN2]at this;omega
     have ec:(cs.take (lo*sz)++news++cs.drop (lo*sz+news.length))[i*sz+j]=cs[i*sz+j]:=by
      apply ca0
      rw[<-aX4,hcat,if_neg (by omega),if_neg (by omega),aX4 hb2]
     simp only[eg]
     rw[ec]
     exact(hcr i j hi2 hj1 hb2).mono (fun _ x=>x) hS
theorem bV9 {hp:List (Nat×G6)}{id:Nat}{b:G6}:∀{hp:List (Nat×G6)},look hp id=some b->∀k,look (au3 hp id b) k=look hp k:=fun{hp} h k=>by
 grind [aF0]
def Ok.dw5 (h:Ok w0 L nt ⟨tm,hp⟩ S E a w){id:Nat}{b:G6}(hb:look hp id=some b):Ok w0 L nt ⟨tm,au3 hp id b⟩ S E a w:={h with
 hp:=fun k c hk=>h.hp k c (by simp only at hk;rw[bV9 (hp:=hp) hb]at hk;exact hk)
 own:=fun k c β hk=>h.own k c β (by simp only at hk;rw[bV9 (hp:=hp) hb]at hk;exact hk)
 au2:=fun k k' c c' β hk hk'=>h.au2 k k' c c' β (by simp only at hk;rw[bV9 (hp:=hp) hb]at hk;exact hk) (by simp only at hk';rw[bV9 (hp:=hp) hb]at hk';exact hk')}
end
section
variable {ρ α:Type} {X:Cx} {ks:List K} {tm V0:List (Nat × T)} {hp:List (Nat × G6)} {m:Option ρ} {Q:ρ -> Exit -> St -> Prop} {all:Array Oper} {o:Oper} {rest:List Oper}
def eB9 {w0:World}{L:Lim}{nt:Nat}{S:Nat->Prop}{E:Nat->Value}{a:Act}{w:World}{tm0:List (Nat×T)}(hk:Ok w0 L nt ⟨tm0,hp⟩ S E a w){C8:Tab}{P:Program}(K6:aW1 P C8){t e e' n s0 id sz:Nat}{z0:List Value}{te:TI}{x:Operand}{lo hi:Option Operand}{l:List α}{i j:Int}{enc:α->List Tree}
  (ho:o.op= .slice t x lo hi none) (hx:val tm0 x=some (.own id)) (hb:look hp id=some (.rows e sz n (l.map enc))) (hty:look C8 t=some ⟨s0,.slice e',z0⟩) (hte:look C8 e'=some te) (hsz:te.size=sz)
  (hlo:cw9 tm0 0 lo=some i) (hhi:cw9 tm0 l.length hi=some j) (hc:cl6 i j l.length=some ()):
  ∃v,(execOp a.eval o).run P w= .ok (.value v) w/\RV w S E v (.vw id i.toNat (j.toNat-i.toNat) sz):=by
 unfold cl6 at hc
 split at hc<;>try(cases hc;done)
 rename_i hbd0
 obtain⟨h0,h1,h2⟩:=hbd0
 obtain⟨q,dd,hi',hs,hu,hdd,_⟩:=K6 t _ hty
 simp only[TD.ok]at hdd
 subst hdd
 have hs':=(K6 e' _ hte).aG6 w
 have hxv:a.eval x=E id:=by
  have hv:=hk.val hx
  generalize a.eval x=sv at hv
  cases hv with|own _ _ hE=>grind
 obtain⟨hn,aQ8⟩:=hk.hp id _ hb
 have hn':n=l.length:=by grind
 subst hn'
 rcases aQ8 with⟨hE,hr0⟩|⟨β,cap,cs,hcm,hE,hh,hcl,hcc,hszr,hcr⟩
 ·have hl0:l=[]:=by grind
  subst hl0
  have hj0:j=0:=by grind
  have hi0:i=0:=by omega
  subst hj0 hi0
  have hbd:=bx4 (P:=P) (w:=w) (n:=0) (c:=0) (bo0 hk hlo) (bo0 hk hhi) (dj2 0) (dj2 0) (dj2 0)
  have hbd':(Instr.sliceBounds true 0 0 (lo.map a.eval) (hi.map a.eval) none).run P w= .ok (0,0,0) w:=hbd
  refine⟨.slice none 0 0,?_,.vw id _ _ sz 0 none (.inl rfl)⟩
  simp_all[execOp,Instr.sliceAt,run_underlying,Instr.slice]
 ·have hcc':l.length<=cap:=by omega
  have hbd:=bx4 (P:=P) (w:=w) (n:=l.length) (c:=cap) (bo0 hk hlo) (bo0 hk hhi) h0 h1 (by omega)
  simp only[bY6]at hE
  refine⟨_,by
   simp only[execOp,ho,Instr.sliceAt,bq9,run_underlying hu,bd5,Instr.slice,hxv,hE,fh1,hbd,hs',bB8]
   rfl,?_⟩
  refine .vw id _ _ sz _ _ ?_
  by_cases hz:j.toNat-i.toNat=0
  ·omega
  ·refine .inr ⟨β,_,cap,hE,?_⟩
   have hne:¬cap=i.toNat:=by omega
   simp only[hne,if_false,bN9,addr_add,da1,hsz]
def B9.di3 {t e e' d n s0 id sz:Nat}{z0:List Value}{te:TI}{x:Operand}{lo hi:Option Operand}{l:List α}{i j:Int}{enc:α->List Tree}{k:Unit->Option ρ}
  (ho:o.op= .slice t x lo hi none) (hd:o.dst=some d) (hdn:bi3 d X.nt=true) (hg:ai6 all.toList tm o.guard=some true) (hx:val tm x=some (.own id)) (hb:look hp id=some (.rows e sz n (l.map enc)))
  (hty:look X.C8 t=some ⟨s0,.slice e',z0⟩) (hte:look X.C8 e'=some te) (hsz:te.size=sz) (hlo:cw9 tm 0 lo=some i) (hhi:cw9 tm l.length hi=some j)
  (h:∀y,cl6 i j l.length=some y->B9 X all rest ks ⟨(d,.vw id i.toNat (j.toNat-i.toNat) sz)::tm,hp⟩ (k y) Q):B9 X all (o::rest) ks ⟨tm,hp⟩ ((cl6 i j l.length).bind k) Q:=
 B9.one hd hdn hg (fun _=>.vw id i.toNat (j.toNat-i.toNat) sz) (fun y S E a w hm hk=>by
  cases y
  exact eB9 hk X.K6 ho hx hb hty hte hsz hlo hhi hm) h
def eY6 {w0:World}{L:Lim}{nt:Nat}{S:Nat->Prop}{E:Nat->Value}{a:Act}{w:World}{tm0:List (Nat×T)}(hk:Ok w0 L nt ⟨tm0,hp⟩ S E a w){id e sz n lo q:Nat}{rs:List (List Tree)}{v:Value}(hb:look hp id=some (.rows e sz n rs))(hv:RV w S E v (.vw id lo q sz))(hle:lo+q<=rs.length)
  (bj1:∀r∈rs,∀t∈r,aQ4 t=true):Src w S v q sz ((rs.drop lo).take q):=by
 refine⟨by grind,?_⟩
 cases hv with
 |vw _ _ _ _ c ad h=>
  refine⟨ad,c,rfl,fun h0=>?_⟩
  rcases h with h|⟨β,m,cap,hE,ha⟩
  ·omega
  ·obtain⟨hn,aQ8⟩:=hk.hp id _ hb
   rcases aQ8 with⟨hE',_⟩|⟨β',dH4,cs,hcm,hE',hh,hcl2,hcc,hsz,hcr⟩
   ·grind
   ·rw[hE']at hE
    have hβ:β'=β:=by grind
    subst hβ
    have hle1:(lo+q)*sz<=dH4*sz:=cC0 _ (by omega)
    rw[eG0]at hle1
    have hlen:((cs.drop (lo*sz)).take (q*sz)).length=q*sz:=by grind
    have cell:∀k (hk1:k<q*sz),∃(h1:lo+k/sz<rs.length) (h2:k%sz<(rs[lo+k/sz]).length) (h3:lo*sz+k<cs.length),RT w S (cs[lo*sz+k]) ((rs[lo+k/sz])[k%sz]):=fun k hk1=>by
     have hs0:0<sz:=cf8 hk1
     have h1:k/sz<q:=eY1 (by rw[es2];exact hk1)
     have h2:k%sz<(rs[lo+k/sz]'(by omega)).length:=by rw[hsz _ (bf3 _)];exact eQ6 _ hs0
     have e1:(lo+k/sz)*sz+k%sz=lo*sz+k:=by have:=fb1 k sz;rw[es2]at this;rw[eG0];omega
     refine⟨by omega,h2,by omega,?_⟩
     have:=hcr (lo+k/sz) (k%sz) (by omega) h2 (by omega)
     simp only[e1]at this
     exact this
    refine⟨⟨β',lo*sz,none⟩,(cs.drop (lo*sz)).take (q*sz),ha,hlen,fun j u hu=>?_,fun u hu=>?_,fun i j hi hj hb2=>?_⟩
    ·rw[dJ8]at hu
     split at hu
     ·rw[fj7]at hu
      rw[addr_add,cell_of_row w β' _ _ e _ hh];simpa using hu
     ·cases hu
    ·obtain⟨k,hk1,rfl⟩:=cW9.1 hu
     have hk2:k<q*sz:=by rw[hlen]at hk1;exact hk1
     obtain⟨h1,h2,h3,h4⟩:=cell k hk2
     rw[eV5,eV4]
     exact h4.one (bj1 _ (bf3 h1) _ (bf3 h2))
    grind
def B9.copyV {t t2 e e' n s0 id lo q lo2 q2:Nat}{z0:List Value}{te:TI}{s x:Operand}{l:List α}{enc:α->List Tree}{σ₁:St}{hc hc2:Prop}
  (h1:hc) (h2:hc2) (hle:hc->lo+q<=l.length) (hle2:hc2->lo2+q2<=l.length)
  (ho:o.op= .call ⟨.builtin .copy,#[s,x],#[t,t2]⟩) (hg:ai6 all.toList tm o.guard=some true)
  (hty:look X.C8 t=some ⟨s0,.slice e',z0⟩) (hte:look X.C8 e'=some te) (ay6:∀y,(enc y).length=te.size) (bj1:∀y,(enc y).all aQ4=true)
  (hs:val tm s=some (.vw id lo q te.size)) (hx:val tm x=some (.vw id lo2 q2 te.size)) (hb:look hp id=some (.rows e te.size n (l.map enc)))
  (au3:bw8 X.nt o.dst (.t (.v (.int .i64 (min q2 q:Nat)))) ⟨tm,au3 hp id (.rows e te.size (au8 l lo (((l.drop lo2).take q2).take q)).length ((au8 l lo (((l.drop lo2).take q2).take q)).map enc))⟩=some σ₁)
  (h:B9 X all rest ks σ₁ m Q):B9 X all (o::rest) ks ⟨tm,hp⟩ m Q:=fun y hy a w ⟨S,E,hk⟩=>by
 have hle:=hle h1
 have hle2:=hle2 h2
 obtain⟨dd,hu,ho2⟩:∃d,X.P.underlying t=some d/\TD.ok X.P (.slice e') d:=by
  obtain⟨i,d,_,_,hu,hdd,_⟩:=X.K6 t _ hty
  grind
 simp only[TD.ok]at ho2
 subst ho2
 obtain⟨i0,d0,hi0,hs0,_⟩:=X.K6 e' _ hte
 have hn:n=l.length:=by have:=(hk.hp id _ hb).1;grind
 subst hn
 have cf2:=eY6 hk hb (hk.val hx) (by grind) (bH3 bj1 l)
 obtain⟨_,ad2,c2,hxe,cf2⟩:=cf2
 have bn8:=hk.val hs
 have hrl:((l.drop lo2).take q2).length=q2:=by grind
 have e0:((l.map enc).drop lo2).take q2=((l.drop lo2).take q2).map enc:=by simp
 have hcl:(au8 l lo (((l.drop lo2).take q2).take q)).length=l.length:=bB2 (by grind)
 rw[hcl]at au3
 have e1:(au8 l lo (((l.drop lo2).take q2).take q)).map enc=au8 (l.map enc) lo ((((l.drop lo2).take q2).take q).map enc):=by simp[au8,fd2,List.map_drop]
 rw[e1]at au3
 generalize hse:a.eval s=sv at bn8
 have fin:∀w',(Builtin.copy_ #[t,t2] o.type #[sv,.slice ad2 q2 c2]).run X.P w= .ok (.int .i64 (min q2 q:Nat)) w'->
   Ok X.w0 X.L X.nt ⟨tm,Go.Pv.au3 hp id (.rows e te.size l.length (au8 (l.map enc) lo ((((l.drop lo2).take q2).take q).map enc)))⟩ S E a w'->wpList X.P all (after X.P ks (X.post (Q y))) (o::rest) a w:=fun w' hr hok=>by
  refine wpList_step fun K hK=>?_
  rw[T7 hk hg,if_pos rfl]
  unfold Oper.wp
  have aO5:(execOp a.eval o).run X.P w= .ok (.value (.int .i64 (min q2 q:Nat))) w':=by
   unfold execOp
   simp only[ho,resolve,invoke,builtin,bq9,bB8,bd5,fa0,cN4,dT4,hse,hxe,hr]
  rw[aO5]
  exact hK _ _ (h y hy _ _ ⟨S,E,bA5 hok (.t (.v _)) au3⟩)
 cases bn8 with
 |vw _ _ _ _ c ad hvw=>
  have cw0:Nat.min q2 q=min q2 q:=rfl
  by_cases hz:min q2 q=0
  · --nothing to copy
   have hf:(Builtin.firstCells i0.size 0 (.slice ad2 q2 c2)).run X.P w= .ok #[] w:=by cases ad2<;>simp[Builtin.firstCells,loadCells,loadCellsFrom]
   have cQ7:((l.drop lo2).take q2).take q=[]:=eC6 (by rw[cZ8,hrl,Nat.min_comm];exact hz)
   refine fin w ?_ ?_
   ·cases ad<;>simp[Builtin.copy_,run_underlying hu,Builtin.lenOf,sizeOf,typeInfo,hi0,hf,goInt,cw0,hz,storeCells]
   ·rw[cQ7]
    have:au8 (l.map enc) lo (List.map enc [])=l.map enc:=by simp[au8]
    rw[this]
    exact hk.dw5 hb
  ·have hq0:0<q2:=by omega
   obtain⟨ad2',dr6,rfl,hal,hac,hon,har⟩:=cf2 hq0
   rcases hvw with hvw|⟨β,m',cap,hE,rfl⟩
   ·omega
   ·have hle3:min q2 q*te.size<=q2*te.size:=cC0 _ (Nat.min_le_left _ _)
    have dw4:(Builtin.firstCells i0.size (min q2 q) (.slice (some ad2') q2 c2)).run X.P w= .ok (dr6.take (min q2 q*te.size)).toArray w:=by
     have:=run_loadCells_list (P:=X.P) w ad2' (dr6.take (min q2 q*te.size)) (fun j u hu=>by
      rw[dJ8]at hu
      split at hu
      ·exact hac j u hu
      ·cases hu)
     rw[cZ8,hal,Nat.min_eq_left hle3]at this
     simp[Builtin.firstCells,hs0,this]
    have hr2l:((((l.drop lo2).take q2).take q).map enc).length=min q2 q:=by rw[bY6,cZ8,hrl,Nat.min_comm]
    obtain⟨w',hst,hok⟩:=hk.putAt (P:=X.P) (lo:=lo) (r2:=(((l.drop lo2).take q2).take q).map enc) (news:=dr6.take (min q2 q*te.size)) hb hE (by rw[hr2l];simp;omega) (by rw[cZ8,hal,hr2l];exact Nat.min_eq_left hle3) (fun u hu=>hon u (eN2 hu))
     (fun r hr=>by obtain⟨z,_,rfl⟩:=cK0.1 hr;exact ay6 z)
     (fun i j hi hj hbb=>by
      rw[hr2l]at hi
      have hi2:i<(((l.map enc).drop lo2).take q2).length:=by rw[e0,bY6,hrl];omega
      have eg:((((l.drop lo2).take q2).take q).map enc)[i]'(by rw[hr2l];exact hi)=(((l.map enc).drop lo2).take q2)[i]:=by
       simp[eV5,eV4]
      have hj2:j<((((l.map enc).drop lo2).take q2)[i]).length:=by rw[<-eg];exact hj
      have hb3:i*te.size+j<dr6.length:=by rw[cZ8]at hbb;omega
      have:=har i j hi2 hj2 hb3
      simp only[eg]
      rw[eV5]
      exact this)
    refine fin w' ?_ hok
    simp[Builtin.copy_,run_underlying hu,Builtin.lenOf,sizeOf,typeInfo,hi0,cw0,dw4,goInt,hst]
def B9.em5 {t e e' n s0 id lo q:Nat}{z0:List Value}{te:TI}{x:Operand}{l:List α}{enc:α->List Tree}{σ₁:St}{hc:Prop}(z:α)
  (h1:hc) (hle:hc->lo+q<=l.length)
  (ho:o.op= .call ⟨.builtin .clear,#[x],#[t]⟩) (hg:ai6 all.toList tm o.guard=some true)
  (hty:look X.C8 t=some ⟨s0,.slice e',z0⟩) (hte:look X.C8 e'=some te) (hz:te.zero.length=te.size) (bS2:bi3 0 te.size=true) (hones:te.zero.all Value.oneCell'=true) (ay6:enc z=te.zero.map fun v=>aE3 (.v v))
  (hx:val tm x=some (.vw id lo q te.size)) (hb:look hp id=some (.rows e te.size n (l.map enc)))
  (au3:bw8 X.nt o.dst (.P4 []) ⟨tm,au3 hp id (.rows e te.size (au8 l lo (cr7 q z)).length ((au8 l lo (cr7 q z)).map enc))⟩=some σ₁)
  (h:B9 X all rest ks σ₁ m Q):B9 X all (o::rest) ks ⟨tm,hp⟩ m Q:=fun y hy a w ⟨S,E,hk⟩=>by
 have hle:=hle h1
 obtain⟨dd,hu,ho2⟩:∃d,X.P.underlying t=some d/\TD.ok X.P (.slice e') d:=by
  obtain⟨i,d,_,_,hu,hdd,_⟩:=X.K6 t _ hty
  grind
 simp only[TD.ok]at ho2
 subst ho2
 have hn:n=l.length:=by have:=(hk.hp id _ hb).1;grind
 subst hn
 have bn8:=hk.val hx
 have hcl:(au8 l lo (cr7 q z)).length=l.length:=bB2 (by grind)
 rw[hcl]at au3
 have e1:(au8 l lo (cr7 q z)).map enc=au8 (l.map enc) lo ((cr7 q z).map enc):=by simp[au8,fd2,List.map_drop]
 rw[e1]at au3
 generalize hse:a.eval x=sv at bn8
 have fin:∀w',(Builtin.clear_ #[t] o.type #[sv]).run X.P w= .ok (.tuple #[]) w'->
   Ok X.w0 X.L X.nt ⟨tm,Go.Pv.au3 hp id (.rows e te.size l.length (au8 (l.map enc) lo ((cr7 q z).map enc)))⟩ S E a w'->wpList X.P all (after X.P ks (X.post (Q y))) (o::rest) a w:=fun w' hr hok=>by
  refine wpList_step fun K hK=>?_
  rw[T7 hk hg,if_pos rfl]
  unfold Oper.wp
  have aO5:(execOp a.eval o).run X.P w= .ok (.value (.tuple #[])) w':=by
   unfold execOp
   simp only[ho,resolve,invoke,builtin,bq9,bB8,bd5,fa0,cN4,dT4,hse,hr]
  rw[aO5]
  exact hK _ _ (h y hy _ _ ⟨S,E,bA5 hok (.P4 [] [] rfl fun j h1=>by simp) au3⟩)
 cases bn8 with
 |vw _ _ _ _ c ad hvw=>
  by_cases hq:q=0
  ·subst hq
   refine fin w ?_ ?_
   ·cases ad<;>simp[Builtin.clear_,run_underlying hu]
   ·have:au8 (l.map enc) lo (List.map enc (cr7 0 z))=l.map enc:=by simp[au8]
    rw[this]
    exact hk.dw5 hb
  ·rcases hvw with hvw|⟨β,m',cap,hE,rfl⟩
   ·omega
   ·obtain⟨zv,hzr,hzc⟩:=(X.K6 e' _ hte).bT3 w
    have hzl:zv.cells.size=te.size:=by rw[<-hz,<-hzc];simp
    have cm9:(Builtin.zeroCells zv.cells q).toList=aZ6 q te.zero:=by
     unfold Builtin.zeroCells
     rw[dE2 q zv.cells (by rw[hzl];exact dp8 ff2 (bd6 bS2)),hzc]
    have hlen:(aZ6 q te.zero).length=q*te.size:=by rw[bs8,hz]
    have hp0:0<te.zero.length:=by rw[hz];exact bd6 bS2
    obtain⟨w',hst,hok⟩:=hk.putAt (P:=X.P) (lo:=lo) (r2:=(cr7 q z).map enc) (news:=aZ6 q te.zero) hb hE (by simp;omega) (by rw[hlen];simp)
     (fun u hu=>by
      obtain⟨k,hk1,rfl⟩:=cW9.1 hu
      have hk2:k<q*te.zero.length:=by rw[bs8]at hk1;exact hk1
      have hg:=bX5 te.zero hp0 q k hk2
      rw[aX4 hk1]at hg
      have:=db2 hg.symm
      exact bt1.1 hones _ this)
     (fun r hr=>by
      obtain⟨y,hy,rfl⟩:=cK0.1 hr
      rw[List.eq_of_mem_replicate hy,ay6,bY6,hz])
     (fun i j hi hj hbb=>by
      have hi2:i<q:=by simpa using hi
      have eg:((cr7 q z).map enc)[i]=te.zero.map fun v=>aE3 (.v v):=by simp[ay6]
      have hj2:j<te.size:=by rw[eg,bY6,hz]at hj;exact hj
      have hk2:i*te.size+j<q*te.zero.length:=by rw[hz];rw[hlen]at hbb;exact hbb
      have hg:=bX5 te.zero hp0 q (i*te.size+j) hk2
      rw[aX4 hbb]at hg
      have hmod:(i*te.size+j)%te.zero.length=j:=by rw[hz,es2,ff1,fa1 hj2]
      rw[hmod,aX4 (by rw[hz];exact hj2)]at hg
      have e2:=ca0 hg
      simp only[eg]
      rw[e2,dc0]
      exact bb7 (.v _))
    refine fin w' ?_ hok
    obtain⟨q',rfl⟩:∃k,q=k+1:=⟨q-1,by omega⟩
    simp only[Builtin.clear_,run_underlying hu,bq9,bd5,ff9,dq2,hzr,cm9,hst,bB8]
end
section
variable {X:Cx} {ops:Array Oper} {fe fuel:Nat} {le l l':List Bool} {σ':St} {o:Oper}
end
section
variable {ρ:Type} {X:Cx} {ks:List K} {σ:St} {m:Option ρ} {Q:ρ -> Exit -> St -> Prop}
def cb1 {P:Program}{Q:Exit->Act->World->Prop}{l:Nat}{a:Act}{w:World}:∀(ks:List K),after P ks Q (.goto l) a w->Q (.goto l) a w
 |[],h=>h
 | .c _::ks,h=>cb1 ks h
 | .e _::ks,h=>cb1 ks h
def E9.scope {x:Code}(hQ:∀r l σ,¬Q r (.goto l) σ)(h:E9 X (.c x::ks) σ m Q):E9 X (.c (.scope x)::ks) σ m Q:=fun r hr a w hw=>by
 refine wp_scope_straight (wp_mono (h r hr a w hw) ?_)
 intro e a w he
 cases e with
 |goto l=>obtain⟨σ,_,hq⟩:=cb1 ks he;grind
 |_=>exact he
def E9.label {l:Nat}(h:E9 X ks σ m Q):E9 X (.c (.label l)::ks) σ m Q:=fun r hr a w hw=>wp_label (h r hr a w hw)
end
def bm:Nat->Nat->List Bool
 |0,_=>[]
 |n+1,k=>br8 (k%2) 1::bm n (k/2)
abbrev G6.rs {α:Type}(e sz:Nat)(l:List α)(enc:α->List Tree):G6:=.rows e sz l.length (l.map enc)
section
variable {X:Cx} {ops:Array Oper} {fe fuel:Nat} {le l:List Bool} {σ σ₁ σ₂ σ':St} {o:Oper}
def ci2.fe5 {i:Nat}{rs:List Nat}(l':List Bool)(ho:ops[i]? =some o)(hl:l.set i true=l')(h₁:B9 X ops [o] [] σ (some ()) (fun _ e σ''=>e= .normal/\σ''=σ₁))(h₂:aT4 X ops fe le fuel l' σ₁ σ')(h₃:ci2 X ops fe le fuel l σ σ' rs):ci2 X ops fe le fuel l σ σ' (i::rs):=fun j hj Q hp hQ a w hw=>by
 rcases ca1.1 hj with rfl|hj
 ·have h:=h₁ () rfl a w hw
  unfold wpOp
  simp only[ho]
  have next:∀a w,wpList X.P ops (after X.P [] (X.post fun e σ''=>e= .normal/\σ''=σ₁)) [] a w->wpAny X.P .any ops Q fuel (l.toArray.setIfInBounds j true) a w:=fun a w ⟨σ'',hs,_,e⟩=>by
   rw[eT3,hl]
   subst e;exact h₂ Q hp hQ a w hs
  unfold wpList at h
  split at h
  ·rename_i hg
   rw[if_pos hg]
   rcases h with h|⟨h1,h2⟩
   ·refine .inl ?_
    revert h
    unfold Oper.wp
    generalize(execOp a.eval o).run X.P w=r
    intro h
    cases r with
    |ok n w'=>
     cases n<;>simp only[Oper.upon]at h|-
     all_goals first
      |exact next _ _ h
      |exact Calls.mono h (fun e w'' he=>by cases e<;>first|exact next _ _ he|(obtain⟨_,_,_,_,he,_⟩:=he;cases he)|(obtain⟨_,_,he,_⟩:=he;cases he))
      |exact Rows.mono h (fun _ _ he=>next _ _ he)
      |(obtain⟨_,_,he,_⟩:=h;cases he)
      |exact h
    |halt x w'=>cases x<;>simp only[Oper.upon]at h|- <;>first|exact h|(obtain⟨_,_,he,_⟩:=h;cases he)
   ·obtain⟨_,_,_,_,he,_⟩:=h2;cases he
  grind
 ·exact h₃ j hj Q hp hQ a w hw
def okA (nt:Nat)(ops:Array Oper)(l:List Bool)(i d:Nat)(o:Oper):Bool:=bi3 d nt&&o.guard.isNone&&Region.noSelect ops&&Region.free .any ops l.toArray i&&(Region.ready .any ops l.toArray).contains i
def eX3 {nt i d:Nat}(h:okA nt ops l i d o=true):bi3 d nt=true/\o.guard=none/\Region.noSelect ops=true/\Region.free .any ops l.toArray i=true/\(Region.ready .any ops l.toArray).contains i=true:=by
 simp_all[okA]
end
def Rd {α:Type}(s:Sem α):Prop:=∀P w r w',s.run P w= .ok r w'->w'=w
theorem aN1 {α:Type}(x:α):Rd (pure x:Sem α):=fun P w r w' h=>by
 simp_all
def bl6 {α:Type}(x:Halt):Rd (Sem.halt x:Sem α):=fun P w r w' h=>by
 simp_all
theorem aN0 {α β:Type}{s:Sem α}{f:α->Sem β}(h:Rd s)(k:∀x,Rd (f x)):Rd (s>>=f):=fun P w r w' e=>by
 rw[bq9]at e
 cases hs:s.run P w with
 |ok x w1=>
  rw[hs]at e
  have:=h P w x w1 hs
  subst this
  exact k x P w1 r w' e
 |halt x w1=>simp_all
theorem dT8 (a:Addr)(m:Mode):Rd (load a m):=fun P w r w' h=>by
 grind [load,Sem.run]
def cT6:Rd program:=fun P w r w' h=>by
 simp_all
theorem bC0 (t:TypeId):Rd (underlying t):=by
 unfold underlying
 refine aN0 cT6 fun p=>?_
 split
 ·exact aN1 _
 ·exact bl6 _
theorem ev9 (t:TypeId):Rd (isAgg t):=by
 grind [isAgg,aN0,bC0,aN1]
theorem dg8 (t:TypeId):Rd (sizeOf t):=by
 unfold sizeOf typeInfo
 refine aN0 (aN0 cT6 fun p=>?_) fun i=>aN1 _
 split
 ·exact aN1 _
 ·exact bl6 _
theorem dA9 (a:Addr):∀(n i:Nat) (acc:Array Value),Rd (loadCellsFrom a i n acc)
 |0,i,acc=>by simp[loadCellsFrom,aN1]
 |n+1,i,acc=>by
  unfold loadCellsFrom
  exact aN0 (dT8 _ _) fun v=>dA9 a n (i+1) _
def ee0 (t:TypeId)(v:Value):Rd (Instr.loadAt t v):=by
 unfold Instr.loadAt
 refine aN0 ?_ fun a=>?_
 ·unfold Instr.sureAddr
  split
  ·exact aN1 _
  ·exact bl6 _
 grind [loadVar,aN0,ev9,dg8,aN1,loadCells,dA9,dT8]
def dL5 (v:Value)(k:Nat):Rd (Instr.extract v k):=by
 unfold Instr.extract
 split
 ·split
  ·exact aN1 _
  ·exact bl6 _
 ·exact bl6 _
def ed9 {α:Type}(k:IntKind)(x y:Int)(c:BoundsCode):Rd (boundsPanic k x y c:Sem α):=fun P w r w' e=>by
 exfalso
 have key:∀b w r w',(runtimePanic (.bounds (fb2.wrap x) y b c):Sem α).run P w≠ .ok r w':=fun b w r w' h=>by
  simp_all[runtimePanic]
 unfold boundsPanic at e
 dsimp only at e
 split at e<;>
 ·rw[bq9]at e
  revert e
  generalize Sem.run P _ w=q
  intro e
  cases q with
  |ok b w1=>exact key b w1 r w' e
  |halt p w1=>cases e
def ev7 (v:Value):Rd (asIntOf v):=by
 unfold asIntOf
 split
 ·exact aN1 _
 ·exact bl6 _
 ·exact bl6 _
def eK1 (v:Value):Rd (Instr.sureAddr v):=by
 unfold Instr.sureAddr
 split
 ·exact aN1 _
 ·exact bl6 _
def ev8 (t:TypeId)(x ix:Value):Rd (Instr.indexAt t x ix):=by
 unfold Instr.indexAt
 refine aN0 (ev7 _) fun p=>aN0 (bC0 t) fun d=>?_
 have key:∀q:Option Addr×Nat×TypeId,Rd (match q with
   |(base,len,elem)=>do
    let d<-underlying t
    let tiny:=len<=1&&(match d with| .array ..=>true|_=>false)
    match base with
    |some a=>
     if 0<=p.2/\p.2<len then pure (Value.pointer (some (a.add (p.2.toNat*(<-sizeOf elem)))))
     else if tiny then unsupported (.noEntry "op/indexAddr.an index out of range at an array of length 0 or 1 (ledger 616)")
     else boundsPanic p.1 p.2 len .index
    |none=>boundsPanic p.1 p.2 0 .index:Sem Value):=fun(base,len,elem)=>by
  dsimp only
  refine aN0 (bC0 t) fun d=>?_
  repeat' split
  all_goals first|exact aN0 (dg8 _) fun n=>aN1 _|exact bl6 _|exact ed9 _ _ _ _
 dsimp only at key|-
 split
 ·exact aN0 (eK1 _) fun a=>aN0 (aN1 _) fun q=>key q
 ·exact aN0 (aN1 _) fun q=>key q
 ·exact aN0 (bl6 _) fun q=>key q
def cB4:Op->Bool
 | .move _| .assign _| .load .. | .extract .. | .indexAddr ..=>true
 |_=>false
theorem dR5 {P:Program}{o:Oper}(h:cB4 o.op=true)(ρ:Operand->Value)(w:World)(n:Next)(w':World)(e:(execOp ρ o).run P w= .ok n w'):w'=w/\∃u,n= .value u:=by
 have key:∀s:Sem Value,Rd s->(execOp ρ o).run P w=(s>>=fun v=>pure (Next.value v)).run P w->w'=w/\∃u,n= .value u:=by
  intro s hs he
  rw[he,bq9]at e
  cases hr:s.run P w with
  |ok x w1=>
   rw[hr]at e
   have h1:=hs P w x w1 hr
   grind [bd5,bB8]
  |halt x w1=>simp_all
 obtain⟨dst,op,type,pos,aft,guard⟩:=o
 cases op<;>simp only[cB4,dE6]at h
 case move x=>exact key (pure (ρ x)) (aN1 _) (by rfl)
 case assign x=>exact key (pure (ρ x)) (aN1 _) (by rfl)
 case load t x=>exact key (Instr.loadAt t (ρ x)) (ee0 _ _) rfl
 case extract x k=>exact key (Instr.extract (ρ x) k) (dL5 _ _) rfl
 case indexAddr t x ix=>exact key (Instr.indexAt t (ρ x) (ρ ix)) (ev8 _ _ _) rfl
section
variable {P:Program} {ops:Array Oper} {Q:Exit -> Act -> World -> Prop} {md:Region.Mode} {S:World -> Prop}
def eg9 {j:Nat}{oj:Oper}(hj:ops[j]? =some oj)(hh:cB4 oj.op=true){K:Act->World->Prop}{a:Act}{w:World}(hS:S w)(h:wpOp P ops Q j K a w):wpOp P ops Q j (fun a' w'=>S w'/\K a' w') a w:=by
 unfold wpOp at*
 simp only[hj]at*
 split
 ·rename_i hw
  rw[if_pos hw]at h
  refine h.imp (fun h=>?_) id
  unfold Oper.wp at*
  cases hr:(execOp a.eval oj).run P w with
  |ok n w'=>
   rw[hr]at h
   obtain⟨e1,u,e2⟩:=dR5 hh a.eval w n w' hr
   subst e1
   subst e2
   simp only[Oper.upon]at h|-
   exact⟨hS,h⟩
  |halt x w'=>
   rw[hr]at h
   cases x<;>simp only[Oper.upon]at h|- <;>exact h
 grind
def dO0 {i:Nat}{oi:Oper}{v:Value}(hi:ops[i]? =some oi)(hsel:∀(j:Nat) (o:Oper) cs b,ops[j]? =some o->o.op≠ .select cs b)
  (hQ:∀c a w,Q (.panic c) (a.put oi.dst v) w->Q (.panic c) a w) (W:Nat->Bool):
  ∀(fuel:Nat) (listed:Array Bool) (a:Act) (w:World),
   (∀j,W j=true->listed.getD j true=false/\∃oj,ops[j]? =some oj/\∃e∈oj.after,Region.binds md e=true/\(e.on=i\/W e.on=true))->
   (∀j oj,ops[j]? =some oj->j≠i->listed.getD j true=false->W j=false->oi.apart ops oj=true/\cB4 oj.op=true)->
   i∈Region.ready md ops listed->YieldsIf P ops S oi v a->S w->
   wpAny P md ops Q fuel (listed.setIfInBounds i true) (a.put oi.dst v) w->wpAny P md ops Q (fuel+1) listed a w:=by
 have hnW:∀(listed:Array Bool) (j:Nat),(∀j,W j=true->listed.getD j true=false/\∃oj,ops[j]? =some oj/\∃e∈oj.after,Region.binds md e=true/\(e.on=i\/W e.on=true))->i∈Region.ready md ops listed->j∈Region.ready md ops listed->W j=false:=by
  grind [mem_ready]
 intro fuel
 induction fuel with
 |zero=>
  intro listed a w hW hrest hr hy hS H
  refine⟨fun h=>(by grind),fun j hj=>?_⟩
  by_cases hji:j=i
  ·subst hji;exact hy.wpOp hi hS H
  ·have:=ready_mono hj hji
   rw[H.1]at this
   cases this
 |succ fuel ih=>
  intro listed a w hW hrest hr hy hS H
  refine⟨fun h=>(by rw[h]at hr;cases hr),fun j hj=>?_⟩
  by_cases hji:j=i
  ·subst hji;exact hy.wpOp hi hS H
  ·have h1:=H.2 j (ready_mono hj hji)
   have hWj:=hnW listed j hW hr hj
   obtain⟨hjun,oj,hoj,bN4⟩:=mem_ready.1 hj
   obtain⟨hap,hharm⟩:=hrest j oj hoj hji hjun hWj
   have h2:=eg9 hoj hharm hS (wpOp_putIf hoj hap (fun cs b=>hsel i oi cs b hi) (fun cs b=>hsel j oj cs b hoj) hQ hy h1)
   have hW':∀k,W k=true->(listed.setIfInBounds j true).getD k true=false/\∃ok,ops[k]? =some ok/\∃e∈ok.after,Region.binds md e=true/\(e.on=i\/W e.on=true):=fun k hk=>by
    obtain⟨x1,x2⟩:=hW k hk
    have hjk:j≠k:=fun h=>by rw[h]at hWj;rw[hk]at hWj;cases hWj
    exact⟨by rw[getD_set_ne true hjk];exact x1,x2⟩
   have hrest':∀k ok,ops[k]? =some ok->k≠i->(listed.setIfInBounds j true).getD k true=false->W k=false->oi.apart ops ok=true/\cB4 ok.op=true:=fun k ok hk hki hun hWk=>by
    refine hrest k ok hk hki ?_ hWk
    by_cases hjk:j=k
    ·subst hjk;exact hjun
    ·rw[getD_set_ne true hjk]at hun;exact hun
   refine wpOp_mono (fun a' w' h3=>ih (listed.setIfInBounds j true) a' w' hW' hrest' (ready_mono hr (Ne.symm hji)) h3.2.1 h3.1 ?_) h2
   rw[Array.setIfInBounds_comm _ _ hji]
   exact h3.2.2
end
def okW (ops:Array Oper)(l W:List Bool)(i:Nat)(oi:Oper):Bool:=(di4 ops.size).all fun j=>
 bif W.getD j false then(!(l.getD j true))&&(match ops[j]?with|some oj=>oj.after.any (fun e=>Region.binds .any e&&(e.on==i||W.getD e.on false))|none=>false)
 else(j==i||l.getD j true||match ops[j]?with|some oj=>oi.apart ops oj&&cB4 oj.op|none=>true)
def okL (nt:Nat)(ops:Array Oper)(l W:List Bool)(i d:Nat)(o:Oper):Bool:=bi3 d nt&&o.guard.isNone&&Region.noSelect ops&&okW ops l W i o&&(Region.ready .any ops l.toArray).contains i&&dE8 W.length ops.size
def dg9:Op->Bool
 | .move _| .assign _| .load .. | .extract ..=>true
 |_=>false
def dZ7 {o:Op}(h:dg9 o=true):cB4 o=true:=by cases o<;>simp_all[dg9,cB4]
def dT5:Op->Bool
 | .move _| .assign _| .fieldAddr .. | .nilCheck _| .extract ..=>true
 |_=>false
def eA4 (nt:Nat)(ops:Array Oper)(l:List Bool)(i k:Nat)(o:Oper):Bool:=match o.dst with
 |some d=>bif br8 k 0 then dT5 o.op&&okA nt ops l i d o else dg9 o.op&&okL nt ops l (bm ops.size (k/2)) i d o
 |none=>false
def em2 (nt:Nat)(ops:Array Oper):List (Nat×Nat)->List Bool->Bool
 |[],_=>true
 |(i,k)::r,l=>(match ops[i]?with|some o=>eA4 nt ops l i k o|none=>false)&&em2 nt ops r (l.set i true)
def cR4:List (Nat×Nat)->List Bool->List Bool
 |[],l=>l
 |(i,_)::r,l=>cR4 r (l.set i true)
def evA (C8:Tab)(ops:Array Oper):List (Nat×Nat)->List (Nat×T)->List (Nat×G6)->Option (List (Nat×T))
 |[],tm,_=>some tm
 |(i,_)::r,tm,hp=>match ops[i]?with
  |some o=>match o.dst with
   |some d=>match evalOp C8 ⟨tm,hp⟩ o with
    |some (t,_)=>evA C8 ops r ((d,t)::tm) hp
    |none=>none
   |none=>none
  |none=>none
section
variable {X:Cx} {ops:Array Oper} {fe fuel:Nat} {le l:List Bool} {σ':St} {o:Oper}
def dA6 {t:T}{tm:List (Nat×T)}{hp:List (Nat×G6)}{s2:St}(hb:dT5 o.op=true)(he:evalOp X.C8 ⟨tm,hp⟩ o=some (t,s2)):∀S E a w,Ok X.w0 X.L X.nt ⟨tm,hp⟩ S E a w->∃v,(∀w',(execOp a.eval o).run X.P w'= .ok (.value v) w')/\RV w S E v t:=by
 intro S E a w hk
 rw[aU6]at he
 obtain⟨dst,op,type,pos,aft,guard⟩:=o
 cases op<;>simp only[dT5,dE6]at hb<;>simp only[bl5]at he
 case move x=>exact⟨_,fun w'=>rfl,hk.val (S6 he).1⟩
 case assign x=>exact⟨_,fun w'=>rfl,hk.val (S6 he).1⟩
 case fieldAddr s x f=>
  split at he<;>try(cases he;done)
  ·rename_i id off sz fs z hx hti
   split at he<;>try(cases he;done)
   rename_i p n hfs
   cases he
   obtain⟨β,hpv,hE⟩:=(hk.val hx).bK3
   exact⟨_,fun w'=>by simp[execOp,hpv,aU7 (X.K6 s _ hti) hfs β off rfl],.ptr id _ β hE⟩
  ·rename_i cells sz fs z hx hti
   split at he<;>try(cases he;done)
   rename_i p n hfs
   cases he
   have hv:=hk.val hx
   obtain⟨b,o',hpv⟩:=hv.ce1
   rw[hpv]at hv
   exact⟨_,fun w'=>by simp[execOp,hpv,aU7 (X.K6 s _ hti) hfs b o' rfl],hv.cI0 p⟩
  ·rename_i id k sz' off sz fs z hx hti
   split at he<;>try(cases he;done)
   rename_i p n hfs
   cases he
   have hv:=hk.val hx
   generalize hpv:a.eval x=pv at hv
   cases hv with
   |pe _ _ _ _ β n' cap hE=>
    exact⟨.pointer (some ⟨β,k*sz'+off+p,none⟩),fun w'=>by simp[execOp,hpv,aU7 (X.K6 s _ hti) hfs β _ rfl],by rw[ef0];exact .pe id k sz' (off+p) β n' cap hE⟩
 case nilCheck x=>
  have hv:∀y,val tm x=some y->(∃b o',a.eval x= .pointer (some ⟨b,o',none⟩))->y=t->∃v,(∀w',(execOp a.eval (⟨dst,.nilCheck x,type,pos,aft,guard⟩:Oper)).run X.P w'= .ok (.value v) w')/\RV w S E v t:=by
   intro y hx ⟨b,o',hpv⟩ hy
   subst hy
   exact⟨_,fun w'=>by simp_all[execOp],hpv▸hk.val hx⟩
  split at he<;>try(cases he;done)
  ·rename_i id off hx
   cases he
   obtain⟨β,hpv,_⟩:=(hk.val hx).bK3
   simp_all
  ·rename_i cells hx
   cases he
   obtain⟨b,o',hpv⟩:=(hk.val hx).ce1
   simp_all
  ·rename_i id i sz off hx
   cases he
   have h2:=hk.val hx
   generalize hpv:a.eval x=pv at h2
   cases h2 with
   |pe _ _ _ _ β n' cap hE=>simp_all
 case extract x k=>
  split at he<;>try(cases he;done)
  rename_i l hx
  obtain⟨hx',_⟩:=S6 he
  have hv:=hk.val hx
  cases hxe:a.eval x<;>rw[hxe]at hv<;>try(cases hv;done)
  cases hv with
  |P4 vs _ hl hr=>
   obtain⟨hk',rfl⟩:=bG6.1 hx'
   simp_all[execOp,Instr.extract]
theorem dZ8 {t:T}{tm:List (Nat×T)}{hp:List (Nat×G6)}{s2:St}(hb:dg9 o.op=true)(he:evalOp X.C8 ⟨tm,hp⟩ o=some (t,s2)):s2=⟨tm,hp⟩:=by
 rw[aU6]at he
 obtain⟨dst,op,type,pos,aft,guard⟩:=o
 cases op<;>simp only[dg9,dE6]at hb<;>simp only[bl5]at he
 case move x=>exact(S6 he).2
 case assign x=>exact(S6 he).2
 case load t x=>
  split at he<;>try(cases he;done)
  ·split at he<;>try(cases he;done)
   exact(S6 he).2
  ·exact(S6 he).2
 grind
theorem aT4.late {d:Nat}{t:T}{tm:List (Nat×T)}{hp:List (Nat×G6)}{s2:St}(i:Nat)(W:List Bool)(ho:ops[i]? =some o)(hd:o.dst=some d)(hh:dg9 o.op=true)(hb:okL X.nt ops l W i d o=true)(he:evalOp X.C8 ⟨tm,hp⟩ o=some (t,s2))
  (h:aT4 X ops fe le fuel (l.set i true) ⟨(d,t)::tm,hp⟩ σ'):aT4 X ops fe le (fuel+1) l ⟨tm,hp⟩ σ':=fun Q hpn hQ a w ⟨S,E,hk⟩=>by
 unfold okL at hb
 simp only[aK5,Option.isNone_iff_eq_none]at hb
 obtain⟨⟨⟨⟨⟨hdn,hg⟩,hs⟩,hw⟩,hr⟩,hWl⟩:=hb
 obtain⟨v,w',E',hdo,hok,hv⟩:=bE8 X.K6 hk he
 rw[dZ8 hh he]at hok
 replace hh:=dZ7 hh
 have bg9:(execOp a.eval o).run X.P w= .ok (.value v) w/\w'=w:=by
  rcases hdo with hdo|⟨hdo,_⟩
  all_goals grind [dR5]
 obtain⟨bg9,rfl⟩:=bg9
 unfold okW at hw
 rw[bt1]at hw
 have hlt:i<ops.size:=(dq5.1 ho).1
 refine dO0 (S:=fun z=>z=w') ho (Region.noSelect_spec hs) (fun c a w hc=>absurd hc (hpn _ _ _)) (fun j=>W.getD j false) fuel l.toArray a w' (fun j hj=>?_) (fun j oj hoj hji hun hWj=>?_) (by grind) (v:=v) (.inl ⟨?_,fun z hz=>?_⟩) rfl ?_
 ·have hjs:j<ops.size:=by
   have h1:j<W.length:=by
    rcases Nat.lt_or_ge j W.length with h|h
    ·exact h
    ·rw[cY4,List.getElem?_eq_none h]at hj;cases hj
   have:=bd6 hWl
   omega
  have:=hw j (dP5.2 hjs)
  simp only[hj,fk7,aK5,bG5]at this
  obtain⟨t1,t2⟩:=this
  refine⟨?_,?_⟩
  ·rw[cY4]at t1
   rw[eR0]
   simpa using t1
  grind
 ·have hjs:j<ops.size:=(dq5.1 hoj).1
  have:=hw j (dP5.2 hjs)
  rw[hWj]at this
  simp only[fk6,cH4,beq_iff_eq]at this
  rcases this with(h1|h1)|h1
  ·exact absurd h1 hji
  ·rw[cY4]at h1
   rw[eR0]at hun
   have:l[j]?.getD true=false:=by simpa using hun
   rw[h1]at this;cases this
  ·rw[hoj]at h1
   simpa using h1
 ·unfold Region.wanted;rw[hg]
 ·subst hz;exact bg9
 ·rw[eT3]
  exact h Q hpn hQ _ _ ⟨S,E',by rw[hd];exact hok.put (bd6 hdn) hv⟩
def aT4.goN:∀(is:List (Nat×Nat)) {fuel:Nat}{l:List Bool}{tm tm':List (Nat×T)}{hp:List (Nat×G6)},em2 X.nt ops is l=true->evA X.C8 ops is tm hp=some tm'->aT4 X ops fe le fuel (cR4 is l) ⟨tm',hp⟩ σ'->aT4 X ops fe le (fuel+is.length) l ⟨tm,hp⟩ σ'
 |[],fuel,l,tm,tm',hp,_,he,h=>by cases he;exact h
 |(i,k)::r,fuel,l,tm,tm',hp,hb,he,h=>by
  unfold em2 at hb
  unfold evA at he
  rw[aK5]at hb
  obtain⟨h1,h2⟩:=hb
  cases ho:ops[i]?with
  |none=>grind
  |some o=>
   rw[ho]at h1 he
   simp only at h1 he
   unfold eA4 at h1
   cases hd:o.dst with
   |none=>grind
   |some d=>
    rw[hd]at h1 he
    simp only at h1 he
    cases hv:evalOp X.C8 ⟨tm,hp⟩ o with
    |none=>grind
    |some q=>
     obtain⟨t,s2⟩:=q
     rw[hv]at he
     simp only at he
     have ih:=aT4.goN r h2 he h
     rw[bu9,<-ef0]
     cases hk:br8 k 0<;>rw[hk]at h1
     ·simp only[fk6,aK5]at h1
      grind [aT4.late]
     ·simp only[fk7,aK5]at h1
      have k:=eX3 h1.2
      exact aT4.fj9 i _ ho rfl hd k.1 k.2.1 k.2.2.1 k.2.2.2.1 k.2.2.2.2 (dA6 h1.1 hv) ih
def aT4.go {n:Nat}{tm tm':List (Nat×T)}{hp:List (Nat×G6)}(fuel:Nat)(is:List (Nat×Nat))(hn:fuel+is.length=n)(hb:em2 X.nt ops is l=true)(he:evA X.C8 ops is tm hp=some tm')(h:aT4 X ops fe le fuel (cR4 is l) ⟨tm',hp⟩ σ'):aT4 X ops fe le n l ⟨tm,hp⟩ σ':=hn▸aT4.goN is hb he h
theorem aT4.one {σ σ₁:St}(i:Nat)(ho:ops[i]? =some o)(hr:Region.ready .any ops l.toArray=[i])(h₁:B9 X ops [o] [] σ (some ()) (fun _ e σ''=>e= .normal/\σ''=σ₁))(h₂:aT4 X ops fe le fuel (l.set i true) σ₁ σ'):aT4 X ops fe le (fuel+1) l σ σ':=
 aT4.all [i] hr rfl (ci2.fe5 _ ho rfl h₁ h₂ ci2.nil)
end
section
variable {ρ α:Type} {X:Cx} {ks:List K} {tm:List (Nat × T)} {hp:List (Nat × G6)} {Q:ρ -> Exit -> St -> Prop} {all:Array Oper} {o:Oper} {rest:List Oper}
end
abbrev NI (x:Int):T:=.t (tI x)
abbrev NB (x:Bool):T:=.t (tB x)
abbrev NS {α:Type}(e:α->List Tree)(l:List α):T:=.t (tS e l)
inductive Cf where
 |S (ks:List K) (σ:St)
 |O (all:Array Oper) (ops:List Oper) (ks:List K) (σ:St)
def adv (C8:Tab)(nt:Nat):Nat->Cf->Cf
 |0,c=>c
 |n+1,.S (.c (.seq x y)::ks) σ=>adv C8 nt n (.S (.c x:: .c y::ks) σ)
 |n+1,.S (.c .skip::ks) σ=>adv C8 nt n (.S ks σ)
 |n+1,.S (.c (.block id x)::ks) σ=>adv C8 nt n (.S (.c x:: .e id::ks) σ)
 |n+1,.S (.e _::ks) σ=>adv C8 nt n (.S ks σ)
 |n+1,.S (.c (.region _ ops false)::ks) σ=>adv C8 nt n (.O ops ops.toList ks σ)
 |n+1,.O _ [] ks σ=>adv C8 nt n (.S ks σ)
 |n+1,.O all (o::r) ks σ=>match cy0 C8 nt all.toList 1 (o::r) σ with
  |(ops,σ')=>adv C8 nt n (.O all ops ks σ')
 |_+1,c=>c
section
variable {ρ τ:Type} {X:Cx} {ks ks':List K} {σ σ':St} {m:Option ρ} {Q:ρ -> Exit -> St -> Prop} {all all':Array Oper} {ops co2:List Oper}
def fc6 {ρ:Type}(X:Cx)(c:Cf)(m:Option ρ)(Q:ρ->Exit->St->Prop):Prop:=match c with
 | .S ks σ=>E9 X ks σ m Q
 | .O all ops ks σ=>B9 X all ops ks σ m Q
def cb0:∀(n:Nat) (c:Cf),fc6 X (adv X.C8 X.nt n c) m Q->fc6 X c m Q:=by
 intro n
 induction n with
 |zero=>intro c h;exact h
 |succ n ih=>
  intro c h
  unfold adv at h
  split at h
  ·cases‹_=_›
  ·rename_i e;cases e;exact E9.seq (ih _ h)
  ·rename_i e;cases e;exact E9.skip (ih _ h)
  ·rename_i e;cases e;exact E9.block (ih _ h)
  ·rename_i e;cases e;exact E9.fe8 (ih _ h)
  ·rename_i e;cases e;exact E9.region (ih _ h)
  ·rename_i e;cases e;exact B9.nil (ih _ h)
  ·rename_i all o r ks σ e
   cases e
   split at h
   rename_i he
   exact B9.run 1 he (ih _ h)
  ·exact h
theorem E9.o (n:Nat)(he:adv X.C8 X.nt n (.S ks σ)= .O all ops ks' σ')(h:B9 X all ops ks' σ' m Q):E9 X ks σ m Q:=cb0 (X:=X) n (.S ks σ) (by rw[he];exact h)
theorem E9.s (n:Nat)(he:adv X.C8 X.nt n (.S ks σ)= .S ks' σ')(h:E9 X ks' σ' m Q):E9 X ks σ m Q:=cb0 (X:=X) n (.S ks σ) (by rw[he];exact h)
theorem B9.o (n:Nat)(he:adv X.C8 X.nt n (.O all ops ks σ)= .O all' co2 ks' σ')(h:B9 X all' co2 ks' σ' m Q):B9 X all ops ks σ m Q:=cb0 (X:=X) n (.O all ops ks σ) (by rw[he];exact h)
theorem B9.s (n:Nat)(he:adv X.C8 X.nt n (.O all ops ks σ)= .S ks' σ')(h:E9 X ks' σ' m Q):B9 X all ops ks σ m Q:=cb0 (X:=X) n (.O all ops ks σ) (by rw[he];exact h)
theorem E9.l {r:ρ}(n:Nat)(he:adv X.C8 X.nt n (.S ks σ)= .S [] σ')(h:Q r .normal σ'):E9 X ks σ (some r) Q:=E9.s n he (.leaf h)
theorem B9.l {r:ρ}(n:Nat)(he:adv X.C8 X.nt n (.O all ops ks σ)= .S [] σ')(h:Q r .normal σ'):B9 X all ops ks σ (some r) Q:=B9.s n he (.leaf h)
theorem E9.r {r:ρ}(n:Nat)(he:adv X.C8 X.nt n (.S ks σ)= .S (.c .ret::ks') σ')(h:Q r .ret σ'):E9 X ks σ (some r) Q:=E9.s n he (.ret h)
theorem B9.r {r:ρ}(n:Nat)(he:adv X.C8 X.nt n (.O all ops ks σ)= .S (.c .ret::ks') σ')(h:Q r .ret σ'):B9 X all ops ks σ (some r) Q:=B9.s n he (.ret h)
abbrev nrm {τ:Type}(f:τ->St):τ->Exit->St->Prop:=fun t e σ'=>e= .normal/\Sub (f t) σ'
def lf {e:Exit}{σ₁:St}(h₁:σ₁.tm.map (dx8 σ.tm)=σ₁.tm.map (fun p=>some p.2))(h₂:σ₁.hp.map (bF5 σ.hp)=σ₁.hp.map (fun p=>some p.2)):e=e/\Sub σ₁ σ:=⟨rfl,.of h₁ h₂⟩
theorem rt {p q:Prop}(h:p):(Exit.ret=Exit.ret\/q)/\p:=⟨.inl rfl,h⟩
def eN6 (nt:Nat)(all:Array Oper)(tm:List (Nat×T))(o:Oper):Option (Nat×List T×Nat):=match ai6 all.toList tm o.guard with
 |some true=>match dt7 tm o with
  |some (n,targs,aW8)=>match bn7 [] targs,o.dst with
   |some aD0,some d=>bif bi3 d nt then some (n,aD0++aW8.map T.el,d)else none
   |_,_=>none
  |none=>none
 |_=>none
theorem B9.k {d1:Bool}{o:Oper}{rest:List Oper}{n d:Nat}{args:List T}{m₁:Option τ}{res:τ->T}{k:τ->Option ρ}{tm:List (Nat×T)}{hp:List (Nat×G6)}(hc:aM2 X.P n args m₁ res d1)
  (ho:eN6 X.nt all tm o=some (n,args,d)) (h:∀t,B9 X all rest ks ⟨(d,res t)::tm,hp⟩ (k t) Q) (hd0:X.L.dr=true->d1=true:=by intro _;rfl):B9 X all (o::rest) ks ⟨tm,hp⟩ (m₁.bind k) Q:=by
 unfold eN6 at ho
 split at ho<;>try(cases ho;done)
 rename_i hg
 split at ho<;>try(cases ho;done)
 rename_i n' targs aW8 hz
 split at ho<;>try(cases ho;done)
 rename_i aD0 d' hf hd
 cases hb:bi3 d' X.nt with
 |false=>grind
 |true=>
  rw[hb]at ho
  simp only[fk7,aI6,ba7]at ho
  obtain⟨rfl,rfl,rfl⟩:=ho
  exact B9.call (σ₂:=fun t=>⟨(d',res t)::tm,hp⟩) hg hz hf hc (fun t=>by rw[hd];simp only[bw8,hb,fk7]) h hd0
theorem aM2.i {d:Bool}{P:Program}{C8:Tab}(K6:aW1 P C8){n:Nat}{fn:Func}{c:Code}{args:List T}{m:Option τ}{res:τ->T}(nt:Nat)(rs:List ResultVar)
  (aL6:∀vs w,(callFunc n vs).run P w= .ok (.enter n vs) w) (hf:P.funcs[n]? =some fn) (hb:fn.body=some c) (hnt:fn.ntmps=nt) (hrs:fn.results.toList=rs) (hsz:dE8 args.length nt=true)
  (body:∀(w0:World) (L:Lim) (gl:GlL P w0 L.bs2) (_:L.dr=d),E9 ⟨P,C8,K6,w0,L,nt,gl⟩ [.c c] ⟨number 0 args,[]⟩ m (fun r e σ'=>(e= .ret\/e= .normal)/\dp1 C8 σ' rs=some (res r))):aM2 P n args m res d:=aM2.intro K6 nt rs aL6 hf hb hnt hrs (bd6 hsz) body
theorem bh6.i {d:Bool}{P:Program}{C8:Tab}(K6:aW1 P C8){n:Nat}{fn:Func}{c:Code}{args:List T}{hp:List (Nat×G6)}{m:Option τ}{res:τ->T}{X8:τ->List (Nat×G6)}(nt:Nat)(rs:List ResultVar)
  (aL6:∀vs w,(callFunc n vs).run P w= .ok (.enter n vs) w) (hf:P.funcs[n]? =some fn) (hb:fn.body=some c) (hnt:fn.ntmps=nt) (hrs:fn.results.toList=rs) (hsz:dE8 args.length nt=true)
  (body:∀(w0:World) (L:Lim) (gl:GlL P w0 L.bs2) (_:L.dr=d),E9 ⟨P,C8,K6,w0,L,nt,gl⟩ [.c c] ⟨number 0 args,hp⟩ m (fun r e σ'=>(e= .ret\/e= .normal)/\eQ7 C8 σ' rs (res r) (X8 r))):bh6 P n args hp m res X8 d:=bh6.intro K6 nt rs aL6 hf hb hnt hrs (bd6 hsz) body
end
def dt5 (nt:Nat)(all:Array Oper)(tm:List (Nat×T))(hp:List (Nat×G6))(o:Oper)(lm nm:List (Nat×Nat))(aD0:List T)(chp:List (Nat×G6)):
  Option (Nat×List T×List T×List (Nat×G6)×Nat×List (Nat×G6)):=match ai6 all.toList tm o.guard with
 |some true=>match Pv.bD9 tm o,bT2 lm aD0,aS4 lm chp,o.dst with
  |some (n,targs),some an4,some aO7,some d=>bif bq0 lm nm tm hp&&bi3 d nt then some (n,targs,an4,aO7,d,aq3 lm hp)else none
  |_,_,_,_=>none
 |_=>none
section
variable {ρ τ:Type} {X:Cx} {ks:List K} {m:Option ρ} {Q:ρ -> Exit -> St -> Prop} {all:Array Oper}
theorem B9.g {d1:Bool}{o:Oper}{rest:List Oper}{n d:Nat}{targs an4 aD0:List T}{chp aO7 hp2:List (Nat×G6)}{m₁:Option τ}{res:τ->T}{bI5:τ->List (Nat×G6)}{k:τ->Option ρ}{tm:List (Nat×T)}{hp:List (Nat×G6)}(lm nm:List (Nat×Nat))
  {dM1:τ->T}{rhp:τ->List (Nat×G6)} (hc:bh6 X.P n aD0 chp m₁ res bI5 d1) (he:dt5 X.nt all tm hp o lm nm aD0 chp=some (n,targs,an4,aO7,d,hp2)) (hmr:bF6 targs an4=an4)
  (cn0:aO7.map (bF5 hp)=aO7.map (fun p=>some p.2)) (dw6:∀t,aN2 (lm++nm) (res t)=some (dM1 t)) (hrhp:∀t,aS4 (lm++nm) (bI5 t)=some (rhp t))
  (h:∀t,m₁=some t->B9 X all rest ks ⟨(d,dM1 t)::tm,rhp t++hp2⟩ (k t) Q) (hd0:X.L.dr=true->d1=true:=by intro _;rfl):B9 X all (o::rest) ks ⟨tm,hp⟩ (m₁.bind k) Q:=by
 unfold dt5 at he
 split at he<;>try(cases he;done)
 rename_i hg
 split at he<;>try(cases he;done)
 rename_i n' targs0 targs1 rchp1 d' ho ha hr hd
 cases hb:(bq0 lm nm tm hp&&bi3 d' X.nt)with
 |false=>grind
 |true=>
  rw[hb]at he
  simp only[fk7,aI6,ba7]at he
  obtain⟨rfl,rfl,rfl,rfl,rfl,rfl⟩:=he
  rw[aK5]at hb
  intro r hr' a w ⟨S,E,hk⟩
  cases hm₁:m₁ with
  |none=>grind
  |some t=>
   simp only[hm₁,aF2]at hr'
   have hm:=hb.1
   obtain⟨vs,bg9,hv⟩:=dt4 hk ho hc.1
   let Ec:Nat->Value:=fun i=>match look lm i with|some j=>E j|none=>E i
   have hEc:∀i j,look lm i=some j->Ec i=E j:=fun i j h=>by simp[Ec,h]
   have de4:RVL w S Ec vs aD0:=by
    have h1:=bW3 (u:=targs1) hv
    grind [bt3]
   have ce9:∀p∈rchp1,∃b',look hp p.1=some b'/\cn8 b' p.2=p.2:=by
    intro p X8
    obtain⟨n,hn,rfl⟩:=cW9.1 X8
    have:(rchp1.map (bF5 hp))[n]? =(rchp1.map (fun p=>some p.2))[n]?:=by rw[cn0]
    grind [bF5]
   have hO:ci6 w S Ec chp:=by
    refine⟨fun i b hb=>?_,fun i b β hb hβ=>?_,fun i i' b b' β hb hb' hβ hβ'=>?_⟩
    ·obtain⟨j,b',e1,e2,e3⟩:=bk3 hr hb
     obtain⟨b0,e4,e5⟩:=ce9 _ e3
     have h1:=dn2 (u:=b') (hk.hp j b0 e4)
     rw[show cn8 b0 b'=b' from e5]at h1
     rw[hEc i j e1]
     exact eg4 (fun i j h=>(hEc i j h).symm) h1 e2
    ·obtain⟨j,b',e1,e2,e3⟩:=bk3 hr hb
     obtain⟨b0,e4,e5⟩:=ce9 _ e3
     rw[hEc i j e1]at hβ
     have:=hk.own j b0 β e4 hβ
     exact⟨this.1,this.2.1⟩
    ·obtain⟨j,b1,e1,e2,e3⟩:=bk3 hr hb
     obtain⟨b0,e4,e5⟩:=ce9 _ e3
     obtain⟨j',b1',e1',e2',e3'⟩:=bk3 hr hb'
     obtain⟨b0',e4',e5'⟩:=ce9 _ e3'
     rw[hEc i j e1]at hβ
     rw[hEc i' j' e1']at hβ'
     have:=hk.au2 j j' b0 b0' β e4 e4' hβ hβ'
     subst this
     have hm':=hm
     simp only[bq0,aK5]at hm'
     have nd:=(nodup_append (by simpa using hm'.1.1)).1
     have r1:=bF7 nd e1
     rw[bF7 nd e1']at r1
     exact(ca0 r1).symm
   have aL6:=hc.2 t hm₁ w S Ec vs (X.glG hk (fun β ⟨i,b,hb,hβ⟩=>by
    obtain⟨j,b',e1,e2,e3⟩:=bk3 hr hb
    obtain⟨b0,e4,_⟩:=ce9 _ e3
    rw[hEc i j e1]at hβ
    exact⟨j,b0,e4,hβ⟩)) hk.aH9 hO de4
   refine wpList_step fun K hK=>?_
   rw[T7 hk hg,if_pos rfl]
   unfold Oper.wp
   rw[bg9,Oper.upon_enter]
   refine aL6.mono fun e w' ⟨v,S',E',he,hv',aL7,h1,h2,hO',h3,h4⟩=>?_
   subst he
   have au3:∀t,bw8 X.nt o.dst (dM1 t) ⟨tm,rhp t++aq3 lm hp⟩=some ⟨(d',dM1 t)::tm,rhp t++aq3 lm hp⟩:=fun t=>by rw[hd];simp only[bw8,hb.2,fk7]
   obtain⟨S2,E2,hok,hrv⟩:=hk.called hm hr cn0 hEc hv' (aL7.dN8 hd0) h1 h2 hO' h3 h4 (dw6 t) (hrhp t)
   exact hK _ _ (h t hm₁ r hr' _ _ ⟨S2,E2,bA5 hok hrv (au3 t)⟩)
end
section
variable {X:Cx} {all:Array Oper} {Vs:List T} {tm0:List (Nat × T)} {hp:List (Nat × G6)} {o:Oper} {ops:List Oper} {V:T} {l:List T}
end
def chain (ops:Array Oper)(l:List Bool):List Nat->List (Nat×Nat)
 |[]=>[]
 |i::r=>(i,match ops[i]?with|some o=>bif dT5 o.op then 0 else 2*bitsOf ((di4 ops.size).map fun j=>(!(l.getD j true))&&waits ops.toList ops.size j i)+1|none=>0)::chain ops (l.set i true) r
 where bitsOf:List Bool->Nat
 |[]=>0
 |b::r=>(bif b then 1 else 0)+2*bitsOf r
section
variable {X:Cx} {ops:Array Oper} {fe:Nat} {le l:List Bool} {σ':St}
def aT4.ga {n:Nat}{tm tm':List (Nat×T)}{hp:List (Nat×G6)}(fuel:Nat)(is:List Nat)(hb:(br8 (fuel+(chain ops l is).length) n&&em2 X.nt ops (chain ops l is) l)=true)(he:evA X.C8 ops (is.map fun i=>(i,0)) tm hp=some tm')
  (h:aT4 X ops fe le fuel (cR4 (is.map fun i=>(i,0)) l) ⟨tm',hp⟩ σ'):aT4 X ops fe le n l ⟨tm,hp⟩ σ':=by
 rw[aK5]at hb
 have e1:∀(is:List Nat) (l l':List Bool) (tm:List (Nat×T)),evA X.C8 ops (chain ops l' is) tm hp=evA X.C8 ops (is.map fun i=>(i,0)) tm hp:=by
  intro is
  induction is with
  |nil=>intro l l' tm;rfl
  |cons i r ih=>
   simp_all[chain,evA]
 have e2:∀(is:List Nat) (l l':List Bool),cR4 (chain ops l' is) l=cR4 (is.map fun i=>(i,0)) l:=by
  intro is
  induction is with
  |nil=>intro l l';rfl
  |cons i r ih=>grind [chain,cR4]
 exact aT4.go fuel (chain ops l is) (bq8 hb.1) hb.2 ((e1 is l l tm).trans he) (by grind)
end
structure GK:Type 1 where
 {α:Type}
 enc:α->List Tree
 l:List α
 i:Int
inductive V:Type 1 where
 |mk {α:Type} (a:α)
 |gf (f:GK)
inductive Tr:Type 1 where
 |ok
 |bad
 |eq (a b:V)
 |and (x y:Tr)
 |all {τ:Type} (f:τ->Tr)
def Tr.den:Tr->Prop
 | .ok=>True
 | .bad=>False
 | .eq a b=>a=b
 | .and x y=>x.den/\y.den
 | .all f=>∀t,(f t).den
inductive Tv:Type 1 where
 |ok
 |no (b:Bool)
 |v (a:V)
 |and (x y:Tv)
 |all {τ:Type} (f:τ->Tv)
def Tr.l:Tr->Tv
 | .ok=>.ok
 | .bad=>.no false
 | .eq a _=>.v a
 | .and x y=>.and x.l y.l
 | .all f=>.all fun t=>(f t).l
def Tr.r:Tr->Tv
 | .ok=>.ok
 | .bad=>.no true
 | .eq _ b=>.v b
 | .and x y=>.and x.r y.r
 | .all f=>.all fun t=>(f t).r
theorem Tr.of:∀{x:Tr},x.l=x.r->x.den
 | .ok,_=>trivial
 | .bad,h=>by simp[Tr.l,Tr.r]at h
 | .eq a b,h=>by
  show a=b
  simpa[Tr.l,Tr.r]using h
 | .and x y,h=>by
  simp only[Tr.l,Tr.r,Tv.and.injEq]at h
  exact⟨Tr.of h.1,Tr.of h.2⟩
 | .all f,h=>by
  simp only[Tr.l,Tr.r,Tv.all.injEq,heq_eq_eq,true_and]at h
  exact fun t=>Tr.of (congrFun h t)
def V.eq {α:Type}{a b:α}(h:V.mk a=V.mk b):a=b:=by grind
def dC6 (σ₁ σ:St):Tr:=.and (.eq (.mk (σ₁.tm.map (dx8 σ.tm))) (.mk (σ₁.tm.map fun p=>some p.2))) (.eq (.mk (σ₁.hp.map (bF5 σ.hp))) (.mk (σ₁.hp.map fun p=>some p.2)))
def cq6 {σ₁ σ:St}(h:(dC6 σ₁ σ).den):Sub σ₁ σ:=.of (V.eq h.1) (V.eq h.2)
def aE6 (d:Nat):List Nat->Bool
 |[]=>false
 |x::l=>bif br8 x d then true else aE6 d l
def gk (all:List Oper)(kb:List Nat)(tm:List (Nat×T)):Option (Nat×Bool)->Option Bool
 |none=>some true
 |some (j,want)=>match all[j]?with
  |some o=>match o.dst with
   |some d=>match look tm d with
    |some (.t (.v (.bool b)))=>bif aE6 d kb then some (match want with|true=>b|false=>!b)else none
    |some (.t (.v (.tuple _)))=>some false
    |_=>none
   |none=>none
  |none=>none
theorem aG2 {all:List Oper}{kb:List Nat}{tm:List (Nat×T)}{g:Option (Nat×Bool)}{b:Bool}(h:gk all kb tm g=some b):ai6 all tm g=some b:=by
 cases g with
 |none=>exact h
 |some p=>
  obtain⟨j,want⟩:=p
  simp only[gk]at h
  simp only[ai6]
  grind
def rmv:List Nat->List (Nat×T)->List (Nat×T)
 |_,[]=>[]
 |ds,(k,x)::r=>bif aE6 k ds then rmv ds r else(k,x)::rmv (k::ds) r
def aW4:List Oper->List Nat
 |[]=>[]
 |o::r=>match o.dst with|some d=>d::aW4 r|none=>aW4 r
def dL2:Op->Bool
 | .binOp op _ _ y _=>match op with
  | .quo| .rem| .shl| .shr=>(match y with| .const _=>true|_=>false)
  |_=>true
 | .index _ _ y=>(match y with| .const _=>true|_=>false)
 | .indexAddr _ _ y=>(match y with| .const _=>true|_=>false)
 |_=>true
def ea7 (o:Op):Bool:=bB6 o&&dL2 o
def df1 {o:Op}(h:ea7 o=true):bB6 o=true:=by
 simp_all[ea7]
def cut (d:Nat):List Oper->Option (List Oper×Nat×Op×List Oper)
 |[]=>none
 |o::r=>match(match o.op with| .pick (.tmp k) _ _=>br8 k d|_=>false),o.dst with
  |true,some q=>some ([o],q,o.op,r)
  |_,_=>match cut d r with
   |some (g,q,op,r')=>some (o::g,q,op,r')
   |none=>none
theorem dI0 {d:Nat}:∀{l g r:List Oper}{q:Nat}{op:Op},cut d l=some (g,q,op,r)->l=g++r
 |[],_,_,_,_,h=>by cases h
 |o::l,g,r,q,op,h=>by
  unfold cut at h
  split at h
  ·grind
  ·split at h<;>try(cases h;done)
   rename_i hc
   simp only[aI6,ba7]at h
   obtain⟨rfl,rfl,rfl,rfl⟩:=h
   rw[dI0 hc];rfl
def comb (b v w:Bool):Op->Option Bool
 | .pick _ _ (.const (.bool false))=>match w with|false=>some (b&&v)|true=>none
 | .pick _ (.const (.bool true)) _=>match v with|true=>some (b||w)|false=>none
 |_=>some (bif b then v else w)
def eE9 {b v w c:Bool}{op:Op}(h:comb b v w op=some c):c=bif b then v else w:=by
 unfold comb at h
 grind
mutual
def evG (C8:Tab)(nt:Nat)(all:List Oper)(hp:List (Nat×G6)):Nat->List Nat->List Oper->List (Nat×T)->Option (List (Nat×T))
 |0,_,_,_=>none
 |_+1,_,[],tm=>some tm
 |f+1,kb,o::r,tm=>match gk all kb tm o.guard with
  |some true=>bif ea7 o.op then match evalOp C8 ⟨tm,hp⟩ o,o.dst with
    |some (t,_),some d=>bif bi3 d nt then evG C8 nt all hp f kb r ((d,t)::tm)else none
    |_,_=>none
   else none
  |some false=>match o.dst with
   |some d=>bif bi3 d nt then evG C8 nt all hp f kb r ((d,.t (.v undef))::tm)else none
   |none=>none
  |none=>match evP C8 nt all hp f kb (o::r) tm with
   |some (r',tm')=>evG C8 nt all hp f kb r' tm'
   |none=>none
def evP (C8:Tab)(nt:Nat)(all:List Oper)(hp:List (Nat×G6)):Nat->List Nat->List Oper->List (Nat×T)->Option (List Oper×List (Nat×T))
 |0,_,_,_=>none
 |f+1,kb,ops,tm=>match ops with
  |[]=>none
  |o::_=>match o.guard with
   |none=>none
   |some (j,_)=>match all[j]?with
    |none=>none
    |some oj=>match oj.dst with
     |none=>none
     |some d=>match look tm d,cut d ops with
      |some (.t (.v (.bool b))),some (g,q,op,r)=>match evG C8 nt all hp f (d::kb) g ((d,.t (.v (.bool true)))::tm),evG C8 nt all hp f (d::kb) g ((d,.t (.v (.bool false)))::tm)with
       |some t1,some t2=>match look t1 q,look t2 q with
        |some (.t (.v (.bool v))),some (.t (.v (.bool w)))=>match comb b v w op with
         |some c=>some (r,(q,.t (.v (.bool c)))::rmv (aW4 g) tm)
         |none=>none
        |_,_=>none
       |_,_=>none
      |_,_=>none
end
def stO (C8:Tab)(nt:Nat)(all:List Oper)(kb:List Nat)(o:Oper)(r:List Oper)(tm:List (Nat×T))(hp:List (Nat×G6)):Option (List Oper×St):=
 match gk all kb tm o.guard with
 |some true=>bif dL2 o.op then(match cI1 C8 tm hp o with
  |some (t,σ)=>match bw8 nt o.dst t σ with
   |some σ'=>some (r,σ')
   |none=>none
  |none=>none)else none
 |some false=>match bw8 nt o.dst (.t (.v undef)) ⟨tm,hp⟩with
  |some σ'=>some (r,σ')
  |none=>none
 |none=>match evP C8 nt all hp 64 kb (o::r) tm with
  |some (r',tm')=>some (r',⟨tm',hp⟩)
  |none=>none
end Go.Pv
namespace Go.Pv
open Go.RowKit
theorem bt2 {k d:Nat}{l:List Nat}:aE6 k (d::l)=false↔d≠k/\aE6 k l=false:=by
 simp only[aE6]
 cases hb:br8 d k
 ·simp only[fk6]
  exact⟨fun h=>⟨fun e=>by simp_all,h⟩,fun h=>h.2⟩
 simp_all
theorem L7 {α:Type}{d k:Nat}{x:α}{l:List (Nat×α)}(h:d≠k):look ((d,x)::l) k=look l k:=by simp[look,D2 h]
theorem cn5:∀{tm:List (Nat×T)}{ds:List Nat}{k:Nat},aE6 k ds=false->look (rmv ds tm) k=look tm k
 |[],ds,k,_=>rfl
 |(j,x)::r,ds,k,h=>by
  unfold rmv
  by_cases hjk:j=k
  ·simp_all[look]
  ·cases hj:aE6 j ds<;>simp only[fk7,fk6]
   ·rw[L7 hjk,L7 hjk,cn5 (bt2.2 ⟨hjk,h⟩)]
   ·rw[cn5 h,L7 hjk]
theorem cU3:∀{tm:List (Nat×T)}{ds:List Nat}{k:Nat},aE6 k ds=true->look (rmv ds tm) k=none
 |[],_,_,_=>rfl
 |(j,x)::r,ds,k,h=>by
  unfold rmv
  cases hj:aE6 j ds<;>simp only[fk7,fk6]
  ·have hjk:j≠k:=fun e=>by subst e;rw[h]at hj;cases hj
   rw[L7 hjk]
   exact cU3 (by simp[aE6,h])
  ·exact cU3 h
def cn1 {ds:List Nat}{tm:List (Nat×T)}{k:Nat}{t:T}(h:look (rmv ds tm) k=some t):aE6 k ds=false/\look tm k=some t:=by
 cases hk:aE6 k ds
 ·exact⟨rfl,by rwa[cn5 hk]at h⟩
 grind [cU3]
def Sim.more {w0:World}{L:Lim}{nt:Nat}{tm tm':List (Nat×T)}{hp:List (Nat×G6)}{a:Act}{w:World}(hm:more tm' tm)(h:Sim w0 L nt ⟨tm,hp⟩ a w):Sim w0 L nt ⟨tm',hp⟩ a w:=by
 obtain⟨S,E,hk⟩:=h
 exact⟨S,E,{hk with tm:=fun k t ht=>hk.tm k t (hm k t ht)}⟩
section
variable {ρ:Type} {X:Cx} {ks:List K} {m:Option ρ} {Q:ρ -> Exit -> St -> Prop} {all:Array Oper} {tm tm':List (Nat × T)} {hp:List (Nat × G6)} {ops:List Oper}
def B9.more (hm:more tm' tm)(h:B9 X all ops ks ⟨tm',hp⟩ m Q):B9 X all ops ks ⟨tm,hp⟩ m Q:=fun r hr a w hw=>h r hr a w (hw.more hm)
theorem dx1 {k:Nat}:∀{l l':List Nat},aE6 k (l++l')=false↔aE6 k l=false/\aE6 k l'=false
 |[],l'=>by simp[aE6]
 |x::l,l'=>by
  rw[dy7,bt2,bt2,dx1]
  exact and_assoc.symm
theorem dd0:∀{l l':List Oper},aW4 (l++l')=aW4 l++aW4 l'
 |[],_=>rfl
 |o::l,l'=>by
  simp only[dy7,aW4]
  split<;>simp[dd0]
def cA8 {C8:Tab}{tm:List (Nat×T)}{hp:List (Nat×G6)}{o:Oper}{t:T}{σ':St}(hi:bB6 o.op=true)(he:evalOp C8 ⟨tm,hp⟩ o=some (t,σ')):σ'=⟨tm,hp⟩:=by
 rw[aU6]at he
 obtain⟨dst,op,type,pos,aft,guard⟩:=o
 cases op<;>simp only[bB6,reduceCtorEq]at hi<;>simp only[bl5]at he<;>
 first
  |exact(S6 he).2
  |(repeat' split at he)<;>first
    |(cases he;done)
    |exact(S6 he).2
    |(simp only[aI6,ba7]at he;grind)
    |grind [dV4]
    |grind
def dP7 {d:Nat}:∀{l g r:List Oper}{q:Nat}{op:Op},cut d l=some (g,q,op,r)->aE6 q (aW4 g)=true
 |[],_,_,_,_,h=>by cases h
 |o::l,g,r,q,op,h=>by
  unfold cut at h
  split at h
  ·rename_i hd
   simp only[aI6,ba7]at h
   obtain⟨rfl,rfl,_,rfl⟩:=h
   simp[aW4,hd,aE6]
  ·split at h<;>try(cases h;done)
   rename_i hc
   simp only[aI6,ba7]at h
   obtain⟨rfl,rfl,rfl,rfl⟩:=h
   have:=dP7 hc
   unfold aW4
   split
   ·simp only[aE6];cases br8 _ _<;>simp[this]
   ·exact this
def Sim.lit {w0:World}{L:Lim}{nt:Nat}{tm:List (Nat×T)}{hp:List (Nat×G6)}{a:Act}{w:World}{d:Nat}{x:T}(hd:look tm d=some x)(h:Sim w0 L nt ⟨tm,hp⟩ a w):Sim w0 L nt ⟨(d,x)::tm,hp⟩ a w:=
 h.more fun k t hk=>by
  by_cases hdk:d=k
  ·simp_all[look]
  grind [L7]
def eO2:∀(f:Nat),
  (∀(kb:List Nat) (ops:List Oper) (tm tm1:List (Nat×T)),evG X.C8 X.nt all.toList hp f kb ops tm=some tm1->(∀k,aE6 k (aW4 ops)=false->look tm1 k=look tm k)/\∀(rest:List Oper),B9 X all rest ks ⟨tm1,hp⟩ m Q->B9 X all (ops++rest) ks ⟨tm,hp⟩ m Q)/\
  (∀(kb:List Nat) (ops r:List Oper) (tm tm1:List (Nat×T)),evP X.C8 X.nt all.toList hp f kb ops tm=some (r,tm1)->(∀k,aE6 k (aW4 ops)=false->aE6 k (aW4 r)=false/\look tm1 k=look tm k)/\∀(rest:List Oper),B9 X all (r++rest) ks ⟨tm1,hp⟩ m Q->B9 X all (ops++rest) ks ⟨tm,hp⟩ m Q)
 |0=>⟨fun kb ops tm tm1 h=>by simp[evG]at h,fun kb ops r tm tm1 h=>by simp[evP]at h⟩
 |f+1=>by
  obtain⟨ih1,ih2⟩:=eO2 f
  refine⟨fun kb ops tm tm1 h=>?_,fun kb ops r tm tm1 h=>?_⟩
  ·cases ops with
   |nil=>
    simp only[evG,aI6]at h
    grind
   |cons o r=>
    unfold evG at h
    split at h
    ·rename_i hg
     cases X8:ea7 o.op<;>simp only[X8,fk7,fk6,reduceCtorEq]at h
     have X8:=df1 X8
     split at h<;>try(cases h;done)
     rename_i t σ' d he hd
     cases hb:bi3 d X.nt<;>simp only[hb,fk7,fk6,reduceCtorEq]at h
     obtain⟨h1,h2⟩:=ih1 _ _ _ _ h
     refine⟨fun k hk=>?_,fun rest hr=>?_⟩
     ·grind [aW4,bt2,L7]
     ·have hσ:σ'=⟨tm,hp⟩:=cA8 X8 he
      subst hσ
      exact .step (aG2 hg) he (by rw[hd];simp only[bw8,hb,fk7]) (h2 rest hr)
    ·rename_i hg
     split at h<;>try(cases h;done)
     rename_i d hd
     cases hb:bi3 d X.nt<;>simp only[hb,fk7,fk6,reduceCtorEq]at h
     obtain⟨h1,h2⟩:=ih1 _ _ _ _ h
     refine⟨fun k hk=>?_,fun rest hr=>?_⟩
     ·grind [aW4,bt2,L7]
     ·exact .pass (aG2 hg) (by rw[hd];simp only[bw8,hb,fk7]) (h2 rest hr)
    grind
  ·unfold evP at h
   split at h<;>try(cases h;done)
   rename_i o r0
   split at h<;>try(cases h;done)
   split at h<;>try(cases h;done)
   split at h<;>try(cases h;done)
   rename_i d _
   split at h<;>try(cases h;done)
   rename_i b g q op r1 hl hc
   split at h<;>try(cases h;done)
   rename_i t1 t2 e1 e2
   split at h<;>try(cases h;done)
   rename_i v w hv hw
   split at h<;>try(cases h;done)
   rename_i c hcb
   simp only[aI6,ba7]at h
   obtain⟨rfl,rfl⟩:=h
   have aK8:=dI0 hc
   have hcomb:=eE9 hcb
   obtain⟨g1,g2⟩:=ih1 _ _ _ _ e1
   obtain⟨g3,g4⟩:=ih1 _ _ _ _ e2
   have hq:aE6 q (aW4 g)=true:=dP7 hc
   refine⟨fun k hk=>?_,fun rest hr=>?_⟩
   ·rw[aK8,dd0,dx1]at hk
    refine⟨hk.2,?_⟩
    have hqk:q≠k:=fun e=>by subst e;rw[hq]at hk;exact absurd hk.1 (by simp)
    rw[L7 hqk,cn5 hk.1]
   ·rw[aK8,List.append_assoc]
    intro r' hr' a' w' hw'
    cases b
    ·refine g4 (r1++rest) (B9.more (fun k t hk=>?_) hr) r' hr' a' w' (Sim.lit hl hw')
     simp only[look]at hk
     by_cases hqk:q=k
     ·subst hqk
      simp only[cG4,fk7,aI6]at hk
      subst hk;rw[hw,hcomb];rfl
     ·simp only[D2 hqk,fk6]at hk
      obtain⟨h5,h6⟩:=cn1 hk
      rw[g3 k h5]
      by_cases hdk:d=k
      ·subst hdk;rw[hl]at h6;simpa[look]using h6
      ·rw[L7 hdk];exact h6
    ·refine g2 (r1++rest) (B9.more (fun k t hk=>?_) hr) r' hr' a' w' (Sim.lit hl hw')
     simp only[look]at hk
     by_cases hqk:q=k
     ·subst hqk
      simp only[cG4,fk7,aI6]at hk
      subst hk;rw[hv,hcomb];rfl
     ·simp only[D2 hqk,fk6]at hk
      obtain⟨h5,h6⟩:=cn1 hk
      rw[g1 k h5]
      by_cases hdk:d=k
      ·subst hdk;rw[hl]at h6;simpa[look]using h6
      ·rw[L7 hdk];exact h6
def eY8 {kb:List Nat}{o:Oper}{r r':List Oper}{σ':St}(h:stO X.C8 X.nt all.toList kb o r tm hp=some (r',σ'))(k:B9 X all r' ks σ' m Q):B9 X all (o::r) ks ⟨tm,hp⟩ m Q:=by
 unfold stO at h
 split at h
 ·rename_i hg
  cases hq:dL2 o.op<;>rw[hq]at h<;>simp only[fk7,fk6,reduceCtorEq]at h
  split at h<;>try(cases h;done)
  rename_i he
  split at h<;>try(cases h;done)
  rename_i hpt
  simp only[aI6,ba7]at h
  obtain⟨rfl,rfl⟩:=h
  exact .step (aG2 hg) he hpt k
 ·rename_i hg
  split at h<;>try(cases h;done)
  rename_i hpt
  simp only[aI6,ba7]at h
  obtain⟨rfl,rfl⟩:=h
  exact .pass (aG2 hg) hpt k
 ·split at h<;>try(cases h;done)
  rename_i he
  simp only[aI6,ba7]at h
  obtain⟨rfl,rfl⟩:=h
  have:=((eO2 (X:=X) (ks:=ks) (m:=m) (Q:=Q) (all:=all) (hp:=hp) 64).2 _ _ _ _ _ he).2 [] (by grind)
  grind
theorem E9.out {id:Nat}{σ:St}(hp:bw7 id ks=none)(h:ab8 X [] (.exit id) σ m Q):E9 X (.c (.exit id)::ks) σ m Q:=fun r hr a w hw=>
 wp_exit (ay2 hp (h r hr a w hw))
end
structure C (P:Program)(τ:Type)where
 n:Nat
 args:List T
 m:Option τ
 e:Nat->Option τ
 res:τ->T
 d:Bool
 ok:aM2 P n args m res d
 le:∀k r,e k=some r->m=some r
structure CG (P:Program)(τ:Type)where
 n:Nat
 args:List T
 hp:List (Nat×G6)
 m:Option τ
 e:Nat->Option τ
 res:τ->T
 X8:τ->List (Nat×G6)
 nw:List Nat
 d:Bool
 ok:bh6 P n args hp m res X8 d
 le:∀k r,e k=some r->m=some r
structure Cl (P:Program)(α β:Type)(A:α->List T)(R:β->T)where
 n:Nat
 cs:List (List Tree)
 f:α->Option β
 e:Nat->α->Option β
 ok:∀x,aM2 P n (A x++cs.map T.el) (f x) R
 le:∀k x r,e k x=some r->f x=some r
def Cl.at {P:Program}{α β:Type}{A:α->List T}{R:β->T}(c:Cl P α β A R)(x:α):C P β:=⟨c.n,A x++c.cs.map T.el,c.f x,fun k=>c.e k x,R,true,c.ok x,fun k=>c.le k x⟩
def CG.f {P:Program}{τ:Type}(c:CG P τ)(h0:c.hp=[])(h:∀r,bb2 (c.X8 r) (c.res r)=some ((bb2 (c.X8 r) (c.res r)).getD .any)):C P τ:=
 ⟨c.n,c.args,c.m,c.e,fun r=>(bb2 (c.X8 r) (c.res r)).getD .any,c.d,bh6.toF (h0▸c.ok) h,c.le⟩
def Cl.of {P:Program}{α β:Type}{A:α->List T}{R:β->T}(c:α->C P β)(n:Nat)(cs:List (List Tree))(hn:∀x,(c x).n=n:=by intro _;rfl)(ha:∀x,(c x).args=A x++cs.map T.el:=by intro _;rfl)(hr:∀x,(c x).res=R:=by intro _;rfl)(hd:∀x,(c x).d=true:=by intro _;rfl):Cl P α β A R:=
 ⟨n,cs,fun x=>(c x).m,fun k x=>(c x).e k,fun x=>hn x▸ha x▸hr x▸hd x▸(c x).ok,fun k x=>(c x).le k⟩
def dx9 {S B:Type}(mb:S->Option (S⊕B)):Nat->S->Option B
 |0,_=>none
 |n+1,s=>match mb s with
  |some (.inl s')=>dx9 mb n s'
  |some (.inr b)=>some b
  |none=>none
def cR3 {S B:Type}{mb mb':S->Option (S⊕B)}(h:∀s f,mb' s=some f->mb s=some f):∀{n:Nat}{s:S}{b:B},dx9 mb' n s=some b->bL3 mb s b
 |0,_,_,hl=>by cases hl
 |n+1,s,b,hl=>by
  unfold dx9 at hl
  split at hl
  ·rename_i hm;exact .next (h _ _ hm) (cR3 h hl)
  ·rename_i hm;cases hl;exact .out (h _ _ hm)
  ·cases hl
abbrev tq {α:Type}(a b:α):Tr:=.eq (.mk a) (.mk b)
structure GF:Type 1 where
 {α:Type}
 enc:α->List Tree
 l:List α
 i:Int
 y:α
def GF.ok (f:GF):Prop:=E0 f.l f.i=some f.y
structure EqV (P:Program)where
 f:Nat->List T->List T->Option Bool
 ok:∀ty xs ys b,f ty xs ys=some b->∃vs us,xs=tvs vs/\ys=tvs us/\eh7 P ty vs us b
 dr:Bool:=true
def cat {α:Type}(enc:α->List Tree):List α->List Tree
 |[]=>[]
 |y::r=>enc y++cat enc r
inductive L1:Type->Type 1 where
 |ix {α:Type} (enc:α->List Tree) (l:List α) (i:Int):L1 α
 |quo (k:IntKind) (x y:Int):L1 Int
 |rem (x y:Int):L1 Int
 |shl (k:IntKind) (x y:Int):L1 Int
 |shr (k:IntKind) (x y:Int):L1 Int
 |str (s:ByteArray) (i:Int):L1 Int
 |arr {α:Type} (res:α->T) (ys:List α) (i:Int):L1 α
 |ax {α:Type} (enc:α->List Tree) (ys:List α) (i:Int):L1 α
 |ex8 (s t:ByteArray):L1 ByteArray
 |ef2 (b:Bool) (s t:ByteArray):L1 Bool
 |b2s (l:List Int):L1 ByteArray
def fd9 (s t:ByteArray):Option ByteArray:=if s.size+t.size<=9223372036854775807 then some (s++t)else none
def fj4 (s:ByteArray)(i:Int):Option Int:=(if 0<=i then s[i.toNat]?else none).map fun b=>(b.toNat:Int)
def L1.m:{τ:Type}->L1 τ->Option τ
 |_,.ix _ l i=>E0 l i
 |_,.quo k x y=>bo5 k x y
 |_,.rem x y=>cg2 x y
 |_,.shl k x y=>ey3 k x y
 |_,.shr k x y=>eL2 k x y
 |_,.str s i=>fj4 s i
 |_,.arr _ ys i=>E0 ys i
 |_,.ax _ ys i=>E0 ys i
 |_,.ex8 s t=>fd9 s t
 |_,.b2s l=>some (l.foldl (fun r n=>r.push (UInt8.ofNat n.toNat)) ByteArray.empty)
 |_,.ef2 b s t=>some (bif b then s.data.toList==t.data.toList else !(s.data.toList==t.data.toList))
def L1.k:{τ:Type}->L1 τ->τ->List GF->List GF
 |_,.ix enc l i,y,Γ=>⟨enc,l,i,y⟩::Γ
 |_,_,_,Γ=>Γ
def ek4 {α:Type}(a:Bool)(sz:Nat)(l:List T)(res:α->T):List α->Nat->Tr
 |[],_=>.ok
 |y::r,j=>.and (tq (bh3 a sz l (j*sz)) (some (res y))) (ek4 a sz l res r (j+1))
def L1.q (C8:Tab)(tm:List (Nat×T))(hp:List (Nat×G6))(o:Op):{τ:Type}->L1 τ->Option (Tr×(τ->T))
 |_,.ix enc l i=>match o with
  | .indexAddr ty x ii=>match val tm x,val tm ii,look C8 ty with
   |some X,some (.t (.v (.int _ j))),some ⟨_,.slice e,_⟩=>match look C8 e with
    |some te=>match X with
     | .own id=>match look hp id with
      |some (.rows _ sz n rs)=>bif br8 te.size sz then some (.and (tq (n,rs) (l.length,l.map enc)) (tq j i),fun _=>.pe id i.toNat sz 0)else none
      |_=>none
     |X=>some (.and (tq X (.t (tS enc l))) (.and (tq j i) (tq (α:=_->Nat) (fun y=>(enc y).length) (fun _=>te.size))),fun y=>.el (enc y))
    |none=>none
   |_,_,_=>none
  |_=>none
 |_,.quo k x y=>match o with
  | .binOp .quo _ a b _=>match val tm a,val tm b with
   |some (.t (.v (.int k1 x1))),some (.t (.v (.int k2 y1)))=>some (tq (k1,x1,k2,y1) (k,x,k,y),fun q=>.t (.v (.int k q)))
   |_,_=>none
  |_=>none
 |_,.rem x y=>match o with
  | .binOp .rem _ a b _=>match val tm a,val tm b with
   |some (.t (.v (.int k1 x1))),some (.t (.v (.int k2 y1)))=>some (tq (x1,k2,y1) (x,k1,y),fun q=>.t (.v (.int k1 q)))
   |_,_=>none
  |_=>none
 |_,.shl k x y=>match o with
  | .binOp .shl _ a b _=>match val tm a,val tm b with
   |some (.t (.v (.int k1 x1))),some (.t (.v (.int _ y1)))=>some (tq (k1,x1,y1) (k,x,y),fun q=>.t (.v (.int k q)))
   |_,_=>none
  |_=>none
 |_,.shr k x y=>match o with
  | .binOp .shr _ a b _=>match val tm a,val tm b with
   |some (.t (.v (.int k1 x1))),some (.t (.v (.int _ y1)))=>some (tq (k1,x1,y1) (k,x,y),fun q=>.t (.v (.int k q)))
   |_,_=>none
  |_=>none
 |_,.str s i=>match o with
  | .index ty x ii=>match val tm x,val tm ii,look C8 ty with
   |some (.t (.v (.string s'))),some (.t (.v (.int _ j))),some ⟨_,.string,_⟩=>some (tq (s',j) (s,i),fun y=>.t (.v (.int .u8 y)))
   |_,_,_=>none
  |_=>none
 |_,.ex8 s t=>match o with
  | .binOp .add _ a b _=>match val tm a,val tm b with
   |some (.t (.v (.string x))),some (.t (.v (.string y)))=>some (tq (x,y) (s,t),fun r=>.t (.v (.string r)))
   |_,_=>none
  |_=>none
 |_,.b2s l=>match o with
  | .convert s d x=>match look C8 s,look C8 d,val tm x with
   |some ⟨_,.slice e,_⟩,some ⟨_,.string,_⟩,some (.t (.sl n rs))=>match look C8 e with
    |some ⟨_,.int .u8,_⟩=>some (tq (n,rs) (l.length,l.map fun b=>[.v (.int .u8 b)]),fun r=>.t (.v (.string r)))
    |_=>none
   |_,_,_=>none
  |_=>none
 |_,.ef2 b s t=>match o with
  | .binOp op _ x y _=>match val tm x,val tm y,op,b with
   |some (.t (.v (.string s'))),some (.t (.v (.string t'))),.eql,true=>some (tq (s',t') (s,t),fun r=>.t (.v (.bool r)))
   |some (.t (.v (.string s'))),some (.t (.v (.string t'))),.neq,false=>some (tq (s',t') (s,t),fun r=>.t (.v (.bool r)))
   |_,_,_,_=>none
  |_=>none
 |_,.arr res ys i=>match o with
  | .index ty x ii=>match val tm x,val tm ii,look C8 ty with
   |some (.agg l),some (.t (.v (.int _ j))),some ⟨_,.array n e,_⟩=>match look C8 e with
    |some te=>bif br8 ys.length n then some (.and (tq j i) (ek4 te.desc.isAgg te.size l res ys 0),res)else none
    |none=>none
   |_,_,_=>none
  |_=>none
 |_,.ax enc ys i=>match o with
  | .indexAddr ty x ii=>match val tm x,val tm ii,look C8 ty with
   |some (.el cs),some (.t (.v (.int _ j))),some ⟨_,.array n e,_⟩=>match look C8 e with
    |some te=>bif br8 ys.length n then some (.and (tq j i) (.and (tq cs (cat enc ys)) (tq (α:=_->Nat) (fun y=>(enc y).length) (fun _=>te.size))),fun y=>.el (enc y))else none
    |none=>none
   |_,_,_=>none
  |_=>none
inductive W1 where
 |hx (n:Nat)
 |ly (n:Nat)
 |eq
 |cn
 |sn
def W1.q {P:Program}(Ev:EqV P)(C8:Tab)(Γ:List GF)(tm:List (Nat×T))(hp:List (Nat×G6))(o:Op):W1->Option (Tr×T)
 | .hx n=>match Γ[n]?with
  |some f=>match(L1.ix f.enc f.l f.i).q C8 tm hp o with
   |some (t,res)=>some (t,res f.y)
   |none=>none
  |none=>none
 | .ly n=>match Γ[n]?,o with
  |some f,.load t p=>match val tm p,look C8 t with
   |some (.pe id i sz off),some ti=>match look hp id,bh3 ti.desc.isAgg ti.size ((f.enc f.y).map .t) off with
    |some (.rows _ sz' n rs),some r=>bif br8 sz sz' then some (tq (i,n,rs) (f.i.toNat,f.l.length,f.l.map f.enc),r)else none
    |_,_=>none
   |_,_=>none
  |_,_=>none
 | .eq=>match o with
  | .binOp op ty x y _=>match val tm x,val tm y with
   |some (.agg xs),some (.agg ys)=>match Ev.f ty xs ys with
    |some b=>match op with
     | .eql=>some (.ok,.t (.v (.bool b)))
     | .neq=>some (.ok,.t (.v (.bool (!b))))
     |_=>none
    |none=>none
   |_,_=>none
  |_=>none
 | .cn=>match o with
  | .call ⟨.builtin .cap,a,b⟩=>match a.toList,b.toList with
   |[x],[t]=>match val tm x,look C8 t with
    |some (.t (.v (.slice none 0 0))),some ⟨_,.slice _,_⟩=>some (.ok,.t (.v (.int .i64 0)))
    |_,_=>none
   |_,_=>none
  |_=>none
 | .sn=>match o with
  | .slice t x none (some hi) none=>match val tm x,val tm hi,look C8 t with
   |some (.t (.v (.slice none 0 0))),some (.t (.v (.int _ 0))),some ⟨_,.slice e,_⟩=>match look C8 e with
    |some _=>some (.ok,.t (.v (.slice none 0 0)))
    |none=>none
   |_,_,_=>none
  |_=>none
def cN6 (tm:List (Nat×T))(o:Oper):Option (Nat×List T×List (List Tree)):=
 match o.op with
 | .call ⟨.value f,args,_⟩=>match val tm f,by8 tm args.toList with
  |some (.fz n aW8),some l=>some (n,l,aW8)
  |some (.clo n cs),some l=>match els cs with
   |some aW8=>some (n,l,aW8)
   |none=>none
  |_,_=>none
 |_=>none
def cN5 (tm:List (Nat×T))(hp:List (Nat×G6))(o:Oper):Option (Nat×List T×Bool×Nat):=match cN6 tm o,o.dst with
 |some (n,targs,aW8),some d=>match bn7 [] targs with
  |some l=>some (n,l++aW8.map T.el,false,d)
  |none=>match bn7 hp targs with
   |some l=>some (n,l++aW8.map T.el,true,d)
   |none=>none
 |_,_=>none
open Go.RowKit Go.Sort Go.Shelf Go.Proofs
theorem dH8 (zs:List Int):Lib.compact zs=bE1 zs:=by
 have key:∀m,m<=zs.length->Lib.compactUpTo zs.toArray m=bE1 (zs.take m):=by
  intro m
  induction m with
  |zero=>intro _;rfl
  |succ m ih=>
   intro hm
   have hg:∀j (hj:j<zs.length),(zs.toArray)[j]! =zs[j]:=fun j hj=>by
    grind
   rw[Lib.compactUpTo_succ,ih (by omega),List.take_succ_eq_append_getElem (by omega:m<zs.length),hg m (by omega)]
   by_cases h0:m=0
   ·subst h0;rfl
   ·have hne:zs.take m≠[]:=by
     intro h
     simp_all
    rw[dH7 _ _ hne]
    have hl:(zs.take m).getLast hne=zs[m-1]:=by
     grind
    rw[hl]
    unfold Lib.keeps
    grind
 simp_all[Lib.compact]
section
variable (w:World) (β m:Nat) (d:Array Int) (os:Array Obj)
def cG8:World:=grow (putRow (Value.int .i64) (Sort.ahead w m) β 0 d) os
theorem cJ2:(cG8 w β m d os).heap.size=w.heap.size+os.size:=by
 simp[cG8,putRow,mapBlock,Sort.ahead,grow]
def ex5 (b:Nat)(hb:b<w.heap.size)(hne:b≠β):(cG8 w β m d os).heap[b]? =w.heap[b]?:=by
 simp only[cG8,putRow,mapBlock,Sort.ahead,grow]
 grind
theorem eY5 {cs:Array Value}{elem:TypeId}(hh:w.heap[β]? =some (.cells cs elem (0,0))):(cG8 w β m d os).heap[β]? =some (.cells (putCells (Value.int .i64) 0 d cs) elem (0,0)):=by
 have hb:β<w.heap.size:=(dq5.1 hh).1
 simp only[cG8,putRow,mapBlock,Sort.ahead,grow]
 rw[fd0 (by grind),Array.getElem?_modify,if_pos rfl,hh]
 rfl
def dU0 (L:Nat->Prop)(hL:L β):aF1 true L w (cG8 w β m d os)where
 os:=rfl
 tape:=rfl
 output:=rfl
 size:=by rw[cJ2];omega
 block:=fun b hb hn=>ex5 w β m d os b hb (fun e=>hn (e▸hL))
 drawn:=fun _=>by simp[cG8,putRow,mapBlock,Sort.ahead,grow]
end
def dB3 {w:World}{S:Nat->Prop}{E':Nat->Value}{e id' β cap m:Nat}{r z:List Int}{vs:List Value}{os:Array Obj}(hcm:cap<=maxLen)(hh:w.heap[β]? =some (.cells vs.toArray e (0,0)))(hvl:vs.length=cap*1)(hrl:r.length<=cap)
  (hE':E' id'= .slice (some ⟨β,0,none⟩) r.length cap) (hS:¬S β) (hβ:β<w.heap.size):ci6 (cG8 w β m (r++z).toArray os) S E' [(id',.rows e 1 r.length (r.map encI))]:=by
 have one:∀id b,look [(id',G6.rows e 1 r.length (r.map encI))] id=some b->id=id'/\b= .rows e 1 r.length (r.map encI):=fun id b hl=>by
  simp only[look]at hl
  by_cases hid:id'=id
  ·grind
  grind [D2]
 refine⟨fun id b hl=>?_,fun id b β' hl hβ'=>?_,fun id id1 b b' β' hl hl' _ _=>?_⟩
 ·obtain⟨rfl,rfl⟩:=one _ _ hl
  rw[hE']
  refine⟨by simp,.inr ⟨β,cap,(putCells (Value.int .i64) 0 (r++z).toArray vs.toArray).toList,hcm,by simp,by rw[eY5 w β m _ os hh],by simp[putCells,hvl],by grind,?_,?_⟩⟩
  ·intro x hx
   obtain⟨y,_,rfl⟩:=cK0.1 hx
   rfl
  ·intro i j hi hj hb
   have hi':i<r.length:=by simpa using hi
   have hj':j=0:=by
    rw[dc0]at hj
    have:(encI r[i]).length=1:=rfl
    omega
   subst hj'
   have e1:(putCells (Value.int .i64) 0 (r++z).toArray vs.toArray).toList[i*1+0]= .int .i64 r[i]:=by
    simp only[Array.getElem_toList,Nat.mul_one,eh1]
    simp only[putCells,Array.getElem_mapIdx,Nat.zero_le,true_and,da1,Nat.sub_zero,eV8]
    rw[if_pos (by rw[bd4];omega),getElem!_pos _ _ (by simp only[eV8,bd4];omega)]
    simp only[List.getElem_toArray]
    rw[dM2 hi']
   rw[e1]
   have e2:((r.map encI)[i]'hi)[0]'hj= .v (.int .i64 r[i]):=by simp[encI,tI]
   rw[e2]
   exact .v _
 ·obtain⟨rfl,rfl⟩:=one _ _ hl
  have:β'=β:=by rw[hE']at hβ';simpa[S0]using hβ'.symm
  subst this
  exact⟨hS,by rw[cJ2];omega⟩
 grind
def dB4 {w:World}{β e cap:Nat}{l:List Int}{vs:List Value}(hh:w.heap[β]? =some (.cells vs.toArray e (0,0)))(hvl:vs.length=cap*1)(bF1:l.length<=cap){S:Nat->Prop}
  (hr:∀i j (hi:i<(l.map encI).length) (hj:j<((l.map encI)[i]).length) (hb:i*1+j<vs.length),RT w S (vs[i*1+j]) (((l.map encI)[i])[j])):Holds (Value.int .i64) w β 0 l.toArray:=by
 intro t ht
 have ht':t<l.length:=by omega
 refine⟨?_,by simp[World.frozen?,hh]⟩
 rw[cell_of_row w β (0+t) _ e _ hh,da1]
 have h1:=hr t 0 (by grind) (by simp[encI]) (by omega)
 have e2:((l.map encI)[t]'(by grind))[0]'(by simp[encI])= .v (.int .i64 l[t]):=by simp[encI,tI]
 grind [RTv]
def dp5 {P:Program}{ρ:Ren}(L:Lays.n189 P ρ)(hc:∀vs w,(callFunc (ρ.f 189) vs).run P w= .ok (.enter (ρ.f 189) vs) w){e:Nat}(l:List Int):
  bh6 P (ρ.f 189) [.own 1000000] [(1000000,.rows e 1 l.length (l.map encI))] (bT8 l) (fun _=>.P4 []) (fun r=>[(1000000,.rows e 1 r.length (r.map encI))]):=by
 refine⟨hc,fun r hr w S E vs hgl hS hO hv=>?_⟩
 have hlen:l.length<4611686018427387904:=by
  grind [bT8]
 rw[cy4 hlen,aI6]at hr
 subst hr
 obtain⟨v0,rfl⟩:∃v0,vs=[v0]:=by
  have:=hv.1
  match vs,this with
  |[a],_=>simp
 have r0:RV w S E v0 (.own 1000000):=hv.2 0 (by simp) (by simp)
 cases r0 with
 |own _ _ hE=>
 have hblk:=hO.blk 1000000 (.rows e 1 l.length (l.map encI)) rfl
 rw[hE]at hblk
 obtain⟨hn,⟨hx,cQ7⟩|⟨β,cap,vs,hcm,hx,hh,hvl,bF1,hsz,hr⟩⟩:=hblk
 ·have hl:l=[]:=by grind
  subst hl
  subst hx
  refine(Any.slices_Sort_int_none L none 0 w).mono fun e' w' ⟨he,hw⟩=>?_
  subst hw
  refine⟨_,S,E,he,.P4 [] [] rfl fun j h1=>by simp,aF1.refl _ _,hS,fun b hb=>.inl hb,?_,fun β hl=>.inl ?_,fun _ _=>rfl⟩
  all_goals simp_all
 ·simp only[bY6]at hx bF1
  subst hx
  have hβ:=hO.own 1000000 (.rows e 1 l.length (l.map encI)) β rfl (by rw[hE];rfl)
  have de6:az7 [(1000000,G6.rows e 1 l.length (l.map encI))] E β:=⟨1000000,_,rfl,by rw[hE];rfl⟩
  refine(Any.slices_Sort_int L β 0 cap l w (dB4 hh hvl bF1 hr) hβ.2 hlen).mono fun e' w' ⟨he,m,os,hw⟩=>?_
  have hrl:(l.mergeSort fun x y=>decide (x<=y)).length=l.length:=List.length_mergeSort l
  generalize(l.mergeSort fun x y=>decide (x<=y))=r at hw hrl|-
  have hw2:w'=cG8 w β m (r++[]).toArray os:=by rw[dq6];exact hw
  subst hw2
  refine⟨.tuple #[],S,E,he,.P4 [] [] rfl fun j h1=>by simp,dU0 w β m _ os _ de6,fun b hb=>?_,fun b hb=>.inl hb,dB3 hcm hh hvl (by omega) (by rw[hE,hrl]) hβ.1 hβ.2,fun β' ⟨id,b,hl,hβ'⟩=>.inl ?_,fun _ _=>rfl⟩
  ·rw[cJ2];grind
  ·have:id=1000000:=by
    grind [look,D2]
   subst this
   exact⟨1000000,_,rfl,hβ'⟩
def cF7 {P:Program}{ρ:Ren}(L:Lays2.n20 P ρ)(hc:∀vs w,(callFunc (ρ.f 20) vs).run P w= .ok (.enter (ρ.f 20) vs) w){e:Nat}(l:List Int):
  bh6 P (ρ.f 20) [.own 1000000] [(1000000,.rows e 1 l.length (l.map encI))] (bn1 l) (fun _=>.own 900000) (fun r=>[(900000,.rows e 1 r.length (r.map encI))]):=by
 refine⟨hc,fun r hr w S E vs hgl hS hO hv=>?_⟩
 have hlen:l.length<=9223372036854775807:=by
  grind [bn1]
 rw[cA2 hlen,aI6]at hr
 obtain⟨v0,rfl⟩:∃v0,vs=[v0]:=by
  have:=hv.1
  match vs,this with
  |[a],_=>simp
 have r0:RV w S E v0 (.own 1000000):=hv.2 0 (by simp) (by simp)
 have one:∀(r:List Int) id b,look [(900000,G6.rows e 1 r.length (r.map encI))] id=some b->id=900000:=fun r id b hl=>by
  grind [look,D2]
 cases r0 with
 |own _ _ hE=>
 have hblk:=hO.blk 1000000 (.rows e 1 l.length (l.map encI)) rfl
 rw[hE]at hblk
 have hEb:∀v,∀id,big<=id->(fun id=>if id=900000 then v else E id) id=E id:=fun v id h=>by
  simp only
  rw[if_neg (by grind [big])]
 obtain⟨hn,⟨hx,cQ7⟩|⟨β,cap,vs,hcm,hx,hh,hvl,bF1,hsz,hrr⟩⟩:=hblk
 ·have hl:l=[]:=by simpa using cQ7
  subst hl
  subst hx
  subst hr
  refine(Any.slices_Compact_int_empty L none 0 w).mono fun e' w' ⟨he,hw⟩=>?_
  subst hw
  have hno:∀id b,look [(900000,G6.rows e 1 (bE1 []).length ((bE1 []).map encI))] id=some b->S0 ((fun id=>if id=900000 then Value.slice none 0 0 else E id) id)=none:=fun id b hl=>by
   rw[one _ _ _ hl];rfl
  refine⟨_,S,fun id=>if id=900000 then .slice none 0 0 else E id,he,.own _ _ (by simp),aF1.refl _ _,hS,fun b hb=>.inl hb,⟨fun id b hl=>?_,fun id b β' hl hβ'=>?_,fun id id1 b b' β' hl hl' _ _=>(one _ _ _ hl).trans (one _ _ _ hl').symm⟩,fun β ⟨id,b,hl,hβ⟩=>?_,hEb _⟩
  ·have:=one _ _ _ hl
   subst this
   simp[look]at hl
   subst hl
   exact⟨by simp,.inl ⟨by simp,by simp[bE1]⟩⟩
  ·rw[hno _ _ hl]at hβ';cases hβ'
  ·rw[hno _ _ hl]at hβ;cases hβ
 ·simp only[bY6]at hx bF1
  subst hx
  have hβ:=hO.own 1000000 (.rows e 1 l.length (l.map encI)) β rfl (by rw[hE];rfl)
  have de6:az7 [(1000000,G6.rows e 1 l.length (l.map encI))] E β:=⟨1000000,_,rfl,by rw[hE];rfl⟩
  refine(Any.slices_Compact_int L β 0 cap l w (dB4 hh hvl bF1 hrr) hlen bF1).mono fun e' w' ⟨he,m,hw⟩=>?_
  rw[dH8]at he hw
  have hrl:(bE1 l).length<=l.length:=by
   have key:∀(l:List Int) p,(cA1 p l).length<=l.length:=by
    intro l
    induction l with
    |nil=>intro p;exact bO2 _
    |cons y l ih=>
     intro p
     unfold cA1
     have:=ih y
     cases y==p
     ·simp only[fk6,bu9];omega
     ·simp only[fk7,bu9];omega
   cases l with
   |nil=>exact bO2 _
   |cons x l=>simp only[bE1,bu9];have:=key l x;omega
  rw[hr]at he hw hrl
  generalize cr7 (l.length-r.length) (0:Int)=z at hw
  have hw2:w'=cG8 w β m (r++z).toArray #[]:=by rw[hw];simp[cG8]
  subst hw2
  refine⟨_,S,fun id=>if id=900000 then .slice (some ⟨β,0,none⟩) r.length cap else E id,he,.own _ _ (by simp),dU0 w β m _ _ _ de6,fun b hb=>?_,fun b hb=>.inl hb,dB3 hcm hh hvl (by omega) (by simp) hβ.1 hβ.2,fun β' ⟨id,b,hl,hβ'⟩=>.inl ?_,hEb _⟩
  ·rw[cJ2];exact dp8 (hS b hb) (Nat.le_add_right _ _)
  ·have:=one _ _ _ hl
   subst this
   have e1:β'=β:=by simpa[S0]using hβ'.symm
   subst e1
   exact de6
def cy1 {P:Program}{w:World}(t u ty e:TypeId)(i:TypeInfo)(z:Value)(kk ik:IntKind)(ht:P.underlying t=some (.slice e))(hu:P.underlying u=some (.int kk))(hi:P.info? e=some i)(hz:i.zero=some z)(n:Nat)(h0:0<n)(hs0:0<i.size)(hn:n<=1073741824)(hb:n*i.bytes<=140737488355328):
  (Builtin.append_ #[t,u] ty #[.slice none 0 0,.int ik n]).run P w=
   .ok (.slice (some ⟨w.heap.size,0,none⟩) n (grownCap w n 0 e)) (w.drew.alloc (.cells (Builtin.zeroCells z.cells n++Builtin.zeroCells z.cells (grownCap w n 0 e-n)) e)):=by
 have hn0:n≠0:=by omega
 have hs1:i.size≠0:=by omega
 have hw:fb2.wrap (n:Int)=(n:Int):=j4 (by omega) (by omega)
 have hneg:¬((n:Int)<0):=by omega
 have hbi:¬((281474976710656:Int)<(n:Int)*(i.bytes:Int)):=by
  omega
 have h63':¬(9223372036854775807<(n:Int)):=by omega
 have h48':¬(281474976710656<Builtin.nextslicecap n 0*i.bytes):=by grind [nextslicecap_zero]
 simp[Builtin.append_,run_underlying ht,run_underlying hu,sizeOf,typeInfo,zeroValue,hi,hz,Builtin.lenOf,Builtin.firstCells,hn0,hs1,hw,hneg,hbi,h63',h48',asInt,asIntOf,Question.forced,newRow,grownCap]
 grind [Nat.mul_ne_zero]
section
variable {ρ α:Type} {X:Cx} {ks:List K} {tm tm':List (Nat × T)} {hp X8:List (Nat × G6)} {m:Option ρ} {Q:ρ -> Exit -> St -> Prop} {all:Array Oper} {o:Oper} {rest:List Oper} {w0:World} {L:Lim} {nt:Nat} {S:Nat -> Prop} {E:Nat -> Value} {a:Act} {w:World}
theorem Ok.aZ6 {P:Program}(h:Ok w0 L nt ⟨tm,hp⟩ S E a w){id t u ty e n:Nat}{kk ik:IntKind}{ti:TI}{c:List Tree}(aO4:bi3 id big=true)(hf:P1 id tm=true)(hb:O6 id hp=true)(ht:P.underlying t=some (.slice e))(hu:P.underlying u=some (.int kk))(hte:bh5 P e ti)(hz:ti.zero.length=ti.size)(bS2:0<ti.size)
  (hc:c=ti.zero.map fun v=>aE3 (.v v)) (h0:0<n) (cY8:n<=1073741824):
  ∃v' w' E',(Builtin.append_ #[t,u] ty #[.slice none 0 0,.int ik n]).run P w= .ok v' w'/\E' id=v'/\Ok w0 L nt ⟨tm,(id,.rows e ti.size n (cr7 n c))::hp⟩ S E' a w':=by
 obtain⟨i,d,hi,hs,_,_,⟨z,hzz,hzc⟩,hby⟩:=hte
 have hcl:c.length=ti.size:=by grind
 have hzs:z.cells.size=i.size:=by grind
 have cQ6:n*i.bytes<=140737488355328:=by
  have:=Nat.mul_le_mul cY8 hby
  omega
 have hr:=cy1 (P:=P) (w:=w) t u ty e i z kk ik ht hu hi hzz n h0 (by omega) cY8 cQ6
 have hge:=grownCap_ge w n 0 e
 have hcm:grownCap w n 0 e<=maxLen:=grownCap_le_maxLen w n 0 e (by grind [maxLen])
 generalize grownCap w n 0 e=cap at hr hge hcm
 have dm4:∀k (hk:k<n*i.size) (hk2:k<(Builtin.zeroCells z.cells n++Builtin.zeroCells z.cells (cap-n)).toList.length),(Builtin.zeroCells z.cells n++Builtin.zeroCells z.cells (cap-n)).toList[k]=ti.zero[k%ti.size]'(by simp_all[eQ6]):=by
  intro k hk hk2
  have hm:k%z.cells.size<z.cells.size:=eQ6 _ (by omega)
  grind [Builtin.zeroCells]
 obtain⟨E',hE,hok⟩:=h.cT8 (w':=w.drew.alloc (.cells (Builtin.zeroCells z.cells n++Builtin.zeroCells z.cells (cap-n)) e)) (v:=.slice none 0 0) (v':=.slice (some ⟨w.heap.size,0,none⟩) n cap) (b:=.rows e ti.size n (cr7 n c)) aO4 hf hb (fun β hβ=>by cases hβ) (fun _ _ β _ hβ=>by cases hβ)
  ⟨rfl,rfl,rfl,by simp,fun k hk _=>Below.heap_alloc w.drew _ _ hk,fun _=>Nat.le_succ _⟩ (fun β hβ=>by cases hβ;simp) (fun E'=>by
  refine⟨by simp,.inr ⟨w.heap.size,cap,(Builtin.zeroCells z.cells n++Builtin.zeroCells z.cells (cap-n)).toList,hcm,by simp,by rw[Array.toArray_toList];exact heap_alloc_new w.drew _,?_,by grind,?_,?_⟩⟩
  ·rw[fe1,Array.size_append,size_zeroCells,size_zeroCells,hzs,<-eG0,hs]
   grind
  ·grind
  ·intro i' j hi' hj hb'
   have hi2:i'<n:=by simpa using hi'
   simp only[fb3]at hj|-
   have hj2:j<ti.size:=by rw[<-hcl];exact hj
   have hlt:i'*ti.size+j<n*i.size:=by
    have:(i'+1)*ti.size<=n*ti.size:=cC0 _ (by omega)
    rw[dN2]at this
    rw[hs];omega
   have e1:(Builtin.zeroCells z.cells n++Builtin.zeroCells z.cells (cap-n)).toList[i'*ti.size+j]=ti.zero[j]'(by rw[hz];exact hj2):=by
    rw[dm4 _ hlt hb']
    have:(i'*ti.size+j)%ti.size=j:=by rw[es2,ff1,fa1 hj2]
    simp only[this]
   rw[e1]
   have e2:c[j]=aE3 (.v (ti.zero[j]'(by rw[hz];exact hj2))):=by subst hc;simp
   rw[e2]
   exact bb7 (.v _))
 grind
def B9.eE2 {t u e d s0 s1:Nat}{z0 z1:List Value}{te:TI}{s x:Operand}{kk ik:IntKind}{n:Int}{enc:α->List Tree}{k:List α->Option ρ}(id:Nat)(z:α)
  (ho:o.op= .call ⟨.builtin .append,#[s,x],#[t,u]⟩) (hd:o.dst=some d) (hdn:bi3 d X.nt=true) (hg:ai6 all.toList tm o.guard=some true) (hs:val tm s=some (.t (.v (.slice none 0 0)))) (hx:val tm x=some (.t (.v (.int ik n))))
  (hty:look X.C8 t=some ⟨s0,.slice e,z0⟩) (htu:look X.C8 u=some ⟨s1,.int kk,z1⟩) (hte:look X.C8 e=some te) (hz:te.zero.length=te.size) (bS2:bi3 0 te.size=true) (ay6:enc z=te.zero.map fun v=>aE3 (.v v)) (aO4:bi3 id big=true) (hft:P1 id tm=true) (hfb:O6 id hp=true)
  (h:∀y,cW6 n z=some y->B9 X all rest ks ⟨(d,.own id)::tm,(id,.rows e te.size y.length (y.map enc))::hp⟩ (k y) Q):
  B9 X all (o::rest) ks ⟨tm,hp⟩ ((cW6 n z).bind k) Q:=fun y hy a w ⟨S,E,hk⟩=>by
 cases hmk:cW6 n z with
 |none=>grind
 |some l=>
  have h0:=hmk
  unfold cW6 at h0
  split at h0<;>try(cases h0;done)
  rename_i hn
  simp only[aI6]at h0
  simp only[hmk,aF2]at hy
  obtain⟨dd,hu,ho2⟩:∃d,X.P.underlying t=some d/\TD.ok X.P (.slice e) d:=by
   obtain⟨i,d,_,_,hu,hdd,_⟩:=X.K6 t _ hty
   grind
  simp only[TD.ok]at ho2
  subst ho2
  obtain⟨du,hu2,ho3⟩:∃d,X.P.underlying u=some d/\TD.ok X.P (.int kk) d:=by
   obtain⟨i,d,_,_,hu,hdd,_⟩:=X.K6 u _ htu
   grind
  simp only[TD.ok]at ho3
  subst ho3
  obtain⟨j,rfl⟩:∃j:Nat,n=(j:Int):=⟨n.toNat,by omega⟩
  simp only[eV1]at h0
  obtain⟨v',w',E',hr,hE,hok⟩:=hk.aZ6 (P:=X.P) (n:=j) (c:=enc z) (ty:=o.type) (ik:=ik) aO4 hft hfb hu hu2 (X.K6 e _ hte) hz (bd6 bS2) ay6 (by omega) (by omega)
  refine wpList_step fun K hK=>?_
  rw[T7 hk hg,if_pos rfl]
  unfold Oper.wp
  have aO5:(execOp a.eval o).run X.P w= .ok (.value v') w':=by
   unfold execOp
   simp only[ho,resolve,invoke,builtin,bq9,bB8,bd5,fa0,cN4,dT4,(hk.val hs).tv,(hk.val hx).tv,hr]
  rw[aO5]
  refine hK _ _ (h l hmk y hy _ _ ⟨S,E',?_⟩)
  rw[hd]
  have e1:l.map enc=cr7 j (enc z):=by rw[<-h0];simp
  have e2:l.length=j:=by grind
  rw[e1,e2]
  exact hok.put (bd6 hdn) (.own id _ hE)
end
section
variable {P:Program} {ρ τ β:Type} {X:Cx}
def db1 {α:Type}{a:Bool}{sz:Nat}{l:List T}{res:α->T}:∀{ys:List α}{k:Nat},(ek4 a sz l res ys k).den->∀j y,ys[j]? =some y->bh3 a sz l ((k+j)*sz)=some (res y)
 |[],_,_,j,y,h=>by simp at h
 |z::r,k,ht,0,y,h=>by
  simp only[dq2,aI6]at h
  subst h
  exact V.eq ht.1
 |z::r,k,ht,j+1,y,h=>by
  have:=db1 ht.2 j y (by simpa using h)
  rwa[ef0,Nat.add_comm 1 j]at this
def dt9 {α:Type}{enc:α->List Tree}{sz:Nat}(h:∀y,(enc y).length=sz):∀{ys:List α}{j:Nat}{y:α},ys[j]? =some y->∃r,(cat enc ys).drop (j*sz)=enc y++r
 |[],j,y,hy=>by simp at hy
 |x::l,0,y,hy=>by
  simp_all[cat]
 |x::l,j+1,y,hy=>by
  obtain⟨r,hr⟩:=dt9 h (ys:=l) (j:=j) (y:=y) (by grind)
  refine⟨r,?_⟩
  rw[cat,dN2,Nat.add_comm,<-eh0,List.drop_left' (h x)]
  exact hr
def RV.eF4 {w:World}{S:Nat->Prop}{E:Nat->Value}{x:Value}{l r:List Tree}(h:RV w S E x (.el (l++r))):RV w S E x (.el l):=by
 cases h with
 |el b o _ vs hS hc hr=>
  refine .el b o l vs hS (fun j hj=>hc j (by simp;omega)) (fun j hj=>?_)
  grind
theorem L1.ok {tm:List (Nat×T)}{hp:List (Nat×G6)}{o:Oper}:∀{τ:Type}{l:L1 τ}{t:Tr}{res:τ->T},l.q X.C8 tm hp o.op=some (t,res)->t.den->
  ∀(y:τ) (S:Nat->Prop) (E:Nat->Value) (a:Act) (w:World),l.m=some y->Ok X.w0 X.L X.nt ⟨tm,hp⟩ S E a w->∃v,(execOp a.eval o).run X.P w= .ok (.value v) w/\RV w S E v (res y)
 |_,.ix enc l i,t,res,h,ht=>by
  simp only[L1.q]at h
  split at h<;>try(cases h;done)
  rename_i ty x ii hop
  split at h<;>try(cases h;done)
  rename_i X' k j s0 e z0 hx hi hty
  split at h<;>try(cases h;done)
  rename_i te hte
  split at h
  ·rename_i id
   split at h<;>try(cases h;done)
   rename_i el sz n rs hb
   cases hsz:br8 te.size sz<;>simp only[hsz,fk7,fk6,reduceCtorEq,aI6,ba7]at h
   obtain⟨rfl,rfl⟩:=h
   obtain⟨h1,h2⟩:=ht
   have h1:=V.eq h1
   have h2:=V.eq h2
   simp only[ba7]at h1
   obtain⟨rfl,rfl⟩:=h1
   subst h2
   intro y S E a w hm hk
   obtain⟨h0,hl,hlt⟩:=aV0 hm
   have hiv:=(hk.val hi).tv
   obtain⟨dd,hdd,ho2⟩:=(X.K6 ty _ hty).av0 w
   simp only[TD.ok]at ho2
   subst ho2
   have hs:=(X.K6 e _ hte).aG6 w
   have hll:j.toNat<l.length:=by omega
   have hxv:=hk.val hx
   generalize hxe:a.eval x=xv at hxv
   cases hxv with
   |own _ _ hE=>
    obtain⟨hn,⟨hE',hr⟩|⟨β,cap,vs,_,hE',hh,_⟩⟩:=hk.hp id _ hb
    ·grind
    ·have:=bq8 hsz
     subst this
     have hpe:=RV.pe (w:=w) (S:=S) (E:=E) id j.toNat te.size 0 β (l.map enc).length cap hE'
     refine⟨_,?_,hpe⟩
     rw[hE']at hE
     subst hE
     simp only[execOp,hop,Instr.indexAt,hiv,asIntOf,bq9,bB8,bd5,hdd,hxe]
     have c1:0<=j/\j<((l.map enc).length:Int):=⟨h0,by omega⟩
     simp only[bq9,bd5,bB8,c1,and_self,if_true,hs,addr_add,da1,eh1]
  ·simp only[aI6,ba7]at h
   obtain⟨rfl,rfl⟩:=h
   obtain⟨h1,h2,h3⟩:=ht
   have h1:=V.eq h1
   have h2:=V.eq h2
   have h3:=V.eq h3
   subst h1 h2
   intro y S E a w hm hk
   exact de8 hk hm hop hx hi hty hte (fun y=>congrFun h3 y)
 |_,.quo k i j,t,res,h,ht=>by
  simp only[L1.q]at h
  split at h<;>try(cases h;done)
  rename_i ty x y yt hop
  split at h<;>try(cases h;done)
  rename_i k1 x1 k2 y1 hx hy
  simp only[aI6,ba7]at h
  obtain⟨rfl,rfl⟩:=h
  have h1:=V.eq ht
  simp only[ba7]at h1
  obtain⟨rfl,rfl,rfl,rfl⟩:=h1
  intro q S E a w hm hk
  simp only[L1.m,bo5]at hm
  split at hm
  ·cases hm
  ·rename_i hj
   cases hm
   refine⟨_,?_,.t (.v _)⟩
   simp only[execOp,hop,bq9,(hk.val hx).tv,(hk.val hy).tv,aA8 .quo ty x y (.int _ _) (.int _ _) (by simp) (by simp),bd5]
   simp[binOp,Op.intDiv,hj]
 |_,.rem i j,t,res,h,ht=>by
  simp only[L1.q]at h
  split at h<;>try(cases h;done)
  rename_i ty x y yt hop
  split at h<;>try(cases h;done)
  rename_i k1 x1 k2 y1 hx hy
  simp only[aI6,ba7]at h
  obtain⟨rfl,rfl⟩:=h
  have h1:=V.eq ht
  simp only[ba7]at h1
  obtain⟨rfl,rfl,rfl⟩:=h1
  intro q S E a w hm hk
  simp only[L1.m,cg2]at hm
  split at hm
  ·cases hm
  ·rename_i hj
   cases hm
   refine⟨_,?_,.t (.v _)⟩
   simp only[execOp,hop,bq9,(hk.val hx).tv,(hk.val hy).tv,aA8 .rem ty x y (.int _ _) (.int _ _) (by simp) (by simp),bd5]
   simp[binOp,Op.intDiv,hj]
 |_,.shl k i j,t,res,h,ht=>by
  simp only[L1.q]at h
  split at h<;>try(cases h;done)
  rename_i ty x y yt hop
  split at h<;>try(cases h;done)
  rename_i k1 x1 k2 y1 hx hy
  simp only[aI6,ba7]at h
  obtain⟨rfl,rfl⟩:=h
  have h1:=V.eq ht
  simp only[ba7]at h1
  obtain⟨rfl,rfl,rfl⟩:=h1
  intro q S E a w hm hk
  simp only[L1.m,ey3]at hm
  split at hm
  ·cases hm
  ·rename_i hj
   cases hm
   refine⟨_,?_,.t (.v _)⟩
   simp only[execOp,hop,bq9,(hk.val hx).tv,(hk.val hy).tv,aA8 .shl ty x y (.int _ _) (.int _ _) (by simp) (by simp),bd5]
   simp[binOp,Op.shift,hj,el4]
 |_,.shr k i j,t,res,h,ht=>by
  simp only[L1.q]at h
  split at h<;>try(cases h;done)
  rename_i ty x y yt hop
  split at h<;>try(cases h;done)
  rename_i k1 x1 k2 y1 hx hy
  simp only[aI6,ba7]at h
  obtain⟨rfl,rfl⟩:=h
  have h1:=V.eq ht
  simp only[ba7]at h1
  obtain⟨rfl,rfl,rfl⟩:=h1
  intro q S E a w hm hk
  simp only[L1.m,eL2]at hm
  split at hm
  ·cases hm
  ·rename_i hj
   cases hm
   refine⟨_,?_,.t (.v _)⟩
   simp only[execOp,hop,bq9,(hk.val hx).tv,(hk.val hy).tv,aA8 .shr ty x y (.int _ _) (.int _ _) (by simp) (by simp),bd5]
   simp[binOp,Op.shift,hj,G3]
 |_,.str s i,t,res,h,ht=>by
  simp only[L1.q]at h
  split at h<;>try(cases h;done)
  rename_i ty x ii hop
  split at h<;>try(cases h;done)
  rename_i s1 k j s0 z0 hx hi hty
  simp only[aI6,ba7]at h
  obtain⟨rfl,rfl⟩:=h
  have h1:=V.eq ht
  simp only[ba7]at h1
  obtain⟨rfl,rfl⟩:=h1
  intro q S E a w hm hk
  obtain⟨dd,hu,ho2⟩:∃d,X.P.underlying ty=some d/\TD.ok X.P .string d:=by
   obtain⟨i,d,_,_,hu,hdd,_⟩:=X.K6 ty _ hty
   exact⟨d,hu,hdd⟩
  simp only[TD.ok]at ho2
  subst ho2
  simp only[L1.m,fj4]at hm
  refine⟨_,?_,.t (.v _)⟩
  have hin:0<=j/\j<s1.size:=by
   by_cases h0:0<=j
   ·rw[if_pos h0]at hm
    by_cases h1:j.toNat<s1.size
    ·exact⟨h0,by omega⟩
    ·rw[ByteArray.getElem?_ge' s1 _ (by omega)]at hm;cases hm
   ·rw[if_neg h0]at hm;cases hm
  rw[if_pos hin.1,ByteArray.getElem?_lt' s1 _ (by omega)]at hm
  simp only[bN9,aI6]at hm
  subst hm
  simp only[execOp,hop,bq9,(hk.val hx).tv,(hk.val hi).tv,run_index_string w ty s1 k j hu,hin,and_self,dite_true,bd5,bB8]
 |_,.ex8 s t,u,res,h,ht=>by
  simp only[L1.q]at h
  split at h<;>try(cases h;done)
  rename_i ty x y yt hop
  split at h<;>try(cases h;done)
  rename_i s1 t1 hx hy
  simp only[aI6,ba7]at h
  obtain⟨rfl,rfl⟩:=h
  have h1:=V.eq ht
  simp only[ba7]at h1
  obtain⟨rfl,rfl⟩:=h1
  intro q S E a w hm hk
  simp only[L1.m,fd9]at hm
  split at hm<;>try(cases hm;done)
  rename_i hsz
  cases hm
  refine⟨_,?_,.t (.v _)⟩
  simp only[execOp,hop,bq9,(hk.val hx).tv,(hk.val hy).tv,aA8 .add ty x y (.string _) (.string _) (by simp) (by simp),bd5,binOp_string_add,run_string_add_sum w _ _ hsz,bB8]
 |_,.b2s l,u,res,h,ht=>by
  simp only[L1.q]at h
  split at h<;>try(cases h;done)
  rename_i s d x hop
  split at h<;>try(cases h;done)
  rename_i z1 e z2 z3 z4 n rs hs hd hx
  split at h<;>try(cases h;done)
  rename_i z5 z6 he
  simp only[aI6,ba7]at h
  obtain⟨rfl,rfl⟩:=h
  have h1:=V.eq ht
  simp only[ba7]at h1
  obtain⟨rfl,rfl⟩:=h1
  have us:X.P.underlying s=some (.slice e):=by
   obtain⟨i,d,_,_,hu,hdd,_⟩:=X.K6 s _ hs
   simp only[TD.ok]at hdd
   rw[hu,hdd]
  have ud:X.P.underlying d=some .string:=by
   obtain⟨i,d,_,_,hu,hdd,_⟩:=X.K6 d _ hd
   simp only[TD.ok]at hdd
   rw[hu,hdd]
  have ue:X.P.underlying e=some (.int .u8):=by
   obtain⟨i,d,_,_,hu,hdd,_⟩:=X.K6 e _ he
   simp only[TD.ok]at hdd
   rw[hu,hdd]
  intro q S E a w hm hk
  cases hm
  refine⟨_,?_,.t (.v _)⟩
  have hv:=hk.val hx
  generalize hve:a.eval x=v at hv
  have key:(convert s d v).run X.P w= .ok (.string (l.foldl (fun r n=>r.push (UInt8.ofNat n.toNat)) ByteArray.empty)) w:=by
   cases hv with
   |t h=>
    generalize hl:l.map (fun b=>[Tree.v (.int .u8 b)])=rows at h
    generalize hn:l.length=n at h
    cases h with
    |slE ad cap=>
     have:l=[]:=List.length_eq_zero_iff.1 hn
     subst this
     cases ad with
     |none=>exact Lib.run_convert_nil_bytes w s d e cap us ue ud
     |some ad=>
      rw[run_convert_bytes_string w s d e (some ad) 0 cap us ue ud]
      exact run_bytesToString w ad 0 cap [] (run_loadCells_list w ad [] (fun j v h=>by simp at h))
    |sl b o cap sz rows vs bF1 hS hsz hc hr=>
     subst hl
     simp only[bY6]at*
     rw[run_convert_bytes_string w s d e _ _ cap us ue ud]
     refine run_bytesToString w ⟨b,o,none⟩ l.length cap l ?_
     have:=run_loadCells_list (P:=X.P) w ⟨b,o,none⟩ (l.map (Value.int .u8)) (fun j v hj=>by
      rw[dr2]at hj
      obtain⟨z,hz,rfl⟩:=dV4.1 hj
      obtain⟨hjl,rfl⟩:=bG6.1 hz
      have hsz1:sz=1:=(hsz _ (cK0.2 ⟨l[j],bf3 hjl,rfl⟩)).symm
      subst hsz1
      have h1:=hc j 0 hjl (by omega)
      have h2:=hr j 0 (by simpa using hjl) (by simp)
      simp only[dc0,et7]at h2
      have h3:=RTv h2
      rw[h3]at h1
      have e:(⟨b,o,none⟩:Addr).add j=⟨b,o+j,none⟩:=by unfold Addr.add;split<;>simp_all
      rw[e]
      simpa using h1)
     simpa using this
  simp only[execOp,hop,hve,bq9,key,bd5,bB8]
 |_,.ef2 b s t,u,res,h,ht=>by
  simp only[L1.q]at h
  split at h<;>try(cases h;done)
  rename_i op ty x y yt hop
  have tl:∀z:ByteArray,z.toList=z.data.toList:=fun z=>ByteArray.toList_eq z
  split at h<;>try(cases h;done)
  ·rename_i s1 t1 hx hy
   simp only[aI6,ba7]at h
   obtain⟨rfl,rfl⟩:=h
   have h1:=V.eq ht
   simp only[ba7]at h1
   obtain⟨rfl,rfl⟩:=h1
   intro q S E a w hm hk
   cases hm
   refine⟨_,?_,.t (.v _)⟩
   simp only[execOp,hop,bq9,(hk.val hx).tv,(hk.val hy).tv,aA8 .eql ty x y (.string _) (.string _) (by simp) (by simp),bd5,binOp_string_eql,bB8,tl,fk7]
  ·rename_i s1 t1 hx hy
   simp only[aI6,ba7]at h
   obtain⟨rfl,rfl⟩:=h
   have h1:=V.eq ht
   simp only[ba7]at h1
   obtain⟨rfl,rfl⟩:=h1
   intro q S E a w hm hk
   cases hm
   refine⟨_,?_,.t (.v _)⟩
   simp only[execOp,hop,bq9,(hk.val hx).tv,(hk.val hy).tv,aA8 .neq ty x y (.string _) (.string _) (by simp) (by simp),bd5,binOp_string_neq,bB8,tl,fk6]
 |_,.arr res ys i,t,res',h,ht=>by
  simp only[L1.q]at h
  split at h<;>try(cases h;done)
  rename_i ty x ii hop
  split at h<;>try(cases h;done)
  rename_i l k j s0 n e z0 hx hi hty
  split at h<;>try(cases h;done)
  rename_i te hte
  cases hc:br8 ys.length n<;>rw[hc]at h<;>simp only[fk7,fk6,reduceCtorEq,aI6,ba7]at h
  obtain⟨rfl,rfl⟩:=h
  obtain⟨h1,h2⟩:=ht
  have h1:=V.eq h1
  subst h1
  have hn:=bq8 hc
  intro q S E a w hm hk
  obtain⟨h0,hy,_⟩:=aV0 hm
  obtain⟨j',rfl⟩:∃j':Nat,j=Int.ofNat j':=⟨j.toNat,by simp;omega⟩
  have hy:ys[j']? =some q:=by simpa using hy
  have hj:j'<n:=by rw[<-hn];exact(bG6.1 hy).1
  have hv:=hk.val hx
  generalize hpv:a.eval x=pv at hv
  cases hv with
  |agg vs _ hl hrr=>
   have h3:=db1 h2 j' q hy
   rw[da1]at h3
   obtain⟨v,hv1,hv2⟩:=cK9 (ik:=k) X.K6 hty hte hj ⟨hl,hrr⟩ h3
   exact⟨v,by simp only[execOp,hop,hpv,(hk.val hi).tv,hv1,bq9,bd5,bB8],hv2⟩
 |_,.ax enc ys i,t,res,h,ht=>by
  simp only[L1.q]at h
  split at h<;>try(cases h;done)
  rename_i ty x ii hop
  split at h<;>try(cases h;done)
  rename_i cs k j s0 n e z0 hx hi hty
  split at h<;>try(cases h;done)
  rename_i te hte
  cases hc:br8 ys.length n<;>simp only[hc,fk7,fk6,reduceCtorEq,aI6,ba7]at h
  obtain⟨rfl,rfl⟩:=h
  obtain⟨h1,h2,h3⟩:=ht
  have h1:=V.eq h1
  have h2:=V.eq h2
  have h3:=V.eq h3
  subst h1 h2
  have hn:=bq8 hc
  intro y S E a w hm hk
  obtain⟨h0,hy,_⟩:=aV0 hm
  obtain⟨j',rfl⟩:∃j':Nat,j=Int.ofNat j':=⟨j.toNat,by simp;omega⟩
  have hy:ys[j']? =some y:=by simpa using hy
  have hj:j'<n:=by rw[<-hn];exact(bG6.1 hy).1
  have hv:=hk.val hx
  obtain⟨b,o',hpv⟩:=hv.ce1
  rw[hpv]at hv
  obtain⟨r,hr⟩:=dt9 (fun y=>congrFun h3 y) hy
  have hv2:=hv.cI0 (j'*te.size)
  rw[hr]at hv2
  refine⟨_,?_,hv2.eF4⟩
  simp only[execOp,hop,hpv,(hk.val hi).tv,bH5 X.K6 hty hte hj,bq9,bd5,bB8]
def L1.known {Γ:List GF}(hΓ:∀f∈Γ,f.ok):∀{τ:Type}{l:L1 τ}{y:τ},l.m=some y->∀f∈l.k y Γ,f.ok
 |_,.ix enc l i,y,h,f,hf=>by
  rcases ca1.1 hf with rfl|hf
  ·exact h
  grind
 |_,.quo _ _ _,y,h,f,hf=>hΓ f hf
 |_,.rem _ _,y,h,f,hf=>hΓ f hf
 |_,.shl _ _ _,y,h,f,hf=>hΓ f hf
 |_,.shr _ _ _,y,h,f,hf=>hΓ f hf
 |_,.str _ _,y,h,f,hf=>hΓ f hf
 |_,.arr _ _ _,y,h,f,hf=>hΓ f hf
 |_,.ex8 _ _,y,h,f,hf=>hΓ f hf
 |_,.ef2 _ _ _,y,h,f,hf=>hΓ f hf
 |_,.b2s _,y,h,f,hf=>hΓ f hf
 |_,.ax _ _ _,y,h,f,hf=>hΓ f hf
theorem W1.ok {Ev:EqV X.P}{Γ:List GF}(hΓ:∀f∈Γ,f.ok){tm:List (Nat×T)}{hp:List (Nat×G6)}{o:Oper}:∀{u:W1}{t:Tr}{V:T},u.q Ev X.C8 Γ tm hp o.op=some (t,V)->t.den->
  ∀(S:Nat->Prop) (E:Nat->Value) (a:Act) (w:World),Ok X.w0 X.L X.nt ⟨tm,hp⟩ S E a w->∃v,(execOp a.eval o).run X.P w= .ok (.value v) w/\RV w S E v V
 | .hx n,t,V,h,ht=>by
  simp only[W1.q]at h
  split at h<;>try(cases h;done)
  rename_i f hf
  split at h<;>try(cases h;done)
  rename_i t' res hq
  simp only[aI6,ba7]at h
  obtain⟨rfl,rfl⟩:=h
  intro S E a w hk
  exact L1.ok hq ht f.y S E a w (hΓ f (db2 hf)) hk
 | .ly n,t,V,h,ht=>by
  simp only[W1.q]at h
  split at h<;>try(cases h;done)
  rename_i f t' p hf ho
  split at h<;>try(cases h;done)
  rename_i id i sz off ti hp1 hti
  split at h<;>try(cases h;done)
  rename_i e sz' n' rs r hb hr
  cases hsz:br8 sz sz'<;>simp only[hsz,fk7,fk6,reduceCtorEq,aI6,ba7]at h
  have hsz:=bq8 hsz
  subst hsz
  obtain⟨rfl,rfl⟩:=h
  have h1:=V.eq ht
  simp only[ba7]at h1
  obtain⟨rfl,rfl,rfl⟩:=h1
  intro S E a w hk
  have hy:=hΓ f (db2 hf)
  obtain⟨v,h1,h2⟩:=dx7 (P:=X.P) hk (X.K6 t' _ hti) hb (hk.val hp1) (by rw[dr2,(aV0 hy).2.1];rfl) hr
  grind [execOp,bq9,bd5,bB8]
 | .eq,t,V,h,ht=>by
  simp only[W1.q]at h
  split at h<;>try(cases h;done)
  rename_i op ty x y yt ho
  split at h<;>try(cases h;done)
  rename_i xs ys hx hy
  split at h<;>try(cases h;done)
  rename_i b hb
  obtain⟨vs,us,rfl,rfl,he⟩:=Ev.ok _ _ _ _ hb
  intro S E a w hk
  have hr:=eT5 (o:=o) (w:=w) (yt:=yt) he (dO5 (hk.val hx)) (dO5 (hk.val hy))
  split at h<;>try(cases h;done)
  ·simp only[aI6,ba7]at h
   obtain⟨rfl,rfl⟩:=h
   exact⟨_,hr.1 ho,.t (.v _)⟩
  ·simp only[aI6,ba7]at h
   obtain⟨rfl,rfl⟩:=h
   exact⟨_,hr.2 ho,.t (.v _)⟩
 | .cn,t,V,h,ht=>by
  simp only[W1.q]at h
  split at h<;>try(cases h;done)
  rename_i a b ho
  split at h<;>try(cases h;done)
  rename_i x t' ha hb
  split at h<;>try(cases h;done)
  rename_i s0 e z0 hx hty
  simp only[aI6,ba7]at h
  obtain⟨rfl,rfl⟩:=h
  have ha:a= #[x]:=by cases a;simp_all
  have hb:b= #[t']:=by cases b;simp_all
  subst ha hb
  intro S E a w hk
  obtain⟨dd,hdd,ho2⟩:=(X.K6 t' _ hty).av0 w
  simp only[TD.ok]at ho2
  subst ho2
  have hxv:=(hk.val hx).tv
  refine⟨.int .i64 0,?_,.t (.v _)⟩
  unfold execOp
  simp[ho,resolve,invoke,builtin,hxv,Builtin.cap_,hdd,goInt]
 | .sn,t,V,h,ht=>by
  simp only[W1.q]at h
  split at h<;>try(cases h;done)
  rename_i t' x hi ho
  split at h<;>try(cases h;done)
  rename_i k s0 e z0 hx hh hty
  split at h<;>try(cases h;done)
  rename_i te hte
  simp only[aI6,ba7]at h
  obtain⟨rfl,rfl⟩:=h
  intro S E a w hk
  obtain⟨dd,hdd,ho2⟩:=(X.K6 t' _ hty).av0 w
  simp only[TD.ok]at ho2
  subst ho2
  have hxv:=(hk.val hx).tv
  have hhv:=(hk.val hh).tv
  have hs:=(X.K6 e _ hte).aG6 w
  refine⟨.slice none 0 0,?_,.t (.v _)⟩
  unfold execOp
  simp[ho,Instr.sliceAt,Instr.slice,Instr.sliceBounds,Instr.sliceBound,asIntOf,hxv,hhv,hdd,hs]
def el9 {P:Program}{w0:World}{L:Lim}{nt:Nat}{σ:St}{S:Nat->Prop}{E:Nat->Value}{a:Act}{w:World}(h:Ok w0 L nt σ S E a w){o:Oper}{n:Nat}{l:List T}{aW8:List (List Tree)}(ho:cN6 σ.tm o=some (n,l,aW8))(hn:∀vs w,(callFunc n vs).run P w= .ok (.enter n vs) w):
  ∃vs ps:List Value,(execOp a.eval o).run P w= .ok (.enter n (vs++ps).toArray) w/\RVL w S E vs l/\∀E',RVL w S E' ps (aW8.map T.el):=by
 obtain⟨dst,op,type,pos,aft,guard⟩:=o
 unfold cN6 at ho
 split at ho<;>try(cases ho;done)
 rename_i f args tys hop
 simp only at hop
 subst hop
 have key:∀(n':Nat) (cz8:List (List Tree)) (l':List T),RV w S E (a.eval f) (.fz n' cz8)->by8 σ.tm args.toList=some l'->n'=n->cz8=aW8->l'=l->
   ∃vs ps:List Value,(execOp a.eval ⟨dst,.call ⟨.value f,args,tys⟩,type,pos,aft,guard⟩).run P w= .ok (.enter n (vs++ps).toArray) w/\RVL w S E vs l/\∀E',RVL w S E' ps (aW8.map T.el):=by
  intro n' cz8 l' hfv hl e1 e2 e3
  subst e1 e2 e3
  generalize hx:a.eval f=x at hfv
  cases hfv with
  |fz _ ps _ hpl hp=>
   refine⟨args.toList.map a.eval,ps,?_,cr0 h _ _ hl,fun E'=>⟨by grind,fun j h1 h2=>?_⟩⟩
   ·simp_all[execOp,resolve,Deferred.ofValue,invoke]
   ·simp only[dc0]
    exact(hp j h1 (by omega)).rv
 split at ho<;>try(cases ho;done)
 ·rename_i n' cz8 l' hf hl
  simp only[aI6,ba7]at ho
  obtain⟨rfl,rfl,rfl⟩:=ho
  exact key _ _ _ (h.val hf) hl rfl rfl rfl
 ·rename_i n' cs l' hf hl
  split at ho<;>try(cases ho;done)
  rename_i cz8 he
  simp only[aI6,ba7]at ho
  obtain⟨rfl,rfl,rfl⟩:=ho
  exact key _ _ _ (RV.eA9 (h.val hf) he) hl rfl rfl rfl
end
end Go.Pv

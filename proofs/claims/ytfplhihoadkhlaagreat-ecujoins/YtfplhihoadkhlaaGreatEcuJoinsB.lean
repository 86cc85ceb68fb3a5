/- A part of the proof of EcuJoins: The value machine, and more. -/
import Derived.Test.YtfplhihoadkhlaaGreatEcuJoinsA
import Derived.Orders
import Derived.ProofKit
import Derived.OpenShut
import Derived.WalkKit
import Derived.Below
import Derived.Carry
import Derived.Laws.StructEq
import Derived.Laws.MakeOwn
import Derived.Shelf.SlSortCmp.NoneTotal
import Derived.Deep.Draws
import Derived.Lib.BitFns
import Derived.Shelf.Strconv.Itoa0
import Derived.Shelf.Bits.Mul64
import Derived.Scope
import Derived.OrdersHeld
import Derived.Shelf.Sort.Plain
import Derived.Shelf.Slices.In.SortNone
import Derived.Shelf.Slices.CompactI
set_option linter.unusedSimpArgs false
set_option linter.unusedVariables false
set_option maxRecDepth 100000
noncomputable section
open Array renaming getD_eq_getD_getElem?->eT5,getElem?_append_left->eL5,getElem?_eq_some_iff->dC3,getElem?_modify->eU6,getElem_toList->fc4,length_toList->fd3,replicate->fd6
open Bool renaming and_eq_true->au2,false_eq_true->do8,not_eq_true'->bZ6,or_eq_true->cx1
open Int renaming le_refl->dF5,toNat_natCast->eI8
open Go.IntKind renaming bits->eU4,u64->aK3
open List renaming all_eq_true->by6,any_eq_false->dB8,append_assoc->dq9,append_nil->dn6,cons_append->dK4,drop_drop->ep0,drop_eq_nil_of_le->eT4,eq_nil_of_length_eq_zero->ex7,filter_append->dR0,filter_cons->ew7,filter_nil->eK3,getD_eq_getElem?_getD->dj0,getElem?_append_left->ee0,getElem?_append_right->dG9,getElem?_cons_zero->cZ9,getElem?_drop->eU5,getElem?_eq_getElem->aJ9,getElem?_eq_some_iff->bD8,getElem?_map->cM9,getElem?_take->dx0,getElem?_toArray->fc2,getElem_append_left->cG5,getElem_append_right->do1,getElem_drop->ex8,getElem_map->dB9,getElem_mem->bf2,getElem_replicate->eZ2,getElem_set->eX2,getElem_take->ed8,head?_drop->ey0,length->fd2,length_append->aX7,length_cons->bu6,length_drop->do0,length_map->cW3,length_nil->cY9,length_set->ee7,length_take->bs8,map_append->eK7,map_cons->cX5,map_drop->fe9,map_nil->ep3,map_take->fd1,map_toArray->eX7,mem_append->do2,mem_cons->cr6,mem_cons_of_mem->bO9,mem_cons_self->bL5,mem_filter->dO7,mem_iff_getElem->da7,mem_map->cZ1,mem_of_getElem?->dv3,mem_of_mem_drop->eV0,mem_of_mem_take->ey2,mem_range->ed7,range->dy2,range'->ed5,replicate->cD1,setIfInBounds_toArray->eU9,size_toArray->eZ5
open Nat renaming add_assoc->dM6,add_mul->eB2,add_zero->eb5,beq->bx3,beq_refl->bX7,ble->dQ0,blt->ba2,div_add_mod->eY5,div_lt_of_lt_mul->eV2,eq_of_beq_eq_true->bq5,eq_zero_or_pos->dS1,le_add_right->fh0,le_of_ble_eq_true->ba1,le_refl->cB6,lt_of_lt_of_le->dN6,lt_or_ge->dh0,min_eq_left->eN3,mod_eq_of_lt->eY0,mod_lt->eO7,mul_add_mod->fe0,mul_comm->en8,mul_le_mul_right->cA4,not_lt->fc9,succ_mul->dN7,zero_add->cY7,zero_lt_one->fe3
open Option renaming bind->ab6,bind_some->ac0,getD_some->ey3,isNone_iff_eq_none->eV3,map_eq_some_iff->eC7,map_none->eY6,map_some->cb0
open Option.some renaming inj->cJ3,injEq->aj7
open Prod.mk renaming injEq->aX2
open Go.Result renaming andThen_ok->aY1
open Go.Result.ok renaming injEq->eU8
open Go.Sem renaming run->ff9,run_bind->bd5,run_pure->bx4
namespace Go.Pv
open Go.RowKit
def more (tm tm':List (Nat×T)):Prop:=∀k t,look tm k=some t->look tm' k=some t
theorem E5 {tm tm':List (Nat×T)}(h:more tm tm'){x:Operand}{t:T}(hx:val tm x=some t):val tm' x=some t:=by
 cases x with
 |tmp k=>exact h k t hx
 |const v=>exact hx
 |func f=>exact hx
 |global g=>exact hx
theorem bG4 {tm tm':List (Nat×T)}(h:more tm tm'):∀{l:List Operand}{r:List T},by3 tm l=some r->by3 tm' l=some r
 |[],r,hx=>hx
 |o::l,r,hx=>by
  unfold by3 at hx|-
  split at hx<;>try(cases hx;done)
  rename_i y m hy hm
  rw[E5 h hy,bG4 h hm]
  exact hx
theorem ce9 {f:Int->Int->Int}{tm tm':List (Nat×T)}(h:more tm tm'):∀{l:List Operand}{X:Option T}{r:T},bE8 f tm X l=some r->bE8 f tm' X l=some r
 |[],X,r,hx=>by cases X<;>exact hx
 |o::l,X,r,hx=>by
  unfold bE8 at hx|-
  split at hx
  ·rename_i heq;cases heq
  ·rename_i k i o' l' heq
   cases heq
   split at hx
   ·rename_i k' j hv
    simp only[E5 h hv]
    exact ce9 h hx
   ·cases hx
  ·cases hx
theorem cP5 {f:Int->Int->Int}{tm:List (Nat×T)}{l:List Operand}{r:T}(h:bE8 f tm none l=some r):False:=by
 cases l<;>simp[bE8]at h
theorem bJ4 {hp:List (Nat×H6)}{tm tm':List (Nat×T)}(h:more tm tm'){place:Nat->Option (Nat×Nat)}:∀{l:List (Nat×Operand)}{cs r:List T},aL6 hp tm place cs l=some r->aL6 hp tm' place cs l=some r
 |[],cs,r,hx=>hx
 |(i,x)::l,cs,r,hx=>by
  unfold aL6 at hx|-
  cases hv:val tm x with
  |none=>simp[hv]at hx
  |some t=>
   rw[E5 h hv]
   rw[hv]at hx
   split at hx<;>try(cases hx;done)
   rename_i o n m h1 h2
   cases hb:(bx3 m.length n&&dQ0 (o+m.length) cs.length)<;>simp only[hb,fh5,fh3]at hx|-
   ·cases hx
   ·exact bJ4 h hx
theorem dI1 {c:Bool}{X Y X' Y':Option T}{t:T}(hX:∀t,X=some t->X'=some t)(hY:∀t,Y=some t->Y'=some t)(h:co2 c X Y=some t):co2 c X' Y'=some t:=by
 unfold co2 at h
 split at h
 ·rw[hX _ rfl,hY _ rfl];exact h
 ·cases c
  ·rw[hY t h]
   unfold co2
   split
   ·rename_i heq
    simp only[aj7]at heq
    subst heq
    rfl
   ·rfl
  ·rw[hX t h]
   unfold co2
   split
   ·rename_i heq
    simp only[aj7]at heq
    subst heq
    rfl
   ·rfl
def bB3:Op->Bool
 | .move _| .assign _| .pick .. | .load .. | .fieldAddr .. | .nilCheck _| .binOp .. | .unOp .. | .convert .. | .extract .. | .build .. | .call _| .indexAddr .. | .index ..=>true
 |_=>false
theorem ds8 {D5:Tab}{tm tm':List (Nat×T)}{hp:List (Nat×H6)}{o:Oper}{t:T}(h:more tm tm')(hi:bB3 o.op=true)(he:evalOp D5 ⟨tm,hp⟩ o=some (t,⟨tm,hp⟩)):
  evalOp D5 ⟨tm',hp⟩ o=some (t,⟨tm',hp⟩):=by
 rw[aU3]at he|-
 obtain⟨dst,op,type,pos,aft,guard⟩:=o
 have mp:∀{x:Option T},x=some t->x.map (·,(⟨tm',hp⟩:St))=some (t,⟨tm',hp⟩):=fun hx=>by rw[hx];rfl
 cases op<;>simp only[bB3,reduceCtorEq]at hi<;>simp only[bl7]at he|-
 case move x=>exact mp (E5 h (P5 he).1)
 case assign x=>exact mp (E5 h (P5 he).1)
 case pick c x y=>
  split at he<;>try(cases he;done)
  rename_i b hc
  rw[E5 h hc]
  exact mp (dI1 (fun t ht=>E5 h ht) (fun t ht=>E5 h ht) (P5 he).1)
 case load ty x=>
  split at he<;>try(cases he;done)
  ·rename_i id off ti hx hti
   rw[E5 h hx,hti]
   split at he<;>try(cases he;done)
   rename_i ts hb
   simp only[hb]
   exact mp (P5 he).1
  ·rename_i cells ti hx hti
   rw[E5 h hx,hti]
   exact mp (P5 he).1
 case nilCheck x=>
  split at he<;>try(cases he;done)
  ·rename_i id off hx;rw[E5 h hx];simp only[aj7,aX2]at he;rw[<-he.1]
  ·rename_i cells hx;rw[E5 h hx];simp only[aj7,aX2]at he;rw[<-he.1]
  ·rename_i hx;rw[E5 h hx];simp only[aj7,aX2]at he;rw[<-he.1]
 case fieldAddr s x f=>
  split at he<;>try(cases he;done)
  all_goals
   rename_i hx hti
   rw[E5 h hx,hti]
   split at he<;>try(cases he;done)
   rename_i hf
   simp only[hf]
   simp only[aj7,aX2]at he
   rw[<-he.1]
 case binOp op ty x y yt=>
  have hb:=(P5 he).1
  refine mp ?_
  unfold eh8 at hb|-
  split at hb<;>try(cases hb;done)
  ·rename_i hx hy;rw[E5 h hx,E5 h hy];exact hb
  ·rename_i hx hy;rw[E5 h hx,E5 h hy];exact hb
 case unOp op ty x=>
  have hb:=(P5 he).1
  refine mp ?_
  unfold unT at hb|-
  split at hb<;>try(cases hb;done)
  ·rename_i hx;rw[E5 h hx];exact hb
  ·rename_i hx;rw[E5 h hx];exact hb
 case convert s d x=>
  split at he<;>try(cases he;done)
  rename_i ti hs
  have hb:=(P5 he).1
  refine mp ?_
  unfold dr5 at hb|-
  split at hb<;>try(cases hb;done)
  rename_i hx;rw[E5 h hx];exact hb
 case extract x k=>
  split at he<;>try(cases he;done)
  rename_i l hx
  rw[E5 h hx]
  exact mp (P5 he).1
 case build ty parts=>
  split at he<;>try(cases he;done)
  ·rename_i sz fs z hti
   cases hf:aL6 hp tm (fs[·]?) (z.map fun x=>.t (.v x)) parts.toList with
   |none=>simp[hf]at he
   |some l=>
    rw[bJ4 h hf]
    simp only[hf,cb0,aj7,aX2]at he
    simp only[cb0,he.1]
  ·rename_i sz n e z hti
   split at he<;>try(cases he;done)
   rename_i te hte
   try simp only[hte]
   cases hf:aL6 hp tm (fun i=>some (i*te.size,te.size)) (z.map fun x=>.t (.v x)) parts.toList with
   |none=>simp[hf]at he
   |some l=>
    rw[bJ4 h hf]
    simp only[hf,cb0,aj7,aX2]at he
    simp only[cb0,he.1]
 case indexAddr ty x ix=>
  split at he<;>try(cases he;done)
  all_goals
   rename_i hx hti hix
   split at he<;>try(cases he;done)
   rename_i te hte
  ·rename_i id off sz n e z ik i _
   rw[E5 h hx,hti,E5 h hix]
   try simp only[hte]
   cases hb:ba2 i n<;>simp only[hb,fh5,fh3,reduceCtorEq,aj7,aX2]at he|-
   exact⟨he.1,trivial⟩
  ·rename_i cells sz n e z ik i _
   rw[E5 h hx,hti,E5 h hix]
   try simp only[hte]
   cases hb:ba2 i n<;>simp only[hb,fh5,fh3,reduceCtorEq,aj7,aX2]at he|-
   exact⟨he.1,trivial⟩
  ·rename_i id k sz' off sz n e z ik i _
   rw[E5 h hx,hti,E5 h hix]
   try simp only[hte]
   cases hb:ba2 i n<;>simp only[hb,fh5,fh3,reduceCtorEq,aj7,aX2]at he|-
   exact⟨he.1,trivial⟩
 case index ty x ix=>
  split at he<;>try(cases he;done)
  rename_i l sz n e z ik i hx hti hix
  split at he<;>try(cases he;done)
  rename_i te hte
  rw[E5 h hx,hti,E5 h hix]
  try simp only[hte]
  cases hb:ba2 i n<;>simp only[hb,fh5,fh3,reduceCtorEq]at he|-
  exact mp (P5 he).1
 case call c=>
  have hb:=(P5 he).1
  refine mp ?_
  unfold dq3 at hb|-
  split at hb<;>try(cases hb;done)
  ·rename_i x ty h1 h2 h3
   cases hv:val tm x with
   |none=>rw[show val (⟨tm,hp⟩:St).tm x=none from hv]at hb;unfold du8 at hb;split at hb<;>simp at hb
   |some y=>
    rw[show val (⟨tm,hp⟩:St).tm x=some y from hv]at hb
    show du8 D5 hp ty (val tm' x)=some t
    rw[E5 h hv];exact hb
  ·rename_i x rest h1 h2
   cases hv:val tm x with
   |none=>rw[show val (⟨tm,hp⟩:St).tm x=none from hv]at hb;exact(cP5 hb).elim
   |some y=>
    rw[show val (⟨tm,hp⟩:St).tm x=some y from hv]at hb
    show bE8 J1 tm' (val tm' x) rest=some t
    rw[E5 h hv];exact ce9 h hb
  ·rename_i x rest h1 h2
   cases hv:val tm x with
   |none=>rw[show val (⟨tm,hp⟩:St).tm x=none from hv]at hb;exact(cP5 hb).elim
   |some y=>
    rw[show val (⟨tm,hp⟩:St).tm x=some y from hv]at hb
    show bE8 K2 tm' (val tm' x) rest=some t
    rw[E5 h hv];exact ce9 h hb
section
variable {ρ τ α:Type} {X:Cx} {ks:List K} {W9:List (Nat × T)} {hp:List (Nat × H6)} {all:Array Oper} {o:Oper} {V:T}
theorem at8 {tm tm':List (Nat×T)}{l:List Oper}{g:Option (Nat×Bool)}{b:Bool}(h:more tm tm')(hg:aj1 l tm g=some b):aj1 l tm' g=some b:=by
 cases g with
 |none=>exact hg
 |some p=>
  obtain⟨j,want⟩:=p
  simp only[aj1]at hg|-
  split at hg<;>try(cases hg;done)
  rename_i o ho
  split at hg<;>try(cases hg;done)
  rename_i d hd
  cases hl:look tm d with
  |none=>simp[hl]at hg
  |some t=>simp only[hl]at hg;simp only[h d t hl];exact hg
end
def aX9 (o:Oper):List Nat:=(o.after.toList.filter (Region.binds .any)).map (·.on)
def waits (ops:List Oper):Nat->Nat->Nat->Bool
 |0,_,_=>false
 |f+1,j,i=>match ops[j]?with
  |some o=>(aX9 o).any (fun k=>bx3 k i)||(aX9 o).any (fun k=>waits ops f k i)
  |none=>false
def ev4 (ops:List Oper)(h:Nat):Bool:=
 (dy2 ops.length).all fun j=>(match ops[j]?with|some o=>(aX9 o).all (fun k=>ba2 k j)|none=>true)&&(ba2 j h||(dy2 j).all (fun i=>waits ops ops.length j i))
def cv7 (nt:Nat)(tm0:List (Nat×T)):List Oper->Bool
 |[]=>true
 |o::r=>(match o.dst with|some d=>(look tm0 d).isNone&&ba2 d nt&&r.all (fun o'=>match o'.dst with|some d'=>!Nat.beq d d'|none=>true)|none=>true)&&cv7 nt tm0 r
def minOf (ops:List Oper)(Vs:List T)(tm0:List (Nat×T)):List Nat->List (Nat×T)
 |[]=>tm0
 |j::r=>match ops[j]?,Vs[j]?with
  |some o,some V=>match o.dst with
   |some d=>(d,V)::minOf ops Vs tm0 r
   |none=>minOf ops Vs tm0 r
  |_,_=>minOf ops Vs tm0 r
def cf1:List Oper->List T->List (Nat×T)->List (Nat×T)
 |o::r,V::l,tm0=>match o.dst with
  |some d=>(d,V)::cf1 r l tm0
  |none=>cf1 r l tm0
 |_,_,tm0=>tm0
section
variable {X:Cx} {all:Array Oper} {Vs:List T} {tm0:List (Nat × T)} {hp:List (Nat × H6)}
theorem cR0 {ops:List Oper}{tm:List (Nat×T)}(h0:more tm0 tm):∀(l:List Nat),(∀j o V d,j∈l->ops[j]? =some o->Vs[j]? =some V->o.dst=some d->look tm d=some V)->more (minOf ops Vs tm0 l) tm
 |[],_=>h0
 |j::r,h=>by
  have ih:=cR0 h0 r (fun j' o V d hj=>h j' o V d (bO9 _ hj))
  unfold minOf
  split
  ·rename_i o V ho hV
   split
   ·rename_i d hd
    intro k t hk
    simp only[look]at hk
    by_cases hdk:d=k
    ·subst hdk;simp only[bX7,fh5,aj7]at hk;subst hk;exact h j o V d (bL5 ..) ho hV hd
    ·simp only[D6 hdk,fh3]at hk;exact ih k t hk
   ·exact ih
  ·exact ih
theorem cA9 {tm:List (Nat×T)}(h0:more tm0 tm):∀(ops:List Oper) (l:List T),(∀(j:Nat) (o:Oper) (V:T) (d:Nat),ops[j]? =some o->l[j]? =some V->o.dst=some d->look tm d=some V)->more (cf1 ops l tm0) tm
 |[],_,_=>by cases‹List T› <;>exact h0
 |o::ops,[],_=>h0
 |o::ops,V::l,h=>by
  have ih:=cA9 h0 ops l (fun j o V d ho hV=>h (j+1) o V d (by simpa using ho) (by simpa using hV))
  unfold cf1
  split
  ·rename_i d hd
   intro k t hk
   simp only[look]at hk
   by_cases hdk:d=k
   ·subst hdk;simp only[bX7,fh5,aj7]at hk;subst hk;exact h 0 o V d rfl rfl hd
   ·simp only[D6 hdk,fh3]at hk;exact ih k t hk
  ·exact ih
theorem bv6 {nt:Nat}:∀{l:List Oper},cv7 nt tm0 l=true->∀(i j:Nat) (o o':Oper) (d d':Nat),l[i]? =some o->l[j]? =some o'->o.dst=some d->o'.dst=some d'->(look tm0 d=none/\d<nt)/\(i≠j->d≠d')
 |[],_,i,j,o,o',d,d',hi,_,_,_=>by simp at hi
 |x::r,h,i,j,o,o',d,d',hi,hj,hd,hd'=>by
  simp only[cv7,au2]at h
  have one:∀(k:Nat) (y:Oper) (c c':Nat),x.dst=some c->r[k]? =some y->y.dst=some c'->c≠c':=by
   intro k y c c' hx hk hy
   have hm:y∈r:=dv3 hk
   have h1:=h.1
   rw[hx]at h1
   simp only[au2,by6]at h1
   have:=h1.2 y hm
   rw[hy]at this
   intro e
   subst e
   simp at this
  cases i with
  |zero=>
   simp only[cZ9,aj7]at hi
   subst hi
   refine⟨?_,fun hne=>?_⟩
   ·have h1:=h.1
    rw[hd]at h1
    simp only[au2,eV3]at h1
    exact⟨h1.1.1,ba1 h1.1.2⟩
   ·cases j with
    |zero=>exact absurd rfl hne
    |succ j=>exact one j o' d d' hd (by simpa using hj) hd'
  |succ i=>
   have hi':r[i]? =some o:=by simpa using hi
   cases j with
   |zero=>
    simp only[cZ9,aj7]at hj
    subst hj
    exact⟨(bv6 h.2 i i o o d d hi' hi' hd hd).1,fun _ e=>one i o d' d hd' hi' hd e.symm⟩
   |succ j=>
    have:=bv6 h.2 i j o o' d d' hi' (by simpa using hj) hd hd'
    exact⟨this.1,fun hne=>this.2 (fun e=>hne (by rw[e]))⟩
theorem cr0 {ops:List Oper}{A8:Array Bool}(hcl:∀j o,ops[j]? =some o->A8.getD j false=true->∀k∈aX9 o,A8.getD k false=true):
  ∀(f j i:Nat),waits ops f j i=true->(∀o,ops[j]? =some o->∀k∈aX9 o,A8.getD k false=true)->A8.getD i false=true
 |0,_,_,h,_=>by simp[waits]at h
 |f+1,j,i,h,hd=>by
  unfold waits at h
  split at h
  ·rename_i o ho
   simp only[cx1,List.any_eq_true]at h
   rcases h with⟨k,hk,he⟩|⟨k,hk,he⟩
   ·have:=bq5 he
    subst this
    exact hd o ho k hk
   ·exact cr0 hcl f k i he (fun o' ho'=>hcl k o' ho' (hd o ho k hk))
  ·cases h
def unl (n:Nat)(A8:Array Bool):Nat:=((dy2 n).filter fun i=>!A8.getD i false).length
theorem eH6 {n i:Nat}{A8:Array Bool}(hi:i<n)(hs:A8.size=n)(h:A8.getD i false=false):unl n A8=unl n (A8.setIfInBounds i true)+1:=by
 unfold unl
 have key:∀m,((dy2 m).filter fun j=>!A8.getD j false).length=((dy2 m).filter fun j=>!(A8.setIfInBounds i true).getD j false).length+(if i<m then 1 else 0):=by
  intro m
  induction m with
  |zero=>simp
  |succ m ih=>
   rw[List.range_succ,dR0,dR0,aX7,aX7,ih]
   by_cases c1:i=m
   ·subst c1
    have e:(A8.setIfInBounds i true).getD i false=true:=by simp[hs,hi]
    simp only[ew7,eK3,h,e]
    simp
   ·have e:(A8.setIfInBounds i true).getD m false=A8.getD m false:=getD_set_ne false c1
    simp only[ew7,eK3,e]
    by_cases c2:i<m
    ·simp only[c2,if_true,show i<m+1 by omega];split<;>simp<;>omega
    ·simp only[c2,if_false,show¬i<m+1 by omega];split<;>simp
 have:=key n
 rw[if_pos hi]at this
 exact this
theorem ew6 {n:Nat}{A8:Array Bool}(h:unl n A8=0):∀i,i<n->A8.getD i false=true:=by
 intro i hi
 unfold unl at h
 have:=ex7 h
 rw[List.filter_eq_nil_iff]at this
 have:=this i (ed7.2 hi)
 simpa using this
theorem bI7 {o:Oper}{A8:Array Bool}(h:∀e∈o.after,Region.binds .any e=true->A8.getD e.on false=true):∀k∈aX9 o,A8.getD k false=true:=by
 intro k hk
 simp only[aX9,cZ1,dO7]at hk
 obtain⟨e,⟨he,hb⟩,rfl⟩:=hk
 exact h e (by simpa using he) hb
theorem eg2 {P:Program}{Q:Exit->Act->World->Prop}{h:Nat}(ht:ev4 all.toList h=true):∀(fuel m:Nat) (A8:Array Bool) (a:Act) (w:World),h<=m->m+fuel=all.size->A8.size=all.size->
  (∀j,j<all.size->A8.getD j false=decide (j<m))->wpList P all Q (all.toList.drop m) a w->wpAny P .any all Q fuel A8 a w:=by
 intro fuel
 induction fuel with
 |zero=>
  intro m A8 a w hm hf hs hl hw
  have cQ2:all.toList.drop m=[]:=eT4 (by simp;omega)
  rw[cQ2]at hw
  refine⟨?_,hw⟩
  apply List.eq_nil_iff_forall_not_mem.2
  intro j hj
  obtain⟨h1,o,ho,_⟩:=mem_ready.1 hj
  have hjn:j<all.size:=(dC3.1 ho).1
  have:=hl j hjn
  have h2:A8.getD j true=A8.getD j false:=by simp[hs,hjn]
  rw[h2,this]at h1
  simp at h1
  omega
 |succ fuel ih=>
  intro m A8 a w hm hf hs hl hw
  have hmn:m<all.size:=by omega
  have hmo:all[m]? =some all[m]:=Array.getElem?_eq_getElem hmn
  have hcl:∀j o,all.toList[j]? =some o->A8.getD j false=true->∀k∈aX9 o,A8.getD k false=true:=by
   intro j o ho hj k hk
   have hjn:j<all.size:=by have:=(bD8.1 ho).1;simpa using this
   have h1:=by6.1 ht j (ed7.2 (by simpa using hjn))
   rw[ho]at h1
   simp only[au2,by6]at h1
   have hkj:k<j:=ba1 (h1.1 k hk)
   rw[hl j hjn]at hj
   rw[hl k (by omega)]
   simp at hj|-;omega
  have only:∀j∈Region.ready .any all A8,j=m:=by
   intro j hj
   obtain⟨h1,o,ho,hd⟩:=mem_ready.1 hj
   have hjn:j<all.size:=(dC3.1 ho).1
   have h2:A8.getD j true=A8.getD j false:=by simp[hs,hjn]
   rw[h2,hl j hjn]at h1
   simp at h1
   have h3:=by6.1 ht j (ed7.2 (by simpa using hjn))
   simp only[au2,cx1,by6]at h3
   rcases dh0 m j with hlt|hge
   ·exfalso
    have hw:=(h3.2.resolve_left (fun hb=>by have:=ba1 hb;omega)) m (ed7.2 hlt)
    have:=cr0 hcl _ j m hw (fun o' ho' k hk=>by
     have:o'=o:=by rw[<-Array.getElem?_toList]at ho;rw[ho]at ho';exact(cJ3 ho').symm
     subst this
     exact bI7 hd k hk)
    rw[hl m hmn]at this
    simp at this
   ·omega
  have hin:m∈Region.ready .any all A8:=by
   have h2:A8.getD m true=false:=by
    have h2:A8.getD m true=A8.getD m false:=by simp[hs,hmn]
    rw[h2,hl m hmn];simp
   refine mem_ready.2 ⟨h2,all[m],hmo,fun e he hb=>?_⟩
   have h3:=by6.1 ht m (ed7.2 (by simpa using hmn))
   have hmo':all.toList[m]? =some all[m]:=by simp
   rw[hmo']at h3
   simp only[au2,by6]at h3
   have hk:e.on∈aX9 all[m]:=by
    simp only[aX9,cZ1,dO7]
    exact⟨e,⟨by simpa using he,hb⟩,rfl⟩
   have hlt:e.on<m:=ba1 (h3.1 e.on hk)
   rw[hl e.on (by omega)]
   simpa using hlt
  refine⟨fun h0=>(by rw[h0]at hin;cases hin),fun i hi=>?_⟩
  have:=only i hi
  subst this
  have hdrop:all.toList.drop i=all[i]::all.toList.drop (i+1):=by
   rw[List.drop_eq_getElem_cons (by simpa using hmn)];simp
  rw[hdrop]at hw
  unfold wpList at hw
  unfold wpOp
  simp only[hmo]
  have next:∀a w,wpList P all Q (all.toList.drop (i+1)) a w->wpAny P .any all Q fuel (A8.setIfInBounds i true) a w:=fun a w hw=>
   ih (i+1) _ a w (by omega) (by omega) (by simp[hs]) (fun j hj=>by
    by_cases c:i=j
    ·subst c;simp[hs,hmn]
    ·rw[getD_set_ne false c,hl j hj];simp;omega) hw
  split at hw
  ·rename_i hg
   rw[if_pos hg]
   exact hw.imp (Oper.wp_mono next) id
  ·rename_i hg
   rw[if_neg hg]
   exact next _ _ hw
theorem bU1 (n j:Nat):(fd6 n false).getD j false=false:=by
 simp only[eT5,Array.getElem?_replicate]
 split<;>rfl
end
theorem ev3 {P:Program}{t:Nat}{ti:TI}{t0:Nat}{ti0:TI}{r:Tab}(h:look ((t0,ti0)::r) t=some ti)(h0:bh8 P t0 ti0)(k:look r t=some ti->bh8 P t ti):bh8 P t ti:=by
 simp only[look]at h
 by_cases ht:t0=t
 ·subst ht;simp only[bX7,fh5,aj7]at h;subst h;exact h0
 ·simp only[D6 ht,fh3]at h;exact k h
mutual
def aS9 (id:Nat)(u:T):T->T
 | .own i=>bif bx3 i id then u else .own i
 | .agg l=>.agg (aY8 id u l)
 | .S9 l=>.S9 (aY8 id u l)
 | .clo f l=>.clo f (aY8 id u l)
 |x=>x
def aY8 (id:Nat)(u:T):List T->List T
 |[]=>[]
 |x::r=>aS9 id u x::aY8 id u r
end
def cq3 (id:Nat)(u:T):List (Nat×T)->List (Nat×T)
 |[]=>[]
 |(k,x)::r=>(k,aS9 id u x)::cq3 id u r
def bo5 (id:Nat)(u:T):List (Nat×H6)->List (Nat×H6)
 |[]=>[]
 |(k,.box l)::r=>bif bx3 k id then bo5 id u r else(k,.box (aY8 id u l))::bo5 id u r
 |(k,x)::r=>bif bx3 k id then bo5 id u r else(k,x)::bo5 id u r
section
variable {w:World} {S S':Nat -> Prop} {E:Nat -> Value} {id:Nat} {u:T}
mutual
theorem cV2 (hS:∀b,S b->S' b)(hu:RV w S' E (E id) u):∀{t:T}{v:Value},RV w S E v t->RV w S' E v (aS9 id u t)
 | .t x,v,h=>by simp only[aS9];exact h.mono hS (fun _ _=>rfl) (fun _ _=>rfl)
 | .el c,v,h=>by simp only[aS9];exact h.mono hS (fun _ _=>rfl) (fun _ _=>rfl)
 | .ptr i o,v,h=>by simp only[aS9];exact h.mono hS (fun _ _=>rfl) (fun _ _=>rfl)
 | .pe i a b c,v,h=>by simp only[aS9];exact h.mono hS (fun _ _=>rfl) (fun _ _=>rfl)
 | .vw i a b c,v,h=>by simp only[aS9];exact h.mono hS (fun _ _=>rfl) (fun _ _=>rfl)
 | .own i,v,h=>by
  simp only[aS9]
  by_cases hi:i=id
  ·subst hi
   simp only[bX7,fh5]
   cases h with|own _ _ hE=>rw[<-hE];exact hu
  ·simp only[D6 hi,fh3];exact h.mono hS (fun _ _=>rfl) (fun _ _=>rfl)
 | .agg l,v,h=>by
  simp only[aS9]
  cases h with|agg vs _ hl hr=>have:=bG1 hS hu (l:=l) (vs:=vs) ⟨hl,hr⟩;exact .agg vs _ this.1 this.2
 | .S9 l,v,h=>by
  simp only[aS9]
  cases h with|S9 vs _ hl hr=>have:=bG1 hS hu (l:=l) (vs:=vs) ⟨hl,hr⟩;exact .S9 vs _ this.1 this.2
 | .clo f l,v,h=>by
  simp only[aS9]
  cases h with|clo _ vs _ hl hr=>have:=bG1 hS hu (l:=l) (vs:=vs) ⟨hl,hr⟩;exact .clo f vs _ this.1 this.2
 | .fz n c,v,h=>by simp only[aS9];exact h.mono hS (fun _ _=>rfl) (fun _ _=>rfl)
 | .any,v,h=>by simp only[aS9];exact .any v
theorem bG1 (hS:∀b,S b->S' b)(hu:RV w S' E (E id) u):∀{l:List T}{vs:List Value},RVL w S E vs l->RVL w S' E vs (aY8 id u l)
 |[],vs,h=>⟨h.1,fun j _ h2=>by simp[aY8]at h2⟩
 |x::l,vs,h=>by
  cases vs with
  |nil=>have:=h.1;simp at this
  |cons v vs=>
   have h1:=cV2 hS hu (t:=x) (h.2 0 (by simp) (by simp))
   have h2:=bG1 hS hu (l:=l) (vs:=vs) ⟨by simpa using h.1,fun j a b=>h.2 (j+1) (by simpa using a) (by simpa using b)⟩
   refine⟨by simp[aY8,h2.1],fun j a b=>?_⟩
   cases j with
   |zero=>exact h1
   |succ j=>exact h2.2 j (by simpa using a) (by simpa[aY8]using b)
end
end
theorem ch5 (id:Nat)(u:T):∀(l:List (Nat×T)) (k:Nat),look (cq3 id u l) k=(look l k).map (aS9 id u)
 |[],k=>rfl
 |(j,x)::r,k=>by
  simp only[cq3,look]
  by_cases hj:j=k
  ·subst hj;simp
  ·simp[D6 hj,ch5 id u r k]
theorem as5 (id:Nat)(u:T):∀(l:List (Nat×H6)) (k:Nat) (b:H6),look (bo5 id u l) k=some b->k≠id/\∃b0,look l k=some b0/\(match b0 with| .box ts=>b= .box (aY8 id u ts)|x=>b=x)
 |[],k,b,h=>by simp[bo5,look]at h
 |(j,.box ts)::r,k,b,h=>by
  simp only[bo5]at h
  by_cases hj:j=id
  ·subst hj
   simp only[bX7,fh5]at h
   obtain⟨h1,b0,h2,h3⟩:=as5 j u r k b h
   exact⟨h1,b0,by simp only[look,D6 (Ne.symm h1),fh3];exact h2,h3⟩
  ·simp only[D6 hj,fh3,look]at h
   by_cases hk:j=k
   ·subst hk
    simp only[bX7,fh5,aj7]at h
    exact⟨hj,.box ts,by simp[look],h.symm⟩
   ·simp only[D6 hk,fh3]at h
    obtain⟨h1,b0,h2,h3⟩:=as5 id u r k b h
    exact⟨h1,b0,by simp only[look,D6 hk,fh3];exact h2,h3⟩
 |(j,.rows e sz n rs)::r,k,b,h=>by
  simp only[bo5]at h
  by_cases hj:j=id
  ·subst hj
   simp only[bX7,fh5]at h
   obtain⟨h1,b0,h2,h3⟩:=as5 j u r k b h
   exact⟨h1,b0,by simp only[look,D6 (Ne.symm h1),fh3];exact h2,h3⟩
  ·simp only[D6 hj,fh3,look]at h
   by_cases hk:j=k
   ·subst hk
    simp only[bX7,fh5,aj7]at h
    exact⟨hj,.rows e sz n rs,by simp[look],h.symm⟩
   ·simp only[D6 hk,fh3]at h
    obtain⟨h1,b0,h2,h3⟩:=as5 id u r k b h
    exact⟨h1,b0,by simp only[look,D6 hk,fh3];exact h2,h3⟩
 |(j,.mp es)::r,k,b,h=>by
  simp only[bo5]at h
  by_cases hj:j=id
  ·subst hj
   simp only[bX7,fh5]at h
   obtain⟨h1,b0,h2,h3⟩:=as5 j u r k b h
   exact⟨h1,b0,by simp only[look,D6 (Ne.symm h1),fh3];exact h2,h3⟩
  ·simp only[D6 hj,fh3,look]at h
   by_cases hk:j=k
   ·subst hk
    simp only[bX7,fh5,aj7]at h
    exact⟨hj,.mp es,by simp[look],h.symm⟩
   ·simp only[D6 hk,fh3]at h
    obtain⟨h1,b0,h2,h3⟩:=as5 id u r k b h
    exact⟨h1,b0,by simp only[look,D6 hk,fh3];exact h2,h3⟩
 |(j,.rv y e sz n rs)::r,k,b,h=>by
  simp only[bo5]at h
  by_cases hj:j=id
  ·subst hj
   simp only[bX7,fh5]at h
   obtain⟨h1,b0,h2,h3⟩:=as5 j u r k b h
   exact⟨h1,b0,by simp only[look,D6 (Ne.symm h1),fh3];exact h2,h3⟩
  ·simp only[D6 hj,fh3,look]at h
   by_cases hk:j=k
   ·subst hk
    simp only[bX7,fh5,aj7]at h
    exact⟨hj,.rv y e sz n rs,by simp[look],h.symm⟩
   ·simp only[D6 hk,fh3]at h
    obtain⟨h1,b0,h2,h3⟩:=as5 id u r k b h
    exact⟨h1,b0,by simp only[look,D6 hk,fh3];exact h2,h3⟩
section
variable {ρ τ α:Type} {X:Cx} {ks:List K} {tm:List (Nat × T)} {hp:List (Nat × H6)} {m:Option ρ} {Q:ρ -> Exit -> St -> Prop} {all:Array Oper} {o:Oper} {rest:List Oper}
theorem Sim.frz {w0:World}{L:Lim}{nt:Nat}{a:Act}{w:World}(id:Nat){e sz n:Nat}{rs:List (List Tree)}(hb:look hp id=some (.rows e sz n rs))(h:Sim w0 L nt ⟨tm,hp⟩ a w):
  Sim w0 L nt ⟨cq3 id (.t (.sl n rs)) tm,bo5 id (.t (.sl n rs)) hp⟩ a w:=by
 obtain⟨S,E,hk⟩:=h
 let S':Nat->Prop:=fun b=>S b\/U5 (E id)=some b
 have hS:∀b,S b->S' b:=fun b hb=>.inl hb
 have hu:RV w S' E (E id) (.t (.sl n rs)):=by
  have hk1:Ok w0 L nt ⟨tm,[(id,.rows e sz n rs)]⟩ S E a w:=
   {hk with
    hp:=fun i b hb'=>by
     simp only[look]at hb'
     by_cases hi:id=i
     ·subst hi;simp only[bX7,fh5,aj7]at hb';subst hb';exact hk.hp id _ hb
     ·simp[D6 hi]at hb'
    own:=fun i b β hb' hβ=>by
     simp only[look]at hb'
     by_cases hi:id=i
     ·subst hi;simp only[bX7,fh5,aj7]at hb';subst hb';exact hk.own id _ β hb hβ
     ·simp[D6 hi]at hb'
    au8:=fun i i' b b' β h1 h2 _ _=>by
     simp only[look]at h1 h2
     by_cases hi:id=i<;>by_cases hi':id=i'
     ·exact hi.symm.trans hi'
     ·simp[D6 hi']at h2
     ·simp[D6 hi]at h1
     ·simp[D6 hi]at h1}
  refine .t (bX3 hk1 (id:=id) (e:=e) (sz:=sz) (by simp[look]) S' hS fun b hb'=>?_)
  obtain⟨i,_,hl,hβ⟩:=hb'
  simp only[look]at hl
  by_cases hi:id=i
  ·subst hi;exact .inr hβ
  ·simp[D6 hi]at hl
 refine⟨S',E,{keep:=hk.keep,size:=hk.size,defers:=hk.defers,aH4:=fun b hb'=>?_,base:=fun b hb'=>?_,tm:=fun k t ht=>?_,hp:=fun i b hi=>?_,own:=fun i b β hi hβ=>?_,au8:=fun i i' b b' β h1 h2 hβ hβ'=>?_,pin:=hk.pin}⟩
 ·rcases hb' with h1|h1
  ·exact hk.aH4 b h1
  ·exact(hk.own id _ b hb h1).2.1
 ·rcases hb' with h1|h1
  ·exact hk.base b h1
  ·rcases(hk.own id _ b hb h1).2.2 with h2|h2
   ·exact .inr (.inr h2)
   ·exact .inr (.inl h2)
 ·rw[ch5]at ht
  cases hl:look tm k with
  |none=>simp[hl]at ht
  |some t0=>simp only[hl,cb0,aj7]at ht;subst ht;exact cV2 hS hu (hk.tm k t0 hl)
 ·obtain⟨hne,b0,hb0,hm⟩:=as5 _ _ _ _ _ hi
  have hk0:=hk.hp i b0 hb0
  cases b0 with
  |box ts=>
   simp only at hm
   subst hm
   obtain⟨β,vs,elem,h1,h2,h3,h4,h5⟩:=hk0
   have:=bG1 hS hu (l:=ts) (vs:=vs) ⟨h3,h4⟩
   exact⟨β,vs,elem,h1,h2,this.1,this.2,h5⟩
  |rows e' sz' n' rs'=>
   simp only at hm
   subst hm
   exact hk0.mono hS (fun _ _=>rfl) (fun _ _=>rfl) (fun _ _=>rfl)
  |mp es=>
   simp only at hm
   subst hm
   exact hk0.mono hS (fun _ _=>rfl) (fun _ _=>rfl) (fun _ _=>rfl)
  |rv y e sz n rs=>
   simp only at hm
   subst hm
   exact hk0.mono hS (fun _ _=>rfl) (fun _ _=>rfl) (fun _ _=>rfl)
 ·obtain⟨hne,b0,hb0,_⟩:=as5 _ _ _ _ _ hi
  have:=hk.own i b0 β hb0 hβ
  exact⟨fun hx=>hx.elim this.1 (fun hx=>hne (hk.au8 i id b0 _ β hb0 hb hβ hx)),this.2⟩
 ·obtain⟨_,c,hc,_⟩:=as5 _ _ _ _ _ h1
  obtain⟨_,c',hc',_⟩:=as5 _ _ _ _ _ h2
  exact hk.au8 i i' c c' β hc hc' hβ hβ'
theorem C3.frz {ops:List Oper}(id:Nat){e sz n:Nat}{rs:List (List Tree)}(hb:look hp id=some (.rows e sz n rs))(h:C3 X all ops ks ⟨cq3 id (.t (.sl n rs)) tm,bo5 id (.t (.sl n rs)) hp⟩ m Q):C3 X all ops ks ⟨tm,hp⟩ m Q:=
 fun r hr a w hw=>h r hr a w (hw.frz id hb)
theorem ad0.frz {e':Exit}(id:Nat){e sz n:Nat}{rs:List (List Tree)}(hb:look hp id=some (.rows e sz n rs))(h:ad0 X ks e' ⟨cq3 id (.t (.sl n rs)) tm,bo5 id (.t (.sl n rs)) hp⟩ m Q):ad0 X ks e' ⟨tm,hp⟩ m Q:=
 fun r hr a w hw=>h r hr a w (hw.frz id hb)
end
end Go.Pv
namespace Go.Pv
open Go.RowKit Go.WideShapes Go.ChangeShapes
def RTL (w:World)(S:Nat->Prop)(cs:List Value)(ts:List Tree):Prop:=cs.length=ts.length/\∀j (h1:j<cs.length) (h2:j<ts.length),RT w S (cs[j]) (ts[j])
def old (w:World):Nat->Prop:=fun b=>b<w.heap.size
def Reads (P:Program)(t:Nat){α:Type}(enc:α->List Tree)(wf:α->Prop):Prop:=
 ∀(H:Type) (e:TypeId×Value->H) (w:World) (fuel:Nat) (cs:List Value) (x:DataW H×List MemPlace),DataW.trod e P w 0 (fun _=>true) true fuel t cs=some x->
  ∃y:α,wf y/\RTL w (old w) cs (enc y)
section
variable {P:Program} {t:Nat}
theorem RTL.one {w:World}{S:Nat->Prop}{v:Value}{y:Tree}(h:RT w S v y):RTL w S [v] [y]:=
 ⟨rfl,fun j h1 h2=>by have:j=0:=(by simp at h1;omega);subst this;exact h⟩
theorem df2 {k:IntKind}{enc:Int->List Tree}(ht:P.underlying t=some (.int k))(az8:∀n,enc n=[.v (.int k n)]):Reads P t enc (fun n=>(Lit.int k n).wf=true):=by
 intro H e w fuel cs x h
 obtain⟨n,rfl,_,hw⟩:=DataW.trod_int ht h
 exact⟨n,hw,by rw[az8];exact .one (.v _)⟩
def wfL {α:Type}(wf:α->Prop)(l:List α):Prop:=l.length<=9223372036854775807/\∀y∈l,wf y
theorem bA1 {el:Nat}{α:Type}{enc:α->List Tree}{wf:α->Prop}{sz:Nat}(ht:P.underlying t=some (.slice el))(hr:Reads P el enc wf)(hsz:P.cellsOf el=sz)(bJ7:0<sz)(az8:∀y,(enc y).length=sz):
  Reads P t (encS enc) (wfL wf):=by
 intro H e w fuel cs x h
 rcases DataW.trod_slice ht h with⟨rfl,_⟩|⟨a,len,cap,elems,rest,n,_,rfl,_,_,hl,hm,hlen,hel,_,_⟩
 ·exact⟨[],⟨by simp,by simp⟩,.one (.slE _ _)⟩
 ·rw[hsz]at hel
  have each:∀i,i<len->∃(y:α) (cs:List Value),wf y/\RTL w (old w) cs (enc y)/\∀j,j<sz->w.cell? ((a.add (i*sz)).add j)=cs[j]?:=by
   intro i hi
   have h1:=hel i hi
   rw[aJ9 (by omega),Option.bind_eq_some_iff]at h1
   obtain⟨cs',hcs,hy⟩:=h1
   obtain⟨y,hw,hrt⟩:=hr H e w n cs' _ hy
   exact⟨y,cs',hw,hrt,(World.cells?_some hcs).2.2⟩
  by_cases h0:len=0
  ·subst h0
   exact⟨[],⟨by simp,by simp⟩,.one (.slE _ _)⟩
  ·let f:Nat->α:=fun i=>if h:i<len then(each i h).choose else(each 0 (by omega)).choose
   let l:=(dy2 len).map f
   have hf:∀i,i<len->wf (f i)/\∃cs:List Value,RTL w (old w) cs (enc (f i))/\∀j,j<sz->w.cell? ((a.add (i*sz)).add j)=cs[j]?:=by
    intro i hi
    have hfi:f i=(each i hi).choose:=by simp[f,hi]
    rw[hfi]
    obtain⟨cs,h1,h2,h3⟩:=(each i hi).choose_spec
    exact⟨h1,cs,h2,h3⟩
   have hll:l.length=len:=by simp[l]
   have hspot:a.spot=none:=by
    obtain⟨_,cs,h2,h3⟩:=hf 0 (by omega)
    have h4:=h3 0 bJ7
    have hcl:0<cs.length:=by rw[h2.1,az8];exact bJ7
    rw[aJ9 hcl]at h4
    have ea:(a.add (0*sz)).add 0=a:=by simp[Addr.add]
    rw[ea]at h4
    unfold World.cell? at h4
    split at h4
    ·split at h4
     ·cases h4
     ·rename_i hs;simpa using hs
    ·cases h4
   obtain⟨b,o,sp⟩:=a
   simp only at hspot
   subst hspot
   have cm6:∀i j,i<len->j<sz->∃v,w.cell? ⟨b,o+i*sz+j,none⟩=some v/\∀(hj:j<(enc (f i)).length),RT w (old w) v ((enc (f i))[j]):=by
    intro i j hi hj
    obtain⟨_,cs,h2,h3⟩:=hf i hi
    have hcl:j<cs.length:=by rw[h2.1,az8];exact hj
    have h4:=h3 j hj
    rw[aC6,aC6,aJ9 hcl]at h4
    exact⟨_,h4,fun hj'=>h2.2 j hcl hj'⟩
   let vs:Nat->Nat->Value:=fun i j=>(w.cell? ⟨b,o+i*sz+j,none⟩).getD undef
   refine⟨l,⟨by rw[hll];unfold maxLen at hm;omega,fun y hy=>?_⟩,.one ?_⟩
   ·obtain⟨i,hi,rfl⟩:=cZ1.1 hy
    exact(hf i (ed7.1 hi)).1
   ·have hb:old w b:=by
     obtain⟨v,hv,_⟩:=cm6 0 0 (by omega) bJ7
     have:=World.block_lt_of_cell? w _ hv
     simpa[old]using this
    have hml:(l.map enc).length=len:=by simp[hll]
    have key:=RT.sl (w:=w) (S:=old w) b o cap sz (l.map enc) vs (by rw[hml];exact hl) hb (fun r hr=>by obtain⟨y,_,rfl⟩:=cZ1.1 hr;exact az8 y)
     (fun i j hi hj=>by
      rw[hml]at hi
      obtain⟨v,hv,_⟩:=cm6 i j hi hj
      simp[vs,hv])
     (fun i j hi hj=>by
      rw[hml]at hi
      have e1:(l.map enc)[i]'(by rw[hml];exact hi)=enc (f i):=by simp[l]
      have hj':j<sz:=by rw[e1,az8]at hj;exact hj
      obtain⟨v,hv,hrt⟩:=cm6 i j hi hj'
      have e2:vs i j=v:=by simp[vs,hv]
      rw[e2]
      have:=hrt (by rw[az8];exact hj')
      simpa only[e1]using this)
    rw[hml]at key
    have e3:tS enc l= .sl len (l.map enc):=by simp[tS,hll]
    rw[e3]
    exact key
theorem bA2 {w:World}{S:Nat->Prop}{cs:List Value}{o:Nat}(h:cs.length=o):RTL w S (cs.drop o) []:=by
 rw[eT4 (by omega)]
 exact⟨rfl,fun j h1=>by simp at h1⟩
theorem Q7 {w:World}{S:Nat->Prop}{cs:List Value}{o o' n:Nat}{ts rest:List Tree}(h:RTL w S ((cs.drop o).take n) ts)(ho:o'=o+n)(k:RTL w S (cs.drop o') rest):RTL w S (cs.drop o) (ts++rest):=by
 subst ho
 have e:cs.drop o=(cs.drop o).take n++cs.drop (o+n):=by rw[<-ep0,List.take_append_drop]
 rw[e]
 refine⟨by simp only[aX7,h.1,k.1],fun j h1 h2=>?_⟩
 by_cases hj:j<ts.length
 ·rw[cG5 (by rw[h.1];exact hj),cG5 hj]
  exact h.2 j (by rw[h.1];exact hj) hj
 ·have hj':¬j<((cs.drop o).take n).length:=by rw[h.1];exact hj
  rw[do1 (by omega),do1 (by omega)]
  simp only[h.1]
  exact k.2 (j-ts.length) (by simp only[aX7]at h1;have:=h.1;omega) (by simp only[aX7]at h2;omega)
theorem Q6 {H:Type}{e:TypeId×Value->H}{w:World}{n:Nat}{cs:List Value}{xs:List (DataW H×List MemPlace)}{fs:Array Field}(hlen:xs.length=fs.size)
  (hf:∀(i:Nat) (f:Field),fs[i]? =some f->DataW.trod e P w 0 (fun _=>true) true n f.type ((cs.drop f.offset).take (P.cellsOf f.type))=xs[i]?) (i:Nat) {f:Field} (hi:fs[i]? =some f)
  {α:Type}{enc:α->List Tree}{wf:α->Prop} (hr:Reads P f.type enc wf):∃y:α,wf y/\RTL w (old w) ((cs.drop f.offset).take (P.cellsOf f.type)) (enc y):=by
 have hlt:i<xs.length:=by rw[hlen];exact(dC3.1 hi).1
 have:=hf i f hi
 rw[aJ9 hlt]at this
 exact hr H e w n _ _ this
def bZ9 (P:Program)(t:Nat){α:Type}(A:α->T)(wf:α->Prop):Prop:=
 ∀(H:Type) (e:TypeId×Value->H) (w:World) (base:Nat) (v:Value) (d:DataW H) (p:List MemPlace),Value.okWide P w .any base t v->DataW.Trod e P w 0 (fun _=>true) true t v d p->
  ∃y:α,wf y/\∀E,RV w (old w) E v (A y)
theorem dM0 {α:Type}{enc:α->List Tree}{wf:α->Prop}{A:α->T}{tr:α->Tree}(hr:Reads P t enc wf)(hc:∀w base v,Value.okWide P w .any base t v->v.cells.toList=[v])(az8:∀y,enc y=[tr y])(hA:∀y,A y= .t (tr y)):bZ9 P t A wf:=by
 intro H e w base v d p hv ⟨fuel,h⟩
 rw[hc w base v hv]at h
 obtain⟨y,hw,hl,hrt⟩:=hr H e w fuel _ _ h
 refine⟨y,hw,fun E=>?_⟩
 rw[hA]
 have:=hrt 0 (by simp) (by rw[az8];simp)
 simp only[az8,List.getElem_cons_zero]at this
 exact .t this
theorem ez2 {k:IntKind}{enc:Int->List Tree}{A:Int->T}(ht:P.underlying t=some (.int k))(hr:Reads P t enc (fun n=>(Lit.int k n).wf=true))(az8:∀y,enc y=[.v (.int k y)])(hA:∀y,A y= .t (.v (.int k y))):
  bZ9 P t A (fun n=>(Lit.int k n).wf=true):=dM0 hr (fun w base v hv=>by obtain⟨n,rfl⟩:=okWide_int ht hv;rfl) az8 hA
theorem cZ7 {el:Nat}{α:Type}{enc:α->List Tree}{wf:α->Prop}{A:List α->T}(ht:P.underlying t=some (.slice el))(hr:Reads P t (encS enc) (wfL wf))(hA:∀y,A y= .t (tS enc y)):
  bZ9 P t A (wfL wf):=dM0 hr (fun w base v hv=>by obtain⟨a,n,c,rfl⟩:=okWide_slice ht hv;rfl) (fun _=>rfl) hA
theorem cc1 {fs:Array Field}{α:Type}{enc:α->List Tree}{wf:α->Prop}{A:α->T}(ht:P.underlying t=some (.struct fs))(hr:Reads P t enc wf)(hA:∀y,A y= .agg ((enc y).map .t)):bZ9 P t A wf:=by
 intro H e w base v d p hv ⟨fuel,h⟩
 obtain⟨cs,rfl,_⟩:=okWide_struct ht hv
 obtain⟨y,hw,hl,hrt⟩:=hr H e w fuel _ _ h
 refine⟨y,hw,fun E=>?_⟩
 rw[hA]
 have:=RV.agg (w:=w) (S:=old w) (E:=E) cs.toList ((enc y).map .t) (by simpa[Value.cells]using hl) (fun j h1 h2=>by
  simp only[dB9]
  exact .t (hrt j h1 (by simpa using h2)))
 simpa using this
theorem aR1.calls {n:Nat}{args:List T}{m:Option Bool}(h:aR1 P n args m (fun r=>.t (.v (.bool r))))(hm:m=some true){w:World}{vs:List Value}(hv:RVL w (old w) (fun _=>undef) vs args):
  Calls P n vs.toArray w fun e w'=>e= .returned (.bool true)/\Below w.heap.size w w':=
 (h.2 true hm w (old w) _ vs (fun _ hb=>hb) hv).mono fun e w' ⟨v,S',he,hv,hk,_,_⟩=>by
  have:=hv.tv
  subst this
  exact⟨he,hk.os,hk.tape,hk.output,hk.size,fun k hk'=>hk.block k hk' (fun x=>x)⟩
theorem eG1 {w:World}{S:Nat->Prop}{E:Nat->Value}:RVL w S E [] []:=⟨rfl,fun j h=>by simp at h⟩
theorem bF8 {w:World}{S:Nat->Prop}{E:Nat->Value}{v:Value}{t:T}{vs:List Value}{l:List T}(h:RV w S E v t)(k:RVL w S E vs l):RVL w S E (v::vs) (t::l):=by
 refine⟨by simp[k.1],fun j a b=>?_⟩
 cases j with
 |zero=>exact h
 |succ j=>exact k.2 j (by simpa using a) (by simpa using b)
end
open Go.RowKit
def tvs (vs:List Value):List T:=vs.map fun v=>.t (.v v)
def dS6 (P:Program)(ty:Nat)(vs us:List Value)(b:Bool):Prop:=
 (∀w,(Op.equalIn 10000 ty (.agg vs.toArray) (.agg us.toArray)).run P w= .ok b w)/\P.eqGuardType P.depth ty=false
theorem dL9 {w:World}{S:Nat->Prop}{E:Nat->Value}{v:Value}{vs:List Value}(h:RV w S E v (.agg (tvs vs))):v= .agg vs.toArray:=by
 cases h with
 |agg cs _ hl hr=>
  congr 2
  refine List.ext_getElem (by simpa[tvs]using hl) fun j h1 h2=>?_
  have:=hr j h1 (by simpa[tvs]using h2)
  simp only[tvs,dB9]at this
  exact this.tv
section
variable {ρ τ α:Type} {X:Cx} {ks:List K} {tm:List (Nat × T)} {hp:List (Nat × H6)} {m:Option ρ} {Q:ρ -> Exit -> St -> Prop} {all:Array Oper} {o:Oper} {rest:List Oper} {V:T}
theorem eN8 {ty yt:Nat}{x y:Operand}{vs us:List Value}{b:Bool}{a:Act}{w:World}(he:dS6 X.P ty vs us b)(hx:a.eval x= .agg vs.toArray)(hy:a.eval y= .agg us.toArray):
  (o.op= .binOp .eql ty x y yt->(execOp a.eval o).run X.P w= .ok (.value (.bool b)) w)/\(o.op= .binOp .neq ty x y yt->(execOp a.eval o).run X.P w= .ok (.value (.bool (!b))) w):=by
 constructor<;>intro ho
 ·simp only[execOp,ho,hx,hy,bd5,run_eqGuard_agg w .eql ty x y _ _ he.2,aY1,run_eql_struct,he.1 w];rfl
 ·simp only[execOp,ho,hx,hy,bd5,run_eqGuard_agg w .neq ty x y _ _ he.2,aY1,run_neq_struct,he.1 w];rfl
end
section
variable {P:Program} {w:World}
theorem dj2 {d:Nat}{xs ys:Array Value}:(Op.eqFields d xs ys []).run P w= .ok true w:=rfl
theorem aD3 {d:Nat}{f:Field}{fs:List Field}{xs ys:Array Value}{a b:Value}{c r:Bool}(hn:f.name≠ "_")(h1:(part f.type xs f.offset).run P w= .ok a w)(h2:(part f.type ys f.offset).run P w= .ok b w)
  (h3:(Op.equalIn d f.type a b).run P w= .ok c w) (h4:(Op.eqFields d xs ys fs).run P w= .ok r w):(Op.eqFields d xs ys (f::fs)).run P w= .ok (c&&r) w:=by
 cases c<;>simp[Op.eqFields,hn,h1,h2,h3,h4]
theorem X3 {t:Nat}{ti:TI}{cs:Array Value}{off:Nat}{v:Value}(hti:bh8 P t ti)(hag:ti.desc.isAgg=false)(h:cs[off]? =some v):(part t cs off).run P w= .ok v w:=by
 simp[part,hti.dn0,hag,h]
theorem cv2 {d t:Nat}{xs ys:Array Value}{fs:List Field}{b:Bool}(hf:P.underlying t=some (.struct (P.fieldsOf t)))(hs:P.stoodInHeld t=false)(hl:(P.fieldsOf t).toList=fs)(h:(Op.eqFields d xs ys fs).run P w= .ok b w):
  (Op.equalIn (d+1) t (.agg xs) (.agg ys)).run P w= .ok b w:=by
 rw[run_equalIn_struct w d t xs ys hf hs,hl,h]
end
theorem k6 {n:Int}(h1:-9223372036854775808<=n)(h2:n<=9223372036854775807):o6 n=n:=by
 unfold o6 IntKind.wrap
 simp only[eU4,IntKind.signed]
 simp only[show(2:Int)^64=18446744073709551616 from rfl,show(2:Int)^(64-1)=9223372036854775808 from rfl,Bool.true_and,fh8]
 split<;>omega
def aX0 {S R:Type}(f:Int->S->Option (Fl S R)):Nat->Int->S->Option (S⊕R)
 |0,_,s=>some (.inl s)
 |k+1,i,s=>(f i s).bind fun x=>match x with
  | .next s'=>aX0 f k (i+1) s'
  | .brk s'=>some (.inl s')
  | .ret r=>some (.inr r)
def N3 {α S R:Type}(f:Int->α->S->Option (Fl S R)):List α->Int->S->Option (S⊕R)
 |[],_,s=>some (.inl s)
 |y::l,i,s=>(f i y s).bind fun x=>match x with
  | .next s'=>N3 f l (i+1) s'
  | .brk s'=>some (.inl s')
  | .ret r=>some (.inr r)
theorem I5 {S B:Type}{mb:S->Option (S⊕B)}{s s':S}(h:mb s=some (.inl s')):M0 mb s=M0 mb s':=by rw[cn4,h];rfl
theorem F7 {S B:Type}{mb:S->Option (S⊕B)}{s:S}{b:B}(h:mb s=some (.inr b)):M0 mb s=some b:=by rw[cn4,h];rfl
theorem am7 {S R:Type}(n:Nat)(hn:n<=9223372036854775807)(f:Int->S->Option (Fl S R))(s:S):N1 (n:Int) f s=aX0 f n 0 s:=by
 have key:∀(k:Nat) (i:Nat) (s:S),i+k=n->M0 (co5 (n:Int) f) ((i:Int),s)=aX0 f k i s:=by
  intro k
  induction k with
  |zero=>
   intro i s hi
   have:¬((i:Int)<(n:Int)):=by omega
   exact F7 (by simp[co5,this])
  |succ k ih=>
   intro i s hi
   have hlt:(i:Int)<(n:Int):=by omega
   rw[cn4]
   simp only[co5,hlt,decide_true,fh5,aX0]
   cases hf:f i s with
   |none=>rfl
   |some x=>
    simp only[ac0]
    cases x with
    |next s'=>
     simp only[aE2,ac0]
     have:=ih (i+1) s' (by omega)
     rw[k6 (by omega) (by omega)]
     push_cast at this
     exact this
    |brk s'=>simp[aE2]
    |ret r=>simp[aE2]
 have:=key n 0 s (by omega)
 simpa using this
theorem S0 {α:Type}(l:List α)(i:Nat):F0 l (i:Int)=l[i]?:=by simp[F0]
theorem M4 {α S R:Type}(l:List α)(hn:l.length<=9223372036854775807)(f:Int->α->S->Option (Fl S R))(s:S):ad4 l f s=N3 f l 0 s:=by
 have key:∀(r:List α) (i:Nat) (s:S),l.drop i=r->i<=l.length->M0 (cT1 l f) ((i:Int),s)=N3 f r i s:=by
  intro r
  induction r with
  |nil=>
   intro i s hd hi
   have:¬((i:Int)<(l.length:Int)):=by have:=List.drop_eq_nil_iff.1 hd;omega
   exact F7 (by simp[cT1,this])
  |cons y r ih=>
   intro i s hd hi
   have hi':i<l.length:=by
    rcases dh0 i l.length with h|h
    ·exact h
    ·rw[eT4 h]at hd;cases hd
   have hlt:(i:Int)<(l.length:Int):=by omega
   have hy:l[i]? =some y:=by rw[<-ey0,hd];rfl
   have hd':l.drop (i+1)=r:=by rw[<-ep0,hd];rfl
   rw[cn4]
   simp only[cT1,hlt,decide_true,fh5,N3,S0,hy,ac0]
   cases hf:f i y s with
   |none=>rfl
   |some x=>
    simp only[ac0]
    cases x with
    |next s'=>
     simp only[aE2,ac0]
     have:=ih (i+1) s' hd' (by omega)
     rw[k6 (by omega) (by omega)]
     push_cast at this
     exact this
    |brk s'=>simp[aE2]
    |ret r=>simp[aE2]
 have:=key l 0 s rfl (Nat.zero_le _)
 simpa using this
theorem bL7 {α R:Type}{f:Int->α->Unit->Option (Fl Unit R)}{p:α->Bool}{r:R}:∀(l:List α) (i:Int),(∀i,∀y∈l,f i y ()=some (bif p y then .next ()else .ret r))->
  N3 f l i ()=some (bif l.all p then .inl ()else .inr r)
 |[],_,_=>rfl
 |y::l,i,h=>by
  simp only[N3,h i y (bL5 ..),ac0,List.all_cons]
  cases hp:p y
  ·rfl
  ·exact bL7 l (i+1) (fun i y' hy=>h i y' (bO9 _ hy))
theorem bo4 {α S R:Type}{f:Int->α->S->Option (Fl S R)}{g:S->α->S}:∀(l:List α) (i:Int) (s:S),(∀i s,∀y∈l,f i y s=some (.next (g s y)))->N3 f l i s=some (.inl (l.foldl g s))
 |[],_,_,_=>rfl
 |y::l,i,s,h=>by
  simp only[N3,h i s y (bL5 ..),ac0,List.foldl_cons]
  exact bo4 l (i+1) _ (fun i s y' hy=>h i s y' (bO9 _ hy))
theorem bw9 {R:Type}{f:Int->Unit->Option (Fl Unit R)}{p:Nat->Bool}{r:R}:∀(k i:Nat),(∀j,i<=j->j<i+k->f j ()=some (bif p j then .next ()else .ret r))->
  aX0 f k i ()=some (bif (ed5 i k).all p then .inl ()else .inr r)
 |0,_,_=>rfl
 |k+1,i,h=>by
  simp only[aX0,h i (cB6 _) (by omega),ac0,List.range'_succ,List.all_cons]
  cases hp:p i
  ·rfl
  ·have:=bw9 k (i+1) (fun j h1 h2=>h j (by omega) (by omega))
   push_cast at this
   exact this
theorem dY2 {S B : Type} {mb : S -> Option (S ⊕ B)} (σ : Nat -> S) {p : Nat -> Bool} {b0 b1 : B} (n : Nat) (hend : mb (σ n) = some (.inr b0)) (h : ∀ k, k < n -> mb (σ k) = some (bif p k then .inl (σ (k + 1)) else .inr b1)) :
    M0 mb (σ 0) = some (bif (ed5 0 n).all p then b0 else b1) := by
  have key : ∀ k i, i + k = n -> M0 mb (σ i) = some (bif (ed5 i k).all p then b0 else b1) := by
    intro k
    induction k with
    | zero => intro i hi; have : i = n := by omega
              subst this; exact F7 hend
    | succ k ih =>
      intro i hi
      have h1 := h i (by omega)
      rw [List.range'_succ, List.all_cons]
      cases hp : p i
      · rw [hp] at h1; exact F7 h1
      · rw [hp] at h1; rw [I5 h1, ih (i + 1) (by omega)]; rfl
  exact key n 0 (by omega)
theorem cK7 {α:Type}(b:Bool)(x y:α):(bif b then some x else some y)=some (bif b then x else y):=by cases b<;>rfl
theorem bc9 {α S R:Type}(l:List α)(hn:l.length<=9223372036854775807)(g:Int->α->S->Option (Fl S R))(s:S):
  N1 (l.length:Int) (fun i s=>(F0 l i).bind fun x=>g i x s) s=N3 g l 0 s:=by
 rw[am7 _ hn]
 have key:∀(r:List α) (i:Nat) (s:S),l.drop i=r->aX0 (fun i s=>(F0 l i).bind fun x=>g i x s) r.length (i:Int) s=N3 g r (i:Int) s:=by
  intro r
  induction r with
  |nil=>intro i s _;rfl
  |cons y r ih=>
   intro i s hd
   have hy:l[i]? =some y:=by rw[<-ey0,hd];rfl
   have hd':l.drop (i+1)=r:=by rw[<-ep0,hd];rfl
   simp only[bu6,aX0,N3,S0,hy,ac0]
   cases hg:g i y s with
   |none=>rfl
   |some x=>
    cases x with
    |next s'=>
     have:=ih (i+1) s' hd'
     push_cast at this
     simpa using this
    |brk s'=>rfl
    |ret r'=>rfl
 have:=key l 0 s rfl
 simpa using this
theorem cq1 {α:Type}{f:Int->α->Unit->Option (Fl Unit Int)}{p:α->Bool}:∀(l:List α) (i:Int),0<=i->(∀i,∀y∈l,f i y ()=some (bif p y then .ret i else .next ()))->
  ∃r,N3 f l i ()=some r/\(match r with| .inl _=>l.any p=false| .inr j=>0<=j/\l.any p=true)
 |[],_,_,_=>⟨.inl (),rfl,rfl⟩
 |y::l,i,hi,h=>by
  simp only[N3,h i y (bL5 ..),ac0,List.any_cons]
  cases hp:p y
  ·obtain⟨r,h1,h2⟩:=cq1 l (i+1) (by omega) (fun i y' hy=>h i y' (bO9 _ hy))
   refine⟨r,h1,?_⟩
   cases r<;>simpa using h2
  ·exact⟨.inr i,rfl,hi,rfl⟩
theorem aj2 {α:Type}(l:List α)(hn:l.length<=9223372036854775807)(f:α->Option Bool)(p:α->Bool)(h:∀y∈l,f y=some (p y)):
  (ab6 (ab6 (N1 (l.length:Int) (fun(i:Int) (_:Unit)=>ab6 (F0 l i) fun x=>ab6 (f x) fun v=>bif v then(some (Fl.ret i))else(some (Fl.next ()))) ()) fun(t:Unit⊕Int)=>match t with| .inl _=>(some (-1))| .inr r2=>some r2) fun v=>some (decide (v>=0)))=some (l.any p):=by
 rw[bc9 l hn (fun(i:Int) x (_:Unit)=>ab6 (f x) fun v=>bif v then(some (Fl.ret i))else(some (Fl.next ())))]
 obtain⟨r,h1,h2⟩:=cq1 (f:=fun(i:Int) x (_:Unit)=>ab6 (f x) fun v=>bif v then(some (Fl.ret i))else(some (Fl.next ()))) (p:=p) l 0 (dF5 0) (fun i y hy=>by
  simp only[h y hy,ac0];cases p y<;>rfl)
 rw[h1]
 cases r with
 |inl u=>simp only[ac0];simp at h2;simp;intro x hx;simpa using h2 x hx
 |inr j=>simp only[ac0];rw[h2.2];simp[h2.1]
def ee4 (w:World)(v:Value)(e sz n:Nat)(xs:List Value):Prop:=
 (v= .slice none 0 0/\n=0/\xs=[])\/
 ∃(g cap:Nat) (cur:List Value),v= .slice (some ⟨g,0,none⟩) n cap/\w.heap[g]? =some (.cells cur.toArray e (0,0))/\n<=cap/\cap<=maxLen/\cur.length=cap*sz/\cur.take (n*sz)=xs
theorem cG7 {P:Program}{w:World}{t ty e:Nat}{ti:TI}{v x:Value}{n c:Nat}{xs:List Value}{a:Option Addr}(ht:P.underlying t=some (.slice e))(hte:bh8 P e ti)(hv:ee4 w v e ti.size n xs)(hx:x= .slice a 0 c):
  (Builtin.append_ #[t,t] ty #[v,x]).run P w= .ok v w:=by
 obtain⟨i,d,hi,hs,_⟩:=hte
 subst hx
 have hf:(Builtin.firstCells i.size 0 (.slice a 0 c)).run P w= .ok #[] w:=by
  cases a<;>simp[Builtin.firstCells,loadCells,loadCellsFrom]
 rcases hv with⟨rfl,rfl,rfl⟩|⟨g,cap,cur,rfl,hg,hn,_⟩
 ·simp[Builtin.append_,run_underlying ht,sizeOf,typeInfo,hi,Builtin.lenOf,hf]
 ·simp[Builtin.append_,run_underlying ht,sizeOf,typeInfo,hi,Builtin.lenOf,hf,hn,storeCells]
theorem cG8 {P:Program}{w:World}{t ty e:Nat}{ti:TI}{v:Value}{n m c:Nat}{xs news:List Value}{a:Addr}(ht:P.underlying t=some (.slice e))(hte:bh8 P e ti)(hz:ti.zero.length=ti.size)(hv:ee4 w v e ti.size n xs)
  (hl:news.length=m*ti.size) (cm7:∀j u,news[j]? =some u->w.cell? (a.add j)=some u) (h1:∀u∈news,u.oneCell'=true) (h0:0<m) (cF9:n+m<=1073741824):
  ∃v' w',(Builtin.append_ #[t,t] ty #[v,.slice (some a) m c]).run P w= .ok v' w'/\aW2 (fun b=>U5 v=some b) w w'/\ee4 w' v' e ti.size (n+m) (xs++news)/\
   (∀b,U5 v'=some b->b<w'.heap.size/\(U5 v=some b\/w.heap.size<=b)):=by
 obtain⟨i,d,hi,hs,_,_,⟨z,hzz,hzc⟩,hby⟩:=hte
 rw[<-hs]at hv hl hz|-
 have hzs:z.cells.size=i.size:=by rw[<-hz,<-hzc];simp
 have cv6:(n+m)*i.bytes<=140737488355328:=by
  have:=Nat.mul_le_mul cF9 hby
  omega
 have grown:∀(old:Nat),old<n+m->xs.length=n*i.size->
   ee4 (w.drew.alloc (.cells (xs.toArray++news.toArray++Builtin.zeroCells z.cells (grownCap w (n+m) old e-(n+m))) e)) (.slice (some ⟨w.heap.size,0,none⟩) (n+m) (grownCap w (n+m) old e)) e i.size (n+m) (xs++news):=by
  intro old ho hxl
  have hge:=grownCap_ge w (n+m) old e
  have hcm:grownCap w (n+m) old e<=maxLen:=grownCap_le_maxLen w (n+m) old e (by simp only[maxLen];omega)
  have hlen:(xs++news).length=(n+m)*i.size:=by rw[aX7,hxl,hl,eB2]
  refine .inr ⟨w.heap.size,_,(xs++news)++(Builtin.zeroCells z.cells (grownCap w (n+m) old e-(n+m))).toList,rfl,?_,hge,hcm,?_,?_⟩
  ·have:((xs++news)++(Builtin.zeroCells z.cells (grownCap w (n+m) old e-(n+m))).toList).toArray=xs.toArray++news.toArray++Builtin.zeroCells z.cells (grownCap w (n+m) old e-(n+m)):=by simp
   rw[this]
   exact heap_alloc_new w.drew _
  ·rw[aX7,hlen,fd3,size_zeroCells,hzs,<-eB2]
   congr 1
   omega
  ·rw[<-hlen]
   exact List.take_left
 have kept:∀o,aW2 (fun b=>U5 v=some b) w (w.drew.alloc o):=fun o=>⟨rfl,rfl,rfl,by simp,fun k hk _=>Below.heap_alloc w.drew _ _ hk,Nat.le_succ _⟩
 rcases hv with⟨rfl,rfl,rfl⟩|⟨g,cap,cur,rfl,hg,hn,hcm,hcs,htake⟩
 ·have hr:=run_append_nil (P:=P) w t ty e i z ht hi hzz a m c news hl cm7 h0 (by omega) (by have hb:=cv6;simp only[cY7]at hb;omega)
  have hgr:=grown 0 (by omega) (by simp)
  simp only[cY7,List.nil_append,Array.empty_append]at hgr|-
  exact⟨_,_,hr,kept _,hgr,fun b hb=>by cases hb;simp⟩
 ·have hxl:xs.length=n*i.size:=by
   rw[<-htake,bs8,hcs]
   exact eN3 (cA4 _ hn)
  by_cases dO4:n+m<=cap
  ·have hfit:n*i.size+news.length<=cur.toArray.size:=by rw[hl,eZ5,hcs,<-eB2];exact cA4 _ dO4
   have hr:=run_append_room (P:=P) w t ty e i ht hi g n cap cur.toArray hg a m c news hl cm7 h1 dO4 hfit
   refine⟨_,_,hr,⟨rfl,rfl,rfl,by simp,fun k _ hk=>setRow_other w g k _ (fun e=>hk (by simp[U5,e])),cB6 _⟩,.inr ⟨g,cap,_,rfl,setRow_heap w g cur.toArray _ e _ hg,dO4,hcm,?_,?_⟩,fun b hb=>?_⟩
   ·simp only[aX7,bs8,do0]
    rw[hl,hcs]
    have h2:n*i.size+m*i.size<=cap*i.size:=by rw[<-eB2];exact cA4 _ dO4
    have h3:n*i.size<=cap*i.size:=cA4 _ hn
    omega
   ·rw[htake]
    have hlen:(xs++news).length=(n+m)*i.size:=by rw[aX7,hxl,hl,eB2]
    rw[<-hlen]
    exact List.take_left
   ·cases hb
    refine⟨?_,.inl rfl⟩
    have:=(dC3.1 hg).1
    simpa using this
  ·have holds:∀j u,xs[j]? =some u->w.cell? ((⟨g,0,none⟩:Addr).add j)=some u:=by
    intro j u hu
    have hadd:(⟨g,0,none⟩:Addr).add j=⟨g,j,none⟩:=by rw[aC6];simp
    rw[hadd,cell_of_row w g j _ e (0,0) hg]
    rw[<-htake,dx0]at hu
    split at hu
    ·simpa using hu
    ·cases hu
   have hr:=run_append_grow (P:=P) w t ty e i z ht hi hzz ⟨g,0,none⟩ n cap xs hxl holds a m c news hl cm7 (by omega) (by omega) (growslice_fits (by omega) cv6)
   exact⟨_,_,hr,kept _,grown cap (by omega) hxl,fun b hb=>by cases hb;simp⟩
section
variable {w0:World} {L:Lim} {nt:Nat} {tm:List (Nat × T)} {hp:List (Nat × H6)} {S:Nat -> Prop} {E:Nat -> Value} {a:Act} {w w':World}
theorem Ok.cT6 (h:Ok w0 L nt ⟨tm,hp⟩ S E a w){id:Nat}{v v':Value}{b:H6}(aM8:ba2 id big=true)(hf:O6 id tm=true)(hb:O0 id hp=true)
  (hv:∀β,U5 v=some β->¬S β/\β<w.heap.size/\(w0.heap.size<=β\/L.bK0 β)) (hd:∀i blk β,look hp i=some blk->U5 v=some β->U5 (E i)=some β->False)
  (hk:aW2 (fun x=>U5 v=some x) w w') (hv':∀β,U5 v'=some β->β<w'.heap.size/\(U5 v=some β\/w.heap.size<=β))
  (hok:∀E',bd9 w' S E' v' b):∃E',E' id=v'/\Ok w0 L nt ⟨tm,(id,b)::hp⟩ S E' a w':=by
 let E':Nat->Value:=fun i=>if i=id then v' else E i
 have hE:∀i,i≠id->E' i=E i:=fun i hi=>by simp[E',hi]
 have hid:E' id=v':=by simp[E']
 have hS:∀x,S x->w'.heap[x]? =w.heap[x]?:=fun x hx=>hk.block x (h.aH4 x hx) (fun e=>(hv x e).1 hx)
 have hsz:=h.keep.size
 refine⟨E',hid,{keep:=h.keep.trans hk (fun x hx=>(hv x hx).2.2.symm),aH4:=fun x hx=>dN6 (h.aH4 x hx) hk.size,base:=h.base,size:=h.size,defers:=h.defers,tm:=?_,hp:=?_,own:=?_,au8:=?_,pin:=fun i hi=>by rw[hE i (fun e=>by have:id<big:=ba1 aM8;omega)];exact h.pin i hi}⟩
 ·exact fun k t ht=>(h.tm k t ht).mono (fun _ x=>x) hS fun i hi=>hE i fun e=>by
   have:=bc7 hf k t ht;subst e;rw[this]at hi;cases hi
 ·intro i blk hl
  simp only[look]at hl
  by_cases he:id=i
  ·subst he
   simp only[bX7,fh5,aj7]at hl
   subst hl;rw[hid];exact hok E'
  ·simp only[D6 he,fh3]at hl
   rw[hE i (fun e=>he e.symm)]
   exact(h.hp i blk hl).mono (fun _ x=>x) hS (fun β hβ=>hk.block β (h.own i blk β hl hβ).2.1 (fun e=>hd i blk β hl e hβ)) fun j hj=>hE j fun e=>by
    have:=(aA9 hb i blk hl).2;subst e;rw[this]at hj;cases hj
 ·intro i blk β hl hβ
  simp only[look]at hl
  by_cases he:id=i
  ·subst he
   rw[hid]at hβ
   obtain⟨h1,h2⟩:=hv' β hβ
   rcases h2 with h2|h2
   ·exact⟨(hv β h2).1,h1,(hv β h2).2.2⟩
   ·exact⟨fun hs=>by have:=h.aH4 β hs;omega,h1,.inl (by omega)⟩
  ·simp only[D6 he,fh3]at hl
   rw[hE i (fun e=>he e.symm)]at hβ
   have:=h.own i blk β hl hβ
   exact⟨this.1,dN6 this.2.1 hk.size,this.2.2⟩
 ·intro i i' blk cs5 β hl hl' hβ hβ'
  simp only[look]at hl hl'
  have cz7:∀j bj,look hp j=some bj->U5 v'=some β->U5 (E j)=some β->False:=fun j bj hj h1 h2=>by
   rcases(hv' β h1).2 with h3|h3
   ·exact hd j bj β hj h3 h2
   ·have:=(h.own j bj β hj h2).2.1;omega
  by_cases he:id=i<;>by_cases he':id=i'
  ·exact he.symm.trans he'
  ·subst he
   simp only[D6 he',fh3]at hl'
   rw[hid]at hβ
   rw[hE i' (fun e=>he' e.symm)]at hβ'
   exact(cz7 i' cs5 hl' hβ hβ').elim
  ·subst he'
   simp only[D6 he,fh3]at hl
   rw[hid]at hβ'
   rw[hE i (fun e=>he e.symm)]at hβ
   exact(cz7 i blk hl hβ' hβ).elim
  ·simp only[D6 he,D6 he',fh3]at hl hl'
   rw[hE i (fun e=>he e.symm)]at hβ
   rw[hE i' (fun e=>he' e.symm)]at hβ'
   exact h.au8 i i' blk cs5 β hl hl' hβ hβ'
theorem bK7 {j a s:Nat}(h:j<a*s):0<s:=by
 rcases dS1 s with h1|h1
 ·subst h1;simp at h
 ·exact h1
def aQ6:Tree->Bool
 | .v x=>x.oneCell'
 | .sl _ _=>true
theorem RT.one {v:Value}{t:Tree}(h:RT w S v t)(ht:aQ6 t=true):v.oneCell'=true:=by
 cases h<;>first|exact ht|rfl
theorem cg9 {v:Value}{m sz:Nat}{rs:List (List Tree)}(h:RT w S v (.sl m rs))(hsz:∀r∈rs,r.length=sz)(bh4:∀r∈rs,∀t∈r,aQ6 t=true):
  m=rs.length/\∃(ad:Option Addr) (c:Nat),v= .slice ad m c/\(0<m->∃(x:Addr) (news:List Value),ad=some x/\news.length=m*sz/\(∀j u,news[j]? =some u->w.cell? (x.add j)=some u)/\(∀u∈news,u.oneCell'=true)/\
   ∀i j (hi:i<rs.length) (hj:j<(rs[i]).length) (hb:i*sz+j<news.length),RT w S (news[i*sz+j]) ((rs[i])[j])):=by
 cases h with
 |slE a c=>exact⟨rfl,a,c,rfl,fun h=>absurd h (by omega)⟩
 |sl b o c sz' rows vs _ hb hsz' hc hr=>
  refine⟨rfl,_,c,rfl,fun h0=>⟨_,(dy2 (rs.length*sz)).map (fun k=>vs (k/sz) (k%sz)),rfl,by simp,?_,?_,?_⟩⟩
  all_goals
   have hne:sz'=sz:=by rw[<-hsz' (rs[0]) (bf2 h0),hsz (rs[0]) (bf2 h0)]
   subst hne
  ·intro j u hu
   rw[cM9]at hu
   obtain⟨k,hk,rfl⟩:=eC7.1 hu
   obtain⟨hj,rfl⟩:=bD8.1 hk
   simp only[List.length_range]at hj
   simp only[List.getElem_range]
   have hs0:0<sz':=bK7 hj
   have h1:j/sz'<rs.length:=eV2 (by rw[en8];exact hj)
   have h2:j%sz'<sz':=eO7 _ hs0
   have:=hc (j/sz') (j%sz') h1 h2
   rw[aC6]
   have e:o+j/sz'*sz'+j%sz'=o+j:=by have:=eY5 j sz';rw[en8]at this;omega
   rw[e]at this
   exact this
  ·intro u hu
   obtain⟨k,hk,rfl⟩:=cZ1.1 hu
   have hj:=ed7.1 hk
   have hs0:0<sz':=bK7 hj
   have h1:k/sz'<rs.length:=eV2 (by rw[en8];exact hj)
   have h2:k%sz'<(rs[k/sz']).length:=by rw[hsz _ (bf2 h1)];exact eO7 _ hs0
   exact(hr (k/sz') (k%sz') h1 h2).one (bh4 _ (bf2 h1) _ (bf2 h2))
  ·intro i j hi hj hb'
   simp only[dB9,List.getElem_range]
   have hj':j<sz':=by rw[<-hsz _ (bf2 hi)];exact hj
   have e1:(i*sz'+j)/sz'=i:=by rw[en8,Nat.mul_add_div (by omega),Nat.div_eq_of_lt hj',eb5]
   have e2:(i*sz'+j)%sz'=j:=by rw[en8,fe0,eY0 hj']
   rw[e1,e2]
   exact hr i j hi hj
end
def Src (w:World)(S:Nat->Prop)(v:Value)(m sz:Nat)(rs:List (List Tree)):Prop:=
 m=rs.length/\∃(ad:Option Addr) (c:Nat),v= .slice ad m c/\(0<m->∃(x:Addr) (news:List Value),ad=some x/\news.length=m*sz/\(∀j u,news[j]? =some u->w.cell? (x.add j)=some u)/\(∀u∈news,u.oneCell'=true)/\
   ∀i j (hi:i<rs.length) (hj:j<(rs[i]).length) (hb:i*sz+j<news.length),RT w S (news[i*sz+j]) ((rs[i])[j]))
section
variable {P:Program} {w0:World} {L:Lim} {nt:Nat} {tm:List (Nat × T)} {hp:List (Nat × H6)} {S:Nat -> Prop} {E:Nat -> Value} {a:Act} {w:World}
theorem dn4 {v:Value}{e sz m:Nat}{rs:List (List Tree)}(h:bd9 w S E v (.rows e sz m rs))(bh4:∀r∈rs,∀t∈r,aQ6 t=true):Src w S v m sz rs:=by
 obtain⟨hn,hx⟩:=h
 subst hn
 refine⟨rfl,?_⟩
 rcases hx with⟨rfl,hr⟩|⟨β,cap,vs,hm,rfl,hh,hl,hc,hsz,hr⟩
 ·subst hr;exact⟨_,_,rfl,fun h=>absurd h (by simp)⟩
 ·refine⟨_,_,rfl,fun h0=>⟨_,vs.take (rs.length*sz),rfl,?_,?_,?_,?_⟩⟩
  ·rw[bs8,hl];exact eN3 (cA4 _ hc)
  ·intro j u hu
   rw[dx0]at hu
   split at hu
   ·rw[aC6,cell_of_row w β _ _ e _ hh];simpa using hu
   ·cases hu
  ·intro u hu
   obtain⟨k,hk,rfl⟩:=da7.1 hu
   have hk':k<rs.length*sz:=by have:=hk;simp only[bs8]at this;omega
   have hs0:0<sz:=bK7 hk'
   have h1:k/sz<rs.length:=eV2 (by rw[en8];exact hk')
   have h2:k%sz<(rs[k/sz]).length:=by rw[hsz _ (bf2 h1)];exact eO7 _ hs0
   have e1:k/sz*sz+k%sz=k:=by have:=eY5 k sz;rw[en8]at this;exact this
   have hkv:k<vs.length:=by simp only[bs8]at hk;omega
   have:=hr (k/sz) (k%sz) h1 h2 (by rw[e1];exact hkv)
   simp only[e1]at this
   rw[ed8]
   exact this.one (bh4 _ (bf2 h1) _ (bf2 h2))
  ·intro i j hi hj hb
   rw[ed8]
   exact hr i j hi hj _
theorem bM9 {α:Type}{l r:List α}{k i:Nat}(h:l.take k=r)(hi:i<r.length)(hl:i<l.length):l[i]=r[i]:=by
 subst h;rw[ed8]
theorem Ok.append (h:Ok w0 L nt ⟨tm,hp⟩ S E a w){id e n m t ty:Nat}{ti:TI}{v x:Value}{rs r2:List (List Tree)}(aM8:ba2 id big=true)(hf:O6 id tm=true)(hb:O0 id hp=true)
  (hv:∀β,U5 v=some β->¬S β/\β<w.heap.size/\(w0.heap.size<=β\/L.bK0 β)) (hd:∀i blk β,look hp i=some blk->U5 v=some β->U5 (E i)=some β->False)
  (hbv:bd9 w S E v (.rows e ti.size n rs)) (ht:P.underlying t=some (.slice e)) (hte:bh8 P e ti) (hz:ti.zero.length=ti.size)
  (hx:Src w S x m ti.size r2) (h2:∀r∈r2,r.length=ti.size) (cF9:n+m<=1073741824):
  ∃v' w' E',(Builtin.append_ #[t,t] ty #[v,x]).run P w= .ok v' w'/\E' id=v'/\Ok w0 L nt ⟨tm,(id,.rows e ti.size (n+m) (rs++r2))::hp⟩ S E' a w':=by
 obtain⟨hm,ad,c,rfl,cf6⟩:=hx
 obtain⟨hn,aQ9⟩:=hbv
 have dk2:∃xs:List Value,ee4 w v e ti.size n xs/\xs.length=n*ti.size/\(∀r∈rs,r.length=ti.size)/\∀i j (hi:i<rs.length) (hj:j<(rs[i]).length) (hb:i*ti.size+j<xs.length),RT w S (xs[i*ti.size+j]) ((rs[i])[j]):=by
  rcases aQ9 with⟨rfl,hr⟩|⟨β,cap,vs,hcm,rfl,hh,hl,hc,hsz,hr⟩
  ·subst hr;subst hn;exact⟨[],.inl ⟨rfl,rfl,rfl⟩,by simp,by simp,fun i j hi=>by simp at hi⟩
  ·subst hn
   refine⟨vs.take (rs.length*ti.size),.inr ⟨β,cap,vs,rfl,hh,hc,hcm,hl,rfl⟩,?_,hsz,fun i j hi hj hb=>?_⟩
   ·rw[bs8,hl];exact eN3 (cA4 _ hc)
   ·rw[ed8];exact hr i j hi hj _
 obtain⟨xs,hov,hxl,hrl,hrx⟩:=dk2
 rcases dS1 m with h0|h0
 ·subst h0
  have hr2:r2=[]:=ex7 hm.symm
  subst hr2
  have hr:=cG7 (ty:=ty) ht hte hov (x:=.slice ad 0 c) rfl
  obtain⟨E',hE,hk⟩:=h.cT6 aM8 hf hb hv hd (aW2.refl _ w) (v':=v) (b:=.rows e ti.size (n+0) (rs++[])) (fun β hβ=>⟨(hv β hβ).2.1,.inl hβ⟩) (fun E'=>by
   rw[dn6,eb5];exact⟨hn,aQ9⟩)
  exact⟨v,w,E',hr,hE,hk⟩
 ·obtain⟨y,news,rfl,hnl,cm7,bh4,hrn⟩:=cf6 h0
  obtain⟨v',w',hr,hk,hov',hbl⟩:=cG8 (ty:=ty) ht hte hz hov hnl cm7 bh4 h0 cF9
  have hS:∀b,S b->w'.heap[b]? =w.heap[b]?:=fun b hb=>hk.block b (h.aH4 b hb) (fun e=>(hv b e).1 hb)
  obtain⟨E',hE,hok⟩:=h.cT6 aM8 hf hb hv hd hk (v':=v') (b:=.rows e ti.size (n+m) (rs++r2)) hbl (fun E'=>by
   refine⟨by rw[aX7,hn,hm],?_⟩
   rcases hov' with⟨_,hz0,_⟩|⟨g,cap,cur,rfl,hg,hnc,hcm,hcl,htk⟩
   ·omega
   ·refine .inr ⟨g,cap,cur,hcm,by rw[aX7,<-hn,<-hm],hg,hcl,by rw[aX7,<-hn,<-hm];exact hnc,?_,?_⟩
    ·intro r hr
     rcases do2.1 hr with hr|hr
     ·exact hrl r hr
     ·exact h2 r hr
    ·intro i j hi hj hb'
     by_cases hin:i<rs.length
     ·have hj1:j<(rs[i]).length:=by rw[cG5 hin]at hj;exact hj
      have hjs:j<ti.size:=by rw[<-hrl _ (bf2 hin)];exact hj1
      have hlt:i*ti.size+j<xs.length:=by
       rw[hxl,hn]
       have:(i+1)*ti.size<=rs.length*ti.size:=cA4 _ hin
       rw[dN7]at this;omega
      have e1:cur[i*ti.size+j]=xs[i*ti.size+j]:=by
       rw[bM9 htk (by rw[aX7];omega) hb',cG5 hlt]
      have e2:(rs++r2)[i]=rs[i]:=cG5 hin
      rw[e1]
      simp only[e2]
      exact(hrx i j hin hj1 hlt).mono (fun _ x=>x) hS
     ·have hi2:i-rs.length<r2.length:=by rw[aX7]at hi;omega
      have e2:(rs++r2)[i]=r2[i-rs.length]:=do1 (by omega)
      have hj1:j<(r2[i-rs.length]).length:=by rw[e2]at hj;exact hj
      have hjs:j<ti.size:=by rw[<-h2 _ (bf2 hi2)];exact hj1
      have hlt:(i-rs.length)*ti.size+j<news.length:=by
       rw[hnl,hm]
       have:(i-rs.length+1)*ti.size<=r2.length*ti.size:=cA4 _ hi2
       rw[dN7]at this;omega
      have esum:i*ti.size=rs.length*ti.size+(i-rs.length)*ti.size:=by rw[<-eB2];congr 1;omega
      have e3:i*ti.size+j-xs.length=(i-rs.length)*ti.size+j:=by rw[hxl,hn,esum];omega
      have e1:cur[i*ti.size+j]=news[(i-rs.length)*ti.size+j]:=by
       rw[bM9 htk (by rw[aX7,hxl,hn,esum];omega) hb',do1 (by rw[hxl,hn,esum];omega)]
       simp only[e3]
      rw[e1]
      simp only[e2]
      exact(hrn (i-rs.length) j hi2 hj1 hlt).mono (fun _ x=>x) hS)
  exact⟨v',w',E',hr,hE,hok⟩
end
section
variable {ρ α:Type} {X:Cx} {ks:List K} {tm tm':List (Nat × T)} {hp hp':List (Nat × H6)} {Q:ρ -> Exit -> St -> Prop} {all:Array Oper} {o:Oper} {rest:List Oper}
theorem bH3 {enc:α->List Tree}(bh4:∀y,(enc y).all aQ6=true)(l:List α):∀r∈l.map enc,∀t∈r,aQ6 t=true:=by
 intro r hr t ht
 obtain⟨y,_,rfl⟩:=cZ1.1 hr
 exact by6.1 (bh4 y) t ht
theorem bW0 {enc:α->List Tree}{sz:Nat}(h:∀y,(enc y).length=sz)(l:List α):∀r∈l.map enc,r.length=sz:=by
 intro r hr
 obtain⟨y,_,rfl⟩:=cZ1.1 hr
 exact h y
theorem C3.append {t e e' d id n m s0:Nat}{z0:List Value}{te:TI}{s x:Operand}{l r:List α}{enc:α->List Tree}{k:List α->Option ρ}
  (ho:o.op= .call ⟨.builtin .append,#[s,x],#[t,t]⟩) (hd:o.dst=some d) (hdn:ba2 d X.nt=true) (hg:aj1 all.toList tm o.guard=some true)
  (hty:look X.D5 t=some ⟨s0,.slice e,z0⟩) (hte:look X.D5 e=some te) (hz:te.zero.length=te.size) (az8:∀y,(enc y).length=te.size) (bh4:∀y,(enc y).all aQ6=true)
  (hs:(val tm s=some (.own id)/\look hp id=some (.rows e te.size n (l.map enc)))\/(val tm s=some (.t (.v (.slice none 0 0)))/\l=[]))
  (hx:val tm x=some (.t (.sl m (r.map enc)))\/∃i2,val tm x=some (.own i2)/\look hp i2=some (.rows e' te.size m (r.map enc)))
  (cm8:Sub ⟨tm',hp'⟩ ⟨tm,hp⟩) (aM8:ba2 id big=true) (hft:O6 id tm'=true) (hfb:O0 id hp'=true)
  (h:C3 X all rest ks ⟨(d,.own id)::tm',(id,.rows e te.size (l++r).length ((l++r).map enc))::hp'⟩ (k (l++r)) Q):
  C3 X all (o::rest) ks ⟨tm,hp⟩ ((U8 l r).bind k) Q:=fun y hy a w ⟨S,E,hk⟩=>by
 unfold U8 at hy
 split at hy
 ·rename_i cF9
  simp only[ac0]at hy
  obtain⟨dd,_,hu,ho2⟩:∃d,X.P.underlying t=some d/\X.P.underlying t=some d/\TD.ok X.P (.slice e) d:=by
   obtain⟨i,d,_,_,hu,hdd,_⟩:=X.M7 t _ hty
   exact⟨d,hu,hu,hdd⟩
  simp only[TD.ok]at ho2
  subst ho2
  have hk':Ok X.w0 X.L X.nt ⟨tm',hp'⟩ S E a w:=hk.sub cm8
  have cf6:Src w S (a.eval x) r.length te.size (r.map enc):=by
   rcases hx with hx|⟨i2,hx,hb2⟩
   ·have hv:=hk.val hx
    generalize a.eval x=xv at hv
    cases hv with
    |t hv=>
     have:=cg9 hv (bW0 az8 r) (bH3 bh4 r)
     have hm:m=r.length:=by simpa using this.1
     subst hm
     exact⟨by simp,this.2⟩
   ·have hv:=hk.val hx
    have hb:=hk.hp i2 _ hb2
    generalize a.eval x=xv at hv
    cases hv with
    |own _ _ hE=>
     subst hE
     have:=dn4 hb (bH3 bh4 r)
     have hm:m=r.length:=by simpa using this.1
     subst hm
     exact this
  have dG3:∃v,a.eval s=v/\bd9 w S E v (.rows e te.size l.length (l.map enc))/\(∀β,U5 v=some β->¬S β/\β<w.heap.size/\(X.w0.heap.size<=β\/X.L.bK0 β))/\
    (∀i blk β,look hp' i=some blk->U5 v=some β->U5 (E i)=some β->False):=by
   rcases hs with⟨hs,hb⟩|⟨hs,hl⟩
   ·have hv:=hk.val hs
    have hb1:=hk.hp id _ hb
    have hn:n=l.length:=by have:=hb1.1;simpa using this
    subst hn
    generalize a.eval s=sv at hv
    cases hv with
    |own _ _ hE=>
     subst hE
     refine⟨_,rfl,hb1,fun β hβ=>hk.own id _ β hb hβ,fun i blk β hi h1 h2=>?_⟩
     obtain⟨cs5,hi',_⟩:=bk8 cm8.2 i blk hi
     have:=hk.au8 id i _ cs5 β hb hi' h1 h2
     exact(aA9 hfb i blk hi).1 this.symm
   ·have hv:=(hk.val hs).tv
    subst hl
    rw[hv]
    exact⟨_,rfl,⟨by simp,.inl ⟨rfl,rfl⟩⟩,fun β hβ=>by simp[U5]at hβ,fun i blk β _ h1=>by simp[U5]at h1⟩
  obtain⟨v,hv,hbv,dk2,hdist⟩:=dG3
  obtain⟨v',w',E',hr,hE,hok⟩:=hk'.append (ty:=o.type) aM8 hft hfb dk2 hdist hbv hu (X.M7 e _ hte) hz cf6 (bW0 az8 r) (by simpa using cF9)
  refine wpList_step fun K hK=>?_
  rw[V9 hk hg,if_pos rfl]
  unfold Oper.wp
  have aO9:(execOp a.eval o).run X.P w= .ok (.value v') w':=by
   unfold execOp
   simp only[ho,resolve,invoke,builtin,bd5,bx4,aY1,eX7,cX5,ep3,hv,hr]
  rw[aO9]
  refine hK _ _ (h y hy _ _ ⟨S,E',?_⟩)
  rw[hd,eK7,aX7]
  exact hok.put (ba1 hdn) (.own id _ hE)
 ·simp at hy
end
section
variable {ρ α:Type} {X:Cx} {ks:List K} {tm tm':List (Nat × T)} {hp hp':List (Nat × H6)} {m:Option ρ} {Q:ρ -> Exit -> St -> Prop} {all:Array Oper} {o:Oper} {rest:List Oper}
end
def bG0 {α:Type}(l:List α)(o:Nat)(c:List α):List α:=l.take o++c++l.drop (o+c.length)
theorem bU8 {α:Type}(l:List α)(o:Nat)(c:List α)(h:o+c.length<=l.length):(bG0 l o c).length=l.length:=by
 simp[bG0];omega
theorem dz5 {α:Type}(l:List α)(o:Nat)(c:List α)(h:o+c.length<=l.length)(p:Nat):(bG0 l o c)[p]? =if p<o then l[p]?else if p<o+c.length then c[p-o]?else l[p]?:=by
 unfold bG0
 have e1:min o l.length=o:=by omega
 by_cases h1:p<o
 ·rw[if_pos h1,dq9,ee0 (by simp;omega),dx0,if_pos h1]
 ·rw[if_neg h1]
  by_cases h2:p<o+c.length
  ·rw[if_pos h2,ee0 (by simp;omega),dG9 (by simp;omega)]
   simp only[bs8,e1]
  ·rw[if_neg h2,dG9 (by simp;omega),eU5]
   congr 1
   simp only[aX7,bs8,e1]
   omega
section
variable {P:Program} {w0:World} {L:Lim} {nt:Nat} {σ:St} {S:Nat -> Prop} {E:Nat -> Value} {a:Act} {w:World}
theorem RV.rt {v:Value}{y:Tree}(h:RV w S E v (.t y)):RT w S v y:=by cases h with|t h=>exact h
theorem ec1 (hok:Ok w0 L nt σ S E a w){t:Nat}{ti:TI}(hti:bh8 P t ti){id i sz off e n:Nat}{rs:List (List Tree)}{row lt:List Tree}{x:T}{v pv:Value}
  (hb:look σ.hp id=some (.rows e sz n rs)) (hp:RV w S E pv (.pe id i sz off)) (hi:rs[i]? =some row) (hv:RV w S E v x) (hx:aq9 σ.hp x=some (lt.map .t)) (hs:lt.length=ti.size) (hle:off+lt.length<=sz):
  ∃w',(Instr.storeAt t pv v).run P w= .ok () w'/\Ok w0 L nt ⟨σ.tm,au9 σ.hp id (.rows e sz n (rs.set i (bG0 row off lt)))⟩ S E a w':=by
 obtain⟨vs,hvs,hl,hr,h1⟩:=hok.cells hv hx
 obtain⟨hn,aQ9⟩:=hok.hp id _ hb
 obtain⟨hil,dt7⟩:=bD8.1 hi
 have hvl:vs.length=lt.length:=by simpa using hl
 rcases aQ9 with⟨_,hr0⟩|⟨β,cap,cs,hcm,hE,hh,hcl,hcc,hsz,hcr⟩
 ·subst hr0;simp at hil
 ·cases hp with
  |pe _ _ _ _ β' n' dE5 hE'=>
   rw[hE]at hE'
   cases hE'
   have hrl:row.length=sz:=by rw[<-dt7];exact hsz _ (bf2 hil)
   have hfit:i*sz+off+vs.length<=cs.length:=by
    have h2:(i+1)*sz<=cap*sz:=cA4 _ (by omega)
    rw[dN7]at h2
    omega
   have hst:(Instr.storeAt t (.pointer (some ⟨β,i*sz+off,none⟩)) v).run P w= .ok () (w.setRow β (bG0 cs (i*sz+off) vs).toArray):=by
    have:=run_storeCells_at (P:=P) β (i*sz+off) e vs 0 cs.toArray w hh (by simp;omega) h1
    have hl2:vs.length=ti.size:=by omega
    simp only[Instr.storeAt,Instr.sureAddr,bd5,bx4,aY1,storeVar,hti.aH0,hvs]
    simpa[bG0,hl2]using this
   refine⟨_,hst,hok.setRow hb (by rw[hE];rfl) hh fun hS bO2=>⟨by rw[ee7];exact hn,.inr ⟨β,cap,bG0 cs (i*sz+off) vs,hcm,by rw[ee7];exact hE,bO2,by rw[bU8 _ _ _ hfit];exact hcl,by rw[ee7];exact hcc,?_,?_⟩⟩⟩
   ·intro r hr'
    obtain⟨j,hj,rfl⟩:=da7.1 hr'
    rw[ee7]at hj
    rw[eX2]
    split
    ·rw[bU8 _ _ _ (by omega)];exact hrl
    ·exact hsz _ (bf2 hj)
   ·intro i' j hi' hj hb'
    have hi2:i'<rs.length:=by rw[ee7]at hi';exact hi'
    have hg:=dz5 cs (i*sz+off) vs hfit (i'*sz+j)
    rw[aJ9 hb']at hg
    have old:∀(hne:i'≠i\/j<off\/off+vs.length<=j),(i'=i->(bG0 row off lt)[j]? =row[j]?)->RT (w.setRow β (bG0 cs (i*sz+off) vs).toArray) S ((bG0 cs (i*sz+off) vs)[i'*sz+j]) (((rs.set i (bG0 row off lt))[i']'(by rw[ee7];exact hi2))[j]):=by
     intro hne hsame
     have hjr:((rs.set i (bG0 row off lt))[i']'(by rw[ee7];exact hi2)).length=sz:=by
      rw[eX2]
      split
      ·rw[bU8 _ _ _ (by omega)];exact hrl
      ·exact hsz _ (bf2 hi2)
     have hjs:j<sz:=by rw[hjr]at hj;exact hj
     have hrange:i'*sz+j<i*sz+off\/i*sz+off+vs.length<=i'*sz+j:=by
      rcases Nat.lt_trichotomy i' i with h2|h2|h2
      ·left
       have:(i'+1)*sz<=i*sz:=cA4 _ h2
       rw[dN7]at this;omega
      ·subst h2
       rcases hne with h3|h3|h3
       ·exact absurd rfl h3
       ·left;omega
       ·right;omega
      ·right
       have:(i+1)*sz<=i'*sz:=cA4 _ h2
       rw[dN7]at this;omega
     have e1:some ((bG0 cs (i*sz+off) vs)[i'*sz+j])=cs[i'*sz+j]?:=by
      rw[hg]
      rcases hrange with h2|h2
      ·rw[if_pos h2]
      ·rw[if_neg (by omega),if_neg (by omega)]
     obtain⟨hlt,e1⟩:=bD8.1 e1.symm
     have hj2:j<(rs[i']).length:=by rw[hsz _ (bf2 hi2)];exact hjs
     have e2:((rs.set i (bG0 row off lt))[i']'(by rw[ee7];exact hi2))[j]=(rs[i'])[j]:=by
      apply cJ3
      rw[<-aJ9,<-aJ9,eX2]
      split
      ·rename_i h3
       subst h3
       rw[hsame rfl,<-dt7]
      ·rfl
     rw[<-e1,e2]
     exact(hcr i' j hi2 hj2 hlt).mono (fun _ x=>x) hS
    by_cases hii:i'=i
    ·subst hii
     have hsg:=dz5 row off lt (by omega) j
     by_cases c1:j<off
     ·exact old (.inr (.inl c1)) (fun _=>by rw[hsg,if_pos c1])
     ·by_cases c2:j<off+lt.length
      ·have hjv:j-off<vs.length:=by omega
       have e1:(bG0 cs (i'*sz+off) vs)[i'*sz+j]=vs[j-off]:=by
        apply cJ3
        rw[hg,if_neg (by omega),if_pos (by omega),show i'*sz+j-(i'*sz+off)=j-off by omega,aJ9 hjv]
       have e2:((rs.set i' (bG0 row off lt))[i']'(by rw[ee7];exact hi2))[j]=lt[j-off]:=by
        apply cJ3
        rw[<-aJ9,List.getElem_set_self,hsg,if_neg c1,if_pos c2,aJ9 (by omega)]
       rw[e1,e2]
       have:=hr (j-off) hjv (by simp;omega)
       rw[dB9]at this
       exact this.rt.mono (fun _ x=>x) hS
      ·exact old (.inr (.inr (by omega))) (fun _=>by rw[hsg,if_neg c1,if_neg c2])
    ·exact old (.inl hii) (fun h=>absurd h hii)
theorem du9 (hok:Ok w0 L nt σ S E a w){t:Nat}{ti:TI}(hti:bh8 P t ti){id i sz off e n:Nat}{rs:List (List Tree)}{row:List Tree}{pv:Value}{r:T}
  (hb:look σ.hp id=some (.rows e sz n rs)) (hp:RV w S E pv (.pe id i sz off)) (hi:rs[i]? =some row) (hx:bh7 ti.desc.isAgg ti.size (row.map .t) off=some r):
  ∃v,(Instr.loadAt t pv).run P w= .ok v w/\RV w S E v r:=by
 obtain⟨hn,aQ9⟩:=hok.hp id _ hb
 obtain⟨hil,dt7⟩:=bD8.1 hi
 rcases aQ9 with⟨_,hr0⟩|⟨β,cap,cs,hcm,hE,hh,hcl,hcc,hsz,hcr⟩
 ·subst hr0;simp at hil
 ·cases hp with
  |pe _ _ _ _ β' n' dE5 hE'=>
   rw[hE]at hE'
   cases hE'
   have hrl:row.length=sz:=by rw[<-dt7];exact hsz _ (bf2 hil)
   have hfit:i*sz+sz<=cs.length:=by
    have h2:(i+1)*sz<=cap*sz:=cA4 _ (by omega)
    rw[dN7]at h2
    omega
   refine cI4 (P:=P) (b:=β) (o:=i*sz) (vs:=(cs.drop (i*sz)).take sz) hti (l:=row.map .t) ?_ ?_ ?_ hx
   ·simp;omega
   ·intro j h1
    simp only[bs8,do0]at h1
    rw[cell_of_row w β _ _ e _ hh]
    have:i*sz+j<cs.length:=by omega
    simp[this]
   ·intro j h1 h2
    simp only[bs8,do0]at h1
    have hj:j<sz:=by omega
    have:=hcr i j hil (by rw[hsz _ (bf2 hil)];exact hj) (by omega)
    simp only[ed8,ex8,dB9]
    simp only[dt7]at this
    exact .t this
end
section
variable {ρ α:Type} {X:Cx} {ks:List K} {tm:List (Nat × T)} {hp:List (Nat × H6)} {m:Option ρ} {Q:ρ -> Exit -> St -> Prop} {all:Array Oper} {o:Oper} {rest:List Oper}
theorem C3.eZ3 {t d id i sz off e n:Nat}{ti:TI}{p:Operand}{l:List α}{enc:α->List Tree}{y:α}{r:T}(hy:l[i]? =some y)
  (ho:o.op= .load t p) (hd:o.dst=some d) (hdn:ba2 d X.nt=true) (hg:aj1 all.toList tm o.guard=some true) (hp1:val tm p=some (.pe id i sz off)) (hb:look hp id=some (.rows e sz n (l.map enc)))
  (hti:look X.D5 t=some ti) (hr:bh7 ti.desc.isAgg ti.size ((enc y).map .t) off=some r) (h:C3 X all rest ks ⟨(d,r)::tm,hp⟩ m Q):C3 X all (o::rest) ks ⟨tm,hp⟩ m Q:=by
 have:=C3.one (X:=X) (ks:=ks) (tm:=tm) (hp:=hp) (all:=all) (o:=o) (rest:=rest) (Q:=Q) (k:=fun _=>m) (m₁:=some ()) hd hdn hg (fun _=>r) (fun _ S E a w _ hk=>by
  obtain⟨v,h1,h2⟩:=du9 (P:=X.P) hk (X.M7 t _ hti) hb (hk.val hp1) (by rw[cM9,hy];rfl) hr
  refine⟨v,?_,h2⟩
  unfold execOp
  simp only[ho,bd5,h1,aY1,bx4]) (fun _ _=>h)
 simpa using this
end
mutual
def aN6 (h:List (Nat×Nat)):T->Option T
 | .t x=>some (.t x)
 | .el c=>some (.el c)
 | .fz n c=>some (.fz n c)
 | .any=>some .any
 | .ptr id off=>match look h id with|some i=>some (.ptr i off)|none=>none
 | .own id=>match look h id with|some i=>some (.own i)|none=>none
 | .pe id i sz off=>match look h id with|some j=>some (.pe j i sz off)|none=>none
 | .vw id lo n sz=>match look h id with|some j=>some (.vw j lo n sz)|none=>none
 | .agg l=>match bU0 h l with|some r=>some (.agg r)|none=>none
 | .S9 l=>match bU0 h l with|some r=>some (.S9 r)|none=>none
 | .clo f l=>match bU0 h l with|some r=>some (.clo f r)|none=>none
def bU0 (h:List (Nat×Nat)):List T->Option (List T)
 |[]=>some []
 |x::r=>match aN6 h x,bU0 h r with|some y,some l=>some (y::l)|_,_=>none
end
def bT9 (h:List (Nat×Nat)):H6->Option H6
 | .box l=>match bU0 h l with|some r=>some (.box r)|none=>none
 | .rows e sz n rs=>some (.rows e sz n rs)
 | .mp es=>some (.mp es)
 | .rv y e sz n rs=>some (.rv y e sz n rs)
section
variable {w:World} {S:Nat -> Prop} {E E':Nat -> Value} {h:List (Nat × Nat)}
mutual
theorem cp1 (hE:∀i j,look h i=some j->E' j=E i):∀{t u:T}{v:Value},RV w S E v t->aN6 h t=some u->RV w S E' v u
 | .t x,u,v,hv,hr=>by simp only[aN6,aj7]at hr;subst hr;exact hv.mono (fun _ x=>x) (fun _ _=>rfl) (fun id hid=>by simp[names]at hid)
 | .el c,u,v,hv,hr=>by simp only[aN6,aj7]at hr;subst hr;exact hv.mono (fun _ x=>x) (fun _ _=>rfl) (fun id hid=>by simp[names]at hid)
 | .fz n c,u,v,hv,hr=>by simp only[aN6,aj7]at hr;subst hr;exact hv.mono (fun _ x=>x) (fun _ _=>rfl) (fun id hid=>by simp[names]at hid)
 | .any,u,v,hv,hr=>by simp only[aN6,aj7]at hr;subst hr;exact .any v
 | .ptr id off,u,v,hv,hr=>by
  simp only[aN6]at hr
  split at hr<;>try(cases hr;done)
  rename_i i hi
  simp only[aj7]at hr;subst hr
  cases hv with|ptr _ _ β hb=>exact .ptr i off β (by rw[hE id i hi];exact hb)
 | .own id,u,v,hv,hr=>by
  simp only[aN6]at hr
  split at hr<;>try(cases hr;done)
  rename_i i hi
  simp only[aj7]at hr;subst hr
  cases hv with|own _ _ hb=>exact .own i v (by rw[hE id i hi];exact hb)
 | .pe id k sz off,u,v,hv,hr=>by
  simp only[aN6]at hr
  split at hr<;>try(cases hr;done)
  rename_i i hi
  simp only[aj7]at hr;subst hr
  cases hv with|pe _ _ _ _ β n cap hb=>exact .pe i k sz off β n cap (by rw[hE id i hi];exact hb)
 | .vw id lo n sz,u,v,hv,hr=>by
  simp only[aN6]at hr
  split at hr<;>try(cases hr;done)
  rename_i i hi
  simp only[aj7]at hr;subst hr
  cases hv with|vw _ _ _ _ c a hb=>exact .vw i lo n sz c a (by rw[hE id i hi];exact hb)
 | .agg l,u,v,hv,hr=>by
  simp only[aN6]at hr
  split at hr<;>try(cases hr;done)
  rename_i r hl
  simp only[aj7]at hr;subst hr
  cases hv with|agg vs _ hlen hrr=>have:=cp0 hE ⟨hlen,hrr⟩ hl;exact .agg vs r this.1 this.2
 | .S9 l,u,v,hv,hr=>by
  simp only[aN6]at hr
  split at hr<;>try(cases hr;done)
  rename_i r hl
  simp only[aj7]at hr;subst hr
  cases hv with|S9 vs _ hlen hrr=>have:=cp0 hE ⟨hlen,hrr⟩ hl;exact .S9 vs r this.1 this.2
 | .clo f l,u,v,hv,hr=>by
  simp only[aN6]at hr
  split at hr<;>try(cases hr;done)
  rename_i r hl
  simp only[aj7]at hr;subst hr
  cases hv with|clo _ vs _ hlen hrr=>have:=cp0 hE ⟨hlen,hrr⟩ hl;exact .clo f vs r this.1 this.2
theorem cp0 (hE:∀i j,look h i=some j->E' j=E i):∀{l r:List T}{vs:List Value},RVL w S E vs l->bU0 h l=some r->RVL w S E' vs r
 |[],r,vs,hv,hr=>by simp only[bU0,aj7]at hr;subst hr;exact⟨hv.1,fun j _ h2=>by simp at h2⟩
 |x::l,r,vs,hv,hr=>by
  simp only[bU0]at hr
  split at hr<;>try(cases hr;done)
  rename_i y l' hy hl'
  simp only[aj7]at hr;subst hr
  cases vs with
  |nil=>have:=hv.1;simp at this
  |cons v vs=>
   have h1:=cp1 hE (t:=x) (hv.2 0 (by simp) (by simp)) hy
   have h2:=cp0 hE (l:=l) (vs:=vs) ⟨by simpa using hv.1,fun j a b=>hv.2 (j+1) (by simpa using a) (by simpa using b)⟩ hl'
   refine⟨by simp[h2.1],fun j a b=>?_⟩
   cases j with
   |zero=>exact h1
   |succ j=>exact h2.2 j (by simpa using a) (by simpa using b)
end
mutual
theorem ed0 (hE:∀i j,look h i=some j->E' j=E i):∀{t u:T}{v:Value},RV w S E' v u->aN6 h t=some u->RV w S E v t
 | .t x,u,v,hv,hr=>by simp only[aN6,aj7]at hr;subst hr;exact hv.mono (fun _ x=>x) (fun _ _=>rfl) (fun id hid=>by simp[names]at hid)
 | .el c,u,v,hv,hr=>by simp only[aN6,aj7]at hr;subst hr;exact hv.mono (fun _ x=>x) (fun _ _=>rfl) (fun id hid=>by simp[names]at hid)
 | .fz n c,u,v,hv,hr=>by simp only[aN6,aj7]at hr;subst hr;exact hv.mono (fun _ x=>x) (fun _ _=>rfl) (fun id hid=>by simp[names]at hid)
 | .any,u,v,hv,hr=>.any v
 | .ptr id off,u,v,hv,hr=>by
  simp only[aN6]at hr
  split at hr<;>try(cases hr;done)
  rename_i i hi
  simp only[aj7]at hr;subst hr
  cases hv with|ptr _ _ β hb=>exact .ptr id off β (by rw[<-hE id i hi];exact hb)
 | .own id,u,v,hv,hr=>by
  simp only[aN6]at hr
  split at hr<;>try(cases hr;done)
  rename_i i hi
  simp only[aj7]at hr;subst hr
  cases hv with|own _ _ hb=>exact .own id v (by rw[<-hE id i hi];exact hb)
 | .pe id k sz off,u,v,hv,hr=>by
  simp only[aN6]at hr
  split at hr<;>try(cases hr;done)
  rename_i i hi
  simp only[aj7]at hr;subst hr
  cases hv with|pe _ _ _ _ β n cap hb=>exact .pe id k sz off β n cap (by rw[<-hE id i hi];exact hb)
 | .vw id lo n sz,u,v,hv,hr=>by
  simp only[aN6]at hr
  split at hr<;>try(cases hr;done)
  rename_i i hi
  simp only[aj7]at hr;subst hr
  cases hv with|vw _ _ _ _ c a hb=>exact .vw id lo n sz c a (by rw[<-hE id i hi];exact hb)
 | .agg l,u,v,hv,hr=>by
  simp only[aN6]at hr
  split at hr<;>try(cases hr;done)
  rename_i r hl
  simp only[aj7]at hr;subst hr
  cases hv with|agg vs _ hlen hrr=>have:=bt2 hE ⟨hlen,hrr⟩ hl;exact .agg vs l this.1 this.2
 | .S9 l,u,v,hv,hr=>by
  simp only[aN6]at hr
  split at hr<;>try(cases hr;done)
  rename_i r hl
  simp only[aj7]at hr;subst hr
  cases hv with|S9 vs _ hlen hrr=>have:=bt2 hE ⟨hlen,hrr⟩ hl;exact .S9 vs l this.1 this.2
 | .clo f l,u,v,hv,hr=>by
  simp only[aN6]at hr
  split at hr<;>try(cases hr;done)
  rename_i r hl
  simp only[aj7]at hr;subst hr
  cases hv with|clo _ vs _ hlen hrr=>have:=bt2 hE ⟨hlen,hrr⟩ hl;exact .clo f vs l this.1 this.2
theorem bt2 (hE:∀i j,look h i=some j->E' j=E i):∀{l r:List T}{vs:List Value},RVL w S E' vs r->bU0 h l=some r->RVL w S E vs l
 |[],r,vs,hv,hr=>by simp only[bU0,aj7]at hr;subst hr;exact⟨hv.1,fun j _ h2=>by simp at h2⟩
 |x::l,r,vs,hv,hr=>by
  simp only[bU0]at hr
  split at hr<;>try(cases hr;done)
  rename_i y l' hy hl'
  simp only[aj7]at hr;subst hr
  cases vs with
  |nil=>have:=hv.1;simp at this
  |cons v vs=>
   have h1:=ed0 hE (t:=x) (hv.2 0 (by simp) (by simp)) hy
   have h2:=bt2 hE (l:=l) (vs:=vs) ⟨by simpa using hv.1,fun j a b=>hv.2 (j+1) (by simpa using a) (by simpa using b)⟩ hl'
   refine⟨by simp[h2.1],fun j a b=>?_⟩
   cases j with
   |zero=>exact h1
   |succ j=>exact h2.2 j (by simpa using a) (by simpa using b)
end
theorem dm8 (hE:∀i j,look h i=some j->E' j=E i){x:Value}{b c:H6}(hb:bd9 w S E x b)(hr:bT9 h b=some c):bd9 w S E' x c:=by
 cases b with
 |box l=>
  simp only[bT9]at hr
  split at hr<;>try(cases hr;done)
  rename_i r hl
  simp only[aj7]at hr;subst hr
  obtain⟨β,vs,elem,h1,h2,h3,h4,h5⟩:=hb
  have:=cp0 hE (l:=l) (vs:=vs) ⟨h3,h4⟩ hl
  exact⟨β,vs,elem,h1,h2,this.1,this.2,h5⟩
 |rows e sz n rs=>
  simp only[bT9,aj7]at hr;subst hr
  exact hb.mono (fun _ x=>x) (fun _ _=>rfl) (fun _ _=>rfl) (fun _ hid=>by simp[bj5]at hid)
 |mp es=>
  simp only[bT9,aj7]at hr;subst hr
  exact hb.mono (fun _ x=>x) (fun _ _=>rfl) (fun _ _=>rfl) (fun _ hid=>by simp[bj5]at hid)
 |rv y e sz n rs=>
  simp only[bT9,aj7]at hr;subst hr
  exact hb.mono (fun _ x=>x) (fun _ _=>rfl) (fun _ _=>rfl) (fun _ hid=>by simp[bj5]at hid)
theorem ec9 (hE:∀i j,look h i=some j->E' j=E i){x:Value}{b c:H6}(hb:bd9 w S E' x c)(hr:bT9 h b=some c):bd9 w S E x b:=by
 cases b with
 |box l=>
  simp only[bT9]at hr
  split at hr<;>try(cases hr;done)
  rename_i r hl
  simp only[aj7]at hr;subst hr
  obtain⟨β,vs,elem,h1,h2,h3,h4,h5⟩:=hb
  have:=bt2 hE (l:=l) (vs:=vs) ⟨h3,h4⟩ hl
  exact⟨β,vs,elem,h1,h2,this.1,this.2,h5⟩
 |rows e sz n rs=>
  simp only[bT9,aj7]at hr;subst hr
  exact hb.mono (fun _ x=>x) (fun _ _=>rfl) (fun _ _=>rfl) (fun _ hid=>by simp[bj5]at hid)
 |mp es=>
  simp only[bT9,aj7]at hr;subst hr
  exact hb.mono (fun _ x=>x) (fun _ _=>rfl) (fun _ _=>rfl) (fun _ hid=>by simp[bj5]at hid)
 |rv y e sz n rs=>
  simp only[bT9,aj7]at hr;subst hr
  exact hb.mono (fun _ x=>x) (fun _ _=>rfl) (fun _ _=>rfl) (fun _ hid=>by simp[bj5]at hid)
end
structure ci5 (w:World)(S:Nat->Prop)(E:Nat->Value)(hp:List (Nat×H6)):Prop where
 blk:∀id b,look hp id=some b->bd9 w S E (E id) b
 own:∀id b β,look hp id=some b->U5 (E id)=some β->¬S β/\β<w.heap.size
 au8:∀id id' b b' β,look hp id=some b->look hp id'=some b'->U5 (E id)=some β->U5 (E id')=some β->id=id'
def aD9 (hp:List (Nat×H6))(E:Nat->Value)(β:Nat):Prop:=∃id b,look hp id=some b/\U5 (E id)=some β
def bh9 {ρ:Type}(P:Program)(n:FuncId)(args:List T)(hp:List (Nat×H6))(m:Option ρ)(res:ρ->T)(hp':ρ->List (Nat×H6)):Prop:=
 (∀vs w,(callFunc n vs).run P w= .ok (.enter n vs) w)/\
 ∀r,m=some r->∀(w:World) (S:Nat->Prop) (E:Nat->Value) (vs:List Value),(∀b,S b->b<w.heap.size)->ci5 w S E hp->RVL w S E vs args->
  Calls P n vs.toArray w fun e w'=>∃v S' E',e= .returned v/\RV w' S' E' v (res r)/\aW2 (aD9 hp E) w w'/\(∀b,S' b->b<w'.heap.size)/\(∀b,S' b->S b\/aD9 hp E b\/w.heap.size<=b)/\
   ci5 w' S' E' (hp' r)/\(∀β,aD9 (hp' r) E' β->aD9 hp E β\/w.heap.size<=β)/\(∀id,big<=id->E' id=E id)
theorem ci5.ok {w:World}{S:Nat->Prop}{E:Nat->Value}{hp:List (Nat×H6)}(h:ci5 w S E hp)(hS:∀b,S b->b<w.heap.size):Ok w ⟨fun _=>True,fun _=>True,E⟩ 0 ⟨[],hp⟩ S E ⟨#[],[]⟩ w where
 keep:=aW2.refl _ _
 aH4:=hS
 base:=fun _ _=>.inl trivial
 size:=rfl
 defers:=rfl
 tm:=fun k t ht=>by simp[look]at ht
 hp:=h.blk
 own:=fun id b β hb hβ=>⟨(h.own id b β hb hβ).1,(h.own id b β hb hβ).2,.inr trivial⟩
 au8:=h.au8
 pin:=fun _ _=>rfl
theorem bh9.toF {ρ:Type}{P:Program}{n:FuncId}{args:List T}{m:Option ρ}{res res':ρ->T}{hp':ρ->List (Nat×H6)}(h:bh9 P n args [] m res hp')(hz:∀r,ba9 (hp' r) (res r)=some (res' r)):aR1 P n args m res':=by
 refine⟨h.1,fun r hr w S E vs hS hv=>(h.2 r hr w S E vs hS ⟨fun id b hb=>by simp[look]at hb,fun id b β hb=>by simp[look]at hb,fun id id' b b' β hb=>by simp[look]at hb⟩ hv).mono fun e w' ⟨v,S',E',he,hv',hk,h1,h2,hO,h3,_⟩=>?_⟩
 have nl:∀β,¬aD9 [] E β:=fun β ⟨id,b,hb,_⟩=>by simp[look]at hb
 refine⟨v,fun b=>S' b\/bl8 (hp' r) E' b,he,dj7 (hO.ok h1) (fun _ x=>.inl x) (fun _ x=>.inr x) hv' (hz r) E,⟨hk.os,hk.tape,hk.output,hk.size,fun k hk' _=>hk.block k hk' (nl k),hk.drawn⟩,fun b hb=>?_,fun b hb=>?_⟩
 ·rcases hb with hb|⟨id,_,hl,hβ⟩
  ·exact h1 b hb
  ·exact(hO.own id _ b hl hβ).2
 ·rcases hb with hb|⟨id,_,hl,hβ⟩
  ·rcases h2 b hb with h4|h4|h4
   ·exact .inl h4
   ·exact absurd h4 (nl b)
   ·exact .inr h4
  ·rcases h3 b ⟨id,_,hl,hβ⟩with h4|h4
   ·exact absurd h4 (nl b)
   ·exact .inr h4
end Go.Pv
namespace Go.Pv
open Go.RowKit
def bb7:List Nat->Bool
 |[]=>true
 |x::r=>!(r.any (bx3 x))&&bb7 r
def rev:List (Nat×Nat)->Nat->Option Nat
 |[],_=>none
 |(a,b)::r,c=>bif bx3 b c then some a else rev r c
theorem any_beq {l:List Nat}{x:Nat}(h:l.any (bx3 x)=false):x∉l:=by
 intro hx
 rw[dB8]at h
 exact h x hx (bX7 x)
theorem bn6 {α:Type}:∀{l:List (Nat×α)}{i:Nat}{x:α},look l i=some x->(i,x)∈l
 |[],i,x,h=>by simp[look]at h
 |(a,b)::r,i,x,h=>by
  simp only[look]at h
  by_cases hi:a=i
  ·subst hi;simp only[bX7,fh5,aj7]at h;subst h;exact bL5 ..
  ·simp only[D6 hi,fh3]at h;exact bO9 _ (bn6 h)
theorem bF7:∀{h:List (Nat×Nat)}{i j:Nat},bb7 (h.map (·.2))=true->look h i=some j->rev h j=some i
 |[],i,j,_,hl=>by simp[look]at hl
 |(a,b)::r,i,j,hn,hl=>by
  simp only[cX5,bb7,au2,bZ6]at hn
  simp only[look]at hl
  by_cases hi:a=i
  ·subst hi;simp only[bX7,fh5,aj7]at hl;subst hl;simp[rev]
  ·simp only[D6 hi,fh3]at hl
   have hne:b≠j:=fun e=>any_beq hn.1 (e▸cZ1.2 ⟨(i,j),bn6 hl,rfl⟩)
   simp only[rev,D6 hne,fh3]
   exact bF7 hn.2 hl
theorem dy6:∀{h:List (Nat×Nat)}{c:Nat},c∉h.map (·.2)->rev h c=none
 |[],c,_=>rfl
 |(a,b)::r,c,hc=>by
  simp only[cX5,cr6,not_or]at hc
  simp only[rev,D6 (Ne.symm hc.1),fh3]
  exact dy6 hc.2
theorem cI5:∀{h:List (Nat×Nat)}{c a:Nat},rev h c=some a->(a,c)∈h
 |[],c,a,hr=>by simp[rev]at hr
 |(x,y)::r,c,a,hr=>by
  simp only[rev]at hr
  by_cases hy:y=c
  ·subst hy;simp only[bX7,fh5,aj7]at hr;subst hr;exact bL5 ..
  ·simp only[D6 hy,fh3]at hr;exact bO9 _ (cI5 hr)
theorem aS0 {α:Type}:∀(l m:List (Nat×α)) (i:Nat),look (l++m) i=match look l i with|some x=>some x|none=>look m i
 |[],m,i=>rfl
 |(a,b)::r,m,i=>by
  simp only[dK4,look]
  by_cases hi:a=i
  ·subst hi;simp
  ·simp only[D6 hi,fh3];exact aS0 r m i
theorem nodup_append:∀{l m:List Nat},bb7 (l++m)=true->bb7 l=true/\bb7 m=true/\∀x,x∈l->x∉m
 |[],m,h=>⟨rfl,h,fun x hx=>by simp at hx⟩
 |a::r,m,h=>by
  simp only[dK4,bb7,au2,bZ6,List.any_append,Bool.or_eq_false_iff]at h
  obtain⟨h1,h2,h3⟩:=nodup_append h.2
  refine⟨by simp[bb7,h.1.1,h1],h2,fun x hx=>?_⟩
  rcases cr6.1 hx with rfl|hx
  ·exact any_beq h.1.2
  ·exact h3 x hx
def aS4 (h:List (Nat×Nat)):List (Nat×H6)->Option (List (Nat×H6))
 |[]=>some []
 |(i,b)::r=>match look h i,bT9 h b,aS4 h r with|some j,some c,some l=>some ((j,c)::l)|_,_,_=>none
def cT7 (h:List (Nat×Nat)):List (Nat×T)->Option (List (Nat×T))
 |[]=>some []
 |(k,t)::r=>match aN6 h t,cT7 h r with|some u,some l=>some ((k,u)::l)|_,_=>none
theorem bk5 {h:List (Nat×Nat)}:∀{hp hp':List (Nat×H6)},aS4 h hp=some hp'->∀{c:Nat}{b':H6},look hp' c=some b'->∃i b,look hp i=some b/\look h i=some c/\bT9 h b=some b'
 |[],hp',hr,c,b',hl=>by simp only[aS4,aj7]at hr;subst hr;simp[look]at hl
 |(i,b)::r,hp',hr,c,b',hl=>by
  simp only[aS4]at hr
  split at hr<;>try(cases hr;done)
  rename_i j b1 l hj hb hl'
  simp only[aj7]at hr;subst hr
  simp only[look]at hl
  by_cases hc:j=c
  ·subst hc
   simp only[bX7,fh5,aj7]at hl;subst hl
   exact⟨i,b,by simp[look],hj,hb⟩
  ·simp only[D6 hc,fh3]at hl
   obtain⟨i',b2,h1,h2,h3⟩:=bk5 hl' hl
   refine⟨i',b2,?_,h2,h3⟩
   have hne:i≠i':=by intro e;subst e;rw[hj]at h2;exact hc (cJ3 h2)
   simp only[look,D6 hne,fh3]
   exact h1
theorem bt1 {h:List (Nat×Nat)}:∀{hp hp':List (Nat×H6)},aS4 h hp=some hp'->∀{i:Nat}{b:H6},look hp i=some b->∃j b',look h i=some j/\bT9 h b=some b'/\(j,b')∈hp'
 |[],hp',hr,i,b,hl=>by simp[look]at hl
 |(i0,b0)::r,hp',hr,i,b,hl=>by
  simp only[aS4]at hr
  split at hr<;>try(cases hr;done)
  rename_i j b1 l hj hb hl'
  simp only[aj7]at hr;subst hr
  simp only[look]at hl
  by_cases hi:i0=i
  ·subst hi
   simp only[bX7,fh5,aj7]at hl;subst hl
   exact⟨j,b1,hj,hb,bL5 ..⟩
  ·simp only[D6 hi,fh3]at hl
   obtain⟨j',b2,h1,h2,h3⟩:=bt1 hl' hl
   exact⟨j',b2,h1,h2,bO9 _ h3⟩
theorem cT8 {h:List (Nat×Nat)}:∀{tm tm':List (Nat×T)},cT7 h tm=some tm'->∀{k:Nat}{u:T},look tm' k=some u->∃t,look tm k=some t/\aN6 h t=some u
 |[],tm',hr,k,u,hl=>by simp only[cT7,aj7]at hr;subst hr;simp[look]at hl
 |(k0,t0)::r,tm',hr,k,u,hl=>by
  simp only[cT7]at hr
  split at hr<;>try(cases hr;done)
  rename_i u1 l hu hl'
  simp only[aj7]at hr;subst hr
  simp only[look]at hl
  by_cases hk:k0=k
  ·subst hk
   simp only[bX7,fh5,aj7]at hl;subst hl
   exact⟨t0,by simp[look],hu⟩
  ·simp only[D6 hk,fh3]at hl
   obtain⟨t,h1,h2⟩:=cT8 hl' hl
   exact⟨t,by simp only[look,D6 hk,fh3];exact h1,h2⟩
def cC6 (h:List (Nat×Nat)):Bool:=bb7 (h.map (·.2))&&h.all (fun p=>ba2 p.2 big||bx3 p.1 p.2)
theorem Ok.ren {w0:World}{L:Lim}{nt:Nat}{tm tm':List (Nat×T)}{hp hp':List (Nat×H6)}{S:Nat->Prop}{E:Nat->Value}{a:Act}{w:World}(k:Ok w0 L nt ⟨tm,hp⟩ S E a w)(h:List (Nat×Nat))(ho:cC6 h=true)
  (ht:cT7 h tm=some tm') (hh:aS4 h hp=some hp'):∃E',Ok w0 L nt ⟨tm',hp'⟩ S E' a w:=by
 simp only[cC6,au2,by6]at ho
 let E':Nat->Value:=fun c=>match rev h c with|some s=>E s|none=>E c
 have hE:∀i j,look h i=some j->E' j=E i:=fun i j hl=>by simp[E',bF7 ho.1 hl]
 refine⟨E',{keep:=k.keep,aH4:=k.aH4,base:=k.base,size:=k.size,defers:=k.defers,tm:=fun n u hl=>?_,hp:=fun c b hl=>?_,own:=fun c b β hl hβ=>?_,au8:=fun c c' b b' β hl hl' hβ hβ'=>?_,pin:=fun id hid=>?_}⟩
 ·obtain⟨t,h1,h2⟩:=cT8 ht hl
  exact cp1 hE (k.tm n t h1) h2
 ·obtain⟨i,b0,h1,h2,h3⟩:=bk5 hh hl
  rw[hE i c h2]
  exact dm8 hE (k.hp i b0 h1) h3
 ·obtain⟨i,b0,h1,h2,h3⟩:=bk5 hh hl
  rw[hE i c h2]at hβ
  exact k.own i b0 β h1 hβ
 ·obtain⟨i,b0,h1,h2,h3⟩:=bk5 hh hl
  obtain⟨i',b0',h1',h2',h3'⟩:=bk5 hh hl'
  rw[hE i c h2]at hβ
  rw[hE i' c' h2']at hβ'
  have:=k.au8 i i' b0 b0' β h1 h1' hβ hβ'
  subst this
  rw[h2]at h2'
  exact cJ3 h2'
 ·simp only[E']
  split
  ·rename_i s hs
   have:=ho.2 _ (cI5 hs)
   simp only[cx1]at this
   rcases this with h1|h1
   ·have:=ba1 h1;omega
   ·have:=bq5 h1;subst this;exact k.pin _ hid
  ·exact k.pin id hid
def bD7 (tm:List (Nat×T))(o:Oper):Option (Nat×List T):=
 match o.op with
 | .call ⟨.value f,args,_⟩=>match val tm f,by3 tm args.toList with
  |some (.fz n aQ8),some l=>some (n,l++aQ8.map .el)
  |some (.clo n c),some l=>some (n,l++c)
  |_,_=>none
 |_=>none
theorem dq1 {P:Program}{w0:World}{L:Lim}{nt:Nat}{σ:St}{S:Nat->Prop}{E:Nat->Value}{a:Act}{w:World}(h:Ok w0 L nt σ S E a w){o:Oper}{n:Nat}{l:List T}(ho:bD7 σ.tm o=some (n,l))(hn:∀vs w,(callFunc n vs).run P w= .ok (.enter n vs) w):
  ∃vs:List Value,(execOp a.eval o).run P w= .ok (.enter n vs.toArray) w/\RVL w S E vs l:=by
 obtain⟨dst,op,type,pos,aft,guard⟩:=o
 unfold bD7 at ho
 split at ho<;>try(cases ho;done)
 rename_i f args tys hop
 simp only at hop
 subst hop
 have fin:∀(ps:List Value) (aQ8:List T) (l':List T),a.eval f= .func (.func n) #[] ps.toArray->RVL w S E ps aQ8->by3 σ.tm args.toList=some l'->l=l'++aQ8->
   ∃vs:List Value,(execOp a.eval ⟨dst,.call ⟨.value f,args,tys⟩,type,pos,aft,guard⟩).run P w= .ok (.enter n vs.toArray) w/\RVL w S E vs l:=by
  intro ps aQ8 l' hx hps hl e
  subst e
  refine⟨args.toList.map a.eval++ps,?_,(cq9 h _ _ hl).append hps⟩
  have:(args.map a.eval)=(args.toList.map a.eval).toArray:=Array.ext' (by simp)
  simp only[execOp,resolve,bd5,hx,Deferred.ofValue,bx4,aY1,invoke]
  rw[hn]
  simp[this]
 split at ho<;>try(cases ho;done)
 ·rename_i n' cz5 l' hf hl
  simp only[aj7,aX2]at ho
  obtain⟨rfl,rfl⟩:=ho
  have hfv:=h.val hf
  generalize hx:a.eval f=x at hfv
  cases hfv with
  |fz _ ps _ hpl hp=>
   exact fin ps (cz5.map .el) l' hx ⟨by simpa using hpl,fun j h1 h2=>by simp only[dB9];exact(hp j h1 (by simpa using h2)).rv⟩ hl rfl
 ·rename_i n' c l' hf hl
  simp only[aj7,aX2]at ho
  obtain⟨rfl,rfl⟩:=ho
  have hfv:=h.val hf
  generalize hx:a.eval f=x at hfv
  cases hfv with
  |clo _ ps _ hpl hp=>exact fin ps c l' hx ⟨hpl,hp⟩ hl rfl
def eo6 (c:Nat)(l:List (Nat×Nat)):Bool:=l.any fun p=>bx3 p.2 c
def ar3 (lm:List (Nat×Nat)):List (Nat×H6)->List (Nat×H6)
 |[]=>[]
 |(i,b)::r=>match eo6 i lm with|true=>ar3 lm r|false=>(i,b)::ar3 lm r
theorem bI8 {lm:List (Nat×Nat)}:∀{hp:List (Nat×H6)}{i:Nat}{b:H6},look (ar3 lm hp) i=some b->look hp i=some b/\i∉lm.map (·.2)
 |[],i,b,h=>by simp[ar3,look]at h
 |(j,c)::r,i,b,h=>by
  simp only[ar3]at h
  cases hm:eo6 j lm<;>simp only[hm]at h
  ·simp only[look]at h
   by_cases hj:j=i
   ·subst hj
    simp only[bX7,fh5,aj7]at h;subst h
    refine⟨by simp[look],fun hx=>?_⟩
    obtain⟨p,hp,he⟩:=cZ1.1 hx
    unfold eo6 at hm
    rw[dB8]at hm
    exact hm p hp (by simp[he])
   ·simp only[D6 hj,fh3]at h
    have:=bI8 h
    exact⟨by simp only[look,D6 hj,fh3];exact this.1,this.2⟩
  ·have:=bI8 h
   refine⟨?_,this.2⟩
   by_cases hj:j=i
   ·subst hj
    exfalso
    unfold eo6 at hm
    rw[List.any_eq_true]at hm
    obtain⟨p,hp,he⟩:=hm
    exact this.2 (cZ1.2 ⟨p,hp,bq5 he⟩)
   ·simp only[look,D6 hj,fh3];exact this.1
def bp7 (lm nm:List (Nat×Nat))(tm:List (Nat×T))(hp:List (Nat×H6)):Bool:=
 bb7 ((lm++nm).map (·.2))&&lm.all (fun p=>dQ0 big p.1)&&nm.all (fun p=>ba2 p.2 big&&O6 p.2 tm&&O0 p.2 hp)
theorem Ok.called {w0:World}{L:Lim}{nt:Nat}{tm:List (Nat×T)}{hp chp bI5 aP2 rhp:List (Nat×H6)}{S S':Nat->Prop}{E E':Nat->Value}{a:Act}{w w':World}(k:Ok w0 L nt ⟨tm,hp⟩ S E a w){lm nm:List (Nat×Nat)}{v:Value}{t u:T}
  (hm:bp7 lm nm tm hp=true) (hr:aS4 lm chp=some aP2) (cm8:aP2.map (bF3 hp)=aP2.map (fun p=>some p.2)) {Ec:Nat->Value} (hEc:∀i j,look lm i=some j->Ec i=E j)
  (hv:RV w' S' E' v t) (aL8:aW2 (aD9 chp Ec) w w') (h1:∀b,S' b->b<w'.heap.size) (h2:∀b,S' b->S b\/aD9 chp Ec b\/w.heap.size<=b)
  (hO:ci5 w' S' E' bI5) (h3:∀β,aD9 bI5 E' β->aD9 chp Ec β\/w.heap.size<=β) (h4:∀id,big<=id->E' id=Ec id)
  (dk3:aN6 (lm++nm) t=some u) (hrhp:aS4 (lm++nm) bI5=some rhp):
  ∃S2 E2,Ok w0 L nt ⟨tm,rhp++ar3 lm hp⟩ S2 E2 a w'/\RV w' S2 E2 v u:=by
 simp only[bp7,au2,by6]at hm
 obtain⟨⟨hnd,aM8⟩,hfr⟩:=hm
 rw[eK7]at hnd
 obtain⟨nd1,nd2,ndx⟩:=nodup_append hnd
 have cf5:∀p∈aP2,∃b',look hp p.1=some b'/\cn7 b' p.2=p.2:=by
  intro p hp'
  obtain⟨n,hn,rfl⟩:=da7.1 hp'
  have:(aP2.map (bF3 hp))[n]? =(aP2.map (fun p=>some p.2))[n]?:=by rw[cm8]
  rw[cM9,cM9,aJ9 hn]at this
  simp only[cb0,aj7]at this
  unfold bF3 at this
  split at this
  ·rename_i b' hb';exact⟨b',hb',cJ3 this⟩
  ·cases this
 have bK0:∀β,aD9 chp Ec β->∃i j b',look lm i=some j/\look hp j=some b'/\U5 (E j)=some β:=by
  rintro β ⟨i,b,hb,hβ⟩
  obtain⟨j,b',e1,e2,e3⟩:=bt1 hr hb
  obtain⟨b0,e4,_⟩:=cf5 _ e3
  exact⟨i,j,b0,e1,e4,by rw[<-hEc i j e1];exact hβ⟩
 have cn1:∀β,aD9 chp Ec β->¬S β/\β<w.heap.size/\(w0.heap.size<=β\/L.bK0 β):=fun β hl=>by
  obtain⟨i,j,b',_,e2,e3⟩:=bK0 β hl
  exact k.own j b' β e2 e3
 have tgt:∀{i j:Nat},look lm i=some j->j∈lm.map (·.2):=fun h=>cZ1.2 ⟨_,bn6 h,rfl⟩
 have hS:∀b,S b->w'.heap[b]? =w.heap[b]?:=fun b hb=>aL8.block b (k.aH4 b hb) (fun hl=>(cn1 b hl).1 hb)
 have hsz:=aL8.size
 have hsz0:=k.keep.size
 let E2:Nat->Value:=fun c=>match rev nm c with|some s=>E' s|none=>E c
 have cN9:∀c,c∉nm.map (·.2)->E2 c=E c:=fun c hc=>by simp[E2,dy6 hc]
 have cI2:∀c,c∈nm.map (·.2)->c<big/\O6 c tm=true/\O0 c hp=true:=fun c hc=>by
  obtain⟨p,hp',rfl⟩:=cZ1.1 hc
  obtain⟨⟨f1,f2⟩,f3⟩:=by simpa using hfr p hp'
  exact⟨by simpa using f1,f2,f3⟩
 have hE2:∀i j,look (lm++nm) i=some j->E2 j=E' i:=by
  intro i j hl
  rw[aS0]at hl
  cases hli:look lm i with
  |some j'=>
   simp only[hli,aj7]at hl
   subst hl
   rw[cN9 j' (ndx j' (tgt hli)),h4 i (ba1 (aM8 _ (bn6 hli))),hEc i j' hli]
  |none=>
   simp only[hli]at hl
   simp[E2,bF7 nd2 hl]
 refine⟨fun b=>S b\/S' b,E2,?_,(cp1 hE2 hv dk3).mono (fun _ x=>.inr x) (fun _ _=>rfl) (fun _ _=>rfl)⟩
 have nameTm:∀n x,look tm n=some x->∀id,names id x=true->E2 id=E id:=fun n x hx id hid=>cN9 id fun hc=>by
  have:=bc7 (cI2 id hc).2.1 n x hx;rw[this]at hid;cases hid
 have dN9:∀{c b},look rhp c=some b->∃i b0,look bI5 i=some b0/\look (lm++nm) i=some c/\bT9 (lm++nm) b0=some b:=fun h=>bk5 hrhp h
 have dt4:∀{c b},look (ar3 lm hp) c=some b->look hp c=some b/\c∉lm.map (·.2)/\E2 c=E c:=fun{c b} h=>by
  have:=bI8 h
  exact⟨this.1,this.2,cN9 c fun hc=>(aA9 (cI2 c hc).2.2 c b this.1).1 rfl⟩
 have blkA:∀{c b β},look rhp c=some b->U5 (E2 c)=some β->aD9 bI5 E' β/\¬S' β/\β<w'.heap.size:=fun{c b β} h hβ=>by
  obtain⟨i,b0,e1,e2,e3⟩:=dN9 h
  rw[hE2 i c e2]at hβ
  exact⟨⟨i,b0,e1,hβ⟩,hO.own i b0 β e1 hβ⟩
 have dl5:∀{c b β},look hp c=some b->c∉lm.map (·.2)->U5 (E c)=some β->¬aD9 chp Ec β:=fun{c b β} h hc hβ hl=>by
  obtain⟨i,j,b',e1,e2,e3⟩:=bK0 β hl
  have:=k.au8 c j b b' β h e2 hβ e3
  subst this
  exact hc (tgt e1)
 exact{
  keep:=k.keep.trans aL8 (fun x hx=>(cn1 x hx).2.2.symm)
  aH4:=fun b hb=>hb.elim (fun h=>dN6 (k.aH4 b h) hsz) (h1 b)
  base:=fun b hb=>by
   rcases hb with hb|hb
   ·exact k.base b hb
   ·rcases h2 b hb with h5|h5|h5
    ·exact k.base b h5
    ·exact .inr ((cn1 b h5).2.2.symm)
    ·exact .inr (.inr (Nat.le_trans hsz0 h5))
  size:=k.size
  defers:=k.defers
  tm:=fun n x hx=>(k.tm n x hx).mono (fun _ x=>.inl x) hS (nameTm n x hx)
  hp:=fun c b hl=>by
   simp only at hl
   rw[aS0]at hl
   cases hA:look rhp c with
   |some b0=>
    simp only[hA,aj7]at hl
    subst hl
    obtain⟨i,b1,e1,e2,e3⟩:=dN9 hA
    rw[hE2 i c e2]
    exact(dm8 hE2 (hO.blk i b1 e1) e3).mono (fun _ x=>.inr x) (fun _ _=>rfl) (fun _ _=>rfl) (fun _ _=>rfl)
   |none=>
    simp only[hA]at hl
    obtain⟨e1,e2,e3⟩:=dt4 hl
    rw[e3]
    exact(k.hp c b e1).mono (fun _ x=>.inl x) hS (fun β hβ=>aL8.block β (k.own c b β e1 hβ).2.1 (dl5 e1 e2 hβ)) fun id hid=>cN9 id fun hc=>by
     have:=(aA9 (cI2 id hc).2.2 c b e1).2;rw[this]at hid;cases hid
  own:=fun c b β hl hβ=>by
   simp only at hl
   rw[aS0]at hl
   cases hA:look rhp c with
   |some b0=>
    obtain⟨e1,e2,e3⟩:=blkA hA hβ
    rcases h3 β e1 with h5|h5
    ·exact⟨fun hx=>hx.elim (cn1 β h5).1 e2,e3,(cn1 β h5).2.2⟩
    ·exact⟨fun hx=>hx.elim (fun h6=>absurd (k.aH4 β h6) (fc9.2 h5)) e2,e3,.inl (Nat.le_trans hsz0 h5)⟩
   |none=>
    simp only[hA]at hl
    obtain⟨e1,e2,e3⟩:=dt4 hl
    rw[e3]at hβ
    have:=k.own c b β e1 hβ
    refine⟨fun hx=>hx.elim this.1 fun h6=>?_,dN6 this.2.1 hsz,this.2.2⟩
    rcases h2 β h6 with h7|h7|h7
    ·exact this.1 h7
    ·exact dl5 e1 e2 hβ h7
    ·exact absurd this.2.1 (fc9.2 h7)
  au8:=fun c c' b b' β hl hl' hβ hβ'=>by
   simp only at hl hl'
   rw[aS0]at hl hl'
   have cz7:∀{c c' b b'},look rhp c=some b->look (ar3 lm hp) c'=some b'->U5 (E2 c)=some β->U5 (E2 c')=some β->False:=fun{c c' b b'} hA hB q1 q2=>by
    obtain⟨e1,e2,e3⟩:=blkA hA q1
    obtain⟨f1,f2,f3⟩:=dt4 hB
    rw[f3]at q2
    rcases h3 β e1 with h5|h5
    ·exact dl5 f1 f2 q2 h5
    ·exact absurd (k.own c' b' β f1 q2).2.1 (fc9.2 h5)
   cases hA:look rhp c with
   |some b0=>
    cases hA':look rhp c' with
    |some b0'=>
     obtain⟨i,b1,e1,e2,e3⟩:=dN9 hA
     obtain⟨i',b1',e1',e2',e3'⟩:=dN9 hA'
     rw[hE2 i c e2]at hβ
     rw[hE2 i' c' e2']at hβ'
     have:=hO.au8 i i' b1 b1' β e1 e1' hβ hβ'
     subst this
     rw[e2]at e2'
     exact cJ3 e2'
    |none=>
     simp only[hA']at hl'
     exact(cz7 hA hl' hβ hβ').elim
   |none=>
    simp only[hA]at hl
    cases hA':look rhp c' with
    |some b0'=>exact(cz7 hA' hl hβ' hβ).elim
    |none=>
     simp only[hA']at hl'
     obtain⟨e1,_,e3⟩:=dt4 hl
     obtain⟨e1',_,e3'⟩:=dt4 hl'
     rw[e3]at hβ
     rw[e3']at hβ'
     exact k.au8 c c' b b' β e1 e1' hβ hβ'
  pin:=fun id hid=>by
   rw[cN9 id fun hc=>by have:=(cI2 id hc).1;omega]
   exact k.pin id hid}
section
variable {ρ τ:Type} {X:Cx} {ks:List K} {tm tm':List (Nat × T)} {hp hp':List (Nat × H6)} {m:Option ρ} {Q:ρ -> Exit -> St -> Prop}
theorem ad0.ren {e':Exit}(h:List (Nat×Nat))(ho:cC6 h=true)(ht:cT7 h tm=some tm')(hh:aS4 h hp=some hp')(k:ad0 X ks e' ⟨tm',hp'⟩ m Q):ad0 X ks e' ⟨tm,hp⟩ m Q:=fun r hr a w ⟨S,E,hw⟩=>by
 obtain⟨E',h'⟩:=hw.ren h ho ht hh
 exact k r hr a w ⟨S,E',h'⟩
end
theorem cB7 {α:Type}:∀{h:List (Nat×α)}{a:Nat}{b:α},bb7 (h.map (·.1))=true->(a,b)∈h->look h a=some b
 |[],a,b,_,hm=>by simp at hm
 |(x,y)::r,a,b,hn,hm=>by
  simp only[cX5,bb7,au2,bZ6]at hn
  rcases cr6.1 hm with h1|h1
  ·simp only[aX2]at h1;obtain⟨rfl,rfl⟩:=h1;simp[look]
  ·have hne:x≠a:=fun e=>any_beq hn.1 (e▸cZ1.2 ⟨(a,b),h1,rfl⟩)
   simp only[look,D6 hne,fh3]
   exact cB7 hn.2 h1
def eA6 (D5:Tab)(σ:St)(l:List ResultVar):Option T:=
 match bm0 D5 σ l with
 |some [x]=>some x
 |some l=>some (.S9 l)
 |none=>none
theorem eA7 {P : Program} {D5 : Tab} (M7 : aV6 P D5) {σ : St} {w0 : World} {L : Lim} {nt : Nat} {S : Nat -> Prop} {E : Nat -> Value} {a : Act} {w : World} (h : Ok w0 L nt σ S E a w) {fn : Func} {t : T}
    (hr : eA6 D5 σ fn.results.toList = some t) : ∃ v, (results fn a.tmps).run P w = .ok v w /\ RV w S E v t := by
  unfold eA6 at hr
  cases hl : bm0 D5 σ fn.results.toList with
  | none => simp [hl] at hr
  | some l =>
    obtain ⟨vs, h1, h2⟩ := bL2 M7 h _ _ hl
    have hm : (fn.results.mapM (cg8 a.tmps)).run P w = .ok vs.toArray w := by
      rw [Array.mapM_eq_mapM_toList, Sem.run_map, h1]; rfl
    have bf7 : (results fn a.tmps).run P w = .ok (if h : vs.toArray.size = 1 then vs.toArray[0] else .tuple vs.toArray) w := by
      show (do let vs <- fn.results.mapM (cg8 a.tmps); pure (if h : vs.size = 1 then vs[0] else .tuple vs) : Sem Value).run P w = _
      rw [bd5, hm]
      rfl
    refine ⟨_, bf7, ?_⟩
    rw [hl] at hr
    have hlen := h2.1
    match l, hr, hlen with
    | [x], hr, hlen =>
      match vs, hlen, h2 with
      | [v], _, h2 =>
        simp only [aj7] at hr
        subst hr
        exact h2.2 0 (fe3) (fe3)
    | [], hr, hlen =>
      simp only [aj7] at hr
      subst hr
      match vs, hlen with
      | [], _ => exact .S9 [] [] rfl fun j h1 => by simp at h1
    | x :: y :: l, hr, hlen =>
      simp only [aj7] at hr
      subst hr
      have hsz : ¬ vs.toArray.size = 1 := by simp at hlen |-; omega
      rw [dif_neg hsz]
      exact .S9 vs _ h2.1 h2.2
def eA5 (nm:List (Nat×Nat))(hp:List (Nat×H6))(p:Nat×H6):Option H6:=
 match rev nm p.1 with
 |some s=>match look hp s with
  |some b=>match bT9 nm b with
   |some c=>some (cn7 c p.2)
   |none=>none
  |none=>none
 |none=>none
def eL3 (D5:Tab)(σ:St)(rs:List ResultVar)(t:T)(bl:List (Nat×H6)):Prop:=
 ∃(nm:List (Nat×Nat)) (t0 t1:T),(cC6 nm&&bb7 (nm.map (·.1)))=true/\eA6 D5 σ rs=some t0/\aN6 nm t0=some t1/\mrg t1 t=t/\bl.map (eA5 nm σ.hp)=bl.map (fun p=>some p.2)
theorem bh9.intro {τ:Type}{P:Program}{D5:Tab}(M7:aV6 P D5){n:Nat}{fn:Func}{c:Code}{args:List T}{hp:List (Nat×H6)}{m:Option τ}{res:τ->T}{hp':τ->List (Nat×H6)}(nt:Nat)(rs:List ResultVar)
  (aL7:∀vs w,(callFunc n vs).run P w= .ok (.enter n vs) w) (hf:P.funcs[n]? =some fn) (hb:fn.body=some c) (hnt:fn.ntmps=nt) (hrs:fn.results.toList=rs) (hsz:args.length<=nt)
  (body:∀(w0:World) (L:Lim),F9 ⟨P,D5,M7,w0,L,nt⟩ [.c c] ⟨number 0 args,hp⟩ m (fun r e σ'=>(e= .ret\/e= .normal)/\eL3 D5 σ' rs (res r) (hp' r))):bh9 P n args hp m res hp':=by
 refine⟨aL7,fun r hr w S E vs hS hO hv=>?_⟩
 refine calls_of_wp hf hb ?_
 have h:=body w ⟨aD9 hp E,S,E⟩ r hr ⟨vs.toArray++fd6 (fn.ntmps-vs.toArray.size) undef,[]⟩ w ⟨S,E,{
  keep:=aW2.refl _ _,aH4:=hS,base:=fun b hb=>.inl hb,size:=by have:=hv.1;simp;omega,defers:=rfl,
  tm:=fun k t ht=>by
   obtain⟨_,hk⟩:=bT2 args 0 k t ht
   simp only[Nat.sub_zero]at hk
   obtain⟨hlt,rfl⟩:=bD8.1 hk
   have du0:k<vs.length:=by have:=hv.1;omega
   have:=hv.2 k du0 hlt
   simpa[Array.getElem?_append,du0]using this
  hp:=hO.blk
  own:=fun id b β hb hβ=>⟨(hO.own id b β hb hβ).1,(hO.own id b β hb hβ).2,.inr ⟨id,b,hb,hβ⟩⟩
  au8:=hO.au8
  pin:=fun _ _=>rfl}⟩
 refine wp_mono h fun e a' w' ⟨σ',⟨S',E1,hk⟩,he,nm,t0,t1,hok,ht0,ht1,hmr,hbl⟩=>?_
 rw[<-hrs]at ht0
 obtain⟨v,hv1,hv2⟩:=eA7 M7 hk ht0
 simp only[au2,cC6,by6]at hok
 obtain⟨⟨hnd,hbg⟩,hkeys⟩:=hok
 let E2:Nat->Value:=fun c=>match rev nm c with|some s=>E1 s|none=>E1 c
 have hE:∀i j,look nm i=some j->E2 j=E1 i:=fun i j hl=>by simp[E2,bF7 hnd hl]
 have cf5:∀id b,look (hp' r) id=some b->∃s b0 c,rev nm id=some s/\look nm s=some id/\look σ'.hp s=some b0/\bT9 nm b0=some c/\cn7 c b=b:=by
  intro id b hl
  obtain⟨n,hn,hx⟩:=da7.1 (bn6 hl)
  have:((hp' r).map (eA5 nm σ'.hp))[n]? =((hp' r).map (fun p=>some p.2))[n]?:=by rw[hbl]
  rw[cM9,cM9,aJ9 hn,hx]at this
  simp only[cb0,aj7]at this
  unfold eA5 at this
  split at this<;>try(cases this;done)
  rename_i s hs
  split at this<;>try(cases this;done)
  rename_i b0 hb0
  split at this<;>try(cases this;done)
  rename_i c hc
  exact⟨s,b0,c,hs,cB7 hkeys (cI5 hs),hb0,hc,cJ3 this⟩
 have fin:a'.defers=[]/\∃v,(results fn a'.tmps).run P w'= .ok v w'/\∃v' S'' E'',Ending.returned v= .returned v'/\RV w' S'' E'' v' (res r)/\aW2 (aD9 hp E) w w'/\(∀b,S'' b->b<w'.heap.size)/\(∀b,S'' b->S b\/aD9 hp E b\/w.heap.size<=b)/\
   ci5 w' S'' E'' (hp' r)/\(∀β,aD9 (hp' r) E'' β->aD9 hp E β\/w.heap.size<=β)/\(∀id,big<=id->E'' id=E id):=by
  refine⟨hk.defers,v,hv1,v,S',E2,rfl,?_,hk.keep,hk.aH4,fun b hb=>hk.base b hb,⟨fun id b hl=>?_,fun id b β hl hβ=>?_,fun id id' b b' β hl hl' hβ hβ'=>?_⟩,fun β hl=>?_,fun id hid=>?_⟩
  ·have:=dH8 (u:=res r) (cp1 hE hv2 ht1)
   rw[hmr]at this
   exact this
  ·obtain⟨s,b0,c,e1,e2,e3,e4,e5⟩:=cf5 id b hl
   have:=dl1 (u:=b) (dm8 hE (hk.hp s b0 e3) e4)
   rw[e5]at this
   rw[hE s id e2]
   exact this
  ·obtain⟨s,b0,c,e1,e2,e3,e4,e5⟩:=cf5 id b hl
   rw[hE s id e2]at hβ
   have:=hk.own s b0 β e3 hβ
   exact⟨this.1,this.2.1⟩
  ·obtain⟨s,b0,c,e1,e2,e3,e4,e5⟩:=cf5 id b hl
   obtain⟨s',b0',c',e1',e2',e3',e4',e5'⟩:=cf5 id' b' hl'
   rw[hE s id e2]at hβ
   rw[hE s' id' e2']at hβ'
   have:=hk.au8 s s' b0 b0' β e3 e3' hβ hβ'
   subst this
   rw[e2]at e2'
   exact cJ3 e2'
  ·obtain⟨id,b,hl,hβ⟩:=hl
   obtain⟨s,b0,c,e1,e2,e3,e4,e5⟩:=cf5 id b hl
   rw[hE s id e2]at hβ
   exact(hk.own s b0 β e3 hβ).2.2.symm
  ·simp only[E2]
   split
   ·rename_i s hs
    have:=hbg _ (cI5 hs)
    simp only[cx1]at this
    rcases this with h1|h1
    ·have:=ba1 h1;omega
    ·have:=bq5 h1;subst this;exact hk.pin _ hid
   ·exact hk.pin id hid
 rcases he with rfl|rfl<;>exact fin
def bL3 (id:Nat):List Nat->T->Option T
 |[],.t (.v (.slice none 0 0))=>some (.own id)
 |i::p,.agg l=>match l[i]?with
  |some x=>match bL3 id p x with
   |some y=>some (.agg (l.set i y))
   |none=>none
  |none=>none
 |i::p,.S9 l=>match l[i]?with
  |some x=>match bL3 id p x with
   |some y=>some (.S9 (l.set i y))
   |none=>none
  |none=>none
 |_,_=>none
theorem RVL.set {w:World}{S:Nat->Prop}{E:Nat->Value}{vs:List Value}{l:List T}{i:Nat}{y:T}(h:RVL w S E vs l)(hi:i<vs.length)(hy:RV w S E (vs[i]) y):RVL w S E vs (l.set i y):=by
 refine⟨by simp[h.1],fun j h1 h2=>?_⟩
 rw[eX2]
 split
 ·rename_i e;subst e;exact hy
 ·exact h.2 j h1 (by simpa using h2)
theorem bX4 {w:World}{S:Nat->Prop}{E:Nat->Value}{id:Nat}(hE:E id= .slice none 0 0):∀{p:List Nat}{t u:T}{v:Value},RV w S E v t->bL3 id p t=some u->RV w S E v u
 |[],t,u,v,hv,hs=>by
  unfold bL3 at hs
  split at hs<;>try(cases hs;done)
  ·simp only[aj7]at hs;subst hs
   have:=hv.tv
   subst this
   exact .own id _ hE
  ·rename_i heq;cases heq
  ·rename_i heq;cases heq
 |i::p,t,u,v,hv,hs=>by
  unfold bL3 at hs
  split at hs
  ·rename_i heq;cases heq
  ·rename_i i' p' l heq
   cases heq
   split at hs<;>try(cases hs;done)
   rename_i x hx
   split at hs<;>try(cases hs;done)
   rename_i y hy
   simp only[aj7]at hs;subst hs
   obtain⟨hi,rfl⟩:=bD8.1 hx
   cases hv with
   |agg vs _ hl hr=>
    have:=RVL.set (w:=w) (S:=S) (E:=E) (vs:=vs) (l:=l) ⟨hl,hr⟩ (by omega) (bX4 hE (hr i (by omega) hi) hy)
    exact .agg vs _ this.1 this.2
  ·rename_i i' p' l heq
   cases heq
   split at hs<;>try(cases hs;done)
   rename_i x hx
   split at hs<;>try(cases hs;done)
   rename_i y hy
   simp only[aj7]at hs;subst hs
   obtain⟨hi,rfl⟩:=bD8.1 hx
   cases hv with
   |S9 vs _ hl hr=>
    have:=RVL.set (w:=w) (S:=S) (E:=E) (vs:=vs) (l:=l) ⟨hl,hr⟩ (by omega) (bX4 hE (hr i (by omega) hi) hy)
    exact .S9 vs _ this.1 this.2
  ·cases hs
theorem Ok.eD9 {w0:World}{L:Lim}{nt:Nat}{tm:List (Nat×T)}{hp:List (Nat×H6)}{S:Nat->Prop}{E:Nat->Value}{a:Act}{w:World}(h:Ok w0 L nt ⟨tm,hp⟩ S E a w){id e sz:Nat}(aM8:ba2 id big=true)(hft:O6 id tm=true)(hfb:O0 id hp=true):
  ∃E',E' id= .slice none 0 0/\Ok w0 L nt ⟨tm,(id,.rows e sz 0 [])::hp⟩ S E' a w:=
 h.cT6 (v:=.slice none 0 0) (v':=.slice none 0 0) (b:=.rows e sz 0 []) aM8 hft hfb (fun β hβ=>by simp[U5]at hβ) (fun i blk β _ h1=>by simp[U5]at h1)
  (aW2.refl _ w) (fun β hβ=>by simp[U5]at hβ) (fun E'=>⟨rfl,.inl ⟨rfl,rfl⟩⟩)
section
variable {ρ τ:Type} {X:Cx} {ks:List K} {tm tm':List (Nat × T)} {hp hp':List (Nat × H6)} {m:Option ρ} {Q:ρ -> Exit -> St -> Prop}
theorem ad0.eD9 {e':Exit}(k id e sz:Nat)(path:List Nat){t u:T}(hk:look tm k=some t)(hu:bL3 id path t=some u)(aM8:ba2 id big=true)(hft:O6 id tm=true)(hfb:O0 id hp=true)
  (h:ad0 X ks e' ⟨(k,u)::tm,(id,.rows e sz 0 [])::hp⟩ m Q):ad0 X ks e' ⟨tm,hp⟩ m Q:=fun r hr a w ⟨S,E,hw⟩=>by
 obtain⟨E',hE,hok⟩:=hw.eD9 (e:=e) (sz:=sz) aM8 hft hfb
 refine h r hr a w ⟨S,E',{hok with tm:=fun j t' ht=>?_}⟩
 simp only[look]at ht
 by_cases hj:k=j
 ·subst hj
  simp only[bX7,fh5,aj7]at ht
  subst ht
  exact bX4 hE (hok.tm k t hk) hu
 ·simp only[D6 hj,fh3]at ht
  exact hok.tm j t' ht
theorem ad0.ff7 {e':Exit}(b id e sz:Nat)(path:List Nat){ts us:List T}(hk:look hp b=some (.box ts))(hu:bL3 id path (.agg ts)=some (.agg us))(aM8:ba2 id big=true)(hft:O6 id tm=true)(hfb:O0 id hp=true)
  (h:ad0 X ks e' ⟨tm,(id,.rows e sz 0 [])::au9 hp b (.box us)⟩ m Q):ad0 X ks e' ⟨tm,hp⟩ m Q:=fun r hr a w ⟨S,E,hw⟩=>by
 obtain⟨E',hE,hok⟩:=hw.eD9 (e:=e) (sz:=sz) aM8 hft hfb
 have hne:id≠b:=fun e=>(aA9 hfb b _ hk).1 e.symm
 have lk:∀i blk,look ((id,H6.rows e sz 0 [])::au9 hp b (.box us)) i=some blk->∃dh1,look ((id,H6.rows e sz 0 [])::hp) i=some dh1/\(blk=dh1\/(i=b/\blk= .box us)):=by
  intro i blk hl
  simp only[look]at hl|-
  by_cases hi:id=i
  ·subst hi;simp only[bX7,fh5]at hl|-;exact⟨blk,hl,.inl rfl⟩
  ·simp only[D6 hi,fh3]at hl|-
   rw[aF3]at hl
   by_cases hb:b=i
   ·subst hb;simp only[if_true,hk,cb0,aj7]at hl;exact⟨_,hk,.inr ⟨rfl,hl.symm⟩⟩
   ·simp only[hb,if_false]at hl;exact⟨blk,hl,.inl rfl⟩
 refine h r hr a w ⟨S,E',{hok with
  hp:=fun i blk hl=>?_
  own:=fun i blk β hl hβ=>by obtain⟨dh1,h0,_⟩:=lk i blk hl;exact hok.own i dh1 β h0 hβ
  au8:=fun i i' blk cs5 β hl hl' hβ hβ'=>by
   obtain⟨dh1,h0,_⟩:=lk i blk hl
   obtain⟨blk0',h0',_⟩:=lk i' cs5 hl'
   exact hok.au8 i i' dh1 blk0' β h0 h0' hβ hβ'}⟩
 obtain⟨dh1,h0,h1⟩:=lk i blk hl
 have hb0:=hok.hp i dh1 h0
 rcases h1 with rfl|⟨rfl,rfl⟩
 ·exact hb0
 ·have:dh1= .box ts:=by
   simp only[look,D6 hne,fh3]at h0
   rw[hk]at h0;exact(cJ3 h0).symm
  subst this
  obtain⟨β,vs,elem,g1,g2,g3,g4,g5⟩:=hb0
  have:=bX4 (w:=w) (S:=S) (p:=path) hE (.agg vs ts g3 g4) hu
  generalize hvs:Value.agg vs.toArray=v at this
  cases this with
  |agg vs' _ k1 k2=>
   simp only[Value.agg.injEq]at hvs
   have:vs=vs':=by simpa using congrArg Array.toList hvs
   subst this
   exact⟨β,vs,elem,g1,g2,k1,k2,g5⟩
end
mutual
def elT (id:Nat)(c:List Tree):T->T
 | .ptr i off=>bif bx3 i id then .el (c.drop off)else .ptr i off
 | .agg l=>.agg (elL id c l)
 | .S9 l=>.S9 (elL id c l)
 | .clo f l=>.clo f (elL id c l)
 |x=>x
def elL (id:Nat)(c:List Tree):List T->List T
 |[]=>[]
 |x::r=>elT id c x::elL id c r
end
def dV6 (id:Nat)(c:List Tree):List (Nat×T)->List (Nat×T)
 |[]=>[]
 |(k,x)::r=>(k,elT id c x)::dV6 id c r
def cv1 (id:Nat)(c:List Tree):List (Nat×H6)->List (Nat×H6)
 |[]=>[]
 |(k,.box l)::r=>bif bx3 k id then cv1 id c r else(k,.box (elL id c l))::cv1 id c r
 |(k,x)::r=>bif bx3 k id then cv1 id c r else(k,x)::cv1 id c r
section
variable {w:World} {S S':Nat -> Prop} {E:Nat -> Value} {id:Nat} {c:List Tree}
mutual
theorem ek5 (hS:∀b,S b->S' b)(hu:∀β off,E id= .pointer (some ⟨β,0,none⟩)->PF w S' (.pointer (some ⟨β,off,none⟩)) (c.drop off)):∀{t:T}{v:Value},RV w S E v t->RV w S' E v (elT id c t)
 | .t x,v,h=>by simp only[elT];exact h.mono hS (fun _ _=>rfl) (fun _ _=>rfl)
 | .el c,v,h=>by simp only[elT];exact h.mono hS (fun _ _=>rfl) (fun _ _=>rfl)
 | .own i,v,h=>by simp only[elT];exact h.mono hS (fun _ _=>rfl) (fun _ _=>rfl)
 | .pe i a b c,v,h=>by simp only[elT];exact h.mono hS (fun _ _=>rfl) (fun _ _=>rfl)
 | .vw i a b c,v,h=>by simp only[elT];exact h.mono hS (fun _ _=>rfl) (fun _ _=>rfl)
 | .fz n c,v,h=>by simp only[elT];exact h.mono hS (fun _ _=>rfl) (fun _ _=>rfl)
 | .any,v,h=>by simp only[elT];exact .any v
 | .ptr i off,v,h=>by
  simp only[elT]
  by_cases hi:i=id
  ·subst hi
   simp only[bX7,fh5]
   cases h with|ptr _ _ β hE=>exact(hu β off hE).rv
  ·simp only[D6 hi,fh3];exact h.mono hS (fun _ _=>rfl) (fun _ _=>rfl)
 | .agg l,v,h=>by
  simp only[elT]
  cases h with|agg vs _ hl hr=>have:=cO1 hS hu (l:=l) (vs:=vs) ⟨hl,hr⟩;exact .agg vs _ this.1 this.2
 | .S9 l,v,h=>by
  simp only[elT]
  cases h with|S9 vs _ hl hr=>have:=cO1 hS hu (l:=l) (vs:=vs) ⟨hl,hr⟩;exact .S9 vs _ this.1 this.2
 | .clo f l,v,h=>by
  simp only[elT]
  cases h with|clo _ vs _ hl hr=>have:=cO1 hS hu (l:=l) (vs:=vs) ⟨hl,hr⟩;exact .clo f vs _ this.1 this.2
theorem cO1 (hS:∀b,S b->S' b)(hu:∀β off,E id= .pointer (some ⟨β,0,none⟩)->PF w S' (.pointer (some ⟨β,off,none⟩)) (c.drop off)):∀{l:List T}{vs:List Value},RVL w S E vs l->RVL w S' E vs (elL id c l)
 |[],vs,h=>⟨h.1,fun j _ h2=>by simp[elL]at h2⟩
 |x::l,vs,h=>by
  cases vs with
  |nil=>have:=h.1;simp at this
  |cons v vs=>
   have h1:=ek5 hS hu (t:=x) (h.2 0 (by simp) (by simp))
   have h2:=cO1 hS hu (l:=l) (vs:=vs) ⟨by simpa using h.1,fun j a b=>h.2 (j+1) (by simpa using a) (by simpa using b)⟩
   refine⟨by simp[elL,h2.1],fun j a b=>?_⟩
   cases j with
   |zero=>exact h1
   |succ j=>exact h2.2 j (by simpa using a) (by simpa[elL]using b)
end
end
theorem db9 (id:Nat)(c:List Tree):∀(l:List (Nat×T)) (k:Nat),look (dV6 id c l) k=(look l k).map (elT id c)
 |[],k=>rfl
 |(j,x)::r,k=>by
  simp only[dV6,look]
  by_cases hj:j=k
  ·subst hj;simp
  ·simp[D6 hj,db9 id c r k]
theorem aF1 (id:Nat)(c:List Tree):∀(l:List (Nat×H6)) (k:Nat) (b:H6),look (cv1 id c l) k=some b->k≠id/\∃b0,look l k=some b0/\(match b0 with| .box ts=>b= .box (elL id c ts)|x=>b=x)
 |[],k,b,h=>by simp[cv1,look]at h
 |(j,.box ts)::r,k,b,h=>by
  simp only[cv1]at h
  by_cases hj:j=id
  ·subst hj
   simp only[bX7,fh5]at h
   obtain⟨h1,b0,h2,h3⟩:=aF1 j c r k b h
   exact⟨h1,b0,by simp only[look,D6 (Ne.symm h1),fh3];exact h2,h3⟩
  ·simp only[D6 hj,fh3,look]at h
   by_cases hk:j=k
   ·subst hk
    simp only[bX7,fh5,aj7]at h
    exact⟨hj,.box ts,by simp[look],h.symm⟩
   ·simp only[D6 hk,fh3]at h
    obtain⟨h1,b0,h2,h3⟩:=aF1 id c r k b h
    exact⟨h1,b0,by simp only[look,D6 hk,fh3];exact h2,h3⟩
 |(j,.rows e sz n rs)::r,k,b,h=>by
  simp only[cv1]at h
  by_cases hj:j=id
  ·subst hj
   simp only[bX7,fh5]at h
   obtain⟨h1,b0,h2,h3⟩:=aF1 j c r k b h
   exact⟨h1,b0,by simp only[look,D6 (Ne.symm h1),fh3];exact h2,h3⟩
  ·simp only[D6 hj,fh3,look]at h
   by_cases hk:j=k
   ·subst hk
    simp only[bX7,fh5,aj7]at h
    subst h
    exact⟨hj,.rows e sz n rs,by simp[look],rfl⟩
   ·simp only[D6 hk,fh3]at h
    obtain⟨h1,b0,h2,h3⟩:=aF1 id c r k b h
    exact⟨h1,b0,by simp only[look,D6 hk,fh3];exact h2,h3⟩
 |(j,.mp es)::r,k,b,h=>by
  simp only[cv1]at h
  by_cases hj:j=id
  ·subst hj
   simp only[bX7,fh5]at h
   obtain⟨h1,b0,h2,h3⟩:=aF1 j c r k b h
   exact⟨h1,b0,by simp only[look,D6 (Ne.symm h1),fh3];exact h2,h3⟩
  ·simp only[D6 hj,fh3,look]at h
   by_cases hk:j=k
   ·subst hk
    simp only[bX7,fh5,aj7]at h
    subst h
    exact⟨hj,.mp es,by simp[look],rfl⟩
   ·simp only[D6 hk,fh3]at h
    obtain⟨h1,b0,h2,h3⟩:=aF1 id c r k b h
    exact⟨h1,b0,by simp only[look,D6 hk,fh3];exact h2,h3⟩
 |(j,.rv y e sz n rs)::r,k,b,h=>by
  simp only[cv1]at h
  by_cases hj:j=id
  ·subst hj
   simp only[bX7,fh5]at h
   obtain⟨h1,b0,h2,h3⟩:=aF1 j c r k b h
   exact⟨h1,b0,by simp only[look,D6 (Ne.symm h1),fh3];exact h2,h3⟩
  ·simp only[D6 hj,fh3,look]at h
   by_cases hk:j=k
   ·subst hk
    simp only[bX7,fh5,aj7]at h
    subst h
    exact⟨hj,.rv y e sz n rs,by simp[look],rfl⟩
   ·simp only[D6 hk,fh3]at h
    obtain⟨h1,b0,h2,h3⟩:=aF1 id c r k b h
    exact⟨h1,b0,by simp only[look,D6 hk,fh3];exact h2,h3⟩
theorem Ok.dG1 {w0:World}{L:Lim}{nt:Nat}{tm:List (Nat×T)}{hp:List (Nat×H6)}{S:Nat->Prop}{E:Nat->Value}{a:Act}{w:World}(hk:Ok w0 L nt ⟨tm,hp⟩ S E a w)(id:Nat){ts:List T}{c:List Tree}(hb:look hp id=some (.box ts))(hc:trees ts=some c):
  ∃S',Ok w0 L nt ⟨dV6 id c tm,cv1 id c hp⟩ S' E a w:=by
 let S':Nat->Prop:=fun b=>S b\/U5 (E id)=some b
 have hS:∀b,S b->S' b:=fun _ x=>.inl x
 obtain⟨β,vs,elem,hE,hh,hl,hr,h1⟩:=hk.hp id _ hb
 have hβ:U5 (E id)=some β:=by rw[hE];rfl
 have htr:=cq7 hc
 have hlen:ts.length=c.length:=by have:=congrArg fd2 htr;simpa using this
 have hu:∀β' off,E id= .pointer (some ⟨β',0,none⟩)->PF w S' (.pointer (some ⟨β',off,none⟩)) (c.drop off):=by
  intro β' off hE'
  rw[hE]at hE'
  cases hE'
  refine⟨β,off,fun j=>vs.getD (off+j) undef,rfl,.inr hβ,fun j hj=>?_,fun j hj=>?_⟩
  ·simp only[do0]at hj
   rw[cell_of_row w β _ _ elem _ hh]
   have:off+j<vs.length:=by omega
   simp[this]
  ·simp only[do0]at hj
   have h3:off+j<vs.length:=by omega
   have h4:=dl4 (hr (off+j) h3 (by omega))
   have h5:cR5 (ts[off+j]'(by omega))=T.t (c[off+j]'(by omega)):=by
    have h6:(ts.map cR5)[off+j]? =(c.map T.t)[off+j]?:=by rw[htr]
    rw[cM9,cM9,aJ9 (by omega),aJ9 (by omega)]at h6
    simpa using h6
   rw[h5]at h4
   simp only[dj0,aJ9 h3,ey3,ex8]
   exact h4.eK5.mono hS (fun _ _=>rfl)
 refine⟨S',{keep:=hk.keep,size:=hk.size,defers:=hk.defers,pin:=hk.pin,aH4:=fun b hb'=>?_,base:=fun b hb'=>?_,tm:=fun k t ht=>?_,hp:=fun i b hi=>?_,own:=fun i b β' hi hβ'=>?_,au8:=fun i i' b b' β' q1 q2 hβ1 hβ2=>?_}⟩
 ·rcases hb' with h2|h2
  ·exact hk.aH4 b h2
  ·exact(hk.own id _ b hb h2).2.1
 ·rcases hb' with h2|h2
  ·exact hk.base b h2
  ·rcases(hk.own id _ b hb h2).2.2 with h3|h3
   ·exact .inr (.inr h3)
   ·exact .inr (.inl h3)
 ·simp only at ht
  rw[db9]at ht
  cases hl':look tm k with
  |none=>simp[hl']at ht
  |some t0=>simp only[hl',cb0,aj7]at ht;subst ht;exact ek5 hS hu (hk.tm k t0 hl')
 ·obtain⟨hne,b0,hb0,hm⟩:=aF1 _ _ _ _ _ hi
  have hk0:=hk.hp i b0 hb0
  cases b0 with
  |box ts'=>
   simp only at hm
   subst hm
   obtain⟨β',vs',elem',g1,g2,g3,g4,g5⟩:=hk0
   have:=cO1 hS hu (l:=ts') (vs:=vs') ⟨g3,g4⟩
   exact⟨β',vs',elem',g1,g2,this.1,this.2,g5⟩
  |rows e' sz' n' rs'=>
   simp only at hm
   subst hm
   exact hk0.mono hS (fun _ _=>rfl) (fun _ _=>rfl) (fun _ _=>rfl)
  |mp es=>
   simp only at hm
   subst hm
   exact hk0.mono hS (fun _ _=>rfl) (fun _ _=>rfl) (fun _ _=>rfl)
  |rv y e sz n rs=>
   simp only at hm
   subst hm
   exact hk0.mono hS (fun _ _=>rfl) (fun _ _=>rfl) (fun _ _=>rfl)
 ·obtain⟨hne,b0,hb0,_⟩:=aF1 _ _ _ _ _ hi
  have:=hk.own i b0 β' hb0 hβ'
  exact⟨fun hx=>hx.elim this.1 (fun hx=>hne (hk.au8 i id b0 _ β' hb0 hb hβ' hx)),this.2⟩
 ·obtain⟨_,d,hd,_⟩:=aF1 _ _ _ _ _ q1
  obtain⟨_,d',hd',_⟩:=aF1 _ _ _ _ _ q2
  exact hk.au8 i i' d d' β' hd hd' hβ1 hβ2
section
variable {ρ τ:Type} {X:Cx} {ks:List K} {tm tm':List (Nat × T)} {hp hp':List (Nat × H6)} {m:Option ρ} {Q:ρ -> Exit -> St -> Prop}
theorem ad0.dG1 {e':Exit}(id:Nat){ts:List T}{c:List Tree}(hb:look hp id=some (.box ts))(hc:trees ts=some c)(h:ad0 X ks e' ⟨dV6 id c tm,cv1 id c hp⟩ m Q):ad0 X ks e' ⟨tm,hp⟩ m Q:=
 fun r hr a w ⟨S,E,hw⟩=>by
  obtain⟨S',hk⟩:=hw.dG1 id hb hc
  exact h r hr a w ⟨S',E,hk⟩
end
end Go.Pv
namespace Go.Pv
open Go.RowKit
def aY2 {α:Type}(n:Int)(z:α):Option (List α):=if 0<=n/\n<=1073741824 then some (cD1 n.toNat z)else none
def aJ5 {α:Type}(l r:List α):List α:=r.take l.length++l.drop r.length
def ay9 {α:Type}(l:List α)(lo hi:Int):Option (List α):=if 0<=lo/\lo<=hi/\hi<=l.length then some ((l.drop lo.toNat).take (hi.toNat-lo.toNat))else none
def ak9 {α:Type}(l:List α)(i:Int)(y:α):Option (List α):=if 0<=i/\i<l.length then some (l.set i.toNat y)else none
theorem es8 {α:Type}{l l':List α}{i:Int}{y:α}(h:ak9 l i y=some l'):F0 l' i=some y:=by
 unfold ak9 at h
 split at h
 ·rename_i hi
  simp only[aj7]at h
  subst h
  unfold F0
  rw[if_pos hi.1,List.getElem?_set_self (by omega)]
 ·cases h
section
variable {P:Program} {w0:World} {L:Lim} {nt:Nat} {tm:List (Nat × T)} {hp:List (Nat × H6)} {S:Nat -> Prop} {E:Nat -> Value} {a:Act} {w:World}
theorem Ok.make (h:Ok w0 L nt ⟨tm,hp⟩ S E a w){id t e n:Nat}{ti:TI}{c:List Tree}(aM8:ba2 id big=true)(hf:O6 id tm=true)(hb:O0 id hp=true)(ht:P.underlying t=some (.slice e))(hte:bh8 P e ti)(hz:ti.zero.length=ti.size)(bJ7:0<ti.size)
  (hc:c=ti.zero.map fun v=>aE6 (.v v)) (cF9:n<=1073741824) (kl kc:IntKind):
  ∃v' w' E',(Instr.makeSlice t (.int kl n) (.int kc n)).run P w= .ok v' w'/\E' id=v'/\Ok w0 L nt ⟨tm,(id,.rows e ti.size n (cD1 n c))::hp⟩ S E' a w':=by
 obtain⟨i,d,hi,hs,_,_,⟨z,hzz,hzc⟩,hby⟩:=hte
 have hcl:c.length=ti.size:=by rw[hc,cW3,hz]
 have cv6:(i.bytes:Int)*(n:Int)<=281474976710656:=by
  have:=Nat.mul_le_mul hby cF9
  have h2:((i.bytes*n:Nat):Int)<=((65536*1073741824:Nat):Int):=by exact_mod_cast this
  rw[Int.natCast_mul]at h2
  omega
 have hr:=run_make (P:=P) w t e i z ht hi hzz kl kc n n (by omega) (dF5 _) cv6 (by omega)
 simp only[eI8]at hr
 have hzs:z.cells.size=ti.size:=by rw[<-hz,<-hzc];simp
 have cX7:∀k (hk:k<n*i.size),(madeCells z.cells (n*i.size))[k]'(by rw[size_madeCells];exact hk)=ti.zero[k%ti.size]'(by rw[hz];exact eO7 _ bJ7):=by
  intro k hk
  have hm:k%z.cells.size<z.cells.size:=eO7 _ (by omega)
  simp only[madeCells,Array.getElem_map,Array.getElem_range]
  rw[getElem!_pos z.cells _ hm]
  have:z.cells[k%z.cells.size]=z.cells.toList[k%z.cells.size]'(by simpa using hm):=by simp
  rw[this]
  simp only[hzc,hzs]
 obtain⟨E',hE,_,hok⟩:=h.alloc (o:=.cells (madeCells z.cells (n*i.size)) e) (x:=.slice (some ⟨w.heap.size,0,none⟩) n n) (b:=.rows e ti.size n (cD1 n c)) aM8 hf hb rfl (fun E' hE'=>by
  refine⟨by simp,.inr ⟨w.heap.size,n,(madeCells z.cells (n*i.size)).toList,by unfold maxLen;omega,by simp,by rw[heap_alloc_new],?_,by simp,?_,?_⟩⟩
  ·rw[fd3,size_madeCells,hs]
  ·intro r hr;rw[(List.mem_replicate.1 hr).2];exact hcl
  ·intro i' j hi' hj hb'
   have hi2:i'<n:=by simpa using hi'
   simp only[eZ2]at hj|-
   have hj2:j<ti.size:=by rw[<-hcl];exact hj
   have hlt:i'*ti.size+j<n*i.size:=by rw[fd3,size_madeCells]at hb';exact hb'
   have e1:(madeCells z.cells (n*i.size)).toList[i'*ti.size+j]=ti.zero[j]'(by rw[hz];exact hj2):=by
    rw[fc4,cX7 _ hlt]
    have:(i'*ti.size+j)%ti.size=j:=by rw[en8,fe0,eY0 hj2]
    simp only[this]
   rw[e1]
   have e2:c[j]=aE6 (.v (ti.zero[j]'(by rw[hz];exact hj2))):=by subst hc;simp
   rw[e2]
   exact bb6 (.v _))
 exact⟨_,_,E',hr,hE,hok⟩
theorem Ok.copy (h:Ok w0 L nt ⟨tm,hp⟩ S E a w){id e e' n m t t2 ty:Nat}{ti:TI}{x:Value}{rs r2:List (List Tree)}(hb:look hp id=some (.rows e ti.size n rs))(ht:P.underlying t=some (.slice e'))(hte:bh8 P e' ti)
  (hx:Src w S x m ti.size r2) (h2:∀r∈r2,r.length=ti.size):
  ∃w',(Builtin.copy_ #[t,t2] ty #[E id,x]).run P w= .ok (.int .i64 (min m n:Nat)) w'/\Ok w0 L nt ⟨tm,au9 hp id (.rows e ti.size n (aJ5 rs r2))⟩ S E a w':=by
 obtain⟨hm,ad,c,rfl,cf6⟩:=hx
 obtain⟨hn,aQ9⟩:=h.hp id _ hb
 obtain⟨i,d,hi,hs,_⟩:=hte
 have hcl:(aJ5 rs r2).length=rs.length:=by simp[aJ5];omega
 rcases aQ9 with⟨hE,hr0⟩|⟨β,cap,cs,hcm,hE,hh,hcl2,hcc,hsz,hcr⟩
 ·subst hr0
  simp only[cY9]at hn
  subst hn
  have hf:(Builtin.firstCells i.size 0 (.slice ad m c)).run P w= .ok #[] w:=by cases ad<;>simp[Builtin.firstCells,loadCells,loadCellsFrom]
  have cv8:min m 0=0:=by omega
  refine⟨w,?_,?_⟩
  ·rw[hE]
   simp[Builtin.copy_,run_underlying ht,Builtin.lenOf,sizeOf,typeInfo,hi,hf,goInt]
  ·refine{h with
    hp:=fun k b hk=>?_
    own:=fun k b β hk hβ=>by
     simp only at hk
     rw[aF3]at hk
     by_cases e:id=k
     ·subst e;simp only[hE,U5]at hβ;cases hβ
     ·simp only[e,if_false]at hk;exact h.own k b β hk hβ
    au8:=fun k k' b b' β hk hk' hβ hβ'=>by
     simp only at hk hk'
     rw[aF3]at hk hk'
     by_cases e:id=k
     ·subst e;simp only[hE,U5]at hβ;cases hβ
     ·by_cases e2:id=k'
      ·subst e2;simp only[hE,U5]at hβ';cases hβ'
      ·simp only[e,e2,if_false]at hk hk';exact h.au8 k k' b b' β hk hk' hβ hβ'}
   simp only at hk
   rw[aF3]at hk
   by_cases e:id=k
   ·subst e
    simp only[if_true,hb,cb0,aj7]at hk
    subst hk
    exact⟨by simp[aJ5],.inl ⟨hE,by simp[aJ5]⟩⟩
   ·simp only[e,if_false]at hk;exact h.hp k b hk
 ·subst hn
  let q:=min m rs.length
  have hq:q=min m rs.length:=rfl
  have cm7:∃news:List Value,news.length=q*ti.size/\(Builtin.firstCells i.size q (.slice ad m c)).run P w= .ok news.toArray w/\(∀u∈news,u.oneCell'=true)/\
    ∀i j (hi:i<q) (hj:j<ti.size),∃(h1:i*ti.size+j<news.length) (h2:i<r2.length) (h3:j<(r2[i]).length),RT w S (news[i*ti.size+j]) ((r2[i])[j]):=by
   by_cases h0:0<m
   ·obtain⟨y,all,rfl,hal,hac,bh4,har⟩:=cf6 h0
    have hqm:q*ti.size<=m*ti.size:=cA4 _ (by omega)
    refine⟨all.take (q*ti.size),by rw[bs8,hal];omega,?_,fun u hu=>bh4 u (ey2 hu),fun i' j hi' hj=>?_⟩
    ·have:=run_loadCells_list (P:=P) w y (all.take (q*ti.size)) (fun j u hu=>by
      rw[dx0]at hu
      split at hu
      ·exact hac j u hu
      ·cases hu)
     rw[bs8,hal,eN3 hqm]at this
     simp[Builtin.firstCells,hs,this]
    ·have hi2:i'<r2.length:=by omega
     have hrl:=h2 _ (bf2 hi2)
     have hle:(i'+1)*ti.size<=q*ti.size:=cA4 _ hi'
     rw[dN7]at hle
     refine⟨by rw[bs8,hal];omega,hi2,by rw[hrl];exact hj,?_⟩
     rw[ed8]
     exact har i' j hi2 (by rw[hrl];exact hj) (by rw[hal];omega)
   ·have hm0:m=0:=by omega
    have hq0:q=0:=by omega
    refine⟨[],by rw[hq0];simp,?_,fun u hu=>by simp at hu,fun i' j hi' _=>by omega⟩
    rw[hq0]
    cases ad<;>simp[Builtin.firstCells,loadCells,loadCellsFrom]
  obtain⟨news,hnl,dt9,bh4,hnr⟩:=cm7
  have hqr:q*ti.size<=cap*ti.size:=cA4 _ (by omega)
  have hst:=run_storeCells_at (P:=P) β 0 e news 0 cs.toArray w hh (by simp;rw[hnl,hcl2];exact hqr) bh4
  have bf7:(Builtin.copy_ #[t,t2] ty #[E id,.slice ad m c]).run P w= .ok (.int .i64 (q:Nat)) (w.setRow β (news++cs.drop news.length).toArray):=by
   rw[hE]
   have:Nat.min m rs.length=q:=rfl
   have hst':(storeCells ⟨β,0,none⟩ news).run P w= .ok () (w.setRow β (news++cs.drop news.length).toArray):=by simpa using hst
   simp[Builtin.copy_,run_underlying ht,Builtin.lenOf,sizeOf,typeInfo,hi,this,dt9,goInt,hst']
  refine⟨_,bf7,h.setRow hb (by rw[hE];rfl) hh fun hS bO2=>⟨by rw[hcl],.inr ⟨β,cap,news++cs.drop news.length,hcm,by rw[hcl];exact hE,bO2,by simp;omega,by rw[hcl];exact hcc,?_,?_⟩⟩⟩
  ·intro r hr
   unfold aJ5 at hr
   rcases do2.1 hr with hr|hr
   ·exact h2 r (ey2 hr)
   ·exact hsz r (eV0 hr)
  ·intro i' j hi' hj hb'
   have hi2:i'<rs.length:=by rw[<-hcl];exact hi'
   by_cases hiq:i'<q
   ·have hi3:i'<r2.length:=by omega
    have e1:(aJ5 rs r2)[i']=r2[i']:=by
     apply cJ3
     rw[<-aJ9,<-aJ9]
     unfold aJ5
     rw[ee0 (by rw[bs8];omega),dx0,if_pos hi2]
    have hj2:j<ti.size:=by have:=h2 _ (bf2 hi3);rw[<-this];rw[e1]at hj;exact hj
    obtain⟨h5,_,h6,h7⟩:=hnr i' j hiq hj2
    simp only[e1]
    rw[cG5 h5]
    exact h7.mono (fun _ x=>x) hS
   ·have hm':m<=i':=by omega
    have e1:(aJ5 rs r2)[i']=rs[i']:=by
     apply cJ3
     rw[<-aJ9,<-aJ9]
     unfold aJ5
     rw[dG9 (by rw[bs8];omega),bs8,eU5]
     congr 1
     omega
    have hj1:j<(rs[i']).length:=by rw[e1]at hj;exact hj
    have hle:q*ti.size<=i'*ti.size:=cA4 _ (by omega)
    have hb2:i'*ti.size+j<cs.length:=by simp only[aX7,do0]at hb';omega
    have e2:(news++cs.drop news.length)[i'*ti.size+j]=cs[i'*ti.size+j]:=by
     apply cJ3
     rw[<-aJ9,<-aJ9,dG9 (by omega),eU5]
     congr 1
     omega
    simp only[e1]
    rw[e2]
    exact(hcr i' j hi2 hj1 hb2).mono (fun _ x=>x) hS
end
def cw9 (tm:List (Nat×T))(d:Int):Option Operand->Option Int
 |none=>some d
 |some o=>match val tm o with|some (.t (.v (.int _ i)))=>some i|_=>none
section
variable {ρ α:Type} {X:Cx} {ks:List K} {tm tm':List (Nat × T)} {hp hp':List (Nat × H6)} {m:Option ρ} {Q:ρ -> Exit -> St -> Prop} {all:Array Oper} {o:Oper} {rest:List Oper}
theorem C3.eZ4 {t e d s0:Nat}{z0:List Value}{te:TI}{x:Operand}{ik:IntKind}{n:Int}{enc:α->List Tree}{k:List α->Option ρ}(id:Nat)(z:α)
  (ho:o.op= .makeSlice t x x) (hd:o.dst=some d) (hdn:ba2 d X.nt=true) (hg:aj1 all.toList tm o.guard=some true) (hx:val tm x=some (.t (.v (.int ik n))))
  (hty:look X.D5 t=some ⟨s0,.slice e,z0⟩) (hte:look X.D5 e=some te) (hz:te.zero.length=te.size) (bJ7:ba2 0 te.size=true) (az8:enc z=te.zero.map fun v=>aE6 (.v v)) (aM8:ba2 id big=true) (hft:O6 id tm=true) (hfb:O0 id hp=true)
  (h:∀y,aY2 n z=some y->C3 X all rest ks ⟨(d,.own id)::tm,(id,.rows e te.size y.length (y.map enc))::hp⟩ (k y) Q):
  C3 X all (o::rest) ks ⟨tm,hp⟩ ((aY2 n z).bind k) Q:=fun y hy a w ⟨S,E,hk⟩=>by
 cases hmk:aY2 n z with
 |none=>simp[hmk]at hy
 |some l=>
  have h0:=hmk
  unfold aY2 at h0
  split at h0<;>try(cases h0;done)
  rename_i hn
  simp only[aj7]at h0
  simp only[hmk,ac0]at hy
  obtain⟨dd,hu,ho2⟩:∃d,X.P.underlying t=some d/\TD.ok X.P (.slice e) d:=by
   obtain⟨i,d,_,_,hu,hdd,_⟩:=X.M7 t _ hty
   exact⟨d,hu,hdd⟩
  simp only[TD.ok]at ho2
  subst ho2
  obtain⟨j,rfl⟩:∃j:Nat,n=(j:Int):=⟨n.toNat,by omega⟩
  simp only[eI8]at h0
  obtain⟨v',w',E',hr,hE,hok⟩:=hk.make (P:=X.P) (n:=j) (c:=enc z) aM8 hft hfb hu (X.M7 e _ hte) hz (ba1 bJ7) az8 (by omega) ik ik
  refine wpList_step fun K hK=>?_
  rw[V9 hk hg,if_pos rfl]
  unfold Oper.wp
  have aO9:(execOp a.eval o).run X.P w= .ok (.value v') w':=by
   unfold execOp
   simp only[ho,(hk.val hx).tv,bd5,hr,aY1,bx4]
  rw[aO9]
  refine hK _ _ (h l hmk y hy _ _ ⟨S,E',?_⟩)
  rw[hd]
  have e1:l.map enc=cD1 j (enc z):=by rw[<-h0];simp
  have e2:l.length=j:=by rw[<-h0];simp
  rw[e1,e2]
  exact hok.put (ba1 hdn) (.own id _ hE)
theorem C3.ej4 {t t2 e e' e2 n m2 s0 id:Nat}{z0:List Value}{te:TI}{s x:Operand}{l r:List α}{enc:α->List Tree}{σ₁:St}
  (ho:o.op= .call ⟨.builtin .copy,#[s,x],#[t,t2]⟩) (hg:aj1 all.toList tm o.guard=some true)
  (hty:look X.D5 t=some ⟨s0,.slice e',z0⟩) (hte:look X.D5 e'=some te) (az8:∀y,(enc y).length=te.size) (bh4:∀y,(enc y).all aQ6=true)
  (hs:val tm s=some (.own id)) (hb:look hp id=some (.rows e te.size n (l.map enc)))
  (hx:val tm x=some (.t (.sl m2 (r.map enc)))\/∃i2,val tm x=some (.own i2)/\look hp i2=some (.rows e2 te.size m2 (r.map enc)))
  (au9:bw5 X.nt o.dst (.t (.v (.int .i64 (min r.length l.length:Nat)))) ⟨tm,au9 hp id (.rows e te.size (aJ5 l r).length ((aJ5 l r).map enc))⟩=some σ₁)
  (h:C3 X all rest ks σ₁ m Q):C3 X all (o::rest) ks ⟨tm,hp⟩ m Q:=fun y hy a w ⟨S,E,hk⟩=>by
 obtain⟨dd,hu,ho2⟩:∃d,X.P.underlying t=some d/\TD.ok X.P (.slice e') d:=by
  obtain⟨i,d,_,_,hu,hdd,_⟩:=X.M7 t _ hty
  exact⟨d,hu,hdd⟩
 simp only[TD.ok]at ho2
 subst ho2
 have cf6:Src w S (a.eval x) r.length te.size (r.map enc):=by
  rcases hx with hx|⟨i2,hx,hb2⟩
  ·have hv:=hk.val hx
   generalize a.eval x=xv at hv
   cases hv with
   |t hv=>
    have:=cg9 hv (bW0 az8 r) (bH3 bh4 r)
    have hm:m2=r.length:=by simpa using this.1
    subst hm
    exact⟨by simp,this.2⟩
  ·have hv:=hk.val hx
   have hb:=hk.hp i2 _ hb2
   generalize a.eval x=xv at hv
   cases hv with
   |own _ _ hE=>
    subst hE
    have:=dn4 hb (bH3 bh4 r)
    have hm:m2=r.length:=by simpa using this.1
    subst hm
    exact this
 have hn:n=l.length:=by have:=(hk.hp id _ hb).1;simpa using this
 have hsv:a.eval s=E id:=by
  have hv:=hk.val hs
  generalize a.eval s=sv at hv
  cases hv with|own _ _ hE=>exact hE.symm
 obtain⟨w',hr,hok⟩:=hk.copy (P:=X.P) (ty:=o.type) (t2:=t2) hb hu (X.M7 e' _ hte) cf6 (bW0 az8 r)
 refine wpList_step fun K hK=>?_
 rw[V9 hk hg,if_pos rfl]
 unfold Oper.wp
 have aO9:(execOp a.eval o).run X.P w= .ok (.value (.int .i64 (min r.length n:Nat))) w':=by
  unfold execOp
  simp only[ho,resolve,invoke,builtin,bd5,bx4,aY1,eX7,cX5,ep3,hsv,hr]
 rw[aO9]
 refine hK _ _ (h y hy _ _ ⟨S,E,?_⟩)
 have hcl:(aJ5 l r).length=l.length:=by simp[aJ5];omega
 have e1:aJ5 (l.map enc) (r.map enc)=(aJ5 l r).map enc:=by simp[aJ5,fd1,fe9]
 rw[e1]at hok
 rw[hcl,<-hn]at au9
 exact bA0 hok (.t (.v _)) au9
theorem bw7 {P:Program}{w:World}{lo hi:Option Value}{n c:Nat}{l h:Int}(hl:(lo=none/\l=0)\/∃k,lo=some (.int k l))(hh:(hi=none/\h=n)\/∃k,hi=some (.int k h))(h0:0<=l)(h1:l<=h)(h2:h<=c):
  (Instr.sliceBounds true n c lo hi none).run P w= .ok (l.toNat,h.toNat,c) w:=by
 have eh:(h.toNat:Int)=h:=Int.toNat_of_nonneg (by omega)
 rcases hl with⟨rfl,rfl⟩|⟨k,rfl⟩<;>rcases hh with⟨rfl,rfl⟩|⟨k',rfl⟩
 ·simp[Instr.sliceBounds]
 ·simp[Instr.sliceBounds,run_sliceBound,h1,h2]
 ·simp[Instr.sliceBounds,run_sliceBound,h0,h1]
 ·simp[Instr.sliceBounds,run_sliceBound,h0,h1,h2,eh,(by omega:0<=h)]
theorem bn7 {w0:World}{L:Lim}{nt:Nat}{S:Nat->Prop}{E:Nat->Value}{a:Act}{w:World}(hk:Ok w0 L nt ⟨tm,hp⟩ S E a w){x:Option Operand}{d i:Int}(h:cw9 tm d x=some i):(x.map a.eval=none/\i=d)\/∃k,x.map a.eval=some (.int k i):=by
 cases x with
 |none=>simp only[cw9,aj7]at h;exact .inl ⟨rfl,h.symm⟩
 |some x=>
  simp only[cw9]at h
  split at h<;>try(cases h;done)
  rename_i k i' hv
  simp only[aj7]at h
  subst h
  exact .inr ⟨k,by simp[(hk.val hv).tv]⟩
theorem C3.et4 {t e d n s0:Nat}{z0:List Value}{te:TI}{x:Operand}{lo hi:Option Operand}{l:List α}{a b:Int}{enc:α->List Tree}{k:List α->Option ρ}
  (ho:o.op= .slice t x lo hi none) (hd:o.dst=some d) (hdn:ba2 d X.nt=true) (hg:aj1 all.toList tm o.guard=some true) (hx:val tm x=some (.t (.sl n (l.map enc))))
  (hty:look X.D5 t=some ⟨s0,.slice e,z0⟩) (hte:look X.D5 e=some te) (az8:∀y,(enc y).length=te.size) (hlo:cw9 tm 0 lo=some a) (hhi:cw9 tm l.length hi=some b)
  (h:∀y,ay9 l a b=some y->C3 X all rest ks ⟨(d,.t (.sl y.length (y.map enc)))::tm,hp⟩ (k y) Q):C3 X all (o::rest) ks ⟨tm,hp⟩ ((ay9 l a b).bind k) Q:=
 C3.one hd hdn hg (fun y=>.t (.sl y.length (y.map enc))) (fun y S E ac w hm hk=>by
  unfold ay9 at hm
  split at hm<;>try(cases hm;done)
  rename_i hb
  simp only[aj7]at hm
  obtain⟨h0,h1,h2⟩:=hb
  obtain⟨i,dd,hi',hs,hu,hdd,_⟩:=X.M7 t _ hty
  simp only[TD.ok]at hdd
  subst hdd
  have hsz:=(X.M7 e _ hte).aH0 w
  have hxv:=hk.val hx
  generalize hxe:ac.eval x=xv at hxv
  cases hxv with
  |t hxt=>
   have hn:n=l.length:=by
    generalize bz7:l.map enc=rows at hxt
    cases hxt with
    |slE=>have:=congrArg fd2 bz7;simpa using this.symm
    |sl=>subst bz7;simp
   have shape:∃ad c,xv= .slice ad n c/\n<=c:=by
    generalize l.map enc=rows at hxt
    cases hxt with
    |slE ad c=>exact⟨ad,c,rfl,Nat.zero_le _⟩
    |sl b o c sz rows vs bO1=>exact⟨_,c,rfl,bO1⟩
   obtain⟨ad,c,rfl,hnc⟩:=shape
   have hbd:=bw7 (P:=X.P) (w:=w) (n:=n) (c:=c) (bn7 hk hlo) (by rw[hn];exact bn7 hk hhi) h0 h1 (by omega)
   refine⟨_,by
    simp only[execOp,ho,Instr.sliceAt,bd5,run_underlying hu,aY1,Instr.slice,hxe,hbd,hsz,bx4,eY6]
    rfl,?_⟩
   have hyl:y.length=b.toNat-a.toNat:=by rw[<-hm];simp;omega
   by_cases hz:b.toNat-a.toNat=0
   ·have hy0:y=[]:=ex7 (by omega)
    subst hy0
    rw[hz]
    exact .t (.slE _ _)
   ·have hlt:a.toNat<l.length:=by omega
    generalize bz7:l.map enc=rows at hxt
    cases hxt with
    |slE=>have:=congrArg fd2 bz7;simp at this;subst this;simp at hlt
    |sl bk off _ sz _ vs bO1 hS hszr hc hr=>
     subst bz7
     have hne:¬c=a.toNat:=by simp at bO1;omega
     simp only[hne,if_false,cb0,aC6]
     have hszt:sz=te.size:=by
      have hm0:enc (l[a.toNat])∈l.map enc:=cZ1.2 ⟨_,bf2 hlt,rfl⟩
      rw[<-hszr _ hm0,az8]
     subst hszt
     have key:=RT.sl (w:=w) (S:=S) bk (off+a.toNat*te.size) (c-a.toNat) te.size (y.map enc) (fun i j=>vs (a.toNat+i) j) (by simp at bO1;rw[cW3,hyl];omega) hS
      (fun r hr'=>by obtain⟨z,_,rfl⟩:=cZ1.1 hr';exact az8 z)
      (fun i j hi2 hj=>by
       rw[cW3,hyl]at hi2
       have:=hc (a.toNat+i) j (by simp;omega) hj
       rw[eB2]at this
       rw[<-this]
       congr 2
       omega)
      (fun i j hi2 hj=>by
       rw[cW3,hyl]at hi2
       have e1:(y.map enc)[i]'(by rw[cW3,hyl];exact hi2)=(l.map enc)[a.toNat+i]'(by simp;omega):=by
        subst hm
        simp
       have hj':j<((l.map enc)[a.toNat+i]'(by simp;omega)).length:=by rw[<-e1];exact hj
       have:=hr (a.toNat+i) j (by simp;omega) hj'
       simp only[e1]
       exact this)
     rw[cW3,hyl]at key
     rw[hyl]
     exact .t key) h
theorem C3.et5 {t e e' d id id' sz n s0:Nat}{z0:List Value}{te:TI}{x:Operand}{hi:Option Operand}{l:List α}{b:Int}{enc:α->List Tree}{k:List α->Option ρ}
  (ho:o.op= .slice t x none hi none) (hd:o.dst=some d) (hdn:ba2 d X.nt=true) (hg:aj1 all.toList tm o.guard=some true) (hx:val tm x=some (.own id)) (hb:look hp id=some (.rows e sz n (l.map enc)))
  (hty:look X.D5 t=some ⟨s0,.slice e',z0⟩) (hte:look X.D5 e'=some te) (hhi:cw9 tm l.length hi=some b)
  (cm8:Sub ⟨tm',hp'⟩ ⟨tm,hp⟩) (aM8:ba2 id' big=true) (hft:O6 id' tm'=true) (hfb:O0 id' hp'=true) (hfo:O0 id hp'=true)
  (h:∀y,ay9 l 0 b=some y->C3 X all rest ks ⟨(d,.own id')::tm',(id',.rows e sz y.length (y.map enc))::hp'⟩ (k y) Q):C3 X all (o::rest) ks ⟨tm,hp⟩ ((ay9 l 0 b).bind k) Q:=fun r hr a w ⟨S,E,hk⟩=>by
 cases hm:ay9 l 0 b with
 |none=>simp[hm]at hr
 |some y=>
  simp only[hm,ac0]at hr
  have hm0:=hm
  unfold ay9 at hm0
  split at hm0<;>try(cases hm0;done)
  rename_i hbd
  simp only[aj7]at hm0
  obtain⟨h0,h1,h2⟩:=hbd
  have hy:y=l.take b.toNat:=by rw[<-hm0];simp
  have hyl:y.length=b.toNat:=by rw[hy,bs8];omega
  obtain⟨i,dd,hi',hs,hu,hdd,_⟩:=X.M7 t _ hty
  simp only[TD.ok]at hdd
  subst hdd
  have hsz:=(X.M7 e' _ hte).aH0 w
  have hbk:=hk.hp id _ hb
  obtain⟨hn,aQ9⟩:=hbk
  have hn':n=l.length:=by simpa using hn
  subst hn'
  have hxv:a.eval x=E id:=by
   have hv:=hk.val hx
   generalize a.eval x=sv at hv
   cases hv with|own _ _ hE=>exact hE.symm
  have hk':=hk.sub cm8
  have fin:∀v',(execOp a.eval o).run X.P w= .ok (.value v') w->(∀β,U5 v'=some β->U5 (E id)=some β)->(∀E',bd9 w S E' v' (.rows e sz y.length (y.map enc)))->
    wpList X.P all (after X.P ks (X.post (Q r))) (o::rest) a w:=by
   intro v' aO9 hv' hblk
   obtain⟨E',hE,hok⟩:=hk'.cT6 (v:=E id) (v':=v') (b:=.rows e sz y.length (y.map enc)) aM8 hft hfb (fun β hβ=>hk.own id _ β hb hβ)
    (fun j blk β hj h1 h2=>by
     obtain⟨cs5,hj',_⟩:=bk8 cm8.2 j blk hj
     have:=hk.au8 id j _ cs5 β hb hj' h1 h2
     exact(aA9 hfo j blk hj).1 this.symm) (aW2.refl _ w) (fun β hβ=>⟨(hk.own id _ β hb (hv' β hβ)).2.1,.inl (hv' β hβ)⟩) hblk
   refine wpList_step fun K hK=>?_
   rw[V9 hk hg,if_pos rfl]
   unfold Oper.wp
   rw[aO9]
   refine hK _ _ (h y hm r hr _ _ ⟨S,E',?_⟩)
   rw[hd]
   exact hok.put (ba1 hdn) (.own id' _ hE)
  rcases aQ9 with⟨hE,hr0⟩|⟨β,cap,cs,hcm,hE,hh,hcl,hcc,hszr,hcr⟩
  ·have hl0:l=[]:=by simpa using hr0
   subst hl0
   have hb0:b=0:=by simp at h2;omega
   subst hb0
   have hbd:=bw7 (P:=X.P) (w:=w) (lo:=none) (n:=0) (c:=0) (.inl ⟨rfl,rfl⟩) (bn7 hk hhi) (dF5 0) (dF5 0) (dF5 0)
   have hy0:y=[]:=by simpa using hy
   subst hy0
   refine fin (.slice none 0 0) ?_ (fun β hβ=>by simp[U5]at hβ) (fun E'=>⟨rfl,.inl ⟨rfl,rfl⟩⟩)
   have hbd':(Instr.sliceBounds true 0 0 none (hi.map a.eval) none).run X.P w= .ok (0,0,0) w:=hbd
   simp only[execOp,ho,Instr.sliceAt,bd5,run_underlying hu,aY1,Instr.slice,hxv,hE,eY6,hbd',hsz,bx4]
   rfl
  ·have hbd:=bw7 (P:=X.P) (w:=w) (lo:=none) (n:=l.length) (c:=cap) (.inl ⟨rfl,rfl⟩) (bn7 hk hhi) (dF5 0) h1 (by simp at hcc;omega)
   refine fin (.slice (some ⟨β,0,none⟩) y.length cap) ?_ (fun β' hβ'=>by rw[hE];exact hβ') (fun E'=>⟨by simp,.inr ⟨β,cap,cs,hcm,by simp,hh,hcl,by simp at hcc|-;omega,?_,?_⟩⟩)
   ·simp only[cW3]at hE
    simp only[execOp,ho,Instr.sliceAt,bd5,run_underlying hu,aY1,Instr.slice,hxv,hE,eY6,hbd,hsz,bx4]
    have ez:(0:Int).toNat=0:=rfl
    by_cases hc0:cap=0
    ·simp[hc0,hyl]
    ·simp[hc0,hyl,aC6]
   ·intro q hq
    exact hszr q (by rw[hy,fd1]at hq;exact ey2 hq)
   ·intro i j hi2 hj hbb
    have hi3:i<(l.map enc).length:=by simp[hy]at hi2|-;omega
    have e1:(y.map enc)[i]=(l.map enc)[i]:=by subst hy;simp
    have hj2:j<((l.map enc)[i]).length:=by rw[<-e1];exact hj
    simp only[e1]
    exact(hcr i j hi3 hj2 hbb).mono (fun _ x=>x) (fun _ _=>rfl)
end
section
variable {ρ α:Type} {X:Cx} {ks:List K} {tm:List (Nat × T)} {hp:List (Nat × H6)} {m:Option ρ} {Q:ρ -> Exit -> St -> Prop} {all:Array Oper} {o:Oper} {rest:List Oper}
theorem C3.eJ9 {t d id sz off e n:Nat}{i:Int}{ti:TI}{p:Operand}{l:List α}{enc:α->List Tree}{y:α}{r:T}(hy:F0 l i=some y)
  (ho:o.op= .load t p) (hd:o.dst=some d) (hdn:ba2 d X.nt=true) (hg:aj1 all.toList tm o.guard=some true) (hp1:val tm p=some (.pe id i.toNat sz off)) (hb:look hp id=some (.rows e sz n (l.map enc)))
  (hti:look X.D5 t=some ti) (hr:bh7 ti.desc.isAgg ti.size ((enc y).map .t) off=some r) (h:C3 X all rest ks ⟨(d,r)::tm,hp⟩ m Q):C3 X all (o::rest) ks ⟨tm,hp⟩ m Q:=
 C3.eZ3 (aU7 hy).2.1 ho hd hdn hg hp1 hb hti hr h
theorem C3.dK1 {t id sz off e n:Nat}{i:Int}{ti:TI}{p x:Operand}{l:List α}{enc:α->List Tree}{y:α}{k:List α->Option ρ}(y':α)(lt:List Tree){vx:T}{cs:List T}(hy:F0 l i=some y)
  (ho:o.op= .store t p x) (hd:o.dst=none) (hg:aj1 all.toList tm o.guard=some true) (hp1:val tm p=some (.pe id i.toNat sz off)) (hb:look hp id=some (.rows e sz n (l.map enc)))
  (hti:look X.D5 t=some ti) (hx:val tm x=some vx) (hc:aq9 hp vx=some cs) (hcs:cs.map cR5=lt.map T.t) (hs:bx3 lt.length ti.size=true) (hle:dQ0 (off+lt.length) sz=true) (az8:enc y'=bG0 (enc y) off lt)
  (h:∀l',ak9 l i y'=some l'->C3 X all rest ks ⟨tm,au9 hp id (.rows e sz l'.length (l'.map enc))⟩ (k l') Q):C3 X all (o::rest) ks ⟨tm,hp⟩ ((ak9 l i y').bind k) Q:=fun r hr a w ⟨S,E,hk⟩=>by
 have cv9:ak9 l i y'=some (l.set i.toNat y'):=by
  obtain⟨h0,_,hlt⟩:=aU7 hy
  unfold ak9
  rw[if_pos ⟨h0,hlt⟩]
 rw[cv9]at hr
 simp only[ac0]at hr
 have aQ9:(l.map enc)[i.toNat]? =some (enc y):=by rw[cM9,(aU7 hy).2.1];rfl
 have hcl:cs.length=lt.length:=by have:=congrArg fd2 hcs;simpa using this
 obtain⟨vs,hvs,hl,hr2,h1⟩:=hk.cells (hk.val hx) hc
 have hn:n=l.length:=by have:=(hk.hp id _ hb).1;simpa using this
 have key:∃w',(Instr.storeAt t (a.eval p) (a.eval x)).run X.P w= .ok () w'/\Ok X.w0 X.L X.nt ⟨tm,au9 hp id (.rows e sz n ((l.map enc).set i.toNat (bG0 (enc y) off lt)))⟩ S E a w':=by
  have hv2:RV w S E (.agg vs.toArray) (.agg (lt.map T.t)):=by
   refine .agg vs _ (by simp;omega) fun j h2 h3=>?_
   have h4:=dl4 (hr2 j h2 (by omega))
   have h5:cR5 (cs[j]'(by omega))=(lt.map T.t)[j]'h3:=by
    have h6:(cs.map cR5)[j]? =(lt.map T.t)[j]?:=by rw[hcs]
    rw[cM9,aJ9 (by omega),aJ9 h3]at h6
    simpa using h6
   rw[h5]at h4
   exact h4
  have bh4:cw8 hp (lt.map T.t)=true:=by
   have:∀q:List Tree,(∀j (hj:j<q.length),Pv.one hp (T.t (q[j]))=true)->cw8 hp (q.map T.t)=true:=by
    intro q
    induction q with
    |nil=>intro _;rfl
    |cons z q ih=>
     intro hq
     simp only[cX5,cw8,au2]
     exact⟨hq 0 (by simp),ih fun j hj=>hq (j+1) (by simpa using hj)⟩
   refine this lt fun j hj=>?_
   have hv:=hv2
   cases hv with
   |agg _ _ _ hvv=>
    have h2:=hvv j (by omega) (by simpa using hj)
    simp only[dB9]at h2
    have h3:=h1 _ (bf2 (show j<vs.length by omega))
    generalize vs[j]'(by omega)=v at h2 h3
    generalize lt[j]=z at h2|-
    cases z with
    |v q=>have:=h2.tv;subst this;exact h3
    |sl _ _=>rfl
  obtain⟨w',q1,q2⟩:=ec1 (P:=X.P) hk (X.M7 t _ hti) hb (hk.val hp1) aQ9 hv2 (by simp[aq9,bh4]) (bq5 hs) (ba1 hle)
  refine⟨w',?_,q2⟩
  have e1:(Value.agg vs.toArray).cells=(a.eval x).cells:=by rw[hvs];rfl
  simpa only[Instr.storeAt,storeVar,e1]using q1
 obtain⟨w',h2,h3⟩:=key
 refine wpList_step fun K hK=>?_
 rw[V9 hk hg,if_pos rfl]
 unfold Oper.wp
 have aO9:(execOp a.eval o).run X.P w= .ok .skip w':=by
  unfold execOp
  simp only[ho,bd5,h2,aY1,bx4]
 rw[aO9]
 refine hK _ _ (h _ cv9 r hr _ _ ⟨S,E,?_⟩)
 rw[hd,List.map_set,az8,ee7,<-hn]
 exact h3
end
open Go.RowKit Go.WideShapes Go.ChangeShapes
section
variable {ρ τ:Type} {X:Cx} {ks:List K} {tm tm':List (Nat × T)} {hp hp':List (Nat × H6)} {m:Option ρ} {Q:ρ -> Exit -> St -> Prop} {all:Array Oper} {ops:List Oper}
theorem C3.via {σ σ':St}(h:∀{ρ:Type}{m:Option ρ}{Q:ρ->Exit->St->Prop}{e:Exit},ad0 X [] e σ' m Q->ad0 X [] e σ m Q)(k:C3 X all ops ks σ' m Q):C3 X all ops ks σ m Q:=fun r hr a w hw=>by
 have:=h (ρ:=Unit) (m:=some ()) (e:=.normal) (Q:=fun _ _ σ''=>σ''=σ') (fun r _ a w hw=>⟨σ',hw,rfl⟩) () rfl a w hw
 obtain⟨σ'',hs,rfl⟩:=this
 exact k r hr a w hs
open Classical in
theorem C3.dS3 {σ:St}{m₁:Option τ}{t:τ}(hm:m₁=some t)(h:C3 X all ops ks σ (m₁.bind fun t'=>if t'=t then m else none) Q):C3 X all ops ks σ m Q:=by
 subst hm;simpa using h
open Classical in
theorem C3.ifH {σ₂:τ->St}{t:τ}(h:C3 X all ops ks (σ₂ t) m Q):∀t',C3 X all ops ks (σ₂ t') (if t'=t then m else none) Q:=fun t'=>by
 by_cases e:t'=t
 ·subst e;simpa using h
 ·simp only[e,if_false];exact C3.fail
open Classical in
theorem C3.ifG {σ₂:τ->St}{t:τ}{m₁:Option τ}(h:C3 X all ops ks (σ₂ t) m Q):∀t',m₁=some t'->C3 X all ops ks (σ₂ t') (if t'=t then m else none) Q:=fun t' _=>C3.ifH h t'
end
theorem cG9 {P:Program}(w:World)(d:Nat)(t e:TypeId)(a:Option Addr)(l c:Nat)(h:P.underlying t=some (.slice e)):(Op.equalIn (d+1) t (.slice a l c) (.slice none 0 0)).run P w= .ok a.isNone w:=by
 cases a<;>simp[Op.equalIn,run_underlying h]
theorem cY5 {P:Program}(w:World)(t e:TypeId)(a:Option Addr)(l c:Nat)(h:P.underlying t=some (.slice e)):(Op.equal t (.slice a l c) (.slice none 0 0)).run P w= .ok a.isNone w:=cG9 w _ t e a l c h
theorem dz0 {P:Program}(w:World)(t e:TypeId)(a:Option Addr)(l c:Nat)(h:P.underlying t=some (.slice e)):(binOp .eql t (.slice a l c) (.slice none 0 0)).run P w= .ok (.bool a.isNone) w:=by
 simp[binOp,cY5 w t e a l c h]
theorem cY6 {P:Program}(w:World)(t:TypeId)(x y:Operand)(a:Option Addr)(l c:Nat):(eqGuard .eql t x y (.slice a l c) (.slice none 0 0)).run P w= .ok () w:=rfl
section
variable {ρ τ:Type} {X:Cx} {ks:List K} {σ:St} {tm:List (Nat × T)} {hp:List (Nat × H6)} {m m':Option ρ} {Q:ρ -> Exit -> St -> Prop} {all:Array Oper} {rest:List Oper} {o:Oper}
theorem C3.isNil {t e yt d n s0:Nat}{z0:List Value}{x:Operand}{α:Type}{enc:α->List Tree}{l:List α}(ho:o.op= .binOp .eql t x (.const (.slice none 0 0)) yt)(hd:o.dst=some d)(hdn:ba2 d X.nt=true)(hg:aj1 all.toList tm o.guard=some true)
  (hty:look X.D5 t=some ⟨s0,.slice e,z0⟩) (hx:val tm x=some (.t (.sl n (l.map enc))))
  (h:∀b:Bool,(b=true->l=[])->C3 X all rest ks ⟨(d,.t (.v (.bool b)))::tm,hp⟩ m Q):C3 X all (o::rest) ks ⟨tm,hp⟩ m Q:=fun r hr a w ⟨S,E,hk⟩=>by
 obtain⟨dd,hu,ho2⟩:∃d,X.P.underlying t=some d/\TD.ok X.P (.slice e) d:=by
  obtain⟨i,d,_,_,hu,hdd,_⟩:=X.M7 t _ hty
  exact⟨d,hu,hdd⟩
 simp only[TD.ok]at ho2
 subst ho2
 have hv:=hk.val hx
 have hs:∃ad c k,a.eval x= .slice ad k c/\(ad=none->l=[]):=by
  generalize a.eval x=v at hv
  cases hv with
  |t hv=>
   generalize hq:l.map enc=q at hv
   cases hv with
   |slE a c=>exact⟨_,_,_,rfl,fun _=>by simpa using hq⟩
   |sl=>exact⟨_,_,_,rfl,fun h=>by cases h⟩
 obtain⟨ad,c,k,hx',hl⟩:=hs
 refine wpList_step fun K hK=>?_
 rw[V9 hk hg,if_pos rfl]
 unfold Oper.wp
 have aO9:(execOp a.eval o).run X.P w= .ok (.value (.bool ad.isNone)) w:=by
  have h1:a.eval (.const (.slice none 0 0))= .slice none 0 0:=rfl
  unfold execOp
  simp only[ho,hx',h1,bd5,cY6,dz0 w t e ad k c hu,aY1,bx4]
 rw[aO9]
 refine hK _ _ (h ad.isNone (fun hb=>hl (by simpa using hb)) r hr _ _ ⟨S,E,?_⟩)
 rw[hd]
 exact hk.put (ba1 hdn) (.t (.v _))
end
section
variable {τ α:Type} {X:Cx} {W9:List (Nat × T)} {hp:List (Nat × H6)} {all:Array Oper} {o:Oper}
end
def aT4 (X:Cx)(ops:Array Oper)(fe:Nat)(le:List Bool)(fuel:Nat)(l:List Bool)(σ σ':St):Prop:=
 ∀(Q:Exit->Act->World->Prop),(∀c a w,¬Q (.panic c) a w)->(∀a w,Sim X.w0 X.L X.nt σ' a w->wpAny X.P .any ops Q fe le.toArray a w)->∀a w,Sim X.w0 X.L X.nt σ a w->wpAny X.P .any ops Q fuel l.toArray a w
def ci3 (X:Cx)(ops:Array Oper)(fe:Nat)(le:List Bool)(fuel:Nat)(l:List Bool)(σ σ':St)(rs:List Nat):Prop:=
 ∀i∈rs,∀(Q:Exit->Act->World->Prop),(∀c a w,¬Q (.panic c) a w)->(∀a w,Sim X.w0 X.L X.nt σ' a w->wpAny X.P .any ops Q fe le.toArray a w)->∀a w,Sim X.w0 X.L X.nt σ a w->wpOp X.P ops Q i (wpAny X.P .any ops Q fuel (l.toArray.setIfInBounds i true)) a w
section
variable {ρ:Type} {X:Cx} {ks:List K} {ops:Array Oper} {fe fuel:Nat} {le l l':List Bool} {σ σ₁ σ':St} {m:Option ρ} {Q:ρ -> Exit -> St -> Prop} {o:Oper}
theorem aT4.done (hs:Sub σ' σ):aT4 X ops fe le fe le σ σ':=fun _ _ hQ a w hw=>hQ a w (hw.sub hs)
theorem aT4.all (rs:List Nat)(hr:Region.ready .any ops l.toArray=rs)(hne:rs.isEmpty=false)(h:ci3 X ops fe le fuel l σ σ' rs):aT4 X ops fe le (fuel+1) l σ σ':=fun Q hp hQ a w hw=>
 wpAny_all hr (by rintro rfl;cases hne) fun i hi=>h i hi Q hp hQ a w hw
theorem ci3.nil:ci3 X ops fe le fuel l σ σ' []:=fun _ h=>by cases h
theorem ci3.cons {i:Nat}{rs:List Nat}(l':List Bool)(ho:ops[i]? =some o)(hl:l.set i true=l')(h₁:C3 X ops [o] [] σ (some ()) (fun _ e σ''=>e= .normal/\Sub σ₁ σ''))(h₂:aT4 X ops fe le fuel l' σ₁ σ')(h₃:ci3 X ops fe le fuel l σ σ' rs):ci3 X ops fe le fuel l σ σ' (i::rs):=fun j hj Q hp hQ a w hw=>by
 rcases cr6.1 hj with rfl|hj
 ·have h:=h₁ () rfl a w hw
  unfold wpOp
  simp only[ho]
  have next:∀a w,wpList X.P ops (after X.P [] (X.post fun e σ''=>e= .normal/\Sub σ₁ σ'')) [] a w->wpAny X.P .any ops Q fuel (l.toArray.setIfInBounds j true) a w:=fun a w ⟨σ'',hs,_,e⟩=>by
   rw[eU9,hl]
   exact h₂ Q hp hQ a w (hs.sub e)
  unfold wpList at h
  split at h
  ·rename_i hg
   rw[if_pos hg]
   rcases h with h|⟨h1,h2⟩
   ·refine .inl ?_
    revert h
    unfold Oper.wp
    generalize(execOp a.eval o).run X.P w=r
    intro h
    cases r with
    |ok n w'=>
     cases n<;>simp only[Oper.upon]at h|-
     all_goals first
      |exact next _ _ h
      |exact Calls.mono h (fun e w'' he=>by cases e<;>first|exact next _ _ he|(obtain⟨_,_,_,_,he,_⟩:=he;cases he)|(obtain⟨_,_,he,_⟩:=he;cases he))
      |exact Rows.mono h (fun _ _ he=>next _ _ he)
      |(obtain⟨_,_,he,_⟩:=h;cases he)
      |exact h
    |halt x w'=>cases x<;>simp only[Oper.upon]at h|- <;>first|exact h|(obtain⟨_,_,he,_⟩:=h;cases he)
   ·obtain⟨_,_,_,_,he,_⟩:=h2;cases he
  ·rename_i hg
   rw[if_neg hg]
   exact next _ _ h
 ·exact h₃ j hj Q hp hQ a w hw
theorem aT4.fc1 {d:Nat}{V:T}{tm:List (Nat×T)}{hp:List (Nat×H6)}(i:Nat)(l':List Bool)(ho:ops[i]? =some o)(hl:l.set i true=l')(hd:o.dst=some d)(hdn:ba2 d X.nt=true)(hg:o.guard=none)
  (hs:Region.noSelect ops=true) (hf:Region.free .any ops l.toArray i=true) (hr:(Region.ready .any ops l.toArray).contains i=true)
  (hx:∀S E a w,Ok X.w0 X.L X.nt ⟨tm,hp⟩ S E a w->∃v,(∀w',(execOp a.eval o).run X.P w'= .ok (.value v) w')/\RV w S E v V) (h:aT4 X ops fe le fuel l' ⟨(d,V)::tm,hp⟩ σ'):
  aT4 X ops fe le (fuel+1) l ⟨tm,hp⟩ σ':=fun Q hpn hQ a w ⟨S,E,hk⟩=>by
 obtain⟨v,hv,hr'⟩:=hx S E a w hk
 refine wpAny_take ho hs hf hr (fun c a w hc=>absurd hc (hpn _ _ _)) (v:=v) (.inl ⟨?_,hv⟩) ?_
 ·unfold Region.wanted;rw[hg]
 ·rw[eU9,hl]
  exact h Q hpn hQ _ _ ⟨S,E,by rw[hd];exact hk.put (ba1 hdn) hr'⟩
theorem F9.eX8 {id:Nat}(h:Nat)(l lh:List Bool)(σ₁:St)(hmx:X.P.follows .mixedOrders=true)(hQ:∀r c σ,¬Q r (.panic c) σ)(hl:(fd6 ops.size false).toList=l)(hle:dQ0 h ops.size=true)
  (hlh:(dy2 ops.size).map (fun j=>ba2 j h)=lh) (ht:ev4 ops.toList h=true) (h₁:aT4 X ops (ops.size-h) lh ops.size l σ σ₁) (h₂:C3 X ops (ops.toList.drop h) [] σ₁ m Q):F9 X [.c (.region id ops true)] σ m Q:=fun r hr a w ⟨S,E,hk⟩=>by
 have hle:=ba1 hle
 have aL8:aW2 (fun _=>False) w {w with drawn:=w.drawn+1}:=⟨rfl,rfl,rfl,cB6 _,fun _ _ _=>rfl,Nat.le_succ _⟩
 have h3:=h₁ (X.post (Q r)) (fun c a w ⟨σ,_,hq⟩=>hQ r c σ hq) (fun a w hw=>by
  refine eg2 ht (ops.size-h) h lh.toArray a w (cB6 _) (by omega) (by rw[<-hlh];simp) (fun j hj=>?_) (h₂ r hr a w hw)
  rw[<-hlh,eT5]
  simp only[fc2,cM9]
  rw[List.getElem?_range hj]
  simp only[cb0,ey3]
  rw[Bool.eq_iff_iff,decide_eq_true_iff]
  exact⟨fun c=>ba1 c,fun c=>Nat.ble_eq_true_of_le c⟩) a _ ⟨S,E,hk.grow aL8⟩
 rw[<-hl,Array.toArray_toList]at h3
 exact wp_region_any (id:=id) hmx h3
end
def ltM {α:Type}(g:α->α->Option Int)(x y:α):Bool:=decide ((g x y).getD 0<0)
structure cJ5 {α:Type}(g:α->α->Option Int)(l:List α):Prop where
 len:l.length<4611686018427387904
 ans:∀x∈l,∀y∈l,∃c,g x y=some c
 irrefl:∀x∈l,ltM g x x=false
 trans:∀x∈l,∀y∈l,∀z∈l,ltM g x y=true->ltM g y z=true->ltM g x z=true
 ntrans:∀x∈l,∀y∈l,∀z∈l,ltM g x y=false->ltM g y z=false->ltM g x z=false
 tot:∀x∈l,∀y∈l,ltM g x y=false->ltM g y x=false->x=y
open Classical in
def bU6 {α:Type}(g:α->α->Option Int)(l:List α):Option (List α):=if cJ5 g l then some (l.mergeSort fun x y=>!ltM g y x)else none
theorem bU7 {α:Type}{g:α->α->Option Int}{l:List α}(h:cJ5 g l):bU6 g l=some (l.mergeSort fun x y=>!ltM g y x):=by
 unfold bU6;rw[if_pos h]
open Go.RowKit Go.Sort Go.Shelf Go.Proofs
section
variable {α:Type} [Inhabited α] (enc:α -> List Value) (k:Nat) (w:World) (β m:Nat) (d:Array α) (os:Array Obj)
theorem dn5:(sortWorldK enc k w β 0 m d os).heap.size=w.heap.size+os.size:=by
 simp[sortWorldK,putRowK,putRow,mapBlock,Sort.ahead,grow]
theorem dA2 (b:Nat)(hb:b<w.heap.size)(hne:b≠β):(sortWorldK enc k w β 0 m d os).heap[b]? =w.heap[b]?:=by
 simp only[sortWorldK,putRowK,putRow,mapBlock,Sort.ahead,grow]
 rw[eL5 (by simpa using hb),eU6,if_neg (Ne.symm hne)]
theorem eS8 {cs:Array Value}{elem:TypeId}(hh:w.heap[β]? =some (.cells cs elem (0,0))):(sortWorldK enc k w β 0 m d os).heap[β]? =some (.cells (putCells id 0 (flatK enc k d) cs) elem (0,0)):=by
 have hb:β<w.heap.size:=(dC3.1 hh).1
 simp only[sortWorldK,putRowK,putRow,mapBlock,Sort.ahead,grow]
 rw[eL5 (by simpa using hb),eU6,if_pos rfl,hh]
 rfl
theorem dR5 (L:Nat->Prop)(hL:L β):aW2 L w (sortWorldK enc k w β 0 m d os)where
 os:=rfl
 tape:=rfl
 output:=rfl
 size:=by rw[dn5];omega
 block:=fun b hb hn=>dA2 enc k w β m d os b hb (fun e=>hn (e▸hL))
 drawn:=by simp[sortWorldK,putRowK,putRow,mapBlock,Sort.ahead,grow]
end
theorem aW2.grown {w w':World}(h:aW2 (fun _=>False) w w'):∃q os,w'=grow (w.drewN q) os:=by
 refine⟨w'.drawn-w.drawn,w'.heap.extract w.heap.size w'.heap.size,?_⟩
 have hd:=h.drawn
 have hz:=h.size
 obtain⟨heap',tape',drawn',os',out'⟩:=w'
 have e1:=h.os;have e2:=h.tape;have e3:=h.output
 simp only at e1 e2 e3 hd hz
 subst e1 e2 e3
 simp only[grow,World.drewN,World.mk.injEq]
 refine⟨?_,trivial,by omega,trivial,trivial⟩
 apply Array.ext_getElem?
 intro i
 by_cases hi:i<w.heap.size
 ·rw[eL5 hi];exact h.block i hi (fun x=>x)
 ·rw[Array.getElem?_append_right (by omega),Array.getElem?_extract]
  split
  ·congr 1;omega
  ·rw[Array.getElem?_eq_none (by omega)]
theorem cY0 {α:Type}{g:α->α->Option Int}(l:List α):(l.attach.mergeSort fun x y=>!ltM g y.1 x.1).map (·.1)=l.mergeSort fun x y=>!ltM g y x:=by
 have:=List.map_mergeSort (r:=fun(x y:{x//x∈l})=>!ltM g y.1 x.1) (s:=fun x y=>!ltM g y x) (f:=fun x=>x.1) (l:=l.attach) (fun a _ b _=>rfl)
 rw[this]
 simp
theorem RTv {w:World}{S:Nat->Prop}{v u:Value}(h:RT w S v (.v u)):v=u:=by cases h;rfl
theorem cp6 {E : Type} {P : Program} {ρ : Ren} (L : SlLaysF0.n6 P ρ) {enc : E -> List Tree} {k : Nat} (ds6 : E -> List Value) (az8 : ∀ x, enc x = (ds6 x).map Tree.v) (hk : ∀ x, (ds6 x).length = k) (h1 : ∀ x, ∀ v ∈ ds6 x, v.oneCell' = true)
    (aE : ∀ w, (isAgg (ρ.t 24)).run P w = .ok true w) (zE : ∀ w, (Go.sizeOf (ρ.t 24)).run P w = .ok k w) {e n : Nat} {cs : List (List Tree)} {A : E -> T} (hA : ∀ x, A x = .agg ((enc x).map .t)) (g : E -> E -> Option Int)
    (hg : ∀ x y, aR1 P n ([A x, A y] ++ cs.map T.el) (g x y) (fun r => .t (tI r))) (l : List E) :
    bh9 P (ρ.f 6) [.own 1000000, .fz n cs] [(1000000, .rows e k l.length (l.map enc))] (bU6 g l) (fun _ => .S9 []) (fun r => [(1000000, .rows e k r.length (r.map enc))]) := by
  refine ⟨L.f6.enters rfl, fun r hr w S E vs hS hO hv => ?_⟩
  have hC : cJ5 g l := by
    unfold bU6 at hr; split at hr <;> first | assumption | cases hr
  rw [bU7 hC, aj7] at hr
  subst hr
  obtain ⟨v0, v1, rfl⟩ : ∃ v0 v1, vs = [v0, v1] := by
    have := hv.1
    match vs, this with
    | [a, b], _ => exact ⟨a, b, rfl⟩
  have r0 : RV w S E v0 (.own 1000000) := hv.2 0 (by simp) (by simp)
  have r1 : RV w S E v1 (.fz n cs) := hv.2 1 (by simp) (by simp)
  cases r0 with
  | own _ _ hE =>
  cases r1 with
  | fz _ ps _ hpl hp =>
  have hblk := hO.blk 1000000 (.rows e k l.length (l.map enc)) rfl
  rw [hE] at hblk
  obtain ⟨hn, ⟨hx, cQ2⟩ | ⟨β, cap, vs, hcm, hx, hh, hvl, bO1, hsz, hr⟩⟩ := hblk
  · -- no element
    have hl : l = [] := by simpa using cQ2
    subst hl
    subst hx
    refine (AnyF.slices_SortFunc_none L none 0 (.func (.func n) #[] ps.toArray) w).mono fun e' w' ⟨he, hw⟩ => ?_
    subst hw
    refine ⟨_, S, E, he, .S9 [] [] rfl fun j h1 => by simp at h1, aW2.refl _ _, hS, fun b hb => .inl hb, ?_, fun β hl => .inl ?_, fun _ _ => rfl⟩
    · simpa using hO
    · simpa using hl
  · have hl0 : l ≠ [] \/ l = [] := by by_cases h : l = [] <;> simp [h]
    simp only [cW3] at hx bO1
    subst hx
    by_cases hl : l = []
    · subst hl
      refine (AnyF.slices_SortFunc_none L (some ⟨β, 0, none⟩) cap (.func (.func n) #[] ps.toArray) w).mono fun e' w' ⟨he, hw⟩ => ?_
      subst hw
      refine ⟨_, S, E, he, .S9 [] [] rfl fun j h1 => by simp at h1, aW2.refl _ _, hS, fun b hb => .inl hb, ?_, fun β hl => .inl ?_, fun _ _ => rfl⟩
      · simpa using hO
      · simpa using hl
    obtain ⟨x0, hx0⟩ := List.exists_mem_of_ne_nil l hl
    haveI : Inhabited {x // x ∈ l} := ⟨⟨x0, hx0⟩⟩
    let bp5 : {x // x ∈ l} -> List Value := fun x => ds6 x.1
    let cf : {x // x ∈ l} -> {x // x ∈ l} -> Int := fun x y => (g x.1 y.1).getD 0
    let d : Array {x // x ∈ l} := l.attach.toArray
    have hds : d.size = l.length := by simp [d]
    have hlt : ∀ x y, ltOf cf x y = ltM g x.1 y.1 := fun x y => rfl
    have hO' : SWO (ltOf cf) := ⟨fun x => hC.irrefl _ x.2, fun x y z => hC.trans _ x.2 _ y.2 _ z.2, fun x y z => hC.ntrans _ x.2 _ y.2 _ z.2⟩
    have hβS : ¬ S β := (hO.own 1000000 (.rows e k l.length (l.map enc)) β rfl (by rw [hE]; rfl)).1
    have hβw : β < w.heap.size := (hO.own 1000000 (.rows e k l.length (l.map enc)) β rfl (by rw [hE]; rfl)).2
    have eg : ∀ args w, (callFunc n args).run P w = .ok (.enter n args) w := (hg x0 x0).1
    have hdget : ∀ i (hi : i < l.length), (d[i]!).1 = l[i] := fun i hi => by
      rw [getElem!_pos d i (by omega)]; simp [d]
    have hcmp : CmpLays P n ps.toArray bp5 k cf β 0 d.size w := by
      intro m os dk hdk x y
      obtain ⟨c, hc⟩ := hC.ans _ x.2 _ y.2
      have hW := dR5 bp5 k w β m dk os (fun b => b = β) rfl
      have hSW : ∀ b, S b -> (sortWorldK bp5 k w β 0 m dk os).heap[b]? = w.heap[b]? := fun b hb => dA2 bp5 k w β m dk os b (hS b hb) (fun e => hβS (e ▸ hb))
      have argA : ∀ z : {x // x ∈ l}, RV (sortWorldK bp5 k w β 0 m dk os) S E (.agg (bp5 z).toArray) (A z.1) := fun z => by
        rw [hA, az8]
        refine .agg _ _ (by simp [bp5]) fun j h1 h2 => ?_
        simp only [dB9]
        exact .t (.v _)
      have aL7 := (hg x.1 y.1).2 c hc (sortWorldK bp5 k w β 0 m dk os) S E ([.agg (bp5 x).toArray, .agg (bp5 y).toArray] ++ ps) (fun b hb => dN6 (hS b hb) hW.size) (by
        refine RVL.append (l := [A x.1, A y.1]) ⟨rfl, fun j h1 h2 => ?_⟩ ⟨by simpa using hpl, fun j h1 h2 => ?_⟩
        · match j, h1, h2 with
          | 0, _, _ => exact argA x
          | 1, _, _ => exact argA y
        · simp only [dB9]
          exact ((hp j h1 (by simpa using h2)).rv (E := E)).mono (fun _ x => x) hSW (fun _ _ => rfl))
      have e1 : (([.agg (bp5 x).toArray, .agg (bp5 y).toArray] : List Value) ++ ps).toArray = #[.agg (bp5 x).toArray, .agg (bp5 y).toArray] ++ ps.toArray := by simp
      rw [e1] at aL7
      refine aL7.mono fun e' w' ⟨v, S', he, hv', aL8, _, _⟩ => ?_
      subst he
      have : v = .int .i64 c := by
        cases hv' with | t h => exact RTv h
      subst this
      exact ⟨by simp [cf, hc], aL8.grown⟩
    have cm6 : ∀ i (hi : i < l.length) j (hj : j < k), ∃ hb : i * k + j < vs.length, vs[i * k + j] = (ds6 l[i])[j]'(by rw [hk]; exact hj) := fun i hi j hj => by
      have h2 : i * k + j < vs.length := by
        have : (i + 1) * k <= cap * k := cA4 _ (by omega)
        rw [dN7] at this; omega
      refine ⟨h2, ?_⟩
      have hlen : j < ((l.map enc)[i]'(by simpa using hi)).length := by simp [az8, hk]; exact hj
      have := hr i j (by simpa using hi) hlen h2
      have e2 : ((l.map enc)[i]'(by simpa using hi))[j]'hlen = .v ((ds6 l[i])[j]'(by rw [hk]; exact hj)) := by simp [az8]
      rw [e2] at this
      exact RTv this
    have hH : HoldsK bp5 k w β 0 d := by
      intro t ht
      rw [size_flatK, hds] at ht
      have hk0 : 0 < k := by rcases dS1 k with h | h; · subst h; simp at ht
                             · exact h
      have hi : t / k < l.length := eV2 (by rw [en8]; exact ht)
      have hj : t % k < k := eO7 _ hk0
      obtain ⟨hb, hc⟩ := cm6 _ hi _ hj
      have et : t / k * k + t % k = t := by rw [en8]; exact eY5 t k
      refine ⟨?_, by simp [World.frozen?, hh]⟩
      rw [cell_of_row w β (0 + t) _ e _ hh, get_flatK _ _ _ t (by rw [hds]; exact ht)]
      have h2 : (bp5 d[t / k]!)[t % k]! = vs[t / k * k + t % k] := by
        rw [hc, getElem!_pos _ _ (by simp only [bp5]; rw [hk]; exact hj)]
        simp only [bp5, hdget _ hi]
      rw [h2, cY7]
      simp only [id_eq, fc2]
      rw [aJ9 (by omega)]
      congr 2
      exact et.symm
    have hcon := AnyQ.slices_SortFunc_total L k aE zE bp5 (fun x => hk _) (fun x => h1 _) cf hO' n ps.toArray β 0 cap d w eg hcmp hH hβw (by rw [hds]; exact hC.len) (fun x y a b => Subtype.ext (hC.tot _ x.2 _ y.2 a b))
    rw [hds] at hcon
    have hmap := cY0 (g := g) l
    have hdl : d.toList = l.attach := by simp [d]
    rw [hdl] at hcon
    refine hcon.mono fun e' w' ⟨he, m, os, hw⟩ => ?_
    have hcong : (l.attach.mergeSort fun x y => !ltOf cf y x) = l.attach.mergeSort fun x y => !ltM g y.1 x.1 := rfl
    rw [hcong] at hw
    generalize (l.attach.mergeSort fun x y => !ltM g y.1 x.1) = q at hw hmap
    have hrl : (l.mergeSort fun x y => !ltM g y x).length = l.length := List.length_mergeSort l
    generalize (l.mergeSort fun x y => !ltM g y x) = r at hmap hrl |-
    have hql : q.length = r.length := by rw [<- hmap]; simp
    have dc9 : aD9 [(1000000, H6.rows e k l.length (l.map enc))] E β := ⟨1000000, _, rfl, by rw [hE]; rfl⟩
    subst hw
    have hqget : ∀ i (hi : i < r.length), (q.toArray[i]!).1 = r[i] := fun i hi => by
      rw [getElem!_pos q.toArray i (by simpa using (by omega : i < q.length))]
      subst hmap
      simp
    refine ⟨.tuple #[], S, E, he, .S9 [] [] rfl fun j h1 => by simp at h1, dR5 bp5 k w β m q.toArray os _ dc9, fun b hb => ?_, fun b hb => .inl hb, ⟨fun id b hl => ?_, fun id b β' hl hβ' => ?_, fun id id' b b' β' hl hl' _ _ => ?_⟩, fun β' ⟨id, b, hl, hβ'⟩ => .inl ?_, fun _ _ => rfl⟩
    · rw [dn5]; exact dN6 (hS b hb) (fh0 _ _)
    · have : id = 1000000 /\ b = .rows e k r.length (r.map enc) := by
        simp only [look] at hl
        by_cases hid : 1000000 = id
        · subst hid; simp at hl; exact ⟨rfl, hl.symm⟩
        · simp [D6 hid] at hl
      obtain ⟨rfl, rfl⟩ := this
      rw [hE]
      refine ⟨by simp, .inr ⟨β, cap, (putCells id 0 (flatK bp5 k q.toArray) vs.toArray).toList, hcm, by simp [hrl], by rw [eS8 bp5 k w β m q.toArray os hh], by simp [putCells, hvl], by simpa [hrl] using bO1, ?_, ?_⟩⟩
      · intro x hx
        obtain ⟨y, _, rfl⟩ := cZ1.1 hx
        simp [az8, hk]
      · intro i j hi hj hb
        have hi' : i < r.length := by simpa using hi
        have hj' : j < k := by simpa [az8, hk] using hj
        have hk0 : 0 < k := by omega
        have ht : i * k + j < r.length * k := by
          have : (i + 1) * k <= r.length * k := cA4 _ (by omega)
          rw [dN7] at this; omega
        have hdiv : (i * k + j) / k = i := by rw [en8, Nat.mul_add_div hk0, Nat.div_eq_of_lt hj', eb5]
        have hmod : (i * k + j) % k = j := by rw [en8, fe0, eY0 hj']
        have e1 : (putCells id 0 (flatK bp5 k q.toArray) vs.toArray).toList[i * k + j] = (ds6 r[i])[j]'(by rw [hk]; exact hj') := by
          simp only [fc4]
          simp only [putCells, Array.getElem_mapIdx, Nat.zero_le, true_and, cY7, Nat.sub_zero, size_flatK, eZ5, id_eq]
          rw [if_pos (by rw [hql]; exact ht), get_flatK _ _ _ _ (by simp only [eZ5]; rw [hql]; exact ht), hdiv, hmod, getElem!_pos _ _ (by simp only [bp5]; rw [hk]; exact hj')]
          simp only [bp5, hqget i hi']
        rw [e1]
        have e2 : ((r.map enc)[i]'hi)[j]'hj = .v ((ds6 r[i])[j]'(by rw [hk]; exact hj')) := by simp [az8]
        rw [e2]
        exact .v _
    · have : id = 1000000 := by
        simp only [look] at hl
        by_cases hid : 1000000 = id
        · exact hid.symm
        · simp [D6 hid] at hl
      subst this
      have : β' = β := by rw [hE] at hβ'; simpa [U5] using hβ'.symm
      subst this
      exact ⟨hβS, by rw [dn5]; omega⟩
    · simp only [look] at hl hl'
      by_cases hid : 1000000 = id
      · by_cases dk1 : 1000000 = id'
        · exact hid.symm.trans dk1
        · simp [D6 dk1] at hl'
      · simp [D6 hid] at hl
    · have : id = 1000000 := by
        simp only [look] at hl
        by_cases hid : 1000000 = id
        · exact hid.symm
        · simp [D6 hid] at hl
      subst this
      exact ⟨1000000, _, rfl, hβ'⟩
section
variable {X:Cx} {ops:Array Oper} {fe fuel:Nat} {le l l':List Bool} {σ':St} {o:Oper} {α:Type}
end
def V8 (k:IntKind)(x y:Int):Int:=k.wrap (BitVec.ofInt k.bits x&&&BitVec.ofInt k.bits y).toNat
def X1 (k:IntKind)(x y:Int):Int:=k.wrap (BitVec.ofInt k.bits x|||BitVec.ofInt k.bits y).toNat
def dE0 (k:IntKind)(x y:Int):Int:=k.wrap (BitVec.ofInt k.bits x^^^BitVec.ofInt k.bits y).toNat
def aP4 (k:IntKind)(x y:Int):Int:=k.wrap (BitVec.ofInt k.bits x&&& ~~~(BitVec.ofInt k.bits y)).toNat
def bP4 (k:IntKind)(x y:Int):Int:=k.wrap (x*2^(min y.toNat k.bits))
def F1 (k:IntKind)(x y:Int):Int:=x.fdiv (2^(min y.toNat k.bits))
abbrev aw6 {α:Type}(l:List α)(m:List (Nat×α)):List α:=m.foldl (fun l p=>l.set p.1 p.2) l
def cl5 (lo hi:Int)(n:Nat):Option Unit:=if 0<=lo/\lo<=hi/\hi<=n then some ()else none
def av3 {α:Type}(l:List α)(lo:Nat)(r:List α):List α:=l.take lo++r++l.drop (lo+r.length)
abbrev ej5 {α:Type}(l:List α)(lo hi lo2 hi2:Int):List α:=av3 l lo.toNat (((l.drop lo2.toNat).take (hi2.toNat-lo2.toNat)).take (hi.toNat-lo.toNat))
abbrev bI6 {α:Type}(l:List α)(lo hi:Int)(z:α):List α:=av3 l lo.toNat (cD1 (hi.toNat-lo.toNat) z)
def et2 (k:IntKind)(x y:Int):Option Int:=if y<0 then none else some (bP4 k x y)
def et3 (k:IntKind)(x y:Int):Option Int:=if y<0 then none else some (F1 k x y)
def cw2 (x:Int):Option Int:=if 0<=x/\x<=18446744073709551615 then some (Lib.bitLen x.toNat:Int)else none
def cw6 (x y:Int):Option (Int×Int):=if(0<=x/\x<=18446744073709551615)/\(0<=y/\y<=18446744073709551615)then some (x*y/18446744073709551616,x*y%18446744073709551616)else none
theorem eC4 {x:Int}(h0:0<=x)(h1:x<=4611686018427387904):o6 (F1 .u64 (aK3.wrap (o6 x)) 1)=x/2:=by
 rw[k6 (n:=x) (by omega) (by omega)]
 have e:aK3.wrap x=x:=by
  unfold IntKind.wrap
  simp only[eU4,IntKind.signed]
  simp only[show(2:Int)^64=18446744073709551616 from rfl,Bool.false_and,do8,if_false]
  omega
 rw[e]
 have e2:F1 .u64 x 1=x/2:=by
  unfold F1
  show x.fdiv 2=x/2
  exact Int.fdiv_eq_ediv_of_nonneg x (by decide)
 rw[e2]
 exact k6 (by omega) (by omega)
def cW0 {α:Type}(n:Int)(z:α):Option (List α):=if 0<n/\n<=1073741824 then some (cD1 n.toNat z)else none
def bU5 (l:List Int):Option (List Int):=if l.length<4611686018427387904 then some (l.mergeSort fun x y=>decide (x<=y))else none
def cz9 (p:Int):List Int->List Int
 |[]=>[]
 |y::l=>bif y==p then cz9 y l else y::cz9 y l
def bD9:List Int->List Int
 |[]=>[]
 |x::l=>x::cz9 x l
def bn1 (l:List Int):Option (List Int):=if l.length<=9223372036854775807 then some (bD9 l)else none
theorem cy3 {l:List Int}(h:l.length<4611686018427387904):bU5 l=some (l.mergeSort fun x y=>decide (x<=y)):=by
 unfold bU5;rw[if_pos h]
theorem cA0 {l:List Int}(h:l.length<=9223372036854775807):bn1 l=some (bD9 l):=by
 unfold bn1;rw[if_pos h]
theorem cN4 (x:Int):∀(l:List Int) (p:Int),cz9 p (l++[x])=cz9 p l++(if x=l.getLastD p then []else [x])
 |[],p=>by
  show(bif x==p then []else [x])=[]++(if x=p then []else [x])
  by_cases h:x=p
  ·rw[if_pos h,show(x==p)=true by simpa using h];rfl
  ·rw[if_neg h,show(x==p)=false by simpa using h];rfl
 |y::l,p=>by
  simp only[dK4,cz9,List.getLastD_cons]
  rw[cN4 x l y]
  cases y==p<;>rfl
theorem dE8 (x:Int):∀(l:List Int) (h:l≠[]),bD9 (l++[x])=bD9 l++(if x=l.getLast h then []else [x])
 |[],h=>(h rfl).elim
 |y::l,_=>by
  have e:(y::l).getLast (List.cons_ne_nil y l)=l.getLastD y:=by
   cases l with
   |nil=>rfl
   |cons z l=>rw[List.getLast_cons (List.cons_ne_nil z l)];rfl
  simp only[dK4,bD9]
  rw[cN4,e]
open Go.RowKit Go.Shelf Go.Proofs
theorem RVL.ff3 {w:World}{S:Nat->Prop}{E:Nat->Value}{vs:List Value}{a:Value}(h:RVL w S E vs [.t (.v a)]):vs=[a]:=by
 match vs,h with
 |[x],h=>have e:x=a:=RV.tv (h.2 0 (by simp) (by simp));rw[e]
 |[],h=>exact absurd h.1 (by simp)
 |_::_::_,h=>exact absurd h.1 (by simp)
theorem RVL.ff4 {w:World}{S:Nat->Prop}{E:Nat->Value}{vs:List Value}{a b:Value}(h:RVL w S E vs [.t (.v a),.t (.v b)]):vs=[a,b]:=by
 match vs,h with
 |[x,y],h=>have e:x=a:=RV.tv (h.2 0 (by simp) (by simp));have f:y=b:=RV.tv (h.2 1 (by simp) (by simp));rw[e,f]
 |[],h=>exact absurd h.1 (by simp)
 |[_],h=>exact absurd h.1 (by simp)
 |_::_::_::_,h=>exact absurd h.1 (by simp)
theorem dY0 {P:Program}{ρ:Ren}(L:Lays.n129 P ρ)(hc:∀vs w,(callFunc (ρ.f 129) vs).run P w= .ok (.enter (ρ.f 129) vs) w)(x:Int):
  aR1 P (ρ.f 129) [.t (tK .u64 x)] (cw2 x) (fun r=>.t (tI r)):=by
 refine⟨hc,fun r hr w S E vs hS hv=>?_⟩
 obtain rfl:=hv.ff3
 unfold cw2 at hr
 by_cases h:0<=x/\x<=18446744073709551615
 ·rw[if_pos h]at hr;cases hr
  refine(Any.bits_Len64 L x w h.1 h.2).mono fun e w' ⟨he,hw⟩=>?_
  subst hw
  exact⟨_,S,he,.t (.v _),.refl _ _,hS,fun b hb=>.inl hb⟩
 ·rw[if_neg h]at hr;cases hr
theorem dZ1 {P:Program}{ρ:Ren}(L:Lays.n264 P ρ)(hc:∀vs w,(callFunc (ρ.f 264) vs).run P w= .ok (.enter (ρ.f 264) vs) w)(x y:Int):
  aR1 P (ρ.f 264) [.t (tK .u64 x),.t (tK .u64 y)] (cw6 x y) (fun r=>.S9 [.t (tK .u64 r.1),.t (tK .u64 r.2)]):=by
 refine⟨hc,fun r hr w S E vs hS hv=>?_⟩
 obtain rfl:=hv.ff4
 unfold cw6 at hr
 by_cases h:(0<=x/\x<=18446744073709551615)/\(0<=y/\y<=18446744073709551615)
 ·rw[if_pos h]at hr;cases hr
  obtain⟨a,rfl⟩:∃a:Nat,x=a:=⟨x.toNat,by omega⟩
  obtain⟨b,rfl⟩:∃b:Nat,y=b:=⟨y.toNat,by omega⟩
  refine(Any.bits_Mul64 L a b (by omega) (by omega) w).mono fun e w' ⟨he,hw⟩=>?_
  subst hw
  refine⟨_,S,he,.S9 [_,_] _ rfl fun j h1 h2=>?_,.refl _ _,hS,fun b hb=>.inl hb⟩
  match j,h1 with
  |0,_=>exact .t (.v _)
  |1,_=>exact .t (.v _)
 ·rw[if_neg h]at hr;cases hr
section
variable {ρ:Type} {X:Cx} {ks:List K} {tm W9:List (Nat × T)} {hp:List (Nat × H6)} {Q:ρ -> Exit -> St -> Prop} {all:Array Oper} {o:Oper} {rest:List Oper}
end
theorem cu7 {lo hi:Int}{n:Nat}{y:Unit}(h:cl5 lo hi n=some y):lo.toNat+(hi.toNat-lo.toNat)<=n:=by
 unfold cl5 at h
 split at h
 ·omega
 ·cases h
theorem bA9 {α:Type}{l r:List α}{lo:Nat}(h:lo+r.length<=l.length):(av3 l lo r).length=l.length:=by
 unfold av3;simp;omega
theorem cN6 {α:Type}{l r:List α}{lo:Nat}(h:lo+r.length<=l.length)(i:Nat):(av3 l lo r)[i]? =if i<lo then l[i]?else if i<lo+r.length then r[i-lo]?else l[i]?:=by
 unfold av3
 by_cases h1:i<lo
 ·rw[if_pos h1,dq9,ee0 (by rw[bs8];omega),dx0,if_pos h1]
 ·rw[if_neg h1]
  by_cases h2:i<lo+r.length
  ·rw[if_pos h2,dq9,dG9 (by rw[bs8];omega),bs8,eN3 (by omega),ee0 (by omega)]
  ·rw[if_neg h2,dG9 (by rw[aX7,bs8];omega),aX7,bs8,eN3 (by omega),eU5]
   congr 1;omega
section
variable {P:Program} {w0:World} {L:Lim} {nt:Nat} {tm:List (Nat × T)} {hp:List (Nat × H6)} {S:Nat -> Prop} {E:Nat -> Value} {a:Act} {w:World}
theorem Ok.putAt (h:Ok w0 L nt ⟨tm,hp⟩ S E a w){id e sz n m cap β lo:Nat}{rs r2:List (List Tree)}{news:List Value}(hb:look hp id=some (.rows e sz n rs))(hE:E id= .slice (some ⟨β,0,none⟩) m cap)
  (hlo:lo+r2.length<=rs.length) (hnl:news.length=r2.length*sz) (bh4:∀u∈news,u.oneCell'=true) (h2:∀r∈r2,r.length=sz)
  (hnr:∀i j (hi:i<r2.length) (hj:j<(r2[i]).length) (hb:i*sz+j<news.length),RT w S (news[i*sz+j]) ((r2[i])[j])):
  ∃w',(storeCells ⟨β,lo*sz,none⟩ news).run P w= .ok () w'/\Ok w0 L nt ⟨tm,au9 hp id (.rows e sz n (av3 rs lo r2))⟩ S E a w':=by
 obtain⟨hn,aQ9⟩:=h.hp id _ hb
 have hcl:=bA9 hlo
 rcases aQ9 with⟨hE',_⟩|⟨β',dE5,cs,hcm,hE',hh,hcl2,hcc,hsz,hcr⟩
 ·rw[hE']at hE;cases hE
 ·rw[hE']at hE
  have hβ:β'=β:=by injection hE with h1;injection h1 with h1;injection h1
  subst hβ
  have hle1:(lo+r2.length)*sz<=dE5*sz:=cA4 _ (by omega)
  rw[eB2]at hle1
  have hst:=run_storeCells_at (P:=P) β' (lo*sz) e news 0 cs.toArray w hh (by simp;rw[hnl,hcl2];exact hle1) bh4
  simp only[eb5]at hst
  refine⟨_,hst,h.setRow hb (by rw[hE'];rfl) hh fun hS bO2=>⟨by rw[hcl];exact hn,.inr ⟨β',dE5,cs.take (lo*sz)++news++cs.drop (lo*sz+news.length),hcm,by rw[hcl];exact hE',bO2,?_,by rw[hcl];exact hcc,?_,?_⟩⟩⟩
  ·simp only[aX7,bs8,do0];omega
  ·intro r hr
   unfold av3 at hr
   rcases do2.1 hr with hr|hr
   ·rcases do2.1 hr with hr|hr
    ·exact hsz r (ey2 hr)
    ·exact h2 r hr
   ·exact hsz r (eV0 hr)
  ·intro i j hi hj hb'
   have hi2:i<rs.length:=by rw[<-hcl];exact hi
   have hg:=cN6 hlo i
   rw[aJ9 hi]at hg
   have hcat:∀k,(cs.take (lo*sz)++news++cs.drop (lo*sz+news.length))[k]? =if k<lo*sz then cs[k]?else if k<lo*sz+news.length then news[k-lo*sz]?else cs[k]?:=fun k=>cN6 (l:=cs) (r:=news) (lo:=lo*sz) (by omega) k
   by_cases h1:i<lo
   ·rw[if_pos h1,aJ9 hi2]at hg
    have eg:=cJ3 hg
    have hj1:j<(rs[i]).length:=by rw[<-eg];exact hj
    have hjs:j<sz:=by rw[<-hsz _ (bf2 hi2)];exact hj1
    have hlt:i*sz+j<lo*sz:=by
     have:(i+1)*sz<=lo*sz:=cA4 _ h1
     rw[dN7]at this;omega
    have hb2:i*sz+j<cs.length:=by omega
    have ec:(cs.take (lo*sz)++news++cs.drop (lo*sz+news.length))[i*sz+j]=cs[i*sz+j]:=by
     apply cJ3
     rw[<-aJ9,hcat,if_pos hlt,aJ9 hb2]
    simp only[eg]
    rw[ec]
    exact(hcr i j hi2 hj1 hb2).mono (fun _ x=>x) hS
   ·rw[if_neg h1]at hg
    by_cases h3:i<lo+r2.length
    ·rw[if_pos h3,aJ9 (by omega)]at hg
     have eg:=cJ3 hg
     have hj1:j<(r2[i-lo]'(by omega)).length:=by rw[<-eg];exact hj
     have hjs:j<sz:=by rw[<-h2 _ (bf2 (by omega:i-lo<r2.length))];exact hj1
     have e1:i*sz=lo*sz+(i-lo)*sz:=by rw[<-eB2];congr 1;omega
     have hlt:(i-lo)*sz+j<news.length:=by
      have:(i-lo+1)*sz<=r2.length*sz:=cA4 _ (by omega)
      rw[dN7]at this;omega
     have ec:(cs.take (lo*sz)++news++cs.drop (lo*sz+news.length))[i*sz+j]=news[(i-lo)*sz+j]:=by
      apply cJ3
      rw[<-aJ9,hcat,if_neg (by omega),if_pos (by omega),<-aJ9 hlt]
      congr 1;omega
     simp only[eg]
     rw[ec]
     exact(hnr (i-lo) j (by omega) hj1 hlt).mono (fun _ x=>x) hS
    ·rw[if_neg h3,aJ9 hi2]at hg
     have eg:=cJ3 hg
     have hj1:j<(rs[i]).length:=by rw[<-eg];exact hj
     have hle:(lo+r2.length)*sz<=i*sz:=cA4 _ (by omega)
     rw[eB2]at hle
     have hjs:j<sz:=by rw[<-hsz _ (bf2 hi2)];exact hj1
     have hb2:i*sz+j<cs.length:=by
      have:(i+1)*sz<=dE5*sz:=cA4 _ (by omega)
      rw[dN7]at this;omega
     have ec:(cs.take (lo*sz)++news++cs.drop (lo*sz+news.length))[i*sz+j]=cs[i*sz+j]:=by
      apply cJ3
      rw[<-aJ9,hcat,if_neg (by omega),if_neg (by omega),aJ9 hb2]
     simp only[eg]
     rw[ec]
     exact(hcr i j hi2 hj1 hb2).mono (fun _ x=>x) hS
theorem bW5 {hp:List (Nat×H6)}{id:Nat}{b:H6}:∀{hp:List (Nat×H6)},look hp id=some b->∀k,look (au9 hp id b) k=look hp k:=fun{hp} h k=>by
 rw[aF3]
 by_cases e:id=k
 ·subst e;simp[h]
 ·simp[e]
theorem Ok.du1 (h:Ok w0 L nt ⟨tm,hp⟩ S E a w){id:Nat}{b:H6}(hb:look hp id=some b):Ok w0 L nt ⟨tm,au9 hp id b⟩ S E a w:={h with
 hp:=fun k c hk=>h.hp k c (by simp only at hk;rw[bW5 (hp:=hp) hb]at hk;exact hk)
 own:=fun k c β hk=>h.own k c β (by simp only at hk;rw[bW5 (hp:=hp) hb]at hk;exact hk)
 au8:=fun k k' c c' β hk hk'=>h.au8 k k' c c' β (by simp only at hk;rw[bW5 (hp:=hp) hb]at hk;exact hk) (by simp only at hk';rw[bW5 (hp:=hp) hb]at hk';exact hk')}
end
section
variable {ρ α:Type} {X:Cx} {ks:List K} {tm W9:List (Nat × T)} {hp:List (Nat × H6)} {m:Option ρ} {Q:ρ -> Exit -> St -> Prop} {all:Array Oper} {o:Oper} {rest:List Oper}
theorem ex1 {w0:World}{L:Lim}{nt:Nat}{S:Nat->Prop}{E:Nat->Value}{a:Act}{w:World}{tm0:List (Nat×T)}(hk:Ok w0 L nt ⟨tm0,hp⟩ S E a w){D5:Tab}{P:Program}(M7:aV6 P D5){t e e' n s0 id sz:Nat}{z0:List Value}{te:TI}{x:Operand}{lo hi:Option Operand}{l:List α}{i j:Int}{enc:α->List Tree}
  (ho:o.op= .slice t x lo hi none) (hx:val tm0 x=some (.own id)) (hb:look hp id=some (.rows e sz n (l.map enc))) (hty:look D5 t=some ⟨s0,.slice e',z0⟩) (hte:look D5 e'=some te) (hsz:te.size=sz)
  (hlo:cw9 tm0 0 lo=some i) (hhi:cw9 tm0 l.length hi=some j) (hc:cl5 i j l.length=some ()):
  ∃v,(execOp a.eval o).run P w= .ok (.value v) w/\RV w S E v (.vw id i.toNat (j.toNat-i.toNat) sz):=by
 unfold cl5 at hc
 split at hc<;>try(cases hc;done)
 rename_i hbd0
 obtain⟨h0,h1,h2⟩:=hbd0
 obtain⟨q,dd,hi',hs,hu,hdd,_⟩:=M7 t _ hty
 simp only[TD.ok]at hdd
 subst hdd
 have hs':=(M7 e' _ hte).aH0 w
 have hxv:a.eval x=E id:=by
  have hv:=hk.val hx
  generalize a.eval x=sv at hv
  cases hv with|own _ _ hE=>exact hE.symm
 obtain⟨hn,aQ9⟩:=hk.hp id _ hb
 have hn':n=l.length:=by simpa using hn
 subst hn'
 rcases aQ9 with⟨hE,hr0⟩|⟨β,cap,cs,hcm,hE,hh,hcl,hcc,hszr,hcr⟩
 ·have hl0:l=[]:=by simpa using hr0
  subst hl0
  have hj0:j=0:=by simp at h2;omega
  have hi0:i=0:=by omega
  subst hj0 hi0
  have hbd:=bw7 (P:=P) (w:=w) (n:=0) (c:=0) (bn7 hk hlo) (bn7 hk hhi) (dF5 0) (dF5 0) (dF5 0)
  have hbd':(Instr.sliceBounds true 0 0 (lo.map a.eval) (hi.map a.eval) none).run P w= .ok (0,0,0) w:=hbd
  refine⟨.slice none 0 0,?_,.vw id _ _ sz 0 none (.inl rfl)⟩
  simp only[execOp,ho,Instr.sliceAt,bd5,run_underlying hu,aY1,Instr.slice,hxv,hE,eY6,hbd',hs',bx4]
  rfl
 ·have hcc':l.length<=cap:=by simpa using hcc
  have hbd:=bw7 (P:=P) (w:=w) (n:=l.length) (c:=cap) (bn7 hk hlo) (bn7 hk hhi) h0 h1 (by omega)
  simp only[cW3]at hE
  refine⟨_,by
   simp only[execOp,ho,Instr.sliceAt,bd5,run_underlying hu,aY1,Instr.slice,hxv,hE,eY6,hbd,hs',bx4]
   rfl,?_⟩
  refine .vw id _ _ sz _ _ ?_
  by_cases hz:j.toNat-i.toNat=0
  ·exact .inl hz
  ·refine .inr ⟨β,_,cap,hE,?_⟩
   have hne:¬cap=i.toNat:=by omega
   simp only[hne,if_false,cb0,aC6,cY7,hsz]
theorem C3.dg5 {t e e' d n s0 id sz:Nat}{z0:List Value}{te:TI}{x:Operand}{lo hi:Option Operand}{l:List α}{i j:Int}{enc:α->List Tree}{k:Unit->Option ρ}
  (ho:o.op= .slice t x lo hi none) (hd:o.dst=some d) (hdn:ba2 d X.nt=true) (hg:aj1 all.toList tm o.guard=some true) (hx:val tm x=some (.own id)) (hb:look hp id=some (.rows e sz n (l.map enc)))
  (hty:look X.D5 t=some ⟨s0,.slice e',z0⟩) (hte:look X.D5 e'=some te) (hsz:te.size=sz) (hlo:cw9 tm 0 lo=some i) (hhi:cw9 tm l.length hi=some j)
  (h:∀y,cl5 i j l.length=some y->C3 X all rest ks ⟨(d,.vw id i.toNat (j.toNat-i.toNat) sz)::tm,hp⟩ (k y) Q):C3 X all (o::rest) ks ⟨tm,hp⟩ ((cl5 i j l.length).bind k) Q:=
 C3.one hd hdn hg (fun _=>.vw id i.toNat (j.toNat-i.toNat) sz) (fun y S E a w hm hk=>by
  cases y
  exact ex1 hk X.M7 ho hx hb hty hte hsz hlo hhi hm) h
theorem eS1 {w0:World}{L:Lim}{nt:Nat}{S:Nat->Prop}{E:Nat->Value}{a:Act}{w:World}{tm0:List (Nat×T)}(hk:Ok w0 L nt ⟨tm0,hp⟩ S E a w){id e sz n lo q:Nat}{rs:List (List Tree)}{v:Value}(hb:look hp id=some (.rows e sz n rs))(hv:RV w S E v (.vw id lo q sz))(hle:lo+q<=rs.length)
  (bh4:∀r∈rs,∀t∈r,aQ6 t=true):Src w S v q sz ((rs.drop lo).take q):=by
 refine⟨by rw[bs8,do0];omega,?_⟩
 cases hv with
 |vw _ _ _ _ c ad h=>
  refine⟨ad,c,rfl,fun h0=>?_⟩
  rcases h with h|⟨β,m,cap,hE,ha⟩
  ·omega
  ·obtain⟨hn,aQ9⟩:=hk.hp id _ hb
   rcases aQ9 with⟨hE',_⟩|⟨β',dE5,cs,hcm,hE',hh,hcl2,hcc,hsz,hcr⟩
   ·rw[hE']at hE;cases hE
   ·rw[hE']at hE
    have hβ:β'=β:=by injection hE with h1;injection h1 with h1;injection h1
    subst hβ
    have hle1:(lo+q)*sz<=dE5*sz:=cA4 _ (by omega)
    rw[eB2]at hle1
    have hlen:((cs.drop (lo*sz)).take (q*sz)).length=q*sz:=by rw[bs8,do0];omega
    have cell:∀k (hk1:k<q*sz),∃(h1:lo+k/sz<rs.length) (h2:k%sz<(rs[lo+k/sz]).length) (h3:lo*sz+k<cs.length),RT w S (cs[lo*sz+k]) ((rs[lo+k/sz])[k%sz]):=fun k hk1=>by
     have hs0:0<sz:=bK7 hk1
     have h1:k/sz<q:=eV2 (by rw[en8];exact hk1)
     have h2:k%sz<(rs[lo+k/sz]'(by omega)).length:=by rw[hsz _ (bf2 _)];exact eO7 _ hs0
     have e1:(lo+k/sz)*sz+k%sz=lo*sz+k:=by have:=eY5 k sz;rw[en8]at this;rw[eB2];omega
     refine⟨by omega,h2,by omega,?_⟩
     have:=hcr (lo+k/sz) (k%sz) (by omega) h2 (by omega)
     simp only[e1]at this
     exact this
    refine⟨⟨β',lo*sz,none⟩,(cs.drop (lo*sz)).take (q*sz),ha,hlen,fun j u hu=>?_,fun u hu=>?_,fun i j hi hj hb2=>?_⟩
    ·rw[dx0]at hu
     split at hu
     ·rw[eU5]at hu
      rw[aC6,cell_of_row w β' _ _ e _ hh];simpa using hu
     ·cases hu
    ·obtain⟨k,hk1,rfl⟩:=da7.1 hu
     have hk2:k<q*sz:=by rw[hlen]at hk1;exact hk1
     obtain⟨h1,h2,h3,h4⟩:=cell k hk2
     rw[ed8,ex8]
     exact h4.one (bh4 _ (bf2 h1) _ (bf2 h2))
    ·have hi2:i<q:=by rw[bs8,do0]at hi;omega
     have e1:((rs.drop lo).take q)[i]=rs[lo+i]'(by omega):=by rw[ed8,ex8]
     have hj1:j<(rs[lo+i]'(by omega)).length:=by rw[<-e1];exact hj
     have e2:(lo+i)*sz+j=lo*sz+(i*sz+j):=by rw[eB2];omega
     have hlt:lo*sz+(i*sz+j)<cs.length:=by rw[hlen]at hb2;omega
     have:=hcr (lo+i) j (by omega) hj1 (by rw[e2];exact hlt)
     simp only[e2]at this
     simp only[e1]
     rw[ed8,ex8]
     exact this
theorem C3.copyV {t t2 e e' n s0 id lo q lo2 q2:Nat}{z0:List Value}{te:TI}{s x:Operand}{l:List α}{enc:α->List Tree}{σ₁:St}{hc hc2:Prop}
  (h1:hc) (h2:hc2) (hle:hc->lo+q<=l.length) (hle2:hc2->lo2+q2<=l.length)
  (ho:o.op= .call ⟨.builtin .copy,#[s,x],#[t,t2]⟩) (hg:aj1 all.toList tm o.guard=some true)
  (hty:look X.D5 t=some ⟨s0,.slice e',z0⟩) (hte:look X.D5 e'=some te) (az8:∀y,(enc y).length=te.size) (bh4:∀y,(enc y).all aQ6=true)
  (hs:val tm s=some (.vw id lo q te.size)) (hx:val tm x=some (.vw id lo2 q2 te.size)) (hb:look hp id=some (.rows e te.size n (l.map enc)))
  (au9:bw5 X.nt o.dst (.t (.v (.int .i64 (min q2 q:Nat)))) ⟨tm,au9 hp id (.rows e te.size (av3 l lo (((l.drop lo2).take q2).take q)).length ((av3 l lo (((l.drop lo2).take q2).take q)).map enc))⟩=some σ₁)
  (h:C3 X all rest ks σ₁ m Q):C3 X all (o::rest) ks ⟨tm,hp⟩ m Q:=fun y hy a w ⟨S,E,hk⟩=>by
 have hle:=hle h1
 have hle2:=hle2 h2
 obtain⟨dd,hu,ho2⟩:∃d,X.P.underlying t=some d/\TD.ok X.P (.slice e') d:=by
  obtain⟨i,d,_,_,hu,hdd,_⟩:=X.M7 t _ hty
  exact⟨d,hu,hdd⟩
 simp only[TD.ok]at ho2
 subst ho2
 obtain⟨i0,d0,hi0,hs0,_⟩:=X.M7 e' _ hte
 have hn:n=l.length:=by have:=(hk.hp id _ hb).1;simpa using this
 subst hn
 have cf6:=eS1 hk hb (hk.val hx) (by simpa using hle2) (bH3 bh4 l)
 obtain⟨_,ad2,c2,hxe,cf6⟩:=cf6
 have bh3:=hk.val hs
 have hrl:((l.drop lo2).take q2).length=q2:=by rw[bs8,do0];omega
 have e0:((l.map enc).drop lo2).take q2=((l.drop lo2).take q2).map enc:=by simp[fd1,fe9]
 have hcl:(av3 l lo (((l.drop lo2).take q2).take q)).length=l.length:=bA9 (by rw[bs8,hrl];omega)
 rw[hcl]at au9
 have e1:(av3 l lo (((l.drop lo2).take q2).take q)).map enc=av3 (l.map enc) lo ((((l.drop lo2).take q2).take q).map enc):=by simp[av3,fd1,fe9]
 rw[e1]at au9
 generalize hse:a.eval s=sv at bh3
 have fin:∀w',(Builtin.copy_ #[t,t2] o.type #[sv,.slice ad2 q2 c2]).run X.P w= .ok (.int .i64 (min q2 q:Nat)) w'->
   Ok X.w0 X.L X.nt ⟨tm,Go.Pv.au9 hp id (.rows e te.size l.length (av3 (l.map enc) lo ((((l.drop lo2).take q2).take q).map enc)))⟩ S E a w'->wpList X.P all (after X.P ks (X.post (Q y))) (o::rest) a w:=fun w' hr hok=>by
  refine wpList_step fun K hK=>?_
  rw[V9 hk hg,if_pos rfl]
  unfold Oper.wp
  have aO9:(execOp a.eval o).run X.P w= .ok (.value (.int .i64 (min q2 q:Nat))) w':=by
   unfold execOp
   simp only[ho,resolve,invoke,builtin,bd5,bx4,aY1,eX7,cX5,ep3,hse,hxe,hr]
  rw[aO9]
  exact hK _ _ (h y hy _ _ ⟨S,E,bA0 hok (.t (.v _)) au9⟩)
 cases bh3 with
 |vw _ _ _ _ c ad hvw=>
  have cv8:Nat.min q2 q=min q2 q:=rfl
  by_cases hz:min q2 q=0
  · --nothing to copy
   have hf:(Builtin.firstCells i0.size 0 (.slice ad2 q2 c2)).run X.P w= .ok #[] w:=by cases ad2<;>simp[Builtin.firstCells,loadCells,loadCellsFrom]
   have cQ2:((l.drop lo2).take q2).take q=[]:=ex7 (by rw[bs8,hrl,Nat.min_comm];exact hz)
   refine fin w ?_ ?_
   ·cases ad<;>simp[Builtin.copy_,run_underlying hu,Builtin.lenOf,sizeOf,typeInfo,hi0,hf,goInt,cv8,hz,storeCells]
   ·rw[cQ2]
    have:av3 (l.map enc) lo (List.map enc [])=l.map enc:=by simp[av3]
    rw[this]
    exact hk.du1 hb
  ·have hq0:0<q2:=by omega
   obtain⟨ad2',dD3,rfl,hal,hac,hon,har⟩:=cf6 hq0
   rcases hvw with hvw|⟨β,m',cap,hE,rfl⟩
   ·omega
   ·have hle3:min q2 q*te.size<=q2*te.size:=cA4 _ (Nat.min_le_left _ _)
    have dt9:(Builtin.firstCells i0.size (min q2 q) (.slice (some ad2') q2 c2)).run X.P w= .ok (dD3.take (min q2 q*te.size)).toArray w:=by
     have:=run_loadCells_list (P:=X.P) w ad2' (dD3.take (min q2 q*te.size)) (fun j u hu=>by
      rw[dx0]at hu
      split at hu
      ·exact hac j u hu
      ·cases hu)
     rw[bs8,hal,eN3 hle3]at this
     simp[Builtin.firstCells,hs0,this]
    have hr2l:((((l.drop lo2).take q2).take q).map enc).length=min q2 q:=by rw[cW3,bs8,hrl,Nat.min_comm]
    obtain⟨w',hst,hok⟩:=hk.putAt (P:=X.P) (lo:=lo) (r2:=(((l.drop lo2).take q2).take q).map enc) (news:=dD3.take (min q2 q*te.size)) hb hE (by rw[hr2l];simp;omega) (by rw[bs8,hal,hr2l];exact eN3 hle3) (fun u hu=>hon u (ey2 hu))
     (fun r hr=>by obtain⟨z,_,rfl⟩:=cZ1.1 hr;exact az8 z)
     (fun i j hi hj hbb=>by
      rw[hr2l]at hi
      have hi2:i<(((l.map enc).drop lo2).take q2).length:=by rw[e0,cW3,hrl];omega
      have eg:((((l.drop lo2).take q2).take q).map enc)[i]'(by rw[hr2l];exact hi)=(((l.map enc).drop lo2).take q2)[i]:=by
       simp[ed8,ex8]
      have hj2:j<((((l.map enc).drop lo2).take q2)[i]).length:=by rw[<-eg];exact hj
      have hb3:i*te.size+j<dD3.length:=by rw[bs8]at hbb;omega
      have:=har i j hi2 hj2 hb3
      simp only[eg]
      rw[ed8]
      exact this)
    refine fin w' ?_ hok
    simp[Builtin.copy_,run_underlying hu,Builtin.lenOf,sizeOf,typeInfo,hi0,cv8,dt9,goInt,hst]
theorem C3.ei7 {t e e' n s0 id lo q:Nat}{z0:List Value}{te:TI}{x:Operand}{l:List α}{enc:α->List Tree}{σ₁:St}{hc:Prop}(z:α)
  (h1:hc) (hle:hc->lo+q<=l.length)
  (ho:o.op= .call ⟨.builtin .clear,#[x],#[t]⟩) (hg:aj1 all.toList tm o.guard=some true)
  (hty:look X.D5 t=some ⟨s0,.slice e',z0⟩) (hte:look X.D5 e'=some te) (hz:te.zero.length=te.size) (bJ7:ba2 0 te.size=true) (hones:te.zero.all Value.oneCell'=true) (az8:enc z=te.zero.map fun v=>aE6 (.v v))
  (hx:val tm x=some (.vw id lo q te.size)) (hb:look hp id=some (.rows e te.size n (l.map enc)))
  (au9:bw5 X.nt o.dst (.S9 []) ⟨tm,au9 hp id (.rows e te.size (av3 l lo (cD1 q z)).length ((av3 l lo (cD1 q z)).map enc))⟩=some σ₁)
  (h:C3 X all rest ks σ₁ m Q):C3 X all (o::rest) ks ⟨tm,hp⟩ m Q:=fun y hy a w ⟨S,E,hk⟩=>by
 have hle:=hle h1
 obtain⟨dd,hu,ho2⟩:∃d,X.P.underlying t=some d/\TD.ok X.P (.slice e') d:=by
  obtain⟨i,d,_,_,hu,hdd,_⟩:=X.M7 t _ hty
  exact⟨d,hu,hdd⟩
 simp only[TD.ok]at ho2
 subst ho2
 have hn:n=l.length:=by have:=(hk.hp id _ hb).1;simpa using this
 subst hn
 have bh3:=hk.val hx
 have hcl:(av3 l lo (cD1 q z)).length=l.length:=bA9 (by rw[List.length_replicate];exact hle)
 rw[hcl]at au9
 have e1:(av3 l lo (cD1 q z)).map enc=av3 (l.map enc) lo ((cD1 q z).map enc):=by simp[av3,fd1,fe9]
 rw[e1]at au9
 generalize hse:a.eval x=sv at bh3
 have fin:∀w',(Builtin.clear_ #[t] o.type #[sv]).run X.P w= .ok (.tuple #[]) w'->
   Ok X.w0 X.L X.nt ⟨tm,Go.Pv.au9 hp id (.rows e te.size l.length (av3 (l.map enc) lo ((cD1 q z).map enc)))⟩ S E a w'->wpList X.P all (after X.P ks (X.post (Q y))) (o::rest) a w:=fun w' hr hok=>by
  refine wpList_step fun K hK=>?_
  rw[V9 hk hg,if_pos rfl]
  unfold Oper.wp
  have aO9:(execOp a.eval o).run X.P w= .ok (.value (.tuple #[])) w':=by
   unfold execOp
   simp only[ho,resolve,invoke,builtin,bd5,bx4,aY1,eX7,cX5,ep3,hse,hr]
  rw[aO9]
  exact hK _ _ (h y hy _ _ ⟨S,E,bA0 hok (.S9 [] [] rfl fun j h1=>by simp at h1) au9⟩)
 cases bh3 with
 |vw _ _ _ _ c ad hvw=>
  by_cases hq:q=0
  ·subst hq
   refine fin w ?_ ?_
   ·cases ad<;>simp[Builtin.clear_,run_underlying hu]
   ·have:av3 (l.map enc) lo (List.map enc (cD1 0 z))=l.map enc:=by simp[av3]
    rw[this]
    exact hk.du1 hb
  ·rcases hvw with hvw|⟨β,m',cap,hE,rfl⟩
   ·exact absurd hvw hq
   ·obtain⟨zv,hzr,hzc⟩:=(X.M7 e' _ hte).bU2 w
    have hzl:zv.cells.size=te.size:=by rw[<-hz,<-hzc];simp
    have cm7:(Builtin.zeroCells zv.cells q).toList=aW1 q te.zero:=by
     unfold Builtin.zeroCells
     rw[dB7 q zv.cells (by rw[hzl];exact dN6 fe3 (ba1 bJ7)),hzc]
    have hlen:(aW1 q te.zero).length=q*te.size:=by rw[bs4,hz]
    have hp0:0<te.zero.length:=by rw[hz];exact ba1 bJ7
    obtain⟨w',hst,hok⟩:=hk.putAt (P:=X.P) (lo:=lo) (r2:=(cD1 q z).map enc) (news:=aW1 q te.zero) hb hE (by simp;omega) (by rw[hlen];simp)
     (fun u hu=>by
      obtain⟨k,hk1,rfl⟩:=da7.1 hu
      have hk2:k<q*te.zero.length:=by rw[bs4]at hk1;exact hk1
      have hg:=bY4 te.zero hp0 q k hk2
      rw[aJ9 hk1]at hg
      have:=dv3 hg.symm
      exact by6.1 hones _ this)
     (fun r hr=>by
      obtain⟨y,hy,rfl⟩:=cZ1.1 hr
      rw[List.eq_of_mem_replicate hy,az8,cW3,hz])
     (fun i j hi hj hbb=>by
      have hi2:i<q:=by simpa using hi
      have eg:((cD1 q z).map enc)[i]=te.zero.map fun v=>aE6 (.v v):=by simp[az8]
      have hj2:j<te.size:=by rw[eg,cW3,hz]at hj;exact hj
      have hk2:i*te.size+j<q*te.zero.length:=by rw[hz];rw[hlen]at hbb;exact hbb
      have hg:=bY4 te.zero hp0 q (i*te.size+j) hk2
      rw[aJ9 hbb]at hg
      have hmod:(i*te.size+j)%te.zero.length=j:=by rw[hz,en8,fe0,eY0 hj2]
      rw[hmod,aJ9 (by rw[hz];exact hj2)]at hg
      have e2:=cJ3 hg
      simp only[eg]
      rw[e2,dB9]
      exact bb6 (.v _))
    refine fin w' ?_ hok
    obtain⟨q',rfl⟩:∃k,q=k+1:=⟨q-1,by omega⟩
    simp only[Builtin.clear_,run_underlying hu,bd5,aY1,fc2,cZ9,hzr,cm7,hst,bx4]
end
section
variable {X:Cx} {ops:Array Oper} {fe fuel:Nat} {le l l':List Bool} {σ':St} {o:Oper}
end
section
variable {ρ:Type} {X:Cx} {ks:List K} {σ:St} {m:Option ρ} {Q:ρ -> Exit -> St -> Prop}
theorem cb6 {P:Program}{Q:Exit->Act->World->Prop}{l:Nat}{a:Act}{w:World}:∀(ks:List K),after P ks Q (.goto l) a w->Q (.goto l) a w
 |[],h=>h
 | .c _::ks,h=>cb6 ks h
 | .e _::ks,h=>cb6 ks h
theorem F9.scope {x:Code}(hQ:∀r l σ,¬Q r (.goto l) σ)(h:F9 X (.c x::ks) σ m Q):F9 X (.c (.scope x)::ks) σ m Q:=fun r hr a w hw=>by
 refine wp_scope_straight (wp_mono (h r hr a w hw) ?_)
 intro e a w he
 cases e with
 |goto l=>obtain⟨σ,_,hq⟩:=cb6 ks he;exact hQ r l σ hq
 |_=>exact he
theorem F9.label {l:Nat}(h:F9 X ks σ m Q):F9 X (.c (.label l)::ks) σ m Q:=fun r hr a w hw=>wp_label (h r hr a w hw)
end
def bm:Nat->Nat->List Bool
 |0,_=>[]
 |n+1,k=>bx3 (k%2) 1::bm n (k/2)
abbrev H6.rs {α:Type}(e sz:Nat)(l:List α)(enc:α->List Tree):H6:=.rows e sz l.length (l.map enc)
section
variable {X:Cx} {ops:Array Oper} {fe fuel:Nat} {le l:List Bool} {σ σ₁ σ₂ σ':St} {o:Oper}
theorem ci3.eX6 {i:Nat}{rs:List Nat}(l':List Bool)(ho:ops[i]? =some o)(hl:l.set i true=l')(h₁:C3 X ops [o] [] σ (some ()) (fun _ e σ''=>e= .normal/\σ''=σ₁))(h₂:aT4 X ops fe le fuel l' σ₁ σ')(h₃:ci3 X ops fe le fuel l σ σ' rs):ci3 X ops fe le fuel l σ σ' (i::rs):=fun j hj Q hp hQ a w hw=>by
 rcases cr6.1 hj with rfl|hj
 ·have h:=h₁ () rfl a w hw
  unfold wpOp
  simp only[ho]
  have next:∀a w,wpList X.P ops (after X.P [] (X.post fun e σ''=>e= .normal/\σ''=σ₁)) [] a w->wpAny X.P .any ops Q fuel (l.toArray.setIfInBounds j true) a w:=fun a w ⟨σ'',hs,_,e⟩=>by
   rw[eU9,hl]
   subst e;exact h₂ Q hp hQ a w hs
  unfold wpList at h
  split at h
  ·rename_i hg
   rw[if_pos hg]
   rcases h with h|⟨h1,h2⟩
   ·refine .inl ?_
    revert h
    unfold Oper.wp
    generalize(execOp a.eval o).run X.P w=r
    intro h
    cases r with
    |ok n w'=>
     cases n<;>simp only[Oper.upon]at h|-
     all_goals first
      |exact next _ _ h
      |exact Calls.mono h (fun e w'' he=>by cases e<;>first|exact next _ _ he|(obtain⟨_,_,_,_,he,_⟩:=he;cases he)|(obtain⟨_,_,he,_⟩:=he;cases he))
      |exact Rows.mono h (fun _ _ he=>next _ _ he)
      |(obtain⟨_,_,he,_⟩:=h;cases he)
      |exact h
    |halt x w'=>cases x<;>simp only[Oper.upon]at h|- <;>first|exact h|(obtain⟨_,_,he,_⟩:=h;cases he)
   ·obtain⟨_,_,_,_,he,_⟩:=h2;cases he
  ·rename_i hg
   rw[if_neg hg]
   exact next _ _ h
 ·exact h₃ j hj Q hp hQ a w hw
def okA (nt:Nat)(ops:Array Oper)(l:List Bool)(i d:Nat)(o:Oper):Bool:=ba2 d nt&&o.guard.isNone&&Region.noSelect ops&&Region.free .any ops l.toArray i&&(Region.ready .any ops l.toArray).contains i
theorem eR0 {nt i d:Nat}(h:okA nt ops l i d o=true):ba2 d nt=true/\o.guard=none/\Region.noSelect ops=true/\Region.free .any ops l.toArray i=true/\(Region.ready .any ops l.toArray).contains i=true:=by
 unfold okA at h
 simp only[au2,eV3]at h
 exact⟨h.1.1.1.1,h.1.1.1.2,h.1.1.2,h.1.2,h.2⟩
end
def Rd {α:Type}(s:Sem α):Prop:=∀P w r w',s.run P w= .ok r w'->w'=w
theorem aN5 {α:Type}(x:α):Rd (pure x:Sem α):=fun P w r w' h=>by
 simp only[bx4,eU8]at h;exact h.2.symm
theorem bl9 {α:Type}(x:Halt):Rd (Sem.halt x:Sem α):=fun P w r w' h=>by
 simp[ff9]at h
theorem aG9 {α β:Type}{s:Sem α}{f:α->Sem β}(h:Rd s)(k:∀x,Rd (f x)):Rd (s>>=f):=fun P w r w' e=>by
 rw[bd5]at e
 cases hs:s.run P w with
 |ok x w1=>
  rw[hs]at e
  have:=h P w x w1 hs
  subst this
  exact k x P w1 r w' e
 |halt x w1=>rw[hs]at e;cases e
theorem dQ4 (a:Addr)(m:Mode):Rd (load a m):=fun P w r w' h=>by
 unfold load ff9 at h
 split at h
 ·simp only[ff9,eU8]at h;exact h.2.symm
 ·split at h
  ·simp only[ff9,eU8]at h;exact h.2.symm
  ·cases h
theorem cT3:Rd program:=fun P w r w' h=>by
 unfold program ff9 at h
 simp only[ff9,eU8]at h;exact h.2.symm
theorem bB8 (t:TypeId):Rd (underlying t):=by
 unfold underlying
 refine aG9 cT3 fun p=>?_
 split
 ·exact aN5 _
 ·exact bl9 _
theorem er6 (t:TypeId):Rd (isAgg t):=by
 unfold isAgg
 refine aG9 (bB8 t) fun d=>?_
 split<;>exact aN5 _
theorem df0 (t:TypeId):Rd (sizeOf t):=by
 unfold sizeOf typeInfo
 refine aG9 (aG9 cT3 fun p=>?_) fun i=>aN5 _
 split
 ·exact aN5 _
 ·exact bl9 _
theorem dy5 (a:Addr):∀(n i:Nat) (acc:Array Value),Rd (loadCellsFrom a i n acc)
 |0,i,acc=>by unfold loadCellsFrom;exact aN5 _
 |n+1,i,acc=>by
  unfold loadCellsFrom
  exact aG9 (dQ4 _ _) fun v=>dy5 a n (i+1) _
theorem ea6 (t:TypeId)(v:Value):Rd (Instr.loadAt t v):=by
 unfold Instr.loadAt
 refine aG9 ?_ fun a=>?_
 ·unfold Instr.sureAddr
  split
  ·exact aN5 _
  ·exact bl9 _
 ·unfold loadVar
  refine aG9 (er6 t) fun b=>?_
  split
  ·refine aG9 (df0 t) fun n=>aG9 ?_ fun c=>aN5 _
   unfold loadCells
   exact dy5 _ _ _ _
  ·exact dQ4 _ _
theorem dI7 (v:Value)(k:Nat):Rd (Instr.extract v k):=by
 unfold Instr.extract
 split
 ·split
  ·exact aN5 _
  ·exact bl9 _
 ·exact bl9 _
theorem ea5 {α:Type}(k:IntKind)(x y:Int)(c:BoundsCode):Rd (boundsPanic k x y c:Sem α):=fun P w r w' e=>by
 exfalso
 have key:∀b w r w',(runtimePanic (.bounds (IntKind.i64.wrap x) y b c):Sem α).run P w≠ .ok r w':=fun b w r w' h=>by
  unfold runtimePanic at h
  rw[bd5]at h
  cases hp:program.run P w with
  |ok p w1=>rw[hp]at h;simp[goPanic,ff9]at h
  |halt p w1=>rw[hp]at h;cases h
 unfold boundsPanic at e
 dsimp only at e
 split at e<;>
 ·rw[bd5]at e
  revert e
  generalize ff9 P _ w=q
  intro e
  cases q with
  |ok b w1=>exact key b w1 r w' e
  |halt p w1=>cases e
theorem er4 (v:Value):Rd (asIntOf v):=by
 unfold asIntOf
 split
 ·exact aN5 _
 ·exact bl9 _
 ·exact bl9 _
theorem eF2 (v:Value):Rd (Instr.sureAddr v):=by
 unfold Instr.sureAddr
 split
 ·exact aN5 _
 ·exact bl9 _
theorem er5 (t:TypeId)(x ix:Value):Rd (Instr.indexAt t x ix):=by
 unfold Instr.indexAt
 refine aG9 (er4 _) fun p=>aG9 (bB8 t) fun d=>?_
 have key:∀q:Option Addr×Nat×TypeId,Rd (match q with
   |(base,len,elem)=>do
    let d<-underlying t
    let tiny:=len<=1&&(match d with| .array ..=>true|_=>false)
    match base with
    |some a=>
     if 0<=p.2/\p.2<len then pure (Value.pointer (some (a.add (p.2.toNat*(<-sizeOf elem)))))
     else if tiny then unsupported (.noEntry "op/indexAddr.an index out of range at an array of length 0 or 1 (ledger 616)")
     else boundsPanic p.1 p.2 len .index
    |none=>boundsPanic p.1 p.2 0 .index:Sem Value):=fun(base,len,elem)=>by
  dsimp only
  refine aG9 (bB8 t) fun d=>?_
  repeat' split
  all_goals first|exact aG9 (df0 _) fun n=>aN5 _|exact bl9 _|exact ea5 _ _ _ _
 dsimp only at key|-
 split
 ·exact aG9 (eF2 _) fun a=>aG9 (aN5 _) fun q=>key q
 ·exact aG9 (aN5 _) fun q=>key q
 ·exact aG9 (bl9 _) fun q=>key q
def cB1:Op->Bool
 | .move _| .assign _| .load .. | .extract .. | .indexAddr ..=>true
 |_=>false
theorem dk0 {P:Program}{o:Oper}(h:cB1 o.op=true)(ρ:Operand->Value)(w:World)(n:Next)(w':World)(e:(execOp ρ o).run P w= .ok n w'):w'=w/\∃u,n= .value u:=by
 have key:∀s:Sem Value,Rd s->(execOp ρ o).run P w=(s>>=fun v=>pure (Next.value v)).run P w->w'=w/\∃u,n= .value u:=by
  intro s hs he
  rw[he,bd5]at e
  cases hr:s.run P w with
  |ok x w1=>
   rw[hr]at e
   have h1:=hs P w x w1 hr
   simp only[aY1,bx4,eU8]at e
   exact⟨by rw[<-e.2,h1],x,e.1.symm⟩
  |halt x w1=>rw[hr]at e;cases e
 obtain⟨dst,op,type,pos,aft,guard⟩:=o
 cases op<;>simp only[cB1,do8]at h
 case move x=>exact key (pure (ρ x)) (aN5 _) (by simp[execOp])
 case assign x=>exact key (pure (ρ x)) (aN5 _) (by simp[execOp])
 case load t x=>exact key (Instr.loadAt t (ρ x)) (ea6 _ _) rfl
 case extract x k=>exact key (Instr.extract (ρ x) k) (dI7 _ _) rfl
 case indexAddr t x ix=>exact key (Instr.indexAt t (ρ x) (ρ ix)) (er5 _ _ _) rfl
section
variable {P:Program} {ops:Array Oper} {Q:Exit -> Act -> World -> Prop} {md:Region.Mode} {S:World -> Prop}
theorem ed4 {j:Nat}{oj:Oper}(hj:ops[j]? =some oj)(hh:cB1 oj.op=true){K:Act->World->Prop}{a:Act}{w:World}(hS:S w)(h:wpOp P ops Q j K a w):wpOp P ops Q j (fun a' w'=>S w'/\K a' w') a w:=by
 unfold wpOp at*
 simp only[hj]at*
 split
 ·rename_i hw
  rw[if_pos hw]at h
  refine h.imp (fun h=>?_) id
  unfold Oper.wp at*
  cases hr:(execOp a.eval oj).run P w with
  |ok n w'=>
   rw[hr]at h
   obtain⟨e1,u,e2⟩:=dk0 hh a.eval w n w' hr
   subst e1
   subst e2
   simp only[Oper.upon]at h|-
   exact⟨hS,h⟩
  |halt x w'=>
   rw[hr]at h
   cases x<;>simp only[Oper.upon]at h|- <;>exact h
 ·rename_i hw
  rw[if_neg hw]at h
  exact⟨hS,h⟩
theorem dL1 {i:Nat}{oi:Oper}{v:Value}(hi:ops[i]? =some oi)(hsel:∀(j:Nat) (o:Oper) cs b,ops[j]? =some o->o.op≠ .select cs b)
  (hQ:∀c a w,Q (.panic c) (a.put oi.dst v) w->Q (.panic c) a w) (W:Nat->Bool):
  ∀(fuel:Nat) (A8:Array Bool) (a:Act) (w:World),
   (∀j,W j=true->A8.getD j true=false/\∃oj,ops[j]? =some oj/\∃e∈oj.after,Region.binds md e=true/\(e.on=i\/W e.on=true))->
   (∀j oj,ops[j]? =some oj->j≠i->A8.getD j true=false->W j=false->oi.apart ops oj=true/\cB1 oj.op=true)->
   i∈Region.ready md ops A8->YieldsIf P ops S oi v a->S w->
   wpAny P md ops Q fuel (A8.setIfInBounds i true) (a.put oi.dst v) w->wpAny P md ops Q (fuel+1) A8 a w:=by
 have hnW:∀(A8:Array Bool) (j:Nat),(∀j,W j=true->A8.getD j true=false/\∃oj,ops[j]? =some oj/\∃e∈oj.after,Region.binds md e=true/\(e.on=i\/W e.on=true))->i∈Region.ready md ops A8->j∈Region.ready md ops A8->W j=false:=by
  intro A8 j hW hr hj
  cases hWj:W j
  ·rfl
  ·exfalso
   obtain⟨_,oj,ho,e,he,hb,hor⟩:=hW j hWj
   obtain⟨_,oj',ho',cm5⟩:=mem_ready.1 hj
   rw[ho]at ho'
   cases ho'
   have h1:=cm5 e he hb
   have h0:A8.getD e.on true=false:=by
    rcases hor with heq|hor
    ·rw[heq];exact(mem_ready.1 hr).1
    ·exact(hW e.on hor).1
   rcases dh0 e.on A8.size with h'|h'
   ·simp[h']at h0 h1;rw[h0]at h1;cases h1
   ·simp[Array.getElem?_eq_none h']at h1
 intro fuel
 induction fuel with
 |zero=>
  intro A8 a w hW hrest hr hy hS H
  refine⟨fun h=>(by rw[h]at hr;cases hr),fun j hj=>?_⟩
  by_cases hji:j=i
  ·subst hji;exact hy.wpOp hi hS H
  ·have:=ready_mono hj hji
   rw[H.1]at this
   cases this
 |succ fuel ih=>
  intro A8 a w hW hrest hr hy hS H
  refine⟨fun h=>(by rw[h]at hr;cases hr),fun j hj=>?_⟩
  by_cases hji:j=i
  ·subst hji;exact hy.wpOp hi hS H
  ·have h1:=H.2 j (ready_mono hj hji)
   have hWj:=hnW A8 j hW hr hj
   obtain⟨hjun,oj,hoj,cm5⟩:=mem_ready.1 hj
   obtain⟨hap,hharm⟩:=hrest j oj hoj hji hjun hWj
   have h2:=ed4 hoj hharm hS (wpOp_putIf hoj hap (fun cs b=>hsel i oi cs b hi) (fun cs b=>hsel j oj cs b hoj) hQ hy h1)
   have hW':∀k,W k=true->(A8.setIfInBounds j true).getD k true=false/\∃ok,ops[k]? =some ok/\∃e∈ok.after,Region.binds md e=true/\(e.on=i\/W e.on=true):=fun k hk=>by
    obtain⟨x1,x2⟩:=hW k hk
    have hjk:j≠k:=fun h=>by rw[h]at hWj;rw[hk]at hWj;cases hWj
    exact⟨by rw[getD_set_ne true hjk];exact x1,x2⟩
   have hrest':∀k ok,ops[k]? =some ok->k≠i->(A8.setIfInBounds j true).getD k true=false->W k=false->oi.apart ops ok=true/\cB1 ok.op=true:=fun k ok hk hki hun hWk=>by
    refine hrest k ok hk hki ?_ hWk
    by_cases hjk:j=k
    ·subst hjk;exact hjun
    ·rw[getD_set_ne true hjk]at hun;exact hun
   refine wpOp_mono (fun a' w' h3=>ih (A8.setIfInBounds j true) a' w' hW' hrest' (ready_mono hr (Ne.symm hji)) h3.2.1 h3.1 ?_) h2
   rw[Array.setIfInBounds_comm _ _ hji]
   exact h3.2.2
end
def okW (ops:Array Oper)(l W:List Bool)(i:Nat)(oi:Oper):Bool:=(dy2 ops.size).all fun j=>
 bif W.getD j false then(!(l.getD j true))&&(match ops[j]?with|some oj=>oj.after.any (fun e=>Region.binds .any e&&(e.on==i||W.getD e.on false))|none=>false)
 else(j==i||l.getD j true||match ops[j]?with|some oj=>oi.apart ops oj&&cB1 oj.op|none=>true)
def okL (nt:Nat)(ops:Array Oper)(l W:List Bool)(i d:Nat)(o:Oper):Bool:=ba2 d nt&&o.guard.isNone&&Region.noSelect ops&&okW ops l W i o&&(Region.ready .any ops l.toArray).contains i&&dQ0 W.length ops.size
def df1:Op->Bool
 | .move _| .assign _| .load .. | .extract ..=>true
 |_=>false
theorem dW4 {o:Op}(h:df1 o=true):cB1 o=true:=by cases o<;>simp_all[df1,cB1]
def dQ1:Op->Bool
 | .move _| .assign _| .fieldAddr .. | .nilCheck _| .extract ..=>true
 |_=>false
def ev5 (nt:Nat)(ops:Array Oper)(l:List Bool)(i k:Nat)(o:Oper):Bool:=match o.dst with
 |some d=>bif bx3 k 0 then dQ1 o.op&&okA nt ops l i d o else df1 o.op&&okL nt ops l (bm ops.size (k/2)) i d o
 |none=>false
def ei5 (nt:Nat)(ops:Array Oper):List (Nat×Nat)->List Bool->Bool
 |[],_=>true
 |(i,k)::r,l=>(match ops[i]?with|some o=>ev5 nt ops l i k o|none=>false)&&ei5 nt ops r (l.set i true)
def cB8:List (Nat×Nat)->List Bool->List Bool
 |[],l=>l
 |(i,_)::r,l=>cB8 r (l.set i true)
def evA (D5:Tab)(ops:Array Oper):List (Nat×Nat)->List (Nat×T)->List (Nat×H6)->Option (List (Nat×T))
 |[],tm,_=>some tm
 |(i,_)::r,tm,hp=>match ops[i]?with
  |some o=>match o.dst with
   |some d=>match evalOp D5 ⟨tm,hp⟩ o with
    |some (t,_)=>evA D5 ops r ((d,t)::tm) hp
    |none=>none
   |none=>none
  |none=>none
section
variable {X:Cx} {ops:Array Oper} {fe fuel:Nat} {le l:List Bool} {σ':St} {o:Oper}
theorem dy0 {t:T}{tm:List (Nat×T)}{hp:List (Nat×H6)}{s2:St}(hb:dQ1 o.op=true)(he:evalOp X.D5 ⟨tm,hp⟩ o=some (t,s2)):∀S E a w,Ok X.w0 X.L X.nt ⟨tm,hp⟩ S E a w->∃v,(∀w',(execOp a.eval o).run X.P w'= .ok (.value v) w')/\RV w S E v t:=by
 intro S E a w hk
 rw[aU3]at he
 obtain⟨dst,op,type,pos,aft,guard⟩:=o
 cases op<;>simp only[dQ1,do8]at hb<;>simp only[bl7]at he
 case move x=>exact⟨_,fun w'=>rfl,hk.val (P5 he).1⟩
 case assign x=>exact⟨_,fun w'=>rfl,hk.val (P5 he).1⟩
 case fieldAddr s x f=>
  split at he<;>try(cases he;done)
  ·rename_i id off sz fs z hx hti
   split at he<;>try(cases he;done)
   rename_i p n hfs
   cases he
   obtain⟨β,hpv,hE⟩:=(hk.val hx).bK8
   exact⟨_,fun w'=>by simp[execOp,hpv,aU4 (X.M7 s _ hti) hfs β off rfl],.ptr id _ β hE⟩
  ·rename_i cells sz fs z hx hti
   split at he<;>try(cases he;done)
   rename_i p n hfs
   cases he
   have hv:=hk.val hx
   obtain⟨b,o',hpv⟩:=hv.ce6
   rw[hpv]at hv
   exact⟨_,fun w'=>by simp[execOp,hpv,aU4 (X.M7 s _ hti) hfs b o' rfl],hv.cH8 p⟩
  ·rename_i id k sz' off sz fs z hx hti
   split at he<;>try(cases he;done)
   rename_i p n hfs
   cases he
   have hv:=hk.val hx
   generalize hpv:a.eval x=pv at hv
   cases hv with
   |pe _ _ _ _ β n' cap hE=>
    exact⟨.pointer (some ⟨β,k*sz'+off+p,none⟩),fun w'=>by simp[execOp,hpv,aU4 (X.M7 s _ hti) hfs β _ rfl],by rw[dM6];exact .pe id k sz' (off+p) β n' cap hE⟩
 case nilCheck x=>
  have hv:∀y,val tm x=some y->(∃b o',a.eval x= .pointer (some ⟨b,o',none⟩))->y=t->∃v,(∀w',(execOp a.eval (⟨dst,.nilCheck x,type,pos,aft,guard⟩:Oper)).run X.P w'= .ok (.value v) w')/\RV w S E v t:=by
   intro y hx ⟨b,o',hpv⟩ hy
   subst hy
   exact⟨_,fun w'=>by simp only[execOp];rw[hpv];rfl,hpv▸hk.val hx⟩
  split at he<;>try(cases he;done)
  ·rename_i id off hx
   cases he
   obtain⟨β,hpv,_⟩:=(hk.val hx).bK8
   exact hv _ hx ⟨β,_,hpv⟩ rfl
  ·rename_i cells hx
   cases he
   obtain⟨b,o',hpv⟩:=(hk.val hx).ce6
   exact hv _ hx ⟨b,o',hpv⟩ rfl
  ·rename_i id i sz off hx
   cases he
   have h2:=hk.val hx
   generalize hpv:a.eval x=pv at h2
   cases h2 with
   |pe _ _ _ _ β n' cap hE=>exact hv _ hx ⟨β,_,hpv⟩ rfl
 case extract x k=>
  split at he<;>try(cases he;done)
  rename_i l hx
  obtain⟨hx',_⟩:=P5 he
  have hv:=hk.val hx
  cases hxe:a.eval x<;>rw[hxe]at hv<;>try(cases hv;done)
  cases hv with
  |S9 vs _ hl hr=>
   obtain⟨hk',rfl⟩:=bD8.1 hx'
   exact⟨_,fun w'=>by simp[execOp,hxe,Instr.extract,hl,hk'],hr k (by omega) hk'⟩
theorem dW5 {t:T}{tm:List (Nat×T)}{hp:List (Nat×H6)}{s2:St}(hb:df1 o.op=true)(he:evalOp X.D5 ⟨tm,hp⟩ o=some (t,s2)):s2=⟨tm,hp⟩:=by
 rw[aU3]at he
 obtain⟨dst,op,type,pos,aft,guard⟩:=o
 cases op<;>simp only[df1,do8]at hb<;>simp only[bl7]at he
 case move x=>exact(P5 he).2
 case assign x=>exact(P5 he).2
 case load t x=>
  split at he<;>try(cases he;done)
  ·split at he<;>try(cases he;done)
   exact(P5 he).2
  ·exact(P5 he).2
 case extract x k=>
  split at he<;>try(cases he;done)
  exact(P5 he).2
theorem aT4.late {d:Nat}{t:T}{tm:List (Nat×T)}{hp:List (Nat×H6)}{s2:St}(i:Nat)(W:List Bool)(ho:ops[i]? =some o)(hd:o.dst=some d)(hh:df1 o.op=true)(hb:okL X.nt ops l W i d o=true)(he:evalOp X.D5 ⟨tm,hp⟩ o=some (t,s2))
  (h:aT4 X ops fe le fuel (l.set i true) ⟨(d,t)::tm,hp⟩ σ'):aT4 X ops fe le (fuel+1) l ⟨tm,hp⟩ σ':=fun Q hpn hQ a w ⟨S,E,hk⟩=>by
 unfold okL at hb
 simp only[au2,eV3]at hb
 obtain⟨⟨⟨⟨⟨hdn,hg⟩,hs⟩,hw⟩,hr⟩,hWl⟩:=hb
 obtain⟨v,w',E',hdo,hok,hv⟩:=bE7 X.M7 hk he
 rw[dW5 hh he]at hok
 replace hh:=dW4 hh
 have bf7:(execOp a.eval o).run X.P w= .ok (.value v) w/\w'=w:=by
  rcases hdo with hdo|⟨hdo,_⟩
  ·obtain⟨e1,_⟩:=dk0 hh a.eval w _ _ hdo
   rw[e1]at hdo
   exact⟨hdo,e1⟩
  ·obtain⟨_,u,e2⟩:=dk0 hh a.eval w _ _ hdo
   cases e2
 obtain⟨bf7,rfl⟩:=bf7
 unfold okW at hw
 rw[by6]at hw
 have hlt:i<ops.size:=(dC3.1 ho).1
 refine dL1 (S:=fun z=>z=w') ho (Region.noSelect_spec hs) (fun c a w hc=>absurd hc (hpn _ _ _)) (fun j=>W.getD j false) fuel l.toArray a w' (fun j hj=>?_) (fun j oj hoj hji hun hWj=>?_) (by simpa using hr) (v:=v) (.inl ⟨?_,fun z hz=>?_⟩) rfl ?_
 ·have hjs:j<ops.size:=by
   have h1:j<W.length:=by
    rcases dh0 j W.length with h|h
    ·exact h
    ·rw[dj0,List.getElem?_eq_none h]at hj;cases hj
   have:=ba1 hWl
   omega
  have:=hw j (ed7.2 hjs)
  simp only[hj,fh5,au2,bZ6]at this
  obtain⟨t1,t2⟩:=this
  refine⟨?_,?_⟩
  ·rw[dj0]at t1
   rw[eT5]
   simpa using t1
  ·cases hoj:ops[j]?with
   |none=>rw[hoj]at t2;cases t2
   |some oj=>
    rw[hoj]at t2
    obtain⟨e,he1,he2⟩:=Array.any_eq_true'.1 t2
    simp only[au2,cx1,beq_iff_eq]at he2
    exact⟨oj,rfl,e,he1,he2.1,he2.2⟩
 ·have hjs:j<ops.size:=(dC3.1 hoj).1
  have:=hw j (ed7.2 hjs)
  rw[hWj]at this
  simp only[fh3,cx1,beq_iff_eq]at this
  rcases this with(h1|h1)|h1
  ·exact absurd h1 hji
  ·rw[dj0]at h1
   rw[eT5]at hun
   have:l[j]?.getD true=false:=by simpa using hun
   rw[h1]at this;cases this
  ·rw[hoj]at h1
   simpa using h1
 ·unfold Region.wanted;rw[hg]
 ·subst hz;exact bf7
 ·rw[eU9]
  exact h Q hpn hQ _ _ ⟨S,E',by rw[hd];exact hok.put (ba1 hdn) hv⟩
theorem aT4.goN:∀(is:List (Nat×Nat)) {fuel:Nat}{l:List Bool}{tm tm':List (Nat×T)}{hp:List (Nat×H6)},ei5 X.nt ops is l=true->evA X.D5 ops is tm hp=some tm'->aT4 X ops fe le fuel (cB8 is l) ⟨tm',hp⟩ σ'->aT4 X ops fe le (fuel+is.length) l ⟨tm,hp⟩ σ'
 |[],fuel,l,tm,tm',hp,_,he,h=>by cases he;exact h
 |(i,k)::r,fuel,l,tm,tm',hp,hb,he,h=>by
  unfold ei5 at hb
  unfold evA at he
  rw[au2]at hb
  obtain⟨h1,h2⟩:=hb
  cases ho:ops[i]?with
  |none=>rw[ho]at h1;cases h1
  |some o=>
   rw[ho]at h1 he
   simp only at h1 he
   unfold ev5 at h1
   cases hd:o.dst with
   |none=>rw[hd]at h1;cases h1
   |some d=>
    rw[hd]at h1 he
    simp only at h1 he
    cases hv:evalOp X.D5 ⟨tm,hp⟩ o with
    |none=>rw[hv]at he;cases he
    |some q=>
     obtain⟨t,s2⟩:=q
     rw[hv]at he
     simp only at he
     have ih:=aT4.goN r h2 he h
     rw[bu6,<-dM6]
     cases hk:bx3 k 0<;>rw[hk]at h1
     ·simp only[fh3,au2]at h1
      exact aT4.late i _ ho hd h1.1 h1.2 hv ih
     ·simp only[fh5,au2]at h1
      have k:=eR0 h1.2
      exact aT4.fc1 i _ ho rfl hd k.1 k.2.1 k.2.2.1 k.2.2.2.1 k.2.2.2.2 (dy0 h1.1 hv) ih
theorem aT4.go {n:Nat}{tm tm':List (Nat×T)}{hp:List (Nat×H6)}(fuel:Nat)(is:List (Nat×Nat))(hn:fuel+is.length=n)(hb:ei5 X.nt ops is l=true)(he:evA X.D5 ops is tm hp=some tm')(h:aT4 X ops fe le fuel (cB8 is l) ⟨tm',hp⟩ σ'):aT4 X ops fe le n l ⟨tm,hp⟩ σ':=hn▸aT4.goN is hb he h
theorem aT4.one {σ σ₁:St}(i:Nat)(ho:ops[i]? =some o)(hr:Region.ready .any ops l.toArray=[i])(h₁:C3 X ops [o] [] σ (some ()) (fun _ e σ''=>e= .normal/\σ''=σ₁))(h₂:aT4 X ops fe le fuel (l.set i true) σ₁ σ'):aT4 X ops fe le (fuel+1) l σ σ':=
 aT4.all [i] hr rfl (ci3.eX6 _ ho rfl h₁ h₂ ci3.nil)
end
section
variable {ρ α:Type} {X:Cx} {ks:List K} {tm:List (Nat × T)} {hp:List (Nat × H6)} {Q:ρ -> Exit -> St -> Prop} {all:Array Oper} {o:Oper} {rest:List Oper}
end
abbrev NI (x:Int):T:=.t (tI x)
abbrev NB (x:Bool):T:=.t (tB x)
abbrev NS {α:Type}(e:α->List Tree)(l:List α):T:=.t (tS e l)
inductive Cf where
 |S (ks:List K) (σ:St)
 |O (all:Array Oper) (ops:List Oper) (ks:List K) (σ:St)
def adv (D5:Tab)(nt:Nat):Nat->Cf->Cf
 |0,c=>c
 |n+1,.S (.c (.seq x y)::ks) σ=>adv D5 nt n (.S (.c x:: .c y::ks) σ)
 |n+1,.S (.c .skip::ks) σ=>adv D5 nt n (.S ks σ)
 |n+1,.S (.c (.block id x)::ks) σ=>adv D5 nt n (.S (.c x:: .e id::ks) σ)
 |n+1,.S (.e _::ks) σ=>adv D5 nt n (.S ks σ)
 |n+1,.S (.c (.region _ ops false)::ks) σ=>adv D5 nt n (.O ops ops.toList ks σ)
 |n+1,.O _ [] ks σ=>adv D5 nt n (.S ks σ)
 |n+1,.O all (o::r) ks σ=>match cx9 D5 nt all.toList 1 (o::r) σ with
  |(ops,σ')=>adv D5 nt n (.O all ops ks σ')
 |_+1,c=>c
section
variable {ρ τ:Type} {X:Cx} {ks ks':List K} {σ σ':St} {m:Option ρ} {Q:ρ -> Exit -> St -> Prop} {all all':Array Oper} {ops co1:List Oper}
def eV9 {ρ:Type}(X:Cx)(c:Cf)(m:Option ρ)(Q:ρ->Exit->St->Prop):Prop:=match c with
 | .S ks σ=>F9 X ks σ m Q
 | .O all ops ks σ=>C3 X all ops ks σ m Q
theorem cb5:∀(n:Nat) (c:Cf),eV9 X (adv X.D5 X.nt n c) m Q->eV9 X c m Q:=by
 intro n
 induction n with
 |zero=>intro c h;exact h
 |succ n ih=>
  intro c h
  unfold adv at h
  split at h
  ·cases‹_=_›
  ·rename_i e;cases e;exact F9.seq (ih _ h)
  ·rename_i e;cases e;exact F9.skip (ih _ h)
  ·rename_i e;cases e;exact F9.block (ih _ h)
  ·rename_i e;cases e;exact F9.eX9 (ih _ h)
  ·rename_i e;cases e;exact F9.region (ih _ h)
  ·rename_i e;cases e;exact C3.nil (ih _ h)
  ·rename_i all o r ks σ e
   cases e
   split at h
   rename_i he
   exact C3.run 1 he (ih _ h)
  ·exact h
theorem F9.o (n:Nat)(he:adv X.D5 X.nt n (.S ks σ)= .O all ops ks' σ')(h:C3 X all ops ks' σ' m Q):F9 X ks σ m Q:=cb5 (X:=X) n (.S ks σ) (by rw[he];exact h)
theorem F9.s (n:Nat)(he:adv X.D5 X.nt n (.S ks σ)= .S ks' σ')(h:F9 X ks' σ' m Q):F9 X ks σ m Q:=cb5 (X:=X) n (.S ks σ) (by rw[he];exact h)
theorem C3.o (n:Nat)(he:adv X.D5 X.nt n (.O all ops ks σ)= .O all' co1 ks' σ')(h:C3 X all' co1 ks' σ' m Q):C3 X all ops ks σ m Q:=cb5 (X:=X) n (.O all ops ks σ) (by rw[he];exact h)
theorem C3.s (n:Nat)(he:adv X.D5 X.nt n (.O all ops ks σ)= .S ks' σ')(h:F9 X ks' σ' m Q):C3 X all ops ks σ m Q:=cb5 (X:=X) n (.O all ops ks σ) (by rw[he];exact h)
theorem F9.l {r:ρ}(n:Nat)(he:adv X.D5 X.nt n (.S ks σ)= .S [] σ')(h:Q r .normal σ'):F9 X ks σ (some r) Q:=F9.s n he (.leaf h)
theorem C3.l {r:ρ}(n:Nat)(he:adv X.D5 X.nt n (.O all ops ks σ)= .S [] σ')(h:Q r .normal σ'):C3 X all ops ks σ (some r) Q:=C3.s n he (.leaf h)
theorem F9.r {r:ρ}(n:Nat)(he:adv X.D5 X.nt n (.S ks σ)= .S (.c .ret::ks') σ')(h:Q r .ret σ'):F9 X ks σ (some r) Q:=F9.s n he (.ret h)
theorem C3.r {r:ρ}(n:Nat)(he:adv X.D5 X.nt n (.O all ops ks σ)= .S (.c .ret::ks') σ')(h:Q r .ret σ'):C3 X all ops ks σ (some r) Q:=C3.s n he (.ret h)
abbrev nrm {τ:Type}(f:τ->St):τ->Exit->St->Prop:=fun t e σ'=>e= .normal/\Sub (f t) σ'
theorem lf {e:Exit}{σ₁:St}(h₁:σ₁.tm.map (dv1 σ.tm)=σ₁.tm.map (fun p=>some p.2))(h₂:σ₁.hp.map (bF3 σ.hp)=σ₁.hp.map (fun p=>some p.2)):e=e/\Sub σ₁ σ:=⟨rfl,.of h₁ h₂⟩
theorem rt {p q:Prop}(h:p):(Exit.ret=Exit.ret\/q)/\p:=⟨.inl rfl,h⟩
def eI3 (nt:Nat)(all:Array Oper)(tm:List (Nat×T))(o:Oper):Option (Nat×List T×Nat):=match aj1 all.toList tm o.guard with
 |some true=>match dq4 tm o with
  |some (n,targs,aQ8)=>match bn5 [] targs,o.dst with
   |some aC9,some d=>bif ba2 d nt then some (n,aC9++aQ8.map T.el,d)else none
   |_,_=>none
  |none=>none
 |_=>none
theorem C3.k {o:Oper}{rest:List Oper}{n d:Nat}{args:List T}{m₁:Option τ}{res:τ->T}{k:τ->Option ρ}{tm:List (Nat×T)}{hp:List (Nat×H6)}(hc:aR1 X.P n args m₁ res)
  (ho:eI3 X.nt all tm o=some (n,args,d)) (h:∀t,C3 X all rest ks ⟨(d,res t)::tm,hp⟩ (k t) Q):C3 X all (o::rest) ks ⟨tm,hp⟩ (m₁.bind k) Q:=by
 unfold eI3 at ho
 split at ho<;>try(cases ho;done)
 rename_i hg
 split at ho<;>try(cases ho;done)
 rename_i n' targs aQ8 hz
 split at ho<;>try(cases ho;done)
 rename_i aC9 d' hf hd
 cases hb:ba2 d' X.nt with
 |false=>rw[hb]at ho;cases ho
 |true=>
  rw[hb]at ho
  simp only[fh5,aj7,aX2]at ho
  obtain⟨rfl,rfl,rfl⟩:=ho
  exact C3.call (σ₂:=fun t=>⟨(d',res t)::tm,hp⟩) hg hz hf hc (fun t=>by rw[hd];simp only[bw5,hb,fh5]) h
theorem aR1.i {P:Program}{D5:Tab}(M7:aV6 P D5){n:Nat}{fn:Func}{c:Code}{args:List T}{m:Option τ}{res:τ->T}(nt:Nat)(rs:List ResultVar)
  (aL7:∀vs w,(callFunc n vs).run P w= .ok (.enter n vs) w) (hf:P.funcs[n]? =some fn) (hb:fn.body=some c) (hnt:fn.ntmps=nt) (hrs:fn.results.toList=rs) (hsz:dQ0 args.length nt=true)
  (body:∀(w0:World) (L:Lim),F9 ⟨P,D5,M7,w0,L,nt⟩ [.c c] ⟨number 0 args,[]⟩ m (fun r e σ'=>(e= .ret\/e= .normal)/\dm9 D5 σ' rs=some (res r))):aR1 P n args m res:=aR1.intro M7 nt rs aL7 hf hb hnt hrs (ba1 hsz) body
theorem bh9.i {P:Program}{D5:Tab}(M7:aV6 P D5){n:Nat}{fn:Func}{c:Code}{args:List T}{hp:List (Nat×H6)}{m:Option τ}{res:τ->T}{hp':τ->List (Nat×H6)}(nt:Nat)(rs:List ResultVar)
  (aL7:∀vs w,(callFunc n vs).run P w= .ok (.enter n vs) w) (hf:P.funcs[n]? =some fn) (hb:fn.body=some c) (hnt:fn.ntmps=nt) (hrs:fn.results.toList=rs) (hsz:dQ0 args.length nt=true)
  (body:∀(w0:World) (L:Lim),F9 ⟨P,D5,M7,w0,L,nt⟩ [.c c] ⟨number 0 args,hp⟩ m (fun r e σ'=>(e= .ret\/e= .normal)/\eL3 D5 σ' rs (res r) (hp' r))):bh9 P n args hp m res hp':=bh9.intro M7 nt rs aL7 hf hb hnt hrs (ba1 hsz) body
end
def dq2 (nt:Nat)(all:Array Oper)(tm:List (Nat×T))(hp:List (Nat×H6))(o:Oper)(lm nm:List (Nat×Nat))(aC9:List T)(chp:List (Nat×H6)):
  Option (Nat×List T×List T×List (Nat×H6)×Nat×List (Nat×H6)):=match aj1 all.toList tm o.guard with
 |some true=>match Pv.bD7 tm o,bU0 lm aC9,aS4 lm chp,o.dst with
  |some (n,targs),some ao0,some aP2,some d=>bif bp7 lm nm tm hp&&ba2 d nt then some (n,targs,ao0,aP2,d,ar3 lm hp)else none
  |_,_,_,_=>none
 |_=>none
section
variable {ρ τ:Type} {X:Cx} {ks:List K} {m:Option ρ} {Q:ρ -> Exit -> St -> Prop} {all:Array Oper}
theorem C3.g {o:Oper}{rest:List Oper}{n d:Nat}{targs ao0 aC9:List T}{chp aP2 hp2:List (Nat×H6)}{m₁:Option τ}{res:τ->T}{bI5:τ->List (Nat×H6)}{k:τ->Option ρ}{tm:List (Nat×T)}{hp:List (Nat×H6)}(lm nm:List (Nat×Nat))
  {dJ3:τ->T}{rhp:τ->List (Nat×H6)} (hc:bh9 X.P n aC9 chp m₁ res bI5) (he:dq2 X.nt all tm hp o lm nm aC9 chp=some (n,targs,ao0,aP2,d,hp2)) (hmr:bB6 targs ao0=ao0)
  (cm8:aP2.map (bF3 hp)=aP2.map (fun p=>some p.2)) (dk3:∀t,aN6 (lm++nm) (res t)=some (dJ3 t)) (hrhp:∀t,aS4 (lm++nm) (bI5 t)=some (rhp t))
  (h:∀t,m₁=some t->C3 X all rest ks ⟨(d,dJ3 t)::tm,rhp t++hp2⟩ (k t) Q):C3 X all (o::rest) ks ⟨tm,hp⟩ (m₁.bind k) Q:=by
 unfold dq2 at he
 split at he<;>try(cases he;done)
 rename_i hg
 split at he<;>try(cases he;done)
 rename_i n' targs0 targs1 rchp1 d' ho ha hr hd
 cases hb:(bp7 lm nm tm hp&&ba2 d' X.nt)with
 |false=>rw[hb]at he;cases he
 |true=>
  rw[hb]at he
  simp only[fh5,aj7,aX2]at he
  obtain⟨rfl,rfl,rfl,rfl,rfl,rfl⟩:=he
  rw[au2]at hb
  intro r hr' a w ⟨S,E,hk⟩
  cases hm₁:m₁ with
  |none=>simp[hm₁]at hr'
  |some t=>
   simp only[hm₁,ac0]at hr'
   have hm:=hb.1
   obtain⟨vs,bf7,hv⟩:=dq1 hk ho hc.1
   let Ec:Nat->Value:=fun i=>match look lm i with|some j=>E j|none=>E i
   have hEc:∀i j,look lm i=some j->Ec i=E j:=fun i j h=>by simp[Ec,h]
   have dc7:RVL w S Ec vs aC9:=by
    have h1:=bW9 (u:=targs1) hv
    rw[hmr]at h1
    exact bt2 (fun i j h=>(hEc i j h).symm) h1 ha
   have cf5:∀p∈rchp1,∃b',look hp p.1=some b'/\cn7 b' p.2=p.2:=by
    intro p hp'
    obtain⟨n,hn,rfl⟩:=da7.1 hp'
    have:(rchp1.map (bF3 hp))[n]? =(rchp1.map (fun p=>some p.2))[n]?:=by rw[cm8]
    rw[cM9,cM9,aJ9 hn]at this
    simp only[cb0,aj7]at this
    unfold bF3 at this
    split at this
    ·rename_i b' hb';exact⟨b',hb',cJ3 this⟩
    ·cases this
   have hO:ci5 w S Ec chp:=by
    refine⟨fun i b hb=>?_,fun i b β hb hβ=>?_,fun i i' b b' β hb hb' hβ hβ'=>?_⟩
    ·obtain⟨j,b',e1,e2,e3⟩:=bt1 hr hb
     obtain⟨b0,e4,e5⟩:=cf5 _ e3
     have h1:=dl1 (u:=b') (hk.hp j b0 e4)
     rw[show cn7 b0 b'=b' from e5]at h1
     rw[hEc i j e1]
     exact ec9 (fun i j h=>(hEc i j h).symm) h1 e2
    ·obtain⟨j,b',e1,e2,e3⟩:=bt1 hr hb
     obtain⟨b0,e4,e5⟩:=cf5 _ e3
     rw[hEc i j e1]at hβ
     have:=hk.own j b0 β e4 hβ
     exact⟨this.1,this.2.1⟩
    ·obtain⟨j,b1,e1,e2,e3⟩:=bt1 hr hb
     obtain⟨b0,e4,e5⟩:=cf5 _ e3
     obtain⟨j',b1',e1',e2',e3'⟩:=bt1 hr hb'
     obtain⟨b0',e4',e5'⟩:=cf5 _ e3'
     rw[hEc i j e1]at hβ
     rw[hEc i' j' e1']at hβ'
     have:=hk.au8 j j' b0 b0' β e4 e4' hβ hβ'
     subst this
     have hm':=hm
     simp only[bp7,au2]at hm'
     have nd:=(nodup_append (by simpa using hm'.1.1)).1
     have r1:=bF7 nd e1
     rw[bF7 nd e1']at r1
     exact(cJ3 r1).symm
   have aL7:=hc.2 t hm₁ w S Ec vs hk.aH4 hO dc7
   refine wpList_step fun K hK=>?_
   rw[V9 hk hg,if_pos rfl]
   unfold Oper.wp
   rw[bf7,Oper.upon_enter]
   refine aL7.mono fun e w' ⟨v,S',E',he,hv',aL8,h1,h2,hO',h3,h4⟩=>?_
   subst he
   have au9:∀t,bw5 X.nt o.dst (dJ3 t) ⟨tm,rhp t++ar3 lm hp⟩=some ⟨(d',dJ3 t)::tm,rhp t++ar3 lm hp⟩:=fun t=>by rw[hd];simp only[bw5,hb.2,fh5]
   obtain⟨S2,E2,hok,hrv⟩:=hk.called hm hr cm8 hEc hv' aL8 h1 h2 hO' h3 h4 (dk3 t) (hrhp t)
   exact hK _ _ (h t hm₁ r hr' _ _ ⟨S2,E2,bA0 hok hrv (au9 t)⟩)
end
section
variable {X:Cx} {all:Array Oper} {Vs:List T} {tm0:List (Nat × T)} {hp:List (Nat × H6)} {o:Oper} {ops:List Oper} {V:T} {l:List T}
end
def chain (ops:Array Oper)(l:List Bool):List Nat->List (Nat×Nat)
 |[]=>[]
 |i::r=>(i,match ops[i]?with|some o=>bif dQ1 o.op then 0 else 2*bitsOf ((dy2 ops.size).map fun j=>(!(l.getD j true))&&waits ops.toList ops.size j i)+1|none=>0)::chain ops (l.set i true) r
where bitsOf:List Bool->Nat
 |[]=>0
 |b::r=>(bif b then 1 else 0)+2*bitsOf r
section
variable {X:Cx} {ops:Array Oper} {fe:Nat} {le l:List Bool} {σ':St}
theorem aT4.ga {n:Nat}{tm tm':List (Nat×T)}{hp:List (Nat×H6)}(fuel:Nat)(is:List Nat)(hb:(bx3 (fuel+(chain ops l is).length) n&&ei5 X.nt ops (chain ops l is) l)=true)(he:evA X.D5 ops (is.map fun i=>(i,0)) tm hp=some tm')
  (h:aT4 X ops fe le fuel (cB8 (is.map fun i=>(i,0)) l) ⟨tm',hp⟩ σ'):aT4 X ops fe le n l ⟨tm,hp⟩ σ':=by
 rw[au2]at hb
 have e1:∀(is:List Nat) (l l':List Bool) (tm:List (Nat×T)),evA X.D5 ops (chain ops l' is) tm hp=evA X.D5 ops (is.map fun i=>(i,0)) tm hp:=by
  intro is
  induction is with
  |nil=>intro l l' tm;rfl
  |cons i r ih=>
   intro l l' tm
   rw[chain,cX5,evA,evA]
   split<;>try rfl
   split<;>try rfl
   split<;>try rfl
   exact ih l _ _
 have e2:∀(is:List Nat) (l l':List Bool),cB8 (chain ops l' is) l=cB8 (is.map fun i=>(i,0)) l:=by
  intro is
  induction is with
  |nil=>intro l l';rfl
  |cons i r ih=>intro l l';rw[chain,cX5,cB8,cB8];exact ih _ _
 exact aT4.go fuel (chain ops l is) (bq5 hb.1) hb.2 ((e1 is l l tm).trans he) (by rw[e2];exact h)
end
structure GK:Type 1 where
 {α:Type}
 enc:α->List Tree
 l:List α
 i:Int
inductive V:Type 1 where
 |mk {α:Type} (a:α)
 |gf (f:GK)
inductive Tr:Type 1 where
 |ok
 |bad
 |eq (a b:V)
 |and (x y:Tr)
 |all {τ:Type} (f:τ->Tr)
def Tr.den:Tr->Prop
 | .ok=>True
 | .bad=>False
 | .eq a b=>a=b
 | .and x y=>x.den/\y.den
 | .all f=>∀t,(f t).den
inductive Tv:Type 1 where
 |ok
 |no (b:Bool)
 |v (a:V)
 |and (x y:Tv)
 |all {τ:Type} (f:τ->Tv)
def Tr.l:Tr->Tv
 | .ok=>.ok
 | .bad=>.no false
 | .eq a _=>.v a
 | .and x y=>.and x.l y.l
 | .all f=>.all fun t=>(f t).l
def Tr.r:Tr->Tv
 | .ok=>.ok
 | .bad=>.no true
 | .eq _ b=>.v b
 | .and x y=>.and x.r y.r
 | .all f=>.all fun t=>(f t).r
theorem Tr.of:∀{x:Tr},x.l=x.r->x.den
 | .ok,_=>trivial
 | .bad,h=>by simp[Tr.l,Tr.r]at h
 | .eq a b,h=>by
  show a=b
  simpa[Tr.l,Tr.r]using h
 | .and x y,h=>by
  simp only[Tr.l,Tr.r,Tv.and.injEq]at h
  exact⟨Tr.of h.1,Tr.of h.2⟩
 | .all f,h=>by
  simp only[Tr.l,Tr.r,Tv.all.injEq,heq_eq_eq,true_and]at h
  exact fun t=>Tr.of (congrFun h t)
theorem V.eq {α:Type}{a b:α}(h:V.mk a=V.mk b):a=b:=by simpa using h
def dA1 (σ₁ σ:St):Tr:=.and (.eq (.mk (σ₁.tm.map (dv1 σ.tm))) (.mk (σ₁.tm.map fun p=>some p.2))) (.eq (.mk (σ₁.hp.map (bF3 σ.hp))) (.mk (σ₁.hp.map fun p=>some p.2)))
theorem cq4 {σ₁ σ:St}(h:(dA1 σ₁ σ).den):Sub σ₁ σ:=.of (V.eq h.1) (V.eq h.2)
def aD8 (d:Nat):List Nat->Bool
 |[]=>false
 |x::l=>bif bx3 x d then true else aD8 d l
def gk (all:List Oper)(kb:List Nat)(tm:List (Nat×T)):Option (Nat×Bool)->Option Bool
 |none=>some true
 |some (j,want)=>match all[j]?with
  |some o=>match o.dst with
   |some d=>match look tm d with
    |some (.t (.v (.bool b)))=>bif aD8 d kb then some (match want with|true=>b|false=>!b)else none
    |some (.t (.v (.tuple _)))=>some false
    |_=>none
   |none=>none
  |none=>none
theorem aG3 {all:List Oper}{kb:List Nat}{tm:List (Nat×T)}{g:Option (Nat×Bool)}{b:Bool}(h:gk all kb tm g=some b):aj1 all tm g=some b:=by
 cases g with
 |none=>exact h
 |some p=>
  obtain⟨j,want⟩:=p
  simp only[gk]at h
  simp only[aj1]
  cases ho:all[j]?with
  |none=>simp only[ho]at h;cases h
  |some o=>
   simp only[ho]at h|-
   cases hd:o.dst with
   |none=>simp only[hd]at h;cases h
   |some d=>
    simp only[hd]at h|-
    split at h<;>try(cases h;done)
    ·cases hb:aD8 d kb<;>simp only[hb,fh5,fh3,reduceCtorEq]at h
     rename_i hl;simp only[hl];exact h
    ·rename_i hl;simp only[hl];exact h
def rmv:List Nat->List (Nat×T)->List (Nat×T)
 |_,[]=>[]
 |ds,(k,x)::r=>bif aD8 k ds then rmv ds r else(k,x)::rmv (k::ds) r
def aV9:List Oper->List Nat
 |[]=>[]
 |o::r=>match o.dst with|some d=>d::aV9 r|none=>aV9 r
def dI3:Op->Bool
 | .binOp op _ _ y _=>match op with
  | .quo| .rem| .shl| .shr=>(match y with| .const _=>true|_=>false)
  |_=>true
 | .index _ _ y=>(match y with| .const _=>true|_=>false)
 | .indexAddr _ _ y=>(match y with| .const _=>true|_=>false)
 |_=>true
def dX3 (o:Op):Bool:=bB3 o&&dI3 o
theorem dd5 {o:Op}(h:dX3 o=true):bB3 o=true:=by
 unfold dX3 at h;rw[au2]at h;exact h.1
def cut (d:Nat):List Oper->Option (List Oper×Nat×Op×List Oper)
 |[]=>none
 |o::r=>match(match o.op with| .pick (.tmp k) _ _=>bx3 k d|_=>false),o.dst with
  |true,some q=>some ([o],q,o.op,r)
  |_,_=>match cut d r with
   |some (g,q,op,r')=>some (o::g,q,op,r')
   |none=>none
theorem dF1 {d:Nat}:∀{l g r:List Oper}{q:Nat}{op:Op},cut d l=some (g,q,op,r)->l=g++r
 |[],_,_,_,_,h=>by cases h
 |o::l,g,r,q,op,h=>by
  unfold cut at h
  split at h
  ·simp only[aj7,aX2]at h
   obtain⟨rfl,_,_,rfl⟩:=h;rfl
  ·split at h<;>try(cases h;done)
   rename_i hc
   simp only[aj7,aX2]at h
   obtain⟨rfl,rfl,rfl,rfl⟩:=h
   rw[dF1 hc];rfl
def comb (b v w:Bool):Op->Option Bool
 | .pick _ _ (.const (.bool false))=>match w with|false=>some (b&&v)|true=>none
 | .pick _ (.const (.bool true)) _=>match v with|true=>some (b||w)|false=>none
 |_=>some (bif b then v else w)
theorem eA0 {b v w c:Bool}{op:Op}(h:comb b v w op=some c):c=bif b then v else w:=by
 unfold comb at h
 split at h
 ·split at h<;>simp at h
  subst h;cases b<;>simp
 ·split at h<;>simp at h
  subst h;cases b<;>simp
 ·simp at h;exact h.symm
mutual
def evG (D5:Tab)(nt:Nat)(all:List Oper)(hp:List (Nat×H6)):Nat->List Nat->List Oper->List (Nat×T)->Option (List (Nat×T))
 |0,_,_,_=>none
 |_+1,_,[],tm=>some tm
 |f+1,kb,o::r,tm=>match gk all kb tm o.guard with
  |some true=>bif dX3 o.op then match evalOp D5 ⟨tm,hp⟩ o,o.dst with
    |some (t,_),some d=>bif ba2 d nt then evG D5 nt all hp f kb r ((d,t)::tm)else none
    |_,_=>none
   else none
  |some false=>match o.dst with
   |some d=>bif ba2 d nt then evG D5 nt all hp f kb r ((d,.t (.v undef))::tm)else none
   |none=>none
  |none=>match evP D5 nt all hp f kb (o::r) tm with
   |some (r',tm')=>evG D5 nt all hp f kb r' tm'
   |none=>none
def evP (D5:Tab)(nt:Nat)(all:List Oper)(hp:List (Nat×H6)):Nat->List Nat->List Oper->List (Nat×T)->Option (List Oper×List (Nat×T))
 |0,_,_,_=>none
 |f+1,kb,ops,tm=>match ops with
  |[]=>none
  |o::_=>match o.guard with
   |none=>none
   |some (j,_)=>match all[j]?with
    |none=>none
    |some oj=>match oj.dst with
     |none=>none
     |some d=>match look tm d,cut d ops with
      |some (.t (.v (.bool b))),some (g,q,op,r)=>match evG D5 nt all hp f (d::kb) g ((d,.t (.v (.bool true)))::tm),evG D5 nt all hp f (d::kb) g ((d,.t (.v (.bool false)))::tm)with
       |some t1,some t2=>match look t1 q,look t2 q with
        |some (.t (.v (.bool v))),some (.t (.v (.bool w)))=>match comb b v w op with
         |some c=>some (r,(q,.t (.v (.bool c)))::rmv (aV9 g) tm)
         |none=>none
        |_,_=>none
       |_,_=>none
      |_,_=>none
end
def stO (D5:Tab)(nt:Nat)(all:List Oper)(kb:List Nat)(o:Oper)(r:List Oper)(tm:List (Nat×T))(hp:List (Nat×H6)):Option (List Oper×St):=
 match gk all kb tm o.guard with
 |some true=>bif dI3 o.op then(match cH9 D5 tm hp o with
  |some (t,σ)=>match bw5 nt o.dst t σ with
   |some σ'=>some (r,σ')
   |none=>none
  |none=>none)else none
 |some false=>match bw5 nt o.dst (.t (.v undef)) ⟨tm,hp⟩with
  |some σ'=>some (r,σ')
  |none=>none
 |none=>match evP D5 nt all hp 64 kb (o::r) tm with
  |some (r',tm')=>some (r',⟨tm',hp⟩)
  |none=>none
end Go.Pv
namespace Go.Pv
open Go.RowKit
theorem bs9 {k d:Nat}{l:List Nat}:aD8 k (d::l)=false↔d≠k/\aD8 k l=false:=by
 simp only[aD8]
 cases hb:bx3 d k
 ·simp only[fh3]
  exact⟨fun h=>⟨fun e=>by subst e;simp at hb,h⟩,fun h=>h.2⟩
 ·simp only[fh5]
  have:=bq5 hb
  simp[this]
theorem J8 {α:Type}{d k:Nat}{x:α}{l:List (Nat×α)}(h:d≠k):look ((d,x)::l) k=look l k:=by simp[look,D6 h]
theorem cn3:∀{tm:List (Nat×T)}{ds:List Nat}{k:Nat},aD8 k ds=false->look (rmv ds tm) k=look tm k
 |[],ds,k,_=>rfl
 |(j,x)::r,ds,k,h=>by
  unfold rmv
  by_cases hjk:j=k
  ·subst hjk;rw[h];simp[look]
  ·cases hj:aD8 j ds<;>simp only[fh5,fh3]
   ·rw[J8 hjk,J8 hjk,cn3 (bs9.2 ⟨hjk,h⟩)]
   ·rw[cn3 h,J8 hjk]
theorem cU0:∀{tm:List (Nat×T)}{ds:List Nat}{k:Nat},aD8 k ds=true->look (rmv ds tm) k=none
 |[],_,_,_=>rfl
 |(j,x)::r,ds,k,h=>by
  unfold rmv
  cases hj:aD8 j ds<;>simp only[fh5,fh3]
  ·have hjk:j≠k:=fun e=>by subst e;rw[h]at hj;cases hj
   rw[J8 hjk]
   exact cU0 (by simp[aD8,h])
  ·exact cU0 h
theorem cm9 {ds:List Nat}{tm:List (Nat×T)}{k:Nat}{t:T}(h:look (rmv ds tm) k=some t):aD8 k ds=false/\look tm k=some t:=by
 cases hk:aD8 k ds
 ·exact⟨rfl,by rwa[cn3 hk]at h⟩
 ·rw[cU0 hk]at h;cases h
theorem Sim.more {w0:World}{L:Lim}{nt:Nat}{tm tm':List (Nat×T)}{hp:List (Nat×H6)}{a:Act}{w:World}(hm:more tm' tm)(h:Sim w0 L nt ⟨tm,hp⟩ a w):Sim w0 L nt ⟨tm',hp⟩ a w:=by
 obtain⟨S,E,hk⟩:=h
 exact⟨S,E,{hk with tm:=fun k t ht=>hk.tm k t (hm k t ht)}⟩
section
variable {ρ:Type} {X:Cx} {ks:List K} {m:Option ρ} {Q:ρ -> Exit -> St -> Prop} {all:Array Oper} {tm tm':List (Nat × T)} {hp:List (Nat × H6)} {ops:List Oper}
theorem C3.more (hm:more tm' tm)(h:C3 X all ops ks ⟨tm',hp⟩ m Q):C3 X all ops ks ⟨tm,hp⟩ m Q:=fun r hr a w hw=>h r hr a w (hw.more hm)
theorem du5 {k:Nat}:∀{l l':List Nat},aD8 k (l++l')=false↔aD8 k l=false/\aD8 k l'=false
 |[],l'=>by simp[aD8]
 |x::l,l'=>by
  rw[dK4,bs9,bs9,du5]
  exact and_assoc.symm
theorem db8:∀{l l':List Oper},aV9 (l++l')=aV9 l++aV9 l'
 |[],_=>rfl
 |o::l,l'=>by
  simp only[dK4,aV9]
  split<;>simp[db8]
theorem cA6 {D5:Tab}{tm:List (Nat×T)}{hp:List (Nat×H6)}{o:Oper}{t:T}{σ':St}(hi:bB3 o.op=true)(he:evalOp D5 ⟨tm,hp⟩ o=some (t,σ')):σ'=⟨tm,hp⟩:=by
 rw[aU3]at he
 obtain⟨dst,op,type,pos,aft,guard⟩:=o
 cases op<;>simp only[bB3,reduceCtorEq]at hi<;>simp only[bl7]at he<;>
 first
  |exact(P5 he).2
  |(repeat' split at he)<;>first
    |(cases he;done)
    |exact(P5 he).2
    |(simp only[aj7,aX2]at he;exact he.2.symm)
    |(simp only[eC7,aX2]at he;obtain⟨_,_,_,h⟩:=he;exact h.symm)
    |(rename Nat=>i;revert he;cases ba2 _ _<;>intro he<;>simp only[fh5,fh3,reduceCtorEq,aj7,aX2]at he<;>first|exact he.2.symm|exact(P5 he).2)
theorem dM8 {d:Nat}:∀{l g r:List Oper}{q:Nat}{op:Op},cut d l=some (g,q,op,r)->aD8 q (aV9 g)=true
 |[],_,_,_,_,h=>by cases h
 |o::l,g,r,q,op,h=>by
  unfold cut at h
  split at h
  ·rename_i hd
   simp only[aj7,aX2]at h
   obtain⟨rfl,rfl,_,rfl⟩:=h
   simp[aV9,hd,aD8]
  ·split at h<;>try(cases h;done)
   rename_i hc
   simp only[aj7,aX2]at h
   obtain⟨rfl,rfl,rfl,rfl⟩:=h
   have:=dM8 hc
   unfold aV9
   split
   ·simp only[aD8];cases bx3 _ _<;>simp[this]
   ·exact this
theorem Sim.lit {w0:World}{L:Lim}{nt:Nat}{tm:List (Nat×T)}{hp:List (Nat×H6)}{a:Act}{w:World}{d:Nat}{x:T}(hd:look tm d=some x)(h:Sim w0 L nt ⟨tm,hp⟩ a w):Sim w0 L nt ⟨(d,x)::tm,hp⟩ a w:=
 h.more fun k t hk=>by
  by_cases hdk:d=k
  ·subst hdk;simp only[look,bX7,fh5,aj7]at hk;subst hk;exact hd
  ·rwa[J8 hdk]at hk
theorem eI9:∀(f:Nat),
  (∀(kb:List Nat) (ops:List Oper) (tm tm1:List (Nat×T)),evG X.D5 X.nt all.toList hp f kb ops tm=some tm1->(∀k,aD8 k (aV9 ops)=false->look tm1 k=look tm k)/\∀(rest:List Oper),C3 X all rest ks ⟨tm1,hp⟩ m Q->C3 X all (ops++rest) ks ⟨tm,hp⟩ m Q)/\
  (∀(kb:List Nat) (ops r:List Oper) (tm tm1:List (Nat×T)),evP X.D5 X.nt all.toList hp f kb ops tm=some (r,tm1)->(∀k,aD8 k (aV9 ops)=false->aD8 k (aV9 r)=false/\look tm1 k=look tm k)/\∀(rest:List Oper),C3 X all (r++rest) ks ⟨tm1,hp⟩ m Q->C3 X all (ops++rest) ks ⟨tm,hp⟩ m Q)
 |0=>⟨fun kb ops tm tm1 h=>by simp[evG]at h,fun kb ops r tm tm1 h=>by simp[evP]at h⟩
 |f+1=>by
  obtain⟨ih1,ih2⟩:=eI9 f
  refine⟨fun kb ops tm tm1 h=>?_,fun kb ops r tm tm1 h=>?_⟩
  ·cases ops with
   |nil=>
    simp only[evG,aj7]at h
    subst h
    exact⟨fun _ _=>rfl,fun rest h=>h⟩
   |cons o r=>
    unfold evG at h
    split at h
    ·rename_i hg
     cases hp':dX3 o.op<;>simp only[hp',fh5,fh3,reduceCtorEq]at h
     have hp':=dd5 hp'
     split at h<;>try(cases h;done)
     rename_i t σ' d he hd
     cases hb:ba2 d X.nt<;>simp only[hb,fh5,fh3,reduceCtorEq]at h
     obtain⟨h1,h2⟩:=ih1 _ _ _ _ h
     refine⟨fun k hk=>?_,fun rest hr=>?_⟩
     ·simp only[aV9,hd,bs9]at hk
      rw[h1 k hk.2,J8 hk.1]
     ·have hσ:σ'=⟨tm,hp⟩:=cA6 hp' he
      subst hσ
      exact .step (aG3 hg) he (by rw[hd];simp only[bw5,hb,fh5]) (h2 rest hr)
    ·rename_i hg
     split at h<;>try(cases h;done)
     rename_i d hd
     cases hb:ba2 d X.nt<;>simp only[hb,fh5,fh3,reduceCtorEq]at h
     obtain⟨h1,h2⟩:=ih1 _ _ _ _ h
     refine⟨fun k hk=>?_,fun rest hr=>?_⟩
     ·simp only[aV9,hd,bs9]at hk
      rw[h1 k hk.2,J8 hk.1]
     ·exact .pass (aG3 hg) (by rw[hd];simp only[bw5,hb,fh5]) (h2 rest hr)
    ·split at h<;>try(cases h;done)
     rename_i r' tm' he
     obtain⟨h1,h2⟩:=ih2 _ _ _ _ _ he
     obtain⟨h3,h4⟩:=ih1 _ _ _ _ h
     exact⟨fun k hk=>by rw[h3 k (h1 k hk).1,(h1 k hk).2],fun rest hr=>h2 rest (h4 rest hr)⟩
  ·unfold evP at h
   split at h<;>try(cases h;done)
   rename_i o r0
   split at h<;>try(cases h;done)
   split at h<;>try(cases h;done)
   split at h<;>try(cases h;done)
   rename_i d _
   split at h<;>try(cases h;done)
   rename_i b g q op r1 hl hc
   split at h<;>try(cases h;done)
   rename_i t1 t2 e1 e2
   split at h<;>try(cases h;done)
   rename_i v w hv hw
   split at h<;>try(cases h;done)
   rename_i c hcb
   simp only[aj7,aX2]at h
   obtain⟨rfl,rfl⟩:=h
   have aK7:=dF1 hc
   have hcomb:=eA0 hcb
   obtain⟨g1,g2⟩:=ih1 _ _ _ _ e1
   obtain⟨g3,g4⟩:=ih1 _ _ _ _ e2
   have hq:aD8 q (aV9 g)=true:=dM8 hc
   refine⟨fun k hk=>?_,fun rest hr=>?_⟩
   ·rw[aK7,db8,du5]at hk
    refine⟨hk.2,?_⟩
    have hqk:q≠k:=fun e=>by subst e;rw[hq]at hk;exact absurd hk.1 (by simp)
    rw[J8 hqk,cn3 hk.1]
   ·rw[aK7,dq9]
    intro r' hr' a' w' hw'
    cases b
    ·refine g4 (r1++rest) (C3.more (fun k t hk=>?_) hr) r' hr' a' w' (Sim.lit hl hw')
     simp only[look]at hk
     by_cases hqk:q=k
     ·subst hqk
      simp only[bX7,fh5,aj7]at hk
      subst hk;rw[hw,hcomb];rfl
     ·simp only[D6 hqk,fh3]at hk
      obtain⟨h5,h6⟩:=cm9 hk
      rw[g3 k h5]
      by_cases hdk:d=k
      ·subst hdk;rw[hl]at h6;simpa[look]using h6
      ·rw[J8 hdk];exact h6
    ·refine g2 (r1++rest) (C3.more (fun k t hk=>?_) hr) r' hr' a' w' (Sim.lit hl hw')
     simp only[look]at hk
     by_cases hqk:q=k
     ·subst hqk
      simp only[bX7,fh5,aj7]at hk
      subst hk;rw[hv,hcomb];rfl
     ·simp only[D6 hqk,fh3]at hk
      obtain⟨h5,h6⟩:=cm9 hk
      rw[g1 k h5]
      by_cases hdk:d=k
      ·subst hdk;rw[hl]at h6;simpa[look]using h6
      ·rw[J8 hdk];exact h6
theorem eS3 {kb:List Nat}{o:Oper}{r r':List Oper}{σ':St}(h:stO X.D5 X.nt all.toList kb o r tm hp=some (r',σ'))(k:C3 X all r' ks σ' m Q):C3 X all (o::r) ks ⟨tm,hp⟩ m Q:=by
 unfold stO at h
 split at h
 ·rename_i hg
  cases hq:dI3 o.op<;>rw[hq]at h<;>simp only[fh5,fh3,reduceCtorEq]at h
  split at h<;>try(cases h;done)
  rename_i he
  split at h<;>try(cases h;done)
  rename_i hpt
  simp only[aj7,aX2]at h
  obtain⟨rfl,rfl⟩:=h
  exact .step (aG3 hg) he hpt k
 ·rename_i hg
  split at h<;>try(cases h;done)
  rename_i hpt
  simp only[aj7,aX2]at h
  obtain⟨rfl,rfl⟩:=h
  exact .pass (aG3 hg) hpt k
 ·split at h<;>try(cases h;done)
  rename_i he
  simp only[aj7,aX2]at h
  obtain⟨rfl,rfl⟩:=h
  have:=((eI9 (X:=X) (ks:=ks) (m:=m) (Q:=Q) (all:=all) (hp:=hp) 64).2 _ _ _ _ _ he).2 [] (by simpa using k)
  simpa using this
theorem F9.out {id:Nat}{σ:St}(hp:bw4 id ks=none)(h:ad0 X [] (.exit id) σ m Q):F9 X (.c (.exit id)::ks) σ m Q:=fun r hr a w hw=>
 wp_exit (ay4 hp (h r hr a w hw))
end
structure C (P:Program)(τ:Type)where
 n:Nat
 args:List T
 m:Option τ
 e:Nat->Option τ
 res:τ->T
 ok:aR1 P n args m res
 le:∀k r,e k=some r->m=some r
structure CG (P:Program)(τ:Type)where
 n:Nat
 args:List T
 hp:List (Nat×H6)
 m:Option τ
 e:Nat->Option τ
 res:τ->T
 hp':τ->List (Nat×H6)
 nw:List Nat
 ok:bh9 P n args hp m res hp'
 le:∀k r,e k=some r->m=some r
structure Cl (P:Program)(α β:Type)(A:α->List T)(R:β->T)where
 n:Nat
 cs:List (List Tree)
 f:α->Option β
 e:Nat->α->Option β
 ok:∀x,aR1 P n (A x++cs.map T.el) (f x) R
 le:∀k x r,e k x=some r->f x=some r
def Cl.at {P:Program}{α β:Type}{A:α->List T}{R:β->T}(c:Cl P α β A R)(x:α):C P β:=⟨c.n,A x++c.cs.map T.el,c.f x,fun k=>c.e k x,R,c.ok x,fun k=>c.le k x⟩
def CG.f {P:Program}{τ:Type}(c:CG P τ)(h0:c.hp=[])(h:∀r,ba9 (c.hp' r) (c.res r)=some ((ba9 (c.hp' r) (c.res r)).getD .any)):C P τ:=
 ⟨c.n,c.args,c.m,c.e,fun r=>(ba9 (c.hp' r) (c.res r)).getD .any,bh9.toF (h0▸c.ok) h,c.le⟩
def Cl.of {P:Program}{α β:Type}{A:α->List T}{R:β->T}(c:α->C P β)(n:Nat)(cs:List (List Tree))(hn:∀x,(c x).n=n:=by intro _;rfl)(ha:∀x,(c x).args=A x++cs.map T.el:=by intro _;rfl)(hr:∀x,(c x).res=R:=by intro _;rfl):Cl P α β A R:=
 ⟨n,cs,fun x=>(c x).m,fun k x=>(c x).e k,fun x=>hn x▸ha x▸hr x▸(c x).ok,fun k x=>(c x).le k⟩
def dv2 {S B:Type}(mb:S->Option (S⊕B)):Nat->S->Option B
 |0,_=>none
 |n+1,s=>match mb s with
  |some (.inl s')=>dv2 mb n s'
  |some (.inr b)=>some b
  |none=>none
theorem cQ8 {S B:Type}{mb mb':S->Option (S⊕B)}(h:∀s f,mb' s=some f->mb s=some f):∀{n:Nat}{s:S}{b:B},dv2 mb' n s=some b->bM2 mb s b
 |0,_,_,hl=>by cases hl
 |n+1,s,b,hl=>by
  unfold dv2 at hl
  split at hl
  ·rename_i hm;exact .next (h _ _ hm) (cQ8 h hl)
  ·rename_i hm;cases hl;exact .out (h _ _ hm)
  ·cases hl
abbrev tq {α:Type}(a b:α):Tr:=.eq (.mk a) (.mk b)
structure GF:Type 1 where
 {α:Type}
 enc:α->List Tree
 l:List α
 i:Int
 y:α
def GF.ok (f:GF):Prop:=F0 f.l f.i=some f.y
structure EqV (P:Program)where
 f:Nat->List T->List T->Option Bool
 ok:∀ty xs ys b,f ty xs ys=some b->∃vs us,xs=tvs vs/\ys=tvs us/\dS6 P ty vs us b
def cat {α:Type}(enc:α->List Tree):List α->List Tree
 |[]=>[]
 |y::r=>enc y++cat enc r
inductive L1:Type->Type 1 where
 |ix {α:Type} (enc:α->List Tree) (l:List α) (i:Int):L1 α
 |quo (k:IntKind) (x y:Int):L1 Int
 |rem (x y:Int):L1 Int
 |shl (k:IntKind) (x y:Int):L1 Int
 |shr (k:IntKind) (x y:Int):L1 Int
 |str (s:ByteArray) (i:Int):L1 Int
 |arr {α:Type} (res:α->T) (ys:List α) (i:Int):L1 α
 |ax {α:Type} (enc:α->List Tree) (ys:List α) (i:Int):L1 α
def fb6 (s:ByteArray)(i:Int):Option Int:=(if 0<=i then s[i.toNat]?else none).map fun b=>(b.toNat:Int)
def L1.m:{τ:Type}->L1 τ->Option τ
 |_,.ix _ l i=>F0 l i
 |_,.quo k x y=>bo2 k x y
 |_,.rem x y=>cg7 x y
 |_,.shl k x y=>et2 k x y
 |_,.shr k x y=>et3 k x y
 |_,.str s i=>fb6 s i
 |_,.arr _ ys i=>F0 ys i
 |_,.ax _ ys i=>F0 ys i
def L1.k:{τ:Type}->L1 τ->τ->List GF->List GF
 |_,.ix enc l i,y,Γ=>⟨enc,l,i,y⟩::Γ
 |_,_,_,Γ=>Γ
def eg9 {α:Type}(a:Bool)(sz:Nat)(l:List T)(res:α->T):List α->Nat->Tr
 |[],_=>.ok
 |y::r,j=>.and (tq (bh7 a sz l (j*sz)) (some (res y))) (eg9 a sz l res r (j+1))
def L1.q (D5:Tab)(tm:List (Nat×T))(hp:List (Nat×H6))(o:Op):{τ:Type}->L1 τ->Option (Tr×(τ->T))
 |_,.ix enc l i=>match o with
  | .indexAddr ty x ii=>match val tm x,val tm ii,look D5 ty with
   |some X,some (.t (.v (.int _ j))),some ⟨_,.slice e,_⟩=>match look D5 e with
    |some te=>match X with
     | .own id=>match look hp id with
      |some (.rows _ sz n rs)=>bif bx3 te.size sz then some (.and (tq (n,rs) (l.length,l.map enc)) (tq j i),fun _=>.pe id i.toNat sz 0)else none
      |_=>none
     |X=>some (.and (tq X (.t (tS enc l))) (.and (tq j i) (tq (α:=_->Nat) (fun y=>(enc y).length) (fun _=>te.size))),fun y=>.el (enc y))
    |none=>none
   |_,_,_=>none
  |_=>none
 |_,.quo k x y=>match o with
  | .binOp .quo _ a b _=>match val tm a,val tm b with
   |some (.t (.v (.int k1 x1))),some (.t (.v (.int k2 y1)))=>some (tq (k1,x1,k2,y1) (k,x,k,y),fun q=>.t (.v (.int k q)))
   |_,_=>none
  |_=>none
 |_,.rem x y=>match o with
  | .binOp .rem _ a b _=>match val tm a,val tm b with
   |some (.t (.v (.int k1 x1))),some (.t (.v (.int k2 y1)))=>some (tq (x1,k2,y1) (x,k1,y),fun q=>.t (.v (.int k1 q)))
   |_,_=>none
  |_=>none
 |_,.shl k x y=>match o with
  | .binOp .shl _ a b _=>match val tm a,val tm b with
   |some (.t (.v (.int k1 x1))),some (.t (.v (.int _ y1)))=>some (tq (k1,x1,y1) (k,x,y),fun q=>.t (.v (.int k q)))
   |_,_=>none
  |_=>none
 |_,.shr k x y=>match o with
  | .binOp .shr _ a b _=>match val tm a,val tm b with
   |some (.t (.v (.int k1 x1))),some (.t (.v (.int _ y1)))=>some (tq (k1,x1,y1) (k,x,y),fun q=>.t (.v (.int k q)))
   |_,_=>none
  |_=>none
 |_,.str s i=>match o with
  | .index ty x ii=>match val tm x,val tm ii,look D5 ty with
   |some (.t (.v (.string s'))),some (.t (.v (.int _ j))),some ⟨_,.string,_⟩=>some (tq (s',j) (s,i),fun y=>.t (.v (.int .u8 y)))
   |_,_,_=>none
  |_=>none
 |_,.arr res ys i=>match o with
  | .index ty x ii=>match val tm x,val tm ii,look D5 ty with
   |some (.agg l),some (.t (.v (.int _ j))),some ⟨_,.array n e,_⟩=>match look D5 e with
    |some te=>bif bx3 ys.length n then some (.and (tq j i) (eg9 te.desc.isAgg te.size l res ys 0),res)else none
    |none=>none
   |_,_,_=>none
  |_=>none
 |_,.ax enc ys i=>match o with
  | .indexAddr ty x ii=>match val tm x,val tm ii,look D5 ty with
   |some (.el cs),some (.t (.v (.int _ j))),some ⟨_,.array n e,_⟩=>match look D5 e with
    |some te=>bif bx3 ys.length n then some (.and (tq j i) (.and (tq cs (cat enc ys)) (tq (α:=_->Nat) (fun y=>(enc y).length) (fun _=>te.size))),fun y=>.el (enc y))else none
    |none=>none
   |_,_,_=>none
  |_=>none
inductive W1 where
 |hx (n:Nat)
 |ly (n:Nat)
 |eq
 |cn
 |sn
def W1.q {P:Program}(Ev:EqV P)(D5:Tab)(Γ:List GF)(tm:List (Nat×T))(hp:List (Nat×H6))(o:Op):W1->Option (Tr×T)
 | .hx n=>match Γ[n]?with
  |some f=>match(L1.ix f.enc f.l f.i).q D5 tm hp o with
   |some (t,res)=>some (t,res f.y)
   |none=>none
  |none=>none
 | .ly n=>match Γ[n]?,o with
  |some f,.load t p=>match val tm p,look D5 t with
   |some (.pe id i sz off),some ti=>match look hp id,bh7 ti.desc.isAgg ti.size ((f.enc f.y).map .t) off with
    |some (.rows _ sz' n rs),some r=>bif bx3 sz sz' then some (tq (i,n,rs) (f.i.toNat,f.l.length,f.l.map f.enc),r)else none
    |_,_=>none
   |_,_=>none
  |_,_=>none
 | .eq=>match o with
  | .binOp op ty x y _=>match val tm x,val tm y with
   |some (.agg xs),some (.agg ys)=>match Ev.f ty xs ys with
    |some b=>match op with
     | .eql=>some (.ok,.t (.v (.bool b)))
     | .neq=>some (.ok,.t (.v (.bool (!b))))
     |_=>none
    |none=>none
   |_,_=>none
  |_=>none
 | .cn=>match o with
  | .call ⟨.builtin .cap,a,b⟩=>match a.toList,b.toList with
   |[x],[t]=>match val tm x,look D5 t with
    |some (.t (.v (.slice none 0 0))),some ⟨_,.slice _,_⟩=>some (.ok,.t (.v (.int .i64 0)))
    |_,_=>none
   |_,_=>none
  |_=>none
 | .sn=>match o with
  | .slice t x none (some hi) none=>match val tm x,val tm hi,look D5 t with
   |some (.t (.v (.slice none 0 0))),some (.t (.v (.int _ 0))),some ⟨_,.slice e,_⟩=>match look D5 e with
    |some _=>some (.ok,.t (.v (.slice none 0 0)))
    |none=>none
   |_,_,_=>none
  |_=>none
def cN1 (tm:List (Nat×T))(o:Oper):Option (Nat×List T×List (List Tree)):=
 match o.op with
 | .call ⟨.value f,args,_⟩=>match val tm f,by3 tm args.toList with
  |some (.fz n aQ8),some l=>some (n,l,aQ8)
  |some (.clo n cs),some l=>match els cs with
   |some aQ8=>some (n,l,aQ8)
   |none=>none
  |_,_=>none
 |_=>none
def cN0 (tm:List (Nat×T))(hp:List (Nat×H6))(o:Oper):Option (Nat×List T×Bool×Nat):=match cN1 tm o,o.dst with
 |some (n,targs,aQ8),some d=>match bn5 [] targs with
  |some l=>some (n,l++aQ8.map T.el,false,d)
  |none=>match bn5 hp targs with
   |some l=>some (n,l++aQ8.map T.el,true,d)
   |none=>none
 |_,_=>none
open Go.RowKit Go.Sort Go.Shelf Go.Proofs
theorem dE9 (zs:List Int):Lib.compact zs=bD9 zs:=by
 have key:∀m,m<=zs.length->Lib.compactUpTo zs.toArray m=bD9 (zs.take m):=by
  intro m
  induction m with
  |zero=>intro _;rfl
  |succ m ih=>
   intro hm
   have hg:∀j (hj:j<zs.length),(zs.toArray)[j]! =zs[j]:=fun j hj=>by
    rw[getElem!_pos zs.toArray j (by simpa using hj)];simp
   rw[Lib.compactUpTo_succ,ih (by omega),List.take_succ_eq_append_getElem (by omega:m<zs.length),hg m (by omega)]
   by_cases h0:m=0
   ·subst h0;rfl
   ·have hne:zs.take m≠[]:=by
     intro h
     have:=congrArg fd2 h
     rw[bs8,cY9]at this;omega
    rw[dE8 _ _ hne]
    have hl:(zs.take m).getLast hne=zs[m-1]:=by
     rw[List.getLast_eq_getElem,ed8]
     congr 1
     rw[bs8];omega
    rw[hl]
    unfold Lib.keeps
    rw[hg m (by omega),hg (m-1) (by omega)]
    by_cases he:zs[m]=zs[m-1]
    ·rw[if_pos he,if_neg (by simp[h0,he])]
    ·rw[if_neg he,if_pos (by simp[h0,he])]
 unfold Lib.compact
 rw[key _ (cB6 _),List.take_length]
section
variable (w:World) (β m:Nat) (d:Array Int) (os:Array Obj)
def cG6:World:=grow (putRow (Value.int .i64) (Sort.ahead w m) β 0 d) os
theorem cI7:(cG6 w β m d os).heap.size=w.heap.size+os.size:=by
 simp[cG6,putRow,mapBlock,Sort.ahead,grow]
theorem es6 (b:Nat)(hb:b<w.heap.size)(hne:b≠β):(cG6 w β m d os).heap[b]? =w.heap[b]?:=by
 simp only[cG6,putRow,mapBlock,Sort.ahead,grow]
 rw[eL5 (by simpa using hb),eU6,if_neg (Ne.symm hne)]
theorem eS0 {cs:Array Value}{elem:TypeId}(hh:w.heap[β]? =some (.cells cs elem (0,0))):(cG6 w β m d os).heap[β]? =some (.cells (putCells (Value.int .i64) 0 d cs) elem (0,0)):=by
 have hb:β<w.heap.size:=(dC3.1 hh).1
 simp only[cG6,putRow,mapBlock,Sort.ahead,grow]
 rw[eL5 (by simpa using hb),eU6,if_pos rfl,hh]
 rfl
theorem dQ6 (L:Nat->Prop)(hL:L β):aW2 L w (cG6 w β m d os)where
 os:=rfl
 tape:=rfl
 output:=rfl
 size:=by rw[cI7];omega
 block:=fun b hb hn=>es6 w β m d os b hb (fun e=>hn (e▸hL))
 drawn:=by simp[cG6,putRow,mapBlock,Sort.ahead,grow]
end
theorem dy8 {w:World}{S:Nat->Prop}{E':Nat->Value}{e id' β cap m:Nat}{r z:List Int}{vs:List Value}{os:Array Obj}(hcm:cap<=maxLen)(hh:w.heap[β]? =some (.cells vs.toArray e (0,0)))(hvl:vs.length=cap*1)(hrl:r.length<=cap)
  (hE':E' id'= .slice (some ⟨β,0,none⟩) r.length cap) (hS:¬S β) (hβ:β<w.heap.size):ci5 (cG6 w β m (r++z).toArray os) S E' [(id',.rows e 1 r.length (r.map encI))]:=by
 have one:∀id b,look [(id',H6.rows e 1 r.length (r.map encI))] id=some b->id=id'/\b= .rows e 1 r.length (r.map encI):=fun id b hl=>by
  simp only[look]at hl
  by_cases hid:id'=id
  ·subst hid;simp at hl;exact⟨rfl,hl.symm⟩
  ·simp[D6 hid]at hl
 refine⟨fun id b hl=>?_,fun id b β' hl hβ'=>?_,fun id id1 b b' β' hl hl' _ _=>?_⟩
 ·obtain⟨rfl,rfl⟩:=one _ _ hl
  rw[hE']
  refine⟨by simp,.inr ⟨β,cap,(putCells (Value.int .i64) 0 (r++z).toArray vs.toArray).toList,hcm,by simp,by rw[eS0 w β m _ os hh],by simp[putCells,hvl],by simpa using hrl,?_,?_⟩⟩
  ·intro x hx
   obtain⟨y,_,rfl⟩:=cZ1.1 hx
   rfl
  ·intro i j hi hj hb
   have hi':i<r.length:=by simpa using hi
   have hj':j=0:=by
    rw[dB9]at hj
    have:(encI r[i]).length=1:=rfl
    omega
   subst hj'
   have e1:(putCells (Value.int .i64) 0 (r++z).toArray vs.toArray).toList[i*1+0]= .int .i64 r[i]:=by
    simp only[fc4,Nat.mul_one,eb5]
    simp only[putCells,Array.getElem_mapIdx,Nat.zero_le,true_and,cY7,Nat.sub_zero,eZ5]
    rw[if_pos (by rw[aX7];omega),getElem!_pos _ _ (by simp only[eZ5,aX7];omega)]
    simp only[List.getElem_toArray]
    rw[cG5 hi']
   rw[e1]
   have e2:((r.map encI)[i]'hi)[0]'hj= .v (.int .i64 r[i]):=by simp[encI,tI]
   rw[e2]
   exact .v _
 ·obtain⟨rfl,rfl⟩:=one _ _ hl
  have:β'=β:=by rw[hE']at hβ';simpa[U5]using hβ'.symm
  subst this
  exact⟨hS,by rw[cI7];omega⟩
 ·exact(one _ _ hl).1.trans (one _ _ hl').1.symm
theorem dy9 {w:World}{β e cap:Nat}{l:List Int}{vs:List Value}(hh:w.heap[β]? =some (.cells vs.toArray e (0,0)))(hvl:vs.length=cap*1)(bO1:l.length<=cap){S:Nat->Prop}
  (hr:∀i j (hi:i<(l.map encI).length) (hj:j<((l.map encI)[i]).length) (hb:i*1+j<vs.length),RT w S (vs[i*1+j]) (((l.map encI)[i])[j])):Holds (Value.int .i64) w β 0 l.toArray:=by
 intro t ht
 have ht':t<l.length:=by simpa using ht
 refine⟨?_,by simp[World.frozen?,hh]⟩
 rw[cell_of_row w β (0+t) _ e _ hh,cY7]
 have h1:=hr t 0 (by simpa using ht') (by simp[encI]) (by omega)
 have e2:((l.map encI)[t]'(by simpa using ht'))[0]'(by simp[encI])= .v (.int .i64 l[t]):=by simp[encI,tI]
 rw[e2]at h1
 have h3:=RTv h1
 simp only[fc2]
 rw[aJ9 (by omega),getElem!_pos l.toArray t ht]
 simp only[List.getElem_toArray]
 rw[<-h3]
 congr 2
 omega
theorem dn3 {P:Program}{ρ:Ren}(L:Lays.n189 P ρ)(hc:∀vs w,(callFunc (ρ.f 189) vs).run P w= .ok (.enter (ρ.f 189) vs) w){e:Nat}(l:List Int):
  bh9 P (ρ.f 189) [.own 1000000] [(1000000,.rows e 1 l.length (l.map encI))] (bU5 l) (fun _=>.S9 []) (fun r=>[(1000000,.rows e 1 r.length (r.map encI))]):=by
 refine⟨hc,fun r hr w S E vs hS hO hv=>?_⟩
 have hlen:l.length<4611686018427387904:=by
  unfold bU5 at hr;split at hr<;>first|assumption|cases hr
 rw[cy3 hlen,aj7]at hr
 subst hr
 obtain⟨v0,rfl⟩:∃v0,vs=[v0]:=by
  have:=hv.1
  match vs,this with
  |[a],_=>exact⟨a,rfl⟩
 have r0:RV w S E v0 (.own 1000000):=hv.2 0 (by simp) (by simp)
 cases r0 with
 |own _ _ hE=>
 have hblk:=hO.blk 1000000 (.rows e 1 l.length (l.map encI)) rfl
 rw[hE]at hblk
 obtain⟨hn,⟨hx,cQ2⟩|⟨β,cap,vs,hcm,hx,hh,hvl,bO1,hsz,hr⟩⟩:=hblk
 ·have hl:l=[]:=by simpa using cQ2
  subst hl
  subst hx
  refine(Any.slices_Sort_int_none L none 0 w).mono fun e' w' ⟨he,hw⟩=>?_
  subst hw
  refine⟨_,S,E,he,.S9 [] [] rfl fun j h1=>by simp at h1,aW2.refl _ _,hS,fun b hb=>.inl hb,?_,fun β hl=>.inl ?_,fun _ _=>rfl⟩
  ·simpa using hO
  ·simpa using hl
 ·simp only[cW3]at hx bO1
  subst hx
  have hβ:=hO.own 1000000 (.rows e 1 l.length (l.map encI)) β rfl (by rw[hE];rfl)
  have dc9:aD9 [(1000000,H6.rows e 1 l.length (l.map encI))] E β:=⟨1000000,_,rfl,by rw[hE];rfl⟩
  refine(Any.slices_Sort_int L β 0 cap l w (dy9 hh hvl bO1 hr) hβ.2 hlen).mono fun e' w' ⟨he,m,os,hw⟩=>?_
  have hrl:(l.mergeSort fun x y=>decide (x<=y)).length=l.length:=List.length_mergeSort l
  generalize(l.mergeSort fun x y=>decide (x<=y))=r at hw hrl|-
  have hw2:w'=cG6 w β m (r++[]).toArray os:=by rw[dn6];exact hw
  subst hw2
  refine⟨.tuple #[],S,E,he,.S9 [] [] rfl fun j h1=>by simp at h1,dQ6 w β m _ os _ dc9,fun b hb=>?_,fun b hb=>.inl hb,dy8 hcm hh hvl (by omega) (by rw[hE,hrl]) hβ.1 hβ.2,fun β' ⟨id,b,hl,hβ'⟩=>.inl ?_,fun _ _=>rfl⟩
  ·rw[cI7];exact dN6 (hS b hb) (fh0 _ _)
  ·have:id=1000000:=by
    simp only[look]at hl
    by_cases hid:1000000=id
    ·exact hid.symm
    ·simp[D6 hid]at hl
   subst this
   exact⟨1000000,_,rfl,hβ'⟩
theorem cF6 {P:Program}{ρ:Ren}(L:Lays2.n20 P ρ)(hc:∀vs w,(callFunc (ρ.f 20) vs).run P w= .ok (.enter (ρ.f 20) vs) w){e:Nat}(l:List Int):
  bh9 P (ρ.f 20) [.own 1000000] [(1000000,.rows e 1 l.length (l.map encI))] (bn1 l) (fun _=>.own 900000) (fun r=>[(900000,.rows e 1 r.length (r.map encI))]):=by
 refine⟨hc,fun r hr w S E vs hS hO hv=>?_⟩
 have hlen:l.length<=9223372036854775807:=by
  unfold bn1 at hr;split at hr<;>first|assumption|cases hr
 rw[cA0 hlen,aj7]at hr
 obtain⟨v0,rfl⟩:∃v0,vs=[v0]:=by
  have:=hv.1
  match vs,this with
  |[a],_=>exact⟨a,rfl⟩
 have r0:RV w S E v0 (.own 1000000):=hv.2 0 (by simp) (by simp)
 have one:∀(r:List Int) id b,look [(900000,H6.rows e 1 r.length (r.map encI))] id=some b->id=900000:=fun r id b hl=>by
  simp only[look]at hl
  by_cases hid:900000=id
  ·exact hid.symm
  ·simp[D6 hid]at hl
 cases r0 with
 |own _ _ hE=>
 have hblk:=hO.blk 1000000 (.rows e 1 l.length (l.map encI)) rfl
 rw[hE]at hblk
 have hEb:∀v,∀id,big<=id->(fun id=>if id=900000 then v else E id) id=E id:=fun v id h=>by
  simp only
  rw[if_neg (by unfold big at h;omega)]
 obtain⟨hn,⟨hx,cQ2⟩|⟨β,cap,vs,hcm,hx,hh,hvl,bO1,hsz,hrr⟩⟩:=hblk
 ·have hl:l=[]:=by simpa using cQ2
  subst hl
  subst hx
  subst hr
  refine(Any.slices_Compact_int_empty L none 0 w).mono fun e' w' ⟨he,hw⟩=>?_
  subst hw
  have hno:∀id b,look [(900000,H6.rows e 1 (bD9 []).length ((bD9 []).map encI))] id=some b->U5 ((fun id=>if id=900000 then Value.slice none 0 0 else E id) id)=none:=fun id b hl=>by
   rw[one _ _ _ hl];rfl
  refine⟨_,S,fun id=>if id=900000 then .slice none 0 0 else E id,he,.own _ _ (by simp),aW2.refl _ _,hS,fun b hb=>.inl hb,⟨fun id b hl=>?_,fun id b β' hl hβ'=>?_,fun id id1 b b' β' hl hl' _ _=>(one _ _ _ hl).trans (one _ _ _ hl').symm⟩,fun β ⟨id,b,hl,hβ⟩=>?_,hEb _⟩
  ·have:=one _ _ _ hl
   subst this
   simp[look]at hl
   subst hl
   exact⟨by simp,.inl ⟨by simp,by simp[bD9]⟩⟩
  ·rw[hno _ _ hl]at hβ';cases hβ'
  ·rw[hno _ _ hl]at hβ;cases hβ
 ·simp only[cW3]at hx bO1
  subst hx
  have hβ:=hO.own 1000000 (.rows e 1 l.length (l.map encI)) β rfl (by rw[hE];rfl)
  have dc9:aD9 [(1000000,H6.rows e 1 l.length (l.map encI))] E β:=⟨1000000,_,rfl,by rw[hE];rfl⟩
  refine(Any.slices_Compact_int L β 0 cap l w (dy9 hh hvl bO1 hrr) hlen bO1).mono fun e' w' ⟨he,m,hw⟩=>?_
  rw[dE9]at he hw
  have hrl:(bD9 l).length<=l.length:=by
   have key:∀(l:List Int) p,(cz9 p l).length<=l.length:=by
    intro l
    induction l with
    |nil=>intro p;exact cB6 _
    |cons y l ih=>
     intro p
     unfold cz9
     have:=ih y
     cases y==p
     ·simp only[fh3,bu6];omega
     ·simp only[fh5,bu6];omega
   cases l with
   |nil=>exact cB6 _
   |cons x l=>simp only[bD9,bu6];have:=key l x;omega
  rw[hr]at he hw hrl
  generalize cD1 (l.length-r.length) (0:Int)=z at hw
  have hw2:w'=cG6 w β m (r++z).toArray #[]:=by rw[hw];simp[cG6]
  subst hw2
  refine⟨_,S,fun id=>if id=900000 then .slice (some ⟨β,0,none⟩) r.length cap else E id,he,.own _ _ (by simp),dQ6 w β m _ _ _ dc9,fun b hb=>?_,fun b hb=>.inl hb,dy8 hcm hh hvl (by omega) (by simp) hβ.1 hβ.2,fun β' ⟨id,b,hl,hβ'⟩=>.inl ?_,hEb _⟩
  ·rw[cI7];exact dN6 (hS b hb) (fh0 _ _)
  ·have:=one _ _ _ hl
   subst this
   have e1:β'=β:=by simpa[U5]using hβ'.symm
   subst e1
   exact dc9
theorem cy0 {P:Program}{w:World}(t u ty e:TypeId)(i:TypeInfo)(z:Value)(kk ik:IntKind)(ht:P.underlying t=some (.slice e))(hu:P.underlying u=some (.int kk))(hi:P.info? e=some i)(hz:i.zero=some z)(n:Nat)(h0:0<n)(hs0:0<i.size)(hn:n<=1073741824)(hb:n*i.bytes<=140737488355328):
  (Builtin.append_ #[t,u] ty #[.slice none 0 0,.int ik n]).run P w=
   .ok (.slice (some ⟨w.heap.size,0,none⟩) n (grownCap w n 0 e)) (w.drew.alloc (.cells (Builtin.zeroCells z.cells n++Builtin.zeroCells z.cells (grownCap w n 0 e-n)) e)):=by
 have hn0:n≠0:=by omega
 have hs1:i.size≠0:=by omega
 have hw:IntKind.i64.wrap (n:Int)=(n:Int):=k6 (by omega) (by omega)
 have hneg:¬((n:Int)<0):=by omega
 have hbi:¬((281474976710656:Int)<(n:Int)*(i.bytes:Int)):=by
  have:((n*i.bytes:Nat):Int)<=140737488355328:=by omega
  rw[Int.natCast_mul]at this
  omega
 have h63':¬(9223372036854775807<(n:Int)):=by omega
 have h48':¬(281474976710656<Builtin.nextslicecap n 0*i.bytes):=by rw[nextslicecap_zero h0];omega
 simp[Builtin.append_,run_underlying ht,run_underlying hu,sizeOf,typeInfo,zeroValue,hi,hz,Builtin.lenOf,Builtin.firstCells,hn0,hs1,hw,hneg,hbi,h63',h48',asInt,asIntOf,Question.forced,newRow,grownCap]
 intro h
 exact absurd h (Nat.mul_ne_zero hn0 hs1)
section
variable {ρ α:Type} {X:Cx} {ks:List K} {tm tm':List (Nat × T)} {hp hp':List (Nat × H6)} {m:Option ρ} {Q:ρ -> Exit -> St -> Prop} {all:Array Oper} {o:Oper} {rest:List Oper} {w0:World} {L:Lim} {nt:Nat} {S:Nat -> Prop} {E:Nat -> Value} {a:Act} {w:World}
theorem Ok.aW1 {P:Program}(h:Ok w0 L nt ⟨tm,hp⟩ S E a w){id t u ty e n:Nat}{kk ik:IntKind}{ti:TI}{c:List Tree}(aM8:ba2 id big=true)(hf:O6 id tm=true)(hb:O0 id hp=true)(ht:P.underlying t=some (.slice e))(hu:P.underlying u=some (.int kk))(hte:bh8 P e ti)(hz:ti.zero.length=ti.size)(bJ7:0<ti.size)
  (hc:c=ti.zero.map fun v=>aE6 (.v v)) (h0:0<n) (cF9:n<=1073741824):
  ∃v' w' E',(Builtin.append_ #[t,u] ty #[.slice none 0 0,.int ik n]).run P w= .ok v' w'/\E' id=v'/\Ok w0 L nt ⟨tm,(id,.rows e ti.size n (cD1 n c))::hp⟩ S E' a w':=by
 obtain⟨i,d,hi,hs,_,_,⟨z,hzz,hzc⟩,hby⟩:=hte
 have hcl:c.length=ti.size:=by rw[hc,cW3,hz]
 have hzs:z.cells.size=i.size:=by rw[hs,<-hz,<-hzc];simp
 have cv6:n*i.bytes<=140737488355328:=by
  have:=Nat.mul_le_mul cF9 hby
  omega
 have hr:=cy0 (P:=P) (w:=w) t u ty e i z kk ik ht hu hi hzz n h0 (by omega) cF9 cv6
 have hge:=grownCap_ge w n 0 e
 have hcm:grownCap w n 0 e<=maxLen:=grownCap_le_maxLen w n 0 e (by simp only[maxLen];omega)
 generalize grownCap w n 0 e=cap at hr hge hcm
 have cX7:∀k (hk:k<n*i.size) (hk2:k<(Builtin.zeroCells z.cells n++Builtin.zeroCells z.cells (cap-n)).toList.length),(Builtin.zeroCells z.cells n++Builtin.zeroCells z.cells (cap-n)).toList[k]=ti.zero[k%ti.size]'(by rw[hz];exact eO7 _ bJ7):=by
  intro k hk hk2
  have hm:k%z.cells.size<z.cells.size:=eO7 _ (by omega)
  have hk3:k<(Builtin.zeroCells z.cells n).size:=by rw[size_zeroCells,hzs];exact hk
  rw[fc4,Array.getElem_append_left hk3]
  simp only[Builtin.zeroCells,Array.getElem_map,Array.getElem_range]
  rw[getElem!_pos z.cells _ hm]
  have:z.cells[k%z.cells.size]=z.cells.toList[k%z.cells.size]'(by simpa using hm):=by simp
  rw[this]
  simp only[hzc,hzs,hs]
 obtain⟨E',hE,hok⟩:=h.cT6 (w':=w.drew.alloc (.cells (Builtin.zeroCells z.cells n++Builtin.zeroCells z.cells (cap-n)) e)) (v:=.slice none 0 0) (v':=.slice (some ⟨w.heap.size,0,none⟩) n cap) (b:=.rows e ti.size n (cD1 n c)) aM8 hf hb (fun β hβ=>by cases hβ) (fun _ _ β _ hβ=>by cases hβ)
  ⟨rfl,rfl,rfl,by simp,fun k hk _=>Below.heap_alloc w.drew _ _ hk,Nat.le_succ _⟩ (fun β hβ=>by cases hβ;simp) (fun E'=>by
  refine⟨by simp,.inr ⟨w.heap.size,cap,(Builtin.zeroCells z.cells n++Builtin.zeroCells z.cells (cap-n)).toList,hcm,by simp,by rw[Array.toArray_toList];exact heap_alloc_new w.drew _,?_,by simpa using hge,?_,?_⟩⟩
  ·rw[fd3,Array.size_append,size_zeroCells,size_zeroCells,hzs,<-eB2,hs]
   congr 1
   omega
  ·intro r hr;rw[(List.mem_replicate.1 hr).2];exact hcl
  ·intro i' j hi' hj hb'
   have hi2:i'<n:=by simpa using hi'
   simp only[eZ2]at hj|-
   have hj2:j<ti.size:=by rw[<-hcl];exact hj
   have hlt:i'*ti.size+j<n*i.size:=by
    have:(i'+1)*ti.size<=n*ti.size:=cA4 _ (by omega)
    rw[dN7]at this
    rw[hs];omega
   have e1:(Builtin.zeroCells z.cells n++Builtin.zeroCells z.cells (cap-n)).toList[i'*ti.size+j]=ti.zero[j]'(by rw[hz];exact hj2):=by
    rw[cX7 _ hlt hb']
    have:(i'*ti.size+j)%ti.size=j:=by rw[en8,fe0,eY0 hj2]
    simp only[this]
   rw[e1]
   have e2:c[j]=aE6 (.v (ti.zero[j]'(by rw[hz];exact hj2))):=by subst hc;simp
   rw[e2]
   exact bb6 (.v _))
 exact⟨_,_,E',hr,hE,hok⟩
theorem C3.ez1 {t u e d s0 s1:Nat}{z0 z1:List Value}{te:TI}{s x:Operand}{kk ik:IntKind}{n:Int}{enc:α->List Tree}{k:List α->Option ρ}(id:Nat)(z:α)
  (ho:o.op= .call ⟨.builtin .append,#[s,x],#[t,u]⟩) (hd:o.dst=some d) (hdn:ba2 d X.nt=true) (hg:aj1 all.toList tm o.guard=some true) (hs:val tm s=some (.t (.v (.slice none 0 0)))) (hx:val tm x=some (.t (.v (.int ik n))))
  (hty:look X.D5 t=some ⟨s0,.slice e,z0⟩) (htu:look X.D5 u=some ⟨s1,.int kk,z1⟩) (hte:look X.D5 e=some te) (hz:te.zero.length=te.size) (bJ7:ba2 0 te.size=true) (az8:enc z=te.zero.map fun v=>aE6 (.v v)) (aM8:ba2 id big=true) (hft:O6 id tm=true) (hfb:O0 id hp=true)
  (h:∀y,cW0 n z=some y->C3 X all rest ks ⟨(d,.own id)::tm,(id,.rows e te.size y.length (y.map enc))::hp⟩ (k y) Q):
  C3 X all (o::rest) ks ⟨tm,hp⟩ ((cW0 n z).bind k) Q:=fun y hy a w ⟨S,E,hk⟩=>by
 cases hmk:cW0 n z with
 |none=>simp[hmk]at hy
 |some l=>
  have h0:=hmk
  unfold cW0 at h0
  split at h0<;>try(cases h0;done)
  rename_i hn
  simp only[aj7]at h0
  simp only[hmk,ac0]at hy
  obtain⟨dd,hu,ho2⟩:∃d,X.P.underlying t=some d/\TD.ok X.P (.slice e) d:=by
   obtain⟨i,d,_,_,hu,hdd,_⟩:=X.M7 t _ hty
   exact⟨d,hu,hdd⟩
  simp only[TD.ok]at ho2
  subst ho2
  obtain⟨du,hu2,ho3⟩:∃d,X.P.underlying u=some d/\TD.ok X.P (.int kk) d:=by
   obtain⟨i,d,_,_,hu,hdd,_⟩:=X.M7 u _ htu
   exact⟨d,hu,hdd⟩
  simp only[TD.ok]at ho3
  subst ho3
  obtain⟨j,rfl⟩:∃j:Nat,n=(j:Int):=⟨n.toNat,by omega⟩
  simp only[eI8]at h0
  obtain⟨v',w',E',hr,hE,hok⟩:=hk.aW1 (P:=X.P) (n:=j) (c:=enc z) (ty:=o.type) (ik:=ik) aM8 hft hfb hu hu2 (X.M7 e _ hte) hz (ba1 bJ7) az8 (by omega) (by omega)
  refine wpList_step fun K hK=>?_
  rw[V9 hk hg,if_pos rfl]
  unfold Oper.wp
  have aO9:(execOp a.eval o).run X.P w= .ok (.value v') w':=by
   unfold execOp
   simp only[ho,resolve,invoke,builtin,bd5,bx4,aY1,eX7,cX5,ep3,(hk.val hs).tv,(hk.val hx).tv,hr]
  rw[aO9]
  refine hK _ _ (h l hmk y hy _ _ ⟨S,E',?_⟩)
  rw[hd]
  have e1:l.map enc=cD1 j (enc z):=by rw[<-h0];simp
  have e2:l.length=j:=by rw[<-h0];simp
  rw[e1,e2]
  exact hok.put (ba1 hdn) (.own id _ hE)
end
end Go.Pv

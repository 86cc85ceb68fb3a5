/- A part of the proof of EcuSwitches: The value machine, and more. -/
import Derived.Test.YtmhdghdbojdgfaaGreatEcuSwitchesA
import Derived.Orders
import Derived.ProofKit
import Derived.OpenShut
import Derived.WalkKit
import Derived.Below
import Derived.Carry
import Derived.Laws.StructEq
import Derived.Laws.MakeOwn
import Derived.Shelf.SlSortCmp.NoneTotal
import Derived.Deep.Draws
import Derived.Lib.BitFns
import Derived.Shelf.Strconv.Itoa0
import Derived.Shelf.Bits.Mul64
import Derived.Scope
import Derived.OrdersHeld
import Derived.Shelf.Sort.Plain
import Derived.Shelf.Slices.In.SortNone
import Derived.Shelf.Slices.CompactI
set_option linter.unusedSimpArgs false
set_option linter.unusedVariables false
set_option maxRecDepth 100000
noncomputable section
open Array renaming getD_eq_getD_getElem?->eR4,getElem?_append_left->eK1,getElem?_eq_some_iff->dx1,getElem?_modify->eV6,getElem_toList->ff6,length_toList->ff9,replicate->fg1
open Bool renaming and_eq_true->aJ5,false_eq_true->do9,not_eq_true'->bO4,or_eq_true->cG1
open Int renaming le_refl->do8,toNat_natCast->eJ5
open Go.IntKind renaming bits->eT7,i64->eX4,u64->aX3
open List renaming all_eq_true->bN8,any_eq_false->ds5,append_assoc->dd3,append_nil->cV6,cons_append->dC8,drop_drop->ey6,drop_eq_nil_of_le->eQ7,eq_nil_of_length_eq_zero->eq6,filter_append->cV9,filter_cons->dC9,filter_nil->ez7,getD_eq_getElem?_getD->cW2,getElem?_append_left->ee2,getElem?_append_right->dB7,getElem?_cons_zero->cV8,getElem?_drop->eV5,getElem?_eq_getElem->aK2,getElem?_eq_some_iff->bt7,getElem?_map->cG5,getElem?_take->dp2,getElem?_toArray->ff2,getElem_append_left->cF5,getElem_append_right->di0,getElem_drop->ex7,getElem_map->dw3,getElem_mem->ba6,getElem_replicate->eR1,getElem_set->eX6,getElem_take->ec4,head?_drop->eC1,length->fc1,length_append->aY1,length_cons->bq0,length_drop->dh0,length_map->cr4,length_nil->cr1,length_set->dI2,length_take->bE9,map_append->eC3,map_cons->cS3,map_drop->fh8,map_nil->ek7,map_take->ff8,map_toArray->eY8,mem_append->cI5,mem_cons->ch6,mem_cons_of_mem->bF8,mem_cons_self->bx8,mem_filter->dK5,mem_iff_getElem->cY8,mem_map->cX4,mem_of_getElem?->cY9,mem_of_mem_drop->eX1,mem_of_mem_take->ey8,mem_range->ee4,range->dp9,range'->dR5,replicate->cr2,setIfInBounds_toArray->eW9,size_toArray->fc3
open Nat renaming add_assoc->dD0,add_mul->ez2,add_zero->dM1,beq->bM1,beq_refl->ca7,ble->dO2,blt->bd5,div_add_mod->fb1,div_lt_of_lt_mul->eX2,eq_of_beq_eq_true->bp9,eq_zero_or_pos->dO8,le_add_right->fj5,le_of_ble_eq_true->bd4,le_refl->cq9,lt_of_lt_of_le->dD3,lt_or_ge->da9,min_eq_left->eO4,mod_eq_of_lt->fa2,mod_lt->eL1,mul_add_mod->fg3,mul_comm->eg2,mul_le_mul_right->cz8,not_lt->ff7,succ_mul->dG8,zero_add->cV7,zero_lt_one->fg4
open Option renaming bind->ai5,bind_some->aH3,getD_some->ez0,isNone_iff_eq_none->eX3,map_eq_some_iff->ez3,map_none->fb2,map_some->ca8
open Option.some renaming inj->cp9,injEq->aI5
open Prod.mk renaming injEq->aX4
open Go.Result renaming andThen_ok->ba5
open Go.Result.ok renaming injEq->eW7
open Go.Sem renaming run->fi7,run_bind->bk5,run_pure->bO3
namespace Go.Pv
open Go.RowKit
def more (tm tm':List (Nat×T)):Prop:=∀k t,look tm k=some t->look tm' k=some t
theorem C9 {tm tm':List (Nat×T)}(h:more tm tm'){x:Operand}{t:T}(hx:val tm x=some t):val tm' x=some t:=by
 cases x with
 |tmp k=>exact h k t hx
 |const v=>exact hx
 |func f=>exact hx
 |global g=>exact hx
theorem bF4 {tm tm':List (Nat×T)}(h:more tm tm'):∀{l:List Operand}{r:List T},bx5 tm l=some r->bx5 tm' l=some r
 |[],r,hx=>hx
 |o::l,r,hx=>by
  unfold bx5 at hx|-
  split at hx<;>try(cases hx;done)
  rename_i y m hy hm
  rw[C9 h hy,bF4 h hm]
  exact hx
theorem ce5 {f:Int->Int->Int}{tm tm':List (Nat×T)}(h:more tm tm'):∀{l:List Operand}{X:Option T}{r:T},bE1 f tm X l=some r->bE1 f tm' X l=some r
 |[],X,r,hx=>by cases X<;>exact hx
 |o::l,X,r,hx=>by
  unfold bE1 at hx|-
  split at hx
  ·rename_i heq;cases heq
  ·rename_i k i o' l' heq
   cases heq
   split at hx
   ·rename_i k' j hv
    simp only[C9 h hv]
    exact ce5 h hx
   ·cases hx
  ·cases hx
theorem cO4 {f:Int->Int->Int}{tm:List (Nat×T)}{l:List Operand}{r:T}(h:bE1 f tm none l=some r):False:=by
 cases l<;>simp[bE1]at h
theorem bI9 {hp:List (Nat×G3)}{tm tm':List (Nat×T)}(h:more tm tm'){place:Nat->Option (Nat×Nat)}:∀{l:List (Nat×Operand)}{cs r:List T},aL1 hp tm place cs l=some r->aL1 hp tm' place cs l=some r
 |[],cs,r,hx=>hx
 |(i,x)::l,cs,r,hx=>by
  unfold aL1 at hx|-
  cases hv:val tm x with
  |none=>simp[hv]at hx
  |some t=>
   rw[C9 h hv]
   rw[hv]at hx
   split at hx<;>try(cases hx;done)
   rename_i o n m h1 h2
   cases hb:(bM1 m.length n&&dO2 (o+m.length) cs.length)<;>simp only[hb,fj8,fj6]at hx|-
   ·cases hx
   ·exact bI9 h hx
theorem dJ4 {c:Bool}{X Y X' Y':Option T}{t:T}(hX:∀t,X=some t->X'=some t)(hY:∀t,Y=some t->Y'=some t)(h:cn6 c X Y=some t):cn6 c X' Y'=some t:=by
 unfold cn6 at h
 split at h
 ·rw[hX _ rfl,hY _ rfl];exact h
 ·cases c
  ·rw[hY t h]
   unfold cn6
   split
   ·rename_i heq
    simp only[aI5]at heq
    subst heq
    rfl
   ·rfl
  ·rw[hX t h]
   unfold cn6
   split
   ·rename_i heq
    simp only[aI5]at heq
    subst heq
    rfl
   ·rfl
def bA9:Op->Bool
 | .move _| .assign _| .pick .. | .load .. | .fieldAddr .. | .nilCheck _| .binOp .. | .unOp .. | .convert .. | .extract .. | .build .. | .call _| .indexAddr .. | .index ..=>true
 |_=>false
theorem dt7 {C4:Tab}{tm tm':List (Nat×T)}{hp:List (Nat×G3)}{o:Oper}{t:T}(h:more tm tm')(hi:bA9 o.op=true)(he:evalOp C4 ⟨tm,hp⟩ o=some (t,⟨tm,hp⟩)):
  evalOp C4 ⟨tm',hp⟩ o=some (t,⟨tm',hp⟩):=by
 rw[aU6]at he|-
 obtain⟨dst,op,type,pos,aft,guard⟩:=o
 have mp:∀{x:Option T},x=some t->x.map (·,(⟨tm',hp⟩:St))=some (t,⟨tm',hp⟩):=fun hx=>by rw[hx];rfl
 cases op<;>simp only[bA9,reduceCtorEq]at hi<;>simp only[bk8]at he|-
 case move x=>exact mp (C9 h (N6 he).1)
 case assign x=>exact mp (C9 h (N6 he).1)
 case pick c x y=>
  split at he<;>try(cases he;done)
  rename_i b hc
  rw[C9 h hc]
  exact mp (dJ4 (fun t ht=>C9 h ht) (fun t ht=>C9 h ht) (N6 he).1)
 case load ty x=>
  split at he<;>try(cases he;done)
  ·rename_i id off ti hx hti
   rw[C9 h hx,hti]
   split at he<;>try(cases he;done)
   rename_i ts hb
   simp only[hb]
   exact mp (N6 he).1
  ·rename_i cells ti hx hti
   rw[C9 h hx,hti]
   exact mp (N6 he).1
 case nilCheck x=>
  split at he<;>try(cases he;done)
  ·rename_i id off hx;rw[C9 h hx];simp only[aI5,aX4]at he;rw[<-he.1]
  ·rename_i cells hx;rw[C9 h hx];simp only[aI5,aX4]at he;rw[<-he.1]
  ·rename_i hx;rw[C9 h hx];simp only[aI5,aX4]at he;rw[<-he.1]
 case fieldAddr s x f=>
  split at he<;>try(cases he;done)
  all_goals
   rename_i hx hti
   rw[C9 h hx,hti]
   split at he<;>try(cases he;done)
   rename_i hf
   simp only[hf]
   simp only[aI5,aX4]at he
   rw[<-he.1]
 case binOp op ty x y yt=>
  have hb:=(N6 he).1
  refine mp ?_
  unfold ei6 at hb|-
  split at hb<;>try(cases hb;done)
  ·rename_i hx hy;rw[C9 h hx,C9 h hy];exact hb
  ·rename_i hx hy;rw[C9 h hx,C9 h hy];exact hb
 case unOp op ty x=>
  have hb:=(N6 he).1
  refine mp ?_
  unfold unT at hb|-
  split at hb<;>try(cases hb;done)
  ·rename_i hx;rw[C9 h hx];exact hb
  ·rename_i hx;rw[C9 h hx];exact hb
 case convert s d x=>
  split at he<;>try(cases he;done)
  rename_i ti hs
  have hb:=(N6 he).1
  refine mp ?_
  unfold dt1 at hb|-
  split at hb<;>try(cases hb;done)
  rename_i hx;rw[C9 h hx];exact hb
 case extract x k=>
  split at he<;>try(cases he;done)
  rename_i l hx
  rw[C9 h hx]
  exact mp (N6 he).1
 case build ty parts=>
  split at he<;>try(cases he;done)
  ·rename_i sz fs z hti
   cases hf:aL1 hp tm (fs[·]?) (z.map fun x=>.t (.v x)) parts.toList with
   |none=>simp[hf]at he
   |some l=>
    rw[bI9 h hf]
    simp only[hf,ca8,aI5,aX4]at he
    simp only[ca8,he.1]
  ·rename_i sz n e z hti
   split at he<;>try(cases he;done)
   rename_i te hte
   try simp only[hte]
   cases hf:aL1 hp tm (fun i=>some (i*te.size,te.size)) (z.map fun x=>.t (.v x)) parts.toList with
   |none=>simp[hf]at he
   |some l=>
    rw[bI9 h hf]
    simp only[hf,ca8,aI5,aX4]at he
    simp only[ca8,he.1]
 case indexAddr ty x ix=>
  split at he<;>try(cases he;done)
  all_goals
   rename_i hx hti hix
   split at he<;>try(cases he;done)
   rename_i te hte
  ·rename_i id off sz n e z ik i _
   rw[C9 h hx,hti,C9 h hix]
   try simp only[hte]
   cases hb:bd5 i n<;>simp only[hb,fj8,fj6,reduceCtorEq,aI5,aX4]at he|-
   exact⟨he.1,trivial⟩
  ·rename_i cells sz n e z ik i _
   rw[C9 h hx,hti,C9 h hix]
   try simp only[hte]
   cases hb:bd5 i n<;>simp only[hb,fj8,fj6,reduceCtorEq,aI5,aX4]at he|-
   exact⟨he.1,trivial⟩
  ·rename_i id k sz' off sz n e z ik i _
   rw[C9 h hx,hti,C9 h hix]
   try simp only[hte]
   cases hb:bd5 i n<;>simp only[hb,fj8,fj6,reduceCtorEq,aI5,aX4]at he|-
   exact⟨he.1,trivial⟩
 case index ty x ix=>
  split at he<;>try(cases he;done)
  rename_i l sz n e z ik i hx hti hix
  split at he<;>try(cases he;done)
  rename_i te hte
  rw[C9 h hx,hti,C9 h hix]
  try simp only[hte]
  cases hb:bd5 i n<;>simp only[hb,fj8,fj6,reduceCtorEq]at he|-
  exact mp (N6 he).1
 case call c=>
  have hb:=(N6 he).1
  refine mp ?_
  unfold dr4 at hb|-
  split at hb<;>try(cases hb;done)
  ·rename_i x ty h1 h2 h3
   cases hv:val tm x with
   |none=>rw[show val (⟨tm,hp⟩:St).tm x=none from hv]at hb;unfold dv8 at hb;split at hb<;>simp at hb
   |some y=>
    rw[show val (⟨tm,hp⟩:St).tm x=some y from hv]at hb
    show dv8 C4 hp ty (val tm' x)=some t
    rw[C9 h hv];exact hb
  ·rename_i x rest h1 h2
   cases hv:val tm x with
   |none=>rw[show val (⟨tm,hp⟩:St).tm x=none from hv]at hb;exact(cO4 hb).elim
   |some y=>
    rw[show val (⟨tm,hp⟩:St).tm x=some y from hv]at hb
    show bE1 F5 tm' (val tm' x) rest=some t
    rw[C9 h hv];exact ce5 h hb
  ·rename_i x rest h1 h2
   cases hv:val tm x with
   |none=>rw[show val (⟨tm,hp⟩:St).tm x=none from hv]at hb;exact(cO4 hb).elim
   |some y=>
    rw[show val (⟨tm,hp⟩:St).tm x=some y from hv]at hb
    show bE1 G7 tm' (val tm' x) rest=some t
    rw[C9 h hv];exact ce5 h hb
section
variable {ρ τ α:Type} {X:Cx} {ks:List K} {U0:List (Nat × T)} {hp:List (Nat × G3)} {all:Array Oper} {o:Oper} {V:T}
theorem as4 {tm tm':List (Nat×T)}{l:List Oper}{g:Option (Nat×Bool)}{b:Bool}(h:more tm tm')(hg:ah9 l tm g=some b):ah9 l tm' g=some b:=by
 cases g with
 |none=>exact hg
 |some p=>
  obtain⟨j,want⟩:=p
  simp only[ah9]at hg|-
  split at hg<;>try(cases hg;done)
  rename_i o ho
  split at hg<;>try(cases hg;done)
  rename_i d hd
  cases hl:look tm d with
  |none=>simp[hl]at hg
  |some t=>simp only[hl]at hg;simp only[h d t hl];exact hg
end
def aY3 (o:Oper):List Nat:=(o.after.toList.filter (Region.binds .any)).map (·.on)
def waits (ops:List Oper):Nat->Nat->Nat->Bool
 |0,_,_=>false
 |f+1,j,i=>match ops[j]?with
  |some o=>(aY3 o).any (fun k=>bM1 k i)||(aY3 o).any (fun k=>waits ops f k i)
  |none=>false
def ew6 (ops:List Oper)(h:Nat):Bool:=
 (dp9 ops.length).all fun j=>(match ops[j]?with|some o=>(aY3 o).all (fun k=>bd5 k j)|none=>true)&&(bd5 j h||(dp9 j).all (fun i=>waits ops ops.length j i))
def cv5 (nt:Nat)(tm0:List (Nat×T)):List Oper->Bool
 |[]=>true
 |o::r=>(match o.dst with|some d=>(look tm0 d).isNone&&bd5 d nt&&r.all (fun o'=>match o'.dst with|some d'=>!Nat.beq d d'|none=>true)|none=>true)&&cv5 nt tm0 r
def minOf (ops:List Oper)(Vs:List T)(tm0:List (Nat×T)):List Nat->List (Nat×T)
 |[]=>tm0
 |j::r=>match ops[j]?,Vs[j]?with
  |some o,some V=>match o.dst with
   |some d=>(d,V)::minOf ops Vs tm0 r
   |none=>minOf ops Vs tm0 r
  |_,_=>minOf ops Vs tm0 r
def ce6:List Oper->List T->List (Nat×T)->List (Nat×T)
 |o::r,V::l,tm0=>match o.dst with
  |some d=>(d,V)::ce6 r l tm0
  |none=>ce6 r l tm0
 |_,_,tm0=>tm0
section
variable {X:Cx} {all:Array Oper} {Vs:List T} {tm0:List (Nat × T)} {hp:List (Nat × G3)}
theorem cQ1 {ops:List Oper}{tm:List (Nat×T)}(h0:more tm0 tm):∀(l:List Nat),(∀j o V d,j∈l->ops[j]? =some o->Vs[j]? =some V->o.dst=some d->look tm d=some V)->more (minOf ops Vs tm0 l) tm
 |[],_=>h0
 |j::r,h=>by
  have ih:=cQ1 h0 r (fun j' o V d hj=>h j' o V d (bF8 _ hj))
  unfold minOf
  split
  ·rename_i o V ho hV
   split
   ·rename_i d hd
    intro k t hk
    simp only[look]at hk
    by_cases hdk:d=k
    ·subst hdk;simp only[ca7,fj8,aI5]at hk;subst hk;exact h j o V d (bx8 ..) ho hV hd
    ·simp only[C5 hdk,fj6]at hk;exact ih k t hk
   ·exact ih
  ·exact ih
theorem cA3 {tm:List (Nat×T)}(h0:more tm0 tm):∀(ops:List Oper) (l:List T),(∀(j:Nat) (o:Oper) (V:T) (d:Nat),ops[j]? =some o->l[j]? =some V->o.dst=some d->look tm d=some V)->more (ce6 ops l tm0) tm
 |[],_,_=>by cases‹List T› <;>exact h0
 |o::ops,[],_=>h0
 |o::ops,V::l,h=>by
  have ih:=cA3 h0 ops l (fun j o V d ho hV=>h (j+1) o V d (by simpa using ho) (by simpa using hV))
  unfold ce6
  split
  ·rename_i d hd
   intro k t hk
   simp only[look]at hk
   by_cases hdk:d=k
   ·subst hdk;simp only[ca7,fj8,aI5]at hk;subst hk;exact h 0 o V d rfl rfl hd
   ·simp only[C5 hdk,fj6]at hk;exact ih k t hk
  ·exact ih
theorem bu6 {nt:Nat}:∀{l:List Oper},cv5 nt tm0 l=true->∀(i j:Nat) (o o':Oper) (d d':Nat),l[i]? =some o->l[j]? =some o'->o.dst=some d->o'.dst=some d'->(look tm0 d=none/\d<nt)/\(i≠j->d≠d')
 |[],_,i,j,o,o',d,d',hi,_,_,_=>by simp at hi
 |x::r,h,i,j,o,o',d,d',hi,hj,hd,hd'=>by
  simp only[cv5,aJ5]at h
  have one:∀(k:Nat) (y:Oper) (c c':Nat),x.dst=some c->r[k]? =some y->y.dst=some c'->c≠c':=by
   intro k y c c' hx hk hy
   have hm:y∈r:=cY9 hk
   have h1:=h.1
   rw[hx]at h1
   simp only[aJ5,bN8]at h1
   have:=h1.2 y hm
   rw[hy]at this
   intro e
   subst e
   simp at this
  cases i with
  |zero=>
   simp only[cV8,aI5]at hi
   subst hi
   refine⟨?_,fun hne=>?_⟩
   ·have h1:=h.1
    rw[hd]at h1
    simp only[aJ5,eX3]at h1
    exact⟨h1.1.1,bd4 h1.1.2⟩
   ·cases j with
    |zero=>exact absurd rfl hne
    |succ j=>exact one j o' d d' hd (by simpa using hj) hd'
  |succ i=>
   have hi':r[i]? =some o:=by simpa using hi
   cases j with
   |zero=>
    simp only[cV8,aI5]at hj
    subst hj
    exact⟨(bu6 h.2 i i o o d d hi' hi' hd hd).1,fun _ e=>one i o d' d hd' hi' hd e.symm⟩
   |succ j=>
    have:=bu6 h.2 i j o o' d d' hi' (by simpa using hj) hd hd'
    exact⟨this.1,fun hne=>this.2 (fun e=>hne (by rw[e]))⟩
theorem cq3 {ops:List Oper}{A4:Array Bool}(hcl:∀j o,ops[j]? =some o->A4.getD j false=true->∀k∈aY3 o,A4.getD k false=true):
  ∀(f j i:Nat),waits ops f j i=true->(∀o,ops[j]? =some o->∀k∈aY3 o,A4.getD k false=true)->A4.getD i false=true
 |0,_,_,h,_=>by simp[waits]at h
 |f+1,j,i,h,hd=>by
  unfold waits at h
  split at h
  ·rename_i o ho
   simp only[cG1,List.any_eq_true]at h
   rcases h with⟨k,hk,he⟩|⟨k,hk,he⟩
   ·have:=bp9 he
    subst this
    exact hd o ho k hk
   ·exact cq3 hcl f k i he (fun o' ho'=>hcl k o' ho' (hd o ho k hk))
  ·cases h
def unl (n:Nat)(A4:Array Bool):Nat:=((dp9 n).filter fun i=>!A4.getD i false).length
theorem eI9 {n i:Nat}{A4:Array Bool}(hi:i<n)(hs:A4.size=n)(h:A4.getD i false=false):unl n A4=unl n (A4.setIfInBounds i true)+1:=by
 unfold unl
 have key:∀m,((dp9 m).filter fun j=>!A4.getD j false).length=((dp9 m).filter fun j=>!(A4.setIfInBounds i true).getD j false).length+(if i<m then 1 else 0):=by
  intro m
  induction m with
  |zero=>simp
  |succ m ih=>
   rw[List.range_succ,cV9,cV9,aY1,aY1,ih]
   by_cases c1:i=m
   ·subst c1
    have e:(A4.setIfInBounds i true).getD i false=true:=by simp[hs,hi]
    simp only[dC9,ez7,h,e]
    simp
   ·have e:(A4.setIfInBounds i true).getD m false=A4.getD m false:=getD_set_ne false c1
    simp only[dC9,ez7,e]
    by_cases c2:i<m
    ·simp only[c2,if_true,show i<m+1 by omega];split<;>simp<;>omega
    ·simp only[c2,if_false,show¬i<m+1 by omega];split<;>simp
 have:=key n
 rw[if_pos hi]at this
 exact this
theorem ex6 {n:Nat}{A4:Array Bool}(h:unl n A4=0):∀i,i<n->A4.getD i false=true:=by
 intro i hi
 unfold unl at h
 have:=eq6 h
 rw[List.filter_eq_nil_iff]at this
 have:=this i (ee4.2 hi)
 simpa using this
theorem bI3 {o:Oper}{A4:Array Bool}(h:∀e∈o.after,Region.binds .any e=true->A4.getD e.on false=true):∀k∈aY3 o,A4.getD k false=true:=by
 intro k hk
 simp only[aY3,cX4,dK5]at hk
 obtain⟨e,⟨he,hb⟩,rfl⟩:=hk
 exact h e (by simpa using he) hb
theorem eg8 {P:Program}{Q:Exit->Act->World->Prop}{h:Nat}(ht:ew6 all.toList h=true):∀(fuel m:Nat) (A4:Array Bool) (a:Act) (w:World),h<=m->m+fuel=all.size->A4.size=all.size->
  (∀j,j<all.size->A4.getD j false=decide (j<m))->wpList P all Q (all.toList.drop m) a w->wpAny P .any all Q fuel A4 a w:=by
 intro fuel
 induction fuel with
 |zero=>
  intro m A4 a w hm hf hs hl hw
  have cP2:all.toList.drop m=[]:=eQ7 (by simp;omega)
  rw[cP2]at hw
  refine⟨?_,hw⟩
  apply List.eq_nil_iff_forall_not_mem.2
  intro j hj
  obtain⟨h1,o,ho,_⟩:=mem_ready.1 hj
  have hjn:j<all.size:=(dx1.1 ho).1
  have:=hl j hjn
  have h2:A4.getD j true=A4.getD j false:=by simp[hs,hjn]
  rw[h2,this]at h1
  simp at h1
  omega
 |succ fuel ih=>
  intro m A4 a w hm hf hs hl hw
  have hmn:m<all.size:=by omega
  have hmo:all[m]? =some all[m]:=Array.getElem?_eq_getElem hmn
  have hcl:∀j o,all.toList[j]? =some o->A4.getD j false=true->∀k∈aY3 o,A4.getD k false=true:=by
   intro j o ho hj k hk
   have hjn:j<all.size:=by have:=(bt7.1 ho).1;simpa using this
   have h1:=bN8.1 ht j (ee4.2 (by simpa using hjn))
   rw[ho]at h1
   simp only[aJ5,bN8]at h1
   have hkj:k<j:=bd4 (h1.1 k hk)
   rw[hl j hjn]at hj
   rw[hl k (by omega)]
   simp at hj|-;omega
  have only:∀j∈Region.ready .any all A4,j=m:=by
   intro j hj
   obtain⟨h1,o,ho,hd⟩:=mem_ready.1 hj
   have hjn:j<all.size:=(dx1.1 ho).1
   have h2:A4.getD j true=A4.getD j false:=by simp[hs,hjn]
   rw[h2,hl j hjn]at h1
   simp at h1
   have h3:=bN8.1 ht j (ee4.2 (by simpa using hjn))
   simp only[aJ5,cG1,bN8]at h3
   rcases da9 m j with hlt|hge
   ·exfalso
    have hw:=(h3.2.resolve_left (fun hb=>by have:=bd4 hb;omega)) m (ee4.2 hlt)
    have:=cq3 hcl _ j m hw (fun o' ho' k hk=>by
     have:o'=o:=by rw[<-Array.getElem?_toList]at ho;rw[ho]at ho';exact(cp9 ho').symm
     subst this
     exact bI3 hd k hk)
    rw[hl m hmn]at this
    simp at this
   ·omega
  have hin:m∈Region.ready .any all A4:=by
   have h2:A4.getD m true=false:=by
    have h2:A4.getD m true=A4.getD m false:=by simp[hs,hmn]
    rw[h2,hl m hmn];simp
   refine mem_ready.2 ⟨h2,all[m],hmo,fun e he hb=>?_⟩
   have h3:=bN8.1 ht m (ee4.2 (by simpa using hmn))
   have hmo':all.toList[m]? =some all[m]:=by simp
   rw[hmo']at h3
   simp only[aJ5,bN8]at h3
   have hk:e.on∈aY3 all[m]:=by
    simp only[aY3,cX4,dK5]
    exact⟨e,⟨by simpa using he,hb⟩,rfl⟩
   have hlt:e.on<m:=bd4 (h3.1 e.on hk)
   rw[hl e.on (by omega)]
   simpa using hlt
  refine⟨fun h0=>(by rw[h0]at hin;cases hin),fun i hi=>?_⟩
  have:=only i hi
  subst this
  have hdrop:all.toList.drop i=all[i]::all.toList.drop (i+1):=by
   rw[List.drop_eq_getElem_cons (by simpa using hmn)];simp
  rw[hdrop]at hw
  unfold wpList at hw
  unfold wpOp
  simp only[hmo]
  have next:∀a w,wpList P all Q (all.toList.drop (i+1)) a w->wpAny P .any all Q fuel (A4.setIfInBounds i true) a w:=fun a w hw=>
   ih (i+1) _ a w (by omega) (by omega) (by simp[hs]) (fun j hj=>by
    by_cases c:i=j
    ·subst c;simp[hs,hmn]
    ·rw[getD_set_ne false c,hl j hj];simp;omega) hw
  split at hw
  ·rename_i hg
   rw[if_pos hg]
   exact hw.imp (Oper.wp_mono next) id
  ·rename_i hg
   rw[if_neg hg]
   exact next _ _ hw
theorem bT9 (n j:Nat):(fg1 n false).getD j false=false:=by
 simp only[eR4,Array.getElem?_replicate]
 split<;>rfl
end
theorem ew5 {P:Program}{t:Nat}{ti:TI}{t0:Nat}{ti0:TI}{r:Tab}(h:look ((t0,ti0)::r) t=some ti)(h0:bh3 P t0 ti0)(k:look r t=some ti->bh3 P t ti):bh3 P t ti:=by
 simp only[look]at h
 by_cases ht:t0=t
 ·subst ht;simp only[ca7,fj8,aI5]at h;subst h;exact h0
 ·simp only[C5 ht,fj6]at h;exact k h
mutual
def aS9 (id:Nat)(u:T):T->T
 | .own i=>bif bM1 i id then u else .own i
 | .agg l=>.agg (aZ2 id u l)
 | .P9 l=>.P9 (aZ2 id u l)
 | .clo f l=>.clo f (aZ2 id u l)
 |x=>x
def aZ2 (id:Nat)(u:T):List T->List T
 |[]=>[]
 |x::r=>aS9 id u x::aZ2 id u r
end
def cp7 (id:Nat)(u:T):List (Nat×T)->List (Nat×T)
 |[]=>[]
 |(k,x)::r=>(k,aS9 id u x)::cp7 id u r
def bn8 (id:Nat)(u:T):List (Nat×G3)->List (Nat×G3)
 |[]=>[]
 |(k,.box l)::r=>bif bM1 k id then bn8 id u r else(k,.box (aZ2 id u l))::bn8 id u r
 |(k,x)::r=>bif bM1 k id then bn8 id u r else(k,x)::bn8 id u r
section
variable {w:World} {S S':Nat -> Prop} {E:Nat -> Value} {id:Nat} {u:T}
mutual
theorem cU6 (hS:∀b,S b->S' b)(hu:RV w S' E (E id) u):∀{t:T}{v:Value},RV w S E v t->RV w S' E v (aS9 id u t)
 | .t x,v,h=>by simp only[aS9];exact h.mono hS (fun _ _=>rfl) (fun _ _=>rfl)
 | .el c,v,h=>by simp only[aS9];exact h.mono hS (fun _ _=>rfl) (fun _ _=>rfl)
 | .ptr i o,v,h=>by simp only[aS9];exact h.mono hS (fun _ _=>rfl) (fun _ _=>rfl)
 | .pe i a b c,v,h=>by simp only[aS9];exact h.mono hS (fun _ _=>rfl) (fun _ _=>rfl)
 | .vw i a b c,v,h=>by simp only[aS9];exact h.mono hS (fun _ _=>rfl) (fun _ _=>rfl)
 | .own i,v,h=>by
  simp only[aS9]
  by_cases hi:i=id
  ·subst hi
   simp only[ca7,fj8]
   cases h with|own _ _ hE=>rw[<-hE];exact hu
  ·simp only[C5 hi,fj6];exact h.mono hS (fun _ _=>rfl) (fun _ _=>rfl)
 | .agg l,v,h=>by
  simp only[aS9]
  cases h with|agg vs _ hl hr=>have:=bF1 hS hu (l:=l) (vs:=vs) ⟨hl,hr⟩;exact .agg vs _ this.1 this.2
 | .P9 l,v,h=>by
  simp only[aS9]
  cases h with|P9 vs _ hl hr=>have:=bF1 hS hu (l:=l) (vs:=vs) ⟨hl,hr⟩;exact .P9 vs _ this.1 this.2
 | .clo f l,v,h=>by
  simp only[aS9]
  cases h with|clo _ vs _ hl hr=>have:=bF1 hS hu (l:=l) (vs:=vs) ⟨hl,hr⟩;exact .clo f vs _ this.1 this.2
 | .fz n c,v,h=>by simp only[aS9];exact h.mono hS (fun _ _=>rfl) (fun _ _=>rfl)
 | .any,v,h=>by simp only[aS9];exact .any v
theorem bF1 (hS:∀b,S b->S' b)(hu:RV w S' E (E id) u):∀{l:List T}{vs:List Value},RVL w S E vs l->RVL w S' E vs (aZ2 id u l)
 |[],vs,h=>⟨h.1,fun j _ h2=>by simp[aZ2]at h2⟩
 |x::l,vs,h=>by
  cases vs with
  |nil=>have:=h.1;simp at this
  |cons v vs=>
   have h1:=cU6 hS hu (t:=x) (h.2 0 (by simp) (by simp))
   have h2:=bF1 hS hu (l:=l) (vs:=vs) ⟨by simpa using h.1,fun j a b=>h.2 (j+1) (by simpa using a) (by simpa using b)⟩
   refine⟨by simp[aZ2,h2.1],fun j a b=>?_⟩
   cases j with
   |zero=>exact h1
   |succ j=>exact h2.2 j (by simpa using a) (by simpa[aZ2]using b)
end
end
theorem cg9 (id:Nat)(u:T):∀(l:List (Nat×T)) (k:Nat),look (cp7 id u l) k=(look l k).map (aS9 id u)
 |[],k=>rfl
 |(j,x)::r,k=>by
  simp only[cp7,look]
  by_cases hj:j=k
  ·subst hj;simp
  ·simp[C5 hj,cg9 id u r k]
theorem ar2 (id:Nat)(u:T):∀(l:List (Nat×G3)) (k:Nat) (b:G3),look (bn8 id u l) k=some b->k≠id/\∃b0,look l k=some b0/\(match b0 with| .box ts=>b= .box (aZ2 id u ts)|x=>b=x)
 |[],k,b,h=>by simp[bn8,look]at h
 |(j,.box ts)::r,k,b,h=>by
  simp only[bn8]at h
  by_cases hj:j=id
  ·subst hj
   simp only[ca7,fj8]at h
   obtain⟨h1,b0,h2,h3⟩:=ar2 j u r k b h
   exact⟨h1,b0,by simp only[look,C5 (Ne.symm h1),fj6];exact h2,h3⟩
  ·simp only[C5 hj,fj6,look]at h
   by_cases hk:j=k
   ·subst hk
    simp only[ca7,fj8,aI5]at h
    exact⟨hj,.box ts,by simp[look],h.symm⟩
   ·simp only[C5 hk,fj6]at h
    obtain⟨h1,b0,h2,h3⟩:=ar2 id u r k b h
    exact⟨h1,b0,by simp only[look,C5 hk,fj6];exact h2,h3⟩
 |(j,.rows e sz n rs)::r,k,b,h=>by
  simp only[bn8]at h
  by_cases hj:j=id
  ·subst hj
   simp only[ca7,fj8]at h
   obtain⟨h1,b0,h2,h3⟩:=ar2 j u r k b h
   exact⟨h1,b0,by simp only[look,C5 (Ne.symm h1),fj6];exact h2,h3⟩
  ·simp only[C5 hj,fj6,look]at h
   by_cases hk:j=k
   ·subst hk
    simp only[ca7,fj8,aI5]at h
    exact⟨hj,.rows e sz n rs,by simp[look],h.symm⟩
   ·simp only[C5 hk,fj6]at h
    obtain⟨h1,b0,h2,h3⟩:=ar2 id u r k b h
    exact⟨h1,b0,by simp only[look,C5 hk,fj6];exact h2,h3⟩
 |(j,.mp es)::r,k,b,h=>by
  simp only[bn8]at h
  by_cases hj:j=id
  ·subst hj
   simp only[ca7,fj8]at h
   obtain⟨h1,b0,h2,h3⟩:=ar2 j u r k b h
   exact⟨h1,b0,by simp only[look,C5 (Ne.symm h1),fj6];exact h2,h3⟩
  ·simp only[C5 hj,fj6,look]at h
   by_cases hk:j=k
   ·subst hk
    simp only[ca7,fj8,aI5]at h
    exact⟨hj,.mp es,by simp[look],h.symm⟩
   ·simp only[C5 hk,fj6]at h
    obtain⟨h1,b0,h2,h3⟩:=ar2 id u r k b h
    exact⟨h1,b0,by simp only[look,C5 hk,fj6];exact h2,h3⟩
 |(j,.rv y e sz n rs)::r,k,b,h=>by
  simp only[bn8]at h
  by_cases hj:j=id
  ·subst hj
   simp only[ca7,fj8]at h
   obtain⟨h1,b0,h2,h3⟩:=ar2 j u r k b h
   exact⟨h1,b0,by simp only[look,C5 (Ne.symm h1),fj6];exact h2,h3⟩
  ·simp only[C5 hj,fj6,look]at h
   by_cases hk:j=k
   ·subst hk
    simp only[ca7,fj8,aI5]at h
    exact⟨hj,.rv y e sz n rs,by simp[look],h.symm⟩
   ·simp only[C5 hk,fj6]at h
    obtain⟨h1,b0,h2,h3⟩:=ar2 id u r k b h
    exact⟨h1,b0,by simp only[look,C5 hk,fj6];exact h2,h3⟩
section
variable {ρ τ α:Type} {X:Cx} {ks:List K} {tm:List (Nat × T)} {hp:List (Nat × G3)} {m:Option ρ} {Q:ρ -> Exit -> St -> Prop} {all:Array Oper} {o:Oper} {rest:List Oper}
theorem Sim.frz {w0:World}{L:Lim}{nt:Nat}{a:Act}{w:World}(id:Nat){e sz n:Nat}{rs:List (List Tree)}(hb:look hp id=some (.rows e sz n rs))(h:Sim w0 L nt ⟨tm,hp⟩ a w):
  Sim w0 L nt ⟨cp7 id (.t (.sl n rs)) tm,bn8 id (.t (.sl n rs)) hp⟩ a w:=by
 obtain⟨S,E,hk⟩:=h
 let S':Nat->Prop:=fun b=>S b\/R7 (E id)=some b
 have hS:∀b,S b->S' b:=fun b hb=>.inl hb
 have hu:RV w S' E (E id) (.t (.sl n rs)):=by
  have hk1:Ok w0 L nt ⟨tm,[(id,.rows e sz n rs)]⟩ S E a w:=
   {hk with
    hp:=fun i b hb'=>by
     simp only[look]at hb'
     by_cases hi:id=i
     ·subst hi;simp only[ca7,fj8,aI5]at hb';subst hb';exact hk.hp id _ hb
     ·simp[C5 hi]at hb'
    own:=fun i b β hb' hβ=>by
     simp only[look]at hb'
     by_cases hi:id=i
     ·subst hi;simp only[ca7,fj8,aI5]at hb';subst hb';exact hk.own id _ β hb hβ
     ·simp[C5 hi]at hb'
    at6:=fun i i' b b' β h1 h2 _ _=>by
     simp only[look]at h1 h2
     by_cases hi:id=i<;>by_cases hi':id=i'
     ·exact hi.symm.trans hi'
     ·simp[C5 hi']at h2
     ·simp[C5 hi]at h1
     ·simp[C5 hi]at h1}
  refine .t (bX4 hk1 (id:=id) (e:=e) (sz:=sz) (by simp[look]) S' hS fun b hb'=>?_)
  obtain⟨i,_,hl,hβ⟩:=hb'
  simp only[look]at hl
  by_cases hi:id=i
  ·subst hi;exact .inr hβ
  ·simp[C5 hi]at hl
 refine⟨S',E,{keep:=hk.keep,size:=hk.size,defers:=hk.defers,aG9:=fun b hb'=>?_,base:=fun b hb'=>?_,tm:=fun k t ht=>?_,hp:=fun i b hi=>?_,own:=fun i b β hi hβ=>?_,at6:=fun i i' b b' β h1 h2 hβ hβ'=>?_,pin:=hk.pin}⟩
 ·rcases hb' with h1|h1
  ·exact hk.aG9 b h1
  ·exact(hk.own id _ b hb h1).2.1
 ·rcases hb' with h1|h1
  ·exact hk.base b h1
  ·rcases(hk.own id _ b hb h1).2.2 with h2|h2
   ·exact .inr (.inr h2)
   ·exact .inr (.inl h2)
 ·rw[cg9]at ht
  cases hl:look tm k with
  |none=>simp[hl]at ht
  |some t0=>simp only[hl,ca8,aI5]at ht;subst ht;exact cU6 hS hu (hk.tm k t0 hl)
 ·obtain⟨hne,b0,hb0,hm⟩:=ar2 _ _ _ _ _ hi
  have hk0:=hk.hp i b0 hb0
  cases b0 with
  |box ts=>
   simp only at hm
   subst hm
   obtain⟨β,vs,elem,h1,h2,h3,h4,h5⟩:=hk0
   have:=bF1 hS hu (l:=ts) (vs:=vs) ⟨h3,h4⟩
   exact⟨β,vs,elem,h1,h2,this.1,this.2,h5⟩
  |rows e' sz' n' rs'=>
   simp only at hm
   subst hm
   exact hk0.mono hS (fun _ _=>rfl) (fun _ _=>rfl) (fun _ _=>rfl)
  |mp es=>
   simp only at hm
   subst hm
   exact hk0.mono hS (fun _ _=>rfl) (fun _ _=>rfl) (fun _ _=>rfl)
  |rv y e sz n rs=>
   simp only at hm
   subst hm
   exact hk0.mono hS (fun _ _=>rfl) (fun _ _=>rfl) (fun _ _=>rfl)
 ·obtain⟨hne,b0,hb0,_⟩:=ar2 _ _ _ _ _ hi
  have:=hk.own i b0 β hb0 hβ
  exact⟨fun hx=>hx.elim this.1 (fun hx=>hne (hk.at6 i id b0 _ β hb0 hb hβ hx)),this.2⟩
 ·obtain⟨_,c,hc,_⟩:=ar2 _ _ _ _ _ h1
  obtain⟨_,c',hc',_⟩:=ar2 _ _ _ _ _ h2
  exact hk.at6 i i' c c' β hc hc' hβ hβ'
theorem B5.frz {ops:List Oper}(id:Nat){e sz n:Nat}{rs:List (List Tree)}(hb:look hp id=some (.rows e sz n rs))(h:B5 X all ops ks ⟨cp7 id (.t (.sl n rs)) tm,bn8 id (.t (.sl n rs)) hp⟩ m Q):B5 X all ops ks ⟨tm,hp⟩ m Q:=
 fun r hr a w hw=>h r hr a w (hw.frz id hb)
theorem aa5.frz {e':Exit}(id:Nat){e sz n:Nat}{rs:List (List Tree)}(hb:look hp id=some (.rows e sz n rs))(h:aa5 X ks e' ⟨cp7 id (.t (.sl n rs)) tm,bn8 id (.t (.sl n rs)) hp⟩ m Q):aa5 X ks e' ⟨tm,hp⟩ m Q:=
 fun r hr a w hw=>h r hr a w (hw.frz id hb)
end
end Go.Pv
namespace Go.Pv
open Go.RowKit Go.WideShapes Go.ChangeShapes
def RTL (w:World)(S:Nat->Prop)(cs:List Value)(ts:List Tree):Prop:=cs.length=ts.length/\∀j (h1:j<cs.length) (h2:j<ts.length),RT w S (cs[j]) (ts[j])
def old (w:World):Nat->Prop:=fun b=>b<w.heap.size
def Reads (P:Program)(t:Nat){α:Type}(enc:α->List Tree)(wf:α->Prop):Prop:=
 ∀(H:Type) (e:TypeId×Value->H) (w:World) (fuel:Nat) (cs:List Value) (x:DataW H×List MemPlace),DataW.trod e P w 0 (fun _=>true) true fuel t cs=some x->
  ∃y:α,wf y/\RTL w (old w) cs (enc y)
section
variable {P:Program} {t:Nat}
theorem RTL.one {w:World}{S:Nat->Prop}{v:Value}{y:Tree}(h:RT w S v y):RTL w S [v] [y]:=
 ⟨rfl,fun j h1 h2=>by have:j=0:=(by simp at h1;omega);subst this;exact h⟩
theorem cx2 {k:IntKind}{enc:Int->List Tree}(ht:P.underlying t=some (.int k))(az2:∀n,enc n=[.v (.int k n)]):Reads P t enc (fun n=>(Lit.int k n).wf=true):=by
 intro H e w fuel cs x h
 obtain⟨n,rfl,_,hw⟩:=DataW.trod_int ht h
 exact⟨n,hw,by rw[az2];exact .one (.v _)⟩
def wfL {α:Type}(wf:α->Prop)(l:List α):Prop:=l.length<=9223372036854775807/\∀y∈l,wf y
theorem bT6 {el:Nat}{α:Type}{enc:α->List Tree}{wf:α->Prop}{sz:Nat}(ht:P.underlying t=some (.slice el))(hr:Reads P el enc wf)(hsz:P.cellsOf el=sz)(bJ2:0<sz)(az2:∀y,(enc y).length=sz):
  Reads P t (encS enc) (wfL wf):=by
 intro H e w fuel cs x h
 rcases DataW.trod_slice ht h with⟨rfl,_⟩|⟨a,len,cap,elems,rest,n,_,rfl,_,_,hl,hm,hlen,hel,_,_⟩
 ·exact⟨[],⟨by simp,by simp⟩,.one (.slE _ _)⟩
 ·rw[hsz]at hel
  have each:∀i,i<len->∃(y:α) (cs:List Value),wf y/\RTL w (old w) cs (enc y)/\∀j,j<sz->w.cell? ((a.add (i*sz)).add j)=cs[j]?:=by
   intro i hi
   have h1:=hel i hi
   rw[aK2 (by omega),Option.bind_eq_some_iff]at h1
   obtain⟨cs',hcs,hy⟩:=h1
   obtain⟨y,hw,hrt⟩:=hr H e w n cs' _ hy
   exact⟨y,cs',hw,hrt,(World.cells?_some hcs).2.2⟩
  by_cases h0:len=0
  ·subst h0
   exact⟨[],⟨by simp,by simp⟩,.one (.slE _ _)⟩
  ·let f:Nat->α:=fun i=>if h:i<len then(each i h).choose else(each 0 (by omega)).choose
   let l:=(dp9 len).map f
   have hf:∀i,i<len->wf (f i)/\∃cs:List Value,RTL w (old w) cs (enc (f i))/\∀j,j<sz->w.cell? ((a.add (i*sz)).add j)=cs[j]?:=by
    intro i hi
    have hfi:f i=(each i hi).choose:=by simp[f,hi]
    rw[hfi]
    obtain⟨cs,h1,h2,h3⟩:=(each i hi).choose_spec
    exact⟨h1,cs,h2,h3⟩
   have hll:l.length=len:=by simp[l]
   have hspot:a.spot=none:=by
    obtain⟨_,cs,h2,h3⟩:=hf 0 (by omega)
    have h4:=h3 0 bJ2
    have hcl:0<cs.length:=by rw[h2.1,az2];exact bJ2
    rw[aK2 hcl]at h4
    have ea:(a.add (0*sz)).add 0=a:=by simp[Addr.add]
    rw[ea]at h4
    unfold World.cell? at h4
    split at h4
    ·split at h4
     ·cases h4
     ·rename_i hs;simpa using hs
    ·cases h4
   obtain⟨b,o,sp⟩:=a
   simp only at hspot
   subst hspot
   have cm2:∀i j,i<len->j<sz->∃v,w.cell? ⟨b,o+i*sz+j,none⟩=some v/\∀(hj:j<(enc (f i)).length),RT w (old w) v ((enc (f i))[j]):=by
    intro i j hi hj
    obtain⟨_,cs,h2,h3⟩:=hf i hi
    have hcl:j<cs.length:=by rw[h2.1,az2];exact hj
    have h4:=h3 j hj
    rw[aC3,aC3,aK2 hcl]at h4
    exact⟨_,h4,fun hj'=>h2.2 j hcl hj'⟩
   let vs:Nat->Nat->Value:=fun i j=>(w.cell? ⟨b,o+i*sz+j,none⟩).getD undef
   refine⟨l,⟨by rw[hll];unfold maxLen at hm;omega,fun y hy=>?_⟩,.one ?_⟩
   ·obtain⟨i,hi,rfl⟩:=cX4.1 hy
    exact(hf i (ee4.1 hi)).1
   ·have hb:old w b:=by
     obtain⟨v,hv,_⟩:=cm2 0 0 (by omega) bJ2
     have:=World.block_lt_of_cell? w _ hv
     simpa[old]using this
    have hml:(l.map enc).length=len:=by simp[hll]
    have key:=RT.sl (w:=w) (S:=old w) b o cap sz (l.map enc) vs (by rw[hml];exact hl) hb (fun r hr=>by obtain⟨y,_,rfl⟩:=cX4.1 hr;exact az2 y)
     (fun i j hi hj=>by
      rw[hml]at hi
      obtain⟨v,hv,_⟩:=cm2 i j hi hj
      simp[vs,hv])
     (fun i j hi hj=>by
      rw[hml]at hi
      have e1:(l.map enc)[i]'(by rw[hml];exact hi)=enc (f i):=by simp[l]
      have hj':j<sz:=by rw[e1,az2]at hj;exact hj
      obtain⟨v,hv,hrt⟩:=cm2 i j hi hj'
      have e2:vs i j=v:=by simp[vs,hv]
      rw[e2]
      have:=hrt (by rw[az2];exact hj')
      simpa only[e1]using this)
    rw[hml]at key
    have e3:tS enc l= .sl len (l.map enc):=by simp[tS,hll]
    rw[e3]
    exact key
theorem bK7 {w:World}{S:Nat->Prop}{cs:List Value}{o:Nat}(h:cs.length=o):RTL w S (cs.drop o) []:=by
 rw[eQ7 (by omega)]
 exact⟨rfl,fun j h1=>by simp at h1⟩
theorem S4 {w:World}{S:Nat->Prop}{cs:List Value}{o o' n:Nat}{ts rest:List Tree}(h:RTL w S ((cs.drop o).take n) ts)(ho:o'=o+n)(k:RTL w S (cs.drop o') rest):RTL w S (cs.drop o) (ts++rest):=by
 subst ho
 have e:cs.drop o=(cs.drop o).take n++cs.drop (o+n):=by rw[<-ey6,List.take_append_drop]
 rw[e]
 refine⟨by simp only[aY1,h.1,k.1],fun j h1 h2=>?_⟩
 by_cases hj:j<ts.length
 ·rw[cF5 (by rw[h.1];exact hj),cF5 hj]
  exact h.2 j (by rw[h.1];exact hj) hj
 ·have hj':¬j<((cs.drop o).take n).length:=by rw[h.1];exact hj
  rw[di0 (by omega),di0 (by omega)]
  simp only[h.1]
  exact k.2 (j-ts.length) (by simp only[aY1]at h1;have:=h.1;omega) (by simp only[aY1]at h2;omega)
theorem S3 {H:Type}{e:TypeId×Value->H}{w:World}{n:Nat}{cs:List Value}{xs:List (DataW H×List MemPlace)}{fs:Array Field}(hlen:xs.length=fs.size)
  (hf:∀(i:Nat) (f:Field),fs[i]? =some f->DataW.trod e P w 0 (fun _=>true) true n f.type ((cs.drop f.offset).take (P.cellsOf f.type))=xs[i]?) (i:Nat) {f:Field} (hi:fs[i]? =some f)
  {α:Type}{enc:α->List Tree}{wf:α->Prop} (hr:Reads P f.type enc wf):∃y:α,wf y/\RTL w (old w) ((cs.drop f.offset).take (P.cellsOf f.type)) (enc y):=by
 have hlt:i<xs.length:=by rw[hlen];exact(dx1.1 hi).1
 have:=hf i f hi
 rw[aK2 hlt]at this
 exact hr H e w n _ _ this
def bZ5 (P:Program)(t:Nat){α:Type}(A:α->T)(wf:α->Prop):Prop:=
 ∀(H:Type) (e:TypeId×Value->H) (w:World) (base:Nat) (v:Value) (d:DataW H) (p:List MemPlace),Value.okWide P w .any base t v->DataW.Trod e P w 0 (fun _=>true) true t v d p->
  ∃y:α,wf y/\∀E,RV w (old w) E v (A y)
theorem dN1 {α:Type}{enc:α->List Tree}{wf:α->Prop}{A:α->T}{tr:α->Tree}(hr:Reads P t enc wf)(hc:∀w base v,Value.okWide P w .any base t v->v.cells.toList=[v])(az2:∀y,enc y=[tr y])(hA:∀y,A y= .t (tr y)):bZ5 P t A wf:=by
 intro H e w base v d p hv ⟨fuel,h⟩
 rw[hc w base v hv]at h
 obtain⟨y,hw,hl,hrt⟩:=hr H e w fuel _ _ h
 refine⟨y,hw,fun E=>?_⟩
 rw[hA]
 have:=hrt 0 (by simp) (by rw[az2];simp)
 simp only[az2,List.getElem_cons_zero]at this
 exact .t this
theorem dN0 {k:IntKind}{enc:Int->List Tree}{A:Int->T}(ht:P.underlying t=some (.int k))(hr:Reads P t enc (fun n=>(Lit.int k n).wf=true))(az2:∀y,enc y=[.v (.int k y)])(hA:∀y,A y= .t (.v (.int k y))):
  bZ5 P t A (fun n=>(Lit.int k n).wf=true):=dN1 hr (fun w base v hv=>by obtain⟨n,rfl⟩:=okWide_int ht hv;rfl) az2 hA
theorem dU9 {el:Nat}{α:Type}{enc:α->List Tree}{wf:α->Prop}{A:List α->T}(ht:P.underlying t=some (.slice el))(hr:Reads P t (encS enc) (wfL wf))(hA:∀y,A y= .t (tS enc y)):
  bZ5 P t A (wfL wf):=dN1 hr (fun w base v hv=>by obtain⟨a,n,c,rfl⟩:=okWide_slice ht hv;rfl) (fun _=>rfl) hA
theorem cb7 {fs:Array Field}{α:Type}{enc:α->List Tree}{wf:α->Prop}{A:α->T}(ht:P.underlying t=some (.struct fs))(hr:Reads P t enc wf)(hA:∀y,A y= .agg ((enc y).map .t)):bZ5 P t A wf:=by
 intro H e w base v d p hv ⟨fuel,h⟩
 obtain⟨cs,rfl,_⟩:=okWide_struct ht hv
 obtain⟨y,hw,hl,hrt⟩:=hr H e w fuel _ _ h
 refine⟨y,hw,fun E=>?_⟩
 rw[hA]
 have:=RV.agg (w:=w) (S:=old w) (E:=E) cs.toList ((enc y).map .t) (by simpa[Value.cells]using hl) (fun j h1 h2=>by
  simp only[dw3]
  exact .t (hrt j h1 (by simpa using h2)))
 simpa using this
theorem aQ7.calls {n:Nat}{args:List T}{m:Option Bool}(h:aQ7 P n args m (fun r=>.t (.v (.bool r))))(hm:m=some true){w:World}{vs:List Value}(hv:RVL w (old w) (fun _=>undef) vs args):
  Calls P n vs.toArray w fun e w'=>e= .returned (.bool true)/\Below w.heap.size w w':=
 (h.2 true hm w (old w) _ vs (fun _ hb=>hb) hv).mono fun e w' ⟨v,S',he,hv,hk,_,_⟩=>by
  have:=hv.tv
  subst this
  exact⟨he,hk.os,hk.tape,hk.output,hk.size,fun k hk'=>hk.block k hk' (fun x=>x)⟩
theorem eH4 {w:World}{S:Nat->Prop}{E:Nat->Value}:RVL w S E [] []:=⟨rfl,fun j h=>by simp at h⟩
theorem bU1 {w:World}{S:Nat->Prop}{E:Nat->Value}{v:Value}{t:T}{vs:List Value}{l:List T}(h:RV w S E v t)(k:RVL w S E vs l):RVL w S E (v::vs) (t::l):=by
 refine⟨by simp[k.1],fun j a b=>?_⟩
 cases j with
 |zero=>exact h
 |succ j=>exact k.2 j (by simpa using a) (by simpa using b)
end
open Go.RowKit
def tvs (vs:List Value):List T:=vs.map fun v=>.t (.v v)
def ef1 (P:Program)(ty:Nat)(vs us:List Value)(b:Bool):Prop:=
 (∀w,(Op.equalIn 10000 ty (.agg vs.toArray) (.agg us.toArray)).run P w= .ok b w)/\P.eqGuardType P.depth ty=false
theorem dM9 {w:World}{S:Nat->Prop}{E:Nat->Value}{v:Value}{vs:List Value}(h:RV w S E v (.agg (tvs vs))):v= .agg vs.toArray:=by
 cases h with
 |agg cs _ hl hr=>
  congr 2
  refine List.ext_getElem (by simpa[tvs]using hl) fun j h1 h2=>?_
  have:=hr j h1 (by simpa[tvs]using h2)
  simp only[tvs,dw3]at this
  exact this.tv
section
variable {ρ τ α:Type} {X:Cx} {ks:List K} {tm:List (Nat × T)} {hp:List (Nat × G3)} {m:Option ρ} {Q:ρ -> Exit -> St -> Prop} {all:Array Oper} {o:Oper} {rest:List Oper} {V:T}
theorem eP5 {ty yt:Nat}{x y:Operand}{vs us:List Value}{b:Bool}{a:Act}{w:World}(he:ef1 X.P ty vs us b)(hx:a.eval x= .agg vs.toArray)(hy:a.eval y= .agg us.toArray):
  (o.op= .binOp .eql ty x y yt->(execOp a.eval o).run X.P w= .ok (.value (.bool b)) w)/\(o.op= .binOp .neq ty x y yt->(execOp a.eval o).run X.P w= .ok (.value (.bool (!b))) w):=by
 constructor<;>intro ho
 ·simp only[execOp,ho,hx,hy,bk5,run_eqGuard_agg w .eql ty x y _ _ he.2,ba5,run_eql_struct,he.1 w];rfl
 ·simp only[execOp,ho,hx,hy,bk5,run_eqGuard_agg w .neq ty x y _ _ he.2,ba5,run_neq_struct,he.1 w];rfl
end
section
variable {P:Program} {w:World}
theorem dO7 {d:Nat}{xs ys:Array Value}:(Op.eqFields d xs ys []).run P w= .ok true w:=rfl
theorem aN9 {d:Nat}{f:Field}{fs:List Field}{xs ys:Array Value}{a b:Value}{c r:Bool}(hn:f.name≠ "_")(h1:(part f.type xs f.offset).run P w= .ok a w)(h2:(part f.type ys f.offset).run P w= .ok b w)
  (h3:(Op.equalIn d f.type a b).run P w= .ok c w) (h4:(Op.eqFields d xs ys fs).run P w= .ok r w):(Op.eqFields d xs ys (f::fs)).run P w= .ok (c&&r) w:=by
 cases c<;>simp[Op.eqFields,hn,h1,h2,h3,h4]
theorem ae3 {t:Nat}{ti:TI}{cs:Array Value}{off:Nat}{v:Value}(hti:bh3 P t ti)(hag:ti.desc.isAgg=false)(h:cs[off]? =some v):(part t cs off).run P w= .ok v w:=by
 simp[part,hti.dn9,hag,h]
theorem dc4 {d t:Nat}{xs ys:Array Value}{fs:List Field}{b:Bool}(hf:P.underlying t=some (.struct (P.fieldsOf t)))(hs:P.stoodInHeld t=false)(hl:(P.fieldsOf t).toList=fs)(h:(Op.eqFields d xs ys fs).run P w= .ok b w):
  (Op.equalIn (d+1) t (.agg xs) (.agg ys)).run P w= .ok b w:=by
 rw[run_equalIn_struct w d t xs ys hf hs,hl,h]
end
theorem j6 {n:Int}(h1:-9223372036854775808<=n)(h2:n<=9223372036854775807):o4 n=n:=by
 unfold o4 IntKind.wrap
 simp only[eT7,IntKind.signed]
 simp only[show(2:Int)^64=18446744073709551616 from rfl,show(2:Int)^(64-1)=9223372036854775808 from rfl,Bool.true_and,fk4]
 split<;>omega
def aX2 {S R:Type}(f:Int->S->Option (Fl S R)):Nat->Int->S->Option (S⊕R)
 |0,_,s=>some (.inl s)
 |k+1,i,s=>(f i s).bind fun x=>match x with
  | .next s'=>aX2 f k (i+1) s'
  | .brk s'=>some (.inl s')
  | .ret r=>some (.inr r)
def L9 {α S R:Type}(f:Int->α->S->Option (Fl S R)):List α->Int->S->Option (S⊕R)
 |[],_,s=>some (.inl s)
 |y::l,i,s=>(f i y s).bind fun x=>match x with
  | .next s'=>L9 f l (i+1) s'
  | .brk s'=>some (.inl s')
  | .ret r=>some (.inr r)
theorem G9 {S B:Type}{mb:S->Option (S⊕B)}{s s':S}(h:mb s=some (.inl s')):L5 mb s=L5 mb s':=by rw[cm9,h];rfl
theorem E0 {S B:Type}{mb:S->Option (S⊕B)}{s:S}{b:B}(h:mb s=some (.inr b)):L5 mb s=some b:=by rw[cm9,h];rfl
theorem al5 {S R:Type}(n:Nat)(hn:n<=9223372036854775807)(f:Int->S->Option (Fl S R))(s:S):K9 (n:Int) f s=aX2 f n 0 s:=by
 have key:∀(k:Nat) (i:Nat) (s:S),i+k=n->L5 (co0 (n:Int) f) ((i:Int),s)=aX2 f k i s:=by
  intro k
  induction k with
  |zero=>
   intro i s hi
   have:¬((i:Int)<(n:Int)):=by omega
   exact E0 (by simp[co0,this])
  |succ k ih=>
   intro i s hi
   have hlt:(i:Int)<(n:Int):=by omega
   rw[cm9]
   simp only[co0,hlt,decide_true,fj8,aX2]
   cases hf:f i s with
   |none=>rfl
   |some x=>
    simp only[aH3]
    cases x with
    |next s'=>
     simp only[az5,aH3]
     have:=ih (i+1) s' (by omega)
     rw[j6 (by omega) (by omega)]
     push_cast at this
     exact this
    |brk s'=>simp[az5]
    |ret r=>simp[az5]
 have:=key n 0 s (by omega)
 simpa using this
theorem T5 {α:Type}(l:List α)(i:Nat):D4 l (i:Int)=l[i]?:=by simp[D4]
theorem K8 {α S R:Type}(l:List α)(hn:l.length<=9223372036854775807)(f:Int->α->S->Option (Fl S R))(s:S):ad5 l f s=L9 f l 0 s:=by
 have key:∀(r:List α) (i:Nat) (s:S),l.drop i=r->i<=l.length->L5 (cS4 l f) ((i:Int),s)=L9 f r i s:=by
  intro r
  induction r with
  |nil=>
   intro i s hd hi
   have:¬((i:Int)<(l.length:Int)):=by have:=List.drop_eq_nil_iff.1 hd;omega
   exact E0 (by simp[cS4,this])
  |cons y r ih=>
   intro i s hd hi
   have hi':i<l.length:=by
    rcases da9 i l.length with h|h
    ·exact h
    ·rw[eQ7 h]at hd;cases hd
   have hlt:(i:Int)<(l.length:Int):=by omega
   have hy:l[i]? =some y:=by rw[<-eC1,hd];rfl
   have hd':l.drop (i+1)=r:=by rw[<-ey6,hd];rfl
   rw[cm9]
   simp only[cS4,hlt,decide_true,fj8,L9,T5,hy,aH3]
   cases hf:f i y s with
   |none=>rfl
   |some x=>
    simp only[aH3]
    cases x with
    |next s'=>
     simp only[az5,aH3]
     have:=ih (i+1) s' hd' (by omega)
     rw[j6 (by omega) (by omega)]
     push_cast at this
     exact this
    |brk s'=>simp[az5]
    |ret r=>simp[az5]
 have:=key l 0 s rfl (Nat.zero_le _)
 simpa using this
theorem bL1 {α R:Type}{f:Int->α->Unit->Option (Fl Unit R)}{p:α->Bool}{r:R}:∀(l:List α) (i:Int),(∀i,∀y∈l,f i y ()=some (bif p y then .next ()else .ret r))->
  L9 f l i ()=some (bif l.all p then .inl ()else .inr r)
 |[],_,_=>rfl
 |y::l,i,h=>by
  simp only[L9,h i y (bx8 ..),aH3,List.all_cons]
  cases hp:p y
  ·rfl
  ·exact bL1 l (i+1) (fun i y' hy=>h i y' (bF8 _ hy))
theorem bn7 {α S R:Type}{f:Int->α->S->Option (Fl S R)}{g:S->α->S}:∀(l:List α) (i:Int) (s:S),(∀i s,∀y∈l,f i y s=some (.next (g s y)))->L9 f l i s=some (.inl (l.foldl g s))
 |[],_,_,_=>rfl
 |y::l,i,s,h=>by
  simp only[L9,h i s y (bx8 ..),aH3,List.foldl_cons]
  exact bn7 l (i+1) _ (fun i s y' hy=>h i s y' (bF8 _ hy))
theorem bw1 {R:Type}{f:Int->Unit->Option (Fl Unit R)}{p:Nat->Bool}{r:R}:∀(k i:Nat),(∀j,i<=j->j<i+k->f j ()=some (bif p j then .next ()else .ret r))->
  aX2 f k i ()=some (bif (dR5 i k).all p then .inl ()else .inr r)
 |0,_,_=>rfl
 |k+1,i,h=>by
  simp only[aX2,h i (cq9 _) (by omega),aH3,List.range'_succ,List.all_cons]
  cases hp:p i
  ·rfl
  ·have:=bw1 k (i+1) (fun j h1 h2=>h j (by omega) (by omega))
   push_cast at this
   exact this
theorem dZ1 {S B : Type} {mb : S -> Option (S ⊕ B)} (σ : Nat -> S) {p : Nat -> Bool} {b0 b1 : B} (n : Nat) (hend : mb (σ n) = some (.inr b0)) (h : ∀ k, k < n -> mb (σ k) = some (bif p k then .inl (σ (k + 1)) else .inr b1)) :
    L5 mb (σ 0) = some (bif (dR5 0 n).all p then b0 else b1) := by
  have key : ∀ k i, i + k = n -> L5 mb (σ i) = some (bif (dR5 i k).all p then b0 else b1) := by
    intro k
    induction k with
    | zero => intro i hi; have : i = n := by omega
              subst this; exact E0 hend
    | succ k ih =>
      intro i hi
      have h1 := h i (by omega)
      rw [List.range'_succ, List.all_cons]
      cases hp : p i
      · rw [hp] at h1; exact E0 h1
      · rw [hp] at h1; rw [G9 h1, ih (i + 1) (by omega)]; rfl
  exact key n 0 (by omega)
theorem cJ7 {α:Type}(b:Bool)(x y:α):(bif b then some x else some y)=some (bif b then x else y):=by cases b<;>rfl
theorem bc8 {α S R:Type}(l:List α)(hn:l.length<=9223372036854775807)(g:Int->α->S->Option (Fl S R))(s:S):
  K9 (l.length:Int) (fun i s=>(D4 l i).bind fun x=>g i x s) s=L9 g l 0 s:=by
 rw[al5 _ hn]
 have key:∀(r:List α) (i:Nat) (s:S),l.drop i=r->aX2 (fun i s=>(D4 l i).bind fun x=>g i x s) r.length (i:Int) s=L9 g r (i:Int) s:=by
  intro r
  induction r with
  |nil=>intro i s _;rfl
  |cons y r ih=>
   intro i s hd
   have hy:l[i]? =some y:=by rw[<-eC1,hd];rfl
   have hd':l.drop (i+1)=r:=by rw[<-ey6,hd];rfl
   simp only[bq0,aX2,L9,T5,hy,aH3]
   cases hg:g i y s with
   |none=>rfl
   |some x=>
    cases x with
    |next s'=>
     have:=ih (i+1) s' hd'
     push_cast at this
     simpa using this
    |brk s'=>rfl
    |ret r'=>rfl
 have:=key l 0 s rfl
 simpa using this
theorem cp5 {α:Type}{f:Int->α->Unit->Option (Fl Unit Int)}{p:α->Bool}:∀(l:List α) (i:Int),0<=i->(∀i,∀y∈l,f i y ()=some (bif p y then .ret i else .next ()))->
  ∃r,L9 f l i ()=some r/\(match r with| .inl _=>l.any p=false| .inr j=>0<=j/\l.any p=true)
 |[],_,_,_=>⟨.inl (),rfl,rfl⟩
 |y::l,i,hi,h=>by
  simp only[L9,h i y (bx8 ..),aH3,List.any_cons]
  cases hp:p y
  ·obtain⟨r,h1,h2⟩:=cp5 l (i+1) (by omega) (fun i y' hy=>h i y' (bF8 _ hy))
   refine⟨r,h1,?_⟩
   cases r<;>simpa using h2
  ·exact⟨.inr i,rfl,hi,rfl⟩
theorem ai0 {α:Type}(l:List α)(hn:l.length<=9223372036854775807)(f:α->Option Bool)(p:α->Bool)(h:∀y∈l,f y=some (p y)):
  (ai5 (ai5 (K9 (l.length:Int) (fun(i:Int) (_:Unit)=>ai5 (D4 l i) fun x=>ai5 (f x) fun v=>bif v then(some (Fl.ret i))else(some (Fl.next ()))) ()) fun(t:Unit⊕Int)=>match t with| .inl _=>(some (-1))| .inr r2=>some r2) fun v=>some (decide (v>=0)))=some (l.any p):=by
 rw[bc8 l hn (fun(i:Int) x (_:Unit)=>ai5 (f x) fun v=>bif v then(some (Fl.ret i))else(some (Fl.next ())))]
 obtain⟨r,h1,h2⟩:=cp5 (f:=fun(i:Int) x (_:Unit)=>ai5 (f x) fun v=>bif v then(some (Fl.ret i))else(some (Fl.next ()))) (p:=p) l 0 (do8 0) (fun i y hy=>by
  simp only[h y hy,aH3];cases p y<;>rfl)
 rw[h1]
 cases r with
 |inl u=>simp only[aH3];simp at h2;simp;intro x hx;simpa using h2 x hx
 |inr j=>simp only[aH3];rw[h2.2];simp[h2.1]
def ef3 (w:World)(v:Value)(e sz n:Nat)(xs:List Value):Prop:=
 (v= .slice none 0 0/\n=0/\xs=[])\/
 ∃(g cap:Nat) (cur:List Value),v= .slice (some ⟨g,0,none⟩) n cap/\w.heap[g]? =some (.cells cur.toArray e (0,0))/\n<=cap/\cap<=maxLen/\cur.length=cap*sz/\cur.take (n*sz)=xs
theorem cF7 {P:Program}{w:World}{t ty e:Nat}{ti:TI}{v x:Value}{n c:Nat}{xs:List Value}{a:Option Addr}(ht:P.underlying t=some (.slice e))(hte:bh3 P e ti)(hv:ef3 w v e ti.size n xs)(hx:x= .slice a 0 c):
  (Builtin.append_ #[t,t] ty #[v,x]).run P w= .ok v w:=by
 obtain⟨i,d,hi,hs,_⟩:=hte
 subst hx
 have hf:(Builtin.firstCells i.size 0 (.slice a 0 c)).run P w= .ok #[] w:=by
  cases a<;>simp[Builtin.firstCells,loadCells,loadCellsFrom]
 rcases hv with⟨rfl,rfl,rfl⟩|⟨g,cap,cur,rfl,hg,hn,_⟩
 ·simp[Builtin.append_,run_underlying ht,sizeOf,typeInfo,hi,Builtin.lenOf,hf]
 ·simp[Builtin.append_,run_underlying ht,sizeOf,typeInfo,hi,Builtin.lenOf,hf,hn,storeCells]
theorem cF8 {P:Program}{w:World}{t ty e:Nat}{ti:TI}{v:Value}{n m c:Nat}{xs news:List Value}{a:Addr}(ht:P.underlying t=some (.slice e))(hte:bh3 P e ti)(hz:ti.zero.length=ti.size)(hv:ef3 w v e ti.size n xs)
  (hl:news.length=m*ti.size) (cm3:∀j u,news[j]? =some u->w.cell? (a.add j)=some u) (h1:∀u∈news,u.oneCell'=true) (h0:0<m) (cF1:n+m<=1073741824):
  ∃v' w',(Builtin.append_ #[t,t] ty #[v,.slice (some a) m c]).run P w= .ok v' w'/\aW6 (fun b=>R7 v=some b) w w'/\ef3 w' v' e ti.size (n+m) (xs++news)/\
   (∀b,R7 v'=some b->b<w'.heap.size/\(R7 v=some b\/w.heap.size<=b)):=by
 obtain⟨i,d,hi,hs,_,_,⟨z,hzz,hzc⟩,hby⟩:=hte
 rw[<-hs]at hv hl hz|-
 have hzs:z.cells.size=i.size:=by rw[<-hz,<-hzc];simp
 have cv4:(n+m)*i.bytes<=140737488355328:=by
  have:=Nat.mul_le_mul cF1 hby
  omega
 have grown:∀(old:Nat),old<n+m->xs.length=n*i.size->
   ef3 (w.drew.alloc (.cells (xs.toArray++news.toArray++Builtin.zeroCells z.cells (grownCap w (n+m) old e-(n+m))) e)) (.slice (some ⟨w.heap.size,0,none⟩) (n+m) (grownCap w (n+m) old e)) e i.size (n+m) (xs++news):=by
  intro old ho hxl
  have hge:=grownCap_ge w (n+m) old e
  have hcm:grownCap w (n+m) old e<=maxLen:=grownCap_le_maxLen w (n+m) old e (by simp only[maxLen];omega)
  have hlen:(xs++news).length=(n+m)*i.size:=by rw[aY1,hxl,hl,ez2]
  refine .inr ⟨w.heap.size,_,(xs++news)++(Builtin.zeroCells z.cells (grownCap w (n+m) old e-(n+m))).toList,rfl,?_,hge,hcm,?_,?_⟩
  ·have:((xs++news)++(Builtin.zeroCells z.cells (grownCap w (n+m) old e-(n+m))).toList).toArray=xs.toArray++news.toArray++Builtin.zeroCells z.cells (grownCap w (n+m) old e-(n+m)):=by simp
   rw[this]
   exact heap_alloc_new w.drew _
  ·rw[aY1,hlen,ff9,size_zeroCells,hzs,<-ez2]
   congr 1
   omega
  ·rw[<-hlen]
   exact List.take_left
 have kept:∀o,aW6 (fun b=>R7 v=some b) w (w.drew.alloc o):=fun o=>⟨rfl,rfl,rfl,by simp,fun k hk _=>Below.heap_alloc w.drew _ _ hk,Nat.le_succ _⟩
 rcases hv with⟨rfl,rfl,rfl⟩|⟨g,cap,cur,rfl,hg,hn,hcm,hcs,htake⟩
 ·have hr:=run_append_nil (P:=P) w t ty e i z ht hi hzz a m c news hl cm3 h0 (by omega) (by have hb:=cv4;simp only[cV7]at hb;omega)
  have hgr:=grown 0 (by omega) (by simp)
  simp only[cV7,List.nil_append,Array.empty_append]at hgr|-
  exact⟨_,_,hr,kept _,hgr,fun b hb=>by cases hb;simp⟩
 ·have hxl:xs.length=n*i.size:=by
   rw[<-htake,bE9,hcs]
   exact eO4 (cz8 _ hn)
  by_cases dP8:n+m<=cap
  ·have hfit:n*i.size+news.length<=cur.toArray.size:=by rw[hl,fc3,hcs,<-ez2];exact cz8 _ dP8
   have hr:=run_append_room (P:=P) w t ty e i ht hi g n cap cur.toArray hg a m c news hl cm3 h1 dP8 hfit
   refine⟨_,_,hr,⟨rfl,rfl,rfl,by simp,fun k _ hk=>setRow_other w g k _ (fun e=>hk (by simp[R7,e])),cq9 _⟩,.inr ⟨g,cap,_,rfl,setRow_heap w g cur.toArray _ e _ hg,dP8,hcm,?_,?_⟩,fun b hb=>?_⟩
   ·simp only[aY1,bE9,dh0]
    rw[hl,hcs]
    have h2:n*i.size+m*i.size<=cap*i.size:=by rw[<-ez2];exact cz8 _ dP8
    have h3:n*i.size<=cap*i.size:=cz8 _ hn
    omega
   ·rw[htake]
    have hlen:(xs++news).length=(n+m)*i.size:=by rw[aY1,hxl,hl,ez2]
    rw[<-hlen]
    exact List.take_left
   ·cases hb
    refine⟨?_,.inl rfl⟩
    have:=(dx1.1 hg).1
    simpa using this
  ·have holds:∀j u,xs[j]? =some u->w.cell? ((⟨g,0,none⟩:Addr).add j)=some u:=by
    intro j u hu
    have hadd:(⟨g,0,none⟩:Addr).add j=⟨g,j,none⟩:=by rw[aC3];simp
    rw[hadd,cell_of_row w g j _ e (0,0) hg]
    rw[<-htake,dp2]at hu
    split at hu
    ·simpa using hu
    ·cases hu
   have hr:=run_append_grow (P:=P) w t ty e i z ht hi hzz ⟨g,0,none⟩ n cap xs hxl holds a m c news hl cm3 (by omega) (by omega) (growslice_fits (by omega) cv4)
   exact⟨_,_,hr,kept _,grown cap (by omega) hxl,fun b hb=>by cases hb;simp⟩
section
variable {w0:World} {L:Lim} {nt:Nat} {tm:List (Nat × T)} {hp:List (Nat × G3)} {S:Nat -> Prop} {E:Nat -> Value} {a:Act} {w w':World}
theorem Ok.cS8 (h:Ok w0 L nt ⟨tm,hp⟩ S E a w){id:Nat}{v v':Value}{b:G3}(aM0:bd5 id big=true)(hf:M9 id tm=true)(hb:M0 id hp=true)
  (hv:∀β,R7 v=some β->¬S β/\β<w.heap.size/\(w0.heap.size<=β\/L.bJ5 β)) (hd:∀i blk β,look hp i=some blk->R7 v=some β->R7 (E i)=some β->False)
  (hk:aW6 (fun x=>R7 v=some x) w w') (hv':∀β,R7 v'=some β->β<w'.heap.size/\(R7 v=some β\/w.heap.size<=β))
  (hok:∀E',bd9 w' S E' v' b):∃E',E' id=v'/\Ok w0 L nt ⟨tm,(id,b)::hp⟩ S E' a w':=by
 let E':Nat->Value:=fun i=>if i=id then v' else E i
 have hE:∀i,i≠id->E' i=E i:=fun i hi=>by simp[E',hi]
 have hid:E' id=v':=by simp[E']
 have hS:∀x,S x->w'.heap[x]? =w.heap[x]?:=fun x hx=>hk.block x (h.aG9 x hx) (fun e=>(hv x e).1 hx)
 have hsz:=h.keep.size
 refine⟨E',hid,{keep:=h.keep.trans hk (fun x hx=>(hv x hx).2.2.symm),aG9:=fun x hx=>dD3 (h.aG9 x hx) hk.size,base:=h.base,size:=h.size,defers:=h.defers,tm:=?_,hp:=?_,own:=?_,at6:=?_,pin:=fun i hi=>by rw[hE i (fun e=>by have:id<big:=bd4 aM0;omega)];exact h.pin i hi}⟩
 ·exact fun k t ht=>(h.tm k t ht).mono (fun _ x=>x) hS fun i hi=>hE i fun e=>by
   have:=bc6 hf k t ht;subst e;rw[this]at hi;cases hi
 ·intro i blk hl
  simp only[look]at hl
  by_cases he:id=i
  ·subst he
   simp only[ca7,fj8,aI5]at hl
   subst hl;rw[hid];exact hok E'
  ·simp only[C5 he,fj6]at hl
   rw[hE i (fun e=>he e.symm)]
   exact(h.hp i blk hl).mono (fun _ x=>x) hS (fun β hβ=>hk.block β (h.own i blk β hl hβ).2.1 (fun e=>hd i blk β hl e hβ)) fun j hj=>hE j fun e=>by
    have:=(aA4 hb i blk hl).2;subst e;rw[this]at hj;cases hj
 ·intro i blk β hl hβ
  simp only[look]at hl
  by_cases he:id=i
  ·subst he
   rw[hid]at hβ
   obtain⟨h1,h2⟩:=hv' β hβ
   rcases h2 with h2|h2
   ·exact⟨(hv β h2).1,h1,(hv β h2).2.2⟩
   ·exact⟨fun hs=>by have:=h.aG9 β hs;omega,h1,.inl (by omega)⟩
  ·simp only[C5 he,fj6]at hl
   rw[hE i (fun e=>he e.symm)]at hβ
   have:=h.own i blk β hl hβ
   exact⟨this.1,dD3 this.2.1 hk.size,this.2.2⟩
 ·intro i i' blk cs3 β hl hl' hβ hβ'
  simp only[look]at hl hl'
  have cz2:∀j bj,look hp j=some bj->R7 v'=some β->R7 (E j)=some β->False:=fun j bj hj h1 h2=>by
   rcases(hv' β h1).2 with h3|h3
   ·exact hd j bj β hj h3 h2
   ·have:=(h.own j bj β hj h2).2.1;omega
  by_cases he:id=i<;>by_cases he':id=i'
  ·exact he.symm.trans he'
  ·subst he
   simp only[C5 he',fj6]at hl'
   rw[hid]at hβ
   rw[hE i' (fun e=>he' e.symm)]at hβ'
   exact(cz2 i' cs3 hl' hβ hβ').elim
  ·subst he'
   simp only[C5 he,fj6]at hl
   rw[hid]at hβ'
   rw[hE i (fun e=>he e.symm)]at hβ
   exact(cz2 i blk hl hβ' hβ).elim
  ·simp only[C5 he,C5 he',fj6]at hl hl'
   rw[hE i (fun e=>he e.symm)]at hβ
   rw[hE i' (fun e=>he' e.symm)]at hβ'
   exact h.at6 i i' blk cs3 β hl hl' hβ hβ'
theorem bK2 {j a s:Nat}(h:j<a*s):0<s:=by
 rcases dO8 s with h1|h1
 ·subst h1;simp at h
 ·exact h1
def aQ0:Tree->Bool
 | .v x=>x.oneCell'
 | .sl _ _=>true
theorem RT.one {v:Value}{t:Tree}(h:RT w S v t)(ht:aQ0 t=true):v.oneCell'=true:=by
 cases h<;>first|exact ht|rfl
theorem cg3 {v:Value}{m sz:Nat}{rs:List (List Tree)}(h:RT w S v (.sl m rs))(hsz:∀r∈rs,r.length=sz)(bg9:∀r∈rs,∀t∈r,aQ0 t=true):
  m=rs.length/\∃(ad:Option Addr) (c:Nat),v= .slice ad m c/\(0<m->∃(x:Addr) (news:List Value),ad=some x/\news.length=m*sz/\(∀j u,news[j]? =some u->w.cell? (x.add j)=some u)/\(∀u∈news,u.oneCell'=true)/\
   ∀i j (hi:i<rs.length) (hj:j<(rs[i]).length) (hb:i*sz+j<news.length),RT w S (news[i*sz+j]) ((rs[i])[j])):=by
 cases h with
 |slE a c=>exact⟨rfl,a,c,rfl,fun h=>absurd h (by omega)⟩
 |sl b o c sz' rows vs _ hb hsz' hc hr=>
  refine⟨rfl,_,c,rfl,fun h0=>⟨_,(dp9 (rs.length*sz)).map (fun k=>vs (k/sz) (k%sz)),rfl,by simp,?_,?_,?_⟩⟩
  all_goals
   have hne:sz'=sz:=by rw[<-hsz' (rs[0]) (ba6 h0),hsz (rs[0]) (ba6 h0)]
   subst hne
  ·intro j u hu
   rw[cG5]at hu
   obtain⟨k,hk,rfl⟩:=ez3.1 hu
   obtain⟨hj,rfl⟩:=bt7.1 hk
   simp only[List.length_range]at hj
   simp only[List.getElem_range]
   have hs0:0<sz':=bK2 hj
   have h1:j/sz'<rs.length:=eX2 (by rw[eg2];exact hj)
   have h2:j%sz'<sz':=eL1 _ hs0
   have:=hc (j/sz') (j%sz') h1 h2
   rw[aC3]
   have e:o+j/sz'*sz'+j%sz'=o+j:=by have:=fb1 j sz';rw[eg2]at this;omega
   rw[e]at this
   exact this
  ·intro u hu
   obtain⟨k,hk,rfl⟩:=cX4.1 hu
   have hj:=ee4.1 hk
   have hs0:0<sz':=bK2 hj
   have h1:k/sz'<rs.length:=eX2 (by rw[eg2];exact hj)
   have h2:k%sz'<(rs[k/sz']).length:=by rw[hsz _ (ba6 h1)];exact eL1 _ hs0
   exact(hr (k/sz') (k%sz') h1 h2).one (bg9 _ (ba6 h1) _ (ba6 h2))
  ·intro i j hi hj hb'
   simp only[dw3,List.getElem_range]
   have hj':j<sz':=by rw[<-hsz _ (ba6 hi)];exact hj
   have e1:(i*sz'+j)/sz'=i:=by rw[eg2,Nat.mul_add_div (by omega),Nat.div_eq_of_lt hj',dM1]
   have e2:(i*sz'+j)%sz'=j:=by rw[eg2,fg3,fa2 hj']
   rw[e1,e2]
   exact hr i j hi hj
end
def Src (w:World)(S:Nat->Prop)(v:Value)(m sz:Nat)(rs:List (List Tree)):Prop:=
 m=rs.length/\∃(ad:Option Addr) (c:Nat),v= .slice ad m c/\(0<m->∃(x:Addr) (news:List Value),ad=some x/\news.length=m*sz/\(∀j u,news[j]? =some u->w.cell? (x.add j)=some u)/\(∀u∈news,u.oneCell'=true)/\
   ∀i j (hi:i<rs.length) (hj:j<(rs[i]).length) (hb:i*sz+j<news.length),RT w S (news[i*sz+j]) ((rs[i])[j]))
section
variable {P:Program} {w0:World} {L:Lim} {nt:Nat} {tm:List (Nat × T)} {hp:List (Nat × G3)} {S:Nat -> Prop} {E:Nat -> Value} {a:Act} {w:World}
theorem do2 {v:Value}{e sz m:Nat}{rs:List (List Tree)}(h:bd9 w S E v (.rows e sz m rs))(bg9:∀r∈rs,∀t∈r,aQ0 t=true):Src w S v m sz rs:=by
 obtain⟨hn,hx⟩:=h
 subst hn
 refine⟨rfl,?_⟩
 rcases hx with⟨rfl,hr⟩|⟨β,cap,vs,hm,rfl,hh,hl,hc,hsz,hr⟩
 ·subst hr;exact⟨_,_,rfl,fun h=>absurd h (by simp)⟩
 ·refine⟨_,_,rfl,fun h0=>⟨_,vs.take (rs.length*sz),rfl,?_,?_,?_,?_⟩⟩
  ·rw[bE9,hl];exact eO4 (cz8 _ hc)
  ·intro j u hu
   rw[dp2]at hu
   split at hu
   ·rw[aC3,cell_of_row w β _ _ e _ hh];simpa using hu
   ·cases hu
  ·intro u hu
   obtain⟨k,hk,rfl⟩:=cY8.1 hu
   have hk':k<rs.length*sz:=by have:=hk;simp only[bE9]at this;omega
   have hs0:0<sz:=bK2 hk'
   have h1:k/sz<rs.length:=eX2 (by rw[eg2];exact hk')
   have h2:k%sz<(rs[k/sz]).length:=by rw[hsz _ (ba6 h1)];exact eL1 _ hs0
   have e1:k/sz*sz+k%sz=k:=by have:=fb1 k sz;rw[eg2]at this;exact this
   have hkv:k<vs.length:=by simp only[bE9]at hk;omega
   have:=hr (k/sz) (k%sz) h1 h2 (by rw[e1];exact hkv)
   simp only[e1]at this
   rw[ec4]
   exact this.one (bg9 _ (ba6 h1) _ (ba6 h2))
  ·intro i j hi hj hb
   rw[ec4]
   exact hr i j hi hj _
theorem bM4 {α:Type}{l r:List α}{k i:Nat}(h:l.take k=r)(hi:i<r.length)(hl:i<l.length):l[i]=r[i]:=by
 subst h;rw[ec4]
theorem Ok.append (h:Ok w0 L nt ⟨tm,hp⟩ S E a w){id e n m t ty:Nat}{ti:TI}{v x:Value}{rs r2:List (List Tree)}(aM0:bd5 id big=true)(hf:M9 id tm=true)(hb:M0 id hp=true)
  (hv:∀β,R7 v=some β->¬S β/\β<w.heap.size/\(w0.heap.size<=β\/L.bJ5 β)) (hd:∀i blk β,look hp i=some blk->R7 v=some β->R7 (E i)=some β->False)
  (hbv:bd9 w S E v (.rows e ti.size n rs)) (ht:P.underlying t=some (.slice e)) (hte:bh3 P e ti) (hz:ti.zero.length=ti.size)
  (hx:Src w S x m ti.size r2) (h2:∀r∈r2,r.length=ti.size) (cF1:n+m<=1073741824):
  ∃v' w' E',(Builtin.append_ #[t,t] ty #[v,x]).run P w= .ok v' w'/\E' id=v'/\Ok w0 L nt ⟨tm,(id,.rows e ti.size (n+m) (rs++r2))::hp⟩ S E' a w':=by
 obtain⟨hm,ad,c,rfl,cf3⟩:=hx
 obtain⟨hn,aM1⟩:=hbv
 have dl1:∃xs:List Value,ef3 w v e ti.size n xs/\xs.length=n*ti.size/\(∀r∈rs,r.length=ti.size)/\∀i j (hi:i<rs.length) (hj:j<(rs[i]).length) (hb:i*ti.size+j<xs.length),RT w S (xs[i*ti.size+j]) ((rs[i])[j]):=by
  rcases aM1 with⟨rfl,hr⟩|⟨β,cap,vs,hcm,rfl,hh,hl,hc,hsz,hr⟩
  ·subst hr;subst hn;exact⟨[],.inl ⟨rfl,rfl,rfl⟩,by simp,by simp,fun i j hi=>by simp at hi⟩
  ·subst hn
   refine⟨vs.take (rs.length*ti.size),.inr ⟨β,cap,vs,rfl,hh,hc,hcm,hl,rfl⟩,?_,hsz,fun i j hi hj hb=>?_⟩
   ·rw[bE9,hl];exact eO4 (cz8 _ hc)
   ·rw[ec4];exact hr i j hi hj _
 obtain⟨xs,hov,hxl,hrl,hrx⟩:=dl1
 rcases dO8 m with h0|h0
 ·subst h0
  have hr2:r2=[]:=eq6 hm.symm
  subst hr2
  have hr:=cF7 (ty:=ty) ht hte hov (x:=.slice ad 0 c) rfl
  obtain⟨E',hE,hk⟩:=h.cS8 aM0 hf hb hv hd (aW6.refl _ w) (v':=v) (b:=.rows e ti.size (n+0) (rs++[])) (fun β hβ=>⟨(hv β hβ).2.1,.inl hβ⟩) (fun E'=>by
   rw[cV6,dM1];exact⟨hn,aM1⟩)
  exact⟨v,w,E',hr,hE,hk⟩
 ·obtain⟨y,news,rfl,hnl,cm3,bg9,hrn⟩:=cf3 h0
  obtain⟨v',w',hr,hk,hov',hbl⟩:=cF8 (ty:=ty) ht hte hz hov hnl cm3 bg9 h0 cF1
  have hS:∀b,S b->w'.heap[b]? =w.heap[b]?:=fun b hb=>hk.block b (h.aG9 b hb) (fun e=>(hv b e).1 hb)
  obtain⟨E',hE,hok⟩:=h.cS8 aM0 hf hb hv hd hk (v':=v') (b:=.rows e ti.size (n+m) (rs++r2)) hbl (fun E'=>by
   refine⟨by rw[aY1,hn,hm],?_⟩
   rcases hov' with⟨_,hz0,_⟩|⟨g,cap,cur,rfl,hg,hnc,hcm,hcl,htk⟩
   ·omega
   ·refine .inr ⟨g,cap,cur,hcm,by rw[aY1,<-hn,<-hm],hg,hcl,by rw[aY1,<-hn,<-hm];exact hnc,?_,?_⟩
    ·intro r hr
     rcases cI5.1 hr with hr|hr
     ·exact hrl r hr
     ·exact h2 r hr
    ·intro i j hi hj hb'
     by_cases hin:i<rs.length
     ·have hj1:j<(rs[i]).length:=by rw[cF5 hin]at hj;exact hj
      have hjs:j<ti.size:=by rw[<-hrl _ (ba6 hin)];exact hj1
      have hlt:i*ti.size+j<xs.length:=by
       rw[hxl,hn]
       have:(i+1)*ti.size<=rs.length*ti.size:=cz8 _ hin
       rw[dG8]at this;omega
      have e1:cur[i*ti.size+j]=xs[i*ti.size+j]:=by
       rw[bM4 htk (by rw[aY1];omega) hb',cF5 hlt]
      have e2:(rs++r2)[i]=rs[i]:=cF5 hin
      rw[e1]
      simp only[e2]
      exact(hrx i j hin hj1 hlt).mono (fun _ x=>x) hS
     ·have hi2:i-rs.length<r2.length:=by rw[aY1]at hi;omega
      have e2:(rs++r2)[i]=r2[i-rs.length]:=di0 (by omega)
      have hj1:j<(r2[i-rs.length]).length:=by rw[e2]at hj;exact hj
      have hjs:j<ti.size:=by rw[<-h2 _ (ba6 hi2)];exact hj1
      have hlt:(i-rs.length)*ti.size+j<news.length:=by
       rw[hnl,hm]
       have:(i-rs.length+1)*ti.size<=r2.length*ti.size:=cz8 _ hi2
       rw[dG8]at this;omega
      have esum:i*ti.size=rs.length*ti.size+(i-rs.length)*ti.size:=by rw[<-ez2];congr 1;omega
      have e3:i*ti.size+j-xs.length=(i-rs.length)*ti.size+j:=by rw[hxl,hn,esum];omega
      have e1:cur[i*ti.size+j]=news[(i-rs.length)*ti.size+j]:=by
       rw[bM4 htk (by rw[aY1,hxl,hn,esum];omega) hb',di0 (by rw[hxl,hn,esum];omega)]
       simp only[e3]
      rw[e1]
      simp only[e2]
      exact(hrn (i-rs.length) j hi2 hj1 hlt).mono (fun _ x=>x) hS)
  exact⟨v',w',E',hr,hE,hok⟩
end
section
variable {ρ α:Type} {X:Cx} {ks:List K} {tm tm':List (Nat × T)} {hp Z4:List (Nat × G3)} {Q:ρ -> Exit -> St -> Prop} {all:Array Oper} {o:Oper} {rest:List Oper}
theorem bG9 {enc:α->List Tree}(bg9:∀y,(enc y).all aQ0=true)(l:List α):∀r∈l.map enc,∀t∈r,aQ0 t=true:=by
 intro r hr t ht
 obtain⟨y,_,rfl⟩:=cX4.1 hr
 exact bN8.1 (bg9 y) t ht
theorem bW2 {enc:α->List Tree}{sz:Nat}(h:∀y,(enc y).length=sz)(l:List α):∀r∈l.map enc,r.length=sz:=by
 intro r hr
 obtain⟨y,_,rfl⟩:=cX4.1 hr
 exact h y
theorem B5.append {t e e' d id n m s0:Nat}{z0:List Value}{te:TI}{s x:Operand}{l r:List α}{enc:α->List Tree}{k:List α->Option ρ}
  (ho:o.op= .call ⟨.builtin .append,#[s,x],#[t,t]⟩) (hd:o.dst=some d) (hdn:bd5 d X.nt=true) (hg:ah9 all.toList tm o.guard=some true)
  (hty:look X.C4 t=some ⟨s0,.slice e,z0⟩) (hte:look X.C4 e=some te) (hz:te.zero.length=te.size) (az2:∀y,(enc y).length=te.size) (bg9:∀y,(enc y).all aQ0=true)
  (hs:(val tm s=some (.own id)/\look hp id=some (.rows e te.size n (l.map enc)))\/(val tm s=some (.t (.v (.slice none 0 0)))/\l=[]))
  (hx:val tm x=some (.t (.sl m (r.map enc)))\/∃i2,val tm x=some (.own i2)/\look hp i2=some (.rows e' te.size m (r.map enc)))
  (bS6:Sub ⟨tm',Z4⟩ ⟨tm,hp⟩) (aM0:bd5 id big=true) (hft:M9 id tm'=true) (hfb:M0 id Z4=true)
  (h:B5 X all rest ks ⟨(d,.own id)::tm',(id,.rows e te.size (l++r).length ((l++r).map enc))::Z4⟩ (k (l++r)) Q):
  B5 X all (o::rest) ks ⟨tm,hp⟩ ((U5 l r).bind k) Q:=fun y hy a w ⟨S,E,hk⟩=>by
 unfold U5 at hy
 split at hy
 ·rename_i cF1
  simp only[aH3]at hy
  obtain⟨dd,_,hu,ho2⟩:∃d,X.P.underlying t=some d/\X.P.underlying t=some d/\TD.ok X.P (.slice e) d:=by
   obtain⟨i,d,_,_,hu,hdd,_⟩:=X.K4 t _ hty
   exact⟨d,hu,hu,hdd⟩
  simp only[TD.ok]at ho2
  subst ho2
  have hk':Ok X.w0 X.L X.nt ⟨tm',Z4⟩ S E a w:=hk.sub bS6
  have cf3:Src w S (a.eval x) r.length te.size (r.map enc):=by
   rcases hx with hx|⟨i2,hx,hb2⟩
   ·have hv:=hk.val hx
    generalize a.eval x=xv at hv
    cases hv with
    |t hv=>
     have:=cg3 hv (bW2 az2 r) (bG9 bg9 r)
     have hm:m=r.length:=by simpa using this.1
     subst hm
     exact⟨by simp,this.2⟩
   ·have hv:=hk.val hx
    have hb:=hk.hp i2 _ hb2
    generalize a.eval x=xv at hv
    cases hv with
    |own _ _ hE=>
     subst hE
     have:=do2 hb (bG9 bg9 r)
     have hm:m=r.length:=by simpa using this.1
     subst hm
     exact this
  have dH7:∃v,a.eval s=v/\bd9 w S E v (.rows e te.size l.length (l.map enc))/\(∀β,R7 v=some β->¬S β/\β<w.heap.size/\(X.w0.heap.size<=β\/X.L.bJ5 β))/\
    (∀i blk β,look Z4 i=some blk->R7 v=some β->R7 (E i)=some β->False):=by
   rcases hs with⟨hs,hb⟩|⟨hs,hl⟩
   ·have hv:=hk.val hs
    have hb1:=hk.hp id _ hb
    have hn:n=l.length:=by have:=hb1.1;simpa using this
    subst hn
    generalize a.eval s=sv at hv
    cases hv with
    |own _ _ hE=>
     subst hE
     refine⟨_,rfl,hb1,fun β hβ=>hk.own id _ β hb hβ,fun i blk β hi h1 h2=>?_⟩
     obtain⟨cs3,hi',_⟩:=bk0 bS6.2 i blk hi
     have:=hk.at6 id i _ cs3 β hb hi' h1 h2
     exact(aA4 hfb i blk hi).1 this.symm
   ·have hv:=(hk.val hs).tv
    subst hl
    rw[hv]
    exact⟨_,rfl,⟨by simp,.inl ⟨rfl,rfl⟩⟩,fun β hβ=>by simp[R7]at hβ,fun i blk β _ h1=>by simp[R7]at h1⟩
  obtain⟨v,hv,hbv,dl1,hdist⟩:=dH7
  obtain⟨v',w',E',hr,hE,hok⟩:=hk'.append (ty:=o.type) aM0 hft hfb dl1 hdist hbv hu (X.K4 e _ hte) hz cf3 (bW2 az2 r) (by simpa using cF1)
  refine wpList_step fun K hK=>?_
  rw[S8 hk hg,if_pos rfl]
  unfold Oper.wp
  have aO0:(execOp a.eval o).run X.P w= .ok (.value v') w':=by
   unfold execOp
   simp only[ho,resolve,invoke,builtin,bk5,bO3,ba5,eY8,cS3,ek7,hv,hr]
  rw[aO0]
  refine hK _ _ (h y hy _ _ ⟨S,E',?_⟩)
  rw[hd,eC3,aY1]
  exact hok.put (bd4 hdn) (.own id _ hE)
 ·simp at hy
end
section
variable {ρ α:Type} {X:Cx} {ks:List K} {tm tm':List (Nat × T)} {hp Z4:List (Nat × G3)} {m:Option ρ} {Q:ρ -> Exit -> St -> Prop} {all:Array Oper} {o:Oper} {rest:List Oper}
end
def bF0 {α:Type}(l:List α)(o:Nat)(c:List α):List α:=l.take o++c++l.drop (o+c.length)
theorem bU7 {α:Type}(l:List α)(o:Nat)(c:List α)(h:o+c.length<=l.length):(bF0 l o c).length=l.length:=by
 simp[bF0];omega
theorem dA1 {α:Type}(l:List α)(o:Nat)(c:List α)(h:o+c.length<=l.length)(p:Nat):(bF0 l o c)[p]? =if p<o then l[p]?else if p<o+c.length then c[p-o]?else l[p]?:=by
 unfold bF0
 have e1:min o l.length=o:=by omega
 by_cases h1:p<o
 ·rw[if_pos h1,dd3,ee2 (by simp;omega),dp2,if_pos h1]
 ·rw[if_neg h1]
  by_cases h2:p<o+c.length
  ·rw[if_pos h2,ee2 (by simp;omega),dB7 (by simp;omega)]
   simp only[bE9,e1]
  ·rw[if_neg h2,dB7 (by simp;omega),eV5]
   congr 1
   simp only[aY1,bE9,e1]
   omega
section
variable {P:Program} {w0:World} {L:Lim} {nt:Nat} {σ:St} {S:Nat -> Prop} {E:Nat -> Value} {a:Act} {w:World}
theorem RV.rt {v:Value}{y:Tree}(h:RV w S E v (.t y)):RT w S v y:=by cases h with|t h=>exact h
theorem ed1 (hok:Ok w0 L nt σ S E a w){t:Nat}{ti:TI}(hti:bh3 P t ti){id i sz off e n:Nat}{rs:List (List Tree)}{row lt:List Tree}{x:T}{v pv:Value}
  (hb:look σ.hp id=some (.rows e sz n rs)) (hp:RV w S E pv (.pe id i sz off)) (hi:rs[i]? =some row) (hv:RV w S E v x) (hx:ap6 σ.hp x=some (lt.map .t)) (hs:lt.length=ti.size) (hle:off+lt.length<=sz):
  ∃w',(Instr.storeAt t pv v).run P w= .ok () w'/\Ok w0 L nt ⟨σ.tm,at7 σ.hp id (.rows e sz n (rs.set i (bF0 row off lt)))⟩ S E a w':=by
 obtain⟨vs,hvs,hl,hr,h1⟩:=hok.cells hv hx
 obtain⟨hn,aM1⟩:=hok.hp id _ hb
 obtain⟨hil,du8⟩:=bt7.1 hi
 have hvl:vs.length=lt.length:=by simpa using hl
 rcases aM1 with⟨_,hr0⟩|⟨β,cap,cs,hcm,hE,hh,hcl,hcc,hsz,hcr⟩
 ·subst hr0;simp at hil
 ·cases hp with
  |pe _ _ _ _ β' n' dF5 hE'=>
   rw[hE]at hE'
   cases hE'
   have hrl:row.length=sz:=by rw[<-du8];exact hsz _ (ba6 hil)
   have hfit:i*sz+off+vs.length<=cs.length:=by
    have h2:(i+1)*sz<=cap*sz:=cz8 _ (by omega)
    rw[dG8]at h2
    omega
   have hst:(Instr.storeAt t (.pointer (some ⟨β,i*sz+off,none⟩)) v).run P w= .ok () (w.setRow β (bF0 cs (i*sz+off) vs).toArray):=by
    have:=run_storeCells_at (P:=P) β (i*sz+off) e vs 0 cs.toArray w hh (by simp;omega) h1
    have hl2:vs.length=ti.size:=by omega
    simp only[Instr.storeAt,Instr.sureAddr,bk5,bO3,ba5,storeVar,hti.aG5,hvs]
    simpa[bF0,hl2]using this
   refine⟨_,hst,hok.setRow hb (by rw[hE];rfl) hh fun hS bN5=>⟨by rw[dI2];exact hn,.inr ⟨β,cap,bF0 cs (i*sz+off) vs,hcm,by rw[dI2];exact hE,bN5,by rw[bU7 _ _ _ hfit];exact hcl,by rw[dI2];exact hcc,?_,?_⟩⟩⟩
   ·intro r hr'
    obtain⟨j,hj,rfl⟩:=cY8.1 hr'
    rw[dI2]at hj
    rw[eX6]
    split
    ·rw[bU7 _ _ _ (by omega)];exact hrl
    ·exact hsz _ (ba6 hj)
   ·intro i' j hi' hj hb'
    have hi2:i'<rs.length:=by rw[dI2]at hi';exact hi'
    have hg:=dA1 cs (i*sz+off) vs hfit (i'*sz+j)
    rw[aK2 hb']at hg
    have old:∀(hne:i'≠i\/j<off\/off+vs.length<=j),(i'=i->(bF0 row off lt)[j]? =row[j]?)->RT (w.setRow β (bF0 cs (i*sz+off) vs).toArray) S ((bF0 cs (i*sz+off) vs)[i'*sz+j]) (((rs.set i (bF0 row off lt))[i']'(by rw[dI2];exact hi2))[j]):=by
     intro hne hsame
     have hjr:((rs.set i (bF0 row off lt))[i']'(by rw[dI2];exact hi2)).length=sz:=by
      rw[eX6]
      split
      ·rw[bU7 _ _ _ (by omega)];exact hrl
      ·exact hsz _ (ba6 hi2)
     have hjs:j<sz:=by rw[hjr]at hj;exact hj
     have hrange:i'*sz+j<i*sz+off\/i*sz+off+vs.length<=i'*sz+j:=by
      rcases Nat.lt_trichotomy i' i with h2|h2|h2
      ·left
       have:(i'+1)*sz<=i*sz:=cz8 _ h2
       rw[dG8]at this;omega
      ·subst h2
       rcases hne with h3|h3|h3
       ·exact absurd rfl h3
       ·left;omega
       ·right;omega
      ·right
       have:(i+1)*sz<=i'*sz:=cz8 _ h2
       rw[dG8]at this;omega
     have e1:some ((bF0 cs (i*sz+off) vs)[i'*sz+j])=cs[i'*sz+j]?:=by
      rw[hg]
      rcases hrange with h2|h2
      ·rw[if_pos h2]
      ·rw[if_neg (by omega),if_neg (by omega)]
     obtain⟨hlt,e1⟩:=bt7.1 e1.symm
     have hj2:j<(rs[i']).length:=by rw[hsz _ (ba6 hi2)];exact hjs
     have e2:((rs.set i (bF0 row off lt))[i']'(by rw[dI2];exact hi2))[j]=(rs[i'])[j]:=by
      apply cp9
      rw[<-aK2,<-aK2,eX6]
      split
      ·rename_i h3
       subst h3
       rw[hsame rfl,<-du8]
      ·rfl
     rw[<-e1,e2]
     exact(hcr i' j hi2 hj2 hlt).mono (fun _ x=>x) hS
    by_cases hii:i'=i
    ·subst hii
     have hsg:=dA1 row off lt (by omega) j
     by_cases c1:j<off
     ·exact old (.inr (.inl c1)) (fun _=>by rw[hsg,if_pos c1])
     ·by_cases c2:j<off+lt.length
      ·have hjv:j-off<vs.length:=by omega
       have e1:(bF0 cs (i'*sz+off) vs)[i'*sz+j]=vs[j-off]:=by
        apply cp9
        rw[hg,if_neg (by omega),if_pos (by omega),show i'*sz+j-(i'*sz+off)=j-off by omega,aK2 hjv]
       have e2:((rs.set i' (bF0 row off lt))[i']'(by rw[dI2];exact hi2))[j]=lt[j-off]:=by
        apply cp9
        rw[<-aK2,List.getElem_set_self,hsg,if_neg c1,if_pos c2,aK2 (by omega)]
       rw[e1,e2]
       have:=hr (j-off) hjv (by simp;omega)
       rw[dw3]at this
       exact this.rt.mono (fun _ x=>x) hS
      ·exact old (.inr (.inr (by omega))) (fun _=>by rw[hsg,if_neg c1,if_neg c2])
    ·exact old (.inl hii) (fun h=>absurd h hii)
theorem dv9 (hok:Ok w0 L nt σ S E a w){t:Nat}{ti:TI}(hti:bh3 P t ti){id i sz off e n:Nat}{rs:List (List Tree)}{row:List Tree}{pv:Value}{r:T}
  (hb:look σ.hp id=some (.rows e sz n rs)) (hp:RV w S E pv (.pe id i sz off)) (hi:rs[i]? =some row) (hx:bh1 ti.desc.isAgg ti.size (row.map .t) off=some r):
  ∃v,(Instr.loadAt t pv).run P w= .ok v w/\RV w S E v r:=by
 obtain⟨hn,aM1⟩:=hok.hp id _ hb
 obtain⟨hil,du8⟩:=bt7.1 hi
 rcases aM1 with⟨_,hr0⟩|⟨β,cap,cs,hcm,hE,hh,hcl,hcc,hsz,hcr⟩
 ·subst hr0;simp at hil
 ·cases hp with
  |pe _ _ _ _ β' n' dF5 hE'=>
   rw[hE]at hE'
   cases hE'
   have hrl:row.length=sz:=by rw[<-du8];exact hsz _ (ba6 hil)
   have hfit:i*sz+sz<=cs.length:=by
    have h2:(i+1)*sz<=cap*sz:=cz8 _ (by omega)
    rw[dG8]at h2
    omega
   refine cH4 (P:=P) (b:=β) (o:=i*sz) (vs:=(cs.drop (i*sz)).take sz) hti (l:=row.map .t) ?_ ?_ ?_ hx
   ·simp;omega
   ·intro j h1
    simp only[bE9,dh0]at h1
    rw[cell_of_row w β _ _ e _ hh]
    have:i*sz+j<cs.length:=by omega
    simp[this]
   ·intro j h1 h2
    simp only[bE9,dh0]at h1
    have hj:j<sz:=by omega
    have:=hcr i j hil (by rw[hsz _ (ba6 hil)];exact hj) (by omega)
    simp only[ec4,ex7,dw3]
    simp only[du8]at this
    exact .t this
end
section
variable {ρ α:Type} {X:Cx} {ks:List K} {tm:List (Nat × T)} {hp:List (Nat × G3)} {m:Option ρ} {Q:ρ -> Exit -> St -> Prop} {all:Array Oper} {o:Oper} {rest:List Oper}
theorem B5.fb9 {t d id i sz off e n:Nat}{ti:TI}{p:Operand}{l:List α}{enc:α->List Tree}{y:α}{r:T}(hy:l[i]? =some y)
  (ho:o.op= .load t p) (hd:o.dst=some d) (hdn:bd5 d X.nt=true) (hg:ah9 all.toList tm o.guard=some true) (hp1:val tm p=some (.pe id i sz off)) (hb:look hp id=some (.rows e sz n (l.map enc)))
  (hti:look X.C4 t=some ti) (hr:bh1 ti.desc.isAgg ti.size ((enc y).map .t) off=some r) (h:B5 X all rest ks ⟨(d,r)::tm,hp⟩ m Q):B5 X all (o::rest) ks ⟨tm,hp⟩ m Q:=by
 have:=B5.one (X:=X) (ks:=ks) (tm:=tm) (hp:=hp) (all:=all) (o:=o) (rest:=rest) (Q:=Q) (k:=fun _=>m) (m₁:=some ()) hd hdn hg (fun _=>r) (fun _ S E a w _ hk=>by
  obtain⟨v,h1,h2⟩:=dv9 (P:=X.P) hk (X.K4 t _ hti) hb (hk.val hp1) (by rw[cG5,hy];rfl) hr
  refine⟨v,?_,h2⟩
  unfold execOp
  simp only[ho,bk5,h1,ba5,bO3]) (fun _ _=>h)
 simpa using this
end
mutual
def aM7 (h:List (Nat×Nat)):T->Option T
 | .t x=>some (.t x)
 | .el c=>some (.el c)
 | .fz n c=>some (.fz n c)
 | .any=>some .any
 | .ptr id off=>match look h id with|some i=>some (.ptr i off)|none=>none
 | .own id=>match look h id with|some i=>some (.own i)|none=>none
 | .pe id i sz off=>match look h id with|some j=>some (.pe j i sz off)|none=>none
 | .vw id lo n sz=>match look h id with|some j=>some (.vw j lo n sz)|none=>none
 | .agg l=>match bT8 h l with|some r=>some (.agg r)|none=>none
 | .P9 l=>match bT8 h l with|some r=>some (.P9 r)|none=>none
 | .clo f l=>match bT8 h l with|some r=>some (.clo f r)|none=>none
def bT8 (h:List (Nat×Nat)):List T->Option (List T)
 |[]=>some []
 |x::r=>match aM7 h x,bT8 h r with|some y,some l=>some (y::l)|_,_=>none
end
def bT7 (h:List (Nat×Nat)):G3->Option G3
 | .box l=>match bT8 h l with|some r=>some (.box r)|none=>none
 | .rows e sz n rs=>some (.rows e sz n rs)
 | .mp es=>some (.mp es)
 | .rv y e sz n rs=>some (.rv y e sz n rs)
section
variable {w:World} {S:Nat -> Prop} {E E':Nat -> Value} {h:List (Nat × Nat)}
mutual
theorem co6 (hE:∀i j,look h i=some j->E' j=E i):∀{t u:T}{v:Value},RV w S E v t->aM7 h t=some u->RV w S E' v u
 | .t x,u,v,hv,hr=>by simp only[aM7,aI5]at hr;subst hr;exact hv.mono (fun _ x=>x) (fun _ _=>rfl) (fun id hid=>by simp[names]at hid)
 | .el c,u,v,hv,hr=>by simp only[aM7,aI5]at hr;subst hr;exact hv.mono (fun _ x=>x) (fun _ _=>rfl) (fun id hid=>by simp[names]at hid)
 | .fz n c,u,v,hv,hr=>by simp only[aM7,aI5]at hr;subst hr;exact hv.mono (fun _ x=>x) (fun _ _=>rfl) (fun id hid=>by simp[names]at hid)
 | .any,u,v,hv,hr=>by simp only[aM7,aI5]at hr;subst hr;exact .any v
 | .ptr id off,u,v,hv,hr=>by
  simp only[aM7]at hr
  split at hr<;>try(cases hr;done)
  rename_i i hi
  simp only[aI5]at hr;subst hr
  cases hv with|ptr _ _ β hb=>exact .ptr i off β (by rw[hE id i hi];exact hb)
 | .own id,u,v,hv,hr=>by
  simp only[aM7]at hr
  split at hr<;>try(cases hr;done)
  rename_i i hi
  simp only[aI5]at hr;subst hr
  cases hv with|own _ _ hb=>exact .own i v (by rw[hE id i hi];exact hb)
 | .pe id k sz off,u,v,hv,hr=>by
  simp only[aM7]at hr
  split at hr<;>try(cases hr;done)
  rename_i i hi
  simp only[aI5]at hr;subst hr
  cases hv with|pe _ _ _ _ β n cap hb=>exact .pe i k sz off β n cap (by rw[hE id i hi];exact hb)
 | .vw id lo n sz,u,v,hv,hr=>by
  simp only[aM7]at hr
  split at hr<;>try(cases hr;done)
  rename_i i hi
  simp only[aI5]at hr;subst hr
  cases hv with|vw _ _ _ _ c a hb=>exact .vw i lo n sz c a (by rw[hE id i hi];exact hb)
 | .agg l,u,v,hv,hr=>by
  simp only[aM7]at hr
  split at hr<;>try(cases hr;done)
  rename_i r hl
  simp only[aI5]at hr;subst hr
  cases hv with|agg vs _ hlen hrr=>have:=co5 hE ⟨hlen,hrr⟩ hl;exact .agg vs r this.1 this.2
 | .P9 l,u,v,hv,hr=>by
  simp only[aM7]at hr
  split at hr<;>try(cases hr;done)
  rename_i r hl
  simp only[aI5]at hr;subst hr
  cases hv with|P9 vs _ hlen hrr=>have:=co5 hE ⟨hlen,hrr⟩ hl;exact .P9 vs r this.1 this.2
 | .clo f l,u,v,hv,hr=>by
  simp only[aM7]at hr
  split at hr<;>try(cases hr;done)
  rename_i r hl
  simp only[aI5]at hr;subst hr
  cases hv with|clo _ vs _ hlen hrr=>have:=co5 hE ⟨hlen,hrr⟩ hl;exact .clo f vs r this.1 this.2
theorem co5 (hE:∀i j,look h i=some j->E' j=E i):∀{l r:List T}{vs:List Value},RVL w S E vs l->bT8 h l=some r->RVL w S E' vs r
 |[],r,vs,hv,hr=>by simp only[bT8,aI5]at hr;subst hr;exact⟨hv.1,fun j _ h2=>by simp at h2⟩
 |x::l,r,vs,hv,hr=>by
  simp only[bT8]at hr
  split at hr<;>try(cases hr;done)
  rename_i y l' hy hl'
  simp only[aI5]at hr;subst hr
  cases vs with
  |nil=>have:=hv.1;simp at this
  |cons v vs=>
   have h1:=co6 hE (t:=x) (hv.2 0 (by simp) (by simp)) hy
   have h2:=co5 hE (l:=l) (vs:=vs) ⟨by simpa using hv.1,fun j a b=>hv.2 (j+1) (by simpa using a) (by simpa using b)⟩ hl'
   refine⟨by simp[h2.1],fun j a b=>?_⟩
   cases j with
   |zero=>exact h1
   |succ j=>exact h2.2 j (by simpa using a) (by simpa using b)
end
mutual
theorem ed8 (hE:∀i j,look h i=some j->E' j=E i):∀{t u:T}{v:Value},RV w S E' v u->aM7 h t=some u->RV w S E v t
 | .t x,u,v,hv,hr=>by simp only[aM7,aI5]at hr;subst hr;exact hv.mono (fun _ x=>x) (fun _ _=>rfl) (fun id hid=>by simp[names]at hid)
 | .el c,u,v,hv,hr=>by simp only[aM7,aI5]at hr;subst hr;exact hv.mono (fun _ x=>x) (fun _ _=>rfl) (fun id hid=>by simp[names]at hid)
 | .fz n c,u,v,hv,hr=>by simp only[aM7,aI5]at hr;subst hr;exact hv.mono (fun _ x=>x) (fun _ _=>rfl) (fun id hid=>by simp[names]at hid)
 | .any,u,v,hv,hr=>.any v
 | .ptr id off,u,v,hv,hr=>by
  simp only[aM7]at hr
  split at hr<;>try(cases hr;done)
  rename_i i hi
  simp only[aI5]at hr;subst hr
  cases hv with|ptr _ _ β hb=>exact .ptr id off β (by rw[<-hE id i hi];exact hb)
 | .own id,u,v,hv,hr=>by
  simp only[aM7]at hr
  split at hr<;>try(cases hr;done)
  rename_i i hi
  simp only[aI5]at hr;subst hr
  cases hv with|own _ _ hb=>exact .own id v (by rw[<-hE id i hi];exact hb)
 | .pe id k sz off,u,v,hv,hr=>by
  simp only[aM7]at hr
  split at hr<;>try(cases hr;done)
  rename_i i hi
  simp only[aI5]at hr;subst hr
  cases hv with|pe _ _ _ _ β n cap hb=>exact .pe id k sz off β n cap (by rw[<-hE id i hi];exact hb)
 | .vw id lo n sz,u,v,hv,hr=>by
  simp only[aM7]at hr
  split at hr<;>try(cases hr;done)
  rename_i i hi
  simp only[aI5]at hr;subst hr
  cases hv with|vw _ _ _ _ c a hb=>exact .vw id lo n sz c a (by rw[<-hE id i hi];exact hb)
 | .agg l,u,v,hv,hr=>by
  simp only[aM7]at hr
  split at hr<;>try(cases hr;done)
  rename_i r hl
  simp only[aI5]at hr;subst hr
  cases hv with|agg vs _ hlen hrr=>have:=bs2 hE ⟨hlen,hrr⟩ hl;exact .agg vs l this.1 this.2
 | .P9 l,u,v,hv,hr=>by
  simp only[aM7]at hr
  split at hr<;>try(cases hr;done)
  rename_i r hl
  simp only[aI5]at hr;subst hr
  cases hv with|P9 vs _ hlen hrr=>have:=bs2 hE ⟨hlen,hrr⟩ hl;exact .P9 vs l this.1 this.2
 | .clo f l,u,v,hv,hr=>by
  simp only[aM7]at hr
  split at hr<;>try(cases hr;done)
  rename_i r hl
  simp only[aI5]at hr;subst hr
  cases hv with|clo _ vs _ hlen hrr=>have:=bs2 hE ⟨hlen,hrr⟩ hl;exact .clo f vs l this.1 this.2
theorem bs2 (hE:∀i j,look h i=some j->E' j=E i):∀{l r:List T}{vs:List Value},RVL w S E' vs r->bT8 h l=some r->RVL w S E vs l
 |[],r,vs,hv,hr=>by simp only[bT8,aI5]at hr;subst hr;exact⟨hv.1,fun j _ h2=>by simp at h2⟩
 |x::l,r,vs,hv,hr=>by
  simp only[bT8]at hr
  split at hr<;>try(cases hr;done)
  rename_i y l' hy hl'
  simp only[aI5]at hr;subst hr
  cases vs with
  |nil=>have:=hv.1;simp at this
  |cons v vs=>
   have h1:=ed8 hE (t:=x) (hv.2 0 (by simp) (by simp)) hy
   have h2:=bs2 hE (l:=l) (vs:=vs) ⟨by simpa using hv.1,fun j a b=>hv.2 (j+1) (by simpa using a) (by simpa using b)⟩ hl'
   refine⟨by simp[h2.1],fun j a b=>?_⟩
   cases j with
   |zero=>exact h1
   |succ j=>exact h2.2 j (by simpa using a) (by simpa using b)
end
theorem dn6 (hE:∀i j,look h i=some j->E' j=E i){x:Value}{b c:G3}(hb:bd9 w S E x b)(hr:bT7 h b=some c):bd9 w S E' x c:=by
 cases b with
 |box l=>
  simp only[bT7]at hr
  split at hr<;>try(cases hr;done)
  rename_i r hl
  simp only[aI5]at hr;subst hr
  obtain⟨β,vs,elem,h1,h2,h3,h4,h5⟩:=hb
  have:=co5 hE (l:=l) (vs:=vs) ⟨h3,h4⟩ hl
  exact⟨β,vs,elem,h1,h2,this.1,this.2,h5⟩
 |rows e sz n rs=>
  simp only[bT7,aI5]at hr;subst hr
  exact hb.mono (fun _ x=>x) (fun _ _=>rfl) (fun _ _=>rfl) (fun _ hid=>by simp[bj0]at hid)
 |mp es=>
  simp only[bT7,aI5]at hr;subst hr
  exact hb.mono (fun _ x=>x) (fun _ _=>rfl) (fun _ _=>rfl) (fun _ hid=>by simp[bj0]at hid)
 |rv y e sz n rs=>
  simp only[bT7,aI5]at hr;subst hr
  exact hb.mono (fun _ x=>x) (fun _ _=>rfl) (fun _ _=>rfl) (fun _ hid=>by simp[bj0]at hid)
theorem ed7 (hE:∀i j,look h i=some j->E' j=E i){x:Value}{b c:G3}(hb:bd9 w S E' x c)(hr:bT7 h b=some c):bd9 w S E x b:=by
 cases b with
 |box l=>
  simp only[bT7]at hr
  split at hr<;>try(cases hr;done)
  rename_i r hl
  simp only[aI5]at hr;subst hr
  obtain⟨β,vs,elem,h1,h2,h3,h4,h5⟩:=hb
  have:=bs2 hE (l:=l) (vs:=vs) ⟨h3,h4⟩ hl
  exact⟨β,vs,elem,h1,h2,this.1,this.2,h5⟩
 |rows e sz n rs=>
  simp only[bT7,aI5]at hr;subst hr
  exact hb.mono (fun _ x=>x) (fun _ _=>rfl) (fun _ _=>rfl) (fun _ hid=>by simp[bj0]at hid)
 |mp es=>
  simp only[bT7,aI5]at hr;subst hr
  exact hb.mono (fun _ x=>x) (fun _ _=>rfl) (fun _ _=>rfl) (fun _ hid=>by simp[bj0]at hid)
 |rv y e sz n rs=>
  simp only[bT7,aI5]at hr;subst hr
  exact hb.mono (fun _ x=>x) (fun _ _=>rfl) (fun _ _=>rfl) (fun _ hid=>by simp[bj0]at hid)
end
structure ci2 (w:World)(S:Nat->Prop)(E:Nat->Value)(hp:List (Nat×G3)):Prop where
 blk:∀id b,look hp id=some b->bd9 w S E (E id) b
 own:∀id b β,look hp id=some b->R7 (E id)=some β->¬S β/\β<w.heap.size
 at6:∀id id' b b' β,look hp id=some b->look hp id'=some b'->R7 (E id)=some β->R7 (E id')=some β->id=id'
def aD6 (hp:List (Nat×G3))(E:Nat->Value)(β:Nat):Prop:=∃id b,look hp id=some b/\R7 (E id)=some β
def bh4 {ρ:Type}(P:Program)(n:FuncId)(args:List T)(hp:List (Nat×G3))(m:Option ρ)(res:ρ->T)(Z4:ρ->List (Nat×G3)):Prop:=
 (∀vs w,(callFunc n vs).run P w= .ok (.enter n vs) w)/\
 ∀r,m=some r->∀(w:World) (S:Nat->Prop) (E:Nat->Value) (vs:List Value),(∀b,S b->b<w.heap.size)->ci2 w S E hp->RVL w S E vs args->
  Calls P n vs.toArray w fun e w'=>∃v S' E',e= .returned v/\RV w' S' E' v (res r)/\aW6 (aD6 hp E) w w'/\(∀b,S' b->b<w'.heap.size)/\(∀b,S' b->S b\/aD6 hp E b\/w.heap.size<=b)/\
   ci2 w' S' E' (Z4 r)/\(∀β,aD6 (Z4 r) E' β->aD6 hp E β\/w.heap.size<=β)/\(∀id,big<=id->E' id=E id)
theorem ci2.ok {w:World}{S:Nat->Prop}{E:Nat->Value}{hp:List (Nat×G3)}(h:ci2 w S E hp)(hS:∀b,S b->b<w.heap.size):Ok w ⟨fun _=>True,fun _=>True,E⟩ 0 ⟨[],hp⟩ S E ⟨#[],[]⟩ w where
 keep:=aW6.refl _ _
 aG9:=hS
 base:=fun _ _=>.inl trivial
 size:=rfl
 defers:=rfl
 tm:=fun k t ht=>by simp[look]at ht
 hp:=h.blk
 own:=fun id b β hb hβ=>⟨(h.own id b β hb hβ).1,(h.own id b β hb hβ).2,.inr trivial⟩
 at6:=h.at6
 pin:=fun _ _=>rfl
theorem bh4.toF {ρ:Type}{P:Program}{n:FuncId}{args:List T}{m:Option ρ}{res res':ρ->T}{Z4:ρ->List (Nat×G3)}(h:bh4 P n args [] m res Z4)(hz:∀r,bb3 (Z4 r) (res r)=some (res' r)):aQ7 P n args m res':=by
 refine⟨h.1,fun r hr w S E vs hS hv=>(h.2 r hr w S E vs hS ⟨fun id b hb=>by simp[look]at hb,fun id b β hb=>by simp[look]at hb,fun id id' b b' β hb=>by simp[look]at hb⟩ hv).mono fun e w' ⟨v,S',E',he,hv',hk,h1,h2,hO,h3,_⟩=>?_⟩
 have nl:∀β,¬aD6 [] E β:=fun β ⟨id,b,hb,_⟩=>by simp[look]at hb
 refine⟨v,fun b=>S' b\/bk9 (Z4 r) E' b,he,dk6 (hO.ok h1) (fun _ x=>.inl x) (fun _ x=>.inr x) hv' (hz r) E,⟨hk.os,hk.tape,hk.output,hk.size,fun k hk' _=>hk.block k hk' (nl k),hk.drawn⟩,fun b hb=>?_,fun b hb=>?_⟩
 ·rcases hb with hb|⟨id,_,hl,hβ⟩
  ·exact h1 b hb
  ·exact(hO.own id _ b hl hβ).2
 ·rcases hb with hb|⟨id,_,hl,hβ⟩
  ·rcases h2 b hb with h4|h4|h4
   ·exact .inl h4
   ·exact absurd h4 (nl b)
   ·exact .inr h4
  ·rcases h3 b ⟨id,_,hl,hβ⟩with h4|h4
   ·exact absurd h4 (nl b)
   ·exact .inr h4
end Go.Pv
namespace Go.Pv
open Go.RowKit
def bb8:List Nat->Bool
 |[]=>true
 |x::r=>!(r.any (bM1 x))&&bb8 r
def rev:List (Nat×Nat)->Nat->Option Nat
 |[],_=>none
 |(a,b)::r,c=>bif bM1 b c then some a else rev r c
theorem any_beq {l:List Nat}{x:Nat}(h:l.any (bM1 x)=false):x∉l:=by
 intro hx
 rw[ds5]at h
 exact h x hx (ca7 x)
theorem bm9 {α:Type}:∀{l:List (Nat×α)}{i:Nat}{x:α},look l i=some x->(i,x)∈l
 |[],i,x,h=>by simp[look]at h
 |(a,b)::r,i,x,h=>by
  simp only[look]at h
  by_cases hi:a=i
  ·subst hi;simp only[ca7,fj8,aI5]at h;subst h;exact bx8 ..
  ·simp only[C5 hi,fj6]at h;exact bF8 _ (bm9 h)
theorem bE7:∀{h:List (Nat×Nat)}{i j:Nat},bb8 (h.map (·.2))=true->look h i=some j->rev h j=some i
 |[],i,j,_,hl=>by simp[look]at hl
 |(a,b)::r,i,j,hn,hl=>by
  simp only[cS3,bb8,aJ5,bO4]at hn
  simp only[look]at hl
  by_cases hi:a=i
  ·subst hi;simp only[ca7,fj8,aI5]at hl;subst hl;simp[rev]
  ·simp only[C5 hi,fj6]at hl
   have hne:b≠j:=fun e=>any_beq hn.1 (e▸cX4.2 ⟨(i,j),bm9 hl,rfl⟩)
   simp only[rev,C5 hne,fj6]
   exact bE7 hn.2 hl
theorem dz3:∀{h:List (Nat×Nat)}{c:Nat},c∉h.map (·.2)->rev h c=none
 |[],c,_=>rfl
 |(a,b)::r,c,hc=>by
  simp only[cS3,ch6,not_or]at hc
  simp only[rev,C5 (Ne.symm hc.1),fj6]
  exact dz3 hc.2
theorem cH6:∀{h:List (Nat×Nat)}{c a:Nat},rev h c=some a->(a,c)∈h
 |[],c,a,hr=>by simp[rev]at hr
 |(x,y)::r,c,a,hr=>by
  simp only[rev]at hr
  by_cases hy:y=c
  ·subst hy;simp only[ca7,fj8,aI5]at hr;subst hr;exact bx8 ..
  ·simp only[C5 hy,fj6]at hr;exact bF8 _ (cH6 hr)
theorem aR8 {α:Type}:∀(l m:List (Nat×α)) (i:Nat),look (l++m) i=match look l i with|some x=>some x|none=>look m i
 |[],m,i=>rfl
 |(a,b)::r,m,i=>by
  simp only[dC8,look]
  by_cases hi:a=i
  ·subst hi;simp
  ·simp only[C5 hi,fj6];exact aR8 r m i
theorem nodup_append:∀{l m:List Nat},bb8 (l++m)=true->bb8 l=true/\bb8 m=true/\∀x,x∈l->x∉m
 |[],m,h=>⟨rfl,h,fun x hx=>by simp at hx⟩
 |a::r,m,h=>by
  simp only[dC8,bb8,aJ5,bO4,List.any_append,Bool.or_eq_false_iff]at h
  obtain⟨h1,h2,h3⟩:=nodup_append h.2
  refine⟨by simp[bb8,h.1.1,h1],h2,fun x hx=>?_⟩
  rcases ch6.1 hx with rfl|hx
  ·exact any_beq h.1.2
  ·exact h3 x hx
def aS4 (h:List (Nat×Nat)):List (Nat×G3)->Option (List (Nat×G3))
 |[]=>some []
 |(i,b)::r=>match look h i,bT7 h b,aS4 h r with|some j,some c,some l=>some ((j,c)::l)|_,_,_=>none
def cS9 (h:List (Nat×Nat)):List (Nat×T)->Option (List (Nat×T))
 |[]=>some []
 |(k,t)::r=>match aM7 h t,cS9 h r with|some u,some l=>some ((k,u)::l)|_,_=>none
theorem bj8 {h:List (Nat×Nat)}:∀{hp Z4:List (Nat×G3)},aS4 h hp=some Z4->∀{c:Nat}{b':G3},look Z4 c=some b'->∃i b,look hp i=some b/\look h i=some c/\bT7 h b=some b'
 |[],Z4,hr,c,b',hl=>by simp only[aS4,aI5]at hr;subst hr;simp[look]at hl
 |(i,b)::r,Z4,hr,c,b',hl=>by
  simp only[aS4]at hr
  split at hr<;>try(cases hr;done)
  rename_i j b1 l hj hb hl'
  simp only[aI5]at hr;subst hr
  simp only[look]at hl
  by_cases hc:j=c
  ·subst hc
   simp only[ca7,fj8,aI5]at hl;subst hl
   exact⟨i,b,by simp[look],hj,hb⟩
  ·simp only[C5 hc,fj6]at hl
   obtain⟨i',b2,h1,h2,h3⟩:=bj8 hl' hl
   refine⟨i',b2,?_,h2,h3⟩
   have hne:i≠i':=by intro e;subst e;rw[hj]at h2;exact hc (cp9 h2)
   simp only[look,C5 hne,fj6]
   exact h1
theorem bs1 {h:List (Nat×Nat)}:∀{hp Z4:List (Nat×G3)},aS4 h hp=some Z4->∀{i:Nat}{b:G3},look hp i=some b->∃j b',look h i=some j/\bT7 h b=some b'/\(j,b')∈Z4
 |[],Z4,hr,i,b,hl=>by simp[look]at hl
 |(i0,b0)::r,Z4,hr,i,b,hl=>by
  simp only[aS4]at hr
  split at hr<;>try(cases hr;done)
  rename_i j b1 l hj hb hl'
  simp only[aI5]at hr;subst hr
  simp only[look]at hl
  by_cases hi:i0=i
  ·subst hi
   simp only[ca7,fj8,aI5]at hl;subst hl
   exact⟨j,b1,hj,hb,bx8 ..⟩
  ·simp only[C5 hi,fj6]at hl
   obtain⟨j',b2,h1,h2,h3⟩:=bs1 hl' hl
   exact⟨j',b2,h1,h2,bF8 _ h3⟩
theorem cT0 {h:List (Nat×Nat)}:∀{tm tm':List (Nat×T)},cS9 h tm=some tm'->∀{k:Nat}{u:T},look tm' k=some u->∃t,look tm k=some t/\aM7 h t=some u
 |[],tm',hr,k,u,hl=>by simp only[cS9,aI5]at hr;subst hr;simp[look]at hl
 |(k0,t0)::r,tm',hr,k,u,hl=>by
  simp only[cS9]at hr
  split at hr<;>try(cases hr;done)
  rename_i u1 l hu hl'
  simp only[aI5]at hr;subst hr
  simp only[look]at hl
  by_cases hk:k0=k
  ·subst hk
   simp only[ca7,fj8,aI5]at hl;subst hl
   exact⟨t0,by simp[look],hu⟩
  ·simp only[C5 hk,fj6]at hl
   obtain⟨t,h1,h2⟩:=cT0 hl' hl
   exact⟨t,by simp only[look,C5 hk,fj6];exact h1,h2⟩
def cB7 (h:List (Nat×Nat)):Bool:=bb8 (h.map (·.2))&&h.all (fun p=>bd5 p.2 big||bM1 p.1 p.2)
theorem Ok.ren {w0:World}{L:Lim}{nt:Nat}{tm tm':List (Nat×T)}{hp Z4:List (Nat×G3)}{S:Nat->Prop}{E:Nat->Value}{a:Act}{w:World}(k:Ok w0 L nt ⟨tm,hp⟩ S E a w)(h:List (Nat×Nat))(ho:cB7 h=true)
  (ht:cS9 h tm=some tm') (hh:aS4 h hp=some Z4):∃E',Ok w0 L nt ⟨tm',Z4⟩ S E' a w:=by
 simp only[cB7,aJ5,bN8]at ho
 let E':Nat->Value:=fun c=>match rev h c with|some s=>E s|none=>E c
 have hE:∀i j,look h i=some j->E' j=E i:=fun i j hl=>by simp[E',bE7 ho.1 hl]
 refine⟨E',{keep:=k.keep,aG9:=k.aG9,base:=k.base,size:=k.size,defers:=k.defers,tm:=fun n u hl=>?_,hp:=fun c b hl=>?_,own:=fun c b β hl hβ=>?_,at6:=fun c c' b b' β hl hl' hβ hβ'=>?_,pin:=fun id hid=>?_}⟩
 ·obtain⟨t,h1,h2⟩:=cT0 ht hl
  exact co6 hE (k.tm n t h1) h2
 ·obtain⟨i,b0,h1,h2,h3⟩:=bj8 hh hl
  rw[hE i c h2]
  exact dn6 hE (k.hp i b0 h1) h3
 ·obtain⟨i,b0,h1,h2,h3⟩:=bj8 hh hl
  rw[hE i c h2]at hβ
  exact k.own i b0 β h1 hβ
 ·obtain⟨i,b0,h1,h2,h3⟩:=bj8 hh hl
  obtain⟨i',b0',h1',h2',h3'⟩:=bj8 hh hl'
  rw[hE i c h2]at hβ
  rw[hE i' c' h2']at hβ'
  have:=k.at6 i i' b0 b0' β h1 h1' hβ hβ'
  subst this
  rw[h2]at h2'
  exact cp9 h2'
 ·simp only[E']
  split
  ·rename_i s hs
   have:=ho.2 _ (cH6 hs)
   simp only[cG1]at this
   rcases this with h1|h1
   ·have:=bd4 h1;omega
   ·have:=bp9 h1;subst this;exact k.pin _ hid
  ·exact k.pin id hid
def bD3 (tm:List (Nat×T))(o:Oper):Option (Nat×List T):=
 match o.op with
 | .call ⟨.value f,args,_⟩=>match val tm f,bx5 tm args.toList with
  |some (.fz n aQ2),some l=>some (n,l++aQ2.map .el)
  |some (.clo n c),some l=>some (n,l++c)
  |_,_=>none
 |_=>none
theorem dr2 {P:Program}{w0:World}{L:Lim}{nt:Nat}{σ:St}{S:Nat->Prop}{E:Nat->Value}{a:Act}{w:World}(h:Ok w0 L nt σ S E a w){o:Oper}{n:Nat}{l:List T}(ho:bD3 σ.tm o=some (n,l))(hn:∀vs w,(callFunc n vs).run P w= .ok (.enter n vs) w):
  ∃vs:List Value,(execOp a.eval o).run P w= .ok (.enter n vs.toArray) w/\RVL w S E vs l:=by
 obtain⟨dst,op,type,pos,aft,guard⟩:=o
 unfold bD3 at ho
 split at ho<;>try(cases ho;done)
 rename_i f args tys hop
 simp only at hop
 subst hop
 have fin:∀(ps:List Value) (aQ2:List T) (l':List T),a.eval f= .func (.func n) #[] ps.toArray->RVL w S E ps aQ2->bx5 σ.tm args.toList=some l'->l=l'++aQ2->
   ∃vs:List Value,(execOp a.eval ⟨dst,.call ⟨.value f,args,tys⟩,type,pos,aft,guard⟩).run P w= .ok (.enter n vs.toArray) w/\RVL w S E vs l:=by
  intro ps aQ2 l' hx hps hl e
  subst e
  refine⟨args.toList.map a.eval++ps,?_,(cq2 h _ _ hl).append hps⟩
  have:(args.map a.eval)=(args.toList.map a.eval).toArray:=Array.ext' (by simp)
  simp only[execOp,resolve,bk5,hx,Deferred.ofValue,bO3,ba5,invoke]
  rw[hn]
  simp[this]
 split at ho<;>try(cases ho;done)
 ·rename_i n' cz0 l' hf hl
  simp only[aI5,aX4]at ho
  obtain⟨rfl,rfl⟩:=ho
  have hfv:=h.val hf
  generalize hx:a.eval f=x at hfv
  cases hfv with
  |fz _ ps _ hpl hp=>
   exact fin ps (cz0.map .el) l' hx ⟨by simpa using hpl,fun j h1 h2=>by simp only[dw3];exact(hp j h1 (by simpa using h2)).rv⟩ hl rfl
 ·rename_i n' c l' hf hl
  simp only[aI5,aX4]at ho
  obtain⟨rfl,rfl⟩:=ho
  have hfv:=h.val hf
  generalize hx:a.eval f=x at hfv
  cases hfv with
  |clo _ ps _ hpl hp=>exact fin ps c l' hx ⟨hpl,hp⟩ hl rfl
def ep8 (c:Nat)(l:List (Nat×Nat)):Bool:=l.any fun p=>bM1 p.2 c
def aq0 (lm:List (Nat×Nat)):List (Nat×G3)->List (Nat×G3)
 |[]=>[]
 |(i,b)::r=>match ep8 i lm with|true=>aq0 lm r|false=>(i,b)::aq0 lm r
theorem bI4 {lm:List (Nat×Nat)}:∀{hp:List (Nat×G3)}{i:Nat}{b:G3},look (aq0 lm hp) i=some b->look hp i=some b/\i∉lm.map (·.2)
 |[],i,b,h=>by simp[aq0,look]at h
 |(j,c)::r,i,b,h=>by
  simp only[aq0]at h
  cases hm:ep8 j lm<;>simp only[hm]at h
  ·simp only[look]at h
   by_cases hj:j=i
   ·subst hj
    simp only[ca7,fj8,aI5]at h;subst h
    refine⟨by simp[look],fun hx=>?_⟩
    obtain⟨p,hp,he⟩:=cX4.1 hx
    unfold ep8 at hm
    rw[ds5]at hm
    exact hm p hp (by simp[he])
   ·simp only[C5 hj,fj6]at h
    have:=bI4 h
    exact⟨by simp only[look,C5 hj,fj6];exact this.1,this.2⟩
  ·have:=bI4 h
   refine⟨?_,this.2⟩
   by_cases hj:j=i
   ·subst hj
    exfalso
    unfold ep8 at hm
    rw[List.any_eq_true]at hm
    obtain⟨p,hp,he⟩:=hm
    exact this.2 (cX4.2 ⟨p,hp,bp9 he⟩)
   ·simp only[look,C5 hj,fj6];exact this.1
def bp1 (lm nm:List (Nat×Nat))(tm:List (Nat×T))(hp:List (Nat×G3)):Bool:=
 bb8 ((lm++nm).map (·.2))&&lm.all (fun p=>dO2 big p.1)&&nm.all (fun p=>bd5 p.2 big&&M9 p.2 tm&&M0 p.2 hp)
theorem Ok.called {w0:World}{L:Lim}{nt:Nat}{tm:List (Nat×T)}{hp chp bI1 aO2 rhp:List (Nat×G3)}{S S':Nat->Prop}{E E':Nat->Value}{a:Act}{w w':World}(k:Ok w0 L nt ⟨tm,hp⟩ S E a w){lm nm:List (Nat×Nat)}{v:Value}{t u:T}
  (hm:bp1 lm nm tm hp=true) (hr:aS4 lm chp=some aO2) (bS6:aO2.map (bE4 hp)=aO2.map (fun p=>some p.2)) {Ec:Nat->Value} (hEc:∀i j,look lm i=some j->Ec i=E j)
  (hv:RV w' S' E' v t) (aL3:aW6 (aD6 chp Ec) w w') (h1:∀b,S' b->b<w'.heap.size) (h2:∀b,S' b->S b\/aD6 chp Ec b\/w.heap.size<=b)
  (hO:ci2 w' S' E' bI1) (h3:∀β,aD6 bI1 E' β->aD6 chp Ec β\/w.heap.size<=β) (h4:∀id,big<=id->E' id=Ec id)
  (dl2:aM7 (lm++nm) t=some u) (hrhp:aS4 (lm++nm) bI1=some rhp):
  ∃S2 E2,Ok w0 L nt ⟨tm,rhp++aq0 lm hp⟩ S2 E2 a w'/\RV w' S2 E2 v u:=by
 simp only[bp1,aJ5,bN8]at hm
 obtain⟨⟨hnd,aM0⟩,hfr⟩:=hm
 rw[eC3]at hnd
 obtain⟨nd1,nd2,ndx⟩:=nodup_append hnd
 have cf1:∀p∈aO2,∃b',look hp p.1=some b'/\cn1 b' p.2=p.2:=by
  intro p Z4
  obtain⟨n,hn,rfl⟩:=cY8.1 Z4
  have:(aO2.map (bE4 hp))[n]? =(aO2.map (fun p=>some p.2))[n]?:=by rw[bS6]
  rw[cG5,cG5,aK2 hn]at this
  simp only[ca8,aI5]at this
  unfold bE4 at this
  split at this
  ·rename_i b' hb';exact⟨b',hb',cp9 this⟩
  ·cases this
 have bJ5:∀β,aD6 chp Ec β->∃i j b',look lm i=some j/\look hp j=some b'/\R7 (E j)=some β:=by
  rintro β ⟨i,b,hb,hβ⟩
  obtain⟨j,b',e1,e2,e3⟩:=bs1 hr hb
  obtain⟨b0,e4,_⟩:=cf1 _ e3
  exact⟨i,j,b0,e1,e4,by rw[<-hEc i j e1];exact hβ⟩
 have cm6:∀β,aD6 chp Ec β->¬S β/\β<w.heap.size/\(w0.heap.size<=β\/L.bJ5 β):=fun β hl=>by
  obtain⟨i,j,b',_,e2,e3⟩:=bJ5 β hl
  exact k.own j b' β e2 e3
 have tgt:∀{i j:Nat},look lm i=some j->j∈lm.map (·.2):=fun h=>cX4.2 ⟨_,bm9 h,rfl⟩
 have hS:∀b,S b->w'.heap[b]? =w.heap[b]?:=fun b hb=>aL3.block b (k.aG9 b hb) (fun hl=>(cm6 b hl).1 hb)
 have hsz:=aL3.size
 have hsz0:=k.keep.size
 let E2:Nat->Value:=fun c=>match rev nm c with|some s=>E' s|none=>E c
 have cM9:∀c,c∉nm.map (·.2)->E2 c=E c:=fun c hc=>by simp[E2,dz3 hc]
 have cH2:∀c,c∈nm.map (·.2)->c<big/\M9 c tm=true/\M0 c hp=true:=fun c hc=>by
  obtain⟨p,Z4,rfl⟩:=cX4.1 hc
  obtain⟨⟨f1,f2⟩,f3⟩:=by simpa using hfr p Z4
  exact⟨by simpa using f1,f2,f3⟩
 have hE2:∀i j,look (lm++nm) i=some j->E2 j=E' i:=by
  intro i j hl
  rw[aR8]at hl
  cases hli:look lm i with
  |some j'=>
   simp only[hli,aI5]at hl
   subst hl
   rw[cM9 j' (ndx j' (tgt hli)),h4 i (bd4 (aM0 _ (bm9 hli))),hEc i j' hli]
  |none=>
   simp only[hli]at hl
   simp[E2,bE7 nd2 hl]
 refine⟨fun b=>S b\/S' b,E2,?_,(co6 hE2 hv dl2).mono (fun _ x=>.inr x) (fun _ _=>rfl) (fun _ _=>rfl)⟩
 have nameTm:∀n x,look tm n=some x->∀id,names id x=true->E2 id=E id:=fun n x hx id hid=>cM9 id fun hc=>by
  have:=bc6 (cH2 id hc).2.1 n x hx;rw[this]at hid;cases hid
 have dP1:∀{c b},look rhp c=some b->∃i b0,look bI1 i=some b0/\look (lm++nm) i=some c/\bT7 (lm++nm) b0=some b:=fun h=>bj8 hrhp h
 have du5:∀{c b},look (aq0 lm hp) c=some b->look hp c=some b/\c∉lm.map (·.2)/\E2 c=E c:=fun{c b} h=>by
  have:=bI4 h
  exact⟨this.1,this.2,cM9 c fun hc=>(aA4 (cH2 c hc).2.2 c b this.1).1 rfl⟩
 have blkA:∀{c b β},look rhp c=some b->R7 (E2 c)=some β->aD6 bI1 E' β/\¬S' β/\β<w'.heap.size:=fun{c b β} h hβ=>by
  obtain⟨i,b0,e1,e2,e3⟩:=dP1 h
  rw[hE2 i c e2]at hβ
  exact⟨⟨i,b0,e1,hβ⟩,hO.own i b0 β e1 hβ⟩
 have dm4:∀{c b β},look hp c=some b->c∉lm.map (·.2)->R7 (E c)=some β->¬aD6 chp Ec β:=fun{c b β} h hc hβ hl=>by
  obtain⟨i,j,b',e1,e2,e3⟩:=bJ5 β hl
  have:=k.at6 c j b b' β h e2 hβ e3
  subst this
  exact hc (tgt e1)
 exact{
  keep:=k.keep.trans aL3 (fun x hx=>(cm6 x hx).2.2.symm)
  aG9:=fun b hb=>hb.elim (fun h=>dD3 (k.aG9 b h) hsz) (h1 b)
  base:=fun b hb=>by
   rcases hb with hb|hb
   ·exact k.base b hb
   ·rcases h2 b hb with h5|h5|h5
    ·exact k.base b h5
    ·exact .inr ((cm6 b h5).2.2.symm)
    ·exact .inr (.inr (Nat.le_trans hsz0 h5))
  size:=k.size
  defers:=k.defers
  tm:=fun n x hx=>(k.tm n x hx).mono (fun _ x=>.inl x) hS (nameTm n x hx)
  hp:=fun c b hl=>by
   simp only at hl
   rw[aR8]at hl
   cases hA:look rhp c with
   |some b0=>
    simp only[hA,aI5]at hl
    subst hl
    obtain⟨i,b1,e1,e2,e3⟩:=dP1 hA
    rw[hE2 i c e2]
    exact(dn6 hE2 (hO.blk i b1 e1) e3).mono (fun _ x=>.inr x) (fun _ _=>rfl) (fun _ _=>rfl) (fun _ _=>rfl)
   |none=>
    simp only[hA]at hl
    obtain⟨e1,e2,e3⟩:=du5 hl
    rw[e3]
    exact(k.hp c b e1).mono (fun _ x=>.inl x) hS (fun β hβ=>aL3.block β (k.own c b β e1 hβ).2.1 (dm4 e1 e2 hβ)) fun id hid=>cM9 id fun hc=>by
     have:=(aA4 (cH2 id hc).2.2 c b e1).2;rw[this]at hid;cases hid
  own:=fun c b β hl hβ=>by
   simp only at hl
   rw[aR8]at hl
   cases hA:look rhp c with
   |some b0=>
    obtain⟨e1,e2,e3⟩:=blkA hA hβ
    rcases h3 β e1 with h5|h5
    ·exact⟨fun hx=>hx.elim (cm6 β h5).1 e2,e3,(cm6 β h5).2.2⟩
    ·exact⟨fun hx=>hx.elim (fun h6=>absurd (k.aG9 β h6) (ff7.2 h5)) e2,e3,.inl (Nat.le_trans hsz0 h5)⟩
   |none=>
    simp only[hA]at hl
    obtain⟨e1,e2,e3⟩:=du5 hl
    rw[e3]at hβ
    have:=k.own c b β e1 hβ
    refine⟨fun hx=>hx.elim this.1 fun h6=>?_,dD3 this.2.1 hsz,this.2.2⟩
    rcases h2 β h6 with h7|h7|h7
    ·exact this.1 h7
    ·exact dm4 e1 e2 hβ h7
    ·exact absurd this.2.1 (ff7.2 h7)
  at6:=fun c c' b b' β hl hl' hβ hβ'=>by
   simp only at hl hl'
   rw[aR8]at hl hl'
   have cz2:∀{c c' b b'},look rhp c=some b->look (aq0 lm hp) c'=some b'->R7 (E2 c)=some β->R7 (E2 c')=some β->False:=fun{c c' b b'} hA hB q1 q2=>by
    obtain⟨e1,e2,e3⟩:=blkA hA q1
    obtain⟨f1,f2,f3⟩:=du5 hB
    rw[f3]at q2
    rcases h3 β e1 with h5|h5
    ·exact dm4 f1 f2 q2 h5
    ·exact absurd (k.own c' b' β f1 q2).2.1 (ff7.2 h5)
   cases hA:look rhp c with
   |some b0=>
    cases hA':look rhp c' with
    |some b0'=>
     obtain⟨i,b1,e1,e2,e3⟩:=dP1 hA
     obtain⟨i',b1',e1',e2',e3'⟩:=dP1 hA'
     rw[hE2 i c e2]at hβ
     rw[hE2 i' c' e2']at hβ'
     have:=hO.at6 i i' b1 b1' β e1 e1' hβ hβ'
     subst this
     rw[e2]at e2'
     exact cp9 e2'
    |none=>
     simp only[hA']at hl'
     exact(cz2 hA hl' hβ hβ').elim
   |none=>
    simp only[hA]at hl
    cases hA':look rhp c' with
    |some b0'=>exact(cz2 hA' hl hβ' hβ).elim
    |none=>
     simp only[hA']at hl'
     obtain⟨e1,_,e3⟩:=du5 hl
     obtain⟨e1',_,e3'⟩:=du5 hl'
     rw[e3]at hβ
     rw[e3']at hβ'
     exact k.at6 c c' b b' β e1 e1' hβ hβ'
  pin:=fun id hid=>by
   rw[cM9 id fun hc=>by have:=(cH2 id hc).1;omega]
   exact k.pin id hid}
section
variable {ρ τ:Type} {X:Cx} {ks:List K} {tm tm':List (Nat × T)} {hp Z4:List (Nat × G3)} {m:Option ρ} {Q:ρ -> Exit -> St -> Prop}
theorem aa5.ren {e':Exit}(h:List (Nat×Nat))(ho:cB7 h=true)(ht:cS9 h tm=some tm')(hh:aS4 h hp=some Z4)(k:aa5 X ks e' ⟨tm',Z4⟩ m Q):aa5 X ks e' ⟨tm,hp⟩ m Q:=fun r hr a w ⟨S,E,hw⟩=>by
 obtain⟨E',h'⟩:=hw.ren h ho ht hh
 exact k r hr a w ⟨S,E',h'⟩
end
theorem cA9 {α:Type}:∀{h:List (Nat×α)}{a:Nat}{b:α},bb8 (h.map (·.1))=true->(a,b)∈h->look h a=some b
 |[],a,b,_,hm=>by simp at hm
 |(x,y)::r,a,b,hn,hm=>by
  simp only[cS3,bb8,aJ5,bO4]at hn
  rcases ch6.1 hm with h1|h1
  ·simp only[aX4]at h1;obtain⟨rfl,rfl⟩:=h1;simp[look]
  ·have hne:x≠a:=fun e=>any_beq hn.1 (e▸cX4.2 ⟨(a,b),h1,rfl⟩)
   simp only[look,C5 hne,fj6]
   exact cA9 hn.2 h1
def eB9 (C4:Tab)(σ:St)(l:List ResultVar):Option T:=
 match bl1 C4 σ l with
 |some [x]=>some x
 |some l=>some (.P9 l)
 |none=>none
theorem eC0 {P : Program} {C4 : Tab} (K4 : aW1 P C4) {σ : St} {w0 : World} {L : Lim} {nt : Nat} {S : Nat -> Prop} {E : Nat -> Value} {a : Act} {w : World} (h : Ok w0 L nt σ S E a w) {fn : Func} {t : T}
    (hr : eB9 C4 σ fn.results.toList = some t) : ∃ v, (results fn a.tmps).run P w = .ok v w /\ RV w S E v t := by
  unfold eB9 at hr
  cases hl : bl1 C4 σ fn.results.toList with
  | none => simp [hl] at hr
  | some l =>
    obtain ⟨vs, h1, h2⟩ := bK6 K4 h _ _ hl
    have hm : (fn.results.mapM (cg2 a.tmps)).run P w = .ok vs.toArray w := by
      rw [Array.mapM_eq_mapM_toList, Sem.run_map, h1]; rfl
    have bf6 : (results fn a.tmps).run P w = .ok (if h : vs.toArray.size = 1 then vs.toArray[0] else .tuple vs.toArray) w := by
      show (do let vs <- fn.results.mapM (cg2 a.tmps); pure (if h : vs.size = 1 then vs[0] else .tuple vs) : Sem Value).run P w = _
      rw [bk5, hm]
      rfl
    refine ⟨_, bf6, ?_⟩
    rw [hl] at hr
    have hlen := h2.1
    match l, hr, hlen with
    | [x], hr, hlen =>
      match vs, hlen, h2 with
      | [v], _, h2 =>
        simp only [aI5] at hr
        subst hr
        exact h2.2 0 (fg4) (fg4)
    | [], hr, hlen =>
      simp only [aI5] at hr
      subst hr
      match vs, hlen with
      | [], _ => exact .P9 [] [] rfl fun j h1 => by simp at h1
    | x :: y :: l, hr, hlen =>
      simp only [aI5] at hr
      subst hr
      have hsz : ¬ vs.toArray.size = 1 := by simp at hlen |-; omega
      rw [dif_neg hsz]
      exact .P9 vs _ h2.1 h2.2
def eB8 (nm:List (Nat×Nat))(hp:List (Nat×G3))(p:Nat×G3):Option G3:=
 match rev nm p.1 with
 |some s=>match look hp s with
  |some b=>match bT7 nm b with
   |some c=>some (cn1 c p.2)
   |none=>none
  |none=>none
 |none=>none
def eM8 (C4:Tab)(σ:St)(rs:List ResultVar)(t:T)(bl:List (Nat×G3)):Prop:=
 ∃(nm:List (Nat×Nat)) (t0 t1:T),(cB7 nm&&bb8 (nm.map (·.1)))=true/\eB9 C4 σ rs=some t0/\aM7 nm t0=some t1/\mrg t1 t=t/\bl.map (eB8 nm σ.hp)=bl.map (fun p=>some p.2)
theorem bh4.intro {τ:Type}{P:Program}{C4:Tab}(K4:aW1 P C4){n:Nat}{fn:Func}{c:Code}{args:List T}{hp:List (Nat×G3)}{m:Option τ}{res:τ->T}{Z4:τ->List (Nat×G3)}(nt:Nat)(rs:List ResultVar)
  (aL2:∀vs w,(callFunc n vs).run P w= .ok (.enter n vs) w) (hf:P.funcs[n]? =some fn) (hb:fn.body=some c) (hnt:fn.ntmps=nt) (hrs:fn.results.toList=rs) (hsz:args.length<=nt)
  (body:∀(w0:World) (L:Lim),E4 ⟨P,C4,K4,w0,L,nt⟩ [.c c] ⟨number 0 args,hp⟩ m (fun r e σ'=>(e= .ret\/e= .normal)/\eM8 C4 σ' rs (res r) (Z4 r))):bh4 P n args hp m res Z4:=by
 refine⟨aL2,fun r hr w S E vs hS hO hv=>?_⟩
 refine calls_of_wp hf hb ?_
 have h:=body w ⟨aD6 hp E,S,E⟩ r hr ⟨vs.toArray++fg1 (fn.ntmps-vs.toArray.size) undef,[]⟩ w ⟨S,E,{
  keep:=aW6.refl _ _,aG9:=hS,base:=fun b hb=>.inl hb,size:=by have:=hv.1;simp;omega,defers:=rfl,
  tm:=fun k t ht=>by
   obtain⟨_,hk⟩:=bT1 args 0 k t ht
   simp only[Nat.sub_zero]at hk
   obtain⟨hlt,rfl⟩:=bt7.1 hk
   have dv0:k<vs.length:=by have:=hv.1;omega
   have:=hv.2 k dv0 hlt
   simpa[Array.getElem?_append,dv0]using this
  hp:=hO.blk
  own:=fun id b β hb hβ=>⟨(hO.own id b β hb hβ).1,(hO.own id b β hb hβ).2,.inr ⟨id,b,hb,hβ⟩⟩
  at6:=hO.at6
  pin:=fun _ _=>rfl}⟩
 refine wp_mono h fun e a' w' ⟨σ',⟨S',E1,hk⟩,he,nm,t0,t1,hok,ht0,ht1,hmr,hbl⟩=>?_
 rw[<-hrs]at ht0
 obtain⟨v,hv1,hv2⟩:=eC0 K4 hk ht0
 simp only[aJ5,cB7,bN8]at hok
 obtain⟨⟨hnd,hbg⟩,hkeys⟩:=hok
 let E2:Nat->Value:=fun c=>match rev nm c with|some s=>E1 s|none=>E1 c
 have hE:∀i j,look nm i=some j->E2 j=E1 i:=fun i j hl=>by simp[E2,bE7 hnd hl]
 have cf1:∀id b,look (Z4 r) id=some b->∃s b0 c,rev nm id=some s/\look nm s=some id/\look σ'.hp s=some b0/\bT7 nm b0=some c/\cn1 c b=b:=by
  intro id b hl
  obtain⟨n,hn,hx⟩:=cY8.1 (bm9 hl)
  have:((Z4 r).map (eB8 nm σ'.hp))[n]? =((Z4 r).map (fun p=>some p.2))[n]?:=by rw[hbl]
  rw[cG5,cG5,aK2 hn,hx]at this
  simp only[ca8,aI5]at this
  unfold eB8 at this
  split at this<;>try(cases this;done)
  rename_i s hs
  split at this<;>try(cases this;done)
  rename_i b0 hb0
  split at this<;>try(cases this;done)
  rename_i c hc
  exact⟨s,b0,c,hs,cA9 hkeys (cH6 hs),hb0,hc,cp9 this⟩
 have fin:a'.defers=[]/\∃v,(results fn a'.tmps).run P w'= .ok v w'/\∃v' S'' E'',Ending.returned v= .returned v'/\RV w' S'' E'' v' (res r)/\aW6 (aD6 hp E) w w'/\(∀b,S'' b->b<w'.heap.size)/\(∀b,S'' b->S b\/aD6 hp E b\/w.heap.size<=b)/\
   ci2 w' S'' E'' (Z4 r)/\(∀β,aD6 (Z4 r) E'' β->aD6 hp E β\/w.heap.size<=β)/\(∀id,big<=id->E'' id=E id):=by
  refine⟨hk.defers,v,hv1,v,S',E2,rfl,?_,hk.keep,hk.aG9,fun b hb=>hk.base b hb,⟨fun id b hl=>?_,fun id b β hl hβ=>?_,fun id id' b b' β hl hl' hβ hβ'=>?_⟩,fun β hl=>?_,fun id hid=>?_⟩
  ·have:=dJ0 (u:=res r) (co6 hE hv2 ht1)
   rw[hmr]at this
   exact this
  ·obtain⟨s,b0,c,e1,e2,e3,e4,e5⟩:=cf1 id b hl
   have:=dm0 (u:=b) (dn6 hE (hk.hp s b0 e3) e4)
   rw[e5]at this
   rw[hE s id e2]
   exact this
  ·obtain⟨s,b0,c,e1,e2,e3,e4,e5⟩:=cf1 id b hl
   rw[hE s id e2]at hβ
   have:=hk.own s b0 β e3 hβ
   exact⟨this.1,this.2.1⟩
  ·obtain⟨s,b0,c,e1,e2,e3,e4,e5⟩:=cf1 id b hl
   obtain⟨s',b0',c',e1',e2',e3',e4',e5'⟩:=cf1 id' b' hl'
   rw[hE s id e2]at hβ
   rw[hE s' id' e2']at hβ'
   have:=hk.at6 s s' b0 b0' β e3 e3' hβ hβ'
   subst this
   rw[e2]at e2'
   exact cp9 e2'
  ·obtain⟨id,b,hl,hβ⟩:=hl
   obtain⟨s,b0,c,e1,e2,e3,e4,e5⟩:=cf1 id b hl
   rw[hE s id e2]at hβ
   exact(hk.own s b0 β e3 hβ).2.2.symm
  ·simp only[E2]
   split
   ·rename_i s hs
    have:=hbg _ (cH6 hs)
    simp only[cG1]at this
    rcases this with h1|h1
    ·have:=bd4 h1;omega
    ·have:=bp9 h1;subst this;exact hk.pin _ hid
   ·exact hk.pin id hid
 rcases he with rfl|rfl<;>exact fin
def bK8 (id:Nat):List Nat->T->Option T
 |[],.t (.v (.slice none 0 0))=>some (.own id)
 |i::p,.agg l=>match l[i]?with
  |some x=>match bK8 id p x with
   |some y=>some (.agg (l.set i y))
   |none=>none
  |none=>none
 |i::p,.P9 l=>match l[i]?with
  |some x=>match bK8 id p x with
   |some y=>some (.P9 (l.set i y))
   |none=>none
  |none=>none
 |_,_=>none
theorem RVL.set {w:World}{S:Nat->Prop}{E:Nat->Value}{vs:List Value}{l:List T}{i:Nat}{y:T}(h:RVL w S E vs l)(hi:i<vs.length)(hy:RV w S E (vs[i]) y):RVL w S E vs (l.set i y):=by
 refine⟨by simp[h.1],fun j h1 h2=>?_⟩
 rw[eX6]
 split
 ·rename_i e;subst e;exact hy
 ·exact h.2 j h1 (by simpa using h2)
theorem bX5 {w:World}{S:Nat->Prop}{E:Nat->Value}{id:Nat}(hE:E id= .slice none 0 0):∀{p:List Nat}{t u:T}{v:Value},RV w S E v t->bK8 id p t=some u->RV w S E v u
 |[],t,u,v,hv,hs=>by
  unfold bK8 at hs
  split at hs<;>try(cases hs;done)
  ·simp only[aI5]at hs;subst hs
   have:=hv.tv
   subst this
   exact .own id _ hE
  ·rename_i heq;cases heq
  ·rename_i heq;cases heq
 |i::p,t,u,v,hv,hs=>by
  unfold bK8 at hs
  split at hs
  ·rename_i heq;cases heq
  ·rename_i i' p' l heq
   cases heq
   split at hs<;>try(cases hs;done)
   rename_i x hx
   split at hs<;>try(cases hs;done)
   rename_i y hy
   simp only[aI5]at hs;subst hs
   obtain⟨hi,rfl⟩:=bt7.1 hx
   cases hv with
   |agg vs _ hl hr=>
    have:=RVL.set (w:=w) (S:=S) (E:=E) (vs:=vs) (l:=l) ⟨hl,hr⟩ (by omega) (bX5 hE (hr i (by omega) hi) hy)
    exact .agg vs _ this.1 this.2
  ·rename_i i' p' l heq
   cases heq
   split at hs<;>try(cases hs;done)
   rename_i x hx
   split at hs<;>try(cases hs;done)
   rename_i y hy
   simp only[aI5]at hs;subst hs
   obtain⟨hi,rfl⟩:=bt7.1 hx
   cases hv with
   |P9 vs _ hl hr=>
    have:=RVL.set (w:=w) (S:=S) (E:=E) (vs:=vs) (l:=l) ⟨hl,hr⟩ (by omega) (bX5 hE (hr i (by omega) hi) hy)
    exact .P9 vs _ this.1 this.2
  ·cases hs
theorem Ok.eF5 {w0:World}{L:Lim}{nt:Nat}{tm:List (Nat×T)}{hp:List (Nat×G3)}{S:Nat->Prop}{E:Nat->Value}{a:Act}{w:World}(h:Ok w0 L nt ⟨tm,hp⟩ S E a w){id e sz:Nat}(aM0:bd5 id big=true)(hft:M9 id tm=true)(hfb:M0 id hp=true):
  ∃E',E' id= .slice none 0 0/\Ok w0 L nt ⟨tm,(id,.rows e sz 0 [])::hp⟩ S E' a w:=
 h.cS8 (v:=.slice none 0 0) (v':=.slice none 0 0) (b:=.rows e sz 0 []) aM0 hft hfb (fun β hβ=>by simp[R7]at hβ) (fun i blk β _ h1=>by simp[R7]at h1)
  (aW6.refl _ w) (fun β hβ=>by simp[R7]at hβ) (fun E'=>⟨rfl,.inl ⟨rfl,rfl⟩⟩)
section
variable {ρ τ:Type} {X:Cx} {ks:List K} {tm tm':List (Nat × T)} {hp Z4:List (Nat × G3)} {m:Option ρ} {Q:ρ -> Exit -> St -> Prop}
theorem aa5.eF5 {e':Exit}(k id e sz:Nat)(path:List Nat){t u:T}(hk:look tm k=some t)(hu:bK8 id path t=some u)(aM0:bd5 id big=true)(hft:M9 id tm=true)(hfb:M0 id hp=true)
  (h:aa5 X ks e' ⟨(k,u)::tm,(id,.rows e sz 0 [])::hp⟩ m Q):aa5 X ks e' ⟨tm,hp⟩ m Q:=fun r hr a w ⟨S,E,hw⟩=>by
 obtain⟨E',hE,hok⟩:=hw.eF5 (e:=e) (sz:=sz) aM0 hft hfb
 refine h r hr a w ⟨S,E',{hok with tm:=fun j t' ht=>?_}⟩
 simp only[look]at ht
 by_cases hj:k=j
 ·subst hj
  simp only[ca7,fj8,aI5]at ht
  subst ht
  exact bX5 hE (hok.tm k t hk) hu
 ·simp only[C5 hj,fj6]at ht
  exact hok.tm j t' ht
theorem aa5.fi9 {e':Exit}(b id e sz:Nat)(path:List Nat){ts us:List T}(hk:look hp b=some (.box ts))(hu:bK8 id path (.agg ts)=some (.agg us))(aM0:bd5 id big=true)(hft:M9 id tm=true)(hfb:M0 id hp=true)
  (h:aa5 X ks e' ⟨tm,(id,.rows e sz 0 [])::at7 hp b (.box us)⟩ m Q):aa5 X ks e' ⟨tm,hp⟩ m Q:=fun r hr a w ⟨S,E,hw⟩=>by
 obtain⟨E',hE,hok⟩:=hw.eF5 (e:=e) (sz:=sz) aM0 hft hfb
 have hne:id≠b:=fun e=>(aA4 hfb b _ hk).1 e.symm
 have lk:∀i blk,look ((id,G3.rows e sz 0 [])::at7 hp b (.box us)) i=some blk->∃di3,look ((id,G3.rows e sz 0 [])::hp) i=some di3/\(blk=di3\/(i=b/\blk= .box us)):=by
  intro i blk hl
  simp only[look]at hl|-
  by_cases hi:id=i
  ·subst hi;simp only[ca7,fj8]at hl|-;exact⟨blk,hl,.inl rfl⟩
  ·simp only[C5 hi,fj6]at hl|-
   rw[aE8]at hl
   by_cases hb:b=i
   ·subst hb;simp only[if_true,hk,ca8,aI5]at hl;exact⟨_,hk,.inr ⟨rfl,hl.symm⟩⟩
   ·simp only[hb,if_false]at hl;exact⟨blk,hl,.inl rfl⟩
 refine h r hr a w ⟨S,E',{hok with
  hp:=fun i blk hl=>?_
  own:=fun i blk β hl hβ=>by obtain⟨di3,h0,_⟩:=lk i blk hl;exact hok.own i di3 β h0 hβ
  at6:=fun i i' blk cs3 β hl hl' hβ hβ'=>by
   obtain⟨di3,h0,_⟩:=lk i blk hl
   obtain⟨blk0',h0',_⟩:=lk i' cs3 hl'
   exact hok.at6 i i' di3 blk0' β h0 h0' hβ hβ'}⟩
 obtain⟨di3,h0,h1⟩:=lk i blk hl
 have hb0:=hok.hp i di3 h0
 rcases h1 with rfl|⟨rfl,rfl⟩
 ·exact hb0
 ·have:di3= .box ts:=by
   simp only[look,C5 hne,fj6]at h0
   rw[hk]at h0;exact(cp9 h0).symm
  subst this
  obtain⟨β,vs,elem,g1,g2,g3,g4,g5⟩:=hb0
  have:=bX5 (w:=w) (S:=S) (p:=path) hE (.agg vs ts g3 g4) hu
  generalize hvs:Value.agg vs.toArray=v at this
  cases this with
  |agg vs' _ k1 k2=>
   simp only[Value.agg.injEq]at hvs
   have:vs=vs':=by simpa using congrArg Array.toList hvs
   subst this
   exact⟨β,vs,elem,g1,g2,k1,k2,g5⟩
end
mutual
def elT (id:Nat)(c:List Tree):T->T
 | .ptr i off=>bif bM1 i id then .el (c.drop off)else .ptr i off
 | .agg l=>.agg (elL id c l)
 | .P9 l=>.P9 (elL id c l)
 | .clo f l=>.clo f (elL id c l)
 |x=>x
def elL (id:Nat)(c:List Tree):List T->List T
 |[]=>[]
 |x::r=>elT id c x::elL id c r
end
def dW6 (id:Nat)(c:List Tree):List (Nat×T)->List (Nat×T)
 |[]=>[]
 |(k,x)::r=>(k,elT id c x)::dW6 id c r
def cu9 (id:Nat)(c:List Tree):List (Nat×G3)->List (Nat×G3)
 |[]=>[]
 |(k,.box l)::r=>bif bM1 k id then cu9 id c r else(k,.box (elL id c l))::cu9 id c r
 |(k,x)::r=>bif bM1 k id then cu9 id c r else(k,x)::cu9 id c r
section
variable {w:World} {S S':Nat -> Prop} {E:Nat -> Value} {id:Nat} {c:List Tree}
mutual
theorem el7 (hS:∀b,S b->S' b)(hu:∀β off,E id= .pointer (some ⟨β,0,none⟩)->PF w S' (.pointer (some ⟨β,off,none⟩)) (c.drop off)):∀{t:T}{v:Value},RV w S E v t->RV w S' E v (elT id c t)
 | .t x,v,h=>by simp only[elT];exact h.mono hS (fun _ _=>rfl) (fun _ _=>rfl)
 | .el c,v,h=>by simp only[elT];exact h.mono hS (fun _ _=>rfl) (fun _ _=>rfl)
 | .own i,v,h=>by simp only[elT];exact h.mono hS (fun _ _=>rfl) (fun _ _=>rfl)
 | .pe i a b c,v,h=>by simp only[elT];exact h.mono hS (fun _ _=>rfl) (fun _ _=>rfl)
 | .vw i a b c,v,h=>by simp only[elT];exact h.mono hS (fun _ _=>rfl) (fun _ _=>rfl)
 | .fz n c,v,h=>by simp only[elT];exact h.mono hS (fun _ _=>rfl) (fun _ _=>rfl)
 | .any,v,h=>by simp only[elT];exact .any v
 | .ptr i off,v,h=>by
  simp only[elT]
  by_cases hi:i=id
  ·subst hi
   simp only[ca7,fj8]
   cases h with|ptr _ _ β hE=>exact(hu β off hE).rv
  ·simp only[C5 hi,fj6];exact h.mono hS (fun _ _=>rfl) (fun _ _=>rfl)
 | .agg l,v,h=>by
  simp only[elT]
  cases h with|agg vs _ hl hr=>have:=cN1 hS hu (l:=l) (vs:=vs) ⟨hl,hr⟩;exact .agg vs _ this.1 this.2
 | .P9 l,v,h=>by
  simp only[elT]
  cases h with|P9 vs _ hl hr=>have:=cN1 hS hu (l:=l) (vs:=vs) ⟨hl,hr⟩;exact .P9 vs _ this.1 this.2
 | .clo f l,v,h=>by
  simp only[elT]
  cases h with|clo _ vs _ hl hr=>have:=cN1 hS hu (l:=l) (vs:=vs) ⟨hl,hr⟩;exact .clo f vs _ this.1 this.2
theorem cN1 (hS:∀b,S b->S' b)(hu:∀β off,E id= .pointer (some ⟨β,0,none⟩)->PF w S' (.pointer (some ⟨β,off,none⟩)) (c.drop off)):∀{l:List T}{vs:List Value},RVL w S E vs l->RVL w S' E vs (elL id c l)
 |[],vs,h=>⟨h.1,fun j _ h2=>by simp[elL]at h2⟩
 |x::l,vs,h=>by
  cases vs with
  |nil=>have:=h.1;simp at this
  |cons v vs=>
   have h1:=el7 hS hu (t:=x) (h.2 0 (by simp) (by simp))
   have h2:=cN1 hS hu (l:=l) (vs:=vs) ⟨by simpa using h.1,fun j a b=>h.2 (j+1) (by simpa using a) (by simpa using b)⟩
   refine⟨by simp[elL,h2.1],fun j a b=>?_⟩
   cases j with
   |zero=>exact h1
   |succ j=>exact h2.2 j (by simpa using a) (by simpa[elL]using b)
end
end
theorem dc1 (id:Nat)(c:List Tree):∀(l:List (Nat×T)) (k:Nat),look (dW6 id c l) k=(look l k).map (elT id c)
 |[],k=>rfl
 |(j,x)::r,k=>by
  simp only[dW6,look]
  by_cases hj:j=k
  ·subst hj;simp
  ·simp[C5 hj,dc1 id c r k]
theorem aE6 (id:Nat)(c:List Tree):∀(l:List (Nat×G3)) (k:Nat) (b:G3),look (cu9 id c l) k=some b->k≠id/\∃b0,look l k=some b0/\(match b0 with| .box ts=>b= .box (elL id c ts)|x=>b=x)
 |[],k,b,h=>by simp[cu9,look]at h
 |(j,.box ts)::r,k,b,h=>by
  simp only[cu9]at h
  by_cases hj:j=id
  ·subst hj
   simp only[ca7,fj8]at h
   obtain⟨h1,b0,h2,h3⟩:=aE6 j c r k b h
   exact⟨h1,b0,by simp only[look,C5 (Ne.symm h1),fj6];exact h2,h3⟩
  ·simp only[C5 hj,fj6,look]at h
   by_cases hk:j=k
   ·subst hk
    simp only[ca7,fj8,aI5]at h
    exact⟨hj,.box ts,by simp[look],h.symm⟩
   ·simp only[C5 hk,fj6]at h
    obtain⟨h1,b0,h2,h3⟩:=aE6 id c r k b h
    exact⟨h1,b0,by simp only[look,C5 hk,fj6];exact h2,h3⟩
 |(j,.rows e sz n rs)::r,k,b,h=>by
  simp only[cu9]at h
  by_cases hj:j=id
  ·subst hj
   simp only[ca7,fj8]at h
   obtain⟨h1,b0,h2,h3⟩:=aE6 j c r k b h
   exact⟨h1,b0,by simp only[look,C5 (Ne.symm h1),fj6];exact h2,h3⟩
  ·simp only[C5 hj,fj6,look]at h
   by_cases hk:j=k
   ·subst hk
    simp only[ca7,fj8,aI5]at h
    subst h
    exact⟨hj,.rows e sz n rs,by simp[look],rfl⟩
   ·simp only[C5 hk,fj6]at h
    obtain⟨h1,b0,h2,h3⟩:=aE6 id c r k b h
    exact⟨h1,b0,by simp only[look,C5 hk,fj6];exact h2,h3⟩
 |(j,.mp es)::r,k,b,h=>by
  simp only[cu9]at h
  by_cases hj:j=id
  ·subst hj
   simp only[ca7,fj8]at h
   obtain⟨h1,b0,h2,h3⟩:=aE6 j c r k b h
   exact⟨h1,b0,by simp only[look,C5 (Ne.symm h1),fj6];exact h2,h3⟩
  ·simp only[C5 hj,fj6,look]at h
   by_cases hk:j=k
   ·subst hk
    simp only[ca7,fj8,aI5]at h
    subst h
    exact⟨hj,.mp es,by simp[look],rfl⟩
   ·simp only[C5 hk,fj6]at h
    obtain⟨h1,b0,h2,h3⟩:=aE6 id c r k b h
    exact⟨h1,b0,by simp only[look,C5 hk,fj6];exact h2,h3⟩
 |(j,.rv y e sz n rs)::r,k,b,h=>by
  simp only[cu9]at h
  by_cases hj:j=id
  ·subst hj
   simp only[ca7,fj8]at h
   obtain⟨h1,b0,h2,h3⟩:=aE6 j c r k b h
   exact⟨h1,b0,by simp only[look,C5 (Ne.symm h1),fj6];exact h2,h3⟩
  ·simp only[C5 hj,fj6,look]at h
   by_cases hk:j=k
   ·subst hk
    simp only[ca7,fj8,aI5]at h
    subst h
    exact⟨hj,.rv y e sz n rs,by simp[look],rfl⟩
   ·simp only[C5 hk,fj6]at h
    obtain⟨h1,b0,h2,h3⟩:=aE6 id c r k b h
    exact⟨h1,b0,by simp only[look,C5 hk,fj6];exact h2,h3⟩
theorem Ok.dH2 {w0:World}{L:Lim}{nt:Nat}{tm:List (Nat×T)}{hp:List (Nat×G3)}{S:Nat->Prop}{E:Nat->Value}{a:Act}{w:World}(hk:Ok w0 L nt ⟨tm,hp⟩ S E a w)(id:Nat){ts:List T}{c:List Tree}(hb:look hp id=some (.box ts))(hc:trees ts=some c):
  ∃S',Ok w0 L nt ⟨dW6 id c tm,cu9 id c hp⟩ S' E a w:=by
 let S':Nat->Prop:=fun b=>S b\/R7 (E id)=some b
 have hS:∀b,S b->S' b:=fun _ x=>.inl x
 obtain⟨β,vs,elem,hE,hh,hl,hr,h1⟩:=hk.hp id _ hb
 have hβ:R7 (E id)=some β:=by rw[hE];rfl
 have htr:=cq1 hc
 have hlen:ts.length=c.length:=by have:=congrArg fc1 htr;simpa using this
 have hu:∀β' off,E id= .pointer (some ⟨β',0,none⟩)->PF w S' (.pointer (some ⟨β',off,none⟩)) (c.drop off):=by
  intro β' off hE'
  rw[hE]at hE'
  cases hE'
  refine⟨β,off,fun j=>vs.getD (off+j) undef,rfl,.inr hβ,fun j hj=>?_,fun j hj=>?_⟩
  ·simp only[dh0]at hj
   rw[cell_of_row w β _ _ elem _ hh]
   have:off+j<vs.length:=by omega
   simp[this]
  ·simp only[dh0]at hj
   have h3:off+j<vs.length:=by omega
   have h4:=dm3 (hr (off+j) h3 (by omega))
   have h5:cQ6 (ts[off+j]'(by omega))=T.t (c[off+j]'(by omega)):=by
    have h6:(ts.map cQ6)[off+j]? =(c.map T.t)[off+j]?:=by rw[htr]
    rw[cG5,cG5,aK2 (by omega),aK2 (by omega)]at h6
    simpa using h6
   rw[h5]at h4
   simp only[cW2,aK2 h3,ez0,ex7]
   exact h4.eM0.mono hS (fun _ _=>rfl)
 refine⟨S',{keep:=hk.keep,size:=hk.size,defers:=hk.defers,pin:=hk.pin,aG9:=fun b hb'=>?_,base:=fun b hb'=>?_,tm:=fun k t ht=>?_,hp:=fun i b hi=>?_,own:=fun i b β' hi hβ'=>?_,at6:=fun i i' b b' β' q1 q2 hβ1 hβ2=>?_}⟩
 ·rcases hb' with h2|h2
  ·exact hk.aG9 b h2
  ·exact(hk.own id _ b hb h2).2.1
 ·rcases hb' with h2|h2
  ·exact hk.base b h2
  ·rcases(hk.own id _ b hb h2).2.2 with h3|h3
   ·exact .inr (.inr h3)
   ·exact .inr (.inl h3)
 ·simp only at ht
  rw[dc1]at ht
  cases hl':look tm k with
  |none=>simp[hl']at ht
  |some t0=>simp only[hl',ca8,aI5]at ht;subst ht;exact el7 hS hu (hk.tm k t0 hl')
 ·obtain⟨hne,b0,hb0,hm⟩:=aE6 _ _ _ _ _ hi
  have hk0:=hk.hp i b0 hb0
  cases b0 with
  |box ts'=>
   simp only at hm
   subst hm
   obtain⟨β',vs',elem',g1,g2,g3,g4,g5⟩:=hk0
   have:=cN1 hS hu (l:=ts') (vs:=vs') ⟨g3,g4⟩
   exact⟨β',vs',elem',g1,g2,this.1,this.2,g5⟩
  |rows e' sz' n' rs'=>
   simp only at hm
   subst hm
   exact hk0.mono hS (fun _ _=>rfl) (fun _ _=>rfl) (fun _ _=>rfl)
  |mp es=>
   simp only at hm
   subst hm
   exact hk0.mono hS (fun _ _=>rfl) (fun _ _=>rfl) (fun _ _=>rfl)
  |rv y e sz n rs=>
   simp only at hm
   subst hm
   exact hk0.mono hS (fun _ _=>rfl) (fun _ _=>rfl) (fun _ _=>rfl)
 ·obtain⟨hne,b0,hb0,_⟩:=aE6 _ _ _ _ _ hi
  have:=hk.own i b0 β' hb0 hβ'
  exact⟨fun hx=>hx.elim this.1 (fun hx=>hne (hk.at6 i id b0 _ β' hb0 hb hβ' hx)),this.2⟩
 ·obtain⟨_,d,hd,_⟩:=aE6 _ _ _ _ _ q1
  obtain⟨_,d',hd',_⟩:=aE6 _ _ _ _ _ q2
  exact hk.at6 i i' d d' β' hd hd' hβ1 hβ2
section
variable {ρ τ:Type} {X:Cx} {ks:List K} {tm tm':List (Nat × T)} {hp Z4:List (Nat × G3)} {m:Option ρ} {Q:ρ -> Exit -> St -> Prop}
theorem aa5.dH2 {e':Exit}(id:Nat){ts:List T}{c:List Tree}(hb:look hp id=some (.box ts))(hc:trees ts=some c)(h:aa5 X ks e' ⟨dW6 id c tm,cu9 id c hp⟩ m Q):aa5 X ks e' ⟨tm,hp⟩ m Q:=
 fun r hr a w ⟨S,E,hw⟩=>by
  obtain⟨S',hk⟩:=hw.dH2 id hb hc
  exact h r hr a w ⟨S',E,hk⟩
end
end Go.Pv
namespace Go.Pv
open Go.RowKit
def aS0 {α:Type}(n:Int)(z:α):Option (List α):=if 0<=n/\n<=1073741824 then some (cr2 n.toNat z)else none
def aJ2 {α:Type}(l r:List α):List α:=r.take l.length++l.drop r.length
def ay4 {α:Type}(l:List α)(lo hi:Int):Option (List α):=if 0<=lo/\lo<=hi/\hi<=l.length then some ((l.drop lo.toNat).take (hi.toNat-lo.toNat))else none
def am4 {α:Type}(l:List α)(i:Int)(y:α):Option (List α):=if 0<=i/\i<l.length then some (l.set i.toNat y)else none
theorem eu2 {α:Type}{l l':List α}{i:Int}{y:α}(h:am4 l i y=some l'):D4 l' i=some y:=by
 unfold am4 at h
 split at h
 ·rename_i hi
  simp only[aI5]at h
  subst h
  unfold D4
  rw[if_pos hi.1,List.getElem?_set_self (by omega)]
 ·cases h
section
variable {P:Program} {w0:World} {L:Lim} {nt:Nat} {tm:List (Nat × T)} {hp:List (Nat × G3)} {S:Nat -> Prop} {E:Nat -> Value} {a:Act} {w:World}
theorem Ok.make (h:Ok w0 L nt ⟨tm,hp⟩ S E a w){id t e n:Nat}{ti:TI}{c:List Tree}(aM0:bd5 id big=true)(hf:M9 id tm=true)(hb:M0 id hp=true)(ht:P.underlying t=some (.slice e))(hte:bh3 P e ti)(hz:ti.zero.length=ti.size)(bJ2:0<ti.size)
  (hc:c=ti.zero.map fun v=>aE1 (.v v)) (cF1:n<=1073741824) (kl kc:IntKind):
  ∃v' w' E',(Instr.makeSlice t (.int kl n) (.int kc n)).run P w= .ok v' w'/\E' id=v'/\Ok w0 L nt ⟨tm,(id,.rows e ti.size n (cr2 n c))::hp⟩ S E' a w':=by
 obtain⟨i,d,hi,hs,_,_,⟨z,hzz,hzc⟩,hby⟩:=hte
 have hcl:c.length=ti.size:=by rw[hc,cr4,hz]
 have cv4:(i.bytes:Int)*(n:Int)<=281474976710656:=by
  have:=Nat.mul_le_mul hby cF1
  have h2:((i.bytes*n:Nat):Int)<=((65536*1073741824:Nat):Int):=by exact_mod_cast this
  rw[Int.natCast_mul]at h2
  omega
 have hr:=run_make (P:=P) w t e i z ht hi hzz kl kc n n (by omega) (do8 _) cv4 (by omega)
 simp only[eJ5]at hr
 have hzs:z.cells.size=ti.size:=by rw[<-hz,<-hzc];simp
 have cX6:∀k (hk:k<n*i.size),(madeCells z.cells (n*i.size))[k]'(by rw[size_madeCells];exact hk)=ti.zero[k%ti.size]'(by rw[hz];exact eL1 _ bJ2):=by
  intro k hk
  have hm:k%z.cells.size<z.cells.size:=eL1 _ (by omega)
  simp only[madeCells,Array.getElem_map,Array.getElem_range]
  rw[getElem!_pos z.cells _ hm]
  have:z.cells[k%z.cells.size]=z.cells.toList[k%z.cells.size]'(by simpa using hm):=by simp
  rw[this]
  simp only[hzc,hzs]
 obtain⟨E',hE,_,hok⟩:=h.alloc (o:=.cells (madeCells z.cells (n*i.size)) e) (x:=.slice (some ⟨w.heap.size,0,none⟩) n n) (b:=.rows e ti.size n (cr2 n c)) aM0 hf hb rfl (fun E' hE'=>by
  refine⟨by simp,.inr ⟨w.heap.size,n,(madeCells z.cells (n*i.size)).toList,by unfold maxLen;omega,by simp,by rw[heap_alloc_new],?_,by simp,?_,?_⟩⟩
  ·rw[ff9,size_madeCells,hs]
  ·intro r hr;rw[(List.mem_replicate.1 hr).2];exact hcl
  ·intro i' j hi' hj hb'
   have hi2:i'<n:=by simpa using hi'
   simp only[eR1]at hj|-
   have hj2:j<ti.size:=by rw[<-hcl];exact hj
   have hlt:i'*ti.size+j<n*i.size:=by rw[ff9,size_madeCells]at hb';exact hb'
   have e1:(madeCells z.cells (n*i.size)).toList[i'*ti.size+j]=ti.zero[j]'(by rw[hz];exact hj2):=by
    rw[ff6,cX6 _ hlt]
    have:(i'*ti.size+j)%ti.size=j:=by rw[eg2,fg3,fa2 hj2]
    simp only[this]
   rw[e1]
   have e2:c[j]=aE1 (.v (ti.zero[j]'(by rw[hz];exact hj2))):=by subst hc;simp
   rw[e2]
   exact bb7 (.v _))
 exact⟨_,_,E',hr,hE,hok⟩
theorem Ok.copy (h:Ok w0 L nt ⟨tm,hp⟩ S E a w){id e e' n m t t2 ty:Nat}{ti:TI}{x:Value}{rs r2:List (List Tree)}(hb:look hp id=some (.rows e ti.size n rs))(ht:P.underlying t=some (.slice e'))(hte:bh3 P e' ti)
  (hx:Src w S x m ti.size r2) (h2:∀r∈r2,r.length=ti.size):
  ∃w',(Builtin.copy_ #[t,t2] ty #[E id,x]).run P w= .ok (.int .i64 (min m n:Nat)) w'/\Ok w0 L nt ⟨tm,at7 hp id (.rows e ti.size n (aJ2 rs r2))⟩ S E a w':=by
 obtain⟨hm,ad,c,rfl,cf3⟩:=hx
 obtain⟨hn,aM1⟩:=h.hp id _ hb
 obtain⟨i,d,hi,hs,_⟩:=hte
 have hcl:(aJ2 rs r2).length=rs.length:=by simp[aJ2];omega
 rcases aM1 with⟨hE,hr0⟩|⟨β,cap,cs,hcm,hE,hh,hcl2,hcc,hsz,hcr⟩
 ·subst hr0
  simp only[cr1]at hn
  subst hn
  have hf:(Builtin.firstCells i.size 0 (.slice ad m c)).run P w= .ok #[] w:=by cases ad<;>simp[Builtin.firstCells,loadCells,loadCellsFrom]
  have cf2:min m 0=0:=by omega
  refine⟨w,?_,?_⟩
  ·rw[hE]
   simp[Builtin.copy_,run_underlying ht,Builtin.lenOf,sizeOf,typeInfo,hi,hf,goInt]
  ·refine{h with
    hp:=fun k b hk=>?_
    own:=fun k b β hk hβ=>by
     simp only at hk
     rw[aE8]at hk
     by_cases e:id=k
     ·subst e;simp only[hE,R7]at hβ;cases hβ
     ·simp only[e,if_false]at hk;exact h.own k b β hk hβ
    at6:=fun k k' b b' β hk hk' hβ hβ'=>by
     simp only at hk hk'
     rw[aE8]at hk hk'
     by_cases e:id=k
     ·subst e;simp only[hE,R7]at hβ;cases hβ
     ·by_cases e2:id=k'
      ·subst e2;simp only[hE,R7]at hβ';cases hβ'
      ·simp only[e,e2,if_false]at hk hk';exact h.at6 k k' b b' β hk hk' hβ hβ'}
   simp only at hk
   rw[aE8]at hk
   by_cases e:id=k
   ·subst e
    simp only[if_true,hb,ca8,aI5]at hk
    subst hk
    exact⟨by simp[aJ2],.inl ⟨hE,by simp[aJ2]⟩⟩
   ·simp only[e,if_false]at hk;exact h.hp k b hk
 ·subst hn
  let q:=min m rs.length
  have hq:q=min m rs.length:=rfl
  have cm3:∃news:List Value,news.length=q*ti.size/\(Builtin.firstCells i.size q (.slice ad m c)).run P w= .ok news.toArray w/\(∀u∈news,u.oneCell'=true)/\
    ∀i j (hi:i<q) (hj:j<ti.size),∃(h1:i*ti.size+j<news.length) (h2:i<r2.length) (h3:j<(r2[i]).length),RT w S (news[i*ti.size+j]) ((r2[i])[j]):=by
   by_cases h0:0<m
   ·obtain⟨y,all,rfl,hal,hac,bg9,har⟩:=cf3 h0
    have hqm:q*ti.size<=m*ti.size:=cz8 _ (by omega)
    refine⟨all.take (q*ti.size),by rw[bE9,hal];omega,?_,fun u hu=>bg9 u (ey8 hu),fun i' j hi' hj=>?_⟩
    ·have:=run_loadCells_list (P:=P) w y (all.take (q*ti.size)) (fun j u hu=>by
      rw[dp2]at hu
      split at hu
      ·exact hac j u hu
      ·cases hu)
     rw[bE9,hal,eO4 hqm]at this
     simp[Builtin.firstCells,hs,this]
    ·have hi2:i'<r2.length:=by omega
     have hrl:=h2 _ (ba6 hi2)
     have hle:(i'+1)*ti.size<=q*ti.size:=cz8 _ hi'
     rw[dG8]at hle
     refine⟨by rw[bE9,hal];omega,hi2,by rw[hrl];exact hj,?_⟩
     rw[ec4]
     exact har i' j hi2 (by rw[hrl];exact hj) (by rw[hal];omega)
   ·have hm0:m=0:=by omega
    have hq0:q=0:=by omega
    refine⟨[],by rw[hq0];simp,?_,fun u hu=>by simp at hu,fun i' j hi' _=>by omega⟩
    rw[hq0]
    cases ad<;>simp[Builtin.firstCells,loadCells,loadCellsFrom]
  obtain⟨news,hnl,du9,bg9,hnr⟩:=cm3
  have hqr:q*ti.size<=cap*ti.size:=cz8 _ (by omega)
  have hst:=run_storeCells_at (P:=P) β 0 e news 0 cs.toArray w hh (by simp;rw[hnl,hcl2];exact hqr) bg9
  have bf6:(Builtin.copy_ #[t,t2] ty #[E id,.slice ad m c]).run P w= .ok (.int .i64 (q:Nat)) (w.setRow β (news++cs.drop news.length).toArray):=by
   rw[hE]
   have:Nat.min m rs.length=q:=rfl
   have hst':(storeCells ⟨β,0,none⟩ news).run P w= .ok () (w.setRow β (news++cs.drop news.length).toArray):=by simpa using hst
   simp[Builtin.copy_,run_underlying ht,Builtin.lenOf,sizeOf,typeInfo,hi,this,du9,goInt,hst']
  refine⟨_,bf6,h.setRow hb (by rw[hE];rfl) hh fun hS bN5=>⟨by rw[hcl],.inr ⟨β,cap,news++cs.drop news.length,hcm,by rw[hcl];exact hE,bN5,by simp;omega,by rw[hcl];exact hcc,?_,?_⟩⟩⟩
  ·intro r hr
   unfold aJ2 at hr
   rcases cI5.1 hr with hr|hr
   ·exact h2 r (ey8 hr)
   ·exact hsz r (eX1 hr)
  ·intro i' j hi' hj hb'
   have hi2:i'<rs.length:=by rw[<-hcl];exact hi'
   by_cases hiq:i'<q
   ·have hi3:i'<r2.length:=by omega
    have e1:(aJ2 rs r2)[i']=r2[i']:=by
     apply cp9
     rw[<-aK2,<-aK2]
     unfold aJ2
     rw[ee2 (by rw[bE9];omega),dp2,if_pos hi2]
    have hj2:j<ti.size:=by have:=h2 _ (ba6 hi3);rw[<-this];rw[e1]at hj;exact hj
    obtain⟨h5,_,h6,h7⟩:=hnr i' j hiq hj2
    simp only[e1]
    rw[cF5 h5]
    exact h7.mono (fun _ x=>x) hS
   ·have hm':m<=i':=by omega
    have e1:(aJ2 rs r2)[i']=rs[i']:=by
     apply cp9
     rw[<-aK2,<-aK2]
     unfold aJ2
     rw[dB7 (by rw[bE9];omega),bE9,eV5]
     congr 1
     omega
    have hj1:j<(rs[i']).length:=by rw[e1]at hj;exact hj
    have hle:q*ti.size<=i'*ti.size:=cz8 _ (by omega)
    have hb2:i'*ti.size+j<cs.length:=by simp only[aY1,dh0]at hb';omega
    have e2:(news++cs.drop news.length)[i'*ti.size+j]=cs[i'*ti.size+j]:=by
     apply cp9
     rw[<-aK2,<-aK2,dB7 (by omega),eV5]
     congr 1
     omega
    simp only[e1]
    rw[e2]
    exact(hcr i' j hi2 hj1 hb2).mono (fun _ x=>x) hS
end
def cw3 (tm:List (Nat×T))(d:Int):Option Operand->Option Int
 |none=>some d
 |some o=>match val tm o with|some (.t (.v (.int _ i)))=>some i|_=>none
section
variable {ρ α:Type} {X:Cx} {ks:List K} {tm tm':List (Nat × T)} {hp Z4:List (Nat × G3)} {m:Option ρ} {Q:ρ -> Exit -> St -> Prop} {all:Array Oper} {o:Oper} {rest:List Oper}
theorem B5.fc0 {t e d s0:Nat}{z0:List Value}{te:TI}{x:Operand}{ik:IntKind}{n:Int}{enc:α->List Tree}{k:List α->Option ρ}(id:Nat)(z:α)
  (ho:o.op= .makeSlice t x x) (hd:o.dst=some d) (hdn:bd5 d X.nt=true) (hg:ah9 all.toList tm o.guard=some true) (hx:val tm x=some (.t (.v (.int ik n))))
  (hty:look X.C4 t=some ⟨s0,.slice e,z0⟩) (hte:look X.C4 e=some te) (hz:te.zero.length=te.size) (bJ2:bd5 0 te.size=true) (az2:enc z=te.zero.map fun v=>aE1 (.v v)) (aM0:bd5 id big=true) (hft:M9 id tm=true) (hfb:M0 id hp=true)
  (h:∀y,aS0 n z=some y->B5 X all rest ks ⟨(d,.own id)::tm,(id,.rows e te.size y.length (y.map enc))::hp⟩ (k y) Q):
  B5 X all (o::rest) ks ⟨tm,hp⟩ ((aS0 n z).bind k) Q:=fun y hy a w ⟨S,E,hk⟩=>by
 cases hmk:aS0 n z with
 |none=>simp[hmk]at hy
 |some l=>
  have h0:=hmk
  unfold aS0 at h0
  split at h0<;>try(cases h0;done)
  rename_i hn
  simp only[aI5]at h0
  simp only[hmk,aH3]at hy
  obtain⟨dd,hu,ho2⟩:∃d,X.P.underlying t=some d/\TD.ok X.P (.slice e) d:=by
   obtain⟨i,d,_,_,hu,hdd,_⟩:=X.K4 t _ hty
   exact⟨d,hu,hdd⟩
  simp only[TD.ok]at ho2
  subst ho2
  obtain⟨j,rfl⟩:∃j:Nat,n=(j:Int):=⟨n.toNat,by omega⟩
  simp only[eJ5]at h0
  obtain⟨v',w',E',hr,hE,hok⟩:=hk.make (P:=X.P) (n:=j) (c:=enc z) aM0 hft hfb hu (X.K4 e _ hte) hz (bd4 bJ2) az2 (by omega) ik ik
  refine wpList_step fun K hK=>?_
  rw[S8 hk hg,if_pos rfl]
  unfold Oper.wp
  have aO0:(execOp a.eval o).run X.P w= .ok (.value v') w':=by
   unfold execOp
   simp only[ho,(hk.val hx).tv,bk5,hr,ba5,bO3]
  rw[aO0]
  refine hK _ _ (h l hmk y hy _ _ ⟨S,E',?_⟩)
  rw[hd]
  have e1:l.map enc=cr2 j (enc z):=by rw[<-h0];simp
  have e2:l.length=j:=by rw[<-h0];simp
  rw[e1,e2]
  exact hok.put (bd4 hdn) (.own id _ hE)
theorem B5.ek5 {t t2 e e' e2 n m2 s0 id:Nat}{z0:List Value}{te:TI}{s x:Operand}{l r:List α}{enc:α->List Tree}{σ₁:St}
  (ho:o.op= .call ⟨.builtin .copy,#[s,x],#[t,t2]⟩) (hg:ah9 all.toList tm o.guard=some true)
  (hty:look X.C4 t=some ⟨s0,.slice e',z0⟩) (hte:look X.C4 e'=some te) (az2:∀y,(enc y).length=te.size) (bg9:∀y,(enc y).all aQ0=true)
  (hs:val tm s=some (.own id)) (hb:look hp id=some (.rows e te.size n (l.map enc)))
  (hx:val tm x=some (.t (.sl m2 (r.map enc)))\/∃i2,val tm x=some (.own i2)/\look hp i2=some (.rows e2 te.size m2 (r.map enc)))
  (at7:bv5 X.nt o.dst (.t (.v (.int .i64 (min r.length l.length:Nat)))) ⟨tm,at7 hp id (.rows e te.size (aJ2 l r).length ((aJ2 l r).map enc))⟩=some σ₁)
  (h:B5 X all rest ks σ₁ m Q):B5 X all (o::rest) ks ⟨tm,hp⟩ m Q:=fun y hy a w ⟨S,E,hk⟩=>by
 obtain⟨dd,hu,ho2⟩:∃d,X.P.underlying t=some d/\TD.ok X.P (.slice e') d:=by
  obtain⟨i,d,_,_,hu,hdd,_⟩:=X.K4 t _ hty
  exact⟨d,hu,hdd⟩
 simp only[TD.ok]at ho2
 subst ho2
 have cf3:Src w S (a.eval x) r.length te.size (r.map enc):=by
  rcases hx with hx|⟨i2,hx,hb2⟩
  ·have hv:=hk.val hx
   generalize a.eval x=xv at hv
   cases hv with
   |t hv=>
    have:=cg3 hv (bW2 az2 r) (bG9 bg9 r)
    have hm:m2=r.length:=by simpa using this.1
    subst hm
    exact⟨by simp,this.2⟩
  ·have hv:=hk.val hx
   have hb:=hk.hp i2 _ hb2
   generalize a.eval x=xv at hv
   cases hv with
   |own _ _ hE=>
    subst hE
    have:=do2 hb (bG9 bg9 r)
    have hm:m2=r.length:=by simpa using this.1
    subst hm
    exact this
 have hn:n=l.length:=by have:=(hk.hp id _ hb).1;simpa using this
 have hsv:a.eval s=E id:=by
  have hv:=hk.val hs
  generalize a.eval s=sv at hv
  cases hv with|own _ _ hE=>exact hE.symm
 obtain⟨w',hr,hok⟩:=hk.copy (P:=X.P) (ty:=o.type) (t2:=t2) hb hu (X.K4 e' _ hte) cf3 (bW2 az2 r)
 refine wpList_step fun K hK=>?_
 rw[S8 hk hg,if_pos rfl]
 unfold Oper.wp
 have aO0:(execOp a.eval o).run X.P w= .ok (.value (.int .i64 (min r.length n:Nat))) w':=by
  unfold execOp
  simp only[ho,resolve,invoke,builtin,bk5,bO3,ba5,eY8,cS3,ek7,hsv,hr]
 rw[aO0]
 refine hK _ _ (h y hy _ _ ⟨S,E,?_⟩)
 have hcl:(aJ2 l r).length=l.length:=by simp[aJ2];omega
 have e1:aJ2 (l.map enc) (r.map enc)=(aJ2 l r).map enc:=by simp[aJ2,ff8,fh8]
 rw[e1]at hok
 rw[hcl,<-hn]at at7
 exact bz6 hok (.t (.v _)) at7
theorem bv9 {P:Program}{w:World}{lo hi:Option Value}{n c:Nat}{l h:Int}(hl:(lo=none/\l=0)\/∃k,lo=some (.int k l))(hh:(hi=none/\h=n)\/∃k,hi=some (.int k h))(h0:0<=l)(h1:l<=h)(h2:h<=c):
  (Instr.sliceBounds true n c lo hi none).run P w= .ok (l.toNat,h.toNat,c) w:=by
 have eh:(h.toNat:Int)=h:=Int.toNat_of_nonneg (by omega)
 rcases hl with⟨rfl,rfl⟩|⟨k,rfl⟩<;>rcases hh with⟨rfl,rfl⟩|⟨k',rfl⟩
 ·simp[Instr.sliceBounds]
 ·simp[Instr.sliceBounds,run_sliceBound,h1,h2]
 ·simp[Instr.sliceBounds,run_sliceBound,h0,h1]
 ·simp[Instr.sliceBounds,run_sliceBound,h0,h1,h2,eh,(by omega:0<=h)]
theorem bn0 {w0:World}{L:Lim}{nt:Nat}{S:Nat->Prop}{E:Nat->Value}{a:Act}{w:World}(hk:Ok w0 L nt ⟨tm,hp⟩ S E a w){x:Option Operand}{d i:Int}(h:cw3 tm d x=some i):(x.map a.eval=none/\i=d)\/∃k,x.map a.eval=some (.int k i):=by
 cases x with
 |none=>simp only[cw3,aI5]at h;exact .inl ⟨rfl,h.symm⟩
 |some x=>
  simp only[cw3]at h
  split at h<;>try(cases h;done)
  rename_i k i' hv
  simp only[aI5]at h
  subst h
  exact .inr ⟨k,by simp[(hk.val hv).tv]⟩
theorem B5.eu7 {t e d n s0:Nat}{z0:List Value}{te:TI}{x:Operand}{lo hi:Option Operand}{l:List α}{a b:Int}{enc:α->List Tree}{k:List α->Option ρ}
  (ho:o.op= .slice t x lo hi none) (hd:o.dst=some d) (hdn:bd5 d X.nt=true) (hg:ah9 all.toList tm o.guard=some true) (hx:val tm x=some (.t (.sl n (l.map enc))))
  (hty:look X.C4 t=some ⟨s0,.slice e,z0⟩) (hte:look X.C4 e=some te) (az2:∀y,(enc y).length=te.size) (hlo:cw3 tm 0 lo=some a) (hhi:cw3 tm l.length hi=some b)
  (h:∀y,ay4 l a b=some y->B5 X all rest ks ⟨(d,.t (.sl y.length (y.map enc)))::tm,hp⟩ (k y) Q):B5 X all (o::rest) ks ⟨tm,hp⟩ ((ay4 l a b).bind k) Q:=
 B5.one hd hdn hg (fun y=>.t (.sl y.length (y.map enc))) (fun y S E ac w hm hk=>by
  unfold ay4 at hm
  split at hm<;>try(cases hm;done)
  rename_i hb
  simp only[aI5]at hm
  obtain⟨h0,h1,h2⟩:=hb
  obtain⟨i,dd,hi',hs,hu,hdd,_⟩:=X.K4 t _ hty
  simp only[TD.ok]at hdd
  subst hdd
  have hsz:=(X.K4 e _ hte).aG5 w
  have hxv:=hk.val hx
  generalize hxe:ac.eval x=xv at hxv
  cases hxv with
  |t hxt=>
   have hn:n=l.length:=by
    generalize bz2:l.map enc=rows at hxt
    cases hxt with
    |slE=>have:=congrArg fc1 bz2;simpa using this.symm
    |sl=>subst bz2;simp
   have shape:∃ad c,xv= .slice ad n c/\n<=c:=by
    generalize l.map enc=rows at hxt
    cases hxt with
    |slE ad c=>exact⟨ad,c,rfl,Nat.zero_le _⟩
    |sl b o c sz rows vs bN4=>exact⟨_,c,rfl,bN4⟩
   obtain⟨ad,c,rfl,hnc⟩:=shape
   have hbd:=bv9 (P:=X.P) (w:=w) (n:=n) (c:=c) (bn0 hk hlo) (by rw[hn];exact bn0 hk hhi) h0 h1 (by omega)
   refine⟨_,by
    simp only[execOp,ho,Instr.sliceAt,bk5,run_underlying hu,ba5,Instr.slice,hxe,hbd,hsz,bO3,fb2]
    rfl,?_⟩
   have hyl:y.length=b.toNat-a.toNat:=by rw[<-hm];simp;omega
   by_cases hz:b.toNat-a.toNat=0
   ·have hy0:y=[]:=eq6 (by omega)
    subst hy0
    rw[hz]
    exact .t (.slE _ _)
   ·have hlt:a.toNat<l.length:=by omega
    generalize bz2:l.map enc=rows at hxt
    cases hxt with
    |slE=>have:=congrArg fc1 bz2;simp at this;subst this;simp at hlt
    |sl bk off _ sz _ vs bN4 hS hszr hc hr=>
     subst bz2
     have hne:¬c=a.toNat:=by simp at bN4;omega
     simp only[hne,if_false,ca8,aC3]
     have hszt:sz=te.size:=by
      have hm0:enc (l[a.toNat])∈l.map enc:=cX4.2 ⟨_,ba6 hlt,rfl⟩
      rw[<-hszr _ hm0,az2]
     subst hszt
     have key:=RT.sl (w:=w) (S:=S) bk (off+a.toNat*te.size) (c-a.toNat) te.size (y.map enc) (fun i j=>vs (a.toNat+i) j) (by simp at bN4;rw[cr4,hyl];omega) hS
      (fun r hr'=>by obtain⟨z,_,rfl⟩:=cX4.1 hr';exact az2 z)
      (fun i j hi2 hj=>by
       rw[cr4,hyl]at hi2
       have:=hc (a.toNat+i) j (by simp;omega) hj
       rw[ez2]at this
       rw[<-this]
       congr 2
       omega)
      (fun i j hi2 hj=>by
       rw[cr4,hyl]at hi2
       have e1:(y.map enc)[i]'(by rw[cr4,hyl];exact hi2)=(l.map enc)[a.toNat+i]'(by simp;omega):=by
        subst hm
        simp
       have hj':j<((l.map enc)[a.toNat+i]'(by simp;omega)).length:=by rw[<-e1];exact hj
       have:=hr (a.toNat+i) j (by simp;omega) hj'
       simp only[e1]
       exact this)
     rw[cr4,hyl]at key
     rw[hyl]
     exact .t key) h
theorem B5.eu8 {t e e' d id id' sz n s0:Nat}{z0:List Value}{te:TI}{x:Operand}{hi:Option Operand}{l:List α}{b:Int}{enc:α->List Tree}{k:List α->Option ρ}
  (ho:o.op= .slice t x none hi none) (hd:o.dst=some d) (hdn:bd5 d X.nt=true) (hg:ah9 all.toList tm o.guard=some true) (hx:val tm x=some (.own id)) (hb:look hp id=some (.rows e sz n (l.map enc)))
  (hty:look X.C4 t=some ⟨s0,.slice e',z0⟩) (hte:look X.C4 e'=some te) (hhi:cw3 tm l.length hi=some b)
  (bS6:Sub ⟨tm',Z4⟩ ⟨tm,hp⟩) (aM0:bd5 id' big=true) (hft:M9 id' tm'=true) (hfb:M0 id' Z4=true) (hfo:M0 id Z4=true)
  (h:∀y,ay4 l 0 b=some y->B5 X all rest ks ⟨(d,.own id')::tm',(id',.rows e sz y.length (y.map enc))::Z4⟩ (k y) Q):B5 X all (o::rest) ks ⟨tm,hp⟩ ((ay4 l 0 b).bind k) Q:=fun r hr a w ⟨S,E,hk⟩=>by
 cases hm:ay4 l 0 b with
 |none=>simp[hm]at hr
 |some y=>
  simp only[hm,aH3]at hr
  have hm0:=hm
  unfold ay4 at hm0
  split at hm0<;>try(cases hm0;done)
  rename_i hbd
  simp only[aI5]at hm0
  obtain⟨h0,h1,h2⟩:=hbd
  have hy:y=l.take b.toNat:=by rw[<-hm0];simp
  have hyl:y.length=b.toNat:=by rw[hy,bE9];omega
  obtain⟨i,dd,hi',hs,hu,hdd,_⟩:=X.K4 t _ hty
  simp only[TD.ok]at hdd
  subst hdd
  have hsz:=(X.K4 e' _ hte).aG5 w
  have hbk:=hk.hp id _ hb
  obtain⟨hn,aM1⟩:=hbk
  have hn':n=l.length:=by simpa using hn
  subst hn'
  have hxv:a.eval x=E id:=by
   have hv:=hk.val hx
   generalize a.eval x=sv at hv
   cases hv with|own _ _ hE=>exact hE.symm
  have hk':=hk.sub bS6
  have fin:∀v',(execOp a.eval o).run X.P w= .ok (.value v') w->(∀β,R7 v'=some β->R7 (E id)=some β)->(∀E',bd9 w S E' v' (.rows e sz y.length (y.map enc)))->
    wpList X.P all (after X.P ks (X.post (Q r))) (o::rest) a w:=by
   intro v' aO0 hv' hblk
   obtain⟨E',hE,hok⟩:=hk'.cS8 (v:=E id) (v':=v') (b:=.rows e sz y.length (y.map enc)) aM0 hft hfb (fun β hβ=>hk.own id _ β hb hβ)
    (fun j blk β hj h1 h2=>by
     obtain⟨cs3,hj',_⟩:=bk0 bS6.2 j blk hj
     have:=hk.at6 id j _ cs3 β hb hj' h1 h2
     exact(aA4 hfo j blk hj).1 this.symm) (aW6.refl _ w) (fun β hβ=>⟨(hk.own id _ β hb (hv' β hβ)).2.1,.inl (hv' β hβ)⟩) hblk
   refine wpList_step fun K hK=>?_
   rw[S8 hk hg,if_pos rfl]
   unfold Oper.wp
   rw[aO0]
   refine hK _ _ (h y hm r hr _ _ ⟨S,E',?_⟩)
   rw[hd]
   exact hok.put (bd4 hdn) (.own id' _ hE)
  rcases aM1 with⟨hE,hr0⟩|⟨β,cap,cs,hcm,hE,hh,hcl,hcc,hszr,hcr⟩
  ·have hl0:l=[]:=by simpa using hr0
   subst hl0
   have hb0:b=0:=by simp at h2;omega
   subst hb0
   have hbd:=bv9 (P:=X.P) (w:=w) (lo:=none) (n:=0) (c:=0) (.inl ⟨rfl,rfl⟩) (bn0 hk hhi) (do8 0) (do8 0) (do8 0)
   have hy0:y=[]:=by simpa using hy
   subst hy0
   refine fin (.slice none 0 0) ?_ (fun β hβ=>by simp[R7]at hβ) (fun E'=>⟨rfl,.inl ⟨rfl,rfl⟩⟩)
   have hbd':(Instr.sliceBounds true 0 0 none (hi.map a.eval) none).run X.P w= .ok (0,0,0) w:=hbd
   simp only[execOp,ho,Instr.sliceAt,bk5,run_underlying hu,ba5,Instr.slice,hxv,hE,fb2,hbd',hsz,bO3]
   rfl
  ·have hbd:=bv9 (P:=X.P) (w:=w) (lo:=none) (n:=l.length) (c:=cap) (.inl ⟨rfl,rfl⟩) (bn0 hk hhi) (do8 0) h1 (by simp at hcc;omega)
   refine fin (.slice (some ⟨β,0,none⟩) y.length cap) ?_ (fun β' hβ'=>by rw[hE];exact hβ') (fun E'=>⟨by simp,.inr ⟨β,cap,cs,hcm,by simp,hh,hcl,by simp at hcc|-;omega,?_,?_⟩⟩)
   ·simp only[cr4]at hE
    simp only[execOp,ho,Instr.sliceAt,bk5,run_underlying hu,ba5,Instr.slice,hxv,hE,fb2,hbd,hsz,bO3]
    have ez:(0:Int).toNat=0:=rfl
    by_cases hc0:cap=0
    ·simp[hc0,hyl]
    ·simp[hc0,hyl,aC3]
   ·intro q hq
    exact hszr q (by rw[hy,ff8]at hq;exact ey8 hq)
   ·intro i j hi2 hj hbb
    have hi3:i<(l.map enc).length:=by simp[hy]at hi2|-;omega
    have e1:(y.map enc)[i]=(l.map enc)[i]:=by subst hy;simp
    have hj2:j<((l.map enc)[i]).length:=by rw[<-e1];exact hj
    simp only[e1]
    exact(hcr i j hi3 hj2 hbb).mono (fun _ x=>x) (fun _ _=>rfl)
end
section
variable {ρ α:Type} {X:Cx} {ks:List K} {tm:List (Nat × T)} {hp:List (Nat × G3)} {m:Option ρ} {Q:ρ -> Exit -> St -> Prop} {all:Array Oper} {o:Oper} {rest:List Oper}
theorem B5.eL4 {t d id sz off e n:Nat}{i:Int}{ti:TI}{p:Operand}{l:List α}{enc:α->List Tree}{y:α}{r:T}(hy:D4 l i=some y)
  (ho:o.op= .load t p) (hd:o.dst=some d) (hdn:bd5 d X.nt=true) (hg:ah9 all.toList tm o.guard=some true) (hp1:val tm p=some (.pe id i.toNat sz off)) (hb:look hp id=some (.rows e sz n (l.map enc)))
  (hti:look X.C4 t=some ti) (hr:bh1 ti.desc.isAgg ti.size ((enc y).map .t) off=some r) (h:B5 X all rest ks ⟨(d,r)::tm,hp⟩ m Q):B5 X all (o::rest) ks ⟨tm,hp⟩ m Q:=
 B5.fb9 (aV0 hy).2.1 ho hd hdn hg hp1 hb hti hr h
theorem B5.dL3 {t id sz off e n:Nat}{i:Int}{ti:TI}{p x:Operand}{l:List α}{enc:α->List Tree}{y:α}{k:List α->Option ρ}(y':α)(lt:List Tree){vx:T}{cs:List T}(hy:D4 l i=some y)
  (ho:o.op= .store t p x) (hd:o.dst=none) (hg:ah9 all.toList tm o.guard=some true) (hp1:val tm p=some (.pe id i.toNat sz off)) (hb:look hp id=some (.rows e sz n (l.map enc)))
  (hti:look X.C4 t=some ti) (hx:val tm x=some vx) (hc:ap6 hp vx=some cs) (hcs:cs.map cQ6=lt.map T.t) (hs:bM1 lt.length ti.size=true) (hle:dO2 (off+lt.length) sz=true) (az2:enc y'=bF0 (enc y) off lt)
  (h:∀l',am4 l i y'=some l'->B5 X all rest ks ⟨tm,at7 hp id (.rows e sz l'.length (l'.map enc))⟩ (k l') Q):B5 X all (o::rest) ks ⟨tm,hp⟩ ((am4 l i y').bind k) Q:=fun r hr a w ⟨S,E,hk⟩=>by
 have bN6:am4 l i y'=some (l.set i.toNat y'):=by
  obtain⟨h0,_,hlt⟩:=aV0 hy
  unfold am4
  rw[if_pos ⟨h0,hlt⟩]
 rw[bN6]at hr
 simp only[aH3]at hr
 have aM1:(l.map enc)[i.toNat]? =some (enc y):=by rw[cG5,(aV0 hy).2.1];rfl
 have hcl:cs.length=lt.length:=by have:=congrArg fc1 hcs;simpa using this
 obtain⟨vs,hvs,hl,hr2,h1⟩:=hk.cells (hk.val hx) hc
 have hn:n=l.length:=by have:=(hk.hp id _ hb).1;simpa using this
 have key:∃w',(Instr.storeAt t (a.eval p) (a.eval x)).run X.P w= .ok () w'/\Ok X.w0 X.L X.nt ⟨tm,at7 hp id (.rows e sz n ((l.map enc).set i.toNat (bF0 (enc y) off lt)))⟩ S E a w':=by
  have hv2:RV w S E (.agg vs.toArray) (.agg (lt.map T.t)):=by
   refine .agg vs _ (by simp;omega) fun j h2 h3=>?_
   have h4:=dm3 (hr2 j h2 (by omega))
   have h5:cQ6 (cs[j]'(by omega))=(lt.map T.t)[j]'h3:=by
    have h6:(cs.map cQ6)[j]? =(lt.map T.t)[j]?:=by rw[hcs]
    rw[cG5,aK2 (by omega),aK2 h3]at h6
    simpa using h6
   rw[h5]at h4
   exact h4
  have bg9:cw2 hp (lt.map T.t)=true:=by
   have:∀q:List Tree,(∀j (hj:j<q.length),Pv.one hp (T.t (q[j]))=true)->cw2 hp (q.map T.t)=true:=by
    intro q
    induction q with
    |nil=>intro _;rfl
    |cons z q ih=>
     intro hq
     simp only[cS3,cw2,aJ5]
     exact⟨hq 0 (by simp),ih fun j hj=>hq (j+1) (by simpa using hj)⟩
   refine this lt fun j hj=>?_
   have hv:=hv2
   cases hv with
   |agg _ _ _ hvv=>
    have h2:=hvv j (by omega) (by simpa using hj)
    simp only[dw3]at h2
    have h3:=h1 _ (ba6 (show j<vs.length by omega))
    generalize vs[j]'(by omega)=v at h2 h3
    generalize lt[j]=z at h2|-
    cases z with
    |v q=>have:=h2.tv;subst this;exact h3
    |sl _ _=>rfl
  obtain⟨w',q1,q2⟩:=ed1 (P:=X.P) hk (X.K4 t _ hti) hb (hk.val hp1) aM1 hv2 (by simp[ap6,bg9]) (bp9 hs) (bd4 hle)
  refine⟨w',?_,q2⟩
  have e1:(Value.agg vs.toArray).cells=(a.eval x).cells:=by rw[hvs];rfl
  simpa only[Instr.storeAt,storeVar,e1]using q1
 obtain⟨w',h2,h3⟩:=key
 refine wpList_step fun K hK=>?_
 rw[S8 hk hg,if_pos rfl]
 unfold Oper.wp
 have aO0:(execOp a.eval o).run X.P w= .ok .skip w':=by
  unfold execOp
  simp only[ho,bk5,h2,ba5,bO3]
 rw[aO0]
 refine hK _ _ (h _ bN6 r hr _ _ ⟨S,E,?_⟩)
 rw[hd,List.map_set,az2,dI2,<-hn]
 exact h3
end
open Go.RowKit Go.WideShapes Go.ChangeShapes
section
variable {ρ τ:Type} {X:Cx} {ks:List K} {tm tm':List (Nat × T)} {hp Z4:List (Nat × G3)} {m:Option ρ} {Q:ρ -> Exit -> St -> Prop} {all:Array Oper} {ops:List Oper}
theorem B5.via {σ σ':St}(h:∀{ρ:Type}{m:Option ρ}{Q:ρ->Exit->St->Prop}{e:Exit},aa5 X [] e σ' m Q->aa5 X [] e σ m Q)(k:B5 X all ops ks σ' m Q):B5 X all ops ks σ m Q:=fun r hr a w hw=>by
 have:=h (ρ:=Unit) (m:=some ()) (e:=.normal) (Q:=fun _ _ σ''=>σ''=σ') (fun r _ a w hw=>⟨σ',hw,rfl⟩) () rfl a w hw
 obtain⟨σ'',hs,rfl⟩:=this
 exact k r hr a w hs
open Classical in
theorem B5.dT8 {σ:St}{m₁:Option τ}{t:τ}(hm:m₁=some t)(h:B5 X all ops ks σ (m₁.bind fun t'=>if t'=t then m else none) Q):B5 X all ops ks σ m Q:=by
 subst hm;simpa using h
open Classical in
theorem B5.ifH {σ₂:τ->St}{t:τ}(h:B5 X all ops ks (σ₂ t) m Q):∀t',B5 X all ops ks (σ₂ t') (if t'=t then m else none) Q:=fun t'=>by
 by_cases e:t'=t
 ·subst e;simpa using h
 ·simp only[e,if_false];exact B5.fail
open Classical in
theorem B5.ifG {σ₂:τ->St}{t:τ}{m₁:Option τ}(h:B5 X all ops ks (σ₂ t) m Q):∀t',m₁=some t'->B5 X all ops ks (σ₂ t') (if t'=t then m else none) Q:=fun t' _=>B5.ifH h t'
end
theorem cF9 {P:Program}(w:World)(d:Nat)(t e:TypeId)(a:Option Addr)(l c:Nat)(h:P.underlying t=some (.slice e)):(Op.equalIn (d+1) t (.slice a l c) (.slice none 0 0)).run P w= .ok a.isNone w:=by
 cases a<;>simp[Op.equalIn,run_underlying h]
theorem cY6 {P:Program}(w:World)(t e:TypeId)(a:Option Addr)(l c:Nat)(h:P.underlying t=some (.slice e)):(Op.equal t (.slice a l c) (.slice none 0 0)).run P w= .ok a.isNone w:=cF9 w _ t e a l c h
theorem dz7 {P:Program}(w:World)(t e:TypeId)(a:Option Addr)(l c:Nat)(h:P.underlying t=some (.slice e)):(binOp .eql t (.slice a l c) (.slice none 0 0)).run P w= .ok (.bool a.isNone) w:=by
 simp[binOp,cY6 w t e a l c h]
theorem cY7 {P:Program}(w:World)(t:TypeId)(x y:Operand)(a:Option Addr)(l c:Nat):(eqGuard .eql t x y (.slice a l c) (.slice none 0 0)).run P w= .ok () w:=rfl
section
variable {ρ τ:Type} {X:Cx} {ks:List K} {σ:St} {tm:List (Nat × T)} {hp:List (Nat × G3)} {m m':Option ρ} {Q:ρ -> Exit -> St -> Prop} {all:Array Oper} {rest:List Oper} {o:Oper}
theorem B5.isNil {t e yt d n s0:Nat}{z0:List Value}{x:Operand}{α:Type}{enc:α->List Tree}{l:List α}(ho:o.op= .binOp .eql t x (.const (.slice none 0 0)) yt)(hd:o.dst=some d)(hdn:bd5 d X.nt=true)(hg:ah9 all.toList tm o.guard=some true)
  (hty:look X.C4 t=some ⟨s0,.slice e,z0⟩) (hx:val tm x=some (.t (.sl n (l.map enc))))
  (h:∀b:Bool,(b=true->l=[])->B5 X all rest ks ⟨(d,.t (.v (.bool b)))::tm,hp⟩ m Q):B5 X all (o::rest) ks ⟨tm,hp⟩ m Q:=fun r hr a w ⟨S,E,hk⟩=>by
 obtain⟨dd,hu,ho2⟩:∃d,X.P.underlying t=some d/\TD.ok X.P (.slice e) d:=by
  obtain⟨i,d,_,_,hu,hdd,_⟩:=X.K4 t _ hty
  exact⟨d,hu,hdd⟩
 simp only[TD.ok]at ho2
 subst ho2
 have hv:=hk.val hx
 have hs:∃ad c k,a.eval x= .slice ad k c/\(ad=none->l=[]):=by
  generalize a.eval x=v at hv
  cases hv with
  |t hv=>
   generalize hq:l.map enc=q at hv
   cases hv with
   |slE a c=>exact⟨_,_,_,rfl,fun _=>by simpa using hq⟩
   |sl=>exact⟨_,_,_,rfl,fun h=>by cases h⟩
 obtain⟨ad,c,k,hx',hl⟩:=hs
 refine wpList_step fun K hK=>?_
 rw[S8 hk hg,if_pos rfl]
 unfold Oper.wp
 have aO0:(execOp a.eval o).run X.P w= .ok (.value (.bool ad.isNone)) w:=by
  have h1:a.eval (.const (.slice none 0 0))= .slice none 0 0:=rfl
  unfold execOp
  simp only[ho,hx',h1,bk5,cY7,dz7 w t e ad k c hu,ba5,bO3]
 rw[aO0]
 refine hK _ _ (h ad.isNone (fun hb=>hl (by simpa using hb)) r hr _ _ ⟨S,E,?_⟩)
 rw[hd]
 exact hk.put (bd4 hdn) (.t (.v _))
end
section
variable {τ α:Type} {X:Cx} {U0:List (Nat × T)} {hp:List (Nat × G3)} {all:Array Oper} {o:Oper}
end
def aT5 (X:Cx)(ops:Array Oper)(fe:Nat)(le:List Bool)(fuel:Nat)(l:List Bool)(σ σ':St):Prop:=
 ∀(Q:Exit->Act->World->Prop),(∀c a w,¬Q (.panic c) a w)->(∀a w,Sim X.w0 X.L X.nt σ' a w->wpAny X.P .any ops Q fe le.toArray a w)->∀a w,Sim X.w0 X.L X.nt σ a w->wpAny X.P .any ops Q fuel l.toArray a w
def ch9 (X:Cx)(ops:Array Oper)(fe:Nat)(le:List Bool)(fuel:Nat)(l:List Bool)(σ σ':St)(rs:List Nat):Prop:=
 ∀i∈rs,∀(Q:Exit->Act->World->Prop),(∀c a w,¬Q (.panic c) a w)->(∀a w,Sim X.w0 X.L X.nt σ' a w->wpAny X.P .any ops Q fe le.toArray a w)->∀a w,Sim X.w0 X.L X.nt σ a w->wpOp X.P ops Q i (wpAny X.P .any ops Q fuel (l.toArray.setIfInBounds i true)) a w
section
variable {ρ:Type} {X:Cx} {ks:List K} {ops:Array Oper} {fe fuel:Nat} {le l l':List Bool} {σ σ₁ σ':St} {m:Option ρ} {Q:ρ -> Exit -> St -> Prop} {o:Oper}
theorem aT5.done (hs:Sub σ' σ):aT5 X ops fe le fe le σ σ':=fun _ _ hQ a w hw=>hQ a w (hw.sub hs)
theorem aT5.all (rs:List Nat)(hr:Region.ready .any ops l.toArray=rs)(hne:rs.isEmpty=false)(h:ch9 X ops fe le fuel l σ σ' rs):aT5 X ops fe le (fuel+1) l σ σ':=fun Q hp hQ a w hw=>
 wpAny_all hr (by rintro rfl;cases hne) fun i hi=>h i hi Q hp hQ a w hw
theorem ch9.nil:ch9 X ops fe le fuel l σ σ' []:=fun _ h=>by cases h
theorem ch9.cons {i:Nat}{rs:List Nat}(l':List Bool)(ho:ops[i]? =some o)(hl:l.set i true=l')(h₁:B5 X ops [o] [] σ (some ()) (fun _ e σ''=>e= .normal/\Sub σ₁ σ''))(h₂:aT5 X ops fe le fuel l' σ₁ σ')(h₃:ch9 X ops fe le fuel l σ σ' rs):ch9 X ops fe le fuel l σ σ' (i::rs):=fun j hj Q hp hQ a w hw=>by
 rcases ch6.1 hj with rfl|hj
 ·have h:=h₁ () rfl a w hw
  unfold wpOp
  simp only[ho]
  have next:∀a w,wpList X.P ops (after X.P [] (X.post fun e σ''=>e= .normal/\Sub σ₁ σ'')) [] a w->wpAny X.P .any ops Q fuel (l.toArray.setIfInBounds j true) a w:=fun a w ⟨σ'',hs,_,e⟩=>by
   rw[eW9,hl]
   exact h₂ Q hp hQ a w (hs.sub e)
  unfold wpList at h
  split at h
  ·rename_i hg
   rw[if_pos hg]
   rcases h with h|⟨h1,h2⟩
   ·refine .inl ?_
    revert h
    unfold Oper.wp
    generalize(execOp a.eval o).run X.P w=r
    intro h
    cases r with
    |ok n w'=>
     cases n<;>simp only[Oper.upon]at h|-
     all_goals first
      |exact next _ _ h
      |exact Calls.mono h (fun e w'' he=>by cases e<;>first|exact next _ _ he|(obtain⟨_,_,_,_,he,_⟩:=he;cases he)|(obtain⟨_,_,he,_⟩:=he;cases he))
      |exact Rows.mono h (fun _ _ he=>next _ _ he)
      |(obtain⟨_,_,he,_⟩:=h;cases he)
      |exact h
    |halt x w'=>cases x<;>simp only[Oper.upon]at h|- <;>first|exact h|(obtain⟨_,_,he,_⟩:=h;cases he)
   ·obtain⟨_,_,_,_,he,_⟩:=h2;cases he
  ·rename_i hg
   rw[if_neg hg]
   exact next _ _ h
 ·exact h₃ j hj Q hp hQ a w hw
theorem aT5.ff0 {d:Nat}{V:T}{tm:List (Nat×T)}{hp:List (Nat×G3)}(i:Nat)(l':List Bool)(ho:ops[i]? =some o)(hl:l.set i true=l')(hd:o.dst=some d)(hdn:bd5 d X.nt=true)(hg:o.guard=none)
  (hs:Region.noSelect ops=true) (hf:Region.free .any ops l.toArray i=true) (hr:(Region.ready .any ops l.toArray).contains i=true)
  (hx:∀S E a w,Ok X.w0 X.L X.nt ⟨tm,hp⟩ S E a w->∃v,(∀w',(execOp a.eval o).run X.P w'= .ok (.value v) w')/\RV w S E v V) (h:aT5 X ops fe le fuel l' ⟨(d,V)::tm,hp⟩ σ'):
  aT5 X ops fe le (fuel+1) l ⟨tm,hp⟩ σ':=fun Q hpn hQ a w ⟨S,E,hk⟩=>by
 obtain⟨v,hv,hr'⟩:=hx S E a w hk
 refine wpAny_take ho hs hf hr (fun c a w hc=>absurd hc (hpn _ _ _)) (v:=v) (.inl ⟨?_,hv⟩) ?_
 ·unfold Region.wanted;rw[hg]
 ·rw[eW9,hl]
  exact h Q hpn hQ _ _ ⟨S,E,by rw[hd];exact hk.put (bd4 hdn) hr'⟩
theorem E4.fa4 {id:Nat}(h:Nat)(l lh:List Bool)(σ₁:St)(hmx:X.P.follows .mixedOrders=true)(hQ:∀r c σ,¬Q r (.panic c) σ)(hl:(fg1 ops.size false).toList=l)(hle:dO2 h ops.size=true)
  (hlh:(dp9 ops.size).map (fun j=>bd5 j h)=lh) (ht:ew6 ops.toList h=true) (h₁:aT5 X ops (ops.size-h) lh ops.size l σ σ₁) (h₂:B5 X ops (ops.toList.drop h) [] σ₁ m Q):E4 X [.c (.region id ops true)] σ m Q:=fun r hr a w ⟨S,E,hk⟩=>by
 have hle:=bd4 hle
 have aL3:aW6 (fun _=>False) w {w with drawn:=w.drawn+1}:=⟨rfl,rfl,rfl,cq9 _,fun _ _ _=>rfl,Nat.le_succ _⟩
 have h3:=h₁ (X.post (Q r)) (fun c a w ⟨σ,_,hq⟩=>hQ r c σ hq) (fun a w hw=>by
  refine eg8 ht (ops.size-h) h lh.toArray a w (cq9 _) (by omega) (by rw[<-hlh];simp) (fun j hj=>?_) (h₂ r hr a w hw)
  rw[<-hlh,eR4]
  simp only[ff2,cG5]
  rw[List.getElem?_range hj]
  simp only[ca8,ez0]
  rw[Bool.eq_iff_iff,decide_eq_true_iff]
  exact⟨fun c=>bd4 c,fun c=>Nat.ble_eq_true_of_le c⟩) a _ ⟨S,E,hk.grow aL3⟩
 rw[<-hl,Array.toArray_toList]at h3
 exact wp_region_any (id:=id) hmx h3
end
def ltM {α:Type}(g:α->α->Option Int)(x y:α):Bool:=decide ((g x y).getD 0<0)
structure cI7 {α:Type}(g:α->α->Option Int)(l:List α):Prop where
 len:l.length<4611686018427387904
 ans:∀x∈l,∀y∈l,∃c,g x y=some c
 irrefl:∀x∈l,ltM g x x=false
 trans:∀x∈l,∀y∈l,∀z∈l,ltM g x y=true->ltM g y z=true->ltM g x z=true
 ntrans:∀x∈l,∀y∈l,∀z∈l,ltM g x y=false->ltM g y z=false->ltM g x z=false
 tot:∀x∈l,∀y∈l,ltM g x y=false->ltM g y x=false->x=y
open Classical in
def bU5 {α:Type}(g:α->α->Option Int)(l:List α):Option (List α):=if cI7 g l then some (l.mergeSort fun x y=>!ltM g y x)else none
theorem bU6 {α:Type}{g:α->α->Option Int}{l:List α}(h:cI7 g l):bU5 g l=some (l.mergeSort fun x y=>!ltM g y x):=by
 unfold bU5;rw[if_pos h]
open Go.RowKit Go.Sort Go.Shelf Go.Proofs
section
variable {α:Type} [Inhabited α] (enc:α -> List Value) (k:Nat) (w:World) (β m:Nat) (d:Array α) (os:Array Obj)
theorem do3:(sortWorldK enc k w β 0 m d os).heap.size=w.heap.size+os.size:=by
 simp[sortWorldK,putRowK,putRow,mapBlock,Sort.ahead,grow]
theorem dA7 (b:Nat)(hb:b<w.heap.size)(hne:b≠β):(sortWorldK enc k w β 0 m d os).heap[b]? =w.heap[b]?:=by
 simp only[sortWorldK,putRowK,putRow,mapBlock,Sort.ahead,grow]
 rw[eK1 (by simpa using hb),eV6,if_neg (Ne.symm hne)]
theorem eV0 {cs:Array Value}{elem:TypeId}(hh:w.heap[β]? =some (.cells cs elem (0,0))):(sortWorldK enc k w β 0 m d os).heap[β]? =some (.cells (putCells id 0 (flatK enc k d) cs) elem (0,0)):=by
 have hb:β<w.heap.size:=(dx1.1 hh).1
 simp only[sortWorldK,putRowK,putRow,mapBlock,Sort.ahead,grow]
 rw[eK1 (by simpa using hb),eV6,if_pos rfl,hh]
 rfl
theorem dT0 (L:Nat->Prop)(hL:L β):aW6 L w (sortWorldK enc k w β 0 m d os)where
 os:=rfl
 tape:=rfl
 output:=rfl
 size:=by rw[do3];omega
 block:=fun b hb hn=>dA7 enc k w β m d os b hb (fun e=>hn (e▸hL))
 drawn:=by simp[sortWorldK,putRowK,putRow,mapBlock,Sort.ahead,grow]
end
theorem aW6.grown {w w':World}(h:aW6 (fun _=>False) w w'):∃q os,w'=grow (w.drewN q) os:=by
 refine⟨w'.drawn-w.drawn,w'.heap.extract w.heap.size w'.heap.size,?_⟩
 have hd:=h.drawn
 have hz:=h.size
 obtain⟨heap',tape',drawn',os',out'⟩:=w'
 have e1:=h.os;have e2:=h.tape;have e3:=h.output
 simp only at e1 e2 e3 hd hz
 subst e1 e2 e3
 simp only[grow,World.drewN,World.mk.injEq]
 refine⟨?_,trivial,by omega,trivial,trivial⟩
 apply Array.ext_getElem?
 intro i
 by_cases hi:i<w.heap.size
 ·rw[eK1 hi];exact h.block i hi (fun x=>x)
 ·rw[Array.getElem?_append_right (by omega),Array.getElem?_extract]
  split
  ·congr 1;omega
  ·rw[Array.getElem?_eq_none (by omega)]
theorem cY1 {α:Type}{g:α->α->Option Int}(l:List α):(l.attach.mergeSort fun x y=>!ltM g y.1 x.1).map (·.1)=l.mergeSort fun x y=>!ltM g y x:=by
 have:=List.map_mergeSort (r:=fun(x y:{x//x∈l})=>!ltM g y.1 x.1) (s:=fun x y=>!ltM g y x) (f:=fun x=>x.1) (l:=l.attach) (fun a _ b _=>rfl)
 rw[this]
 simp
theorem RTv {w:World}{S:Nat->Prop}{v u:Value}(h:RT w S v (.v u)):v=u:=by cases h;rfl
theorem cp0 {E : Type} {P : Program} {ρ : Ren} (L : SlLaysF0.n6 P ρ) {enc : E -> List Tree} {k : Nat} (dt5 : E -> List Value) (az2 : ∀ x, enc x = (dt5 x).map Tree.v) (hk : ∀ x, (dt5 x).length = k) (h1 : ∀ x, ∀ v ∈ dt5 x, v.oneCell' = true)
    (aE : ∀ w, (isAgg (ρ.t 24)).run P w = .ok true w) (zE : ∀ w, (Go.sizeOf (ρ.t 24)).run P w = .ok k w) {e n : Nat} {cs : List (List Tree)} {A : E -> T} (hA : ∀ x, A x = .agg ((enc x).map .t)) (g : E -> E -> Option Int)
    (hg : ∀ x y, aQ7 P n ([A x, A y] ++ cs.map T.el) (g x y) (fun r => .t (tI r))) (l : List E) :
    bh4 P (ρ.f 6) [.own 1000000, .fz n cs] [(1000000, .rows e k l.length (l.map enc))] (bU5 g l) (fun _ => .P9 []) (fun r => [(1000000, .rows e k r.length (r.map enc))]) := by
  refine ⟨L.f6.enters rfl, fun r hr w S E vs hS hO hv => ?_⟩
  have hC : cI7 g l := by
    unfold bU5 at hr; split at hr <;> first | assumption | cases hr
  rw [bU6 hC, aI5] at hr
  subst hr
  obtain ⟨v0, v1, rfl⟩ : ∃ v0 v1, vs = [v0, v1] := by
    have := hv.1
    match vs, this with
    | [a, b], _ => exact ⟨a, b, rfl⟩
  have r0 : RV w S E v0 (.own 1000000) := hv.2 0 (by simp) (by simp)
  have r1 : RV w S E v1 (.fz n cs) := hv.2 1 (by simp) (by simp)
  cases r0 with
  | own _ _ hE =>
  cases r1 with
  | fz _ ps _ hpl hp =>
  have hblk := hO.blk 1000000 (.rows e k l.length (l.map enc)) rfl
  rw [hE] at hblk
  obtain ⟨hn, ⟨hx, cP2⟩ | ⟨β, cap, vs, hcm, hx, hh, hvl, bN4, hsz, hr⟩⟩ := hblk
  · -- no element
    have hl : l = [] := by simpa using cP2
    subst hl
    subst hx
    refine (AnyF.slices_SortFunc_none L none 0 (.func (.func n) #[] ps.toArray) w).mono fun e' w' ⟨he, hw⟩ => ?_
    subst hw
    refine ⟨_, S, E, he, .P9 [] [] rfl fun j h1 => by simp at h1, aW6.refl _ _, hS, fun b hb => .inl hb, ?_, fun β hl => .inl ?_, fun _ _ => rfl⟩
    · simpa using hO
    · simpa using hl
  · have hl0 : l ≠ [] \/ l = [] := by by_cases h : l = [] <;> simp [h]
    simp only [cr4] at hx bN4
    subst hx
    by_cases hl : l = []
    · subst hl
      refine (AnyF.slices_SortFunc_none L (some ⟨β, 0, none⟩) cap (.func (.func n) #[] ps.toArray) w).mono fun e' w' ⟨he, hw⟩ => ?_
      subst hw
      refine ⟨_, S, E, he, .P9 [] [] rfl fun j h1 => by simp at h1, aW6.refl _ _, hS, fun b hb => .inl hb, ?_, fun β hl => .inl ?_, fun _ _ => rfl⟩
      · simpa using hO
      · simpa using hl
    obtain ⟨x0, hx0⟩ := List.exists_mem_of_ne_nil l hl
    haveI : Inhabited {x // x ∈ l} := ⟨⟨x0, hx0⟩⟩
    let bo8 : {x // x ∈ l} -> List Value := fun x => dt5 x.1
    let cf : {x // x ∈ l} -> {x // x ∈ l} -> Int := fun x y => (g x.1 y.1).getD 0
    let d : Array {x // x ∈ l} := l.attach.toArray
    have hds : d.size = l.length := by simp [d]
    have hlt : ∀ x y, ltOf cf x y = ltM g x.1 y.1 := fun x y => rfl
    have hO' : SWO (ltOf cf) := ⟨fun x => hC.irrefl _ x.2, fun x y z => hC.trans _ x.2 _ y.2 _ z.2, fun x y z => hC.ntrans _ x.2 _ y.2 _ z.2⟩
    have hβS : ¬ S β := (hO.own 1000000 (.rows e k l.length (l.map enc)) β rfl (by rw [hE]; rfl)).1
    have hβw : β < w.heap.size := (hO.own 1000000 (.rows e k l.length (l.map enc)) β rfl (by rw [hE]; rfl)).2
    have eg : ∀ args w, (callFunc n args).run P w = .ok (.enter n args) w := (hg x0 x0).1
    have hdget : ∀ i (hi : i < l.length), (d[i]!).1 = l[i] := fun i hi => by
      rw [getElem!_pos d i (by omega)]; simp [d]
    have hcmp : CmpLays P n ps.toArray bo8 k cf β 0 d.size w := by
      intro m os dk hdk x y
      obtain ⟨c, hc⟩ := hC.ans _ x.2 _ y.2
      have hW := dT0 bo8 k w β m dk os (fun b => b = β) rfl
      have hSW : ∀ b, S b -> (sortWorldK bo8 k w β 0 m dk os).heap[b]? = w.heap[b]? := fun b hb => dA7 bo8 k w β m dk os b (hS b hb) (fun e => hβS (e ▸ hb))
      have argA : ∀ z : {x // x ∈ l}, RV (sortWorldK bo8 k w β 0 m dk os) S E (.agg (bo8 z).toArray) (A z.1) := fun z => by
        rw [hA, az2]
        refine .agg _ _ (by simp [bo8]) fun j h1 h2 => ?_
        simp only [dw3]
        exact .t (.v _)
      have aL2 := (hg x.1 y.1).2 c hc (sortWorldK bo8 k w β 0 m dk os) S E ([.agg (bo8 x).toArray, .agg (bo8 y).toArray] ++ ps) (fun b hb => dD3 (hS b hb) hW.size) (by
        refine RVL.append (l := [A x.1, A y.1]) ⟨rfl, fun j h1 h2 => ?_⟩ ⟨by simpa using hpl, fun j h1 h2 => ?_⟩
        · match j, h1, h2 with
          | 0, _, _ => exact argA x
          | 1, _, _ => exact argA y
        · simp only [dw3]
          exact ((hp j h1 (by simpa using h2)).rv (E := E)).mono (fun _ x => x) hSW (fun _ _ => rfl))
      have e1 : (([.agg (bo8 x).toArray, .agg (bo8 y).toArray] : List Value) ++ ps).toArray = #[.agg (bo8 x).toArray, .agg (bo8 y).toArray] ++ ps.toArray := by simp
      rw [e1] at aL2
      refine aL2.mono fun e' w' ⟨v, S', he, hv', aL3, _, _⟩ => ?_
      subst he
      have : v = .int .i64 c := by
        cases hv' with | t h => exact RTv h
      subst this
      exact ⟨by simp [cf, hc], aL3.grown⟩
    have cm2 : ∀ i (hi : i < l.length) j (hj : j < k), ∃ hb : i * k + j < vs.length, vs[i * k + j] = (dt5 l[i])[j]'(by rw [hk]; exact hj) := fun i hi j hj => by
      have h2 : i * k + j < vs.length := by
        have : (i + 1) * k <= cap * k := cz8 _ (by omega)
        rw [dG8] at this; omega
      refine ⟨h2, ?_⟩
      have hlen : j < ((l.map enc)[i]'(by simpa using hi)).length := by simp [az2, hk]; exact hj
      have := hr i j (by simpa using hi) hlen h2
      have e2 : ((l.map enc)[i]'(by simpa using hi))[j]'hlen = .v ((dt5 l[i])[j]'(by rw [hk]; exact hj)) := by simp [az2]
      rw [e2] at this
      exact RTv this
    have hH : HoldsK bo8 k w β 0 d := by
      intro t ht
      rw [size_flatK, hds] at ht
      have hk0 : 0 < k := by rcases dO8 k with h | h; · subst h; simp at ht
                             · exact h
      have hi : t / k < l.length := eX2 (by rw [eg2]; exact ht)
      have hj : t % k < k := eL1 _ hk0
      obtain ⟨hb, hc⟩ := cm2 _ hi _ hj
      have et : t / k * k + t % k = t := by rw [eg2]; exact fb1 t k
      refine ⟨?_, by simp [World.frozen?, hh]⟩
      rw [cell_of_row w β (0 + t) _ e _ hh, get_flatK _ _ _ t (by rw [hds]; exact ht)]
      have h2 : (bo8 d[t / k]!)[t % k]! = vs[t / k * k + t % k] := by
        rw [hc, getElem!_pos _ _ (by simp only [bo8]; rw [hk]; exact hj)]
        simp only [bo8, hdget _ hi]
      rw [h2, cV7]
      simp only [id_eq, ff2]
      rw [aK2 (by omega)]
      congr 2
      exact et.symm
    have hcon := AnyQ.slices_SortFunc_total L k aE zE bo8 (fun x => hk _) (fun x => h1 _) cf hO' n ps.toArray β 0 cap d w eg hcmp hH hβw (by rw [hds]; exact hC.len) (fun x y a b => Subtype.ext (hC.tot _ x.2 _ y.2 a b))
    rw [hds] at hcon
    have hmap := cY1 (g := g) l
    have hdl : d.toList = l.attach := by simp [d]
    rw [hdl] at hcon
    refine hcon.mono fun e' w' ⟨he, m, os, hw⟩ => ?_
    have hcong : (l.attach.mergeSort fun x y => !ltOf cf y x) = l.attach.mergeSort fun x y => !ltM g y.1 x.1 := rfl
    rw [hcong] at hw
    generalize (l.attach.mergeSort fun x y => !ltM g y.1 x.1) = q at hw hmap
    have hrl : (l.mergeSort fun x y => !ltM g y x).length = l.length := List.length_mergeSort l
    generalize (l.mergeSort fun x y => !ltM g y x) = r at hmap hrl |-
    have hql : q.length = r.length := by rw [<- hmap]; simp
    have dd7 : aD6 [(1000000, G3.rows e k l.length (l.map enc))] E β := ⟨1000000, _, rfl, by rw [hE]; rfl⟩
    subst hw
    have hqget : ∀ i (hi : i < r.length), (q.toArray[i]!).1 = r[i] := fun i hi => by
      rw [getElem!_pos q.toArray i (by simpa using (by omega : i < q.length))]
      subst hmap
      simp
    refine ⟨.tuple #[], S, E, he, .P9 [] [] rfl fun j h1 => by simp at h1, dT0 bo8 k w β m q.toArray os _ dd7, fun b hb => ?_, fun b hb => .inl hb, ⟨fun id b hl => ?_, fun id b β' hl hβ' => ?_, fun id id' b b' β' hl hl' _ _ => ?_⟩, fun β' ⟨id, b, hl, hβ'⟩ => .inl ?_, fun _ _ => rfl⟩
    · rw [do3]; exact dD3 (hS b hb) (fj5 _ _)
    · have : id = 1000000 /\ b = .rows e k r.length (r.map enc) := by
        simp only [look] at hl
        by_cases hid : 1000000 = id
        · subst hid; simp at hl; exact ⟨rfl, hl.symm⟩
        · simp [C5 hid] at hl
      obtain ⟨rfl, rfl⟩ := this
      rw [hE]
      refine ⟨by simp, .inr ⟨β, cap, (putCells id 0 (flatK bo8 k q.toArray) vs.toArray).toList, hcm, by simp [hrl], by rw [eV0 bo8 k w β m q.toArray os hh], by simp [putCells, hvl], by simpa [hrl] using bN4, ?_, ?_⟩⟩
      · intro x hx
        obtain ⟨y, _, rfl⟩ := cX4.1 hx
        simp [az2, hk]
      · intro i j hi hj hb
        have hi' : i < r.length := by simpa using hi
        have hj' : j < k := by simpa [az2, hk] using hj
        have hk0 : 0 < k := by omega
        have ht : i * k + j < r.length * k := by
          have : (i + 1) * k <= r.length * k := cz8 _ (by omega)
          rw [dG8] at this; omega
        have hdiv : (i * k + j) / k = i := by rw [eg2, Nat.mul_add_div hk0, Nat.div_eq_of_lt hj', dM1]
        have hmod : (i * k + j) % k = j := by rw [eg2, fg3, fa2 hj']
        have e1 : (putCells id 0 (flatK bo8 k q.toArray) vs.toArray).toList[i * k + j] = (dt5 r[i])[j]'(by rw [hk]; exact hj') := by
          simp only [ff6]
          simp only [putCells, Array.getElem_mapIdx, Nat.zero_le, true_and, cV7, Nat.sub_zero, size_flatK, fc3, id_eq]
          rw [if_pos (by rw [hql]; exact ht), get_flatK _ _ _ _ (by simp only [fc3]; rw [hql]; exact ht), hdiv, hmod, getElem!_pos _ _ (by simp only [bo8]; rw [hk]; exact hj')]
          simp only [bo8, hqget i hi']
        rw [e1]
        have e2 : ((r.map enc)[i]'hi)[j]'hj = .v ((dt5 r[i])[j]'(by rw [hk]; exact hj')) := by simp [az2]
        rw [e2]
        exact .v _
    · have : id = 1000000 := by
        simp only [look] at hl
        by_cases hid : 1000000 = id
        · exact hid.symm
        · simp [C5 hid] at hl
      subst this
      have : β' = β := by rw [hE] at hβ'; simpa [R7] using hβ'.symm
      subst this
      exact ⟨hβS, by rw [do3]; omega⟩
    · simp only [look] at hl hl'
      by_cases hid : 1000000 = id
      · by_cases dl0 : 1000000 = id'
        · exact hid.symm.trans dl0
        · simp [C5 dl0] at hl'
      · simp [C5 hid] at hl
    · have : id = 1000000 := by
        simp only [look] at hl
        by_cases hid : 1000000 = id
        · exact hid.symm
        · simp [C5 hid] at hl
      subst this
      exact ⟨1000000, _, rfl, hβ'⟩
section
variable {X:Cx} {ops:Array Oper} {fe fuel:Nat} {le l l':List Bool} {σ':St} {o:Oper} {α:Type}
end
def ad3 (k:IntKind)(x y:Int):Int:=k.wrap (BitVec.ofInt k.bits x&&&BitVec.ofInt k.bits y).toNat
def U4 (k:IntKind)(x y:Int):Int:=k.wrap (BitVec.ofInt k.bits x|||BitVec.ofInt k.bits y).toNat
def dF0 (k:IntKind)(x y:Int):Int:=k.wrap (BitVec.ofInt k.bits x^^^BitVec.ofInt k.bits y).toNat
def aO6 (k:IntKind)(x y:Int):Int:=k.wrap (BitVec.ofInt k.bits x&&& ~~~(BitVec.ofInt k.bits y)).toNat
def ei7 (k:IntKind)(x y:Int):Int:=k.wrap (x*2^(min y.toNat k.bits))
def F4 (k:IntKind)(x y:Int):Int:=x.fdiv (2^(min y.toNat k.bits))
abbrev av7 {α:Type}(l:List α)(m:List (Nat×α)):List α:=m.foldl (fun l p=>l.set p.1 p.2) l
def cl1 (lo hi:Int)(n:Nat):Option Unit:=if 0<=lo/\lo<=hi/\hi<=n then some ()else none
def au2 {α:Type}(l:List α)(lo:Nat)(r:List α):List α:=l.take lo++r++l.drop (lo+r.length)
abbrev ek6 {α:Type}(l:List α)(lo hi lo2 hi2:Int):List α:=au2 l lo.toNat (((l.drop lo2.toNat).take (hi2.toNat-lo2.toNat)).take (hi.toNat-lo.toNat))
abbrev bI2 {α:Type}(l:List α)(lo hi:Int)(z:α):List α:=au2 l lo.toNat (cr2 (hi.toNat-lo.toNat) z)
def eu6 (k:IntKind)(x y:Int):Option Int:=if y<0 then none else some (ei7 k x y)
def eH6 (k:IntKind)(x y:Int):Option Int:=if y<0 then none else some (F4 k x y)
def cv8 (x:Int):Option Int:=if 0<=x/\x<=18446744073709551615 then some (Lib.bitLen x.toNat:Int)else none
def cw0 (x y:Int):Option (Int×Int):=if(0<=x/\x<=18446744073709551615)/\(0<=y/\y<=18446744073709551615)then some (x*y/18446744073709551616,x*y%18446744073709551616)else none
theorem eD6 {x:Int}(h0:0<=x)(h1:x<=4611686018427387904):o4 (F4 .u64 (aX3.wrap (o4 x)) 1)=x/2:=by
 rw[j6 (n:=x) (by omega) (by omega)]
 have e:aX3.wrap x=x:=by
  unfold IntKind.wrap
  simp only[eT7,IntKind.signed]
  simp only[show(2:Int)^64=18446744073709551616 from rfl,Bool.false_and,do9,if_false]
  omega
 rw[e]
 have e2:F4 .u64 x 1=x/2:=by
  unfold F4
  show x.fdiv 2=x/2
  exact Int.fdiv_eq_ediv_of_nonneg x (by decide)
 rw[e2]
 exact j6 (by omega) (by omega)
def cV5 {α:Type}(n:Int)(z:α):Option (List α):=if 0<n/\n<=1073741824 then some (cr2 n.toNat z)else none
def bU4 (l:List Int):Option (List Int):=if l.length<4611686018427387904 then some (l.mergeSort fun x y=>decide (x<=y))else none
def cz3 (p:Int):List Int->List Int
 |[]=>[]
 |y::l=>bif y==p then cz3 y l else y::cz3 y l
def bD4:List Int->List Int
 |[]=>[]
 |x::l=>x::cz3 x l
def bm3 (l:List Int):Option (List Int):=if l.length<=9223372036854775807 then some (bD4 l)else none
theorem cx7 {l:List Int}(h:l.length<4611686018427387904):bU4 l=some (l.mergeSort fun x y=>decide (x<=y)):=by
 unfold bU4;rw[if_pos h]
theorem cz4 {l:List Int}(h:l.length<=9223372036854775807):bm3 l=some (bD4 l):=by
 unfold bm3;rw[if_pos h]
theorem cM4 (x:Int):∀(l:List Int) (p:Int),cz3 p (l++[x])=cz3 p l++(if x=l.getLastD p then []else [x])
 |[],p=>by
  show(bif x==p then []else [x])=[]++(if x=p then []else [x])
  by_cases h:x=p
  ·rw[if_pos h,show(x==p)=true by simpa using h];rfl
  ·rw[if_neg h,show(x==p)=false by simpa using h];rfl
 |y::l,p=>by
  simp only[dC8,cz3,List.getLastD_cons]
  rw[cM4 x l y]
  cases y==p<;>rfl
theorem dG0 (x:Int):∀(l:List Int) (h:l≠[]),bD4 (l++[x])=bD4 l++(if x=l.getLast h then []else [x])
 |[],h=>(h rfl).elim
 |y::l,_=>by
  have e:(y::l).getLast (List.cons_ne_nil y l)=l.getLastD y:=by
   cases l with
   |nil=>rfl
   |cons z l=>rw[List.getLast_cons (List.cons_ne_nil z l)];rfl
  simp only[dC8,bD4]
  rw[cM4,e]
open Go.RowKit Go.Shelf Go.Proofs
theorem RVL.fi3 {w:World}{S:Nat->Prop}{E:Nat->Value}{vs:List Value}{a:Value}(h:RVL w S E vs [.t (.v a)]):vs=[a]:=by
 match vs,h with
 |[x],h=>have e:x=a:=RV.tv (h.2 0 (by simp) (by simp));rw[e]
 |[],h=>exact absurd h.1 (by simp)
 |_::_::_,h=>exact absurd h.1 (by simp)
theorem RVL.fi4 {w:World}{S:Nat->Prop}{E:Nat->Value}{vs:List Value}{a b:Value}(h:RVL w S E vs [.t (.v a),.t (.v b)]):vs=[a,b]:=by
 match vs,h with
 |[x,y],h=>have e:x=a:=RV.tv (h.2 0 (by simp) (by simp));have f:y=b:=RV.tv (h.2 1 (by simp) (by simp));rw[e,f]
 |[],h=>exact absurd h.1 (by simp)
 |[_],h=>exact absurd h.1 (by simp)
 |_::_::_::_,h=>exact absurd h.1 (by simp)
theorem dY9 {P:Program}{ρ:Ren}(L:Lays.n129 P ρ)(hc:∀vs w,(callFunc (ρ.f 129) vs).run P w= .ok (.enter (ρ.f 129) vs) w)(x:Int):
  aQ7 P (ρ.f 129) [.t (tK .u64 x)] (cv8 x) (fun r=>.t (tI r)):=by
 refine⟨hc,fun r hr w S E vs hS hv=>?_⟩
 obtain rfl:=hv.fi3
 unfold cv8 at hr
 by_cases h:0<=x/\x<=18446744073709551615
 ·rw[if_pos h]at hr;cases hr
  refine(Any.bits_Len64 L x w h.1 h.2).mono fun e w' ⟨he,hw⟩=>?_
  subst hw
  exact⟨_,S,he,.t (.v _),.refl _ _,hS,fun b hb=>.inl hb⟩
 ·rw[if_neg h]at hr;cases hr
theorem ea0 {P:Program}{ρ:Ren}(L:Lays.n264 P ρ)(hc:∀vs w,(callFunc (ρ.f 264) vs).run P w= .ok (.enter (ρ.f 264) vs) w)(x y:Int):
  aQ7 P (ρ.f 264) [.t (tK .u64 x),.t (tK .u64 y)] (cw0 x y) (fun r=>.P9 [.t (tK .u64 r.1),.t (tK .u64 r.2)]):=by
 refine⟨hc,fun r hr w S E vs hS hv=>?_⟩
 obtain rfl:=hv.fi4
 unfold cw0 at hr
 by_cases h:(0<=x/\x<=18446744073709551615)/\(0<=y/\y<=18446744073709551615)
 ·rw[if_pos h]at hr;cases hr
  obtain⟨a,rfl⟩:∃a:Nat,x=a:=⟨x.toNat,by omega⟩
  obtain⟨b,rfl⟩:∃b:Nat,y=b:=⟨y.toNat,by omega⟩
  refine(Any.bits_Mul64 L a b (by omega) (by omega) w).mono fun e w' ⟨he,hw⟩=>?_
  subst hw
  refine⟨_,S,he,.P9 [_,_] _ rfl fun j h1 h2=>?_,.refl _ _,hS,fun b hb=>.inl hb⟩
  match j,h1 with
  |0,_=>exact .t (.v _)
  |1,_=>exact .t (.v _)
 ·rw[if_neg h]at hr;cases hr
section
variable {ρ:Type} {X:Cx} {ks:List K} {tm U0:List (Nat × T)} {hp:List (Nat × G3)} {Q:ρ -> Exit -> St -> Prop} {all:Array Oper} {o:Oper} {rest:List Oper}
end
theorem cu4 {lo hi:Int}{n:Nat}{y:Unit}(h:cl1 lo hi n=some y):lo.toNat+(hi.toNat-lo.toNat)<=n:=by
 unfold cl1 at h
 split at h
 ·omega
 ·cases h
theorem bA3 {α:Type}{l r:List α}{lo:Nat}(h:lo+r.length<=l.length):(au2 l lo r).length=l.length:=by
 unfold au2;simp;omega
theorem cM6 {α:Type}{l r:List α}{lo:Nat}(h:lo+r.length<=l.length)(i:Nat):(au2 l lo r)[i]? =if i<lo then l[i]?else if i<lo+r.length then r[i-lo]?else l[i]?:=by
 unfold au2
 by_cases h1:i<lo
 ·rw[if_pos h1,dd3,ee2 (by rw[bE9];omega),dp2,if_pos h1]
 ·rw[if_neg h1]
  by_cases h2:i<lo+r.length
  ·rw[if_pos h2,dd3,dB7 (by rw[bE9];omega),bE9,eO4 (by omega),ee2 (by omega)]
  ·rw[if_neg h2,dB7 (by rw[aY1,bE9];omega),aY1,bE9,eO4 (by omega),eV5]
   congr 1;omega
section
variable {P:Program} {w0:World} {L:Lim} {nt:Nat} {tm:List (Nat × T)} {hp:List (Nat × G3)} {S:Nat -> Prop} {E:Nat -> Value} {a:Act} {w:World}
theorem Ok.putAt (h:Ok w0 L nt ⟨tm,hp⟩ S E a w){id e sz n m cap β lo:Nat}{rs r2:List (List Tree)}{news:List Value}(hb:look hp id=some (.rows e sz n rs))(hE:E id= .slice (some ⟨β,0,none⟩) m cap)
  (hlo:lo+r2.length<=rs.length) (hnl:news.length=r2.length*sz) (bg9:∀u∈news,u.oneCell'=true) (h2:∀r∈r2,r.length=sz)
  (hnr:∀i j (hi:i<r2.length) (hj:j<(r2[i]).length) (hb:i*sz+j<news.length),RT w S (news[i*sz+j]) ((r2[i])[j])):
  ∃w',(storeCells ⟨β,lo*sz,none⟩ news).run P w= .ok () w'/\Ok w0 L nt ⟨tm,at7 hp id (.rows e sz n (au2 rs lo r2))⟩ S E a w':=by
 obtain⟨hn,aM1⟩:=h.hp id _ hb
 have hcl:=bA3 hlo
 rcases aM1 with⟨hE',_⟩|⟨β',dF5,cs,hcm,hE',hh,hcl2,hcc,hsz,hcr⟩
 ·rw[hE']at hE;cases hE
 ·rw[hE']at hE
  have hβ:β'=β:=by injection hE with h1;injection h1 with h1;injection h1
  subst hβ
  have hle1:(lo+r2.length)*sz<=dF5*sz:=cz8 _ (by omega)
  rw[ez2]at hle1
  have hst:=run_storeCells_at (P:=P) β' (lo*sz) e news 0 cs.toArray w hh (by simp;rw[hnl,hcl2];exact hle1) bg9
  simp only[dM1]at hst
  refine⟨_,hst,h.setRow hb (by rw[hE'];rfl) hh fun hS bN5=>⟨by rw[hcl];exact hn,.inr ⟨β',dF5,cs.take (lo*sz)++news++cs.drop (lo*sz+news.length),hcm,by rw[hcl];exact hE',bN5,?_,by rw[hcl];exact hcc,?_,?_⟩⟩⟩
  ·simp only[aY1,bE9,dh0];omega
  ·intro r hr
   unfold au2 at hr
   rcases cI5.1 hr with hr|hr
   ·rcases cI5.1 hr with hr|hr
    ·exact hsz r (ey8 hr)
    ·exact h2 r hr
   ·exact hsz r (eX1 hr)
  ·intro i j hi hj hb'
   have hi2:i<rs.length:=by rw[<-hcl];exact hi
   have hg:=cM6 hlo i
   rw[aK2 hi]at hg
   have hcat:∀k,(cs.take (lo*sz)++news++cs.drop (lo*sz+news.length))[k]? =if k<lo*sz then cs[k]?else if k<lo*sz+news.length then news[k-lo*sz]?else cs[k]?:=fun k=>cM6 (l:=cs) (r:=news) (lo:=lo*sz) (by omega) k
   by_cases h1:i<lo
   ·rw[if_pos h1,aK2 hi2]at hg
    have eg:=cp9 hg
    have hj1:j<(rs[i]).length:=by rw[<-eg];exact hj
    have hjs:j<sz:=by rw[<-hsz _ (ba6 hi2)];exact hj1
    have hlt:i*sz+j<lo*sz:=by
     have:(i+1)*sz<=lo*sz:=cz8 _ h1
     rw[dG8]at this;omega
    have hb2:i*sz+j<cs.length:=by omega
    have ec:(cs.take (lo*sz)++news++cs.drop (lo*sz+news.length))[i*sz+j]=cs[i*sz+j]:=by
     apply cp9
     rw[<-aK2,hcat,if_pos hlt,aK2 hb2]
    simp only[eg]
    rw[ec]
    exact(hcr i j hi2 hj1 hb2).mono (fun _ x=>x) hS
   ·rw[if_neg h1]at hg
    by_cases h3:i<lo+r2.length
    ·rw[if_pos h3,aK2 (by omega)]at hg
     have eg:=cp9 hg
     have hj1:j<(r2[i-lo]'(by omega)).length:=by rw[<-eg];exact hj
     have hjs:j<sz:=by rw[<-h2 _ (ba6 (by omega:i-lo<r2.length))];exact hj1
     have e1:i*sz=lo*sz+(i-lo)*sz:=by rw[<-ez2];congr 1;omega
     have hlt:(i-lo)*sz+j<news.length:=by
      have:(i-lo+1)*sz<=r2.length*sz:=cz8 _ (by omega)
      rw[dG8]at this;omega
     have ec:(cs.take (lo*sz)++news++cs.drop (lo*sz+news.length))[i*sz+j]=news[(i-lo)*sz+j]:=by
      apply cp9
      rw[<-aK2,hcat,if_neg (by omega),if_pos (by omega),<-aK2 hlt]
      congr 1;omega
     simp only[eg]
     rw[ec]
     exact(hnr (i-lo) j (by omega) hj1 hlt).mono (fun _ x=>x) hS
    ·rw[if_neg h3,aK2 hi2]at hg
     have eg:=cp9 hg
     have hj1:j<(rs[i]).length:=by rw[<-eg];exact hj
     have hle:(lo+r2.length)*sz<=i*sz:=cz8 _ (by omega)
     rw[ez2]at hle
     have hjs:j<sz:=by rw[<-hsz _ (ba6 hi2)];exact hj1
     have hb2:i*sz+j<cs.length:=by
      have:(i+1)*sz<=dF5*sz:=cz8 _ (by omega)
      rw[dG8]at this;omega
     have ec:(cs.take (lo*sz)++news++cs.drop (lo*sz+news.length))[i*sz+j]=cs[i*sz+j]:=by
      apply cp9
      rw[<-aK2,hcat,if_neg (by omega),if_neg (by omega),aK2 hb2]
     simp only[eg]
     rw[ec]
     exact(hcr i j hi2 hj1 hb2).mono (fun _ x=>x) hS
theorem bW6 {hp:List (Nat×G3)}{id:Nat}{b:G3}:∀{hp:List (Nat×G3)},look hp id=some b->∀k,look (at7 hp id b) k=look hp k:=fun{hp} h k=>by
 rw[aE8]
 by_cases e:id=k
 ·subst e;simp[h]
 ·simp[e]
theorem Ok.dv1 (h:Ok w0 L nt ⟨tm,hp⟩ S E a w){id:Nat}{b:G3}(hb:look hp id=some b):Ok w0 L nt ⟨tm,at7 hp id b⟩ S E a w:={h with
 hp:=fun k c hk=>h.hp k c (by simp only at hk;rw[bW6 (hp:=hp) hb]at hk;exact hk)
 own:=fun k c β hk=>h.own k c β (by simp only at hk;rw[bW6 (hp:=hp) hb]at hk;exact hk)
 at6:=fun k k' c c' β hk hk'=>h.at6 k k' c c' β (by simp only at hk;rw[bW6 (hp:=hp) hb]at hk;exact hk) (by simp only at hk';rw[bW6 (hp:=hp) hb]at hk';exact hk')}
end
section
variable {ρ α:Type} {X:Cx} {ks:List K} {tm U0:List (Nat × T)} {hp:List (Nat × G3)} {m:Option ρ} {Q:ρ -> Exit -> St -> Prop} {all:Array Oper} {o:Oper} {rest:List Oper}
theorem ey1 {w0:World}{L:Lim}{nt:Nat}{S:Nat->Prop}{E:Nat->Value}{a:Act}{w:World}{tm0:List (Nat×T)}(hk:Ok w0 L nt ⟨tm0,hp⟩ S E a w){C4:Tab}{P:Program}(K4:aW1 P C4){t e e' n s0 id sz:Nat}{z0:List Value}{te:TI}{x:Operand}{lo hi:Option Operand}{l:List α}{i j:Int}{enc:α->List Tree}
  (ho:o.op= .slice t x lo hi none) (hx:val tm0 x=some (.own id)) (hb:look hp id=some (.rows e sz n (l.map enc))) (hty:look C4 t=some ⟨s0,.slice e',z0⟩) (hte:look C4 e'=some te) (hsz:te.size=sz)
  (hlo:cw3 tm0 0 lo=some i) (hhi:cw3 tm0 l.length hi=some j) (hc:cl1 i j l.length=some ()):
  ∃v,(execOp a.eval o).run P w= .ok (.value v) w/\RV w S E v (.vw id i.toNat (j.toNat-i.toNat) sz):=by
 unfold cl1 at hc
 split at hc<;>try(cases hc;done)
 rename_i hbd0
 obtain⟨h0,h1,h2⟩:=hbd0
 obtain⟨q,dd,hi',hs,hu,hdd,_⟩:=K4 t _ hty
 simp only[TD.ok]at hdd
 subst hdd
 have hs':=(K4 e' _ hte).aG5 w
 have hxv:a.eval x=E id:=by
  have hv:=hk.val hx
  generalize a.eval x=sv at hv
  cases hv with|own _ _ hE=>exact hE.symm
 obtain⟨hn,aM1⟩:=hk.hp id _ hb
 have hn':n=l.length:=by simpa using hn
 subst hn'
 rcases aM1 with⟨hE,hr0⟩|⟨β,cap,cs,hcm,hE,hh,hcl,hcc,hszr,hcr⟩
 ·have hl0:l=[]:=by simpa using hr0
  subst hl0
  have hj0:j=0:=by simp at h2;omega
  have hi0:i=0:=by omega
  subst hj0 hi0
  have hbd:=bv9 (P:=P) (w:=w) (n:=0) (c:=0) (bn0 hk hlo) (bn0 hk hhi) (do8 0) (do8 0) (do8 0)
  have hbd':(Instr.sliceBounds true 0 0 (lo.map a.eval) (hi.map a.eval) none).run P w= .ok (0,0,0) w:=hbd
  refine⟨.slice none 0 0,?_,.vw id _ _ sz 0 none (.inl rfl)⟩
  simp only[execOp,ho,Instr.sliceAt,bk5,run_underlying hu,ba5,Instr.slice,hxv,hE,fb2,hbd',hs',bO3]
  rfl
 ·have hcc':l.length<=cap:=by simpa using hcc
  have hbd:=bv9 (P:=P) (w:=w) (n:=l.length) (c:=cap) (bn0 hk hlo) (bn0 hk hhi) h0 h1 (by omega)
  simp only[cr4]at hE
  refine⟨_,by
   simp only[execOp,ho,Instr.sliceAt,bk5,run_underlying hu,ba5,Instr.slice,hxv,hE,fb2,hbd,hs',bO3]
   rfl,?_⟩
  refine .vw id _ _ sz _ _ ?_
  by_cases hz:j.toNat-i.toNat=0
  ·exact .inl hz
  ·refine .inr ⟨β,_,cap,hE,?_⟩
   have hne:¬cap=i.toNat:=by omega
   simp only[hne,if_false,ca8,aC3,cV7,hsz]
theorem B5.dh5 {t e e' d n s0 id sz:Nat}{z0:List Value}{te:TI}{x:Operand}{lo hi:Option Operand}{l:List α}{i j:Int}{enc:α->List Tree}{k:Unit->Option ρ}
  (ho:o.op= .slice t x lo hi none) (hd:o.dst=some d) (hdn:bd5 d X.nt=true) (hg:ah9 all.toList tm o.guard=some true) (hx:val tm x=some (.own id)) (hb:look hp id=some (.rows e sz n (l.map enc)))
  (hty:look X.C4 t=some ⟨s0,.slice e',z0⟩) (hte:look X.C4 e'=some te) (hsz:te.size=sz) (hlo:cw3 tm 0 lo=some i) (hhi:cw3 tm l.length hi=some j)
  (h:∀y,cl1 i j l.length=some y->B5 X all rest ks ⟨(d,.vw id i.toNat (j.toNat-i.toNat) sz)::tm,hp⟩ (k y) Q):B5 X all (o::rest) ks ⟨tm,hp⟩ ((cl1 i j l.length).bind k) Q:=
 B5.one hd hdn hg (fun _=>.vw id i.toNat (j.toNat-i.toNat) sz) (fun y S E a w hm hk=>by
  cases y
  exact ey1 hk X.K4 ho hx hb hty hte hsz hlo hhi hm) h
theorem eU2 {w0:World}{L:Lim}{nt:Nat}{S:Nat->Prop}{E:Nat->Value}{a:Act}{w:World}{tm0:List (Nat×T)}(hk:Ok w0 L nt ⟨tm0,hp⟩ S E a w){id e sz n lo q:Nat}{rs:List (List Tree)}{v:Value}(hb:look hp id=some (.rows e sz n rs))(hv:RV w S E v (.vw id lo q sz))(hle:lo+q<=rs.length)
  (bg9:∀r∈rs,∀t∈r,aQ0 t=true):Src w S v q sz ((rs.drop lo).take q):=by
 refine⟨by rw[bE9,dh0];omega,?_⟩
 cases hv with
 |vw _ _ _ _ c ad h=>
  refine⟨ad,c,rfl,fun h0=>?_⟩
  rcases h with h|⟨β,m,cap,hE,ha⟩
  ·omega
  ·obtain⟨hn,aM1⟩:=hk.hp id _ hb
   rcases aM1 with⟨hE',_⟩|⟨β',dF5,cs,hcm,hE',hh,hcl2,hcc,hsz,hcr⟩
   ·rw[hE']at hE;cases hE
   ·rw[hE']at hE
    have hβ:β'=β:=by injection hE with h1;injection h1 with h1;injection h1
    subst hβ
    have hle1:(lo+q)*sz<=dF5*sz:=cz8 _ (by omega)
    rw[ez2]at hle1
    have hlen:((cs.drop (lo*sz)).take (q*sz)).length=q*sz:=by rw[bE9,dh0];omega
    have cell:∀k (hk1:k<q*sz),∃(h1:lo+k/sz<rs.length) (h2:k%sz<(rs[lo+k/sz]).length) (h3:lo*sz+k<cs.length),RT w S (cs[lo*sz+k]) ((rs[lo+k/sz])[k%sz]):=fun k hk1=>by
     have hs0:0<sz:=bK2 hk1
     have h1:k/sz<q:=eX2 (by rw[eg2];exact hk1)
     have h2:k%sz<(rs[lo+k/sz]'(by omega)).length:=by rw[hsz _ (ba6 _)];exact eL1 _ hs0
     have e1:(lo+k/sz)*sz+k%sz=lo*sz+k:=by have:=fb1 k sz;rw[eg2]at this;rw[ez2];omega
     refine⟨by omega,h2,by omega,?_⟩
     have:=hcr (lo+k/sz) (k%sz) (by omega) h2 (by omega)
     simp only[e1]at this
     exact this
    refine⟨⟨β',lo*sz,none⟩,(cs.drop (lo*sz)).take (q*sz),ha,hlen,fun j u hu=>?_,fun u hu=>?_,fun i j hi hj hb2=>?_⟩
    ·rw[dp2]at hu
     split at hu
     ·rw[eV5]at hu
      rw[aC3,cell_of_row w β' _ _ e _ hh];simpa using hu
     ·cases hu
    ·obtain⟨k,hk1,rfl⟩:=cY8.1 hu
     have hk2:k<q*sz:=by rw[hlen]at hk1;exact hk1
     obtain⟨h1,h2,h3,h4⟩:=cell k hk2
     rw[ec4,ex7]
     exact h4.one (bg9 _ (ba6 h1) _ (ba6 h2))
    ·have hi2:i<q:=by rw[bE9,dh0]at hi;omega
     have e1:((rs.drop lo).take q)[i]=rs[lo+i]'(by omega):=by rw[ec4,ex7]
     have hj1:j<(rs[lo+i]'(by omega)).length:=by rw[<-e1];exact hj
     have e2:(lo+i)*sz+j=lo*sz+(i*sz+j):=by rw[ez2];omega
     have hlt:lo*sz+(i*sz+j)<cs.length:=by rw[hlen]at hb2;omega
     have:=hcr (lo+i) j (by omega) hj1 (by rw[e2];exact hlt)
     simp only[e2]at this
     simp only[e1]
     rw[ec4,ex7]
     exact this
theorem B5.copyV {t t2 e e' n s0 id lo q lo2 q2:Nat}{z0:List Value}{te:TI}{s x:Operand}{l:List α}{enc:α->List Tree}{σ₁:St}{hc hc2:Prop}
  (h1:hc) (h2:hc2) (hle:hc->lo+q<=l.length) (hle2:hc2->lo2+q2<=l.length)
  (ho:o.op= .call ⟨.builtin .copy,#[s,x],#[t,t2]⟩) (hg:ah9 all.toList tm o.guard=some true)
  (hty:look X.C4 t=some ⟨s0,.slice e',z0⟩) (hte:look X.C4 e'=some te) (az2:∀y,(enc y).length=te.size) (bg9:∀y,(enc y).all aQ0=true)
  (hs:val tm s=some (.vw id lo q te.size)) (hx:val tm x=some (.vw id lo2 q2 te.size)) (hb:look hp id=some (.rows e te.size n (l.map enc)))
  (at7:bv5 X.nt o.dst (.t (.v (.int .i64 (min q2 q:Nat)))) ⟨tm,at7 hp id (.rows e te.size (au2 l lo (((l.drop lo2).take q2).take q)).length ((au2 l lo (((l.drop lo2).take q2).take q)).map enc))⟩=some σ₁)
  (h:B5 X all rest ks σ₁ m Q):B5 X all (o::rest) ks ⟨tm,hp⟩ m Q:=fun y hy a w ⟨S,E,hk⟩=>by
 have hle:=hle h1
 have hle2:=hle2 h2
 obtain⟨dd,hu,ho2⟩:∃d,X.P.underlying t=some d/\TD.ok X.P (.slice e') d:=by
  obtain⟨i,d,_,_,hu,hdd,_⟩:=X.K4 t _ hty
  exact⟨d,hu,hdd⟩
 simp only[TD.ok]at ho2
 subst ho2
 obtain⟨i0,d0,hi0,hs0,_⟩:=X.K4 e' _ hte
 have hn:n=l.length:=by have:=(hk.hp id _ hb).1;simpa using this
 subst hn
 have cf3:=eU2 hk hb (hk.val hx) (by simpa using hle2) (bG9 bg9 l)
 obtain⟨_,ad2,c2,hxe,cf3⟩:=cf3
 have bg8:=hk.val hs
 have hrl:((l.drop lo2).take q2).length=q2:=by rw[bE9,dh0];omega
 have e0:((l.map enc).drop lo2).take q2=((l.drop lo2).take q2).map enc:=by simp[ff8,fh8]
 have hcl:(au2 l lo (((l.drop lo2).take q2).take q)).length=l.length:=bA3 (by rw[bE9,hrl];omega)
 rw[hcl]at at7
 have e1:(au2 l lo (((l.drop lo2).take q2).take q)).map enc=au2 (l.map enc) lo ((((l.drop lo2).take q2).take q).map enc):=by simp[au2,ff8,fh8]
 rw[e1]at at7
 generalize hse:a.eval s=sv at bg8
 have fin:∀w',(Builtin.copy_ #[t,t2] o.type #[sv,.slice ad2 q2 c2]).run X.P w= .ok (.int .i64 (min q2 q:Nat)) w'->
   Ok X.w0 X.L X.nt ⟨tm,Go.Pv.at7 hp id (.rows e te.size l.length (au2 (l.map enc) lo ((((l.drop lo2).take q2).take q).map enc)))⟩ S E a w'->wpList X.P all (after X.P ks (X.post (Q y))) (o::rest) a w:=fun w' hr hok=>by
  refine wpList_step fun K hK=>?_
  rw[S8 hk hg,if_pos rfl]
  unfold Oper.wp
  have aO0:(execOp a.eval o).run X.P w= .ok (.value (.int .i64 (min q2 q:Nat))) w':=by
   unfold execOp
   simp only[ho,resolve,invoke,builtin,bk5,bO3,ba5,eY8,cS3,ek7,hse,hxe,hr]
  rw[aO0]
  exact hK _ _ (h y hy _ _ ⟨S,E,bz6 hok (.t (.v _)) at7⟩)
 cases bg8 with
 |vw _ _ _ _ c ad hvw=>
  have cf2:Nat.min q2 q=min q2 q:=rfl
  by_cases hz:min q2 q=0
  · --nothing to copy
   have hf:(Builtin.firstCells i0.size 0 (.slice ad2 q2 c2)).run X.P w= .ok #[] w:=by cases ad2<;>simp[Builtin.firstCells,loadCells,loadCellsFrom]
   have cP2:((l.drop lo2).take q2).take q=[]:=eq6 (by rw[bE9,hrl,Nat.min_comm];exact hz)
   refine fin w ?_ ?_
   ·cases ad<;>simp[Builtin.copy_,run_underlying hu,Builtin.lenOf,sizeOf,typeInfo,hi0,hf,goInt,cf2,hz,storeCells]
   ·rw[cP2]
    have:au2 (l.map enc) lo (List.map enc [])=l.map enc:=by simp[au2]
    rw[this]
    exact hk.dv1 hb
  ·have hq0:0<q2:=by omega
   obtain⟨ad2',dq3,rfl,hal,hac,hon,har⟩:=cf3 hq0
   rcases hvw with hvw|⟨β,m',cap,hE,rfl⟩
   ·omega
   ·have hle3:min q2 q*te.size<=q2*te.size:=cz8 _ (Nat.min_le_left _ _)
    have du9:(Builtin.firstCells i0.size (min q2 q) (.slice (some ad2') q2 c2)).run X.P w= .ok (dq3.take (min q2 q*te.size)).toArray w:=by
     have:=run_loadCells_list (P:=X.P) w ad2' (dq3.take (min q2 q*te.size)) (fun j u hu=>by
      rw[dp2]at hu
      split at hu
      ·exact hac j u hu
      ·cases hu)
     rw[bE9,hal,eO4 hle3]at this
     simp[Builtin.firstCells,hs0,this]
    have hr2l:((((l.drop lo2).take q2).take q).map enc).length=min q2 q:=by rw[cr4,bE9,hrl,Nat.min_comm]
    obtain⟨w',hst,hok⟩:=hk.putAt (P:=X.P) (lo:=lo) (r2:=(((l.drop lo2).take q2).take q).map enc) (news:=dq3.take (min q2 q*te.size)) hb hE (by rw[hr2l];simp;omega) (by rw[bE9,hal,hr2l];exact eO4 hle3) (fun u hu=>hon u (ey8 hu))
     (fun r hr=>by obtain⟨z,_,rfl⟩:=cX4.1 hr;exact az2 z)
     (fun i j hi hj hbb=>by
      rw[hr2l]at hi
      have hi2:i<(((l.map enc).drop lo2).take q2).length:=by rw[e0,cr4,hrl];omega
      have eg:((((l.drop lo2).take q2).take q).map enc)[i]'(by rw[hr2l];exact hi)=(((l.map enc).drop lo2).take q2)[i]:=by
       simp[ec4,ex7]
      have hj2:j<((((l.map enc).drop lo2).take q2)[i]).length:=by rw[<-eg];exact hj
      have hb3:i*te.size+j<dq3.length:=by rw[bE9]at hbb;omega
      have:=har i j hi2 hj2 hb3
      simp only[eg]
      rw[ec4]
      exact this)
    refine fin w' ?_ hok
    simp[Builtin.copy_,run_underlying hu,Builtin.lenOf,sizeOf,typeInfo,hi0,cf2,du9,goInt,hst]
theorem B5.ej8 {t e e' n s0 id lo q:Nat}{z0:List Value}{te:TI}{x:Operand}{l:List α}{enc:α->List Tree}{σ₁:St}{hc:Prop}(z:α)
  (h1:hc) (hle:hc->lo+q<=l.length)
  (ho:o.op= .call ⟨.builtin .clear,#[x],#[t]⟩) (hg:ah9 all.toList tm o.guard=some true)
  (hty:look X.C4 t=some ⟨s0,.slice e',z0⟩) (hte:look X.C4 e'=some te) (hz:te.zero.length=te.size) (bJ2:bd5 0 te.size=true) (hones:te.zero.all Value.oneCell'=true) (az2:enc z=te.zero.map fun v=>aE1 (.v v))
  (hx:val tm x=some (.vw id lo q te.size)) (hb:look hp id=some (.rows e te.size n (l.map enc)))
  (at7:bv5 X.nt o.dst (.P9 []) ⟨tm,at7 hp id (.rows e te.size (au2 l lo (cr2 q z)).length ((au2 l lo (cr2 q z)).map enc))⟩=some σ₁)
  (h:B5 X all rest ks σ₁ m Q):B5 X all (o::rest) ks ⟨tm,hp⟩ m Q:=fun y hy a w ⟨S,E,hk⟩=>by
 have hle:=hle h1
 obtain⟨dd,hu,ho2⟩:∃d,X.P.underlying t=some d/\TD.ok X.P (.slice e') d:=by
  obtain⟨i,d,_,_,hu,hdd,_⟩:=X.K4 t _ hty
  exact⟨d,hu,hdd⟩
 simp only[TD.ok]at ho2
 subst ho2
 have hn:n=l.length:=by have:=(hk.hp id _ hb).1;simpa using this
 subst hn
 have bg8:=hk.val hx
 have hcl:(au2 l lo (cr2 q z)).length=l.length:=bA3 (by rw[List.length_replicate];exact hle)
 rw[hcl]at at7
 have e1:(au2 l lo (cr2 q z)).map enc=au2 (l.map enc) lo ((cr2 q z).map enc):=by simp[au2,ff8,fh8]
 rw[e1]at at7
 generalize hse:a.eval x=sv at bg8
 have fin:∀w',(Builtin.clear_ #[t] o.type #[sv]).run X.P w= .ok (.tuple #[]) w'->
   Ok X.w0 X.L X.nt ⟨tm,Go.Pv.at7 hp id (.rows e te.size l.length (au2 (l.map enc) lo ((cr2 q z).map enc)))⟩ S E a w'->wpList X.P all (after X.P ks (X.post (Q y))) (o::rest) a w:=fun w' hr hok=>by
  refine wpList_step fun K hK=>?_
  rw[S8 hk hg,if_pos rfl]
  unfold Oper.wp
  have aO0:(execOp a.eval o).run X.P w= .ok (.value (.tuple #[])) w':=by
   unfold execOp
   simp only[ho,resolve,invoke,builtin,bk5,bO3,ba5,eY8,cS3,ek7,hse,hr]
  rw[aO0]
  exact hK _ _ (h y hy _ _ ⟨S,E,bz6 hok (.P9 [] [] rfl fun j h1=>by simp at h1) at7⟩)
 cases bg8 with
 |vw _ _ _ _ c ad hvw=>
  by_cases hq:q=0
  ·subst hq
   refine fin w ?_ ?_
   ·cases ad<;>simp[Builtin.clear_,run_underlying hu]
   ·have:au2 (l.map enc) lo (List.map enc (cr2 0 z))=l.map enc:=by simp[au2]
    rw[this]
    exact hk.dv1 hb
  ·rcases hvw with hvw|⟨β,m',cap,hE,rfl⟩
   ·exact absurd hvw hq
   ·obtain⟨zv,hzr,hzc⟩:=(X.K4 e' _ hte).bU0 w
    have hzl:zv.cells.size=te.size:=by rw[<-hz,<-hzc];simp
    have cm3:(Builtin.zeroCells zv.cells q).toList=aW5 q te.zero:=by
     unfold Builtin.zeroCells
     rw[dC5 q zv.cells (by rw[hzl];exact dD3 fg4 (bd4 bJ2)),hzc]
    have hlen:(aW5 q te.zero).length=q*te.size:=by rw[br5,hz]
    have hp0:0<te.zero.length:=by rw[hz];exact bd4 bJ2
    obtain⟨w',hst,hok⟩:=hk.putAt (P:=X.P) (lo:=lo) (r2:=(cr2 q z).map enc) (news:=aW5 q te.zero) hb hE (by simp;omega) (by rw[hlen];simp)
     (fun u hu=>by
      obtain⟨k,hk1,rfl⟩:=cY8.1 hu
      have hk2:k<q*te.zero.length:=by rw[br5]at hk1;exact hk1
      have hg:=bY3 te.zero hp0 q k hk2
      rw[aK2 hk1]at hg
      have:=cY9 hg.symm
      exact bN8.1 hones _ this)
     (fun r hr=>by
      obtain⟨y,hy,rfl⟩:=cX4.1 hr
      rw[List.eq_of_mem_replicate hy,az2,cr4,hz])
     (fun i j hi hj hbb=>by
      have hi2:i<q:=by simpa using hi
      have eg:((cr2 q z).map enc)[i]=te.zero.map fun v=>aE1 (.v v):=by simp[az2]
      have hj2:j<te.size:=by rw[eg,cr4,hz]at hj;exact hj
      have hk2:i*te.size+j<q*te.zero.length:=by rw[hz];rw[hlen]at hbb;exact hbb
      have hg:=bY3 te.zero hp0 q (i*te.size+j) hk2
      rw[aK2 hbb]at hg
      have hmod:(i*te.size+j)%te.zero.length=j:=by rw[hz,eg2,fg3,fa2 hj2]
      rw[hmod,aK2 (by rw[hz];exact hj2)]at hg
      have e2:=cp9 hg
      simp only[eg]
      rw[e2,dw3]
      exact bb7 (.v _))
    refine fin w' ?_ hok
    obtain⟨q',rfl⟩:∃k,q=k+1:=⟨q-1,by omega⟩
    simp only[Builtin.clear_,run_underlying hu,bk5,ba5,ff2,cV8,hzr,cm3,hst,bO3]
end
section
variable {X:Cx} {ops:Array Oper} {fe fuel:Nat} {le l l':List Bool} {σ':St} {o:Oper}
end
section
variable {ρ:Type} {X:Cx} {ks:List K} {σ:St} {m:Option ρ} {Q:ρ -> Exit -> St -> Prop}
theorem cb2 {P:Program}{Q:Exit->Act->World->Prop}{l:Nat}{a:Act}{w:World}:∀(ks:List K),after P ks Q (.goto l) a w->Q (.goto l) a w
 |[],h=>h
 | .c _::ks,h=>cb2 ks h
 | .e _::ks,h=>cb2 ks h
theorem E4.scope {x:Code}(hQ:∀r l σ,¬Q r (.goto l) σ)(h:E4 X (.c x::ks) σ m Q):E4 X (.c (.scope x)::ks) σ m Q:=fun r hr a w hw=>by
 refine wp_scope_straight (wp_mono (h r hr a w hw) ?_)
 intro e a w he
 cases e with
 |goto l=>obtain⟨σ,_,hq⟩:=cb2 ks he;exact hQ r l σ hq
 |_=>exact he
theorem E4.label {l:Nat}(h:E4 X ks σ m Q):E4 X (.c (.label l)::ks) σ m Q:=fun r hr a w hw=>wp_label (h r hr a w hw)
end
def bm:Nat->Nat->List Bool
 |0,_=>[]
 |n+1,k=>bM1 (k%2) 1::bm n (k/2)
abbrev G3.rs {α:Type}(e sz:Nat)(l:List α)(enc:α->List Tree):G3:=.rows e sz l.length (l.map enc)
section
variable {X:Cx} {ops:Array Oper} {fe fuel:Nat} {le l:List Bool} {σ σ₁ σ₂ σ':St} {o:Oper}
theorem ch9.fa1 {i:Nat}{rs:List Nat}(l':List Bool)(ho:ops[i]? =some o)(hl:l.set i true=l')(h₁:B5 X ops [o] [] σ (some ()) (fun _ e σ''=>e= .normal/\σ''=σ₁))(h₂:aT5 X ops fe le fuel l' σ₁ σ')(h₃:ch9 X ops fe le fuel l σ σ' rs):ch9 X ops fe le fuel l σ σ' (i::rs):=fun j hj Q hp hQ a w hw=>by
 rcases ch6.1 hj with rfl|hj
 ·have h:=h₁ () rfl a w hw
  unfold wpOp
  simp only[ho]
  have next:∀a w,wpList X.P ops (after X.P [] (X.post fun e σ''=>e= .normal/\σ''=σ₁)) [] a w->wpAny X.P .any ops Q fuel (l.toArray.setIfInBounds j true) a w:=fun a w ⟨σ'',hs,_,e⟩=>by
   rw[eW9,hl]
   subst e;exact h₂ Q hp hQ a w hs
  unfold wpList at h
  split at h
  ·rename_i hg
   rw[if_pos hg]
   rcases h with h|⟨h1,h2⟩
   ·refine .inl ?_
    revert h
    unfold Oper.wp
    generalize(execOp a.eval o).run X.P w=r
    intro h
    cases r with
    |ok n w'=>
     cases n<;>simp only[Oper.upon]at h|-
     all_goals first
      |exact next _ _ h
      |exact Calls.mono h (fun e w'' he=>by cases e<;>first|exact next _ _ he|(obtain⟨_,_,_,_,he,_⟩:=he;cases he)|(obtain⟨_,_,he,_⟩:=he;cases he))
      |exact Rows.mono h (fun _ _ he=>next _ _ he)
      |(obtain⟨_,_,he,_⟩:=h;cases he)
      |exact h
    |halt x w'=>cases x<;>simp only[Oper.upon]at h|- <;>first|exact h|(obtain⟨_,_,he,_⟩:=h;cases he)
   ·obtain⟨_,_,_,_,he,_⟩:=h2;cases he
  ·rename_i hg
   rw[if_neg hg]
   exact next _ _ h
 ·exact h₃ j hj Q hp hQ a w hw
def okA (nt:Nat)(ops:Array Oper)(l:List Bool)(i d:Nat)(o:Oper):Bool:=bd5 d nt&&o.guard.isNone&&Region.noSelect ops&&Region.free .any ops l.toArray i&&(Region.ready .any ops l.toArray).contains i
theorem eT0 {nt i d:Nat}(h:okA nt ops l i d o=true):bd5 d nt=true/\o.guard=none/\Region.noSelect ops=true/\Region.free .any ops l.toArray i=true/\(Region.ready .any ops l.toArray).contains i=true:=by
 unfold okA at h
 simp only[aJ5,eX3]at h
 exact⟨h.1.1.1.1,h.1.1.1.2,h.1.1.2,h.1.2,h.2⟩
end
def Rd {α:Type}(s:Sem α):Prop:=∀P w r w',s.run P w= .ok r w'->w'=w
theorem aM6 {α:Type}(x:α):Rd (pure x:Sem α):=fun P w r w' h=>by
 simp only[bO3,eW7]at h;exact h.2.symm
theorem bl0 {α:Type}(x:Halt):Rd (Sem.halt x:Sem α):=fun P w r w' h=>by
 simp[fi7]at h
theorem aG3 {α β:Type}{s:Sem α}{f:α->Sem β}(h:Rd s)(k:∀x,Rd (f x)):Rd (s>>=f):=fun P w r w' e=>by
 rw[bk5]at e
 cases hs:s.run P w with
 |ok x w1=>
  rw[hs]at e
  have:=h P w x w1 hs
  subst this
  exact k x P w1 r w' e
 |halt x w1=>rw[hs]at e;cases e
theorem dR9 (a:Addr)(m:Mode):Rd (load a m):=fun P w r w' h=>by
 unfold load fi7 at h
 split at h
 ·simp only[fi7,eW7]at h;exact h.2.symm
 ·split at h
  ·simp only[fi7,eW7]at h;exact h.2.symm
  ·cases h
theorem cS6:Rd program:=fun P w r w' h=>by
 unfold program fi7 at h
 simp only[fi7,eW7]at h;exact h.2.symm
theorem bB4 (t:TypeId):Rd (underlying t):=by
 unfold underlying
 refine aG3 cS6 fun p=>?_
 split
 ·exact aM6 _
 ·exact bl0 _
theorem es7 (t:TypeId):Rd (isAgg t):=by
 unfold isAgg
 refine aG3 (bB4 t) fun d=>?_
 split<;>exact aM6 _
theorem df7 (t:TypeId):Rd (sizeOf t):=by
 unfold sizeOf typeInfo
 refine aG3 (aG3 cS6 fun p=>?_) fun i=>aM6 _
 split
 ·exact aM6 _
 ·exact bl0 _
theorem dz1 (a:Addr):∀(n i:Nat) (acc:Array Value),Rd (loadCellsFrom a i n acc)
 |0,i,acc=>by unfold loadCellsFrom;exact aM6 _
 |n+1,i,acc=>by
  unfold loadCellsFrom
  exact aG3 (dR9 _ _) fun v=>dz1 a n (i+1) _
theorem eb4 (t:TypeId)(v:Value):Rd (Instr.loadAt t v):=by
 unfold Instr.loadAt
 refine aG3 ?_ fun a=>?_
 ·unfold Instr.sureAddr
  split
  ·exact aM6 _
  ·exact bl0 _
 ·unfold loadVar
  refine aG3 (es7 t) fun b=>?_
  split
  ·refine aG3 (df7 t) fun n=>aG3 ?_ fun c=>aM6 _
   unfold loadCells
   exact dz1 _ _ _ _
  ·exact dR9 _ _
theorem dJ9 (v:Value)(k:Nat):Rd (Instr.extract v k):=by
 unfold Instr.extract
 split
 ·split
  ·exact aM6 _
  ·exact bl0 _
 ·exact bl0 _
theorem eb3 {α:Type}(k:IntKind)(x y:Int)(c:BoundsCode):Rd (boundsPanic k x y c:Sem α):=fun P w r w' e=>by
 exfalso
 have key:∀b w r w',(runtimePanic (.bounds (eX4.wrap x) y b c):Sem α).run P w≠ .ok r w':=fun b w r w' h=>by
  unfold runtimePanic at h
  rw[bk5]at h
  cases hp:program.run P w with
  |ok p w1=>rw[hp]at h;simp[goPanic,fi7]at h
  |halt p w1=>rw[hp]at h;cases h
 unfold boundsPanic at e
 dsimp only at e
 split at e<;>
 ·rw[bk5]at e
  revert e
  generalize fi7 P _ w=q
  intro e
  cases q with
  |ok b w1=>exact key b w1 r w' e
  |halt p w1=>cases e
theorem es5 (v:Value):Rd (asIntOf v):=by
 unfold asIntOf
 split
 ·exact aM6 _
 ·exact bl0 _
 ·exact bl0 _
theorem eG7 (v:Value):Rd (Instr.sureAddr v):=by
 unfold Instr.sureAddr
 split
 ·exact aM6 _
 ·exact bl0 _
theorem es6 (t:TypeId)(x ix:Value):Rd (Instr.indexAt t x ix):=by
 unfold Instr.indexAt
 refine aG3 (es5 _) fun p=>aG3 (bB4 t) fun d=>?_
 have key:∀q:Option Addr×Nat×TypeId,Rd (match q with
   |(base,len,elem)=>do
    let d<-underlying t
    let tiny:=len<=1&&(match d with| .array ..=>true|_=>false)
    match base with
    |some a=>
     if 0<=p.2/\p.2<len then pure (Value.pointer (some (a.add (p.2.toNat*(<-sizeOf elem)))))
     else if tiny then unsupported (.noEntry "op/indexAddr.an index out of range at an array of length 0 or 1 (ledger 616)")
     else boundsPanic p.1 p.2 len .index
    |none=>boundsPanic p.1 p.2 0 .index:Sem Value):=fun(base,len,elem)=>by
  dsimp only
  refine aG3 (bB4 t) fun d=>?_
  repeat' split
  all_goals first|exact aG3 (df7 _) fun n=>aM6 _|exact bl0 _|exact eb3 _ _ _ _
 dsimp only at key|-
 split
 ·exact aG3 (eG7 _) fun a=>aG3 (aM6 _) fun q=>key q
 ·exact aG3 (aM6 _) fun q=>key q
 ·exact aG3 (bl0 _) fun q=>key q
def cA5:Op->Bool
 | .move _| .assign _| .load .. | .extract .. | .indexAddr ..=>true
 |_=>false
theorem dk9 {P:Program}{o:Oper}(h:cA5 o.op=true)(ρ:Operand->Value)(w:World)(n:Next)(w':World)(e:(execOp ρ o).run P w= .ok n w'):w'=w/\∃u,n= .value u:=by
 have key:∀s:Sem Value,Rd s->(execOp ρ o).run P w=(s>>=fun v=>pure (Next.value v)).run P w->w'=w/\∃u,n= .value u:=by
  intro s hs he
  rw[he,bk5]at e
  cases hr:s.run P w with
  |ok x w1=>
   rw[hr]at e
   have h1:=hs P w x w1 hr
   simp only[ba5,bO3,eW7]at e
   exact⟨by rw[<-e.2,h1],x,e.1.symm⟩
  |halt x w1=>rw[hr]at e;cases e
 obtain⟨dst,op,type,pos,aft,guard⟩:=o
 cases op<;>simp only[cA5,do9]at h
 case move x=>exact key (pure (ρ x)) (aM6 _) (by simp[execOp])
 case assign x=>exact key (pure (ρ x)) (aM6 _) (by simp[execOp])
 case load t x=>exact key (Instr.loadAt t (ρ x)) (eb4 _ _) rfl
 case extract x k=>exact key (Instr.extract (ρ x) k) (dJ9 _ _) rfl
 case indexAddr t x ix=>exact key (Instr.indexAt t (ρ x) (ρ ix)) (es6 _ _ _) rfl
section
variable {P:Program} {ops:Array Oper} {Q:Exit -> Act -> World -> Prop} {md:Region.Mode} {S:World -> Prop}
theorem ee1 {j:Nat}{oj:Oper}(hj:ops[j]? =some oj)(hh:cA5 oj.op=true){K:Act->World->Prop}{a:Act}{w:World}(hS:S w)(h:wpOp P ops Q j K a w):wpOp P ops Q j (fun a' w'=>S w'/\K a' w') a w:=by
 unfold wpOp at*
 simp only[hj]at*
 split
 ·rename_i hw
  rw[if_pos hw]at h
  refine h.imp (fun h=>?_) id
  unfold Oper.wp at*
  cases hr:(execOp a.eval oj).run P w with
  |ok n w'=>
   rw[hr]at h
   obtain⟨e1,u,e2⟩:=dk9 hh a.eval w n w' hr
   subst e1
   subst e2
   simp only[Oper.upon]at h|-
   exact⟨hS,h⟩
  |halt x w'=>
   rw[hr]at h
   cases x<;>simp only[Oper.upon]at h|- <;>exact h
 ·rename_i hw
  rw[if_neg hw]at h
  exact⟨hS,h⟩
theorem dM4 {i:Nat}{oi:Oper}{v:Value}(hi:ops[i]? =some oi)(hsel:∀(j:Nat) (o:Oper) cs b,ops[j]? =some o->o.op≠ .select cs b)
  (hQ:∀c a w,Q (.panic c) (a.put oi.dst v) w->Q (.panic c) a w) (W:Nat->Bool):
  ∀(fuel:Nat) (A4:Array Bool) (a:Act) (w:World),
   (∀j,W j=true->A4.getD j true=false/\∃oj,ops[j]? =some oj/\∃e∈oj.after,Region.binds md e=true/\(e.on=i\/W e.on=true))->
   (∀j oj,ops[j]? =some oj->j≠i->A4.getD j true=false->W j=false->oi.apart ops oj=true/\cA5 oj.op=true)->
   i∈Region.ready md ops A4->YieldsIf P ops S oi v a->S w->
   wpAny P md ops Q fuel (A4.setIfInBounds i true) (a.put oi.dst v) w->wpAny P md ops Q (fuel+1) A4 a w:=by
 have hnW:∀(A4:Array Bool) (j:Nat),(∀j,W j=true->A4.getD j true=false/\∃oj,ops[j]? =some oj/\∃e∈oj.after,Region.binds md e=true/\(e.on=i\/W e.on=true))->i∈Region.ready md ops A4->j∈Region.ready md ops A4->W j=false:=by
  intro A4 j hW hr hj
  cases hWj:W j
  ·rfl
  ·exfalso
   obtain⟨_,oj,ho,e,he,hb,hor⟩:=hW j hWj
   obtain⟨_,oj',ho',cm1⟩:=mem_ready.1 hj
   rw[ho]at ho'
   cases ho'
   have h1:=cm1 e he hb
   have h0:A4.getD e.on true=false:=by
    rcases hor with heq|hor
    ·rw[heq];exact(mem_ready.1 hr).1
    ·exact(hW e.on hor).1
   rcases da9 e.on A4.size with h'|h'
   ·simp[h']at h0 h1;rw[h0]at h1;cases h1
   ·simp[Array.getElem?_eq_none h']at h1
 intro fuel
 induction fuel with
 |zero=>
  intro A4 a w hW hrest hr hy hS H
  refine⟨fun h=>(by rw[h]at hr;cases hr),fun j hj=>?_⟩
  by_cases hji:j=i
  ·subst hji;exact hy.wpOp hi hS H
  ·have:=ready_mono hj hji
   rw[H.1]at this
   cases this
 |succ fuel ih=>
  intro A4 a w hW hrest hr hy hS H
  refine⟨fun h=>(by rw[h]at hr;cases hr),fun j hj=>?_⟩
  by_cases hji:j=i
  ·subst hji;exact hy.wpOp hi hS H
  ·have h1:=H.2 j (ready_mono hj hji)
   have hWj:=hnW A4 j hW hr hj
   obtain⟨hjun,oj,hoj,cm1⟩:=mem_ready.1 hj
   obtain⟨hap,hharm⟩:=hrest j oj hoj hji hjun hWj
   have h2:=ee1 hoj hharm hS (wpOp_putIf hoj hap (fun cs b=>hsel i oi cs b hi) (fun cs b=>hsel j oj cs b hoj) hQ hy h1)
   have hW':∀k,W k=true->(A4.setIfInBounds j true).getD k true=false/\∃ok,ops[k]? =some ok/\∃e∈ok.after,Region.binds md e=true/\(e.on=i\/W e.on=true):=fun k hk=>by
    obtain⟨x1,x2⟩:=hW k hk
    have hjk:j≠k:=fun h=>by rw[h]at hWj;rw[hk]at hWj;cases hWj
    exact⟨by rw[getD_set_ne true hjk];exact x1,x2⟩
   have hrest':∀k ok,ops[k]? =some ok->k≠i->(A4.setIfInBounds j true).getD k true=false->W k=false->oi.apart ops ok=true/\cA5 ok.op=true:=fun k ok hk hki hun hWk=>by
    refine hrest k ok hk hki ?_ hWk
    by_cases hjk:j=k
    ·subst hjk;exact hjun
    ·rw[getD_set_ne true hjk]at hun;exact hun
   refine wpOp_mono (fun a' w' h3=>ih (A4.setIfInBounds j true) a' w' hW' hrest' (ready_mono hr (Ne.symm hji)) h3.2.1 h3.1 ?_) h2
   rw[Array.setIfInBounds_comm _ _ hji]
   exact h3.2.2
end
def okW (ops:Array Oper)(l W:List Bool)(i:Nat)(oi:Oper):Bool:=(dp9 ops.size).all fun j=>
 bif W.getD j false then(!(l.getD j true))&&(match ops[j]?with|some oj=>oj.after.any (fun e=>Region.binds .any e&&(e.on==i||W.getD e.on false))|none=>false)
 else(j==i||l.getD j true||match ops[j]?with|some oj=>oi.apart ops oj&&cA5 oj.op|none=>true)
def okL (nt:Nat)(ops:Array Oper)(l W:List Bool)(i d:Nat)(o:Oper):Bool:=bd5 d nt&&o.guard.isNone&&Region.noSelect ops&&okW ops l W i o&&(Region.ready .any ops l.toArray).contains i&&dO2 W.length ops.size
def df8:Op->Bool
 | .move _| .assign _| .load .. | .extract ..=>true
 |_=>false
theorem dX3 {o:Op}(h:df8 o=true):cA5 o=true:=by cases o<;>simp_all[df8,cA5]
def dR6:Op->Bool
 | .move _| .assign _| .fieldAddr .. | .nilCheck _| .extract ..=>true
 |_=>false
def ew7 (nt:Nat)(ops:Array Oper)(l:List Bool)(i k:Nat)(o:Oper):Bool:=match o.dst with
 |some d=>bif bM1 k 0 then dR6 o.op&&okA nt ops l i d o else df8 o.op&&okL nt ops l (bm ops.size (k/2)) i d o
 |none=>false
def ej5 (nt:Nat)(ops:Array Oper):List (Nat×Nat)->List Bool->Bool
 |[],_=>true
 |(i,k)::r,l=>(match ops[i]?with|some o=>ew7 nt ops l i k o|none=>false)&&ej5 nt ops r (l.set i true)
def cB0:List (Nat×Nat)->List Bool->List Bool
 |[],l=>l
 |(i,_)::r,l=>cB0 r (l.set i true)
def evA (C4:Tab)(ops:Array Oper):List (Nat×Nat)->List (Nat×T)->List (Nat×G3)->Option (List (Nat×T))
 |[],tm,_=>some tm
 |(i,_)::r,tm,hp=>match ops[i]?with
  |some o=>match o.dst with
   |some d=>match evalOp C4 ⟨tm,hp⟩ o with
    |some (t,_)=>evA C4 ops r ((d,t)::tm) hp
    |none=>none
   |none=>none
  |none=>none
section
variable {X:Cx} {ops:Array Oper} {fe fuel:Nat} {le l:List Bool} {σ':St} {o:Oper}
theorem dy8 {t:T}{tm:List (Nat×T)}{hp:List (Nat×G3)}{s2:St}(hb:dR6 o.op=true)(he:evalOp X.C4 ⟨tm,hp⟩ o=some (t,s2)):∀S E a w,Ok X.w0 X.L X.nt ⟨tm,hp⟩ S E a w->∃v,(∀w',(execOp a.eval o).run X.P w'= .ok (.value v) w')/\RV w S E v t:=by
 intro S E a w hk
 rw[aU6]at he
 obtain⟨dst,op,type,pos,aft,guard⟩:=o
 cases op<;>simp only[dR6,do9]at hb<;>simp only[bk8]at he
 case move x=>exact⟨_,fun w'=>rfl,hk.val (N6 he).1⟩
 case assign x=>exact⟨_,fun w'=>rfl,hk.val (N6 he).1⟩
 case fieldAddr s x f=>
  split at he<;>try(cases he;done)
  ·rename_i id off sz fs z hx hti
   split at he<;>try(cases he;done)
   rename_i p n hfs
   cases he
   obtain⟨β,hpv,hE⟩:=(hk.val hx).bK3
   exact⟨_,fun w'=>by simp[execOp,hpv,aU7 (X.K4 s _ hti) hfs β off rfl],.ptr id _ β hE⟩
  ·rename_i cells sz fs z hx hti
   split at he<;>try(cases he;done)
   rename_i p n hfs
   cases he
   have hv:=hk.val hx
   obtain⟨b,o',hpv⟩:=hv.ce2
   rw[hpv]at hv
   exact⟨_,fun w'=>by simp[execOp,hpv,aU7 (X.K4 s _ hti) hfs b o' rfl],hv.cG8 p⟩
  ·rename_i id k sz' off sz fs z hx hti
   split at he<;>try(cases he;done)
   rename_i p n hfs
   cases he
   have hv:=hk.val hx
   generalize hpv:a.eval x=pv at hv
   cases hv with
   |pe _ _ _ _ β n' cap hE=>
    exact⟨.pointer (some ⟨β,k*sz'+off+p,none⟩),fun w'=>by simp[execOp,hpv,aU7 (X.K4 s _ hti) hfs β _ rfl],by rw[dD0];exact .pe id k sz' (off+p) β n' cap hE⟩
 case nilCheck x=>
  have hv:∀y,val tm x=some y->(∃b o',a.eval x= .pointer (some ⟨b,o',none⟩))->y=t->∃v,(∀w',(execOp a.eval (⟨dst,.nilCheck x,type,pos,aft,guard⟩:Oper)).run X.P w'= .ok (.value v) w')/\RV w S E v t:=by
   intro y hx ⟨b,o',hpv⟩ hy
   subst hy
   exact⟨_,fun w'=>by simp only[execOp];rw[hpv];rfl,hpv▸hk.val hx⟩
  split at he<;>try(cases he;done)
  ·rename_i id off hx
   cases he
   obtain⟨β,hpv,_⟩:=(hk.val hx).bK3
   exact hv _ hx ⟨β,_,hpv⟩ rfl
  ·rename_i cells hx
   cases he
   obtain⟨b,o',hpv⟩:=(hk.val hx).ce2
   exact hv _ hx ⟨b,o',hpv⟩ rfl
  ·rename_i id i sz off hx
   cases he
   have h2:=hk.val hx
   generalize hpv:a.eval x=pv at h2
   cases h2 with
   |pe _ _ _ _ β n' cap hE=>exact hv _ hx ⟨β,_,hpv⟩ rfl
 case extract x k=>
  split at he<;>try(cases he;done)
  rename_i l hx
  obtain⟨hx',_⟩:=N6 he
  have hv:=hk.val hx
  cases hxe:a.eval x<;>rw[hxe]at hv<;>try(cases hv;done)
  cases hv with
  |P9 vs _ hl hr=>
   obtain⟨hk',rfl⟩:=bt7.1 hx'
   exact⟨_,fun w'=>by simp[execOp,hxe,Instr.extract,hl,hk'],hr k (by omega) hk'⟩
theorem dX4 {t:T}{tm:List (Nat×T)}{hp:List (Nat×G3)}{s2:St}(hb:df8 o.op=true)(he:evalOp X.C4 ⟨tm,hp⟩ o=some (t,s2)):s2=⟨tm,hp⟩:=by
 rw[aU6]at he
 obtain⟨dst,op,type,pos,aft,guard⟩:=o
 cases op<;>simp only[df8,do9]at hb<;>simp only[bk8]at he
 case move x=>exact(N6 he).2
 case assign x=>exact(N6 he).2
 case load t x=>
  split at he<;>try(cases he;done)
  ·split at he<;>try(cases he;done)
   exact(N6 he).2
  ·exact(N6 he).2
 case extract x k=>
  split at he<;>try(cases he;done)
  exact(N6 he).2
theorem aT5.late {d:Nat}{t:T}{tm:List (Nat×T)}{hp:List (Nat×G3)}{s2:St}(i:Nat)(W:List Bool)(ho:ops[i]? =some o)(hd:o.dst=some d)(hh:df8 o.op=true)(hb:okL X.nt ops l W i d o=true)(he:evalOp X.C4 ⟨tm,hp⟩ o=some (t,s2))
  (h:aT5 X ops fe le fuel (l.set i true) ⟨(d,t)::tm,hp⟩ σ'):aT5 X ops fe le (fuel+1) l ⟨tm,hp⟩ σ':=fun Q hpn hQ a w ⟨S,E,hk⟩=>by
 unfold okL at hb
 simp only[aJ5,eX3]at hb
 obtain⟨⟨⟨⟨⟨hdn,hg⟩,hs⟩,hw⟩,hr⟩,hWl⟩:=hb
 obtain⟨v,w',E',hdo,hok,hv⟩:=bE0 X.K4 hk he
 rw[dX4 hh he]at hok
 replace hh:=dX3 hh
 have bf6:(execOp a.eval o).run X.P w= .ok (.value v) w/\w'=w:=by
  rcases hdo with hdo|⟨hdo,_⟩
  ·obtain⟨e1,_⟩:=dk9 hh a.eval w _ _ hdo
   rw[e1]at hdo
   exact⟨hdo,e1⟩
  ·obtain⟨_,u,e2⟩:=dk9 hh a.eval w _ _ hdo
   cases e2
 obtain⟨bf6,rfl⟩:=bf6
 unfold okW at hw
 rw[bN8]at hw
 have hlt:i<ops.size:=(dx1.1 ho).1
 refine dM4 (S:=fun z=>z=w') ho (Region.noSelect_spec hs) (fun c a w hc=>absurd hc (hpn _ _ _)) (fun j=>W.getD j false) fuel l.toArray a w' (fun j hj=>?_) (fun j oj hoj hji hun hWj=>?_) (by simpa using hr) (v:=v) (.inl ⟨?_,fun z hz=>?_⟩) rfl ?_
 ·have hjs:j<ops.size:=by
   have h1:j<W.length:=by
    rcases da9 j W.length with h|h
    ·exact h
    ·rw[cW2,List.getElem?_eq_none h]at hj;cases hj
   have:=bd4 hWl
   omega
  have:=hw j (ee4.2 hjs)
  simp only[hj,fj8,aJ5,bO4]at this
  obtain⟨t1,t2⟩:=this
  refine⟨?_,?_⟩
  ·rw[cW2]at t1
   rw[eR4]
   simpa using t1
  ·cases hoj:ops[j]?with
   |none=>rw[hoj]at t2;cases t2
   |some oj=>
    rw[hoj]at t2
    obtain⟨e,he1,he2⟩:=Array.any_eq_true'.1 t2
    simp only[aJ5,cG1,beq_iff_eq]at he2
    exact⟨oj,rfl,e,he1,he2.1,he2.2⟩
 ·have hjs:j<ops.size:=(dx1.1 hoj).1
  have:=hw j (ee4.2 hjs)
  rw[hWj]at this
  simp only[fj6,cG1,beq_iff_eq]at this
  rcases this with(h1|h1)|h1
  ·exact absurd h1 hji
  ·rw[cW2]at h1
   rw[eR4]at hun
   have:l[j]?.getD true=false:=by simpa using hun
   rw[h1]at this;cases this
  ·rw[hoj]at h1
   simpa using h1
 ·unfold Region.wanted;rw[hg]
 ·subst hz;exact bf6
 ·rw[eW9]
  exact h Q hpn hQ _ _ ⟨S,E',by rw[hd];exact hok.put (bd4 hdn) hv⟩
theorem aT5.goN:∀(is:List (Nat×Nat)) {fuel:Nat}{l:List Bool}{tm tm':List (Nat×T)}{hp:List (Nat×G3)},ej5 X.nt ops is l=true->evA X.C4 ops is tm hp=some tm'->aT5 X ops fe le fuel (cB0 is l) ⟨tm',hp⟩ σ'->aT5 X ops fe le (fuel+is.length) l ⟨tm,hp⟩ σ'
 |[],fuel,l,tm,tm',hp,_,he,h=>by cases he;exact h
 |(i,k)::r,fuel,l,tm,tm',hp,hb,he,h=>by
  unfold ej5 at hb
  unfold evA at he
  rw[aJ5]at hb
  obtain⟨h1,h2⟩:=hb
  cases ho:ops[i]?with
  |none=>rw[ho]at h1;cases h1
  |some o=>
   rw[ho]at h1 he
   simp only at h1 he
   unfold ew7 at h1
   cases hd:o.dst with
   |none=>rw[hd]at h1;cases h1
   |some d=>
    rw[hd]at h1 he
    simp only at h1 he
    cases hv:evalOp X.C4 ⟨tm,hp⟩ o with
    |none=>rw[hv]at he;cases he
    |some q=>
     obtain⟨t,s2⟩:=q
     rw[hv]at he
     simp only at he
     have ih:=aT5.goN r h2 he h
     rw[bq0,<-dD0]
     cases hk:bM1 k 0<;>rw[hk]at h1
     ·simp only[fj6,aJ5]at h1
      exact aT5.late i _ ho hd h1.1 h1.2 hv ih
     ·simp only[fj8,aJ5]at h1
      have k:=eT0 h1.2
      exact aT5.ff0 i _ ho rfl hd k.1 k.2.1 k.2.2.1 k.2.2.2.1 k.2.2.2.2 (dy8 h1.1 hv) ih
theorem aT5.go {n:Nat}{tm tm':List (Nat×T)}{hp:List (Nat×G3)}(fuel:Nat)(is:List (Nat×Nat))(hn:fuel+is.length=n)(hb:ej5 X.nt ops is l=true)(he:evA X.C4 ops is tm hp=some tm')(h:aT5 X ops fe le fuel (cB0 is l) ⟨tm',hp⟩ σ'):aT5 X ops fe le n l ⟨tm,hp⟩ σ':=hn▸aT5.goN is hb he h
theorem aT5.one {σ σ₁:St}(i:Nat)(ho:ops[i]? =some o)(hr:Region.ready .any ops l.toArray=[i])(h₁:B5 X ops [o] [] σ (some ()) (fun _ e σ''=>e= .normal/\σ''=σ₁))(h₂:aT5 X ops fe le fuel (l.set i true) σ₁ σ'):aT5 X ops fe le (fuel+1) l σ σ':=
 aT5.all [i] hr rfl (ch9.fa1 _ ho rfl h₁ h₂ ch9.nil)
end
section
variable {ρ α:Type} {X:Cx} {ks:List K} {tm:List (Nat × T)} {hp:List (Nat × G3)} {Q:ρ -> Exit -> St -> Prop} {all:Array Oper} {o:Oper} {rest:List Oper}
end
abbrev NI (x:Int):T:=.t (tI x)
abbrev NB (x:Bool):T:=.t (tB x)
abbrev NS {α:Type}(e:α->List Tree)(l:List α):T:=.t (tS e l)
inductive Cf where
 |S (ks:List K) (σ:St)
 |O (all:Array Oper) (ops:List Oper) (ks:List K) (σ:St)
def adv (C4:Tab)(nt:Nat):Nat->Cf->Cf
 |0,c=>c
 |n+1,.S (.c (.seq x y)::ks) σ=>adv C4 nt n (.S (.c x:: .c y::ks) σ)
 |n+1,.S (.c .skip::ks) σ=>adv C4 nt n (.S ks σ)
 |n+1,.S (.c (.block id x)::ks) σ=>adv C4 nt n (.S (.c x:: .e id::ks) σ)
 |n+1,.S (.e _::ks) σ=>adv C4 nt n (.S ks σ)
 |n+1,.S (.c (.region _ ops false)::ks) σ=>adv C4 nt n (.O ops ops.toList ks σ)
 |n+1,.O _ [] ks σ=>adv C4 nt n (.S ks σ)
 |n+1,.O all (o::r) ks σ=>match cx3 C4 nt all.toList 1 (o::r) σ with
  |(ops,σ')=>adv C4 nt n (.O all ops ks σ')
 |_+1,c=>c
section
variable {ρ τ:Type} {X:Cx} {ks ks':List K} {σ σ':St} {m:Option ρ} {Q:ρ -> Exit -> St -> Prop} {all all':Array Oper} {ops cn5:List Oper}
def eY3 {ρ:Type}(X:Cx)(c:Cf)(m:Option ρ)(Q:ρ->Exit->St->Prop):Prop:=match c with
 | .S ks σ=>E4 X ks σ m Q
 | .O all ops ks σ=>B5 X all ops ks σ m Q
theorem bG6:∀(n:Nat) (c:Cf),eY3 X (adv X.C4 X.nt n c) m Q->eY3 X c m Q:=by
 intro n
 induction n with
 |zero=>intro c h;exact h
 |succ n ih=>
  intro c h
  unfold adv at h
  split at h
  ·cases‹_=_›
  ·rename_i e;cases e;exact E4.seq (ih _ h)
  ·rename_i e;cases e;exact E4.skip (ih _ h)
  ·rename_i e;cases e;exact E4.block (ih _ h)
  ·rename_i e;cases e;exact E4.fa5 (ih _ h)
  ·rename_i e;cases e;exact E4.region (ih _ h)
  ·rename_i e;cases e;exact B5.nil (ih _ h)
  ·rename_i all o r ks σ e
   cases e
   split at h
   rename_i he
   exact B5.run 1 he (ih _ h)
  ·exact h
theorem E4.o (n:Nat)(he:adv X.C4 X.nt n (.S ks σ)= .O all ops ks' σ')(h:B5 X all ops ks' σ' m Q):E4 X ks σ m Q:=bG6 (X:=X) n (.S ks σ) (by rw[he];exact h)
theorem E4.s (n:Nat)(he:adv X.C4 X.nt n (.S ks σ)= .S ks' σ')(h:E4 X ks' σ' m Q):E4 X ks σ m Q:=bG6 (X:=X) n (.S ks σ) (by rw[he];exact h)
theorem B5.o (n:Nat)(he:adv X.C4 X.nt n (.O all ops ks σ)= .O all' cn5 ks' σ')(h:B5 X all' cn5 ks' σ' m Q):B5 X all ops ks σ m Q:=bG6 (X:=X) n (.O all ops ks σ) (by rw[he];exact h)
theorem B5.s (n:Nat)(he:adv X.C4 X.nt n (.O all ops ks σ)= .S ks' σ')(h:E4 X ks' σ' m Q):B5 X all ops ks σ m Q:=bG6 (X:=X) n (.O all ops ks σ) (by rw[he];exact h)
theorem E4.l {r:ρ}(n:Nat)(he:adv X.C4 X.nt n (.S ks σ)= .S [] σ')(h:Q r .normal σ'):E4 X ks σ (some r) Q:=E4.s n he (.leaf h)
theorem B5.l {r:ρ}(n:Nat)(he:adv X.C4 X.nt n (.O all ops ks σ)= .S [] σ')(h:Q r .normal σ'):B5 X all ops ks σ (some r) Q:=B5.s n he (.leaf h)
theorem E4.r {r:ρ}(n:Nat)(he:adv X.C4 X.nt n (.S ks σ)= .S (.c .ret::ks') σ')(h:Q r .ret σ'):E4 X ks σ (some r) Q:=E4.s n he (.ret h)
theorem B5.r {r:ρ}(n:Nat)(he:adv X.C4 X.nt n (.O all ops ks σ)= .S (.c .ret::ks') σ')(h:Q r .ret σ'):B5 X all ops ks σ (some r) Q:=B5.s n he (.ret h)
abbrev nrm {τ:Type}(f:τ->St):τ->Exit->St->Prop:=fun t e σ'=>e= .normal/\Sub (f t) σ'
theorem lf {e:Exit}{σ₁:St}(h₁:σ₁.tm.map (dw1 σ.tm)=σ₁.tm.map (fun p=>some p.2))(h₂:σ₁.hp.map (bE4 σ.hp)=σ₁.hp.map (fun p=>some p.2)):e=e/\Sub σ₁ σ:=⟨rfl,.of h₁ h₂⟩
theorem rt {p q:Prop}(h:p):(Exit.ret=Exit.ret\/q)/\p:=⟨.inl rfl,h⟩
def eJ7 (nt:Nat)(all:Array Oper)(tm:List (Nat×T))(o:Oper):Option (Nat×List T×Nat):=match ah9 all.toList tm o.guard with
 |some true=>match dr5 tm o with
  |some (n,targs,aQ2)=>match bm8 [] targs,o.dst with
   |some aC6,some d=>bif bd5 d nt then some (n,aC6++aQ2.map T.el,d)else none
   |_,_=>none
  |none=>none
 |_=>none
theorem B5.k {o:Oper}{rest:List Oper}{n d:Nat}{args:List T}{m₁:Option τ}{res:τ->T}{k:τ->Option ρ}{tm:List (Nat×T)}{hp:List (Nat×G3)}(hc:aQ7 X.P n args m₁ res)
  (ho:eJ7 X.nt all tm o=some (n,args,d)) (h:∀t,B5 X all rest ks ⟨(d,res t)::tm,hp⟩ (k t) Q):B5 X all (o::rest) ks ⟨tm,hp⟩ (m₁.bind k) Q:=by
 unfold eJ7 at ho
 split at ho<;>try(cases ho;done)
 rename_i hg
 split at ho<;>try(cases ho;done)
 rename_i n' targs aQ2 hz
 split at ho<;>try(cases ho;done)
 rename_i aC6 d' hf hd
 cases hb:bd5 d' X.nt with
 |false=>rw[hb]at ho;cases ho
 |true=>
  rw[hb]at ho
  simp only[fj8,aI5,aX4]at ho
  obtain⟨rfl,rfl,rfl⟩:=ho
  exact B5.call (σ₂:=fun t=>⟨(d',res t)::tm,hp⟩) hg hz hf hc (fun t=>by rw[hd];simp only[bv5,hb,fj8]) h
theorem aQ7.i {P:Program}{C4:Tab}(K4:aW1 P C4){n:Nat}{fn:Func}{c:Code}{args:List T}{m:Option τ}{res:τ->T}(nt:Nat)(rs:List ResultVar)
  (aL2:∀vs w,(callFunc n vs).run P w= .ok (.enter n vs) w) (hf:P.funcs[n]? =some fn) (hb:fn.body=some c) (hnt:fn.ntmps=nt) (hrs:fn.results.toList=rs) (hsz:dO2 args.length nt=true)
  (body:∀(w0:World) (L:Lim),E4 ⟨P,C4,K4,w0,L,nt⟩ [.c c] ⟨number 0 args,[]⟩ m (fun r e σ'=>(e= .ret\/e= .normal)/\dn8 C4 σ' rs=some (res r))):aQ7 P n args m res:=aQ7.intro K4 nt rs aL2 hf hb hnt hrs (bd4 hsz) body
theorem bh4.i {P:Program}{C4:Tab}(K4:aW1 P C4){n:Nat}{fn:Func}{c:Code}{args:List T}{hp:List (Nat×G3)}{m:Option τ}{res:τ->T}{Z4:τ->List (Nat×G3)}(nt:Nat)(rs:List ResultVar)
  (aL2:∀vs w,(callFunc n vs).run P w= .ok (.enter n vs) w) (hf:P.funcs[n]? =some fn) (hb:fn.body=some c) (hnt:fn.ntmps=nt) (hrs:fn.results.toList=rs) (hsz:dO2 args.length nt=true)
  (body:∀(w0:World) (L:Lim),E4 ⟨P,C4,K4,w0,L,nt⟩ [.c c] ⟨number 0 args,hp⟩ m (fun r e σ'=>(e= .ret\/e= .normal)/\eM8 C4 σ' rs (res r) (Z4 r))):bh4 P n args hp m res Z4:=bh4.intro K4 nt rs aL2 hf hb hnt hrs (bd4 hsz) body
end
def dr3 (nt:Nat)(all:Array Oper)(tm:List (Nat×T))(hp:List (Nat×G3))(o:Oper)(lm nm:List (Nat×Nat))(aC6:List T)(chp:List (Nat×G3)):
  Option (Nat×List T×List T×List (Nat×G3)×Nat×List (Nat×G3)):=match ah9 all.toList tm o.guard with
 |some true=>match Pv.bD3 tm o,bT8 lm aC6,aS4 lm chp,o.dst with
  |some (n,targs),some am5,some aO2,some d=>bif bp1 lm nm tm hp&&bd5 d nt then some (n,targs,am5,aO2,d,aq0 lm hp)else none
  |_,_,_,_=>none
 |_=>none
section
variable {ρ τ:Type} {X:Cx} {ks:List K} {m:Option ρ} {Q:ρ -> Exit -> St -> Prop} {all:Array Oper}
theorem B5.g {o:Oper}{rest:List Oper}{n d:Nat}{targs am5 aC6:List T}{chp aO2 hp2:List (Nat×G3)}{m₁:Option τ}{res:τ->T}{bI1:τ->List (Nat×G3)}{k:τ->Option ρ}{tm:List (Nat×T)}{hp:List (Nat×G3)}(lm nm:List (Nat×Nat))
  {dK4:τ->T}{rhp:τ->List (Nat×G3)} (hc:bh4 X.P n aC6 chp m₁ res bI1) (he:dr3 X.nt all tm hp o lm nm aC6 chp=some (n,targs,am5,aO2,d,hp2)) (hmr:bB2 targs am5=am5)
  (bS6:aO2.map (bE4 hp)=aO2.map (fun p=>some p.2)) (dl2:∀t,aM7 (lm++nm) (res t)=some (dK4 t)) (hrhp:∀t,aS4 (lm++nm) (bI1 t)=some (rhp t))
  (h:∀t,m₁=some t->B5 X all rest ks ⟨(d,dK4 t)::tm,rhp t++hp2⟩ (k t) Q):B5 X all (o::rest) ks ⟨tm,hp⟩ (m₁.bind k) Q:=by
 unfold dr3 at he
 split at he<;>try(cases he;done)
 rename_i hg
 split at he<;>try(cases he;done)
 rename_i n' targs0 targs1 rchp1 d' ho ha hr hd
 cases hb:(bp1 lm nm tm hp&&bd5 d' X.nt)with
 |false=>rw[hb]at he;cases he
 |true=>
  rw[hb]at he
  simp only[fj8,aI5,aX4]at he
  obtain⟨rfl,rfl,rfl,rfl,rfl,rfl⟩:=he
  rw[aJ5]at hb
  intro r hr' a w ⟨S,E,hk⟩
  cases hm₁:m₁ with
  |none=>simp[hm₁]at hr'
  |some t=>
   simp only[hm₁,aH3]at hr'
   have hm:=hb.1
   obtain⟨vs,bf6,hv⟩:=dr2 hk ho hc.1
   let Ec:Nat->Value:=fun i=>match look lm i with|some j=>E j|none=>E i
   have hEc:∀i j,look lm i=some j->Ec i=E j:=fun i j h=>by simp[Ec,h]
   have dd5:RVL w S Ec vs aC6:=by
    have h1:=bX0 (u:=targs1) hv
    rw[hmr]at h1
    exact bs2 (fun i j h=>(hEc i j h).symm) h1 ha
   have cf1:∀p∈rchp1,∃b',look hp p.1=some b'/\cn1 b' p.2=p.2:=by
    intro p Z4
    obtain⟨n,hn,rfl⟩:=cY8.1 Z4
    have:(rchp1.map (bE4 hp))[n]? =(rchp1.map (fun p=>some p.2))[n]?:=by rw[bS6]
    rw[cG5,cG5,aK2 hn]at this
    simp only[ca8,aI5]at this
    unfold bE4 at this
    split at this
    ·rename_i b' hb';exact⟨b',hb',cp9 this⟩
    ·cases this
   have hO:ci2 w S Ec chp:=by
    refine⟨fun i b hb=>?_,fun i b β hb hβ=>?_,fun i i' b b' β hb hb' hβ hβ'=>?_⟩
    ·obtain⟨j,b',e1,e2,e3⟩:=bs1 hr hb
     obtain⟨b0,e4,e5⟩:=cf1 _ e3
     have h1:=dm0 (u:=b') (hk.hp j b0 e4)
     rw[show cn1 b0 b'=b' from e5]at h1
     rw[hEc i j e1]
     exact ed7 (fun i j h=>(hEc i j h).symm) h1 e2
    ·obtain⟨j,b',e1,e2,e3⟩:=bs1 hr hb
     obtain⟨b0,e4,e5⟩:=cf1 _ e3
     rw[hEc i j e1]at hβ
     have:=hk.own j b0 β e4 hβ
     exact⟨this.1,this.2.1⟩
    ·obtain⟨j,b1,e1,e2,e3⟩:=bs1 hr hb
     obtain⟨b0,e4,e5⟩:=cf1 _ e3
     obtain⟨j',b1',e1',e2',e3'⟩:=bs1 hr hb'
     obtain⟨b0',e4',e5'⟩:=cf1 _ e3'
     rw[hEc i j e1]at hβ
     rw[hEc i' j' e1']at hβ'
     have:=hk.at6 j j' b0 b0' β e4 e4' hβ hβ'
     subst this
     have hm':=hm
     simp only[bp1,aJ5]at hm'
     have nd:=(nodup_append (by simpa using hm'.1.1)).1
     have r1:=bE7 nd e1
     rw[bE7 nd e1']at r1
     exact(cp9 r1).symm
   have aL2:=hc.2 t hm₁ w S Ec vs hk.aG9 hO dd5
   refine wpList_step fun K hK=>?_
   rw[S8 hk hg,if_pos rfl]
   unfold Oper.wp
   rw[bf6,Oper.upon_enter]
   refine aL2.mono fun e w' ⟨v,S',E',he,hv',aL3,h1,h2,hO',h3,h4⟩=>?_
   subst he
   have at7:∀t,bv5 X.nt o.dst (dK4 t) ⟨tm,rhp t++aq0 lm hp⟩=some ⟨(d',dK4 t)::tm,rhp t++aq0 lm hp⟩:=fun t=>by rw[hd];simp only[bv5,hb.2,fj8]
   obtain⟨S2,E2,hok,hrv⟩:=hk.called hm hr bS6 hEc hv' aL3 h1 h2 hO' h3 h4 (dl2 t) (hrhp t)
   exact hK _ _ (h t hm₁ r hr' _ _ ⟨S2,E2,bz6 hok hrv (at7 t)⟩)
end
section
variable {X:Cx} {all:Array Oper} {Vs:List T} {tm0:List (Nat × T)} {hp:List (Nat × G3)} {o:Oper} {ops:List Oper} {V:T} {l:List T}
end
def chain (ops:Array Oper)(l:List Bool):List Nat->List (Nat×Nat)
 |[]=>[]
 |i::r=>(i,match ops[i]?with|some o=>bif dR6 o.op then 0 else 2*bitsOf ((dp9 ops.size).map fun j=>(!(l.getD j true))&&waits ops.toList ops.size j i)+1|none=>0)::chain ops (l.set i true) r
where bitsOf:List Bool->Nat
 |[]=>0
 |b::r=>(bif b then 1 else 0)+2*bitsOf r
section
variable {X:Cx} {ops:Array Oper} {fe:Nat} {le l:List Bool} {σ':St}
theorem aT5.ga {n:Nat}{tm tm':List (Nat×T)}{hp:List (Nat×G3)}(fuel:Nat)(is:List Nat)(hb:(bM1 (fuel+(chain ops l is).length) n&&ej5 X.nt ops (chain ops l is) l)=true)(he:evA X.C4 ops (is.map fun i=>(i,0)) tm hp=some tm')
  (h:aT5 X ops fe le fuel (cB0 (is.map fun i=>(i,0)) l) ⟨tm',hp⟩ σ'):aT5 X ops fe le n l ⟨tm,hp⟩ σ':=by
 rw[aJ5]at hb
 have e1:∀(is:List Nat) (l l':List Bool) (tm:List (Nat×T)),evA X.C4 ops (chain ops l' is) tm hp=evA X.C4 ops (is.map fun i=>(i,0)) tm hp:=by
  intro is
  induction is with
  |nil=>intro l l' tm;rfl
  |cons i r ih=>
   intro l l' tm
   rw[chain,cS3,evA,evA]
   split<;>try rfl
   split<;>try rfl
   split<;>try rfl
   exact ih l _ _
 have e2:∀(is:List Nat) (l l':List Bool),cB0 (chain ops l' is) l=cB0 (is.map fun i=>(i,0)) l:=by
  intro is
  induction is with
  |nil=>intro l l';rfl
  |cons i r ih=>intro l l';rw[chain,cS3,cB0,cB0];exact ih _ _
 exact aT5.go fuel (chain ops l is) (bp9 hb.1) hb.2 ((e1 is l l tm).trans he) (by rw[e2];exact h)
end
structure GK:Type 1 where
 {α:Type}
 enc:α->List Tree
 l:List α
 i:Int
inductive V:Type 1 where
 |mk {α:Type} (a:α)
 |gf (f:GK)
inductive Tr:Type 1 where
 |ok
 |bad
 |eq (a b:V)
 |and (x y:Tr)
 |all {τ:Type} (f:τ->Tr)
def Tr.den:Tr->Prop
 | .ok=>True
 | .bad=>False
 | .eq a b=>a=b
 | .and x y=>x.den/\y.den
 | .all f=>∀t,(f t).den
inductive Tv:Type 1 where
 |ok
 |no (b:Bool)
 |v (a:V)
 |and (x y:Tv)
 |all {τ:Type} (f:τ->Tv)
def Tr.l:Tr->Tv
 | .ok=>.ok
 | .bad=>.no false
 | .eq a _=>.v a
 | .and x y=>.and x.l y.l
 | .all f=>.all fun t=>(f t).l
def Tr.r:Tr->Tv
 | .ok=>.ok
 | .bad=>.no true
 | .eq _ b=>.v b
 | .and x y=>.and x.r y.r
 | .all f=>.all fun t=>(f t).r
theorem Tr.of:∀{x:Tr},x.l=x.r->x.den
 | .ok,_=>trivial
 | .bad,h=>by simp[Tr.l,Tr.r]at h
 | .eq a b,h=>by
  show a=b
  simpa[Tr.l,Tr.r]using h
 | .and x y,h=>by
  simp only[Tr.l,Tr.r,Tv.and.injEq]at h
  exact⟨Tr.of h.1,Tr.of h.2⟩
 | .all f,h=>by
  simp only[Tr.l,Tr.r,Tv.all.injEq,heq_eq_eq,true_and]at h
  exact fun t=>Tr.of (congrFun h t)
theorem V.eq {α:Type}{a b:α}(h:V.mk a=V.mk b):a=b:=by simpa using h
def dA6 (σ₁ σ:St):Tr:=.and (.eq (.mk (σ₁.tm.map (dw1 σ.tm))) (.mk (σ₁.tm.map fun p=>some p.2))) (.eq (.mk (σ₁.hp.map (bE4 σ.hp))) (.mk (σ₁.hp.map fun p=>some p.2)))
theorem cp8 {σ₁ σ:St}(h:(dA6 σ₁ σ).den):Sub σ₁ σ:=.of (V.eq h.1) (V.eq h.2)
def aD5 (d:Nat):List Nat->Bool
 |[]=>false
 |x::l=>bif bM1 x d then true else aD5 d l
def gk (all:List Oper)(kb:List Nat)(tm:List (Nat×T)):Option (Nat×Bool)->Option Bool
 |none=>some true
 |some (j,want)=>match all[j]?with
  |some o=>match o.dst with
   |some d=>match look tm d with
    |some (.t (.v (.bool b)))=>bif aD5 d kb then some (match want with|true=>b|false=>!b)else none
    |some (.t (.v (.tuple _)))=>some false
    |_=>none
   |none=>none
  |none=>none
theorem aG0 {all:List Oper}{kb:List Nat}{tm:List (Nat×T)}{g:Option (Nat×Bool)}{b:Bool}(h:gk all kb tm g=some b):ah9 all tm g=some b:=by
 cases g with
 |none=>exact h
 |some p=>
  obtain⟨j,want⟩:=p
  simp only[gk]at h
  simp only[ah9]
  cases ho:all[j]?with
  |none=>simp only[ho]at h;cases h
  |some o=>
   simp only[ho]at h|-
   cases hd:o.dst with
   |none=>simp only[hd]at h;cases h
   |some d=>
    simp only[hd]at h|-
    split at h<;>try(cases h;done)
    ·cases hb:aD5 d kb<;>simp only[hb,fj8,fj6,reduceCtorEq]at h
     rename_i hl;simp only[hl];exact h
    ·rename_i hl;simp only[hl];exact h
def rmv:List Nat->List (Nat×T)->List (Nat×T)
 |_,[]=>[]
 |ds,(k,x)::r=>bif aD5 k ds then rmv ds r else(k,x)::rmv (k::ds) r
def aW4:List Oper->List Nat
 |[]=>[]
 |o::r=>match o.dst with|some d=>d::aW4 r|none=>aW4 r
def dJ6:Op->Bool
 | .binOp op _ _ y _=>match op with
  | .quo| .rem| .shl| .shr=>(match y with| .const _=>true|_=>false)
  |_=>true
 | .index _ _ y=>(match y with| .const _=>true|_=>false)
 | .indexAddr _ _ y=>(match y with| .const _=>true|_=>false)
 |_=>true
def dY3 (o:Op):Bool:=bA9 o&&dJ6 o
theorem de2 {o:Op}(h:dY3 o=true):bA9 o=true:=by
 unfold dY3 at h;rw[aJ5]at h;exact h.1
def cut (d:Nat):List Oper->Option (List Oper×Nat×Op×List Oper)
 |[]=>none
 |o::r=>match(match o.op with| .pick (.tmp k) _ _=>bM1 k d|_=>false),o.dst with
  |true,some q=>some ([o],q,o.op,r)
  |_,_=>match cut d r with
   |some (g,q,op,r')=>some (o::g,q,op,r')
   |none=>none
theorem dG3 {d:Nat}:∀{l g r:List Oper}{q:Nat}{op:Op},cut d l=some (g,q,op,r)->l=g++r
 |[],_,_,_,_,h=>by cases h
 |o::l,g,r,q,op,h=>by
  unfold cut at h
  split at h
  ·simp only[aI5,aX4]at h
   obtain⟨rfl,_,_,rfl⟩:=h;rfl
  ·split at h<;>try(cases h;done)
   rename_i hc
   simp only[aI5,aX4]at h
   obtain⟨rfl,rfl,rfl,rfl⟩:=h
   rw[dG3 hc];rfl
def comb (b v w:Bool):Op->Option Bool
 | .pick _ _ (.const (.bool false))=>match w with|false=>some (b&&v)|true=>none
 | .pick _ (.const (.bool true)) _=>match v with|true=>some (b||w)|false=>none
 |_=>some (bif b then v else w)
theorem eB0 {b v w c:Bool}{op:Op}(h:comb b v w op=some c):c=bif b then v else w:=by
 unfold comb at h
 split at h
 ·split at h<;>simp at h
  subst h;cases b<;>simp
 ·split at h<;>simp at h
  subst h;cases b<;>simp
 ·simp at h;exact h.symm
mutual
def evG (C4:Tab)(nt:Nat)(all:List Oper)(hp:List (Nat×G3)):Nat->List Nat->List Oper->List (Nat×T)->Option (List (Nat×T))
 |0,_,_,_=>none
 |_+1,_,[],tm=>some tm
 |f+1,kb,o::r,tm=>match gk all kb tm o.guard with
  |some true=>bif dY3 o.op then match evalOp C4 ⟨tm,hp⟩ o,o.dst with
    |some (t,_),some d=>bif bd5 d nt then evG C4 nt all hp f kb r ((d,t)::tm)else none
    |_,_=>none
   else none
  |some false=>match o.dst with
   |some d=>bif bd5 d nt then evG C4 nt all hp f kb r ((d,.t (.v undef))::tm)else none
   |none=>none
  |none=>match evP C4 nt all hp f kb (o::r) tm with
   |some (r',tm')=>evG C4 nt all hp f kb r' tm'
   |none=>none
def evP (C4:Tab)(nt:Nat)(all:List Oper)(hp:List (Nat×G3)):Nat->List Nat->List Oper->List (Nat×T)->Option (List Oper×List (Nat×T))
 |0,_,_,_=>none
 |f+1,kb,ops,tm=>match ops with
  |[]=>none
  |o::_=>match o.guard with
   |none=>none
   |some (j,_)=>match all[j]?with
    |none=>none
    |some oj=>match oj.dst with
     |none=>none
     |some d=>match look tm d,cut d ops with
      |some (.t (.v (.bool b))),some (g,q,op,r)=>match evG C4 nt all hp f (d::kb) g ((d,.t (.v (.bool true)))::tm),evG C4 nt all hp f (d::kb) g ((d,.t (.v (.bool false)))::tm)with
       |some t1,some t2=>match look t1 q,look t2 q with
        |some (.t (.v (.bool v))),some (.t (.v (.bool w)))=>match comb b v w op with
         |some c=>some (r,(q,.t (.v (.bool c)))::rmv (aW4 g) tm)
         |none=>none
        |_,_=>none
       |_,_=>none
      |_,_=>none
end
def stO (C4:Tab)(nt:Nat)(all:List Oper)(kb:List Nat)(o:Oper)(r:List Oper)(tm:List (Nat×T))(hp:List (Nat×G3)):Option (List Oper×St):=
 match gk all kb tm o.guard with
 |some true=>bif dJ6 o.op then(match cG9 C4 tm hp o with
  |some (t,σ)=>match bv5 nt o.dst t σ with
   |some σ'=>some (r,σ')
   |none=>none
  |none=>none)else none
 |some false=>match bv5 nt o.dst (.t (.v undef)) ⟨tm,hp⟩with
  |some σ'=>some (r,σ')
  |none=>none
 |none=>match evP C4 nt all hp 64 kb (o::r) tm with
  |some (r',tm')=>some (r',⟨tm',hp⟩)
  |none=>none
end Go.Pv
namespace Go.Pv
open Go.RowKit
theorem br8 {k d:Nat}{l:List Nat}:aD5 k (d::l)=false↔d≠k/\aD5 k l=false:=by
 simp only[aD5]
 cases hb:bM1 d k
 ·simp only[fj6]
  exact⟨fun h=>⟨fun e=>by subst e;simp at hb,h⟩,fun h=>h.2⟩
 ·simp only[fj8]
  have:=bp9 hb
  simp[this]
theorem I2 {α:Type}{d k:Nat}{x:α}{l:List (Nat×α)}(h:d≠k):look ((d,x)::l) k=look l k:=by simp[look,C5 h]
theorem cm8:∀{tm:List (Nat×T)}{ds:List Nat}{k:Nat},aD5 k ds=false->look (rmv ds tm) k=look tm k
 |[],ds,k,_=>rfl
 |(j,x)::r,ds,k,h=>by
  unfold rmv
  by_cases hjk:j=k
  ·subst hjk;rw[h];simp[look]
  ·cases hj:aD5 j ds<;>simp only[fj8,fj6]
   ·rw[I2 hjk,I2 hjk,cm8 (br8.2 ⟨hjk,h⟩)]
   ·rw[cm8 h,I2 hjk]
theorem cT2:∀{tm:List (Nat×T)}{ds:List Nat}{k:Nat},aD5 k ds=true->look (rmv ds tm) k=none
 |[],_,_,_=>rfl
 |(j,x)::r,ds,k,h=>by
  unfold rmv
  cases hj:aD5 j ds<;>simp only[fj8,fj6]
  ·have hjk:j≠k:=fun e=>by subst e;rw[h]at hj;cases hj
   rw[I2 hjk]
   exact cT2 (by simp[aD5,h])
  ·exact cT2 h
theorem cm4 {ds:List Nat}{tm:List (Nat×T)}{k:Nat}{t:T}(h:look (rmv ds tm) k=some t):aD5 k ds=false/\look tm k=some t:=by
 cases hk:aD5 k ds
 ·exact⟨rfl,by rwa[cm8 hk]at h⟩
 ·rw[cT2 hk]at h;cases h
theorem Sim.more {w0:World}{L:Lim}{nt:Nat}{tm tm':List (Nat×T)}{hp:List (Nat×G3)}{a:Act}{w:World}(hm:more tm' tm)(h:Sim w0 L nt ⟨tm,hp⟩ a w):Sim w0 L nt ⟨tm',hp⟩ a w:=by
 obtain⟨S,E,hk⟩:=h
 exact⟨S,E,{hk with tm:=fun k t ht=>hk.tm k t (hm k t ht)}⟩
section
variable {ρ:Type} {X:Cx} {ks:List K} {m:Option ρ} {Q:ρ -> Exit -> St -> Prop} {all:Array Oper} {tm tm':List (Nat × T)} {hp:List (Nat × G3)} {ops:List Oper}
theorem B5.more (hm:more tm' tm)(h:B5 X all ops ks ⟨tm',hp⟩ m Q):B5 X all ops ks ⟨tm,hp⟩ m Q:=fun r hr a w hw=>h r hr a w (hw.more hm)
theorem dv5 {k:Nat}:∀{l l':List Nat},aD5 k (l++l')=false↔aD5 k l=false/\aD5 k l'=false
 |[],l'=>by simp[aD5]
 |x::l,l'=>by
  rw[dC8,br8,br8,dv5]
  exact and_assoc.symm
theorem dc0:∀{l l':List Oper},aW4 (l++l')=aW4 l++aW4 l'
 |[],_=>rfl
 |o::l,l'=>by
  simp only[dC8,aW4]
  split<;>simp[dc0]
theorem cA0 {C4:Tab}{tm:List (Nat×T)}{hp:List (Nat×G3)}{o:Oper}{t:T}{σ':St}(hi:bA9 o.op=true)(he:evalOp C4 ⟨tm,hp⟩ o=some (t,σ')):σ'=⟨tm,hp⟩:=by
 rw[aU6]at he
 obtain⟨dst,op,type,pos,aft,guard⟩:=o
 cases op<;>simp only[bA9,reduceCtorEq]at hi<;>simp only[bk8]at he<;>
 first
  |exact(N6 he).2
  |(repeat' split at he)<;>first
    |(cases he;done)
    |exact(N6 he).2
    |(simp only[aI5,aX4]at he;exact he.2.symm)
    |(simp only[ez3,aX4]at he;obtain⟨_,_,_,h⟩:=he;exact h.symm)
    |(rename Nat=>i;revert he;cases bd5 _ _<;>intro he<;>simp only[fj8,fj6,reduceCtorEq,aI5,aX4]at he<;>first|exact he.2.symm|exact(N6 he).2)
theorem dO1 {d:Nat}:∀{l g r:List Oper}{q:Nat}{op:Op},cut d l=some (g,q,op,r)->aD5 q (aW4 g)=true
 |[],_,_,_,_,h=>by cases h
 |o::l,g,r,q,op,h=>by
  unfold cut at h
  split at h
  ·rename_i hd
   simp only[aI5,aX4]at h
   obtain⟨rfl,rfl,_,rfl⟩:=h
   simp[aW4,hd,aD5]
  ·split at h<;>try(cases h;done)
   rename_i hc
   simp only[aI5,aX4]at h
   obtain⟨rfl,rfl,rfl,rfl⟩:=h
   have:=dO1 hc
   unfold aW4
   split
   ·simp only[aD5];cases bM1 _ _<;>simp[this]
   ·exact this
theorem Sim.lit {w0:World}{L:Lim}{nt:Nat}{tm:List (Nat×T)}{hp:List (Nat×G3)}{a:Act}{w:World}{d:Nat}{x:T}(hd:look tm d=some x)(h:Sim w0 L nt ⟨tm,hp⟩ a w):Sim w0 L nt ⟨(d,x)::tm,hp⟩ a w:=
 h.more fun k t hk=>by
  by_cases hdk:d=k
  ·subst hdk;simp only[look,ca7,fj8,aI5]at hk;subst hk;exact hd
  ·rwa[I2 hdk]at hk
theorem eK3:∀(f:Nat),
  (∀(kb:List Nat) (ops:List Oper) (tm tm1:List (Nat×T)),evG X.C4 X.nt all.toList hp f kb ops tm=some tm1->(∀k,aD5 k (aW4 ops)=false->look tm1 k=look tm k)/\∀(rest:List Oper),B5 X all rest ks ⟨tm1,hp⟩ m Q->B5 X all (ops++rest) ks ⟨tm,hp⟩ m Q)/\
  (∀(kb:List Nat) (ops r:List Oper) (tm tm1:List (Nat×T)),evP X.C4 X.nt all.toList hp f kb ops tm=some (r,tm1)->(∀k,aD5 k (aW4 ops)=false->aD5 k (aW4 r)=false/\look tm1 k=look tm k)/\∀(rest:List Oper),B5 X all (r++rest) ks ⟨tm1,hp⟩ m Q->B5 X all (ops++rest) ks ⟨tm,hp⟩ m Q)
 |0=>⟨fun kb ops tm tm1 h=>by simp[evG]at h,fun kb ops r tm tm1 h=>by simp[evP]at h⟩
 |f+1=>by
  obtain⟨ih1,ih2⟩:=eK3 f
  refine⟨fun kb ops tm tm1 h=>?_,fun kb ops r tm tm1 h=>?_⟩
  ·cases ops with
   |nil=>
    simp only[evG,aI5]at h
    subst h
    exact⟨fun _ _=>rfl,fun rest h=>h⟩
   |cons o r=>
    unfold evG at h
    split at h
    ·rename_i hg
     cases Z4:dY3 o.op<;>simp only[Z4,fj8,fj6,reduceCtorEq]at h
     have Z4:=de2 Z4
     split at h<;>try(cases h;done)
     rename_i t σ' d he hd
     cases hb:bd5 d X.nt<;>simp only[hb,fj8,fj6,reduceCtorEq]at h
     obtain⟨h1,h2⟩:=ih1 _ _ _ _ h
     refine⟨fun k hk=>?_,fun rest hr=>?_⟩
     ·simp only[aW4,hd,br8]at hk
      rw[h1 k hk.2,I2 hk.1]
     ·have hσ:σ'=⟨tm,hp⟩:=cA0 Z4 he
      subst hσ
      exact .step (aG0 hg) he (by rw[hd];simp only[bv5,hb,fj8]) (h2 rest hr)
    ·rename_i hg
     split at h<;>try(cases h;done)
     rename_i d hd
     cases hb:bd5 d X.nt<;>simp only[hb,fj8,fj6,reduceCtorEq]at h
     obtain⟨h1,h2⟩:=ih1 _ _ _ _ h
     refine⟨fun k hk=>?_,fun rest hr=>?_⟩
     ·simp only[aW4,hd,br8]at hk
      rw[h1 k hk.2,I2 hk.1]
     ·exact .pass (aG0 hg) (by rw[hd];simp only[bv5,hb,fj8]) (h2 rest hr)
    ·split at h<;>try(cases h;done)
     rename_i r' tm' he
     obtain⟨h1,h2⟩:=ih2 _ _ _ _ _ he
     obtain⟨h3,h4⟩:=ih1 _ _ _ _ h
     exact⟨fun k hk=>by rw[h3 k (h1 k hk).1,(h1 k hk).2],fun rest hr=>h2 rest (h4 rest hr)⟩
  ·unfold evP at h
   split at h<;>try(cases h;done)
   rename_i o r0
   split at h<;>try(cases h;done)
   split at h<;>try(cases h;done)
   split at h<;>try(cases h;done)
   rename_i d _
   split at h<;>try(cases h;done)
   rename_i b g q op r1 hl hc
   split at h<;>try(cases h;done)
   rename_i t1 t2 e1 e2
   split at h<;>try(cases h;done)
   rename_i v w hv hw
   split at h<;>try(cases h;done)
   rename_i c hcb
   simp only[aI5,aX4]at h
   obtain⟨rfl,rfl⟩:=h
   have aK5:=dG3 hc
   have hcomb:=eB0 hcb
   obtain⟨g1,g2⟩:=ih1 _ _ _ _ e1
   obtain⟨g3,g4⟩:=ih1 _ _ _ _ e2
   have hq:aD5 q (aW4 g)=true:=dO1 hc
   refine⟨fun k hk=>?_,fun rest hr=>?_⟩
   ·rw[aK5,dc0,dv5]at hk
    refine⟨hk.2,?_⟩
    have hqk:q≠k:=fun e=>by subst e;rw[hq]at hk;exact absurd hk.1 (by simp)
    rw[I2 hqk,cm8 hk.1]
   ·rw[aK5,dd3]
    intro r' hr' a' w' hw'
    cases b
    ·refine g4 (r1++rest) (B5.more (fun k t hk=>?_) hr) r' hr' a' w' (Sim.lit hl hw')
     simp only[look]at hk
     by_cases hqk:q=k
     ·subst hqk
      simp only[ca7,fj8,aI5]at hk
      subst hk;rw[hw,hcomb];rfl
     ·simp only[C5 hqk,fj6]at hk
      obtain⟨h5,h6⟩:=cm4 hk
      rw[g3 k h5]
      by_cases hdk:d=k
      ·subst hdk;rw[hl]at h6;simpa[look]using h6
      ·rw[I2 hdk];exact h6
    ·refine g2 (r1++rest) (B5.more (fun k t hk=>?_) hr) r' hr' a' w' (Sim.lit hl hw')
     simp only[look]at hk
     by_cases hqk:q=k
     ·subst hqk
      simp only[ca7,fj8,aI5]at hk
      subst hk;rw[hv,hcomb];rfl
     ·simp only[C5 hqk,fj6]at hk
      obtain⟨h5,h6⟩:=cm4 hk
      rw[g1 k h5]
      by_cases hdk:d=k
      ·subst hdk;rw[hl]at h6;simpa[look]using h6
      ·rw[I2 hdk];exact h6
theorem eU4 {kb:List Nat}{o:Oper}{r r':List Oper}{σ':St}(h:stO X.C4 X.nt all.toList kb o r tm hp=some (r',σ'))(k:B5 X all r' ks σ' m Q):B5 X all (o::r) ks ⟨tm,hp⟩ m Q:=by
 unfold stO at h
 split at h
 ·rename_i hg
  cases hq:dJ6 o.op<;>rw[hq]at h<;>simp only[fj8,fj6,reduceCtorEq]at h
  split at h<;>try(cases h;done)
  rename_i he
  split at h<;>try(cases h;done)
  rename_i hpt
  simp only[aI5,aX4]at h
  obtain⟨rfl,rfl⟩:=h
  exact .step (aG0 hg) he hpt k
 ·rename_i hg
  split at h<;>try(cases h;done)
  rename_i hpt
  simp only[aI5,aX4]at h
  obtain⟨rfl,rfl⟩:=h
  exact .pass (aG0 hg) hpt k
 ·split at h<;>try(cases h;done)
  rename_i he
  simp only[aI5,aX4]at h
  obtain⟨rfl,rfl⟩:=h
  have:=((eK3 (X:=X) (ks:=ks) (m:=m) (Q:=Q) (all:=all) (hp:=hp) 64).2 _ _ _ _ _ he).2 [] (by simpa using k)
  simpa using this
theorem E4.out {id:Nat}{σ:St}(hp:bv4 id ks=none)(h:aa5 X [] (.exit id) σ m Q):E4 X (.c (.exit id)::ks) σ m Q:=fun r hr a w hw=>
 wp_exit (ax9 hp (h r hr a w hw))
end
structure C (P:Program)(τ:Type)where
 n:Nat
 args:List T
 m:Option τ
 e:Nat->Option τ
 res:τ->T
 ok:aQ7 P n args m res
 le:∀k r,e k=some r->m=some r
structure CG (P:Program)(τ:Type)where
 n:Nat
 args:List T
 hp:List (Nat×G3)
 m:Option τ
 e:Nat->Option τ
 res:τ->T
 Z4:τ->List (Nat×G3)
 nw:List Nat
 ok:bh4 P n args hp m res Z4
 le:∀k r,e k=some r->m=some r
structure Cl (P:Program)(α β:Type)(A:α->List T)(R:β->T)where
 n:Nat
 cs:List (List Tree)
 f:α->Option β
 e:Nat->α->Option β
 ok:∀x,aQ7 P n (A x++cs.map T.el) (f x) R
 le:∀k x r,e k x=some r->f x=some r
def Cl.at {P:Program}{α β:Type}{A:α->List T}{R:β->T}(c:Cl P α β A R)(x:α):C P β:=⟨c.n,A x++c.cs.map T.el,c.f x,fun k=>c.e k x,R,c.ok x,fun k=>c.le k x⟩
def CG.f {P:Program}{τ:Type}(c:CG P τ)(h0:c.hp=[])(h:∀r,bb3 (c.Z4 r) (c.res r)=some ((bb3 (c.Z4 r) (c.res r)).getD .any)):C P τ:=
 ⟨c.n,c.args,c.m,c.e,fun r=>(bb3 (c.Z4 r) (c.res r)).getD .any,bh4.toF (h0▸c.ok) h,c.le⟩
def Cl.of {P:Program}{α β:Type}{A:α->List T}{R:β->T}(c:α->C P β)(n:Nat)(cs:List (List Tree))(hn:∀x,(c x).n=n:=by intro _;rfl)(ha:∀x,(c x).args=A x++cs.map T.el:=by intro _;rfl)(hr:∀x,(c x).res=R:=by intro _;rfl):Cl P α β A R:=
 ⟨n,cs,fun x=>(c x).m,fun k x=>(c x).e k,fun x=>hn x▸ha x▸hr x▸(c x).ok,fun k x=>(c x).le k⟩
def dw2 {S B:Type}(mb:S->Option (S⊕B)):Nat->S->Option B
 |0,_=>none
 |n+1,s=>match mb s with
  |some (.inl s')=>dw2 mb n s'
  |some (.inr b)=>some b
  |none=>none
theorem cP8 {S B:Type}{mb mb':S->Option (S⊕B)}(h:∀s f,mb' s=some f->mb s=some f):∀{n:Nat}{s:S}{b:B},dw2 mb' n s=some b->bL6 mb s b
 |0,_,_,hl=>by cases hl
 |n+1,s,b,hl=>by
  unfold dw2 at hl
  split at hl
  ·rename_i hm;exact .next (h _ _ hm) (cP8 h hl)
  ·rename_i hm;cases hl;exact .out (h _ _ hm)
  ·cases hl
abbrev tq {α:Type}(a b:α):Tr:=.eq (.mk a) (.mk b)
structure GF:Type 1 where
 {α:Type}
 enc:α->List Tree
 l:List α
 i:Int
 y:α
def GF.ok (f:GF):Prop:=D4 f.l f.i=some f.y
structure EqV (P:Program)where
 f:Nat->List T->List T->Option Bool
 ok:∀ty xs ys b,f ty xs ys=some b->∃vs us,xs=tvs vs/\ys=tvs us/\ef1 P ty vs us b
def cat {α:Type}(enc:α->List Tree):List α->List Tree
 |[]=>[]
 |y::r=>enc y++cat enc r
inductive L1:Type->Type 1 where
 |ix {α:Type} (enc:α->List Tree) (l:List α) (i:Int):L1 α
 |quo (k:IntKind) (x y:Int):L1 Int
 |rem (x y:Int):L1 Int
 |shl (k:IntKind) (x y:Int):L1 Int
 |shr (k:IntKind) (x y:Int):L1 Int
 |str (s:ByteArray) (i:Int):L1 Int
 |arr {α:Type} (res:α->T) (ys:List α) (i:Int):L1 α
 |ax {α:Type} (enc:α->List Tree) (ys:List α) (i:Int):L1 α
def fe5 (s:ByteArray)(i:Int):Option Int:=(if 0<=i then s[i.toNat]?else none).map fun b=>(b.toNat:Int)
def L1.m:{τ:Type}->L1 τ->Option τ
 |_,.ix _ l i=>D4 l i
 |_,.quo k x y=>bn5 k x y
 |_,.rem x y=>cg1 x y
 |_,.shl k x y=>eu6 k x y
 |_,.shr k x y=>eH6 k x y
 |_,.str s i=>fe5 s i
 |_,.arr _ ys i=>D4 ys i
 |_,.ax _ ys i=>D4 ys i
def L1.k:{τ:Type}->L1 τ->τ->List GF->List GF
 |_,.ix enc l i,y,Γ=>⟨enc,l,i,y⟩::Γ
 |_,_,_,Γ=>Γ
def eh6 {α:Type}(a:Bool)(sz:Nat)(l:List T)(res:α->T):List α->Nat->Tr
 |[],_=>.ok
 |y::r,j=>.and (tq (bh1 a sz l (j*sz)) (some (res y))) (eh6 a sz l res r (j+1))
def L1.q (C4:Tab)(tm:List (Nat×T))(hp:List (Nat×G3))(o:Op):{τ:Type}->L1 τ->Option (Tr×(τ->T))
 |_,.ix enc l i=>match o with
  | .indexAddr ty x ii=>match val tm x,val tm ii,look C4 ty with
   |some X,some (.t (.v (.int _ j))),some ⟨_,.slice e,_⟩=>match look C4 e with
    |some te=>match X with
     | .own id=>match look hp id with
      |some (.rows _ sz n rs)=>bif bM1 te.size sz then some (.and (tq (n,rs) (l.length,l.map enc)) (tq j i),fun _=>.pe id i.toNat sz 0)else none
      |_=>none
     |X=>some (.and (tq X (.t (tS enc l))) (.and (tq j i) (tq (α:=_->Nat) (fun y=>(enc y).length) (fun _=>te.size))),fun y=>.el (enc y))
    |none=>none
   |_,_,_=>none
  |_=>none
 |_,.quo k x y=>match o with
  | .binOp .quo _ a b _=>match val tm a,val tm b with
   |some (.t (.v (.int k1 x1))),some (.t (.v (.int k2 y1)))=>some (tq (k1,x1,k2,y1) (k,x,k,y),fun q=>.t (.v (.int k q)))
   |_,_=>none
  |_=>none
 |_,.rem x y=>match o with
  | .binOp .rem _ a b _=>match val tm a,val tm b with
   |some (.t (.v (.int k1 x1))),some (.t (.v (.int k2 y1)))=>some (tq (x1,k2,y1) (x,k1,y),fun q=>.t (.v (.int k1 q)))
   |_,_=>none
  |_=>none
 |_,.shl k x y=>match o with
  | .binOp .shl _ a b _=>match val tm a,val tm b with
   |some (.t (.v (.int k1 x1))),some (.t (.v (.int _ y1)))=>some (tq (k1,x1,y1) (k,x,y),fun q=>.t (.v (.int k q)))
   |_,_=>none
  |_=>none
 |_,.shr k x y=>match o with
  | .binOp .shr _ a b _=>match val tm a,val tm b with
   |some (.t (.v (.int k1 x1))),some (.t (.v (.int _ y1)))=>some (tq (k1,x1,y1) (k,x,y),fun q=>.t (.v (.int k q)))
   |_,_=>none
  |_=>none
 |_,.str s i=>match o with
  | .index ty x ii=>match val tm x,val tm ii,look C4 ty with
   |some (.t (.v (.string s'))),some (.t (.v (.int _ j))),some ⟨_,.string,_⟩=>some (tq (s',j) (s,i),fun y=>.t (.v (.int .u8 y)))
   |_,_,_=>none
  |_=>none
 |_,.arr res ys i=>match o with
  | .index ty x ii=>match val tm x,val tm ii,look C4 ty with
   |some (.agg l),some (.t (.v (.int _ j))),some ⟨_,.array n e,_⟩=>match look C4 e with
    |some te=>bif bM1 ys.length n then some (.and (tq j i) (eh6 te.desc.isAgg te.size l res ys 0),res)else none
    |none=>none
   |_,_,_=>none
  |_=>none
 |_,.ax enc ys i=>match o with
  | .indexAddr ty x ii=>match val tm x,val tm ii,look C4 ty with
   |some (.el cs),some (.t (.v (.int _ j))),some ⟨_,.array n e,_⟩=>match look C4 e with
    |some te=>bif bM1 ys.length n then some (.and (tq j i) (.and (tq cs (cat enc ys)) (tq (α:=_->Nat) (fun y=>(enc y).length) (fun _=>te.size))),fun y=>.el (enc y))else none
    |none=>none
   |_,_,_=>none
  |_=>none
inductive W1 where
 |hx (n:Nat)
 |ly (n:Nat)
 |eq
 |cn
 |sn
def W1.q {P:Program}(Ev:EqV P)(C4:Tab)(Γ:List GF)(tm:List (Nat×T))(hp:List (Nat×G3))(o:Op):W1->Option (Tr×T)
 | .hx n=>match Γ[n]?with
  |some f=>match(L1.ix f.enc f.l f.i).q C4 tm hp o with
   |some (t,res)=>some (t,res f.y)
   |none=>none
  |none=>none
 | .ly n=>match Γ[n]?,o with
  |some f,.load t p=>match val tm p,look C4 t with
   |some (.pe id i sz off),some ti=>match look hp id,bh1 ti.desc.isAgg ti.size ((f.enc f.y).map .t) off with
    |some (.rows _ sz' n rs),some r=>bif bM1 sz sz' then some (tq (i,n,rs) (f.i.toNat,f.l.length,f.l.map f.enc),r)else none
    |_,_=>none
   |_,_=>none
  |_,_=>none
 | .eq=>match o with
  | .binOp op ty x y _=>match val tm x,val tm y with
   |some (.agg xs),some (.agg ys)=>match Ev.f ty xs ys with
    |some b=>match op with
     | .eql=>some (.ok,.t (.v (.bool b)))
     | .neq=>some (.ok,.t (.v (.bool (!b))))
     |_=>none
    |none=>none
   |_,_=>none
  |_=>none
 | .cn=>match o with
  | .call ⟨.builtin .cap,a,b⟩=>match a.toList,b.toList with
   |[x],[t]=>match val tm x,look C4 t with
    |some (.t (.v (.slice none 0 0))),some ⟨_,.slice _,_⟩=>some (.ok,.t (.v (.int .i64 0)))
    |_,_=>none
   |_,_=>none
  |_=>none
 | .sn=>match o with
  | .slice t x none (some hi) none=>match val tm x,val tm hi,look C4 t with
   |some (.t (.v (.slice none 0 0))),some (.t (.v (.int _ 0))),some ⟨_,.slice e,_⟩=>match look C4 e with
    |some _=>some (.ok,.t (.v (.slice none 0 0)))
    |none=>none
   |_,_,_=>none
  |_=>none
def cM0 (tm:List (Nat×T))(o:Oper):Option (Nat×List T×List (List Tree)):=
 match o.op with
 | .call ⟨.value f,args,_⟩=>match val tm f,bx5 tm args.toList with
  |some (.fz n aQ2),some l=>some (n,l,aQ2)
  |some (.clo n cs),some l=>match els cs with
   |some aQ2=>some (n,l,aQ2)
   |none=>none
  |_,_=>none
 |_=>none
def cL9 (tm:List (Nat×T))(hp:List (Nat×G3))(o:Oper):Option (Nat×List T×Bool×Nat):=match cM0 tm o,o.dst with
 |some (n,targs,aQ2),some d=>match bm8 [] targs with
  |some l=>some (n,l++aQ2.map T.el,false,d)
  |none=>match bm8 hp targs with
   |some l=>some (n,l++aQ2.map T.el,true,d)
   |none=>none
 |_,_=>none
open Go.RowKit Go.Sort Go.Shelf Go.Proofs
theorem dG1 (zs:List Int):Lib.compact zs=bD4 zs:=by
 have key:∀m,m<=zs.length->Lib.compactUpTo zs.toArray m=bD4 (zs.take m):=by
  intro m
  induction m with
  |zero=>intro _;rfl
  |succ m ih=>
   intro hm
   have hg:∀j (hj:j<zs.length),(zs.toArray)[j]! =zs[j]:=fun j hj=>by
    rw[getElem!_pos zs.toArray j (by simpa using hj)];simp
   rw[Lib.compactUpTo_succ,ih (by omega),List.take_succ_eq_append_getElem (by omega:m<zs.length),hg m (by omega)]
   by_cases h0:m=0
   ·subst h0;rfl
   ·have hne:zs.take m≠[]:=by
     intro h
     have:=congrArg fc1 h
     rw[bE9,cr1]at this;omega
    rw[dG0 _ _ hne]
    have hl:(zs.take m).getLast hne=zs[m-1]:=by
     rw[List.getLast_eq_getElem,ec4]
     congr 1
     rw[bE9];omega
    rw[hl]
    unfold Lib.keeps
    rw[hg m (by omega),hg (m-1) (by omega)]
    by_cases he:zs[m]=zs[m-1]
    ·rw[if_pos he,if_neg (by simp[h0,he])]
    ·rw[if_neg he,if_pos (by simp[h0,he])]
 unfold Lib.compact
 rw[key _ (cq9 _),List.take_length]
section
variable (w:World) (β m:Nat) (d:Array Int) (os:Array Obj)
def cF6:World:=grow (putRow (Value.int .i64) (Sort.ahead w m) β 0 d) os
theorem cH8:(cF6 w β m d os).heap.size=w.heap.size+os.size:=by
 simp[cF6,putRow,mapBlock,Sort.ahead,grow]
theorem eu0 (b:Nat)(hb:b<w.heap.size)(hne:b≠β):(cF6 w β m d os).heap[b]? =w.heap[b]?:=by
 simp only[cF6,putRow,mapBlock,Sort.ahead,grow]
 rw[eK1 (by simpa using hb),eV6,if_neg (Ne.symm hne)]
theorem eU1 {cs:Array Value}{elem:TypeId}(hh:w.heap[β]? =some (.cells cs elem (0,0))):(cF6 w β m d os).heap[β]? =some (.cells (putCells (Value.int .i64) 0 d cs) elem (0,0)):=by
 have hb:β<w.heap.size:=(dx1.1 hh).1
 simp only[cF6,putRow,mapBlock,Sort.ahead,grow]
 rw[eK1 (by simpa using hb),eV6,if_pos rfl,hh]
 rfl
theorem dS1 (L:Nat->Prop)(hL:L β):aW6 L w (cF6 w β m d os)where
 os:=rfl
 tape:=rfl
 output:=rfl
 size:=by rw[cH8];omega
 block:=fun b hb hn=>eu0 w β m d os b hb (fun e=>hn (e▸hL))
 drawn:=by simp[cF6,putRow,mapBlock,Sort.ahead,grow]
end
theorem dz5 {w:World}{S:Nat->Prop}{E':Nat->Value}{e id' β cap m:Nat}{r z:List Int}{vs:List Value}{os:Array Obj}(hcm:cap<=maxLen)(hh:w.heap[β]? =some (.cells vs.toArray e (0,0)))(hvl:vs.length=cap*1)(hrl:r.length<=cap)
  (hE':E' id'= .slice (some ⟨β,0,none⟩) r.length cap) (hS:¬S β) (hβ:β<w.heap.size):ci2 (cF6 w β m (r++z).toArray os) S E' [(id',.rows e 1 r.length (r.map encI))]:=by
 have one:∀id b,look [(id',G3.rows e 1 r.length (r.map encI))] id=some b->id=id'/\b= .rows e 1 r.length (r.map encI):=fun id b hl=>by
  simp only[look]at hl
  by_cases hid:id'=id
  ·subst hid;simp at hl;exact⟨rfl,hl.symm⟩
  ·simp[C5 hid]at hl
 refine⟨fun id b hl=>?_,fun id b β' hl hβ'=>?_,fun id id1 b b' β' hl hl' _ _=>?_⟩
 ·obtain⟨rfl,rfl⟩:=one _ _ hl
  rw[hE']
  refine⟨by simp,.inr ⟨β,cap,(putCells (Value.int .i64) 0 (r++z).toArray vs.toArray).toList,hcm,by simp,by rw[eU1 w β m _ os hh],by simp[putCells,hvl],by simpa using hrl,?_,?_⟩⟩
  ·intro x hx
   obtain⟨y,_,rfl⟩:=cX4.1 hx
   rfl
  ·intro i j hi hj hb
   have hi':i<r.length:=by simpa using hi
   have hj':j=0:=by
    rw[dw3]at hj
    have:(encI r[i]).length=1:=rfl
    omega
   subst hj'
   have e1:(putCells (Value.int .i64) 0 (r++z).toArray vs.toArray).toList[i*1+0]= .int .i64 r[i]:=by
    simp only[ff6,Nat.mul_one,dM1]
    simp only[putCells,Array.getElem_mapIdx,Nat.zero_le,true_and,cV7,Nat.sub_zero,fc3]
    rw[if_pos (by rw[aY1];omega),getElem!_pos _ _ (by simp only[fc3,aY1];omega)]
    simp only[List.getElem_toArray]
    rw[cF5 hi']
   rw[e1]
   have e2:((r.map encI)[i]'hi)[0]'hj= .v (.int .i64 r[i]):=by simp[encI,tI]
   rw[e2]
   exact .v _
 ·obtain⟨rfl,rfl⟩:=one _ _ hl
  have:β'=β:=by rw[hE']at hβ';simpa[R7]using hβ'.symm
  subst this
  exact⟨hS,by rw[cH8];omega⟩
 ·exact(one _ _ hl).1.trans (one _ _ hl').1.symm
theorem dz6 {w:World}{β e cap:Nat}{l:List Int}{vs:List Value}(hh:w.heap[β]? =some (.cells vs.toArray e (0,0)))(hvl:vs.length=cap*1)(bN4:l.length<=cap){S:Nat->Prop}
  (hr:∀i j (hi:i<(l.map encI).length) (hj:j<((l.map encI)[i]).length) (hb:i*1+j<vs.length),RT w S (vs[i*1+j]) (((l.map encI)[i])[j])):Holds (Value.int .i64) w β 0 l.toArray:=by
 intro t ht
 have ht':t<l.length:=by simpa using ht
 refine⟨?_,by simp[World.frozen?,hh]⟩
 rw[cell_of_row w β (0+t) _ e _ hh,cV7]
 have h1:=hr t 0 (by simpa using ht') (by simp[encI]) (by omega)
 have e2:((l.map encI)[t]'(by simpa using ht'))[0]'(by simp[encI])= .v (.int .i64 l[t]):=by simp[encI,tI]
 rw[e2]at h1
 have h3:=RTv h1
 simp only[ff2]
 rw[aK2 (by omega),getElem!_pos l.toArray t ht]
 simp only[List.getElem_toArray]
 rw[<-h3]
 congr 2
 omega
theorem do1 {P:Program}{ρ:Ren}(L:Lays.n189 P ρ)(hc:∀vs w,(callFunc (ρ.f 189) vs).run P w= .ok (.enter (ρ.f 189) vs) w){e:Nat}(l:List Int):
  bh4 P (ρ.f 189) [.own 1000000] [(1000000,.rows e 1 l.length (l.map encI))] (bU4 l) (fun _=>.P9 []) (fun r=>[(1000000,.rows e 1 r.length (r.map encI))]):=by
 refine⟨hc,fun r hr w S E vs hS hO hv=>?_⟩
 have hlen:l.length<4611686018427387904:=by
  unfold bU4 at hr;split at hr<;>first|assumption|cases hr
 rw[cx7 hlen,aI5]at hr
 subst hr
 obtain⟨v0,rfl⟩:∃v0,vs=[v0]:=by
  have:=hv.1
  match vs,this with
  |[a],_=>exact⟨a,rfl⟩
 have r0:RV w S E v0 (.own 1000000):=hv.2 0 (by simp) (by simp)
 cases r0 with
 |own _ _ hE=>
 have hblk:=hO.blk 1000000 (.rows e 1 l.length (l.map encI)) rfl
 rw[hE]at hblk
 obtain⟨hn,⟨hx,cP2⟩|⟨β,cap,vs,hcm,hx,hh,hvl,bN4,hsz,hr⟩⟩:=hblk
 ·have hl:l=[]:=by simpa using cP2
  subst hl
  subst hx
  refine(Any.slices_Sort_int_none L none 0 w).mono fun e' w' ⟨he,hw⟩=>?_
  subst hw
  refine⟨_,S,E,he,.P9 [] [] rfl fun j h1=>by simp at h1,aW6.refl _ _,hS,fun b hb=>.inl hb,?_,fun β hl=>.inl ?_,fun _ _=>rfl⟩
  ·simpa using hO
  ·simpa using hl
 ·simp only[cr4]at hx bN4
  subst hx
  have hβ:=hO.own 1000000 (.rows e 1 l.length (l.map encI)) β rfl (by rw[hE];rfl)
  have dd7:aD6 [(1000000,G3.rows e 1 l.length (l.map encI))] E β:=⟨1000000,_,rfl,by rw[hE];rfl⟩
  refine(Any.slices_Sort_int L β 0 cap l w (dz6 hh hvl bN4 hr) hβ.2 hlen).mono fun e' w' ⟨he,m,os,hw⟩=>?_
  have hrl:(l.mergeSort fun x y=>decide (x<=y)).length=l.length:=List.length_mergeSort l
  generalize(l.mergeSort fun x y=>decide (x<=y))=r at hw hrl|-
  have hw2:w'=cF6 w β m (r++[]).toArray os:=by rw[cV6];exact hw
  subst hw2
  refine⟨.tuple #[],S,E,he,.P9 [] [] rfl fun j h1=>by simp at h1,dS1 w β m _ os _ dd7,fun b hb=>?_,fun b hb=>.inl hb,dz5 hcm hh hvl (by omega) (by rw[hE,hrl]) hβ.1 hβ.2,fun β' ⟨id,b,hl,hβ'⟩=>.inl ?_,fun _ _=>rfl⟩
  ·rw[cH8];exact dD3 (hS b hb) (fj5 _ _)
  ·have:id=1000000:=by
    simp only[look]at hl
    by_cases hid:1000000=id
    ·exact hid.symm
    ·simp[C5 hid]at hl
   subst this
   exact⟨1000000,_,rfl,hβ'⟩
theorem cE8 {P:Program}{ρ:Ren}(L:Lays2.n20 P ρ)(hc:∀vs w,(callFunc (ρ.f 20) vs).run P w= .ok (.enter (ρ.f 20) vs) w){e:Nat}(l:List Int):
  bh4 P (ρ.f 20) [.own 1000000] [(1000000,.rows e 1 l.length (l.map encI))] (bm3 l) (fun _=>.own 900000) (fun r=>[(900000,.rows e 1 r.length (r.map encI))]):=by
 refine⟨hc,fun r hr w S E vs hS hO hv=>?_⟩
 have hlen:l.length<=9223372036854775807:=by
  unfold bm3 at hr;split at hr<;>first|assumption|cases hr
 rw[cz4 hlen,aI5]at hr
 obtain⟨v0,rfl⟩:∃v0,vs=[v0]:=by
  have:=hv.1
  match vs,this with
  |[a],_=>exact⟨a,rfl⟩
 have r0:RV w S E v0 (.own 1000000):=hv.2 0 (by simp) (by simp)
 have one:∀(r:List Int) id b,look [(900000,G3.rows e 1 r.length (r.map encI))] id=some b->id=900000:=fun r id b hl=>by
  simp only[look]at hl
  by_cases hid:900000=id
  ·exact hid.symm
  ·simp[C5 hid]at hl
 cases r0 with
 |own _ _ hE=>
 have hblk:=hO.blk 1000000 (.rows e 1 l.length (l.map encI)) rfl
 rw[hE]at hblk
 have hEb:∀v,∀id,big<=id->(fun id=>if id=900000 then v else E id) id=E id:=fun v id h=>by
  simp only
  rw[if_neg (by unfold big at h;omega)]
 obtain⟨hn,⟨hx,cP2⟩|⟨β,cap,vs,hcm,hx,hh,hvl,bN4,hsz,hrr⟩⟩:=hblk
 ·have hl:l=[]:=by simpa using cP2
  subst hl
  subst hx
  subst hr
  refine(Any.slices_Compact_int_empty L none 0 w).mono fun e' w' ⟨he,hw⟩=>?_
  subst hw
  have hno:∀id b,look [(900000,G3.rows e 1 (bD4 []).length ((bD4 []).map encI))] id=some b->R7 ((fun id=>if id=900000 then Value.slice none 0 0 else E id) id)=none:=fun id b hl=>by
   rw[one _ _ _ hl];rfl
  refine⟨_,S,fun id=>if id=900000 then .slice none 0 0 else E id,he,.own _ _ (by simp),aW6.refl _ _,hS,fun b hb=>.inl hb,⟨fun id b hl=>?_,fun id b β' hl hβ'=>?_,fun id id1 b b' β' hl hl' _ _=>(one _ _ _ hl).trans (one _ _ _ hl').symm⟩,fun β ⟨id,b,hl,hβ⟩=>?_,hEb _⟩
  ·have:=one _ _ _ hl
   subst this
   simp[look]at hl
   subst hl
   exact⟨by simp,.inl ⟨by simp,by simp[bD4]⟩⟩
  ·rw[hno _ _ hl]at hβ';cases hβ'
  ·rw[hno _ _ hl]at hβ;cases hβ
 ·simp only[cr4]at hx bN4
  subst hx
  have hβ:=hO.own 1000000 (.rows e 1 l.length (l.map encI)) β rfl (by rw[hE];rfl)
  have dd7:aD6 [(1000000,G3.rows e 1 l.length (l.map encI))] E β:=⟨1000000,_,rfl,by rw[hE];rfl⟩
  refine(Any.slices_Compact_int L β 0 cap l w (dz6 hh hvl bN4 hrr) hlen bN4).mono fun e' w' ⟨he,m,hw⟩=>?_
  rw[dG1]at he hw
  have hrl:(bD4 l).length<=l.length:=by
   have key:∀(l:List Int) p,(cz3 p l).length<=l.length:=by
    intro l
    induction l with
    |nil=>intro p;exact cq9 _
    |cons y l ih=>
     intro p
     unfold cz3
     have:=ih y
     cases y==p
     ·simp only[fj6,bq0];omega
     ·simp only[fj8,bq0];omega
   cases l with
   |nil=>exact cq9 _
   |cons x l=>simp only[bD4,bq0];have:=key l x;omega
  rw[hr]at he hw hrl
  generalize cr2 (l.length-r.length) (0:Int)=z at hw
  have hw2:w'=cF6 w β m (r++z).toArray #[]:=by rw[hw];simp[cF6]
  subst hw2
  refine⟨_,S,fun id=>if id=900000 then .slice (some ⟨β,0,none⟩) r.length cap else E id,he,.own _ _ (by simp),dS1 w β m _ _ _ dd7,fun b hb=>?_,fun b hb=>.inl hb,dz5 hcm hh hvl (by omega) (by simp) hβ.1 hβ.2,fun β' ⟨id,b,hl,hβ'⟩=>.inl ?_,hEb _⟩
  ·rw[cH8];exact dD3 (hS b hb) (fj5 _ _)
  ·have:=one _ _ _ hl
   subst this
   have e1:β'=β:=by simpa[R7]using hβ'.symm
   subst e1
   exact dd7
theorem cx4 {P:Program}{w:World}(t u ty e:TypeId)(i:TypeInfo)(z:Value)(kk ik:IntKind)(ht:P.underlying t=some (.slice e))(hu:P.underlying u=some (.int kk))(hi:P.info? e=some i)(hz:i.zero=some z)(n:Nat)(h0:0<n)(hs0:0<i.size)(hn:n<=1073741824)(hb:n*i.bytes<=140737488355328):
  (Builtin.append_ #[t,u] ty #[.slice none 0 0,.int ik n]).run P w=
   .ok (.slice (some ⟨w.heap.size,0,none⟩) n (grownCap w n 0 e)) (w.drew.alloc (.cells (Builtin.zeroCells z.cells n++Builtin.zeroCells z.cells (grownCap w n 0 e-n)) e)):=by
 have hn0:n≠0:=by omega
 have hs1:i.size≠0:=by omega
 have hw:eX4.wrap (n:Int)=(n:Int):=j6 (by omega) (by omega)
 have hneg:¬((n:Int)<0):=by omega
 have hbi:¬((281474976710656:Int)<(n:Int)*(i.bytes:Int)):=by
  have:((n*i.bytes:Nat):Int)<=140737488355328:=by omega
  rw[Int.natCast_mul]at this
  omega
 have h63':¬(9223372036854775807<(n:Int)):=by omega
 have h48':¬(281474976710656<Builtin.nextslicecap n 0*i.bytes):=by rw[nextslicecap_zero h0];omega
 simp[Builtin.append_,run_underlying ht,run_underlying hu,sizeOf,typeInfo,zeroValue,hi,hz,Builtin.lenOf,Builtin.firstCells,hn0,hs1,hw,hneg,hbi,h63',h48',asInt,asIntOf,Question.forced,newRow,grownCap]
 intro h
 exact absurd h (Nat.mul_ne_zero hn0 hs1)
section
variable {ρ α:Type} {X:Cx} {ks:List K} {tm tm':List (Nat × T)} {hp Z4:List (Nat × G3)} {m:Option ρ} {Q:ρ -> Exit -> St -> Prop} {all:Array Oper} {o:Oper} {rest:List Oper} {w0:World} {L:Lim} {nt:Nat} {S:Nat -> Prop} {E:Nat -> Value} {a:Act} {w:World}
theorem Ok.aW5 {P:Program}(h:Ok w0 L nt ⟨tm,hp⟩ S E a w){id t u ty e n:Nat}{kk ik:IntKind}{ti:TI}{c:List Tree}(aM0:bd5 id big=true)(hf:M9 id tm=true)(hb:M0 id hp=true)(ht:P.underlying t=some (.slice e))(hu:P.underlying u=some (.int kk))(hte:bh3 P e ti)(hz:ti.zero.length=ti.size)(bJ2:0<ti.size)
  (hc:c=ti.zero.map fun v=>aE1 (.v v)) (h0:0<n) (cF1:n<=1073741824):
  ∃v' w' E',(Builtin.append_ #[t,u] ty #[.slice none 0 0,.int ik n]).run P w= .ok v' w'/\E' id=v'/\Ok w0 L nt ⟨tm,(id,.rows e ti.size n (cr2 n c))::hp⟩ S E' a w':=by
 obtain⟨i,d,hi,hs,_,_,⟨z,hzz,hzc⟩,hby⟩:=hte
 have hcl:c.length=ti.size:=by rw[hc,cr4,hz]
 have hzs:z.cells.size=i.size:=by rw[hs,<-hz,<-hzc];simp
 have cv4:n*i.bytes<=140737488355328:=by
  have:=Nat.mul_le_mul cF1 hby
  omega
 have hr:=cx4 (P:=P) (w:=w) t u ty e i z kk ik ht hu hi hzz n h0 (by omega) cF1 cv4
 have hge:=grownCap_ge w n 0 e
 have hcm:grownCap w n 0 e<=maxLen:=grownCap_le_maxLen w n 0 e (by simp only[maxLen];omega)
 generalize grownCap w n 0 e=cap at hr hge hcm
 have cX6:∀k (hk:k<n*i.size) (hk2:k<(Builtin.zeroCells z.cells n++Builtin.zeroCells z.cells (cap-n)).toList.length),(Builtin.zeroCells z.cells n++Builtin.zeroCells z.cells (cap-n)).toList[k]=ti.zero[k%ti.size]'(by rw[hz];exact eL1 _ bJ2):=by
  intro k hk hk2
  have hm:k%z.cells.size<z.cells.size:=eL1 _ (by omega)
  have hk3:k<(Builtin.zeroCells z.cells n).size:=by rw[size_zeroCells,hzs];exact hk
  rw[ff6,Array.getElem_append_left hk3]
  simp only[Builtin.zeroCells,Array.getElem_map,Array.getElem_range]
  rw[getElem!_pos z.cells _ hm]
  have:z.cells[k%z.cells.size]=z.cells.toList[k%z.cells.size]'(by simpa using hm):=by simp
  rw[this]
  simp only[hzc,hzs,hs]
 obtain⟨E',hE,hok⟩:=h.cS8 (w':=w.drew.alloc (.cells (Builtin.zeroCells z.cells n++Builtin.zeroCells z.cells (cap-n)) e)) (v:=.slice none 0 0) (v':=.slice (some ⟨w.heap.size,0,none⟩) n cap) (b:=.rows e ti.size n (cr2 n c)) aM0 hf hb (fun β hβ=>by cases hβ) (fun _ _ β _ hβ=>by cases hβ)
  ⟨rfl,rfl,rfl,by simp,fun k hk _=>Below.heap_alloc w.drew _ _ hk,Nat.le_succ _⟩ (fun β hβ=>by cases hβ;simp) (fun E'=>by
  refine⟨by simp,.inr ⟨w.heap.size,cap,(Builtin.zeroCells z.cells n++Builtin.zeroCells z.cells (cap-n)).toList,hcm,by simp,by rw[Array.toArray_toList];exact heap_alloc_new w.drew _,?_,by simpa using hge,?_,?_⟩⟩
  ·rw[ff9,Array.size_append,size_zeroCells,size_zeroCells,hzs,<-ez2,hs]
   congr 1
   omega
  ·intro r hr;rw[(List.mem_replicate.1 hr).2];exact hcl
  ·intro i' j hi' hj hb'
   have hi2:i'<n:=by simpa using hi'
   simp only[eR1]at hj|-
   have hj2:j<ti.size:=by rw[<-hcl];exact hj
   have hlt:i'*ti.size+j<n*i.size:=by
    have:(i'+1)*ti.size<=n*ti.size:=cz8 _ (by omega)
    rw[dG8]at this
    rw[hs];omega
   have e1:(Builtin.zeroCells z.cells n++Builtin.zeroCells z.cells (cap-n)).toList[i'*ti.size+j]=ti.zero[j]'(by rw[hz];exact hj2):=by
    rw[cX6 _ hlt hb']
    have:(i'*ti.size+j)%ti.size=j:=by rw[eg2,fg3,fa2 hj2]
    simp only[this]
   rw[e1]
   have e2:c[j]=aE1 (.v (ti.zero[j]'(by rw[hz];exact hj2))):=by subst hc;simp
   rw[e2]
   exact bb7 (.v _))
 exact⟨_,_,E',hr,hE,hok⟩
theorem B5.eA4 {t u e d s0 s1:Nat}{z0 z1:List Value}{te:TI}{s x:Operand}{kk ik:IntKind}{n:Int}{enc:α->List Tree}{k:List α->Option ρ}(id:Nat)(z:α)
  (ho:o.op= .call ⟨.builtin .append,#[s,x],#[t,u]⟩) (hd:o.dst=some d) (hdn:bd5 d X.nt=true) (hg:ah9 all.toList tm o.guard=some true) (hs:val tm s=some (.t (.v (.slice none 0 0)))) (hx:val tm x=some (.t (.v (.int ik n))))
  (hty:look X.C4 t=some ⟨s0,.slice e,z0⟩) (htu:look X.C4 u=some ⟨s1,.int kk,z1⟩) (hte:look X.C4 e=some te) (hz:te.zero.length=te.size) (bJ2:bd5 0 te.size=true) (az2:enc z=te.zero.map fun v=>aE1 (.v v)) (aM0:bd5 id big=true) (hft:M9 id tm=true) (hfb:M0 id hp=true)
  (h:∀y,cV5 n z=some y->B5 X all rest ks ⟨(d,.own id)::tm,(id,.rows e te.size y.length (y.map enc))::hp⟩ (k y) Q):
  B5 X all (o::rest) ks ⟨tm,hp⟩ ((cV5 n z).bind k) Q:=fun y hy a w ⟨S,E,hk⟩=>by
 cases hmk:cV5 n z with
 |none=>simp[hmk]at hy
 |some l=>
  have h0:=hmk
  unfold cV5 at h0
  split at h0<;>try(cases h0;done)
  rename_i hn
  simp only[aI5]at h0
  simp only[hmk,aH3]at hy
  obtain⟨dd,hu,ho2⟩:∃d,X.P.underlying t=some d/\TD.ok X.P (.slice e) d:=by
   obtain⟨i,d,_,_,hu,hdd,_⟩:=X.K4 t _ hty
   exact⟨d,hu,hdd⟩
  simp only[TD.ok]at ho2
  subst ho2
  obtain⟨du,hu2,ho3⟩:∃d,X.P.underlying u=some d/\TD.ok X.P (.int kk) d:=by
   obtain⟨i,d,_,_,hu,hdd,_⟩:=X.K4 u _ htu
   exact⟨d,hu,hdd⟩
  simp only[TD.ok]at ho3
  subst ho3
  obtain⟨j,rfl⟩:∃j:Nat,n=(j:Int):=⟨n.toNat,by omega⟩
  simp only[eJ5]at h0
  obtain⟨v',w',E',hr,hE,hok⟩:=hk.aW5 (P:=X.P) (n:=j) (c:=enc z) (ty:=o.type) (ik:=ik) aM0 hft hfb hu hu2 (X.K4 e _ hte) hz (bd4 bJ2) az2 (by omega) (by omega)
  refine wpList_step fun K hK=>?_
  rw[S8 hk hg,if_pos rfl]
  unfold Oper.wp
  have aO0:(execOp a.eval o).run X.P w= .ok (.value v') w':=by
   unfold execOp
   simp only[ho,resolve,invoke,builtin,bk5,bO3,ba5,eY8,cS3,ek7,(hk.val hs).tv,(hk.val hx).tv,hr]
  rw[aO0]
  refine hK _ _ (h l hmk y hy _ _ ⟨S,E',?_⟩)
  rw[hd]
  have e1:l.map enc=cr2 j (enc z):=by rw[<-h0];simp
  have e2:l.length=j:=by rw[<-h0];simp
  rw[e1,e2]
  exact hok.put (bd4 hdn) (.own id _ hE)
end
end Go.Pv

/- A part of the proof of EcuJoins: The walk reckoned, and more. -/
import Derived.Test.YtfplhihoadkhlaaGreatEcuJoinsB
import Derived.MapKept
import Derived.Carry
import Derived.KernelRfl
import Derived.Test.YtfplhihoadkhlaaGreatProg
set_option linter.unusedSimpArgs false
set_option linter.unusedVariables false
set_option maxRecDepth 100000
noncomputable section
open Array renaming ext'->fc3,getElem?_eq_some_iff->dC3
open Bool renaming and_eq_true->au2,and_true->eY4,not_eq_true'->bZ6,not_true->aK4,or_eq_false_iff->bG8,or_eq_true->cx1
open Int renaming toNat->eJ8
open Go.IntKind renaming u64->aK3
open List renaming all_eq_true->by6,append_nil->dn6,drop_drop->ep0,filter_cons->ew7,filter_nil->eK3,getElem?_cons_zero->cZ9,getElem?_eq_getElem->aJ9,getElem?_eq_none->ed6,getElem?_eq_some_iff->bD8,getElem?_map->cM9,getElem?_take->dx0,head?_drop->ey0,length_append->aX7,length_nil->cY9,map_cons->cX5,mem_cons->cr6,mem_cons_of_mem->bO9,mem_cons_self->bL5,mem_filter->dO7,mem_map->cZ1,mem_of_getElem?->dv3,pairwise_cons->ey1,range->dy2
open List.cons renaming injEq->eU7
open Nat renaming add_assoc->dM6,add_comm->eI6,add_zero->eb5,beq->bx3,beq_refl->bX7,ble->dQ0,blt->ba2,eq_of_beq_eq_true->bq5,eq_zero_or_pos->dS1,le_of_ble_eq_true->ba1,le_refl->cB6,le_trans->eL2,lt_of_lt_of_le->dN6,lt_or_ge->dh0,not_lt->fc9,zero_add->cY7
open Option renaming bind->ab6,bind_eq_some_iff->eY2,bind_some->ac0,map_eq_some_iff->eC7,map_some->cb0
open Option.some renaming injEq->aj7
open Prod.mk renaming injEq->aX2
open Go.Pv renaming encI->aI8,encS->dn9
open Go.Result renaming andThen_ok->aY1
open Go.Sem renaming run_bind->bd5,run_pure->bx4
namespace Go.Pv
open Go.RowKit
section
variable {P:Program} {ρ τ β:Type} {X:Cx}
theorem cZ8 {α:Type}{a:Bool}{sz:Nat}{l:List T}{res:α->T}:∀{ys:List α}{k:Nat},(eg9 a sz l res ys k).den->∀j y,ys[j]? =some y->bh7 a sz l ((k+j)*sz)=some (res y)
 |[],_,_,j,y,h=>by simp at h
 |z::r,k,ht,0,y,h=>by
  simp only[cZ9,aj7]at h
  subst h
  exact V.eq ht.1
 |z::r,k,ht,j+1,y,h=>by
  have:=cZ8 ht.2 j y (by simpa using h)
  rwa[dM6,eI6 1 j]at this
theorem dq6 {α:Type}{enc:α->List Tree}{sz:Nat}(h:∀y,(enc y).length=sz):∀{ys:List α}{j:Nat}{y:α},ys[j]? =some y->∃r,(cat enc ys).drop (j*sz)=enc y++r
 |[],j,y,hy=>by simp at hy
 |x::l,0,y,hy=>by
  simp only[cZ9,aj7]at hy
  subst hy
  exact⟨cat enc l,by simp[cat]⟩
 |x::l,j+1,y,hy=>by
  obtain⟨r,hr⟩:=dq6 h (ys:=l) (j:=j) (y:=y) (by simpa using hy)
  refine⟨r,?_⟩
  rw[cat,Nat.succ_mul,eI6,<-ep0,List.drop_left' (h x)]
  exact hr
theorem RV.eA4 {w:World}{S:Nat->Prop}{E:Nat->Value}{x:Value}{l r:List Tree}(h:RV w S E x (.el (l++r))):RV w S E x (.el l):=by
 cases h with
 |el b o _ vs hS hc hr=>
  refine .el b o l vs hS (fun j hj=>hc j (by simp;omega)) (fun j hj=>?_)
  have:=hr j (by simp;omega)
  rwa[List.getElem_append_left hj]at this
theorem L1.ok {tm:List (Nat×T)}{hp:List (Nat×H6)}{o:Oper}:∀{τ:Type}{l:L1 τ}{t:Tr}{res:τ->T},l.q X.D5 tm hp o.op=some (t,res)->t.den->
  ∀(y:τ) (S:Nat->Prop) (E:Nat->Value) (a:Act) (w:World),l.m=some y->Ok X.w0 X.L X.nt ⟨tm,hp⟩ S E a w->∃v,(execOp a.eval o).run X.P w= .ok (.value v) w/\RV w S E v (res y)
 |_,.ix enc l i,t,res,h,ht=>by
  simp only[L1.q]at h
  split at h<;>try(cases h;done)
  rename_i ty x ii hop
  split at h<;>try(cases h;done)
  rename_i X' k j s0 e z0 hx hi hty
  split at h<;>try(cases h;done)
  rename_i te hte
  split at h
  ·rename_i id
   split at h<;>try(cases h;done)
   rename_i el sz n rs hb
   cases hsz:bx3 te.size sz<;>simp only[hsz,fh5,fh3,reduceCtorEq,aj7,aX2]at h
   obtain⟨rfl,rfl⟩:=h
   obtain⟨h1,h2⟩:=ht
   have h1:=V.eq h1
   have h2:=V.eq h2
   simp only[aX2]at h1
   obtain⟨rfl,rfl⟩:=h1
   subst h2
   intro y S E a w hm hk
   obtain⟨h0,hl,hlt⟩:=aU7 hm
   have hiv:=(hk.val hi).tv
   obtain⟨dd,hdd,ho2⟩:=(X.M7 ty _ hty).av4 w
   simp only[TD.ok]at ho2
   subst ho2
   have hs:=(X.M7 e _ hte).aH0 w
   have hll:j.toNat<l.length:=by omega
   have hxv:=hk.val hx
   generalize hxe:a.eval x=xv at hxv
   cases hxv with
   |own _ _ hE=>
    obtain⟨hn,⟨hE',hr⟩|⟨β,cap,vs,_,hE',hh,_⟩⟩:=hk.hp id _ hb
    ·simp at hr;subst hr;simp at hll
    ·have:=bq5 hsz
     subst this
     have hpe:=RV.pe (w:=w) (S:=S) (E:=E) id j.toNat te.size 0 β (l.map enc).length cap hE'
     refine⟨_,?_,hpe⟩
     rw[hE']at hE
     subst hE
     simp only[execOp,hop,Instr.indexAt,hiv,asIntOf,bd5,bx4,aY1,hdd,hxe]
     have c1:0<=j/\j<((l.map enc).length:Int):=⟨h0,by simpa using hlt⟩
     simp only[bd5,aY1,bx4,c1,and_self,if_true,hs,aC6,cY7,eb5]
  ·simp only[aj7,aX2]at h
   obtain⟨rfl,rfl⟩:=h
   obtain⟨h1,h2,h3⟩:=ht
   have h1:=V.eq h1
   have h2:=V.eq h2
   have h3:=V.eq h3
   subst h1 h2
   intro y S E a w hm hk
   exact dd2 hk hm hop hx hi hty hte (fun y=>congrFun h3 y)
 |_,.quo k i j,t,res,h,ht=>by
  simp only[L1.q]at h
  split at h<;>try(cases h;done)
  rename_i ty x y yt hop
  split at h<;>try(cases h;done)
  rename_i k1 x1 k2 y1 hx hy
  simp only[aj7,aX2]at h
  obtain⟨rfl,rfl⟩:=h
  have h1:=V.eq ht
  simp only[aX2]at h1
  obtain⟨rfl,rfl,rfl,rfl⟩:=h1
  intro q S E a w hm hk
  simp only[L1.m,bo2]at hm
  split at hm
  ·cases hm
  ·rename_i hj
   cases hm
   refine⟨_,?_,.t (.v _)⟩
   simp only[execOp,hop,bd5,(hk.val hx).tv,(hk.val hy).tv,aR7 .quo ty x y (.int _ _) (.int _ _) (by simp) (by simp),aY1]
   simp[binOp,Op.intDiv,hj]
 |_,.rem i j,t,res,h,ht=>by
  simp only[L1.q]at h
  split at h<;>try(cases h;done)
  rename_i ty x y yt hop
  split at h<;>try(cases h;done)
  rename_i k1 x1 k2 y1 hx hy
  simp only[aj7,aX2]at h
  obtain⟨rfl,rfl⟩:=h
  have h1:=V.eq ht
  simp only[aX2]at h1
  obtain⟨rfl,rfl,rfl⟩:=h1
  intro q S E a w hm hk
  simp only[L1.m,cg7]at hm
  split at hm
  ·cases hm
  ·rename_i hj
   cases hm
   refine⟨_,?_,.t (.v _)⟩
   simp only[execOp,hop,bd5,(hk.val hx).tv,(hk.val hy).tv,aR7 .rem ty x y (.int _ _) (.int _ _) (by simp) (by simp),aY1]
   simp[binOp,Op.intDiv,hj]
 |_,.shl k i j,t,res,h,ht=>by
  simp only[L1.q]at h
  split at h<;>try(cases h;done)
  rename_i ty x y yt hop
  split at h<;>try(cases h;done)
  rename_i k1 x1 k2 y1 hx hy
  simp only[aj7,aX2]at h
  obtain⟨rfl,rfl⟩:=h
  have h1:=V.eq ht
  simp only[aX2]at h1
  obtain⟨rfl,rfl,rfl⟩:=h1
  intro q S E a w hm hk
  simp only[L1.m,et2]at hm
  split at hm
  ·cases hm
  ·rename_i hj
   cases hm
   refine⟨_,?_,.t (.v _)⟩
   simp only[execOp,hop,bd5,(hk.val hx).tv,(hk.val hy).tv,aR7 .shl ty x y (.int _ _) (.int _ _) (by simp) (by simp),aY1]
   simp[binOp,Op.shift,hj,bP4]
 |_,.shr k i j,t,res,h,ht=>by
  simp only[L1.q]at h
  split at h<;>try(cases h;done)
  rename_i ty x y yt hop
  split at h<;>try(cases h;done)
  rename_i k1 x1 k2 y1 hx hy
  simp only[aj7,aX2]at h
  obtain⟨rfl,rfl⟩:=h
  have h1:=V.eq ht
  simp only[aX2]at h1
  obtain⟨rfl,rfl,rfl⟩:=h1
  intro q S E a w hm hk
  simp only[L1.m,et3]at hm
  split at hm
  ·cases hm
  ·rename_i hj
   cases hm
   refine⟨_,?_,.t (.v _)⟩
   simp only[execOp,hop,bd5,(hk.val hx).tv,(hk.val hy).tv,aR7 .shr ty x y (.int _ _) (.int _ _) (by simp) (by simp),aY1]
   simp[binOp,Op.shift,hj,F1]
 |_,.str s i,t,res,h,ht=>by
  simp only[L1.q]at h
  split at h<;>try(cases h;done)
  rename_i ty x ii hop
  split at h<;>try(cases h;done)
  rename_i s1 k j s0 z0 hx hi hty
  simp only[aj7,aX2]at h
  obtain⟨rfl,rfl⟩:=h
  have h1:=V.eq ht
  simp only[aX2]at h1
  obtain⟨rfl,rfl⟩:=h1
  intro q S E a w hm hk
  obtain⟨dd,hu,ho2⟩:∃d,X.P.underlying ty=some d/\TD.ok X.P .string d:=by
   obtain⟨i,d,_,_,hu,hdd,_⟩:=X.M7 ty _ hty
   exact⟨d,hu,hdd⟩
  simp only[TD.ok]at ho2
  subst ho2
  simp only[L1.m,fb6]at hm
  refine⟨_,?_,.t (.v _)⟩
  have hin:0<=j/\j<s1.size:=by
   by_cases h0:0<=j
   ·rw[if_pos h0]at hm
    by_cases h1:j.toNat<s1.size
    ·exact⟨h0,by omega⟩
    ·rw[ByteArray.getElem?_ge' s1 _ (by omega)]at hm;cases hm
   ·rw[if_neg h0]at hm;cases hm
  rw[if_pos hin.1,ByteArray.getElem?_lt' s1 _ (by omega)]at hm
  simp only[cb0,aj7]at hm
  subst hm
  simp only[execOp,hop,bd5,(hk.val hx).tv,(hk.val hi).tv,run_index_string w ty s1 k j hu,hin,and_self,dite_true,aY1,bx4]
 |_,.arr res ys i,t,res',h,ht=>by
  simp only[L1.q]at h
  split at h<;>try(cases h;done)
  rename_i ty x ii hop
  split at h<;>try(cases h;done)
  rename_i l k j s0 n e z0 hx hi hty
  split at h<;>try(cases h;done)
  rename_i te hte
  cases hc:bx3 ys.length n<;>rw[hc]at h<;>simp only[fh5,fh3,reduceCtorEq,aj7,aX2]at h
  obtain⟨rfl,rfl⟩:=h
  obtain⟨h1,h2⟩:=ht
  have h1:=V.eq h1
  subst h1
  have hn:=bq5 hc
  intro q S E a w hm hk
  obtain⟨h0,hy,_⟩:=aU7 hm
  obtain⟨j',rfl⟩:∃j':Nat,j=Int.ofNat j':=⟨j.toNat,by simp;omega⟩
  have hy:ys[j']? =some q:=by simpa using hy
  have hj:j'<n:=by rw[<-hn];exact(bD8.1 hy).1
  have hv:=hk.val hx
  generalize hpv:a.eval x=pv at hv
  cases hv with
  |agg vs _ hl hrr=>
   have h3:=cZ8 h2 j' q hy
   rw[cY7]at h3
   obtain⟨v,hv1,hv2⟩:=cK3 (ik:=k) X.M7 hty hte hj ⟨hl,hrr⟩ h3
   exact⟨v,by simp only[execOp,hop,hpv,(hk.val hi).tv,hv1,bd5,aY1,bx4],hv2⟩
 |_,.ax enc ys i,t,res,h,ht=>by
  simp only[L1.q]at h
  split at h<;>try(cases h;done)
  rename_i ty x ii hop
  split at h<;>try(cases h;done)
  rename_i cs k j s0 n e z0 hx hi hty
  split at h<;>try(cases h;done)
  rename_i te hte
  cases hc:bx3 ys.length n<;>simp only[hc,fh5,fh3,reduceCtorEq,aj7,aX2]at h
  obtain⟨rfl,rfl⟩:=h
  obtain⟨h1,h2,h3⟩:=ht
  have h1:=V.eq h1
  have h2:=V.eq h2
  have h3:=V.eq h3
  subst h1 h2
  have hn:=bq5 hc
  intro y S E a w hm hk
  obtain⟨h0,hy,_⟩:=aU7 hm
  obtain⟨j',rfl⟩:∃j':Nat,j=Int.ofNat j':=⟨j.toNat,by simp;omega⟩
  have hy:ys[j']? =some y:=by simpa using hy
  have hj:j'<n:=by rw[<-hn];exact(bD8.1 hy).1
  have hv:=hk.val hx
  obtain⟨b,o',hpv⟩:=hv.ce6
  rw[hpv]at hv
  obtain⟨r,hr⟩:=dq6 (fun y=>congrFun h3 y) hy
  have hv2:=hv.cH8 (j'*te.size)
  rw[hr]at hv2
  refine⟨_,?_,hv2.eA4⟩
  simp only[execOp,hop,hpv,(hk.val hi).tv,bH4 X.M7 hty hte hj,bd5,aY1,bx4]
theorem L1.known {Γ:List GF}(hΓ:∀f∈Γ,f.ok):∀{τ:Type}{l:L1 τ}{y:τ},l.m=some y->∀f∈l.k y Γ,f.ok
 |_,.ix enc l i,y,h,f,hf=>by
  rcases cr6.1 hf with rfl|hf
  ·exact h
  ·exact hΓ f hf
 |_,.quo _ _ _,y,h,f,hf=>hΓ f hf
 |_,.rem _ _,y,h,f,hf=>hΓ f hf
 |_,.shl _ _ _,y,h,f,hf=>hΓ f hf
 |_,.shr _ _ _,y,h,f,hf=>hΓ f hf
 |_,.str _ _,y,h,f,hf=>hΓ f hf
 |_,.arr _ _ _,y,h,f,hf=>hΓ f hf
 |_,.ax _ _ _,y,h,f,hf=>hΓ f hf
theorem W1.ok {Ev:EqV X.P}{Γ:List GF}(hΓ:∀f∈Γ,f.ok){tm:List (Nat×T)}{hp:List (Nat×H6)}{o:Oper}:∀{u:W1}{t:Tr}{V:T},u.q Ev X.D5 Γ tm hp o.op=some (t,V)->t.den->
  ∀(S:Nat->Prop) (E:Nat->Value) (a:Act) (w:World),Ok X.w0 X.L X.nt ⟨tm,hp⟩ S E a w->∃v,(execOp a.eval o).run X.P w= .ok (.value v) w/\RV w S E v V
 | .hx n,t,V,h,ht=>by
  simp only[W1.q]at h
  split at h<;>try(cases h;done)
  rename_i f hf
  split at h<;>try(cases h;done)
  rename_i t' res hq
  simp only[aj7,aX2]at h
  obtain⟨rfl,rfl⟩:=h
  intro S E a w hk
  exact L1.ok hq ht f.y S E a w (hΓ f (dv3 hf)) hk
 | .ly n,t,V,h,ht=>by
  simp only[W1.q]at h
  split at h<;>try(cases h;done)
  rename_i f t' p hf ho
  split at h<;>try(cases h;done)
  rename_i id i sz off ti hp1 hti
  split at h<;>try(cases h;done)
  rename_i e sz' n' rs r hb hr
  cases hsz:bx3 sz sz'<;>simp only[hsz,fh5,fh3,reduceCtorEq,aj7,aX2]at h
  have hsz:=bq5 hsz
  subst hsz
  obtain⟨rfl,rfl⟩:=h
  have h1:=V.eq ht
  simp only[aX2]at h1
  obtain⟨rfl,rfl,rfl⟩:=h1
  intro S E a w hk
  have hy:=hΓ f (dv3 hf)
  obtain⟨v,h1,h2⟩:=du9 (P:=X.P) hk (X.M7 t' _ hti) hb (hk.val hp1) (by rw[cM9,(aU7 hy).2.1];rfl) hr
  refine⟨v,?_,h2⟩
  unfold execOp
  simp only[ho,bd5,h1,aY1,bx4]
 | .eq,t,V,h,ht=>by
  simp only[W1.q]at h
  split at h<;>try(cases h;done)
  rename_i op ty x y yt ho
  split at h<;>try(cases h;done)
  rename_i xs ys hx hy
  split at h<;>try(cases h;done)
  rename_i b hb
  obtain⟨vs,us,rfl,rfl,he⟩:=Ev.ok _ _ _ _ hb
  intro S E a w hk
  have hr:=eN8 (o:=o) (w:=w) (yt:=yt) he (dL9 (hk.val hx)) (dL9 (hk.val hy))
  split at h<;>try(cases h;done)
  ·simp only[aj7,aX2]at h
   obtain⟨rfl,rfl⟩:=h
   exact⟨_,hr.1 ho,.t (.v _)⟩
  ·simp only[aj7,aX2]at h
   obtain⟨rfl,rfl⟩:=h
   exact⟨_,hr.2 ho,.t (.v _)⟩
 | .cn,t,V,h,ht=>by
  simp only[W1.q]at h
  split at h<;>try(cases h;done)
  rename_i a b ho
  split at h<;>try(cases h;done)
  rename_i x t' ha hb
  split at h<;>try(cases h;done)
  rename_i s0 e z0 hx hty
  simp only[aj7,aX2]at h
  obtain⟨rfl,rfl⟩:=h
  have ha:a= #[x]:=by cases a;simp_all
  have hb:b= #[t']:=by cases b;simp_all
  subst ha hb
  intro S E a w hk
  obtain⟨dd,hdd,ho2⟩:=(X.M7 t' _ hty).av4 w
  simp only[TD.ok]at ho2
  subst ho2
  have hxv:=(hk.val hx).tv
  refine⟨.int .i64 0,?_,.t (.v _)⟩
  unfold execOp
  simp[ho,resolve,invoke,builtin,hxv,Builtin.cap_,hdd,goInt]
 | .sn,t,V,h,ht=>by
  simp only[W1.q]at h
  split at h<;>try(cases h;done)
  rename_i t' x hi ho
  split at h<;>try(cases h;done)
  rename_i k s0 e z0 hx hh hty
  split at h<;>try(cases h;done)
  rename_i te hte
  simp only[aj7,aX2]at h
  obtain⟨rfl,rfl⟩:=h
  intro S E a w hk
  obtain⟨dd,hdd,ho2⟩:=(X.M7 t' _ hty).av4 w
  simp only[TD.ok]at ho2
  subst ho2
  have hxv:=(hk.val hx).tv
  have hhv:=(hk.val hh).tv
  have hs:=(X.M7 e _ hte).aH0 w
  refine⟨.slice none 0 0,?_,.t (.v _)⟩
  unfold execOp
  simp[ho,Instr.sliceAt,Instr.slice,Instr.sliceBounds,Instr.sliceBound,asIntOf,hxv,hhv,hdd,hs]
theorem ei2 {P:Program}{w0:World}{L:Lim}{nt:Nat}{σ:St}{S:Nat->Prop}{E:Nat->Value}{a:Act}{w:World}(h:Ok w0 L nt σ S E a w){o:Oper}{n:Nat}{l:List T}{aQ8:List (List Tree)}(ho:cN1 σ.tm o=some (n,l,aQ8))(hn:∀vs w,(callFunc n vs).run P w= .ok (.enter n vs) w):
  ∃vs ps:List Value,(execOp a.eval o).run P w= .ok (.enter n (vs++ps).toArray) w/\RVL w S E vs l/\∀E',RVL w S E' ps (aQ8.map T.el):=by
 obtain⟨dst,op,type,pos,aft,guard⟩:=o
 unfold cN1 at ho
 split at ho<;>try(cases ho;done)
 rename_i f args tys hop
 simp only at hop
 subst hop
 have key:∀(n':Nat) (cz5:List (List Tree)) (l':List T),RV w S E (a.eval f) (.fz n' cz5)->by3 σ.tm args.toList=some l'->n'=n->cz5=aQ8->l'=l->
   ∃vs ps:List Value,(execOp a.eval ⟨dst,.call ⟨.value f,args,tys⟩,type,pos,aft,guard⟩).run P w= .ok (.enter n (vs++ps).toArray) w/\RVL w S E vs l/\∀E',RVL w S E' ps (aQ8.map T.el):=by
  intro n' cz5 l' hfv hl e1 e2 e3
  subst e1 e2 e3
  generalize hx:a.eval f=x at hfv
  cases hfv with
  |fz _ ps _ hpl hp=>
   refine⟨args.toList.map a.eval,ps,?_,cq9 h _ _ hl,fun E'=>⟨by simpa using hpl,fun j h1 h2=>?_⟩⟩
   ·have:(args.map a.eval)=(args.toList.map a.eval).toArray:=fc3 (by simp)
    simp only[execOp,resolve,bd5,hx,Deferred.ofValue,bx4,aY1,invoke]
    rw[hn]
    simp[this]
   ·simp only[List.getElem_map]
    exact(hp j h1 (by simpa using h2)).rv
 split at ho<;>try(cases ho;done)
 ·rename_i n' cz5 l' hf hl
  simp only[aj7,aX2]at ho
  obtain⟨rfl,rfl,rfl⟩:=ho
  exact key _ _ _ (h.val hf) hl rfl rfl rfl
 ·rename_i n' cs l' hf hl
  split at ho<;>try(cases ho;done)
  rename_i cz5 he
  simp only[aj7,aX2]at ho
  obtain⟨rfl,rfl,rfl⟩:=ho
  exact key _ _ _ (RV.ew1 (h.val hf) he) hl rfl rfl rfl
end
def aY4 (hp hp':List (Nat×H6)):Prop:=∀k b,look hp k=some b->look hp' k=some b
theorem de4 {hp hp':List (Nat×H6)}(h:aY4 hp hp'){x:T}(ho:one hp x=true):one hp' x=true:=by
 cases x with
 |own id=>
  simp only[one,Option.isSome_iff_exists]at ho|-
  obtain⟨b,hb⟩:=ho
  exact⟨b,h _ _ hb⟩
 |t x=>cases x<;>exact ho
 |_=>exact ho
theorem cR7 {hp hp':List (Nat×H6)}(h:aY4 hp hp'):∀{l:List T},cw8 hp l=true->cw8 hp' l=true
 |[],_=>rfl
 |x::l,ho=>by
  simp only[cw8,au2]at ho|-
  exact⟨de4 h ho.1,cR7 h ho.2⟩
theorem br2 {hp hp':List (Nat×H6)}(h:aY4 hp hp'){x:T}{l:List T}(hc:aq9 hp x=some l):aq9 hp' x=some l:=by
 have gen:∀{y:T},(bif one hp y then some [y]else none)=some l->(bif one hp' y then some [y]else none)=some l:=by
  intro y hy
  cases ho:one hp y<;>rw[ho]at hy<;>simp only[fh5,fh3,reduceCtorEq]at hy
  rw[de4 h ho];exact hy
 cases x with
 |agg m=>
  simp only[aq9]at hc|-
  cases ho:cw8 hp m<;>rw[ho]at hc<;>simp only[fh5,fh3,reduceCtorEq]at hc
  rw[cR7 h ho];exact hc
 |_=>simp only[aq9]at hc|-;exact gen hc
theorem bz4 {hp hp':List (Nat×H6)}{tm:List (Nat×T)}(h:aY4 hp hp'){place:Nat->Option (Nat×Nat)}:∀{l:List (Nat×Operand)}{cs r:List T},aL6 hp tm place cs l=some r->aL6 hp' tm place cs l=some r
 |[],cs,r,hx=>hx
 |(i,x)::l,cs,r,hx=>by
  unfold aL6 at hx|-
  cases hv:val tm x with
  |none=>simp[hv]at hx
  |some t=>
   simp only[hv,ac0]at hx|-
   cases hc:aq9 hp t with
   |none=>simp[hc]at hx
   |some m=>
    rw[br2 h hc]
    rw[hc]at hx
    cases hp:place i with
    |none=>simp[hp]at hx
    |some p=>
     obtain⟨o,n⟩:=p
     simp only[hp]at hx|-
     cases hb:(bx3 m.length n&&dQ0 (o+m.length) cs.length)<;>simp only[hb,fh5,fh3]at hx|-
     ·cases hx
     ·exact bz4 h hx
theorem dH1 {D5:Tab}{hp hp':List (Nat×H6)}(h:aY4 hp hp'){ty:Nat}{x:Option T}{t:T}(hl:du8 D5 hp ty x=some t):du8 D5 hp' ty x=some t:=by
 unfold du8 at hl|-
 repeat' split at hl
 all_goals first
  |(cases hl;done)
  |(simp_all;done)
  |(rename_i hb;simp_all[h _ _ hb])
theorem dV9 {D5:Tab}{tm:List (Nat×T)}{hp hp':List (Nat×H6)}{o:Oper}{t:T}(h:aY4 hp hp')(hi:bB3 o.op=true)(he:evalOp D5 ⟨tm,hp⟩ o=some (t,⟨tm,hp⟩)):
  evalOp D5 ⟨tm,hp'⟩ o=some (t,⟨tm,hp'⟩):=by
 rw[aU3]at he|-
 obtain⟨dst,op,type,pos,aft,guard⟩:=o
 have mp:∀{x:Option T},x=some t->x.map (·,(⟨tm,hp'⟩:St))=some (t,⟨tm,hp'⟩):=fun hx=>by rw[hx];rfl
 cases op<;>simp only[bB3,reduceCtorEq]at hi<;>simp only[bl7]at he|-
 case move x=>exact mp (P5 he).1
 case assign x=>exact mp (P5 he).1
 case pick c x y=>
  split at he<;>try(cases he;done)
  exact mp (P5 he).1
 case load ty x=>
  split at he<;>try(cases he;done)
  ·split at he<;>try(cases he;done)
   rename_i hb
   rw[h _ _ hb]
   exact mp (P5 he).1
  ·exact mp (P5 he).1
 case nilCheck x=>
  split at he<;>first|(cases he;done)|(simp only[aj7,aX2]at he;rw[<-he.1])
 case fieldAddr s x f=>
  split at he<;>try(cases he;done)
  all_goals
   split at he<;>try(cases he;done)
   simp only[aj7,aX2]at he
   rw[<-he.1]
 case binOp op ty x y yt=>exact mp (P5 he).1
 case unOp op ty x=>exact mp (P5 he).1
 case convert s d x=>
  split at he<;>try(cases he;done)
  exact mp (P5 he).1
 case extract x k=>
  split at he<;>try(cases he;done)
  exact mp (P5 he).1
 case build ty parts=>
  split at he<;>try(cases he;done)
  ·rename_i sz fs z hti
   cases hf:aL6 hp tm (fs[·]?) (z.map fun x=>.t (.v x)) parts.toList with
   |none=>simp[hf]at he
   |some l=>
    rw[bz4 h hf]
    simp only[hf,cb0,aj7,aX2]at he
    simp only[cb0,he.1]
  ·rename_i sz n e z hti
   split at he<;>try(cases he;done)
   rename_i te hte
   cases hf:aL6 hp tm (fun i=>some (i*te.size,te.size)) (z.map fun x=>.t (.v x)) parts.toList with
   |none=>simp[hf]at he
   |some l=>
    rw[bz4 h hf]
    simp only[hf,cb0,aj7,aX2]at he
    simp only[cb0,he.1]
 case indexAddr ty x ix=>
  split at he<;>try(cases he;done)
  all_goals
   split at he<;>try(cases he;done)
   revert he
   cases ba2 _ _<;>intro he<;>simp only[fh5,fh3,reduceCtorEq,aj7,aX2]at he|-
   exact⟨he.1,trivial⟩
 case index ty x ix=>
  split at he<;>try(cases he;done)
  split at he<;>try(cases he;done)
  revert he
  cases ba2 _ _<;>intro he<;>simp only[fh5,fh3,reduceCtorEq]at he|-
  exact mp (P5 he).1
 case call c=>
  have hb:=(P5 he).1
  refine mp ?_
  unfold dq3 at hb|-
  split at hb<;>try(cases hb;done)
  ·exact dH1 h hb
  ·exact hb
  ·exact hb
theorem ds7 {D5:Tab}{tm tm':List (Nat×T)}{hp hp':List (Nat×H6)}{o:Oper}{t:T}(h:more tm tm')(h':aY4 hp hp')(hi:bB3 o.op=true)(he:evalOp D5 ⟨tm,hp⟩ o=some (t,⟨tm,hp⟩)):
  evalOp D5 ⟨tm',hp'⟩ o=some (t,⟨tm',hp'⟩):=dV9 h' hi (ds8 h hi he)
def aR9:Op->Bool
 | .alloc _| .box .. | .buildSlice .. | .makeSlice ..=>true
 |_=>false
theorem dF8 {D5:Tab}{tm tm':List (Nat×T)}{hp hp':List (Nat×H6)}{o:Oper}{t:T}{d:Nat}{b:H6}(h:more tm tm')(h':aY4 hp hp')(hi:aR9 o.op=true)(hd:o.dst=some d)(he:evalOp D5 ⟨tm,hp⟩ o=some (t,⟨tm,(d,b)::hp⟩))
  (hf:(O6 d tm'&&O0 d hp')=true):evalOp D5 ⟨tm',hp'⟩ o=some (t,⟨tm',(d,b)::hp'⟩):=by
 rw[aU3]at he|-
 obtain⟨dst,op,type,pos,aft,guard⟩:=o
 simp only at hd
 subst hd
 rw[au2]at hf
 cases op<;>simp only[aR9,reduceCtorEq]at hi<;>simp only[bl7]at he|-
 case alloc e=>
  cases hti:look D5 e with
  |none=>simp[hti]at he
  |some ti=>
   simp only[hti]at he|-
   cases hb:(ba2 d big&&O6 d tm&&O0 d hp&&ti.zero.all Value.oneCell')<;>rw[hb]at he<;>simp only[fh5,fh3,reduceCtorEq,aj7,aX2,St.mk.injEq,eU7,true_and,and_true]at he
   simp only[au2]at hb
   rw[hf.1,hf.2,hb.1.1.1,hb.2]
   simp[he.1,he.2]
 case box e x=>
  cases hv:val tm x with
  |none=>simp[hv]at he
  |some u=>
   simp only[hv,ac0]at he
   cases hc:aq9 hp u with
   |none=>simp[hc]at he
   |some l=>
    simp only[hc]at he
    cases hb:(ba2 d big&&O6 d tm&&O0 d hp)<;>rw[hb]at he<;>simp only[fh5,fh3,reduceCtorEq,aj7,aX2,St.mk.injEq,eU7,true_and,and_true]at he
    simp only[au2]at hb
    rw[E5 h hv]
    simp only[ac0,br2 h' hc,hf.1,hf.2,hb.1.1]
    simp[he.1,he.2]
 case buildSlice ty n parts=>
  split at he<;>try(cases he;done)
  rename_i d' s0 e z0 hd' hti
  simp only[aj7]at hd'
  subst hd'
  split at he<;>try(cases he;done)
  rename_i te hte
  try simp only[hte]
  cases hfi:aL6 hp tm (fun i=>some (i*te.size,te.size)) ((aW1 n te.zero).map fun x=>.t (.v x)) parts.toList with
  |none=>simp[hfi]at he
  |some l=>
   rw[bz4 h' (bJ4 h hfi)]
   simp only[hfi]at he
   dsimp only
   split at he<;>try(cases he;done)
   rename_i r hr
   try simp only[hr]
   cases hb:(ba2 d big&&O6 d tm&&O0 d hp&&bx3 r.length (n*te.size)&&dQ0 (n*te.size) 1000000&&bx3 te.zero.length te.size&&ba2 0 te.size)<;>rw[hb]at he<;>simp only[fh5,fh3,reduceCtorEq,aj7,aX2,St.mk.injEq,eU7,true_and,and_true]at he
   simp only[au2]at hb
   simp only[hf.1,hf.2,hb.1.1.1.1.1.1,hb.1.1.1.2,hb.1.1.2,hb.1.2,hb.2]
   simp[he.1,he.2]
 case makeSlice ty x y=>cases he
def pt (o:Oper)(V:T)(tm:List (Nat×T)):List (Nat×T):=match o.dst with|some d=>(d,V)::tm|none=>tm
def bg3 (N:Option (Nat×H6))(hp:List (Nat×H6)):List (Nat×H6):=match N with|some p=>p::hp|none=>hp
def cK0 (o:Oper)(N:Option (Nat×H6)):Option Nat:=match o.op with
 | .call _=>match N with|some (id,_)=>some id|none=>none
 |_=>none
theorem dp3 {o:Oper}{N:Option (Nat×H6)}(h:aR9 o.op=true):cK0 o N=none:=by
 obtain⟨dst,op,type,pos,aft,guard⟩:=o
 cases op<;>simp only[aR9,reduceCtorEq]at h<;>rfl
theorem dT9 {o:Oper}:cK0 o none=none:=by
 unfold cK0
 split<;>rfl
def nfB (id:Nat):List (Nat×H6)->Bool
 |[]=>true
 |(_,b)::r=>!bj5 id b&&nfB id r
theorem co0 {id:Nat}:∀{hp:List (Nat×H6)},nfB id hp=true->O0 id (by0 hp id)=true
 |[],_=>rfl
 |(k,b)::r,h=>by
  simp only[nfB,au2,bZ6]at h
  unfold by0
  cases hk:bx3 k id<;>simp only[fh5,fh3]
  ·simp[O0,hk,h.1,co0 h.2]
  ·exact co0 h.2
def cr7 (o:Oper)(N:Option (Nat×H6))(tm:List (Nat×T))(hp:List (Nat×H6)):Prop:=
 (aR9 o.op=true->∀d,o.dst=some d->(O6 d tm&&O0 d hp)=true)/\∀id,cK0 o N=some id->O6 id tm=true/\nfB id hp=true
def aj4 (X:Cx)(all:Array Oper)(o:Oper)(W9:List (Nat×T))(ao8:List (Nat×H6))(V:T)(N:Option (Nat×H6)):Prop:=
 ∀tm hp,more W9 tm->aY4 ao8 hp->cr7 o N tm hp->(∀d,o.dst=some d->ba2 d X.nt=true)->
  ∀a w,Sim X.w0 X.L X.nt ⟨tm,hp⟩ a w->∀(K:Act->World->Prop) (Q':Exit->Act->World->Prop),
  (∀a' w',Sim X.w0 X.L X.nt ⟨pt o V tm,bg3 N hp⟩ a' w'->K a' w')->
  if Region.wanted o (yielded all a.tmps)then o.wp X.P a w K Q' else K (a.put o.dst undef) w
section
variable {τ:Type} {X:Cx} {W9:List (Nat × T)} {ao8:List (Nat × H6)} {all:Array Oper} {o:Oper} {V:T} {N:Option (Nat × H6)} {kb:List Nat}
theorem Ok.pt {tm:List (Nat×T)}{hp:List (Nat×H6)}{S:Nat->Prop}{E:Nat->Value}{a:Act}{w:World}{v:Value}(h:Ok X.w0 X.L X.nt ⟨tm,hp⟩ S E a w)(hv:RV w S E v V)(hd:∀d,o.dst=some d->ba2 d X.nt=true):
  Sim X.w0 X.L X.nt ⟨Pv.pt o V tm,hp⟩ (a.put o.dst v) w:=by
 unfold Pv.pt
 cases bh3:o.dst with
 |none=>exact⟨S,E,h⟩
 |some d=>exact⟨S,E,h.put (ba1 (hd d bh3)) hv⟩
theorem aj4.pure (hg:gk all.toList kb W9 o.guard=some true)(hi:bB3 o.op=true)(he:evalOp X.D5 ⟨W9,ao8⟩ o=some (V,⟨W9,ao8⟩)):aj4 X all o W9 ao8 V none:=by
 intro tm hp hm hh _ hd a w ⟨S,E,hk⟩ K Q' hK
 obtain⟨v,w',E',hdo,hk',hv⟩:=bE7 X.M7 hk (ds7 hm hh hi he)
 rw[V9 hk (at8 hm (aG3 hg)),if_pos rfl]
 unfold Oper.wp
 have:=hK (a.put o.dst v) w' (by simpa[bg3]using Ok.pt hk' hv hd)
 rcases hdo with hdo|⟨hdo,rfl⟩<;>rw[hdo]<;>exact this
theorem aj4.new {d:Nat}{b:H6}(hg:gk all.toList kb W9 o.guard=some true)(hi:aR9 o.op=true)(hd:o.dst=some d)(he:evalOp X.D5 ⟨W9,ao8⟩ o=some (V,⟨W9,(d,b)::ao8⟩)):aj4 X all o W9 ao8 V (some (d,b)):=by
 intro tm hp hm hh hf hd' a w ⟨S,E,hk⟩ K Q' hK
 obtain⟨v,w',E',hdo,hk',hv⟩:=bE7 X.M7 hk (dF8 hm hh hi hd he (hf.1 hi d hd))
 rw[V9 hk (at8 hm (aG3 hg)),if_pos rfl]
 unfold Oper.wp
 have:=hK (a.put o.dst v) w' (Ok.pt hk' hv hd')
 rcases hdo with hdo|⟨hdo,rfl⟩<;>rw[hdo]<;>exact this
theorem cQ7 {hp:List (Nat×H6)}{id k:Nat}{b c:H6}(h:look hp id=some b):look (au9 hp id c) k=look ((id,c)::hp) k:=by
 rw[aF3]
 by_cases hk:id=k
 ·subst hk;simp[h,look]
 ·simp[hk,look,D6 hk]
theorem Sim.bN0 {w0:World}{L:Lim}{nt:Nat}{tm tm':List (Nat×T)}{hp hp':List (Nat×H6)}{a:Act}{w:World}(hm:Pv.more tm' tm)(hh:aY4 hp' hp)(h:Sim w0 L nt ⟨tm,hp⟩ a w):Sim w0 L nt ⟨tm',hp'⟩ a w:=by
 obtain⟨S,E,hk⟩:=h
 exact⟨S,E,{hk with
  tm:=fun k t ht=>hk.tm k t (hm k t ht)
  hp:=fun i b hb=>hk.hp i b (hh i b hb)
  own:=fun i b β hb=>hk.own i b β (hh i b hb)
  au8:=fun i i' b b' β h1 h2=>hk.au8 i i' b b' β (hh i b h1) (hh i' b' h2)}⟩
theorem aj4.store {t id off:Nat}{x y:Operand}{ti:TI}{l ts:List T}(hg:gk all.toList kb W9 o.guard=some true)(ho:o.op= .store t x y)(hx:val W9 x=some (.ptr id off))(hti:look X.D5 t=some ti)(hy:(val W9 y).bind (aq9 ao8)=some l)
  (hb:look ao8 id=some (.box ts)) (hc:(bx3 l.length ti.size&&dQ0 (off+l.length) ts.length)=true):aj4 X all o W9 ao8 (.t (.v undef)) (some (id,.box (aQ1 ts off l))):=by
 intro tm hp hm hh hf hd' a w ⟨S,E,hk⟩ K Q' hK
 have he:evalOp X.D5 ⟨tm,hp⟩ o=some (.t (.v undef),⟨tm,au9 hp id (.box (aQ1 ts off l))⟩):=by
  have hy':(val tm y).bind (aq9 hp)=some l:=by
   cases hv:val W9 y with
   |none=>simp[hv]at hy
   |some u=>rw[E5 hm hv];rw[hv]at hy;exact br2 hh hy
  rw[aU3]
  obtain⟨dst,op,type,pos,aft,guard⟩:=o
  simp only at ho
  subst ho
  simp only[bl7,E5 hm hx,hti,hy',hh _ _ hb,hc,fh5]
 obtain⟨v,w',E',hdo,hk',hv⟩:=bE7 X.M7 hk he
 rw[V9 hk (at8 hm (aG3 hg)),if_pos rfl]
 unfold Oper.wp
 have:=hK (a.put o.dst v) w' (Sim.bN0 (fun _ _ h=>h) (fun k c hkc=>by rw[cQ7 (hh _ _ hb)];exact hkc) (Ok.pt hk' hv hd'))
 rcases hdo with hdo|⟨hdo,rfl⟩<;>rw[hdo]<;>exact this
theorem aj4.skip (hg:gk all.toList kb W9 o.guard=some false):aj4 X all o W9 ao8 (.t (.v undef)) none:=by
 intro tm hp hm hh hf hd a w ⟨S,E,hk⟩ K Q' hK
 rw[V9 hk (at8 hm (aG3 hg)),if_neg (by simp)]
 exact hK _ _ (by simpa[bg3]using Ok.pt hk (.t (.v _)) hd)
end
mutual
theorem cn8:∀(t:T),mrg t t=t
 | .agg l=>by simp only[mrg,bX0 l]
 | .S9 l=>by simp only[mrg,bX0 l]
 | .t x=>by
  unfold mrg
  cases x with
  |sl n rs=>rfl
  |v x=>rfl
 | .clo f l=>by simp only[mrg]
 | .el _=>by simp only[mrg]
 | .ptr _ _=>by simp only[mrg]
 | .own _=>by simp only[mrg]
 | .pe _ _ _ _=>by simp only[mrg]
 | .vw _ _ _ _=>by simp only[mrg]
 | .fz _ _=>by simp only[mrg]
 | .any=>by simp only[mrg]
theorem bX0:∀(l:List T),bB6 l l=l
 |[]=>by simp only[bB6]
 |x::l=>by simp only[bB6,cn8 x,bX0 l]
end
theorem de1 (b:H6):cn7 b b=b:=by
 cases b<;>simp[cn7,bX0]
theorem L1.dm5 {D5:Tab}{tm tm':List (Nat×T)}{hp hp':List (Nat×H6)}{o:Op}(hm:more tm tm')(hh:aY4 hp hp'):∀{τ:Type}{l:L1 τ}{r:Tr×(τ->T)},l.q D5 tm hp o=some r->l.q D5 tm' hp' o=some r
 |_,.ix enc l i,r,h=>by
  simp only[L1.q]at h|-
  split at h<;>try(cases h;done)
  split at h<;>try(cases h;done)
  rename_i hx hi hty
  rw[E5 hm hx,E5 hm hi,hty]
  dsimp only
  split at h<;>try(cases h;done)
  split at h
  ·split at h<;>try(cases h;done)
   rename_i hb
   try dsimp only
   rw[hh _ _ hb];exact h
  ·exact h
 |_,.quo k i j,r,h=>by
  simp only[L1.q]at h|-
  split at h<;>try(cases h;done)
  split at h<;>try(cases h;done)
  rename_i hx hy
  rw[E5 hm hx,E5 hm hy];exact h
 |_,.rem i j,r,h=>by
  simp only[L1.q]at h|-
  split at h<;>try(cases h;done)
  split at h<;>try(cases h;done)
  rename_i hx hy
  rw[E5 hm hx,E5 hm hy];exact h
 |_,.shl k i j,r,h=>by
  simp only[L1.q]at h|-
  split at h<;>try(cases h;done)
  split at h<;>try(cases h;done)
  rename_i hx hy
  rw[E5 hm hx,E5 hm hy];exact h
 |_,.shr k i j,r,h=>by
  simp only[L1.q]at h|-
  split at h<;>try(cases h;done)
  split at h<;>try(cases h;done)
  rename_i hx hy
  rw[E5 hm hx,E5 hm hy];exact h
 |_,.str s i,r,h=>by
  simp only[L1.q]at h|-
  split at h<;>try(cases h;done)
  split at h<;>try(cases h;done)
  rename_i hx hi hty
  rw[E5 hm hx,E5 hm hi,hty];exact h
 |_,.arr res ys i,r,h=>by
  simp only[L1.q]at h|-
  split at h<;>try(cases h;done)
  split at h<;>try(cases h;done)
  rename_i hx hi hty
  rw[E5 hm hx,E5 hm hi,hty];exact h
 |_,.ax enc ys i,r,h=>by
  simp only[L1.q]at h|-
  split at h<;>try(cases h;done)
  split at h<;>try(cases h;done)
  rename_i hx hi hty
  rw[E5 hm hx,E5 hm hi,hty];exact h
theorem bL8 {hp hp':List (Nat×H6)}(h:aY4 hp hp'):∀{ts:List T}{c:List Tree},at3 hp ts=some c->at3 hp' ts=some c
 |[],c,hc=>by simp only[at3]at hc|-;exact hc
 | .t x::r,c,hc=>by
  simp only[at3]at hc|-
  cases hr:at3 hp r with
  |none=>simp[hr]at hc
  |some d=>rw[bL8 h hr];rw[hr]at hc;exact hc
 | .own id::r,c,hc=>by
  simp only[at3]at hc|-
  split at hc<;>try(cases hc;done)
  rename_i hb
  rw[h _ _ hb]
  cases hr:at3 hp r with
  |none=>simp[hr]at hc
  |some d=>simp only[bL8 h hr];rw[hr]at hc;exact hc
 | .el _::_,c,hc=>by simp[at3]at hc
 | .ptr _ _::_,c,hc=>by simp[at3]at hc
 | .pe _ _ _ _::_,c,hc=>by simp[at3]at hc
 | .vw _ _ _ _::_,c,hc=>by simp[at3]at hc
 | .agg _::_,c,hc=>by simp[at3]at hc
 | .S9 _::_,c,hc=>by simp[at3]at hc
 | .clo _ _::_,c,hc=>by simp[at3]at hc
 | .fz _ _::_,c,hc=>by simp[at3]at hc
 | .any::_,c,hc=>by simp[at3]at hc
mutual
theorem dG2 {hp hp':List (Nat×H6)}(h:aY4 hp hp'):∀{x y:T},ba9 hp x=some y->ba9 hp' x=some y
 | .own id,y,hf=>by
  simp only[ba9]at hf|-
  split at hf<;>try(cases hf;done)
  rename_i hb
  rw[h _ _ hb];exact hf
 | .ptr id off,y,hf=>by
  simp only[ba9]at hf|-
  split at hf<;>try(cases hf;done)
  rename_i ts hb
  rw[h _ _ hb]
  cases hc:at3 hp ts with
  |none=>simp[hc]at hf
  |some c=>simp only[bL8 h hc];rw[hc]at hf;exact hf
 | .agg l,y,hf=>by
  simp only[ba9]at hf|-
  cases hl:bn5 hp l with
  |none=>simp[hl]at hf
  |some r=>rw[bv5 h hl];rw[hl]at hf;exact hf
 | .S9 l,y,hf=>by
  simp only[ba9]at hf|-
  cases hl:bn5 hp l with
  |none=>simp[hl]at hf
  |some r=>rw[bv5 h hl];rw[hl]at hf;exact hf
 | .clo n l,y,hf=>by
  simp only[ba9]at hf|-
  cases hl:bn5 hp l with
  |none=>simp[hl]at hf
  |some r=>rw[bv5 h hl];rw[hl]at hf;exact hf
 | .t x,y,hf=>by simp only[ba9]at hf|-;exact hf
 | .el c,y,hf=>by simp only[ba9]at hf|-;exact hf
 | .fz n c,y,hf=>by simp only[ba9]at hf|-;exact hf
 | .pe _ _ _ _,y,hf=>by simp[ba9]at hf
 | .vw _ _ _ _,y,hf=>by simp[ba9]at hf
 | .any,y,hf=>by simp[ba9]at hf
theorem bv5 {hp hp':List (Nat×H6)}(h:aY4 hp hp'):∀{l r:List T},bn5 hp l=some r->bn5 hp' l=some r
 |[],r,hf=>by simp only[bn5]at hf|-;exact hf
 |x::l,r,hf=>by
  simp only[bn5]at hf|-
  split at hf<;>try(cases hf;done)
  rename_i hx hl
  rw[dG2 h hx,bv5 h hl];exact hf
end
section
variable {τ:Type} {X:Cx} {W9:List (Nat × T)} {ao8:List (Nat × H6)} {all:Array Oper} {o:Oper} {V:T} {kb:List Nat}
theorem dE3 {tm tm':List (Nat×T)}{r:Nat×List T×List (List Tree)}(h:more tm tm')(hc:cN1 tm o=some r):cN1 tm' o=some r:=by
 unfold cN1 at hc|-
 split at hc<;>try(cases hc;done)
 rename_i f args tys hop
 split at hc<;>try(cases hc;done)
 ·rename_i n aQ8 l hf hl
  rw[E5 h hf,bG4 h hl]
  exact hc
 ·rename_i n aQ8 l hf hl
  rw[E5 h hf,bG4 h hl]
  exact hc
theorem W1.dm5 {P:Program}{Ev:EqV P}{D5:Tab}{Γ:List GF}{tm tm':List (Nat×T)}{hp hp':List (Nat×H6)}{o:Op}(hm:more tm tm')(hh:aY4 hp hp'):∀{u:W1}{r:Tr×T},u.q Ev D5 Γ tm hp o=some r->u.q Ev D5 Γ tm' hp' o=some r
 | .hx n,r,h=>by
  simp only[W1.q]at h|-
  split at h<;>try(cases h;done)
  rename_i f hf
  try simp only[hf]
  split at h<;>try(cases h;done)
  rename_i hq
  rw[L1.dm5 hm hh hq];exact h
 | .ly n,r,h=>by
  simp only[W1.q]at h|-
  split at h<;>try(cases h;done)
  rename_i hf
  try simp only[hf]
  split at h<;>try(cases h;done)
  rename_i hp1 hti
  rw[E5 hm hp1,hti]
  dsimp only
  split at h<;>try(cases h;done)
  rename_i hb hr
  rw[hh _ _ hb,hr];exact h
 | .eq,r,h=>by
  simp only[W1.q]at h|-
  split at h<;>try(cases h;done)
  split at h<;>try(cases h;done)
  rename_i hx hy
  rw[E5 hm hx,E5 hm hy];exact h
 | .cn,r,h=>by
  simp only[W1.q]at h|-
  split at h<;>try(cases h;done)
  split at h<;>try(cases h;done)
  rename_i ha hb
  try rw[ha,hb]
  try dsimp only
  split at h<;>try(cases h;done)
  rename_i hx hty
  rw[E5 hm hx,hty];exact h
 | .sn,r,h=>by
  simp only[W1.q]at h|-
  split at h<;>try(cases h;done)
  split at h<;>try(cases h;done)
  rename_i hx hh' hty
  rw[E5 hm hx,E5 hm hh',hty];exact h
theorem aj4.known {Ev:EqV X.P}{Γ:List GF}(hΓ:∀f∈Γ,f.ok){u:W1}{t:Tr}(hg:gk all.toList kb W9 o.guard=some true)(hq:u.q Ev X.D5 Γ W9 ao8 o.op=some (t,V))(ht:t.den):aj4 X all o W9 ao8 V none:=by
 intro tm hp hm hh _ hd a w ⟨S,E,hk⟩ K Q' hK
 obtain⟨v,h1,h2⟩:=W1.ok hΓ (W1.dm5 hm hh hq) ht S E a w hk
 rw[V9 hk (at8 hm (aG3 hg)),if_pos rfl]
 unfold Oper.wp
 rw[h1]
 exact hK (a.put o.dst v) w (by simpa[bg3]using Ok.pt hk h2 hd)
theorem aj4.one {l:L1 τ}{t:Tr}{res:τ->T}{y:τ}(hg:gk all.toList kb W9 o.guard=some true)(hq:l.q X.D5 W9 ao8 o.op=some (t,res))(ht:t.den)(hy:l.m=some y):aj4 X all o W9 ao8 (res y) none:=by
 intro tm hp hm hh _ hd a w ⟨S,E,hk⟩ K Q' hK
 obtain⟨v,h1,h2⟩:=L1.ok (L1.dm5 hm hh hq) ht y S E a w hy hk
 rw[V9 hk (at8 hm (aG3 hg)),if_pos rfl]
 unfold Oper.wp
 rw[h1]
 exact hK (a.put o.dst v) w (by simpa[bg3]using Ok.pt hk h2 hd)
theorem aj4.call {n d:Nat}{args:List T}{s:Bool}{m₁:Option τ}{res:τ->T}{t:τ}(ht:m₁=some t)(hg:gk all.toList kb W9 o.guard=some true)(ho:cN0 W9 ao8 o=some (n,args,s,d))(hc:aR1 X.P n args m₁ res)
  (hs:s=true->scalar (res t)=true):aj4 X all o W9 ao8 (res t) none:=by
 intro tm hp hm hh _ hd a w ⟨S,E,hk⟩ K Q' hK
 unfold cN0 at ho
 split at ho<;>try(cases ho;done)
 rename_i n' targs aQ8 d' hz hd'
 obtain⟨vs,ps,bf7,hv,hps⟩:=ei2 hk (dE3 hm hz) (by
  split at ho
  ·simp only[aj7,aX2]at ho;obtain⟨rfl,_⟩:=ho;exact hc.1
  ·split at ho<;>try(cases ho;done)
   simp only[aj7,aX2]at ho;obtain⟨rfl,_⟩:=ho;exact hc.1)
 rw[V9 hk (at8 hm (aG3 hg)),if_pos rfl]
 unfold Oper.wp
 rw[bf7,Oper.upon_enter]
 split at ho
 ·rename_i l' hf
  simp only[aj7,aX2]at ho
  obtain⟨rfl,rfl,rfl,rfl⟩:=ho
  have aL7:=hc.2 t ht w S E (vs++ps) hk.aH4 ((RV.closed hk hv hf E).append (hps E))
  refine aL7.mono fun e w' ⟨v,S',he,hv',aL8,hs1,hs2⟩=>?_
  subst he
  refine hK _ _ (by
   have:=Ok.pt (o:=o) (V:=res t) (v:=v) (S:=fun b=>S b\/S' b) (E:=E) ((hk.grow aL8).more hs1 (fun b hb=>?_) (fun id blk β hb hβ hS=>?_)) (hv'.mono (fun _ x=>.inr x) (fun _ _=>rfl) (fun _ _=>rfl)) hd
   ·simpa[bg3]using this
   ·rcases hs2 b hb with h1|h1
    ·exact hk.base b h1
    ·exact .inr (.inr (eL2 hk.keep.size h1))
   ·have:=hk.own id blk β hb hβ
    rcases hs2 β hS with h1|h1
    ·exact this.1 h1
    ·exact absurd this.2.1 (fc9.2 h1))
 ·split at ho<;>try(cases ho;done)
  rename_i l' hf
  simp only[aj7,aX2]at ho
  obtain⟨rfl,rfl,rfl,rfl⟩:=ho
  have aL7:=hc.2 t ht w (fun b=>S b\/bl8 hp E b) E (vs++ps) (fun b hb=>hb.elim (hk.aH4 b) (fun⟨id,_,hl,hβ⟩=>(hk.own id _ b hl hβ).2.1))
   ((bz5 hk (fun _ x=>.inl x) (fun _ x=>.inr x) hv (bv5 hh hf) E).append ((hps E).eK0 (fun _ x=>.inl x) (fun _ _=>rfl)))
  refine aL7.mono fun e w' ⟨v,S',he,hv',aL8,_,_⟩=>?_
  subst he
  exact hK _ _ (by simpa[bg3]using Ok.pt (hk.grow aL8) (hv'.scalar (hs rfl)) hd)
theorem eB8 {w0:World}{L:Lim}{nt d e sz n:Nat}{rs:List (List Tree)}{tm:List (Nat×T)}{hp:List (Nat×H6)}{a:Act}{w:World}(hb:O0 d hp=true)(h:Sim w0 L nt ⟨(d,.own d)::tm,(d,.rows e sz n rs)::hp⟩ a w):
  Sim w0 L nt ⟨(d,.t (.sl n rs))::tm,hp⟩ a w:=by
 obtain⟨S,E,hk⟩:=h
 have hne:∀{id blk},look hp id=some blk->d≠id:=fun hl e=>(aA9 hb _ _ hl).1 e.symm
 have hd0:look ((d,H6.rows e sz n rs)::hp) d=some (.rows e sz n rs):=by simp[look]
 have hl':∀{id blk},look hp id=some blk->look ((d,H6.rows e sz n rs)::hp) id=some blk:=fun hl=>by rw[J8 (hne hl)];exact hl
 have hk1:Ok w0 L nt ⟨(d,.own d)::tm,[(d,.rows e sz n rs)]⟩ S E a w:=
  {hk with
   hp:=fun i b hb'=>by
    simp only[look]at hb'
    by_cases hi:d=i
    ·subst hi;simp only[bX7,fh5,aj7]at hb';subst hb';exact hk.hp d _ hd0
    ·simp[D6 hi]at hb'
   own:=fun i b β hb' hβ=>by
    simp only[look]at hb'
    by_cases hi:d=i
    ·subst hi;simp only[bX7,fh5,aj7]at hb';subst hb';exact hk.own d _ β hd0 hβ
    ·simp[D6 hi]at hb'
   au8:=fun i i' b b' β h1 h2 _ _=>by
    simp only[look]at h1 h2
    by_cases hi:d=i<;>by_cases hi':d=i'
    ·exact hi.symm.trans hi'
    ·simp[D6 hi']at h2
    ·simp[D6 hi]at h1
    ·simp[D6 hi]at h1}
 have hk2:Ok w0 L nt ⟨(d,.own d)::tm,hp⟩ S E a w:=
  {hk with
   hp:=fun i b hb'=>hk.hp i b (hl' hb')
   own:=fun i b β hb' hβ=>hk.own i b β (hl' hb') hβ
   au8:=fun i i' b b' β h1 h2=>hk.au8 i i' b b' β (hl' h1) (hl' h2)}
 have hk3:=hk2.more (S':=fun b=>U5 (E d)=some b) (fun b hb'=>(hk.own d _ b hd0 hb').2.1) (fun b hb'=>by
  rcases(hk.own d _ b hd0 hb').2.2 with h2|h2
  ·exact .inr (.inr h2)
  ·exact .inr (.inl h2)) (fun id blk β hl hβ hS=>hne hl (hk.au8 d id _ blk β hd0 (hl' hl) hS hβ))
 have hu:RV w (fun b=>S b\/U5 (E d)=some b) E (E d) (.t (.sl n rs)):=by
  refine .t (bX3 hk1 (id:=d) (e:=e) (sz:=sz) (by simp[look]) _ (fun _ x=>.inl x) fun b hb'=>?_)
  obtain⟨i,_,hl,hβ⟩:=hb'
  simp only[look]at hl
  by_cases hi:d=i
  ·subst hi;exact .inr hβ
  ·simp[D6 hi]at hl
 refine⟨_,E,{hk3 with tm:=fun k t ht=>?_}⟩
 simp only[look]at ht
 by_cases hdk:d=k
 ·subst hdk
  simp only[bX7,fh5,aj7]at ht
  subst ht
  have:=hk3.tm d (.own d) (by simp[look])
  generalize a.tmps.getD d undef=x at this|-
  cases this with
  |own _ _ hE=>rw[<-hE];exact hu
 ·simp only[D6 hdk,fh3]at ht
  exact hk3.tm k t (by rw[J8 hdk];exact ht)
theorem aj4.frz {d e sz n:Nat}{rs:List (List Tree)}(hi:aR9 o.op=true)(hd:o.dst=some d)(h:aj4 X all o W9 ao8 (.own d) (some (d,.rows e sz n rs))):aj4 X all o W9 ao8 (.t (.sl n rs)) none:=by
 intro tm hp hm hh hf hd' a w hk K Q' hK
 have h1:=h tm hp hm hh ⟨hf.1,fun id hid=>by rw[dp3 hi]at hid;cases hid⟩ hd' a w hk K Q' fun a' w' hs=>hK a' w' (by
  simp only[pt,bg3,hd]at hs|-
  have:=hf.1 hi d hd
  rw[au2]at this
  exact eB8 this.2 hs)
 exact h1
theorem Oper.dS4 {P:Program}{o:Oper}{a:Act}{w:World}{K K':Act->World->Prop}{Q Q':Exit->Act->World->Prop}(h:∀a w,K a w->K' a w)(hp:∀c a w,¬Q (.panic c) a w)(hl:¬LetsOut Q)(hh:o.wp P a w K Q):o.wp P a w K' Q':=by
 unfold Oper.wp at*
 generalize(execOp a.eval o).run P w=r at*
 cases r with
 |ok n w'=>
  cases n<;>simp only[Oper.upon]at hh|- <;>
   first
    |exact h _ _ hh
    |exact Calls.mono hh (fun e w'' he=>by cases e<;>first|exact h _ _ he|exact absurd he (hp _ _ _)|exact absurd he hl)
    |exact Rows.mono hh (fun _ _ he=>h _ _ he)
 |halt x w'=>cases x<;>simp only[Oper.upon]at hh|- <;>first|exact absurd hh (hp _ _ _)|exact hh
theorem aj4.eK4 {N:Option (Nat×H6)}(h:∀tm hp,more W9 tm->aY4 ao8 hp->∃σ':St,more (Pv.pt o V tm) σ'.tm/\aY4 (bg3 N hp) σ'.hp/\C3 X all [o] [] ⟨tm,hp⟩ (some ()) (fun _ e σ=>e= .normal/\σ=σ')):aj4 X all o W9 ao8 V N:=by
 intro tm hp hm hh _ _ a w hk K Q' hK
 obtain⟨σ',h1,h2,h3⟩:=h tm hp hm hh
 have h4:=h3 () rfl a w hk
 have hp':∀(e:Exit) a w,e≠ .normal->¬(X.post fun e σ=>e= .normal/\σ=σ') e a w:=fun e a w he ⟨σ,_,hx,_⟩=>he hx
 have hfin:∀a w,wpList X.P all (after X.P [] (X.post fun e σ=>e= .normal/\σ=σ')) [] a w->K a w:=fun a w hq=>by
  obtain⟨σ,hs,_,rfl⟩:=hq
  exact hK a w (hs.bN0 h1 h2)
 unfold wpList at h4
 split at h4
 ·rename_i hw
  rw[if_pos hw]
  rcases h4 with h4|⟨_,h4⟩
  ·exact Oper.dS4 hfin (fun c a w=>hp' _ a w (by intro e;cases e)) (fun⟨a,w,hx⟩=>hp' _ a w (by intro e;cases e) hx) h4
  ·obtain⟨a,w,hx⟩:=h4
   exact absurd hx (hp' _ a w (by intro e;cases e))
 ·rename_i hw
  rw[if_neg hw]
  exact hfin _ _ h4
theorem aa4 {α:Type}{id:Nat}:∀{l:List (Nat×α)}{k:Nat}{b:α},look (by0 l id) k=some b->k≠id/\look l k=some b
 |[],k,b,h=>by simp[by0,look]at h
 |(j,x)::r,k,b,h=>by
  unfold by0 at h
  by_cases hj:j=id
  ·subst hj
   simp only[bX7,fh5]at h
   obtain⟨h1,h2⟩:=aa4 h
   exact⟨h1,by rw[J8 (Ne.symm h1)];exact h2⟩
  ·simp only[D6 hj,fh3]at h
   by_cases hk:j=k
   ·subst hk
    exact⟨hj,by simpa[look]using h⟩
   ·rw[J8 hk]at h|-
    exact aa4 h
theorem aV0 {α:Type}{id k:Nat}(hk:k≠id):∀{l:List (Nat×α)},look (by0 l id) k=look l k
 |[]=>rfl
 |(j,x)::r=>by
  unfold by0
  by_cases hj:j=id
  ·subst hj
   simp only[bX7,fh5]
   rw[J8 (Ne.symm hk)];exact aV0 hk
  ·simp only[D6 hj,fh3]
   by_cases hjk:j=k
   ·subst hjk;simp[look]
   ·rw[J8 hjk,J8 hjk];exact aV0 hk
theorem aj4.append {α:Type}{t e e' d id n m s0:Nat}{z0:List Value}{te:TI}{s x:Operand}{sv:Value}{l r y:List α}{enc:α->List Tree}(hg:gk all.toList kb W9 o.guard=some true)
  (ho:o.op= .call ⟨.builtin .append,#[s,x],#[t,t]⟩) (hd:o.dst=some d)
  (hty:look X.D5 t=some ⟨s0,.slice e,z0⟩) (hte:look X.D5 e=some te) (hz:te.zero.length=te.size) (az8:∀y,(enc y).length=te.size) (bh4:∀y,(enc y).all aQ6=true)
  (hs:val W9 s=some (.t (.v sv))) (hb:look ao8 id=some (.rv sv e te.size n (l.map enc)))
  (hx:val W9 x=some (.t (.sl m (r.map enc)))\/∃i2,val W9 x=some (.own i2)/\look ao8 i2=some (.rows e' te.size m (r.map enc)))
  (aM8:ba2 id big=true) (hy:U8 l r=some y):aj4 X all o W9 ao8 (.own id) (some (id,.rows e te.size y.length (y.map enc))):=by
 intro tm hp hm hh hf hd' a w ⟨S,E,hk⟩ K Q' hK
 unfold U8 at hy
 split at hy<;>try(cases hy;done)
 rename_i cF9
 simp only[aj7]at hy
 subst hy
 obtain⟨hft,hfb⟩:=hf.2 id (by unfold cK0;rw[ho])
 obtain⟨dd,hu,ho2⟩:∃d,X.P.underlying t=some d/\TD.ok X.P (.slice e) d:=by
  obtain⟨i,d,_,_,hu,hdd,_⟩:=X.M7 t _ hty
  exact⟨d,hu,hdd⟩
 simp only[TD.ok]at ho2
 subst ho2
 have hb':=hh _ _ hb
 have cf6:Src w S (a.eval x) r.length te.size (r.map enc):=by
  rcases hx with hx|⟨i2,hx,hb2⟩
  ·have hv:=hk.val (E5 hm hx)
   generalize a.eval x=xv at hv
   cases hv with
   |t hv=>
    have:=cg9 hv (bW0 az8 r) (bH3 bh4 r)
    have hm:m=r.length:=by simpa using this.1
    subst hm
    exact⟨by simp,this.2⟩
  ·have hv:=hk.val (E5 hm hx)
   have hb:=hk.hp i2 _ (hh _ _ hb2)
   generalize a.eval x=xv at hv
   cases hv with
   |own _ _ hE=>
    subst hE
    have:=dn4 hb (bH3 bh4 r)
    have hm:m=r.length:=by simpa using this.1
    subst hm
    exact this
 have hv:a.eval s=sv:=(hk.val (E5 hm hs)).tv
 obtain⟨hE0,bz7⟩:=hk.hp id _ hb'
 have hn:n=l.length:=by have:=bz7.1;simpa using this
 subst hn
 have hbv:bd9 w S E sv (.rows e te.size l.length (l.map enc)):=by rw[<-hE0];exact bz7
 have hk':Ok X.w0 X.L X.nt ⟨tm,by0 hp id⟩ S E a w:=
  {hk with
   hp:=fun i b hb=>hk.hp i b (aa4 hb).2
   own:=fun i b β hb hβ=>hk.own i b β (aa4 hb).2 hβ
   au8:=fun i i' b b' β h1 h2=>hk.au8 i i' b b' β (aa4 h1).2 (aa4 h2).2}
 obtain⟨v',w',E',hr,hE,hok⟩:=hk'.append (ty:=o.type) aM8 hft (co0 hfb) (v:=sv) (x:=a.eval x) (fun β hβ=>hk.own id _ β hb' (by rw[hE0];exact hβ)) (fun i blk β hi h1 h2=>by
   obtain⟨g1,g2⟩:=aa4 hi
   exact g1 (hk.au8 id i _ blk β hb' g2 (by rw[hE0];exact h1) h2).symm) hbv hu (X.M7 e _ hte) hz cf6 (bW0 az8 r) (by simpa using cF9)
 rw[V9 hk (at8 hm (aG3 hg)),if_pos rfl]
 unfold Oper.wp
 have aO9:(execOp a.eval o).run X.P w= .ok (.value v') w':=by
  unfold execOp
  simp only[ho,resolve,invoke,builtin,bd5,bx4,aY1,List.map_toArray,cX5,List.map_nil,hv,hr]
 rw[aO9]
 rw[<-List.map_append,<-aX7]at hok
 refine hK (a.put o.dst v') w' (Sim.bN0 (fun _ _ h=>h) (fun k c hkc=>?_) (Ok.pt (o:=o) hok (.own id v' hE) hd'))
 by_cases hki:id=k
 ·subst hki
  simpa[bg3,look]using hkc
 ·simp only[bg3]at hkc
  rw[J8 hki]at hkc|-
  rw[aV0 (Ne.symm hki)];exact hkc
theorem ce2 {tm tm':List (Nat×T)}{r:Nat×List T}(h:more tm tm')(hc:bD7 tm o=some r):bD7 tm' o=some r:=by
 unfold bD7 at hc|-
 split at hc<;>try(cases hc;done)
 rename_i f args tys hop
 split at hc<;>try(cases hc;done)
 ·rename_i n aQ8 l hf hl
  rw[E5 h hf,bG4 h hl]
  exact hc
 ·rename_i n c l hf hl
  rw[E5 h hf,bG4 h hl]
  exact hc
theorem bI9 {lm:List (Nat×Nat)}{k:Nat}(h:k∉lm.map (·.2)):∀{hp:List (Nat×H6)},look (ar3 lm hp) k=look hp k
 |[]=>rfl
 |(i,b)::r=>by
  simp only[ar3]
  split
  ·rename_i hm
   have hik:i≠k:=by
    rintro rfl
    unfold eo6 at hm
    rw[List.any_eq_true]at hm
    obtain⟨p,hp,he⟩:=hm
    exact h (cZ1.2 ⟨p,hp,bq5 he⟩)
   rw[J8 hik];exact bI9 h
  ·by_cases hik:i=k
   ·subst hik;simp[look]
   ·rw[J8 hik,J8 hik];exact bI9 h
theorem df3 {h:List (Nat×Nat)}:∀{hp hp':List (Nat×H6)},aS4 h hp=some hp'->∀{p},p∈hp'->p.1∈h.map (·.2)
 |[],hp',hr,p,hm=>by simp only[aS4,aj7]at hr;subst hr;cases hm
 |(i0,b0)::r,hp',hr,p,hm=>by
  simp only[aS4]at hr
  split at hr<;>try(cases hr;done)
  rename_i j c l hj _ hl
  simp only[aj7]at hr
  subst hr
  rcases cr6.1 hm with rfl|hm
  ·exact cZ1.2 ⟨(i0,j),bn6 hj,rfl⟩
  ·exact df3 hl hm
theorem aj4.eX0 {n d : Nat} {targs ao0 aC9 : List T} {chp aP2 : List (Nat × H6)} {m₁ : Option τ} {res : τ -> T} {bI5 : τ -> List (Nat × H6)} {t : τ} {rt : T} (lm : List (Nat × Nat)) (ht : m₁ = some t) (hc : bh9 X.P n aC9 chp m₁ res bI5)
    (hg : gk all.toList kb W9 o.guard = some true) (ho : bD7 W9 o = some (n, targs)) (bh3 : o.dst = some d) (hdn : ba2 d X.nt = true) (ha : bU0 lm aC9 = some ao0) (hmr : bB6 targs ao0 = ao0)
    (hr : aS4 lm chp = some aP2) (cm8 : aP2.map (fun p => look ao8 p.1) = aP2.map (fun p => some p.2)) (hm0 : bp7 lm [] [] [] = true) (hk0 : (lm.all fun p => (look aP2 p.2).isSome) = true)
    (dk3 : aN6 lm (res t) = some rt) (hsame : bI5 t = chp) : aj4 X all o W9 ao8 rt none := by
  have cf5 : ∀ p ∈ aP2, look ao8 p.1 = some p.2 := fun p hp' => by
    obtain ⟨n, hn, rfl⟩ := List.mem_iff_getElem.1 hp'
    have : (aP2.map (fun p => look ao8 p.1))[n]? = (aP2.map (fun p => some p.2))[n]? := by rw [cm8]
    rw [cM9, cM9, aJ9 hn] at this
    simpa using this
  have hct : bh9 X.P n aC9 chp (some ()) (fun _ => res t) (fun _ => chp) := ⟨hc.1, fun r _ => by
    have := hc.2 t ht
    rw [hsame] at this
    exact this⟩
  refine .eK4 fun tm hp hm hh => ⟨⟨(d, rt) :: tm, aP2 ++ ar3 lm hp⟩, ?_, ?_, ?_⟩
  · intro k u hk; simpa [pt, bh3] using hk
  · intro k c hk
    simp only [bg3] at hk
    by_cases hkl : k ∈ lm.map (·.2)
    · obtain ⟨p, hp1, rfl⟩ := cZ1.1 hkl
      have := by6.1 hk0 p hp1
      rw [Option.isSome_iff_exists] at this
      obtain ⟨b, hb⟩ := this
      rw [aS0, hb]
      have := hh _ _ (cf5 _ (bn6 hb))
      rw [hk] at this
      simp only [aj7] at this
      simp [this]
    · rw [aS0]
      cases hx : look aP2 k with
      | some b => exact absurd (df3 hr (bn6 hx)) hkl
      | none => rw [bI9 hkl]; exact hk
  · have := C3.g (X := X) (all := all) (o := o) (rest := []) (ks := []) (k := fun _ => some ()) (Q := fun (_ : Unit) e' σ => e' = .normal /\ σ = ⟨(d, rt) :: tm, aP2 ++ ar3 lm hp⟩) (hp2 := ar3 lm hp) (d := d) lm [] (dJ3 := fun _ => rt) (rhp := fun _ => aP2) (aP2 := aP2) (targs := targs) (ao0 := ao0) (n := n) hct (by
        unfold dq2
        rw [at8 hm (aG3 hg)]
        simp only [ce2 hm ho, ha, hr, bh3, hdn, eY4]
        rw [show bp7 lm [] tm hp = true by simpa [bp7] using hm0]
        simp only [fh5]) hmr (by
        refine List.map_congr_left fun p hp1 => ?_
        unfold bF3
        rw [hh _ _ (cf5 p hp1)]
        simp only [de1]) (fun _ => by rw [dn6]; exact dk3) (fun _ => by rw [dn6]; exact hr) (fun _ _ => C3.nil (F9.leaf ⟨rfl, rfl⟩))
    exact this
theorem Sim.pin {w0:World}{L:Lim}{nt:Nat}{tm:List (Nat×T)}{hp:List (Nat×H6)}{a:Act}{w:World}(id:Nat){e sz n:Nat}{rs:List (List Tree)}(hb:look hp id=some (.rows e sz n rs))(h:Sim w0 L nt ⟨tm,hp⟩ a w):
  ∃v:Value,Sim w0 L nt ⟨cq3 id (.t (.v v)) tm,(id,.rv v e sz n rs)::bo5 id (.t (.v v)) hp⟩ a w:=by
 obtain⟨S,E,hk⟩:=h
 have hu:RV w S E (E id) (.t (.v (E id))):=.t (.v _)
 have back:∀{i:Nat}{b:H6},look ((id,H6.rv (E id) e sz n rs)::bo5 id (.t (.v (E id))) hp) i=some b->∃b0,look hp i=some b0:=fun{i b} hl=>by
  by_cases hi:id=i
  ·subst hi;exact⟨_,hb⟩
  ·rw[J8 hi]at hl
   obtain⟨_,b0,h0,_⟩:=as5 _ _ _ _ _ hl
   exact⟨b0,h0⟩
 refine⟨E id,S,E,{hk with tm:=fun k t ht=>?_,hp:=fun i b hl=>?_,own:=fun i b β hl hβ=>?_,au8:=fun i i' b b' β h1 h2=>?_}⟩
 ·simp only at ht
  rw[ch5]at ht
  cases hl:look tm k with
  |none=>simp[hl]at ht
  |some t0=>simp only[hl,cb0,aj7]at ht;subst ht;exact cV2 (fun _ x=>x) hu (hk.tm k t0 hl)
 ·by_cases hi:id=i
  ·subst hi
   simp only[look,bX7,fh5,aj7]at hl
   subst hl
   exact⟨rfl,hk.hp id _ hb⟩
  ·simp only at hl
   rw[J8 hi]at hl
   obtain⟨hne,b0,hb0,hm⟩:=as5 _ _ _ _ _ hl
   have hk0:=hk.hp i b0 hb0
   cases b0 with
   |box ts=>
    simp only at hm
    subst hm
    obtain⟨β,vs,elem,h1,h2,h3,h4,h5⟩:=hk0
    have:=bG1 (S':=S) (fun _ x=>x) hu (l:=ts) (vs:=vs) ⟨h3,h4⟩
    exact⟨β,vs,elem,h1,h2,this.1,this.2,h5⟩
   |rows e' sz' n' rs'=>simp only at hm;subst hm;exact hk0
   |mp es=>simp only at hm;subst hm;exact hk0
   |rv y e' sz' n' rs'=>simp only at hm;subst hm;exact hk0
 ·obtain⟨b0,h0⟩:=back hl
  exact hk.own i b0 β h0 hβ
 ·obtain⟨b0,h0⟩:=back h1
  obtain⟨b0',h0'⟩:=back h2
  exact hk.au8 i i' b0 b0' β h0 h0'
mutual
def dm1 (b:Nat):T->Bool
 | .t _=>true
 | .el _=>true
 | .fz _ _=>true
 | .any=>true
 | .own i=>bx3 i b
 | .agg l=>dw9 b l
 | .S9 l=>dw9 b l
 | .clo _ l=>dw9 b l
 | .ptr _ _=>false
 | .pe _ _ _ _=>false
 | .vw _ _ _ _=>false
def dw9 (b:Nat):List T->Bool
 |[]=>true
 |x::l=>dm1 b x&&dw9 b l
end
mutual
theorem eU0 {w:World}{S:Nat->Prop}{E Ec:Nat->Value}{b:Nat}{sv:Value}(hE:Ec b=sv):∀{t:T}{x:Value},dm1 b t=true->RV w S E x (aS9 b (.t (.v sv)) t)->RV w S Ec x t
 | .t y,x,_,h=>by simp only[aS9]at h;exact h.mono (fun _ x=>x) (fun _ _=>rfl) (fun id hid=>by simp[names]at hid)
 | .el c,x,_,h=>by simp only[aS9]at h;exact h.mono (fun _ x=>x) (fun _ _=>rfl) (fun id hid=>by simp[names]at hid)
 | .fz n c,x,_,h=>by simp only[aS9]at h;exact h.mono (fun _ x=>x) (fun _ _=>rfl) (fun id hid=>by simp[names]at hid)
 | .any,x,_,_=>.any x
 | .own i,x,ho,h=>by
  simp only[dm1]at ho
  have ho:=bq5 ho
  subst ho
  simp only[aS9,bX7,fh5]at h
  have:=h.tv
  subst this
  exact .own i _ hE
 | .agg l,x,ho,h=>by
  simp only[dm1]at ho
  simp only[aS9]at h
  cases h with|agg vs _ hl hr=>have:=cV7 hE (l:=l) (vs:=vs) ho ⟨hl,hr⟩;exact .agg vs _ this.1 this.2
 | .S9 l,x,ho,h=>by
  simp only[dm1]at ho
  simp only[aS9]at h
  cases h with|S9 vs _ hl hr=>have:=cV7 hE (l:=l) (vs:=vs) ho ⟨hl,hr⟩;exact .S9 vs _ this.1 this.2
 | .clo f l,x,ho,h=>by
  simp only[dm1]at ho
  simp only[aS9]at h
  cases h with|clo _ vs _ hl hr=>have:=cV7 hE (l:=l) (vs:=vs) ho ⟨hl,hr⟩;exact .clo f vs _ this.1 this.2
 | .ptr _ _,x,ho,_=>by simp[dm1]at ho
 | .pe _ _ _ _,x,ho,_=>by simp[dm1]at ho
 | .vw _ _ _ _,x,ho,_=>by simp[dm1]at ho
theorem cV7 {w:World}{S:Nat->Prop}{E Ec:Nat->Value}{b:Nat}{sv:Value}(hE:Ec b=sv):∀{l:List T}{vs:List Value},dw9 b l=true->RVL w S E vs (aY8 b (.t (.v sv)) l)->RVL w S Ec vs l
 |[],vs,_,h=>⟨by simpa[aY8]using h.1,fun j _ h2=>by simp at h2⟩
 |x::l,vs,ho,h=>by
  simp only[dw9,au2]at ho
  cases vs with
  |nil=>have:=h.1;simp[aY8]at this
  |cons v vs=>
   have h1:=eU0 hE (t:=x) ho.1 (h.2 0 (by simp) (by simp[aY8]))
   have h2:=cV7 hE (l:=l) (vs:=vs) ho.2 ⟨by simpa[aY8]using h.1,fun j a b=>h.2 (j+1) (by simpa using a) (by simpa[aY8]using b)⟩
   refine⟨by simp[h2.1],fun j a b=>?_⟩
   cases j with
   |zero=>exact h1
   |succ j=>exact h2.2 j (by simpa using a) (by simpa using b)
end
theorem aj4.eW9 {n d c b0 r0 e e2 sz sz2 m m2:Nat}{aC9 targs:List T}{rt:T}{rs rs2:List (List Tree)}{sv:Value}{m₁:Option τ}{res:τ->T}{bI5:τ->List (Nat×H6)}{t:τ}(ht:m₁=some t)(hc:bh9 X.P n aC9 [(b0,.rows e sz m rs)] m₁ res bI5)
  (hg:gk all.toList kb W9 o.guard=some true) (ho:bD7 W9 o=some (n,targs)) (bh3:o.dst=some d) (hb:look ao8 c=some (.rv sv e sz m rs)) (aM8:ba2 c big=true)
  (dc7:bB6 targs (aY8 b0 (.t (.v sv)) aC9)=aY8 b0 (.t (.v sv)) aC9) (hon:dw9 b0 aC9=true) (dk3:aN6 [(r0,c)] (res t)=some rt) (hhp:bI5 t=[(r0,.rows e2 sz2 m2 rs2)]):aj4 X all o W9 ao8 rt (some (c,.rows e2 sz2 m2 rs2)):=by
 intro tm hp hm hh hf hd' a w ⟨S,E,hk⟩ K Q' hK
 have hop:∃q,o.op= .call q:=by
  unfold bD7 at ho
  split at ho<;>try(cases ho;done)
  rename_i hx
  exact⟨_,hx⟩
 obtain⟨hft,hfb⟩:=hf.2 c (by obtain⟨q,hq⟩:=hop;unfold cK0;rw[hq])
 have hcb:c<big:=ba1 aM8
 have hb':=hh _ _ hb
 obtain⟨hE0,bz7⟩:=hk.hp c _ hb'
 obtain⟨vs,bf7,hv⟩:=dq1 hk (ce2 hm ho) hc.1
 let Ec:Nat->Value:=fun i=>if i=b0 then sv else E i
 have hEc:Ec b0=sv:=by simp[Ec]
 have dv0:∀{i:Nat}{b:H6},look [(b0,H6.rows e sz m rs)] i=some b->i=b0/\b= .rows e sz m rs:=fun{i b} h=>by
  by_cases hi:b0=i
  ·subst hi;simp only[look,bX7,fh5,aj7]at h;exact⟨rfl,h.symm⟩
  ·simp[look,D6 hi]at h
 have hO:ci5 w S Ec [(b0,.rows e sz m rs)]:=by
  refine⟨fun i b hi=>?_,fun i b β hi hβ=>?_,fun i i' b b' β hi hi' _ _=>?_⟩
  ·obtain⟨rfl,rfl⟩:=dv0 hi
   rw[hEc,<-hE0];exact bz7
  ·obtain⟨rfl,rfl⟩:=dv0 hi
   rw[hEc,<-hE0]at hβ
   have:=hk.own c _ β hb' hβ
   exact⟨this.1,this.2.1⟩
  ·exact(dv0 hi).1.trans (dv0 hi').1.symm
 have hav:RVL w S Ec vs aC9:=by
  have h1:=bW9 (u:=aY8 b0 (.t (.v sv)) aC9) hv
  rw[dc7]at h1
  exact cV7 hEc hon h1
 have aL7:=hc.2 t ht w S Ec vs hk.aH4 hO hav
 rw[V9 hk (at8 hm (aG3 hg)),if_pos rfl]
 unfold Oper.wp
 rw[bf7,Oper.upon_enter]
 refine aL7.mono fun ex w' ⟨v,S',E',he,hv',aL8,h1,h2,hO',h3,h4⟩=>?_
 subst he
 have bK0:∀{β},aD9 [(b0,H6.rows e sz m rs)] Ec β->U5 sv=some β:=fun{β} ⟨i,b,hi,hβ⟩=>by
  obtain⟨rfl,rfl⟩:=dv0 hi
  rw[hEc]at hβ;exact hβ
 generalize hEr:E' r0=q
 have bO2:look (bI5 t) r0=some (.rows e2 sz2 m2 rs2):=by rw[hhp];simp[look]
 have svb:∀{β},U5 sv=some β->¬S β/\β<w.heap.size/\(X.w0.heap.size<=β\/X.L.bK0 β):=fun{β} hβ=>hk.own c _ β hb' (by rw[hE0];exact hβ)
 have other:∀{i:Nat}{b:H6}{β:Nat},look hp i=some b->i≠c->U5 (E i)=some β->U5 sv≠some β:=fun{i b β} hi hne hβ hs=>hne (hk.au8 i c b _ β hi hb' hβ (by rw[hE0];exact hs))
 have vb:∀{β},U5 q=some β->(U5 sv=some β\/w.heap.size<=β)/\¬S' β/\β<w'.heap.size:=fun{β} hβ=>by
  have hl:aD9 (bI5 t) E' β:=⟨r0,_,bO2,by rw[hEr];exact hβ⟩
  have:=hO'.own r0 _ β bO2 (by rw[hEr];exact hβ)
  exact⟨(h3 β hl).imp bK0 (fun x=>x),this.1,this.2⟩
 have hS:∀b,S b->w'.heap[b]? =w.heap[b]?:=fun b hb=>aL8.block b (hk.aH4 b hb) (fun hl=>(svb (bK0 hl)).1 hb)
 let E2:Nat->Value:=fun i=>if i=c then q else E i
 have hE2:∀i,i≠c->E2 i=E i:=fun i hi=>by simp[E2,hi]
 have hE2c:E2 c=q:=by simp[E2]
 have cne:∀{t:T},names c t=false->∀i,names i t=true->E2 i=E i:=fun{t} hn i hi=>hE2 i (fun e=>by subst e;rw[hn]at hi;cases hi)
 have hok:Ok X.w0 X.L X.nt ⟨tm,(c,.rows e2 sz2 m2 rs2)::by0 hp c⟩ (fun b=>S b\/S' b) E2 a w':=
  {keep:=hk.keep.trans aL8 (fun β hl=>by
    rcases(svb (bK0 hl)).2.2 with h|h
    ·exact .inr h
    ·exact .inl h)
   aH4:=fun b hb=>hb.elim (fun h=>dN6 (hk.aH4 b h) aL8.size) (h1 b)
   base:=fun b hb=>by
    rcases hb with hb|hb
    ·exact hk.base b hb
    ·rcases h2 b hb with hb|hb|hb
     ·exact hk.base b hb
     ·rcases(svb (bK0 hb)).2.2 with h|h
      ·exact .inr (.inr h)
      ·exact .inr (.inl h)
     ·exact .inr (.inr (eL2 hk.keep.size hb))
   size:=hk.size
   defers:=hk.defers
   tm:=fun k u hu=>(hk.tm k u hu).mono (fun _ x=>.inl x) hS (cne (bc7 hft k u hu))
   hp:=fun i b hi=>by
    by_cases hic:c=i
    ·subst hic
     simp only[look,bX7,fh5,aj7]at hi
     subst hi
     rw[hE2c,<-hEr]
     exact(hO'.blk r0 _ bO2).mono (fun _ x=>.inr x) (fun _ _=>rfl) (fun _ _=>rfl) (fun _ hid=>by simp[bj5]at hid)
    ·simp only at hi
     rw[J8 hic]at hi
     obtain⟨g1,g2⟩:=aa4 hi
     rw[hE2 i g1]
     exact(hk.hp i b g2).mono (fun _ x=>.inl x) hS (fun β hβ=>aL8.block β (hk.own i b β g2 hβ).2.1 (fun hl=>other g2 g1 hβ (bK0 hl))) (fun j hj=>hE2 j (fun e=>by
      subst e
      have:=(aA9 (co0 hfb) i b hi).2
      rw[this]at hj;cases hj))
   own:=fun i b β hi hβ=>by
    by_cases hic:c=i
    ·subst hic
     rw[hE2c]at hβ
     obtain⟨g1,g2,g3⟩:=vb hβ
     refine⟨fun hx=>hx.elim (fun hx=>?_) g2,g3,?_⟩
     ·rcases g1 with g1|g1
      ·exact(svb g1).1 hx
      ·exact absurd (hk.aH4 β hx) (fc9.2 g1)
     ·rcases g1 with g1|g1
      ·exact(svb g1).2.2
      ·exact .inl (eL2 hk.keep.size g1)
    ·simp only at hi
     rw[J8 hic]at hi
     obtain⟨g1,g2⟩:=aa4 hi
     rw[hE2 i g1]at hβ
     have:=hk.own i b β g2 hβ
     refine⟨fun hx=>hx.elim this.1 (fun hx=>?_),dN6 this.2.1 aL8.size,this.2.2⟩
     rcases h2 β hx with hx|hx|hx
     ·exact this.1 hx
     ·exact other g2 g1 hβ (bK0 hx)
     ·exact absurd this.2.1 (fc9.2 hx)
   au8:=fun i i' b b' β hi hi' hβ hβ'=>by
    have cz7:∀{i:Nat}{b:H6},look (by0 hp c) i=some b->U5 (E2 i)=some β->U5 q=some β->False:=fun{i b} hi hβ hβ'=>by
     obtain⟨g1,g2⟩:=aa4 hi
     rw[hE2 i g1]at hβ
     rcases(vb hβ').1 with g|g
     ·exact other g2 g1 hβ g
     ·exact absurd (hk.own i b β g2 hβ).2.1 (fc9.2 g)
    by_cases hic:c=i<;>by_cases hic':c=i'
    ·exact hic.symm.trans hic'
    ·subst hic
     simp only at hi'
     rw[J8 hic']at hi'
     rw[hE2c]at hβ
     exact(cz7 hi' hβ' hβ).elim
    ·subst hic'
     simp only at hi
     rw[J8 hic]at hi
     rw[hE2c]at hβ'
     exact(cz7 hi hβ hβ').elim
    ·simp only at hi hi'
     rw[J8 hic]at hi
     rw[J8 hic']at hi'
     obtain⟨g1,g2⟩:=aa4 hi
     obtain⟨g1',g2'⟩:=aa4 hi'
     rw[hE2 i g1]at hβ
     rw[hE2 i' g1']at hβ'
     exact hk.au8 i i' b b' β g2 g2' hβ hβ'
   pin:=fun i hi=>by rw[hE2 i (fun e=>by omega)];exact hk.pin i hi}
 have hrv:RV w' (fun b=>S b\/S' b) E2 v rt:=(cp1 (h:=[(r0,c)]) (E:=E') (E':=E2) (fun i j hij=>by
  by_cases hi:r0=i
  ·subst hi
   simp only[look,bX7,fh5,aj7]at hij
   subst hij
   rw[hE2c,<-hEr]
  ·simp[look,D6 hi]at hij) hv' dk3).mono (fun _ x=>.inr x) (fun _ _=>rfl) (fun _ _=>rfl)
 refine hK _ _ (Sim.bN0 (fun _ _ h=>h) (fun k x hkc=>?_) (Ok.pt (o:=o) hok hrv hd'))
 by_cases hki:c=k
 ·subst hki
  simpa[bg3,look]using hkc
 ·simp only[bg3]at hkc
  rw[J8 hki]at hkc|-
  rw[aV0 (Ne.symm hki)];exact hkc
theorem aj4.eW8 {n d c r1 e2 sz2 m2 : Nat} {aC9 targs ao0 : List T} {rt : T} {rs2 : List (List Tree)} {m₁ : Option τ} {res : τ -> T} {bI5 : τ -> List (Nat × H6)} {t : τ} (ht : m₁ = some t) (hc : bh9 X.P n aC9 [] m₁ res bI5)
    (hg : gk all.toList kb W9 o.guard = some true) (ho : bD7 W9 o = some (n, targs)) (bh3 : o.dst = some d) (hdn : ba2 d X.nt = true) (aM8 : ba2 c big = true)
    (ha : bU0 [] aC9 = some ao0) (hmr : bB6 targs ao0 = ao0) (dk3 : aN6 [(r1, c)] (res t) = some rt) (hhp : bI5 t = [(r1, .rows e2 sz2 m2 rs2)]) : aj4 X all o W9 ao8 rt (some (c, .rows e2 sz2 m2 rs2)) := by
  intro tm hp hm hh hf _ a w hk K Q' hK
  have hop : ∃ q, o.op = .call q := by
    unfold bD7 at ho
    split at ho <;> try (cases ho; done)
    rename_i hx
    exact ⟨_, hx⟩
  obtain ⟨hft, hfb⟩ := hf.2 c (by obtain ⟨q, hq⟩ := hop; unfold cK0; rw [hq])
  have hct : bh9 X.P n aC9 [] (some ()) (fun _ => res t) (fun _ => [(r1, .rows e2 sz2 m2 rs2)]) := ⟨hc.1, fun r _ => by
    have := hc.2 t ht
    rw [hhp] at this
    exact this⟩
  have key := C3.g (X := X) (all := all) (o := o) (rest := []) (ks := []) (k := fun _ => some ()) (Q := fun (_ : Unit) e' σ => e' = .normal /\ σ = ⟨(d, rt) :: tm, [(c, .rows e2 sz2 m2 rs2)] ++ ar3 [] (by0 hp c)⟩) (hp := by0 hp c) (tm := tm) (hp2 := ar3 [] (by0 hp c)) (d := d) [] [(r1, c)] (dJ3 := fun _ => rt) (rhp := fun _ => [(c, .rows e2 sz2 m2 rs2)]) (aP2 := []) (targs := targs) (ao0 := ao0) (n := n) hct (by
        unfold dq2
        rw [at8 hm (aG3 hg)]
        simp only [ce2 hm ho, ha, aS4, bh3, hdn, eY4]
        rw [show bp7 [] [(r1, c)] tm (by0 hp c) = true by simp [bp7, bb7, aM8, hft, co0 hfb]]
        simp only [fh5]) hmr rfl (fun _ => dk3) (fun _ => by simp [aS4, bT9, look]) (fun _ _ => C3.nil (F9.leaf ⟨rfl, rfl⟩))
  have h4 := key () rfl a w (hk.bN0 (fun _ _ h => h) (fun k b hkb => (aa4 hkb).2))
  have hp' : ∀ (e : Exit) a w, e ≠ .normal -> ¬ (X.post fun e σ => e = .normal /\ σ = ⟨(d, rt) :: tm, [(c, .rows e2 sz2 m2 rs2)] ++ ar3 [] (by0 hp c)⟩) e a w := fun e a w he ⟨σ, _, hx, _⟩ => he hx
  have hfin : ∀ a w, wpList X.P all (after X.P [] (X.post fun e σ => e = .normal /\ σ = ⟨(d, rt) :: tm, [(c, .rows e2 sz2 m2 rs2)] ++ ar3 [] (by0 hp c)⟩)) [] a w -> K a w := fun a w hq => by
    obtain ⟨σ, hs, _, rfl⟩ := hq
    refine hK a w (hs.bN0 (fun k u hk => by simpa [pt, bh3] using hk) (fun k b hkb => ?_))
    by_cases hkc : c = k
    · subst hkc
      simpa [bg3, look] using hkb
    · simp only [bg3] at hkb
      rw [J8 hkc] at hkb
      simp only [List.cons_append, List.nil_append]
      rw [J8 hkc, bI9 (by simp), aV0 (Ne.symm hkc)]
      exact hkb
  unfold wpList at h4
  split at h4
  · rename_i hw
    rw [if_pos hw]
    rcases h4 with h4 | ⟨_, h4⟩
    · exact Oper.dS4 hfin (fun c a w => hp' _ a w (by intro e; cases e)) (fun ⟨a, w, hx⟩ => hp' _ a w (by intro e; cases e) hx) h4
    · obtain ⟨a, w, hx⟩ := h4
      exact absurd hx (hp' _ a w (by intro e; cases e))
  · rename_i hw
    rw [if_neg hw]
    exact hfin _ _ h4
end
end Go.Pv
namespace Go.Pv
open Go.RowKit
def uni:List Nat->List Nat->List Nat
 |[],m=>m
 |x::l,m=>bif aD8 x m then uni l m else x::uni l m
def eh4 (acc:List (List Nat)):List Nat->List Nat
 |[]=>[]
 |d::r=>uni (d::(match acc[d]?with|some l=>l|none=>[])) (eh4 acc r)
def bm7:List Oper->List (List Nat)->List (List Nat)
 |[],acc=>acc
 |o::r,acc=>bm7 r (acc++[eh4 acc (aX9 o)])
theorem bf8 {k:Nat}:∀{l:List Nat},aD8 k l=true↔k∈l
 |[]=>by simp[aD8]
 |x::l=>by
  simp only[aD8,cr6]
  cases hb:bx3 x k
  ·simp only[fh3,bf8]
   exact⟨.inr,fun h=>h.resolve_left fun e=>by subst e;simp at hb⟩
  ·have:=bq5 hb
   simp[this]
theorem dk9 {k:Nat}:∀{l m:List Nat},k∈uni l m->k∈l\/k∈m
 |[],m,h=>.inr h
 |x::l,m,h=>by
  unfold uni at h
  cases hb:aD8 x m<;>rw[hb]at h<;>simp only[fh5,fh3]at h
  ·rcases cr6.1 h with rfl|h
   ·exact .inl (bL5 ..)
   ·exact(dk9 h).imp (bO9 _) id
  ·exact(dk9 h).imp (bO9 _) id
theorem dv4 {acc:List (List Nat)}{k:Nat}:∀{ds:List Nat},k∈eh4 acc ds->∃d∈ds,k=d\/∃l,acc[d]? =some l/\k∈l
 |[],h=>by simp[eh4]at h
 |d::r,h=>by
  rcases dk9 h with h|h
  ·rcases cr6.1 h with rfl|h
   ·exact⟨k,bL5 ..,.inl rfl⟩
   ·split at h
    ·rename_i l hl;exact⟨d,bL5 ..,.inr ⟨l,hl,h⟩⟩
    ·cases h
  ·obtain⟨d',h1,h2⟩:=dv4 h
   exact⟨d',bO9 _ h1,h2⟩
theorem cH5 {all:List Oper}{D:Nat->Prop}(hcl:∀(j:Nat) (o:Oper),all[j]? =some o->D j->∀k∈aX9 o,D k):∀(ops:List Oper) (acc:List (List Nat)),all.drop acc.length=ops->(∀(j:Nat) (l:List Nat) (o:Oper),acc[j]? =some l->all[j]? =some o->(∀k∈aX9 o,D k)->∀i∈l,D i)->
  ∀(j:Nat) (l:List Nat) (o:Oper),(bm7 ops acc)[j]? =some l->all[j]? =some o->(∀k∈aX9 o,D k)->∀i∈l,D i
 |[],acc,_,h=>h
 |o::r,acc,hd,h=>by
  refine cH5 hcl r (acc++[eh4 acc (aX9 o)]) (by rw[aX7,<-ep0,hd];rfl) fun j l o' hj ho' hk i hi=>?_
  rw[List.getElem?_append]at hj
  split at hj
  ·exact h j l o' hj ho' hk i hi
  ·rename_i hlt
   have hj0:j-acc.length=0:=by
    rcases dS1 (j-acc.length)with h0|h0
    ·exact h0
    ·rw[ed6 (Nat.succ_le_of_lt h0)]at hj;cases hj
   rw[hj0]at hj
   simp only[cZ9,aj7]at hj
   subst hj
   have hjl:j=acc.length:=by omega
   have ho:all[j]? =some o:=by rw[hjl,<-ey0,hd];rfl
   rw[ho]at ho'
   cases ho'
   obtain⟨d,hd',hx⟩:=dv4 hi
   rcases hx with rfl|⟨l',hl',hi'⟩
   ·exact hk i hd'
   ·have hdlt:d<all.length:=by
     have h1:=(bD8.1 hl').1
     have h2:=(bD8.1 ho).1
     omega
    have hod:all[d]? =some all[d]:=aJ9 hdlt
    exact h d l' all[d] hl' hod (hcl d _ hod (hk d hd')) i hi'
def bP0:Nat->List Nat->Bool
 |0,_=>true
 |n+1,l=>aD8 n l&&bP0 n l
theorem ci9:∀{n:Nat}{l:List Nat},bP0 n l=true->∀i,i<n->i∈l
 |0,_,_,i,hi=>by omega
 |n+1,l,h,i,hi=>by
  simp only[bP0,au2]at h
  rcases dh0 i n with c|c
  ·exact ci9 h.2 i c
  ·have:i=n:=by omega
   subst this;exact bf8.1 h.1
def cV4 (h:Nat):Nat->List Oper->List (List Nat)->Bool
 |_,[],_=>true
 |j,o::r,b::bs=>(aX9 o).all (fun k=>ba2 k j)&&(ba2 j h||bP0 j b)&&cV4 h (j+1) r bs
 |_,_,[]=>false
theorem aV3 {h:Nat}:∀{ops:List Oper}{bs:List (List Nat)}{j:Nat},cV4 h j ops bs=true->∀(i:Nat) (o:Oper),ops[i]? =some o->∃b,bs[i]? =some b/\(∀k∈aX9 o,k<j+i)/\(h<=j+i->∀x,x<j+i->x∈b)
 |[],_,_,_,i,o,ho=>by simp at ho
 |p::r,[],j,ht,i,o,ho=>by simp[cV4]at ht
 |p::r,b::bs,j,ht,i,o,ho=>by
  simp only[cV4,au2,by6,cx1]at ht
  cases i with
  |zero=>
   simp only[cZ9,aj7]at ho
   subst ho
   refine⟨b,rfl,fun k hk=>ba1 (ht.1.1 k hk),fun hj x hx=>?_⟩
   rcases ht.1.2 with h1|h1
   ·have:=ba1 h1;omega
   ·exact ci9 h1 x hx
  |succ i=>
   obtain⟨b',h1,h2,h3⟩:=aV3 ht.2 i o (by simpa using ho)
   exact⟨b',by simpa using h1,fun k hk=>by have:=h2 k hk;omega,fun hj x hx=>h3 (by omega) x (by omega)⟩
def bf6 (nt:Nat)(tm0:List (Nat×T))(hp0:List (Nat×H6)):List Oper->Bool
 |[]=>true
 |o::r=>(match o.dst with|some d=>(look tm0 d).isNone&&ba2 d nt&&r.all (fun o'=>match o'.dst with|some d'=>!Nat.beq d d'|none=>true)|none=>true)&&
   (match aR9 o.op,o.dst with|true,some d=>O6 d tm0&&O0 d hp0|_,_=>true)&&bf6 nt tm0 hp0 r
theorem dt6 {nt:Nat}{tm0:List (Nat×T)}{hp0:List (Nat×H6)}:∀{l:List Oper},bf6 nt tm0 hp0 l=true->cv7 nt tm0 l=true/\∀(i:Nat) (o:Oper) (d:Nat),l[i]? =some o->aR9 o.op=true->o.dst=some d->(O6 d tm0&&O0 d hp0)=true
 |[],_=>⟨rfl,fun i o d h=>by simp at h⟩
 |o::r,h=>by
  simp only[bf6,au2]at h
  obtain⟨h1,h2⟩:=dt6 h.2
  refine⟨by simp only[cv7,au2];exact⟨h.1.1,h1⟩,fun i o' d hi hn hd=>?_⟩
  cases i with
  |zero=>
   simp only[cZ9,aj7]at hi
   subst hi
   have:=h.1.2
   rw[hn,hd]at this
   exact this
  |succ i=>exact h2 i o' d (by simpa using hi) hn hd
def cs4 (d:Nat):Option (Nat×H6)->Bool
 |some (i,b)=>bx3 i d||bj5 d b
 |none=>false
def cC0 (d j:Nat):List (T×Option (Nat×H6))->List (List Nat)->Nat->Bool
 |[],_,_=>true
 |(V,N)::r,b::bs,i=>(bx3 i j||(!names d V&& !cs4 d N)||aD8 j b)&&cC0 d j r bs (i+1)
 |_::_,[],_=>false
def cn9 (vs:List (T×Option (Nat×H6)))(bs:List (List Nat)):Nat->List Oper->Bool
 |_,[]=>true
 |j,o::r=>(match aR9 o.op,o.dst with|true,some d=>cC0 d j vs bs 0|_,_=>true)&&cn9 vs bs (j+1) r
theorem bX2 {d j:Nat}:∀{vs:List (T×Option (Nat×H6))}{bs:List (List Nat)}{i0:Nat},cC0 d j vs bs i0=true->∀(i:Nat) (V:T) (N:Option (Nat×H6)),vs[i]? =some (V,N)->i0+i≠j->(names d V=false/\cs4 d N=false)\/∃b,bs[i]? =some b/\j∈b
 |[],_,_,_,i,V,N,hi,_=>by simp at hi
 |(V',N')::r,[],_,h,_,_,_,_,_=>by simp[cC0]at h
 |(V',N')::r,b::bs,i0,h,i,V,N,hi,hne=>by
  simp only[cC0,au2,cx1,bZ6]at h
  cases i with
  |zero=>
   simp only[cZ9,aj7,aX2]at hi
   obtain⟨rfl,rfl⟩:=hi
   rcases h.1 with(h1|h1)|h1
   ·exact absurd (bq5 h1) (by simpa using hne)
   ·exact .inl h1
   ·exact .inr ⟨b,rfl,bf8.1 h1⟩
  |succ i=>
   have:=bX2 h.2 i V N (by simpa using hi) (by omega)
   simpa using this
theorem bT0 {vs:List (T×Option (Nat×H6))}{bs:List (List Nat)}:∀{ops:List Oper}{j0:Nat},cn9 vs bs j0 ops=true->∀(j:Nat) (o:Oper) (d:Nat),ops[j]? =some o->aR9 o.op=true->o.dst=some d->cC0 d (j0+j) vs bs 0=true
 |[],_,_,j,o,d,hj,_,_=>by simp at hj
 |p::r,j0,h,j,o,d,hj,hn,hd=>by
  simp only[cn9,au2]at h
  cases j with
  |zero=>
   simp only[cZ9,aj7]at hj
   subst hj
   have:=h.1
   rw[hn,hd]at this
   exact this
  |succ j=>
   have:=bT0 h.2 j o d (by simpa using hj) hn hd
   rw[show j0+(j+1)=j0+1+j by omega];exact this
def eg4 (tm0:List (Nat×T))(hp0:List (Nat×H6))(vs:List (T×Option (Nat×H6)))(bs:List (List Nat)):Nat->List Oper->Bool
 |_,[]=>true
 |j,o::r=>(match cK0 o (match vs[j]?with|some (_,N)=>N|none=>none)with|some id=>O6 id tm0&&(nfB id hp0&&cC0 id j vs bs 0)|none=>true)&&eg4 tm0 hp0 vs bs (j+1) r
theorem cK1 {tm0:List (Nat×T)}{hp0:List (Nat×H6)}{vs:List (T×Option (Nat×H6))}{bs:List (List Nat)}:∀{ops:List Oper}{j0:Nat},eg4 tm0 hp0 vs bs j0 ops=true->∀(j:Nat) (o:Oper) (V:T) (N:Option (Nat×H6)) (id:Nat),ops[j]? =some o->vs[j0+j]? =some (V,N)->cK0 o N=some id->O6 id tm0=true/\nfB id hp0=true/\cC0 id (j0+j) vs bs 0=true
 |[],_,_,j,o,V,N,id,hj,_,_=>by simp at hj
 |p::r,j0,h,j,o,V,N,id,hj,hv,hi=>by
  simp only[eg4,au2]at h
  cases j with
  |zero=>
   simp only[cZ9,aj7]at hj
   subst hj
   rw[eb5]at hv|-
   have:=h.1
   rw[hv]at this
   simp only[hi,au2]at this
   exact this
  |succ j=>
   have:=cK1 h.2 j o V N id (by simpa using hj) (by rw[show j0+1+j=j0+(j+1) by omega];exact hv) hi
   rw[show j0+(j+1)=j0+1+j by omega];exact this
def bC4 (D:Nat->Bool):Nat->List (T×Option (Nat×H6))->List (Nat×H6)->List (Nat×H6)
 |_,[],hp=>hp
 |i,(_,N)::r,hp=>bC4 D (i+1) r (bif D i then bg3 N hp else hp)
def vis (bs:List (List Nat))(ws:List (Nat×Nat))(i:Nat)(b:List Nat)(id:Nat):Bool:=
 ws.all fun p=>!Nat.beq p.2 id||(bx3 p.1 i||(aD8 p.1 b||(match bs[p.1]?with|some bj=>aD8 i bj|none=>false)))
def dW7 (bs:List (List Nat))(ws:List (Nat×Nat))(i:Nat)(b:List Nat):List (Nat×H6)->List (Nat×H6)
 |[]=>[]
 |(k,c)::r=>bif vis bs ws i b k then(k,c)::dW7 bs ws i b r else dW7 bs ws i b r
def dY6 (bs:List (List Nat))(ws:List (Nat×Nat))(vs:List (T×Option (Nat×H6)))(hp0:List (Nat×H6))(i:Nat)(b:List Nat):List (Nat×H6):=
 dW7 bs ws i b (bC4 (fun j=>aD8 j b) 0 vs hp0)
def el8 (vs:List (T×Option (Nat×H6)))(hp0:List (Nat×H6)):List (Nat×H6):=bC4 (fun _=>true) 0 vs hp0
def inW (i id:Nat):List (Nat×Nat)->Bool
 |[]=>false
 |p::r=>(bx3 p.1 i&&bx3 p.2 id)||inW i id r
def cD2 (ws:List (Nat×Nat)):Nat->List (T×Option (Nat×H6))->Bool
 |_,[]=>true
 |i,(_,some (id,_))::r=>inW i id ws&&cD2 ws (i+1) r
 |i,(_,none)::r=>cD2 ws (i+1) r
def cS1 (bs:List (List Nat)):List (Nat×Nat)->Bool
 |[]=>true
 |p::r=>r.all (fun q=>!Nat.beq p.2 q.2||(bx3 p.1 q.1||((ba2 p.1 q.1&&(match bs[q.1]?with|some b=>aD8 p.1 b|none=>false))||(ba2 q.1 p.1&&(match bs[p.1]?with|some b=>aD8 q.1 b|none=>false)))))&&cS1 bs r
theorem cn2 {bs:List (List Nat)}{ws:List (Nat×Nat)}{i:Nat}{b:List Nat}:∀{hp:List (Nat×H6)}{k:Nat}{c:H6},look (dW7 bs ws i b hp) k=some c->vis bs ws i b k=true/\look hp k=some c
 |[],k,c,h=>by simp[dW7,look]at h
 |(j,x)::r,k,c,h=>by
  unfold dW7 at h
  by_cases hj:j=k
  ·subst hj
   cases hv:vis bs ws i b j<;>rw[hv]at h<;>simp only[fh5,fh3]at h
   ·have:=cn2 h
    rw[hv]at this;cases this.1
   ·exact⟨rfl,by simpa[look]using h⟩
  ·rw[J8 hj]
   cases hv:vis bs ws i b j<;>rw[hv]at h<;>simp only[fh5,fh3]at h
   ·exact cn2 h
   ·rw[J8 hj]at h;exact cn2 h
theorem bt0 {N:Option (Nat×H6)}{hp:List (Nat×H6)}{k:Nat}(h:∀b,N≠some (k,b)):look (bg3 N hp) k=look hp k:=by
 cases N with
 |none=>rfl
 |some p=>
  obtain⟨i,b⟩:=p
  have:i≠k:=fun e=>h b (by rw[e])
  exact J8 this
theorem bG9 {D D':Nat->Bool}{id:Nat}:∀{vs:List (T×Option (Nat×H6))}{k:Nat}{hp hp':List (Nat×H6)},look hp id=look hp' id->(∀j V b,vs[j]? =some (V,some (id,b))->D (k+j)=D' (k+j))->look (bC4 D k vs hp) id=look (bC4 D' k vs hp') id
 |[],_,_,_,h,_=>h
 |(V,N)::r,k,hp,hp',h,hd=>by
  unfold bC4
  refine bG9 ?_ (fun j V' b hj=>by have:=hd (j+1) V' b (by simpa using hj);rwa[dM6,eI6 1 j])
  by_cases hN:∃b,N=some (id,b)
  ·obtain⟨b,rfl⟩:=hN
   have:=hd 0 V b rfl
   rw[eb5]at this
   rw[<-this]
   cases D k
   ·exact h
   ·simp[bg3,look]
  ·have hn:∀b,N≠some (id,b):=fun b e=>hN ⟨b,e⟩
   cases D k<;>cases D' k<;>simp only[fh5,fh3]
   ·exact h
   ·rw[bt0 hn];exact h
   ·rw[bt0 hn];exact h
   ·rw[bt0 hn,bt0 hn];exact h
theorem cs0 {D:Nat->Bool}{id:Nat}:∀{vs:List (T×Option (Nat×H6))}{k:Nat}{hp:List (Nat×H6)},(∀j V b,vs[j]? =some (V,some (id,b))->D (k+j)=false)->look (bC4 D k vs hp) id=look hp id
 |[],_,_,_=>rfl
 |(V,N)::r,k,hp,hd=>by
  unfold bC4
  rw[cs0 (fun j V' b hj=>by have:=hd (j+1) V' b (by simpa using hj);rwa[dM6,eI6 1 j])]
  cases hk:D k
  ·rfl
  ·exact bt0 fun b e=>by have:=hd 0 V b (by rw[e];rfl);rw[eb5,hk]at this;cases this
theorem cZ5 {D:Nat->Bool}{id:Nat}{V:T}{b:H6}:∀{vs:List (T×Option (Nat×H6))}{i k:Nat}{hp:List (Nat×H6)},vs[i]? =some (V,some (id,b))->D (k+i)=true->(∀j V b,i<j->vs[j]? =some (V,some (id,b))->D (k+j)=false)->look (bC4 D k vs hp) id=some b
 |[],i,_,_,h,_,_=>by simp at h
 |(V',N)::r,0,k,hp,h,hD,hl=>by
  simp only[cZ9,aj7,aX2]at h
  obtain⟨rfl,rfl⟩:=h
  rw[eb5]at hD
  unfold bC4
  rw[hD]
  rw[cs0 (fun j V2 b2 hj=>by have:=hl (j+1) V2 b2 (by omega) (by simpa using hj);rwa[dM6,eI6 1 j])]
  simp[bg3,look]
 |(V',N)::r,i+1,k,hp,h,hD,hl=>by
  unfold bC4
  exact cZ5 (by simpa using h) (by rwa[dM6,eI6 1 i]) (fun j V2 b2 hij hj=>by have:=hl (j+1) V2 b2 (by omega) (by simpa using hj);rwa[dM6,eI6 1 j])
theorem dT0 {D:Nat->Bool}{i:Nat}:∀{vs:List (T×Option (Nat×H6))}{k:Nat}{hp:List (Nat×H6)},(∀j,i<=j->D (k+j)=false)->bC4 D k (vs.take i) hp=bC4 D k vs hp:=by
 induction i with
 |zero=>
  intro vs
  induction vs with
  |nil=>intro k hp h;rfl
  |cons x r ih=>
   intro k hp h
   obtain⟨V,N⟩:=x
   have h0:=h 0 (cB6 _)
   rw[eb5]at h0
   have:=ih (k:=k+1) (hp:=hp) (fun j _=>by have:=h (j+1) (by omega);rwa[dM6,eI6 1 j])
   simp only[List.take_zero]at this|-
   rw[bC4,bC4,h0]
   simpa[bC4]using this
 |succ i ih=>
  intro vs k hp h
  cases vs with
  |nil=>rfl
  |cons x r=>
   obtain⟨V,N⟩:=x
   simp only[List.take_succ_cons,bC4]
   exact ih (fun j hj=>by have:=h (j+1) (by omega);rwa[dM6,eI6 1 j])
theorem dO8 {i id:Nat}:∀{ws:List (Nat×Nat)},inW i id ws=true->(i,id)∈ws
 |[],h=>by cases h
 |p::r,h=>by
  simp only[inW,cx1,au2]at h
  rcases h with⟨h1,h2⟩|h
  ·have:=bq5 h1
   have:=bq5 h2
   obtain⟨a,b⟩:=p
   simp_all
  ·exact bO9 _ (dO8 h)
theorem bY0 {ws:List (Nat×Nat)}:∀{vs:List (T×Option (Nat×H6))}{k:Nat},cD2 ws k vs=true->∀i V id b,vs[i]? =some (V,some (id,b))->(k+i,id)∈ws
 |[],_,_,i,V,id,b,h=>by simp at h
 |(V',N)::r,k,hu,i,V,id,b,h=>by
  have hr:cD2 ws (k+1) r=true/\∀p,N=some p->inW k p.1 ws=true:=by
   cases N with
   |none=>exact⟨by simpa[cD2]using hu,fun p hp=>by cases hp⟩
   |some p=>
    obtain⟨a,c⟩:=p
    simp only[cD2,au2]at hu
    exact⟨hu.2,fun p hp=>by cases hp;exact hu.1⟩
  cases i with
  |zero=>
   simp only[cZ9,aj7,aX2]at h
   obtain⟨rfl,rfl⟩:=h
   exact dO8 (hr.2 _ rfl)
  |succ i=>
   have:=bY0 hr.1 i V id b (by simpa using h)
   rwa[dM6,eI6 1 i]at this
theorem cS2 {bs:List (List Nat)}:∀{ws:List (Nat×Nat)},cS1 bs ws=true->∀i j id,(i,id)∈ws->(j,id)∈ws->i<j->∃b,bs[j]? =some b/\i∈b
 |[],_,i,j,id,h,_,_=>by cases h
 |p::r,hp,i,j,id,hi,hj,hij=>by
  simp only[cS1,au2,by6]at hp
  have key:∀q∈r,p.2=q.2->p.1≠q.1->(p.1<q.1/\∃b,bs[q.1]? =some b/\p.1∈b)\/(q.1<p.1/\∃b,bs[p.1]? =some b/\q.1∈b):=by
   intro q hq he hne
   have:=hp.1 q hq
   simp only[cx1,bZ6,au2]at this
   rcases this with h1|h1|h1|h1
   ·rw[he]at h1;simp at h1
   ·exact absurd (bq5 h1) hne
   ·refine .inl ⟨ba1 h1.1,?_⟩
    have h2:=h1.2
    split at h2
    ·rename_i b hb;exact⟨b,hb,bf8.1 h2⟩
    ·cases h2
   ·refine .inr ⟨ba1 h1.1,?_⟩
    have h2:=h1.2
    split at h2
    ·rename_i b hb;exact⟨b,hb,bf8.1 h2⟩
    ·cases h2
  rcases cr6.1 hi with e1|hi'
  ·rcases cr6.1 hj with e2|hj'
   ·rw[<-e1]at e2;cases e2;omega
   ·rcases key _ hj' (by rw[<-e1]) (by rw[<-e1];simp;omega)with h|h
    ·rw[<-e1]at h;exact h.2
    ·have:=h.1;rw[<-e1]at this;simp at this;omega
  ·rcases cr6.1 hj with e2|hj'
   ·rcases key _ hi' (by rw[<-e2]) (by rw[<-e2];simp;omega)with h|h
    ·have:=h.1;rw[<-e2]at this;simp at this;omega
    ·rw[<-e2]at h;exact h.2
   ·exact cS2 hp.2 i j id hi' hj' hij
def cr9 (X:Cx)(all:Array Oper)(bs:List (List Nat))(ws:List (Nat×Nat))(tm0:List (Nat×T))(hp0:List (Nat×H6))(vs:List (T×Option (Nat×H6))):Prop:=
 ∀i V N o b,vs[i]? =some (V,N)->all.toList[i]? =some o->bs[i]? =some b->aj4 X all o (minOf all.toList ((vs.take i).map (·.1)) tm0 (aX9 o)) (dY6 bs ws (vs.take i) hp0 i b) V N
theorem bB2 {A8:Array Bool}{i n:Nat}(hs:A8.size=n)(hi:i<n):(A8.setIfInBounds i true).getD i false=true:=by
 subst hs;simp[hi]
section
variable {X:Cx} {all:Array Oper} {tm0:List (Nat × T)} {hp0:List (Nat × H6)} {vs:List (T × Option (Nat × H6))} {ws:List (Nat × Nat)}
theorem dA8 {P:Program}{Q:Exit->Act->World->Prop}{h:Nat}(ht:cV4 h 0 all.toList (bm7 all.toList [])=true):∀(fuel m:Nat) (A8:Array Bool) (a:Act) (w:World),h<=m->m+fuel=all.size->A8.size=all.size->
  (∀j,j<all.size->A8.getD j false=decide (j<m))->wpList P all Q (all.toList.drop m) a w->wpAny P .any all Q fuel A8 a w:=by
 intro fuel
 induction fuel with
 |zero=>
  intro m A8 a w hm hf hs hl hw
  have cQ2:all.toList.drop m=[]:=List.drop_eq_nil_of_le (by simp;omega)
  rw[cQ2]at hw
  refine⟨?_,hw⟩
  apply List.eq_nil_iff_forall_not_mem.2
  intro j hj
  obtain⟨h1,o,ho,_⟩:=mem_ready.1 hj
  have hjn:j<all.size:=(dC3.1 ho).1
  have:=hl j hjn
  have h2:A8.getD j true=A8.getD j false:=by simp[hs,hjn]
  rw[h2,this]at h1
  simp at h1
  omega
 |succ fuel ih=>
  intro m A8 a w hm hf hs hl hw
  have hmn:m<all.size:=by omega
  have hmo:all[m]? =some all[m]:=Array.getElem?_eq_getElem hmn
  have hcl:∀(j:Nat) (o:Oper),all.toList[j]? =some o->A8.getD j false=true->∀k∈aX9 o,A8.getD k false=true:=by
   intro j o ho hj k hk
   have hjn:j<all.size:=by have:=(bD8.1 ho).1;simpa using this
   obtain⟨_,_,h2,_⟩:=aV3 ht j o ho
   have hkj:=h2 k hk
   rw[hl j hjn]at hj
   rw[hl k (by omega)]
   simp at hj|-;omega
  have only:∀j∈Region.ready .any all A8,j=m:=by
   intro j hj
   obtain⟨h1,o,ho,hd⟩:=mem_ready.1 hj
   have hjn:j<all.size:=(dC3.1 ho).1
   have h2:A8.getD j true=A8.getD j false:=by simp[hs,hjn]
   rw[h2,hl j hjn]at h1
   simp at h1
   rcases dh0 m j with hlt|hge
   ·exfalso
    have ho':all.toList[j]? =some o:=by simpa using ho
    obtain⟨b,hb,_,h3⟩:=aV3 ht j o ho'
    have:=cH5 (D:=fun k=>A8.getD k false=true) hcl all.toList [] (by simp) (fun j l o hj=>by simp at hj) j b o hb ho' (bI7 hd) m (h3 (by omega) m (by omega))
    rw[hl m hmn]at this
    simp at this
   ·omega
  have hin:m∈Region.ready .any all A8:=by
   have h2:A8.getD m true=false:=by
    have h2:A8.getD m true=A8.getD m false:=by simp[hs,hmn]
    rw[h2,hl m hmn];simp
   refine mem_ready.2 ⟨h2,all[m],hmo,fun e he hb=>?_⟩
   have hk:e.on∈aX9 all[m]:=by
    simp only[aX9,cZ1,dO7]
    exact⟨e,⟨by simpa using he,hb⟩,rfl⟩
   obtain⟨_,_,h3,_⟩:=aV3 ht m all[m] (by simp)
   have hlt:=h3 e.on hk
   rw[hl e.on (by omega)]
   simp;omega
  refine⟨fun h0=>(by rw[h0]at hin;cases hin),fun i hi=>?_⟩
  have:=only i hi
  subst this
  have hdrop:all.toList.drop i=all[i]::all.toList.drop (i+1):=by
   rw[List.drop_eq_getElem_cons (by simpa using hmn)];simp
  rw[hdrop]at hw
  unfold wpList at hw
  unfold wpOp
  simp only[hmo]
  have next:∀a w,wpList P all Q (all.toList.drop (i+1)) a w->wpAny P .any all Q fuel (A8.setIfInBounds i true) a w:=fun a w hw=>
   ih (i+1) _ a w (by omega) (by omega) (by simp[hs]) (fun j hj=>by
    by_cases c:i=j
    ·subst c;simp[hs,hmn]
    ·rw[getD_set_ne false c,hl j hj];simp;omega) hw
  split at hw
  ·rename_i hg
   rw[if_pos hg]
   exact hw.imp (Oper.wp_mono next) id
  ·rename_i hg
   rw[if_neg hg]
   exact next _ _ hw
theorem cA8 {d:Nat}{hp:List (Nat×H6)}{N:Option (Nat×H6)}(h:O0 d hp=true)(hn:cs4 d N=false):O0 d (bg3 N hp)=true:=by
 cases N with
 |none=>exact h
 |some p=>
  obtain⟨i,b⟩:=p
  simp only[cs4,bG8]at hn
  simp[bg3,O0,hn.1,hn.2,h]
theorem ep4 {d:Nat}{hp:List (Nat×H6)}{N:Option (Nat×H6)}(h:nfB d hp=true)(hn:cs4 d N=false):nfB d (bg3 N hp)=true:=by
 cases N with
 |none=>exact h
 |some p=>
  obtain⟨i,b⟩:=p
  simp only[cs4,bG8]at hn
  simp[bg3,nfB,hn.2,h]
theorem em8 {Q:Exit->Act->World->Prop}{h:Nat}(hv:vs.length=h)(hle:h<=all.size)(ht:cV4 h 0 all.toList (bm7 all.toList [])=true)(hh:cv7 X.nt tm0 (all.toList.take h)=true)
  (hnm:cn9 vs (bm7 all.toList []) 0 (all.toList.take h)=true) (hus:cD2 ws 0 vs=true) (hps:cS1 (bm7 all.toList []) ws=true) (has:eg4 tm0 hp0 vs (bm7 all.toList []) 0 (all.toList.take h)=true) (steps:cr9 X all (bm7 all.toList []) ws tm0 hp0 vs)
  (rest:∀a w,Sim X.w0 X.L X.nt ⟨cf1 all.toList (vs.map (·.1)) tm0,el8 vs hp0⟩ a w->wpList X.P all Q (all.toList.drop h) a w):
  ∀(fuel:Nat) (A8:Array Bool) (tm:List (Nat×T)) (hp:List (Nat×H6)) (a:Act) (w:World),Sim X.w0 X.L X.nt ⟨tm,hp⟩ a w->more tm0 tm->aY4 (bC4 (fun j=>A8.getD j false) 0 vs hp0) hp->A8.size=all.size->unl all.size A8=fuel->
   (∀j,h<=j->j<all.size->A8.getD j false=false)->(∀(j:Nat) (o:Oper),all.toList[j]? =some o->A8.getD j false=true->∀k∈aX9 o,A8.getD k false=true)->
   (∀(i:Nat) (o:Oper) (V:T) (N:Option (Nat×H6)) (d:Nat),A8.getD i false=true->all.toList[i]? =some o->vs[i]? =some (V,N)->o.dst=some d->look tm d=some V)->
   (∀(i:Nat) (o:Oper) (d:Nat),i<h->A8.getD i false=false->all.toList[i]? =some o->aR9 o.op=true->o.dst=some d->O6 d tm=true/\O0 d hp=true)->
   (∀(i:Nat) (o:Oper) (V:T) (N:Option (Nat×H6)) (id:Nat),i<h->A8.getD i false=false->all.toList[i]? =some o->vs[i]? =some (V,N)->cK0 o N=some id->O6 id tm=true/\nfB id hp=true)->wpAny X.P .any all Q fuel A8 a w:=by
 have bget:∀(j:Nat) (o:Oper),all.toList[j]? =some o->∃b,(bm7 all.toList [])[j]? =some b:=fun j o ho=>by
  obtain⟨b,hb,_⟩:=aV3 ht j o ho
  exact⟨b,hb⟩
 have fin:∀(A8:Array Bool) (tm:List (Nat×T)) (hp:List (Nat×H6)) (a:Act) (w:World),Sim X.w0 X.L X.nt ⟨tm,hp⟩ a w->more tm0 tm->aY4 (bC4 (fun j=>A8.getD j false) 0 vs hp0) hp->(∀j,j<h->A8.getD j false=true)->
   (∀(i:Nat) (o:Oper) (V:T) (N:Option (Nat×H6)) (d:Nat),A8.getD i false=true->all.toList[i]? =some o->vs[i]? =some (V,N)->o.dst=some d->look tm d=some V)->
   wpList X.P all Q (all.toList.drop h) a w:=fun A8 tm hp a w hk hm hmh cm5 hsl=>
  rest a w (hk.bN0 (cA9 hm _ _ fun j o V d ho hV hd=>by
    rw[cM9]at hV
    cases hvj:vs[j]?with
    |none=>rw[hvj]at hV;cases hV
    |some p=>
     rw[hvj]at hV
     simp only[cb0,aj7]at hV
     subst hV
     exact hsl j o p.1 p.2 d (cm5 j (by have:=(bD8.1 hvj).1;omega)) ho hvj hd)
   (fun k c hk=>hmh k c (by
    rw[<-hk]
    refine bG9 rfl fun j V b hj=>?_
    rw[cY7]
    exact cm5 j (by have:=(bD8.1 hj).1;omega))))
 intro fuel
 induction fuel with
 |zero=>
  intro A8 tm hp a w hk hm hmh hs hu htl hcl hsl _ _
  have cm5:=ew6 hu
  have hh0:h=all.size:=by
   rcases dh0 h all.size with h1|h1
   ·have:=htl h (cB6 _) h1;rw[cm5 h h1]at this;cases this
   ·omega
  exact dA8 ht 0 h A8 a w (cB6 _) (by omega) hs (fun j hj=>by rw[cm5 j hj];simp;omega) (fin A8 tm hp a w hk hm hmh (fun j hj=>cm5 j (by omega)) hsl)
 |succ fuel ih=>
  intro A8 tm hp a w hk hm hmh hs hu htl hcl hsl hfr hap
  by_cases hdone:∀j,j<h->A8.getD j false=true
  ·have hl:∀j,j<all.size->A8.getD j false=decide (j<h):=fun j hj=>by
    by_cases c:j<h
    ·rw[hdone j c];simp[c]
    ·rw[htl j (by omega) hj];simp[c]
   have hcount:h+(fuel+1)=all.size:=by
    have key:∀m,m<=all.size->((dy2 m).filter fun j=>!A8.getD j false).length=m-h:=by
     intro m
     induction m with
     |zero=>intro _;simp
     |succ m ihm=>
      intro hm'
      rw[List.range_succ,List.filter_append,aX7,ihm (by omega)]
      have:=hl m (by omega)
      by_cases c:m<h
      ·simp only[ew7,this,c,decide_true,aK4,Bool.false_eq_true,if_false,eK3,cY9];omega
      ·simp only[ew7,this,c,decide_false,Bool.not_false,if_true,eK3,List.length_cons,cY9];omega
    have:=key all.size (cB6 _)
    unfold unl at hu
    omega
   exact dA8 ht (fuel+1) h A8 a w (cB6 _) hcount hs hl (fin A8 tm hp a w hk hm hmh hdone hsl)
  ·have hex:∃j,j<h/\A8.getD j false=false:=by
    refine Classical.byContradiction fun hn=>hdone fun j hj=>?_
    cases hb:A8.getD j false
    ·exact absurd ⟨j,hj,hb⟩ hn
    ·rfl
   obtain⟨j0,hj0,hl0⟩:=hex
   have bef:∀(j:Nat) (o:Oper) (b:List Nat),all.toList[j]? =some o->(bm7 all.toList [])[j]? =some b->(∀k∈aX9 o,A8.getD k false=true)->∀i∈b,A8.getD i false=true:=fun j o b ho hb hd=>
    cH5 (D:=fun k=>A8.getD k false=true) hcl all.toList [] (by simp) (fun j l o hj=>by simp at hj) j b o hb ho hd
   have ea8:∀i∈Region.ready .any all A8,i<h/\i<all.size/\A8.getD i false=false/\∃o,all[i]? =some o/\∀k∈aX9 o,A8.getD k false=true:=by
    intro i hi
    obtain⟨h1,o,ho,hd⟩:=mem_ready.1 hi
    have hin:i<all.size:=(dC3.1 ho).1
    have h2:A8.getD i true=A8.getD i false:=by simp[hs,hin]
    rw[h2]at h1
    refine⟨?_,hin,h1,o,ho,bI7 hd⟩
    refine Classical.byContradiction fun hnh=>?_
    have ho':all.toList[i]? =some o:=by simpa using ho
    obtain⟨b,hb,_,h3⟩:=aV3 ht i o ho'
    have:=bef i o b ho' hb (bI7 hd) j0 (h3 (by omega) j0 (by omega))
    rw[hl0]at this
    cases this
   have notEmpty:Region.ready .any all A8≠[]:=by
    have cv8:∃j,j<all.size/\A8.getD j false=false/\∀k,k<j->A8.getD k false=true:=by
     have:∀n,(∃j,j<n/\A8.getD j false=false)->∃j,j<n/\A8.getD j false=false/\∀k,k<j->A8.getD k false=true:=by
      intro n
      induction n with
      |zero=>rintro⟨j,hj,_⟩;omega
      |succ n ihn=>
       rintro⟨j,hj,hb⟩
       by_cases hx:∃j,j<n/\A8.getD j false=false
       ·obtain⟨j',h1,h2,h3⟩:=ihn hx
        exact⟨j',by omega,h2,h3⟩
       ·have:j=n:=by
         rcases dh0 j n with c|c
         ·exact absurd ⟨j,c,hb⟩ hx
         ·omega
        subst this
        refine⟨j,hj,hb,fun k hk=>?_⟩
        cases hc:A8.getD k false
        ·exact absurd ⟨k,hk,hc⟩ hx
        ·rfl
     obtain⟨j,h1,h2,h3⟩:=this h ⟨j0,hj0,hl0⟩
     exact⟨j,by omega,h2,h3⟩
    obtain⟨j,hj,hb,hk⟩:=cv8
    have hin:j∈Region.ready .any all A8:=by
     have hjo:all[j]? =some all[j]:=Array.getElem?_eq_getElem hj
     have h2:A8.getD j true=false:=by rw[<-hb];simp[hs,hj]
     refine mem_ready.2 ⟨h2,all[j],hjo,fun e he hbd=>?_⟩
     have hke:e.on∈aX9 all[j]:=by
      simp only[aX9,cZ1,dO7]
      exact⟨e,⟨by simpa using he,hbd⟩,rfl⟩
     obtain⟨_,_,h3,_⟩:=aV3 ht j all[j] (by simp)
     exact hk e.on (by have:=h3 e.on hke;omega)
    intro h0
    rw[h0]at hin
    cases hin
   refine⟨fun h0=>absurd h0 notEmpty,fun i hi=>?_⟩
   obtain⟨hih,hin,hli,o,ho,hd⟩:=ea8 i hi
   have ho':all.toList[i]? =some o:=by simpa using ho
   obtain⟨b,hb⟩:=bget i o ho'
   have hbl:=bef i o b ho' hb hd
   have hvi:vs[i]? =some (vs[i]'(by omega)):=aJ9 (by omega)
   generalize vs[i]'(by omega)=p at hvi
   obtain⟨V,N⟩:=p
   have hti:(all.toList.take h)[i]? =some o:=by rw[dx0,if_pos hih];exact ho'
   have tk:∀j V N,(vs.take i)[j]? =some (V,N)->vs[j]? =some (V,N):=fun j V N hj=>by
    rw[dx0]at hj
    split at hj
    ·exact hj
    ·cases hj
   have cv8:more (minOf all.toList ((vs.take i).map (·.1)) tm0 (aX9 o)) tm:=cR0 hm _ fun j oj Vj dj hj hoj hVj hdj=>by
    rw[cM9]at hVj
    cases hvj:(vs.take i)[j]?with
    |none=>rw[hvj]at hVj;cases hVj
    |some p=>
     rw[hvj]at hVj
     simp only[cb0,aj7]at hVj
     subst hVj
     exact hsl j oj p.1 p.2 dj (hd j hj) hoj (tk j _ _ hvj) hdj
   have hblt:∀x∈b,x<i:=cH5 (D:=fun x=>x<i) (fun j oj hoj hj k hk=>by
     obtain⟨_,_,h2,_⟩:=aV3 ht j oj hoj
     have:=h2 k hk
     omega) all.toList [] (by simp) (fun j l o hj=>by simp at hj) i b o hb ho' (fun k hk=>by
     obtain⟨_,_,h2,_⟩:=aV3 ht i o ho'
     have:=h2 k hk
     omega)
   have hbi:∀j,i<=j->aD8 j b=false:=fun j hj=>by
    cases hx:aD8 j b
    ·rfl
    ·have:=hblt j (bf8.1 hx);omega
   have hlater:∀j bj,(bm7 all.toList [])[j]? =some bj->i∈bj->A8.getD j false=false:=fun j bj hbj hib=>by
    cases hx:A8.getD j false
    ·rfl
    ·exfalso
     have hjn:j<all.size:=by
      rcases dh0 j all.size with c|c
      ·exact c
      ·have:A8.getD j false=false:=by simp[hs,c]
       rw[hx]at this;cases this
     have hoj:all.toList[j]? =some all[j]:=by simp
     have:=bef j all[j] bj hoj hbj (hcl j _ hoj hx) i hib
     rw[hli]at this;cases this
   have hminH:aY4 (dY6 (bm7 all.toList []) ws (vs.take i) hp0 i b) hp:=fun k c hk=>by
    obtain⟨hv1,hl1⟩:=cn2 hk
    rw[dT0 (fun j hj=>by rw[cY7];exact hbi j hj)]at hl1
    refine hmh k c ?_
    rw[<-hl1]
    refine bG9 rfl fun j V' b' hj=>?_
    rw[cY7]
    have hw:=bY0 hus j V' k b' hj
    rw[cY7]at hw
    have hx:=by6.1 hv1 _ hw
    simp only[bX7,aK4,Bool.false_or,cx1]at hx
    rcases hx with hx|hx|hx
    ·have:=bq5 hx
     subst this
     rw[hli,hbi j (cB6 _)]
    ·rw[hx];exact hbl j (bf8.1 hx)
    ·split at hx
     ·rename_i bj hbj
      have h1:=hlater j bj hbj (bf8.1 hx)
      rw[h1]
      cases hy:aD8 j b
      ·rfl
      ·have:=hbl j (bf8.1 hy);rw[h1]at this;cases this
     ·cases hx
   have hacc:aY4 (bC4 (fun j=>(A8.setIfInBounds i true).getD j false) 0 vs hp0) (bg3 N hp):=fun k c hk=>by
    by_cases hN:∃c',N=some (k,c')
    ·obtain⟨c',rfl⟩:=hN
     rw[cZ5 hvi (by rw[cY7];exact bB2 hs hin) (fun j V2 b2 hij hj=>by
      rw[cY7,getD_set_ne false (by omega)]
      have w1:=bY0 hus i V k c' hvi
      have w2:=bY0 hus j V2 k b2 hj
      rw[cY7]at w1 w2
      obtain⟨bj,hbj,hib⟩:=cS2 hps i j k w1 w2 hij
      exact hlater j bj hbj hib)]at hk
     cases hk
     simp[bg3,look]
    ·rw[bt0 (fun c' e=>hN ⟨c',e⟩)]
     refine hmh k c ?_
     rw[<-hk]
     refine bG9 rfl fun j V' b' hj=>?_
     rw[cY7,getD_set_ne false]
     intro e;subst e
     rw[hvi]at hj;cases hj
     exact hN ⟨b',rfl⟩
   unfold wpOp
   simp only[ho]
   have hstep:=steps i V N o b hvi ho' hb tm hp cv8 hminH ⟨fun hn d bh3=>by
     have:=hfr i o d hih hli ho' hn bh3
     rw[this.1,this.2];rfl,fun id hid=>hap i o V N id hih hli ho' hvi hid⟩ (fun d bh3=>(bv6 hh i i o o d d hti hti bh3 bh3).1.2|>fun h=>Nat.ble_eq_true_of_le h) a w hk
    (wpAny X.P .any all Q fuel (A8.setIfInBounds i true)) Q (fun a' w' hk'=>by
    have hsz:(A8.setIfInBounds i true).size=all.size:=by simp[hs]
    have hun:unl all.size (A8.setIfInBounds i true)=fuel:=by have:=eH6 (A8:=A8) hin hs hli;omega
    have htl':∀j,h<=j->j<all.size->(A8.setIfInBounds i true).getD j false=false:=fun j h1 h2=>by rw[getD_set_ne false (by omega)];exact htl j h1 h2
    have hcl':∀(j:Nat) (o:Oper),all.toList[j]? =some o->(A8.setIfInBounds i true).getD j false=true->∀k∈aX9 o,(A8.setIfInBounds i true).getD k false=true:=fun j oj hoj hlj k hk=>by
     by_cases c:i=j
     ·subst c
      rw[ho']at hoj;cases hoj
      exact getD_set_true (hd k hk)
     ·rw[getD_set_ne false c]at hlj
      exact getD_set_true (hcl j oj hoj hlj k hk)
    have hjh:∀j,j<all.size->A8.getD j false=true->j<h:=fun j hj hlj=>by
     refine Classical.byContradiction fun hn=>?_
     rw[htl j (by omega) hj]at hlj;cases hlj
    have jlt:∀(j:Nat) (oj:Oper),all.toList[j]? =some oj->j<all.size:=fun j oj hoj=>by have:=(bD8.1 hoj).1;simpa using this
    have hap':∀(j:Nat) (oj:Oper) (Vj:T) (Nj:Option (Nat×H6)) (id:Nat),j<h->(A8.setIfInBounds i true).getD j false=false->all.toList[j]? =some oj->vs[j]? =some (Vj,Nj)->cK0 oj Nj=some id->(O6 id tm=true/\names id V=false)/\nfB id (bg3 N hp)=true:=fun j oj Vj Nj id hj hlj hoj hvj hid=>by
     by_cases c:i=j
     ·subst c
      rw[bB2 hs hin]at hlj;cases hlj
     ·rw[getD_set_ne false c]at hlj
      obtain⟨f1,f2⟩:=hap j oj Vj Nj id hj hlj hoj hvj hid
      obtain⟨_,_,hnb⟩:=cK1 has j oj Vj Nj id (by rw[dx0,if_pos hj];exact hoj) (by rw[cY7];exact hvj) hid
      rw[cY7]at hnb
      rcases bX2 hnb i V N hvi (by omega)with⟨n1,n2⟩|⟨b',hb',hjb⟩
      ·exact⟨⟨f1,n1⟩,ep4 f2 n2⟩
      ·rw[hb]at hb';cases hb'
       have:=hbl j hjb
       rw[hlj]at this;cases this
    cases bh3:o.dst with
    |none=>
     simp only[pt,bh3]at hk'
     refine ih _ tm _ _ w' hk' hm hacc hsz hun htl' hcl' (fun j oj Vj Nj dj hlj hoj hVj hdj=>?_) (fun j oj dj hj hlj hoj hnj hdj=>?_) (fun j oj Vj Nj bid hj hlj hoj hvj hid=>(hap' j oj Vj Nj bid hj hlj hoj hvj hid).imp (·.1) (fun x=>x))
     ·by_cases c:i=j
      ·subst c
       rw[ho']at hoj;cases hoj
       rw[bh3]at hdj;cases hdj
      ·rw[getD_set_ne false c]at hlj
       exact hsl j oj Vj Nj dj hlj hoj hVj hdj
     ·by_cases c:i=j
      ·subst c
       rw[ho']at hoj;cases hoj
       rw[bh3]at hdj;cases hdj
      ·rw[getD_set_ne false c]at hlj
       obtain⟨f1,f2⟩:=hfr j oj dj hj hlj hoj hnj hdj
       have hnb:=bT0 hnm j oj dj (by rw[dx0,if_pos hj];exact hoj) hnj hdj
       rw[cY7]at hnb
       rcases bX2 hnb i V N hvi (by omega)with⟨n1,n2⟩|⟨b',hb',hjb⟩
       ·exact⟨f1,cA8 f2 n2⟩
       ·rw[hb]at hb';cases hb'
        have:=hbl j hjb
        rw[hlj]at this;cases this
    |some d=>
     have h1:=(bv6 hh i i o o d d hti hti bh3 bh3).1
     have hpt:pt o V tm=(d,V)::tm:=by simp[pt,bh3]
     rw[hpt]at hk'
     have dne:∀(j:Nat) (oj:Oper) (dj:Nat),i≠j->j<h->all.toList[j]? =some oj->oj.dst=some dj->d≠dj:=fun j oj dj c hj hoj hdj=>
      (bv6 hh i j o oj d dj hti (by rw[dx0,if_pos hj];exact hoj) bh3 hdj).2 c
     refine ih _ ((d,V)::tm) _ _ w' hk' (fun k t hkt=>?_) hacc hsz hun htl' hcl' (fun j oj Vj Nj dj hlj hoj hVj hdj=>?_) (fun j oj dj hj hlj hoj hnj hdj=>?_) (fun j oj Vj Nj bid hj hlj hoj hvj hid=>(hap' j oj Vj Nj bid hj hlj hoj hvj hid).imp (fun h=>by simp[O6,h.1,h.2]) (fun x=>x))
     ·have hne:d≠k:=by intro e;subst e;rw[h1.1]at hkt;cases hkt
      rw[J8 hne]
      exact hm k t hkt
     ·by_cases c:i=j
      ·subst c
       rw[ho']at hoj;cases hoj
       rw[bh3]at hdj;cases hdj
       rw[hvi]at hVj;cases hVj
       simp[look]
      ·rw[getD_set_ne false c]at hlj
       have hne:=dne j oj dj c (hjh j (jlt j oj hoj) hlj) hoj hdj
       rw[J8 hne]
       exact hsl j oj Vj Nj dj hlj hoj hVj hdj
     ·by_cases c:i=j
      ·subst c
       rw[bB2 hs hin]at hlj;cases hlj
      ·rw[getD_set_ne false c]at hlj
       have hne:=dne j oj dj c hj hoj hdj
       obtain⟨f1,f2⟩:=hfr j oj dj hj hlj hoj hnj hdj
       have hnb:=bT0 hnm j oj dj (by rw[dx0,if_pos hj];exact hoj) hnj hdj
       rw[cY7]at hnb
       rcases bX2 hnb i V N hvi (by omega)with⟨n1,n2⟩|⟨b',hb',hjb⟩
       ·exact⟨by simp[O6,n1,f1],cA8 f2 n2⟩
       ·rw[hb]at hb';cases hb'
        have:=hbl j hjb
        rw[hlj]at this;cases this)
   split at hstep
   ·rename_i hg
    rw[if_pos hg]
    exact .inl hstep
   ·rename_i hg
    rw[if_neg hg]
    exact hstep
def eA2 (nt:Nat)(all:List Oper)(h:Nat)(ws:List (Nat×Nat))(tm0:List (Nat×T))(hp0:List (Nat×H6))(vs:List (T×Option (Nat×H6))):Bool:=
 bx3 vs.length h&&(dQ0 h all.length&&(cV4 h 0 all (bm7 all [])&&(bf6 nt tm0 hp0 (all.take h)&&(cn9 vs (bm7 all []) 0 (all.take h)&&(cD2 ws 0 vs&&(cS1 (bm7 all []) ws&&eg4 tm0 hp0 vs (bm7 all []) 0 (all.take h)))))))
theorem F9.ff1 {ρ:Type}{ks:List K}{m:Option ρ}{Q:ρ->Exit->St->Prop}{id h:Nat}(hmx:X.P.follows .mixedOrders=true)(hb:eA2 X.nt all.toList h ws tm0 hp0 vs=true)(steps:cr9 X all (bm7 all.toList []) ws tm0 hp0 vs)
  (rest:C3 X all (all.toList.drop h) ks ⟨cf1 all.toList (vs.map (·.1)) tm0,el8 vs hp0⟩ m Q):F9 X (.c (.region id all true)::ks) ⟨tm0,hp0⟩ m Q:=fun r hr a w hw=>by
 simp only[eA2,au2]at hb
 obtain⟨h1,h2,h3,h4,h5,h6,h7,h8⟩:=hb
 obtain⟨hh,hf⟩:=dt6 h4
 obtain⟨S,E,hk⟩:=hw
 have aL8:aW2 (fun _=>False) w {w with drawn:=w.drawn+1}:=⟨rfl,rfl,rfl,cB6 _,fun _ _ _=>rfl,Nat.le_succ _⟩
 refine wp_region_any hmx (em8 (bq5 h1) (by have:=ba1 h2;simpa using this) h3 hh h5 h6 h7 h8 steps (fun a w hs=>rest r hr a w hs) _ _ tm0 hp0 a _ ⟨S,E,hk.grow aL8⟩ (fun _ _ h=>h) (fun k c hk=>by rw[cs0 (fun j V b _=>by rw[cY7];exact bU1 _ _)]at hk;exact hk) (by simp) ?_ ?_ ?_ ?_ ?_ ?_)
 ·unfold unl
  have:((dy2 all.size).filter fun i=>!(Array.replicate all.size false).getD i false)=dy2 all.size:=by
   rw[List.filter_eq_self]
   intro i hi
   rw[bU1];rfl
  rw[this];simp
 ·intro j _ _;exact bU1 _ _
 ·intro j o ho hl
  rw[bU1]at hl;cases hl
 ·intro j o V N d hl
  rw[bU1]at hl;cases hl
 ·intro i o d hi _ ho hn hd
  have:=hf i o d (by rw[dx0,if_pos hi];exact ho) hn hd
  rwa[au2]at this
 ·intro i o V N id hi _ ho hv hid
  have:=cK1 h8 i o V N id (by rw[dx0,if_pos hi];exact ho) (by rw[cY7];exact hv) hid
  exact⟨this.1,this.2.1⟩
end
open Go.RowKit Go.MapKept
def cQ9 {κ ν:Type}[BEq κ](z:ν):List (κ×ν)->κ->ν
 |[],_=>z
 |(a,v)::r,k=>bif k==a then v else cQ9 z r k
def dl2 {κ ν:Type}[BEq κ]:List (κ×ν)->κ->ν->List (κ×ν)
 |[],k,v=>[(k,v)]
 |(a,x)::r,k,v=>bif k==a then(k,v)::r else(a,x)::dl2 r k v
structure KeyLaw {κ:Type}[BEq κ](d:TypeDesc)(f:κ->Value):Prop where
 now:∀a b,Instr.sameNow d (f a) (f b)=some (a==b)
 key:∀a,IsKey d (f a)
 bits:∀a b,(a==b)=true->Instr.sameBits 10000 (f b) (f a)=true
theorem eP0 (ik:IntKind):KeyLaw (.int ik) (fun n:Int=>.int ik n):=⟨fun a b=>by simp[Instr.sameNow],fun a=>by simp[IsKey],fun a b h=>by
 have h:a=b:=by simpa using h
 subst h;simp[Instr.sameBits]⟩
section
variable {κ ν:Type} [BEq κ] {d:TypeDesc} {f:κ -> Value} {g:ν -> Value}
def bv9:List (κ×ν)->κ->Option (Nat×ν)
 |[],_=>none
 |(a,v)::r,k=>bif k==a then some (0,v)else(bv9 r k).map fun p=>(p.1+1,p.2)
theorem de0 (z:ν)(k:κ):∀m:List (κ×ν),cQ9 z m k=match bv9 m k with|some p=>p.2|none=>z
 |[]=>rfl
 |(a,v)::r=>by
  simp only[cQ9,bv9]
  cases k==a
  ·simp only[fh3];rw[de0 z k r];cases bv9 r k<;>rfl
  ·rfl
theorem de2 (k:κ)(v:ν):∀m:List (κ×ν),dl2 m k v=match bv9 m k with|some p=>m.set p.1 (k,v)|none=>m++[(k,v)]
 |[]=>rfl
 |(a,x)::r=>by
  simp only[dl2,bv9]
  cases k==a
  ·simp only[fh3];rw[de2 k v r];cases bv9 r k<;>rfl
  ·rfl
theorem dd9 {k:κ}:∀{m:List (κ×ν)}{p:Nat×ν},bv9 m k=some p->∃a,m[p.1]? =some (a,p.2)/\(k==a)=true
 |[],p,h=>by simp[bv9]at h
 |(a,v)::r,p,h=>by
  simp only[bv9]at h
  cases hk:k==a
  ·rw[hk]at h
   simp only[fh3,eC7]at h
   obtain⟨q,hq,rfl⟩:=h
   obtain⟨b,h1,h2⟩:=dd9 hq
   exact⟨b,by simpa using h1,h2⟩
  ·rw[hk]at h
   simp only[fh5,aj7]at h
   subst h
   exact⟨a,rfl,hk⟩
abbrev ent (f:κ->Value)(g:ν->Value)(p:κ×ν):Value×Value:=(f p.1,g p.2)
theorem ce8 (K:KeyLaw d f)(k:κ):∀(m:List (κ×ν)) (l:List MapEntry) (i:Nat),l.map (fun e=>(e.key,e.val))=m.map (ent f g)->
  Instr.findNow d (f k) l i=some ((bv9 m k).map fun p=>(i+p.1,g p.2))
 |[],l,i,h=>by
  have:l=[]:=by simpa using h
  subst this;rfl
 |(a,v)::m,[],i,h=>by simp at h
 |(a,v)::m,e::l,i,h=>by
  simp only[cX5,eU7,aX2]at h
  obtain⟨⟨h1,h2⟩,h3⟩:=h
  simp only[Instr.findNow,h1,K.now,bv9]
  cases hk:k==a
  ·simp only[fh3]
   rw[ce8 K k m l (i+1) h3]
   cases bv9 m k<;>simp[dM6,eI6 1]
  ·simp[h2]
end
section
variable {κ ν:Type} [BEq κ] {d:TypeDesc} {f:κ -> Value} {g:ν -> Value} {P:Program} {w:World} {t kt et b clock:Nat} {es:Array MapEntry} {m:List (κ × ν)}
theorem dH4 (K:KeyLaw d f)(ht:P.underlying t=some (.map kt et))(hk:P.underlying kt=some d){z:ν}{ti:TypeInfo}(hz:P.info? et=some ti)(hz2:ti.zero=some (g z))
  (hb:w.heap[b]? =some (.map es clock)) (he:es.toList.map (fun e=>(e.key,e.val))=m.map (ent f g)) (k:κ):
  (Instr.lookup t (.map (some b)) (f k) false).run P w= .ok (g (cQ9 z m k)) w:=by
 have h1:=ce8 K k m es.toList 0 he
 simp only[Instr.lookup,bd5,run_underlying ht,aY1,MapKept.run_getObj_map hb,bx4,run_checkKey hk (K.key k),run_findKey hk h1]
 rw[de0]
 cases bv9 m k with
 |none=>
  have hzr:(zeroValue et).run P w= .ok (g z) w:=by simp[zeroValue,typeInfo,hz,hz2]
  simp[hzr,bd5,Result.andThen]
 |some p=>simp[Result.andThen]
theorem dK9 (K:KeyLaw d f)(ht:P.underlying t=some (.map kt et))(hk:P.underlying kt=some d)
  (hb:w.heap[b]? =some (.map es clock)) (he:es.toList.map (fun e=>(e.key,e.val))=m.map (ent f g)) (k:κ) (v:ν):
  ∃es' clock',(Instr.mapUpdate t (.map (some b)) (f k) (g v)).run P w= .ok () {w with heap:=w.heap.setIfInBounds b (.map es' clock')}/\es'.toList.map (fun e=>(e.key,e.val))=(dl2 m k v).map (ent f g):=by
 have h1:=ce8 K k m es.toList 0 he
 rw[de2]
 cases hf:bv9 m k with
 |none=>
  rw[hf]at h1
  refine⟨es.push {key:=f k,val:=g v,born:=clock},clock+1,?_,?_⟩
  ·simp only[Instr.mapUpdate,bd5,run_underlying ht,aY1,MapKept.run_getObj_map hb,run_checkKey hk (K.key k),run_findKey hk h1]
   simp[run_setObj_map _ hb]
  ·simp[he]
 |some p=>
  rw[hf]at h1
  obtain⟨a,h2,h3⟩:=dd9 hf
  have h4:(es.toList.map (fun e=>(e.key,e.val)))[p.1]? =some (f a,g p.2):=by rw[he,cM9,h2];rfl
  rw[cM9,eC7]at h4
  obtain⟨e,h5,h6⟩:=h4
  simp only[aX2]at h6
  have h5':es[p.1]? =some e:=by simpa using h5
  have hbits:Instr.sameBits 10000 e.key (f k)=true:=by rw[h6.1];exact K.bits k a h3
  refine⟨es.modify p.1 fun e=>{e with key:=f k,val:=g v},clock,?_,?_⟩
  ·simp only[Instr.mapUpdate,bd5,run_underlying ht,aY1,MapKept.run_getObj_map hb,run_checkKey hk (K.key k),run_findKey hk h1]
   simp only[cb0,cY7,h5',Option.getD_some,Instr.keyThatStays,hbits,if_true,bx4,bd5,aY1]
   simp[run_setObj_map _ hb]
  ·simp only
   apply List.ext_getElem?
   intro j
   have h7:=congrArg (fun l=>l[j]?) he
   simp only[cM9]at h7
   simp only[cM9,List.getElem?_set,Array.getElem?_toList,Array.getElem?_modify]at h7|-
   by_cases hj:p.1=j
   ·subst hj
    have hlt:p.1<m.length:=(bD8.1 h2).1
    simp[h5',hlt]
   ·simp only[hj,if_false]
    exact h7
end
section
variable {w0:World} {L:Lim} {nt:Nat} {σ:St} {S:Nat -> Prop} {E:Nat -> Value} {a:Act} {w:World}
theorem Ok.fa5 (h:Ok w0 L nt σ S E a w){id β c c':Nat}{es es':List (Value×Value)}{l l':Array MapEntry}(hb:look σ.hp id=some (.mp es))(hE:E id= .map (some β))
  (hh:w.heap[β]? =some (.map l c)) (hl:l'.toList.map (fun e=>(e.key,e.val))=es'):
  Ok w0 L nt ⟨σ.tm,au9 σ.hp id (.mp es')⟩ S E a {w with heap:=w.heap.setIfInBounds β (.map l' c')}:=by
 have hβ:U5 (E id)=some β:=by rw[hE];rfl
 have dk2:=h.own id _ β hb hβ
 have cv9:=heap_set (o':=.map l' c') hh
 have hne:∀k,k≠β->({w with heap:=w.heap.setIfInBounds β (.map l' c')}:World).heap[k]? =w.heap[k]?:=fun k hk=>cv9.2 k hk
 have hS:∀b,S b->({w with heap:=w.heap.setIfInBounds β (.map l' c')}:World).heap[b]? =w.heap[b]?:=fun k hk=>hne k fun e=>dk2.1 (e▸hk)
 refine{keep:=?_,aH4:=fun b hb=>by simpa using h.aH4 b hb,base:=h.base,size:=h.size,defers:=h.defers,tm:=fun k t ht=>(h.tm k t ht).mono (fun _ x=>x) hS (fun _ _=>rfl),hp:=?_,own:=?_,au8:=?_,pin:=h.pin}
 ·exact h.keep.trans (L':=fun k=>k=β) ⟨rfl,rfl,rfl,by simp,fun k _ hk=>hne k hk,cB6 _⟩ fun x hx=>by subst hx;exact dk2.2.2.symm
 ·intro id' blk hl'
  rw[aF3]at hl'
  by_cases hid:id=id'
  ·subst hid
   simp only[if_true,hb,cb0,aj7]at hl'
   subst hl'
   exact⟨β,c',l',hE,cv9.1,hl⟩
  ·simp only[hid,if_false]at hl'
   refine(h.hp id' blk hl').mono (fun _ x=>x) hS (fun β' hβ'=>hne β' fun e=>?_) (fun _ _=>rfl)
   subst e
   exact hid (h.au8 id id' _ blk _ hb hl' hβ hβ')
 ·intro id' blk β' hl' hβ'
  rw[aF3]at hl'
  have:∃b0,look σ.hp id'=some b0:=by
   by_cases hid:id=id'
   ·subst hid;exact⟨_,hb⟩
   ·simp only[hid,if_false]at hl';exact⟨_,hl'⟩
  obtain⟨b0,hb0⟩:=this
  simpa using h.own id' b0 β' hb0 hβ'
 ·intro i i' x x' β' hl1 hl' hβ1 hβ2
  rw[aF3]at hl1 hl'
  have dz3:∀j y,(if id=j then(look σ.hp j).map (fun _=>(.mp es':H6))else look σ.hp j)=some y->∃b0,look σ.hp j=some b0:=by
   intro j y hj
   by_cases hid:id=j
   ·subst hid;exact⟨_,hb⟩
   ·simp only[hid,if_false]at hj;exact⟨_,hj⟩
  obtain⟨b0,hb0⟩:=dz3 i x hl1
  obtain⟨b1,hb1⟩:=dz3 i' x' hl'
  exact h.au8 i i' b0 b1 β' hb0 hb1 hβ1 hβ2
end
section
variable {ρ κ ν:Type} [BEq κ] {X:Cx} {ks:List K} {tm:List (Nat × T)} {hp:List (Nat × H6)} {m:Option ρ} {Q:ρ -> Exit -> St -> Prop} {all:Array Oper} {o:Oper} {rest:List Oper}
theorem C3.eQ5 {t d:Nat}(id:Nat)(ho:o.op= .makeMap t none)(hd:o.dst=some d)(hdn:ba2 d X.nt=true)(hg:aj1 all.toList tm o.guard=some true)
  (aM8:ba2 id big=true) (hft:O6 id tm=true) (hfb:O0 id hp=true) (h:C3 X all rest ks ⟨(d,.own id)::tm,(id,.mp [])::hp⟩ m Q):C3 X all (o::rest) ks ⟨tm,hp⟩ m Q:=fun y hy a w ⟨S,E,hk⟩=>by
 obtain⟨E',hE,hne,hok⟩:=hk.alloc (o:=.map #[] 0) (x:=.map (some w.heap.size)) (b:=.mp []) aM8 hft hfb rfl (fun E' _=>⟨w.heap.size,0,#[],rfl,(MapKept.heap_alloc w _).1,rfl⟩)
 refine wpList_step fun K hK=>?_
 rw[V9 hk hg,if_pos rfl]
 unfold Oper.wp
 have aO9:(execOp a.eval o).run X.P w= .ok (.value (.map (some w.heap.size))) (w.alloc (.map #[] 0)):=by
  unfold execOp
  simp only[ho,Option.map_none,bd5,run_makeMap,aY1,bx4]
 rw[aO9]
 refine hK _ _ (h y hy _ _ ⟨S,E',?_⟩)
 rw[hd]
 exact hok.put (ba1 hdn) (.own id _ hE)
theorem C3.eo3 {t kt et d id:Nat}{x y:Operand}{dk:TypeDesc}{f:κ->Value}{g:ν->Value}{z:ν}{l:List (κ×ν)}{k:κ}(K:KeyLaw dk f)(ho:o.op= .lookup t x y false)(hd:o.dst=some d)(hdn:ba2 d X.nt=true)(hg:aj1 all.toList tm o.guard=some true)
  (hx:val tm x=some (.own id)) (hb:look hp id=some (.mp (l.map (ent f g)))) (hy:val tm y=some (.t (.v (f k)))) (ht:X.P.underlying t=some (.map kt et)) (hkt:X.P.underlying kt=some dk) (hz:∃ti,X.P.info? et=some ti/\ti.zero=some (g z))
  (h:C3 X all rest ks ⟨(d,.t (.v (g (cQ9 z l k))))::tm,hp⟩ m Q):C3 X all (o::rest) ks ⟨tm,hp⟩ m Q:=by
 have:=C3.one (X:=X) (ks:=ks) (tm:=tm) (hp:=hp) (all:=all) (o:=o) (rest:=rest) (Q:=Q) (k:=fun _=>m) (m₁:=some ()) hd hdn hg (fun _=>.t (.v (g (cQ9 z l k)))) (fun _ S E a w _ hk=>by
  obtain⟨ti,hz1,hz2⟩:=hz
  obtain⟨β,c,es,hE,hh,hl⟩:=hk.hp id _ hb
  have hxv:=hk.val hx
  refine⟨_,?_,.t (.v _)⟩
  have hxe:a.eval x= .map (some β):=by
   generalize hq:a.eval x=q at hxv
   cases hxv with|own _ _ h=>exact h.symm.trans hE
  simp only[execOp,ho,bd5,hxe,(hk.val hy).tv,dH4 K ht hkt hz1 hz2 hh hl,aY1,bx4]) (fun _ _=>h)
 simpa using this
theorem C3.ew8 {t kt et id:Nat}{x y u:Operand}{dk:TypeDesc}{f:κ->Value}{g:ν->Value}{l:List (κ×ν)}{k:κ}{v:ν}(K:KeyLaw dk f)(ho:o.op= .mapUpdate t x y u)(hd:o.dst=none)(hg:aj1 all.toList tm o.guard=some true)
  (hx:val tm x=some (.own id)) (hb:look hp id=some (.mp (l.map (ent f g)))) (hy:val tm y=some (.t (.v (f k)))) (hu:val tm u=some (.t (.v (g v)))) (ht:X.P.underlying t=some (.map kt et)) (hkt:X.P.underlying kt=some dk)
  (h:C3 X all rest ks ⟨tm,au9 hp id (.mp ((dl2 l k v).map (ent f g)))⟩ m Q):C3 X all (o::rest) ks ⟨tm,hp⟩ m Q:=fun r hr a w ⟨S,E,hk⟩=>by
 obtain⟨β,c,es,hE,hh,hl⟩:=hk.hp id _ hb
 have hxv:=hk.val hx
 have hxe:a.eval x= .map (some β):=by
  generalize hq:a.eval x=q at hxv
  cases hxv with|own _ _ h=>exact h.symm.trans hE
 obtain⟨es',c',h1,h2⟩:=dK9 K ht hkt hh hl k v
 refine wpList_step fun K hK=>?_
 rw[V9 hk hg,if_pos rfl]
 unfold Oper.wp
 have aO9:(execOp a.eval o).run X.P w= .ok .skip {w with heap:=w.heap.setIfInBounds β (.map es' c')}:=by
  unfold execOp
  simp only[ho,bd5,hxe,(hk.val hy).tv,(hk.val hu).tv,h1,aY1,bx4]
 rw[aO9]
 refine hK _ _ (h r hr _ _ ⟨S,E,?_⟩)
 rw[hd]
 exact hk.fa5 hb hE hh h2
end
inductive Cg (ρ:Type)where
 |S (ks:List K) (σ:St)
 |O (all:Array Oper) (kb:List Nat) (ops:List Oper) (ks:List K) (σ:St)
 |D (id:Nat) (all:Array Oper) (h:Nat) (bs:List (List Nat)) (ws:List (Nat×Nat)) (ops:List Oper) (vs:List (T×Option (Nat×H6))) (tm0:List (Nat×T)) (hp0:List (Nat×H6)) (fz kb:List Nat) (ks:List K)
 |X (id:Nat) (σ:St)
 |R (r:ρ)
def tlH:List (List Nat)->Nat->Nat
 |[],j=>j
 |b::r,j=>match tlH r (j+1)with|h=>bif bx3 h (j+1)&&bP0 j b then j else h
def dw0 (fz:List Nat):Nat->List Oper->List (Nat×Nat)
 |_,[]=>[]
 |j,o::r=>match aR9 o.op,o.dst with
  |true,some d=>bif aD8 d fz then dw0 fz (j+1) r else(j,d)::dw0 fz (j+1) r
  |_,_=>dw0 fz (j+1) r
def stD (D5:Tab)(all:List Oper)(bs:List (List Nat))(ws:List (Nat×Nat))(o:Oper)(vs:List (T×Option (Nat×H6)))(tm0:List (Nat×T))(hp0:List (Nat×H6))(fz kb:List Nat):Option (T×Option (Nat×H6)):=
 match bs[vs.length]?with
 |none=>none
 |some b=>match minOf all (vs.map (·.1)) tm0 (aX9 o),dY6 bs ws vs hp0 vs.length b with
  |tm,hp=>match gk all kb tm o.guard with
   |some false=>some (.t (.v undef),none)
   |some true=>bif dX3 o.op then(match cH9 D5 tm hp o with|some (V,_)=>some (V,none)|none=>none)else
     bif aR9 o.op then(match cH9 D5 tm hp o,o.dst with
      |some (V,⟨_,(_,N)::_⟩),some d=>bif aD8 d fz then(match N with| .rows _ _ n rs=>some (.t (.sl n rs),none)|_=>none)else some (V,some (d,N))
      |_,_=>none)else
     match o.op with
     | .store t x y=>match val tm x,look D5 t,(val tm y).bind (aq9 hp)with
      |some (.ptr id off),some ti,some l=>match look hp id with
       |some (.box ts)=>bif bx3 l.length ti.size&&dQ0 (off+l.length) ts.length then some (.t (.v undef),some (id,.box (aQ1 ts off l)))else none
       |_=>none
      |_,_,_=>none
     |_=>none
   |none=>none
def dedup:List (Nat×H6)->List (Nat×H6)
 |[]=>[]
 |(k,b)::r=>(k,b)::by0 (dedup r) k
theorem cQ6:∀{l:List (Nat×H6)}{k:Nat},look (dedup l) k=look l k
 |[],_=>rfl
 |(j,b)::r,k=>by
  unfold dedup
  by_cases hj:j=k
  ·subst hj;simp[look]
  ·rw[J8 hj,J8 hj,aV0 (Ne.symm hj)];exact cQ6
def av {ρ:Type}(D5:Tab)(nt:Nat)(eb ed:Bool):Nat->Cg ρ->Cg ρ
 |0,c=>c
 |n+1,c=>match c with
  | .S (.c x::ks) σ=>match x with
   | .seq x y=>av D5 nt eb ed n (.S (.c x:: .c y::ks) σ)
   | .skip=>av D5 nt eb ed n (.S ks σ)
   | .label _=>av D5 nt eb ed n (.S ks σ)
   | .scope x=>av D5 nt eb ed n (.S (.c x::ks) σ)
   | .block id x=>bif eb then av D5 nt eb ed n (.S (.c x:: .e id::ks) σ)else .S (.c (.block id x)::ks) σ
   | .region id ops d=>match d with
    |false=>av D5 nt eb ed n (.O ops [] ops.toList ks σ)
    |true=>bif ed then av D5 nt eb ed n (.D id ops (tlH (bm7 ops.toList []) 0) (bm7 ops.toList []) (dw0 [] 0 (ops.toList.take (tlH (bm7 ops.toList []) 0))) ops.toList [] (rmv (aV9 (ops.toList.take (tlH (bm7 ops.toList []) 0))) σ.tm) σ.hp [] [] ks)else .S (.c (.region id ops true)::ks) σ
   | .exit id=>match bw4 id ks with
    |some ks'=>av D5 nt eb ed n (.S ks' σ)
    |none=>.X id σ
   |x=>.S (.c x::ks) σ
  | .S (.e _::ks) σ=>av D5 nt eb ed n (.S ks σ)
  | .O all kb [] ks σ=>av D5 nt eb ed n (.S ks σ)
  | .O all kb (o::r) ks ⟨tm,hp⟩=>match stO D5 nt all.toList kb o r tm hp with
   |some (r',σ')=>av D5 nt eb ed n (.O all kb r' ks σ')
   |none=>.O all kb (o::r) ks ⟨tm,hp⟩
  | .D id all h bs ws ops vs tm0 hp0 fz kb ks=>bif bx3 vs.length h then
    (bif eA2 nt all.toList h ws tm0 hp0 vs then av D5 nt eb ed n (.O all kb ops ks ⟨cf1 all.toList (vs.map (·.1)) tm0,dedup (el8 vs hp0)⟩)else .D id all h bs ws ops vs tm0 hp0 fz kb ks)
   else match ops with
    |[]=>.D id all h bs ws [] vs tm0 hp0 fz kb ks
    |o::r=>match stD D5 all.toList bs ws o vs tm0 hp0 fz kb with
     |some x=>av D5 nt eb ed n (.D id all h bs ws r (vs++[x]) tm0 hp0 fz kb ks)
     |none=>.D id all h bs ws (o::r) vs tm0 hp0 fz kb ks
  |c=>c
def fuel:Nat:=100000
def here {ρ:Type}:Cg ρ->Option (Array Oper×List Nat×Oper×List (Nat×T)×List (Nat×H6)×List Nat×(T->Option (Nat×H6)->Cg ρ))
 | .O all kb (q::r) ks ⟨tm,hp⟩=>some (all,kb,q,tm,hp,[],fun V N=>.O all kb r ks ⟨pt q V tm,bg3 N hp⟩)
 | .D id all h bs ws (q::r) vs tm0 hp0 fz kb ks=>match bs[vs.length]?with
  |some b=>some (all,kb,q,minOf all.toList (vs.map (·.1)) tm0 (aX9 q),dY6 bs ws vs hp0 vs.length b,fz,fun V N=>.D id all h bs ws r (vs++[(V,N)]) tm0 hp0 fz kb ks)
  |none=>none
 |_=>none
def eT7 (q:Oper)(vs:List (T×Option (Nat×H6))):Option (Nat×Bool):=match q.guard with
 |some (j,_)=>match vs[j]?with
  |some (.t (.v (.bool b)),none)=>some (j,b)
  |_=>none
 |none=>none
def dJ7 (x:T):Nat->List (T×Option (Nat×H6))->List (T×Option (Nat×H6))
 |_,[]=>[]
 |0,(_,N)::r=>(x,N)::r
 |j+1,p::r=>p::dJ7 x j r
def kbD (all:Array Oper)(j:Nat)(kb:List Nat):List Nat:=match all[j]?with
 |some o=>(match o.dst with|some d=>d::kb|none=>kb)
 |none=>kb
def eT6 (all:List Oper)(tm:List (Nat×T))(q:Oper):Option (Nat×Bool):=match q.guard with
 |some (j,_)=>match all[j]?with
  |some o=>match o.dst with
   |some d=>match look tm d with
    |some (.t (.v (.bool b)))=>some (d,b)
    |_=>none
   |none=>none
  |none=>none
 |none=>none
inductive Ch where
 |t (k:Nat) (x:T)
 |x (k:Nat)
 |c (id j:Nat) (l:List T)
 |b (id:Nat) (b:H6)
 |d (id:Nat)
def upd:List Ch->St->St
 |[],σ=>σ
 |a::r,σ=>match upd r σ with
  |⟨tm,hp⟩=>match a with
   | .t k x=>⟨(k,x)::rmv [k] tm,hp⟩
   | .x k=>⟨rmv [k] tm,hp⟩
   | .c id j l=>match look hp id with
    |some (.box ts)=>⟨tm,(id,.box (aQ1 ts j l))::by0 hp id⟩
    |_=>⟨tm,hp⟩
   | .b id b=>⟨tm,(id,b)::by0 hp id⟩
   | .d id=>⟨tm,by0 hp id⟩
inductive Sh (ρ:Type)where
 |nx (l:List Ch)
 |ex (id:Nat) (l:List Ch)
 |rt (r:ρ)
inductive Out (ρ:Type)where
 |nx (σ:St)
 |ex (id:Nat) (σ:St)
 |rt (r:ρ)
 |top (r:ρ)
 |no
def Out.den {ρ:Type}(Qf:ρ->St->Prop):Out ρ->Exit->St->Prop
 | .nx σ,e,σ'=>e= .normal/\Sub σ σ'
 | .ex id σ,e,σ'=>e= .exit id/\Sub σ σ'
 | .rt r,e,σ'=>e= .ret/\Qf r σ'
 | .top r,e,σ'=>(e= .ret\/e= .normal)/\Qf r σ'
 | .no,_,_=>False
inductive Kd (ρ:Type):Type->Type 1 where
 |e:Kd ρ Empty
 |one {γ:Type} (o:γ->Sh ρ):Kd ρ γ
 |two {γ δ:Type} (o:γ->Sh ρ) (o':δ->Sh ρ):Kd ρ (γ⊕δ)
 |tri {γ δ ε:Type} (o:γ->Sh ρ) (o':δ->Sh ρ) (o'':ε->Sh ρ):Kd ρ (γ⊕(δ⊕ε))
def Kd.sh {ρ:Type}:{γ:Type}->Kd ρ γ->γ->Sh ρ
 |_,.e,w=>w.elim
 |_,.one o,w=>o w
 |_,.two o _,.inl w=>o w
 |_,.two _ o,.inr w=>o w
 |_,.tri o _ _,.inl w=>o w
 |_,.tri _ o _,.inr (.inl w)=>o w
 |_,.tri _ _ o,.inr (.inr w)=>o w
def Kd.all {ρ:Type}:{γ:Type}->Kd ρ γ->(γ->Sh ρ->Tr)->Tr
 |_,.e,_=>.ok
 |_,.one o,F=>.all fun w=>F w (o w)
 |_,.two o o',F=>.and (.all fun w=>F (.inl w) (o w)) (.all fun w=>F (.inr w) (o' w))
 |_,.tri o o' o'',F=>.and (.all fun w=>F (.inl w) (o w)) (.and (.all fun w=>F (.inr (.inl w)) (o' w)) (.all fun w=>F (.inr (.inr w)) (o'' w)))
theorem Kd.dD4 {ρ:Type}:∀{γ:Type}{k:Kd ρ γ}{F:γ->Sh ρ->Tr},(k.all F).den->∀w,(F w (k.sh w)).den
 |_,.e,_,_,w=>w.elim
 |_,.one o,_,h,w=>h w
 |_,.two o o',_,h,.inl w=>h.1 w
 |_,.two o o',_,h,.inr w=>h.2 w
 |_,.tri o o' o'',_,h,.inl w=>h.1 w
 |_,.tri o o' o'',_,h,.inr (.inl w)=>h.2.1 w
 |_,.tri o o' o'',_,h,.inr (.inr w)=>h.2.2 w
def noE:List K->Bool
 |[]=>true
 | .c _::r=>noE r
 | .e _::_=>false
def eE0 {ρ:Type}:Out ρ->Out ρ
 | .nx _=>.no
 | .top _=>.no
 |o=>o
def de6 {ρ:Type}(σ:St):Sh ρ->Out ρ
 | .nx l=>.nx (upd l σ)
 | .ex id l=>.ex id (upd l σ)
 | .rt r=>.rt r
def eq1 {ρ:Type}(σ:St):Sh ρ->Out ρ
 | .nx _=>.no
 | .ex id l=>.ex id (upd l σ)
 | .rt r=>.rt r
def cont {ρ:Type}(ks:List K)(σ:St):Sh ρ->Cg ρ
 | .nx l=>.S ks (upd l σ)
 | .ex id l=>match bw4 id ks with
  |some ks'=>.S ks' (upd l σ)
  |none=>.X id (upd l σ)
 | .rt r=>.R r
def ak3:Code->List Nat
 | .region _ ops _=>aV9 ops.toList
 | .seq x y=>ak3 x++ak3 y
 | .cond _ x y=>ak3 x++ak3 y
 | .block _ x=>ak3 x
 | .loop x=>ak3 x
 | .scope x=>ak3 x
 |_=>[]
def fgT (id:Nat):List (Nat×T)->List (Nat×T)
 |[]=>[]
 |(k,x)::r=>bif names id x then fgT id r else(k,x)::fgT id r
def fgL (id:Nat):List T->List T
 |[]=>[]
 |x::r=>(bif names id x then .any else x)::fgL id r
def fgB (id:Nat):H6->H6
 | .box ts=>.box (fgL id ts)
 |b=>b
def fgH (id:Nat):List (Nat×H6)->List (Nat×H6)
 |[]=>[]
 |(k,b)::r=>bif bx3 k id then fgH id r else(k,fgB id b)::fgH id r
def uniq:List (Nat×H6)->Bool
 |[]=>true
 |(k,_)::r=>(look r k).isNone&&uniq r
inductive Z1 where
 |fr (id:Nat)
 |fb (id:Nat)
 |np (k id e sz:Nat) (path:List Nat)
 |nb (b id e sz:Nat) (path:List Nat)
 |rn (h:List (Nat×Nat))
 |dr (id:Nat)
def idn (h:List (Nat×Nat)):List (Nat×H6)->List (Nat×Nat)
 |[]=>[]
 |(i,_)::r=>match look h i with
  |some _=>idn h r
  |none=>(i,i)::idn h r
def rdT (h:List (Nat×Nat)):List (Nat×T)->List (Nat×T)
 |[]=>[]
 |(k,x)::r=>match aN6 h x with
  |some _=>(k,x)::rdT h r
  |none=>rdT h r
def Z1.ap (tm:List (Nat×T))(hp:List (Nat×H6)):Z1->Option St
 | .fr id=>match look hp id with
  |some (.rows _ _ n rs)=>some ⟨cq3 id (.t (.sl n rs)) tm,bo5 id (.t (.sl n rs)) hp⟩
  |_=>none
 | .fb id=>match look hp id with
  |some (.box ts)=>match trees ts with
   |some c=>some ⟨dV6 id c tm,cv1 id c hp⟩
   |none=>none
  |_=>none
 | .np k id e sz path=>match look tm k with
  |some t=>match bL3 id path t with
   |some u=>bif ba2 id big&&(O6 id tm&&O0 id hp)then some ⟨(k,u)::tm,(id,.rows e sz 0 [])::hp⟩else none
   |none=>none
  |none=>none
 | .nb b id e sz path=>match look hp b with
  |some (.box ts)=>match bL3 id path (.agg ts)with
   |some (.agg us)=>bif ba2 id big&&(O6 id tm&&O0 id hp)then some ⟨tm,(id,.rows e sz 0 [])::au9 hp b (.box us)⟩else none
   |_=>none
  |_=>none
 | .rn h=>match h++idn h hp with
  |h'=>bif uniq hp&&cC6 h' then(match cT7 h' (rdT h' (rmv [] tm)),aS4 h' hp with
   |some tm',some hp'=>some ⟨tm',hp'⟩
   |_,_=>none)else none
 | .dr id=>bif uniq hp then some ⟨fgT id (rmv [] tm),fgH id hp⟩else none
inductive U1:Type->Type 1 where
 |ap {α:Type} (enc:α->List Tree) (l r:List α) (id:Nat):U1 (List α)
 |an {α:Type} (enc:α->List Tree) (n:Int) (z:α) (id:Nat):U1 (List α)
 |st {α:Type} (enc:α->List Tree) (l:List α) (i:Int) (y:α) (n:Nat):U1 (List α)
 |sF {α:Type} (enc:α->List Tree) (l:List α) (a b:Int):U1 (List α)
 |sO {α:Type} (enc:α->List Tree) (l:List α) (b:Int) (id:Nat):U1 (List α)
 |cp {α:Type} (enc:α->List Tree) (l r:List α):U1 (List α)
def U1.m:{τ:Type}->U1 τ->Option τ
 |_,.ap _ l r _=>U8 l r
 |_,.an _ n z _=>cW0 n z
 |_,.st _ l i y _=>ak9 l i y
 |_,.sF _ l a b=>ay9 l a b
 |_,.sO _ l b _=>ay9 l 0 b
 |_,.cp _ l r=>some (aJ5 l r)
def U1.k:{τ:Type}->U1 τ->τ->List GF->List GF
 |_,.st enc _ i y _,l,Γ=>⟨enc,l,i,y⟩::Γ
 |_,_,_,Γ=>Γ
def df6 {α:Type}(enc:α->List Tree)(r:List α)(sz:Nat)(hp:List (Nat×H6)):Option T->Tr
 |some (.t (.sl _ rs))=>tq rs (r.map enc)
 |some (.own i2)=>match look hp i2 with
  |some (.rows _ s2 _ rs)=>bif bx3 s2 sz then tq rs (r.map enc)else .bad
  |_=>.bad
 |_=>.bad
def U1.q (D5:Tab)(nt:Nat)(Γ:List GF)(tm:List (Nat×T))(hp:List (Nat×H6))(o:Oper):{τ:Type}->U1 τ->Option (Tr×(τ->St))
 |_,.ap enc l r id=>match o.op,o.dst with
  | .call ⟨.builtin .append,args,tys⟩,some d=>match args.toList,tys.toList with
   |[s,x],[t,t']=>match look D5 t with
    |some ⟨_,.slice e,_⟩=>match look D5 e with
     |some te=>bif bx3 t t'&&ba2 d nt&&bx3 te.zero.length te.size&&ba2 id big&&O6 id (fgT id (rmv [] tm))&&O0 id (fgH id hp)&&uniq hp then
       some (.and (tq (α:=_->Nat) (fun y=>(enc y).length) (fun _=>te.size)) (.and (tq (α:=_->Bool) (fun y=>(enc y).all aQ6) (fun _=>true)) (.and (df6 enc r te.size hp (val tm x)) (match val tm s with
        |some (.own i)=>match look hp i with
         |some (.rows e' sz _ rs)=>bif bx3 i id&&bx3 e' e&&bx3 sz te.size then tq rs (l.map enc)else .bad
         |_=>.bad
        |some (.t (.v (.slice none 0 0)))=>tq l []
        |_=>.bad))),fun y=>⟨(d,.own id)::fgT id (rmv [] tm),(id,.rows e te.size y.length (y.map enc))::fgH id hp⟩)
      else none
     |none=>none
    |_=>none
   |_,_=>none
  |_,_=>none
 |_,.an enc n z id=>match o.op,o.dst with
  | .call ⟨.builtin .append,args,tys⟩,some d=>match args.toList,tys.toList with
   |[s,x],[t,u]=>match look D5 t,look D5 u,val tm s,val tm x with
    |some ⟨_,.slice e,_⟩,some ⟨_,.int _,_⟩,some (.t (.v (.slice none 0 0))),some (.t (.v (.int _ n')))=>match look D5 e with
     |some te=>bif ba2 d nt&&bx3 te.zero.length te.size&&ba2 0 te.size&&ba2 id big&&O6 id tm&&O0 id hp then
       some (.and (tq n' n) (tq (enc z) (te.zero.map fun v=>aE6 (.v v))),fun y=>⟨(d,.own id)::tm,(id,.rows e te.size y.length (y.map enc))::hp⟩)
      else none
     |none=>none
    |_,_,_,_=>none
   |_,_=>none
  |_,_=>none
 |_,.st enc l i y n=>match o.op,o.dst,Γ[n]?with
  | .store t p x,none,some f=>match val tm p,look D5 t,(val tm x).bind (aq9 hp)with
   |some (.pe id i' sz off),some ti,some cs=>match look hp id,trees cs with
    |some (.rows e sz' n' rs),some lt=>bif bx3 sz sz'&&bx3 lt.length ti.size&&dQ0 (off+lt.length) sz then
      some (.and (.eq (.gf ⟨f.enc,f.l,f.i⟩) (.gf ⟨enc,l,i⟩)) (.and (tq (i',rs) (i.toNat,l.map enc)) (.eq (.mk (enc y)) (.mk (bG0 (f.enc f.y) off lt)))),fun l'=>⟨tm,au9 hp id (.rows e sz l'.length (l'.map enc))⟩)
     else none
    |_,_=>none
   |_,_,_=>none
  |_,_,_=>none
 |_,.sF enc l a b=>match o.op,o.dst with
  | .slice t x lo hi none,some d=>match look D5 t,val tm x,cw9 tm 0 lo,cw9 tm l.length hi with
   |some ⟨_,.slice e,_⟩,some (.t (.sl _ rs)),some a',some b'=>match look D5 e with
    |some te=>bif ba2 d nt then some (.and (tq rs (l.map enc)) (.and (tq (a',b') (a,b)) (tq (α:=_->Nat) (fun y=>(enc y).length) (fun _=>te.size))),fun y=>⟨(d,.t (.sl y.length (y.map enc)))::tm,hp⟩)else none
    |none=>none
   |_,_,_,_=>none
  |_,_=>none
 |_,.sO enc l b id=>match o.op,o.dst with
  | .slice t x none hi none,some d=>match look D5 t,val tm x,cw9 tm l.length hi with
   |some ⟨_,.slice e',_⟩,some (.own i),some b'=>match look D5 e',look hp i with
    |some te,some (.rows e sz _ rs)=>bif ba2 d nt&&bx3 te.size sz&&ba2 id big&&O6 id (fgT i (rmv [] tm))&&O0 id (fgH i hp)&&O0 i (fgH i hp)&&uniq hp then
      some (.and (tq rs (l.map enc)) (tq b' b),fun y=>⟨(d,.own id)::fgT i (rmv [] tm),(id,.rows e sz y.length (y.map enc))::fgH i hp⟩)
     else none
    |_,_=>none
   |_,_,_=>none
  |_,_=>none
 |_,.cp enc l r=>match o.op with
  | .call ⟨.builtin .copy,args,tys⟩=>match args.toList,tys.toList with
   |[s,x],[t,_]=>match look D5 t,val tm s,bw5 nt o.dst (.t (.v (.int .i64 (min r.length l.length:Nat)))) ⟨tm,[]⟩with
    |some ⟨_,.slice e',_⟩,some (.own id),some ⟨tm',_⟩=>match look D5 e',look hp id with
     |some te,some (.rows e sz _ rs)=>bif bx3 sz te.size then
       some (.and (tq (α:=_->Nat) (fun y=>(enc y).length) (fun _=>te.size)) (.and (tq (α:=_->Bool) (fun y=>(enc y).all aQ6) (fun _=>true)) (.and (df6 enc r te.size hp (val tm x)) (tq rs (l.map enc)))),fun y=>⟨tm',au9 hp id (.rows e te.size y.length (y.map enc))⟩)
      else none
     |_,_=>none
    |_,_,_=>none
   |_,_=>none
  |_=>none
def U1.qA (D5:Tab)(nt:Nat)(tm:List (Nat×T))(hp:List (Nat×H6))(o:Oper){α:Type}(enc:α->List Tree)(l r:List α)(id:Nat):Option (Tr×(List α->T×Option (Nat×H6))):=
 match o.op,o.dst with
 | .call ⟨.builtin .append,args,tys⟩,some d=>match args.toList,tys.toList with
  |[s,x],[t,t']=>match look D5 t with
   |some ⟨_,.slice e,_⟩=>match look D5 e with
    |some te=>match val tm s,look hp id with
     |some (.t (.v v)),some (.rv v' e' sz n rs)=>bif bx3 t t'&&ba2 d nt&&bx3 te.zero.length te.size&&ba2 id big&&bx3 e' e&&bx3 sz te.size then
       some (.and (tq v v') (.and (tq rs (l.map enc)) (.and (tq (α:=_->Nat) (fun y=>(enc y).length) (fun _=>te.size)) (.and (tq (α:=_->Bool) (fun y=>(enc y).all aQ6) (fun _=>true)) (df6 enc r te.size hp (val tm x))))),fun y=>(.own id,some (id,.rows e te.size y.length (y.map enc))))
      else none
     |_,_=>none
    |none=>none
   |_=>none
  |_,_=>none
 |_,_=>none
def U1.qD (D5:Tab)(nt:Nat)(Γ:List GF)(tm:List (Nat×T))(hp:List (Nat×H6))(o:Oper):{τ:Type}->U1 τ->Option (Tr×(τ->T×Option (Nat×H6)))
 |_,.st enc l i y n=>match(U1.st enc l i y n).q D5 nt Γ tm hp o with
  |some (t,_)=>match o.op,o.dst with
   | .store _ p _,none=>match val tm p with
    |some (.pe id _ sz _)=>match look hp id with
     |some (.rows e _ _ _)=>some (t,fun l'=>(.t (.v undef),some (id,.rows e sz l'.length (l'.map enc))))
     |_=>none
    |_=>none
   |_,_=>none
  |none=>none
 |_,.ap enc l r id=>U1.qA D5 nt tm hp o enc l r id
 |_,_=>none
def mtT:T->T->List (Nat×Nat)
 | .own i,.own j=>[(i,j)]
 | .ptr i _,.ptr j _=>[(i,j)]
 | .pe i _ _ _,.pe j _ _ _=>[(i,j)]
 | .agg l,.agg l'=>mtL l l'
 | .S9 l,.S9 l'=>mtL l l'
 | .clo _ l,.clo _ l'=>mtL l l'
 |_,_=>[]
where mtL:List T->List T->List (Nat×Nat)
 |x::l,y::l'=>mtT x y++mtL l l'
 |_,_=>[]
def eY3 (i:Nat):List (Nat×Nat)->Bool
 |[]=>false
 |p::r=>bif bx3 p.1 i then true else eY3 i r
def dd1:List (Nat×Nat)->List (Nat×Nat)->List (Nat×Nat)
 |[],l=>l
 |p::r,l=>bif eY3 p.1 l then dd1 r l else dd1 r (l++[p])
def mtH (h h':List (Nat×H6)):List (Nat×Nat)->List (Nat×Nat)
 |[]=>[]
 |(i,j)::r=>(match look h i,look h' j with
  |some (.box ts),some (.box us)=>mtT.mtL ts us
  |_,_=>[])++mtH h h' r
def dP1 (aC9:List T)(chp:List (Nat×H6))(targs:List T)(hp:List (Nat×H6)):List (Nat×Nat):=
 match dd1 (mtT.mtL aC9 targs) []with
 |l=>match dd1 (mtH chp hp l) l with
  |l=>dd1 (mtH chp hp l) l
structure Mq (P:Program)(κ ν:Type)where
 beq:BEq κ
 t:Nat
 kt:Nat
 et:Nat
 dk:TypeDesc
 f:κ->Value
 g:ν->Value
 z:ν
 law:@KeyLaw κ beq dk f
 ht:P.underlying t=some (.map kt et)
 hk:P.underlying kt=some dk
 hz:∃ti,P.info? et=some ti/\ti.zero=some (g z)
inductive M (P:Program)(ρ:Type):Type->Type 1 where
 |R {τ:Type} (v:τ):M P ρ τ
 |N {τ:Type}:M P ρ τ
 |I {τ:Type} (b:Bool) (x y:M P ρ τ):M P ρ τ
 |K {β τ:Type} (c:C P β) (f:β->M P ρ τ):M P ρ τ
 |KG {β τ:Type} (c:CG P β) (nm:List Nat) (f:β->M P ρ τ):M P ρ τ
 |O {β τ:Type} (l:L1 β) (f:β->M P ρ τ):M P ρ τ
 |W {τ:Type} (u:W1) (x:M P ρ τ):M P ρ τ
 |U {β τ:Type} (u:U1 β) (f:β->M P ρ τ):M P ρ τ
 |Mk {α τ:Type} (enc:α->List Tree) (n:Int) (z:α) (f:List α->M P ρ τ):M P ρ τ
 |Z (z:Z1) {τ:Type} (x:M P ρ τ):M P ρ τ
 |G {τ:Type} (b:Bool) (x y:M P ρ Bool) (f:Bool->M P ρ τ):M P ρ τ
 |J0 {β τ:Type} (n:Nat) (o:β->List Ch) (x:M P ρ β) (f:β->M P ρ τ):M P ρ τ
 |J {β γ τ:Type} (n:Nat) (o:β->List Ch) (k:Kd ρ γ) (x:M P ρ (β⊕γ)) (f:β->M P ρ τ) (g:γ->M P ρ τ):M P ρ τ
 |JF {S γ:Type} (n:Nat) (o:S->List Ch) (x:M P ρ (Fl S γ)) (i:Int):M P ρ ((Int×S)⊕(S⊕γ))
 |L {S γ τ:Type} (hd:S->List Ch) (N:Nat) (k:Kd ρ γ) (x:S->M P ρ (S⊕(S⊕γ))) (s:S) (f:S->M P ρ τ) (g:γ->M P ρ τ):M P ρ τ
 |LQ {S γ τ:Type} (ri:Nat) (hd:S->List Ch) (N:Nat) (k:Kd ρ γ) (x:Int×S->M P ρ ((Int×S)⊕(S⊕γ))) (s:S) (f:S->M P ρ τ) (g:γ->M P ρ τ):M P ρ τ
 |A {α τ:Type} (enc:α->List Tree) (l:List α) (i:Int) (f:α->M P ρ τ):M P ρ τ
 |B {τ:Type} (x:M P ρ τ):M P ρ τ
 |D {τ:Type} (fz:List Nat) (ws:List (Nat×Nat)) (x:M P ρ τ):M P ρ τ
 |Sp {τ:Type} (b:Bool) (x y:M P ρ τ):M P ρ τ
 |Mm {τ:Type} (id:Nat) (x:M P ρ τ):M P ρ τ
 |Ml {κ ν τ:Type} (m:Mq P κ ν) (l:List (κ×ν)) (k:κ) (x:M P ρ τ):M P ρ τ
 |Mu {κ ν τ:Type} (m:Mq P κ ν) (l:List (κ×ν)) (k:κ) (v:ν) (x:M P ρ τ):M P ρ τ
 |Pn {τ:Type} (id:Nat) (x:M P ρ τ):M P ρ τ
 |Nl {α τ:Type} (enc:α->List Tree) (l:List α) (x:M P ρ τ) (y:List α->M P ρ τ):M P ρ τ
def M.run {P:Program}{ρ:Type}:{τ:Type}->M P ρ τ->Option τ
 |_,.R v=>some v
 |_,.N=>none
 |_,.I b x y=>bif b then x.run else y.run
 |_,.K c f=>c.m.bind fun t=>(f t).run
 |_,.KG c _ f=>c.m.bind fun t=>(f t).run
 |_,.O l f=>l.m.bind fun t=>(f t).run
 |_,.W _ x=>x.run
 |_,.U u f=>u.m.bind fun t=>(f t).run
 |_,.Mk _ n z f=>(aY2 n z).bind fun t=>(f t).run
 |_,.Z _ x=>x.run
 |_,.G b x y f=>(bif b then x.run else y.run).bind fun t=>(f t).run
 |_,.J0 _ _ x f=>x.run.bind fun t=>(f t).run
 |_,.J _ _ _ x f g=>x.run.bind fun t=>match t with| .inl t=>(f t).run| .inr t=>(g t).run
 |_,.JF _ _ x i=>x.run.bind (aE2 i)
 |_,.L _ _ _ x s f g=>(M0 (fun s=>(x s).run) s).bind fun t=>match t with| .inl t=>(f t).run| .inr t=>(g t).run
 |_,.LQ _ _ _ _ x s f g=>(M0 (fun s=>(x s).run) (0,s)).bind fun t=>match t with| .inl t=>(f t).run| .inr t=>(g t).run
 |_,.A _ l i f=>(F0 l i).bind fun t=>(f t).run
 |_,.B x=>x.run
 |_,.D _ _ x=>x.run
 |_,.Sp b x y=>bif b then x.run else y.run
 |_,.Nl _ l _ y=>(y l).run
 |_,.Mm _ x=>x.run
 |_,.Pn _ x=>x.run
 |_,.Ml _ _ _ x=>x.run
 |_,.Mu _ _ _ _ x=>x.run
def M.rn {P:Program}{ρ:Type}(k:Nat):{τ:Type}->M P ρ τ->Option τ
 |_,.R v=>some v
 |_,.N=>none
 |_,.I b x y=>bif b then x.rn k else y.rn k
 |_,.K c f=>(c.e k).bind fun t=>(f t).rn k
 |_,.KG c _ f=>(c.e k).bind fun t=>(f t).rn k
 |_,.O l f=>l.m.bind fun t=>(f t).rn k
 |_,.W _ x=>x.rn k
 |_,.U u f=>u.m.bind fun t=>(f t).rn k
 |_,.Mk _ n z f=>(aY2 n z).bind fun t=>(f t).rn k
 |_,.Z _ x=>x.rn k
 |_,.G b x y f=>(bif b then x.rn k else y.rn k).bind fun t=>(f t).rn k
 |_,.J0 _ _ x f=>(x.rn k).bind fun t=>(f t).rn k
 |_,.J _ _ _ x f g=>(x.rn k).bind fun t=>match t with| .inl t=>(f t).rn k| .inr t=>(g t).rn k
 |_,.JF _ _ x i=>(x.rn k).bind (aE2 i)
 |_,.L _ _ _ x s f g=>(dv2 (fun s=>(x s).rn k) k s).bind fun t=>match t with| .inl t=>(f t).rn k| .inr t=>(g t).rn k
 |_,.LQ _ _ _ _ x s f g=>(dv2 (fun s=>(x s).rn k) k (0,s)).bind fun t=>match t with| .inl t=>(f t).rn k| .inr t=>(g t).rn k
 |_,.A _ l i f=>(F0 l i).bind fun t=>(f t).rn k
 |_,.B x=>x.rn k
 |_,.D _ _ x=>x.rn k
 |_,.Sp b x y=>bif b then x.rn k else y.rn k
 |_,.Nl _ l _ y=>(y l).rn k
 |_,.Mm _ x=>x.rn k
 |_,.Pn _ x=>x.rn k
 |_,.Ml _ _ _ x=>x.rn k
 |_,.Mu _ _ _ _ x=>x.rn k
theorem aZ2 {α β:Type}{a a':Option α}{f g:α->Option β}{r:β}(ha:∀x,a=some x->a'=some x)(hf:∀x r,f x=some r->g x=some r)(h:a.bind f=some r):a'.bind g=some r:=by
 cases a with
 |none=>cases h
 |some x=>rw[ha x rfl];exact hf x r h
theorem M.le {P:Program}{ρ:Type}(k:Nat):∀{τ:Type} (x:M P ρ τ) (r:τ),x.rn k=some r->x.run=some r
 |_,.R v,r,h=>h
 |_,.N,r,h=>h
 |_,.I b x y,r,h=>by
  cases b
  ·exact M.le k y r h
  ·exact M.le k x r h
 |_,.K c f,r,h=>aZ2 (fun y hy=>c.le k y hy) (fun y r hy=>M.le k (f y) r hy) h
 |_,.KG c _ f,r,h=>aZ2 (fun y hy=>c.le k y hy) (fun y r hy=>M.le k (f y) r hy) h
 |_,.O l f,r,h=>aZ2 (fun y hy=>hy) (fun y r hy=>M.le k (f y) r hy) h
 |_,.W _ x,r,h=>M.le k x r h
 |_,.U l f,r,h=>aZ2 (fun y hy=>hy) (fun y r hy=>M.le k (f y) r hy) h
 |_,.Mk _ _ _ f,r,h=>aZ2 (fun y hy=>hy) (fun y r hy=>M.le k (f y) r hy) h
 |_,.Z _ x,r,h=>M.le k x r h
 |_,.G b x y f,r,h=>aZ2 (fun z hz=>by
   cases b
   ·exact M.le k y z hz
   ·exact M.le k x z hz) (fun y r hy=>M.le k (f y) r hy) h
 |_,.J0 _ _ x f,r,h=>aZ2 (fun z hz=>M.le k x z hz) (fun y r hy=>M.le k (f y) r hy) h
 |_,.J _ _ _ x f g,r,h=>by
  rw[M.rn]at h
  rw[M.run]
  refine aZ2 (fun z hz=>M.le k x z hz) (fun y r hy=>?_) h
  cases y with
  |inl y=>exact M.le k (f y) r hy
  |inr y=>exact M.le k (g y) r hy
 |_,.JF _ _ x i,r,h=>aZ2 (fun z hz=>M.le k x z hz) (fun y r hy=>hy) h
 |_,.L _ _ _ x s f g,r,h=>by
  rw[M.rn]at h
  rw[M.run]
  refine aZ2 (fun z hz=>aV1.2 (cQ8 (fun s f hf=>M.le k (x s) f hf) hz)) (fun y r hy=>?_) h
  cases y with
  |inl y=>exact M.le k (f y) r hy
  |inr y=>exact M.le k (g y) r hy
 |_,.LQ _ _ _ _ x s f g,r,h=>by
  rw[M.rn]at h
  rw[M.run]
  refine aZ2 (fun z hz=>aV1.2 (cQ8 (fun s f hf=>M.le k (x s) f hf) hz)) (fun y r hy=>?_) h
  cases y with
  |inl y=>exact M.le k (f y) r hy
  |inr y=>exact M.le k (g y) r hy
 |_,.A _ _ _ f,r,h=>aZ2 (fun y hy=>hy) (fun y r hy=>M.le k (f y) r hy) h
 |_,.B x,r,h=>M.le k x r h
 |_,.D _ _ x,r,h=>M.le k x r h
 |_,.Sp b x y,r,h=>by
  cases b
  ·exact M.le k y r h
  ·exact M.le k x r h
 |_,.Nl _ l _ y,r,h=>M.le k (y l) r h
 |_,.Mm _ x,r,h=>M.le k x r h
 |_,.Pn _ x,r,h=>M.le k x r h
 |_,.Ml _ _ _ x,r,h=>M.le k x r h
 |_,.Mu _ _ _ _ x,r,h=>M.le k x r h
def dk7 {ρ:Type}(Qf:ρ->St->Tr):Cg ρ->Out ρ->Tr
 | .S [] σ,.nx σ₁=>dA1 σ₁ σ
 | .S [] σ,.top r=>Qf r σ
 | .S (.c .ret::_) σ,.rt r=>Qf r σ
 | .S (.c .ret::_) σ,.top r=>Qf r σ
 | .X id σ,.ex id' σ₁=>bif bx3 id id' then dA1 σ₁ σ else .bad
 | .R r,.rt r'=>tq r r'
 | .R r,.top r'=>tq r r'
 |_,_=>.bad
def eC2 (all:List Oper)(tm:List (Nat×T))(ops:List Oper):Option (Nat×Bool×List Oper×Nat×List Oper):=match ops with
 |[]=>none
 |o::_=>match o.guard with
  |none=>none
  |some (j,_)=>match all[j]?with
   |none=>none
   |some oj=>match oj.dst with
    |none=>none
    |some d=>match look tm d,cut d ops with
     |some (.t (.v (.bool b))),some (g,q,_,r)=>some (d,b,g,q,r)
     |_,_=>none
def M.isJ {P:Program}{ρ:Type}:{τ:Type}->M P ρ τ->Bool
 |_,.J0 0 _ _ _=>true
 |_,.J 0 _ _ _ _ _=>true
 |_,.B _=>true
 |_,.Z _ x=>x.isJ
 |_,.Pn _ x=>x.isJ
 |_,.D _ _ x=>x.isJ
 |_,_=>false
def M.isD {P:Program}{ρ:Type}:{τ:Type}->M P ρ τ->Bool
 |_,.Z _ x=>x.isD
 |_,.Pn _ _=>true
 |_,.D _ _ _=>true
 |_,.J0 (_+1) _ _ _=>true
 |_,_=>false
def dL2:List Nat->List Nat->List (Nat×Nat)
 |x::l,y::l'=>(x,y)::dL2 l l'
 |_,_=>[]
def M.chk {P:Program}{ρ:Type}(Ev:EqV P)(D5:Tab)(nt:Nat)(Qf:ρ->St->Tr):{τ:Type}->M P ρ τ->List GF->Cg ρ->(τ->Out ρ)->Tr
 |_,.R v,_,c,o=>dk7 Qf (av D5 nt true true fuel c) (o v)
 |_,.N,_,_,_=>.ok
 |_,.I b x y,Γ,c,o=>match av D5 nt true true fuel c with
  | .S (.c (.cond q z w)::ks) σ=>match val σ.tm q with
   |some (.t (.v (.bool b')))=>.and (tq b' b) (.and (x.chk Ev D5 nt Qf Γ (.S (.c z::ks) σ) o) (y.chk Ev D5 nt Qf Γ (.S (.c w::ks) σ) o))
   |_=>.bad
  |_=>.bad
 |_,.K f x,Γ,c,o=>match here (av D5 nt true true fuel c)with
  |some (all,kb,q,tm,hp,_,nx)=>match gk all.toList kb tm q.guard,cN0 tm hp q with
   |some true,some (n,l,s,d)=>bif ba2 d nt then
     .and (tq (n,l) (f.n,f.args)) (.and (bif s then tq (α:=_->Bool) (fun t=>scalar (f.res t)) (fun _=>true)else .ok) (.all fun t=>(x t).chk Ev D5 nt Qf Γ (nx (f.res t) none) o))
    else .bad
   |_,_=>.bad
  |none=>.bad
 |_,.KG f nm x,Γ,c,o=>match av D5 nt true true fuel c with
  | .O all kb (q::r) ks ⟨tm,hp⟩=>match gk all.toList kb tm q.guard,bD7 tm q,q.dst with
   |some true,some (n,targs),some d=>match dP1 f.args f.hp targs hp with
    |lm=>match bU0 lm f.args,aS4 lm f.hp with
     |some ao0,some aP2=>bif bx3 n f.n&&ba2 d nt&&bp7 lm (dL2 f.nw nm) tm hp then
       .and (tq (bB6 targs ao0) ao0) (.and (tq (aP2.map (bF3 hp)) (aP2.map fun p=>some p.2)) (.all fun t=>match aN6 (lm++dL2 f.nw nm) (f.res t),aS4 (lm++dL2 f.nw nm) (f.hp' t)with
        |some rt,some rh=>(x t).chk Ev D5 nt Qf Γ (.O all kb r ks ⟨(d,rt)::tm,rh++ar3 lm hp⟩) o
        |_,_=>.bad))
      else .bad
     |_,_=>.bad
   |_,_,_=>.bad
  | .D id all h bs ws ops vs tm0 hp0 fz kb ks=>match here (ρ:=ρ) (.D id all h bs ws ops vs tm0 hp0 fz kb ks)with
   |some (all,kb,q,tm,hp,_,nx)=>match gk all.toList kb tm q.guard,bD7 tm q,q.dst with
    |some true,some (n,targs),some d=>match nm with
     |[c]=>match f.hp,look hp c with
      |[],_=>match bU0 [] f.args with
       |some ao0=>bif bx3 n f.n&&ba2 d nt&&ba2 c big then
         .and (tq (bB6 targs ao0) ao0) (.all fun t=>match f.hp' t with
          |[(r1,.rows e2 sz2 n2 rs2)]=>match aN6 [(r1,c)] (f.res t)with
           |some rt=>(x t).chk Ev D5 nt Qf Γ (nx rt (some (c,.rows e2 sz2 n2 rs2))) o
           |none=>.bad
          |_=>.bad)
        else .bad
       |none=>.bad
      |[(b1,.rows e sz n1 rs)],some (.rv v' e' sz' n1' rs')=>bif bx3 n f.n&&ba2 d nt&&ba2 c big&&dw9 b1 f.args then
        .and (tq (bB6 targs (aY8 b1 (.t (.v v')) f.args)) (aY8 b1 (.t (.v v')) f.args)) (.and (tq (e,sz,n1,rs) (e',sz',n1',rs')) (.all fun t=>match f.hp' t with
         |[(r1,.rows e2 sz2 n2 rs2)]=>match aN6 [(r1,c)] (f.res t)with
          |some rt=>(x t).chk Ev D5 nt Qf Γ (nx rt (some (c,.rows e2 sz2 n2 rs2))) o
          |none=>.bad
         |_=>.bad))
       else .bad
      |_,_=>.bad
     |_=>match dP1 f.args f.hp targs hp with
     |lm=>match bU0 lm f.args,aS4 lm f.hp with
      |some ao0,some aP2=>bif bx3 n f.n&&ba2 d nt&&bp7 lm [] [] []&&lm.all (fun p=>(look aP2 p.2).isSome)then
        .and (tq (bB6 targs ao0) ao0) (.and (tq (aP2.map fun p=>look hp p.1) (aP2.map fun p=>some p.2)) (.all fun t=>.and (tq (f.hp' t) f.hp) (match aN6 lm (f.res t)with
         |some rt=>(x t).chk Ev D5 nt Qf Γ (nx rt none) o
         |none=>.bad)))
       else .bad
      |_,_=>.bad
    |_,_,_=>.bad
   |none=>.bad
  |_=>.bad
 |_,.O l x,Γ,c,o=>match here (av D5 nt true true fuel c)with
  |some (all,kb,q,tm,hp,_,nx)=>match gk all.toList kb tm q.guard,l.q D5 tm hp q.op,q.dst with
   |some true,some (t,res),some d=>bif ba2 d nt then .and t (.all fun y=>(x y).chk Ev D5 nt Qf (l.k y Γ) (nx (res y) none) o)else .bad
   |_,_,_=>.bad
  |none=>.bad
 |_,.W u x,Γ,c,o=>match here (av D5 nt true true fuel c)with
  |some (all,kb,q,tm,hp,_,nx)=>match gk all.toList kb tm q.guard,u.q Ev D5 Γ tm hp q.op,q.dst with
   |some true,some (t,V),some d=>bif ba2 d nt then .and t (x.chk Ev D5 nt Qf Γ (nx V none) o)else .bad
   |_,_,_=>.bad
  |none=>.bad
 |_,.U u x,Γ,c,o=>match av D5 nt true true fuel c with
  | .O all kb (q::r) ks ⟨tm,hp⟩=>match gk all.toList kb tm q.guard,u.q D5 nt Γ tm hp q with
   |some true,some (t,σ)=>.and t (.all fun y=>(x y).chk Ev D5 nt Qf (u.k y Γ) (.O all kb r ks (σ y)) o)
   |_,_=>.bad
  | .D id all h bs ws ops vs tm0 hp0 fz kb ks=>match here (ρ:=ρ) (.D id all h bs ws ops vs tm0 hp0 fz kb ks)with
   |some (all,kb,q,tm,hp,_,nx)=>match gk all.toList kb tm q.guard,u.qD D5 nt Γ tm hp q with
    |some true,some (t,f)=>.and t (.all fun y=>(x y).chk Ev D5 nt Qf (u.k y Γ) (nx (f y).1 (f y).2) o)
    |_,_=>.bad
   |none=>.bad
  |_=>.bad
 |_,.Mk enc n z x,Γ,c,o=>match here (av D5 nt true true fuel c)with
  |some (all,kb,q,tm,hp,fz,nx)=>match gk all.toList kb tm q.guard,q.op,q.dst with
   |some true,.makeSlice t a b,some d=>match val tm a,val tm b,look D5 t with
    |some (.t (.v (.int k n'))),some (.t (.v (.int k2 n2))),some ⟨_,.slice e,_⟩=>match look D5 e with
     |some te=>bif ba2 d nt&&bx3 te.zero.length te.size&&ba2 0 te.size&&ba2 d big&&O6 d tm&&O0 d hp then
       .and (tq (n',k2,n2) (n,k,n)) (.and (tq (enc z) (te.zero.map fun v=>aE6 (.v v))) (.all fun y=>(x y).chk Ev D5 nt Qf Γ (bif aD8 d fz then nx (.t (.sl y.length (y.map enc))) none else nx (.own d) (some (d,.rows e te.size y.length (y.map enc)))) o))
      else .bad
     |none=>.bad
    |_,_,_=>.bad
   |_,_,_=>.bad
  |none=>.bad
 |_,.Z z x,Γ,c,o=>match av D5 nt (!x.isJ) (!x.isD) fuel c with
  | .S ks ⟨tm,hp⟩=>match z.ap tm hp with
   |some σ=>x.chk Ev D5 nt Qf Γ (.S ks σ) o
   |none=>.bad
  | .O all kb ops ks ⟨tm,hp⟩=>match z.ap tm hp with
   |some σ=>x.chk Ev D5 nt Qf Γ (.O all kb ops ks σ) o
   |none=>.bad
  | .X id ⟨tm,hp⟩=>match z.ap tm hp with
   |some σ=>x.chk Ev D5 nt Qf Γ (.X id σ) o
   |none=>.bad
  |_=>.bad
 |_,.G b x y f,Γ,c,o=>match av D5 nt true true fuel c with
  | .O all kb ops ks ⟨tm,hp⟩=>match eC2 all.toList tm ops with
   |some (d,b',g,q,r)=>.and (tq b' b) (.and (x.chk Ev D5 nt Qf Γ (.O all (d::kb) g [] ⟨(d,.t (.v (.bool true)))::tm,hp⟩) (fun v=>.nx ⟨(q,.t (.v (.bool v)))::rmv (d::q::aV9 g) tm,hp⟩))
     (.and (y.chk Ev D5 nt Qf Γ (.O all (d::kb) g [] ⟨(d,.t (.v (.bool false)))::tm,hp⟩) (fun v=>.nx ⟨(q,.t (.v (.bool v)))::rmv (d::q::aV9 g) tm,hp⟩))
     (.all fun v=>(f v).chk Ev D5 nt Qf Γ (.O all kb r ks ⟨(q,.t (.v (.bool v)))::rmv (d::q::aV9 g) tm,hp⟩) o)))
   |none=>.bad
  |_=>.bad
 |_,.J0 n s x f,Γ,c,o=>match(match n with|0=>av D5 nt false true fuel c|_=>av D5 nt true false fuel c)with
  | .S (.c z::ks) σ=>.and (x.chk Ev D5 nt Qf Γ (.S [.c z] σ) (fun v=>.nx (upd (s v) ⟨rmv (ak3 z) σ.tm,σ.hp⟩))) (.all fun v=>(f v).chk Ev D5 nt Qf Γ (.S ks (upd (s v) ⟨rmv (ak3 z) σ.tm,σ.hp⟩)) o)
  |_=>.bad
 |_,.J n s k x f g,Γ,c,o=>match(match n with|0=>av D5 nt false true fuel c|n=>av D5 nt true true n c)with
  | .S (.c z::ks) σ=>.and (x.chk Ev D5 nt Qf Γ (.S [.c z] σ) (fun v=>match v with| .inl v=>.nx (upd (s v) ⟨rmv (ak3 z) σ.tm,σ.hp⟩)| .inr w=>de6 ⟨rmv (ak3 z) σ.tm,σ.hp⟩ (k.sh w)))
    (.and (.all fun v=>(f v).chk Ev D5 nt Qf Γ (.S ks (upd (s v) ⟨rmv (ak3 z) σ.tm,σ.hp⟩)) o) (k.all fun w sh=>(g w).chk Ev D5 nt Qf Γ (cont ks ⟨rmv (ak3 z) σ.tm,σ.hp⟩ sh) o))
  |_=>.bad
 |_,.JF n s x i,Γ,c,o=>match av D5 nt true true n c with
  | .S (.c z::ks) σ=>bif noE ks then .and (x.chk Ev D5 nt Qf Γ (.S [.c z] σ) (fun v=>match v with| .next v=>.nx (upd (s v) ⟨rmv (ak3 z) σ.tm,σ.hp⟩)| .brk v=>eE0 (o (.inr (.inl v)))| .ret w=>eE0 (o (.inr (.inr w)))))
    (.all fun v=>dk7 Qf (av D5 nt true true fuel (.S ks (upd (s v) ⟨rmv (ak3 z) σ.tm,σ.hp⟩))) (o (.inl (o6 (i+1),v))))else .bad
  |_=>.bad
 |_,.L hd nx k x s₀ f g,Γ,c,o=>match av D5 nt true true fuel c with
  | .S (.c (.loop z)::ks) σ=>.and (dA1 (upd (hd s₀) ⟨rmv (ak3 z) σ.tm,σ.hp⟩) σ)
    (.and (.all fun a=>(x a).chk Ev D5 nt Qf Γ (.S [.c z] (upd (hd a) ⟨rmv (ak3 z) σ.tm,σ.hp⟩)) (fun v=>match v with| .inl a'=>.nx (upd (hd a') ⟨rmv (ak3 z) σ.tm,σ.hp⟩)| .inr (.inl a')=>.ex nx (upd (hd a') ⟨rmv (ak3 z) σ.tm,σ.hp⟩)| .inr (.inr w)=>eq1 ⟨rmv (ak3 z) σ.tm,σ.hp⟩ (k.sh w)))
    (.and (.all fun a=>(f a).chk Ev D5 nt Qf Γ (cont ks ⟨rmv (ak3 z) σ.tm,σ.hp⟩ (.ex nx (hd a))) o) (k.all fun w sh=>(g w).chk Ev D5 nt Qf Γ (cont ks ⟨rmv (ak3 z) σ.tm,σ.hp⟩ sh) o)))
  |_=>.bad
 |_,.LQ ri hd nx k x s₀ f g,Γ,c,o=>match av D5 nt true true fuel c with
  | .S (.c (.loop z)::ks) σ=>.and (dA1 (upd (.t ri (.t (tI 0))::hd s₀) ⟨rmv (ak3 z) σ.tm,σ.hp⟩) σ)
    (.and (.all fun a=>(x a).chk Ev D5 nt Qf Γ (.S [.c z] (upd (.t ri (.t (tI a.1))::hd a.2) ⟨rmv (ak3 z) σ.tm,σ.hp⟩)) (fun v=>match v with| .inl a'=>.nx (upd (.t ri (.t (tI a'.1))::hd a'.2) ⟨rmv (ak3 z) σ.tm,σ.hp⟩)| .inr (.inl a')=>.ex nx (upd (hd a') ⟨rmv (ak3 z) σ.tm,σ.hp⟩)| .inr (.inr w)=>eq1 ⟨rmv (ak3 z) σ.tm,σ.hp⟩ (k.sh w)))
    (.and (.all fun a=>(f a).chk Ev D5 nt Qf Γ (cont ks ⟨rmv (ak3 z) σ.tm,σ.hp⟩ (.ex nx (hd a))) o) (k.all fun w sh=>(g w).chk Ev D5 nt Qf Γ (cont ks ⟨rmv (ak3 z) σ.tm,σ.hp⟩ sh) o)))
  |_=>.bad
 |_,.A enc l i f,Γ,c,o=>.all fun y=>(f y).chk Ev D5 nt Qf (⟨enc,l,i,y⟩::Γ) c o
 |_,.B x,Γ,c,o=>match av D5 nt false true fuel c with
  | .S (.c (.block id z)::ks) σ=>x.chk Ev D5 nt Qf Γ (.S (.c z:: .e id::ks) σ) o
  |_=>.bad
 |_,.D fz ws x,Γ,c,o=>match av D5 nt (!x.isJ) false fuel c with
  | .S (.c (.region id ops true)::ks) σ=>x.chk Ev D5 nt Qf Γ (.D id ops (tlH (bm7 ops.toList []) 0) (bm7 ops.toList []) (dw0 fz 0 (ops.toList.take (tlH (bm7 ops.toList []) 0))++ws) ops.toList [] (rmv (aV9 (ops.toList.take (tlH (bm7 ops.toList []) 0))) σ.tm) σ.hp fz [] ks) o
  |_=>.bad
 |_,.Sp b x y,Γ,c,o=>match av D5 nt true true fuel c with
  | .D id all h bs ws (q::r) vs tm0 hp0 fz kb ks=>match eT7 q vs with
   |some (j,b')=>.and (tq b' b) (.and (x.chk Ev D5 nt Qf Γ (.D id all h bs ws (q::r) (dJ7 (.t (.v (.bool true))) j vs) tm0 hp0 fz (kbD all j kb) ks) o) (y.chk Ev D5 nt Qf Γ (.D id all h bs ws (q::r) (dJ7 (.t (.v (.bool false))) j vs) tm0 hp0 fz (kbD all j kb) ks) o))
   |none=>.bad
  | .O all kb (q::r) ks ⟨tm,hp⟩=>match eT6 all.toList tm q with
   |some (d,b')=>.and (tq b' b) (.and (x.chk Ev D5 nt Qf Γ (.O all (d::kb) (q::r) ks ⟨(d,.t (.v (.bool true)))::tm,hp⟩) o) (y.chk Ev D5 nt Qf Γ (.O all (d::kb) (q::r) ks ⟨(d,.t (.v (.bool false)))::tm,hp⟩) o))
   |none=>.bad
  |_=>.bad
 |_,.Nl enc l x y,Γ,c,o=>match av D5 nt true true fuel c with
  | .O all kb (q::r) ks ⟨tm,hp⟩=>match gk all.toList kb tm q.guard,q.op,q.dst with
   |some true,.binOp .eql t z (.const (.slice none 0 0)) _,some d=>match look D5 t,val tm z with
    |some ⟨_,.slice _,_⟩,some (.t (.sl _ rs))=>bif ba2 d nt then
      .and (tq rs (l.map enc)) (.and (tq x.run (y []).run) (.and (x.chk Ev D5 nt Qf Γ (.O all kb r ks ⟨(d,.t (.v (.bool true)))::tm,hp⟩) o) ((y l).chk Ev D5 nt Qf Γ (.O all kb r ks ⟨(d,.t (.v (.bool false)))::tm,hp⟩) o)))
     else .bad
    |_,_=>.bad
   |_,_,_=>.bad
  |_=>.bad
 |_,.Pn id x,Γ,c,o=>match av D5 nt (!x.isJ) false fuel c with
  | .S ks ⟨tm,hp⟩=>match look hp id with
   |some (.rows e sz n rs)=>.all fun v:Value=>x.chk Ev D5 nt Qf Γ (.S ks ⟨cq3 id (.t (.v v)) tm,(id,.rv v e sz n rs)::bo5 id (.t (.v v)) hp⟩) o
   |_=>.bad
  |_=>.bad
 |_,.Mm id x,Γ,c,o=>match av D5 nt true true fuel c with
  | .O all kb (q::r) ks ⟨tm,hp⟩=>match gk all.toList kb tm q.guard,q.op,q.dst with
   |some true,.makeMap _ none,some d=>bif ba2 d nt&&(ba2 id big&&(O6 id tm&&O0 id hp))then x.chk Ev D5 nt Qf Γ (.O all kb r ks ⟨(d,.own id)::tm,(id,.mp [])::hp⟩) o else .bad
   |_,_,_=>.bad
  |_=>.bad
 |_,.Ml m l k x,Γ,c,o=>match av D5 nt true true fuel c with
  | .O all kb (q::r) ks ⟨tm,hp⟩=>match gk all.toList kb tm q.guard,q.op,q.dst with
   |some true,.lookup t a b false,some d=>match val tm a,val tm b with
    |some (.own id),some (.t (.v kv))=>match look hp id with
     |some (.mp es)=>bif ba2 d nt then .and (tq (t,es,kv) (m.t,l.map (ent m.f m.g),m.f k)) (x.chk Ev D5 nt Qf Γ (.O all kb r ks ⟨(d,.t (.v (m.g (@cQ9 _ _ m.beq m.z l k))))::tm,hp⟩) o)else .bad
     |_=>.bad
    |_,_=>.bad
   |_,_,_=>.bad
  |_=>.bad
 |_,.Mu m l k v x,Γ,c,o=>match av D5 nt true true fuel c with
  | .O all kb (q::r) ks ⟨tm,hp⟩=>match gk all.toList kb tm q.guard,q.op,q.dst with
   |some true,.mapUpdate t a b u,none=>match val tm a,val tm b,val tm u with
    |some (.own id),some (.t (.v kv)),some (.t (.v uv))=>match look hp id with
     |some (.mp es)=>.and (tq (t,es,kv,uv) (m.t,l.map (ent m.f m.g),m.f k,m.g v)) (x.chk Ev D5 nt Qf Γ (.O all kb r ks ⟨tm,au9 hp id (.mp ((@dl2 _ _ m.beq l k v).map (ent m.f m.g)))⟩) o)
     |_=>.bad
    |_,_,_=>.bad
   |_,_,_=>.bad
  |_=>.bad
abbrev M.Q {P:Program}{ρ α S γ τ:Type}(enc:α->List Tree)(l:List α)(n ri:Nat)(hd:S->List Ch)(ex:Nat)(k:Kd ρ γ)(x:Int->α->S->M P ρ (Fl S γ))(s:S)(f:S->M P ρ τ)(g:γ->M P ρ τ):M P ρ τ:=
 .LQ ri hd ex k (fun p=>.I (decide (p.1<l.length)) (.A enc l p.1 fun e=>.JF n hd (x p.1 e p.2) p.1) (.R (.inr (.inl p.2)))) s f g
abbrev M.QN {P:Program}{ρ S γ τ:Type}(m:Int)(n ri:Nat)(hd:S->List Ch)(ex:Nat)(k:Kd ρ γ)(x:Int->S->M P ρ (Fl S γ))(s:S)(f:S->M P ρ τ)(g:γ->M P ρ τ):M P ρ τ:=
 .LQ ri hd ex k (fun p=>.I (decide (p.1<m)) (.JF n hd (x p.1 p.2) p.1) (.R (.inr (.inl p.2)))) s f g
theorem eD5 (t:T):mrg t .any= .any:=by cases t<;>simp only[mrg]
theorem dP4 (id:Nat):∀(l:List T),bB6 l (fgL id l)=fgL id l
 |[]=>by simp only[bB6,fgL]
 |x::l=>by
  simp only[fgL,bB6,dP4 id l]
  cases names id x<;>simp only[fh5,fh3,eD5,cn8]
theorem eD6 (id:Nat)(b:H6):cn7 b (fgB id b)=fgB id b:=by
 cases b<;>simp only[fgB,cn7,dP4]
theorem bV1:∀{l₁ l:List (Nat×T)},(∀k t,(k,t)∈l₁->∃t',look l k=some t'/\mrg t' t=t)->eu8 l₁ l
 |[],_,_=>trivial
 |(k,t)::r,l,h=>⟨h k t (bL5 ..),bV1 fun k t hm=>h k t (bO9 _ hm)⟩
theorem bV0:∀{l₁ l:List (Nat×H6)},(∀k t,(k,t)∈l₁->∃t',look l k=some t'/\cn7 t' t=t)->eu7 l₁ l
 |[],_,_=>trivial
 |(k,t)::r,l,h=>⟨h k t (bL5 ..),bV0 fun k t hm=>h k t (bO9 _ hm)⟩
theorem cI6:∀{tm:List (Nat×T)}{ds:List Nat}{k:Nat}{t:T},(k,t)∈rmv ds tm->aD8 k ds=false/\look tm k=some t
 |[],_,_,_,h=>by cases h
 |(j,x)::r,ds,k,t,h=>by
  unfold rmv at h
  cases hj:aD8 j ds<;>rw[hj]at h<;>simp only[fh5,fh3]at h
  ·rcases cr6.1 h with h|h
   ·cases h;exact⟨hj,by simp[look]⟩
   ·obtain⟨h1,h2⟩:=cI6 h
    obtain⟨h3,h4⟩:=bs9.1 h1
    exact⟨h4,by rw[J8 h3];exact h2⟩
  ·obtain⟨h1,h2⟩:=cI6 h
   have hjk:j≠k:=fun e=>by subst e;rw[hj]at h1;cases h1
   exact⟨h1,by rw[J8 hjk];exact h2⟩
theorem dj4 {id:Nat}:∀{tm:List (Nat×T)}{k:Nat}{t:T},(k,t)∈fgT id tm->(k,t)∈tm
 |[],_,_,h=>by cases h
 |(j,x)::r,k,t,h=>by
  unfold fgT at h
  cases hj:names id x<;>rw[hj]at h<;>simp only[fh5,fh3]at h
  ·rcases cr6.1 h with h|h
   ·cases h;exact bL5 ..
   ·exact bO9 _ (dj4 h)
  ·exact bO9 _ (dj4 h)
theorem dm7 {h:List (Nat×Nat)}:∀{tm:List (Nat×T)}{k:Nat}{t:T},(k,t)∈rdT h tm->(k,t)∈tm
 |[],_,_,hm=>by cases hm
 |(j,x)::r,k,t,hm=>by
  unfold rdT at hm
  split at hm
  ·rcases cr6.1 hm with hm|hm
   ·cases hm;exact bL5 ..
   ·exact bO9 _ (dm7 hm)
  ·exact bO9 _ (dm7 hm)
theorem cV6:∀{h:List (Nat×H6)}{k:Nat}{b:H6},uniq h=true->(k,b)∈h->look h k=some b
 |[],_,_,_,h=>by cases h
 |(j,c)::r,k,b,hu,hm=>by
  simp only[uniq,au2,Option.isNone_iff_eq_none]at hu
  rcases cr6.1 hm with e|hm
  ·cases e;simp[look]
  ·have:=cV6 hu.2 hm
   have hne:j≠k:=fun e=>by subst e;rw[hu.1]at this;cases this
   rw[J8 hne];exact this
theorem dj3 {id:Nat}:∀{h:List (Nat×H6)}{k:Nat}{c:H6},(k,c)∈fgH id h->∃b,(k,b)∈h/\c=fgB id b
 |[],_,_,h=>by cases h
 |(j,x)::r,k,c,h=>by
  unfold fgH at h
  cases hj:bx3 j id<;>rw[hj]at h<;>simp only[fh5,fh3]at h
  ·rcases cr6.1 h with h|h
   ·cases h;exact⟨x,bL5 ..,rfl⟩
   ·obtain⟨b,h1,h2⟩:=dj3 h
    exact⟨b,bO9 _ h1,h2⟩
  ·obtain⟨b,h1,h2⟩:=dj3 h
   exact⟨b,bO9 _ h1,h2⟩
theorem dj5 {id:Nat}{tm:List (Nat×T)}{hp:List (Nat×H6)}(hu:uniq hp=true):Sub ⟨fgT id (rmv [] tm),fgH id hp⟩ ⟨tm,hp⟩:=
 ⟨bV1 fun k t hm=>⟨t,(cI6 (dj4 hm)).2,cn8 t⟩,bV0 fun k t hm=>by
  obtain⟨b,h1,rfl⟩:=dj3 hm
  exact⟨b,cV6 hu h1,eD6 id b⟩⟩
def bh1 {ρf ρ:Type}(X:Cx)(Qf:ρf->St->Prop)(c:Cg ρf)(m:Option ρ)(Q:ρ->Exit->St->Prop):Prop:=match c with
 | .S ks σ=>F9 X ks σ m Q
 | .O all _ ops ks σ=>C3 X all ops ks σ m Q
 | .D id all _ bs ws ops vs tm0 hp0 _ _ ks=>ops=all.toList.drop vs.length->bs=bm7 all.toList []->cr9 X all bs ws tm0 hp0 vs->F9 X (.c (.region id all true)::ks) ⟨tm0,hp0⟩ m Q
 | .X id σ=>ad0 X [] (.exit id) σ m Q
 | .R r=>∀v,m=some v->∀σ',Qf r σ'->Q v .ret σ'
section
variable {ρ τ β:Type} {X:Cx} {Qp:ρ -> St -> Prop} {m:Option τ} {Q:τ -> Exit -> St -> Prop}
theorem bh1.pre {c:Cg ρ}{m₁:Option β}{k:β->Option τ}(h:∀y,m₁=some y->bh1 X Qp c (k y) Q):bh1 X Qp c (m₁.bind k) Q:=by
 cases hm:m₁ with
 |some y=>exact h y hm
 |none=>
  cases c with
  |S ks σ=>exact F9.fail
  |O all kb ops ks σ=>exact C3.fail
  |D=>exact fun _ _ _=>F9.fail
  |X id σ=>exact fun r hr=>by cases hr
  |R r=>exact fun v hv=>by cases hv
theorem cr9.snoc {all:Array Oper}{bs:List (List Nat)}{ws:List (Nat×Nat)}{tm0:List (Nat×T)}{hp0:List (Nat×H6)}{vs:List (T×Option (Nat×H6))}{V:T}{N:Option (Nat×H6)}{o:Oper}{b:List Nat}(h:cr9 X all bs ws tm0 hp0 vs)(ho:all.toList[vs.length]? =some o)(hb:bs[vs.length]? =some b)
  (hs:aj4 X all o (minOf all.toList (vs.map (·.1)) tm0 (aX9 o)) (dY6 bs ws vs hp0 vs.length b) V N):cr9 X all bs ws tm0 hp0 (vs++[(V,N)]):=by
 intro i V' N' o' b' hi ho' hb'
 rw[List.getElem?_append]at hi
 split at hi
 ·rename_i hlt
  have:=h i V' N' o' b' hi ho' hb'
  rw[List.take_append_of_le_length (by omega)]
  exact this
 ·rename_i hge
  have hi0:i-vs.length=0:=by
   rcases dS1 (i-vs.length)with h0|h0
   ·exact h0
   ·rw[ed6 (Nat.succ_le_of_lt h0)]at hi;cases hi
  have hil:i=vs.length:=by omega
  subst hil
  rw[hi0]at hi
  simp only[cZ9,aj7,aX2]at hi
  obtain⟨rfl,rfl⟩:=hi
  rw[ho]at ho';cases ho'
  rw[hb]at hb';cases hb'
  rw[List.take_left' rfl]
  exact hs
theorem cO9 {D5:Tab}{tm:List (Nat×T)}{hp:List (Nat×H6)}{o:Oper}{t:T}{σ':St}(hi:aR9 o.op=true)(he:evalOp D5 ⟨tm,hp⟩ o=some (t,σ')):
  ∃d b,o.dst=some d/\σ'=⟨tm,(d,b)::hp⟩/\((∃ts,b= .box ts)\/t= .own d):=by
 rw[aU3]at he
 obtain⟨dst,op,type,pos,aft,guard⟩:=o
 cases op<;>simp only[aR9,reduceCtorEq]at hi<;>simp only[bl7]at he
 case alloc e=>
  cases dst with
  |none=>simp at he
  |some d=>
   cases hti:look D5 e with
   |none=>simp[hti]at he
   |some ti=>
    simp only[hti]at he
    revert he
    cases(ba2 d big&&O6 d tm&&O0 d hp&&ti.zero.all Value.oneCell')<;>intro he<;>simp only[fh5,fh3,reduceCtorEq,aj7,aX2]at he
    exact⟨d,_,rfl,he.2.symm,.inl ⟨_,rfl⟩⟩
 case box e x=>
  cases dst with
  |none=>simp at he
  |some d=>
   cases hl:(val tm x).bind (aq9 hp)with
   |none=>simp[hl]at he
   |some l=>
    simp only[hl]at he
    revert he
    cases(ba2 d big&&O6 d tm&&O0 d hp)<;>intro he<;>simp only[fh5,fh3,reduceCtorEq,aj7,aX2]at he
    exact⟨d,_,rfl,he.2.symm,.inl ⟨_,rfl⟩⟩
 case buildSlice ty n parts=>
  cases dst with
  |none=>simp at he
  |some d=>
   split at he<;>try(cases he;done)
   rename_i d' s0 e z0 hd' hti
   simp only[aj7]at hd'
   subst hd'
   split at he<;>try(cases he;done)
   rename_i te hte
   split at he<;>try(cases he;done)
   rename_i l hl
   split at he<;>try(cases he;done)
   rename_i r hr
   revert he
   cases(ba2 d big&&O6 d tm&&O0 d hp&&bx3 r.length (n*te.size)&&dQ0 (n*te.size) 1000000&&bx3 te.zero.length te.size&&ba2 0 te.size)<;>intro he<;>simp only[fh5,fh3,reduceCtorEq,aj7,aX2]at he
   exact⟨d,_,rfl,he.2.symm,.inr he.1.symm⟩
 case makeSlice ty x y=>cases he
theorem eS2 {all:Array Oper}{bs:List (List Nat)}{ws:List (Nat×Nat)}{o:Oper}{vs:List (T×Option (Nat×H6))}{tm0:List (Nat×T)}{hp0:List (Nat×H6)}{fz kb:List Nat}{V:T}{N:Option (Nat×H6)}(h:stD X.D5 all.toList bs ws o vs tm0 hp0 fz kb=some (V,N)):
  ∃b,bs[vs.length]? =some b/\aj4 X all o (minOf all.toList (vs.map (·.1)) tm0 (aX9 o)) (dY6 bs ws vs hp0 vs.length b) V N:=by
 unfold stD at h
 split at h<;>try(cases h;done)
 rename_i b hb
 refine⟨b,hb,?_⟩
 dsimp only at h
 split at h<;>try(cases h;done)
 ·rename_i hg
  simp only[aj7,aX2]at h
  obtain⟨rfl,rfl⟩:=h
  exact .skip hg
 ·rename_i hg
  cases hp:dX3 o.op<;>rw[hp]at h<;>simp only[fh5,fh3]at h
  ·cases hn:aR9 o.op<;>rw[hn]at h<;>simp only[fh5,fh3,reduceCtorEq]at h
   ·split at h<;>try(cases h;done)
    rename_i t x y ho
    split at h<;>try(cases h;done)
    rename_i id off ti l hx hti hy
    split at h<;>try(cases h;done)
    rename_i ts hbx
    cases hc:(bx3 l.length ti.size&&dQ0 (off+l.length) ts.length)<;>rw[hc]at h<;>simp only[fh5,fh3,reduceCtorEq,aj7,aX2]at h
    obtain⟨rfl,rfl⟩:=h
    exact .store hg ho hx hti hy hbx hc
   split at h<;>try(cases h;done)
   rename_i V' tm' d' N' hp' d he hd
   obtain⟨d2,b2,e1,e2,e3⟩:=cO9 (D5:=X.D5) hn he
   rw[hd]at e1
   cases e1
   simp only[St.mk.injEq,eU7,aX2]at e2
   obtain⟨rfl,⟨rfl,rfl⟩,rfl⟩:=e2
   have hs:=aj4.new (X:=X) hg hn hd he
   cases hz:aD8 d' fz<;>rw[hz]at h<;>simp only[fh5,fh3]at h
   ·simp only[aj7,aX2]at h
    obtain⟨rfl,rfl⟩:=h
    exact hs
   ·split at h<;>try(cases h;done)
    rename_i e sz n rs
    simp only[aj7,aX2]at h
    obtain⟨rfl,rfl⟩:=h
    rcases e3 with⟨ts,e3⟩|rfl
    ·cases e3
    ·exact hs.frz hn hd
  ·have hp:=dd5 hp
   split at h<;>try(cases h;done)
   rename_i V' σ' he
   simp only[aj7,aX2]at h
   obtain⟨rfl,rfl⟩:=h
   have:=cA6 (D5:=X.D5) hp he
   subst this
   exact .pure hg hp he
theorem aL1 (hmx:X.P.follows .mixedOrders=true)(hQ:∀r l σ,¬Q r (.goto l) σ)(eb ed:Bool):∀(n:Nat) (c:Cg ρ),bh1 X Qp (av X.D5 X.nt eb ed n c) m Q->bh1 X Qp c m Q:=by
 intro n
 induction n with
 |zero=>intro c h;exact h
 |succ n ih=>
  intro c h
  unfold av at h
  split at h
  ·split at h
   ·exact F9.seq (ih _ h)
   ·exact F9.skip (ih _ h)
   ·exact F9.label (ih _ h)
   ·exact F9.scope hQ (ih _ h)
   ·cases eb<;>simp only[fh5,fh3]at h
    ·exact h
    ·exact F9.block (ih _ h)
   ·split at h
    ·exact F9.region (ih _ h)
    ·cases ed<;>simp only[fh5,fh3]at h
     ·exact h
     ·rename_i ks σ _ id ops _
      have:=ih _ h (by simp) rfl (fun i V N o b hi=>by simp at hi)
      exact fun r hr a w hw=>this r hr a w (hw.bN0 (fun k t hk=>(cm9 hk).2) (fun k b hk=>hk))
   ·split at h
    ·rename_i hp;exact F9.exit hp (ih _ h)
    ·rename_i hp;exact F9.out hp h
   ·exact h
  ·exact F9.eX9 (ih _ h)
  ·exact C3.nil (ih _ h)
  ·split at h
   ·rename_i he;exact eS3 he (ih _ h)
   ·exact h
  ·rename_i id all h0 bs ws ops vs tm0 hp0 fz kb ks
   cases hb:bx3 vs.length h0<;>rw[hb]at h<;>simp only[fh5,fh3]at h
   ·split at h
    ·exact h
    ·rename_i o r
     split at h
     ·rename_i x hx
      intro cX8 hbs hst
      have ho:all.toList[vs.length]? =some o:=by rw[<-ey0,<-cX8];rfl
      obtain⟨V,N⟩:=x
      obtain⟨b,hbb,hs⟩:=eS2 hx
      exact ih _ h (by rw[aX7,<-ep0,<-cX8];rfl) hbs (hst.snoc ho hbb hs)
     ·exact h
   ·cases hd:eA2 X.nt all.toList h0 ws tm0 hp0 vs<;>rw[hd]at h<;>simp only[fh5,fh3]at h
    ·exact h
    ·intro cX8 hbs hst
     have:=bq5 hb
     subst this cX8 hbs
     exact F9.ff1 hmx hd hst fun r hr a w hw=>ih _ h r hr a w (hw.bN0 (fun _ _ h=>h) (fun k b hk=>by rw[cQ6]at hk;exact hk))
  ·exact h
theorem cr7.old {o:Oper}{tm:List (Nat×T)}{hp:List (Nat×H6)}(h:aR9 o.op=false):cr7 o none tm hp:=⟨fun h'=>(by rw[h]at h';cases h'),fun id h'=>(by rw[dT9]at h';cases h')⟩
theorem bJ6 {id0 h00:Nat}{dT3 all:Array Oper}{bs0:List (List Nat)}{ws0:List (Nat×Nat)}{ops0:List Oper}{vs0:List (T×Option (Nat×H6))}{tm00:List (Nat×T)}{hp00:List (Nat×H6)}{fz0 kb0 kb fz:List Nat}{ks0:List K}{q:Oper}{tm:List (Nat×T)}{hp:List (Nat×H6)}{nx:T->Option (Nat×H6)->Cg ρ}{V:T}{N:Option (Nat×H6)}
  (h:here (.D id0 dT3 h00 bs0 ws0 ops0 vs0 tm00 hp00 fz0 kb0 ks0:Cg ρ)=some (all,kb,q,tm,hp,fz,nx)) (hs:aj4 X all q tm hp V N) (hk:bh1 X Qp (nx V N) m Q):bh1 X Qp (.D id0 dT3 h00 bs0 ws0 ops0 vs0 tm00 hp00 fz0 kb0 ks0) m Q:=by
 cases ops0 with
 |nil=>simp[here]at h
 |cons q0 r=>
  simp only[here]at h
  split at h<;>try(cases h;done)
  rename_i b hb
  simp only[aj7,aX2]at h
  obtain⟨rfl,rfl,rfl,rfl,rfl,rfl,rfl⟩:=h
  intro cX8 hbs hst
  have ho:dT3.toList[vs0.length]? =some q0:=by rw[<-ey0,<-cX8];rfl
  exact hk (by rw[aX7,<-ep0,<-cX8];rfl) hbs (hst.snoc ho hb hs)
theorem bF0 {c:Cg ρ}{all:Array Oper}{kb fz:List Nat}{q:Oper}{tm:List (Nat×T)}{hp:List (Nat×H6)}{nx:T->Option (Nat×H6)->Cg ρ}{V:T}{N:Option (Nat×H6)}(h:here c=some (all,kb,q,tm,hp,fz,nx))(hs:aj4 X all q tm hp V N)
  (hd:∀d,q.dst=some d->ba2 d X.nt=true) (hf:cr7 q N tm hp) (hk:bh1 X Qp (nx V N) m Q):bh1 X Qp c m Q:=by
 unfold here at h
 split at h<;>try(cases h;done)
 ·simp only[aj7,aX2]at h
  obtain⟨rfl,rfl,rfl,rfl,rfl,rfl,rfl⟩:=h
  intro r hr a w hw
  exact wpList_step fun K hK=>hs _ _ (fun _ _ h=>h) (fun _ _ h=>h) hf hd a w hw K _ fun a' w' hs'=>hK _ _ (hk r hr _ _ hs')
 ·rename_i id dT3 h0 bs ws q0 r vs tm0 hp0 fz0 kb0 ks
  split at h<;>try(cases h;done)
  rename_i b hb
  simp only[aj7,aX2]at h
  obtain⟨rfl,rfl,rfl,rfl,rfl,rfl,rfl⟩:=h
  intro cX8 hbs hst
  have ho:dT3.toList[vs.length]? =some q0:=by rw[<-ey0,<-cX8];rfl
  exact hk (by rw[aX7,<-ep0,<-cX8];rfl) hbs (hst.snoc ho hb hs)
theorem Z1.eg3 {z:Z1}{tm:List (Nat×T)}{hp:List (Nat×H6)}{σ:St}{ks:List K}{e:Exit}(h:z.ap tm hp=some σ)(k:ad0 X ks e σ m Q):ad0 X ks e ⟨tm,hp⟩ m Q:=by
 cases z with
 |fr id=>
  simp only[Z1.ap]at h
  split at h<;>try(cases h;done)
  rename_i hb
  simp only[aj7]at h;subst h
  exact ad0.frz id hb k
 |fb id=>
  simp only[Z1.ap]at h
  split at h<;>try(cases h;done)
  rename_i hb
  split at h<;>try(cases h;done)
  rename_i hc
  simp only[aj7]at h;subst h
  exact ad0.dG1 id hb hc k
 |np j id e' sz path=>
  simp only[Z1.ap]at h
  split at h<;>try(cases h;done)
  rename_i hk
  split at h<;>try(cases h;done)
  rename_i hu
  cases hb:(ba2 id big&&(O6 id tm&&O0 id hp))<;>rw[hb]at h<;>simp only[fh5,fh3,reduceCtorEq,aj7]at h
  subst h
  simp only[au2]at hb
  exact ad0.eD9 j id e' sz path hk hu hb.1 hb.2.1 hb.2.2 k
 |nb b id e' sz path=>
  simp only[Z1.ap]at h
  split at h<;>try(cases h;done)
  rename_i hk
  split at h<;>try(cases h;done)
  rename_i hu
  cases hb:(ba2 id big&&(O6 id tm&&O0 id hp))<;>rw[hb]at h<;>simp only[fh5,fh3,reduceCtorEq,aj7]at h
  subst h
  simp only[au2]at hb
  exact ad0.ff7 b id e' sz path hk hu hb.1 hb.2.1 hb.2.2 k
 |rn l=>
  simp only[Z1.ap]at h
  cases hb:(uniq hp&&cC6 (l++idn l hp))<;>rw[hb]at h<;>simp only[fh5,fh3,reduceCtorEq]at h
  rw[au2]at hb
  split at h<;>try(cases h;done)
  rename_i h1 h2
  simp only[aj7]at h;subst h
  exact ad0.sub (σ':=⟨rdT (l++idn l hp) (rmv [] tm),hp⟩) ⟨bV1 fun k t hm=>⟨t,(cI6 (dm7 hm)).2,cn8 t⟩,bV0 fun k b hm=>⟨b,cV6 hb.1 hm,de1 b⟩⟩ (ad0.ren _ hb.2 h1 h2 k)
 |dr id=>
  simp only[Z1.ap]at h
  cases hb:uniq hp<;>rw[hb]at h<;>simp only[fh5,fh3,reduceCtorEq,aj7]at h
  subst h
  exact ad0.sub (dj5 hb) k
theorem aj4.mk {α:Type}{all:Array Oper}{kb:List Nat}{o:Oper}{W9:List (Nat×T)}{ao8:List (Nat×H6)}{t e d s0:Nat}{z0:List Value}{te:TI}{x y:Operand}{k1 k2:IntKind}{n:Int}{enc:α->List Tree}{z:α}{l:List α}(hl:aY2 n z=some l)
  (ho:o.op= .makeSlice t x y) (hd:o.dst=some d) (hg:gk all.toList kb W9 o.guard=some true) (hx:val W9 x=some (.t (.v (.int k1 n)))) (hy:val W9 y=some (.t (.v (.int k2 n))))
  (hty:look X.D5 t=some ⟨s0,.slice e,z0⟩) (hte:look X.D5 e=some te) (hz:te.zero.length=te.size) (bJ7:ba2 0 te.size=true) (az8:enc z=te.zero.map fun v=>aE6 (.v v)) (aM8:ba2 d big=true):
  aj4 X all o W9 ao8 (.own d) (some (d,.rows e te.size l.length (l.map enc))):=by
 intro tm hp hm hh hf hd' a w ⟨S,E,hk⟩ K Q' hK
 unfold aY2 at hl
 split at hl<;>try(cases hl;done)
 rename_i hn
 simp only[aj7]at hl
 obtain⟨j,rfl⟩:∃j:Nat,n=(j:Int):=⟨n.toNat,by omega⟩
 simp only[Int.toNat_natCast]at hl
 obtain⟨dd,hu,ho2⟩:∃d,X.P.underlying t=some d/\TD.ok X.P (.slice e) d:=by
  obtain⟨i,d,_,_,hu,hdd,_⟩:=X.M7 t _ hty
  exact⟨d,hu,hdd⟩
 simp only[TD.ok]at ho2
 subst ho2
 have hfr:=hf.1 (by rw[ho];rfl) d hd
 rw[au2]at hfr
 obtain⟨v',w',E',hr,hE,hok⟩:=hk.make (P:=X.P) (n:=j) (c:=enc z) aM8 hfr.1 hfr.2 hu (X.M7 e _ hte) hz (ba1 bJ7) az8 (by omega) k1 k2
 rw[V9 hk (at8 hm (aG3 hg)),if_pos rfl]
 unfold Oper.wp
 have aO9:(execOp a.eval o).run X.P w= .ok (.value v') w':=by
  unfold execOp
  simp only[ho,(hk.val (E5 hm hx)).tv,(hk.val (E5 hm hy)).tv,bd5,hr,aY1,bx4]
 rw[aO9]
 have e1:l.map enc=List.replicate j (enc z):=by rw[<-hl];simp
 have e2:l.length=j:=by rw[<-hl];simp
 refine hK (a.put o.dst v') w' ?_
 rw[e1,e2]
 simp only[bg3,hd]
 rw[<-hd]
 exact Ok.pt hok (.own d v' hE) hd'
theorem cy2 {x:T}:∀{vs:List (T×Option (Nat×H6))}{j:Nat}{N:Option (Nat×H6)},vs[j]? =some (x,N)->dJ7 x j vs=vs
 |[],j,N,h=>by simp at h
 |p::r,0,N,h=>by simp only[cZ9,aj7]at h;subst h;rfl
 |p::r,j+1,N,h=>by rw[dJ7,cy2 (by simpa using h)]
theorem eT8 {id h j:Nat}{all:Array Oper}{bs:List (List Nat)}{ws:List (Nat×Nat)}{q:Oper}{r:List Oper}{vs:List (T×Option (Nat×H6))}{tm0:List (Nat×T)}{hp0:List (Nat×H6)}{fz kb kb':List Nat}{ks:List K}{b:Bool}{m₁ m₂:Option τ}(ht:eT7 q vs=some (j,b))
  (h₁:bh1 X Qp (.D id all h bs ws (q::r) (dJ7 (.t (.v (.bool true))) j vs) tm0 hp0 fz kb' ks:Cg ρ) m₁ Q) (h₂:bh1 X Qp (.D id all h bs ws (q::r) (dJ7 (.t (.v (.bool false))) j vs) tm0 hp0 fz kb' ks:Cg ρ) m₂ Q):
  bh1 X Qp (.D id all h bs ws (q::r) vs tm0 hp0 fz kb ks:Cg ρ) (bif b then m₁ else m₂) Q:=by
 unfold eT7 at ht
 split at ht<;>try(cases ht;done)
 split at ht<;>try(cases ht;done)
 rename_i b0 hv
 simp only[aj7,aX2]at ht
 obtain⟨e1,e2⟩:=ht
 subst e1 e2
 cases b0
 ·rw[cy2 hv]at h₂;exact h₂
 ·rw[cy2 hv]at h₁;exact h₁
theorem eH4 {d:Nat}{all:Array Oper}{kb kb':List Nat}{q:Oper}{r:List Oper}{tm:List (Nat×T)}{hp:List (Nat×H6)}{ks:List K}{b:Bool}{m₁ m₂:Option τ}(ht:eT6 all.toList tm q=some (d,b))
  (h₁:bh1 X Qp (.O all kb' (q::r) ks ⟨(d,.t (.v (.bool true)))::tm,hp⟩:Cg ρ) m₁ Q) (h₂:bh1 X Qp (.O all kb' (q::r) ks ⟨(d,.t (.v (.bool false)))::tm,hp⟩:Cg ρ) m₂ Q):
  bh1 X Qp (.O all kb (q::r) ks ⟨tm,hp⟩:Cg ρ) (bif b then m₁ else m₂) Q:=by
 have hl:look tm d=some (.t (.v (.bool b))):=by
  unfold eT6 at ht
  split at ht<;>try(cases ht;done)
  split at ht<;>try(cases ht;done)
  split at ht<;>try(cases ht;done)
  split at ht<;>try(cases ht;done)
  rename_i hv
  simp only[aj7,aX2]at ht
  obtain⟨e1,e2⟩:=ht
  subst e1 e2
  exact hv
 cases b
 ·intro r hr a w hw
  exact h₂ r hr a w (hw.bN0 (fun k t hk=>by
   simp only[look]at hk
   by_cases hdk:d=k
   ·subst hdk;simp only[bX7,fh5,aj7]at hk;subst hk;exact hl
   ·simp only[D6 hdk,fh3]at hk;exact hk) (fun k b hk=>hk))
 ·intro r hr a w hw
  exact h₁ r hr a w (hw.bN0 (fun k t hk=>by
   simp only[look]at hk
   by_cases hdk:d=k
   ·subst hdk;simp only[bX7,fh5,aj7]at hk;subst hk;exact hl
   ·simp only[D6 hdk,fh3]at hk;exact hk) (fun k b hk=>hk))
end
theorem Out.never {ρ:Type}{Qf:ρ->St->Prop}{l:Nat}{σ:St}:∀(o:Out ρ),¬o.den Qf (.goto l) σ
 | .nx _,h=>by cases h.1
 | .ex _ _,h=>by cases h.1
 | .rt _,h=>by cases h.1
 | .top _,h=>by rcases h.1 with h|h<;>cases h
 | .no,h=>h
section
variable {P:Program} {ρ τ β:Type} {X:Cx} {Qf:ρ -> St -> Tr}
abbrev QfP (Qf:ρ->St->Tr):ρ->St->Prop:=fun r σ=>(Qf r σ).den
theorem dP0 {v:τ}{c:Cg ρ}{o:τ->Out ρ}(h:(dk7 Qf c (o v)).den):bh1 X (QfP Qf) c (some v) (fun v e σ'=>(o v).den (QfP Qf) e σ'):=by
 unfold dk7 at h
 split at h
 ·rename_i he;exact F9.leaf (by rw[he];exact⟨rfl,cq4 h⟩)
 ·rename_i he;exact F9.leaf (by rw[he];exact⟨.inr rfl,h⟩)
 ·rename_i he;exact F9.ret (by rw[he];exact⟨rfl,h⟩)
 ·rename_i he;exact F9.ret (by rw[he];exact⟨.inl rfl,h⟩)
 ·rename_i id σ id' σ₁ he
  cases hb:bx3 id id'<;>rw[hb]at h
  ·exact h.elim
  ·have:=bq5 hb
   subst this
   exact ad0.br6 rfl (by rw[he];exact⟨rfl,cq4 h⟩)
 ·rename_i he
  intro v' hv σ' hq;cases hv
  have:=V.eq h;subst this
  show(o v).den _ _ _
  rw[he];exact⟨rfl,hq⟩
 ·rename_i he
  intro v' hv σ' hq;cases hv
  have:=V.eq h;subst this
  show(o v).den _ _ _
  rw[he];exact⟨.inl rfl,hq⟩
 ·exact h.elim
theorem cl8 {ks:List K}{σ σ':St}{e:Exit}{m:Option τ}{Q:τ->Exit->St->Prop}{s:Sh ρ}(hd:(de6 σ s).den (QfP Qf) e σ')(h:bh1 X (QfP Qf) (cont ks σ s) m Q):ad0 X ks e σ' m Q:=by
 cases s with
 |nx l=>obtain⟨rfl,hs⟩:=hd;exact ad0.sub hs h
 |ex id l=>
  obtain⟨rfl,hs⟩:=hd
  unfold cont at h
  simp only at h
  split at h
  ·rename_i hp;exact ad0.exit hp (ad0.sub hs h)
  ·rename_i hp
   intro r hr a w hw
   exact ay4 hp (h r hr a w (hw.sub hs))
 |rt r=>
  obtain⟨rfl,hq⟩:=hd
  intro v hv a w hw
  exact bs5 ks ⟨σ',hw,h v hv σ' hq⟩
theorem dw7 {σ σ':St}{e:Exit}{s:Sh ρ}(h:(eq1 σ s).den (QfP Qf) e σ'):e≠ .normal/\(de6 σ s).den (QfP Qf) e σ':=by
 cases s with
 |nx l=>exact h.elim
 |ex id l=>obtain⟨rfl,hs⟩:=h;exact⟨by simp,rfl,hs⟩
 |rt r=>obtain⟨rfl,hs⟩:=h;exact⟨by simp,rfl,hs⟩
theorem eE1 {o:Out ρ}{e:Exit}{σ':St}(h:(eE0 o).den (QfP Qf) e σ'):e≠ .normal/\o.den (QfP Qf) e σ':=by
 cases o with
 |nx l=>exact h.elim
 |ex id l=>exact⟨by rw[h.1];simp,h⟩
 |rt r=>exact⟨by rw[h.1];simp,h⟩
 |top r=>exact h.elim
 |no=>exact h.elim
theorem Out.calm {σ:St}:∀(o:Out ρ),(∀ch,¬o.den (QfP Qf) (.panic ch) σ)/\¬o.den (QfP Qf) .outgrown σ
 | .nx _=>⟨(fun _ h=>by cases h.1),(fun h=>by cases h.1)⟩
 | .ex _ _=>⟨(fun _ h=>by cases h.1),(fun h=>by cases h.1)⟩
 | .rt _=>⟨(fun _ h=>by cases h.1),(fun h=>by cases h.1)⟩
 | .top _=>⟨(fun _ h=>by rcases h.1 with h|h<;>cases h),(fun h=>by rcases h.1 with h|h<;>cases h)⟩
 | .no=>⟨fun _ h=>h,fun h=>h⟩
theorem dP6 {id:Nat}:∀{ks:List K},noE ks=true->bw4 id ks=none
 |[],_=>rfl
 | .c _::r,h=>dP6 (ks:=r) h
 | .e _::_,h=>by cases h
theorem eC3 {all:List Oper}{tm:List (Nat×T)}{ops g r:List Oper}{d q:Nat}{b:Bool}(h:eC2 all tm ops=some (d,b,g,q,r)):look tm d=some (.t (.v (.bool b)))/\ops=g++r:=by
 unfold eC2 at h
 split at h<;>try(cases h;done)
 split at h<;>try(cases h;done)
 split at h<;>try(cases h;done)
 split at h<;>try(cases h;done)
 split at h<;>try(cases h;done)
 rename_i hl hc
 simp only[aj7,aX2]at h
 obtain⟨rfl,rfl,rfl,rfl,rfl⟩:=h
 exact⟨hl,dF1 hc⟩
theorem C3.grp {ks:List K}{m₁ m₂:Option Bool}{k:Bool->Option τ}{Q:τ->Exit->St->Prop}{all:Array Oper}{tm:List (Nat×T)}{hp:List (Nat×H6)}{ops g r:List Oper}{d q:Nat}{b:Bool}{σ₁:Bool->St}(hg:eC2 all.toList tm ops=some (d,b,g,q,r))
  (h₁:C3 X all g [] ⟨(d,.t (.v (.bool true)))::tm,hp⟩ m₁ (fun v e σ'=>e= .normal/\Sub (σ₁ v) σ')) (h₂:C3 X all g [] ⟨(d,.t (.v (.bool false)))::tm,hp⟩ m₂ (fun v e σ'=>e= .normal/\Sub (σ₁ v) σ'))
  (h:∀v,C3 X all r ks (σ₁ v) (k v) Q):C3 X all ops ks ⟨tm,hp⟩ ((bif b then m₁ else m₂).bind k) Q:=by
 obtain⟨hl,rfl⟩:=eC3 hg
 refine C3.bind g.length σ₁ ?_ (fun v _=>?_)
 ·rw[List.take_left]
  exact C3.split d hl h₁ h₂
 ·rw[List.drop_left]
  exact h v
theorem dz6 {α:Type}{enc:α->List Tree}{r:List α}{sz:Nat}{hp:List (Nat×H6)}{x:Option T}(h:(df6 enc r sz hp x).den):
  ∃m,x=some (.t (.sl m (r.map enc)))\/∃i2 e',x=some (.own i2)/\look hp i2=some (.rows e' sz m (r.map enc)):=by
 unfold df6 at h
 split at h
 ·rename_i n rs;have:=V.eq h;subst this;exact⟨n,.inl rfl⟩
 ·rename_i i2
  split at h
  ·rename_i e s2 n rs hb
   cases hz:bx3 s2 sz<;>rw[hz]at h
   ·exact h.elim
   ·have:=bq5 hz
    subst this
    have:=V.eq h;subst this
    exact⟨n,.inr ⟨i2,e,rfl,hb⟩⟩
  ·exact h.elim
 ·exact h.elim
theorem GF.as {α:Type}{enc:α->List Tree}{l:List α}{i:Int}:∀{f:GF},V.gf ⟨f.enc,f.l,f.i⟩=V.gf ⟨enc,l,i⟩->∃y:α,f=⟨enc,l,i,y⟩
 |⟨fe,fl,fi,fy⟩,h=>by
  simp only[V.gf.injEq]at h
  cases h
  exact⟨fy,rfl⟩
theorem az2 {b:Bool}{x:Tr}(h:(bif b then x else .bad).den):b=true/\x.den:=by
 cases b
 ·exact h.elim
 ·exact⟨rfl,h⟩
theorem U1.known {Γ:List GF}(hΓ:∀f∈Γ,f.ok):∀{τ:Type}{u:U1 τ}{y:τ},u.m=some y->∀f∈u.k y Γ,f.ok
 |_,.ap _ _ _ _,y,h,f,hf=>hΓ f hf
 |_,.an _ _ _ _,y,h,f,hf=>hΓ f hf
 |_,.st enc l i z n,y,h,f,hf=>by
  rcases cr6.1 hf with rfl|hf
  ·exact es8 h
  ·exact hΓ f hf
 |_,.sF _ _ _ _,y,h,f,hf=>hΓ f hf
 |_,.sO _ _ _ _,y,h,f,hf=>hΓ f hf
 |_,.cp _ _ _,y,h,f,hf=>hΓ f hf
theorem dQ2 {nt:Nat}{d:Option Nat}{t:T}{tm tm':List (Nat×T)}{h:List (Nat×H6)}(hp:List (Nat×H6))(hx:bw5 nt d t ⟨tm,[]⟩=some ⟨tm',h⟩):bw5 nt d t ⟨tm,hp⟩=some ⟨tm',hp⟩:=by
 unfold bw5 at hx|-
 cases d with
 |none=>simp only[aj7,St.mk.injEq]at hx|-;exact⟨hx.1,trivial⟩
 |some d=>
  dsimp only at hx|-
  cases hd:ba2 d nt<;>rw[hd]at hx<;>simp only[fh5,fh3,reduceCtorEq,aj7,St.mk.injEq]at hx|-
  exact⟨hx.1,trivial⟩
theorem U1.ok {all:Array Oper}{kb:List Nat}{ks:List K}{Γ:List GF}(hΓ:∀f∈Γ,f.ok){tm:List (Nat×T)}{hp:List (Nat×H6)}{o:Oper}{rest:List Oper}{Q:τ->Exit->St->Prop}(hg:gk all.toList kb tm o.guard=some true):
  ∀{β:Type}{u:U1 β}{t:Tr}{σ:β->St}{k:β->Option τ},u.q X.D5 X.nt Γ tm hp o=some (t,σ)->t.den->(∀y,u.m=some y->C3 X all rest ks (σ y) (k y) Q)->C3 X all (o::rest) ks ⟨tm,hp⟩ (u.m.bind k) Q
 |_,.ap (α:=α) enc l r id,t,σ,k,h,ht,hr=>by
  simp only[U1.q]at h
  split at h<;>try(cases h;done)
  rename_i args tys d ho hd
  split at h<;>try(cases h;done)
  rename_i s x t' t'' ha hb
  split at h<;>try(cases h;done)
  rename_i s0 e z0 hty
  split at h<;>try(cases h;done)
  rename_i te hte
  cases hc:(bx3 t' t''&&ba2 d X.nt&&bx3 te.zero.length te.size&&ba2 id big&&O6 id (fgT id (rmv [] tm))&&O0 id (fgH id hp)&&uniq hp)<;>rw[hc]at h<;>simp only[fh5,fh3,reduceCtorEq,aj7,aX2]at h
  obtain⟨rfl,rfl⟩:=h
  simp only[au2]at hc
  obtain⟨⟨⟨⟨⟨⟨c1,c2⟩,c3⟩,c4⟩,c5⟩,c6⟩,c7⟩:=hc
  have:=bq5 c1
  subst this
  obtain⟨h1,h2,h3,h4⟩:=ht
  have h1:=V.eq h1
  have h2:=V.eq h2
  have ha:args= #[s,x]:=by cases args;simp_all
  have hb:tys= #[t',t']:=by cases tys;simp_all
  subst ha hb
  obtain⟨m,hx⟩:=dz6 h3
  have hs:∃n,(val tm s=some (.own id)/\look hp id=some (.rows e te.size n (l.map enc)))\/(val tm s=some (.t (.v (.slice none 0 0)))/\l=[]):=by
   split at h4
   ·rename_i i hsv
    split at h4
    ·rename_i e' sz n rs hbl
     cases hq:(bx3 i id&&bx3 e' e&&bx3 sz te.size)<;>rw[hq]at h4
     ·exact h4.elim
     ·simp only[au2]at hq
      have q1:=bq5 hq.1.1
      have q2:=bq5 hq.1.2
      have q3:=bq5 hq.2
      subst q1 q2 q3
      have:=V.eq h4;subst this
      exact⟨n,.inl ⟨hsv,hbl⟩⟩
    ·exact h4.elim
   ·rename_i hsv
    have:=V.eq h4;subst this
    exact⟨0,.inr ⟨hsv,rfl⟩⟩
   ·exact h4.elim
  obtain⟨n,hs⟩:=hs
  have hen:∀y,(enc y).length=te.size:=fun y=>congrFun h1 y
  have hon:∀y,(enc y).all aQ6=true:=fun y=>congrFun h2 y
  show C3 X all _ ks _ ((U8 l r).bind k) Q
  cases hm:U8 l r with
  |none=>exact C3.fail
  |some y=>
   have hy:y=l++r:=by
    unfold U8 at hm
    split at hm
    ·exact(Option.some.inj hm).symm
    ·cases hm
   subst hy
   have hk:=hr (l++r) hm
   rw[<-hm]
   rcases hx with hx|⟨i2,e',hx1,hx2⟩
   ·exact C3.append (e':=0) ho hd c2 (aG3 hg) hty hte (bq5 c3) hen hon hs (.inl hx) (dj5 c7) c4 c5 c6 hk
   ·exact C3.append ho hd c2 (aG3 hg) hty hte (bq5 c3) hen hon hs (.inr ⟨i2,hx1,hx2⟩) (dj5 c7) c4 c5 c6 hk
 |_,.an enc n z id,t,σ,k,h,ht,hr=>by
  simp only[U1.q]at h
  split at h<;>try(cases h;done)
  rename_i args tys d ho hd
  split at h<;>try(cases h;done)
  rename_i s x t' u ha hb
  split at h<;>try(cases h;done)
  rename_i s0 e z0 s1 kk z1 ik n' hty htu hs hx
  split at h<;>try(cases h;done)
  rename_i te hte
  cases hc:(ba2 d X.nt&&bx3 te.zero.length te.size&&ba2 0 te.size&&ba2 id big&&O6 id tm&&O0 id hp)<;>rw[hc]at h<;>simp only[fh5,fh3,reduceCtorEq,aj7,aX2]at h
  obtain⟨rfl,rfl⟩:=h
  simp only[au2]at hc
  obtain⟨⟨⟨⟨⟨c1,c2⟩,c3⟩,c4⟩,c5⟩,c6⟩:=hc
  have h1:=V.eq ht.1
  have h2:=V.eq ht.2
  subst h1
  have ha:args= #[s,x]:=by cases args;simp_all
  have hb:tys= #[t',u]:=by cases tys;simp_all
  subst ha hb
  exact C3.ez1 id z ho hd c1 (aG3 hg) hs hx hty htu hte (bq5 c2) c3 h2 c4 c5 c6 hr
 |_,.st enc l i y n,t,σ,k,h,ht,hr=>by
  simp only[U1.q]at h
  split at h<;>try(cases h;done)
  rename_i t' p x f ho hd hf
  split at h<;>try(cases h;done)
  rename_i id i' sz off ti cs hp1 hti hx
  split at h<;>try(cases h;done)
  rename_i e sz' n' rs lt hb htr
  cases hc:(bx3 sz sz'&&bx3 lt.length ti.size&&dQ0 (off+lt.length) sz)<;>rw[hc]at h<;>simp only[fh5,fh3,reduceCtorEq,aj7,aX2]at h
  obtain⟨rfl,rfl⟩:=h
  simp only[au2]at hc
  obtain⟨⟨c1,c2⟩,c3⟩:=hc
  have:=bq5 c1
  subst this
  obtain⟨h1,h2,h3⟩:=ht
  have hfo:=hΓ f (dv3 hf)
  obtain⟨fy,rfl⟩:=GF.as h1
  have h2:=V.eq h2
  have h3:=V.eq h3
  simp only[aX2]at h2
  obtain⟨rfl,rfl⟩:=h2
  cases hv:val tm x with
  |none=>simp[hv]at hx
  |some vx=>
   simp only[hv,ac0]at hx
   exact C3.dK1 y lt hfo ho hd (aG3 hg) hp1 hb hti hv hx (cq7 htr) c2 c3 h3 hr
 |_,.sF enc l a b,t,σ,k,h,ht,hr=>by
  simp only[U1.q]at h
  split at h<;>try(cases h;done)
  rename_i t' x lo hi d ho hd
  split at h<;>try(cases h;done)
  rename_i s0 e z0 n rs a' b' hty hx hlo hhi
  split at h<;>try(cases h;done)
  rename_i te hte
  cases hc:ba2 d X.nt<;>rw[hc]at h<;>simp only[fh5,fh3,reduceCtorEq,aj7,aX2]at h
  obtain⟨rfl,rfl⟩:=h
  obtain⟨h1,h2,h3⟩:=ht
  have h1:=V.eq h1
  have h2:=V.eq h2
  have h3:=V.eq h3
  simp only[aX2]at h2
  obtain⟨rfl,rfl⟩:=h2
  subst h1
  exact C3.et4 ho hd hc (aG3 hg) hx hty hte (fun y=>congrFun h3 y) hlo hhi hr
 |_,.sO enc l b id,t,σ,k,h,ht,hr=>by
  simp only[U1.q]at h
  split at h<;>try(cases h;done)
  rename_i t' x hi d ho hd
  split at h<;>try(cases h;done)
  rename_i s0 e' z0 i b' hty hx hhi
  split at h<;>try(cases h;done)
  rename_i te e sz n rs hte hb
  cases hc:(ba2 d X.nt&&bx3 te.size sz&&ba2 id big&&O6 id (fgT i (rmv [] tm))&&O0 id (fgH i hp)&&O0 i (fgH i hp)&&uniq hp)<;>rw[hc]at h<;>simp only[fh5,fh3,reduceCtorEq,aj7,aX2]at h
  obtain⟨rfl,rfl⟩:=h
  simp only[au2]at hc
  obtain⟨⟨⟨⟨⟨⟨c1,c2⟩,c3⟩,c4⟩,c5⟩,c6⟩,c7⟩:=hc
  have h1:=V.eq ht.1
  have h2:=V.eq ht.2
  subst h1 h2
  exact C3.et5 ho hd c1 (aG3 hg) hx hb hty hte hhi (dj5 c7) c3 c4 c5 c6 hr
 |_,.cp enc l r,t,σ,k,h,ht,hr=>by
  simp only[U1.q]at h
  split at h<;>try(cases h;done)
  rename_i args tys ho
  split at h<;>try(cases h;done)
  rename_i s x t' t'' ha hb
  split at h<;>try(cases h;done)
  rename_i s0 e' z0 id tm' hp0 hty hs au9
  split at h<;>try(cases h;done)
  rename_i te e sz n rs hte hbl
  cases hc:bx3 sz te.size<;>rw[hc]at h<;>simp only[fh5,fh3,reduceCtorEq,aj7,aX2]at h
  obtain⟨rfl,rfl⟩:=h
  have:=bq5 hc
  subst this
  obtain⟨h1,h2,h3,h4⟩:=ht
  have h1:=V.eq h1
  have h2:=V.eq h2
  have h4:=V.eq h4
  subst h4
  have ha:args= #[s,x]:=by cases args;simp_all
  have hb:tys= #[t',t'']:=by cases tys;simp_all
  subst ha hb
  obtain⟨m,hx⟩:=dz6 h3
  have hk:=hr (aJ5 l r) rfl
  rcases hx with hx|⟨i2,e2,hx1,hx2⟩
  ·exact C3.ej4 (e2:=0) ho (aG3 hg) hty hte (fun y=>congrFun h1 y) (fun y=>congrFun h2 y) hs hbl (.inl hx) (dQ2 _ au9) hk
  ·exact C3.ej4 ho (aG3 hg) hty hte (fun y=>congrFun h1 y) (fun y=>congrFun h2 y) hs hbl (.inr ⟨i2,hx1,hx2⟩) (dQ2 _ au9) hk
theorem eB9 {all:List Oper}{kb:List Nat}{tm tm':List (Nat×T)}{g:Option (Nat×Bool)}{b:Bool}(hm:more tm tm')(h:gk all kb tm g=some b):gk all kb tm' g=some b:=by
 cases g with
 |none=>exact h
 |some p=>
  obtain⟨j,want⟩:=p
  simp only[gk]at h|-
  split at h<;>try(cases h;done)
  rename_i ho
  try simp only[ho]
  split at h<;>try(cases h;done)
  rename_i hd
  try simp only[hd]
  split at h<;>try(cases h;done)
  ·rename_i hl;rw[hm _ _ hl];exact h
  ·rename_i hl;rw[hm _ _ hl];exact h
theorem U1.fa0 {all:Array Oper}{kb:List Nat}{Γ:List GF}(hΓ:∀f∈Γ,f.ok){W9:List (Nat×T)}{ao8:List (Nat×H6)}{o:Oper}(hg:gk all.toList kb W9 o.guard=some true):
  ∀{β:Type}{u:U1 β}{t:Tr}{f:β->T×Option (Nat×H6)},u.qD X.D5 X.nt Γ W9 ao8 o=some (t,f)->t.den->∀y,u.m=some y->aj4 X all o W9 ao8 (f y).1 (f y).2
 |_,.st enc l i z n,t,f,h,ht,y,hy=>by
  simp only[U1.qD]at h
  split at h<;>try(cases h;done)
  rename_i t' σ hq
  split at h<;>try(cases h;done)
  rename_i ty p x hop hd
  split at h<;>try(cases h;done)
  rename_i id i' sz off hp1
  split at h<;>try(cases h;done)
  rename_i e sz2 n2 rs hb
  simp only[aj7,aX2]at h
  obtain⟨rfl,rfl⟩:=h
  refine aj4.eK4 fun tm hp hm hh=>⟨⟨tm,au9 hp id (.rows e sz y.length (y.map enc))⟩,?_,?_,?_⟩
  ·intro k u hk;simpa[pt,hd]using hk
  ·intro k c hk;rw[cQ7 (hh _ _ hb)];exact hk
  ·have hq2:(U1.st enc l i z n).q X.D5 X.nt Γ tm hp o=some (t',fun l'=>⟨tm,au9 hp id (.rows e sz l'.length (l'.map enc))⟩):=by
    simp only[U1.q]at hq|-
    split at hq<;>try(cases hq;done)
    rename_i t2 p2 x2 g hop2 hd2 hΓn
    rw[hop]at hop2
    simp only[Op.store.injEq]at hop2
    obtain⟨e1,e2,e3⟩:=hop2
    subst e1 e2 e3
    split at hq<;>try(cases hq;done)
    rename_i hp2 hti hx
    rw[hp1]at hp2
    simp only[aj7,T.pe.injEq]at hp2
    obtain⟨e1,e2,e3,e4⟩:=hp2
    subst e1 e2 e3 e4
    split at hq<;>try(cases hq;done)
    rename_i hb2 hlt
    rw[hb]at hb2
    simp only[aj7,H6.rows.injEq]at hb2
    obtain⟨e1,e2,e3,e4⟩:=hb2
    subst e1 e2 e3 e4
    have hx':∀cs,(val W9 x).bind (aq9 ao8)=some cs->(val tm x).bind (aq9 hp)=some cs:=fun cs hc=>by
     cases hv:val W9 x with
     |none=>simp[hv]at hc
     |some u=>rw[E5 hm hv];rw[hv]at hc;exact br2 hh hc
    simp only[E5 hm hp1,hti,hx' _ hx,hh _ _ hb,hlt]
    revert hq
    cases(bx3 sz sz2&&bx3 _ _&&dQ0 _ sz)<;>intro hq<;>simp only[fh5,fh3,reduceCtorEq,aj7,aX2]at hq|-
    exact⟨hq.1,trivial⟩
   have:=U1.ok (X:=X) (all:=all) (rest:=[]) (ks:=[]) (k:=fun _=>some ()) (Q:=fun _ e' σ=>e'= .normal/\σ=⟨tm,au9 hp id (.rows e sz y.length (y.map enc))⟩) hΓ (eB9 hm hg) hq2 ht (fun y' hy'=>by
    rw[hy]at hy';cases hy'
    exact C3.nil (F9.leaf ⟨rfl,rfl⟩))
   rw[hy]at this
   exact this
 |_,.ap enc l r id,t,f,h,ht,y,hy=>by
  simp only[U1.qD,U1.qA]at h
  split at h<;>try(cases h;done)
  rename_i args tys d hop hd
  split at h<;>try(cases h;done)
  rename_i s x t1 t2 dc7 htys
  split at h<;>try(cases h;done)
  rename_i s0 e z0 hty
  split at h<;>try(cases h;done)
  rename_i te hte
  split at h<;>try(cases h;done)
  rename_i v v' e' sz n rs hs hb
  cases hc:(bx3 t1 t2&&ba2 d X.nt&&bx3 te.zero.length te.size&&ba2 id big&&bx3 e' e&&bx3 sz te.size)<;>rw[hc]at h<;>simp only[fh5,fh3,reduceCtorEq,aj7,aX2]at h
  obtain⟨rfl,rfl⟩:=h
  simp only[au2]at hc
  obtain⟨⟨⟨⟨⟨c1,c2⟩,c3⟩,c4⟩,c5⟩,c6⟩:=hc
  have c1:=bq5 c1
  have c5:=bq5 c5
  have c6:=bq5 c6
  subst c1 c5 c6
  obtain⟨h1,h2,h3,h4,h5⟩:=ht
  have h1:=V.eq h1
  have h2:=V.eq h2
  have h3:=V.eq h3
  have h4:=V.eq h4
  subst h1 h2
  have hop':o.op= .call ⟨.builtin .append,#[s,x],#[t1,t1]⟩:=by
   rw[hop]
   congr 2
   ·exact fc3 dc7
   ·exact fc3 htys
  obtain⟨m',e'',cf6⟩:∃m' e'',val W9 x=some (.t (.sl m' (r.map enc)))\/∃i2,val W9 x=some (.own i2)/\look ao8 i2=some (.rows e'' te.size m' (r.map enc)):=by
   unfold df6 at h5
   split at h5<;>try(exact h5.elim)
   ·rename_i n1 rs1 hx
    have:=V.eq h5
    subst this
    exact⟨_,0,.inl hx⟩
   ·rename_i i2 hx
    split at h5<;>try(exact h5.elim)
    rename_i e1 s2 n1 rs1 hb2
    obtain⟨g1,g2⟩:=az2 h5
    have g1:=bq5 g1
    have:=V.eq g2
    subst this g1
    exact⟨_,_,.inr ⟨i2,hx,hb2⟩⟩
  exact aj4.append (e':=e'') hg hop' hd hty hte (bq5 c3) (fun y=>congrFun h3 y) (fun y=>congrFun h4 y) hs hb cf6 c4 hy
 |_,.an ..,t,f,h,_,_,_=>by simp[U1.qD]at h
 |_,.sF ..,t,f,h,_,_,_=>by simp[U1.qD]at h
 |_,.sO ..,t,f,h,_,_,_=>by simp[U1.qD]at h
 |_,.cp ..,t,f,h,_,_,_=>by simp[U1.qD]at h
theorem dU6 {tm:List (Nat×T)}{hp:List (Nat×H6)}{o:Oper}{n d:Nat}{l:List T}{s:Bool}(h:cN0 tm hp o=some (n,l,s,d)):o.dst=some d:=by
 unfold cN0 at h
 split at h<;>try(cases h;done)
 rename_i hd
 split at h
 ·simp only[aj7,aX2]at h;rw[hd,h.2.2.2]
 ·split at h<;>try(cases h;done)
  simp only[aj7,aX2]at h;rw[hd,h.2.2.2]
theorem dU7 {tm:List (Nat×T)}{hp:List (Nat×H6)}{o:Oper}{n d:Nat}{l:List T}{s:Bool}(h:cN0 tm hp o=some (n,l,s,d)):aR9 o.op=false:=by
 unfold cN0 at h
 split at h<;>try(cases h;done)
 rename_i hy _
 unfold cN1 at hy
 split at hy<;>try(cases hy;done)
 rename_i ho
 rw[ho];rfl
theorem L1.dQ3 {D5:Tab}{tm:List (Nat×T)}{hp:List (Nat×H6)}{o:Op}{r:Tr×(β->T)}:∀{l:L1 β},l.q D5 tm hp o=some r->aR9 o=false:=by
 intro l h
 cases l<;>simp only[L1.q]at h<;>split at h<;>first|(cases h;done)|rfl
theorem W1.dQ3 {P:Program}{Ev:EqV P}{D5:Tab}{Γ:List GF}{tm:List (Nat×T)}{hp:List (Nat×H6)}{o:Op}{r:Tr×T}:∀{u:W1},u.q Ev D5 Γ tm hp o=some r->aR9 o=false
 | .hx n,h=>by
  simp only[W1.q]at h
  split at h<;>try(cases h;done)
  split at h<;>try(cases h;done)
  rename_i hq
  exact L1.dQ3 hq
 | .ly n,h=>by
  simp only[W1.q]at h
  split at h<;>try(cases h;done)
  rfl
 | .eq,h=>by
  simp only[W1.q]at h
  split at h<;>try(cases h;done)
  rfl
 | .cn,h=>by
  simp only[W1.q]at h
  split at h<;>try(cases h;done)
  rfl
 | .sn,h=>by
  simp only[W1.q]at h
  split at h<;>try(cases h;done)
  rfl
theorem M.ok {Ev:EqV X.P}(hmx:X.P.follows .mixedOrders=true):∀{τ:Type} (x:M X.P ρ τ) (Γ:List GF) (c:Cg ρ) (o:τ->Out ρ),(∀f∈Γ,f.ok)->(x.chk Ev X.D5 X.nt Qf Γ c o).den->bh1 X (QfP Qf) c x.run (fun v e σ'=>(o v).den (QfP Qf) e σ')
 |_,.R v,Γ,c,o,hΓ,h=>by
  simp only[M.chk]at h
  exact aL1 hmx (fun r l σ=>Out.never _) true true _ c (dP0 h)
 |_,.N,Γ,c,o,hΓ,h=>by
  cases c with
  |S ks σ=>exact F9.fail
  |O all kb ops ks σ=>exact C3.fail
  |D=>exact fun _ _ _=>F9.fail
  |X id σ=>exact fun r hr=>by cases hr
  |R r=>exact fun v hv=>by cases hv
 |_,.I b x y,Γ,c,o,hΓ,h=>by
  simp only[M.chk]at h
  refine aL1 hmx (fun r l σ=>Out.never _) true true fuel c ?_
  split at h<;>try(exact h.elim)
  rename_i q z w ks σ hc
  rw[hc]
  split at h<;>try(exact h.elim)
  rename_i b' hv
  obtain⟨h1,h2,h3⟩:=h
  have h1:=V.eq h1
  subst h1
  exact F9.cond hv (M.ok hmx x Γ _ o hΓ h2) (M.ok hmx y Γ _ o hΓ h3)
 |_,.K f x,Γ,c,o,hΓ,h=>by
  simp only[M.chk]at h
  refine aL1 hmx (fun r l σ=>Out.never _) true true fuel c ?_
  split at h<;>try(exact h.elim)
  rename_i all kb q tm hp fz nx hc
  split at h<;>try(exact h.elim)
  rename_i n l s d hg hq
  obtain⟨hb,h1,h2,h3⟩:=az2 h
  have h5:=V.eq h1
  simp only[aX2]at h5
  obtain⟨h6,rfl⟩:=h5
  refine bh1.pre fun t ht=>?_
  have hd:q.dst=some d:=dU6 hq
  have bO2:aR9 q.op=false:=dU7 hq
  exact bF0 hc (aj4.call ht hg hq (by rw[h6];exact f.ok) (fun hs=>by subst hs;exact congrFun (V.eq h2) t)) (fun d' hd'=>by rw[hd]at hd';cases hd';exact hb)
   (.old bO2) (M.ok hmx (x t) Γ _ o hΓ (h3 t))
 |_,.KG f nm x,Γ,c,o,hΓ,h=>by
  simp only[M.chk]at h
  refine aL1 hmx (fun r l σ=>Out.never _) true true fuel c ?_
  split at h<;>try(exact h.elim)
  ·rename_i all kb q r ks tm hp hc
   rw[hc]
   split at h<;>try(exact h.elim)
   rename_i n targs d hg hq hd
   generalize dP1 f.args f.hp targs hp=lm at h
   split at h<;>try(exact h.elim)
   rename_i ao0 aP2 hr1 hr2
   obtain⟨hb,h1,h2,h3⟩:=az2 h
   simp only[au2]at hb
   have h1:=V.eq h1
   have h2:=V.eq h2
   have hn:=bq5 hb.1.1
   subst hn
   have key:∀t,∃rt rh,aN6 (lm++dL2 f.nw nm) (f.res t)=some rt/\aS4 (lm++dL2 f.nw nm) (f.hp' t)=some rh/\((x t).chk Ev X.D5 X.nt Qf Γ (.O all kb r ks ⟨(d,rt)::tm,rh++ar3 lm hp⟩) o).den:=fun t=>by
    have h4:=h3 t
    dsimp only at h4
    split at h4
    ·rename_i rt rh e1 e2;exact⟨rt,rh,e1,e2,h4⟩
    ·exact h4.elim
   refine C3.g (dJ3:=fun t=>(key t).choose) (rhp:=fun t=>(key t).choose_spec.choose) lm (dL2 f.nw nm) f.ok (targs:=targs) (ao0:=ao0) (aP2:=aP2) (d:=d) (hp2:=ar3 lm hp) ?_ h1 h2
    (fun t=>(key t).choose_spec.choose_spec.1) (fun t=>(key t).choose_spec.choose_spec.2.1) (fun t ht=>M.ok hmx (x t) Γ _ o hΓ (key t).choose_spec.choose_spec.2.2)
   unfold dq2
   rw[aG3 hg]
   simp only[hq,hr1,hr2,hd,hb.2,hb.1.2,eY4,fh5]
  ·rename_i id dT3 h0 bs ws ops vs tm0 hp0 fz kb0 ks hc
   rw[hc]
   split at h<;>try(exact h.elim)
   rename_i all kb q tm hp fz' nx hh
   split at h<;>try(exact h.elim)
   rename_i n targs d hg hq hd
   split at h
   ·rename_i c
    split at h<;>try(exact h.elim)
    ·rename_i hhp
     split at h<;>try(exact h.elim)
     rename_i ao0 hr1
     obtain⟨hb,h1,h3⟩:=az2 h
     simp only[au2]at hb
     have h1:=V.eq h1
     have hn:=bq5 hb.1.1
     subst hn
     refine bh1.pre fun t ht=>?_
     have h4:=h3 t
     dsimp only at h4
     split at h4<;>try(exact h4.elim)
     rename_i r1 e2 sz2 n2 rs2 hr2
     split at h4<;>try(exact h4.elim)
     rename_i rt hr3
     have hok:=f.ok
     rw[hhp]at hok
     exact bJ6 hh (aj4.eW8 ht hok hg hq hd hb.1.2 hb.2 hr1 h1 hr3 hr2) (M.ok hmx (x t) Γ _ o hΓ h4)
    ·rename_i b1 e sz n1 rs v' e' sz' n1' rs' hhp hlk
     obtain⟨hb,h1,h2,h3⟩:=az2 h
     simp only[au2]at hb
     have h1:=V.eq h1
     have h2:=V.eq h2
     simp only[aX2]at h2
     obtain⟨rfl,rfl,rfl,rfl⟩:=h2
     have hn:=bq5 hb.1.1.1
     subst hn
     refine bh1.pre fun t ht=>?_
     have h4:=h3 t
     dsimp only at h4
     split at h4<;>try(exact h4.elim)
     rename_i r1 e2 sz2 n2 rs2 hr2
     split at h4<;>try(exact h4.elim)
     rename_i rt hr1
     have hok:=f.ok
     rw[hhp]at hok
     exact bJ6 hh (aj4.eW9 ht hok hg hq hd hlk hb.1.2 h1 hb.2 hr1 hr2) (M.ok hmx (x t) Γ _ o hΓ h4)
   generalize dP1 f.args f.hp targs hp=lm at h
   split at h<;>try(exact h.elim)
   rename_i ao0 aP2 hr1 hr2
   obtain⟨hb,h1,h2,h3⟩:=az2 h
   simp only[au2]at hb
   have h1:=V.eq h1
   have h2:=V.eq h2
   have hn:=bq5 hb.1.1.1
   subst hn
   refine bh1.pre fun t ht=>?_
   obtain⟨h4,h5⟩:=h3 t
   have h4:=V.eq h4
   split at h5<;>try(exact h5.elim)
   rename_i rt hrt
   exact bJ6 hh (aj4.eX0 lm ht f.ok hg hq hd hb.1.1.2 hr1 h1 hr2 h2 hb.1.2 hb.2 hrt h4) (M.ok hmx (x t) Γ _ o hΓ h5)
 |_,.O l x,Γ,c,o,hΓ,h=>by
  simp only[M.chk]at h
  refine aL1 hmx (fun r l σ=>Out.never _) true true fuel c ?_
  split at h<;>try(exact h.elim)
  rename_i all kb q tm hp fz nx hc
  split at h<;>try(exact h.elim)
  rename_i t res d hg hq hd
  obtain⟨hb,h1,h2⟩:=az2 h
  refine bh1.pre fun y hy=>?_
  exact bF0 hc (aj4.one hg hq h1 hy) (fun d' hd'=>by rw[hd]at hd';cases hd';exact hb) (.old (L1.dQ3 hq)) (M.ok hmx (x y) _ _ o (L1.known hΓ hy) (h2 y))
 |_,.W u x,Γ,c,o,hΓ,h=>by
  simp only[M.chk]at h
  refine aL1 hmx (fun r l σ=>Out.never _) true true fuel c ?_
  split at h<;>try(exact h.elim)
  rename_i all kb q tm hp fz nx hc
  split at h<;>try(exact h.elim)
  rename_i t V d hg hq hd
  obtain⟨hb,h1,h2⟩:=az2 h
  exact bF0 hc (aj4.known hΓ hg hq h1) (fun d' hd'=>by rw[hd]at hd';cases hd';exact hb) (.old (W1.dQ3 hq)) (M.ok hmx x _ _ o hΓ h2)
 |_,.U u x,Γ,c,o,hΓ,h=>by
  simp only[M.chk]at h
  refine aL1 hmx (fun r l σ=>Out.never _) true true fuel c ?_
  split at h<;>try(exact h.elim)
  ·rename_i all kb q r ks tm hp hc
   rw[hc]
   split at h<;>try(exact h.elim)
   rename_i t σ hg hq
   exact U1.ok hΓ hg hq h.1 fun y hy=>M.ok hmx (x y) _ (.O all kb r ks (σ y)) o (U1.known hΓ hy) (h.2 y)
  ·rename_i id all h0 bs ws ops vs tm0 hp0 fz kb ks hc
   rw[hc]
   split at h<;>try(exact h.elim)
   rename_i all' kb' q tm hp fz' nx hh
   split at h<;>try(exact h.elim)
   rename_i t f hg hq
   refine bh1.pre fun y hy=>?_
   exact bJ6 hh (U1.fa0 (all:=all') hΓ hg hq h.1 y hy) (M.ok hmx (x y) _ _ o (U1.known hΓ hy) (h.2 y))
 |_,.Mk enc n z x,Γ,c,o,hΓ,h=>by
  simp only[M.chk]at h
  refine aL1 hmx (fun r l σ=>Out.never _) true true fuel c ?_
  split at h<;>try(exact h.elim)
  rename_i all kb q tm hp fz nx hc
  split at h<;>try(exact h.elim)
  rename_i t a b d hg hop hd
  split at h<;>try(exact h.elim)
  rename_i k1 n1 k2 n2 s0 e z0 hx hy hty
  split at h<;>try(exact h.elim)
  rename_i te hte
  obtain⟨hb,h1,h2,h3⟩:=az2 h
  simp only[au2]at hb
  obtain⟨⟨⟨⟨⟨c1,c2⟩,c3⟩,c4⟩,c5⟩,c6⟩:=hb
  have h1:=V.eq h1
  have h2:=V.eq h2
  simp only[aX2]at h1
  obtain⟨rfl,rfl,rfl⟩:=h1
  refine bh1.pre fun y hy'=>?_
  have hs:=aj4.mk (ao8:=hp) hy' hop hd hg hx hy hty hte (bq5 c2) c3 h2 c4
  have bO2:aR9 q.op=true:=by rw[hop];rfl
  have h4:=h3 y
  have hdd:∀d',q.dst=some d'->ba2 d' X.nt=true:=fun d' hd'=>by rw[hd]at hd';cases hd';exact c1
  have hff:∀N,cr7 q N tm hp:=fun N=>⟨fun _ d' hd'=>by rw[hd]at hd';cases hd';rw[c5,c6];rfl,fun id h'=>by rw[dp3 bO2]at h';cases h'⟩
  cases hz:aD8 d fz<;>rw[hz]at h4
  ·exact bF0 hc hs hdd (hff _) (M.ok hmx (x y) Γ _ o hΓ h4)
  ·exact bF0 hc (hs.frz bO2 hd) hdd (hff _) (M.ok hmx (x y) Γ _ o hΓ h4)
 |_,.Z z x,Γ,c,o,hΓ,h=>by
  simp only[M.chk]at h
  refine aL1 hmx (fun r l σ=>Out.never _) (!x.isJ) (!x.isD) fuel c ?_
  split at h<;>try(exact h.elim)
  ·rename_i ks tm hp hc
   rw[hc]
   split at h<;>try(exact h.elim)
   rename_i σ hz
   exact Z1.eg3 hz (M.ok hmx x Γ (.S ks σ) o hΓ h)
  ·rename_i all kb ops ks tm hp hc
   rw[hc]
   split at h<;>try(exact h.elim)
   rename_i σ hz
   exact C3.via (fun k=>Z1.eg3 hz k) (M.ok hmx x Γ (.O all kb ops ks σ) o hΓ h)
  ·rename_i id tm hp hc
   rw[hc]
   split at h<;>try(exact h.elim)
   rename_i σ hz
   exact Z1.eg3 hz (M.ok hmx x Γ (.X id σ) o hΓ h)
 |_,.G b x y f,Γ,c,o,hΓ,h=>by
  simp only[M.chk]at h
  refine aL1 hmx (fun r l σ=>Out.never _) true true fuel c ?_
  split at h<;>try(exact h.elim)
  rename_i all kb ops ks tm hp hc
  rw[hc]
  split at h<;>try(exact h.elim)
  rename_i d b' g q r hg
  obtain⟨h1,h2,h3,h4⟩:=h
  have h1:=V.eq h1
  subst h1
  exact C3.grp hg (M.ok hmx x Γ _ _ hΓ h2) (M.ok hmx y Γ _ _ hΓ h3) (fun v=>M.ok hmx (f v) Γ _ o hΓ (h4 v))
 |_,.J0 n s x f,Γ,c,o,hΓ,h=>by
  have key:∀c':Cg ρ,(match c' with| .S (.c z::ks) σ=>Tr.and (x.chk Ev X.D5 X.nt Qf Γ (.S [.c z] σ) (fun v=>.nx (upd (s v) ⟨rmv (ak3 z) σ.tm,σ.hp⟩))) (.all fun v=>(f v).chk Ev X.D5 X.nt Qf Γ (.S ks (upd (s v) ⟨rmv (ak3 z) σ.tm,σ.hp⟩)) o)|_=>Tr.bad).den->
    bh1 X (QfP Qf) c' (M.run (.J0 n s x f)) (fun v e σ'=>(o v).den (QfP Qf) e σ'):=by
   intro c' h
   split at h<;>try(exact h.elim)
   rename_i z ks σ
   refine F9.bind (Q₁:=fun v e σ'=>(Out.nx (upd (s v) ⟨rmv (ak3 z) σ.tm,σ.hp⟩)).den (QfP Qf) e σ') (M.ok hmx x Γ (.S [.c z] σ) _ hΓ h.1) fun v e σ' _ hd=>?_
   obtain⟨rfl,hs⟩:=hd
   exact ad0.sub hs (M.ok hmx (f v) Γ (.S ks _) o hΓ (h.2 v))
  cases n with
  |zero=>rw[M.chk]at h;exact aL1 hmx (fun r l σ=>Out.never _) false true fuel c (key _ h)
  |succ n=>
   rw[M.chk]at h
   ·exact aL1 hmx (fun r l σ=>Out.never _) true false fuel c (key _ h)
   ·exact fun h=>by cases h
 |_,.J n s k x f g,Γ,c,o,hΓ,h=>by
  have key:∀c':Cg ρ,(match c' with| .S (.c z::ks) σ=>Tr.and (x.chk Ev X.D5 X.nt Qf Γ (.S [.c z] σ) (fun v=>match v with| .inl v=>.nx (upd (s v) ⟨rmv (ak3 z) σ.tm,σ.hp⟩)| .inr w=>de6 ⟨rmv (ak3 z) σ.tm,σ.hp⟩ (k.sh w))) (.and (.all fun v=>(f v).chk Ev X.D5 X.nt Qf Γ (.S ks (upd (s v) ⟨rmv (ak3 z) σ.tm,σ.hp⟩)) o) (k.all fun w sh=>(g w).chk Ev X.D5 X.nt Qf Γ (cont ks ⟨rmv (ak3 z) σ.tm,σ.hp⟩ sh) o))|_=>Tr.bad).den->
    bh1 X (QfP Qf) c' (M.run (.J n s k x f g)) (fun v e σ'=>(o v).den (QfP Qf) e σ'):=by
   intro c' h
   split at h<;>try(exact h.elim)
   rename_i z ks σ
   rw[M.run]
   refine F9.bind (M.ok hmx x Γ (.S [.c z] σ) _ hΓ h.1) fun v e σ' _ hd=>?_
   cases v with
   |inl v=>
    obtain⟨rfl,hs⟩:=hd
    exact ad0.sub hs (M.ok hmx (f v) Γ (.S ks _) o hΓ (h.2.1 v))
   |inr w=>exact cl8 hd (M.ok hmx (g w) Γ _ o hΓ (Kd.dD4 h.2.2 w))
  cases n with
  |zero=>rw[M.chk]at h;exact aL1 hmx (fun r l σ=>Out.never _) false true fuel c (key _ h)
  |succ n=>
   rw[M.chk]at h
   ·exact aL1 hmx (fun r l σ=>Out.never _) true true (n+1) c (key _ h)
   ·exact fun h=>by cases h
 |_,.JF n s x i,Γ,c,o,hΓ,h=>by
  rw[M.chk]at h
  refine aL1 hmx (fun r l σ=>Out.never _) true true n c ?_
  split at h<;>try(exact h.elim)
  rename_i z ks σ hc
  rw[hc]
  obtain⟨hne,h1,h2⟩:=az2 h
  have out:∀(v:_) (e:Exit) (σ':St),(eE0 (o v)).den (QfP Qf) e σ'->ad0 X ks e σ' (some v) (fun v e σ'=>(o v).den (QfP Qf) e σ'):=fun v e σ' hd=>by
   obtain⟨hn,hd⟩:=eE1 hd
   intro r hr a w hw
   cases hr
   cases e with
   |normal=>exact absurd rfl hn
   |exit id=>exact ay4 (dP6 hne) ⟨σ',hw,hd⟩
   |ret=>exact bs5 ks ⟨σ',hw,hd⟩
   |goto l=>exact absurd hd (Out.never _)
   |panic ch=>exact absurd hd ((Out.calm _).1 ch)
   |outgrown=>exact absurd hd (Out.calm _).2
  refine F9.bind (M.ok hmx x Γ (.S [.c z] σ) _ hΓ h1) fun v e σ' _ hd=>?_
  cases v with
  |next v=>
   obtain⟨rfl,hs⟩:=hd
   exact ad0.sub hs (aL1 (c:=.S ks _) hmx (fun r l σ=>Out.never _) true true fuel (dP0 (h2 v)))
  |brk v=>exact out _ e σ' hd
  |ret w=>exact out _ e σ' hd
 |_,.L (S:=S) (γ:=γ) hd nx k x s₀ f g,Γ,c,o,hΓ,h=>by
  rw[M.chk]at h
  refine aL1 hmx (fun r l σ=>Out.never _) true true fuel c ?_
  split at h<;>try(exact h.elim)
  rename_i z ks σ hc
  rw[hc]
  obtain⟨h1,h2,h3,h4⟩:=h
  rw[M.run]
  refine F9.loop (S:=S) (B:=S⊕γ) (fun a=>upd (hd a) ⟨rmv (ak3 z) σ.tm,σ.hp⟩) (fun(b:S⊕γ) e σ'=>match b with| .inl a'=>(Out.ex nx (upd (hd a') ⟨rmv (ak3 z) σ.tm,σ.hp⟩)).den (QfP Qf) e σ'| .inr w=>(de6 ⟨rmv (ak3 z) σ.tm,σ.hp⟩ (k.sh w)).den (QfP Qf) e σ') (cq4 h1) (fun a=>?_) (fun b e σ' _ hq=>?_)
  ·have:=M.ok hmx (x a) Γ (.S [.c z] (upd (hd a) ⟨rmv (ak3 z) σ.tm,σ.hp⟩)) _ hΓ (h2 a)
   refine fun r hr a w hw=>aM5 (fun e a w hp=>?_) _ _ _ _ (this r hr a w hw)
   obtain⟨σ',hs,hq⟩:=hp
   refine⟨σ',hs,?_⟩
   cases r with
   |inl s'=>exact hq
   |inr b=>
    cases b with
    |inl s'=>obtain⟨rfl,hs⟩:=hq;exact⟨by simp,rfl,hs⟩
    |inr w=>exact dw7 hq
  ·cases b with
   |inl a=>exact cl8 (s:=.ex nx (hd a)) hq (M.ok hmx (f a) Γ _ o hΓ (h3 a))
   |inr w=>exact cl8 hq (M.ok hmx (g w) Γ _ o hΓ (Kd.dD4 h4 w))
 |_,.LQ (S:=S) (γ:=γ) ri hd nx k x s₀ f g,Γ,c,o,hΓ,h=>by
  rw[M.chk]at h
  refine aL1 hmx (fun r l σ=>Out.never _) true true fuel c ?_
  split at h<;>try(exact h.elim)
  rename_i z ks σ hc
  rw[hc]
  obtain⟨h1,h2,h3,h4⟩:=h
  rw[M.run]
  refine F9.loop (S:=Int×S) (B:=S⊕γ) (fun a=>upd (.t ri (.t (tI a.1))::hd a.2) ⟨rmv (ak3 z) σ.tm,σ.hp⟩) (fun(b:S⊕γ) e σ'=>match b with| .inl a'=>(Out.ex nx (upd (hd a') ⟨rmv (ak3 z) σ.tm,σ.hp⟩)).den (QfP Qf) e σ'| .inr w=>(de6 ⟨rmv (ak3 z) σ.tm,σ.hp⟩ (k.sh w)).den (QfP Qf) e σ') (cq4 h1) (fun a=>?_) (fun b e σ' _ hq=>?_)
  ·have:=M.ok hmx (x a) Γ (.S [.c z] (upd (.t ri (.t (tI a.1))::hd a.2) ⟨rmv (ak3 z) σ.tm,σ.hp⟩)) _ hΓ (h2 a)
   refine fun r hr a w hw=>aM5 (fun e a w hp=>?_) _ _ _ _ (this r hr a w hw)
   obtain⟨σ',hs,hq⟩:=hp
   refine⟨σ',hs,?_⟩
   cases r with
   |inl s'=>exact hq
   |inr b=>
    cases b with
    |inl s'=>obtain⟨rfl,hs⟩:=hq;exact⟨by simp,rfl,hs⟩
    |inr w=>exact dw7 hq
  ·cases b with
   |inl a=>exact cl8 (s:=.ex nx (hd a)) hq (M.ok hmx (f a) Γ _ o hΓ (h3 a))
   |inr w=>exact cl8 hq (M.ok hmx (g w) Γ _ o hΓ (Kd.dD4 h4 w))
 |_,.A enc l i f,Γ,c,o,hΓ,h=>bh1.pre fun y hy=>M.ok hmx (f y) (⟨enc,l,i,y⟩::Γ) c o (fun g hg=>by
   rcases cr6.1 hg with rfl|hg
   ·exact hy
   ·exact hΓ g hg) (h y)
 |_,.B x,Γ,c,o,hΓ,h=>by
  simp only[M.chk]at h
  refine aL1 hmx (fun r l σ=>Out.never _) false true fuel c ?_
  split at h<;>try(exact h.elim)
  rename_i id z ks σ hc
  rw[hc]
  exact F9.block (M.ok hmx x Γ _ o hΓ h)
 |_,.D fz ws x,Γ,c,o,hΓ,h=>by
  simp only[M.chk]at h
  refine aL1 hmx (fun r l σ=>Out.never _) (!x.isJ) false fuel c ?_
  split at h<;>try(exact h.elim)
  rename_i id ops ks σ hc
  rw[hc]
  have:=M.ok hmx x Γ _ o hΓ h (by simp) rfl (fun i V N o b hi=>by simp at hi)
  exact fun r hr a w hw=>this r hr a w (hw.bN0 (fun k t hk=>(cm9 hk).2) (fun k b hk=>hk))
 |_,.Sp b x y,Γ,c,o,hΓ,h=>by
  simp only[M.chk]at h
  refine aL1 hmx (fun r l σ=>Out.never _) true true fuel c ?_
  split at h<;>try(exact h.elim)
  ·rename_i id all h0 bs ws q r vs tm0 hp0 fz kb ks hcc
   rw[hcc]
   split at h<;>try(exact h.elim)
   rename_i j b' hc
   obtain⟨h1,h2,h3⟩:=h
   have h1:=V.eq h1
   subst h1
   exact eT8 hc (M.ok hmx x Γ _ o hΓ h2) (M.ok hmx y Γ _ o hΓ h3)
  ·rename_i all kb q r ks tm hp hcc
   rw[hcc]
   split at h<;>try(exact h.elim)
   rename_i d b' hc
   obtain⟨h1,h2,h3⟩:=h
   have h1:=V.eq h1
   subst h1
   exact eH4 hc (M.ok hmx x Γ _ o hΓ h2) (M.ok hmx y Γ _ o hΓ h3)
 |_,.Nl enc l x y,Γ,c,o,hΓ,h=>by
  simp only[M.chk]at h
  refine aL1 hmx (fun r l σ=>Out.never _) true true fuel c ?_
  split at h<;>try(exact h.elim)
  rename_i all kb q r ks tm hp hc
  rw[hc]
  split at h<;>try(exact h.elim)
  rename_i t z yt d hg ho hd
  split at h<;>try(exact h.elim)
  rename_i s0 e z0 n rs hty hz
  obtain⟨hb,h1,h2,h3,h4⟩:=az2 h
  have h1:=V.eq h1
  subst h1
  have h2:=V.eq h2
  refine C3.isNil ho hd hb (aG3 hg) hty hz fun b hbl=>?_
  cases b
  ·exact M.ok hmx (y l) Γ (.O all kb r ks _) o hΓ h4
  ·have hl:=hbl rfl
   have e1:M.run (.Nl enc l x y)=x.run:=by rw[M.run,hl,h2]
   rw[e1]
   exact M.ok hmx x Γ (.O all kb r ks _) o hΓ h3
 |_,.Pn id x,Γ,c,o,hΓ,h=>by
  simp only[M.chk]at h
  refine aL1 hmx (fun r l σ=>Out.never _) (!x.isJ) false fuel c ?_
  split at h<;>try(exact h.elim)
  rename_i ks tm hp hc
  rw[hc]
  split at h<;>try(exact h.elim)
  rename_i e sz n rs hb
  intro r hr a w hw
  obtain⟨v,hv⟩:=hw.pin id hb
  exact M.ok hmx x Γ _ o hΓ (h v) r hr a w hv
 |_,.Mm id x,Γ,c,o,hΓ,h=>by
  simp only[M.chk]at h
  refine aL1 hmx (fun r l σ=>Out.never _) true true fuel c ?_
  split at h<;>try(exact h.elim)
  rename_i all kb q r ks tm hp hc
  rw[hc]
  split at h<;>try(exact h.elim)
  rename_i t d hg ho hd
  obtain⟨hb,h1⟩:=az2 h
  simp only[au2]at hb
  exact C3.eQ5 id ho hd hb.1 (aG3 hg) hb.2.1 hb.2.2.1 hb.2.2.2 (M.ok hmx x Γ (.O all kb r ks _) o hΓ h1)
 |_,.Ml m l k x,Γ,c,o,hΓ,h=>by
  simp only[M.chk]at h
  refine aL1 hmx (fun r l σ=>Out.never _) true true fuel c ?_
  split at h<;>try(exact h.elim)
  rename_i all kb q r ks tm hp hc
  rw[hc]
  split at h<;>try(exact h.elim)
  rename_i t a b d hg ho hd
  split at h<;>try(exact h.elim)
  rename_i id kv ha hb
  split at h<;>try(exact h.elim)
  rename_i es hl
  obtain⟨hb2,h1,h2⟩:=az2 h
  have h3:=V.eq h1
  simp only[aX2]at h3
  obtain⟨e1,e2,e3⟩:=h3
  subst e1 e2 e3
  letI:=m.beq
  exact C3.eo3 m.law ho hd hb2 (aG3 hg) ha hl hb m.ht m.hk m.hz (M.ok hmx x Γ (.O all kb r ks _) o hΓ h2)
 |_,.Mu m l k v x,Γ,c,o,hΓ,h=>by
  simp only[M.chk]at h
  refine aL1 hmx (fun r l σ=>Out.never _) true true fuel c ?_
  split at h<;>try(exact h.elim)
  rename_i all kb q r ks tm hp hc
  rw[hc]
  split at h<;>try(exact h.elim)
  rename_i t a b u hg ho hd
  split at h<;>try(exact h.elim)
  rename_i id kv uv ha hb hu
  split at h<;>try(exact h.elim)
  rename_i es hl
  obtain⟨h1,h2⟩:=h
  have h3:=V.eq h1
  simp only[aX2]at h3
  obtain⟨e1,e2,e3,e4⟩:=h3
  subst e1 e2 e3 e4
  letI:=m.beq
  exact C3.ew8 m.law ho hd (aG3 hg) ha hl hb hu m.ht m.hk (M.ok hmx x Γ (.O all kb r ks _) o hΓ h2)
end
section
variable {P:Program} {ρ:Type} {D5:Tab}
def qfF (D5:Tab)(rs:List ResultVar)(res:ρ->T)(r:ρ)(σ:St):Tr:=tq (dm9 D5 σ rs) (some (res r))
def nmG (t0 r:T)(hp hp':List (Nat×H6)):List (Nat×Nat):=
 match dd1 (mtT t0 r) []with
 |l=>match dd1 (boxes hp hp') l with
  |l=>rest hp' l
where
 boxes (hp:List (Nat×H6)):List (Nat×H6)->List (Nat×Nat)
  |[]=>[]
  |(j,.box us)::r=>(j,j)::(match look hp j with|some (.box ts)=>mtT.mtL ts us|_=>[])++boxes hp r
  |_::r=>boxes hp r
 has2 (j:Nat):List (Nat×Nat)->Bool
  |[]=>false
  |p::r=>bif bx3 p.2 j then true else has2 j r
 rest:List (Nat×H6)->List (Nat×Nat)->List (Nat×Nat)
  |[],l=>l
  |(j,_)::r,l=>bif has2 j l then rest r l else rest r (l++[(j,j)])
def qfG (D5:Tab)(rs:List ResultVar)(res:ρ->T)(hp':ρ->List (Nat×H6))(r:ρ)(σ:St):Tr:=
 match eA6 D5 σ rs with
 |some t0=>match nmG t0 (res r) σ.hp (hp' r)with
  |nm=>match aN6 nm t0 with
   |some t1=>bif cC6 nm&&bb7 (nm.map (·.1))then .and (tq (mrg t1 (res r)) (res r)) (tq ((hp' r).map (eA5 nm σ.hp)) ((hp' r).map fun p=>some p.2))else .bad
   |none=>.bad
 |none=>.bad
theorem eR6 {rs:List ResultVar}{res:ρ->T}{hp':ρ->List (Nat×H6)}{r:ρ}{σ:St}(h:(qfG D5 rs res hp' r σ).den):eL3 D5 σ rs (res r) (hp' r):=by
 unfold qfG at h
 split at h<;>try(exact h.elim)
 rename_i t0 h0
 dsimp only at h
 split at h<;>try(exact h.elim)
 rename_i t1 h1
 obtain⟨hb,h2,h3⟩:=az2 h
 exact⟨_,t0,t1,hb,h0,h1,V.eq h2,V.eq h3⟩
def eM8 (Ev:EqV P)(D5:Tab)(fn:Func)(args:List T)(res:ρ->T)(x:M P ρ ρ):Tr:=
 match fn.body with
 |some c=>bif dQ0 args.length fn.ntmps then x.chk Ev D5 fn.ntmps (qfF D5 fn.results.toList res) [] (.S [.c c] ⟨number 0 args,[]⟩) .top else .bad
 |none=>.bad
def eM9 (Ev:EqV P)(D5:Tab)(fn:Func)(args:List T)(hp:List (Nat×H6))(res:ρ->T)(hp':ρ->List (Nat×H6))(x:M P ρ ρ):Tr:=
 match fn.body with
 |some c=>bif dQ0 args.length fn.ntmps then x.chk Ev D5 fn.ntmps (qfG D5 fn.results.toList res hp') [] (.S [.c c] ⟨number 0 args,hp⟩) .top else .bad
 |none=>.bad
structure En (P:Program)where
 D5:Tab
 M7:aV6 P D5
 Ev:EqV P
 hmx:P.follows .mixedOrders=true
def C.of (Z:En P){n:Nat}{fn:Func}(aL7:∀vs w,(callFunc n vs).run P w= .ok (.enter n vs) w)(hf:P.funcs[n]? =some fn)(args:List T)(res:ρ->T)(x:M P ρ ρ)
  (h:(eM8 Z.Ev Z.D5 fn args res x).l=(eM8 Z.Ev Z.D5 fn args res x).r:=by kernel_rfl):C P ρ where
 n:=n
 args:=args
 m:=x.run
 e:=fun k=>x.rn k
 res:=res
 ok:=by
  have h:=Tr.of h
  unfold eM8 at h
  split at h<;>try(exact h.elim)
  rename_i c hb
  obtain⟨hle,h⟩:=az2 h
  refine aR1.i Z.M7 fn.ntmps fn.results.toList aL7 hf hb rfl rfl hle fun w0 L=>?_
  have key:F9 ⟨P,Z.D5,Z.M7,w0,L,fn.ntmps⟩ [.c c] _ x.run _:=M.ok (X:=⟨P,Z.D5,Z.M7,w0,L,fn.ntmps⟩) Z.hmx x [] _ .top (by simp) h
  refine fun r hr a w hw=>aM5 (fun e a w hq=>?_) _ _ _ _ (key r hr a w hw)
  obtain⟨σ',hs,he,hq⟩:=hq
  exact⟨σ',hs,he,V.eq hq⟩
 le:=fun k r hr=>M.le k x r hr
def CG.of (Z:En P){n:Nat}{fn:Func}(aL7:∀vs w,(callFunc n vs).run P w= .ok (.enter n vs) w)(hf:P.funcs[n]? =some fn)(args:List T)(hp:List (Nat×H6))(res:ρ->T)(hp':ρ->List (Nat×H6))(nw:List Nat)(x:M P ρ ρ)
  (h:(eM9 Z.Ev Z.D5 fn args hp res hp' x).l=(eM9 Z.Ev Z.D5 fn args hp res hp' x).r:=by kernel_rfl):CG P ρ where
 n:=n
 args:=args
 hp:=hp
 m:=x.run
 e:=fun k=>x.rn k
 res:=res
 hp':=hp'
 nw:=nw
 ok:=by
  have h:=Tr.of h
  unfold eM9 at h
  split at h<;>try(exact h.elim)
  rename_i c hb
  obtain⟨hle,h⟩:=az2 h
  refine bh9.i Z.M7 fn.ntmps fn.results.toList aL7 hf hb rfl rfl hle fun w0 L=>?_
  have key:F9 ⟨P,Z.D5,Z.M7,w0,L,fn.ntmps⟩ [.c c] _ x.run _:=M.ok (X:=⟨P,Z.D5,Z.M7,w0,L,fn.ntmps⟩) Z.hmx x [] _ .top (by simp) h
  refine fun r hr a w hw=>aM5 (fun e a w hq=>?_) _ _ _ _ (key r hr a w hw)
  obtain⟨σ',hs,he,hq⟩:=hq
  exact⟨σ',hs,he,eR6 hq⟩
 le:=fun k r hr=>M.le k x r hr
end
open Go.MapKept in
theorem eS7:KeyLaw .string (fun s:ByteArray=>.string s):=⟨fun a b=>by simp[Instr.sameNow],fun a=>by simp[IsKey],fun a b h=>by
 have e:a=b:=by
  obtain⟨a⟩:=a
  obtain⟨b⟩:=b
  have h2:(a==b)=true:=h
  rw[eq_of_beq h2]
 subst e
 simpa[Instr.sameBits]using h⟩
def dr7 {α:Type}:List α->Option (List α)
 |[]=>some []
 |_=>none
def eF4 {α:Type}:List α->Int->Option (List α)
 |[x],n=>if n=1 then some [x]else none
 |_,_=>none
def df5 {α:Type}(g:α->α->Option Int):List α->Option (List α)
 |[]=>some []
 |[x]=>match g x x with
  |some c=>bif decide (c<0)then none else some [x]
  |none=>none
 |_=>none
theorem dz4 {α:Type}{g g':α->α->Option Int}(hg:∀x y r,g' x y=some r->g x y=some r){l r:List α}(h:df5 g' l=some r):bU6 g l=some r:=by
 match l,h with
 |[],h=>
  have:cJ5 g ([]:List α):=⟨by simp,by simp,by simp,by simp,by simp,by simp⟩
  rw[bU7 this];rw[df5]at h;simpa using h
 |[x],h=>
  simp only[df5]at h
  split at h<;>try(cases h;done)
  rename_i c hc
  have hx:=hg x x c hc
  cases hn:decide (c<0)<;>rw[hn]at h<;>simp only[fh5,fh3,reduceCtorEq,aj7]at h
  have hl:ltM g x x=false:=by unfold ltM;rw[hx];simpa using hn
  have:cJ5 g [x]:=⟨by simp,by simp[hx],by simpa using hl,by simp[hl],by simp[hl],by simp⟩
  rw[bU7 this]
  simpa using h
 |_::_::_,h=>simp[df5]at h
def dG7 (x:Int):List Int->List Int
 |[]=>[x]
 |y::l=>bif decide (x<=y)then x::y::l else y::dG7 x l
def isI:List Int->List Int
 |[]=>[]
 |x::l=>dG7 x (isI l)
theorem cw1 (x:Int):∀l:List Int,(dG7 x l).Perm (x::l)
 |[]=>.refl _
 |y::l=>by
  unfold dG7
  cases decide (x<=y)
  ·exact((cw1 x l).cons y).trans (.swap x y l)
  ·exact .refl _
theorem du4:∀l:List Int,(isI l).Perm l
 |[]=>.refl _
 |x::l=>(cw1 x _).trans ((du4 l).cons x)
theorem cB3 (x:Int):∀{l:List Int},l.Pairwise (· <=·)->(dG7 x l).Pairwise (· <=·)
 |[],_=>by simp[dG7]
 |y::l,h=>by
  rw[ey1]at h
  unfold dG7
  cases hd:decide (x<=y)
  ·refine ey1.2 ⟨fun z hz=>?_,cB3 x h.2⟩
   rcases cr6.1 ((cw1 x l).mem_iff.1 hz)with rfl|hz
   ·have:=of_decide_eq_false hd;omega
   ·exact h.1 z hz
  ·have hxy:=of_decide_eq_true hd
   exact ey1.2 ⟨fun z hz=>by
    rcases cr6.1 hz with rfl|hz
    ·exact hxy
    ·have:=h.1 z hz;omega,ey1.2 h⟩
theorem cQ4:∀l:List Int,(isI l).Pairwise (· <=·)
 |[]=>.nil
 |x::l=>cB3 x (cQ4 l)
theorem cU6:∀{l m:List Int},l.Perm m->l.Pairwise (· <=·)->m.Pairwise (· <=·)->l=m
 |[],m,h,_,_=>(List.Perm.eq_nil h.symm).symm
 |x::l,[],h,_,_=>absurd h.length_eq (by simp)
 |x::l,y::m,h,hl,hm=>by
  rw[ey1]at hl hm
  have hxy:x=y:=by
   have h1:x∈y::m:=h.mem_iff.1 (bL5 ..)
   have h2:y∈x::l:=h.mem_iff.2 (bL5 ..)
   rcases cr6.1 h1 with e|h1
   ·exact e
   rcases cr6.1 h2 with e|h2
   ·exact e.symm
   have:=hl.1 y h2
   have:=hm.1 x h1
   omega
  subst hxy
  rw[cU6 h.cons_inv hl.2 hm.2]
def dJ9 (l:List Int):Option (List Int):=bif dQ0 l.length 1000 then some (isI l)else none
theorem eb6 {l r:List Int}(h:dJ9 l=some r):bU5 l=some r:=by
 unfold dJ9 at h
 cases hl:dQ0 l.length 1000<;>rw[hl]at h<;>simp only[fh5,fh3,reduceCtorEq,aj7]at h
 subst h
 have:=ba1 hl
 rw[cy3 (by omega)]
 congr 1
 refine cU6 ((List.mergeSort_perm ..).trans (du4 l).symm) ?_ (cQ4 l)
 have:=List.pairwise_mergeSort (le:=fun x y:Int=>decide (x<=y)) (fun a b c h1 h2=>by simp only[fh8]at h1 h2|-;omega) (fun a b=>by simp only[cx1,fh8];omega) l
 exact this.imp fun h=>of_decide_eq_true h
open Go
def eN6 (n:Int):List Tree:=[tK .u8 n]
@[ext] structure SMap where
 X:List Int
 Y:List Int
 Z:List (List Int)
def cO5 (x:SMap):List Tree:=[tS aI8 x.X,tS aI8 x.Y,tS (dn9 aI8) x.Z]
abbrev dg8 (x:SMap):T:=.agg [.t (tS aI8 x.X),.t (tS aI8 x.Y),.t (tS (dn9 aI8) x.Z)]
@[ext] structure A7 where
 X:List Int
 Y:List Int
def bJ2 (x:A7):List Tree:=[tS aI8 x.X,tS aI8 x.Y]
abbrev ci1 (x:A7):T:=.agg [.t (tS aI8 x.X),.t (tS aI8 x.Y)]
@[ext] structure ak0 where
 P:Int
 I:Int
 Low:Int
 aC5:Int
def dV7 (x:ak0):List Tree:=[tI x.P,tI x.I,tI x.Low,tI x.aC5]
abbrev dg7 (x:ak0):T:=.agg [.t (tI x.P),.t (tI x.I),.t (tI x.Low),.t (tI x.aC5)]
@[ext] structure p6 where
 Air:SMap
 D9:SMap
 j9:SMap
 R6:SMap
 C6:A7
 L2:A7
 V6:A7
 u6:A7
 G6:ak0
def aR6 (x:p6):List Tree:=[tS aI8 x.Air.X,tS aI8 x.Air.Y,tS (dn9 aI8) x.Air.Z,tS aI8 x.D9.X,tS aI8 x.D9.Y,tS (dn9 aI8) x.D9.Z,tS aI8 x.j9.X,tS aI8 x.j9.Y,tS (dn9 aI8) x.j9.Z,tS aI8 x.R6.X,tS aI8 x.R6.Y,tS (dn9 aI8) x.R6.Z,tS aI8 x.C6.X,tS aI8 x.C6.Y,tS aI8 x.L2.X,tS aI8 x.L2.Y,tS aI8 x.V6.X,tS aI8 x.V6.Y,tS aI8 x.u6.X,tS aI8 x.u6.Y,tI x.G6.P,tI x.G6.I,tI x.G6.Low,tI x.G6.aC5]
abbrev V5 (x:p6):T:=.agg [.t (tS aI8 x.Air.X),.t (tS aI8 x.Air.Y),.t (tS (dn9 aI8) x.Air.Z),.t (tS aI8 x.D9.X),.t (tS aI8 x.D9.Y),.t (tS (dn9 aI8) x.D9.Z),.t (tS aI8 x.j9.X),.t (tS aI8 x.j9.Y),.t (tS (dn9 aI8) x.j9.Z),.t (tS aI8 x.R6.X),.t (tS aI8 x.R6.Y),.t (tS (dn9 aI8) x.R6.Z),.t (tS aI8 x.C6.X),.t (tS aI8 x.C6.Y),.t (tS aI8 x.L2.X),.t (tS aI8 x.L2.Y),.t (tS aI8 x.V6.X),.t (tS aI8 x.V6.Y),.t (tS aI8 x.u6.X),.t (tS aI8 x.u6.Y),.t (tI x.G6.P),.t (tI x.G6.I),.t (tI x.G6.Low),.t (tI x.G6.aC5)]
@[ext] structure J4 where
 O5:Int
 N9:Int
 ac4:Int
 C4:Int
 H9:Int
 E9:Int
 an6:Int
def bE6 (x:J4):List Tree:=[tI x.O5,tI x.N9,tI x.ac4,tI x.C4,tI x.H9,tI x.E9,tI x.an6]
abbrev aM1 (x:J4):T:=.agg [.t (tI x.O5),.t (tI x.N9),.t (tI x.ac4),.t (tI x.C4),.t (tI x.H9),.t (tI x.E9),.t (tI x.an6)]
@[ext] structure o7 where
 z7:List Int
 P0:Int
def bR8 (x:o7):List Tree:=[tS aI8 x.z7,tI x.P0]
abbrev av0 (x:o7):T:=.agg [.t (tS aI8 x.z7),.t (tI x.P0)]
@[ext] structure L3 where
 At:Int
 C5:Int
 aF4:Int
 be0:Int
 be1:Int
def an7 (x:L3):List Tree:=[tI x.At,tI x.C5,tI x.aF4,tI x.be0,tI x.be1]
abbrev bd6 (x:L3):T:=.agg [.t (tI x.At),.t (tI x.C5),.t (tI x.aF4),.t (tI x.be0),.t (tI x.be1)]
@[ext] structure ab5 where
 cb3:Int
 To:Int
 ba5:Int
 Value:Int
def aj8 (x:ab5):List Tree:=[tI x.cb3,tI x.To,tI x.ba5,tI x.Value]
abbrev bO7 (x:ab5):T:=.agg [.t (tI x.cb3),.t (tI x.To),.t (tI x.ba5),.t (tI x.Value)]
@[ext] structure L4 where
 Value:Int
 O8:Int
 ai8:Bool
abbrev ci2 (x:L4):T:=.agg [.t (tI x.Value),.t (tI x.O8),.t (tB x.ai8)]
@[ext] structure B9 where
 Sum:Int
abbrev by4 (x:B9):T:=.agg [.t (tI x.Sum)]
@[ext] structure D0 where
 au3:Int
 aI6:Int
 Quiet:Int
def K5 (x:D0):List Tree:=[tI x.au3,tI x.aI6,tI x.Quiet]
abbrev aX4 (x:D0):T:=.agg [.t (tI x.au3),.t (tI x.aI6),.t (tI x.Quiet)]
@[ext] structure ad1 where
 Value:Int
 F2:Int
def ao5 (x:ad1):List Tree:=[tI x.Value,tI x.F2]
abbrev bV9 (x:ad1):T:=.agg [.t (tI x.Value),.t (tI x.F2)]
@[ext] structure I2 where
 Q8:Bool
 ay2:Bool
 P3:Int
 av7:Int
 Cells:List ad1
abbrev bt3 (x:I2):T:=.agg [.t (tB x.Q8),.t (tB x.ay2),.t (tI x.P3),.t (tI x.av7),.t (tS ao5 x.Cells)]
@[ext] structure N4 where
 j9:Int
 I7:Int
abbrev do4 (x:N4):T:=.agg [.t (tI x.j9),.t (tI x.I7)]
@[ext] structure z8 where
 C5:L4
 G6:B9
 R7:List D0
 B2:I2
 H9:Int
 L8:N4
def ca4 (x:z8):List Tree:=[tI x.C5.Value,tI x.C5.O8,tB x.C5.ai8,tI x.G6.Sum,tS K5 x.R7,tB x.B2.Q8,tB x.B2.ay2,tI x.B2.P3,tI x.B2.av7,tS ao5 x.B2.Cells,tI x.H9,tI x.L8.j9,tI x.L8.I7]
abbrev aR0 (x:z8):T:=.agg [.t (tI x.C5.Value),.t (tI x.C5.O8),.t (tB x.C5.ai8),.t (tI x.G6.Sum),.t (tS K5 x.R7),.t (tB x.B2.Q8),.t (tB x.B2.ay2),.t (tI x.B2.P3),.t (tI x.B2.av7),.t (tS ao5 x.B2.Cells),.t (tI x.H9),.t (tI x.L8.j9),.t (tI x.L8.I7)]
@[ext] structure B8 where
 L9:Bool
 At:Int
 E3:Int
 A0:Int
 M5:Int
 Q4:Int
abbrev bC2 (x:B8):T:=.agg [.t (tB x.L9),.t (tI x.At),.t (tI x.E3),.t (tI x.A0),.t (tI x.M5),.t (tI x.Q4)]
@[ext] structure o4 where
 F6:Bool
 At:Int
 Next:Bool
 M9:Bool
def G3 (x:o4):List Tree:=[tB x.F6,tI x.At,tB x.Next,tB x.M9]
abbrev ba4 (x:o4):T:=.agg [.t (tB x.F6),.t (tI x.At),.t (tB x.Next),.t (tB x.M9)]
@[ext] structure u5 where
 P8:Int
 j5:List o4
def cO8 (x:u5):List Tree:=[tI x.P8,tS G3 x.j5]
abbrev aO2 (x:u5):T:=.agg [.t (tI x.P8),.t (tS G3 x.j5)]
@[ext] structure A6 where
 w9:Int
 D9:Int
 L2:Int
 End:Int
 ag3:Int
 Gap:Int
 Extra:Int
def C1 (x:A6):List Tree:=[tI x.w9,tI x.D9,tI x.L2,tI x.End,tI x.ag3,tI x.Gap,tI x.Extra]
abbrev aQ2 (x:A6):T:=.agg [.t (tI x.w9),.t (tI x.D9),.t (tI x.L2),.t (tI x.End),.t (tI x.ag3),.t (tI x.Gap),.t (tI x.Extra)]
@[ext] structure C8 where
 E3:Int
 Kind:Int
 w9:Int
 aj9:Int
def ay6 (x:C8):List Tree:=[tI x.E3,tI x.Kind,tI x.w9,tI x.aj9]
abbrev aX3 (x:C8):T:=.agg [.t (tI x.E3),.t (tI x.Kind),.t (tI x.w9),.t (tI x.aj9)]
@[ext] structure A9 where
 Event:C8
 Left:Int
 F6:Bool
 At:Int
def K0 (x:A9):List Tree:=[tI x.Event.E3,tI x.Event.Kind,tI x.Event.w9,tI x.Event.aj9,tI x.Left,tB x.F6,tI x.At]
abbrev bd7 (x:A9):T:=.agg [.t (tI x.Event.E3),.t (tI x.Event.Kind),.t (tI x.Event.w9),.t (tI x.Event.aj9),.t (tI x.Left),.t (tB x.F6),.t (tI x.At)]
@[ext] structure j2 where
 o9:o7
 j8:B8
 j7:u5
 Next:List A6
 F3:List A9
 Cut:Bool
def bf1 (x:j2):List Tree:=[tS aI8 x.o9.z7,tI x.o9.P0,tB x.j8.L9,tI x.j8.At,tI x.j8.E3,tI x.j8.A0,tI x.j8.M5,tI x.j8.Q4,tI x.j7.P8,tS G3 x.j7.j5,tS C1 x.Next,tS K0 x.F3,tB x.Cut]
abbrev U6 (x:j2):T:=.agg [.t (tS aI8 x.o9.z7),.t (tI x.o9.P0),.t (tB x.j8.L9),.t (tI x.j8.At),.t (tI x.j8.E3),.t (tI x.j8.A0),.t (tI x.j8.M5),.t (tI x.j8.Q4),.t (tI x.j7.P8),.t (tS G3 x.j7.j5),.t (tS C1 x.Next),.t (tS K0 x.F3),.t (tB x.Cut)]
abbrev aM3 (x:j2):List T:=[.t (tS aI8 x.o9.z7),.t (tI x.o9.P0),.t (tB x.j8.L9),.t (tI x.j8.At),.t (tI x.j8.E3),.t (tI x.j8.A0),.t (tI x.j8.M5),.t (tI x.j8.Q4),.t (tI x.j7.P8),.t (tS G3 x.j7.j5),.t (tS C1 x.Next),.t (tS K0 x.F3),.t (tB x.Cut)]
@[ext] structure Q5 where
 Mode:Int
 Z5:Int
 E0:Int
 A0:Int
 I6:Int
 U2:Int
def dc1 (x:Q5):List Tree:=[tI x.Mode,tI x.Z5,tI x.E0,tI x.A0,tI x.I6,tI x.U2]
abbrev aM2 (x:Q5):T:=.agg [.t (tI x.Mode),.t (tI x.Z5),.t (tI x.E0),.t (tI x.A0),.t (tI x.I6),.t (tI x.U2)]
@[ext] structure Q0 where
 ap8:Bool
 aO3:Int
 F2:Int
 Seen:Bool
def cO6 (x:Q0):List Tree:=[tB x.ap8,tI x.aO3,tI x.F2,tB x.Seen]
abbrev aX5 (x:Q0):T:=.agg [.t (tB x.ap8),.t (tI x.aO3),.t (tI x.F2),.t (tB x.Seen)]
@[ext] structure N6 where
 Seen:Bool
 E0:Int
 A0:Int
def cA5 (x:N6):List Tree:=[tB x.Seen,tI x.E0,tI x.A0]
abbrev bc1 (x:N6):T:=.agg [.t (tB x.Seen),.t (tI x.E0),.t (tI x.A0)]
@[ext] structure U0 where
 Over:Int
 Calm:Int
 Off:Bool
def cO4 (x:U0):List Tree:=[tI x.Over,tI x.Calm,tB x.Off]
abbrev bm3 (x:U0):T:=.agg [.t (tI x.Over),.t (tI x.Calm),.t (tB x.Off)]
@[ext] structure W3 where
 Question:Int
 an5:Int
 U7:Int
 Open:Bool
 Off:Bool
def dc0 (x:W3):List Tree:=[tI x.Question,tI x.an5,tI x.U7,tB x.Open,tB x.Off]
abbrev aT3 (x:W3):T:=.agg [.t (tI x.Question),.t (tI x.an5),.t (tI x.U7),.t (tB x.Open),.t (tB x.Off)]
@[ext] structure V7 where
 T7:Bool
 az1:Int
 ao1:Int
def bv3 (x:V7):List Tree:=[tB x.T7,tI x.az1,tI x.ao1]
abbrev bm4 (x:V7):T:=.agg [.t (tB x.T7),.t (tI x.az1),.t (tI x.ao1)]
@[ext] structure A5 where
 Code:Int
 bq6:Int
 Pass:Int
 cD4:Int
 Age:Int
 G5:Int
 cr8:Bool
 Frame:Int
def O1 (x:A5):List Tree:=[tI x.Code,tI x.bq6,tI x.Pass,tI x.cD4,tI x.Age,tI x.G5,tB x.cr8,tI x.Frame]
abbrev aP3 (x:A5):T:=.agg [.t (tI x.Code),.t (tI x.bq6),.t (tI x.Pass),.t (tI x.cD4),.t (tI x.Age),.t (tI x.G5),.t (tB x.cr8),.t (tI x.Frame)]
@[ext] structure B1 where
 K7:Int
 F2:Int
 I4:Int
 Clean:Int
 A2:Int
 Frame:List Int
 E0:Int
def H3 (x:B1):List Tree:=[tI x.K7,tI x.F2,tI x.I4,tI x.Clean,tI x.A2,tS aI8 x.Frame,tI x.E0]
abbrev cJ1 (x:B1):T:=.agg [.t (tI x.K7),.t (tI x.F2),.t (tI x.I4),.t (tI x.Clean),.t (tI x.A2),.t (tS aI8 x.Frame),.t (tI x.E0)]
@[ext] structure B3 where
 K6:List A5
 L:List B1
 af1:Int
 S8:Bool
def bc6 (x:B3):List Tree:=[tS O1 x.K6,tS H3 x.L,tI x.af1,tB x.S8]
abbrev aB4 (x:B3):T:=.agg [.t (tS O1 x.K6),.t (tS H3 x.L),.t (tI x.af1),.t (tB x.S8)]
@[ext] structure O9 where
 F8:Int
 C9:Int
 Rest:Int
 G0:Int
 H9:Int
 Path:List Int
def cO7 (x:O9):List Tree:=[tI x.F8,tI x.C9,tI x.Rest,tI x.G0,tI x.H9,tS aI8 x.Path]
abbrev aX6 (x:O9):T:=.agg [.t (tI x.F8),.t (tI x.C9),.t (tI x.Rest),.t (tI x.G0),.t (tI x.H9),.t (tS aI8 x.Path)]
@[ext] structure Y9 where
 j3:p6
 j4:z8
 c8:j2
 D8:Q5
 D3:Q0
 B4:N6
 H4:U0
 H7:W3
 G1:V7
 C7:B3
 u3:O9
 E7:J4
 Time:Int
abbrev cb1 (x:Y9):T:=.agg [.t (tS aI8 x.j3.Air.X),.t (tS aI8 x.j3.Air.Y),.t (tS (dn9 aI8) x.j3.Air.Z),.t (tS aI8 x.j3.D9.X),.t (tS aI8 x.j3.D9.Y),.t (tS (dn9 aI8) x.j3.D9.Z),.t (tS aI8 x.j3.j9.X),.t (tS aI8 x.j3.j9.Y),.t (tS (dn9 aI8) x.j3.j9.Z),.t (tS aI8 x.j3.R6.X),.t (tS aI8 x.j3.R6.Y),.t (tS (dn9 aI8) x.j3.R6.Z),.t (tS aI8 x.j3.C6.X),.t (tS aI8 x.j3.C6.Y),.t (tS aI8 x.j3.L2.X),.t (tS aI8 x.j3.L2.Y),.t (tS aI8 x.j3.V6.X),.t (tS aI8 x.j3.V6.Y),.t (tS aI8 x.j3.u6.X),.t (tS aI8 x.j3.u6.Y),.t (tI x.j3.G6.P),.t (tI x.j3.G6.I),.t (tI x.j3.G6.Low),.t (tI x.j3.G6.aC5),.t (tI x.j4.C5.Value),.t (tI x.j4.C5.O8),.t (tB x.j4.C5.ai8),.t (tI x.j4.G6.Sum),.t (tS K5 x.j4.R7),.t (tB x.j4.B2.Q8),.t (tB x.j4.B2.ay2),.t (tI x.j4.B2.P3),.t (tI x.j4.B2.av7),.t (tS ao5 x.j4.B2.Cells),.t (tI x.j4.H9),.t (tI x.j4.L8.j9),.t (tI x.j4.L8.I7),.t (tS aI8 x.c8.o9.z7),.t (tI x.c8.o9.P0),.t (tB x.c8.j8.L9),.t (tI x.c8.j8.At),.t (tI x.c8.j8.E3),.t (tI x.c8.j8.A0),.t (tI x.c8.j8.M5),.t (tI x.c8.j8.Q4),.t (tI x.c8.j7.P8),.t (tS G3 x.c8.j7.j5),.t (tS C1 x.c8.Next),.t (tS K0 x.c8.F3),.t (tB x.c8.Cut),.t (tI x.D8.Mode),.t (tI x.D8.Z5),.t (tI x.D8.E0),.t (tI x.D8.A0),.t (tI x.D8.I6),.t (tI x.D8.U2),.t (tB x.D3.ap8),.t (tI x.D3.aO3),.t (tI x.D3.F2),.t (tB x.D3.Seen),.t (tB x.B4.Seen),.t (tI x.B4.E0),.t (tI x.B4.A0),.t (tI x.H4.Over),.t (tI x.H4.Calm),.t (tB x.H4.Off),.t (tI x.H7.Question),.t (tI x.H7.an5),.t (tI x.H7.U7),.t (tB x.H7.Open),.t (tB x.H7.Off),.t (tB x.G1.T7),.t (tI x.G1.az1),.t (tI x.G1.ao1),.t (tS O1 x.C7.K6),.t (tS H3 x.C7.L),.t (tI x.C7.af1),.t (tB x.C7.S8),.t (tI x.u3.F8),.t (tI x.u3.C9),.t (tI x.u3.Rest),.t (tI x.u3.G0),.t (tI x.u3.H9),.t (tS aI8 x.u3.Path),.t (tI x.E7.O5),.t (tI x.E7.N9),.t (tI x.E7.ac4),.t (tI x.E7.C4),.t (tI x.E7.H9),.t (tI x.E7.E9),.t (tI x.E7.an6),.t (tI x.Time)]
abbrev ee3 (x:Y9):List T:=[.t (tS aI8 x.j3.Air.X),.t (tS aI8 x.j3.Air.Y),.t (tS (dn9 aI8) x.j3.Air.Z),.t (tS aI8 x.j3.D9.X),.t (tS aI8 x.j3.D9.Y),.t (tS (dn9 aI8) x.j3.D9.Z),.t (tS aI8 x.j3.j9.X),.t (tS aI8 x.j3.j9.Y),.t (tS (dn9 aI8) x.j3.j9.Z),.t (tS aI8 x.j3.R6.X),.t (tS aI8 x.j3.R6.Y),.t (tS (dn9 aI8) x.j3.R6.Z),.t (tS aI8 x.j3.C6.X),.t (tS aI8 x.j3.C6.Y),.t (tS aI8 x.j3.L2.X),.t (tS aI8 x.j3.L2.Y),.t (tS aI8 x.j3.V6.X),.t (tS aI8 x.j3.V6.Y),.t (tS aI8 x.j3.u6.X),.t (tS aI8 x.j3.u6.Y),.t (tI x.j3.G6.P),.t (tI x.j3.G6.I),.t (tI x.j3.G6.Low),.t (tI x.j3.G6.aC5),.t (tI x.j4.C5.Value),.t (tI x.j4.C5.O8),.t (tB x.j4.C5.ai8),.t (tI x.j4.G6.Sum),.t (tS K5 x.j4.R7),.t (tB x.j4.B2.Q8),.t (tB x.j4.B2.ay2),.t (tI x.j4.B2.P3),.t (tI x.j4.B2.av7),.t (tS ao5 x.j4.B2.Cells),.t (tI x.j4.H9),.t (tI x.j4.L8.j9),.t (tI x.j4.L8.I7),.t (tS aI8 x.c8.o9.z7),.t (tI x.c8.o9.P0),.t (tB x.c8.j8.L9),.t (tI x.c8.j8.At),.t (tI x.c8.j8.E3),.t (tI x.c8.j8.A0),.t (tI x.c8.j8.M5),.t (tI x.c8.j8.Q4),.t (tI x.c8.j7.P8),.t (tS G3 x.c8.j7.j5),.t (tS C1 x.c8.Next),.t (tS K0 x.c8.F3),.t (tB x.c8.Cut),.t (tI x.D8.Mode),.t (tI x.D8.Z5),.t (tI x.D8.E0),.t (tI x.D8.A0),.t (tI x.D8.I6),.t (tI x.D8.U2),.t (tB x.D3.ap8),.t (tI x.D3.aO3),.t (tI x.D3.F2),.t (tB x.D3.Seen),.t (tB x.B4.Seen),.t (tI x.B4.E0),.t (tI x.B4.A0),.t (tI x.H4.Over),.t (tI x.H4.Calm),.t (tB x.H4.Off),.t (tI x.H7.Question),.t (tI x.H7.an5),.t (tI x.H7.U7),.t (tB x.H7.Open),.t (tB x.H7.Off),.t (tB x.G1.T7),.t (tI x.G1.az1),.t (tI x.G1.ao1),.t (tS O1 x.C7.K6),.t (tS H3 x.C7.L),.t (tI x.C7.af1),.t (tB x.C7.S8),.t (tI x.u3.F8),.t (tI x.u3.C9),.t (tI x.u3.Rest),.t (tI x.u3.G0),.t (tI x.u3.H9),.t (tS aI8 x.u3.Path),.t (tI x.E7.O5),.t (tI x.E7.N9),.t (tI x.E7.ac4),.t (tI x.E7.C4),.t (tI x.E7.H9),.t (tI x.E7.E9),.t (tI x.E7.an6),.t (tI x.Time)]
@[ext] structure o5 where
 At:Int
 Channel:Int
 M9:Bool
def y9 (x:o5):List Tree:=[tI x.At,tI x.Channel,tB x.M9]
abbrev aB5 (x:o5):T:=.agg [.t (tI x.At),.t (tI x.Channel),.t (tB x.M9)]
@[ext] structure X4 where
 T9:Int
 ag5:List Int
def Y4 (x:X4):List Tree:=[tI x.T9,tS aI8 x.ag5]
abbrev bV8 (x:X4):T:=.agg [.t (tI x.T9),.t (tS aI8 x.ag5)]
@[ext] structure Y2 where
 Time:Int
 C9:Int
 j9:Int
 dL4:Int
 bt4:List o5
 Q8:List X4
 Off:Bool
def aL3 (x:Y2):List Tree:=[tI x.Time,tI x.C9,tI x.j9,tI x.dL4,tS y9 x.bt4,tS Y4 x.Q8,tB x.Off]
abbrev aJ0 (x:Y2):T:=.agg [.t (tI x.Time),.t (tI x.C9),.t (tI x.j9),.t (tI x.dL4),.t (tS y9 x.bt4),.t (tS Y4 x.Q8),.t (tB x.Off)]
@[ext] structure ay3 where
 U2:Int
 aE4:Int
def ce7 (x:ay3):List Tree:=[tI x.U2,tI x.aE4]
abbrev aq5 (x:ay3):T:=.agg [.t (tI x.U2),.t (tI x.aE4)]
abbrev dC2 (x:(Int×Int×Int×Int×Int)):T:=.agg [.t (tI x.1),.t (tI x.2.1),.t (tI x.2.2.1),.t (tI x.2.2.2.1),.t (tI x.2.2.2.2)]
@[ext] structure I1 where
 word:ByteArray
 low:Int
 high:Int
abbrev cb2 (x:(I1×I1×I1×I1×I1)):T:=.agg [.t (.v (.string x.1.word)),.t (tI x.1.low),.t (tI x.1.high),.t (.v (.string x.2.1.word)),.t (tI x.2.1.low),.t (tI x.2.1.high),.t (.v (.string x.2.2.1.word)),.t (tI x.2.2.1.low),.t (tI x.2.2.1.high),.t (.v (.string x.2.2.2.1.word)),.t (tI x.2.2.2.1.low),.t (tI x.2.2.2.1.high),.t (.v (.string x.2.2.2.2.word)),.t (tI x.2.2.2.2.low),.t (tI x.2.2.2.2.high)]
@[ext] structure ci6 where
 by5:List Int
def cO3 (x:ci6):List Tree:=[tS aI8 x.by5]
abbrev bO8 (x:ci6):T:=.agg [.t (tS aI8 x.by5)]
@[ext] structure J9 where
 C4:Int
 N8:List A6
 j9:Int
def cm3 (x:J9):List Tree:=[tI x.C4,tS C1 x.N8,tI x.j9]
abbrev dC1 (x:J9):T:=.agg [.t (tI x.C4),.t (tS C1 x.N8),.t (tI x.j9)]
@[ext] structure o8 where
 u:Y9
 d:L3
 k:List ab5
 t:Int
 u0:Int
 X6:List X4
 Y5:Int
 A3:Int
 ak8:Int
 B0:Int
 V3:Int
 A4:J9
 G2:Int
 u9:Int
 known:Bool
 cut:Bool
 u4:List o5
 J7:Int
def bl6 (x:o8):List Tree:=[tS aI8 x.u.j3.Air.X,tS aI8 x.u.j3.Air.Y,tS (dn9 aI8) x.u.j3.Air.Z,tS aI8 x.u.j3.D9.X,tS aI8 x.u.j3.D9.Y,tS (dn9 aI8) x.u.j3.D9.Z,tS aI8 x.u.j3.j9.X,tS aI8 x.u.j3.j9.Y,tS (dn9 aI8) x.u.j3.j9.Z,tS aI8 x.u.j3.R6.X,tS aI8 x.u.j3.R6.Y,tS (dn9 aI8) x.u.j3.R6.Z,tS aI8 x.u.j3.C6.X,tS aI8 x.u.j3.C6.Y,tS aI8 x.u.j3.L2.X,tS aI8 x.u.j3.L2.Y,tS aI8 x.u.j3.V6.X,tS aI8 x.u.j3.V6.Y,tS aI8 x.u.j3.u6.X,tS aI8 x.u.j3.u6.Y,tI x.u.j3.G6.P,tI x.u.j3.G6.I,tI x.u.j3.G6.Low,tI x.u.j3.G6.aC5,tI x.u.j4.C5.Value,tI x.u.j4.C5.O8,tB x.u.j4.C5.ai8,tI x.u.j4.G6.Sum,tS K5 x.u.j4.R7,tB x.u.j4.B2.Q8,tB x.u.j4.B2.ay2,tI x.u.j4.B2.P3,tI x.u.j4.B2.av7,tS ao5 x.u.j4.B2.Cells,tI x.u.j4.H9,tI x.u.j4.L8.j9,tI x.u.j4.L8.I7,tS aI8 x.u.c8.o9.z7,tI x.u.c8.o9.P0,tB x.u.c8.j8.L9,tI x.u.c8.j8.At,tI x.u.c8.j8.E3,tI x.u.c8.j8.A0,tI x.u.c8.j8.M5,tI x.u.c8.j8.Q4,tI x.u.c8.j7.P8,tS G3 x.u.c8.j7.j5,tS C1 x.u.c8.Next,tS K0 x.u.c8.F3,tB x.u.c8.Cut,tI x.u.D8.Mode,tI x.u.D8.Z5,tI x.u.D8.E0,tI x.u.D8.A0,tI x.u.D8.I6,tI x.u.D8.U2,tB x.u.D3.ap8,tI x.u.D3.aO3,tI x.u.D3.F2,tB x.u.D3.Seen,tB x.u.B4.Seen,tI x.u.B4.E0,tI x.u.B4.A0,tI x.u.H4.Over,tI x.u.H4.Calm,tB x.u.H4.Off,tI x.u.H7.Question,tI x.u.H7.an5,tI x.u.H7.U7,tB x.u.H7.Open,tB x.u.H7.Off,tB x.u.G1.T7,tI x.u.G1.az1,tI x.u.G1.ao1,tS O1 x.u.C7.K6,tS H3 x.u.C7.L,tI x.u.C7.af1,tB x.u.C7.S8,tI x.u.u3.F8,tI x.u.u3.C9,tI x.u.u3.Rest,tI x.u.u3.G0,tI x.u.u3.H9,tS aI8 x.u.u3.Path,tI x.u.E7.O5,tI x.u.E7.N9,tI x.u.E7.ac4,tI x.u.E7.C4,tI x.u.E7.H9,tI x.u.E7.E9,tI x.u.E7.an6,tI x.u.Time,tI x.d.At,tI x.d.C5,tI x.d.aF4,tI x.d.be0,tI x.d.be1,tS aj8 x.k,tI x.t,tI x.u0,tS Y4 x.X6,tI x.Y5,tI x.A3,tI x.ak8,tI x.B0,tI x.V3,tI x.A4.C4,tS C1 x.A4.N8,tI x.A4.j9,tI x.G2,tI x.u9,tB x.known,tB x.cut,tS y9 x.u4,tI x.J7]
abbrev I0 (x:o8):List T:=[.t (tS aI8 x.u.j3.Air.X),.t (tS aI8 x.u.j3.Air.Y),.t (tS (dn9 aI8) x.u.j3.Air.Z),.t (tS aI8 x.u.j3.D9.X),.t (tS aI8 x.u.j3.D9.Y),.t (tS (dn9 aI8) x.u.j3.D9.Z),.t (tS aI8 x.u.j3.j9.X),.t (tS aI8 x.u.j3.j9.Y),.t (tS (dn9 aI8) x.u.j3.j9.Z),.t (tS aI8 x.u.j3.R6.X),.t (tS aI8 x.u.j3.R6.Y),.t (tS (dn9 aI8) x.u.j3.R6.Z),.t (tS aI8 x.u.j3.C6.X),.t (tS aI8 x.u.j3.C6.Y),.t (tS aI8 x.u.j3.L2.X),.t (tS aI8 x.u.j3.L2.Y),.t (tS aI8 x.u.j3.V6.X),.t (tS aI8 x.u.j3.V6.Y),.t (tS aI8 x.u.j3.u6.X),.t (tS aI8 x.u.j3.u6.Y),.t (tI x.u.j3.G6.P),.t (tI x.u.j3.G6.I),.t (tI x.u.j3.G6.Low),.t (tI x.u.j3.G6.aC5),.t (tI x.u.j4.C5.Value),.t (tI x.u.j4.C5.O8),.t (tB x.u.j4.C5.ai8),.t (tI x.u.j4.G6.Sum),.t (tS K5 x.u.j4.R7),.t (tB x.u.j4.B2.Q8),.t (tB x.u.j4.B2.ay2),.t (tI x.u.j4.B2.P3),.t (tI x.u.j4.B2.av7),.t (tS ao5 x.u.j4.B2.Cells),.t (tI x.u.j4.H9),.t (tI x.u.j4.L8.j9),.t (tI x.u.j4.L8.I7),.t (tS aI8 x.u.c8.o9.z7),.t (tI x.u.c8.o9.P0),.t (tB x.u.c8.j8.L9),.t (tI x.u.c8.j8.At),.t (tI x.u.c8.j8.E3),.t (tI x.u.c8.j8.A0),.t (tI x.u.c8.j8.M5),.t (tI x.u.c8.j8.Q4),.t (tI x.u.c8.j7.P8),.t (tS G3 x.u.c8.j7.j5),.t (tS C1 x.u.c8.Next),.t (tS K0 x.u.c8.F3),.t (tB x.u.c8.Cut),.t (tI x.u.D8.Mode),.t (tI x.u.D8.Z5),.t (tI x.u.D8.E0),.t (tI x.u.D8.A0),.t (tI x.u.D8.I6),.t (tI x.u.D8.U2),.t (tB x.u.D3.ap8),.t (tI x.u.D3.aO3),.t (tI x.u.D3.F2),.t (tB x.u.D3.Seen),.t (tB x.u.B4.Seen),.t (tI x.u.B4.E0),.t (tI x.u.B4.A0),.t (tI x.u.H4.Over),.t (tI x.u.H4.Calm),.t (tB x.u.H4.Off),.t (tI x.u.H7.Question),.t (tI x.u.H7.an5),.t (tI x.u.H7.U7),.t (tB x.u.H7.Open),.t (tB x.u.H7.Off),.t (tB x.u.G1.T7),.t (tI x.u.G1.az1),.t (tI x.u.G1.ao1),.t (tS O1 x.u.C7.K6),.t (tS H3 x.u.C7.L),.t (tI x.u.C7.af1),.t (tB x.u.C7.S8),.t (tI x.u.u3.F8),.t (tI x.u.u3.C9),.t (tI x.u.u3.Rest),.t (tI x.u.u3.G0),.t (tI x.u.u3.H9),.t (tS aI8 x.u.u3.Path),.t (tI x.u.E7.O5),.t (tI x.u.E7.N9),.t (tI x.u.E7.ac4),.t (tI x.u.E7.C4),.t (tI x.u.E7.H9),.t (tI x.u.E7.E9),.t (tI x.u.E7.an6),.t (tI x.u.Time),.t (tI x.d.At),.t (tI x.d.C5),.t (tI x.d.aF4),.t (tI x.d.be0),.t (tI x.d.be1),.t (tS aj8 x.k),.t (tI x.t),.t (tI x.u0),.t (tS Y4 x.X6),.t (tI x.Y5),.t (tI x.A3),.t (tI x.ak8),.t (tI x.B0),.t (tI x.V3),.t (tI x.A4.C4),.t (tS C1 x.A4.N8),.t (tI x.A4.j9),.t (tI x.G2),.t (tI x.u9),.t (tB x.known),.t (tB x.cut),.t (tS y9 x.u4),.t (tI x.J7)]
abbrev do5 (x:(Bool×Bool×Bool×Bool×Bool×Bool×Bool)):T:=.agg [.t (tB x.1),.t (tB x.2.1),.t (tB x.2.2.1),.t (tB x.2.2.2.1),.t (tB x.2.2.2.2.1),.t (tB x.2.2.2.2.2.1),.t (tB x.2.2.2.2.2.2)]
@[ext] structure W8 where
 Name:ByteArray
 cZ3:Int
 G5:Int
 ag5:List Int
 ci4:Int
def ae3 (x:W8):List Tree:=[.v (.string x.Name),tI x.cZ3,tI x.G5,tS aI8 x.ag5,tI x.ci4]
abbrev cz2 (x:W8):T:=.agg [.t (.v (.string x.Name)),.t (tI x.cZ3),.t (tI x.G5),.t (tS aI8 x.ag5),.t (tI x.ci4)]
@[ext] structure j6 where
 I7:Int
 Kind:Int
 j9:Int
 G5:Int
def E4 (x:j6):List Tree:=[tI x.I7,tI x.Kind,tI x.j9,tI x.G5]
abbrev I3 (x:j6):T:=.agg [.t (tI x.I7),.t (tI x.Kind),.t (tI x.j9),.t (tI x.G5)]
@[ext] structure X5 where
 bo7:Int
 bo8:Int
 C9:Int
 G0:Int
 C6:Int
 az4:Int
 Lambda:Int
 ap5:Int
 W7:List Int
 Requests:List j6
abbrev cZ0 (x:X5):T:=.agg [.t (tI x.bo7),.t (tI x.bo8),.t (tI x.C9),.t (tI x.G0),.t (tI x.C6),.t (tI x.az4),.t (tI x.Lambda),.t (tI x.ap5),.t (tS aI8 x.W7),.t (tS E4 x.Requests)]
@[ext] structure ee8 where
 eV8:Int
 C9:Int
abbrev eL0 (x:ee8):T:=.agg [.t (tI x.eV8),.t (tI x.C9)]
@[ext] structure p7 where
 t:p6
 e:o7
 b:J4
 c:z8
 i:X5
 wanted:Int
 u9:Int
 X2:Int
 late:Int
 pattern:List Bool
 time:Int
 out:J9
 fail:Int
abbrev T3 (x:p7):List T:=[.t (tS aI8 x.t.Air.X),.t (tS aI8 x.t.Air.Y),.t (tS (dn9 aI8) x.t.Air.Z),.t (tS aI8 x.t.D9.X),.t (tS aI8 x.t.D9.Y),.t (tS (dn9 aI8) x.t.D9.Z),.t (tS aI8 x.t.j9.X),.t (tS aI8 x.t.j9.Y),.t (tS (dn9 aI8) x.t.j9.Z),.t (tS aI8 x.t.R6.X),.t (tS aI8 x.t.R6.Y),.t (tS (dn9 aI8) x.t.R6.Z),.t (tS aI8 x.t.C6.X),.t (tS aI8 x.t.C6.Y),.t (tS aI8 x.t.L2.X),.t (tS aI8 x.t.L2.Y),.t (tS aI8 x.t.V6.X),.t (tS aI8 x.t.V6.Y),.t (tS aI8 x.t.u6.X),.t (tS aI8 x.t.u6.Y),.t (tI x.t.G6.P),.t (tI x.t.G6.I),.t (tI x.t.G6.Low),.t (tI x.t.G6.aC5),.t (tS aI8 x.e.z7),.t (tI x.e.P0),.t (tI x.b.O5),.t (tI x.b.N9),.t (tI x.b.ac4),.t (tI x.b.C4),.t (tI x.b.H9),.t (tI x.b.E9),.t (tI x.b.an6),.t (tI x.c.C5.Value),.t (tI x.c.C5.O8),.t (tB x.c.C5.ai8),.t (tI x.c.G6.Sum),.t (tS K5 x.c.R7),.t (tB x.c.B2.Q8),.t (tB x.c.B2.ay2),.t (tI x.c.B2.P3),.t (tI x.c.B2.av7),.t (tS ao5 x.c.B2.Cells),.t (tI x.c.H9),.t (tI x.c.L8.j9),.t (tI x.c.L8.I7),.t (tI x.i.bo7),.t (tI x.i.bo8),.t (tI x.i.C9),.t (tI x.i.G0),.t (tI x.i.C6),.t (tI x.i.az4),.t (tI x.i.Lambda),.t (tI x.i.ap5),.t (tS aI8 x.i.W7),.t (tS E4 x.i.Requests),.t (tI x.wanted),.t (tI x.u9),.t (tI x.X2),.t (tI x.late),.t (tS Pv.dF7 x.pattern),.t (tI x.time),.t (tI x.out.C4),.t (tS C1 x.out.N8),.t (tI x.out.j9),.t (tI x.fail)]
@[ext] structure aq6 where
 u3:O9
 b:J4
abbrev bd8 (x:aq6):List T:=[.t (tI x.u3.F8),.t (tI x.u3.C9),.t (tI x.u3.Rest),.t (tI x.u3.G0),.t (tI x.u3.H9),.t (tS aI8 x.u3.Path),.t (tI x.b.O5),.t (tI x.b.N9),.t (tI x.b.ac4),.t (tI x.b.C4),.t (tI x.b.H9),.t (tI x.b.E9),.t (tI x.b.an6)]
@[ext] structure z6 where
 low:Int
 high:Int
 source:Int
abbrev cD3 (x:z6):T:=.agg [.t (tI x.low),.t (tI x.high),.t (tI x.source)]
@[ext] structure j1 where
 x:C8
 cF7:Int
def B6 (x:j1):List Tree:=[tI x.x.E3,tI x.x.Kind,tI x.x.w9,tI x.x.aj9,tI x.cF7]
abbrev B5 (x:j1):T:=.agg [.t (tI x.x.E3),.t (tI x.x.Kind),.t (tI x.x.w9),.t (tI x.x.aj9),.t (tI x.cF7)]
def dM7 (P:Program):List Field->Option (List (Nat×Nat))
 |[]=>some []
 |f::l=>(P.info? f.type).bind fun i=>(dM7 P l).map fun r=>(f.offset,i.size)::r
def ej1 (P:Program):TypeDesc->Option TD
 | .int k=>some (.int k)
 | .bool=>some .bool
 | .string=>some .string
 | .slice e=>some (.slice e)
 | .array n e=>some (.array n e)
 | .struct fs=>(dM7 P fs.toList).map TD.struct
 |_=>some .other
def eT2 (P:Program)(t:Nat):Option TI:=
 (P.info? t).bind fun i=>(P.underlying t).bind fun d=>i.zero.bind fun z=>(ej1 P d).bind fun x=>bif dQ0 i.bytes 65536 then some ⟨i.size,x,z.cells.toList⟩else none
def ev2 (P:Program):List Nat->Option Tab
 |[]=>some []
 |t::l=>(eT2 P t).bind fun i=>(ev2 P l).map fun r=>(t,i)::r
theorem dr4 {P:Program}:∀{fs:List Field}{l:List (Nat×Nat)},dM7 P fs=some l->l.length=fs.length/\∀(f o n:Nat),l[f]? =some (o,n)->∃(fd:Field) (i:TypeInfo),fs[f]? =some fd/\fd.offset=o/\P.info? fd.type=some i/\i.size=n
 |[],l,h=>by cases h;exact⟨rfl,fun f o n h=>by simp at h⟩
 |x::fs,l,h=>by
  simp only[dM7,eY2,eC7]at h
  obtain⟨i,h1,r,h2,rfl⟩:=h
  obtain⟨h3,h4⟩:=dr4 h2
  refine⟨by simp[h3],fun f o n hf=>?_⟩
  cases f with
  |zero=>simp only[cZ9,aj7,aX2]at hf;exact⟨x,i,rfl,hf.1,h1,hf.2⟩
  |succ f=>simp only[List.getElem?_cons_succ]at hf|-;exact h4 f o n hf
theorem ej2 {P:Program}{d:TypeDesc}{x:TD}(h:ej1 P d=some x):x.ok P d:=by
 cases d<;>simp only[ej1]at h<;>try(cases h;first|rfl|trivial)
 rename_i fs
 rw[eC7]at h
 obtain⟨l,h1,rfl⟩:=h
 obtain⟨h2,h3⟩:=dr4 h1
 refine⟨fs,rfl,by simpa using h2,fun f o n hf=>?_⟩
 obtain⟨fd,i,h4,h5⟩:=h3 f o n hf
 exact⟨fd,i,by simpa using h4,h5⟩
theorem dn7 {P:Program}{t:Nat}{i:TI}(h:eT2 P t=some i):bh8 P t i:=by
 simp only[eT2,eY2]at h
 obtain⟨a,h1,d,h2,z,h3,x,h4,h5⟩:=h
 cases hb:dQ0 a.bytes 65536
 ·rw[hb]at h5;cases h5
 ·rw[hb]at h5;cases h5
  exact⟨a,d,h1,rfl,h2,ej2 h4,⟨z,h3,rfl⟩,ba1 hb⟩
theorem dA6 {P:Program}:∀{l:List Nat}{D5:Tab},ev2 P l=some D5->aV6 P D5
 |[],D5,h=>by cases h;intro t ti h;cases h
 |t::l,D5,h=>by
  simp only[ev2,eY2,eC7]at h
  obtain⟨i,h1,r,h2,rfl⟩:=h
  exact fun u ti hu=>ev3 hu (dn7 h1) fun hu=>dA6 h2 u ti hu
end Go.Pv
namespace Go.Proofs.YtfplhihoadkhlaaGreat
open Go Go.Pv Go.Proofs
set_option maxHeartbeats 4000000
theorem mixed:Tryz.prog.follows .mixedOrders=true:=by kernel_rfl
def H5:Value:=.int .i64 0
def vs0:Value:=.slice none 0 0
def D5:Tab:=[(3,⟨1,.int .i64,[H5]⟩),
 (4,⟨1,.bool,[.bool false]⟩),
 (5,⟨1,.int .u8,[.int .u8 0]⟩),
 (9,⟨1,.string,[.string (ByteArray.mk #[])]⟩),
 (22,⟨1,.slice 3,[vs0]⟩),
 (23,⟨1,.slice 22,[vs0]⟩),
 (25,⟨3,.struct [(0,1),(1,1),(2,1)],[vs0,vs0,vs0]⟩),
 (27,⟨2,.struct [(0,1),(1,1)],[vs0,vs0]⟩),
 (29,⟨4,.struct [(0,1),(1,1),(2,1),(3,1)],[H5,H5,H5,H5]⟩),
 (31,⟨24,.struct [(0,3),(3,3),(6,3),(9,3),(12,2),(14,2),(16,2),(18,2),(20,4)],[vs0,vs0,vs0,vs0,vs0,vs0,vs0,vs0,vs0,vs0,vs0,vs0,vs0,vs0,vs0,vs0,vs0,vs0,vs0,vs0,H5,H5,H5,H5]⟩),
 (33,⟨7,.struct [(0,1),(1,1),(2,1),(3,1),(4,1),(5,1),(6,1)],[H5,H5,H5,H5,H5,H5,H5]⟩),
 (35,⟨2,.struct [(0,1),(1,1)],[vs0,H5]⟩),
 (36,⟨1,.slice 97,[vs0]⟩),
 (37,⟨1,.slice 118,[vs0]⟩),
 (43,⟨3,.struct [(0,1),(1,1),(2,1)],[H5,H5,.bool false]⟩),
 (45,⟨1,.struct [(0,1)],[H5]⟩),
 (46,⟨1,.slice 233,[vs0]⟩),
 (47,⟨1,.slice 330,[vs0]⟩),
 (49,⟨5,.struct [(0,1),(1,1),(2,1),(3,1),(4,1)],[.bool false,.bool false,H5,H5,vs0]⟩),
 (51,⟨2,.struct [(0,1),(1,1)],[H5,H5]⟩),
 (53,⟨13,.struct [(0,3),(3,1),(4,1),(5,5),(10,1),(11,2)],[H5,H5,.bool false,H5,vs0,.bool false,.bool false,H5,H5,vs0,H5,H5,H5]⟩),
 (55,⟨6,.struct [(0,1),(1,1),(2,1),(3,1),(4,1),(5,1)],[.bool false,H5,H5,H5,H5,H5]⟩),
 (56,⟨1,.slice 217,[vs0]⟩),
 (58,⟨2,.struct [(0,1),(1,1)],[H5,vs0]⟩),
 (59,⟨1,.slice 220,[vs0]⟩),
 (60,⟨1,.slice 158,[vs0]⟩),
 (62,⟨13,.struct [(0,2),(2,6),(8,2),(10,1),(11,1),(12,1)],[vs0,H5,.bool false,H5,H5,H5,H5,H5,H5,vs0,vs0,vs0,.bool false]⟩),
 (64,⟨6,.struct [(0,1),(1,1),(2,1),(3,1),(4,1),(5,1)],[H5,H5,H5,H5,H5,H5]⟩),
 (66,⟨4,.struct [(0,1),(1,1),(2,1),(3,1)],[.bool false,H5,H5,.bool false]⟩),
 (68,⟨3,.struct [(0,1),(1,1),(2,1)],[.bool false,H5,H5]⟩),
 (70,⟨3,.struct [(0,1),(1,1),(2,1)],[H5,H5,.bool false]⟩),
 (72,⟨5,.struct [(0,1),(1,1),(2,1),(3,1),(4,1)],[H5,H5,H5,.bool false,.bool false]⟩),
 (74,⟨3,.struct [(0,1),(1,1),(2,1)],[.bool false,H5,H5]⟩),
 (75,⟨1,.slice 141,[vs0]⟩),
 (76,⟨1,.slice 166,[vs0]⟩),
 (78,⟨4,.struct [(0,1),(1,1),(2,1),(3,1)],[vs0,vs0,H5,.bool false]⟩),
 (80,⟨6,.struct [(0,1),(1,1),(2,1),(3,1),(4,1),(5,1)],[H5,H5,H5,H5,H5,vs0]⟩),
 (82,⟨92,.struct [(0,24),(24,13),(37,13),(50,6),(56,4),(60,3),(63,3),(66,5),(71,3),(74,4),(78,6),(84,7),(91,1)],[vs0,vs0,vs0,vs0,vs0,vs0,vs0,vs0,vs0,vs0,vs0,vs0,vs0,vs0,vs0,vs0,vs0,vs0,vs0,vs0,H5,H5,H5,H5,H5,H5,.bool false,H5,vs0,.bool false,.bool false,H5,H5,vs0,H5,H5,H5,vs0,H5,.bool false,H5,H5,H5,H5,H5,H5,vs0,vs0,vs0,.bool false,H5,H5,H5,H5,H5,H5,.bool false,H5,H5,.bool false,.bool false,H5,H5,H5,H5,.bool false,H5,H5,H5,.bool false,.bool false,.bool false,H5,H5,vs0,vs0,H5,.bool false,H5,H5,H5,H5,H5,vs0,H5,H5,H5,H5,H5,H5,H5,H5]⟩),
 (83,⟨1,.int .i64,[H5]⟩),
 (87,⟨1,.slice 94,[vs0]⟩),
 (91,⟨1,.slice 203,[vs0]⟩),
 (92,⟨1,.slice 201,[vs0]⟩),
 (94,⟨7,.struct [(0,1),(1,1),(2,1),(3,1),(4,1),(5,1),(6,1)],[H5,H5,H5,H5,vs0,vs0,.bool false]⟩),
 (97,⟨5,.struct [(0,1),(1,1),(2,1),(3,1),(4,1)],[H5,H5,H5,H5,H5]⟩),
 (106,⟨2,.struct [(0,1),(1,1)],[H5,H5]⟩),
 (112,⟨1,.slice 25,[vs0]⟩),
 (115,⟨1,.slice 27,[vs0]⟩),
 (118,⟨4,.struct [(0,1),(1,1),(2,1),(3,1)],[H5,H5,H5,H5]⟩),
 (119,⟨5,.array 5 3,[H5,H5,H5,H5,H5]⟩),
 (122,⟨3,.struct [(0,1),(1,1),(2,1)],[.string (ByteArray.mk #[]),H5,H5]⟩),
 (123,⟨15,.array 5 122,[.string (ByteArray.mk #[]),H5,H5,.string (ByteArray.mk #[]),H5,H5,.string (ByteArray.mk #[]),H5,H5,.string (ByteArray.mk #[]),H5,H5,.string (ByteArray.mk #[]),H5,H5]⟩),
 (141,⟨8,.struct [(0,1),(1,1),(2,1),(3,1),(4,1),(5,1),(6,1),(7,1)],[H5,H5,H5,H5,H5,H5,.bool false,H5]⟩),
 (156,⟨4,.struct [(0,1),(1,1),(2,1),(3,1)],[H5,H5,H5,H5]⟩),
 (158,⟨7,.struct [(0,4),(4,1),(5,1),(6,1)],[H5,H5,H5,H5,H5,.bool false,H5]⟩),
 (166,⟨7,.struct [(0,1),(1,1),(2,1),(3,1),(4,1),(5,1),(6,1)],[H5,H5,H5,H5,H5,vs0,H5]⟩),
 (187,⟨1,.other,[.pointer none]⟩),
 (193,⟨1,.struct [(0,1)],[vs0]⟩),
 (201,⟨2,.struct [(0,1),(1,1)],[H5,vs0]⟩),
 (203,⟨3,.struct [(0,1),(1,1),(2,1)],[H5,H5,.bool false]⟩),
 (207,⟨1,.other,[.pointer none]⟩),
 (209,⟨3,.struct [(0,1),(1,1),(2,1)],[H5,vs0,H5]⟩),
 (211,⟨115,.struct [(0,92),(92,5),(97,1),(98,1),(99,1),(100,1),(101,1),(102,1),(103,1),(104,1),(105,1),(106,3),(109,1),(110,1),(111,1),(112,1),(113,1),(114,1)],[vs0,vs0,vs0,vs0,vs0,vs0,vs0,vs0,vs0,vs0,vs0,vs0,vs0,vs0,vs0,vs0,vs0,vs0,vs0,vs0,H5,H5,H5,H5,H5,H5,.bool false,H5,vs0,.bool false,.bool false,H5,H5,vs0,H5,H5,H5,vs0,H5,.bool false,H5,H5,H5,H5,H5,H5,vs0,vs0,vs0,.bool false,H5,H5,H5,H5,H5,H5,.bool false,H5,H5,.bool false,.bool false,H5,H5,H5,H5,.bool false,H5,H5,H5,.bool false,.bool false,.bool false,H5,H5,vs0,vs0,H5,.bool false,H5,H5,H5,H5,H5,vs0,H5,H5,H5,H5,H5,H5,H5,H5,H5,H5,H5,H5,H5,vs0,H5,H5,vs0,H5,H5,H5,H5,H5,H5,vs0,H5,H5,H5,.bool false,.bool false,vs0,H5]⟩),
 (217,⟨4,.struct [(0,1),(1,1),(2,1),(3,1)],[.bool false,H5,.bool false,.bool false]⟩),
 (220,⟨7,.struct [(0,1),(1,1),(2,1),(3,1),(4,1),(5,1),(6,1)],[H5,H5,H5,H5,H5,H5,H5]⟩),
 (233,⟨3,.struct [(0,1),(1,1),(2,1)],[H5,H5,H5]⟩),
 (245,⟨1,.int .u64,[.int .u64 0]⟩),
 (246,⟨7,.array 7 4,[.bool false,.bool false,.bool false,.bool false,.bool false,.bool false,.bool false]⟩),
 (252,⟨1,.slice 338,[vs0]⟩),
 (259,⟨4,.struct [(0,1),(1,1),(2,1),(3,1)],[H5,H5,H5,H5]⟩),
 (261,⟨1,.slice 259,[vs0]⟩),
 (263,⟨10,.struct [(0,1),(1,1),(2,1),(3,1),(4,1),(5,1),(6,1),(7,1),(8,1),(9,1)],[H5,H5,H5,H5,H5,H5,H5,H5,vs0,vs0]⟩),
 (317,⟨2,.struct [(0,1),(1,1)],[H5,H5]⟩),
 (330,⟨2,.struct [(0,1),(1,1)],[H5,H5]⟩),
 (338,⟨5,.struct [(0,1),(1,1),(2,1),(3,1),(4,1)],[.string (ByteArray.mk #[]),H5,H5,vs0,H5]⟩),
 (346,⟨1,.other,[.pointer none]⟩),
 (347,⟨1,.slice 4,[vs0]⟩),
 (349,⟨66,.struct [(0,24),(24,2),(26,7),(33,13),(46,10),(56,1),(57,1),(58,1),(59,1),(60,1),(61,1),(62,3),(65,1)],[vs0,vs0,vs0,vs0,vs0,vs0,vs0,vs0,vs0,vs0,vs0,vs0,vs0,vs0,vs0,vs0,vs0,vs0,vs0,vs0,H5,H5,H5,H5,vs0,H5,H5,H5,H5,H5,H5,H5,H5,H5,H5,.bool false,H5,vs0,.bool false,.bool false,H5,H5,vs0,H5,H5,H5,H5,H5,H5,H5,H5,H5,H5,H5,vs0,vs0,H5,H5,H5,H5,vs0,H5,H5,vs0,H5,H5]⟩),
 (373,⟨1,.other,[.pointer none]⟩),
 (374,⟨1,.other,[.pointer none]⟩),
 (376,⟨13,.struct [(0,6),(6,7)],[H5,H5,H5,H5,H5,vs0,H5,H5,H5,H5,H5,H5,H5]⟩),
 (385,⟨1,.int .u64,[.int .u64 0]⟩),
 (431,⟨3,.struct [(0,1),(1,1),(2,1)],[H5,H5,H5]⟩),
 (446,⟨1,.slice 450,[vs0]⟩),
 (450,⟨5,.struct [(0,4),(4,1)],[H5,H5,H5,H5,H5]⟩),
 (451,⟨1,.other,[.pointer none]⟩),
 (467,⟨1,.slice 156,[vs0]⟩),
 (472,⟨2,.array 2 3,[H5,H5]⟩),
 (473,⟨4,.array 2 472,[H5,H5,H5,H5]⟩),
 (477,⟨1,.other,[.pointer none]⟩)]
theorem ti4:bh8 Tryz.prog 4 ⟨1,.bool,[.bool false]⟩:=dn7 (by kernel_rfl)
theorem ti3:bh8 Tryz.prog 3 ⟨1,.int .i64,[H5]⟩:=dn7 (by kernel_rfl)
theorem M7:aV6 Tryz.prog D5:=dA6 (l:=[3,4,5,9,22,23,25,27,29,31,33,35,36,37,43,45,46,47,49,51,53,55,56,58,59,60,62,64,66,68,70,72,74,75,76,78,80,82,83,87,91,92,94,97,106,112,115,118,119,122,123,141,156,158,166,187,193,201,203,207,209,211,217,220,233,245,246,252,259,261,263,317,330,338,346,347,349,373,374,376,385,431,446,450,451,467,472,473,477]) (by kernel_rfl)
theorem eN9 (d:Nat)(w:World)(a0:Bool)(a1 a2 a3 a4 a5:Int)(b0:Bool)(b1 b2 b3 b4 b5:Int):(Op.equalIn (d+2) 55 (.agg #[.bool a0,.int .i64 a1,.int .i64 a2,.int .i64 a3,.int .i64 a4,.int .i64 a5]) (.agg #[.bool b0,.int .i64 b1,.int .i64 b2,.int .i64 b3,.int .i64 b4,.int .i64 b5])).run Tryz.prog w= .ok ((a0==b0)&&((a1==b1)&&((a2==b2)&&((a3==b3)&&((a4==b4)&&((a5==b5)&&true)))))) w:=
 cv2 (d:=d+1) (fs:=[⟨ "Valid",4,0,false,"","",0⟩,⟨ "At",3,1,false,"","",8⟩,⟨ "Angle",3,2,false,"","",16⟩,⟨ "Period",3,3,false,"","",24⟩,⟨ "Space",3,4,false,"","",32⟩,⟨ "Ahead",3,5,false,"","",40⟩]) (by kernel_rfl) (by kernel_rfl) (by kernel_rfl) (aD3 (by decide) (X3 ti4 rfl rfl) (X3 ti4 rfl rfl) (run_equalIn_bool' w _ 4 _ _ Tryz.underlying4) (aD3 (by decide) (X3 ti3 rfl rfl) (X3 ti3 rfl rfl) (run_equalIn_int w _ 3 _ _ _ _ Tryz.underlying3) (aD3 (by decide) (X3 ti3 rfl rfl) (X3 ti3 rfl rfl) (run_equalIn_int w _ 3 _ _ _ _ Tryz.underlying3) (aD3 (by decide) (X3 ti3 rfl rfl) (X3 ti3 rfl rfl) (run_equalIn_int w _ 3 _ _ _ _ Tryz.underlying3) (aD3 (by decide) (X3 ti3 rfl rfl) (X3 ti3 rfl rfl) (run_equalIn_int w _ 3 _ _ _ _ Tryz.underlying3) (aD3 (by decide) (X3 ti3 rfl rfl) (X3 ti3 rfl rfl) (run_equalIn_int w _ 3 _ _ _ _ Tryz.underlying3) (dj2)))))))
theorem eO1 (a0:Bool)(a1 a2 a3 a4 a5:Int)(b0:Bool)(b1 b2 b3 b4 b5:Int):dS6 Tryz.prog 55 [.bool a0,.int .i64 a1,.int .i64 a2,.int .i64 a3,.int .i64 a4,.int .i64 a5] [.bool b0,.int .i64 b1,.int .i64 b2,.int .i64 b3,.int .i64 b4,.int .i64 b5] ((a0==b0)&&((a1==b1)&&((a2==b2)&&((a3==b3)&&((a4==b4)&&((a5==b5)&&true)))))):=⟨fun w=>eN9 9998 w a0 a1 a2 a3 a4 a5 b0 b1 b2 b3 b4 b5,by kernel_rfl⟩
theorem eO0 (d:Nat)(w:World)(a0 a1 a2 a3 a4 a5 b0 b1 b2 b3 b4 b5:Int):(Op.equalIn (d+2) 64 (.agg #[.int .i64 a0,.int .i64 a1,.int .i64 a2,.int .i64 a3,.int .i64 a4,.int .i64 a5]) (.agg #[.int .i64 b0,.int .i64 b1,.int .i64 b2,.int .i64 b3,.int .i64 b4,.int .i64 b5])).run Tryz.prog w= .ok ((a0==b0)&&((a1==b1)&&((a2==b2)&&((a3==b3)&&((a4==b4)&&((a5==b5)&&true)))))) w:=
 cv2 (d:=d+1) (fs:=[⟨ "Mode",3,0,false,"","",0⟩,⟨ "Tooth",3,1,false,"","",8⟩,⟨ "Last",3,2,false,"","",16⟩,⟨ "Period",3,3,false,"","",24⟩,⟨ "Normal",3,4,false,"","",32⟩,⟨ "Teeth",3,5,false,"","",40⟩]) (by kernel_rfl) (by kernel_rfl) (by kernel_rfl) (aD3 (by decide) (X3 ti3 rfl rfl) (X3 ti3 rfl rfl) (run_equalIn_int w _ 3 _ _ _ _ Tryz.underlying3) (aD3 (by decide) (X3 ti3 rfl rfl) (X3 ti3 rfl rfl) (run_equalIn_int w _ 3 _ _ _ _ Tryz.underlying3) (aD3 (by decide) (X3 ti3 rfl rfl) (X3 ti3 rfl rfl) (run_equalIn_int w _ 3 _ _ _ _ Tryz.underlying3) (aD3 (by decide) (X3 ti3 rfl rfl) (X3 ti3 rfl rfl) (run_equalIn_int w _ 3 _ _ _ _ Tryz.underlying3) (aD3 (by decide) (X3 ti3 rfl rfl) (X3 ti3 rfl rfl) (run_equalIn_int w _ 3 _ _ _ _ Tryz.underlying3) (aD3 (by decide) (X3 ti3 rfl rfl) (X3 ti3 rfl rfl) (run_equalIn_int w _ 3 _ _ _ _ Tryz.underlying3) (dj2)))))))
theorem eO2 (a0 a1 a2 a3 a4 a5 b0 b1 b2 b3 b4 b5:Int):dS6 Tryz.prog 64 [.int .i64 a0,.int .i64 a1,.int .i64 a2,.int .i64 a3,.int .i64 a4,.int .i64 a5] [.int .i64 b0,.int .i64 b1,.int .i64 b2,.int .i64 b3,.int .i64 b4,.int .i64 b5] ((a0==b0)&&((a1==b1)&&((a2==b2)&&((a3==b3)&&((a4==b4)&&((a5==b5)&&true)))))):=⟨fun w=>eO0 9998 w a0 a1 a2 a3 a4 a5 b0 b1 b2 b3 b4 b5,by kernel_rfl⟩
theorem eA8 (d:Nat)(w:World)(a0 a1:Int)(a2:Bool)(b0 b1:Int)(b2:Bool):(Op.equalIn (d+2) 203 (.agg #[.int .i64 a0,.int .i64 a1,.bool a2]) (.agg #[.int .i64 b0,.int .i64 b1,.bool b2])).run Tryz.prog w= .ok ((a0==b0)&&((a1==b1)&&((a2==b2)&&true))) w:=
 cv2 (d:=d+1) (fs:=[⟨ "At",3,0,false,"","",0⟩,⟨ "Channel",3,1,false,"","",8⟩,⟨ "Level",4,2,false,"","",16⟩]) (by kernel_rfl) (by kernel_rfl) (by kernel_rfl) (aD3 (by decide) (X3 ti3 rfl rfl) (X3 ti3 rfl rfl) (run_equalIn_int w _ 3 _ _ _ _ Tryz.underlying3) (aD3 (by decide) (X3 ti3 rfl rfl) (X3 ti3 rfl rfl) (run_equalIn_int w _ 3 _ _ _ _ Tryz.underlying3) (aD3 (by decide) (X3 ti4 rfl rfl) (X3 ti4 rfl rfl) (run_equalIn_bool' w _ 4 _ _ Tryz.underlying4) (dj2))))
theorem eA9 (a0 a1:Int)(a2:Bool)(b0 b1:Int)(b2:Bool):dS6 Tryz.prog 203 [.int .i64 a0,.int .i64 a1,.bool a2] [.int .i64 b0,.int .i64 b1,.bool b2] ((a0==b0)&&((a1==b1)&&((a2==b2)&&true))):=⟨fun w=>eA8 9998 w a0 a1 a2 b0 b1 b2,by kernel_rfl⟩
def eqF:Nat->List T->List T->Option Bool
 |55,[.t (.v (.bool a0)),.t (.v (.int .i64 a1)),.t (.v (.int .i64 a2)),.t (.v (.int .i64 a3)),.t (.v (.int .i64 a4)),.t (.v (.int .i64 a5))],[.t (.v (.bool b0)),.t (.v (.int .i64 b1)),.t (.v (.int .i64 b2)),.t (.v (.int .i64 b3)),.t (.v (.int .i64 b4)),.t (.v (.int .i64 b5))]=>some (((a0==b0)&&((a1==b1)&&((a2==b2)&&((a3==b3)&&((a4==b4)&&((a5==b5)&&true)))))))
 |64,[.t (.v (.int .i64 a0)),.t (.v (.int .i64 a1)),.t (.v (.int .i64 a2)),.t (.v (.int .i64 a3)),.t (.v (.int .i64 a4)),.t (.v (.int .i64 a5))],[.t (.v (.int .i64 b0)),.t (.v (.int .i64 b1)),.t (.v (.int .i64 b2)),.t (.v (.int .i64 b3)),.t (.v (.int .i64 b4)),.t (.v (.int .i64 b5))]=>some (((a0==b0)&&((a1==b1)&&((a2==b2)&&((a3==b3)&&((a4==b4)&&((a5==b5)&&true)))))))
 |203,[.t (.v (.int .i64 a0)),.t (.v (.int .i64 a1)),.t (.v (.bool a2))],[.t (.v (.int .i64 b0)),.t (.v (.int .i64 b1)),.t (.v (.bool b2))]=>some (((a0==b0)&&((a1==b1)&&((a2==b2)&&true))))
 |_,_,_=>none
theorem eN7:∀ty xs ys b,eqF ty xs ys=some b->∃vs us,xs=tvs vs/\ys=tvs us/\dS6 Tryz.prog ty vs us b:=by
 intro ty xs ys b h
 unfold eqF at h
 split at h
 ·cases h;exact⟨_,_,rfl,rfl,eO1 _ _ _ _ _ _ _ _ _ _ _ _⟩
 ·cases h;exact⟨_,_,rfl,rfl,eO2 _ _ _ _ _ _ _ _ _ _ _ _⟩
 ·cases h;exact⟨_,_,rfl,rfl,eA9 _ _ _ _ _ _⟩
 ·cases h
def Z:En Tryz.prog:=⟨D5,M7,⟨eqF,eN7⟩,mixed⟩
def eK1:Mq Tryz.prog Int Bool:=⟨inferInstance,227,3,4,.int .i64,(fun n:Int=>.int .i64 n),(fun v:Bool=>.bool v),false,(eP0 .i64),Tryz.underlying227,Tryz.underlying3,⟨Tryz.t4,by kernel_rfl,rfl⟩⟩
def eK2:Mq Tryz.prog ByteArray Bool:=⟨inferInstance,390,9,4,.string,(fun s:ByteArray=>.string s),(fun v:Bool=>.bool v),false,eS7,Tryz.underlying390,Tryz.underlying9,⟨Tryz.t4,by kernel_rfl,rfl⟩⟩
end Go.Proofs.YtfplhihoadkhlaaGreat
namespace Go.Pv
open Go
def at9 (x y:Int):Option (Int×Int):=
 cw6 x y
def bB5 (x y:Int):Option (Int×Int):=
 ab6 (at9 x y) fun r2=>some (r2.1,r2.2)
def aK1 (s3:Int×List D0):Option ((Int×List D0)⊕((Int×List D0)⊕Empty)):=
 bif (decide (s3.1<(s3.2.length:Int)))then(ab6 (ab6 (cl5 s3.1 (s3.2.length:Int) s3.2.length) fun _=>ab6 (cl5 0 s3.1 s3.2.length) fun _=>some (o6 (s3.1+((min (eJ8 s3.1-eJ8 0) (eJ8 (s3.2.length:Int)-eJ8 s3.1):Nat):Int)),ej5 s3.2 s3.1 (s3.2.length:Int) 0 s3.1)) fun(s4:Int×List D0)=>some (.inl (s4.1,s4.2)))else(some (.inr (.inl (s3.1,s3.2))))
def S4 (x:List D0)(count:Int):Option (List D0):=
 ab6 (bif (decide (count<0))then none else(some ())) fun(_:Unit)=>ab6 (bB5 (aK3.wrap (x.length:Int)) (aK3.wrap count)) fun r2=>ab6 (bif ((decide (r2.1>0))||(decide (r2.2>9223372036854775807)))then none else(some ())) fun(_:Unit)=>ab6 (aY2 (o6 r2.2) (⟨0,0,0⟩:D0)) fun l=>ab6 (M0 (aK1) ((min (x).length (l).length:Nat),aJ5 l x)) fun(t:(Int×List D0)⊕Empty)=>match t with| .inl s5=>(some s5.2)| .inr r=>r.elim
def R5 (s:List A9)(f2:A9->Option Bool)(i:Int)(_:Unit):Option (Fl Unit Int):=
 ab6 (F0 s i) fun x=>ab6 (f2 x) fun v=>bif v then(some (.ret i))else(some (.next ()))
def D4 (s:List A9)(f2:A9->Option Bool):Option Int:=
 ab6 (N1 (s.length:Int) (R5 s f2) ()) fun(t:Unit⊕Int)=>match t with| .inl _=>(some (-1))| .inr r2=>some r2
def au6 (del:A9->Option Bool)(s2:Int×Int×List A9):Option ((Int×Int×List A9)⊕((Int×Int×List A9)⊕Empty)):=
 bif (decide (s2.2.1<(s2.2.2.length:Int)))then(ab6 (F0 s2.2.2 s2.2.1) fun x=>ab6 (del x) fun v2=>bif (!v2)then(ab6 (F0 s2.2.2 s2.1) fun _=>ab6 (ak9 s2.2.2 s2.1 x) fun l=>some (.inl (o6 (s2.1+1),o6 (s2.2.1+1),l)))else(some (.inl (s2.1,o6 (s2.2.1+1),s2.2.2))))else(some (.inr (.inl (s2.1,s2.2.1,s2.2.2))))
def N2 (s:List A9)(del:A9->Option Bool):Option (List A9):=
 ab6 (D4 s del) fun v=>bif (v==(-1))then(some s)else(ab6 (M0 (au6 del) (v,o6 (v+1),s)) fun(t:(Int×Int×List A9)⊕Empty)=>match t with| .inl s3=>(ab6 (cl5 s3.1 (s3.2.2.length:Int) s3.2.2.length) fun _=>ab6 (ay9 (bI6 s3.2.2 s3.1 (s3.2.2.length:Int) (⟨(⟨0,0,0,0⟩:C8),0,false,0⟩:A9)) 0 s3.1) fun l2=>some l2)| .inr r=>r.elim)
def aA3 (s:List o5)(f2:o5->Option Bool)(i:Int)(_:Unit):Option (Fl Unit Int):=
 ab6 (F0 s i) fun x=>ab6 (f2 x) fun v=>bif v then(some (.ret i))else(some (.next ()))
def ae9 (s:List o5)(f2:o5->Option Bool):Option Int:=
 ab6 (N1 (s.length:Int) (aA3 s f2) ()) fun(t:Unit⊕Int)=>match t with| .inl _=>(some (-1))| .inr r2=>some r2
def am9 (del:o5->Option Bool)(s2:Int×Int×List o5):Option ((Int×Int×List o5)⊕((Int×Int×List o5)⊕Empty)):=
 bif (decide (s2.2.1<(s2.2.2.length:Int)))then(ab6 (F0 s2.2.2 s2.2.1) fun x=>ab6 (del x) fun v2=>bif (!v2)then(ab6 (F0 s2.2.2 s2.1) fun _=>ab6 (ak9 s2.2.2 s2.1 x) fun l=>some (.inl (o6 (s2.1+1),o6 (s2.2.1+1),l)))else(some (.inl (s2.1,o6 (s2.2.1+1),s2.2.2))))else(some (.inr (.inl (s2.1,s2.2.1,s2.2.2))))
def P6 (s:List o5)(del:o5->Option Bool):Option (List o5):=
 ab6 (ae9 s del) fun v=>bif (v==(-1))then(some s)else(ab6 (M0 (am9 del) (v,o6 (v+1),s)) fun(t:(Int×Int×List o5)⊕Empty)=>match t with| .inl s3=>(ab6 (cl5 s3.1 (s3.2.2.length:Int) s3.2.2.length) fun _=>ab6 (ay9 (bI6 s3.2.2 s3.1 (s3.2.2.length:Int) (⟨0,0,false⟩:o5)) 0 s3.1) fun l2=>some l2)| .inr r=>r.elim)
end Go.Pv
namespace Go.Proofs.YtfplhihoadkhlaaGreat
open Go Go.Pv Go.Proofs
set_option maxHeartbeats 4000000
def ca9:Go.Shelf.Ren:=⟨fun|264=>286|n=>n,fun|46=>245|53=>385|n=>n,fun|n=>n⟩
open Go.Shelf in
theorem dZ0:Lays.n264 Tryz.prog ca9:={
 mixed:=by kernel_rfl,
 f264:=Tryz.func286.trans (congrArg some (by kernel_rfl)),
 t46:=Tryz.underlying245,
 a46:=Tryz.isAgg245,
 z46:=Tryz.sizeOf245,
 v46:=Tryz.zeroValue245,
 t53:=Tryz.underlying385,
 a53:=Tryz.isAgg385,
 z53:=Tryz.sizeOf385,
 v53:=Tryz.zeroValue385}
theorem bn8 (x y:Int):aR1 Tryz.prog 286 [.t (tK .u64 x),.t (tK .u64 y)] (at9 x y) (fun r=>.S9 [.t (tK .u64 r.1),.t (tK .u64 r.2)]):=
 dZ1 (ρ:=ca9) dZ0 Tryz.call286 x y
theorem cg3 (x y:Int):aR1 Tryz.prog 206 [.t (tK .u64 x),.t (tK .u64 y)] (bB5 x y) (fun r=>.S9 [.t (tK .u64 r.1),.t (tK .u64 r.2)]):=by
 refine aR1.i M7 30 [.tmp 4,.tmp 5] Tryz.call206 Tryz.func206 rfl rfl rfl rfl fun w0 L=>?_
 refine F9.s 6 rfl ?_
 refine F9.eX5 rfl (.o 5 rfl ?_)
 refine C3.k (bn8 x y) rfl fun r2=>.o 8 rfl ?_
 exact C3.r 5 rfl (rt rfl)
theorem by1 (x:List D0)(count:Int):aR1 Tryz.prog 117 [NS K5 x,NI count] (S4 x count) (fun r=>NS K5 r):=by
 refine aR1.i M7 48 [.tmp 4] Tryz.call117 Tryz.func117 rfl rfl rfl rfl fun w0 L=>?_
 refine F9.s 5 rfl ?_
 refine F9.s 5 rfl (.bind (Q₁:=nrm fun t=>⟨[(0,NS K5 x),(1,NI count)],[]⟩) ?_ ?_)
 ·refine F9.cond rfl ?_ ?_
  ·exact F9.o 1 rfl .fail
  ·exact F9.l 1 rfl (lf rfl rfl)
 rintro s e σ' _ ⟨rfl,hs⟩
 refine ad0.sub hs (F9.o 7 rfl (.k (cg3 (aK3.wrap (x.length:Int)) (aK3.wrap count)) rfl fun r2=>?_))
 refine C3.o 9 rfl ?_
 refine C3.o 3 rfl (.fa4 (v:=decide (r2.2>9223372036854775807)) 3 23 (fun b=>⟨[(0,NS K5 x),(6,.t (tK .u64 r2.2)),(26,NB b)],[]⟩) rfl ?_ ?_ ?_)
 ·exact C3.l 4 rfl (lf rfl rfl)
 ·exact C3.l 4 rfl (lf rfl rfl)
 refine C3.s 1 rfl (.bind (Q₁:=nrm fun t=>⟨[(0,NS K5 x),(6,.t (tK .u64 r2.2))],[]⟩) ?_ ?_)
 ·refine F9.cond rfl ?_ ?_
  ·exact F9.o 1 rfl .fail
  ·exact F9.l 1 rfl (lf rfl rfl)
 rintro s2 e σ' _ ⟨rfl,hs⟩
 refine ad0.sub hs (F9.o 4 rfl (.eZ4 (enc:=K5) 2240 (⟨0,0,0⟩:D0) rfl rfl rfl rfl rfl rfl rfl rfl rfl rfl rfl rfl rfl fun l hl=>?_))
 refine C3.o 6 rfl ?_
 refine C3.ej4 (e2:=0) (l:=l) (r:=x) rfl rfl rfl rfl (fun _=>rfl) (fun _=>rfl) rfl rfl (.inl rfl) rfl (.s 4 rfl ?_)
 refine F9.loop (fun t=>⟨[(7,.own 2240),(8,NI t.1)],[(2240,.rs 233 3 t.2 K5)]⟩) (fun b e σ'=>match b with| .inl t=>e= .exit 0/\Sub ⟨[(7,.own 2240)],[(2240,.rs 233 3 t.2 K5)]⟩ σ'| .inr t=>False) (.of rfl rfl) ?_ ?_
 ·intro s3
  refine F9.s 8 rfl ?_
  refine F9.cond rfl ?_ ?_
  ·refine F9.s 2 rfl (.bind (Q₁:=nrm fun t=>⟨[(7,.own 2240),(8,NI t.1)],[(2240,.rs 233 3 t.2 K5)]⟩) ?_ ?_)
   ·refine ad0.pre fun u hu=>ad0.pre fun u2 hu2=>F9.eX8 8 (bm 10 0) (bm 10 255) ⟨[(7,.own 2240),(8,NI s3.1),(38,NI s3.1),(45,NI ((min (eJ8 s3.1-eJ8 0) (eJ8 (s3.2.length:Int)-eJ8 s3.1):Nat):Int))],[(2240,.rs 233 3 (ej5 s3.2 s3.1 (s3.2.length:Int) 0 s3.1) K5)]⟩ mixed (fun _ _ _ h=>by cases h.1) rfl rfl rfl rfl ?_ ?_
    ·refine aT4.ga 5 [0,1,2,4,5] (by kernel_rfl) rfl (.all [3,6] (by kernel_rfl) rfl (ci3.cons (σ₁:=⟨[(7,.own 2240),(8,NI s3.1),(38,NI s3.1),(41,.vw 2240 (eJ8 s3.1) (eJ8 (s3.2.length:Int)-eJ8 s3.1) 3),(42,.own 2240),(43,NI s3.1)],[(2240,.rs 233 3 s3.2 K5)]⟩) _ rfl rfl ?_ ?_ ?_))
     ·refine C3.dS3 hu (C3.dg5 rfl rfl rfl rfl rfl rfl rfl rfl rfl rfl rfl (C3.ifG ?_))
      exact C3.l 1 rfl (lf rfl rfl)
     ·exact aT4.one 6 rfl (by kernel_rfl) (C3.dS3 hu2 (C3.dg5 rfl rfl rfl rfl rfl rfl rfl rfl rfl rfl rfl (C3.ifG (C3.l 1 rfl ⟨rfl,rfl⟩)))) (.one 7 rfl (by kernel_rfl) (C3.copyV hu hu2 cu7 cu7 rfl rfl rfl rfl (fun _=>rfl) (fun _=>rfl) rfl rfl rfl rfl (C3.l 1 rfl ⟨rfl,rfl⟩)) (.done (.of rfl rfl)))
     refine ci3.cons (σ₁:=⟨[(7,.own 2240),(8,NI s3.1),(38,NI s3.1),(39,.own 2240),(40,NI s3.1),(44,.vw 2240 (eJ8 0) (eJ8 s3.1-eJ8 0) 3)],[(2240,.rs 233 3 s3.2 K5)]⟩) _ rfl rfl ?_ ?_ ?_
     ·refine C3.dS3 hu2 (C3.dg5 rfl rfl rfl rfl rfl rfl rfl rfl rfl rfl rfl (C3.ifG ?_))
      exact C3.l 1 rfl (lf rfl rfl)
     ·exact aT4.one 3 rfl (by kernel_rfl) (C3.dS3 hu (C3.dg5 rfl rfl rfl rfl rfl rfl rfl rfl rfl rfl rfl (C3.ifG (C3.l 1 rfl ⟨rfl,rfl⟩)))) (.one 7 rfl (by kernel_rfl) (C3.copyV hu hu2 cu7 cu7 rfl rfl rfl rfl (fun _=>rfl) (fun _=>rfl) rfl rfl rfl rfl (C3.l 1 rfl ⟨rfl,rfl⟩)) (.done (.of rfl rfl)))
     exact ci3.nil
    exact C3.l 3 rfl (lf rfl rfl)
   rintro s4 e σ' _ ⟨rfl,hs⟩
   exact ad0.sub hs (F9.l 1 rfl (lf rfl rfl))
  ·exact F9.br6 rfl ⟨(fun h=>by cases h),rfl,.of rfl rfl⟩
 rintro(s5|r) e σ' _ hq
 ·obtain⟨rfl,hs⟩:=hq
  refine ad0.exit rfl (ad0.sub hs ?_)
  exact F9.r 5 rfl (rt rfl)
 ·exact hq.elim
theorem bw2 (s:List A9)(n2:Nat)(cs:List (List Tree))(f2:A9->Option Bool)(h2:∀x0,aR1 Tryz.prog n2 ([bd7 x0]++cs.map T.el) (f2 x0) (fun r=>NB r)):aR1 Tryz.prog 109 [NS K0 s,.fz n2 cs] (D4 s f2) (fun r=>NI r):=by
 refine aR1.i M7 19 [.tmp 4] Tryz.call109 Tryz.func109 rfl rfl rfl rfl fun w0 L=>?_
 refine F9.s 5 rfl ?_
 refine F9.s 7 rfl ?_
 refine F9.loop (fun p=>⟨[(0,NS K0 s),(1,.fz n2 cs),(7,NI (s.length:Int)),(8,NI p.1)],[]⟩) (fun b e σ'=>match b with| .inl t=>e= .exit 0/\Sub ⟨[],[]⟩ σ'| .inr t=>e= .ret/\dm9 D5 σ' [.tmp 4]=some (((fun r=>NI r):Int->T) t)) (.of rfl rfl) ?_ ?_
 ·rintro⟨i,s2⟩
  refine F9.s 5 rfl ?_
  refine F9.cond rfl ?_ ?_
  ·refine F9.s 2 rfl (ad0.sub (σ':=⟨[(0,NS K0 s),(1,.fz n2 cs),(7,NI (s.length:Int)),(8,NI i)],[]⟩) (.of rfl rfl) (F9.bind (Q₁:=fun f e σ'=>match f with| .next t=>e= .normal/\Sub ⟨[(0,NS K0 s),(1,.fz n2 cs),(7,NI (s.length:Int)),(8,NI i)],[]⟩ σ'| .brk t=>e= .exit 0/\Sub ⟨[],[]⟩ σ'| .ret t=>e= .ret/\dm9 D5 σ' [.tmp 4]=some (((fun r=>NI r):Int->T) t)) ?_ ?_))
   ·refine F9.s 6 rfl ?_
    refine F9.o 5 rfl (.index rfl rfl rfl rfl rfl rfl rfl rfl (fun _=>rfl) fun x hx=>.o 1 rfl ?_)
    refine C3.k (h2 x) rfl fun v=>.s 1 rfl (.cond rfl ?_ ?_)
    ·exact F9.r 5 rfl ⟨rfl,rfl⟩
    ·exact F9.l 2 rfl (lf rfl rfl)
   rintro(t|t|t) e σ' _ hq
   ·obtain⟨rfl,hs⟩:=hq
    exact ad0.sub hs (F9.l 4 rfl (lf rfl rfl))
   ·obtain⟨rfl,hs⟩:=hq
    exact ad0.br6 rfl ⟨(fun h=>by cases h),rfl,hs⟩
   ·obtain⟨rfl,hs⟩:=hq
    exact ad0.ret ⟨(fun h=>by cases h),rfl,hs⟩
  ·exact F9.br6 rfl ⟨(fun h=>by cases h),rfl,.of rfl rfl⟩
 rintro(s3|r2) e σ' _ hq
 ·obtain⟨rfl,hs⟩:=hq
  refine ad0.exit rfl (ad0.sub hs ?_)
  exact F9.r 4 rfl (rt rfl)
 ·obtain⟨rfl,hs⟩:=hq
  exact ad0.ret ⟨.inl rfl,hs⟩
theorem bs1 (s:List A9)(n2:Nat)(cs:List (List Tree))(del:A9->Option Bool)(h2:∀x0,aR1 Tryz.prog n2 ([bd7 x0]++cs.map T.el) (del x0) (fun r=>NB r)):bh9 Tryz.prog 339 [.own 1000000,.fz n2 cs] [(1000000,.rs 158 7 s K0)] (N2 s del) (fun _=>.own 900000) (fun r=>[(900000,.rs 158 7 r K0)]):=by
 refine bh9.i M7 42 [.tmp 4] Tryz.call339 Tryz.func339 rfl rfl rfl rfl fun w0 L=>?_
 refine F9.s 5 rfl ?_
 refine F9.o 3 rfl (.eI4 _ rfl rfl rfl (bw2 s n2 cs del h2) (fun _=>rfl) (fun _=>rfl) fun v=>.s 2 rfl ?_)
 refine F9.s 6 rfl ?_
 refine F9.cond rfl ?_ ?_
 ·exact F9.r 5 rfl (rt (⟨[(1000000,900000)],_,_,rfl,rfl,rfl,rfl,rfl⟩))
 ·refine F9.o 7 rfl ?_
  refine C3.s 2 rfl (.loop (fun t=>⟨[(0,.own 1000000),(1,.fz n2 cs),(5,NI t.1),(6,NI t.2.1)],[(1000000,.rs 158 7 t.2.2 K0)]⟩) (fun b e σ'=>match b with| .inl t=>e= .exit 0/\Sub ⟨[(0,.own 1000000),(5,NI t.1)],[(1000000,.rs 158 7 t.2.2 K0)]⟩ σ'| .inr t=>False) (.of rfl rfl) ?_ ?_)
  ·intro s2
   refine F9.s 8 rfl ?_
   refine F9.cond rfl ?_ ?_
   ·refine F9.o 5 rfl ?_
    refine C3.o 2 rfl (.dk4 rfl rfl rfl rfl rfl rfl rfl rfl rfl rfl fun x hx=>.eJ9 hx rfl rfl rfl rfl rfl rfl rfl rfl (.s 3 rfl ?_))
    refine F9.o 4 rfl (.k (h2 x) rfl fun v2=>.o 1 rfl ?_)
    refine C3.s 1 rfl (.cond rfl ?_ ?_)
    ·refine F9.o 5 rfl (.dk4 rfl rfl rfl rfl rfl rfl rfl rfl rfl rfl fun x2 hx2=>.dK1 x [tI x.Event.E3,tI x.Event.Kind,tI x.Event.w9,tI x.Event.aj9,tI x.Left,tB x.F6,tI x.At] hx2 rfl rfl rfl rfl rfl rfl rfl rfl rfl rfl rfl rfl fun l hl=>?_)
     refine C3.s 7 rfl ?_
     exact F9.l 5 rfl (lf rfl rfl)
    ·refine F9.s 7 rfl ?_
     exact F9.leaf (lf rfl rfl)
   ·exact F9.br6 rfl ⟨(fun h=>by cases h),rfl,.of rfl rfl⟩
  rintro(s3|r) e σ' _ hq
  ·obtain⟨rfl,hs⟩:=hq
   refine ad0.exit rfl (ad0.sub hs ?_)
   refine F9.o 4 rfl (.dg5 rfl rfl rfl rfl rfl rfl rfl rfl rfl rfl rfl fun u hu=>.ei7 (⟨(⟨0,0,0,0⟩:C8),0,false,0⟩:A9) hu cu7 rfl rfl rfl rfl rfl rfl rfl rfl rfl rfl rfl ?_)
   refine C3.o 5 rfl (.et5 (id':=2328) (tm':=[(5,NI s3.1),(37,NI s3.1),(40,NI s3.1)]) (hp':=[]) rfl rfl rfl rfl rfl rfl rfl rfl rfl (.of rfl rfl) rfl rfl rfl rfl fun l2 hl2=>?_)
   exact C3.r 2 rfl (rt (⟨[(2328,900000)],_,_,rfl,rfl,rfl,rfl,rfl⟩))
  ·exact hq.elim
theorem bn9 (s:List o5)(n2:Nat)(cs:List (List Tree))(f2:o5->Option Bool)(h2:∀x0,aR1 Tryz.prog n2 ([aB5 x0]++cs.map T.el) (f2 x0) (fun r=>NB r)):aR1 Tryz.prog 343 [NS y9 s,.fz n2 cs] (ae9 s f2) (fun r=>NI r):=by
 refine aR1.i M7 19 [.tmp 4] Tryz.call343 Tryz.func343 rfl rfl rfl rfl fun w0 L=>?_
 refine F9.s 5 rfl ?_
 refine F9.s 7 rfl ?_
 refine F9.loop (fun p=>⟨[(0,NS y9 s),(1,.fz n2 cs),(7,NI (s.length:Int)),(8,NI p.1)],[]⟩) (fun b e σ'=>match b with| .inl t=>e= .exit 0/\Sub ⟨[],[]⟩ σ'| .inr t=>e= .ret/\dm9 D5 σ' [.tmp 4]=some (((fun r=>NI r):Int->T) t)) (.of rfl rfl) ?_ ?_
 ·rintro⟨i,s2⟩
  refine F9.s 5 rfl ?_
  refine F9.cond rfl ?_ ?_
  ·refine F9.s 2 rfl (ad0.sub (σ':=⟨[(0,NS y9 s),(1,.fz n2 cs),(7,NI (s.length:Int)),(8,NI i)],[]⟩) (.of rfl rfl) (F9.bind (Q₁:=fun f e σ'=>match f with| .next t=>e= .normal/\Sub ⟨[(0,NS y9 s),(1,.fz n2 cs),(7,NI (s.length:Int)),(8,NI i)],[]⟩ σ'| .brk t=>e= .exit 0/\Sub ⟨[],[]⟩ σ'| .ret t=>e= .ret/\dm9 D5 σ' [.tmp 4]=some (((fun r=>NI r):Int->T) t)) ?_ ?_))
   ·refine F9.s 6 rfl ?_
    refine F9.o 5 rfl (.index rfl rfl rfl rfl rfl rfl rfl rfl (fun _=>rfl) fun x hx=>.o 1 rfl ?_)
    refine C3.k (h2 x) rfl fun v=>.s 1 rfl (.cond rfl ?_ ?_)
    ·exact F9.r 5 rfl ⟨rfl,rfl⟩
    ·exact F9.l 2 rfl (lf rfl rfl)
   rintro(t|t|t) e σ' _ hq
   ·obtain⟨rfl,hs⟩:=hq
    exact ad0.sub hs (F9.l 4 rfl (lf rfl rfl))
   ·obtain⟨rfl,hs⟩:=hq
    exact ad0.br6 rfl ⟨(fun h=>by cases h),rfl,hs⟩
   ·obtain⟨rfl,hs⟩:=hq
    exact ad0.ret ⟨(fun h=>by cases h),rfl,hs⟩
  ·exact F9.br6 rfl ⟨(fun h=>by cases h),rfl,.of rfl rfl⟩
 rintro(s3|r2) e σ' _ hq
 ·obtain⟨rfl,hs⟩:=hq
  refine ad0.exit rfl (ad0.sub hs ?_)
  exact F9.r 4 rfl (rt rfl)
 ·obtain⟨rfl,hs⟩:=hq
  exact ad0.ret ⟨.inl rfl,hs⟩
theorem bj7 (s:List o5)(n2:Nat)(cs:List (List Tree))(del:o5->Option Bool)(h2:∀x0,aR1 Tryz.prog n2 ([aB5 x0]++cs.map T.el) (del x0) (fun r=>NB r)):bh9 Tryz.prog 282 [.own 1000000,.fz n2 cs] [(1000000,.rs 203 3 s y9)] (P6 s del) (fun r=>NS y9 r) (fun _=>[]):=by
 refine bh9.i M7 42 [.tmp 4] Tryz.call282 Tryz.func282 rfl rfl rfl rfl fun w0 L=>?_
 refine F9.s 5 rfl ?_
 refine F9.o 3 rfl (.eI4 _ rfl rfl rfl (bn9 s n2 cs del h2) (fun _=>rfl) (fun _=>rfl) fun v=>.s 2 rfl ?_)
 refine F9.s 6 rfl ?_
 refine F9.cond rfl ?_ ?_
 ·refine F9.s 5 rfl (ad0.frz 1000000 rfl ?_)
  exact F9.ret (rt (⟨[],_,_,rfl,rfl,rfl,rfl,rfl⟩))
 ·refine F9.o 7 rfl ?_
  refine C3.s 2 rfl (.loop (fun t=>⟨[(0,.own 1000000),(1,.fz n2 cs),(5,NI t.1),(6,NI t.2.1)],[(1000000,.rs 203 3 t.2.2 y9)]⟩) (fun b e σ'=>match b with| .inl t=>e= .exit 0/\Sub ⟨[(0,.own 1000000),(5,NI t.1)],[(1000000,.rs 203 3 t.2.2 y9)]⟩ σ'| .inr t=>False) (.of rfl rfl) ?_ ?_)
  ·intro s2
   refine F9.s 8 rfl ?_
   refine F9.cond rfl ?_ ?_
   ·refine F9.o 5 rfl ?_
    refine C3.o 2 rfl (.dk4 rfl rfl rfl rfl rfl rfl rfl rfl rfl rfl fun x hx=>.eJ9 hx rfl rfl rfl rfl rfl rfl rfl rfl (.s 3 rfl ?_))
    refine F9.o 4 rfl (.k (h2 x) rfl fun v2=>.o 1 rfl ?_)
    refine C3.s 1 rfl (.cond rfl ?_ ?_)
    ·refine F9.o 5 rfl (.dk4 rfl rfl rfl rfl rfl rfl rfl rfl rfl rfl fun x2 hx2=>.dK1 x [tI x.At,tI x.Channel,tB x.M9] hx2 rfl rfl rfl rfl rfl rfl rfl rfl rfl rfl rfl rfl fun l hl=>?_)
     refine C3.s 7 rfl ?_
     exact F9.l 5 rfl (lf rfl rfl)
    ·refine F9.s 7 rfl ?_
     exact F9.leaf (lf rfl rfl)
   ·exact F9.br6 rfl ⟨(fun h=>by cases h),rfl,.of rfl rfl⟩
  rintro(s3|r) e σ' _ hq
  ·obtain⟨rfl,hs⟩:=hq
   refine ad0.exit rfl (ad0.sub hs ?_)
   refine F9.o 4 rfl (.dg5 rfl rfl rfl rfl rfl rfl rfl rfl rfl rfl rfl fun u hu=>.ei7 (⟨0,0,false⟩:o5) hu cu7 rfl rfl rfl rfl rfl rfl rfl rfl rfl rfl rfl ?_)
   refine C3.o 5 rfl (.frz 1000000 rfl ?_)
   exact C3.et4 rfl rfl rfl rfl rfl rfl rfl (fun _=>rfl) rfl rfl fun l2 hl2=>.r 2 rfl (rt (⟨[],_,_,rfl,rfl,rfl,rfl,rfl⟩))
  ·exact hq.elim
theorem by2 {s r:List D0}{n:Int}(h:eF4 s n=some r):Pv.S4 s n=some r:=by
 match s,h with
 |[x],h=>
  change(if n=1 then some [x]else none)=some r at h
  by_cases hn:n=1
  case neg=>rw[if_neg hn]at h;cases h
  subst hn
  rw[if_pos rfl]at h
  cases h
  have e:Pv.S4 [x] 1=ab6 (M0 Pv.aK1 (1,[x])) (fun t=>match t with| .inl s5=>(some s5.2)| .inr r=>r.elim):=by kernel_rfl
  rw[e,F7 (b:=.inl (1,[x])) rfl]
  rfl
 |[],h=>simp[eF4]at h
 |_::_::_,h=>simp[eF4]at h
theorem br4 {s r:List A9}{f:A9->Option Bool}(h:dr7 s=some r):Pv.N2 s f=some r:=by
 cases s with
 |nil=>
  simp only[dr7,aj7]at h
  subst h
  have h1:N1 (([]:List A9).length:Int) (Pv.R5 [] f) ()=some (.inl ()):=by rw[am7 _ (by simp)];rfl
  have h2:Pv.D4 [] f=some (-1):=by unfold Pv.D4;rw[h1];rfl
  unfold Pv.N2
  rw[h2]
  rfl
 |cons x l=>simp[dr7]at h
theorem bi8 {s r:List o5}{f:o5->Option Bool}(h:dr7 s=some r):Pv.P6 s f=some r:=by
 cases s with
 |nil=>
  simp only[dr7,aj7]at h
  subst h
  have h1:N1 (([]:List o5).length:Int) (Pv.aA3 [] f) ()=some (.inl ()):=by rw[am7 _ (by simp)];rfl
  have h2:Pv.ae9 [] f=some (-1):=by unfold Pv.ae9;rw[h1];rfl
  unfold Pv.P6
  rw[h2]
  rfl
 |cons x l=>simp[dr7]at h
end Go.Proofs.YtfplhihoadkhlaaGreat

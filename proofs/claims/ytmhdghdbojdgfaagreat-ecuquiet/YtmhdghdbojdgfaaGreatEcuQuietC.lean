/- A part of the proof of EcuQuiet: The walk reckoned, and more. -/
import Derived.Test.YtmhdghdbojdgfaaGreatEcuQuietB
import Derived.MapKept
import Derived.Carry
import Derived.KernelRfl
import Derived.Test.YtmhdghdbojdgfaaGreatProg
set_option linter.unusedSimpArgs false
set_option linter.unusedVariables false
set_option maxRecDepth 100000
noncomputable section
open Array renaming ext'->fc9,getElem?_eq_some_iff->dC7
open Bool renaming and_eq_true->aI9,and_true->eU6,not_eq_true'->ck7,not_true->aX3,or_eq_false_iff->bN3,or_eq_true->cI5
open Int renaming toNat->eK0
open Go.IntKind renaming u64->aW6
open List renaming all_eq_true->bF0,append_nil->dh6,drop_drop->ex8,filter_cons->ex5,filter_nil->eK1,getElem?_cons_zero->cY9,getElem?_eq_getElem->aW5,getElem?_eq_none->ed5,getElem?_eq_some_iff->bH2,getElem?_map->cV8,getElem?_take->dC1,head?_drop->eG8,length_append->aZ7,length_nil->cV7,map_cons->cW0,mem_cons->cq9,mem_cons_of_mem->bZ9,mem_cons_self->bN8,mem_filter->dM7,mem_map->da1,mem_of_getElem?->do6,pairwise_cons->ey0,range->dC2
open List.cons renaming injEq->eU4
open Nat renaming add_assoc->dK7,add_comm->eI2,add_zero->eb4,beq->bC1,beq_refl->ca0,ble->dQ2,blt->bo8,eq_of_beq_eq_true->bs6,eq_zero_or_pos->dR2,le_of_ble_eq_true->bo7,le_refl->cw4,le_trans->eI9,lt_of_lt_of_le->dN8,lt_or_ge->dc9,not_lt->fd2,zero_add->cX5
open Option renaming bind->ai2,bind_eq_some_iff->eY4,bind_some->aD6,map_eq_some_iff->eC5,map_some->cq8
open Option.some renaming injEq->aH6
open Prod.mk renaming injEq->aZ6
open Go.Pv renaming encI->aJ6,encS->do4
open Go.Result renaming andThen_ok->bc2
open Go.Sem renaming run_bind->bq7,run_pure->bF1
namespace Go.Pv
open Go.RowKit
section
variable {P:Program} {ρ τ β:Type} {X:Cx}
theorem da0 {α:Type}{a:Bool}{sz:Nat}{l:List T}{res:α->T}:∀{ys:List α}{k:Nat},(eg6 a sz l res ys k).den->∀j y,ys[j]? =some y->bg1 a sz l ((k+j)*sz)=some (res y)
 |[],_,_,j,y,h=>by simp at h
 |z::r,k,ht,0,y,h=>by
  simp only[cY9,aH6]at h
  subst h
  exact V.eq ht.1
 |z::r,k,ht,j+1,y,h=>by
  have:=da0 ht.2 j y (by simpa using h)
  rwa[dK7,eI2 1 j]at this
theorem dr4 {α:Type}{enc:α->List Tree}{sz:Nat}(h:∀y,(enc y).length=sz):∀{ys:List α}{j:Nat}{y:α},ys[j]? =some y->∃r,(cat enc ys).drop (j*sz)=enc y++r
 |[],j,y,hy=>by simp at hy
 |x::l,0,y,hy=>by
  simp only[cY9,aH6]at hy
  subst hy
  exact⟨cat enc l,by simp[cat]⟩
 |x::l,j+1,y,hy=>by
  obtain⟨r,hr⟩:=dr4 h (ys:=l) (j:=j) (y:=y) (by simpa using hy)
  refine⟨r,?_⟩
  rw[cat,Nat.succ_mul,eI2,<-ex8,List.drop_left' (h x)]
  exact hr
theorem RV.eA1 {w:World}{S:Nat->Prop}{E:Nat->Value}{x:Value}{l r:List Tree}(h:RV w S E x (.el (l++r))):RV w S E x (.el l):=by
 cases h with
 |el b o _ vs hS hc hr=>
  refine .el b o l vs hS (fun j hj=>hc j (by simp;omega)) (fun j hj=>?_)
  have:=hr j (by simp;omega)
  rwa[List.getElem_append_left hj]at this
theorem L1.ok {tm:List (Nat×T)}{hp:List (Nat×G0)}{o:Oper}:∀{τ:Type}{l:L1 τ}{t:Tr}{res:τ->T},l.q X.C2 tm hp o.op=some (t,res)->t.den->
  ∀(y:τ) (S:Nat->Prop) (E:Nat->Value) (a:Act) (w:World),l.m=some y->Ok X.w0 X.L X.nt ⟨tm,hp⟩ S E a w->∃v,(execOp a.eval o).run X.P w= .ok (.value v) w/\RV w S E v (res y)
 |_,.ix enc l i,t,res,h,ht=>by
  simp only[L1.q]at h
  split at h<;>try(cases h;done)
  rename_i ty x ii hop
  split at h<;>try(cases h;done)
  rename_i X' k j s0 e z0 hx hi hty
  split at h<;>try(cases h;done)
  rename_i te hte
  split at h
  ·rename_i id
   split at h<;>try(cases h;done)
   rename_i el sz n rs hb
   cases hsz:bC1 te.size sz<;>simp only[hsz,fi0,fh8,reduceCtorEq,aH6,aZ6]at h
   obtain⟨rfl,rfl⟩:=h
   obtain⟨h1,h2⟩:=ht
   have h1:=V.eq h1
   have h2:=V.eq h2
   simp only[aZ6]at h1
   obtain⟨rfl,rfl⟩:=h1
   subst h2
   intro y S E a w hm hk
   obtain⟨h0,hl,hlt⟩:=aU0 hm
   have hiv:=(hk.val hi).tv
   obtain⟨dd,hdd,ho2⟩:=(X.K0 ty _ hty).au0 w
   simp only[TD.ok]at ho2
   subst ho2
   have hs:=(X.K0 e _ hte).aF7 w
   have hll:j.toNat<l.length:=by omega
   have hxv:=hk.val hx
   generalize hxe:a.eval x=xv at hxv
   cases hxv with
   |own _ _ hE=>
    obtain⟨hn,⟨hE',hr⟩|⟨β,cap,vs,_,hE',hh,_⟩⟩:=hk.hp id _ hb
    ·simp at hr;subst hr;simp at hll
    ·have:=bs6 hsz
     subst this
     have hpe:=RV.pe (w:=w) (S:=S) (E:=E) id j.toNat te.size 0 β (l.map enc).length cap hE'
     refine⟨_,?_,hpe⟩
     rw[hE']at hE
     subst hE
     simp only[execOp,hop,Instr.indexAt,hiv,asIntOf,bq7,bF1,bc2,hdd,hxe]
     have c1:0<=j/\j<((l.map enc).length:Int):=⟨h0,by simpa using hlt⟩
     simp only[bq7,bc2,bF1,c1,and_self,if_true,hs,aB3,cX5,eb4]
  ·simp only[aH6,aZ6]at h
   obtain⟨rfl,rfl⟩:=h
   obtain⟨h1,h2,h3⟩:=ht
   have h1:=V.eq h1
   have h2:=V.eq h2
   have h3:=V.eq h3
   subst h1 h2
   intro y S E a w hm hk
   exact dd6 hk hm hop hx hi hty hte (fun y=>congrFun h3 y)
 |_,.quo k i j,t,res,h,ht=>by
  simp only[L1.q]at h
  split at h<;>try(cases h;done)
  rename_i ty x y yt hop
  split at h<;>try(cases h;done)
  rename_i k1 x1 k2 y1 hx hy
  simp only[aH6,aZ6]at h
  obtain⟨rfl,rfl⟩:=h
  have h1:=V.eq ht
  simp only[aZ6]at h1
  obtain⟨rfl,rfl,rfl,rfl⟩:=h1
  intro q S E a w hm hk
  simp only[L1.m,bm5]at hm
  split at hm
  ·cases hm
  ·rename_i hj
   cases hm
   refine⟨_,?_,.t (.v _)⟩
   simp only[execOp,hop,bq7,(hk.val hx).tv,(hk.val hy).tv,aR0 .quo ty x y (.int _ _) (.int _ _) (by simp) (by simp),bc2]
   simp[binOp,Op.intDiv,hj]
 |_,.rem i j,t,res,h,ht=>by
  simp only[L1.q]at h
  split at h<;>try(cases h;done)
  rename_i ty x y yt hop
  split at h<;>try(cases h;done)
  rename_i k1 x1 k2 y1 hx hy
  simp only[aH6,aZ6]at h
  obtain⟨rfl,rfl⟩:=h
  have h1:=V.eq ht
  simp only[aZ6]at h1
  obtain⟨rfl,rfl,rfl⟩:=h1
  intro q S E a w hm hk
  simp only[L1.m,cf7]at hm
  split at hm
  ·cases hm
  ·rename_i hj
   cases hm
   refine⟨_,?_,.t (.v _)⟩
   simp only[execOp,hop,bq7,(hk.val hx).tv,(hk.val hy).tv,aR0 .rem ty x y (.int _ _) (.int _ _) (by simp) (by simp),bc2]
   simp[binOp,Op.intDiv,hj]
 |_,.shl k i j,t,res,h,ht=>by
  simp only[L1.q]at h
  split at h<;>try(cases h;done)
  rename_i ty x y yt hop
  split at h<;>try(cases h;done)
  rename_i k1 x1 k2 y1 hx hy
  simp only[aH6,aZ6]at h
  obtain⟨rfl,rfl⟩:=h
  have h1:=V.eq ht
  simp only[aZ6]at h1
  obtain⟨rfl,rfl,rfl⟩:=h1
  intro q S E a w hm hk
  simp only[L1.m,et3]at hm
  split at hm
  ·cases hm
  ·rename_i hj
   cases hm
   refine⟨_,?_,.t (.v _)⟩
   simp only[execOp,hop,bq7,(hk.val hx).tv,(hk.val hy).tv,aR0 .shl ty x y (.int _ _) (.int _ _) (by simp) (by simp),bc2]
   simp[binOp,Op.shift,hj,bO2]
 |_,.shr k i j,t,res,h,ht=>by
  simp only[L1.q]at h
  split at h<;>try(cases h;done)
  rename_i ty x y yt hop
  split at h<;>try(cases h;done)
  rename_i k1 x1 k2 y1 hx hy
  simp only[aH6,aZ6]at h
  obtain⟨rfl,rfl⟩:=h
  have h1:=V.eq ht
  simp only[aZ6]at h1
  obtain⟨rfl,rfl,rfl⟩:=h1
  intro q S E a w hm hk
  simp only[L1.m,et4]at hm
  split at hm
  ·cases hm
  ·rename_i hj
   cases hm
   refine⟨_,?_,.t (.v _)⟩
   simp only[execOp,hop,bq7,(hk.val hx).tv,(hk.val hy).tv,aR0 .shr ty x y (.int _ _) (.int _ _) (by simp) (by simp),bc2]
   simp[binOp,Op.shift,hj,D0]
 |_,.str s i,t,res,h,ht=>by
  simp only[L1.q]at h
  split at h<;>try(cases h;done)
  rename_i ty x ii hop
  split at h<;>try(cases h;done)
  rename_i s1 k j s0 z0 hx hi hty
  simp only[aH6,aZ6]at h
  obtain⟨rfl,rfl⟩:=h
  have h1:=V.eq ht
  simp only[aZ6]at h1
  obtain⟨rfl,rfl⟩:=h1
  intro q S E a w hm hk
  obtain⟨dd,hu,ho2⟩:∃d,X.P.underlying ty=some d/\TD.ok X.P .string d:=by
   obtain⟨i,d,_,_,hu,hdd,_⟩:=X.K0 ty _ hty
   exact⟨d,hu,hdd⟩
  simp only[TD.ok]at ho2
  subst ho2
  simp only[L1.m,fb7]at hm
  refine⟨_,?_,.t (.v _)⟩
  have hin:0<=j/\j<s1.size:=by
   by_cases h0:0<=j
   ·rw[if_pos h0]at hm
    by_cases h1:j.toNat<s1.size
    ·exact⟨h0,by omega⟩
    ·rw[ByteArray.getElem?_ge' s1 _ (by omega)]at hm;cases hm
   ·rw[if_neg h0]at hm;cases hm
  rw[if_pos hin.1,ByteArray.getElem?_lt' s1 _ (by omega)]at hm
  simp only[cq8,aH6]at hm
  subst hm
  simp only[execOp,hop,bq7,(hk.val hx).tv,(hk.val hi).tv,run_index_string w ty s1 k j hu,hin,and_self,dite_true,bc2,bF1]
 |_,.arr res ys i,t,res',h,ht=>by
  simp only[L1.q]at h
  split at h<;>try(cases h;done)
  rename_i ty x ii hop
  split at h<;>try(cases h;done)
  rename_i l k j s0 n e z0 hx hi hty
  split at h<;>try(cases h;done)
  rename_i te hte
  cases hc:bC1 ys.length n<;>rw[hc]at h<;>simp only[fi0,fh8,reduceCtorEq,aH6,aZ6]at h
  obtain⟨rfl,rfl⟩:=h
  obtain⟨h1,h2⟩:=ht
  have h1:=V.eq h1
  subst h1
  have hn:=bs6 hc
  intro q S E a w hm hk
  obtain⟨h0,hy,_⟩:=aU0 hm
  obtain⟨j',rfl⟩:∃j':Nat,j=Int.ofNat j':=⟨j.toNat,by simp;omega⟩
  have hy:ys[j']? =some q:=by simpa using hy
  have hj:j'<n:=by rw[<-hn];exact(bH2.1 hy).1
  have hv:=hk.val hx
  generalize hpv:a.eval x=pv at hv
  cases hv with
  |agg vs _ hl hrr=>
   have h3:=da0 h2 j' q hy
   rw[cX5]at h3
   obtain⟨v,hv1,hv2⟩:=cJ9 (ik:=k) X.K0 hty hte hj ⟨hl,hrr⟩ h3
   exact⟨v,by simp only[execOp,hop,hpv,(hk.val hi).tv,hv1,bq7,bc2,bF1],hv2⟩
 |_,.ax enc ys i,t,res,h,ht=>by
  simp only[L1.q]at h
  split at h<;>try(cases h;done)
  rename_i ty x ii hop
  split at h<;>try(cases h;done)
  rename_i cs k j s0 n e z0 hx hi hty
  split at h<;>try(cases h;done)
  rename_i te hte
  cases hc:bC1 ys.length n<;>simp only[hc,fi0,fh8,reduceCtorEq,aH6,aZ6]at h
  obtain⟨rfl,rfl⟩:=h
  obtain⟨h1,h2,h3⟩:=ht
  have h1:=V.eq h1
  have h2:=V.eq h2
  have h3:=V.eq h3
  subst h1 h2
  have hn:=bs6 hc
  intro y S E a w hm hk
  obtain⟨h0,hy,_⟩:=aU0 hm
  obtain⟨j',rfl⟩:∃j':Nat,j=Int.ofNat j':=⟨j.toNat,by simp;omega⟩
  have hy:ys[j']? =some y:=by simpa using hy
  have hj:j'<n:=by rw[<-hn];exact(bH2.1 hy).1
  have hv:=hk.val hx
  obtain⟨b,o',hpv⟩:=hv.cd5
  rw[hpv]at hv
  obtain⟨r,hr⟩:=dr4 (fun y=>congrFun h3 y) hy
  have hv2:=hv.cH4 (j'*te.size)
  rw[hr]at hv2
  refine⟨_,?_,hv2.eA1⟩
  simp only[execOp,hop,hpv,(hk.val hi).tv,bG0 X.K0 hty hte hj,bq7,bc2,bF1]
theorem L1.known {Γ:List GF}(hΓ:∀f∈Γ,f.ok):∀{τ:Type}{l:L1 τ}{y:τ},l.m=some y->∀f∈l.k y Γ,f.ok
 |_,.ix enc l i,y,h,f,hf=>by
  rcases cq9.1 hf with rfl|hf
  ·exact h
  ·exact hΓ f hf
 |_,.quo _ _ _,y,h,f,hf=>hΓ f hf
 |_,.rem _ _,y,h,f,hf=>hΓ f hf
 |_,.shl _ _ _,y,h,f,hf=>hΓ f hf
 |_,.shr _ _ _,y,h,f,hf=>hΓ f hf
 |_,.str _ _,y,h,f,hf=>hΓ f hf
 |_,.arr _ _ _,y,h,f,hf=>hΓ f hf
 |_,.ax _ _ _,y,h,f,hf=>hΓ f hf
theorem W1.ok {Ev:EqV X.P}{Γ:List GF}(hΓ:∀f∈Γ,f.ok){tm:List (Nat×T)}{hp:List (Nat×G0)}{o:Oper}:∀{u:W1}{t:Tr}{V:T},u.q Ev X.C2 Γ tm hp o.op=some (t,V)->t.den->
  ∀(S:Nat->Prop) (E:Nat->Value) (a:Act) (w:World),Ok X.w0 X.L X.nt ⟨tm,hp⟩ S E a w->∃v,(execOp a.eval o).run X.P w= .ok (.value v) w/\RV w S E v V
 | .hx n,t,V,h,ht=>by
  simp only[W1.q]at h
  split at h<;>try(cases h;done)
  rename_i f hf
  split at h<;>try(cases h;done)
  rename_i t' res hq
  simp only[aH6,aZ6]at h
  obtain⟨rfl,rfl⟩:=h
  intro S E a w hk
  exact L1.ok hq ht f.y S E a w (hΓ f (do6 hf)) hk
 | .ly n,t,V,h,ht=>by
  simp only[W1.q]at h
  split at h<;>try(cases h;done)
  rename_i f t' p hf ho
  split at h<;>try(cases h;done)
  rename_i id i sz off ti hp1 hti
  split at h<;>try(cases h;done)
  rename_i e sz' n' rs r hb hr
  cases hsz:bC1 sz sz'<;>simp only[hsz,fi0,fh8,reduceCtorEq,aH6,aZ6]at h
  have hsz:=bs6 hsz
  subst hsz
  obtain⟨rfl,rfl⟩:=h
  have h1:=V.eq ht
  simp only[aZ6]at h1
  obtain⟨rfl,rfl,rfl⟩:=h1
  intro S E a w hk
  have hy:=hΓ f (do6 hf)
  obtain⟨v,h1,h2⟩:=dv5 (P:=X.P) hk (X.K0 t' _ hti) hb (hk.val hp1) (by rw[cV8,(aU0 hy).2.1];rfl) hr
  refine⟨v,?_,h2⟩
  unfold execOp
  simp only[ho,bq7,h1,bc2,bF1]
 | .eq,t,V,h,ht=>by
  simp only[W1.q]at h
  split at h<;>try(cases h;done)
  rename_i op ty x y yt ho
  split at h<;>try(cases h;done)
  rename_i xs ys hx hy
  split at h<;>try(cases h;done)
  rename_i b hb
  obtain⟨vs,us,rfl,rfl,he⟩:=Ev.ok _ _ _ _ hb
  intro S E a w hk
  have hr:=eN2 (o:=o) (w:=w) (yt:=yt) he (dL9 (hk.val hx)) (dL9 (hk.val hy))
  split at h<;>try(cases h;done)
  ·simp only[aH6,aZ6]at h
   obtain⟨rfl,rfl⟩:=h
   exact⟨_,hr.1 ho,.t (.v _)⟩
  ·simp only[aH6,aZ6]at h
   obtain⟨rfl,rfl⟩:=h
   exact⟨_,hr.2 ho,.t (.v _)⟩
 | .cn,t,V,h,ht=>by
  simp only[W1.q]at h
  split at h<;>try(cases h;done)
  rename_i a b ho
  split at h<;>try(cases h;done)
  rename_i x t' ha hb
  split at h<;>try(cases h;done)
  rename_i s0 e z0 hx hty
  simp only[aH6,aZ6]at h
  obtain⟨rfl,rfl⟩:=h
  have ha:a= #[x]:=by cases a;simp_all
  have hb:b= #[t']:=by cases b;simp_all
  subst ha hb
  intro S E a w hk
  obtain⟨dd,hdd,ho2⟩:=(X.K0 t' _ hty).au0 w
  simp only[TD.ok]at ho2
  subst ho2
  have hxv:=(hk.val hx).tv
  refine⟨.int .i64 0,?_,.t (.v _)⟩
  unfold execOp
  simp[ho,resolve,invoke,builtin,hxv,Builtin.cap_,hdd,goInt]
 | .sn,t,V,h,ht=>by
  simp only[W1.q]at h
  split at h<;>try(cases h;done)
  rename_i t' x hi ho
  split at h<;>try(cases h;done)
  rename_i k s0 e z0 hx hh hty
  split at h<;>try(cases h;done)
  rename_i te hte
  simp only[aH6,aZ6]at h
  obtain⟨rfl,rfl⟩:=h
  intro S E a w hk
  obtain⟨dd,hdd,ho2⟩:=(X.K0 t' _ hty).au0 w
  simp only[TD.ok]at ho2
  subst ho2
  have hxv:=(hk.val hx).tv
  have hhv:=(hk.val hh).tv
  have hs:=(X.K0 e _ hte).aF7 w
  refine⟨.slice none 0 0,?_,.t (.v _)⟩
  unfold execOp
  simp[ho,Instr.sliceAt,Instr.slice,Instr.sliceBounds,Instr.sliceBound,asIntOf,hxv,hhv,hdd,hs]
theorem ei0 {P:Program}{w0:World}{L:Lim}{nt:Nat}{σ:St}{S:Nat->Prop}{E:Nat->Value}{a:Act}{w:World}(h:Ok w0 L nt σ S E a w){o:Oper}{n:Nat}{l:List T}{aP7:List (List Tree)}(ho:cM6 σ.tm o=some (n,l,aP7))(hn:∀vs w,(callFunc n vs).run P w= .ok (.enter n vs) w):
  ∃vs ps:List Value,(execOp a.eval o).run P w= .ok (.enter n (vs++ps).toArray) w/\RVL w S E vs l/\∀E',RVL w S E' ps (aP7.map T.el):=by
 obtain⟨dst,op,type,pos,aft,guard⟩:=o
 unfold cM6 at ho
 split at ho<;>try(cases ho;done)
 rename_i f args tys hop
 simp only at hop
 subst hop
 have key:∀(n':Nat) (cz1:List (List Tree)) (l':List T),RV w S E (a.eval f) (.fz n' cz1)->bw3 σ.tm args.toList=some l'->n'=n->cz1=aP7->l'=l->
   ∃vs ps:List Value,(execOp a.eval ⟨dst,.call ⟨.value f,args,tys⟩,type,pos,aft,guard⟩).run P w= .ok (.enter n (vs++ps).toArray) w/\RVL w S E vs l/\∀E',RVL w S E' ps (aP7.map T.el):=by
  intro n' cz1 l' hfv hl e1 e2 e3
  subst e1 e2 e3
  generalize hx:a.eval f=x at hfv
  cases hfv with
  |fz _ ps _ hpl hp=>
   refine⟨args.toList.map a.eval,ps,?_,cq1 h _ _ hl,fun E'=>⟨by simpa using hpl,fun j h1 h2=>?_⟩⟩
   ·have:(args.map a.eval)=(args.toList.map a.eval).toArray:=fc9 (by simp)
    simp only[execOp,resolve,bq7,hx,Deferred.ofValue,bF1,bc2,invoke]
    rw[hn]
    simp[this]
   ·simp only[List.getElem_map]
    exact(hp j h1 (by simpa using h2)).rv
 split at ho<;>try(cases ho;done)
 ·rename_i n' cz1 l' hf hl
  simp only[aH6,aZ6]at ho
  obtain⟨rfl,rfl,rfl⟩:=ho
  exact key _ _ _ (h.val hf) hl rfl rfl rfl
 ·rename_i n' cs l' hf hl
  split at ho<;>try(cases ho;done)
  rename_i cz1 he
  simp only[aH6,aZ6]at ho
  obtain⟨rfl,rfl,rfl⟩:=ho
  exact key _ _ _ (RV.ev9 (h.val hf) he) hl rfl rfl rfl
end
def aX9 (hp Z2:List (Nat×G0)):Prop:=∀k b,look hp k=some b->look Z2 k=some b
theorem de8 {hp Z2:List (Nat×G0)}(h:aX9 hp Z2){x:T}(ho:one hp x=true):one Z2 x=true:=by
 cases x with
 |own id=>
  simp only[one,Option.isSome_iff_exists]at ho|-
  obtain⟨b,hb⟩:=ho
  exact⟨b,h _ _ hb⟩
 |t x=>cases x<;>exact ho
 |_=>exact ho
theorem cR3 {hp Z2:List (Nat×G0)}(h:aX9 hp Z2):∀{l:List T},cw1 hp l=true->cw1 Z2 l=true
 |[],_=>rfl
 |x::l,ho=>by
  simp only[cw1,aI9]at ho|-
  exact⟨de8 h ho.1,cR3 h ho.2⟩
theorem bp5 {hp Z2:List (Nat×G0)}(h:aX9 hp Z2){x:T}{l:List T}(hc:ap3 hp x=some l):ap3 Z2 x=some l:=by
 have gen:∀{y:T},(bif one hp y then some [y]else none)=some l->(bif one Z2 y then some [y]else none)=some l:=by
  intro y hy
  cases ho:one hp y<;>rw[ho]at hy<;>simp only[fi0,fh8,reduceCtorEq]at hy
  rw[de8 h ho];exact hy
 cases x with
 |agg m=>
  simp only[ap3]at hc|-
  cases ho:cw1 hp m<;>rw[ho]at hc<;>simp only[fi0,fh8,reduceCtorEq]at hc
  rw[cR3 h ho];exact hc
 |_=>simp only[ap3]at hc|-;exact gen hc
theorem bx7 {hp Z2:List (Nat×G0)}{tm:List (Nat×T)}(h:aX9 hp Z2){place:Nat->Option (Nat×Nat)}:∀{l:List (Nat×Operand)}{cs r:List T},aK5 hp tm place cs l=some r->aK5 Z2 tm place cs l=some r
 |[],cs,r,hx=>hx
 |(i,x)::l,cs,r,hx=>by
  unfold aK5 at hx|-
  cases hv:val tm x with
  |none=>simp[hv]at hx
  |some t=>
   simp only[hv,aD6]at hx|-
   cases hc:ap3 hp t with
   |none=>simp[hc]at hx
   |some m=>
    rw[bp5 h hc]
    rw[hc]at hx
    cases hp:place i with
    |none=>simp[hp]at hx
    |some p=>
     obtain⟨o,n⟩:=p
     simp only[hp]at hx|-
     cases hb:(bC1 m.length n&&dQ2 (o+m.length) cs.length)<;>simp only[hb,fi0,fh8]at hx|-
     ·cases hx
     ·exact bx7 h hx
theorem dH5 {C2:Tab}{hp Z2:List (Nat×G0)}(h:aX9 hp Z2){ty:Nat}{x:Option T}{t:T}(hl:dv4 C2 hp ty x=some t):dv4 C2 Z2 ty x=some t:=by
 unfold dv4 at hl|-
 repeat' split at hl
 all_goals first
  |(cases hl;done)
  |(simp_all;done)
  |(rename_i hb;simp_all[h _ _ hb])
theorem dV8 {C2:Tab}{tm:List (Nat×T)}{hp Z2:List (Nat×G0)}{o:Oper}{t:T}(h:aX9 hp Z2)(hi:bz6 o.op=true)(he:evalOp C2 ⟨tm,hp⟩ o=some (t,⟨tm,hp⟩)):
  evalOp C2 ⟨tm,Z2⟩ o=some (t,⟨tm,Z2⟩):=by
 rw[aT6]at he|-
 obtain⟨dst,op,type,pos,aft,guard⟩:=o
 have mp:∀{x:Option T},x=some t->x.map (·,(⟨tm,Z2⟩:St))=some (t,⟨tm,Z2⟩):=fun hx=>by rw[hx];rfl
 cases op<;>simp only[bz6,reduceCtorEq]at hi<;>simp only[bj9]at he|-
 case move x=>exact mp (N4 he).1
 case assign x=>exact mp (N4 he).1
 case pick c x y=>
  split at he<;>try(cases he;done)
  exact mp (N4 he).1
 case load ty x=>
  split at he<;>try(cases he;done)
  ·split at he<;>try(cases he;done)
   rename_i hb
   rw[h _ _ hb]
   exact mp (N4 he).1
  ·exact mp (N4 he).1
 case nilCheck x=>
  split at he<;>first|(cases he;done)|(simp only[aH6,aZ6]at he;rw[<-he.1])
 case fieldAddr s x f=>
  split at he<;>try(cases he;done)
  all_goals
   split at he<;>try(cases he;done)
   simp only[aH6,aZ6]at he
   rw[<-he.1]
 case binOp op ty x y yt=>exact mp (N4 he).1
 case unOp op ty x=>exact mp (N4 he).1
 case convert s d x=>
  split at he<;>try(cases he;done)
  exact mp (N4 he).1
 case extract x k=>
  split at he<;>try(cases he;done)
  exact mp (N4 he).1
 case build ty parts=>
  split at he<;>try(cases he;done)
  ·rename_i sz fs z hti
   cases hf:aK5 hp tm (fs[·]?) (z.map fun x=>.t (.v x)) parts.toList with
   |none=>simp[hf]at he
   |some l=>
    rw[bx7 h hf]
    simp only[hf,cq8,aH6,aZ6]at he
    simp only[cq8,he.1]
  ·rename_i sz n e z hti
   split at he<;>try(cases he;done)
   rename_i te hte
   cases hf:aK5 hp tm (fun i=>some (i*te.size,te.size)) (z.map fun x=>.t (.v x)) parts.toList with
   |none=>simp[hf]at he
   |some l=>
    rw[bx7 h hf]
    simp only[hf,cq8,aH6,aZ6]at he
    simp only[cq8,he.1]
 case indexAddr ty x ix=>
  split at he<;>try(cases he;done)
  all_goals
   split at he<;>try(cases he;done)
   revert he
   cases bo8 _ _<;>intro he<;>simp only[fi0,fh8,reduceCtorEq,aH6,aZ6]at he|-
   exact⟨he.1,trivial⟩
 case index ty x ix=>
  split at he<;>try(cases he;done)
  split at he<;>try(cases he;done)
  revert he
  cases bo8 _ _<;>intro he<;>simp only[fi0,fh8,reduceCtorEq]at he|-
  exact mp (N4 he).1
 case call c=>
  have hb:=(N4 he).1
  refine mp ?_
  unfold dq9 at hb|-
  split at hb<;>try(cases hb;done)
  ·exact dH5 h hb
  ·exact hb
  ·exact hb
theorem dt3 {C2:Tab}{tm tm':List (Nat×T)}{hp Z2:List (Nat×G0)}{o:Oper}{t:T}(h:more tm tm')(h':aX9 hp Z2)(hi:bz6 o.op=true)(he:evalOp C2 ⟨tm,hp⟩ o=some (t,⟨tm,hp⟩)):
  evalOp C2 ⟨tm',Z2⟩ o=some (t,⟨tm',Z2⟩):=dV8 h' hi (dt4 h hi he)
def aR2:Op->Bool
 | .alloc _| .box .. | .buildSlice .. | .makeSlice ..=>true
 |_=>false
theorem dG3 {C2:Tab}{tm tm':List (Nat×T)}{hp Z2:List (Nat×G0)}{o:Oper}{t:T}{d:Nat}{b:G0}(h:more tm tm')(h':aX9 hp Z2)(hi:aR2 o.op=true)(hd:o.dst=some d)(he:evalOp C2 ⟨tm,hp⟩ o=some (t,⟨tm,(d,b)::hp⟩))
  (hf:(M7 d tm'&&L8 d Z2)=true):evalOp C2 ⟨tm',Z2⟩ o=some (t,⟨tm',(d,b)::Z2⟩):=by
 rw[aT6]at he|-
 obtain⟨dst,op,type,pos,aft,guard⟩:=o
 simp only at hd
 subst hd
 rw[aI9]at hf
 cases op<;>simp only[aR2,reduceCtorEq]at hi<;>simp only[bj9]at he|-
 case alloc e=>
  cases hti:look C2 e with
  |none=>simp[hti]at he
  |some ti=>
   simp only[hti]at he|-
   cases hb:(bo8 d big&&M7 d tm&&L8 d hp&&ti.zero.all Value.oneCell')<;>rw[hb]at he<;>simp only[fi0,fh8,reduceCtorEq,aH6,aZ6,St.mk.injEq,eU4,true_and,and_true]at he
   simp only[aI9]at hb
   rw[hf.1,hf.2,hb.1.1.1,hb.2]
   simp[he.1,he.2]
 case box e x=>
  cases hv:val tm x with
  |none=>simp[hv]at he
  |some u=>
   simp only[hv,aD6]at he
   cases hc:ap3 hp u with
   |none=>simp[hc]at he
   |some l=>
    simp only[hc]at he
    cases hb:(bo8 d big&&M7 d tm&&L8 d hp)<;>rw[hb]at he<;>simp only[fi0,fh8,reduceCtorEq,aH6,aZ6,St.mk.injEq,eU4,true_and,and_true]at he
    simp only[aI9]at hb
    rw[C7 h hv]
    simp only[aD6,bp5 h' hc,hf.1,hf.2,hb.1.1]
    simp[he.1,he.2]
 case buildSlice ty n parts=>
  split at he<;>try(cases he;done)
  rename_i d' s0 e z0 hd' hti
  simp only[aH6]at hd'
  subst hd'
  split at he<;>try(cases he;done)
  rename_i te hte
  try simp only[hte]
  cases hfi:aK5 hp tm (fun i=>some (i*te.size,te.size)) ((aV6 n te.zero).map fun x=>.t (.v x)) parts.toList with
  |none=>simp[hfi]at he
  |some l=>
   rw[bx7 h' (bI0 h hfi)]
   simp only[hfi]at he
   dsimp only
   split at he<;>try(cases he;done)
   rename_i r hr
   try simp only[hr]
   cases hb:(bo8 d big&&M7 d tm&&L8 d hp&&bC1 r.length (n*te.size)&&dQ2 (n*te.size) 1000000&&bC1 te.zero.length te.size&&bo8 0 te.size)<;>rw[hb]at he<;>simp only[fi0,fh8,reduceCtorEq,aH6,aZ6,St.mk.injEq,eU4,true_and,and_true]at he
   simp only[aI9]at hb
   simp only[hf.1,hf.2,hb.1.1.1.1.1.1,hb.1.1.1.2,hb.1.1.2,hb.1.2,hb.2]
   simp[he.1,he.2]
 case makeSlice ty x y=>cases he
def pt (o:Oper)(V:T)(tm:List (Nat×T)):List (Nat×T):=match o.dst with|some d=>(d,V)::tm|none=>tm
def be8 (N:Option (Nat×G0))(hp:List (Nat×G0)):List (Nat×G0):=match N with|some p=>p::hp|none=>hp
def cJ6 (o:Oper)(N:Option (Nat×G0)):Option Nat:=match o.op with
 | .call _=>match N with|some (id,_)=>some id|none=>none
 |_=>none
theorem dp9 {o:Oper}{N:Option (Nat×G0)}(h:aR2 o.op=true):cJ6 o N=none:=by
 obtain⟨dst,op,type,pos,aft,guard⟩:=o
 cases op<;>simp only[aR2,reduceCtorEq]at h<;>rfl
theorem dT7 {o:Oper}:cJ6 o none=none:=by
 unfold cJ6
 split<;>rfl
def nfB (id:Nat):List (Nat×G0)->Bool
 |[]=>true
 |(_,b)::r=>!bi0 id b&&nfB id r
theorem cn3 {id:Nat}:∀{hp:List (Nat×G0)},nfB id hp=true->L8 id (bw0 hp id)=true
 |[],_=>rfl
 |(k,b)::r,h=>by
  simp only[nfB,aI9,ck7]at h
  unfold bw0
  cases hk:bC1 k id<;>simp only[fi0,fh8]
  ·simp[L8,hk,h.1,cn3 h.2]
  ·exact cn3 h.2
def ch4 (o:Oper)(N:Option (Nat×G0))(tm:List (Nat×T))(hp:List (Nat×G0)):Prop:=
 (aR2 o.op=true->∀d,o.dst=some d->(M7 d tm&&L8 d hp)=true)/\∀id,cJ6 o N=some id->M7 id tm=true/\nfB id hp=true
def ah9 (X:Cx)(all:Array Oper)(o:Oper)(T9:List (Nat×T))(an3:List (Nat×G0))(V:T)(N:Option (Nat×G0)):Prop:=
 ∀tm hp,more T9 tm->aX9 an3 hp->ch4 o N tm hp->(∀d,o.dst=some d->bo8 d X.nt=true)->
  ∀a w,Sim X.w0 X.L X.nt ⟨tm,hp⟩ a w->∀(K:Act->World->Prop) (Q':Exit->Act->World->Prop),
  (∀a' w',Sim X.w0 X.L X.nt ⟨pt o V tm,be8 N hp⟩ a' w'->K a' w')->
  if Region.wanted o (yielded all a.tmps)then o.wp X.P a w K Q' else K (a.put o.dst undef) w
section
variable {τ:Type} {X:Cx} {T9:List (Nat × T)} {an3:List (Nat × G0)} {all:Array Oper} {o:Oper} {V:T} {N:Option (Nat × G0)} {kb:List Nat}
theorem Ok.pt {tm:List (Nat×T)}{hp:List (Nat×G0)}{S:Nat->Prop}{E:Nat->Value}{a:Act}{w:World}{v:Value}(h:Ok X.w0 X.L X.nt ⟨tm,hp⟩ S E a w)(hv:RV w S E v V)(hd:∀d,o.dst=some d->bo8 d X.nt=true):
  Sim X.w0 X.L X.nt ⟨Pv.pt o V tm,hp⟩ (a.put o.dst v) w:=by
 unfold Pv.pt
 cases bf7:o.dst with
 |none=>exact⟨S,E,h⟩
 |some d=>exact⟨S,E,h.put (bo7 (hd d bf7)) hv⟩
theorem ah9.pure (hg:gk all.toList kb T9 o.guard=some true)(hi:bz6 o.op=true)(he:evalOp X.C2 ⟨T9,an3⟩ o=some (V,⟨T9,an3⟩)):ah9 X all o T9 an3 V none:=by
 intro tm hp hm hh _ hd a w ⟨S,E,hk⟩ K Q' hK
 obtain⟨v,w',E',hdo,hk',hv⟩:=bD0 X.K0 hk (dt3 hm hh hi he)
 rw[S6 hk (as0 hm (aF1 hg)),if_pos rfl]
 unfold Oper.wp
 have:=hK (a.put o.dst v) w' (by simpa[be8]using Ok.pt hk' hv hd)
 rcases hdo with hdo|⟨hdo,rfl⟩<;>rw[hdo]<;>exact this
theorem ah9.new {d:Nat}{b:G0}(hg:gk all.toList kb T9 o.guard=some true)(hi:aR2 o.op=true)(hd:o.dst=some d)(he:evalOp X.C2 ⟨T9,an3⟩ o=some (V,⟨T9,(d,b)::an3⟩)):ah9 X all o T9 an3 V (some (d,b)):=by
 intro tm hp hm hh hf hd' a w ⟨S,E,hk⟩ K Q' hK
 obtain⟨v,w',E',hdo,hk',hv⟩:=bD0 X.K0 hk (dG3 hm hh hi hd he (hf.1 hi d hd))
 rw[S6 hk (as0 hm (aF1 hg)),if_pos rfl]
 unfold Oper.wp
 have:=hK (a.put o.dst v) w' (Ok.pt hk' hv hd')
 rcases hdo with hdo|⟨hdo,rfl⟩<;>rw[hdo]<;>exact this
theorem cQ3 {hp:List (Nat×G0)}{id k:Nat}{b c:G0}(h:look hp id=some b):look (at3 hp id c) k=look ((id,c)::hp) k:=by
 rw[aE1]
 by_cases hk:id=k
 ·subst hk;simp[h,look]
 ·simp[hk,look,C3 hk]
theorem Sim.bL6 {w0:World}{L:Lim}{nt:Nat}{tm tm':List (Nat×T)}{hp Z2:List (Nat×G0)}{a:Act}{w:World}(hm:Pv.more tm' tm)(hh:aX9 Z2 hp)(h:Sim w0 L nt ⟨tm,hp⟩ a w):Sim w0 L nt ⟨tm',Z2⟩ a w:=by
 obtain⟨S,E,hk⟩:=h
 exact⟨S,E,{hk with
  tm:=fun k t ht=>hk.tm k t (hm k t ht)
  hp:=fun i b hb=>hk.hp i b (hh i b hb)
  own:=fun i b β hb=>hk.own i b β (hh i b hb)
  as9:=fun i i' b b' β h1 h2=>hk.as9 i i' b b' β (hh i b h1) (hh i' b' h2)}⟩
theorem ah9.store {t id off:Nat}{x y:Operand}{ti:TI}{l ts:List T}(hg:gk all.toList kb T9 o.guard=some true)(ho:o.op= .store t x y)(hx:val T9 x=some (.ptr id off))(hti:look X.C2 t=some ti)(hy:(val T9 y).bind (ap3 an3)=some l)
  (hb:look an3 id=some (.box ts)) (hc:(bC1 l.length ti.size&&dQ2 (off+l.length) ts.length)=true):ah9 X all o T9 an3 (.t (.v undef)) (some (id,.box (aO7 ts off l))):=by
 intro tm hp hm hh hf hd' a w ⟨S,E,hk⟩ K Q' hK
 have he:evalOp X.C2 ⟨tm,hp⟩ o=some (.t (.v undef),⟨tm,at3 hp id (.box (aO7 ts off l))⟩):=by
  have hy':(val tm y).bind (ap3 hp)=some l:=by
   cases hv:val T9 y with
   |none=>simp[hv]at hy
   |some u=>rw[C7 hm hv];rw[hv]at hy;exact bp5 hh hy
  rw[aT6]
  obtain⟨dst,op,type,pos,aft,guard⟩:=o
  simp only at ho
  subst ho
  simp only[bj9,C7 hm hx,hti,hy',hh _ _ hb,hc,fi0]
 obtain⟨v,w',E',hdo,hk',hv⟩:=bD0 X.K0 hk he
 rw[S6 hk (as0 hm (aF1 hg)),if_pos rfl]
 unfold Oper.wp
 have:=hK (a.put o.dst v) w' (Sim.bL6 (fun _ _ h=>h) (fun k c hkc=>by rw[cQ3 (hh _ _ hb)];exact hkc) (Ok.pt hk' hv hd'))
 rcases hdo with hdo|⟨hdo,rfl⟩<;>rw[hdo]<;>exact this
theorem ah9.skip (hg:gk all.toList kb T9 o.guard=some false):ah9 X all o T9 an3 (.t (.v undef)) none:=by
 intro tm hp hm hh hf hd a w ⟨S,E,hk⟩ K Q' hK
 rw[S6 hk (as0 hm (aF1 hg)),if_neg (by simp)]
 exact hK _ _ (by simpa[be8]using Ok.pt hk (.t (.v _)) hd)
end
mutual
theorem cn1:∀(t:T),mrg t t=t
 | .agg l=>by simp only[mrg,bW1 l]
 | .P7 l=>by simp only[mrg,bW1 l]
 | .t x=>by
  unfold mrg
  cases x with
  |sl n rs=>rfl
  |v x=>rfl
 | .clo f l=>by simp only[mrg]
 | .el _=>by simp only[mrg]
 | .ptr _ _=>by simp only[mrg]
 | .own _=>by simp only[mrg]
 | .pe _ _ _ _=>by simp only[mrg]
 | .vw _ _ _ _=>by simp only[mrg]
 | .fz _ _=>by simp only[mrg]
 | .any=>by simp only[mrg]
theorem bW1:∀(l:List T),bz9 l l=l
 |[]=>by simp only[bz9]
 |x::l=>by simp only[bz9,cn1 x,bW1 l]
end
theorem de5 (b:G0):cn0 b b=b:=by
 cases b<;>simp[cn0,bW1]
theorem L1.dm8 {C2:Tab}{tm tm':List (Nat×T)}{hp Z2:List (Nat×G0)}{o:Op}(hm:more tm tm')(hh:aX9 hp Z2):∀{τ:Type}{l:L1 τ}{r:Tr×(τ->T)},l.q C2 tm hp o=some r->l.q C2 tm' Z2 o=some r
 |_,.ix enc l i,r,h=>by
  simp only[L1.q]at h|-
  split at h<;>try(cases h;done)
  split at h<;>try(cases h;done)
  rename_i hx hi hty
  rw[C7 hm hx,C7 hm hi,hty]
  dsimp only
  split at h<;>try(cases h;done)
  split at h
  ·split at h<;>try(cases h;done)
   rename_i hb
   try dsimp only
   rw[hh _ _ hb];exact h
  ·exact h
 |_,.quo k i j,r,h=>by
  simp only[L1.q]at h|-
  split at h<;>try(cases h;done)
  split at h<;>try(cases h;done)
  rename_i hx hy
  rw[C7 hm hx,C7 hm hy];exact h
 |_,.rem i j,r,h=>by
  simp only[L1.q]at h|-
  split at h<;>try(cases h;done)
  split at h<;>try(cases h;done)
  rename_i hx hy
  rw[C7 hm hx,C7 hm hy];exact h
 |_,.shl k i j,r,h=>by
  simp only[L1.q]at h|-
  split at h<;>try(cases h;done)
  split at h<;>try(cases h;done)
  rename_i hx hy
  rw[C7 hm hx,C7 hm hy];exact h
 |_,.shr k i j,r,h=>by
  simp only[L1.q]at h|-
  split at h<;>try(cases h;done)
  split at h<;>try(cases h;done)
  rename_i hx hy
  rw[C7 hm hx,C7 hm hy];exact h
 |_,.str s i,r,h=>by
  simp only[L1.q]at h|-
  split at h<;>try(cases h;done)
  split at h<;>try(cases h;done)
  rename_i hx hi hty
  rw[C7 hm hx,C7 hm hi,hty];exact h
 |_,.arr res ys i,r,h=>by
  simp only[L1.q]at h|-
  split at h<;>try(cases h;done)
  split at h<;>try(cases h;done)
  rename_i hx hi hty
  rw[C7 hm hx,C7 hm hi,hty];exact h
 |_,.ax enc ys i,r,h=>by
  simp only[L1.q]at h|-
  split at h<;>try(cases h;done)
  split at h<;>try(cases h;done)
  rename_i hx hi hty
  rw[C7 hm hx,C7 hm hi,hty];exact h
theorem bK3 {hp Z2:List (Nat×G0)}(h:aX9 hp Z2):∀{ts:List T}{c:List Tree},ar5 hp ts=some c->ar5 Z2 ts=some c
 |[],c,hc=>by simp only[ar5]at hc|-;exact hc
 | .t x::r,c,hc=>by
  simp only[ar5]at hc|-
  cases hr:ar5 hp r with
  |none=>simp[hr]at hc
  |some d=>rw[bK3 h hr];rw[hr]at hc;exact hc
 | .own id::r,c,hc=>by
  simp only[ar5]at hc|-
  split at hc<;>try(cases hc;done)
  rename_i hb
  rw[h _ _ hb]
  cases hr:ar5 hp r with
  |none=>simp[hr]at hc
  |some d=>simp only[bK3 h hr];rw[hr]at hc;exact hc
 | .el _::_,c,hc=>by simp[ar5]at hc
 | .ptr _ _::_,c,hc=>by simp[ar5]at hc
 | .pe _ _ _ _::_,c,hc=>by simp[ar5]at hc
 | .vw _ _ _ _::_,c,hc=>by simp[ar5]at hc
 | .agg _::_,c,hc=>by simp[ar5]at hc
 | .P7 _::_,c,hc=>by simp[ar5]at hc
 | .clo _ _::_,c,hc=>by simp[ar5]at hc
 | .fz _ _::_,c,hc=>by simp[ar5]at hc
 | .any::_,c,hc=>by simp[ar5]at hc
mutual
theorem dG7 {hp Z2:List (Nat×G0)}(h:aX9 hp Z2):∀{x y:T},ba2 hp x=some y->ba2 Z2 x=some y
 | .own id,y,hf=>by
  simp only[ba2]at hf|-
  split at hf<;>try(cases hf;done)
  rename_i hb
  rw[h _ _ hb];exact hf
 | .ptr id off,y,hf=>by
  simp only[ba2]at hf|-
  split at hf<;>try(cases hf;done)
  rename_i ts hb
  rw[h _ _ hb]
  cases hc:ar5 hp ts with
  |none=>simp[hc]at hf
  |some c=>simp only[bK3 h hc];rw[hc]at hf;exact hf
 | .agg l,y,hf=>by
  simp only[ba2]at hf|-
  cases hl:bl8 hp l with
  |none=>simp[hl]at hf
  |some r=>rw[bt5 h hl];rw[hl]at hf;exact hf
 | .P7 l,y,hf=>by
  simp only[ba2]at hf|-
  cases hl:bl8 hp l with
  |none=>simp[hl]at hf
  |some r=>rw[bt5 h hl];rw[hl]at hf;exact hf
 | .clo n l,y,hf=>by
  simp only[ba2]at hf|-
  cases hl:bl8 hp l with
  |none=>simp[hl]at hf
  |some r=>rw[bt5 h hl];rw[hl]at hf;exact hf
 | .t x,y,hf=>by simp only[ba2]at hf|-;exact hf
 | .el c,y,hf=>by simp only[ba2]at hf|-;exact hf
 | .fz n c,y,hf=>by simp only[ba2]at hf|-;exact hf
 | .pe _ _ _ _,y,hf=>by simp[ba2]at hf
 | .vw _ _ _ _,y,hf=>by simp[ba2]at hf
 | .any,y,hf=>by simp[ba2]at hf
theorem bt5 {hp Z2:List (Nat×G0)}(h:aX9 hp Z2):∀{l r:List T},bl8 hp l=some r->bl8 Z2 l=some r
 |[],r,hf=>by simp only[bl8]at hf|-;exact hf
 |x::l,r,hf=>by
  simp only[bl8]at hf|-
  split at hf<;>try(cases hf;done)
  rename_i hx hl
  rw[dG7 h hx,bt5 h hl];exact hf
end
section
variable {τ:Type} {X:Cx} {T9:List (Nat × T)} {an3:List (Nat × G0)} {all:Array Oper} {o:Oper} {V:T} {kb:List Nat}
theorem dE8 {tm tm':List (Nat×T)}{r:Nat×List T×List (List Tree)}(h:more tm tm')(hc:cM6 tm o=some r):cM6 tm' o=some r:=by
 unfold cM6 at hc|-
 split at hc<;>try(cases hc;done)
 rename_i f args tys hop
 split at hc<;>try(cases hc;done)
 ·rename_i n aP7 l hf hl
  rw[C7 h hf,bE6 h hl]
  exact hc
 ·rename_i n aP7 l hf hl
  rw[C7 h hf,bE6 h hl]
  exact hc
theorem W1.dm8 {P:Program}{Ev:EqV P}{C2:Tab}{Γ:List GF}{tm tm':List (Nat×T)}{hp Z2:List (Nat×G0)}{o:Op}(hm:more tm tm')(hh:aX9 hp Z2):∀{u:W1}{r:Tr×T},u.q Ev C2 Γ tm hp o=some r->u.q Ev C2 Γ tm' Z2 o=some r
 | .hx n,r,h=>by
  simp only[W1.q]at h|-
  split at h<;>try(cases h;done)
  rename_i f hf
  try simp only[hf]
  split at h<;>try(cases h;done)
  rename_i hq
  rw[L1.dm8 hm hh hq];exact h
 | .ly n,r,h=>by
  simp only[W1.q]at h|-
  split at h<;>try(cases h;done)
  rename_i hf
  try simp only[hf]
  split at h<;>try(cases h;done)
  rename_i hp1 hti
  rw[C7 hm hp1,hti]
  dsimp only
  split at h<;>try(cases h;done)
  rename_i hb hr
  rw[hh _ _ hb,hr];exact h
 | .eq,r,h=>by
  simp only[W1.q]at h|-
  split at h<;>try(cases h;done)
  split at h<;>try(cases h;done)
  rename_i hx hy
  rw[C7 hm hx,C7 hm hy];exact h
 | .cn,r,h=>by
  simp only[W1.q]at h|-
  split at h<;>try(cases h;done)
  split at h<;>try(cases h;done)
  rename_i ha hb
  try rw[ha,hb]
  try dsimp only
  split at h<;>try(cases h;done)
  rename_i hx hty
  rw[C7 hm hx,hty];exact h
 | .sn,r,h=>by
  simp only[W1.q]at h|-
  split at h<;>try(cases h;done)
  split at h<;>try(cases h;done)
  rename_i hx hh' hty
  rw[C7 hm hx,C7 hm hh',hty];exact h
theorem ah9.known {Ev:EqV X.P}{Γ:List GF}(hΓ:∀f∈Γ,f.ok){u:W1}{t:Tr}(hg:gk all.toList kb T9 o.guard=some true)(hq:u.q Ev X.C2 Γ T9 an3 o.op=some (t,V))(ht:t.den):ah9 X all o T9 an3 V none:=by
 intro tm hp hm hh _ hd a w ⟨S,E,hk⟩ K Q' hK
 obtain⟨v,h1,h2⟩:=W1.ok hΓ (W1.dm8 hm hh hq) ht S E a w hk
 rw[S6 hk (as0 hm (aF1 hg)),if_pos rfl]
 unfold Oper.wp
 rw[h1]
 exact hK (a.put o.dst v) w (by simpa[be8]using Ok.pt hk h2 hd)
theorem ah9.one {l:L1 τ}{t:Tr}{res:τ->T}{y:τ}(hg:gk all.toList kb T9 o.guard=some true)(hq:l.q X.C2 T9 an3 o.op=some (t,res))(ht:t.den)(hy:l.m=some y):ah9 X all o T9 an3 (res y) none:=by
 intro tm hp hm hh _ hd a w ⟨S,E,hk⟩ K Q' hK
 obtain⟨v,h1,h2⟩:=L1.ok (L1.dm8 hm hh hq) ht y S E a w hy hk
 rw[S6 hk (as0 hm (aF1 hg)),if_pos rfl]
 unfold Oper.wp
 rw[h1]
 exact hK (a.put o.dst v) w (by simpa[be8]using Ok.pt hk h2 hd)
theorem ah9.call {n d:Nat}{args:List T}{s:Bool}{m₁:Option τ}{res:τ->T}{t:τ}(ht:m₁=some t)(hg:gk all.toList kb T9 o.guard=some true)(ho:cM5 T9 an3 o=some (n,args,s,d))(hc:aQ3 X.P n args m₁ res)
  (hs:s=true->scalar (res t)=true):ah9 X all o T9 an3 (res t) none:=by
 intro tm hp hm hh _ hd a w ⟨S,E,hk⟩ K Q' hK
 unfold cM5 at ho
 split at ho<;>try(cases ho;done)
 rename_i n' targs aP7 d' hz hd'
 obtain⟨vs,ps,be4,hv,hps⟩:=ei0 hk (dE8 hm hz) (by
  split at ho
  ·simp only[aH6,aZ6]at ho;obtain⟨rfl,_⟩:=ho;exact hc.1
  ·split at ho<;>try(cases ho;done)
   simp only[aH6,aZ6]at ho;obtain⟨rfl,_⟩:=ho;exact hc.1)
 rw[S6 hk (as0 hm (aF1 hg)),if_pos rfl]
 unfold Oper.wp
 rw[be4,Oper.upon_enter]
 split at ho
 ·rename_i l' hf
  simp only[aH6,aZ6]at ho
  obtain⟨rfl,rfl,rfl,rfl⟩:=ho
  have aK6:=hc.2 t ht w S E (vs++ps) hk.aG1 ((RV.closed hk hv hf E).append (hps E))
  refine aK6.mono fun e w' ⟨v,S',he,hv',aK7,hs1,hs2⟩=>?_
  subst he
  refine hK _ _ (by
   have:=Ok.pt (o:=o) (V:=res t) (v:=v) (S:=fun b=>S b\/S' b) (E:=E) ((hk.grow aK7).more hs1 (fun b hb=>?_) (fun id blk β hb hβ hS=>?_)) (hv'.mono (fun _ x=>.inr x) (fun _ _=>rfl) (fun _ _=>rfl)) hd
   ·simpa[be8]using this
   ·rcases hs2 b hb with h1|h1
    ·exact hk.base b h1
    ·exact .inr (.inr (eI9 hk.keep.size h1))
   ·have:=hk.own id blk β hb hβ
    rcases hs2 β hS with h1|h1
    ·exact this.1 h1
    ·exact absurd this.2.1 (fd2.2 h1))
 ·split at ho<;>try(cases ho;done)
  rename_i l' hf
  simp only[aH6,aZ6]at ho
  obtain⟨rfl,rfl,rfl,rfl⟩:=ho
  have aK6:=hc.2 t ht w (fun b=>S b\/bk0 hp E b) E (vs++ps) (fun b hb=>hb.elim (hk.aG1 b) (fun⟨id,_,hl,hβ⟩=>(hk.own id _ b hl hβ).2.1))
   ((bx8 hk (fun _ x=>.inl x) (fun _ x=>.inr x) hv (bt5 hh hf) E).append ((hps E).eJ3 (fun _ x=>.inl x) (fun _ _=>rfl)))
  refine aK6.mono fun e w' ⟨v,S',he,hv',aK7,_,_⟩=>?_
  subst he
  exact hK _ _ (by simpa[be8]using Ok.pt (hk.grow aK7) (hv'.scalar (hs rfl)) hd)
theorem eB6 {w0:World}{L:Lim}{nt d e sz n:Nat}{rs:List (List Tree)}{tm:List (Nat×T)}{hp:List (Nat×G0)}{a:Act}{w:World}(hb:L8 d hp=true)(h:Sim w0 L nt ⟨(d,.own d)::tm,(d,.rows e sz n rs)::hp⟩ a w):
  Sim w0 L nt ⟨(d,.t (.sl n rs))::tm,hp⟩ a w:=by
 obtain⟨S,E,hk⟩:=h
 have hne:∀{id blk},look hp id=some blk->d≠id:=fun hl e=>(az5 hb _ _ hl).1 e.symm
 have hd0:look ((d,G0.rows e sz n rs)::hp) d=some (.rows e sz n rs):=by simp[look]
 have hl':∀{id blk},look hp id=some blk->look ((d,G0.rows e sz n rs)::hp) id=some blk:=fun hl=>by rw[H9 (hne hl)];exact hl
 have hk1:Ok w0 L nt ⟨(d,.own d)::tm,[(d,.rows e sz n rs)]⟩ S E a w:=
  {hk with
   hp:=fun i b hb'=>by
    simp only[look]at hb'
    by_cases hi:d=i
    ·subst hi;simp only[ca0,fi0,aH6]at hb';subst hb';exact hk.hp d _ hd0
    ·simp[C3 hi]at hb'
   own:=fun i b β hb' hβ=>by
    simp only[look]at hb'
    by_cases hi:d=i
    ·subst hi;simp only[ca0,fi0,aH6]at hb';subst hb';exact hk.own d _ β hd0 hβ
    ·simp[C3 hi]at hb'
   as9:=fun i i' b b' β h1 h2 _ _=>by
    simp only[look]at h1 h2
    by_cases hi:d=i<;>by_cases hi':d=i'
    ·exact hi.symm.trans hi'
    ·simp[C3 hi']at h2
    ·simp[C3 hi]at h1
    ·simp[C3 hi]at h1}
 have hk2:Ok w0 L nt ⟨(d,.own d)::tm,hp⟩ S E a w:=
  {hk with
   hp:=fun i b hb'=>hk.hp i b (hl' hb')
   own:=fun i b β hb' hβ=>hk.own i b β (hl' hb') hβ
   as9:=fun i i' b b' β h1 h2=>hk.as9 i i' b b' β (hl' h1) (hl' h2)}
 have hk3:=hk2.more (S':=fun b=>R4 (E d)=some b) (fun b hb'=>(hk.own d _ b hd0 hb').2.1) (fun b hb'=>by
  rcases(hk.own d _ b hd0 hb').2.2 with h2|h2
  ·exact .inr (.inr h2)
  ·exact .inr (.inl h2)) (fun id blk β hl hβ hS=>hne hl (hk.as9 d id _ blk β hd0 (hl' hl) hS hβ))
 have hu:RV w (fun b=>S b\/R4 (E d)=some b) E (E d) (.t (.sl n rs)):=by
  refine .t (bW4 hk1 (id:=d) (e:=e) (sz:=sz) (by simp[look]) _ (fun _ x=>.inl x) fun b hb'=>?_)
  obtain⟨i,_,hl,hβ⟩:=hb'
  simp only[look]at hl
  by_cases hi:d=i
  ·subst hi;exact .inr hβ
  ·simp[C3 hi]at hl
 refine⟨_,E,{hk3 with tm:=fun k t ht=>?_}⟩
 simp only[look]at ht
 by_cases hdk:d=k
 ·subst hdk
  simp only[ca0,fi0,aH6]at ht
  subst ht
  have:=hk3.tm d (.own d) (by simp[look])
  generalize a.tmps.getD d undef=x at this|-
  cases this with
  |own _ _ hE=>rw[<-hE];exact hu
 ·simp only[C3 hdk,fh8]at ht
  exact hk3.tm k t (by rw[H9 hdk];exact ht)
theorem ah9.frz {d e sz n:Nat}{rs:List (List Tree)}(hi:aR2 o.op=true)(hd:o.dst=some d)(h:ah9 X all o T9 an3 (.own d) (some (d,.rows e sz n rs))):ah9 X all o T9 an3 (.t (.sl n rs)) none:=by
 intro tm hp hm hh hf hd' a w hk K Q' hK
 have h1:=h tm hp hm hh ⟨hf.1,fun id hid=>by rw[dp9 hi]at hid;cases hid⟩ hd' a w hk K Q' fun a' w' hs=>hK a' w' (by
  simp only[pt,be8,hd]at hs|-
  have:=hf.1 hi d hd
  rw[aI9]at this
  exact eB6 this.2 hs)
 exact h1
theorem Oper.dS5 {P:Program}{o:Oper}{a:Act}{w:World}{K K':Act->World->Prop}{Q Q':Exit->Act->World->Prop}(h:∀a w,K a w->K' a w)(hp:∀c a w,¬Q (.panic c) a w)(hl:¬LetsOut Q)(hh:o.wp P a w K Q):o.wp P a w K' Q':=by
 unfold Oper.wp at*
 generalize(execOp a.eval o).run P w=r at*
 cases r with
 |ok n w'=>
  cases n<;>simp only[Oper.upon]at hh|- <;>
   first
    |exact h _ _ hh
    |exact Calls.mono hh (fun e w'' he=>by cases e<;>first|exact h _ _ he|exact absurd he (hp _ _ _)|exact absurd he hl)
    |exact Rows.mono hh (fun _ _ he=>h _ _ he)
 |halt x w'=>cases x<;>simp only[Oper.upon]at hh|- <;>first|exact absurd hh (hp _ _ _)|exact hh
theorem ah9.eJ7 {N:Option (Nat×G0)}(h:∀tm hp,more T9 tm->aX9 an3 hp->∃σ':St,more (Pv.pt o V tm) σ'.tm/\aX9 (be8 N hp) σ'.hp/\B3 X all [o] [] ⟨tm,hp⟩ (some ()) (fun _ e σ=>e= .normal/\σ=σ')):ah9 X all o T9 an3 V N:=by
 intro tm hp hm hh _ _ a w hk K Q' hK
 obtain⟨σ',h1,h2,h3⟩:=h tm hp hm hh
 have h4:=h3 () rfl a w hk
 have Z2:∀(e:Exit) a w,e≠ .normal->¬(X.post fun e σ=>e= .normal/\σ=σ') e a w:=fun e a w he ⟨σ,_,hx,_⟩=>he hx
 have hfin:∀a w,wpList X.P all (after X.P [] (X.post fun e σ=>e= .normal/\σ=σ')) [] a w->K a w:=fun a w hq=>by
  obtain⟨σ,hs,_,rfl⟩:=hq
  exact hK a w (hs.bL6 h1 h2)
 unfold wpList at h4
 split at h4
 ·rename_i hw
  rw[if_pos hw]
  rcases h4 with h4|⟨_,h4⟩
  ·exact Oper.dS5 hfin (fun c a w=>Z2 _ a w (by intro e;cases e)) (fun⟨a,w,hx⟩=>Z2 _ a w (by intro e;cases e) hx) h4
  ·obtain⟨a,w,hx⟩:=h4
   exact absurd hx (Z2 _ a w (by intro e;cases e))
 ·rename_i hw
  rw[if_neg hw]
  exact hfin _ _ h4
theorem X4 {α:Type}{id:Nat}:∀{l:List (Nat×α)}{k:Nat}{b:α},look (bw0 l id) k=some b->k≠id/\look l k=some b
 |[],k,b,h=>by simp[bw0,look]at h
 |(j,x)::r,k,b,h=>by
  unfold bw0 at h
  by_cases hj:j=id
  ·subst hj
   simp only[ca0,fi0]at h
   obtain⟨h1,h2⟩:=X4 h
   exact⟨h1,by rw[H9 (Ne.symm h1)];exact h2⟩
  ·simp only[C3 hj,fh8]at h
   by_cases hk:j=k
   ·subst hk
    exact⟨hj,by simpa[look]using h⟩
   ·rw[H9 hk]at h|-
    exact X4 h
theorem aU3 {α:Type}{id k:Nat}(hk:k≠id):∀{l:List (Nat×α)},look (bw0 l id) k=look l k
 |[]=>rfl
 |(j,x)::r=>by
  unfold bw0
  by_cases hj:j=id
  ·subst hj
   simp only[ca0,fi0]
   rw[H9 (Ne.symm hk)];exact aU3 hk
  ·simp only[C3 hj,fh8]
   by_cases hjk:j=k
   ·subst hjk;simp[look]
   ·rw[H9 hjk,H9 hjk];exact aU3 hk
theorem ah9.append {α:Type}{t e e' d id n m s0:Nat}{z0:List Value}{te:TI}{s x:Operand}{sv:Value}{l r y:List α}{enc:α->List Tree}(hg:gk all.toList kb T9 o.guard=some true)
  (ho:o.op= .call ⟨.builtin .append,#[s,x],#[t,t]⟩) (hd:o.dst=some d)
  (hty:look X.C2 t=some ⟨s0,.slice e,z0⟩) (hte:look X.C2 e=some te) (hz:te.zero.length=te.size) (ay5:∀y,(enc y).length=te.size) (bf8:∀y,(enc y).all aP5=true)
  (hs:val T9 s=some (.t (.v sv))) (hb:look an3 id=some (.rv sv e te.size n (l.map enc)))
  (hx:val T9 x=some (.t (.sl m (r.map enc)))\/∃i2,val T9 x=some (.own i2)/\look an3 i2=some (.rows e' te.size m (r.map enc)))
  (aL5:bo8 id big=true) (hy:R6 l r=some y):ah9 X all o T9 an3 (.own id) (some (id,.rows e te.size y.length (y.map enc))):=by
 intro tm hp hm hh hf hd' a w ⟨S,E,hk⟩ K Q' hK
 unfold R6 at hy
 split at hy<;>try(cases hy;done)
 rename_i cF4
 simp only[aH6]at hy
 subst hy
 obtain⟨hft,hfb⟩:=hf.2 id (by unfold cJ6;rw[ho])
 obtain⟨dd,hu,ho2⟩:∃d,X.P.underlying t=some d/\TD.ok X.P (.slice e) d:=by
  obtain⟨i,d,_,_,hu,hdd,_⟩:=X.K0 t _ hty
  exact⟨d,hu,hdd⟩
 simp only[TD.ok]at ho2
 subst ho2
 have hb':=hh _ _ hb
 have ce4:Src w S (a.eval x) r.length te.size (r.map enc):=by
  rcases hx with hx|⟨i2,hx,hb2⟩
  ·have hv:=hk.val (C7 hm hx)
   generalize a.eval x=xv at hv
   cases hv with
   |t hv=>
    have:=cf9 hv (bV2 ay5 r) (bF9 bf8 r)
    have hm:m=r.length:=by simpa using this.1
    subst hm
    exact⟨by simp,this.2⟩
  ·have hv:=hk.val (C7 hm hx)
   have hb:=hk.hp i2 _ (hh _ _ hb2)
   generalize a.eval x=xv at hv
   cases hv with
   |own _ _ hE=>
    subst hE
    have:=dn8 hb (bF9 bf8 r)
    have hm:m=r.length:=by simpa using this.1
    subst hm
    exact this
 have hv:a.eval s=sv:=(hk.val (C7 hm hs)).tv
 obtain⟨hE0,by0⟩:=hk.hp id _ hb'
 have hn:n=l.length:=by have:=by0.1;simpa using this
 subst hn
 have hbv:bc6 w S E sv (.rows e te.size l.length (l.map enc)):=by rw[<-hE0];exact by0
 have hk':Ok X.w0 X.L X.nt ⟨tm,bw0 hp id⟩ S E a w:=
  {hk with
   hp:=fun i b hb=>hk.hp i b (X4 hb).2
   own:=fun i b β hb hβ=>hk.own i b β (X4 hb).2 hβ
   as9:=fun i i' b b' β h1 h2=>hk.as9 i i' b b' β (X4 h1).2 (X4 h2).2}
 obtain⟨v',w',E',hr,hE,hok⟩:=hk'.append (ty:=o.type) aL5 hft (cn3 hfb) (v:=sv) (x:=a.eval x) (fun β hβ=>hk.own id _ β hb' (by rw[hE0];exact hβ)) (fun i blk β hi h1 h2=>by
   obtain⟨g1,g2⟩:=X4 hi
   exact g1 (hk.as9 id i _ blk β hb' g2 (by rw[hE0];exact h1) h2).symm) hbv hu (X.K0 e _ hte) hz ce4 (bV2 ay5 r) (by simpa using cF4)
 rw[S6 hk (as0 hm (aF1 hg)),if_pos rfl]
 unfold Oper.wp
 have aN4:(execOp a.eval o).run X.P w= .ok (.value v') w':=by
  unfold execOp
  simp only[ho,resolve,invoke,builtin,bq7,bF1,bc2,List.map_toArray,cW0,List.map_nil,hv,hr]
 rw[aN4]
 rw[<-List.map_append,<-aZ7]at hok
 refine hK (a.put o.dst v') w' (Sim.bL6 (fun _ _ h=>h) (fun k c hkc=>?_) (Ok.pt (o:=o) hok (.own id v' hE) hd'))
 by_cases hki:id=k
 ·subst hki
  simpa[be8,look]using hkc
 ·simp only[be8]at hkc
  rw[H9 hki]at hkc|-
  rw[aU3 (Ne.symm hki)];exact hkc
theorem cd0 {tm tm':List (Nat×T)}{r:Nat×List T}(h:more tm tm')(hc:bC0 tm o=some r):bC0 tm' o=some r:=by
 unfold bC0 at hc|-
 split at hc<;>try(cases hc;done)
 rename_i f args tys hop
 split at hc<;>try(cases hc;done)
 ·rename_i n aP7 l hf hl
  rw[C7 h hf,bE6 h hl]
  exact hc
 ·rename_i n c l hf hl
  rw[C7 h hf,bE6 h hl]
  exact hc
theorem bH5 {lm:List (Nat×Nat)}{k:Nat}(h:k∉lm.map (·.2)):∀{hp:List (Nat×G0)},look (ap7 lm hp) k=look hp k
 |[]=>rfl
 |(i,b)::r=>by
  simp only[ap7]
  split
  ·rename_i hm
   have hik:i≠k:=by
    rintro rfl
    unfold eo6 at hm
    rw[List.any_eq_true]at hm
    obtain⟨p,hp,he⟩:=hm
    exact h (da1.2 ⟨p,hp,bs6 he⟩)
   rw[H9 hik];exact bH5 h
  ·by_cases hik:i=k
   ·subst hik;simp[look]
   ·rw[H9 hik,H9 hik];exact bH5 h
theorem df6 {h:List (Nat×Nat)}:∀{hp Z2:List (Nat×G0)},aR7 h hp=some Z2->∀{p},p∈Z2->p.1∈h.map (·.2)
 |[],Z2,hr,p,hm=>by simp only[aR7,aH6]at hr;subst hr;cases hm
 |(i0,b0)::r,Z2,hr,p,hm=>by
  simp only[aR7]at hr
  split at hr<;>try(cases hr;done)
  rename_i j c l hj _ hl
  simp only[aH6]at hr
  subst hr
  rcases cq9.1 hm with rfl|hm
  ·exact da1.2 ⟨(i0,j),bl9 hj,rfl⟩
  ·exact df6 hl hm
theorem ah9.eW8 {n d : Nat} {targs am2 aB6 : List T} {chp aN6 : List (Nat × G0)} {m₁ : Option τ} {res : τ -> T} {bH0 : τ -> List (Nat × G0)} {t : τ} {rt : T} (lm : List (Nat × Nat)) (ht : m₁ = some t) (hc : bg4 X.P n aB6 chp m₁ res bH0)
    (hg : gk all.toList kb T9 o.guard = some true) (ho : bC0 T9 o = some (n, targs)) (bf7 : o.dst = some d) (hdn : bo8 d X.nt = true) (ha : bT0 lm aB6 = some am2) (hmr : bz9 targs am2 = am2)
    (hr : aR7 lm chp = some aN6) (cm1 : aN6.map (fun p => look an3 p.1) = aN6.map (fun p => some p.2)) (hm0 : bo0 lm [] [] [] = true) (hk0 : (lm.all fun p => (look aN6 p.2).isSome) = true)
    (dk7 : aM2 lm (res t) = some rt) (hsame : bH0 t = chp) : ah9 X all o T9 an3 rt none := by
  have ce3 : ∀ p ∈ aN6, look an3 p.1 = some p.2 := fun p Z2 => by
    obtain ⟨n, hn, rfl⟩ := List.mem_iff_getElem.1 Z2
    have : (aN6.map (fun p => look an3 p.1))[n]? = (aN6.map (fun p => some p.2))[n]? := by rw [cm1]
    rw [cV8, cV8, aW5 hn] at this
    simpa using this
  have hct : bg4 X.P n aB6 chp (some ()) (fun _ => res t) (fun _ => chp) := ⟨hc.1, fun r _ => by
    have := hc.2 t ht
    rw [hsame] at this
    exact this⟩
  refine .eJ7 fun tm hp hm hh => ⟨⟨(d, rt) :: tm, aN6 ++ ap7 lm hp⟩, ?_, ?_, ?_⟩
  · intro k u hk; simpa [pt, bf7] using hk
  · intro k c hk
    simp only [be8] at hk
    by_cases hkl : k ∈ lm.map (·.2)
    · obtain ⟨p, hp1, rfl⟩ := da1.1 hkl
      have := bF0.1 hk0 p hp1
      rw [Option.isSome_iff_exists] at this
      obtain ⟨b, hb⟩ := this
      rw [aR3, hb]
      have := hh _ _ (ce3 _ (bl9 hb))
      rw [hk] at this
      simp only [aH6] at this
      simp [this]
    · rw [aR3]
      cases hx : look aN6 k with
      | some b => exact absurd (df6 hr (bl9 hx)) hkl
      | none => rw [bH5 hkl]; exact hk
  · have := B3.g (X := X) (all := all) (o := o) (rest := []) (ks := []) (k := fun _ => some ()) (Q := fun (_ : Unit) e' σ => e' = .normal /\ σ = ⟨(d, rt) :: tm, aN6 ++ ap7 lm hp⟩) (hp2 := ap7 lm hp) (d := d) lm [] (dJ6 := fun _ => rt) (rhp := fun _ => aN6) (aN6 := aN6) (targs := targs) (am2 := am2) (n := n) hct (by
        unfold dq8
        rw [as0 hm (aF1 hg)]
        simp only [cd0 hm ho, ha, hr, bf7, hdn, eU6]
        rw [show bo0 lm [] tm hp = true by simpa [bo0] using hm0]
        simp only [fi0]) hmr (by
        refine List.map_congr_left fun p hp1 => ?_
        unfold bD6
        rw [hh _ _ (ce3 p hp1)]
        simp only [de5]) (fun _ => by rw [dh6]; exact dk7) (fun _ => by rw [dh6]; exact hr) (fun _ _ => B3.nil (D9.leaf ⟨rfl, rfl⟩))
    exact this
theorem Sim.pin {w0:World}{L:Lim}{nt:Nat}{tm:List (Nat×T)}{hp:List (Nat×G0)}{a:Act}{w:World}(id:Nat){e sz n:Nat}{rs:List (List Tree)}(hb:look hp id=some (.rows e sz n rs))(h:Sim w0 L nt ⟨tm,hp⟩ a w):
  ∃v:Value,Sim w0 L nt ⟨cp6 id (.t (.v v)) tm,(id,.rv v e sz n rs)::bm8 id (.t (.v v)) hp⟩ a w:=by
 obtain⟨S,E,hk⟩:=h
 have hu:RV w S E (E id) (.t (.v (E id))):=.t (.v _)
 have back:∀{i:Nat}{b:G0},look ((id,G0.rv (E id) e sz n rs)::bm8 id (.t (.v (E id))) hp) i=some b->∃b0,look hp i=some b0:=fun{i b} hl=>by
  by_cases hi:id=i
  ·subst hi;exact⟨_,hb⟩
  ·rw[H9 hi]at hl
   obtain⟨_,b0,h0,_⟩:=ar0 _ _ _ _ _ hl
   exact⟨b0,h0⟩
 refine⟨E id,S,E,{hk with tm:=fun k t ht=>?_,hp:=fun i b hl=>?_,own:=fun i b β hl hβ=>?_,as9:=fun i i' b b' β h1 h2=>?_}⟩
 ·simp only at ht
  rw[cg5]at ht
  cases hl:look tm k with
  |none=>simp[hl]at ht
  |some t0=>simp only[hl,cq8,aH6]at ht;subst ht;exact cU8 (fun _ x=>x) hu (hk.tm k t0 hl)
 ·by_cases hi:id=i
  ·subst hi
   simp only[look,ca0,fi0,aH6]at hl
   subst hl
   exact⟨rfl,hk.hp id _ hb⟩
  ·simp only at hl
   rw[H9 hi]at hl
   obtain⟨hne,b0,hb0,hm⟩:=ar0 _ _ _ _ _ hl
   have hk0:=hk.hp i b0 hb0
   cases b0 with
   |box ts=>
    simp only at hm
    subst hm
    obtain⟨β,vs,elem,h1,h2,h3,h4,h5⟩:=hk0
    have:=bE3 (S':=S) (fun _ x=>x) hu (l:=ts) (vs:=vs) ⟨h3,h4⟩
    exact⟨β,vs,elem,h1,h2,this.1,this.2,h5⟩
   |rows e' sz' n' rs'=>simp only at hm;subst hm;exact hk0
   |mp es=>simp only at hm;subst hm;exact hk0
   |rv y e' sz' n' rs'=>simp only at hm;subst hm;exact hk0
 ·obtain⟨b0,h0⟩:=back hl
  exact hk.own i b0 β h0 hβ
 ·obtain⟨b0,h0⟩:=back h1
  obtain⟨b0',h0'⟩:=back h2
  exact hk.as9 i i' b0 b0' β h0 h0'
mutual
def dm4 (b:Nat):T->Bool
 | .t _=>true
 | .el _=>true
 | .fz _ _=>true
 | .any=>true
 | .own i=>bC1 i b
 | .agg l=>dx4 b l
 | .P7 l=>dx4 b l
 | .clo _ l=>dx4 b l
 | .ptr _ _=>false
 | .pe _ _ _ _=>false
 | .vw _ _ _ _=>false
def dx4 (b:Nat):List T->Bool
 |[]=>true
 |x::l=>dm4 b x&&dx4 b l
end
mutual
theorem eT7 {w:World}{S:Nat->Prop}{E Ec:Nat->Value}{b:Nat}{sv:Value}(hE:Ec b=sv):∀{t:T}{x:Value},dm4 b t=true->RV w S E x (aS2 b (.t (.v sv)) t)->RV w S Ec x t
 | .t y,x,_,h=>by simp only[aS2]at h;exact h.mono (fun _ x=>x) (fun _ _=>rfl) (fun id hid=>by simp[names]at hid)
 | .el c,x,_,h=>by simp only[aS2]at h;exact h.mono (fun _ x=>x) (fun _ _=>rfl) (fun id hid=>by simp[names]at hid)
 | .fz n c,x,_,h=>by simp only[aS2]at h;exact h.mono (fun _ x=>x) (fun _ _=>rfl) (fun id hid=>by simp[names]at hid)
 | .any,x,_,_=>.any x
 | .own i,x,ho,h=>by
  simp only[dm4]at ho
  have ho:=bs6 ho
  subst ho
  simp only[aS2,ca0,fi0]at h
  have:=h.tv
  subst this
  exact .own i _ hE
 | .agg l,x,ho,h=>by
  simp only[dm4]at ho
  simp only[aS2]at h
  cases h with|agg vs _ hl hr=>have:=cV3 hE (l:=l) (vs:=vs) ho ⟨hl,hr⟩;exact .agg vs _ this.1 this.2
 | .P7 l,x,ho,h=>by
  simp only[dm4]at ho
  simp only[aS2]at h
  cases h with|P7 vs _ hl hr=>have:=cV3 hE (l:=l) (vs:=vs) ho ⟨hl,hr⟩;exact .P7 vs _ this.1 this.2
 | .clo f l,x,ho,h=>by
  simp only[dm4]at ho
  simp only[aS2]at h
  cases h with|clo _ vs _ hl hr=>have:=cV3 hE (l:=l) (vs:=vs) ho ⟨hl,hr⟩;exact .clo f vs _ this.1 this.2
 | .ptr _ _,x,ho,_=>by simp[dm4]at ho
 | .pe _ _ _ _,x,ho,_=>by simp[dm4]at ho
 | .vw _ _ _ _,x,ho,_=>by simp[dm4]at ho
theorem cV3 {w:World}{S:Nat->Prop}{E Ec:Nat->Value}{b:Nat}{sv:Value}(hE:Ec b=sv):∀{l:List T}{vs:List Value},dx4 b l=true->RVL w S E vs (aY3 b (.t (.v sv)) l)->RVL w S Ec vs l
 |[],vs,_,h=>⟨by simpa[aY3]using h.1,fun j _ h2=>by simp at h2⟩
 |x::l,vs,ho,h=>by
  simp only[dx4,aI9]at ho
  cases vs with
  |nil=>have:=h.1;simp[aY3]at this
  |cons v vs=>
   have h1:=eT7 hE (t:=x) ho.1 (h.2 0 (by simp) (by simp[aY3]))
   have h2:=cV3 hE (l:=l) (vs:=vs) ho.2 ⟨by simpa[aY3]using h.1,fun j a b=>h.2 (j+1) (by simpa using a) (by simpa[aY3]using b)⟩
   refine⟨by simp[h2.1],fun j a b=>?_⟩
   cases j with
   |zero=>exact h1
   |succ j=>exact h2.2 j (by simpa using a) (by simpa using b)
end
theorem ah9.eW7 {n d c b0 r0 e e2 sz sz2 m m2:Nat}{aB6 targs:List T}{rt:T}{rs rs2:List (List Tree)}{sv:Value}{m₁:Option τ}{res:τ->T}{bH0:τ->List (Nat×G0)}{t:τ}(ht:m₁=some t)(hc:bg4 X.P n aB6 [(b0,.rows e sz m rs)] m₁ res bH0)
  (hg:gk all.toList kb T9 o.guard=some true) (ho:bC0 T9 o=some (n,targs)) (bf7:o.dst=some d) (hb:look an3 c=some (.rv sv e sz m rs)) (aL5:bo8 c big=true)
  (dd2:bz9 targs (aY3 b0 (.t (.v sv)) aB6)=aY3 b0 (.t (.v sv)) aB6) (hon:dx4 b0 aB6=true) (dk7:aM2 [(r0,c)] (res t)=some rt) (hhp:bH0 t=[(r0,.rows e2 sz2 m2 rs2)]):ah9 X all o T9 an3 rt (some (c,.rows e2 sz2 m2 rs2)):=by
 intro tm hp hm hh hf hd' a w ⟨S,E,hk⟩ K Q' hK
 have hop:∃q,o.op= .call q:=by
  unfold bC0 at ho
  split at ho<;>try(cases ho;done)
  rename_i hx
  exact⟨_,hx⟩
 obtain⟨hft,hfb⟩:=hf.2 c (by obtain⟨q,hq⟩:=hop;unfold cJ6;rw[hq])
 have hcb:c<big:=bo7 aL5
 have hb':=hh _ _ hb
 obtain⟨hE0,by0⟩:=hk.hp c _ hb'
 obtain⟨vs,be4,hv⟩:=dq7 hk (cd0 hm ho) hc.1
 let Ec:Nat->Value:=fun i=>if i=b0 then sv else E i
 have hEc:Ec b0=sv:=by simp[Ec]
 have dv6:∀{i:Nat}{b:G0},look [(b0,G0.rows e sz m rs)] i=some b->i=b0/\b= .rows e sz m rs:=fun{i b} h=>by
  by_cases hi:b0=i
  ·subst hi;simp only[look,ca0,fi0,aH6]at h;exact⟨rfl,h.symm⟩
  ·simp[look,C3 hi]at h
 have hO:ch6 w S Ec [(b0,.rows e sz m rs)]:=by
  refine⟨fun i b hi=>?_,fun i b β hi hβ=>?_,fun i i' b b' β hi hi' _ _=>?_⟩
  ·obtain⟨rfl,rfl⟩:=dv6 hi
   rw[hEc,<-hE0];exact by0
  ·obtain⟨rfl,rfl⟩:=dv6 hi
   rw[hEc,<-hE0]at hβ
   have:=hk.own c _ β hb' hβ
   exact⟨this.1,this.2.1⟩
  ·exact(dv6 hi).1.trans (dv6 hi').1.symm
 have hav:RVL w S Ec vs aB6:=by
  have h1:=bW0 (u:=aY3 b0 (.t (.v sv)) aB6) hv
  rw[dd2]at h1
  exact cV3 hEc hon h1
 have aK6:=hc.2 t ht w S Ec vs hk.aG1 hO hav
 rw[S6 hk (as0 hm (aF1 hg)),if_pos rfl]
 unfold Oper.wp
 rw[be4,Oper.upon_enter]
 refine aK6.mono fun ex w' ⟨v,S',E',he,hv',aK7,h1,h2,hO',h3,h4⟩=>?_
 subst he
 have bI6:∀{β},aC6 [(b0,G0.rows e sz m rs)] Ec β->R4 sv=some β:=fun{β} ⟨i,b,hi,hβ⟩=>by
  obtain⟨rfl,rfl⟩:=dv6 hi
  rw[hEc]at hβ;exact hβ
 generalize hEr:E' r0=q
 have bM7:look (bH0 t) r0=some (.rows e2 sz2 m2 rs2):=by rw[hhp];simp[look]
 have svb:∀{β},R4 sv=some β->¬S β/\β<w.heap.size/\(X.w0.heap.size<=β\/X.L.bI6 β):=fun{β} hβ=>hk.own c _ β hb' (by rw[hE0];exact hβ)
 have other:∀{i:Nat}{b:G0}{β:Nat},look hp i=some b->i≠c->R4 (E i)=some β->R4 sv≠some β:=fun{i b β} hi hne hβ hs=>hne (hk.as9 i c b _ β hi hb' hβ (by rw[hE0];exact hs))
 have vb:∀{β},R4 q=some β->(R4 sv=some β\/w.heap.size<=β)/\¬S' β/\β<w'.heap.size:=fun{β} hβ=>by
  have hl:aC6 (bH0 t) E' β:=⟨r0,_,bM7,by rw[hEr];exact hβ⟩
  have:=hO'.own r0 _ β bM7 (by rw[hEr];exact hβ)
  exact⟨(h3 β hl).imp bI6 (fun x=>x),this.1,this.2⟩
 have hS:∀b,S b->w'.heap[b]? =w.heap[b]?:=fun b hb=>aK7.block b (hk.aG1 b hb) (fun hl=>(svb (bI6 hl)).1 hb)
 let E2:Nat->Value:=fun i=>if i=c then q else E i
 have hE2:∀i,i≠c->E2 i=E i:=fun i hi=>by simp[E2,hi]
 have hE2c:E2 c=q:=by simp[E2]
 have cne:∀{t:T},names c t=false->∀i,names i t=true->E2 i=E i:=fun{t} hn i hi=>hE2 i (fun e=>by subst e;rw[hn]at hi;cases hi)
 have hok:Ok X.w0 X.L X.nt ⟨tm,(c,.rows e2 sz2 m2 rs2)::bw0 hp c⟩ (fun b=>S b\/S' b) E2 a w':=
  {keep:=hk.keep.trans aK7 (fun β hl=>by
    rcases(svb (bI6 hl)).2.2 with h|h
    ·exact .inr h
    ·exact .inl h)
   aG1:=fun b hb=>hb.elim (fun h=>dN8 (hk.aG1 b h) aK7.size) (h1 b)
   base:=fun b hb=>by
    rcases hb with hb|hb
    ·exact hk.base b hb
    ·rcases h2 b hb with hb|hb|hb
     ·exact hk.base b hb
     ·rcases(svb (bI6 hb)).2.2 with h|h
      ·exact .inr (.inr h)
      ·exact .inr (.inl h)
     ·exact .inr (.inr (eI9 hk.keep.size hb))
   size:=hk.size
   defers:=hk.defers
   tm:=fun k u hu=>(hk.tm k u hu).mono (fun _ x=>.inl x) hS (cne (bb4 hft k u hu))
   hp:=fun i b hi=>by
    by_cases hic:c=i
    ·subst hic
     simp only[look,ca0,fi0,aH6]at hi
     subst hi
     rw[hE2c,<-hEr]
     exact(hO'.blk r0 _ bM7).mono (fun _ x=>.inr x) (fun _ _=>rfl) (fun _ _=>rfl) (fun _ hid=>by simp[bi0]at hid)
    ·simp only at hi
     rw[H9 hic]at hi
     obtain⟨g1,g2⟩:=X4 hi
     rw[hE2 i g1]
     exact(hk.hp i b g2).mono (fun _ x=>.inl x) hS (fun β hβ=>aK7.block β (hk.own i b β g2 hβ).2.1 (fun hl=>other g2 g1 hβ (bI6 hl))) (fun j hj=>hE2 j (fun e=>by
      subst e
      have:=(az5 (cn3 hfb) i b hi).2
      rw[this]at hj;cases hj))
   own:=fun i b β hi hβ=>by
    by_cases hic:c=i
    ·subst hic
     rw[hE2c]at hβ
     obtain⟨g1,g2,g3⟩:=vb hβ
     refine⟨fun hx=>hx.elim (fun hx=>?_) g2,g3,?_⟩
     ·rcases g1 with g1|g1
      ·exact(svb g1).1 hx
      ·exact absurd (hk.aG1 β hx) (fd2.2 g1)
     ·rcases g1 with g1|g1
      ·exact(svb g1).2.2
      ·exact .inl (eI9 hk.keep.size g1)
    ·simp only at hi
     rw[H9 hic]at hi
     obtain⟨g1,g2⟩:=X4 hi
     rw[hE2 i g1]at hβ
     have:=hk.own i b β g2 hβ
     refine⟨fun hx=>hx.elim this.1 (fun hx=>?_),dN8 this.2.1 aK7.size,this.2.2⟩
     rcases h2 β hx with hx|hx|hx
     ·exact this.1 hx
     ·exact other g2 g1 hβ (bI6 hx)
     ·exact absurd this.2.1 (fd2.2 hx)
   as9:=fun i i' b b' β hi hi' hβ hβ'=>by
    have cz3:∀{i:Nat}{b:G0},look (bw0 hp c) i=some b->R4 (E2 i)=some β->R4 q=some β->False:=fun{i b} hi hβ hβ'=>by
     obtain⟨g1,g2⟩:=X4 hi
     rw[hE2 i g1]at hβ
     rcases(vb hβ').1 with g|g
     ·exact other g2 g1 hβ g
     ·exact absurd (hk.own i b β g2 hβ).2.1 (fd2.2 g)
    by_cases hic:c=i<;>by_cases hic':c=i'
    ·exact hic.symm.trans hic'
    ·subst hic
     simp only at hi'
     rw[H9 hic']at hi'
     rw[hE2c]at hβ
     exact(cz3 hi' hβ' hβ).elim
    ·subst hic'
     simp only at hi
     rw[H9 hic]at hi
     rw[hE2c]at hβ'
     exact(cz3 hi hβ hβ').elim
    ·simp only at hi hi'
     rw[H9 hic]at hi
     rw[H9 hic']at hi'
     obtain⟨g1,g2⟩:=X4 hi
     obtain⟨g1',g2'⟩:=X4 hi'
     rw[hE2 i g1]at hβ
     rw[hE2 i' g1']at hβ'
     exact hk.as9 i i' b b' β g2 g2' hβ hβ'
   pin:=fun i hi=>by rw[hE2 i (fun e=>by omega)];exact hk.pin i hi}
 have hrv:RV w' (fun b=>S b\/S' b) E2 v rt:=(co4 (h:=[(r0,c)]) (E:=E') (E':=E2) (fun i j hij=>by
  by_cases hi:r0=i
  ·subst hi
   simp only[look,ca0,fi0,aH6]at hij
   subst hij
   rw[hE2c,<-hEr]
  ·simp[look,C3 hi]at hij) hv' dk7).mono (fun _ x=>.inr x) (fun _ _=>rfl) (fun _ _=>rfl)
 refine hK _ _ (Sim.bL6 (fun _ _ h=>h) (fun k x hkc=>?_) (Ok.pt (o:=o) hok hrv hd'))
 by_cases hki:c=k
 ·subst hki
  simpa[be8,look]using hkc
 ·simp only[be8]at hkc
  rw[H9 hki]at hkc|-
  rw[aU3 (Ne.symm hki)];exact hkc
theorem ah9.eW6 {n d c r1 e2 sz2 m2 : Nat} {aB6 targs am2 : List T} {rt : T} {rs2 : List (List Tree)} {m₁ : Option τ} {res : τ -> T} {bH0 : τ -> List (Nat × G0)} {t : τ} (ht : m₁ = some t) (hc : bg4 X.P n aB6 [] m₁ res bH0)
    (hg : gk all.toList kb T9 o.guard = some true) (ho : bC0 T9 o = some (n, targs)) (bf7 : o.dst = some d) (hdn : bo8 d X.nt = true) (aL5 : bo8 c big = true)
    (ha : bT0 [] aB6 = some am2) (hmr : bz9 targs am2 = am2) (dk7 : aM2 [(r1, c)] (res t) = some rt) (hhp : bH0 t = [(r1, .rows e2 sz2 m2 rs2)]) : ah9 X all o T9 an3 rt (some (c, .rows e2 sz2 m2 rs2)) := by
  intro tm hp hm hh hf _ a w hk K Q' hK
  have hop : ∃ q, o.op = .call q := by
    unfold bC0 at ho
    split at ho <;> try (cases ho; done)
    rename_i hx
    exact ⟨_, hx⟩
  obtain ⟨hft, hfb⟩ := hf.2 c (by obtain ⟨q, hq⟩ := hop; unfold cJ6; rw [hq])
  have hct : bg4 X.P n aB6 [] (some ()) (fun _ => res t) (fun _ => [(r1, .rows e2 sz2 m2 rs2)]) := ⟨hc.1, fun r _ => by
    have := hc.2 t ht
    rw [hhp] at this
    exact this⟩
  have key := B3.g (X := X) (all := all) (o := o) (rest := []) (ks := []) (k := fun _ => some ()) (Q := fun (_ : Unit) e' σ => e' = .normal /\ σ = ⟨(d, rt) :: tm, [(c, .rows e2 sz2 m2 rs2)] ++ ap7 [] (bw0 hp c)⟩) (hp := bw0 hp c) (tm := tm) (hp2 := ap7 [] (bw0 hp c)) (d := d) [] [(r1, c)] (dJ6 := fun _ => rt) (rhp := fun _ => [(c, .rows e2 sz2 m2 rs2)]) (aN6 := []) (targs := targs) (am2 := am2) (n := n) hct (by
        unfold dq8
        rw [as0 hm (aF1 hg)]
        simp only [cd0 hm ho, ha, aR7, bf7, hdn, eU6]
        rw [show bo0 [] [(r1, c)] tm (bw0 hp c) = true by simp [bo0, ba7, aL5, hft, cn3 hfb]]
        simp only [fi0]) hmr rfl (fun _ => dk7) (fun _ => by simp [aR7, bS9, look]) (fun _ _ => B3.nil (D9.leaf ⟨rfl, rfl⟩))
  have h4 := key () rfl a w (hk.bL6 (fun _ _ h => h) (fun k b hkb => (X4 hkb).2))
  have Z2 : ∀ (e : Exit) a w, e ≠ .normal -> ¬ (X.post fun e σ => e = .normal /\ σ = ⟨(d, rt) :: tm, [(c, .rows e2 sz2 m2 rs2)] ++ ap7 [] (bw0 hp c)⟩) e a w := fun e a w he ⟨σ, _, hx, _⟩ => he hx
  have hfin : ∀ a w, wpList X.P all (after X.P [] (X.post fun e σ => e = .normal /\ σ = ⟨(d, rt) :: tm, [(c, .rows e2 sz2 m2 rs2)] ++ ap7 [] (bw0 hp c)⟩)) [] a w -> K a w := fun a w hq => by
    obtain ⟨σ, hs, _, rfl⟩ := hq
    refine hK a w (hs.bL6 (fun k u hk => by simpa [pt, bf7] using hk) (fun k b hkb => ?_))
    by_cases hkc : c = k
    · subst hkc
      simpa [be8, look] using hkb
    · simp only [be8] at hkb
      rw [H9 hkc] at hkb
      simp only [List.cons_append, List.nil_append]
      rw [H9 hkc, bH5 (by simp), aU3 (Ne.symm hkc)]
      exact hkb
  unfold wpList at h4
  split at h4
  · rename_i hw
    rw [if_pos hw]
    rcases h4 with h4 | ⟨_, h4⟩
    · exact Oper.dS5 hfin (fun c a w => Z2 _ a w (by intro e; cases e)) (fun ⟨a, w, hx⟩ => Z2 _ a w (by intro e; cases e) hx) h4
    · obtain ⟨a, w, hx⟩ := h4
      exact absurd hx (Z2 _ a w (by intro e; cases e))
  · rename_i hw
    rw [if_neg hw]
    exact hfin _ _ h4
end
end Go.Pv
namespace Go.Pv
open Go.RowKit
def uni:List Nat->List Nat->List Nat
 |[],m=>m
 |x::l,m=>bif aC5 x m then uni l m else x::uni l m
def eh2 (acc:List (List Nat)):List Nat->List Nat
 |[]=>[]
 |d::r=>uni (d::(match acc[d]?with|some l=>l|none=>[])) (eh2 acc r)
def bl0:List Oper->List (List Nat)->List (List Nat)
 |[],acc=>acc
 |o::r,acc=>bl0 r (acc++[eh2 acc (aX5 o)])
theorem be5 {k:Nat}:∀{l:List Nat},aC5 k l=true↔k∈l
 |[]=>by simp[aC5]
 |x::l=>by
  simp only[aC5,cq9]
  cases hb:bC1 x k
  ·simp only[fh8,be5]
   exact⟨.inr,fun h=>h.resolve_left fun e=>by subst e;simp at hb⟩
  ·have:=bs6 hb
   simp[this]
theorem dl3 {k:Nat}:∀{l m:List Nat},k∈uni l m->k∈l\/k∈m
 |[],m,h=>.inr h
 |x::l,m,h=>by
  unfold uni at h
  cases hb:aC5 x m<;>rw[hb]at h<;>simp only[fi0,fh8]at h
  ·rcases cq9.1 h with rfl|h
   ·exact .inl (bN8 ..)
   ·exact(dl3 h).imp (bZ9 _) id
  ·exact(dl3 h).imp (bZ9 _) id
theorem dw0 {acc:List (List Nat)}{k:Nat}:∀{ds:List Nat},k∈eh2 acc ds->∃d∈ds,k=d\/∃l,acc[d]? =some l/\k∈l
 |[],h=>by simp[eh2]at h
 |d::r,h=>by
  rcases dl3 h with h|h
  ·rcases cq9.1 h with rfl|h
   ·exact⟨k,bN8 ..,.inl rfl⟩
   ·split at h
    ·rename_i l hl;exact⟨d,bN8 ..,.inr ⟨l,hl,h⟩⟩
    ·cases h
  ·obtain⟨d',h1,h2⟩:=dw0 h
   exact⟨d',bZ9 _ h1,h2⟩
theorem cH1 {all:List Oper}{D:Nat->Prop}(hcl:∀(j:Nat) (o:Oper),all[j]? =some o->D j->∀k∈aX5 o,D k):∀(ops:List Oper) (acc:List (List Nat)),all.drop acc.length=ops->(∀(j:Nat) (l:List Nat) (o:Oper),acc[j]? =some l->all[j]? =some o->(∀k∈aX5 o,D k)->∀i∈l,D i)->
  ∀(j:Nat) (l:List Nat) (o:Oper),(bl0 ops acc)[j]? =some l->all[j]? =some o->(∀k∈aX5 o,D k)->∀i∈l,D i
 |[],acc,_,h=>h
 |o::r,acc,hd,h=>by
  refine cH1 hcl r (acc++[eh2 acc (aX5 o)]) (by rw[aZ7,<-ex8,hd];rfl) fun j l o' hj ho' hk i hi=>?_
  rw[List.getElem?_append]at hj
  split at hj
  ·exact h j l o' hj ho' hk i hi
  ·rename_i hlt
   have hj0:j-acc.length=0:=by
    rcases dR2 (j-acc.length)with h0|h0
    ·exact h0
    ·rw[ed5 (Nat.succ_le_of_lt h0)]at hj;cases hj
   rw[hj0]at hj
   simp only[cY9,aH6]at hj
   subst hj
   have hjl:j=acc.length:=by omega
   have ho:all[j]? =some o:=by rw[hjl,<-eG8,hd];rfl
   rw[ho]at ho'
   cases ho'
   obtain⟨d,hd',hx⟩:=dw0 hi
   rcases hx with rfl|⟨l',hl',hi'⟩
   ·exact hk i hd'
   ·have hdlt:d<all.length:=by
     have h1:=(bH2.1 hl').1
     have h2:=(bH2.1 ho).1
     omega
    have hod:all[d]? =some all[d]:=aW5 hdlt
    exact h d l' all[d] hl' hod (hcl d _ hod (hk d hd')) i hi'
def bN9:Nat->List Nat->Bool
 |0,_=>true
 |n+1,l=>aC5 n l&&bN9 n l
theorem ci1:∀{n:Nat}{l:List Nat},bN9 n l=true->∀i,i<n->i∈l
 |0,_,_,i,hi=>by omega
 |n+1,l,h,i,hi=>by
  simp only[bN9,aI9]at h
  rcases dc9 i n with c|c
  ·exact ci1 h.2 i c
  ·have:i=n:=by omega
   subst this;exact be5.1 h.1
def cV0 (h:Nat):Nat->List Oper->List (List Nat)->Bool
 |_,[],_=>true
 |j,o::r,b::bs=>(aX5 o).all (fun k=>bo8 k j)&&(bo8 j h||bN9 j b)&&cV0 h (j+1) r bs
 |_,_,[]=>false
theorem aU7 {h:Nat}:∀{ops:List Oper}{bs:List (List Nat)}{j:Nat},cV0 h j ops bs=true->∀(i:Nat) (o:Oper),ops[i]? =some o->∃b,bs[i]? =some b/\(∀k∈aX5 o,k<j+i)/\(h<=j+i->∀x,x<j+i->x∈b)
 |[],_,_,_,i,o,ho=>by simp at ho
 |p::r,[],j,ht,i,o,ho=>by simp[cV0]at ht
 |p::r,b::bs,j,ht,i,o,ho=>by
  simp only[cV0,aI9,bF0,cI5]at ht
  cases i with
  |zero=>
   simp only[cY9,aH6]at ho
   subst ho
   refine⟨b,rfl,fun k hk=>bo7 (ht.1.1 k hk),fun hj x hx=>?_⟩
   rcases ht.1.2 with h1|h1
   ·have:=bo7 h1;omega
   ·exact ci1 h1 x hx
  |succ i=>
   obtain⟨b',h1,h2,h3⟩:=aU7 ht.2 i o (by simpa using ho)
   exact⟨b',by simpa using h1,fun k hk=>by have:=h2 k hk;omega,fun hj x hx=>h3 (by omega) x (by omega)⟩
def be3 (nt:Nat)(tm0:List (Nat×T))(hp0:List (Nat×G0)):List Oper->Bool
 |[]=>true
 |o::r=>(match o.dst with|some d=>(look tm0 d).isNone&&bo8 d nt&&r.all (fun o'=>match o'.dst with|some d'=>!Nat.beq d d'|none=>true)|none=>true)&&
   (match aR2 o.op,o.dst with|true,some d=>M7 d tm0&&L8 d hp0|_,_=>true)&&be3 nt tm0 hp0 r
theorem du2 {nt:Nat}{tm0:List (Nat×T)}{hp0:List (Nat×G0)}:∀{l:List Oper},be3 nt tm0 hp0 l=true->cv1 nt tm0 l=true/\∀(i:Nat) (o:Oper) (d:Nat),l[i]? =some o->aR2 o.op=true->o.dst=some d->(M7 d tm0&&L8 d hp0)=true
 |[],_=>⟨rfl,fun i o d h=>by simp at h⟩
 |o::r,h=>by
  simp only[be3,aI9]at h
  obtain⟨h1,h2⟩:=du2 h.2
  refine⟨by simp only[cv1,aI9];exact⟨h.1.1,h1⟩,fun i o' d hi hn hd=>?_⟩
  cases i with
  |zero=>
   simp only[cY9,aH6]at hi
   subst hi
   have:=h.1.2
   rw[hn,hd]at this
   exact this
  |succ i=>exact h2 i o' d (by simpa using hi) hn hd
def cr8 (d:Nat):Option (Nat×G0)->Bool
 |some (i,b)=>bC1 i d||bi0 d b
 |none=>false
def cB5 (d j:Nat):List (T×Option (Nat×G0))->List (List Nat)->Nat->Bool
 |[],_,_=>true
 |(V,N)::r,b::bs,i=>(bC1 i j||(!names d V&& !cr8 d N)||aC5 j b)&&cB5 d j r bs (i+1)
 |_::_,[],_=>false
def cn2 (vs:List (T×Option (Nat×G0)))(bs:List (List Nat)):Nat->List Oper->Bool
 |_,[]=>true
 |j,o::r=>(match aR2 o.op,o.dst with|true,some d=>cB5 d j vs bs 0|_,_=>true)&&cn2 vs bs (j+1) r
theorem bW3 {d j:Nat}:∀{vs:List (T×Option (Nat×G0))}{bs:List (List Nat)}{i0:Nat},cB5 d j vs bs i0=true->∀(i:Nat) (V:T) (N:Option (Nat×G0)),vs[i]? =some (V,N)->i0+i≠j->(names d V=false/\cr8 d N=false)\/∃b,bs[i]? =some b/\j∈b
 |[],_,_,_,i,V,N,hi,_=>by simp at hi
 |(V',N')::r,[],_,h,_,_,_,_,_=>by simp[cB5]at h
 |(V',N')::r,b::bs,i0,h,i,V,N,hi,hne=>by
  simp only[cB5,aI9,cI5,ck7]at h
  cases i with
  |zero=>
   simp only[cY9,aH6,aZ6]at hi
   obtain⟨rfl,rfl⟩:=hi
   rcases h.1 with(h1|h1)|h1
   ·exact absurd (bs6 h1) (by simpa using hne)
   ·exact .inl h1
   ·exact .inr ⟨b,rfl,be5.1 h1⟩
  |succ i=>
   have:=bW3 h.2 i V N (by simpa using hi) (by omega)
   simpa using this
theorem bS1 {vs:List (T×Option (Nat×G0))}{bs:List (List Nat)}:∀{ops:List Oper}{j0:Nat},cn2 vs bs j0 ops=true->∀(j:Nat) (o:Oper) (d:Nat),ops[j]? =some o->aR2 o.op=true->o.dst=some d->cB5 d (j0+j) vs bs 0=true
 |[],_,_,j,o,d,hj,_,_=>by simp at hj
 |p::r,j0,h,j,o,d,hj,hn,hd=>by
  simp only[cn2,aI9]at h
  cases j with
  |zero=>
   simp only[cY9,aH6]at hj
   subst hj
   have:=h.1
   rw[hn,hd]at this
   exact this
  |succ j=>
   have:=bS1 h.2 j o d (by simpa using hj) hn hd
   rw[show j0+(j+1)=j0+1+j by omega];exact this
def eg1 (tm0:List (Nat×T))(hp0:List (Nat×G0))(vs:List (T×Option (Nat×G0)))(bs:List (List Nat)):Nat->List Oper->Bool
 |_,[]=>true
 |j,o::r=>(match cJ6 o (match vs[j]?with|some (_,N)=>N|none=>none)with|some id=>M7 id tm0&&(nfB id hp0&&cB5 id j vs bs 0)|none=>true)&&eg1 tm0 hp0 vs bs (j+1) r
theorem cJ7 {tm0:List (Nat×T)}{hp0:List (Nat×G0)}{vs:List (T×Option (Nat×G0))}{bs:List (List Nat)}:∀{ops:List Oper}{j0:Nat},eg1 tm0 hp0 vs bs j0 ops=true->∀(j:Nat) (o:Oper) (V:T) (N:Option (Nat×G0)) (id:Nat),ops[j]? =some o->vs[j0+j]? =some (V,N)->cJ6 o N=some id->M7 id tm0=true/\nfB id hp0=true/\cB5 id (j0+j) vs bs 0=true
 |[],_,_,j,o,V,N,id,hj,_,_=>by simp at hj
 |p::r,j0,h,j,o,V,N,id,hj,hv,hi=>by
  simp only[eg1,aI9]at h
  cases j with
  |zero=>
   simp only[cY9,aH6]at hj
   subst hj
   rw[eb4]at hv|-
   have:=h.1
   rw[hv]at this
   simp only[hi,aI9]at this
   exact this
  |succ j=>
   have:=cJ7 h.2 j o V N id (by simpa using hj) (by rw[show j0+1+j=j0+(j+1) by omega];exact hv) hi
   rw[show j0+(j+1)=j0+1+j by omega];exact this
def bA7 (D:Nat->Bool):Nat->List (T×Option (Nat×G0))->List (Nat×G0)->List (Nat×G0)
 |_,[],hp=>hp
 |i,(_,N)::r,hp=>bA7 D (i+1) r (bif D i then be8 N hp else hp)
def vis (bs:List (List Nat))(ws:List (Nat×Nat))(i:Nat)(b:List Nat)(id:Nat):Bool:=
 ws.all fun p=>!Nat.beq p.2 id||(bC1 p.1 i||(aC5 p.1 b||(match bs[p.1]?with|some bj=>aC5 i bj|none=>false)))
def dW5 (bs:List (List Nat))(ws:List (Nat×Nat))(i:Nat)(b:List Nat):List (Nat×G0)->List (Nat×G0)
 |[]=>[]
 |(k,c)::r=>bif vis bs ws i b k then(k,c)::dW5 bs ws i b r else dW5 bs ws i b r
def dY4 (bs:List (List Nat))(ws:List (Nat×Nat))(vs:List (T×Option (Nat×G0)))(hp0:List (Nat×G0))(i:Nat)(b:List Nat):List (Nat×G0):=
 dW5 bs ws i b (bA7 (fun j=>aC5 j b) 0 vs hp0)
def el9 (vs:List (T×Option (Nat×G0)))(hp0:List (Nat×G0)):List (Nat×G0):=bA7 (fun _=>true) 0 vs hp0
def inW (i id:Nat):List (Nat×Nat)->Bool
 |[]=>false
 |p::r=>(bC1 p.1 i&&bC1 p.2 id)||inW i id r
def cC6 (ws:List (Nat×Nat)):Nat->List (T×Option (Nat×G0))->Bool
 |_,[]=>true
 |i,(_,some (id,_))::r=>inW i id ws&&cC6 ws (i+1) r
 |i,(_,none)::r=>cC6 ws (i+1) r
def cR7 (bs:List (List Nat)):List (Nat×Nat)->Bool
 |[]=>true
 |p::r=>r.all (fun q=>!Nat.beq p.2 q.2||(bC1 p.1 q.1||((bo8 p.1 q.1&&(match bs[q.1]?with|some b=>aC5 p.1 b|none=>false))||(bo8 q.1 p.1&&(match bs[p.1]?with|some b=>aC5 q.1 b|none=>false)))))&&cR7 bs r
theorem cm5 {bs:List (List Nat)}{ws:List (Nat×Nat)}{i:Nat}{b:List Nat}:∀{hp:List (Nat×G0)}{k:Nat}{c:G0},look (dW5 bs ws i b hp) k=some c->vis bs ws i b k=true/\look hp k=some c
 |[],k,c,h=>by simp[dW5,look]at h
 |(j,x)::r,k,c,h=>by
  unfold dW5 at h
  by_cases hj:j=k
  ·subst hj
   cases hv:vis bs ws i b j<;>rw[hv]at h<;>simp only[fi0,fh8]at h
   ·have:=cm5 h
    rw[hv]at this;cases this.1
   ·exact⟨rfl,by simpa[look]using h⟩
  ·rw[H9 hj]
   cases hv:vis bs ws i b j<;>rw[hv]at h<;>simp only[fi0,fh8]at h
   ·exact cm5 h
   ·rw[H9 hj]at h;exact cm5 h
theorem bq9 {N:Option (Nat×G0)}{hp:List (Nat×G0)}{k:Nat}(h:∀b,N≠some (k,b)):look (be8 N hp) k=look hp k:=by
 cases N with
 |none=>rfl
 |some p=>
  obtain⟨i,b⟩:=p
  have:i≠k:=fun e=>h b (by rw[e])
  exact H9 this
theorem bF5 {D D':Nat->Bool}{id:Nat}:∀{vs:List (T×Option (Nat×G0))}{k:Nat}{hp Z2:List (Nat×G0)},look hp id=look Z2 id->(∀j V b,vs[j]? =some (V,some (id,b))->D (k+j)=D' (k+j))->look (bA7 D k vs hp) id=look (bA7 D' k vs Z2) id
 |[],_,_,_,h,_=>h
 |(V,N)::r,k,hp,Z2,h,hd=>by
  unfold bA7
  refine bF5 ?_ (fun j V' b hj=>by have:=hd (j+1) V' b (by simpa using hj);rwa[dK7,eI2 1 j])
  by_cases hN:∃b,N=some (id,b)
  ·obtain⟨b,rfl⟩:=hN
   have:=hd 0 V b rfl
   rw[eb4]at this
   rw[<-this]
   cases D k
   ·exact h
   ·simp[be8,look]
  ·have hn:∀b,N≠some (id,b):=fun b e=>hN ⟨b,e⟩
   cases D k<;>cases D' k<;>simp only[fi0,fh8]
   ·exact h
   ·rw[bq9 hn];exact h
   ·rw[bq9 hn];exact h
   ·rw[bq9 hn,bq9 hn];exact h
theorem cr4 {D:Nat->Bool}{id:Nat}:∀{vs:List (T×Option (Nat×G0))}{k:Nat}{hp:List (Nat×G0)},(∀j V b,vs[j]? =some (V,some (id,b))->D (k+j)=false)->look (bA7 D k vs hp) id=look hp id
 |[],_,_,_=>rfl
 |(V,N)::r,k,hp,hd=>by
  unfold bA7
  rw[cr4 (fun j V' b hj=>by have:=hd (j+1) V' b (by simpa using hj);rwa[dK7,eI2 1 j])]
  cases hk:D k
  ·rfl
  ·exact bq9 fun b e=>by have:=hd 0 V b (by rw[e];rfl);rw[eb4,hk]at this;cases this
theorem cZ7 {D:Nat->Bool}{id:Nat}{V:T}{b:G0}:∀{vs:List (T×Option (Nat×G0))}{i k:Nat}{hp:List (Nat×G0)},vs[i]? =some (V,some (id,b))->D (k+i)=true->(∀j V b,i<j->vs[j]? =some (V,some (id,b))->D (k+j)=false)->look (bA7 D k vs hp) id=some b
 |[],i,_,_,h,_,_=>by simp at h
 |(V',N)::r,0,k,hp,h,hD,hl=>by
  simp only[cY9,aH6,aZ6]at h
  obtain⟨rfl,rfl⟩:=h
  rw[eb4]at hD
  unfold bA7
  rw[hD]
  rw[cr4 (fun j V2 b2 hj=>by have:=hl (j+1) V2 b2 (by omega) (by simpa using hj);rwa[dK7,eI2 1 j])]
  simp[be8,look]
 |(V',N)::r,i+1,k,hp,h,hD,hl=>by
  unfold bA7
  exact cZ7 (by simpa using h) (by rwa[dK7,eI2 1 i]) (fun j V2 b2 hij hj=>by have:=hl (j+1) V2 b2 (by omega) (by simpa using hj);rwa[dK7,eI2 1 j])
theorem dS8 {D:Nat->Bool}{i:Nat}:∀{vs:List (T×Option (Nat×G0))}{k:Nat}{hp:List (Nat×G0)},(∀j,i<=j->D (k+j)=false)->bA7 D k (vs.take i) hp=bA7 D k vs hp:=by
 induction i with
 |zero=>
  intro vs
  induction vs with
  |nil=>intro k hp h;rfl
  |cons x r ih=>
   intro k hp h
   obtain⟨V,N⟩:=x
   have h0:=h 0 (cw4 _)
   rw[eb4]at h0
   have:=ih (k:=k+1) (hp:=hp) (fun j _=>by have:=h (j+1) (by omega);rwa[dK7,eI2 1 j])
   simp only[List.take_zero]at this|-
   rw[bA7,bA7,h0]
   simpa[bA7]using this
 |succ i ih=>
  intro vs k hp h
  cases vs with
  |nil=>rfl
  |cons x r=>
   obtain⟨V,N⟩:=x
   simp only[List.take_succ_cons,bA7]
   exact ih (fun j hj=>by have:=h (j+1) (by omega);rwa[dK7,eI2 1 j])
theorem dP0 {i id:Nat}:∀{ws:List (Nat×Nat)},inW i id ws=true->(i,id)∈ws
 |[],h=>by cases h
 |p::r,h=>by
  simp only[inW,cI5,aI9]at h
  rcases h with⟨h1,h2⟩|h
  ·have:=bs6 h1
   have:=bs6 h2
   obtain⟨a,b⟩:=p
   simp_all
  ·exact bZ9 _ (dP0 h)
theorem bX0 {ws:List (Nat×Nat)}:∀{vs:List (T×Option (Nat×G0))}{k:Nat},cC6 ws k vs=true->∀i V id b,vs[i]? =some (V,some (id,b))->(k+i,id)∈ws
 |[],_,_,i,V,id,b,h=>by simp at h
 |(V',N)::r,k,hu,i,V,id,b,h=>by
  have hr:cC6 ws (k+1) r=true/\∀p,N=some p->inW k p.1 ws=true:=by
   cases N with
   |none=>exact⟨by simpa[cC6]using hu,fun p hp=>by cases hp⟩
   |some p=>
    obtain⟨a,c⟩:=p
    simp only[cC6,aI9]at hu
    exact⟨hu.2,fun p hp=>by cases hp;exact hu.1⟩
  cases i with
  |zero=>
   simp only[cY9,aH6,aZ6]at h
   obtain⟨rfl,rfl⟩:=h
   exact dP0 (hr.2 _ rfl)
  |succ i=>
   have:=bX0 hr.1 i V id b (by simpa using h)
   rwa[dK7,eI2 1 i]at this
theorem cR8 {bs:List (List Nat)}:∀{ws:List (Nat×Nat)},cR7 bs ws=true->∀i j id,(i,id)∈ws->(j,id)∈ws->i<j->∃b,bs[j]? =some b/\i∈b
 |[],_,i,j,id,h,_,_=>by cases h
 |p::r,hp,i,j,id,hi,hj,hij=>by
  simp only[cR7,aI9,bF0]at hp
  have key:∀q∈r,p.2=q.2->p.1≠q.1->(p.1<q.1/\∃b,bs[q.1]? =some b/\p.1∈b)\/(q.1<p.1/\∃b,bs[p.1]? =some b/\q.1∈b):=by
   intro q hq he hne
   have:=hp.1 q hq
   simp only[cI5,ck7,aI9]at this
   rcases this with h1|h1|h1|h1
   ·rw[he]at h1;simp at h1
   ·exact absurd (bs6 h1) hne
   ·refine .inl ⟨bo7 h1.1,?_⟩
    have h2:=h1.2
    split at h2
    ·rename_i b hb;exact⟨b,hb,be5.1 h2⟩
    ·cases h2
   ·refine .inr ⟨bo7 h1.1,?_⟩
    have h2:=h1.2
    split at h2
    ·rename_i b hb;exact⟨b,hb,be5.1 h2⟩
    ·cases h2
  rcases cq9.1 hi with e1|hi'
  ·rcases cq9.1 hj with e2|hj'
   ·rw[<-e1]at e2;cases e2;omega
   ·rcases key _ hj' (by rw[<-e1]) (by rw[<-e1];simp;omega)with h|h
    ·rw[<-e1]at h;exact h.2
    ·have:=h.1;rw[<-e1]at this;simp at this;omega
  ·rcases cq9.1 hj with e2|hj'
   ·rcases key _ hi' (by rw[<-e2]) (by rw[<-e2];simp;omega)with h|h
    ·have:=h.1;rw[<-e2]at this;simp at this;omega
    ·rw[<-e2]at h;exact h.2
   ·exact cR8 hp.2 i j id hi' hj' hij
def cr3 (X:Cx)(all:Array Oper)(bs:List (List Nat))(ws:List (Nat×Nat))(tm0:List (Nat×T))(hp0:List (Nat×G0))(vs:List (T×Option (Nat×G0))):Prop:=
 ∀i V N o b,vs[i]? =some (V,N)->all.toList[i]? =some o->bs[i]? =some b->ah9 X all o (minOf all.toList ((vs.take i).map (·.1)) tm0 (aX5 o)) (dY4 bs ws (vs.take i) hp0 i b) V N
theorem bz5 {A3:Array Bool}{i n:Nat}(hs:A3.size=n)(hi:i<n):(A3.setIfInBounds i true).getD i false=true:=by
 subst hs;simp[hi]
section
variable {X:Cx} {all:Array Oper} {tm0:List (Nat × T)} {hp0:List (Nat × G0)} {vs:List (T × Option (Nat × G0))} {ws:List (Nat × Nat)}
theorem dB0 {P:Program}{Q:Exit->Act->World->Prop}{h:Nat}(ht:cV0 h 0 all.toList (bl0 all.toList [])=true):∀(fuel m:Nat) (A3:Array Bool) (a:Act) (w:World),h<=m->m+fuel=all.size->A3.size=all.size->
  (∀j,j<all.size->A3.getD j false=decide (j<m))->wpList P all Q (all.toList.drop m) a w->wpAny P .any all Q fuel A3 a w:=by
 intro fuel
 induction fuel with
 |zero=>
  intro m A3 a w hm hf hs hl hw
  have cP8:all.toList.drop m=[]:=List.drop_eq_nil_of_le (by simp;omega)
  rw[cP8]at hw
  refine⟨?_,hw⟩
  apply List.eq_nil_iff_forall_not_mem.2
  intro j hj
  obtain⟨h1,o,ho,_⟩:=mem_ready.1 hj
  have hjn:j<all.size:=(dC7.1 ho).1
  have:=hl j hjn
  have h2:A3.getD j true=A3.getD j false:=by simp[hs,hjn]
  rw[h2,this]at h1
  simp at h1
  omega
 |succ fuel ih=>
  intro m A3 a w hm hf hs hl hw
  have hmn:m<all.size:=by omega
  have hmo:all[m]? =some all[m]:=Array.getElem?_eq_getElem hmn
  have hcl:∀(j:Nat) (o:Oper),all.toList[j]? =some o->A3.getD j false=true->∀k∈aX5 o,A3.getD k false=true:=by
   intro j o ho hj k hk
   have hjn:j<all.size:=by have:=(bH2.1 ho).1;simpa using this
   obtain⟨_,_,h2,_⟩:=aU7 ht j o ho
   have hkj:=h2 k hk
   rw[hl j hjn]at hj
   rw[hl k (by omega)]
   simp at hj|-;omega
  have only:∀j∈Region.ready .any all A3,j=m:=by
   intro j hj
   obtain⟨h1,o,ho,hd⟩:=mem_ready.1 hj
   have hjn:j<all.size:=(dC7.1 ho).1
   have h2:A3.getD j true=A3.getD j false:=by simp[hs,hjn]
   rw[h2,hl j hjn]at h1
   simp at h1
   rcases dc9 m j with hlt|hge
   ·exfalso
    have ho':all.toList[j]? =some o:=by simpa using ho
    obtain⟨b,hb,_,h3⟩:=aU7 ht j o ho'
    have:=cH1 (D:=fun k=>A3.getD k false=true) hcl all.toList [] (by simp) (fun j l o hj=>by simp at hj) j b o hb ho' (bH3 hd) m (h3 (by omega) m (by omega))
    rw[hl m hmn]at this
    simp at this
   ·omega
  have hin:m∈Region.ready .any all A3:=by
   have h2:A3.getD m true=false:=by
    have h2:A3.getD m true=A3.getD m false:=by simp[hs,hmn]
    rw[h2,hl m hmn];simp
   refine mem_ready.2 ⟨h2,all[m],hmo,fun e he hb=>?_⟩
   have hk:e.on∈aX5 all[m]:=by
    simp only[aX5,da1,dM7]
    exact⟨e,⟨by simpa using he,hb⟩,rfl⟩
   obtain⟨_,_,h3,_⟩:=aU7 ht m all[m] (by simp)
   have hlt:=h3 e.on hk
   rw[hl e.on (by omega)]
   simp;omega
  refine⟨fun h0=>(by rw[h0]at hin;cases hin),fun i hi=>?_⟩
  have:=only i hi
  subst this
  have hdrop:all.toList.drop i=all[i]::all.toList.drop (i+1):=by
   rw[List.drop_eq_getElem_cons (by simpa using hmn)];simp
  rw[hdrop]at hw
  unfold wpList at hw
  unfold wpOp
  simp only[hmo]
  have next:∀a w,wpList P all Q (all.toList.drop (i+1)) a w->wpAny P .any all Q fuel (A3.setIfInBounds i true) a w:=fun a w hw=>
   ih (i+1) _ a w (by omega) (by omega) (by simp[hs]) (fun j hj=>by
    by_cases c:i=j
    ·subst c;simp[hs,hmn]
    ·rw[getD_set_ne false c,hl j hj];simp;omega) hw
  split at hw
  ·rename_i hg
   rw[if_pos hg]
   exact hw.imp (Oper.wp_mono next) id
  ·rename_i hg
   rw[if_neg hg]
   exact next _ _ hw
theorem cA4 {d:Nat}{hp:List (Nat×G0)}{N:Option (Nat×G0)}(h:L8 d hp=true)(hn:cr8 d N=false):L8 d (be8 N hp)=true:=by
 cases N with
 |none=>exact h
 |some p=>
  obtain⟨i,b⟩:=p
  simp only[cr8,bN3]at hn
  simp[be8,L8,hn.1,hn.2,h]
theorem ep4 {d:Nat}{hp:List (Nat×G0)}{N:Option (Nat×G0)}(h:nfB d hp=true)(hn:cr8 d N=false):nfB d (be8 N hp)=true:=by
 cases N with
 |none=>exact h
 |some p=>
  obtain⟨i,b⟩:=p
  simp only[cr8,bN3]at hn
  simp[be8,nfB,hn.2,h]
theorem em8 {Q:Exit->Act->World->Prop}{h:Nat}(hv:vs.length=h)(hle:h<=all.size)(ht:cV0 h 0 all.toList (bl0 all.toList [])=true)(hh:cv1 X.nt tm0 (all.toList.take h)=true)
  (hnm:cn2 vs (bl0 all.toList []) 0 (all.toList.take h)=true) (hus:cC6 ws 0 vs=true) (hps:cR7 (bl0 all.toList []) ws=true) (has:eg1 tm0 hp0 vs (bl0 all.toList []) 0 (all.toList.take h)=true) (steps:cr3 X all (bl0 all.toList []) ws tm0 hp0 vs)
  (rest:∀a w,Sim X.w0 X.L X.nt ⟨cd9 all.toList (vs.map (·.1)) tm0,el9 vs hp0⟩ a w->wpList X.P all Q (all.toList.drop h) a w):
  ∀(fuel:Nat) (A3:Array Bool) (tm:List (Nat×T)) (hp:List (Nat×G0)) (a:Act) (w:World),Sim X.w0 X.L X.nt ⟨tm,hp⟩ a w->more tm0 tm->aX9 (bA7 (fun j=>A3.getD j false) 0 vs hp0) hp->A3.size=all.size->unl all.size A3=fuel->
   (∀j,h<=j->j<all.size->A3.getD j false=false)->(∀(j:Nat) (o:Oper),all.toList[j]? =some o->A3.getD j false=true->∀k∈aX5 o,A3.getD k false=true)->
   (∀(i:Nat) (o:Oper) (V:T) (N:Option (Nat×G0)) (d:Nat),A3.getD i false=true->all.toList[i]? =some o->vs[i]? =some (V,N)->o.dst=some d->look tm d=some V)->
   (∀(i:Nat) (o:Oper) (d:Nat),i<h->A3.getD i false=false->all.toList[i]? =some o->aR2 o.op=true->o.dst=some d->M7 d tm=true/\L8 d hp=true)->
   (∀(i:Nat) (o:Oper) (V:T) (N:Option (Nat×G0)) (id:Nat),i<h->A3.getD i false=false->all.toList[i]? =some o->vs[i]? =some (V,N)->cJ6 o N=some id->M7 id tm=true/\nfB id hp=true)->wpAny X.P .any all Q fuel A3 a w:=by
 have bget:∀(j:Nat) (o:Oper),all.toList[j]? =some o->∃b,(bl0 all.toList [])[j]? =some b:=fun j o ho=>by
  obtain⟨b,hb,_⟩:=aU7 ht j o ho
  exact⟨b,hb⟩
 have fin:∀(A3:Array Bool) (tm:List (Nat×T)) (hp:List (Nat×G0)) (a:Act) (w:World),Sim X.w0 X.L X.nt ⟨tm,hp⟩ a w->more tm0 tm->aX9 (bA7 (fun j=>A3.getD j false) 0 vs hp0) hp->(∀j,j<h->A3.getD j false=true)->
   (∀(i:Nat) (o:Oper) (V:T) (N:Option (Nat×G0)) (d:Nat),A3.getD i false=true->all.toList[i]? =some o->vs[i]? =some (V,N)->o.dst=some d->look tm d=some V)->
   wpList X.P all Q (all.toList.drop h) a w:=fun A3 tm hp a w hk hm hmh cl8 hsl=>
  rest a w (hk.bL6 (cA5 hm _ _ fun j o V d ho hV hd=>by
    rw[cV8]at hV
    cases hvj:vs[j]?with
    |none=>rw[hvj]at hV;cases hV
    |some p=>
     rw[hvj]at hV
     simp only[cq8,aH6]at hV
     subst hV
     exact hsl j o p.1 p.2 d (cl8 j (by have:=(bH2.1 hvj).1;omega)) ho hvj hd)
   (fun k c hk=>hmh k c (by
    rw[<-hk]
    refine bF5 rfl fun j V b hj=>?_
    rw[cX5]
    exact cl8 j (by have:=(bH2.1 hj).1;omega))))
 intro fuel
 induction fuel with
 |zero=>
  intro A3 tm hp a w hk hm hmh hs hu htl hcl hsl _ _
  have cl8:=ew4 hu
  have hh0:h=all.size:=by
   rcases dc9 h all.size with h1|h1
   ·have:=htl h (cw4 _) h1;rw[cl8 h h1]at this;cases this
   ·omega
  exact dB0 ht 0 h A3 a w (cw4 _) (by omega) hs (fun j hj=>by rw[cl8 j hj];simp;omega) (fin A3 tm hp a w hk hm hmh (fun j hj=>cl8 j (by omega)) hsl)
 |succ fuel ih=>
  intro A3 tm hp a w hk hm hmh hs hu htl hcl hsl hfr hap
  by_cases hdone:∀j,j<h->A3.getD j false=true
  ·have hl:∀j,j<all.size->A3.getD j false=decide (j<h):=fun j hj=>by
    by_cases c:j<h
    ·rw[hdone j c];simp[c]
    ·rw[htl j (by omega) hj];simp[c]
   have hcount:h+(fuel+1)=all.size:=by
    have key:∀m,m<=all.size->((dC2 m).filter fun j=>!A3.getD j false).length=m-h:=by
     intro m
     induction m with
     |zero=>intro _;simp
     |succ m ihm=>
      intro hm'
      rw[List.range_succ,List.filter_append,aZ7,ihm (by omega)]
      have:=hl m (by omega)
      by_cases c:m<h
      ·simp only[ex5,this,c,decide_true,aX3,Bool.false_eq_true,if_false,eK1,cV7];omega
      ·simp only[ex5,this,c,decide_false,Bool.not_false,if_true,eK1,List.length_cons,cV7];omega
    have:=key all.size (cw4 _)
    unfold unl at hu
    omega
   exact dB0 ht (fuel+1) h A3 a w (cw4 _) hcount hs hl (fin A3 tm hp a w hk hm hmh hdone hsl)
  ·have hex:∃j,j<h/\A3.getD j false=false:=by
    refine Classical.byContradiction fun hn=>hdone fun j hj=>?_
    cases hb:A3.getD j false
    ·exact absurd ⟨j,hj,hb⟩ hn
    ·rfl
   obtain⟨j0,hj0,hl0⟩:=hex
   have bef:∀(j:Nat) (o:Oper) (b:List Nat),all.toList[j]? =some o->(bl0 all.toList [])[j]? =some b->(∀k∈aX5 o,A3.getD k false=true)->∀i∈b,A3.getD i false=true:=fun j o b ho hb hd=>
    cH1 (D:=fun k=>A3.getD k false=true) hcl all.toList [] (by simp) (fun j l o hj=>by simp at hj) j b o hb ho hd
   have ea8:∀i∈Region.ready .any all A3,i<h/\i<all.size/\A3.getD i false=false/\∃o,all[i]? =some o/\∀k∈aX5 o,A3.getD k false=true:=by
    intro i hi
    obtain⟨h1,o,ho,hd⟩:=mem_ready.1 hi
    have hin:i<all.size:=(dC7.1 ho).1
    have h2:A3.getD i true=A3.getD i false:=by simp[hs,hin]
    rw[h2]at h1
    refine⟨?_,hin,h1,o,ho,bH3 hd⟩
    refine Classical.byContradiction fun hnh=>?_
    have ho':all.toList[i]? =some o:=by simpa using ho
    obtain⟨b,hb,_,h3⟩:=aU7 ht i o ho'
    have:=bef i o b ho' hb (bH3 hd) j0 (h3 (by omega) j0 (by omega))
    rw[hl0]at this
    cases this
   have notEmpty:Region.ready .any all A3≠[]:=by
    have cv2:∃j,j<all.size/\A3.getD j false=false/\∀k,k<j->A3.getD k false=true:=by
     have:∀n,(∃j,j<n/\A3.getD j false=false)->∃j,j<n/\A3.getD j false=false/\∀k,k<j->A3.getD k false=true:=by
      intro n
      induction n with
      |zero=>rintro⟨j,hj,_⟩;omega
      |succ n ihn=>
       rintro⟨j,hj,hb⟩
       by_cases hx:∃j,j<n/\A3.getD j false=false
       ·obtain⟨j',h1,h2,h3⟩:=ihn hx
        exact⟨j',by omega,h2,h3⟩
       ·have:j=n:=by
         rcases dc9 j n with c|c
         ·exact absurd ⟨j,c,hb⟩ hx
         ·omega
        subst this
        refine⟨j,hj,hb,fun k hk=>?_⟩
        cases hc:A3.getD k false
        ·exact absurd ⟨k,hk,hc⟩ hx
        ·rfl
     obtain⟨j,h1,h2,h3⟩:=this h ⟨j0,hj0,hl0⟩
     exact⟨j,by omega,h2,h3⟩
    obtain⟨j,hj,hb,hk⟩:=cv2
    have hin:j∈Region.ready .any all A3:=by
     have hjo:all[j]? =some all[j]:=Array.getElem?_eq_getElem hj
     have h2:A3.getD j true=false:=by rw[<-hb];simp[hs,hj]
     refine mem_ready.2 ⟨h2,all[j],hjo,fun e he hbd=>?_⟩
     have hke:e.on∈aX5 all[j]:=by
      simp only[aX5,da1,dM7]
      exact⟨e,⟨by simpa using he,hbd⟩,rfl⟩
     obtain⟨_,_,h3,_⟩:=aU7 ht j all[j] (by simp)
     exact hk e.on (by have:=h3 e.on hke;omega)
    intro h0
    rw[h0]at hin
    cases hin
   refine⟨fun h0=>absurd h0 notEmpty,fun i hi=>?_⟩
   obtain⟨hih,hin,hli,o,ho,hd⟩:=ea8 i hi
   have ho':all.toList[i]? =some o:=by simpa using ho
   obtain⟨b,hb⟩:=bget i o ho'
   have hbl:=bef i o b ho' hb hd
   have hvi:vs[i]? =some (vs[i]'(by omega)):=aW5 (by omega)
   generalize vs[i]'(by omega)=p at hvi
   obtain⟨V,N⟩:=p
   have hti:(all.toList.take h)[i]? =some o:=by rw[dC1,if_pos hih];exact ho'
   have tk:∀j V N,(vs.take i)[j]? =some (V,N)->vs[j]? =some (V,N):=fun j V N hj=>by
    rw[dC1]at hj
    split at hj
    ·exact hj
    ·cases hj
   have cv2:more (minOf all.toList ((vs.take i).map (·.1)) tm0 (aX5 o)) tm:=cQ6 hm _ fun j oj Vj dj hj hoj hVj hdj=>by
    rw[cV8]at hVj
    cases hvj:(vs.take i)[j]?with
    |none=>rw[hvj]at hVj;cases hVj
    |some p=>
     rw[hvj]at hVj
     simp only[cq8,aH6]at hVj
     subst hVj
     exact hsl j oj p.1 p.2 dj (hd j hj) hoj (tk j _ _ hvj) hdj
   have hblt:∀x∈b,x<i:=cH1 (D:=fun x=>x<i) (fun j oj hoj hj k hk=>by
     obtain⟨_,_,h2,_⟩:=aU7 ht j oj hoj
     have:=h2 k hk
     omega) all.toList [] (by simp) (fun j l o hj=>by simp at hj) i b o hb ho' (fun k hk=>by
     obtain⟨_,_,h2,_⟩:=aU7 ht i o ho'
     have:=h2 k hk
     omega)
   have hbi:∀j,i<=j->aC5 j b=false:=fun j hj=>by
    cases hx:aC5 j b
    ·rfl
    ·have:=hblt j (be5.1 hx);omega
   have hlater:∀j bj,(bl0 all.toList [])[j]? =some bj->i∈bj->A3.getD j false=false:=fun j bj hbj hib=>by
    cases hx:A3.getD j false
    ·rfl
    ·exfalso
     have hjn:j<all.size:=by
      rcases dc9 j all.size with c|c
      ·exact c
      ·have:A3.getD j false=false:=by simp[hs,c]
       rw[hx]at this;cases this
     have hoj:all.toList[j]? =some all[j]:=by simp
     have:=bef j all[j] bj hoj hbj (hcl j _ hoj hx) i hib
     rw[hli]at this;cases this
   have hminH:aX9 (dY4 (bl0 all.toList []) ws (vs.take i) hp0 i b) hp:=fun k c hk=>by
    obtain⟨hv1,hl1⟩:=cm5 hk
    rw[dS8 (fun j hj=>by rw[cX5];exact hbi j hj)]at hl1
    refine hmh k c ?_
    rw[<-hl1]
    refine bF5 rfl fun j V' b' hj=>?_
    rw[cX5]
    have hw:=bX0 hus j V' k b' hj
    rw[cX5]at hw
    have hx:=bF0.1 hv1 _ hw
    simp only[ca0,aX3,Bool.false_or,cI5]at hx
    rcases hx with hx|hx|hx
    ·have:=bs6 hx
     subst this
     rw[hli,hbi j (cw4 _)]
    ·rw[hx];exact hbl j (be5.1 hx)
    ·split at hx
     ·rename_i bj hbj
      have h1:=hlater j bj hbj (be5.1 hx)
      rw[h1]
      cases hy:aC5 j b
      ·rfl
      ·have:=hbl j (be5.1 hy);rw[h1]at this;cases this
     ·cases hx
   have hacc:aX9 (bA7 (fun j=>(A3.setIfInBounds i true).getD j false) 0 vs hp0) (be8 N hp):=fun k c hk=>by
    by_cases hN:∃c',N=some (k,c')
    ·obtain⟨c',rfl⟩:=hN
     rw[cZ7 hvi (by rw[cX5];exact bz5 hs hin) (fun j V2 b2 hij hj=>by
      rw[cX5,getD_set_ne false (by omega)]
      have w1:=bX0 hus i V k c' hvi
      have w2:=bX0 hus j V2 k b2 hj
      rw[cX5]at w1 w2
      obtain⟨bj,hbj,hib⟩:=cR8 hps i j k w1 w2 hij
      exact hlater j bj hbj hib)]at hk
     cases hk
     simp[be8,look]
    ·rw[bq9 (fun c' e=>hN ⟨c',e⟩)]
     refine hmh k c ?_
     rw[<-hk]
     refine bF5 rfl fun j V' b' hj=>?_
     rw[cX5,getD_set_ne false]
     intro e;subst e
     rw[hvi]at hj;cases hj
     exact hN ⟨b',rfl⟩
   unfold wpOp
   simp only[ho]
   have hstep:=steps i V N o b hvi ho' hb tm hp cv2 hminH ⟨fun hn d bf7=>by
     have:=hfr i o d hih hli ho' hn bf7
     rw[this.1,this.2];rfl,fun id hid=>hap i o V N id hih hli ho' hvi hid⟩ (fun d bf7=>(bt6 hh i i o o d d hti hti bf7 bf7).1.2|>fun h=>Nat.ble_eq_true_of_le h) a w hk
    (wpAny X.P .any all Q fuel (A3.setIfInBounds i true)) Q (fun a' w' hk'=>by
    have hsz:(A3.setIfInBounds i true).size=all.size:=by simp[hs]
    have hun:unl all.size (A3.setIfInBounds i true)=fuel:=by have:=eG9 (A3:=A3) hin hs hli;omega
    have htl':∀j,h<=j->j<all.size->(A3.setIfInBounds i true).getD j false=false:=fun j h1 h2=>by rw[getD_set_ne false (by omega)];exact htl j h1 h2
    have hcl':∀(j:Nat) (o:Oper),all.toList[j]? =some o->(A3.setIfInBounds i true).getD j false=true->∀k∈aX5 o,(A3.setIfInBounds i true).getD k false=true:=fun j oj hoj hlj k hk=>by
     by_cases c:i=j
     ·subst c
      rw[ho']at hoj;cases hoj
      exact getD_set_true (hd k hk)
     ·rw[getD_set_ne false c]at hlj
      exact getD_set_true (hcl j oj hoj hlj k hk)
    have hjh:∀j,j<all.size->A3.getD j false=true->j<h:=fun j hj hlj=>by
     refine Classical.byContradiction fun hn=>?_
     rw[htl j (by omega) hj]at hlj;cases hlj
    have jlt:∀(j:Nat) (oj:Oper),all.toList[j]? =some oj->j<all.size:=fun j oj hoj=>by have:=(bH2.1 hoj).1;simpa using this
    have hap':∀(j:Nat) (oj:Oper) (Vj:T) (Nj:Option (Nat×G0)) (id:Nat),j<h->(A3.setIfInBounds i true).getD j false=false->all.toList[j]? =some oj->vs[j]? =some (Vj,Nj)->cJ6 oj Nj=some id->(M7 id tm=true/\names id V=false)/\nfB id (be8 N hp)=true:=fun j oj Vj Nj id hj hlj hoj hvj hid=>by
     by_cases c:i=j
     ·subst c
      rw[bz5 hs hin]at hlj;cases hlj
     ·rw[getD_set_ne false c]at hlj
      obtain⟨f1,f2⟩:=hap j oj Vj Nj id hj hlj hoj hvj hid
      obtain⟨_,_,hnb⟩:=cJ7 has j oj Vj Nj id (by rw[dC1,if_pos hj];exact hoj) (by rw[cX5];exact hvj) hid
      rw[cX5]at hnb
      rcases bW3 hnb i V N hvi (by omega)with⟨n1,n2⟩|⟨b',hb',hjb⟩
      ·exact⟨⟨f1,n1⟩,ep4 f2 n2⟩
      ·rw[hb]at hb';cases hb'
       have:=hbl j hjb
       rw[hlj]at this;cases this
    cases bf7:o.dst with
    |none=>
     simp only[pt,bf7]at hk'
     refine ih _ tm _ _ w' hk' hm hacc hsz hun htl' hcl' (fun j oj Vj Nj dj hlj hoj hVj hdj=>?_) (fun j oj dj hj hlj hoj hnj hdj=>?_) (fun j oj Vj Nj bid hj hlj hoj hvj hid=>(hap' j oj Vj Nj bid hj hlj hoj hvj hid).imp (·.1) (fun x=>x))
     ·by_cases c:i=j
      ·subst c
       rw[ho']at hoj;cases hoj
       rw[bf7]at hdj;cases hdj
      ·rw[getD_set_ne false c]at hlj
       exact hsl j oj Vj Nj dj hlj hoj hVj hdj
     ·by_cases c:i=j
      ·subst c
       rw[ho']at hoj;cases hoj
       rw[bf7]at hdj;cases hdj
      ·rw[getD_set_ne false c]at hlj
       obtain⟨f1,f2⟩:=hfr j oj dj hj hlj hoj hnj hdj
       have hnb:=bS1 hnm j oj dj (by rw[dC1,if_pos hj];exact hoj) hnj hdj
       rw[cX5]at hnb
       rcases bW3 hnb i V N hvi (by omega)with⟨n1,n2⟩|⟨b',hb',hjb⟩
       ·exact⟨f1,cA4 f2 n2⟩
       ·rw[hb]at hb';cases hb'
        have:=hbl j hjb
        rw[hlj]at this;cases this
    |some d=>
     have h1:=(bt6 hh i i o o d d hti hti bf7 bf7).1
     have hpt:pt o V tm=(d,V)::tm:=by simp[pt,bf7]
     rw[hpt]at hk'
     have dne:∀(j:Nat) (oj:Oper) (dj:Nat),i≠j->j<h->all.toList[j]? =some oj->oj.dst=some dj->d≠dj:=fun j oj dj c hj hoj hdj=>
      (bt6 hh i j o oj d dj hti (by rw[dC1,if_pos hj];exact hoj) bf7 hdj).2 c
     refine ih _ ((d,V)::tm) _ _ w' hk' (fun k t hkt=>?_) hacc hsz hun htl' hcl' (fun j oj Vj Nj dj hlj hoj hVj hdj=>?_) (fun j oj dj hj hlj hoj hnj hdj=>?_) (fun j oj Vj Nj bid hj hlj hoj hvj hid=>(hap' j oj Vj Nj bid hj hlj hoj hvj hid).imp (fun h=>by simp[M7,h.1,h.2]) (fun x=>x))
     ·have hne:d≠k:=by intro e;subst e;rw[h1.1]at hkt;cases hkt
      rw[H9 hne]
      exact hm k t hkt
     ·by_cases c:i=j
      ·subst c
       rw[ho']at hoj;cases hoj
       rw[bf7]at hdj;cases hdj
       rw[hvi]at hVj;cases hVj
       simp[look]
      ·rw[getD_set_ne false c]at hlj
       have hne:=dne j oj dj c (hjh j (jlt j oj hoj) hlj) hoj hdj
       rw[H9 hne]
       exact hsl j oj Vj Nj dj hlj hoj hVj hdj
     ·by_cases c:i=j
      ·subst c
       rw[bz5 hs hin]at hlj;cases hlj
      ·rw[getD_set_ne false c]at hlj
       have hne:=dne j oj dj c hj hoj hdj
       obtain⟨f1,f2⟩:=hfr j oj dj hj hlj hoj hnj hdj
       have hnb:=bS1 hnm j oj dj (by rw[dC1,if_pos hj];exact hoj) hnj hdj
       rw[cX5]at hnb
       rcases bW3 hnb i V N hvi (by omega)with⟨n1,n2⟩|⟨b',hb',hjb⟩
       ·exact⟨by simp[M7,n1,f1],cA4 f2 n2⟩
       ·rw[hb]at hb';cases hb'
        have:=hbl j hjb
        rw[hlj]at this;cases this)
   split at hstep
   ·rename_i hg
    rw[if_pos hg]
    exact .inl hstep
   ·rename_i hg
    rw[if_neg hg]
    exact hstep
def ez9 (nt:Nat)(all:List Oper)(h:Nat)(ws:List (Nat×Nat))(tm0:List (Nat×T))(hp0:List (Nat×G0))(vs:List (T×Option (Nat×G0))):Bool:=
 bC1 vs.length h&&(dQ2 h all.length&&(cV0 h 0 all (bl0 all [])&&(be3 nt tm0 hp0 (all.take h)&&(cn2 vs (bl0 all []) 0 (all.take h)&&(cC6 ws 0 vs&&(cR7 (bl0 all []) ws&&eg1 tm0 hp0 vs (bl0 all []) 0 (all.take h)))))))
theorem D9.ff2 {ρ:Type}{ks:List K}{m:Option ρ}{Q:ρ->Exit->St->Prop}{id h:Nat}(hmx:X.P.follows .mixedOrders=true)(hb:ez9 X.nt all.toList h ws tm0 hp0 vs=true)(steps:cr3 X all (bl0 all.toList []) ws tm0 hp0 vs)
  (rest:B3 X all (all.toList.drop h) ks ⟨cd9 all.toList (vs.map (·.1)) tm0,el9 vs hp0⟩ m Q):D9 X (.c (.region id all true)::ks) ⟨tm0,hp0⟩ m Q:=fun r hr a w hw=>by
 simp only[ez9,aI9]at hb
 obtain⟨h1,h2,h3,h4,h5,h6,h7,h8⟩:=hb
 obtain⟨hh,hf⟩:=du2 h4
 obtain⟨S,E,hk⟩:=hw
 have aK7:aV7 (fun _=>False) w {w with drawn:=w.drawn+1}:=⟨rfl,rfl,rfl,cw4 _,fun _ _ _=>rfl,Nat.le_succ _⟩
 refine wp_region_any hmx (em8 (bs6 h1) (by have:=bo7 h2;simpa using this) h3 hh h5 h6 h7 h8 steps (fun a w hs=>rest r hr a w hs) _ _ tm0 hp0 a _ ⟨S,E,hk.grow aK7⟩ (fun _ _ h=>h) (fun k c hk=>by rw[cr4 (fun j V b _=>by rw[cX5];exact bT1 _ _)]at hk;exact hk) (by simp) ?_ ?_ ?_ ?_ ?_ ?_)
 ·unfold unl
  have:((dC2 all.size).filter fun i=>!(Array.replicate all.size false).getD i false)=dC2 all.size:=by
   rw[List.filter_eq_self]
   intro i hi
   rw[bT1];rfl
  rw[this];simp
 ·intro j _ _;exact bT1 _ _
 ·intro j o ho hl
  rw[bT1]at hl;cases hl
 ·intro j o V N d hl
  rw[bT1]at hl;cases hl
 ·intro i o d hi _ ho hn hd
  have:=hf i o d (by rw[dC1,if_pos hi];exact ho) hn hd
  rwa[aI9]at this
 ·intro i o V N id hi _ ho hv hid
  have:=cJ7 h8 i o V N id (by rw[dC1,if_pos hi];exact ho) (by rw[cX5];exact hv) hid
  exact⟨this.1,this.2.1⟩
end
open Go.RowKit Go.MapKept
def cQ5 {κ ν:Type}[BEq κ](z:ν):List (κ×ν)->κ->ν
 |[],_=>z
 |(a,v)::r,k=>bif k==a then v else cQ5 z r k
def dl6 {κ ν:Type}[BEq κ]:List (κ×ν)->κ->ν->List (κ×ν)
 |[],k,v=>[(k,v)]
 |(a,x)::r,k,v=>bif k==a then(k,v)::r else(a,x)::dl6 r k v
structure KeyLaw {κ:Type}[BEq κ](d:TypeDesc)(f:κ->Value):Prop where
 now:∀a b,Instr.sameNow d (f a) (f b)=some (a==b)
 key:∀a,IsKey d (f a)
 bits:∀a b,(a==b)=true->Instr.sameBits 10000 (f b) (f a)=true
theorem eO5 (ik:IntKind):KeyLaw (.int ik) (fun n:Int=>.int ik n):=⟨fun a b=>by simp[Instr.sameNow],fun a=>by simp[IsKey],fun a b h=>by
 have h:a=b:=by simpa using h
 subst h;simp[Instr.sameBits]⟩
section
variable {κ ν:Type} [BEq κ] {d:TypeDesc} {f:κ -> Value} {g:ν -> Value}
def bt9:List (κ×ν)->κ->Option (Nat×ν)
 |[],_=>none
 |(a,v)::r,k=>bif k==a then some (0,v)else(bt9 r k).map fun p=>(p.1+1,p.2)
theorem de4 (z:ν)(k:κ):∀m:List (κ×ν),cQ5 z m k=match bt9 m k with|some p=>p.2|none=>z
 |[]=>rfl
 |(a,v)::r=>by
  simp only[cQ5,bt9]
  cases k==a
  ·simp only[fh8];rw[de4 z k r];cases bt9 r k<;>rfl
  ·rfl
theorem de6 (k:κ)(v:ν):∀m:List (κ×ν),dl6 m k v=match bt9 m k with|some p=>m.set p.1 (k,v)|none=>m++[(k,v)]
 |[]=>rfl
 |(a,x)::r=>by
  simp only[dl6,bt9]
  cases k==a
  ·simp only[fh8];rw[de6 k v r];cases bt9 r k<;>rfl
  ·rfl
theorem de3 {k:κ}:∀{m:List (κ×ν)}{p:Nat×ν},bt9 m k=some p->∃a,m[p.1]? =some (a,p.2)/\(k==a)=true
 |[],p,h=>by simp[bt9]at h
 |(a,v)::r,p,h=>by
  simp only[bt9]at h
  cases hk:k==a
  ·rw[hk]at h
   simp only[fh8,eC5]at h
   obtain⟨q,hq,rfl⟩:=h
   obtain⟨b,h1,h2⟩:=de3 hq
   exact⟨b,by simpa using h1,h2⟩
  ·rw[hk]at h
   simp only[fi0,aH6]at h
   subst h
   exact⟨a,rfl,hk⟩
abbrev ent (f:κ->Value)(g:ν->Value)(p:κ×ν):Value×Value:=(f p.1,g p.2)
theorem cd7 (K:KeyLaw d f)(k:κ):∀(m:List (κ×ν)) (l:List MapEntry) (i:Nat),l.map (fun e=>(e.key,e.val))=m.map (ent f g)->
  Instr.findNow d (f k) l i=some ((bt9 m k).map fun p=>(i+p.1,g p.2))
 |[],l,i,h=>by
  have:l=[]:=by simpa using h
  subst this;rfl
 |(a,v)::m,[],i,h=>by simp at h
 |(a,v)::m,e::l,i,h=>by
  simp only[cW0,eU4,aZ6]at h
  obtain⟨⟨h1,h2⟩,h3⟩:=h
  simp only[Instr.findNow,h1,K.now,bt9]
  cases hk:k==a
  ·simp only[fh8]
   rw[cd7 K k m l (i+1) h3]
   cases bt9 m k<;>simp[dK7,eI2 1]
  ·simp[h2]
end
section
variable {κ ν:Type} [BEq κ] {d:TypeDesc} {f:κ -> Value} {g:ν -> Value} {P:Program} {w:World} {t kt et b clock:Nat} {es:Array MapEntry} {m:List (κ × ν)}
theorem dH8 (K:KeyLaw d f)(ht:P.underlying t=some (.map kt et))(hk:P.underlying kt=some d){z:ν}{ti:TypeInfo}(hz:P.info? et=some ti)(hz2:ti.zero=some (g z))
  (hb:w.heap[b]? =some (.map es clock)) (he:es.toList.map (fun e=>(e.key,e.val))=m.map (ent f g)) (k:κ):
  (Instr.lookup t (.map (some b)) (f k) false).run P w= .ok (g (cQ5 z m k)) w:=by
 have h1:=cd7 K k m es.toList 0 he
 simp only[Instr.lookup,bq7,run_underlying ht,bc2,MapKept.run_getObj_map hb,bF1,run_checkKey hk (K.key k),run_findKey hk h1]
 rw[de4]
 cases bt9 m k with
 |none=>
  have hzr:(zeroValue et).run P w= .ok (g z) w:=by simp[zeroValue,typeInfo,hz,hz2]
  simp[hzr,bq7,Result.andThen]
 |some p=>simp[Result.andThen]
theorem dL2 (K:KeyLaw d f)(ht:P.underlying t=some (.map kt et))(hk:P.underlying kt=some d)
  (hb:w.heap[b]? =some (.map es clock)) (he:es.toList.map (fun e=>(e.key,e.val))=m.map (ent f g)) (k:κ) (v:ν):
  ∃es' clock',(Instr.mapUpdate t (.map (some b)) (f k) (g v)).run P w= .ok () {w with heap:=w.heap.setIfInBounds b (.map es' clock')}/\es'.toList.map (fun e=>(e.key,e.val))=(dl6 m k v).map (ent f g):=by
 have h1:=cd7 K k m es.toList 0 he
 rw[de6]
 cases hf:bt9 m k with
 |none=>
  rw[hf]at h1
  refine⟨es.push {key:=f k,val:=g v,born:=clock},clock+1,?_,?_⟩
  ·simp only[Instr.mapUpdate,bq7,run_underlying ht,bc2,MapKept.run_getObj_map hb,run_checkKey hk (K.key k),run_findKey hk h1]
   simp[run_setObj_map _ hb]
  ·simp[he]
 |some p=>
  rw[hf]at h1
  obtain⟨a,h2,h3⟩:=de3 hf
  have h4:(es.toList.map (fun e=>(e.key,e.val)))[p.1]? =some (f a,g p.2):=by rw[he,cV8,h2];rfl
  rw[cV8,eC5]at h4
  obtain⟨e,h5,h6⟩:=h4
  simp only[aZ6]at h6
  have h5':es[p.1]? =some e:=by simpa using h5
  have hbits:Instr.sameBits 10000 e.key (f k)=true:=by rw[h6.1];exact K.bits k a h3
  refine⟨es.modify p.1 fun e=>{e with key:=f k,val:=g v},clock,?_,?_⟩
  ·simp only[Instr.mapUpdate,bq7,run_underlying ht,bc2,MapKept.run_getObj_map hb,run_checkKey hk (K.key k),run_findKey hk h1]
   simp only[cq8,cX5,h5',Option.getD_some,Instr.keyThatStays,hbits,if_true,bF1,bq7,bc2]
   simp[run_setObj_map _ hb]
  ·simp only
   apply List.ext_getElem?
   intro j
   have h7:=congrArg (fun l=>l[j]?) he
   simp only[cV8]at h7
   simp only[cV8,List.getElem?_set,Array.getElem?_toList,Array.getElem?_modify]at h7|-
   by_cases hj:p.1=j
   ·subst hj
    have hlt:p.1<m.length:=(bH2.1 h2).1
    simp[h5',hlt]
   ·simp only[hj,if_false]
    exact h7
end
section
variable {w0:World} {L:Lim} {nt:Nat} {σ:St} {S:Nat -> Prop} {E:Nat -> Value} {a:Act} {w:World}
theorem Ok.fa6 (h:Ok w0 L nt σ S E a w){id β c c':Nat}{es es':List (Value×Value)}{l l':Array MapEntry}(hb:look σ.hp id=some (.mp es))(hE:E id= .map (some β))
  (hh:w.heap[β]? =some (.map l c)) (hl:l'.toList.map (fun e=>(e.key,e.val))=es'):
  Ok w0 L nt ⟨σ.tm,at3 σ.hp id (.mp es')⟩ S E a {w with heap:=w.heap.setIfInBounds β (.map l' c')}:=by
 have hβ:R4 (E id)=some β:=by rw[hE];rfl
 have dk6:=h.own id _ β hb hβ
 have bM8:=heap_set (o':=.map l' c') hh
 have hne:∀k,k≠β->({w with heap:=w.heap.setIfInBounds β (.map l' c')}:World).heap[k]? =w.heap[k]?:=fun k hk=>bM8.2 k hk
 have hS:∀b,S b->({w with heap:=w.heap.setIfInBounds β (.map l' c')}:World).heap[b]? =w.heap[b]?:=fun k hk=>hne k fun e=>dk6.1 (e▸hk)
 refine{keep:=?_,aG1:=fun b hb=>by simpa using h.aG1 b hb,base:=h.base,size:=h.size,defers:=h.defers,tm:=fun k t ht=>(h.tm k t ht).mono (fun _ x=>x) hS (fun _ _=>rfl),hp:=?_,own:=?_,as9:=?_,pin:=h.pin}
 ·exact h.keep.trans (L':=fun k=>k=β) ⟨rfl,rfl,rfl,by simp,fun k _ hk=>hne k hk,cw4 _⟩ fun x hx=>by subst hx;exact dk6.2.2.symm
 ·intro id' blk hl'
  rw[aE1]at hl'
  by_cases hid:id=id'
  ·subst hid
   simp only[if_true,hb,cq8,aH6]at hl'
   subst hl'
   exact⟨β,c',l',hE,bM8.1,hl⟩
  ·simp only[hid,if_false]at hl'
   refine(h.hp id' blk hl').mono (fun _ x=>x) hS (fun β' hβ'=>hne β' fun e=>?_) (fun _ _=>rfl)
   subst e
   exact hid (h.as9 id id' _ blk _ hb hl' hβ hβ')
 ·intro id' blk β' hl' hβ'
  rw[aE1]at hl'
  have:∃b0,look σ.hp id'=some b0:=by
   by_cases hid:id=id'
   ·subst hid;exact⟨_,hb⟩
   ·simp only[hid,if_false]at hl';exact⟨_,hl'⟩
  obtain⟨b0,hb0⟩:=this
  simpa using h.own id' b0 β' hb0 hβ'
 ·intro i i' x x' β' hl1 hl' hβ1 hβ2
  rw[aE1]at hl1 hl'
  have dz6:∀j y,(if id=j then(look σ.hp j).map (fun _=>(.mp es':G0))else look σ.hp j)=some y->∃b0,look σ.hp j=some b0:=by
   intro j y hj
   by_cases hid:id=j
   ·subst hid;exact⟨_,hb⟩
   ·simp only[hid,if_false]at hj;exact⟨_,hj⟩
  obtain⟨b0,hb0⟩:=dz6 i x hl1
  obtain⟨b1,hb1⟩:=dz6 i' x' hl'
  exact h.as9 i i' b0 b1 β' hb0 hb1 hβ1 hβ2
end
section
variable {ρ κ ν:Type} [BEq κ] {X:Cx} {ks:List K} {tm:List (Nat × T)} {hp:List (Nat × G0)} {m:Option ρ} {Q:ρ -> Exit -> St -> Prop} {all:Array Oper} {o:Oper} {rest:List Oper}
theorem B3.eQ0 {t d:Nat}(id:Nat)(ho:o.op= .makeMap t none)(hd:o.dst=some d)(hdn:bo8 d X.nt=true)(hg:ah6 all.toList tm o.guard=some true)
  (aL5:bo8 id big=true) (hft:M7 id tm=true) (hfb:L8 id hp=true) (h:B3 X all rest ks ⟨(d,.own id)::tm,(id,.mp [])::hp⟩ m Q):B3 X all (o::rest) ks ⟨tm,hp⟩ m Q:=fun y hy a w ⟨S,E,hk⟩=>by
 obtain⟨E',hE,hne,hok⟩:=hk.alloc (o:=.map #[] 0) (x:=.map (some w.heap.size)) (b:=.mp []) aL5 hft hfb rfl (fun E' _=>⟨w.heap.size,0,#[],rfl,(MapKept.heap_alloc w _).1,rfl⟩)
 refine wpList_step fun K hK=>?_
 rw[S6 hk hg,if_pos rfl]
 unfold Oper.wp
 have aN4:(execOp a.eval o).run X.P w= .ok (.value (.map (some w.heap.size))) (w.alloc (.map #[] 0)):=by
  unfold execOp
  simp only[ho,Option.map_none,bq7,run_makeMap,bc2,bF1]
 rw[aN4]
 refine hK _ _ (h y hy _ _ ⟨S,E',?_⟩)
 rw[hd]
 exact hok.put (bo7 hdn) (.own id _ hE)
theorem B3.eo3 {t kt et d id:Nat}{x y:Operand}{dk:TypeDesc}{f:κ->Value}{g:ν->Value}{z:ν}{l:List (κ×ν)}{k:κ}(K:KeyLaw dk f)(ho:o.op= .lookup t x y false)(hd:o.dst=some d)(hdn:bo8 d X.nt=true)(hg:ah6 all.toList tm o.guard=some true)
  (hx:val tm x=some (.own id)) (hb:look hp id=some (.mp (l.map (ent f g)))) (hy:val tm y=some (.t (.v (f k)))) (ht:X.P.underlying t=some (.map kt et)) (hkt:X.P.underlying kt=some dk) (hz:∃ti,X.P.info? et=some ti/\ti.zero=some (g z))
  (h:B3 X all rest ks ⟨(d,.t (.v (g (cQ5 z l k))))::tm,hp⟩ m Q):B3 X all (o::rest) ks ⟨tm,hp⟩ m Q:=by
 have:=B3.one (X:=X) (ks:=ks) (tm:=tm) (hp:=hp) (all:=all) (o:=o) (rest:=rest) (Q:=Q) (k:=fun _=>m) (m₁:=some ()) hd hdn hg (fun _=>.t (.v (g (cQ5 z l k)))) (fun _ S E a w _ hk=>by
  obtain⟨ti,hz1,hz2⟩:=hz
  obtain⟨β,c,es,hE,hh,hl⟩:=hk.hp id _ hb
  have hxv:=hk.val hx
  refine⟨_,?_,.t (.v _)⟩
  have hxe:a.eval x= .map (some β):=by
   generalize hq:a.eval x=q at hxv
   cases hxv with|own _ _ h=>exact h.symm.trans hE
  simp only[execOp,ho,bq7,hxe,(hk.val hy).tv,dH8 K ht hkt hz1 hz2 hh hl,bc2,bF1]) (fun _ _=>h)
 simpa using this
theorem B3.ew6 {t kt et id:Nat}{x y u:Operand}{dk:TypeDesc}{f:κ->Value}{g:ν->Value}{l:List (κ×ν)}{k:κ}{v:ν}(K:KeyLaw dk f)(ho:o.op= .mapUpdate t x y u)(hd:o.dst=none)(hg:ah6 all.toList tm o.guard=some true)
  (hx:val tm x=some (.own id)) (hb:look hp id=some (.mp (l.map (ent f g)))) (hy:val tm y=some (.t (.v (f k)))) (hu:val tm u=some (.t (.v (g v)))) (ht:X.P.underlying t=some (.map kt et)) (hkt:X.P.underlying kt=some dk)
  (h:B3 X all rest ks ⟨tm,at3 hp id (.mp ((dl6 l k v).map (ent f g)))⟩ m Q):B3 X all (o::rest) ks ⟨tm,hp⟩ m Q:=fun r hr a w ⟨S,E,hk⟩=>by
 obtain⟨β,c,es,hE,hh,hl⟩:=hk.hp id _ hb
 have hxv:=hk.val hx
 have hxe:a.eval x= .map (some β):=by
  generalize hq:a.eval x=q at hxv
  cases hxv with|own _ _ h=>exact h.symm.trans hE
 obtain⟨es',c',h1,h2⟩:=dL2 K ht hkt hh hl k v
 refine wpList_step fun K hK=>?_
 rw[S6 hk hg,if_pos rfl]
 unfold Oper.wp
 have aN4:(execOp a.eval o).run X.P w= .ok .skip {w with heap:=w.heap.setIfInBounds β (.map es' c')}:=by
  unfold execOp
  simp only[ho,bq7,hxe,(hk.val hy).tv,(hk.val hu).tv,h1,bc2,bF1]
 rw[aN4]
 refine hK _ _ (h r hr _ _ ⟨S,E,?_⟩)
 rw[hd]
 exact hk.fa6 hb hE hh h2
end
inductive Cg (ρ:Type)where
 |S (ks:List K) (σ:St)
 |O (all:Array Oper) (kb:List Nat) (ops:List Oper) (ks:List K) (σ:St)
 |D (id:Nat) (all:Array Oper) (h:Nat) (bs:List (List Nat)) (ws:List (Nat×Nat)) (ops:List Oper) (vs:List (T×Option (Nat×G0))) (tm0:List (Nat×T)) (hp0:List (Nat×G0)) (fz kb:List Nat) (ks:List K)
 |X (id:Nat) (σ:St)
 |R (r:ρ)
def tlH:List (List Nat)->Nat->Nat
 |[],j=>j
 |b::r,j=>match tlH r (j+1)with|h=>bif bC1 h (j+1)&&bN9 j b then j else h
def dw5 (fz:List Nat):Nat->List Oper->List (Nat×Nat)
 |_,[]=>[]
 |j,o::r=>match aR2 o.op,o.dst with
  |true,some d=>bif aC5 d fz then dw5 fz (j+1) r else(j,d)::dw5 fz (j+1) r
  |_,_=>dw5 fz (j+1) r
def stD (C2:Tab)(all:List Oper)(bs:List (List Nat))(ws:List (Nat×Nat))(o:Oper)(vs:List (T×Option (Nat×G0)))(tm0:List (Nat×T))(hp0:List (Nat×G0))(fz kb:List Nat):Option (T×Option (Nat×G0)):=
 match bs[vs.length]?with
 |none=>none
 |some b=>match minOf all (vs.map (·.1)) tm0 (aX5 o),dY4 bs ws vs hp0 vs.length b with
  |tm,hp=>match gk all kb tm o.guard with
   |some false=>some (.t (.v undef),none)
   |some true=>bif dX2 o.op then(match cH5 C2 tm hp o with|some (V,_)=>some (V,none)|none=>none)else
     bif aR2 o.op then(match cH5 C2 tm hp o,o.dst with
      |some (V,⟨_,(_,N)::_⟩),some d=>bif aC5 d fz then(match N with| .rows _ _ n rs=>some (.t (.sl n rs),none)|_=>none)else some (V,some (d,N))
      |_,_=>none)else
     match o.op with
     | .store t x y=>match val tm x,look C2 t,(val tm y).bind (ap3 hp)with
      |some (.ptr id off),some ti,some l=>match look hp id with
       |some (.box ts)=>bif bC1 l.length ti.size&&dQ2 (off+l.length) ts.length then some (.t (.v undef),some (id,.box (aO7 ts off l)))else none
       |_=>none
      |_,_,_=>none
     |_=>none
   |none=>none
def dedup:List (Nat×G0)->List (Nat×G0)
 |[]=>[]
 |(k,b)::r=>(k,b)::bw0 (dedup r) k
theorem cQ2:∀{l:List (Nat×G0)}{k:Nat},look (dedup l) k=look l k
 |[],_=>rfl
 |(j,b)::r,k=>by
  unfold dedup
  by_cases hj:j=k
  ·subst hj;simp[look]
  ·rw[H9 hj,H9 hj,aU3 (Ne.symm hj)];exact cQ2
def av {ρ:Type}(C2:Tab)(nt:Nat)(eb ed:Bool):Nat->Cg ρ->Cg ρ
 |0,c=>c
 |n+1,c=>match c with
  | .S (.c x::ks) σ=>match x with
   | .seq x y=>av C2 nt eb ed n (.S (.c x:: .c y::ks) σ)
   | .skip=>av C2 nt eb ed n (.S ks σ)
   | .label _=>av C2 nt eb ed n (.S ks σ)
   | .scope x=>av C2 nt eb ed n (.S (.c x::ks) σ)
   | .block id x=>bif eb then av C2 nt eb ed n (.S (.c x:: .e id::ks) σ)else .S (.c (.block id x)::ks) σ
   | .region id ops d=>match d with
    |false=>av C2 nt eb ed n (.O ops [] ops.toList ks σ)
    |true=>bif ed then av C2 nt eb ed n (.D id ops (tlH (bl0 ops.toList []) 0) (bl0 ops.toList []) (dw5 [] 0 (ops.toList.take (tlH (bl0 ops.toList []) 0))) ops.toList [] (rmv (aV4 (ops.toList.take (tlH (bl0 ops.toList []) 0))) σ.tm) σ.hp [] [] ks)else .S (.c (.region id ops true)::ks) σ
   | .exit id=>match bu4 id ks with
    |some ks'=>av C2 nt eb ed n (.S ks' σ)
    |none=>.X id σ
   |x=>.S (.c x::ks) σ
  | .S (.e _::ks) σ=>av C2 nt eb ed n (.S ks σ)
  | .O all kb [] ks σ=>av C2 nt eb ed n (.S ks σ)
  | .O all kb (o::r) ks ⟨tm,hp⟩=>match stO C2 nt all.toList kb o r tm hp with
   |some (r',σ')=>av C2 nt eb ed n (.O all kb r' ks σ')
   |none=>.O all kb (o::r) ks ⟨tm,hp⟩
  | .D id all h bs ws ops vs tm0 hp0 fz kb ks=>bif bC1 vs.length h then
    (bif ez9 nt all.toList h ws tm0 hp0 vs then av C2 nt eb ed n (.O all kb ops ks ⟨cd9 all.toList (vs.map (·.1)) tm0,dedup (el9 vs hp0)⟩)else .D id all h bs ws ops vs tm0 hp0 fz kb ks)
   else match ops with
    |[]=>.D id all h bs ws [] vs tm0 hp0 fz kb ks
    |o::r=>match stD C2 all.toList bs ws o vs tm0 hp0 fz kb with
     |some x=>av C2 nt eb ed n (.D id all h bs ws r (vs++[x]) tm0 hp0 fz kb ks)
     |none=>.D id all h bs ws (o::r) vs tm0 hp0 fz kb ks
  |c=>c
def fuel:Nat:=100000
def here {ρ:Type}:Cg ρ->Option (Array Oper×List Nat×Oper×List (Nat×T)×List (Nat×G0)×List Nat×(T->Option (Nat×G0)->Cg ρ))
 | .O all kb (q::r) ks ⟨tm,hp⟩=>some (all,kb,q,tm,hp,[],fun V N=>.O all kb r ks ⟨pt q V tm,be8 N hp⟩)
 | .D id all h bs ws (q::r) vs tm0 hp0 fz kb ks=>match bs[vs.length]?with
  |some b=>some (all,kb,q,minOf all.toList (vs.map (·.1)) tm0 (aX5 q),dY4 bs ws vs hp0 vs.length b,fz,fun V N=>.D id all h bs ws r (vs++[(V,N)]) tm0 hp0 fz kb ks)
  |none=>none
 |_=>none
def eT4 (q:Oper)(vs:List (T×Option (Nat×G0))):Option (Nat×Bool):=match q.guard with
 |some (j,_)=>match vs[j]?with
  |some (.t (.v (.bool b)),none)=>some (j,b)
  |_=>none
 |none=>none
def dK0 (x:T):Nat->List (T×Option (Nat×G0))->List (T×Option (Nat×G0))
 |_,[]=>[]
 |0,(_,N)::r=>(x,N)::r
 |j+1,p::r=>p::dK0 x j r
def kbD (all:Array Oper)(j:Nat)(kb:List Nat):List Nat:=match all[j]?with
 |some o=>(match o.dst with|some d=>d::kb|none=>kb)
 |none=>kb
def eT3 (all:List Oper)(tm:List (Nat×T))(q:Oper):Option (Nat×Bool):=match q.guard with
 |some (j,_)=>match all[j]?with
  |some o=>match o.dst with
   |some d=>match look tm d with
    |some (.t (.v (.bool b)))=>some (d,b)
    |_=>none
   |none=>none
  |none=>none
 |none=>none
inductive Ch where
 |t (k:Nat) (x:T)
 |x (k:Nat)
 |c (id j:Nat) (l:List T)
 |b (id:Nat) (b:G0)
 |d (id:Nat)
def upd:List Ch->St->St
 |[],σ=>σ
 |a::r,σ=>match upd r σ with
  |⟨tm,hp⟩=>match a with
   | .t k x=>⟨(k,x)::rmv [k] tm,hp⟩
   | .x k=>⟨rmv [k] tm,hp⟩
   | .c id j l=>match look hp id with
    |some (.box ts)=>⟨tm,(id,.box (aO7 ts j l))::bw0 hp id⟩
    |_=>⟨tm,hp⟩
   | .b id b=>⟨tm,(id,b)::bw0 hp id⟩
   | .d id=>⟨tm,bw0 hp id⟩
inductive Sh (ρ:Type)where
 |nx (l:List Ch)
 |ex (id:Nat) (l:List Ch)
 |rt (r:ρ)
inductive Out (ρ:Type)where
 |nx (σ:St)
 |ex (id:Nat) (σ:St)
 |rt (r:ρ)
 |top (r:ρ)
 |no
def Out.den {ρ:Type}(Qf:ρ->St->Prop):Out ρ->Exit->St->Prop
 | .nx σ,e,σ'=>e= .normal/\Sub σ σ'
 | .ex id σ,e,σ'=>e= .exit id/\Sub σ σ'
 | .rt r,e,σ'=>e= .ret/\Qf r σ'
 | .top r,e,σ'=>(e= .ret\/e= .normal)/\Qf r σ'
 | .no,_,_=>False
inductive Kd (ρ:Type):Type->Type 1 where
 |e:Kd ρ Empty
 |one {γ:Type} (o:γ->Sh ρ):Kd ρ γ
 |two {γ δ:Type} (o:γ->Sh ρ) (o':δ->Sh ρ):Kd ρ (γ⊕δ)
 |tri {γ δ ε:Type} (o:γ->Sh ρ) (o':δ->Sh ρ) (o'':ε->Sh ρ):Kd ρ (γ⊕(δ⊕ε))
def Kd.sh {ρ:Type}:{γ:Type}->Kd ρ γ->γ->Sh ρ
 |_,.e,w=>w.elim
 |_,.one o,w=>o w
 |_,.two o _,.inl w=>o w
 |_,.two _ o,.inr w=>o w
 |_,.tri o _ _,.inl w=>o w
 |_,.tri _ o _,.inr (.inl w)=>o w
 |_,.tri _ _ o,.inr (.inr w)=>o w
def Kd.all {ρ:Type}:{γ:Type}->Kd ρ γ->(γ->Sh ρ->Tr)->Tr
 |_,.e,_=>.ok
 |_,.one o,F=>.all fun w=>F w (o w)
 |_,.two o o',F=>.and (.all fun w=>F (.inl w) (o w)) (.all fun w=>F (.inr w) (o' w))
 |_,.tri o o' o'',F=>.and (.all fun w=>F (.inl w) (o w)) (.and (.all fun w=>F (.inr (.inl w)) (o' w)) (.all fun w=>F (.inr (.inr w)) (o'' w)))
theorem Kd.dD9 {ρ:Type}:∀{γ:Type}{k:Kd ρ γ}{F:γ->Sh ρ->Tr},(k.all F).den->∀w,(F w (k.sh w)).den
 |_,.e,_,_,w=>w.elim
 |_,.one o,_,h,w=>h w
 |_,.two o o',_,h,.inl w=>h.1 w
 |_,.two o o',_,h,.inr w=>h.2 w
 |_,.tri o o' o'',_,h,.inl w=>h.1 w
 |_,.tri o o' o'',_,h,.inr (.inl w)=>h.2.1 w
 |_,.tri o o' o'',_,h,.inr (.inr w)=>h.2.2 w
def noE:List K->Bool
 |[]=>true
 | .c _::r=>noE r
 | .e _::_=>false
def eD7 {ρ:Type}:Out ρ->Out ρ
 | .nx _=>.no
 | .top _=>.no
 |o=>o
def df0 {ρ:Type}(σ:St):Sh ρ->Out ρ
 | .nx l=>.nx (upd l σ)
 | .ex id l=>.ex id (upd l σ)
 | .rt r=>.rt r
def eq2 {ρ:Type}(σ:St):Sh ρ->Out ρ
 | .nx _=>.no
 | .ex id l=>.ex id (upd l σ)
 | .rt r=>.rt r
def cont {ρ:Type}(ks:List K)(σ:St):Sh ρ->Cg ρ
 | .nx l=>.S ks (upd l σ)
 | .ex id l=>match bu4 id ks with
  |some ks'=>.S ks' (upd l σ)
  |none=>.X id (upd l σ)
 | .rt r=>.R r
def ai7:Code->List Nat
 | .region _ ops _=>aV4 ops.toList
 | .seq x y=>ai7 x++ai7 y
 | .cond _ x y=>ai7 x++ai7 y
 | .block _ x=>ai7 x
 | .loop x=>ai7 x
 | .scope x=>ai7 x
 |_=>[]
def fgT (id:Nat):List (Nat×T)->List (Nat×T)
 |[]=>[]
 |(k,x)::r=>bif names id x then fgT id r else(k,x)::fgT id r
def fgL (id:Nat):List T->List T
 |[]=>[]
 |x::r=>(bif names id x then .any else x)::fgL id r
def fgB (id:Nat):G0->G0
 | .box ts=>.box (fgL id ts)
 |b=>b
def fgH (id:Nat):List (Nat×G0)->List (Nat×G0)
 |[]=>[]
 |(k,b)::r=>bif bC1 k id then fgH id r else(k,fgB id b)::fgH id r
def uniq:List (Nat×G0)->Bool
 |[]=>true
 |(k,_)::r=>(look r k).isNone&&uniq r
inductive Z1 where
 |fr (id:Nat)
 |fb (id:Nat)
 |np (k id e sz:Nat) (path:List Nat)
 |nb (b id e sz:Nat) (path:List Nat)
 |rn (h:List (Nat×Nat))
 |dr (id:Nat)
def idn (h:List (Nat×Nat)):List (Nat×G0)->List (Nat×Nat)
 |[]=>[]
 |(i,_)::r=>match look h i with
  |some _=>idn h r
  |none=>(i,i)::idn h r
def rdT (h:List (Nat×Nat)):List (Nat×T)->List (Nat×T)
 |[]=>[]
 |(k,x)::r=>match aM2 h x with
  |some _=>(k,x)::rdT h r
  |none=>rdT h r
def Z1.ap (tm:List (Nat×T))(hp:List (Nat×G0)):Z1->Option St
 | .fr id=>match look hp id with
  |some (.rows _ _ n rs)=>some ⟨cp6 id (.t (.sl n rs)) tm,bm8 id (.t (.sl n rs)) hp⟩
  |_=>none
 | .fb id=>match look hp id with
  |some (.box ts)=>match trees ts with
   |some c=>some ⟨dV6 id c tm,cu6 id c hp⟩
   |none=>none
  |_=>none
 | .np k id e sz path=>match look tm k with
  |some t=>match bJ9 id path t with
   |some u=>bif bo8 id big&&(M7 id tm&&L8 id hp)then some ⟨(k,u)::tm,(id,.rows e sz 0 [])::hp⟩else none
   |none=>none
  |none=>none
 | .nb b id e sz path=>match look hp b with
  |some (.box ts)=>match bJ9 id path (.agg ts)with
   |some (.agg us)=>bif bo8 id big&&(M7 id tm&&L8 id hp)then some ⟨tm,(id,.rows e sz 0 [])::at3 hp b (.box us)⟩else none
   |_=>none
  |_=>none
 | .rn h=>match h++idn h hp with
  |h'=>bif uniq hp&&cC1 h' then(match cT2 h' (rdT h' (rmv [] tm)),aR7 h' hp with
   |some tm',some Z2=>some ⟨tm',Z2⟩
   |_,_=>none)else none
 | .dr id=>bif uniq hp then some ⟨fgT id (rmv [] tm),fgH id hp⟩else none
inductive U1:Type->Type 1 where
 |ap {α:Type} (enc:α->List Tree) (l r:List α) (id:Nat):U1 (List α)
 |an {α:Type} (enc:α->List Tree) (n:Int) (z:α) (id:Nat):U1 (List α)
 |st {α:Type} (enc:α->List Tree) (l:List α) (i:Int) (y:α) (n:Nat):U1 (List α)
 |sF {α:Type} (enc:α->List Tree) (l:List α) (a b:Int):U1 (List α)
 |sO {α:Type} (enc:α->List Tree) (l:List α) (b:Int) (id:Nat):U1 (List α)
 |cp {α:Type} (enc:α->List Tree) (l r:List α):U1 (List α)
def U1.m:{τ:Type}->U1 τ->Option τ
 |_,.ap _ l r _=>R6 l r
 |_,.an _ n z _=>cV6 n z
 |_,.st _ l i y _=>aj2 l i y
 |_,.sF _ l a b=>ax7 l a b
 |_,.sO _ l b _=>ax7 l 0 b
 |_,.cp _ l r=>some (aI5 l r)
def U1.k:{τ:Type}->U1 τ->τ->List GF->List GF
 |_,.st enc _ i y _,l,Γ=>⟨enc,l,i,y⟩::Γ
 |_,_,_,Γ=>Γ
def df9 {α:Type}(enc:α->List Tree)(r:List α)(sz:Nat)(hp:List (Nat×G0)):Option T->Tr
 |some (.t (.sl _ rs))=>tq rs (r.map enc)
 |some (.own i2)=>match look hp i2 with
  |some (.rows _ s2 _ rs)=>bif bC1 s2 sz then tq rs (r.map enc)else .bad
  |_=>.bad
 |_=>.bad
def U1.q (C2:Tab)(nt:Nat)(Γ:List GF)(tm:List (Nat×T))(hp:List (Nat×G0))(o:Oper):{τ:Type}->U1 τ->Option (Tr×(τ->St))
 |_,.ap enc l r id=>match o.op,o.dst with
  | .call ⟨.builtin .append,args,tys⟩,some d=>match args.toList,tys.toList with
   |[s,x],[t,t']=>match look C2 t with
    |some ⟨_,.slice e,_⟩=>match look C2 e with
     |some te=>bif bC1 t t'&&bo8 d nt&&bC1 te.zero.length te.size&&bo8 id big&&M7 id (fgT id (rmv [] tm))&&L8 id (fgH id hp)&&uniq hp then
       some (.and (tq (α:=_->Nat) (fun y=>(enc y).length) (fun _=>te.size)) (.and (tq (α:=_->Bool) (fun y=>(enc y).all aP5) (fun _=>true)) (.and (df9 enc r te.size hp (val tm x)) (match val tm s with
        |some (.own i)=>match look hp i with
         |some (.rows e' sz _ rs)=>bif bC1 i id&&bC1 e' e&&bC1 sz te.size then tq rs (l.map enc)else .bad
         |_=>.bad
        |some (.t (.v (.slice none 0 0)))=>tq l []
        |_=>.bad))),fun y=>⟨(d,.own id)::fgT id (rmv [] tm),(id,.rows e te.size y.length (y.map enc))::fgH id hp⟩)
      else none
     |none=>none
    |_=>none
   |_,_=>none
  |_,_=>none
 |_,.an enc n z id=>match o.op,o.dst with
  | .call ⟨.builtin .append,args,tys⟩,some d=>match args.toList,tys.toList with
   |[s,x],[t,u]=>match look C2 t,look C2 u,val tm s,val tm x with
    |some ⟨_,.slice e,_⟩,some ⟨_,.int _,_⟩,some (.t (.v (.slice none 0 0))),some (.t (.v (.int _ n')))=>match look C2 e with
     |some te=>bif bo8 d nt&&bC1 te.zero.length te.size&&bo8 0 te.size&&bo8 id big&&M7 id tm&&L8 id hp then
       some (.and (tq n' n) (tq (enc z) (te.zero.map fun v=>aD3 (.v v))),fun y=>⟨(d,.own id)::tm,(id,.rows e te.size y.length (y.map enc))::hp⟩)
      else none
     |none=>none
    |_,_,_,_=>none
   |_,_=>none
  |_,_=>none
 |_,.st enc l i y n=>match o.op,o.dst,Γ[n]?with
  | .store t p x,none,some f=>match val tm p,look C2 t,(val tm x).bind (ap3 hp)with
   |some (.pe id i' sz off),some ti,some cs=>match look hp id,trees cs with
    |some (.rows e sz' n' rs),some lt=>bif bC1 sz sz'&&bC1 lt.length ti.size&&dQ2 (off+lt.length) sz then
      some (.and (.eq (.gf ⟨f.enc,f.l,f.i⟩) (.gf ⟨enc,l,i⟩)) (.and (tq (i',rs) (i.toNat,l.map enc)) (.eq (.mk (enc y)) (.mk (bE2 (f.enc f.y) off lt)))),fun l'=>⟨tm,at3 hp id (.rows e sz l'.length (l'.map enc))⟩)
     else none
    |_,_=>none
   |_,_,_=>none
  |_,_,_=>none
 |_,.sF enc l a b=>match o.op,o.dst with
  | .slice t x lo hi none,some d=>match look C2 t,val tm x,cw2 tm 0 lo,cw2 tm l.length hi with
   |some ⟨_,.slice e,_⟩,some (.t (.sl _ rs)),some a',some b'=>match look C2 e with
    |some te=>bif bo8 d nt then some (.and (tq rs (l.map enc)) (.and (tq (a',b') (a,b)) (tq (α:=_->Nat) (fun y=>(enc y).length) (fun _=>te.size))),fun y=>⟨(d,.t (.sl y.length (y.map enc)))::tm,hp⟩)else none
    |none=>none
   |_,_,_,_=>none
  |_,_=>none
 |_,.sO enc l b id=>match o.op,o.dst with
  | .slice t x none hi none,some d=>match look C2 t,val tm x,cw2 tm l.length hi with
   |some ⟨_,.slice e',_⟩,some (.own i),some b'=>match look C2 e',look hp i with
    |some te,some (.rows e sz _ rs)=>bif bo8 d nt&&bC1 te.size sz&&bo8 id big&&M7 id (fgT i (rmv [] tm))&&L8 id (fgH i hp)&&L8 i (fgH i hp)&&uniq hp then
      some (.and (tq rs (l.map enc)) (tq b' b),fun y=>⟨(d,.own id)::fgT i (rmv [] tm),(id,.rows e sz y.length (y.map enc))::fgH i hp⟩)
     else none
    |_,_=>none
   |_,_,_=>none
  |_,_=>none
 |_,.cp enc l r=>match o.op with
  | .call ⟨.builtin .copy,args,tys⟩=>match args.toList,tys.toList with
   |[s,x],[t,_]=>match look C2 t,val tm s,bu5 nt o.dst (.t (.v (.int .i64 (min r.length l.length:Nat)))) ⟨tm,[]⟩with
    |some ⟨_,.slice e',_⟩,some (.own id),some ⟨tm',_⟩=>match look C2 e',look hp id with
     |some te,some (.rows e sz _ rs)=>bif bC1 sz te.size then
       some (.and (tq (α:=_->Nat) (fun y=>(enc y).length) (fun _=>te.size)) (.and (tq (α:=_->Bool) (fun y=>(enc y).all aP5) (fun _=>true)) (.and (df9 enc r te.size hp (val tm x)) (tq rs (l.map enc)))),fun y=>⟨tm',at3 hp id (.rows e te.size y.length (y.map enc))⟩)
      else none
     |_,_=>none
    |_,_,_=>none
   |_,_=>none
  |_=>none
def U1.qA (C2:Tab)(nt:Nat)(tm:List (Nat×T))(hp:List (Nat×G0))(o:Oper){α:Type}(enc:α->List Tree)(l r:List α)(id:Nat):Option (Tr×(List α->T×Option (Nat×G0))):=
 match o.op,o.dst with
 | .call ⟨.builtin .append,args,tys⟩,some d=>match args.toList,tys.toList with
  |[s,x],[t,t']=>match look C2 t with
   |some ⟨_,.slice e,_⟩=>match look C2 e with
    |some te=>match val tm s,look hp id with
     |some (.t (.v v)),some (.rv v' e' sz n rs)=>bif bC1 t t'&&bo8 d nt&&bC1 te.zero.length te.size&&bo8 id big&&bC1 e' e&&bC1 sz te.size then
       some (.and (tq v v') (.and (tq rs (l.map enc)) (.and (tq (α:=_->Nat) (fun y=>(enc y).length) (fun _=>te.size)) (.and (tq (α:=_->Bool) (fun y=>(enc y).all aP5) (fun _=>true)) (df9 enc r te.size hp (val tm x))))),fun y=>(.own id,some (id,.rows e te.size y.length (y.map enc))))
      else none
     |_,_=>none
    |none=>none
   |_=>none
  |_,_=>none
 |_,_=>none
def U1.qD (C2:Tab)(nt:Nat)(Γ:List GF)(tm:List (Nat×T))(hp:List (Nat×G0))(o:Oper):{τ:Type}->U1 τ->Option (Tr×(τ->T×Option (Nat×G0)))
 |_,.st enc l i y n=>match(U1.st enc l i y n).q C2 nt Γ tm hp o with
  |some (t,_)=>match o.op,o.dst with
   | .store _ p _,none=>match val tm p with
    |some (.pe id _ sz _)=>match look hp id with
     |some (.rows e _ _ _)=>some (t,fun l'=>(.t (.v undef),some (id,.rows e sz l'.length (l'.map enc))))
     |_=>none
    |_=>none
   |_,_=>none
  |none=>none
 |_,.ap enc l r id=>U1.qA C2 nt tm hp o enc l r id
 |_,_=>none
def mtT:T->T->List (Nat×Nat)
 | .own i,.own j=>[(i,j)]
 | .ptr i _,.ptr j _=>[(i,j)]
 | .pe i _ _ _,.pe j _ _ _=>[(i,j)]
 | .agg l,.agg l'=>mtL l l'
 | .P7 l,.P7 l'=>mtL l l'
 | .clo _ l,.clo _ l'=>mtL l l'
 |_,_=>[]
where mtL:List T->List T->List (Nat×Nat)
 |x::l,y::l'=>mtT x y++mtL l l'
 |_,_=>[]
def eY1 (i:Nat):List (Nat×Nat)->Bool
 |[]=>false
 |p::r=>bif bC1 p.1 i then true else eY1 i r
def dd1:List (Nat×Nat)->List (Nat×Nat)->List (Nat×Nat)
 |[],l=>l
 |p::r,l=>bif eY1 p.1 l then dd1 r l else dd1 r (l++[p])
def mtH (h h':List (Nat×G0)):List (Nat×Nat)->List (Nat×Nat)
 |[]=>[]
 |(i,j)::r=>(match look h i,look h' j with
  |some (.box ts),some (.box us)=>mtT.mtL ts us
  |_,_=>[])++mtH h h' r
def dP3 (aB6:List T)(chp:List (Nat×G0))(targs:List T)(hp:List (Nat×G0)):List (Nat×Nat):=
 match dd1 (mtT.mtL aB6 targs) []with
 |l=>match dd1 (mtH chp hp l) l with
  |l=>dd1 (mtH chp hp l) l
structure Mq (P:Program)(κ ν:Type)where
 beq:BEq κ
 t:Nat
 kt:Nat
 et:Nat
 dk:TypeDesc
 f:κ->Value
 g:ν->Value
 z:ν
 law:@KeyLaw κ beq dk f
 ht:P.underlying t=some (.map kt et)
 hk:P.underlying kt=some dk
 hz:∃ti,P.info? et=some ti/\ti.zero=some (g z)
inductive M (P:Program)(ρ:Type):Type->Type 1 where
 |R {τ:Type} (v:τ):M P ρ τ
 |N {τ:Type}:M P ρ τ
 |I {τ:Type} (b:Bool) (x y:M P ρ τ):M P ρ τ
 |K {β τ:Type} (c:C P β) (f:β->M P ρ τ):M P ρ τ
 |KG {β τ:Type} (c:CG P β) (nm:List Nat) (f:β->M P ρ τ):M P ρ τ
 |O {β τ:Type} (l:L1 β) (f:β->M P ρ τ):M P ρ τ
 |W {τ:Type} (u:W1) (x:M P ρ τ):M P ρ τ
 |U {β τ:Type} (u:U1 β) (f:β->M P ρ τ):M P ρ τ
 |Mk {α τ:Type} (enc:α->List Tree) (n:Int) (z:α) (f:List α->M P ρ τ):M P ρ τ
 |Z (z:Z1) {τ:Type} (x:M P ρ τ):M P ρ τ
 |G {τ:Type} (b:Bool) (x y:M P ρ Bool) (f:Bool->M P ρ τ):M P ρ τ
 |J0 {β τ:Type} (n:Nat) (o:β->List Ch) (x:M P ρ β) (f:β->M P ρ τ):M P ρ τ
 |J {β γ τ:Type} (n:Nat) (o:β->List Ch) (k:Kd ρ γ) (x:M P ρ (β⊕γ)) (f:β->M P ρ τ) (g:γ->M P ρ τ):M P ρ τ
 |JF {S γ:Type} (n:Nat) (o:S->List Ch) (x:M P ρ (Fl S γ)) (i:Int):M P ρ ((Int×S)⊕(S⊕γ))
 |L {S γ τ:Type} (hd:S->List Ch) (N:Nat) (k:Kd ρ γ) (x:S->M P ρ (S⊕(S⊕γ))) (s:S) (f:S->M P ρ τ) (g:γ->M P ρ τ):M P ρ τ
 |LQ {S γ τ:Type} (ri:Nat) (hd:S->List Ch) (N:Nat) (k:Kd ρ γ) (x:Int×S->M P ρ ((Int×S)⊕(S⊕γ))) (s:S) (f:S->M P ρ τ) (g:γ->M P ρ τ):M P ρ τ
 |A {α τ:Type} (enc:α->List Tree) (l:List α) (i:Int) (f:α->M P ρ τ):M P ρ τ
 |B {τ:Type} (x:M P ρ τ):M P ρ τ
 |D {τ:Type} (fz:List Nat) (ws:List (Nat×Nat)) (x:M P ρ τ):M P ρ τ
 |Sp {τ:Type} (b:Bool) (x y:M P ρ τ):M P ρ τ
 |Mm {τ:Type} (id:Nat) (x:M P ρ τ):M P ρ τ
 |Ml {κ ν τ:Type} (m:Mq P κ ν) (l:List (κ×ν)) (k:κ) (x:M P ρ τ):M P ρ τ
 |Mu {κ ν τ:Type} (m:Mq P κ ν) (l:List (κ×ν)) (k:κ) (v:ν) (x:M P ρ τ):M P ρ τ
 |Pn {τ:Type} (id:Nat) (x:M P ρ τ):M P ρ τ
 |Nl {α τ:Type} (enc:α->List Tree) (l:List α) (x:M P ρ τ) (y:List α->M P ρ τ):M P ρ τ
def M.run {P:Program}{ρ:Type}:{τ:Type}->M P ρ τ->Option τ
 |_,.R v=>some v
 |_,.N=>none
 |_,.I b x y=>bif b then x.run else y.run
 |_,.K c f=>c.m.bind fun t=>(f t).run
 |_,.KG c _ f=>c.m.bind fun t=>(f t).run
 |_,.O l f=>l.m.bind fun t=>(f t).run
 |_,.W _ x=>x.run
 |_,.U u f=>u.m.bind fun t=>(f t).run
 |_,.Mk _ n z f=>(aX7 n z).bind fun t=>(f t).run
 |_,.Z _ x=>x.run
 |_,.G b x y f=>(bif b then x.run else y.run).bind fun t=>(f t).run
 |_,.J0 _ _ x f=>x.run.bind fun t=>(f t).run
 |_,.J _ _ _ x f g=>x.run.bind fun t=>match t with| .inl t=>(f t).run| .inr t=>(g t).run
 |_,.JF _ _ x i=>x.run.bind (aC9 i)
 |_,.L _ _ _ x s f g=>(J7 (fun s=>(x s).run) s).bind fun t=>match t with| .inl t=>(f t).run| .inr t=>(g t).run
 |_,.LQ _ _ _ _ x s f g=>(J7 (fun s=>(x s).run) (0,s)).bind fun t=>match t with| .inl t=>(f t).run| .inr t=>(g t).run
 |_,.A _ l i f=>(C9 l i).bind fun t=>(f t).run
 |_,.B x=>x.run
 |_,.D _ _ x=>x.run
 |_,.Sp b x y=>bif b then x.run else y.run
 |_,.Nl _ l _ y=>(y l).run
 |_,.Mm _ x=>x.run
 |_,.Pn _ x=>x.run
 |_,.Ml _ _ _ x=>x.run
 |_,.Mu _ _ _ _ x=>x.run
def M.rn {P:Program}{ρ:Type}(k:Nat):{τ:Type}->M P ρ τ->Option τ
 |_,.R v=>some v
 |_,.N=>none
 |_,.I b x y=>bif b then x.rn k else y.rn k
 |_,.K c f=>(c.e k).bind fun t=>(f t).rn k
 |_,.KG c _ f=>(c.e k).bind fun t=>(f t).rn k
 |_,.O l f=>l.m.bind fun t=>(f t).rn k
 |_,.W _ x=>x.rn k
 |_,.U u f=>u.m.bind fun t=>(f t).rn k
 |_,.Mk _ n z f=>(aX7 n z).bind fun t=>(f t).rn k
 |_,.Z _ x=>x.rn k
 |_,.G b x y f=>(bif b then x.rn k else y.rn k).bind fun t=>(f t).rn k
 |_,.J0 _ _ x f=>(x.rn k).bind fun t=>(f t).rn k
 |_,.J _ _ _ x f g=>(x.rn k).bind fun t=>match t with| .inl t=>(f t).rn k| .inr t=>(g t).rn k
 |_,.JF _ _ x i=>(x.rn k).bind (aC9 i)
 |_,.L _ _ _ x s f g=>(dv8 (fun s=>(x s).rn k) k s).bind fun t=>match t with| .inl t=>(f t).rn k| .inr t=>(g t).rn k
 |_,.LQ _ _ _ _ x s f g=>(dv8 (fun s=>(x s).rn k) k (0,s)).bind fun t=>match t with| .inl t=>(f t).rn k| .inr t=>(g t).rn k
 |_,.A _ l i f=>(C9 l i).bind fun t=>(f t).rn k
 |_,.B x=>x.rn k
 |_,.D _ _ x=>x.rn k
 |_,.Sp b x y=>bif b then x.rn k else y.rn k
 |_,.Nl _ l _ y=>(y l).rn k
 |_,.Mm _ x=>x.rn k
 |_,.Pn _ x=>x.rn k
 |_,.Ml _ _ _ x=>x.rn k
 |_,.Mu _ _ _ _ x=>x.rn k
theorem aY7 {α β:Type}{a a':Option α}{f g:α->Option β}{r:β}(ha:∀x,a=some x->a'=some x)(hf:∀x r,f x=some r->g x=some r)(h:a.bind f=some r):a'.bind g=some r:=by
 cases a with
 |none=>cases h
 |some x=>rw[ha x rfl];exact hf x r h
theorem M.le {P:Program}{ρ:Type}(k:Nat):∀{τ:Type} (x:M P ρ τ) (r:τ),x.rn k=some r->x.run=some r
 |_,.R v,r,h=>h
 |_,.N,r,h=>h
 |_,.I b x y,r,h=>by
  cases b
  ·exact M.le k y r h
  ·exact M.le k x r h
 |_,.K c f,r,h=>aY7 (fun y hy=>c.le k y hy) (fun y r hy=>M.le k (f y) r hy) h
 |_,.KG c _ f,r,h=>aY7 (fun y hy=>c.le k y hy) (fun y r hy=>M.le k (f y) r hy) h
 |_,.O l f,r,h=>aY7 (fun y hy=>hy) (fun y r hy=>M.le k (f y) r hy) h
 |_,.W _ x,r,h=>M.le k x r h
 |_,.U l f,r,h=>aY7 (fun y hy=>hy) (fun y r hy=>M.le k (f y) r hy) h
 |_,.Mk _ _ _ f,r,h=>aY7 (fun y hy=>hy) (fun y r hy=>M.le k (f y) r hy) h
 |_,.Z _ x,r,h=>M.le k x r h
 |_,.G b x y f,r,h=>aY7 (fun z hz=>by
   cases b
   ·exact M.le k y z hz
   ·exact M.le k x z hz) (fun y r hy=>M.le k (f y) r hy) h
 |_,.J0 _ _ x f,r,h=>aY7 (fun z hz=>M.le k x z hz) (fun y r hy=>M.le k (f y) r hy) h
 |_,.J _ _ _ x f g,r,h=>by
  rw[M.rn]at h
  rw[M.run]
  refine aY7 (fun z hz=>M.le k x z hz) (fun y r hy=>?_) h
  cases y with
  |inl y=>exact M.le k (f y) r hy
  |inr y=>exact M.le k (g y) r hy
 |_,.JF _ _ x i,r,h=>aY7 (fun z hz=>M.le k x z hz) (fun y r hy=>hy) h
 |_,.L _ _ _ x s f g,r,h=>by
  rw[M.rn]at h
  rw[M.run]
  refine aY7 (fun z hz=>aU4.2 (cQ4 (fun s f hf=>M.le k (x s) f hf) hz)) (fun y r hy=>?_) h
  cases y with
  |inl y=>exact M.le k (f y) r hy
  |inr y=>exact M.le k (g y) r hy
 |_,.LQ _ _ _ _ x s f g,r,h=>by
  rw[M.rn]at h
  rw[M.run]
  refine aY7 (fun z hz=>aU4.2 (cQ4 (fun s f hf=>M.le k (x s) f hf) hz)) (fun y r hy=>?_) h
  cases y with
  |inl y=>exact M.le k (f y) r hy
  |inr y=>exact M.le k (g y) r hy
 |_,.A _ _ _ f,r,h=>aY7 (fun y hy=>hy) (fun y r hy=>M.le k (f y) r hy) h
 |_,.B x,r,h=>M.le k x r h
 |_,.D _ _ x,r,h=>M.le k x r h
 |_,.Sp b x y,r,h=>by
  cases b
  ·exact M.le k y r h
  ·exact M.le k x r h
 |_,.Nl _ l _ y,r,h=>M.le k (y l) r h
 |_,.Mm _ x,r,h=>M.le k x r h
 |_,.Pn _ x,r,h=>M.le k x r h
 |_,.Ml _ _ _ x,r,h=>M.le k x r h
 |_,.Mu _ _ _ _ x,r,h=>M.le k x r h
def dl1 {ρ:Type}(Qf:ρ->St->Tr):Cg ρ->Out ρ->Tr
 | .S [] σ,.nx σ₁=>dA4 σ₁ σ
 | .S [] σ,.top r=>Qf r σ
 | .S (.c .ret::_) σ,.rt r=>Qf r σ
 | .S (.c .ret::_) σ,.top r=>Qf r σ
 | .X id σ,.ex id' σ₁=>bif bC1 id id' then dA4 σ₁ σ else .bad
 | .R r,.rt r'=>tq r r'
 | .R r,.top r'=>tq r r'
 |_,_=>.bad
def eC0 (all:List Oper)(tm:List (Nat×T))(ops:List Oper):Option (Nat×Bool×List Oper×Nat×List Oper):=match ops with
 |[]=>none
 |o::_=>match o.guard with
  |none=>none
  |some (j,_)=>match all[j]?with
   |none=>none
   |some oj=>match oj.dst with
    |none=>none
    |some d=>match look tm d,cut d ops with
     |some (.t (.v (.bool b))),some (g,q,_,r)=>some (d,b,g,q,r)
     |_,_=>none
def M.isJ {P:Program}{ρ:Type}:{τ:Type}->M P ρ τ->Bool
 |_,.J0 0 _ _ _=>true
 |_,.J 0 _ _ _ _ _=>true
 |_,.B _=>true
 |_,.Z _ x=>x.isJ
 |_,.Pn _ x=>x.isJ
 |_,.D _ _ x=>x.isJ
 |_,_=>false
def M.isD {P:Program}{ρ:Type}:{τ:Type}->M P ρ τ->Bool
 |_,.Z _ x=>x.isD
 |_,.Pn _ _=>true
 |_,.D _ _ _=>true
 |_,.J0 (_+1) _ _ _=>true
 |_,_=>false
def dL5:List Nat->List Nat->List (Nat×Nat)
 |x::l,y::l'=>(x,y)::dL5 l l'
 |_,_=>[]
def M.chk {P:Program}{ρ:Type}(Ev:EqV P)(C2:Tab)(nt:Nat)(Qf:ρ->St->Tr):{τ:Type}->M P ρ τ->List GF->Cg ρ->(τ->Out ρ)->Tr
 |_,.R v,_,c,o=>dl1 Qf (av C2 nt true true fuel c) (o v)
 |_,.N,_,_,_=>.ok
 |_,.I b x y,Γ,c,o=>match av C2 nt true true fuel c with
  | .S (.c (.cond q z w)::ks) σ=>match val σ.tm q with
   |some (.t (.v (.bool b')))=>.and (tq b' b) (.and (x.chk Ev C2 nt Qf Γ (.S (.c z::ks) σ) o) (y.chk Ev C2 nt Qf Γ (.S (.c w::ks) σ) o))
   |_=>.bad
  |_=>.bad
 |_,.K f x,Γ,c,o=>match here (av C2 nt true true fuel c)with
  |some (all,kb,q,tm,hp,_,nx)=>match gk all.toList kb tm q.guard,cM5 tm hp q with
   |some true,some (n,l,s,d)=>bif bo8 d nt then
     .and (tq (n,l) (f.n,f.args)) (.and (bif s then tq (α:=_->Bool) (fun t=>scalar (f.res t)) (fun _=>true)else .ok) (.all fun t=>(x t).chk Ev C2 nt Qf Γ (nx (f.res t) none) o))
    else .bad
   |_,_=>.bad
  |none=>.bad
 |_,.KG f nm x,Γ,c,o=>match av C2 nt true true fuel c with
  | .O all kb (q::r) ks ⟨tm,hp⟩=>match gk all.toList kb tm q.guard,bC0 tm q,q.dst with
   |some true,some (n,targs),some d=>match dP3 f.args f.hp targs hp with
    |lm=>match bT0 lm f.args,aR7 lm f.hp with
     |some am2,some aN6=>bif bC1 n f.n&&bo8 d nt&&bo0 lm (dL5 f.nw nm) tm hp then
       .and (tq (bz9 targs am2) am2) (.and (tq (aN6.map (bD6 hp)) (aN6.map fun p=>some p.2)) (.all fun t=>match aM2 (lm++dL5 f.nw nm) (f.res t),aR7 (lm++dL5 f.nw nm) (f.Z2 t)with
        |some rt,some rh=>(x t).chk Ev C2 nt Qf Γ (.O all kb r ks ⟨(d,rt)::tm,rh++ap7 lm hp⟩) o
        |_,_=>.bad))
      else .bad
     |_,_=>.bad
   |_,_,_=>.bad
  | .D id all h bs ws ops vs tm0 hp0 fz kb ks=>match here (ρ:=ρ) (.D id all h bs ws ops vs tm0 hp0 fz kb ks)with
   |some (all,kb,q,tm,hp,_,nx)=>match gk all.toList kb tm q.guard,bC0 tm q,q.dst with
    |some true,some (n,targs),some d=>match nm with
     |[c]=>match f.hp,look hp c with
      |[],_=>match bT0 [] f.args with
       |some am2=>bif bC1 n f.n&&bo8 d nt&&bo8 c big then
         .and (tq (bz9 targs am2) am2) (.all fun t=>match f.Z2 t with
          |[(r1,.rows e2 sz2 n2 rs2)]=>match aM2 [(r1,c)] (f.res t)with
           |some rt=>(x t).chk Ev C2 nt Qf Γ (nx rt (some (c,.rows e2 sz2 n2 rs2))) o
           |none=>.bad
          |_=>.bad)
        else .bad
       |none=>.bad
      |[(b1,.rows e sz n1 rs)],some (.rv v' e' sz' n1' rs')=>bif bC1 n f.n&&bo8 d nt&&bo8 c big&&dx4 b1 f.args then
        .and (tq (bz9 targs (aY3 b1 (.t (.v v')) f.args)) (aY3 b1 (.t (.v v')) f.args)) (.and (tq (e,sz,n1,rs) (e',sz',n1',rs')) (.all fun t=>match f.Z2 t with
         |[(r1,.rows e2 sz2 n2 rs2)]=>match aM2 [(r1,c)] (f.res t)with
          |some rt=>(x t).chk Ev C2 nt Qf Γ (nx rt (some (c,.rows e2 sz2 n2 rs2))) o
          |none=>.bad
         |_=>.bad))
       else .bad
      |_,_=>.bad
     |_=>match dP3 f.args f.hp targs hp with
     |lm=>match bT0 lm f.args,aR7 lm f.hp with
      |some am2,some aN6=>bif bC1 n f.n&&bo8 d nt&&bo0 lm [] [] []&&lm.all (fun p=>(look aN6 p.2).isSome)then
        .and (tq (bz9 targs am2) am2) (.and (tq (aN6.map fun p=>look hp p.1) (aN6.map fun p=>some p.2)) (.all fun t=>.and (tq (f.Z2 t) f.hp) (match aM2 lm (f.res t)with
         |some rt=>(x t).chk Ev C2 nt Qf Γ (nx rt none) o
         |none=>.bad)))
       else .bad
      |_,_=>.bad
    |_,_,_=>.bad
   |none=>.bad
  |_=>.bad
 |_,.O l x,Γ,c,o=>match here (av C2 nt true true fuel c)with
  |some (all,kb,q,tm,hp,_,nx)=>match gk all.toList kb tm q.guard,l.q C2 tm hp q.op,q.dst with
   |some true,some (t,res),some d=>bif bo8 d nt then .and t (.all fun y=>(x y).chk Ev C2 nt Qf (l.k y Γ) (nx (res y) none) o)else .bad
   |_,_,_=>.bad
  |none=>.bad
 |_,.W u x,Γ,c,o=>match here (av C2 nt true true fuel c)with
  |some (all,kb,q,tm,hp,_,nx)=>match gk all.toList kb tm q.guard,u.q Ev C2 Γ tm hp q.op,q.dst with
   |some true,some (t,V),some d=>bif bo8 d nt then .and t (x.chk Ev C2 nt Qf Γ (nx V none) o)else .bad
   |_,_,_=>.bad
  |none=>.bad
 |_,.U u x,Γ,c,o=>match av C2 nt true true fuel c with
  | .O all kb (q::r) ks ⟨tm,hp⟩=>match gk all.toList kb tm q.guard,u.q C2 nt Γ tm hp q with
   |some true,some (t,σ)=>.and t (.all fun y=>(x y).chk Ev C2 nt Qf (u.k y Γ) (.O all kb r ks (σ y)) o)
   |_,_=>.bad
  | .D id all h bs ws ops vs tm0 hp0 fz kb ks=>match here (ρ:=ρ) (.D id all h bs ws ops vs tm0 hp0 fz kb ks)with
   |some (all,kb,q,tm,hp,_,nx)=>match gk all.toList kb tm q.guard,u.qD C2 nt Γ tm hp q with
    |some true,some (t,f)=>.and t (.all fun y=>(x y).chk Ev C2 nt Qf (u.k y Γ) (nx (f y).1 (f y).2) o)
    |_,_=>.bad
   |none=>.bad
  |_=>.bad
 |_,.Mk enc n z x,Γ,c,o=>match here (av C2 nt true true fuel c)with
  |some (all,kb,q,tm,hp,fz,nx)=>match gk all.toList kb tm q.guard,q.op,q.dst with
   |some true,.makeSlice t a b,some d=>match val tm a,val tm b,look C2 t with
    |some (.t (.v (.int k n'))),some (.t (.v (.int k2 n2))),some ⟨_,.slice e,_⟩=>match look C2 e with
     |some te=>bif bo8 d nt&&bC1 te.zero.length te.size&&bo8 0 te.size&&bo8 d big&&M7 d tm&&L8 d hp then
       .and (tq (n',k2,n2) (n,k,n)) (.and (tq (enc z) (te.zero.map fun v=>aD3 (.v v))) (.all fun y=>(x y).chk Ev C2 nt Qf Γ (bif aC5 d fz then nx (.t (.sl y.length (y.map enc))) none else nx (.own d) (some (d,.rows e te.size y.length (y.map enc)))) o))
      else .bad
     |none=>.bad
    |_,_,_=>.bad
   |_,_,_=>.bad
  |none=>.bad
 |_,.Z z x,Γ,c,o=>match av C2 nt (!x.isJ) (!x.isD) fuel c with
  | .S ks ⟨tm,hp⟩=>match z.ap tm hp with
   |some σ=>x.chk Ev C2 nt Qf Γ (.S ks σ) o
   |none=>.bad
  | .O all kb ops ks ⟨tm,hp⟩=>match z.ap tm hp with
   |some σ=>x.chk Ev C2 nt Qf Γ (.O all kb ops ks σ) o
   |none=>.bad
  | .X id ⟨tm,hp⟩=>match z.ap tm hp with
   |some σ=>x.chk Ev C2 nt Qf Γ (.X id σ) o
   |none=>.bad
  |_=>.bad
 |_,.G b x y f,Γ,c,o=>match av C2 nt true true fuel c with
  | .O all kb ops ks ⟨tm,hp⟩=>match eC0 all.toList tm ops with
   |some (d,b',g,q,r)=>.and (tq b' b) (.and (x.chk Ev C2 nt Qf Γ (.O all (d::kb) g [] ⟨(d,.t (.v (.bool true)))::tm,hp⟩) (fun v=>.nx ⟨(q,.t (.v (.bool v)))::rmv (d::q::aV4 g) tm,hp⟩))
     (.and (y.chk Ev C2 nt Qf Γ (.O all (d::kb) g [] ⟨(d,.t (.v (.bool false)))::tm,hp⟩) (fun v=>.nx ⟨(q,.t (.v (.bool v)))::rmv (d::q::aV4 g) tm,hp⟩))
     (.all fun v=>(f v).chk Ev C2 nt Qf Γ (.O all kb r ks ⟨(q,.t (.v (.bool v)))::rmv (d::q::aV4 g) tm,hp⟩) o)))
   |none=>.bad
  |_=>.bad
 |_,.J0 n s x f,Γ,c,o=>match(match n with|0=>av C2 nt false true fuel c|_=>av C2 nt true false fuel c)with
  | .S (.c z::ks) σ=>.and (x.chk Ev C2 nt Qf Γ (.S [.c z] σ) (fun v=>.nx (upd (s v) ⟨rmv (ai7 z) σ.tm,σ.hp⟩))) (.all fun v=>(f v).chk Ev C2 nt Qf Γ (.S ks (upd (s v) ⟨rmv (ai7 z) σ.tm,σ.hp⟩)) o)
  |_=>.bad
 |_,.J n s k x f g,Γ,c,o=>match(match n with|0=>av C2 nt false true fuel c|n=>av C2 nt true true n c)with
  | .S (.c z::ks) σ=>.and (x.chk Ev C2 nt Qf Γ (.S [.c z] σ) (fun v=>match v with| .inl v=>.nx (upd (s v) ⟨rmv (ai7 z) σ.tm,σ.hp⟩)| .inr w=>df0 ⟨rmv (ai7 z) σ.tm,σ.hp⟩ (k.sh w)))
    (.and (.all fun v=>(f v).chk Ev C2 nt Qf Γ (.S ks (upd (s v) ⟨rmv (ai7 z) σ.tm,σ.hp⟩)) o) (k.all fun w sh=>(g w).chk Ev C2 nt Qf Γ (cont ks ⟨rmv (ai7 z) σ.tm,σ.hp⟩ sh) o))
  |_=>.bad
 |_,.JF n s x i,Γ,c,o=>match av C2 nt true true n c with
  | .S (.c z::ks) σ=>bif noE ks then .and (x.chk Ev C2 nt Qf Γ (.S [.c z] σ) (fun v=>match v with| .next v=>.nx (upd (s v) ⟨rmv (ai7 z) σ.tm,σ.hp⟩)| .brk v=>eD7 (o (.inr (.inl v)))| .ret w=>eD7 (o (.inr (.inr w)))))
    (.all fun v=>dl1 Qf (av C2 nt true true fuel (.S ks (upd (s v) ⟨rmv (ai7 z) σ.tm,σ.hp⟩))) (o (.inl (j7 (i+1),v))))else .bad
  |_=>.bad
 |_,.L hd nx k x s₀ f g,Γ,c,o=>match av C2 nt true true fuel c with
  | .S (.c (.loop z)::ks) σ=>.and (dA4 (upd (hd s₀) ⟨rmv (ai7 z) σ.tm,σ.hp⟩) σ)
    (.and (.all fun a=>(x a).chk Ev C2 nt Qf Γ (.S [.c z] (upd (hd a) ⟨rmv (ai7 z) σ.tm,σ.hp⟩)) (fun v=>match v with| .inl a'=>.nx (upd (hd a') ⟨rmv (ai7 z) σ.tm,σ.hp⟩)| .inr (.inl a')=>.ex nx (upd (hd a') ⟨rmv (ai7 z) σ.tm,σ.hp⟩)| .inr (.inr w)=>eq2 ⟨rmv (ai7 z) σ.tm,σ.hp⟩ (k.sh w)))
    (.and (.all fun a=>(f a).chk Ev C2 nt Qf Γ (cont ks ⟨rmv (ai7 z) σ.tm,σ.hp⟩ (.ex nx (hd a))) o) (k.all fun w sh=>(g w).chk Ev C2 nt Qf Γ (cont ks ⟨rmv (ai7 z) σ.tm,σ.hp⟩ sh) o)))
  |_=>.bad
 |_,.LQ ri hd nx k x s₀ f g,Γ,c,o=>match av C2 nt true true fuel c with
  | .S (.c (.loop z)::ks) σ=>.and (dA4 (upd (.t ri (.t (tI 0))::hd s₀) ⟨rmv (ai7 z) σ.tm,σ.hp⟩) σ)
    (.and (.all fun a=>(x a).chk Ev C2 nt Qf Γ (.S [.c z] (upd (.t ri (.t (tI a.1))::hd a.2) ⟨rmv (ai7 z) σ.tm,σ.hp⟩)) (fun v=>match v with| .inl a'=>.nx (upd (.t ri (.t (tI a'.1))::hd a'.2) ⟨rmv (ai7 z) σ.tm,σ.hp⟩)| .inr (.inl a')=>.ex nx (upd (hd a') ⟨rmv (ai7 z) σ.tm,σ.hp⟩)| .inr (.inr w)=>eq2 ⟨rmv (ai7 z) σ.tm,σ.hp⟩ (k.sh w)))
    (.and (.all fun a=>(f a).chk Ev C2 nt Qf Γ (cont ks ⟨rmv (ai7 z) σ.tm,σ.hp⟩ (.ex nx (hd a))) o) (k.all fun w sh=>(g w).chk Ev C2 nt Qf Γ (cont ks ⟨rmv (ai7 z) σ.tm,σ.hp⟩ sh) o)))
  |_=>.bad
 |_,.A enc l i f,Γ,c,o=>.all fun y=>(f y).chk Ev C2 nt Qf (⟨enc,l,i,y⟩::Γ) c o
 |_,.B x,Γ,c,o=>match av C2 nt false true fuel c with
  | .S (.c (.block id z)::ks) σ=>x.chk Ev C2 nt Qf Γ (.S (.c z:: .e id::ks) σ) o
  |_=>.bad
 |_,.D fz ws x,Γ,c,o=>match av C2 nt (!x.isJ) false fuel c with
  | .S (.c (.region id ops true)::ks) σ=>x.chk Ev C2 nt Qf Γ (.D id ops (tlH (bl0 ops.toList []) 0) (bl0 ops.toList []) (dw5 fz 0 (ops.toList.take (tlH (bl0 ops.toList []) 0))++ws) ops.toList [] (rmv (aV4 (ops.toList.take (tlH (bl0 ops.toList []) 0))) σ.tm) σ.hp fz [] ks) o
  |_=>.bad
 |_,.Sp b x y,Γ,c,o=>match av C2 nt true true fuel c with
  | .D id all h bs ws (q::r) vs tm0 hp0 fz kb ks=>match eT4 q vs with
   |some (j,b')=>.and (tq b' b) (.and (x.chk Ev C2 nt Qf Γ (.D id all h bs ws (q::r) (dK0 (.t (.v (.bool true))) j vs) tm0 hp0 fz (kbD all j kb) ks) o) (y.chk Ev C2 nt Qf Γ (.D id all h bs ws (q::r) (dK0 (.t (.v (.bool false))) j vs) tm0 hp0 fz (kbD all j kb) ks) o))
   |none=>.bad
  | .O all kb (q::r) ks ⟨tm,hp⟩=>match eT3 all.toList tm q with
   |some (d,b')=>.and (tq b' b) (.and (x.chk Ev C2 nt Qf Γ (.O all (d::kb) (q::r) ks ⟨(d,.t (.v (.bool true)))::tm,hp⟩) o) (y.chk Ev C2 nt Qf Γ (.O all (d::kb) (q::r) ks ⟨(d,.t (.v (.bool false)))::tm,hp⟩) o))
   |none=>.bad
  |_=>.bad
 |_,.Nl enc l x y,Γ,c,o=>match av C2 nt true true fuel c with
  | .O all kb (q::r) ks ⟨tm,hp⟩=>match gk all.toList kb tm q.guard,q.op,q.dst with
   |some true,.binOp .eql t z (.const (.slice none 0 0)) _,some d=>match look C2 t,val tm z with
    |some ⟨_,.slice _,_⟩,some (.t (.sl _ rs))=>bif bo8 d nt then
      .and (tq rs (l.map enc)) (.and (tq x.run (y []).run) (.and (x.chk Ev C2 nt Qf Γ (.O all kb r ks ⟨(d,.t (.v (.bool true)))::tm,hp⟩) o) ((y l).chk Ev C2 nt Qf Γ (.O all kb r ks ⟨(d,.t (.v (.bool false)))::tm,hp⟩) o)))
     else .bad
    |_,_=>.bad
   |_,_,_=>.bad
  |_=>.bad
 |_,.Pn id x,Γ,c,o=>match av C2 nt (!x.isJ) false fuel c with
  | .S ks ⟨tm,hp⟩=>match look hp id with
   |some (.rows e sz n rs)=>.all fun v:Value=>x.chk Ev C2 nt Qf Γ (.S ks ⟨cp6 id (.t (.v v)) tm,(id,.rv v e sz n rs)::bm8 id (.t (.v v)) hp⟩) o
   |_=>.bad
  |_=>.bad
 |_,.Mm id x,Γ,c,o=>match av C2 nt true true fuel c with
  | .O all kb (q::r) ks ⟨tm,hp⟩=>match gk all.toList kb tm q.guard,q.op,q.dst with
   |some true,.makeMap _ none,some d=>bif bo8 d nt&&(bo8 id big&&(M7 id tm&&L8 id hp))then x.chk Ev C2 nt Qf Γ (.O all kb r ks ⟨(d,.own id)::tm,(id,.mp [])::hp⟩) o else .bad
   |_,_,_=>.bad
  |_=>.bad
 |_,.Ml m l k x,Γ,c,o=>match av C2 nt true true fuel c with
  | .O all kb (q::r) ks ⟨tm,hp⟩=>match gk all.toList kb tm q.guard,q.op,q.dst with
   |some true,.lookup t a b false,some d=>match val tm a,val tm b with
    |some (.own id),some (.t (.v kv))=>match look hp id with
     |some (.mp es)=>bif bo8 d nt then .and (tq (t,es,kv) (m.t,l.map (ent m.f m.g),m.f k)) (x.chk Ev C2 nt Qf Γ (.O all kb r ks ⟨(d,.t (.v (m.g (@cQ5 _ _ m.beq m.z l k))))::tm,hp⟩) o)else .bad
     |_=>.bad
    |_,_=>.bad
   |_,_,_=>.bad
  |_=>.bad
 |_,.Mu m l k v x,Γ,c,o=>match av C2 nt true true fuel c with
  | .O all kb (q::r) ks ⟨tm,hp⟩=>match gk all.toList kb tm q.guard,q.op,q.dst with
   |some true,.mapUpdate t a b u,none=>match val tm a,val tm b,val tm u with
    |some (.own id),some (.t (.v kv)),some (.t (.v uv))=>match look hp id with
     |some (.mp es)=>.and (tq (t,es,kv,uv) (m.t,l.map (ent m.f m.g),m.f k,m.g v)) (x.chk Ev C2 nt Qf Γ (.O all kb r ks ⟨tm,at3 hp id (.mp ((@dl6 _ _ m.beq l k v).map (ent m.f m.g)))⟩) o)
     |_=>.bad
    |_,_,_=>.bad
   |_,_,_=>.bad
  |_=>.bad
abbrev M.Q {P:Program}{ρ α S γ τ:Type}(enc:α->List Tree)(l:List α)(n ri:Nat)(hd:S->List Ch)(ex:Nat)(k:Kd ρ γ)(x:Int->α->S->M P ρ (Fl S γ))(s:S)(f:S->M P ρ τ)(g:γ->M P ρ τ):M P ρ τ:=
 .LQ ri hd ex k (fun p=>.I (decide (p.1<l.length)) (.A enc l p.1 fun e=>.JF n hd (x p.1 e p.2) p.1) (.R (.inr (.inl p.2)))) s f g
abbrev M.QN {P:Program}{ρ S γ τ:Type}(m:Int)(n ri:Nat)(hd:S->List Ch)(ex:Nat)(k:Kd ρ γ)(x:Int->S->M P ρ (Fl S γ))(s:S)(f:S->M P ρ τ)(g:γ->M P ρ τ):M P ρ τ:=
 .LQ ri hd ex k (fun p=>.I (decide (p.1<m)) (.JF n hd (x p.1 p.2) p.1) (.R (.inr (.inl p.2)))) s f g
theorem eD3 (t:T):mrg t .any= .any:=by cases t<;>simp only[mrg]
theorem dP6 (id:Nat):∀(l:List T),bz9 l (fgL id l)=fgL id l
 |[]=>by simp only[bz9,fgL]
 |x::l=>by
  simp only[fgL,bz9,dP6 id l]
  cases names id x<;>simp only[fi0,fh8,eD3,cn1]
theorem eD4 (id:Nat)(b:G0):cn0 b (fgB id b)=fgB id b:=by
 cases b<;>simp only[fgB,cn0,dP6]
theorem bU2:∀{l₁ l:List (Nat×T)},(∀k t,(k,t)∈l₁->∃t',look l k=some t'/\mrg t' t=t)->eu8 l₁ l
 |[],_,_=>trivial
 |(k,t)::r,l,h=>⟨h k t (bN8 ..),bU2 fun k t hm=>h k t (bZ9 _ hm)⟩
theorem bU1:∀{l₁ l:List (Nat×G0)},(∀k t,(k,t)∈l₁->∃t',look l k=some t'/\cn0 t' t=t)->eu7 l₁ l
 |[],_,_=>trivial
 |(k,t)::r,l,h=>⟨h k t (bN8 ..),bU1 fun k t hm=>h k t (bZ9 _ hm)⟩
theorem cI2:∀{tm:List (Nat×T)}{ds:List Nat}{k:Nat}{t:T},(k,t)∈rmv ds tm->aC5 k ds=false/\look tm k=some t
 |[],_,_,_,h=>by cases h
 |(j,x)::r,ds,k,t,h=>by
  unfold rmv at h
  cases hj:aC5 j ds<;>rw[hj]at h<;>simp only[fi0,fh8]at h
  ·rcases cq9.1 h with h|h
   ·cases h;exact⟨hj,by simp[look]⟩
   ·obtain⟨h1,h2⟩:=cI2 h
    obtain⟨h3,h4⟩:=bq8.1 h1
    exact⟨h4,by rw[H9 h3];exact h2⟩
  ·obtain⟨h1,h2⟩:=cI2 h
   have hjk:j≠k:=fun e=>by subst e;rw[hj]at h1;cases h1
   exact⟨h1,by rw[H9 hjk];exact h2⟩
theorem dj8 {id:Nat}:∀{tm:List (Nat×T)}{k:Nat}{t:T},(k,t)∈fgT id tm->(k,t)∈tm
 |[],_,_,h=>by cases h
 |(j,x)::r,k,t,h=>by
  unfold fgT at h
  cases hj:names id x<;>rw[hj]at h<;>simp only[fi0,fh8]at h
  ·rcases cq9.1 h with h|h
   ·cases h;exact bN8 ..
   ·exact bZ9 _ (dj8 h)
  ·exact bZ9 _ (dj8 h)
theorem dn0 {h:List (Nat×Nat)}:∀{tm:List (Nat×T)}{k:Nat}{t:T},(k,t)∈rdT h tm->(k,t)∈tm
 |[],_,_,hm=>by cases hm
 |(j,x)::r,k,t,hm=>by
  unfold rdT at hm
  split at hm
  ·rcases cq9.1 hm with hm|hm
   ·cases hm;exact bN8 ..
   ·exact bZ9 _ (dn0 hm)
  ·exact bZ9 _ (dn0 hm)
theorem cV2:∀{h:List (Nat×G0)}{k:Nat}{b:G0},uniq h=true->(k,b)∈h->look h k=some b
 |[],_,_,_,h=>by cases h
 |(j,c)::r,k,b,hu,hm=>by
  simp only[uniq,aI9,Option.isNone_iff_eq_none]at hu
  rcases cq9.1 hm with e|hm
  ·cases e;simp[look]
  ·have:=cV2 hu.2 hm
   have hne:j≠k:=fun e=>by subst e;rw[hu.1]at this;cases this
   rw[H9 hne];exact this
theorem dj7 {id:Nat}:∀{h:List (Nat×G0)}{k:Nat}{c:G0},(k,c)∈fgH id h->∃b,(k,b)∈h/\c=fgB id b
 |[],_,_,h=>by cases h
 |(j,x)::r,k,c,h=>by
  unfold fgH at h
  cases hj:bC1 j id<;>rw[hj]at h<;>simp only[fi0,fh8]at h
  ·rcases cq9.1 h with h|h
   ·cases h;exact⟨x,bN8 ..,rfl⟩
   ·obtain⟨b,h1,h2⟩:=dj7 h
    exact⟨b,bZ9 _ h1,h2⟩
  ·obtain⟨b,h1,h2⟩:=dj7 h
   exact⟨b,bZ9 _ h1,h2⟩
theorem dj9 {id:Nat}{tm:List (Nat×T)}{hp:List (Nat×G0)}(hu:uniq hp=true):Sub ⟨fgT id (rmv [] tm),fgH id hp⟩ ⟨tm,hp⟩:=
 ⟨bU2 fun k t hm=>⟨t,(cI2 (dj8 hm)).2,cn1 t⟩,bU1 fun k t hm=>by
  obtain⟨b,h1,rfl⟩:=dj7 hm
  exact⟨b,cV2 hu h1,eD4 id b⟩⟩
def bf5 {ρf ρ:Type}(X:Cx)(Qf:ρf->St->Prop)(c:Cg ρf)(m:Option ρ)(Q:ρ->Exit->St->Prop):Prop:=match c with
 | .S ks σ=>D9 X ks σ m Q
 | .O all _ ops ks σ=>B3 X all ops ks σ m Q
 | .D id all _ bs ws ops vs tm0 hp0 _ _ ks=>ops=all.toList.drop vs.length->bs=bl0 all.toList []->cr3 X all bs ws tm0 hp0 vs->D9 X (.c (.region id all true)::ks) ⟨tm0,hp0⟩ m Q
 | .X id σ=>aa5 X [] (.exit id) σ m Q
 | .R r=>∀v,m=some v->∀σ',Qf r σ'->Q v .ret σ'
section
variable {ρ τ β:Type} {X:Cx} {Qp:ρ -> St -> Prop} {m:Option τ} {Q:τ -> Exit -> St -> Prop}
theorem bf5.pre {c:Cg ρ}{m₁:Option β}{k:β->Option τ}(h:∀y,m₁=some y->bf5 X Qp c (k y) Q):bf5 X Qp c (m₁.bind k) Q:=by
 cases hm:m₁ with
 |some y=>exact h y hm
 |none=>
  cases c with
  |S ks σ=>exact D9.fail
  |O all kb ops ks σ=>exact B3.fail
  |D=>exact fun _ _ _=>D9.fail
  |X id σ=>exact fun r hr=>by cases hr
  |R r=>exact fun v hv=>by cases hv
theorem cr3.snoc {all:Array Oper}{bs:List (List Nat)}{ws:List (Nat×Nat)}{tm0:List (Nat×T)}{hp0:List (Nat×G0)}{vs:List (T×Option (Nat×G0))}{V:T}{N:Option (Nat×G0)}{o:Oper}{b:List Nat}(h:cr3 X all bs ws tm0 hp0 vs)(ho:all.toList[vs.length]? =some o)(hb:bs[vs.length]? =some b)
  (hs:ah9 X all o (minOf all.toList (vs.map (·.1)) tm0 (aX5 o)) (dY4 bs ws vs hp0 vs.length b) V N):cr3 X all bs ws tm0 hp0 (vs++[(V,N)]):=by
 intro i V' N' o' b' hi ho' hb'
 rw[List.getElem?_append]at hi
 split at hi
 ·rename_i hlt
  have:=h i V' N' o' b' hi ho' hb'
  rw[List.take_append_of_le_length (by omega)]
  exact this
 ·rename_i hge
  have hi0:i-vs.length=0:=by
   rcases dR2 (i-vs.length)with h0|h0
   ·exact h0
   ·rw[ed5 (Nat.succ_le_of_lt h0)]at hi;cases hi
  have hil:i=vs.length:=by omega
  subst hil
  rw[hi0]at hi
  simp only[cY9,aH6,aZ6]at hi
  obtain⟨rfl,rfl⟩:=hi
  rw[ho]at ho';cases ho'
  rw[hb]at hb';cases hb'
  rw[List.take_left' rfl]
  exact hs
theorem cO5 {C2:Tab}{tm:List (Nat×T)}{hp:List (Nat×G0)}{o:Oper}{t:T}{σ':St}(hi:aR2 o.op=true)(he:evalOp C2 ⟨tm,hp⟩ o=some (t,σ')):
  ∃d b,o.dst=some d/\σ'=⟨tm,(d,b)::hp⟩/\((∃ts,b= .box ts)\/t= .own d):=by
 rw[aT6]at he
 obtain⟨dst,op,type,pos,aft,guard⟩:=o
 cases op<;>simp only[aR2,reduceCtorEq]at hi<;>simp only[bj9]at he
 case alloc e=>
  cases dst with
  |none=>simp at he
  |some d=>
   cases hti:look C2 e with
   |none=>simp[hti]at he
   |some ti=>
    simp only[hti]at he
    revert he
    cases(bo8 d big&&M7 d tm&&L8 d hp&&ti.zero.all Value.oneCell')<;>intro he<;>simp only[fi0,fh8,reduceCtorEq,aH6,aZ6]at he
    exact⟨d,_,rfl,he.2.symm,.inl ⟨_,rfl⟩⟩
 case box e x=>
  cases dst with
  |none=>simp at he
  |some d=>
   cases hl:(val tm x).bind (ap3 hp)with
   |none=>simp[hl]at he
   |some l=>
    simp only[hl]at he
    revert he
    cases(bo8 d big&&M7 d tm&&L8 d hp)<;>intro he<;>simp only[fi0,fh8,reduceCtorEq,aH6,aZ6]at he
    exact⟨d,_,rfl,he.2.symm,.inl ⟨_,rfl⟩⟩
 case buildSlice ty n parts=>
  cases dst with
  |none=>simp at he
  |some d=>
   split at he<;>try(cases he;done)
   rename_i d' s0 e z0 hd' hti
   simp only[aH6]at hd'
   subst hd'
   split at he<;>try(cases he;done)
   rename_i te hte
   split at he<;>try(cases he;done)
   rename_i l hl
   split at he<;>try(cases he;done)
   rename_i r hr
   revert he
   cases(bo8 d big&&M7 d tm&&L8 d hp&&bC1 r.length (n*te.size)&&dQ2 (n*te.size) 1000000&&bC1 te.zero.length te.size&&bo8 0 te.size)<;>intro he<;>simp only[fi0,fh8,reduceCtorEq,aH6,aZ6]at he
   exact⟨d,_,rfl,he.2.symm,.inr he.1.symm⟩
 case makeSlice ty x y=>cases he
theorem eR8 {all:Array Oper}{bs:List (List Nat)}{ws:List (Nat×Nat)}{o:Oper}{vs:List (T×Option (Nat×G0))}{tm0:List (Nat×T)}{hp0:List (Nat×G0)}{fz kb:List Nat}{V:T}{N:Option (Nat×G0)}(h:stD X.C2 all.toList bs ws o vs tm0 hp0 fz kb=some (V,N)):
  ∃b,bs[vs.length]? =some b/\ah9 X all o (minOf all.toList (vs.map (·.1)) tm0 (aX5 o)) (dY4 bs ws vs hp0 vs.length b) V N:=by
 unfold stD at h
 split at h<;>try(cases h;done)
 rename_i b hb
 refine⟨b,hb,?_⟩
 dsimp only at h
 split at h<;>try(cases h;done)
 ·rename_i hg
  simp only[aH6,aZ6]at h
  obtain⟨rfl,rfl⟩:=h
  exact .skip hg
 ·rename_i hg
  cases hp:dX2 o.op<;>rw[hp]at h<;>simp only[fi0,fh8]at h
  ·cases hn:aR2 o.op<;>rw[hn]at h<;>simp only[fi0,fh8,reduceCtorEq]at h
   ·split at h<;>try(cases h;done)
    rename_i t x y ho
    split at h<;>try(cases h;done)
    rename_i id off ti l hx hti hy
    split at h<;>try(cases h;done)
    rename_i ts hbx
    cases hc:(bC1 l.length ti.size&&dQ2 (off+l.length) ts.length)<;>rw[hc]at h<;>simp only[fi0,fh8,reduceCtorEq,aH6,aZ6]at h
    obtain⟨rfl,rfl⟩:=h
    exact .store hg ho hx hti hy hbx hc
   split at h<;>try(cases h;done)
   rename_i V' tm' d' N' Z2 d he hd
   obtain⟨d2,b2,e1,e2,e3⟩:=cO5 (C2:=X.C2) hn he
   rw[hd]at e1
   cases e1
   simp only[St.mk.injEq,eU4,aZ6]at e2
   obtain⟨rfl,⟨rfl,rfl⟩,rfl⟩:=e2
   have hs:=ah9.new (X:=X) hg hn hd he
   cases hz:aC5 d' fz<;>rw[hz]at h<;>simp only[fi0,fh8]at h
   ·simp only[aH6,aZ6]at h
    obtain⟨rfl,rfl⟩:=h
    exact hs
   ·split at h<;>try(cases h;done)
    rename_i e sz n rs
    simp only[aH6,aZ6]at h
    obtain⟨rfl,rfl⟩:=h
    rcases e3 with⟨ts,e3⟩|rfl
    ·cases e3
    ·exact hs.frz hn hd
  ·have hp:=dd9 hp
   split at h<;>try(cases h;done)
   rename_i V' σ' he
   simp only[aH6,aZ6]at h
   obtain⟨rfl,rfl⟩:=h
   have:=cA2 (C2:=X.C2) hp he
   subst this
   exact .pure hg hp he
theorem aK2 (hmx:X.P.follows .mixedOrders=true)(hQ:∀r l σ,¬Q r (.goto l) σ)(eb ed:Bool):∀(n:Nat) (c:Cg ρ),bf5 X Qp (av X.C2 X.nt eb ed n c) m Q->bf5 X Qp c m Q:=by
 intro n
 induction n with
 |zero=>intro c h;exact h
 |succ n ih=>
  intro c h
  unfold av at h
  split at h
  ·split at h
   ·exact D9.seq (ih _ h)
   ·exact D9.skip (ih _ h)
   ·exact D9.label (ih _ h)
   ·exact D9.scope hQ (ih _ h)
   ·cases eb<;>simp only[fi0,fh8]at h
    ·exact h
    ·exact D9.block (ih _ h)
   ·split at h
    ·exact D9.region (ih _ h)
    ·cases ed<;>simp only[fi0,fh8]at h
     ·exact h
     ·rename_i ks σ _ id ops _
      have:=ih _ h (by simp) rfl (fun i V N o b hi=>by simp at hi)
      exact fun r hr a w hw=>this r hr a w (hw.bL6 (fun k t hk=>(cm2 hk).2) (fun k b hk=>hk))
   ·split at h
    ·rename_i hp;exact D9.exit hp (ih _ h)
    ·rename_i hp;exact D9.out hp h
   ·exact h
  ·exact D9.eX7 (ih _ h)
  ·exact B3.nil (ih _ h)
  ·split at h
   ·rename_i he;exact eR9 he (ih _ h)
   ·exact h
  ·rename_i id all h0 bs ws ops vs tm0 hp0 fz kb ks
   cases hb:bC1 vs.length h0<;>rw[hb]at h<;>simp only[fi0,fh8]at h
   ·split at h
    ·exact h
    ·rename_i o r
     split at h
     ·rename_i x hx
      intro cX8 hbs hst
      have ho:all.toList[vs.length]? =some o:=by rw[<-eG8,<-cX8];rfl
      obtain⟨V,N⟩:=x
      obtain⟨b,hbb,hs⟩:=eR8 hx
      exact ih _ h (by rw[aZ7,<-ex8,<-cX8];rfl) hbs (hst.snoc ho hbb hs)
     ·exact h
   ·cases hd:ez9 X.nt all.toList h0 ws tm0 hp0 vs<;>rw[hd]at h<;>simp only[fi0,fh8]at h
    ·exact h
    ·intro cX8 hbs hst
     have:=bs6 hb
     subst this cX8 hbs
     exact D9.ff2 hmx hd hst fun r hr a w hw=>ih _ h r hr a w (hw.bL6 (fun _ _ h=>h) (fun k b hk=>by rw[cQ2]at hk;exact hk))
  ·exact h
theorem ch4.old {o:Oper}{tm:List (Nat×T)}{hp:List (Nat×G0)}(h:aR2 o.op=false):ch4 o none tm hp:=⟨fun h'=>(by rw[h]at h';cases h'),fun id h'=>(by rw[dT7]at h';cases h')⟩
theorem bI2 {id0 h00:Nat}{dT1 all:Array Oper}{bs0:List (List Nat)}{ws0:List (Nat×Nat)}{ops0:List Oper}{Y7:List (T×Option (Nat×G0))}{tm00:List (Nat×T)}{hp00:List (Nat×G0)}{fz0 kb0 kb fz:List Nat}{ks0:List K}{q:Oper}{tm:List (Nat×T)}{hp:List (Nat×G0)}{nx:T->Option (Nat×G0)->Cg ρ}{V:T}{N:Option (Nat×G0)}
  (h:here (.D id0 dT1 h00 bs0 ws0 ops0 Y7 tm00 hp00 fz0 kb0 ks0:Cg ρ)=some (all,kb,q,tm,hp,fz,nx)) (hs:ah9 X all q tm hp V N) (hk:bf5 X Qp (nx V N) m Q):bf5 X Qp (.D id0 dT1 h00 bs0 ws0 ops0 Y7 tm00 hp00 fz0 kb0 ks0) m Q:=by
 cases ops0 with
 |nil=>simp[here]at h
 |cons q0 r=>
  simp only[here]at h
  split at h<;>try(cases h;done)
  rename_i b hb
  simp only[aH6,aZ6]at h
  obtain⟨rfl,rfl,rfl,rfl,rfl,rfl,rfl⟩:=h
  intro cX8 hbs hst
  have ho:dT1.toList[Y7.length]? =some q0:=by rw[<-eG8,<-cX8];rfl
  exact hk (by rw[aZ7,<-ex8,<-cX8];rfl) hbs (hst.snoc ho hb hs)
theorem bD3 {c:Cg ρ}{all:Array Oper}{kb fz:List Nat}{q:Oper}{tm:List (Nat×T)}{hp:List (Nat×G0)}{nx:T->Option (Nat×G0)->Cg ρ}{V:T}{N:Option (Nat×G0)}(h:here c=some (all,kb,q,tm,hp,fz,nx))(hs:ah9 X all q tm hp V N)
  (hd:∀d,q.dst=some d->bo8 d X.nt=true) (hf:ch4 q N tm hp) (hk:bf5 X Qp (nx V N) m Q):bf5 X Qp c m Q:=by
 unfold here at h
 split at h<;>try(cases h;done)
 ·simp only[aH6,aZ6]at h
  obtain⟨rfl,rfl,rfl,rfl,rfl,rfl,rfl⟩:=h
  intro r hr a w hw
  exact wpList_step fun K hK=>hs _ _ (fun _ _ h=>h) (fun _ _ h=>h) hf hd a w hw K _ fun a' w' hs'=>hK _ _ (hk r hr _ _ hs')
 ·rename_i id dT1 h0 bs ws q0 r vs tm0 hp0 fz0 kb0 ks
  split at h<;>try(cases h;done)
  rename_i b hb
  simp only[aH6,aZ6]at h
  obtain⟨rfl,rfl,rfl,rfl,rfl,rfl,rfl⟩:=h
  intro cX8 hbs hst
  have ho:dT1.toList[vs.length]? =some q0:=by rw[<-eG8,<-cX8];rfl
  exact hk (by rw[aZ7,<-ex8,<-cX8];rfl) hbs (hst.snoc ho hb hs)
theorem Z1.eg0 {z:Z1}{tm:List (Nat×T)}{hp:List (Nat×G0)}{σ:St}{ks:List K}{e:Exit}(h:z.ap tm hp=some σ)(k:aa5 X ks e σ m Q):aa5 X ks e ⟨tm,hp⟩ m Q:=by
 cases z with
 |fr id=>
  simp only[Z1.ap]at h
  split at h<;>try(cases h;done)
  rename_i hb
  simp only[aH6]at h;subst h
  exact aa5.frz id hb k
 |fb id=>
  simp only[Z1.ap]at h
  split at h<;>try(cases h;done)
  rename_i hb
  split at h<;>try(cases h;done)
  rename_i hc
  simp only[aH6]at h;subst h
  exact aa5.dG6 id hb hc k
 |np j id e' sz path=>
  simp only[Z1.ap]at h
  split at h<;>try(cases h;done)
  rename_i hk
  split at h<;>try(cases h;done)
  rename_i hu
  cases hb:(bo8 id big&&(M7 id tm&&L8 id hp))<;>rw[hb]at h<;>simp only[fi0,fh8,reduceCtorEq,aH6]at h
  subst h
  simp only[aI9]at hb
  exact aa5.eD6 j id e' sz path hk hu hb.1 hb.2.1 hb.2.2 k
 |nb b id e' sz path=>
  simp only[Z1.ap]at h
  split at h<;>try(cases h;done)
  rename_i hk
  split at h<;>try(cases h;done)
  rename_i hu
  cases hb:(bo8 id big&&(M7 id tm&&L8 id hp))<;>rw[hb]at h<;>simp only[fi0,fh8,reduceCtorEq,aH6]at h
  subst h
  simp only[aI9]at hb
  exact aa5.fg0 b id e' sz path hk hu hb.1 hb.2.1 hb.2.2 k
 |rn l=>
  simp only[Z1.ap]at h
  cases hb:(uniq hp&&cC1 (l++idn l hp))<;>rw[hb]at h<;>simp only[fi0,fh8,reduceCtorEq]at h
  rw[aI9]at hb
  split at h<;>try(cases h;done)
  rename_i h1 h2
  simp only[aH6]at h;subst h
  exact aa5.sub (σ':=⟨rdT (l++idn l hp) (rmv [] tm),hp⟩) ⟨bU2 fun k t hm=>⟨t,(cI2 (dn0 hm)).2,cn1 t⟩,bU1 fun k b hm=>⟨b,cV2 hb.1 hm,de5 b⟩⟩ (aa5.ren _ hb.2 h1 h2 k)
 |dr id=>
  simp only[Z1.ap]at h
  cases hb:uniq hp<;>rw[hb]at h<;>simp only[fi0,fh8,reduceCtorEq,aH6]at h
  subst h
  exact aa5.sub (dj9 hb) k
theorem ah9.mk {α:Type}{all:Array Oper}{kb:List Nat}{o:Oper}{T9:List (Nat×T)}{an3:List (Nat×G0)}{t e d s0:Nat}{z0:List Value}{te:TI}{x y:Operand}{k1 k2:IntKind}{n:Int}{enc:α->List Tree}{z:α}{l:List α}(hl:aX7 n z=some l)
  (ho:o.op= .makeSlice t x y) (hd:o.dst=some d) (hg:gk all.toList kb T9 o.guard=some true) (hx:val T9 x=some (.t (.v (.int k1 n)))) (hy:val T9 y=some (.t (.v (.int k2 n))))
  (hty:look X.C2 t=some ⟨s0,.slice e,z0⟩) (hte:look X.C2 e=some te) (hz:te.zero.length=te.size) (bI3:bo8 0 te.size=true) (ay5:enc z=te.zero.map fun v=>aD3 (.v v)) (aL5:bo8 d big=true):
  ah9 X all o T9 an3 (.own d) (some (d,.rows e te.size l.length (l.map enc))):=by
 intro tm hp hm hh hf hd' a w ⟨S,E,hk⟩ K Q' hK
 unfold aX7 at hl
 split at hl<;>try(cases hl;done)
 rename_i hn
 simp only[aH6]at hl
 obtain⟨j,rfl⟩:∃j:Nat,n=(j:Int):=⟨n.toNat,by omega⟩
 simp only[Int.toNat_natCast]at hl
 obtain⟨dd,hu,ho2⟩:∃d,X.P.underlying t=some d/\TD.ok X.P (.slice e) d:=by
  obtain⟨i,d,_,_,hu,hdd,_⟩:=X.K0 t _ hty
  exact⟨d,hu,hdd⟩
 simp only[TD.ok]at ho2
 subst ho2
 have hfr:=hf.1 (by rw[ho];rfl) d hd
 rw[aI9]at hfr
 obtain⟨v',w',E',hr,hE,hok⟩:=hk.make (P:=X.P) (n:=j) (c:=enc z) aL5 hfr.1 hfr.2 hu (X.K0 e _ hte) hz (bo7 bI3) ay5 (by omega) k1 k2
 rw[S6 hk (as0 hm (aF1 hg)),if_pos rfl]
 unfold Oper.wp
 have aN4:(execOp a.eval o).run X.P w= .ok (.value v') w':=by
  unfold execOp
  simp only[ho,(hk.val (C7 hm hx)).tv,(hk.val (C7 hm hy)).tv,bq7,hr,bc2,bF1]
 rw[aN4]
 have e1:l.map enc=List.replicate j (enc z):=by rw[<-hl];simp
 have e2:l.length=j:=by rw[<-hl];simp
 refine hK (a.put o.dst v') w' ?_
 rw[e1,e2]
 simp only[be8,hd]
 rw[<-hd]
 exact Ok.pt hok (.own d v' hE) hd'
theorem cx6 {x:T}:∀{vs:List (T×Option (Nat×G0))}{j:Nat}{N:Option (Nat×G0)},vs[j]? =some (x,N)->dK0 x j vs=vs
 |[],j,N,h=>by simp at h
 |p::r,0,N,h=>by simp only[cY9,aH6]at h;subst h;rfl
 |p::r,j+1,N,h=>by rw[dK0,cx6 (by simpa using h)]
theorem eT5 {id h j:Nat}{all:Array Oper}{bs:List (List Nat)}{ws:List (Nat×Nat)}{q:Oper}{r:List Oper}{vs:List (T×Option (Nat×G0))}{tm0:List (Nat×T)}{hp0:List (Nat×G0)}{fz kb kb':List Nat}{ks:List K}{b:Bool}{m₁ m₂:Option τ}(ht:eT4 q vs=some (j,b))
  (h₁:bf5 X Qp (.D id all h bs ws (q::r) (dK0 (.t (.v (.bool true))) j vs) tm0 hp0 fz kb' ks:Cg ρ) m₁ Q) (h₂:bf5 X Qp (.D id all h bs ws (q::r) (dK0 (.t (.v (.bool false))) j vs) tm0 hp0 fz kb' ks:Cg ρ) m₂ Q):
  bf5 X Qp (.D id all h bs ws (q::r) vs tm0 hp0 fz kb ks:Cg ρ) (bif b then m₁ else m₂) Q:=by
 unfold eT4 at ht
 split at ht<;>try(cases ht;done)
 split at ht<;>try(cases ht;done)
 rename_i b0 hv
 simp only[aH6,aZ6]at ht
 obtain⟨e1,e2⟩:=ht
 subst e1 e2
 cases b0
 ·rw[cx6 hv]at h₂;exact h₂
 ·rw[cx6 hv]at h₁;exact h₁
theorem eG7 {d:Nat}{all:Array Oper}{kb kb':List Nat}{q:Oper}{r:List Oper}{tm:List (Nat×T)}{hp:List (Nat×G0)}{ks:List K}{b:Bool}{m₁ m₂:Option τ}(ht:eT3 all.toList tm q=some (d,b))
  (h₁:bf5 X Qp (.O all kb' (q::r) ks ⟨(d,.t (.v (.bool true)))::tm,hp⟩:Cg ρ) m₁ Q) (h₂:bf5 X Qp (.O all kb' (q::r) ks ⟨(d,.t (.v (.bool false)))::tm,hp⟩:Cg ρ) m₂ Q):
  bf5 X Qp (.O all kb (q::r) ks ⟨tm,hp⟩:Cg ρ) (bif b then m₁ else m₂) Q:=by
 have hl:look tm d=some (.t (.v (.bool b))):=by
  unfold eT3 at ht
  split at ht<;>try(cases ht;done)
  split at ht<;>try(cases ht;done)
  split at ht<;>try(cases ht;done)
  split at ht<;>try(cases ht;done)
  rename_i hv
  simp only[aH6,aZ6]at ht
  obtain⟨e1,e2⟩:=ht
  subst e1 e2
  exact hv
 cases b
 ·intro r hr a w hw
  exact h₂ r hr a w (hw.bL6 (fun k t hk=>by
   simp only[look]at hk
   by_cases hdk:d=k
   ·subst hdk;simp only[ca0,fi0,aH6]at hk;subst hk;exact hl
   ·simp only[C3 hdk,fh8]at hk;exact hk) (fun k b hk=>hk))
 ·intro r hr a w hw
  exact h₁ r hr a w (hw.bL6 (fun k t hk=>by
   simp only[look]at hk
   by_cases hdk:d=k
   ·subst hdk;simp only[ca0,fi0,aH6]at hk;subst hk;exact hl
   ·simp only[C3 hdk,fh8]at hk;exact hk) (fun k b hk=>hk))
end
theorem Out.never {ρ:Type}{Qf:ρ->St->Prop}{l:Nat}{σ:St}:∀(o:Out ρ),¬o.den Qf (.goto l) σ
 | .nx _,h=>by cases h.1
 | .ex _ _,h=>by cases h.1
 | .rt _,h=>by cases h.1
 | .top _,h=>by rcases h.1 with h|h<;>cases h
 | .no,h=>h
section
variable {P:Program} {ρ τ β:Type} {X:Cx} {Qf:ρ -> St -> Tr}
abbrev QfP (Qf:ρ->St->Tr):ρ->St->Prop:=fun r σ=>(Qf r σ).den
theorem dP2 {v:τ}{c:Cg ρ}{o:τ->Out ρ}(h:(dl1 Qf c (o v)).den):bf5 X (QfP Qf) c (some v) (fun v e σ'=>(o v).den (QfP Qf) e σ'):=by
 unfold dl1 at h
 split at h
 ·rename_i he;exact D9.leaf (by rw[he];exact⟨rfl,cp7 h⟩)
 ·rename_i he;exact D9.leaf (by rw[he];exact⟨.inr rfl,h⟩)
 ·rename_i he;exact D9.ret (by rw[he];exact⟨rfl,h⟩)
 ·rename_i he;exact D9.ret (by rw[he];exact⟨.inl rfl,h⟩)
 ·rename_i id σ id' σ₁ he
  cases hb:bC1 id id'<;>rw[hb]at h
  ·exact h.elim
  ·have:=bs6 hb
   subst this
   exact aa5.bp8 rfl (by rw[he];exact⟨rfl,cp7 h⟩)
 ·rename_i he
  intro v' hv σ' hq;cases hv
  have:=V.eq h;subst this
  show(o v).den _ _ _
  rw[he];exact⟨rfl,hq⟩
 ·rename_i he
  intro v' hv σ' hq;cases hv
  have:=V.eq h;subst this
  show(o v).den _ _ _
  rw[he];exact⟨.inl rfl,hq⟩
 ·exact h.elim
theorem cl1 {ks:List K}{σ σ':St}{e:Exit}{m:Option τ}{Q:τ->Exit->St->Prop}{s:Sh ρ}(hd:(df0 σ s).den (QfP Qf) e σ')(h:bf5 X (QfP Qf) (cont ks σ s) m Q):aa5 X ks e σ' m Q:=by
 cases s with
 |nx l=>obtain⟨rfl,hs⟩:=hd;exact aa5.sub hs h
 |ex id l=>
  obtain⟨rfl,hs⟩:=hd
  unfold cont at h
  simp only at h
  split at h
  ·rename_i hp;exact aa5.exit hp (aa5.sub hs h)
  ·rename_i hp
   intro r hr a w hw
   exact ax2 hp (h r hr a w (hw.sub hs))
 |rt r=>
  obtain⟨rfl,hq⟩:=hd
  intro v hv a w hw
  exact bq4 ks ⟨σ',hw,h v hv σ' hq⟩
theorem dx2 {σ σ':St}{e:Exit}{s:Sh ρ}(h:(eq2 σ s).den (QfP Qf) e σ'):e≠ .normal/\(df0 σ s).den (QfP Qf) e σ':=by
 cases s with
 |nx l=>exact h.elim
 |ex id l=>obtain⟨rfl,hs⟩:=h;exact⟨by simp,rfl,hs⟩
 |rt r=>obtain⟨rfl,hs⟩:=h;exact⟨by simp,rfl,hs⟩
theorem eD8 {o:Out ρ}{e:Exit}{σ':St}(h:(eD7 o).den (QfP Qf) e σ'):e≠ .normal/\o.den (QfP Qf) e σ':=by
 cases o with
 |nx l=>exact h.elim
 |ex id l=>exact⟨by rw[h.1];simp,h⟩
 |rt r=>exact⟨by rw[h.1];simp,h⟩
 |top r=>exact h.elim
 |no=>exact h.elim
theorem Out.calm {σ:St}:∀(o:Out ρ),(∀ch,¬o.den (QfP Qf) (.panic ch) σ)/\¬o.den (QfP Qf) .outgrown σ
 | .nx _=>⟨(fun _ h=>by cases h.1),(fun h=>by cases h.1)⟩
 | .ex _ _=>⟨(fun _ h=>by cases h.1),(fun h=>by cases h.1)⟩
 | .rt _=>⟨(fun _ h=>by cases h.1),(fun h=>by cases h.1)⟩
 | .top _=>⟨(fun _ h=>by rcases h.1 with h|h<;>cases h),(fun h=>by rcases h.1 with h|h<;>cases h)⟩
 | .no=>⟨fun _ h=>h,fun h=>h⟩
theorem dP8 {id:Nat}:∀{ks:List K},noE ks=true->bu4 id ks=none
 |[],_=>rfl
 | .c _::r,h=>dP8 (ks:=r) h
 | .e _::_,h=>by cases h
theorem eC1 {all:List Oper}{tm:List (Nat×T)}{ops g r:List Oper}{d q:Nat}{b:Bool}(h:eC0 all tm ops=some (d,b,g,q,r)):look tm d=some (.t (.v (.bool b)))/\ops=g++r:=by
 unfold eC0 at h
 split at h<;>try(cases h;done)
 split at h<;>try(cases h;done)
 split at h<;>try(cases h;done)
 split at h<;>try(cases h;done)
 split at h<;>try(cases h;done)
 rename_i hl hc
 simp only[aH6,aZ6]at h
 obtain⟨rfl,rfl,rfl,rfl,rfl⟩:=h
 exact⟨hl,dF6 hc⟩
theorem B3.grp {ks:List K}{m₁ m₂:Option Bool}{k:Bool->Option τ}{Q:τ->Exit->St->Prop}{all:Array Oper}{tm:List (Nat×T)}{hp:List (Nat×G0)}{ops g r:List Oper}{d q:Nat}{b:Bool}{σ₁:Bool->St}(hg:eC0 all.toList tm ops=some (d,b,g,q,r))
  (h₁:B3 X all g [] ⟨(d,.t (.v (.bool true)))::tm,hp⟩ m₁ (fun v e σ'=>e= .normal/\Sub (σ₁ v) σ')) (h₂:B3 X all g [] ⟨(d,.t (.v (.bool false)))::tm,hp⟩ m₂ (fun v e σ'=>e= .normal/\Sub (σ₁ v) σ'))
  (h:∀v,B3 X all r ks (σ₁ v) (k v) Q):B3 X all ops ks ⟨tm,hp⟩ ((bif b then m₁ else m₂).bind k) Q:=by
 obtain⟨hl,rfl⟩:=eC1 hg
 refine B3.bind g.length σ₁ ?_ (fun v _=>?_)
 ·rw[List.take_left]
  exact B3.split d hl h₁ h₂
 ·rw[List.drop_left]
  exact h v
theorem dz9 {α:Type}{enc:α->List Tree}{r:List α}{sz:Nat}{hp:List (Nat×G0)}{x:Option T}(h:(df9 enc r sz hp x).den):
  ∃m,x=some (.t (.sl m (r.map enc)))\/∃i2 e',x=some (.own i2)/\look hp i2=some (.rows e' sz m (r.map enc)):=by
 unfold df9 at h
 split at h
 ·rename_i n rs;have:=V.eq h;subst this;exact⟨n,.inl rfl⟩
 ·rename_i i2
  split at h
  ·rename_i e s2 n rs hb
   cases hz:bC1 s2 sz<;>rw[hz]at h
   ·exact h.elim
   ·have:=bs6 hz
    subst this
    have:=V.eq h;subst this
    exact⟨n,.inr ⟨i2,e,rfl,hb⟩⟩
  ·exact h.elim
 ·exact h.elim
theorem GF.as {α:Type}{enc:α->List Tree}{l:List α}{i:Int}:∀{f:GF},V.gf ⟨f.enc,f.l,f.i⟩=V.gf ⟨enc,l,i⟩->∃y:α,f=⟨enc,l,i,y⟩
 |⟨fe,fl,fi,fy⟩,h=>by
  simp only[V.gf.injEq]at h
  cases h
  exact⟨fy,rfl⟩
theorem ay0 {b:Bool}{x:Tr}(h:(bif b then x else .bad).den):b=true/\x.den:=by
 cases b
 ·exact h.elim
 ·exact⟨rfl,h⟩
theorem U1.known {Γ:List GF}(hΓ:∀f∈Γ,f.ok):∀{τ:Type}{u:U1 τ}{y:τ},u.m=some y->∀f∈u.k y Γ,f.ok
 |_,.ap _ _ _ _,y,h,f,hf=>hΓ f hf
 |_,.an _ _ _ _,y,h,f,hf=>hΓ f hf
 |_,.st enc l i z n,y,h,f,hf=>by
  rcases cq9.1 hf with rfl|hf
  ·exact es9 h
  ·exact hΓ f hf
 |_,.sF _ _ _ _,y,h,f,hf=>hΓ f hf
 |_,.sO _ _ _ _,y,h,f,hf=>hΓ f hf
 |_,.cp _ _ _,y,h,f,hf=>hΓ f hf
theorem dQ4 {nt:Nat}{d:Option Nat}{t:T}{tm tm':List (Nat×T)}{h:List (Nat×G0)}(hp:List (Nat×G0))(hx:bu5 nt d t ⟨tm,[]⟩=some ⟨tm',h⟩):bu5 nt d t ⟨tm,hp⟩=some ⟨tm',hp⟩:=by
 unfold bu5 at hx|-
 cases d with
 |none=>simp only[aH6,St.mk.injEq]at hx|-;exact⟨hx.1,trivial⟩
 |some d=>
  dsimp only at hx|-
  cases hd:bo8 d nt<;>rw[hd]at hx<;>simp only[fi0,fh8,reduceCtorEq,aH6,St.mk.injEq]at hx|-
  exact⟨hx.1,trivial⟩
theorem U1.ok {all:Array Oper}{kb:List Nat}{ks:List K}{Γ:List GF}(hΓ:∀f∈Γ,f.ok){tm:List (Nat×T)}{hp:List (Nat×G0)}{o:Oper}{rest:List Oper}{Q:τ->Exit->St->Prop}(hg:gk all.toList kb tm o.guard=some true):
  ∀{β:Type}{u:U1 β}{t:Tr}{σ:β->St}{k:β->Option τ},u.q X.C2 X.nt Γ tm hp o=some (t,σ)->t.den->(∀y,u.m=some y->B3 X all rest ks (σ y) (k y) Q)->B3 X all (o::rest) ks ⟨tm,hp⟩ (u.m.bind k) Q
 |_,.ap (α:=α) enc l r id,t,σ,k,h,ht,hr=>by
  simp only[U1.q]at h
  split at h<;>try(cases h;done)
  rename_i args tys d ho hd
  split at h<;>try(cases h;done)
  rename_i s x t' t'' ha hb
  split at h<;>try(cases h;done)
  rename_i s0 e z0 hty
  split at h<;>try(cases h;done)
  rename_i te hte
  cases hc:(bC1 t' t''&&bo8 d X.nt&&bC1 te.zero.length te.size&&bo8 id big&&M7 id (fgT id (rmv [] tm))&&L8 id (fgH id hp)&&uniq hp)<;>rw[hc]at h<;>simp only[fi0,fh8,reduceCtorEq,aH6,aZ6]at h
  obtain⟨rfl,rfl⟩:=h
  simp only[aI9]at hc
  obtain⟨⟨⟨⟨⟨⟨c1,c2⟩,c3⟩,c4⟩,c5⟩,c6⟩,c7⟩:=hc
  have:=bs6 c1
  subst this
  obtain⟨h1,h2,h3,h4⟩:=ht
  have h1:=V.eq h1
  have h2:=V.eq h2
  have ha:args= #[s,x]:=by cases args;simp_all
  have hb:tys= #[t',t']:=by cases tys;simp_all
  subst ha hb
  obtain⟨m,hx⟩:=dz9 h3
  have hs:∃n,(val tm s=some (.own id)/\look hp id=some (.rows e te.size n (l.map enc)))\/(val tm s=some (.t (.v (.slice none 0 0)))/\l=[]):=by
   split at h4
   ·rename_i i hsv
    split at h4
    ·rename_i e' sz n rs hbl
     cases hq:(bC1 i id&&bC1 e' e&&bC1 sz te.size)<;>rw[hq]at h4
     ·exact h4.elim
     ·simp only[aI9]at hq
      have q1:=bs6 hq.1.1
      have q2:=bs6 hq.1.2
      have q3:=bs6 hq.2
      subst q1 q2 q3
      have:=V.eq h4;subst this
      exact⟨n,.inl ⟨hsv,hbl⟩⟩
    ·exact h4.elim
   ·rename_i hsv
    have:=V.eq h4;subst this
    exact⟨0,.inr ⟨hsv,rfl⟩⟩
   ·exact h4.elim
  obtain⟨n,hs⟩:=hs
  have hen:∀y,(enc y).length=te.size:=fun y=>congrFun h1 y
  have hon:∀y,(enc y).all aP5=true:=fun y=>congrFun h2 y
  show B3 X all _ ks _ ((R6 l r).bind k) Q
  cases hm:R6 l r with
  |none=>exact B3.fail
  |some y=>
   have hy:y=l++r:=by
    unfold R6 at hm
    split at hm
    ·exact(Option.some.inj hm).symm
    ·cases hm
   subst hy
   have hk:=hr (l++r) hm
   rw[<-hm]
   rcases hx with hx|⟨i2,e',hx1,hx2⟩
   ·exact B3.append (e':=0) ho hd c2 (aF1 hg) hty hte (bs6 c3) hen hon hs (.inl hx) (dj9 c7) c4 c5 c6 hk
   ·exact B3.append ho hd c2 (aF1 hg) hty hte (bs6 c3) hen hon hs (.inr ⟨i2,hx1,hx2⟩) (dj9 c7) c4 c5 c6 hk
 |_,.an enc n z id,t,σ,k,h,ht,hr=>by
  simp only[U1.q]at h
  split at h<;>try(cases h;done)
  rename_i args tys d ho hd
  split at h<;>try(cases h;done)
  rename_i s x t' u ha hb
  split at h<;>try(cases h;done)
  rename_i s0 e z0 s1 kk z1 ik n' hty htu hs hx
  split at h<;>try(cases h;done)
  rename_i te hte
  cases hc:(bo8 d X.nt&&bC1 te.zero.length te.size&&bo8 0 te.size&&bo8 id big&&M7 id tm&&L8 id hp)<;>rw[hc]at h<;>simp only[fi0,fh8,reduceCtorEq,aH6,aZ6]at h
  obtain⟨rfl,rfl⟩:=h
  simp only[aI9]at hc
  obtain⟨⟨⟨⟨⟨c1,c2⟩,c3⟩,c4⟩,c5⟩,c6⟩:=hc
  have h1:=V.eq ht.1
  have h2:=V.eq ht.2
  subst h1
  have ha:args= #[s,x]:=by cases args;simp_all
  have hb:tys= #[t',u]:=by cases tys;simp_all
  subst ha hb
  exact B3.ez0 id z ho hd c1 (aF1 hg) hs hx hty htu hte (bs6 c2) c3 h2 c4 c5 c6 hr
 |_,.st enc l i y n,t,σ,k,h,ht,hr=>by
  simp only[U1.q]at h
  split at h<;>try(cases h;done)
  rename_i t' p x f ho hd hf
  split at h<;>try(cases h;done)
  rename_i id i' sz off ti cs hp1 hti hx
  split at h<;>try(cases h;done)
  rename_i e sz' n' rs lt hb htr
  cases hc:(bC1 sz sz'&&bC1 lt.length ti.size&&dQ2 (off+lt.length) sz)<;>rw[hc]at h<;>simp only[fi0,fh8,reduceCtorEq,aH6,aZ6]at h
  obtain⟨rfl,rfl⟩:=h
  simp only[aI9]at hc
  obtain⟨⟨c1,c2⟩,c3⟩:=hc
  have:=bs6 c1
  subst this
  obtain⟨h1,h2,h3⟩:=ht
  have hfo:=hΓ f (do6 hf)
  obtain⟨fy,rfl⟩:=GF.as h1
  have h2:=V.eq h2
  have h3:=V.eq h3
  simp only[aZ6]at h2
  obtain⟨rfl,rfl⟩:=h2
  cases hv:val tm x with
  |none=>simp[hv]at hx
  |some vx=>
   simp only[hv,aD6]at hx
   exact B3.dK4 y lt hfo ho hd (aF1 hg) hp1 hb hti hv hx (cq0 htr) c2 c3 h3 hr
 |_,.sF enc l a b,t,σ,k,h,ht,hr=>by
  simp only[U1.q]at h
  split at h<;>try(cases h;done)
  rename_i t' x lo hi d ho hd
  split at h<;>try(cases h;done)
  rename_i s0 e z0 n rs a' b' hty hx hlo hhi
  split at h<;>try(cases h;done)
  rename_i te hte
  cases hc:bo8 d X.nt<;>rw[hc]at h<;>simp only[fi0,fh8,reduceCtorEq,aH6,aZ6]at h
  obtain⟨rfl,rfl⟩:=h
  obtain⟨h1,h2,h3⟩:=ht
  have h1:=V.eq h1
  have h2:=V.eq h2
  have h3:=V.eq h3
  simp only[aZ6]at h2
  obtain⟨rfl,rfl⟩:=h2
  subst h1
  exact B3.et5 ho hd hc (aF1 hg) hx hty hte (fun y=>congrFun h3 y) hlo hhi hr
 |_,.sO enc l b id,t,σ,k,h,ht,hr=>by
  simp only[U1.q]at h
  split at h<;>try(cases h;done)
  rename_i t' x hi d ho hd
  split at h<;>try(cases h;done)
  rename_i s0 e' z0 i b' hty hx hhi
  split at h<;>try(cases h;done)
  rename_i te e sz n rs hte hb
  cases hc:(bo8 d X.nt&&bC1 te.size sz&&bo8 id big&&M7 id (fgT i (rmv [] tm))&&L8 id (fgH i hp)&&L8 i (fgH i hp)&&uniq hp)<;>rw[hc]at h<;>simp only[fi0,fh8,reduceCtorEq,aH6,aZ6]at h
  obtain⟨rfl,rfl⟩:=h
  simp only[aI9]at hc
  obtain⟨⟨⟨⟨⟨⟨c1,c2⟩,c3⟩,c4⟩,c5⟩,c6⟩,c7⟩:=hc
  have h1:=V.eq ht.1
  have h2:=V.eq ht.2
  subst h1 h2
  exact B3.et6 ho hd c1 (aF1 hg) hx hb hty hte hhi (dj9 c7) c3 c4 c5 c6 hr
 |_,.cp enc l r,t,σ,k,h,ht,hr=>by
  simp only[U1.q]at h
  split at h<;>try(cases h;done)
  rename_i args tys ho
  split at h<;>try(cases h;done)
  rename_i s x t' t'' ha hb
  split at h<;>try(cases h;done)
  rename_i s0 e' z0 id tm' hp0 hty hs at3
  split at h<;>try(cases h;done)
  rename_i te e sz n rs hte hbl
  cases hc:bC1 sz te.size<;>rw[hc]at h<;>simp only[fi0,fh8,reduceCtorEq,aH6,aZ6]at h
  obtain⟨rfl,rfl⟩:=h
  have:=bs6 hc
  subst this
  obtain⟨h1,h2,h3,h4⟩:=ht
  have h1:=V.eq h1
  have h2:=V.eq h2
  have h4:=V.eq h4
  subst h4
  have ha:args= #[s,x]:=by cases args;simp_all
  have hb:tys= #[t',t'']:=by cases tys;simp_all
  subst ha hb
  obtain⟨m,hx⟩:=dz9 h3
  have hk:=hr (aI5 l r) rfl
  rcases hx with hx|⟨i2,e2,hx1,hx2⟩
  ·exact B3.ej4 (e2:=0) ho (aF1 hg) hty hte (fun y=>congrFun h1 y) (fun y=>congrFun h2 y) hs hbl (.inl hx) (dQ4 _ at3) hk
  ·exact B3.ej4 ho (aF1 hg) hty hte (fun y=>congrFun h1 y) (fun y=>congrFun h2 y) hs hbl (.inr ⟨i2,hx1,hx2⟩) (dQ4 _ at3) hk
theorem eB7 {all:List Oper}{kb:List Nat}{tm tm':List (Nat×T)}{g:Option (Nat×Bool)}{b:Bool}(hm:more tm tm')(h:gk all kb tm g=some b):gk all kb tm' g=some b:=by
 cases g with
 |none=>exact h
 |some p=>
  obtain⟨j,want⟩:=p
  simp only[gk]at h|-
  split at h<;>try(cases h;done)
  rename_i ho
  try simp only[ho]
  split at h<;>try(cases h;done)
  rename_i hd
  try simp only[hd]
  split at h<;>try(cases h;done)
  ·rename_i hl;rw[hm _ _ hl];exact h
  ·rename_i hl;rw[hm _ _ hl];exact h
theorem U1.fa0 {all:Array Oper}{kb:List Nat}{Γ:List GF}(hΓ:∀f∈Γ,f.ok){T9:List (Nat×T)}{an3:List (Nat×G0)}{o:Oper}(hg:gk all.toList kb T9 o.guard=some true):
  ∀{β:Type}{u:U1 β}{t:Tr}{f:β->T×Option (Nat×G0)},u.qD X.C2 X.nt Γ T9 an3 o=some (t,f)->t.den->∀y,u.m=some y->ah9 X all o T9 an3 (f y).1 (f y).2
 |_,.st enc l i z n,t,f,h,ht,y,hy=>by
  simp only[U1.qD]at h
  split at h<;>try(cases h;done)
  rename_i t' σ hq
  split at h<;>try(cases h;done)
  rename_i ty p x hop hd
  split at h<;>try(cases h;done)
  rename_i id i' sz off hp1
  split at h<;>try(cases h;done)
  rename_i e sz2 n2 rs hb
  simp only[aH6,aZ6]at h
  obtain⟨rfl,rfl⟩:=h
  refine ah9.eJ7 fun tm hp hm hh=>⟨⟨tm,at3 hp id (.rows e sz y.length (y.map enc))⟩,?_,?_,?_⟩
  ·intro k u hk;simpa[pt,hd]using hk
  ·intro k c hk;rw[cQ3 (hh _ _ hb)];exact hk
  ·have hq2:(U1.st enc l i z n).q X.C2 X.nt Γ tm hp o=some (t',fun l'=>⟨tm,at3 hp id (.rows e sz l'.length (l'.map enc))⟩):=by
    simp only[U1.q]at hq|-
    split at hq<;>try(cases hq;done)
    rename_i t2 p2 x2 g hop2 hd2 hΓn
    rw[hop]at hop2
    simp only[Op.store.injEq]at hop2
    obtain⟨e1,e2,e3⟩:=hop2
    subst e1 e2 e3
    split at hq<;>try(cases hq;done)
    rename_i hp2 hti hx
    rw[hp1]at hp2
    simp only[aH6,T.pe.injEq]at hp2
    obtain⟨e1,e2,e3,e4⟩:=hp2
    subst e1 e2 e3 e4
    split at hq<;>try(cases hq;done)
    rename_i hb2 hlt
    rw[hb]at hb2
    simp only[aH6,G0.rows.injEq]at hb2
    obtain⟨e1,e2,e3,e4⟩:=hb2
    subst e1 e2 e3 e4
    have hx':∀cs,(val T9 x).bind (ap3 an3)=some cs->(val tm x).bind (ap3 hp)=some cs:=fun cs hc=>by
     cases hv:val T9 x with
     |none=>simp[hv]at hc
     |some u=>rw[C7 hm hv];rw[hv]at hc;exact bp5 hh hc
    simp only[C7 hm hp1,hti,hx' _ hx,hh _ _ hb,hlt]
    revert hq
    cases(bC1 sz sz2&&bC1 _ _&&dQ2 _ sz)<;>intro hq<;>simp only[fi0,fh8,reduceCtorEq,aH6,aZ6]at hq|-
    exact⟨hq.1,trivial⟩
   have:=U1.ok (X:=X) (all:=all) (rest:=[]) (ks:=[]) (k:=fun _=>some ()) (Q:=fun _ e' σ=>e'= .normal/\σ=⟨tm,at3 hp id (.rows e sz y.length (y.map enc))⟩) hΓ (eB7 hm hg) hq2 ht (fun y' hy'=>by
    rw[hy]at hy';cases hy'
    exact B3.nil (D9.leaf ⟨rfl,rfl⟩))
   rw[hy]at this
   exact this
 |_,.ap enc l r id,t,f,h,ht,y,hy=>by
  simp only[U1.qD,U1.qA]at h
  split at h<;>try(cases h;done)
  rename_i args tys d hop hd
  split at h<;>try(cases h;done)
  rename_i s x t1 t2 dd2 htys
  split at h<;>try(cases h;done)
  rename_i s0 e z0 hty
  split at h<;>try(cases h;done)
  rename_i te hte
  split at h<;>try(cases h;done)
  rename_i v v' e' sz n rs hs hb
  cases hc:(bC1 t1 t2&&bo8 d X.nt&&bC1 te.zero.length te.size&&bo8 id big&&bC1 e' e&&bC1 sz te.size)<;>rw[hc]at h<;>simp only[fi0,fh8,reduceCtorEq,aH6,aZ6]at h
  obtain⟨rfl,rfl⟩:=h
  simp only[aI9]at hc
  obtain⟨⟨⟨⟨⟨c1,c2⟩,c3⟩,c4⟩,c5⟩,c6⟩:=hc
  have c1:=bs6 c1
  have c5:=bs6 c5
  have c6:=bs6 c6
  subst c1 c5 c6
  obtain⟨h1,h2,h3,h4,h5⟩:=ht
  have h1:=V.eq h1
  have h2:=V.eq h2
  have h3:=V.eq h3
  have h4:=V.eq h4
  subst h1 h2
  have hop':o.op= .call ⟨.builtin .append,#[s,x],#[t1,t1]⟩:=by
   rw[hop]
   congr 2
   ·exact fc9 dd2
   ·exact fc9 htys
  obtain⟨m',e'',ce4⟩:∃m' e'',val T9 x=some (.t (.sl m' (r.map enc)))\/∃i2,val T9 x=some (.own i2)/\look an3 i2=some (.rows e'' te.size m' (r.map enc)):=by
   unfold df9 at h5
   split at h5<;>try(exact h5.elim)
   ·rename_i n1 rs1 hx
    have:=V.eq h5
    subst this
    exact⟨_,0,.inl hx⟩
   ·rename_i i2 hx
    split at h5<;>try(exact h5.elim)
    rename_i e1 s2 n1 rs1 hb2
    obtain⟨g1,g2⟩:=ay0 h5
    have g1:=bs6 g1
    have:=V.eq g2
    subst this g1
    exact⟨_,_,.inr ⟨i2,hx,hb2⟩⟩
  exact ah9.append (e':=e'') hg hop' hd hty hte (bs6 c3) (fun y=>congrFun h3 y) (fun y=>congrFun h4 y) hs hb ce4 c4 hy
 |_,.an ..,t,f,h,_,_,_=>by simp[U1.qD]at h
 |_,.sF ..,t,f,h,_,_,_=>by simp[U1.qD]at h
 |_,.sO ..,t,f,h,_,_,_=>by simp[U1.qD]at h
 |_,.cp ..,t,f,h,_,_,_=>by simp[U1.qD]at h
theorem dU7 {tm:List (Nat×T)}{hp:List (Nat×G0)}{o:Oper}{n d:Nat}{l:List T}{s:Bool}(h:cM5 tm hp o=some (n,l,s,d)):o.dst=some d:=by
 unfold cM5 at h
 split at h<;>try(cases h;done)
 rename_i hd
 split at h
 ·simp only[aH6,aZ6]at h;rw[hd,h.2.2.2]
 ·split at h<;>try(cases h;done)
  simp only[aH6,aZ6]at h;rw[hd,h.2.2.2]
theorem dU8 {tm:List (Nat×T)}{hp:List (Nat×G0)}{o:Oper}{n d:Nat}{l:List T}{s:Bool}(h:cM5 tm hp o=some (n,l,s,d)):aR2 o.op=false:=by
 unfold cM5 at h
 split at h<;>try(cases h;done)
 rename_i hy _
 unfold cM6 at hy
 split at hy<;>try(cases hy;done)
 rename_i ho
 rw[ho];rfl
theorem L1.dQ5 {C2:Tab}{tm:List (Nat×T)}{hp:List (Nat×G0)}{o:Op}{r:Tr×(β->T)}:∀{l:L1 β},l.q C2 tm hp o=some r->aR2 o=false:=by
 intro l h
 cases l<;>simp only[L1.q]at h<;>split at h<;>first|(cases h;done)|rfl
theorem W1.dQ5 {P:Program}{Ev:EqV P}{C2:Tab}{Γ:List GF}{tm:List (Nat×T)}{hp:List (Nat×G0)}{o:Op}{r:Tr×T}:∀{u:W1},u.q Ev C2 Γ tm hp o=some r->aR2 o=false
 | .hx n,h=>by
  simp only[W1.q]at h
  split at h<;>try(cases h;done)
  split at h<;>try(cases h;done)
  rename_i hq
  exact L1.dQ5 hq
 | .ly n,h=>by
  simp only[W1.q]at h
  split at h<;>try(cases h;done)
  rfl
 | .eq,h=>by
  simp only[W1.q]at h
  split at h<;>try(cases h;done)
  rfl
 | .cn,h=>by
  simp only[W1.q]at h
  split at h<;>try(cases h;done)
  rfl
 | .sn,h=>by
  simp only[W1.q]at h
  split at h<;>try(cases h;done)
  rfl
theorem M.ok {Ev:EqV X.P}(hmx:X.P.follows .mixedOrders=true):∀{τ:Type} (x:M X.P ρ τ) (Γ:List GF) (c:Cg ρ) (o:τ->Out ρ),(∀f∈Γ,f.ok)->(x.chk Ev X.C2 X.nt Qf Γ c o).den->bf5 X (QfP Qf) c x.run (fun v e σ'=>(o v).den (QfP Qf) e σ')
 |_,.R v,Γ,c,o,hΓ,h=>by
  simp only[M.chk]at h
  exact aK2 hmx (fun r l σ=>Out.never _) true true _ c (dP2 h)
 |_,.N,Γ,c,o,hΓ,h=>by
  cases c with
  |S ks σ=>exact D9.fail
  |O all kb ops ks σ=>exact B3.fail
  |D=>exact fun _ _ _=>D9.fail
  |X id σ=>exact fun r hr=>by cases hr
  |R r=>exact fun v hv=>by cases hv
 |_,.I b x y,Γ,c,o,hΓ,h=>by
  simp only[M.chk]at h
  refine aK2 hmx (fun r l σ=>Out.never _) true true fuel c ?_
  split at h<;>try(exact h.elim)
  rename_i q z w ks σ hc
  rw[hc]
  split at h<;>try(exact h.elim)
  rename_i b' hv
  obtain⟨h1,h2,h3⟩:=h
  have h1:=V.eq h1
  subst h1
  exact D9.cond hv (M.ok hmx x Γ _ o hΓ h2) (M.ok hmx y Γ _ o hΓ h3)
 |_,.K f x,Γ,c,o,hΓ,h=>by
  simp only[M.chk]at h
  refine aK2 hmx (fun r l σ=>Out.never _) true true fuel c ?_
  split at h<;>try(exact h.elim)
  rename_i all kb q tm hp fz nx hc
  split at h<;>try(exact h.elim)
  rename_i n l s d hg hq
  obtain⟨hb,h1,h2,h3⟩:=ay0 h
  have h5:=V.eq h1
  simp only[aZ6]at h5
  obtain⟨h6,rfl⟩:=h5
  refine bf5.pre fun t ht=>?_
  have hd:q.dst=some d:=dU7 hq
  have bM7:aR2 q.op=false:=dU8 hq
  exact bD3 hc (ah9.call ht hg hq (by rw[h6];exact f.ok) (fun hs=>by subst hs;exact congrFun (V.eq h2) t)) (fun d' hd'=>by rw[hd]at hd';cases hd';exact hb)
   (.old bM7) (M.ok hmx (x t) Γ _ o hΓ (h3 t))
 |_,.KG f nm x,Γ,c,o,hΓ,h=>by
  simp only[M.chk]at h
  refine aK2 hmx (fun r l σ=>Out.never _) true true fuel c ?_
  split at h<;>try(exact h.elim)
  ·rename_i all kb q r ks tm hp hc
   rw[hc]
   split at h<;>try(exact h.elim)
   rename_i n targs d hg hq hd
   generalize dP3 f.args f.hp targs hp=lm at h
   split at h<;>try(exact h.elim)
   rename_i am2 aN6 hr1 hr2
   obtain⟨hb,h1,h2,h3⟩:=ay0 h
   simp only[aI9]at hb
   have h1:=V.eq h1
   have h2:=V.eq h2
   have hn:=bs6 hb.1.1
   subst hn
   have key:∀t,∃rt rh,aM2 (lm++dL5 f.nw nm) (f.res t)=some rt/\aR7 (lm++dL5 f.nw nm) (f.Z2 t)=some rh/\((x t).chk Ev X.C2 X.nt Qf Γ (.O all kb r ks ⟨(d,rt)::tm,rh++ap7 lm hp⟩) o).den:=fun t=>by
    have h4:=h3 t
    dsimp only at h4
    split at h4
    ·rename_i rt rh e1 e2;exact⟨rt,rh,e1,e2,h4⟩
    ·exact h4.elim
   refine B3.g (dJ6:=fun t=>(key t).choose) (rhp:=fun t=>(key t).choose_spec.choose) lm (dL5 f.nw nm) f.ok (targs:=targs) (am2:=am2) (aN6:=aN6) (d:=d) (hp2:=ap7 lm hp) ?_ h1 h2
    (fun t=>(key t).choose_spec.choose_spec.1) (fun t=>(key t).choose_spec.choose_spec.2.1) (fun t ht=>M.ok hmx (x t) Γ _ o hΓ (key t).choose_spec.choose_spec.2.2)
   unfold dq8
   rw[aF1 hg]
   simp only[hq,hr1,hr2,hd,hb.2,hb.1.2,eU6,fi0]
  ·rename_i id dT1 h0 bs ws ops vs tm0 hp0 fz kb0 ks hc
   rw[hc]
   split at h<;>try(exact h.elim)
   rename_i all kb q tm hp fz' nx hh
   split at h<;>try(exact h.elim)
   rename_i n targs d hg hq hd
   split at h
   ·rename_i c
    split at h<;>try(exact h.elim)
    ·rename_i hhp
     split at h<;>try(exact h.elim)
     rename_i am2 hr1
     obtain⟨hb,h1,h3⟩:=ay0 h
     simp only[aI9]at hb
     have h1:=V.eq h1
     have hn:=bs6 hb.1.1
     subst hn
     refine bf5.pre fun t ht=>?_
     have h4:=h3 t
     dsimp only at h4
     split at h4<;>try(exact h4.elim)
     rename_i r1 e2 sz2 n2 rs2 hr2
     split at h4<;>try(exact h4.elim)
     rename_i rt hr3
     have hok:=f.ok
     rw[hhp]at hok
     exact bI2 hh (ah9.eW6 ht hok hg hq hd hb.1.2 hb.2 hr1 h1 hr3 hr2) (M.ok hmx (x t) Γ _ o hΓ h4)
    ·rename_i b1 e sz n1 rs v' e' sz' n1' rs' hhp hlk
     obtain⟨hb,h1,h2,h3⟩:=ay0 h
     simp only[aI9]at hb
     have h1:=V.eq h1
     have h2:=V.eq h2
     simp only[aZ6]at h2
     obtain⟨rfl,rfl,rfl,rfl⟩:=h2
     have hn:=bs6 hb.1.1.1
     subst hn
     refine bf5.pre fun t ht=>?_
     have h4:=h3 t
     dsimp only at h4
     split at h4<;>try(exact h4.elim)
     rename_i r1 e2 sz2 n2 rs2 hr2
     split at h4<;>try(exact h4.elim)
     rename_i rt hr1
     have hok:=f.ok
     rw[hhp]at hok
     exact bI2 hh (ah9.eW7 ht hok hg hq hd hlk hb.1.2 h1 hb.2 hr1 hr2) (M.ok hmx (x t) Γ _ o hΓ h4)
   generalize dP3 f.args f.hp targs hp=lm at h
   split at h<;>try(exact h.elim)
   rename_i am2 aN6 hr1 hr2
   obtain⟨hb,h1,h2,h3⟩:=ay0 h
   simp only[aI9]at hb
   have h1:=V.eq h1
   have h2:=V.eq h2
   have hn:=bs6 hb.1.1.1
   subst hn
   refine bf5.pre fun t ht=>?_
   obtain⟨h4,h5⟩:=h3 t
   have h4:=V.eq h4
   split at h5<;>try(exact h5.elim)
   rename_i rt hrt
   exact bI2 hh (ah9.eW8 lm ht f.ok hg hq hd hb.1.1.2 hr1 h1 hr2 h2 hb.1.2 hb.2 hrt h4) (M.ok hmx (x t) Γ _ o hΓ h5)
 |_,.O l x,Γ,c,o,hΓ,h=>by
  simp only[M.chk]at h
  refine aK2 hmx (fun r l σ=>Out.never _) true true fuel c ?_
  split at h<;>try(exact h.elim)
  rename_i all kb q tm hp fz nx hc
  split at h<;>try(exact h.elim)
  rename_i t res d hg hq hd
  obtain⟨hb,h1,h2⟩:=ay0 h
  refine bf5.pre fun y hy=>?_
  exact bD3 hc (ah9.one hg hq h1 hy) (fun d' hd'=>by rw[hd]at hd';cases hd';exact hb) (.old (L1.dQ5 hq)) (M.ok hmx (x y) _ _ o (L1.known hΓ hy) (h2 y))
 |_,.W u x,Γ,c,o,hΓ,h=>by
  simp only[M.chk]at h
  refine aK2 hmx (fun r l σ=>Out.never _) true true fuel c ?_
  split at h<;>try(exact h.elim)
  rename_i all kb q tm hp fz nx hc
  split at h<;>try(exact h.elim)
  rename_i t V d hg hq hd
  obtain⟨hb,h1,h2⟩:=ay0 h
  exact bD3 hc (ah9.known hΓ hg hq h1) (fun d' hd'=>by rw[hd]at hd';cases hd';exact hb) (.old (W1.dQ5 hq)) (M.ok hmx x _ _ o hΓ h2)
 |_,.U u x,Γ,c,o,hΓ,h=>by
  simp only[M.chk]at h
  refine aK2 hmx (fun r l σ=>Out.never _) true true fuel c ?_
  split at h<;>try(exact h.elim)
  ·rename_i all kb q r ks tm hp hc
   rw[hc]
   split at h<;>try(exact h.elim)
   rename_i t σ hg hq
   exact U1.ok hΓ hg hq h.1 fun y hy=>M.ok hmx (x y) _ (.O all kb r ks (σ y)) o (U1.known hΓ hy) (h.2 y)
  ·rename_i id all h0 bs ws ops vs tm0 hp0 fz kb ks hc
   rw[hc]
   split at h<;>try(exact h.elim)
   rename_i all' kb' q tm hp fz' nx hh
   split at h<;>try(exact h.elim)
   rename_i t f hg hq
   refine bf5.pre fun y hy=>?_
   exact bI2 hh (U1.fa0 (all:=all') hΓ hg hq h.1 y hy) (M.ok hmx (x y) _ _ o (U1.known hΓ hy) (h.2 y))
 |_,.Mk enc n z x,Γ,c,o,hΓ,h=>by
  simp only[M.chk]at h
  refine aK2 hmx (fun r l σ=>Out.never _) true true fuel c ?_
  split at h<;>try(exact h.elim)
  rename_i all kb q tm hp fz nx hc
  split at h<;>try(exact h.elim)
  rename_i t a b d hg hop hd
  split at h<;>try(exact h.elim)
  rename_i k1 n1 k2 n2 s0 e z0 hx hy hty
  split at h<;>try(exact h.elim)
  rename_i te hte
  obtain⟨hb,h1,h2,h3⟩:=ay0 h
  simp only[aI9]at hb
  obtain⟨⟨⟨⟨⟨c1,c2⟩,c3⟩,c4⟩,c5⟩,c6⟩:=hb
  have h1:=V.eq h1
  have h2:=V.eq h2
  simp only[aZ6]at h1
  obtain⟨rfl,rfl,rfl⟩:=h1
  refine bf5.pre fun y hy'=>?_
  have hs:=ah9.mk (an3:=hp) hy' hop hd hg hx hy hty hte (bs6 c2) c3 h2 c4
  have bM7:aR2 q.op=true:=by rw[hop];rfl
  have h4:=h3 y
  have hdd:∀d',q.dst=some d'->bo8 d' X.nt=true:=fun d' hd'=>by rw[hd]at hd';cases hd';exact c1
  have hff:∀N,ch4 q N tm hp:=fun N=>⟨fun _ d' hd'=>by rw[hd]at hd';cases hd';rw[c5,c6];rfl,fun id h'=>by rw[dp9 bM7]at h';cases h'⟩
  cases hz:aC5 d fz<;>rw[hz]at h4
  ·exact bD3 hc hs hdd (hff _) (M.ok hmx (x y) Γ _ o hΓ h4)
  ·exact bD3 hc (hs.frz bM7 hd) hdd (hff _) (M.ok hmx (x y) Γ _ o hΓ h4)
 |_,.Z z x,Γ,c,o,hΓ,h=>by
  simp only[M.chk]at h
  refine aK2 hmx (fun r l σ=>Out.never _) (!x.isJ) (!x.isD) fuel c ?_
  split at h<;>try(exact h.elim)
  ·rename_i ks tm hp hc
   rw[hc]
   split at h<;>try(exact h.elim)
   rename_i σ hz
   exact Z1.eg0 hz (M.ok hmx x Γ (.S ks σ) o hΓ h)
  ·rename_i all kb ops ks tm hp hc
   rw[hc]
   split at h<;>try(exact h.elim)
   rename_i σ hz
   exact B3.via (fun k=>Z1.eg0 hz k) (M.ok hmx x Γ (.O all kb ops ks σ) o hΓ h)
  ·rename_i id tm hp hc
   rw[hc]
   split at h<;>try(exact h.elim)
   rename_i σ hz
   exact Z1.eg0 hz (M.ok hmx x Γ (.X id σ) o hΓ h)
 |_,.G b x y f,Γ,c,o,hΓ,h=>by
  simp only[M.chk]at h
  refine aK2 hmx (fun r l σ=>Out.never _) true true fuel c ?_
  split at h<;>try(exact h.elim)
  rename_i all kb ops ks tm hp hc
  rw[hc]
  split at h<;>try(exact h.elim)
  rename_i d b' g q r hg
  obtain⟨h1,h2,h3,h4⟩:=h
  have h1:=V.eq h1
  subst h1
  exact B3.grp hg (M.ok hmx x Γ _ _ hΓ h2) (M.ok hmx y Γ _ _ hΓ h3) (fun v=>M.ok hmx (f v) Γ _ o hΓ (h4 v))
 |_,.J0 n s x f,Γ,c,o,hΓ,h=>by
  have key:∀c':Cg ρ,(match c' with| .S (.c z::ks) σ=>Tr.and (x.chk Ev X.C2 X.nt Qf Γ (.S [.c z] σ) (fun v=>.nx (upd (s v) ⟨rmv (ai7 z) σ.tm,σ.hp⟩))) (.all fun v=>(f v).chk Ev X.C2 X.nt Qf Γ (.S ks (upd (s v) ⟨rmv (ai7 z) σ.tm,σ.hp⟩)) o)|_=>Tr.bad).den->
    bf5 X (QfP Qf) c' (M.run (.J0 n s x f)) (fun v e σ'=>(o v).den (QfP Qf) e σ'):=by
   intro c' h
   split at h<;>try(exact h.elim)
   rename_i z ks σ
   refine D9.bind (Q₁:=fun v e σ'=>(Out.nx (upd (s v) ⟨rmv (ai7 z) σ.tm,σ.hp⟩)).den (QfP Qf) e σ') (M.ok hmx x Γ (.S [.c z] σ) _ hΓ h.1) fun v e σ' _ hd=>?_
   obtain⟨rfl,hs⟩:=hd
   exact aa5.sub hs (M.ok hmx (f v) Γ (.S ks _) o hΓ (h.2 v))
  cases n with
  |zero=>rw[M.chk]at h;exact aK2 hmx (fun r l σ=>Out.never _) false true fuel c (key _ h)
  |succ n=>
   rw[M.chk]at h
   ·exact aK2 hmx (fun r l σ=>Out.never _) true false fuel c (key _ h)
   ·exact fun h=>by cases h
 |_,.J n s k x f g,Γ,c,o,hΓ,h=>by
  have key:∀c':Cg ρ,(match c' with| .S (.c z::ks) σ=>Tr.and (x.chk Ev X.C2 X.nt Qf Γ (.S [.c z] σ) (fun v=>match v with| .inl v=>.nx (upd (s v) ⟨rmv (ai7 z) σ.tm,σ.hp⟩)| .inr w=>df0 ⟨rmv (ai7 z) σ.tm,σ.hp⟩ (k.sh w))) (.and (.all fun v=>(f v).chk Ev X.C2 X.nt Qf Γ (.S ks (upd (s v) ⟨rmv (ai7 z) σ.tm,σ.hp⟩)) o) (k.all fun w sh=>(g w).chk Ev X.C2 X.nt Qf Γ (cont ks ⟨rmv (ai7 z) σ.tm,σ.hp⟩ sh) o))|_=>Tr.bad).den->
    bf5 X (QfP Qf) c' (M.run (.J n s k x f g)) (fun v e σ'=>(o v).den (QfP Qf) e σ'):=by
   intro c' h
   split at h<;>try(exact h.elim)
   rename_i z ks σ
   rw[M.run]
   refine D9.bind (M.ok hmx x Γ (.S [.c z] σ) _ hΓ h.1) fun v e σ' _ hd=>?_
   cases v with
   |inl v=>
    obtain⟨rfl,hs⟩:=hd
    exact aa5.sub hs (M.ok hmx (f v) Γ (.S ks _) o hΓ (h.2.1 v))
   |inr w=>exact cl1 hd (M.ok hmx (g w) Γ _ o hΓ (Kd.dD9 h.2.2 w))
  cases n with
  |zero=>rw[M.chk]at h;exact aK2 hmx (fun r l σ=>Out.never _) false true fuel c (key _ h)
  |succ n=>
   rw[M.chk]at h
   ·exact aK2 hmx (fun r l σ=>Out.never _) true true (n+1) c (key _ h)
   ·exact fun h=>by cases h
 |_,.JF n s x i,Γ,c,o,hΓ,h=>by
  rw[M.chk]at h
  refine aK2 hmx (fun r l σ=>Out.never _) true true n c ?_
  split at h<;>try(exact h.elim)
  rename_i z ks σ hc
  rw[hc]
  obtain⟨hne,h1,h2⟩:=ay0 h
  have out:∀(v:_) (e:Exit) (σ':St),(eD7 (o v)).den (QfP Qf) e σ'->aa5 X ks e σ' (some v) (fun v e σ'=>(o v).den (QfP Qf) e σ'):=fun v e σ' hd=>by
   obtain⟨hn,hd⟩:=eD8 hd
   intro r hr a w hw
   cases hr
   cases e with
   |normal=>exact absurd rfl hn
   |exit id=>exact ax2 (dP8 hne) ⟨σ',hw,hd⟩
   |ret=>exact bq4 ks ⟨σ',hw,hd⟩
   |goto l=>exact absurd hd (Out.never _)
   |panic ch=>exact absurd hd ((Out.calm _).1 ch)
   |outgrown=>exact absurd hd (Out.calm _).2
  refine D9.bind (M.ok hmx x Γ (.S [.c z] σ) _ hΓ h1) fun v e σ' _ hd=>?_
  cases v with
  |next v=>
   obtain⟨rfl,hs⟩:=hd
   exact aa5.sub hs (aK2 (c:=.S ks _) hmx (fun r l σ=>Out.never _) true true fuel (dP2 (h2 v)))
  |brk v=>exact out _ e σ' hd
  |ret w=>exact out _ e σ' hd
 |_,.L (S:=S) (γ:=γ) hd nx k x s₀ f g,Γ,c,o,hΓ,h=>by
  rw[M.chk]at h
  refine aK2 hmx (fun r l σ=>Out.never _) true true fuel c ?_
  split at h<;>try(exact h.elim)
  rename_i z ks σ hc
  rw[hc]
  obtain⟨h1,h2,h3,h4⟩:=h
  rw[M.run]
  refine D9.loop (S:=S) (B:=S⊕γ) (fun a=>upd (hd a) ⟨rmv (ai7 z) σ.tm,σ.hp⟩) (fun(b:S⊕γ) e σ'=>match b with| .inl a'=>(Out.ex nx (upd (hd a') ⟨rmv (ai7 z) σ.tm,σ.hp⟩)).den (QfP Qf) e σ'| .inr w=>(df0 ⟨rmv (ai7 z) σ.tm,σ.hp⟩ (k.sh w)).den (QfP Qf) e σ') (cp7 h1) (fun a=>?_) (fun b e σ' _ hq=>?_)
  ·have:=M.ok hmx (x a) Γ (.S [.c z] (upd (hd a) ⟨rmv (ai7 z) σ.tm,σ.hp⟩)) _ hΓ (h2 a)
   refine fun r hr a w hw=>aL3 (fun e a w hp=>?_) _ _ _ _ (this r hr a w hw)
   obtain⟨σ',hs,hq⟩:=hp
   refine⟨σ',hs,?_⟩
   cases r with
   |inl s'=>exact hq
   |inr b=>
    cases b with
    |inl s'=>obtain⟨rfl,hs⟩:=hq;exact⟨by simp,rfl,hs⟩
    |inr w=>exact dx2 hq
  ·cases b with
   |inl a=>exact cl1 (s:=.ex nx (hd a)) hq (M.ok hmx (f a) Γ _ o hΓ (h3 a))
   |inr w=>exact cl1 hq (M.ok hmx (g w) Γ _ o hΓ (Kd.dD9 h4 w))
 |_,.LQ (S:=S) (γ:=γ) ri hd nx k x s₀ f g,Γ,c,o,hΓ,h=>by
  rw[M.chk]at h
  refine aK2 hmx (fun r l σ=>Out.never _) true true fuel c ?_
  split at h<;>try(exact h.elim)
  rename_i z ks σ hc
  rw[hc]
  obtain⟨h1,h2,h3,h4⟩:=h
  rw[M.run]
  refine D9.loop (S:=Int×S) (B:=S⊕γ) (fun a=>upd (.t ri (.t (tI a.1))::hd a.2) ⟨rmv (ai7 z) σ.tm,σ.hp⟩) (fun(b:S⊕γ) e σ'=>match b with| .inl a'=>(Out.ex nx (upd (hd a') ⟨rmv (ai7 z) σ.tm,σ.hp⟩)).den (QfP Qf) e σ'| .inr w=>(df0 ⟨rmv (ai7 z) σ.tm,σ.hp⟩ (k.sh w)).den (QfP Qf) e σ') (cp7 h1) (fun a=>?_) (fun b e σ' _ hq=>?_)
  ·have:=M.ok hmx (x a) Γ (.S [.c z] (upd (.t ri (.t (tI a.1))::hd a.2) ⟨rmv (ai7 z) σ.tm,σ.hp⟩)) _ hΓ (h2 a)
   refine fun r hr a w hw=>aL3 (fun e a w hp=>?_) _ _ _ _ (this r hr a w hw)
   obtain⟨σ',hs,hq⟩:=hp
   refine⟨σ',hs,?_⟩
   cases r with
   |inl s'=>exact hq
   |inr b=>
    cases b with
    |inl s'=>obtain⟨rfl,hs⟩:=hq;exact⟨by simp,rfl,hs⟩
    |inr w=>exact dx2 hq
  ·cases b with
   |inl a=>exact cl1 (s:=.ex nx (hd a)) hq (M.ok hmx (f a) Γ _ o hΓ (h3 a))
   |inr w=>exact cl1 hq (M.ok hmx (g w) Γ _ o hΓ (Kd.dD9 h4 w))
 |_,.A enc l i f,Γ,c,o,hΓ,h=>bf5.pre fun y hy=>M.ok hmx (f y) (⟨enc,l,i,y⟩::Γ) c o (fun g hg=>by
   rcases cq9.1 hg with rfl|hg
   ·exact hy
   ·exact hΓ g hg) (h y)
 |_,.B x,Γ,c,o,hΓ,h=>by
  simp only[M.chk]at h
  refine aK2 hmx (fun r l σ=>Out.never _) false true fuel c ?_
  split at h<;>try(exact h.elim)
  rename_i id z ks σ hc
  rw[hc]
  exact D9.block (M.ok hmx x Γ _ o hΓ h)
 |_,.D fz ws x,Γ,c,o,hΓ,h=>by
  simp only[M.chk]at h
  refine aK2 hmx (fun r l σ=>Out.never _) (!x.isJ) false fuel c ?_
  split at h<;>try(exact h.elim)
  rename_i id ops ks σ hc
  rw[hc]
  have:=M.ok hmx x Γ _ o hΓ h (by simp) rfl (fun i V N o b hi=>by simp at hi)
  exact fun r hr a w hw=>this r hr a w (hw.bL6 (fun k t hk=>(cm2 hk).2) (fun k b hk=>hk))
 |_,.Sp b x y,Γ,c,o,hΓ,h=>by
  simp only[M.chk]at h
  refine aK2 hmx (fun r l σ=>Out.never _) true true fuel c ?_
  split at h<;>try(exact h.elim)
  ·rename_i id all h0 bs ws q r vs tm0 hp0 fz kb ks hcc
   rw[hcc]
   split at h<;>try(exact h.elim)
   rename_i j b' hc
   obtain⟨h1,h2,h3⟩:=h
   have h1:=V.eq h1
   subst h1
   exact eT5 hc (M.ok hmx x Γ _ o hΓ h2) (M.ok hmx y Γ _ o hΓ h3)
  ·rename_i all kb q r ks tm hp hcc
   rw[hcc]
   split at h<;>try(exact h.elim)
   rename_i d b' hc
   obtain⟨h1,h2,h3⟩:=h
   have h1:=V.eq h1
   subst h1
   exact eG7 hc (M.ok hmx x Γ _ o hΓ h2) (M.ok hmx y Γ _ o hΓ h3)
 |_,.Nl enc l x y,Γ,c,o,hΓ,h=>by
  simp only[M.chk]at h
  refine aK2 hmx (fun r l σ=>Out.never _) true true fuel c ?_
  split at h<;>try(exact h.elim)
  rename_i all kb q r ks tm hp hc
  rw[hc]
  split at h<;>try(exact h.elim)
  rename_i t z yt d hg ho hd
  split at h<;>try(exact h.elim)
  rename_i s0 e z0 n rs hty hz
  obtain⟨hb,h1,h2,h3,h4⟩:=ay0 h
  have h1:=V.eq h1
  subst h1
  have h2:=V.eq h2
  refine B3.isNil ho hd hb (aF1 hg) hty hz fun b hbl=>?_
  cases b
  ·exact M.ok hmx (y l) Γ (.O all kb r ks _) o hΓ h4
  ·have hl:=hbl rfl
   have e1:M.run (.Nl enc l x y)=x.run:=by rw[M.run,hl,h2]
   rw[e1]
   exact M.ok hmx x Γ (.O all kb r ks _) o hΓ h3
 |_,.Pn id x,Γ,c,o,hΓ,h=>by
  simp only[M.chk]at h
  refine aK2 hmx (fun r l σ=>Out.never _) (!x.isJ) false fuel c ?_
  split at h<;>try(exact h.elim)
  rename_i ks tm hp hc
  rw[hc]
  split at h<;>try(exact h.elim)
  rename_i e sz n rs hb
  intro r hr a w hw
  obtain⟨v,hv⟩:=hw.pin id hb
  exact M.ok hmx x Γ _ o hΓ (h v) r hr a w hv
 |_,.Mm id x,Γ,c,o,hΓ,h=>by
  simp only[M.chk]at h
  refine aK2 hmx (fun r l σ=>Out.never _) true true fuel c ?_
  split at h<;>try(exact h.elim)
  rename_i all kb q r ks tm hp hc
  rw[hc]
  split at h<;>try(exact h.elim)
  rename_i t d hg ho hd
  obtain⟨hb,h1⟩:=ay0 h
  simp only[aI9]at hb
  exact B3.eQ0 id ho hd hb.1 (aF1 hg) hb.2.1 hb.2.2.1 hb.2.2.2 (M.ok hmx x Γ (.O all kb r ks _) o hΓ h1)
 |_,.Ml m l k x,Γ,c,o,hΓ,h=>by
  simp only[M.chk]at h
  refine aK2 hmx (fun r l σ=>Out.never _) true true fuel c ?_
  split at h<;>try(exact h.elim)
  rename_i all kb q r ks tm hp hc
  rw[hc]
  split at h<;>try(exact h.elim)
  rename_i t a b d hg ho hd
  split at h<;>try(exact h.elim)
  rename_i id kv ha hb
  split at h<;>try(exact h.elim)
  rename_i es hl
  obtain⟨hb2,h1,h2⟩:=ay0 h
  have h3:=V.eq h1
  simp only[aZ6]at h3
  obtain⟨e1,e2,e3⟩:=h3
  subst e1 e2 e3
  letI:=m.beq
  exact B3.eo3 m.law ho hd hb2 (aF1 hg) ha hl hb m.ht m.hk m.hz (M.ok hmx x Γ (.O all kb r ks _) o hΓ h2)
 |_,.Mu m l k v x,Γ,c,o,hΓ,h=>by
  simp only[M.chk]at h
  refine aK2 hmx (fun r l σ=>Out.never _) true true fuel c ?_
  split at h<;>try(exact h.elim)
  rename_i all kb q r ks tm hp hc
  rw[hc]
  split at h<;>try(exact h.elim)
  rename_i t a b u hg ho hd
  split at h<;>try(exact h.elim)
  rename_i id kv uv ha hb hu
  split at h<;>try(exact h.elim)
  rename_i es hl
  obtain⟨h1,h2⟩:=h
  have h3:=V.eq h1
  simp only[aZ6]at h3
  obtain⟨e1,e2,e3,e4⟩:=h3
  subst e1 e2 e3 e4
  letI:=m.beq
  exact B3.ew6 m.law ho hd (aF1 hg) ha hl hb hu m.ht m.hk (M.ok hmx x Γ (.O all kb r ks _) o hΓ h2)
end
section
variable {P:Program} {ρ:Type} {C2:Tab}
def qfF (C2:Tab)(rs:List ResultVar)(res:ρ->T)(r:ρ)(σ:St):Tr:=tq (dn3 C2 σ rs) (some (res r))
def nmG (t0 r:T)(hp Z2:List (Nat×G0)):List (Nat×Nat):=
 match dd1 (mtT t0 r) []with
 |l=>match dd1 (boxes hp Z2) l with
  |l=>rest Z2 l
where
 boxes (hp:List (Nat×G0)):List (Nat×G0)->List (Nat×Nat)
  |[]=>[]
  |(j,.box us)::r=>(j,j)::(match look hp j with|some (.box ts)=>mtT.mtL ts us|_=>[])++boxes hp r
  |_::r=>boxes hp r
 has2 (j:Nat):List (Nat×Nat)->Bool
  |[]=>false
  |p::r=>bif bC1 p.2 j then true else has2 j r
 rest:List (Nat×G0)->List (Nat×Nat)->List (Nat×Nat)
  |[],l=>l
  |(j,_)::r,l=>bif has2 j l then rest r l else rest r (l++[(j,j)])
def qfG (C2:Tab)(rs:List ResultVar)(res:ρ->T)(Z2:ρ->List (Nat×G0))(r:ρ)(σ:St):Tr:=
 match eA4 C2 σ rs with
 |some t0=>match nmG t0 (res r) σ.hp (Z2 r)with
  |nm=>match aM2 nm t0 with
   |some t1=>bif cC1 nm&&ba7 (nm.map (·.1))then .and (tq (mrg t1 (res r)) (res r)) (tq ((Z2 r).map (eA3 nm σ.hp)) ((Z2 r).map fun p=>some p.2))else .bad
   |none=>.bad
 |none=>.bad
theorem eR3 {rs:List ResultVar}{res:ρ->T}{Z2:ρ->List (Nat×G0)}{r:ρ}{σ:St}(h:(qfG C2 rs res Z2 r σ).den):eK7 C2 σ rs (res r) (Z2 r):=by
 unfold qfG at h
 split at h<;>try(exact h.elim)
 rename_i t0 h0
 dsimp only at h
 split at h<;>try(exact h.elim)
 rename_i t1 h1
 obtain⟨hb,h2,h3⟩:=ay0 h
 exact⟨_,t0,t1,hb,h0,h1,V.eq h2,V.eq h3⟩
def eM2 (Ev:EqV P)(C2:Tab)(fn:Func)(args:List T)(res:ρ->T)(x:M P ρ ρ):Tr:=
 match fn.body with
 |some c=>bif dQ2 args.length fn.ntmps then x.chk Ev C2 fn.ntmps (qfF C2 fn.results.toList res) [] (.S [.c c] ⟨number 0 args,[]⟩) .top else .bad
 |none=>.bad
def eM3 (Ev:EqV P)(C2:Tab)(fn:Func)(args:List T)(hp:List (Nat×G0))(res:ρ->T)(Z2:ρ->List (Nat×G0))(x:M P ρ ρ):Tr:=
 match fn.body with
 |some c=>bif dQ2 args.length fn.ntmps then x.chk Ev C2 fn.ntmps (qfG C2 fn.results.toList res Z2) [] (.S [.c c] ⟨number 0 args,hp⟩) .top else .bad
 |none=>.bad
structure En (P:Program)where
 C2:Tab
 K0:aV1 P C2
 Ev:EqV P
 hmx:P.follows .mixedOrders=true
def C.of (Z:En P){n:Nat}{fn:Func}(aK6:∀vs w,(callFunc n vs).run P w= .ok (.enter n vs) w)(hf:P.funcs[n]? =some fn)(args:List T)(res:ρ->T)(x:M P ρ ρ)
  (h:(eM2 Z.Ev Z.C2 fn args res x).l=(eM2 Z.Ev Z.C2 fn args res x).r:=by kernel_rfl):C P ρ where
 n:=n
 args:=args
 m:=x.run
 e:=fun k=>x.rn k
 res:=res
 ok:=by
  have h:=Tr.of h
  unfold eM2 at h
  split at h<;>try(exact h.elim)
  rename_i c hb
  obtain⟨hle,h⟩:=ay0 h
  refine aQ3.i Z.K0 fn.ntmps fn.results.toList aK6 hf hb rfl rfl hle fun w0 L=>?_
  have key:D9 ⟨P,Z.C2,Z.K0,w0,L,fn.ntmps⟩ [.c c] _ x.run _:=M.ok (X:=⟨P,Z.C2,Z.K0,w0,L,fn.ntmps⟩) Z.hmx x [] _ .top (by simp) h
  refine fun r hr a w hw=>aL3 (fun e a w hq=>?_) _ _ _ _ (key r hr a w hw)
  obtain⟨σ',hs,he,hq⟩:=hq
  exact⟨σ',hs,he,V.eq hq⟩
 le:=fun k r hr=>M.le k x r hr
def CG.of (Z:En P){n:Nat}{fn:Func}(aK6:∀vs w,(callFunc n vs).run P w= .ok (.enter n vs) w)(hf:P.funcs[n]? =some fn)(args:List T)(hp:List (Nat×G0))(res:ρ->T)(Z2:ρ->List (Nat×G0))(nw:List Nat)(x:M P ρ ρ)
  (h:(eM3 Z.Ev Z.C2 fn args hp res Z2 x).l=(eM3 Z.Ev Z.C2 fn args hp res Z2 x).r:=by kernel_rfl):CG P ρ where
 n:=n
 args:=args
 hp:=hp
 m:=x.run
 e:=fun k=>x.rn k
 res:=res
 Z2:=Z2
 nw:=nw
 ok:=by
  have h:=Tr.of h
  unfold eM3 at h
  split at h<;>try(exact h.elim)
  rename_i c hb
  obtain⟨hle,h⟩:=ay0 h
  refine bg4.i Z.K0 fn.ntmps fn.results.toList aK6 hf hb rfl rfl hle fun w0 L=>?_
  have key:D9 ⟨P,Z.C2,Z.K0,w0,L,fn.ntmps⟩ [.c c] _ x.run _:=M.ok (X:=⟨P,Z.C2,Z.K0,w0,L,fn.ntmps⟩) Z.hmx x [] _ .top (by simp) h
  refine fun r hr a w hw=>aL3 (fun e a w hq=>?_) _ _ _ _ (key r hr a w hw)
  obtain⟨σ',hs,he,hq⟩:=hq
  exact⟨σ',hs,he,eR3 hq⟩
 le:=fun k r hr=>M.le k x r hr
end
open Go.MapKept in
theorem eS3:KeyLaw .string (fun s:ByteArray=>.string s):=⟨fun a b=>by simp[Instr.sameNow],fun a=>by simp[IsKey],fun a b h=>by
 have e:a=b:=by
  obtain⟨a⟩:=a
  obtain⟨b⟩:=b
  have h2:(a==b)=true:=h
  rw[eq_of_beq h2]
 subst e
 simpa[Instr.sameBits]using h⟩
def dt0 {α:Type}:List α->Option (List α)
 |[]=>some []
 |_=>none
def eF0 {α:Type}:List α->Int->Option (List α)
 |[x],n=>if n=1 then some [x]else none
 |_,_=>none
def df8 {α:Type}(g:α->α->Option Int):List α->Option (List α)
 |[]=>some []
 |[x]=>match g x x with
  |some c=>bif decide (c<0)then none else some [x]
  |none=>none
 |_=>none
theorem dz7 {α:Type}{g g':α->α->Option Int}(hg:∀x y r,g' x y=some r->g x y=some r){l r:List α}(h:df8 g' l=some r):bT7 g l=some r:=by
 match l,h with
 |[],h=>
  have:cJ2 g ([]:List α):=⟨by simp,by simp,by simp,by simp,by simp,by simp⟩
  rw[bT8 this];rw[df8]at h;simpa using h
 |[x],h=>
  simp only[df8]at h
  split at h<;>try(cases h;done)
  rename_i c hc
  have hx:=hg x x c hc
  cases hn:decide (c<0)<;>rw[hn]at h<;>simp only[fi0,fh8,reduceCtorEq,aH6]at h
  have hl:ltM g x x=false:=by unfold ltM;rw[hx];simpa using hn
  have:cJ2 g [x]:=⟨by simp,by simp[hx],by simpa using hl,by simp[hl],by simp[hl],by simp⟩
  rw[bT8 this]
  simpa using h
 |_::_::_,h=>simp[df8]at h
def dH1 (x:Int):List Int->List Int
 |[]=>[x]
 |y::l=>bif decide (x<=y)then x::y::l else y::dH1 x l
def isI:List Int->List Int
 |[]=>[]
 |x::l=>dH1 x (isI l)
theorem cv4 (x:Int):∀l:List Int,(dH1 x l).Perm (x::l)
 |[]=>.refl _
 |y::l=>by
  unfold dH1
  cases decide (x<=y)
  ·exact((cv4 x l).cons y).trans (.swap x y l)
  ·exact .refl _
theorem dv0:∀l:List Int,(isI l).Perm l
 |[]=>.refl _
 |x::l=>(cv4 x _).trans ((dv0 l).cons x)
theorem cA9 (x:Int):∀{l:List Int},l.Pairwise (· <=·)->(dH1 x l).Pairwise (· <=·)
 |[],_=>by simp[dH1]
 |y::l,h=>by
  rw[ey0]at h
  unfold dH1
  cases hd:decide (x<=y)
  ·refine ey0.2 ⟨fun z hz=>?_,cA9 x h.2⟩
   rcases cq9.1 ((cv4 x l).mem_iff.1 hz)with rfl|hz
   ·have:=of_decide_eq_false hd;omega
   ·exact h.1 z hz
  ·have hxy:=of_decide_eq_true hd
   exact ey0.2 ⟨fun z hz=>by
    rcases cq9.1 hz with rfl|hz
    ·exact hxy
    ·have:=h.1 z hz;omega,ey0.2 h⟩
theorem cQ0:∀l:List Int,(isI l).Pairwise (· <=·)
 |[]=>.nil
 |x::l=>cA9 x (cQ0 l)
theorem cU1:∀{l m:List Int},l.Perm m->l.Pairwise (· <=·)->m.Pairwise (· <=·)->l=m
 |[],m,h,_,_=>(List.Perm.eq_nil h.symm).symm
 |x::l,[],h,_,_=>absurd h.length_eq (by simp)
 |x::l,y::m,h,hl,hm=>by
  rw[ey0]at hl hm
  have hxy:x=y:=by
   have h1:x∈y::m:=h.mem_iff.1 (bN8 ..)
   have h2:y∈x::l:=h.mem_iff.2 (bN8 ..)
   rcases cq9.1 h1 with e|h1
   ·exact e
   rcases cq9.1 h2 with e|h2
   ·exact e.symm
   have:=hl.1 y h2
   have:=hm.1 x h1
   omega
  subst hxy
  rw[cU1 h.cons_inv hl.2 hm.2]
def dK2 (l:List Int):Option (List Int):=bif dQ2 l.length 1000 then some (isI l)else none
theorem eb6 {l r:List Int}(h:dK2 l=some r):bT6 l=some r:=by
 unfold dK2 at h
 cases hl:dQ2 l.length 1000<;>rw[hl]at h<;>simp only[fi0,fh8,reduceCtorEq,aH6]at h
 subst h
 have:=bo7 hl
 rw[cx7 (by omega)]
 congr 1
 refine cU1 ((List.mergeSort_perm ..).trans (dv0 l).symm) ?_ (cQ0 l)
 have:=List.pairwise_mergeSort (le:=fun x y:Int=>decide (x<=y)) (fun a b c h1 h2=>by simp only[fi3]at h1 h2|-;omega) (fun a b=>by simp only[cI5,fi3];omega) l
 exact this.imp fun h=>of_decide_eq_true h
open Go
def eA2 (n:Int):List Tree:=[tK .u16 n]
def eN0 (n:Int):List Tree:=[tK .u8 n]
@[ext] structure SMap where
 X:List Int
 Y:List Int
 Z:List (List Int)
def cO1 (x:SMap):List Tree:=[tS aJ6 x.X,tS aJ6 x.Y,tS (do4 aJ6) x.Z]
abbrev dh2 (x:SMap):T:=.agg [.t (tS aJ6 x.X),.t (tS aJ6 x.Y),.t (tS (do4 aJ6) x.Z)]
@[ext] structure P8 where
 X:List Int
 Y:List Int
def bH8 (x:P8):List Tree:=[tS aJ6 x.X,tS aJ6 x.Y]
abbrev ch1 (x:P8):T:=.agg [.t (tS aJ6 x.X),.t (tS aJ6 x.Y)]
@[ext] structure aV0 where
 P:Int
 I:Int
 Low:Int
 bn0:Int
def dV7 (x:aV0):List Tree:=[tI x.P,tI x.I,tI x.Low,tI x.bn0]
abbrev dh1 (x:aV0):T:=.agg [.t (tI x.P),.t (tI x.I),.t (tI x.Low),.t (tI x.bn0)]
@[ext] structure o6 where
 Air:SMap
 N8:SMap
 o8:SMap
 aH5:SMap
 L3:P8
 ae6:P8
 av6:P8
 C1:P8
 ae3:aV0
def aQ9 (x:o6):List Tree:=[tS aJ6 x.Air.X,tS aJ6 x.Air.Y,tS (do4 aJ6) x.Air.Z,tS aJ6 x.N8.X,tS aJ6 x.N8.Y,tS (do4 aJ6) x.N8.Z,tS aJ6 x.o8.X,tS aJ6 x.o8.Y,tS (do4 aJ6) x.o8.Z,tS aJ6 x.aH5.X,tS aJ6 x.aH5.Y,tS (do4 aJ6) x.aH5.Z,tS aJ6 x.L3.X,tS aJ6 x.L3.Y,tS aJ6 x.ae6.X,tS aJ6 x.ae6.Y,tS aJ6 x.av6.X,tS aJ6 x.av6.Y,tS aJ6 x.C1.X,tS aJ6 x.C1.Y,tI x.ae3.P,tI x.ae3.I,tI x.ae3.Low,tI x.ae3.bn0]
abbrev S4 (x:o6):T:=.agg [.t (tS aJ6 x.Air.X),.t (tS aJ6 x.Air.Y),.t (tS (do4 aJ6) x.Air.Z),.t (tS aJ6 x.N8.X),.t (tS aJ6 x.N8.Y),.t (tS (do4 aJ6) x.N8.Z),.t (tS aJ6 x.o8.X),.t (tS aJ6 x.o8.Y),.t (tS (do4 aJ6) x.o8.Z),.t (tS aJ6 x.aH5.X),.t (tS aJ6 x.aH5.Y),.t (tS (do4 aJ6) x.aH5.Z),.t (tS aJ6 x.L3.X),.t (tS aJ6 x.L3.Y),.t (tS aJ6 x.ae6.X),.t (tS aJ6 x.ae6.Y),.t (tS aJ6 x.av6.X),.t (tS aJ6 x.av6.Y),.t (tS aJ6 x.C1.X),.t (tS aJ6 x.C1.Y),.t (tI x.ae3.P),.t (tI x.ae3.I),.t (tI x.ae3.Low),.t (tI x.ae3.bn0)]
@[ext] structure L0 where
 ai3:Int
 ao9:Int
 aO6:Int
 I6:Int
 O8:Int
 K7:Int
 aX1:Int
def bC9 (x:L0):List Tree:=[tI x.ai3,tI x.ao9,tI x.aO6,tI x.I6,tI x.O8,tI x.K7,tI x.aX1]
abbrev aL0 (x:L0):T:=.agg [.t (tI x.ai3),.t (tI x.ao9),.t (tI x.aO6),.t (tI x.I6),.t (tI x.O8),.t (tI x.K7),.t (tI x.aX1)]
@[ext] structure o4 where
 z8:List Int
 ao2:Int
def bQ9 (x:o4):List Tree:=[tS aJ6 x.z8,tI x.ao2]
abbrev at5 (x:o4):T:=.agg [.t (tS aJ6 x.z8),.t (tI x.ao2)]
@[ext] structure L6 where
 At:Int
 I4:Int
 bk7:Int
 bN6:Int
 bN7:Int
def al9 (x:L6):List Tree:=[tI x.At,tI x.I4,tI x.bk7,tI x.bN6,tI x.bN7]
abbrev bc3 (x:L6):T:=.agg [.t (tI x.At),.t (tI x.I4),.t (tI x.bk7),.t (tI x.bN6),.t (tI x.bN7)]
@[ext] structure U2 where
 Value:Int
 ae9:Int
 aQ1:Bool
abbrev ch2 (x:U2):T:=.agg [.t (tI x.Value),.t (tI x.ae9),.t (tB x.aQ1)]
@[ext] structure F4 where
 Sum:Int
abbrev bw4 (x:F4):T:=.agg [.t (tI x.Sum)]
@[ext] structure B6 where
 as4:Int
 aH3:Int
 Quiet:Int
def I3 (x:B6):List Tree:=[tI x.as4,tI x.aH3,tI x.Quiet]
abbrev aW8 (x:B6):T:=.agg [.t (tI x.as4),.t (tI x.aH3),.t (tI x.Quiet)]
@[ext] structure aa7 where
 Value:Int
 E0:Int
def am8 (x:aa7):List Tree:=[tI x.Value,tI x.E0]
abbrev bV1 (x:aa7):T:=.agg [.t (tI x.Value),.t (tI x.E0)]
@[ext] structure M6 where
 al8:Bool
 bc7:Bool
 aj4:Int
 bc8:Int
 Cells:List aa7
abbrev br2 (x:M6):T:=.agg [.t (tB x.al8),.t (tB x.bc7),.t (tI x.aj4),.t (tI x.bc8),.t (tS am8 x.Cells)]
@[ext] structure Z7 where
 o8:Int
 N1:Int
abbrev do9 (x:Z7):T:=.agg [.t (tI x.o8),.t (tI x.N1)]
@[ext] structure A5 where
 I4:U2
 ae3:F4
 aa6:List B6
 P9:M6
 O8:Int
 af0:Z7
def bZ2 (x:A5):List Tree:=[tI x.I4.Value,tI x.I4.ae9,tB x.I4.aQ1,tI x.ae3.Sum,tS I3 x.aa6,tB x.P9.al8,tB x.P9.bc7,tI x.P9.aj4,tI x.P9.bc8,tS am8 x.P9.Cells,tI x.O8,tI x.af0.o8,tI x.af0.N1]
abbrev aQ0 (x:A5):T:=.agg [.t (tI x.I4.Value),.t (tI x.I4.ae9),.t (tB x.I4.aQ1),.t (tI x.ae3.Sum),.t (tS I3 x.aa6),.t (tB x.P9.al8),.t (tB x.P9.bc7),.t (tI x.P9.aj4),.t (tI x.P9.bc8),.t (tS am8 x.P9.Cells),.t (tI x.O8),.t (tI x.af0.o8),.t (tI x.af0.N1)]
@[ext] structure D8 where
 V6:Bool
 At:Int
 G7:Int
 E9:Int
 X1:Int
 am3:Int
abbrev bA5 (x:D8):T:=.agg [.t (tB x.V6),.t (tI x.At),.t (tI x.G7),.t (tI x.E9),.t (tI x.X1),.t (tI x.am3)]
@[ext] structure j5 where
 D6:Bool
 At:Int
 Next:Bool
 K2:Bool
def E5 (x:j5):List Tree:=[tB x.D6,tI x.At,tB x.Next,tB x.K2]
abbrev aZ9 (x:j5):T:=.agg [.t (tB x.D6),.t (tI x.At),.t (tB x.Next),.t (tB x.K2)]
@[ext] structure u0 where
 T1:Int
 j1:List j5
def cO4 (x:u0):List Tree:=[tI x.T1,tS E5 x.j1]
abbrev aM8 (x:u0):T:=.agg [.t (tI x.T1),.t (tS E5 x.j1)]
@[ext] structure A0 where
 o9:Int
 N8:Int
 ae6:Int
 End:Int
 Y4:Int
 Gap:Int
 Extra:Int
def B1 (x:A0):List Tree:=[tI x.o9,tI x.N8,tI x.ae6,tI x.End,tI x.Y4,tI x.Gap,tI x.Extra]
abbrev aO8 (x:A0):T:=.agg [.t (tI x.o9),.t (tI x.N8),.t (tI x.ae6),.t (tI x.End),.t (tI x.Y4),.t (tI x.Gap),.t (tI x.Extra)]
@[ext] structure B4 where
 G7:Int
 Kind:Int
 o9:Int
 ai4:Int
def ax4 (x:B4):List Tree:=[tI x.G7,tI x.Kind,tI x.o9,tI x.ai4]
abbrev aW7 (x:B4):T:=.agg [.t (tI x.G7),.t (tI x.Kind),.t (tI x.o9),.t (tI x.ai4)]
@[ext] structure A4 where
 Event:B4
 Left:Int
 D6:Bool
 At:Int
def I0 (x:A4):List Tree:=[tI x.Event.G7,tI x.Event.Kind,tI x.Event.o9,tI x.Event.ai4,tI x.Left,tB x.D6,tI x.At]
abbrev bc4 (x:A4):T:=.agg [.t (tI x.Event.G7),.t (tI x.Event.Kind),.t (tI x.Event.o9),.t (tI x.Event.ai4),.t (tI x.Left),.t (tB x.D6),.t (tI x.At)]
@[ext] structure c8 where
 u4:o4
 A1:D8
 j9:u0
 Next:List A0
 G3:List A4
 Cut:Bool
def bd8 (x:c8):List Tree:=[tS aJ6 x.u4.z8,tI x.u4.ao2,tB x.A1.V6,tI x.A1.At,tI x.A1.G7,tI x.A1.E9,tI x.A1.X1,tI x.A1.am3,tI x.j9.T1,tS E5 x.j9.j1,tS B1 x.Next,tS I0 x.G3,tB x.Cut]
abbrev R5 (x:c8):T:=.agg [.t (tS aJ6 x.u4.z8),.t (tI x.u4.ao2),.t (tB x.A1.V6),.t (tI x.A1.At),.t (tI x.A1.G7),.t (tI x.A1.E9),.t (tI x.A1.X1),.t (tI x.A1.am3),.t (tI x.j9.T1),.t (tS E5 x.j9.j1),.t (tS B1 x.Next),.t (tS I0 x.G3),.t (tB x.Cut)]
abbrev aL1 (x:c8):List T:=[.t (tS aJ6 x.u4.z8),.t (tI x.u4.ao2),.t (tB x.A1.V6),.t (tI x.A1.At),.t (tI x.A1.G7),.t (tI x.A1.E9),.t (tI x.A1.X1),.t (tI x.A1.am3),.t (tI x.j9.T1),.t (tS E5 x.j9.j1),.t (tS B1 x.Next),.t (tS I0 x.G3),.t (tB x.Cut)]
@[ext] structure aa3 where
 Mode:Int
 ax9:Int
 H0:Int
 E9:Int
 N7:Int
 av7:Int
def dc2 (x:aa3):List Tree:=[tI x.Mode,tI x.ax9,tI x.H0,tI x.E9,tI x.N7,tI x.av7]
abbrev aO9 (x:aa3):T:=.agg [.t (tI x.Mode),.t (tI x.ax9),.t (tI x.H0),.t (tI x.E9),.t (tI x.N7),.t (tI x.av7)]
@[ext] structure ad0 where
 aX2:Bool
 bF2:Int
 E0:Int
 Seen:Bool
def cO2 (x:ad0):List Tree:=[tB x.aX2,tI x.bF2,tI x.E0,tB x.Seen]
abbrev aW9 (x:ad0):T:=.agg [.t (tB x.aX2),.t (tI x.bF2),.t (tI x.E0),.t (tB x.Seen)]
@[ext] structure Z6 where
 Seen:Bool
 H0:Int
 E9:Int
def cA1 (x:Z6):List Tree:=[tB x.Seen,tI x.H0,tI x.E9]
abbrev ba9 (x:Z6):T:=.agg [.t (tB x.Seen),.t (tI x.H0),.t (tI x.E9)]
@[ext] structure ah3 where
 Over:Int
 Calm:Int
 Off:Bool
def cO0 (x:ah3):List Tree:=[tI x.Over,tI x.Calm,tB x.Off]
abbrev bk5 (x:ah3):T:=.agg [.t (tI x.Over),.t (tI x.Calm),.t (tB x.Off)]
@[ext] structure aa8 where
 Question:Int
 as7:Int
 U0:Int
 Open:Bool
 Off:Bool
def dc1 (x:aa8):List Tree:=[tI x.Question,tI x.as7,tI x.U0,tB x.Open,tB x.Off]
abbrev aS6 (x:aa8):T:=.agg [.t (tI x.Question),.t (tI x.as7),.t (tI x.U0),.t (tB x.Open),.t (tB x.Off)]
@[ext] structure ao0 where
 T6:Bool
 br3:Int
 aQ2:Int
def bt3 (x:ao0):List Tree:=[tB x.T6,tI x.br3,tI x.aQ2]
abbrev bk6 (x:ao0):T:=.agg [.t (tB x.T6),.t (tI x.br3),.t (tI x.aQ2)]
@[ext] structure u7 where
 Code:Int
 bg2:Int
 Pass:Int
 cC9:Int
 Age:Int
 E4:Int
 cr2:Bool
 Frame:Int
def L9 (x:u7):List Tree:=[tI x.Code,tI x.bg2,tI x.Pass,tI x.cC9,tI x.Age,tI x.E4,tB x.cr2,tI x.Frame]
abbrev aN9 (x:u7):T:=.agg [.t (tI x.Code),.t (tI x.bg2),.t (tI x.Pass),.t (tI x.cC9),.t (tI x.Age),.t (tI x.E4),.t (tB x.cr2),.t (tI x.Frame)]
@[ext] structure A2 where
 F8:Int
 E0:Int
 I9:Int
 Clean:Int
 y9:Int
 Frame:List Int
 H0:Int
def F7 (x:A2):List Tree:=[tI x.F8,tI x.E0,tI x.I9,tI x.Clean,tI x.y9,tS aJ6 x.Frame,tI x.H0]
abbrev cI8 (x:A2):T:=.agg [.t (tI x.F8),.t (tI x.E0),.t (tI x.I9),.t (tI x.Clean),.t (tI x.y9),.t (tS aJ6 x.Frame),.t (tI x.H0)]
@[ext] structure B5 where
 S8:List u7
 L:List A2
 aH2:Int
 ax1:Bool
def aQ8 (x:B5):List Tree:=[tS L9 x.S8,tS F7 x.L,tI x.aH2,tB x.ax1]
abbrev aA0 (x:B5):T:=.agg [.t (tS L9 x.S8),.t (tS F7 x.L),.t (tI x.aH2),.t (tB x.ax1)]
@[ext] structure Y5 where
 J8:Int
 D1:Int
 Rest:Int
 K9:Int
 O8:Int
 Path:List Int
def cO3 (x:Y5):List Tree:=[tI x.J8,tI x.D1,tI x.Rest,tI x.K9,tI x.O8,tS aJ6 x.Path]
abbrev aX0 (x:Y5):T:=.agg [.t (tI x.J8),.t (tI x.D1),.t (tI x.Rest),.t (tI x.K9),.t (tI x.O8),.t (tS aJ6 x.Path)]
@[ext] structure ae5 where
 u6:o6
 u3:A5
 j3:c8
 Q0:aa3
 M5:ad0
 H6:Z6
 M4:ah3
 K8:aa8
 L5:ao0
 H4:B5
 A7:Y5
 aa4:L0
 Time:Int
abbrev ca1 (x:ae5):T:=.agg [.t (tS aJ6 x.u6.Air.X),.t (tS aJ6 x.u6.Air.Y),.t (tS (do4 aJ6) x.u6.Air.Z),.t (tS aJ6 x.u6.N8.X),.t (tS aJ6 x.u6.N8.Y),.t (tS (do4 aJ6) x.u6.N8.Z),.t (tS aJ6 x.u6.o8.X),.t (tS aJ6 x.u6.o8.Y),.t (tS (do4 aJ6) x.u6.o8.Z),.t (tS aJ6 x.u6.aH5.X),.t (tS aJ6 x.u6.aH5.Y),.t (tS (do4 aJ6) x.u6.aH5.Z),.t (tS aJ6 x.u6.L3.X),.t (tS aJ6 x.u6.L3.Y),.t (tS aJ6 x.u6.ae6.X),.t (tS aJ6 x.u6.ae6.Y),.t (tS aJ6 x.u6.av6.X),.t (tS aJ6 x.u6.av6.Y),.t (tS aJ6 x.u6.C1.X),.t (tS aJ6 x.u6.C1.Y),.t (tI x.u6.ae3.P),.t (tI x.u6.ae3.I),.t (tI x.u6.ae3.Low),.t (tI x.u6.ae3.bn0),.t (tI x.u3.I4.Value),.t (tI x.u3.I4.ae9),.t (tB x.u3.I4.aQ1),.t (tI x.u3.ae3.Sum),.t (tS I3 x.u3.aa6),.t (tB x.u3.P9.al8),.t (tB x.u3.P9.bc7),.t (tI x.u3.P9.aj4),.t (tI x.u3.P9.bc8),.t (tS am8 x.u3.P9.Cells),.t (tI x.u3.O8),.t (tI x.u3.af0.o8),.t (tI x.u3.af0.N1),.t (tS aJ6 x.j3.u4.z8),.t (tI x.j3.u4.ao2),.t (tB x.j3.A1.V6),.t (tI x.j3.A1.At),.t (tI x.j3.A1.G7),.t (tI x.j3.A1.E9),.t (tI x.j3.A1.X1),.t (tI x.j3.A1.am3),.t (tI x.j3.j9.T1),.t (tS E5 x.j3.j9.j1),.t (tS B1 x.j3.Next),.t (tS I0 x.j3.G3),.t (tB x.j3.Cut),.t (tI x.Q0.Mode),.t (tI x.Q0.ax9),.t (tI x.Q0.H0),.t (tI x.Q0.E9),.t (tI x.Q0.N7),.t (tI x.Q0.av7),.t (tB x.M5.aX2),.t (tI x.M5.bF2),.t (tI x.M5.E0),.t (tB x.M5.Seen),.t (tB x.H6.Seen),.t (tI x.H6.H0),.t (tI x.H6.E9),.t (tI x.M4.Over),.t (tI x.M4.Calm),.t (tB x.M4.Off),.t (tI x.K8.Question),.t (tI x.K8.as7),.t (tI x.K8.U0),.t (tB x.K8.Open),.t (tB x.K8.Off),.t (tB x.L5.T6),.t (tI x.L5.br3),.t (tI x.L5.aQ2),.t (tS L9 x.H4.S8),.t (tS F7 x.H4.L),.t (tI x.H4.aH2),.t (tB x.H4.ax1),.t (tI x.A7.J8),.t (tI x.A7.D1),.t (tI x.A7.Rest),.t (tI x.A7.K9),.t (tI x.A7.O8),.t (tS aJ6 x.A7.Path),.t (tI x.aa4.ai3),.t (tI x.aa4.ao9),.t (tI x.aa4.aO6),.t (tI x.aa4.I6),.t (tI x.aa4.O8),.t (tI x.aa4.K7),.t (tI x.aa4.aX1),.t (tI x.Time)]
abbrev eK4 (x:ae5):List T:=[.t (tS aJ6 x.u6.Air.X),.t (tS aJ6 x.u6.Air.Y),.t (tS (do4 aJ6) x.u6.Air.Z),.t (tS aJ6 x.u6.N8.X),.t (tS aJ6 x.u6.N8.Y),.t (tS (do4 aJ6) x.u6.N8.Z),.t (tS aJ6 x.u6.o8.X),.t (tS aJ6 x.u6.o8.Y),.t (tS (do4 aJ6) x.u6.o8.Z),.t (tS aJ6 x.u6.aH5.X),.t (tS aJ6 x.u6.aH5.Y),.t (tS (do4 aJ6) x.u6.aH5.Z),.t (tS aJ6 x.u6.L3.X),.t (tS aJ6 x.u6.L3.Y),.t (tS aJ6 x.u6.ae6.X),.t (tS aJ6 x.u6.ae6.Y),.t (tS aJ6 x.u6.av6.X),.t (tS aJ6 x.u6.av6.Y),.t (tS aJ6 x.u6.C1.X),.t (tS aJ6 x.u6.C1.Y),.t (tI x.u6.ae3.P),.t (tI x.u6.ae3.I),.t (tI x.u6.ae3.Low),.t (tI x.u6.ae3.bn0),.t (tI x.u3.I4.Value),.t (tI x.u3.I4.ae9),.t (tB x.u3.I4.aQ1),.t (tI x.u3.ae3.Sum),.t (tS I3 x.u3.aa6),.t (tB x.u3.P9.al8),.t (tB x.u3.P9.bc7),.t (tI x.u3.P9.aj4),.t (tI x.u3.P9.bc8),.t (tS am8 x.u3.P9.Cells),.t (tI x.u3.O8),.t (tI x.u3.af0.o8),.t (tI x.u3.af0.N1),.t (tS aJ6 x.j3.u4.z8),.t (tI x.j3.u4.ao2),.t (tB x.j3.A1.V6),.t (tI x.j3.A1.At),.t (tI x.j3.A1.G7),.t (tI x.j3.A1.E9),.t (tI x.j3.A1.X1),.t (tI x.j3.A1.am3),.t (tI x.j3.j9.T1),.t (tS E5 x.j3.j9.j1),.t (tS B1 x.j3.Next),.t (tS I0 x.j3.G3),.t (tB x.j3.Cut),.t (tI x.Q0.Mode),.t (tI x.Q0.ax9),.t (tI x.Q0.H0),.t (tI x.Q0.E9),.t (tI x.Q0.N7),.t (tI x.Q0.av7),.t (tB x.M5.aX2),.t (tI x.M5.bF2),.t (tI x.M5.E0),.t (tB x.M5.Seen),.t (tB x.H6.Seen),.t (tI x.H6.H0),.t (tI x.H6.E9),.t (tI x.M4.Over),.t (tI x.M4.Calm),.t (tB x.M4.Off),.t (tI x.K8.Question),.t (tI x.K8.as7),.t (tI x.K8.U0),.t (tB x.K8.Open),.t (tB x.K8.Off),.t (tB x.L5.T6),.t (tI x.L5.br3),.t (tI x.L5.aQ2),.t (tS L9 x.H4.S8),.t (tS F7 x.H4.L),.t (tI x.H4.aH2),.t (tB x.H4.ax1),.t (tI x.A7.J8),.t (tI x.A7.D1),.t (tI x.A7.Rest),.t (tI x.A7.K9),.t (tI x.A7.O8),.t (tS aJ6 x.A7.Path),.t (tI x.aa4.ai3),.t (tI x.aa4.ao9),.t (tI x.aa4.aO6),.t (tI x.aa4.I6),.t (tI x.aa4.O8),.t (tI x.aa4.K7),.t (tI x.aa4.aX1),.t (tI x.Time)]
@[ext] structure j6 where
 At:Int
 Channel:Int
 K2:Bool
def p7 (x:j6):List Tree:=[tI x.At,tI x.Channel,tB x.K2]
abbrev aA1 (x:j6):T:=.agg [.t (tI x.At),.t (tI x.Channel),.t (tB x.K2)]
@[ext] structure V9 where
 T2:Int
 ae8:List Int
def am7 (x:V9):List Tree:=[tI x.T2,tS aJ6 x.ae8]
abbrev bV0 (x:V9):T:=.agg [.t (tI x.T2),.t (tS aJ6 x.ae8)]
@[ext] structure ak6 where
 Time:Int
 D1:Int
 o8:Int
 cI9:Int
 ch8:List j6
 al8:List V9
 Off:Bool
def bx6 (x:ak6):List Tree:=[tI x.Time,tI x.D1,tI x.o8,tI x.cI9,tS p7 x.ch8,tS am7 x.al8,tB x.Off]
abbrev cr1 (x:ak6):T:=.agg [.t (tI x.Time),.t (tI x.D1),.t (tI x.o8),.t (tI x.cI9),.t (tS p7 x.ch8),.t (tS am7 x.al8),.t (tB x.Off)]
@[ext] structure ae4 where
 cW2:Int
 To:Int
 aO5:Int
 Value:Int
def aG7 (x:ae4):List Tree:=[tI x.cW2,tI x.To,tI x.aO5,tI x.Value]
abbrev bN4 (x:ae4):T:=.agg [.t (tI x.cW2),.t (tI x.To),.t (tI x.aO5),.t (tI x.Value)]
abbrev dC6 (x:(Int×Int×Int×Int×Int)):T:=.agg [.t (tI x.1),.t (tI x.2.1),.t (tI x.2.2.1),.t (tI x.2.2.2.1),.t (tI x.2.2.2.2)]
@[ext] structure I5 where
 word:ByteArray
 low:Int
 high:Int
abbrev ca2 (x:(I5×I5×I5×I5×I5)):T:=.agg [.t (.v (.string x.1.word)),.t (tI x.1.low),.t (tI x.1.high),.t (.v (.string x.2.1.word)),.t (tI x.2.1.low),.t (tI x.2.1.high),.t (.v (.string x.2.2.1.word)),.t (tI x.2.2.1.low),.t (tI x.2.2.1.high),.t (.v (.string x.2.2.2.1.word)),.t (tI x.2.2.2.1.low),.t (tI x.2.2.2.1.high),.t (.v (.string x.2.2.2.2.word)),.t (tI x.2.2.2.2.low),.t (tI x.2.2.2.2.high)]
@[ext] structure aI0 where
 av7:Int
 aP0:Int
def cd6 (x:aI0):List Tree:=[tI x.av7,tI x.aP0]
abbrev aB2 (x:aI0):T:=.agg [.t (tI x.av7),.t (tI x.aP0)]
@[ext] structure ch7 where
 bw5:List Int
def cN9 (x:ch7):List Tree:=[tS aJ6 x.bw5]
abbrev bN5 (x:ch7):T:=.agg [.t (tS aJ6 x.bw5)]
@[ext] structure O3 where
 I6:Int
 N9:List A0
 o8:Int
def cl5 (x:O3):List Tree:=[tI x.I6,tS B1 x.N9,tI x.o8]
abbrev dC5 (x:O3):T:=.agg [.t (tI x.I6),.t (tS B1 x.N9),.t (tI x.o8)]
@[ext] structure j8 where
 u:ae5
 d:L6
 k:List ae4
 t:Int
 o7:Int
 Y6:List V9
 at4:Int
 B9:Int
 aP8:Int
 D3:Int
 aJ0:Int
 E6:O3
 U7:Int
 w9:Int
 known:Bool
 cut:Bool
 u9:List j6
 S7:Int
def bj8 (x:j8):List Tree:=[tS aJ6 x.u.u6.Air.X,tS aJ6 x.u.u6.Air.Y,tS (do4 aJ6) x.u.u6.Air.Z,tS aJ6 x.u.u6.N8.X,tS aJ6 x.u.u6.N8.Y,tS (do4 aJ6) x.u.u6.N8.Z,tS aJ6 x.u.u6.o8.X,tS aJ6 x.u.u6.o8.Y,tS (do4 aJ6) x.u.u6.o8.Z,tS aJ6 x.u.u6.aH5.X,tS aJ6 x.u.u6.aH5.Y,tS (do4 aJ6) x.u.u6.aH5.Z,tS aJ6 x.u.u6.L3.X,tS aJ6 x.u.u6.L3.Y,tS aJ6 x.u.u6.ae6.X,tS aJ6 x.u.u6.ae6.Y,tS aJ6 x.u.u6.av6.X,tS aJ6 x.u.u6.av6.Y,tS aJ6 x.u.u6.C1.X,tS aJ6 x.u.u6.C1.Y,tI x.u.u6.ae3.P,tI x.u.u6.ae3.I,tI x.u.u6.ae3.Low,tI x.u.u6.ae3.bn0,tI x.u.u3.I4.Value,tI x.u.u3.I4.ae9,tB x.u.u3.I4.aQ1,tI x.u.u3.ae3.Sum,tS I3 x.u.u3.aa6,tB x.u.u3.P9.al8,tB x.u.u3.P9.bc7,tI x.u.u3.P9.aj4,tI x.u.u3.P9.bc8,tS am8 x.u.u3.P9.Cells,tI x.u.u3.O8,tI x.u.u3.af0.o8,tI x.u.u3.af0.N1,tS aJ6 x.u.j3.u4.z8,tI x.u.j3.u4.ao2,tB x.u.j3.A1.V6,tI x.u.j3.A1.At,tI x.u.j3.A1.G7,tI x.u.j3.A1.E9,tI x.u.j3.A1.X1,tI x.u.j3.A1.am3,tI x.u.j3.j9.T1,tS E5 x.u.j3.j9.j1,tS B1 x.u.j3.Next,tS I0 x.u.j3.G3,tB x.u.j3.Cut,tI x.u.Q0.Mode,tI x.u.Q0.ax9,tI x.u.Q0.H0,tI x.u.Q0.E9,tI x.u.Q0.N7,tI x.u.Q0.av7,tB x.u.M5.aX2,tI x.u.M5.bF2,tI x.u.M5.E0,tB x.u.M5.Seen,tB x.u.H6.Seen,tI x.u.H6.H0,tI x.u.H6.E9,tI x.u.M4.Over,tI x.u.M4.Calm,tB x.u.M4.Off,tI x.u.K8.Question,tI x.u.K8.as7,tI x.u.K8.U0,tB x.u.K8.Open,tB x.u.K8.Off,tB x.u.L5.T6,tI x.u.L5.br3,tI x.u.L5.aQ2,tS L9 x.u.H4.S8,tS F7 x.u.H4.L,tI x.u.H4.aH2,tB x.u.H4.ax1,tI x.u.A7.J8,tI x.u.A7.D1,tI x.u.A7.Rest,tI x.u.A7.K9,tI x.u.A7.O8,tS aJ6 x.u.A7.Path,tI x.u.aa4.ai3,tI x.u.aa4.ao9,tI x.u.aa4.aO6,tI x.u.aa4.I6,tI x.u.aa4.O8,tI x.u.aa4.K7,tI x.u.aa4.aX1,tI x.u.Time,tI x.d.At,tI x.d.I4,tI x.d.bk7,tI x.d.bN6,tI x.d.bN7,tS aG7 x.k,tI x.t,tI x.o7,tS am7 x.Y6,tI x.at4,tI x.B9,tI x.aP8,tI x.D3,tI x.aJ0,tI x.E6.I6,tS B1 x.E6.N9,tI x.E6.o8,tI x.U7,tI x.w9,tB x.known,tB x.cut,tS p7 x.u9,tI x.S7]
abbrev G2 (x:j8):List T:=[.t (tS aJ6 x.u.u6.Air.X),.t (tS aJ6 x.u.u6.Air.Y),.t (tS (do4 aJ6) x.u.u6.Air.Z),.t (tS aJ6 x.u.u6.N8.X),.t (tS aJ6 x.u.u6.N8.Y),.t (tS (do4 aJ6) x.u.u6.N8.Z),.t (tS aJ6 x.u.u6.o8.X),.t (tS aJ6 x.u.u6.o8.Y),.t (tS (do4 aJ6) x.u.u6.o8.Z),.t (tS aJ6 x.u.u6.aH5.X),.t (tS aJ6 x.u.u6.aH5.Y),.t (tS (do4 aJ6) x.u.u6.aH5.Z),.t (tS aJ6 x.u.u6.L3.X),.t (tS aJ6 x.u.u6.L3.Y),.t (tS aJ6 x.u.u6.ae6.X),.t (tS aJ6 x.u.u6.ae6.Y),.t (tS aJ6 x.u.u6.av6.X),.t (tS aJ6 x.u.u6.av6.Y),.t (tS aJ6 x.u.u6.C1.X),.t (tS aJ6 x.u.u6.C1.Y),.t (tI x.u.u6.ae3.P),.t (tI x.u.u6.ae3.I),.t (tI x.u.u6.ae3.Low),.t (tI x.u.u6.ae3.bn0),.t (tI x.u.u3.I4.Value),.t (tI x.u.u3.I4.ae9),.t (tB x.u.u3.I4.aQ1),.t (tI x.u.u3.ae3.Sum),.t (tS I3 x.u.u3.aa6),.t (tB x.u.u3.P9.al8),.t (tB x.u.u3.P9.bc7),.t (tI x.u.u3.P9.aj4),.t (tI x.u.u3.P9.bc8),.t (tS am8 x.u.u3.P9.Cells),.t (tI x.u.u3.O8),.t (tI x.u.u3.af0.o8),.t (tI x.u.u3.af0.N1),.t (tS aJ6 x.u.j3.u4.z8),.t (tI x.u.j3.u4.ao2),.t (tB x.u.j3.A1.V6),.t (tI x.u.j3.A1.At),.t (tI x.u.j3.A1.G7),.t (tI x.u.j3.A1.E9),.t (tI x.u.j3.A1.X1),.t (tI x.u.j3.A1.am3),.t (tI x.u.j3.j9.T1),.t (tS E5 x.u.j3.j9.j1),.t (tS B1 x.u.j3.Next),.t (tS I0 x.u.j3.G3),.t (tB x.u.j3.Cut),.t (tI x.u.Q0.Mode),.t (tI x.u.Q0.ax9),.t (tI x.u.Q0.H0),.t (tI x.u.Q0.E9),.t (tI x.u.Q0.N7),.t (tI x.u.Q0.av7),.t (tB x.u.M5.aX2),.t (tI x.u.M5.bF2),.t (tI x.u.M5.E0),.t (tB x.u.M5.Seen),.t (tB x.u.H6.Seen),.t (tI x.u.H6.H0),.t (tI x.u.H6.E9),.t (tI x.u.M4.Over),.t (tI x.u.M4.Calm),.t (tB x.u.M4.Off),.t (tI x.u.K8.Question),.t (tI x.u.K8.as7),.t (tI x.u.K8.U0),.t (tB x.u.K8.Open),.t (tB x.u.K8.Off),.t (tB x.u.L5.T6),.t (tI x.u.L5.br3),.t (tI x.u.L5.aQ2),.t (tS L9 x.u.H4.S8),.t (tS F7 x.u.H4.L),.t (tI x.u.H4.aH2),.t (tB x.u.H4.ax1),.t (tI x.u.A7.J8),.t (tI x.u.A7.D1),.t (tI x.u.A7.Rest),.t (tI x.u.A7.K9),.t (tI x.u.A7.O8),.t (tS aJ6 x.u.A7.Path),.t (tI x.u.aa4.ai3),.t (tI x.u.aa4.ao9),.t (tI x.u.aa4.aO6),.t (tI x.u.aa4.I6),.t (tI x.u.aa4.O8),.t (tI x.u.aa4.K7),.t (tI x.u.aa4.aX1),.t (tI x.u.Time),.t (tI x.d.At),.t (tI x.d.I4),.t (tI x.d.bk7),.t (tI x.d.bN6),.t (tI x.d.bN7),.t (tS aG7 x.k),.t (tI x.t),.t (tI x.o7),.t (tS am7 x.Y6),.t (tI x.at4),.t (tI x.B9),.t (tI x.aP8),.t (tI x.D3),.t (tI x.aJ0),.t (tI x.E6.I6),.t (tS B1 x.E6.N9),.t (tI x.E6.o8),.t (tI x.U7),.t (tI x.w9),.t (tB x.known),.t (tB x.cut),.t (tS p7 x.u9),.t (tI x.S7)]
abbrev dp0 (x:(Bool×Bool×Bool×Bool×Bool×Bool×Bool)):T:=.agg [.t (tB x.1),.t (tB x.2.1),.t (tB x.2.2.1),.t (tB x.2.2.2.1),.t (tB x.2.2.2.2.1),.t (tB x.2.2.2.2.2.1),.t (tB x.2.2.2.2.2.2)]
@[ext] structure S5 where
 Name:ByteArray
 cZ3:Int
 E4:Int
 ae8:List Int
 ch5:Int
def ab9 (x:S5):List Tree:=[.v (.string x.Name),tI x.cZ3,tI x.E4,tS aJ6 x.ae8,tI x.ch5]
abbrev cy6 (x:S5):T:=.agg [.t (.v (.string x.Name)),.t (tI x.cZ3),.t (tI x.E4),.t (tS aJ6 x.ae8),.t (tI x.ch5)]
@[ext] structure j2 where
 N1:Int
 Kind:Int
 o8:Int
 E4:Int
def C6 (x:j2):List Tree:=[tI x.N1,tI x.Kind,tI x.o8,tI x.E4]
abbrev G5 (x:j2):T:=.agg [.t (tI x.N1),.t (tI x.Kind),.t (tI x.o8),.t (tI x.E4)]
@[ext] structure W4 where
 bF3:Int
 bF4:Int
 D1:Int
 K9:Int
 L3:Int
 aH9:Int
 Lambda:Int
 au3:Int
 X0:List Int
 Requests:List j2
abbrev cZ1 (x:W4):T:=.agg [.t (tI x.bF3),.t (tI x.bF4),.t (tI x.D1),.t (tI x.K9),.t (tI x.L3),.t (tI x.aH9),.t (tI x.Lambda),.t (tI x.au3),.t (tS aJ6 x.X0),.t (tS C6 x.Requests)]
@[ext] structure ee4 where
 eV5:Int
 D1:Int
abbrev eK3 (x:ee4):T:=.agg [.t (tI x.eV5),.t (tI x.D1)]
@[ext] structure k6 where
 t:o6
 e:o4
 b:L0
 c:A5
 i:W4
 wanted:Int
 w9:Int
 ad7:Int
 late:Int
 pattern:List Bool
 time:Int
 out:O3
 fail:Int
abbrev Q4 (x:k6):List T:=[.t (tS aJ6 x.t.Air.X),.t (tS aJ6 x.t.Air.Y),.t (tS (do4 aJ6) x.t.Air.Z),.t (tS aJ6 x.t.N8.X),.t (tS aJ6 x.t.N8.Y),.t (tS (do4 aJ6) x.t.N8.Z),.t (tS aJ6 x.t.o8.X),.t (tS aJ6 x.t.o8.Y),.t (tS (do4 aJ6) x.t.o8.Z),.t (tS aJ6 x.t.aH5.X),.t (tS aJ6 x.t.aH5.Y),.t (tS (do4 aJ6) x.t.aH5.Z),.t (tS aJ6 x.t.L3.X),.t (tS aJ6 x.t.L3.Y),.t (tS aJ6 x.t.ae6.X),.t (tS aJ6 x.t.ae6.Y),.t (tS aJ6 x.t.av6.X),.t (tS aJ6 x.t.av6.Y),.t (tS aJ6 x.t.C1.X),.t (tS aJ6 x.t.C1.Y),.t (tI x.t.ae3.P),.t (tI x.t.ae3.I),.t (tI x.t.ae3.Low),.t (tI x.t.ae3.bn0),.t (tS aJ6 x.e.z8),.t (tI x.e.ao2),.t (tI x.b.ai3),.t (tI x.b.ao9),.t (tI x.b.aO6),.t (tI x.b.I6),.t (tI x.b.O8),.t (tI x.b.K7),.t (tI x.b.aX1),.t (tI x.c.I4.Value),.t (tI x.c.I4.ae9),.t (tB x.c.I4.aQ1),.t (tI x.c.ae3.Sum),.t (tS I3 x.c.aa6),.t (tB x.c.P9.al8),.t (tB x.c.P9.bc7),.t (tI x.c.P9.aj4),.t (tI x.c.P9.bc8),.t (tS am8 x.c.P9.Cells),.t (tI x.c.O8),.t (tI x.c.af0.o8),.t (tI x.c.af0.N1),.t (tI x.i.bF3),.t (tI x.i.bF4),.t (tI x.i.D1),.t (tI x.i.K9),.t (tI x.i.L3),.t (tI x.i.aH9),.t (tI x.i.Lambda),.t (tI x.i.au3),.t (tS aJ6 x.i.X0),.t (tS C6 x.i.Requests),.t (tI x.wanted),.t (tI x.w9),.t (tI x.ad7),.t (tI x.late),.t (tS Pv.dG2 x.pattern),.t (tI x.time),.t (tI x.out.I6),.t (tS B1 x.out.N9),.t (tI x.out.o8),.t (tI x.fail)]
@[ext] structure ap0 where
 A7:Y5
 b:L0
abbrev bc5 (x:ap0):List T:=[.t (tI x.A7.J8),.t (tI x.A7.D1),.t (tI x.A7.Rest),.t (tI x.A7.K9),.t (tI x.A7.O8),.t (tS aJ6 x.A7.Path),.t (tI x.b.ai3),.t (tI x.b.ao9),.t (tI x.b.aO6),.t (tI x.b.I6),.t (tI x.b.O8),.t (tI x.b.K7),.t (tI x.b.aX1)]
@[ext] structure p6 where
 low:Int
 high:Int
 source:Int
abbrev cC7 (x:p6):T:=.agg [.t (tI x.low),.t (tI x.high),.t (tI x.source)]
@[ext] structure a7 where
 x:B4
 cF2:Int
def A8 (x:a7):List Tree:=[tI x.x.G7,tI x.x.Kind,tI x.x.o9,tI x.x.ai4,tI x.cF2]
abbrev A6 (x:a7):T:=.agg [.t (tI x.x.G7),.t (tI x.x.Kind),.t (tI x.x.o9),.t (tI x.x.ai4),.t (tI x.cF2)]
def dM8 (P:Program):List Field->Option (List (Nat×Nat))
 |[]=>some []
 |f::l=>(P.info? f.type).bind fun i=>(dM8 P l).map fun r=>(f.offset,i.size)::r
def ej1 (P:Program):TypeDesc->Option TD
 | .int k=>some (.int k)
 | .bool=>some .bool
 | .string=>some .string
 | .slice e=>some (.slice e)
 | .array n e=>some (.array n e)
 | .struct fs=>(dM8 P fs.toList).map TD.struct
 |_=>some .other
def eS9 (P:Program)(t:Nat):Option TI:=
 (P.info? t).bind fun i=>(P.underlying t).bind fun d=>i.zero.bind fun z=>(ej1 P d).bind fun x=>bif dQ2 i.bytes 65536 then some ⟨i.size,x,z.cells.toList⟩else none
def ev1 (P:Program):List Nat->Option Tab
 |[]=>some []
 |t::l=>(eS9 P t).bind fun i=>(ev1 P l).map fun r=>(t,i)::r
theorem ds7 {P:Program}:∀{fs:List Field}{l:List (Nat×Nat)},dM8 P fs=some l->l.length=fs.length/\∀(f o n:Nat),l[f]? =some (o,n)->∃(fd:Field) (i:TypeInfo),fs[f]? =some fd/\fd.offset=o/\P.info? fd.type=some i/\i.size=n
 |[],l,h=>by cases h;exact⟨rfl,fun f o n h=>by simp at h⟩
 |x::fs,l,h=>by
  simp only[dM8,eY4,eC5]at h
  obtain⟨i,h1,r,h2,rfl⟩:=h
  obtain⟨h3,h4⟩:=ds7 h2
  refine⟨by simp[h3],fun f o n hf=>?_⟩
  cases f with
  |zero=>simp only[cY9,aH6,aZ6]at hf;exact⟨x,i,rfl,hf.1,h1,hf.2⟩
  |succ f=>simp only[List.getElem?_cons_succ]at hf|-;exact h4 f o n hf
theorem ej2 {P:Program}{d:TypeDesc}{x:TD}(h:ej1 P d=some x):x.ok P d:=by
 cases d<;>simp only[ej1]at h<;>try(cases h;first|rfl|trivial)
 rename_i fs
 rw[eC5]at h
 obtain⟨l,h1,rfl⟩:=h
 obtain⟨h2,h3⟩:=ds7 h1
 refine⟨fs,rfl,by simpa using h2,fun f o n hf=>?_⟩
 obtain⟨fd,i,h4,h5⟩:=h3 f o n hf
 exact⟨fd,i,by simpa using h4,h5⟩
theorem do1 {P:Program}{t:Nat}{i:TI}(h:eS9 P t=some i):bg3 P t i:=by
 simp only[eS9,eY4]at h
 obtain⟨a,h1,d,h2,z,h3,x,h4,h5⟩:=h
 cases hb:dQ2 a.bytes 65536
 ·rw[hb]at h5;cases h5
 ·rw[hb]at h5;cases h5
  exact⟨a,d,h1,rfl,h2,ej2 h4,⟨z,h3,rfl⟩,bo7 hb⟩
theorem dA9 {P:Program}:∀{l:List Nat}{C2:Tab},ev1 P l=some C2->aV1 P C2
 |[],C2,h=>by cases h;intro t ti h;cases h
 |t::l,C2,h=>by
  simp only[ev1,eY4,eC5]at h
  obtain⟨i,h1,r,h2,rfl⟩:=h
  exact fun u ti hu=>ev2 hu (do1 h1) fun hu=>dA9 h2 u ti hu
end Go.Pv
namespace Go.Proofs.YtmhdghdbojdgfaaGreat
open Go Go.Pv Go.Proofs
set_option maxHeartbeats 4000000
theorem mixed:Tryz.prog.follows .mixedOrders=true:=by kernel_rfl
def F9:Value:=.int .i64 0
def Y7:Value:=.slice none 0 0
def C2:Tab:=[(3,⟨1,.int .i64,[F9]⟩),
 (4,⟨1,.bool,[.bool false]⟩),
 (5,⟨1,.int .u8,[.int .u8 0]⟩),
 (9,⟨1,.string,[.string (ByteArray.mk #[])]⟩),
 (22,⟨1,.slice 3,[Y7]⟩),
 (23,⟨1,.slice 22,[Y7]⟩),
 (25,⟨3,.struct [(0,1),(1,1),(2,1)],[Y7,Y7,Y7]⟩),
 (27,⟨2,.struct [(0,1),(1,1)],[Y7,Y7]⟩),
 (29,⟨4,.struct [(0,1),(1,1),(2,1),(3,1)],[F9,F9,F9,F9]⟩),
 (31,⟨24,.struct [(0,3),(3,3),(6,3),(9,3),(12,2),(14,2),(16,2),(18,2),(20,4)],[Y7,Y7,Y7,Y7,Y7,Y7,Y7,Y7,Y7,Y7,Y7,Y7,Y7,Y7,Y7,Y7,Y7,Y7,Y7,Y7,F9,F9,F9,F9]⟩),
 (33,⟨7,.struct [(0,1),(1,1),(2,1),(3,1),(4,1),(5,1),(6,1)],[F9,F9,F9,F9,F9,F9,F9]⟩),
 (35,⟨2,.struct [(0,1),(1,1)],[Y7,F9]⟩),
 (36,⟨1,.slice 101,[Y7]⟩),
 (40,⟨3,.struct [(0,1),(1,1),(2,1)],[F9,F9,.bool false]⟩),
 (42,⟨1,.struct [(0,1)],[F9]⟩),
 (43,⟨1,.slice 205,[Y7]⟩),
 (44,⟨1,.slice 335,[Y7]⟩),
 (46,⟨5,.struct [(0,1),(1,1),(2,1),(3,1),(4,1)],[.bool false,.bool false,F9,F9,Y7]⟩),
 (48,⟨2,.struct [(0,1),(1,1)],[F9,F9]⟩),
 (50,⟨13,.struct [(0,3),(3,1),(4,1),(5,5),(10,1),(11,2)],[F9,F9,.bool false,F9,Y7,.bool false,.bool false,F9,F9,Y7,F9,F9,F9]⟩),
 (52,⟨6,.struct [(0,1),(1,1),(2,1),(3,1),(4,1),(5,1)],[.bool false,F9,F9,F9,F9,F9]⟩),
 (53,⟨1,.slice 327,[Y7]⟩),
 (55,⟨2,.struct [(0,1),(1,1)],[F9,Y7]⟩),
 (56,⟨1,.slice 267,[Y7]⟩),
 (57,⟨1,.slice 221,[Y7]⟩),
 (59,⟨13,.struct [(0,2),(2,6),(8,2),(10,1),(11,1),(12,1)],[Y7,F9,.bool false,F9,F9,F9,F9,F9,F9,Y7,Y7,Y7,.bool false]⟩),
 (61,⟨6,.struct [(0,1),(1,1),(2,1),(3,1),(4,1),(5,1)],[F9,F9,F9,F9,F9,F9]⟩),
 (63,⟨4,.struct [(0,1),(1,1),(2,1),(3,1)],[.bool false,F9,F9,.bool false]⟩),
 (65,⟨3,.struct [(0,1),(1,1),(2,1)],[.bool false,F9,F9]⟩),
 (67,⟨3,.struct [(0,1),(1,1),(2,1)],[F9,F9,.bool false]⟩),
 (69,⟨5,.struct [(0,1),(1,1),(2,1),(3,1),(4,1)],[F9,F9,F9,.bool false,.bool false]⟩),
 (71,⟨3,.struct [(0,1),(1,1),(2,1)],[.bool false,F9,F9]⟩),
 (72,⟨1,.slice 135,[Y7]⟩),
 (73,⟨1,.slice 174,[Y7]⟩),
 (75,⟨4,.struct [(0,1),(1,1),(2,1),(3,1)],[Y7,Y7,F9,.bool false]⟩),
 (77,⟨6,.struct [(0,1),(1,1),(2,1),(3,1),(4,1),(5,1)],[F9,F9,F9,F9,F9,Y7]⟩),
 (79,⟨92,.struct [(0,24),(24,13),(37,13),(50,6),(56,4),(60,3),(63,3),(66,5),(71,3),(74,4),(78,6),(84,7),(91,1)],[Y7,Y7,Y7,Y7,Y7,Y7,Y7,Y7,Y7,Y7,Y7,Y7,Y7,Y7,Y7,Y7,Y7,Y7,Y7,Y7,F9,F9,F9,F9,F9,F9,.bool false,F9,Y7,.bool false,.bool false,F9,F9,Y7,F9,F9,F9,Y7,F9,.bool false,F9,F9,F9,F9,F9,F9,Y7,Y7,Y7,.bool false,F9,F9,F9,F9,F9,F9,.bool false,F9,F9,.bool false,.bool false,F9,F9,F9,F9,.bool false,F9,F9,F9,.bool false,.bool false,.bool false,F9,F9,Y7,Y7,F9,.bool false,F9,F9,F9,F9,F9,Y7,F9,F9,F9,F9,F9,F9,F9,F9]⟩),
 (80,⟨1,.int .i64,[F9]⟩),
 (85,⟨1,.slice 91,[Y7]⟩),
 (88,⟨1,.slice 95,[Y7]⟩),
 (89,⟨1,.slice 106,[Y7]⟩),
 (91,⟨7,.struct [(0,1),(1,1),(2,1),(3,1),(4,1),(5,1),(6,1)],[F9,F9,F9,F9,Y7,Y7,.bool false]⟩),
 (93,⟨1,.slice 4,[Y7]⟩),
 (95,⟨3,.struct [(0,1),(1,1),(2,1)],[F9,F9,.bool false]⟩),
 (96,⟨1,.int .u16,[.int .u16 0]⟩),
 (98,⟨4,.struct [(0,1),(1,1),(2,1),(3,1)],[F9,F9,F9,F9]⟩),
 (99,⟨1,.slice 98,[Y7]⟩),
 (101,⟨5,.struct [(0,1),(1,1),(2,1),(3,1),(4,1)],[F9,F9,F9,F9,F9]⟩),
 (106,⟨2,.struct [(0,1),(1,1)],[F9,Y7]⟩),
 (115,⟨1,.slice 25,[Y7]⟩),
 (118,⟨1,.slice 27,[Y7]⟩),
 (135,⟨8,.struct [(0,1),(1,1),(2,1),(3,1),(4,1),(5,1),(6,1),(7,1)],[F9,F9,F9,F9,F9,F9,.bool false,F9]⟩),
 (136,⟨5,.array 5 3,[F9,F9,F9,F9,F9]⟩),
 (139,⟨3,.struct [(0,1),(1,1),(2,1)],[.string (ByteArray.mk #[]),F9,F9]⟩),
 (140,⟨15,.array 5 139,[.string (ByteArray.mk #[]),F9,F9,.string (ByteArray.mk #[]),F9,F9,.string (ByteArray.mk #[]),F9,F9,.string (ByteArray.mk #[]),F9,F9,.string (ByteArray.mk #[]),F9,F9]⟩),
 (172,⟨1,.other,[.pointer none]⟩),
 (174,⟨7,.struct [(0,1),(1,1),(2,1),(3,1),(4,1),(5,1),(6,1)],[F9,F9,F9,F9,F9,Y7,F9]⟩),
 (182,⟨2,.struct [(0,1),(1,1)],[F9,F9]⟩),
 (186,⟨1,.struct [(0,1)],[Y7]⟩),
 (195,⟨1,.other,[.pointer none]⟩),
 (197,⟨3,.struct [(0,1),(1,1),(2,1)],[F9,Y7,F9]⟩),
 (199,⟨115,.struct [(0,92),(92,5),(97,1),(98,1),(99,1),(100,1),(101,1),(102,1),(103,1),(104,1),(105,1),(106,3),(109,1),(110,1),(111,1),(112,1),(113,1),(114,1)],[Y7,Y7,Y7,Y7,Y7,Y7,Y7,Y7,Y7,Y7,Y7,Y7,Y7,Y7,Y7,Y7,Y7,Y7,Y7,Y7,F9,F9,F9,F9,F9,F9,.bool false,F9,Y7,.bool false,.bool false,F9,F9,Y7,F9,F9,F9,Y7,F9,.bool false,F9,F9,F9,F9,F9,F9,Y7,Y7,Y7,.bool false,F9,F9,F9,F9,F9,F9,.bool false,F9,F9,.bool false,.bool false,F9,F9,F9,F9,.bool false,F9,F9,F9,.bool false,.bool false,.bool false,F9,F9,Y7,Y7,F9,.bool false,F9,F9,F9,F9,F9,Y7,F9,F9,F9,F9,F9,F9,F9,F9,F9,F9,F9,F9,F9,Y7,F9,F9,Y7,F9,F9,F9,F9,F9,F9,Y7,F9,F9,F9,.bool false,.bool false,Y7,F9]⟩),
 (205,⟨3,.struct [(0,1),(1,1),(2,1)],[F9,F9,F9]⟩),
 (219,⟨4,.struct [(0,1),(1,1),(2,1),(3,1)],[F9,F9,F9,F9]⟩),
 (221,⟨7,.struct [(0,4),(4,1),(5,1),(6,1)],[F9,F9,F9,F9,F9,.bool false,F9]⟩),
 (237,⟨7,.array 7 4,[.bool false,.bool false,.bool false,.bool false,.bool false,.bool false,.bool false]⟩),
 (243,⟨1,.slice 343,[Y7]⟩),
 (250,⟨4,.struct [(0,1),(1,1),(2,1),(3,1)],[F9,F9,F9,F9]⟩),
 (252,⟨1,.slice 250,[Y7]⟩),
 (254,⟨10,.struct [(0,1),(1,1),(2,1),(3,1),(4,1),(5,1),(6,1),(7,1),(8,1),(9,1)],[F9,F9,F9,F9,F9,F9,F9,F9,Y7,Y7]⟩),
 (267,⟨7,.struct [(0,1),(1,1),(2,1),(3,1),(4,1),(5,1),(6,1)],[F9,F9,F9,F9,F9,F9,F9]⟩),
 (311,⟨2,.struct [(0,1),(1,1)],[F9,F9]⟩),
 (317,⟨1,.int .u64,[.int .u64 0]⟩),
 (327,⟨4,.struct [(0,1),(1,1),(2,1),(3,1)],[.bool false,F9,.bool false,.bool false]⟩),
 (335,⟨2,.struct [(0,1),(1,1)],[F9,F9]⟩),
 (343,⟨5,.struct [(0,1),(1,1),(2,1),(3,1),(4,1)],[.string (ByteArray.mk #[]),F9,F9,Y7,F9]⟩),
 (349,⟨1,.other,[.pointer none]⟩),
 (351,⟨66,.struct [(0,24),(24,2),(26,7),(33,13),(46,10),(56,1),(57,1),(58,1),(59,1),(60,1),(61,1),(62,3),(65,1)],[Y7,Y7,Y7,Y7,Y7,Y7,Y7,Y7,Y7,Y7,Y7,Y7,Y7,Y7,Y7,Y7,Y7,Y7,Y7,Y7,F9,F9,F9,F9,Y7,F9,F9,F9,F9,F9,F9,F9,F9,F9,F9,.bool false,F9,Y7,.bool false,.bool false,F9,F9,Y7,F9,F9,F9,F9,F9,F9,F9,F9,F9,F9,F9,Y7,Y7,F9,F9,F9,F9,Y7,F9,F9,Y7,F9,F9]⟩),
 (375,⟨1,.other,[.pointer none]⟩),
 (376,⟨1,.other,[.pointer none]⟩),
 (378,⟨13,.struct [(0,6),(6,7)],[F9,F9,F9,F9,F9,Y7,F9,F9,F9,F9,F9,F9,F9]⟩),
 (386,⟨1,.int .u64,[.int .u64 0]⟩),
 (431,⟨3,.struct [(0,1),(1,1),(2,1)],[F9,F9,F9]⟩),
 (446,⟨1,.slice 450,[Y7]⟩),
 (450,⟨5,.struct [(0,4),(4,1)],[F9,F9,F9,F9,F9]⟩),
 (451,⟨1,.other,[.pointer none]⟩),
 (467,⟨1,.slice 219,[Y7]⟩),
 (472,⟨2,.array 2 3,[F9,F9]⟩),
 (473,⟨4,.array 2 472,[F9,F9,F9,F9]⟩),
 (477,⟨1,.other,[.pointer none]⟩)]
theorem ti4:bg3 Tryz.prog 4 ⟨1,.bool,[.bool false]⟩:=do1 (by kernel_rfl)
theorem ti3:bg3 Tryz.prog 3 ⟨1,.int .i64,[F9]⟩:=do1 (by kernel_rfl)
theorem K0:aV1 Tryz.prog C2:=dA9 (l:=[3,4,5,9,22,23,25,27,29,31,33,35,36,40,42,43,44,46,48,50,52,53,55,56,57,59,61,63,65,67,69,71,72,73,75,77,79,80,85,88,89,91,93,95,96,98,99,101,106,115,118,135,136,139,140,172,174,182,186,195,197,199,205,219,221,237,243,250,252,254,267,311,317,327,335,343,349,351,375,376,378,386,431,446,450,451,467,472,473,477]) (by kernel_rfl)
theorem eN3 (d:Nat)(w:World)(a0:Bool)(a1 a2 a3 a4 a5:Int)(b0:Bool)(b1 b2 b3 b4 b5:Int):(Op.equalIn (d+2) 52 (.agg #[.bool a0,.int .i64 a1,.int .i64 a2,.int .i64 a3,.int .i64 a4,.int .i64 a5]) (.agg #[.bool b0,.int .i64 b1,.int .i64 b2,.int .i64 b3,.int .i64 b4,.int .i64 b5])).run Tryz.prog w= .ok ((a0==b0)&&((a1==b1)&&((a2==b2)&&((a3==b3)&&((a4==b4)&&((a5==b5)&&true)))))) w:=
 dc3 (d:=d+1) (fs:=[⟨ "Valid",4,0,false,"","",0⟩,⟨ "At",3,1,false,"","",8⟩,⟨ "Angle",3,2,false,"","",16⟩,⟨ "Period",3,3,false,"","",24⟩,⟨ "Space",3,4,false,"","",32⟩,⟨ "Ahead",3,5,false,"","",40⟩]) (by kernel_rfl) (by kernel_rfl) (by kernel_rfl) (aN3 (by decide) (ae0 ti4 rfl rfl) (ae0 ti4 rfl rfl) (run_equalIn_bool' w _ 4 _ _ Tryz.underlying4) (aN3 (by decide) (ae0 ti3 rfl rfl) (ae0 ti3 rfl rfl) (run_equalIn_int w _ 3 _ _ _ _ Tryz.underlying3) (aN3 (by decide) (ae0 ti3 rfl rfl) (ae0 ti3 rfl rfl) (run_equalIn_int w _ 3 _ _ _ _ Tryz.underlying3) (aN3 (by decide) (ae0 ti3 rfl rfl) (ae0 ti3 rfl rfl) (run_equalIn_int w _ 3 _ _ _ _ Tryz.underlying3) (aN3 (by decide) (ae0 ti3 rfl rfl) (ae0 ti3 rfl rfl) (run_equalIn_int w _ 3 _ _ _ _ Tryz.underlying3) (aN3 (by decide) (ae0 ti3 rfl rfl) (ae0 ti3 rfl rfl) (run_equalIn_int w _ 3 _ _ _ _ Tryz.underlying3) (dN7)))))))
theorem eN5 (a0:Bool)(a1 a2 a3 a4 a5:Int)(b0:Bool)(b1 b2 b3 b4 b5:Int):ee0 Tryz.prog 52 [.bool a0,.int .i64 a1,.int .i64 a2,.int .i64 a3,.int .i64 a4,.int .i64 a5] [.bool b0,.int .i64 b1,.int .i64 b2,.int .i64 b3,.int .i64 b4,.int .i64 b5] ((a0==b0)&&((a1==b1)&&((a2==b2)&&((a3==b3)&&((a4==b4)&&((a5==b5)&&true)))))):=⟨fun w=>eN3 9998 w a0 a1 a2 a3 a4 a5 b0 b1 b2 b3 b4 b5,by kernel_rfl⟩
theorem eN4 (d:Nat)(w:World)(a0 a1 a2 a3 a4 a5 b0 b1 b2 b3 b4 b5:Int):(Op.equalIn (d+2) 61 (.agg #[.int .i64 a0,.int .i64 a1,.int .i64 a2,.int .i64 a3,.int .i64 a4,.int .i64 a5]) (.agg #[.int .i64 b0,.int .i64 b1,.int .i64 b2,.int .i64 b3,.int .i64 b4,.int .i64 b5])).run Tryz.prog w= .ok ((a0==b0)&&((a1==b1)&&((a2==b2)&&((a3==b3)&&((a4==b4)&&((a5==b5)&&true)))))) w:=
 dc3 (d:=d+1) (fs:=[⟨ "Mode",3,0,false,"","",0⟩,⟨ "Tooth",3,1,false,"","",8⟩,⟨ "Last",3,2,false,"","",16⟩,⟨ "Period",3,3,false,"","",24⟩,⟨ "Normal",3,4,false,"","",32⟩,⟨ "Teeth",3,5,false,"","",40⟩]) (by kernel_rfl) (by kernel_rfl) (by kernel_rfl) (aN3 (by decide) (ae0 ti3 rfl rfl) (ae0 ti3 rfl rfl) (run_equalIn_int w _ 3 _ _ _ _ Tryz.underlying3) (aN3 (by decide) (ae0 ti3 rfl rfl) (ae0 ti3 rfl rfl) (run_equalIn_int w _ 3 _ _ _ _ Tryz.underlying3) (aN3 (by decide) (ae0 ti3 rfl rfl) (ae0 ti3 rfl rfl) (run_equalIn_int w _ 3 _ _ _ _ Tryz.underlying3) (aN3 (by decide) (ae0 ti3 rfl rfl) (ae0 ti3 rfl rfl) (run_equalIn_int w _ 3 _ _ _ _ Tryz.underlying3) (aN3 (by decide) (ae0 ti3 rfl rfl) (ae0 ti3 rfl rfl) (run_equalIn_int w _ 3 _ _ _ _ Tryz.underlying3) (aN3 (by decide) (ae0 ti3 rfl rfl) (ae0 ti3 rfl rfl) (run_equalIn_int w _ 3 _ _ _ _ Tryz.underlying3) (dN7)))))))
theorem eN6 (a0 a1 a2 a3 a4 a5 b0 b1 b2 b3 b4 b5:Int):ee0 Tryz.prog 61 [.int .i64 a0,.int .i64 a1,.int .i64 a2,.int .i64 a3,.int .i64 a4,.int .i64 a5] [.int .i64 b0,.int .i64 b1,.int .i64 b2,.int .i64 b3,.int .i64 b4,.int .i64 b5] ((a0==b0)&&((a1==b1)&&((a2==b2)&&((a3==b3)&&((a4==b4)&&((a5==b5)&&true)))))):=⟨fun w=>eN4 9998 w a0 a1 a2 a3 a4 a5 b0 b1 b2 b3 b4 b5,by kernel_rfl⟩
def eqF:Nat->List T->List T->Option Bool
 |52,[.t (.v (.bool a0)),.t (.v (.int .i64 a1)),.t (.v (.int .i64 a2)),.t (.v (.int .i64 a3)),.t (.v (.int .i64 a4)),.t (.v (.int .i64 a5))],[.t (.v (.bool b0)),.t (.v (.int .i64 b1)),.t (.v (.int .i64 b2)),.t (.v (.int .i64 b3)),.t (.v (.int .i64 b4)),.t (.v (.int .i64 b5))]=>some (((a0==b0)&&((a1==b1)&&((a2==b2)&&((a3==b3)&&((a4==b4)&&((a5==b5)&&true)))))))
 |61,[.t (.v (.int .i64 a0)),.t (.v (.int .i64 a1)),.t (.v (.int .i64 a2)),.t (.v (.int .i64 a3)),.t (.v (.int .i64 a4)),.t (.v (.int .i64 a5))],[.t (.v (.int .i64 b0)),.t (.v (.int .i64 b1)),.t (.v (.int .i64 b2)),.t (.v (.int .i64 b3)),.t (.v (.int .i64 b4)),.t (.v (.int .i64 b5))]=>some (((a0==b0)&&((a1==b1)&&((a2==b2)&&((a3==b3)&&((a4==b4)&&((a5==b5)&&true)))))))
 |_,_,_=>none
theorem eN1:∀ty xs ys b,eqF ty xs ys=some b->∃vs us,xs=tvs vs/\ys=tvs us/\ee0 Tryz.prog ty vs us b:=by
 intro ty xs ys b h
 unfold eqF at h
 split at h
 ·cases h;exact⟨_,_,rfl,rfl,eN5 _ _ _ _ _ _ _ _ _ _ _ _⟩
 ·cases h;exact⟨_,_,rfl,rfl,eN6 _ _ _ _ _ _ _ _ _ _ _ _⟩
 ·cases h
def Z:En Tryz.prog:=⟨C2,K0,⟨eqF,eN1⟩,mixed⟩
def eJ4:Mq Tryz.prog Int Bool:=⟨inferInstance,208,3,4,.int .i64,(fun n:Int=>.int .i64 n),(fun v:Bool=>.bool v),false,(eO5 .i64),Tryz.underlying208,Tryz.underlying3,⟨Tryz.t4,by kernel_rfl,rfl⟩⟩
def eJ5:Mq Tryz.prog ByteArray Bool:=⟨inferInstance,392,9,4,.string,(fun s:ByteArray=>.string s),(fun v:Bool=>.bool v),false,eS3,Tryz.underlying392,Tryz.underlying9,⟨Tryz.t4,by kernel_rfl,rfl⟩⟩
end Go.Proofs.YtmhdghdbojdgfaaGreat
namespace Go.Pv
open Go
def as1 (x y:Int):Option (Int×Int):=
 cv9 x y
def bz8 (x y:Int):Option (Int×Int):=
 ai2 (as1 x y) fun r2=>some (r2.1,r2.2)
def aJ3 (s3:Int×List B6):Option ((Int×List B6)⊕((Int×List B6)⊕Empty)):=
 bif (decide (s3.1<(s3.2.length:Int)))then(ai2 (ai2 (ck8 s3.1 (s3.2.length:Int) s3.2.length) fun _=>ai2 (ck8 0 s3.1 s3.2.length) fun _=>some (j7 (s3.1+((min (eK0 s3.1-eK0 0) (eK0 (s3.2.length:Int)-eK0 s3.1):Nat):Int)),ej5 s3.2 s3.1 (s3.2.length:Int) 0 s3.1)) fun(s4:Int×List B6)=>some (.inl (s4.1,s4.2)))else(some (.inr (.inl (s3.1,s3.2))))
def P3 (x:List B6)(count:Int):Option (List B6):=
 ai2 (bif (decide (count<0))then none else(some ())) fun(_:Unit)=>ai2 (bz8 (aW6.wrap (x.length:Int)) (aW6.wrap count)) fun r2=>ai2 (bif ((decide (r2.1>0))||(decide (r2.2>9223372036854775807)))then none else(some ())) fun(_:Unit)=>ai2 (aX7 (j7 r2.2) (⟨0,0,0⟩:B6)) fun l=>ai2 (J7 (aJ3) ((min (x).length (l).length:Nat),aI5 l x)) fun(t:(Int×List B6)⊕Empty)=>match t with| .inl s5=>(some s5.2)| .inr r=>r.elim
def O7 (s:List A4)(f2:A4->Option Bool)(i:Int)(_:Unit):Option (Fl Unit Int):=
 ai2 (C9 s i) fun x=>ai2 (f2 x) fun v=>bif v then(some (.ret i))else(some (.next ()))
def C0 (s:List A4)(f2:A4->Option Bool):Option Int:=
 ai2 (K5 (s.length:Int) (O7 s f2) ()) fun(t:Unit⊕Int)=>match t with| .inl _=>(some (-1))| .inr r2=>some r2
def as6 (del:A4->Option Bool)(s2:Int×Int×List A4):Option ((Int×Int×List A4)⊕((Int×Int×List A4)⊕Empty)):=
 bif (decide (s2.2.1<(s2.2.2.length:Int)))then(ai2 (C9 s2.2.2 s2.2.1) fun x=>ai2 (del x) fun v2=>bif (!v2)then(ai2 (C9 s2.2.2 s2.1) fun _=>ai2 (aj2 s2.2.2 s2.1 x) fun l=>some (.inl (j7 (s2.1+1),j7 (s2.2.1+1),l)))else(some (.inl (s2.1,j7 (s2.2.1+1),s2.2.2))))else(some (.inr (.inl (s2.1,s2.2.1,s2.2.2))))
def K6 (s:List A4)(del:A4->Option Bool):Option (List A4):=
 ai2 (C0 s del) fun v=>bif (v==(-1))then(some s)else(ai2 (J7 (as6 del) (v,j7 (v+1),s)) fun(t:(Int×Int×List A4)⊕Empty)=>match t with| .inl s3=>(ai2 (ck8 s3.1 (s3.2.2.length:Int) s3.2.2.length) fun _=>ai2 (ax7 (bH1 s3.2.2 s3.1 (s3.2.2.length:Int) (⟨(⟨0,0,0,0⟩:B4),0,false,0⟩:A4)) 0 s3.1) fun l2=>some l2)| .inr r=>r.elim)
def ay9 (s:List j6)(f2:j6->Option Bool)(i:Int)(_:Unit):Option (Fl Unit Int):=
 ai2 (C9 s i) fun x=>ai2 (f2 x) fun v=>bif v then(some (.ret i))else(some (.next ()))
def ac5 (s:List j6)(f2:j6->Option Bool):Option Int:=
 ai2 (K5 (s.length:Int) (ay9 s f2) ()) fun(t:Unit⊕Int)=>match t with| .inl _=>(some (-1))| .inr r2=>some r2
def al4 (del:j6->Option Bool)(s2:Int×Int×List j6):Option ((Int×Int×List j6)⊕((Int×Int×List j6)⊕Empty)):=
 bif (decide (s2.2.1<(s2.2.2.length:Int)))then(ai2 (C9 s2.2.2 s2.2.1) fun x=>ai2 (del x) fun v2=>bif (!v2)then(ai2 (C9 s2.2.2 s2.1) fun _=>ai2 (aj2 s2.2.2 s2.1 x) fun l=>some (.inl (j7 (s2.1+1),j7 (s2.2.1+1),l)))else(some (.inl (s2.1,j7 (s2.2.1+1),s2.2.2))))else(some (.inr (.inl (s2.1,s2.2.1,s2.2.2))))
def N5 (s:List j6)(del:j6->Option Bool):Option (List j6):=
 ai2 (ac5 s del) fun v=>bif (v==(-1))then(some s)else(ai2 (J7 (al4 del) (v,j7 (v+1),s)) fun(t:(Int×Int×List j6)⊕Empty)=>match t with| .inl s3=>(ai2 (ck8 s3.1 (s3.2.2.length:Int) s3.2.2.length) fun _=>ai2 (ax7 (bH1 s3.2.2 s3.1 (s3.2.2.length:Int) (⟨0,0,false⟩:j6)) 0 s3.1) fun l2=>some l2)| .inr r=>r.elim)
end Go.Pv
namespace Go.Proofs.YtmhdghdbojdgfaaGreat
open Go Go.Pv Go.Proofs
set_option maxHeartbeats 4000000
def bZ8:Go.Shelf.Ren:=⟨fun|264=>279|n=>n,fun|46=>317|53=>386|n=>n,fun|n=>n⟩
open Go.Shelf in
theorem dY9:Lays.n264 Tryz.prog bZ8:={
 mixed:=by kernel_rfl,
 f264:=Tryz.func279.trans (congrArg some (by kernel_rfl)),
 t46:=Tryz.underlying317,
 a46:=Tryz.isAgg317,
 z46:=Tryz.sizeOf317,
 v46:=Tryz.zeroValue317,
 t53:=Tryz.underlying386,
 a53:=Tryz.isAgg386,
 z53:=Tryz.sizeOf386,
 v53:=Tryz.zeroValue386}
theorem bm1 (x y:Int):aQ3 Tryz.prog 279 [.t (tK .u64 x),.t (tK .u64 y)] (as1 x y) (fun r=>.P7 [.t (tK .u64 r.1),.t (tK .u64 r.2)]):=
 dZ0 (ρ:=bZ8) dY9 Tryz.call279 x y
theorem cf2 (x y:Int):aQ3 Tryz.prog 188 [.t (tK .u64 x),.t (tK .u64 y)] (bz8 x y) (fun r=>.P7 [.t (tK .u64 r.1),.t (tK .u64 r.2)]):=by
 refine aQ3.i K0 30 [.tmp 4,.tmp 5] Tryz.call188 Tryz.func188 rfl rfl rfl rfl fun w0 L=>?_
 refine D9.s 6 rfl ?_
 refine D9.eX3 rfl (.o 5 rfl ?_)
 refine B3.k (bm1 x y) rfl fun r2=>.o 8 rfl ?_
 exact B3.r 5 rfl (rt rfl)
theorem bw1 (x:List B6)(count:Int):aQ3 Tryz.prog 90 [NS I3 x,NI count] (P3 x count) (fun r=>NS I3 r):=by
 refine aQ3.i K0 48 [.tmp 4] Tryz.call90 Tryz.func90 rfl rfl rfl rfl fun w0 L=>?_
 refine D9.s 5 rfl ?_
 refine D9.s 5 rfl (.bind (Q₁:=nrm fun t=>⟨[(0,NS I3 x),(1,NI count)],[]⟩) ?_ ?_)
 ·refine D9.cond rfl ?_ ?_
  ·exact D9.o 1 rfl .fail
  ·exact D9.l 1 rfl (lf rfl rfl)
 rintro s e σ' _ ⟨rfl,hs⟩
 refine aa5.sub hs (D9.o 7 rfl (.k (cf2 (aW6.wrap (x.length:Int)) (aW6.wrap count)) rfl fun r2=>?_))
 refine B3.o 9 rfl ?_
 refine B3.o 3 rfl (.fa5 (v:=decide (r2.2>9223372036854775807)) 3 23 (fun b=>⟨[(0,NS I3 x),(6,.t (tK .u64 r2.2)),(26,NB b)],[]⟩) rfl ?_ ?_ ?_)
 ·exact B3.l 4 rfl (lf rfl rfl)
 ·exact B3.l 4 rfl (lf rfl rfl)
 refine B3.s 1 rfl (.bind (Q₁:=nrm fun t=>⟨[(0,NS I3 x),(6,.t (tK .u64 r2.2))],[]⟩) ?_ ?_)
 ·refine D9.cond rfl ?_ ?_
  ·exact D9.o 1 rfl .fail
  ·exact D9.l 1 rfl (lf rfl rfl)
 rintro s2 e σ' _ ⟨rfl,hs⟩
 refine aa5.sub hs (D9.o 4 rfl (.eZ2 (enc:=I3) 2240 (⟨0,0,0⟩:B6) rfl rfl rfl rfl rfl rfl rfl rfl rfl rfl rfl rfl rfl fun l hl=>?_))
 refine B3.o 6 rfl ?_
 refine B3.ej4 (e2:=0) (l:=l) (r:=x) rfl rfl rfl rfl (fun _=>rfl) (fun _=>rfl) rfl rfl (.inl rfl) rfl (.s 4 rfl ?_)
 refine D9.loop (fun t=>⟨[(7,.own 2240),(8,NI t.1)],[(2240,.rs 205 3 t.2 I3)]⟩) (fun b e σ'=>match b with| .inl t=>e= .exit 0/\Sub ⟨[(7,.own 2240)],[(2240,.rs 205 3 t.2 I3)]⟩ σ'| .inr t=>False) (.of rfl rfl) ?_ ?_
 ·intro s3
  refine D9.s 8 rfl ?_
  refine D9.cond rfl ?_ ?_
  ·refine D9.s 2 rfl (.bind (Q₁:=nrm fun t=>⟨[(7,.own 2240),(8,NI t.1)],[(2240,.rs 205 3 t.2 I3)]⟩) ?_ ?_)
   ·refine aa5.pre fun u hu=>aa5.pre fun u2 hu2=>D9.eX6 8 (bm 10 0) (bm 10 255) ⟨[(7,.own 2240),(8,NI s3.1),(38,NI s3.1),(45,NI ((min (eK0 s3.1-eK0 0) (eK0 (s3.2.length:Int)-eK0 s3.1):Nat):Int))],[(2240,.rs 205 3 (ej5 s3.2 s3.1 (s3.2.length:Int) 0 s3.1) I3)]⟩ mixed (fun _ _ _ h=>by cases h.1) rfl rfl rfl rfl ?_ ?_
    ·refine aS7.ga 5 [0,1,2,4,5] (by kernel_rfl) rfl (.all [3,6] (by kernel_rfl) rfl (ch3.cons (σ₁:=⟨[(7,.own 2240),(8,NI s3.1),(38,NI s3.1),(41,.vw 2240 (eK0 s3.1) (eK0 (s3.2.length:Int)-eK0 s3.1) 3),(42,.own 2240),(43,NI s3.1)],[(2240,.rs 205 3 s3.2 I3)]⟩) _ rfl rfl ?_ ?_ ?_))
     ·refine B3.dS4 hu (B3.dg9 rfl rfl rfl rfl rfl rfl rfl rfl rfl rfl rfl (B3.ifG ?_))
      exact B3.l 1 rfl (lf rfl rfl)
     ·exact aS7.one 6 rfl (by kernel_rfl) (B3.dS4 hu2 (B3.dg9 rfl rfl rfl rfl rfl rfl rfl rfl rfl rfl rfl (B3.ifG (B3.l 1 rfl ⟨rfl,rfl⟩)))) (.one 7 rfl (by kernel_rfl) (B3.copyV hu hu2 cu1 cu1 rfl rfl rfl rfl (fun _=>rfl) (fun _=>rfl) rfl rfl rfl rfl (B3.l 1 rfl ⟨rfl,rfl⟩)) (.done (.of rfl rfl)))
     refine ch3.cons (σ₁:=⟨[(7,.own 2240),(8,NI s3.1),(38,NI s3.1),(39,.own 2240),(40,NI s3.1),(44,.vw 2240 (eK0 0) (eK0 s3.1-eK0 0) 3)],[(2240,.rs 205 3 s3.2 I3)]⟩) _ rfl rfl ?_ ?_ ?_
     ·refine B3.dS4 hu2 (B3.dg9 rfl rfl rfl rfl rfl rfl rfl rfl rfl rfl rfl (B3.ifG ?_))
      exact B3.l 1 rfl (lf rfl rfl)
     ·exact aS7.one 3 rfl (by kernel_rfl) (B3.dS4 hu (B3.dg9 rfl rfl rfl rfl rfl rfl rfl rfl rfl rfl rfl (B3.ifG (B3.l 1 rfl ⟨rfl,rfl⟩)))) (.one 7 rfl (by kernel_rfl) (B3.copyV hu hu2 cu1 cu1 rfl rfl rfl rfl (fun _=>rfl) (fun _=>rfl) rfl rfl rfl rfl (B3.l 1 rfl ⟨rfl,rfl⟩)) (.done (.of rfl rfl)))
     exact ch3.nil
    exact B3.l 3 rfl (lf rfl rfl)
   rintro s4 e σ' _ ⟨rfl,hs⟩
   exact aa5.sub hs (D9.l 1 rfl (lf rfl rfl))
  ·exact D9.bp8 rfl ⟨(fun h=>by cases h),rfl,.of rfl rfl⟩
 rintro(s5|r) e σ' _ hq
 ·obtain⟨rfl,hs⟩:=hq
  refine aa5.exit rfl (aa5.sub hs ?_)
  exact D9.r 5 rfl (rt rfl)
 ·exact hq.elim
theorem bu2 (s:List A4)(n2:Nat)(cs:List (List Tree))(f2:A4->Option Bool)(h2:∀x0,aQ3 Tryz.prog n2 ([bc4 x0]++cs.map T.el) (f2 x0) (fun r=>NB r)):aQ3 Tryz.prog 202 [NS I0 s,.fz n2 cs] (C0 s f2) (fun r=>NI r):=by
 refine aQ3.i K0 19 [.tmp 4] Tryz.call202 Tryz.func202 rfl rfl rfl rfl fun w0 L=>?_
 refine D9.s 5 rfl ?_
 refine D9.s 7 rfl ?_
 refine D9.loop (fun p=>⟨[(0,NS I0 s),(1,.fz n2 cs),(7,NI (s.length:Int)),(8,NI p.1)],[]⟩) (fun b e σ'=>match b with| .inl t=>e= .exit 0/\Sub ⟨[],[]⟩ σ'| .inr t=>e= .ret/\dn3 C2 σ' [.tmp 4]=some (((fun r=>NI r):Int->T) t)) (.of rfl rfl) ?_ ?_
 ·rintro⟨i,s2⟩
  refine D9.s 5 rfl ?_
  refine D9.cond rfl ?_ ?_
  ·refine D9.s 2 rfl (aa5.sub (σ':=⟨[(0,NS I0 s),(1,.fz n2 cs),(7,NI (s.length:Int)),(8,NI i)],[]⟩) (.of rfl rfl) (D9.bind (Q₁:=fun f e σ'=>match f with| .next t=>e= .normal/\Sub ⟨[(0,NS I0 s),(1,.fz n2 cs),(7,NI (s.length:Int)),(8,NI i)],[]⟩ σ'| .brk t=>e= .exit 0/\Sub ⟨[],[]⟩ σ'| .ret t=>e= .ret/\dn3 C2 σ' [.tmp 4]=some (((fun r=>NI r):Int->T) t)) ?_ ?_))
   ·refine D9.s 6 rfl ?_
    refine D9.o 5 rfl (.index rfl rfl rfl rfl rfl rfl rfl rfl (fun _=>rfl) fun x hx=>.o 1 rfl ?_)
    refine B3.k (h2 x) rfl fun v=>.s 1 rfl (.cond rfl ?_ ?_)
    ·exact D9.r 5 rfl ⟨rfl,rfl⟩
    ·exact D9.l 2 rfl (lf rfl rfl)
   rintro(t|t|t) e σ' _ hq
   ·obtain⟨rfl,hs⟩:=hq
    exact aa5.sub hs (D9.l 4 rfl (lf rfl rfl))
   ·obtain⟨rfl,hs⟩:=hq
    exact aa5.bp8 rfl ⟨(fun h=>by cases h),rfl,hs⟩
   ·obtain⟨rfl,hs⟩:=hq
    exact aa5.ret ⟨(fun h=>by cases h),rfl,hs⟩
  ·exact D9.bp8 rfl ⟨(fun h=>by cases h),rfl,.of rfl rfl⟩
 rintro(s3|r2) e σ' _ hq
 ·obtain⟨rfl,hs⟩:=hq
  refine aa5.exit rfl (aa5.sub hs ?_)
  exact D9.r 4 rfl (rt rfl)
 ·obtain⟨rfl,hs⟩:=hq
  exact aa5.ret ⟨.inl rfl,hs⟩
theorem bq0 (s:List A4)(n2:Nat)(cs:List (List Tree))(del:A4->Option Bool)(h2:∀x0,aQ3 Tryz.prog n2 ([bc4 x0]++cs.map T.el) (del x0) (fun r=>NB r)):bg4 Tryz.prog 335 [.own 1000000,.fz n2 cs] [(1000000,.rs 221 7 s I0)] (K6 s del) (fun _=>.own 900000) (fun r=>[(900000,.rs 221 7 r I0)]):=by
 refine bg4.i K0 42 [.tmp 4] Tryz.call335 Tryz.func335 rfl rfl rfl rfl fun w0 L=>?_
 refine D9.s 5 rfl ?_
 refine D9.o 3 rfl (.eH7 _ rfl rfl rfl (bu2 s n2 cs del h2) (fun _=>rfl) (fun _=>rfl) fun v=>.s 2 rfl ?_)
 refine D9.s 6 rfl ?_
 refine D9.cond rfl ?_ ?_
 ·exact D9.r 5 rfl (rt (⟨[(1000000,900000)],_,_,rfl,rfl,rfl,rfl,rfl⟩))
 ·refine D9.o 7 rfl ?_
  refine B3.s 2 rfl (.loop (fun t=>⟨[(0,.own 1000000),(1,.fz n2 cs),(5,NI t.1),(6,NI t.2.1)],[(1000000,.rs 221 7 t.2.2 I0)]⟩) (fun b e σ'=>match b with| .inl t=>e= .exit 0/\Sub ⟨[(0,.own 1000000),(5,NI t.1)],[(1000000,.rs 221 7 t.2.2 I0)]⟩ σ'| .inr t=>False) (.of rfl rfl) ?_ ?_)
  ·intro s2
   refine D9.s 8 rfl ?_
   refine D9.cond rfl ?_ ?_
   ·refine D9.o 5 rfl ?_
    refine B3.o 2 rfl (.dk8 rfl rfl rfl rfl rfl rfl rfl rfl rfl rfl fun x hx=>.eJ2 hx rfl rfl rfl rfl rfl rfl rfl rfl (.s 3 rfl ?_))
    refine D9.o 4 rfl (.k (h2 x) rfl fun v2=>.o 1 rfl ?_)
    refine B3.s 1 rfl (.cond rfl ?_ ?_)
    ·refine D9.o 5 rfl (.dk8 rfl rfl rfl rfl rfl rfl rfl rfl rfl rfl fun x2 hx2=>.dK4 x [tI x.Event.G7,tI x.Event.Kind,tI x.Event.o9,tI x.Event.ai4,tI x.Left,tB x.D6,tI x.At] hx2 rfl rfl rfl rfl rfl rfl rfl rfl rfl rfl rfl rfl fun l hl=>?_)
     refine B3.s 7 rfl ?_
     exact D9.l 5 rfl (lf rfl rfl)
    ·refine D9.s 7 rfl ?_
     exact D9.leaf (lf rfl rfl)
   ·exact D9.bp8 rfl ⟨(fun h=>by cases h),rfl,.of rfl rfl⟩
  rintro(s3|r) e σ' _ hq
  ·obtain⟨rfl,hs⟩:=hq
   refine aa5.exit rfl (aa5.sub hs ?_)
   refine D9.o 4 rfl (.dg9 rfl rfl rfl rfl rfl rfl rfl rfl rfl rfl rfl fun u hu=>.ei7 (⟨(⟨0,0,0,0⟩:B4),0,false,0⟩:A4) hu cu1 rfl rfl rfl rfl rfl rfl rfl rfl rfl rfl rfl ?_)
   refine B3.o 5 rfl (.et6 (id':=2328) (tm':=[(5,NI s3.1),(37,NI s3.1),(40,NI s3.1)]) (Z2:=[]) rfl rfl rfl rfl rfl rfl rfl rfl rfl (.of rfl rfl) rfl rfl rfl rfl fun l2 hl2=>?_)
   exact B3.r 2 rfl (rt (⟨[(2328,900000)],_,_,rfl,rfl,rfl,rfl,rfl⟩))
  ·exact hq.elim
theorem bm2 (s:List j6)(n2:Nat)(cs:List (List Tree))(f2:j6->Option Bool)(h2:∀x0,aQ3 Tryz.prog n2 ([aA1 x0]++cs.map T.el) (f2 x0) (fun r=>NB r)):aQ3 Tryz.prog 39 [NS p7 s,.fz n2 cs] (ac5 s f2) (fun r=>NI r):=by
 refine aQ3.i K0 19 [.tmp 4] Tryz.call39 Tryz.func39 rfl rfl rfl rfl fun w0 L=>?_
 refine D9.s 5 rfl ?_
 refine D9.s 7 rfl ?_
 refine D9.loop (fun p=>⟨[(0,NS p7 s),(1,.fz n2 cs),(7,NI (s.length:Int)),(8,NI p.1)],[]⟩) (fun b e σ'=>match b with| .inl t=>e= .exit 0/\Sub ⟨[],[]⟩ σ'| .inr t=>e= .ret/\dn3 C2 σ' [.tmp 4]=some (((fun r=>NI r):Int->T) t)) (.of rfl rfl) ?_ ?_
 ·rintro⟨i,s2⟩
  refine D9.s 5 rfl ?_
  refine D9.cond rfl ?_ ?_
  ·refine D9.s 2 rfl (aa5.sub (σ':=⟨[(0,NS p7 s),(1,.fz n2 cs),(7,NI (s.length:Int)),(8,NI i)],[]⟩) (.of rfl rfl) (D9.bind (Q₁:=fun f e σ'=>match f with| .next t=>e= .normal/\Sub ⟨[(0,NS p7 s),(1,.fz n2 cs),(7,NI (s.length:Int)),(8,NI i)],[]⟩ σ'| .brk t=>e= .exit 0/\Sub ⟨[],[]⟩ σ'| .ret t=>e= .ret/\dn3 C2 σ' [.tmp 4]=some (((fun r=>NI r):Int->T) t)) ?_ ?_))
   ·refine D9.s 6 rfl ?_
    refine D9.o 5 rfl (.index rfl rfl rfl rfl rfl rfl rfl rfl (fun _=>rfl) fun x hx=>.o 1 rfl ?_)
    refine B3.k (h2 x) rfl fun v=>.s 1 rfl (.cond rfl ?_ ?_)
    ·exact D9.r 5 rfl ⟨rfl,rfl⟩
    ·exact D9.l 2 rfl (lf rfl rfl)
   rintro(t|t|t) e σ' _ hq
   ·obtain⟨rfl,hs⟩:=hq
    exact aa5.sub hs (D9.l 4 rfl (lf rfl rfl))
   ·obtain⟨rfl,hs⟩:=hq
    exact aa5.bp8 rfl ⟨(fun h=>by cases h),rfl,hs⟩
   ·obtain⟨rfl,hs⟩:=hq
    exact aa5.ret ⟨(fun h=>by cases h),rfl,hs⟩
  ·exact D9.bp8 rfl ⟨(fun h=>by cases h),rfl,.of rfl rfl⟩
 rintro(s3|r2) e σ' _ hq
 ·obtain⟨rfl,hs⟩:=hq
  refine aa5.exit rfl (aa5.sub hs ?_)
  exact D9.r 4 rfl (rt rfl)
 ·obtain⟨rfl,hs⟩:=hq
  exact aa5.ret ⟨.inl rfl,hs⟩
theorem bi2 (s:List j6)(n2:Nat)(cs:List (List Tree))(del:j6->Option Bool)(h2:∀x0,aQ3 Tryz.prog n2 ([aA1 x0]++cs.map T.el) (del x0) (fun r=>NB r)):bg4 Tryz.prog 275 [.own 1000000,.fz n2 cs] [(1000000,.rs 95 3 s p7)] (N5 s del) (fun r=>NS p7 r) (fun _=>[]):=by
 refine bg4.i K0 42 [.tmp 4] Tryz.call275 Tryz.func275 rfl rfl rfl rfl fun w0 L=>?_
 refine D9.s 5 rfl ?_
 refine D9.o 3 rfl (.eH7 _ rfl rfl rfl (bm2 s n2 cs del h2) (fun _=>rfl) (fun _=>rfl) fun v=>.s 2 rfl ?_)
 refine D9.s 6 rfl ?_
 refine D9.cond rfl ?_ ?_
 ·refine D9.s 5 rfl (aa5.frz 1000000 rfl ?_)
  exact D9.ret (rt (⟨[],_,_,rfl,rfl,rfl,rfl,rfl⟩))
 ·refine D9.o 7 rfl ?_
  refine B3.s 2 rfl (.loop (fun t=>⟨[(0,.own 1000000),(1,.fz n2 cs),(5,NI t.1),(6,NI t.2.1)],[(1000000,.rs 95 3 t.2.2 p7)]⟩) (fun b e σ'=>match b with| .inl t=>e= .exit 0/\Sub ⟨[(0,.own 1000000),(5,NI t.1)],[(1000000,.rs 95 3 t.2.2 p7)]⟩ σ'| .inr t=>False) (.of rfl rfl) ?_ ?_)
  ·intro s2
   refine D9.s 8 rfl ?_
   refine D9.cond rfl ?_ ?_
   ·refine D9.o 5 rfl ?_
    refine B3.o 2 rfl (.dk8 rfl rfl rfl rfl rfl rfl rfl rfl rfl rfl fun x hx=>.eJ2 hx rfl rfl rfl rfl rfl rfl rfl rfl (.s 3 rfl ?_))
    refine D9.o 4 rfl (.k (h2 x) rfl fun v2=>.o 1 rfl ?_)
    refine B3.s 1 rfl (.cond rfl ?_ ?_)
    ·refine D9.o 5 rfl (.dk8 rfl rfl rfl rfl rfl rfl rfl rfl rfl rfl fun x2 hx2=>.dK4 x [tI x.At,tI x.Channel,tB x.K2] hx2 rfl rfl rfl rfl rfl rfl rfl rfl rfl rfl rfl rfl fun l hl=>?_)
     refine B3.s 7 rfl ?_
     exact D9.l 5 rfl (lf rfl rfl)
    ·refine D9.s 7 rfl ?_
     exact D9.leaf (lf rfl rfl)
   ·exact D9.bp8 rfl ⟨(fun h=>by cases h),rfl,.of rfl rfl⟩
  rintro(s3|r) e σ' _ hq
  ·obtain⟨rfl,hs⟩:=hq
   refine aa5.exit rfl (aa5.sub hs ?_)
   refine D9.o 4 rfl (.dg9 rfl rfl rfl rfl rfl rfl rfl rfl rfl rfl rfl fun u hu=>.ei7 (⟨0,0,false⟩:j6) hu cu1 rfl rfl rfl rfl rfl rfl rfl rfl rfl rfl rfl ?_)
   refine B3.o 5 rfl (.frz 1000000 rfl ?_)
   exact B3.et5 rfl rfl rfl rfl rfl rfl rfl (fun _=>rfl) rfl rfl fun l2 hl2=>.r 2 rfl (rt (⟨[],_,_,rfl,rfl,rfl,rfl,rfl⟩))
  ·exact hq.elim
theorem bw2 {s r:List B6}{n:Int}(h:eF0 s n=some r):Pv.P3 s n=some r:=by
 match s,h with
 |[x],h=>
  change(if n=1 then some [x]else none)=some r at h
  by_cases hn:n=1
  case neg=>rw[if_neg hn]at h;cases h
  subst hn
  rw[if_pos rfl]at h
  cases h
  have e:Pv.P3 [x] 1=ai2 (J7 Pv.aJ3 (1,[x])) (fun t=>match t with| .inl s5=>(some s5.2)| .inr r=>r.elim):=by kernel_rfl
  rw[e,D7 (b:=.inl (1,[x])) rfl]
  rfl
 |[],h=>simp[eF0]at h
 |_::_::_,h=>simp[eF0]at h
theorem bp7 {s r:List A4}{f:A4->Option Bool}(h:dt0 s=some r):Pv.K6 s f=some r:=by
 cases s with
 |nil=>
  simp only[dt0,aH6]at h
  subst h
  have h1:K5 (([]:List A4).length:Int) (Pv.O7 [] f) ()=some (.inl ()):=by rw[al2 _ (by simp)];rfl
  have h2:Pv.C0 [] f=some (-1):=by unfold Pv.C0;rw[h1];rfl
  unfold Pv.K6
  rw[h2]
  rfl
 |cons x l=>simp[dt0]at h
theorem bh3 {s r:List j6}{f:j6->Option Bool}(h:dt0 s=some r):Pv.N5 s f=some r:=by
 cases s with
 |nil=>
  simp only[dt0,aH6]at h
  subst h
  have h1:K5 (([]:List j6).length:Int) (Pv.ay9 [] f) ()=some (.inl ()):=by rw[al2 _ (by simp)];rfl
  have h2:Pv.ac5 [] f=some (-1):=by unfold Pv.ac5;rw[h1];rfl
  unfold Pv.N5
  rw[h2]
  rfl
 |cons x l=>simp[dt0]at h
end Go.Proofs.YtmhdghdbojdgfaaGreat

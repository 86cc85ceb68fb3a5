/- A part of the proof of EcuSwitches: The walk reckoned, and more. -/
import Derived.Test.YtmhdghdbojdgfaaGreatEcuSwitchesB
import Derived.MapKept
import Derived.Carry
import Derived.KernelRfl
import Derived.Test.YtmhdghdbojdgfaaGreatProg
set_option linter.unusedSimpArgs false
set_option linter.unusedVariables false
set_option maxRecDepth 100000
noncomputable section
open Array renaming ext'->ff3,getElem?_eq_some_iff->dx1
open Bool renaming and_eq_true->aJ5,and_true->eW8,not_eq_true'->bO4,not_true->aP9,or_eq_false_iff->bZ2,or_eq_true->cG1
open Int renaming toNat->eJ9
open Go.IntKind renaming u64->aX3
open List renaming all_eq_true->bN8,append_nil->cV6,drop_drop->ey6,filter_cons->dC9,filter_nil->ez7,getElem?_cons_zero->cV8,getElem?_eq_getElem->aK2,getElem?_eq_none->ea1,getElem?_eq_some_iff->bt7,getElem?_map->cG5,getElem?_take->dp2,head?_drop->eC1,length_append->aY1,length_nil->cr1,map_cons->cS3,mem_cons->ch6,mem_cons_of_mem->bF8,mem_cons_self->bx8,mem_filter->dK5,mem_map->cX4,mem_of_getElem?->cY9,pairwise_cons->ee3,range->dp9
open List.cons renaming injEq->eV7
open Nat renaming add_assoc->dD0,add_comm->eI8,add_zero->dM1,beq->bM1,beq_refl->ca7,ble->dO2,blt->bd5,eq_of_beq_eq_true->bp9,eq_zero_or_pos->dO8,le_of_ble_eq_true->bd4,le_refl->cq9,le_trans->eJ3,lt_of_lt_of_le->dD3,lt_or_ge->da9,not_lt->ff7,zero_add->cV7
open Option renaming bind->ai5,bind_eq_some_iff->fa7,bind_some->aH3,map_eq_some_iff->ez3,map_some->ca8
open Option.some renaming injEq->aI5
open Prod.mk renaming injEq->aX4
open Go.Pv renaming encI->aN3,encS->do7
open Go.Result renaming andThen_ok->ba5
open Go.Sem renaming run_bind->bk5,run_pure->bO3
namespace Go.Pv
open Go.RowKit
section
variable {P:Program} {ρ τ β:Type} {X:Cx}
theorem da0 {α:Type}{a:Bool}{sz:Nat}{l:List T}{res:α->T}:∀{ys:List α}{k:Nat},(eh6 a sz l res ys k).den->∀j y,ys[j]? =some y->bh1 a sz l ((k+j)*sz)=some (res y)
 |[],_,_,j,y,h=>by simp at h
 |z::r,k,ht,0,y,h=>by
  simp only[cV8,aI5]at h
  subst h
  exact V.eq ht.1
 |z::r,k,ht,j+1,y,h=>by
  have:=da0 ht.2 j y (by simpa using h)
  rwa[dD0,eI8 1 j]at this
theorem dr8 {α:Type}{enc:α->List Tree}{sz:Nat}(h:∀y,(enc y).length=sz):∀{ys:List α}{j:Nat}{y:α},ys[j]? =some y->∃r,(cat enc ys).drop (j*sz)=enc y++r
 |[],j,y,hy=>by simp at hy
 |x::l,0,y,hy=>by
  simp only[cV8,aI5]at hy
  subst hy
  exact⟨cat enc l,by simp[cat]⟩
 |x::l,j+1,y,hy=>by
  obtain⟨r,hr⟩:=dr8 h (ys:=l) (j:=j) (y:=y) (by simpa using hy)
  refine⟨r,?_⟩
  rw[cat,Nat.succ_mul,eI8,<-ey6,List.drop_left' (h x)]
  exact hr
theorem RV.eB6 {w:World}{S:Nat->Prop}{E:Nat->Value}{x:Value}{l r:List Tree}(h:RV w S E x (.el (l++r))):RV w S E x (.el l):=by
 cases h with
 |el b o _ vs hS hc hr=>
  refine .el b o l vs hS (fun j hj=>hc j (by simp;omega)) (fun j hj=>?_)
  have:=hr j (by simp;omega)
  rwa[List.getElem_append_left hj]at this
theorem L1.ok {tm:List (Nat×T)}{hp:List (Nat×G3)}{o:Oper}:∀{τ:Type}{l:L1 τ}{t:Tr}{res:τ->T},l.q X.C4 tm hp o.op=some (t,res)->t.den->
  ∀(y:τ) (S:Nat->Prop) (E:Nat->Value) (a:Act) (w:World),l.m=some y->Ok X.w0 X.L X.nt ⟨tm,hp⟩ S E a w->∃v,(execOp a.eval o).run X.P w= .ok (.value v) w/\RV w S E v (res y)
 |_,.ix enc l i,t,res,h,ht=>by
  simp only[L1.q]at h
  split at h<;>try(cases h;done)
  rename_i ty x ii hop
  split at h<;>try(cases h;done)
  rename_i X' k j s0 e z0 hx hi hty
  split at h<;>try(cases h;done)
  rename_i te hte
  split at h
  ·rename_i id
   split at h<;>try(cases h;done)
   rename_i el sz n rs hb
   cases hsz:bM1 te.size sz<;>simp only[hsz,fj8,fj6,reduceCtorEq,aI5,aX4]at h
   obtain⟨rfl,rfl⟩:=h
   obtain⟨h1,h2⟩:=ht
   have h1:=V.eq h1
   have h2:=V.eq h2
   simp only[aX4]at h1
   obtain⟨rfl,rfl⟩:=h1
   subst h2
   intro y S E a w hm hk
   obtain⟨h0,hl,hlt⟩:=aV0 hm
   have hiv:=(hk.val hi).tv
   obtain⟨dd,hdd,ho2⟩:=(X.K4 ty _ hty).au5 w
   simp only[TD.ok]at ho2
   subst ho2
   have hs:=(X.K4 e _ hte).aG5 w
   have hll:j.toNat<l.length:=by omega
   have hxv:=hk.val hx
   generalize hxe:a.eval x=xv at hxv
   cases hxv with
   |own _ _ hE=>
    obtain⟨hn,⟨hE',hr⟩|⟨β,cap,vs,_,hE',hh,_⟩⟩:=hk.hp id _ hb
    ·simp at hr;subst hr;simp at hll
    ·have:=bp9 hsz
     subst this
     have hpe:=RV.pe (w:=w) (S:=S) (E:=E) id j.toNat te.size 0 β (l.map enc).length cap hE'
     refine⟨_,?_,hpe⟩
     rw[hE']at hE
     subst hE
     simp only[execOp,hop,Instr.indexAt,hiv,asIntOf,bk5,bO3,ba5,hdd,hxe]
     have c1:0<=j/\j<((l.map enc).length:Int):=⟨h0,by simpa using hlt⟩
     simp only[bk5,ba5,bO3,c1,and_self,if_true,hs,aC3,cV7,dM1]
  ·simp only[aI5,aX4]at h
   obtain⟨rfl,rfl⟩:=h
   obtain⟨h1,h2,h3⟩:=ht
   have h1:=V.eq h1
   have h2:=V.eq h2
   have h3:=V.eq h3
   subst h1 h2
   intro y S E a w hm hk
   exact dd9 hk hm hop hx hi hty hte (fun y=>congrFun h3 y)
 |_,.quo k i j,t,res,h,ht=>by
  simp only[L1.q]at h
  split at h<;>try(cases h;done)
  rename_i ty x y yt hop
  split at h<;>try(cases h;done)
  rename_i k1 x1 k2 y1 hx hy
  simp only[aI5,aX4]at h
  obtain⟨rfl,rfl⟩:=h
  have h1:=V.eq ht
  simp only[aX4]at h1
  obtain⟨rfl,rfl,rfl,rfl⟩:=h1
  intro q S E a w hm hk
  simp only[L1.m,bn5]at hm
  split at hm
  ·cases hm
  ·rename_i hj
   cases hm
   refine⟨_,?_,.t (.v _)⟩
   simp only[execOp,hop,bk5,(hk.val hx).tv,(hk.val hy).tv,aR5 .quo ty x y (.int _ _) (.int _ _) (by simp) (by simp),ba5]
   simp[binOp,Op.intDiv,hj]
 |_,.rem i j,t,res,h,ht=>by
  simp only[L1.q]at h
  split at h<;>try(cases h;done)
  rename_i ty x y yt hop
  split at h<;>try(cases h;done)
  rename_i k1 x1 k2 y1 hx hy
  simp only[aI5,aX4]at h
  obtain⟨rfl,rfl⟩:=h
  have h1:=V.eq ht
  simp only[aX4]at h1
  obtain⟨rfl,rfl,rfl⟩:=h1
  intro q S E a w hm hk
  simp only[L1.m,cg1]at hm
  split at hm
  ·cases hm
  ·rename_i hj
   cases hm
   refine⟨_,?_,.t (.v _)⟩
   simp only[execOp,hop,bk5,(hk.val hx).tv,(hk.val hy).tv,aR5 .rem ty x y (.int _ _) (.int _ _) (by simp) (by simp),ba5]
   simp[binOp,Op.intDiv,hj]
 |_,.shl k i j,t,res,h,ht=>by
  simp only[L1.q]at h
  split at h<;>try(cases h;done)
  rename_i ty x y yt hop
  split at h<;>try(cases h;done)
  rename_i k1 x1 k2 y1 hx hy
  simp only[aI5,aX4]at h
  obtain⟨rfl,rfl⟩:=h
  have h1:=V.eq ht
  simp only[aX4]at h1
  obtain⟨rfl,rfl,rfl⟩:=h1
  intro q S E a w hm hk
  simp only[L1.m,eu6]at hm
  split at hm
  ·cases hm
  ·rename_i hj
   cases hm
   refine⟨_,?_,.t (.v _)⟩
   simp only[execOp,hop,bk5,(hk.val hx).tv,(hk.val hy).tv,aR5 .shl ty x y (.int _ _) (.int _ _) (by simp) (by simp),ba5]
   simp[binOp,Op.shift,hj,ei7]
 |_,.shr k i j,t,res,h,ht=>by
  simp only[L1.q]at h
  split at h<;>try(cases h;done)
  rename_i ty x y yt hop
  split at h<;>try(cases h;done)
  rename_i k1 x1 k2 y1 hx hy
  simp only[aI5,aX4]at h
  obtain⟨rfl,rfl⟩:=h
  have h1:=V.eq ht
  simp only[aX4]at h1
  obtain⟨rfl,rfl,rfl⟩:=h1
  intro q S E a w hm hk
  simp only[L1.m,eH6]at hm
  split at hm
  ·cases hm
  ·rename_i hj
   cases hm
   refine⟨_,?_,.t (.v _)⟩
   simp only[execOp,hop,bk5,(hk.val hx).tv,(hk.val hy).tv,aR5 .shr ty x y (.int _ _) (.int _ _) (by simp) (by simp),ba5]
   simp[binOp,Op.shift,hj,F4]
 |_,.str s i,t,res,h,ht=>by
  simp only[L1.q]at h
  split at h<;>try(cases h;done)
  rename_i ty x ii hop
  split at h<;>try(cases h;done)
  rename_i s1 k j s0 z0 hx hi hty
  simp only[aI5,aX4]at h
  obtain⟨rfl,rfl⟩:=h
  have h1:=V.eq ht
  simp only[aX4]at h1
  obtain⟨rfl,rfl⟩:=h1
  intro q S E a w hm hk
  obtain⟨dd,hu,ho2⟩:∃d,X.P.underlying ty=some d/\TD.ok X.P .string d:=by
   obtain⟨i,d,_,_,hu,hdd,_⟩:=X.K4 ty _ hty
   exact⟨d,hu,hdd⟩
  simp only[TD.ok]at ho2
  subst ho2
  simp only[L1.m,fe5]at hm
  refine⟨_,?_,.t (.v _)⟩
  have hin:0<=j/\j<s1.size:=by
   by_cases h0:0<=j
   ·rw[if_pos h0]at hm
    by_cases h1:j.toNat<s1.size
    ·exact⟨h0,by omega⟩
    ·rw[ByteArray.getElem?_ge' s1 _ (by omega)]at hm;cases hm
   ·rw[if_neg h0]at hm;cases hm
  rw[if_pos hin.1,ByteArray.getElem?_lt' s1 _ (by omega)]at hm
  simp only[ca8,aI5]at hm
  subst hm
  simp only[execOp,hop,bk5,(hk.val hx).tv,(hk.val hi).tv,run_index_string w ty s1 k j hu,hin,and_self,dite_true,ba5,bO3]
 |_,.arr res ys i,t,res',h,ht=>by
  simp only[L1.q]at h
  split at h<;>try(cases h;done)
  rename_i ty x ii hop
  split at h<;>try(cases h;done)
  rename_i l k j s0 n e z0 hx hi hty
  split at h<;>try(cases h;done)
  rename_i te hte
  cases hc:bM1 ys.length n<;>rw[hc]at h<;>simp only[fj8,fj6,reduceCtorEq,aI5,aX4]at h
  obtain⟨rfl,rfl⟩:=h
  obtain⟨h1,h2⟩:=ht
  have h1:=V.eq h1
  subst h1
  have hn:=bp9 hc
  intro q S E a w hm hk
  obtain⟨h0,hy,_⟩:=aV0 hm
  obtain⟨j',rfl⟩:∃j':Nat,j=Int.ofNat j':=⟨j.toNat,by simp;omega⟩
  have hy:ys[j']? =some q:=by simpa using hy
  have hj:j'<n:=by rw[<-hn];exact(bt7.1 hy).1
  have hv:=hk.val hx
  generalize hpv:a.eval x=pv at hv
  cases hv with
  |agg vs _ hl hrr=>
   have h3:=da0 h2 j' q hy
   rw[cV7]at h3
   obtain⟨v,hv1,hv2⟩:=cJ3 (ik:=k) X.K4 hty hte hj ⟨hl,hrr⟩ h3
   exact⟨v,by simp only[execOp,hop,hpv,(hk.val hi).tv,hv1,bk5,ba5,bO3],hv2⟩
 |_,.ax enc ys i,t,res,h,ht=>by
  simp only[L1.q]at h
  split at h<;>try(cases h;done)
  rename_i ty x ii hop
  split at h<;>try(cases h;done)
  rename_i cs k j s0 n e z0 hx hi hty
  split at h<;>try(cases h;done)
  rename_i te hte
  cases hc:bM1 ys.length n<;>simp only[hc,fj8,fj6,reduceCtorEq,aI5,aX4]at h
  obtain⟨rfl,rfl⟩:=h
  obtain⟨h1,h2,h3⟩:=ht
  have h1:=V.eq h1
  have h2:=V.eq h2
  have h3:=V.eq h3
  subst h1 h2
  have hn:=bp9 hc
  intro y S E a w hm hk
  obtain⟨h0,hy,_⟩:=aV0 hm
  obtain⟨j',rfl⟩:∃j':Nat,j=Int.ofNat j':=⟨j.toNat,by simp;omega⟩
  have hy:ys[j']? =some y:=by simpa using hy
  have hj:j'<n:=by rw[<-hn];exact(bt7.1 hy).1
  have hv:=hk.val hx
  obtain⟨b,o',hpv⟩:=hv.ce2
  rw[hpv]at hv
  obtain⟨r,hr⟩:=dr8 (fun y=>congrFun h3 y) hy
  have hv2:=hv.cG8 (j'*te.size)
  rw[hr]at hv2
  refine⟨_,?_,hv2.eB6⟩
  simp only[execOp,hop,hpv,(hk.val hi).tv,bH1 X.K4 hty hte hj,bk5,ba5,bO3]
theorem L1.known {Γ:List GF}(hΓ:∀f∈Γ,f.ok):∀{τ:Type}{l:L1 τ}{y:τ},l.m=some y->∀f∈l.k y Γ,f.ok
 |_,.ix enc l i,y,h,f,hf=>by
  rcases ch6.1 hf with rfl|hf
  ·exact h
  ·exact hΓ f hf
 |_,.quo _ _ _,y,h,f,hf=>hΓ f hf
 |_,.rem _ _,y,h,f,hf=>hΓ f hf
 |_,.shl _ _ _,y,h,f,hf=>hΓ f hf
 |_,.shr _ _ _,y,h,f,hf=>hΓ f hf
 |_,.str _ _,y,h,f,hf=>hΓ f hf
 |_,.arr _ _ _,y,h,f,hf=>hΓ f hf
 |_,.ax _ _ _,y,h,f,hf=>hΓ f hf
theorem W1.ok {Ev:EqV X.P}{Γ:List GF}(hΓ:∀f∈Γ,f.ok){tm:List (Nat×T)}{hp:List (Nat×G3)}{o:Oper}:∀{u:W1}{t:Tr}{V:T},u.q Ev X.C4 Γ tm hp o.op=some (t,V)->t.den->
  ∀(S:Nat->Prop) (E:Nat->Value) (a:Act) (w:World),Ok X.w0 X.L X.nt ⟨tm,hp⟩ S E a w->∃v,(execOp a.eval o).run X.P w= .ok (.value v) w/\RV w S E v V
 | .hx n,t,V,h,ht=>by
  simp only[W1.q]at h
  split at h<;>try(cases h;done)
  rename_i f hf
  split at h<;>try(cases h;done)
  rename_i t' res hq
  simp only[aI5,aX4]at h
  obtain⟨rfl,rfl⟩:=h
  intro S E a w hk
  exact L1.ok hq ht f.y S E a w (hΓ f (cY9 hf)) hk
 | .ly n,t,V,h,ht=>by
  simp only[W1.q]at h
  split at h<;>try(cases h;done)
  rename_i f t' p hf ho
  split at h<;>try(cases h;done)
  rename_i id i sz off ti hp1 hti
  split at h<;>try(cases h;done)
  rename_i e sz' n' rs r hb hr
  cases hsz:bM1 sz sz'<;>simp only[hsz,fj8,fj6,reduceCtorEq,aI5,aX4]at h
  have hsz:=bp9 hsz
  subst hsz
  obtain⟨rfl,rfl⟩:=h
  have h1:=V.eq ht
  simp only[aX4]at h1
  obtain⟨rfl,rfl,rfl⟩:=h1
  intro S E a w hk
  have hy:=hΓ f (cY9 hf)
  obtain⟨v,h1,h2⟩:=dv9 (P:=X.P) hk (X.K4 t' _ hti) hb (hk.val hp1) (by rw[cG5,(aV0 hy).2.1];rfl) hr
  refine⟨v,?_,h2⟩
  unfold execOp
  simp only[ho,bk5,h1,ba5,bO3]
 | .eq,t,V,h,ht=>by
  simp only[W1.q]at h
  split at h<;>try(cases h;done)
  rename_i op ty x y yt ho
  split at h<;>try(cases h;done)
  rename_i xs ys hx hy
  split at h<;>try(cases h;done)
  rename_i b hb
  obtain⟨vs,us,rfl,rfl,he⟩:=Ev.ok _ _ _ _ hb
  intro S E a w hk
  have hr:=eP5 (o:=o) (w:=w) (yt:=yt) he (dM9 (hk.val hx)) (dM9 (hk.val hy))
  split at h<;>try(cases h;done)
  ·simp only[aI5,aX4]at h
   obtain⟨rfl,rfl⟩:=h
   exact⟨_,hr.1 ho,.t (.v _)⟩
  ·simp only[aI5,aX4]at h
   obtain⟨rfl,rfl⟩:=h
   exact⟨_,hr.2 ho,.t (.v _)⟩
 | .cn,t,V,h,ht=>by
  simp only[W1.q]at h
  split at h<;>try(cases h;done)
  rename_i a b ho
  split at h<;>try(cases h;done)
  rename_i x t' ha hb
  split at h<;>try(cases h;done)
  rename_i s0 e z0 hx hty
  simp only[aI5,aX4]at h
  obtain⟨rfl,rfl⟩:=h
  have ha:a= #[x]:=by cases a;simp_all
  have hb:b= #[t']:=by cases b;simp_all
  subst ha hb
  intro S E a w hk
  obtain⟨dd,hdd,ho2⟩:=(X.K4 t' _ hty).au5 w
  simp only[TD.ok]at ho2
  subst ho2
  have hxv:=(hk.val hx).tv
  refine⟨.int .i64 0,?_,.t (.v _)⟩
  unfold execOp
  simp[ho,resolve,invoke,builtin,hxv,Builtin.cap_,hdd,goInt]
 | .sn,t,V,h,ht=>by
  simp only[W1.q]at h
  split at h<;>try(cases h;done)
  rename_i t' x hi ho
  split at h<;>try(cases h;done)
  rename_i k s0 e z0 hx hh hty
  split at h<;>try(cases h;done)
  rename_i te hte
  simp only[aI5,aX4]at h
  obtain⟨rfl,rfl⟩:=h
  intro S E a w hk
  obtain⟨dd,hdd,ho2⟩:=(X.K4 t' _ hty).au5 w
  simp only[TD.ok]at ho2
  subst ho2
  have hxv:=(hk.val hx).tv
  have hhv:=(hk.val hh).tv
  have hs:=(X.K4 e _ hte).aG5 w
  refine⟨.slice none 0 0,?_,.t (.v _)⟩
  unfold execOp
  simp[ho,Instr.sliceAt,Instr.slice,Instr.sliceBounds,Instr.sliceBound,asIntOf,hxv,hhv,hdd,hs]
theorem ej1 {P:Program}{w0:World}{L:Lim}{nt:Nat}{σ:St}{S:Nat->Prop}{E:Nat->Value}{a:Act}{w:World}(h:Ok w0 L nt σ S E a w){o:Oper}{n:Nat}{l:List T}{aQ2:List (List Tree)}(ho:cM0 σ.tm o=some (n,l,aQ2))(hn:∀vs w,(callFunc n vs).run P w= .ok (.enter n vs) w):
  ∃vs ps:List Value,(execOp a.eval o).run P w= .ok (.enter n (vs++ps).toArray) w/\RVL w S E vs l/\∀E',RVL w S E' ps (aQ2.map T.el):=by
 obtain⟨dst,op,type,pos,aft,guard⟩:=o
 unfold cM0 at ho
 split at ho<;>try(cases ho;done)
 rename_i f args tys hop
 simp only at hop
 subst hop
 have key:∀(n':Nat) (cz0:List (List Tree)) (l':List T),RV w S E (a.eval f) (.fz n' cz0)->bx5 σ.tm args.toList=some l'->n'=n->cz0=aQ2->l'=l->
   ∃vs ps:List Value,(execOp a.eval ⟨dst,.call ⟨.value f,args,tys⟩,type,pos,aft,guard⟩).run P w= .ok (.enter n (vs++ps).toArray) w/\RVL w S E vs l/\∀E',RVL w S E' ps (aQ2.map T.el):=by
  intro n' cz0 l' hfv hl e1 e2 e3
  subst e1 e2 e3
  generalize hx:a.eval f=x at hfv
  cases hfv with
  |fz _ ps _ hpl hp=>
   refine⟨args.toList.map a.eval,ps,?_,cq2 h _ _ hl,fun E'=>⟨by simpa using hpl,fun j h1 h2=>?_⟩⟩
   ·have:(args.map a.eval)=(args.toList.map a.eval).toArray:=ff3 (by simp)
    simp only[execOp,resolve,bk5,hx,Deferred.ofValue,bO3,ba5,invoke]
    rw[hn]
    simp[this]
   ·simp only[List.getElem_map]
    exact(hp j h1 (by simpa using h2)).rv
 split at ho<;>try(cases ho;done)
 ·rename_i n' cz0 l' hf hl
  simp only[aI5,aX4]at ho
  obtain⟨rfl,rfl,rfl⟩:=ho
  exact key _ _ _ (h.val hf) hl rfl rfl rfl
 ·rename_i n' cs l' hf hl
  split at ho<;>try(cases ho;done)
  rename_i cz0 he
  simp only[aI5,aX4]at ho
  obtain⟨rfl,rfl,rfl⟩:=ho
  exact key _ _ _ (RV.ex2 (h.val hf) he) hl rfl rfl rfl
end
def aY7 (hp Z4:List (Nat×G3)):Prop:=∀k b,look hp k=some b->look Z4 k=some b
theorem df1 {hp Z4:List (Nat×G3)}(h:aY7 hp Z4){x:T}(ho:one hp x=true):one Z4 x=true:=by
 cases x with
 |own id=>
  simp only[one,Option.isSome_iff_exists]at ho|-
  obtain⟨b,hb⟩:=ho
  exact⟨b,h _ _ hb⟩
 |t x=>cases x<;>exact ho
 |_=>exact ho
theorem cR0 {hp Z4:List (Nat×G3)}(h:aY7 hp Z4):∀{l:List T},cw2 hp l=true->cw2 Z4 l=true
 |[],_=>rfl
 |x::l,ho=>by
  simp only[cw2,aJ5]at ho|-
  exact⟨df1 h ho.1,cR0 h ho.2⟩
theorem bq7 {hp Z4:List (Nat×G3)}(h:aY7 hp Z4){x:T}{l:List T}(hc:ap6 hp x=some l):ap6 Z4 x=some l:=by
 have gen:∀{y:T},(bif one hp y then some [y]else none)=some l->(bif one Z4 y then some [y]else none)=some l:=by
  intro y hy
  cases ho:one hp y<;>rw[ho]at hy<;>simp only[fj8,fj6,reduceCtorEq]at hy
  rw[df1 h ho];exact hy
 cases x with
 |agg m=>
  simp only[ap6]at hc|-
  cases ho:cw2 hp m<;>rw[ho]at hc<;>simp only[fj8,fj6,reduceCtorEq]at hc
  rw[cR0 h ho];exact hc
 |_=>simp only[ap6]at hc|-;exact gen hc
theorem by9 {hp Z4:List (Nat×G3)}{tm:List (Nat×T)}(h:aY7 hp Z4){place:Nat->Option (Nat×Nat)}:∀{l:List (Nat×Operand)}{cs r:List T},aL1 hp tm place cs l=some r->aL1 Z4 tm place cs l=some r
 |[],cs,r,hx=>hx
 |(i,x)::l,cs,r,hx=>by
  unfold aL1 at hx|-
  cases hv:val tm x with
  |none=>simp[hv]at hx
  |some t=>
   simp only[hv,aH3]at hx|-
   cases hc:ap6 hp t with
   |none=>simp[hc]at hx
   |some m=>
    rw[bq7 h hc]
    rw[hc]at hx
    cases hp:place i with
    |none=>simp[hp]at hx
    |some p=>
     obtain⟨o,n⟩:=p
     simp only[hp]at hx|-
     cases hb:(bM1 m.length n&&dO2 (o+m.length) cs.length)<;>simp only[hb,fj8,fj6]at hx|-
     ·cases hx
     ·exact by9 h hx
theorem dI4 {C4:Tab}{hp Z4:List (Nat×G3)}(h:aY7 hp Z4){ty:Nat}{x:Option T}{t:T}(hl:dv8 C4 hp ty x=some t):dv8 C4 Z4 ty x=some t:=by
 unfold dv8 at hl|-
 repeat' split at hl
 all_goals first
  |(cases hl;done)
  |(simp_all;done)
  |(rename_i hb;simp_all[h _ _ hb])
theorem dW8 {C4:Tab}{tm:List (Nat×T)}{hp Z4:List (Nat×G3)}{o:Oper}{t:T}(h:aY7 hp Z4)(hi:bA9 o.op=true)(he:evalOp C4 ⟨tm,hp⟩ o=some (t,⟨tm,hp⟩)):
  evalOp C4 ⟨tm,Z4⟩ o=some (t,⟨tm,Z4⟩):=by
 rw[aU6]at he|-
 obtain⟨dst,op,type,pos,aft,guard⟩:=o
 have mp:∀{x:Option T},x=some t->x.map (·,(⟨tm,Z4⟩:St))=some (t,⟨tm,Z4⟩):=fun hx=>by rw[hx];rfl
 cases op<;>simp only[bA9,reduceCtorEq]at hi<;>simp only[bk8]at he|-
 case move x=>exact mp (N6 he).1
 case assign x=>exact mp (N6 he).1
 case pick c x y=>
  split at he<;>try(cases he;done)
  exact mp (N6 he).1
 case load ty x=>
  split at he<;>try(cases he;done)
  ·split at he<;>try(cases he;done)
   rename_i hb
   rw[h _ _ hb]
   exact mp (N6 he).1
  ·exact mp (N6 he).1
 case nilCheck x=>
  split at he<;>first|(cases he;done)|(simp only[aI5,aX4]at he;rw[<-he.1])
 case fieldAddr s x f=>
  split at he<;>try(cases he;done)
  all_goals
   split at he<;>try(cases he;done)
   simp only[aI5,aX4]at he
   rw[<-he.1]
 case binOp op ty x y yt=>exact mp (N6 he).1
 case unOp op ty x=>exact mp (N6 he).1
 case convert s d x=>
  split at he<;>try(cases he;done)
  exact mp (N6 he).1
 case extract x k=>
  split at he<;>try(cases he;done)
  exact mp (N6 he).1
 case build ty parts=>
  split at he<;>try(cases he;done)
  ·rename_i sz fs z hti
   cases hf:aL1 hp tm (fs[·]?) (z.map fun x=>.t (.v x)) parts.toList with
   |none=>simp[hf]at he
   |some l=>
    rw[by9 h hf]
    simp only[hf,ca8,aI5,aX4]at he
    simp only[ca8,he.1]
  ·rename_i sz n e z hti
   split at he<;>try(cases he;done)
   rename_i te hte
   cases hf:aL1 hp tm (fun i=>some (i*te.size,te.size)) (z.map fun x=>.t (.v x)) parts.toList with
   |none=>simp[hf]at he
   |some l=>
    rw[by9 h hf]
    simp only[hf,ca8,aI5,aX4]at he
    simp only[ca8,he.1]
 case indexAddr ty x ix=>
  split at he<;>try(cases he;done)
  all_goals
   split at he<;>try(cases he;done)
   revert he
   cases bd5 _ _<;>intro he<;>simp only[fj8,fj6,reduceCtorEq,aI5,aX4]at he|-
   exact⟨he.1,trivial⟩
 case index ty x ix=>
  split at he<;>try(cases he;done)
  split at he<;>try(cases he;done)
  revert he
  cases bd5 _ _<;>intro he<;>simp only[fj8,fj6,reduceCtorEq]at he|-
  exact mp (N6 he).1
 case call c=>
  have hb:=(N6 he).1
  refine mp ?_
  unfold dr4 at hb|-
  split at hb<;>try(cases hb;done)
  ·exact dI4 h hb
  ·exact hb
  ·exact hb
theorem dt6 {C4:Tab}{tm tm':List (Nat×T)}{hp Z4:List (Nat×G3)}{o:Oper}{t:T}(h:more tm tm')(h':aY7 hp Z4)(hi:bA9 o.op=true)(he:evalOp C4 ⟨tm,hp⟩ o=some (t,⟨tm,hp⟩)):
  evalOp C4 ⟨tm',Z4⟩ o=some (t,⟨tm',Z4⟩):=dW8 h' hi (dt7 h hi he)
def aR7:Op->Bool
 | .alloc _| .box .. | .buildSlice .. | .makeSlice ..=>true
 |_=>false
theorem dG9 {C4:Tab}{tm tm':List (Nat×T)}{hp Z4:List (Nat×G3)}{o:Oper}{t:T}{d:Nat}{b:G3}(h:more tm tm')(h':aY7 hp Z4)(hi:aR7 o.op=true)(hd:o.dst=some d)(he:evalOp C4 ⟨tm,hp⟩ o=some (t,⟨tm,(d,b)::hp⟩))
  (hf:(M9 d tm'&&M0 d Z4)=true):evalOp C4 ⟨tm',Z4⟩ o=some (t,⟨tm',(d,b)::Z4⟩):=by
 rw[aU6]at he|-
 obtain⟨dst,op,type,pos,aft,guard⟩:=o
 simp only at hd
 subst hd
 rw[aJ5]at hf
 cases op<;>simp only[aR7,reduceCtorEq]at hi<;>simp only[bk8]at he|-
 case alloc e=>
  cases hti:look C4 e with
  |none=>simp[hti]at he
  |some ti=>
   simp only[hti]at he|-
   cases hb:(bd5 d big&&M9 d tm&&M0 d hp&&ti.zero.all Value.oneCell')<;>rw[hb]at he<;>simp only[fj8,fj6,reduceCtorEq,aI5,aX4,St.mk.injEq,eV7,true_and,and_true]at he
   simp only[aJ5]at hb
   rw[hf.1,hf.2,hb.1.1.1,hb.2]
   simp[he.1,he.2]
 case box e x=>
  cases hv:val tm x with
  |none=>simp[hv]at he
  |some u=>
   simp only[hv,aH3]at he
   cases hc:ap6 hp u with
   |none=>simp[hc]at he
   |some l=>
    simp only[hc]at he
    cases hb:(bd5 d big&&M9 d tm&&M0 d hp)<;>rw[hb]at he<;>simp only[fj8,fj6,reduceCtorEq,aI5,aX4,St.mk.injEq,eV7,true_and,and_true]at he
    simp only[aJ5]at hb
    rw[C9 h hv]
    simp only[aH3,bq7 h' hc,hf.1,hf.2,hb.1.1]
    simp[he.1,he.2]
 case buildSlice ty n parts=>
  split at he<;>try(cases he;done)
  rename_i d' s0 e z0 hd' hti
  simp only[aI5]at hd'
  subst hd'
  split at he<;>try(cases he;done)
  rename_i te hte
  try simp only[hte]
  cases hfi:aL1 hp tm (fun i=>some (i*te.size,te.size)) ((aW5 n te.zero).map fun x=>.t (.v x)) parts.toList with
  |none=>simp[hfi]at he
  |some l=>
   rw[by9 h' (bI9 h hfi)]
   simp only[hfi]at he
   dsimp only
   split at he<;>try(cases he;done)
   rename_i r hr
   try simp only[hr]
   cases hb:(bd5 d big&&M9 d tm&&M0 d hp&&bM1 r.length (n*te.size)&&dO2 (n*te.size) 1000000&&bM1 te.zero.length te.size&&bd5 0 te.size)<;>rw[hb]at he<;>simp only[fj8,fj6,reduceCtorEq,aI5,aX4,St.mk.injEq,eV7,true_and,and_true]at he
   simp only[aJ5]at hb
   simp only[hf.1,hf.2,hb.1.1.1.1.1.1,hb.1.1.1.2,hb.1.1.2,hb.1.2,hb.2]
   simp[he.1,he.2]
 case makeSlice ty x y=>cases he
def pt (o:Oper)(V:T)(tm:List (Nat×T)):List (Nat×T):=match o.dst with|some d=>(d,V)::tm|none=>tm
def bf9 (N:Option (Nat×G3))(hp:List (Nat×G3)):List (Nat×G3):=match N with|some p=>p::hp|none=>hp
def cJ0 (o:Oper)(N:Option (Nat×G3)):Option Nat:=match o.op with
 | .call _=>match N with|some (id,_)=>some id|none=>none
 |_=>none
theorem dq5 {o:Oper}{N:Option (Nat×G3)}(h:aR7 o.op=true):cJ0 o N=none:=by
 obtain⟨dst,op,type,pos,aft,guard⟩:=o
 cases op<;>simp only[aR7,reduceCtorEq]at h<;>rfl
theorem dU8 {o:Oper}:cJ0 o none=none:=by
 unfold cJ0
 split<;>rfl
def nfB (id:Nat):List (Nat×G3)->Bool
 |[]=>true
 |(_,b)::r=>!bj0 id b&&nfB id r
theorem cn4 {id:Nat}:∀{hp:List (Nat×G3)},nfB id hp=true->M0 id (bx1 hp id)=true
 |[],_=>rfl
 |(k,b)::r,h=>by
  simp only[nfB,aJ5,bO4]at h
  unfold bx1
  cases hk:bM1 k id<;>simp only[fj8,fj6]
  ·simp[M0,hk,h.1,cn4 h.2]
  ·exact cn4 h.2
def ci0 (o:Oper)(N:Option (Nat×G3))(tm:List (Nat×T))(hp:List (Nat×G3)):Prop:=
 (aR7 o.op=true->∀d,o.dst=some d->(M9 d tm&&M0 d hp)=true)/\∀id,cJ0 o N=some id->M9 id tm=true/\nfB id hp=true
def ai2 (X:Cx)(all:Array Oper)(o:Oper)(U0:List (Nat×T))(an6:List (Nat×G3))(V:T)(N:Option (Nat×G3)):Prop:=
 ∀tm hp,more U0 tm->aY7 an6 hp->ci0 o N tm hp->(∀d,o.dst=some d->bd5 d X.nt=true)->
  ∀a w,Sim X.w0 X.L X.nt ⟨tm,hp⟩ a w->∀(K:Act->World->Prop) (Q':Exit->Act->World->Prop),
  (∀a' w',Sim X.w0 X.L X.nt ⟨pt o V tm,bf9 N hp⟩ a' w'->K a' w')->
  if Region.wanted o (yielded all a.tmps)then o.wp X.P a w K Q' else K (a.put o.dst undef) w
section
variable {τ:Type} {X:Cx} {U0:List (Nat × T)} {an6:List (Nat × G3)} {all:Array Oper} {o:Oper} {V:T} {N:Option (Nat × G3)} {kb:List Nat}
theorem Ok.pt {tm:List (Nat×T)}{hp:List (Nat×G3)}{S:Nat->Prop}{E:Nat->Value}{a:Act}{w:World}{v:Value}(h:Ok X.w0 X.L X.nt ⟨tm,hp⟩ S E a w)(hv:RV w S E v V)(hd:∀d,o.dst=some d->bd5 d X.nt=true):
  Sim X.w0 X.L X.nt ⟨Pv.pt o V tm,hp⟩ (a.put o.dst v) w:=by
 unfold Pv.pt
 cases bg8:o.dst with
 |none=>exact⟨S,E,h⟩
 |some d=>exact⟨S,E,h.put (bd4 (hd d bg8)) hv⟩
theorem ai2.pure (hg:gk all.toList kb U0 o.guard=some true)(hi:bA9 o.op=true)(he:evalOp X.C4 ⟨U0,an6⟩ o=some (V,⟨U0,an6⟩)):ai2 X all o U0 an6 V none:=by
 intro tm hp hm hh _ hd a w ⟨S,E,hk⟩ K Q' hK
 obtain⟨v,w',E',hdo,hk',hv⟩:=bE0 X.K4 hk (dt6 hm hh hi he)
 rw[S8 hk (as4 hm (aG0 hg)),if_pos rfl]
 unfold Oper.wp
 have:=hK (a.put o.dst v) w' (by simpa[bf9]using Ok.pt hk' hv hd)
 rcases hdo with hdo|⟨hdo,rfl⟩<;>rw[hdo]<;>exact this
theorem ai2.new {d:Nat}{b:G3}(hg:gk all.toList kb U0 o.guard=some true)(hi:aR7 o.op=true)(hd:o.dst=some d)(he:evalOp X.C4 ⟨U0,an6⟩ o=some (V,⟨U0,(d,b)::an6⟩)):ai2 X all o U0 an6 V (some (d,b)):=by
 intro tm hp hm hh hf hd' a w ⟨S,E,hk⟩ K Q' hK
 obtain⟨v,w',E',hdo,hk',hv⟩:=bE0 X.K4 hk (dG9 hm hh hi hd he (hf.1 hi d hd))
 rw[S8 hk (as4 hm (aG0 hg)),if_pos rfl]
 unfold Oper.wp
 have:=hK (a.put o.dst v) w' (Ok.pt hk' hv hd')
 rcases hdo with hdo|⟨hdo,rfl⟩<;>rw[hdo]<;>exact this
theorem cP7 {hp:List (Nat×G3)}{id k:Nat}{b c:G3}(h:look hp id=some b):look (at7 hp id c) k=look ((id,c)::hp) k:=by
 rw[aE8]
 by_cases hk:id=k
 ·subst hk;simp[h,look]
 ·simp[hk,look,C5 hk]
theorem Sim.bM5 {w0:World}{L:Lim}{nt:Nat}{tm tm':List (Nat×T)}{hp Z4:List (Nat×G3)}{a:Act}{w:World}(hm:Pv.more tm' tm)(hh:aY7 Z4 hp)(h:Sim w0 L nt ⟨tm,hp⟩ a w):Sim w0 L nt ⟨tm',Z4⟩ a w:=by
 obtain⟨S,E,hk⟩:=h
 exact⟨S,E,{hk with
  tm:=fun k t ht=>hk.tm k t (hm k t ht)
  hp:=fun i b hb=>hk.hp i b (hh i b hb)
  own:=fun i b β hb=>hk.own i b β (hh i b hb)
  at6:=fun i i' b b' β h1 h2=>hk.at6 i i' b b' β (hh i b h1) (hh i' b' h2)}⟩
theorem ai2.store {t id off:Nat}{x y:Operand}{ti:TI}{l ts:List T}(hg:gk all.toList kb U0 o.guard=some true)(ho:o.op= .store t x y)(hx:val U0 x=some (.ptr id off))(hti:look X.C4 t=some ti)(hy:(val U0 y).bind (ap6 an6)=some l)
  (hb:look an6 id=some (.box ts)) (hc:(bM1 l.length ti.size&&dO2 (off+l.length) ts.length)=true):ai2 X all o U0 an6 (.t (.v undef)) (some (id,.box (aP3 ts off l))):=by
 intro tm hp hm hh hf hd' a w ⟨S,E,hk⟩ K Q' hK
 have he:evalOp X.C4 ⟨tm,hp⟩ o=some (.t (.v undef),⟨tm,at7 hp id (.box (aP3 ts off l))⟩):=by
  have hy':(val tm y).bind (ap6 hp)=some l:=by
   cases hv:val U0 y with
   |none=>simp[hv]at hy
   |some u=>rw[C9 hm hv];rw[hv]at hy;exact bq7 hh hy
  rw[aU6]
  obtain⟨dst,op,type,pos,aft,guard⟩:=o
  simp only at ho
  subst ho
  simp only[bk8,C9 hm hx,hti,hy',hh _ _ hb,hc,fj8]
 obtain⟨v,w',E',hdo,hk',hv⟩:=bE0 X.K4 hk he
 rw[S8 hk (as4 hm (aG0 hg)),if_pos rfl]
 unfold Oper.wp
 have:=hK (a.put o.dst v) w' (Sim.bM5 (fun _ _ h=>h) (fun k c hkc=>by rw[cP7 (hh _ _ hb)];exact hkc) (Ok.pt hk' hv hd'))
 rcases hdo with hdo|⟨hdo,rfl⟩<;>rw[hdo]<;>exact this
theorem ai2.skip (hg:gk all.toList kb U0 o.guard=some false):ai2 X all o U0 an6 (.t (.v undef)) none:=by
 intro tm hp hm hh hf hd a w ⟨S,E,hk⟩ K Q' hK
 rw[S8 hk (as4 hm (aG0 hg)),if_neg (by simp)]
 exact hK _ _ (by simpa[bf9]using Ok.pt hk (.t (.v _)) hd)
end
mutual
theorem cn2:∀(t:T),mrg t t=t
 | .agg l=>by simp only[mrg,bX1 l]
 | .P9 l=>by simp only[mrg,bX1 l]
 | .t x=>by
  unfold mrg
  cases x with
  |sl n rs=>rfl
  |v x=>rfl
 | .clo f l=>by simp only[mrg]
 | .el _=>by simp only[mrg]
 | .ptr _ _=>by simp only[mrg]
 | .own _=>by simp only[mrg]
 | .pe _ _ _ _=>by simp only[mrg]
 | .vw _ _ _ _=>by simp only[mrg]
 | .fz _ _=>by simp only[mrg]
 | .any=>by simp only[mrg]
theorem bX1:∀(l:List T),bB2 l l=l
 |[]=>by simp only[bB2]
 |x::l=>by simp only[bB2,cn2 x,bX1 l]
end
theorem de8 (b:G3):cn1 b b=b:=by
 cases b<;>simp[cn1,bX1]
theorem L1.dn3 {C4:Tab}{tm tm':List (Nat×T)}{hp Z4:List (Nat×G3)}{o:Op}(hm:more tm tm')(hh:aY7 hp Z4):∀{τ:Type}{l:L1 τ}{r:Tr×(τ->T)},l.q C4 tm hp o=some r->l.q C4 tm' Z4 o=some r
 |_,.ix enc l i,r,h=>by
  simp only[L1.q]at h|-
  split at h<;>try(cases h;done)
  split at h<;>try(cases h;done)
  rename_i hx hi hty
  rw[C9 hm hx,C9 hm hi,hty]
  dsimp only
  split at h<;>try(cases h;done)
  split at h
  ·split at h<;>try(cases h;done)
   rename_i hb
   try dsimp only
   rw[hh _ _ hb];exact h
  ·exact h
 |_,.quo k i j,r,h=>by
  simp only[L1.q]at h|-
  split at h<;>try(cases h;done)
  split at h<;>try(cases h;done)
  rename_i hx hy
  rw[C9 hm hx,C9 hm hy];exact h
 |_,.rem i j,r,h=>by
  simp only[L1.q]at h|-
  split at h<;>try(cases h;done)
  split at h<;>try(cases h;done)
  rename_i hx hy
  rw[C9 hm hx,C9 hm hy];exact h
 |_,.shl k i j,r,h=>by
  simp only[L1.q]at h|-
  split at h<;>try(cases h;done)
  split at h<;>try(cases h;done)
  rename_i hx hy
  rw[C9 hm hx,C9 hm hy];exact h
 |_,.shr k i j,r,h=>by
  simp only[L1.q]at h|-
  split at h<;>try(cases h;done)
  split at h<;>try(cases h;done)
  rename_i hx hy
  rw[C9 hm hx,C9 hm hy];exact h
 |_,.str s i,r,h=>by
  simp only[L1.q]at h|-
  split at h<;>try(cases h;done)
  split at h<;>try(cases h;done)
  rename_i hx hi hty
  rw[C9 hm hx,C9 hm hi,hty];exact h
 |_,.arr res ys i,r,h=>by
  simp only[L1.q]at h|-
  split at h<;>try(cases h;done)
  split at h<;>try(cases h;done)
  rename_i hx hi hty
  rw[C9 hm hx,C9 hm hi,hty];exact h
 |_,.ax enc ys i,r,h=>by
  simp only[L1.q]at h|-
  split at h<;>try(cases h;done)
  split at h<;>try(cases h;done)
  rename_i hx hi hty
  rw[C9 hm hx,C9 hm hi,hty];exact h
theorem bL2 {hp Z4:List (Nat×G3)}(h:aY7 hp Z4):∀{ts:List T}{c:List Tree},ar7 hp ts=some c->ar7 Z4 ts=some c
 |[],c,hc=>by simp only[ar7]at hc|-;exact hc
 | .t x::r,c,hc=>by
  simp only[ar7]at hc|-
  cases hr:ar7 hp r with
  |none=>simp[hr]at hc
  |some d=>rw[bL2 h hr];rw[hr]at hc;exact hc
 | .own id::r,c,hc=>by
  simp only[ar7]at hc|-
  split at hc<;>try(cases hc;done)
  rename_i hb
  rw[h _ _ hb]
  cases hr:ar7 hp r with
  |none=>simp[hr]at hc
  |some d=>simp only[bL2 h hr];rw[hr]at hc;exact hc
 | .el _::_,c,hc=>by simp[ar7]at hc
 | .ptr _ _::_,c,hc=>by simp[ar7]at hc
 | .pe _ _ _ _::_,c,hc=>by simp[ar7]at hc
 | .vw _ _ _ _::_,c,hc=>by simp[ar7]at hc
 | .agg _::_,c,hc=>by simp[ar7]at hc
 | .P9 _::_,c,hc=>by simp[ar7]at hc
 | .clo _ _::_,c,hc=>by simp[ar7]at hc
 | .fz _ _::_,c,hc=>by simp[ar7]at hc
 | .any::_,c,hc=>by simp[ar7]at hc
mutual
theorem dH3 {hp Z4:List (Nat×G3)}(h:aY7 hp Z4):∀{x y:T},bb3 hp x=some y->bb3 Z4 x=some y
 | .own id,y,hf=>by
  simp only[bb3]at hf|-
  split at hf<;>try(cases hf;done)
  rename_i hb
  rw[h _ _ hb];exact hf
 | .ptr id off,y,hf=>by
  simp only[bb3]at hf|-
  split at hf<;>try(cases hf;done)
  rename_i ts hb
  rw[h _ _ hb]
  cases hc:ar7 hp ts with
  |none=>simp[hc]at hf
  |some c=>simp only[bL2 h hc];rw[hc]at hf;exact hf
 | .agg l,y,hf=>by
  simp only[bb3]at hf|-
  cases hl:bm8 hp l with
  |none=>simp[hl]at hf
  |some r=>rw[bu5 h hl];rw[hl]at hf;exact hf
 | .P9 l,y,hf=>by
  simp only[bb3]at hf|-
  cases hl:bm8 hp l with
  |none=>simp[hl]at hf
  |some r=>rw[bu5 h hl];rw[hl]at hf;exact hf
 | .clo n l,y,hf=>by
  simp only[bb3]at hf|-
  cases hl:bm8 hp l with
  |none=>simp[hl]at hf
  |some r=>rw[bu5 h hl];rw[hl]at hf;exact hf
 | .t x,y,hf=>by simp only[bb3]at hf|-;exact hf
 | .el c,y,hf=>by simp only[bb3]at hf|-;exact hf
 | .fz n c,y,hf=>by simp only[bb3]at hf|-;exact hf
 | .pe _ _ _ _,y,hf=>by simp[bb3]at hf
 | .vw _ _ _ _,y,hf=>by simp[bb3]at hf
 | .any,y,hf=>by simp[bb3]at hf
theorem bu5 {hp Z4:List (Nat×G3)}(h:aY7 hp Z4):∀{l r:List T},bm8 hp l=some r->bm8 Z4 l=some r
 |[],r,hf=>by simp only[bm8]at hf|-;exact hf
 |x::l,r,hf=>by
  simp only[bm8]at hf|-
  split at hf<;>try(cases hf;done)
  rename_i hx hl
  rw[dH3 h hx,bu5 h hl];exact hf
end
section
variable {τ:Type} {X:Cx} {U0:List (Nat × T)} {an6:List (Nat × G3)} {all:Array Oper} {o:Oper} {V:T} {kb:List Nat}
theorem dF3 {tm tm':List (Nat×T)}{r:Nat×List T×List (List Tree)}(h:more tm tm')(hc:cM0 tm o=some r):cM0 tm' o=some r:=by
 unfold cM0 at hc|-
 split at hc<;>try(cases hc;done)
 rename_i f args tys hop
 split at hc<;>try(cases hc;done)
 ·rename_i n aQ2 l hf hl
  rw[C9 h hf,bF4 h hl]
  exact hc
 ·rename_i n aQ2 l hf hl
  rw[C9 h hf,bF4 h hl]
  exact hc
theorem W1.dn3 {P:Program}{Ev:EqV P}{C4:Tab}{Γ:List GF}{tm tm':List (Nat×T)}{hp Z4:List (Nat×G3)}{o:Op}(hm:more tm tm')(hh:aY7 hp Z4):∀{u:W1}{r:Tr×T},u.q Ev C4 Γ tm hp o=some r->u.q Ev C4 Γ tm' Z4 o=some r
 | .hx n,r,h=>by
  simp only[W1.q]at h|-
  split at h<;>try(cases h;done)
  rename_i f hf
  try simp only[hf]
  split at h<;>try(cases h;done)
  rename_i hq
  rw[L1.dn3 hm hh hq];exact h
 | .ly n,r,h=>by
  simp only[W1.q]at h|-
  split at h<;>try(cases h;done)
  rename_i hf
  try simp only[hf]
  split at h<;>try(cases h;done)
  rename_i hp1 hti
  rw[C9 hm hp1,hti]
  dsimp only
  split at h<;>try(cases h;done)
  rename_i hb hr
  rw[hh _ _ hb,hr];exact h
 | .eq,r,h=>by
  simp only[W1.q]at h|-
  split at h<;>try(cases h;done)
  split at h<;>try(cases h;done)
  rename_i hx hy
  rw[C9 hm hx,C9 hm hy];exact h
 | .cn,r,h=>by
  simp only[W1.q]at h|-
  split at h<;>try(cases h;done)
  split at h<;>try(cases h;done)
  rename_i ha hb
  try rw[ha,hb]
  try dsimp only
  split at h<;>try(cases h;done)
  rename_i hx hty
  rw[C9 hm hx,hty];exact h
 | .sn,r,h=>by
  simp only[W1.q]at h|-
  split at h<;>try(cases h;done)
  split at h<;>try(cases h;done)
  rename_i hx hh' hty
  rw[C9 hm hx,C9 hm hh',hty];exact h
theorem ai2.known {Ev:EqV X.P}{Γ:List GF}(hΓ:∀f∈Γ,f.ok){u:W1}{t:Tr}(hg:gk all.toList kb U0 o.guard=some true)(hq:u.q Ev X.C4 Γ U0 an6 o.op=some (t,V))(ht:t.den):ai2 X all o U0 an6 V none:=by
 intro tm hp hm hh _ hd a w ⟨S,E,hk⟩ K Q' hK
 obtain⟨v,h1,h2⟩:=W1.ok hΓ (W1.dn3 hm hh hq) ht S E a w hk
 rw[S8 hk (as4 hm (aG0 hg)),if_pos rfl]
 unfold Oper.wp
 rw[h1]
 exact hK (a.put o.dst v) w (by simpa[bf9]using Ok.pt hk h2 hd)
theorem ai2.one {l:L1 τ}{t:Tr}{res:τ->T}{y:τ}(hg:gk all.toList kb U0 o.guard=some true)(hq:l.q X.C4 U0 an6 o.op=some (t,res))(ht:t.den)(hy:l.m=some y):ai2 X all o U0 an6 (res y) none:=by
 intro tm hp hm hh _ hd a w ⟨S,E,hk⟩ K Q' hK
 obtain⟨v,h1,h2⟩:=L1.ok (L1.dn3 hm hh hq) ht y S E a w hy hk
 rw[S8 hk (as4 hm (aG0 hg)),if_pos rfl]
 unfold Oper.wp
 rw[h1]
 exact hK (a.put o.dst v) w (by simpa[bf9]using Ok.pt hk h2 hd)
theorem ai2.call {n d:Nat}{args:List T}{s:Bool}{m₁:Option τ}{res:τ->T}{t:τ}(ht:m₁=some t)(hg:gk all.toList kb U0 o.guard=some true)(ho:cL9 U0 an6 o=some (n,args,s,d))(hc:aQ7 X.P n args m₁ res)
  (hs:s=true->scalar (res t)=true):ai2 X all o U0 an6 (res t) none:=by
 intro tm hp hm hh _ hd a w ⟨S,E,hk⟩ K Q' hK
 unfold cL9 at ho
 split at ho<;>try(cases ho;done)
 rename_i n' targs aQ2 d' hz hd'
 obtain⟨vs,ps,bf6,hv,hps⟩:=ej1 hk (dF3 hm hz) (by
  split at ho
  ·simp only[aI5,aX4]at ho;obtain⟨rfl,_⟩:=ho;exact hc.1
  ·split at ho<;>try(cases ho;done)
   simp only[aI5,aX4]at ho;obtain⟨rfl,_⟩:=ho;exact hc.1)
 rw[S8 hk (as4 hm (aG0 hg)),if_pos rfl]
 unfold Oper.wp
 rw[bf6,Oper.upon_enter]
 split at ho
 ·rename_i l' hf
  simp only[aI5,aX4]at ho
  obtain⟨rfl,rfl,rfl,rfl⟩:=ho
  have aL2:=hc.2 t ht w S E (vs++ps) hk.aG9 ((RV.closed hk hv hf E).append (hps E))
  refine aL2.mono fun e w' ⟨v,S',he,hv',aL3,hs1,hs2⟩=>?_
  subst he
  refine hK _ _ (by
   have:=Ok.pt (o:=o) (V:=res t) (v:=v) (S:=fun b=>S b\/S' b) (E:=E) ((hk.grow aL3).more hs1 (fun b hb=>?_) (fun id blk β hb hβ hS=>?_)) (hv'.mono (fun _ x=>.inr x) (fun _ _=>rfl) (fun _ _=>rfl)) hd
   ·simpa[bf9]using this
   ·rcases hs2 b hb with h1|h1
    ·exact hk.base b h1
    ·exact .inr (.inr (eJ3 hk.keep.size h1))
   ·have:=hk.own id blk β hb hβ
    rcases hs2 β hS with h1|h1
    ·exact this.1 h1
    ·exact absurd this.2.1 (ff7.2 h1))
 ·split at ho<;>try(cases ho;done)
  rename_i l' hf
  simp only[aI5,aX4]at ho
  obtain⟨rfl,rfl,rfl,rfl⟩:=ho
  have aL2:=hc.2 t ht w (fun b=>S b\/bk9 hp E b) E (vs++ps) (fun b hb=>hb.elim (hk.aG9 b) (fun⟨id,_,hl,hβ⟩=>(hk.own id _ b hl hβ).2.1))
   ((bz0 hk (fun _ x=>.inl x) (fun _ x=>.inr x) hv (bu5 hh hf) E).append ((hps E).eL5 (fun _ x=>.inl x) (fun _ _=>rfl)))
  refine aL2.mono fun e w' ⟨v,S',he,hv',aL3,_,_⟩=>?_
  subst he
  exact hK _ _ (by simpa[bf9]using Ok.pt (hk.grow aL3) (hv'.scalar (hs rfl)) hd)
theorem eD0 {w0:World}{L:Lim}{nt d e sz n:Nat}{rs:List (List Tree)}{tm:List (Nat×T)}{hp:List (Nat×G3)}{a:Act}{w:World}(hb:M0 d hp=true)(h:Sim w0 L nt ⟨(d,.own d)::tm,(d,.rows e sz n rs)::hp⟩ a w):
  Sim w0 L nt ⟨(d,.t (.sl n rs))::tm,hp⟩ a w:=by
 obtain⟨S,E,hk⟩:=h
 have hne:∀{id blk},look hp id=some blk->d≠id:=fun hl e=>(aA4 hb _ _ hl).1 e.symm
 have hd0:look ((d,G3.rows e sz n rs)::hp) d=some (.rows e sz n rs):=by simp[look]
 have hl':∀{id blk},look hp id=some blk->look ((d,G3.rows e sz n rs)::hp) id=some blk:=fun hl=>by rw[I2 (hne hl)];exact hl
 have hk1:Ok w0 L nt ⟨(d,.own d)::tm,[(d,.rows e sz n rs)]⟩ S E a w:=
  {hk with
   hp:=fun i b hb'=>by
    simp only[look]at hb'
    by_cases hi:d=i
    ·subst hi;simp only[ca7,fj8,aI5]at hb';subst hb';exact hk.hp d _ hd0
    ·simp[C5 hi]at hb'
   own:=fun i b β hb' hβ=>by
    simp only[look]at hb'
    by_cases hi:d=i
    ·subst hi;simp only[ca7,fj8,aI5]at hb';subst hb';exact hk.own d _ β hd0 hβ
    ·simp[C5 hi]at hb'
   at6:=fun i i' b b' β h1 h2 _ _=>by
    simp only[look]at h1 h2
    by_cases hi:d=i<;>by_cases hi':d=i'
    ·exact hi.symm.trans hi'
    ·simp[C5 hi']at h2
    ·simp[C5 hi]at h1
    ·simp[C5 hi]at h1}
 have hk2:Ok w0 L nt ⟨(d,.own d)::tm,hp⟩ S E a w:=
  {hk with
   hp:=fun i b hb'=>hk.hp i b (hl' hb')
   own:=fun i b β hb' hβ=>hk.own i b β (hl' hb') hβ
   at6:=fun i i' b b' β h1 h2=>hk.at6 i i' b b' β (hl' h1) (hl' h2)}
 have hk3:=hk2.more (S':=fun b=>R7 (E d)=some b) (fun b hb'=>(hk.own d _ b hd0 hb').2.1) (fun b hb'=>by
  rcases(hk.own d _ b hd0 hb').2.2 with h2|h2
  ·exact .inr (.inr h2)
  ·exact .inr (.inl h2)) (fun id blk β hl hβ hS=>hne hl (hk.at6 d id _ blk β hd0 (hl' hl) hS hβ))
 have hu:RV w (fun b=>S b\/R7 (E d)=some b) E (E d) (.t (.sl n rs)):=by
  refine .t (bX4 hk1 (id:=d) (e:=e) (sz:=sz) (by simp[look]) _ (fun _ x=>.inl x) fun b hb'=>?_)
  obtain⟨i,_,hl,hβ⟩:=hb'
  simp only[look]at hl
  by_cases hi:d=i
  ·subst hi;exact .inr hβ
  ·simp[C5 hi]at hl
 refine⟨_,E,{hk3 with tm:=fun k t ht=>?_}⟩
 simp only[look]at ht
 by_cases hdk:d=k
 ·subst hdk
  simp only[ca7,fj8,aI5]at ht
  subst ht
  have:=hk3.tm d (.own d) (by simp[look])
  generalize a.tmps.getD d undef=x at this|-
  cases this with
  |own _ _ hE=>rw[<-hE];exact hu
 ·simp only[C5 hdk,fj6]at ht
  exact hk3.tm k t (by rw[I2 hdk];exact ht)
theorem ai2.frz {d e sz n:Nat}{rs:List (List Tree)}(hi:aR7 o.op=true)(hd:o.dst=some d)(h:ai2 X all o U0 an6 (.own d) (some (d,.rows e sz n rs))):ai2 X all o U0 an6 (.t (.sl n rs)) none:=by
 intro tm hp hm hh hf hd' a w hk K Q' hK
 have h1:=h tm hp hm hh ⟨hf.1,fun id hid=>by rw[dq5 hi]at hid;cases hid⟩ hd' a w hk K Q' fun a' w' hs=>hK a' w' (by
  simp only[pt,bf9,hd]at hs|-
  have:=hf.1 hi d hd
  rw[aJ5]at this
  exact eD0 this.2 hs)
 exact h1
theorem Oper.dT9 {P:Program}{o:Oper}{a:Act}{w:World}{K K':Act->World->Prop}{Q Q':Exit->Act->World->Prop}(h:∀a w,K a w->K' a w)(hp:∀c a w,¬Q (.panic c) a w)(hl:¬LetsOut Q)(hh:o.wp P a w K Q):o.wp P a w K' Q':=by
 unfold Oper.wp at*
 generalize(execOp a.eval o).run P w=r at*
 cases r with
 |ok n w'=>
  cases n<;>simp only[Oper.upon]at hh|- <;>
   first
    |exact h _ _ hh
    |exact Calls.mono hh (fun e w'' he=>by cases e<;>first|exact h _ _ he|exact absurd he (hp _ _ _)|exact absurd he hl)
    |exact Rows.mono hh (fun _ _ he=>h _ _ he)
 |halt x w'=>cases x<;>simp only[Oper.upon]at hh|- <;>first|exact absurd hh (hp _ _ _)|exact hh
theorem ai2.eL9 {N:Option (Nat×G3)}(h:∀tm hp,more U0 tm->aY7 an6 hp->∃σ':St,more (Pv.pt o V tm) σ'.tm/\aY7 (bf9 N hp) σ'.hp/\B5 X all [o] [] ⟨tm,hp⟩ (some ()) (fun _ e σ=>e= .normal/\σ=σ')):ai2 X all o U0 an6 V N:=by
 intro tm hp hm hh _ _ a w hk K Q' hK
 obtain⟨σ',h1,h2,h3⟩:=h tm hp hm hh
 have h4:=h3 () rfl a w hk
 have Z4:∀(e:Exit) a w,e≠ .normal->¬(X.post fun e σ=>e= .normal/\σ=σ') e a w:=fun e a w he ⟨σ,_,hx,_⟩=>he hx
 have hfin:∀a w,wpList X.P all (after X.P [] (X.post fun e σ=>e= .normal/\σ=σ')) [] a w->K a w:=fun a w hq=>by
  obtain⟨σ,hs,_,rfl⟩:=hq
  exact hK a w (hs.bM5 h1 h2)
 unfold wpList at h4
 split at h4
 ·rename_i hw
  rw[if_pos hw]
  rcases h4 with h4|⟨_,h4⟩
  ·exact Oper.dT9 hfin (fun c a w=>Z4 _ a w (by intro e;cases e)) (fun⟨a,w,hx⟩=>Z4 _ a w (by intro e;cases e) hx) h4
  ·obtain⟨a,w,hx⟩:=h4
   exact absurd hx (Z4 _ a w (by intro e;cases e))
 ·rename_i hw
  rw[if_neg hw]
  exact hfin _ _ h4
theorem X3 {α:Type}{id:Nat}:∀{l:List (Nat×α)}{k:Nat}{b:α},look (bx1 l id) k=some b->k≠id/\look l k=some b
 |[],k,b,h=>by simp[bx1,look]at h
 |(j,x)::r,k,b,h=>by
  unfold bx1 at h
  by_cases hj:j=id
  ·subst hj
   simp only[ca7,fj8]at h
   obtain⟨h1,h2⟩:=X3 h
   exact⟨h1,by rw[I2 (Ne.symm h1)];exact h2⟩
  ·simp only[C5 hj,fj6]at h
   by_cases hk:j=k
   ·subst hk
    exact⟨hj,by simpa[look]using h⟩
   ·rw[I2 hk]at h|-
    exact X3 h
theorem aV3 {α:Type}{id k:Nat}(hk:k≠id):∀{l:List (Nat×α)},look (bx1 l id) k=look l k
 |[]=>rfl
 |(j,x)::r=>by
  unfold bx1
  by_cases hj:j=id
  ·subst hj
   simp only[ca7,fj8]
   rw[I2 (Ne.symm hk)];exact aV3 hk
  ·simp only[C5 hj,fj6]
   by_cases hjk:j=k
   ·subst hjk;simp[look]
   ·rw[I2 hjk,I2 hjk];exact aV3 hk
theorem ai2.append {α:Type}{t e e' d id n m s0:Nat}{z0:List Value}{te:TI}{s x:Operand}{sv:Value}{l r y:List α}{enc:α->List Tree}(hg:gk all.toList kb U0 o.guard=some true)
  (ho:o.op= .call ⟨.builtin .append,#[s,x],#[t,t]⟩) (hd:o.dst=some d)
  (hty:look X.C4 t=some ⟨s0,.slice e,z0⟩) (hte:look X.C4 e=some te) (hz:te.zero.length=te.size) (az2:∀y,(enc y).length=te.size) (bg9:∀y,(enc y).all aQ0=true)
  (hs:val U0 s=some (.t (.v sv))) (hb:look an6 id=some (.rv sv e te.size n (l.map enc)))
  (hx:val U0 x=some (.t (.sl m (r.map enc)))\/∃i2,val U0 x=some (.own i2)/\look an6 i2=some (.rows e' te.size m (r.map enc)))
  (aM0:bd5 id big=true) (hy:U5 l r=some y):ai2 X all o U0 an6 (.own id) (some (id,.rows e te.size y.length (y.map enc))):=by
 intro tm hp hm hh hf hd' a w ⟨S,E,hk⟩ K Q' hK
 unfold U5 at hy
 split at hy<;>try(cases hy;done)
 rename_i cF1
 simp only[aI5]at hy
 subst hy
 obtain⟨hft,hfb⟩:=hf.2 id (by unfold cJ0;rw[ho])
 obtain⟨dd,hu,ho2⟩:∃d,X.P.underlying t=some d/\TD.ok X.P (.slice e) d:=by
  obtain⟨i,d,_,_,hu,hdd,_⟩:=X.K4 t _ hty
  exact⟨d,hu,hdd⟩
 simp only[TD.ok]at ho2
 subst ho2
 have hb':=hh _ _ hb
 have cf3:Src w S (a.eval x) r.length te.size (r.map enc):=by
  rcases hx with hx|⟨i2,hx,hb2⟩
  ·have hv:=hk.val (C9 hm hx)
   generalize a.eval x=xv at hv
   cases hv with
   |t hv=>
    have:=cg3 hv (bW2 az2 r) (bG9 bg9 r)
    have hm:m=r.length:=by simpa using this.1
    subst hm
    exact⟨by simp,this.2⟩
  ·have hv:=hk.val (C9 hm hx)
   have hb:=hk.hp i2 _ (hh _ _ hb2)
   generalize a.eval x=xv at hv
   cases hv with
   |own _ _ hE=>
    subst hE
    have:=do2 hb (bG9 bg9 r)
    have hm:m=r.length:=by simpa using this.1
    subst hm
    exact this
 have hv:a.eval s=sv:=(hk.val (C9 hm hs)).tv
 obtain⟨hE0,bz2⟩:=hk.hp id _ hb'
 have hn:n=l.length:=by have:=bz2.1;simpa using this
 subst hn
 have hbv:bd9 w S E sv (.rows e te.size l.length (l.map enc)):=by rw[<-hE0];exact bz2
 have hk':Ok X.w0 X.L X.nt ⟨tm,bx1 hp id⟩ S E a w:=
  {hk with
   hp:=fun i b hb=>hk.hp i b (X3 hb).2
   own:=fun i b β hb hβ=>hk.own i b β (X3 hb).2 hβ
   at6:=fun i i' b b' β h1 h2=>hk.at6 i i' b b' β (X3 h1).2 (X3 h2).2}
 obtain⟨v',w',E',hr,hE,hok⟩:=hk'.append (ty:=o.type) aM0 hft (cn4 hfb) (v:=sv) (x:=a.eval x) (fun β hβ=>hk.own id _ β hb' (by rw[hE0];exact hβ)) (fun i blk β hi h1 h2=>by
   obtain⟨g1,g2⟩:=X3 hi
   exact g1 (hk.at6 id i _ blk β hb' g2 (by rw[hE0];exact h1) h2).symm) hbv hu (X.K4 e _ hte) hz cf3 (bW2 az2 r) (by simpa using cF1)
 rw[S8 hk (as4 hm (aG0 hg)),if_pos rfl]
 unfold Oper.wp
 have aO0:(execOp a.eval o).run X.P w= .ok (.value v') w':=by
  unfold execOp
  simp only[ho,resolve,invoke,builtin,bk5,bO3,ba5,List.map_toArray,cS3,List.map_nil,hv,hr]
 rw[aO0]
 rw[<-List.map_append,<-aY1]at hok
 refine hK (a.put o.dst v') w' (Sim.bM5 (fun _ _ h=>h) (fun k c hkc=>?_) (Ok.pt (o:=o) hok (.own id v' hE) hd'))
 by_cases hki:id=k
 ·subst hki
  simpa[bf9,look]using hkc
 ·simp only[bf9]at hkc
  rw[I2 hki]at hkc|-
  rw[aV3 (Ne.symm hki)];exact hkc
theorem cd6 {tm tm':List (Nat×T)}{r:Nat×List T}(h:more tm tm')(hc:bD3 tm o=some r):bD3 tm' o=some r:=by
 unfold bD3 at hc|-
 split at hc<;>try(cases hc;done)
 rename_i f args tys hop
 split at hc<;>try(cases hc;done)
 ·rename_i n aQ2 l hf hl
  rw[C9 h hf,bF4 h hl]
  exact hc
 ·rename_i n c l hf hl
  rw[C9 h hf,bF4 h hl]
  exact hc
theorem bI5 {lm:List (Nat×Nat)}{k:Nat}(h:k∉lm.map (·.2)):∀{hp:List (Nat×G3)},look (aq0 lm hp) k=look hp k
 |[]=>rfl
 |(i,b)::r=>by
  simp only[aq0]
  split
  ·rename_i hm
   have hik:i≠k:=by
    rintro rfl
    unfold ep8 at hm
    rw[List.any_eq_true]at hm
    obtain⟨p,hp,he⟩:=hm
    exact h (cX4.2 ⟨p,hp,bp9 he⟩)
   rw[I2 hik];exact bI5 h
  ·by_cases hik:i=k
   ·subst hik;simp[look]
   ·rw[I2 hik,I2 hik];exact bI5 h
theorem df9 {h:List (Nat×Nat)}:∀{hp Z4:List (Nat×G3)},aS4 h hp=some Z4->∀{p},p∈Z4->p.1∈h.map (·.2)
 |[],Z4,hr,p,hm=>by simp only[aS4,aI5]at hr;subst hr;cases hm
 |(i0,b0)::r,Z4,hr,p,hm=>by
  simp only[aS4]at hr
  split at hr<;>try(cases hr;done)
  rename_i j c l hj _ hl
  simp only[aI5]at hr
  subst hr
  rcases ch6.1 hm with rfl|hm
  ·exact cX4.2 ⟨(i0,j),bm9 hj,rfl⟩
  ·exact df9 hl hm
theorem ai2.eZ6 {n d : Nat} {targs am5 aC6 : List T} {chp aO2 : List (Nat × G3)} {m₁ : Option τ} {res : τ -> T} {bI1 : τ -> List (Nat × G3)} {t : τ} {rt : T} (lm : List (Nat × Nat)) (ht : m₁ = some t) (hc : bh4 X.P n aC6 chp m₁ res bI1)
    (hg : gk all.toList kb U0 o.guard = some true) (ho : bD3 U0 o = some (n, targs)) (bg8 : o.dst = some d) (hdn : bd5 d X.nt = true) (ha : bT8 lm aC6 = some am5) (hmr : bB2 targs am5 = am5)
    (hr : aS4 lm chp = some aO2) (bS6 : aO2.map (fun p => look an6 p.1) = aO2.map (fun p => some p.2)) (hm0 : bp1 lm [] [] [] = true) (hk0 : (lm.all fun p => (look aO2 p.2).isSome) = true)
    (dl2 : aM7 lm (res t) = some rt) (hsame : bI1 t = chp) : ai2 X all o U0 an6 rt none := by
  have cf1 : ∀ p ∈ aO2, look an6 p.1 = some p.2 := fun p Z4 => by
    obtain ⟨n, hn, rfl⟩ := List.mem_iff_getElem.1 Z4
    have : (aO2.map (fun p => look an6 p.1))[n]? = (aO2.map (fun p => some p.2))[n]? := by rw [bS6]
    rw [cG5, cG5, aK2 hn] at this
    simpa using this
  have hct : bh4 X.P n aC6 chp (some ()) (fun _ => res t) (fun _ => chp) := ⟨hc.1, fun r _ => by
    have := hc.2 t ht
    rw [hsame] at this
    exact this⟩
  refine .eL9 fun tm hp hm hh => ⟨⟨(d, rt) :: tm, aO2 ++ aq0 lm hp⟩, ?_, ?_, ?_⟩
  · intro k u hk; simpa [pt, bg8] using hk
  · intro k c hk
    simp only [bf9] at hk
    by_cases hkl : k ∈ lm.map (·.2)
    · obtain ⟨p, hp1, rfl⟩ := cX4.1 hkl
      have := bN8.1 hk0 p hp1
      rw [Option.isSome_iff_exists] at this
      obtain ⟨b, hb⟩ := this
      rw [aR8, hb]
      have := hh _ _ (cf1 _ (bm9 hb))
      rw [hk] at this
      simp only [aI5] at this
      simp [this]
    · rw [aR8]
      cases hx : look aO2 k with
      | some b => exact absurd (df9 hr (bm9 hx)) hkl
      | none => rw [bI5 hkl]; exact hk
  · have := B5.g (X := X) (all := all) (o := o) (rest := []) (ks := []) (k := fun _ => some ()) (Q := fun (_ : Unit) e' σ => e' = .normal /\ σ = ⟨(d, rt) :: tm, aO2 ++ aq0 lm hp⟩) (hp2 := aq0 lm hp) (d := d) lm [] (dK4 := fun _ => rt) (rhp := fun _ => aO2) (aO2 := aO2) (targs := targs) (am5 := am5) (n := n) hct (by
        unfold dr3
        rw [as4 hm (aG0 hg)]
        simp only [cd6 hm ho, ha, hr, bg8, hdn, eW8]
        rw [show bp1 lm [] tm hp = true by simpa [bp1] using hm0]
        simp only [fj8]) hmr (by
        refine List.map_congr_left fun p hp1 => ?_
        unfold bE4
        rw [hh _ _ (cf1 p hp1)]
        simp only [de8]) (fun _ => by rw [cV6]; exact dl2) (fun _ => by rw [cV6]; exact hr) (fun _ _ => B5.nil (E4.leaf ⟨rfl, rfl⟩))
    exact this
theorem Sim.pin {w0:World}{L:Lim}{nt:Nat}{tm:List (Nat×T)}{hp:List (Nat×G3)}{a:Act}{w:World}(id:Nat){e sz n:Nat}{rs:List (List Tree)}(hb:look hp id=some (.rows e sz n rs))(h:Sim w0 L nt ⟨tm,hp⟩ a w):
  ∃v:Value,Sim w0 L nt ⟨cp7 id (.t (.v v)) tm,(id,.rv v e sz n rs)::bn8 id (.t (.v v)) hp⟩ a w:=by
 obtain⟨S,E,hk⟩:=h
 have hu:RV w S E (E id) (.t (.v (E id))):=.t (.v _)
 have back:∀{i:Nat}{b:G3},look ((id,G3.rv (E id) e sz n rs)::bn8 id (.t (.v (E id))) hp) i=some b->∃b0,look hp i=some b0:=fun{i b} hl=>by
  by_cases hi:id=i
  ·subst hi;exact⟨_,hb⟩
  ·rw[I2 hi]at hl
   obtain⟨_,b0,h0,_⟩:=ar2 _ _ _ _ _ hl
   exact⟨b0,h0⟩
 refine⟨E id,S,E,{hk with tm:=fun k t ht=>?_,hp:=fun i b hl=>?_,own:=fun i b β hl hβ=>?_,at6:=fun i i' b b' β h1 h2=>?_}⟩
 ·simp only at ht
  rw[cg9]at ht
  cases hl:look tm k with
  |none=>simp[hl]at ht
  |some t0=>simp only[hl,ca8,aI5]at ht;subst ht;exact cU6 (fun _ x=>x) hu (hk.tm k t0 hl)
 ·by_cases hi:id=i
  ·subst hi
   simp only[look,ca7,fj8,aI5]at hl
   subst hl
   exact⟨rfl,hk.hp id _ hb⟩
  ·simp only at hl
   rw[I2 hi]at hl
   obtain⟨hne,b0,hb0,hm⟩:=ar2 _ _ _ _ _ hl
   have hk0:=hk.hp i b0 hb0
   cases b0 with
   |box ts=>
    simp only at hm
    subst hm
    obtain⟨β,vs,elem,h1,h2,h3,h4,h5⟩:=hk0
    have:=bF1 (S':=S) (fun _ x=>x) hu (l:=ts) (vs:=vs) ⟨h3,h4⟩
    exact⟨β,vs,elem,h1,h2,this.1,this.2,h5⟩
   |rows e' sz' n' rs'=>simp only at hm;subst hm;exact hk0
   |mp es=>simp only at hm;subst hm;exact hk0
   |rv y e' sz' n' rs'=>simp only at hm;subst hm;exact hk0
 ·obtain⟨b0,h0⟩:=back hl
  exact hk.own i b0 β h0 hβ
 ·obtain⟨b0,h0⟩:=back h1
  obtain⟨b0',h0'⟩:=back h2
  exact hk.at6 i i' b0 b0' β h0 h0'
mutual
def dm9 (b:Nat):T->Bool
 | .t _=>true
 | .el _=>true
 | .fz _ _=>true
 | .any=>true
 | .own i=>bM1 i b
 | .agg l=>dx8 b l
 | .P9 l=>dx8 b l
 | .clo _ l=>dx8 b l
 | .ptr _ _=>false
 | .pe _ _ _ _=>false
 | .vw _ _ _ _=>false
def dx8 (b:Nat):List T->Bool
 |[]=>true
 |x::l=>dm9 b x&&dx8 b l
end
mutual
theorem eW3 {w:World}{S:Nat->Prop}{E Ec:Nat->Value}{b:Nat}{sv:Value}(hE:Ec b=sv):∀{t:T}{x:Value},dm9 b t=true->RV w S E x (aS9 b (.t (.v sv)) t)->RV w S Ec x t
 | .t y,x,_,h=>by simp only[aS9]at h;exact h.mono (fun _ x=>x) (fun _ _=>rfl) (fun id hid=>by simp[names]at hid)
 | .el c,x,_,h=>by simp only[aS9]at h;exact h.mono (fun _ x=>x) (fun _ _=>rfl) (fun id hid=>by simp[names]at hid)
 | .fz n c,x,_,h=>by simp only[aS9]at h;exact h.mono (fun _ x=>x) (fun _ _=>rfl) (fun id hid=>by simp[names]at hid)
 | .any,x,_,_=>.any x
 | .own i,x,ho,h=>by
  simp only[dm9]at ho
  have ho:=bp9 ho
  subst ho
  simp only[aS9,ca7,fj8]at h
  have:=h.tv
  subst this
  exact .own i _ hE
 | .agg l,x,ho,h=>by
  simp only[dm9]at ho
  simp only[aS9]at h
  cases h with|agg vs _ hl hr=>have:=cV2 hE (l:=l) (vs:=vs) ho ⟨hl,hr⟩;exact .agg vs _ this.1 this.2
 | .P9 l,x,ho,h=>by
  simp only[dm9]at ho
  simp only[aS9]at h
  cases h with|P9 vs _ hl hr=>have:=cV2 hE (l:=l) (vs:=vs) ho ⟨hl,hr⟩;exact .P9 vs _ this.1 this.2
 | .clo f l,x,ho,h=>by
  simp only[dm9]at ho
  simp only[aS9]at h
  cases h with|clo _ vs _ hl hr=>have:=cV2 hE (l:=l) (vs:=vs) ho ⟨hl,hr⟩;exact .clo f vs _ this.1 this.2
 | .ptr _ _,x,ho,_=>by simp[dm9]at ho
 | .pe _ _ _ _,x,ho,_=>by simp[dm9]at ho
 | .vw _ _ _ _,x,ho,_=>by simp[dm9]at ho
theorem cV2 {w:World}{S:Nat->Prop}{E Ec:Nat->Value}{b:Nat}{sv:Value}(hE:Ec b=sv):∀{l:List T}{vs:List Value},dx8 b l=true->RVL w S E vs (aZ2 b (.t (.v sv)) l)->RVL w S Ec vs l
 |[],vs,_,h=>⟨by simpa[aZ2]using h.1,fun j _ h2=>by simp at h2⟩
 |x::l,vs,ho,h=>by
  simp only[dx8,aJ5]at ho
  cases vs with
  |nil=>have:=h.1;simp[aZ2]at this
  |cons v vs=>
   have h1:=eW3 hE (t:=x) ho.1 (h.2 0 (by simp) (by simp[aZ2]))
   have h2:=cV2 hE (l:=l) (vs:=vs) ho.2 ⟨by simpa[aZ2]using h.1,fun j a b=>h.2 (j+1) (by simpa using a) (by simpa[aZ2]using b)⟩
   refine⟨by simp[h2.1],fun j a b=>?_⟩
   cases j with
   |zero=>exact h1
   |succ j=>exact h2.2 j (by simpa using a) (by simpa using b)
end
theorem ai2.eZ5 {n d c b0 r0 e e2 sz sz2 m m2:Nat}{aC6 targs:List T}{rt:T}{rs rs2:List (List Tree)}{sv:Value}{m₁:Option τ}{res:τ->T}{bI1:τ->List (Nat×G3)}{t:τ}(ht:m₁=some t)(hc:bh4 X.P n aC6 [(b0,.rows e sz m rs)] m₁ res bI1)
  (hg:gk all.toList kb U0 o.guard=some true) (ho:bD3 U0 o=some (n,targs)) (bg8:o.dst=some d) (hb:look an6 c=some (.rv sv e sz m rs)) (aM0:bd5 c big=true)
  (dd5:bB2 targs (aZ2 b0 (.t (.v sv)) aC6)=aZ2 b0 (.t (.v sv)) aC6) (hon:dx8 b0 aC6=true) (dl2:aM7 [(r0,c)] (res t)=some rt) (hhp:bI1 t=[(r0,.rows e2 sz2 m2 rs2)]):ai2 X all o U0 an6 rt (some (c,.rows e2 sz2 m2 rs2)):=by
 intro tm hp hm hh hf hd' a w ⟨S,E,hk⟩ K Q' hK
 have hop:∃q,o.op= .call q:=by
  unfold bD3 at ho
  split at ho<;>try(cases ho;done)
  rename_i hx
  exact⟨_,hx⟩
 obtain⟨hft,hfb⟩:=hf.2 c (by obtain⟨q,hq⟩:=hop;unfold cJ0;rw[hq])
 have hcb:c<big:=bd4 aM0
 have hb':=hh _ _ hb
 obtain⟨hE0,bz2⟩:=hk.hp c _ hb'
 obtain⟨vs,bf6,hv⟩:=dr2 hk (cd6 hm ho) hc.1
 let Ec:Nat->Value:=fun i=>if i=b0 then sv else E i
 have hEc:Ec b0=sv:=by simp[Ec]
 have dw0:∀{i:Nat}{b:G3},look [(b0,G3.rows e sz m rs)] i=some b->i=b0/\b= .rows e sz m rs:=fun{i b} h=>by
  by_cases hi:b0=i
  ·subst hi;simp only[look,ca7,fj8,aI5]at h;exact⟨rfl,h.symm⟩
  ·simp[look,C5 hi]at h
 have hO:ci2 w S Ec [(b0,.rows e sz m rs)]:=by
  refine⟨fun i b hi=>?_,fun i b β hi hβ=>?_,fun i i' b b' β hi hi' _ _=>?_⟩
  ·obtain⟨rfl,rfl⟩:=dw0 hi
   rw[hEc,<-hE0];exact bz2
  ·obtain⟨rfl,rfl⟩:=dw0 hi
   rw[hEc,<-hE0]at hβ
   have:=hk.own c _ β hb' hβ
   exact⟨this.1,this.2.1⟩
  ·exact(dw0 hi).1.trans (dw0 hi').1.symm
 have hav:RVL w S Ec vs aC6:=by
  have h1:=bX0 (u:=aZ2 b0 (.t (.v sv)) aC6) hv
  rw[dd5]at h1
  exact cV2 hEc hon h1
 have aL2:=hc.2 t ht w S Ec vs hk.aG9 hO hav
 rw[S8 hk (as4 hm (aG0 hg)),if_pos rfl]
 unfold Oper.wp
 rw[bf6,Oper.upon_enter]
 refine aL2.mono fun ex w' ⟨v,S',E',he,hv',aL3,h1,h2,hO',h3,h4⟩=>?_
 subst he
 have bJ5:∀{β},aD6 [(b0,G3.rows e sz m rs)] Ec β->R7 sv=some β:=fun{β} ⟨i,b,hi,hβ⟩=>by
  obtain⟨rfl,rfl⟩:=dw0 hi
  rw[hEc]at hβ;exact hβ
 generalize hEr:E' r0=q
 have bN5:look (bI1 t) r0=some (.rows e2 sz2 m2 rs2):=by rw[hhp];simp[look]
 have svb:∀{β},R7 sv=some β->¬S β/\β<w.heap.size/\(X.w0.heap.size<=β\/X.L.bJ5 β):=fun{β} hβ=>hk.own c _ β hb' (by rw[hE0];exact hβ)
 have other:∀{i:Nat}{b:G3}{β:Nat},look hp i=some b->i≠c->R7 (E i)=some β->R7 sv≠some β:=fun{i b β} hi hne hβ hs=>hne (hk.at6 i c b _ β hi hb' hβ (by rw[hE0];exact hs))
 have vb:∀{β},R7 q=some β->(R7 sv=some β\/w.heap.size<=β)/\¬S' β/\β<w'.heap.size:=fun{β} hβ=>by
  have hl:aD6 (bI1 t) E' β:=⟨r0,_,bN5,by rw[hEr];exact hβ⟩
  have:=hO'.own r0 _ β bN5 (by rw[hEr];exact hβ)
  exact⟨(h3 β hl).imp bJ5 (fun x=>x),this.1,this.2⟩
 have hS:∀b,S b->w'.heap[b]? =w.heap[b]?:=fun b hb=>aL3.block b (hk.aG9 b hb) (fun hl=>(svb (bJ5 hl)).1 hb)
 let E2:Nat->Value:=fun i=>if i=c then q else E i
 have hE2:∀i,i≠c->E2 i=E i:=fun i hi=>by simp[E2,hi]
 have hE2c:E2 c=q:=by simp[E2]
 have cne:∀{t:T},names c t=false->∀i,names i t=true->E2 i=E i:=fun{t} hn i hi=>hE2 i (fun e=>by subst e;rw[hn]at hi;cases hi)
 have hok:Ok X.w0 X.L X.nt ⟨tm,(c,.rows e2 sz2 m2 rs2)::bx1 hp c⟩ (fun b=>S b\/S' b) E2 a w':=
  {keep:=hk.keep.trans aL3 (fun β hl=>by
    rcases(svb (bJ5 hl)).2.2 with h|h
    ·exact .inr h
    ·exact .inl h)
   aG9:=fun b hb=>hb.elim (fun h=>dD3 (hk.aG9 b h) aL3.size) (h1 b)
   base:=fun b hb=>by
    rcases hb with hb|hb
    ·exact hk.base b hb
    ·rcases h2 b hb with hb|hb|hb
     ·exact hk.base b hb
     ·rcases(svb (bJ5 hb)).2.2 with h|h
      ·exact .inr (.inr h)
      ·exact .inr (.inl h)
     ·exact .inr (.inr (eJ3 hk.keep.size hb))
   size:=hk.size
   defers:=hk.defers
   tm:=fun k u hu=>(hk.tm k u hu).mono (fun _ x=>.inl x) hS (cne (bc6 hft k u hu))
   hp:=fun i b hi=>by
    by_cases hic:c=i
    ·subst hic
     simp only[look,ca7,fj8,aI5]at hi
     subst hi
     rw[hE2c,<-hEr]
     exact(hO'.blk r0 _ bN5).mono (fun _ x=>.inr x) (fun _ _=>rfl) (fun _ _=>rfl) (fun _ hid=>by simp[bj0]at hid)
    ·simp only at hi
     rw[I2 hic]at hi
     obtain⟨g1,g2⟩:=X3 hi
     rw[hE2 i g1]
     exact(hk.hp i b g2).mono (fun _ x=>.inl x) hS (fun β hβ=>aL3.block β (hk.own i b β g2 hβ).2.1 (fun hl=>other g2 g1 hβ (bJ5 hl))) (fun j hj=>hE2 j (fun e=>by
      subst e
      have:=(aA4 (cn4 hfb) i b hi).2
      rw[this]at hj;cases hj))
   own:=fun i b β hi hβ=>by
    by_cases hic:c=i
    ·subst hic
     rw[hE2c]at hβ
     obtain⟨g1,g2,g3⟩:=vb hβ
     refine⟨fun hx=>hx.elim (fun hx=>?_) g2,g3,?_⟩
     ·rcases g1 with g1|g1
      ·exact(svb g1).1 hx
      ·exact absurd (hk.aG9 β hx) (ff7.2 g1)
     ·rcases g1 with g1|g1
      ·exact(svb g1).2.2
      ·exact .inl (eJ3 hk.keep.size g1)
    ·simp only at hi
     rw[I2 hic]at hi
     obtain⟨g1,g2⟩:=X3 hi
     rw[hE2 i g1]at hβ
     have:=hk.own i b β g2 hβ
     refine⟨fun hx=>hx.elim this.1 (fun hx=>?_),dD3 this.2.1 aL3.size,this.2.2⟩
     rcases h2 β hx with hx|hx|hx
     ·exact this.1 hx
     ·exact other g2 g1 hβ (bJ5 hx)
     ·exact absurd this.2.1 (ff7.2 hx)
   at6:=fun i i' b b' β hi hi' hβ hβ'=>by
    have cz2:∀{i:Nat}{b:G3},look (bx1 hp c) i=some b->R7 (E2 i)=some β->R7 q=some β->False:=fun{i b} hi hβ hβ'=>by
     obtain⟨g1,g2⟩:=X3 hi
     rw[hE2 i g1]at hβ
     rcases(vb hβ').1 with g|g
     ·exact other g2 g1 hβ g
     ·exact absurd (hk.own i b β g2 hβ).2.1 (ff7.2 g)
    by_cases hic:c=i<;>by_cases hic':c=i'
    ·exact hic.symm.trans hic'
    ·subst hic
     simp only at hi'
     rw[I2 hic']at hi'
     rw[hE2c]at hβ
     exact(cz2 hi' hβ' hβ).elim
    ·subst hic'
     simp only at hi
     rw[I2 hic]at hi
     rw[hE2c]at hβ'
     exact(cz2 hi hβ hβ').elim
    ·simp only at hi hi'
     rw[I2 hic]at hi
     rw[I2 hic']at hi'
     obtain⟨g1,g2⟩:=X3 hi
     obtain⟨g1',g2'⟩:=X3 hi'
     rw[hE2 i g1]at hβ
     rw[hE2 i' g1']at hβ'
     exact hk.at6 i i' b b' β g2 g2' hβ hβ'
   pin:=fun i hi=>by rw[hE2 i (fun e=>by omega)];exact hk.pin i hi}
 have hrv:RV w' (fun b=>S b\/S' b) E2 v rt:=(co6 (h:=[(r0,c)]) (E:=E') (E':=E2) (fun i j hij=>by
  by_cases hi:r0=i
  ·subst hi
   simp only[look,ca7,fj8,aI5]at hij
   subst hij
   rw[hE2c,<-hEr]
  ·simp[look,C5 hi]at hij) hv' dl2).mono (fun _ x=>.inr x) (fun _ _=>rfl) (fun _ _=>rfl)
 refine hK _ _ (Sim.bM5 (fun _ _ h=>h) (fun k x hkc=>?_) (Ok.pt (o:=o) hok hrv hd'))
 by_cases hki:c=k
 ·subst hki
  simpa[bf9,look]using hkc
 ·simp only[bf9]at hkc
  rw[I2 hki]at hkc|-
  rw[aV3 (Ne.symm hki)];exact hkc
theorem ai2.eZ4 {n d c r1 e2 sz2 m2 : Nat} {aC6 targs am5 : List T} {rt : T} {rs2 : List (List Tree)} {m₁ : Option τ} {res : τ -> T} {bI1 : τ -> List (Nat × G3)} {t : τ} (ht : m₁ = some t) (hc : bh4 X.P n aC6 [] m₁ res bI1)
    (hg : gk all.toList kb U0 o.guard = some true) (ho : bD3 U0 o = some (n, targs)) (bg8 : o.dst = some d) (hdn : bd5 d X.nt = true) (aM0 : bd5 c big = true)
    (ha : bT8 [] aC6 = some am5) (hmr : bB2 targs am5 = am5) (dl2 : aM7 [(r1, c)] (res t) = some rt) (hhp : bI1 t = [(r1, .rows e2 sz2 m2 rs2)]) : ai2 X all o U0 an6 rt (some (c, .rows e2 sz2 m2 rs2)) := by
  intro tm hp hm hh hf _ a w hk K Q' hK
  have hop : ∃ q, o.op = .call q := by
    unfold bD3 at ho
    split at ho <;> try (cases ho; done)
    rename_i hx
    exact ⟨_, hx⟩
  obtain ⟨hft, hfb⟩ := hf.2 c (by obtain ⟨q, hq⟩ := hop; unfold cJ0; rw [hq])
  have hct : bh4 X.P n aC6 [] (some ()) (fun _ => res t) (fun _ => [(r1, .rows e2 sz2 m2 rs2)]) := ⟨hc.1, fun r _ => by
    have := hc.2 t ht
    rw [hhp] at this
    exact this⟩
  have key := B5.g (X := X) (all := all) (o := o) (rest := []) (ks := []) (k := fun _ => some ()) (Q := fun (_ : Unit) e' σ => e' = .normal /\ σ = ⟨(d, rt) :: tm, [(c, .rows e2 sz2 m2 rs2)] ++ aq0 [] (bx1 hp c)⟩) (hp := bx1 hp c) (tm := tm) (hp2 := aq0 [] (bx1 hp c)) (d := d) [] [(r1, c)] (dK4 := fun _ => rt) (rhp := fun _ => [(c, .rows e2 sz2 m2 rs2)]) (aO2 := []) (targs := targs) (am5 := am5) (n := n) hct (by
        unfold dr3
        rw [as4 hm (aG0 hg)]
        simp only [cd6 hm ho, ha, aS4, bg8, hdn, eW8]
        rw [show bp1 [] [(r1, c)] tm (bx1 hp c) = true by simp [bp1, bb8, aM0, hft, cn4 hfb]]
        simp only [fj8]) hmr rfl (fun _ => dl2) (fun _ => by simp [aS4, bT7, look]) (fun _ _ => B5.nil (E4.leaf ⟨rfl, rfl⟩))
  have h4 := key () rfl a w (hk.bM5 (fun _ _ h => h) (fun k b hkb => (X3 hkb).2))
  have Z4 : ∀ (e : Exit) a w, e ≠ .normal -> ¬ (X.post fun e σ => e = .normal /\ σ = ⟨(d, rt) :: tm, [(c, .rows e2 sz2 m2 rs2)] ++ aq0 [] (bx1 hp c)⟩) e a w := fun e a w he ⟨σ, _, hx, _⟩ => he hx
  have hfin : ∀ a w, wpList X.P all (after X.P [] (X.post fun e σ => e = .normal /\ σ = ⟨(d, rt) :: tm, [(c, .rows e2 sz2 m2 rs2)] ++ aq0 [] (bx1 hp c)⟩)) [] a w -> K a w := fun a w hq => by
    obtain ⟨σ, hs, _, rfl⟩ := hq
    refine hK a w (hs.bM5 (fun k u hk => by simpa [pt, bg8] using hk) (fun k b hkb => ?_))
    by_cases hkc : c = k
    · subst hkc
      simpa [bf9, look] using hkb
    · simp only [bf9] at hkb
      rw [I2 hkc] at hkb
      simp only [List.cons_append, List.nil_append]
      rw [I2 hkc, bI5 (by simp), aV3 (Ne.symm hkc)]
      exact hkb
  unfold wpList at h4
  split at h4
  · rename_i hw
    rw [if_pos hw]
    rcases h4 with h4 | ⟨_, h4⟩
    · exact Oper.dT9 hfin (fun c a w => Z4 _ a w (by intro e; cases e)) (fun ⟨a, w, hx⟩ => Z4 _ a w (by intro e; cases e) hx) h4
    · obtain ⟨a, w, hx⟩ := h4
      exact absurd hx (Z4 _ a w (by intro e; cases e))
  · rename_i hw
    rw [if_neg hw]
    exact hfin _ _ h4
end
end Go.Pv
namespace Go.Pv
open Go.RowKit
def uni:List Nat->List Nat->List Nat
 |[],m=>m
 |x::l,m=>bif aD5 x m then uni l m else x::uni l m
def ei2 (acc:List (List Nat)):List Nat->List Nat
 |[]=>[]
 |d::r=>uni (d::(match acc[d]?with|some l=>l|none=>[])) (ei2 acc r)
def bl9:List Oper->List (List Nat)->List (List Nat)
 |[],acc=>acc
 |o::r,acc=>bl9 r (acc++[ei2 acc (aY3 o)])
theorem bf7 {k:Nat}:∀{l:List Nat},aD5 k l=true↔k∈l
 |[]=>by simp[aD5]
 |x::l=>by
  simp only[aD5,ch6]
  cases hb:bM1 x k
  ·simp only[fj6,bf7]
   exact⟨.inr,fun h=>h.resolve_left fun e=>by subst e;simp at hb⟩
  ·have:=bp9 hb
   simp[this]
theorem dl8 {k:Nat}:∀{l m:List Nat},k∈uni l m->k∈l\/k∈m
 |[],m,h=>.inr h
 |x::l,m,h=>by
  unfold uni at h
  cases hb:aD5 x m<;>rw[hb]at h<;>simp only[fj8,fj6]at h
  ·rcases ch6.1 h with rfl|h
   ·exact .inl (bx8 ..)
   ·exact(dl8 h).imp (bF8 _) id
  ·exact(dl8 h).imp (bF8 _) id
theorem dw4 {acc:List (List Nat)}{k:Nat}:∀{ds:List Nat},k∈ei2 acc ds->∃d∈ds,k=d\/∃l,acc[d]? =some l/\k∈l
 |[],h=>by simp[ei2]at h
 |d::r,h=>by
  rcases dl8 h with h|h
  ·rcases ch6.1 h with rfl|h
   ·exact⟨k,bx8 ..,.inl rfl⟩
   ·split at h
    ·rename_i l hl;exact⟨d,bx8 ..,.inr ⟨l,hl,h⟩⟩
    ·cases h
  ·obtain⟨d',h1,h2⟩:=dw4 h
   exact⟨d',bF8 _ h1,h2⟩
theorem cG4 {all:List Oper}{D:Nat->Prop}(hcl:∀(j:Nat) (o:Oper),all[j]? =some o->D j->∀k∈aY3 o,D k):∀(ops:List Oper) (acc:List (List Nat)),all.drop acc.length=ops->(∀(j:Nat) (l:List Nat) (o:Oper),acc[j]? =some l->all[j]? =some o->(∀k∈aY3 o,D k)->∀i∈l,D i)->
  ∀(j:Nat) (l:List Nat) (o:Oper),(bl9 ops acc)[j]? =some l->all[j]? =some o->(∀k∈aY3 o,D k)->∀i∈l,D i
 |[],acc,_,h=>h
 |o::r,acc,hd,h=>by
  refine cG4 hcl r (acc++[ei2 acc (aY3 o)]) (by rw[aY1,<-ey6,hd];rfl) fun j l o' hj ho' hk i hi=>?_
  rw[List.getElem?_append]at hj
  split at hj
  ·exact h j l o' hj ho' hk i hi
  ·rename_i hlt
   have hj0:j-acc.length=0:=by
    rcases dO8 (j-acc.length)with h0|h0
    ·exact h0
    ·rw[ea1 (Nat.succ_le_of_lt h0)]at hj;cases hj
   rw[hj0]at hj
   simp only[cV8,aI5]at hj
   subst hj
   have hjl:j=acc.length:=by omega
   have ho:all[j]? =some o:=by rw[hjl,<-eC1,hd];rfl
   rw[ho]at ho'
   cases ho'
   obtain⟨d,hd',hx⟩:=dw4 hi
   rcases hx with rfl|⟨l',hl',hi'⟩
   ·exact hk i hd'
   ·have hdlt:d<all.length:=by
     have h1:=(bt7.1 hl').1
     have h2:=(bt7.1 ho).1
     omega
    have hod:all[d]? =some all[d]:=aK2 hdlt
    exact h d l' all[d] hl' hod (hcl d _ hod (hk d hd')) i hi'
def bO7:Nat->List Nat->Bool
 |0,_=>true
 |n+1,l=>aD5 n l&&bO7 n l
theorem ci5:∀{n:Nat}{l:List Nat},bO7 n l=true->∀i,i<n->i∈l
 |0,_,_,i,hi=>by omega
 |n+1,l,h,i,hi=>by
  simp only[bO7,aJ5]at h
  rcases da9 i n with c|c
  ·exact ci5 h.2 i c
  ·have:i=n:=by omega
   subst this;exact bf7.1 h.1
def cU8 (h:Nat):Nat->List Oper->List (List Nat)->Bool
 |_,[],_=>true
 |j,o::r,b::bs=>(aY3 o).all (fun k=>bd5 k j)&&(bd5 j h||bO7 j b)&&cU8 h (j+1) r bs
 |_,_,[]=>false
theorem aV7 {h:Nat}:∀{ops:List Oper}{bs:List (List Nat)}{j:Nat},cU8 h j ops bs=true->∀(i:Nat) (o:Oper),ops[i]? =some o->∃b,bs[i]? =some b/\(∀k∈aY3 o,k<j+i)/\(h<=j+i->∀x,x<j+i->x∈b)
 |[],_,_,_,i,o,ho=>by simp at ho
 |p::r,[],j,ht,i,o,ho=>by simp[cU8]at ht
 |p::r,b::bs,j,ht,i,o,ho=>by
  simp only[cU8,aJ5,bN8,cG1]at ht
  cases i with
  |zero=>
   simp only[cV8,aI5]at ho
   subst ho
   refine⟨b,rfl,fun k hk=>bd4 (ht.1.1 k hk),fun hj x hx=>?_⟩
   rcases ht.1.2 with h1|h1
   ·have:=bd4 h1;omega
   ·exact ci5 h1 x hx
  |succ i=>
   obtain⟨b',h1,h2,h3⟩:=aV7 ht.2 i o (by simpa using ho)
   exact⟨b',by simpa using h1,fun k hk=>by have:=h2 k hk;omega,fun hj x hx=>h3 (by omega) x (by omega)⟩
def bf5 (nt:Nat)(tm0:List (Nat×T))(hp0:List (Nat×G3)):List Oper->Bool
 |[]=>true
 |o::r=>(match o.dst with|some d=>(look tm0 d).isNone&&bd5 d nt&&r.all (fun o'=>match o'.dst with|some d'=>!Nat.beq d d'|none=>true)|none=>true)&&
   (match aR7 o.op,o.dst with|true,some d=>M9 d tm0&&M0 d hp0|_,_=>true)&&bf5 nt tm0 hp0 r
theorem du7 {nt:Nat}{tm0:List (Nat×T)}{hp0:List (Nat×G3)}:∀{l:List Oper},bf5 nt tm0 hp0 l=true->cv5 nt tm0 l=true/\∀(i:Nat) (o:Oper) (d:Nat),l[i]? =some o->aR7 o.op=true->o.dst=some d->(M9 d tm0&&M0 d hp0)=true
 |[],_=>⟨rfl,fun i o d h=>by simp at h⟩
 |o::r,h=>by
  simp only[bf5,aJ5]at h
  obtain⟨h1,h2⟩:=du7 h.2
  refine⟨by simp only[cv5,aJ5];exact⟨h.1.1,h1⟩,fun i o' d hi hn hd=>?_⟩
  cases i with
  |zero=>
   simp only[cV8,aI5]at hi
   subst hi
   have:=h.1.2
   rw[hn,hd]at this
   exact this
  |succ i=>exact h2 i o' d (by simpa using hi) hn hd
def cs2 (d:Nat):Option (Nat×G3)->Bool
 |some (i,b)=>bM1 i d||bj0 d b
 |none=>false
def cB1 (d j:Nat):List (T×Option (Nat×G3))->List (List Nat)->Nat->Bool
 |[],_,_=>true
 |(V,N)::r,b::bs,i=>(bM1 i j||(!names d V&& !cs2 d N)||aD5 j b)&&cB1 d j r bs (i+1)
 |_::_,[],_=>false
def cn3 (vs:List (T×Option (Nat×G3)))(bs:List (List Nat)):Nat->List Oper->Bool
 |_,[]=>true
 |j,o::r=>(match aR7 o.op,o.dst with|true,some d=>cB1 d j vs bs 0|_,_=>true)&&cn3 vs bs (j+1) r
theorem bX3 {d j:Nat}:∀{vs:List (T×Option (Nat×G3))}{bs:List (List Nat)}{i0:Nat},cB1 d j vs bs i0=true->∀(i:Nat) (V:T) (N:Option (Nat×G3)),vs[i]? =some (V,N)->i0+i≠j->(names d V=false/\cs2 d N=false)\/∃b,bs[i]? =some b/\j∈b
 |[],_,_,_,i,V,N,hi,_=>by simp at hi
 |(V',N')::r,[],_,h,_,_,_,_,_=>by simp[cB1]at h
 |(V',N')::r,b::bs,i0,h,i,V,N,hi,hne=>by
  simp only[cB1,aJ5,cG1,bO4]at h
  cases i with
  |zero=>
   simp only[cV8,aI5,aX4]at hi
   obtain⟨rfl,rfl⟩:=hi
   rcases h.1 with(h1|h1)|h1
   ·exact absurd (bp9 h1) (by simpa using hne)
   ·exact .inl h1
   ·exact .inr ⟨b,rfl,bf7.1 h1⟩
  |succ i=>
   have:=bX3 h.2 i V N (by simpa using hi) (by omega)
   simpa using this
theorem bT0 {vs:List (T×Option (Nat×G3))}{bs:List (List Nat)}:∀{ops:List Oper}{j0:Nat},cn3 vs bs j0 ops=true->∀(j:Nat) (o:Oper) (d:Nat),ops[j]? =some o->aR7 o.op=true->o.dst=some d->cB1 d (j0+j) vs bs 0=true
 |[],_,_,j,o,d,hj,_,_=>by simp at hj
 |p::r,j0,h,j,o,d,hj,hn,hd=>by
  simp only[cn3,aJ5]at h
  cases j with
  |zero=>
   simp only[cV8,aI5]at hj
   subst hj
   have:=h.1
   rw[hn,hd]at this
   exact this
  |succ j=>
   have:=bT0 h.2 j o d (by simpa using hj) hn hd
   rw[show j0+(j+1)=j0+1+j by omega];exact this
def eh0 (tm0:List (Nat×T))(hp0:List (Nat×G3))(vs:List (T×Option (Nat×G3)))(bs:List (List Nat)):Nat->List Oper->Bool
 |_,[]=>true
 |j,o::r=>(match cJ0 o (match vs[j]?with|some (_,N)=>N|none=>none)with|some id=>M9 id tm0&&(nfB id hp0&&cB1 id j vs bs 0)|none=>true)&&eh0 tm0 hp0 vs bs (j+1) r
theorem cJ1 {tm0:List (Nat×T)}{hp0:List (Nat×G3)}{vs:List (T×Option (Nat×G3))}{bs:List (List Nat)}:∀{ops:List Oper}{j0:Nat},eh0 tm0 hp0 vs bs j0 ops=true->∀(j:Nat) (o:Oper) (V:T) (N:Option (Nat×G3)) (id:Nat),ops[j]? =some o->vs[j0+j]? =some (V,N)->cJ0 o N=some id->M9 id tm0=true/\nfB id hp0=true/\cB1 id (j0+j) vs bs 0=true
 |[],_,_,j,o,V,N,id,hj,_,_=>by simp at hj
 |p::r,j0,h,j,o,V,N,id,hj,hv,hi=>by
  simp only[eh0,aJ5]at h
  cases j with
  |zero=>
   simp only[cV8,aI5]at hj
   subst hj
   rw[dM1]at hv|-
   have:=h.1
   rw[hv]at this
   simp only[hi,aJ5]at this
   exact this
  |succ j=>
   have:=cJ1 h.2 j o V N id (by simpa using hj) (by rw[show j0+1+j=j0+(j+1) by omega];exact hv) hi
   rw[show j0+(j+1)=j0+1+j by omega];exact this
def bB9 (D:Nat->Bool):Nat->List (T×Option (Nat×G3))->List (Nat×G3)->List (Nat×G3)
 |_,[],hp=>hp
 |i,(_,N)::r,hp=>bB9 D (i+1) r (bif D i then bf9 N hp else hp)
def vis (bs:List (List Nat))(ws:List (Nat×Nat))(i:Nat)(b:List Nat)(id:Nat):Bool:=
 ws.all fun p=>!Nat.beq p.2 id||(bM1 p.1 i||(aD5 p.1 b||(match bs[p.1]?with|some bj=>aD5 i bj|none=>false)))
def dX6 (bs:List (List Nat))(ws:List (Nat×Nat))(i:Nat)(b:List Nat):List (Nat×G3)->List (Nat×G3)
 |[]=>[]
 |(k,c)::r=>bif vis bs ws i b k then(k,c)::dX6 bs ws i b r else dX6 bs ws i b r
def dZ5 (bs:List (List Nat))(ws:List (Nat×Nat))(vs:List (T×Option (Nat×G3)))(hp0:List (Nat×G3))(i:Nat)(b:List Nat):List (Nat×G3):=
 dX6 bs ws i b (bB9 (fun j=>aD5 j b) 0 vs hp0)
def en1 (vs:List (T×Option (Nat×G3)))(hp0:List (Nat×G3)):List (Nat×G3):=bB9 (fun _=>true) 0 vs hp0
def inW (i id:Nat):List (Nat×Nat)->Bool
 |[]=>false
 |p::r=>(bM1 p.1 i&&bM1 p.2 id)||inW i id r
def cC2 (ws:List (Nat×Nat)):Nat->List (T×Option (Nat×G3))->Bool
 |_,[]=>true
 |i,(_,some (id,_))::r=>inW i id ws&&cC2 ws (i+1) r
 |i,(_,none)::r=>cC2 ws (i+1) r
def cR4 (bs:List (List Nat)):List (Nat×Nat)->Bool
 |[]=>true
 |p::r=>r.all (fun q=>!Nat.beq p.2 q.2||(bM1 p.1 q.1||((bd5 p.1 q.1&&(match bs[q.1]?with|some b=>aD5 p.1 b|none=>false))||(bd5 q.1 p.1&&(match bs[p.1]?with|some b=>aD5 q.1 b|none=>false)))))&&cR4 bs r
theorem cm7 {bs:List (List Nat)}{ws:List (Nat×Nat)}{i:Nat}{b:List Nat}:∀{hp:List (Nat×G3)}{k:Nat}{c:G3},look (dX6 bs ws i b hp) k=some c->vis bs ws i b k=true/\look hp k=some c
 |[],k,c,h=>by simp[dX6,look]at h
 |(j,x)::r,k,c,h=>by
  unfold dX6 at h
  by_cases hj:j=k
  ·subst hj
   cases hv:vis bs ws i b j<;>rw[hv]at h<;>simp only[fj8,fj6]at h
   ·have:=cm7 h
    rw[hv]at this;cases this.1
   ·exact⟨rfl,by simpa[look]using h⟩
  ·rw[I2 hj]
   cases hv:vis bs ws i b j<;>rw[hv]at h<;>simp only[fj8,fj6]at h
   ·exact cm7 h
   ·rw[I2 hj]at h;exact cm7 h
theorem br9 {N:Option (Nat×G3)}{hp:List (Nat×G3)}{k:Nat}(h:∀b,N≠some (k,b)):look (bf9 N hp) k=look hp k:=by
 cases N with
 |none=>rfl
 |some p=>
  obtain⟨i,b⟩:=p
  have:i≠k:=fun e=>h b (by rw[e])
  exact I2 this
theorem bG4 {D D':Nat->Bool}{id:Nat}:∀{vs:List (T×Option (Nat×G3))}{k:Nat}{hp Z4:List (Nat×G3)},look hp id=look Z4 id->(∀j V b,vs[j]? =some (V,some (id,b))->D (k+j)=D' (k+j))->look (bB9 D k vs hp) id=look (bB9 D' k vs Z4) id
 |[],_,_,_,h,_=>h
 |(V,N)::r,k,hp,Z4,h,hd=>by
  unfold bB9
  refine bG4 ?_ (fun j V' b hj=>by have:=hd (j+1) V' b (by simpa using hj);rwa[dD0,eI8 1 j])
  by_cases hN:∃b,N=some (id,b)
  ·obtain⟨b,rfl⟩:=hN
   have:=hd 0 V b rfl
   rw[dM1]at this
   rw[<-this]
   cases D k
   ·exact h
   ·simp[bf9,look]
  ·have hn:∀b,N≠some (id,b):=fun b e=>hN ⟨b,e⟩
   cases D k<;>cases D' k<;>simp only[fj8,fj6]
   ·exact h
   ·rw[br9 hn];exact h
   ·rw[br9 hn];exact h
   ·rw[br9 hn,br9 hn];exact h
theorem cr8 {D:Nat->Bool}{id:Nat}:∀{vs:List (T×Option (Nat×G3))}{k:Nat}{hp:List (Nat×G3)},(∀j V b,vs[j]? =some (V,some (id,b))->D (k+j)=false)->look (bB9 D k vs hp) id=look hp id
 |[],_,_,_=>rfl
 |(V,N)::r,k,hp,hd=>by
  unfold bB9
  rw[cr8 (fun j V' b hj=>by have:=hd (j+1) V' b (by simpa using hj);rwa[dD0,eI8 1 j])]
  cases hk:D k
  ·rfl
  ·exact br9 fun b e=>by have:=hd 0 V b (by rw[e];rfl);rw[dM1,hk]at this;cases this
theorem cZ6 {D:Nat->Bool}{id:Nat}{V:T}{b:G3}:∀{vs:List (T×Option (Nat×G3))}{i k:Nat}{hp:List (Nat×G3)},vs[i]? =some (V,some (id,b))->D (k+i)=true->(∀j V b,i<j->vs[j]? =some (V,some (id,b))->D (k+j)=false)->look (bB9 D k vs hp) id=some b
 |[],i,_,_,h,_,_=>by simp at h
 |(V',N)::r,0,k,hp,h,hD,hl=>by
  simp only[cV8,aI5,aX4]at h
  obtain⟨rfl,rfl⟩:=h
  rw[dM1]at hD
  unfold bB9
  rw[hD]
  rw[cr8 (fun j V2 b2 hj=>by have:=hl (j+1) V2 b2 (by omega) (by simpa using hj);rwa[dD0,eI8 1 j])]
  simp[bf9,look]
 |(V',N)::r,i+1,k,hp,h,hD,hl=>by
  unfold bB9
  exact cZ6 (by simpa using h) (by rwa[dD0,eI8 1 i]) (fun j V2 b2 hij hj=>by have:=hl (j+1) V2 b2 (by omega) (by simpa using hj);rwa[dD0,eI8 1 j])
theorem dU2 {D:Nat->Bool}{i:Nat}:∀{vs:List (T×Option (Nat×G3))}{k:Nat}{hp:List (Nat×G3)},(∀j,i<=j->D (k+j)=false)->bB9 D k (vs.take i) hp=bB9 D k vs hp:=by
 induction i with
 |zero=>
  intro vs
  induction vs with
  |nil=>intro k hp h;rfl
  |cons x r ih=>
   intro k hp h
   obtain⟨V,N⟩:=x
   have h0:=h 0 (cq9 _)
   rw[dM1]at h0
   have:=ih (k:=k+1) (hp:=hp) (fun j _=>by have:=h (j+1) (by omega);rwa[dD0,eI8 1 j])
   simp only[List.take_zero]at this|-
   rw[bB9,bB9,h0]
   simpa[bB9]using this
 |succ i ih=>
  intro vs k hp h
  cases vs with
  |nil=>rfl
  |cons x r=>
   obtain⟨V,N⟩:=x
   simp only[List.take_succ_cons,bB9]
   exact ih (fun j hj=>by have:=h (j+1) (by omega);rwa[dD0,eI8 1 j])
theorem dQ2 {i id:Nat}:∀{ws:List (Nat×Nat)},inW i id ws=true->(i,id)∈ws
 |[],h=>by cases h
 |p::r,h=>by
  simp only[inW,cG1,aJ5]at h
  rcases h with⟨h1,h2⟩|h
  ·have:=bp9 h1
   have:=bp9 h2
   obtain⟨a,b⟩:=p
   simp_all
  ·exact bF8 _ (dQ2 h)
theorem bY0 {ws:List (Nat×Nat)}:∀{vs:List (T×Option (Nat×G3))}{k:Nat},cC2 ws k vs=true->∀i V id b,vs[i]? =some (V,some (id,b))->(k+i,id)∈ws
 |[],_,_,i,V,id,b,h=>by simp at h
 |(V',N)::r,k,hu,i,V,id,b,h=>by
  have hr:cC2 ws (k+1) r=true/\∀p,N=some p->inW k p.1 ws=true:=by
   cases N with
   |none=>exact⟨by simpa[cC2]using hu,fun p hp=>by cases hp⟩
   |some p=>
    obtain⟨a,c⟩:=p
    simp only[cC2,aJ5]at hu
    exact⟨hu.2,fun p hp=>by cases hp;exact hu.1⟩
  cases i with
  |zero=>
   simp only[cV8,aI5,aX4]at h
   obtain⟨rfl,rfl⟩:=h
   exact dQ2 (hr.2 _ rfl)
  |succ i=>
   have:=bY0 hr.1 i V id b (by simpa using h)
   rwa[dD0,eI8 1 i]at this
theorem cR5 {bs:List (List Nat)}:∀{ws:List (Nat×Nat)},cR4 bs ws=true->∀i j id,(i,id)∈ws->(j,id)∈ws->i<j->∃b,bs[j]? =some b/\i∈b
 |[],_,i,j,id,h,_,_=>by cases h
 |p::r,hp,i,j,id,hi,hj,hij=>by
  simp only[cR4,aJ5,bN8]at hp
  have key:∀q∈r,p.2=q.2->p.1≠q.1->(p.1<q.1/\∃b,bs[q.1]? =some b/\p.1∈b)\/(q.1<p.1/\∃b,bs[p.1]? =some b/\q.1∈b):=by
   intro q hq he hne
   have:=hp.1 q hq
   simp only[cG1,bO4,aJ5]at this
   rcases this with h1|h1|h1|h1
   ·rw[he]at h1;simp at h1
   ·exact absurd (bp9 h1) hne
   ·refine .inl ⟨bd4 h1.1,?_⟩
    have h2:=h1.2
    split at h2
    ·rename_i b hb;exact⟨b,hb,bf7.1 h2⟩
    ·cases h2
   ·refine .inr ⟨bd4 h1.1,?_⟩
    have h2:=h1.2
    split at h2
    ·rename_i b hb;exact⟨b,hb,bf7.1 h2⟩
    ·cases h2
  rcases ch6.1 hi with e1|hi'
  ·rcases ch6.1 hj with e2|hj'
   ·rw[<-e1]at e2;cases e2;omega
   ·rcases key _ hj' (by rw[<-e1]) (by rw[<-e1];simp;omega)with h|h
    ·rw[<-e1]at h;exact h.2
    ·have:=h.1;rw[<-e1]at this;simp at this;omega
  ·rcases ch6.1 hj with e2|hj'
   ·rcases key _ hi' (by rw[<-e2]) (by rw[<-e2];simp;omega)with h|h
    ·have:=h.1;rw[<-e2]at this;simp at this;omega
    ·rw[<-e2]at h;exact h.2
   ·exact cR5 hp.2 i j id hi' hj' hij
def cr7 (X:Cx)(all:Array Oper)(bs:List (List Nat))(ws:List (Nat×Nat))(tm0:List (Nat×T))(hp0:List (Nat×G3))(vs:List (T×Option (Nat×G3))):Prop:=
 ∀i V N o b,vs[i]? =some (V,N)->all.toList[i]? =some o->bs[i]? =some b->ai2 X all o (minOf all.toList ((vs.take i).map (·.1)) tm0 (aY3 o)) (dZ5 bs ws (vs.take i) hp0 i b) V N
theorem bA8 {A4:Array Bool}{i n:Nat}(hs:A4.size=n)(hi:i<n):(A4.setIfInBounds i true).getD i false=true:=by
 subst hs;simp[hi]
section
variable {X:Cx} {all:Array Oper} {tm0:List (Nat × T)} {hp0:List (Nat × G3)} {vs:List (T × Option (Nat × G3))} {ws:List (Nat × Nat)}
theorem dB3 {P:Program}{Q:Exit->Act->World->Prop}{h:Nat}(ht:cU8 h 0 all.toList (bl9 all.toList [])=true):∀(fuel m:Nat) (A4:Array Bool) (a:Act) (w:World),h<=m->m+fuel=all.size->A4.size=all.size->
  (∀j,j<all.size->A4.getD j false=decide (j<m))->wpList P all Q (all.toList.drop m) a w->wpAny P .any all Q fuel A4 a w:=by
 intro fuel
 induction fuel with
 |zero=>
  intro m A4 a w hm hf hs hl hw
  have cP2:all.toList.drop m=[]:=List.drop_eq_nil_of_le (by simp;omega)
  rw[cP2]at hw
  refine⟨?_,hw⟩
  apply List.eq_nil_iff_forall_not_mem.2
  intro j hj
  obtain⟨h1,o,ho,_⟩:=mem_ready.1 hj
  have hjn:j<all.size:=(dx1.1 ho).1
  have:=hl j hjn
  have h2:A4.getD j true=A4.getD j false:=by simp[hs,hjn]
  rw[h2,this]at h1
  simp at h1
  omega
 |succ fuel ih=>
  intro m A4 a w hm hf hs hl hw
  have hmn:m<all.size:=by omega
  have hmo:all[m]? =some all[m]:=Array.getElem?_eq_getElem hmn
  have hcl:∀(j:Nat) (o:Oper),all.toList[j]? =some o->A4.getD j false=true->∀k∈aY3 o,A4.getD k false=true:=by
   intro j o ho hj k hk
   have hjn:j<all.size:=by have:=(bt7.1 ho).1;simpa using this
   obtain⟨_,_,h2,_⟩:=aV7 ht j o ho
   have hkj:=h2 k hk
   rw[hl j hjn]at hj
   rw[hl k (by omega)]
   simp at hj|-;omega
  have only:∀j∈Region.ready .any all A4,j=m:=by
   intro j hj
   obtain⟨h1,o,ho,hd⟩:=mem_ready.1 hj
   have hjn:j<all.size:=(dx1.1 ho).1
   have h2:A4.getD j true=A4.getD j false:=by simp[hs,hjn]
   rw[h2,hl j hjn]at h1
   simp at h1
   rcases da9 m j with hlt|hge
   ·exfalso
    have ho':all.toList[j]? =some o:=by simpa using ho
    obtain⟨b,hb,_,h3⟩:=aV7 ht j o ho'
    have:=cG4 (D:=fun k=>A4.getD k false=true) hcl all.toList [] (by simp) (fun j l o hj=>by simp at hj) j b o hb ho' (bI3 hd) m (h3 (by omega) m (by omega))
    rw[hl m hmn]at this
    simp at this
   ·omega
  have hin:m∈Region.ready .any all A4:=by
   have h2:A4.getD m true=false:=by
    have h2:A4.getD m true=A4.getD m false:=by simp[hs,hmn]
    rw[h2,hl m hmn];simp
   refine mem_ready.2 ⟨h2,all[m],hmo,fun e he hb=>?_⟩
   have hk:e.on∈aY3 all[m]:=by
    simp only[aY3,cX4,dK5]
    exact⟨e,⟨by simpa using he,hb⟩,rfl⟩
   obtain⟨_,_,h3,_⟩:=aV7 ht m all[m] (by simp)
   have hlt:=h3 e.on hk
   rw[hl e.on (by omega)]
   simp;omega
  refine⟨fun h0=>(by rw[h0]at hin;cases hin),fun i hi=>?_⟩
  have:=only i hi
  subst this
  have hdrop:all.toList.drop i=all[i]::all.toList.drop (i+1):=by
   rw[List.drop_eq_getElem_cons (by simpa using hmn)];simp
  rw[hdrop]at hw
  unfold wpList at hw
  unfold wpOp
  simp only[hmo]
  have next:∀a w,wpList P all Q (all.toList.drop (i+1)) a w->wpAny P .any all Q fuel (A4.setIfInBounds i true) a w:=fun a w hw=>
   ih (i+1) _ a w (by omega) (by omega) (by simp[hs]) (fun j hj=>by
    by_cases c:i=j
    ·subst c;simp[hs,hmn]
    ·rw[getD_set_ne false c,hl j hj];simp;omega) hw
  split at hw
  ·rename_i hg
   rw[if_pos hg]
   exact hw.imp (Oper.wp_mono next) id
  ·rename_i hg
   rw[if_neg hg]
   exact next _ _ hw
theorem cA2 {d:Nat}{hp:List (Nat×G3)}{N:Option (Nat×G3)}(h:M0 d hp=true)(hn:cs2 d N=false):M0 d (bf9 N hp)=true:=by
 cases N with
 |none=>exact h
 |some p=>
  obtain⟨i,b⟩:=p
  simp only[cs2,bZ2]at hn
  simp[bf9,M0,hn.1,hn.2,h]
theorem eq7 {d:Nat}{hp:List (Nat×G3)}{N:Option (Nat×G3)}(h:nfB d hp=true)(hn:cs2 d N=false):nfB d (bf9 N hp)=true:=by
 cases N with
 |none=>exact h
 |some p=>
  obtain⟨i,b⟩:=p
  simp only[cs2,bZ2]at hn
  simp[bf9,nfB,hn.2,h]
theorem eo0 {Q:Exit->Act->World->Prop}{h:Nat}(hv:vs.length=h)(hle:h<=all.size)(ht:cU8 h 0 all.toList (bl9 all.toList [])=true)(hh:cv5 X.nt tm0 (all.toList.take h)=true)
  (hnm:cn3 vs (bl9 all.toList []) 0 (all.toList.take h)=true) (hus:cC2 ws 0 vs=true) (hps:cR4 (bl9 all.toList []) ws=true) (has:eh0 tm0 hp0 vs (bl9 all.toList []) 0 (all.toList.take h)=true) (steps:cr7 X all (bl9 all.toList []) ws tm0 hp0 vs)
  (rest:∀a w,Sim X.w0 X.L X.nt ⟨ce6 all.toList (vs.map (·.1)) tm0,en1 vs hp0⟩ a w->wpList X.P all Q (all.toList.drop h) a w):
  ∀(fuel:Nat) (A4:Array Bool) (tm:List (Nat×T)) (hp:List (Nat×G3)) (a:Act) (w:World),Sim X.w0 X.L X.nt ⟨tm,hp⟩ a w->more tm0 tm->aY7 (bB9 (fun j=>A4.getD j false) 0 vs hp0) hp->A4.size=all.size->unl all.size A4=fuel->
   (∀j,h<=j->j<all.size->A4.getD j false=false)->(∀(j:Nat) (o:Oper),all.toList[j]? =some o->A4.getD j false=true->∀k∈aY3 o,A4.getD k false=true)->
   (∀(i:Nat) (o:Oper) (V:T) (N:Option (Nat×G3)) (d:Nat),A4.getD i false=true->all.toList[i]? =some o->vs[i]? =some (V,N)->o.dst=some d->look tm d=some V)->
   (∀(i:Nat) (o:Oper) (d:Nat),i<h->A4.getD i false=false->all.toList[i]? =some o->aR7 o.op=true->o.dst=some d->M9 d tm=true/\M0 d hp=true)->
   (∀(i:Nat) (o:Oper) (V:T) (N:Option (Nat×G3)) (id:Nat),i<h->A4.getD i false=false->all.toList[i]? =some o->vs[i]? =some (V,N)->cJ0 o N=some id->M9 id tm=true/\nfB id hp=true)->wpAny X.P .any all Q fuel A4 a w:=by
 have bget:∀(j:Nat) (o:Oper),all.toList[j]? =some o->∃b,(bl9 all.toList [])[j]? =some b:=fun j o ho=>by
  obtain⟨b,hb,_⟩:=aV7 ht j o ho
  exact⟨b,hb⟩
 have fin:∀(A4:Array Bool) (tm:List (Nat×T)) (hp:List (Nat×G3)) (a:Act) (w:World),Sim X.w0 X.L X.nt ⟨tm,hp⟩ a w->more tm0 tm->aY7 (bB9 (fun j=>A4.getD j false) 0 vs hp0) hp->(∀j,j<h->A4.getD j false=true)->
   (∀(i:Nat) (o:Oper) (V:T) (N:Option (Nat×G3)) (d:Nat),A4.getD i false=true->all.toList[i]? =some o->vs[i]? =some (V,N)->o.dst=some d->look tm d=some V)->
   wpList X.P all Q (all.toList.drop h) a w:=fun A4 tm hp a w hk hm hmh cm1 hsl=>
  rest a w (hk.bM5 (cA3 hm _ _ fun j o V d ho hV hd=>by
    rw[cG5]at hV
    cases hvj:vs[j]?with
    |none=>rw[hvj]at hV;cases hV
    |some p=>
     rw[hvj]at hV
     simp only[ca8,aI5]at hV
     subst hV
     exact hsl j o p.1 p.2 d (cm1 j (by have:=(bt7.1 hvj).1;omega)) ho hvj hd)
   (fun k c hk=>hmh k c (by
    rw[<-hk]
    refine bG4 rfl fun j V b hj=>?_
    rw[cV7]
    exact cm1 j (by have:=(bt7.1 hj).1;omega))))
 intro fuel
 induction fuel with
 |zero=>
  intro A4 tm hp a w hk hm hmh hs hu htl hcl hsl _ _
  have cm1:=ex6 hu
  have hh0:h=all.size:=by
   rcases da9 h all.size with h1|h1
   ·have:=htl h (cq9 _) h1;rw[cm1 h h1]at this;cases this
   ·omega
  exact dB3 ht 0 h A4 a w (cq9 _) (by omega) hs (fun j hj=>by rw[cm1 j hj];simp;omega) (fin A4 tm hp a w hk hm hmh (fun j hj=>cm1 j (by omega)) hsl)
 |succ fuel ih=>
  intro A4 tm hp a w hk hm hmh hs hu htl hcl hsl hfr hap
  by_cases hdone:∀j,j<h->A4.getD j false=true
  ·have hl:∀j,j<all.size->A4.getD j false=decide (j<h):=fun j hj=>by
    by_cases c:j<h
    ·rw[hdone j c];simp[c]
    ·rw[htl j (by omega) hj];simp[c]
   have hcount:h+(fuel+1)=all.size:=by
    have key:∀m,m<=all.size->((dp9 m).filter fun j=>!A4.getD j false).length=m-h:=by
     intro m
     induction m with
     |zero=>intro _;simp
     |succ m ihm=>
      intro hm'
      rw[List.range_succ,List.filter_append,aY1,ihm (by omega)]
      have:=hl m (by omega)
      by_cases c:m<h
      ·simp only[dC9,this,c,decide_true,aP9,Bool.false_eq_true,if_false,ez7,cr1];omega
      ·simp only[dC9,this,c,decide_false,Bool.not_false,if_true,ez7,List.length_cons,cr1];omega
    have:=key all.size (cq9 _)
    unfold unl at hu
    omega
   exact dB3 ht (fuel+1) h A4 a w (cq9 _) hcount hs hl (fin A4 tm hp a w hk hm hmh hdone hsl)
  ·have hex:∃j,j<h/\A4.getD j false=false:=by
    refine Classical.byContradiction fun hn=>hdone fun j hj=>?_
    cases hb:A4.getD j false
    ·exact absurd ⟨j,hj,hb⟩ hn
    ·rfl
   obtain⟨j0,hj0,hl0⟩:=hex
   have bef:∀(j:Nat) (o:Oper) (b:List Nat),all.toList[j]? =some o->(bl9 all.toList [])[j]? =some b->(∀k∈aY3 o,A4.getD k false=true)->∀i∈b,A4.getD i false=true:=fun j o b ho hb hd=>
    cG4 (D:=fun k=>A4.getD k false=true) hcl all.toList [] (by simp) (fun j l o hj=>by simp at hj) j b o hb ho hd
   have eb6:∀i∈Region.ready .any all A4,i<h/\i<all.size/\A4.getD i false=false/\∃o,all[i]? =some o/\∀k∈aY3 o,A4.getD k false=true:=by
    intro i hi
    obtain⟨h1,o,ho,hd⟩:=mem_ready.1 hi
    have hin:i<all.size:=(dx1.1 ho).1
    have h2:A4.getD i true=A4.getD i false:=by simp[hs,hin]
    rw[h2]at h1
    refine⟨?_,hin,h1,o,ho,bI3 hd⟩
    refine Classical.byContradiction fun hnh=>?_
    have ho':all.toList[i]? =some o:=by simpa using ho
    obtain⟨b,hb,_,h3⟩:=aV7 ht i o ho'
    have:=bef i o b ho' hb (bI3 hd) j0 (h3 (by omega) j0 (by omega))
    rw[hl0]at this
    cases this
   have notEmpty:Region.ready .any all A4≠[]:=by
    have cf2:∃j,j<all.size/\A4.getD j false=false/\∀k,k<j->A4.getD k false=true:=by
     have:∀n,(∃j,j<n/\A4.getD j false=false)->∃j,j<n/\A4.getD j false=false/\∀k,k<j->A4.getD k false=true:=by
      intro n
      induction n with
      |zero=>rintro⟨j,hj,_⟩;omega
      |succ n ihn=>
       rintro⟨j,hj,hb⟩
       by_cases hx:∃j,j<n/\A4.getD j false=false
       ·obtain⟨j',h1,h2,h3⟩:=ihn hx
        exact⟨j',by omega,h2,h3⟩
       ·have:j=n:=by
         rcases da9 j n with c|c
         ·exact absurd ⟨j,c,hb⟩ hx
         ·omega
        subst this
        refine⟨j,hj,hb,fun k hk=>?_⟩
        cases hc:A4.getD k false
        ·exact absurd ⟨k,hk,hc⟩ hx
        ·rfl
     obtain⟨j,h1,h2,h3⟩:=this h ⟨j0,hj0,hl0⟩
     exact⟨j,by omega,h2,h3⟩
    obtain⟨j,hj,hb,hk⟩:=cf2
    have hin:j∈Region.ready .any all A4:=by
     have hjo:all[j]? =some all[j]:=Array.getElem?_eq_getElem hj
     have h2:A4.getD j true=false:=by rw[<-hb];simp[hs,hj]
     refine mem_ready.2 ⟨h2,all[j],hjo,fun e he hbd=>?_⟩
     have hke:e.on∈aY3 all[j]:=by
      simp only[aY3,cX4,dK5]
      exact⟨e,⟨by simpa using he,hbd⟩,rfl⟩
     obtain⟨_,_,h3,_⟩:=aV7 ht j all[j] (by simp)
     exact hk e.on (by have:=h3 e.on hke;omega)
    intro h0
    rw[h0]at hin
    cases hin
   refine⟨fun h0=>absurd h0 notEmpty,fun i hi=>?_⟩
   obtain⟨hih,hin,hli,o,ho,hd⟩:=eb6 i hi
   have ho':all.toList[i]? =some o:=by simpa using ho
   obtain⟨b,hb⟩:=bget i o ho'
   have hbl:=bef i o b ho' hb hd
   have hvi:vs[i]? =some (vs[i]'(by omega)):=aK2 (by omega)
   generalize vs[i]'(by omega)=p at hvi
   obtain⟨V,N⟩:=p
   have hti:(all.toList.take h)[i]? =some o:=by rw[dp2,if_pos hih];exact ho'
   have tk:∀j V N,(vs.take i)[j]? =some (V,N)->vs[j]? =some (V,N):=fun j V N hj=>by
    rw[dp2]at hj
    split at hj
    ·exact hj
    ·cases hj
   have cf2:more (minOf all.toList ((vs.take i).map (·.1)) tm0 (aY3 o)) tm:=cQ1 hm _ fun j oj Vj dj hj hoj hVj hdj=>by
    rw[cG5]at hVj
    cases hvj:(vs.take i)[j]?with
    |none=>rw[hvj]at hVj;cases hVj
    |some p=>
     rw[hvj]at hVj
     simp only[ca8,aI5]at hVj
     subst hVj
     exact hsl j oj p.1 p.2 dj (hd j hj) hoj (tk j _ _ hvj) hdj
   have hblt:∀x∈b,x<i:=cG4 (D:=fun x=>x<i) (fun j oj hoj hj k hk=>by
     obtain⟨_,_,h2,_⟩:=aV7 ht j oj hoj
     have:=h2 k hk
     omega) all.toList [] (by simp) (fun j l o hj=>by simp at hj) i b o hb ho' (fun k hk=>by
     obtain⟨_,_,h2,_⟩:=aV7 ht i o ho'
     have:=h2 k hk
     omega)
   have hbi:∀j,i<=j->aD5 j b=false:=fun j hj=>by
    cases hx:aD5 j b
    ·rfl
    ·have:=hblt j (bf7.1 hx);omega
   have hlater:∀j bj,(bl9 all.toList [])[j]? =some bj->i∈bj->A4.getD j false=false:=fun j bj hbj hib=>by
    cases hx:A4.getD j false
    ·rfl
    ·exfalso
     have hjn:j<all.size:=by
      rcases da9 j all.size with c|c
      ·exact c
      ·have:A4.getD j false=false:=by simp[hs,c]
       rw[hx]at this;cases this
     have hoj:all.toList[j]? =some all[j]:=by simp
     have:=bef j all[j] bj hoj hbj (hcl j _ hoj hx) i hib
     rw[hli]at this;cases this
   have hminH:aY7 (dZ5 (bl9 all.toList []) ws (vs.take i) hp0 i b) hp:=fun k c hk=>by
    obtain⟨hv1,hl1⟩:=cm7 hk
    rw[dU2 (fun j hj=>by rw[cV7];exact hbi j hj)]at hl1
    refine hmh k c ?_
    rw[<-hl1]
    refine bG4 rfl fun j V' b' hj=>?_
    rw[cV7]
    have hw:=bY0 hus j V' k b' hj
    rw[cV7]at hw
    have hx:=bN8.1 hv1 _ hw
    simp only[ca7,aP9,Bool.false_or,cG1]at hx
    rcases hx with hx|hx|hx
    ·have:=bp9 hx
     subst this
     rw[hli,hbi j (cq9 _)]
    ·rw[hx];exact hbl j (bf7.1 hx)
    ·split at hx
     ·rename_i bj hbj
      have h1:=hlater j bj hbj (bf7.1 hx)
      rw[h1]
      cases hy:aD5 j b
      ·rfl
      ·have:=hbl j (bf7.1 hy);rw[h1]at this;cases this
     ·cases hx
   have hacc:aY7 (bB9 (fun j=>(A4.setIfInBounds i true).getD j false) 0 vs hp0) (bf9 N hp):=fun k c hk=>by
    by_cases hN:∃c',N=some (k,c')
    ·obtain⟨c',rfl⟩:=hN
     rw[cZ6 hvi (by rw[cV7];exact bA8 hs hin) (fun j V2 b2 hij hj=>by
      rw[cV7,getD_set_ne false (by omega)]
      have w1:=bY0 hus i V k c' hvi
      have w2:=bY0 hus j V2 k b2 hj
      rw[cV7]at w1 w2
      obtain⟨bj,hbj,hib⟩:=cR5 hps i j k w1 w2 hij
      exact hlater j bj hbj hib)]at hk
     cases hk
     simp[bf9,look]
    ·rw[br9 (fun c' e=>hN ⟨c',e⟩)]
     refine hmh k c ?_
     rw[<-hk]
     refine bG4 rfl fun j V' b' hj=>?_
     rw[cV7,getD_set_ne false]
     intro e;subst e
     rw[hvi]at hj;cases hj
     exact hN ⟨b',rfl⟩
   unfold wpOp
   simp only[ho]
   have hstep:=steps i V N o b hvi ho' hb tm hp cf2 hminH ⟨fun hn d bg8=>by
     have:=hfr i o d hih hli ho' hn bg8
     rw[this.1,this.2];rfl,fun id hid=>hap i o V N id hih hli ho' hvi hid⟩ (fun d bg8=>(bu6 hh i i o o d d hti hti bg8 bg8).1.2|>fun h=>Nat.ble_eq_true_of_le h) a w hk
    (wpAny X.P .any all Q fuel (A4.setIfInBounds i true)) Q (fun a' w' hk'=>by
    have hsz:(A4.setIfInBounds i true).size=all.size:=by simp[hs]
    have hun:unl all.size (A4.setIfInBounds i true)=fuel:=by have:=eI9 (A4:=A4) hin hs hli;omega
    have htl':∀j,h<=j->j<all.size->(A4.setIfInBounds i true).getD j false=false:=fun j h1 h2=>by rw[getD_set_ne false (by omega)];exact htl j h1 h2
    have hcl':∀(j:Nat) (o:Oper),all.toList[j]? =some o->(A4.setIfInBounds i true).getD j false=true->∀k∈aY3 o,(A4.setIfInBounds i true).getD k false=true:=fun j oj hoj hlj k hk=>by
     by_cases c:i=j
     ·subst c
      rw[ho']at hoj;cases hoj
      exact getD_set_true (hd k hk)
     ·rw[getD_set_ne false c]at hlj
      exact getD_set_true (hcl j oj hoj hlj k hk)
    have hjh:∀j,j<all.size->A4.getD j false=true->j<h:=fun j hj hlj=>by
     refine Classical.byContradiction fun hn=>?_
     rw[htl j (by omega) hj]at hlj;cases hlj
    have jlt:∀(j:Nat) (oj:Oper),all.toList[j]? =some oj->j<all.size:=fun j oj hoj=>by have:=(bt7.1 hoj).1;simpa using this
    have hap':∀(j:Nat) (oj:Oper) (Vj:T) (Nj:Option (Nat×G3)) (id:Nat),j<h->(A4.setIfInBounds i true).getD j false=false->all.toList[j]? =some oj->vs[j]? =some (Vj,Nj)->cJ0 oj Nj=some id->(M9 id tm=true/\names id V=false)/\nfB id (bf9 N hp)=true:=fun j oj Vj Nj id hj hlj hoj hvj hid=>by
     by_cases c:i=j
     ·subst c
      rw[bA8 hs hin]at hlj;cases hlj
     ·rw[getD_set_ne false c]at hlj
      obtain⟨f1,f2⟩:=hap j oj Vj Nj id hj hlj hoj hvj hid
      obtain⟨_,_,hnb⟩:=cJ1 has j oj Vj Nj id (by rw[dp2,if_pos hj];exact hoj) (by rw[cV7];exact hvj) hid
      rw[cV7]at hnb
      rcases bX3 hnb i V N hvi (by omega)with⟨n1,n2⟩|⟨b',hb',hjb⟩
      ·exact⟨⟨f1,n1⟩,eq7 f2 n2⟩
      ·rw[hb]at hb';cases hb'
       have:=hbl j hjb
       rw[hlj]at this;cases this
    cases bg8:o.dst with
    |none=>
     simp only[pt,bg8]at hk'
     refine ih _ tm _ _ w' hk' hm hacc hsz hun htl' hcl' (fun j oj Vj Nj dj hlj hoj hVj hdj=>?_) (fun j oj dj hj hlj hoj hnj hdj=>?_) (fun j oj Vj Nj bid hj hlj hoj hvj hid=>(hap' j oj Vj Nj bid hj hlj hoj hvj hid).imp (·.1) (fun x=>x))
     ·by_cases c:i=j
      ·subst c
       rw[ho']at hoj;cases hoj
       rw[bg8]at hdj;cases hdj
      ·rw[getD_set_ne false c]at hlj
       exact hsl j oj Vj Nj dj hlj hoj hVj hdj
     ·by_cases c:i=j
      ·subst c
       rw[ho']at hoj;cases hoj
       rw[bg8]at hdj;cases hdj
      ·rw[getD_set_ne false c]at hlj
       obtain⟨f1,f2⟩:=hfr j oj dj hj hlj hoj hnj hdj
       have hnb:=bT0 hnm j oj dj (by rw[dp2,if_pos hj];exact hoj) hnj hdj
       rw[cV7]at hnb
       rcases bX3 hnb i V N hvi (by omega)with⟨n1,n2⟩|⟨b',hb',hjb⟩
       ·exact⟨f1,cA2 f2 n2⟩
       ·rw[hb]at hb';cases hb'
        have:=hbl j hjb
        rw[hlj]at this;cases this
    |some d=>
     have h1:=(bu6 hh i i o o d d hti hti bg8 bg8).1
     have hpt:pt o V tm=(d,V)::tm:=by simp[pt,bg8]
     rw[hpt]at hk'
     have dne:∀(j:Nat) (oj:Oper) (dj:Nat),i≠j->j<h->all.toList[j]? =some oj->oj.dst=some dj->d≠dj:=fun j oj dj c hj hoj hdj=>
      (bu6 hh i j o oj d dj hti (by rw[dp2,if_pos hj];exact hoj) bg8 hdj).2 c
     refine ih _ ((d,V)::tm) _ _ w' hk' (fun k t hkt=>?_) hacc hsz hun htl' hcl' (fun j oj Vj Nj dj hlj hoj hVj hdj=>?_) (fun j oj dj hj hlj hoj hnj hdj=>?_) (fun j oj Vj Nj bid hj hlj hoj hvj hid=>(hap' j oj Vj Nj bid hj hlj hoj hvj hid).imp (fun h=>by simp[M9,h.1,h.2]) (fun x=>x))
     ·have hne:d≠k:=by intro e;subst e;rw[h1.1]at hkt;cases hkt
      rw[I2 hne]
      exact hm k t hkt
     ·by_cases c:i=j
      ·subst c
       rw[ho']at hoj;cases hoj
       rw[bg8]at hdj;cases hdj
       rw[hvi]at hVj;cases hVj
       simp[look]
      ·rw[getD_set_ne false c]at hlj
       have hne:=dne j oj dj c (hjh j (jlt j oj hoj) hlj) hoj hdj
       rw[I2 hne]
       exact hsl j oj Vj Nj dj hlj hoj hVj hdj
     ·by_cases c:i=j
      ·subst c
       rw[bA8 hs hin]at hlj;cases hlj
      ·rw[getD_set_ne false c]at hlj
       have hne:=dne j oj dj c hj hoj hdj
       obtain⟨f1,f2⟩:=hfr j oj dj hj hlj hoj hnj hdj
       have hnb:=bT0 hnm j oj dj (by rw[dp2,if_pos hj];exact hoj) hnj hdj
       rw[cV7]at hnb
       rcases bX3 hnb i V N hvi (by omega)with⟨n1,n2⟩|⟨b',hb',hjb⟩
       ·exact⟨by simp[M9,n1,f1],cA2 f2 n2⟩
       ·rw[hb]at hb';cases hb'
        have:=hbl j hjb
        rw[hlj]at this;cases this)
   split at hstep
   ·rename_i hg
    rw[if_pos hg]
    exact .inl hstep
   ·rename_i hg
    rw[if_neg hg]
    exact hstep
def eB4 (nt:Nat)(all:List Oper)(h:Nat)(ws:List (Nat×Nat))(tm0:List (Nat×T))(hp0:List (Nat×G3))(vs:List (T×Option (Nat×G3))):Bool:=
 bM1 vs.length h&&(dO2 h all.length&&(cU8 h 0 all (bl9 all [])&&(bf5 nt tm0 hp0 (all.take h)&&(cn3 vs (bl9 all []) 0 (all.take h)&&(cC2 ws 0 vs&&(cR4 (bl9 all []) ws&&eh0 tm0 hp0 vs (bl9 all []) 0 (all.take h)))))))
theorem E4.fi1 {ρ:Type}{ks:List K}{m:Option ρ}{Q:ρ->Exit->St->Prop}{id h:Nat}(hmx:X.P.follows .mixedOrders=true)(hb:eB4 X.nt all.toList h ws tm0 hp0 vs=true)(steps:cr7 X all (bl9 all.toList []) ws tm0 hp0 vs)
  (rest:B5 X all (all.toList.drop h) ks ⟨ce6 all.toList (vs.map (·.1)) tm0,en1 vs hp0⟩ m Q):E4 X (.c (.region id all true)::ks) ⟨tm0,hp0⟩ m Q:=fun r hr a w hw=>by
 simp only[eB4,aJ5]at hb
 obtain⟨h1,h2,h3,h4,h5,h6,h7,h8⟩:=hb
 obtain⟨hh,hf⟩:=du7 h4
 obtain⟨S,E,hk⟩:=hw
 have aL3:aW6 (fun _=>False) w {w with drawn:=w.drawn+1}:=⟨rfl,rfl,rfl,cq9 _,fun _ _ _=>rfl,Nat.le_succ _⟩
 refine wp_region_any hmx (eo0 (bp9 h1) (by have:=bd4 h2;simpa using this) h3 hh h5 h6 h7 h8 steps (fun a w hs=>rest r hr a w hs) _ _ tm0 hp0 a _ ⟨S,E,hk.grow aL3⟩ (fun _ _ h=>h) (fun k c hk=>by rw[cr8 (fun j V b _=>by rw[cV7];exact bT9 _ _)]at hk;exact hk) (by simp) ?_ ?_ ?_ ?_ ?_ ?_)
 ·unfold unl
  have:((dp9 all.size).filter fun i=>!(Array.replicate all.size false).getD i false)=dp9 all.size:=by
   rw[List.filter_eq_self]
   intro i hi
   rw[bT9];rfl
  rw[this];simp
 ·intro j _ _;exact bT9 _ _
 ·intro j o ho hl
  rw[bT9]at hl;cases hl
 ·intro j o V N d hl
  rw[bT9]at hl;cases hl
 ·intro i o d hi _ ho hn hd
  have:=hf i o d (by rw[dp2,if_pos hi];exact ho) hn hd
  rwa[aJ5]at this
 ·intro i o V N id hi _ ho hv hid
  have:=cJ1 h8 i o V N id (by rw[dp2,if_pos hi];exact ho) (by rw[cV7];exact hv) hid
  exact⟨this.1,this.2.1⟩
end
open Go.RowKit Go.MapKept
def cQ0 {κ ν:Type}[BEq κ](z:ν):List (κ×ν)->κ->ν
 |[],_=>z
 |(a,v)::r,k=>bif k==a then v else cQ0 z r k
def dm1 {κ ν:Type}[BEq κ]:List (κ×ν)->κ->ν->List (κ×ν)
 |[],k,v=>[(k,v)]
 |(a,x)::r,k,v=>bif k==a then(k,v)::r else(a,x)::dm1 r k v
structure KeyLaw {κ:Type}[BEq κ](d:TypeDesc)(f:κ->Value):Prop where
 now:∀a b,Instr.sameNow d (f a) (f b)=some (a==b)
 key:∀a,IsKey d (f a)
 bits:∀a b,(a==b)=true->Instr.sameBits 10000 (f b) (f a)=true
theorem eQ9 (ik:IntKind):KeyLaw (.int ik) (fun n:Int=>.int ik n):=⟨fun a b=>by simp[Instr.sameNow],fun a=>by simp[IsKey],fun a b h=>by
 have h:a=b:=by simpa using h
 subst h;simp[Instr.sameBits]⟩
section
variable {κ ν:Type} [BEq κ] {d:TypeDesc} {f:κ -> Value} {g:ν -> Value}
def bu9:List (κ×ν)->κ->Option (Nat×ν)
 |[],_=>none
 |(a,v)::r,k=>bif k==a then some (0,v)else(bu9 r k).map fun p=>(p.1+1,p.2)
theorem de7 (z:ν)(k:κ):∀m:List (κ×ν),cQ0 z m k=match bu9 m k with|some p=>p.2|none=>z
 |[]=>rfl
 |(a,v)::r=>by
  simp only[cQ0,bu9]
  cases k==a
  ·simp only[fj6];rw[de7 z k r];cases bu9 r k<;>rfl
  ·rfl
theorem de9 (k:κ)(v:ν):∀m:List (κ×ν),dm1 m k v=match bu9 m k with|some p=>m.set p.1 (k,v)|none=>m++[(k,v)]
 |[]=>rfl
 |(a,x)::r=>by
  simp only[dm1,bu9]
  cases k==a
  ·simp only[fj6];rw[de9 k v r];cases bu9 r k<;>rfl
  ·rfl
theorem de6 {k:κ}:∀{m:List (κ×ν)}{p:Nat×ν},bu9 m k=some p->∃a,m[p.1]? =some (a,p.2)/\(k==a)=true
 |[],p,h=>by simp[bu9]at h
 |(a,v)::r,p,h=>by
  simp only[bu9]at h
  cases hk:k==a
  ·rw[hk]at h
   simp only[fj6,ez3]at h
   obtain⟨q,hq,rfl⟩:=h
   obtain⟨b,h1,h2⟩:=de6 hq
   exact⟨b,by simpa using h1,h2⟩
  ·rw[hk]at h
   simp only[fj8,aI5]at h
   subst h
   exact⟨a,rfl,hk⟩
abbrev ent (f:κ->Value)(g:ν->Value)(p:κ×ν):Value×Value:=(f p.1,g p.2)
theorem ce4 (K:KeyLaw d f)(k:κ):∀(m:List (κ×ν)) (l:List MapEntry) (i:Nat),l.map (fun e=>(e.key,e.val))=m.map (ent f g)->
  Instr.findNow d (f k) l i=some ((bu9 m k).map fun p=>(i+p.1,g p.2))
 |[],l,i,h=>by
  have:l=[]:=by simpa using h
  subst this;rfl
 |(a,v)::m,[],i,h=>by simp at h
 |(a,v)::m,e::l,i,h=>by
  simp only[cS3,eV7,aX4]at h
  obtain⟨⟨h1,h2⟩,h3⟩:=h
  simp only[Instr.findNow,h1,K.now,bu9]
  cases hk:k==a
  ·simp only[fj6]
   rw[ce4 K k m l (i+1) h3]
   cases bu9 m k<;>simp[dD0,eI8 1]
  ·simp[h2]
end
section
variable {κ ν:Type} [BEq κ] {d:TypeDesc} {f:κ -> Value} {g:ν -> Value} {P:Program} {w:World} {t kt et b clock:Nat} {es:Array MapEntry} {m:List (κ × ν)}
theorem dI7 (K:KeyLaw d f)(ht:P.underlying t=some (.map kt et))(hk:P.underlying kt=some d){z:ν}{ti:TypeInfo}(hz:P.info? et=some ti)(hz2:ti.zero=some (g z))
  (hb:w.heap[b]? =some (.map es clock)) (he:es.toList.map (fun e=>(e.key,e.val))=m.map (ent f g)) (k:κ):
  (Instr.lookup t (.map (some b)) (f k) false).run P w= .ok (g (cQ0 z m k)) w:=by
 have h1:=ce4 K k m es.toList 0 he
 simp only[Instr.lookup,bk5,run_underlying ht,ba5,MapKept.run_getObj_map hb,bO3,run_checkKey hk (K.key k),run_findKey hk h1]
 rw[de7]
 cases bu9 m k with
 |none=>
  have hzr:(zeroValue et).run P w= .ok (g z) w:=by simp[zeroValue,typeInfo,hz,hz2]
  simp[hzr,bk5,Result.andThen]
 |some p=>simp[Result.andThen]
theorem dM2 (K:KeyLaw d f)(ht:P.underlying t=some (.map kt et))(hk:P.underlying kt=some d)
  (hb:w.heap[b]? =some (.map es clock)) (he:es.toList.map (fun e=>(e.key,e.val))=m.map (ent f g)) (k:κ) (v:ν):
  ∃es' clock',(Instr.mapUpdate t (.map (some b)) (f k) (g v)).run P w= .ok () {w with heap:=w.heap.setIfInBounds b (.map es' clock')}/\es'.toList.map (fun e=>(e.key,e.val))=(dm1 m k v).map (ent f g):=by
 have h1:=ce4 K k m es.toList 0 he
 rw[de9]
 cases hf:bu9 m k with
 |none=>
  rw[hf]at h1
  refine⟨es.push {key:=f k,val:=g v,born:=clock},clock+1,?_,?_⟩
  ·simp only[Instr.mapUpdate,bk5,run_underlying ht,ba5,MapKept.run_getObj_map hb,run_checkKey hk (K.key k),run_findKey hk h1]
   simp[run_setObj_map _ hb]
  ·simp[he]
 |some p=>
  rw[hf]at h1
  obtain⟨a,h2,h3⟩:=de6 hf
  have h4:(es.toList.map (fun e=>(e.key,e.val)))[p.1]? =some (f a,g p.2):=by rw[he,cG5,h2];rfl
  rw[cG5,ez3]at h4
  obtain⟨e,h5,h6⟩:=h4
  simp only[aX4]at h6
  have h5':es[p.1]? =some e:=by simpa using h5
  have hbits:Instr.sameBits 10000 e.key (f k)=true:=by rw[h6.1];exact K.bits k a h3
  refine⟨es.modify p.1 fun e=>{e with key:=f k,val:=g v},clock,?_,?_⟩
  ·simp only[Instr.mapUpdate,bk5,run_underlying ht,ba5,MapKept.run_getObj_map hb,run_checkKey hk (K.key k),run_findKey hk h1]
   simp only[ca8,cV7,h5',Option.getD_some,Instr.keyThatStays,hbits,if_true,bO3,bk5,ba5]
   simp[run_setObj_map _ hb]
  ·simp only
   apply List.ext_getElem?
   intro j
   have h7:=congrArg (fun l=>l[j]?) he
   simp only[cG5]at h7
   simp only[cG5,List.getElem?_set,Array.getElem?_toList,Array.getElem?_modify]at h7|-
   by_cases hj:p.1=j
   ·subst hj
    have hlt:p.1<m.length:=(bt7.1 h2).1
    simp[h5',hlt]
   ·simp only[hj,if_false]
    exact h7
end
section
variable {w0:World} {L:Lim} {nt:Nat} {σ:St} {S:Nat -> Prop} {E:Nat -> Value} {a:Act} {w:World}
theorem Ok.fd4 (h:Ok w0 L nt σ S E a w){id β c c':Nat}{es es':List (Value×Value)}{l l':Array MapEntry}(hb:look σ.hp id=some (.mp es))(hE:E id= .map (some β))
  (hh:w.heap[β]? =some (.map l c)) (hl:l'.toList.map (fun e=>(e.key,e.val))=es'):
  Ok w0 L nt ⟨σ.tm,at7 σ.hp id (.mp es')⟩ S E a {w with heap:=w.heap.setIfInBounds β (.map l' c')}:=by
 have hβ:R7 (E id)=some β:=by rw[hE];rfl
 have dl1:=h.own id _ β hb hβ
 have bN6:=heap_set (o':=.map l' c') hh
 have hne:∀k,k≠β->({w with heap:=w.heap.setIfInBounds β (.map l' c')}:World).heap[k]? =w.heap[k]?:=fun k hk=>bN6.2 k hk
 have hS:∀b,S b->({w with heap:=w.heap.setIfInBounds β (.map l' c')}:World).heap[b]? =w.heap[b]?:=fun k hk=>hne k fun e=>dl1.1 (e▸hk)
 refine{keep:=?_,aG9:=fun b hb=>by simpa using h.aG9 b hb,base:=h.base,size:=h.size,defers:=h.defers,tm:=fun k t ht=>(h.tm k t ht).mono (fun _ x=>x) hS (fun _ _=>rfl),hp:=?_,own:=?_,at6:=?_,pin:=h.pin}
 ·exact h.keep.trans (L':=fun k=>k=β) ⟨rfl,rfl,rfl,by simp,fun k _ hk=>hne k hk,cq9 _⟩ fun x hx=>by subst hx;exact dl1.2.2.symm
 ·intro id' blk hl'
  rw[aE8]at hl'
  by_cases hid:id=id'
  ·subst hid
   simp only[if_true,hb,ca8,aI5]at hl'
   subst hl'
   exact⟨β,c',l',hE,bN6.1,hl⟩
  ·simp only[hid,if_false]at hl'
   refine(h.hp id' blk hl').mono (fun _ x=>x) hS (fun β' hβ'=>hne β' fun e=>?_) (fun _ _=>rfl)
   subst e
   exact hid (h.at6 id id' _ blk _ hb hl' hβ hβ')
 ·intro id' blk β' hl' hβ'
  rw[aE8]at hl'
  have:∃b0,look σ.hp id'=some b0:=by
   by_cases hid:id=id'
   ·subst hid;exact⟨_,hb⟩
   ·simp only[hid,if_false]at hl';exact⟨_,hl'⟩
  obtain⟨b0,hb0⟩:=this
  simpa using h.own id' b0 β' hb0 hβ'
 ·intro i i' x x' β' hl1 hl' hβ1 hβ2
  rw[aE8]at hl1 hl'
  have dz9:∀j y,(if id=j then(look σ.hp j).map (fun _=>(.mp es':G3))else look σ.hp j)=some y->∃b0,look σ.hp j=some b0:=by
   intro j y hj
   by_cases hid:id=j
   ·subst hid;exact⟨_,hb⟩
   ·simp only[hid,if_false]at hj;exact⟨_,hj⟩
  obtain⟨b0,hb0⟩:=dz9 i x hl1
  obtain⟨b1,hb1⟩:=dz9 i' x' hl'
  exact h.at6 i i' b0 b1 β' hb0 hb1 hβ1 hβ2
end
section
variable {ρ κ ν:Type} [BEq κ] {X:Cx} {ks:List K} {tm:List (Nat × T)} {hp:List (Nat × G3)} {m:Option ρ} {Q:ρ -> Exit -> St -> Prop} {all:Array Oper} {o:Oper} {rest:List Oper}
theorem B5.eS5 {t d:Nat}(id:Nat)(ho:o.op= .makeMap t none)(hd:o.dst=some d)(hdn:bd5 d X.nt=true)(hg:ah9 all.toList tm o.guard=some true)
  (aM0:bd5 id big=true) (hft:M9 id tm=true) (hfb:M0 id hp=true) (h:B5 X all rest ks ⟨(d,.own id)::tm,(id,.mp [])::hp⟩ m Q):B5 X all (o::rest) ks ⟨tm,hp⟩ m Q:=fun y hy a w ⟨S,E,hk⟩=>by
 obtain⟨E',hE,hne,hok⟩:=hk.alloc (o:=.map #[] 0) (x:=.map (some w.heap.size)) (b:=.mp []) aM0 hft hfb rfl (fun E' _=>⟨w.heap.size,0,#[],rfl,(MapKept.heap_alloc w _).1,rfl⟩)
 refine wpList_step fun K hK=>?_
 rw[S8 hk hg,if_pos rfl]
 unfold Oper.wp
 have aO0:(execOp a.eval o).run X.P w= .ok (.value (.map (some w.heap.size))) (w.alloc (.map #[] 0)):=by
  unfold execOp
  simp only[ho,Option.map_none,bk5,run_makeMap,ba5,bO3]
 rw[aO0]
 refine hK _ _ (h y hy _ _ ⟨S,E',?_⟩)
 rw[hd]
 exact hok.put (bd4 hdn) (.own id _ hE)
theorem B5.ep5 {t kt et d id:Nat}{x y:Operand}{dk:TypeDesc}{f:κ->Value}{g:ν->Value}{z:ν}{l:List (κ×ν)}{k:κ}(K:KeyLaw dk f)(ho:o.op= .lookup t x y false)(hd:o.dst=some d)(hdn:bd5 d X.nt=true)(hg:ah9 all.toList tm o.guard=some true)
  (hx:val tm x=some (.own id)) (hb:look hp id=some (.mp (l.map (ent f g)))) (hy:val tm y=some (.t (.v (f k)))) (ht:X.P.underlying t=some (.map kt et)) (hkt:X.P.underlying kt=some dk) (hz:∃ti,X.P.info? et=some ti/\ti.zero=some (g z))
  (h:B5 X all rest ks ⟨(d,.t (.v (g (cQ0 z l k))))::tm,hp⟩ m Q):B5 X all (o::rest) ks ⟨tm,hp⟩ m Q:=by
 have:=B5.one (X:=X) (ks:=ks) (tm:=tm) (hp:=hp) (all:=all) (o:=o) (rest:=rest) (Q:=Q) (k:=fun _=>m) (m₁:=some ()) hd hdn hg (fun _=>.t (.v (g (cQ0 z l k)))) (fun _ S E a w _ hk=>by
  obtain⟨ti,hz1,hz2⟩:=hz
  obtain⟨β,c,es,hE,hh,hl⟩:=hk.hp id _ hb
  have hxv:=hk.val hx
  refine⟨_,?_,.t (.v _)⟩
  have hxe:a.eval x= .map (some β):=by
   generalize hq:a.eval x=q at hxv
   cases hxv with|own _ _ h=>exact h.symm.trans hE
  simp only[execOp,ho,bk5,hxe,(hk.val hy).tv,dI7 K ht hkt hz1 hz2 hh hl,ba5,bO3]) (fun _ _=>h)
 simpa using this
theorem B5.ex8 {t kt et id:Nat}{x y u:Operand}{dk:TypeDesc}{f:κ->Value}{g:ν->Value}{l:List (κ×ν)}{k:κ}{v:ν}(K:KeyLaw dk f)(ho:o.op= .mapUpdate t x y u)(hd:o.dst=none)(hg:ah9 all.toList tm o.guard=some true)
  (hx:val tm x=some (.own id)) (hb:look hp id=some (.mp (l.map (ent f g)))) (hy:val tm y=some (.t (.v (f k)))) (hu:val tm u=some (.t (.v (g v)))) (ht:X.P.underlying t=some (.map kt et)) (hkt:X.P.underlying kt=some dk)
  (h:B5 X all rest ks ⟨tm,at7 hp id (.mp ((dm1 l k v).map (ent f g)))⟩ m Q):B5 X all (o::rest) ks ⟨tm,hp⟩ m Q:=fun r hr a w ⟨S,E,hk⟩=>by
 obtain⟨β,c,es,hE,hh,hl⟩:=hk.hp id _ hb
 have hxv:=hk.val hx
 have hxe:a.eval x= .map (some β):=by
  generalize hq:a.eval x=q at hxv
  cases hxv with|own _ _ h=>exact h.symm.trans hE
 obtain⟨es',c',h1,h2⟩:=dM2 K ht hkt hh hl k v
 refine wpList_step fun K hK=>?_
 rw[S8 hk hg,if_pos rfl]
 unfold Oper.wp
 have aO0:(execOp a.eval o).run X.P w= .ok .skip {w with heap:=w.heap.setIfInBounds β (.map es' c')}:=by
  unfold execOp
  simp only[ho,bk5,hxe,(hk.val hy).tv,(hk.val hu).tv,h1,ba5,bO3]
 rw[aO0]
 refine hK _ _ (h r hr _ _ ⟨S,E,?_⟩)
 rw[hd]
 exact hk.fd4 hb hE hh h2
end
inductive Cg (ρ:Type)where
 |S (ks:List K) (σ:St)
 |O (all:Array Oper) (kb:List Nat) (ops:List Oper) (ks:List K) (σ:St)
 |D (id:Nat) (all:Array Oper) (h:Nat) (bs:List (List Nat)) (ws:List (Nat×Nat)) (ops:List Oper) (vs:List (T×Option (Nat×G3))) (tm0:List (Nat×T)) (hp0:List (Nat×G3)) (fz kb:List Nat) (ks:List K)
 |X (id:Nat) (σ:St)
 |R (r:ρ)
def tlH:List (List Nat)->Nat->Nat
 |[],j=>j
 |b::r,j=>match tlH r (j+1)with|h=>bif bM1 h (j+1)&&bO7 j b then j else h
def dw8 (fz:List Nat):Nat->List Oper->List (Nat×Nat)
 |_,[]=>[]
 |j,o::r=>match aR7 o.op,o.dst with
  |true,some d=>bif aD5 d fz then dw8 fz (j+1) r else(j,d)::dw8 fz (j+1) r
  |_,_=>dw8 fz (j+1) r
def stD (C4:Tab)(all:List Oper)(bs:List (List Nat))(ws:List (Nat×Nat))(o:Oper)(vs:List (T×Option (Nat×G3)))(tm0:List (Nat×T))(hp0:List (Nat×G3))(fz kb:List Nat):Option (T×Option (Nat×G3)):=
 match bs[vs.length]?with
 |none=>none
 |some b=>match minOf all (vs.map (·.1)) tm0 (aY3 o),dZ5 bs ws vs hp0 vs.length b with
  |tm,hp=>match gk all kb tm o.guard with
   |some false=>some (.t (.v undef),none)
   |some true=>bif dY3 o.op then(match cG9 C4 tm hp o with|some (V,_)=>some (V,none)|none=>none)else
     bif aR7 o.op then(match cG9 C4 tm hp o,o.dst with
      |some (V,⟨_,(_,N)::_⟩),some d=>bif aD5 d fz then(match N with| .rows _ _ n rs=>some (.t (.sl n rs),none)|_=>none)else some (V,some (d,N))
      |_,_=>none)else
     match o.op with
     | .store t x y=>match val tm x,look C4 t,(val tm y).bind (ap6 hp)with
      |some (.ptr id off),some ti,some l=>match look hp id with
       |some (.box ts)=>bif bM1 l.length ti.size&&dO2 (off+l.length) ts.length then some (.t (.v undef),some (id,.box (aP3 ts off l)))else none
       |_=>none
      |_,_,_=>none
     |_=>none
   |none=>none
def dedup:List (Nat×G3)->List (Nat×G3)
 |[]=>[]
 |(k,b)::r=>(k,b)::bx1 (dedup r) k
theorem cP6:∀{l:List (Nat×G3)}{k:Nat},look (dedup l) k=look l k
 |[],_=>rfl
 |(j,b)::r,k=>by
  unfold dedup
  by_cases hj:j=k
  ·subst hj;simp[look]
  ·rw[I2 hj,I2 hj,aV3 (Ne.symm hj)];exact cP6
def av {ρ:Type}(C4:Tab)(nt:Nat)(eb ed:Bool):Nat->Cg ρ->Cg ρ
 |0,c=>c
 |n+1,c=>match c with
  | .S (.c x::ks) σ=>match x with
   | .seq x y=>av C4 nt eb ed n (.S (.c x:: .c y::ks) σ)
   | .skip=>av C4 nt eb ed n (.S ks σ)
   | .label _=>av C4 nt eb ed n (.S ks σ)
   | .scope x=>av C4 nt eb ed n (.S (.c x::ks) σ)
   | .block id x=>bif eb then av C4 nt eb ed n (.S (.c x:: .e id::ks) σ)else .S (.c (.block id x)::ks) σ
   | .region id ops d=>match d with
    |false=>av C4 nt eb ed n (.O ops [] ops.toList ks σ)
    |true=>bif ed then av C4 nt eb ed n (.D id ops (tlH (bl9 ops.toList []) 0) (bl9 ops.toList []) (dw8 [] 0 (ops.toList.take (tlH (bl9 ops.toList []) 0))) ops.toList [] (rmv (aW4 (ops.toList.take (tlH (bl9 ops.toList []) 0))) σ.tm) σ.hp [] [] ks)else .S (.c (.region id ops true)::ks) σ
   | .exit id=>match bv4 id ks with
    |some ks'=>av C4 nt eb ed n (.S ks' σ)
    |none=>.X id σ
   |x=>.S (.c x::ks) σ
  | .S (.e _::ks) σ=>av C4 nt eb ed n (.S ks σ)
  | .O all kb [] ks σ=>av C4 nt eb ed n (.S ks σ)
  | .O all kb (o::r) ks ⟨tm,hp⟩=>match stO C4 nt all.toList kb o r tm hp with
   |some (r',σ')=>av C4 nt eb ed n (.O all kb r' ks σ')
   |none=>.O all kb (o::r) ks ⟨tm,hp⟩
  | .D id all h bs ws ops vs tm0 hp0 fz kb ks=>bif bM1 vs.length h then
    (bif eB4 nt all.toList h ws tm0 hp0 vs then av C4 nt eb ed n (.O all kb ops ks ⟨ce6 all.toList (vs.map (·.1)) tm0,dedup (en1 vs hp0)⟩)else .D id all h bs ws ops vs tm0 hp0 fz kb ks)
   else match ops with
    |[]=>.D id all h bs ws [] vs tm0 hp0 fz kb ks
    |o::r=>match stD C4 all.toList bs ws o vs tm0 hp0 fz kb with
     |some x=>av C4 nt eb ed n (.D id all h bs ws r (vs++[x]) tm0 hp0 fz kb ks)
     |none=>.D id all h bs ws (o::r) vs tm0 hp0 fz kb ks
  |c=>c
def fuel:Nat:=100000
def here {ρ:Type}:Cg ρ->Option (Array Oper×List Nat×Oper×List (Nat×T)×List (Nat×G3)×List Nat×(T->Option (Nat×G3)->Cg ρ))
 | .O all kb (q::r) ks ⟨tm,hp⟩=>some (all,kb,q,tm,hp,[],fun V N=>.O all kb r ks ⟨pt q V tm,bf9 N hp⟩)
 | .D id all h bs ws (q::r) vs tm0 hp0 fz kb ks=>match bs[vs.length]?with
  |some b=>some (all,kb,q,minOf all.toList (vs.map (·.1)) tm0 (aY3 q),dZ5 bs ws vs hp0 vs.length b,fz,fun V N=>.D id all h bs ws r (vs++[(V,N)]) tm0 hp0 fz kb ks)
  |none=>none
 |_=>none
def eV9 (q:Oper)(vs:List (T×Option (Nat×G3))):Option (Nat×Bool):=match q.guard with
 |some (j,_)=>match vs[j]?with
  |some (.t (.v (.bool b)),none)=>some (j,b)
  |_=>none
 |none=>none
def dK8 (x:T):Nat->List (T×Option (Nat×G3))->List (T×Option (Nat×G3))
 |_,[]=>[]
 |0,(_,N)::r=>(x,N)::r
 |j+1,p::r=>p::dK8 x j r
def kbD (all:Array Oper)(j:Nat)(kb:List Nat):List Nat:=match all[j]?with
 |some o=>(match o.dst with|some d=>d::kb|none=>kb)
 |none=>kb
def eV8 (all:List Oper)(tm:List (Nat×T))(q:Oper):Option (Nat×Bool):=match q.guard with
 |some (j,_)=>match all[j]?with
  |some o=>match o.dst with
   |some d=>match look tm d with
    |some (.t (.v (.bool b)))=>some (d,b)
    |_=>none
   |none=>none
  |none=>none
 |none=>none
inductive Ch where
 |t (k:Nat) (x:T)
 |x (k:Nat)
 |c (id j:Nat) (l:List T)
 |b (id:Nat) (b:G3)
 |d (id:Nat)
def upd:List Ch->St->St
 |[],σ=>σ
 |a::r,σ=>match upd r σ with
  |⟨tm,hp⟩=>match a with
   | .t k x=>⟨(k,x)::rmv [k] tm,hp⟩
   | .x k=>⟨rmv [k] tm,hp⟩
   | .c id j l=>match look hp id with
    |some (.box ts)=>⟨tm,(id,.box (aP3 ts j l))::bx1 hp id⟩
    |_=>⟨tm,hp⟩
   | .b id b=>⟨tm,(id,b)::bx1 hp id⟩
   | .d id=>⟨tm,bx1 hp id⟩
inductive Sh (ρ:Type)where
 |nx (l:List Ch)
 |ex (id:Nat) (l:List Ch)
 |rt (r:ρ)
inductive Out (ρ:Type)where
 |nx (σ:St)
 |ex (id:Nat) (σ:St)
 |rt (r:ρ)
 |top (r:ρ)
 |no
def Out.den {ρ:Type}(Qf:ρ->St->Prop):Out ρ->Exit->St->Prop
 | .nx σ,e,σ'=>e= .normal/\Sub σ σ'
 | .ex id σ,e,σ'=>e= .exit id/\Sub σ σ'
 | .rt r,e,σ'=>e= .ret/\Qf r σ'
 | .top r,e,σ'=>(e= .ret\/e= .normal)/\Qf r σ'
 | .no,_,_=>False
inductive Kd (ρ:Type):Type->Type 1 where
 |e:Kd ρ Empty
 |one {γ:Type} (o:γ->Sh ρ):Kd ρ γ
 |two {γ δ:Type} (o:γ->Sh ρ) (o':δ->Sh ρ):Kd ρ (γ⊕δ)
 |tri {γ δ ε:Type} (o:γ->Sh ρ) (o':δ->Sh ρ) (o'':ε->Sh ρ):Kd ρ (γ⊕(δ⊕ε))
def Kd.sh {ρ:Type}:{γ:Type}->Kd ρ γ->γ->Sh ρ
 |_,.e,w=>w.elim
 |_,.one o,w=>o w
 |_,.two o _,.inl w=>o w
 |_,.two _ o,.inr w=>o w
 |_,.tri o _ _,.inl w=>o w
 |_,.tri _ o _,.inr (.inl w)=>o w
 |_,.tri _ _ o,.inr (.inr w)=>o w
def Kd.all {ρ:Type}:{γ:Type}->Kd ρ γ->(γ->Sh ρ->Tr)->Tr
 |_,.e,_=>.ok
 |_,.one o,F=>.all fun w=>F w (o w)
 |_,.two o o',F=>.and (.all fun w=>F (.inl w) (o w)) (.all fun w=>F (.inr w) (o' w))
 |_,.tri o o' o'',F=>.and (.all fun w=>F (.inl w) (o w)) (.and (.all fun w=>F (.inr (.inl w)) (o' w)) (.all fun w=>F (.inr (.inr w)) (o'' w)))
theorem Kd.dE4 {ρ:Type}:∀{γ:Type}{k:Kd ρ γ}{F:γ->Sh ρ->Tr},(k.all F).den->∀w,(F w (k.sh w)).den
 |_,.e,_,_,w=>w.elim
 |_,.one o,_,h,w=>h w
 |_,.two o o',_,h,.inl w=>h.1 w
 |_,.two o o',_,h,.inr w=>h.2 w
 |_,.tri o o' o'',_,h,.inl w=>h.1 w
 |_,.tri o o' o'',_,h,.inr (.inl w)=>h.2.1 w
 |_,.tri o o' o'',_,h,.inr (.inr w)=>h.2.2 w
def noE:List K->Bool
 |[]=>true
 | .c _::r=>noE r
 | .e _::_=>false
def eF6 {ρ:Type}:Out ρ->Out ρ
 | .nx _=>.no
 | .top _=>.no
 |o=>o
def df3 {ρ:Type}(σ:St):Sh ρ->Out ρ
 | .nx l=>.nx (upd l σ)
 | .ex id l=>.ex id (upd l σ)
 | .rt r=>.rt r
def er3 {ρ:Type}(σ:St):Sh ρ->Out ρ
 | .nx _=>.no
 | .ex id l=>.ex id (upd l σ)
 | .rt r=>.rt r
def cont {ρ:Type}(ks:List K)(σ:St):Sh ρ->Cg ρ
 | .nx l=>.S ks (upd l σ)
 | .ex id l=>match bv4 id ks with
  |some ks'=>.S ks' (upd l σ)
  |none=>.X id (upd l σ)
 | .rt r=>.R r
def aj1:Code->List Nat
 | .region _ ops _=>aW4 ops.toList
 | .seq x y=>aj1 x++aj1 y
 | .cond _ x y=>aj1 x++aj1 y
 | .block _ x=>aj1 x
 | .loop x=>aj1 x
 | .scope x=>aj1 x
 |_=>[]
def fgT (id:Nat):List (Nat×T)->List (Nat×T)
 |[]=>[]
 |(k,x)::r=>bif names id x then fgT id r else(k,x)::fgT id r
def fgL (id:Nat):List T->List T
 |[]=>[]
 |x::r=>(bif names id x then .any else x)::fgL id r
def fgB (id:Nat):G3->G3
 | .box ts=>.box (fgL id ts)
 |b=>b
def fgH (id:Nat):List (Nat×G3)->List (Nat×G3)
 |[]=>[]
 |(k,b)::r=>bif bM1 k id then fgH id r else(k,fgB id b)::fgH id r
def uniq:List (Nat×G3)->Bool
 |[]=>true
 |(k,_)::r=>(look r k).isNone&&uniq r
inductive Z1 where
 |fr (id:Nat)
 |fb (id:Nat)
 |np (k id e sz:Nat) (path:List Nat)
 |nb (b id e sz:Nat) (path:List Nat)
 |rn (h:List (Nat×Nat))
 |dr (id:Nat)
def idn (h:List (Nat×Nat)):List (Nat×G3)->List (Nat×Nat)
 |[]=>[]
 |(i,_)::r=>match look h i with
  |some _=>idn h r
  |none=>(i,i)::idn h r
def rdT (h:List (Nat×Nat)):List (Nat×T)->List (Nat×T)
 |[]=>[]
 |(k,x)::r=>match aM7 h x with
  |some _=>(k,x)::rdT h r
  |none=>rdT h r
def Z1.ap (tm:List (Nat×T))(hp:List (Nat×G3)):Z1->Option St
 | .fr id=>match look hp id with
  |some (.rows _ _ n rs)=>some ⟨cp7 id (.t (.sl n rs)) tm,bn8 id (.t (.sl n rs)) hp⟩
  |_=>none
 | .fb id=>match look hp id with
  |some (.box ts)=>match trees ts with
   |some c=>some ⟨dW6 id c tm,cu9 id c hp⟩
   |none=>none
  |_=>none
 | .np k id e sz path=>match look tm k with
  |some t=>match bK8 id path t with
   |some u=>bif bd5 id big&&(M9 id tm&&M0 id hp)then some ⟨(k,u)::tm,(id,.rows e sz 0 [])::hp⟩else none
   |none=>none
  |none=>none
 | .nb b id e sz path=>match look hp b with
  |some (.box ts)=>match bK8 id path (.agg ts)with
   |some (.agg us)=>bif bd5 id big&&(M9 id tm&&M0 id hp)then some ⟨tm,(id,.rows e sz 0 [])::at7 hp b (.box us)⟩else none
   |_=>none
  |_=>none
 | .rn h=>match h++idn h hp with
  |h'=>bif uniq hp&&cB7 h' then(match cS9 h' (rdT h' (rmv [] tm)),aS4 h' hp with
   |some tm',some Z4=>some ⟨tm',Z4⟩
   |_,_=>none)else none
 | .dr id=>bif uniq hp then some ⟨fgT id (rmv [] tm),fgH id hp⟩else none
inductive U1:Type->Type 1 where
 |ap {α:Type} (enc:α->List Tree) (l r:List α) (id:Nat):U1 (List α)
 |an {α:Type} (enc:α->List Tree) (n:Int) (z:α) (id:Nat):U1 (List α)
 |st {α:Type} (enc:α->List Tree) (l:List α) (i:Int) (y:α) (n:Nat):U1 (List α)
 |sF {α:Type} (enc:α->List Tree) (l:List α) (a b:Int):U1 (List α)
 |sO {α:Type} (enc:α->List Tree) (l:List α) (b:Int) (id:Nat):U1 (List α)
 |cp {α:Type} (enc:α->List Tree) (l r:List α):U1 (List α)
def U1.m:{τ:Type}->U1 τ->Option τ
 |_,.ap _ l r _=>U5 l r
 |_,.an _ n z _=>cV5 n z
 |_,.st _ l i y _=>am4 l i y
 |_,.sF _ l a b=>ay4 l a b
 |_,.sO _ l b _=>ay4 l 0 b
 |_,.cp _ l r=>some (aJ2 l r)
def U1.k:{τ:Type}->U1 τ->τ->List GF->List GF
 |_,.st enc _ i y _,l,Γ=>⟨enc,l,i,y⟩::Γ
 |_,_,_,Γ=>Γ
def dg2 {α:Type}(enc:α->List Tree)(r:List α)(sz:Nat)(hp:List (Nat×G3)):Option T->Tr
 |some (.t (.sl _ rs))=>tq rs (r.map enc)
 |some (.own i2)=>match look hp i2 with
  |some (.rows _ s2 _ rs)=>bif bM1 s2 sz then tq rs (r.map enc)else .bad
  |_=>.bad
 |_=>.bad
def U1.q (C4:Tab)(nt:Nat)(Γ:List GF)(tm:List (Nat×T))(hp:List (Nat×G3))(o:Oper):{τ:Type}->U1 τ->Option (Tr×(τ->St))
 |_,.ap enc l r id=>match o.op,o.dst with
  | .call ⟨.builtin .append,args,tys⟩,some d=>match args.toList,tys.toList with
   |[s,x],[t,t']=>match look C4 t with
    |some ⟨_,.slice e,_⟩=>match look C4 e with
     |some te=>bif bM1 t t'&&bd5 d nt&&bM1 te.zero.length te.size&&bd5 id big&&M9 id (fgT id (rmv [] tm))&&M0 id (fgH id hp)&&uniq hp then
       some (.and (tq (α:=_->Nat) (fun y=>(enc y).length) (fun _=>te.size)) (.and (tq (α:=_->Bool) (fun y=>(enc y).all aQ0) (fun _=>true)) (.and (dg2 enc r te.size hp (val tm x)) (match val tm s with
        |some (.own i)=>match look hp i with
         |some (.rows e' sz _ rs)=>bif bM1 i id&&bM1 e' e&&bM1 sz te.size then tq rs (l.map enc)else .bad
         |_=>.bad
        |some (.t (.v (.slice none 0 0)))=>tq l []
        |_=>.bad))),fun y=>⟨(d,.own id)::fgT id (rmv [] tm),(id,.rows e te.size y.length (y.map enc))::fgH id hp⟩)
      else none
     |none=>none
    |_=>none
   |_,_=>none
  |_,_=>none
 |_,.an enc n z id=>match o.op,o.dst with
  | .call ⟨.builtin .append,args,tys⟩,some d=>match args.toList,tys.toList with
   |[s,x],[t,u]=>match look C4 t,look C4 u,val tm s,val tm x with
    |some ⟨_,.slice e,_⟩,some ⟨_,.int _,_⟩,some (.t (.v (.slice none 0 0))),some (.t (.v (.int _ n')))=>match look C4 e with
     |some te=>bif bd5 d nt&&bM1 te.zero.length te.size&&bd5 0 te.size&&bd5 id big&&M9 id tm&&M0 id hp then
       some (.and (tq n' n) (tq (enc z) (te.zero.map fun v=>aE1 (.v v))),fun y=>⟨(d,.own id)::tm,(id,.rows e te.size y.length (y.map enc))::hp⟩)
      else none
     |none=>none
    |_,_,_,_=>none
   |_,_=>none
  |_,_=>none
 |_,.st enc l i y n=>match o.op,o.dst,Γ[n]?with
  | .store t p x,none,some f=>match val tm p,look C4 t,(val tm x).bind (ap6 hp)with
   |some (.pe id i' sz off),some ti,some cs=>match look hp id,trees cs with
    |some (.rows e sz' n' rs),some lt=>bif bM1 sz sz'&&bM1 lt.length ti.size&&dO2 (off+lt.length) sz then
      some (.and (.eq (.gf ⟨f.enc,f.l,f.i⟩) (.gf ⟨enc,l,i⟩)) (.and (tq (i',rs) (i.toNat,l.map enc)) (.eq (.mk (enc y)) (.mk (bF0 (f.enc f.y) off lt)))),fun l'=>⟨tm,at7 hp id (.rows e sz l'.length (l'.map enc))⟩)
     else none
    |_,_=>none
   |_,_,_=>none
  |_,_,_=>none
 |_,.sF enc l a b=>match o.op,o.dst with
  | .slice t x lo hi none,some d=>match look C4 t,val tm x,cw3 tm 0 lo,cw3 tm l.length hi with
   |some ⟨_,.slice e,_⟩,some (.t (.sl _ rs)),some a',some b'=>match look C4 e with
    |some te=>bif bd5 d nt then some (.and (tq rs (l.map enc)) (.and (tq (a',b') (a,b)) (tq (α:=_->Nat) (fun y=>(enc y).length) (fun _=>te.size))),fun y=>⟨(d,.t (.sl y.length (y.map enc)))::tm,hp⟩)else none
    |none=>none
   |_,_,_,_=>none
  |_,_=>none
 |_,.sO enc l b id=>match o.op,o.dst with
  | .slice t x none hi none,some d=>match look C4 t,val tm x,cw3 tm l.length hi with
   |some ⟨_,.slice e',_⟩,some (.own i),some b'=>match look C4 e',look hp i with
    |some te,some (.rows e sz _ rs)=>bif bd5 d nt&&bM1 te.size sz&&bd5 id big&&M9 id (fgT i (rmv [] tm))&&M0 id (fgH i hp)&&M0 i (fgH i hp)&&uniq hp then
      some (.and (tq rs (l.map enc)) (tq b' b),fun y=>⟨(d,.own id)::fgT i (rmv [] tm),(id,.rows e sz y.length (y.map enc))::fgH i hp⟩)
     else none
    |_,_=>none
   |_,_,_=>none
  |_,_=>none
 |_,.cp enc l r=>match o.op with
  | .call ⟨.builtin .copy,args,tys⟩=>match args.toList,tys.toList with
   |[s,x],[t,_]=>match look C4 t,val tm s,bv5 nt o.dst (.t (.v (.int .i64 (min r.length l.length:Nat)))) ⟨tm,[]⟩with
    |some ⟨_,.slice e',_⟩,some (.own id),some ⟨tm',_⟩=>match look C4 e',look hp id with
     |some te,some (.rows e sz _ rs)=>bif bM1 sz te.size then
       some (.and (tq (α:=_->Nat) (fun y=>(enc y).length) (fun _=>te.size)) (.and (tq (α:=_->Bool) (fun y=>(enc y).all aQ0) (fun _=>true)) (.and (dg2 enc r te.size hp (val tm x)) (tq rs (l.map enc)))),fun y=>⟨tm',at7 hp id (.rows e te.size y.length (y.map enc))⟩)
      else none
     |_,_=>none
    |_,_,_=>none
   |_,_=>none
  |_=>none
def U1.qA (C4:Tab)(nt:Nat)(tm:List (Nat×T))(hp:List (Nat×G3))(o:Oper){α:Type}(enc:α->List Tree)(l r:List α)(id:Nat):Option (Tr×(List α->T×Option (Nat×G3))):=
 match o.op,o.dst with
 | .call ⟨.builtin .append,args,tys⟩,some d=>match args.toList,tys.toList with
  |[s,x],[t,t']=>match look C4 t with
   |some ⟨_,.slice e,_⟩=>match look C4 e with
    |some te=>match val tm s,look hp id with
     |some (.t (.v v)),some (.rv v' e' sz n rs)=>bif bM1 t t'&&bd5 d nt&&bM1 te.zero.length te.size&&bd5 id big&&bM1 e' e&&bM1 sz te.size then
       some (.and (tq v v') (.and (tq rs (l.map enc)) (.and (tq (α:=_->Nat) (fun y=>(enc y).length) (fun _=>te.size)) (.and (tq (α:=_->Bool) (fun y=>(enc y).all aQ0) (fun _=>true)) (dg2 enc r te.size hp (val tm x))))),fun y=>(.own id,some (id,.rows e te.size y.length (y.map enc))))
      else none
     |_,_=>none
    |none=>none
   |_=>none
  |_,_=>none
 |_,_=>none
def U1.qD (C4:Tab)(nt:Nat)(Γ:List GF)(tm:List (Nat×T))(hp:List (Nat×G3))(o:Oper):{τ:Type}->U1 τ->Option (Tr×(τ->T×Option (Nat×G3)))
 |_,.st enc l i y n=>match(U1.st enc l i y n).q C4 nt Γ tm hp o with
  |some (t,_)=>match o.op,o.dst with
   | .store _ p _,none=>match val tm p with
    |some (.pe id _ sz _)=>match look hp id with
     |some (.rows e _ _ _)=>some (t,fun l'=>(.t (.v undef),some (id,.rows e sz l'.length (l'.map enc))))
     |_=>none
    |_=>none
   |_,_=>none
  |none=>none
 |_,.ap enc l r id=>U1.qA C4 nt tm hp o enc l r id
 |_,_=>none
def mtT:T->T->List (Nat×Nat)
 | .own i,.own j=>[(i,j)]
 | .ptr i _,.ptr j _=>[(i,j)]
 | .pe i _ _ _,.pe j _ _ _=>[(i,j)]
 | .agg l,.agg l'=>mtL l l'
 | .P9 l,.P9 l'=>mtL l l'
 | .clo _ l,.clo _ l'=>mtL l l'
 |_,_=>[]
where mtL:List T->List T->List (Nat×Nat)
 |x::l,y::l'=>mtT x y++mtL l l'
 |_,_=>[]
def fb0 (i:Nat):List (Nat×Nat)->Bool
 |[]=>false
 |p::r=>bif bM1 p.1 i then true else fb0 i r
def dd1:List (Nat×Nat)->List (Nat×Nat)->List (Nat×Nat)
 |[],l=>l
 |p::r,l=>bif fb0 p.1 l then dd1 r l else dd1 r (l++[p])
def mtH (h h':List (Nat×G3)):List (Nat×Nat)->List (Nat×Nat)
 |[]=>[]
 |(i,j)::r=>(match look h i,look h' j with
  |some (.box ts),some (.box us)=>mtT.mtL ts us
  |_,_=>[])++mtH h h' r
def dQ5 (aC6:List T)(chp:List (Nat×G3))(targs:List T)(hp:List (Nat×G3)):List (Nat×Nat):=
 match dd1 (mtT.mtL aC6 targs) []with
 |l=>match dd1 (mtH chp hp l) l with
  |l=>dd1 (mtH chp hp l) l
structure Mq (P:Program)(κ ν:Type)where
 beq:BEq κ
 t:Nat
 kt:Nat
 et:Nat
 dk:TypeDesc
 f:κ->Value
 g:ν->Value
 z:ν
 law:@KeyLaw κ beq dk f
 ht:P.underlying t=some (.map kt et)
 hk:P.underlying kt=some dk
 hz:∃ti,P.info? et=some ti/\ti.zero=some (g z)
inductive M (P:Program)(ρ:Type):Type->Type 1 where
 |R {τ:Type} (v:τ):M P ρ τ
 |N {τ:Type}:M P ρ τ
 |I {τ:Type} (b:Bool) (x y:M P ρ τ):M P ρ τ
 |K {β τ:Type} (c:C P β) (f:β->M P ρ τ):M P ρ τ
 |KG {β τ:Type} (c:CG P β) (nm:List Nat) (f:β->M P ρ τ):M P ρ τ
 |O {β τ:Type} (l:L1 β) (f:β->M P ρ τ):M P ρ τ
 |W {τ:Type} (u:W1) (x:M P ρ τ):M P ρ τ
 |U {β τ:Type} (u:U1 β) (f:β->M P ρ τ):M P ρ τ
 |Mk {α τ:Type} (enc:α->List Tree) (n:Int) (z:α) (f:List α->M P ρ τ):M P ρ τ
 |Z (z:Z1) {τ:Type} (x:M P ρ τ):M P ρ τ
 |G {τ:Type} (b:Bool) (x y:M P ρ Bool) (f:Bool->M P ρ τ):M P ρ τ
 |J0 {β τ:Type} (n:Nat) (o:β->List Ch) (x:M P ρ β) (f:β->M P ρ τ):M P ρ τ
 |J {β γ τ:Type} (n:Nat) (o:β->List Ch) (k:Kd ρ γ) (x:M P ρ (β⊕γ)) (f:β->M P ρ τ) (g:γ->M P ρ τ):M P ρ τ
 |JF {S γ:Type} (n:Nat) (o:S->List Ch) (x:M P ρ (Fl S γ)) (i:Int):M P ρ ((Int×S)⊕(S⊕γ))
 |L {S γ τ:Type} (hd:S->List Ch) (N:Nat) (k:Kd ρ γ) (x:S->M P ρ (S⊕(S⊕γ))) (s:S) (f:S->M P ρ τ) (g:γ->M P ρ τ):M P ρ τ
 |LQ {S γ τ:Type} (ri:Nat) (hd:S->List Ch) (N:Nat) (k:Kd ρ γ) (x:Int×S->M P ρ ((Int×S)⊕(S⊕γ))) (s:S) (f:S->M P ρ τ) (g:γ->M P ρ τ):M P ρ τ
 |A {α τ:Type} (enc:α->List Tree) (l:List α) (i:Int) (f:α->M P ρ τ):M P ρ τ
 |B {τ:Type} (x:M P ρ τ):M P ρ τ
 |D {τ:Type} (fz:List Nat) (ws:List (Nat×Nat)) (x:M P ρ τ):M P ρ τ
 |Sp {τ:Type} (b:Bool) (x y:M P ρ τ):M P ρ τ
 |Mm {τ:Type} (id:Nat) (x:M P ρ τ):M P ρ τ
 |Ml {κ ν τ:Type} (m:Mq P κ ν) (l:List (κ×ν)) (k:κ) (x:M P ρ τ):M P ρ τ
 |Mu {κ ν τ:Type} (m:Mq P κ ν) (l:List (κ×ν)) (k:κ) (v:ν) (x:M P ρ τ):M P ρ τ
 |Pn {τ:Type} (id:Nat) (x:M P ρ τ):M P ρ τ
 |Nl {α τ:Type} (enc:α->List Tree) (l:List α) (x:M P ρ τ) (y:List α->M P ρ τ):M P ρ τ
def M.run {P:Program}{ρ:Type}:{τ:Type}->M P ρ τ->Option τ
 |_,.R v=>some v
 |_,.N=>none
 |_,.I b x y=>bif b then x.run else y.run
 |_,.K c f=>c.m.bind fun t=>(f t).run
 |_,.KG c _ f=>c.m.bind fun t=>(f t).run
 |_,.O l f=>l.m.bind fun t=>(f t).run
 |_,.W _ x=>x.run
 |_,.U u f=>u.m.bind fun t=>(f t).run
 |_,.Mk _ n z f=>(aS0 n z).bind fun t=>(f t).run
 |_,.Z _ x=>x.run
 |_,.G b x y f=>(bif b then x.run else y.run).bind fun t=>(f t).run
 |_,.J0 _ _ x f=>x.run.bind fun t=>(f t).run
 |_,.J _ _ _ x f g=>x.run.bind fun t=>match t with| .inl t=>(f t).run| .inr t=>(g t).run
 |_,.JF _ _ x i=>x.run.bind (az5 i)
 |_,.L _ _ _ x s f g=>(L5 (fun s=>(x s).run) s).bind fun t=>match t with| .inl t=>(f t).run| .inr t=>(g t).run
 |_,.LQ _ _ _ _ x s f g=>(L5 (fun s=>(x s).run) (0,s)).bind fun t=>match t with| .inl t=>(f t).run| .inr t=>(g t).run
 |_,.A _ l i f=>(D4 l i).bind fun t=>(f t).run
 |_,.B x=>x.run
 |_,.D _ _ x=>x.run
 |_,.Sp b x y=>bif b then x.run else y.run
 |_,.Nl _ l _ y=>(y l).run
 |_,.Mm _ x=>x.run
 |_,.Pn _ x=>x.run
 |_,.Ml _ _ _ x=>x.run
 |_,.Mu _ _ _ _ x=>x.run
def M.rn {P:Program}{ρ:Type}(k:Nat):{τ:Type}->M P ρ τ->Option τ
 |_,.R v=>some v
 |_,.N=>none
 |_,.I b x y=>bif b then x.rn k else y.rn k
 |_,.K c f=>(c.e k).bind fun t=>(f t).rn k
 |_,.KG c _ f=>(c.e k).bind fun t=>(f t).rn k
 |_,.O l f=>l.m.bind fun t=>(f t).rn k
 |_,.W _ x=>x.rn k
 |_,.U u f=>u.m.bind fun t=>(f t).rn k
 |_,.Mk _ n z f=>(aS0 n z).bind fun t=>(f t).rn k
 |_,.Z _ x=>x.rn k
 |_,.G b x y f=>(bif b then x.rn k else y.rn k).bind fun t=>(f t).rn k
 |_,.J0 _ _ x f=>(x.rn k).bind fun t=>(f t).rn k
 |_,.J _ _ _ x f g=>(x.rn k).bind fun t=>match t with| .inl t=>(f t).rn k| .inr t=>(g t).rn k
 |_,.JF _ _ x i=>(x.rn k).bind (az5 i)
 |_,.L _ _ _ x s f g=>(dw2 (fun s=>(x s).rn k) k s).bind fun t=>match t with| .inl t=>(f t).rn k| .inr t=>(g t).rn k
 |_,.LQ _ _ _ _ x s f g=>(dw2 (fun s=>(x s).rn k) k (0,s)).bind fun t=>match t with| .inl t=>(f t).rn k| .inr t=>(g t).rn k
 |_,.A _ l i f=>(D4 l i).bind fun t=>(f t).rn k
 |_,.B x=>x.rn k
 |_,.D _ _ x=>x.rn k
 |_,.Sp b x y=>bif b then x.rn k else y.rn k
 |_,.Nl _ l _ y=>(y l).rn k
 |_,.Mm _ x=>x.rn k
 |_,.Pn _ x=>x.rn k
 |_,.Ml _ _ _ x=>x.rn k
 |_,.Mu _ _ _ _ x=>x.rn k
theorem aZ6 {α β:Type}{a a':Option α}{f g:α->Option β}{r:β}(ha:∀x,a=some x->a'=some x)(hf:∀x r,f x=some r->g x=some r)(h:a.bind f=some r):a'.bind g=some r:=by
 cases a with
 |none=>cases h
 |some x=>rw[ha x rfl];exact hf x r h
theorem M.le {P:Program}{ρ:Type}(k:Nat):∀{τ:Type} (x:M P ρ τ) (r:τ),x.rn k=some r->x.run=some r
 |_,.R v,r,h=>h
 |_,.N,r,h=>h
 |_,.I b x y,r,h=>by
  cases b
  ·exact M.le k y r h
  ·exact M.le k x r h
 |_,.K c f,r,h=>aZ6 (fun y hy=>c.le k y hy) (fun y r hy=>M.le k (f y) r hy) h
 |_,.KG c _ f,r,h=>aZ6 (fun y hy=>c.le k y hy) (fun y r hy=>M.le k (f y) r hy) h
 |_,.O l f,r,h=>aZ6 (fun y hy=>hy) (fun y r hy=>M.le k (f y) r hy) h
 |_,.W _ x,r,h=>M.le k x r h
 |_,.U l f,r,h=>aZ6 (fun y hy=>hy) (fun y r hy=>M.le k (f y) r hy) h
 |_,.Mk _ _ _ f,r,h=>aZ6 (fun y hy=>hy) (fun y r hy=>M.le k (f y) r hy) h
 |_,.Z _ x,r,h=>M.le k x r h
 |_,.G b x y f,r,h=>aZ6 (fun z hz=>by
   cases b
   ·exact M.le k y z hz
   ·exact M.le k x z hz) (fun y r hy=>M.le k (f y) r hy) h
 |_,.J0 _ _ x f,r,h=>aZ6 (fun z hz=>M.le k x z hz) (fun y r hy=>M.le k (f y) r hy) h
 |_,.J _ _ _ x f g,r,h=>by
  rw[M.rn]at h
  rw[M.run]
  refine aZ6 (fun z hz=>M.le k x z hz) (fun y r hy=>?_) h
  cases y with
  |inl y=>exact M.le k (f y) r hy
  |inr y=>exact M.le k (g y) r hy
 |_,.JF _ _ x i,r,h=>aZ6 (fun z hz=>M.le k x z hz) (fun y r hy=>hy) h
 |_,.L _ _ _ x s f g,r,h=>by
  rw[M.rn]at h
  rw[M.run]
  refine aZ6 (fun z hz=>aV4.2 (cP8 (fun s f hf=>M.le k (x s) f hf) hz)) (fun y r hy=>?_) h
  cases y with
  |inl y=>exact M.le k (f y) r hy
  |inr y=>exact M.le k (g y) r hy
 |_,.LQ _ _ _ _ x s f g,r,h=>by
  rw[M.rn]at h
  rw[M.run]
  refine aZ6 (fun z hz=>aV4.2 (cP8 (fun s f hf=>M.le k (x s) f hf) hz)) (fun y r hy=>?_) h
  cases y with
  |inl y=>exact M.le k (f y) r hy
  |inr y=>exact M.le k (g y) r hy
 |_,.A _ _ _ f,r,h=>aZ6 (fun y hy=>hy) (fun y r hy=>M.le k (f y) r hy) h
 |_,.B x,r,h=>M.le k x r h
 |_,.D _ _ x,r,h=>M.le k x r h
 |_,.Sp b x y,r,h=>by
  cases b
  ·exact M.le k y r h
  ·exact M.le k x r h
 |_,.Nl _ l _ y,r,h=>M.le k (y l) r h
 |_,.Mm _ x,r,h=>M.le k x r h
 |_,.Pn _ x,r,h=>M.le k x r h
 |_,.Ml _ _ _ x,r,h=>M.le k x r h
 |_,.Mu _ _ _ _ x,r,h=>M.le k x r h
def dl6 {ρ:Type}(Qf:ρ->St->Tr):Cg ρ->Out ρ->Tr
 | .S [] σ,.nx σ₁=>dA6 σ₁ σ
 | .S [] σ,.top r=>Qf r σ
 | .S (.c .ret::_) σ,.rt r=>Qf r σ
 | .S (.c .ret::_) σ,.top r=>Qf r σ
 | .X id σ,.ex id' σ₁=>bif bM1 id id' then dA6 σ₁ σ else .bad
 | .R r,.rt r'=>tq r r'
 | .R r,.top r'=>tq r r'
 |_,_=>.bad
def eD4 (all:List Oper)(tm:List (Nat×T))(ops:List Oper):Option (Nat×Bool×List Oper×Nat×List Oper):=match ops with
 |[]=>none
 |o::_=>match o.guard with
  |none=>none
  |some (j,_)=>match all[j]?with
   |none=>none
   |some oj=>match oj.dst with
    |none=>none
    |some d=>match look tm d,cut d ops with
     |some (.t (.v (.bool b))),some (g,q,_,r)=>some (d,b,g,q,r)
     |_,_=>none
def M.isJ {P:Program}{ρ:Type}:{τ:Type}->M P ρ τ->Bool
 |_,.J0 0 _ _ _=>true
 |_,.J 0 _ _ _ _ _=>true
 |_,.B _=>true
 |_,.Z _ x=>x.isJ
 |_,.Pn _ x=>x.isJ
 |_,.D _ _ x=>x.isJ
 |_,_=>false
def M.isD {P:Program}{ρ:Type}:{τ:Type}->M P ρ τ->Bool
 |_,.Z _ x=>x.isD
 |_,.Pn _ _=>true
 |_,.D _ _ _=>true
 |_,.J0 (_+1) _ _ _=>true
 |_,_=>false
def dM5:List Nat->List Nat->List (Nat×Nat)
 |x::l,y::l'=>(x,y)::dM5 l l'
 |_,_=>[]
def M.chk {P:Program}{ρ:Type}(Ev:EqV P)(C4:Tab)(nt:Nat)(Qf:ρ->St->Tr):{τ:Type}->M P ρ τ->List GF->Cg ρ->(τ->Out ρ)->Tr
 |_,.R v,_,c,o=>dl6 Qf (av C4 nt true true fuel c) (o v)
 |_,.N,_,_,_=>.ok
 |_,.I b x y,Γ,c,o=>match av C4 nt true true fuel c with
  | .S (.c (.cond q z w)::ks) σ=>match val σ.tm q with
   |some (.t (.v (.bool b')))=>.and (tq b' b) (.and (x.chk Ev C4 nt Qf Γ (.S (.c z::ks) σ) o) (y.chk Ev C4 nt Qf Γ (.S (.c w::ks) σ) o))
   |_=>.bad
  |_=>.bad
 |_,.K f x,Γ,c,o=>match here (av C4 nt true true fuel c)with
  |some (all,kb,q,tm,hp,_,nx)=>match gk all.toList kb tm q.guard,cL9 tm hp q with
   |some true,some (n,l,s,d)=>bif bd5 d nt then
     .and (tq (n,l) (f.n,f.args)) (.and (bif s then tq (α:=_->Bool) (fun t=>scalar (f.res t)) (fun _=>true)else .ok) (.all fun t=>(x t).chk Ev C4 nt Qf Γ (nx (f.res t) none) o))
    else .bad
   |_,_=>.bad
  |none=>.bad
 |_,.KG f nm x,Γ,c,o=>match av C4 nt true true fuel c with
  | .O all kb (q::r) ks ⟨tm,hp⟩=>match gk all.toList kb tm q.guard,bD3 tm q,q.dst with
   |some true,some (n,targs),some d=>match dQ5 f.args f.hp targs hp with
    |lm=>match bT8 lm f.args,aS4 lm f.hp with
     |some am5,some aO2=>bif bM1 n f.n&&bd5 d nt&&bp1 lm (dM5 f.nw nm) tm hp then
       .and (tq (bB2 targs am5) am5) (.and (tq (aO2.map (bE4 hp)) (aO2.map fun p=>some p.2)) (.all fun t=>match aM7 (lm++dM5 f.nw nm) (f.res t),aS4 (lm++dM5 f.nw nm) (f.Z4 t)with
        |some rt,some rh=>(x t).chk Ev C4 nt Qf Γ (.O all kb r ks ⟨(d,rt)::tm,rh++aq0 lm hp⟩) o
        |_,_=>.bad))
      else .bad
     |_,_=>.bad
   |_,_,_=>.bad
  | .D id all h bs ws ops vs tm0 hp0 fz kb ks=>match here (ρ:=ρ) (.D id all h bs ws ops vs tm0 hp0 fz kb ks)with
   |some (all,kb,q,tm,hp,_,nx)=>match gk all.toList kb tm q.guard,bD3 tm q,q.dst with
    |some true,some (n,targs),some d=>match nm with
     |[c]=>match f.hp,look hp c with
      |[],_=>match bT8 [] f.args with
       |some am5=>bif bM1 n f.n&&bd5 d nt&&bd5 c big then
         .and (tq (bB2 targs am5) am5) (.all fun t=>match f.Z4 t with
          |[(r1,.rows e2 sz2 n2 rs2)]=>match aM7 [(r1,c)] (f.res t)with
           |some rt=>(x t).chk Ev C4 nt Qf Γ (nx rt (some (c,.rows e2 sz2 n2 rs2))) o
           |none=>.bad
          |_=>.bad)
        else .bad
       |none=>.bad
      |[(b1,.rows e sz n1 rs)],some (.rv v' e' sz' n1' rs')=>bif bM1 n f.n&&bd5 d nt&&bd5 c big&&dx8 b1 f.args then
        .and (tq (bB2 targs (aZ2 b1 (.t (.v v')) f.args)) (aZ2 b1 (.t (.v v')) f.args)) (.and (tq (e,sz,n1,rs) (e',sz',n1',rs')) (.all fun t=>match f.Z4 t with
         |[(r1,.rows e2 sz2 n2 rs2)]=>match aM7 [(r1,c)] (f.res t)with
          |some rt=>(x t).chk Ev C4 nt Qf Γ (nx rt (some (c,.rows e2 sz2 n2 rs2))) o
          |none=>.bad
         |_=>.bad))
       else .bad
      |_,_=>.bad
     |_=>match dQ5 f.args f.hp targs hp with
     |lm=>match bT8 lm f.args,aS4 lm f.hp with
      |some am5,some aO2=>bif bM1 n f.n&&bd5 d nt&&bp1 lm [] [] []&&lm.all (fun p=>(look aO2 p.2).isSome)then
        .and (tq (bB2 targs am5) am5) (.and (tq (aO2.map fun p=>look hp p.1) (aO2.map fun p=>some p.2)) (.all fun t=>.and (tq (f.Z4 t) f.hp) (match aM7 lm (f.res t)with
         |some rt=>(x t).chk Ev C4 nt Qf Γ (nx rt none) o
         |none=>.bad)))
       else .bad
      |_,_=>.bad
    |_,_,_=>.bad
   |none=>.bad
  |_=>.bad
 |_,.O l x,Γ,c,o=>match here (av C4 nt true true fuel c)with
  |some (all,kb,q,tm,hp,_,nx)=>match gk all.toList kb tm q.guard,l.q C4 tm hp q.op,q.dst with
   |some true,some (t,res),some d=>bif bd5 d nt then .and t (.all fun y=>(x y).chk Ev C4 nt Qf (l.k y Γ) (nx (res y) none) o)else .bad
   |_,_,_=>.bad
  |none=>.bad
 |_,.W u x,Γ,c,o=>match here (av C4 nt true true fuel c)with
  |some (all,kb,q,tm,hp,_,nx)=>match gk all.toList kb tm q.guard,u.q Ev C4 Γ tm hp q.op,q.dst with
   |some true,some (t,V),some d=>bif bd5 d nt then .and t (x.chk Ev C4 nt Qf Γ (nx V none) o)else .bad
   |_,_,_=>.bad
  |none=>.bad
 |_,.U u x,Γ,c,o=>match av C4 nt true true fuel c with
  | .O all kb (q::r) ks ⟨tm,hp⟩=>match gk all.toList kb tm q.guard,u.q C4 nt Γ tm hp q with
   |some true,some (t,σ)=>.and t (.all fun y=>(x y).chk Ev C4 nt Qf (u.k y Γ) (.O all kb r ks (σ y)) o)
   |_,_=>.bad
  | .D id all h bs ws ops vs tm0 hp0 fz kb ks=>match here (ρ:=ρ) (.D id all h bs ws ops vs tm0 hp0 fz kb ks)with
   |some (all,kb,q,tm,hp,_,nx)=>match gk all.toList kb tm q.guard,u.qD C4 nt Γ tm hp q with
    |some true,some (t,f)=>.and t (.all fun y=>(x y).chk Ev C4 nt Qf (u.k y Γ) (nx (f y).1 (f y).2) o)
    |_,_=>.bad
   |none=>.bad
  |_=>.bad
 |_,.Mk enc n z x,Γ,c,o=>match here (av C4 nt true true fuel c)with
  |some (all,kb,q,tm,hp,fz,nx)=>match gk all.toList kb tm q.guard,q.op,q.dst with
   |some true,.makeSlice t a b,some d=>match val tm a,val tm b,look C4 t with
    |some (.t (.v (.int k n'))),some (.t (.v (.int k2 n2))),some ⟨_,.slice e,_⟩=>match look C4 e with
     |some te=>bif bd5 d nt&&bM1 te.zero.length te.size&&bd5 0 te.size&&bd5 d big&&M9 d tm&&M0 d hp then
       .and (tq (n',k2,n2) (n,k,n)) (.and (tq (enc z) (te.zero.map fun v=>aE1 (.v v))) (.all fun y=>(x y).chk Ev C4 nt Qf Γ (bif aD5 d fz then nx (.t (.sl y.length (y.map enc))) none else nx (.own d) (some (d,.rows e te.size y.length (y.map enc)))) o))
      else .bad
     |none=>.bad
    |_,_,_=>.bad
   |_,_,_=>.bad
  |none=>.bad
 |_,.Z z x,Γ,c,o=>match av C4 nt (!x.isJ) (!x.isD) fuel c with
  | .S ks ⟨tm,hp⟩=>match z.ap tm hp with
   |some σ=>x.chk Ev C4 nt Qf Γ (.S ks σ) o
   |none=>.bad
  | .O all kb ops ks ⟨tm,hp⟩=>match z.ap tm hp with
   |some σ=>x.chk Ev C4 nt Qf Γ (.O all kb ops ks σ) o
   |none=>.bad
  | .X id ⟨tm,hp⟩=>match z.ap tm hp with
   |some σ=>x.chk Ev C4 nt Qf Γ (.X id σ) o
   |none=>.bad
  |_=>.bad
 |_,.G b x y f,Γ,c,o=>match av C4 nt true true fuel c with
  | .O all kb ops ks ⟨tm,hp⟩=>match eD4 all.toList tm ops with
   |some (d,b',g,q,r)=>.and (tq b' b) (.and (x.chk Ev C4 nt Qf Γ (.O all (d::kb) g [] ⟨(d,.t (.v (.bool true)))::tm,hp⟩) (fun v=>.nx ⟨(q,.t (.v (.bool v)))::rmv (d::q::aW4 g) tm,hp⟩))
     (.and (y.chk Ev C4 nt Qf Γ (.O all (d::kb) g [] ⟨(d,.t (.v (.bool false)))::tm,hp⟩) (fun v=>.nx ⟨(q,.t (.v (.bool v)))::rmv (d::q::aW4 g) tm,hp⟩))
     (.all fun v=>(f v).chk Ev C4 nt Qf Γ (.O all kb r ks ⟨(q,.t (.v (.bool v)))::rmv (d::q::aW4 g) tm,hp⟩) o)))
   |none=>.bad
  |_=>.bad
 |_,.J0 n s x f,Γ,c,o=>match(match n with|0=>av C4 nt false true fuel c|_=>av C4 nt true false fuel c)with
  | .S (.c z::ks) σ=>.and (x.chk Ev C4 nt Qf Γ (.S [.c z] σ) (fun v=>.nx (upd (s v) ⟨rmv (aj1 z) σ.tm,σ.hp⟩))) (.all fun v=>(f v).chk Ev C4 nt Qf Γ (.S ks (upd (s v) ⟨rmv (aj1 z) σ.tm,σ.hp⟩)) o)
  |_=>.bad
 |_,.J n s k x f g,Γ,c,o=>match(match n with|0=>av C4 nt false true fuel c|n=>av C4 nt true true n c)with
  | .S (.c z::ks) σ=>.and (x.chk Ev C4 nt Qf Γ (.S [.c z] σ) (fun v=>match v with| .inl v=>.nx (upd (s v) ⟨rmv (aj1 z) σ.tm,σ.hp⟩)| .inr w=>df3 ⟨rmv (aj1 z) σ.tm,σ.hp⟩ (k.sh w)))
    (.and (.all fun v=>(f v).chk Ev C4 nt Qf Γ (.S ks (upd (s v) ⟨rmv (aj1 z) σ.tm,σ.hp⟩)) o) (k.all fun w sh=>(g w).chk Ev C4 nt Qf Γ (cont ks ⟨rmv (aj1 z) σ.tm,σ.hp⟩ sh) o))
  |_=>.bad
 |_,.JF n s x i,Γ,c,o=>match av C4 nt true true n c with
  | .S (.c z::ks) σ=>bif noE ks then .and (x.chk Ev C4 nt Qf Γ (.S [.c z] σ) (fun v=>match v with| .next v=>.nx (upd (s v) ⟨rmv (aj1 z) σ.tm,σ.hp⟩)| .brk v=>eF6 (o (.inr (.inl v)))| .ret w=>eF6 (o (.inr (.inr w)))))
    (.all fun v=>dl6 Qf (av C4 nt true true fuel (.S ks (upd (s v) ⟨rmv (aj1 z) σ.tm,σ.hp⟩))) (o (.inl (o4 (i+1),v))))else .bad
  |_=>.bad
 |_,.L hd nx k x s₀ f g,Γ,c,o=>match av C4 nt true true fuel c with
  | .S (.c (.loop z)::ks) σ=>.and (dA6 (upd (hd s₀) ⟨rmv (aj1 z) σ.tm,σ.hp⟩) σ)
    (.and (.all fun a=>(x a).chk Ev C4 nt Qf Γ (.S [.c z] (upd (hd a) ⟨rmv (aj1 z) σ.tm,σ.hp⟩)) (fun v=>match v with| .inl a'=>.nx (upd (hd a') ⟨rmv (aj1 z) σ.tm,σ.hp⟩)| .inr (.inl a')=>.ex nx (upd (hd a') ⟨rmv (aj1 z) σ.tm,σ.hp⟩)| .inr (.inr w)=>er3 ⟨rmv (aj1 z) σ.tm,σ.hp⟩ (k.sh w)))
    (.and (.all fun a=>(f a).chk Ev C4 nt Qf Γ (cont ks ⟨rmv (aj1 z) σ.tm,σ.hp⟩ (.ex nx (hd a))) o) (k.all fun w sh=>(g w).chk Ev C4 nt Qf Γ (cont ks ⟨rmv (aj1 z) σ.tm,σ.hp⟩ sh) o)))
  |_=>.bad
 |_,.LQ ri hd nx k x s₀ f g,Γ,c,o=>match av C4 nt true true fuel c with
  | .S (.c (.loop z)::ks) σ=>.and (dA6 (upd (.t ri (.t (tI 0))::hd s₀) ⟨rmv (aj1 z) σ.tm,σ.hp⟩) σ)
    (.and (.all fun a=>(x a).chk Ev C4 nt Qf Γ (.S [.c z] (upd (.t ri (.t (tI a.1))::hd a.2) ⟨rmv (aj1 z) σ.tm,σ.hp⟩)) (fun v=>match v with| .inl a'=>.nx (upd (.t ri (.t (tI a'.1))::hd a'.2) ⟨rmv (aj1 z) σ.tm,σ.hp⟩)| .inr (.inl a')=>.ex nx (upd (hd a') ⟨rmv (aj1 z) σ.tm,σ.hp⟩)| .inr (.inr w)=>er3 ⟨rmv (aj1 z) σ.tm,σ.hp⟩ (k.sh w)))
    (.and (.all fun a=>(f a).chk Ev C4 nt Qf Γ (cont ks ⟨rmv (aj1 z) σ.tm,σ.hp⟩ (.ex nx (hd a))) o) (k.all fun w sh=>(g w).chk Ev C4 nt Qf Γ (cont ks ⟨rmv (aj1 z) σ.tm,σ.hp⟩ sh) o)))
  |_=>.bad
 |_,.A enc l i f,Γ,c,o=>.all fun y=>(f y).chk Ev C4 nt Qf (⟨enc,l,i,y⟩::Γ) c o
 |_,.B x,Γ,c,o=>match av C4 nt false true fuel c with
  | .S (.c (.block id z)::ks) σ=>x.chk Ev C4 nt Qf Γ (.S (.c z:: .e id::ks) σ) o
  |_=>.bad
 |_,.D fz ws x,Γ,c,o=>match av C4 nt (!x.isJ) false fuel c with
  | .S (.c (.region id ops true)::ks) σ=>x.chk Ev C4 nt Qf Γ (.D id ops (tlH (bl9 ops.toList []) 0) (bl9 ops.toList []) (dw8 fz 0 (ops.toList.take (tlH (bl9 ops.toList []) 0))++ws) ops.toList [] (rmv (aW4 (ops.toList.take (tlH (bl9 ops.toList []) 0))) σ.tm) σ.hp fz [] ks) o
  |_=>.bad
 |_,.Sp b x y,Γ,c,o=>match av C4 nt true true fuel c with
  | .D id all h bs ws (q::r) vs tm0 hp0 fz kb ks=>match eV9 q vs with
   |some (j,b')=>.and (tq b' b) (.and (x.chk Ev C4 nt Qf Γ (.D id all h bs ws (q::r) (dK8 (.t (.v (.bool true))) j vs) tm0 hp0 fz (kbD all j kb) ks) o) (y.chk Ev C4 nt Qf Γ (.D id all h bs ws (q::r) (dK8 (.t (.v (.bool false))) j vs) tm0 hp0 fz (kbD all j kb) ks) o))
   |none=>.bad
  | .O all kb (q::r) ks ⟨tm,hp⟩=>match eV8 all.toList tm q with
   |some (d,b')=>.and (tq b' b) (.and (x.chk Ev C4 nt Qf Γ (.O all (d::kb) (q::r) ks ⟨(d,.t (.v (.bool true)))::tm,hp⟩) o) (y.chk Ev C4 nt Qf Γ (.O all (d::kb) (q::r) ks ⟨(d,.t (.v (.bool false)))::tm,hp⟩) o))
   |none=>.bad
  |_=>.bad
 |_,.Nl enc l x y,Γ,c,o=>match av C4 nt true true fuel c with
  | .O all kb (q::r) ks ⟨tm,hp⟩=>match gk all.toList kb tm q.guard,q.op,q.dst with
   |some true,.binOp .eql t z (.const (.slice none 0 0)) _,some d=>match look C4 t,val tm z with
    |some ⟨_,.slice _,_⟩,some (.t (.sl _ rs))=>bif bd5 d nt then
      .and (tq rs (l.map enc)) (.and (tq x.run (y []).run) (.and (x.chk Ev C4 nt Qf Γ (.O all kb r ks ⟨(d,.t (.v (.bool true)))::tm,hp⟩) o) ((y l).chk Ev C4 nt Qf Γ (.O all kb r ks ⟨(d,.t (.v (.bool false)))::tm,hp⟩) o)))
     else .bad
    |_,_=>.bad
   |_,_,_=>.bad
  |_=>.bad
 |_,.Pn id x,Γ,c,o=>match av C4 nt (!x.isJ) false fuel c with
  | .S ks ⟨tm,hp⟩=>match look hp id with
   |some (.rows e sz n rs)=>.all fun v:Value=>x.chk Ev C4 nt Qf Γ (.S ks ⟨cp7 id (.t (.v v)) tm,(id,.rv v e sz n rs)::bn8 id (.t (.v v)) hp⟩) o
   |_=>.bad
  |_=>.bad
 |_,.Mm id x,Γ,c,o=>match av C4 nt true true fuel c with
  | .O all kb (q::r) ks ⟨tm,hp⟩=>match gk all.toList kb tm q.guard,q.op,q.dst with
   |some true,.makeMap _ none,some d=>bif bd5 d nt&&(bd5 id big&&(M9 id tm&&M0 id hp))then x.chk Ev C4 nt Qf Γ (.O all kb r ks ⟨(d,.own id)::tm,(id,.mp [])::hp⟩) o else .bad
   |_,_,_=>.bad
  |_=>.bad
 |_,.Ml m l k x,Γ,c,o=>match av C4 nt true true fuel c with
  | .O all kb (q::r) ks ⟨tm,hp⟩=>match gk all.toList kb tm q.guard,q.op,q.dst with
   |some true,.lookup t a b false,some d=>match val tm a,val tm b with
    |some (.own id),some (.t (.v kv))=>match look hp id with
     |some (.mp es)=>bif bd5 d nt then .and (tq (t,es,kv) (m.t,l.map (ent m.f m.g),m.f k)) (x.chk Ev C4 nt Qf Γ (.O all kb r ks ⟨(d,.t (.v (m.g (@cQ0 _ _ m.beq m.z l k))))::tm,hp⟩) o)else .bad
     |_=>.bad
    |_,_=>.bad
   |_,_,_=>.bad
  |_=>.bad
 |_,.Mu m l k v x,Γ,c,o=>match av C4 nt true true fuel c with
  | .O all kb (q::r) ks ⟨tm,hp⟩=>match gk all.toList kb tm q.guard,q.op,q.dst with
   |some true,.mapUpdate t a b u,none=>match val tm a,val tm b,val tm u with
    |some (.own id),some (.t (.v kv)),some (.t (.v uv))=>match look hp id with
     |some (.mp es)=>.and (tq (t,es,kv,uv) (m.t,l.map (ent m.f m.g),m.f k,m.g v)) (x.chk Ev C4 nt Qf Γ (.O all kb r ks ⟨tm,at7 hp id (.mp ((@dm1 _ _ m.beq l k v).map (ent m.f m.g)))⟩) o)
     |_=>.bad
    |_,_,_=>.bad
   |_,_,_=>.bad
  |_=>.bad
abbrev M.Q {P:Program}{ρ α S γ τ:Type}(enc:α->List Tree)(l:List α)(n ri:Nat)(hd:S->List Ch)(ex:Nat)(k:Kd ρ γ)(x:Int->α->S->M P ρ (Fl S γ))(s:S)(f:S->M P ρ τ)(g:γ->M P ρ τ):M P ρ τ:=
 .LQ ri hd ex k (fun p=>.I (decide (p.1<l.length)) (.A enc l p.1 fun e=>.JF n hd (x p.1 e p.2) p.1) (.R (.inr (.inl p.2)))) s f g
abbrev M.QN {P:Program}{ρ S γ τ:Type}(m:Int)(n ri:Nat)(hd:S->List Ch)(ex:Nat)(k:Kd ρ γ)(x:Int->S->M P ρ (Fl S γ))(s:S)(f:S->M P ρ τ)(g:γ->M P ρ τ):M P ρ τ:=
 .LQ ri hd ex k (fun p=>.I (decide (p.1<m)) (.JF n hd (x p.1 p.2) p.1) (.R (.inr (.inl p.2)))) s f g
theorem eF0 (t:T):mrg t .any= .any:=by cases t<;>simp only[mrg]
theorem dQ9 (id:Nat):∀(l:List T),bB2 l (fgL id l)=fgL id l
 |[]=>by simp only[bB2,fgL]
 |x::l=>by
  simp only[fgL,bB2,dQ9 id l]
  cases names id x<;>simp only[fj8,fj6,eF0,cn2]
theorem eF1 (id:Nat)(b:G3):cn1 b (fgB id b)=fgB id b:=by
 cases b<;>simp only[fgB,cn1,dQ9]
theorem bV0:∀{l₁ l:List (Nat×T)},(∀k t,(k,t)∈l₁->∃t',look l k=some t'/\mrg t' t=t)->ew0 l₁ l
 |[],_,_=>trivial
 |(k,t)::r,l,h=>⟨h k t (bx8 ..),bV0 fun k t hm=>h k t (bF8 _ hm)⟩
theorem bU9:∀{l₁ l:List (Nat×G3)},(∀k t,(k,t)∈l₁->∃t',look l k=some t'/\cn1 t' t=t)->ev9 l₁ l
 |[],_,_=>trivial
 |(k,t)::r,l,h=>⟨h k t (bx8 ..),bU9 fun k t hm=>h k t (bF8 _ hm)⟩
theorem cH7:∀{tm:List (Nat×T)}{ds:List Nat}{k:Nat}{t:T},(k,t)∈rmv ds tm->aD5 k ds=false/\look tm k=some t
 |[],_,_,_,h=>by cases h
 |(j,x)::r,ds,k,t,h=>by
  unfold rmv at h
  cases hj:aD5 j ds<;>rw[hj]at h<;>simp only[fj8,fj6]at h
  ·rcases ch6.1 h with h|h
   ·cases h;exact⟨hj,by simp[look]⟩
   ·obtain⟨h1,h2⟩:=cH7 h
    obtain⟨h3,h4⟩:=br8.1 h1
    exact⟨h4,by rw[I2 h3];exact h2⟩
  ·obtain⟨h1,h2⟩:=cH7 h
   have hjk:j≠k:=fun e=>by subst e;rw[hj]at h1;cases h1
   exact⟨h1,by rw[I2 hjk];exact h2⟩
theorem dk3 {id:Nat}:∀{tm:List (Nat×T)}{k:Nat}{t:T},(k,t)∈fgT id tm->(k,t)∈tm
 |[],_,_,h=>by cases h
 |(j,x)::r,k,t,h=>by
  unfold fgT at h
  cases hj:names id x<;>rw[hj]at h<;>simp only[fj8,fj6]at h
  ·rcases ch6.1 h with h|h
   ·cases h;exact bx8 ..
   ·exact bF8 _ (dk3 h)
  ·exact bF8 _ (dk3 h)
theorem dn5 {h:List (Nat×Nat)}:∀{tm:List (Nat×T)}{k:Nat}{t:T},(k,t)∈rdT h tm->(k,t)∈tm
 |[],_,_,hm=>by cases hm
 |(j,x)::r,k,t,hm=>by
  unfold rdT at hm
  split at hm
  ·rcases ch6.1 hm with hm|hm
   ·cases hm;exact bx8 ..
   ·exact bF8 _ (dn5 hm)
  ·exact bF8 _ (dn5 hm)
theorem cV1:∀{h:List (Nat×G3)}{k:Nat}{b:G3},uniq h=true->(k,b)∈h->look h k=some b
 |[],_,_,_,h=>by cases h
 |(j,c)::r,k,b,hu,hm=>by
  simp only[uniq,aJ5,Option.isNone_iff_eq_none]at hu
  rcases ch6.1 hm with e|hm
  ·cases e;simp[look]
  ·have:=cV1 hu.2 hm
   have hne:j≠k:=fun e=>by subst e;rw[hu.1]at this;cases this
   rw[I2 hne];exact this
theorem dk2 {id:Nat}:∀{h:List (Nat×G3)}{k:Nat}{c:G3},(k,c)∈fgH id h->∃b,(k,b)∈h/\c=fgB id b
 |[],_,_,h=>by cases h
 |(j,x)::r,k,c,h=>by
  unfold fgH at h
  cases hj:bM1 j id<;>rw[hj]at h<;>simp only[fj8,fj6]at h
  ·rcases ch6.1 h with h|h
   ·cases h;exact⟨x,bx8 ..,rfl⟩
   ·obtain⟨b,h1,h2⟩:=dk2 h
    exact⟨b,bF8 _ h1,h2⟩
  ·obtain⟨b,h1,h2⟩:=dk2 h
   exact⟨b,bF8 _ h1,h2⟩
theorem dk4 {id:Nat}{tm:List (Nat×T)}{hp:List (Nat×G3)}(hu:uniq hp=true):Sub ⟨fgT id (rmv [] tm),fgH id hp⟩ ⟨tm,hp⟩:=
 ⟨bV0 fun k t hm=>⟨t,(cH7 (dk3 hm)).2,cn2 t⟩,bU9 fun k t hm=>by
  obtain⟨b,h1,rfl⟩:=dk2 hm
  exact⟨b,cV1 hu h1,eF1 id b⟩⟩
def bg6 {ρf ρ:Type}(X:Cx)(Qf:ρf->St->Prop)(c:Cg ρf)(m:Option ρ)(Q:ρ->Exit->St->Prop):Prop:=match c with
 | .S ks σ=>E4 X ks σ m Q
 | .O all _ ops ks σ=>B5 X all ops ks σ m Q
 | .D id all _ bs ws ops vs tm0 hp0 _ _ ks=>ops=all.toList.drop vs.length->bs=bl9 all.toList []->cr7 X all bs ws tm0 hp0 vs->E4 X (.c (.region id all true)::ks) ⟨tm0,hp0⟩ m Q
 | .X id σ=>aa5 X [] (.exit id) σ m Q
 | .R r=>∀v,m=some v->∀σ',Qf r σ'->Q v .ret σ'
section
variable {ρ τ β:Type} {X:Cx} {Qp:ρ -> St -> Prop} {m:Option τ} {Q:τ -> Exit -> St -> Prop}
theorem bg6.pre {c:Cg ρ}{m₁:Option β}{k:β->Option τ}(h:∀y,m₁=some y->bg6 X Qp c (k y) Q):bg6 X Qp c (m₁.bind k) Q:=by
 cases hm:m₁ with
 |some y=>exact h y hm
 |none=>
  cases c with
  |S ks σ=>exact E4.fail
  |O all kb ops ks σ=>exact B5.fail
  |D=>exact fun _ _ _=>E4.fail
  |X id σ=>exact fun r hr=>by cases hr
  |R r=>exact fun v hv=>by cases hv
theorem cr7.snoc {all:Array Oper}{bs:List (List Nat)}{ws:List (Nat×Nat)}{tm0:List (Nat×T)}{hp0:List (Nat×G3)}{vs:List (T×Option (Nat×G3))}{V:T}{N:Option (Nat×G3)}{o:Oper}{b:List Nat}(h:cr7 X all bs ws tm0 hp0 vs)(ho:all.toList[vs.length]? =some o)(hb:bs[vs.length]? =some b)
  (hs:ai2 X all o (minOf all.toList (vs.map (·.1)) tm0 (aY3 o)) (dZ5 bs ws vs hp0 vs.length b) V N):cr7 X all bs ws tm0 hp0 (vs++[(V,N)]):=by
 intro i V' N' o' b' hi ho' hb'
 rw[List.getElem?_append]at hi
 split at hi
 ·rename_i hlt
  have:=h i V' N' o' b' hi ho' hb'
  rw[List.take_append_of_le_length (by omega)]
  exact this
 ·rename_i hge
  have hi0:i-vs.length=0:=by
   rcases dO8 (i-vs.length)with h0|h0
   ·exact h0
   ·rw[ea1 (Nat.succ_le_of_lt h0)]at hi;cases hi
  have hil:i=vs.length:=by omega
  subst hil
  rw[hi0]at hi
  simp only[cV8,aI5,aX4]at hi
  obtain⟨rfl,rfl⟩:=hi
  rw[ho]at ho';cases ho'
  rw[hb]at hb';cases hb'
  rw[List.take_left' rfl]
  exact hs
theorem cN9 {C4:Tab}{tm:List (Nat×T)}{hp:List (Nat×G3)}{o:Oper}{t:T}{σ':St}(hi:aR7 o.op=true)(he:evalOp C4 ⟨tm,hp⟩ o=some (t,σ')):
  ∃d b,o.dst=some d/\σ'=⟨tm,(d,b)::hp⟩/\((∃ts,b= .box ts)\/t= .own d):=by
 rw[aU6]at he
 obtain⟨dst,op,type,pos,aft,guard⟩:=o
 cases op<;>simp only[aR7,reduceCtorEq]at hi<;>simp only[bk8]at he
 case alloc e=>
  cases dst with
  |none=>simp at he
  |some d=>
   cases hti:look C4 e with
   |none=>simp[hti]at he
   |some ti=>
    simp only[hti]at he
    revert he
    cases(bd5 d big&&M9 d tm&&M0 d hp&&ti.zero.all Value.oneCell')<;>intro he<;>simp only[fj8,fj6,reduceCtorEq,aI5,aX4]at he
    exact⟨d,_,rfl,he.2.symm,.inl ⟨_,rfl⟩⟩
 case box e x=>
  cases dst with
  |none=>simp at he
  |some d=>
   cases hl:(val tm x).bind (ap6 hp)with
   |none=>simp[hl]at he
   |some l=>
    simp only[hl]at he
    revert he
    cases(bd5 d big&&M9 d tm&&M0 d hp)<;>intro he<;>simp only[fj8,fj6,reduceCtorEq,aI5,aX4]at he
    exact⟨d,_,rfl,he.2.symm,.inl ⟨_,rfl⟩⟩
 case buildSlice ty n parts=>
  cases dst with
  |none=>simp at he
  |some d=>
   split at he<;>try(cases he;done)
   rename_i d' s0 e z0 hd' hti
   simp only[aI5]at hd'
   subst hd'
   split at he<;>try(cases he;done)
   rename_i te hte
   split at he<;>try(cases he;done)
   rename_i l hl
   split at he<;>try(cases he;done)
   rename_i r hr
   revert he
   cases(bd5 d big&&M9 d tm&&M0 d hp&&bM1 r.length (n*te.size)&&dO2 (n*te.size) 1000000&&bM1 te.zero.length te.size&&bd5 0 te.size)<;>intro he<;>simp only[fj8,fj6,reduceCtorEq,aI5,aX4]at he
   exact⟨d,_,rfl,he.2.symm,.inr he.1.symm⟩
 case makeSlice ty x y=>cases he
theorem eU3 {all:Array Oper}{bs:List (List Nat)}{ws:List (Nat×Nat)}{o:Oper}{vs:List (T×Option (Nat×G3))}{tm0:List (Nat×T)}{hp0:List (Nat×G3)}{fz kb:List Nat}{V:T}{N:Option (Nat×G3)}(h:stD X.C4 all.toList bs ws o vs tm0 hp0 fz kb=some (V,N)):
  ∃b,bs[vs.length]? =some b/\ai2 X all o (minOf all.toList (vs.map (·.1)) tm0 (aY3 o)) (dZ5 bs ws vs hp0 vs.length b) V N:=by
 unfold stD at h
 split at h<;>try(cases h;done)
 rename_i b hb
 refine⟨b,hb,?_⟩
 dsimp only at h
 split at h<;>try(cases h;done)
 ·rename_i hg
  simp only[aI5,aX4]at h
  obtain⟨rfl,rfl⟩:=h
  exact .skip hg
 ·rename_i hg
  cases hp:dY3 o.op<;>rw[hp]at h<;>simp only[fj8,fj6]at h
  ·cases hn:aR7 o.op<;>rw[hn]at h<;>simp only[fj8,fj6,reduceCtorEq]at h
   ·split at h<;>try(cases h;done)
    rename_i t x y ho
    split at h<;>try(cases h;done)
    rename_i id off ti l hx hti hy
    split at h<;>try(cases h;done)
    rename_i ts hbx
    cases hc:(bM1 l.length ti.size&&dO2 (off+l.length) ts.length)<;>rw[hc]at h<;>simp only[fj8,fj6,reduceCtorEq,aI5,aX4]at h
    obtain⟨rfl,rfl⟩:=h
    exact .store hg ho hx hti hy hbx hc
   split at h<;>try(cases h;done)
   rename_i V' tm' d' N' Z4 d he hd
   obtain⟨d2,b2,e1,e2,e3⟩:=cN9 (C4:=X.C4) hn he
   rw[hd]at e1
   cases e1
   simp only[St.mk.injEq,eV7,aX4]at e2
   obtain⟨rfl,⟨rfl,rfl⟩,rfl⟩:=e2
   have hs:=ai2.new (X:=X) hg hn hd he
   cases hz:aD5 d' fz<;>rw[hz]at h<;>simp only[fj8,fj6]at h
   ·simp only[aI5,aX4]at h
    obtain⟨rfl,rfl⟩:=h
    exact hs
   ·split at h<;>try(cases h;done)
    rename_i e sz n rs
    simp only[aI5,aX4]at h
    obtain⟨rfl,rfl⟩:=h
    rcases e3 with⟨ts,e3⟩|rfl
    ·cases e3
    ·exact hs.frz hn hd
  ·have hp:=de2 hp
   split at h<;>try(cases h;done)
   rename_i V' σ' he
   simp only[aI5,aX4]at h
   obtain⟨rfl,rfl⟩:=h
   have:=cA0 (C4:=X.C4) hp he
   subst this
   exact .pure hg hp he
theorem aK8 (hmx:X.P.follows .mixedOrders=true)(hQ:∀r l σ,¬Q r (.goto l) σ)(eb ed:Bool):∀(n:Nat) (c:Cg ρ),bg6 X Qp (av X.C4 X.nt eb ed n c) m Q->bg6 X Qp c m Q:=by
 intro n
 induction n with
 |zero=>intro c h;exact h
 |succ n ih=>
  intro c h
  unfold av at h
  split at h
  ·split at h
   ·exact E4.seq (ih _ h)
   ·exact E4.skip (ih _ h)
   ·exact E4.label (ih _ h)
   ·exact E4.scope hQ (ih _ h)
   ·cases eb<;>simp only[fj8,fj6]at h
    ·exact h
    ·exact E4.block (ih _ h)
   ·split at h
    ·exact E4.region (ih _ h)
    ·cases ed<;>simp only[fj8,fj6]at h
     ·exact h
     ·rename_i ks σ _ id ops _
      have:=ih _ h (by simp) rfl (fun i V N o b hi=>by simp at hi)
      exact fun r hr a w hw=>this r hr a w (hw.bM5 (fun k t hk=>(cm4 hk).2) (fun k b hk=>hk))
   ·split at h
    ·rename_i hp;exact E4.exit hp (ih _ h)
    ·rename_i hp;exact E4.out hp h
   ·exact h
  ·exact E4.fa5 (ih _ h)
  ·exact B5.nil (ih _ h)
  ·split at h
   ·rename_i he;exact eU4 he (ih _ h)
   ·exact h
  ·rename_i id all h0 bs ws ops vs tm0 hp0 fz kb ks
   cases hb:bM1 vs.length h0<;>rw[hb]at h<;>simp only[fj8,fj6]at h
   ·split at h
    ·exact h
    ·rename_i o r
     split at h
     ·rename_i x hx
      intro cX8 hbs hst
      have ho:all.toList[vs.length]? =some o:=by rw[<-eC1,<-cX8];rfl
      obtain⟨V,N⟩:=x
      obtain⟨b,hbb,hs⟩:=eU3 hx
      exact ih _ h (by rw[aY1,<-ey6,<-cX8];rfl) hbs (hst.snoc ho hbb hs)
     ·exact h
   ·cases hd:eB4 X.nt all.toList h0 ws tm0 hp0 vs<;>rw[hd]at h<;>simp only[fj8,fj6]at h
    ·exact h
    ·intro cX8 hbs hst
     have:=bp9 hb
     subst this cX8 hbs
     exact E4.fi1 hmx hd hst fun r hr a w hw=>ih _ h r hr a w (hw.bM5 (fun _ _ h=>h) (fun k b hk=>by rw[cP6]at hk;exact hk))
  ·exact h
theorem ci0.old {o:Oper}{tm:List (Nat×T)}{hp:List (Nat×G3)}(h:aR7 o.op=false):ci0 o none tm hp:=⟨fun h'=>(by rw[h]at h';cases h'),fun id h'=>(by rw[dU8]at h';cases h')⟩
theorem bJ1 {id0 h00:Nat}{dU3 all:Array Oper}{bs0:List (List Nat)}{ws0:List (Nat×Nat)}{ops0:List Oper}{Y8:List (T×Option (Nat×G3))}{tm00:List (Nat×T)}{hp00:List (Nat×G3)}{fz0 kb0 kb fz:List Nat}{ks0:List K}{q:Oper}{tm:List (Nat×T)}{hp:List (Nat×G3)}{nx:T->Option (Nat×G3)->Cg ρ}{V:T}{N:Option (Nat×G3)}
  (h:here (.D id0 dU3 h00 bs0 ws0 ops0 Y8 tm00 hp00 fz0 kb0 ks0:Cg ρ)=some (all,kb,q,tm,hp,fz,nx)) (hs:ai2 X all q tm hp V N) (hk:bg6 X Qp (nx V N) m Q):bg6 X Qp (.D id0 dU3 h00 bs0 ws0 ops0 Y8 tm00 hp00 fz0 kb0 ks0) m Q:=by
 cases ops0 with
 |nil=>simp[here]at h
 |cons q0 r=>
  simp only[here]at h
  split at h<;>try(cases h;done)
  rename_i b hb
  simp only[aI5,aX4]at h
  obtain⟨rfl,rfl,rfl,rfl,rfl,rfl,rfl⟩:=h
  intro cX8 hbs hst
  have ho:dU3.toList[Y8.length]? =some q0:=by rw[<-eC1,<-cX8];rfl
  exact hk (by rw[aY1,<-ey6,<-cX8];rfl) hbs (hst.snoc ho hb hs)
theorem bE3 {c:Cg ρ}{all:Array Oper}{kb fz:List Nat}{q:Oper}{tm:List (Nat×T)}{hp:List (Nat×G3)}{nx:T->Option (Nat×G3)->Cg ρ}{V:T}{N:Option (Nat×G3)}(h:here c=some (all,kb,q,tm,hp,fz,nx))(hs:ai2 X all q tm hp V N)
  (hd:∀d,q.dst=some d->bd5 d X.nt=true) (hf:ci0 q N tm hp) (hk:bg6 X Qp (nx V N) m Q):bg6 X Qp c m Q:=by
 unfold here at h
 split at h<;>try(cases h;done)
 ·simp only[aI5,aX4]at h
  obtain⟨rfl,rfl,rfl,rfl,rfl,rfl,rfl⟩:=h
  intro r hr a w hw
  exact wpList_step fun K hK=>hs _ _ (fun _ _ h=>h) (fun _ _ h=>h) hf hd a w hw K _ fun a' w' hs'=>hK _ _ (hk r hr _ _ hs')
 ·rename_i id dU3 h0 bs ws q0 r vs tm0 hp0 fz0 kb0 ks
  split at h<;>try(cases h;done)
  rename_i b hb
  simp only[aI5,aX4]at h
  obtain⟨rfl,rfl,rfl,rfl,rfl,rfl,rfl⟩:=h
  intro cX8 hbs hst
  have ho:dU3.toList[vs.length]? =some q0:=by rw[<-eC1,<-cX8];rfl
  exact hk (by rw[aY1,<-ey6,<-cX8];rfl) hbs (hst.snoc ho hb hs)
theorem Z1.eg9 {z:Z1}{tm:List (Nat×T)}{hp:List (Nat×G3)}{σ:St}{ks:List K}{e:Exit}(h:z.ap tm hp=some σ)(k:aa5 X ks e σ m Q):aa5 X ks e ⟨tm,hp⟩ m Q:=by
 cases z with
 |fr id=>
  simp only[Z1.ap]at h
  split at h<;>try(cases h;done)
  rename_i hb
  simp only[aI5]at h;subst h
  exact aa5.frz id hb k
 |fb id=>
  simp only[Z1.ap]at h
  split at h<;>try(cases h;done)
  rename_i hb
  split at h<;>try(cases h;done)
  rename_i hc
  simp only[aI5]at h;subst h
  exact aa5.dH2 id hb hc k
 |np j id e' sz path=>
  simp only[Z1.ap]at h
  split at h<;>try(cases h;done)
  rename_i hk
  split at h<;>try(cases h;done)
  rename_i hu
  cases hb:(bd5 id big&&(M9 id tm&&M0 id hp))<;>rw[hb]at h<;>simp only[fj8,fj6,reduceCtorEq,aI5]at h
  subst h
  simp only[aJ5]at hb
  exact aa5.eF5 j id e' sz path hk hu hb.1 hb.2.1 hb.2.2 k
 |nb b id e' sz path=>
  simp only[Z1.ap]at h
  split at h<;>try(cases h;done)
  rename_i hk
  split at h<;>try(cases h;done)
  rename_i hu
  cases hb:(bd5 id big&&(M9 id tm&&M0 id hp))<;>rw[hb]at h<;>simp only[fj8,fj6,reduceCtorEq,aI5]at h
  subst h
  simp only[aJ5]at hb
  exact aa5.fi9 b id e' sz path hk hu hb.1 hb.2.1 hb.2.2 k
 |rn l=>
  simp only[Z1.ap]at h
  cases hb:(uniq hp&&cB7 (l++idn l hp))<;>rw[hb]at h<;>simp only[fj8,fj6,reduceCtorEq]at h
  rw[aJ5]at hb
  split at h<;>try(cases h;done)
  rename_i h1 h2
  simp only[aI5]at h;subst h
  exact aa5.sub (σ':=⟨rdT (l++idn l hp) (rmv [] tm),hp⟩) ⟨bV0 fun k t hm=>⟨t,(cH7 (dn5 hm)).2,cn2 t⟩,bU9 fun k b hm=>⟨b,cV1 hb.1 hm,de8 b⟩⟩ (aa5.ren _ hb.2 h1 h2 k)
 |dr id=>
  simp only[Z1.ap]at h
  cases hb:uniq hp<;>rw[hb]at h<;>simp only[fj8,fj6,reduceCtorEq,aI5]at h
  subst h
  exact aa5.sub (dk4 hb) k
theorem ai2.mk {α:Type}{all:Array Oper}{kb:List Nat}{o:Oper}{U0:List (Nat×T)}{an6:List (Nat×G3)}{t e d s0:Nat}{z0:List Value}{te:TI}{x y:Operand}{k1 k2:IntKind}{n:Int}{enc:α->List Tree}{z:α}{l:List α}(hl:aS0 n z=some l)
  (ho:o.op= .makeSlice t x y) (hd:o.dst=some d) (hg:gk all.toList kb U0 o.guard=some true) (hx:val U0 x=some (.t (.v (.int k1 n)))) (hy:val U0 y=some (.t (.v (.int k2 n))))
  (hty:look X.C4 t=some ⟨s0,.slice e,z0⟩) (hte:look X.C4 e=some te) (hz:te.zero.length=te.size) (bJ2:bd5 0 te.size=true) (az2:enc z=te.zero.map fun v=>aE1 (.v v)) (aM0:bd5 d big=true):
  ai2 X all o U0 an6 (.own d) (some (d,.rows e te.size l.length (l.map enc))):=by
 intro tm hp hm hh hf hd' a w ⟨S,E,hk⟩ K Q' hK
 unfold aS0 at hl
 split at hl<;>try(cases hl;done)
 rename_i hn
 simp only[aI5]at hl
 obtain⟨j,rfl⟩:∃j:Nat,n=(j:Int):=⟨n.toNat,by omega⟩
 simp only[Int.toNat_natCast]at hl
 obtain⟨dd,hu,ho2⟩:∃d,X.P.underlying t=some d/\TD.ok X.P (.slice e) d:=by
  obtain⟨i,d,_,_,hu,hdd,_⟩:=X.K4 t _ hty
  exact⟨d,hu,hdd⟩
 simp only[TD.ok]at ho2
 subst ho2
 have hfr:=hf.1 (by rw[ho];rfl) d hd
 rw[aJ5]at hfr
 obtain⟨v',w',E',hr,hE,hok⟩:=hk.make (P:=X.P) (n:=j) (c:=enc z) aM0 hfr.1 hfr.2 hu (X.K4 e _ hte) hz (bd4 bJ2) az2 (by omega) k1 k2
 rw[S8 hk (as4 hm (aG0 hg)),if_pos rfl]
 unfold Oper.wp
 have aO0:(execOp a.eval o).run X.P w= .ok (.value v') w':=by
  unfold execOp
  simp only[ho,(hk.val (C9 hm hx)).tv,(hk.val (C9 hm hy)).tv,bk5,hr,ba5,bO3]
 rw[aO0]
 have e1:l.map enc=List.replicate j (enc z):=by rw[<-hl];simp
 have e2:l.length=j:=by rw[<-hl];simp
 refine hK (a.put o.dst v') w' ?_
 rw[e1,e2]
 simp only[bf9,hd]
 rw[<-hd]
 exact Ok.pt hok (.own d v' hE) hd'
theorem cx6 {x:T}:∀{vs:List (T×Option (Nat×G3))}{j:Nat}{N:Option (Nat×G3)},vs[j]? =some (x,N)->dK8 x j vs=vs
 |[],j,N,h=>by simp at h
 |p::r,0,N,h=>by simp only[cV8,aI5]at h;subst h;rfl
 |p::r,j+1,N,h=>by rw[dK8,cx6 (by simpa using h)]
theorem eW0 {id h j:Nat}{all:Array Oper}{bs:List (List Nat)}{ws:List (Nat×Nat)}{q:Oper}{r:List Oper}{vs:List (T×Option (Nat×G3))}{tm0:List (Nat×T)}{hp0:List (Nat×G3)}{fz kb kb':List Nat}{ks:List K}{b:Bool}{m₁ m₂:Option τ}(ht:eV9 q vs=some (j,b))
  (h₁:bg6 X Qp (.D id all h bs ws (q::r) (dK8 (.t (.v (.bool true))) j vs) tm0 hp0 fz kb' ks:Cg ρ) m₁ Q) (h₂:bg6 X Qp (.D id all h bs ws (q::r) (dK8 (.t (.v (.bool false))) j vs) tm0 hp0 fz kb' ks:Cg ρ) m₂ Q):
  bg6 X Qp (.D id all h bs ws (q::r) vs tm0 hp0 fz kb ks:Cg ρ) (bif b then m₁ else m₂) Q:=by
 unfold eV9 at ht
 split at ht<;>try(cases ht;done)
 split at ht<;>try(cases ht;done)
 rename_i b0 hv
 simp only[aI5,aX4]at ht
 obtain⟨e1,e2⟩:=ht
 subst e1 e2
 cases b0
 ·rw[cx6 hv]at h₂;exact h₂
 ·rw[cx6 hv]at h₁;exact h₁
theorem eI7 {d:Nat}{all:Array Oper}{kb kb':List Nat}{q:Oper}{r:List Oper}{tm:List (Nat×T)}{hp:List (Nat×G3)}{ks:List K}{b:Bool}{m₁ m₂:Option τ}(ht:eV8 all.toList tm q=some (d,b))
  (h₁:bg6 X Qp (.O all kb' (q::r) ks ⟨(d,.t (.v (.bool true)))::tm,hp⟩:Cg ρ) m₁ Q) (h₂:bg6 X Qp (.O all kb' (q::r) ks ⟨(d,.t (.v (.bool false)))::tm,hp⟩:Cg ρ) m₂ Q):
  bg6 X Qp (.O all kb (q::r) ks ⟨tm,hp⟩:Cg ρ) (bif b then m₁ else m₂) Q:=by
 have hl:look tm d=some (.t (.v (.bool b))):=by
  unfold eV8 at ht
  split at ht<;>try(cases ht;done)
  split at ht<;>try(cases ht;done)
  split at ht<;>try(cases ht;done)
  split at ht<;>try(cases ht;done)
  rename_i hv
  simp only[aI5,aX4]at ht
  obtain⟨e1,e2⟩:=ht
  subst e1 e2
  exact hv
 cases b
 ·intro r hr a w hw
  exact h₂ r hr a w (hw.bM5 (fun k t hk=>by
   simp only[look]at hk
   by_cases hdk:d=k
   ·subst hdk;simp only[ca7,fj8,aI5]at hk;subst hk;exact hl
   ·simp only[C5 hdk,fj6]at hk;exact hk) (fun k b hk=>hk))
 ·intro r hr a w hw
  exact h₁ r hr a w (hw.bM5 (fun k t hk=>by
   simp only[look]at hk
   by_cases hdk:d=k
   ·subst hdk;simp only[ca7,fj8,aI5]at hk;subst hk;exact hl
   ·simp only[C5 hdk,fj6]at hk;exact hk) (fun k b hk=>hk))
end
theorem Out.never {ρ:Type}{Qf:ρ->St->Prop}{l:Nat}{σ:St}:∀(o:Out ρ),¬o.den Qf (.goto l) σ
 | .nx _,h=>by cases h.1
 | .ex _ _,h=>by cases h.1
 | .rt _,h=>by cases h.1
 | .top _,h=>by rcases h.1 with h|h<;>cases h
 | .no,h=>h
section
variable {P:Program} {ρ τ β:Type} {X:Cx} {Qf:ρ -> St -> Tr}
abbrev QfP (Qf:ρ->St->Tr):ρ->St->Prop:=fun r σ=>(Qf r σ).den
theorem dQ4 {v:τ}{c:Cg ρ}{o:τ->Out ρ}(h:(dl6 Qf c (o v)).den):bg6 X (QfP Qf) c (some v) (fun v e σ'=>(o v).den (QfP Qf) e σ'):=by
 unfold dl6 at h
 split at h
 ·rename_i he;exact E4.leaf (by rw[he];exact⟨rfl,cp8 h⟩)
 ·rename_i he;exact E4.leaf (by rw[he];exact⟨.inr rfl,h⟩)
 ·rename_i he;exact E4.ret (by rw[he];exact⟨rfl,h⟩)
 ·rename_i he;exact E4.ret (by rw[he];exact⟨.inl rfl,h⟩)
 ·rename_i id σ id' σ₁ he
  cases hb:bM1 id id'<;>rw[hb]at h
  ·exact h.elim
  ·have:=bp9 hb
   subst this
   exact aa5.br0 rfl (by rw[he];exact⟨rfl,cp8 h⟩)
 ·rename_i he
  intro v' hv σ' hq;cases hv
  have:=V.eq h;subst this
  show(o v).den _ _ _
  rw[he];exact⟨rfl,hq⟩
 ·rename_i he
  intro v' hv σ' hq;cases hv
  have:=V.eq h;subst this
  show(o v).den _ _ _
  rw[he];exact⟨.inl rfl,hq⟩
 ·exact h.elim
theorem cl4 {ks:List K}{σ σ':St}{e:Exit}{m:Option τ}{Q:τ->Exit->St->Prop}{s:Sh ρ}(hd:(df3 σ s).den (QfP Qf) e σ')(h:bg6 X (QfP Qf) (cont ks σ s) m Q):aa5 X ks e σ' m Q:=by
 cases s with
 |nx l=>obtain⟨rfl,hs⟩:=hd;exact aa5.sub hs h
 |ex id l=>
  obtain⟨rfl,hs⟩:=hd
  unfold cont at h
  simp only at h
  split at h
  ·rename_i hp;exact aa5.exit hp (aa5.sub hs h)
  ·rename_i hp
   intro r hr a w hw
   exact ax9 hp (h r hr a w (hw.sub hs))
 |rt r=>
  obtain⟨rfl,hq⟩:=hd
  intro v hv a w hw
  exact br6 ks ⟨σ',hw,h v hv σ' hq⟩
theorem dx6 {σ σ':St}{e:Exit}{s:Sh ρ}(h:(er3 σ s).den (QfP Qf) e σ'):e≠ .normal/\(df3 σ s).den (QfP Qf) e σ':=by
 cases s with
 |nx l=>exact h.elim
 |ex id l=>obtain⟨rfl,hs⟩:=h;exact⟨by simp,rfl,hs⟩
 |rt r=>obtain⟨rfl,hs⟩:=h;exact⟨by simp,rfl,hs⟩
theorem eF7 {o:Out ρ}{e:Exit}{σ':St}(h:(eF6 o).den (QfP Qf) e σ'):e≠ .normal/\o.den (QfP Qf) e σ':=by
 cases o with
 |nx l=>exact h.elim
 |ex id l=>exact⟨by rw[h.1];simp,h⟩
 |rt r=>exact⟨by rw[h.1];simp,h⟩
 |top r=>exact h.elim
 |no=>exact h.elim
theorem Out.calm {σ:St}:∀(o:Out ρ),(∀ch,¬o.den (QfP Qf) (.panic ch) σ)/\¬o.den (QfP Qf) .outgrown σ
 | .nx _=>⟨(fun _ h=>by cases h.1),(fun h=>by cases h.1)⟩
 | .ex _ _=>⟨(fun _ h=>by cases h.1),(fun h=>by cases h.1)⟩
 | .rt _=>⟨(fun _ h=>by cases h.1),(fun h=>by cases h.1)⟩
 | .top _=>⟨(fun _ h=>by rcases h.1 with h|h<;>cases h),(fun h=>by rcases h.1 with h|h<;>cases h)⟩
 | .no=>⟨fun _ h=>h,fun h=>h⟩
theorem dR1 {id:Nat}:∀{ks:List K},noE ks=true->bv4 id ks=none
 |[],_=>rfl
 | .c _::r,h=>dR1 (ks:=r) h
 | .e _::_,h=>by cases h
theorem eD5 {all:List Oper}{tm:List (Nat×T)}{ops g r:List Oper}{d q:Nat}{b:Bool}(h:eD4 all tm ops=some (d,b,g,q,r)):look tm d=some (.t (.v (.bool b)))/\ops=g++r:=by
 unfold eD4 at h
 split at h<;>try(cases h;done)
 split at h<;>try(cases h;done)
 split at h<;>try(cases h;done)
 split at h<;>try(cases h;done)
 split at h<;>try(cases h;done)
 rename_i hl hc
 simp only[aI5,aX4]at h
 obtain⟨rfl,rfl,rfl,rfl,rfl⟩:=h
 exact⟨hl,dG3 hc⟩
theorem B5.grp {ks:List K}{m₁ m₂:Option Bool}{k:Bool->Option τ}{Q:τ->Exit->St->Prop}{all:Array Oper}{tm:List (Nat×T)}{hp:List (Nat×G3)}{ops g r:List Oper}{d q:Nat}{b:Bool}{σ₁:Bool->St}(hg:eD4 all.toList tm ops=some (d,b,g,q,r))
  (h₁:B5 X all g [] ⟨(d,.t (.v (.bool true)))::tm,hp⟩ m₁ (fun v e σ'=>e= .normal/\Sub (σ₁ v) σ')) (h₂:B5 X all g [] ⟨(d,.t (.v (.bool false)))::tm,hp⟩ m₂ (fun v e σ'=>e= .normal/\Sub (σ₁ v) σ'))
  (h:∀v,B5 X all r ks (σ₁ v) (k v) Q):B5 X all ops ks ⟨tm,hp⟩ ((bif b then m₁ else m₂).bind k) Q:=by
 obtain⟨hl,rfl⟩:=eD5 hg
 refine B5.bind g.length σ₁ ?_ (fun v _=>?_)
 ·rw[List.take_left]
  exact B5.split d hl h₁ h₂
 ·rw[List.drop_left]
  exact h v
theorem dA2 {α:Type}{enc:α->List Tree}{r:List α}{sz:Nat}{hp:List (Nat×G3)}{x:Option T}(h:(dg2 enc r sz hp x).den):
  ∃m,x=some (.t (.sl m (r.map enc)))\/∃i2 e',x=some (.own i2)/\look hp i2=some (.rows e' sz m (r.map enc)):=by
 unfold dg2 at h
 split at h
 ·rename_i n rs;have:=V.eq h;subst this;exact⟨n,.inl rfl⟩
 ·rename_i i2
  split at h
  ·rename_i e s2 n rs hb
   cases hz:bM1 s2 sz<;>rw[hz]at h
   ·exact h.elim
   ·have:=bp9 hz
    subst this
    have:=V.eq h;subst this
    exact⟨n,.inr ⟨i2,e,rfl,hb⟩⟩
  ·exact h.elim
 ·exact h.elim
theorem GF.as {α:Type}{enc:α->List Tree}{l:List α}{i:Int}:∀{f:GF},V.gf ⟨f.enc,f.l,f.i⟩=V.gf ⟨enc,l,i⟩->∃y:α,f=⟨enc,l,i,y⟩
 |⟨fe,fl,fi,fy⟩,h=>by
  simp only[V.gf.injEq]at h
  cases h
  exact⟨fy,rfl⟩
theorem ay7 {b:Bool}{x:Tr}(h:(bif b then x else .bad).den):b=true/\x.den:=by
 cases b
 ·exact h.elim
 ·exact⟨rfl,h⟩
theorem U1.known {Γ:List GF}(hΓ:∀f∈Γ,f.ok):∀{τ:Type}{u:U1 τ}{y:τ},u.m=some y->∀f∈u.k y Γ,f.ok
 |_,.ap _ _ _ _,y,h,f,hf=>hΓ f hf
 |_,.an _ _ _ _,y,h,f,hf=>hΓ f hf
 |_,.st enc l i z n,y,h,f,hf=>by
  rcases ch6.1 hf with rfl|hf
  ·exact eu2 h
  ·exact hΓ f hf
 |_,.sF _ _ _ _,y,h,f,hf=>hΓ f hf
 |_,.sO _ _ _ _,y,h,f,hf=>hΓ f hf
 |_,.cp _ _ _,y,h,f,hf=>hΓ f hf
theorem dR7 {nt:Nat}{d:Option Nat}{t:T}{tm tm':List (Nat×T)}{h:List (Nat×G3)}(hp:List (Nat×G3))(hx:bv5 nt d t ⟨tm,[]⟩=some ⟨tm',h⟩):bv5 nt d t ⟨tm,hp⟩=some ⟨tm',hp⟩:=by
 unfold bv5 at hx|-
 cases d with
 |none=>simp only[aI5,St.mk.injEq]at hx|-;exact⟨hx.1,trivial⟩
 |some d=>
  dsimp only at hx|-
  cases hd:bd5 d nt<;>rw[hd]at hx<;>simp only[fj8,fj6,reduceCtorEq,aI5,St.mk.injEq]at hx|-
  exact⟨hx.1,trivial⟩
theorem U1.ok {all:Array Oper}{kb:List Nat}{ks:List K}{Γ:List GF}(hΓ:∀f∈Γ,f.ok){tm:List (Nat×T)}{hp:List (Nat×G3)}{o:Oper}{rest:List Oper}{Q:τ->Exit->St->Prop}(hg:gk all.toList kb tm o.guard=some true):
  ∀{β:Type}{u:U1 β}{t:Tr}{σ:β->St}{k:β->Option τ},u.q X.C4 X.nt Γ tm hp o=some (t,σ)->t.den->(∀y,u.m=some y->B5 X all rest ks (σ y) (k y) Q)->B5 X all (o::rest) ks ⟨tm,hp⟩ (u.m.bind k) Q
 |_,.ap (α:=α) enc l r id,t,σ,k,h,ht,hr=>by
  simp only[U1.q]at h
  split at h<;>try(cases h;done)
  rename_i args tys d ho hd
  split at h<;>try(cases h;done)
  rename_i s x t' t'' ha hb
  split at h<;>try(cases h;done)
  rename_i s0 e z0 hty
  split at h<;>try(cases h;done)
  rename_i te hte
  cases hc:(bM1 t' t''&&bd5 d X.nt&&bM1 te.zero.length te.size&&bd5 id big&&M9 id (fgT id (rmv [] tm))&&M0 id (fgH id hp)&&uniq hp)<;>rw[hc]at h<;>simp only[fj8,fj6,reduceCtorEq,aI5,aX4]at h
  obtain⟨rfl,rfl⟩:=h
  simp only[aJ5]at hc
  obtain⟨⟨⟨⟨⟨⟨c1,c2⟩,c3⟩,c4⟩,c5⟩,c6⟩,c7⟩:=hc
  have:=bp9 c1
  subst this
  obtain⟨h1,h2,h3,h4⟩:=ht
  have h1:=V.eq h1
  have h2:=V.eq h2
  have ha:args= #[s,x]:=by cases args;simp_all
  have hb:tys= #[t',t']:=by cases tys;simp_all
  subst ha hb
  obtain⟨m,hx⟩:=dA2 h3
  have hs:∃n,(val tm s=some (.own id)/\look hp id=some (.rows e te.size n (l.map enc)))\/(val tm s=some (.t (.v (.slice none 0 0)))/\l=[]):=by
   split at h4
   ·rename_i i hsv
    split at h4
    ·rename_i e' sz n rs hbl
     cases hq:(bM1 i id&&bM1 e' e&&bM1 sz te.size)<;>rw[hq]at h4
     ·exact h4.elim
     ·simp only[aJ5]at hq
      have q1:=bp9 hq.1.1
      have q2:=bp9 hq.1.2
      have q3:=bp9 hq.2
      subst q1 q2 q3
      have:=V.eq h4;subst this
      exact⟨n,.inl ⟨hsv,hbl⟩⟩
    ·exact h4.elim
   ·rename_i hsv
    have:=V.eq h4;subst this
    exact⟨0,.inr ⟨hsv,rfl⟩⟩
   ·exact h4.elim
  obtain⟨n,hs⟩:=hs
  have hen:∀y,(enc y).length=te.size:=fun y=>congrFun h1 y
  have hon:∀y,(enc y).all aQ0=true:=fun y=>congrFun h2 y
  show B5 X all _ ks _ ((U5 l r).bind k) Q
  cases hm:U5 l r with
  |none=>exact B5.fail
  |some y=>
   have hy:y=l++r:=by
    unfold U5 at hm
    split at hm
    ·exact(Option.some.inj hm).symm
    ·cases hm
   subst hy
   have hk:=hr (l++r) hm
   rw[<-hm]
   rcases hx with hx|⟨i2,e',hx1,hx2⟩
   ·exact B5.append (e':=0) ho hd c2 (aG0 hg) hty hte (bp9 c3) hen hon hs (.inl hx) (dk4 c7) c4 c5 c6 hk
   ·exact B5.append ho hd c2 (aG0 hg) hty hte (bp9 c3) hen hon hs (.inr ⟨i2,hx1,hx2⟩) (dk4 c7) c4 c5 c6 hk
 |_,.an enc n z id,t,σ,k,h,ht,hr=>by
  simp only[U1.q]at h
  split at h<;>try(cases h;done)
  rename_i args tys d ho hd
  split at h<;>try(cases h;done)
  rename_i s x t' u ha hb
  split at h<;>try(cases h;done)
  rename_i s0 e z0 s1 kk z1 ik n' hty htu hs hx
  split at h<;>try(cases h;done)
  rename_i te hte
  cases hc:(bd5 d X.nt&&bM1 te.zero.length te.size&&bd5 0 te.size&&bd5 id big&&M9 id tm&&M0 id hp)<;>rw[hc]at h<;>simp only[fj8,fj6,reduceCtorEq,aI5,aX4]at h
  obtain⟨rfl,rfl⟩:=h
  simp only[aJ5]at hc
  obtain⟨⟨⟨⟨⟨c1,c2⟩,c3⟩,c4⟩,c5⟩,c6⟩:=hc
  have h1:=V.eq ht.1
  have h2:=V.eq ht.2
  subst h1
  have ha:args= #[s,x]:=by cases args;simp_all
  have hb:tys= #[t',u]:=by cases tys;simp_all
  subst ha hb
  exact B5.eA4 id z ho hd c1 (aG0 hg) hs hx hty htu hte (bp9 c2) c3 h2 c4 c5 c6 hr
 |_,.st enc l i y n,t,σ,k,h,ht,hr=>by
  simp only[U1.q]at h
  split at h<;>try(cases h;done)
  rename_i t' p x f ho hd hf
  split at h<;>try(cases h;done)
  rename_i id i' sz off ti cs hp1 hti hx
  split at h<;>try(cases h;done)
  rename_i e sz' n' rs lt hb htr
  cases hc:(bM1 sz sz'&&bM1 lt.length ti.size&&dO2 (off+lt.length) sz)<;>rw[hc]at h<;>simp only[fj8,fj6,reduceCtorEq,aI5,aX4]at h
  obtain⟨rfl,rfl⟩:=h
  simp only[aJ5]at hc
  obtain⟨⟨c1,c2⟩,c3⟩:=hc
  have:=bp9 c1
  subst this
  obtain⟨h1,h2,h3⟩:=ht
  have hfo:=hΓ f (cY9 hf)
  obtain⟨fy,rfl⟩:=GF.as h1
  have h2:=V.eq h2
  have h3:=V.eq h3
  simp only[aX4]at h2
  obtain⟨rfl,rfl⟩:=h2
  cases hv:val tm x with
  |none=>simp[hv]at hx
  |some vx=>
   simp only[hv,aH3]at hx
   exact B5.dL3 y lt hfo ho hd (aG0 hg) hp1 hb hti hv hx (cq1 htr) c2 c3 h3 hr
 |_,.sF enc l a b,t,σ,k,h,ht,hr=>by
  simp only[U1.q]at h
  split at h<;>try(cases h;done)
  rename_i t' x lo hi d ho hd
  split at h<;>try(cases h;done)
  rename_i s0 e z0 n rs a' b' hty hx hlo hhi
  split at h<;>try(cases h;done)
  rename_i te hte
  cases hc:bd5 d X.nt<;>rw[hc]at h<;>simp only[fj8,fj6,reduceCtorEq,aI5,aX4]at h
  obtain⟨rfl,rfl⟩:=h
  obtain⟨h1,h2,h3⟩:=ht
  have h1:=V.eq h1
  have h2:=V.eq h2
  have h3:=V.eq h3
  simp only[aX4]at h2
  obtain⟨rfl,rfl⟩:=h2
  subst h1
  exact B5.eu7 ho hd hc (aG0 hg) hx hty hte (fun y=>congrFun h3 y) hlo hhi hr
 |_,.sO enc l b id,t,σ,k,h,ht,hr=>by
  simp only[U1.q]at h
  split at h<;>try(cases h;done)
  rename_i t' x hi d ho hd
  split at h<;>try(cases h;done)
  rename_i s0 e' z0 i b' hty hx hhi
  split at h<;>try(cases h;done)
  rename_i te e sz n rs hte hb
  cases hc:(bd5 d X.nt&&bM1 te.size sz&&bd5 id big&&M9 id (fgT i (rmv [] tm))&&M0 id (fgH i hp)&&M0 i (fgH i hp)&&uniq hp)<;>rw[hc]at h<;>simp only[fj8,fj6,reduceCtorEq,aI5,aX4]at h
  obtain⟨rfl,rfl⟩:=h
  simp only[aJ5]at hc
  obtain⟨⟨⟨⟨⟨⟨c1,c2⟩,c3⟩,c4⟩,c5⟩,c6⟩,c7⟩:=hc
  have h1:=V.eq ht.1
  have h2:=V.eq ht.2
  subst h1 h2
  exact B5.eu8 ho hd c1 (aG0 hg) hx hb hty hte hhi (dk4 c7) c3 c4 c5 c6 hr
 |_,.cp enc l r,t,σ,k,h,ht,hr=>by
  simp only[U1.q]at h
  split at h<;>try(cases h;done)
  rename_i args tys ho
  split at h<;>try(cases h;done)
  rename_i s x t' t'' ha hb
  split at h<;>try(cases h;done)
  rename_i s0 e' z0 id tm' hp0 hty hs at7
  split at h<;>try(cases h;done)
  rename_i te e sz n rs hte hbl
  cases hc:bM1 sz te.size<;>rw[hc]at h<;>simp only[fj8,fj6,reduceCtorEq,aI5,aX4]at h
  obtain⟨rfl,rfl⟩:=h
  have:=bp9 hc
  subst this
  obtain⟨h1,h2,h3,h4⟩:=ht
  have h1:=V.eq h1
  have h2:=V.eq h2
  have h4:=V.eq h4
  subst h4
  have ha:args= #[s,x]:=by cases args;simp_all
  have hb:tys= #[t',t'']:=by cases tys;simp_all
  subst ha hb
  obtain⟨m,hx⟩:=dA2 h3
  have hk:=hr (aJ2 l r) rfl
  rcases hx with hx|⟨i2,e2,hx1,hx2⟩
  ·exact B5.ek5 (e2:=0) ho (aG0 hg) hty hte (fun y=>congrFun h1 y) (fun y=>congrFun h2 y) hs hbl (.inl hx) (dR7 _ at7) hk
  ·exact B5.ek5 ho (aG0 hg) hty hte (fun y=>congrFun h1 y) (fun y=>congrFun h2 y) hs hbl (.inr ⟨i2,hx1,hx2⟩) (dR7 _ at7) hk
theorem eD1 {all:List Oper}{kb:List Nat}{tm tm':List (Nat×T)}{g:Option (Nat×Bool)}{b:Bool}(hm:more tm tm')(h:gk all kb tm g=some b):gk all kb tm' g=some b:=by
 cases g with
 |none=>exact h
 |some p=>
  obtain⟨j,want⟩:=p
  simp only[gk]at h|-
  split at h<;>try(cases h;done)
  rename_i ho
  try simp only[ho]
  split at h<;>try(cases h;done)
  rename_i hd
  try simp only[hd]
  split at h<;>try(cases h;done)
  ·rename_i hl;rw[hm _ _ hl];exact h
  ·rename_i hl;rw[hm _ _ hl];exact h
theorem U1.fc8 {all:Array Oper}{kb:List Nat}{Γ:List GF}(hΓ:∀f∈Γ,f.ok){U0:List (Nat×T)}{an6:List (Nat×G3)}{o:Oper}(hg:gk all.toList kb U0 o.guard=some true):
  ∀{β:Type}{u:U1 β}{t:Tr}{f:β->T×Option (Nat×G3)},u.qD X.C4 X.nt Γ U0 an6 o=some (t,f)->t.den->∀y,u.m=some y->ai2 X all o U0 an6 (f y).1 (f y).2
 |_,.st enc l i z n,t,f,h,ht,y,hy=>by
  simp only[U1.qD]at h
  split at h<;>try(cases h;done)
  rename_i t' σ hq
  split at h<;>try(cases h;done)
  rename_i ty p x hop hd
  split at h<;>try(cases h;done)
  rename_i id i' sz off hp1
  split at h<;>try(cases h;done)
  rename_i e sz2 n2 rs hb
  simp only[aI5,aX4]at h
  obtain⟨rfl,rfl⟩:=h
  refine ai2.eL9 fun tm hp hm hh=>⟨⟨tm,at7 hp id (.rows e sz y.length (y.map enc))⟩,?_,?_,?_⟩
  ·intro k u hk;simpa[pt,hd]using hk
  ·intro k c hk;rw[cP7 (hh _ _ hb)];exact hk
  ·have hq2:(U1.st enc l i z n).q X.C4 X.nt Γ tm hp o=some (t',fun l'=>⟨tm,at7 hp id (.rows e sz l'.length (l'.map enc))⟩):=by
    simp only[U1.q]at hq|-
    split at hq<;>try(cases hq;done)
    rename_i t2 p2 x2 g hop2 hd2 hΓn
    rw[hop]at hop2
    simp only[Op.store.injEq]at hop2
    obtain⟨e1,e2,e3⟩:=hop2
    subst e1 e2 e3
    split at hq<;>try(cases hq;done)
    rename_i hp2 hti hx
    rw[hp1]at hp2
    simp only[aI5,T.pe.injEq]at hp2
    obtain⟨e1,e2,e3,e4⟩:=hp2
    subst e1 e2 e3 e4
    split at hq<;>try(cases hq;done)
    rename_i hb2 hlt
    rw[hb]at hb2
    simp only[aI5,G3.rows.injEq]at hb2
    obtain⟨e1,e2,e3,e4⟩:=hb2
    subst e1 e2 e3 e4
    have hx':∀cs,(val U0 x).bind (ap6 an6)=some cs->(val tm x).bind (ap6 hp)=some cs:=fun cs hc=>by
     cases hv:val U0 x with
     |none=>simp[hv]at hc
     |some u=>rw[C9 hm hv];rw[hv]at hc;exact bq7 hh hc
    simp only[C9 hm hp1,hti,hx' _ hx,hh _ _ hb,hlt]
    revert hq
    cases(bM1 sz sz2&&bM1 _ _&&dO2 _ sz)<;>intro hq<;>simp only[fj8,fj6,reduceCtorEq,aI5,aX4]at hq|-
    exact⟨hq.1,trivial⟩
   have:=U1.ok (X:=X) (all:=all) (rest:=[]) (ks:=[]) (k:=fun _=>some ()) (Q:=fun _ e' σ=>e'= .normal/\σ=⟨tm,at7 hp id (.rows e sz y.length (y.map enc))⟩) hΓ (eD1 hm hg) hq2 ht (fun y' hy'=>by
    rw[hy]at hy';cases hy'
    exact B5.nil (E4.leaf ⟨rfl,rfl⟩))
   rw[hy]at this
   exact this
 |_,.ap enc l r id,t,f,h,ht,y,hy=>by
  simp only[U1.qD,U1.qA]at h
  split at h<;>try(cases h;done)
  rename_i args tys d hop hd
  split at h<;>try(cases h;done)
  rename_i s x t1 t2 dd5 htys
  split at h<;>try(cases h;done)
  rename_i s0 e z0 hty
  split at h<;>try(cases h;done)
  rename_i te hte
  split at h<;>try(cases h;done)
  rename_i v v' e' sz n rs hs hb
  cases hc:(bM1 t1 t2&&bd5 d X.nt&&bM1 te.zero.length te.size&&bd5 id big&&bM1 e' e&&bM1 sz te.size)<;>rw[hc]at h<;>simp only[fj8,fj6,reduceCtorEq,aI5,aX4]at h
  obtain⟨rfl,rfl⟩:=h
  simp only[aJ5]at hc
  obtain⟨⟨⟨⟨⟨c1,c2⟩,c3⟩,c4⟩,c5⟩,c6⟩:=hc
  have c1:=bp9 c1
  have c5:=bp9 c5
  have c6:=bp9 c6
  subst c1 c5 c6
  obtain⟨h1,h2,h3,h4,h5⟩:=ht
  have h1:=V.eq h1
  have h2:=V.eq h2
  have h3:=V.eq h3
  have h4:=V.eq h4
  subst h1 h2
  have hop':o.op= .call ⟨.builtin .append,#[s,x],#[t1,t1]⟩:=by
   rw[hop]
   congr 2
   ·exact ff3 dd5
   ·exact ff3 htys
  obtain⟨m',e'',cf3⟩:∃m' e'',val U0 x=some (.t (.sl m' (r.map enc)))\/∃i2,val U0 x=some (.own i2)/\look an6 i2=some (.rows e'' te.size m' (r.map enc)):=by
   unfold dg2 at h5
   split at h5<;>try(exact h5.elim)
   ·rename_i n1 rs1 hx
    have:=V.eq h5
    subst this
    exact⟨_,0,.inl hx⟩
   ·rename_i i2 hx
    split at h5<;>try(exact h5.elim)
    rename_i e1 s2 n1 rs1 hb2
    obtain⟨g1,g2⟩:=ay7 h5
    have g1:=bp9 g1
    have:=V.eq g2
    subst this g1
    exact⟨_,_,.inr ⟨i2,hx,hb2⟩⟩
  exact ai2.append (e':=e'') hg hop' hd hty hte (bp9 c3) (fun y=>congrFun h3 y) (fun y=>congrFun h4 y) hs hb cf3 c4 hy
 |_,.an ..,t,f,h,_,_,_=>by simp[U1.qD]at h
 |_,.sF ..,t,f,h,_,_,_=>by simp[U1.qD]at h
 |_,.sO ..,t,f,h,_,_,_=>by simp[U1.qD]at h
 |_,.cp ..,t,f,h,_,_,_=>by simp[U1.qD]at h
theorem dV9 {tm:List (Nat×T)}{hp:List (Nat×G3)}{o:Oper}{n d:Nat}{l:List T}{s:Bool}(h:cL9 tm hp o=some (n,l,s,d)):o.dst=some d:=by
 unfold cL9 at h
 split at h<;>try(cases h;done)
 rename_i hd
 split at h
 ·simp only[aI5,aX4]at h;rw[hd,h.2.2.2]
 ·split at h<;>try(cases h;done)
  simp only[aI5,aX4]at h;rw[hd,h.2.2.2]
theorem dW0 {tm:List (Nat×T)}{hp:List (Nat×G3)}{o:Oper}{n d:Nat}{l:List T}{s:Bool}(h:cL9 tm hp o=some (n,l,s,d)):aR7 o.op=false:=by
 unfold cL9 at h
 split at h<;>try(cases h;done)
 rename_i hy _
 unfold cM0 at hy
 split at hy<;>try(cases hy;done)
 rename_i ho
 rw[ho];rfl
theorem L1.dR8 {C4:Tab}{tm:List (Nat×T)}{hp:List (Nat×G3)}{o:Op}{r:Tr×(β->T)}:∀{l:L1 β},l.q C4 tm hp o=some r->aR7 o=false:=by
 intro l h
 cases l<;>simp only[L1.q]at h<;>split at h<;>first|(cases h;done)|rfl
theorem W1.dR8 {P:Program}{Ev:EqV P}{C4:Tab}{Γ:List GF}{tm:List (Nat×T)}{hp:List (Nat×G3)}{o:Op}{r:Tr×T}:∀{u:W1},u.q Ev C4 Γ tm hp o=some r->aR7 o=false
 | .hx n,h=>by
  simp only[W1.q]at h
  split at h<;>try(cases h;done)
  split at h<;>try(cases h;done)
  rename_i hq
  exact L1.dR8 hq
 | .ly n,h=>by
  simp only[W1.q]at h
  split at h<;>try(cases h;done)
  rfl
 | .eq,h=>by
  simp only[W1.q]at h
  split at h<;>try(cases h;done)
  rfl
 | .cn,h=>by
  simp only[W1.q]at h
  split at h<;>try(cases h;done)
  rfl
 | .sn,h=>by
  simp only[W1.q]at h
  split at h<;>try(cases h;done)
  rfl
theorem M.ok {Ev:EqV X.P}(hmx:X.P.follows .mixedOrders=true):∀{τ:Type} (x:M X.P ρ τ) (Γ:List GF) (c:Cg ρ) (o:τ->Out ρ),(∀f∈Γ,f.ok)->(x.chk Ev X.C4 X.nt Qf Γ c o).den->bg6 X (QfP Qf) c x.run (fun v e σ'=>(o v).den (QfP Qf) e σ')
 |_,.R v,Γ,c,o,hΓ,h=>by
  simp only[M.chk]at h
  exact aK8 hmx (fun r l σ=>Out.never _) true true _ c (dQ4 h)
 |_,.N,Γ,c,o,hΓ,h=>by
  cases c with
  |S ks σ=>exact E4.fail
  |O all kb ops ks σ=>exact B5.fail
  |D=>exact fun _ _ _=>E4.fail
  |X id σ=>exact fun r hr=>by cases hr
  |R r=>exact fun v hv=>by cases hv
 |_,.I b x y,Γ,c,o,hΓ,h=>by
  simp only[M.chk]at h
  refine aK8 hmx (fun r l σ=>Out.never _) true true fuel c ?_
  split at h<;>try(exact h.elim)
  rename_i q z w ks σ hc
  rw[hc]
  split at h<;>try(exact h.elim)
  rename_i b' hv
  obtain⟨h1,h2,h3⟩:=h
  have h1:=V.eq h1
  subst h1
  exact E4.cond hv (M.ok hmx x Γ _ o hΓ h2) (M.ok hmx y Γ _ o hΓ h3)
 |_,.K f x,Γ,c,o,hΓ,h=>by
  simp only[M.chk]at h
  refine aK8 hmx (fun r l σ=>Out.never _) true true fuel c ?_
  split at h<;>try(exact h.elim)
  rename_i all kb q tm hp fz nx hc
  split at h<;>try(exact h.elim)
  rename_i n l s d hg hq
  obtain⟨hb,h1,h2,h3⟩:=ay7 h
  have h5:=V.eq h1
  simp only[aX4]at h5
  obtain⟨h6,rfl⟩:=h5
  refine bg6.pre fun t ht=>?_
  have hd:q.dst=some d:=dV9 hq
  have bN5:aR7 q.op=false:=dW0 hq
  exact bE3 hc (ai2.call ht hg hq (by rw[h6];exact f.ok) (fun hs=>by subst hs;exact congrFun (V.eq h2) t)) (fun d' hd'=>by rw[hd]at hd';cases hd';exact hb)
   (.old bN5) (M.ok hmx (x t) Γ _ o hΓ (h3 t))
 |_,.KG f nm x,Γ,c,o,hΓ,h=>by
  simp only[M.chk]at h
  refine aK8 hmx (fun r l σ=>Out.never _) true true fuel c ?_
  split at h<;>try(exact h.elim)
  ·rename_i all kb q r ks tm hp hc
   rw[hc]
   split at h<;>try(exact h.elim)
   rename_i n targs d hg hq hd
   generalize dQ5 f.args f.hp targs hp=lm at h
   split at h<;>try(exact h.elim)
   rename_i am5 aO2 hr1 hr2
   obtain⟨hb,h1,h2,h3⟩:=ay7 h
   simp only[aJ5]at hb
   have h1:=V.eq h1
   have h2:=V.eq h2
   have hn:=bp9 hb.1.1
   subst hn
   have key:∀t,∃rt rh,aM7 (lm++dM5 f.nw nm) (f.res t)=some rt/\aS4 (lm++dM5 f.nw nm) (f.Z4 t)=some rh/\((x t).chk Ev X.C4 X.nt Qf Γ (.O all kb r ks ⟨(d,rt)::tm,rh++aq0 lm hp⟩) o).den:=fun t=>by
    have h4:=h3 t
    dsimp only at h4
    split at h4
    ·rename_i rt rh e1 e2;exact⟨rt,rh,e1,e2,h4⟩
    ·exact h4.elim
   refine B5.g (dK4:=fun t=>(key t).choose) (rhp:=fun t=>(key t).choose_spec.choose) lm (dM5 f.nw nm) f.ok (targs:=targs) (am5:=am5) (aO2:=aO2) (d:=d) (hp2:=aq0 lm hp) ?_ h1 h2
    (fun t=>(key t).choose_spec.choose_spec.1) (fun t=>(key t).choose_spec.choose_spec.2.1) (fun t ht=>M.ok hmx (x t) Γ _ o hΓ (key t).choose_spec.choose_spec.2.2)
   unfold dr3
   rw[aG0 hg]
   simp only[hq,hr1,hr2,hd,hb.2,hb.1.2,eW8,fj8]
  ·rename_i id dU3 h0 bs ws ops vs tm0 hp0 fz kb0 ks hc
   rw[hc]
   split at h<;>try(exact h.elim)
   rename_i all kb q tm hp fz' nx hh
   split at h<;>try(exact h.elim)
   rename_i n targs d hg hq hd
   split at h
   ·rename_i c
    split at h<;>try(exact h.elim)
    ·rename_i hhp
     split at h<;>try(exact h.elim)
     rename_i am5 hr1
     obtain⟨hb,h1,h3⟩:=ay7 h
     simp only[aJ5]at hb
     have h1:=V.eq h1
     have hn:=bp9 hb.1.1
     subst hn
     refine bg6.pre fun t ht=>?_
     have h4:=h3 t
     dsimp only at h4
     split at h4<;>try(exact h4.elim)
     rename_i r1 e2 sz2 n2 rs2 hr2
     split at h4<;>try(exact h4.elim)
     rename_i rt hr3
     have hok:=f.ok
     rw[hhp]at hok
     exact bJ1 hh (ai2.eZ4 ht hok hg hq hd hb.1.2 hb.2 hr1 h1 hr3 hr2) (M.ok hmx (x t) Γ _ o hΓ h4)
    ·rename_i b1 e sz n1 rs v' e' sz' n1' rs' hhp hlk
     obtain⟨hb,h1,h2,h3⟩:=ay7 h
     simp only[aJ5]at hb
     have h1:=V.eq h1
     have h2:=V.eq h2
     simp only[aX4]at h2
     obtain⟨rfl,rfl,rfl,rfl⟩:=h2
     have hn:=bp9 hb.1.1.1
     subst hn
     refine bg6.pre fun t ht=>?_
     have h4:=h3 t
     dsimp only at h4
     split at h4<;>try(exact h4.elim)
     rename_i r1 e2 sz2 n2 rs2 hr2
     split at h4<;>try(exact h4.elim)
     rename_i rt hr1
     have hok:=f.ok
     rw[hhp]at hok
     exact bJ1 hh (ai2.eZ5 ht hok hg hq hd hlk hb.1.2 h1 hb.2 hr1 hr2) (M.ok hmx (x t) Γ _ o hΓ h4)
   generalize dQ5 f.args f.hp targs hp=lm at h
   split at h<;>try(exact h.elim)
   rename_i am5 aO2 hr1 hr2
   obtain⟨hb,h1,h2,h3⟩:=ay7 h
   simp only[aJ5]at hb
   have h1:=V.eq h1
   have h2:=V.eq h2
   have hn:=bp9 hb.1.1.1
   subst hn
   refine bg6.pre fun t ht=>?_
   obtain⟨h4,h5⟩:=h3 t
   have h4:=V.eq h4
   split at h5<;>try(exact h5.elim)
   rename_i rt hrt
   exact bJ1 hh (ai2.eZ6 lm ht f.ok hg hq hd hb.1.1.2 hr1 h1 hr2 h2 hb.1.2 hb.2 hrt h4) (M.ok hmx (x t) Γ _ o hΓ h5)
 |_,.O l x,Γ,c,o,hΓ,h=>by
  simp only[M.chk]at h
  refine aK8 hmx (fun r l σ=>Out.never _) true true fuel c ?_
  split at h<;>try(exact h.elim)
  rename_i all kb q tm hp fz nx hc
  split at h<;>try(exact h.elim)
  rename_i t res d hg hq hd
  obtain⟨hb,h1,h2⟩:=ay7 h
  refine bg6.pre fun y hy=>?_
  exact bE3 hc (ai2.one hg hq h1 hy) (fun d' hd'=>by rw[hd]at hd';cases hd';exact hb) (.old (L1.dR8 hq)) (M.ok hmx (x y) _ _ o (L1.known hΓ hy) (h2 y))
 |_,.W u x,Γ,c,o,hΓ,h=>by
  simp only[M.chk]at h
  refine aK8 hmx (fun r l σ=>Out.never _) true true fuel c ?_
  split at h<;>try(exact h.elim)
  rename_i all kb q tm hp fz nx hc
  split at h<;>try(exact h.elim)
  rename_i t V d hg hq hd
  obtain⟨hb,h1,h2⟩:=ay7 h
  exact bE3 hc (ai2.known hΓ hg hq h1) (fun d' hd'=>by rw[hd]at hd';cases hd';exact hb) (.old (W1.dR8 hq)) (M.ok hmx x _ _ o hΓ h2)
 |_,.U u x,Γ,c,o,hΓ,h=>by
  simp only[M.chk]at h
  refine aK8 hmx (fun r l σ=>Out.never _) true true fuel c ?_
  split at h<;>try(exact h.elim)
  ·rename_i all kb q r ks tm hp hc
   rw[hc]
   split at h<;>try(exact h.elim)
   rename_i t σ hg hq
   exact U1.ok hΓ hg hq h.1 fun y hy=>M.ok hmx (x y) _ (.O all kb r ks (σ y)) o (U1.known hΓ hy) (h.2 y)
  ·rename_i id all h0 bs ws ops vs tm0 hp0 fz kb ks hc
   rw[hc]
   split at h<;>try(exact h.elim)
   rename_i all' kb' q tm hp fz' nx hh
   split at h<;>try(exact h.elim)
   rename_i t f hg hq
   refine bg6.pre fun y hy=>?_
   exact bJ1 hh (U1.fc8 (all:=all') hΓ hg hq h.1 y hy) (M.ok hmx (x y) _ _ o (U1.known hΓ hy) (h.2 y))
 |_,.Mk enc n z x,Γ,c,o,hΓ,h=>by
  simp only[M.chk]at h
  refine aK8 hmx (fun r l σ=>Out.never _) true true fuel c ?_
  split at h<;>try(exact h.elim)
  rename_i all kb q tm hp fz nx hc
  split at h<;>try(exact h.elim)
  rename_i t a b d hg hop hd
  split at h<;>try(exact h.elim)
  rename_i k1 n1 k2 n2 s0 e z0 hx hy hty
  split at h<;>try(exact h.elim)
  rename_i te hte
  obtain⟨hb,h1,h2,h3⟩:=ay7 h
  simp only[aJ5]at hb
  obtain⟨⟨⟨⟨⟨c1,c2⟩,c3⟩,c4⟩,c5⟩,c6⟩:=hb
  have h1:=V.eq h1
  have h2:=V.eq h2
  simp only[aX4]at h1
  obtain⟨rfl,rfl,rfl⟩:=h1
  refine bg6.pre fun y hy'=>?_
  have hs:=ai2.mk (an6:=hp) hy' hop hd hg hx hy hty hte (bp9 c2) c3 h2 c4
  have bN5:aR7 q.op=true:=by rw[hop];rfl
  have h4:=h3 y
  have hdd:∀d',q.dst=some d'->bd5 d' X.nt=true:=fun d' hd'=>by rw[hd]at hd';cases hd';exact c1
  have hff:∀N,ci0 q N tm hp:=fun N=>⟨fun _ d' hd'=>by rw[hd]at hd';cases hd';rw[c5,c6];rfl,fun id h'=>by rw[dq5 bN5]at h';cases h'⟩
  cases hz:aD5 d fz<;>rw[hz]at h4
  ·exact bE3 hc hs hdd (hff _) (M.ok hmx (x y) Γ _ o hΓ h4)
  ·exact bE3 hc (hs.frz bN5 hd) hdd (hff _) (M.ok hmx (x y) Γ _ o hΓ h4)
 |_,.Z z x,Γ,c,o,hΓ,h=>by
  simp only[M.chk]at h
  refine aK8 hmx (fun r l σ=>Out.never _) (!x.isJ) (!x.isD) fuel c ?_
  split at h<;>try(exact h.elim)
  ·rename_i ks tm hp hc
   rw[hc]
   split at h<;>try(exact h.elim)
   rename_i σ hz
   exact Z1.eg9 hz (M.ok hmx x Γ (.S ks σ) o hΓ h)
  ·rename_i all kb ops ks tm hp hc
   rw[hc]
   split at h<;>try(exact h.elim)
   rename_i σ hz
   exact B5.via (fun k=>Z1.eg9 hz k) (M.ok hmx x Γ (.O all kb ops ks σ) o hΓ h)
  ·rename_i id tm hp hc
   rw[hc]
   split at h<;>try(exact h.elim)
   rename_i σ hz
   exact Z1.eg9 hz (M.ok hmx x Γ (.X id σ) o hΓ h)
 |_,.G b x y f,Γ,c,o,hΓ,h=>by
  simp only[M.chk]at h
  refine aK8 hmx (fun r l σ=>Out.never _) true true fuel c ?_
  split at h<;>try(exact h.elim)
  rename_i all kb ops ks tm hp hc
  rw[hc]
  split at h<;>try(exact h.elim)
  rename_i d b' g q r hg
  obtain⟨h1,h2,h3,h4⟩:=h
  have h1:=V.eq h1
  subst h1
  exact B5.grp hg (M.ok hmx x Γ _ _ hΓ h2) (M.ok hmx y Γ _ _ hΓ h3) (fun v=>M.ok hmx (f v) Γ _ o hΓ (h4 v))
 |_,.J0 n s x f,Γ,c,o,hΓ,h=>by
  have key:∀c':Cg ρ,(match c' with| .S (.c z::ks) σ=>Tr.and (x.chk Ev X.C4 X.nt Qf Γ (.S [.c z] σ) (fun v=>.nx (upd (s v) ⟨rmv (aj1 z) σ.tm,σ.hp⟩))) (.all fun v=>(f v).chk Ev X.C4 X.nt Qf Γ (.S ks (upd (s v) ⟨rmv (aj1 z) σ.tm,σ.hp⟩)) o)|_=>Tr.bad).den->
    bg6 X (QfP Qf) c' (M.run (.J0 n s x f)) (fun v e σ'=>(o v).den (QfP Qf) e σ'):=by
   intro c' h
   split at h<;>try(exact h.elim)
   rename_i z ks σ
   refine E4.bind (Q₁:=fun v e σ'=>(Out.nx (upd (s v) ⟨rmv (aj1 z) σ.tm,σ.hp⟩)).den (QfP Qf) e σ') (M.ok hmx x Γ (.S [.c z] σ) _ hΓ h.1) fun v e σ' _ hd=>?_
   obtain⟨rfl,hs⟩:=hd
   exact aa5.sub hs (M.ok hmx (f v) Γ (.S ks _) o hΓ (h.2 v))
  cases n with
  |zero=>rw[M.chk]at h;exact aK8 hmx (fun r l σ=>Out.never _) false true fuel c (key _ h)
  |succ n=>
   rw[M.chk]at h
   ·exact aK8 hmx (fun r l σ=>Out.never _) true false fuel c (key _ h)
   ·exact fun h=>by cases h
 |_,.J n s k x f g,Γ,c,o,hΓ,h=>by
  have key:∀c':Cg ρ,(match c' with| .S (.c z::ks) σ=>Tr.and (x.chk Ev X.C4 X.nt Qf Γ (.S [.c z] σ) (fun v=>match v with| .inl v=>.nx (upd (s v) ⟨rmv (aj1 z) σ.tm,σ.hp⟩)| .inr w=>df3 ⟨rmv (aj1 z) σ.tm,σ.hp⟩ (k.sh w))) (.and (.all fun v=>(f v).chk Ev X.C4 X.nt Qf Γ (.S ks (upd (s v) ⟨rmv (aj1 z) σ.tm,σ.hp⟩)) o) (k.all fun w sh=>(g w).chk Ev X.C4 X.nt Qf Γ (cont ks ⟨rmv (aj1 z) σ.tm,σ.hp⟩ sh) o))|_=>Tr.bad).den->
    bg6 X (QfP Qf) c' (M.run (.J n s k x f g)) (fun v e σ'=>(o v).den (QfP Qf) e σ'):=by
   intro c' h
   split at h<;>try(exact h.elim)
   rename_i z ks σ
   rw[M.run]
   refine E4.bind (M.ok hmx x Γ (.S [.c z] σ) _ hΓ h.1) fun v e σ' _ hd=>?_
   cases v with
   |inl v=>
    obtain⟨rfl,hs⟩:=hd
    exact aa5.sub hs (M.ok hmx (f v) Γ (.S ks _) o hΓ (h.2.1 v))
   |inr w=>exact cl4 hd (M.ok hmx (g w) Γ _ o hΓ (Kd.dE4 h.2.2 w))
  cases n with
  |zero=>rw[M.chk]at h;exact aK8 hmx (fun r l σ=>Out.never _) false true fuel c (key _ h)
  |succ n=>
   rw[M.chk]at h
   ·exact aK8 hmx (fun r l σ=>Out.never _) true true (n+1) c (key _ h)
   ·exact fun h=>by cases h
 |_,.JF n s x i,Γ,c,o,hΓ,h=>by
  rw[M.chk]at h
  refine aK8 hmx (fun r l σ=>Out.never _) true true n c ?_
  split at h<;>try(exact h.elim)
  rename_i z ks σ hc
  rw[hc]
  obtain⟨hne,h1,h2⟩:=ay7 h
  have out:∀(v:_) (e:Exit) (σ':St),(eF6 (o v)).den (QfP Qf) e σ'->aa5 X ks e σ' (some v) (fun v e σ'=>(o v).den (QfP Qf) e σ'):=fun v e σ' hd=>by
   obtain⟨hn,hd⟩:=eF7 hd
   intro r hr a w hw
   cases hr
   cases e with
   |normal=>exact absurd rfl hn
   |exit id=>exact ax9 (dR1 hne) ⟨σ',hw,hd⟩
   |ret=>exact br6 ks ⟨σ',hw,hd⟩
   |goto l=>exact absurd hd (Out.never _)
   |panic ch=>exact absurd hd ((Out.calm _).1 ch)
   |outgrown=>exact absurd hd (Out.calm _).2
  refine E4.bind (M.ok hmx x Γ (.S [.c z] σ) _ hΓ h1) fun v e σ' _ hd=>?_
  cases v with
  |next v=>
   obtain⟨rfl,hs⟩:=hd
   exact aa5.sub hs (aK8 (c:=.S ks _) hmx (fun r l σ=>Out.never _) true true fuel (dQ4 (h2 v)))
  |brk v=>exact out _ e σ' hd
  |ret w=>exact out _ e σ' hd
 |_,.L (S:=S) (γ:=γ) hd nx k x s₀ f g,Γ,c,o,hΓ,h=>by
  rw[M.chk]at h
  refine aK8 hmx (fun r l σ=>Out.never _) true true fuel c ?_
  split at h<;>try(exact h.elim)
  rename_i z ks σ hc
  rw[hc]
  obtain⟨h1,h2,h3,h4⟩:=h
  rw[M.run]
  refine E4.loop (S:=S) (B:=S⊕γ) (fun a=>upd (hd a) ⟨rmv (aj1 z) σ.tm,σ.hp⟩) (fun(b:S⊕γ) e σ'=>match b with| .inl a'=>(Out.ex nx (upd (hd a') ⟨rmv (aj1 z) σ.tm,σ.hp⟩)).den (QfP Qf) e σ'| .inr w=>(df3 ⟨rmv (aj1 z) σ.tm,σ.hp⟩ (k.sh w)).den (QfP Qf) e σ') (cp8 h1) (fun a=>?_) (fun b e σ' _ hq=>?_)
  ·have:=M.ok hmx (x a) Γ (.S [.c z] (upd (hd a) ⟨rmv (aj1 z) σ.tm,σ.hp⟩)) _ hΓ (h2 a)
   refine fun r hr a w hw=>aL8 (fun e a w hp=>?_) _ _ _ _ (this r hr a w hw)
   obtain⟨σ',hs,hq⟩:=hp
   refine⟨σ',hs,?_⟩
   cases r with
   |inl s'=>exact hq
   |inr b=>
    cases b with
    |inl s'=>obtain⟨rfl,hs⟩:=hq;exact⟨by simp,rfl,hs⟩
    |inr w=>exact dx6 hq
  ·cases b with
   |inl a=>exact cl4 (s:=.ex nx (hd a)) hq (M.ok hmx (f a) Γ _ o hΓ (h3 a))
   |inr w=>exact cl4 hq (M.ok hmx (g w) Γ _ o hΓ (Kd.dE4 h4 w))
 |_,.LQ (S:=S) (γ:=γ) ri hd nx k x s₀ f g,Γ,c,o,hΓ,h=>by
  rw[M.chk]at h
  refine aK8 hmx (fun r l σ=>Out.never _) true true fuel c ?_
  split at h<;>try(exact h.elim)
  rename_i z ks σ hc
  rw[hc]
  obtain⟨h1,h2,h3,h4⟩:=h
  rw[M.run]
  refine E4.loop (S:=Int×S) (B:=S⊕γ) (fun a=>upd (.t ri (.t (tI a.1))::hd a.2) ⟨rmv (aj1 z) σ.tm,σ.hp⟩) (fun(b:S⊕γ) e σ'=>match b with| .inl a'=>(Out.ex nx (upd (hd a') ⟨rmv (aj1 z) σ.tm,σ.hp⟩)).den (QfP Qf) e σ'| .inr w=>(df3 ⟨rmv (aj1 z) σ.tm,σ.hp⟩ (k.sh w)).den (QfP Qf) e σ') (cp8 h1) (fun a=>?_) (fun b e σ' _ hq=>?_)
  ·have:=M.ok hmx (x a) Γ (.S [.c z] (upd (.t ri (.t (tI a.1))::hd a.2) ⟨rmv (aj1 z) σ.tm,σ.hp⟩)) _ hΓ (h2 a)
   refine fun r hr a w hw=>aL8 (fun e a w hp=>?_) _ _ _ _ (this r hr a w hw)
   obtain⟨σ',hs,hq⟩:=hp
   refine⟨σ',hs,?_⟩
   cases r with
   |inl s'=>exact hq
   |inr b=>
    cases b with
    |inl s'=>obtain⟨rfl,hs⟩:=hq;exact⟨by simp,rfl,hs⟩
    |inr w=>exact dx6 hq
  ·cases b with
   |inl a=>exact cl4 (s:=.ex nx (hd a)) hq (M.ok hmx (f a) Γ _ o hΓ (h3 a))
   |inr w=>exact cl4 hq (M.ok hmx (g w) Γ _ o hΓ (Kd.dE4 h4 w))
 |_,.A enc l i f,Γ,c,o,hΓ,h=>bg6.pre fun y hy=>M.ok hmx (f y) (⟨enc,l,i,y⟩::Γ) c o (fun g hg=>by
   rcases ch6.1 hg with rfl|hg
   ·exact hy
   ·exact hΓ g hg) (h y)
 |_,.B x,Γ,c,o,hΓ,h=>by
  simp only[M.chk]at h
  refine aK8 hmx (fun r l σ=>Out.never _) false true fuel c ?_
  split at h<;>try(exact h.elim)
  rename_i id z ks σ hc
  rw[hc]
  exact E4.block (M.ok hmx x Γ _ o hΓ h)
 |_,.D fz ws x,Γ,c,o,hΓ,h=>by
  simp only[M.chk]at h
  refine aK8 hmx (fun r l σ=>Out.never _) (!x.isJ) false fuel c ?_
  split at h<;>try(exact h.elim)
  rename_i id ops ks σ hc
  rw[hc]
  have:=M.ok hmx x Γ _ o hΓ h (by simp) rfl (fun i V N o b hi=>by simp at hi)
  exact fun r hr a w hw=>this r hr a w (hw.bM5 (fun k t hk=>(cm4 hk).2) (fun k b hk=>hk))
 |_,.Sp b x y,Γ,c,o,hΓ,h=>by
  simp only[M.chk]at h
  refine aK8 hmx (fun r l σ=>Out.never _) true true fuel c ?_
  split at h<;>try(exact h.elim)
  ·rename_i id all h0 bs ws q r vs tm0 hp0 fz kb ks hcc
   rw[hcc]
   split at h<;>try(exact h.elim)
   rename_i j b' hc
   obtain⟨h1,h2,h3⟩:=h
   have h1:=V.eq h1
   subst h1
   exact eW0 hc (M.ok hmx x Γ _ o hΓ h2) (M.ok hmx y Γ _ o hΓ h3)
  ·rename_i all kb q r ks tm hp hcc
   rw[hcc]
   split at h<;>try(exact h.elim)
   rename_i d b' hc
   obtain⟨h1,h2,h3⟩:=h
   have h1:=V.eq h1
   subst h1
   exact eI7 hc (M.ok hmx x Γ _ o hΓ h2) (M.ok hmx y Γ _ o hΓ h3)
 |_,.Nl enc l x y,Γ,c,o,hΓ,h=>by
  simp only[M.chk]at h
  refine aK8 hmx (fun r l σ=>Out.never _) true true fuel c ?_
  split at h<;>try(exact h.elim)
  rename_i all kb q r ks tm hp hc
  rw[hc]
  split at h<;>try(exact h.elim)
  rename_i t z yt d hg ho hd
  split at h<;>try(exact h.elim)
  rename_i s0 e z0 n rs hty hz
  obtain⟨hb,h1,h2,h3,h4⟩:=ay7 h
  have h1:=V.eq h1
  subst h1
  have h2:=V.eq h2
  refine B5.isNil ho hd hb (aG0 hg) hty hz fun b hbl=>?_
  cases b
  ·exact M.ok hmx (y l) Γ (.O all kb r ks _) o hΓ h4
  ·have hl:=hbl rfl
   have e1:M.run (.Nl enc l x y)=x.run:=by rw[M.run,hl,h2]
   rw[e1]
   exact M.ok hmx x Γ (.O all kb r ks _) o hΓ h3
 |_,.Pn id x,Γ,c,o,hΓ,h=>by
  simp only[M.chk]at h
  refine aK8 hmx (fun r l σ=>Out.never _) (!x.isJ) false fuel c ?_
  split at h<;>try(exact h.elim)
  rename_i ks tm hp hc
  rw[hc]
  split at h<;>try(exact h.elim)
  rename_i e sz n rs hb
  intro r hr a w hw
  obtain⟨v,hv⟩:=hw.pin id hb
  exact M.ok hmx x Γ _ o hΓ (h v) r hr a w hv
 |_,.Mm id x,Γ,c,o,hΓ,h=>by
  simp only[M.chk]at h
  refine aK8 hmx (fun r l σ=>Out.never _) true true fuel c ?_
  split at h<;>try(exact h.elim)
  rename_i all kb q r ks tm hp hc
  rw[hc]
  split at h<;>try(exact h.elim)
  rename_i t d hg ho hd
  obtain⟨hb,h1⟩:=ay7 h
  simp only[aJ5]at hb
  exact B5.eS5 id ho hd hb.1 (aG0 hg) hb.2.1 hb.2.2.1 hb.2.2.2 (M.ok hmx x Γ (.O all kb r ks _) o hΓ h1)
 |_,.Ml m l k x,Γ,c,o,hΓ,h=>by
  simp only[M.chk]at h
  refine aK8 hmx (fun r l σ=>Out.never _) true true fuel c ?_
  split at h<;>try(exact h.elim)
  rename_i all kb q r ks tm hp hc
  rw[hc]
  split at h<;>try(exact h.elim)
  rename_i t a b d hg ho hd
  split at h<;>try(exact h.elim)
  rename_i id kv ha hb
  split at h<;>try(exact h.elim)
  rename_i es hl
  obtain⟨hb2,h1,h2⟩:=ay7 h
  have h3:=V.eq h1
  simp only[aX4]at h3
  obtain⟨e1,e2,e3⟩:=h3
  subst e1 e2 e3
  letI:=m.beq
  exact B5.ep5 m.law ho hd hb2 (aG0 hg) ha hl hb m.ht m.hk m.hz (M.ok hmx x Γ (.O all kb r ks _) o hΓ h2)
 |_,.Mu m l k v x,Γ,c,o,hΓ,h=>by
  simp only[M.chk]at h
  refine aK8 hmx (fun r l σ=>Out.never _) true true fuel c ?_
  split at h<;>try(exact h.elim)
  rename_i all kb q r ks tm hp hc
  rw[hc]
  split at h<;>try(exact h.elim)
  rename_i t a b u hg ho hd
  split at h<;>try(exact h.elim)
  rename_i id kv uv ha hb hu
  split at h<;>try(exact h.elim)
  rename_i es hl
  obtain⟨h1,h2⟩:=h
  have h3:=V.eq h1
  simp only[aX4]at h3
  obtain⟨e1,e2,e3,e4⟩:=h3
  subst e1 e2 e3 e4
  letI:=m.beq
  exact B5.ex8 m.law ho hd (aG0 hg) ha hl hb hu m.ht m.hk (M.ok hmx x Γ (.O all kb r ks _) o hΓ h2)
end
section
variable {P:Program} {ρ:Type} {C4:Tab}
def qfF (C4:Tab)(rs:List ResultVar)(res:ρ->T)(r:ρ)(σ:St):Tr:=tq (dn8 C4 σ rs) (some (res r))
def nmG (t0 r:T)(hp Z4:List (Nat×G3)):List (Nat×Nat):=
 match dd1 (mtT t0 r) []with
 |l=>match dd1 (boxes hp Z4) l with
  |l=>rest Z4 l
where
 boxes (hp:List (Nat×G3)):List (Nat×G3)->List (Nat×Nat)
  |[]=>[]
  |(j,.box us)::r=>(j,j)::(match look hp j with|some (.box ts)=>mtT.mtL ts us|_=>[])++boxes hp r
  |_::r=>boxes hp r
 has2 (j:Nat):List (Nat×Nat)->Bool
  |[]=>false
  |p::r=>bif bM1 p.2 j then true else has2 j r
 rest:List (Nat×G3)->List (Nat×Nat)->List (Nat×Nat)
  |[],l=>l
  |(j,_)::r,l=>bif has2 j l then rest r l else rest r (l++[(j,j)])
def qfG (C4:Tab)(rs:List ResultVar)(res:ρ->T)(Z4:ρ->List (Nat×G3))(r:ρ)(σ:St):Tr:=
 match eB9 C4 σ rs with
 |some t0=>match nmG t0 (res r) σ.hp (Z4 r)with
  |nm=>match aM7 nm t0 with
   |some t1=>bif cB7 nm&&bb8 (nm.map (·.1))then .and (tq (mrg t1 (res r)) (res r)) (tq ((Z4 r).map (eB8 nm σ.hp)) ((Z4 r).map fun p=>some p.2))else .bad
   |none=>.bad
 |none=>.bad
theorem eT8 {rs:List ResultVar}{res:ρ->T}{Z4:ρ->List (Nat×G3)}{r:ρ}{σ:St}(h:(qfG C4 rs res Z4 r σ).den):eM8 C4 σ rs (res r) (Z4 r):=by
 unfold qfG at h
 split at h<;>try(exact h.elim)
 rename_i t0 h0
 dsimp only at h
 split at h<;>try(exact h.elim)
 rename_i t1 h1
 obtain⟨hb,h2,h3⟩:=ay7 h
 exact⟨_,t0,t1,hb,h0,h1,V.eq h2,V.eq h3⟩
def eO5 (Ev:EqV P)(C4:Tab)(fn:Func)(args:List T)(res:ρ->T)(x:M P ρ ρ):Tr:=
 match fn.body with
 |some c=>bif dO2 args.length fn.ntmps then x.chk Ev C4 fn.ntmps (qfF C4 fn.results.toList res) [] (.S [.c c] ⟨number 0 args,[]⟩) .top else .bad
 |none=>.bad
def eO6 (Ev:EqV P)(C4:Tab)(fn:Func)(args:List T)(hp:List (Nat×G3))(res:ρ->T)(Z4:ρ->List (Nat×G3))(x:M P ρ ρ):Tr:=
 match fn.body with
 |some c=>bif dO2 args.length fn.ntmps then x.chk Ev C4 fn.ntmps (qfG C4 fn.results.toList res Z4) [] (.S [.c c] ⟨number 0 args,hp⟩) .top else .bad
 |none=>.bad
structure En (P:Program)where
 C4:Tab
 K4:aW1 P C4
 Ev:EqV P
 hmx:P.follows .mixedOrders=true
def C.of (Z:En P){n:Nat}{fn:Func}(aL2:∀vs w,(callFunc n vs).run P w= .ok (.enter n vs) w)(hf:P.funcs[n]? =some fn)(args:List T)(res:ρ->T)(x:M P ρ ρ)
  (h:(eO5 Z.Ev Z.C4 fn args res x).l=(eO5 Z.Ev Z.C4 fn args res x).r:=by kernel_rfl):C P ρ where
 n:=n
 args:=args
 m:=x.run
 e:=fun k=>x.rn k
 res:=res
 ok:=by
  have h:=Tr.of h
  unfold eO5 at h
  split at h<;>try(exact h.elim)
  rename_i c hb
  obtain⟨hle,h⟩:=ay7 h
  refine aQ7.i Z.K4 fn.ntmps fn.results.toList aL2 hf hb rfl rfl hle fun w0 L=>?_
  have key:E4 ⟨P,Z.C4,Z.K4,w0,L,fn.ntmps⟩ [.c c] _ x.run _:=M.ok (X:=⟨P,Z.C4,Z.K4,w0,L,fn.ntmps⟩) Z.hmx x [] _ .top (by simp) h
  refine fun r hr a w hw=>aL8 (fun e a w hq=>?_) _ _ _ _ (key r hr a w hw)
  obtain⟨σ',hs,he,hq⟩:=hq
  exact⟨σ',hs,he,V.eq hq⟩
 le:=fun k r hr=>M.le k x r hr
def CG.of (Z:En P){n:Nat}{fn:Func}(aL2:∀vs w,(callFunc n vs).run P w= .ok (.enter n vs) w)(hf:P.funcs[n]? =some fn)(args:List T)(hp:List (Nat×G3))(res:ρ->T)(Z4:ρ->List (Nat×G3))(nw:List Nat)(x:M P ρ ρ)
  (h:(eO6 Z.Ev Z.C4 fn args hp res Z4 x).l=(eO6 Z.Ev Z.C4 fn args hp res Z4 x).r:=by kernel_rfl):CG P ρ where
 n:=n
 args:=args
 hp:=hp
 m:=x.run
 e:=fun k=>x.rn k
 res:=res
 Z4:=Z4
 nw:=nw
 ok:=by
  have h:=Tr.of h
  unfold eO6 at h
  split at h<;>try(exact h.elim)
  rename_i c hb
  obtain⟨hle,h⟩:=ay7 h
  refine bh4.i Z.K4 fn.ntmps fn.results.toList aL2 hf hb rfl rfl hle fun w0 L=>?_
  have key:E4 ⟨P,Z.C4,Z.K4,w0,L,fn.ntmps⟩ [.c c] _ x.run _:=M.ok (X:=⟨P,Z.C4,Z.K4,w0,L,fn.ntmps⟩) Z.hmx x [] _ .top (by simp) h
  refine fun r hr a w hw=>aL8 (fun e a w hq=>?_) _ _ _ _ (key r hr a w hw)
  obtain⟨σ',hs,he,hq⟩:=hq
  exact⟨σ',hs,he,eT8 hq⟩
 le:=fun k r hr=>M.le k x r hr
end
open Go.MapKept in
theorem eU8:KeyLaw .string (fun s:ByteArray=>.string s):=⟨fun a b=>by simp[Instr.sameNow],fun a=>by simp[IsKey],fun a b h=>by
 have e:a=b:=by
  obtain⟨a⟩:=a
  obtain⟨b⟩:=b
  have h2:(a==b)=true:=h
  rw[eq_of_beq h2]
 subst e
 simpa[Instr.sameBits]using h⟩
def dt3 {α:Type}:List α->Option (List α)
 |[]=>some []
 |_=>none
def eG9 {α:Type}:List α->Int->Option (List α)
 |[x],n=>if n=1 then some [x]else none
 |_,_=>none
def dg1 {α:Type}(g:α->α->Option Int):List α->Option (List α)
 |[]=>some []
 |[x]=>match g x x with
  |some c=>bif decide (c<0)then none else some [x]
  |none=>none
 |_=>none
theorem dA0 {α:Type}{g g':α->α->Option Int}(hg:∀x y r,g' x y=some r->g x y=some r){l r:List α}(h:dg1 g' l=some r):bU5 g l=some r:=by
 match l,h with
 |[],h=>
  have:cI7 g ([]:List α):=⟨by simp,by simp,by simp,by simp,by simp,by simp⟩
  rw[bU6 this];rw[dg1]at h;simpa using h
 |[x],h=>
  simp only[dg1]at h
  split at h<;>try(cases h;done)
  rename_i c hc
  have hx:=hg x x c hc
  cases hn:decide (c<0)<;>rw[hn]at h<;>simp only[fj8,fj6,reduceCtorEq,aI5]at h
  have hl:ltM g x x=false:=by unfold ltM;rw[hx];simpa using hn
  have:cI7 g [x]:=⟨by simp,by simp[hx],by simpa using hl,by simp[hl],by simp[hl],by simp⟩
  rw[bU6 this]
  simpa using h
 |_::_::_,h=>simp[dg1]at h
def dI0 (x:Int):List Int->List Int
 |[]=>[x]
 |y::l=>bif decide (x<=y)then x::y::l else y::dI0 x l
def isI:List Int->List Int
 |[]=>[]
 |x::l=>dI0 x (isI l)
theorem cv7 (x:Int):∀l:List Int,(dI0 x l).Perm (x::l)
 |[]=>.refl _
 |y::l=>by
  unfold dI0
  cases decide (x<=y)
  ·exact((cv7 x l).cons y).trans (.swap x y l)
  ·exact .refl _
theorem dv4:∀l:List Int,(isI l).Perm l
 |[]=>.refl _
 |x::l=>(cv7 x _).trans ((dv4 l).cons x)
theorem cA7 (x:Int):∀{l:List Int},l.Pairwise (· <=·)->(dI0 x l).Pairwise (· <=·)
 |[],_=>by simp[dI0]
 |y::l,h=>by
  rw[ee3]at h
  unfold dI0
  cases hd:decide (x<=y)
  ·refine ee3.2 ⟨fun z hz=>?_,cA7 x h.2⟩
   rcases ch6.1 ((cv7 x l).mem_iff.1 hz)with rfl|hz
   ·have:=of_decide_eq_false hd;omega
   ·exact h.1 z hz
  ·have hxy:=of_decide_eq_true hd
   exact ee3.2 ⟨fun z hz=>by
    rcases ch6.1 hz with rfl|hz
    ·exact hxy
    ·have:=h.1 z hz;omega,ee3.2 h⟩
theorem cP3:∀l:List Int,(isI l).Pairwise (· <=·)
 |[]=>.nil
 |x::l=>cA7 x (cP3 l)
theorem cT8:∀{l m:List Int},l.Perm m->l.Pairwise (· <=·)->m.Pairwise (· <=·)->l=m
 |[],m,h,_,_=>(List.Perm.eq_nil h.symm).symm
 |x::l,[],h,_,_=>absurd h.length_eq (by simp)
 |x::l,y::m,h,hl,hm=>by
  rw[ee3]at hl hm
  have hxy:x=y:=by
   have h1:x∈y::m:=h.mem_iff.1 (bx8 ..)
   have h2:y∈x::l:=h.mem_iff.2 (bx8 ..)
   rcases ch6.1 h1 with e|h1
   ·exact e
   rcases ch6.1 h2 with e|h2
   ·exact e.symm
   have:=hl.1 y h2
   have:=hm.1 x h1
   omega
  subst hxy
  rw[cT8 h.cons_inv hl.2 hm.2]
def dL0 (l:List Int):Option (List Int):=bif dO2 l.length 1000 then some (isI l)else none
theorem ec6 {l r:List Int}(h:dL0 l=some r):bU4 l=some r:=by
 unfold dL0 at h
 cases hl:dO2 l.length 1000<;>rw[hl]at h<;>simp only[fj8,fj6,reduceCtorEq,aI5]at h
 subst h
 have:=bd4 hl
 rw[cx7 (by omega)]
 congr 1
 refine cT8 ((List.mergeSort_perm ..).trans (dv4 l).symm) ?_ (cP3 l)
 have:=List.pairwise_mergeSort (le:=fun x y:Int=>decide (x<=y)) (fun a b c h1 h2=>by simp only[fk4]at h1 h2|-;omega) (fun a b=>by simp only[cG1,fk4];omega) l
 exact this.imp fun h=>of_decide_eq_true h
open Go
def eB7 (n:Int):List Tree:=[tK .u16 n]
def eP3 (n:Int):List Tree:=[tK .u8 n]
@[ext] structure SMap where
 X:List Int
 Y:List Int
 Z:List (List Int)
def cN5 (x:SMap):List Tree:=[tS aN3 x.X,tS aN3 x.Y,tS (do7 aN3) x.Z]
abbrev dh8 (x:SMap):T:=.agg [.t (tS aN3 x.X),.t (tS aN3 x.Y),.t (tS (do7 aN3) x.Z)]
@[ext] structure Q0 where
 X:List Int
 Y:List Int
def bI7 (x:Q0):List Tree:=[tS aN3 x.X,tS aN3 x.Y]
abbrev ch7 (x:Q0):T:=.agg [.t (tS aN3 x.X),.t (tS aN3 x.Y)]
@[ext] structure aW0 where
 P:Int
 I:Int
 Low:Int
 bs5:Int
def dW7 (x:aW0):List Tree:=[tI x.P,tI x.I,tI x.Low,tI x.bs5]
abbrev dh7 (x:aW0):T:=.agg [.t (tI x.P),.t (tI x.I),.t (tI x.Low),.t (tI x.bs5)]
@[ext] structure o8 where
 Air:SMap
 O0:SMap
 p7:SMap
 aI4:SMap
 L7:Q0
 ae7:Q0
 aw2:Q0
 C3:Q0
 ae6:aW0
def aR4 (x:o8):List Tree:=[tS aN3 x.Air.X,tS aN3 x.Air.Y,tS (do7 aN3) x.Air.Z,tS aN3 x.O0.X,tS aN3 x.O0.Y,tS (do7 aN3) x.O0.Z,tS aN3 x.p7.X,tS aN3 x.p7.Y,tS (do7 aN3) x.p7.Z,tS aN3 x.aI4.X,tS aN3 x.aI4.Y,tS (do7 aN3) x.aI4.Z,tS aN3 x.L7.X,tS aN3 x.L7.Y,tS aN3 x.ae7.X,tS aN3 x.ae7.Y,tS aN3 x.aw2.X,tS aN3 x.aw2.Y,tS aN3 x.C3.X,tS aN3 x.C3.Y,tI x.ae6.P,tI x.ae6.I,tI x.ae6.Low,tI x.ae6.bs5]
abbrev S6 (x:o8):T:=.agg [.t (tS aN3 x.Air.X),.t (tS aN3 x.Air.Y),.t (tS (do7 aN3) x.Air.Z),.t (tS aN3 x.O0.X),.t (tS aN3 x.O0.Y),.t (tS (do7 aN3) x.O0.Z),.t (tS aN3 x.p7.X),.t (tS aN3 x.p7.Y),.t (tS (do7 aN3) x.p7.Z),.t (tS aN3 x.aI4.X),.t (tS aN3 x.aI4.Y),.t (tS (do7 aN3) x.aI4.Z),.t (tS aN3 x.L7.X),.t (tS aN3 x.L7.Y),.t (tS aN3 x.ae7.X),.t (tS aN3 x.ae7.Y),.t (tS aN3 x.aw2.X),.t (tS aN3 x.aw2.Y),.t (tS aN3 x.C3.X),.t (tS aN3 x.C3.Y),.t (tI x.ae6.P),.t (tI x.ae6.I),.t (tI x.ae6.Low),.t (tI x.ae6.bs5)]
@[ext] structure L4 where
 ai7:Int
 ap2:Int
 aP2:Int
 J2:Int
 P0:Int
 L2:Int
 aX9:Int
def bD9 (x:L4):List Tree:=[tI x.ai7,tI x.ap2,tI x.aP2,tI x.J2,tI x.P0,tI x.L2,tI x.aX9]
abbrev aL6 (x:L4):T:=.agg [.t (tI x.ai7),.t (tI x.ap2),.t (tI x.aP2),.t (tI x.J2),.t (tI x.P0),.t (tI x.L2),.t (tI x.aX9)]
@[ext] structure o6 where
 u6:List Int
 as0:Int
def bR7 (x:o6):List Tree:=[tS aN3 x.u6,tI x.as0]
abbrev at9 (x:o6):T:=.agg [.t (tS aN3 x.u6),.t (tI x.as0)]
@[ext] structure N1 where
 At:Int
 I7:Int
 bl6:Int
 bO1:Int
 bO2:Int
def am1 (x:N1):List Tree:=[tI x.At,tI x.I7,tI x.bl6,tI x.bO1,tI x.bO2]
abbrev bd6 (x:N1):T:=.agg [.t (tI x.At),.t (tI x.I7),.t (tI x.bl6),.t (tI x.bO1),.t (tI x.bO2)]
@[ext] structure U2 where
 Value:Int
 af1:Int
 aQ5:Bool
abbrev ch8 (x:U2):T:=.agg [.t (tI x.Value),.t (tI x.af1),.t (tB x.aQ5)]
@[ext] structure F7 where
 Sum:Int
abbrev bx6 (x:F7):T:=.agg [.t (tI x.Sum)]
@[ext] structure B8 where
 as9:Int
 aI2:Int
 Quiet:Int
def I6 (x:B8):List Tree:=[tI x.as9,tI x.aI2,tI x.Quiet]
abbrev aX6 (x:B8):T:=.agg [.t (tI x.as9),.t (tI x.aI2),.t (tI x.Quiet)]
@[ext] structure aa7 where
 Value:Int
 E5:Int
def an3 (x:aa7):List Tree:=[tI x.Value,tI x.E5]
abbrev bW0 (x:aa7):T:=.agg [.t (tI x.Value),.t (tI x.E5)]
@[ext] structure M8 where
 as8:Bool
 be0:Bool
 aj8:Int
 be1:Int
 Cells:List aa7
abbrev bs3 (x:M8):T:=.agg [.t (tB x.as8),.t (tB x.be0),.t (tI x.aj8),.t (tI x.be1),.t (tS an3 x.Cells)]
@[ext] structure Z8 where
 p7:Int
 N4:Int
abbrev dp3 (x:Z8):T:=.agg [.t (tI x.p7),.t (tI x.N4)]
@[ext] structure A7 where
 I7:U2
 ae6:F7
 aa6:List B8
 Q1:M8
 P0:Int
 af2:Z8
def ca0 (x:A7):List Tree:=[tI x.I7.Value,tI x.I7.af1,tB x.I7.aQ5,tI x.ae6.Sum,tS I6 x.aa6,tB x.Q1.as8,tB x.Q1.be0,tI x.Q1.aj8,tI x.Q1.be1,tS an3 x.Q1.Cells,tI x.P0,tI x.af2.p7,tI x.af2.N4]
abbrev aQ4 (x:A7):T:=.agg [.t (tI x.I7.Value),.t (tI x.I7.af1),.t (tB x.I7.aQ5),.t (tI x.ae6.Sum),.t (tS I6 x.aa6),.t (tB x.Q1.as8),.t (tB x.Q1.be0),.t (tI x.Q1.aj8),.t (tI x.Q1.be1),.t (tS an3 x.Q1.Cells),.t (tI x.P0),.t (tI x.af2.p7),.t (tI x.af2.N4)]
@[ext] structure D3 where
 V7:Bool
 At:Int
 H2:Int
 F9:Int
 aa4:Int
 aj7:Int
abbrev bB7 (x:D3):T:=.agg [.t (tB x.V7),.t (tI x.At),.t (tI x.H2),.t (tI x.F9),.t (tI x.aa4),.t (tI x.aj7)]
@[ext] structure j7 where
 D9:Bool
 At:Int
 Next:Bool
 E3:Bool
def E8 (x:j7):List Tree:=[tB x.D9,tI x.At,tB x.Next,tB x.E3]
abbrev ba8 (x:j7):T:=.agg [.t (tB x.D9),.t (tI x.At),.t (tB x.Next),.t (tB x.E3)]
@[ext] structure w9 where
 Q7:Int
 j1:List j7
def cN8 (x:w9):List Tree:=[tI x.Q7,tS E8 x.j1]
abbrev aN4 (x:w9):T:=.agg [.t (tI x.Q7),.t (tS E8 x.j1)]
@[ext] structure A1 where
 u0:Int
 O0:Int
 ae7:Int
 End:Int
 Y5:Int
 Gap:Int
 Extra:Int
def B3 (x:A1):List Tree:=[tI x.u0,tI x.O0,tI x.ae7,tI x.End,tI x.Y5,tI x.Gap,tI x.Extra]
abbrev aP4 (x:A1):T:=.agg [.t (tI x.u0),.t (tI x.O0),.t (tI x.ae7),.t (tI x.End),.t (tI x.Y5),.t (tI x.Gap),.t (tI x.Extra)]
@[ext] structure B6 where
 H2:Int
 Kind:Int
 u0:Int
 ai8:Int
def ay1 (x:B6):List Tree:=[tI x.H2,tI x.Kind,tI x.u0,tI x.ai8]
abbrev aX5 (x:B6):T:=.agg [.t (tI x.H2),.t (tI x.Kind),.t (tI x.u0),.t (tI x.ai8)]
@[ext] structure A3 where
 Event:B6
 Left:Int
 D9:Bool
 At:Int
def I3 (x:A3):List Tree:=[tI x.Event.H2,tI x.Event.Kind,tI x.Event.u0,tI x.Event.ai8,tI x.Left,tB x.D9,tI x.At]
abbrev bd7 (x:A3):T:=.agg [.t (tI x.Event.H2),.t (tI x.Event.Kind),.t (tI x.Event.u0),.t (tI x.Event.ai8),.t (tI x.Left),.t (tB x.D9),.t (tI x.At)]
@[ext] structure c8 where
 p6:o6
 B1:D3
 j4:w9
 Next:List A1
 D1:List A3
 Cut:Bool
def bf1 (x:c8):List Tree:=[tS aN3 x.p6.u6,tI x.p6.as0,tB x.B1.V7,tI x.B1.At,tI x.B1.H2,tI x.B1.F9,tI x.B1.aa4,tI x.B1.aj7,tI x.j4.Q7,tS E8 x.j4.j1,tS B3 x.Next,tS I3 x.D1,tB x.Cut]
abbrev R8 (x:c8):T:=.agg [.t (tS aN3 x.p6.u6),.t (tI x.p6.as0),.t (tB x.B1.V7),.t (tI x.B1.At),.t (tI x.B1.H2),.t (tI x.B1.F9),.t (tI x.B1.aa4),.t (tI x.B1.aj7),.t (tI x.j4.Q7),.t (tS E8 x.j4.j1),.t (tS B3 x.Next),.t (tS I3 x.D1),.t (tB x.Cut)]
abbrev aL7 (x:c8):List T:=[.t (tS aN3 x.p6.u6),.t (tI x.p6.as0),.t (tB x.B1.V7),.t (tI x.B1.At),.t (tI x.B1.H2),.t (tI x.B1.F9),.t (tI x.B1.aa4),.t (tI x.B1.aj7),.t (tI x.j4.Q7),.t (tS E8 x.j4.j1),.t (tS B3 x.Next),.t (tS I3 x.D1),.t (tB x.Cut)]
@[ext] structure Y9 where
 Mode:Int
 ay6:Int
 H0:Int
 F9:Int
 N9:Int
 aw3:Int
def dc3 (x:Y9):List Tree:=[tI x.Mode,tI x.ay6,tI x.H0,tI x.F9,tI x.N9,tI x.aw3]
abbrev aP5 (x:Y9):T:=.agg [.t (tI x.Mode),.t (tI x.ay6),.t (tI x.H0),.t (tI x.F9),.t (tI x.N9),.t (tI x.aw3)]
@[ext] structure aa8 where
 aY0:Bool
 bF9:Int
 E5:Int
 Seen:Bool
def cN6 (x:aa8):List Tree:=[tB x.aY0,tI x.bF9,tI x.E5,tB x.Seen]
abbrev aX7 (x:aa8):T:=.agg [.t (tB x.aY0),.t (tI x.bF9),.t (tI x.E5),.t (tB x.Seen)]
@[ext] structure X8 where
 Seen:Bool
 H0:Int
 F9:Int
def cz9 (x:X8):List Tree:=[tB x.Seen,tI x.H0,tI x.F9]
abbrev bc1 (x:X8):T:=.agg [.t (tB x.Seen),.t (tI x.H0),.t (tI x.F9)]
@[ext] structure ah6 where
 Over:Int
 Calm:Int
 Off:Bool
def cN4 (x:ah6):List Tree:=[tI x.Over,tI x.Calm,tB x.Off]
abbrev bl4 (x:ah6):T:=.agg [.t (tI x.Over),.t (tI x.Calm),.t (tB x.Off)]
@[ext] structure ac8 where
 Question:Int
 ar9:Int
 T3:Int
 Open:Bool
 Off:Bool
def dc2 (x:ac8):List Tree:=[tI x.Question,tI x.ar9,tI x.T3,tB x.Open,tB x.Off]
abbrev aT4 (x:ac8):T:=.agg [.t (tI x.Question),.t (tI x.ar9),.t (tI x.T3),.t (tB x.Open),.t (tB x.Off)]
@[ext] structure ao4 where
 K7:Bool
 bs4:Int
 aQ6:Int
def bu3 (x:ao4):List Tree:=[tB x.K7,tI x.bs4,tI x.aQ6]
abbrev bl5 (x:ao4):T:=.agg [.t (tB x.K7),.t (tI x.bs4),.t (tI x.aQ6)]
@[ext] structure z8 where
 Code:Int
 bh2:Int
 Pass:Int
 cC5:Int
 Age:Int
 E7:Int
 cr6:Bool
 Frame:Int
def M3 (x:z8):List Tree:=[tI x.Code,tI x.bh2,tI x.Pass,tI x.cC5,tI x.Age,tI x.E7,tB x.cr6,tI x.Frame]
abbrev aO5 (x:z8):T:=.agg [.t (tI x.Code),.t (tI x.bh2),.t (tI x.Pass),.t (tI x.cC5),.t (tI x.Age),.t (tI x.E7),.t (tB x.cr6),.t (tI x.Frame)]
@[ext] structure A5 where
 G5:Int
 E5:Int
 J5:Int
 Clean:Int
 A2:Int
 Frame:List Int
 H0:Int
def G1 (x:A5):List Tree:=[tI x.G5,tI x.E5,tI x.J5,tI x.Clean,tI x.A2,tS aN3 x.Frame,tI x.H0]
abbrev cI3 (x:A5):T:=.agg [.t (tI x.G5),.t (tI x.E5),.t (tI x.J5),.t (tI x.Clean),.t (tI x.A2),.t (tS aN3 x.Frame),.t (tI x.H0)]
@[ext] structure B7 where
 T0:List z8
 L:List A5
 aI1:Int
 ax8:Bool
def aR3 (x:B7):List Tree:=[tS M3 x.T0,tS G1 x.L,tI x.aI1,tB x.ax8]
abbrev aA9 (x:B7):T:=.agg [.t (tS M3 x.T0),.t (tS G1 x.L),.t (tI x.aI1),.t (tB x.ax8)]
@[ext] structure Y6 where
 I8:Int
 D2:Int
 Rest:Int
 L3:Int
 P0:Int
 Path:List Int
def cN7 (x:Y6):List Tree:=[tI x.I8,tI x.D2,tI x.Rest,tI x.L3,tI x.P0,tS aN3 x.Path]
abbrev aX8 (x:Y6):T:=.agg [.t (tI x.I8),.t (tI x.D2),.t (tI x.Rest),.t (tI x.L3),.t (tI x.P0),.t (tS aN3 x.Path)]
@[ext] structure af3 where
 u9:o8
 u5:A7
 j3:c8
 Q2:Y9
 M7:aa8
 H8:X8
 M1:ah6
 K3:ac8
 J1:ao4
 I0:B7
 A6:Y6
 Y4:L4
 Time:Int
abbrev ca9 (x:af3):T:=.agg [.t (tS aN3 x.u9.Air.X),.t (tS aN3 x.u9.Air.Y),.t (tS (do7 aN3) x.u9.Air.Z),.t (tS aN3 x.u9.O0.X),.t (tS aN3 x.u9.O0.Y),.t (tS (do7 aN3) x.u9.O0.Z),.t (tS aN3 x.u9.p7.X),.t (tS aN3 x.u9.p7.Y),.t (tS (do7 aN3) x.u9.p7.Z),.t (tS aN3 x.u9.aI4.X),.t (tS aN3 x.u9.aI4.Y),.t (tS (do7 aN3) x.u9.aI4.Z),.t (tS aN3 x.u9.L7.X),.t (tS aN3 x.u9.L7.Y),.t (tS aN3 x.u9.ae7.X),.t (tS aN3 x.u9.ae7.Y),.t (tS aN3 x.u9.aw2.X),.t (tS aN3 x.u9.aw2.Y),.t (tS aN3 x.u9.C3.X),.t (tS aN3 x.u9.C3.Y),.t (tI x.u9.ae6.P),.t (tI x.u9.ae6.I),.t (tI x.u9.ae6.Low),.t (tI x.u9.ae6.bs5),.t (tI x.u5.I7.Value),.t (tI x.u5.I7.af1),.t (tB x.u5.I7.aQ5),.t (tI x.u5.ae6.Sum),.t (tS I6 x.u5.aa6),.t (tB x.u5.Q1.as8),.t (tB x.u5.Q1.be0),.t (tI x.u5.Q1.aj8),.t (tI x.u5.Q1.be1),.t (tS an3 x.u5.Q1.Cells),.t (tI x.u5.P0),.t (tI x.u5.af2.p7),.t (tI x.u5.af2.N4),.t (tS aN3 x.j3.p6.u6),.t (tI x.j3.p6.as0),.t (tB x.j3.B1.V7),.t (tI x.j3.B1.At),.t (tI x.j3.B1.H2),.t (tI x.j3.B1.F9),.t (tI x.j3.B1.aa4),.t (tI x.j3.B1.aj7),.t (tI x.j3.j4.Q7),.t (tS E8 x.j3.j4.j1),.t (tS B3 x.j3.Next),.t (tS I3 x.j3.D1),.t (tB x.j3.Cut),.t (tI x.Q2.Mode),.t (tI x.Q2.ay6),.t (tI x.Q2.H0),.t (tI x.Q2.F9),.t (tI x.Q2.N9),.t (tI x.Q2.aw3),.t (tB x.M7.aY0),.t (tI x.M7.bF9),.t (tI x.M7.E5),.t (tB x.M7.Seen),.t (tB x.H8.Seen),.t (tI x.H8.H0),.t (tI x.H8.F9),.t (tI x.M1.Over),.t (tI x.M1.Calm),.t (tB x.M1.Off),.t (tI x.K3.Question),.t (tI x.K3.ar9),.t (tI x.K3.T3),.t (tB x.K3.Open),.t (tB x.K3.Off),.t (tB x.J1.K7),.t (tI x.J1.bs4),.t (tI x.J1.aQ6),.t (tS M3 x.I0.T0),.t (tS G1 x.I0.L),.t (tI x.I0.aI1),.t (tB x.I0.ax8),.t (tI x.A6.I8),.t (tI x.A6.D2),.t (tI x.A6.Rest),.t (tI x.A6.L3),.t (tI x.A6.P0),.t (tS aN3 x.A6.Path),.t (tI x.Y4.ai7),.t (tI x.Y4.ap2),.t (tI x.Y4.aP2),.t (tI x.Y4.J2),.t (tI x.Y4.P0),.t (tI x.Y4.L2),.t (tI x.Y4.aX9),.t (tI x.Time)]
abbrev eM6 (x:af3):List T:=[.t (tS aN3 x.u9.Air.X),.t (tS aN3 x.u9.Air.Y),.t (tS (do7 aN3) x.u9.Air.Z),.t (tS aN3 x.u9.O0.X),.t (tS aN3 x.u9.O0.Y),.t (tS (do7 aN3) x.u9.O0.Z),.t (tS aN3 x.u9.p7.X),.t (tS aN3 x.u9.p7.Y),.t (tS (do7 aN3) x.u9.p7.Z),.t (tS aN3 x.u9.aI4.X),.t (tS aN3 x.u9.aI4.Y),.t (tS (do7 aN3) x.u9.aI4.Z),.t (tS aN3 x.u9.L7.X),.t (tS aN3 x.u9.L7.Y),.t (tS aN3 x.u9.ae7.X),.t (tS aN3 x.u9.ae7.Y),.t (tS aN3 x.u9.aw2.X),.t (tS aN3 x.u9.aw2.Y),.t (tS aN3 x.u9.C3.X),.t (tS aN3 x.u9.C3.Y),.t (tI x.u9.ae6.P),.t (tI x.u9.ae6.I),.t (tI x.u9.ae6.Low),.t (tI x.u9.ae6.bs5),.t (tI x.u5.I7.Value),.t (tI x.u5.I7.af1),.t (tB x.u5.I7.aQ5),.t (tI x.u5.ae6.Sum),.t (tS I6 x.u5.aa6),.t (tB x.u5.Q1.as8),.t (tB x.u5.Q1.be0),.t (tI x.u5.Q1.aj8),.t (tI x.u5.Q1.be1),.t (tS an3 x.u5.Q1.Cells),.t (tI x.u5.P0),.t (tI x.u5.af2.p7),.t (tI x.u5.af2.N4),.t (tS aN3 x.j3.p6.u6),.t (tI x.j3.p6.as0),.t (tB x.j3.B1.V7),.t (tI x.j3.B1.At),.t (tI x.j3.B1.H2),.t (tI x.j3.B1.F9),.t (tI x.j3.B1.aa4),.t (tI x.j3.B1.aj7),.t (tI x.j3.j4.Q7),.t (tS E8 x.j3.j4.j1),.t (tS B3 x.j3.Next),.t (tS I3 x.j3.D1),.t (tB x.j3.Cut),.t (tI x.Q2.Mode),.t (tI x.Q2.ay6),.t (tI x.Q2.H0),.t (tI x.Q2.F9),.t (tI x.Q2.N9),.t (tI x.Q2.aw3),.t (tB x.M7.aY0),.t (tI x.M7.bF9),.t (tI x.M7.E5),.t (tB x.M7.Seen),.t (tB x.H8.Seen),.t (tI x.H8.H0),.t (tI x.H8.F9),.t (tI x.M1.Over),.t (tI x.M1.Calm),.t (tB x.M1.Off),.t (tI x.K3.Question),.t (tI x.K3.ar9),.t (tI x.K3.T3),.t (tB x.K3.Open),.t (tB x.K3.Off),.t (tB x.J1.K7),.t (tI x.J1.bs4),.t (tI x.J1.aQ6),.t (tS M3 x.I0.T0),.t (tS G1 x.I0.L),.t (tI x.I0.aI1),.t (tB x.I0.ax8),.t (tI x.A6.I8),.t (tI x.A6.D2),.t (tI x.A6.Rest),.t (tI x.A6.L3),.t (tI x.A6.P0),.t (tS aN3 x.A6.Path),.t (tI x.Y4.ai7),.t (tI x.Y4.ap2),.t (tI x.Y4.aP2),.t (tI x.Y4.J2),.t (tI x.Y4.P0),.t (tI x.Y4.L2),.t (tI x.Y4.aX9),.t (tI x.Time)]
@[ext] structure j8 where
 At:Int
 Channel:Int
 E3:Bool
def u4 (x:j8):List Tree:=[tI x.At,tI x.Channel,tB x.E3]
abbrev aB0 (x:j8):T:=.agg [.t (tI x.At),.t (tI x.Channel),.t (tB x.E3)]
@[ext] structure W0 where
 T4:Int
 af0:List Int
def an2 (x:W0):List Tree:=[tI x.T4,tS aN3 x.af0]
abbrev bV9 (x:W0):T:=.agg [.t (tI x.T4),.t (tS aN3 x.af0)]
@[ext] structure ae8 where
 Time:Int
 D2:Int
 p7:Int
 ee9:Int
 am6:List j8
 as8:List W0
 Off:Bool
def by8 (x:ae8):List Tree:=[tI x.Time,tI x.D2,tI x.p7,tI x.ee9,tS u4 x.am6,tS an2 x.as8,tB x.Off]
abbrev cr5 (x:ae8):T:=.agg [.t (tI x.Time),.t (tI x.D2),.t (tI x.p7),.t (tI x.ee9),.t (tS u4 x.am6),.t (tS an2 x.as8),.t (tB x.Off)]
@[ext] structure ah5 where
 cW1:Int
 To:Int
 ba9:Int
 Value:Int
def aH7 (x:ah5):List Tree:=[tI x.cW1,tI x.To,tI x.ba9,tI x.Value]
abbrev bN9 (x:ah5):T:=.agg [.t (tI x.cW1),.t (tI x.To),.t (tI x.ba9),.t (tI x.Value)]
abbrev dD2 (x:(Int×Int×Int×Int×Int)):T:=.agg [.t (tI x.1),.t (tI x.2.1),.t (tI x.2.2.1),.t (tI x.2.2.2.1),.t (tI x.2.2.2.2)]
@[ext] structure I9 where
 word:ByteArray
 low:Int
 high:Int
abbrev cb0 (x:(I9×I9×I9×I9×I9)):T:=.agg [.t (.v (.string x.1.word)),.t (tI x.1.low),.t (tI x.1.high),.t (.v (.string x.2.1.word)),.t (tI x.2.1.low),.t (tI x.2.1.high),.t (.v (.string x.2.2.1.word)),.t (tI x.2.2.1.low),.t (tI x.2.2.1.high),.t (.v (.string x.2.2.2.1.word)),.t (tI x.2.2.2.1.low),.t (tI x.2.2.2.1.high),.t (.v (.string x.2.2.2.2.word)),.t (tI x.2.2.2.2.low),.t (tI x.2.2.2.2.high)]
@[ext] structure aI7 where
 aw3:Int
 aP6:Int
def ce3 (x:aI7):List Tree:=[tI x.aw3,tI x.aP6]
abbrev aC2 (x:aI7):T:=.agg [.t (tI x.aw3),.t (tI x.aP6)]
@[ext] structure ci3 where
 bx7:List Int
def cN3 (x:ci3):List Tree:=[tS aN3 x.bx7]
abbrev bO0 (x:ci3):T:=.agg [.t (tS aN3 x.bx7)]
@[ext] structure O5 where
 J2:Int
 O1:List A1
 p7:Int
def cl8 (x:O5):List Tree:=[tI x.J2,tS B3 x.O1,tI x.p7]
abbrev dD1 (x:O5):T:=.agg [.t (tI x.J2),.t (tS B3 x.O1),.t (tI x.p7)]
@[ext] structure j9 where
 u:af3
 d:N1
 k:List ah5
 t:Int
 o9:Int
 Y7:List W0
 at8:Int
 C1:Int
 aQ3:Int
 D6:Int
 aJ6:Int
 E9:O5
 U8:Int
 A0:Int
 known:Bool
 cut:Bool
 y9:List j8
 S9:Int
def bk7 (x:j9):List Tree:=[tS aN3 x.u.u9.Air.X,tS aN3 x.u.u9.Air.Y,tS (do7 aN3) x.u.u9.Air.Z,tS aN3 x.u.u9.O0.X,tS aN3 x.u.u9.O0.Y,tS (do7 aN3) x.u.u9.O0.Z,tS aN3 x.u.u9.p7.X,tS aN3 x.u.u9.p7.Y,tS (do7 aN3) x.u.u9.p7.Z,tS aN3 x.u.u9.aI4.X,tS aN3 x.u.u9.aI4.Y,tS (do7 aN3) x.u.u9.aI4.Z,tS aN3 x.u.u9.L7.X,tS aN3 x.u.u9.L7.Y,tS aN3 x.u.u9.ae7.X,tS aN3 x.u.u9.ae7.Y,tS aN3 x.u.u9.aw2.X,tS aN3 x.u.u9.aw2.Y,tS aN3 x.u.u9.C3.X,tS aN3 x.u.u9.C3.Y,tI x.u.u9.ae6.P,tI x.u.u9.ae6.I,tI x.u.u9.ae6.Low,tI x.u.u9.ae6.bs5,tI x.u.u5.I7.Value,tI x.u.u5.I7.af1,tB x.u.u5.I7.aQ5,tI x.u.u5.ae6.Sum,tS I6 x.u.u5.aa6,tB x.u.u5.Q1.as8,tB x.u.u5.Q1.be0,tI x.u.u5.Q1.aj8,tI x.u.u5.Q1.be1,tS an3 x.u.u5.Q1.Cells,tI x.u.u5.P0,tI x.u.u5.af2.p7,tI x.u.u5.af2.N4,tS aN3 x.u.j3.p6.u6,tI x.u.j3.p6.as0,tB x.u.j3.B1.V7,tI x.u.j3.B1.At,tI x.u.j3.B1.H2,tI x.u.j3.B1.F9,tI x.u.j3.B1.aa4,tI x.u.j3.B1.aj7,tI x.u.j3.j4.Q7,tS E8 x.u.j3.j4.j1,tS B3 x.u.j3.Next,tS I3 x.u.j3.D1,tB x.u.j3.Cut,tI x.u.Q2.Mode,tI x.u.Q2.ay6,tI x.u.Q2.H0,tI x.u.Q2.F9,tI x.u.Q2.N9,tI x.u.Q2.aw3,tB x.u.M7.aY0,tI x.u.M7.bF9,tI x.u.M7.E5,tB x.u.M7.Seen,tB x.u.H8.Seen,tI x.u.H8.H0,tI x.u.H8.F9,tI x.u.M1.Over,tI x.u.M1.Calm,tB x.u.M1.Off,tI x.u.K3.Question,tI x.u.K3.ar9,tI x.u.K3.T3,tB x.u.K3.Open,tB x.u.K3.Off,tB x.u.J1.K7,tI x.u.J1.bs4,tI x.u.J1.aQ6,tS M3 x.u.I0.T0,tS G1 x.u.I0.L,tI x.u.I0.aI1,tB x.u.I0.ax8,tI x.u.A6.I8,tI x.u.A6.D2,tI x.u.A6.Rest,tI x.u.A6.L3,tI x.u.A6.P0,tS aN3 x.u.A6.Path,tI x.u.Y4.ai7,tI x.u.Y4.ap2,tI x.u.Y4.aP2,tI x.u.Y4.J2,tI x.u.Y4.P0,tI x.u.Y4.L2,tI x.u.Y4.aX9,tI x.u.Time,tI x.d.At,tI x.d.I7,tI x.d.bl6,tI x.d.bO1,tI x.d.bO2,tS aH7 x.k,tI x.t,tI x.o9,tS an2 x.Y7,tI x.at8,tI x.C1,tI x.aQ3,tI x.D6,tI x.aJ6,tI x.E9.J2,tS B3 x.E9.O1,tI x.E9.p7,tI x.U8,tI x.A0,tB x.known,tB x.cut,tS u4 x.y9,tI x.S9]
abbrev G6 (x:j9):List T:=[.t (tS aN3 x.u.u9.Air.X),.t (tS aN3 x.u.u9.Air.Y),.t (tS (do7 aN3) x.u.u9.Air.Z),.t (tS aN3 x.u.u9.O0.X),.t (tS aN3 x.u.u9.O0.Y),.t (tS (do7 aN3) x.u.u9.O0.Z),.t (tS aN3 x.u.u9.p7.X),.t (tS aN3 x.u.u9.p7.Y),.t (tS (do7 aN3) x.u.u9.p7.Z),.t (tS aN3 x.u.u9.aI4.X),.t (tS aN3 x.u.u9.aI4.Y),.t (tS (do7 aN3) x.u.u9.aI4.Z),.t (tS aN3 x.u.u9.L7.X),.t (tS aN3 x.u.u9.L7.Y),.t (tS aN3 x.u.u9.ae7.X),.t (tS aN3 x.u.u9.ae7.Y),.t (tS aN3 x.u.u9.aw2.X),.t (tS aN3 x.u.u9.aw2.Y),.t (tS aN3 x.u.u9.C3.X),.t (tS aN3 x.u.u9.C3.Y),.t (tI x.u.u9.ae6.P),.t (tI x.u.u9.ae6.I),.t (tI x.u.u9.ae6.Low),.t (tI x.u.u9.ae6.bs5),.t (tI x.u.u5.I7.Value),.t (tI x.u.u5.I7.af1),.t (tB x.u.u5.I7.aQ5),.t (tI x.u.u5.ae6.Sum),.t (tS I6 x.u.u5.aa6),.t (tB x.u.u5.Q1.as8),.t (tB x.u.u5.Q1.be0),.t (tI x.u.u5.Q1.aj8),.t (tI x.u.u5.Q1.be1),.t (tS an3 x.u.u5.Q1.Cells),.t (tI x.u.u5.P0),.t (tI x.u.u5.af2.p7),.t (tI x.u.u5.af2.N4),.t (tS aN3 x.u.j3.p6.u6),.t (tI x.u.j3.p6.as0),.t (tB x.u.j3.B1.V7),.t (tI x.u.j3.B1.At),.t (tI x.u.j3.B1.H2),.t (tI x.u.j3.B1.F9),.t (tI x.u.j3.B1.aa4),.t (tI x.u.j3.B1.aj7),.t (tI x.u.j3.j4.Q7),.t (tS E8 x.u.j3.j4.j1),.t (tS B3 x.u.j3.Next),.t (tS I3 x.u.j3.D1),.t (tB x.u.j3.Cut),.t (tI x.u.Q2.Mode),.t (tI x.u.Q2.ay6),.t (tI x.u.Q2.H0),.t (tI x.u.Q2.F9),.t (tI x.u.Q2.N9),.t (tI x.u.Q2.aw3),.t (tB x.u.M7.aY0),.t (tI x.u.M7.bF9),.t (tI x.u.M7.E5),.t (tB x.u.M7.Seen),.t (tB x.u.H8.Seen),.t (tI x.u.H8.H0),.t (tI x.u.H8.F9),.t (tI x.u.M1.Over),.t (tI x.u.M1.Calm),.t (tB x.u.M1.Off),.t (tI x.u.K3.Question),.t (tI x.u.K3.ar9),.t (tI x.u.K3.T3),.t (tB x.u.K3.Open),.t (tB x.u.K3.Off),.t (tB x.u.J1.K7),.t (tI x.u.J1.bs4),.t (tI x.u.J1.aQ6),.t (tS M3 x.u.I0.T0),.t (tS G1 x.u.I0.L),.t (tI x.u.I0.aI1),.t (tB x.u.I0.ax8),.t (tI x.u.A6.I8),.t (tI x.u.A6.D2),.t (tI x.u.A6.Rest),.t (tI x.u.A6.L3),.t (tI x.u.A6.P0),.t (tS aN3 x.u.A6.Path),.t (tI x.u.Y4.ai7),.t (tI x.u.Y4.ap2),.t (tI x.u.Y4.aP2),.t (tI x.u.Y4.J2),.t (tI x.u.Y4.P0),.t (tI x.u.Y4.L2),.t (tI x.u.Y4.aX9),.t (tI x.u.Time),.t (tI x.d.At),.t (tI x.d.I7),.t (tI x.d.bl6),.t (tI x.d.bO1),.t (tI x.d.bO2),.t (tS aH7 x.k),.t (tI x.t),.t (tI x.o9),.t (tS an2 x.Y7),.t (tI x.at8),.t (tI x.C1),.t (tI x.aQ3),.t (tI x.D6),.t (tI x.aJ6),.t (tI x.E9.J2),.t (tS B3 x.E9.O1),.t (tI x.E9.p7),.t (tI x.U8),.t (tI x.A0),.t (tB x.known),.t (tB x.cut),.t (tS u4 x.y9),.t (tI x.S9)]
abbrev dp4 (x:(Bool×Bool×Bool×Bool×Bool×Bool×Bool)):T:=.agg [.t (tB x.1),.t (tB x.2.1),.t (tB x.2.2.1),.t (tB x.2.2.2.1),.t (tB x.2.2.2.2.1),.t (tB x.2.2.2.2.2.1),.t (tB x.2.2.2.2.2.2)]
@[ext] structure S7 where
 Name:ByteArray
 cZ2:Int
 E7:Int
 af0:List Int
 ci1:Int
def ac0 (x:S7):List Tree:=[.v (.string x.Name),tI x.cZ2,tI x.E7,tS aN3 x.af0,tI x.ci1]
abbrev cy7 (x:S7):T:=.agg [.t (.v (.string x.Name)),.t (tI x.cZ2),.t (tI x.E7),.t (tS aN3 x.af0),.t (tI x.ci1)]
@[ext] structure j2 where
 N4:Int
 Kind:Int
 p7:Int
 E7:Int
def C8 (x:j2):List Tree:=[tI x.N4,tI x.Kind,tI x.p7,tI x.E7]
abbrev G8 (x:j2):T:=.agg [.t (tI x.N4),.t (tI x.Kind),.t (tI x.p7),.t (tI x.E7)]
@[ext] structure W5 where
 bG0:Int
 bG1:Int
 D2:Int
 L3:Int
 L7:Int
 aI6:Int
 Lambda:Int
 au8:Int
 X0:List Int
 Requests:List j2
abbrev cZ0 (x:W5):T:=.agg [.t (tI x.bG0),.t (tI x.bG1),.t (tI x.D2),.t (tI x.L3),.t (tI x.L7),.t (tI x.aI6),.t (tI x.Lambda),.t (tI x.au8),.t (tS aN3 x.X0),.t (tS C8 x.Requests)]
@[ext] structure ef4 where
 eY2:Int
 D2:Int
abbrev eM5 (x:ef4):T:=.agg [.t (tI x.eY2),.t (tI x.D2)]
@[ext] structure o5 where
 t:o8
 e:o6
 b:L4
 c:A7
 i:W5
 wanted:Int
 A0:Int
 ad9:Int
 late:Int
 pattern:List Bool
 time:Int
 out:O5
 fail:Int
abbrev Q6 (x:o5):List T:=[.t (tS aN3 x.t.Air.X),.t (tS aN3 x.t.Air.Y),.t (tS (do7 aN3) x.t.Air.Z),.t (tS aN3 x.t.O0.X),.t (tS aN3 x.t.O0.Y),.t (tS (do7 aN3) x.t.O0.Z),.t (tS aN3 x.t.p7.X),.t (tS aN3 x.t.p7.Y),.t (tS (do7 aN3) x.t.p7.Z),.t (tS aN3 x.t.aI4.X),.t (tS aN3 x.t.aI4.Y),.t (tS (do7 aN3) x.t.aI4.Z),.t (tS aN3 x.t.L7.X),.t (tS aN3 x.t.L7.Y),.t (tS aN3 x.t.ae7.X),.t (tS aN3 x.t.ae7.Y),.t (tS aN3 x.t.aw2.X),.t (tS aN3 x.t.aw2.Y),.t (tS aN3 x.t.C3.X),.t (tS aN3 x.t.C3.Y),.t (tI x.t.ae6.P),.t (tI x.t.ae6.I),.t (tI x.t.ae6.Low),.t (tI x.t.ae6.bs5),.t (tS aN3 x.e.u6),.t (tI x.e.as0),.t (tI x.b.ai7),.t (tI x.b.ap2),.t (tI x.b.aP2),.t (tI x.b.J2),.t (tI x.b.P0),.t (tI x.b.L2),.t (tI x.b.aX9),.t (tI x.c.I7.Value),.t (tI x.c.I7.af1),.t (tB x.c.I7.aQ5),.t (tI x.c.ae6.Sum),.t (tS I6 x.c.aa6),.t (tB x.c.Q1.as8),.t (tB x.c.Q1.be0),.t (tI x.c.Q1.aj8),.t (tI x.c.Q1.be1),.t (tS an3 x.c.Q1.Cells),.t (tI x.c.P0),.t (tI x.c.af2.p7),.t (tI x.c.af2.N4),.t (tI x.i.bG0),.t (tI x.i.bG1),.t (tI x.i.D2),.t (tI x.i.L3),.t (tI x.i.L7),.t (tI x.i.aI6),.t (tI x.i.Lambda),.t (tI x.i.au8),.t (tS aN3 x.i.X0),.t (tS C8 x.i.Requests),.t (tI x.wanted),.t (tI x.A0),.t (tI x.ad9),.t (tI x.late),.t (tS Pv.cv0 x.pattern),.t (tI x.time),.t (tI x.out.J2),.t (tS B3 x.out.O1),.t (tI x.out.p7),.t (tI x.fail)]
@[ext] structure ap3 where
 A6:Y6
 b:L4
abbrev bd8 (x:ap3):List T:=[.t (tI x.A6.I8),.t (tI x.A6.D2),.t (tI x.A6.Rest),.t (tI x.A6.L3),.t (tI x.A6.P0),.t (tS aN3 x.A6.Path),.t (tI x.b.ai7),.t (tI x.b.ap2),.t (tI x.b.aP2),.t (tI x.b.J2),.t (tI x.b.P0),.t (tI x.b.L2),.t (tI x.b.aX9)]
@[ext] structure u3 where
 low:Int
 high:Int
 source:Int
abbrev cC3 (x:u3):T:=.agg [.t (tI x.low),.t (tI x.high),.t (tI x.source)]
@[ext] structure a7 where
 x:B6
 cE9:Int
def A9 (x:a7):List Tree:=[tI x.x.H2,tI x.x.Kind,tI x.x.u0,tI x.x.ai8,tI x.cE9]
abbrev A8 (x:a7):T:=.agg [.t (tI x.x.H2),.t (tI x.x.Kind),.t (tI x.x.u0),.t (tI x.x.ai8),.t (tI x.cE9)]
def dO0 (P:Program):List Field->Option (List (Nat×Nat))
 |[]=>some []
 |f::l=>(P.info? f.type).bind fun i=>(dO0 P l).map fun r=>(f.offset,i.size)::r
def ek2 (P:Program):TypeDesc->Option TD
 | .int k=>some (.int k)
 | .bool=>some .bool
 | .string=>some .string
 | .slice e=>some (.slice e)
 | .array n e=>some (.array n e)
 | .struct fs=>(dO0 P fs.toList).map TD.struct
 |_=>some .other
def eV4 (P:Program)(t:Nat):Option TI:=
 (P.info? t).bind fun i=>(P.underlying t).bind fun d=>i.zero.bind fun z=>(ek2 P d).bind fun x=>bif dO2 i.bytes 65536 then some ⟨i.size,x,z.cells.toList⟩else none
def ew4 (P:Program):List Nat->Option Tab
 |[]=>some []
 |t::l=>(eV4 P t).bind fun i=>(ew4 P l).map fun r=>(t,i)::r
theorem dt0 {P:Program}:∀{fs:List Field}{l:List (Nat×Nat)},dO0 P fs=some l->l.length=fs.length/\∀(f o n:Nat),l[f]? =some (o,n)->∃(fd:Field) (i:TypeInfo),fs[f]? =some fd/\fd.offset=o/\P.info? fd.type=some i/\i.size=n
 |[],l,h=>by cases h;exact⟨rfl,fun f o n h=>by simp at h⟩
 |x::fs,l,h=>by
  simp only[dO0,fa7,ez3]at h
  obtain⟨i,h1,r,h2,rfl⟩:=h
  obtain⟨h3,h4⟩:=dt0 h2
  refine⟨by simp[h3],fun f o n hf=>?_⟩
  cases f with
  |zero=>simp only[cV8,aI5,aX4]at hf;exact⟨x,i,rfl,hf.1,h1,hf.2⟩
  |succ f=>simp only[List.getElem?_cons_succ]at hf|-;exact h4 f o n hf
theorem ek3 {P:Program}{d:TypeDesc}{x:TD}(h:ek2 P d=some x):x.ok P d:=by
 cases d<;>simp only[ek2]at h<;>try(cases h;first|rfl|trivial)
 rename_i fs
 rw[ez3]at h
 obtain⟨l,h1,rfl⟩:=h
 obtain⟨h2,h3⟩:=dt0 h1
 refine⟨fs,rfl,by simpa using h2,fun f o n hf=>?_⟩
 obtain⟨fd,i,h4,h5⟩:=h3 f o n hf
 exact⟨fd,i,by simpa using h4,h5⟩
theorem do6 {P:Program}{t:Nat}{i:TI}(h:eV4 P t=some i):bh3 P t i:=by
 simp only[eV4,fa7]at h
 obtain⟨a,h1,d,h2,z,h3,x,h4,h5⟩:=h
 cases hb:dO2 a.bytes 65536
 ·rw[hb]at h5;cases h5
 ·rw[hb]at h5;cases h5
  exact⟨a,d,h1,rfl,h2,ek3 h4,⟨z,h3,rfl⟩,bd4 hb⟩
theorem dB2 {P:Program}:∀{l:List Nat}{C4:Tab},ew4 P l=some C4->aW1 P C4
 |[],C4,h=>by cases h;intro t ti h;cases h
 |t::l,C4,h=>by
  simp only[ew4,fa7,ez3]at h
  obtain⟨i,h1,r,h2,rfl⟩:=h
  exact fun u ti hu=>ew5 hu (do6 h1) fun hu=>dB2 h2 u ti hu
end Go.Pv
namespace Go.Proofs.YtmhdghdbojdgfaaGreat
open Go Go.Pv Go.Proofs
set_option maxHeartbeats 4000000
theorem mixed:Tryz.prog.follows .mixedOrders=true:=by kernel_rfl
def G2:Value:=.int .i64 0
def Y8:Value:=.slice none 0 0
def C4:Tab:=[(3,⟨1,.int .i64,[G2]⟩),
 (4,⟨1,.bool,[.bool false]⟩),
 (5,⟨1,.int .u8,[.int .u8 0]⟩),
 (9,⟨1,.string,[.string (ByteArray.mk #[])]⟩),
 (22,⟨1,.slice 3,[Y8]⟩),
 (23,⟨1,.slice 22,[Y8]⟩),
 (25,⟨3,.struct [(0,1),(1,1),(2,1)],[Y8,Y8,Y8]⟩),
 (27,⟨2,.struct [(0,1),(1,1)],[Y8,Y8]⟩),
 (29,⟨4,.struct [(0,1),(1,1),(2,1),(3,1)],[G2,G2,G2,G2]⟩),
 (31,⟨24,.struct [(0,3),(3,3),(6,3),(9,3),(12,2),(14,2),(16,2),(18,2),(20,4)],[Y8,Y8,Y8,Y8,Y8,Y8,Y8,Y8,Y8,Y8,Y8,Y8,Y8,Y8,Y8,Y8,Y8,Y8,Y8,Y8,G2,G2,G2,G2]⟩),
 (33,⟨7,.struct [(0,1),(1,1),(2,1),(3,1),(4,1),(5,1),(6,1)],[G2,G2,G2,G2,G2,G2,G2]⟩),
 (35,⟨2,.struct [(0,1),(1,1)],[Y8,G2]⟩),
 (36,⟨1,.slice 101,[Y8]⟩),
 (40,⟨3,.struct [(0,1),(1,1),(2,1)],[G2,G2,.bool false]⟩),
 (42,⟨1,.struct [(0,1)],[G2]⟩),
 (43,⟨1,.slice 205,[Y8]⟩),
 (44,⟨1,.slice 335,[Y8]⟩),
 (46,⟨5,.struct [(0,1),(1,1),(2,1),(3,1),(4,1)],[.bool false,.bool false,G2,G2,Y8]⟩),
 (48,⟨2,.struct [(0,1),(1,1)],[G2,G2]⟩),
 (50,⟨13,.struct [(0,3),(3,1),(4,1),(5,5),(10,1),(11,2)],[G2,G2,.bool false,G2,Y8,.bool false,.bool false,G2,G2,Y8,G2,G2,G2]⟩),
 (52,⟨6,.struct [(0,1),(1,1),(2,1),(3,1),(4,1),(5,1)],[.bool false,G2,G2,G2,G2,G2]⟩),
 (53,⟨1,.slice 327,[Y8]⟩),
 (55,⟨2,.struct [(0,1),(1,1)],[G2,Y8]⟩),
 (56,⟨1,.slice 267,[Y8]⟩),
 (57,⟨1,.slice 221,[Y8]⟩),
 (59,⟨13,.struct [(0,2),(2,6),(8,2),(10,1),(11,1),(12,1)],[Y8,G2,.bool false,G2,G2,G2,G2,G2,G2,Y8,Y8,Y8,.bool false]⟩),
 (61,⟨6,.struct [(0,1),(1,1),(2,1),(3,1),(4,1),(5,1)],[G2,G2,G2,G2,G2,G2]⟩),
 (63,⟨4,.struct [(0,1),(1,1),(2,1),(3,1)],[.bool false,G2,G2,.bool false]⟩),
 (65,⟨3,.struct [(0,1),(1,1),(2,1)],[.bool false,G2,G2]⟩),
 (67,⟨3,.struct [(0,1),(1,1),(2,1)],[G2,G2,.bool false]⟩),
 (69,⟨5,.struct [(0,1),(1,1),(2,1),(3,1),(4,1)],[G2,G2,G2,.bool false,.bool false]⟩),
 (71,⟨3,.struct [(0,1),(1,1),(2,1)],[.bool false,G2,G2]⟩),
 (72,⟨1,.slice 135,[Y8]⟩),
 (73,⟨1,.slice 174,[Y8]⟩),
 (75,⟨4,.struct [(0,1),(1,1),(2,1),(3,1)],[Y8,Y8,G2,.bool false]⟩),
 (77,⟨6,.struct [(0,1),(1,1),(2,1),(3,1),(4,1),(5,1)],[G2,G2,G2,G2,G2,Y8]⟩),
 (79,⟨92,.struct [(0,24),(24,13),(37,13),(50,6),(56,4),(60,3),(63,3),(66,5),(71,3),(74,4),(78,6),(84,7),(91,1)],[Y8,Y8,Y8,Y8,Y8,Y8,Y8,Y8,Y8,Y8,Y8,Y8,Y8,Y8,Y8,Y8,Y8,Y8,Y8,Y8,G2,G2,G2,G2,G2,G2,.bool false,G2,Y8,.bool false,.bool false,G2,G2,Y8,G2,G2,G2,Y8,G2,.bool false,G2,G2,G2,G2,G2,G2,Y8,Y8,Y8,.bool false,G2,G2,G2,G2,G2,G2,.bool false,G2,G2,.bool false,.bool false,G2,G2,G2,G2,.bool false,G2,G2,G2,.bool false,.bool false,.bool false,G2,G2,Y8,Y8,G2,.bool false,G2,G2,G2,G2,G2,Y8,G2,G2,G2,G2,G2,G2,G2,G2]⟩),
 (80,⟨1,.int .i64,[G2]⟩),
 (85,⟨1,.slice 91,[Y8]⟩),
 (88,⟨1,.slice 95,[Y8]⟩),
 (89,⟨1,.slice 106,[Y8]⟩),
 (91,⟨7,.struct [(0,1),(1,1),(2,1),(3,1),(4,1),(5,1),(6,1)],[G2,G2,G2,G2,Y8,Y8,.bool false]⟩),
 (93,⟨1,.slice 4,[Y8]⟩),
 (95,⟨3,.struct [(0,1),(1,1),(2,1)],[G2,G2,.bool false]⟩),
 (96,⟨1,.int .u16,[.int .u16 0]⟩),
 (98,⟨4,.struct [(0,1),(1,1),(2,1),(3,1)],[G2,G2,G2,G2]⟩),
 (99,⟨1,.slice 98,[Y8]⟩),
 (101,⟨5,.struct [(0,1),(1,1),(2,1),(3,1),(4,1)],[G2,G2,G2,G2,G2]⟩),
 (106,⟨2,.struct [(0,1),(1,1)],[G2,Y8]⟩),
 (115,⟨1,.slice 25,[Y8]⟩),
 (118,⟨1,.slice 27,[Y8]⟩),
 (135,⟨8,.struct [(0,1),(1,1),(2,1),(3,1),(4,1),(5,1),(6,1),(7,1)],[G2,G2,G2,G2,G2,G2,.bool false,G2]⟩),
 (136,⟨5,.array 5 3,[G2,G2,G2,G2,G2]⟩),
 (139,⟨3,.struct [(0,1),(1,1),(2,1)],[.string (ByteArray.mk #[]),G2,G2]⟩),
 (140,⟨15,.array 5 139,[.string (ByteArray.mk #[]),G2,G2,.string (ByteArray.mk #[]),G2,G2,.string (ByteArray.mk #[]),G2,G2,.string (ByteArray.mk #[]),G2,G2,.string (ByteArray.mk #[]),G2,G2]⟩),
 (172,⟨1,.other,[.pointer none]⟩),
 (174,⟨7,.struct [(0,1),(1,1),(2,1),(3,1),(4,1),(5,1),(6,1)],[G2,G2,G2,G2,G2,Y8,G2]⟩),
 (182,⟨2,.struct [(0,1),(1,1)],[G2,G2]⟩),
 (186,⟨1,.struct [(0,1)],[Y8]⟩),
 (195,⟨1,.other,[.pointer none]⟩),
 (197,⟨3,.struct [(0,1),(1,1),(2,1)],[G2,Y8,G2]⟩),
 (199,⟨115,.struct [(0,92),(92,5),(97,1),(98,1),(99,1),(100,1),(101,1),(102,1),(103,1),(104,1),(105,1),(106,3),(109,1),(110,1),(111,1),(112,1),(113,1),(114,1)],[Y8,Y8,Y8,Y8,Y8,Y8,Y8,Y8,Y8,Y8,Y8,Y8,Y8,Y8,Y8,Y8,Y8,Y8,Y8,Y8,G2,G2,G2,G2,G2,G2,.bool false,G2,Y8,.bool false,.bool false,G2,G2,Y8,G2,G2,G2,Y8,G2,.bool false,G2,G2,G2,G2,G2,G2,Y8,Y8,Y8,.bool false,G2,G2,G2,G2,G2,G2,.bool false,G2,G2,.bool false,.bool false,G2,G2,G2,G2,.bool false,G2,G2,G2,.bool false,.bool false,.bool false,G2,G2,Y8,Y8,G2,.bool false,G2,G2,G2,G2,G2,Y8,G2,G2,G2,G2,G2,G2,G2,G2,G2,G2,G2,G2,G2,Y8,G2,G2,Y8,G2,G2,G2,G2,G2,G2,Y8,G2,G2,G2,.bool false,.bool false,Y8,G2]⟩),
 (205,⟨3,.struct [(0,1),(1,1),(2,1)],[G2,G2,G2]⟩),
 (219,⟨4,.struct [(0,1),(1,1),(2,1),(3,1)],[G2,G2,G2,G2]⟩),
 (221,⟨7,.struct [(0,4),(4,1),(5,1),(6,1)],[G2,G2,G2,G2,G2,.bool false,G2]⟩),
 (237,⟨7,.array 7 4,[.bool false,.bool false,.bool false,.bool false,.bool false,.bool false,.bool false]⟩),
 (243,⟨1,.slice 343,[Y8]⟩),
 (250,⟨4,.struct [(0,1),(1,1),(2,1),(3,1)],[G2,G2,G2,G2]⟩),
 (252,⟨1,.slice 250,[Y8]⟩),
 (254,⟨10,.struct [(0,1),(1,1),(2,1),(3,1),(4,1),(5,1),(6,1),(7,1),(8,1),(9,1)],[G2,G2,G2,G2,G2,G2,G2,G2,Y8,Y8]⟩),
 (267,⟨7,.struct [(0,1),(1,1),(2,1),(3,1),(4,1),(5,1),(6,1)],[G2,G2,G2,G2,G2,G2,G2]⟩),
 (311,⟨2,.struct [(0,1),(1,1)],[G2,G2]⟩),
 (317,⟨1,.int .u64,[.int .u64 0]⟩),
 (327,⟨4,.struct [(0,1),(1,1),(2,1),(3,1)],[.bool false,G2,.bool false,.bool false]⟩),
 (335,⟨2,.struct [(0,1),(1,1)],[G2,G2]⟩),
 (343,⟨5,.struct [(0,1),(1,1),(2,1),(3,1),(4,1)],[.string (ByteArray.mk #[]),G2,G2,Y8,G2]⟩),
 (349,⟨1,.other,[.pointer none]⟩),
 (351,⟨66,.struct [(0,24),(24,2),(26,7),(33,13),(46,10),(56,1),(57,1),(58,1),(59,1),(60,1),(61,1),(62,3),(65,1)],[Y8,Y8,Y8,Y8,Y8,Y8,Y8,Y8,Y8,Y8,Y8,Y8,Y8,Y8,Y8,Y8,Y8,Y8,Y8,Y8,G2,G2,G2,G2,Y8,G2,G2,G2,G2,G2,G2,G2,G2,G2,G2,.bool false,G2,Y8,.bool false,.bool false,G2,G2,Y8,G2,G2,G2,G2,G2,G2,G2,G2,G2,G2,G2,Y8,Y8,G2,G2,G2,G2,Y8,G2,G2,Y8,G2,G2]⟩),
 (375,⟨1,.other,[.pointer none]⟩),
 (376,⟨1,.other,[.pointer none]⟩),
 (378,⟨13,.struct [(0,6),(6,7)],[G2,G2,G2,G2,G2,Y8,G2,G2,G2,G2,G2,G2,G2]⟩),
 (386,⟨1,.int .u64,[.int .u64 0]⟩),
 (431,⟨3,.struct [(0,1),(1,1),(2,1)],[G2,G2,G2]⟩),
 (446,⟨1,.slice 450,[Y8]⟩),
 (450,⟨5,.struct [(0,4),(4,1)],[G2,G2,G2,G2,G2]⟩),
 (451,⟨1,.other,[.pointer none]⟩),
 (467,⟨1,.slice 219,[Y8]⟩),
 (472,⟨2,.array 2 3,[G2,G2]⟩),
 (473,⟨4,.array 2 472,[G2,G2,G2,G2]⟩),
 (477,⟨1,.other,[.pointer none]⟩)]
theorem ti4:bh3 Tryz.prog 4 ⟨1,.bool,[.bool false]⟩:=do6 (by kernel_rfl)
theorem ti3:bh3 Tryz.prog 3 ⟨1,.int .i64,[G2]⟩:=do6 (by kernel_rfl)
theorem K4:aW1 Tryz.prog C4:=dB2 (l:=[3,4,5,9,22,23,25,27,29,31,33,35,36,40,42,43,44,46,48,50,52,53,55,56,57,59,61,63,65,67,69,71,72,73,75,77,79,80,85,88,89,91,93,95,96,98,99,101,106,115,118,135,136,139,140,172,174,182,186,195,197,199,205,219,221,237,243,250,252,254,267,311,317,327,335,343,349,351,375,376,378,386,431,446,450,451,467,472,473,477]) (by kernel_rfl)
theorem eP6 (d:Nat)(w:World)(a0:Bool)(a1 a2 a3 a4 a5:Int)(b0:Bool)(b1 b2 b3 b4 b5:Int):(Op.equalIn (d+2) 52 (.agg #[.bool a0,.int .i64 a1,.int .i64 a2,.int .i64 a3,.int .i64 a4,.int .i64 a5]) (.agg #[.bool b0,.int .i64 b1,.int .i64 b2,.int .i64 b3,.int .i64 b4,.int .i64 b5])).run Tryz.prog w= .ok ((a0==b0)&&((a1==b1)&&((a2==b2)&&((a3==b3)&&((a4==b4)&&((a5==b5)&&true)))))) w:=
 dc4 (d:=d+1) (fs:=[⟨ "Valid",4,0,false,"","",0⟩,⟨ "At",3,1,false,"","",8⟩,⟨ "Angle",3,2,false,"","",16⟩,⟨ "Period",3,3,false,"","",24⟩,⟨ "Space",3,4,false,"","",32⟩,⟨ "Ahead",3,5,false,"","",40⟩]) (by kernel_rfl) (by kernel_rfl) (by kernel_rfl) (aN9 (by decide) (ae3 ti4 rfl rfl) (ae3 ti4 rfl rfl) (run_equalIn_bool' w _ 4 _ _ Tryz.underlying4) (aN9 (by decide) (ae3 ti3 rfl rfl) (ae3 ti3 rfl rfl) (run_equalIn_int w _ 3 _ _ _ _ Tryz.underlying3) (aN9 (by decide) (ae3 ti3 rfl rfl) (ae3 ti3 rfl rfl) (run_equalIn_int w _ 3 _ _ _ _ Tryz.underlying3) (aN9 (by decide) (ae3 ti3 rfl rfl) (ae3 ti3 rfl rfl) (run_equalIn_int w _ 3 _ _ _ _ Tryz.underlying3) (aN9 (by decide) (ae3 ti3 rfl rfl) (ae3 ti3 rfl rfl) (run_equalIn_int w _ 3 _ _ _ _ Tryz.underlying3) (aN9 (by decide) (ae3 ti3 rfl rfl) (ae3 ti3 rfl rfl) (run_equalIn_int w _ 3 _ _ _ _ Tryz.underlying3) (dO7)))))))
theorem eP8 (a0:Bool)(a1 a2 a3 a4 a5:Int)(b0:Bool)(b1 b2 b3 b4 b5:Int):ef1 Tryz.prog 52 [.bool a0,.int .i64 a1,.int .i64 a2,.int .i64 a3,.int .i64 a4,.int .i64 a5] [.bool b0,.int .i64 b1,.int .i64 b2,.int .i64 b3,.int .i64 b4,.int .i64 b5] ((a0==b0)&&((a1==b1)&&((a2==b2)&&((a3==b3)&&((a4==b4)&&((a5==b5)&&true)))))):=⟨fun w=>eP6 9998 w a0 a1 a2 a3 a4 a5 b0 b1 b2 b3 b4 b5,by kernel_rfl⟩
theorem eP7 (d:Nat)(w:World)(a0 a1 a2 a3 a4 a5 b0 b1 b2 b3 b4 b5:Int):(Op.equalIn (d+2) 61 (.agg #[.int .i64 a0,.int .i64 a1,.int .i64 a2,.int .i64 a3,.int .i64 a4,.int .i64 a5]) (.agg #[.int .i64 b0,.int .i64 b1,.int .i64 b2,.int .i64 b3,.int .i64 b4,.int .i64 b5])).run Tryz.prog w= .ok ((a0==b0)&&((a1==b1)&&((a2==b2)&&((a3==b3)&&((a4==b4)&&((a5==b5)&&true)))))) w:=
 dc4 (d:=d+1) (fs:=[⟨ "Mode",3,0,false,"","",0⟩,⟨ "Tooth",3,1,false,"","",8⟩,⟨ "Last",3,2,false,"","",16⟩,⟨ "Period",3,3,false,"","",24⟩,⟨ "Normal",3,4,false,"","",32⟩,⟨ "Teeth",3,5,false,"","",40⟩]) (by kernel_rfl) (by kernel_rfl) (by kernel_rfl) (aN9 (by decide) (ae3 ti3 rfl rfl) (ae3 ti3 rfl rfl) (run_equalIn_int w _ 3 _ _ _ _ Tryz.underlying3) (aN9 (by decide) (ae3 ti3 rfl rfl) (ae3 ti3 rfl rfl) (run_equalIn_int w _ 3 _ _ _ _ Tryz.underlying3) (aN9 (by decide) (ae3 ti3 rfl rfl) (ae3 ti3 rfl rfl) (run_equalIn_int w _ 3 _ _ _ _ Tryz.underlying3) (aN9 (by decide) (ae3 ti3 rfl rfl) (ae3 ti3 rfl rfl) (run_equalIn_int w _ 3 _ _ _ _ Tryz.underlying3) (aN9 (by decide) (ae3 ti3 rfl rfl) (ae3 ti3 rfl rfl) (run_equalIn_int w _ 3 _ _ _ _ Tryz.underlying3) (aN9 (by decide) (ae3 ti3 rfl rfl) (ae3 ti3 rfl rfl) (run_equalIn_int w _ 3 _ _ _ _ Tryz.underlying3) (dO7)))))))
theorem eP9 (a0 a1 a2 a3 a4 a5 b0 b1 b2 b3 b4 b5:Int):ef1 Tryz.prog 61 [.int .i64 a0,.int .i64 a1,.int .i64 a2,.int .i64 a3,.int .i64 a4,.int .i64 a5] [.int .i64 b0,.int .i64 b1,.int .i64 b2,.int .i64 b3,.int .i64 b4,.int .i64 b5] ((a0==b0)&&((a1==b1)&&((a2==b2)&&((a3==b3)&&((a4==b4)&&((a5==b5)&&true)))))):=⟨fun w=>eP7 9998 w a0 a1 a2 a3 a4 a5 b0 b1 b2 b3 b4 b5,by kernel_rfl⟩
def eqF:Nat->List T->List T->Option Bool
 |52,[.t (.v (.bool a0)),.t (.v (.int .i64 a1)),.t (.v (.int .i64 a2)),.t (.v (.int .i64 a3)),.t (.v (.int .i64 a4)),.t (.v (.int .i64 a5))],[.t (.v (.bool b0)),.t (.v (.int .i64 b1)),.t (.v (.int .i64 b2)),.t (.v (.int .i64 b3)),.t (.v (.int .i64 b4)),.t (.v (.int .i64 b5))]=>some (((a0==b0)&&((a1==b1)&&((a2==b2)&&((a3==b3)&&((a4==b4)&&((a5==b5)&&true)))))))
 |61,[.t (.v (.int .i64 a0)),.t (.v (.int .i64 a1)),.t (.v (.int .i64 a2)),.t (.v (.int .i64 a3)),.t (.v (.int .i64 a4)),.t (.v (.int .i64 a5))],[.t (.v (.int .i64 b0)),.t (.v (.int .i64 b1)),.t (.v (.int .i64 b2)),.t (.v (.int .i64 b3)),.t (.v (.int .i64 b4)),.t (.v (.int .i64 b5))]=>some (((a0==b0)&&((a1==b1)&&((a2==b2)&&((a3==b3)&&((a4==b4)&&((a5==b5)&&true)))))))
 |_,_,_=>none
theorem eP4:∀ty xs ys b,eqF ty xs ys=some b->∃vs us,xs=tvs vs/\ys=tvs us/\ef1 Tryz.prog ty vs us b:=by
 intro ty xs ys b h
 unfold eqF at h
 split at h
 ·cases h;exact⟨_,_,rfl,rfl,eP8 _ _ _ _ _ _ _ _ _ _ _ _⟩
 ·cases h;exact⟨_,_,rfl,rfl,eP9 _ _ _ _ _ _ _ _ _ _ _ _⟩
 ·cases h
def Z:En Tryz.prog:=⟨C4,K4,⟨eqF,eP4⟩,mixed⟩
def eL6:Mq Tryz.prog Int Bool:=⟨inferInstance,208,3,4,.int .i64,(fun n:Int=>.int .i64 n),(fun v:Bool=>.bool v),false,(eQ9 .i64),Tryz.underlying208,Tryz.underlying3,⟨Tryz.t4,by kernel_rfl,rfl⟩⟩
def eL7:Mq Tryz.prog ByteArray Bool:=⟨inferInstance,392,9,4,.string,(fun s:ByteArray=>.string s),(fun v:Bool=>.bool v),false,eU8,Tryz.underlying392,Tryz.underlying9,⟨Tryz.t4,by kernel_rfl,rfl⟩⟩
end Go.Proofs.YtmhdghdbojdgfaaGreat
namespace Go.Pv
open Go
def as5 (x y:Int):Option (Int×Int):=
 cw0 x y
def bB1 (x y:Int):Option (Int×Int):=
 ai5 (as5 x y) fun r2=>some (r2.1,r2.2)
def aJ9 (s3:Int×List B8):Option ((Int×List B8)⊕((Int×List B8)⊕Empty)):=
 bif (decide (s3.1<(s3.2.length:Int)))then(ai5 (ai5 (cl1 s3.1 (s3.2.length:Int) s3.2.length) fun _=>ai5 (cl1 0 s3.1 s3.2.length) fun _=>some (o4 (s3.1+((min (eJ9 s3.1-eJ9 0) (eJ9 (s3.2.length:Int)-eJ9 s3.1):Nat):Int)),ek6 s3.2 s3.1 (s3.2.length:Int) 0 s3.1)) fun(s4:Int×List B8)=>some (.inl (s4.1,s4.2)))else(some (.inr (.inl (s3.1,s3.2))))
def P5 (x:List B8)(count:Int):Option (List B8):=
 ai5 (bif (decide (count<0))then none else(some ())) fun(_:Unit)=>ai5 (bB1 (aX3.wrap (x.length:Int)) (aX3.wrap count)) fun r2=>ai5 (bif ((decide (r2.1>0))||(decide (r2.2>9223372036854775807)))then none else(some ())) fun(_:Unit)=>ai5 (aS0 (o4 r2.2) (⟨0,0,0⟩:B8)) fun l=>ai5 (L5 (aJ9) ((min (x).length (l).length:Nat),aJ2 l x)) fun(t:(Int×List B8)⊕Empty)=>match t with| .inl s5=>(some s5.2)| .inr r=>r.elim
def O9 (s:List A3)(f2:A3->Option Bool)(i:Int)(_:Unit):Option (Fl Unit Int):=
 ai5 (D4 s i) fun x=>ai5 (f2 x) fun v=>bif v then(some (.ret i))else(some (.next ()))
def C2 (s:List A3)(f2:A3->Option Bool):Option Int:=
 ai5 (K9 (s.length:Int) (O9 s f2) ()) fun(t:Unit⊕Int)=>match t with| .inl _=>(some (-1))| .inr r2=>some r2
def at4 (del:A3->Option Bool)(s2:Int×Int×List A3):Option ((Int×Int×List A3)⊕((Int×Int×List A3)⊕Empty)):=
 bif (decide (s2.2.1<(s2.2.2.length:Int)))then(ai5 (D4 s2.2.2 s2.2.1) fun x=>ai5 (del x) fun v2=>bif (!v2)then(ai5 (D4 s2.2.2 s2.1) fun _=>ai5 (am4 s2.2.2 s2.1 x) fun l=>some (.inl (o4 (s2.1+1),o4 (s2.2.1+1),l)))else(some (.inl (s2.1,o4 (s2.2.1+1),s2.2.2))))else(some (.inr (.inl (s2.1,s2.2.1,s2.2.2))))
def L0 (s:List A3)(del:A3->Option Bool):Option (List A3):=
 ai5 (C2 s del) fun v=>bif (v==(-1))then(some s)else(ai5 (L5 (at4 del) (v,o4 (v+1),s)) fun(t:(Int×Int×List A3)⊕Empty)=>match t with| .inl s3=>(ai5 (cl1 s3.1 (s3.2.2.length:Int) s3.2.2.length) fun _=>ai5 (ay4 (bI2 s3.2.2 s3.1 (s3.2.2.length:Int) (⟨(⟨0,0,0,0⟩:B6),0,false,0⟩:A3)) 0 s3.1) fun l2=>some l2)| .inr r=>r.elim)
def az8 (s:List j8)(f2:j8->Option Bool)(i:Int)(_:Unit):Option (Fl Unit Int):=
 ai5 (D4 s i) fun x=>ai5 (f2 x) fun v=>bif v then(some (.ret i))else(some (.next ()))
def ac6 (s:List j8)(f2:j8->Option Bool):Option Int:=
 ai5 (K9 (s.length:Int) (az8 s f2) ()) fun(t:Unit⊕Int)=>match t with| .inl _=>(some (-1))| .inr r2=>some r2
def al7 (del:j8->Option Bool)(s2:Int×Int×List j8):Option ((Int×Int×List j8)⊕((Int×Int×List j8)⊕Empty)):=
 bif (decide (s2.2.1<(s2.2.2.length:Int)))then(ai5 (D4 s2.2.2 s2.2.1) fun x=>ai5 (del x) fun v2=>bif (!v2)then(ai5 (D4 s2.2.2 s2.1) fun _=>ai5 (am4 s2.2.2 s2.1 x) fun l=>some (.inl (o4 (s2.1+1),o4 (s2.2.1+1),l)))else(some (.inl (s2.1,o4 (s2.2.1+1),s2.2.2))))else(some (.inr (.inl (s2.1,s2.2.1,s2.2.2))))
def N7 (s:List j8)(del:j8->Option Bool):Option (List j8):=
 ai5 (ac6 s del) fun v=>bif (v==(-1))then(some s)else(ai5 (L5 (al7 del) (v,o4 (v+1),s)) fun(t:(Int×Int×List j8)⊕Empty)=>match t with| .inl s3=>(ai5 (cl1 s3.1 (s3.2.2.length:Int) s3.2.2.length) fun _=>ai5 (ay4 (bI2 s3.2.2 s3.1 (s3.2.2.length:Int) (⟨0,0,false⟩:j8)) 0 s3.1) fun l2=>some l2)| .inr r=>r.elim)
end Go.Pv
namespace Go.Proofs.YtmhdghdbojdgfaaGreat
open Go Go.Pv Go.Proofs
set_option maxHeartbeats 4000000
def ca6:Go.Shelf.Ren:=⟨fun|264=>279|n=>n,fun|46=>317|53=>386|n=>n,fun|n=>n⟩
open Go.Shelf in
theorem dZ9:Lays.n264 Tryz.prog ca6:={
 mixed:=by kernel_rfl,
 f264:=Tryz.func279.trans (congrArg some (by kernel_rfl)),
 t46:=Tryz.underlying317,
 a46:=Tryz.isAgg317,
 z46:=Tryz.sizeOf317,
 v46:=Tryz.zeroValue317,
 t53:=Tryz.underlying386,
 a53:=Tryz.isAgg386,
 z53:=Tryz.sizeOf386,
 v53:=Tryz.zeroValue386}
theorem bn1 (x y:Int):aQ7 Tryz.prog 279 [.t (tK .u64 x),.t (tK .u64 y)] (as5 x y) (fun r=>.P9 [.t (tK .u64 r.1),.t (tK .u64 r.2)]):=
 ea0 (ρ:=ca6) dZ9 Tryz.call279 x y
theorem cf6 (x y:Int):aQ7 Tryz.prog 188 [.t (tK .u64 x),.t (tK .u64 y)] (bB1 x y) (fun r=>.P9 [.t (tK .u64 r.1),.t (tK .u64 r.2)]):=by
 refine aQ7.i K4 30 [.tmp 4,.tmp 5] Tryz.call188 Tryz.func188 rfl rfl rfl rfl fun w0 L=>?_
 refine E4.s 6 rfl ?_
 refine E4.fa0 rfl (.o 5 rfl ?_)
 refine B5.k (bn1 x y) rfl fun r2=>.o 8 rfl ?_
 exact B5.r 5 rfl (rt rfl)
theorem bx3 (x:List B8)(count:Int):aQ7 Tryz.prog 90 [NS I6 x,NI count] (P5 x count) (fun r=>NS I6 r):=by
 refine aQ7.i K4 48 [.tmp 4] Tryz.call90 Tryz.func90 rfl rfl rfl rfl fun w0 L=>?_
 refine E4.s 5 rfl ?_
 refine E4.s 5 rfl (.bind (Q₁:=nrm fun t=>⟨[(0,NS I6 x),(1,NI count)],[]⟩) ?_ ?_)
 ·refine E4.cond rfl ?_ ?_
  ·exact E4.o 1 rfl .fail
  ·exact E4.l 1 rfl (lf rfl rfl)
 rintro s e σ' _ ⟨rfl,hs⟩
 refine aa5.sub hs (E4.o 7 rfl (.k (cf6 (aX3.wrap (x.length:Int)) (aX3.wrap count)) rfl fun r2=>?_))
 refine B5.o 9 rfl ?_
 refine B5.o 3 rfl (.fd3 (v:=decide (r2.2>9223372036854775807)) 3 23 (fun b=>⟨[(0,NS I6 x),(6,.t (tK .u64 r2.2)),(26,NB b)],[]⟩) rfl ?_ ?_ ?_)
 ·exact B5.l 4 rfl (lf rfl rfl)
 ·exact B5.l 4 rfl (lf rfl rfl)
 refine B5.s 1 rfl (.bind (Q₁:=nrm fun t=>⟨[(0,NS I6 x),(6,.t (tK .u64 r2.2))],[]⟩) ?_ ?_)
 ·refine E4.cond rfl ?_ ?_
  ·exact E4.o 1 rfl .fail
  ·exact E4.l 1 rfl (lf rfl rfl)
 rintro s2 e σ' _ ⟨rfl,hs⟩
 refine aa5.sub hs (E4.o 4 rfl (.fc0 (enc:=I6) 2240 (⟨0,0,0⟩:B8) rfl rfl rfl rfl rfl rfl rfl rfl rfl rfl rfl rfl rfl fun l hl=>?_))
 refine B5.o 6 rfl ?_
 refine B5.ek5 (e2:=0) (l:=l) (r:=x) rfl rfl rfl rfl (fun _=>rfl) (fun _=>rfl) rfl rfl (.inl rfl) rfl (.s 4 rfl ?_)
 refine E4.loop (fun t=>⟨[(7,.own 2240),(8,NI t.1)],[(2240,.rs 205 3 t.2 I6)]⟩) (fun b e σ'=>match b with| .inl t=>e= .exit 0/\Sub ⟨[(7,.own 2240)],[(2240,.rs 205 3 t.2 I6)]⟩ σ'| .inr t=>False) (.of rfl rfl) ?_ ?_
 ·intro s3
  refine E4.s 8 rfl ?_
  refine E4.cond rfl ?_ ?_
  ·refine E4.s 2 rfl (.bind (Q₁:=nrm fun t=>⟨[(7,.own 2240),(8,NI t.1)],[(2240,.rs 205 3 t.2 I6)]⟩) ?_ ?_)
   ·refine aa5.pre fun u hu=>aa5.pre fun u2 hu2=>E4.fa4 8 (bm 10 0) (bm 10 255) ⟨[(7,.own 2240),(8,NI s3.1),(38,NI s3.1),(45,NI ((min (eJ9 s3.1-eJ9 0) (eJ9 (s3.2.length:Int)-eJ9 s3.1):Nat):Int))],[(2240,.rs 205 3 (ek6 s3.2 s3.1 (s3.2.length:Int) 0 s3.1) I6)]⟩ mixed (fun _ _ _ h=>by cases h.1) rfl rfl rfl rfl ?_ ?_
    ·refine aT5.ga 5 [0,1,2,4,5] (by kernel_rfl) rfl (.all [3,6] (by kernel_rfl) rfl (ch9.cons (σ₁:=⟨[(7,.own 2240),(8,NI s3.1),(38,NI s3.1),(41,.vw 2240 (eJ9 s3.1) (eJ9 (s3.2.length:Int)-eJ9 s3.1) 3),(42,.own 2240),(43,NI s3.1)],[(2240,.rs 205 3 s3.2 I6)]⟩) _ rfl rfl ?_ ?_ ?_))
     ·refine B5.dT8 hu (B5.dh5 rfl rfl rfl rfl rfl rfl rfl rfl rfl rfl rfl (B5.ifG ?_))
      exact B5.l 1 rfl (lf rfl rfl)
     ·exact aT5.one 6 rfl (by kernel_rfl) (B5.dT8 hu2 (B5.dh5 rfl rfl rfl rfl rfl rfl rfl rfl rfl rfl rfl (B5.ifG (B5.l 1 rfl ⟨rfl,rfl⟩)))) (.one 7 rfl (by kernel_rfl) (B5.copyV hu hu2 cu4 cu4 rfl rfl rfl rfl (fun _=>rfl) (fun _=>rfl) rfl rfl rfl rfl (B5.l 1 rfl ⟨rfl,rfl⟩)) (.done (.of rfl rfl)))
     refine ch9.cons (σ₁:=⟨[(7,.own 2240),(8,NI s3.1),(38,NI s3.1),(39,.own 2240),(40,NI s3.1),(44,.vw 2240 (eJ9 0) (eJ9 s3.1-eJ9 0) 3)],[(2240,.rs 205 3 s3.2 I6)]⟩) _ rfl rfl ?_ ?_ ?_
     ·refine B5.dT8 hu2 (B5.dh5 rfl rfl rfl rfl rfl rfl rfl rfl rfl rfl rfl (B5.ifG ?_))
      exact B5.l 1 rfl (lf rfl rfl)
     ·exact aT5.one 3 rfl (by kernel_rfl) (B5.dT8 hu (B5.dh5 rfl rfl rfl rfl rfl rfl rfl rfl rfl rfl rfl (B5.ifG (B5.l 1 rfl ⟨rfl,rfl⟩)))) (.one 7 rfl (by kernel_rfl) (B5.copyV hu hu2 cu4 cu4 rfl rfl rfl rfl (fun _=>rfl) (fun _=>rfl) rfl rfl rfl rfl (B5.l 1 rfl ⟨rfl,rfl⟩)) (.done (.of rfl rfl)))
     exact ch9.nil
    exact B5.l 3 rfl (lf rfl rfl)
   rintro s4 e σ' _ ⟨rfl,hs⟩
   exact aa5.sub hs (E4.l 1 rfl (lf rfl rfl))
  ·exact E4.br0 rfl ⟨(fun h=>by cases h),rfl,.of rfl rfl⟩
 rintro(s5|r) e σ' _ hq
 ·obtain⟨rfl,hs⟩:=hq
  refine aa5.exit rfl (aa5.sub hs ?_)
  exact E4.r 5 rfl (rt rfl)
 ·exact hq.elim
theorem bv2 (s:List A3)(n2:Nat)(cs:List (List Tree))(f2:A3->Option Bool)(h2:∀x0,aQ7 Tryz.prog n2 ([bd7 x0]++cs.map T.el) (f2 x0) (fun r=>NB r)):aQ7 Tryz.prog 202 [NS I3 s,.fz n2 cs] (C2 s f2) (fun r=>NI r):=by
 refine aQ7.i K4 19 [.tmp 4] Tryz.call202 Tryz.func202 rfl rfl rfl rfl fun w0 L=>?_
 refine E4.s 5 rfl ?_
 refine E4.s 7 rfl ?_
 refine E4.loop (fun p=>⟨[(0,NS I3 s),(1,.fz n2 cs),(7,NI (s.length:Int)),(8,NI p.1)],[]⟩) (fun b e σ'=>match b with| .inl t=>e= .exit 0/\Sub ⟨[],[]⟩ σ'| .inr t=>e= .ret/\dn8 C4 σ' [.tmp 4]=some (((fun r=>NI r):Int->T) t)) (.of rfl rfl) ?_ ?_
 ·rintro⟨i,s2⟩
  refine E4.s 5 rfl ?_
  refine E4.cond rfl ?_ ?_
  ·refine E4.s 2 rfl (aa5.sub (σ':=⟨[(0,NS I3 s),(1,.fz n2 cs),(7,NI (s.length:Int)),(8,NI i)],[]⟩) (.of rfl rfl) (E4.bind (Q₁:=fun f e σ'=>match f with| .next t=>e= .normal/\Sub ⟨[(0,NS I3 s),(1,.fz n2 cs),(7,NI (s.length:Int)),(8,NI i)],[]⟩ σ'| .brk t=>e= .exit 0/\Sub ⟨[],[]⟩ σ'| .ret t=>e= .ret/\dn8 C4 σ' [.tmp 4]=some (((fun r=>NI r):Int->T) t)) ?_ ?_))
   ·refine E4.s 6 rfl ?_
    refine E4.o 5 rfl (.index rfl rfl rfl rfl rfl rfl rfl rfl (fun _=>rfl) fun x hx=>.o 1 rfl ?_)
    refine B5.k (h2 x) rfl fun v=>.s 1 rfl (.cond rfl ?_ ?_)
    ·exact E4.r 5 rfl ⟨rfl,rfl⟩
    ·exact E4.l 2 rfl (lf rfl rfl)
   rintro(t|t|t) e σ' _ hq
   ·obtain⟨rfl,hs⟩:=hq
    exact aa5.sub hs (E4.l 4 rfl (lf rfl rfl))
   ·obtain⟨rfl,hs⟩:=hq
    exact aa5.br0 rfl ⟨(fun h=>by cases h),rfl,hs⟩
   ·obtain⟨rfl,hs⟩:=hq
    exact aa5.ret ⟨(fun h=>by cases h),rfl,hs⟩
  ·exact E4.br0 rfl ⟨(fun h=>by cases h),rfl,.of rfl rfl⟩
 rintro(s3|r2) e σ' _ hq
 ·obtain⟨rfl,hs⟩:=hq
  refine aa5.exit rfl (aa5.sub hs ?_)
  exact E4.r 4 rfl (rt rfl)
 ·obtain⟨rfl,hs⟩:=hq
  exact aa5.ret ⟨.inl rfl,hs⟩
theorem br2 (s:List A3)(n2:Nat)(cs:List (List Tree))(del:A3->Option Bool)(h2:∀x0,aQ7 Tryz.prog n2 ([bd7 x0]++cs.map T.el) (del x0) (fun r=>NB r)):bh4 Tryz.prog 335 [.own 1000000,.fz n2 cs] [(1000000,.rs 221 7 s I3)] (L0 s del) (fun _=>.own 900000) (fun r=>[(900000,.rs 221 7 r I3)]):=by
 refine bh4.i K4 42 [.tmp 4] Tryz.call335 Tryz.func335 rfl rfl rfl rfl fun w0 L=>?_
 refine E4.s 5 rfl ?_
 refine E4.o 3 rfl (.eJ8 _ rfl rfl rfl (bv2 s n2 cs del h2) (fun _=>rfl) (fun _=>rfl) fun v=>.s 2 rfl ?_)
 refine E4.s 6 rfl ?_
 refine E4.cond rfl ?_ ?_
 ·exact E4.r 5 rfl (rt (⟨[(1000000,900000)],_,_,rfl,rfl,rfl,rfl,rfl⟩))
 ·refine E4.o 7 rfl ?_
  refine B5.s 2 rfl (.loop (fun t=>⟨[(0,.own 1000000),(1,.fz n2 cs),(5,NI t.1),(6,NI t.2.1)],[(1000000,.rs 221 7 t.2.2 I3)]⟩) (fun b e σ'=>match b with| .inl t=>e= .exit 0/\Sub ⟨[(0,.own 1000000),(5,NI t.1)],[(1000000,.rs 221 7 t.2.2 I3)]⟩ σ'| .inr t=>False) (.of rfl rfl) ?_ ?_)
  ·intro s2
   refine E4.s 8 rfl ?_
   refine E4.cond rfl ?_ ?_
   ·refine E4.o 5 rfl ?_
    refine B5.o 2 rfl (.dl3 rfl rfl rfl rfl rfl rfl rfl rfl rfl rfl fun x hx=>.eL4 hx rfl rfl rfl rfl rfl rfl rfl rfl (.s 3 rfl ?_))
    refine E4.o 4 rfl (.k (h2 x) rfl fun v2=>.o 1 rfl ?_)
    refine B5.s 1 rfl (.cond rfl ?_ ?_)
    ·refine E4.o 5 rfl (.dl3 rfl rfl rfl rfl rfl rfl rfl rfl rfl rfl fun x2 hx2=>.dL3 x [tI x.Event.H2,tI x.Event.Kind,tI x.Event.u0,tI x.Event.ai8,tI x.Left,tB x.D9,tI x.At] hx2 rfl rfl rfl rfl rfl rfl rfl rfl rfl rfl rfl rfl fun l hl=>?_)
     refine B5.s 7 rfl ?_
     exact E4.l 5 rfl (lf rfl rfl)
    ·refine E4.s 7 rfl ?_
     exact E4.leaf (lf rfl rfl)
   ·exact E4.br0 rfl ⟨(fun h=>by cases h),rfl,.of rfl rfl⟩
  rintro(s3|r) e σ' _ hq
  ·obtain⟨rfl,hs⟩:=hq
   refine aa5.exit rfl (aa5.sub hs ?_)
   refine E4.o 4 rfl (.dh5 rfl rfl rfl rfl rfl rfl rfl rfl rfl rfl rfl fun u hu=>.ej8 (⟨(⟨0,0,0,0⟩:B6),0,false,0⟩:A3) hu cu4 rfl rfl rfl rfl rfl rfl rfl rfl rfl rfl rfl ?_)
   refine B5.o 5 rfl (.eu8 (id':=2328) (tm':=[(5,NI s3.1),(37,NI s3.1),(40,NI s3.1)]) (Z4:=[]) rfl rfl rfl rfl rfl rfl rfl rfl rfl (.of rfl rfl) rfl rfl rfl rfl fun l2 hl2=>?_)
   exact B5.r 2 rfl (rt (⟨[(2328,900000)],_,_,rfl,rfl,rfl,rfl,rfl⟩))
  ·exact hq.elim
theorem bn2 (s:List j8)(n2:Nat)(cs:List (List Tree))(f2:j8->Option Bool)(h2:∀x0,aQ7 Tryz.prog n2 ([aB0 x0]++cs.map T.el) (f2 x0) (fun r=>NB r)):aQ7 Tryz.prog 39 [NS u4 s,.fz n2 cs] (ac6 s f2) (fun r=>NI r):=by
 refine aQ7.i K4 19 [.tmp 4] Tryz.call39 Tryz.func39 rfl rfl rfl rfl fun w0 L=>?_
 refine E4.s 5 rfl ?_
 refine E4.s 7 rfl ?_
 refine E4.loop (fun p=>⟨[(0,NS u4 s),(1,.fz n2 cs),(7,NI (s.length:Int)),(8,NI p.1)],[]⟩) (fun b e σ'=>match b with| .inl t=>e= .exit 0/\Sub ⟨[],[]⟩ σ'| .inr t=>e= .ret/\dn8 C4 σ' [.tmp 4]=some (((fun r=>NI r):Int->T) t)) (.of rfl rfl) ?_ ?_
 ·rintro⟨i,s2⟩
  refine E4.s 5 rfl ?_
  refine E4.cond rfl ?_ ?_
  ·refine E4.s 2 rfl (aa5.sub (σ':=⟨[(0,NS u4 s),(1,.fz n2 cs),(7,NI (s.length:Int)),(8,NI i)],[]⟩) (.of rfl rfl) (E4.bind (Q₁:=fun f e σ'=>match f with| .next t=>e= .normal/\Sub ⟨[(0,NS u4 s),(1,.fz n2 cs),(7,NI (s.length:Int)),(8,NI i)],[]⟩ σ'| .brk t=>e= .exit 0/\Sub ⟨[],[]⟩ σ'| .ret t=>e= .ret/\dn8 C4 σ' [.tmp 4]=some (((fun r=>NI r):Int->T) t)) ?_ ?_))
   ·refine E4.s 6 rfl ?_
    refine E4.o 5 rfl (.index rfl rfl rfl rfl rfl rfl rfl rfl (fun _=>rfl) fun x hx=>.o 1 rfl ?_)
    refine B5.k (h2 x) rfl fun v=>.s 1 rfl (.cond rfl ?_ ?_)
    ·exact E4.r 5 rfl ⟨rfl,rfl⟩
    ·exact E4.l 2 rfl (lf rfl rfl)
   rintro(t|t|t) e σ' _ hq
   ·obtain⟨rfl,hs⟩:=hq
    exact aa5.sub hs (E4.l 4 rfl (lf rfl rfl))
   ·obtain⟨rfl,hs⟩:=hq
    exact aa5.br0 rfl ⟨(fun h=>by cases h),rfl,hs⟩
   ·obtain⟨rfl,hs⟩:=hq
    exact aa5.ret ⟨(fun h=>by cases h),rfl,hs⟩
  ·exact E4.br0 rfl ⟨(fun h=>by cases h),rfl,.of rfl rfl⟩
 rintro(s3|r2) e σ' _ hq
 ·obtain⟨rfl,hs⟩:=hq
  refine aa5.exit rfl (aa5.sub hs ?_)
  exact E4.r 4 rfl (rt rfl)
 ·obtain⟨rfl,hs⟩:=hq
  exact aa5.ret ⟨.inl rfl,hs⟩
theorem bj2 (s:List j8)(n2:Nat)(cs:List (List Tree))(del:j8->Option Bool)(h2:∀x0,aQ7 Tryz.prog n2 ([aB0 x0]++cs.map T.el) (del x0) (fun r=>NB r)):bh4 Tryz.prog 275 [.own 1000000,.fz n2 cs] [(1000000,.rs 95 3 s u4)] (N7 s del) (fun r=>NS u4 r) (fun _=>[]):=by
 refine bh4.i K4 42 [.tmp 4] Tryz.call275 Tryz.func275 rfl rfl rfl rfl fun w0 L=>?_
 refine E4.s 5 rfl ?_
 refine E4.o 3 rfl (.eJ8 _ rfl rfl rfl (bn2 s n2 cs del h2) (fun _=>rfl) (fun _=>rfl) fun v=>.s 2 rfl ?_)
 refine E4.s 6 rfl ?_
 refine E4.cond rfl ?_ ?_
 ·refine E4.s 5 rfl (aa5.frz 1000000 rfl ?_)
  exact E4.ret (rt (⟨[],_,_,rfl,rfl,rfl,rfl,rfl⟩))
 ·refine E4.o 7 rfl ?_
  refine B5.s 2 rfl (.loop (fun t=>⟨[(0,.own 1000000),(1,.fz n2 cs),(5,NI t.1),(6,NI t.2.1)],[(1000000,.rs 95 3 t.2.2 u4)]⟩) (fun b e σ'=>match b with| .inl t=>e= .exit 0/\Sub ⟨[(0,.own 1000000),(5,NI t.1)],[(1000000,.rs 95 3 t.2.2 u4)]⟩ σ'| .inr t=>False) (.of rfl rfl) ?_ ?_)
  ·intro s2
   refine E4.s 8 rfl ?_
   refine E4.cond rfl ?_ ?_
   ·refine E4.o 5 rfl ?_
    refine B5.o 2 rfl (.dl3 rfl rfl rfl rfl rfl rfl rfl rfl rfl rfl fun x hx=>.eL4 hx rfl rfl rfl rfl rfl rfl rfl rfl (.s 3 rfl ?_))
    refine E4.o 4 rfl (.k (h2 x) rfl fun v2=>.o 1 rfl ?_)
    refine B5.s 1 rfl (.cond rfl ?_ ?_)
    ·refine E4.o 5 rfl (.dl3 rfl rfl rfl rfl rfl rfl rfl rfl rfl rfl fun x2 hx2=>.dL3 x [tI x.At,tI x.Channel,tB x.E3] hx2 rfl rfl rfl rfl rfl rfl rfl rfl rfl rfl rfl rfl fun l hl=>?_)
     refine B5.s 7 rfl ?_
     exact E4.l 5 rfl (lf rfl rfl)
    ·refine E4.s 7 rfl ?_
     exact E4.leaf (lf rfl rfl)
   ·exact E4.br0 rfl ⟨(fun h=>by cases h),rfl,.of rfl rfl⟩
  rintro(s3|r) e σ' _ hq
  ·obtain⟨rfl,hs⟩:=hq
   refine aa5.exit rfl (aa5.sub hs ?_)
   refine E4.o 4 rfl (.dh5 rfl rfl rfl rfl rfl rfl rfl rfl rfl rfl rfl fun u hu=>.ej8 (⟨0,0,false⟩:j8) hu cu4 rfl rfl rfl rfl rfl rfl rfl rfl rfl rfl rfl ?_)
   refine B5.o 5 rfl (.frz 1000000 rfl ?_)
   exact B5.eu7 rfl rfl rfl rfl rfl rfl rfl (fun _=>rfl) rfl rfl fun l2 hl2=>.r 2 rfl (rt (⟨[],_,_,rfl,rfl,rfl,rfl,rfl⟩))
  ·exact hq.elim
theorem bx4 {s r:List B8}{n:Int}(h:eG9 s n=some r):Pv.P5 s n=some r:=by
 match s,h with
 |[x],h=>
  change(if n=1 then some [x]else none)=some r at h
  by_cases hn:n=1
  case neg=>rw[if_neg hn]at h;cases h
  subst hn
  rw[if_pos rfl]at h
  cases h
  have e:Pv.P5 [x] 1=ai5 (L5 Pv.aJ9 (1,[x])) (fun t=>match t with| .inl s5=>(some s5.2)| .inr r=>r.elim):=by kernel_rfl
  rw[e,E0 (b:=.inl (1,[x])) rfl]
  rfl
 |[],h=>simp[eG9]at h
 |_::_::_,h=>simp[eG9]at h
theorem bq9 {s r:List A3}{f:A3->Option Bool}(h:dt3 s=some r):Pv.L0 s f=some r:=by
 cases s with
 |nil=>
  simp only[dt3,aI5]at h
  subst h
  have h1:K9 (([]:List A3).length:Int) (Pv.O9 [] f) ()=some (.inl ()):=by rw[al5 _ (by simp)];rfl
  have h2:Pv.C2 [] f=some (-1):=by unfold Pv.C2;rw[h1];rfl
  unfold Pv.L0
  rw[h2]
  rfl
 |cons x l=>simp[dt3]at h
theorem bi3 {s r:List j8}{f:j8->Option Bool}(h:dt3 s=some r):Pv.N7 s f=some r:=by
 cases s with
 |nil=>
  simp only[dt3,aI5]at h
  subst h
  have h1:K9 (([]:List j8).length:Int) (Pv.az8 [] f) ()=some (.inl ()):=by rw[al5 _ (by simp)];rfl
  have h2:Pv.ac6 [] f=some (-1):=by unfold Pv.ac6;rw[h1];rfl
  unfold Pv.N7
  rw[h2]
  rfl
 |cons x l=>simp[dt3]at h
end Go.Proofs.YtmhdghdbojdgfaaGreat

/- This file joins: The value machine, part Xf: slices.SortFunc, by the kit's contract. The value machine, part Xh: quiet steps of regions that draw their order, taken at once. The value machine, part Xj: slices.Sort and slices.Compact at int, by the kit's contracts. The value machine, part Xl: what grows from nil by zeros; cap and slicing of nil. The value machine, part Xm: math/bits.Len64 and Mul64, by the kit's contracts. The value machine, part Xn: parts of rows of the call's own: copied within, cleared. The value machine, part Xo: regions that draw their order, said shortly. -/
import Derived.Test.YtalanclpiojanaaGreatControlStepsD
import Derived.Shelf.SlSortCmp.NoneTotal
import Derived.Deep.Draws
import Derived.Shelf.Sort.Plain
import Derived.Shelf.Slices.In.SortNone
import Derived.Shelf.Slices.CompactI
import Derived.Shelf.Strconv.Itoa0
import Derived.Shelf.Bits.Mul64
import Derived.Scope
set_option linter.unusedSimpArgs false
set_option linter.unusedVariables false
namespace Go.Pv
open Go.RowKit Go.Sort Go.Shelf Go.Proofs
section
variable {α:Type} [Inhabited α] (enc:α → List Value) (k:Nat) (w:World) (β m:Nat) (d:Array α) (os:Array Obj)
end
theorem Keep.grown {w w':World} (h:Keep (fun _=>False) w w'):∃ q os,w' = grow (w.drewN q) os:=by
 refine ⟨w'.drawn - w.drawn,w'.heap.extract w.heap.size w'.heap.size,?_⟩
 have hd:=h.drawn
 have hz:=h.size
 obtain ⟨heap',tape',drawn',os',out'⟩:=w'
 have e1:=h.os; have e2:=h.tape; have e3:=h.output
 simp only at e1 e2 e3 hd hz
 subst e1 e2 e3
 simp only [grow,World.drewN,World.mk.injEq]
 refine ⟨?_,trivial,by omega,trivial,trivial⟩
 apply Array.ext_getElem?
 intro i
 by_cases hi:i < w.heap.size
 ·rw [Array.getElem?_append_left hi]; exact h.block i hi (fun x=>x)
 ·rw [Array.getElem?_append_right (by omega),Array.getElem?_extract]
  split
  ·congr 1; omega
  ·rw [Array.getElem?_eq_none (by omega)]
theorem RTv {w:World} {S:Nat → Prop} {v u:Value} (h:RT w S v (.v u)):v = u:=by cases h; rfl
end Go.Pv
namespace Go.Pv
open Go.RowKit
section
variable {X:Cx} {ops:Array Oper} {fe fuel:Nat} {le l l':List Bool} {σ':St} {o:Oper} {α:Type}
theorem TieA.bin {d ty yt:Nat} {op:BinOp} {k k':IntKind} {x y:Operand} {u v:Int} {V:T} {tm:List (Nat × T)} {hp:List (Nat × Blk)} (i:Nat) (l':List Bool) (ho:ops[i]? = some o) (hl:l.set i true = l') (hop:o.op = .binOp op ty x y yt) (hd:o.dst = some d) (hdn:Nat.blt d X.nt = true) (hg:o.guard = none)
  (hs:Region.noSelect ops = true) (hf:Region.free .any ops l.toArray i = true) (hr:(Region.ready .any ops l.toArray).contains i = true)
  (hx:val tm x = some (.t (.v (.int k u)))) (hy:val tm y = some (.t (.v (.int k' v)))) (hk:(sameKind k k' || isShift op) = true) (hb:((arith op k u v).map fun z=>T.t (.v z)) = some V) (h:TieA X ops fe le fuel l' ⟨(d,V) :: tm,hp⟩ σ') :
  TieA X ops fe le (fuel + 1) l ⟨tm,hp⟩ σ':=TieA.take1 i l' ho hl hd hdn hg hs hf hr (fun S E a w hw=>by
 have e1:=(hw.val hx).tv
 have e2:=(hw.val hy).tv
 cases ha:arith op k u v with
 | none=>simp [ha] at hb
 | some z=>
  simp only [ha,Option.map_some,Option.some.injEq] at hb
  subst hb
  refine ⟨z,fun w'=>?_,.t (.v z)⟩
  obtain ⟨h1,h2⟩:=arith_ok (P:=X.P) (w:=w') (by simpa using hk) ha
  simp only [execOp,hop,e1,e2,Sem.run_bind,eqGuard_run op ty x y (.int k u) (.int k' v) (by simp) (by simp),Result.andThen_ok,h2,h1,Sem.run_pure]) h
theorem TieA.idx {ty e sz el n s0:Nat} {x ix:Operand} {ik:IntKind} {j:Int} {z0:List Value} {te:TI} {d id:Nat} {r:List α} {enc:α → List Tree} {y:α} {tm:List (Nat × T)} {hp:List (Nat × Blk)} (i:Nat) (l':List Bool) (hy:getI r j = some y) (ho:ops[i]? = some o) (hl:l.set i true = l')
  (hop:o.op = .indexAddr ty x ix) (hd:o.dst = some d) (hdn:Nat.blt d X.nt = true) (hg:o.guard = none)
  (hs:Region.noSelect ops = true) (hf:Region.free .any ops l.toArray i = true) (hr:(Region.ready .any ops l.toArray).contains i = true)
  (hx:val tm x = some (.own id)) (hb:look hp id = some (.rows el sz n (r.map enc))) (hi:val tm ix = some (.t (.v (.int ik j))))
  (hty:look X.tab ty = some ⟨s0,.slice e,z0⟩) (hte:look X.tab e = some te) (hsz:te.size = sz) (h:TieA X ops fe le fuel l' ⟨(d,.pe id j.toNat sz 0) :: tm,hp⟩ σ') :
  TieA X ops fe le (fuel + 1) l ⟨tm,hp⟩ σ':=TieA.take1 i l' ho hl hd hdn hg hs hf hr (fun S E a w hk=>by
 obtain ⟨h0,hgl,hlt⟩:=getI_some hy
 have hiv:=(hk.val hi).tv
 have hll:j.toNat < r.length:=by omega
 have hxv:=hk.val hx
 generalize hxe:a.eval x = xv at hxv
 cases hxv with
 | own _ _ hE=>
  obtain ⟨hn,⟨hE',hr⟩ | ⟨β,cap,vs,_,hE',hh,_⟩⟩:=hk.hp id _ hb
  ·simp at hr; subst hr; simp at hll
  ·subst hsz
   have hpe:=RV.pe (w:=w) (S:=S) (E:=E) id j.toNat te.size 0 β (r.map enc).length cap hE'
   refine ⟨_,fun w'=>?_,hpe⟩
   obtain ⟨dd,hdd,ho2⟩:=(X.htab ty _ hty).run_under w'
   simp only [TD.ok] at ho2
   subst ho2
   have hsw:=(X.htab e _ hte).run_size w'
   rw [hE'] at hE
   subst hE
   simp only [execOp,hop,Instr.indexAt,hiv,asIntOf,Sem.run_bind,Sem.run_pure,Result.andThen_ok,hdd,hxe]
   have c1:0 ≤ j ∧ j < ((r.map enc).length:Int):=⟨h0,by simpa using hlt⟩
   simp only [Sem.run_bind,Result.andThen_ok,Sem.run_pure,c1,and_self,if_true,hsw,addr_add,Nat.zero_add,Nat.add_zero]) h
end
end Go.Pv
namespace Go.Pv
open Go.RowKit Go.Sort Go.Shelf Go.Proofs
theorem compact_eq (zs:List Int):Lib.compact zs = compL zs:=by
 have key:∀ m,m ≤ zs.length → Lib.compactUpTo zs.toArray m = compL (zs.take m):=by
  intro m
  induction m with
  | zero=>intro _; rfl
  | succ m ih=>
   intro hm
   have hg:∀ j (hj:j < zs.length),(zs.toArray)[j]! = zs[j]:=fun j hj=>by
    rw [getElem!_pos zs.toArray j (by simpa using hj)]; simp
   rw [Lib.compactUpTo_succ,ih (by omega),List.take_succ_eq_append_getElem (by omega:m < zs.length),hg m (by omega)]
   by_cases h0:m = 0
   ·subst h0; rfl
   ·have hne:zs.take m ≠ []:=by
     intro h
     have:=congrArg List.length h
     rw [List.length_take,List.length_nil] at this; omega
    rw [compL_snoc _ _ hne]
    have hl:(zs.take m).getLast hne = zs[m - 1]:=by
     rw [List.getLast_eq_getElem,List.getElem_take]
     congr 1
     rw [List.length_take]; omega
    rw [hl]
    unfold Lib.keeps
    rw [hg m (by omega),hg (m - 1) (by omega)]
    by_cases he:zs[m] = zs[m - 1]
    ·rw [if_pos he,if_neg (by simp [h0,he])]
    ·rw [if_neg he,if_pos (by simp [h0,he])]
 unfold Lib.compact
 rw [key _ (Nat.le_refl _),List.take_length]
section
variable (w:World) (β m:Nat) (d:Array Int) (os:Array Obj)
def rowW:World:=grow (putRow (Value.int .i64) (Sort.ahead w m) β 0 d) os
theorem rw_size:(rowW w β m d os).heap.size = w.heap.size + os.size:=by
 simp [rowW,putRow,mapBlock,Sort.ahead,grow]
theorem rw_other (b:Nat) (hb:b < w.heap.size) (hne:b ≠ β):(rowW w β m d os).heap[b]? = w.heap[b]?:=by
 simp only [rowW,putRow,mapBlock,Sort.ahead,grow]
 rw [Array.getElem?_append_left (by simpa using hb),Array.getElem?_modify,if_neg (Ne.symm hne)]
theorem rw_row {cs:Array Value} {elem:TypeId} (hh:w.heap[β]? = some (.cells cs elem (0,0))):(rowW w β m d os).heap[β]? = some (.cells (putCells (Value.int .i64) 0 d cs) elem (0,0)):=by
 have hb:β < w.heap.size:=(Array.getElem?_eq_some_iff.1 hh).1
 simp only [rowW,putRow,mapBlock,Sort.ahead,grow]
 rw [Array.getElem?_append_left (by simpa using hb),Array.getElem?_modify,if_pos rfl,hh]
 rfl
theorem rw_keep (L:Nat → Prop) (hL:L β):Keep L w (rowW w β m d os) where
 os:=rfl
 tape:=rfl
 output:=rfl
 size:=by rw [rw_size]; omega
 block:=fun b hb hn=>rw_other w β m d os b hb (fun e=>hn (e ▸ hL))
 drawn:=by simp [rowW,putRow,mapBlock,Sort.ahead,grow]
end
theorem row_back {w:World} {S:Nat → Prop} {E':Nat → Value} {e id' β cap m:Nat} {r z:List Int} {vs:List Value} {os:Array Obj} (hcm:cap ≤ maxLen) (hh:w.heap[β]? = some (.cells vs.toArray e (0,0))) (hvl:vs.length = cap * 1) (hrl:r.length ≤ cap)
  (hE':E' id' = .slice (some ⟨β,0,none⟩) r.length cap) (hS:¬ S β) (hβ:β < w.heap.size):Owned (rowW w β m (r ++ z).toArray os) S E' [(id',.rows e 1 r.length (r.map encI))]:=by
 have one:∀ id b,look [(id',Blk.rows e 1 r.length (r.map encI))] id = some b → id = id' ∧ b = .rows e 1 r.length (r.map encI):=fun id b hl=>by
  simp only [look] at hl
  by_cases hid:id' = id
  ·subst hid; simp at hl; exact ⟨rfl,hl.symm⟩
  ·simp [beq_ne hid] at hl
 refine ⟨fun id b hl=>?_,fun id b β' hl hβ'=>?_,fun id id1 b b' β' hl hl' _ _=>?_⟩
 ·obtain ⟨rfl,rfl⟩:=one _ _ hl
  rw [hE']
  refine ⟨by simp,.inr ⟨β,cap,(putCells (Value.int .i64) 0 (r ++ z).toArray vs.toArray).toList,hcm,by simp,by rw [rw_row w β m _ os hh],by simp [putCells,hvl],by simpa using hrl,?_,?_⟩⟩
  ·intro x hx
   obtain ⟨y,_,rfl⟩:=List.mem_map.1 hx
   rfl
  ·intro i j hi hj hb
   have hi':i < r.length:=by simpa using hi
   have hj':j = 0:=by
    rw [List.getElem_map] at hj
    have:(encI r[i]).length = 1:=rfl
    omega
   subst hj'
   have e1:(putCells (Value.int .i64) 0 (r ++ z).toArray vs.toArray).toList[i * 1 + 0] = .int .i64 r[i]:=by
    simp only [Array.getElem_toList,Nat.mul_one,Nat.add_zero]
    simp only [putCells,Array.getElem_mapIdx,Nat.zero_le,true_and,Nat.zero_add,Nat.sub_zero,List.size_toArray]
    rw [if_pos (by rw [List.length_append]; omega),getElem!_pos _ _ (by simp only [List.size_toArray,List.length_append]; omega)]
    simp only [List.getElem_toArray]
    rw [List.getElem_append_left hi']
   rw [e1]
   have e2:((r.map encI)[i]'hi)[0]'hj = .v (.int .i64 r[i]):=by simp [encI,tI]
   rw [e2]
   exact .v _
 ·obtain ⟨rfl,rfl⟩:=one _ _ hl
  have:β' = β:=by rw [hE'] at hβ'; simpa [blkOf] using hβ'.symm
  subst this
  exact ⟨hS,by rw [rw_size]; omega⟩
 ·exact (one _ _ hl).1.trans (one _ _ hl').1.symm
theorem row_lent {w:World} {β e cap:Nat} {l:List Int} {vs:List Value} (hh:w.heap[β]? = some (.cells vs.toArray e (0,0))) (hvl:vs.length = cap * 1) (hcap:l.length ≤ cap) {S:Nat → Prop}
  (hr:∀ i j (hi:i < (l.map encI).length) (hj:j < ((l.map encI)[i]).length) (hb:i * 1 + j < vs.length),RT w S (vs[i * 1 + j]) (((l.map encI)[i])[j])):Holds (Value.int .i64) w β 0 l.toArray:=by
 intro t ht
 have ht':t < l.length:=by simpa using ht
 refine ⟨?_,by simp [World.frozen?,hh]⟩
 rw [cell_of_row w β (0 + t) _ e _ hh,Nat.zero_add]
 have h1:=hr t 0 (by simpa using ht') (by simp [encI]) (by omega)
 have e2:((l.map encI)[t]'(by simpa using ht'))[0]'(by simp [encI]) = .v (.int .i64 l[t]):=by simp [encI,tI]
 rw [e2] at h1
 have h3:=RTv h1
 simp only [List.getElem?_toArray]
 rw [List.getElem?_eq_getElem (by omega),getElem!_pos l.toArray t ht]
 simp only [List.getElem_toArray]
 rw [← h3]
 congr 2
 omega
theorem sortInts_tie {P:Program} {ρ:Ren} (L:Lays.n189 P ρ) (hc:∀ vs w,(callFunc (ρ.f 189) vs).run P w = .ok (.enter (ρ.f 189) vs) w) {e:Nat} (l:List Int) :
  TieG P (ρ.f 189) [.own 1000000] [(1000000,.rows e 1 l.length (l.map encI))] (sortIM l) (fun _=>.tup []) (fun r=>[(1000000,.rows e 1 r.length (r.map encI))]):=by
 refine ⟨hc,fun r hr w S E vs hS hO hv=>?_⟩
 have hlen:l.length < 4611686018427387904:=by
  unfold sortIM at hr; split at hr <;> first | assumption | cases hr
 rw [sortIM_ok hlen,Option.some.injEq] at hr
 subst hr
 obtain ⟨v0,rfl⟩:∃ v0,vs = [v0]:=by
  have:=hv.1
  match vs,this with
  | [a],_=>exact ⟨a,rfl⟩
 have r0:RV w S E v0 (.own 1000000):=hv.2 0 (by simp) (by simp)
 cases r0 with
 | own _ _ hE=>
 have hblk:=hO.blk 1000000 (.rows e 1 l.length (l.map encI)) rfl
 rw [hE] at hblk
 obtain ⟨hn,⟨hx,hnil⟩ | ⟨β,cap,vs,hcm,hx,hh,hvl,hcap,hsz,hr⟩⟩:=hblk
 ·have hl:l = []:=by simpa using hnil
  subst hl
  subst hx
  refine (Any.slices_Sort_int_none L none 0 w).mono fun e' w' ⟨he,hw⟩=>?_
  subst hw
  refine ⟨_,S,E,he,.tup [] [] rfl fun j h1=>by simp at h1,Keep.refl _ _,hS,fun b hb=>.inl hb,?_,fun β hl=>.inl ?_,fun _ _=>rfl⟩
  ·simpa using hO
  ·simpa using hl
 ·simp only [List.length_map] at hx hcap
  subst hx
  have hβ:=hO.own 1000000 (.rows e 1 l.length (l.map encI)) β rfl (by rw [hE]; rfl)
  have hlent:lentOf [(1000000,Blk.rows e 1 l.length (l.map encI))] E β:=⟨1000000,_,rfl,by rw [hE]; rfl⟩
  refine (Any.slices_Sort_int L β 0 cap l w (row_lent hh hvl hcap hr) hβ.2 hlen).mono fun e' w' ⟨he,m,os,hw⟩=>?_
  have hrl:(l.mergeSort fun x y=>decide (x ≤ y)).length = l.length:=List.length_mergeSort l
  generalize (l.mergeSort fun x y=>decide (x ≤ y)) = r at hw hrl ⊢
  have hw2:w' = rowW w β m (r ++ []).toArray os:=by rw [List.append_nil]; exact hw
  subst hw2
  refine ⟨.tuple #[],S,E,he,.tup [] [] rfl fun j h1=>by simp at h1,rw_keep w β m _ os _ hlent,fun b hb=>?_,fun b hb=>.inl hb,row_back hcm hh hvl (by omega) (by rw [hE,hrl]) hβ.1 hβ.2,fun β' ⟨id,b,hl,hβ'⟩=>.inl ?_,fun _ _=>rfl⟩
  ·rw [rw_size]; exact Nat.lt_of_lt_of_le (hS b hb) (Nat.le_add_right _ _)
  ·have:id = 1000000:=by
    simp only [look] at hl
    by_cases hid:1000000 = id
    ·exact hid.symm
    ·simp [beq_ne hid] at hl
   subst this
   exact ⟨1000000,_,rfl,hβ'⟩
theorem compactInts_tie {P:Program} {ρ:Ren} (L:Lays2.n20 P ρ) (hc:∀ vs w,(callFunc (ρ.f 20) vs).run P w = .ok (.enter (ρ.f 20) vs) w) {e:Nat} (l:List Int) :
  TieG P (ρ.f 20) [.own 1000000] [(1000000,.rows e 1 l.length (l.map encI))] (compactM l) (fun _=>.own 900000) (fun r=>[(900000,.rows e 1 r.length (r.map encI))]):=by
 refine ⟨hc,fun r hr w S E vs hS hO hv=>?_⟩
 have hlen:l.length ≤ 9223372036854775807:=by
  unfold compactM at hr; split at hr <;> first | assumption | cases hr
 rw [compactM_ok hlen,Option.some.injEq] at hr
 obtain ⟨v0,rfl⟩:∃ v0,vs = [v0]:=by
  have:=hv.1
  match vs,this with
  | [a],_=>exact ⟨a,rfl⟩
 have r0:RV w S E v0 (.own 1000000):=hv.2 0 (by simp) (by simp)
 have one:∀ (r:List Int) id b,look [(900000,Blk.rows e 1 r.length (r.map encI))] id = some b → id = 900000:=fun r id b hl=>by
  simp only [look] at hl
  by_cases hid:900000 = id
  ·exact hid.symm
  ·simp [beq_ne hid] at hl
 cases r0 with
 | own _ _ hE=>
 have hblk:=hO.blk 1000000 (.rows e 1 l.length (l.map encI)) rfl
 rw [hE] at hblk
 have hEb:∀ v,∀ id,big ≤ id → (fun id=>if id = 900000 then v else E id) id = E id:=fun v id h=>by
  simp only
  rw [if_neg (by unfold big at h; omega)]
 obtain ⟨hn,⟨hx,hnil⟩ | ⟨β,cap,vs,hcm,hx,hh,hvl,hcap,hsz,hrr⟩⟩:=hblk
 ·have hl:l = []:=by simpa using hnil
  subst hl
  subst hx
  subst hr
  refine (Any.slices_Compact_int_empty L none 0 w).mono fun e' w' ⟨he,hw⟩=>?_
  subst hw
  have hno:∀ id b,look [(900000,Blk.rows e 1 (compL []).length ((compL []).map encI))] id = some b → blkOf ((fun id=>if id = 900000 then Value.slice none 0 0 else E id) id) = none:=fun id b hl=>by
   rw [one _ _ _ hl]; rfl
  refine ⟨_,S,fun id=>if id = 900000 then .slice none 0 0 else E id,he,.own _ _ (by simp),Keep.refl _ _,hS,fun b hb=>.inl hb,⟨fun id b hl=>?_,fun id b β' hl hβ'=>?_,fun id id1 b b' β' hl hl' _ _=>(one _ _ _ hl).trans (one _ _ _ hl').symm⟩,fun β ⟨id,b,hl,hβ⟩=>?_,hEb _⟩
  ·have:=one _ _ _ hl
   subst this
   simp [look] at hl
   subst hl
   exact ⟨by simp,.inl ⟨by simp,by simp [compL]⟩⟩
  ·rw [hno _ _ hl] at hβ'; cases hβ'
  ·rw [hno _ _ hl] at hβ; cases hβ
 ·simp only [List.length_map] at hx hcap
  subst hx
  have hβ:=hO.own 1000000 (.rows e 1 l.length (l.map encI)) β rfl (by rw [hE]; rfl)
  have hlent:lentOf [(1000000,Blk.rows e 1 l.length (l.map encI))] E β:=⟨1000000,_,rfl,by rw [hE]; rfl⟩
  refine (Any.slices_Compact_int L β 0 cap l w (row_lent hh hvl hcap hrr) hlen hcap).mono fun e' w' ⟨he,m,hw⟩=>?_
  rw [compact_eq] at he hw
  have hrl:(compL l).length ≤ l.length:=by
   have key:∀ (l:List Int) p,(compG p l).length ≤ l.length:=by
    intro l
    induction l with
    | nil=>intro p; exact Nat.le_refl _
    | cons y l ih=>
     intro p
     unfold compG
     have:=ih y
     cases y == p
     ·simp only [cond_false,List.length_cons]; omega
     ·simp only [cond_true,List.length_cons]; omega
   cases l with
   | nil=>exact Nat.le_refl _
   | cons x l=>simp only [compL,List.length_cons]; have:=key l x; omega
  rw [hr] at he hw hrl
  generalize List.replicate (l.length - r.length) (0:Int) = z at hw
  have hw2:w' = rowW w β m (r ++ z).toArray #[]:=by rw [hw]; simp [rowW]
  subst hw2
  refine ⟨_,S,fun id=>if id = 900000 then .slice (some ⟨β,0,none⟩) r.length cap else E id,he,.own _ _ (by simp),rw_keep w β m _ _ _ hlent,fun b hb=>?_,fun b hb=>.inl hb,row_back hcm hh hvl (by omega) (by simp) hβ.1 hβ.2,fun β' ⟨id,b,hl,hβ'⟩=>.inl ?_,hEb _⟩
  ·rw [rw_size]; exact Nat.lt_of_lt_of_le (hS b hb) (Nat.le_add_right _ _)
  ·have:=one _ _ _ hl
   subst this
   have e1:β' = β:=by simpa [blkOf] using hβ'.symm
   subst e1
   exact hlent
end Go.Pv
namespace Go.Pv
open Go.RowKit
section
variable {ρ α:Type} {X:Cx} {ks:List K} {tm tm':List (Nat × T)} {hp hp':List (Nat × Blk)} {m:Option ρ} {Q:ρ → Exit → St → Prop} {all:Array Oper} {o:Oper} {rest:List Oper} {w0:World} {L:Lim} {nt:Nat} {S:Nat → Prop} {E:Nat → Value} {a:Act} {w:World}
end
end Go.Pv
namespace Go.Pv
open Go.RowKit Go.Shelf Go.Proofs
theorem RVL.get1 {w:World} {S:Nat → Prop} {E:Nat → Value} {vs:List Value} {a:Value} (h:RVL w S E vs [.t (.v a)]):vs = [a]:=by
 match vs,h with
 | [x],h=>have e:x = a:=RV.tv (h.2 0 (by simp) (by simp)); rw [e]
 | [],h=>exact absurd h.1 (by simp)
 | _ :: _ :: _,h=>exact absurd h.1 (by simp)
theorem RVL.get2 {w:World} {S:Nat → Prop} {E:Nat → Value} {vs:List Value} {a b:Value} (h:RVL w S E vs [.t (.v a),.t (.v b)]):vs = [a,b]:=by
 match vs,h with
 | [x,y],h=>have e:x = a:=RV.tv (h.2 0 (by simp) (by simp)); have f:y = b:=RV.tv (h.2 1 (by simp) (by simp)); rw [e,f]
 | [],h=>exact absurd h.1 (by simp)
 | [_],h=>exact absurd h.1 (by simp)
 | _ :: _ :: _ :: _,h=>exact absurd h.1 (by simp)
theorem len64_tie {P:Program} {ρ:Ren} (L:Lays.n129 P ρ) (hc:∀ vs w,(callFunc (ρ.f 129) vs).run P w = .ok (.enter (ρ.f 129) vs) w) (x:Int) :
  TieF P (ρ.f 129) [.t (tK .u64 x)] (len64M x) (fun r=>.t (tI r)):=by
 refine ⟨hc,fun r hr w S E vs hS hv=>?_⟩
 obtain rfl:=hv.get1
 unfold len64M at hr
 by_cases h:0 ≤ x ∧ x ≤ 18446744073709551615
 ·rw [if_pos h] at hr; cases hr
  refine (Any.bits_Len64 L x w h.1 h.2).mono fun e w' ⟨he,hw⟩=>?_
  subst hw
  exact ⟨_,S,he,.t (.v _),.refl _ _,hS,fun b hb=>.inl hb⟩
 ·rw [if_neg h] at hr; cases hr
theorem mul64_tie {P:Program} {ρ:Ren} (L:Lays.n264 P ρ) (hc:∀ vs w,(callFunc (ρ.f 264) vs).run P w = .ok (.enter (ρ.f 264) vs) w) (x y:Int) :
  TieF P (ρ.f 264) [.t (tK .u64 x),.t (tK .u64 y)] (mul64M x y) (fun r=>.tup [.t (tK .u64 r.1),.t (tK .u64 r.2)]):=by
 refine ⟨hc,fun r hr w S E vs hS hv=>?_⟩
 obtain rfl:=hv.get2
 unfold mul64M at hr
 by_cases h:(0 ≤ x ∧ x ≤ 18446744073709551615) ∧ (0 ≤ y ∧ y ≤ 18446744073709551615)
 ·rw [if_pos h] at hr; cases hr
  obtain ⟨a,rfl⟩:∃ a:Nat,x = a:=⟨x.toNat,by omega⟩
  obtain ⟨b,rfl⟩:∃ b:Nat,y = b:=⟨y.toNat,by omega⟩
  refine (Any.bits_Mul64 L a b (by omega) (by omega) w).mono fun e w' ⟨he,hw⟩=>?_
  subst hw
  refine ⟨_,S,he,.tup [_,_] _ rfl fun j h1 h2=>?_,.refl _ _,hS,fun b hb=>.inl hb⟩
  match j,h1 with
  | 0,_=>exact .t (.v _)
  | 1,_=>exact .t (.v _)
 ·rw [if_neg h] at hr; cases hr
section
variable {ρ:Type} {X:Cx} {ks:List K} {tm tmMin:List (Nat × T)} {hp:List (Nat × Blk)} {Q:ρ → Exit → St → Prop} {all:Array Oper} {o:Oper} {rest:List Oper}
theorem TieO.shl {ty yt d:Nat} {x y:Operand} {ik jk:IntKind} {i j:Int} {k:Int → Option ρ} (ho:o.op = .binOp .shl ty x y yt) (hd:o.dst = some d) (hdn:Nat.blt d X.nt = true) (hg:guardT all.toList tm o.guard = some true)
  (hx:val tm x = some (.t (.v (.int ik i)))) (hy:val tm y = some (.t (.v (.int jk j)))) (h:∀ q,TieO X all rest ks ⟨(d,.t (.v (.int ik q))) :: tm,hp⟩ (k q) Q) :
  TieO X all (o :: rest) ks ⟨tm,hp⟩ ((shlM ik i j).bind k) Q:=
 TieO.one hd hdn hg (fun q=>.t (.v (.int ik q))) (fun q S E a w hm hk=>by
  unfold shlM at hm
  split at hm
  ·cases hm
  ·rename_i hj
   cases hm
   refine ⟨_,?_,.t (.v _)⟩
   simp only [execOp,ho,Sem.run_bind,(hk.val hx).tv,(hk.val hy).tv,eqGuard_run .shl ty x y (.int ik i) (.int jk j) (by simp) (by simp),Result.andThen_ok]
   simp [binOp,Op.shift,hj,bitShl]) (fun q _=>h q)
theorem TieO.shr {ty yt d:Nat} {x y:Operand} {ik jk:IntKind} {i j:Int} {k:Int → Option ρ} (ho:o.op = .binOp .shr ty x y yt) (hd:o.dst = some d) (hdn:Nat.blt d X.nt = true) (hg:guardT all.toList tm o.guard = some true)
  (hx:val tm x = some (.t (.v (.int ik i)))) (hy:val tm y = some (.t (.v (.int jk j)))) (h:∀ q,TieO X all rest ks ⟨(d,.t (.v (.int ik q))) :: tm,hp⟩ (k q) Q) :
  TieO X all (o :: rest) ks ⟨tm,hp⟩ ((shrM ik i j).bind k) Q:=
 TieO.one hd hdn hg (fun q=>.t (.v (.int ik q))) (fun q S E a w hm hk=>by
  unfold shrM at hm
  split at hm
  ·cases hm
  ·rename_i hj
   cases hm
   refine ⟨_,?_,.t (.v _)⟩
   simp only [execOp,ho,Sem.run_bind,(hk.val hx).tv,(hk.val hy).tv,eqGuard_run .shr ty x y (.int ik i) (.int jk j) (by simp) (by simp),Result.andThen_ok]
   simp [binOp,Op.shift,hj,bitShr]) (fun q _=>h q)
theorem StepQ.op1 {V:T} (hg:guardT all.toList tmMin o.guard = some true)
  (hrun:∀ tm,more tmMin tm → ∀ (a:Act) w S E,Ok X.w0 X.L X.nt ⟨tm,hp⟩ S E a w → ∃ v,(execOp a.eval o).run X.P w = .ok (.value v) w ∧ RV w S E v V):StepQ X all o tmMin hp V:=by
 intro tm hm a w S E hk K Q' hK
 obtain ⟨v,h1,h2⟩:=hrun tm hm a w S E hk
 rw [guardT_ok hk (guardT_more hm hg),if_pos rfl]
 unfold Oper.wp
 rw [h1]
 exact hK _ _ _ _ hk h2
theorem StepQ.rem {ty yt:Nat} {x y:Operand} {ik:IntKind} {i j q:Int} (hq:remM i j = some q) (ho:o.op = .binOp .rem ty x y yt) (hg:guardT all.toList tmMin o.guard = some true)
  (hx:val tmMin x = some (.t (.v (.int ik i)))) (hy:val tmMin y = some (.t (.v (.int ik j)))):StepQ X all o tmMin hp (.t (.v (.int ik q))):=
 .op1 hg fun tm hm a w S E hk=>⟨.int ik q,by
  unfold remM at hq
  split at hq
  ·cases hq
  ·rename_i hj
   cases hq
   simp only [execOp,ho,Sem.run_bind,(hk.val (val_more hm hx)).tv,(hk.val (val_more hm hy)).tv,eqGuard_run .rem ty x y (.int ik i) (.int ik j) (by simp) (by simp),Result.andThen_ok]
   simp [binOp,Op.intDiv,hj],.t (.v _)⟩
end
end Go.Pv
namespace Go.Pv
open Go.RowKit
theorem chk_le {lo hi:Int} {n:Nat} {y:Unit} (h:chkM lo hi n = some y):lo.toNat + (hi.toNat - lo.toNat) ≤ n:=by
 unfold chkM at h
 split at h
 ·omega
 ·cases h
theorem copyAt_length {α:Type} {l r:List α} {lo:Nat} (h:lo + r.length ≤ l.length):(copyAt l lo r).length = l.length:=by
 unfold copyAt; simp; omega
theorem copyAt_get {α:Type} {l r:List α} {lo:Nat} (h:lo + r.length ≤ l.length) (i:Nat):(copyAt l lo r)[i]? = if i < lo then l[i]? else if i < lo + r.length then r[i - lo]? else l[i]?:=by
 unfold copyAt
 by_cases h1:i < lo
 ·rw [if_pos h1,List.append_assoc,List.getElem?_append_left (by rw [List.length_take]; omega),List.getElem?_take,if_pos h1]
 ·rw [if_neg h1]
  by_cases h2:i < lo + r.length
  ·rw [if_pos h2,List.append_assoc,List.getElem?_append_right (by rw [List.length_take]; omega),List.length_take,Nat.min_eq_left (by omega),List.getElem?_append_left (by omega)]
  ·rw [if_neg h2,List.getElem?_append_right (by rw [List.length_append,List.length_take]; omega),List.length_append,List.length_take,Nat.min_eq_left (by omega),List.getElem?_drop]
   congr 1; omega
section
variable {P:Program} {w0:World} {L:Lim} {nt:Nat} {tm:List (Nat × T)} {hp:List (Nat × Blk)} {S:Nat → Prop} {E:Nat → Value} {a:Act} {w:World}
theorem Ok.putAt (h:Ok w0 L nt ⟨tm,hp⟩ S E a w) {id e sz n m cap β lo:Nat} {rs r2:List (List Tree)} {news:List Value} (hb:look hp id = some (.rows e sz n rs)) (hE:E id = .slice (some ⟨β,0,none⟩) m cap)
  (hlo:lo + r2.length ≤ rs.length) (hnl:news.length = r2.length * sz) (hone:∀ u ∈ news,u.oneCell' = true) (h2:∀ r ∈ r2,r.length = sz)
  (hnr:∀ i j (hi:i < r2.length) (hj:j < (r2[i]).length) (hb:i * sz + j < news.length),RT w S (news[i * sz + j]) ((r2[i])[j])) :
  ∃ w',(storeCells ⟨β,lo * sz,none⟩ news).run P w = .ok () w' ∧ Ok w0 L nt ⟨tm,hput hp id (.rows e sz n (copyAt rs lo r2))⟩ S E a w':=by
 obtain ⟨hn,hrow⟩:=h.hp id _ hb
 have hcl:=copyAt_length hlo
 rcases hrow with ⟨hE',_⟩ | ⟨β',cap',cs,hcm,hE',hh,hcl2,hcc,hsz,hcr⟩
 ·rw [hE'] at hE; cases hE
 ·rw [hE'] at hE
  have hβ:β' = β:=by injection hE with h1; injection h1 with h1; injection h1
  subst hβ
  have hle1:(lo + r2.length) * sz ≤ cap' * sz:=Nat.mul_le_mul_right _ (by omega)
  rw [Nat.add_mul] at hle1
  have hst:=run_storeCells_at (P:=P) β' (lo * sz) e news 0 cs.toArray w hh (by simp; rw [hnl,hcl2]; exact hle1) hone
  simp only [Nat.add_zero] at hst
  refine ⟨_,hst,h.setRow hb (by rw [hE']; rfl) hh fun hS hnew=>⟨by rw [hcl]; exact hn,.inr ⟨β',cap',cs.take (lo * sz) ++ news ++ cs.drop (lo * sz + news.length),hcm,by rw [hcl]; exact hE',hnew,?_,by rw [hcl]; exact hcc,?_,?_⟩⟩⟩
  ·simp only [List.length_append,List.length_take,List.length_drop]; omega
  ·intro r hr
   unfold copyAt at hr
   rcases List.mem_append.1 hr with hr | hr
   ·rcases List.mem_append.1 hr with hr | hr
    ·exact hsz r (List.mem_of_mem_take hr)
    ·exact h2 r hr
   ·exact hsz r (List.mem_of_mem_drop hr)
  ·intro i j hi hj hb'
   have hi2:i < rs.length:=by rw [← hcl]; exact hi
   have hg:=copyAt_get hlo i
   rw [List.getElem?_eq_getElem hi] at hg
   have hcat:∀ k,(cs.take (lo * sz) ++ news ++ cs.drop (lo * sz + news.length))[k]? = if k < lo * sz then cs[k]? else if k < lo * sz + news.length then news[k - lo * sz]? else cs[k]?:=fun k=>copyAt_get (l:=cs) (r:=news) (lo:=lo * sz) (by omega) k
   by_cases h1:i < lo
   ·rw [if_pos h1,List.getElem?_eq_getElem hi2] at hg
    have eg:=Option.some.inj hg
    have hj1:j < (rs[i]).length:=by rw [← eg]; exact hj
    have hjs:j < sz:=by rw [← hsz _ (List.getElem_mem hi2)]; exact hj1
    have hlt:i * sz + j < lo * sz:=by
     have:(i + 1) * sz ≤ lo * sz:=Nat.mul_le_mul_right _ h1
     rw [Nat.succ_mul] at this; omega
    have hb2:i * sz + j < cs.length:=by omega
    have ec:(cs.take (lo * sz) ++ news ++ cs.drop (lo * sz + news.length))[i * sz + j] = cs[i * sz + j]:=by
     apply Option.some.inj
     rw [← List.getElem?_eq_getElem,hcat,if_pos hlt,List.getElem?_eq_getElem hb2]
    simp only [eg]
    rw [ec]
    exact (hcr i j hi2 hj1 hb2).mono (fun _ x=>x) hS
   ·rw [if_neg h1] at hg
    by_cases h3:i < lo + r2.length
    ·rw [if_pos h3,List.getElem?_eq_getElem (by omega)] at hg
     have eg:=Option.some.inj hg
     have hj1:j < (r2[i - lo]'(by omega)).length:=by rw [← eg]; exact hj
     have hjs:j < sz:=by rw [← h2 _ (List.getElem_mem (by omega:i - lo < r2.length))]; exact hj1
     have e1:i * sz = lo * sz + (i - lo) * sz:=by rw [← Nat.add_mul]; congr 1; omega
     have hlt:(i - lo) * sz + j < news.length:=by
      have:(i - lo + 1) * sz ≤ r2.length * sz:=Nat.mul_le_mul_right _ (by omega)
      rw [Nat.succ_mul] at this; omega
     have ec:(cs.take (lo * sz) ++ news ++ cs.drop (lo * sz + news.length))[i * sz + j] = news[(i - lo) * sz + j]:=by
      apply Option.some.inj
      rw [← List.getElem?_eq_getElem,hcat,if_neg (by omega),if_pos (by omega),← List.getElem?_eq_getElem hlt]
      congr 1; omega
     simp only [eg]
     rw [ec]
     exact (hnr (i - lo) j (by omega) hj1 hlt).mono (fun _ x=>x) hS
    ·rw [if_neg h3,List.getElem?_eq_getElem hi2] at hg
     have eg:=Option.some.inj hg
     have hj1:j < (rs[i]).length:=by rw [← eg]; exact hj
     have hle:(lo + r2.length) * sz ≤ i * sz:=Nat.mul_le_mul_right _ (by omega)
     rw [Nat.add_mul] at hle
     have hjs:j < sz:=by rw [← hsz _ (List.getElem_mem hi2)]; exact hj1
     have hb2:i * sz + j < cs.length:=by
      have:(i + 1) * sz ≤ cap' * sz:=Nat.mul_le_mul_right _ (by omega)
      rw [Nat.succ_mul] at this; omega
     have ec:(cs.take (lo * sz) ++ news ++ cs.drop (lo * sz + news.length))[i * sz + j] = cs[i * sz + j]:=by
      apply Option.some.inj
      rw [← List.getElem?_eq_getElem,hcat,if_neg (by omega),if_neg (by omega),List.getElem?_eq_getElem hb2]
     simp only [eg]
     rw [ec]
     exact (hcr i j hi2 hj1 hb2).mono (fun _ x=>x) hS
theorem hput_same {hp:List (Nat × Blk)} {id:Nat} {b:Blk}:∀ {hp:List (Nat × Blk)},look hp id = some b → ∀ k,look (hput hp id b) k = look hp k:=fun {hp} h k=>by
 rw [look_hput]
 by_cases e:id = k
 ·subst e; simp [h]
 ·simp [e]
theorem Ok.hputSame (h:Ok w0 L nt ⟨tm,hp⟩ S E a w) {id:Nat} {b:Blk} (hb:look hp id = some b):Ok w0 L nt ⟨tm,hput hp id b⟩ S E a w:={ h with
 hp:=fun k c hk=>h.hp k c (by simp only at hk; rw [hput_same (hp:=hp) hb] at hk; exact hk)
 own:=fun k c β hk=>h.own k c β (by simp only at hk; rw [hput_same (hp:=hp) hb] at hk; exact hk)
 dist:=fun k k' c c' β hk hk'=>h.dist k k' c c' β (by simp only at hk; rw [hput_same (hp:=hp) hb] at hk; exact hk) (by simp only at hk'; rw [hput_same (hp:=hp) hb] at hk'; exact hk') }
end
section
variable {ρ α:Type} {X:Cx} {ks:List K} {tm tmMin:List (Nat × T)} {hp:List (Nat × Blk)} {m:Option ρ} {Q:ρ → Exit → St → Prop} {all:Array Oper} {o:Oper} {rest:List Oper}
theorem view_run {w0:World} {L:Lim} {nt:Nat} {S:Nat → Prop} {E:Nat → Value} {a:Act} {w:World} {tm0:List (Nat × T)} (hk:Ok w0 L nt ⟨tm0,hp⟩ S E a w) {tab:Tab} {P:Program} (htab:TabOk P tab) {t e e' n s0 id sz:Nat} {z0:List Value} {te:TI} {x:Operand} {lo hi:Option Operand} {l:List α} {i j:Int} {enc:α → List Tree}
  (ho:o.op = .slice t x lo hi none) (hx:val tm0 x = some (.own id)) (hb:look hp id = some (.rows e sz n (l.map enc))) (hty:look tab t = some ⟨s0,.slice e',z0⟩) (hte:look tab e' = some te) (hsz:te.size = sz)
  (hlo:optI tm0 0 lo = some i) (hhi:optI tm0 l.length hi = some j) (hc:chkM i j l.length = some ()) :
  ∃ v,(execOp a.eval o).run P w = .ok (.value v) w ∧ RV w S E v (.vw id i.toNat (j.toNat - i.toNat) sz):=by
 unfold chkM at hc
 split at hc <;> try (cases hc; done)
 rename_i hbd0
 obtain ⟨h0,h1,h2⟩:=hbd0
 obtain ⟨q,dd,hi',hs,hu,hdd,_⟩:=htab t _ hty
 simp only [TD.ok] at hdd
 subst hdd
 have hs':=(htab e' _ hte).run_size w
 have hxv:a.eval x = E id:=by
  have hv:=hk.val hx
  generalize a.eval x = sv at hv
  cases hv with | own _ _ hE=>exact hE.symm
 obtain ⟨hn,hrow⟩:=hk.hp id _ hb
 have hn':n = l.length:=by simpa using hn
 subst hn'
 rcases hrow with ⟨hE,hr0⟩ | ⟨β,cap,cs,hcm,hE,hh,hcl,hcc,hszr,hcr⟩
 ·have hl0:l = []:=by simpa using hr0
  subst hl0
  have hj0:j = 0:=by simp at h2; omega
  have hi0:i = 0:=by omega
  subst hj0 hi0
  have hbd:=run_bounds (P:=P) (w:=w) (n:=0) (c:=0) (optI_run hk hlo) (optI_run hk hhi) (Int.le_refl 0) (Int.le_refl 0) (Int.le_refl 0)
  have hbd':(Instr.sliceBounds true 0 0 (lo.map a.eval) (hi.map a.eval) none).run P w = .ok (0,0,0) w:=hbd
  refine ⟨.slice none 0 0,?_,.vw id _ _ sz 0 none (.inl rfl)⟩
  simp only [execOp,ho,Instr.sliceAt,Sem.run_bind,run_underlying hu,Result.andThen_ok,Instr.slice,hxv,hE,Option.map_none,hbd',hs',Sem.run_pure]
  rfl
 ·have hcc':l.length ≤ cap:=by simpa using hcc
  have hbd:=run_bounds (P:=P) (w:=w) (n:=l.length) (c:=cap) (optI_run hk hlo) (optI_run hk hhi) h0 h1 (by omega)
  simp only [List.length_map] at hE
  refine ⟨_,by
   simp only [execOp,ho,Instr.sliceAt,Sem.run_bind,run_underlying hu,Result.andThen_ok,Instr.slice,hxv,hE,Option.map_none,hbd,hs',Sem.run_pure]
   rfl,?_⟩
  refine .vw id _ _ sz _ _ ?_
  by_cases hz:j.toNat - i.toNat = 0
  ·exact .inl hz
  ·refine .inr ⟨β,_,cap,hE,?_⟩
   have hne:¬ cap = i.toNat:=by omega
   simp only [hne,if_false,Option.map_some,addr_add,Nat.zero_add,hsz]
theorem TieO.viewO {t e e' d n s0 id sz:Nat} {z0:List Value} {te:TI} {x:Operand} {lo hi:Option Operand} {l:List α} {i j:Int} {enc:α → List Tree} {k:Unit → Option ρ}
  (ho:o.op = .slice t x lo hi none) (hd:o.dst = some d) (hdn:Nat.blt d X.nt = true) (hg:guardT all.toList tm o.guard = some true) (hx:val tm x = some (.own id)) (hb:look hp id = some (.rows e sz n (l.map enc)))
  (hty:look X.tab t = some ⟨s0,.slice e',z0⟩) (hte:look X.tab e' = some te) (hsz:te.size = sz) (hlo:optI tm 0 lo = some i) (hhi:optI tm l.length hi = some j)
  (h:∀ y,chkM i j l.length = some y → TieO X all rest ks ⟨(d,.vw id i.toNat (j.toNat - i.toNat) sz) :: tm,hp⟩ (k y) Q):TieO X all (o :: rest) ks ⟨tm,hp⟩ ((chkM i j l.length).bind k) Q:=
 TieO.one hd hdn hg (fun _=>.vw id i.toNat (j.toNat - i.toNat) sz) (fun y S E a w hm hk=>by
  cases y
  exact view_run hk X.htab ho hx hb hty hte hsz hlo hhi hm) h
theorem src_vw {w0:World} {L:Lim} {nt:Nat} {S:Nat → Prop} {E:Nat → Value} {a:Act} {w:World} {tm0:List (Nat × T)} (hk:Ok w0 L nt ⟨tm0,hp⟩ S E a w) {id e sz n lo q:Nat} {rs:List (List Tree)} {v:Value} (hb:look hp id = some (.rows e sz n rs)) (hv:RV w S E v (.vw id lo q sz)) (hle:lo + q ≤ rs.length)
  (hone:∀ r ∈ rs,∀ t ∈ r,oneTree t = true):Src w S v q sz ((rs.drop lo).take q):=by
 refine ⟨by rw [List.length_take,List.length_drop]; omega,?_⟩
 cases hv with
 | vw _ _ _ _ c ad h=>
  refine ⟨ad,c,rfl,fun h0=>?_⟩
  rcases h with h | ⟨β,m,cap,hE,ha⟩
  ·omega
  ·obtain ⟨hn,hrow⟩:=hk.hp id _ hb
   rcases hrow with ⟨hE',_⟩ | ⟨β',cap',cs,hcm,hE',hh,hcl2,hcc,hsz,hcr⟩
   ·rw [hE'] at hE; cases hE
   ·rw [hE'] at hE
    have hβ:β' = β:=by injection hE with h1; injection h1 with h1; injection h1
    subst hβ
    have hle1:(lo + q) * sz ≤ cap' * sz:=Nat.mul_le_mul_right _ (by omega)
    rw [Nat.add_mul] at hle1
    have hlen:((cs.drop (lo * sz)).take (q * sz)).length = q * sz:=by rw [List.length_take,List.length_drop]; omega
    have cell:∀ k (hk1:k < q * sz),∃ (h1:lo + k / sz < rs.length) (h2:k % sz < (rs[lo + k / sz]).length) (h3:lo * sz + k < cs.length),RT w S (cs[lo * sz + k]) ((rs[lo + k / sz])[k % sz]):=fun k hk1=>by
     have hs0:0 < sz:=pos_of_mul hk1
     have h1:k / sz < q:=Nat.div_lt_of_lt_mul (by rw [Nat.mul_comm]; exact hk1)
     have h2:k % sz < (rs[lo + k / sz]'(by omega)).length:=by rw [hsz _ (List.getElem_mem _)]; exact Nat.mod_lt _ hs0
     have e1:(lo + k / sz) * sz + k % sz = lo * sz + k:=by have:=Nat.div_add_mod k sz; rw [Nat.mul_comm] at this; rw [Nat.add_mul]; omega
     refine ⟨by omega,h2,by omega,?_⟩
     have:=hcr (lo + k / sz) (k % sz) (by omega) h2 (by omega)
     simp only [e1] at this
     exact this
    refine ⟨⟨β',lo * sz,none⟩,(cs.drop (lo * sz)).take (q * sz),ha,hlen,fun j u hu=>?_,fun u hu=>?_,fun i j hi hj hb2=>?_⟩
    ·rw [List.getElem?_take] at hu
     split at hu
     ·rw [List.getElem?_drop] at hu
      rw [addr_add,cell_of_row w β' _ _ e _ hh]; simpa using hu
     ·cases hu
    ·obtain ⟨k,hk1,rfl⟩:=List.mem_iff_getElem.1 hu
     have hk2:k < q * sz:=by rw [hlen] at hk1; exact hk1
     obtain ⟨h1,h2,h3,h4⟩:=cell k hk2
     rw [List.getElem_take,List.getElem_drop]
     exact h4.one (hone _ (List.getElem_mem h1) _ (List.getElem_mem h2))
    ·have hi2:i < q:=by rw [List.length_take,List.length_drop] at hi; omega
     have e1:((rs.drop lo).take q)[i] = rs[lo + i]'(by omega):=by rw [List.getElem_take,List.getElem_drop]
     have hj1:j < (rs[lo + i]'(by omega)).length:=by rw [← e1]; exact hj
     have e2:(lo + i) * sz + j = lo * sz + (i * sz + j):=by rw [Nat.add_mul]; omega
     have hlt:lo * sz + (i * sz + j) < cs.length:=by rw [hlen] at hb2; omega
     have:=hcr (lo + i) j (by omega) hj1 (by rw [e2]; exact hlt)
     simp only [e2] at this
     simp only [e1]
     rw [List.getElem_take,List.getElem_drop]
     exact this
theorem TieO.copyV {t t2 e e' n s0 id lo q lo2 q2:Nat} {z0:List Value} {te:TI} {s x:Operand} {l:List α} {enc:α → List Tree} {σ₁:St} {hc hc2:Prop}
  (h1:hc) (h2:hc2) (hle:hc → lo + q ≤ l.length) (hle2:hc2 → lo2 + q2 ≤ l.length)
  (ho:o.op = .call ⟨.builtin .copy,#[s,x],#[t,t2]⟩) (hg:guardT all.toList tm o.guard = some true)
  (hty:look X.tab t = some ⟨s0,.slice e',z0⟩) (hte:look X.tab e' = some te) (henc:∀ y,(enc y).length = te.size) (hone:∀ y,(enc y).all oneTree = true)
  (hs:val tm s = some (.vw id lo q te.size)) (hx:val tm x = some (.vw id lo2 q2 te.size)) (hb:look hp id = some (.rows e te.size n (l.map enc)))
  (hput:putT X.nt o.dst (.t (.v (.int .i64 (min q2 q:Nat)))) ⟨tm,hput hp id (.rows e te.size (copyAt l lo (((l.drop lo2).take q2).take q)).length ((copyAt l lo (((l.drop lo2).take q2).take q)).map enc))⟩ = some σ₁)
  (h:TieO X all rest ks σ₁ m Q):TieO X all (o :: rest) ks ⟨tm,hp⟩ m Q:=fun y hy a w ⟨S,E,hk⟩=>by
 have hle:=hle h1
 have hle2:=hle2 h2
 obtain ⟨dd,hu,ho2⟩:∃ d,X.P.underlying t = some d ∧ TD.ok X.P (.slice e') d:=by
  obtain ⟨i,d,_,_,hu,hdd,_⟩:=X.htab t _ hty
  exact ⟨d,hu,hdd⟩
 simp only [TD.ok] at ho2
 subst ho2
 obtain ⟨i0,d0,hi0,hs0,_⟩:=X.htab e' _ hte
 have hn:n = l.length:=by have:=(hk.hp id _ hb).1; simpa using this
 subst hn
 have hsrc:=src_vw hk hb (hk.val hx) (by simpa using hle2) (all_one hone l)
 obtain ⟨_,ad2,c2,hxe,hsrc⟩:=hsrc
 have hdst:=hk.val hs
 have hrl:((l.drop lo2).take q2).length = q2:=by rw [List.length_take,List.length_drop]; omega
 have e0:((l.map enc).drop lo2).take q2 = ((l.drop lo2).take q2).map enc:=by simp [List.map_take,List.map_drop]
 have hcl:(copyAt l lo (((l.drop lo2).take q2).take q)).length = l.length:=copyAt_length (by rw [List.length_take,hrl]; omega)
 rw [hcl] at hput
 have e1:(copyAt l lo (((l.drop lo2).take q2).take q)).map enc = copyAt (l.map enc) lo ((((l.drop lo2).take q2).take q).map enc):=by simp [copyAt,List.map_take,List.map_drop]
 rw [e1] at hput
 generalize hse:a.eval s = sv at hdst
 have fin:∀ w',(Builtin.copy_ #[t,t2] o.type #[sv,.slice ad2 q2 c2]).run X.P w = .ok (.int .i64 (min q2 q:Nat)) w' →
   Ok X.w0 X.L X.nt ⟨tm,Go.Pv.hput hp id (.rows e te.size l.length (copyAt (l.map enc) lo ((((l.drop lo2).take q2).take q).map enc)))⟩ S E a w' → wpList X.P all (after X.P ks (X.post (Q y))) (o :: rest) a w:=fun w' hr hok=>by
  refine wpList_step fun K hK=>?_
  rw [guardT_ok hk hg,if_pos rfl]
  unfold Oper.wp
  have hexec:(execOp a.eval o).run X.P w = .ok (.value (.int .i64 (min q2 q:Nat))) w':=by
   unfold execOp
   simp only [ho,resolve,invoke,builtin,Sem.run_bind,Sem.run_pure,Result.andThen_ok,List.map_toArray,List.map_cons,List.map_nil,hse,hxe,hr]
  rw [hexec]
  exact hK _ _ (h y hy _ _ ⟨S,E,putT_ok hok (.t (.v _)) hput⟩)
 cases hdst with
 | vw _ _ _ _ c ad hvw=>
  have hmin:Nat.min q2 q = min q2 q:=rfl
  by_cases hz:min q2 q = 0
  · -- nothing to copy
   have hf:(Builtin.firstCells i0.size 0 (.slice ad2 q2 c2)).run X.P w = .ok #[] w:=by cases ad2 <;> simp [Builtin.firstCells,loadCells,loadCellsFrom]
   have hnil:((l.drop lo2).take q2).take q = []:=List.eq_nil_of_length_eq_zero (by rw [List.length_take,hrl,Nat.min_comm]; exact hz)
   refine fin w ?_ ?_
   ·cases ad <;> simp [Builtin.copy_,run_underlying hu,Builtin.lenOf,sizeOf,typeInfo,hi0,hf,goInt,hmin,hz,storeCells]
   ·rw [hnil]
    have:copyAt (l.map enc) lo (List.map enc []) = l.map enc:=by simp [copyAt]
    rw [this]
    exact hk.hputSame hb
  ·have hq0:0 < q2:=by omega
   obtain ⟨ad2',all2,rfl,hal,hac,hon,har⟩:=hsrc hq0
   rcases hvw with hvw | ⟨β,m',cap,hE,rfl⟩
   ·omega
   ·have hle3:min q2 q * te.size ≤ q2 * te.size:=Nat.mul_le_mul_right _ (Nat.min_le_left _ _)
    have hload:(Builtin.firstCells i0.size (min q2 q) (.slice (some ad2') q2 c2)).run X.P w = .ok (all2.take (min q2 q * te.size)).toArray w:=by
     have:=run_loadCells_list (P:=X.P) w ad2' (all2.take (min q2 q * te.size)) (fun j u hu=>by
      rw [List.getElem?_take] at hu
      split at hu
      ·exact hac j u hu
      ·cases hu)
     rw [List.length_take,hal,Nat.min_eq_left hle3] at this
     simp [Builtin.firstCells,hs0,this]
    have hr2l:((((l.drop lo2).take q2).take q).map enc).length = min q2 q:=by rw [List.length_map,List.length_take,hrl,Nat.min_comm]
    obtain ⟨w',hst,hok⟩:=hk.putAt (P:=X.P) (lo:=lo) (r2:=(((l.drop lo2).take q2).take q).map enc) (news:=all2.take (min q2 q * te.size)) hb hE (by rw [hr2l]; simp; omega) (by rw [List.length_take,hal,hr2l]; exact Nat.min_eq_left hle3) (fun u hu=>hon u (List.mem_of_mem_take hu))
     (fun r hr=>by obtain ⟨z,_,rfl⟩:=List.mem_map.1 hr; exact henc z)
     (fun i j hi hj hbb=>by
      rw [hr2l] at hi
      have hi2:i < (((l.map enc).drop lo2).take q2).length:=by rw [e0,List.length_map,hrl]; omega
      have eg:((((l.drop lo2).take q2).take q).map enc)[i]'(by rw [hr2l]; exact hi) = (((l.map enc).drop lo2).take q2)[i]:=by
       simp [List.getElem_take,List.getElem_drop]
      have hj2:j < ((((l.map enc).drop lo2).take q2)[i]).length:=by rw [← eg]; exact hj
      have hb3:i * te.size + j < all2.length:=by rw [List.length_take] at hbb; omega
      have:=har i j hi2 hj2 hb3
      simp only [eg]
      rw [List.getElem_take]
      exact this)
    refine fin w' ?_ hok
    simp [Builtin.copy_,run_underlying hu,Builtin.lenOf,sizeOf,typeInfo,hi0,hmin,hload,goInt,hst]
end
section
variable {X:Cx} {ops:Array Oper} {fe fuel:Nat} {le l l':List Bool} {σ':St} {o:Oper}
end
section
variable {ρ:Type} {X:Cx} {ks:List K} {σ:St} {m:Option ρ} {Q:ρ → Exit → St → Prop}
theorem after_goto {P:Program} {Q:Exit → Act → World → Prop} {l:Nat} {a:Act} {w:World}:∀ (ks:List K),after P ks Q (.goto l) a w → Q (.goto l) a w
 | [],h=>h
 | .c _ :: ks,h=>after_goto ks h
 | .e _ :: ks,h=>after_goto ks h
theorem TieS.scope {x:Code} (hQ:∀ r l σ,¬ Q r (.goto l) σ) (h:TieS X (.c x :: ks) σ m Q):TieS X (.c (.scope x) :: ks) σ m Q:=fun r hr a w hw=>by
 refine wp_scope_straight (wp_mono (h r hr a w hw) ?_)
 intro e a w he
 cases e with
 | goto l=>obtain ⟨σ,_,hq⟩:=after_goto ks he; exact hQ r l σ hq
 | _=>exact he
theorem TieS.label {l:Nat} (h:TieS X ks σ m Q):TieS X (.c (.label l) :: ks) σ m Q:=fun r hr a w hw=>wp_label (h r hr a w hw)
end
end Go.Pv
namespace Go.Pv
open Go.RowKit
def bm:Nat → Nat → List Bool
 | 0,_=>[]
 | n + 1,k=>Nat.beq (k % 2) 1 :: bm n (k / 2)
abbrev Blk.rs {α:Type} (e sz:Nat) (l:List α) (enc:α → List Tree):Blk:=.rows e sz l.length (l.map enc)
section
variable {X:Cx} {ops:Array Oper} {fe fuel:Nat} {le l:List Bool} {σ σ₁ σ₂ σ':St} {o:Oper}
theorem AllA.consE {i:Nat} {rs:List Nat} (l':List Bool) (ho:ops[i]? = some o) (hl:l.set i true = l') (h₁:TieO X ops [o] [] σ (some ()) (fun _ e σ''=>e = .normal ∧ σ'' = σ₁)) (h₂:TieA X ops fe le fuel l' σ₁ σ') (h₃:AllA X ops fe le fuel l σ σ' rs):AllA X ops fe le fuel l σ σ' (i :: rs):=fun j hj Q hp hQ a w hw=>by
 rcases List.mem_cons.1 hj with rfl | hj
 ·have h:=h₁ () rfl a w hw
  unfold wpOp
  simp only [ho]
  have next:∀ a w,wpList X.P ops (after X.P [] (X.post fun e σ''=>e = .normal ∧ σ'' = σ₁)) [] a w → wpAny X.P .any ops Q fuel (l.toArray.setIfInBounds j true) a w:=fun a w ⟨σ'',hs,_,e⟩=>by
   rw [List.setIfInBounds_toArray,hl]
   subst e; exact h₂ Q hp hQ a w hs
  unfold wpList at h
  split at h
  ·rename_i hg
   rw [if_pos hg]
   rcases h with h | ⟨h1,h2⟩
   ·refine .inl ?_
    revert h
    unfold Oper.wp
    generalize (execOp a.eval o).run X.P w = r
    intro h
    cases r with
    | ok n w'=>
     cases n <;> simp only [Oper.upon] at h ⊢
     all_goals first
      | exact next _ _ h
      | exact Calls.mono h (fun e w'' he=>by cases e <;> first | exact next _ _ he | (obtain ⟨_,_,_,_,he,_⟩:=he; cases he) | (obtain ⟨_,_,he,_⟩:=he; cases he))
      | exact Rows.mono h (fun _ _ he=>next _ _ he)
      | (obtain ⟨_,_,he,_⟩:=h; cases he)
      | exact h
    | halt x w'=>cases x <;> simp only [Oper.upon] at h ⊢ <;> first | exact h | (obtain ⟨_,_,he,_⟩:=h; cases he)
   ·obtain ⟨_,_,_,_,he,_⟩:=h2; cases he
  ·rename_i hg
   rw [if_neg hg]
   exact next _ _ h
 ·exact h₃ j hj Q hp hQ a w hw
theorem AllA.run {i:Nat} {rs:List Nat} (l':List Bool) (ho:ops[i]? = some o) (hl:l.set i true = l') (he:runOps X.tab X.nt ops.toList 1 [o] σ = ([],σ₁)) (h₂:TieA X ops fe le fuel l' σ₁ σ') (h₃:AllA X ops fe le fuel l σ σ' rs):AllA X ops fe le fuel l σ σ' (i :: rs):=
 AllA.consE l' ho hl (TieO.run 1 he (.nil (.leaf ⟨rfl,rfl⟩))) h₂ h₃
theorem AllA.runTo {i:Nat} {rs:List Nat} (l':List Bool) (ho:ops[i]? = some o) (hl:l.set i true = l') (he:runOps X.tab X.nt ops.toList 1 [o] σ = ([],σ₂)) (hs:Sub σ₁ σ₂) (h₂:TieA X ops fe le fuel l' σ₁ σ') (h₃:AllA X ops fe le fuel l σ σ' rs):AllA X ops fe le fuel l σ σ' (i :: rs):=
 AllA.cons l' ho hl (TieO.run 1 he (.nil (.leaf ⟨rfl,hs⟩))) h₂ h₃
def okA (nt:Nat) (ops:Array Oper) (l:List Bool) (i d:Nat) (o:Oper):Bool:=Nat.blt d nt && o.guard.isNone && Region.noSelect ops && Region.free .any ops l.toArray i && (Region.ready .any ops l.toArray).contains i
theorem okA_of {nt i d:Nat} (h:okA nt ops l i d o = true):Nat.blt d nt = true ∧ o.guard = none ∧ Region.noSelect ops = true ∧ Region.free .any ops l.toArray i = true ∧ (Region.ready .any ops l.toArray).contains i = true:=by
 unfold okA at h
 simp only [Bool.and_eq_true,Option.isNone_iff_eq_none] at h
 exact ⟨h.1.1.1.1,h.1.1.1.2,h.1.1.2,h.1.2,h.2⟩
theorem TieA.mv {d:Nat} {x:Operand} {t:T} {tm:List (Nat × T)} {hp:List (Nat × Blk)} (i:Nat) (ho:ops[i]? = some o) (hop:o.op = .move x ∨ o.op = .assign x) (hd:o.dst = some d) (hb:okA X.nt ops l i d o = true) (hx:val tm x = some t)
  (h:TieA X ops fe le fuel (l.set i true) ⟨(d,t) :: tm,hp⟩ σ'):TieA X ops fe le (fuel + 1) l ⟨tm,hp⟩ σ':=
 have k:=okA_of hb
 TieA.move i _ ho rfl hop hd k.1 k.2.1 k.2.2.1 k.2.2.2.1 k.2.2.2.2 hx h
end
end Go.Pv

/- This file joins: The value machine, part Xc: rows that are made, copied, cut. The value machine, part Xd: elements of the call's own rows, read and written under names. The value machine, part Xe: names and nil slices in the midst of operations; what is known ahead; regions that draw their order and change rows on the way. Part Xi: what library functions compute, plain. Types and models, printed by gen.py: plain Lean; nothing of the loaded program stands here. -/
import Derived.Test.YtalanclpiojanaaGreatControlStepsC
import Derived.Laws.MakeOwn
import Derived.Orders
import Derived.Lib.BitFns
set_option linter.unusedSimpArgs false
set_option linter.unusedVariables false
namespace Go.Pv
open Go.RowKit
def makeM {α:Type} (n:Int) (z:α):Option (List α):=if 0 ≤ n ∧ n ≤ 1073741824 then some (List.replicate n.toNat z) else none
def copyL {α:Type} (l r:List α):List α:=r.take l.length ++ l.drop r.length
def setM {α:Type} (l:List α) (i:Int) (y:α):Option (List α):=if 0 ≤ i ∧ i < l.length then some (l.set i.toNat y) else none
section
variable {P:Program} {w0:World} {L:Lim} {nt:Nat} {tm:List (Nat × T)} {hp:List (Nat × Blk)} {S:Nat → Prop} {E:Nat → Value} {a:Act} {w:World}
theorem Ok.make (h:Ok w0 L nt ⟨tm,hp⟩ S E a w) {id t e n:Nat} {ti:TI} {c:List Tree} (hbig:Nat.blt id big = true) (hf:freshT id tm = true) (hb:freshB id hp = true) (ht:P.underlying t = some (.slice e)) (hte:TIok P e ti) (hz:ti.zero.length = ti.size) (hpos:0 < ti.size)
  (hc:c = ti.zero.map fun v=>nilTree (.v v)) (hmax:n ≤ 1073741824) (kl kc:IntKind) :
  ∃ v' w' E',(Instr.makeSlice t (.int kl n) (.int kc n)).run P w = .ok v' w' ∧ E' id = v' ∧ Ok w0 L nt ⟨tm,(id,.rows e ti.size n (List.replicate n c)) :: hp⟩ S E' a w':=by
 obtain ⟨i,d,hi,hs,_,_,⟨z,hzz,hzc⟩,hby⟩:=hte
 have hcl:c.length = ti.size:=by rw [hc,List.length_map,hz]
 have hbytes:(i.bytes:Int) * (n:Int) ≤ 281474976710656:=by
  have:=Nat.mul_le_mul hby hmax
  have h2:((i.bytes * n:Nat):Int) ≤ ((65536 * 1073741824:Nat):Int):=by exact_mod_cast this
  rw [Int.natCast_mul] at h2
  omega
 have hr:=run_make (P:=P) w t e i z ht hi hzz kl kc n n (by omega) (Int.le_refl _) hbytes (by omega)
 simp only [Int.toNat_natCast] at hr
 have hzs:z.cells.size = ti.size:=by rw [← hz,← hzc]; simp
 have hget:∀ k (hk:k < n * i.size),(madeCells z.cells (n * i.size))[k]'(by rw [size_madeCells]; exact hk) = ti.zero[k % ti.size]'(by rw [hz]; exact Nat.mod_lt _ hpos):=by
  intro k hk
  have hm:k % z.cells.size < z.cells.size:=Nat.mod_lt _ (by omega)
  simp only [madeCells,Array.getElem_map,Array.getElem_range]
  rw [getElem!_pos z.cells _ hm]
  have:z.cells[k % z.cells.size] = z.cells.toList[k % z.cells.size]'(by simpa using hm):=by simp
  rw [this]
  simp only [hzc,hzs]
 obtain ⟨E',hE,_,hok⟩:=h.alloc (o:=.cells (madeCells z.cells (n * i.size)) e) (x:=.slice (some ⟨w.heap.size,0,none⟩) n n) (b:=.rows e ti.size n (List.replicate n c)) hbig hf hb rfl (fun E' hE'=>by
  refine ⟨by simp,.inr ⟨w.heap.size,n,(madeCells z.cells (n * i.size)).toList,by unfold maxLen; omega,by simp,by rw [heap_alloc_new],?_,by simp,?_,?_⟩⟩
  ·rw [Array.length_toList,size_madeCells,hs]
  ·intro r hr; rw [(List.mem_replicate.1 hr).2]; exact hcl
  ·intro i' j hi' hj hb'
   have hi2:i' < n:=by simpa using hi'
   simp only [List.getElem_replicate] at hj ⊢
   have hj2:j < ti.size:=by rw [← hcl]; exact hj
   have hlt:i' * ti.size + j < n * i.size:=by rw [Array.length_toList,size_madeCells] at hb'; exact hb'
   have e1:(madeCells z.cells (n * i.size)).toList[i' * ti.size + j] = ti.zero[j]'(by rw [hz]; exact hj2):=by
    rw [Array.getElem_toList,hget _ hlt]
    have:(i' * ti.size + j) % ti.size = j:=by rw [Nat.mul_comm,Nat.mul_add_mod,Nat.mod_eq_of_lt hj2]
    simp only [this]
   rw [e1]
   have e2:c[j] = nilTree (.v (ti.zero[j]'(by rw [hz]; exact hj2))):=by subst hc; simp
   rw [e2]
   exact nilTree_ok (.v _))
 exact ⟨_,_,E',hr,hE,hok⟩
theorem Ok.copy (h:Ok w0 L nt ⟨tm,hp⟩ S E a w) {id e e' n m t t2 ty:Nat} {ti:TI} {x:Value} {rs r2:List (List Tree)} (hb:look hp id = some (.rows e ti.size n rs)) (ht:P.underlying t = some (.slice e')) (hte:TIok P e' ti)
  (hx:Src w S x m ti.size r2) (h2:∀ r ∈ r2,r.length = ti.size) :
  ∃ w',(Builtin.copy_ #[t,t2] ty #[E id,x]).run P w = .ok (.int .i64 (min m n:Nat)) w' ∧ Ok w0 L nt ⟨tm,hput hp id (.rows e ti.size n (copyL rs r2))⟩ S E a w':=by
 obtain ⟨hm,ad,c,rfl,hsrc⟩:=hx
 obtain ⟨hn,hrow⟩:=h.hp id _ hb
 obtain ⟨i,d,hi,hs,_⟩:=hte
 have hcl:(copyL rs r2).length = rs.length:=by simp [copyL]; omega
 rcases hrow with ⟨hE,hr0⟩ | ⟨β,cap,cs,hcm,hE,hh,hcl2,hcc,hsz,hcr⟩
 ·subst hr0
  simp only [List.length_nil] at hn
  subst hn
  have hf:(Builtin.firstCells i.size 0 (.slice ad m c)).run P w = .ok #[] w:=by cases ad <;> simp [Builtin.firstCells,loadCells,loadCellsFrom]
  have hmin:min m 0 = 0:=by omega
  refine ⟨w,?_,?_⟩
  ·rw [hE]
   simp [Builtin.copy_,run_underlying ht,Builtin.lenOf,sizeOf,typeInfo,hi,hf,goInt]
  ·refine { h with
    hp:=fun k b hk=>?_
    own:=fun k b β hk hβ=>by
     simp only at hk
     rw [look_hput] at hk
     by_cases e:id = k
     ·subst e; simp only [hE,blkOf] at hβ; cases hβ
     ·simp only [e,if_false] at hk; exact h.own k b β hk hβ
    dist:=fun k k' b b' β hk hk' hβ hβ'=>by
     simp only at hk hk'
     rw [look_hput] at hk hk'
     by_cases e:id = k
     ·subst e; simp only [hE,blkOf] at hβ; cases hβ
     ·by_cases e2:id = k'
      ·subst e2; simp only [hE,blkOf] at hβ'; cases hβ'
      ·simp only [e,e2,if_false] at hk hk'; exact h.dist k k' b b' β hk hk' hβ hβ' }
   simp only at hk
   rw [look_hput] at hk
   by_cases e:id = k
   ·subst e
    simp only [if_true,hb,Option.map_some,Option.some.injEq] at hk
    subst hk
    exact ⟨by simp [copyL],.inl ⟨hE,by simp [copyL]⟩⟩
   ·simp only [e,if_false] at hk; exact h.hp k b hk
 ·subst hn
  let q:=min m rs.length
  have hq:q = min m rs.length:=rfl
  have hnews:∃ news:List Value,news.length = q * ti.size ∧ (Builtin.firstCells i.size q (.slice ad m c)).run P w = .ok news.toArray w ∧ (∀ u ∈ news,u.oneCell' = true) ∧
    ∀ i j (hi:i < q) (hj:j < ti.size),∃ (h1:i * ti.size + j < news.length) (h2:i < r2.length) (h3:j < (r2[i]).length),RT w S (news[i * ti.size + j]) ((r2[i])[j]):=by
   by_cases h0:0 < m
   ·obtain ⟨y,all,rfl,hal,hac,hone,har⟩:=hsrc h0
    have hqm:q * ti.size ≤ m * ti.size:=Nat.mul_le_mul_right _ (by omega)
    refine ⟨all.take (q * ti.size),by rw [List.length_take,hal]; omega,?_,fun u hu=>hone u (List.mem_of_mem_take hu),fun i' j hi' hj=>?_⟩
    ·have:=run_loadCells_list (P:=P) w y (all.take (q * ti.size)) (fun j u hu=>by
      rw [List.getElem?_take] at hu
      split at hu
      ·exact hac j u hu
      ·cases hu)
     rw [List.length_take,hal,Nat.min_eq_left hqm] at this
     simp [Builtin.firstCells,hs,this]
    ·have hi2:i' < r2.length:=by omega
     have hrl:=h2 _ (List.getElem_mem hi2)
     have hle:(i' + 1) * ti.size ≤ q * ti.size:=Nat.mul_le_mul_right _ hi'
     rw [Nat.succ_mul] at hle
     refine ⟨by rw [List.length_take,hal]; omega,hi2,by rw [hrl]; exact hj,?_⟩
     rw [List.getElem_take]
     exact har i' j hi2 (by rw [hrl]; exact hj) (by rw [hal]; omega)
   ·have hm0:m = 0:=by omega
    have hq0:q = 0:=by omega
    refine ⟨[],by rw [hq0]; simp,?_,fun u hu=>by simp at hu,fun i' j hi' _=>by omega⟩
    rw [hq0]
    cases ad <;> simp [Builtin.firstCells,loadCells,loadCellsFrom]
  obtain ⟨news,hnl,hload,hone,hnr⟩:=hnews
  have hqr:q * ti.size ≤ cap * ti.size:=Nat.mul_le_mul_right _ (by omega)
  have hst:=run_storeCells_at (P:=P) β 0 e news 0 cs.toArray w hh (by simp; rw [hnl,hcl2]; exact hqr) hone
  have hrun:(Builtin.copy_ #[t,t2] ty #[E id,.slice ad m c]).run P w = .ok (.int .i64 (q:Nat)) (w.setRow β (news ++ cs.drop news.length).toArray):=by
   rw [hE]
   have:Nat.min m rs.length = q:=rfl
   have hst':(storeCells ⟨β,0,none⟩ news).run P w = .ok () (w.setRow β (news ++ cs.drop news.length).toArray):=by simpa using hst
   simp [Builtin.copy_,run_underlying ht,Builtin.lenOf,sizeOf,typeInfo,hi,this,hload,goInt,hst']
  refine ⟨_,hrun,h.setRow hb (by rw [hE]; rfl) hh fun hS hnew=>⟨by rw [hcl],.inr ⟨β,cap,news ++ cs.drop news.length,hcm,by rw [hcl]; exact hE,hnew,by simp; omega,by rw [hcl]; exact hcc,?_,?_⟩⟩⟩
  ·intro r hr
   unfold copyL at hr
   rcases List.mem_append.1 hr with hr | hr
   ·exact h2 r (List.mem_of_mem_take hr)
   ·exact hsz r (List.mem_of_mem_drop hr)
  ·intro i' j hi' hj hb'
   have hi2:i' < rs.length:=by rw [← hcl]; exact hi'
   by_cases hiq:i' < q
   ·have hi3:i' < r2.length:=by omega
    have e1:(copyL rs r2)[i'] = r2[i']:=by
     apply Option.some.inj
     rw [← List.getElem?_eq_getElem,← List.getElem?_eq_getElem]
     unfold copyL
     rw [List.getElem?_append_left (by rw [List.length_take]; omega),List.getElem?_take,if_pos hi2]
    have hj2:j < ti.size:=by have:=h2 _ (List.getElem_mem hi3); rw [← this]; rw [e1] at hj; exact hj
    obtain ⟨h5,_,h6,h7⟩:=hnr i' j hiq hj2
    simp only [e1]
    rw [List.getElem_append_left h5]
    exact h7.mono (fun _ x=>x) hS
   ·have hm':m ≤ i':=by omega
    have e1:(copyL rs r2)[i'] = rs[i']:=by
     apply Option.some.inj
     rw [← List.getElem?_eq_getElem,← List.getElem?_eq_getElem]
     unfold copyL
     rw [List.getElem?_append_right (by rw [List.length_take]; omega),List.length_take,List.getElem?_drop]
     congr 1
     omega
    have hj1:j < (rs[i']).length:=by rw [e1] at hj; exact hj
    have hle:q * ti.size ≤ i' * ti.size:=Nat.mul_le_mul_right _ (by omega)
    have hb2:i' * ti.size + j < cs.length:=by simp only [List.length_append,List.length_drop] at hb'; omega
    have e2:(news ++ cs.drop news.length)[i' * ti.size + j] = cs[i' * ti.size + j]:=by
     apply Option.some.inj
     rw [← List.getElem?_eq_getElem,← List.getElem?_eq_getElem,List.getElem?_append_right (by omega),List.getElem?_drop]
     congr 1
     omega
    simp only [e1]
    rw [e2]
    exact (hcr i' j hi2 hj1 hb2).mono (fun _ x=>x) hS
end
def optI (tm:List (Nat × T)) (d:Int):Option Operand → Option Int
 | none=>some d
 | some o=>match val tm o with | some (.t (.v (.int _ i)))=>some i | _=>none
section
variable {ρ α:Type} {X:Cx} {ks:List K} {tm tm':List (Nat × T)} {hp hp':List (Nat × Blk)} {m:Option ρ} {Q:ρ → Exit → St → Prop} {all:Array Oper} {o:Oper} {rest:List Oper}
theorem TieO.makeO {t e d s0:Nat} {z0:List Value} {te:TI} {x:Operand} {ik:IntKind} {n:Int} {enc:α → List Tree} {k:List α → Option ρ} (id:Nat) (z:α)
  (ho:o.op = .makeSlice t x x) (hd:o.dst = some d) (hdn:Nat.blt d X.nt = true) (hg:guardT all.toList tm o.guard = some true) (hx:val tm x = some (.t (.v (.int ik n))))
  (hty:look X.tab t = some ⟨s0,.slice e,z0⟩) (hte:look X.tab e = some te) (hz:te.zero.length = te.size) (hpos:Nat.blt 0 te.size = true) (henc:enc z = te.zero.map fun v=>nilTree (.v v)) (hbig:Nat.blt id big = true) (hft:freshT id tm = true) (hfb:freshB id hp = true)
  (h:∀ y,makeM n z = some y → TieO X all rest ks ⟨(d,.own id) :: tm,(id,.rows e te.size y.length (y.map enc)) :: hp⟩ (k y) Q) :
  TieO X all (o :: rest) ks ⟨tm,hp⟩ ((makeM n z).bind k) Q:=fun y hy a w ⟨S,E,hk⟩=>by
 cases hmk:makeM n z with
 | none=>simp [hmk] at hy
 | some l=>
  have h0:=hmk
  unfold makeM at h0
  split at h0 <;> try (cases h0; done)
  rename_i hn
  simp only [Option.some.injEq] at h0
  simp only [hmk,Option.bind_some] at hy
  obtain ⟨dd,hu,ho2⟩:∃ d,X.P.underlying t = some d ∧ TD.ok X.P (.slice e) d:=by
   obtain ⟨i,d,_,_,hu,hdd,_⟩:=X.htab t _ hty
   exact ⟨d,hu,hdd⟩
  simp only [TD.ok] at ho2
  subst ho2
  obtain ⟨j,rfl⟩:∃ j:Nat,n = (j:Int):=⟨n.toNat,by omega⟩
  simp only [Int.toNat_natCast] at h0
  obtain ⟨v',w',E',hr,hE,hok⟩:=hk.make (P:=X.P) (n:=j) (c:=enc z) hbig hft hfb hu (X.htab e _ hte) hz (Nat.le_of_ble_eq_true hpos) henc (by omega) ik ik
  refine wpList_step fun K hK=>?_
  rw [guardT_ok hk hg,if_pos rfl]
  unfold Oper.wp
  have hexec:(execOp a.eval o).run X.P w = .ok (.value v') w':=by
   unfold execOp
   simp only [ho,(hk.val hx).tv,Sem.run_bind,hr,Result.andThen_ok,Sem.run_pure]
  rw [hexec]
  refine hK _ _ (h l hmk y hy _ _ ⟨S,E',?_⟩)
  rw [hd]
  have e1:l.map enc = List.replicate j (enc z):=by rw [← h0]; simp
  have e2:l.length = j:=by rw [← h0]; simp
  rw [e1,e2]
  exact hok.put (Nat.le_of_ble_eq_true hdn) (.own id _ hE)
theorem TieO.copyO {t t2 e e' e2 n m2 s0 id:Nat} {z0:List Value} {te:TI} {s x:Operand} {l r:List α} {enc:α → List Tree} {σ₁:St}
  (ho:o.op = .call ⟨.builtin .copy,#[s,x],#[t,t2]⟩) (hg:guardT all.toList tm o.guard = some true)
  (hty:look X.tab t = some ⟨s0,.slice e',z0⟩) (hte:look X.tab e' = some te) (henc:∀ y,(enc y).length = te.size) (hone:∀ y,(enc y).all oneTree = true)
  (hs:val tm s = some (.own id)) (hb:look hp id = some (.rows e te.size n (l.map enc)))
  (hx:val tm x = some (.t (.sl m2 (r.map enc))) ∨ ∃ i2,val tm x = some (.own i2) ∧ look hp i2 = some (.rows e2 te.size m2 (r.map enc)))
  (hput:putT X.nt o.dst (.t (.v (.int .i64 (min r.length l.length:Nat)))) ⟨tm,hput hp id (.rows e te.size (copyL l r).length ((copyL l r).map enc))⟩ = some σ₁)
  (h:TieO X all rest ks σ₁ m Q):TieO X all (o :: rest) ks ⟨tm,hp⟩ m Q:=fun y hy a w ⟨S,E,hk⟩=>by
 obtain ⟨dd,hu,ho2⟩:∃ d,X.P.underlying t = some d ∧ TD.ok X.P (.slice e') d:=by
  obtain ⟨i,d,_,_,hu,hdd,_⟩:=X.htab t _ hty
  exact ⟨d,hu,hdd⟩
 simp only [TD.ok] at ho2
 subst ho2
 have hsrc:Src w S (a.eval x) r.length te.size (r.map enc):=by
  rcases hx with hx | ⟨i2,hx,hb2⟩
  ·have hv:=hk.val hx
   generalize a.eval x = xv at hv
   cases hv with
   | t hv=>
    have:=rows_cells hv (all_len henc r) (all_one hone r)
    have hm:m2 = r.length:=by simpa using this.1
    subst hm
    exact ⟨by simp,this.2⟩
  ·have hv:=hk.val hx
   have hb:=hk.hp i2 _ hb2
   generalize a.eval x = xv at hv
   cases hv with
   | own _ _ hE=>
    subst hE
    have:=src_blk hb (all_one hone r)
    have hm:m2 = r.length:=by simpa using this.1
    subst hm
    exact this
 have hn:n = l.length:=by have:=(hk.hp id _ hb).1; simpa using this
 have hsv:a.eval s = E id:=by
  have hv:=hk.val hs
  generalize a.eval s = sv at hv
  cases hv with | own _ _ hE=>exact hE.symm
 obtain ⟨w',hr,hok⟩:=hk.copy (P:=X.P) (ty:=o.type) (t2:=t2) hb hu (X.htab e' _ hte) hsrc (all_len henc r)
 refine wpList_step fun K hK=>?_
 rw [guardT_ok hk hg,if_pos rfl]
 unfold Oper.wp
 have hexec:(execOp a.eval o).run X.P w = .ok (.value (.int .i64 (min r.length n:Nat))) w':=by
  unfold execOp
  simp only [ho,resolve,invoke,builtin,Sem.run_bind,Sem.run_pure,Result.andThen_ok,List.map_toArray,List.map_cons,List.map_nil,hsv,hr]
 rw [hexec]
 refine hK _ _ (h y hy _ _ ⟨S,E,?_⟩)
 have hcl:(copyL l r).length = l.length:=by simp [copyL]; omega
 have e1:copyL (l.map enc) (r.map enc) = (copyL l r).map enc:=by simp [copyL,List.map_take,List.map_drop]
 rw [e1] at hok
 rw [hcl,← hn] at hput
 exact putT_ok hok (.t (.v _)) hput
theorem run_bounds {P:Program} {w:World} {lo hi:Option Value} {n c:Nat} {l h:Int} (hl:(lo = none ∧ l = 0) ∨ ∃ k,lo = some (.int k l)) (hh:(hi = none ∧ h = n) ∨ ∃ k,hi = some (.int k h)) (h0:0 ≤ l) (h1:l ≤ h) (h2:h ≤ c) :
  (Instr.sliceBounds true n c lo hi none).run P w = .ok (l.toNat,h.toNat,c) w:=by
 have eh:(h.toNat:Int) = h:=Int.toNat_of_nonneg (by omega)
 rcases hl with ⟨rfl,rfl⟩ | ⟨k,rfl⟩ <;> rcases hh with ⟨rfl,rfl⟩ | ⟨k',rfl⟩
 ·simp [Instr.sliceBounds]
 ·simp [Instr.sliceBounds,run_sliceBound,h1,h2]
 ·simp [Instr.sliceBounds,run_sliceBound,h0,h1]
 ·simp [Instr.sliceBounds,run_sliceBound,h0,h1,h2,eh,(by omega:0 ≤ h)]
theorem optI_run {w0:World} {L:Lim} {nt:Nat} {S:Nat → Prop} {E:Nat → Value} {a:Act} {w:World} (hk:Ok w0 L nt ⟨tm,hp⟩ S E a w) {x:Option Operand} {d i:Int} (h:optI tm d x = some i):(x.map a.eval = none ∧ i = d) ∨ ∃ k,x.map a.eval = some (.int k i):=by
 cases x with
 | none=>simp only [optI,Option.some.injEq] at h; exact .inl ⟨rfl,h.symm⟩
 | some x=>
  simp only [optI] at h
  split at h <;> try (cases h; done)
  rename_i k i' hv
  simp only [Option.some.injEq] at h
  subst h
  exact .inr ⟨k,by simp [(hk.val hv).tv]⟩
end
end Go.Pv
namespace Go.Pv
open Go.RowKit
section
variable {ρ α:Type} {X:Cx} {ks:List K} {tm:List (Nat × T)} {hp:List (Nat × Blk)} {m:Option ρ} {Q:ρ → Exit → St → Prop} {all:Array Oper} {o:Oper} {rest:List Oper}
theorem TieO.indexOH {ty e sz el n s0:Nat} {x ix:Operand} {ik:IntKind} {i:Int} {z0:List Value} {te:TI} {d id:Nat} {l:List α} {enc:α → List Tree} {y:α} (hy:getI l i = some y)
  (ho:o.op = .indexAddr ty x ix) (hd:o.dst = some d) (hdn:Nat.blt d X.nt = true) (hg:guardT all.toList tm o.guard = some true) (hx:val tm x = some (.own id)) (hb:look hp id = some (.rows el sz n (l.map enc))) (hi:val tm ix = some (.t (.v (.int ik i))))
  (hty:look X.tab ty = some ⟨s0,.slice e,z0⟩) (hte:look X.tab e = some te) (hsz:te.size = sz)
  (h:TieO X all rest ks ⟨(d,.pe id i.toNat sz 0) :: tm,hp⟩ m Q):TieO X all (o :: rest) ks ⟨tm,hp⟩ m Q:=by
 have:=TieO.indexO (k:=fun _=>m) (rest:=rest) (ks:=ks) (Q:=Q) ho hd hdn hg hx hb hi hty hte hsz (fun y' hy'=>by rw [hy] at hy'; cases hy'; exact h)
 rwa [hy] at this
theorem TieO.loadY {t d id sz off e n:Nat} {i:Int} {ti:TI} {p:Operand} {l:List α} {enc:α → List Tree} {y:α} {r:T} (hy:getI l i = some y)
  (ho:o.op = .load t p) (hd:o.dst = some d) (hdn:Nat.blt d X.nt = true) (hg:guardT all.toList tm o.guard = some true) (hp1:val tm p = some (.pe id i.toNat sz off)) (hb:look hp id = some (.rows e sz n (l.map enc)))
  (hti:look X.tab t = some ti) (hr:takeT ti.desc.isAgg ti.size ((enc y).map .t) off = some r) (h:TieO X all rest ks ⟨(d,r) :: tm,hp⟩ m Q):TieO X all (o :: rest) ks ⟨tm,hp⟩ m Q:=
 TieO.loadO (getI_some hy).2.1 ho hd hdn hg hp1 hb hti hr h
theorem TieO.storeY {t id sz off e n:Nat} {i:Int} {ti:TI} {p x:Operand} {l:List α} {enc:α → List Tree} {y:α} {k:List α → Option ρ} (y':α) (lt:List Tree) {vx:T} {cs:List T} (hy:getI l i = some y)
  (ho:o.op = .store t p x) (hd:o.dst = none) (hg:guardT all.toList tm o.guard = some true) (hp1:val tm p = some (.pe id i.toNat sz off)) (hb:look hp id = some (.rows e sz n (l.map enc)))
  (hti:look X.tab t = some ti) (hx:val tm x = some vx) (hc:cellsT hp vx = some cs) (hcs:cs.map nilT = lt.map T.t) (hs:Nat.beq lt.length ti.size = true) (hle:Nat.ble (off + lt.length) sz = true) (henc:enc y' = splc (enc y) off lt)
  (h:∀ l',setM l i y' = some l' → TieO X all rest ks ⟨tm,hput hp id (.rows e sz l'.length (l'.map enc))⟩ (k l') Q):TieO X all (o :: rest) ks ⟨tm,hp⟩ ((setM l i y').bind k) Q:=fun r hr a w ⟨S,E,hk⟩=>by
 have hset:setM l i y' = some (l.set i.toNat y'):=by
  obtain ⟨h0,_,hlt⟩:=getI_some hy
  unfold setM
  rw [if_pos ⟨h0,hlt⟩]
 rw [hset] at hr
 simp only [Option.bind_some] at hr
 have hrow:(l.map enc)[i.toNat]? = some (enc y):=by rw [List.getElem?_map,(getI_some hy).2.1]; rfl
 have hcl:cs.length = lt.length:=by have:=congrArg List.length hcs; simpa using this
 obtain ⟨vs,hvs,hl,hr2,h1⟩:=hk.cells (hk.val hx) hc
 have hn:n = l.length:=by have:=(hk.hp id _ hb).1; simpa using this
 have key:∃ w',(Instr.storeAt t (a.eval p) (a.eval x)).run X.P w = .ok () w' ∧ Ok X.w0 X.L X.nt ⟨tm,hput hp id (.rows e sz n ((l.map enc).set i.toNat (splc (enc y) off lt)))⟩ S E a w':=by
  have hv2:RV w S E (.agg vs.toArray) (.agg (lt.map T.t)):=by
   refine .agg vs _ (by simp; omega) fun j h2 h3=>?_
   have h4:=nilT_ok (hr2 j h2 (by omega))
   have h5:nilT (cs[j]'(by omega)) = (lt.map T.t)[j]'h3:=by
    have h6:(cs.map nilT)[j]? = (lt.map T.t)[j]?:=by rw [hcs]
    rw [List.getElem?_map,List.getElem?_eq_getElem (by omega),List.getElem?_eq_getElem h3] at h6
    simpa using h6
   rw [h5] at h4
   exact h4
  have hone:oneL hp (lt.map T.t) = true:=by
   have:∀ q:List Tree,(∀ j (hj:j < q.length),Pv.one hp (T.t (q[j])) = true) → oneL hp (q.map T.t) = true:=by
    intro q
    induction q with
    | nil=>intro _; rfl
    | cons z q ih=>
     intro hq
     simp only [List.map_cons,oneL,Bool.and_eq_true]
     exact ⟨hq 0 (by simp),ih fun j hj=>hq (j + 1) (by simpa using hj)⟩
   refine this lt fun j hj=>?_
   have hv:=hv2
   cases hv with
   | agg _ _ _ hvv=>
    have h2:=hvv j (by omega) (by simpa using hj)
    simp only [List.getElem_map] at h2
    have h3:=h1 _ (List.getElem_mem (show j < vs.length by omega))
    generalize vs[j]'(by omega) = v at h2 h3
    generalize lt[j] = z at h2 ⊢
    cases z with
    | v q=>have:=h2.tv; subst this; exact h3
    | sl _ _=>rfl
  obtain ⟨w',q1,q2⟩:=store_own (P:=X.P) hk (X.htab t _ hti) hb (hk.val hp1) hrow hv2 (by simp [cellsT,hone]) (Nat.eq_of_beq_eq_true hs) (Nat.le_of_ble_eq_true hle)
  refine ⟨w',?_,q2⟩
  have e1:(Value.agg vs.toArray).cells = (a.eval x).cells:=by rw [hvs]; rfl
  simpa only [Instr.storeAt,storeVar,e1] using q1
 obtain ⟨w',h2,h3⟩:=key
 refine wpList_step fun K hK=>?_
 rw [guardT_ok hk hg,if_pos rfl]
 unfold Oper.wp
 have hexec:(execOp a.eval o).run X.P w = .ok .skip w':=by
  unfold execOp
  simp only [ho,Sem.run_bind,h2,Result.andThen_ok,Sem.run_pure]
 rw [hexec]
 refine hK _ _ (h _ hset r hr _ _ ⟨S,E,?_⟩)
 rw [hd,List.map_set,henc,List.length_set,← hn]
 exact h3
end
end Go.Pv
namespace Go.Pv
open Go.RowKit Go.WideShapes Go.ChangeShapes
section
variable {ρ τ:Type} {X:Cx} {ks:List K} {tm tm':List (Nat × T)} {hp hp':List (Nat × Blk)} {m:Option ρ} {Q:ρ → Exit → St → Prop} {all:Array Oper} {ops:List Oper}
theorem TieO.via {σ σ':St} (h:∀ {ρ:Type} {m:Option ρ} {Q:ρ → Exit → St → Prop} {e:Exit},TieX X [] e σ' m Q → TieX X [] e σ m Q) (k:TieO X all ops ks σ' m Q):TieO X all ops ks σ m Q:=fun r hr a w hw=>by
 have:=h (ρ:=Unit) (m:=some ()) (e:=.normal) (Q:=fun _ _ σ''=>σ'' = σ') (fun r _ a w hw=>⟨σ',hw,rfl⟩) () rfl a w hw
 obtain ⟨σ'',hs,rfl⟩:=this
 exact k r hr a w hs
theorem TieO.nilB (b id e sz:Nat) (path:List Nat) {ts us:List T} (hk:look hp b = some (.box ts)) (hu:setNil id path (.agg ts) = some (.agg us)) (hbig:Nat.blt id big = true) (hft:freshT id tm = true) (hfb:freshB id hp = true)
  (h:TieO X all ops ks ⟨tm,(id,.rows e sz 0 []) :: hput hp b (.box us)⟩ m Q):TieO X all ops ks ⟨tm,hp⟩ m Q:=TieO.via (fun x=>TieX.nilB b id e sz path hk hu hbig hft hfb x) h
open Classical in
theorem TieO.withH {σ:St} {m₁:Option τ} {t:τ} (hm:m₁ = some t) (h:TieO X all ops ks σ (m₁.bind fun t'=>if t' = t then m else none) Q):TieO X all ops ks σ m Q:=by
 subst hm; simpa using h
open Classical in
theorem TieO.ifH {σ₂:τ → St} {t:τ} (h:TieO X all ops ks (σ₂ t) m Q):∀ t',TieO X all ops ks (σ₂ t') (if t' = t then m else none) Q:=fun t'=>by
 by_cases e:t' = t
 ·subst e; simpa using h
 ·simp only [e,if_false]; exact TieO.fail
open Classical in
theorem TieO.ifG {σ₂:τ → St} {t:τ} {m₁:Option τ} (h:TieO X all ops ks (σ₂ t) m Q):∀ t',m₁ = some t' → TieO X all ops ks (σ₂ t') (if t' = t then m else none) Q:=fun t' _=>TieO.ifH h t'
end
theorem run_equalIn_nil {P:Program} (w:World) (d:Nat) (t e:TypeId) (a:Option Addr) (l c:Nat) (h:P.underlying t = some (.slice e)):(Op.equalIn (d + 1) t (.slice a l c) (.slice none 0 0)).run P w = .ok a.isNone w:=by
 cases a <;> simp [Op.equalIn,run_underlying h]
theorem run_equal_nil {P:Program} (w:World) (t e:TypeId) (a:Option Addr) (l c:Nat) (h:P.underlying t = some (.slice e)):(Op.equal t (.slice a l c) (.slice none 0 0)).run P w = .ok a.isNone w:=run_equalIn_nil w _ t e a l c h
theorem run_eql_nil {P:Program} (w:World) (t e:TypeId) (a:Option Addr) (l c:Nat) (h:P.underlying t = some (.slice e)):(binOp .eql t (.slice a l c) (.slice none 0 0)).run P w = .ok (.bool a.isNone) w:=by
 simp [binOp,run_equal_nil w t e a l c h]
theorem run_guard_nil {P:Program} (w:World) (t:TypeId) (x y:Operand) (a:Option Addr) (l c:Nat):(eqGuard .eql t x y (.slice a l c) (.slice none 0 0)).run P w = .ok () w:=rfl
section
variable {ρ τ:Type} {X:Cx} {ks:List K} {σ:St} {tm:List (Nat × T)} {hp:List (Nat × Blk)} {m m':Option ρ} {Q:ρ → Exit → St → Prop} {all:Array Oper} {rest:List Oper} {o:Oper}
theorem TieX.model {e:Exit} (h:m = m') (k:TieX X ks e σ m' Q):TieX X ks e σ m Q:=h ▸ k
theorem TieS.condB {c:Operand} {x y:Code} {b:Bool} (hc:val σ.tm c = some (.t (.v (.bool b)))) (h₁:b = true → TieS X (.c x :: ks) σ m Q) (h₂:b = false → TieS X (.c y :: ks) σ m Q) :
  TieS X (.c (.cond c x y) :: ks) σ m Q:=fun r hr a w ⟨S,E,hk⟩=>by
 have hv:=(hk.val hc).tv
 cases hb:b <;> rw [hb] at hv
 ·exact wp_cond_false hv (h₂ hb r hr a w ⟨S,E,hk⟩)
 ·exact wp_cond_true hv (h₁ hb r hr a w ⟨S,E,hk⟩)
theorem TieO.isNil {t e yt d n s0:Nat} {z0:List Value} {x:Operand} {α:Type} {enc:α → List Tree} {l:List α} (ho:o.op = .binOp .eql t x (.const (.slice none 0 0)) yt) (hd:o.dst = some d) (hdn:Nat.blt d X.nt = true) (hg:guardT all.toList tm o.guard = some true)
  (hty:look X.tab t = some ⟨s0,.slice e,z0⟩) (hx:val tm x = some (.t (.sl n (l.map enc))))
  (h:∀ b:Bool,(b = true → l = []) → TieO X all rest ks ⟨(d,.t (.v (.bool b))) :: tm,hp⟩ m Q):TieO X all (o :: rest) ks ⟨tm,hp⟩ m Q:=fun r hr a w ⟨S,E,hk⟩=>by
 obtain ⟨dd,hu,ho2⟩:∃ d,X.P.underlying t = some d ∧ TD.ok X.P (.slice e) d:=by
  obtain ⟨i,d,_,_,hu,hdd,_⟩:=X.htab t _ hty
  exact ⟨d,hu,hdd⟩
 simp only [TD.ok] at ho2
 subst ho2
 have hv:=hk.val hx
 have hs:∃ ad c k,a.eval x = .slice ad k c ∧ (ad = none → l = []):=by
  generalize a.eval x = v at hv
  cases hv with
  | t hv=>
   generalize hq:l.map enc = q at hv
   cases hv with
   | slE a c=>exact ⟨_,_,_,rfl,fun _=>by simpa using hq⟩
   | sl=>exact ⟨_,_,_,rfl,fun h=>by cases h⟩
 obtain ⟨ad,c,k,hx',hl⟩:=hs
 refine wpList_step fun K hK=>?_
 rw [guardT_ok hk hg,if_pos rfl]
 unfold Oper.wp
 have hexec:(execOp a.eval o).run X.P w = .ok (.value (.bool ad.isNone)) w:=by
  have h1:a.eval (.const (.slice none 0 0)) = .slice none 0 0:=rfl
  unfold execOp
  simp only [ho,hx',h1,Sem.run_bind,run_guard_nil,run_eql_nil w t e ad k c hu,Result.andThen_ok,Sem.run_pure]
 rw [hexec]
 refine hK _ _ (h ad.isNone (fun hb=>hl (by simpa using hb)) r hr _ _ ⟨S,E,?_⟩)
 rw [hd]
 exact hk.put (Nat.le_of_ble_eq_true hdn) (.t (.v _))
end
section
variable {τ α:Type} {X:Cx} {tmMin:List (Nat × T)} {hp:List (Nat × Blk)} {all:Array Oper} {o:Oper}
theorem StepQ.indexO {ty e sz el n s0:Nat} {x ix:Operand} {ik:IntKind} {i:Int} {z0:List Value} {te:TI} {id:Nat} {l:List α} {enc:α → List Tree} {y:α} (hy:getI l i = some y)
  (ho:o.op = .indexAddr ty x ix) (hg:guardT all.toList tmMin o.guard = some true) (hx:val tmMin x = some (.own id)) (hb:look hp id = some (.rows el sz n (l.map enc))) (hi:val tmMin ix = some (.t (.v (.int ik i))))
  (hty:look X.tab ty = some ⟨s0,.slice e,z0⟩) (hte:look X.tab e = some te) (hsz:te.size = sz):StepQ X all o tmMin hp (.pe id i.toNat sz 0):=by
 intro tm hm a w S E hk K Q' hK
 obtain ⟨h0,hl,hlt⟩:=getI_some hy
 have hiv:=(hk.val (val_more hm hi)).tv
 obtain ⟨dd,hdd,ho2⟩:=(X.htab ty _ hty).run_under w
 simp only [TD.ok] at ho2
 subst ho2
 have hs:=(X.htab e _ hte).run_size w
 have hll:i.toNat < l.length:=by omega
 have hxv:=hk.val (val_more hm hx)
 generalize hxe:a.eval x = xv at hxv
 cases hxv with
 | own _ _ hE=>
  obtain ⟨hn,⟨hE',hr⟩ | ⟨β,cap,vs,_,hE',hh,_⟩⟩:=hk.hp id _ hb
  ·simp at hr; subst hr; simp at hll
  ·subst hsz
   have hpe:=RV.pe (w:=w) (S:=S) (E:=E) id i.toNat te.size 0 β (l.map enc).length cap hE'
   rw [hE'] at hE
   subst hE
   have hrun:(execOp a.eval o).run X.P w = .ok (.value (.pointer (some ⟨β,i.toNat * te.size + 0,none⟩))) w:=by
    simp only [execOp,ho,Instr.indexAt,hiv,asIntOf,Sem.run_bind,Sem.run_pure,Result.andThen_ok,hdd,hxe]
    have c1:0 ≤ i ∧ i < ((l.map enc).length:Int):=⟨h0,by simpa using hlt⟩
    simp only [Sem.run_bind,Result.andThen_ok,Sem.run_pure,c1,and_self,if_true,hs,addr_add,Nat.zero_add,Nat.add_zero]
   rw [guardT_ok hk (guardT_more hm hg),if_pos rfl]
   unfold Oper.wp
   rw [hrun]
   exact hK _ _ _ _ hk hpe
theorem StepQ.loadY {t id sz off e n:Nat} {i:Int} {ti:TI} {p:Operand} {l:List α} {enc:α → List Tree} {y:α} {r:T} (hy:getI l i = some y)
  (ho:o.op = .load t p) (hg:guardT all.toList tmMin o.guard = some true) (hp1:val tmMin p = some (.pe id i.toNat sz off)) (hb:look hp id = some (.rows e sz n (l.map enc)))
  (hti:look X.tab t = some ti) (hr:takeT ti.desc.isAgg ti.size ((enc y).map .t) off = some r):StepQ X all o tmMin hp r:=by
 intro tm hm a w S E hk K Q' hK
 obtain ⟨v,h1,h2⟩:=load_own (P:=X.P) hk (X.htab t _ hti) hb (hk.val (val_more hm hp1)) (by rw [List.getElem?_map,(getI_some hy).2.1]; rfl) hr
 rw [guardT_ok hk (guardT_more hm hg),if_pos rfl]
 unfold Oper.wp
 have hexec:(execOp a.eval o).run X.P w = .ok (.value v) w:=by
  unfold execOp
  simp only [ho,Sem.run_bind,h1,Result.andThen_ok,Sem.run_pure]
 rw [hexec]
 exact hK _ _ _ _ hk h2
end
def TieA (X:Cx) (ops:Array Oper) (fe:Nat) (le:List Bool) (fuel:Nat) (l:List Bool) (σ σ':St):Prop:=
 ∀ (Q:Exit → Act → World → Prop),(∀ c a w,¬ Q (.panic c) a w) → (∀ a w,Sim X.w0 X.L X.nt σ' a w → wpAny X.P .any ops Q fe le.toArray a w) → ∀ a w,Sim X.w0 X.L X.nt σ a w → wpAny X.P .any ops Q fuel l.toArray a w
def AllA (X:Cx) (ops:Array Oper) (fe:Nat) (le:List Bool) (fuel:Nat) (l:List Bool) (σ σ':St) (rs:List Nat):Prop:=
 ∀ i ∈ rs,∀ (Q:Exit → Act → World → Prop),(∀ c a w,¬ Q (.panic c) a w) → (∀ a w,Sim X.w0 X.L X.nt σ' a w → wpAny X.P .any ops Q fe le.toArray a w) → ∀ a w,Sim X.w0 X.L X.nt σ a w → wpOp X.P ops Q i (wpAny X.P .any ops Q fuel (l.toArray.setIfInBounds i true)) a w
section
variable {ρ:Type} {X:Cx} {ks:List K} {ops:Array Oper} {fe fuel:Nat} {le l l':List Bool} {σ σ₁ σ':St} {m:Option ρ} {Q:ρ → Exit → St → Prop} {o:Oper}
theorem TieA.have_ {fuel₁:Nat} {l₁:List Bool} (h:TieA X ops fe le fuel₁ l₁ σ₁ σ') (k:TieA X ops fe le fuel₁ l₁ σ₁ σ' → TieA X ops fe le fuel l σ σ'):TieA X ops fe le fuel l σ σ':=k h
theorem TieA.done (hs:Sub σ' σ):TieA X ops fe le fe le σ σ':=fun _ _ hQ a w hw=>hQ a w (hw.sub hs)
theorem TieA.all (rs:List Nat) (hr:Region.ready .any ops l.toArray = rs) (hne:rs.isEmpty = false) (h:AllA X ops fe le fuel l σ σ' rs):TieA X ops fe le (fuel + 1) l σ σ':=fun Q hp hQ a w hw=>
 wpAny_all hr (by rintro rfl; cases hne) fun i hi=>h i hi Q hp hQ a w hw
theorem AllA.nil:AllA X ops fe le fuel l σ σ' []:=fun _ h=>by cases h
theorem AllA.cons {i:Nat} {rs:List Nat} (l':List Bool) (ho:ops[i]? = some o) (hl:l.set i true = l') (h₁:TieO X ops [o] [] σ (some ()) (fun _ e σ''=>e = .normal ∧ Sub σ₁ σ'')) (h₂:TieA X ops fe le fuel l' σ₁ σ') (h₃:AllA X ops fe le fuel l σ σ' rs):AllA X ops fe le fuel l σ σ' (i :: rs):=fun j hj Q hp hQ a w hw=>by
 rcases List.mem_cons.1 hj with rfl | hj
 ·have h:=h₁ () rfl a w hw
  unfold wpOp
  simp only [ho]
  have next:∀ a w,wpList X.P ops (after X.P [] (X.post fun e σ''=>e = .normal ∧ Sub σ₁ σ'')) [] a w → wpAny X.P .any ops Q fuel (l.toArray.setIfInBounds j true) a w:=fun a w ⟨σ'',hs,_,e⟩=>by
   rw [List.setIfInBounds_toArray,hl]
   exact h₂ Q hp hQ a w (hs.sub e)
  unfold wpList at h
  split at h
  ·rename_i hg
   rw [if_pos hg]
   rcases h with h | ⟨h1,h2⟩
   ·refine .inl ?_
    revert h
    unfold Oper.wp
    generalize (execOp a.eval o).run X.P w = r
    intro h
    cases r with
    | ok n w'=>
     cases n <;> simp only [Oper.upon] at h ⊢
     all_goals first
      | exact next _ _ h
      | exact Calls.mono h (fun e w'' he=>by cases e <;> first | exact next _ _ he | (obtain ⟨_,_,_,_,he,_⟩:=he; cases he) | (obtain ⟨_,_,he,_⟩:=he; cases he))
      | exact Rows.mono h (fun _ _ he=>next _ _ he)
      | (obtain ⟨_,_,he,_⟩:=h; cases he)
      | exact h
    | halt x w'=>cases x <;> simp only [Oper.upon] at h ⊢ <;> first | exact h | (obtain ⟨_,_,he,_⟩:=h; cases he)
   ·obtain ⟨_,_,_,_,he,_⟩:=h2; cases he
  ·rename_i hg
   rw [if_neg hg]
   exact next _ _ h
 ·exact h₃ j hj Q hp hQ a w hw
theorem TieA.move {d:Nat} {x:Operand} {t:T} {tm:List (Nat × T)} {hp:List (Nat × Blk)} (i:Nat) (l':List Bool) (ho:ops[i]? = some o) (hl:l.set i true = l') (hop:o.op = .move x ∨ o.op = .assign x) (hd:o.dst = some d) (hdn:Nat.blt d X.nt = true) (hg:o.guard = none)
  (hs:Region.noSelect ops = true) (hf:Region.free .any ops l.toArray i = true) (hr:(Region.ready .any ops l.toArray).contains i = true) (hx:val tm x = some t) (h:TieA X ops fe le fuel l' ⟨(d,t) :: tm,hp⟩ σ') :
  TieA X ops fe le (fuel + 1) l ⟨tm,hp⟩ σ':=fun Q hpn hQ a w ⟨S,E,hk⟩=>by
 have hv:=hk.val hx
 refine wpAny_take ho hs hf hr (fun c a w hc=>absurd hc (hpn _ _ _)) (v:=a.eval x) (.inl ⟨?_,fun w'=>?_⟩) ?_
 ·unfold Region.wanted; rw [hg]
 ·rcases hop with hop | hop <;> (unfold execOp; rw [hop]; rfl)
 ·rw [List.setIfInBounds_toArray,hl]
  exact h Q hpn hQ _ _ ⟨S,E,by rw [hd]; exact hk.put (Nat.le_of_ble_eq_true hdn) hv⟩
theorem TieA.take1 {d:Nat} {V:T} {tm:List (Nat × T)} {hp:List (Nat × Blk)} (i:Nat) (l':List Bool) (ho:ops[i]? = some o) (hl:l.set i true = l') (hd:o.dst = some d) (hdn:Nat.blt d X.nt = true) (hg:o.guard = none)
  (hs:Region.noSelect ops = true) (hf:Region.free .any ops l.toArray i = true) (hr:(Region.ready .any ops l.toArray).contains i = true)
  (hx:∀ S E a w,Ok X.w0 X.L X.nt ⟨tm,hp⟩ S E a w → ∃ v,(∀ w',(execOp a.eval o).run X.P w' = .ok (.value v) w') ∧ RV w S E v V) (h:TieA X ops fe le fuel l' ⟨(d,V) :: tm,hp⟩ σ') :
  TieA X ops fe le (fuel + 1) l ⟨tm,hp⟩ σ':=fun Q hpn hQ a w ⟨S,E,hk⟩=>by
 obtain ⟨v,hv,hr'⟩:=hx S E a w hk
 refine wpAny_take ho hs hf hr (fun c a w hc=>absurd hc (hpn _ _ _)) (v:=v) (.inl ⟨?_,hv⟩) ?_
 ·unfold Region.wanted; rw [hg]
 ·rw [List.setIfInBounds_toArray,hl]
  exact h Q hpn hQ _ _ ⟨S,E,by rw [hd]; exact hk.put (Nat.le_of_ble_eq_true hdn) hr'⟩
theorem TieS.draws {id:Nat} (h:Nat) (l lh:List Bool) (σ₁:St) (hmx:X.P.follows .mixedOrders = true) (hQ:∀ r c σ,¬ Q r (.panic c) σ) (hl:(Array.replicate ops.size false).toList = l) (hle:Nat.ble h ops.size = true)
  (hlh:(List.range ops.size).map (fun j=>Nat.blt j h) = lh) (ht:tailOk ops.toList h = true) (h₁:TieA X ops (ops.size - h) lh ops.size l σ σ₁) (h₂:TieO X ops (ops.toList.drop h) [] σ₁ m Q):TieS X [.c (.region id ops true)] σ m Q:=fun r hr a w ⟨S,E,hk⟩=>by
 have hle:=Nat.le_of_ble_eq_true hle
 have hkeep:Keep (fun _=>False) w { w with drawn:=w.drawn + 1 }:=⟨rfl,rfl,rfl,Nat.le_refl _,fun _ _ _=>rfl,Nat.le_succ _⟩
 have h3:=h₁ (X.post (Q r)) (fun c a w ⟨σ,_,hq⟩=>hQ r c σ hq) (fun a w hw=>by
  refine any_tail ht (ops.size - h) h lh.toArray a w (Nat.le_refl _) (by omega) (by rw [← hlh]; simp) (fun j hj=>?_) (h₂ r hr a w hw)
  rw [← hlh,Array.getD_eq_getD_getElem?]
  simp only [List.getElem?_toArray,List.getElem?_map]
  rw [List.getElem?_range hj]
  simp only [Option.map_some,Option.getD_some]
  rw [Bool.eq_iff_iff,decide_eq_true_iff]
  exact ⟨fun c=>Nat.le_of_ble_eq_true c,fun c=>Nat.ble_eq_true_of_le c⟩) a _ ⟨S,E,hk.grow hkeep⟩
 rw [← hl,Array.toArray_toList] at h3
 exact wp_region_any (id:=id) hmx h3
end
def ltM {α:Type} (g:α → α → Option Int) (x y:α):Bool:=decide ((g x y).getD 0 < 0)
end Go.Pv
namespace Go.Pv
def bitAnd (k:IntKind) (x y:Int):Int:=k.wrap (BitVec.ofInt k.bits x &&& BitVec.ofInt k.bits y).toNat
def bitOr (k:IntKind) (x y:Int):Int:=k.wrap (BitVec.ofInt k.bits x ||| BitVec.ofInt k.bits y).toNat
def bitShl (k:IntKind) (x y:Int):Int:=k.wrap (x * 2 ^ (min y.toNat k.bits))
def bitShr (k:IntKind) (x y:Int):Int:=x.fdiv (2 ^ (min y.toNat k.bits))
abbrev lset {α:Type} (l:List α) (m:List (Nat × α)):List α:=m.foldl (fun l p=>l.set p.1 p.2) l
def chkM (lo hi:Int) (n:Nat):Option Unit:=if 0 ≤ lo ∧ lo ≤ hi ∧ hi ≤ n then some () else none
def copyAt {α:Type} (l:List α) (lo:Nat) (r:List α):List α:=l.take lo ++ r ++ l.drop (lo + r.length)
abbrev copyVM {α:Type} (l:List α) (lo hi lo2 hi2:Int):List α:=copyAt l lo.toNat (((l.drop lo2.toNat).take (hi2.toNat - lo2.toNat)).take (hi.toNat - lo.toNat))
def shlM (k:IntKind) (x y:Int):Option Int:=if y < 0 then none else some (bitShl k x y)
def shrM (k:IntKind) (x y:Int):Option Int:=if y < 0 then none else some (bitShr k x y)
def len64M (x:Int):Option Int:=if 0 ≤ x ∧ x ≤ 18446744073709551615 then some (Lib.bitLen x.toNat:Int) else none
def mul64M (x y:Int):Option (Int × Int):=if (0 ≤ x ∧ x ≤ 18446744073709551615) ∧ (0 ≤ y ∧ y ≤ 18446744073709551615) then some (x * y / 18446744073709551616,x * y % 18446744073709551616) else none
theorem half_eq {x:Int} (h0:0 ≤ x) (h1:x ≤ 4611686018427387904):w64 (bitShr .u64 (IntKind.u64.wrap (w64 x)) 1) = x / 2:=by
 rw [w64_of (n:=x) (by omega) (by omega)]
 have e:IntKind.u64.wrap x = x:=by
  unfold IntKind.wrap
  simp only [IntKind.bits,IntKind.signed]
  simp only [show (2:Int) ^ 64 = 18446744073709551616 from rfl,Bool.false_and,Bool.false_eq_true,if_false]
  omega
 rw [e]
 have e2:bitShr .u64 x 1 = x / 2:=by
  unfold bitShr
  show x.fdiv 2 = x / 2
  exact Int.fdiv_eq_ediv_of_nonneg x (by decide)
 rw [e2]
 exact w64_of (by omega) (by omega)
noncomputable def sortIM (l:List Int):Option (List Int):=if l.length < 4611686018427387904 then some (l.mergeSort fun x y=>decide (x ≤ y)) else none
def compG (p:Int):List Int → List Int
 | []=>[]
 | y :: l=>bif y == p then compG y l else y :: compG y l
def compL:List Int → List Int
 | []=>[]
 | x :: l=>x :: compG x l
def compactM (l:List Int):Option (List Int):=if l.length ≤ 9223372036854775807 then some (compL l) else none
theorem sortIM_ok {l:List Int} (h:l.length < 4611686018427387904):sortIM l = some (l.mergeSort fun x y=>decide (x ≤ y)):=by
 unfold sortIM; rw [if_pos h]
theorem compactM_ok {l:List Int} (h:l.length ≤ 9223372036854775807):compactM l = some (compL l):=by
 unfold compactM; rw [if_pos h]
theorem compG_snoc (x:Int):∀ (l:List Int) (p:Int),compG p (l ++ [x]) = compG p l ++ (if x = l.getLastD p then [] else [x])
 | [],p=>by
  show (bif x == p then [] else [x]) = [] ++ (if x = p then [] else [x])
  by_cases h:x = p
  ·rw [if_pos h,show (x == p) = true by simpa using h]; rfl
  ·rw [if_neg h,show (x == p) = false by simpa using h]; rfl
 | y :: l,p=>by
  simp only [List.cons_append,compG,List.getLastD_cons]
  rw [compG_snoc x l y]
  cases y == p <;> rfl
theorem compL_snoc (x:Int):∀ (l:List Int) (h:l ≠ []),compL (l ++ [x]) = compL l ++ (if x = l.getLast h then [] else [x])
 | [],h=>(h rfl).elim
 | y :: l,_=>by
  have e:(y :: l).getLast (List.cons_ne_nil y l) = l.getLastD y:=by
   cases l with
   | nil=>rfl
   | cons z l=>rw [List.getLast_cons (List.cons_ne_nil z l)]; rfl
  simp only [List.cons_append,compL]
  rw [compG_snoc,e]
end Go.Pv
namespace Go.Pv
open Go
@[ext] structure SMap where
 X:List Int
 Y:List Int
 Z:List (List Int)
def q114 (x:SMap):List Tree:=[tS Pv.encI x.X,tS Pv.encI x.Y,tS (Pv.encS Pv.encI) x.Z]
abbrev A_SMap (x:SMap):T:=.agg [.t (tS Pv.encI x.X),.t (tS Pv.encI x.Y),.t (tS (Pv.encS Pv.encI) x.Z)]
@[ext] structure SCurve where
 X:List Int
 Y:List Int
def q93 (x:SCurve):List Tree:=[tS Pv.encI x.X,tS Pv.encI x.Y]
abbrev q199 (x:SCurve):T:=.agg [.t (tS Pv.encI x.X),.t (tS Pv.encI x.Y)]
@[ext] structure SGain where
 P:Int
 I:Int
 Low:Int
 High:Int
def q828 (x:SGain):List Tree:=[tI x.P,tI x.I,tI x.Low,tI x.High]
abbrev A_SGain (x:SGain):T:=.agg [.t (tI x.P),.t (tI x.I),.t (tI x.Low),.t (tI x.High)]
@[ext] structure STables where
 Air:SMap
 Spark:SMap
 Torque:SMap
 Wish:SMap
 AirTemp:SCurve
 Dwell:SCurve
 Dead:SCurve
 Efficiency:SCurve
 Idle:SGain
def q39 (x:STables):List Tree:=[tS Pv.encI x.Air.X,tS Pv.encI x.Air.Y,tS (Pv.encS Pv.encI) x.Air.Z,tS Pv.encI x.Spark.X,tS Pv.encI x.Spark.Y,tS (Pv.encS Pv.encI) x.Spark.Z,tS Pv.encI x.Torque.X,tS Pv.encI x.Torque.Y,tS (Pv.encS Pv.encI) x.Torque.Z,tS Pv.encI x.Wish.X,tS Pv.encI x.Wish.Y,tS (Pv.encS Pv.encI) x.Wish.Z,tS Pv.encI x.AirTemp.X,tS Pv.encI x.AirTemp.Y,tS Pv.encI x.Dwell.X,tS Pv.encI x.Dwell.Y,tS Pv.encI x.Dead.X,tS Pv.encI x.Dead.Y,tS Pv.encI x.Efficiency.X,tS Pv.encI x.Efficiency.Y,tI x.Idle.P,tI x.Idle.I,tI x.Idle.Low,tI x.Idle.High]
abbrev q20 (x:STables):T:=.agg [.t (tS Pv.encI x.Air.X),.t (tS Pv.encI x.Air.Y),.t (tS (Pv.encS Pv.encI) x.Air.Z),.t (tS Pv.encI x.Spark.X),.t (tS Pv.encI x.Spark.Y),.t (tS (Pv.encS Pv.encI) x.Spark.Z),.t (tS Pv.encI x.Torque.X),.t (tS Pv.encI x.Torque.Y),.t (tS (Pv.encS Pv.encI) x.Torque.Z),.t (tS Pv.encI x.Wish.X),.t (tS Pv.encI x.Wish.Y),.t (tS (Pv.encS Pv.encI) x.Wish.Z),.t (tS Pv.encI x.AirTemp.X),.t (tS Pv.encI x.AirTemp.Y),.t (tS Pv.encI x.Dwell.X),.t (tS Pv.encI x.Dwell.Y),.t (tS Pv.encI x.Dead.X),.t (tS Pv.encI x.Dead.Y),.t (tS Pv.encI x.Efficiency.X),.t (tS Pv.encI x.Efficiency.Y),.t (tI x.Idle.P),.t (tI x.Idle.I),.t (tI x.Idle.Low),.t (tI x.Idle.High)]
abbrev q12 (x:STables):List T:=[.t (tS Pv.encI x.Air.X),.t (tS Pv.encI x.Air.Y),.t (tS (Pv.encS Pv.encI) x.Air.Z),.t (tS Pv.encI x.Spark.X),.t (tS Pv.encI x.Spark.Y),.t (tS (Pv.encS Pv.encI) x.Spark.Z),.t (tS Pv.encI x.Torque.X),.t (tS Pv.encI x.Torque.Y),.t (tS (Pv.encS Pv.encI) x.Torque.Z),.t (tS Pv.encI x.Wish.X),.t (tS Pv.encI x.Wish.Y),.t (tS (Pv.encS Pv.encI) x.Wish.Z),.t (tS Pv.encI x.AirTemp.X),.t (tS Pv.encI x.AirTemp.Y),.t (tS Pv.encI x.Dwell.X),.t (tS Pv.encI x.Dwell.Y),.t (tS Pv.encI x.Dead.X),.t (tS Pv.encI x.Dead.Y),.t (tS Pv.encI x.Efficiency.X),.t (tS Pv.encI x.Efficiency.Y),.t (tI x.Idle.P),.t (tI x.Idle.I),.t (tI x.Idle.Low),.t (tI x.Idle.High)]
@[ext] structure SEngine where
 Order:List Int
 First:Int
def q792 (x:SEngine):List Tree:=[tS Pv.encI x.Order,tI x.First]
abbrev q190 (x:SEngine):T:=.agg [.t (tS Pv.encI x.Order),.t (tI x.First)]
@[ext] structure SPedal where
 Value:Int
 Differ:Int
 Fault:Bool
def q797 (x:SPedal):List Tree:=[tI x.Value,tI x.Differ,tB x.Fault]
abbrev q411 (x:SPedal):T:=.agg [.t (tI x.Value),.t (tI x.Differ),.t (tB x.Fault)]
@[ext] structure SIntegral where
 Sum:Int
def q758 (x:SIntegral):List Tree:=[tI x.Sum]
abbrev q136 (x:SIntegral):T:=.agg [.t (tI x.Sum)]
@[ext] structure SKnock where
 Retard:Int
 Noise:Int
 Quiet:Int
def q15 (x:SKnock):List Tree:=[tI x.Retard,tI x.Noise,tI x.Quiet]
abbrev q258 (x:SKnock):T:=.agg [.t (tI x.Retard),.t (tI x.Noise),.t (tI x.Quiet)]
@[ext] structure SCell where
 Value:Int
 Count:Int
def q18 (x:SCell):List Tree:=[tI x.Value,tI x.Count]
abbrev A_SCell (x:SCell):T:=.agg [.t (tI x.Value),.t (tI x.Count)]
@[ext] structure SProbe where
 Active:Bool
 Rich:Bool
 Factor:Int
 Wait:Int
 Cells:List SCell
def q806 (x:SProbe):List Tree:=[tB x.Active,tB x.Rich,tI x.Factor,tI x.Wait,tS q18 x.Cells]
abbrev q96 (x:SProbe):T:=.agg [.t (tB x.Active),.t (tB x.Rich),.t (tI x.Factor),.t (tI x.Wait),.t (tS q18 x.Cells)]
@[ext] structure SGrant where
 Torque:Int
 Source:Int
def q804 (x:SGrant):List Tree:=[tI x.Torque,tI x.Source]
abbrev q610 (x:SGrant):T:=.agg [.t (tI x.Torque),.t (tI x.Source)]
@[ext] structure SControls where
 Pedal:SPedal
 Idle:SIntegral
 Knock:List SKnock
 Probe:SProbe
 Film:Int
 Grant:SGrant
def q761 (x:SControls):List Tree:=[tI x.Pedal.Value,tI x.Pedal.Differ,tB x.Pedal.Fault,tI x.Idle.Sum,tS q15 x.Knock,tB x.Probe.Active,tB x.Probe.Rich,tI x.Probe.Factor,tI x.Probe.Wait,tS q18 x.Probe.Cells,tI x.Film,tI x.Grant.Torque,tI x.Grant.Source]
abbrev q77 (x:SControls):T:=.agg [.t (tI x.Pedal.Value),.t (tI x.Pedal.Differ),.t (tB x.Pedal.Fault),.t (tI x.Idle.Sum),.t (tS q15 x.Knock),.t (tB x.Probe.Active),.t (tB x.Probe.Rich),.t (tI x.Probe.Factor),.t (tI x.Probe.Wait),.t (tS q18 x.Probe.Cells),.t (tI x.Film),.t (tI x.Grant.Torque),.t (tI x.Grant.Source)]
abbrev q11 (x:SControls):List T:=[.t (tI x.Pedal.Value),.t (tI x.Pedal.Differ),.t (tB x.Pedal.Fault),.t (tI x.Idle.Sum),.t (tS q15 x.Knock),.t (tB x.Probe.Active),.t (tB x.Probe.Rich),.t (tI x.Probe.Factor),.t (tI x.Probe.Wait),.t (tS q18 x.Probe.Cells),.t (tI x.Film),.t (tI x.Grant.Torque),.t (tI x.Grant.Source)]
@[ext] structure SRequest where
 Source:Int
 Kind:Int
 Torque:Int
 Priority:Int
def q10 (x:SRequest):List Tree:=[tI x.Source,tI x.Kind,tI x.Torque,tI x.Priority]
abbrev q33 (x:SRequest):T:=.agg [.t (tI x.Source),.t (tI x.Kind),.t (tI x.Torque),.t (tI x.Priority)]
@[ext] structure SInputs where
 Pedal1:Int
 Pedal2:Int
 Speed:Int
 Pressure:Int
 AirTemp:Int
 Voltage:Int
 Lambda:Int
 Coolant:Int
 Intensity:List Int
 Requests:List SRequest
def q794 (x:SInputs):List Tree:=[tI x.Pedal1,tI x.Pedal2,tI x.Speed,tI x.Pressure,tI x.AirTemp,tI x.Voltage,tI x.Lambda,tI x.Coolant,tS Pv.encI x.Intensity,tS q10 x.Requests]
abbrev q308 (x:SInputs):T:=.agg [.t (tI x.Pedal1),.t (tI x.Pedal2),.t (tI x.Speed),.t (tI x.Pressure),.t (tI x.AirTemp),.t (tI x.Voltage),.t (tI x.Lambda),.t (tI x.Coolant),.t (tS Pv.encI x.Intensity),.t (tS q10 x.Requests)]
abbrev q14 (x:SInputs):List T:=[.t (tI x.Pedal1),.t (tI x.Pedal2),.t (tI x.Speed),.t (tI x.Pressure),.t (tI x.AirTemp),.t (tI x.Voltage),.t (tI x.Lambda),.t (tI x.Coolant),.t (tS Pv.encI x.Intensity),.t (tS q10 x.Requests)]
@[ext] structure SBody where
 Inertia:Int
 Friction:Int
 Volume:Int
 Throttle:Int
 Film:Int
 Evaporate:Int
 Delay:Int
def q223 (x:SBody):List Tree:=[tI x.Inertia,tI x.Friction,tI x.Volume,tI x.Throttle,tI x.Film,tI x.Evaporate,tI x.Delay]
abbrev A_SBody (x:SBody):T:=.agg [.t (tI x.Inertia),.t (tI x.Friction),.t (tI x.Volume),.t (tI x.Throttle),.t (tI x.Film),.t (tI x.Evaporate),.t (tI x.Delay)]
@[ext] structure SFire where
 Cylinder:Int
 Spark:Int
 Dwell:Int
 End:Int
 Inject:Int
 Gap:Int
 Extra:Int
def q16 (x:SFire):List Tree:=[tI x.Cylinder,tI x.Spark,tI x.Dwell,tI x.End,tI x.Inject,tI x.Gap,tI x.Extra]
@[ext] structure SOutputs where
 Throttle:Int
 Fires:List SFire
 Torque:Int
abbrev q497 (x:SOutputs):T:=.agg [.t (tI x.Throttle),.t (tS q16 x.Fires),.t (tI x.Torque)]
@[ext] structure Scontrol_step where
 t:STables
 e:SEngine
 b:SBody
 c:SControls
 i:SInputs
 wanted:Int
 charge:Int
 fired:Int
 late:Int
 pattern:List Bool
 time:Int
 out:SOutputs
 fail:Int
abbrev q13 (x:Scontrol_step):List T:=[.t (tS Pv.encI x.t.Air.X),.t (tS Pv.encI x.t.Air.Y),.t (tS (Pv.encS Pv.encI) x.t.Air.Z),.t (tS Pv.encI x.t.Spark.X),.t (tS Pv.encI x.t.Spark.Y),.t (tS (Pv.encS Pv.encI) x.t.Spark.Z),.t (tS Pv.encI x.t.Torque.X),.t (tS Pv.encI x.t.Torque.Y),.t (tS (Pv.encS Pv.encI) x.t.Torque.Z),.t (tS Pv.encI x.t.Wish.X),.t (tS Pv.encI x.t.Wish.Y),.t (tS (Pv.encS Pv.encI) x.t.Wish.Z),.t (tS Pv.encI x.t.AirTemp.X),.t (tS Pv.encI x.t.AirTemp.Y),.t (tS Pv.encI x.t.Dwell.X),.t (tS Pv.encI x.t.Dwell.Y),.t (tS Pv.encI x.t.Dead.X),.t (tS Pv.encI x.t.Dead.Y),.t (tS Pv.encI x.t.Efficiency.X),.t (tS Pv.encI x.t.Efficiency.Y),.t (tI x.t.Idle.P),.t (tI x.t.Idle.I),.t (tI x.t.Idle.Low),.t (tI x.t.Idle.High),.t (tS Pv.encI x.e.Order),.t (tI x.e.First),.t (tI x.b.Inertia),.t (tI x.b.Friction),.t (tI x.b.Volume),.t (tI x.b.Throttle),.t (tI x.b.Film),.t (tI x.b.Evaporate),.t (tI x.b.Delay),.t (tI x.c.Pedal.Value),.t (tI x.c.Pedal.Differ),.t (tB x.c.Pedal.Fault),.t (tI x.c.Idle.Sum),.t (tS q15 x.c.Knock),.t (tB x.c.Probe.Active),.t (tB x.c.Probe.Rich),.t (tI x.c.Probe.Factor),.t (tI x.c.Probe.Wait),.t (tS q18 x.c.Probe.Cells),.t (tI x.c.Film),.t (tI x.c.Grant.Torque),.t (tI x.c.Grant.Source),.t (tI x.i.Pedal1),.t (tI x.i.Pedal2),.t (tI x.i.Speed),.t (tI x.i.Pressure),.t (tI x.i.AirTemp),.t (tI x.i.Voltage),.t (tI x.i.Lambda),.t (tI x.i.Coolant),.t (tS Pv.encI x.i.Intensity),.t (tS q10 x.i.Requests),.t (tI x.wanted),.t (tI x.charge),.t (tI x.fired),.t (tI x.late),.t (tS Pv.encB x.pattern),.t (tI x.time),.t (tI x.out.Throttle),.t (tS q16 x.out.Fires),.t (tI x.out.Torque),.t (tI x.fail)]
@[ext] structure Sarbiter_span where
 low:Int
 high:Int
 source:Int
abbrev q727 (x:Sarbiter_span):T:=.agg [.t (tI x.low),.t (tI x.high),.t (tI x.source)]
@[ext] structure SRange where
 Low:Int
 High:Int
abbrev q686 (x:SRange):T:=.agg [.t (tI x.Low),.t (tI x.High)]
@[ext] structure Smagnetoref01_Wide where
 High:Int
 Low:Int
abbrev q435 (x:Smagnetoref01_Wide):T:=.agg [.t (tK .u64 x.High),.t (tK .u64 x.Low)]
noncomputable def q527 (a:Int):Option Bool:=
 some ((decide (a ≥ 0)) && (decide (a < 46080)))
noncomputable def q439 (s:List Int) (v:Int) (i:Int) (_:Unit):Option (Fl Unit Int):=
 Option.bind (getI s i) fun x=>bif (v == x) then (some (.ret i)) else (some (.next ()))
noncomputable def q278 (s:List Int) (v:Int):Option Int:=
 Option.bind (rangeN (s.length:Int) (q439 s v) ()) fun (t:Unit ⊕ Int)=>match t with | .inl _=>(some (-1)) | .inr r2=>some r2
noncomputable def q188 (s:List Int) (v:Int):Option Bool:=
 Option.bind (q278 s v) fun v2=>some (decide (v2 ≥ 0))
noncomputable def q345 (e2:SEngine) (i:Int):Option (Int ⊕ (Int ⊕ Bool)):=
 bif (decide (i ≤ (e2.Order.length:Int))) then (Option.bind (q188 e2.Order i) fun v2=>bif (!v2) then (some (.inr (.inr false))) else (some (.inl (w64 (i + 1))))) else (some (.inr (.inl i)))
noncomputable def q350 (e2:SEngine):Option Bool:=
 Option.bind (bif ((decide ((e2.Order.length:Int) < 1)) || (decide ((e2.Order.length:Int) > 8))) then (some true) else (Option.bind (q527 e2.First) fun v=>some (!v))) fun b2=>bif b2 then (some false) else (Option.bind (loopM (q345 e2) 1) fun (t:Int ⊕ Bool)=>match t with | .inl _=>(some true) | .inr r2=>some r2)
noncomputable def q337 (x:Int) (y:Int):Option (Int × Int):=
 mul64M x y
noncomputable def q478 (x:Int) (y:Int):Option (Int × Int):=
 Option.bind (q337 x y) fun r2=>some (r2.1,r2.2)
noncomputable def q371 (s3:Int × List SKnock):Option ((Int × List SKnock) ⊕ ((Int × List SKnock) ⊕ Empty)):=
 bif (decide (s3.1 < (s3.2.length:Int))) then (Option.bind (Option.bind (chkM s3.1 (s3.2.length:Int) s3.2.length) fun _=>Option.bind (chkM 0 s3.1 s3.2.length) fun _=>some (w64 (s3.1 + ((min (Int.toNat s3.1 - Int.toNat 0) (Int.toNat (s3.2.length:Int) - Int.toNat s3.1):Nat):Int)),copyVM s3.2 s3.1 (s3.2.length:Int) 0 s3.1)) fun (s4:Int × List SKnock)=>some (.inl (s4.1,s4.2))) else (some (.inr (.inl (s3.1,s3.2))))
noncomputable def q181 (x:List SKnock) (count:Int):Option (List SKnock):=
 Option.bind (bif (decide (count < 0)) then none else (some ())) fun (_:Unit)=>Option.bind (q478 (IntKind.u64.wrap (x.length:Int)) (IntKind.u64.wrap count)) fun r2=>Option.bind (bif ((decide (r2.1 > 0)) || (decide (r2.2 > 9223372036854775807))) then none else (some ())) fun (_:Unit)=>Option.bind (makeM (w64 r2.2) (⟨0,0,0⟩:SKnock)) fun l=>Option.bind (loopM (q371) ((min (x).length (l).length:Nat),copyL l x)) fun (t:(Int × List SKnock) ⊕ Empty)=>match t with | .inl s5=>(some s5.2) | .inr r=>r.elim
noncomputable def q545 (n2:Int):Option (List SKnock × Int):=
 bif ((decide (n2 < 1)) || (decide (n2 > 8))) then (some (([]:List SKnock),2)) else (Option.bind (q181 ([(⟨0,100,0⟩:SKnock)]:List SKnock) n2) fun v=>some (v,0))
noncomputable def q746:Option SPedal:=
 some (⟨0,0,false⟩:SPedal)
noncomputable def q581:Option SProbe:=
 Option.bind (makeM 9 (⟨0,0⟩:SCell)) fun l=>some (⟨false,false,1000,0,l⟩:SProbe)
noncomputable def q462 (e2:SEngine):Option (SControls × Int):=
 Option.bind (q350 e2) fun v=>bif (!v) then (some ((⟨(⟨0,0,false⟩:SPedal),(⟨0⟩:SIntegral),([]:List SKnock),(⟨false,false,0,0,([]:List SCell)⟩:SProbe),0,(⟨0,0⟩:SGrant)⟩:SControls),1)) else (Option.bind (q545 (e2.Order.length:Int)) fun r2=>bif (r2.2 != 0) then (some ((⟨(⟨0,0,false⟩:SPedal),(⟨0⟩:SIntegral),([]:List SKnock),(⟨false,false,0,0,([]:List SCell)⟩:SProbe),0,(⟨0,0⟩:SGrant)⟩:SControls),1)) else (Option.bind (q746) fun v2=>Option.bind (q581) fun v3=>some ((⟨v2,(⟨0⟩:SIntegral),r2.1,v3,0,(⟨0,(-1)⟩:SGrant)⟩:SControls),0)))
noncomputable def q394 (p2:SPedal):Option Bool:=
 Option.bind (bif p2.Fault then (some 200) else (some 1000)) fun (most:Int)=>some (((((decide (p2.Value ≥ 0)) && (decide (p2.Value ≤ most))) && (decide (p2.Differ ≥ 0))) && (decide (p2.Differ ≤ 3))) && (p2.Fault == (p2.Differ == 3)))
noncomputable def q80 (x:Int) (low:Int) (high:Int):Option Bool:=
 some ((decide (x ≥ low)) && (decide (x ≤ high)))
noncomputable def q488 (s:List SCell) (f2:SCell → Option Bool) (i:Int) (_:Unit):Option (Fl Unit Int):=
 Option.bind (getI s i) fun x=>Option.bind (f2 x) fun v=>bif v then (some (.ret i)) else (some (.next ()))
noncomputable def q390 (s:List SCell) (f2:SCell → Option Bool):Option Int:=
 Option.bind (rangeN (s.length:Int) (q488 s f2) ()) fun (t:Unit ⊕ Int)=>match t with | .inl _=>(some (-1)) | .inr r2=>some r2
noncomputable def q177 (s:List SCell) (f2:SCell → Option Bool):Option Bool:=
 Option.bind (q390 s f2) fun v=>some (decide (v ≥ 0))
noncomputable def q120 (c:SCell):Option Bool:=
 Option.bind (q80 c.Value (-100) 100) fun v=>Option.bind (bif (!v) then (some true) else (Option.bind (q80 c.Count 0 1000) fun v2=>some (!v2))) fun b2=>some b2
noncomputable def q217 (p2:SProbe):Option Bool:=
 Option.bind (q80 p2.Factor 750 1250) fun v=>Option.bind (bif (!v) then (some true) else (Option.bind (q80 p2.Wait 0 1000) fun v2=>some (!v2))) fun b2=>bif (b2 || ((p2.Cells.length:Int) != 9)) then (some false) else (Option.bind (bif (!p2.Active) then (some (((p2.Factor != 1000) || (p2.Wait != 0)) || p2.Rich)) else (some false)) fun b3=>bif b3 then (some false) else (Option.bind (q177 p2.Cells q120) fun v3=>some (!v3)))
noncomputable def q483 (s:List SKnock) (f2:SKnock → Option Bool) (i:Int) (_:Unit):Option (Fl Unit Int):=
 Option.bind (getI s i) fun x=>Option.bind (f2 x) fun v=>bif v then (some (.ret i)) else (some (.next ()))
noncomputable def q369 (s:List SKnock) (f2:SKnock → Option Bool):Option Int:=
 Option.bind (rangeN (s.length:Int) (q483 s f2) ()) fun (t:Unit ⊕ Int)=>match t with | .inl _=>(some (-1)) | .inr r2=>some r2
noncomputable def q62 (s:List SKnock) (f2:SKnock → Option Bool):Option Bool:=
 Option.bind (q369 s f2) fun v=>some (decide (v ≥ 0))
noncomputable def q339 (n2:Int):Option Bool:=
 some ((decide (n2 ≥ 0)) && (decide (n2 ≤ 4095)))
noncomputable def q388 (k:SKnock):Option Bool:=
 Option.bind (bif ((decide (k.Retard ≥ 0)) && (decide (k.Retard ≤ 960))) then (Option.bind (q339 k.Noise) fun v=>some v) else (some false)) fun b2=>some ((b2 && (decide (k.Quiet ≥ 0))) && (decide (k.Quiet < 100)))
noncomputable def q197 (k:SKnock):Option Bool:=
 Option.bind (q388 k) fun v=>some (!v)
noncomputable def q48 (x:Int) (low:Int) (high:Int):Option Bool:=
 some ((decide (x ≥ low)) && (decide (x ≤ high)))
noncomputable def q303 (e2:SEngine) (c:SControls):Option Bool:=
 Option.bind (q350 e2) fun v=>Option.bind (bif (!v) then (some true) else (Option.bind (q394 c.Pedal) fun v2=>some (!v2))) fun b2=>Option.bind (bif b2 then (some true) else (Option.bind (q217 c.Probe) fun v3=>some (!v3))) fun b3=>bif (b3 || ((c.Knock.length:Int) != (e2.Order.length:Int))) then (some false) else (Option.bind (q62 c.Knock q197) fun v4=>bif v4 then (some false) else (Option.bind (q48 c.Idle.Sum (-4398046511104) 4398046511104) fun v5=>Option.bind (bif v5 then (Option.bind (q48 c.Film 0 1073741824) fun v6=>some v6) else (some false)) fun b4=>Option.bind (bif b4 then (Option.bind (q48 c.Grant.Torque (-5000) 10000) fun v7=>some v7) else (some false)) fun b5=>Option.bind (bif b5 then (Option.bind (q48 c.Grant.Source (-1) 15) fun v8=>some v8) else (some false)) fun b6=>some b6))
noncomputable def q221:Option Bool:=
 Option.bind (q462 (⟨([1]:List Int),0⟩:SEngine)) fun r2=>Option.bind (bif (r2.2 == 0) then (Option.bind (q303 (⟨([1]:List Int),0⟩:SEngine) (⟨(⟨r2.1.Pedal.Value,r2.1.Pedal.Differ,r2.1.Pedal.Fault⟩:SPedal),(⟨r2.1.Idle.Sum⟩:SIntegral),r2.1.Knock,(⟨r2.1.Probe.Active,r2.1.Probe.Rich,r2.1.Probe.Factor,r2.1.Probe.Wait,r2.1.Probe.Cells⟩:SProbe),r2.1.Film,(⟨r2.1.Grant.Torque,r2.1.Grant.Source⟩:SGrant)⟩:SControls)) fun v=>some v) else (some false)) fun b2=>Option.bind (bif b2 then (Option.bind (q303 (⟨([1]:List Int),0⟩:SEngine) (⟨(⟨0,0,false⟩:SPedal),(⟨0⟩:SIntegral),([]:List SKnock),(⟨false,false,0,0,([]:List SCell)⟩:SProbe),0,(⟨0,0⟩:SGrant)⟩:SControls)) fun v2=>some (!v2)) else (some false)) fun b3=>some (b3 && (r2.1.Grant.Source == (-1)))
noncomputable def q519 (s:List SMap) (f2:SMap → Option Bool) (i:Int) (_:Unit):Option (Fl Unit Int):=
 Option.bind (getI s i) fun x=>Option.bind (f2 x) fun v=>bif v then (some (.ret i)) else (some (.next ()))
noncomputable def q420 (s:List SMap) (f2:SMap → Option Bool):Option Int:=
 Option.bind (rangeN (s.length:Int) (q519 s f2) ()) fun (t:Unit ⊕ Int)=>match t with | .inl _=>(some (-1)) | .inr r2=>some r2
noncomputable def q202 (s:List SMap) (f2:SMap → Option Bool):Option Bool:=
 Option.bind (q420 s f2) fun v=>some (decide (v ≥ 0))
noncomputable def q494 (s:List (List Int)) (f2:(List Int) → Option Bool) (i:Int) (_:Unit):Option (Fl Unit Int):=
 Option.bind (getI s i) fun x=>Option.bind (f2 x) fun v=>bif v then (some (.ret i)) else (some (.next ()))
noncomputable def q387 (s:List (List Int)) (f2:(List Int) → Option Bool):Option Int:=
 Option.bind (rangeN (s.length:Int) (q494 s f2) ()) fun (t:Unit ⊕ Int)=>match t with | .inl _=>(some (-1)) | .inr r2=>some r2
noncomputable def q41 (s:List (List Int)) (f2:(List Int) → Option Bool):Option Bool:=
 Option.bind (q387 s f2) fun v=>some (decide (v ≥ 0))
noncomputable def q117 (l:List Int):Option Bool:=
 some (decide ((l.length:Int) > 40))
noncomputable def q73 (m2:SMap):Option Bool:=
 Option.bind (bif (((decide ((m2.X.length:Int) > 40)) || (decide ((m2.Y.length:Int) > 40))) || (decide ((m2.Z.length:Int) > 40))) then (some true) else (Option.bind (q41 m2.Z q117) fun v=>some v)) fun b2=>some b2
noncomputable def q481 (s:List SCurve) (f2:SCurve → Option Bool) (i:Int) (_:Unit):Option (Fl Unit Int):=
 Option.bind (getI s i) fun x=>Option.bind (f2 x) fun v=>bif v then (some (.ret i)) else (some (.next ()))
noncomputable def q373 (s:List SCurve) (f2:SCurve → Option Bool):Option Int:=
 Option.bind (rangeN (s.length:Int) (q481 s f2) ()) fun (t:Unit ⊕ Int)=>match t with | .inl _=>(some (-1)) | .inr r2=>some r2
noncomputable def q167 (s:List SCurve) (f2:SCurve → Option Bool):Option Bool:=
 Option.bind (q373 s f2) fun v=>some (decide (v ≥ 0))
noncomputable def q143 (c:SCurve):Option Bool:=
 some ((decide ((c.X.length:Int) > 40)) || (decide ((c.Y.length:Int) > 40)))
noncomputable def q321 (t2:STables):Option Bool:=
 Option.bind (q202 ([t2.Air,t2.Spark,t2.Torque,t2.Wish]:List SMap) q73) fun v=>Option.bind (bif (!v) then (Option.bind (q167 ([t2.AirTemp,t2.Dwell,t2.Dead,t2.Efficiency]:List SCurve) q143) fun v2=>some (!v2)) else (some false)) fun b2=>some b2
noncomputable def q353 (e2:SEngine) (c:SControls) (v_in:SInputs):Option Bool:=
 some (((((decide ((e2.Order.length:Int) ≤ 40)) && (decide ((c.Knock.length:Int) ≤ 40))) && (decide ((c.Probe.Cells.length:Int) ≤ 40))) && (decide ((v_in.Intensity.length:Int) ≤ 40))) && (decide ((v_in.Requests.length:Int) ≤ 40)))
noncomputable def q310 (a:SProbe) (b2:SProbe) (i:Int):Option (Int ⊕ (Int ⊕ Bool)):=
 bif (decide (i < (a.Cells.length:Int))) then (Option.bind (getI a.Cells i) fun x=>Option.bind (getI b2.Cells i) fun x2=>bif (!((x.Value == x2.Value) && ((x.Count == x2.Count) && true))) then (some (.inr (.inr false))) else (some (.inl (w64 (i + 1))))) else (some (.inr (.inl i)))
noncomputable def q277 (a:SProbe) (b2:SProbe):Option Bool:=
 bif (((((!(a.Active == b2.Active)) || (!(a.Rich == b2.Rich))) || (a.Factor != b2.Factor)) || (a.Wait != b2.Wait)) || ((a.Cells.length:Int) != (b2.Cells.length:Int))) then (some false) else (Option.bind (loopM (q310 a b2) 0) fun (t:Int ⊕ Bool)=>match t with | .inl _=>(some true) | .inr r2=>some r2)
noncomputable def q313 (a:SControls) (b2:SControls) (i:Int):Option (Int ⊕ (Int ⊕ Bool)):=
 bif (decide (i < (a.Knock.length:Int))) then (Option.bind (getI a.Knock i) fun x=>Option.bind (getI b2.Knock i) fun x2=>bif (!((x.Retard == x2.Retard) && ((x.Noise == x2.Noise) && ((x.Quiet == x2.Quiet) && true)))) then (some (.inr (.inr false))) else (some (.inl (w64 (i + 1))))) else (some (.inr (.inl i)))
noncomputable def q172 (a:SControls) (b2:SControls):Option Bool:=
 Option.bind (bif (!((a.Pedal.Value == b2.Pedal.Value) && ((a.Pedal.Differ == b2.Pedal.Differ) && ((a.Pedal.Fault == b2.Pedal.Fault) && true)))) then (some true) else (some (!((a.Idle.Sum == b2.Idle.Sum) && true)))) fun b3=>Option.bind (bif b3 then (some true) else (Option.bind (q277 a.Probe b2.Probe) fun v=>some (!v))) fun b4=>Option.bind (bif (b4 || (a.Film != b2.Film)) then (some true) else (some (!((a.Grant.Torque == b2.Grant.Torque) && ((a.Grant.Source == b2.Grant.Source) && true))))) fun b5=>bif (b5 || ((a.Knock.length:Int) != (b2.Knock.length:Int))) then (some false) else (Option.bind (loopM (q313 a b2) 0) fun (t:Int ⊕ Bool)=>match t with | .inl _=>(some true) | .inr r2=>some r2)
noncomputable def q518 (s:List Int) (f2:Int → Option Bool) (i:Int) (_:Unit):Option (Fl Unit Int):=
 Option.bind (getI s i) fun x=>Option.bind (f2 x) fun v=>bif v then (some (.ret i)) else (some (.next ()))
noncomputable def q415 (s:List Int) (f2:Int → Option Bool):Option Int:=
 Option.bind (rangeN (s.length:Int) (q518 s f2) ()) fun (t:Unit ⊕ Int)=>match t with | .inl _=>(some (-1)) | .inr r2=>some r2
noncomputable def q23 (s:List Int) (f2:Int → Option Bool):Option Bool:=
 Option.bind (q415 s f2) fun v=>some (decide (v ≥ 0))
noncomputable def q240 (n2:Int):Option Bool:=
 some ((decide (n2 ≥ (-1073741824))) && (decide (n2 ≤ 1073741824)))
noncomputable def q426 (l:List Int) (i:Int) (_:Unit):Option (Fl Unit Bool):=
 Option.bind (getI l i) fun x=>Option.bind (q240 x) fun v=>Option.bind (bif (!v) then (some true) else (Option.bind (bif (decide (i > 0)) then (Option.bind (getI l (w64 (i - 1))) fun x2=>some (decide (x ≤ x2))) else (some false)) fun b2=>some b2)) fun b3=>bif b3 then (some (.ret false)) else (some (.next ()))
noncomputable def q358 (l:List Int):Option Bool:=
 bif ((decide ((l.length:Int) < 2)) || (decide ((l.length:Int) > 32))) then (some false) else (Option.bind (rangeN (l.length:Int) (q426 l) ()) fun (t:Unit ⊕ Bool)=>match t with | .inl _=>(some true) | .inr r2=>some r2)
noncomputable def q153 (z:Int):Option Bool:=
 Option.bind (q240 z) fun v=>some (!v)
noncomputable def q507 (m2:SMap) (_:Int) (x:List Int) (_:Unit):Option (Fl Unit Bool):=
 Option.bind (bif ((x.length:Int) != (m2.Y.length:Int)) then (some true) else (Option.bind (q23 x q153) fun v3=>some v3)) fun b3=>bif b3 then (some (.ret false)) else (some (.next ()))
noncomputable def q76 (m2:SMap):Option Bool:=
 Option.bind (q358 m2.X) fun v=>Option.bind (bif (!v) then (some true) else (Option.bind (q358 m2.Y) fun v2=>some (!v2))) fun b2=>bif (b2 || ((m2.Z.length:Int) != (m2.X.length:Int))) then (some false) else (Option.bind (rangeM m2.Z (q507 m2) ()) fun (t:Unit ⊕ Bool)=>match t with | .inl _=>(some true) | .inr r2=>some r2)
noncomputable def q224 (n2:Int):Option Bool:=
 some ((decide (n2 < (-1073741824))) || (decide (n2 > 1073741824)))
noncomputable def q477 (l:List Int) (i:Int) (_:Unit):Option (Fl Unit Bool):=
 Option.bind (getI l i) fun x=>Option.bind (getI l (w64 (i + 1))) fun x2=>bif (decide (x ≥ x2)) then (some (.ret false)) else (some (.next ()))
noncomputable def q493 (l:List Int):Option Bool:=
 Option.bind (bif ((decide ((l.length:Int) < 2)) || (decide ((l.length:Int) > 32))) then (some true) else (Option.bind (q23 l q224) fun v=>some v)) fun b2=>bif b2 then (some false) else (Option.bind (rangeN (w64 ((l.length:Int) - 1)) (q477 l) ()) fun (t:Unit ⊕ Bool)=>match t with | .inl _=>(some true) | .inr r2=>some r2)
noncomputable def q90 (c:SCurve):Option Bool:=
 Option.bind (bif ((c.X.length:Int) == (c.Y.length:Int)) then (Option.bind (q493 c.X) fun v=>some v) else (some false)) fun b2=>Option.bind (bif b2 then (Option.bind (q23 c.Y q224) fun v2=>some (!v2)) else (some false)) fun b3=>some b3
noncomputable def q404 (x:Int):Option Bool:=
 some (x != x)
noncomputable def q436 (x:Int) (y:Int):Option Bool:=
 Option.bind (q404 x) fun v=>Option.bind (bif v then (Option.bind (q404 y) fun v2=>some (!v2)) else (some false)) fun b2=>some (b2 || (decide (x < y)))
noncomputable def q83 (x:List Int) (i:Int):Option (Int ⊕ (Int ⊕ Bool)):=
 bif (decide (i > 0)) then (Option.bind (getI x i) fun x2=>Option.bind (getI x (w64 (i - 1))) fun x3=>Option.bind (q436 x2 x3) fun v=>bif v then (some (.inr (.inr false))) else (some (.inl (w64 (i - 1))))) else (some (.inr (.inl i)))
noncomputable def q119 (x:List Int):Option Bool:=
 Option.bind (loopM (q83 x) (w64 ((x.length:Int) - 1))) fun (t:Int ⊕ Bool)=>match t with | .inl _=>(some true) | .inr r2=>some r2
noncomputable def q53 (n2:Int) (low:Int) (high:Int):Option Bool:=
 some ((decide (n2 ≥ low)) && (decide (n2 ≤ high)))
noncomputable def q460 (y:Int):Option Bool:=
 Option.bind (q53 y 100 3000) fun v=>some (!v)
noncomputable def q667 (_:Int) (x:List Int) (_:Unit):Option (Fl Unit Bool):=
 Option.bind (q119 x) fun v3=>Option.bind (bif (!v3) then (some true) else (Option.bind (getI x 0) fun x2=>Option.bind (q53 x2 0 1048576) fun v4=>some (!v4))) fun b3=>Option.bind (bif b3 then (some true) else (Option.bind (getI x (w64 ((x.length:Int) - 1))) fun x3=>Option.bind (q53 x3 0 1048576) fun v5=>some (!v5))) fun b4=>bif b4 then (some (.ret false)) else (some (.next ()))
noncomputable def q417 (t2:STables):Option Bool:=
 Option.bind (q76 t2.Air) fun v=>Option.bind (bif (!v) then (some true) else (Option.bind (q90 t2.AirTemp) fun v2=>some (!v2))) fun b2=>bif b2 then (some false) else (Option.bind (rangeM t2.Air.Z (q667) ()) fun (t:Unit ⊕ Bool)=>match t with | .inl _=>(Option.bind (q23 t2.AirTemp.Y q460) fun v6=>some (!v6)) | .inr r2=>some r2)
noncomputable def q50 (x:Int) (low:Int) (high:Int):Option Bool:=
 some ((decide (x ≥ low)) && (decide (x ≤ high)))
noncomputable def q314 (x:Int) (c:Int) (c2:Int):Option Bool:=
 Option.bind (q50 x c c2) fun v=>some (!v)
noncomputable def q299 (l:List Int) (low:Int) (high:Int):Option Bool:=
 Option.bind (q23 l (fun x0=>q314 x0 low high)) fun v=>some v
noncomputable def q59 (x:List Int) (cmp:Int → Int → Option Int) (i:Int):Option (Int ⊕ (Int ⊕ Bool)):=
 bif (decide (i > 0)) then (Option.bind (getI x i) fun x2=>Option.bind (getI x (w64 (i - 1))) fun x3=>Option.bind (cmp x2 x3) fun v=>bif (decide (v < 0)) then (some (.inr (.inr false))) else (some (.inl (w64 (i - 1))))) else (some (.inr (.inl i)))
noncomputable def q57 (x:List Int) (cmp:Int → Int → Option Int):Option Bool:=
 Option.bind (loopM (q59 x cmp) (w64 ((x.length:Int) - 1))) fun (t:Int ⊕ Bool)=>match t with | .inl _=>(some true) | .inr r2=>some r2
noncomputable def q102 (a:Int) (b2:Int):Option Int:=
 some (w64 (b2 - a))
noncomputable def q195 (row:List Int):Option Bool:=
 Option.bind (q299 row 0 10000) fun v=>Option.bind (bif v then (some true) else (Option.bind (q119 row) fun v2=>some (!v2))) fun b2=>some b2
noncomputable def q286 (t2:STables):Option Bool:=
 Option.bind (q76 t2.Torque) fun v=>Option.bind (bif (!v) then (some true) else (Option.bind (q90 t2.Efficiency) fun v2=>some (!v2))) fun b2=>Option.bind (bif b2 then (some true) else (Option.bind (q299 t2.Efficiency.Y 0 1000) fun v3=>some v3)) fun b3=>bif b3 then (some false) else (Option.bind (q57 t2.Efficiency.Y q102) fun v4=>bif (!v4) then (some false) else (Option.bind (q41 t2.Torque.Z q195) fun v5=>some (!v5)))
noncomputable def q398 (x:Int) (c:Int) (c2:Int):Option Bool:=
 Option.bind (q48 x c c2) fun v=>some (!v)
noncomputable def q259 (l:List Int) (low:Int) (high:Int):Option Bool:=
 Option.bind (q23 l (fun x0=>q398 x0 low high)) fun v=>some (!v)
noncomputable def q60 (g:SGain):Option Bool:=
 some (((((((decide (g.P ≥ 0)) && (decide (g.P ≤ 65536))) && (decide (g.I ≥ 0))) && (decide (g.I ≤ 65536))) && (decide (g.Low ≥ (-1073741824)))) && (decide (g.Low ≤ g.High))) && (decide (g.High ≤ 1073741824)))
noncomputable def q526 (_:Int) (x:List Int) (_:Unit):Option (Fl Unit Bool):=
 Option.bind (q259 x (-1280) 3840) fun v7=>bif (!v7) then (some (.ret false)) else (some (.next ()))
noncomputable def q397 (t2:STables):Option Bool:=
 Option.bind (q417 t2) fun v=>Option.bind (bif (!v) then (some true) else (Option.bind (q286 t2) fun v2=>some (!v2))) fun b2=>Option.bind (bif b2 then (some true) else (Option.bind (q76 t2.Spark) fun v3=>some (!v3))) fun b3=>Option.bind (bif b3 then (some true) else (Option.bind (q76 t2.Wish) fun v4=>some (!v4))) fun b4=>Option.bind (bif b4 then (some true) else (Option.bind (q90 t2.Dwell) fun v5=>some (!v5))) fun b5=>Option.bind (bif b5 then (some true) else (Option.bind (q90 t2.Dead) fun v6=>some (!v6))) fun b6=>bif b6 then (some false) else (Option.bind (rangeM t2.Spark.Z (q526) ()) fun (t:Unit ⊕ Bool)=>match t with | .inl _=>(Option.bind (q259 t2.Dwell.Y 500 10000) fun v8=>Option.bind (bif v8 then (Option.bind (q259 t2.Dead.Y 0 10000) fun v9=>some v9) else (some false)) fun b7=>Option.bind (bif b7 then (Option.bind (q60 t2.Idle) fun v10=>some v10) else (some false)) fun b8=>some b8) | .inr r2=>some r2)
noncomputable def q457 (s:List SRequest) (f2:SRequest → Option Bool) (i:Int) (_:Unit):Option (Fl Unit Int):=
 Option.bind (getI s i) fun x=>Option.bind (f2 x) fun v=>bif v then (some (.ret i)) else (some (.next ()))
noncomputable def q343 (s:List SRequest) (f2:SRequest → Option Bool):Option Int:=
 Option.bind (rangeN (s.length:Int) (q457 s f2) ()) fun (t:Unit ⊕ Int)=>match t with | .inl _=>(some (-1)) | .inr r2=>some r2
noncomputable def q56 (s:List SRequest) (f2:SRequest → Option Bool):Option Bool:=
 Option.bind (q343 s f2) fun v=>some (decide (v ≥ 0))
noncomputable def q98 (t2:Int):Option Bool:=
 some ((decide (t2 ≥ (-5000))) && (decide (t2 ≤ 10000)))
noncomputable def q166 (r2:SRequest):Option Bool:=
 Option.bind (bif ((((decide (r2.Source < 0)) || (decide (r2.Source > 15))) || (decide (r2.Priority < 0))) || (decide (r2.Priority > 15))) then (some true) else (Option.bind (q98 r2.Torque) fun v=>some (!v))) fun b2=>bif b2 then (some false) else (Option.bind (bif (r2.Kind == 1) then (some true) else (Option.bind (bif (decide (r2.Source ≤ 1)) then (some ((r2.Kind == 2) || (r2.Kind == 3))) else (some false)) fun b3=>some b3)) fun b4=>some b4)
noncomputable def q149 (r2:SRequest):Option Bool:=
 Option.bind (q166 r2) fun v=>some (!v)
noncomputable def q400 (i:SInputs) (cylinders:Int):Option Bool:=
 Option.bind (q48 cylinders 1 8) fun v=>bif (((!v) || ((i.Intensity.length:Int) != cylinders)) || (decide ((i.Requests.length:Int) > 30))) then (some false) else (Option.bind (q48 i.Speed 0 12000) fun v2=>Option.bind (bif v2 then (Option.bind (q48 i.Pressure 50 3000) fun v3=>some v3) else (some false)) fun b2=>Option.bind (bif b2 then (Option.bind (q48 i.AirTemp (-40) 150) fun v4=>some v4) else (some false)) fun b3=>Option.bind (bif b3 then (Option.bind (q48 i.Coolant (-40) 150) fun v5=>some v5) else (some false)) fun b4=>Option.bind (bif b4 then (Option.bind (q48 i.Voltage 0 20000) fun v6=>some v6) else (some false)) fun b5=>Option.bind (bif b5 then (Option.bind (q48 i.Lambda 0 20000) fun v7=>some v7) else (some false)) fun b6=>Option.bind (bif b6 then (Option.bind (q259 i.Intensity 0 4095) fun v8=>some v8) else (some false)) fun b7=>Option.bind (bif b7 then (Option.bind (q56 i.Requests q149) fun v9=>some (!v9)) else (some false)) fun b8=>some b8)
noncomputable def q113 (x:Int) (low:Int) (high:Int):Option Bool:=
 some ((decide (x ≥ low)) && (decide (x ≤ high)))
noncomputable def q393 (b2:SBody):Option Bool:=
 Option.bind (q113 b2.Inertia 100 1048576) fun v=>Option.bind (bif v then (Option.bind (q113 b2.Friction 0 65536) fun v2=>some v2) else (some false)) fun b3=>Option.bind (bif b3 then (Option.bind (q113 b2.Throttle 0 65536) fun v3=>some v3) else (some false)) fun b4=>Option.bind (bif b4 then (Option.bind (q113 b2.Volume 1 65536) fun v4=>some v4) else (some false)) fun b5=>Option.bind (bif b5 then (Option.bind (q113 b2.Film 0 1023) fun v5=>some v5) else (some false)) fun b6=>Option.bind (bif b6 then (Option.bind (q113 b2.Evaporate 1 1024) fun v6=>some v6) else (some false)) fun b7=>Option.bind (bif b7 then (Option.bind (q113 b2.Delay 0 20) fun v7=>some v7) else (some false)) fun b8=>some b8
noncomputable def q135 (n2:Int):Option Bool:=
 some ((decide (n2 ≥ 0)) && (decide (n2 ≤ 12000)))
noncomputable def q389 (coolant:Int):Option Int:=
 bif (decide (coolant ≤ (-20))) then (some 1200) else (bif (decide (coolant ≥ 70)) then (some 800) else (some (w64 (1200 - (w64 (Int.tdiv (w64 (400 * (w64 (coolant + 20)))) 90))))))
noncomputable def q646 (speed:Int) (coolant:Int):Option Bool:=
 Option.bind (q389 coolant) fun v=>some (decide (speed < (w64 (v + 300))))
noncomputable def q459 (pedal:Int) (speed:Int) (coolant:Int):Option Bool:=
 Option.bind (bif ((decide (pedal ≥ 0)) && (decide (pedal < 20))) then (Option.bind (q135 speed) fun v=>some v) else (some false)) fun b2=>Option.bind (bif b2 then (Option.bind (q646 speed coolant) fun v2=>some v2) else (some false)) fun b3=>some b3
noncomputable def q38 (x:Int) (low:Int) (high:Int):Option Int:=
 some (minI (maxI x low) high)
noncomputable def q104 (f2:Int → Option Bool) (s:Int × Int):Option ((Int × Int) ⊕ ((Int × Int) ⊕ Empty)):=
 bif (decide (s.1 < s.2)) then (Option.bind (f2 (w64 (bitShr .u64 (IntKind.u64.wrap (w64 (s.1 + s.2))) 1))) fun v=>bif (!v) then (some (.inl (w64 ((w64 (bitShr .u64 (IntKind.u64.wrap (w64 (s.1 + s.2))) 1)) + 1),s.2))) else (some (.inl (s.1,w64 (bitShr .u64 (IntKind.u64.wrap (w64 (s.1 + s.2))) 1))))) else (some (.inr (.inl (s.1,s.2))))
noncomputable def q66 (n2:Int) (f2:Int → Option Bool):Option Int:=
 Option.bind (loopM (q104 f2) (0,n2)) fun (t:(Int × Int) ⊕ Empty)=>match t with | .inl s2=>(some s2.1) | .inr r=>r.elim
noncomputable def q171 (i:Int) (c:List Int) (c2:Int):Option Bool:=
 Option.bind (getI c i) fun x=>some (decide (x > c2))
noncomputable def q158 (l:List Int) (x:Int):Option (Int × Int):=
 Option.bind (getI l 0) fun x2=>Option.bind (getI l (w64 ((l.length:Int) - 1))) fun x3=>Option.bind (q38 x x2 x3) fun v=>Option.bind (q66 (l.length:Int) (fun x0=>q171 x0 l v)) fun v2=>some (minI (w64 (v2 - 1)) (w64 ((l.length:Int) - 2)),v)
noncomputable def q145 (n2:Int):Option Int:=
 bif (decide (n2 < 0)) then (some (IntKind.u64.wrap ((IntKind.u64.wrap (w64 (0 - (w64 (n2 + 1))))) + 1))) else (some (IntKind.u64.wrap n2))
noncomputable def q543 (x:Int):Option Int:=
 len64M x
noncomputable def q356 (x:Int):Option Int:=
 Option.bind (q543 x) fun v=>some (w64 (64 - v))
noncomputable def q652 (q3:Int) (q6:Int) (s3:Int × Int):Option ((Int × Int) ⊕ ((Int × Int) ⊕ Empty)):=
 bif ((decide (s3.1 ≥ 4294967296)) || (decide ((IntKind.u64.wrap (s3.1 * (bitAnd .u64 q3 4294967295))) > (IntKind.u64.wrap ((IntKind.u64.wrap (4294967296 * s3.2)) + (bitShr .u64 q6 32)))))) then (bif (decide ((IntKind.u64.wrap (s3.2 + (bitShr .u64 q3 32))) ≥ 4294967296)) then (some (.inr (.inl (IntKind.u64.wrap (s3.1 - 1),IntKind.u64.wrap (s3.2 + (bitShr .u64 q3 32)))))) else (some (.inl (IntKind.u64.wrap (s3.1 - 1),IntKind.u64.wrap (s3.2 + (bitShr .u64 q3 32)))))) else (some (.inr (.inl (s3.1,s3.2))))
noncomputable def q664 (q3:Int) (q6:Int) (s5:Int × Int):Option ((Int × Int) ⊕ ((Int × Int) ⊕ Empty)):=
 bif ((decide (s5.2 ≥ 4294967296)) || (decide ((IntKind.u64.wrap (s5.2 * (bitAnd .u64 q3 4294967295))) > (IntKind.u64.wrap ((IntKind.u64.wrap (4294967296 * s5.1)) + (bitAnd .u64 q6 4294967295)))))) then (bif (decide ((IntKind.u64.wrap (s5.1 + (bitShr .u64 q3 32))) ≥ 4294967296)) then (some (.inr (.inl (IntKind.u64.wrap (s5.1 + (bitShr .u64 q3 32)),IntKind.u64.wrap (s5.2 - 1))))) else (some (.inl (IntKind.u64.wrap (s5.1 + (bitShr .u64 q3 32)),IntKind.u64.wrap (s5.2 - 1))))) else (some (.inr (.inl (s5.1,s5.2))))
noncomputable def q342 (hi:Int) (lo:Int) (y:Int):Option (Int × Int):=
 Option.bind (bif (y == 0) then none else (some ())) fun (_:Unit)=>Option.bind (bif (decide (y ≤ hi)) then none else (some ())) fun (_:Unit)=>bif (hi == 0) then (Option.bind (quoM .u64 lo y) fun q=>Option.bind (remM lo y) fun q2=>some (q,q2)) else (Option.bind (q356 y) fun v=>Option.bind (shlM .u64 y (IntKind.u64.wrap v)) fun q3=>Option.bind (shlM .u64 hi (IntKind.u64.wrap v)) fun q4=>Option.bind (shrM .u64 lo (IntKind.u64.wrap (64 - (IntKind.u64.wrap v)))) fun q5=>Option.bind (shlM .u64 lo (IntKind.u64.wrap v)) fun q6=>Option.bind (quoM .u64 (bitOr .u64 q4 q5) (bitShr .u64 q3 32)) fun q7=>Option.bind (loopM (q652 q3 q6) (q7,IntKind.u64.wrap ((bitOr .u64 q4 q5) - (IntKind.u64.wrap (q7 * (bitShr .u64 q3 32)))))) fun (t:(Int × Int) ⊕ Empty)=>match t with | .inl s4=>(Option.bind (quoM .u64 (IntKind.u64.wrap ((IntKind.u64.wrap ((IntKind.u64.wrap ((bitOr .u64 q4 q5) * 4294967296)) + (bitShr .u64 q6 32))) - (IntKind.u64.wrap (s4.1 * q3)))) (bitShr .u64 q3 32)) fun q8=>Option.bind (loopM (q664 q3 q6) (IntKind.u64.wrap ((IntKind.u64.wrap ((IntKind.u64.wrap ((IntKind.u64.wrap ((bitOr .u64 q4 q5) * 4294967296)) + (bitShr .u64 q6 32))) - (IntKind.u64.wrap (s4.1 * q3)))) - (IntKind.u64.wrap (q8 * (bitShr .u64 q3 32)))),q8)) fun (t:(Int × Int) ⊕ Empty)=>match t with | .inl s6=>(Option.bind (shrM .u64 (IntKind.u64.wrap ((IntKind.u64.wrap ((IntKind.u64.wrap ((IntKind.u64.wrap ((IntKind.u64.wrap ((IntKind.u64.wrap ((bitOr .u64 q4 q5) * 4294967296)) + (bitShr .u64 q6 32))) - (IntKind.u64.wrap (s4.1 * q3)))) * 4294967296)) + (bitAnd .u64 q6 4294967295))) - (IntKind.u64.wrap (s6.2 * q3)))) (IntKind.u64.wrap v)) fun q9=>some (IntKind.u64.wrap ((IntKind.u64.wrap (s4.1 * 4294967296)) + s6.2),q9)) | .inr r=>r.elim) | .inr r=>r.elim)
noncomputable def q220 (r2:Int) (c:Int) (negative:Bool) (mode:Int):Option Bool:=
 bif (mode == 1) then (some (negative && (decide (r2 > 0)))) else (bif (mode == 2) then (some ((!negative) && (decide (r2 > 0)))) else (bif negative then (some (decide (r2 > (IntKind.u64.wrap (c - r2))))) else (some (decide (r2 ≥ (IntKind.u64.wrap (c - r2)))))))
noncomputable def q437 (a:Int) (b2:Int) (c:Int) (mode:Int):Option (Int × Int):=
 bif ((decide (mode < 1)) || (decide (mode > 3))) then (some (0,1)) else (bif (c == 0) then (some (0,10)) else (Option.bind (q145 a) fun v=>Option.bind (q145 b2) fun v2=>Option.bind (q337 v v2) fun r2=>Option.bind (q145 c) fun v3=>bif (decide (r2.1 ≥ v3)) then (some (0,9)) else (Option.bind (q342 r2.1 r2.2 v3) fun r3=>bif (decide (r3.1 > 9223372036854775808)) then (some (0,9)) else (Option.bind (q220 r3.2 v3 (!((!((decide (a < 0)) == (decide (b2 < 0)))) == (decide (c < 0)))) mode) fun v4=>Option.bind (bif v4 then (some (IntKind.u64.wrap (r3.1 + 1))) else (some r3.1)) fun (q:Int)=>bif ((!((!((decide (a < 0)) == (decide (b2 < 0)))) == (decide (c < 0)))) && (decide (q ≤ 9223372036854775808))) then (some (w64 ((w64 (0 - (w64 (IntKind.u64.wrap (q - 1))))) - 1),0)) else (bif ((!(!((!((decide (a < 0)) == (decide (b2 < 0)))) == (decide (c < 0))))) && (decide (q < 9223372036854775808))) then (some (w64 q,0)) else (some (0,9)))))))
noncomputable def q355 (a:Int) (b2:Int) (mode:Int):Option (Int × Int):=
 Option.bind (q437 a 1 b2 mode) fun r2=>some (r2.1,r2.2)
noncomputable def q261 (a:Int) (b2:Int):Option Int:=
 Option.bind (q355 a b2 1) fun r2=>some r2.1
noncomputable def q229 (x0:Int) (x1:Int) (y0:Int) (y1:Int) (x:Int):Option Int:=
 Option.bind (q261 (w64 ((w64 (x - x0)) * (w64 (y1 - y0)))) (w64 (x1 - x0))) fun v=>some (w64 (y0 + v))
noncomputable def q346 (j:Int) (c:SMap) (c2:Int) (c3:Int):Option Int:=
 Option.bind (getI c.X c2) fun x=>Option.bind (getI c.X (w64 (c2 + 1))) fun x2=>Option.bind (getI c.Z c2) fun x3=>Option.bind (getI x3 j) fun x4=>Option.bind (getI c.Z (w64 (c2 + 1))) fun x5=>Option.bind (getI x5 j) fun x6=>Option.bind (q229 x x2 x4 x6 c3) fun v=>some v
noncomputable def q501 (m2:SMap) (x:Int) (y:Int):Option Int:=
 Option.bind (q158 m2.X x) fun r2=>Option.bind (q158 m2.Y y) fun r3=>Option.bind (getI m2.Y r3.1) fun x2=>Option.bind (getI m2.Y (w64 (r3.1 + 1))) fun x3=>Option.bind (q346 r3.1 m2 r2.1 r2.2) fun v=>Option.bind (q346 (w64 (r3.1 + 1)) m2 r2.1 r2.2) fun v2=>Option.bind (q229 x2 x3 v v2 r3.2) fun v3=>some v3
noncomputable def q137 (m2:SMap) (x:Int) (y:Int):Option Int:=
 Option.bind (q76 m2) fun v=>bif (!v) then (some 0) else (Option.bind (q501 m2 x y) fun v2=>some v2)
noncomputable def q492 (t2:STables) (value:Int) (speed:Int):Option (Int × Int):=
 Option.bind (q76 t2.Wish) fun v=>bif (!v) then (some (0,1)) else (bif ((((decide (value < 0)) || (decide (value > 1000))) || (decide (speed < 0))) || (decide (speed > 12000))) then (some (0,2)) else (Option.bind (q137 t2.Wish speed value) fun v2=>Option.bind (q38 v2 (-5000) 10000) fun v3=>some (v3,0)))
noncomputable def q490 (p2:SPedal) (first:Int) (second:Int):Option (SPedal × Int):=
 Option.bind (q394 p2) fun v=>bif (!v) then (some ((⟨0,0,false⟩:SPedal),1)) else (Option.bind (q38 first 0 1000) fun v2=>Option.bind (q38 second 0 500) fun v3=>Option.bind (bif (decide ((maxI (w64 (v2 - (w64 (2 * v3)))) (w64 ((w64 (2 * v3)) - v2))) > 50)) then (some (minI 3 (w64 (p2.Differ + 1)))) else (bif (!p2.Fault) then (some 0) else (some p2.Differ))) fun (f2:Int)=>bif (f2 == 3) then (some ((⟨minI (minI v2 (w64 (2 * v3))) 200,f2,(f2 == 3)⟩:SPedal),0)) else (bif (decide ((maxI (w64 (v2 - (w64 (2 * v3)))) (w64 ((w64 (2 * v3)) - v2))) > 50)) then (some ((⟨minI (minI v2 (w64 (2 * v3))) p2.Value,f2,(f2 == 3)⟩:SPedal),0)) else (some ((⟨v2,f2,(f2 == 3)⟩:SPedal),0))))
noncomputable def q198 (s:SIntegral) (g:SGain) (e2:Int):Option (SIntegral × Int × Int):=
 Option.bind (q60 g) fun v=>bif (((!v) || (decide (s.Sum < (-4398046511104)))) || (decide (s.Sum > 4398046511104))) then (some ((⟨0⟩:SIntegral),0,1)) else (bif ((decide (e2 < (-1048576))) || (decide (e2 > 1048576))) then (some ((⟨0⟩:SIntegral),0,2)) else (Option.bind (bif ((decide ((bitShr .i64 (w64 ((w64 (g.P * e2)) + s.Sum)) 10) ≤ g.High)) || (decide (e2 ≤ 0))) then (some ((decide ((bitShr .i64 (w64 ((w64 (g.P * e2)) + s.Sum)) 10) ≥ g.Low)) || (decide (e2 ≥ 0)))) else (some false)) fun b2=>Option.bind (bif b2 then (Option.bind (q38 (w64 (s.Sum + (w64 (g.I * e2)))) (-4398046511104) 4398046511104) fun v2=>some v2) else (some s.Sum)) fun (f2:Int)=>Option.bind (q38 (bitShr .i64 (w64 ((w64 (g.P * e2)) + s.Sum)) 10) g.Low g.High) fun v3=>some ((⟨f2⟩:SIntegral),v3,0)))
noncomputable def q250 (s:SIntegral) (g:SGain) (target:Int) (speed:Int):Option (SIntegral × Int × Int):=
 Option.bind (q60 g) fun v=>bif (!v) then (some ((⟨0⟩:SIntegral),0,1)) else (Option.bind (q135 target) fun v2=>Option.bind (bif (!v2) then (some true) else (Option.bind (q135 speed) fun v3=>some (!v3))) fun b2=>bif b2 then (some ((⟨0⟩:SIntegral),0,2)) else (Option.bind (q198 s g (w64 (target - speed))) fun r2=>some (r2.1,r2.2.1,r2.2.2)))
noncomputable def q164 (r2:SRequest):Option Bool:=
 Option.bind (q166 r2) fun v=>some (!v)
noncomputable def q402 (l:List SRequest) (low:Int) (high:Int):Option Int:=
 Option.bind (q56 l q164) fun v=>bif v then (some 1) else (bif (decide ((l.length:Int) > 32)) then (some 5) else (Option.bind (q98 low) fun v2=>Option.bind (bif (!v2) then (some true) else (Option.bind (q98 high) fun v3=>some (!v3))) fun b2=>bif (b2 || (decide (low > high))) then (some 2) else (some 0)))
noncomputable def q285 (s:List SRequest):Option (List SRequest):=
 Option.bind (appendM ([]:List SRequest) s) fun l=>some l
noncomputable def q329 (a:Int) (cmp:SRequest → SRequest → Option Int) (s2:Int × List SRequest):Option ((Int × List SRequest) ⊕ ((Int × List SRequest) ⊕ Empty)):=
 Option.bind (bif (decide (s2.1 > a)) then (Option.bind (getI s2.2 s2.1) fun x=>Option.bind (getI s2.2 (w64 (s2.1 - 1))) fun x2=>Option.bind (cmp x x2) fun v=>some (decide (v < 0))) else (some false)) fun (v2:Bool)=>bif v2 then (Option.bind (Option.bind (getI s2.2 (w64 (s2.1 - 1))) fun x3=>Option.bind (getI s2.2 s2.1) fun x4=>Option.bind (setM s2.2 s2.1 x3) fun l=>Option.bind (getI l (w64 (s2.1 - 1))) fun _=>Option.bind (setM l (w64 (s2.1 - 1)) x4) fun l2=>some l2) fun (f2:List SRequest)=>some (.inl (w64 (s2.1 - 1),f2))) else (some (.inr (.inl (s2.1,s2.2))))
noncomputable def q336 (a:Int) (b2:Int) (cmp:SRequest → SRequest → Option Int) (s:Int × List SRequest):Option ((Int × List SRequest) ⊕ ((Int × List SRequest) ⊕ Empty)):=
 bif (decide (s.1 < b2)) then (Option.bind (loopM (q329 a cmp) (s.1,s.2)) fun (t:(Int × List SRequest) ⊕ Empty)=>match t with | .inl s3=>(some (.inl (w64 (s.1 + 1),s3.2))) | .inr r=>r.elim) else (some (.inr (.inl (s.1,s.2))))
noncomputable def q82 (data:List SRequest) (a:Int) (b2:Int) (cmp:SRequest → SRequest → Option Int):Option (List SRequest):=
 Option.bind (loopM (q336 a b2 cmp) (w64 (a + 1),data)) fun (t:(Int × List SRequest) ⊕ Empty)=>match t with | .inl s4=>(some s4.2) | .inr r=>r.elim
noncomputable def q376 (a:Int) (b2:Int) (n2:Int) (s:Int × List SRequest):Option ((Int × List SRequest) ⊕ ((Int × List SRequest) ⊕ Empty)):=
 bif (decide (s.1 < n2)) then (Option.bind (Option.bind (getI s.2 (w64 (b2 + s.1))) fun x=>Option.bind (getI s.2 (w64 (a + s.1))) fun x2=>Option.bind (setM s.2 (w64 (a + s.1)) x) fun l=>Option.bind (getI l (w64 (b2 + s.1))) fun _=>Option.bind (setM l (w64 (b2 + s.1)) x2) fun l2=>some l2) fun (f2:List SRequest)=>some (.inl (w64 (s.1 + 1),f2))) else (some (.inr (.inl (s.1,s.2))))
noncomputable def q63 (data:List SRequest) (a:Int) (b2:Int) (n2:Int) (_:SRequest → SRequest → Option Int):Option (List SRequest):=
 Option.bind (loopM (q376 a b2 n2) (0,data)) fun (t:(Int × List SRequest) ⊕ Empty)=>match t with | .inl s2=>(some s2.2) | .inr r=>r.elim
noncomputable def q424 (m2:Int) (cmp:SRequest → SRequest → Option Int) (s:Int × Int × List SRequest):Option ((Int × Int × List SRequest) ⊕ ((Int × Int × List SRequest) ⊕ Empty)):=
 bif (s.1 != s.2.1) then (bif (decide (s.1 > s.2.1)) then (Option.bind (q63 s.2.2 (w64 (m2 - s.1)) m2 s.2.1 cmp) fun v=>some (.inl (w64 (s.1 - s.2.1),s.2.1,v))) else (Option.bind (q63 s.2.2 (w64 (m2 - s.1)) (w64 ((w64 (m2 + s.2.1)) - s.1)) s.1 cmp) fun v2=>some (.inl (s.1,w64 (s.2.1 - s.1),v2)))) else (some (.inr (.inl (s.1,s.2.1,s.2.2))))
noncomputable def q291 (data:List SRequest) (a:Int) (m2:Int) (b2:Int) (cmp:SRequest → SRequest → Option Int):Option (List SRequest):=
 Option.bind (loopM (q424 m2 cmp) (w64 (m2 - a),w64 (b2 - m2),data)) fun (t:(Int × Int × List SRequest) ⊕ Empty)=>match t with | .inl s2=>(Option.bind (q63 s2.2.2 (w64 (m2 - s2.1)) m2 s2.1 cmp) fun v3=>some v3) | .inr r=>r.elim
noncomputable def q385 (data:List SRequest) (a:Int) (cmp:SRequest → SRequest → Option Int) (s:Int × Int):Option ((Int × Int) ⊕ ((Int × Int) ⊕ Empty)):=
 bif (decide (s.1 < s.2)) then (Option.bind (getI data (w64 (bitShr .u64 (IntKind.u64.wrap (w64 (s.1 + s.2))) 1))) fun x=>Option.bind (getI data a) fun x2=>Option.bind (cmp x x2) fun v=>bif (decide (v < 0)) then (some (.inl (w64 ((w64 (bitShr .u64 (IntKind.u64.wrap (w64 (s.1 + s.2))) 1)) + 1),s.2))) else (some (.inl (s.1,w64 (bitShr .u64 (IntKind.u64.wrap (w64 (s.1 + s.2))) 1))))) else (some (.inr (.inl (s.1,s.2))))
noncomputable def q391 (s2:Int × Int) (s3:Int × List SRequest):Option ((Int × List SRequest) ⊕ ((Int × List SRequest) ⊕ Empty)):=
 bif (decide (s3.1 < (w64 (s2.1 - 1)))) then (Option.bind (Option.bind (getI s3.2 (w64 (s3.1 + 1))) fun x3=>Option.bind (getI s3.2 s3.1) fun x4=>Option.bind (setM s3.2 s3.1 x3) fun l=>Option.bind (getI l (w64 (s3.1 + 1))) fun _=>Option.bind (setM l (w64 (s3.1 + 1)) x4) fun l2=>some l2) fun (f2:List SRequest)=>some (.inl (w64 (s3.1 + 1),f2))) else (some (.inr (.inl (s3.1,s3.2))))
noncomputable def q392 (data:List SRequest) (m2:Int) (cmp:SRequest → SRequest → Option Int) (s5:Int × Int):Option ((Int × Int) ⊕ ((Int × Int) ⊕ Empty)):=
 bif (decide (s5.1 < s5.2)) then (Option.bind (getI data m2) fun x6=>Option.bind (getI data (w64 (bitShr .u64 (IntKind.u64.wrap (w64 (s5.1 + s5.2))) 1))) fun x7=>Option.bind (cmp x6 x7) fun v2=>bif (!(decide (v2 < 0))) then (some (.inl (w64 ((w64 (bitShr .u64 (IntKind.u64.wrap (w64 (s5.1 + s5.2))) 1)) + 1),s5.2))) else (some (.inl (s5.1,w64 (bitShr .u64 (IntKind.u64.wrap (w64 (s5.1 + s5.2))) 1))))) else (some (.inr (.inl (s5.1,s5.2))))
noncomputable def q386 (s6:Int × Int) (s7:Int × List SRequest):Option ((Int × List SRequest) ⊕ ((Int × List SRequest) ⊕ Empty)):=
 bif (decide (s7.1 > s6.1)) then (Option.bind (Option.bind (getI s7.2 (w64 (s7.1 - 1))) fun x8=>Option.bind (getI s7.2 s7.1) fun x9=>Option.bind (setM s7.2 s7.1 x8) fun l3=>Option.bind (getI l3 (w64 (s7.1 - 1))) fun _=>Option.bind (setM l3 (w64 (s7.1 - 1)) x9) fun l4=>some l4) fun (f3:List SRequest)=>some (.inl (w64 (s7.1 - 1),f3))) else (some (.inr (.inl (s7.1,s7.2))))
noncomputable def q384 (data:List SRequest) (a:Int) (m2:Int) (b2:Int) (cmp:SRequest → SRequest → Option Int) (s10:Int × Int):Option ((Int × Int) ⊕ ((Int × Int) ⊕ Empty)):=
 bif (decide (s10.1 < s10.2)) then (Option.bind (getI data (w64 ((w64 ((w64 ((w64 (bitShr .u64 (IntKind.u64.wrap (w64 (a + b2))) 1)) + m2)) - 1)) - (w64 (bitShr .u64 (IntKind.u64.wrap (w64 (s10.1 + s10.2))) 1))))) fun x11=>Option.bind (getI data (w64 (bitShr .u64 (IntKind.u64.wrap (w64 (s10.1 + s10.2))) 1))) fun x12=>Option.bind (cmp x11 x12) fun v3=>bif (!(decide (v3 < 0))) then (some (.inl (w64 ((w64 (bitShr .u64 (IntKind.u64.wrap (w64 (s10.1 + s10.2))) 1)) + 1),s10.2))) else (some (.inl (s10.1,w64 (bitShr .u64 (IntKind.u64.wrap (w64 (s10.1 + s10.2))) 1))))) else (some (.inr (.inl (s10.1,s10.2))))
noncomputable def q61 (rc:List SRequest → Int → Int → Int → (SRequest → SRequest → Option Int) → Option (List SRequest)) (data:List SRequest) (a:Int) (m2:Int) (b2:Int) (cmp:SRequest → SRequest → Option Int):Option (List SRequest):=
 bif ((w64 (m2 - a)) == 1) then (Option.bind (loopM (q385 data a cmp) (m2,b2)) fun (t:(Int × Int) ⊕ Empty)=>match t with | .inl s2=>(Option.bind (loopM (q391 s2) (a,data)) fun (t:(Int × List SRequest) ⊕ Empty)=>match t with | .inl s4=>(some s4.2) | .inr r=>r.elim) | .inr r=>r.elim) else (bif ((w64 (b2 - m2)) == 1) then (Option.bind (loopM (q392 data m2 cmp) (a,m2)) fun (t:(Int × Int) ⊕ Empty)=>match t with | .inl s6=>(Option.bind (loopM (q386 s6) (m2,data)) fun (t:(Int × List SRequest) ⊕ Empty)=>match t with | .inl s8=>(some s8.2) | .inr r=>r.elim) | .inr r=>r.elim) else (Option.bind (bif (decide (m2 > (w64 (bitShr .u64 (IntKind.u64.wrap (w64 (a + b2))) 1)))) then (some (w64 ((w64 ((w64 (bitShr .u64 (IntKind.u64.wrap (w64 (a + b2))) 1)) + m2)) - b2),w64 (bitShr .u64 (IntKind.u64.wrap (w64 (a + b2))) 1))) else (some (a,m2))) fun (s9:Int × Int)=>Option.bind (loopM (q384 data a m2 b2 cmp) (s9.1,s9.2)) fun (t:(Int × Int) ⊕ Empty)=>match t with | .inl s11=>(Option.bind (bif ((decide (s11.1 < m2)) && (decide (m2 < (w64 ((w64 ((w64 (bitShr .u64 (IntKind.u64.wrap (w64 (a + b2))) 1)) + m2)) - s11.1))))) then (Option.bind (q291 data s11.1 m2 (w64 ((w64 ((w64 (bitShr .u64 (IntKind.u64.wrap (w64 (a + b2))) 1)) + m2)) - s11.1)) cmp) fun v4=>some v4) else (some data)) fun (f4:List SRequest)=>Option.bind (bif ((decide (a < s11.1)) && (decide (s11.1 < (w64 (bitShr .u64 (IntKind.u64.wrap (w64 (a + b2))) 1))))) then (Option.bind (rc f4 a s11.1 (w64 (bitShr .u64 (IntKind.u64.wrap (w64 (a + b2))) 1)) cmp) fun v5=>some v5) else (some f4)) fun (f5:List SRequest)=>bif ((decide ((w64 (bitShr .u64 (IntKind.u64.wrap (w64 (a + b2))) 1)) < (w64 ((w64 ((w64 (bitShr .u64 (IntKind.u64.wrap (w64 (a + b2))) 1)) + m2)) - s11.1)))) && (decide ((w64 ((w64 ((w64 (bitShr .u64 (IntKind.u64.wrap (w64 (a + b2))) 1)) + m2)) - s11.1)) < b2))) then (Option.bind (rc f5 (w64 (bitShr .u64 (IntKind.u64.wrap (w64 (a + b2))) 1)) (w64 ((w64 ((w64 (bitShr .u64 (IntKind.u64.wrap (w64 (a + b2))) 1)) + m2)) - s11.1)) b2 cmp) fun v6=>some v6) else (some f5)) | .inr r=>r.elim))
noncomputable def q25:Nat → List SRequest → Int → Int → Int → (SRequest → SRequest → Option Int) → Option (List SRequest)
 | 0=>fun _ _ _ _ _=>none
 | fu + 1=>q61 (q25 fu)
noncomputable def q423 (n2:Int) (cmp:SRequest → SRequest → Option Int) (s:Int × Int × List SRequest):Option ((Int × Int × List SRequest) ⊕ ((Int × Int × List SRequest) ⊕ Empty)):=
 bif (decide (s.2.1 ≤ n2)) then (Option.bind (q82 s.2.2 s.1 s.2.1 cmp) fun v=>some (.inl (s.2.1,w64 (s.2.1 + 20),v))) else (some (.inr (.inl (s.1,s.2.1,s.2.2))))
noncomputable def q108 (n2:Int) (cmp:SRequest → SRequest → Option Int) (s3:Int × List SRequest) (s4:Int × Int × List SRequest):Option ((Int × Int × List SRequest) ⊕ ((Int × Int × List SRequest) ⊕ Empty)):=
 bif (decide (s4.2.1 ≤ n2)) then (Option.bind (q25 64 s4.2.2 s4.1 (w64 (s4.1 + s3.1)) s4.2.1 cmp) fun v3=>some (.inl (s4.2.1,w64 (s4.2.1 + (w64 (2 * s3.1))),v3))) else (some (.inr (.inl (s4.1,s4.2.1,s4.2.2))))
noncomputable def q107 (n2:Int) (cmp:SRequest → SRequest → Option Int) (s3:Int × List SRequest):Option ((Int × List SRequest) ⊕ ((Int × List SRequest) ⊕ Empty)):=
 bif (decide (s3.1 < n2)) then (Option.bind (loopM (q108 n2 cmp s3) (0,w64 (2 * s3.1),s3.2)) fun (t:(Int × Int × List SRequest) ⊕ Empty)=>match t with | .inl s5=>(bif (decide ((w64 (s5.1 + s3.1)) < n2)) then (Option.bind (q25 64 s5.2.2 s5.1 (w64 (s5.1 + s3.1)) n2 cmp) fun v4=>some (.inl (w64 (s3.1 * 2),v4))) else (some (.inl (w64 (s3.1 * 2),s5.2.2)))) | .inr r=>r.elim) else (some (.inr (.inl (s3.1,s3.2))))
noncomputable def q79 (data:List SRequest) (n2:Int) (cmp:SRequest → SRequest → Option Int):Option (List SRequest):=
 Option.bind (loopM (q423 n2 cmp) (0,20,data)) fun (t:(Int × Int × List SRequest) ⊕ Empty)=>match t with | .inl s2=>(Option.bind (q82 s2.2.2 s2.1 n2 cmp) fun v2=>Option.bind (loopM (q107 n2 cmp) (20,v2)) fun (t:(Int × List SRequest) ⊕ Empty)=>match t with | .inl s6=>(some s6.2) | .inr r=>r.elim) | .inr r=>r.elim
noncomputable def q71 (x:List SRequest) (cmp:SRequest → SRequest → Option Int):Option (List SRequest):=
 Option.bind (q79 x (x.length:Int) cmp) fun v=>some v
noncomputable def q45 (a:SRequest) (b2:SRequest):Option Int:=
 some (w64 (b2.Priority - a.Priority))
noncomputable def q332 (s:Sarbiter_span) (t2:Int):Option Sarbiter_span:=
 some (⟨s.low,maxI s.low (minI s.high t2),s.source⟩:Sarbiter_span)
noncomputable def q319 (s:Sarbiter_span) (t2:Int):Option Sarbiter_span:=
 some (⟨minI s.high (maxI s.low t2),s.high,s.source⟩:Sarbiter_span)
noncomputable def q317 (s:Sarbiter_span) (t2:Int):Option Sarbiter_span:=
 Option.bind (q38 t2 s.low s.high) fun v=>some (⟨v,v,s.source⟩:Sarbiter_span)
noncomputable def q211 (s:Sarbiter_span) (r2:SRequest):Option (Bool × Sarbiter_span):=
 Option.bind (bif (r2.Kind == 1) then (Option.bind (q332 s r2.Torque) fun v=>some v) else (bif (r2.Kind == 2) then (Option.bind (q319 s r2.Torque) fun v2=>some v2) else (bif (r2.Kind == 3) then (Option.bind (q317 s r2.Torque) fun v3=>some v3) else (some s)))) fun (f2:Sarbiter_span)=>Option.bind (bif (f2.low != s.low) then (some r2.Source) else (some f2.source)) fun (f3:Int)=>bif (f2.low != s.low) then (some (true,(⟨f2.low,f2.high,f3⟩:Sarbiter_span))) else (some ((f2.high != s.high),(⟨f2.low,f2.high,f3⟩:Sarbiter_span)))
noncomputable def q407 (s:List Int):Option (List Int):=
 sortIM s
noncomputable def q335 (s:List Int):Option (List Int):=
 compactM s
noncomputable def q281 (_:Int) (x:SRequest) (s:List Int × Sarbiter_span):Option (Fl (List Int × Sarbiter_span) Empty):=
 Option.bind (q211 s.2 x) fun r2=>bif r2.1 then (Option.bind (appendM s.1 ([x.Source]:List Int)) fun l2=>some (.next (l2,r2.2))) else (some (.next (s.1,r2.2)))
noncomputable def q363 (l:List SRequest) (low:Int) (high:Int):Option (Sarbiter_span × List Int):=
 Option.bind (q285 l) fun v=>Option.bind (q71 v q45) fun v2=>Option.bind (rangeM v2 (q281) (([]:List Int),(⟨low,high,(-1)⟩:Sarbiter_span))) fun (t:(List Int × Sarbiter_span) ⊕ Empty)=>match t with | .inl s2=>(Option.bind (q407 s2.1) fun v3=>Option.bind (Option.bind (q335 v3) fun v4=>some (v4,s2.2)) fun (s3:List Int × Sarbiter_span)=>some (s3.2,s3.1)) | .inr r=>r.elim
noncomputable def q292 (g:SGrant) (l:List SRequest) (low:Int) (high:Int) (up:Int) (down:Int):Option (SGrant × Int):=
 Option.bind (q98 g.Torque) fun v=>bif (((!v) || (decide (g.Source < (-1)))) || (decide (g.Source > 15))) then (some ((⟨0,0⟩:SGrant),1)) else (Option.bind (q402 l low high) fun v2=>bif (v2 != 0) then (some ((⟨0,0⟩:SGrant),v2)) else (bif ((((decide (up < 0)) || (decide (up > 20000))) || (decide (down < 0))) || (decide (down > 20000))) then (some ((⟨0,0⟩:SGrant),2)) else (Option.bind (q363 l low high) fun r2=>some ((⟨maxI (minI (minI (maxI r2.1.low (w64 (g.Torque - down))) (w64 (g.Torque + up))) r2.1.high) low,r2.1.source⟩:SGrant),0))))
noncomputable def q22 (s:Scontrol_step) (e2:Int):Option Scontrol_step:=
 bif (s.fail == 0) then (some (⟨s.t,s.e,s.b,s.c,s.i,s.wanted,s.charge,s.fired,s.late,s.pattern,s.time,s.out,e2⟩:Scontrol_step)) else (some s)
noncomputable def q212 (s:Scontrol_step):Option Scontrol_step:=
 Option.bind (Option.bind (q490 s.c.Pedal s.i.Pedal1 s.i.Pedal2) fun r2=>some (r2.2,r2.1)) fun (s2:Int × SPedal)=>Option.bind (q22 (⟨s.t,s.e,s.b,(⟨s2.2,s.c.Idle,s.c.Knock,s.c.Probe,s.c.Film,s.c.Grant⟩:SControls),s.i,s.wanted,s.charge,s.fired,s.late,s.pattern,s.time,s.out,s.fail⟩:Scontrol_step) s2.1) fun v=>Option.bind (q492 v.t v.c.Pedal.Value v.i.Speed) fun r3=>Option.bind (q22 v r3.2) fun v2=>Option.bind (q459 v2.c.Pedal.Value v2.i.Speed v2.i.Coolant) fun v3=>Option.bind (bif v3 then (Option.bind (Option.bind (q389 v2.i.Coolant) fun v4=>Option.bind (q250 v2.c.Idle v2.t.Idle v4 v2.i.Speed) fun r4=>some (r4.2.2,r4.2.1,r4.1.Sum)) fun (s3:Int × Int × Int)=>Option.bind (q22 (⟨v2.t,v2.e,v2.b,(⟨v2.c.Pedal,(⟨s3.2.2⟩:SIntegral),v2.c.Knock,v2.c.Probe,v2.c.Film,v2.c.Grant⟩:SControls),v2.i,v2.wanted,v2.charge,v2.fired,v2.late,v2.pattern,v2.time,v2.out,v2.fail⟩:Scontrol_step) s3.1) fun v5=>Option.bind (q38 s3.2.1 (-5000) 10000) fun v6=>Option.bind (appendM ([(⟨0,3,r3.1,0⟩:SRequest)]:List SRequest) ([(⟨1,2,v6,1⟩:SRequest)]:List SRequest)) fun l=>some (v5,l)) else (some ((⟨v2.t,v2.e,v2.b,(⟨v2.c.Pedal,(⟨0⟩:SIntegral),v2.c.Knock,v2.c.Probe,v2.c.Film,v2.c.Grant⟩:SControls),v2.i,v2.wanted,v2.charge,v2.fired,v2.late,v2.pattern,v2.time,v2.out,v2.fail⟩:Scontrol_step),([(⟨0,3,r3.1,0⟩:SRequest)]:List SRequest)))) fun (s4:Scontrol_step × List SRequest)=>Option.bind (Option.bind (appendM s4.2 s4.1.i.Requests) fun l2=>Option.bind (q292 (⟨s4.1.c.Grant.Torque,s4.1.c.Grant.Source⟩:SGrant) l2 (-5000) 10000 300 1000) fun r5=>some (r5.2,r5.1,l2)) fun (s5:Int × SGrant × List SRequest)=>Option.bind (q22 (⟨(⟨(⟨s4.1.t.Air.X,s4.1.t.Air.Y,s4.1.t.Air.Z⟩:SMap),(⟨s4.1.t.Spark.X,s4.1.t.Spark.Y,s4.1.t.Spark.Z⟩:SMap),(⟨s4.1.t.Torque.X,s4.1.t.Torque.Y,s4.1.t.Torque.Z⟩:SMap),(⟨s4.1.t.Wish.X,s4.1.t.Wish.Y,s4.1.t.Wish.Z⟩:SMap),(⟨s4.1.t.AirTemp.X,s4.1.t.AirTemp.Y⟩:SCurve),(⟨s4.1.t.Dwell.X,s4.1.t.Dwell.Y⟩:SCurve),(⟨s4.1.t.Dead.X,s4.1.t.Dead.Y⟩:SCurve),(⟨s4.1.t.Efficiency.X,s4.1.t.Efficiency.Y⟩:SCurve),(⟨s4.1.t.Idle.P,s4.1.t.Idle.I,s4.1.t.Idle.Low,s4.1.t.Idle.High⟩:SGain)⟩:STables),(⟨s4.1.e.Order,s4.1.e.First⟩:SEngine),(⟨s4.1.b.Inertia,s4.1.b.Friction,s4.1.b.Volume,s4.1.b.Throttle,s4.1.b.Film,s4.1.b.Evaporate,s4.1.b.Delay⟩:SBody),(⟨(⟨s4.1.c.Pedal.Value,s4.1.c.Pedal.Differ,s4.1.c.Pedal.Fault⟩:SPedal),(⟨s4.1.c.Idle.Sum⟩:SIntegral),s4.1.c.Knock,(⟨s4.1.c.Probe.Active,s4.1.c.Probe.Rich,s4.1.c.Probe.Factor,s4.1.c.Probe.Wait,s4.1.c.Probe.Cells⟩:SProbe),s4.1.c.Film,s5.2.1⟩:SControls),(⟨s4.1.i.Pedal1,s4.1.i.Pedal2,s4.1.i.Speed,s4.1.i.Pressure,s4.1.i.AirTemp,s4.1.i.Voltage,s4.1.i.Lambda,s4.1.i.Coolant,s4.1.i.Intensity,s4.1.i.Requests⟩:SInputs),s4.1.wanted,s4.1.charge,s4.1.fired,s4.1.late,s4.1.pattern,s4.1.time,(⟨s4.1.out.Throttle,s4.1.out.Fires,s4.1.out.Torque⟩:SOutputs),s4.1.fail⟩:Scontrol_step) s5.1) fun v7=>some (⟨v7.t,v7.e,v7.b,v7.c,v7.i,maxI 0 v7.c.Grant.Torque,v7.charge,v7.fired,v7.late,v7.pattern,v7.time,v7.out,v7.fail⟩:Scontrol_step)
noncomputable def q237 (i:Int) (c:STables) (c2:Int) (c3:Int) (c4:Int):Option Bool:=
 Option.bind (q137 c.Torque c2 (w64 (c3 + i))) fun v=>some (decide (v ≥ c4))
noncomputable def q219 (t2:STables) (speed:Int) (torque:Int):Option (Int × Int):=
 Option.bind (q286 t2) fun v=>bif (!v) then (some (0,1)) else (Option.bind (q50 speed 0 12000) fun v2=>bif (!v2) then (some (0,2)) else (Option.bind (getI t2.Torque.Y 0) fun x=>Option.bind (getI t2.Torque.Y (w64 ((t2.Torque.Y.length:Int) - 1))) fun x2=>Option.bind (q66 (w64 ((w64 (x2 - x)) + 1)) (fun x0=>q237 x0 t2 speed x torque)) fun v3=>bif (v3 == (w64 ((w64 (x2 - x)) + 1))) then (some (0,7)) else (some (w64 (x + v3),0))))
noncomputable def q360 (x:Int) (e2:Int) (other:Int):Option Int:=
 bif (e2 != 0) then (some other) else (some x)
noncomputable def q239 (i:Int) (c:SCurve) (c2:Int):Option Bool:=
 Option.bind (getI c.X i) fun x=>some (decide (x > c2))
noncomputable def q401 (c:SCurve) (x:Int):Option Int:=
 Option.bind (q66 (c.X.length:Int) (fun x0=>q239 x0 c x)) fun v=>some (w64 (v - 1))
noncomputable def q465 (c:SCurve) (x:Int):Option Int:=
 Option.bind (getI c.X 0) fun x2=>bif (decide (x ≤ x2)) then (Option.bind (getI c.Y 0) fun x3=>some x3) else (Option.bind (getI c.X (w64 ((c.X.length:Int) - 1))) fun x4=>bif (decide (x ≥ x4)) then (Option.bind (getI c.Y (w64 ((c.X.length:Int) - 1))) fun x5=>some x5) else (Option.bind (q401 c x) fun v=>Option.bind (getI c.Y v) fun x6=>Option.bind (getI c.X v) fun x7=>Option.bind (getI c.Y (w64 (v + 1))) fun x8=>Option.bind (getI c.X (w64 (v + 1))) fun x9=>Option.bind (q261 (w64 ((w64 (x - x7)) * (w64 (x8 - x6)))) (w64 (x9 - x7))) fun v2=>some (w64 (x6 + v2))))
noncomputable def q263 (c:SCurve) (x:Int):Option Int:=
 Option.bind (q90 c) fun v=>bif (!v) then (some 0) else (Option.bind (q465 c x) fun v2=>some v2)
noncomputable def q430 (t2:STables) (speed:Int) (pressure:Int) (temperature:Int):Option Int:=
 Option.bind (q137 t2.Air speed pressure) fun v=>Option.bind (q263 t2.AirTemp temperature) fun v2=>Option.bind (q261 (w64 (v * v2)) 1000) fun v3=>some (minI 1048576 v3)
noncomputable def q193 (k:Int) (c:STables) (c2:Int) (c3:Int) (c4:Int):Option Bool:=
 Option.bind (q430 c c2 (w64 (50 + k)) c3) fun v=>some (decide (v ≥ c4))
noncomputable def q349 (t2:STables) (speed:Int) (want:Int) (temperature:Int):Option (Int × Int):=
 Option.bind (q417 t2) fun v=>bif (!v) then (some (0,1)) else (Option.bind (q53 speed 0 12000) fun v2=>Option.bind (bif (!v2) then (some true) else (Option.bind (q53 want 0 1048576) fun v3=>some (!v3))) fun b2=>Option.bind (bif b2 then (some true) else (Option.bind (q53 temperature (-40) 150) fun v4=>some (!v4))) fun b3=>bif b3 then (some (0,2)) else (Option.bind (q66 2951 (fun x0=>q193 x0 t2 speed temperature want)) fun v5=>bif (decide ((w64 (50 + v5)) > 3000)) then (some (0,7)) else (some (w64 (50 + v5),0))))
noncomputable def q451 (rpm:Int):Option (Int × Int):=
 bif ((decide (rpm < 0)) || (decide (rpm > 20000))) then (some (0,2)) else (Option.bind (q355 (w64 ((w64 (rpm * 65536)) * 23040)) 60000000 2) fun r2=>some (r2.1,r2.2))
noncomputable def q615 (speed:Int) (pressure:Int):Option (Int × Int):=
 Option.bind (q53 speed 0 12000) fun v=>Option.bind (bif (!v) then (some true) else (Option.bind (q53 pressure 50 3000) fun v2=>some (!v2))) fun b2=>bif b2 then (some (0,2)) else (Option.bind (q451 speed) fun r2=>some (w64 (Int.tdiv (w64 (r2.1 * pressure)) 1024),r2.2))
noncomputable def q196 (k:Int) (c:SBody) (c2:Int) (c3:Int):Option Bool:=
 some (decide ((w64 (Int.tdiv (w64 ((w64 (c.Throttle * k)) * (w64 (1013 - c2)))) 1000)) ≥ c3))
noncomputable def q359 (b2:SBody) (flow:Int) (pressure:Int):Option (Int × Int):=
 Option.bind (q393 b2) fun v=>bif (!v) then (some (0,1)) else (Option.bind (q53 flow 0 1099511627776) fun v2=>Option.bind (bif (!v2) then (some true) else (Option.bind (q53 pressure 50 1013) fun v3=>some (!v3))) fun b3=>bif b3 then (some (0,2)) else (Option.bind (q66 1001 (fun x0=>q196 x0 b2 pressure flow)) fun v4=>bif (decide (v4 > 1000)) then (some (0,7)) else (some (v4,0))))
noncomputable def q148 (s:Scontrol_step):Option Scontrol_step:=
 Option.bind (q219 s.t s.i.Speed s.wanted) fun r2=>Option.bind (q360 r2.1 r2.2 1048576) fun v=>Option.bind (q349 s.t s.i.Speed (maxI 0 v) s.i.AirTemp) fun r3=>Option.bind (q360 r3.1 r3.2 3000) fun v2=>Option.bind (q615 s.i.Speed (minI 1012 v2)) fun r4=>Option.bind (q22 s r4.2) fun v3=>Option.bind (q359 v3.b r4.1 (minI 1012 v2)) fun r5=>Option.bind (q360 r5.1 r5.2 1000) fun v4=>some (⟨v3.t,v3.e,v3.b,v3.c,v3.i,v3.wanted,v3.charge,v3.fired,v3.late,v3.pattern,v3.time,(⟨v4,v3.out.Fires,v3.out.Torque⟩:SOutputs),v3.fail⟩:Scontrol_step)
noncomputable def q374 (cylinders:Int) (fired:Int) (cycle:Int) (i:Int) (f2:List Bool):Option (Fl (List Bool) Empty):=
 Option.bind (remM (w64 (i + cycle)) cylinders) fun q=>Option.bind (quoM .i64 (w64 ((w64 (q + 1)) * fired)) cylinders) fun q2=>Option.bind (quoM .i64 (w64 (q * fired)) cylinders) fun q3=>Option.bind (getI f2 i) fun _=>Option.bind (setM f2 i (decide (q2 > q3))) fun l2=>some (.next l2)
noncomputable def q367 (cylinders:Int) (fired:Int) (cycle:Int):Option (List Bool × Int):=
 Option.bind (q50 cylinders 1 8) fun v=>Option.bind (bif (!v) then (some true) else (Option.bind (q50 fired 0 cylinders) fun v2=>some (!v2))) fun b2=>Option.bind (bif b2 then (some true) else (Option.bind (q50 cycle 0 1099511627776) fun v3=>some (!v3))) fun b3=>bif b3 then (some (([]:List Bool),2)) else (Option.bind (makeM cylinders false) fun l=>Option.bind (rangeN (l.length:Int) (q374 cylinders fired cycle) l) fun (t:(List Bool) ⊕ Empty)=>match t with | .inl f3=>(some (f3,0)) | .inr r=>r.elim)
noncomputable def q502 (t2:STables) (speed:Int) (pressure:Int) (temperature:Int):Option (Int × Int):=
 Option.bind (q417 t2) fun v=>bif (!v) then (some (0,1)) else (Option.bind (q53 speed 0 12000) fun v2=>Option.bind (bif (!v2) then (some true) else (Option.bind (q53 pressure 50 3000) fun v3=>some (!v3))) fun b2=>Option.bind (bif b2 then (some true) else (Option.bind (q53 temperature (-40) 150) fun v4=>some (!v4))) fun b3=>bif b3 then (some (0,2)) else (Option.bind (q430 t2 speed pressure temperature) fun v5=>some (v5,0)))
noncomputable def q304 (t2:STables) (speed:Int) (charge:Int):Option (Int × Int):=
 Option.bind (q286 t2) fun v=>bif (!v) then (some (0,1)) else (Option.bind (q50 speed 0 12000) fun v2=>Option.bind (bif (!v2) then (some true) else (Option.bind (q50 charge 0 1048576) fun v3=>some (!v3))) fun b2=>bif b2 then (some (0,2)) else (Option.bind (q137 t2.Torque speed charge) fun v4=>some (v4,0)))
noncomputable def q168 (t2:STables) (optimal:Int) (late:Int) (fired:Int) (cylinders:Int):Option Int:=
 Option.bind (q263 t2.Efficiency late) fun v=>Option.bind (quoM .i64 (w64 ((w64 (optimal * v)) * fired)) (w64 (1000 * cylinders))) fun q=>some q
noncomputable def q194 (late:Int) (c:STables) (c2:Int) (c3:Int) (c4:Int) (c5:Int):Option Bool:=
 Option.bind (q168 c c2 late c3 c4) fun v=>some (decide (v ≤ c5))
noncomputable def q242 (t2:STables) (most:Int) (cylinders:Int) (r2:Int × Int) (f2:Int):Option (Int ⊕ (Int ⊕ Empty)):=
 bif (decide (f2 > 0)) then (Option.bind (q168 t2 r2.1 2560 f2 cylinders) fun v2=>bif (decide (v2 ≤ most)) then (some (.inr (.inl f2))) else (some (.inl (w64 (f2 - 1))))) else (some (.inr (.inl f2)))
noncomputable def q204 (t2:STables) (speed:Int) (charge:Int) (most:Int) (cylinders:Int):Option (Int × Int × Int):=
 Option.bind (q304 t2 speed charge) fun r2=>bif (r2.2 != 0) then (some (0,0,r2.2)) else (Option.bind (q50 cylinders 1 8) fun v=>bif ((!v) || (decide (most < 0))) then (some (0,0,2)) else (Option.bind (loopM (q242 t2 most cylinders r2) cylinders) fun (t:Int ⊕ Empty)=>match t with | .inl f3=>(Option.bind (q66 2560 (fun x0=>q194 x0 t2 r2.1 f3 cylinders most)) fun v3=>some (f3,v3,0)) | .inr r=>r.elim))
noncomputable def q403 (t2:STables) (speed:Int) (charge:Int) (late:Int) (fired:Int) (cylinders:Int):Option (Int × Int):=
 Option.bind (q304 t2 speed charge) fun r2=>bif (r2.2 != 0) then (some (0,r2.2)) else (Option.bind (q50 late 0 2560) fun v=>Option.bind (bif (!v) then (some true) else (Option.bind (q50 cylinders 1 8) fun v2=>some (!v2))) fun b2=>Option.bind (bif b2 then (some true) else (Option.bind (q50 fired 0 cylinders) fun v3=>some (!v3))) fun b3=>bif b3 then (some (0,2)) else (Option.bind (q168 t2 r2.1 late fired cylinders) fun v4=>some (v4,0)))
noncomputable def q243 (s:Scontrol_step):Option Scontrol_step:=
 Option.bind (Option.bind (q502 s.t s.i.Speed s.i.Pressure s.i.AirTemp) fun r2=>some (r2.2,r2.1)) fun (s2:Int × Int)=>Option.bind (q22 (⟨s.t,s.e,s.b,s.c,s.i,s.wanted,s2.2,s.fired,s.late,s.pattern,s.time,s.out,s.fail⟩:Scontrol_step) s2.1) fun v=>Option.bind (Option.bind (q204 v.t v.i.Speed v.charge v.wanted (s.e.Order.length:Int)) fun r3=>some (r3.2.2,r3.1,r3.2.1)) fun (s3:Int × Int × Int)=>Option.bind (q22 (⟨v.t,v.e,v.b,v.c,v.i,v.wanted,v.charge,s3.2.1,s3.2.2,v.pattern,v.time,v.out,v.fail⟩:Scontrol_step) s3.1) fun v2=>Option.bind (q367 (s.e.Order.length:Int) v2.fired 0) fun r4=>Option.bind (q22 (⟨v2.t,v2.e,v2.b,v2.c,v2.i,v2.wanted,v2.charge,v2.fired,v2.late,r4.1,v2.time,v2.out,v2.fail⟩:Scontrol_step) r4.2) fun v3=>Option.bind (Option.bind (q403 v3.t v3.i.Speed v3.charge v3.late v3.fired (s.e.Order.length:Int)) fun r5=>some (r5.2,r5.1)) fun (s4:Int × Int)=>Option.bind (q22 (⟨v3.t,v3.e,v3.b,v3.c,v3.i,v3.wanted,v3.charge,v3.fired,v3.late,v3.pattern,v3.time,(⟨v3.out.Throttle,v3.out.Fires,s4.2⟩:SOutputs),v3.fail⟩:Scontrol_step) s4.1) fun v4=>some v4
noncomputable def fuel_in (x:Int) (low:Int) (high:Int):Option Bool:=
 some ((decide (x ≥ low)) && (decide (x ≤ high)))
noncomputable def q475 (b2:SBody):Option Bool:=
 Option.bind (fuel_in b2.Film 0 1023) fun v=>Option.bind (bif v then (Option.bind (fuel_in b2.Evaporate 0 1024) fun v2=>some v2) else (some false)) fun b3=>some b3
noncomputable def q413 (b2:SBody) (film:Int) (inject:Int):Option (Int × Int):=
 some (w64 ((w64 (inject - (w64 (Int.tdiv (w64 (inject * b2.Film)) 1024)))) + (w64 (Int.tdiv (w64 (film * b2.Evaporate)) 1024))),w64 ((w64 (film + (w64 (Int.tdiv (w64 (inject * b2.Film)) 1024)))) - (w64 (Int.tdiv (w64 (film * b2.Evaporate)) 1024))))
noncomputable def q468 (b2:SBody) (film:Int) (inject:Int):Option (Int × Int × Int):=
 Option.bind (q475 b2) fun v=>bif (!v) then (some (0,0,1)) else (Option.bind (fuel_in film 0 1073741824) fun v2=>Option.bind (bif (!v2) then (some true) else (Option.bind (fuel_in inject 0 1048576) fun v3=>some (!v3))) fun b3=>bif b3 then (some (0,0,2)) else (Option.bind (q413 b2 film inject) fun r2=>bif (decide (r2.2 > 1073741824)) then (some (0,0,9)) else (some (r2.1,r2.2,0))))
noncomputable def q216 (speed:Int) (charge:Int):Option Bool:=
 Option.bind (q80 speed 0 12000) fun v=>Option.bind (bif v then (Option.bind (q80 charge 0 1048576) fun v2=>some v2) else (some false)) fun b2=>some b2
noncomputable def q352 (s:List SCell):Option (List SCell):=
 Option.bind (appendM ([]:List SCell) s) fun l=>some l
noncomputable def q452 (p2:SProbe):Option SProbe:=
 Option.bind (q352 p2.Cells) fun v=>some (⟨p2.Active,p2.Rich,p2.Factor,p2.Wait,v⟩:SProbe)
noncomputable def q427 (p2:SProbe) (millivolts:Int) (speed:Int) (charge:Int):Option (SProbe × Int):=
 Option.bind (q217 p2) fun v=>bif (!v) then (some ((⟨false,false,0,0,([]:List SCell)⟩:SProbe),1)) else (Option.bind (q216 speed charge) fun v2=>Option.bind (bif (!v2) then (some true) else (Option.bind (q80 millivolts 0 20000) fun v3=>some (!v3))) fun b2=>bif b2 then (some ((⟨false,false,0,0,([]:List SCell)⟩:SProbe),2)) else (Option.bind (q452 p2) fun v4=>bif (!v4.Active) then (some ((⟨((decide (millivolts < 300)) || (decide (millivolts > 600))),decide (millivolts > 600),v4.Factor,v4.Wait,v4.Cells⟩:SProbe),0)) else (Option.bind (bif (decide (millivolts > 500)) then (some true) else (some ((decide (millivolts ≥ 400)) && v4.Rich))) fun b3=>Option.bind (bif (!(b3 == v4.Rich)) then (some (15,0)) else (some (1,minI 1000 (w64 (v4.Wait + 1))))) fun (s:Int × Int)=>Option.bind (bif b3 then (some (w64 (0 - s.1))) else (some s.1)) fun (v_by:Int)=>Option.bind (q38 (w64 (v4.Factor + v_by)) 750 1250) fun v5=>some ((⟨v4.Active,b3,v5,s.2,v4.Cells⟩:SProbe),0))))
noncomputable def q509 (x:Int) (_:Int) (x2:Int) (n2:Int):Option (Fl Int Empty):=
 bif (decide (x ≥ x2)) then (some (.next (w64 (n2 + 1)))) else (some (.next n2))
noncomputable def q325 (x:Int) (thresholds:List Int):Option Int:=
 Option.bind (rangeM thresholds (q509 x) 0) fun (t:Int ⊕ Empty)=>match t with | .inl n3=>(some n3) | .inr r=>r.elim
noncomputable def q515 (speed:Int) (charge:Int):Option Int:=
 Option.bind (q216 speed charge) fun v=>bif (!v) then (some (-1)) else (Option.bind (q325 speed ([1500,3500]:List Int)) fun v2=>Option.bind (q325 charge ([150000,350000]:List Int)) fun v3=>some (w64 ((w64 (3 * v2)) + v3)))
noncomputable def q364 (p2:SProbe) (speed:Int) (charge:Int):Option (Int × Int):=
 Option.bind (q217 p2) fun v=>bif (!v) then (some (0,1)) else (Option.bind (q216 speed charge) fun v2=>bif (!v2) then (some (0,2)) else (Option.bind (q515 speed charge) fun v3=>Option.bind (getI p2.Cells v3) fun x=>Option.bind (q38 (w64 (p2.Factor + x.Value)) 700 1300) fun v4=>some (v4,0)))
noncomputable def q546 (charge:Int) (factor:Int):Option (Int × Int):=
 Option.bind (fuel_in charge 0 1048576) fun v=>Option.bind (bif (!v) then (some true) else (Option.bind (fuel_in factor 500 2000) fun v2=>some (!v2))) fun b2=>bif b2 then (some (0,2)) else (Option.bind (quoM .i64 (w64 (charge * 10000)) (w64 (factor * 147))) fun q=>some (q,0))
noncomputable def q514 (cmp:Int → Option Int) (s:Int × Int):Option ((Int × Int) ⊕ ((Int × Int) ⊕ Empty)):=
 bif (decide (s.1 < s.2)) then (Option.bind (cmp (w64 (bitShr .u64 (IntKind.u64.wrap (w64 (s.1 + s.2))) 1))) fun v=>bif (decide (v > 0)) then (some (.inl (w64 ((w64 (bitShr .u64 (IntKind.u64.wrap (w64 (s.1 + s.2))) 1)) + 1),s.2))) else (some (.inl (s.1,w64 (bitShr .u64 (IntKind.u64.wrap (w64 (s.1 + s.2))) 1))))) else (some (.inr (.inl (s.1,s.2))))
noncomputable def q471 (n2:Int) (cmp:Int → Option Int):Option (Int × Bool):=
 Option.bind (loopM (q514 cmp) (0,n2)) fun (t:(Int × Int) ⊕ Empty)=>match t with | .inl s2=>(Option.bind (bif (decide (s2.1 < n2)) then (Option.bind (cmp s2.1) fun v2=>some (v2 == 0)) else (some false)) fun b2=>some (s2.1,b2)) | .inr r=>r.elim
noncomputable def q327 (i:Int) (c:SBody) (c2:Int) (c3:Int):Option Int:=
 Option.bind (q413 c c2 i) fun r2=>some (w64 (c3 - r2.1))
noncomputable def q414 (b2:SBody) (film:Int) (mass:Int):Option (Int × Int × Int):=
 Option.bind (q475 b2) fun v=>bif (!v) then (some (0,0,1)) else (Option.bind (fuel_in film 0 1073741824) fun v2=>Option.bind (bif (!v2) then (some true) else (Option.bind (fuel_in mass 0 1048576) fun v3=>some (!v3))) fun b3=>bif b3 then (some (0,0,2)) else (Option.bind (q471 1048577 (fun x0=>q327 x0 b2 film mass)) fun r2=>bif (decide (r2.1 > 1048576)) then (some (0,0,9)) else (Option.bind (q413 b2 film r2.1) fun r3=>bif (decide (r3.2 > 1073741824)) then (some (0,0,9)) else (some (r2.1,r3.2,0)))))
noncomputable def q466 (y:Int):Option Bool:=
 Option.bind (fuel_in y 0 10000) fun v=>some (!v)
noncomputable def q544 (t2:STables) (amount:Int) (millivolts:Int):Option (Int × Int):=
 Option.bind (q90 t2.Dead) fun v=>Option.bind (bif (!v) then (some true) else (Option.bind (q23 t2.Dead.Y q466) fun v2=>some v2)) fun b2=>bif b2 then (some (0,1)) else (Option.bind (fuel_in amount 0 1048576) fun v3=>Option.bind (bif (!v3) then (some true) else (Option.bind (fuel_in millivolts 0 20000) fun v4=>some (!v4))) fun b3=>bif b3 then (some (0,2)) else (Option.bind (q263 t2.Dead millivolts) fun v5=>some (v5,0)))
noncomputable def q467 (t2:STables) (mass:Int) (millivolts:Int):Option (Int × Int):=
 Option.bind (q544 t2 mass millivolts) fun r2=>bif ((r2.2 != 0) || (mass == 0)) then (some (0,r2.2)) else (Option.bind (q355 mass 3 2) fun r3=>some (w64 (r2.1 + r3.1),r3.2))
noncomputable def q276 (s:Scontrol_step):Option Scontrol_step:=
 Option.bind (Option.bind (q427 s.c.Probe s.i.Lambda s.i.Speed s.charge) fun r2=>some (r2.2,r2.1)) fun (s2:Int × SProbe)=>Option.bind (q22 (⟨s.t,s.e,s.b,(⟨s.c.Pedal,s.c.Idle,s.c.Knock,s2.2,s.c.Film,s.c.Grant⟩:SControls),s.i,s.wanted,s.charge,s.fired,s.late,s.pattern,s.time,s.out,s.fail⟩:Scontrol_step) s2.1) fun v=>Option.bind (q364 v.c.Probe v.i.Speed v.charge) fun r3=>Option.bind (q22 v r3.2) fun v2=>Option.bind (q546 v2.charge 1000) fun r4=>Option.bind (q22 v2 r4.2) fun v3=>Option.bind (q414 v3.b v3.c.Film (minI 1048576 (w64 (Int.tdiv (w64 (r4.1 * r3.1)) 1000)))) fun r5=>Option.bind (bif ((v3.fired == 0) || (r5.2.2 != 0)) then (Option.bind (q468 v3.b v3.c.Film 0) fun r6=>Option.bind (q22 v3 r6.2.2) fun v4=>some (0,r6.2.1,v4)) else (some (r5.1,r5.2.1,v3))) fun (s3:Int × Int × Scontrol_step)=>bif (decide (s3.1 > 0)) then (Option.bind (q467 (⟨(⟨s3.2.2.t.Air.X,s3.2.2.t.Air.Y,s3.2.2.t.Air.Z⟩:SMap),(⟨s3.2.2.t.Spark.X,s3.2.2.t.Spark.Y,s3.2.2.t.Spark.Z⟩:SMap),(⟨s3.2.2.t.Torque.X,s3.2.2.t.Torque.Y,s3.2.2.t.Torque.Z⟩:SMap),(⟨s3.2.2.t.Wish.X,s3.2.2.t.Wish.Y,s3.2.2.t.Wish.Z⟩:SMap),(⟨s3.2.2.t.AirTemp.X,s3.2.2.t.AirTemp.Y⟩:SCurve),(⟨s3.2.2.t.Dwell.X,s3.2.2.t.Dwell.Y⟩:SCurve),(⟨s3.2.2.t.Dead.X,s3.2.2.t.Dead.Y⟩:SCurve),(⟨s3.2.2.t.Efficiency.X,s3.2.2.t.Efficiency.Y⟩:SCurve),(⟨s3.2.2.t.Idle.P,s3.2.2.t.Idle.I,s3.2.2.t.Idle.Low,s3.2.2.t.Idle.High⟩:SGain)⟩:STables) s3.1 s3.2.2.i.Voltage) fun r7=>Option.bind (q22 (⟨(⟨(⟨s3.2.2.t.Air.X,s3.2.2.t.Air.Y,s3.2.2.t.Air.Z⟩:SMap),(⟨s3.2.2.t.Spark.X,s3.2.2.t.Spark.Y,s3.2.2.t.Spark.Z⟩:SMap),(⟨s3.2.2.t.Torque.X,s3.2.2.t.Torque.Y,s3.2.2.t.Torque.Z⟩:SMap),(⟨s3.2.2.t.Wish.X,s3.2.2.t.Wish.Y,s3.2.2.t.Wish.Z⟩:SMap),(⟨s3.2.2.t.AirTemp.X,s3.2.2.t.AirTemp.Y⟩:SCurve),(⟨s3.2.2.t.Dwell.X,s3.2.2.t.Dwell.Y⟩:SCurve),(⟨s3.2.2.t.Dead.X,s3.2.2.t.Dead.Y⟩:SCurve),(⟨s3.2.2.t.Efficiency.X,s3.2.2.t.Efficiency.Y⟩:SCurve),(⟨s3.2.2.t.Idle.P,s3.2.2.t.Idle.I,s3.2.2.t.Idle.Low,s3.2.2.t.Idle.High⟩:SGain)⟩:STables),(⟨s3.2.2.e.Order,s3.2.2.e.First⟩:SEngine),(⟨s3.2.2.b.Inertia,s3.2.2.b.Friction,s3.2.2.b.Volume,s3.2.2.b.Throttle,s3.2.2.b.Film,s3.2.2.b.Evaporate,s3.2.2.b.Delay⟩:SBody),(⟨(⟨s3.2.2.c.Pedal.Value,s3.2.2.c.Pedal.Differ,s3.2.2.c.Pedal.Fault⟩:SPedal),(⟨s3.2.2.c.Idle.Sum⟩:SIntegral),s3.2.2.c.Knock,(⟨s3.2.2.c.Probe.Active,s3.2.2.c.Probe.Rich,s3.2.2.c.Probe.Factor,s3.2.2.c.Probe.Wait,s3.2.2.c.Probe.Cells⟩:SProbe),s3.2.1,(⟨s3.2.2.c.Grant.Torque,s3.2.2.c.Grant.Source⟩:SGrant)⟩:SControls),(⟨s3.2.2.i.Pedal1,s3.2.2.i.Pedal2,s3.2.2.i.Speed,s3.2.2.i.Pressure,s3.2.2.i.AirTemp,s3.2.2.i.Voltage,s3.2.2.i.Lambda,s3.2.2.i.Coolant,s3.2.2.i.Intensity,s3.2.2.i.Requests⟩:SInputs),s3.2.2.wanted,s3.2.2.charge,s3.2.2.fired,s3.2.2.late,s3.2.2.pattern,s3.2.2.time,(⟨s3.2.2.out.Throttle,s3.2.2.out.Fires,s3.2.2.out.Torque⟩:SOutputs),s3.2.2.fail⟩:Scontrol_step) r7.2) fun v5=>Option.bind (q38 r7.1 200 20000) fun v6=>some (⟨v5.t,v5.e,v5.b,v5.c,v5.i,v5.wanted,v5.charge,v5.fired,v5.late,v5.pattern,v6,v5.out,v5.fail⟩:Scontrol_step)) else (some (⟨(⟨(⟨s3.2.2.t.Air.X,s3.2.2.t.Air.Y,s3.2.2.t.Air.Z⟩:SMap),(⟨s3.2.2.t.Spark.X,s3.2.2.t.Spark.Y,s3.2.2.t.Spark.Z⟩:SMap),(⟨s3.2.2.t.Torque.X,s3.2.2.t.Torque.Y,s3.2.2.t.Torque.Z⟩:SMap),(⟨s3.2.2.t.Wish.X,s3.2.2.t.Wish.Y,s3.2.2.t.Wish.Z⟩:SMap),(⟨s3.2.2.t.AirTemp.X,s3.2.2.t.AirTemp.Y⟩:SCurve),(⟨s3.2.2.t.Dwell.X,s3.2.2.t.Dwell.Y⟩:SCurve),(⟨s3.2.2.t.Dead.X,s3.2.2.t.Dead.Y⟩:SCurve),(⟨s3.2.2.t.Efficiency.X,s3.2.2.t.Efficiency.Y⟩:SCurve),(⟨s3.2.2.t.Idle.P,s3.2.2.t.Idle.I,s3.2.2.t.Idle.Low,s3.2.2.t.Idle.High⟩:SGain)⟩:STables),(⟨s3.2.2.e.Order,s3.2.2.e.First⟩:SEngine),(⟨s3.2.2.b.Inertia,s3.2.2.b.Friction,s3.2.2.b.Volume,s3.2.2.b.Throttle,s3.2.2.b.Film,s3.2.2.b.Evaporate,s3.2.2.b.Delay⟩:SBody),(⟨(⟨s3.2.2.c.Pedal.Value,s3.2.2.c.Pedal.Differ,s3.2.2.c.Pedal.Fault⟩:SPedal),(⟨s3.2.2.c.Idle.Sum⟩:SIntegral),s3.2.2.c.Knock,(⟨s3.2.2.c.Probe.Active,s3.2.2.c.Probe.Rich,s3.2.2.c.Probe.Factor,s3.2.2.c.Probe.Wait,s3.2.2.c.Probe.Cells⟩:SProbe),s3.2.1,(⟨s3.2.2.c.Grant.Torque,s3.2.2.c.Grant.Source⟩:SGrant)⟩:SControls),(⟨s3.2.2.i.Pedal1,s3.2.2.i.Pedal2,s3.2.2.i.Speed,s3.2.2.i.Pressure,s3.2.2.i.AirTemp,s3.2.2.i.Voltage,s3.2.2.i.Lambda,s3.2.2.i.Coolant,s3.2.2.i.Intensity,s3.2.2.i.Requests⟩:SInputs),s3.2.2.wanted,s3.2.2.charge,s3.2.2.fired,s3.2.2.late,s3.2.2.pattern,s3.2.2.time,(⟨s3.2.2.out.Throttle,s3.2.2.out.Fires,s3.2.2.out.Torque⟩:SOutputs),s3.2.2.fail⟩:Scontrol_step))
noncomputable def q328 (k:SKnock):Option Bool:=
 Option.bind (q388 k) fun v=>some (!v)
noncomputable def q383 (n2:Int):Option Bool:=
 Option.bind (q339 n2) fun v=>some (!v)
noncomputable def q334 (s:List SKnock):Option (List SKnock):=
 Option.bind (appendM ([]:List SKnock) s) fun l=>some l
noncomputable def q433 (k:SKnock) (n2:Int):Option (SKnock × Bool):=
 bif (decide (n2 > (w64 ((w64 (3 * k.Noise)) + 40)))) then (some ((⟨minI (w64 (k.Retard + 96)) 960,k.Noise,0⟩:SKnock),true)) else (Option.bind (bif ((w64 (k.Quiet + 1)) == 100) then (some (maxI (w64 (k.Retard - 16)) 0,0)) else (some (k.Retard,w64 (k.Quiet + 1)))) fun (s:Int × Int)=>Option.bind (q261 (w64 (n2 - k.Noise)) 8) fun v=>some ((⟨s.1,w64 (k.Noise + v),s.2⟩:SKnock),false))
noncomputable def q529 (l:List SKnock) (intensities:List Int) (i:Int) (f2:List SKnock):Option (Fl (List SKnock) Empty):=
 Option.bind (Option.bind (getI l i) fun x=>Option.bind (getI intensities i) fun x2=>Option.bind (q433 x x2) fun r2=>Option.bind (getI f2 i) fun _=>Option.bind (setM f2 i r2.1) fun l2=>some l2) fun (f3:List SKnock)=>some (.next f3)
noncomputable def q547 (l:List SKnock) (intensities:List Int):Option (List SKnock × Int):=
 Option.bind (bif (((decide ((l.length:Int) < 1)) || (decide ((l.length:Int) > 8))) || ((intensities.length:Int) != (l.length:Int))) then (some true) else (Option.bind (q62 l q328) fun v=>some v)) fun b2=>bif b2 then (some (([]:List SKnock),1)) else (Option.bind (q23 intensities q383) fun v2=>bif v2 then (some (([]:List SKnock),2)) else (Option.bind (q334 l) fun v3=>Option.bind (rangeN (v3.length:Int) (q529 l intensities) v3) fun (t:(List SKnock) ⊕ Empty)=>match t with | .inl f4=>(some (f4,0)) | .inr r=>r.elim))
noncomputable def q399 (a:Int) (b2:Int):Option Int:=
 some (w64 (b2 - a))
noncomputable def q461 (l:List Int):Option Bool:=
 Option.bind (q57 l q399) fun v=>some v
noncomputable def q115 (x:Int) (low:Int) (high:Int):Option Bool:=
 some ((decide (x ≥ low)) && (decide (x ≤ high)))
noncomputable def q340 (x:Int) (c:Int) (c2:Int):Option Bool:=
 Option.bind (q115 x c c2) fun v=>some (!v)
noncomputable def q218 (l:List Int) (low:Int) (high:Int):Option Bool:=
 Option.bind (q23 l (fun x0=>q340 x0 low high)) fun v=>some v
noncomputable def q323 (l:List Int):Option Bool:=
 Option.bind (q218 l (-1280) 3840) fun v=>some v
noncomputable def q396 (t2:STables):Option Bool:=
 Option.bind (q76 t2.Spark) fun v=>Option.bind (bif (!v) then (some true) else (Option.bind (q90 t2.Dwell) fun v2=>some (!v2))) fun b2=>Option.bind (bif b2 then (some true) else (Option.bind (q90 t2.Efficiency) fun v3=>some (!v3))) fun b3=>Option.bind (bif b3 then (some true) else (Option.bind (q461 t2.Efficiency.Y) fun v4=>some (!v4))) fun b4=>bif b4 then (some false) else (Option.bind (q41 t2.Spark.Z q323) fun v5=>Option.bind (bif (!v5) then (Option.bind (q218 t2.Dwell.Y 500 10000) fun v6=>some (!v6)) else (some false)) fun b5=>Option.bind (bif b5 then (Option.bind (q218 t2.Efficiency.Y 0 1000) fun v7=>some (!v7)) else (some false)) fun b6=>some b6)
noncomputable def q464 (t2:STables) (millivolts:Int) (ticks:Int):Option (Int × Int):=
 Option.bind (q396 t2) fun v=>bif (!v) then (some (0,1)) else (Option.bind (q115 millivolts 0 20000) fun v2=>Option.bind (bif (!v2) then (some true) else (Option.bind (q115 ticks 4000 1000000) fun v3=>some (!v3))) fun b2=>bif b2 then (some (0,2)) else (Option.bind (q263 t2.Dwell millivolts) fun v4=>some (minI v4 (w64 (Int.tdiv (w64 (3 * ticks)) 4)),0)))
noncomputable def q503 (t2:STables) (speed:Int) (charge:Int):Option (Int × Int):=
 Option.bind (q396 t2) fun v=>bif (!v) then (some (0,1)) else (Option.bind (q115 speed 0 12000) fun v2=>Option.bind (bif (!v2) then (some true) else (Option.bind (q115 charge 0 1048576) fun v3=>some (!v3))) fun b2=>bif b2 then (some (0,2)) else (Option.bind (q137 t2.Spark speed charge) fun v4=>some (v4,0)))
noncomputable def q463 (t2:STables) (speed:Int) (charge:Int) (coolant:Int) (retard:Int):Option (Int × Int):=
 Option.bind (q503 t2 speed charge) fun r2=>bif (r2.2 != 0) then (some (0,r2.2)) else (Option.bind (q115 coolant (-40) 150) fun v=>Option.bind (bif (!v) then (some true) else (Option.bind (q115 retard 0 1280) fun v2=>some (!v2))) fun b2=>bif b2 then (some (0,2)) else (bif (decide (coolant < 20)) then (Option.bind (q38 (w64 ((w64 (r2.1 + (w64 (2 * (w64 (20 - coolant)))))) - retard)) (-1280) 3840) fun v3=>some (v3,0)) else (bif (decide (coolant > 100)) then (Option.bind (q38 (w64 ((w64 (r2.1 - (w64 (8 * (w64 (coolant - 100)))))) - retard)) (-1280) 3840) fun v4=>some (v4,0)) else (Option.bind (q38 (w64 (r2.1 - retard)) (-1280) 3840) fun v5=>some (v5,0)))))
noncomputable def q301 (r3:Int × Int) (i:Int) (f2:Scontrol_step):Option (Fl Scontrol_step Empty):=
 Option.bind (getI f2.c.Knock i) fun x=>Option.bind (q463 f2.t f2.i.Speed f2.charge f2.i.Coolant x.Retard) fun r4=>Option.bind (q22 f2 r4.2) fun v4=>Option.bind (getI v4.pattern i) fun x2=>Option.bind (bif x2 then (some v4.time) else (some 0)) fun (f3:Int)=>Option.bind (Option.bind (appendM v4.out.Fires ([(⟨w64 (i + 1),maxI (-1280) (w64 (r4.1 - v4.late)),maxI 500 r3.1,5760,f3,0,0⟩:SFire)]:List SFire)) fun l=>some l) fun (f4:List SFire)=>some (.next (⟨v4.t,v4.e,v4.b,v4.c,v4.i,v4.wanted,v4.charge,v4.fired,v4.late,v4.pattern,v4.time,(⟨v4.out.Throttle,f4,v4.out.Torque⟩:SOutputs),v4.fail⟩:Scontrol_step))
noncomputable def q252 (s:Scontrol_step):Option Scontrol_step:=
 Option.bind (Option.bind (q547 s.c.Knock s.i.Intensity) fun r2=>some (r2.2,r2.1)) fun (s2:Int × List SKnock)=>Option.bind (q22 (⟨s.t,s.e,s.b,(⟨s.c.Pedal,s.c.Idle,s2.2,s.c.Probe,s.c.Film,s.c.Grant⟩:SControls),s.i,s.wanted,s.charge,s.fired,s.late,s.pattern,s.time,s.out,s.fail⟩:Scontrol_step) s2.1) fun v=>Option.bind (quoM .i64 60000000 (maxI 1 v.i.Speed)) fun q=>Option.bind (q38 q 4000 1000000) fun v2=>Option.bind (q464 v.t v.i.Voltage v2) fun r3=>Option.bind (q22 v r3.2) fun v3=>bif (v3.fail != 0) then (some v3) else (Option.bind (rangeN (v3.e.Order.length:Int) (q301 r3) v3) fun (t:Scontrol_step ⊕ Empty)=>match t with | .inl f5=>(some f5) | .inr r=>r.elim)
noncomputable def q139 (t2:STables) (e2:SEngine) (b2:SBody) (c:SControls) (i:SInputs):Option (SControls × SOutputs × Int):=
 Option.bind (q397 t2) fun v=>Option.bind (bif (!v) then (some true) else (Option.bind (q393 b2) fun v2=>some (!v2))) fun b3=>Option.bind (bif b3 then (some true) else (Option.bind (q303 e2 c) fun v3=>some (!v3))) fun b4=>bif b4 then (some ((⟨(⟨0,0,false⟩:SPedal),(⟨0⟩:SIntegral),([]:List SKnock),(⟨false,false,0,0,([]:List SCell)⟩:SProbe),0,(⟨0,0⟩:SGrant)⟩:SControls),(⟨0,([]:List SFire),0⟩:SOutputs),1)) else (Option.bind (q400 i (e2.Order.length:Int)) fun v4=>bif (!v4) then (some ((⟨(⟨0,0,false⟩:SPedal),(⟨0⟩:SIntegral),([]:List SKnock),(⟨false,false,0,0,([]:List SCell)⟩:SProbe),0,(⟨0,0⟩:SGrant)⟩:SControls),(⟨0,([]:List SFire),0⟩:SOutputs),2)) else (Option.bind (q212 (⟨t2,e2,b2,c,i,0,0,0,0,([]:List Bool),0,(⟨0,([]:List SFire),0⟩:SOutputs),0⟩:Scontrol_step)) fun v5=>Option.bind (q148 v5) fun v6=>Option.bind (q243 v6) fun v7=>Option.bind (q276 v7) fun v8=>Option.bind (q252 v8) fun v9=>bif (v9.fail != 0) then (Option.bind (some v9.fail) fun (v10:Int)=>some ((⟨(⟨0,0,false⟩:SPedal),(⟨0⟩:SIntegral),([]:List SKnock),(⟨false,false,0,0,([]:List SCell)⟩:SProbe),0,(⟨0,0⟩:SGrant)⟩:SControls),(⟨0,([]:List SFire),0⟩:SOutputs),v10)) else (Option.bind (some (0,v9.c,v9.out)) fun (s:Int × SControls × SOutputs)=>some ((⟨(⟨s.2.1.Pedal.Value,s.2.1.Pedal.Differ,s.2.1.Pedal.Fault⟩:SPedal),(⟨s.2.1.Idle.Sum⟩:SIntegral),s.2.1.Knock,(⟨s.2.1.Probe.Active,s.2.1.Probe.Rich,s.2.1.Probe.Factor,s.2.1.Probe.Wait,s.2.1.Probe.Cells⟩:SProbe),s.2.1.Film,(⟨s.2.1.Grant.Torque,s.2.1.Grant.Source⟩:SGrant)⟩:SControls),s.2.2,s.1))))
noncomputable def q201 (n2:Int):Option Bool:=
 some ((decide (n2 < (-1073741824))) || (decide (n2 > 1073741824)))
noncomputable def q183 (l:List Int) (i:Int):Option (Int ⊕ (Int ⊕ Bool)):=
 bif (decide (i < (l.length:Int))) then (Option.bind (Option.bind (getI l i) fun x=>Option.bind (q201 x) fun v=>bif v then (some true) else (bif (decide (i > 0)) then (Option.bind (getI l (w64 (i - 1))) fun x2=>some (decide (x ≤ x2))) else (some false))) fun (v2:Bool)=>bif v2 then (some (.inr (.inr false))) else (some (.inl (w64 (i + 1))))) else (some (.inr (.inl i)))
noncomputable def q170 (l:List Int):Option Bool:=
 bif ((decide ((l.length:Int) < 2)) || (decide ((l.length:Int) > 32))) then (some false) else (Option.bind (loopM (q183 l) 0) fun (t:Int ⊕ Bool)=>match t with | .inl _=>(some true) | .inr r2=>some r2)
noncomputable def q162 (m2:SMap) (x:List Int) (j:Int):Option (Int ⊕ (Int ⊕ Bool)):=
 bif (decide (j < (m2.Y.length:Int))) then (Option.bind (getI x j) fun x2=>Option.bind (q201 x2) fun v3=>bif v3 then (some (.inr (.inr false))) else (some (.inl (w64 (j + 1))))) else (some (.inr (.inl j)))
noncomputable def q157 (m2:SMap) (i:Int):Option (Int ⊕ (Int ⊕ Bool)):=
 bif (decide (i < (m2.Z.length:Int))) then (Option.bind (getI m2.Z i) fun x=>bif ((x.length:Int) != (m2.Y.length:Int)) then (some (.inr (.inr false))) else (Option.bind (loopM (q162 m2 x) 0) fun (t:Int ⊕ Bool)=>match t with | .inl _=>(some (.inl (w64 (i + 1)))) | .inr r2=>some (.inr (.inr r2)))) else (some (.inr (.inl i)))
noncomputable def q52 (m2:SMap):Option Bool:=
 Option.bind (q170 m2.X) fun v=>Option.bind (bif (!v) then (some true) else (Option.bind (q170 m2.Y) fun v2=>some (!v2))) fun b2=>bif (b2 || ((m2.Z.length:Int) != (m2.X.length:Int))) then (some false) else (Option.bind (loopM (q157 m2) 0) fun (t:Int ⊕ Bool)=>match t with | .inl _=>(some true) | .inr r3=>some r3)
noncomputable def q266 (x:Int):Option Bool:=
 some ((decide (x ≥ (-1073741824))) && (decide (x ≤ 1073741824)))
noncomputable def q189 (l:List Int) (i:Int):Option (Int ⊕ (Int ⊕ Bool)):=
 bif (decide (i < (l.length:Int))) then (Option.bind (Option.bind (getI l i) fun x=>Option.bind (q266 x) fun v=>bif (!v) then (some true) else (bif (decide (i > 0)) then (Option.bind (getI l (w64 (i - 1))) fun x2=>some (decide (x ≤ x2))) else (some false))) fun (v2:Bool)=>bif v2 then (some (.inr (.inr false))) else (some (.inl (w64 (i + 1))))) else (some (.inr (.inl i)))
noncomputable def q271 (l:List Int):Option Bool:=
 bif ((decide ((l.length:Int) < 2)) || (decide ((l.length:Int) > 32))) then (some false) else (Option.bind (loopM (q189 l) 0) fun (t:Int ⊕ Bool)=>match t with | .inl _=>(some true) | .inr r2=>some r2)
noncomputable def q306 (c:SCurve) (i:Int):Option (Int ⊕ (Int ⊕ Bool)):=
 bif (decide (i < (c.Y.length:Int))) then (Option.bind (getI c.Y i) fun x=>Option.bind (q266 x) fun v2=>bif (!v2) then (some (.inr (.inr false))) else (some (.inl (w64 (i + 1))))) else (some (.inr (.inl i)))
noncomputable def q72 (c:SCurve):Option Bool:=
 Option.bind (q271 c.X) fun v=>bif ((!v) || ((c.Y.length:Int) != (c.X.length:Int))) then (some false) else (Option.bind (loopM (q306 c) 0) fun (t:Int ⊕ Bool)=>match t with | .inl _=>(some true) | .inr r2=>some r2)
noncomputable def q24 (x:Int) (low:Int) (high:Int):Option Bool:=
 some ((decide (x ≥ low)) && (decide (x ≤ high)))
noncomputable def q289 (t2:STables) (i:Int) (j:Int):Option (Int ⊕ (Int ⊕ Bool)):=
 Option.bind (getI t2.Air.Z i) fun x=>bif (decide (j < (x.length:Int))) then (Option.bind (Option.bind (getI x j) fun x2=>Option.bind (q24 x2 0 1048576) fun v3=>bif (!v3) then (some true) else (bif (decide (j > 0)) then (Option.bind (getI x (w64 (j - 1))) fun x3=>some (decide (x2 < x3))) else (some false))) fun (v4:Bool)=>bif v4 then (some (.inr (.inr false))) else (some (.inl (w64 (j + 1))))) else (some (.inr (.inl j)))
noncomputable def q300 (t2:STables) (i:Int):Option (Int ⊕ (Int ⊕ Bool)):=
 bif (decide (i < (t2.Air.Z.length:Int))) then (Option.bind (loopM (q289 t2 i) 0) fun (t:Int ⊕ Bool)=>match t with | .inl _=>(some (.inl (w64 (i + 1)))) | .inr r2=>some (.inr (.inr r2))) else (some (.inr (.inl i)))
noncomputable def q288 (t2:STables) (i3:Int):Option (Int ⊕ (Int ⊕ Bool)):=
 bif (decide (i3 < (t2.AirTemp.Y.length:Int))) then (Option.bind (getI t2.AirTemp.Y i3) fun x4=>Option.bind (q24 x4 100 3000) fun v5=>bif (!v5) then (some (.inr (.inr false))) else (some (.inl (w64 (i3 + 1))))) else (some (.inr (.inl i3)))
noncomputable def q105 (t2:STables):Option Bool:=
 Option.bind (q52 t2.Air) fun v=>Option.bind (bif (!v) then (some true) else (Option.bind (q72 t2.AirTemp) fun v2=>some (!v2))) fun b2=>bif b2 then (some false) else (Option.bind (loopM (q300 t2) 0) fun (t:Int ⊕ Bool)=>match t with | .inl _=>(Option.bind (loopM (q288 t2) 0) fun (t:Int ⊕ Bool)=>match t with | .inl _=>(some true) | .inr r3=>some r3) | .inr r4=>some r4)
noncomputable def q29 (n2:Int) (low:Int) (high:Int):Option Bool:=
 some ((decide (n2 ≥ low)) && (decide (n2 ≤ high)))
noncomputable def q298 (t2:STables) (i:Int) (j:Int):Option (Int ⊕ (Int ⊕ Bool)):=
 Option.bind (getI t2.Spark.Z i) fun x=>bif (decide (j < (x.length:Int))) then (Option.bind (getI x j) fun x2=>Option.bind (q29 x2 (-1280) 3840) fun v3=>bif (!v3) then (some (.inr (.inr false))) else (some (.inl (w64 (j + 1))))) else (some (.inr (.inl j)))
noncomputable def q307 (t2:STables) (i:Int):Option (Int ⊕ (Int ⊕ Bool)):=
 bif (decide (i < (t2.Spark.Z.length:Int))) then (Option.bind (loopM (q298 t2 i) 0) fun (t:Int ⊕ Bool)=>match t with | .inl _=>(some (.inl (w64 (i + 1)))) | .inr r2=>some (.inr (.inr r2))) else (some (.inr (.inl i)))
noncomputable def q297 (t2:STables) (i3:Int):Option (Int ⊕ (Int ⊕ Bool)):=
 bif (decide (i3 < (t2.Dwell.Y.length:Int))) then (Option.bind (getI t2.Dwell.Y i3) fun x3=>Option.bind (q29 x3 500 10000) fun v4=>bif (!v4) then (some (.inr (.inr false))) else (some (.inl (w64 (i3 + 1))))) else (some (.inr (.inl i3)))
noncomputable def q247 (t2:STables):Option Bool:=
 Option.bind (q52 t2.Spark) fun v=>Option.bind (bif (!v) then (some true) else (Option.bind (q72 t2.Dwell) fun v2=>some (!v2))) fun b2=>bif b2 then (some false) else (Option.bind (loopM (q307 t2) 0) fun (t:Int ⊕ Bool)=>match t with | .inl _=>(Option.bind (loopM (q297 t2) 0) fun (t:Int ⊕ Bool)=>match t with | .inl _=>(some true) | .inr r3=>some r3) | .inr r4=>some r4)
noncomputable def q154 (l:List Int) (i:Int):Option (Int ⊕ (Int ⊕ Bool)):=
 bif (decide (i < (l.length:Int))) then (Option.bind (getI l i) fun x=>Option.bind (getI l (w64 (i - 1))) fun x2=>bif (decide (x > x2)) then (some (.inr (.inr false))) else (some (.inl (w64 (i + 1))))) else (some (.inr (.inl i)))
noncomputable def q228 (l:List Int):Option Bool:=
 Option.bind (loopM (q154 l) 1) fun (t:Int ⊕ Bool)=>match t with | .inl _=>(some true) | .inr r2=>some r2
noncomputable def q434 (x:Int) (low:Int) (high:Int):Option Bool:=
 some ((decide (x ≥ low)) && (decide (x ≤ high)))
noncomputable def q330 (l:List Int) (low:Int) (high:Int) (i:Int):Option (Int ⊕ (Int ⊕ Bool)):=
 bif (decide (i < (l.length:Int))) then (Option.bind (getI l i) fun x=>Option.bind (q434 x low high) fun v=>bif (!v) then (some (.inr (.inr false))) else (some (.inl (w64 (i + 1))))) else (some (.inr (.inl i)))
noncomputable def q316 (l:List Int) (low:Int) (high:Int):Option Bool:=
 Option.bind (loopM (q330 l low high) 0) fun (t:Int ⊕ Bool)=>match t with | .inl _=>(some true) | .inr r2=>some r2
noncomputable def q246 (c:SCurve):Option Bool:=
 Option.bind (q72 c) fun v=>Option.bind (bif v then (Option.bind (q228 c.Y) fun v2=>some v2) else (some false)) fun b2=>Option.bind (bif b2 then (Option.bind (q316 c.Y 0 1000) fun v3=>some v3) else (some false)) fun b3=>some b3
noncomputable def q302 (t2:STables) (i:Int) (j:Int):Option (Int ⊕ (Int ⊕ Bool)):=
 bif (decide (j < (t2.Torque.Y.length:Int))) then (Option.bind (getI t2.Torque.Z i) fun x=>Option.bind (getI x j) fun x2=>Option.bind (bif ((decide (x2 < 0)) || (decide (x2 > 10000))) then (some true) else (Option.bind (bif (decide (j > 0)) then (Option.bind (getI x (w64 (j - 1))) fun x3=>some (decide (x2 < x3))) else (some false)) fun b3=>some b3)) fun b4=>bif b4 then (some (.inr (.inr false))) else (some (.inl (w64 (j + 1))))) else (some (.inr (.inl j)))
noncomputable def q295 (t2:STables) (i:Int):Option (Int ⊕ (Int ⊕ Bool)):=
 bif (decide (i < (t2.Torque.Z.length:Int))) then (Option.bind (loopM (q302 t2 i) 0) fun (t:Int ⊕ Bool)=>match t with | .inl _=>(some (.inl (w64 (i + 1)))) | .inr r2=>some (.inr (.inr r2))) else (some (.inr (.inl i)))
noncomputable def q231 (t2:STables):Option Bool:=
 Option.bind (q52 t2.Torque) fun v=>Option.bind (bif (!v) then (some true) else (Option.bind (q246 t2.Efficiency) fun v2=>some (!v2))) fun b2=>bif b2 then (some false) else (Option.bind (loopM (q295 t2) 0) fun (t:Int ⊕ Bool)=>match t with | .inl _=>(some true) | .inr r3=>some r3)
noncomputable def q318 (t2:STables) (i:Int):Option (Int ⊕ (Int ⊕ Bool)):=
 bif (decide (i < (t2.Dead.Y.length:Int))) then (Option.bind (getI t2.Dead.Y i) fun x=>Option.bind (bif (decide (x < 0)) then (some true) else (some (decide (x > 10000)))) fun b2=>bif b2 then (some (.inr (.inr false))) else (some (.inl (w64 (i + 1))))) else (some (.inr (.inl i)))
noncomputable def q176 (t2:STables):Option Bool:=
 Option.bind (q72 t2.Dead) fun v=>bif (!v) then (some false) else (Option.bind (loopM (q318 t2) 0) fun (t:Int ⊕ Bool)=>match t with | .inl _=>(some true) | .inr r2=>some r2)
noncomputable def q173 (g:SGain):Option Bool:=
 some (((((((decide (g.P ≥ 0)) && (decide (g.P ≤ 65536))) && (decide (g.I ≥ 0))) && (decide (g.I ≤ 65536))) && (decide (g.Low ≥ (-1073741824)))) && (decide (g.Low ≤ g.High))) && (decide (g.High ≤ 1073741824)))
noncomputable def q235 (t2:STables):Option Bool:=
 Option.bind (q105 t2) fun v=>Option.bind (bif v then (Option.bind (q247 t2) fun v2=>some v2) else (some false)) fun b2=>Option.bind (bif b2 then (Option.bind (q231 t2) fun v3=>some v3) else (some false)) fun b3=>Option.bind (bif b3 then (Option.bind (q176 t2) fun v4=>some v4) else (some false)) fun b4=>Option.bind (bif b4 then (Option.bind (q52 t2.Wish) fun v5=>some v5) else (some false)) fun b5=>Option.bind (bif b5 then (Option.bind (q173 t2.Idle) fun v6=>some v6) else (some false)) fun b6=>some b6
noncomputable def q351 (a:Int):Option Bool:=
 some ((decide (a ≥ 0)) && (decide (a < 46080)))
noncomputable def q151 (e2:SEngine) (i:Int) (x:Int) (k:Int):Option (Int ⊕ (Int ⊕ Bool)):=
 bif (decide (k < i)) then (Option.bind (getI e2.Order k) fun x2=>bif (x2 == x) then (some (.inr (.inr false))) else (some (.inl (w64 (k + 1))))) else (some (.inr (.inl k)))
noncomputable def q144 (e2:SEngine) (i:Int):Option (Int ⊕ (Int ⊕ Bool)):=
 bif (decide (i < (e2.Order.length:Int))) then (Option.bind (getI e2.Order i) fun x=>Option.bind (bif (decide (x < 1)) then (some true) else (some (decide (x > (e2.Order.length:Int))))) fun b3=>bif b3 then (some (.inr (.inr false))) else (Option.bind (loopM (q151 e2 i x) 0) fun (t:Int ⊕ Bool)=>match t with | .inl _=>(some (.inl (w64 (i + 1)))) | .inr r2=>some (.inr (.inr r2)))) else (some (.inr (.inl i)))
noncomputable def q245 (e2:SEngine):Option Bool:=
 Option.bind (bif ((decide ((e2.Order.length:Int) < 1)) || (decide ((e2.Order.length:Int) > 8))) then (some true) else (Option.bind (q351 e2.First) fun v=>some (!v))) fun b2=>bif b2 then (some false) else (Option.bind (loopM (q144 e2) 0) fun (t:Int ⊕ Bool)=>match t with | .inl _=>(some true) | .inr r3=>some r3)
noncomputable def q238 (p2:SPedal):Option Bool:=
 bif (((((decide (p2.Value < 0)) || (decide (p2.Value > 1000))) || (decide (p2.Differ < 0))) || (decide (p2.Differ > 3))) || (!(p2.Fault == (p2.Differ == 3)))) then (some false) else (some ((!p2.Fault) || (decide (p2.Value ≤ 200))))
noncomputable def q42 (n2:Int) (low:Int) (high:Int):Option Bool:=
 some ((decide (n2 ≥ low)) && (decide (n2 ≤ high)))
noncomputable def q296 (p2:SProbe) (i:Int):Option (Int ⊕ (Int ⊕ Bool)):=
 bif (decide (i < 9)) then (Option.bind (getI p2.Cells i) fun x=>Option.bind (q42 x.Value (-100) 100) fun v3=>Option.bind (bif (!v3) then (some true) else (Option.bind (q42 x.Count 0 1000) fun v4=>some (!v4))) fun b3=>bif b3 then (some (.inr (.inr false))) else (some (.inl (w64 (i + 1))))) else (some (.inr (.inl i)))
noncomputable def q99 (p2:SProbe):Option Bool:=
 Option.bind (q42 p2.Factor 750 1250) fun v=>Option.bind (bif (!v) then (some true) else (Option.bind (q42 p2.Wait 0 1000) fun v2=>some (!v2))) fun b2=>bif (b2 || ((p2.Cells.length:Int) != 9)) then (some false) else (Option.bind (loopM (q296 p2) 0) fun (t:Int ⊕ Bool)=>match t with | .inl _=>(Option.bind (bif p2.Active then (some true) else (some (((p2.Factor == 1000) && (p2.Wait == 0)) && (!p2.Rich)))) fun b4=>some b4) | .inr r2=>some r2)
noncomputable def q103 (s:SIntegral):Option Bool:=
 some ((decide (s.Sum ≥ (-4398046511104))) && (decide (s.Sum ≤ 4398046511104)))
noncomputable def q92 (n2:Int):Option Bool:=
 some ((decide (n2 ≥ 0)) && (decide (n2 ≤ 4095)))
noncomputable def q233 (k:SKnock):Option Bool:=
 Option.bind (bif ((decide (k.Retard ≥ 0)) && (decide (k.Retard ≤ 960))) then (Option.bind (q92 k.Noise) fun v=>some v) else (some false)) fun b2=>some ((b2 && (decide (k.Quiet ≥ 0))) && (decide (k.Quiet ≤ 99)))
noncomputable def q128 (t2:Int):Option Bool:=
 some ((decide (t2 ≥ (-5000))) && (decide (t2 ≤ 10000)))
noncomputable def q320 (c:SControls) (i:Int):Option (Int ⊕ (Int ⊕ Bool)):=
 bif (decide (i < (c.Knock.length:Int))) then (Option.bind (getI c.Knock i) fun x=>Option.bind (q233 x) fun v6=>bif (!v6) then (some (.inr (.inr false))) else (some (.inl (w64 (i + 1))))) else (some (.inr (.inl i)))
noncomputable def q267 (e2:SEngine) (c:SControls):Option Bool:=
 Option.bind (q245 e2) fun v=>Option.bind (bif (!v) then (some true) else (Option.bind (q238 c.Pedal) fun v2=>some (!v2))) fun b2=>Option.bind (bif b2 then (some true) else (Option.bind (q99 c.Probe) fun v3=>some (!v3))) fun b3=>Option.bind (bif b3 then (some true) else (Option.bind (q103 c.Idle) fun v4=>some (!v4))) fun b4=>Option.bind (bif (b4 || ((c.Knock.length:Int) != (e2.Order.length:Int))) then (some true) else (Option.bind (q29 c.Film 0 1073741824) fun v5=>some (!v5))) fun b5=>bif b5 then (some false) else (Option.bind (loopM (q320 c) 0) fun (t:Int ⊕ Bool)=>match t with | .inl _=>(Option.bind (q128 c.Grant.Torque) fun v7=>Option.bind (bif v7 then (Option.bind (q29 c.Grant.Source (-1) 15) fun v8=>some v8) else (some false)) fun b6=>some b6) | .inr r2=>some r2)
noncomputable def q249 (r2:SRequest):Option Bool:=
 Option.bind (bif ((((decide (r2.Source < 0)) || (decide (r2.Source > 15))) || (decide (r2.Priority < 0))) || (decide (r2.Priority > 15))) then (some true) else (Option.bind (q128 r2.Torque) fun v=>some (!v))) fun b2=>bif ((b2 || (decide (r2.Kind < 1))) || (decide (r2.Kind > 3))) then (some false) else (some ((decide (r2.Source ≤ 1)) || (r2.Kind == 1)))
noncomputable def q294 (v_in:SInputs) (n2:Int) (i:Int):Option (Int ⊕ (Int ⊕ Bool)):=
 bif (decide (i < n2)) then (Option.bind (getI v_in.Intensity i) fun x=>Option.bind (q92 x) fun v8=>bif (!v8) then (some (.inr (.inr false))) else (some (.inl (w64 (i + 1))))) else (some (.inr (.inl i)))
noncomputable def q293 (v_in:SInputs) (i3:Int):Option (Int ⊕ (Int ⊕ Bool)):=
 bif (decide (i3 < (v_in.Requests.length:Int))) then (Option.bind (getI v_in.Requests i3) fun x2=>Option.bind (q249 x2) fun v9=>bif (!v9) then (some (.inr (.inr false))) else (some (.inl (w64 (i3 + 1))))) else (some (.inr (.inl i3)))
noncomputable def q226 (v_in:SInputs) (n2:Int):Option Bool:=
 Option.bind (q29 n2 1 8) fun v=>Option.bind (bif (!v) then (some true) else (Option.bind (q29 v_in.Speed 0 12000) fun v2=>some (!v2))) fun b2=>Option.bind (bif b2 then (some true) else (Option.bind (q29 v_in.Pressure 50 3000) fun v3=>some (!v3))) fun b3=>Option.bind (bif b3 then (some true) else (Option.bind (q29 v_in.AirTemp (-40) 150) fun v4=>some (!v4))) fun b4=>Option.bind (bif b4 then (some true) else (Option.bind (q29 v_in.Coolant (-40) 150) fun v5=>some (!v5))) fun b5=>Option.bind (bif b5 then (some true) else (Option.bind (q29 v_in.Voltage 0 20000) fun v6=>some (!v6))) fun b6=>Option.bind (bif b6 then (some true) else (Option.bind (q29 v_in.Lambda 0 20000) fun v7=>some (!v7))) fun b7=>bif b7 then (some false) else (bif (((v_in.Intensity.length:Int) != n2) || (decide ((v_in.Requests.length:Int) > 30))) then (some false) else (Option.bind (loopM (q294 v_in n2) 0) fun (t:Int ⊕ Bool)=>match t with | .inl _=>(Option.bind (loopM (q293 v_in) 0) fun (t:Int ⊕ Bool)=>match t with | .inl _=>(some true) | .inr r2=>some r2) | .inr r3=>some r3))
noncomputable def q69 (x:Int) (low:Int) (high:Int):Option Bool:=
 some ((decide (x ≥ low)) && (decide (x ≤ high)))
noncomputable def q241 (b2:SBody):Option Bool:=
 Option.bind (q69 b2.Inertia 100 1048576) fun v=>Option.bind (bif v then (Option.bind (q69 b2.Friction 0 65536) fun v2=>some v2) else (some false)) fun b3=>Option.bind (bif b3 then (Option.bind (q69 b2.Volume 1 65536) fun v3=>some v3) else (some false)) fun b4=>Option.bind (bif b4 then (Option.bind (q69 b2.Throttle 0 65536) fun v4=>some v4) else (some false)) fun b5=>Option.bind (bif b5 then (Option.bind (q69 b2.Film 0 1023) fun v5=>some v5) else (some false)) fun b6=>Option.bind (bif b6 then (Option.bind (q69 b2.Evaporate 1 1024) fun v6=>some v6) else (some false)) fun b7=>Option.bind (bif b7 then (Option.bind (q69 b2.Delay 0 20) fun v7=>some v7) else (some false)) fun b8=>some b8
noncomputable def q97 (x:Int) (low:Int) (high:Int):Option Int:=
 some (minI (maxI x low) high)
noncomputable def q269 (p2:SPedal) (first:Int) (second:Int):Option SPedal:=
 Option.bind (q97 first 0 1000) fun v=>Option.bind (q97 second 0 500) fun v2=>Option.bind (bif ((decide ((w64 (v - (w64 (2 * v2)))) > 50)) || (decide ((w64 ((w64 (2 * v2)) - v)) > 50))) then (some (minI (w64 (p2.Differ + 1)) 3)) else (bif (!p2.Fault) then (some 0) else (some p2.Differ))) fun (f2:Int)=>bif (f2 == 3) then (some (⟨minI (minI v (w64 (2 * v2))) 200,f2,(f2 == 3)⟩:SPedal)) else (bif ((decide ((w64 (v - (w64 (2 * v2)))) > 50)) || (decide ((w64 ((w64 (2 * v2)) - v)) > 50))) then (some (⟨minI (minI v (w64 (2 * v2))) p2.Value,f2,(f2 == 3)⟩:SPedal)) else (some (⟨v,f2,(f2 == 3)⟩:SPedal)))
noncomputable def q230 (a:Int) (b2:Int):Option Int:=
 Option.bind (quoM .i64 a b2) fun q=>Option.bind (remM a b2) fun q2=>bif (decide (q2 < 0)) then (some (w64 (q - 1))) else (some q)
noncomputable def q165 (xs:List Int) (x:Int) (i:Int):Option (Int ⊕ (Int ⊕ Empty)):=
 Option.bind (getI xs (w64 (i + 1))) fun x6=>bif (decide (x6 ≤ x)) then (some (.inl (w64 (i + 1)))) else (some (.inr (.inl i)))
noncomputable def q141 (xs:List Int) (ys:List Int) (x:Int):Option Int:=
 Option.bind (getI xs 0) fun x2=>bif (decide (x ≤ x2)) then (Option.bind (getI ys 0) fun x3=>some x3) else (Option.bind (getI xs (w64 ((xs.length:Int) - 1))) fun x4=>bif (decide (x ≥ x4)) then (Option.bind (getI ys (w64 ((xs.length:Int) - 1))) fun x5=>some x5) else (Option.bind (loopM (q165 xs x) 0) fun (t:Int ⊕ Empty)=>match t with | .inl i2=>(Option.bind (getI ys i2) fun x7=>Option.bind (getI xs i2) fun x8=>Option.bind (getI ys (w64 (i2 + 1))) fun x9=>Option.bind (getI xs (w64 (i2 + 1))) fun x10=>Option.bind (q230 (w64 ((w64 (x - x8)) * (w64 (x9 - x7)))) (w64 (x10 - x8))) fun v=>some (w64 (x7 + v))) | .inr r=>r.elim))
noncomputable def q132 (m2:SMap) (s:List Int × Int) (s2:List Int × Int):Option ((List Int × Int) ⊕ ((List Int × Int) ⊕ Empty)):=
 bif (decide (s2.2 < (m2.X.length:Int))) then (Option.bind (getI m2.Z s2.2) fun x2=>Option.bind (getI x2 s.2) fun x3=>Option.bind (appendM s2.1 ([x3]:List Int)) fun l=>some (.inl (l,w64 (s2.2 + 1)))) else (some (.inr (.inl (s2.1,s2.2))))
noncomputable def q138 (m2:SMap) (x:Int) (s:List Int × Int):Option ((List Int × Int) ⊕ ((List Int × Int) ⊕ Empty)):=
 bif (decide (s.2 < (m2.Y.length:Int))) then (Option.bind (loopM (q132 m2 s) (([]:List Int),0)) fun (t:(List Int × Int) ⊕ Empty)=>match t with | .inl s3=>(Option.bind (q141 m2.X s3.1 x) fun v=>Option.bind (appendM s.1 ([v]:List Int)) fun l2=>some (.inl (l2,w64 (s.2 + 1)))) | .inr r=>r.elim) else (some (.inr (.inl (s.1,s.2))))
noncomputable def q206 (m2:SMap) (x:Int):Option (List Int):=
 Option.bind (loopM (q138 m2 x) (([]:List Int),0)) fun (t:(List Int × Int) ⊕ Empty)=>match t with | .inl s4=>(some s4.1) | .inr r=>r.elim
noncomputable def q348 (m2:SMap) (x:Int) (y:Int):Option Int:=
 Option.bind (q206 m2 x) fun v=>Option.bind (q141 m2.Y v y) fun v2=>some v2
noncomputable def q116 (m2:SMap) (x:Int) (y:Int):Option Int:=
 Option.bind (q52 m2) fun v=>bif (!v) then (some 0) else (Option.bind (q348 m2 x y) fun v2=>some v2)
noncomputable def q268 (t2:STables) (value:Int) (speed:Int):Option (Int × Int):=
 Option.bind (q52 t2.Wish) fun v=>bif (!v) then (some (0,1)) else (bif ((((decide (value < 0)) || (decide (value > 1000))) || (decide (speed < 0))) || (decide (speed > 12000))) then (some (0,2)) else (Option.bind (q116 t2.Wish speed value) fun v2=>Option.bind (q97 v2 (-5000) 10000) fun v3=>some (v3,0)))
noncomputable def q122 (a:Int):Option Int:=
 bif (decide (a < 0)) then (some (IntKind.u64.wrap (0 - (IntKind.u64.wrap a)))) else (some (IntKind.u64.wrap a))
noncomputable def q112 (w:Smagnetoref01_Wide) (c:Int) (s:Int × Int × Int):Option ((Int × Int × Int) ⊕ ((Int × Int × Int) ⊕ Empty)):=
 bif (decide (s.2.2 ≥ 0)) then (Option.bind (shrM .u64 w.Low (IntKind.u64.wrap s.2.2)) fun q=>bif (((bitShr .u64 s.1 63) == 1) || (decide ((IntKind.u64.wrap ((bitShl .u64 s.1 1) + (bitAnd .u64 q 1))) ≥ c))) then (some (.inl (IntKind.u64.wrap ((IntKind.u64.wrap ((bitShl .u64 s.1 1) + (bitAnd .u64 q 1))) - c),IntKind.u64.wrap ((bitShl .u64 s.2.1 1) + 1),w64 (s.2.2 - 1)))) else (some (.inl (IntKind.u64.wrap ((bitShl .u64 s.1 1) + (bitAnd .u64 q 1)),bitShl .u64 s.2.1 1,w64 (s.2.2 - 1))))) else (some (.inr (.inl (s.1,s.2.1,s.2.2))))
noncomputable def q270 (w:Smagnetoref01_Wide) (c:Int):Option (Int × Int × Bool):=
 bif (decide (w.High ≥ c)) then (some (0,0,false)) else (Option.bind (loopM (q112 w c) (w.High,0,63)) fun (t:(Int × Int × Int) ⊕ Empty)=>match t with | .inl s2=>(some (s2.2.1,s2.1,true)) | .inr r=>r.elim)
noncomputable def q225 (a:Int) (b2:Int):Option Smagnetoref01_Wide:=
 some (⟨IntKind.u64.wrap ((IntKind.u64.wrap ((IntKind.u64.wrap ((bitShr .u64 a 32) * (bitShr .u64 b2 32))) + (bitShr .u64 (IntKind.u64.wrap ((IntKind.u64.wrap ((bitShr .u64 a 32) * (bitAnd .u64 b2 4294967295))) + (bitShr .u64 (IntKind.u64.wrap ((bitAnd .u64 a 4294967295) * (bitAnd .u64 b2 4294967295))) 32))) 32))) + (bitShr .u64 (IntKind.u64.wrap ((IntKind.u64.wrap ((bitAnd .u64 a 4294967295) * (bitShr .u64 b2 32))) + (bitAnd .u64 (IntKind.u64.wrap ((IntKind.u64.wrap ((bitShr .u64 a 32) * (bitAnd .u64 b2 4294967295))) + (bitShr .u64 (IntKind.u64.wrap ((bitAnd .u64 a 4294967295) * (bitAnd .u64 b2 4294967295))) 32))) 4294967295))) 32)),IntKind.u64.wrap ((bitShl .u64 (IntKind.u64.wrap ((IntKind.u64.wrap ((bitAnd .u64 a 4294967295) * (bitShr .u64 b2 32))) + (bitAnd .u64 (IntKind.u64.wrap ((IntKind.u64.wrap ((bitShr .u64 a 32) * (bitAnd .u64 b2 4294967295))) + (bitShr .u64 (IntKind.u64.wrap ((bitAnd .u64 a 4294967295) * (bitAnd .u64 b2 4294967295))) 32))) 4294967295))) 32) + (bitAnd .u64 (IntKind.u64.wrap ((bitAnd .u64 a 4294967295) * (bitAnd .u64 b2 4294967295))) 4294967295))⟩:Smagnetoref01_Wide)
noncomputable def q333 (a:Int) (b2:Int) (c:Int) (mode:Int):Option (Int × Int):=
 bif (((mode != 1) && (mode != 2)) && (mode != 3)) then (some (0,1)) else (bif (c == 0) then (some (0,10)) else (Option.bind (q122 c) fun v=>Option.bind (q122 a) fun v2=>Option.bind (q122 b2) fun v3=>Option.bind (q225 v2 v3) fun v4=>Option.bind (q270 v4 v) fun r2=>bif (!r2.2.2) then (some (0,9)) else (Option.bind (bif (mode == 1) then (some ((((a != 0) && (b2 != 0)) && (!((!((decide (a < 0)) == (decide (b2 < 0)))) == (decide (c < 0))))) && (decide (r2.2.1 > 0)))) else (bif (mode == 2) then (some ((!(((a != 0) && (b2 != 0)) && (!((!((decide (a < 0)) == (decide (b2 < 0)))) == (decide (c < 0)))))) && (decide (r2.2.1 > 0)))) else (bif (mode == 3) then (Option.bind (bif (decide (r2.2.1 > (IntKind.u64.wrap (v - r2.2.1)))) then (some true) else (some ((r2.2.1 == (IntKind.u64.wrap (v - r2.2.1))) && (!(((a != 0) && (b2 != 0)) && (!((!((decide (a < 0)) == (decide (b2 < 0)))) == (decide (c < 0))))))))) fun b3=>some b3) else (some false)))) fun (away:Bool)=>Option.bind (bif away then (bif (r2.1 == 18446744073709551615) then (some (Sum.inr (0,9))) else (some (Sum.inl (IntKind.u64.wrap (r2.1 + 1))))) else (some (Sum.inl r2.1))) fun (t:Int ⊕ (Int × Int))=>match t with | .inl q=>(bif (((a != 0) && (b2 != 0)) && (!((!((decide (a < 0)) == (decide (b2 < 0)))) == (decide (c < 0))))) then (bif (decide (q > 9223372036854775808)) then (some (0,9)) else (some (w64 (IntKind.u64.wrap (0 - q)),0))) else (bif (decide (q ≥ 9223372036854775808)) then (some (0,9)) else (some (w64 q,0)))) | .inr r3=>some r3)))
noncomputable def q405 (a:Int) (b2:Int) (mode:Int):Option (Int × Int):=
 Option.bind (q333 a 1 b2 mode) fun r2=>some (r2.1,r2.2)
noncomputable def q34 (a:Int) (b2:Int):Option Int:=
 Option.bind (q405 a b2 1) fun r2=>some r2.1
noncomputable def q89 (coolant:Int):Option Int:=
 bif (decide (coolant ≤ (-20))) then (some 1200) else (bif (decide (coolant ≥ 70)) then (some 800) else (Option.bind (q34 (w64 (400 * (w64 (coolant + 20)))) 90) fun v=>some (w64 (1200 - v))))
noncomputable def q75 (n2:Int):Option Bool:=
 some ((decide (n2 ≥ 0)) && (decide (n2 ≤ 12000)))
noncomputable def q213 (pedal:Int) (speed:Int) (coolant:Int):Option Bool:=
 Option.bind (bif ((decide (pedal ≥ 0)) && (decide (pedal < 20))) then (Option.bind (q75 speed) fun v=>some v) else (some false)) fun b2=>Option.bind (bif b2 then (Option.bind (q89 coolant) fun v2=>some (decide (speed < (w64 (v2 + 300))))) else (some false)) fun b3=>some b3
noncomputable def q178 (s:SIntegral) (g:SGain) (e2:Int):Option (SIntegral × Int):=
 Option.bind (q34 (w64 ((w64 (g.P * e2)) + s.Sum)) 1024) fun v=>Option.bind (bif (!((decide (v > g.High)) && (decide (e2 > 0)))) then (some (!((decide (v < g.Low)) && (decide (e2 < 0))))) else (some false)) fun b2=>Option.bind (bif b2 then (some (w64 (s.Sum + (w64 (g.I * e2))))) else (some s.Sum)) fun (f2:Int)=>Option.bind (bif (decide (f2 > 4398046511104)) then (some 4398046511104) else (some f2)) fun (f3:Int)=>Option.bind (bif (decide (f3 < (-4398046511104))) then (some (-4398046511104)) else (some f3)) fun (f4:Int)=>Option.bind (bif (decide (v > g.High)) then (some g.High) else (some v)) fun (u:Int)=>bif (decide (u < g.Low)) then (some ((⟨f4⟩:SIntegral),g.Low)) else (some ((⟨f4⟩:SIntegral),u))
noncomputable def q175 (s:SIntegral) (g:SGain) (target:Int) (speed:Int):Option (SIntegral × Int × Int):=
 Option.bind (q173 g) fun v=>bif (!v) then (some ((⟨0⟩:SIntegral),0,1)) else (Option.bind (q75 target) fun v2=>Option.bind (bif (!v2) then (some true) else (Option.bind (q75 speed) fun v3=>some (!v3))) fun b2=>bif b2 then (some ((⟨0⟩:SIntegral),0,2)) else (Option.bind (q103 s) fun v4=>bif (!v4) then (some ((⟨0⟩:SIntegral),0,1)) else (Option.bind (q178 s g (w64 (target - speed))) fun r2=>some (r2.1,r2.2,0))))
noncomputable def q32 (n2:Int) (low:Int) (high:Int):Option Int:=
 some (minI high (maxI low n2))
noncomputable def q209 (x:SRange) (r2:SRequest):Option SRange:=
 bif (r2.Kind == 1) then (some (⟨x.Low,maxI x.Low (minI x.High r2.Torque)⟩:SRange)) else (bif (r2.Kind == 2) then (some (⟨maxI x.Low (minI x.High r2.Torque),x.High⟩:SRange)) else (some (⟨maxI x.Low (minI x.High r2.Torque),maxI x.Low (minI x.High r2.Torque)⟩:SRange)))
noncomputable def q35 (l:List SRequest) (s:Int × Int × SRange × List Bool) (s2:Int × Int × SRange × List Bool):Option ((Int × Int × SRange × List Bool) ⊕ ((Int × Int × SRange × List Bool) ⊕ Empty)):=
 bif (decide (s2.2.1 < (l.length:Int))) then (Option.bind (getI l s2.2.1) fun x=>bif (x.Priority != s.2.1) then (some (.inl (s2.1,w64 (s2.2.1 + 1),s2.2.2.1,s2.2.2.2))) else (Option.bind (Option.bind (q209 s2.2.2.1 x) fun v=>some v) fun (f2:SRange)=>Option.bind (bif (f2.Low != s2.2.2.1.Low) then (some x.Source) else (some s2.1)) fun (source:Int)=>Option.bind (getI s2.2.2.2 s2.2.1) fun _=>Option.bind (setM s2.2.2.2 s2.2.1 (!((f2.Low == s2.2.2.1.Low) && ((f2.High == s2.2.2.1.High) && true)))) fun l3=>some (.inl (source,w64 (s2.2.1 + 1),f2,l3)))) else (some (.inr (.inl (s2.1,s2.2.1,s2.2.2.1,s2.2.2.2))))
noncomputable def q110 (l:List SRequest) (s:Int × Int × SRange × List Bool):Option ((Int × Int × SRange × List Bool) ⊕ ((Int × Int × SRange × List Bool) ⊕ Empty)):=
 bif (decide (s.2.1 ≥ 0)) then (Option.bind (loopM (q35 l s) (s.1,0,s.2.2.1,s.2.2.2)) fun (t:(Int × Int × SRange × List Bool) ⊕ Empty)=>match t with | .inl s3=>(some (.inl (s3.1,w64 (s.2.1 - 1),s3.2.2.1,s3.2.2.2))) | .inr r=>r.elim) else (some (.inr (.inl (s.1,s.2.1,s.2.2.1,s.2.2.2))))
noncomputable def q160 (l:List SRequest) (low:Int) (high:Int):Option (SRange × Int × List Bool):=
 Option.bind (makeM (l.length:Int) false) fun l2=>Option.bind (loopM (q110 l) ((-1),15,(⟨low,high⟩:SRange),l2)) fun (t:(Int × Int × SRange × List Bool) ⊕ Empty)=>match t with | .inl s4=>(some (s4.2.2.1,s4.1,s4.2.2.2)) | .inr r=>r.elim
noncomputable def q251 (g:SGrant) (l:List SRequest):Option SGrant:=
 Option.bind (q160 l (-5000) 10000) fun r2=>Option.bind (q32 r2.1.Low (w64 (g.Torque - 1000)) (w64 (g.Torque + 300))) fun v=>some (⟨maxI (-5000) (minI v r2.1.High),r2.2.1⟩:SGrant)
noncomputable def q78 (t2:STables) (speed:Int) (charge:Int):Option Int:=
 Option.bind (q116 t2.Torque speed charge) fun v=>some v
noncomputable def q150 (t2:STables) (speed:Int) (torque:Int) (s:Int × Int):Option ((Int × Int) ⊕ ((Int × Int) ⊕ Empty)):=
 bif (decide (s.1 < s.2)) then (Option.bind (q78 t2 speed (w64 (s.1 + (w64 (Int.tdiv (w64 (s.2 - s.1)) 2))))) fun v2=>bif (decide (v2 ≥ torque)) then (some (.inl (s.1,w64 (s.1 + (w64 (Int.tdiv (w64 (s.2 - s.1)) 2)))))) else (some (.inl (w64 ((w64 (s.1 + (w64 (Int.tdiv (w64 (s.2 - s.1)) 2)))) + 1),s.2)))) else (some (.inr (.inl (s.1,s.2))))
noncomputable def q227 (t2:STables) (speed:Int) (torque:Int):Option (Int × Bool):=
 Option.bind (getI t2.Torque.Y 0) fun x=>Option.bind (getI t2.Torque.Y (w64 ((t2.Torque.Y.length:Int) - 1))) fun x2=>Option.bind (q78 t2 speed x2) fun v=>bif (decide (v < torque)) then (some (0,false)) else (Option.bind (loopM (q150 t2 speed torque) (x,x2)) fun (t:(Int × Int) ⊕ Empty)=>match t with | .inl s2=>(some (s2.1,true)) | .inr r=>r.elim)
noncomputable def q244 (c:SCurve) (x:Int) (i:Int):Option (Int ⊕ (Int ⊕ Empty)):=
 Option.bind (getI c.X (w64 (i + 1))) fun x6=>bif (decide (x6 ≤ x)) then (some (.inl (w64 (i + 1)))) else (some (.inr (.inl i)))
noncomputable def q118 (c:SCurve) (x:Int):Option Int:=
 Option.bind (getI c.X 0) fun x2=>bif (decide (x ≤ x2)) then (Option.bind (getI c.Y 0) fun x3=>some x3) else (Option.bind (getI c.X (w64 ((c.X.length:Int) - 1))) fun x4=>bif (decide (x ≥ x4)) then (Option.bind (getI c.Y (w64 ((c.X.length:Int) - 1))) fun x5=>some x5) else (Option.bind (loopM (q244 c x) 0) fun (t:Int ⊕ Empty)=>match t with | .inl i2=>(Option.bind (getI c.Y i2) fun x7=>Option.bind (getI c.X i2) fun x8=>Option.bind (getI c.Y (w64 (i2 + 1))) fun x9=>Option.bind (getI c.X (w64 (i2 + 1))) fun x10=>Option.bind (q34 (w64 ((w64 (x - x8)) * (w64 (x9 - x7)))) (w64 (x10 - x8))) fun v=>some (w64 (x7 + v))) | .inr r=>r.elim))
noncomputable def q127 (t2:STables) (speed:Int) (pressure:Int) (temperature:Int):Option Int:=
 Option.bind (q116 t2.Air speed pressure) fun v=>Option.bind (q118 t2.AirTemp temperature) fun v2=>Option.bind (q34 (w64 (v * v2)) 1000) fun v3=>some (minI v3 1048576)
noncomputable def q111 (t2:STables) (speed:Int) (want:Int) (temperature:Int) (s:Int × Int):Option ((Int × Int) ⊕ ((Int × Int) ⊕ Empty)):=
 bif (decide (s.1 < s.2)) then (Option.bind (q127 t2 speed (w64 (Int.tdiv (w64 (s.1 + s.2)) 2)) temperature) fun v5=>bif (decide (v5 ≥ want)) then (some (.inl (s.1,w64 (Int.tdiv (w64 (s.1 + s.2)) 2)))) else (some (.inl (w64 ((w64 (Int.tdiv (w64 (s.1 + s.2)) 2)) + 1),s.2)))) else (some (.inr (.inl (s.1,s.2))))
noncomputable def q155 (t2:STables) (speed:Int) (want:Int) (temperature:Int):Option (Int × Int):=
 Option.bind (q105 t2) fun v=>bif (!v) then (some (0,1)) else (Option.bind (q24 speed 0 12000) fun v2=>Option.bind (bif (!v2) then (some true) else (Option.bind (q24 want 0 1048576) fun v3=>some (!v3))) fun b2=>Option.bind (bif b2 then (some true) else (Option.bind (q24 temperature (-40) 150) fun v4=>some (!v4))) fun b3=>bif b3 then (some (0,2)) else (Option.bind (loopM (q111 t2 speed want temperature) (50,3001)) fun (t:(Int × Int) ⊕ Empty)=>match t with | .inl s2=>(bif (decide (s2.1 > 3000)) then (some (0,7)) else (some (s2.1,0))) | .inr r=>r.elim))
noncomputable def q409 (speed:Int):Option Int:=
 Option.bind (q34 (w64 (speed * 60000000)) 1509949440) fun v=>some v
noncomputable def q126 (rpm:Int) (s:Int × Int):Option ((Int × Int) ⊕ ((Int × Int) ⊕ Empty)):=
 bif (decide (s.1 < s.2)) then (Option.bind (q34 (w64 (s.1 + s.2)) 2) fun v=>Option.bind (q409 v) fun v2=>bif (decide (v2 ≥ rpm)) then (some (.inl (s.1,v))) else (some (.inl (w64 (v + 1),s.2)))) else (some (.inr (.inl (s.1,s.2))))
noncomputable def q186 (rpm:Int):Option Int:=
 Option.bind (loopM (q126 rpm) (0,1048576)) fun (t:(Int × Int) ⊕ Empty)=>match t with | .inl s2=>(some s2.1) | .inr r=>r.elim
noncomputable def q275 (speed:Int) (pressure:Int):Option (Int × Int):=
 Option.bind (q24 speed 0 12000) fun v=>Option.bind (bif (!v) then (some true) else (Option.bind (q24 pressure 50 3000) fun v2=>some (!v2))) fun b2=>bif b2 then (some (0,2)) else (Option.bind (q186 speed) fun v3=>Option.bind (q34 (w64 (v3 * pressure)) 1024) fun v4=>some (v4,0))
noncomputable def q284 (b2:SBody):Option Bool:=
 Option.bind (q24 b2.Inertia 100 1048576) fun v=>Option.bind (bif v then (Option.bind (q24 b2.Friction 0 65536) fun v2=>some v2) else (some false)) fun b3=>Option.bind (bif b3 then (Option.bind (q24 b2.Throttle 0 65536) fun v3=>some v3) else (some false)) fun b4=>Option.bind (bif b4 then (Option.bind (q24 b2.Volume 1 65536) fun v4=>some v4) else (some false)) fun b5=>Option.bind (bif b5 then (Option.bind (q24 b2.Film 0 1023) fun v5=>some v5) else (some false)) fun b6=>Option.bind (bif b6 then (Option.bind (q24 b2.Evaporate 1 1024) fun v6=>some v6) else (some false)) fun b7=>Option.bind (bif b7 then (Option.bind (q24 b2.Delay 0 20) fun v7=>some v7) else (some false)) fun b8=>some b8
noncomputable def q46 (b2:SBody) (flow:Int) (pressure:Int) (x:Int):Option (Int ⊕ (Int ⊕ (Int × Int))):=
 bif (decide (x ≤ 1000)) then (Option.bind (q34 (w64 ((w64 (b2.Throttle * x)) * (w64 (1013 - pressure)))) 1000) fun v4=>bif (decide (v4 ≥ flow)) then (some (.inr (.inr (x,0)))) else (some (.inl (w64 (x + 1))))) else (some (.inr (.inl x)))
noncomputable def q159 (b2:SBody) (flow:Int) (pressure:Int):Option (Int × Int):=
 Option.bind (q284 b2) fun v=>bif (!v) then (some (0,1)) else (Option.bind (q24 flow 0 1099511627776) fun v2=>Option.bind (bif (!v2) then (some true) else (Option.bind (q24 pressure 50 1013) fun v3=>some (!v3))) fun b3=>bif b3 then (some (0,2)) else (Option.bind (loopM (q46 b2 flow pressure) 0) fun (t:Int ⊕ (Int × Int))=>match t with | .inl _=>(some (0,7)) | .inr r2=>some r2))
noncomputable def q152 (t2:STables) (b2:SBody) (v_in:SInputs) (want:Int):Option Int:=
 Option.bind (q227 t2 v_in.Speed want) fun r2=>Option.bind (bif (!r2.2) then (some 1048576) else (some r2.1)) fun (charge:Int)=>Option.bind (q155 t2 v_in.Speed (maxI 0 charge) v_in.AirTemp) fun r3=>Option.bind (bif (r3.2 != 0) then (some 3000) else (some r3.1)) fun (pressure:Int)=>Option.bind (q275 v_in.Speed (minI 1012 pressure)) fun r4=>Option.bind (q159 b2 r4.1 (minI 1012 pressure)) fun r5=>bif (r5.2 != 0) then (some 1000) else (some r5.1)
noncomputable def q208 (t2:STables) (speed:Int) (pressure:Int) (temperature:Int):Option (Int × Int):=
 Option.bind (q105 t2) fun v=>bif (!v) then (some (0,1)) else (Option.bind (q24 speed 0 12000) fun v2=>Option.bind (bif (!v2) then (some true) else (Option.bind (q24 pressure 50 3000) fun v3=>some (!v3))) fun b2=>Option.bind (bif b2 then (some true) else (Option.bind (q24 temperature (-40) 150) fun v4=>some (!v4))) fun b3=>bif b3 then (some (0,2)) else (Option.bind (q127 t2 speed pressure temperature) fun v5=>some (v5,0)))
noncomputable def q215 (c:SCurve) (late:Int):Option Int:=
 Option.bind (q118 c late) fun v=>some v
noncomputable def q88 (t2:STables) (speed:Int) (charge:Int) (late:Int) (fired:Int) (cylinders:Int):Option Int:=
 Option.bind (q78 t2 speed charge) fun v=>Option.bind (q215 t2.Efficiency late) fun v2=>Option.bind (quoM .i64 (w64 ((w64 (v * v2)) * fired)) (w64 (1000 * cylinders))) fun q=>some q
noncomputable def q156 (t2:STables) (speed:Int) (charge:Int) (torque:Int) (cylinders:Int) (fired:Int) (s:Int × Int):Option ((Int × Int) ⊕ ((Int × Int) ⊕ Empty)):=
 bif (decide (s.1 < s.2)) then (Option.bind (q88 t2 speed charge (w64 (Int.tdiv (w64 (s.1 + s.2)) 2)) fired cylinders) fun v2=>bif (decide (v2 ≤ torque)) then (some (.inl (s.1,w64 (Int.tdiv (w64 (s.1 + s.2)) 2)))) else (some (.inl (w64 ((w64 (Int.tdiv (w64 (s.1 + s.2)) 2)) + 1),s.2)))) else (some (.inr (.inl (s.1,s.2))))
noncomputable def q37 (t2:STables) (speed:Int) (charge:Int) (torque:Int) (cylinders:Int) (fired:Int):Option (Int ⊕ (Int ⊕ (Int × Int))):=
 bif (decide (fired > 0)) then (Option.bind (q88 t2 speed charge 2560 fired cylinders) fun v=>bif (decide (v > torque)) then (some (.inl (w64 (fired - 1)))) else (Option.bind (loopM (q156 t2 speed charge torque cylinders fired) (0,2560)) fun (t:(Int × Int) ⊕ Empty)=>match t with | .inl s2=>(some (.inr (.inr (fired,s2.1)))) | .inr r=>r.elim)) else (some (.inr (.inl fired)))
noncomputable def q232 (t2:STables) (speed:Int) (charge:Int) (torque:Int) (cylinders:Int):Option (Int × Int):=
 Option.bind (loopM (q37 t2 speed charge torque cylinders) cylinders) fun (t:Int ⊕ (Int × Int))=>match t with | .inl _=>(some (0,0)) | .inr r2=>some r2
noncomputable def q280 (k:SKnock) (n2:Int):Option (SKnock × Bool):=
 bif (decide (n2 > (w64 ((w64 (3 * k.Noise)) + 40)))) then (some ((⟨minI (w64 (k.Retard + 96)) 960,k.Noise,0⟩:SKnock),true)) else (Option.bind (bif ((w64 (k.Quiet + 1)) == 100) then (some (maxI (w64 (k.Retard - 16)) 0,0)) else (some (k.Retard,w64 (k.Quiet + 1)))) fun (s:Int × Int)=>bif (decide (n2 ≥ k.Noise)) then (some ((⟨s.1,w64 (k.Noise + (w64 (Int.tdiv (w64 (n2 - k.Noise)) 8))),s.2⟩:SKnock),false)) else (some ((⟨s.1,w64 (k.Noise - (w64 (Int.tdiv (w64 ((w64 (k.Noise - n2)) + 7)) 8))),s.2⟩:SKnock),false)))
noncomputable def q101 (speed:Int) (charge:Int):Option Bool:=
 Option.bind (q42 speed 0 12000) fun v=>Option.bind (bif v then (Option.bind (q42 charge 0 1048576) fun v2=>some v2) else (some false)) fun b2=>some b2
noncomputable def q184 (p2:SProbe) (s:Int × List SCell):Option ((Int × List SCell) ⊕ ((Int × List SCell) ⊕ Empty)):=
 bif (decide (s.1 < (p2.Cells.length:Int))) then (Option.bind (Option.bind (getI p2.Cells s.1) fun x=>Option.bind (appendM s.2 ([x]:List SCell)) fun l=>some l) fun (f2:List SCell)=>some (.inl (w64 (s.1 + 1),f2))) else (some (.inr (.inl (s.1,s.2))))
noncomputable def q272 (p2:SProbe):Option SProbe:=
 Option.bind (loopM (q184 p2) (0,([]:List SCell))) fun (t:(Int × List SCell) ⊕ Empty)=>match t with | .inl s2=>(some (⟨p2.Active,p2.Rich,p2.Factor,p2.Wait,s2.2⟩:SProbe)) | .inr r=>r.elim
noncomputable def q273 (p2:SProbe) (mv:Int) (speed:Int) (charge:Int):Option (SProbe × Int):=
 Option.bind (q99 p2) fun v=>bif (!v) then (some ((⟨false,false,0,0,([]:List SCell)⟩:SProbe),1)) else (Option.bind (q101 speed charge) fun v2=>Option.bind (bif (!v2) then (some true) else (Option.bind (q42 mv 0 20000) fun v3=>some (!v3))) fun b2=>bif b2 then (some ((⟨false,false,0,0,([]:List SCell)⟩:SProbe),2)) else (Option.bind (q272 p2) fun v4=>bif (!p2.Active) then (some ((⟨((decide (mv < 300)) || (decide (mv > 600))),decide (mv > 600),v4.Factor,v4.Wait,v4.Cells⟩:SProbe),0)) else (Option.bind (bif (decide (mv > 500)) then (some true) else (some v4.Rich)) fun (f2:Bool)=>Option.bind (bif (decide (mv < 400)) then (some false) else (some f2)) fun (f3:Bool)=>Option.bind (bif (!(f3 == p2.Rich)) then (some (15,0)) else (some (1,minI 1000 (w64 (p2.Wait + 1))))) fun (s:Int × Int)=>Option.bind (bif f3 then (some (w64 (0 - s.1))) else (some s.1)) fun (size:Int)=>some ((⟨v4.Active,f3,minI 1250 (maxI 750 (w64 (p2.Factor + size))),s.2,v4.Cells⟩:SProbe),0))))
noncomputable def q274 (speed:Int) (charge:Int):Option Int:=
 Option.bind (q101 speed charge) fun v=>bif (!v) then (some (-1)) else (Option.bind (bif (decide (speed < 3500)) then (some 1) else (some 2)) fun (a:Int)=>Option.bind (bif (decide (speed < 1500)) then (some 0) else (some a)) fun (a2:Int)=>Option.bind (bif (decide (charge < 350000)) then (some 1) else (some 2)) fun (b2:Int)=>bif (decide (charge < 150000)) then (some (w64 ((w64 (3 * a2)) + 0))) else (some (w64 ((w64 (3 * a2)) + b2))))
noncomputable def q207 (p2:SProbe) (speed:Int) (charge:Int):Option (Int × Int):=
 Option.bind (q99 p2) fun v=>bif (!v) then (some (0,1)) else (Option.bind (q101 speed charge) fun v2=>bif (!v2) then (some (0,2)) else (Option.bind (q274 speed charge) fun v3=>Option.bind (getI p2.Cells v3) fun x=>some (minI 1300 (maxI 700 (w64 (p2.Factor + x.Value))),0)))
noncomputable def q55 (n2:Int):Option Bool:=
 some ((decide (n2 ≥ 0)) && (decide (n2 ≤ 1048576)))
noncomputable def q279 (charge:Int) (factor:Int):Option (Int × Int):=
 Option.bind (q55 charge) fun v=>bif (((!v) || (decide (factor < 500))) || (decide (factor > 2000))) then (some (0,2)) else (Option.bind (quoM .i64 (w64 (charge * 10000)) (w64 (factor * 147))) fun q=>some (q,0))
noncomputable def q169 (b2:SBody):Option Bool:=
 some ((((decide (b2.Film ≥ 0)) && (decide (b2.Film ≤ 1023))) && (decide (b2.Evaporate ≥ 0))) && (decide (b2.Evaporate ≤ 1024)))
noncomputable def q131 (b2:SBody) (film:Int):Option Int:=
 some (w64 (Int.tdiv (w64 (film * b2.Evaporate)) 1024))
noncomputable def q85 (b2:SBody) (inject:Int):Option Int:=
 some (w64 (Int.tdiv (w64 (inject * b2.Film)) 1024))
noncomputable def q121 (b2:SBody) (film:Int) (inject:Int):Option (Int × Int × Int):=
 Option.bind (q169 b2) fun v=>bif (!v) then (some (0,0,1)) else (Option.bind (bif ((decide (film < 0)) || (decide (film > 1073741824))) then (some true) else (Option.bind (q55 inject) fun v2=>some (!v2))) fun b3=>bif b3 then (some (0,0,2)) else (Option.bind (q85 b2 inject) fun v3=>Option.bind (q131 b2 film) fun v4=>bif (decide ((w64 ((w64 (film + v3)) - v4)) > 1073741824)) then (some (0,0,9)) else (Option.bind (q85 b2 inject) fun v5=>Option.bind (q131 b2 film) fun v6=>some (w64 ((w64 (inject - v5)) + v6),w64 ((w64 (film + v3)) - v4),0))))
noncomputable def q185 (b2:SBody) (want:Int) (v3:Int) (s:Int × Int):Option ((Int × Int) ⊕ ((Int × Int) ⊕ Empty)):=
 bif (decide (s.1 < s.2)) then (Option.bind (q85 b2 (w64 (Int.tdiv (w64 (s.1 + s.2)) 2))) fun v5=>bif (decide ((w64 ((w64 (Int.tdiv (w64 (s.1 + s.2)) 2)) - v5)) ≥ (maxI 0 (w64 (want - v3))))) then (some (.inl (s.1,w64 (Int.tdiv (w64 (s.1 + s.2)) 2)))) else (some (.inl (w64 ((w64 (Int.tdiv (w64 (s.1 + s.2)) 2)) + 1),s.2)))) else (some (.inr (.inl (s.1,s.2))))
noncomputable def q282 (b2:SBody) (film:Int) (want:Int):Option (Int × Int × Int):=
 Option.bind (q169 b2) fun v=>bif (!v) then (some (0,0,1)) else (Option.bind (bif ((decide (film < 0)) || (decide (film > 1073741824))) then (some true) else (Option.bind (q55 want) fun v2=>some (!v2))) fun b3=>bif b3 then (some (0,0,2)) else (Option.bind (q131 b2 film) fun v3=>Option.bind (q85 b2 1048576) fun v4=>bif (decide ((w64 (1048576 - v4)) < (maxI 0 (w64 (want - v3))))) then (some (0,0,9)) else (Option.bind (loopM (q185 b2 want v3) (maxI 0 (w64 (want - v3)),1048576)) fun (t:(Int × Int) ⊕ Empty)=>match t with | .inl s2=>(Option.bind (q121 b2 film s2.2) fun r2=>bif (r2.2.2 != 0) then (some (0,0,r2.2.2)) else (some (s2.2,r2.2.1,0))) | .inr r=>r.elim)))
noncomputable def q347 (t2:STables) (n2:Int) (mv:Int):Option Int:=
 Option.bind (q176 t2) fun v=>bif (!v) then (some 1) else (Option.bind (q55 n2) fun v2=>bif (((!v2) || (decide (mv < 0))) || (decide (mv > 20000))) then (some 2) else (some 0))
noncomputable def q283 (t2:STables) (n2:Int) (mv:Int):Option (Int × Int):=
 Option.bind (q347 t2 n2 mv) fun v=>bif (v != 0) then (some (0,v)) else (bif (n2 == 0) then (some (0,0)) else (Option.bind (q118 t2.Dead mv) fun v2=>some (w64 (v2 + (w64 (Int.tdiv (w64 (n2 + 2)) 3))),0)))
noncomputable def q377 (t2:STables) (speed:Int) (charge:Int):Option Int:=
 Option.bind (q116 t2.Spark speed charge) fun v=>some v
noncomputable def q248 (t2:STables) (speed:Int) (charge:Int) (coolant:Int) (retard:Int):Option Int:=
 Option.bind (q377 t2 speed charge) fun v=>Option.bind (bif (decide (coolant < 20)) then (some (w64 ((w64 (v - retard)) + (w64 (2 * (w64 (20 - coolant))))))) else (some (w64 (v - retard)))) fun (a:Int)=>Option.bind (bif (decide (coolant > 100)) then (some (w64 (a - (w64 (8 * (w64 (coolant - 100))))))) else (some a)) fun (a2:Int)=>bif (decide (a2 < (-1280))) then (some (-1280)) else (bif (decide (a2 > 3840)) then (some 3840) else (some a2))
noncomputable def q236 (t2:STables) (millivolts:Int) (ticks:Int):Option Int:=
 Option.bind (q118 t2.Dwell millivolts) fun v=>bif (decide (v > (w64 (Int.tdiv (w64 (3 * ticks)) 4)))) then (some (w64 (Int.tdiv (w64 (3 * ticks)) 4))) else (some v)
noncomputable def q222 (cylinders:Int) (fired:Int) (cycle:Int) (i:Int):Option Bool:=
 Option.bind (remM (w64 (i + cycle)) cylinders) fun q=>Option.bind (quoM .i64 (w64 ((w64 (q + 1)) * fired)) cylinders) fun q2=>Option.bind (quoM .i64 (w64 (q * fired)) cylinders) fun q3=>some (decide (q2 > q3))
noncomputable def q180 (v_in:SInputs) (s3:Int × List SRequest):Option ((Int × List SRequest) ⊕ ((Int × List SRequest) ⊕ Empty)):=
 bif (decide (s3.1 < (v_in.Requests.length:Int))) then (Option.bind (getI v_in.Requests s3.1) fun x=>Option.bind (appendM s3.2 ([x]:List SRequest)) fun l2=>some (.inl (w64 (s3.1 + 1),l2))) else (some (.inr (.inl (s3.1,s3.2))))
noncomputable def q182 (e2:SEngine) (c:SControls) (v_in:SInputs) (s5:Int × List SKnock):Option ((Int × List SKnock) ⊕ ((Int × List SKnock) ⊕ Empty)):=
 bif (decide (s5.1 < (e2.Order.length:Int))) then (Option.bind (Option.bind (getI c.Knock s5.1) fun x2=>Option.bind (getI v_in.Intensity s5.1) fun x3=>Option.bind (q280 x2 x3) fun r6=>some r6.1) fun (f2:SKnock)=>Option.bind (appendM s5.2 ([f2]:List SKnock)) fun l3=>some (.inl (w64 (s5.1 + 1),l3))) else (some (.inr (.inl (s5.1,s5.2))))
noncomputable def q187 (t2:STables) (e2:SEngine) (v_in:SInputs) (r4:Int × Int) (r5:Int × Int) (s6:Int × List SKnock) (ticks:Int) (v12:Int) (s8:Int × List SFire):Option ((Int × List SFire) ⊕ ((Int × List SFire) ⊕ Empty)):=
 bif (decide (s8.1 < (e2.Order.length:Int))) then (Option.bind (getI s6.2 s8.1) fun x4=>Option.bind (q248 t2 v_in.Speed r4.1 v_in.Coolant x4.Retard) fun v13=>Option.bind (q236 t2 v_in.Voltage v12) fun v14=>Option.bind (q222 (e2.Order.length:Int) r5.1 0 s8.1) fun v15=>Option.bind (bif v15 then (some ticks) else (some 0)) fun (f3:Int)=>Option.bind (appendM s8.2 ([(⟨w64 (s8.1 + 1),maxI (-1280) (w64 (v13 - r5.2)),maxI 500 v14,5760,f3,0,0⟩:SFire)]:List SFire)) fun l4=>some (.inl (w64 (s8.1 + 1),l4))) else (some (.inr (.inl (s8.1,s8.2))))
noncomputable def q67 (t2:STables) (e2:SEngine) (b2:SBody) (c:SControls) (v_in:SInputs):Option (SControls × SOutputs × Int):=
 Option.bind (q235 t2) fun v=>Option.bind (bif (!v) then (some true) else (Option.bind (q241 b2) fun v2=>some (!v2))) fun b3=>Option.bind (bif b3 then (some true) else (Option.bind (q267 e2 c) fun v3=>some (!v3))) fun b4=>bif b4 then (some ((⟨(⟨0,0,false⟩:SPedal),(⟨0⟩:SIntegral),([]:List SKnock),(⟨false,false,0,0,([]:List SCell)⟩:SProbe),0,(⟨0,0⟩:SGrant)⟩:SControls),(⟨0,([]:List SFire),0⟩:SOutputs),1)) else (Option.bind (q226 v_in (e2.Order.length:Int)) fun v4=>bif (!v4) then (some ((⟨(⟨0,0,false⟩:SPedal),(⟨0⟩:SIntegral),([]:List SKnock),(⟨false,false,0,0,([]:List SCell)⟩:SProbe),0,(⟨0,0⟩:SGrant)⟩:SControls),(⟨0,([]:List SFire),0⟩:SOutputs),2)) else (Option.bind (q269 c.Pedal v_in.Pedal1 v_in.Pedal2) fun v5=>Option.bind (q268 t2 v5.Value v_in.Speed) fun r2=>Option.bind (q213 v5.Value v_in.Speed v_in.Coolant) fun v6=>Option.bind (bif v6 then (Option.bind (Option.bind (q89 v_in.Coolant) fun v7=>Option.bind (q175 c.Idle t2.Idle v7 v_in.Speed) fun r3=>some (r3.2.1,r3.1.Sum)) fun (s:Int × Int)=>Option.bind (q32 s.1 (-5000) 10000) fun v8=>Option.bind (appendM ([(⟨0,3,r2.1,0⟩:SRequest)]:List SRequest) ([(⟨1,2,v8,1⟩:SRequest)]:List SRequest)) fun l=>some (s.2,l)) else (some (0,([(⟨0,3,r2.1,0⟩:SRequest)]:List SRequest)))) fun (s2:Int × List SRequest)=>Option.bind (loopM (q180 v_in) (0,s2.2)) fun (t:(Int × List SRequest) ⊕ Empty)=>match t with | .inl s4=>(Option.bind (q251 c.Grant s4.2) fun v9=>Option.bind (q152 t2 b2 v_in (maxI 0 v9.Torque)) fun v10=>Option.bind (q208 t2 v_in.Speed v_in.Pressure v_in.AirTemp) fun r4=>Option.bind (q232 t2 v_in.Speed r4.1 (maxI 0 v9.Torque) (e2.Order.length:Int)) fun r5=>Option.bind (loopM (q182 e2 c v_in) (0,([]:List SKnock))) fun (t:(Int × List SKnock) ⊕ Empty)=>match t with | .inl s6=>(Option.bind (q273 c.Probe v_in.Lambda v_in.Speed r4.1) fun r7=>Option.bind (q207 r7.1 v_in.Speed r4.1) fun r8=>Option.bind (q279 r4.1 1000) fun r9=>Option.bind (q282 b2 c.Film (minI 1048576 (w64 (Int.tdiv (w64 (r9.1 * r8.1)) 1000)))) fun r10=>Option.bind (bif ((r10.2.2 != 0) || (r5.1 == 0)) then (Option.bind (q121 b2 c.Film 0) fun r11=>some (0,r11.2.1)) else (some (r10.1,r10.2.1))) fun (s7:Int × Int)=>Option.bind (q283 t2 s7.1 v_in.Voltage) fun r12=>Option.bind (bif (decide (s7.1 > 0)) then (Option.bind (q32 r12.1 200 20000) fun v11=>some v11) else (some r12.1)) fun (ticks:Int)=>Option.bind (quoM .i64 60000000 (maxI 1 v_in.Speed)) fun q=>Option.bind (q32 q 4000 1000000) fun v12=>Option.bind (loopM (q187 t2 e2 v_in r4 r5 s6 ticks v12) (0,([]:List SFire))) fun (t:(Int × List SFire) ⊕ Empty)=>match t with | .inl s9=>(Option.bind (q88 t2 v_in.Speed r4.1 r5.2 r5.1 (e2.Order.length:Int)) fun v16=>Option.bind (some (0,(⟨v5,(⟨s2.1⟩:SIntegral),s6.2,r7.1,s7.2,v9⟩:SControls),(⟨v10,s9.2,v16⟩:SOutputs))) fun (s10:Int × SControls × SOutputs)=>some ((⟨(⟨s10.2.1.Pedal.Value,s10.2.1.Pedal.Differ,s10.2.1.Pedal.Fault⟩:SPedal),(⟨s10.2.1.Idle.Sum⟩:SIntegral),s10.2.1.Knock,(⟨s10.2.1.Probe.Active,s10.2.1.Probe.Rich,s10.2.1.Probe.Factor,s10.2.1.Probe.Wait,s10.2.1.Probe.Cells⟩:SProbe),s10.2.1.Film,(⟨s10.2.1.Grant.Torque,s10.2.1.Grant.Source⟩:SGrant)⟩:SControls),s10.2.2,s10.1)) | .inr r=>r.elim) | .inr r=>r.elim) | .inr r=>r.elim))
noncomputable def q140 (a:SOutputs) (b2:SOutputs) (i:Int):Option (Int ⊕ (Int ⊕ Bool)):=
 bif (decide (i < (a.Fires.length:Int))) then (Option.bind (getI a.Fires i) fun x=>Option.bind (getI b2.Fires i) fun x2=>bif (!((x.Cylinder == x2.Cylinder) && ((x.Spark == x2.Spark) && ((x.Dwell == x2.Dwell) && ((x.End == x2.End) && ((x.Inject == x2.Inject) && ((x.Gap == x2.Gap) && ((x.Extra == x2.Extra) && true)))))))) then (some (.inr (.inr false))) else (some (.inl (w64 (i + 1))))) else (some (.inr (.inl i)))
noncomputable def q74 (a:SOutputs) (b2:SOutputs):Option Bool:=
 bif (((a.Throttle != b2.Throttle) || (a.Torque != b2.Torque)) || ((a.Fires.length:Int) != (b2.Fires.length:Int))) then (some false) else (Option.bind (loopM (q140 a b2) 0) fun (t:Int ⊕ Bool)=>match t with | .inl _=>(some true) | .inr r2=>some r2)
noncomputable def q106 (t2:STables) (e2:SEngine) (b2:SBody) (c:SControls) (v_in:SInputs):Option Bool:=
 Option.bind (q221) fun v=>bif (!v) then (some false) else (Option.bind (q321 t2) fun v2=>Option.bind (bif (!v2) then (some true) else (Option.bind (q353 e2 c v_in) fun v3=>some (!v3))) fun b3=>bif b3 then (some true) else (Option.bind (q139 t2 e2 b2 c v_in) fun r2=>Option.bind (q67 t2 e2 b2 c v_in) fun r3=>Option.bind (q172 (⟨(⟨r2.1.Pedal.Value,r2.1.Pedal.Differ,r2.1.Pedal.Fault⟩:SPedal),(⟨r2.1.Idle.Sum⟩:SIntegral),r2.1.Knock,(⟨r2.1.Probe.Active,r2.1.Probe.Rich,r2.1.Probe.Factor,r2.1.Probe.Wait,r2.1.Probe.Cells⟩:SProbe),r2.1.Film,(⟨r2.1.Grant.Torque,r2.1.Grant.Source⟩:SGrant)⟩:SControls) (⟨(⟨r3.1.Pedal.Value,r3.1.Pedal.Differ,r3.1.Pedal.Fault⟩:SPedal),(⟨r3.1.Idle.Sum⟩:SIntegral),r3.1.Knock,(⟨r3.1.Probe.Active,r3.1.Probe.Rich,r3.1.Probe.Factor,r3.1.Probe.Wait,r3.1.Probe.Cells⟩:SProbe),r3.1.Film,(⟨r3.1.Grant.Torque,r3.1.Grant.Source⟩:SGrant)⟩:SControls)) fun v4=>Option.bind (bif v4 then (Option.bind (q74 r2.2.1 r3.2.1) fun v5=>some v5) else (some false)) fun b4=>some (b4 && (r2.2.2 == r3.2.2))))
end Go.Pv

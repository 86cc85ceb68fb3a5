/- A part of the proof of EcuBroken: The value machine, and more. -/
import Derived.Below
import Derived.Laws.Rows
import Derived.Laws.CopyRow
import Derived.Laws.AppendOwn
import Derived.Tactics
import Derived.Lib.LaidTab
import Derived.Lib.ItoaNum
set_option linter.all false
set_option maxRecDepth 100000
noncomputable section
open Bool renaming and_eq_true->aK5,not_eq_true'->bG5
open Int renaming ofNat->ff8
open List renaming getD_eq_getElem?_getD->cY4,getElem?_eq_getElem->aX4,getElem?_eq_some_iff->bG6,getElem?_map->dr2,getElem_append_left->dM2,getElem_append_right->ez8,getElem_drop->eV4,getElem_map->dc0,length_cons->bu9,length_drop->en4,length_map->bY6,map_cons->cN4
open List.cons renaming injEq->fe6
open Nat renaming add_assoc->ef0,beq->br8,beq_refl->cG4,ble->dE8,blt->bi3,eq_of_beq_eq_true->bq8,le_of_ble_eq_true->bd6,le_refl->bO2,le_trans->eC9,lt_of_lt_of_le->dp8,succ_mul->dN2,zero_lt_one->ff2
open Option renaming bind_some->aF2,getD_some->ep8,map_some->bN9
open Option.some renaming inj->ca0,injEq->aI6
open Prod.mk renaming injEq->ba7
open Go.Result renaming andThen_ok->bd5
open Go.Sem renaming run_bind->bq9,run_pure->bB8
theorem fk6{α:Sort _}(a b:α):cond false a b=b:=rfl
theorem fk7{α:Sort _}(a b:α):cond true a b=a:=rfl
theorem fk8{p:Prop}[Decidable p](h:p):decide p=true:=decide_eq_true h
theorem fk9{p:Prop}[Decidable p](h:¬p):decide p=false:=decide_eq_false h
theorem fl2{p:Prop}[Decidable p]:(decide p=true)=p:=decide_eq_true_eq
theorem fl3{p:Prop}[Decidable p]:(decide p=false)↔¬p:=decide_eq_false_iff_not
namespace Go.Pv
open Go.RowKit
inductive Tree where
 |v (x:Value)
 |sl (n:Nat) (rows:List (List Tree))
inductive T where
 |t (x:Tree)
 |el (cells:List Tree)
 |ptr (id off:Nat)
 |own (id:Nat)
 |pe (id i sz off:Nat)
 |vw (id lo n sz:Nat)
 |agg (l:List T)
 |P4 (l:List T)
 |clo (f:FuncId) (cap:List T)
 |fz (f:FuncId) (aW8:List (List Tree))
 |any
inductive RT (w:World)(S:Nat->Prop):Value->Tree->Prop
 |v (x:Value):RT w S x (.v x)
 |slE (a:Option Addr) (cap:Nat):RT w S (.slice a 0 cap) (.sl 0 [])
 |sl (b o cap sz:Nat) (rows:List (List Tree)) (vs:Nat->Nat->Value)
   (bF1:rows.length<=cap) (hS:S b) (hsz:∀r,r∈rows->r.length=sz)
   (hc:∀i j,i<rows.length->j<sz->w.cell? ⟨b,o+i*sz+j,none⟩=some (vs i j))
   (hr:∀i j (hi:i<rows.length) (hj:j<(rows[i]).length),RT w S (vs i j) ((rows[i])[j])):
   RT w S (.slice (some ⟨b,o,none⟩) rows.length cap) (.sl rows.length rows)
theorem RT.mono {w w':World}{S S':Nat->Prop}(hS:∀b,S b->S' b)(hw:∀b,S b->w'.heap[b]? =w.heap[b]?){x:Value}{t:Tree}(h:RT w S x t):RT w' S' x t:=by
 induction h with
 |v x=>exact .v x
 |slE a cap=>exact .slE a cap
 |sl b o cap sz rows vs bF1 hb hsz hc _ ih=>
  exact .sl b o cap sz rows vs bF1 (hS b hb) hsz (fun i j hi hj=>(World.cell?_of_block (w:=w) (w':=w') (a:=⟨b,o+i*sz+j,none⟩) (hw b hb)).trans (hc i j hi hj)) ih
def PF (w:World)(S:Nat->Prop)(v:Value)(cells:List Tree):Prop:=
 ∃(b o:Nat) (vs:Nat->Value),v= .pointer (some ⟨b,o,none⟩)/\S b/\(∀j,j<cells.length->w.cell? ⟨b,o+j,none⟩=some (vs j))/\∀j (hj:j<cells.length),RT w S (vs j) (cells[j])
theorem PF.mono {w w':World}{S S':Nat->Prop}(hS:∀b,S b->S' b)(hw:∀b,S b->w'.heap[b]? =w.heap[b]?){v:Value}{cells:List Tree}(h:PF w S v cells):PF w' S' v cells:=by
 obtain⟨b,o,vs,rfl,hb,hc,hr⟩:=h
 exact⟨b,o,vs,rfl,hS b hb,fun j hj=>(World.cell?_of_block (w:=w) (w':=w') (a:=⟨b,o+j,none⟩) (hw b hb)).trans (hc j hj),fun j hj=>(hr j hj).mono hS hw⟩
inductive RV (w:World)(S:Nat->Prop)(E:Nat->Value):Value->T->Prop
 |t {x:Value}{y:Tree} (h:RT w S x y):RV w S E x (.t y)
 |el (b o:Nat) (cells:List Tree) (vs:Nat->Value) (hS:S b)
   (hc:∀j,j<cells.length->w.cell? ⟨b,o+j,none⟩=some (vs j))
   (hr:∀j (hj:j<cells.length),RT w S (vs j) (cells[j])):RV w S E (.pointer (some ⟨b,o,none⟩)) (.el cells)
 |ptr (id off β:Nat) (h:E id= .pointer (some ⟨β,0,none⟩)):RV w S E (.pointer (some ⟨β,off,none⟩)) (.ptr id off)
 |own (id:Nat) (x:Value) (h:E id=x):RV w S E x (.own id)
 |pe (id i sz off β n cap:Nat) (h:E id= .slice (some ⟨β,0,none⟩) n cap):RV w S E (.pointer (some ⟨β,i*sz+off,none⟩)) (.pe id i sz off)
 |vw (id lo n sz c:Nat) (a:Option Addr) (h:n=0\/∃β m cap,E id= .slice (some ⟨β,0,none⟩) m cap/\a=some ⟨β,lo*sz,none⟩):RV w S E (.slice a n c) (.vw id lo n sz)
 |agg (vs:List Value) (l:List T) (hl:vs.length=l.length) (h:∀j (h1:j<vs.length) (h2:j<l.length),RV w S E (vs[j]) (l[j])):RV w S E (.agg vs.toArray) (.agg l)
 |P4 (vs:List Value) (l:List T) (hl:vs.length=l.length) (h:∀j (h1:j<vs.length) (h2:j<l.length),RV w S E (vs[j]) (l[j])):RV w S E (.tuple vs.toArray) (.P4 l)
 |clo (f:FuncId) (vs:List Value) (l:List T) (hl:vs.length=l.length) (h:∀j (h1:j<vs.length) (h2:j<l.length),RV w S E (vs[j]) (l[j])):RV w S E (.func (.func f) #[] vs.toArray) (.clo f l)
 |fz (f:FuncId) (vs:List Value) (l:List (List Tree)) (hl:vs.length=l.length) (h:∀j (h1:j<vs.length) (h2:j<l.length),PF w S (vs[j]) (l[j])):RV w S E (.func (.func f) #[] vs.toArray) (.fz f l)
 |any (x:Value):RV w S E x .any
mutual
def names (d:Nat):T->Bool
 | .t _| .el _| .fz _ _| .any=>false
 | .ptr id _=>br8 id d
 | .own id=>br8 id d
 | .pe id _ _ _=>br8 id d
 | .vw id _ _ _=>br8 id d
 | .agg l=>bb6 d l
 | .P4 l=>bb6 d l
 | .clo _ l=>bb6 d l
def bb6 (d:Nat):List T->Bool
 |[]=>false
 |x::r=>names d x||bb6 d r
end
theorem bj5 {d:Nat}:∀{l:List T},bb6 d l=false->∀j (h:j<l.length),names d (l[j])=false
 |[],_,j,h=>by simp at h
 |x::r,hn,j,h=>by
  simp only[bb6,Bool.or_eq_false_iff]at hn
  cases j with
  |zero=>exact hn.1
  |succ j=>exact bj5 hn.2 j (by simpa using h)
theorem RV.mono {w w':World}{S S':Nat->Prop}{E E':Nat->Value}(hS:∀b,S b->S' b)(hw:∀b,S b->w'.heap[b]? =w.heap[b]?){x:Value}{t:T}
  (h:RV w S E x t) (hE:∀id,names id t=true->E' id=E id):RV w' S' E' x t:=by
 induction h with
 |t h=>exact .t (h.mono hS hw)
 |el b o cells vs hb hc hr=>
  exact .el b o cells vs (hS b hb) (fun j hj=>(World.cell?_of_block (w:=w) (w':=w') (a:=⟨b,o+j,none⟩) (hw b hb)).trans (hc j hj)) (fun j hj=>(hr j hj).mono hS hw)
 |ptr id off β h=>exact .ptr id off β (by rw[hE id (by simp[names])];exact h)
 |own id x h=>exact .own id x (by rw[hE id (by simp[names])];exact h)
 |pe id i sz off β n cap h=>exact .pe id i sz off β n cap (by rw[hE id (by simp[names])];exact h)
 |vw id lo n sz c a h=>exact .vw id lo n sz c a (by rw[hE id (by simp[names])];exact h)
 |agg vs l hl _ ih=>
  refine .agg vs l hl fun j h1 h2=>ih j h1 h2 fun id hid=>hE id ?_
  rw[names]
  cases hn:bb6 id l
  ·rw[bj5 hn j h2]at hid;cases hid
  ·rfl
 |P4 vs l hl _ ih=>
  refine .P4 vs l hl fun j h1 h2=>ih j h1 h2 fun id hid=>hE id ?_
  rw[names]
  cases hn:bb6 id l
  ·rw[bj5 hn j h2]at hid;cases hid
  ·rfl
 |clo f vs l hl _ ih=>
  refine .clo f vs l hl fun j h1 h2=>ih j h1 h2 fun id hid=>hE id ?_
  rw[names]
  cases hn:bb6 id l
  ·rw[bj5 hn j h2]at hid;cases hid
  ·rfl
 |fz f vs l hl h=>exact .fz f vs l hl fun j h1 h2=>(h j h1 h2).mono hS hw
 |any x=>exact .any x
inductive G6 where
 |box (ts:List T)
 |rows (elem sz n:Nat) (rs:List (List Tree))
 |mp (es:List (Value×Value))
 |rv (x:Value) (elem sz n:Nat) (rs:List (List Tree))
def bj4 (d:Nat):G6->Bool
 | .box ts=>bb6 d ts
 | .rows ..=>false
 | .mp ..=>false
 | .rv ..=>false
structure St where
 tm:List (Nat×T)
 hp:List (Nat×G6)
def look {α:Type}:List (Nat×α)->Nat->Option α
 |[],_=>none
 |(k,x)::r,n=>bif br8 k n then some x else look r n
def au3 {α:Type}:List (Nat×α)->Nat->α->List (Nat×α)
 |[],_,_=>[]
 |(k,x)::r,n,y=>bif br8 k n then(k,y)::au3 r n y else(k,x)::au3 r n y
def by5 {α:Type}:List (Nat×α)->Nat->List (Nat×α)
 |[],_=>[]
 |(k,x)::r,n=>bif br8 k n then by5 r n else(k,x)::by5 r n
theorem D2 {a b:Nat}(h:a≠b):br8 a b=false:=by
 grind [bq8]
theorem aF0 {α:Type}(l:List (Nat×α))(n:Nat)(y:α)(m:Nat):look (au3 l n y) m=if n=m then(look l m).map (fun _=>y)else look l m:=by
 induction l with
 |nil=>simp[au3,look]
 |cons p r ih=>
  obtain⟨k,x⟩:=p
  simp only[au3]
  by_cases hk:k=n
  ·simp_all[look,D2]
  ·have h1:br8 k n=false:=D2 hk
   simp only[h1,fk6,look]
   grind
def P1 (d:Nat):List (Nat×T)->Bool
 |[]=>true
 |(_,x)::r=>!names d x&&P1 d r
def O6 (d:Nat):List (Nat×G6)->Bool
 |[]=>true
 |(k,x)::r=>!Nat.beq k d&& !bj4 d x&&O6 d r
theorem bc6 {d:Nat}:∀{l:List (Nat×T)},P1 d l=true->∀k x,look l k=some x->names d x=false
 |[],_,k,x,h=>by simp[look]at h
 |(k',y)::r,hf,k,x,h=>by
  simp only[P1,aK5,bG5]at hf
  simp only[look]at h
  cases hb:br8 k' k
  ·rw[hb]at h;exact bc6 hf.2 k x h
  grind
theorem aB0 {d:Nat}:∀{l:List (Nat×G6)},O6 d l=true->∀k x,look l k=some x->k≠d/\bj4 d x=false
 |[],_,k,x,h=>by simp[look]at h
 |(k',y)::r,hf,k,x,h=>by
  simp only[O6,aK5,bG5]at hf
  simp only[look]at h
  cases hb:br8 k' k
  ·rw[hb]at h;exact aB0 hf.2 k x h
  grind
end Go.Pv
namespace Go.Pv
open Go.RowKit
inductive TD where
 |int (k:IntKind)
 |bool
 |string
 |slice (e:Nat)
 |struct (fs:List (Nat×Nat))
 |array (n e:Nat)
 |other
structure TI where
 size:Nat
 desc:TD
 zero:List Value
def TD.isAgg:TD->Bool
 | .struct _| .array _ _=>true
 |_=>false
def TD.ok (P:Program):TD->TypeDesc->Prop
 | .int k,d=>d= .int k
 | .bool,d=>d= .bool
 | .string,d=>d= .string
 | .slice e,d=>d= .slice e
 | .struct l,d=>∃fs:Array Field,d= .struct fs/\l.length=fs.size/\∀(f o n:Nat),l[f]? =some (o,n)->∃(fd:Field) (i:TypeInfo),fs[f]? =some fd/\fd.offset=o/\P.info? fd.type=some i/\i.size=n
 | .array n e,d=>d= .array n e
 | .other,d=>(match d with| .struct _| .array _ _=>true|_=>false)=false
def bh5 (P:Program)(t:Nat)(ti:TI):Prop:=
 ∃i d,P.info? t=some i/\i.size=ti.size/\P.underlying t=some d/\ti.desc.ok P d/\(∃z,i.zero=some z/\z.cells.toList=ti.zero)/\i.bytes<=65536
abbrev Tab:=List (Nat×TI)
def aW1 (P:Program)(C8:Tab):Prop:=∀t ti,look C8 t=some ti->bh5 P t ti
section types
variable {P:Program} {t:Nat} {ti:TI}
theorem bh5.aG6 (h:bh5 P t ti)(w:World):(sizeOf t).run P w= .ok ti.size w:=by
 obtain⟨i,d,hi,hs,_⟩:=h
 simp[sizeOf,typeInfo,hi,hs]
theorem bh5.dp2 (h:bh5 P t ti)(w:World):(isAgg t).run P w= .ok ti.desc.isAgg w:=by
 obtain⟨i,d,hi,hs,hu,hd,_⟩:=h
 unfold isAgg
 rw[bq9,run_underlying hu w]
 cases hx:ti.desc<;>rw[hx]at hd<;>simp only[TD.ok,TD.isAgg]at hd|-
 case struct l=>obtain⟨fs,rfl,_⟩:=hd;simp
 case other=>cases d<;>simp_all
 all_goals simp_all
def bh5.bT3 (h:bh5 P t ti)(w:World):∃z:Value,(zeroValue t).run P w= .ok z w/\z.cells.toList=ti.zero:=by
 obtain⟨i,d,hi,_,_,_,⟨z,hz,hc⟩,_⟩:=h
 simp_all[zeroValue,typeInfo]
def bh5.av0 (h:bh5 P t ti)(w:World):∃d,(underlying t).run P w= .ok d w/\ti.desc.ok P d:=by
 obtain⟨i,d,_,_,hu,hd,_⟩:=h
 grind [run_underlying]
end types
def S0:Value->Option Nat
 | .pointer (some a)=>some a.block
 | .slice (some a) _ _=>some a.block
 | .map (some b)=>some b
 |_=>none
def ca9 (w:World)(S:Nat->Prop)(x:Value)(elem sz n:Nat)(rs:List (List Tree)):Prop:=
 n=rs.length/\((x= .slice none 0 0/\rs=[])\/
   ∃(β cap:Nat) (vs:List Value),cap<=maxLen/\x= .slice (some ⟨β,0,none⟩) rs.length cap/\w.heap[β]? =some (.cells vs.toArray elem (0,0))/\vs.length=cap*sz/\rs.length<=cap/\
    (∀r,r∈rs->r.length=sz)/\∀i j (hi:i<rs.length) (hj:j<(rs[i]).length) (hb:i*sz+j<vs.length),RT w S (vs[i*sz+j]) ((rs[i])[j]))
def be0 (w:World)(S:Nat->Prop)(E:Nat->Value)(x:Value):G6->Prop
 | .box ts=>∃(β:Nat) (vs:List Value) (elem:TypeId),x= .pointer (some ⟨β,0,none⟩)/\w.heap[β]? =some (.cells vs.toArray elem (0,0))/\vs.length=ts.length/\
   (∀j (h1:j<vs.length) (h2:j<ts.length),RV w S E (vs[j]) (ts[j]))/\∀v∈vs,v.oneCell'=true
 | .rows elem sz n rs=>ca9 w S x elem sz n rs
 | .rv y elem sz n rs=>x=y/\ca9 w S x elem sz n rs
 | .mp es=>∃(β clock:Nat) (l:Array MapEntry),x= .map (some β)/\w.heap[β]? =some (.map l clock)/\l.toList.map (fun e=>(e.key,e.val))=es
structure aF1 (d:Bool)(L:Nat->Prop)(w w':World):Prop where
 os:w'.os=w.os
 tape:w'.tape=w.tape
 output:w'.output=w.output
 size:w.heap.size<=w'.heap.size
 block:∀k,k<w.heap.size->¬L k->w'.heap[k]? =w.heap[k]?
 drawn:d=true->w.drawn<=w'.drawn
theorem aF1.refl {d:Bool}(L:Nat->Prop)(w:World):aF1 d L w w:=⟨rfl,rfl,rfl,bO2 _,fun _ _ _=>rfl,fun _=>bO2 _⟩
def aF1.dN8 {d d':Bool}{L:Nat->Prop}{a b:World}(h:aF1 d' L a b)(hd:d=true->d'=true):aF1 d L a b:=⟨h.os,h.tape,h.output,h.size,h.block,fun x=>h.drawn (hd x)⟩
theorem aF1.trans {d:Bool}{L L':Nat->Prop}{a b c:World}(h:aF1 d L a b)(k:aF1 d L' b c)(hL:∀x,L' x->L x\/a.heap.size<=x):aF1 d L a c:=
 ⟨k.os.trans h.os,k.tape.trans h.tape,k.output.trans h.output,eC9 h.size k.size,fun i hi hn=>
  (k.block i (dp8 hi h.size) (fun hx=>by grind)).trans (h.block i hi hn),fun x=>eC9 (h.drawn x) (k.drawn x)⟩
def glN:String:= "internal/strconv.uint64pow10"
def GlL (P:Program)(w:World)(L:Nat->Prop):Prop:=∀b,P.globalNamed glN=some b->¬L b/\b<w.heap.size/\Lib.TabIs P w glN .u64 Lib.pow10Tab
theorem GlL.mono {P:Program}{w:World}{L L':Nat->Prop}(h:GlL P w L)(hL:∀b,L' b->L b):GlL P w L':=fun b hb=>⟨fun x=>(h b hb).1 (hL b x),(h b hb).2⟩
def GlL.keep {P:Program}{w w':World}{d:Bool}{L:Nat->Prop}(h:GlL P w L)(k:aF1 d L w w'):GlL P w' L:=fun b hb=>by
 obtain⟨h0,h1,h2⟩:=h b hb
 refine⟨h0,dp8 h1 k.size,?_⟩
 unfold Lib.TabIs World.var? at h2|-
 rw[hb]at h2|-
 simp only[aF2]at h2|-
 rw[k.block b h1 h0]
 exact h2
theorem GlL.any {P:Program}{w:World}{L:Nat->Prop}(h:GlL P w L):GlL P w (fun _=>False):=h.mono fun _ x=>x.elim
structure Lim where
 bs2:Nat->Prop
 base:Nat->Prop
 pin:Nat->Value
 dr:Bool
def big:Nat:=1000000
structure Ok (w0:World)(L:Lim)(nt:Nat)(σ:St)(S:Nat->Prop)(E:Nat->Value)(a:Act)(w:World):Prop where
 keep:aF1 L.dr L.bs2 w0 w
 aH9:∀b,S b->b<w.heap.size
 base:∀b,S b->L.base b\/L.bs2 b\/w0.heap.size<=b
 size:a.tmps.size=nt
 defers:a.defers=[]
 tm:∀k t,look σ.tm k=some t->RV w S E (a.tmps.getD k undef) t
 hp:∀id blk,look σ.hp id=some blk->be0 w S E (E id) blk
 own:∀id blk β,look σ.hp id=some blk->S0 (E id)=some β->¬S β/\β<w.heap.size/\(w0.heap.size<=β\/L.bs2 β)
 au2:∀id id' blk cD9 β,look σ.hp id=some blk->look σ.hp id'=some cD9->S0 (E id)=some β->S0 (E id')=some β->id=id'
 pin:∀id,big<=id->E id=L.pin id
def Sim (w0:World)(L:Lim)(nt:Nat)(σ:St)(a:Act)(w:World):Prop:=∃S E,Ok w0 L nt σ S E a w
theorem ca9.mono {w w':World}{S S':Nat->Prop}{x:Value}{elem sz n:Nat}{rs:List (List Tree)}(h:ca9 w S x elem sz n rs)(hS:∀b,S b->S' b)
  (hw:∀b,S b->w'.heap[b]? =w.heap[b]?) (hx:∀β,S0 x=some β->w'.heap[β]? =w.heap[β]?):ca9 w' S' x elem sz n rs:=by
 obtain⟨hn,h⟩:=h
 refine⟨hn,?_⟩
 rcases h with⟨h1,h2⟩|⟨β,cap,vs,hm,rfl,hh,hl,hc,hsz,hr⟩
 ·grind
 ·exact .inr ⟨β,cap,vs,hm,rfl,(hx β rfl).trans hh,hl,hc,hsz,fun i j hi hj hb=>(hr i j hi hj hb).mono hS hw⟩
theorem be0.mono {w w':World}{S S':Nat->Prop}{E E':Nat->Value}{x:Value}{b:G6}(h:be0 w S E x b)(hS:∀b,S b->S' b)
  (hw:∀b,S b->w'.heap[b]? =w.heap[b]?) (hx:∀β,S0 x=some β->w'.heap[β]? =w.heap[β]?) (hE:∀id,bj4 id b=true->E' id=E id):be0 w' S' E' x b:=by
 cases b with
 |box ts=>
  obtain⟨β,vs,elem,rfl,hh,hl,hr,h1⟩:=h
  refine⟨β,vs,elem,rfl,(hx β rfl).trans hh,hl,fun j a b=>(hr j a b).mono hS hw fun id hid=>hE id ?_,h1⟩
  grind [bj4,bj5]
 |rows elem sz n rs=>exact ca9.mono h hS hw hx
 |rv y elem sz n rs=>exact⟨h.1,ca9.mono h.2 hS hw hx⟩
 |mp es=>
  obtain⟨β,clock,l,rfl,hh,hl⟩:=h
  exact⟨β,clock,l,rfl,(hx β rfl).trans hh,hl⟩
section
variable {w0:World} {L:Lim} {nt:Nat} {σ:St} {S:Nat -> Prop} {E:Nat -> Value} {a:Act} {w:World}
theorem Ok.put (h:Ok w0 L nt σ S E a w){d:Nat}{v:Value}{t:T}(hd:d<nt)(hv:RV w S E v t):Ok w0 L nt ⟨(d,t)::σ.tm,σ.hp⟩ S E (a.put (some d) v) w:=
 {h with
  size:=by simp[Act.put,h.size]
  defers:=by simp[Act.put,h.defers]
  tm:=fun k t' ht=>by
   simp only[look]at ht
   have hs:=h.size
   by_cases hk:d=k
   ·simp_all[Act.put]
   ·simp only[D2 hk,fk6]at ht
    have:=h.tm k t' ht
    simp_all[Act.put]}
theorem Ok.grow (h : Ok w0 L nt σ S E a w) {w' : World} (hk : aF1 L.dr (fun _ => False) w w') : Ok w0 L nt σ S E a w' := by
  have hS : ∀ b, S b -> w'.heap[b]? = w.heap[b]? := fun b hb => hk.block b (h.aH9 b hb) (fun x => x)
  refine { h with keep := h.keep.trans hk (fun _ x => x.elim), aH9 := fun b hb => dp8 (h.aH9 b hb) hk.size, tm := fun k t ht => (h.tm k t ht).mono (fun _ x => x) hS (fun _ _ => rfl),
                  hp := fun id b hb => (h.hp id b hb).mono (fun _ x => x) hS (fun β hβ => hk.block β (h.own id b β hb hβ).2.1 (fun x => x)) (fun _ _ => rfl),
                  own := fun id b β hb hβ => ⟨(h.own id b β hb hβ).1, dp8 (h.own id b β hb hβ).2.1 hk.size, (h.own id b β hb hβ).2.2⟩ }
theorem Ok.alloc (h:Ok w0 L nt σ S E a w){d:Nat}(aO4:bi3 d big=true)(hf:P1 d σ.tm=true)(hb:O6 d σ.hp=true){o:Obj}{x:Value}{b:G6}
  (hx:S0 x=some w.heap.size) (hok:∀E',(∀id,id≠d->E' id=E id)->be0 (w.alloc o) S E' x b):
  ∃E',E' d=x/\(∀id,id≠d->E' id=E id)/\Ok w0 L nt ⟨σ.tm,(d,b)::σ.hp⟩ S E' a (w.alloc o):=by
 have hk:aF1 L.dr (fun _=>False) w (w.alloc o):=⟨rfl,rfl,rfl,by simp,fun k hk _=>Below.heap_alloc _ _ _ hk,fun _=>bO2 _⟩
 have aO4:d<big:=bd6 aO4
 have h':=h.grow hk
 let E':Nat->Value:=fun id=>if id=d then x else E id
 have hE:∀id,id≠d->E' id=E id:=fun id hid=>by grind
 have hd:E' d=x:=by simp[E']
 have hsz:=h.keep.size
 refine⟨E',hd,hE,{keep:=h'.keep,aH9:=h'.aH9,base:=h'.base,size:=h'.size,defers:=h'.defers,tm:=?_,hp:=?_,own:=?_,au2:=?_,pin:=fun id hid=>by rw[hE id (fun e=>by omega)];exact h.pin id hid}⟩
 ·exact fun k t ht=>(h'.tm k t ht).mono (fun _ x=>x) (fun _ _=>rfl) fun id hid=>hE id fun e=>by
   grind [bc6]
 ·intro id blk hl
  simp only[look]at hl
  by_cases hid:d=id
  ·simp_all
  ·simp only[D2 hid,fk6]at hl
   rw[hE id (fun e=>hid e.symm)]
   exact(h'.hp id blk hl).mono (fun _ x=>x) (fun _ _=>rfl) (fun _ _=>rfl) fun i hi=>hE i fun e=>by
    grind [aB0]
 ·intro id blk β hl hβ
  simp only[look]at hl
  by_cases hid:d=id
  ·subst hid
   rw[hd,hx]at hβ
   cases hβ
   exact⟨fun hS=>absurd (h.aH9 _ hS) (Nat.lt_irrefl _),by simp,.inl hsz⟩
  ·simp only[D2 hid,fk6]at hl
   rw[hE id (fun e=>hid e.symm)]at hβ
   exact h'.own id blk β hl hβ
 ·intro id id' blk cD9 β hl hl' hβ hβ'
  simp only[look]at hl hl'
  by_cases hid:d=id<;>by_cases dw2:d=id'
  ·omega
  ·subst hid
   simp only[D2 dw2,fk6]at hl'
   rw[hd,hx]at hβ;cases hβ
   rw[hE id' (fun e=>dw2 e.symm)]at hβ'
   exact absurd (h.own id' cD9 _ hl' hβ').2.1 (Nat.lt_irrefl _)
  ·subst dw2
   simp only[D2 hid,fk6]at hl
   rw[hd,hx]at hβ';cases hβ'
   rw[hE id (fun e=>hid e.symm)]at hβ
   exact absurd (h.own id blk _ hl hβ).2.1 (Nat.lt_irrefl _)
  ·simp only[D2 hid,D2 dw2,fk6]at hl hl'
   rw[hE id (fun e=>hid e.symm)]at hβ
   rw[hE id' (fun e=>dw2 e.symm)]at hβ'
   exact h.au2 id id' blk cD9 β hl hl' hβ hβ'
end
def val (tm:List (Nat×T)):Operand->Option T
 | .tmp k=>look tm k
 | .const v=>some (.t (.v v))
 | .func f=>some (.fz f [])
 | .global g=>some (.t (.v (.pointer (some ⟨g,0,none⟩))))
def one (hp:List (Nat×G6)):T->Bool
 | .t (.v x)=>x.oneCell'
 | .own id=>(look hp id).isSome
 | .agg _| .P4 _| .any=>false
 |_=>true
def cG2 (hp:List (Nat×G6)):List T->Bool
 |[]=>true
 |x::r=>one hp x&&cG2 hp r
def at7 (hp:List (Nat×G6)):T->Option (List T)
 | .agg l=>bif cG2 hp l then some l else none
 |x=>bif one hp x then some [x]else none
def bh3 (ag:Bool)(n:Nat)(l:List T)(off:Nat):Option T:=
 bif ag then(bif dE8 (off+n) l.length then some (.agg ((l.drop off).take n))else none)else l[off]?
def eb7:List Tree->List T
 |[]=>[]
 |x::r=>.t x::eb7 r
theorem dS6 (l:List Tree):eb7 l=l.map T.t:=by induction l<;>simp_all[eb7]
section
variable {P:Program} {w0:World} {L:Lim} {nt:Nat} {σ:St} {S:Nat -> Prop} {E:Nat -> Value} {a:Act} {w:World}
theorem Ok.val (h:Ok w0 L nt σ S E a w){x:Operand}{t:T}(hx:val σ.tm x=some t):RV w S E (a.eval x) t:=by
 cases x with
 |tmp k=>exact h.tm k t hx
 |const v=>cases hx;exact .t (.v v)
 |func f=>cases hx;exact .fz f [] [] rfl (fun j h1=>by simp)
 |global g=>cases hx;exact .t (.v _)
theorem Ok.one (h:Ok w0 L nt σ S E a w){v:Value}{t:T}(hv:RV w S E v t)(ht:one σ.hp t=true):v.oneCell'=true:=by
 cases hv with
 |t h=>cases h<;>first|exact ht|rfl
 |own id _ hE=>
  subst hE
  simp only[Pv.one,Option.isSome_iff_exists]at ht
  obtain⟨b,hb⟩:=ht
  have:=h.hp id b hb
  cases b with
  |box ts=>obtain⟨β,vs,elem,hx,_⟩:=this;rw[hx];rfl
  |rows elem sz n rs=>obtain⟨_,⟨hx,_⟩|⟨β,cap,vs,_,hx,_⟩⟩:=this<;>rw[hx]<;>rfl
  |mp es=>obtain⟨β,clock,l,hx,_⟩:=this;rw[hx];rfl
  |rv y elem sz n rs=>obtain⟨_,_,⟨hx,_⟩|⟨β,cap,vs,_,hx,_⟩⟩:=this<;>rw[hx]<;>rfl
 |agg vs l=>simp[Pv.one]at ht
 |P4 vs l=>simp[Pv.one]at ht
 |any=>simp[Pv.one]at ht
 |_=>rfl
def dz0 {hp:List (Nat×G6)}:∀{l:List T},cG2 hp l=true->∀j (h:j<l.length),one hp (l[j])=true
 |[],_,j,h=>by simp at h
 |x::r,hn,j,h=>by
  simp only[cG2,aK5]at hn
  cases j with
  |zero=>exact hn.1
  |succ j=>exact dz0 hn.2 j (by simpa using h)
theorem cells_one {v:Value}(h:v.oneCell'=true):v.cells= #[v]:=by cases v<;>first|rfl|(simp[Value.oneCell']at h)
theorem Ok.cells (h:Ok w0 L nt σ S E a w){v:Value}{t:T}{l:List T}(hv:RV w S E v t)(ht:at7 σ.hp t=some l):
  ∃vs:List Value,v.cells=vs.toArray/\vs.length=l.length/\(∀j (h1:j<vs.length) (h2:j<l.length),RV w S E (vs[j]) (l[j]))/\∀x∈vs,x.oneCell'=true:=by
 have plain:∀(hv:RV w S E v t) (ho:Pv.one σ.hp t=true) (hl:l=[t]),∃vs:List Value,v.cells=vs.toArray/\vs.length=l.length/\(∀j (h1:j<vs.length) (h2:j<l.length),RV w S E (vs[j]) (l[j]))/\∀x∈vs,x.oneCell'=true:=by
  intro hv ho hl
  subst hl
  have h1:=h.one hv ho
  refine⟨[v],by rw[cells_one h1],rfl,fun j h1 h2=>?_,by grind⟩
  grind
 cases t with
 |agg l'=>
  simp only[at7]at ht
  cases ho:cG2 σ.hp l'<;>rw[ho]at ht<;>simp at ht
  subst ht
  cases hv with
  |agg vs l hl hr=>
   refine⟨vs,rfl,hl,hr,fun x hx=>?_⟩
   obtain⟨j,hj,rfl⟩:=List.getElem_of_mem hx
   exact h.one (hr j hj (by omega)) (dz0 ho j (by omega))
 |_=>
  grind [at7]
theorem addr_add (b o i:Nat):(⟨b,o,none⟩:Addr).add i=⟨b,o+i,none⟩:=by simp[Addr.add]
def cI7 {t:Nat}{ti:TI}(hti:bh5 P t ti){b o:Nat}{vs:List Value}{l:List T}(hl:vs.length=l.length)
  (hc:∀j (h1:j<vs.length),w.cell? ⟨b,o+j,none⟩=some (vs[j])) (hr:∀j (h1:j<vs.length) (h2:j<l.length),RV w S E (vs[j]) (l[j]))
  {off:Nat}{r:T} (hx:bh3 ti.desc.isAgg ti.size l off=some r):∃v,(Instr.loadAt t (.pointer (some ⟨b,o+off,none⟩))).run P w= .ok v w/\RV w S E v r:=by
 simp only[Instr.loadAt,Instr.sureAddr,bq9,bB8,bd5,loadVar,hti.dp2]
 unfold bh3 at hx
 cases hag:ti.desc.isAgg
 ·simp only[hag,fk6]at hx
  obtain⟨hlt,rfl⟩:=bG6.1 hx
  simp_all
 ·simp only[hag,fk7]at hx
  cases hle:dE8 (off+ti.size) l.length<;>simp only[hle,fk7,fk6,aI6]at hx
  ·cases hx
  subst hx
  have hle:=bd6 hle
  have dw4:(loadCells ⟨b,o+off,none⟩ ti.size).run P w= .ok ((vs.drop off).take ti.size).toArray w:=by
   have:=run_loadCells_list (P:=P) w ⟨b,o+off,none⟩ ((vs.drop off).take ti.size) (fun j v hv=>by
    rw[addr_add,ef0]
    grind)
   grind
  simp only[if_true,bq9,hti.aG6,bd5,dw4,bB8]
  refine⟨_,rfl,.agg _ _ (by simp;omega) fun j h1 h2=>?_⟩
  grind
def Ok.setRow (h:Ok w0 L nt σ S E a w){id β:Nat}{b b':G6}{cur du7:Array Value}{elem:TypeId}(hb:look σ.hp id=some b)(hβ:S0 (E id)=some β)
  (hh:w.heap[β]? =some (.cells cur elem (0,0))) (bS1:(∀b,S b->(w.setRow β du7).heap[b]? =w.heap[b]?)->(w.setRow β du7).heap[β]? =some (.cells du7 elem (0,0))->be0 (w.setRow β du7) S E (E id) b'):
  Ok w0 L nt ⟨σ.tm,au3 σ.hp id b'⟩ S E a (w.setRow β du7):=by
 have cf1:=h.own id b β hb hβ
 have hne:∀k,k≠β->(w.setRow β du7).heap[k]? =w.heap[k]?:=fun k hk=>setRow_other w β k du7 hk
 have hS:∀b,S b->(w.setRow β du7).heap[b]? =w.heap[b]?:=fun k hk=>hne k fun e=>cf1.1 (e▸hk)
 refine{keep:=?_,aH9:=fun b hb=>by simpa using h.aH9 b hb,base:=h.base,size:=h.size,defers:=h.defers,tm:=fun k t ht=>(h.tm k t ht).mono (fun _ x=>x) hS (fun _ _=>rfl),hp:=?_,own:=?_,au2:=?_,pin:=h.pin}
 ·exact h.keep.trans (L':=fun k=>k=β) ⟨rfl,rfl,rfl,by simp,fun k _ hk=>hne k hk,fun _=>bO2 _⟩ fun x hx=>by grind
 ·intro id' blk hl
  rw[aF0]at hl
  by_cases hid:id=id'
  ·subst hid
   simp only[if_true,hb,bN9,aI6]at hl
   grind [setRow_heap]
  ·simp only[hid,if_false]at hl
   refine(h.hp id' blk hl).mono (fun _ x=>x) hS (fun β' hβ'=>hne β' fun e=>?_) (fun _ _=>rfl)
   subst e
   exact hid (h.au2 id id' b blk _ hb hl hβ hβ')
 ·intro id' blk β' hl hβ'
  rw[aF0]at hl
  have:∃b0,look σ.hp id'=some b0:=by
   grind
  obtain⟨b0,hb0⟩:=this
  simpa using h.own id' b0 β' hb0 hβ'
 ·intro i i' x x' β' hl hl' hβ1 hβ2
  rw[aF0]at hl hl'
  have dB8:∀j y,(if id=j then(look σ.hp j).map (fun _=>b')else look σ.hp j)=some y->∃b0,look σ.hp j=some b0:=by
   grind
  obtain⟨b0,hb0⟩:=dB8 i x hl
  obtain⟨b1,hb1⟩:=dB8 i' x' hl'
  exact h.au2 i i' b0 b1 β' hb0 hb1 hβ1 hβ2
def ez5 (hok:Ok w0 L nt σ S E a w){t:Nat}{ti:TI}(hti:bh5 P t ti){id off:Nat}{ts l:List T}{x:T}{v pv:Value}
  (hb:look σ.hp id=some (.box ts)) (hp:RV w S E pv (.ptr id off)) (hv:RV w S E v x) (hx:at7 σ.hp x=some l) (hs:l.length=ti.size) (hle:off+l.length<=ts.length):
  ∃w',(Instr.storeAt t pv v).run P w= .ok () w'/\Ok w0 L nt ⟨σ.tm,au3 σ.hp id (.box (ts.take off++l++ts.drop (off+l.length)))⟩ S E a w':=by
 obtain⟨vs,hvs,hl,hr,h1⟩:=hok.cells hv hx
 obtain⟨β,cs,elem,hE,hh,hcl,hcr,hc1⟩:=hok.hp id _ hb
 cases hp with
 |ptr _ _ β' hE'=>
  rw[hE]at hE'
  cases hE'
  have hst:(Instr.storeAt t (.pointer (some ⟨β,off,none⟩)) v).run P w= .ok () (w.setRow β (cs.take off++vs++cs.drop (off+vs.length)).toArray):=by
   have:=run_storeCells_at (P:=P) β off elem vs 0 cs.toArray w hh (by simp;omega) h1
   have hl2:vs.length=ti.size:=by omega
   simp only[Instr.storeAt,Instr.sureAddr,bq9,bB8,bd5,storeVar,hti.aG6,hvs]
   grind
  refine⟨_,hst,hok.setRow hb (by rw[hE];rfl) hh fun hS bS1=>⟨β,_,elem,hE,bS1,?_,?_,?_⟩⟩
  ·simp;omega
  ·intro j hj1 hj2
   have key:RV w S E ((cs.take off++vs++cs.drop (off+vs.length))[j]'hj1) ((ts.take off++l++ts.drop (off+l.length))[j]'hj2):=by
    grind
   exact key.mono (fun _ x=>x) hS (fun _ _=>rfl)
  grind
end
def aP7 {α:Type}(l:List α)(off:Nat)(m:List α):List α:=l.take off++m++l.drop (off+m.length)
def RVL (w:World)(S:Nat->Prop)(E:Nat->Value)(vs:List Value)(l:List T):Prop:=
 vs.length=l.length/\∀j (h1:j<vs.length) (h2:j<l.length),RV w S E (vs[j]) (l[j])
section
variable {w:World} {S:Nat -> Prop} {E:Nat -> Value}
theorem RVL.aP7 {cs vs:List Value}{ts l:List T}(h:RVL w S E cs ts)(k:RVL w S E vs l){off:Nat}(hle:off+l.length<=ts.length):
  RVL w S E (aP7 cs off vs) (aP7 ts off l):=by
 obtain⟨hcl,hcr⟩:=h
 obtain⟨hl,hr⟩:=k
 unfold Pv.aP7
 refine⟨by simp;omega,fun j hj1 hj2=>?_⟩
 grind
end
theorem cV1 {α:Type}(l:List α)(off:Nat)(m:List α)(h:off+m.length<=l.length)(j:Nat):
  (aP7 l off m)[j]? =if j<off then l[j]?else if j<off+m.length then m[j-off]?else l[j]?:=by
 unfold aP7
 grind
theorem de0 (off:Nat):∀(xs:List Value) (k:Nat) (cs:Array Value),off+k+xs.length<=cs.size->
  (xs.zipIdx k).foldl (fun cs (c,j)=>cs.setIfInBounds (off+j) c) cs=(aP7 cs.toList (off+k) xs).toArray
 |[],k,cs,h=>by simp[aP7]
 |x::xs,k,cs,h=>by
  simp only[bu9]at h
  rw[List.zipIdx_cons,List.foldl_cons,de0 off xs (k+1) _ (by simp;omega)]
  congr 1
  apply List.ext_getElem?
  intro j
  have hlt:off+k<cs.size:=by omega
  rw[cV1 _ _ _ (by simp;omega),cV1 _ _ _ (by simp;omega)]
  grind
def aL5 (hp:List (Nat×G6))(tm:List (Nat×T))(place:Nat->Option (Nat×Nat))(cells:List T):List (Nat×Operand)->Option (List T)
 |[]=>some cells
 |(i,x)::rest=>match place i,(val tm x).bind (at7 hp)with
  |some (o,n),some l=>bif br8 l.length n&&dE8 (o+l.length) cells.length then aL5 hp tm place (aP7 cells o l) rest else none
  |_,_=>none
section
variable {P:Program} {w0:World} {L:Lim} {nt:Nat} {σ:St} {S:Nat -> Prop} {E:Nat -> Value} {a:Act} {w:World}
def cI3 (h:Ok w0 L nt σ S E a w){place:Nat->Option (Nat×Nat)}:∀(parts:List (Nat×Operand)) (cs:Array Value) (ts r:List T),RVL w S E cs.toList ts->
  aL5 σ.hp σ.tm place ts parts=some r->∃cs',Instr.fill place cs (parts.map fun(i,x)=>(i,a.eval x))=some cs'/\RVL w S E cs'.toList r
 |[],cs,ts,r,hr,hx=>by
  simp only[aL5,aI6]at hx
  subst hx
  exact⟨cs,rfl,hr⟩
 |(i,x)::rest,cs,ts,r,hr,hx=>by
  simp only[aL5]at hx
  cases hp:place i with
  |none=>grind
  |some p=>
   obtain⟨o,n⟩:=p
   cases hv:val σ.tm x with
   |none=>grind
   |some t=>
    cases hc:at7 σ.hp t with
    |none=>grind
    |some l=>
     simp only[hp,hv,hc,aF2]at hx
     cases hb:(br8 l.length n&&dE8 (o+l.length) ts.length)<;>simp only[hb,fk7,fk6]at hx
     ·cases hx
     simp only[aK5]at hb
     have hn:=bq8 hb.1
     have hle:=bd6 hb.2
     obtain⟨vs,hvs,hl,hrl,_⟩:=h.cells (h.val hv) hc
     have hsz:cs.size=ts.length:=by simpa using hr.1
     have ih:=cI3 h rest (aP7 cs.toList o vs).toArray (aP7 ts o l) r (by simpa using hr.aP7 ⟨hl,hrl⟩ hle) hx
     simp_all[de0,Instr.fill]
end
def aZ6:Nat->List Value->List Value
 |0,_=>[]
 |n+1,z=>z++aZ6 n z
theorem bs8 (n:Nat)(z:List Value):(aZ6 n z).length=n*z.length:=by
 induction n with
 |zero=>simp[aZ6]
 |succ n ih=>simp[aZ6,ih,dN2,Nat.add_comm]
theorem bX5 (z:List Value)(hz:0<z.length):∀(n i:Nat),i<n*z.length->(aZ6 n z)[i]? =z[i%z.length]?
 |0,i,h=>by simp at h
 |n+1,i,h=>by
  rw[dN2]at h
  simp only[aZ6]
  by_cases hi:i<z.length
  ·rw[List.getElem?_append_left hi,Nat.mod_eq_of_lt hi]
  ·rw[List.getElem?_append_right (by omega),bX5 z hz n (i-z.length) (by omega)]
   congr 1
   exact(Nat.mod_eq_sub_mod (by omega)).symm
theorem dE2 (n:Nat)(z:Array Value)(hz:0<z.size):(Array.range (n*z.size)).map (fun i=>z[i%z.size]!)=(aZ6 n z.toList).toArray:=by
 apply Array.ext'
 apply List.ext_getElem?
 intro i
 by_cases hi:i<n*z.size
 ·rw[show(aZ6 n z.toList).toArray.toList=aZ6 n z.toList from rfl,bX5 z.toList (by omega) n i (by omega)]
  grind [Nat.mod_lt]
 grind [bs8]
def chunk (sz:Nat):Nat->List Tree->List (List Tree)
 |0,_=>[]
 |n+1,l=>l.take sz::chunk sz n (l.drop sz)
def aE3:Tree->Tree
 | .v (.slice none 0 0)=>.sl 0 []
 |x=>x
def bb7 {w:World}{S:Nat->Prop}{v:Value}{x:Tree}(h:RT w S v x):RT w S v (aE3 x):=by
 unfold aE3
 split
 ·cases h;exact .slE _ _
 ·exact h
def dn5:T->T
 | .t x=>.t (aE3 x)
 |x=>x
theorem dn6 {w:World}{S:Nat->Prop}{E:Nat->Value}{v:Value}{x:T}(h:RV w S E v x):RV w S E v (dn5 x):=by
 cases h<;>first|exact .t (bb7 ‹_›)|(simp only[dn5];constructor<;>assumption)
def trees:List T->Option (List Tree)
 |[]=>some []
 | .t x::r=>(trees r).map (aE3 x::·)
 |_::_=>none
theorem cq9:∀{l:List T}{r:List Tree},trees l=some r->l.map dn5=r.map T.t
 |[],r,h=>by grind [trees]
 |x::l,r,h=>by
  cases x<;>simp only[trees,reduceCtorEq]at h
  rename_i y
  cases hl:trees l with
  |none=>simp[hl]at h
  |some m=>
   simp only[hl,bN9,aI6]at h
   subst h
   simp[cq9 hl,dn5]
theorem br7 (sz:Nat):∀(n:Nat) (l:List Tree),(chunk sz n l).length=n
 |0,_=>rfl
 |n+1,l=>by simp[chunk,br7 sz n]
theorem cz9 (sz:Nat):∀(n:Nat) (l:List Tree),l.length=n*sz->∀r∈chunk sz n l,r.length=sz
 |0,_,_,r,h=>by simp[chunk]at h
 |n+1,l,hl,r,h=>by
  rw[dN2]at hl
  simp only[chunk,List.mem_cons]at h
  rcases h with rfl|h
  ·simp;omega
  ·exact cz9 sz n (l.drop sz) (by simp;omega) r h
theorem dc3 (sz:Nat):∀(n:Nat) (l:List Tree) (_:l.length=n*sz) (i j:Nat) (hi:i<(chunk sz n l).length) (hj:j<((chunk sz n l)[i]).length) (hb:i*sz+j<l.length),
  ((chunk sz n l)[i])[j]=l[i*sz+j]
 |0,_,_,i,j,hi,_,_=>by omega
 |n+1,l,hl,i,j,hi,hj,hb=>by
  rw[dN2]at hl
  cases i with
  |zero=>simp[chunk]
  |succ i=>
   simp only[chunk,List.getElem_cons_succ]at hj|-
   simp only[chunk,bu9,Nat.add_lt_add_iff_right]at hi
   have hb':i*sz+j<(l.drop sz).length:=by rw[dN2]at hb;simp;omega
   rw[dc3 sz n (l.drop sz) (by simp;omega) i j hi hj hb']
   simp only[eV4]
   congr 1
   rw[dN2];omega
def arith (op:BinOp)(k:IntKind)(x y:Int):Option Value:=
 match op with
 | .add=>some (.int k (k.wrap (x+y)))
 | .sub=>some (.int k (k.wrap (x-y)))
 | .mul=>some (.int k (k.wrap (x*y)))
 | .eql=>some (.bool (x==y))
 | .neq=>some (.bool (x !=y))
 | .lss=>some (.bool (x<y))
 | .leq=>some (.bool (x<=y))
 | .gtr=>some (.bool (x>y))
 | .geq=>some (.bool (x>=y))
 | .quo=>if y=0 then none else some (.int k (k.wrap (x.tdiv y)))
 | .rem=>if y=0 then none else some (.int k (x.tmod y))
 | .and=>some (.int k (k.wrap (BitVec.ofInt k.bits x&&&BitVec.ofInt k.bits y).toNat))
 | .or=>some (.int k (k.wrap (BitVec.ofInt k.bits x|||BitVec.ofInt k.bits y).toNat))
 | .xor=>some (.int k (k.wrap (BitVec.ofInt k.bits x^^^BitVec.ofInt k.bits y).toNat))
 | .andNot=>some (.int k (k.wrap (BitVec.ofInt k.bits x&&& ~~~(BitVec.ofInt k.bits y)).toNat))
 | .shl=>if y<0 then none else some (.int k (k.wrap (x*2^(min y.toNat k.bits))))
 | .shr=>if y<0 then none else some (.int k (x.fdiv (2^(min y.toNat k.bits))))
def sameKind:IntKind->IntKind->Bool
 | .i8,.i8| .i16,.i16| .i32,.i32| .i64,.i64| .u8,.u8| .u16,.u16| .u32,.u32| .u64,.u64=>true
 |_,_=>false
def bW1:BinOp->Bool
 | .shl| .shr=>true
 |_=>false
def el3 (C8:Tab)(op:BinOp)(ty:Nat):Option T->Option T->Option T
 |some (.t (.v (.int k x))),some (.t (.v (.int k' y)))=>bif sameKind k k'||bW1 op then(arith op k x y).map fun v=>.t (.v v)else none
 |some (.t (.v (.bool x))),some (.t (.v (.bool y)))=>match look C8 ty with
  |some ⟨_,.bool,_⟩=>match op with
   | .eql=>some (.t (.v (.bool (x==y))))
   | .neq=>some (.t (.v (.bool (!(x==y)))))
   |_=>none
  |_=>none
 |_,_=>none
def unT (op:UnOp):Option T->Option T
 |some (.t (.v (.bool x)))=>match op with| .not=>some (.t (.v (.bool (!x))))|_=>none
 |some (.t (.v (.int k x)))=>match op with| .neg=>some (.t (.v (.int k (k.wrap (0-x)))))|_=>none
 |_=>none
def co3 (c:Bool):Option T->Option T->Option T
 |some (.t (.v (.bool x))),some (.t (.v (.bool y)))=>some (.t (.v (.bool (bif c then x else y))))
 |a,b=>match c with|true=>a|false=>b
def du6 (C8:Tab)(d:Nat):Option T->Option T
 |some (.t (.v (.int _ x)))=>match look C8 d with
  |some ⟨_,.int k,_⟩=>some (.t (.v (.int k (k.wrap x))))
  |_=>none
 |_=>none
def dx6 (C8:Tab)(hp:List (Nat×G6))(ty:Nat)(x:Option T):Option T:=
 match look C8 ty with
 |some ⟨_,.slice _,_⟩=>match x with
  |some (.t (.sl n _))=>some (.t (.v (.int .i64 n)))
  |some (.t (.v (.slice _ n _)))=>some (.t (.v (.int .i64 n)))
  |some (.own id)=>match look hp id with
   |some (.rows _ _ n _)=>some (.t (.v (.int .i64 n)))
   |_=>none
  |_=>none
 |some ⟨_,.string,_⟩=>match x with
  |some (.t (.v (.string s)))=>some (.t (.v (.int .i64 s.size)))
  |_=>none
 |_=>none
def F7 (x y:Int):Int:=if y<x then y else x
def G8 (x y:Int):Int:=if y>x then y else x
def bE9 (f:Int->Int->Int)(tm:List (Nat×T)):Option T->List Operand->Option T
 |r,[]=>r
 |some (.t (.v (.int k x))),o::rest=>match val tm o with
  |some (.t (.v (.int _ y)))=>bE9 f tm (some (.t (.v (.int k (f x y))))) rest
  |_=>none
 |_,_::_=>none
def by8 (tm:List (Nat×T)):List Operand->Option (List T)
 |[]=>some []
 |o::rest=>match val tm o,by8 tm rest with
  |some x,some l=>some (x::l)
  |_,_=>none
def eq2 (tm:List (Nat×T)):Fn->List Operand->List Operand->Option T
 | .func f,[],captured=>(by8 tm captured).map (.clo f ·)
 |_,_,_=>none
def dt6 (C8:Tab)(σ:St):Callee->List Operand->List TypeId->Option T
 | .builtin .len,[x],[ty]=>dx6 C8 σ.hp ty (val σ.tm x)
 | .builtin .min,x::rest,_=>bE9 F7 σ.tm (val σ.tm x) rest
 | .builtin .max,x::rest,_=>bE9 G8 σ.tm (val σ.tm x) rest
 |_,_,_=>none
def bl5 (C8:Tab)(σ:St)(o:Oper):Option (T×St):=
 match o.op with
 | .move x=>(val σ.tm x).map (·,σ)
 | .assign x=>(val σ.tm x).map (·,σ)
 | .pick c x y=>match val σ.tm c with
  |some (.t (.v (.bool b)))=>(co3 b (val σ.tm x) (val σ.tm y)).map (·,σ)
  |_=>none
 | .alloc e=>match o.dst,look C8 e with
  |some d,some ti=>bif bi3 d big&&P1 d σ.tm&&O6 d σ.hp&&ti.zero.all Value.oneCell' then some (.ptr d 0,⟨σ.tm,(d,.box (ti.zero.map fun z=>.t (.v z)))::σ.hp⟩)else none
  |_,_=>none
 | .box _ x=>match o.dst,(val σ.tm x).bind (at7 σ.hp)with
  |some d,some l=>bif bi3 d big&&P1 d σ.tm&&O6 d σ.hp then some (.ptr d 0,⟨σ.tm,(d,.box l)::σ.hp⟩)else none
  |_,_=>none
 | .load t x=>match val σ.tm x,look C8 t with
  |some (.ptr id off),some ti=>match look σ.hp id with
   |some (.box ts)=>(bh3 ti.desc.isAgg ti.size ts off).map (·,σ)
   |_=>none
  |some (.el cells),some ti=>(bh3 ti.desc.isAgg ti.size (eb7 cells) 0).map (·,σ)
  |_,_=>none
 | .store t x y=>match val σ.tm x,look C8 t,(val σ.tm y).bind (at7 σ.hp)with
  |some (.ptr id off),some ti,some l=>match look σ.hp id with
   |some (.box ts)=>bif br8 l.length ti.size&&dE8 (off+l.length) ts.length then some (.t (.v undef),⟨σ.tm,au3 σ.hp id (.box (aP7 ts off l))⟩)else none
   |_=>none
  |_,_,_=>none
 | .fieldAddr s x f=>match val σ.tm x,look C8 s with
  |some (.ptr id off),some ⟨_,.struct fs,_⟩=>match fs[f]?with
   |some (p,.succ _)=>some (.ptr id (off+p),σ)
   |_=>none
  |some (.el cells),some ⟨_,.struct fs,_⟩=>match fs[f]?with
   |some (p,.succ _)=>some (.el (cells.drop p),σ)
   |_=>none
  |some (.pe id i sz off),some ⟨_,.struct fs,_⟩=>match fs[f]?with
   |some (p,.succ _)=>some (.pe id i sz (off+p),σ)
   |_=>none
  |_,_=>none
 | .nilCheck x=>match val σ.tm x with
  |some (.ptr id off)=>some (.ptr id off,σ)
  |some (.el cells)=>some (.el cells,σ)
  |some (.pe id i sz off)=>some (.pe id i sz off,σ)
  |_=>none
 | .binOp op ty x y _=>(el3 C8 op ty (val σ.tm x) (val σ.tm y)).map (·,σ)
 | .unOp op _ x=>(unT op (val σ.tm x)).map (·,σ)
 | .convert s d x=>match look C8 s with
  |some _=>(du6 C8 d (val σ.tm x)).map (·,σ)
  |none=>none
 | .extract x k=>match val σ.tm x with
  |some (.P4 l)=>(l[k]?).map (·,σ)
  |_=>none
 | .build t parts=>match look C8 t with
  |some ⟨_,.struct fs,z⟩=>(aL5 σ.hp σ.tm (fs[·]?) (z.map fun x=>.t (.v x)) parts.toList).map fun l=>(.agg l,σ)
  |some ⟨_,.array _ e,z⟩=>match look C8 e with
   |some te=>(aL5 σ.hp σ.tm (fun i=>some (i*te.size,te.size)) (z.map fun x=>.t (.v x)) parts.toList).map fun l=>(.agg l,σ)
   |none=>none
  |_=>none
 | .indexAddr t x ix=>match val σ.tm x,look C8 t,val σ.tm ix with
  |some (.ptr id off),some ⟨_,.array n e,_⟩,some (.t (.v (.int _ (.ofNat i))))=>match look C8 e with
   |some te=>bif bi3 i n then some (.ptr id (off+i*te.size),σ)else none
   |none=>none
  |some (.el cells),some ⟨_,.array n e,_⟩,some (.t (.v (.int _ (.ofNat i))))=>match look C8 e with
   |some te=>bif bi3 i n then some (.el (cells.drop (i*te.size)),σ)else none
   |none=>none
  |some (.pe id k sz off),some ⟨_,.array n e,_⟩,some (.t (.v (.int _ (.ofNat i))))=>match look C8 e with
   |some te=>bif bi3 i n then some (.pe id k sz (off+i*te.size),σ)else none
   |none=>none
  |_,_,_=>none
 | .index t x ix=>match val σ.tm x,look C8 t,val σ.tm ix with
  |some (.agg l),some ⟨_,.array n e,_⟩,some (.t (.v (.int _ (.ofNat i))))=>match look C8 e with
   |some te=>bif bi3 i n then(bh3 te.desc.isAgg te.size l (i*te.size)).map (·,σ)else none
   |none=>none
  |_,_,_=>none
 | .makeFunc fn first captured=>(eq2 σ.tm fn first.toList captured.toList).map (·,σ)
 | .call c=>(dt6 C8 σ c.callee c.args.toList c.argTypes.toList).map (·,σ)
 | .buildSlice t n parts=>match o.dst,look C8 t with
  |some d,some ⟨_,.slice e,_⟩=>match look C8 e with
   |some ti=>match aL5 σ.hp σ.tm (fun i=>some (i*ti.size,ti.size)) ((aZ6 n ti.zero).map fun x=>.t (.v x)) parts.toList with
    |some l=>match trees l with
     |some r=>bif bi3 d big&&P1 d σ.tm&&O6 d σ.hp&&br8 r.length (n*ti.size)&&dE8 (n*ti.size) 1000000&&br8 ti.zero.length ti.size&&bi3 0 ti.size
      then some (.own d,⟨σ.tm,(d,.rows e ti.size n (chunk ti.size n r))::σ.hp⟩)else none
     |none=>none
    |none=>none
   |none=>none
  |_,_=>none
 |_=>none
def cI1 (C8:Tab)(tm:List (Nat×T))(hp:List (Nat×G6))(o:Oper):Option (T×St):=
 match o.op with
 | .move x=>(val tm x).map (·,⟨tm,hp⟩)
 | .assign x=>(val tm x).map (·,⟨tm,hp⟩)
 | .pick c x y=>match val tm c with
  |some (.t (.v (.bool b)))=>(co3 b (val tm x) (val tm y)).map (·,⟨tm,hp⟩)
  |_=>none
 | .alloc e=>match o.dst,look C8 e with
  |some d,some ti=>bif bi3 d big&&P1 d tm&&O6 d hp&&ti.zero.all Value.oneCell' then some (.ptr d 0,⟨tm,(d,.box (ti.zero.map fun z=>.t (.v z)))::hp⟩)else none
  |_,_=>none
 | .box _ x=>match o.dst,(val tm x).bind (at7 hp)with
  |some d,some l=>bif bi3 d big&&P1 d tm&&O6 d hp then some (.ptr d 0,⟨tm,(d,.box l)::hp⟩)else none
  |_,_=>none
 | .load t x=>match val tm x,look C8 t with
  |some (.ptr id off),some ti=>match look hp id with
   |some (.box ts)=>(bh3 ti.desc.isAgg ti.size ts off).map (·,⟨tm,hp⟩)
   |_=>none
  |some (.el cells),some ti=>(bh3 ti.desc.isAgg ti.size (eb7 cells) 0).map (·,⟨tm,hp⟩)
  |_,_=>none
 | .store t x y=>match val tm x,look C8 t,(val tm y).bind (at7 hp)with
  |some (.ptr id off),some ti,some l=>match look hp id with
   |some (.box ts)=>bif br8 l.length ti.size&&dE8 (off+l.length) ts.length then some (.t (.v undef),⟨tm,au3 hp id (.box (aP7 ts off l))⟩)else none
   |_=>none
  |_,_,_=>none
 | .fieldAddr s x f=>match val tm x,look C8 s with
  |some (.ptr id off),some ⟨_,.struct fs,_⟩=>match fs[f]?with
   |some (p,.succ _)=>some (.ptr id (off+p),⟨tm,hp⟩)
   |_=>none
  |some (.el cells),some ⟨_,.struct fs,_⟩=>match fs[f]?with
   |some (p,.succ _)=>some (.el (cells.drop p),⟨tm,hp⟩)
   |_=>none
  |some (.pe id i sz off),some ⟨_,.struct fs,_⟩=>match fs[f]?with
   |some (p,.succ _)=>some (.pe id i sz (off+p),⟨tm,hp⟩)
   |_=>none
  |_,_=>none
 | .nilCheck x=>match val tm x with
  |some (.ptr id off)=>some (.ptr id off,⟨tm,hp⟩)
  |some (.el cells)=>some (.el cells,⟨tm,hp⟩)
  |some (.pe id i sz off)=>some (.pe id i sz off,⟨tm,hp⟩)
  |_=>none
 | .binOp op ty x y _=>(el3 C8 op ty (val tm x) (val tm y)).map (·,⟨tm,hp⟩)
 | .unOp op _ x=>(unT op (val tm x)).map (·,⟨tm,hp⟩)
 | .convert s d x=>match look C8 s with
  |some _=>(du6 C8 d (val tm x)).map (·,⟨tm,hp⟩)
  |none=>none
 | .extract x k=>match val tm x with
  |some (.P4 l)=>(l[k]?).map (·,⟨tm,hp⟩)
  |_=>none
 | .build t parts=>match look C8 t with
  |some ⟨_,.struct fs,z⟩=>(aL5 hp tm (fs[·]?) (z.map fun x=>.t (.v x)) parts.toList).map fun l=>(.agg l,⟨tm,hp⟩)
  |some ⟨_,.array _ e,z⟩=>match look C8 e with
   |some te=>(aL5 hp tm (fun i=>some (i*te.size,te.size)) (z.map fun x=>.t (.v x)) parts.toList).map fun l=>(.agg l,⟨tm,hp⟩)
   |none=>none
  |_=>none
 | .indexAddr t x ix=>match val tm x,look C8 t,val tm ix with
  |some (.ptr id off),some ⟨_,.array n e,_⟩,some (.t (.v (.int _ (.ofNat i))))=>match look C8 e with
   |some te=>bif bi3 i n then some (.ptr id (off+i*te.size),⟨tm,hp⟩)else none
   |none=>none
  |some (.el cells),some ⟨_,.array n e,_⟩,some (.t (.v (.int _ (.ofNat i))))=>match look C8 e with
   |some te=>bif bi3 i n then some (.el (cells.drop (i*te.size)),⟨tm,hp⟩)else none
   |none=>none
  |some (.pe id k sz off),some ⟨_,.array n e,_⟩,some (.t (.v (.int _ (.ofNat i))))=>match look C8 e with
   |some te=>bif bi3 i n then some (.pe id k sz (off+i*te.size),⟨tm,hp⟩)else none
   |none=>none
  |_,_,_=>none
 | .index t x ix=>match val tm x,look C8 t,val tm ix with
  |some (.agg l),some ⟨_,.array n e,_⟩,some (.t (.v (.int _ (.ofNat i))))=>match look C8 e with
   |some te=>bif bi3 i n then(bh3 te.desc.isAgg te.size l (i*te.size)).map (·,⟨tm,hp⟩)else none
   |none=>none
  |_,_,_=>none
 | .makeFunc fn first captured=>(eq2 tm fn first.toList captured.toList).map (·,⟨tm,hp⟩)
 | .call c=>(dt6 C8 ⟨tm,hp⟩ c.callee c.args.toList c.argTypes.toList).map (·,⟨tm,hp⟩)
 | .buildSlice t n parts=>match o.dst,look C8 t with
  |some d,some ⟨_,.slice e,_⟩=>match look C8 e with
   |some ti=>match aL5 hp tm (fun i=>some (i*ti.size,ti.size)) ((aZ6 n ti.zero).map fun x=>.t (.v x)) parts.toList with
    |some l=>match trees l with
     |some r=>bif bi3 d big&&P1 d tm&&O6 d hp&&br8 r.length (n*ti.size)&&dE8 (n*ti.size) 1000000&&br8 ti.zero.length ti.size&&bi3 0 ti.size
      then some (.own d,⟨tm,(d,.rows e ti.size n (chunk ti.size n r))::hp⟩)else none
     |none=>none
    |none=>none
   |none=>none
  |_,_=>none
 |_=>none
def evalOp (C8:Tab)(σ:St)(o:Oper):Option (T×St):=match σ with|⟨tm,hp⟩=>cI1 C8 tm hp o
theorem aU6 (C8:Tab)(σ:St)(o:Oper):evalOp C8 σ o=bl5 C8 σ o:=by rfl
def fc1 (P:Program)(o:Oper)(a:Act)(w:World)(v:Value)(w':World):Prop:=
 (execOp a.eval o).run P w= .ok (.value v) w'\/((execOp a.eval o).run P w= .ok .skip w'/\v=undef)
def bT5 {k k':IntKind}(h:sameKind k k'=true):k=k':=by
 cases k<;>cases k'<;>first|rfl|(simp[sameKind]at h)
section
variable {P:Program} {C8:Tab} {w0:World} {L:Lim} {nt:Nat} {σ σ':St} {S:Nat -> Prop} {E:Nat -> Value} {a:Act} {w:World} {t:T}
theorem RV.tv {x y:Value}(h:RV w S E x (.t (.v y))):x=y:=by
 cases h with
 |t h=>cases h;rfl
theorem RV.slice {x:Value}{n:Nat}{rs:List (List Tree)}(h:RV w S E x (.t (.sl n rs))):∃a c,x= .slice a n c:=by
 cases h with
 |t h=>cases h<;>exact⟨_,_,rfl⟩
def ek0 {op:BinOp}{k k':IntKind}{x y:Int}{v:Value}(hk:sameKind k k'=true\/bW1 op=true)(h:arith op k x y=some v):
  (binOp op 0 (.int k x) (.int k' y)).run P w= .ok v w/\∀ty,binOp op ty (.int k x) (.int k' y)=binOp op 0 (.int k x) (.int k' y):=by
 cases op<;>simp only[arith,aI6,reduceCtorEq]at h
 case quo=>
  split at h<;>simp only[aI6,reduceCtorEq]at h
  subst h
  rename_i hy
  obtain rfl:=bT5 (hk.resolve_right (by simp[bW1]))
  simp_all[binOp,Op.intDiv]
 case rem=>
  split at h<;>simp only[aI6,reduceCtorEq]at h
  subst h
  rename_i hy
  obtain rfl:=bT5 (hk.resolve_right (by simp[bW1]))
  simp_all[binOp,Op.intDiv]
 case shl=>
  split at h<;>simp only[aI6,reduceCtorEq]at h
  subst h
  rename_i hy
  exact⟨by simp[binOp,Op.shift,hy],fun ty=>by rfl⟩
 case shr=>
  split at h<;>simp only[aI6,reduceCtorEq]at h
  subst h
  rename_i hy
  exact⟨by simp[binOp,Op.shift,hy],fun ty=>by rfl⟩
 all_goals
  subst h
  obtain rfl:=bT5 (hk.resolve_right (by simp[bW1]))
  exact⟨by simp[binOp,Op.intArith,Op.intCmp,Op.intBits],fun ty=>by simp[binOp]⟩
theorem aA8 (op:BinOp)(ty:Nat)(x y:Operand)(v u:Value)(h1:v≠ .nilIface)(h2:∀l,v≠ .agg l):(eqGuard op ty x y v u).run P w= .ok () w:=by
 unfold eqGuard
 simp_all
def eE6 (K6:aW1 P C8){ty:Nat}{n:Nat}{z:List Value}(hl:look C8 ty=some ⟨n,.bool,z⟩)(x y:Bool):
  (Op.equal ty (.bool x) (.bool y)).run P w= .ok (x==y) w:=by
 obtain⟨d,hd,hok⟩:=(K6 ty _ hl).av0 w
 simp only[TD.ok]at hok
 subst hok
 show(Op.equalIn (9999+1) ty (.bool x) (.bool y)).run P w=_
 rw[Op.equalIn]
 simp[hd]
def eE5 (K6 : aW1 P C8) {op : BinOp} {ty : Nat} {x y : Operand} {X Y : Option T} (hx : ∀ t, X = some t -> RV w S E (a.eval x) t) (hy : ∀ t, Y = some t -> RV w S E (a.eval y) t)
    (h : el3 C8 op ty X Y = some t) : ∃ v, (do eqGuard op ty x y (a.eval x) (a.eval y); binOp op ty (a.eval x) (a.eval y) : Sem Value).run P w = .ok v w /\ RV w S E v t := by
  unfold el3 at h
  split at h
  · rename_i k i k' j
    have e1 := (hx _ rfl).tv
    have e2 := (hy _ rfl).tv
    cases hk : (sameKind k k' || bW1 op) <;> simp only [hk, fk7, fk6, reduceCtorEq] at h
    cases ha : arith op k i j with
    | none => grind
    | some v =>
      simp only [ha, bN9, aI6] at h
      subst h
      obtain ⟨h1, h2⟩ := ek0 (P := P) (w := w) (by simpa using hk) ha
      rw [e1, e2]
      refine ⟨v, ?_, .t (.v v)⟩
      simp_all [aA8]
  · rename_i i j
    have e1 := (hx _ rfl).tv
    have e2 := (hy _ rfl).tv
    rw [e1, e2]
    split at h
    · rename_i n z hl
      have hb := eE6 (w := w) K6 hl i j
      split at h
      · simp only [aI6] at h
        subst h
        exact ⟨_, by simp_all [aA8,binOp], .t (.v _)⟩
      · simp only [aI6] at h
        subst h
        exact ⟨_, by simp_all [aA8,binOp], .t (.v _)⟩
      · cases h
    · cases h
  · cases h
def fa6 {op:UnOp}{x:Value}{X:Option T}(hx:∀t,X=some t->RV w S E x t)(h:unT op X=some t):∃v,(Op.unary op x).run P w= .ok v w/\RV w S E v t:=by
 unfold unT at h
 split at h
 ·have e1:=(hx _ rfl).tv
  subst e1
  split at h
  ·cases h;exact⟨_,by rfl,.t (.v _)⟩
  ·cases h
 ·have e1:=(hx _ rfl).tv
  subst e1
  split at h
  ·cases h;exact⟨_,by rfl,.t (.v _)⟩
  ·cases h
 ·cases h
def eu9 {c:Bool}{x y:Value}{X Y:Option T}(hx:∀t,X=some t->RV w S E x t)(hy:∀t,Y=some t->RV w S E y t)(h:co3 c X Y=some t):RV w S E (if c then x else y) t:=by
 unfold co3 at h
 grind
def en0 (K6:aW1 P C8){s d:Nat}{x:Value}{X:Option T}(hx:∀t,X=some t->RV w S E x t)(h:du6 C8 d X=some t)(hs:∃u,P.underlying s=some u):
  ∃v,(convert s d x).run P w= .ok v w/\RV w S E v t:=by
 unfold du6 at h
 split at h
 ·have e1:=(hx _ rfl).tv
  subst e1
  split at h
  ·rename_i k n z hl
   cases h
   obtain⟨u,hu,hok⟩:=(K6 d _ hl).av0 w
   simp only[TD.ok]at hok
   subst hok
   obtain⟨u,hus⟩:=hs
   exact⟨_,by simp[convert,run_underlying hus,hu,Conv.intToInt],.t (.v _)⟩
  ·cases h
 ·cases h
def eI1 (K6:aW1 P C8)(hok:Ok w0 L nt σ S E a w){ty type:Nat}{x:Value}{X:Option T}(hx:∀t,X=some t->RV w S E x t)(h:dx6 C8 σ.hp ty X=some t):
  ∃v,(Builtin.len_ #[ty] type #[x]).run P w= .ok v w/\RV w S E v t:=by
 unfold dx6 at h
 split at h
 ·rename_i n e z hl
  obtain⟨d,hd,ho⟩:=(K6 ty _ hl).av0 w
  simp only[TD.ok]at ho
  subst ho
  have key:∀(a':Option Addr) (m c:Nat),(Builtin.len_ #[ty] type #[.slice a' m c]).run P w= .ok (.int .i64 m) w:=by
   simp_all[Builtin.len_,goInt]
  split at h
  ·obtain⟨a',c,rfl⟩:=(hx _ rfl).slice
   cases h
   exact⟨_,key _ _ _,.t (.v _)⟩
  ·have e1:=(hx _ rfl).tv
   subst e1
   cases h
   exact⟨_,key _ _ _,.t (.v _)⟩
  ·rename_i id
   split at h
   ·rename_i el sz m rs hb
    cases h
    have hv:=hx _ rfl
    cases hv with
    |own _ _ hEx=>
     subst hEx
     obtain⟨hn,⟨hE,hr⟩|⟨β,cap,vs,_,hE,_⟩⟩:=hok.hp id _ hb
     ·subst hr;simp at hn;subst hn;rw[hE];exact⟨_,key _ _ _,.t (.v _)⟩
     ·rw[hE];subst hn;exact⟨_,key _ _ _,.t (.v _)⟩
   ·cases h
  ·cases h
 ·rename_i n z hl
  obtain⟨d,hd,ho⟩:=(K6 ty _ hl).av0 w
  simp only[TD.ok]at ho
  subst ho
  split at h
  ·have e1:=(hx _ rfl).tv
   subst e1
   cases h
   exact⟨_,by simp[Builtin.len_,hd,goInt],.t (.v _)⟩
  ·cases h
 ·cases h
def cQ1 {f:Int->Int->Int}{g:Value->Value->Sem Value}(hg:∀k x k' y,(g (.int k x) (.int k' y))=pure (.int k (f x y)))(hok:Ok w0 L nt σ S E a w):
  ∀(rest:List Operand) (x:Value) (X:Option T),(∀t,X=some t->RV w S E x t)->∀t,bE9 f σ.tm X rest=some t->
   ∃v,((rest.map a.eval).foldlM g x).run P w= .ok v w/\RV w S E v t
 |[],x,X,hx,t,h=>by
  simp_all[bE9]
 |o::rest,x,X,hx,t,h=>by
  unfold bE9 at h
  split at h
  ·grind
  ·rename_i k i o' rest' heq
   cases heq
   have e1:=(hx _ rfl).tv
   subst e1
   split at h
   ·rename_i k' j hv
    have e2:=(hok.val hv).tv
    have ih:=cQ1 hg hok rest (.int k (f i j)) _ (fun t ht=>by cases ht;exact .t (.v _)) t h
    grind
   ·cases h
  ·cases h
def cr0 (hok:Ok w0 L nt σ S E a w):∀(l:List Operand) (r:List T),by8 σ.tm l=some r->RVL w S E (l.map a.eval) r
 |[],r,h=>by simp[by8]at h;subst h;exact⟨rfl,fun j h1=>by simp⟩
 |o::rest,r,h=>by
  unfold by8 at h
  split at h
  ·rename_i x m hx hm
   cases h
   have ih:=cr0 hok rest m hm
   refine⟨by simp[ih.1],fun j h1 h2=>?_⟩
   cases j with
   |zero=>exact hok.val hx
   |succ j=>exact ih.2 j (by simpa using h1) (by simpa using h2)
  ·cases h
end
section
variable {P:Program} {C8:Tab} {w0:World} {L:Lim} {nt:Nat} {σ σ':St} {S:Nat -> Prop} {E:Nat -> Value} {a:Act} {w:World} {t:T}
theorem aU7 {s f p n m:Nat}{fs:List (Nat×Nat)}{sz:Nat}{z:List Value}(hti:bh5 P s ⟨sz,.struct fs,z⟩)(hf:fs[f]? =some (p,n+1))(b o:Nat)(_:m=p):
  (Instr.fieldAt s (.pointer (some ⟨b,o,none⟩)) f).run P w= .ok (.pointer (some ⟨b,o+p,none⟩)) w:=by
 obtain⟨d,hd,ho⟩:=hti.av0 w
 simp only[TD.ok]at ho
 obtain⟨fds,rfl,hl,hfs⟩:=ho
 obtain⟨fd,i,h1,h2,h3,h4⟩:=hfs f p (n+1) hf
 simp_all[Instr.fieldAt,Instr.sureAddr,fieldPlace,sizeOf,typeInfo,addr_add]
def RV.cI0 {b o:Nat}{cells:List Tree}(h:RV w S E (.pointer (some ⟨b,o,none⟩)) (.el cells))(p:Nat):RV w S E (.pointer (some ⟨b,o+p,none⟩)) (.el (cells.drop p)):=by
 cases h with
 |el _ _ _ vs hS hc hr=>
  refine .el b (o+p) _ (fun j=>vs (p+j)) hS (fun j hj=>?_) (fun j hj=>?_)
  all_goals grind
def RV.ce1 {x:Value}{cells:List Tree}(h:RV w S E x (.el cells)):∃b o,x= .pointer (some ⟨b,o,none⟩):=by cases h with|el b o=>simp
def RV.eX7 {x:Value}{id i sz off:Nat}(h:RV w S E x (.pe id i sz off)):∃b o,x= .pointer (some ⟨b,o,none⟩):=by cases h with|pe _ _ _ _ b=>simp
def RV.bK3 {x:Value}{id off:Nat}(h:RV w S E x (.ptr id off)):∃b,x= .pointer (some ⟨b,off,none⟩)/\E id= .pointer (some ⟨b,0,none⟩):=by cases h with|ptr _ _ b h=>grind
theorem bV5 (l:List Value):RVL w S E l (l.map fun z=>T.t (.v z)):=⟨by simp,fun j h1 h2=>by simpa using RV.t (.v _)⟩
def el7 (K6 : aW1 P C8) (hok : Ok w0 L nt σ S E a w) {ty sz : Nat} {fs : List (Nat × Nat)} {z : List Value} (hl : look C8 ty = some ⟨sz, .struct fs, z⟩) {parts : Array (Nat × Operand)} {l : List T}
    (h : aL5 σ.hp σ.tm (fs[·]?) (z.map fun x => .t (.v x)) parts.toList = some l) : ∃ v, (Instr.build ty (parts.map fun (i, x) => (i, a.eval x))).run P w = .ok v w /\ RV w S E v (.agg l) := by
  obtain ⟨zv, hz, hzc⟩ := (K6 ty _ hl).bT3 w
  obtain ⟨d, hd, ho⟩ := (K6 ty _ hl).av0 w
  simp only [TD.ok] at ho
  obtain ⟨fds, rfl, hlen, hfs⟩ := ho
  simp only at hzc
  have hr : RVL w S E zv.cells.toList (z.map fun x => T.t (.v x)) := by grind [bV5]
  obtain ⟨cs', dR6, hrl⟩ := cI3 hok parts.toList zv.cells _ l hr h
  have hpl : (fds.mapM fun f => (do pure (f.offset, <- sizeOf f.type) : Sem (Nat × Nat))).run P w = .ok fs.toArray w := by
    have key : ∀ (fl : List Field) (k : List (Nat × Nat)), k.length = fl.length -> (∀ (f : Nat) (o n : Nat), k[f]? = some (o, n) -> ∃ (fd : Field) (i : TypeInfo), fl[f]? = some fd /\ fd.offset = o /\ P.info? fd.type = some i /\ i.size = n) ->
        (fl.mapM fun f => (do pure (f.offset, <- sizeOf f.type) : Sem (Nat × Nat))).run P w = .ok k w := by
      intro fl
      induction fl with
      | nil => simp
      | cons f fl ih =>
        intro k hk bN4
        cases k with
        | nil => simp at hk
        | cons q k =>
          obtain ⟨o, n⟩ := q
          obtain ⟨fd, i, h1, h2, h3, h4⟩ := bN4 0 o n rfl
          simp only [List.getElem?_cons_zero, aI6] at h1
          subst h1
          have := ih k (by grind) (fun j o n hj => by simpa using bN4 (j + 1) o n (by grind))
          simp_all [sizeOf,typeInfo]
    have := key fds.toList fs (by omega) (fun f o n hf => by grind)
    rw [Array.mapM_eq_mapM_toList, Sem.run_map, this]
    rfl
  refine ⟨.agg cs', ?_, ?_⟩
  · simp_all [Instr.build]
  · have := RV.agg (w := w) (S := S) (E := E) cs'.toList l hrl.1 hrl.2
    simpa using this
def dt3 (K6:aW1 P C8)(hok:Ok w0 L nt σ S E a w){ty sz n e:Nat}{te:TI}{z:List Value}(hl:look C8 ty=some ⟨sz,.array n e,z⟩)(he:look C8 e=some te){parts:Array (Nat×Operand)}{l:List T}
  (h:aL5 σ.hp σ.tm (fun i=>some (i*te.size,te.size)) (z.map fun x=>.t (.v x)) parts.toList=some l):∃v,(Instr.build ty (parts.map fun(i,x)=>(i,a.eval x))).run P w= .ok v w/\RV w S E v (.agg l):=by
 obtain⟨zv,hz,hzc⟩:=(K6 ty _ hl).bT3 w
 obtain⟨d,hd,ho⟩:=(K6 ty _ hl).av0 w
 simp only[TD.ok]at ho
 subst ho
 simp only at hzc
 have hr:RVL w S E zv.cells.toList (z.map fun x=>T.t (.v x)):=by grind [bV5]
 obtain⟨cs',dR6,hrl⟩:=cI3 hok parts.toList zv.cells _ l hr h
 refine⟨.agg cs',?_,?_⟩
 ·have hp:(parts.map fun(i,x)=>(i,a.eval x)).toList=parts.toList.map fun(i,x)=>(i,a.eval x):=by simp
  simp only[Instr.build,bq9,hz,bd5,hd,(K6 e _ he).aG6 w,hp,dR6,bB8]
 ·have:=RV.agg (w:=w) (S:=S) (E:=E) cs'.toList l hrl.1 hrl.2
  omega
theorem bH5 {t n e i b o:Nat}{ik:IntKind}{te:TI}{sz:Nat}{z:List Value}(K6:aW1 P C8)(hti:look C8 t=some ⟨sz,.array n e,z⟩)(he:look C8 e=some te)(hi:i<n):
  (Instr.indexAt t (.pointer (some ⟨b,o,none⟩)) (.int ik (ff8 i))).run P w= .ok (.pointer (some ⟨b,o+i*te.size,none⟩)) w:=by
 obtain⟨d,hd,ho⟩:=(K6 t _ hti).av0 w
 simp only[TD.ok]at ho
 subst ho
 have hs:=(K6 e _ he).aG6 w
 have c1:(0:Int)<=(ff8 i)/\(ff8 i)<(n:Int):=⟨Int.natCast_nonneg i,by grind⟩
 simp only[Instr.indexAt,asIntOf,bq9,bB8,bd5,hd,Instr.sureAddr,c1,and_self,if_true,hs,addr_add]
 simp
def cK9 {t n e i:Nat}{ik:IntKind}{te:TI}{sz:Nat}{z:List Value}(K6:aW1 P C8)(hti:look C8 t=some ⟨sz,.array n e,z⟩)(he:look C8 e=some te)(hi:i<n){vs:List Value}{l:List T}(hv:RVL w S E vs l){r:T}
  (hr:bh3 te.desc.isAgg te.size l (i*te.size)=some r):∃v,(Instr.index t (.agg vs.toArray) (.int ik (ff8 i))).run P w= .ok v w/\RV w S E v r:=by
 obtain⟨d,hd,ho⟩:=(K6 t _ hti).av0 w
 simp only[TD.ok]at ho
 subst ho
 have hs:=(K6 e _ he).aG6 w
 have hag:=(K6 e _ he).dp2 w
 have c1:(0:Int)<=(ff8 i)/\(ff8 i)<(n:Int):=⟨Int.natCast_nonneg i,by grind⟩
 unfold bh3 at hr
 have hl:=hv.1
 cases hb:te.desc.isAgg
 ·simp only[hb,fk6]at hr
  obtain⟨hlt,rfl⟩:=bG6.1 hr
  have hlt':i*te.size<vs.length:=by omega
  refine⟨vs[i*te.size],?_,hv.2 _ hlt' hlt⟩
  simp_all[Instr.index,asIntOf,part]
 ·simp only[hb,fk7]at hr
  cases hle:dE8 (i*te.size+te.size) l.length<;>simp only[hle,fk7,fk6,aI6,reduceCtorEq]at hr
  subst hr
  have hle:=bd6 hle
  rw[hb]at hag
  refine⟨.agg (vs.toArray.extract (i*te.size) (i*te.size+te.size)),?_,?_⟩
  ·simp_all[Instr.index,asIntOf,part]
  ·have key:=RV.agg (w:=w) (S:=S) (E:=E) ((vs.drop (i*te.size)).take te.size) ((l.drop (i*te.size)).take te.size) (by simp;omega) (fun j h1 h2=>by
    simp only[List.length_take,en4]at h1 h2
    have:=hv.2 (i*te.size+j) (by omega) (by omega)
    grind)
   grind
def cY1 (K6 : aW1 P C8) (hok : Ok w0 L nt σ S E a w) {ty sz e n : Nat} {z : List Value} {ti : TI} (hl : look C8 ty = some ⟨sz, .slice e, z⟩) (he : look C8 e = some ti)
    {parts : Array (Nat × Operand)} {l : List T} (h : aL5 σ.hp σ.tm (fun i => some (i * ti.size, ti.size)) ((aZ6 n ti.zero).map fun x => .t (.v x)) parts.toList = some l)
    (hb1 : n * ti.size <= 1000000) (hb2 : ti.zero.length = ti.size) (hb3 : 0 < ti.size) :
    ∃ cs : Array Value, (Instr.buildSlice ty n (parts.map fun (i, x) => (i, a.eval x))).run P w = .ok (.slice (some ⟨w.heap.size, 0, none⟩) n n) (w.alloc (.cells cs e)) /\ RVL w S E cs.toList l := by
  obtain ⟨d, hd, ho⟩ := (K6 ty _ hl).av0 w
  simp only [TD.ok] at ho
  subst ho
  obtain ⟨zv, hz, hzc⟩ := (K6 e _ he).bT3 w
  have hs := (K6 e _ he).aG6 w
  have hzs : zv.cells.size = ti.size := by grind
  have e1 : ∃ start : Array Value, start.toList = aZ6 n ti.zero /\
      (do let zero <- if n * ti.size = 0 then pure #[] else do pure (<- zeroValue e).cells
          pure ((Array.range (n * ti.size)).map (zero[· % zero.size]!)) : Sem (Array Value)).run P w = .ok start w := by
    by_cases h0 : n * ti.size = 0
    · simp_all [bs8,List.eq_nil_of_length_eq_zero]
    · refine ⟨(aZ6 n ti.zero).toArray, rfl, ?_⟩
      simp only [h0, if_false, bq9, hz, bd5, bB8]
      grind [dE2]
  obtain ⟨start, hst, bg9⟩ := e1
  have hr : RVL w S E start.toList ((aZ6 n ti.zero).map fun x => T.t (.v x)) := by grind [bV5]
  obtain ⟨cs', dR6, hrl⟩ := cI3 hok parts.toList start _ l hr h
  refine ⟨cs', ?_, hrl⟩
  have hp : (parts.map fun (i, x) => (i, a.eval x)).toList = parts.toList.map fun (i, x) => (i, a.eval x) := by simp
  have hlim : ¬ n * ti.size > 2 ^ 24 := by omega
  by_cases h0 : n * ti.size = 0
  · have hr0 : ∀ f : Nat -> Value, (Array.range 0).map f = #[] := fun f => by simp
    simp only [h0, if_true, bq9, bB8, bd5] at bg9
    simp only [Result.ok.injEq, and_true, hr0] at bg9
    simp only [Instr.buildSlice, bq9, hd, bd5, hs, h0, if_true, bB8, hr0, hp]
    simp_all [newRow]
  · simp only [h0, if_false, bq9, hz, bd5, bB8, Result.ok.injEq, and_true] at bg9
    simp only [Instr.buildSlice, bq9, hd, bd5, hs, hlim, if_false, h0, bB8, hz, bg9, hp, dR6]
    rfl
end
section
variable {P:Program} {C8:Tab} {w0:World} {L:Lim} {nt:Nat} {σ σ':St} {S:Nat -> Prop} {E:Nat -> Value} {a:Act} {w:World} {t:T} {o:Oper}
def am3 {v:Value}(h:Ok w0 L nt σ S E a w)(hr:(execOp a.eval o).run P w= .ok (.value v) w)(hv:RV w S E v t):
  ∃v w' E',fc1 P o a w v w'/\Ok w0 L nt σ S E' a w'/\RV w' S E' v t:=⟨v,w,E,.inl hr,h,hv⟩
def S6 {x:Option T}{σ σ':St}{t:T}(h:x.map (·,σ)=some (t,σ')):x=some t/\σ'=σ:=by
 cases x with
 |none=>simp at h
 |some y=>grind
def el5 {vs:List Value}{l:List T}{d e:Nat}(h:Ok w0 L nt σ S E a w)(hr:RVL w S E vs l)(h1:∀x∈vs,x.oneCell'=true)(aO4:bi3 d big=true)(hf:P1 d σ.tm=true)(hb:O6 d σ.hp=true)(hl:bb6 d l=false):
  ∃E',Ok w0 L nt ⟨σ.tm,(d,.box l)::σ.hp⟩ S E' a (w.alloc (.cells vs.toArray e))/\RV (w.alloc (.cells vs.toArray e)) S E' (.pointer (some ⟨w.heap.size,0,none⟩)) (.ptr d 0):=by
 obtain⟨E',hE,_,hok⟩:=h.alloc (o:=.cells vs.toArray e) (x:=.pointer (some ⟨w.heap.size,0,none⟩)) (b:=.box l) aO4 hf hb rfl (fun E' hE'=>by
  refine⟨w.heap.size,vs,e,rfl,heap_alloc_new w _,hr.1,fun j a b=>?_,h1⟩
  refine(hr.2 j a b).mono (fun _ x=>x) (fun b hb=>heap_alloc_old w _ b (h.aH9 b hb)) fun id hid=>hE' id fun eq=>?_
  grind [bj5])
 exact⟨E',hok,.ptr d 0 _ hE⟩
def RV.eP9 {v:Value}{y:Tree}(h:RV w S E v (.t y)):RT w S v y:=by cases h with|t h=>exact h
def dZ5 {d:Nat}{x:Operand}{t:T}(hf:P1 d σ.tm=true)(hx:val σ.tm x=some t):names d t=false:=by
 cases x with
 |tmp k=>exact bc6 hf k t hx
 |const v=>cases hx;rfl
 |func f=>cases hx;rfl
 |global g=>cases hx;rfl
def dv8 {d:Nat}{hp:List (Nat×G6)}{t:T}{l:List T}(hf:names d t=false)(hx:at7 hp t=some l):bb6 d l=false:=by
 cases t with
 |agg m=>
  grind [at7,names]
 |_=>
  grind [at7,bb6]
def eB2 (d:Nat)(l:List Value):bb6 d (l.map fun z=>T.t (.v z))=false:=by
 induction l with
 |nil=>rfl
 |cons x l ih=>grind [bb6,names]
def bE8 (K6:aW1 P C8)(h:Ok w0 L nt σ S E a w)(he:evalOp C8 σ o=some (t,σ')):
  ∃v w' E',fc1 P o a w v w'/\Ok w0 L nt σ' S E' a w'/\RV w' S E' v t:=by
 rw[aU6]at he
 obtain⟨dst,op,type,pos,after,guard⟩:=o
 cases op<;>simp only[bl5,reduceCtorEq]at he
 case move x=>
  obtain⟨hx,rfl⟩:=S6 he
  exact am3 h rfl (h.val hx)
 case assign x=>
  obtain⟨hx,rfl⟩:=S6 he
  exact am3 h rfl (h.val hx)
 case pick c x y=>
  split at he
  ·rename_i b hc
   obtain⟨hx,rfl⟩:=S6 he
   have hcv:=(h.val hc).tv
   exact am3 h (by simp[execOp,hcv,asBool]) (eu9 (fun t ht=>h.val ht) (fun t ht=>h.val ht) hx)
  ·cases he
 case alloc e=>
  split at he
  ·rename_i d ti hti
   cases hb:(bi3 d big&&P1 d σ.tm&&O6 d σ.hp&&ti.zero.all Value.oneCell')<;>simp only[hb,fk7,fk6,reduceCtorEq,aI6,ba7]at he
   obtain⟨rfl,rfl⟩:=he
   simp only[aK5]at hb
   obtain⟨zv,hz,hzc⟩:=(K6 e _ hti).bT3 w
   obtain⟨E',hok,hv⟩:=el5 (e:=e) h (bV5 ti.zero) (by grind) hb.1.1.1 hb.1.1.2 hb.1.2 (eB2 d _)
   refine⟨_,_,E',.inl ?_,hok,hv⟩
   have:zv.cells=ti.zero.toArray:=by rw[<-hzc]
   simp[execOp,Instr.alloc,hz,newVar,newRow,this]
  ·cases he
 case box e x=>
  split at he
  ·rename_i d l hx
   cases hb:(bi3 d big&&P1 d σ.tm&&O6 d σ.hp)<;>simp only[hb,fk7,fk6,reduceCtorEq,aI6,ba7]at he
   obtain⟨rfl,rfl⟩:=he
   simp only[aK5]at hb
   cases hv:val σ.tm x with
   |none=>simp[hv]at hx
   |some y=>
    simp only[hv,aF2]at hx
    obtain⟨vs,hvs,hl,hr,h1⟩:=h.cells (h.val hv) hx
    obtain⟨E',hok,hv'⟩:=el5 (e:=e) h ⟨hl,hr⟩ h1 hb.1.1 hb.1.2 hb.2 (dv8 (dZ5 hb.1.2 hv) hx)
    refine⟨_,_,E',.inl ?_,hok,hv'⟩
    simp[execOp,Instr.box,newVar,newRow,hvs]
  ·cases he
 case load ty x=>
  split at he
  ·rename_i id off ti hx hti
   split at he
   ·rename_i ts hb
    obtain⟨hx',rfl⟩:=S6 he
    obtain⟨β,hpv,hE⟩:=(h.val hx).bK3
    obtain⟨β',vs,elem,hE',hh,hl,hr,_⟩:=h.hp id _ hb
    rw[hE]at hE'
    cases hE'
    obtain⟨v,hv1,hv2⟩:=cI7 (P:=P) (w:=w) (b:=β) (o:=0) (K6 ty _ hti) hl (fun j h1=>by rw[cell_of_row w β (0+j) _ elem _ hh];simp[h1]) hr hx'
    rw[Nat.zero_add]at hv1
    exact am3 h (by simp[execOp,hpv,hv1]) hv2
   ·cases he
  ·rename_i cells ti hx hti
   obtain⟨hx',rfl⟩:=S6 he
   have hv:=h.val hx
   obtain⟨b,o,hpv⟩:=hv.ce1
   rw[hpv]at hv
   cases hv with
   |el _ _ _ vs hS hc hr=>
    obtain⟨v,hv1,hv2⟩:=cI7 (P:=P) (w:=w) (S:=S) (E:=E) (b:=b) (o:=o) (vs:=(List.range cells.length).map vs) (l:=eb7 cells) (K6 ty _ hti) (by simp[dS6])
     (fun j h1=>by simp only[bY6,List.length_range]at h1;rw[hc j h1];simp)
     (fun j h1 h2=>by
      simp only[bY6,List.length_range]at h1
      simp only[dS6,dc0,List.getElem_range]
      exact .t (hr j h1)) hx'
    rw[Nat.add_zero]at hv1
    exact am3 h (by simp[execOp,hpv,hv1]) hv2
  ·cases he
 case store ty x y=>
  split at he
  ·rename_i id off ti l hx hti hy
   split at he
   ·rename_i ts hb
    cases hc:(br8 l.length ti.size&&dE8 (off+l.length) ts.length)<;>simp only[hc,fk7,fk6,reduceCtorEq,aI6,ba7]at he
    obtain⟨rfl,rfl⟩:=he
    simp only[aK5]at hc
    cases hv:val σ.tm y with
    |none=>simp[hv]at hy
    |some u=>
     simp only[hv,aF2]at hy
     obtain⟨w',hs,hok⟩:=ez5 h (K6 ty _ hti) hb (h.val hx) (h.val hv) hy (bq8 hc.1) (bd6 hc.2)
     exact⟨undef,w',E,.inr ⟨by simp[execOp,hs],rfl⟩,hok,.t (.v _)⟩
   ·cases he
  ·cases he
 case nilCheck x=>
  split at he
  ·rename_i id off hx
   simp only[aI6,ba7]at he
   obtain⟨rfl,rfl⟩:=he
   obtain⟨β,hpv,_⟩:=(h.val hx).bK3
   exact am3 (v:=.pointer (some ⟨β,off,none⟩)) h (by simp[execOp,hpv]) (by rw[<-hpv];exact h.val hx)
  ·rename_i cells hx
   simp only[aI6,ba7]at he
   obtain⟨rfl,rfl⟩:=he
   obtain⟨b,o,hpv⟩:=(h.val hx).ce1
   exact am3 (v:=.pointer (some ⟨b,o,none⟩)) h (by simp[execOp,hpv]) (by rw[<-hpv];exact h.val hx)
  ·rename_i id i sz off hx
   simp only[aI6,ba7]at he
   obtain⟨rfl,rfl⟩:=he
   obtain⟨b,o,hpv⟩:=(h.val hx).eX7
   exact am3 (v:=.pointer (some ⟨b,o,none⟩)) h (by simp[execOp,hpv]) (by rw[<-hpv];exact h.val hx)
  ·cases he
 case fieldAddr s x f=>
  split at he
  ·rename_i id off sz fs z hx hti
   split at he
   ·rename_i p n hf
    simp only[aI6,ba7]at he
    obtain⟨rfl,rfl⟩:=he
    obtain⟨β,hpv,hE⟩:=(h.val hx).bK3
    exact am3 h (by simp[execOp,hpv,aU7 (K6 s _ hti) hf β off rfl]) (.ptr id _ β hE)
   ·cases he
  ·rename_i cells sz fs z hx hti
   split at he
   ·rename_i p n hf
    simp only[aI6,ba7]at he
    obtain⟨rfl,rfl⟩:=he
    have hv:=h.val hx
    obtain⟨b,o,hpv⟩:=hv.ce1
    rw[hpv]at hv
    exact am3 h (by simp[execOp,hpv,aU7 (K6 s _ hti) hf b o rfl]) (hv.cI0 p)
   ·cases he
  ·rename_i id i sz' off sz fs z hx hti
   split at he
   ·rename_i p n hf
    simp only[aI6,ba7]at he
    obtain⟨rfl,rfl⟩:=he
    have hv:=h.val hx
    generalize hpv:a.eval x=pv at hv
    cases hv with
    |pe _ _ _ _ β n' cap hE=>
     exact am3 (v:=.pointer (some ⟨β,i*sz'+off+p,none⟩)) h (by simp[execOp,hpv,aU7 (K6 s _ hti) hf β _ rfl]) (by rw[ef0];exact .pe id i sz' (off+p) β n' cap hE)
   ·cases he
  ·cases he
 case binOp op ty x y yt=>
  obtain⟨hx,rfl⟩:=S6 he
  obtain⟨v,hv1,hv2⟩:=eE5 K6 (x:=x) (y:=y) (a:=a) (fun t ht=>h.val ht) (fun t ht=>h.val ht) hx
  exact am3 h (by simp only[execOp,bq9,hv1,bd5,bB8]) hv2
 case unOp op ty x=>
  obtain⟨hx,rfl⟩:=S6 he
  obtain⟨v,hv1,hv2⟩:=fa6 (P:=P) (fun t ht=>h.val ht) hx
  exact am3 h (by simp only[execOp,bq9,hv1,bd5,bB8]) hv2
 case convert s d x=>
  split at he
  ·rename_i ti hs
   obtain⟨hx,rfl⟩:=S6 he
   obtain⟨i,u,_,_,hu,_⟩:=K6 s _ hs
   obtain⟨v,hv1,hv2⟩:=en0 (s:=s) K6 (fun t ht=>h.val ht) hx ⟨u,hu⟩
   exact am3 h (by simp only[execOp,bq9,hv1,bd5,bB8]) hv2
  ·cases he
 case extract x k=>
  split at he
  ·rename_i l hx
   obtain⟨hx',rfl⟩:=S6 he
   have hv:=h.val hx
   cases hxe:a.eval x<;>rw[hxe]at hv<;>try(cases hv;done)
   cases hv with
   |P4 vs _ hl hr=>
    obtain⟨hk,rfl⟩:=bG6.1 hx'
    exact am3 h (by simp[execOp,hxe,Instr.extract,hl,hk]) (hr k (by omega) hk)
  ·cases he
 case build ty parts=>
  split at he
  ·rename_i sz fs z hti
   cases hf:aL5 σ.hp σ.tm (fs[·]?) (z.map fun x=>.t (.v x)) parts.toList with
   |none=>simp[hf]at he
   |some l=>
    simp only[hf,bN9,aI6,ba7]at he
    obtain⟨rfl,rfl⟩:=he
    obtain⟨v,hv1,hv2⟩:=el7 K6 h hti hf
    exact am3 h (by simp only[execOp,bq9,hv1,bd5,bB8]) hv2
  ·rename_i sz n e z hti
   split at he<;>try(cases he;done)
   rename_i te hte
   cases hf:aL5 σ.hp σ.tm (fun i=>some (i*te.size,te.size)) (z.map fun x=>.t (.v x)) parts.toList with
   |none=>simp[hf]at he
   |some l=>
    simp only[hf,bN9,aI6,ba7]at he
    obtain⟨rfl,rfl⟩:=he
    obtain⟨v,hv1,hv2⟩:=dt3 K6 h hti hte hf
    exact am3 h (by simp only[execOp,bq9,hv1,bd5,bB8]) hv2
  ·cases he
 case indexAddr ty x ix=>
  split at he<;>try(cases he;done)
  all_goals
   rename_i hx hti hix
   split at he<;>try(cases he;done)
   rename_i te hte
  ·rename_i id off sz n e z ik i _
   cases hb:bi3 i n<;>simp only[hb,fk7,fk6,reduceCtorEq,aI6,ba7]at he
   obtain⟨rfl,rfl⟩:=he
   obtain⟨β,hpv,hE⟩:=(h.val hx).bK3
   exact am3 h (by simp only[execOp,hpv,(h.val hix).tv,bH5 K6 hti hte (bd6 hb),bq9,bd5,bB8]) (.ptr id _ β hE)
  ·rename_i cells sz n e z ik i _
   cases hb:bi3 i n<;>simp only[hb,fk7,fk6,reduceCtorEq,aI6,ba7]at he
   obtain⟨rfl,rfl⟩:=he
   have hv:=h.val hx
   obtain⟨b,o,hpv⟩:=hv.ce1
   rw[hpv]at hv
   exact am3 h (by simp only[execOp,hpv,(h.val hix).tv,bH5 K6 hti hte (bd6 hb),bq9,bd5,bB8]) (hv.cI0 _)
  ·rename_i id k sz' off sz n e z ik i _
   cases hb:bi3 i n<;>simp only[hb,fk7,fk6,reduceCtorEq,aI6,ba7]at he
   obtain⟨rfl,rfl⟩:=he
   have hv:=h.val hx
   generalize hpv:a.eval x=pv at hv
   cases hv with
   |pe _ _ _ _ β n' cap hE=>
    exact am3 (v:=.pointer (some ⟨β,k*sz'+off+i*te.size,none⟩)) h (by simp only[execOp,hpv,(h.val hix).tv,bH5 K6 hti hte (bd6 hb),bq9,bd5,bB8]) (by rw[ef0];exact .pe id k sz' (off+i*te.size) β n' cap hE)
 case index ty x ix=>
  split at he<;>try(cases he;done)
  rename_i l sz n e z ik i hx hti hix
  split at he<;>try(cases he;done)
  rename_i te hte
  cases hb:bi3 i n<;>simp only[hb,fk7,fk6,reduceCtorEq]at he
  obtain⟨hx',rfl⟩:=S6 he
  have hv:=h.val hx
  generalize hpv:a.eval x=pv at hv
  cases hv with
  |agg vs _ hl hr=>
   obtain⟨v,hv1,hv2⟩:=cK9 (ik:=ik) K6 hti hte (bd6 hb) ⟨hl,hr⟩ hx'
   exact am3 h (by simp only[execOp,hpv,(h.val hix).tv,hv1,bq9,bd5,bB8]) hv2
 case makeFunc fn first captured=>
  obtain⟨hx,rfl⟩:=S6 he
  cases fn<;>cases hfl:first.toList<;>simp only[eq2,hfl,reduceCtorEq]at hx
  ·rename_i f
   cases hl:by8 σ'.tm captured.toList with
   |none=>simp[hl]at hx
   |some l=>
    simp only[hl,bN9,aI6]at hx
    subst hx
    have hr:=cr0 h _ l hl
    have dJ2:first= #[]:=by simpa using hfl
    subst dJ2
    refine am3 h ?_ (.clo f (captured.toList.map a.eval) l hr.1 hr.2)
    simp[execOp,Instr.makeFunc]
    exact Array.ext' (by simp)
 case buildSlice ty n parts=>
  split at he
  ·rename_i d sz e z hti
   split at he
   ·rename_i ti hte
    split at he
    ·rename_i l hf
     split at he
     ·rename_i r hr
      cases hc:(bi3 d big&&P1 d σ.tm&&O6 d σ.hp&&br8 r.length (n*ti.size)&&dE8 (n*ti.size) 1000000&&br8 ti.zero.length ti.size&&bi3 0 ti.size)<;>
       simp only[hc,fk7,fk6,reduceCtorEq,aI6,ba7]at he
      obtain⟨rfl,rfl⟩:=he
      simp only[aK5]at hc
      obtain⟨⟨⟨⟨⟨⟨c0,c1⟩,c2⟩,c3⟩,c4⟩,c5⟩,c6⟩:=hc
      have c3:=bq8 c3
      have c6:0<ti.size:=bd6 c6
      obtain⟨cs,bg9,hcl,hcr⟩:=cY1 K6 h hti hte hf (bd6 c4) (bq8 c5) c6
      have hlr:=cq9 hr
      have hlen:r.length=l.length:=by have:=congrArg List.length hlr;simpa using this.symm
      obtain⟨E',hE,_,hok⟩:=h.alloc (o:=.cells cs e) (x:=.slice (some ⟨w.heap.size,0,none⟩) n n) (b:=.rows e ti.size n (chunk ti.size n r)) c0 c1 c2 rfl (fun E' hE'=>by
       refine⟨(br7 _ _ _).symm, .inr ⟨w.heap.size,n,cs.toList,by have:n<=n*ti.size:=Nat.le_mul_of_pos_right n c6;have:=bd6 c4;unfold maxLen;omega,by rw[br7],by rw[heap_alloc_new],?_,by rw[br7];exact bO2 _,cz9 _ _ _ c3,?_⟩⟩
       ·rw[hcl,<-hlen];simpa using c3
       ·intro i j hi hj hb
        have hb':i*ti.size+j<r.length:=by rw[hcl,<-hlen]at hb;exact hb
        rw[dc3 ti.size n r c3 i j hi hj hb']
        have h3:=dn6 (hcr (i*ti.size+j) hb (by rw[<-hlen];exact hb'))
        have h4:dn5 (l[i*ti.size+j]'(by rw[<-hlen];exact hb'))=T.t (r[i*ti.size+j]):=by
         have h5:(l.map dn5)[i*ti.size+j]? =(r.map T.t)[i*ti.size+j]?:=by rw[hlr]
         rw[dr2,dr2,aX4 (by rw[<-hlen];exact hb'),aX4 hb']at h5
         simpa using h5
        rw[h4]at h3
        exact h3.eP9.mono (fun _ x=>x) fun b hb=>heap_alloc_old w _ b (h.aH9 b hb))
      refine⟨_,_,E',.inl ?_,hok,.own d _ hE⟩
      simp only[execOp,bq9,bg9,bd5,bB8]
     ·cases he
    ·cases he
   ·cases he
  ·cases he
 case call c=>
  obtain⟨hx,rfl⟩:=S6 he
  obtain⟨callee,args,tys⟩:=c
  simp only at hx
  unfold dt6 at hx
  split at hx
  ·rename_i x ty h1 h2
   obtain⟨v,hv1,hv2⟩:=eI1 (type:=type) K6 h (fun t ht=>h.val ht) hx
   obtain⟨args⟩:=args
   obtain⟨tys⟩:=tys
   simp only at h1 h2
   subst h1;subst h2
   refine am3 h ?_ hv2
   simp only[execOp,resolve,bq9,bB8,bd5,invoke,builtin]
   simp[hv1]
  ·rename_i x rest h1
   obtain⟨v,hv1,hv2⟩:=cQ1 (P:=P) (f:=F7) (g:=Builtin.min2) (fun _ _ _ _=>rfl) h rest (a.eval x) _ (fun t ht=>h.val ht) t hx
   obtain⟨args⟩:=args
   simp only at h1
   subst h1
   refine am3 h ?_ hv2
   simp only[execOp,resolve,bq9,bB8,bd5,invoke,builtin,Builtin.min_]
   simp[hv1]
  ·rename_i x rest h1
   obtain⟨v,hv1,hv2⟩:=cQ1 (P:=P) (f:=G8) (g:=Builtin.max2) (fun _ _ _ _=>rfl) h rest (a.eval x) _ (fun t ht=>h.val ht) t hx
   obtain⟨args⟩:=args
   simp only at h1
   subst h1
   refine am3 h ?_ hv2
   simp only[execOp,resolve,bq9,bB8,bd5,invoke,builtin,Builtin.max_]
   simp[hv1]
  ·cases hx
end
def bw8 (nt:Nat)(dst:Option Nat)(t:T)(σ:St):Option St:=
 match dst with
 |none=>some σ
 |some d=>bif bi3 d nt then(match σ with|⟨tm,hp⟩=>some ⟨(d,t)::tm,hp⟩)else none
def ai6 (all:List Oper)(tm:List (Nat×T)):Option (Nat×Bool)->Option Bool
 |none=>some true
 |some (j,want)=>match all[j]?with
  |some o=>match o.dst with
   |some d=>match look tm d with
    |some (.t (.v (.bool b)))=>some (match want with|true=>b|false=>!b)
    |some (.t (.v (.tuple _)))=>some false
    |_=>none
   |none=>none
  |none=>none
def cy0 (C8:Tab)(nt:Nat)(all:List Oper):Nat->List Oper->St->List Oper×St
 |0,ops,σ=>(ops,σ)
 |_+1,[],σ=>([],σ)
 |n+1,o::rest,σ=>match ai6 all σ.tm o.guard with
  |some true=>match evalOp C8 σ o with
   |some (t,σ')=>match bw8 nt o.dst t σ' with
    |some σ''=>cy0 C8 nt all n rest σ''
    |none=>(o::rest,σ)
   |none=>(o::rest,σ)
  |some false=>match bw8 nt o.dst (.t (.v undef)) σ with
   |some σ''=>cy0 C8 nt all n rest σ''
   |none=>(o::rest,σ)
  |none=>(o::rest,σ)
inductive K where
 |c (x:Code)
 |e (id:Nat)
def after (P:Program):List K->(Exit->Act->World->Prop)->Exit->Act->World->Prop
 |[],Q=>Q
 | .c x::ks,Q=>Exit.then (x.wp P (after P ks Q)) (after P ks Q)
 | .e id::ks,Q=>Exit.inBlock id (after P ks Q)
def bw7 (id:Nat):List K->Option (List K)
 |[]=>none
 | .c _::ks=>bw7 id ks
 | .e i::ks=>bif br8 id i then some ks else bw7 id ks
structure Cx where
 P:Program
 C8:Tab
 K6:aW1 P C8
 w0:World
 L:Lim
 nt:Nat
 gl:GlL P w0 L.bs2
def Cx.glF {X:Cx}{nt:Nat}{σ:St}{S:Nat->Prop}{E:Nat->Value}{a:Act}{w:World}(hk:Ok X.w0 X.L nt σ S E a w):GlL X.P w (fun _=>False):=(X.gl.keep hk.keep).any
def Cx.glG {X:Cx}{nt:Nat}{σ:St}{S:Nat->Prop}{E:Nat->Value}{a:Act}{w:World}(hk:Ok X.w0 X.L nt σ S E a w){L':Nat->Prop}(h:∀β,L' β->∃id blk,look σ.hp id=some blk/\S0 (E id)=some β):GlL X.P w L':=fun b hb=>by
 obtain⟨h0,h1,h2⟩:=X.gl.keep hk.keep b hb
 refine⟨fun hx=>?_,h1,h2⟩
 obtain⟨id,blk,hl,hβ⟩:=h b hx
 rcases(hk.own id blk b hl hβ).2.2 with h3|h3
 ·exact absurd (X.gl b hb).2.1 (Nat.not_lt.2 h3)
 grind
def Cx.post (X:Cx)(Q:Exit->St->Prop):Exit->Act->World->Prop:=fun e a w=>∃σ,Sim X.w0 X.L X.nt σ a w/\Q e σ
def ab8 {ρ:Type}(X:Cx)(ks:List K)(e:Exit)(σ:St)(m:Option ρ)(Q:ρ->Exit->St->Prop):Prop:=
 ∀r,m=some r->∀a w,Sim X.w0 X.L X.nt σ a w->after X.P ks (X.post (Q r)) e a w
abbrev E9 {ρ:Type}(X:Cx)(ks:List K)(σ:St)(m:Option ρ)(Q:ρ->Exit->St->Prop):Prop:=ab8 X ks .normal σ m Q
def B9 {ρ:Type}(X:Cx)(all:Array Oper)(ops:List Oper)(ks:List K)(σ:St)(m:Option ρ)(Q:ρ->Exit->St->Prop):Prop:=
 ∀r,m=some r->∀a w,Sim X.w0 X.L X.nt σ a w->wpList X.P all (after X.P ks (X.post (Q r))) ops a w
def els:List T->Option (List (List Tree))
 |[]=>some []
 | .el c::r=>(els r).map (c::·)
 |_::_=>none
theorem eo7:∀{l:List T}{r:List (List Tree)},els l=some r->l=r.map T.el
 |[],r,h=>by grind [els]
 |x::l,r,h=>by
  cases x<;>simp only[els,reduceCtorEq]at h
  rename_i y
  cases hl:els l with
  |none=>simp[hl]at h
  |some m=>
   simp only[hl,bN9,aI6]at h
   subst h
   simp[eo7 hl]
def RV.pf {w:World}{S:Nat->Prop}{E:Nat->Value}{v:Value}{c:List Tree}(h:RV w S E v (.el c)):PF w S v c:=by
 cases h with|el b o _ vs hS hc hr=>exact⟨b,o,vs,rfl,hS,hc,hr⟩
def PF.rv {w:World}{S:Nat->Prop}{E:Nat->Value}{v:Value}{c:List Tree}(h:PF w S v c):RV w S E v (.el c):=by
 obtain⟨b,o,vs,rfl,hS,hc,hr⟩:=h
 exact .el b o _ vs hS hc hr
def RV.eA9 {w:World}{S:Nat->Prop}{E:Nat->Value}{v:Value}{n:Nat}{l:List T}{r:List (List Tree)}(h:RV w S E v (.clo n l))(hr:els l=some r):RV w S E v (.fz n r):=by
 have:=eo7 hr
 subst this
 cases h with
 |clo _ vs _ hl hv=>
  refine .fz n vs r (by grind) fun j h1 h2=>?_
  have:=hv j h1 (by omega)
  simp only[dc0]at this
  exact this.pf
mutual
def mrg:T->T->T
 | .agg l,u=>match u with| .agg l'=>.agg (bF6 l l')| .any=>.any|_=>.agg l
 | .P4 l,u=>match u with| .P4 l'=>.P4 (bF6 l l')| .any=>.any|_=>.P4 l
 | .t x,u=>match u with| .t (.sl _ _)=>.t (aE3 x)| .any=>.any|_=>.t x
 | .clo f l,u=>match u with| .fz _ _=>(match els l with|some c=>.fz f c|none=>.clo f l)| .any=>.any|_=>.clo f l
 |x,u=>match u with| .any=>.any|_=>x
def bF6:List T->List T->List T
 |[],_=>[]
 |x::l,u=>match u with|y::l'=>mrg x y::bF6 l l'|[]=>x::l
end
mutual
theorem dK6 {w:World}{S:Nat->Prop}{E:Nat->Value}:∀{t u:T}{v:Value},RV w S E v t->RV w S E v (mrg t u)
 | .agg l,u,v,h=>by
  unfold mrg
  split
  ·cases h with|agg vs _ hl hr=>have:=bW3 (u:=‹List T›) ⟨hl,hr⟩;exact .agg vs _ this.1 this.2
  ·exact .any v
  ·exact h
 | .P4 l,u,v,h=>by
  unfold mrg
  split
  ·cases h with|P4 vs _ hl hr=>have:=bW3 (u:=‹List T›) ⟨hl,hr⟩;exact .P4 vs _ this.1 this.2
  ·exact .any v
  ·exact h
 | .t x,u,v,h=>by
  unfold mrg
  split
  ·cases h with|t h=>exact .t (bb7 h)
  ·exact .any v
  ·exact h
 | .clo f l,u,v,h=>by
  unfold mrg
  split
  ·split
   ·exact RV.eA9 h ‹_›
   ·exact h
  ·exact .any v
  ·exact h
 | .el c,u,v,h=>by unfold mrg;split<;>first|exact .any v|exact h
 | .ptr i o,u,v,h=>by unfold mrg;split<;>first|exact .any v|exact h
 | .own i,u,v,h=>by unfold mrg;split<;>first|exact .any v|exact h
 | .pe i a b c,u,v,h=>by unfold mrg;split<;>first|exact .any v|exact h
 | .vw i a b c,u,v,h=>by unfold mrg;split<;>first|exact .any v|exact h
 | .fz n c,u,v,h=>by unfold mrg;split<;>first|exact .any v|exact h
 | .any,u,v,h=>by unfold mrg;split<;>first|exact .any v|exact h
theorem bW3 {w:World}{S:Nat->Prop}{E:Nat->Value}:∀{l u:List T}{vs:List Value},RVL w S E vs l->RVL w S E vs (bF6 l u)
 |[],u,vs,h=>by simp only[bF6];exact h
 |x::l,u,vs,h=>by
  unfold bF6
  split
  ·rename_i y l'
   cases vs with
   |nil=>have:=h.1;simp at this
   |cons v vs=>
    have h1:=dK6 (u:=y) (t:=x) (h.2 0 (by simp) (by simp))
    have h2:=bW3 (u:=l') (l:=l) (vs:=vs) ⟨by simpa using h.1,fun j a b=>h.2 (j+1) (by simpa using a) (by simpa using b)⟩
    refine⟨by simp[h2.1],fun j a b=>?_⟩
    cases j with
    |zero=>exact h1
    |succ j=>exact h2.2 j (by simpa using a) (by simpa using b)
  ·exact h
end
def cn8:G6->G6->G6
 | .box l,u=>match u with| .box l'=>.box (bF6 l l')|_=>.box l
 |x,_=>x
def dn2 {w:World}{S:Nat->Prop}{E:Nat->Value}{x:Value}{b u:G6}(h:be0 w S E x b):be0 w S E x (cn8 b u):=by
 cases b with
 |rows=>exact h
 |mp=>exact h
 |rv=>exact h
 |box l=>
  cases u with
  |box l'=>
   obtain⟨β,vs,elem,h1,h2,h3,h4,h5⟩:=h
   have:=bW3 (u:=l') (l:=l) (vs:=vs) ⟨h3,h4⟩
   exact⟨β,vs,elem,h1,h2,this.1,this.2,h5⟩
  |rows=>exact h
  |mp=>exact h
  |rv=>exact h
def ez7:List (Nat×T)->List (Nat×T)->Prop
 |[],_=>True
 |(k,t)::r,l=>(∃t',look l k=some t'/\mrg t' t=t)/\ez7 r l
def ez6:List (Nat×G6)->List (Nat×G6)->Prop
 |[],_=>True
 |(k,t)::r,l=>(∃t',look l k=some t'/\cn8 t' t=t)/\ez6 r l
def Sub (σ₁ σ:St):Prop:=ez7 σ₁.tm σ.tm/\ez6 σ₁.hp σ.hp
def dh6:∀{l₁ l:List (Nat×T)},ez7 l₁ l->∀k t,look l₁ k=some t->∃t',look l k=some t'/\mrg t' t=t
 |[],_,_,k,t,h=>by simp[look]at h
 |(k',t')::r,l,hs,k,t,h=>by
  simp only[look]at h
  by_cases hk:k'=k
  ·subst hk;simp only[cG4,fk7,aI6]at h;subst h;exact hs.1
  ·simp only[D2 hk,fk6]at h;exact dh6 hs.2 k t h
def bk6:∀{l₁ l:List (Nat×G6)},ez6 l₁ l->∀k t,look l₁ k=some t->∃t',look l k=some t'/\cn8 t' t=t
 |[],_,_,k,t,h=>by simp[look]at h
 |(k',t')::r,l,hs,k,t,h=>by
  simp only[look]at h
  by_cases hk:k'=k
  ·subst hk;simp only[cG4,fk7,aI6]at h;subst h;exact hs.1
  ·simp only[D2 hk,fk6]at h;exact bk6 hs.2 k t h
def dx8 (l:List (Nat×T))(p:Nat×T):Option T:=match look l p.1 with|some t=>some (mrg t p.2)|none=>none
def bF5 (l:List (Nat×G6))(p:Nat×G6):Option G6:=match look l p.1 with|some t=>some (cn8 t p.2)|none=>none
def dU7:∀{l₁ l:List (Nat×T)},l₁.map (dx8 l)=l₁.map (fun p=>some p.2)->ez7 l₁ l
 |[],_,_=>trivial
 |(k,t)::r,l,h=>by
  simp only[cN4,fe6]at h
  refine⟨?_,dU7 h.2⟩
  have h1:=h.1
  unfold dx8 at h1
  split at h1
  ·rename_i t' ht;exact⟨t',ht,ca0 h1⟩
  ·cases h1
def dU6:∀{l₁ l:List (Nat×G6)},l₁.map (bF5 l)=l₁.map (fun p=>some p.2)->ez6 l₁ l
 |[],_,_=>trivial
 |(k,t)::r,l,h=>by
  simp only[cN4,fe6]at h
  refine⟨?_,dU6 h.2⟩
  have h1:=h.1
  unfold bF5 at h1
  split at h1
  ·rename_i t' ht;exact⟨t',ht,ca0 h1⟩
  ·cases h1
theorem Sub.of {σ₁ σ:St}(h₁:σ₁.tm.map (dx8 σ.tm)=σ₁.tm.map (fun p=>some p.2))(h₂:σ₁.hp.map (bF5 σ.hp)=σ₁.hp.map (fun p=>some p.2)):Sub σ₁ σ:=⟨dU7 h₁,dU6 h₂⟩
theorem Ok.sub {w0:World}{L:Lim}{nt:Nat}{σ σ₁:St}{S:Nat->Prop}{E:Nat->Value}{a:Act}{w:World}(h:Ok w0 L nt σ S E a w)(hs:Sub σ₁ σ):Ok w0 L nt σ₁ S E a w:={h with
 tm:=fun k t ht=>by
  obtain⟨t',h1,h2⟩:=dh6 hs.1 k t ht
  rw[<-h2];exact dK6 (h.tm k t' h1)
 hp:=fun i b hb=>by
  obtain⟨b',h1,h2⟩:=bk6 hs.2 i b hb
  rw[<-h2];exact dn2 (h.hp i b' h1)
 own:=fun i b β hb hβ=>by
  obtain⟨b',h1,_⟩:=bk6 hs.2 i b hb
  exact h.own i b' β h1 hβ
 au2:=fun i i' b b' β h1 h2=>by
  obtain⟨c,h3,_⟩:=bk6 hs.2 i b h1
  obtain⟨c',h4,_⟩:=bk6 hs.2 i' b' h2
  exact h.au2 i i' c c' β h3 h4}
theorem Sim.sub {w0:World}{L:Lim}{nt:Nat}{σ σ₁:St}{a:Act}{w:World}(h:Sim w0 L nt σ a w)(hs:Sub σ₁ σ):Sim w0 L nt σ₁ a w:=by
 obtain⟨S,E,h⟩:=h
 exact⟨S,E,h.sub hs⟩
def aM3 {P:Program}{Q Q':Exit->Act->World->Prop}(hq:∀e a w,Q e a w->Q' e a w):∀(ks:List K) e a w,after P ks Q e a w->after P ks Q' e a w
 |[],e,a,w,h=>hq e a w h
 | .c x::ks,e,a,w,h=>by
  cases e<;>first|exact wp_mono h (aM3 hq ks)|exact aM3 hq ks _ a w h
 | .e id::ks,e,a,w,h=>by
  cases e with
  |exit i=>
   simp only[after,Exit.inBlock]at h|-
   split at h
   ·rename_i hi;rw[if_pos hi];exact aM3 hq ks _ a w h
   ·rename_i hi;rw[if_neg hi];exact aM3 hq ks _ a w h
  |_=>exact aM3 hq ks _ a w h
def bs9 {P:Program}{Q:Exit->Act->World->Prop}{a:Act}{w:World}:∀(ks:List K),Q .ret a w->after P ks Q .ret a w
 |[],h=>h
 | .c _::ks,h=>bs9 ks h
 | .e _::ks,h=>bs9 ks h
theorem bH1 {P:Program}{Q:Exit->Act->World->Prop}{a:Act}{w:World}{id:Nat}:∀{ks ks':List K},bw7 id ks=some ks'->after P ks' Q .normal a w->after P ks Q (.exit id) a w
 |[],_,h,_=>by simp[bw7]at h
 | .c _::ks,ks',h,hq=>bH1 (ks:=ks) h hq
 | .e i::ks,ks',h,hq=>by
  simp only[bw7]at h
  by_cases hi:id=i
  ·simp_all[after,Exit.inBlock]
  simp_all[D2,after,Exit.inBlock,bH1]
theorem ay2 {P:Program}{Q:Exit->Act->World->Prop}{a:Act}{w:World}{id:Nat}:∀{ks:List K},bw7 id ks=none->Q (.exit id) a w->after P ks Q (.exit id) a w
 |[],_,hq=>hq
 | .c _::ks,h,hq=>ay2 (ks:=ks) h hq
 | .e i::ks,h,hq=>by
  simp only[bw7]at h
  by_cases hi:id=i
  all_goals simp_all[D2,after,Exit.inBlock,ay2]
section rules
variable {ρ τ:Type} {X:Cx} {ks:List K} {σ σ':St} {m:Option ρ} {Q:ρ -> Exit -> St -> Prop}
theorem ab8.sub {e:Exit}(hs:Sub σ' σ)(h:ab8 X ks e σ' m Q):ab8 X ks e σ m Q:=fun r hr a w hw=>h r hr a w (hw.sub hs)
theorem ab8.pre {e:Exit}{m₁:Option τ}{k:τ->Option ρ}(h:∀y,m₁=some y->ab8 X ks e σ (k y) Q):ab8 X ks e σ (m₁.bind k) Q:=fun r hr a w hw=>by
 cases hm:m₁ with
 |none=>grind
 |some y=>exact h y hm r (by grind) a w hw
def E9.fail:E9 X ks σ none Q:=fun r hr=>by cases hr
def B9.fail {all:Array Oper}{ops:List Oper}:B9 X all ops ks σ none Q:=fun r hr=>by cases hr
def E9.leaf {r:ρ}(h:Q r .normal σ):E9 X [] σ (some r) Q:=fun r' hr a w hw=>by cases hr;exact⟨σ,hw,h⟩
theorem E9.ret {r:ρ}(h:Q r .ret σ):E9 X (.c .ret::ks) σ (some r) Q:=fun r' hr a w hw=>by
 cases hr;exact wp_ret (bs9 ks ⟨σ,hw,h⟩)
def E9.skip (h:E9 X ks σ m Q):E9 X (.c .skip::ks) σ m Q:=fun r hr a w hw=>wp_skip (h r hr a w hw)
def E9.seq {x y:Code}(h:E9 X (.c x:: .c y::ks) σ m Q):E9 X (.c (.seq x y)::ks) σ m Q:=fun r hr a w hw=>wp_seq (h r hr a w hw)
theorem E9.block {id:Nat}{x:Code}(h:E9 X (.c x:: .e id::ks) σ m Q):E9 X (.c (.block id x)::ks) σ m Q:=fun r hr a w hw=>wp_block (h r hr a w hw)
def E9.fe8 {id:Nat}(h:E9 X ks σ m Q):E9 X (.e id::ks) σ m Q:=fun r hr a w hw=>h r hr a w hw
def E9.exit {id:Nat}{ks':List K}(hp:bw7 id ks=some ks')(h:E9 X ks' σ m Q):E9 X (.c (.exit id)::ks) σ m Q:=fun r hr a w hw=>wp_exit (bH1 hp (h r hr a w hw))
def E9.bs1 {id:Nat}{r:ρ}(hp:bw7 id ks= .none)(h:Q r (.exit id) σ):E9 X (.c (.exit id)::ks) σ (some r) Q:=fun r' hr a w hw=>by
 cases hr;exact wp_exit (ay2 hp ⟨σ,hw,h⟩)
def ab8.exit {id:Nat}{ks':List K}(hp:bw7 id ks=some ks')(h:E9 X ks' σ m Q):ab8 X ks (.exit id) σ m Q:=fun r hr a w hw=>bH1 hp (h r hr a w hw)
def ab8.bs1 {id:Nat}{r:ρ}(hp:bw7 id ks= .none)(h:Q r (.exit id) σ):ab8 X ks (.exit id) σ (some r) Q:=fun r' hr a w hw=>by
 cases hr;exact ay2 hp ⟨σ,hw,h⟩
theorem ab8.ret {r:ρ}(h:Q r .ret σ):ab8 X ks .ret σ (some r) Q:=fun r' hr a w hw=>by
 cases hr;exact bs9 ks ⟨σ,hw,h⟩
def E9.cond {c:Operand}{x y:Code}{b:Bool}{m₁ m₂:Option ρ}(hc:val σ.tm c=some (.t (.v (.bool b))))(h₁:E9 X (.c x::ks) σ m₁ Q)(h₂:E9 X (.c y::ks) σ m₂ Q):
  E9 X (.c (.cond c x y)::ks) σ (bif b then m₁ else m₂) Q:=fun r hr a w hw=>by
 obtain⟨S,E,hk⟩:=hw
 have hv:=(hk.val hc).tv
 cases b
 ·exact wp_cond_false hv (h₂ r hr a w ⟨S,E,hk⟩)
 ·exact wp_cond_true hv (h₁ r hr a w ⟨S,E,hk⟩)
def E9.bind {x:Code}{m₁:Option τ}{k:τ->Option ρ}{Q₁:τ->Exit->St->Prop}(h₁:E9 X [.c x] σ m₁ Q₁)(h₂:∀t e σ',m₁=some t->Q₁ t e σ'->ab8 X ks e σ' (k t) Q):
  E9 X (.c x::ks) σ (m₁.bind k) Q:=fun r hr a w hw=>by
 cases hm:m₁ with
 |none=>grind
 |some t=>
  simp only[hm,aF2]at hr
  refine wp_mono (h₁ t hm a w hw) fun e a' w' ⟨σ',hs,hq⟩=>?_
  exact h₂ t e σ' hm hq r hr a' w' hs
def E9.region {id:Nat}{ops:Array Oper}(h:B9 X ops ops.toList ks σ m Q):E9 X (.c (.region id ops false)::ks) σ m Q:=fun r hr a w hw=>wp_region_list (h r hr a w hw)
def B9.nil {all:Array Oper}(h:E9 X ks σ m Q):B9 X all [] ks σ m Q:=fun r hr a w hw=>h r hr a w hw
def bA5 {w0:World}{L:Lim}{nt:Nat}{σ σ':St}{S:Nat->Prop}{E:Nat->Value}{a:Act}{w:World}{dst:Option Nat}{v:Value}{t:T}
  (h:Ok w0 L nt σ S E a w) (hv:RV w S E v t) (hp:bw8 nt dst t σ=some σ'):Ok w0 L nt σ' S E (a.put dst v) w:=by
 cases dst with
 |none=>simp only[bw8,aI6]at hp;subst hp;exact h
 |some d=>
  simp only[bw8]at hp
  cases hd:bi3 d nt<;>simp only[hd,fk7,fk6,reduceCtorEq,aI6]at hp
  subst hp
  exact h.put (bd6 hd) hv
theorem T7 {w0:World}{L:Lim}{nt:Nat}{σ:St}{S:Nat->Prop}{E:Nat->Value}{a:Act}{w:World}{all:Array Oper}{o:Oper}{b:Bool}
  (h:Ok w0 L nt σ S E a w) (hg:ai6 all.toList σ.tm o.guard=some b):Region.wanted o (yielded all a.tmps)=b:=by
 unfold Region.wanted
 cases hgd:o.guard with
 |none=>grind [ai6]
 |some p=>
  obtain⟨j,want⟩:=p
  rw[hgd]at hg
  simp only[ai6]at hg
  split at hg<;>try(cases hg;done)
  rename_i o' ho'
  split at hg<;>try(cases hg;done)
  rename_i d hd
  have hl:all[j]? =some o':=by grind
  have hsz:=h.size
  split at hg<;>try(cases hg;done)
  ·rename_i x hx
   have hv:=(h.tm d _ hx).tv
   have hdlt:a.tmps[d]? =some (.bool x):=by
    cases hq:a.tmps[d]?with
    |none=>grind [undef]
    |some y=>simp_all
   have hy:yielded all a.tmps j=some x:=by grind [yielded]
   simp only[hy]
   cases want<;>cases x<;>simp at hg|- <;>first|exact hg|(subst hg;rfl)|assumption
  ·rename_i x hx
   have hv:=(h.tm d _ hx).tv
   simp only[aI6]at hg
   subst hg
   have hy:yielded all a.tmps j=none:=by
    simp only[yielded,hl,hd,aF2]
    cases hq:a.tmps[d]?with
    |none=>rfl
    |some y=>simp_all
   simp[hy]
def B9.step {all:Array Oper}{o:Oper}{rest:List Oper}{t:T}{σ₁ σ₂:St}(hg:ai6 all.toList σ.tm o.guard=some true)(he:evalOp X.C8 σ o=some (t,σ₁))(hp:bw8 X.nt o.dst t σ₁=some σ₂)
  (h:B9 X all rest ks σ₂ m Q):B9 X all (o::rest) ks σ m Q:=fun r hr a w ⟨S,E,hk⟩=>by
 obtain⟨v,w',E',hd,hk',hv⟩:=bE8 X.K6 hk he
 refine wpList_step fun K hK=>?_
 rw[T7 hk hg,if_pos rfl]
 have hnext:K (a.put o.dst v) w':=hK _ _ (h r hr _ _ ⟨S,E',bA5 hk' hv hp⟩)
 unfold Oper.wp
 rcases hd with hd|⟨hd,rfl⟩<;>rw[hd]
 ·exact hnext
 ·exact hnext
def B9.pass {all:Array Oper}{o:Oper}{rest:List Oper}{σ₂:St}(hg:ai6 all.toList σ.tm o.guard=some false)(hp:bw8 X.nt o.dst (.t (.v undef)) σ=some σ₂)
  (h:B9 X all rest ks σ₂ m Q):B9 X all (o::rest) ks σ m Q:=fun r hr a w ⟨S,E,hk⟩=>by
 refine wpList_step fun K hK=>?_
 rw[T7 hk hg,if_neg (by simp)]
 exact hK _ _ (h r hr _ _ ⟨S,E,bA5 hk (.t (.v undef)) hp⟩)
def B9.run' {all:Array Oper}:∀(n:Nat) (ops co2:List Oper) (σ σ':St),cy0 X.C8 X.nt all.toList n ops σ=(co2,σ')->B9 X all co2 ks σ' m Q->B9 X all ops ks σ m Q
 |0,ops,co2,σ,σ',he,h=>by cases he;exact h
 |_+1,[],co2,σ,σ',he,h=>by cases he;exact h
 |n+1,o::rest,co2,σ,σ',he,h=>by
  unfold cy0 at he
  split at he
  ·rename_i hg
   split at he
   ·rename_i t σ₁ hev
    split at he
    ·rename_i σ₂ hp
     exact .step hg hev hp (B9.run' n rest co2 σ₂ σ' he h)
    ·cases he;exact h
   ·cases he;exact h
  ·rename_i hg
   split at he
   ·rename_i σ₂ hp
    exact .pass hg hp (B9.run' n rest co2 σ₂ σ' he h)
   ·cases he;exact h
  ·cases he;exact h
theorem B9.run {all:Array Oper}{ops co2:List Oper}(n:Nat)(he:cy0 X.C8 X.nt all.toList n ops σ=(co2,σ'))(h:B9 X all co2 ks σ' m Q):B9 X all ops ks σ m Q:=B9.run' n ops co2 σ σ' he h
theorem B9.split {all:Array Oper}{ops:List Oper}{tm:List (Nat×T)}{hp:List (Nat×G6)}{b:Bool}{m₁ m₂:Option ρ}(d:Nat)(hd:look tm d=some (.t (.v (.bool b))))(h₁:B9 X all ops ks ⟨(d,.t (.v (.bool true)))::tm,hp⟩ m₁ Q)
  (h₂:B9 X all ops ks ⟨(d,.t (.v (.bool false)))::tm,hp⟩ m₂ Q):B9 X all ops ks ⟨tm,hp⟩ (bif b then m₁ else m₂) Q:=fun r hr a w hw=>by
 have key:∀b',b=b'->Sim X.w0 X.L X.nt ⟨(d,.t (.v (.bool b')))::tm,hp⟩ a w:=by
  intro b' hb
  subst hb
  obtain⟨S,E,hk⟩:=hw
  refine⟨S,E,{hk with tm:=fun k t ht=>?_}⟩
  simp only[look]at ht
  by_cases hkd:d=k
  ·subst hkd;simp only[cG4,fk7,aI6]at ht;subst ht;exact hk.tm d _ hd
  ·simp only[D2 hkd,fk6]at ht;exact hk.tm k t ht
 cases b
 ·exact h₂ r hr a w (key _ rfl)
 ·exact h₁ r hr a w (key _ rfl)
theorem bC3 {P : Program} {all : Array Oper} {Q : Exit -> Act -> World -> Prop} : ∀ (l₁ l₂ : List Oper) (a : Act) (w : World),
    wpList P all (Exit.then (wpList P all Q l₂) Q) l₁ a w -> wpList P all Q (l₁ ++ l₂) a w
  | [], l₂, a, w, h => h
  | o :: l₁, l₂, a, w, h => by
    unfold wpList at h
    simp only [List.cons_append]
    unfold wpList
    split at h
    · rename_i hg
      rw [if_pos hg]
      rcases h with h | ⟨h1, h2⟩
      · left
        have ih := fun a w => bC3 (P := P) (all := all) (Q := Q) l₁ l₂ a w
        unfold Oper.wp at h |-
        unfold Oper.upon at h |-
        split at h <;> first
          | grind
          | (refine h.mono fun e w' he => ?_
             cases e <;> first | grind | exact he)
          | (refine h.mono fun v w' he => ?_; exact ih _ _ he)
          | exact h
          | exact h.elim
      · right
        exact ⟨h1, by obtain ⟨a', w', hq⟩ := h2; exact ⟨a', w', hq⟩⟩
    simp_all [bC3]
def B9.bind {all : Array Oper} {ops : List Oper} {m₁ : Option τ} {k : τ -> Option ρ} (n : Nat) (σ₁ : τ -> St) (h₁ : B9 X all (ops.take n) [] σ m₁ (fun t e σ' => e = .normal /\ Sub (σ₁ t) σ'))
    (h₂ : ∀ t, m₁ = some t -> B9 X all (ops.drop n) ks (σ₁ t) (k t) Q) : B9 X all ops ks σ (m₁.bind k) Q := fun r hr a w hw => by
  rw [<- List.take_append_drop n ops]
  cases hm : m₁ with
  | none => grind
  | some t =>
    simp only [hm, aF2] at hr
    refine bC3 _ _ _ _ ?_
    have h := h₁ t hm a w hw
    have mono : ∀ (l : List Oper) (Q Q' : Exit -> Act -> World -> Prop), (∀ e a w, Q e a w -> Q' e a w) -> ∀ a w, wpList X.P all Q l a w -> wpList X.P all Q' l a w := by
      intro l Q Q' hq
      induction l with
      | nil => intro a w h; exact hq _ _ _ h
      | cons o l ih =>
        intro a w h
        unfold wpList at h |-
        split at h
        · rename_i hg
          rw [if_pos hg]
          rcases h with h | ⟨h1, a', w', h2⟩
          · left
            unfold Oper.wp at h |-
            unfold Oper.upon at h |-
            split at h <;> first
              | grind
              | (refine h.mono fun e w' he => ?_
                 cases e <;> first | grind | grind | (obtain ⟨a₀, w₀, h₀⟩ := he; exact ⟨a₀, w₀, hq _ _ _ h₀⟩))
              | (refine h.mono fun v w' he => ?_; exact ih _ _ he)
              | grind
              | omega
          · right; exact ⟨h1, a', w', hq _ _ _ h2⟩
        grind
    refine mono _ _ _ ?_ a w h
    rintro e a' w' ⟨σ', hs, rfl, cn0⟩
    exact h₂ t hm r hr a' w' (hs.sub cn0)
end rules
end Go.Pv
namespace Go.Pv
open Go.RowKit
inductive bL3 {S B:Type}(mb:S->Option (S⊕B)):S->B->Prop
 |out {s:S}{b:B}:mb s=some (.inr b)->bL3 mb s b
 |next{s s':S}{b:B}:mb s=some (.inl s')->bL3 mb s' b->bL3 mb s b
theorem bL3.det {S B:Type}{mb:S->Option (S⊕B)}{s:S}{b b':B}(h:bL3 mb s b)(h':bL3 mb s b'):b=b':=by
 induction h with
 |out h=>
  cases h' with
  |out k=>grind
  |next k _=>grind
 |next h _ ih=>
  cases h' with
  |out k=>grind
  |next k k'=>grind
open Classical in
def L8 {S B:Type}(mb:S->Option (S⊕B))(s:S):Option B:=if h:∃b,bL3 mb s b then some h.choose else none
theorem aV3 {S B:Type}{mb:S->Option (S⊕B)}{s:S}{b:B}:L8 mb s=some b↔bL3 mb s b:=by
 unfold L8
 constructor
 ·intro h
  split at h
  all_goals grind
 ·intro h
  have hx:∃b,bL3 mb s b:=⟨b,h⟩
  rw[dif_pos hx,bL3.det hx.choose_spec h]
theorem cn6 {S B:Type}(mb:S->Option (S⊕B))(s:S):L8 mb s=(mb s).bind fun f=>match f with| .inl s'=>L8 mb s'| .inr b=>some b:=by
 cases hm:mb s with
 |none=>
  simp only[Option.bind_none]
  cases hl:L8 mb s with
  |none=>rfl
  |some b=>have:=aV3.1 hl;cases this with
   |out h=>grind
   |next h _=>grind
 |some f=>
  cases f with
  |inr b=>simp only[aF2];exact aV3.2 (.out hm)
  |inl s'=>
   simp only[aF2]
   cases hl:L8 mb s' with
   |some b=>exact aV3.2 (.next hm (aV3.1 hl))
   |none=>
    cases hl':L8 mb s with
    |none=>rfl
    |some b=>have:=aV3.1 hl';cases this with
     |out h=>grind
     |next h k=>grind [aV3]
def es8 {S B:Type}{mb:S->Option (S⊕B)}{P:Program}{c:Code}{I:S->Act->World->Prop}{R:Exit->Act->World->Prop}{QB:B->Exit->Act->World->Prop}
  (body:∀s f,mb s=some f->∀a w,I s a w->c.wp P (fun e a w=>match f with| .inl s'=>e= .normal/\I s' a w| .inr b=>e≠ .normal/\QB b e a w) a w)
  {s:S}{b:B} (h:bL3 mb s b) (hR:∀e a w,e≠ .normal->QB b e a w->R e a w):∀a w,I s a w->(Code.loop c).wp P R a w:=by
 have key:∀a w,I s a w->∀(bf:Frame) (k:List Item) (cs:List Frame),∃e a' w',R e a' w'/\Arrives P (lone (bf.at a (.code c:: .inLoop c::k)) cs w) bf k cs e a' w':=by
  induction h with
  |out hm=>
   intro a w hI bf k cs
   obtain⟨e,a₁,w₁,⟨hne,hq⟩,harr⟩:=body _ _ hm a w hI bf (.inLoop c::k) cs
   exact⟨e,a₁,w₁,hR e a₁ w₁ hne hq,.pass (x:=.inLoop c) rfl (fun _ _=>.inl hne) harr⟩
  |next hm _ ih=>
   intro a w hI bf k cs
   obtain⟨e,a₁,w₁,⟨rfl,hI₁⟩,harr⟩:=body _ _ hm a w hI bf (.inLoop c::k) cs
   obtain⟨e₂,a₂,w₂,hq₂,harr₂⟩:=ih hR a₁ w₁ hI₁ bf k cs
   exact⟨e₂,a₂,w₂,hq₂,.of_steps (Steps.trans harr (.one step_inLoop)) harr₂⟩
 intro a w hI bf k cs
 obtain⟨e,a',w',hq,harr⟩:=key a w hI bf k cs
 exact⟨e,a',w',hq,.of_steps (.one step_loop) harr⟩
section
variable {ρ:Type} {X:Cx} {ks:List K} {σ:St} {m:Option ρ} {Q:ρ -> Exit -> St -> Prop}
def E9.loop {S B:Type}{c:Code}{mb:S->Option (S⊕B)}{k:B->Option ρ}(σs:S->St)(QB:B->Exit->St->Prop){s₀:S}(h0:Sub (σs s₀) σ)
  (body:∀s,E9 X [.c c] (σs s) (mb s) (fun f e σ'=>match f with| .inl s'=>e= .normal/\Sub (σs s') σ'| .inr b=>e≠ .normal/\QB b e σ'))
  (rest:∀b e σ',e≠ .normal->QB b e σ'->ab8 X ks e σ' (k b) Q):E9 X (.c (.loop c)::ks) σ ((L8 mb s₀).bind k) Q:=fun r hr a w hw=>by
 cases hm:L8 mb s₀ with
 |none=>grind
 |some b=>
  simp only[hm,aF2]at hr
  refine es8 (I:=fun s a w=>Sim X.w0 X.L X.nt (σs s) a w) (QB:=fun b e a w=>X.post (QB b) e a w) (fun s f hf a w hI=>?_) (aV3.1 hm) (fun e a' w' hne hq=>?_) a w (hw.sub h0)
  ·refine wp_mono (body s f hf a w hI) fun e a' w' ⟨σ',hs,hq⟩=>?_
   cases f with
   |inl s'=>exact⟨hq.1,hs.sub hq.2⟩
   |inr b'=>exact⟨hq.1,σ',hs,hq.2⟩
  ·obtain⟨σ',hs,hq⟩:=hq
   have:=rest b e σ' hne hq r hr a' w' hs
   omega
end
def aM2 {ρ:Type}(P:Program)(n:FuncId)(args:List T)(m:Option ρ)(res:ρ->T)(d:Bool:=true):Prop:=
 (∀vs w,(callFunc n vs).run P w= .ok (.enter n vs) w)/\
 ∀r,m=some r->∀(w:World) (S:Nat->Prop) (E:Nat->Value) (vs:List Value),GlL P w (fun _=>False)->(∀b,S b->b<w.heap.size)->RVL w S E vs args->
  Calls P n vs.toArray w fun e w'=>∃v S',e= .returned v/\RV w' S' E v (res r)/\aF1 d (fun _=>False) w w'/\(∀b,S' b->b<w'.heap.size)/\(∀b,S' b->S b\/w.heap.size<=b)
def as1 (hp:List (Nat×G6)):List T->Option (List Tree)
 |[]=>some []
 | .t x::r=>(as1 hp r).map (aE3 x::·)
 | .own id::r=>match look hp id with|some (.rows _ _ n rs)=>(as1 hp r).map (.sl n rs::·)|_=>none
 |_::_=>none
mutual
def bb2 (hp:List (Nat×G6)):T->Option T
 | .own id=>match look hp id with|some (.rows _ _ n rs)=>some (.t (.sl n rs))|_=>none
 | .agg l=>(bn7 hp l).map .agg
 | .P4 l=>(bn7 hp l).map .P4
 | .t x=>some (.t (aE3 x))
 | .el c=>some (.el c)
 | .fz n c=>some (.fz n c)
 | .clo n l=>(bn7 hp l).bind fun r=>(els r).map (.fz n)
 | .ptr id off=>match look hp id with|some (.box ts)=>(as1 hp ts).map fun c=>.el (c.drop off)|_=>none
 |_=>none
def bn7 (hp:List (Nat×G6)):List T->Option (List T)
 |[]=>some []
 |x::r=>match bb2 hp x,bn7 hp r with|some y,some l=>some (y::l)|_,_=>none
end
mutual
def scalar:T->Bool
 | .t (.v _)=>true
 | .agg l=>cp5 l
 | .P4 l=>cp5 l
 |_=>false
def cp5:List T->Bool
 |[]=>true
 |x::r=>scalar x&&cp5 r
end
def bT6:∀{l:List T},cp5 l=true->∀j (h:j<l.length),scalar (l[j])=true
 |[],_,j,h=>by simp at h
 |x::r,hn,j,h=>by
  simp only[cp5,aK5]at hn
  cases j with
  |zero=>exact hn.1
  |succ j=>exact bT6 hn.2 j (by simpa using h)
theorem RV.scalar {w w':World}{S S':Nat->Prop}{E E':Nat->Value}{v:Value}{t:T}(h:RV w S E v t)(hs:Pv.scalar t=true):RV w' S' E' v t:=by
 induction h with
 |t h=>
  cases h with
  |v=>exact .t (.v _)
  |_=>simp[Pv.scalar]at hs
 |agg vs l hl _ ih=>exact .agg vs l hl fun j h1 h2=>ih j h1 h2 (bT6 (by grind [Pv.scalar]) j h2)
 |P4 vs l hl _ ih=>exact .P4 vs l hl fun j h1 h2=>ih j h1 h2 (bT6 (by grind [Pv.scalar]) j h2)
 |_=>simp[Pv.scalar]at hs
def bs5 (hp:List (Nat×G6))(E:Nat->Value)(b:Nat):Prop:=∃id blk,look hp id=some blk/\S0 (E id)=some b
section
variable {w0:World} {L:Lim} {nt:Nat} {σ:St} {S:Nat -> Prop} {E:Nat -> Value} {a:Act} {w:World}
theorem bW7 (h:Ok w0 L nt σ S E a w){id e sz n:Nat}{rs:List (List Tree)}(hb:look σ.hp id=some (.rows e sz n rs))(S':Nat->Prop)(hS:∀b,S b->S' b)(hO:∀b,bs5 σ.hp E b->S' b):
  RT w S' (E id) (.sl n rs):=by
 obtain⟨hn,hx⟩:=h.hp id _ hb
 subst hn
 rcases hx with⟨hE,hr⟩|⟨β,cap,vs,_,hE,hh,hl,hc,hsz,hr⟩
 ·subst hr;rw[hE];exact .slE _ _
 ·rw[hE]
  have hb1:∀i j,i<rs.length->j<sz->i*sz+j<vs.length:=by
   intro i j hi hj
   have h1:(i+1)*sz<=cap*sz:=Nat.mul_le_mul_right _ (by omega)
   grind
  refine .sl β 0 cap sz rs (fun i j=>vs.getD (i*sz+j) undef) hc (hO β ⟨id,_,hb,by rw[hE];rfl⟩) hsz (fun i j hi hj=>?_) (fun i j hi hj=>?_)
  ·have:=hb1 i j hi hj
   rw[cell_of_row w β _ _ e _ hh]
   simp[this]
  ·have hj':j<sz:=by grind
   have:=hb1 i j hi hj'
   have hq:=hr i j hi hj this
   simp only[cY4,aX4 this,ep8]
   exact hq.mono hS (fun _ _=>rfl)
def di0 (h:Ok w0 L nt σ S E a w){S':Nat->Prop}(hS:∀b,S b->S' b)(hO:∀b,bs5 σ.hp E b->S' b):∀{ts:List T}{c:List Tree}{vs:List Value},as1 σ.hp ts=some c->RVL w S E vs ts->vs.length=c.length/\∀j (h1:j<vs.length) (h2:j<c.length),RT w S' (vs[j]) (c[j])
 |[],c,vs,hc,hv=>by
  simp only[as1,aI6]at hc
  subst hc
  have:=hv.1
  grind
 |x::ts,c,vs,hc,hv=>by
  obtain⟨y,r,rfl,hr,hxy⟩:∃y r,c=y::r/\as1 σ.hp ts=some r/\∀v,RV w S E v x->RT w S' v y:=by
   cases x with
   |t x=>
    simp only[as1]at hc
    cases hr:as1 σ.hp ts with
    |none=>grind
    |some r=>
     simp only[hr,bN9,aI6]at hc
     exact⟨_,r,hc.symm,rfl,fun v hx=>by cases hx with|t hx=>exact bb7 (hx.mono hS (fun _ _=>rfl))⟩
   |own id=>
    simp only[as1]at hc
    split at hc<;>try(cases hc;done)
    rename_i e sz n rs hb
    cases hr:as1 σ.hp ts with
    |none=>grind
    |some r=>
     simp only[hr,bN9,aI6]at hc
     exact⟨_,r,hc.symm,rfl,fun v hx=>by cases hx with|own _ _ hE=>grind [bW7]⟩
   |_=>simp[as1]at hc
  cases vs with
  |nil=>have:=hv.1;grind
  |cons v vs=>
   obtain⟨g1,g2⟩:=di0 h hS hO hr (vs:=vs) ⟨by simpa using hv.1,fun j a b=>hv.2 (j+1) (by grind) (by grind)⟩
   refine⟨by simp[g1],fun j a b=>?_⟩
   cases j with
   |zero=>exact hxy v (hv.2 0 (by simp) (by simp))
   |succ j=>grind
mutual
theorem dl9 (h:Ok w0 L nt σ S E a w){S':Nat->Prop}(hS:∀b,S b->S' b)(hO:∀b,bs5 σ.hp E b->S' b):∀{t u:T}{v:Value},RV w S E v t->bb2 σ.hp t=some u->∀E',RV w S' E' v u
 | .t x,u,v,hv,hf,E'=>by
  simp only[bb2,aI6]at hf;subst hf
  cases hv with|t hx=>exact .t (bb7 (hx.mono hS (fun _ _=>rfl)))
 | .el c,u,v,hv,hf,E'=>by
  simp only[bb2,aI6]at hf;subst hf
  cases hv with|el b o _ vs hb hc hr=>exact .el b o _ vs (hS b hb) hc (fun j hj=>(hr j hj).mono hS (fun _ _=>rfl))
 | .own id,u,v,hv,hf,E'=>by
  simp only[bb2]at hf
  split at hf<;>try(cases hf;done)
  rename_i el sz n rs hb
  simp only[aI6]at hf;subst hf
  cases hv with|own _ _ hE=>subst hE;exact .t (bW7 h hb S' hS hO)
 | .agg l,u,v,hv,hf,E'=>by
  simp only[bb2]at hf
  cases hl:bn7 σ.hp l with
  |none=>simp[hl]at hf
  |some r=>
   simp only[hl,bN9,aI6]at hf;subst hf
   cases hv with|agg vs _ hlen hr=>have:=bA1 h hS hO ⟨hlen,hr⟩ hl E';exact .agg vs r this.1 this.2
 | .P4 l,u,v,hv,hf,E'=>by
  simp only[bb2]at hf
  cases hl:bn7 σ.hp l with
  |none=>simp[hl]at hf
  |some r=>
   simp only[hl,bN9,aI6]at hf;subst hf
   cases hv with|P4 vs _ hlen hr=>have:=bA1 h hS hO ⟨hlen,hr⟩ hl E';exact .P4 vs r this.1 this.2
 | .fz n c,u,v,hv,hf,E'=>by
  simp only[bb2,aI6]at hf;subst hf
  cases hv with|fz _ vs _ hl hr=>exact .fz n vs c hl (fun j h1 h2=>(hr j h1 h2).mono hS (fun _ _=>rfl))
 | .clo n l,u,v,hv,hf,E'=>by
  simp only[bb2]at hf
  cases hl:bn7 σ.hp l with
  |none=>simp[hl]at hf
  |some r=>
   simp only[hl,aF2]at hf
   cases hr:els r with
   |none=>simp[hr]at hf
   |some c=>
    simp only[hr,bN9,aI6]at hf;subst hf
    cases hv with|clo _ vs _ hlen hrr=>have:=bA1 h hS hO ⟨hlen,hrr⟩ hl E';exact RV.eA9 (.clo n vs r this.1 this.2) hr
 | .ptr id off,u,v,hv,hf,E'=>by
  simp only[bb2]at hf
  split at hf<;>try(cases hf;done)
  rename_i ts hb
  cases hc:as1 σ.hp ts with
  |none=>simp[hc]at hf
  |some c=>
   simp only[hc,bN9,aI6]at hf;subst hf
   obtain⟨β,vs,elem,hE,hh,hl,hr,h1⟩:=h.hp id _ hb
   obtain⟨hlen,htr⟩:=di0 h hS hO hc ⟨hl,hr⟩
   cases hv with
   |ptr _ _ β' hE'=>
    rw[hE]at hE'
    cases hE'
    refine .el β off _ (fun j=>vs.getD (off+j) undef) (hO β ⟨id,_,hb,by rw[hE];rfl⟩) (fun j hj=>?_) (fun j hj=>?_)
    ·simp only[en4]at hj
     rw[cell_of_row w β _ _ elem _ hh]
     have:off+j<vs.length:=by omega
     simp[this]
    ·simp only[en4]at hj
     have h3:off+j<vs.length:=by omega
     simp only[cY4,aX4 h3,ep8,eV4]
     exact htr (off+j) h3 (by omega)
 | .pe _ _ _ _,_,_,_,hf,_=>by simp[bb2]at hf
 | .vw _ _ _ _,_,_,_,hf,_=>by simp[bb2]at hf
 | .any,_,_,_,hf,_=>by simp[bb2]at hf
theorem bA1 (h:Ok w0 L nt σ S E a w){S':Nat->Prop}(hS:∀b,S b->S' b)(hO:∀b,bs5 σ.hp E b->S' b):∀{l r:List T}{vs:List Value},RVL w S E vs l->bn7 σ.hp l=some r->∀E',RVL w S' E' vs r
 |[],r,vs,hv,hf,E'=>by
  simp only[bn7,aI6]at hf;subst hf
  exact⟨hv.1,fun j _ h2=>by simp at h2⟩
 |x::l,r,vs,hv,hf,E'=>by
  simp only[bn7]at hf
  split at hf<;>try(cases hf;done)
  rename_i y l' hy hl'
  simp only[aI6]at hf;subst hf
  cases vs with
  |nil=>have:=hv.1;simp at this
  |cons v vs=>
   have h1:=dl9 h hS hO (t:=x) (hv.2 0 (by simp) (by simp)) hy E'
   have h2:=bA1 h hS hO (l:=l) (vs:=vs) ⟨by simpa using hv.1,fun j a b=>hv.2 (j+1) (by simpa using a) (by simpa using b)⟩ hl' E'
   refine⟨by simp[h2.1],fun j a b=>?_⟩
   cases j with
   |zero=>exact h1
   |succ j=>exact h2.2 j (by simpa using a) (by simpa using b)
end
end
end Go.Pv
namespace Go.Pv
open Go.RowKit
def dt7 (tm:List (Nat×T))(o:Oper):Option (Nat×List T×List (List Tree)):=
 match o.op with
 | .call ⟨.value f,args,_⟩=>match val tm f,by8 tm args.toList with
  |some (.fz n aW8),some l=>some (n,l,aW8)
  |_,_=>none
 |_=>none
section
variable {w0:World} {L:Lim} {nt:Nat} {σ:St} {S:Nat -> Prop} {E:Nat -> Value} {a:Act} {w:World}
def Ok.more (h:Ok w0 L nt σ S E a w){S':Nat->Prop}(h1:∀b,S' b->b<w.heap.size)(h2:∀b,S' b->L.base b\/L.bs2 b\/w0.heap.size<=b)
  (h3:∀id blk β,look σ.hp id=some blk->S0 (E id)=some β->¬S' β):Ok w0 L nt σ (fun b=>S b\/S' b) E a w:=
 {h with
  aH9:=fun b hb=>hb.elim (h.aH9 b) (h1 b)
  base:=fun b hb=>hb.elim (h.base b) (h2 b)
  tm:=fun k t ht=>(h.tm k t ht).mono (fun _ x=>.inl x) (fun _ _=>rfl) (fun _ _=>rfl)
  hp:=fun id b hb=>(h.hp id b hb).mono (fun _ x=>.inl x) (fun _ _=>rfl) (fun _ _=>rfl) (fun _ _=>rfl)
  own:=fun id b β hb hβ=>⟨fun hx=>hx.elim (h.own id b β hb hβ).1 (h3 id b β hb hβ),(h.own id b β hb hβ).2⟩}
def dt8 {P:Program}(h:Ok w0 L nt σ S E a w){o:Oper}{n:Nat}{l:List T}{aW8:List (List Tree)}(ho:dt7 σ.tm o=some (n,l,aW8))(hn:∀vs w,(callFunc n vs).run P w= .ok (.enter n vs) w):
  ∃vs ps:List Value,(execOp a.eval o).run P w= .ok (.enter n (vs++ps).toArray) w/\RVL w S E vs l/\∀E',RVL w S E' ps (aW8.map T.el):=by
 obtain⟨dst,op,type,pos,aft,guard⟩:=o
 unfold dt7 at ho
 split at ho<;>try(cases ho;done)
 rename_i f args tys hop
 simp only at hop
 subst hop
 split at ho<;>try(cases ho;done)
 rename_i n' cz8 l' hf hl
 simp only[aI6,ba7]at ho
 obtain⟨rfl,rfl,rfl⟩:=ho
 have hfv:=h.val hf
 generalize hx:a.eval f=x at hfv
 cases hfv with
 |fz _ ps _ hpl hp=>
  refine⟨args.toList.map a.eval,ps,?_,cr0 h _ _ hl,fun E'=>⟨by grind,fun j h1 h2=>?_⟩⟩
  ·simp_all[execOp,resolve,Deferred.ofValue,invoke]
  ·simp only[dc0]
   exact(hp j h1 (by omega)).rv
def RVL.append {vs us:List Value}{l m:List T}(h:RVL w S E vs l)(k:RVL w S E us m):RVL w S E (vs++us) (l++m):=by
 refine⟨by simp[h.1,k.1],fun j h1 h2=>?_⟩
 have hl:=h.1
 by_cases hj:j<vs.length
 ·rw[dM2 hj,dM2 (by omega)];exact h.2 j hj (by omega)
 ·rw[ez8 (by omega),ez8 (by omega)]
  simp only[List.length_append]at h1 h2
  have:=k.2 (j-vs.length) (by omega) (by omega)
  grind
def RVL.eP4 {w':World}{S':Nat->Prop}{vs:List Value}{l:List T}(h:RVL w S E vs l)(hS:∀b,S b->S' b)(hw:∀b,S b->w'.heap[b]? =w.heap[b]?):RVL w' S' E vs l:=
 ⟨h.1,fun j h1 h2=>(h.2 j h1 h2).mono hS hw (fun _ _=>rfl)⟩
def RV.closed (h:Ok w0 L nt σ S E a w){l r:List T}{vs:List Value}(hv:RVL w S E vs l)(hf:bn7 [] l=some r):∀E',RVL w S E' vs r:=
 bA1 (σ:=⟨σ.tm,[]⟩) {h with hp:=fun id b hb=>by simp[look]at hb,own:=fun id b β hb=>by simp[look]at hb,au2:=fun id id' b b' β hb=>by simp[look]at hb}
  (fun _ x=>x) (fun b hb=>by obtain⟨id,_,hl,_⟩:=hb;simp[look]at hl) hv hf
end
section
variable {ρ τ:Type} {X:Cx} {ks:List K} {σ:St} {m:Option ρ} {Q:ρ -> Exit -> St -> Prop}
def B9.call {d1:Bool}{all:Array Oper}{o:Oper}{rest:List Oper}{n:Nat}{targs aD0:List T}{aW8:List (List Tree)}{m₁:Option τ}{res:τ->T}{k:τ->Option ρ}(σ₂:τ->St)
  (hg:ai6 all.toList σ.tm o.guard=some true) (ho:dt7 σ.tm o=some (n,targs,aW8)) (hf:bn7 [] targs=some aD0) (hc:aM2 X.P n (aD0++aW8.map T.el) m₁ res d1)
  (hp:∀t,bw8 X.nt o.dst (res t) σ=some (σ₂ t)) (h:∀t,B9 X all rest ks (σ₂ t) (k t) Q) (hd0:X.L.dr=true->d1=true:=by intro _;rfl):B9 X all (o::rest) ks σ (m₁.bind k) Q:=fun r hr a w ⟨S,E,hk⟩=>by
 cases hm:m₁ with
 |none=>grind
 |some t=>
  simp only[hm,aF2]at hr
  obtain⟨vs,ps,bg9,hv,hps⟩:=dt8 hk ho hc.1
  have aL6:=hc.2 t hm w S E (vs++ps) (X.glF hk) hk.aH9 ((RV.closed hk hv hf E).append (hps E))
  refine wpList_step fun K hK=>?_
  rw[T7 hk hg,if_pos rfl]
  unfold Oper.wp
  rw[bg9,Oper.upon_enter]
  refine aL6.mono fun e w' ⟨v,S',he,hv',aL7,hs1,hs2⟩=>?_
  subst he
  refine hK _ _ (h t r hr _ _ ⟨fun b=>S b\/S' b,E,bA5 ((hk.grow (aL7.dN8 hd0)).more hs1 (fun b hb=>?_) (fun id blk β hb hβ hS=>?_)) (hv'.mono (fun _ x=>.inr x) (fun _ _=>rfl) (fun _ _=>rfl)) (hp t)⟩)
  ·rcases hs2 b hb with h1|h1
   ·exact hk.base b h1
   ·exact .inr (.inr (eC9 hk.keep.size h1))
  ·have:=hk.own id blk β hb hβ
   grind
def B9.eN7 {d1:Bool}{all:Array Oper}{o:Oper}{rest:List Oper}{n:Nat}{targs aD0:List T}{aW8:List (List Tree)}{m₁:Option τ}{res:τ->T}{k:τ->Option ρ}(σ₂:τ->St)
  (hg:ai6 all.toList σ.tm o.guard=some true) (ho:dt7 σ.tm o=some (n,targs,aW8)) (hf:bn7 σ.hp targs=some aD0) (hc:aM2 X.P n (aD0++aW8.map T.el) m₁ res d1) (hsc:∀t,scalar (res t)=true)
  (hp:∀t,bw8 X.nt o.dst (res t) σ=some (σ₂ t)) (h:∀t,B9 X all rest ks (σ₂ t) (k t) Q) (hd0:X.L.dr=true->d1=true:=by intro _;rfl):B9 X all (o::rest) ks σ (m₁.bind k) Q:=fun r hr a w ⟨S,E,hk⟩=>by
 cases hm:m₁ with
 |none=>grind
 |some t=>
  simp only[hm,aF2]at hr
  obtain⟨vs,ps,bg9,hv,hps⟩:=dt8 hk ho hc.1
  have aL6:=hc.2 t hm w (fun b=>S b\/bs5 σ.hp E b) E (vs++ps) (X.glF hk) (fun b hb=>hb.elim (hk.aH9 b) (fun⟨id,_,hl,hβ⟩=>(hk.own id _ b hl hβ).2.1))
   ((bA1 hk (fun _ x=>.inl x) (fun _ x=>.inr x) hv hf E).append ((hps E).eP4 (fun _ x=>.inl x) (fun _ _=>rfl)))
  refine wpList_step fun K hK=>?_
  rw[T7 hk hg,if_pos rfl]
  unfold Oper.wp
  rw[bg9,Oper.upon_enter]
  refine aL6.mono fun e w' ⟨v,S',he,hv',aL7,_,_⟩=>?_
  subst he
  exact hK _ _ (h t r hr _ _ ⟨S,E,bA5 (hk.grow (aL7.dN8 hd0)) (hv'.scalar (hsc t)) (hp t)⟩)
def number:Nat->List T->List (Nat×T)
 |_,[]=>[]
 |k,x::r=>(k,x)::number (k+1) r
def bS6:∀(l:List T) (k j:Nat) (t:T),look (number k l) j=some t->k<=j/\l[j-k]? =some t
 |[],k,j,t,h=>by simp[number,look]at h
 |x::r,k,j,t,h=>by
  simp only[number,look]at h
  by_cases hk:k=j
  ·simp_all
  ·simp only[D2 hk,fk6]at h
   obtain⟨h1,h2⟩:=bS6 r (k+1) j t h
   grind
def bl8 (C8:Tab)(σ:St):List ResultVar->Option (List T)
 |[]=>some []
 | .tmp t::r=>match look σ.tm t,bl8 C8 σ r with
  |some x,some l=>some (x::l)
  |_,_=>none
 | .cell c ty::r=>match look σ.tm c,look C8 ty,bl8 C8 σ r with
  |some (.ptr id off),some ti,some l=>match look σ.hp id with
   |some (.box ts)=>(bh3 ti.desc.isAgg ti.size ts off).map (· ::l)
   |_=>none
  |_,_,_=>none
def dp1 (C8:Tab)(σ:St)(l:List ResultVar):Option T:=
 match bl8 C8 σ l with
 |some [x]=>bb2 σ.hp x
 |some l=>(bn7 σ.hp l).map .P4
 |none=>none
def cg4 (tmps : Array Value) : ResultVar -> Sem Value
  | .tmp t => pure (tmps.getD t undef)
  | .cell c t => do loadVar t (<- asAddr (tmps.getD c undef))
def bK5 {P:Program}{C8:Tab}(K6:aW1 P C8){w0:World}{L:Lim}{nt:Nat}{S:Nat->Prop}{E:Nat->Value}{a:Act}{w:World}(h:Ok w0 L nt σ S E a w):
  ∀(l:List ResultVar) (r:List T),bl8 C8 σ l=some r->
   ∃vs:List Value,(l.mapM (cg4 a.tmps)).run P w= .ok vs w/\RVL w S E vs r
 |[],r,hr=>by
  simp only[bl8,aI6]at hr;subst hr
  exact⟨[],by simp,rfl,fun j h1=>by simp⟩
 | .tmp t::l,r,hr=>by
  simp only[bl8]at hr
  split at hr<;>try(cases hr;done)
  rename_i x r' hx hr'
  simp only[aI6]at hr;subst hr
  obtain⟨vs,h1,h2⟩:=bK5 K6 h l r' hr'
  refine⟨a.tmps.getD t undef::vs,?_,by simp[h2.1],fun j a1 a2=>?_⟩
  ·grind [bq9,cg4,bB8,bd5]
  ·cases j with
   |zero=>exact h.tm t x hx
   |succ j=>exact h2.2 j (by grind) (by grind)
 | .cell c ty::l,r,hr=>by
  simp only[bl8]at hr
  split at hr<;>try(cases hr;done)
  rename_i id off ti r' hx hti hr'
  split at hr<;>try(cases hr;done)
  rename_i ts hb
  obtain⟨vs,h1,h2⟩:=bK5 K6 h l r' hr'
  cases hq:bh3 ti.desc.isAgg ti.size ts off with
  |none=>grind
  |some y=>
   simp only[hq,bN9,aI6]at hr;subst hr
   obtain⟨β,hpv,hE⟩:=(h.tm c _ hx).bK3
   obtain⟨β',cs,elem,hE',hh,hl,hrr,_⟩:=h.hp id _ hb
   rw[hE]at hE';cases hE'
   obtain⟨v,hv1,hv2⟩:=cI7 (P:=P) (w:=w) (b:=β) (o:=0) (K6 ty _ hti) hl (fun j h1=>by rw[cell_of_row w β (0+j) _ elem _ hh];simp[h1]) hrr hq
   rw[Nat.zero_add]at hv1
   have hv3:(loadVar ty ⟨β,off,none⟩).run P w= .ok v w:=by grind [Instr.loadAt,Instr.sureAddr]
   refine⟨v::vs,?_,by simp[h2.1],fun j a1 a2=>?_⟩
   ·grind [bq9,cg4,asAddr,bB8,bd5]
   ·cases j with
    |zero=>exact hv2
    |succ j=>exact h2.2 j (by grind) (by grind)
def eK4 {P : Program} {C8 : Tab} (K6 : aW1 P C8) {w0 : World} {L : Lim} {nt : Nat} {S : Nat -> Prop} {E : Nat -> Value} {a : Act} {w : World} (h : Ok w0 L nt σ S E a w) {fn : Func} {t : T}
    (hr : dp1 C8 σ fn.results.toList = some t) : ∃ v, (results fn a.tmps).run P w = .ok v w /\ ∀ E', RV w (fun b => S b \/ bs5 σ.hp E b) E' v t := by
  unfold dp1 at hr
  cases hl : bl8 C8 σ fn.results.toList with
  | none => grind
  | some l =>
    obtain ⟨vs, h1, h2⟩ := bK5 K6 h _ _ hl
    have hm : (fn.results.mapM (cg4 a.tmps)).run P w = .ok vs.toArray w := by
      rw [Array.mapM_eq_mapM_toList, Sem.run_map, h1]; rfl
    have bg9 : (results fn a.tmps).run P w = .ok (if h : vs.toArray.size = 1 then vs.toArray[0] else .tuple vs.toArray) w := by
      show (do let vs <- fn.results.mapM (cg4 a.tmps); pure (if h : vs.size = 1 then vs[0] else .tuple vs) : Sem Value).run P w = _
      simp_all
    refine ⟨_, bg9, fun E' => ?_⟩
    rw [hl] at hr
    have hlen := h2.1
    match l, hr, hlen with
    | [x], hr, hlen =>
      match vs, hlen, h2 with
      | [v], _, h2 =>
        have h0 : RV w S E v x := h2.2 0 (ff2) (ff2)
        grind [dl9]
    | [], hr, hlen =>
      simp only [bn7, bN9, aI6] at hr
      subst hr
      match vs, hlen with
      | [], _ => exact .P4 [] [] rfl fun j h1 => by simp
    | x :: y :: l, hr, hlen =>
      simp only at hr
      cases hf : bn7 σ.hp (x :: y :: l) with
      | none => grind
      | some r =>
        simp only [hf, bN9, aI6] at hr
        subst hr
        have := bA1 h (S' := fun b => S b \/ bs5 σ.hp E b) (fun _ x => .inl x) (fun _ x => .inr x) h2 hf E'
        have hsz : ¬ vs.toArray.size = 1 := by grind
        rw [dif_neg hsz]
        exact .P4 vs r this.1 this.2
theorem aM2.intro {d:Bool}{P:Program}{C8:Tab}(K6:aW1 P C8){n:Nat}{fn:Func}{c:Code}{args:List T}{m:Option τ}{res:τ->T}(nt:Nat)(rs:List ResultVar)
  (aL6:∀vs w,(callFunc n vs).run P w= .ok (.enter n vs) w) (hf:P.funcs[n]? =some fn) (hb:fn.body=some c) (hnt:fn.ntmps=nt) (hrs:fn.results.toList=rs) (hsz:args.length<=nt)
  (body:∀(w0:World) (L:Lim) (gl:GlL P w0 L.bs2) (_:L.dr=d),E9 ⟨P,C8,K6,w0,L,nt,gl⟩ [.c c] ⟨number 0 args,[]⟩ m (fun r e σ'=>(e= .ret\/e= .normal)/\dp1 C8 σ' rs=some (res r))):aM2 P n args m res d:=by
 refine⟨aL6,fun r hr w S E vs hgl hS hv=>?_⟩
 refine calls_of_wp hf hb ?_
 have h:=body w ⟨fun _=>False,S,E,d⟩ hgl rfl r hr ⟨vs.toArray++Array.replicate (fn.ntmps-vs.toArray.size) undef,[]⟩ w ⟨S,E,{
  keep:=aF1.refl _ _,aH9:=hS,base:=fun b hb=>.inl hb,size:=by have:=hv.1;simp;omega,defers:=rfl,
  tm:=fun k t ht=>by
   obtain⟨_,hk⟩:=bS6 args 0 k t ht
   simp only[Nat.sub_zero]at hk
   obtain⟨hlt,rfl⟩:=bG6.1 hk
   have hlt':k<vs.length:=by have:=hv.1;omega
   have:=hv.2 k hlt' hlt
   simp_all[Array.getElem?_append]
  hp:=fun id b hb=>by simp[look]at hb
  own:=fun id b β hb=>by simp[look]at hb
  au2:=fun id id' b b' β hb=>by simp[look]at hb
  pin:=fun _ _=>rfl}⟩
 refine wp_mono h fun e a' w' ⟨σ',⟨S',E',hk⟩,he,hret⟩=>?_
 rw[<-hrs]at hret
 obtain⟨v,hv1,hv2⟩:=eK4 K6 hk hret
 have fin:a'.defers=[]/\∃v,(results fn a'.tmps).run P w'= .ok v w'/\∃v' S'',Ending.returned v= .returned v'/\RV w' S'' E v' (res r)/\aF1 d (fun _=>False) w w'/\(∀b,S'' b->b<w'.heap.size)/\(∀b,S'' b->S b\/w.heap.size<=b):=by
  refine⟨hk.defers,v,hv1,v,_,rfl,hv2 E,hk.keep,fun b hb=>?_,fun b hb=>?_⟩
  ·rcases hb with hb|⟨id,_,hl,hβ⟩
   ·exact hk.aH9 b hb
   ·exact(hk.own id _ b hl hβ).2.1
  ·rcases hb with hb|⟨id,_,hl,hβ⟩
   ·rcases hk.base b hb with h1|h1|h1
    all_goals grind
   ·rcases(hk.own id _ b hl hβ).2.2 with h1|h1
    all_goals grind
 rcases he with rfl|rfl<;>exact fin
end
def E0 {α:Type}(l:List α)(i:Int):Option α:=if 0<=i then l[i.toNat]?else none
theorem aV0 {α:Type}{l:List α}{i:Int}{y:α}(h:E0 l i=some y):0<=i/\l[i.toNat]? =some y/\i<l.length:=by
 grind [E0]
def bo5 (k:IntKind)(x y:Int):Option Int:=if y=0 then none else some (k.wrap (x.tdiv y))
def cg2 (x y:Int):Option Int:=if y=0 then none else some (x.tmod y)
def V4 {α:Type}(l m:List α):Option (List α):=if l.length+m.length<=1073741824 then some (l++m)else none
section
variable {ρ τ α:Type} {X:Cx} {ks:List K} {tm:List (Nat × T)} {hp:List (Nat × G6)} {m:Option ρ} {Q:ρ -> Exit -> St -> Prop} {all:Array Oper} {o:Oper} {rest:List Oper}
theorem B9.one {d:Nat}{k:τ->Option ρ}{m₁:Option τ}(hd:o.dst=some d)(hdn:bi3 d X.nt=true)(hg:ai6 all.toList tm o.guard=some true)(res:τ->T)
  (bg9:∀y S E a w,m₁=some y->Ok X.w0 X.L X.nt ⟨tm,hp⟩ S E a w->∃v,(execOp a.eval o).run X.P w= .ok (.value v) w/\RV w S E v (res y))
  (h:∀y,m₁=some y->B9 X all rest ks ⟨(d,res y)::tm,hp⟩ (k y) Q):B9 X all (o::rest) ks ⟨tm,hp⟩ (m₁.bind k) Q:=fun r hr a w ⟨S,E,hk⟩=>by
 cases hm:m₁ with
 |none=>grind
 |some y=>
  simp only[hm,aF2]at hr
  obtain⟨v,h1,h2⟩:=bg9 y S E a w hm hk
  refine wpList_step fun K hK=>?_
  rw[T7 hk hg,if_pos rfl]
  unfold Oper.wp
  rw[h1]
  refine hK _ _ (h y hm r hr _ _ ⟨S,E,?_⟩)
  rw[hd]
  exact hk.put (bd6 hdn) h2
def de8 {ty e n s0:Nat}{x ix:Operand}{ik:IntKind}{i:Int}{z0:List Value}{te:TI}{l:List α}{enc:α->List Tree}{y:α}{S:Nat->Prop}{E:Nat->Value}{a:Act}{w:World}
  (hk:Ok X.w0 X.L X.nt ⟨tm,hp⟩ S E a w) (hm:E0 l i=some y)
  (ho:o.op= .indexAddr ty x ix) (hx:val tm x=some (.t (.sl n (l.map enc)))) (hi:val tm ix=some (.t (.v (.int ik i))))
  (hty:look X.C8 ty=some ⟨s0,.slice e,z0⟩) (hte:look X.C8 e=some te) (ay6:∀y,(enc y).length=te.size):
  ∃v,(execOp a.eval o).run X.P w= .ok (.value v) w/\RV w S E v (.el (enc y)):=by
 obtain⟨h0,hl,hlt⟩:=aV0 hm
 have hxv:=hk.val hx
 have hiv:=(hk.val hi).tv
 obtain⟨dd,hdd,ho2⟩:=(X.K6 ty _ hty).av0 w
 simp only[TD.ok]at ho2
 subst ho2
 have hs:=(X.K6 e _ hte).aG6 w
 have hll:i.toNat<l.length:=by omega
 generalize hxe:a.eval x=xv at hxv
 cases hxv with
 |t hxt=>
  generalize bZ3:l.map enc=rows at hxt
  cases hxt with
  |slE a' c=>simp at bZ3;grind
  |sl b off cap sz rows' vs _ hS hsz hc hr=>
   subst bZ3
   have hlen:(l.map enc).length=l.length:=by simp
   have hyl:l[i.toNat]=y:=by grind
   have hsz':sz=te.size:=by
    rw[<-ay6 y]
    grind
   subst hsz'
   refine⟨.pointer (some ⟨b,off+i.toNat*te.size,none⟩),?_,.el b _ (enc y) (fun j=>vs i.toNat j) hS (fun j hj=>?_) (fun j hj=>?_)⟩
   ·simp only[execOp,ho,Instr.indexAt,hiv,asIntOf,bq9,bB8,bd5,hdd,hxe]
    simp_all[addr_add]
   all_goals grind
theorem B9.index {ty e n s0:Nat}{x ix:Operand}{ik:IntKind}{i:Int}{z0:List Value}{te:TI}{d:Nat}{l:List α}{enc:α->List Tree}{k:α->Option ρ}
  (ho:o.op= .indexAddr ty x ix) (hd:o.dst=some d) (hdn:bi3 d X.nt=true) (hg:ai6 all.toList tm o.guard=some true) (hx:val tm x=some (.t (.sl n (l.map enc)))) (hi:val tm ix=some (.t (.v (.int ik i))))
  (hty:look X.C8 ty=some ⟨s0,.slice e,z0⟩) (hte:look X.C8 e=some te) (ay6:∀y,(enc y).length=te.size)
  (h:∀y,E0 l i=some y->B9 X all rest ks ⟨(d,.el (enc y))::tm,hp⟩ (k y) Q):B9 X all (o::rest) ks ⟨tm,hp⟩ ((E0 l i).bind k) Q:=
 B9.one hd hdn hg (fun y=>.el (enc y)) (fun _ _ _ _ _ hm hk=>de8 hk hm ho hx hi hty hte ay6) h
def B9.dm6 {ty e sz el n s0:Nat}{x ix:Operand}{ik:IntKind}{i:Int}{z0:List Value}{te:TI}{d id:Nat}{l:List α}{enc:α->List Tree}{k:α->Option ρ}
  (ho:o.op= .indexAddr ty x ix) (hd:o.dst=some d) (hdn:bi3 d X.nt=true) (hg:ai6 all.toList tm o.guard=some true) (hx:val tm x=some (.own id)) (hb:look hp id=some (.rows el sz n (l.map enc))) (hi:val tm ix=some (.t (.v (.int ik i))))
  (hty:look X.C8 ty=some ⟨s0,.slice e,z0⟩) (hte:look X.C8 e=some te) (hsz:te.size=sz)
  (h:∀y,E0 l i=some y->B9 X all rest ks ⟨(d,.pe id i.toNat sz 0)::tm,hp⟩ (k y) Q):B9 X all (o::rest) ks ⟨tm,hp⟩ ((E0 l i).bind k) Q:=
 B9.one hd hdn hg (fun _=>.pe id i.toNat sz 0) (fun y S E a w hm hk=>by
  obtain⟨h0,hl,hlt⟩:=aV0 hm
  have hiv:=(hk.val hi).tv
  obtain⟨dd,hdd,ho2⟩:=(X.K6 ty _ hty).av0 w
  simp only[TD.ok]at ho2
  subst ho2
  have hs:=(X.K6 e _ hte).aG6 w
  have hll:i.toNat<l.length:=by omega
  have hxv:=hk.val hx
  generalize hxe:a.eval x=xv at hxv
  cases hxv with
  |own _ _ hE=>
   obtain⟨hn,⟨hE',hr⟩|⟨β,cap,vs,_,hE',hh,_⟩⟩:=hk.hp id _ hb
   ·grind
   ·subst hsz
    have hpe:=RV.pe (w:=w) (S:=S) (E:=E) id i.toNat te.size 0 β (l.map enc).length cap hE'
    refine⟨_,?_,hpe⟩
    rw[hE']at hE
    subst hE
    simp only[execOp,ho,Instr.indexAt,hiv,asIntOf,bq9,bB8,bd5,hdd,hxe]
    simp_all[addr_add]) h
def B9.sel {ops:List Oper}{g v v' b:Bool}(n d:Nat)(σ₁:Bool->St)(hb:b=bif g then v else v')(hd:look tm d=some (.t (.v (.bool g))))
  (h₁:B9 X all (ops.take n) [] ⟨(d,.t (.v (.bool true)))::tm,hp⟩ (some ()) (fun _ e σ'=>e= .normal/\Sub (σ₁ v) σ'))
  (h₂:B9 X all (ops.take n) [] ⟨(d,.t (.v (.bool false)))::tm,hp⟩ (some ()) (fun _ e σ'=>e= .normal/\Sub (σ₁ v') σ'))
  (h:B9 X all (ops.drop n) ks (σ₁ b) m Q):B9 X all ops ks ⟨tm,hp⟩ m Q:=by
 have hm:m=(some b).bind (fun _=>m):=rfl
 rw[hm]
 refine B9.bind n σ₁ ?_ (fun t ht=>by grind) (m₁:=some b)
 have:=B9.split (X:=X) (ks:=[]) (tm:=tm) (hp:=hp) (all:=all) (ops:=ops.take n) (m₁:=some v) (m₂:=some v') (Q:=fun t e σ'=>e= .normal/\Sub (σ₁ t) σ') d hd
  (fun r hr a w hw=>by cases hr;exact h₁ () rfl a w hw) (fun r hr a w hw=>by cases hr;exact h₂ () rfl a w hw)
 grind
def B9.fi2 {ops:List Oper}{g v:Bool}(n d:Nat)(σ₁:Bool->St)(hd:look tm d=some (.t (.v (.bool g))))
  (h₁:B9 X all (ops.take n) [] ⟨(d,.t (.v (.bool true)))::tm,hp⟩ (some ()) (fun _ e σ'=>e= .normal/\Sub (σ₁ true) σ'))
  (h₂:B9 X all (ops.take n) [] ⟨(d,.t (.v (.bool false)))::tm,hp⟩ (some ()) (fun _ e σ'=>e= .normal/\Sub (σ₁ v) σ'))
  (h:B9 X all (ops.drop n) ks (σ₁ (g||v)) m Q):B9 X all ops ks ⟨tm,hp⟩ m Q:=
 B9.sel n d σ₁ (b:=g||v) (by rfl) hd h₁ h₂ h
end
abbrev tK (k:IntKind)(n:Int):Tree:=.v (.int k n)
abbrev tI (n:Int):Tree:=.v (.int .i64 n)
abbrev tB (b:Bool):Tree:=.v (.bool b)
abbrev tS {α:Type}(enc:α->List Tree)(l:List α):Tree:=.sl l.length (l.map enc)
abbrev j5 (n:Int):Int:=IntKind.i64.wrap n
def encI (n:Int):List Tree:=[tI n]
def dv1 (b:Bool):List Tree:=[tB b]
def encS {α:Type}(enc:α->List Tree)(l:List α):List Tree:=[tS enc l]
inductive Fl (S R:Type)where
 |next(s:S)
 |brk (s:S)
 |ret (r:R)
abbrev aJ9 {S R:Type}(i:Int)(f:Fl S R):Option ((Int×S)⊕(S⊕R)):=
 match f with
 | .next s=>some (.inl (j5 (i+1),s))
 | .brk s=>some (.inr (.inl s))
 | .ret r=>some (.inr (.inr r))
abbrev do8 {α S R:Type}(l:List α)(f:Int->α->S->Option (Fl S R))(p:Int×S):Option ((Int×S)⊕(S⊕R)):=
 bif decide (p.1<l.length)then(E0 l p.1).bind fun x=>(f p.1 x p.2).bind (aJ9 p.1)else some (.inr (.inl p.2))
noncomputable abbrev ae5 {α S R:Type}(l:List α)(f:Int->α->S->Option (Fl S R))(s:S):Option (S⊕R):=L8 (do8 l f) (0,s)
abbrev cI8 {S R:Type}(n:Int)(f:Int->S->Option (Fl S R))(p:Int×S):Option ((Int×S)⊕(S⊕R)):=
 bif decide (p.1<n)then(f p.1 p.2).bind (aJ9 p.1)else some (.inr (.inl p.2))
noncomputable abbrev L2 {S R:Type}(n:Int)(f:Int->S->Option (Fl S R))(s:S):Option (S⊕R):=L8 (cI8 n f) (0,s)
section
variable {ρ τ:Type} {X:Cx} {ks:List K} {σ:St} {m:Option ρ} {Q:ρ -> Exit -> St -> Prop}
def E9.fe4 {c:Operand}{x y:Code}(hc:val σ.tm c=some (.t (.v (.bool false))))(h₂:E9 X (.c y::ks) σ m Q):E9 X (.c (.cond c x y)::ks) σ m Q:=fun r hr a w ⟨S,E,hk⟩=>
 wp_cond_false ((hk.val hc).tv) (h₂ r hr a w ⟨S,E,hk⟩)
end
end Go.Pv

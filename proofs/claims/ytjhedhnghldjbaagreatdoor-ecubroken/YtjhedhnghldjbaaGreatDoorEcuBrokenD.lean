/- A part of the proof of EcuBroken: ecu.Explain, and more. -/
import Derived.Test.YtjhedhnghldjbaaGreatDoorEcuBrokenC
import Derived.WalkKit
import Derived.LoopTactic
import Derived.BigCall
import Derived.Deep.RegionHeld3
import Derived.Lib.Hide
import Derived.Shelf.Strings.BuilderK
import Derived.Lib.OthersKept
import Derived.Laws.Concat
import Derived.Lib.Join
import Derived.Lib.ItoaLen
import Derived.Test.YtjhedhnghldjbaaGreatDoorProg
import Derived.KernelRfl
set_option linter.all false
set_option maxRecDepth 100000
noncomputable section
open Bool renaming and_eq_true->aK5,not_eq_true'->bG5,not_true->aX5,or_eq_true->cH4
open Int renaming tdiv->cW7,tdiv_eq_ediv_of_nonneg->cx1,tmod->dq1
open Go.IntKind renaming bits->eR9,u64->ba6
open List renaming all_eq_true->bt1,getElem?_eq_getElem->aX4,getElem_cons_zero->et7,getElem_map->dc0,getElem_mem->bf3,length_cons->bu9,length_eq_zero_iff->eD0,length_map->bY6,length_nil->cJ8,mem_append->du0,mem_cons->ca1,mem_map->cK0,mem_range->dP5,not_mem_nil->eQ1,range->di4,take_succ_eq_append_getElem->cW8
open Go.Lit renaming int->de1
open Nat renaming le_refl->bO2
open Option renaming bind_some->aF2
open Option.some renaming injEq->aI6
open Go.Pv renaming encI->aI7,encS->cY6
namespace Go.Proofs.YtjhedhnghldjbaaGreatDoor
open Go Go.RowKit Go.Pv Go.Proofs Tryz
def RxP (nm:Nat->ByteArray)(w:World)(e:Ending)(w':World):Prop:=∃b o cap,e= .returned (.slice (some ⟨b,o,none⟩) 7 cap)/\b<w'.heap.size/\(∀i,i<7->w'.cell? ⟨b,o+i*5,none⟩=some (.string (nm i)))/\Below w.heap.size w w'
def eh9 (w:World)(v:Value)(xs:List Int):Prop:=∃a c,v= .slice a xs.length c/\((∃b o,a=some ⟨b,o,none⟩/\b<w.heap.size/\∀j (h:j<xs.length),w.cell? ⟨b,o+j,none⟩=some (.int .i64 xs[j]))\/xs=[])
def okC (m:Nat)(c:Int):Bool:=decide (0<=c)&&decide (c<(m:Int))
def dP4 (code:Nat->Int)(c:Int):ByteArray:=⟨(Lib.itoa (code c.toNat)).toArray⟩
def bq7 (nm:Nat->ByteArray)(code:Nat->Int)(r:Int)(cs:List Int):List UInt8:=(nm r.toNat).data.toList++[58,32]++Lib.join (cs.map fun c=>Lib.itoa (code c.toNat)) [44,32]++[10]
def okA (m:Nat)(r:Int)(cs:List Int):Bool:=decide (0<=r)&&decide (r<7)&&cs.all (okC m)
def txt (nm:Nat->ByteArray)(code rea:Nat->Int)(cau:Nat->List Int)(k:Nat):List UInt8:=(di4 k).flatMap fun j=>bq7 nm code (rea j) (cau j)
def exV (nm:Nat->ByteArray)(code rea:Nat->Int)(cau:Nat->List Int)(m n:Nat):ByteArray×Int:=
 bif (di4 n).all fun j=>okA m (rea j) (cau j)then(⟨(txt nm code rea cau n).toArray⟩,0)else(⟨#[]⟩,1)
def dQ7 {nm:Nat->ByteArray}{code rea:Nat->Int}{cau:Nat->List Int}{m n k:Nat}(hk:k<n)(h:okA m (rea k) (cau k)=false):exV nm code rea cau m n=(⟨#[]⟩,1):=by
 have:((di4 n).all fun j=>okA m (rea j) (cau j))=false:=by
  rw[List.all_eq_false]
  exact⟨k,dP5.2 hk,by simp[h]⟩
 unfold exV
 rw[this]
 rfl
def eU1 {nm:Nat->ByteArray}{code rea:Nat->Int}{cau:Nat->List Int}{m n:Nat}(h:∀j,j<n->okA m (rea j) (cau j)=true):exV nm code rea cau m n=(⟨(txt nm code rea cau n).toArray⟩,0):=by
 have:((di4 n).all fun j=>okA m (rea j) (cau j))=true:=by
  rw[bt1]
  exact fun j hj=>h j (dP5.1 hj)
 unfold exV
 rw[this]
 rfl
def fm1 (nm:Nat->ByteArray)(code rea:Nat->Int)(cau:Nat->List Int)(m n W1:Nat)(w1:World)(i:Value)(wr:World):Prop:=
 ∃k:Nat,k<=n/\i= .int .i64 k/\(∀j,j<k->okA m (rea j) (cau j)=true)/\Lib.IsBuilderF 131 5 W1 W1 (Lib.byteCells (txt nm code rea cau k)) wr/\Below W1 w1 wr/\(txt nm code rea cau k).length<=k*2000
def fm2 (code:Nat->Int)(cs:List Int)(m B:Nat)(wk:World)(v i:Value)(wx:World):Prop:=
 ∃j:Nat,j<=cs.length/\i= .int .i64 j/\((cs.take j).all (okC m)=true)/\wx.ownsRow B 9 1 v j ((cs.take j).map fun c=>.string (dP4 code c))/\Below B wk wx
def dK8 {w w':World}{B e n:Nat}{v:Value}{xs:List Value}(h:w.ownsRow B e 1 v n xs)(hb:Below w.heap.size w w'):w'.ownsRow B e 1 v n xs:=
 h.kept (row:=none) ⟨hb.os,hb.tape,hb.output,hb.size,fun k hk _=>hb.block k hk⟩ (Classical.em _)
def dP0 {T e:TypeId}{B b:Nat}{bs:List Value}{W W':World}(h:Lib.IsBuilderF T e B b bs W)(hb:Below W.heap.size W W'):Lib.IsBuilderF T e B b bs W':=
 h.elim (fun x=>.inl (at_F x hb)) (fun x=>.inr (at_F x hb))
 where
 at_F {p:Value} (h:Lib.BuilderAtF T e B b p bs W) (hb:Below W.heap.size W W'):Lib.BuilderAtF T e B b p bs W':=by
  have hlt:=h.lt
  obtain⟨hB,v,hv,cf1,hne⟩:=h
  exact⟨hB,v,(hb.block b hlt).trans hv,cf1.kept (row:=none) ⟨hb.os,hb.tape,hb.output,hb.size,fun k hk _=>hb.block k hk⟩ (Classical.em _),hne⟩
def join_le (xs:List (List UInt8))(h:∀x∈xs,x.length<=21):(Lib.join xs [44,32]).length<=xs.length*23:=by
 have hl:∀ys:List (List UInt8),(∀x∈ys,x.length<=21)->Lib.lens ys<=ys.length*21:=by
  intro ys
  induction ys with
  |nil=>intro _;exact bO2 _
  |cons y r ih=>
   intro h
   have h1:=ih fun x hx=>h x (List.mem_cons_of_mem _ hx)
   have h2:=h y (List.mem_cons_self ..)
   simp only[Lib.lens,List.map_cons,List.sum_cons,bu9]at h1|-
   omega
 cases xs with
 |nil=>exact Nat.zero_le _
 |cons x r=>
  rw[Lib.join_length]
  have:=hl (x::r) h
  simp only[bu9,cJ8]at this|-
  omega
def fg1:(prog.info? 9).map (fun i=>(i.zero,i.size,i.bytes))=some (some (.string ⟨#[]⟩),1,16):=by kernel_rfl
set_option maxHeartbeats 1000000 in
set_option maxRecDepth 100000 in
def ep1 (nm : Nat -> ByteArray) (code rea : Nat -> Int) (cau : Nat -> List Int) (w : World) (tm sp tq bd : Int) (vs : Value) (off : Bool) (aa al : Option Addr) (n ca m cl : Nat)
    (hR : ∀ wx, Below w.heap.size w wx -> Calls prog 10 #[] wx (RxP nm wx)) (hn : n <= 70)
    (hJ0 : ∀ wx, Calls prog 33 #[.slice none 0 0, .string ⟨#[44, 32]⟩] wx fun e w' => e = .returned (.string ⟨#[]⟩) /\ wx = w')
    (hW : ∀ (b : Nat) (wx : World) (bs : List Value) (s : ByteArray), Lib.IsBuilderF 131 5 b b bs wx -> bs.length + s.size <= 140737488355328 -> b <= wx.heap.size -> Calls prog 32 #[.pointer (some ⟨b, 0, none⟩), .string s] wx fun e w' => e = .returned (.tuple #[.int .i64 s.size, .nilIface]) /\ (Lib.BuilderAtF 131 5 b b (.pointer (some ⟨b, 0, none⟩)) (bs ++ Lib.strCells s) w' /\ Below b wx w' /\ Lib.OthersKept 5 (some b) wx w'))
    (hJ1 : ∀ (wx : World) (b o c : Nat) (xs : List ByteArray), (∀ (j : Nat) x, xs[j]? = some x -> wx.cell? ⟨b, o + j, none⟩ = some (.string x)) -> b < wx.heap.size -> xs.length <= 140737488355328 -> xs.length <= c -> (Lib.join (xs.map (·.data.toList)) [44, 32]).length <= 140737488355328 ->
      Calls prog 33 #[.slice (some ⟨b, o, none⟩) xs.length c, .string ⟨#[44, 32]⟩] wx fun e w' => e = .returned (.string ⟨(Lib.join (xs.map (·.data.toList)) [44, 32]).toArray⟩) /\ Below wx.heap.size wx w')
    (hS : ∀ (b : Nat) (wx : World) (l : List UInt8), Lib.IsBuilderF 131 5 b b (Lib.byteCells l) wx -> b <= wx.heap.size -> Calls prog 34 #[.pointer (some ⟨b, 0, none⟩)] wx fun e w' => e = .returned (.string ⟨l.toArray⟩) /\ (Lib.IsBuilderF 131 5 b b (Lib.byteCells l) w' /\ Below b wx w'))
    (hcode : ∀ k, k < m -> -9223372036854775808 <= code k /\ code k <= 9223372036854775807)
    (hnm : ∀ i, (nm i).size <= 100)
    (hT : ∀ wx, Below w.heap.size w wx -> ∀ k, k < m -> Calls prog 31 #[.int .i64 (code k)] wx fun e w' => e = .returned (.string ⟨(Lib.itoa (code k)).toArray⟩) /\ Below wx.heap.size wx w')
    (hA : (∃ ba oa, aa = some ⟨ba, oa, none⟩ /\ ba < w.heap.size /\ ∀ k, k < n -> w.cell? ⟨ba, oa + k * 2, none⟩ = some (.int .i64 (rea k)) /\ ∃ cv, w.cell? ⟨ba, oa + k * 2 + 1, none⟩ = some cv /\ eh9 w cv (cau k)) \/ n = 0)
    (h20 : ∀ k, k < n -> (cau k).length <= 20)
    (hL : (∃ bl ol, al = some ⟨bl, ol, none⟩ /\ bl < w.heap.size /\ ∀ c, c < m -> w.cell? ⟨bl, ol + c * 8, none⟩ = some (.int .i64 (code c))) \/ m = 0) :
    Calls prog 8 #[.agg #[.int .i64 tm, .int .i64 sp, .int .i64 tq, .int .i64 bd, vs, .slice aa n ca, .bool off], .slice al m cl] w fun e w' => e = .returned (.tuple #[.string (exV nm code rea cau m n).1, .int .i64 (exV nm code rea cau m n).2]) /\ Below w.heap.size w w' := by
  have HA := Lib.hid hA
  have HL := Lib.hid hL
  have H20 := Lib.hid h20
  clear hA hL h20
  obtain ⟨i0, hi, hz0, hz1, hz2⟩ := info_parts fg1
  go_enter func8, ntmps8
  go_wp2_with (go_at_call 10; refine (hR _ ((Below.refl _ w).alloc (bO2 _) _)).mono ?_)
  rintro e w1 ⟨bn, on, cn, rfl, hbn, hnc, hb1⟩
  have hbox : w1.cell? ⟨w.heap.size, 5, none⟩ = some (.slice aa n ca) := by
    rw [hb1.cell (p := ⟨w.heap.size, 5, none⟩) (by simp)]
    simp [World.cell?_alloc_at]
  have hz : w.heap.size < w1.heap.size := by have := hb1.size; simp at this; omega
  have hb0 : Below w.heap.size w w1 := ((Below.refl _ w).alloc (bO2 _) _).trans (hb1.mono (by simp))
  clear hb1
  have HNC := Lib.hid hnc
  clear hnc
  go_wp2
  clear hbox
  go_loopw [17] (fm1 nm code rea cau m n w1.heap.size w1) (fun i _ => n - (intOf i).toNat)
  case atStart => exact ⟨0, Nat.zero_le _, rfl, fun j hj => by omega, Lib.IsBuilderF.of (Lib.fresh_isBuilder 131 5 w1), (Below.refl _ w1).alloc (bO2 _) _, bO2 _⟩
  case round =>
    obtain ⟨wo, rfl⟩ : ∃ wo : World, wo = wr := ⟨_, rfl⟩
    obtain ⟨k, hk, rfl, hok, hbd, hbw, hln⟩ := hrel
    by_cases hlt : k < n
    · obtain ⟨ba, oa, rfl, hba, hA⟩ : ∃ ba oa, aa = some ⟨ba, oa, none⟩ /\ ba < w.heap.size /\ ∀ k, k < n -> w.cell? ⟨ba, oa + k * 2, none⟩ = some (.int .i64 (rea k)) /\ ∃ cv, w.cell? ⟨ba, oa + k * 2 + 1, none⟩ = some cv /\ eh9 w cv (cau k) := by
        rcases HA.out with h | h
        · exact h
        · omega
      obtain ⟨hc0, cv, hc1, hcs⟩ := hA k hlt
      clear hA
      have hbo : Below w.heap.size w wo := hb0.trans (hbw.mono (by omega))
      have hbe : ∀ p : Addr, p.block < w.heap.size -> wo.cell? p = w.cell? p := fun p hp => hbo.cell (p := p) hp
      have d0 : wo.cell? ⟨ba, oa + k * 2, none⟩ = some (.int .i64 (rea k)) := by rw [hbe _ hba]; exact hc0
      have d1 : wo.cell? ⟨ba, oa + k * 2 + 1, none⟩ = some cv := by rw [hbe _ hba]; exact hc1
      have HBE := Lib.hid hbe
      clear hbe hc0 hc1
      have HOK := Lib.hid hok
      clear hok
      have hl20 := H20.out k hlt
      have hwr : w.heap.size < wo.heap.size := by have := hbw.size; omega
      obtain ⟨ax, cx, rfl, hcs⟩ := hcs
      by_cases hr : 0 <= rea k /\ rea k < 7
      · obtain ⟨hr0, hr7⟩ := hr
        have hr0' : ¬ rea k < 0 := by omega
        have hr7' : ¬ 7 <= rea k := by omega
        · have HCS := Lib.hid hcs
          clear hcs
          go_wp2
          clear d0 d1
          go_loopw [10, 34] (fm2 code (cau k) m (wo.heap.size + 1) (wo.alloc (.cells #[.int .i64 (rea k), .slice ax (cau k).length cx] 31))) (fun _ i _ => (cau k).length - (intOf i).toNat)
          case atStart => exact ⟨0, Nat.zero_le _, rfl, rfl, ⟨rfl, .inl ⟨rfl, rfl⟩⟩, Below.refl _ _⟩
          case round =>
            obtain ⟨j, hj, rfl, bN4, cf1, hbx⟩ := hrel
            by_cases ea2 : j < (cau k).length
            · obtain ⟨bc, oc, rfl, hbc, hcc⟩ : ∃ b o, ax = some ⟨b, o, none⟩ /\ b < w.heap.size /\ ∀ j (h : j < (cau k).length), w.cell? ⟨b, o + j, none⟩ = some (.int .i64 (cau k)[j]) := by
                rcases HCS.out with h | h
                · exact h
                · rw [h] at ea2; simp at ea2
              have hci := hcc j ea2
              clear hcc
              have hbt : Below w.heap.size w wr := (hbo.alloc (by omega) _).trans (hbx.mono (by omega))
              have hxe : ∀ p : Addr, p.block < w.heap.size -> wr.cell? p = w.cell? p := fun p hp => hbt.cell (p := p) hp
              have e0 : wr.cell? ⟨bc, oc + j, none⟩ = some (.int .i64 (cau k)[j]) := by rw [hxe _ hbc]; exact hci
              clear hci
              have HXE := Lib.hid hxe
              have HALL := Lib.hid bN4
              clear hxe bN4
              generalize hcj : (cau k)[j] = c at e0
              have HCJ := Lib.hid hcj
              clear hcj
              by_cases hc : 0 <= c /\ c < (m : Int)
              · obtain ⟨hcl, hcm⟩ := hc
                have hcl' : ¬ c < 0 := by omega
                have hcm' : ¬ (m : Int) <= c := by omega
                have hcn : c.toNat < m := by omega
                obtain ⟨bl, ol, rfl, hbl, hL⟩ : ∃ bl ol, al = some ⟨bl, ol, none⟩ /\ bl < w.heap.size /\ ∀ c, c < m -> w.cell? ⟨bl, ol + c * 8, none⟩ = some (.int .i64 (code c)) := by
                  rcases HL.out with h | h
                  · exact h
                  · omega
                have e1 : wr.cell? ⟨bl, ol + c.toNat * 8, none⟩ = some (.int .i64 (code c.toNat)) := by rw [HXE.out _ hbl]; exact hL _ hcn
                clear hL
                go_wp2_with (go_at_call 31; refine (hT _ hbt _ hcn).mono ?_)
                rintro e w2 rfl hb2
                have hown2 := dK8 cf1 hb2
                have hz2' : wr.heap.size <= w2.heap.size := hb2.size
                have hzx : wo.heap.size + 1 <= wr.heap.size := by have := hbx.size; simp at this; omega
                go_wp2_with (at_builtin; refine wpList_append_own _ rfl _ _ 132 rfl (wo.heap.size + 1) 9 i0 (.string ⟨#[]⟩) 1 16 underlying132 hi hz0 hz1 hz2 rfl (by decide) _ _ _ rfl (hown2.alloc _) ⟨w2.heap.size, 0, none⟩ 1 1 [.string ⟨(Lib.itoa (code c.toNat)).toArray⟩] rfl rfl ?c1 ?c2 ?c3 ?c4 ?c5 ?_)
                case c1 =>
                  intro q u hq
                  match q, hq with
                  | 0, hq => simp at hq; subst hq; simp [Addr.add]
                case c2 => intro u hu; simp at hu; subst hu; rfl
                case c3 => unfold maxLen; omega
                case c4 => omega
                case c5 => simp; omega
                intro v' w3 hown3 hgrow3 _
                have hall2 : ((cau k).take (j + 1)).all (okC m) = true := by
                  rw [cW8 ea2, List.all_append, HALL.out, HCJ.out]
                  simp [okC, hcl, hcm]
                have hown4 : w3.ownsRow (wo.heap.size + 1) 9 1 v' (j + 1) (((cau k).take (j + 1)).map fun c => .string (dP4 code c)) := by
                  rw [cW8 ea2, List.map_append, HCJ.out, List.map_take]
                  exact hown3
                have hbel : Below (wo.heap.size + 1) (wo.alloc (.cells #[.int .i64 (rea k), .slice (some ⟨bc, oc, none⟩) (cau k).length cx] 31)) w3 :=
                  ((hbx.trans (hb2.mono (by omega))).alloc (by omega) _).grown hgrow3 (by simp; omega) (fun q hq => (hown2.lt q hq).1)
                have HA2 := Lib.hid hall2
                clear hall2 hown3 hgrow3 hown2
                go_wp2
                go_roundw
                case rel => exact ⟨j + 1, by omega, by go_num, HA2.out, hown4, hbel⟩
                case measure => simp [intOf]; omega
              · have dm3 : okA m (rea k) (cau k) = false := by
                  unfold okA
                  have : (cau k).all (okC m) = false := by
                    rw [List.all_eq_false]
                    refine ⟨c, HCJ.out ▸ bf3 ea2, ?_⟩
                    simp [okC]
                    omega
                  rw [this, Bool.and_false]
                have hx := dQ7 (nm := nm) (code := code) hlt dm3
                have HX := Lib.hid hx
                clear hx dm3
                by_cases hc0 : c < 0
                · go_wp2
                  go_ret2
                  exact ⟨by rw [HX.out]; rfl, hbt⟩
                · have hcm : (m : Int) <= c := by omega
                  go_wp2
                  go_ret2
                  exact ⟨by rw [HX.out]; rfl, hbt⟩
            · obtain rfl : j = (cau k).length := by omega
              rw [List.take_length] at bN4 cf1
              have HALL := Lib.hid bN4
              clear bN4
              have hbt : Below w.heap.size w wr := (hbo.alloc (by omega) _).trans (hbx.mono (by omega))
              have hzx : wo.heap.size + 1 <= wr.heap.size := by have := hbx.size; simp at this; omega
              have hzo : w1.heap.size < wo.heap.size := by
                rcases hbd with h | h <;> exact h.lt
              have hk1 : wr.heap[wo.heap.size]? = some (.cells #[.int .i64 (rea k), .slice ax (cau k).length cx] 31 (0, 0)) := by
                rw [hbx.block _ (by omega)]; exact heap_alloc_new _ _
              have k1 : wr.cell? ⟨wo.heap.size, 0, none⟩ = some (.int .i64 (rea k)) := by rw [Lib.cell_of_heap hk1]; rfl
              have k2 : wr.cell? ⟨bn, on + (rea k).toNat * 5, none⟩ = some (.string (nm (rea k).toNat)) := by
                rw [hbx.cell (p := ⟨bn, _, none⟩) (by show bn < _; omega), World.cell?_alloc_past _ _ _ (by omega), hbw.cell (p := ⟨bn, _, none⟩) hbn]
                exact HNC.out _ (by omega)
              have hbd2 : Lib.IsBuilderF 131 5 w1.heap.size w1.heap.size (Lib.byteCells (txt nm code rea cau k)) wr := dP0 hbd (((Below.refl _ wo).alloc (bO2 _) _).trans (hbx.mono (by omega)))
              have hns := hnm (rea k).toNat
              generalize hNM : nm (rea k).toNat = N at k2 hns
              have HNM := Lib.hid hNM
              clear hNM
              obtain ⟨J, hJl, hJv⟩ : ∃ J : ByteArray, J.data.toList = Lib.join ((cau k).map fun c => Lib.itoa (code c.toNat)) [44, 32] /\ J.size <= 1000 /\ ∀ wx, Below wr.heap.size wr wx -> Calls prog 33 #[u10, .string ⟨#[44, 32]⟩] wx fun e w' => e = .returned (.string J) /\ Below wx.heap.size wx w' := by
                have hjl : (Lib.join ((cau k).map fun c => Lib.itoa (code c.toNat)) [44, 32]).length <= 1000 := by
                  have := join_le ((cau k).map fun c => Lib.itoa (code c.toNat)) (fun x hx => by
                    obtain ⟨c, hc, rfl⟩ := cK0.1 hx
                    have hcc := bt1.1 HALL.out c hc
                    simp only [okC, aK5, fl2] at hcc
                    obtain ⟨h1, h2⟩ := hcode c.toNat (by omega)
                    exact Lib.itoa_length_le _ h1 h2)
                  rw [bY6] at this
                  omega
                have hxs : ((cau k).map (dP4 code)).map (fun x => x.data.toList) = (cau k).map fun c => Lib.itoa (code c.toNat) := by
                  rw [List.map_map]; rfl
                rcases cf1.2 with ⟨h0, h1⟩ | ⟨g, cap, cur, h0, hg1, hg2, hg3, hg4, hg5, hg6⟩
                · have cQ7 : cau k = [] := eD0.1 h1
                  refine ⟨⟨#[]⟩, by rw [cQ7]; rfl, by show 0 <= 1000; omega, fun wx _ => ?_⟩
                  rw [h0]
                  refine (hJ0 wx).mono ?_
                  rintro e w' ⟨he, rfl⟩
                  exact ⟨he, Below.refl _ _⟩
                · refine ⟨⟨(Lib.join ((cau k).map fun c => Lib.itoa (code c.toNat)) [44, 32]).toArray⟩, rfl, by show (Lib.join _ _).toArray.size <= _; rw [List.size_toArray]; exact hjl, fun wx hwx => ?_⟩
                  have hgl : g < wr.heap.size := (Array.getElem?_eq_some_iff.1 hg2).1
                  have := hJ1 wx g 0 cap ((cau k).map (dP4 code)) (fun q x hq => by
                    have h3 := cf1.cells (g := g) (by rw [h0]; rfl) q (.string x) (by
                      rw [List.getElem?_map] at hq |-
                      cases hcq : (cau k)[q]? with
                      | none => rw [hcq] at hq; cases hq
                      | some c => rw [hcq] at hq; simp only [Option.map_some, aI6] at hq |-; rw [hq])
                    rw [hwx.cell (p := ⟨g, 0 + q, none⟩) hgl, Nat.zero_add]
                    have ha : (⟨g, 0, none⟩ : Addr).add q = ⟨g, q, none⟩ := by unfold Addr.add; split <;> simp_all
                    rw [ha] at h3
                    exact h3) (by have := hwx.size; omega) (by rw [bY6]; omega) (by rw [bY6]; exact hg3) (by rw [hxs]; show (Lib.join _ _).length <= _; omega)
                  rw [bY6, hxs] at this
                  rw [h0]
                  exact this
              obtain ⟨hJs, hJv⟩ := hJv
              have s1 : ∀ w, (Op.stringOp .add N ⟨#[58, 32]⟩).run prog w = .ok (.string (N ++ ⟨#[58, 32]⟩)) w := fun w => run_string_add_sum w _ _ (by show N.size + 2 <= _; omega)
              have s2 : ∀ w, (Op.stringOp .add (N ++ ⟨#[58, 32]⟩) J).run prog w = .ok (.string (N ++ ⟨#[58, 32]⟩ ++ J)) w := fun w => run_string_add_sum w _ _ (by rw [ByteArray.size_append]; show N.size + 2 + _ <= _; omega)
              have s3 : ∀ w, (Op.stringOp .add (N ++ ⟨#[58, 32]⟩ ++ J) ⟨#[10]⟩).run prog w = .ok (.string (N ++ ⟨#[58, 32]⟩ ++ J ++ ⟨#[10]⟩)) w := fun w => run_string_add_sum w _ _ (by rw [ByteArray.size_append, ByteArray.size_append]; show N.size + 2 + _ + 1 <= _; omega)
              go_wp2
              clear hbt hbo cf1
              go_region_held3 (fun w' => w'.cell? ⟨wo.heap.size, 0, none⟩ = some (.int .i64 (rea k)) /\ w'.cell? ⟨bn, on + (rea k).toNat * 5, none⟩ = some (.string N)) (go_keep)
                (first
                  | (go_at_call 33
                     refine (hJv _ ?_).mono ?_
                     · exact (Below.refl _ _).drew
                     rintro e w2 ⟨rfl, hb2⟩
                     have q1 : w2.cell? ⟨wo.heap.size, 0, none⟩ = some (.int .i64 (rea k)) := (hb2.cell (p := ⟨wo.heap.size, 0, none⟩) (by show wo.heap.size < wr.heap.size; omega)).trans k1
                     have q2 : w2.cell? ⟨bn, on + (rea k).toNat * 5, none⟩ = some (.string N) := (hb2.cell (p := ⟨bn, _, none⟩) (by show bn < wr.heap.size; omega)).trans k2
                     have hbw2 : Below wr.heap.size wr w2 := (Below.refl _ wr).drew.trans hb2)
                  | (go_at_call 32
                     refine (hW _ _ _ _ (dP0 hbd2 hbw2) ?_ ?_).mono ?_
                     · rw [show (Lib.byteCells (txt nm code rea cau k)).length = (txt nm code rea cau k).length by simp [Lib.byteCells]]
                       simp only [ByteArray.size_append]
                       show _ + (N.size + 2 + J.size + 1) <= _
                       omega
                     · have := hbw2.size; omega
                     rintro e w3 ⟨rfl, hb3, hb4, hb5⟩
                     have q3 : w3.cell? ⟨wo.heap.size, 0, none⟩ = some (.int .i64 (rea k)) := by
                       have h1 := (hbw2.block _ (by omega)).trans hk1
                       rw [Lib.cell_of_heap (hb5 _ _ h1 (by simp; omega) (fun c fz h => by cases h))]; rfl
                     have q4 : w3.cell? ⟨bn, on + (rea k).toNat * 5, none⟩ = some (.string N) := (hb4.cell (p := ⟨bn, _, none⟩) (by show bn < w1.heap.size; omega)).trans q2))
              have ht : txt nm code rea cau (k + 1) = txt nm code rea cau k ++ (N ++ ⟨#[58, 32]⟩ ++ J ++ ⟨#[10]⟩).data.toList := by
                unfold txt
                rw [List.range_succ, List.flatMap_append, List.flatMap_singleton]
                unfold bq7
                rw [HNM.out, <- hJl]
                simp [ByteArray.data_append]
              have hb6 : Lib.IsBuilderF 131 5 w1.heap.size w1.heap.size (Lib.byteCells (txt nm code rea cau (k + 1))) w3 := by
                rw [ht]
                have := Lib.strCells_eq (N ++ ⟨#[58, 32]⟩ ++ J ++ ⟨#[10]⟩)
                rw [this] at hb3
                exact .inr (by simpa [Lib.byteCells] using hb3)
              have hl2 : (txt nm code rea cau (k + 1)).length <= (k + 1) * 2000 := by
                have h1 : (N ++ ⟨#[58, 32]⟩ ++ J ++ ⟨#[10]⟩).data.toList.length = N.size + 2 + J.size + 1 := by
                  rw [Array.length_toList]
                  show (N ++ ⟨#[58, 32]⟩ ++ J ++ ⟨#[10]⟩ : ByteArray).size = _
                  simp only [ByteArray.size_append]
                  rfl
                rw [ht, List.length_append, h1]
                omega
              have hok2 : ∀ q, q < k + 1 -> okA m (rea q) (cau q) = true := by
                intro q hq
                by_cases h : q < k
                · exact HOK.out q h
                · obtain rfl : q = k := by omega
                  unfold okA
                  rw [HALL.out]
                  simp [hr0, hr7]
              have hb7 : Below w1.heap.size w1 w3 := (hbw.trans (((Below.refl _ wo).alloc (by omega) _).trans (hbx.mono (by omega)))).trans ((hbw2.mono (by omega)).trans hb4)
              have HB3 := Lib.hid (⟨ht, hl2, hok2⟩ : _ /\ _ /\ _)
              clear ht hl2 hok2 hb3
              go_wp2
              go_roundw
              case rel => exact ⟨k + 1, by omega, by go_num, HB3.out.2.2, hb6, hb7, HB3.out.2.1⟩
              case measure => simp [intOf]; omega
      · have dm3 : okA m (rea k) (cau k) = false := by
          unfold okA
          by_cases h0 : 0 <= rea k
          · rw [fk9 (show ¬ rea k < 7 by omega)]; simp
          · rw [fk9 h0]; rfl
        have hx := dQ7 (nm := nm) (code := code) hlt dm3
        have HX := Lib.hid hx
        have HCS := Lib.hid hcs
        clear hx dm3 hcs
        have hbe1 : ∀ o, Below w.heap.size w (wo.alloc o) := fun o => hbo.alloc (by omega) o
        have HBE1 := Lib.hid hbe1
        clear hbe1
        by_cases h0 : rea k < 0
        · go_wp2
          go_ret2
          exact ⟨by rw [HX.out]; rfl, HBE1.out _⟩
        · have h7 : 7 <= rea k := by omega
          go_wp2
          go_ret2
          exact ⟨by rw [HX.out]; rfl, HBE1.out _⟩
    · obtain rfl : k = n := by omega
      have hx := eU1 (nm := nm) (code := code) hok
      have HX := Lib.hid hx
      clear hx hok
      go_wp2_with (go_at_call 34; refine (hS _ _ _ hbd (by have := hbw.size; omega)).mono ?_)
      rintro e w4 ⟨rfl, _, hb8⟩
      go_wp2
      go_ret2
      exact ⟨by rw [HX.out]; rfl, (hb0.trans (hbw.mono (by omega))).trans (hb8.mono (by omega))⟩
def cC1:Go.Shelf.Ren:=⟨fun|156=>33|165=>69|166=>32|169=>34|240=>68|241=>129|276=>128|277=>220|n=>n,fun|0=>0|3=>3|4=>4|5=>5|9=>9|20=>20|31=>132|37=>129|70=>128|72=>131|75=>135|76=>136|80=>139|127=>176|164=>230|n=>n,fun|n=>n⟩
open Go.Shelf in
def cI6:Lays.n156 Tryz.prog cC1:={
 mixed:=by kernel_rfl,
 f156:=Tryz.func33.trans (congrArg some (by kernel_rfl)),
 f165:=Tryz.func69.trans (congrArg some (by kernel_rfl)),
 f166:=Tryz.func32.trans (congrArg some (by kernel_rfl)),
 f169:=Tryz.func34.trans (congrArg some (by kernel_rfl)),
 f240:=Tryz.func68.trans (congrArg some (by kernel_rfl)),
 f241:=Tryz.func129.trans (congrArg some (by kernel_rfl)),
 f276:=Tryz.func128.trans (congrArg some (by kernel_rfl)),
 f277:=Tryz.func220.trans (congrArg some (by kernel_rfl)),
 t0:=Tryz.underlying0,
 a0:=Tryz.isAgg0,
 z0:=Tryz.sizeOf0,
 v0:=Tryz.zeroValue0,
 t3:=Tryz.underlying3,
 a3:=Tryz.isAgg3,
 z3:=Tryz.sizeOf3,
 v3:=Tryz.zeroValue3,
 t4:=Tryz.underlying4,
 a4:=Tryz.isAgg4,
 z4:=Tryz.sizeOf4,
 v4:=Tryz.zeroValue4,
 t9:=Tryz.underlying9,
 a9:=Tryz.isAgg9,
 z9:=Tryz.sizeOf9,
 v9:=Tryz.zeroValue9,
 t20:=Tryz.underlying20,
 a20:=Tryz.isAgg20,
 z20:=Tryz.sizeOf20,
 v20:=Tryz.zeroValue20,
 t31:=Tryz.underlying132,
 a31:=Tryz.isAgg132,
 z31:=Tryz.sizeOf132,
 v31:=Tryz.zeroValue132,
 t37:=Tryz.underlying129,
 a37:=Tryz.isAgg129,
 z37:=Tryz.sizeOf129,
 v37:=Tryz.zeroValue129,
 t70:=Tryz.underlying128,
 a70:=Tryz.isAgg128,
 z70:=Tryz.sizeOf128,
 v70:=Tryz.zeroValue128,
 t72:=Tryz.underlying131,
 a72:=Tryz.isAgg131,
 z72:=Tryz.sizeOf131,
 v72:=Tryz.zeroValue131,
 t75:=Tryz.underlying135,
 a75:=Tryz.isAgg135,
 z75:=Tryz.sizeOf135,
 v75:=Tryz.zeroValue135,
 t76:=Tryz.underlying136,
 a76:=Tryz.isAgg136,
 z76:=Tryz.sizeOf136,
 v76:=Tryz.zeroValue136,
 t127:=Tryz.underlying176,
 a127:=Tryz.isAgg176,
 z127:=Tryz.sizeOf176,
 v127:=Tryz.zeroValue176,
 t164:=Tryz.underlying230,
 a164:=Tryz.isAgg230,
 z164:=Tryz.sizeOf230,
 v164:=Tryz.zeroValue230}
def dS2:Builder.Extra Tryz.prog cC1 where
 sizeBuilder:=by kernel_rfl
 liesBuilder:=by kernel_rfl
 t5:=Tryz.underlying5
 a5:=Tryz.isAgg5
 z5:=Tryz.sizeOf5
 v5:=Tryz.zeroValue5
 infoByte:=by kernel_rfl
 cellsByte:=by kernel_rfl
 sizeByte:=by kernel_rfl
 neB5:=by decide
def eq5 {P:Program}{w w':World}(h:GlL P w (fun _=>False))(hb:Below w.heap.size w w'):GlL P w' (fun _=>False):=
 h.keep (aF1.below hb)
def rxs:List S1:=((aH4).e 1).getD []
def eK9:(aH4).m=some rxs:=(aH4).le 1 _ (by kernel_rfl)
theorem cJ3:rxs.length=7:=by kernel_rfl
def nmR (i:Nat):ByteArray:=(rxs[i]?.map (·.Name)).getD ⟨#[]⟩
def eX1 (i:Nat):(nmR i).size<=100:=by
 by_cases h:i<7
 ·have:∀j:Fin 7,(nmR j.val).size<=100:=by decide+kernel
  exact this ⟨i,h⟩
 ·unfold nmR
  rw[List.getElem?_eq_none (by rw[cJ3];omega)]
  decide
def ex6 (w:World)(hg:GlL prog w (fun _=>False)):Calls prog 10 #[] w (RxP nmR w):=by
 have:=(aH4).ok.2 rxs eK9 w (fun _=>False) (fun _=>undef) [] hg (fun b h=>h.elim) ⟨rfl,fun j h=>by simp at h⟩
 refine this.mono fun e w' ⟨v,S',he,hv,hk,h1,_⟩=>?_
 subst he
 have hb:Below w.heap.size w w':=⟨hk.os,hk.tape,hk.output,hk.size,fun k hk'=>hk.block k hk' (fun h=>h)⟩
 cases hv with
 |t h=>
  unfold tS at h
  generalize hl:rxs.map T3=rows at h
  generalize hnn:rxs.length=n at h
  cases h with
  |slE ad cap=>rw[cJ3]at hnn;cases hnn
  |sl b o cap sz rows vs bF1 hbS hsz hc2 hr=>
   subst hl
   have hln:(rxs.map T3).length=7:=by rw[bY6,cJ3]
   rw[hln]at hc2|-
   refine⟨b,o,cap,rfl,h1 b hbS,fun i hi=>?_,hb⟩
   have hi':i<rxs.length:=by rw[cJ3];exact hi
   have hz5:sz=5:=(hsz _ (cK0.2 ⟨rxs[i],bf3 hi',rfl⟩)).symm
   subst hz5
   have h3:=hc2 i 0 hi (by omega)
   have h4:=hr i 0 (by rw[hln];exact hi) (by simp[T3])
   simp only[dc0,T3,et7]at h4
   rw[RTv h4]at h3
   rw[show nmR i=rxs[i].Name by unfold nmR;rw[aX4 hi'];rfl]
   simpa using h3
def bc5 (l:List y9)(k:Nat):Int:=(l[k]?.map (·.Code)).getD 0
def cG6 (l:List Q7)(k:Nat):Int:=(l[k]?.map (·.Q6)).getD 0
def cu9 (l:List Q7)(k:Nat):List Int:=(l[k]?.map (·.W9)).getD []
def exM (r:aa9)(l:List y9):Option (ByteArray×Int):=
 if r.K5.length<=70/\(∀a∈r.K5,a.W9.length<=20)/\(∀f∈l,-9223372036854775808<=f.Code/\f.Code<=9223372036854775807)then
  some (exV nmR (bc5 l) (cG6 r.K5) (cu9 r.K5) l.length r.K5.length)else none
def cU4 {w:World}{S:Nat->Prop}{x:Value}{n:Nat}{rows:List (List Tree)}(h:RT w S x (.sl n rows)):
  ∃a c,x= .slice a n c/\n=rows.length/\((∃(b o sz:Nat) (vs:Nat->Nat->Value),a=some ⟨b,o,none⟩/\S b/\(∀r,r∈rows->r.length=sz)/\(∀i j,i<rows.length->j<sz->w.cell? ⟨b,o+i*sz+j,none⟩=some (vs i j))/\
   (∀i j (hi:i<rows.length) (hj:j<(rows[i]).length),RT w S (vs i j) ((rows[i])[j])))\/n=0):=by
 cases h with
 |slE ad cap=>exact⟨ad,cap,rfl,rfl,.inr rfl⟩
 |sl b o cap sz rows vs bF1 hb hsz hc hr=>exact⟨_,cap,rfl,rfl,.inl ⟨b,o,sz,vs,rfl,hb,hsz,hc,hr⟩⟩
def eU4 (r:aa9)(l:List y9):aM2 prog 8 [bh4 r,.t (tS H0 l)] (exM r l) (fun x=>.P4 [.t (.v (.string x.1)),.t (tI x.2)]) false:=by
 refine⟨Tryz.call8,fun x hx w S E vs hgl hS hv=>?_⟩
 unfold exM at hx
 split at hx<;>try(cases hx;done)
 rename_i hb
 obtain⟨hb1,hb2,hb3⟩:=hb
 simp only[aI6]at hx
 subst hx
 obtain⟨v0,v1,rfl⟩:∃v0 v1,vs=[v0,v1]:=by
  have:=hv.1
  match vs,this with
  |[a,b],_=>exact⟨a,b,rfl⟩
 have r0:RV w S E v0 (bh4 r):=hv.2 0 (by simp) (by simp)
 have r1:RV w S E v1 (.t (tS H0 l)):=hv.2 1 (by simp) (by simp)
 have r1':RT w S v1 (tS H0 l):=by cases r1 with|t h=>exact h
 cases r0 with
 |agg us _ hl hu=>
  simp only[bu9,cJ8]at hl
  obtain⟨u0,u1,u2,u3,u4,u5,u6,rfl⟩:∃u0 u1 u2 u3 u4 u5 u6,us=[u0,u1,u2,u3,u4,u5,u6]:=by
   match us,hl with
   |[a,b,c,d,e,f,g],_=>exact⟨a,b,c,d,e,f,g,rfl⟩
  have k0:=(hu 0 (by simp) (by simp)).tv
  have k1:=(hu 1 (by simp) (by simp)).tv
  have k2:=(hu 2 (by simp) (by simp)).tv
  have k3:=(hu 3 (by simp) (by simp)).tv
  have k6:=(hu 6 (by simp) (by simp)).tv
  have k5:RT w S u5 (tS T0 r.K5):=by
   have:=hu 5 (by simp) (by simp)
   cases this with|t h=>exact h
  simp only[et7,List.getElem_cons_succ]at k0 k1 k2 k3 k6
  subst k0 k1 k2 k3 k6
  obtain⟨aa,ca,rfl,hn,ha⟩:=cU4 k5
  obtain⟨al,cl,rfl,hm,hl⟩:=cU4 r1'
  have hgw:∀wx,Below w.heap.size w wx->GlL prog wx (fun _=>False):=fun wx hw=>eq5 hgl hw
  have key:=ep1 nmR (bc5 l) (cG6 r.K5) (cu9 r.K5) w r.Time r.D7 r.o9 r.dr0 u4 r.Off aa al r.K5.length ca l.length cl (fun wx hw=>ex6 wx (hgw wx hw)) hb1
   (fun wx=>(Any.strings_Join_none cI6 dS2 none 0 ⟨#[44,32]⟩ wx).mono fun e w' ⟨h1,h2⟩=>⟨h1,h2.symm⟩)
   (fun b wx bs s h1 h2 h3=>Any.Builder_WriteString_k {cI6 with} dS2 b b bs s wx h1 h2 h3)
   (fun wx b o c xs h1 h2 h3 h4 h5=>Any.strings_Join cI6 dS2 b o c xs ⟨#[44,32]⟩ wx h1 h2 h3 h4 h5)
   (fun b wx t h1 h2=>Any.Builder_String_any_f {cI6 with} dS2 b b t wx h1 h2)
   (fun k hk=>by
    have:=hb3 l[k] (bf3 hk)
    unfold bc5
    rw[aX4 hk]
    exact this)
   eX1
   (fun wx hw k hk=>by
    have hc:-9223372036854775808<=bc5 l k/\bc5 l k<=9223372036854775807:=by
     have:=hb3 l[k] (bf3 hk)
     unfold bc5
     rw[aX4 hk]
     exact this
    have hm:(cb6 (bc5 l k)).m=some ⟨(Lib.itoa (bc5 l k)).toArray⟩:=by
     simp only[cb6,C.of,M.run,strconv_Itoa,dx2,if_pos hc,aF2]
    refine((cb6 (bc5 l k)).ok.2 _ hm wx (fun _=>False) (fun _=>undef) [.int .i64 (bc5 l k)] (hgw wx hw) (fun b h=>h.elim) ⟨rfl,fun j h1 h2=>?_⟩).mono fun e w' ⟨v,S',he,hv,hk,h1,_⟩=>?_
    ·match j,h1 with
     |0,_=>exact .t (.v _)
    ·subst he
     exact⟨by rw[hv.tv],hk.os,hk.tape,hk.output,hk.size,fun k hk'=>hk.block k hk' (fun h=>h)⟩)
   (by
    rcases ha with⟨b,o,sz,vs,h1,h2,h3,h4,h5⟩|h
    ·refine .inl ⟨b,o,h1,hS b h2,fun k hk=>?_⟩
     have hk':k<(r.K5.map T0).length:=by rw[bY6];exact hk
     have hz2:sz=2:=(h3 _ (cK0.2 ⟨r.K5[k],bf3 hk,rfl⟩)).symm
     subst hz2
     have c0:=h4 k 0 hk' (by omega)
     have c1:=h4 k 1 hk' (by omega)
     have q0:=h5 k 0 hk' (by simp[T0])
     have q1:=h5 k 1 hk' (by simp[T0])
     simp only[dc0,T0,et7,List.getElem_cons_succ]at q0 q1
     rw[RTv q0]at c0
     refine⟨by unfold cG6;rw[aX4 hk];simpa using c0,_,by simpa using c1,?_⟩
     unfold cu9
     rw[aX4 hk]
     obtain⟨ac,cc,e1,e2,e3⟩:=cU4 q1
     refine⟨ac,cc,e1,?_⟩
     rcases e3 with⟨b',o',sz',vs',f1,f2,f3,f4,f5⟩|h
     ·refine .inl ⟨b',o',f1,hS b' f2,fun j hj=>?_⟩
      have hj':j<((r.K5[k]).W9.map aI7).length:=by rw[bY6];exact hj
      have hz1:sz'=1:=(f3 _ (cK0.2 ⟨(r.K5[k]).W9[j],bf3 hj,rfl⟩)).symm
      subst hz1
      have g0:=f4 j 0 hj' (by omega)
      have g1:=f5 j 0 hj' (by simp[aI7])
      simp only[dc0,aI7,et7]at g1
      rw[RTv g1]at g0
      simpa using g0
     ·exact .inr (eD0.1 h)
    ·exact .inr h)
   (fun k hk=>by
    unfold cu9
    rw[aX4 hk]
    exact hb2 _ (bf3 hk))
   (by
    rcases hl with⟨b,o,sz,vs,h1,h2,h3,h4,h5⟩|h
    ·refine .inl ⟨b,o,h1,hS b h2,fun c hc=>?_⟩
     have hc':c<(l.map H0).length:=by rw[bY6];exact hc
     have hz8:sz=8:=(h3 _ (cK0.2 ⟨l[c],bf3 hc,rfl⟩)).symm
     subst hz8
     have c0:=h4 c 0 hc' (by omega)
     have q0:=h5 c 0 hc' (by simp[H0])
     simp only[dc0,H0,et7]at q0
     rw[RTv q0]at c0
     unfold bc5
     rw[aX4 hc]
     simpa using c0
    ·exact .inr h)
  refine key.mono fun e w' ⟨he,hbw⟩=>?_
  subst he
  refine⟨_,S,rfl,?_,aF1.below hbw,fun b h=>Nat.lt_of_lt_of_le (hS b h) hbw.size,fun b h=>.inl h⟩
  exact .P4 [.string _,.int .i64 _] _ rfl fun j h1 h2=>by
   match j,h1 with
   |0,_=>exact .t (.v _)
   |1,_=>exact .t (.v _)
open Go Go.Pv Go.Proofs
open Tryz
set_option maxHeartbeats 4000000
def cO6 (s:List y9×Int):M prog (List y9) ((List y9×Int)⊕((List y9×Int)⊕Empty)):=
 .I (decide (s.2<7)) (.U (.ap H0 s.1 ([(⟨j5 (8448+s.2),3,5,3,40,j5 (1+s.2),true,2⟩:y9)]:List y9) 2104) fun l=>.R (.inl (l,j5 (s.2+1)))) (.R (.inr (.inl (s.1,s.2))))
def bn3:C prog (List y9):=.of Z call12 func12 [] (fun r=>.t (tS H0 r)) (
 .Z (.np 1 2104 44 8 [])<| .L (fun(t:List y9×Int)=>[.t 1 (.own 2104),.t 3 (.t (tI t.2)),.b 2104 (.rs 44 8 t.1 H0)]) 0 (.e) (cO6) (([]:List y9),0) (fun s2=>.R s2.1) (fun t=>t.elim))
def dI3:C prog o7:=.of Z call17 func17 [] (fun r=>T5 r) (
 .Z (.fr 7)<| .Z (.fr 8)<| .Z (.fr 9)<| .Z (.fr 10)<| .Z (.fr 18)<| .Z (.fr 19)<| .Z (.fr 20)<| .Z (.fr 21)<| .Z (.fr 35)<| .Z (.fr 36)<| .Z (.fr 37)<| .Z (.fr 38)<| .Z (.fr 43)<| .Z (.fr 44)<| .Z (.fr 45)<| .Z (.fr 46)<| .R (⟨(⟨([0,1000,3000,7000]:List Int),([50,300,700,1050]:List Int),([([5000,90000,250000,400000]:List Int),([8000,100000,280000,430000]:List Int),([10000,110000,300000,460000]:List Int),([8000,95000,270000,420000]:List Int)]:List (List Int))⟩:SMap),(⟨([0,1000,3000,7000]:List Int),([0,100000,300000,500000]:List Int),([([640,600,400,300]:List Int),([900,800,600,500]:List Int),([1900,1600,1300,1100]:List Int),([2400,2100,1800,1600]:List Int)]:List (List Int))⟩:SMap),(⟨([0,1000,3000,7000]:List Int),([0,100000,300000,500000]:List Int),([([0,400,1500,2600]:List Int),([0,500,1800,3000]:List Int),([0,450,1900,3200]:List Int),([0,300,1500,2700]:List Int)]:List (List Int))⟩:SMap),(⟨([0,1000,3000,7000]:List Int),([0,200,600,1000]:List Int),([([100,800,2000,3000]:List Int),([0,700,2000,3200]:List Int),([0,600,1900,3200]:List Int),([0,300,1500,2700]:List Int)]:List (List Int))⟩:SMap),(⟨([(-40),20,100]:List Int),([1200,1000,850]:List Int)⟩:Q4),(⟨([6000,14000]:List Int),([6000,3000]:List Int)⟩:Q4),(⟨([6000,14000]:List Int),([2500,800]:List Int)⟩:Q4),(⟨([0,640,1600,2560]:List Int),([1000,950,700,300]:List Int)⟩:Q4),(⟨1024,32,0,800⟩:aW0)⟩:o7))
def eo5:C prog L6:=.of Z call19 func19 [] (fun r=>aM0 r) (
 .R (⟨4000,400,600,9000,200,300,4⟩:L6))
def X1 (s:List Int)(f2:Cl prog Int Bool (fun x=>[.t (tI x)]) (fun r=>.t (tB r)))(i:Int)(_:Unit):M prog Int (Fl Unit Int):=
 .O (.ix aI7 s i) fun x=>.K (f2.at x) fun v=>.I v (.R (.ret i)) (.R (.next ()))
def U9 (s:List Int)(f2:Cl prog Int Bool (fun x=>[.t (tI x)]) (fun r=>.t (tB r))):C prog Int:=.of Z call131 func131 [.t (tS aI7 s),.fz f2.n f2.cs] (fun r=>.t (tI r)) (
 M.QN (s.length:Int) 2 8 (fun(_:Unit)=>[]) 0 (.one .rt) (X1 s f2) () (fun _=>.R (-1)) (fun r2=>.R r2))
def o6 (s:List Int)(f2:Cl prog Int Bool (fun x=>[.t (tI x)]) (fun r=>.t (tB r))):C prog Bool:=.of Z call74 func74 [.t (tS aI7 s),.fz f2.n f2.cs] (fun r=>.t (tB r)) (
 .K (U9 s f2) fun v=>.R (decide (v>=0)))
def ac7 (n2:Int):C prog Bool:=.of Z call82 func82 [.t (tI n2)] (fun r=>.t (tB r)) (
 .R ((decide (n2>=(-1073741824)))&&(decide (n2<=1073741824))))
def ay8 (l:List Int)(i:Int)(_:Unit):M prog Bool (Fl Unit Bool):=
 .O (.ix aI7 l i) fun x=>.K (ac7 x) fun v=>.G (!v) (.R true) (.G (decide (i>0)) (.O (.ix aI7 l (j5 (i-1))) fun x2=>.R (decide (x<=x2))) (.R false) fun b2=>.R b2) fun b3=>.I b3 (.R (.ret false)) (.R (.next ()))
def ar8 (l:List Int):C prog Bool:=.of Z call80 func80 [.t (tS aI7 l)] (fun r=>.t (tB r)) (
 .I ((decide ((l.length:Int)<2))||(decide ((l.length:Int)>32))) (.R false) (M.QN (l.length:Int) 2 15 (fun(_:Unit)=>[]) 0 (.one .rt) (ay8 l) () (fun _=>.R true) (fun r2=>.R r2)))
def ai2 (z:Int):C prog Bool:=.of Z call81 func81 [.t (tI z)] (fun r=>.t (tB r)) (
 .K (ac7 z) fun v=>.R (!v))
def aC6 (m2:SMap)(_:Int)(x:List Int)(_:Unit):M prog Bool (Fl Unit Bool):=
 .W (.hx 0)<| .G ((x.length:Int) !=(m2.Y.length:Int)) (.R true) (.K (o6 x (.of (fun z_=>ai2 z_) 81 [])) fun v3=>.R v3) fun b3=>.I b3 (.R (.ret false)) (.R (.next ()))
def J6 (m2:SMap):C prog Bool:=.of Z call40 func40 [di7 m2] (fun r=>.t (tB r)) (
 .K (ar8 m2.X) fun v=>.G (!v) (.R true) (.K (ar8 m2.Y) fun v2=>.R (!v2)) fun b2=>.I (b2||((m2.Z.length:Int) !=(m2.X.length:Int))) (.R false) (M.Q (cY6 aI7) m2.Z 2 27 (fun(_:Unit)=>[.x 5,.x 24]) 0 (.one .rt) (aC6 m2) () (fun _=>.R true) (fun r2=>.R r2)))
def aC0 (n2:Int):C prog Bool:=.of Z call84 func84 [.t (tI n2)] (fun r=>.t (tB r)) (
 .R ((decide (n2<(-1073741824)))||(decide (n2>1073741824))))
def aH3 (l:List Int)(i:Int)(_:Unit):M prog Bool (Fl Unit Bool):=
 .D [] []<| .O (.ix aI7 l i) fun x=>.O (.ix aI7 l (j5 (i+1))) fun x2=>.I (decide (x>=x2)) (.R (.ret false)) (.R (.next ()))
def aM4 (l:List Int):C prog Bool:=.of Z call83 func83 [.t (tS aI7 l)] (fun r=>.t (tB r)) (
 .G ((decide ((l.length:Int)<2))||(decide ((l.length:Int)>32))) (.R true) (.K (o6 l (.of (fun z_=>aC0 z_) 84 [])) fun v=>.R v) fun b2=>.I b2 (.R false) (M.QN (j5 ((l.length:Int)-1)) 2 19 (fun(_:Unit)=>[]) 0 (.one .rt) (aH3 l) () (fun _=>.R true) (fun r2=>.R r2)))
def P7 (c:Q4):C prog Bool:=.of Z call41 func41 [ci0 c] (fun r=>.t (tB r)) (
 .G ((c.X.length:Int)==(c.Y.length:Int)) (.K (aM4 c.X) fun v=>.R v) (.R false) fun b2=>.G b2 (.K (o6 c.Y (.of (fun z_=>aC0 z_) 84 [])) fun v2=>.R (!v2)) (.R false) fun b3=>.R b3)
def cmp_isNaN_int (x:Int):C prog Bool:=.of Z call221 func221 [.t (tI x)] (fun r=>.t (tB r)) (
 .R (x !=x))
def cmp_Less_int (x y:Int):C prog Bool:=.of Z call130 func130 [.t (tI x),.t (tI y)] (fun r=>.t (tB r)) (
 .K (cmp_isNaN_int x) fun v=>.G v (.K (cmp_isNaN_int y) fun v2=>.R (!v2)) (.R false) fun b2=>.R (b2||(decide (x<y))))
def R3 (x:List Int)(i:Int):M prog Bool (Int⊕(Int⊕Bool)):=
 .I (decide (i>0)) (.D [] []<| .O (.ix aI7 x i) fun x2=>.O (.ix aI7 x (j5 (i-1))) fun x3=>.K (cmp_Less_int x2 x3) fun v=>.I v (.R (.inr (.inr false))) (.R (.inl (j5 (i-1))))) (.R (.inr (.inl i)))
def P9 (x:List Int):C prog Bool:=.of Z call72 func72 [.t (tS aI7 x)] (fun r=>.t (tB r)) (
 .L (fun(t:Int)=>[.t 3 (.t (tI t))]) 0 (.one .rt) (R3 x) (j5 ((x.length:Int)-1)) (fun _=>.R true) (fun r2=>.R r2))
def I7 (n2 low high:Int):C prog Bool:=.of Z call73 func73 [.t (tI n2),.t (tI low),.t (tI high)] (fun r=>.t (tB r)) (
 .R ((decide (n2>=low))&&(decide (n2<=high))))
def aL0 (y:Int):C prog Bool:=.of Z call75 func75 [.t (tI y)] (fun r=>.t (tB r)) (
 .K (I7 y 100 3000) fun v=>.R (!v))
def aT5 (_:Int)(x:List Int)(_:Unit):M prog Bool (Fl Unit Bool):=
 .W (.hx 0)<| .K (P9 x) fun v3=>.G (!v3) (.R true) (.O (.ix aI7 x 0) fun x2=>.K (I7 x2 0 1048576) fun v4=>.R (!v4)) fun b3=>.G b3 (.R true) (.O (.ix aI7 x (j5 ((x.length:Int)-1))) fun x3=>.K (I7 x3 0 1048576) fun v5=>.R (!v5)) fun b4=>.I b4 (.R (.ret false)) (.R (.next ()))
def aB7 (t2:o7):C prog Bool:=.of Z call38 func38 [T5 t2] (fun r=>.t (tB r)) (
 .K (J6 t2.Air) fun v=>.G (!v) (.R true) (.K (P7 t2.M0) fun v2=>.R (!v2)) fun b2=>.I b2 (.R false) (M.Q (cY6 aI7) t2.Air.Z 2 19 (fun(_:Unit)=>[.x 5,.x 15,.x 16]) 0 (.one .rt) (aT5) () (fun _=>.K (o6 t2.M0.Y (.of (fun z_=>aL0 z_) 75 [])) fun v6=>.R (!v6)) (fun r2=>.R r2)))
def aa5 (s:List (List Int))(f2:Cl prog (List Int) Bool (fun x=>[.t (tS aI7 x)]) (fun r=>.t (tB r)))(i:Int)(_:Unit):M prog Int (Fl Unit Int):=
 .O (.ix (cY6 aI7) s i) fun x=>.K (f2.at x) fun v=>.I v (.R (.ret i)) (.R (.next ()))
def W7 (s:List (List Int))(f2:Cl prog (List Int) Bool (fun x=>[.t (tS aI7 x)]) (fun r=>.t (tB r))):C prog Int:=.of Z call87 func87 [.t (tS (cY6 aI7) s),.fz f2.n f2.cs] (fun r=>.t (tI r)) (
 M.QN (s.length:Int) 2 8 (fun(_:Unit)=>[]) 0 (.one .rt) (aa5 s f2) () (fun _=>.R (-1)) (fun r2=>.R r2))
def G2 (s:List (List Int))(f2:Cl prog (List Int) Bool (fun x=>[.t (tS aI7 x)]) (fun r=>.t (tB r))):C prog Bool:=.of Z call45 func45 [.t (tS (cY6 aI7) s),.fz f2.n f2.cs] (fun r=>.t (tB r)) (
 .K (W7 s f2) fun v=>.R (decide (v>=0)))
def H9 (x low high:Int):C prog Bool:=.of Z call133 func133 [.t (tI x),.t (tI low),.t (tI high)] (fun r=>.t (tB r)) (
 .R ((decide (x>=low))&&(decide (x<=high))))
def ao6 (x c c2:Int):C prog Bool:=.of Z call132 func132 [.t (tI x),.el (aI7 c),.el (aI7 c2)] (fun r=>.t (tB r)) (
 .K (H9 x c c2) fun v=>.R (!v))
def ah7 (l:List Int)(low high:Int):C prog Bool:=.of Z call76 func76 [.t (tS aI7 l),.t (tI low),.t (tI high)] (fun r=>.t (tB r)) (
 .Z (.fb 4)<| .Z (.fb 5)<| .K (o6 l (.of (fun z_=>ao6 z_ low high) 132 [aI7 low,aI7 high])) fun v=>.R v)
def M1 (x:List Int)(cmp:Cl prog (Int×Int) Int (fun x=>[.t (tI x.1),.t (tI x.2)]) (fun r=>.t (tI r)))(i:Int):M prog Bool (Int⊕(Int⊕Bool)):=
 .I (decide (i>0)) (.D [] []<| .O (.ix aI7 x i) fun x2=>.O (.ix aI7 x (j5 (i-1))) fun x3=>.K (cmp.at (x2,x3)) fun v=>.I (decide (v<0)) (.R (.inr (.inr false))) (.R (.inl (j5 (i-1))))) (.R (.inr (.inl i)))
def I3 (x:List Int)(cmp:Cl prog (Int×Int) Int (fun x=>[.t (tI x.1),.t (tI x.2)]) (fun r=>.t (tI r))):C prog Bool:=.of Z call77 func77 [.t (tS aI7 x),.fz cmp.n cmp.cs] (fun r=>.t (tB r)) (
 .L (fun(t:Int)=>[.t 5 (.t (tI t))]) 0 (.one .rt) (M1 x cmp) (j5 ((x.length:Int)-1)) (fun _=>.R true) (fun r2=>.R r2))
def ac8 (a b2:Int):C prog Int:=.of Z call78 func78 [.t (tI a),.t (tI b2)] (fun r=>.t (tI r)) (
 .R (j5 (b2-a)))
def al7 (row:List Int):C prog Bool:=.of Z call79 func79 [.t (tS aI7 row)] (fun r=>.t (tB r)) (
 .K (ah7 row 0 10000) fun v=>.G v (.R true) (.K (P9 row) fun v2=>.R (!v2)) fun b2=>.R b2)
def ai9 (t2:o7):C prog Bool:=.of Z call39 func39 [T5 t2] (fun r=>.t (tB r)) (
 .K (J6 t2.o9) fun v=>.G (!v) (.R true) (.K (P7 t2.C7) fun v2=>.R (!v2)) fun b2=>.G b2 (.R true) (.K (ah7 t2.C7.Y 0 1000) fun v3=>.R v3) fun b3=>.I b3 (.R false) (.K (I3 t2.C7.Y (.of (fun z_=>ac8 z_.1 z_.2) 78 [])) fun v4=>.I (!v4) (.R false) (.K (G2 t2.o9.Z (.of (fun z_=>al7 z_) 79 [])) fun v5=>.R (!v5))))
def J8 (x low high:Int):C prog Bool:=.of Z call86 func86 [.t (tI x),.t (tI low),.t (tI high)] (fun r=>.t (tB r)) (
 .R ((decide (x>=low))&&(decide (x<=high))))
def aA6 (x c c2:Int):C prog Bool:=.of Z call85 func85 [.t (tI x),.el (aI7 c),.el (aI7 c2)] (fun r=>.t (tB r)) (
 .K (J8 x c c2) fun v=>.R (!v))
def ag3 (l:List Int)(low high:Int):C prog Bool:=.of Z call42 func42 [.t (tS aI7 l),.t (tI low),.t (tI high)] (fun r=>.t (tB r)) (
 .Z (.fb 4)<| .Z (.fb 5)<| .K (o6 l (.of (fun z_=>aA6 z_ low high) 85 [aI7 low,aI7 high])) fun v=>.R (!v))
def Q9 (g:aW0):C prog Bool:=.of Z call43 func43 [di6 g] (fun r=>.t (tB r)) (
 .R (((((((decide (g.P>=0))&&(decide (g.P<=65536)))&&(decide (g.I>=0)))&&(decide (g.I<=65536)))&&(decide (g.Low>=(-1073741824))))&&(decide (g.Low<=g.bt7)))&&(decide (g.bt7<=1073741824))))
def aB9 (_:Int)(x:List Int)(_:Unit):M prog Bool (Fl Unit Bool):=
 .W (.hx 0)<| .K (ag3 x (-1280) 3840) fun v7=>.I (!v7) (.R (.ret false)) (.R (.next ()))
def ad0 (t2:o7):C prog Bool:=.of Z call16 func16 [T5 t2] (fun r=>.t (tB r)) (
 .K (aB7 t2) fun v=>.G (!v) (.R true) (.K (ai9 t2) fun v2=>.R (!v2)) fun b2=>.G b2 (.R true) (.K (J6 t2.O2) fun v3=>.R (!v3)) fun b3=>.G b3 (.R true) (.K (J6 t2.aI4) fun v4=>.R (!v4)) fun b4=>.G b4 (.R true) (.K (P7 t2.af6) fun v5=>.R (!v5)) fun b5=>.G b5 (.R true) (.K (P7 t2.aw6) fun v6=>.R (!v6)) fun b6=>.I b6 (.R false) (M.Q (cY6 aI7) t2.O2.Z 2 41 (fun(_:Unit)=>[.x 37,.x 38]) 0 (.one .rt) (aB9) () (fun _=>.K (ag3 t2.af6.Y 500 10000) fun v8=>.G v8 (.K (ag3 t2.aw6.Y 0 10000) fun v9=>.R v9) (.R false) fun b7=>.G b7 (.K (Q9 t2.af5) fun v10=>.R v10) (.R false) fun b8=>.R b8) (fun r2=>.R r2)))
def ai4 (a:Int):C prog Bool:=.of Z call134 func134 [.t (tI a)] (fun r=>.t (tB r)) (
 .R ((decide (a>=0))&&(decide (a<46080))))
def ao4 (s:List Int)(v i:Int)(_:Unit):M prog Int (Fl Unit Int):=
 .O (.ix aI7 s i) fun x=>.I (v==x) (.R (.ret i)) (.R (.next ()))
def W8 (s:List Int)(v:Int):C prog Int:=.of Z call222 func222 [.t (tS aI7 s),.t (tI v)] (fun r=>.t (tI r)) (
 M.QN (s.length:Int) 2 8 (fun(_:Unit)=>[]) 0 (.one .rt) (ao4 s v) () (fun _=>.R (-1)) (fun r2=>.R r2))
def P8 (s:List Int)(v:Int):C prog Bool:=.of Z call135 func135 [.t (tS aI7 s),.t (tI v)] (fun r=>.t (tB r)) (
 .K (W8 s v) fun v2=>.R (decide (v2>=0)))
def as6 (e2:o5)(i:Int):M prog Bool (Int⊕(Int⊕Bool)):=
 .I (decide (i<=(e2.A7.length:Int))) (.K (P8 e2.A7 i) fun v2=>.I (!v2) (.R (.inr (.inr false))) (.R (.inl (j5 (i+1))))) (.R (.inr (.inl i)))
def P0 (e2:o5):C prog Bool:=.of Z call88 func88 [au5 e2] (fun r=>.t (tB r)) (
 .G ((decide ((e2.A7.length:Int)<1))||(decide ((e2.A7.length:Int)>8))) (.R true) (.K (ai4 e2.as4) fun v=>.R (!v)) fun b2=>.I b2 (.R false) (.L (fun(t:Int)=>[.t 4 (.t (tI t)),.x 5]) 0 (.one .rt) (as6 e2) 1 (fun _=>.R true) (fun r2=>.R r2)))
def Q0 (x:List C1)(count:Int):C prog (List C1):=⟨136,[.t (tS I8 x),.t (tI count)],Pv.Q0 x count,fun _=>eK3 x count,(fun r=>.t (tS I8 r)),true,by6 x count,fun _ r h=>by7 h⟩
def aV2 (n2:Int):C prog (List C1×Int):=.of Z call89 func89 [.t (tI n2)] (fun r=>.P4 [.t (tS I8 r.1),.t (tI r.2)]) (
 .I ((decide (n2<1))||(decide (n2>8))) (.R (([]:List C1),2)) (.Z (.fr 11)<| .K (Q0 ([(⟨0,100,0⟩:C1)]:List C1) n2) fun v=>.R (v,0)))
def bj7:C prog V1:=.of Z call90 func90 [] (fun r=>ci1 r) (
 .R (⟨0,0,false⟩:V1))
def aL8:C prog N1:=.of Z call91 func91 [] (fun r=>bt4 r) (
 .Mk an8 9 (⟨0,0⟩:ac0) fun l=>.R (⟨false,false,1000,0,l⟩:N1))
def aA5 (e2:o5):C prog (A9×Int):=.of Z call47 func47 [au5 e2] (fun r=>.P4 [aQ9 r.1,.t (tI r.2)]) (
 .K (P0 e2) fun v=>.I (!v) (.R ((⟨(⟨0,0,false⟩:V1),(⟨0⟩:F9),([]:List C1),(⟨false,false,0,0,([]:List ac0)⟩:N1),0,(⟨0,0⟩:aa8)⟩:A9),1)) (.K (aV2 (e2.A7.length:Int)) fun r2=>.I (r2.2 !=0) (.R ((⟨(⟨0,0,false⟩:V1),(⟨0⟩:F9),([]:List C1),(⟨false,false,0,0,([]:List ac0)⟩:N1),0,(⟨0,0⟩:aa8)⟩:A9),1)) (.K (bj7) fun v2=>.K (aL8) fun v3=>.R ((⟨v2,(⟨0⟩:F9),r2.1,v3,0,(⟨0,(-1)⟩:aa8)⟩:A9),0))))
def aV7 (n2:Int):C prog (A2×Int):=.of Z call92 func92 [.t (tI n2)] (fun r=>.P4 [aN8 r.1,.t (tI r.2)]) (
 .I ((decide (n2<1))||(decide (n2>16))) (.R ((⟨0,([]:List j7)⟩:A2),2)) (.Mk F2 n2 (⟨false,0,false,false⟩:j7) fun l=>.R ((⟨0,l⟩:A2),0)))
def O4 (s:List Int):C prog (List Int):=.of Z call93 func93 [.t (tS aI7 s)] (fun r=>.t (tS aI7 r)) (
 .Nl aI7 s (.I true (.R ([]:List Int)) .N) (fun s=>.I false .N (.U (.ap aI7 ([]:List Int) s 5) fun l=>.R l)))
def bc1:C prog E8:=.of Z call94 func94 [] (fun r=>bC4 r) (
 .R (⟨false,0,0,0,0,0⟩:E8))
def ap2 (e2:o5):C prog (c8×Int):=.of Z call48 func48 [au5 e2] (fun r=>.P4 [S5 r.1,.t (tI r.2)]) (
 .K (P0 e2) fun v=>.I (!v) (.R ((⟨(⟨([]:List Int),0⟩:o5),(⟨false,0,0,0,0,0⟩:E8),(⟨0,([]:List j7)⟩:A2),([]:List A6),([]:List B0),false⟩:c8),1)) (.K (aV7 (j5 (2*(e2.A7.length:Int)))) fun r2=>.I (r2.2 !=0) (.R ((⟨(⟨([]:List Int),0⟩:o5),(⟨false,0,0,0,0,0⟩:E8),(⟨0,([]:List j7)⟩:A2),([]:List A6),([]:List B0),false⟩:c8),1)) (.D [] []<| .K (O4 e2.A7) fun v2=>.K (bc1) fun v3=>.R ((⟨(⟨v2,e2.as4⟩:o5),v3,r2.1,([]:List A6),([]:List B0),false⟩:c8),0))))
def G0 (x low high:Int):C prog Bool:=.of Z call44 func44 [.t (tI x),.t (tI low),.t (tI high)] (fun r=>.t (tB r)) (
 .R ((decide (x>=low))&&(decide (x<=high))))
def ak1 (b2:L6):C prog Bool:=.of Z call18 func18 [aM0 b2] (fun r=>.t (tB r)) (
 .K (G0 b2.aj5 100 1048576) fun v=>.G v (.K (G0 b2.ap6 0 65536) fun v2=>.R v2) (.R false) fun b3=>.G b3 (.K (G0 b2.J2 0 65536) fun v3=>.R v3) (.R false) fun b4=>.G b4 (.K (G0 b2.aP6 1 65536) fun v4=>.R v4) (.R false) fun b5=>.G b5 (.K (G0 b2.P5 0 1023) fun v5=>.R v5) (.R false) fun b6=>.G b6 (.K (G0 b2.M4 1 1024) fun v6=>.R v6) (.R false) fun b7=>.G b7 (.K (G0 b2.aY0 0 20) fun v7=>.R v7) (.R false) fun b8=>.R b8)
def cx5 (b2:L6):C prog (Z8×Int):=.of Z call49 func49 [aM0 b2] (fun r=>.P4 [aX9 r.1,.t (tI r.2)]) (
 .K (ak1 b2) fun v=>.I (!v) (.R ((⟨0,0,0,0,0,([]:List Int)⟩:Z8),1)) (.R ((⟨0,0,0,1013,0,([]:List Int)⟩:Z8),0)))
def X2 (s:List y9)(f2:Cl prog y9 Bool (fun x=>[aP0 x]) (fun r=>.t (tB r)))(i:Int)(_:Unit):M prog Int (Fl Unit Int):=
 .O (.ix H0 s i) fun x=>.K (f2.at x) fun v=>.I v (.R (.ret i)) (.R (.next ()))
def T4 (s:List y9)(f2:Cl prog y9 Bool (fun x=>[aP0 x]) (fun r=>.t (tB r))):C prog Int:=.of Z call37 func37 [.t (tS H0 s),.fz f2.n f2.cs] (fun r=>.t (tI r)) (
 M.QN (s.length:Int) 2 8 (fun(_:Unit)=>[]) 0 (.one .rt) (X2 s f2) () (fun _=>.R (-1)) (fun r2=>.R r2))
def I6 (s:List y9)(f2:Cl prog y9 Bool (fun x=>[aP0 x]) (fun r=>.t (tB r))):C prog Bool:=.of Z call14 func14 [.t (tS H0 s),.fz f2.n f2.cs] (fun r=>.t (tB r)) (
 .K (T4 s f2) fun v=>.R (decide (v>=0)))
def E3 (x low high:Int):C prog Bool:=.of Z call138 func138 [.t (tI x),.t (tI low),.t (tI high)] (fun r=>.t (tB r)) (
 .R ((decide (x>=low))&&(decide (x<=high))))
def ae8 (c:y9):C prog Bool:=.of Z call137 func137 [aP0 c] (fun r=>.t (tB r)) (
 .K (E3 c.Code 1 16777215) fun v=>.G v (.K (E3 c.aW6 1 100) fun v2=>.R v2) (.R false) fun b2=>.G b2 (.K (E3 c.Pass 1 100) fun v3=>.R v3) (.R false) fun b3=>.G b3 (.K (E3 c.ci4 1 100) fun v4=>.R v4) (.R false) fun b4=>.G b4 (.K (E3 c.Age c.ci4 255) fun v5=>.R v5) (.R false) fun b5=>.G b5 (.K (E3 c.E7 0 255) fun v6=>.R v6) (.R false) fun b6=>.G b6 (.K (E3 c.Frame 0 8) fun v7=>.R v7) (.R false) fun b7=>.R b7)
def ao0 (c:y9):C prog Bool:=.of Z call95 func95 [aP0 c] (fun r=>.t (tB r)) (
 .K (ae8 c) fun v=>.R (!v))
def aD8 (_:Int)(x:y9)(f2:List (Int×Bool)):M prog Bool (Fl (List (Int×Bool)) Bool):=
 .W (.hx 0)<| .Ml eP5 f2 x.Code<| .I (cR5 false f2 x.Code) (.R (.ret false)) (.Mu eP5 f2 x.Code true<| .R (.next (dn3 f2 x.Code true)))
def an9 (l:List y9):C prog Bool:=.of Z call96 func96 [.t (tS H0 l)] (fun r=>.t (tB r)) (
 .Mm 2048<|M.Q H0 l 2 9 (fun(t:List (Int×Bool))=>[.x 6,.b 2048 (.mp (List.map (ent (fun n:Int=>.int .i64 n) (fun v:Bool=>.bool v)) t))]) 0 (.one .rt) (aD8) ([]:List (Int×Bool)) (fun _=>.R true) (fun r2=>.R r2))
def aa3 (s:List y9):C prog (List y9):=.of Z call97 func97 [.t (tS H0 s)] (fun r=>.t (tS H0 r)) (
 .Nl H0 s (.I true (.R ([]:List y9)) .N) (fun s=>.I false .N (.U (.ap H0 ([]:List y9) s 5) fun l=>.R l)))
def aC1 (l:List y9):C prog (C2×Int):=.of Z call50 func50 [.t (tS H0 l)] (fun r=>.P4 [aB5 r.1,.t (tI r.2)]) (
 .I (decide ((l.length:Int)>64)) (.R ((⟨([]:List y9),([]:List A5),0,false⟩:C2),5)) (.K (I6 l (.of (fun z_=>ao0 z_) 95 [])) fun v=>.I v (.R ((⟨([]:List y9),([]:List A5),0,false⟩:C2),1)) (.K (an9 l) fun v2=>.I (!v2) (.R ((⟨([]:List y9),([]:List A5),0,false⟩:C2),8)) (.D [] []<| .K (aa3 l) fun v3=>.Mk G4 (l.length:Int) (⟨0,0,0,0,0,([]:List Int),0⟩:A5) fun l2=>.R ((⟨v3,l2,0,false⟩:C2),0)))))
def aR7 (x:Int):C prog Bool:=.of Z call318 func318 [.t (tI x)] (fun r=>.t (tB r)) (
 .K (E3 x (-1099511627776) 1099511627776) fun v=>.R v)
def aA9 (x:Int):C prog Bool:=.of Z call317 func317 [.t (tI x)] (fun r=>.t (tB r)) (
 .K (aR7 x) fun v=>.R (!v))
def as7 (c:y9)(l:List Int):C prog Bool:=.of Z call224 func224 [aP0 c,.t (tS aI7 l)] (fun r=>.t (tB r)) (
 .G ((l.length:Int)==c.Frame) (.K (o6 l (.of (fun z_=>aA9 z_) 317 [])) fun v=>.R (!v)) (.R false) fun b2=>.R b2)
def Y4 (f2:A5)(bits:Int):C prog Bool:=.of Z call225 func225 [cJ7 f2,.t (tI bits)] (fun r=>.t (tB r)) (
 .R ((U3 .i64 f2.D8 bits)==bits))
def aL4 (f2:A5):C prog Bool:=.of Z call226 func226 [cJ7 f2] (fun r=>.t (tB r)) (
 .R ((U3 .i64 f2.D8 6) !=0))
def aF9 (c:y9)(f2:A5)(E5:Int):C prog Bool:=.of Z call139 func139 [aP0 c,cJ7 f2,.t (tI E5)] (fun r=>.t (tB r)) (
 .K (E3 f2.D8 0 31) fun v=>.G (!v) (.R true) (.K (E3 f2.Count (j5 (0-c.Pass)) c.aW6) fun v2=>.R (!v2)) fun b2=>.G b2 (.R true) (.K (E3 f2.J7 0 2) fun v3=>.R (!v3)) fun b3=>.G b3 (.R true) (.K (E3 f2.Clean 0 (j5 (c.Age-1))) fun v4=>.R (!v4)) fun b4=>.G b4 (.R true) (.K (E3 f2.A8 0 255) fun v5=>.R (!v5)) fun b5=>.G b5 (.R true) (.K (E3 f2.H6 0 E5) fun v6=>.R (!v6)) fun b6=>.G b6 (.R true) (.G (decide ((f2.Frame.length:Int)>0)) (.K (as7 c f2.Frame) fun v7=>.R (!v7)) (.R false) fun b7=>.R b7) fun b8=>.I b8 (.R false) (.K (Y4 f2 1) fun v8=>.G v8 (.K (Y4 f2 10) fun v9=>.R ((!v9)||(f2.H6 !=E5))) (.R false) fun b9=>.I b9 (.R false) (.D [] []<| .K (Y4 f2 4) fun v10=>.I (!(v10==(f2.J7==2))) (.R false) (.K (Y4 f2 16) fun v11=>.G v11 (.K (Y4 f2 4) fun v12=>.R ((!v12)||(!c.ca7))) (.R false) fun b10=>.I b10 (.R false) (.K (Y4 f2 2) fun v13=>.I (v13&&(f2.Clean !=0)) (.R false) (.K (aL4 f2) fun v14=>.I v14 (.R ((((decide (f2.A8>=1))&&(decide (f2.J7>=1)))&&(decide (f2.H6>=1)))&&((f2.Frame.length:Int)==c.Frame))) (.R (((((f2.J7==0)&&(f2.Clean==0))&&(f2.A8==0))&&(f2.H6==0))&&((f2.Frame.length:Int)==0)))))))))
def aD7 (f2:C2)(i:Int)(_:Unit):M prog Bool (Fl Unit Bool):=
 .O (.ix G4 f2.L i) fun x=>.D [] []<| .O (.ix H0 f2.T9 i) fun x2=>.K (aF9 x2 x f2.aI1) fun v4=>.I (!v4) (.R (.ret false)) (.R (.next ()))
def aa2 (f2:C2):C prog Bool:=.of Z call98 func98 [aB5 f2] (fun r=>.t (tB r)) (
 .G (decide ((f2.T9.length:Int)>64)) (.R true) (.K (I6 f2.T9 (.of (fun z_=>ao0 z_) 95 [])) fun v=>.R v) fun b2=>.G b2 (.R true) (.K (an9 f2.T9) fun v2=>.R (!v2)) fun b3=>.G (b3||((f2.L.length:Int) !=(f2.T9.length:Int))) (.R true) (.K (E3 f2.aI1 0 1073741824) fun v3=>.R (!v3)) fun b4=>.I (b4||(f2.ay1&&(decide (f2.aI1<1)))) (.R false) (M.QN (f2.L.length:Int) 2 47 (fun(_:Unit)=>[.x 5,.x 44]) 0 (.one .rt) (aD7 f2) () (fun _=>.R true) (fun r2=>.R r2)))
def ae1 (s:List A5):CG prog (List A5):=.of Z call140 func140 [.t (tS G4 s)] [] (fun _=>.own 900000) (fun r=>[(900000,.rs 197 7 r G4)]) [900000] (
 .Nl G4 s (.I true (.Z (.np 2 70000 197 7 [])<| .R ([]:List A5)) .N) (fun s=>.I false .N (.U (.ap G4 ([]:List A5) s 5) fun l=>.R l)))
def ay5 (i:Int)(f3:List A5):M prog C2 (Fl (List A5) Empty):=
 .D [] []<| .O (.ix G4 f3 i) fun x=>.W (.ly 0)<| .K (O4 x.Frame) fun v2=>.W (.hx 0)<| .U (.st G4 f3 i ({x with Frame:=v2}:A5) 0) fun l=>.R (.next l)
def am0 (f2:C2):CG prog C2:=.of Z call99 func99 [aB5 f2] [] (fun r=>.agg [.t (tS H0 r.T9),.own 900000,.t (tI r.aI1),.t (tB r.ay1)]) (fun r=>[(900000,.rs 197 7 r.L G4)]) [900000] (
 .KG (ae1 f2.L) [2048] fun v=>M.QN (v.length:Int) 2 11 (fun(t:List A5)=>[.x 4,.x 6,.x 7,.x 8,.x 9,.b 2048 (.rs 197 7 t G4)]) 0 (.e) (ay5) v (fun f4=>.R ({f2 with L:=f4}:C2)) (fun t=>t.elim))
def aD6 (i:Int)(f3:List A5):M prog (C2×Int) (Fl (List A5) Empty):=
 .O (.ix G4 f3 i) fun x=>.U (.st G4 f3 i ({x with Count:=0}:A5) 0) fun l=>.W (.ly 0)<| .U (.st G4 l i ({x with D8:=aP1 .i64 x.D8 9,Count:=0}:A5) 0) fun l2=>.R (.next l2)
def ax1 (f2:C2):C prog (C2×Int):=.of Z call51 func51 [aB5 f2] (fun r=>.P4 [aB5 r.1,.t (tI r.2)]) (
 .K (aa2 f2) fun v=>.I (!v) (.R ((⟨([]:List y9),([]:List A5),0,false⟩:C2),1)) (.I f2.ay1 (.R ((⟨([]:List y9),([]:List A5),0,false⟩:C2),6)) (.I (f2.aI1==1073741824) (.R ((⟨([]:List y9),([]:List A5),0,false⟩:C2),9)) (.KG (am0 f2) [2168] fun v2=>M.QN (v2.L.length:Int) 2 30 (fun(t:List A5)=>[.x 12,.x 16,.x 21,.x 22,.x 25,.x 26,.x 27,.x 28,.b 2168 (.rs 197 7 t G4)]) 1 (.e) (aD6) v2.L (fun f4=>.R ((⟨v2.T9,f4,j5 (v2.aI1+1),true⟩:C2),0)) (fun t=>t.elim)))))
def aY8 (n2:Int):C prog Bool:=.of Z call100 func100 [.t (tI n2)] (fun r=>.t (tB r)) (
 .R ((decide (n2>=1))&&(decide (n2<=65535))))
def cT3 (seed:Int):C prog (ad9×Int):=.of Z call52 func52 [.t (tI seed)] (fun r=>.P4 [aT3 r.1,.t (tI r.2)]) (
 .K (aY8 seed) fun v=>.I (!v) (.R ((⟨0,0,0,false,false⟩:ad9),2)) (.R ((⟨seed,0,0,false,false⟩:ad9),0)))
def dC9:C prog ab5:=.of Z call53 func53 [] (fun r=>aP9 r) (
 .R (⟨0,0,0,0,0,0⟩:ab5))
def cx3:C prog ae3:=.of Z call54 func54 [] (fun r=>aX8 r) (
 .R (⟨false,0,0,false⟩:ae3))
def bM3:C prog aa7:=.of Z call55 func55 [] (fun r=>bc0 r) (
 .R (⟨false,0,0⟩:aa7))
def dh4:C prog ao8:=.of Z call56 func56 [] (fun r=>bm3 r) (
 .R (⟨false,1,0⟩:ao8))
def bV7 (t2:o7)(b2:L6)(e2:o5)(l:List y9):C prog (af9×Int):=.of Z call24 func24 [T5 t2,aM0 b2,au5 e2,.t (tS H0 l)] (fun r=>.P4 [ca2 r.1,.t (tI r.2)]) (
 .K (aA5 e2) fun r2=>.K (ap2 e2) fun r3=>.K (cx5 b2) fun r4=>.K (aC1 l) fun r5=>.K (ad0 t2) fun v=>.I ((((((!v)||(r2.2 !=0))||(r3.2 !=0))||(r4.2 !=0))||(r5.2 !=0))||(decide ((l.length:Int)<7))) (.R ((⟨(⟨(⟨([]:List Int),([]:List Int),([]:List (List Int))⟩:SMap),(⟨([]:List Int),([]:List Int),([]:List (List Int))⟩:SMap),(⟨([]:List Int),([]:List Int),([]:List (List Int))⟩:SMap),(⟨([]:List Int),([]:List Int),([]:List (List Int))⟩:SMap),(⟨([]:List Int),([]:List Int)⟩:Q4),(⟨([]:List Int),([]:List Int)⟩:Q4),(⟨([]:List Int),([]:List Int)⟩:Q4),(⟨([]:List Int),([]:List Int)⟩:Q4),(⟨0,0,0,0⟩:aW0)⟩:o7),(⟨(⟨0,0,false⟩:V1),(⟨0⟩:F9),([]:List C1),(⟨false,false,0,0,([]:List ac0)⟩:N1),0,(⟨0,0⟩:aa8)⟩:A9),(⟨(⟨([]:List Int),0⟩:o5),(⟨false,0,0,0,0,0⟩:E8),(⟨0,([]:List j7)⟩:A2),([]:List A6),([]:List B0),false⟩:c8),(⟨0,0,0,0,0,0⟩:ab5),(⟨false,0,0,false⟩:ae3),(⟨false,0,0⟩:aa7),(⟨0,0,false⟩:ai3),(⟨0,0,0,false,false⟩:ad9),(⟨false,0,0⟩:ao8),(⟨([]:List y9),([]:List A5),0,false⟩:C2),(⟨0,0,0,0,0,([]:List Int)⟩:Z8),(⟨0,0,0,0,0,0,0⟩:L6),0⟩:af9),1)) (.K (ax1 r5.1) fun r6=>.K (cT3 1) fun r7=>.D [] []<| .K (dC9) fun v2=>.K (cx3) fun v3=>.K (bM3) fun v4=>.K (dh4) fun v5=>.R ((⟨t2,r2.1,r3.1,v2,v3,v4,(⟨0,0,false⟩:ai3),r7.1,v5,r6.1,r4.1,b2,0⟩:af9),0)))
def bY5:C prog o5:=.of Z call28 func28 [] (fun r=>au5 r) (
 .R (⟨([1]:List Int),0⟩:o5))
def bB9 (_ x:Int)(_:Unit):M prog Bool (Fl Unit Bool):=
 .W (.hx 0)<| .K (G0 x 500 2000) fun v7=>.I (!v7) (.R (.ret false)) (.R (.next ()))
def bw6 (b2:L6)(p2:Z8):C prog Bool:=.of Z call101 func101 [aM0 b2,aX9 p2] (fun r=>.t (tB r)) (
 .K (ak1 b2) fun v=>.G (!v) (.R true) (.K (G0 p2.K7 0 3019898879) fun v2=>.R (!v2)) fun b3=>.G b3 (.R true) (.K (G0 p2.D7 0 262144) fun v3=>.R (!v3)) fun b4=>.G b4 (.R true) (.K (G0 p2.Rest 0 (j5 (b2.aj5-1))) fun v4=>.R (!v4)) fun b5=>.G b5 (.R true) (.K (G0 p2.N0 50 1013) fun v5=>.R (!v5)) fun b6=>.G b6 (.R true) (.K (G0 p2.P5 0 2147483648) fun v6=>.R (!v6)) fun b7=>.I (b7||(decide ((p2.Path.length:Int)>(j5 (b2.aY0+1))))) (.R false) (M.Q aI7 p2.Path 2 55 (fun(_:Unit)=>[.x 2,.x 3,.x 52,.d 2,.d 3]) 0 (.one .rt) (bB9) () (fun _=>.R true) (fun r2=>.R r2)))
def av6 (t2:Int):C prog Bool:=.of Z call227 func227 [.t (tI t2)] (fun r=>.t (tB r)) (
 .R ((decide (t2>=0))&&(decide (t2<=1099511627776))))
def aj7 (c:E8):C prog Bool:=.of Z call141 func141 [bC4 c] (fun r=>.t (tB r)) (
 .I (!c.Y2) (.W .eq<| .R ((c.Y2==false)&&((c.At==0)&&((c.I0==0)&&((c.G1==0)&&((c.ab6==0)&&((c.as3==0)&&true))))))) (.K (av6 c.At) fun v=>.I (((((((!v)||(decide (c.I0<0)))||(decide (c.I0>=46080)))||(decide (c.G1<1)))||(decide (c.G1>1073741824)))||(decide (c.ab6<192)))||(decide (c.ab6>1920))) (.R false) (.R (((c.as3==c.ab6)||(c.as3==(j5 (2*c.ab6))))||(c.as3==(j5 (3*c.ab6)))))))
def W3 (s:List j7)(f2:Cl prog j7 Bool (fun x=>[ba9 x]) (fun r=>.t (tB r)))(i:Int)(_:Unit):M prog Int (Fl Unit Int):=
 .O (.ix F2 s i) fun x=>.K (f2.at x) fun v=>.I v (.R (.ret i)) (.R (.next ()))
def R8 (s:List j7)(f2:Cl prog j7 Bool (fun x=>[ba9 x]) (fun r=>.t (tB r))):C prog Int:=.of Z call319 func319 [.t (tS F2 s),.fz f2.n f2.cs] (fun r=>.t (tI r)) (
 M.QN (s.length:Int) 2 8 (fun(_:Unit)=>[]) 0 (.one .rt) (W3 s f2) () (fun _=>.R (-1)) (fun r2=>.R r2))
def G7 (s:List j7)(f2:Cl prog j7 Bool (fun x=>[ba9 x]) (fun r=>.t (tB r))):C prog Bool:=.of Z call228 func228 [.t (tS F2 s),.fz f2.n f2.cs] (fun r=>.t (tB r)) (
 .K (R8 s f2) fun v=>.R (decide (v>=0)))
def ap3 (c:j7)(c2:A2):C prog Bool:=.of Z call229 func229 [ba9 c,.el (cP4 c2)] (fun r=>.t (tB r)) (
 .I c.F4 (.R ((decide (c.At<=c2.V5))||(decide (c.At>1099511627776)))) (.R ((c.At !=0)||c.Next)))
def ao5 (t2:A2):C prog Bool:=.of Z call142 func142 [aN8 t2] (fun r=>.t (tB r)) (
 .I ((((decide (t2.V5<0))||(decide (t2.V5>1099511627776)))||(decide ((t2.j2.length:Int)<1)))||(decide ((t2.j2.length:Int)>16))) (.R false) (.Z (.fb 1)<| .K (G7 t2.j2 (.of (fun z_=>ap3 z_ t2) 229 [cP4 t2])) fun v=>.R (!v)))
def M8 (x low high:Int):C prog Bool:=.of Z call320 func320 [.t (tI x),.t (tI low),.t (tI high)] (fun r=>.t (tB r)) (
 .R ((decide (x>=low))&&(decide (x<=high))))
def Y3 (e2:o5)(f2:A6):C prog Bool:=.of Z call230 func230 [au5 e2,aP8 f2] (fun r=>.t (tB r)) (
 .K (P0 e2) fun v=>.G (!v) (.R true) (.K (P8 e2.A7 f2.p7) fun v2=>.R (!v2)) fun b2=>.G b2 (.R true) (.K (M8 f2.O2 (-1280) 3840) fun v3=>.R (!v3)) fun b3=>.G b3 (.R true) (.K (M8 f2.af6 500 10000) fun v4=>.R (!v4)) fun b4=>.G b4 (.R true) (.K (M8 f2.End 0 23040) fun v5=>.R (!v5)) fun b5=>.I b5 (.R false) (.G (f2.Z7 !=0) (.K (M8 f2.Z7 200 20000) fun v6=>.R (!v6)) (.R false) fun b6=>.I b6 (.R false) (.G ((f2.Gap==0)&&(f2.Extra==0)) (.R true) (.G (f2.Z7 !=0) (.K (M8 f2.Gap 200 20000) fun v7=>.R v7) (.R false) fun b7=>.G b7 (.K (M8 f2.Extra 200 20000) fun v8=>.R v8) (.R false) fun b8=>.R b8) fun b9=>.R b9)))
def O0 (s:List A6)(f2:Cl prog A6 Bool (fun x=>[aP8 x]) (fun r=>.t (tB r)))(i:Int)(_:Unit):M prog Int (Fl Unit Int):=
 .O (.ix B7 s i) fun x=>.K (f2.at x) fun v=>.I v (.R (.ret i)) (.R (.next ()))
def H8 (s:List A6)(f2:Cl prog A6 Bool (fun x=>[aP8 x]) (fun r=>.t (tB r))):C prog Int:=.of Z call212 func212 [.t (tS B7 s),.fz f2.n f2.cs] (fun r=>.t (tI r)) (
 M.QN (s.length:Int) 2 8 (fun(_:Unit)=>[]) 0 (.one .rt) (O0 s f2) () (fun _=>.R (-1)) (fun r2=>.R r2))
def F5 (s:List A6)(f2:Cl prog A6 Bool (fun x=>[aP8 x]) (fun r=>.t (tB r))):C prog Bool:=.of Z call231 func231 [.t (tS B7 s),.fz f2.n f2.cs] (fun r=>.t (tB r)) (
 .K (H8 s f2) fun v=>.R (decide (v>=0)))
def af3 (g c:A6):C prog Bool:=.of Z call232 func232 [aP8 g,.el (B7 c)] (fun r=>.t (tB r)) (
 .R (g.p7==c.p7))
def an3 (e2:o5)(l:List A6)(i:Int)(_:Unit):M prog Bool (Fl Unit Bool):=
 .O (.ix B7 l i) fun x=>.K (Y3 e2 x) fun v=>.Z (.fb 6)<| .G (!v) (.R true) (.U (.sF B7 l 0 i) fun l2=>.K (F5 l2 (.of (fun z_=>af3 z_ x) 232 [B7 x])) fun v2=>.R v2) fun b2=>.I b2 (.R (.ret false)) (.R (.next ()))
def ac2 (e2:o5)(l:List A6):C prog Bool:=.of Z call143 func143 [au5 e2,.t (tS B7 l)] (fun r=>.t (tB r)) (
 M.QN (l.length:Int) 2 9 (fun(_:Unit)=>[]) 0 (.one .rt) (an3 e2 l) () (fun _=>.R true) (fun r2=>.R r2))
def P3 (s:List B0)(f2:Cl prog B0 Bool (fun x=>[bd8 x]) (fun r=>.t (tB r)))(i:Int)(_:Unit):M prog Int (Fl Unit Int):=
 .O (.ix I5 s i) fun x=>.K (f2.at x) fun v=>.I v (.R (.ret i)) (.R (.next ()))
def C6 (s:List B0)(f2:Cl prog B0 Bool (fun x=>[bd8 x]) (fun r=>.t (tB r))):C prog Int:=.of Z call233 func233 [.t (tS I5 s),.fz f2.n f2.cs] (fun r=>.t (tI r)) (
 M.QN (s.length:Int) 2 8 (fun(_:Unit)=>[]) 0 (.one .rt) (P3 s f2) () (fun _=>.R (-1)) (fun r2=>.R r2))
def P2 (s:List B0)(f2:Cl prog B0 Bool (fun x=>[bd8 x]) (fun r=>.t (tB r))):C prog Bool:=.of Z call144 func144 [.t (tS I5 s),.fz f2.n f2.cs] (fun r=>.t (tB r)) (
 .K (C6 s f2) fun v=>.R (decide (v>=0)))
def aw3 (s:c8)(j:B0):C prog Bool:=.of Z call146 func146 [S5 s,bd8 j] (fun r=>.t (tB r)) (
 .R (((((((((((decide (j.Event.p7>=1))&&(decide (j.Event.p7<=(s.A1.A7.length:Int))))&&(decide (j.Event.Kind>=1)))&&(decide (j.Event.Kind<=4)))&&(decide (j.Event.I0>=0)))&&(decide (j.Event.I0<46080)))&&(decide (j.Event.aj6>=0)))&&(decide (j.Event.aj6<=2)))&&(decide (j.Left>=(-1048576))))&&(decide (j.Left<=1048576)))&&(j.F4||(j.At==0))))
def Z2 (j:B0)(c:c8):C prog Bool:=.of Z call145 func145 [bd8 j,.el (bf2 c)] (fun r=>.t (tB r)) (
 .K (aw3 c j) fun v=>.R (!v))
def H5 (x:C0):C prog Int:=.of Z call234 func234 [aX6 x] (fun r=>.t (tI r)) (
 .I ((x.Kind==3)||(x.Kind==4)) (.R (j5 ((j5 (2*(j5 (x.p7-1))))+1))) (.R (j5 (2*(j5 (x.p7-1))))))
def ar4 (kind:Int):C prog Bool:=.of Z call235 func235 [.t (tI kind)] (fun r=>.t (tB r)) (
 .R ((kind==1)||(kind==3)))
def Z5 (s:c8)(c:Int)(x:j7)(_:Int)(x2:B0)(s2:Bool×Bool):M prog Bool (Fl (Bool×Bool) Bool):=
 .W (.hx 0)<| .K (H5 x2.Event) fun v=>.I (v !=c) (.R (.next (s2.1,s2.2))) (.K (ar4 x2.Event.Kind) fun v2=>.I (v2==s2.1) (.R (.ret false)) (.J 0 (fun(_:Unit)=>[.x 25,.x 30,.x 31]) (.one .rt) (.I s2.2 (.I ((!(x2.F4==x.F4))||(x2.F4&&((x2.At !=x.At)||(!(x.Next==(!s2.1)))))) (.R (.inr false)) (.R (.inl ()))) (.I (x2.F4||s.Cut) (.R (.inr false)) (.R (.inl ())))) (fun _=>.I (s.Cut&&(((x2.Event.Kind !=2)||(!x2.F4))||(decide (x2.At>(j5 (s.j9.V5+5000)))))) (.R (.ret false)) (.R (.next ((!s2.1),false)))) (fun r2=>.R (.ret r2))))
def ar3 (s:c8)(c:Int):C prog Bool:=.of Z call147 func147 [S5 s,.t (tI c)] (fun r=>.t (tB r)) (
 .O (.ix F2 s.j9.j2 c) fun x=>M.Q I5 s.H7 2 21 (fun(t:Bool×Bool)=>[.t 6 (.t (tB t.1)),.t 7 (.t (tB t.2)),.x 10,.x 11,.x 16,.x 18]) 0 (.one .rt) (Z5 s c x) (x.L4,true) (fun s4=>.R ((!s4.1)&&(!(s4.2&&x.F4)))) (fun r3=>.R r3))
def an2 (s:c8)(i:Int)(_:Unit):M prog Bool (Fl Unit Bool):=
 .K (ar3 s i) fun v6=>.I (!v6) (.R (.ret false)) (.R (.next ()))
def K1 (s:c8):C prog Bool:=.of Z call102 func102 [S5 s] (fun r=>.t (tB r)) (
 .K (P0 s.A1) fun v=>.G (!v) (.R true) (.K (aj7 s.B5) fun v2=>.R (!v2)) fun b2=>.G b2 (.R true) (.K (ao5 s.j9) fun v3=>.R (!v3)) fun b3=>.G (b3||((s.j9.j2.length:Int) !=(j5 (2*(s.A1.A7.length:Int))))) (.R true) (.K (ac2 s.A1 s.Next) fun v4=>.R (!v4)) fun b4=>.I b4 (.R false) (.Z (.fb 1)<| .G ((decide ((s.H7.length:Int)>200))||((!s.B5.Y2)&&(decide ((s.H7.length:Int)>0)))) (.R true) (.K (P2 s.H7 (.of (fun z_=>Z2 z_ s) 145 [bf2 s])) fun v5=>.R v5) fun b5=>.I b5 (.R false) (M.QN (s.j9.j2.length:Int) 2 66 (fun(_:Unit)=>[]) 0 (.one .rt) (an2 s) () (fun _=>.R true) (fun r2=>.R r2))))
def ax9 (p2:V1):C prog Bool:=.of Z call148 func148 [ci1 p2] (fun r=>.t (tB r)) (
 .J0 0 (fun(t:Int)=>[.t 3 (.t (tI t)),.x 4]) (.I p2.aV9 (.R 200) (.R 1000)) fun most=>.R (((((decide (p2.Value>=0))&&(decide (p2.Value<=most)))&&(decide (p2.aj4>=0)))&&(decide (p2.aj4<=3)))&&(p2.aV9==(p2.aj4==3))))
def S7 (x low high:Int):C prog Bool:=.of Z call236 func236 [.t (tI x),.t (tI low),.t (tI high)] (fun r=>.t (tB r)) (
 .R ((decide (x>=low))&&(decide (x<=high))))
def aj3 (s:List ac0)(f2:Cl prog ac0 Bool (fun x=>[bV3 x]) (fun r=>.t (tB r)))(i:Int)(_:Unit):M prog Int (Fl Unit Int):=
 .O (.ix an8 s i) fun x=>.K (f2.at x) fun v=>.I v (.R (.ret i)) (.R (.next ()))
def ab3 (s:List ac0)(f2:Cl prog ac0 Bool (fun x=>[bV3 x]) (fun r=>.t (tB r))):C prog Int:=.of Z call321 func321 [.t (tS an8 s),.fz f2.n f2.cs] (fun r=>.t (tI r)) (
 M.QN (s.length:Int) 2 8 (fun(_:Unit)=>[]) 0 (.one .rt) (aj3 s f2) () (fun _=>.R (-1)) (fun r2=>.R r2))
def R7 (s:List ac0)(f2:Cl prog ac0 Bool (fun x=>[bV3 x]) (fun r=>.t (tB r))):C prog Bool:=.of Z call237 func237 [.t (tS an8 s),.fz f2.n f2.cs] (fun r=>.t (tB r)) (
 .K (ab3 s f2) fun v=>.R (decide (v>=0)))
def ac1 (c:ac0):C prog Bool:=.of Z call238 func238 [bV3 c] (fun r=>.t (tB r)) (
 .K (S7 c.Value (-100) 100) fun v=>.G (!v) (.R true) (.K (S7 c.Count 0 1000) fun v2=>.R (!v2)) fun b2=>.R b2)
def ad1 (p2:N1):C prog Bool:=.of Z call149 func149 [bt4 p2] (fun r=>.t (tB r)) (
 .K (S7 p2.ak6 750 1250) fun v=>.G (!v) (.R true) (.K (S7 p2.be2 0 1000) fun v2=>.R (!v2)) fun b2=>.I (b2||((p2.Cells.length:Int) !=9)) (.R false) (.I ((!p2.K5)&&(((p2.ak6 !=1000)||(p2.be2 !=0))||p2.be1)) (.R false) (.K (R7 p2.Cells (.of (fun z_=>ac1 z_) 238 [])) fun v3=>.R (!v3))))
def ah4 (s:List C1)(f2:Cl prog C1 Bool (fun x=>[aX7 x]) (fun r=>.t (tB r)))(i:Int)(_:Unit):M prog Int (Fl Unit Int):=
 .O (.ix I8 s i) fun x=>.K (f2.at x) fun v=>.I v (.R (.ret i)) (.R (.next ()))
def Y7 (s:List C1)(f2:Cl prog C1 Bool (fun x=>[aX7 x]) (fun r=>.t (tB r))):C prog Int:=.of Z call239 func239 [.t (tS I8 s),.fz f2.n f2.cs] (fun r=>.t (tI r)) (
 M.QN (s.length:Int) 2 8 (fun(_:Unit)=>[]) 0 (.one .rt) (ah4 s f2) () (fun _=>.R (-1)) (fun r2=>.R r2))
def J5 (s:List C1)(f2:Cl prog C1 Bool (fun x=>[aX7 x]) (fun r=>.t (tB r))):C prog Bool:=.of Z call150 func150 [.t (tS I8 s),.fz f2.n f2.cs] (fun r=>.t (tB r)) (
 .K (Y7 s f2) fun v=>.R (decide (v>=0)))
def ai0 (n2:Int):C prog Bool:=.of Z call240 func240 [.t (tI n2)] (fun r=>.t (tB r)) (
 .R ((decide (n2>=0))&&(decide (n2<=4095))))
def ax4 (k:C1):C prog Bool:=.of Z call152 func152 [aX7 k] (fun r=>.t (tB r)) (
 .G ((decide (k.at5>=0))&&(decide (k.at5<=960))) (.K (ai0 k.aI2) fun v=>.R v) (.R false) fun b2=>.R ((b2&&(decide (k.Quiet>=0)))&&(decide (k.Quiet<100))))
def al0 (k:C1):C prog Bool:=.of Z call151 func151 [aX7 k] (fun r=>.t (tB r)) (
 .K (ax4 k) fun v=>.R (!v))
def aq1 (e2:o5)(c:A9):C prog Bool:=.of Z call103 func103 [au5 e2,aQ9 c] (fun r=>.t (tB r)) (
 .K (P0 e2) fun v=>.G (!v) (.R true) (.K (ax9 c.L5) fun v2=>.R (!v2)) fun b2=>.G b2 (.R true) (.K (ad1 c.Q5) fun v3=>.R (!v3)) fun b3=>.I (b3||((c.ab9.length:Int) !=(e2.A7.length:Int))) (.R false) (.K (J5 c.ab9 (.of (fun z_=>al0 z_) 151 [])) fun v4=>.I v4 (.R false) (.K (J8 c.af5.Sum (-4398046511104) 4398046511104) fun v5=>.G v5 (.K (J8 c.P5 0 1073741824) fun v6=>.R v6) (.R false) fun b4=>.G b4 (.K (J8 c.af8.o9 (-5000) 10000) fun v7=>.R v7) (.R false) fun b5=>.G b5 (.K (J8 c.af8.N7 (-1) 15) fun v8=>.R v8) (.R false) fun b6=>.R b6)))
def aV8 (t2:Int):C prog Bool:=.of Z call153 func153 [.t (tI t2)] (fun r=>.t (tB r)) (
 .R ((decide (t2>=0))&&(decide (t2<=1099511627776))))
def aH1 (f2:aa7):C prog Bool:=.of Z call104 func104 [bc0 f2] (fun r=>.t (tB r)) (
 .K (aV8 f2.H6) fun v=>.G v (.K (aV8 f2.G1) fun v2=>.R v2) (.R false) fun b2=>.R ((b2&&(decide (f2.G1<=f2.H6)))&&(f2.Seen||((f2.H6==0)&&(f2.G1==0)))))
def aL9 (w:aI8):C prog Bool:=.of Z call154 func154 [aC7 w] (fun r=>.t (tB r)) (
 .G (((((w.aQ0==1)||(w.aQ0==2))&&(decide (w.aw7>=12)))&&(decide (w.aw7<=120)))&&(decide (w.aw7>=(j5 (8*w.aQ0))))) (.O (.rem 23040 w.aw7) fun q=>.R (q==0)) (.R false) fun b2=>.R b2)
def bg5 (t2:Int):C prog Bool:=.of Z call155 func155 [.t (tI t2)] (fun r=>.t (tB r)) (
 .R ((decide (t2>=0))&&(decide (t2<=1099511627776))))
def aT1 (w:aI8):C prog Int:=.of Z call156 func156 [aC7 w] (fun r=>.t (tI r)) (
 .K (aL9 w) fun v=>.I (!v) (.R 0) (.R (j5 (w.aw7-w.aQ0))))
def bx7 (w:aI8)(s:ab5):C prog Bool:=.of Z call105 func105 [aC7 w,aP9 s] (fun r=>.t (tB r)) (
 .K (aL9 w) fun v=>.I (!v) (.R false) (.I (s.Mode==0) (.W .eq<| .R ((s.Mode==0)&&((s.ay9==0)&&((s.H6==0)&&((s.G1==0)&&((s.O1==0)&&((s.aw7==0)&&true))))))) (.I (s.Mode==1) (.G (s.ay9 !=0) (.R true) (.K (bg5 s.H6) fun v2=>.R (!v2)) fun b2=>.I b2 (.R false) (.I (s.aw7==0) (.R ((s.G1==0)&&(s.O1==0))) (.R (((((s.aw7==1)||(s.aw7==2))&&(decide (s.G1>=1)))&&(decide (s.G1<=s.H6)))&&(s.O1==s.G1))))) (.I (s.Mode==2) (.J0 1 (fun(t:Bool)=>[.t 4 (.t (tB t)),.x 2,.x 3,.x 8,.d 2,.d 3]) (.D [] []<| .Sp (decide (s.ay9>=0)) (.K (aT1 w) fun v3=>.Sp (decide (s.ay9<v3)) (.K (bg5 s.H6) fun v4=>.Sp v4 (.Sp (decide (s.G1>=1)) (.Sp (decide (s.G1<=s.H6)) (.Sp (decide (s.O1>=1)) (.R ((decide (s.O1<=s.G1))&&(s.aw7==0))) (.R false)) (.Sp false .N (.R false))) (.Sp false .N (.Sp false .N (.R false)))) (.Sp false .N (.Sp false .N (.Sp false .N (.R false))))) (.Sp false .N (.Sp false .N (.Sp false .N (.Sp false .N (.R false)))))) (.Sp false .N (.Sp false .N (.Sp false .N (.Sp false .N (.Sp false .N (.R false))))))) fun v5=>.R v5) (.R false)))))
def bt0:C prog aI8:=.of Z call106 func106 [] (fun r=>aC7 r) (
 .R (⟨60,2⟩:aI8))
def F8 (x y:Int):C prog Int:=.of Z call241 func241 [.t (tI x),.t (tI y)] (fun r=>.t (tI r)) (
 .K (cmp_isNaN_int x) fun v=>.K (cmp_isNaN_int y) fun v2=>.I v (.I v2 (.R 0) (.R (-1))) (.I v2 (.R 1) (.I (decide (x<y)) (.R (-1)) (.I (decide (x>y)) (.R 1) (.R 0)))))
def cH2 (_ x:Int)(s:Int×Int):M prog (Int×Int) (Fl (Int×Int) Empty):=
 .W (.hx 0)<| .I (decide (x<23040)) (.R (.next (j5 (s.1+1),s.2))) (.R (.next (s.1,j5 (s.2+1))))
def cr4 (c:ci7):C prog (Int×Int):=.of Z call242 func242 [bO1 c] (fun r=>.P4 [.t (tI r.1),.t (tI r.2)]) (
 M.Q aI7 c.bz0 2 9 (fun(t:Int×Int)=>[.t 2 (.t (tI t.1)),.t 3 (.t (tI t.2)),.x 1,.x 6,.d 1]) 0 (.e) (cH2) (0,0) (fun s2=>.R (s2.1,s2.2)) (fun t=>t.elim))
def cr3 (c:ci7)(i:Int)(_:Unit):M prog Bool (Fl Unit Bool):=
 .O (.ix aI7 c.bz0 i) fun x=>.G ((((decide (x<0))||(decide (x>=46080)))||(decide ((dq1 x 23040)<1920)))||(decide ((dq1 x 23040)>21120))) (.R true) (.G (decide (i>0)) (.O (.ix aI7 c.bz0 (j5 (i-1))) fun x2=>.R (decide ((j5 (x-x2))<1920))) (.R false) fun b3=>.R b3) fun b4=>.I b4 (.R (.ret false)) (.R (.next ()))
def aT2 (c:ci7):C prog Bool:=.of Z call157 func157 [bO1 c] (fun r=>.t (tB r)) (
 .G ((decide ((c.bz0.length:Int)<1))||(decide ((c.bz0.length:Int)>8))) (.R true) (.K (I3 c.bz0 (.of (fun z_=>F8 z_.1 z_.2) 241 [])) fun v=>.R (!v)) fun b2=>.I b2 (.R false) (M.QN (c.bz0.length:Int) 2 26 (fun(_:Unit)=>[.x 7,.x 23]) 0 (.one .rt) (cr3 c) () (fun _=>.K (cr4 c) fun r2=>.R (r2.1 !=r2.2)) (fun r3=>.R r3)))
def bS8 (p2:ae3):C prog Bool:=.of Z call158 func158 [aX8 p2] (fun r=>.t (tB r)) (
 .I ((((decide (p2.Count<0))||(decide (p2.Count>16)))||(decide (p2.bG7<0)))||(decide (p2.bG7>1))) (.R false) (.I ((!p2.Seen)&&((p2.Count !=0)||p2.aY1)) (.R false) (.R (p2.aY1||(p2.bG7==0)))))
def bo3 (c:ci7)(p2:ae3):C prog Bool:=.of Z call107 func107 [bO1 c,aX8 p2] (fun r=>.t (tB r)) (
 .K (aT2 c) fun v=>.G v (.K (bS8 p2) fun v2=>.R v2) (.R false) fun b2=>.R b2)
def bE4:C prog ci7:=.of Z call108 func108 [] (fun r=>bO1 r) (
 .R (⟨([5000,12000,30000]:List Int)⟩:ci7))
def N2 (x low high:Int):C prog Bool:=.of Z call159 func159 [.t (tI x),.t (tI low),.t (tI high)] (fun r=>.t (tB r)) (
 .R ((decide (x>=low))&&(decide (x<=high))))
def aY6 (g:ai3):C prog Bool:=.of Z call109 func109 [bm2 g] (fun r=>.t (tB r)) (
 .K (N2 g.Over 0 5) fun v=>.G v (.K (N2 g.Calm 0 1000) fun v2=>.R v2) (.R false) fun b2=>.R ((b2&&((g.Over==0)||(g.Calm==0)))&&(g.Off||(decide (g.Over<5)))))
def bs6 (t2:Int):C prog Bool:=.of Z call160 func160 [.t (tI t2)] (fun r=>.t (tB r)) (
 .R ((decide (t2>=0))&&(decide (t2<=1099511627776))))
def bj9 (q:ad9):C prog Bool:=.of Z call110 func110 [aT3 q] (fun r=>.t (tB r)) (
 .K (aY8 q.Question) fun v=>.G v (.K (bs6 q.ap5) fun v2=>.R v2) (.R false) fun b2=>.R (((((b2&&(q.Open||(q.ap5==0)))&&(decide (q.T6>=0)))&&(decide (q.T6<=7)))&&(q.Off==(q.T6==7)))&&(!(q.Open&&q.Off))))
def bK8 (t2:Int):C prog Bool:=.of Z call161 func161 [.t (tI t2)] (fun r=>.t (tB r)) (
 .R ((decide (t2>=0))&&(decide (t2<=1099511627776))))
def bo7 (s:ao8):C prog Bool:=.of Z call111 func111 [bm3 s] (fun r=>.t (tB r)) (
 .G (((decide (s.bt6>=0))&&(decide (s.bt6<=3)))&&(s.W4==(s.bt6==0))) (.K (bK8 s.aR0) fun v=>.R v) (.R false) fun b2=>.R b2)
def bV8 (u:af9):C prog Bool:=.of Z call57 func57 [ca2 u] (fun r=>.t (tB r)) (
 .J0 1 (fun(t:Bool)=>[.t 49 (.t (tB t))]) (.D [] []<| .K (ad0 u.A0) fun v=>.Sp (!v) (.Sp true (.Sp true (.Sp true (.Sp true (.Sp true (.R true) .N) .N) .N) .N) .N) (.K (bw6 u.ab7 u.B3) fun v2=>.Sp (!v2) (.Sp true (.Sp true (.Sp true (.Sp true (.R true) .N) .N) .N) .N) (.K (K1 u.j3) fun v3=>.Sp (!v3) (.Sp true (.Sp true (.Sp true (.R true) .N) .N) .N) (.K (aq1 u.j3.A1 u.w9) fun v4=>.Sp (!v4) (.Sp true (.Sp true (.R true) .N) .N) (.K (aH1 u.I2) fun v5=>.Sp (!v5) (.Sp true (.R true) .N) (.K (bt0) fun v6=>.K (bx7 v6 u.Q8) fun v7=>.Sp (!v7) (.R true) (.K (bE4) fun v8=>.K (bo3 v8 u.M9) fun v9=>.R (!v9)))))))) fun v10=>.I v10 (.R false) (.K (aY6 u.M3) fun v11=>.G (!v11) (.R true) (.K (bj9 u.K4) fun v12=>.R (!v12)) fun b2=>.G b2 (.R true) (.K (bo7 u.M5) fun v13=>.R (!v13)) fun b3=>.G b3 (.R true) (.K (aa2 u.D9) fun v14=>.R (!v14)) fun b4=>.I ((b4||(decide ((u.D9.L.length:Int)<7)))||(!u.D9.ay1)) (.R false) (.R (((((decide (u.Time>=0))&&(decide (u.Time<=549755813888)))&&((dq1 u.Time 10000)==0))&&(u.j3.j9.V5==u.Time))&&(decide ((G8 (G8 (G8 u.I2.H6 u.Q8.H6) u.M5.aR0) u.K4.ap5)<=u.Time))))))
def aS8 (s:List aa6)(f2:Cl prog aa6 Bool (fun x=>[bO0 x]) (fun r=>.t (tB r)))(i:Int)(_:Unit):M prog Int (Fl Unit Int):=
 .O (.ix aH6 s i) fun x=>.K (f2.at x) fun v=>.I v (.R (.ret i)) (.R (.next ()))
def bc9 (s:List aa6)(f2:Cl prog aa6 Bool (fun x=>[bO0 x]) (fun r=>.t (tB r))):C prog Int:=.of Z call162 func162 [.t (tS aH6 s),.fz f2.n f2.cs] (fun r=>.t (tI r)) (
 M.QN (s.length:Int) 2 8 (fun(_:Unit)=>[]) 0 (.one .rt) (aS8 s f2) () (fun _=>.R (-1)) (fun r2=>.R r2))
def aE2 (s:List aa6)(f2:Cl prog aa6 Bool (fun x=>[bO0 x]) (fun r=>.t (tB r))):C prog Bool:=.of Z call112 func112 [.t (tS aH6 s),.fz f2.n f2.cs] (fun r=>.t (tB r)) (
 .K (bc9 s f2) fun v=>.R (decide (v>=0)))
def cm2 (b2:aa6):C prog Bool:=.of Z call113 func113 [bO0 b2] (fun r=>.t (tB r)) (
 .R ((((((((decide (b2.ca5<0))||(decide (b2.ca5>1099511627776)))||(decide (b2.To<0)))||(decide (b2.To>1099511627776)))||(decide (b2.az4<0)))||(decide (b2.az4>7)))||(decide (b2.Value<(-1000000))))||(decide (b2.Value>1000000))))
def bI9 (k:List aa6):C prog Bool:=.of Z call58 func58 [.t (tS aH6 k)] (fun r=>.t (tB r)) (
 .G (decide ((k.length:Int)<=100)) (.K (aE2 k (.of (fun z_=>cm2 z_) 113 [])) fun v=>.R (!v)) (.R false) fun b2=>.R b2)
def bZ1 (d:I9):C prog (Int×Int×Int×Int×Int):=.of Z call114 func114 [bd7 d] (fun r=>dF0 r) (
 .R (d.At,d.L5,d.bt5,d.ca6,d.ca8))
def cA5:C prog (J1×J1×J1×J1×J1):=.of Z call115 func115 [] (fun r=>ca3 r) (
 .R ((⟨(ByteArray.mk #[97,116]),0,1099511627776⟩:J1),(⟨(ByteArray.mk #[112,101,100,97,108]),0,1000⟩:J1),(⟨(ByteArray.mk #[98,114,97,107,101]),0,1000⟩:J1),(⟨(ByteArray.mk #[103,101,97,114]),0,6⟩:J1),(⟨(ByteArray.mk #[108,111,97,100]),(-500),2000⟩:J1)))
def aw9 (v2:(Int×Int×Int×Int×Int))(v3:(J1×J1×J1×J1×J1))(v4:Int):M prog Bool (Int⊕(Int⊕Bool)):=
 .I (decide (v4<5)) (.O (.arr (fun y=>.agg [.t (.v (.string y.word)),.t (tI y.low),.t (tI y.high)]) ([v3.1,v3.2.1,v3.2.2.1,v3.2.2.2.1,v3.2.2.2.2]:List J1) v4) fun x4=>.J0 1 (fun(t:Bool)=>[.t 63 (.t (tB t)),.x 7,.d 7]) (.D [] []<| .O (.ax aI7 ([v2.1,v2.2.1,v2.2.2.1,v2.2.2.2.1,v2.2.2.2.2]:List Int) v4) fun x5=>.Sp (decide (x5<x4.low)) (.R true) (.O (.ax aI7 ([v2.1,v2.2.1,v2.2.2.1,v2.2.2.2.1,v2.2.2.2.2]:List Int) v4) fun x6=>.R (decide (x6>x4.high)))) fun v5=>.I v5 (.R (.inr (.inr false))) (.R (.inl (j5 (v4+1))))) (.R (.inr (.inl v4)))
def aR4 (l:List I9)(i:Int)(_:Unit):M prog Bool (Fl Unit Bool):=
 .O (.ix aD4 l i) fun x2=>.J0 1 (fun(t:Bool)=>[.t 42 (.t (tB t))]) (.D [] []<| .Sp (decide (i>0)) (.O (.ix aD4 l (j5 (i-1))) fun x3=>.R (decide (x2.At<=x3.At))) (.R false)) fun v=>.I v (.R (.ret false)) (.K (bZ1 x2) fun v2=>.K (cA5) fun v3=>.Z (.fb 5)<| .L (fun(t:Int)=>[.t 46 (.t (tI t)),.x 4,.d 4]) 2 (.one .rt) (aw9 v2 v3) 0 (fun _=>.R (.next ())) (fun r2=>.R (.ret r2)))
def aA7 (l:List I9):C prog Bool:=.of Z call59 func59 [.t (tS aD4 l)] (fun r=>.t (tB r)) (
 .G ((decide ((l.length:Int)<1))||(decide ((l.length:Int)>200))) (.R true) (.O (.ix aD4 l 0) fun x=>.R (x.At !=0)) fun b2=>.I b2 (.R false) (M.QN (l.length:Int) 2 25 (fun(_:Unit)=>[]) 0 (.one .rt) (aR4 l) () (fun _=>.R true) (fun r3=>.R r3)))
def cv4 (d:I9):C prog Bool:=.of Z call65 func65 [bd7 d] (fun r=>.t (tB r)) (
 .G ((decide (d.At>=0))&&(decide (d.At<=1099511627776))) (.K (aA7 ([({d with At:=0}:I9)]:List I9)) fun v=>.R v) (.R false) fun b2=>.R b2)
def cf5 (o8:Int):C prog (Int×Int):=.of Z call118 func118 [.t (tI o8)] (fun r=>.P4 [.t (tI r.1),.t (tI r.2)]) (
 .I ((decide (o8<0))||(decide (o8>524288))) (.R (0,2)) (.R (j5 (cW7 (j5 (o8*60000000)) 1509949440),0)))
def ag4 (s:j6)(bq2 _:Int)(x:aa6)(_:Unit):M prog (Int×Bool) (Fl Unit (Int×Bool)):=
 .W (.hx 0)<| .J0 1 (fun(t:Bool)=>[.t 38 (.t (tB t))]) (.D [] []<| .Sp (x.az4==bq2) (.Sp (decide (x.ca5<=s.t)) (.R (decide (s.t<x.To))) (.R false)) (.Sp false .N (.R false))) fun v=>.I v (.R (.ret (x.Value,true))) (.R (.next ()))
def V8 (s:j6)(bq2:Int):C prog (Int×Bool):=.of Z call186 func186 [.el (bl4 s),.t (tI bq2)] (fun r=>.P4 [.t (tI r.1),.t (tB r.2)]) (
 M.Q aH6 s.k 2 13 (fun(_:Unit)=>[]) 0 (.one .rt) (ag4 s bq2) () (fun _=>.R (0,false)) (fun r2=>.R r2))
def bK2 (p2:Z8):C prog Int:=.of Z call246 func246 [aX9 p2] (fun r=>.t (tI r)) (
 .I ((p2.Path.length:Int)==0) (.R 1000) (.O (.ix aI7 p2.Path 0) fun x=>.R x))
def D3 (s:j6)(bq2:Int):C prog Int:=.of Z call170 func170 [.el (bl4 s),.t (tI bq2)] (fun r=>.t (tI r)) (
 .K (V8 s bq2) fun r2=>.I r2.2 (.R r2.1) (.I (bq2==0) (.R s.d.L5) (.I (bq2==1) (.R (j5 (cW7 s.d.L5 2))) (.I (bq2==2) (.R s.u.B3.N0) (.I (bq2==3) (.R 20) (.I (bq2==4) (.R (F7 (j5 (20+(j5 (cW7 s.t 1000000)))) 90)) (.K (bK2 s.u.B3) fun v=>.I (decide (v<1000)) (.R 800) (.R 100))))))))
def D0 (x low high:Int):C prog Int:=.of Z call176 func176 [.t (tI x),.t (tI low),.t (tI high)] (fun r=>.t (tI r)) (
 .R (F7 (G8 x low) high))
def bn5 (x low high:Int):C prog Bool:=.of Z call245 func245 [.t (tI x),.t (tI low),.t (tI high)] (fun r=>.t (tB r)) (
 .R ((decide (x<low))||(decide (x>high))))
def aU0 (s:j6):C prog (Bool×Bool×Bool×Bool×Bool×Bool×Bool):=.of Z call169 func169 [.el (bl4 s)] (fun r=>dq8 r) (
 .K (D3 s 0) fun v=>.K (D0 v 0 1000) fun v2=>.K (D3 s 1) fun v3=>.K (D0 v3 0 500) fun v4=>.D [] []<| .K (D3 s 2) fun v5=>.K (bn5 v5 50 1013) fun v6=>.K (D3 s 3) fun v7=>.K (bn5 v7 (-40) 150) fun v8=>.K (D3 s 4) fun v9=>.K (bn5 v9 (-40) 150) fun v10=>.K (D3 s 5) fun v11=>.K (bn5 v11 50 900) fun v12=>.R (decide ((G8 (j5 (v2-(j5 (2*v4)))) (j5 ((j5 (2*v4))-v2)))>50),v6,v8,v10,v12,s.u.M3.Off,s.u.K4.Off))
def bL9 (old:C2):C prog C2:=.of Z call171 func171 [aB5 old] (fun r=>.fz 247 [aR5 r]) (
 .Z (.fb 1)<| .R old)
def aF8 (l:List A5)(i:Int)(c:y9)(E5:Int)(frame:List Int):CG prog (List A5):=.of Z call248 func248 [.pe 1000000 (Int.toNat i) 7 0,aP0 c,.t (tI E5),.t (tS aI7 frame)] [(1000000,.rs 197 7 l G4)] (fun _=>.P4 []) (fun r=>[(1000000,.rs 197 7 r G4)]) [] (
 .A G4 l i fun x2=>.W (.ly 0)<| .K (Y4 x2 1) fun v=>.J0 0 (fun(t:List A5)=>[.x 8,.x 9,.b 1000000 (.rs 197 7 t G4)]) (.I (!v) (.W (.ly 0)<| .U (.st G4 l i ({x2 with A8:=F7 255 (j5 (x2.A8+1))}:A5) 0) fun l2=>.W (.ly 0)<| .K (Y4 ({x2 with A8:=F7 255 (j5 (x2.A8+1))}:A5) 4) fun v2=>.I (!v2) (.K (O4 frame) fun v3=>.U (.st G4 l2 i ({x2 with A8:=F7 255 (j5 (x2.A8+1)),Frame:=v3}:A5) 0) fun l3=>.R l3) (.R l2)) (.R l)) fun f2=>.A G4 f2 i fun x3=>.W (.ly 0)<| .U (.st G4 f2 i ({x3 with D8:=R9 .i64 x3.D8 11}:A5) 0) fun l4=>.U (.st G4 l4 i ({x3 with D8:=R9 .i64 x3.D8 11,Clean:=0}:A5) 0) fun l5=>.W (.ly 0)<| .I (x3.H6==E5) (.R l5) (.U (.st G4 l5 i ({x3 with D8:=R9 .i64 x3.D8 11,Clean:=0,H6:=E5}:A5) 0) fun l6=>.W (.ly 0)<| .U (.st G4 l6 i (⟨R9 .i64 x3.D8 11,x3.Count,F7 2 (j5 (x3.J7+1)),0,x3.A8,x3.Frame,E5⟩:A5) 0) fun l7=>.W (.ly 0)<| .I (decide ((F7 2 (j5 (x3.J7+1)))<2)) (.R l7) (.W (.ly 0)<| .U (.st G4 l7 i (⟨R9 .i64 (R9 .i64 x3.D8 11) 4,x3.Count,F7 2 (j5 (x3.J7+1)),0,x3.A8,x3.Frame,E5⟩:A5) 0) fun l8=>.I c.ca7 (.W (.ly 0)<| .U (.st G4 l8 i (⟨R9 .i64 (R9 .i64 (R9 .i64 x3.D8 11) 4) 16,x3.Count,F7 2 (j5 (x3.J7+1)),0,x3.A8,x3.Frame,E5⟩:A5) 0) fun l9=>.R l9) (.R l8))))
def aq4 (f2:C2)(i:Int)(bad:Bool)(l:List Int):C prog (C2×Int):=.of Z call172 func172 [aB5 f2,.t (tI i),.t (tB bad),.t (tS aI7 l)] (fun r=>.P4 [aB5 r.1,.t (tI r.2)]) (
 .K (aa2 f2) fun v=>.I (!v) (.R ((⟨([]:List y9),([]:List A5),0,false⟩:C2),1)) (.I ((decide (i<0))||(decide (i>=(f2.L.length:Int)))) (.R ((⟨([]:List y9),([]:List A5),0,false⟩:C2),2)) (.I (!f2.ay1) (.R ((⟨([]:List y9),([]:List A5),0,false⟩:C2),6)) (.O (.ix H0 f2.T9 i) fun x=>.K (as7 x l) fun v2=>.I (!v2) (.R ((⟨([]:List y9),([]:List A5),0,false⟩:C2),1)) (.KG (am0 f2) [2352] fun v3=>.D [] []<| .O (.ix G4 v3.L i) fun x2=>.O (.ix H0 v3.T9 i) fun x3=>.J0 0 (fun(t:List A5)=>[.x 29,.x 34,.x 44,.x 45,.x 46,.x 48,.x 49,.b 2352 (.rs 197 7 t G4)]) (.I bad (.D [] []<| .W (.ly 1)<| .U (.st G4 v3.L i ({x2 with Count:=F7 x3.aW6 (j5 ((G8 x2.Count 0)+1))}:A5) 1) fun l2=>.R l2) (.D [] []<| .W (.ly 1)<| .U (.st G4 v3.L i ({x2 with Count:=G8 (j5 (0-x3.Pass)) (j5 ((F7 x2.Count 0)-1))}:A5) 1) fun l3=>.R l3)) fun f3=>.A G4 f3 i fun x4=>.W (.ly 0)<| .I (x4.Count==x3.aW6) (.KG (aF8 f3 i x3 v3.aI1 l) [] fun v4=>.R (({v3 with L:=v4}:C2),0)) (.I (x4.Count==(j5 (0-x3.Pass))) (.W (.ly 0)<| .U (.st G4 f3 i ({x4 with D8:=R9 .i64 x4.D8 8}:A5) 0) fun l4=>.W (.ly 0)<| .U (.st G4 l4 i ({x4 with D8:=aP1 .i64 (R9 .i64 x4.D8 8) 1}:A5) 0) fun l5=>.R (({v3 with L:=l5}:C2),0)) (.R (({v3 with L:=f3}:C2),0))))))))
def cx8 (s:ByteArray)(i:Int)(_:Unit):M prog Bool (Fl Unit Bool):=
 .O (.str s i) fun b2=>.G (decide (b2<33)) (.R true) (.O (.str s i) fun b3=>.R (decide (b3>126))) fun b4=>.I b4 (.R (.ret false)) (.R (.next ()))
def cZ4 (s:ByteArray):C prog Bool:=.of Z call381 func381 [.t (.v (.string s))] (fun r=>.t (tB r)) (
 .I ((decide ((s.size:Int)<1))||(decide ((s.size:Int)>24))) (.R false) (M.QN (s.size:Int) 2 14 (fun(_:Unit)=>[]) 0 (.one .rt) (cx8 s) () (fun _=>.R true) (fun r2=>.R r2)))
def co7 (r2:S1)(bv7 i:Int)(_:Unit):M prog Bool (Fl Unit Bool):=
 .O (.ix aI7 r2.W9 i) fun x=>.G ((decide (x<0))||(decide (x>=bv7))) (.R true) (.G (decide (i>0)) (.O (.ix aI7 r2.W9 (j5 (i-1))) fun x2=>.R (decide (x<=x2))) (.R false) fun b2=>.R b2) fun b3=>.I b3 (.R (.ret false)) (.R (.next ()))
def cT7 (r2:S1)(bv7:Int):C prog Bool:=.of Z call324 func324 [cz4 r2,.t (tI bv7)] (fun r=>.t (tB r)) (
 .K (cZ4 r2.Name) fun v=>.I (((((((((!v)||(decide (r2.da4<0)))||(decide (r2.da4>15)))||(decide (r2.E7<0)))||(decide (r2.E7>15)))||(decide ((r2.W9.length:Int)<1)))||(decide ((r2.W9.length:Int)>16)))||(decide (r2.ci5<(-5000))))||(decide (r2.ci5>10000))) (.R false) (M.QN (r2.W9.length:Int) 2 56 (fun(_:Unit)=>[.x 7,.x 53]) 0 (.one .rt) (co7 r2 bv7) () (fun _=>.R true) (fun r3=>.R r3)))
def co6 (bv7 _:Int)(x:S1)(f2:List (ByteArray×Bool)):M prog Bool (Fl (List (ByteArray×Bool)) Bool):=
 .W (.hx 0)<| .K (cT7 x bv7) fun v=>.G (!v) (.R true) (.Ml eP6 f2 x.Name<| .R (cR5 false f2 x.Name)) fun b2=>.I b2 (.R (.ret false)) (.Mu eP6 f2 x.Name true<| .R (.next (dn3 f2 x.Name true)))
def aK0 (l:List S1)(bv7:Int):C prog Bool:=.of Z call252 func252 [.t (tS T3 l),.t (tI bv7)] (fun r=>.t (tB r)) (
 .I (((decide (bv7<0))||(decide (bv7>64)))||(decide ((l.length:Int)>64))) (.R false) (.Mm 2152<|M.Q T3 l 2 22 (fun(t:List (ByteArray×Bool))=>[.x 19,.b 2152 (.mp (List.map (ent (fun s:ByteArray=>.string s) (fun v:Bool=>.bool v)) t))]) 0 (.one .rt) (co6 bv7) ([]:List (ByteArray×Bool)) (fun _=>.R true) (fun r2=>.R r2)))
def bx2 (l:List S1)(f2:C2):C prog Bool:=.of Z call249 func249 [.t (tS T3 l),aB5 f2] (fun r=>.t (tB r)) (
 .K (aa2 f2) fun v=>.G v (.K (aK0 l (f2.L.length:Int)) fun v2=>.R v2) (.R false) fun b2=>.R b2)
def aE1 (holds:Cl prog Int Bool (fun x=>[.t (tI x)]) (fun r=>.t (tB r)))(_ x:Int)(out:List Int):M prog (List Int) (Fl (List Int) Empty):=
 .W (.hx 0)<| .K (holds.at x) fun v=>.I v (.U (.ap aI7 out ([x]:List Int) 2168) fun l=>.R (.next l)) (.R (.next out))
def aO9 (r2:S1)(holds:Cl prog Int Bool (fun x=>[.t (tI x)]) (fun r=>.t (tB r))):C prog (List Int):=.of Z call322 func322 [cz4 r2,.fz holds.n holds.cs] (fun r=>.t (tS aI7 r)) (
 .Z (.np 5 2168 3 1 [])<|M.Q aI7 r2.W9 2 11 (fun(t:List Int)=>[.t 5 (.own 2168),.x 2,.x 8,.b 2168 (.rs 3 1 t aI7),.d 2]) 0 (.e) (aE1 holds) ([]:List Int) (fun do1=>.R do1) (fun t=>t.elim))
def az2 (l:List S1)(holds:Cl prog Int Bool (fun x=>[.t (tI x)]) (fun r=>.t (tB r)))(i:Int)(out:List Q7):M prog (List Q7) (Fl (List Q7) Empty):=
 .O (.ix T3 l i) fun x=>.K (aO9 x holds) fun v=>.I (decide ((v.length:Int)>0)) (.U (.ap T0 out ([(⟨i,v⟩:Q7)]:List Q7) 2216) fun l2=>.R (.next l2)) (.R (.next out))
def aK1 (l:List S1)(holds:Cl prog Int Bool (fun x=>[.t (tI x)]) (fun r=>.t (tB r))):C prog (List Q7):=.of Z call250 func250 [.t (tS T3 l),.fz holds.n holds.cs] (fun r=>.t (tS T0 r)) (
 .Z (.np 5 2216 31 2 [])<|M.QN (l.length:Int) 2 11 (fun(t:List Q7)=>[.t 5 (.own 2216),.b 2216 (.rs 31 2 t T0)]) 0 (.e) (az2 l holds) ([]:List Q7) (fun do1=>.R do1) (fun t=>t.elim))
def bq1 (f2:C2)(but:Int):C prog (Int×C2):=.of Z call251 func251 [aB5 f2,.t (tI but)] (fun r=>.fz 323 [aI7 r.1,aR5 r.2]) (
 .Z (.fb 3)<| .Z (.fb 2)<| .R (but,f2))
def aG5 (i c:Int)(c2:C2):C prog Bool:=.of Z call323 func323 [.t (tI i),.el (aI7 c),.el (aR5 c2)] (fun r=>.t (tB r)) (
 .G (i !=c) (.O (.ix G4 c2.L i) fun x=>.R ((U3 .i64 x.D8 5) !=0)) (.R false) fun b2=>.R b2)
def aO8 (l:List S1)(f2:C2):C prog (List Q7×Int):=.of Z call173 func173 [.t (tS T3 l),aB5 f2] (fun r=>.P4 [.t (tS T0 r.1),.t (tI r.2)]) (
 .K (bx2 l f2) fun v=>.I (!v) (.R (([]:List Q7),1)) (.K (bq1 f2 (-1)) fun v2=>.K (aK1 l (.of (fun z_=>aG5 z_ v2.1 v2.2) 323 [aI7 v2.1,aR5 v2.2])) fun v3=>.R (v3,0)))
def aQ6 (s:List Q7)(f2:Cl prog Q7 Bool (fun x=>[bV2 x]) (fun r=>.t (tB r)))(i:Int)(_:Unit):M prog Int (Fl Unit Int):=
 .O (.ix T0 s i) fun x=>.K (f2.at x) fun v=>.I v (.R (.ret i)) (.R (.next ()))
def aZ0 (s:List Q7)(f2:Cl prog Q7 Bool (fun x=>[bV2 x]) (fun r=>.t (tB r))):C prog Int:=.of Z call30 func30 [.t (tS T0 s),.fz f2.n f2.cs] (fun r=>.t (tI r)) (
 M.QN (s.length:Int) 2 8 (fun(_:Unit)=>[]) 0 (.one .rt) (aQ6 s f2) () (fun _=>.R (-1)) (fun r2=>.R r2))
def aA1 (s:List Q7)(f2:Cl prog Q7 Bool (fun x=>[bV2 x]) (fun r=>.t (tB r))):C prog Bool:=.of Z call6 func6 [.t (tS T0 s),.fz f2.n f2.cs] (fun r=>.t (tB r)) (
 .K (aZ0 s f2) fun v=>.R (decide (v>=0)))
def bk1 (x:Q7)(c:List S1):C prog Bool:=.of Z call253 func253 [bV2 x,.el ((cY6 T3) c)] (fun r=>.t (tB r)) (
 .R ((decide (x.Q6<0))||(decide (x.Q6>=(c.length:Int)))))
def bg4 (l:List S1)(group _:Int)(x:Q7)(s:Int×Int):M prog (Int×Int) (Fl (Int×Int) Empty):=
 .W (.hx 0)<| .O (.ix T3 l x.Q6) fun x2=>.I ((x2.da4 !=group)||(decide (x2.E7<s.2))) (.R (.next (s.1,s.2))) (.I (decide (x2.E7>s.2)) (.D [] []<| .R (.next (F7 x2.ci5 x2.ci5,x2.E7))) (.R (.next (F7 s.1 x2.ci5,s.2))))
def bx1 (l:List S1)(a:List Q7)(group other:Int):C prog (Int×Int):=.of Z call175 func175 [.t (tS T3 l),.t (tS T0 a),.t (tI group),.t (tI other)] (fun r=>.P4 [.t (tI r.1),.t (tI r.2)]) (
 .K (aK0 l 64) fun v=>.Z (.fb 4)<| .G ((!v)||(decide ((a.length:Int)>64))) (.R true) (.K (aA1 a (.of (fun z_=>bk1 z_ l) 253 [(cY6 T3) l])) fun v2=>.R v2) fun b2=>.I b2 (.R (0,1)) (.I ((decide (group<0))||(decide (group>15))) (.R (0,2)) (M.Q T0 a 2 37 (fun(t:Int×Int)=>[.t 10 (.t (tI t.1)),.t 11 (.t (tI t.2))]) 0 (.e) (bg4 l group) (other,(-1)) (fun s2=>.R (s2.1,0)) (fun t=>t.elim))))
def as5 (n2 other:Int)(c:List S1)(c2:j6):CG prog Int:=.of Z call174 func174 [.t (tI n2),.t (tI other),.el ((cY6 T3) c),.ptr 1000000 0] [(1000000,.box [.ptr 1000001 0]),(1000001,.box (aw2 (G9 c2) [(107,.own 1000002),(113,.own 1000003)])),(1000002,.rs 293 7 c2.F3.O3 B7),(1000003,.rs 409 3 c2.A3 u9)] (fun r=>.t (tI r)) (fun _=>[(1000000,.box [.ptr 1000001 0]),(1000001,.box (aw2 (G9 c2) [(107,.own 1000002),(113,.own 1000003)])),(1000002,.rs 293 7 c2.F3.O3 B7),(1000003,.rs 409 3 c2.A3 u9)]) [] (
 .D [] []<| .K (bx1 c c2.Z9 n2 other) fun r2=>.R r2.1)
def be9 (S8:C2)(e2:Int)(c:C2):C prog C2:=.of Z call247 func247 [aB5 S8,.t (tI e2),.el (aR5 c)] (fun r=>aB5 r) (
 .I (e2 !=0) (.R c) (.R S8))
set_option maxHeartbeats 4000000
def aU3 (s:j6)(v:(Bool×Bool×Bool×Bool×Bool×Bool×Bool))(s2:Int×C2):M prog j6 ((Int×C2)⊕((Int×C2)⊕Empty)):=
 .I (decide (s2.1<7)) (.O (.arr (fun y=>.t (tB y)) ([v.1,v.2.1,v.2.2.1,v.2.2.2.1,v.2.2.2.2.1,v.2.2.2.2.2.1,v.2.2.2.2.2.2]:List Bool) s2.1) fun x=>.O (.ix H0 s2.2.T9 s2.1) fun x2=>.Mk aI7 x2.Frame 0 fun l=>.D [] []<| .K (D3 ({s with u:=(⟨s.u.A0,s.u.w9,s.u.j3,s.u.Q8,s.u.M9,s.u.I2,s.u.M3,s.u.K4,s.u.M5,s2.2,s.u.B3,s.u.ab7,s.u.Time⟩:af9)}:j6) 2) fun v2=>.U (.cp aI7 l ([s.o8,v2]:List Int)) fun l2=>.Z (.fr 23)<| .D [] []<| .K (bL9 s2.2) fun v3=>.K (aq4 s2.2 s2.1 x l2) fun r2=>.K (be9 r2.1 r2.2 v3) fun v4=>.R (.inl (j5 (s2.1+1),v4))) (.R (.inr (.inl (s2.1,s2.2))))
def bl2 (s:j6):CG prog j6:=.of Z call119 func119 [.ptr 1000000 0] [(1000000,.box (aw2 (G9 s) [(107,.own 1000001),(113,.own 1000002)])),(1000001,.rs 293 7 s.F3.O3 B7),(1000002,.rs 409 3 s.A3 u9)] (fun _=>.P4 []) (fun r=>[(1000000,.box (aw2 (G9 r) [(107,.own 1000001),(113,.own 1000002)])),(1000001,.rs 293 7 r.F3.O3 B7),(1000002,.rs 409 3 r.A3 u9)]) [] (
 .K (aU0 s) fun v=>.L (fun(t:Int×C2)=>[.t 9 (.t (tI t.1)),.x 0,.x 7,.c 1000000 74 [.t (tS H0 t.2.T9),.t (tS G4 t.2.L),.t (tI t.2.aI1),.t (tB t.2.ay1)]]) 0 (.e) (aU3 s v) (0,s.u.D9) (fun s3=>.K (aH4) fun v5=>.D [] [(13,1000000)]<| .K (aO8 v5 s3.2) fun r3=>.Z (.fb 5)<| .D [] []<| .KG (as5 0 10000 v5 ({s with u:=(⟨s.u.A0,s.u.w9,s.u.j3,s.u.Q8,s.u.M9,s.u.I2,s.u.M3,s.u.K4,s.u.M5,s3.2,s.u.B3,s.u.ab7,s.u.Time⟩:af9),Z9:=r3.1}:j6)) [] fun v6=>.D [] []<| .K (D3 ({s with u:=(⟨s.u.A0,s.u.w9,s.u.j3,s.u.Q8,s.u.M9,s.u.I2,s.u.M3,s.u.K4,s.u.M5,s3.2,s.u.B3,s.u.ab7,s.u.Time⟩:af9),Z9:=r3.1,au4:=v6}:j6) 2) fun v7=>.KG (as5 1 v7 v5 ({s with u:=(⟨s.u.A0,s.u.w9,s.u.j3,s.u.Q8,s.u.M9,s.u.I2,s.u.M3,s.u.K4,s.u.M5,s3.2,s.u.B3,s.u.ab7,s.u.Time⟩:af9),Z9:=r3.1,au4:=v6}:j6)) [] fun v8=>.K (D0 v8 50 1013) fun v9=>.D [] []<| .K (D3 ({s with u:=(⟨s.u.A0,s.u.w9,s.u.j3,s.u.Q8,s.u.M9,s.u.I2,s.u.M3,s.u.K4,s.u.M5,s3.2,s.u.B3,s.u.ab7,s.u.Time⟩:af9),Z9:=r3.1,au4:=v6,C5:=v9}:j6) 3) fun v10=>.KG (as5 2 v10 v5 ({s with u:=(⟨s.u.A0,s.u.w9,s.u.j3,s.u.Q8,s.u.M9,s.u.I2,s.u.M3,s.u.K4,s.u.M5,s3.2,s.u.B3,s.u.ab7,s.u.Time⟩:af9),Z9:=r3.1,au4:=v6,C5:=v9}:j6)) [] fun v11=>.K (D0 v11 (-40) 150) fun v12=>.D [] []<| .K (D3 ({s with u:=(⟨s.u.A0,s.u.w9,s.u.j3,s.u.Q8,s.u.M9,s.u.I2,s.u.M3,s.u.K4,s.u.M5,s3.2,s.u.B3,s.u.ab7,s.u.Time⟩:af9),Z9:=r3.1,au4:=v6,C5:=v9,aQ7:=v12}:j6) 4) fun v13=>.KG (as5 3 v13 v5 ({s with u:=(⟨s.u.A0,s.u.w9,s.u.j3,s.u.Q8,s.u.M9,s.u.I2,s.u.M3,s.u.K4,s.u.M5,s3.2,s.u.B3,s.u.ab7,s.u.Time⟩:af9),Z9:=r3.1,au4:=v6,C5:=v9,aQ7:=v12}:j6)) [] fun v14=>.K (D0 v14 (-40) 150) fun v15=>.D [] []<| .K (D3 ({s with u:=(⟨s.u.A0,s.u.w9,s.u.j3,s.u.Q8,s.u.M9,s.u.I2,s.u.M3,s.u.K4,s.u.M5,s3.2,s.u.B3,s.u.ab7,s.u.Time⟩:af9),Z9:=r3.1,au4:=v6,C5:=v9,aQ7:=v12,D6:=v15}:j6) 5) fun v16=>.KG (as5 4 v16 v5 ({s with u:=(⟨s.u.A0,s.u.w9,s.u.j3,s.u.Q8,s.u.M9,s.u.I2,s.u.M3,s.u.K4,s.u.M5,s3.2,s.u.B3,s.u.ab7,s.u.Time⟩:af9),Z9:=r3.1,au4:=v6,C5:=v9,aQ7:=v12,D6:=v15}:j6)) [] fun v17=>.K (D0 v17 0 20000) fun v18=>.R ({s with u:=(⟨s.u.A0,s.u.w9,s.u.j3,s.u.Q8,s.u.M9,s.u.I2,s.u.M3,s.u.K4,s.u.M5,s3.2,s.u.B3,s.u.ab7,s.u.Time⟩:af9),Z9:=r3.1,au4:=v6,C5:=v9,aQ7:=v12,D6:=v15,aJ8:=v18}:j6)) (fun t=>t.elim))
def bi9 (s:j6):C prog j1:=.of Z call177 func177 [.el (bl4 s)] (fun r=>H2 r) (
 .R (⟨9,1,s.au4,15⟩:j1))
def ac4 (s:List j1)(f2:Cl prog j1 Bool (fun x=>[H2 x]) (fun r=>.t (tB r)))(i:Int)(_:Unit):M prog Int (Fl Unit Int):=
 .O (.ix D4 s i) fun x=>.K (f2.at x) fun v=>.I v (.R (.ret i)) (.R (.next ()))
def V6 (s:List j1)(f2:Cl prog j1 Bool (fun x=>[H2 x]) (fun r=>.t (tB r))):C prog Int:=.of Z call349 func349 [.t (tS D4 s),.fz f2.n f2.cs] (fun r=>.t (tI r)) (
 M.QN (s.length:Int) 2 8 (fun(_:Unit)=>[]) 0 (.one .rt) (ac4 s f2) () (fun _=>.R (-1)) (fun r2=>.R r2))
def E4 (s:List j1)(f2:Cl prog j1 Bool (fun x=>[H2 x]) (fun r=>.t (tB r))):C prog Bool:=.of Z call264 func264 [.t (tS D4 s),.fz f2.n f2.cs] (fun r=>.t (tB r)) (
 .K (V6 s f2) fun v=>.R (decide (v>=0)))
def P6 (t2:Int):C prog Bool:=.of Z call350 func350 [.t (tI t2)] (fun r=>.t (tB r)) (
 .R ((decide (t2>=(-5000)))&&(decide (t2<=10000))))
def S9 (r2:j1):C prog Bool:=.of Z call266 func266 [H2 r2] (fun r=>.t (tB r)) (
 .G ((((decide (r2.N7<0))||(decide (r2.N7>15)))||(decide (r2.E7<0)))||(decide (r2.E7>15))) (.R true) (.K (P6 r2.o9) fun v=>.R (!v)) fun b2=>.I b2 (.R false) (.R ((r2.Kind==1)||((decide (r2.N7<=1))&&((r2.Kind==2)||(r2.Kind==3))))))
def ah9 (r2:j1):C prog Bool:=.of Z call325 func325 [H2 r2] (fun r=>.t (tB r)) (
 .K (S9 r2) fun v=>.R (!v))
def av8 (i:X5)(B8:Int):C prog Bool:=.of Z call254 func254 [da0 i,.t (tI B8)] (fun r=>.t (tB r)) (
 .K (J8 B8 1 8) fun v=>.I (((!v)||((i.Y1.length:Int) !=B8))||(decide ((i.Requests.length:Int)>30))) (.R false) (.K (J8 i.D7 0 12000) fun v2=>.G v2 (.K (J8 i.N0 50 3000) fun v3=>.R v3) (.R false) fun b2=>.G b2 (.K (J8 i.M0 (-40) 150) fun v4=>.R v4) (.R false) fun b3=>.G b3 (.K (J8 i.av3 (-40) 150) fun v5=>.R v5) (.R false) fun b4=>.G b4 (.K (J8 i.aI5 0 20000) fun v6=>.R v6) (.R false) fun b5=>.G b5 (.K (J8 i.Lambda 0 20000) fun v7=>.R v7) (.R false) fun b6=>.G b6 (.K (ag3 i.Y1 0 4095) fun v8=>.R v8) (.R false) fun b7=>.G b7 (.K (E4 i.Requests (.of (fun z_=>ah9 z_) 325 [])) fun v9=>.R (!v9)) (.R false) fun b8=>.R b8))
def ak0 (n2:Int):C prog Bool:=.of Z call262 func262 [.t (tI n2)] (fun r=>.t (tB r)) (
 .R ((decide (n2>=0))&&(decide (n2<=12000))))
def ax3 (D6:Int):C prog Int:=.of Z call330 func330 [.t (tI D6)] (fun r=>.t (tI r)) (
 .I (decide (D6<=(-20))) (.R 1200) (.I (decide (D6>=70)) (.R 800) (.R (j5 (1200-(j5 (cW7 (j5 (400*(j5 (D6+20)))) 90)))))))
def bc7 (o8 D6:Int):C prog Bool:=.of Z call263 func263 [.t (tI o8),.t (tI D6)] (fun r=>.t (tB r)) (
 .K (ax3 D6) fun v=>.R (decide (o8<(j5 (v+300)))))
def ax2 (bg1 o8 D6:Int):C prog Bool:=.of Z call181 func181 [.t (tI bg1),.t (tI o8),.t (tI D6)] (fun r=>.t (tB r)) (
 .G ((decide (bg1>=0))&&(decide (bg1<20))) (.K (ak0 o8) fun v=>.R v) (.R false) fun b2=>.G b2 (.K (bc7 o8 D6) fun v2=>.R v2) (.R false) fun b3=>.R b3)
def aM7 (p2:V1)(first second:Int):C prog (V1×Int):=.of Z call326 func326 [ci1 p2,.t (tI first),.t (tI second)] (fun r=>.P4 [ci1 r.1,.t (tI r.2)]) (
 .K (ax9 p2) fun v=>.I (!v) (.R ((⟨0,0,false⟩:V1),1)) (.K (D0 first 0 1000) fun v2=>.K (D0 second 0 500) fun v3=>.J0 0 (fun(t:Int)=>[.c 11 1 [.t (tI t)]]) (.I (decide ((G8 (j5 (v2-(j5 (2*v3)))) (j5 ((j5 (2*v3))-v2)))>50)) (.R (F7 3 (j5 (p2.aj4+1)))) (.I (!p2.aV9) (.R 0) (.R p2.aj4))) fun f2=>.I (f2==3) (.R ((⟨F7 (F7 v2 (j5 (2*v3))) 200,f2,(f2==3)⟩:V1),0)) (.I (decide ((G8 (j5 (v2-(j5 (2*v3)))) (j5 ((j5 (2*v3))-v2)))>50)) (.R ((⟨F7 (F7 v2 (j5 (2*v3))) p2.Value,f2,(f2==3)⟩:V1),0)) (.R ((⟨v2,f2,(f2==3)⟩:V1),0)))))
def z8 (s:o4)(e2:Int):CG prog o4:=.of Z call327 func327 [.ptr 1000000 0,.t (tI e2)] [(1000000,.box (aw2 (R5 s) [(63,.own 1000001)])),(1000001,.rs 293 7 s.out.O3 B7)] (fun _=>.P4 []) (fun r=>[(1000000,.box (aw2 (R5 r) [(63,.own 1000001)])),(1000001,.rs 293 7 r.out.O3 B7)]) [] (
 .I (s.fail==0) (.R ({s with fail:=e2}:o4)) (.R s))
def ac5 (f2:Cl prog Int Bool (fun x=>[.t (tI x)]) (fun r=>.t (tB r)))(s:Int×Int):M prog Int ((Int×Int)⊕((Int×Int)⊕Empty)):=
 .I (decide (s.1<s.2)) (.K (f2.at (j5 (G3 .u64 (ba6.wrap (j5 (s.1+s.2))) 1))) fun v=>.I (!v) (.R (.inl (j5 ((j5 (G3 .u64 (ba6.wrap (j5 (s.1+s.2))) 1))+1),s.2))) (.R (.inl (s.1,j5 (G3 .u64 (ba6.wrap (j5 (s.1+s.2))) 1))))) (.R (.inr (.inl (s.1,s.2))))
def Q3 (n2:Int)(f2:Cl prog Int Bool (fun x=>[.t (tI x)]) (fun r=>.t (tB r))):C prog Int:=.of Z call385 func385 [.t (tI n2),.fz f2.n f2.cs] (fun r=>.t (tI r)) (
 .L (fun(t:Int×Int)=>[.t 5 (.t (tI t.1)),.t 6 (.t (tI t.2))]) 0 (.e) (ac5 f2) (0,n2) (fun s2=>.R s2.1) (fun t=>t.elim))
def af4 (i:Int)(c:List Int)(c2:Int):C prog Bool:=.of Z call457 func457 [.t (tI i),.el ((cY6 aI7) c),.el (aI7 c2)] (fun r=>.t (tB r)) (
 .D [] []<| .O (.ix aI7 c i) fun x=>.R (decide (x>c2)))
def X9 (l:List Int)(x:Int):C prog (Int×Int):=.of Z call435 func435 [.t (tS aI7 l),.t (tI x)] (fun r=>.P4 [.t (tI r.1),.t (tI r.2)]) (
 .D [] []<| .O (.ix aI7 l 0) fun x2=>.O (.ix aI7 l (j5 ((l.length:Int)-1))) fun x3=>.K (D0 x x2 x3) fun v=>.Z (.fb 2)<| .Z (.fb 3)<| .K (Q3 (l.length:Int) (.of (fun z_=>af4 z_ l v) 457 [(cY6 aI7) l,aI7 v])) fun v2=>.D [] []<| .R (F7 (j5 (v2-1)) (j5 ((l.length:Int)-2)),v))
def as9 (x y:Int):C prog (Int×Int):=⟨316,[.t (tK .u64 x),.t (tK .u64 y)],cw6 x y,fun _=>cw6 x y,fun r=>.P4 [.t (tK .u64 r.1),.t (tK .u64 r.2)],true,bo1 x y,fun _ _ h=>h⟩
def V7 (n2:Int):C prog Int:=.of Z call439 func439 [.t (tI n2)] (fun r=>.t (tK .u64 r)) (
 .I (decide (n2<0)) (.R (ba6.wrap ((ba6.wrap (j5 (0-(j5 (n2+1)))))+1))) (.R (ba6.wrap n2)))
def bZ5:Go.Shelf.Ren:=⟨fun|129=>377|n=>n,fun|3=>3|4=>4|5=>5|9=>9|46=>265|53=>413|n=>n,fun|n=>n⟩
open Go.Shelf in
def eb2:Lays.n129 prog bZ5:={
 mixed:=by kernel_rfl,
 f129:=func377.trans (congrArg some (by kernel_rfl)),
 t3:=Tryz.underlying3,
 a3:=Tryz.isAgg3,
 z3:=Tryz.sizeOf3,
 v3:=Tryz.zeroValue3,
 t4:=Tryz.underlying4,
 a4:=Tryz.isAgg4,
 z4:=Tryz.sizeOf4,
 v4:=Tryz.zeroValue4,
 t5:=Tryz.underlying5,
 a5:=Tryz.isAgg5,
 z5:=Tryz.sizeOf5,
 v5:=Tryz.zeroValue5,
 t9:=Tryz.underlying9,
 a9:=Tryz.isAgg9,
 z9:=Tryz.sizeOf9,
 v9:=Tryz.zeroValue9,
 t46:=Tryz.underlying265,
 a46:=Tryz.isAgg265,
 z46:=Tryz.sizeOf265,
 v46:=Tryz.zeroValue265,
 t53:=Tryz.underlying413,
 a53:=Tryz.isAgg413,
 z53:=Tryz.sizeOf413,
 v53:=Tryz.zeroValue413}
def bY7 (x:Int):aM2 prog 377 [.t (tK .u64 x)] (cw3 x) (fun r=>.t (tI r)):=
 eb3 (ρ:=bZ5) eb2 call377 x
def aO6 (x:Int):C prog Int:=⟨377,[.t (tK .u64 x)],cw3 x,fun _=>cw3 x,fun r=>.t (tI r),true,bY7 x,fun _ _ h=>h⟩
def X0 (x:Int):C prog Int:=.of Z call459 func459 [.t (tK .u64 x)] (fun r=>.t (tI r)) (
 .K (aO6 x) fun v=>.R (j5 (64-v)))
def aD9 (q3 q6:Int)(s3:Int×Int):M prog (Int×Int) ((Int×Int)⊕((Int×Int)⊕Empty)):=
 .I ((decide (s3.1>=4294967296))||(decide ((ba6.wrap (s3.1*(U3 .u64 q3 4294967295)))>(ba6.wrap ((ba6.wrap (4294967296*s3.2))+(G3 .u64 q6 32)))))) (.I (decide ((ba6.wrap (s3.2+(G3 .u64 q3 32)))>=4294967296)) (.R (.inr (.inl (ba6.wrap (s3.1-1),ba6.wrap (s3.2+(G3 .u64 q3 32)))))) (.R (.inl (ba6.wrap (s3.1-1),ba6.wrap (s3.2+(G3 .u64 q3 32)))))) (.R (.inr (.inl (s3.1,s3.2))))
def aE0 (q3 q6:Int)(s5:Int×Int):M prog (Int×Int) ((Int×Int)⊕((Int×Int)⊕Empty)):=
 .I ((decide (s5.2>=4294967296))||(decide ((ba6.wrap (s5.2*(U3 .u64 q3 4294967295)))>(ba6.wrap ((ba6.wrap (4294967296*s5.1))+(U3 .u64 q6 4294967295)))))) (.I (decide ((ba6.wrap (s5.1+(G3 .u64 q3 32)))>=4294967296)) (.R (.inr (.inl (ba6.wrap (s5.1+(G3 .u64 q3 32)),ba6.wrap (s5.2-1))))) (.R (.inl (ba6.wrap (s5.1+(G3 .u64 q3 32)),ba6.wrap (s5.2-1))))) (.R (.inr (.inl (s5.1,s5.2))))
def am1 (hi lo y:Int):C prog (Int×Int):=.of Z call440 func440 [.t (tK .u64 hi),.t (tK .u64 lo),.t (tK .u64 y)] (fun r=>.P4 [.t (tK .u64 r.1),.t (tK .u64 r.2)]) (
 .J0 0 (fun(_:Unit)=>[]) (.I (y==0) (M.N) (.R ())) fun _=>.J0 0 (fun(_:Unit)=>[]) (.I (decide (y<=hi)) (M.N) (.R ())) fun _=>.I (hi==0) (.D [] []<| .O (.quo .u64 lo y) fun q=>.O (.rem lo y) fun q2=>.R (q,q2)) (.K (X0 y) fun v=>.O (.shl .u64 y (ba6.wrap v)) fun q3=>.O (.shl .u64 hi (ba6.wrap v)) fun q4=>.O (.shr .u64 lo (ba6.wrap (64-(ba6.wrap v)))) fun q5=>.O (.shl .u64 lo (ba6.wrap v)) fun q6=>.O (.quo .u64 (R9 .u64 q4 q5) (G3 .u64 q3 32)) fun q7=>.L (fun(t:Int×Int)=>[.t 15 (.t (tK .u64 t.1)),.t 16 (.t (tK .u64 t.2))]) 0 (.e) (aD9 q3 q6) (q7,ba6.wrap ((R9 .u64 q4 q5)-(ba6.wrap (q7*(G3 .u64 q3 32))))) (fun s4=>.O (.quo .u64 (ba6.wrap ((ba6.wrap ((ba6.wrap ((R9 .u64 q4 q5)*4294967296))+(G3 .u64 q6 32)))-(ba6.wrap (s4.1*q3)))) (G3 .u64 q3 32)) fun q8=>.L (fun(t:Int×Int)=>[.t 16 (.t (tK .u64 t.1)),.t 18 (.t (tK .u64 t.2))]) 2 (.e) (aE0 q3 q6) (ba6.wrap ((ba6.wrap ((ba6.wrap ((ba6.wrap ((R9 .u64 q4 q5)*4294967296))+(G3 .u64 q6 32)))-(ba6.wrap (s4.1*q3))))-(ba6.wrap (q8*(G3 .u64 q3 32)))),q8) (fun s6=>.O (.shr .u64 (ba6.wrap ((ba6.wrap ((ba6.wrap ((ba6.wrap ((ba6.wrap ((ba6.wrap ((R9 .u64 q4 q5)*4294967296))+(G3 .u64 q6 32)))-(ba6.wrap (s4.1*q3))))*4294967296))+(U3 .u64 q6 4294967295)))-(ba6.wrap (s6.2*q3)))) (ba6.wrap v)) fun q9=>.R (ba6.wrap ((ba6.wrap (s4.1*4294967296))+s6.2),q9)) (fun t=>t.elim)) (fun t=>t.elim)))
def ak9 (r2 c:Int)(negative:Bool)(mode:Int):C prog Bool:=.of Z call441 func441 [.t (tK .u64 r2),.t (tK .u64 c),.t (tB negative),.t (tI mode)] (fun r=>.t (tB r)) (
 .I (mode==1) (.R (negative&&(decide (r2>0)))) (.I (mode==2) (.R ((!negative)&&(decide (r2>0)))) (.I negative (.R (decide (r2>(ba6.wrap (c-r2))))) (.R (decide (r2>=(ba6.wrap (c-r2))))))))
def az5 (a b2 c mode:Int):C prog (Int×Int):=.of Z call409 func409 [.t (tI a),.t (tI b2),.t (tI c),.t (tI mode)] (fun r=>.P4 [.t (tI r.1),.t (tI r.2)]) (
 .I ((decide (mode<1))||(decide (mode>3))) (.R (0,1)) (.I (c==0) (.R (0,10)) (.K (V7 a) fun v=>.K (V7 b2) fun v2=>.K (as9 v v2) fun r2=>.K (V7 c) fun v3=>.I (decide (r2.1>=v3)) (.R (0,9)) (.K (am1 r2.1 r2.2 v3) fun r3=>.I (decide (r3.1>9223372036854775808)) (.R (0,9)) (.K (ak9 r3.2 v3 (!((!((decide (a<0))==(decide (b2<0))))==(decide (c<0)))) mode) fun v4=>.J0 0 (fun(t:Int)=>[.t 14 (.t (tK .u64 t))]) (.I v4 (.R (ba6.wrap (r3.1+1))) (.R r3.1)) fun q=>.I ((!((!((decide (a<0))==(decide (b2<0))))==(decide (c<0))))&&(decide (q<=9223372036854775808))) (.R (j5 ((j5 (0-(j5 (ba6.wrap (q-1)))))-1),0)) (.I ((!(!((!((decide (a<0))==(decide (b2<0))))==(decide (c<0)))))&&(decide (q<9223372036854775808))) (.R (j5 q,0)) (.R (0,9))))))))
def an5 (a b2 mode:Int):C prog (Int×Int):=.of Z call360 func360 [.t (tI a),.t (tI b2),.t (tI mode)] (fun r=>.P4 [.t (tI r.1),.t (tI r.2)]) (
 .K (az5 a 1 b2 mode) fun r2=>.R (r2.1,r2.2))
def W5 (a b2:Int):C prog Int:=.of Z call294 func294 [.t (tI a),.t (tI b2)] (fun r=>.t (tI r)) (
 .K (an5 a b2 1) fun r2=>.R r2.1)
def ac6 (x0 x1 y0 y1 x:Int):C prog Int:=.of Z call437 func437 [.t (tI x0),.t (tI x1),.t (tI y0),.t (tI y1),.t (tI x)] (fun r=>.t (tI r)) (
 .K (W5 (j5 ((j5 (x-x0))*(j5 (y1-y0)))) (j5 (x1-x0))) fun v=>.R (j5 (y0+v)))
def ar7 (j:Int)(c:SMap)(c2 c3:Int):C prog Int:=.of Z call436 func436 [.t (tI j),.el (cP1 c),.el (aI7 c2),.el (aI7 c3)] (fun r=>.t (tI r)) (
 .D [] []<| .O (.ix aI7 c.X c2) fun x=>.O (.ix aI7 c.X (j5 (c2+1))) fun x2=>.O (.ix (cY6 aI7) c.Z c2) fun x3=>.O (.ix aI7 x3 j) fun x4=>.O (.ix (cY6 aI7) c.Z (j5 (c2+1))) fun x5=>.O (.ix aI7 x5 j) fun x6=>.K (ac6 x x2 x4 x6 c3) fun v=>.R v)
def aN5 (m2:SMap)(x y:Int):C prog Int:=.of Z call407 func407 [di7 m2,.t (tI x),.t (tI y)] (fun r=>.t (tI r)) (
 .K (X9 m2.X x) fun r2=>.K (X9 m2.Y y) fun r3=>.Z (.fb 3)<| .Z (.fb 7)<| .Z (.fb 4)<| .D [] []<| .O (.ix aI7 m2.Y r3.1) fun x2=>.O (.ix aI7 m2.Y (j5 (r3.1+1))) fun x3=>.K (ar7 r3.1 m2 r2.1 r2.2) fun v=>.K (ar7 (j5 (r3.1+1)) m2 r2.1 r2.2) fun v2=>.K (ac6 x2 x3 v v2 r3.2) fun v3=>.R v3)
def Y9 (m2:SMap)(x y:Int):C prog Int:=.of Z call352 func352 [di7 m2,.t (tI x),.t (tI y)] (fun r=>.t (tI r)) (
 .K (J6 m2) fun v=>.I (!v) (.R 0) (.K (aN5 m2 x y) fun v2=>.R v2))
def aM8 (t2:o7)(value o8:Int):C prog (Int×Int):=.of Z call328 func328 [T5 t2,.t (tI value),.t (tI o8)] (fun r=>.P4 [.t (tI r.1),.t (tI r.2)]) (
 .K (J6 t2.aI4) fun v=>.I (!v) (.R (0,1)) (.I ((((decide (value<0))||(decide (value>1000)))||(decide (o8<0)))||(decide (o8>12000))) (.R (0,2)) (.K (Y9 t2.aI4 o8 value) fun v2=>.K (D0 v2 (-5000) 10000) fun v3=>.R (v3,0))))
def aq5 (s:F9)(g:aW0)(e2:Int):C prog (F9×Int×Int):=.of Z call382 func382 [by9 s,di6 g,.t (tI e2)] (fun r=>.P4 [by9 r.1,.t (tI r.2.1),.t (tI r.2.2)]) (
 .K (Q9 g) fun v=>.I (((!v)||(decide (s.Sum<(-4398046511104))))||(decide (s.Sum>4398046511104))) (.R ((⟨0⟩:F9),0,1)) (.I ((decide (e2<(-1048576)))||(decide (e2>1048576))) (.R ((⟨0⟩:F9),0,2)) (.J0 0 (fun(t:Int)=>[.x 33,.x 37,.x 42,.b 3 (.box [.t (tI t)])]) (.I (((decide ((G3 .i64 (j5 ((j5 (g.P*e2))+s.Sum)) 10)<=g.bt7))||(decide (e2<=0)))&&((decide ((G3 .i64 (j5 ((j5 (g.P*e2))+s.Sum)) 10)>=g.Low))||(decide (e2>=0)))) (.K (D0 (j5 (s.Sum+(j5 (g.I*e2)))) (-4398046511104) 4398046511104) fun v2=>.R v2) (.R s.Sum)) fun f2=>.D [] []<| .K (D0 (G3 .i64 (j5 ((j5 (g.P*e2))+s.Sum)) 10) g.Low g.bt7) fun v3=>.R ((⟨f2⟩:F9),v3,0))))
def aE9 (s:F9)(g:aW0)(target o8:Int):C prog (F9×Int×Int):=.of Z call329 func329 [by9 s,di6 g,.t (tI target),.t (tI o8)] (fun r=>.P4 [by9 r.1,.t (tI r.2.1),.t (tI r.2.2)]) (
 .K (Q9 g) fun v=>.I (!v) (.R ((⟨0⟩:F9),0,1)) (.K (ak0 target) fun v2=>.G (!v2) (.R true) (.K (ak0 o8) fun v3=>.R (!v3)) fun b2=>.I b2 (.R ((⟨0⟩:F9),0,2)) (.K (aq5 s g (j5 (target-o8))) fun r2=>.R (r2.1,r2.2.1,r2.2.2))))
def ah8 (r2:j1):C prog Bool:=.of Z call423 func423 [H2 r2] (fun r=>.t (tB r)) (
 .K (S9 r2) fun v=>.R (!v))
def av7 (l:List j1)(low high:Int):C prog Int:=.of Z call383 func383 [.t (tS D4 l),.t (tI low),.t (tI high)] (fun r=>.t (tI r)) (
 .K (E4 l (.of (fun z_=>ah8 z_) 423 [])) fun v=>.I v (.R 1) (.I (decide ((l.length:Int)>32)) (.R 5) (.K (P6 low) fun v2=>.G (!v2) (.R true) (.K (P6 high) fun v3=>.R (!v3)) fun b2=>.I (b2||(decide (low>high))) (.R 2) (.R 0))))
def X4 (s:List j1):CG prog (List j1):=.of Z call424 func424 [.t (tS D4 s)] [] (fun _=>.own 900000) (fun r=>[(900000,.rs 276 4 r D4)]) [900000] (
 .Nl D4 s (.I true (.Z (.np 2 70000 276 4 [])<| .R ([]:List j1)) .N) (fun s=>.I false .N (.U (.ap D4 ([]:List j1) s 5) fun l=>.R l)))
def Q2 (a:Int)(cmp:Cl prog (j1×j1) Int (fun x=>[H2 x.1,H2 x.2]) (fun r=>.t (tI r)))(s2:Int×List j1):M prog (List j1) ((Int×List j1)⊕((Int×List j1)⊕Empty)):=
 .J0 1 (fun(t:Bool)=>[.t 34 (.t (tB t))]) (.D [] []<| .Sp (decide (s2.1>a)) (.O (.ix D4 s2.2 s2.1) fun x=>.W (.ly 0)<| .O (.ix D4 s2.2 (j5 (s2.1-1))) fun x2=>.W (.ly 0)<| .K (cmp.at (x,x2)) fun v=>.R (decide (v<0))) (.R false)) fun v2=>.I v2 (.D [] [(15,1000000)]<| .O (.ix D4 s2.2 (j5 (s2.1-1))) fun x3=>.W (.ly 0)<| .O (.ix D4 s2.2 s2.1) fun x4=>.W (.ly 0)<| .W (.hx 0)<| .U (.st D4 s2.2 s2.1 x3 0) fun l=>.O (.ix D4 l (j5 (s2.1-1))) fun _=>.U (.st D4 l (j5 (s2.1-1)) x4 0) fun l2=>.R (.inl (j5 (s2.1-1),l2))) (.R (.inr (.inl (s2.1,s2.2))))
def Q1 (a b2:Int)(cmp:Cl prog (j1×j1) Int (fun x=>[H2 x.1,H2 x.2]) (fun r=>.t (tI r)))(s:Int×List j1):M prog (List j1) ((Int×List j1)⊕((Int×List j1)⊕Empty)):=
 .I (decide (s.1<b2)) (.L (fun(t:Int×List j1)=>[.t 9 (.t (tI t.1)),.b 1000000 (.rs 276 4 t.2 D4)]) 2 (.e) (Q2 a cmp) (s.1,s.2) (fun s3=>.R (.inl (j5 (s.1+1),s3.2))) (fun t=>t.elim)) (.R (.inr (.inl (s.1,s.2))))
def F6 (data:List j1)(a b2:Int)(cmp:Cl prog (j1×j1) Int (fun x=>[H2 x.1,H2 x.2]) (fun r=>.t (tI r))):CG prog (List j1):=.of Z call477 func477 [.own 1000000,.t (tI a),.t (tI b2),.fz cmp.n cmp.cs] [(1000000,.rs 276 4 data D4)] (fun _=>.P4 []) (fun r=>[(1000000,.rs 276 4 r D4)]) [] (
 .L (fun(t:Int×List j1)=>[.t 8 (.t (tI t.1)),.b 1000000 (.rs 276 4 t.2 D4)]) 0 (.e) (Q1 a b2 cmp) (j5 (a+1),data) (fun s4=>.R s4.2) (fun t=>t.elim))
def O7 (data:List j1)(a m2 b2:Int)(cmp:Cl prog (j1×j1) Int (fun x=>[H2 x.1,H2 x.2]) (fun r=>.t (tI r))):CG prog (List j1):=⟨478,[.own 1000000,.t (tI a),.t (tI m2),.t (tI b2),.fz cmp.n cmp.cs],[(1000000,.rs 276 4 data D4)],none,fun _=>none,(fun _=>.P4 []),(fun r=>[(1000000,.rs 276 4 r D4)]),[],true,⟨call478,fun _ h=>by cases h⟩,fun _ _ h=>by cases h⟩
def S3 (n2:Int)(cmp:Cl prog (j1×j1) Int (fun x=>[H2 x.1,H2 x.2]) (fun r=>.t (tI r)))(s:Int×Int×List j1):M prog (List j1) ((Int×Int×List j1)⊕((Int×Int×List j1)⊕Empty)):=
 .I (decide (s.2.1<=n2)) (.KG (F6 s.2.2 s.1 s.2.1 cmp) [] fun v=>.R (.inl (s.2.1,j5 (s.2.1+20),v))) (.R (.inr (.inl (s.1,s.2.1,s.2.2))))
def X3 (n2:Int)(cmp:Cl prog (j1×j1) Int (fun x=>[H2 x.1,H2 x.2]) (fun r=>.t (tI r)))(s3:Int×List j1)(s4:Int×Int×List j1):M prog (List j1) ((Int×Int×List j1)⊕((Int×Int×List j1)⊕Empty)):=
 .I (decide (s4.2.1<=n2)) (.KG (O7 s4.2.2 s4.1 (j5 (s4.1+s3.1)) s4.2.1 cmp) [] fun v3=>.R (.inl (s4.2.1,j5 (s4.2.1+(j5 (2*s3.1))),v3))) (.R (.inr (.inl (s4.1,s4.2.1,s4.2.2))))
def S4 (n2:Int)(cmp:Cl prog (j1×j1) Int (fun x=>[H2 x.1,H2 x.2]) (fun r=>.t (tI r)))(s3:Int×List j1):M prog (List j1) ((Int×List j1)⊕((Int×List j1)⊕Empty)):=
 .I (decide (s3.1<n2)) (.L (fun(t:Int×Int×List j1)=>[.t 7 (.t (tI t.1)),.t 8 (.t (tI t.2.1)),.b 1000000 (.rs 276 4 t.2.2 D4)]) 4 (.e) (X3 n2 cmp s3) (0,j5 (2*s3.1),s3.2) (fun s5=>.I (decide ((j5 (s5.1+s3.1))<n2)) (.KG (O7 s5.2.2 s5.1 (j5 (s5.1+s3.1)) n2 cmp) [] fun v4=>.R (.inl (j5 (s3.1*2),v4))) (.R (.inl (j5 (s3.1*2),s5.2.2)))) (fun t=>t.elim)) (.R (.inr (.inl (s3.1,s3.2))))
def N5 (data:List j1)(n2:Int)(cmp:Cl prog (j1×j1) Int (fun x=>[H2 x.1,H2 x.2]) (fun r=>.t (tI r))):CG prog (List j1):=.of Z call450 func450 [.own 1000000,.t (tI n2),.fz cmp.n cmp.cs] [(1000000,.rs 276 4 data D4)] (fun _=>.P4 []) (fun r=>[(1000000,.rs 276 4 r D4)]) [] (
 .L (fun(t:Int×Int×List j1)=>[.t 7 (.t (tI t.1)),.t 8 (.t (tI t.2.1)),.b 1000000 (.rs 276 4 t.2.2 D4)]) 0 (.e) (S3 n2 cmp) (0,20,data) (fun s2=>.KG (F6 s2.2.2 s2.1 n2 cmp) [] fun v2=>.L (fun(t:Int×List j1)=>[.t 6 (.t (tI t.1)),.x 23,.b 1000000 (.rs 276 4 t.2 D4)]) 2 (.e) (S4 n2 cmp) (20,v2) (fun s6=>.R s6.2) (fun t=>t.elim)) (fun t=>t.elim))
def J9 (x:List j1)(cmp:Cl prog (j1×j1) Int (fun x=>[H2 x.1,H2 x.2]) (fun r=>.t (tI r))):CG prog (List j1):=.of Z call425 func425 [.own 1000000,.fz cmp.n cmp.cs] [(1000000,.rs 276 4 x D4)] (fun _=>.P4 []) (fun r=>[(1000000,.rs 276 4 r D4)]) [] (
 .KG (N5 x (x.length:Int) cmp) [] fun v=>.R v)
def O5 (a b2:j1):C prog Int:=.of Z call426 func426 [H2 a,H2 b2] (fun r=>.t (tI r)) (
 .R (j5 (b2.E7-a.E7)))
def ae0 (s:u7)(t2:Int):CG prog u7:=.of Z call451 func451 [.ptr 1000000 0,.t (tI t2)] [(1000000,.box [.t (tI s.low),.t (tI s.high),.t (tI s.source)])] (fun _=>.P4 []) (fun r=>[(1000000,.box [.t (tI r.low),.t (tI r.high),.t (tI r.source)])]) [] (
 .D [] []<| .R (⟨s.low,G8 s.low (F7 s.high t2),s.source⟩:u7))
def aa0 (s:u7)(t2:Int):CG prog u7:=.of Z call452 func452 [.ptr 1000000 0,.t (tI t2)] [(1000000,.box [.t (tI s.low),.t (tI s.high),.t (tI s.source)])] (fun _=>.P4 []) (fun r=>[(1000000,.box [.t (tI r.low),.t (tI r.high),.t (tI r.source)])]) [] (
 .D [] []<| .R ({s with low:=F7 s.high (G8 s.low t2)}:u7))
def aa1 (s:u7)(t2:Int):CG prog u7:=.of Z call453 func453 [.ptr 1000000 0,.t (tI t2)] [(1000000,.box [.t (tI s.low),.t (tI s.high),.t (tI s.source)])] (fun _=>.P4 []) (fun r=>[(1000000,.box [.t (tI r.low),.t (tI r.high),.t (tI r.source)])]) [] (
 .D [] []<| .K (D0 t2 s.low s.high) fun v=>.R (⟨v,v,s.source⟩:u7))
def X6 (s:u7)(r2:j1):CG prog (Bool×u7):=.of Z call427 func427 [.ptr 1000000 0,H2 r2] [(1000000,.box [.t (tI s.low),.t (tI s.high),.t (tI s.source)])] (fun r=>.t (tB r.1)) (fun r=>[(1000000,.box [.t (tI r.2.low),.t (tI r.2.high),.t (tI r.2.source)])]) [] (
 .J0 0 (fun(t:u7)=>[.x 6,.x 7,.x 9,.b 1000000 (.box [.t (tI t.low),.t (tI t.high),.t (tI t.source)])]) (.I (r2.Kind==1) (.KG (ae0 s r2.o9) [] fun v=>.R v) (.I (r2.Kind==2) (.KG (aa0 s r2.o9) [] fun v2=>.R v2) (.I (r2.Kind==3) (.KG (aa1 s r2.o9) [] fun v3=>.R v3) (.R s)))) fun f2=>.D [] []<| .J0 0 (fun(t:Int)=>[.x 3,.x 29,.x 30,.x 31,.x 33,.c 1000000 2 [.t (tI t)],.d 3]) (.I (f2.low !=s.low) (.R r2.N7) (.R f2.source)) fun f3=>.J0 1 (fun(t:Bool)=>[.t 4 (.t (tB t)),.x 0,.x 5,.d 5]) (.D [] []<| .Sp (f2.low !=s.low) (.R true) (.R (f2.high !=s.high))) fun v4=>.R (v4,(⟨f2.low,f2.high,f3⟩:u7)))
def cp8:Go.Shelf.Ren:=⟨fun|125=>449|128=>476|129=>377|189=>428|215=>221|216=>130|257=>454|294=>479|295=>480|296=>481|297=>482|298=>483|299=>484|300=>485|301=>486|328=>496|329=>491|330=>492|331=>497|332=>498|343=>510|n=>n,fun|0=>0|3=>3|4=>4|5=>5|9=>9|28=>29|46=>265|51=>364|53=>413|131=>261|182=>523|183=>524|218=>538|222=>542|228=>551|229=>362|n=>n,fun|n=>n⟩
open Go.Shelf in
def ey6:Lays.n189 prog cp8:={
 mixed:=by kernel_rfl,
 f125:=func449.trans (congrArg some (by kernel_rfl)),
 f128:=func476.trans (congrArg some (by kernel_rfl)),
 f129:=func377.trans (congrArg some (by kernel_rfl)),
 f189:=func428.trans (congrArg some (by kernel_rfl)),
 f215:=func221.trans (congrArg some (by kernel_rfl)),
 f216:=func130.trans (congrArg some (by kernel_rfl)),
 f257:=func454.trans (congrArg some (by kernel_rfl)),
 f294:=func479.trans (congrArg some (by kernel_rfl)),
 f295:=func480.trans (congrArg some (by kernel_rfl)),
 f296:=func481.trans (congrArg some (by kernel_rfl)),
 f297:=func482.trans (congrArg some (by kernel_rfl)),
 f298:=func483.trans (congrArg some (by kernel_rfl)),
 f299:=func484.trans (congrArg some (by kernel_rfl)),
 f300:=func485.trans (congrArg some (by kernel_rfl)),
 f301:=func486.trans (congrArg some (by kernel_rfl)),
 f328:=func496.trans (congrArg some (by kernel_rfl)),
 f329:=func491.trans (congrArg some (by kernel_rfl)),
 f330:=func492.trans (congrArg some (by kernel_rfl)),
 f331:=func497.trans (congrArg some (by kernel_rfl)),
 f332:=func498.trans (congrArg some (by kernel_rfl)),
 f343:=func510.trans (congrArg some (by kernel_rfl)),
 t0:=Tryz.underlying0,
 a0:=Tryz.isAgg0,
 z0:=Tryz.sizeOf0,
 v0:=Tryz.zeroValue0,
 t3:=Tryz.underlying3,
 a3:=Tryz.isAgg3,
 z3:=Tryz.sizeOf3,
 v3:=Tryz.zeroValue3,
 t4:=Tryz.underlying4,
 a4:=Tryz.isAgg4,
 z4:=Tryz.sizeOf4,
 v4:=Tryz.zeroValue4,
 t5:=Tryz.underlying5,
 a5:=Tryz.isAgg5,
 z5:=Tryz.sizeOf5,
 v5:=Tryz.zeroValue5,
 t9:=Tryz.underlying9,
 a9:=Tryz.isAgg9,
 z9:=Tryz.sizeOf9,
 v9:=Tryz.zeroValue9,
 t28:=Tryz.underlying29,
 a28:=Tryz.isAgg29,
 z28:=Tryz.sizeOf29,
 v28:=Tryz.zeroValue29,
 t46:=Tryz.underlying265,
 a46:=Tryz.isAgg265,
 z46:=Tryz.sizeOf265,
 v46:=Tryz.zeroValue265,
 t51:=Tryz.underlying364,
 a51:=Tryz.isAgg364,
 z51:=Tryz.sizeOf364,
 v51:=Tryz.zeroValue364,
 t53:=Tryz.underlying413,
 a53:=Tryz.isAgg413,
 z53:=Tryz.sizeOf413,
 v53:=Tryz.zeroValue413,
 t131:=Tryz.underlying261,
 a131:=Tryz.isAgg261,
 z131:=Tryz.sizeOf261,
 v131:=Tryz.zeroValue261,
 t182:=Tryz.underlying523,
 a182:=Tryz.isAgg523,
 z182:=Tryz.sizeOf523,
 v182:=Tryz.zeroValue523,
 t183:=Tryz.underlying524,
 a183:=Tryz.isAgg524,
 z183:=Tryz.sizeOf524,
 v183:=Tryz.zeroValue524,
 t218:=Tryz.underlying538,
 a218:=Tryz.isAgg538,
 z218:=Tryz.sizeOf538,
 v218:=Tryz.zeroValue538,
 t222:=Tryz.underlying542,
 a222:=Tryz.isAgg542,
 z222:=Tryz.sizeOf542,
 v222:=Tryz.zeroValue542,
 t228:=Tryz.underlying551,
 a228:=Tryz.isAgg551,
 z228:=Tryz.sizeOf551,
 v228:=Tryz.zeroValue551,
 t229:=Tryz.underlying362,
 a229:=Tryz.isAgg362,
 z229:=Tryz.sizeOf362,
 v229:=Tryz.zeroValue362}
def bU7 (s:List Int):bh6 prog 428 [.own 1000000] [(1000000,.rows 3 1 s.length (s.map aI7))] (bT8 s) (fun _=>.P4 []) (fun r=>[(1000000,.rows 3 1 r.length (r.map aI7))]):=
 dp5 (ρ:=cp8) ey6 call428 s
def aC5 (s:List Int):CG prog (List Int):=⟨428,[.own 1000000],[(1000000,.rows 3 1 s.length (s.map aI7))],bT8 s,fun _=>dM7 s,fun _=>.P4 [],fun r=>[(1000000,.rows 3 1 r.length (r.map aI7))],[],true,bU7 s,fun _ r h=>ef1 h⟩
def cl8:Go.Shelf.Ren:=⟨fun|20=>429|n=>n,fun|0=>0|3=>3|4=>4|22=>29|n=>n,fun|n=>n⟩
open Go.Shelf in
def em7:Lays2.n20 prog cl8:={
 mixed:=by kernel_rfl,
 f20:=func429.trans (congrArg some (by kernel_rfl)),
 t0:=Tryz.underlying0,
 a0:=Tryz.isAgg0,
 z0:=Tryz.sizeOf0,
 v0:=Tryz.zeroValue0,
 t3:=Tryz.underlying3,
 a3:=Tryz.isAgg3,
 z3:=Tryz.sizeOf3,
 v3:=Tryz.zeroValue3,
 t4:=Tryz.underlying4,
 a4:=Tryz.isAgg4,
 z4:=Tryz.sizeOf4,
 v4:=Tryz.zeroValue4,
 t22:=Tryz.underlying29,
 a22:=Tryz.isAgg29,
 z22:=Tryz.sizeOf29,
 v22:=Tryz.zeroValue29,
 i3:=by kernel_rfl}
def bG0 (s:List Int):bh6 prog 429 [.own 1000000] [(1000000,.rows 3 1 s.length (s.map aI7))] (bn1 s) (fun _=>.own 900000) (fun r=>[(900000,.rows 3 1 r.length (r.map aI7))]):=
 cF7 (ρ:=cl8) em7 call429 s
def as2 (s:List Int):CG prog (List Int):=⟨429,[.own 1000000],[(1000000,.rows 3 1 s.length (s.map aI7))],bn1 s,fun _=>bn1 s,fun _=>.own 900000,fun r=>[(900000,.rows 3 1 r.length (r.map aI7))],[900000],true,bG0 s,fun _ r h=>h⟩
def aj8 (_:Int)(x:j1)(s:List Int×u7):M prog (u7×List Int) (Fl (List Int×u7) Empty):=
 .W (.hx 0)<| .W (.ly 0)<| .KG (X6 s.2 x) [] fun r2=>.I r2.1 (.U (.ap aI7 s.1 ([x.N7]:List Int) 2248) fun l2=>.R (.next (l2,r2.2))) (.R (.next (s.1,r2.2)))
def ap9 (l:List j1)(low high:Int):C prog (u7×List Int):=.of Z call384 func384 [.t (tS D4 l),.t (tI low),.t (tI high)] (fun r=>.P4 [cD5 r.1,.t (tS aI7 r.2)]) (
 .KG (X4 l) [2104] fun v=>.KG (J9 v (.of (fun z_=>O5 z_.1 z_.2) 426 [])) [] fun v2=>.Z (.np 9 2248 3 1 [])<|M.Q D4 v2 2 21 (fun(t:List Int×u7)=>[.t 9 (.own 2248),.x 0,.x 13,.x 14,.b 8 (.box [.t (tI t.2.low),.t (tI t.2.high),.t (tI t.2.source)]),.b 2248 (.rs 3 1 t.1 aI7)]) 0 (.e) (aj8) (([]:List Int),(⟨low,high,(-1)⟩:u7)) (fun s2=>.KG (aC5 s2.1) [] fun v3=>.Pn 2248<| .D [] [(2,2248)]<| .KG (as2 v3) [2248] fun v4=>.R (s2.2,v4)) (fun t=>t.elim))
def ap8 (g:aa8)(l:List j1)(low high up down:Int):C prog (aa8×Int):=.of Z call331 func331 [dq7 g,.t (tS D4 l),.t (tI low),.t (tI high),.t (tI up),.t (tI down)] (fun r=>.P4 [dq7 r.1,.t (tI r.2)]) (
 .K (P6 g.o9) fun v=>.I (((!v)||(decide (g.N7<(-1))))||(decide (g.N7>15))) (.R ((⟨0,0⟩:aa8),1)) (.K (av7 l low high) fun v2=>.I (v2 !=0) (.R ((⟨0,0⟩:aa8),v2)) (.I ((((decide (up<0))||(decide (up>20000)))||(decide (down<0)))||(decide (down>20000))) (.R ((⟨0,0⟩:aa8),2)) (.K (ap9 l low high) fun r2=>.R ((⟨G8 (F7 (F7 (G8 r2.1.low (j5 (g.o9-down))) (j5 (g.o9+up))) r2.1.high) low,r2.1.source⟩:aa8),0)))))
def X7 (s:o4):CG prog o4:=.of Z call255 func255 [.ptr 1000000 0] [(1000000,.box (aw2 (R5 s) [(63,.own 1000001)])),(1000001,.rs 293 7 s.out.O3 B7)] (fun _=>.P4 []) (fun r=>[(1000000,.box (aw2 (R5 r) [(63,.own 1000001)])),(1000001,.rs 293 7 r.out.O3 B7)]) [] (
 .D [] [(23,1000000)]<| .K (aM7 s.c.L5 s.i.bG8 s.i.bG9) fun r2=>.KG (z8 ({s with c:=(⟨r2.1,s.c.af5,s.c.ab9,s.c.Q5,s.c.P5,s.c.af8⟩:A9)}:o4) r2.2) [] fun v=>.D [] []<| .K (aM8 v.t v.c.L5.Value v.i.D7) fun r3=>.KG (z8 v r3.2) [] fun v2=>.D [] []<| .K (ax2 v2.c.L5.Value v2.i.D7 v2.i.av3) fun v3=>.J0 0 (fun(t:o4×List j1)=>[.t 4 (.own 56),.x 7,.x 8,.x 9,.x 10,.x 11,.x 13,.x 14,.x 15,.x 16,.x 18,.x 19,.x 20,.x 21,.x 26,.x 27,.x 28,.x 29,.x 33,.x 34,.x 35,.x 37,.x 38,.x 39,.x 40,.x 41,.x 43,.x 44,.x 45,.x 46,.x 51,.x 56,.x 57,.x 58,.x 59,.x 60,.x 61,.x 63,.x 64,.x 65,.x 66,.x 68,.x 69,.x 70,.x 71,.b 56 (.rs 276 4 t.2 D4),.b 1000000 (.box (aw2 (R5 t.1) [(63,.own 1000001)])),.b 1000001 (.rs 293 7 t.1.out.O3 B7)]) (.I v3 (.D [] [(30,1000000)]<| .K (ax3 v2.i.av3) fun v4=>.K (aE9 v2.c.af5 v2.t.af5 v4 v2.i.D7) fun r4=>.KG (z8 ({v2 with c:=(⟨v2.c.L5,r4.1,v2.c.ab9,v2.c.Q5,v2.c.P5,v2.c.af8⟩:A9)}:o4) r4.2.2) [] fun v5=>.K (D0 r4.2.1 (-5000) 10000) fun v6=>.U (.ap D4 ([(⟨0,3,r3.1,0⟩:j1)]:List j1) ([(⟨1,2,v6,1⟩:j1)]:List j1) 56) fun l=>.R (v5,l)) (.R (({v2 with c:=(⟨v2.c.L5,(⟨0⟩:F9),v2.c.ab9,v2.c.Q5,v2.c.P5,v2.c.af8⟩:A9)}:o4),([(⟨0,3,r3.1,0⟩:j1)]:List j1)))) fun s2=>.Pn 56<| .D [] [(12,56),(20,1000000)]<| .U (.ap D4 s2.2 s2.1.i.Requests 56) fun l2=>.K (ap8 s2.1.c.af8 l2 (-5000) 10000 300 1000) fun r5=>.KG (z8 (⟨s2.1.t,s2.1.e,s2.1.b,(⟨s2.1.c.L5,s2.1.c.af5,s2.1.c.ab9,s2.1.c.Q5,s2.1.c.P5,r5.1⟩:A9),s2.1.i,s2.1.wanted,s2.1.A4,s2.1.ae9,s2.1.late,s2.1.pattern,s2.1.time,s2.1.out,s2.1.fail⟩:o4) r5.2) [] fun v7=>.R ({v7 with wanted:=G8 0 v7.c.af8.o9}:o4))
def am7 (i:Int)(c:o7)(c2 c3 c4:Int):C prog Bool:=.of Z call386 func386 [.t (tI i),.el (aR6 c),.el (aI7 c2),.el (aI7 c3),.el (aI7 c4)] (fun r=>.t (tB r)) (
 .D [] []<| .K (Y9 c.o9 c2 (j5 (c3+i))) fun v=>.R (decide (v>=c4)))
def ap4 (t2:o7)(o8 T8:Int):C prog (Int×Int):=.of Z call332 func332 [T5 t2,.t (tI o8),.t (tI T8)] (fun r=>.P4 [.t (tI r.1),.t (tI r.2)]) (
 .K (ai9 t2) fun v=>.I (!v) (.R (0,1)) (.K (H9 o8 0 12000) fun v2=>.I (!v2) (.R (0,2)) (.O (.ix aI7 t2.o9.Y 0) fun x=>.D [] []<| .O (.ix aI7 t2.o9.Y (j5 ((t2.o9.Y.length:Int)-1))) fun x2=>.Z (.fb 3)<| .Z (.fb 4)<| .Z (.fb 8)<| .Z (.fb 5)<| .K (Q3 (j5 ((j5 (x2-x))+1)) (.of (fun z_=>am7 z_ t2 o8 x T8) 386 [aR6 t2,aI7 o8,aI7 x,aI7 T8])) fun v3=>.I (v3==(j5 ((j5 (x2-x))+1))) (.R (0,7)) (.R (j5 (x+v3),0)))))
def au7 (x e2 other:Int):C prog Int:=.of Z call333 func333 [.t (tI x),.t (tI e2),.t (tI other)] (fun r=>.t (tI r)) (
 .I (e2 !=0) (.R other) (.R x))
def al8 (i:Int)(c:Q4)(c2:Int):C prog Bool:=.of Z call458 func458 [.t (tI i),.el (bJ0 c),.el (aI7 c2)] (fun r=>.t (tB r)) (
 .D [] []<| .O (.ix aI7 c.X i) fun x=>.R (decide (x>c2)))
def av9 (c:Q4)(x:Int):C prog Int:=.of Z call438 func438 [ci0 c,.t (tI x)] (fun r=>.t (tI r)) (
 .Z (.fb 2)<| .Z (.fb 3)<| .K (Q3 (c.X.length:Int) (.of (fun z_=>al8 z_ c x) 458 [bJ0 c,aI7 x])) fun v=>.R (j5 (v-1)))
def aF5 (c:Q4)(x:Int):C prog Int:=.of Z call408 func408 [ci0 c,.t (tI x)] (fun r=>.t (tI r)) (
 .O (.ix aI7 c.X 0) fun x2=>.I (decide (x<=x2)) (.O (.ix aI7 c.Y 0) fun x3=>.R x3) (.O (.ix aI7 c.X (j5 ((c.X.length:Int)-1))) fun x4=>.I (decide (x>=x4)) (.O (.ix aI7 c.Y (j5 ((c.X.length:Int)-1))) fun x5=>.R x5) (.K (av9 c x) fun v=>.D [] []<| .O (.ix aI7 c.Y v) fun x6=>.O (.ix aI7 c.X v) fun x7=>.O (.ix aI7 c.Y (j5 (v+1))) fun x8=>.W (.hx 2)<| .O (.ix aI7 c.X (j5 (v+1))) fun x9=>.W (.hx 2)<| .K (W5 (j5 ((j5 (x-x7))*(j5 (x8-x6)))) (j5 (x9-x7))) fun v2=>.R (j5 (x6+v2)))))
def au1 (c:Q4)(x:Int):C prog Int:=.of Z call353 func353 [ci0 c,.t (tI x)] (fun r=>.t (tI r)) (
 .K (P7 c) fun v=>.I (!v) (.R 0) (.K (aF5 c x) fun v2=>.R v2))
def aC9 (t2:o7)(o8 C5 K9:Int):C prog Int:=.of Z call269 func269 [T5 t2,.t (tI o8),.t (tI C5),.t (tI K9)] (fun r=>.t (tI r)) (
 .D [] []<| .K (Y9 t2.Air o8 C5) fun v=>.K (au1 t2.M0 K9) fun v2=>.K (W5 (j5 (v*v2)) 1000) fun v3=>.R (F7 1048576 v3))
def ak7 (k:Int)(c:o7)(c2 c3 c4:Int):C prog Bool:=.of Z call387 func387 [.t (tI k),.el (aR6 c),.el (aI7 c2),.el (aI7 c3),.el (aI7 c4)] (fun r=>.t (tB r)) (
 .D [] []<| .K (aC9 c c2 (j5 (50+k)) c3) fun v=>.R (decide (v>=c4)))
def av4 (t2:o7)(o8 want K9:Int):C prog (Int×Int):=.of Z call334 func334 [T5 t2,.t (tI o8),.t (tI want),.t (tI K9)] (fun r=>.P4 [.t (tI r.1),.t (tI r.2)]) (
 .K (aB7 t2) fun v=>.I (!v) (.R (0,1)) (.K (I7 o8 0 12000) fun v2=>.G (!v2) (.R true) (.K (I7 want 0 1048576) fun v3=>.R (!v3)) fun b2=>.G b2 (.R true) (.K (I7 K9 (-40) 150) fun v4=>.R (!v4)) fun b3=>.I b3 (.R (0,2)) (.Z (.fb 4)<| .Z (.fb 5)<| .Z (.fb 7)<| .Z (.fb 6)<| .K (Q3 2951 (.of (fun z_=>ak7 z_ t2 o8 K9 want) 387 [aR6 t2,aI7 o8,aI7 K9,aI7 want])) fun v5=>.I (decide ((j5 (50+v5))>3000)) (.R (0,7)) (.R (j5 (50+v5),0)))))
def ax8 (rpm:Int):C prog (Int×Int):=.of Z call388 func388 [.t (tI rpm)] (fun r=>.P4 [.t (tI r.1),.t (tI r.2)]) (
 .I ((decide (rpm<0))||(decide (rpm>20000))) (.R (0,2)) (.K (an5 (j5 ((j5 (rpm*65536))*23040)) 60000000 2) fun r2=>.R (r2.1,r2.2)))
def be3 (o8 C5:Int):C prog (Int×Int):=.of Z call335 func335 [.t (tI o8),.t (tI C5)] (fun r=>.P4 [.t (tI r.1),.t (tI r.2)]) (
 .K (I7 o8 0 12000) fun v=>.G (!v) (.R true) (.K (I7 C5 50 3000) fun v2=>.R (!v2)) fun b2=>.I b2 (.R (0,2)) (.K (ax8 o8) fun r2=>.R (j5 (cW7 (j5 (r2.1*C5)) 1024),r2.2)))
def ak8 (k:Int)(c:L6)(c2 c3:Int):C prog Bool:=.of Z call389 func389 [.t (tI k),.el (bE7 c),.el (aI7 c2),.el (aI7 c3)] (fun r=>.t (tB r)) (
 .R (decide ((j5 (cW7 (j5 ((j5 (c.J2*k))*(j5 (1013-c2)))) 1000))>=c3)))
def av5 (b2:L6)(cY5 C5:Int):C prog (Int×Int):=.of Z call336 func336 [aM0 b2,.t (tI cY5),.t (tI C5)] (fun r=>.P4 [.t (tI r.1),.t (tI r.2)]) (
 .K (ak1 b2) fun v=>.I (!v) (.R (0,1)) (.K (I7 cY5 0 1099511627776) fun v2=>.G (!v2) (.R true) (.K (I7 C5 50 1013) fun v3=>.R (!v3)) fun b3=>.I b3 (.R (0,2)) (.Z (.fb 3)<| .Z (.fb 5)<| .Z (.fb 4)<| .K (Q3 1001 (.of (fun z_=>ak8 z_ b2 C5 cY5) 389 [bE7 b2,aI7 C5,aI7 cY5])) fun v4=>.I (decide (v4>1000)) (.R (0,7)) (.R (v4,0)))))
def U7 (s:o4):CG prog o4:=.of Z call256 func256 [.ptr 1000000 0] [(1000000,.box (aw2 (R5 s) [(63,.own 1000001)])),(1000001,.rs 293 7 s.out.O3 B7)] (fun _=>.P4 []) (fun r=>[(1000000,.box (aw2 (R5 r) [(63,.own 1000001)])),(1000001,.rs 293 7 r.out.O3 B7)]) [] (
 .D [] []<| .K (ap4 s.t s.i.D7 s.wanted) fun r2=>.K (au7 r2.1 r2.2 1048576) fun v=>.D [] []<| .K (av4 s.t s.i.D7 (G8 0 v) s.i.M0) fun r3=>.K (au7 r3.1 r3.2 3000) fun v2=>.K (be3 s.i.D7 (F7 1012 v2)) fun r4=>.KG (z8 s r4.2) [] fun v3=>.K (av5 v3.b r4.1 (F7 1012 v2)) fun r5=>.K (au7 r5.1 r5.2 1000) fun v4=>.R ({v3 with out:=(⟨v4,v3.out.O3,v3.out.o9⟩:O8)}:o4))
def aC8 (t2:o7)(o8 C5 K9:Int):C prog (Int×Int):=.of Z call183 func183 [T5 t2,.t (tI o8),.t (tI C5),.t (tI K9)] (fun r=>.P4 [.t (tI r.1),.t (tI r.2)]) (
 .K (aB7 t2) fun v=>.I (!v) (.R (0,1)) (.K (I7 o8 0 12000) fun v2=>.G (!v2) (.R true) (.K (I7 C5 50 3000) fun v3=>.R (!v3)) fun b2=>.G b2 (.R true) (.K (I7 K9 (-40) 150) fun v4=>.R (!v4)) fun b3=>.I b3 (.R (0,2)) (.K (aC9 t2 o8 C5 K9) fun v5=>.R (v5,0))))
def ah6 (t2:o7)(o8 A4:Int):C prog (Int×Int):=.of Z call390 func390 [T5 t2,.t (tI o8),.t (tI A4)] (fun r=>.P4 [.t (tI r.1),.t (tI r.2)]) (
 .K (ai9 t2) fun v=>.I (!v) (.R (0,1)) (.K (H9 o8 0 12000) fun v2=>.G (!v2) (.R true) (.K (H9 A4 0 1048576) fun v3=>.R (!v3)) fun b2=>.I b2 (.R (0,2)) (.K (Y9 t2.o9 o8 A4) fun v4=>.R (v4,0))))
def Z6 (t2:o7)(bJ9 late ae9 B8:Int):C prog Int:=.of Z call391 func391 [T5 t2,.t (tI bJ9),.t (tI late),.t (tI ae9),.t (tI B8)] (fun r=>.t (tI r)) (
 .K (au1 t2.C7 late) fun v=>.O (.quo .i64 (j5 ((j5 (bJ9*v))*ae9)) (j5 (1000*B8))) fun q=>.R q)
def al6 (late:Int)(c:o7)(c2 c3 c4 c5:Int):C prog Bool:=.of Z call392 func392 [.t (tI late),.el (aR6 c),.el (aI7 c2),.el (aI7 c3),.el (aI7 c4),.el (aI7 c5)] (fun r=>.t (tB r)) (
 .D [] []<| .K (Z6 c c2 late c3 c4) fun v=>.R (decide (v<=c5)))
def am9 (t2:o7)(most B8:Int)(r2:Int×Int)(f2:Int):M prog (Int×Int×Int) (Int⊕(Int⊕Empty)):=
 .I (decide (f2>0)) (.D [] []<| .K (Z6 t2 r2.1 2560 f2 B8) fun v2=>.I (decide (v2<=most)) (.R (.inr (.inl f2))) (.R (.inl (j5 (f2-1))))) (.R (.inr (.inl f2)))
def am8 (t2:o7)(o8 A4 most B8:Int):C prog (Int×Int×Int):=.of Z call337 func337 [T5 t2,.t (tI o8),.t (tI A4),.t (tI most),.t (tI B8)] (fun r=>.P4 [.t (tI r.1),.t (tI r.2.1),.t (tI r.2.2)]) (
 .K (ah6 t2 o8 A4) fun r2=>.I (r2.2 !=0) (.R (0,0,r2.2)) (.K (H9 B8 1 8) fun v=>.I ((!v)||(decide (most<0))) (.R (0,0,2)) (.L (fun(t:Int)=>[.b 10 (.box [.t (tI t)])]) 1 (.e) (am9 t2 most B8 r2) B8 (fun f3=>.Z (.fb 5)<| .Z (.fb 13)<| .Z (.fb 9)<| .Z (.fb 8)<| .K (Q3 2560 (.of (fun z_=>al6 z_ t2 r2.1 f3 B8 most) 392 [aR6 t2,aI7 r2.1,aI7 f3,aI7 B8,aI7 most])) fun v3=>.R (f3,v3,0)) (fun t=>t.elim))))
def as0 (B8 ae9 E5 i:Int)(f2:List Bool):M prog (List Bool×Int) (Fl (List Bool) Empty):=
 .O (.rem (j5 (i+E5)) B8) fun q=>.D [] []<| .O (.quo .i64 (j5 ((j5 (q+1))*ae9)) B8) fun q2=>.O (.quo .i64 (j5 (q*ae9)) B8) fun q3=>.O (.ix Pv.dv1 f2 i) fun _=>.U (.st Pv.dv1 f2 i (decide (q2>q3)) 0) fun l2=>.R (.next l2)
def ar9 (B8 ae9 E5:Int):C prog (List Bool×Int):=.of Z call338 func338 [.t (tI B8),.t (tI ae9),.t (tI E5)] (fun r=>.P4 [.t (tS Pv.dv1 r.1),.t (tI r.2)]) (
 .K (H9 B8 1 8) fun v=>.G (!v) (.R true) (.K (H9 ae9 0 B8) fun v2=>.R (!v2)) fun b2=>.G b2 (.R true) (.K (H9 E5 0 1099511627776) fun v3=>.R (!v3)) fun b3=>.I b3 (.R (([]:List Bool),2)) (.Mk Pv.dv1 B8 false fun l=>M.QN (l.length:Int) 2 29 (fun(t:List Bool)=>[.x 26,.x 27,.b 26 (.rs 4 1 t Pv.dv1)]) 0 (.e) (as0 B8 ae9 E5) l (fun f3=>.R (f3,0)) (fun t=>t.elim)))
def aw5 (t2:o7)(o8 A4 late ae9 B8:Int):C prog (Int×Int):=.of Z call339 func339 [T5 t2,.t (tI o8),.t (tI A4),.t (tI late),.t (tI ae9),.t (tI B8)] (fun r=>.P4 [.t (tI r.1),.t (tI r.2)]) (
 .K (ah6 t2 o8 A4) fun r2=>.I (r2.2 !=0) (.R (0,r2.2)) (.K (H9 late 0 2560) fun v=>.G (!v) (.R true) (.K (H9 B8 1 8) fun v2=>.R (!v2)) fun b2=>.G b2 (.R true) (.K (H9 ae9 0 B8) fun v3=>.R (!v3)) fun b3=>.I b3 (.R (0,2)) (.K (Z6 t2 r2.1 late ae9 B8) fun v4=>.R (v4,0))))
def ab1 (s:o4):CG prog o4:=.of Z call257 func257 [.ptr 1000000 0] [(1000000,.box (aw2 (R5 s) [(63,.own 1000001)])),(1000001,.rs 293 7 s.out.O3 B7)] (fun _=>.P4 []) (fun r=>[(1000000,.box (aw2 (R5 r) [(63,.own 1000001)])),(1000001,.rs 293 7 r.out.O3 B7)]) [] (
 .D [] [(26,1000000)]<| .K (aC8 s.t s.i.D7 s.i.N0 s.i.M0) fun r2=>.KG (z8 ({s with A4:=r2.1}:o4) r2.2) [] fun v=>.D [] [(27,1000000),(30,1000000)]<| .K (am8 v.t v.i.D7 v.A4 v.wanted (s.e.A7.length:Int)) fun r3=>.KG (z8 ({v with ae9:=r3.1,late:=r3.2.1}:o4) r3.2.2) [] fun v2=>.K (ar9 (s.e.A7.length:Int) v2.ae9 0) fun r4=>.KG (z8 ({v2 with pattern:=r4.1}:o4) r4.2) [] fun v3=>.D [] [(30,1000000)]<| .K (aw5 v3.t v3.i.D7 v3.A4 v3.late v3.ae9 (s.e.A7.length:Int)) fun r5=>.KG (z8 ({v3 with out:=(⟨v3.out.J2,v3.out.O3,r5.1⟩:O8)}:o4) r5.2) [] fun v4=>.R v4)
def ad3 (o8 A4:Int):C prog Bool:=.of Z call393 func393 [.t (tI o8),.t (tI A4)] (fun r=>.t (tB r)) (
 .K (S7 o8 0 12000) fun v=>.G v (.K (S7 A4 0 1048576) fun v2=>.R v2) (.R false) fun b2=>.R b2)
def ah3 (s:List ac0):C prog (List ac0):=.of Z call430 func430 [.t (tS an8 s)] (fun r=>.t (tS an8 r)) (
 .Nl an8 s (.I true (.R ([]:List ac0)) .N) (fun s=>.I false .N (.U (.ap an8 ([]:List ac0) s 5) fun l=>.R l)))
def ax5 (p2:N1):C prog N1:=.of Z call394 func394 [bt4 p2] (fun r=>bt4 r) (
 .K (ah3 p2.Cells) fun v=>.R ({p2 with Cells:=v}:N1))
def az9 (p2:N1)(C3 o8 A4:Int):C prog (N1×Int):=.of Z call340 func340 [bt4 p2,.t (tI C3),.t (tI o8),.t (tI A4)] (fun r=>.P4 [bt4 r.1,.t (tI r.2)]) (
 .K (ad1 p2) fun v=>.I (!v) (.R ((⟨false,false,0,0,([]:List ac0)⟩:N1),1)) (.K (ad3 o8 A4) fun v2=>.G (!v2) (.R true) (.K (S7 C3 0 20000) fun v3=>.R (!v3)) fun b2=>.I b2 (.R ((⟨false,false,0,0,([]:List ac0)⟩:N1),2)) (.K (ax5 p2) fun v4=>.I (!v4.K5) (.R (({v4 with K5:=((decide (C3<300))||(decide (C3>600))),be1:=decide (C3>600)}:N1),0)) (.J0 0 (fun(t:Int×Int)=>[.t 11 (.t (tI t.1)),.x 30,.x 55,.c 4 3 [.t (tI t.2)]]) (.I (!(((decide (C3>500))||((decide (C3>=400))&&v4.be1))==v4.be1)) (.R (15,0)) (.R (1,F7 1000 (j5 (v4.be2+1))))) fun s=>.J0 0 (fun(t:Int)=>[.t 11 (.t (tI t))]) (.I ((decide (C3>500))||((decide (C3>=400))&&v4.be1)) (.R (j5 (0-s.1))) (.R s.1)) fun v_by=>.K (D0 (j5 (v4.ak6+v_by)) 750 1250) fun v5=>.R ((⟨v4.K5,((decide (C3>500))||((decide (C3>=400))&&v4.be1)),v5,s.2,v4.Cells⟩:N1),0)))))
def aC4 (x _ x2 n2:Int):M prog Int (Fl Int Empty):=
 .W (.hx 0)<| .I (decide (x>=x2)) (.R (.next (j5 (n2+1)))) (.R (.next n2))
def al3 (x:Int)(bb9:List Int):C prog Int:=.of Z call431 func431 [.t (tI x),.t (tS aI7 bb9)] (fun r=>.t (tI r)) (
 M.Q aI7 bb9 2 10 (fun(t:Int)=>[.t 5 (.t (tI t))]) 0 (.e) (aC4 x) 0 (fun n3=>.R n3) (fun t=>t.elim))
def aG4 (o8 A4:Int):C prog Int:=.of Z call395 func395 [.t (tI o8),.t (tI A4)] (fun r=>.t (tI r)) (
 .K (ad3 o8 A4) fun v=>.I (!v) (.R (-1)) (.K (al3 o8 ([1500,3500]:List Int)) fun v2=>.K (al3 A4 ([150000,350000]:List Int)) fun v3=>.R (j5 ((j5 (3*v2))+v3))))
def aq8 (p2:N1)(o8 A4:Int):C prog (Int×Int):=.of Z call341 func341 [bt4 p2,.t (tI o8),.t (tI A4)] (fun r=>.P4 [.t (tI r.1),.t (tI r.2)]) (
 .K (ad1 p2) fun v=>.I (!v) (.R (0,1)) (.K (ad3 o8 A4) fun v2=>.I (!v2) (.R (0,2)) (.D [] []<| .K (aG4 o8 A4) fun v3=>.O (.ix an8 p2.Cells v3) fun x=>.K (D0 (j5 (p2.ak6+x.Value)) 700 1300) fun v4=>.R (v4,0))))
def af7 (x low high:Int):C prog Bool:=.of Z call374 func374 [.t (tI x),.t (tI low),.t (tI high)] (fun r=>.t (tB r)) (
 .R ((decide (x>=low))&&(decide (x<=high))))
def aU8 (A4 bJ1:Int):C prog (Int×Int):=.of Z call342 func342 [.t (tI A4),.t (tI bJ1)] (fun r=>.P4 [.t (tI r.1),.t (tI r.2)]) (
 .K (af7 A4 0 1048576) fun v=>.G (!v) (.R true) (.K (af7 bJ1 500 2000) fun v2=>.R (!v2)) fun b2=>.I b2 (.R (0,2)) (.O (.quo .i64 (j5 (A4*10000)) (j5 (bJ1*147))) fun q=>.R (q,0)))
def aJ6 (b2:L6):C prog Bool:=.of Z call396 func396 [aM0 b2] (fun r=>.t (tB r)) (
 .K (af7 b2.P5 0 1023) fun v=>.G v (.K (af7 b2.M4 0 1024) fun v2=>.R v2) (.R false) fun b3=>.R b3)
def aN3 (cmp:Cl prog Int Int (fun x=>[.t (tI x)]) (fun r=>.t (tI r)))(s:Int×Int):M prog (Int×Bool) ((Int×Int)⊕((Int×Int)⊕Empty)):=
 .I (decide (s.1<s.2)) (.K (cmp.at (j5 (G3 .u64 (ba6.wrap (j5 (s.1+s.2))) 1))) fun v=>.I (decide (v>0)) (.R (.inl (j5 ((j5 (G3 .u64 (ba6.wrap (j5 (s.1+s.2))) 1))+1),s.2))) (.R (.inl (s.1,j5 (G3 .u64 (ba6.wrap (j5 (s.1+s.2))) 1))))) (.R (.inr (.inl (s.1,s.2))))
def aP5 (n2:Int)(cmp:Cl prog Int Int (fun x=>[.t (tI x)]) (fun r=>.t (tI r))):C prog (Int×Bool):=.of Z call397 func397 [.t (tI n2),.fz cmp.n cmp.cs] (fun r=>.P4 [.t (tI r.1),.t (tB r.2)]) (
 .L (fun(t:Int×Int)=>[.t 4 (.t (tI t.1)),.t 6 (.t (tI t.2))]) 0 (.e) (aN3 cmp) (0,n2) (fun s2=>.G (decide (s2.1<n2)) (.K (cmp.at s2.1) fun v2=>.R (v2==0)) (.R false) fun b2=>.R (s2.1,b2)) (fun t=>t.elim))
def aC3 (b2:L6)(aG0 aH7:Int):C prog (Int×Int):=.of Z call399 func399 [aM0 b2,.t (tI aG0),.t (tI aH7)] (fun r=>.P4 [.t (tI r.1),.t (tI r.2)]) (
 .D [] []<| .R (j5 ((j5 (aH7-(j5 (cW7 (j5 (aH7*b2.P5)) 1024))))+(j5 (cW7 (j5 (aG0*b2.M4)) 1024))),j5 ((j5 (aG0+(j5 (cW7 (j5 (aH7*b2.P5)) 1024))))-(j5 (cW7 (j5 (aG0*b2.M4)) 1024)))))
def aB2 (i:Int)(c:L6)(c2 c3:Int):C prog Int:=.of Z call398 func398 [.t (tI i),.el (bE7 c),.el (aI7 c2),.el (aI7 c3)] (fun r=>.t (tI r)) (
 .K (aC3 c c2 i) fun r2=>.R (j5 (c3-r2.1)))
def aJ5 (b2:L6)(aG0 bs3:Int):C prog (Int×Int×Int):=.of Z call343 func343 [aM0 b2,.t (tI aG0),.t (tI bs3)] (fun r=>.P4 [.t (tI r.1),.t (tI r.2.1),.t (tI r.2.2)]) (
 .K (aJ6 b2) fun v=>.I (!v) (.R (0,0,1)) (.K (af7 aG0 0 1073741824) fun v2=>.G (!v2) (.R true) (.K (af7 bs3 0 1048576) fun v3=>.R (!v3)) fun b3=>.I b3 (.R (0,0,2)) (.Z (.fb 3)<| .Z (.fb 4)<| .Z (.fb 5)<| .K (aP5 1048577 (.of (fun z_=>aB2 z_ b2 aG0 bs3) 398 [bE7 b2,aI7 aG0,aI7 bs3])) fun r2=>.I (decide (r2.1>1048576)) (.R (0,0,9)) (.K (aC3 b2 aG0 r2.1) fun r3=>.I (decide (r3.2>1073741824)) (.R (0,0,9)) (.R (r2.1,r3.2,0))))))
def aP2 (b2:L6)(aG0 aH7:Int):C prog (Int×Int×Int):=.of Z call344 func344 [aM0 b2,.t (tI aG0),.t (tI aH7)] (fun r=>.P4 [.t (tI r.1),.t (tI r.2.1),.t (tI r.2.2)]) (
 .K (aJ6 b2) fun v=>.I (!v) (.R (0,0,1)) (.K (af7 aG0 0 1073741824) fun v2=>.G (!v2) (.R true) (.K (af7 aH7 0 1048576) fun v3=>.R (!v3)) fun b3=>.I b3 (.R (0,0,2)) (.K (aC3 b2 aG0 aH7) fun r2=>.I (decide (r2.2>1073741824)) (.R (0,0,9)) (.R (r2.1,r2.2,0)))))
def aG1 (y:Int):C prog Bool:=.of Z call373 func373 [.t (tI y)] (fun r=>.t (tB r)) (
 .K (af7 y 0 10000) fun v=>.R (!v))
def aC2 (t2:o7)(cb4 C3:Int):C prog (Int×Int):=.of Z call303 func303 [T5 t2,.t (tI cb4),.t (tI C3)] (fun r=>.P4 [.t (tI r.1),.t (tI r.2)]) (
 .K (P7 t2.aw6) fun v=>.G (!v) (.R true) (.K (o6 t2.aw6.Y (.of (fun z_=>aG1 z_) 373 [])) fun v2=>.R v2) fun b2=>.I b2 (.R (0,1)) (.K (af7 cb4 0 1048576) fun v3=>.G (!v3) (.R true) (.K (af7 C3 0 20000) fun v4=>.R (!v4)) fun b3=>.I b3 (.R (0,2)) (.K (au1 t2.aw6 C3) fun v5=>.R (v5,0))))
def aP3 (t2:o7)(bs3 C3:Int):C prog (Int×Int):=.of Z call345 func345 [T5 t2,.t (tI bs3),.t (tI C3)] (fun r=>.P4 [.t (tI r.1),.t (tI r.2)]) (
 .K (aC2 t2 bs3 C3) fun r2=>.I ((r2.2 !=0)||(bs3==0)) (.R (0,r2.2)) (.K (an5 bs3 3 2) fun r3=>.R (j5 (r2.1+r3.1),r3.2)))
def ae7 (s:o4):CG prog o4:=.of Z call258 func258 [.ptr 1000000 0] [(1000000,.box (aw2 (R5 s) [(63,.own 1000001)])),(1000001,.rs 293 7 s.out.O3 B7)] (fun _=>.P4 []) (fun r=>[(1000000,.box (aw2 (R5 r) [(63,.own 1000001)])),(1000001,.rs 293 7 r.out.O3 B7)]) [] (
 .D [] [(27,1000000)]<| .K (az9 s.c.Q5 s.i.Lambda s.i.D7 s.A4) fun r2=>.KG (z8 ({s with c:=(⟨s.c.L5,s.c.af5,s.c.ab9,r2.1,s.c.P5,s.c.af8⟩:A9)}:o4) r2.2) [] fun v=>.D [] []<| .K (aq8 v.c.Q5 v.i.D7 v.A4) fun r3=>.KG (z8 v r3.2) [] fun v2=>.K (aU8 v2.A4 1000) fun r4=>.KG (z8 v2 r4.2) [] fun v3=>.D [] []<| .K (aJ5 v3.b v3.c.P5 (F7 1048576 (j5 (cW7 (j5 (r4.1*r3.1)) 1000)))) fun r5=>.J0 0 (fun(t:Int×Int×o4)=>[.t 5 (.t (tI t.1)),.t 6 (.t (tI t.2.1)),.x 10,.x 11,.x 12,.x 13,.x 14,.x 16,.x 17,.x 18,.x 19,.x 21,.x 22,.x 23,.x 24,.x 26,.x 27,.x 28,.x 33,.x 34,.x 35,.x 36,.x 40,.x 41,.x 42,.x 43,.x 45,.x 46,.x 47,.x 48,.x 50,.x 51,.x 52,.x 57,.x 61,.x 62,.x 63,.x 68,.x 77,.x 78,.x 79,.x 81,.x 82,.x 83,.x 84,.x 91,.x 92,.x 93,.b 1000000 (.box (aw2 (R5 t.2.2) [(63,.own 1000001)])),.b 1000001 (.rs 293 7 t.2.2.out.O3 B7)]) (.I ((v3.ae9==0)||(r5.2.2 !=0)) (.D [] []<| .K (aP2 v3.b v3.c.P5 0) fun r6=>.KG (z8 v3 r6.2.2) [] fun v4=>.R (0,r6.2.1,v4)) (.R (r5.1,r5.2.1,v3))) fun s2=>.I (decide (s2.1>0)) (.D [] []<| .K (aP3 s2.2.2.t s2.1 s2.2.2.i.aI5) fun r7=>.KG (z8 (⟨s2.2.2.t,s2.2.2.e,s2.2.2.b,(⟨s2.2.2.c.L5,s2.2.2.c.af5,s2.2.2.c.ab9,s2.2.2.c.Q5,s2.2.1,s2.2.2.c.af8⟩:A9),s2.2.2.i,s2.2.2.wanted,s2.2.2.A4,s2.2.2.ae9,s2.2.2.late,s2.2.2.pattern,s2.2.2.time,s2.2.2.out,s2.2.2.fail⟩:o4) r7.2) [] fun v5=>.K (D0 r7.1 200 20000) fun v6=>.R ({v5 with time:=v6}:o4)) (.R (⟨s2.2.2.t,s2.2.2.e,s2.2.2.b,(⟨s2.2.2.c.L5,s2.2.2.c.af5,s2.2.2.c.ab9,s2.2.2.c.Q5,s2.2.1,s2.2.2.c.af8⟩:A9),s2.2.2.i,s2.2.2.wanted,s2.2.2.A4,s2.2.2.ae9,s2.2.2.late,s2.2.2.pattern,s2.2.2.time,s2.2.2.out,s2.2.2.fail⟩:o4)))
def aB3 (k:C1):C prog Bool:=.of Z call400 func400 [aX7 k] (fun r=>.t (tB r)) (
 .K (ax4 k) fun v=>.R (!v))
def aG3 (n2:Int):C prog Bool:=.of Z call401 func401 [.t (tI n2)] (fun r=>.t (tB r)) (
 .K (ai0 n2) fun v=>.R (!v))
def ae2 (s:List C1):CG prog (List C1):=.of Z call402 func402 [.t (tS I8 s)] [] (fun _=>.own 900000) (fun r=>[(900000,.rs 237 3 r I8)]) [900000] (
 .Nl I8 s (.I true (.Z (.np 2 70000 237 3 [])<| .R ([]:List C1)) .N) (fun s=>.I false .N (.U (.ap I8 ([]:List C1) s 5) fun l=>.R l)))
def aH8 (k:C1)(n2:Int):C prog (C1×Bool):=.of Z call403 func403 [aX7 k,.t (tI n2)] (fun r=>.P4 [aX7 r.1,.t (tB r.2)]) (
 .I (decide (n2>(j5 ((j5 (3*k.aI2))+40)))) (.R ((⟨F7 (j5 (k.at5+96)) 960,k.aI2,0⟩:C1),true)) (.J0 0 (fun(t:Int×Int)=>[.x 7,.x 19,.x 22,.x 23,.b 2 (.box [.t (tI t.1),.t (tI k.aI2),.t (tI t.2)])]) (.I ((j5 (k.Quiet+1))==100) (.R (G8 (j5 (k.at5-16)) 0,0)) (.R (k.at5,j5 (k.Quiet+1)))) fun s=>.D [] []<| .K (W5 (j5 (n2-k.aI2)) 8) fun v=>.R ((⟨s.1,j5 (k.aI2+v),s.2⟩:C1),false)))
def aM5 (l:List C1)(ag5:List Int)(i:Int)(f2:List C1):M prog (List C1×Int) (Fl (List C1) Empty):=
 .D [] [(15,2240)]<| .O (.ix I8 l i) fun x=>.O (.ix aI7 ag5 i) fun x2=>.K (aH8 x x2) fun r2=>.O (.ix I8 f2 i) fun _=>.U (.st I8 f2 i r2.1 0) fun l2=>.R (.next l2)
def aV1 (l:List C1)(ag5:List Int):C prog (List C1×Int):=.of Z call346 func346 [.t (tS I8 l),.t (tS aI7 ag5)] (fun r=>.P4 [.t (tS I8 r.1),.t (tI r.2)]) (
 .G (((decide ((l.length:Int)<1))||(decide ((l.length:Int)>8)))||((ag5.length:Int) !=(l.length:Int))) (.R true) (.K (J5 l (.of (fun z_=>aB3 z_) 400 [])) fun v=>.R v) fun b2=>.I b2 (.R (([]:List C1),1)) (.K (o6 ag5 (.of (fun z_=>aG3 z_) 401 [])) fun v2=>.I v2 (.R (([]:List C1),2)) (.KG (ae2 l) [2240] fun v3=>M.QN (v3.length:Int) 2 33 (fun(t:List C1)=>[.x 30,.x 31,.b 2240 (.rs 237 3 t I8)]) 0 (.e) (aM5 l ag5) v3 (fun f3=>.R (f3,0)) (fun t=>t.elim))))
def aB4 (a b2:Int):C prog Int:=.of Z call455 func455 [.t (tI a),.t (tI b2)] (fun r=>.t (tI r)) (
 .R (j5 (b2-a)))
def aG9 (l:List Int):C prog Bool:=.of Z call432 func432 [.t (tS aI7 l)] (fun r=>.t (tB r)) (
 .K (I3 l (.of (fun z_=>aB4 z_.1 z_.2) 455 [])) fun v=>.R v)
def R4 (x low high:Int):C prog Bool:=.of Z call405 func405 [.t (tI x),.t (tI low),.t (tI high)] (fun r=>.t (tB r)) (
 .R ((decide (x>=low))&&(decide (x<=high))))
def at4 (x c c2:Int):C prog Bool:=.of Z call456 func456 [.t (tI x),.el (aI7 c),.el (aI7 c2)] (fun r=>.t (tB r)) (
 .K (R4 x c c2) fun v=>.R (!v))
def ad8 (l:List Int)(low high:Int):C prog Bool:=.of Z call434 func434 [.t (tS aI7 l),.t (tI low),.t (tI high)] (fun r=>.t (tB r)) (
 .Z (.fb 4)<| .Z (.fb 5)<| .K (o6 l (.of (fun z_=>at4 z_ low high) 456 [aI7 low,aI7 high])) fun v=>.R v)
def aw4 (l:List Int):C prog Bool:=.of Z call433 func433 [.t (tS aI7 l)] (fun r=>.t (tB r)) (
 .K (ad8 l (-1280) 3840) fun v=>.R v)
def ay0 (t2:o7):C prog Bool:=.of Z call404 func404 [T5 t2] (fun r=>.t (tB r)) (
 .K (J6 t2.O2) fun v=>.G (!v) (.R true) (.K (P7 t2.af6) fun v2=>.R (!v2)) fun b2=>.G b2 (.R true) (.K (P7 t2.C7) fun v3=>.R (!v3)) fun b3=>.G b3 (.R true) (.K (aG9 t2.C7.Y) fun v4=>.R (!v4)) fun b4=>.I b4 (.R false) (.K (G2 t2.O2.Z (.of (fun z_=>aw4 z_) 433 [])) fun v5=>.G (!v5) (.K (ad8 t2.af6.Y 500 10000) fun v6=>.R (!v6)) (.R false) fun b5=>.G b5 (.K (ad8 t2.C7.Y 0 1000) fun v7=>.R (!v7)) (.R false) fun b6=>.R b6))
def aG8 (t2:o7)(C3 M7:Int):C prog (Int×Int):=.of Z call347 func347 [T5 t2,.t (tI C3),.t (tI M7)] (fun r=>.P4 [.t (tI r.1),.t (tI r.2)]) (
 .K (ay0 t2) fun v=>.I (!v) (.R (0,1)) (.K (R4 C3 0 20000) fun v2=>.G (!v2) (.R true) (.K (R4 M7 4000 1000000) fun v3=>.R (!v3)) fun b2=>.I b2 (.R (0,2)) (.K (au1 t2.af6 C3) fun v4=>.R (F7 v4 (j5 (cW7 (j5 (3*M7)) 4)),0))))
def aN4 (t2:o7)(o8 A4:Int):C prog (Int×Int):=.of Z call406 func406 [T5 t2,.t (tI o8),.t (tI A4)] (fun r=>.P4 [.t (tI r.1),.t (tI r.2)]) (
 .K (ay0 t2) fun v=>.I (!v) (.R (0,1)) (.K (R4 o8 0 12000) fun v2=>.G (!v2) (.R true) (.K (R4 A4 0 1048576) fun v3=>.R (!v3)) fun b2=>.I b2 (.R (0,2)) (.K (Y9 t2.O2 o8 A4) fun v4=>.R (v4,0))))
def aG7 (t2:o7)(o8 A4 D6 bk4:Int):C prog (Int×Int):=.of Z call348 func348 [T5 t2,.t (tI o8),.t (tI A4),.t (tI D6),.t (tI bk4)] (fun r=>.P4 [.t (tI r.1),.t (tI r.2)]) (
 .K (aN4 t2 o8 A4) fun r2=>.I (r2.2 !=0) (.R (0,r2.2)) (.K (R4 D6 (-40) 150) fun v=>.G (!v) (.R true) (.K (R4 bk4 0 1280) fun v2=>.R (!v2)) fun b2=>.I b2 (.R (0,2)) (.I (decide (D6<20)) (.K (D0 (j5 ((j5 (r2.1+(j5 (2*(j5 (20-D6))))))-bk4)) (-1280) 3840) fun v3=>.R (v3,0)) (.I (decide (D6>100)) (.K (D0 (j5 ((j5 (r2.1-(j5 (8*(j5 (D6-100))))))-bk4)) (-1280) 3840) fun v4=>.R (v4,0)) (.K (D0 (j5 (r2.1-bk4)) (-1280) 3840) fun v5=>.R (v5,0))))))
def ae4 (r3:Int×Int)(i:Int)(f2:o4):M prog o4 (Fl o4 Empty):=
 .D [] []<| .O (.ix I8 f2.c.ab9 i) fun x=>.K (aG7 f2.t f2.i.D7 f2.A4 f2.i.av3 x.at5) fun r4=>.KG (z8 f2 r4.2) [] fun v4=>.O (.ix Pv.dv1 v4.pattern i) fun x2=>.J0 0 (fun(t:Int)=>[.x 70,.x 71,.x 72,.x 74,.x 75,.x 76,.x 77,.x 79,.x 80,.x 81,.x 83,.x 84,.x 85,.x 86,.x 88,.x 89,.x 90,.x 91,.x 100,.x 106,.x 107,.x 108,.x 115,.x 116,.x 117,.c 8 4 [.t (tI t)]]) (.I x2 (.R v4.time) (.R 0)) fun f3=>.Pn 40000<| .D [] [(8,40000)]<| .U (.ap B7 v4.out.O3 ([(⟨j5 (i+1),G8 (-1280) (j5 (r4.1-v4.late)),G8 500 r3.1,5760,f3,0,0⟩:A6)]:List A6) 40000) fun l=>.R (.next ({v4 with out:=(⟨v4.out.J2,l,v4.out.o9⟩:O8)}:o4))
def ab0 (s:o4):CG prog o4:=.of Z call259 func259 [.ptr 1000000 0] [(1000000,.box (aw2 (R5 s) [(63,.own 1000001)])),(1000001,.rs 293 7 s.out.O3 B7)] (fun _=>.P4 []) (fun r=>[(900000,.rs 293 7 r.out.O3 B7),(1000000,.box (aw2 (R5 r) [(63,.own 900000)]))]) [900000] (
 .D [] [(18,1000000)]<| .K (aV1 s.c.ab9 s.i.Y1) fun r2=>.KG (z8 ({s with c:=(⟨s.c.L5,s.c.af5,r2.1,s.c.Q5,s.c.P5,s.c.af8⟩:A9)}:o4) r2.2) [] fun v=>.O (.quo .i64 60000000 (G8 1 v.i.D7)) fun q=>.K (D0 q 4000 1000000) fun v2=>.D [] []<| .K (aG8 v.t v.i.aI5 v2) fun r3=>.KG (z8 v r3.2) [] fun v3=>.I (v3.fail !=0) (.R v3) (.Z (.rn [(1000001,40000)])<|M.QN (v3.e.A7.length:Int) 2 66 (fun(t:o4)=>[.x 10,.x 11,.x 12,.x 13,.x 14,.x 16,.x 17,.x 18,.x 19,.x 24,.x 25,.x 26,.x 27,.x 30,.x 31,.x 32,.x 33,.x 39,.x 40,.x 41,.x 43,.x 44,.x 45,.x 46,.x 52,.x 55,.x 56,.x 57,.x 60,.x 61,.x 62,.x 63,.b 40000 (.rs 293 7 t.out.O3 B7),.b 1000000 (.box (aw2 (R5 t) [(63,.own 40000)]))]) 0 (.e) (ae4 r3) v3 (fun f4=>.R f4) (fun t=>t.elim)))
def aF4 (t2:o7)(e2:o5)(b2:L6)(c:A9)(i:X5):CG prog (A9×O8×Int):=.of Z call178 func178 [T5 t2,au5 e2,aM0 b2,aQ9 c,da0 i] [] (fun r=>.P4 [aQ9 r.1,.agg [.t (tI r.2.1.J2),.own 900000,.t (tI r.2.1.o9)],.t (tI r.2.2)]) (fun r=>[(900000,.rs 293 7 r.2.1.O3 B7)]) [900000] (
 .K (ad0 t2) fun v=>.G (!v) (.R true) (.K (ak1 b2) fun v2=>.R (!v2)) fun b3=>.G b3 (.R true) (.K (aq1 e2 c) fun v3=>.R (!v3)) fun b4=>.I b4 (.Z (.nb 11 70000 293 7 [1])<| .R ((⟨(⟨0,0,false⟩:V1),(⟨0⟩:F9),([]:List C1),(⟨false,false,0,0,([]:List ac0)⟩:N1),0,(⟨0,0⟩:aa8)⟩:A9),(⟨0,([]:List A6),0⟩:O8),1)) (.K (av8 i (e2.A7.length:Int)) fun v4=>.I (!v4) (.Z (.nb 11 70000 293 7 [1])<| .R ((⟨(⟨0,0,false⟩:V1),(⟨0⟩:F9),([]:List C1),(⟨false,false,0,0,([]:List ac0)⟩:N1),0,(⟨0,0⟩:aa8)⟩:A9),(⟨0,([]:List A6),0⟩:O8),2)) (.Z (.nb 46 2388 293 7 [63])<| .KG (X7 (⟨t2,e2,b2,c,i,0,0,0,0,([]:List Bool),0,(⟨0,([]:List A6),0⟩:O8),0⟩:o4)) [] fun v5=>.KG (U7 v5) [] fun v6=>.KG (ab1 v6) [] fun v7=>.KG (ae7 v7) [] fun v8=>.KG (ab0 v8) [2448] fun v9=>.I (v9.fail !=0) (.D [] [(6,10),(7,11)]<| .Z (.nb 11 70000 293 7 [1])<| .R ((⟨(⟨0,0,false⟩:V1),(⟨0⟩:F9),([]:List C1),(⟨false,false,0,0,([]:List ac0)⟩:N1),0,(⟨0,0⟩:aa8)⟩:A9),(⟨0,([]:List A6),0⟩:O8),v9.fail)) (.D [] [(8,10)]<| .R (v9.c,v9.out,0)))))
def bz9 (old:A9):C prog A9:=.of Z call179 func179 [aQ9 old] (fun r=>.fz 260 [bZ2 r]) (
 .Z (.fb 1)<| .R old)
def bE5 (old:O8):C prog O8:=.of Z call180 func180 [dE9 old] (fun r=>.fz 261 [cm4 r]) (
 .Z (.fb 1)<| .R old)
def bq6 (S8:A9)(e2:Int)(c:A9):C prog A9:=.of Z call260 func260 [aQ9 S8,.t (tI e2),.el (bZ2 c)] (fun r=>aQ9 r) (
 .I (e2 !=0) (.R c) (.R S8))
def bv2 (S8:O8)(e2:Int)(c:O8):CG prog O8:=.of Z call261 func261 [.agg [.t (tI S8.J2),.own 1000000,.t (tI S8.o9)],.t (tI e2),.el (cm4 c)] [(1000000,.rs 293 7 S8.O3 B7)] (fun r=>.agg [.t (tI r.J2),.own 900000,.t (tI r.o9)]) (fun r=>[(900000,.rs 293 7 r.O3 B7)]) [900000] (
 .I (e2 !=0) (M.N) (.R S8))
def aU1 (s:j6):CG prog j6:=.of Z call120 func120 [.ptr 1000000 0] [(1000000,.box (aw2 (G9 s) [(107,.own 1000001),(113,.own 1000002)])),(1000001,.rs 293 7 s.F3.O3 B7),(1000002,.rs 409 3 s.A3 u9)] (fun _=>.P4 []) (fun r=>[(900000,.rs 293 7 r.F3.O3 B7),(1000000,.box (aw2 (G9 r) [(107,.own 900000),(113,.own 1000002)])),(1000002,.rs 409 3 r.A3 u9)]) [900000] (
 .D [] []<| .K (D3 s 0) fun v=>.K (D3 s 1) fun v2=>.Mk aI7 (s.u.j3.A1.A7.length:Int) 0 fun l=>.K (bi9 s) fun v3=>.Z (.fr 40)<| .Z (.fr 43)<| .D [] [(17,2504),(24,4),(25,5)]<| .KG (aF4 s.u.A0 s.u.j3.A1 s.u.ab7 s.u.w9 (⟨v,v2,s.o8,s.C5,s.aQ7,13500,s.aJ8,s.D6,l,([v3]:List j1)⟩:X5)) [2504] fun r2=>.D [] []<| .K (bz9 s.u.w9) fun v4=>.K (bq6 r2.1 r2.2.2 v4) fun v5=>.Pn 2504<| .D [] [(5,2504)]<| .K (bE5 (⟨0,([]:List A6),0⟩:O8)) fun v6=>.KG (bv2 r2.2.1 r2.2.2 v6) [2504] fun v7=>.R ({s with u:=(⟨s.u.A0,v5,s.u.j3,s.u.Q8,s.u.M9,s.u.I2,s.u.M3,s.u.K4,s.u.M5,s.u.D9,s.u.B3,s.u.ab7,s.u.Time⟩:af9),F3:=v7}:j6))
def V3 (r2:j1):C prog Bool:=.of Z call265 func265 [H2 r2] (fun r=>.t (tB r)) (
 .K (S9 r2) fun v=>.R (!v))
def ar0 (bp1:List Int)(x i below:Int):M prog (Int×Int) (Fl Int Empty):=
 .O (.ix aI7 bp1 i) fun x2=>.I (decide (x2<=x)) (.R (.next i)) (.R (.next below))
def af1 (bp1:List Int)(x:Int)(s:Int×Int):M prog (Int×Int) ((Int×Int)⊕((Int×Int)⊕Empty)):=
 .I (decide (s.1>=0)) (.O (.ix aI7 bp1 s.1) fun x3=>.I (decide (x3>=x)) (.R (.inl (j5 (s.1-1),s.1))) (.R (.inl (j5 (s.1-1),s.2)))) (.R (.inr (.inl (s.1,s.2))))
def ag8 (bp1:List Int)(x:Int):C prog (Int×Int):=.of Z call351 func351 [.t (tS aI7 bp1),.t (tI x)] (fun r=>.P4 [.t (tI r.1),.t (tI r.2)]) (
 M.QN (bp1.length:Int) 2 11 (fun(t:Int)=>[.t 4 (.t (tI t))]) 0 (.e) (ar0 bp1 x) 0 (fun cL1=>.L (fun(t:Int×Int)=>[.t 5 (.t (tI t.2)),.t 8 (.t (tI t.1))]) 2 (.e) (af1 bp1 x) (j5 ((bp1.length:Int)-1),j5 ((bp1.length:Int)-1)) (fun s2=>.O (.ix aI7 bp1 0) fun x4=>.I (decide (x<x4)) (.R (cL1,0)) (.R (cL1,s2.2))) (fun t=>t.elim)) (fun t=>t.elim))
def Y6 (m2:SMap)(x y:Int):C prog Int:=.of Z call267 func267 [di7 m2,.t (tI x),.t (tI y)] (fun r=>.t (tI r)) (
 .K (ag8 m2.X x) fun r2=>.K (ag8 m2.Y y) fun r3=>.D [] []<| .O (.ix (cY6 aI7) m2.Z r2.1) fun x2=>.O (.ix aI7 x2 r3.1) fun x3=>.W (.hx 1)<| .O (.ix aI7 x2 r3.2) fun x4=>.O (.ix (cY6 aI7) m2.Z r2.2) fun x5=>.O (.ix aI7 x5 r3.1) fun x6=>.W (.hx 1)<| .O (.ix aI7 x5 r3.2) fun x7=>.R (G8 (G8 (G8 x3 x4) x6) x7))
def ax7 (r2:j1):C prog Bool:=.of Z call268 func268 [H2 r2] (fun r=>.t (tB r)) (
 .R ((r2.Kind==2)||(r2.Kind==3)))
set_option maxHeartbeats 4000000
def ag6 (_:Int)(x:j1)(s:Int×Int):M prog (Int×Int) (Fl (Int×Int) Empty):=
 .W (.hx 0)<| .K (ax7 x) fun v6=>.I (!v6) (.R (.next (s.1,s.2))) (.I (x.N7==1) (.R (.next (G8 s.1 (F7 x.o9 1500),G8 s.2 x.E7))) (.R (.next (s.1,G8 s.2 x.E7))))
def ag7 (s2:Int×Int)(_:Int)(x2:j1)(au4:Int):M prog (Int×Int) (Fl Int Empty):=
 .W (.hx 0)<| .I ((x2.Kind==1)&&(decide (x2.E7>s2.2))) (.R (.next (F7 au4 x2.o9))) (.R (.next au4))
def af0 (t2:o7)(bg1 o8:Int)(l:List j1):C prog (Int×Int):=.of Z call182 func182 [T5 t2,.t (tI bg1),.t (tI o8),.t (tS D4 l)] (fun r=>.P4 [.t (tI r.1),.t (tI r.2)]) (
 .K (J6 t2.aI4) fun v=>.G (!v) (.R true) (.K (E4 l (.of (fun z_=>V3 z_) 265 [])) fun v2=>.R v2) fun b2=>.I b2 (.R (0,1)) (.I (decide ((l.length:Int)>32)) (.R (0,5)) (.K (N2 bg1 0 1000) fun v3=>.G (!v3) (.R true) (.K (N2 o8 0 12000) fun v4=>.R (!v4)) fun b3=>.I b3 (.R (0,2)) (.K (Y6 t2.aI4 o8 bg1) fun v5=>M.Q D4 l 2 49 (fun(t:Int×Int)=>[.t 11 (.t (tI t.1)),.t 12 (.t (tI t.2)),.x 4,.x 19,.x 40,.d 4]) 1 (.e) (ag6) ((-5000),(-1)) (fun s2=>M.Q D4 l 2 71 (fun(t:Int)=>[.t 15 (.t (tI t))]) 3 (.e) (ag7 s2) 10000 (fun dK2=>.R (j5 ((G8 0 (F7 dK2 (G8 (F7 (G8 v5 (-5000)) 10000) s2.1)))+100),0)) (fun t=>t.elim)) (fun t=>t.elim)))))
def aq9 (_:Int)(x:A6)(n2:Int):M prog (Int×Int) (Fl Int Empty):=
 .W (.hx 0)<| .I (x.Z7 !=0) (.R (.next (j5 (n2+1)))) (.R (.next n2))
def ax6 (t2:o7)(o8 A4:Int)(l:List A6):C prog (Int×Int):=.of Z call185 func185 [T5 t2,.t (tI o8),.t (tI A4),.t (tS B7 l)] (fun r=>.P4 [.t (tI r.1),.t (tI r.2)]) (
 .K (J6 t2.o9) fun v=>.I (!v) (.R (0,1)) (.I (decide ((l.length:Int)>8)) (.R (0,5)) (.K (N2 o8 0 12000) fun v2=>.G (!v2) (.R true) (.K (N2 A4 0 1048576) fun v3=>.R (!v3)) fun b2=>.I b2 (.R (0,2)) (.I ((l.length:Int)==0) (.R (0,0)) (M.Q B7 l 2 38 (fun(t:Int)=>[.t 10 (.t (tI t)),.x 15]) 1 (.e) (aq9) 0 (fun n3=>.K (Y6 t2.o9 o8 A4) fun v4=>.O (.quo .i64 (j5 ((j5 ((j5 ((F7 (G8 v4 0) 10000)*n3))+(l.length:Int)))-1)) (l.length:Int)) fun q=>.R (q,0)) (fun t=>t.elim))))))
def au9 (c:j6):CG prog Int:=.of Z call184 func184 [.ptr 1000000 0] [(1000000,.box [.ptr 1000001 0]),(1000001,.box (aw2 (G9 c) [(107,.own 1000002),(113,.own 1000003)])),(1000002,.rs 293 7 c.F3.O3 B7),(1000003,.rs 409 3 c.A3 u9)] (fun r=>.t (tI r)) (fun _=>[(1000000,.box [.ptr 1000001 0]),(1000001,.box (aw2 (G9 c) [(107,.own 1000002),(113,.own 1000003)])),(1000002,.rs 293 7 c.F3.O3 B7),(1000003,.rs 409 3 c.A3 u9)]) [] (
 .D [] []<| .K (ax6 c.u.A0 c.o8 c.A4 c.F3.O3) fun r2=>.R r2.1)
def bR1 (old:ai3):C prog ai3:=.of Z call187 func187 [bm2 old] (fun r=>.fz 270 [cP0 r]) (
 .Z (.fb 1)<| .R old)
def bw4 (t2:Int):C prog Bool:=.of Z call271 func271 [.t (tI t2)] (fun r=>.t (tB r)) (
 .K (N2 t2 (-20000) 20000) fun v=>.R v)
def aV4 (g:ai3)(V9 dF7:Int):C prog (ai3×Int):=.of Z call188 func188 [bm2 g,.t (tI V9),.t (tI dF7)] (fun r=>.P4 [bm2 r.1,.t (tI r.2)]) (
 .K (aY6 g) fun v=>.I (!v) (.R ((⟨0,0,false⟩:ai3),1)) (.K (bw4 V9) fun v2=>.G (!v2) (.R true) (.K (bw4 dF7) fun v3=>.R (!v3)) fun b2=>.I b2 (.R ((⟨0,0,false⟩:ai3),2)) (.I (decide (dF7>V9)) (.R ((⟨F7 5 (j5 (g.Over+1)),0,(g.Off||((F7 5 (j5 (g.Over+1)))==5))⟩:ai3),0)) (.R ((⟨0,F7 1000 (j5 (g.Calm+1)),g.Off⟩:ai3),0)))))
def bi7 (S8:ai3)(e2:Int)(c:ai3):C prog ai3:=.of Z call270 func270 [bm2 S8,.t (tI e2),.el (cP0 c)] (fun r=>bm2 r) (
 .I (e2 !=0) (.R c) (.R S8))
def aW9 (i:Int)(f3:List A6):M prog j6 (Fl (List A6) Empty):=
 .O (.ix B7 f3 i) fun x=>.U (.st B7 f3 i ({x with Z7:=0}:A6) 0) fun l2=>.R (.next l2)
def aU2 (s:j6):CG prog j6:=.of Z call121 func121 [.ptr 1000000 0] [(1000000,.box (aw2 (G9 s) [(107,.own 1000001),(113,.own 1000002)])),(1000001,.rs 293 7 s.F3.O3 B7),(1000002,.rs 409 3 s.A3 u9)] (fun _=>.P4 []) (fun r=>[(1000000,.box (aw2 (G9 r) [(107,.own 1000001),(113,.own 1000002)])),(1000001,.rs 293 7 r.F3.O3 B7),(1000002,.rs 409 3 r.A3 u9)]) [] (
 .K (bi9 s) fun v=>.D [] []<| .K (ax2 s.u.w9.L5.Value s.o8 s.D6) fun v2=>.J0 0 (fun(t:List j1)=>[.t 2 (.own 11),.x 0,.x 9,.x 11,.x 12,.x 13,.x 14,.x 15,.x 16,.x 17,.x 20,.x 21,.x 22,.x 24,.x 25,.x 26,.b 11 (.rs 276 4 t D4)]) (.I v2 (.U (.ap D4 ([v]:List j1) ([(⟨1,2,1500,1⟩:j1)]:List j1) 11) fun l=>.R l) (.R ([v]:List j1))) fun f2=>.D [] [(18,1000000)]<| .K (af0 s.u.A0 s.u.w9.L5.Value s.o8 f2) fun r2=>.D [] [(24,1000000)]<| .K (aC8 s.u.A0 s.o8 s.C5 s.aQ7) fun r3=>.KG (au9 ({s with V9:=r2.1,A4:=r3.1}:j6)) [] fun v3=>.K (V8 ({s with V9:=r2.1,A4:=r3.1}:j6) 7) fun r4=>.J0 0 (fun(t:Int×Bool×List A6)=>[.t 5 (.t (tI t.1)),.x 2,.x 4,.x 34,.x 35,.x 36,.x 37,.x 38,.x 41,.x 42,.x 43,.x 45,.x 49,.x 50,.x 52,.x 53,.x 54,.x 55,.x 56,.x 58,.x 59,.x 60,.x 62,.x 63,.x 64,.x 66,.x 67,.x 68,.x 73,.x 74,.x 75,.x 76,.x 79,.x 84,.x 85,.x 86,.c 1000000 112 [.t (tB t.2.1)],.b 1000001 (.rs 293 7 t.2.2 B7),.d 11]) (.I ((decide (v3>r2.1))&&(!r4.2)) (M.QN (s.F3.O3.length:Int) 2 102 (fun(t:List A6)=>[.x 2,.x 34,.x 35,.x 36,.x 37,.x 38,.x 41,.x 42,.x 43,.x 45,.x 49,.x 50,.x 52,.x 53,.x 54,.x 55,.x 56,.x 58,.x 59,.x 60,.x 62,.x 63,.x 64,.x 66,.x 67,.x 68,.x 73,.x 74,.x 75,.x 76,.x 79,.x 84,.x 85,.x 86,.x 93,.x 94,.x 95,.x 96,.x 97,.x 98,.x 99,.x 100,.b 1000001 (.rs 293 7 t B7),.d 11]) 0 (.e) (aW9) s.F3.O3 (fun f4=>.KG (au9 ({s with F3:=(⟨s.F3.J2,f4,s.F3.o9⟩:O8),V9:=r2.1,A4:=r3.1,cut:=true}:j6)) [] fun v4=>.R (v4,true,f4)) (fun t=>t.elim)) (.R (v3,s.cut,s.F3.O3))) fun s2=>.D [] []<| .K (bR1 s.u.M3) fun v5=>.K (aV4 s.u.M3 r2.1 s2.1) fun r5=>.K (bi7 r5.1 r5.2 v5) fun v6=>.R ({s with u:=(⟨s.u.A0,s.u.w9,s.u.j3,s.u.Q8,s.u.M9,s.u.I2,v6,s.u.K4,s.u.M5,s.u.D9,s.u.B3,s.u.ab7,s.u.Time⟩:af9),F3:=(⟨s.F3.J2,s2.2.2,s.F3.o9⟩:O8),V9:=r2.1,A4:=r3.1,cut:=s2.2.1}:j6))
def ac9 (a b2:Int):C prog Int:=.of Z call189 func189 [.t (tI a),.t (tI b2)] (fun r=>.t (tI r)) (
 .I ((b2==0)||(b2==(-1))) (.R 0) (.O (.rem a b2) fun q=>.I ((q !=0)&&(!((decide (q<0))==(decide (b2<0))))) (.R (j5 (q+b2))) (.R q)))
def cx7 (n2:Int):C prog Bool:=.of Z call274 func274 [.t (tI n2)] (fun r=>.t (tB r)) (
 .R ((decide (n2>=0))&&(decide (n2<=65535))))
def do7 (p2:Int):C prog Bool:=.of Z call354 func354 [.t (tI p2)] (fun r=>.t (tB r)) (
 .K (cx7 p2) fun v=>.R (!v))
def bK4 (l:List Int):C prog Bool:=.of Z call272 func272 [.t (tS aI7 l)] (fun r=>.t (tB r)) (
 .G ((decide ((l.length:Int)>=1))&&(decide ((l.length:Int)<=16))) (.K (o6 l (.of (fun z_=>do7 z_) 354 [])) fun v=>.R (!v)) (.R false) fun b2=>.R b2)
def bw9 (_ x a:Int):M prog (Int×Int) (Fl Int Empty):=
 .W (.hx 0)<| .R (.next (U3 .i64 (j5 ((j5 ((j5 (5*a))+x))+1)) 65535))
def bo4 (n2:Int)(l:List Int):C prog (Int×Int):=.of Z call190 func190 [.t (tI n2),.t (tS aI7 l)] (fun r=>.P4 [.t (tI r.1),.t (tI r.2)]) (
 .K (bK4 l) fun v=>.I (!v) (.R (0,1)) (.K (aY8 n2) fun v2=>.I (!v2) (.R (0,2)) (M.Q aI7 l 2 18 (fun(t:Int)=>[.t 6 (.t (tI t))]) 0 (.e) (bw9) n2 (fun a2=>.R (a2,0)) (fun t=>t.elim))))
def bB3 (old:ad9):C prog ad9:=.of Z call191 func191 [aT3 old] (fun r=>.fz 273 [dd3 r]) (
 .Z (.fb 1)<| .R old)
def cT4 (q:ad9)(right:Bool):C prog ad9:=.of Z call275 func275 [aT3 q,.t (tB right)] (fun r=>aT3 r) (
 .J0 0 (fun(t:Int)=>[.x 5,.x 6,.c 2 2 [.t (tI t)]]) (.I right (.R (G8 (j5 (q.T6-1)) 0)) (.R (F7 (j5 (q.T6+2)) 7))) fun f2=>.R (⟨q.Question,0,f2,false,(f2==7)⟩:ad9))
def cg0 (q:ad9)(now answer:Int)(l:List Int):C prog (ad9×Int):=.of Z call192 func192 [aT3 q,.t (tI now),.t (tI answer),.t (tS aI7 l)] (fun r=>.P4 [aT3 r.1,.t (tI r.2)]) (
 .K (bj9 q) fun v=>.G (!v) (.R true) (.K (bK4 l) fun v2=>.R (!v2)) fun b2=>.I b2 (.R ((⟨0,0,0,false,false⟩:ad9),1)) (.K (bs6 now) fun v3=>.G (!v3) (.R true) (.K (cx7 answer) fun v4=>.R (!v4)) fun b3=>.I b3 (.R ((⟨0,0,0,false,false⟩:ad9),2)) (.I (!q.Open) (.R ((⟨0,0,0,false,false⟩:ad9),6)) (.I (decide (now<q.ap5)) (.R ((⟨0,0,0,false,false⟩:ad9),16)) (.K (bo4 q.Question l) fun r2=>.K (cT4 q (((r2.1==answer)&&(decide ((j5 (now-q.ap5))>=10000)))&&(decide ((j5 (now-q.ap5))<=20000)))) fun v5=>.R (v5,0))))))
def cx6 (n2:Int):C prog Int:=.of Z call276 func276 [.t (tI n2)] (fun r=>.t (tI r)) (
 .K (aY8 n2) fun v=>.I (!v) (.R 0) (.I ((U3 .i64 n2 1)==1) (.R (dG7 .i64 (G3 .i64 n2 1) 46080)) (.R (G3 .i64 n2 1))))
def cT2 (q:ad9)(now:Int):C prog (ad9×Int×Int):=.of Z call193 func193 [aT3 q,.t (tI now)] (fun r=>.P4 [aT3 r.1,.t (tI r.2.1),.t (tI r.2.2)]) (
 .K (bj9 q) fun v=>.I (!v) (.R ((⟨0,0,0,false,false⟩:ad9),0,1)) (.K (bs6 now) fun v2=>.I (!v2) (.R ((⟨0,0,0,false,false⟩:ad9),0,2)) (.I (q.Open||q.Off) (.R ((⟨0,0,0,false,false⟩:ad9),0,6)) (.K (cx6 q.Question) fun v3=>.D [] [(3,4)]<| .R ((⟨v3,now,q.T6,true,q.Off⟩:ad9),v3,0)))))
def ba0 (S8:ad9)(e2:Int)(c:ad9):C prog ad9:=.of Z call273 func273 [aT3 S8,.t (tI e2),.el (dd3 c)] (fun r=>aT3 r) (
 .I (e2 !=0) (.R c) (.R S8))
def aF6 (s:j6):CG prog j6:=.of Z call122 func122 [.ptr 1000000 0] [(1000000,.box (aw2 (G9 s) [(113,.own 1000001)])),(1000001,.rs 409 3 s.A3 u9)] (fun _=>.P4 []) (fun r=>[(1000000,.box (aw2 (G9 r) [(113,.own 1000001)])),(1000001,.rs 409 3 r.A3 u9)]) [] (
 .J0 0 (fun(t:ad9)=>[.x 10,.x 11,.x 12,.x 13,.x 14,.c 1000000 66 [.t (tI t.Question),.t (tI t.ap5),.t (tI t.T6),.t (tB t.Open),.t (tB t.Off)]]) (.I s.u.K4.Open (.D [] []<| .K (ac9 s.V9 65536) fun v=>.K (bo4 s.u.K4.Question ([s.o8,v,7]:List Int)) fun r2=>.K (V8 s 6) fun r3=>.J0 0 (fun(t:Int)=>[.t 3 (.t (tI t)),.x 10,.x 11,.x 12,.x 13,.x 14,.x 16,.x 17,.x 18,.x 20,.x 21,.x 22,.x 25,.x 27,.x 28,.x 29,.x 30,.x 31,.x 33,.x 38]) (.I r3.2 (.K (ac9 (j5 (r2.1+r3.1)) 65536) fun v2=>.R v2) (.R r2.1)) fun answer=>.D [] []<| .K (bB3 s.u.K4) fun v3=>.K (cg0 s.u.K4 s.t answer ([s.o8,v,7]:List Int)) fun r4=>.K (ba0 r4.1 r4.2 v3) fun v4=>.R v4) (.R s.u.K4)) fun f2=>.D [] [(15,7)]<| .K (cT2 f2 s.t) fun r5=>.D [] []<| .K (bB3 f2) fun v5=>.K (ba0 r5.1 r5.2.2 v5) fun v6=>.R ({s with u:=(⟨s.u.A0,s.u.w9,s.u.j3,s.u.Q8,s.u.M9,s.u.I2,s.u.M3,v6,s.u.M5,s.u.D9,s.u.B3,s.u.ab7,s.u.Time⟩:af9)}:j6))
def bR2 (old:ao8):C prog ao8:=.of Z call194 func194 [bm3 old] (fun r=>.fz 277 [bv6 r]) (
 .Z (.fb 1)<| .R old)
def bU2 (key:Bool)(g:ai3)(q:ad9):C prog Int:=.of Z call278 func278 [.t (tB key),bm2 g,aT3 q] (fun r=>.t (tI r)) (
 .I (!key) (.R 1) (.I g.Off (.R 2) (.I q.Off (.R 3) (.R 0))))
def cg9 (s:ao8)(key:Bool)(g:ai3)(q:ad9)(now:Int):C prog (ao8×Int):=.of Z call195 func195 [bm3 s,.t (tB key),bm2 g,aT3 q,.t (tI now)] (fun r=>.P4 [bm3 r.1,.t (tI r.2)]) (
 .K (bo7 s) fun v=>.G (!v) (.R true) (.K (aY6 g) fun v2=>.R (!v2)) fun b2=>.G b2 (.R true) (.K (bj9 q) fun v3=>.R (!v3)) fun b3=>.I b3 (.R ((⟨false,0,0⟩:ao8),1)) (.K (bK8 now) fun v4=>.I (!v4) (.R ((⟨false,0,0⟩:ao8),2)) (.I (decide (now<s.aR0)) (.R ((⟨false,0,0⟩:ao8),16)) (.D [] []<| .K (bU2 key g q) fun v5=>.I (!((v5==0)==s.W4)) (.R ((⟨(v5==0),v5,now⟩:ao8),0)) (.R ((⟨(v5==0),v5,s.aR0⟩:ao8),0))))))
def aD3 (old:c8):C prog c8:=.of Z call198 func198 [S5 old] (fun r=>.fz 284 [bf2 r]) (
 .Z (.fb 1)<| .R old)
def an7 (S8:c8)(e2:Int)(c:c8):C prog c8:=.of Z call284 func284 [S5 S8,.t (tI e2),.el (bf2 c)] (fun r=>S5 r) (
 .I (e2 !=0) (.R c) (.R S8))
def aH5 (s:j6)(S8:c8)(l:List j8)(e2:Int):CG prog j6:=.of Z call196 func196 [.ptr 1000000 0,S5 S8,.t (tS u9 l),.t (tI e2)] [(1000000,.box (aw2 (G9 s) [(113,.own 1000001)])),(1000001,.rs 409 3 s.A3 u9)] (fun _=>.P4 []) (fun r=>[(900000,.rs 409 3 r.A3 u9),(1000000,.box (aw2 (G9 r) [(113,.own 900000)]))]) [900000] (
 .D [] []<| .K (aD3 s.u.j3) fun v=>.K (an7 S8 e2 v) fun v2=>.I (e2==0) (.Z (.rn [(1000001,2232)])<| .U (.ap u9 s.A3 l 2232) fun l2=>.R ({s with u:=(⟨s.u.A0,s.u.w9,v2,s.u.Q8,s.u.M9,s.u.I2,s.u.M3,s.u.K4,s.u.M5,s.u.D9,s.u.B3,s.u.ab7,s.u.Time⟩:af9),A3:=l2}:j6)) (.R ({s with u:=(⟨s.u.A0,s.u.w9,v2,s.u.Q8,s.u.M9,s.u.I2,s.u.M3,s.u.K4,s.u.M5,s.u.D9,s.u.B3,s.u.ab7,s.u.Time⟩:af9)}:j6)))
def U6 (s:List A6):C prog (List A6):=.of Z call286 func286 [.t (tS B7 s)] (fun r=>.t (tS B7 r)) (
 .Nl B7 s (.I true (.R ([]:List A6)) .N) (fun s=>.I false .N (.U (.ap B7 ([]:List A6) s 5) fun l=>.R l)))
def ak3 (s:List B0):CG prog (List B0):=.of Z call355 func355 [.t (tS I5 s)] [] (fun _=>.own 900000) (fun r=>[(900000,.rs 248 7 r I5)]) [900000] (
 .Nl I5 s (.I true (.Z (.np 2 70000 248 7 [])<| .R ([]:List B0)) .N) (fun s=>.I false .N (.U (.ap I5 ([]:List B0) s 5) fun l=>.R l)))
def L9 (s:c8):CG prog c8:=.of Z call279 func279 [S5 s] [] (fun r=>.agg [.t (tS aI7 r.A1.A7),.t (tI r.A1.as4),.t (tB r.B5.Y2),.t (tI r.B5.At),.t (tI r.B5.I0),.t (tI r.B5.G1),.t (tI r.B5.ab6),.t (tI r.B5.as3),.t (tI r.j9.V5),.t (tS F2 r.j9.j2),.t (tS B7 r.Next),.own 900000,.t (tB r.Cut)]) (fun r=>[(900000,.rs 248 7 r.H7 I5)]) [900000] (
 .KG (ak3 s.H7) [2040] fun v=>.K (U6 s.Next) fun v2=>.R ({s with Next:=v2,H7:=v}:c8))
def ah5 (t2:A2)(channel:Int):CG prog (A2×Int):=.of Z call356 func356 [aN8 t2,.t (tI channel)] [] (fun r=>.P4 [.agg [.t (tI r.1.V5),.own 900000],.t (tI r.2)]) (fun r=>[(900000,.rs 351 4 r.1.j2 F2)]) [900000] (
 .K (ao5 t2) fun v=>.I (!v) (.Z (.nb 4 70000 351 4 [1])<| .R ((⟨0,([]:List j7)⟩:A2),1)) (.I ((decide (channel<0))||(decide (channel>=(t2.j2.length:Int)))) (.Z (.nb 4 70000 351 4 [1])<| .R ((⟨0,([]:List j7)⟩:A2),2)) (.Mk F2 (t2.j2.length:Int) (⟨false,0,false,false⟩:j7) fun l=>.U (.cp F2 l t2.j2) fun l2=>.R ((⟨t2.V5,l2⟩:A2),0))))
def aH0 (t2:A2)(channel:Int)(level:Bool):C prog (A2×List j8×Int):=.of Z call280 func280 [aN8 t2,.t (tI channel),.t (tB level)] (fun r=>.P4 [aN8 r.1,.t (tS u9 r.2.1),.t (tI r.2.2)]) (
 .KG (ah5 t2 channel) [2112] fun r2=>.I (r2.2 !=0) (.R ((⟨0,([]:List j7)⟩:A2),([]:List j8),r2.2)) (.O (.ix F2 r2.1.j2 channel) fun _=>.U (.st F2 r2.1.j2 channel (⟨false,0,false,level⟩:j7) 0) fun l=>.O (.ix F2 t2.j2 channel) fun x2=>.I (x2.L4==level) (.R ((⟨r2.1.V5,l⟩:A2),([]:List j8),0)) (.D [] [(7,6)]<| .R ((⟨r2.1.V5,l⟩:A2),([(⟨t2.V5,channel,level⟩:j8)]:List j8),0))))
def aA3 (t2:A2)(channel:Int):C prog (A2×Int):=.of Z call281 func281 [aN8 t2,.t (tI channel)] (fun r=>.P4 [aN8 r.1,.t (tI r.2)]) (
 .KG (ah5 t2 channel) [2088] fun r2=>.I (r2.2 !=0) (.R ((⟨0,([]:List j7)⟩:A2),r2.2)) (.D [] []<| .O (.ix F2 t2.j2 channel) fun x=>.O (.ix F2 r2.1.j2 channel) fun _=>.U (.st F2 r2.1.j2 channel (⟨false,0,false,x.L4⟩:j7) 0) fun l=>.R ((⟨r2.1.V5,l⟩:A2),0)))
def at3 (j:B0)(c:Int):C prog Bool:=.of Z call282 func282 [bd8 j,.el (aI7 c)] (fun r=>.t (tB r)) (
 .D [] []<| .K (H5 j.Event) fun v=>.R (v==c))
def aK4 (t2:A2)(channel aZ4:Int)(level:Bool):C prog (A2×Int):=.of Z call283 func283 [aN8 t2,.t (tI channel),.t (tI aZ4),.t (tB level)] (fun r=>.P4 [aN8 r.1,.t (tI r.2)]) (
 .KG (ah5 t2 channel) [2120] fun r2=>.I (r2.2 !=0) (.R ((⟨0,([]:List j7)⟩:A2),r2.2)) (.I (decide (aZ4<=t2.V5)) (.R ((⟨0,([]:List j7)⟩:A2),16)) (.I (decide (aZ4>1099511627776)) (.R ((⟨0,([]:List j7)⟩:A2),2)) (.D [] []<| .O (.ix F2 t2.j2 channel) fun x=>.O (.ix F2 r2.1.j2 channel) fun _=>.U (.st F2 r2.1.j2 channel (⟨true,aZ4,level,x.L4⟩:j7) 0) fun l=>.R ((⟨r2.1.V5,l⟩:A2),0)))))
def ad4 (s:c8)(i:Int)(s2:List j8×A2×List B0):M prog (c8×List j8×Int) (Fl (List j8×A2×List B0) Empty):=
 .O (.ix F2 s.j9.j2 i) fun x=>.I (x.L4&&((!((dq1 i 2)==0))||(s.j9.V5==1099511627776))) (.K (aH0 s2.2.1 i false) fun r2=>.U (.ap u9 s2.1 r2.2.1 2528) fun l=>.R (.next (l,r2.1,s2.2.2))) (.K (aA3 s2.2.1 i) fun r3=>.I (!x.L4) (.R (.next (s2.1,r3.1,s2.2.2))) (.Z (.fb 8)<| .K (C6 s.H7 (.of (fun z_=>at3 z_ i) 282 [aI7 i])) fun v3=>.O (.ix I5 s.H7 v3) fun x2=>.J0 0 (fun(t:Int)=>[.x 9,.x 44,.x 68,.x 75,.x 76,.x 79,.x 83,.x 88,.c 17 6 [.t (tI t)],.d 9]) (.I ((!x2.F4)||(decide (x2.At>(j5 (s.j9.V5+5000))))) (.R (F7 (j5 (s.j9.V5+5000)) 1099511627776)) (.R x2.At)) fun f2=>.K (aK4 r3.1 i f2 false) fun r4=>.U (.ap I5 s2.2.2 ([(⟨x2.Event,x2.Left,true,f2⟩:B0)]:List B0) 2944) fun l2=>.R (.next (s2.1,r4.1,l2))))
def ap1 (s:c8):C prog (c8×List j8×Int):=.of Z call197 func197 [S5 s] (fun r=>.P4 [S5 r.1,.t (tS u9 r.2.1),.t (tI r.2.2)]) (
 .K (K1 s) fun v=>.I (!v) (.R ((⟨(⟨([]:List Int),0⟩:o5),(⟨false,0,0,0,0,0⟩:E8),(⟨0,([]:List j7)⟩:A2),([]:List A6),([]:List B0),false⟩:c8),([]:List j8),1)) (.K ((L9 s).f rfl (fun _=>rfl)) fun v2=>.I s.Cut (.R (v2,([]:List j8),0)) (.Z (.np 7 2528 409 3 [])<| .Z (.nb 5 2944 248 7 [11])<|M.QN (s.j9.j2.length:Int) 2 36 (fun(t:List j8×A2×List B0)=>[.t 7 (.own 2528),.x 24,.x 27,.x 28,.x 29,.x 30,.x 32,.x 33,.c 5 8 [.t (tI t.2.1.V5),.t (tS F2 t.2.1.j2)],.b 2528 (.rs 409 3 t.1 u9),.b 2944 (.rs 248 7 t.2.2 I5)]) 0 (.e) (ad4 s) (([]:List j8),v2.j9,([]:List B0)) (fun s3=>.R ((⟨v2.A1,v2.B5,s3.2.1,v2.Next,s3.2.2,true⟩:c8),s3.1,0)) (fun t=>t.elim))))
def ah0 (x:j7):C prog Bool:=.of Z call285 func285 [ba9 x] (fun r=>.t (tB r)) (
 .R x.L4)
def ad5 (s:c8):C prog (c8×Int):=.of Z call199 func199 [S5 s] (fun r=>.P4 [S5 r.1,.t (tI r.2)]) (
 .K (K1 s) fun v=>.I (!v) (.R ((⟨(⟨([]:List Int),0⟩:o5),(⟨false,0,0,0,0,0⟩:E8),(⟨0,([]:List j7)⟩:A2),([]:List A6),([]:List B0),false⟩:c8),1)) (.G (!s.Cut) (.R true) (.K (G7 s.j9.j2 (.of (fun z_=>ah0 z_) 285 [])) fun v2=>.R v2) fun b2=>.I b2 (.R ((⟨(⟨([]:List Int),0⟩:o5),(⟨false,0,0,0,0,0⟩:E8),(⟨0,([]:List j7)⟩:A2),([]:List A6),([]:List B0),false⟩:c8),6)) (.K ((L9 s).f rfl (fun _=>rfl)) fun v3=>.R (({v3 with Cut:=false}:c8),0))))
def ar2 (s:c8)(l:List A6):C prog (c8×Int):=.of Z call200 func200 [S5 s,.t (tS B7 l)] (fun r=>.P4 [S5 r.1,.t (tI r.2)]) (
 .K (K1 s) fun v=>.G (!v) (.R true) (.K (ac2 s.A1 l) fun v2=>.R (!v2)) fun b2=>.I b2 (.R ((⟨(⟨([]:List Int),0⟩:o5),(⟨false,0,0,0,0,0⟩:E8),(⟨0,([]:List j7)⟩:A2),([]:List A6),([]:List B0),false⟩:c8),1)) (.K ((L9 s).f rfl (fun _=>rfl)) fun v3=>.K (U6 l) fun v4=>.R (({v3 with Next:=v4}:c8),0)))
def bi8 (S8:ao8)(e2:Int)(c:ao8):C prog ao8:=.of Z call277 func277 [bm3 S8,.t (tI e2),.el (bv6 c)] (fun r=>bm3 r) (
 .I (e2 !=0) (.R c) (.R S8))
def ba2 (s:j6):CG prog j6:=.of Z call123 func123 [.ptr 1000000 0] [(1000000,.box (aw2 (G9 s) [(113,.own 1000001)])),(1000001,.rs 409 3 s.A3 u9)] (fun _=>.P4 []) (fun r=>[(900000,.rs 409 3 r.A3 u9),(1000000,.box (aw2 (G9 r) [(113,.own 900000)]))]) [900000] (
 .D [] []<| .K (bR2 s.u.M5) fun v=>.K (cg9 s.u.M5 true s.u.M3 s.u.K4 s.t) fun r2=>.K (bi8 r2.1 r2.2 v) fun v2=>.I (!v2.W4) (.K (ap1 s.u.j3) fun r3=>.KG (aH5 ({s with u:=(⟨s.u.A0,s.u.w9,s.u.j3,s.u.Q8,s.u.M9,s.u.I2,s.u.M3,s.u.K4,v2,s.u.D9,s.u.B3,s.u.ab7,s.u.Time⟩:af9)}:j6) r3.1 r3.2.1 r3.2.2) [2416] fun v3=>.R v3) (.J0 0 (fun(t:c8)=>[.x 2,.x 3,.x 4,.x 5,.x 6,.x 9,.x 10,.x 11,.x 12,.x 14,.x 15,.x 16,.x 17,.x 19,.x 20,.x 21,.x 22,.x 24,.x 25,.x 26,.x 32,.x 33,.x 34,.x 35,.x 36,.x 37,.x 38,.x 39,.x 53,.x 54,.x 55,.x 56,.x 57,.c 1000000 37 [.t (tS aI7 t.A1.A7),.t (tI t.A1.as4),.t (tB t.B5.Y2),.t (tI t.B5.At),.t (tI t.B5.I0),.t (tI t.B5.G1),.t (tI t.B5.ab6),.t (tI t.B5.as3),.t (tI t.j9.V5),.t (tS F2 t.j9.j2),.t (tS B7 t.Next),.t (tS I5 t.H7),.t (tB t.Cut)]]) (.I s.u.j3.Cut (.D [] []<| .K (aD3 s.u.j3) fun v4=>.K (ad5 s.u.j3) fun r4=>.K (an7 r4.1 r4.2 v4) fun v5=>.R v5) (.R s.u.j3)) fun f2=>.D [] []<| .K (aD3 f2) fun v6=>.K (ar2 f2 s.F3.O3) fun r5=>.K (an7 r5.1 r5.2 v6) fun v7=>.R ({s with u:=(⟨s.u.A0,s.u.w9,v7,s.u.Q8,s.u.M9,s.u.I2,s.u.M3,s.u.K4,v2,s.u.D9,s.u.B3,s.u.ab7,s.u.Time⟩:af9)}:j6)))
def W0 (j:B0)(c:Int):C prog Bool:=.of Z call416 func416 [bd8 j,.el (aI7 c)] (fun r=>.t (tB r)) (
 .D [] []<| .K (H5 j.Event) fun v=>.R (v==c))
def aA0 (a b2:Int):C prog Int:=.of Z call417 func417 [.t (tI a),.t (tI b2)] (fun r=>.t (tI r)) (
 .O (.quo .i64 a b2) fun q=>.O (.rem a b2) fun q2=>.I (decide (q2>0)) (.R (j5 (q+1))) (.R q))
def W2 (s:c8)(i:Int)(s2:A2×List B0):M prog c8 (Fl (A2×List B0) Empty):=
 .Z (.fb 2)<| .K (C6 s2.2 (.of (fun z_=>W0 z_ i) 416 [aI7 i])) fun v=>.J0 1 (fun(t:Bool)=>[.t 44 (.t (tB t)),.x 21,.x 22,.x 23,.x 24]) (.D [] []<| .Sp (decide (v<0)) (.R true) (.O (.ix I5 s2.2 v) fun x=>.W (.ly 0)<| .R (decide (x.Left>s.B5.as3)))) fun v2=>.I v2 (.R (.next (s2.1,s2.2))) (.O (.ix I5 s2.2 v) fun x2=>.D [] []<| .W (.ly 0)<| .K (aA0 (j5 (x2.Left*s.B5.G1)) s.B5.ab6) fun v3=>.I (decide ((G8 (j5 (s.B5.At+v3)) (j5 (s2.1.V5+1)))>1099511627776)) (.R (.next (s2.1,s2.2))) (.D [] [(17,6)]<| .W (.ly 0)<| .K (ar4 x2.Event.Kind) fun v4=>.K (aK4 s2.1 i (G8 (j5 (s.B5.At+v3)) (j5 (s2.1.V5+1))) v4) fun r2=>.I (r2.2==0) (.U (.st I5 s2.2 v ({x2 with F4:=true}:B0) 0) fun l=>.U (.st I5 l v (⟨x2.Event,x2.Left,true,G8 (j5 (s.B5.At+v3)) (j5 (s2.1.V5+1))⟩:B0) 0) fun l2=>.R (.next (r2.1,l2))) (.R (.next (s2.1,s2.2)))))
def al4 (s:c8):CG prog c8:=.of Z call368 func368 [.ptr 1000000 0] [(1000000,.box (aw2 (aM1 s) [(11,.own 1000001)])),(1000001,.rs 248 7 s.H7 I5)] (fun _=>.P4 []) (fun r=>[(1000000,.box (aw2 (aM1 r) [(11,.own 1000001)])),(1000001,.rs 248 7 r.H7 I5)]) [] (
 .I s.Cut (.R s) (M.QN (s.j9.j2.length:Int) 2 18 (fun(t:A2×List B0)=>[.x 8,.x 9,.x 10,.x 12,.x 13,.x 14,.x 15,.c 1000000 8 [.t (tI t.1.V5),.t (tS F2 t.1.j2)],.b 1000001 (.rs 248 7 t.2 I5)]) 0 (.e) (W2 s) (s.j9,s.H7) (fun s3=>.R ({s with j9:=s3.1,H7:=s3.2}:c8)) (fun t=>t.elim)))
def aI0 (_:Int)(x:j7)(s:Int×Bool):M prog (Int×Bool) (Fl (Int×Bool) Empty):=
 .W (.hx 0)<| .I (x.F4&&((!s.2)||(decide (x.At<s.1)))) (.R (.next (x.At,true))) (.R (.next (s.1,s.2)))
def aN6 (t2:A2):C prog (Int×Bool):=.of Z call369 func369 [aN8 t2] (fun r=>.P4 [.t (tI r.1),.t (tB r.2)]) (
 .K (ao5 t2) fun v=>.I (!v) (.R (0,false)) (M.Q F2 t2.j2 2 14 (fun(t:Int×Bool)=>[.t 4 (.t (tI t.1)),.t 5 (.t (tB t.2)),.x 1,.x 11,.d 1]) 0 (.e) (aI0) (0,false) (fun s2=>.R (s2.1,s2.2)) (fun t=>t.elim)))
def cp9:Go.Shelf.Ren:=⟨fun|6=>418|14=>448|15=>449|20=>468|21=>469|22=>470|23=>471|24=>472|25=>473|26=>474|27=>475|28=>476|29=>377|46=>490|47=>491|48=>492|49=>493|50=>494|57=>508|n=>n,fun|0=>0|3=>3|4=>4|5=>5|9=>9|22=>22|24=>409|25=>491|39=>265|45=>523|46=>524|50=>261|53=>364|55=>413|66=>538|70=>542|76=>551|77=>362|n=>n,fun|n=>n⟩
open Go.Shelf in
def ey7:SlLaysF0.n6 prog cp9:={
 mixed:=by kernel_rfl,
 f6:=⟨Tryz.f418.name,by decide,func418.trans (congrArg some (by kernel_rfl))⟩,
 f14:=⟨Tryz.f448.name,by decide,func448.trans (congrArg some (by kernel_rfl))⟩,
 f15:=func449.trans (congrArg some (by kernel_rfl)),
 f20:=⟨Tryz.f468.name,by decide,func468.trans (congrArg some (by kernel_rfl))⟩,
 f21:=⟨Tryz.f469.name,by decide,func469.trans (congrArg some (by kernel_rfl))⟩,
 f22:=⟨Tryz.f470.name,by decide,func470.trans (congrArg some (by kernel_rfl))⟩,
 f23:=⟨Tryz.f471.name,by decide,func471.trans (congrArg some (by kernel_rfl))⟩,
 f24:=⟨Tryz.f472.name,by decide,func472.trans (congrArg some (by kernel_rfl))⟩,
 f25:=⟨Tryz.f473.name,by decide,func473.trans (congrArg some (by kernel_rfl))⟩,
 f26:=⟨Tryz.f474.name,by decide,func474.trans (congrArg some (by kernel_rfl))⟩,
 f27:=⟨Tryz.f475.name,by decide,func475.trans (congrArg some (by kernel_rfl))⟩,
 f28:=func476.trans (congrArg some (by kernel_rfl)),
 f29:=func377.trans (congrArg some (by kernel_rfl)),
 f46:=⟨Tryz.f490.name,by decide,func490.trans (congrArg some (by kernel_rfl))⟩,
 f47:=func491.trans (congrArg some (by kernel_rfl)),
 f48:=func492.trans (congrArg some (by kernel_rfl)),
 f49:=⟨Tryz.f493.name,by decide,func493.trans (congrArg some (by kernel_rfl))⟩,
 f50:=⟨Tryz.f494.name,by decide,func494.trans (congrArg some (by kernel_rfl))⟩,
 f57:=⟨Tryz.f508.name,by decide,func508.trans (congrArg some (by kernel_rfl))⟩,
 t0:=Tryz.underlying0,
 a0:=Tryz.isAgg0,
 z0:=Tryz.sizeOf0,
 v0:=Tryz.zeroValue0,
 t3:=Tryz.underlying3,
 a3:=Tryz.isAgg3,
 z3:=Tryz.sizeOf3,
 v3:=Tryz.zeroValue3,
 t4:=Tryz.underlying4,
 a4:=Tryz.isAgg4,
 z4:=Tryz.sizeOf4,
 v4:=Tryz.zeroValue4,
 t5:=Tryz.underlying5,
 a5:=Tryz.isAgg5,
 z5:=Tryz.sizeOf5,
 v5:=Tryz.zeroValue5,
 t9:=Tryz.underlying9,
 a9:=Tryz.isAgg9,
 z9:=Tryz.sizeOf9,
 v9:=Tryz.zeroValue9,
 t22:=Tryz.underlying22,
 a22:=Tryz.isAgg22,
 z22:=Tryz.sizeOf22,
 v22:=Tryz.zeroValue22,
 t25:=Tryz.underlying491,
 a25:=Tryz.isAgg491,
 z25:=Tryz.sizeOf491,
 v25:=Tryz.zeroValue491,
 t39:=Tryz.underlying265,
 a39:=Tryz.isAgg265,
 z39:=Tryz.sizeOf265,
 v39:=Tryz.zeroValue265,
 t45:=Tryz.underlying523,
 a45:=Tryz.isAgg523,
 z45:=Tryz.sizeOf523,
 v45:=Tryz.zeroValue523,
 t46:=Tryz.underlying524,
 a46:=Tryz.isAgg524,
 z46:=Tryz.sizeOf524,
 v46:=Tryz.zeroValue524,
 t50:=Tryz.underlying261,
 a50:=Tryz.isAgg261,
 z50:=Tryz.sizeOf261,
 v50:=Tryz.zeroValue261,
 t53:=Tryz.underlying364,
 a53:=Tryz.isAgg364,
 z53:=Tryz.sizeOf364,
 v53:=Tryz.zeroValue364,
 t55:=Tryz.underlying413,
 a55:=Tryz.isAgg413,
 z55:=Tryz.sizeOf413,
 v55:=Tryz.zeroValue413,
 t66:=Tryz.underlying538,
 a66:=Tryz.isAgg538,
 z66:=Tryz.sizeOf538,
 v66:=Tryz.zeroValue538,
 t70:=Tryz.underlying542,
 a70:=Tryz.isAgg542,
 z70:=Tryz.sizeOf542,
 v70:=Tryz.zeroValue542,
 t76:=Tryz.underlying551,
 a76:=Tryz.isAgg551,
 z76:=Tryz.sizeOf551,
 v76:=Tryz.zeroValue551,
 t77:=Tryz.underlying362,
 a77:=Tryz.isAgg362,
 z77:=Tryz.sizeOf362,
 v77:=Tryz.zeroValue362}
def bs7 (s:List j8)(n:Nat)(cs:List (List Tree))(f:j8->j8->Option Int)(h:∀x0 x1,aM2 prog n ([aB6 x0,aB6 x1]++cs.map T.el) (f x0 x1) (fun r=>.t (tI r))):
  bh6 prog 418 [.own 1000000,.fz n cs] [(1000000,.rows 409 3 s.length (s.map u9))] (bT9 f s) (fun _=>.P4 []) (fun r=>[(1000000,.rows 409 3 r.length (r.map u9))]):=
 cp7 (E:=j8) (enc:=u9) (ρ:=cp9) ey7 (k:=3) (fun x=>[.int .i64 x.At,.int .i64 x.Channel,.bool x.L4]) (fun _=>rfl) (fun _=>rfl) (fun x v hv=>by simp only[ca1,eQ1,or_false]at hv;rcases hv with rfl|rfl|rfl<;>rfl) (fun w=>Tryz.isAgg409 w) (fun w=>Tryz.sizeOf409 w) (A:=aB6) (fun _=>rfl) f h s
def Y8 (s:List j8)(f:Cl prog (j8×j8) Int (fun x=>[aB6 x.1,aB6 x.2]) (fun r=>.t (tI r))):CG prog (List j8):=
 ⟨418,[.own 1000000,.fz f.n f.cs],[(1000000,.rows 409 3 s.length (s.map u9))],bT9 (fun x y=>f.f (x,y)) s,fun k=>dh2 (fun x y=>f.e k (x,y)) s,fun _=>.P4 [],fun r=>[(1000000,.rows 409 3 r.length (r.map u9))],[],true,bs7 s f.n f.cs _ (fun x y=>f.ok (x,y)),fun k r h=>dB9 (fun x y r h=>f.le k (x,y) r h) h⟩
def aA4 (_ x:Int)(_:Unit):M prog Int (Fl Unit Int):=
 .W (.hx 0)<| .I (x !=0) (.R (.ret x)) (.R (.next ()))
def ag2 (by8:List Int):C prog Int:=.of Z call420 func420 [.t (tS aI7 by8)] (fun r=>.t (tI r)) (
 M.Q aI7 by8 2 8 (fun(_:Unit)=>[]) 0 (.one .rt) (aA4) () (fun _=>.R 0) (fun r2=>.R r2))
def Y0 (a b2:j8):C prog Int:=.of Z call419 func419 [aB6 a,aB6 b2] (fun r=>.t (tI r)) (
 .D [] []<| .K (F8 a.At b2.At) fun v=>.K (F8 a.Channel b2.Channel) fun v2=>.K (ag2 ([v,v2]:List Int)) fun v3=>.R v3)
def av2 (t2:A2)(N3 i:Int)(s:List j8×List j7):M prog (A2×List j8×Int) (Fl (List j8×List j7) Empty):=
 .O (.ix F2 t2.j2 i) fun x=>.I ((!x.F4)||(decide (x.At>N3))) (.R (.next (s.1,s.2))) (.J0 0 (fun(t:List j8)=>[.t 9 (.own 2496),.x 40,.x 49,.x 51,.b 2496 (.rs 409 3 t u9)]) (.I (!(x.Next==x.L4)) (.U (.ap u9 s.1 ([(⟨x.At,i,x.Next⟩:j8)]:List j8) 2496) fun l=>.R l) (.R s.1)) fun f2=>.O (.ix F2 s.2 i) fun _=>.U (.st F2 s.2 i (⟨false,0,false,x.Next⟩:j7) 0) fun l2=>.R (.next (f2,l2)))
def al5 (t2:A2)(N3:Int):C prog (A2×List j8×Int):=.of Z call370 func370 [aN8 t2,.t (tI N3)] (fun r=>.P4 [aN8 r.1,.t (tS u9 r.2.1),.t (tI r.2.2)]) (
 .KG (ah5 t2 0) [2112] fun r2=>.I (r2.2 !=0) (.R ((⟨0,([]:List j7)⟩:A2),([]:List j8),r2.2)) (.I (decide (N3<t2.V5)) (.R ((⟨0,([]:List j7)⟩:A2),([]:List j8),16)) (.I (decide (N3>1099511627776)) (.R ((⟨0,([]:List j7)⟩:A2),([]:List j8),2)) (.Z (.np 9 2496 409 3 [])<|M.QN (t2.j2.length:Int) 2 35 (fun(t:List j8×List j7)=>[.t 9 (.own 2496),.x 2,.x 12,.x 14,.x 15,.x 24,.x 32,.b 2112 (.rs 351 4 t.2 F2),.b 2496 (.rs 409 3 t.1 u9),.d 2]) 1 (.e) (av2 t2 N3) (([]:List j8),r2.1.j2) (fun s2=>.KG (Y8 s2.1 (.of (fun z_=>Y0 z_.1 z_.2) 419 [])) [] fun v=>.R ((⟨N3,s2.2⟩:A2),v,0)) (fun t=>t.elim)))))
def L3 (s:List B0)(del:Cl prog B0 Bool (fun x=>[bd8 x]) (fun r=>.t (tB r))):CG prog (List B0):=⟨371,[.own 1000000,.fz del.n del.cs],[(1000000,.rs 248 7 s I5)],Pv.L3 s (fun x0=>del.f x0),fun _=>du9 s,(fun _=>.own 900000),(fun r=>[(900000,.rs 248 7 r I5)]),[900000],true,bs4 s del.n del.cs (fun x0=>del.f x0) (fun x0=>del.ok x0),fun _ r h=>br9 h⟩
def ao2 (j:B0)(c:Int):C prog Bool:=.of Z call372 func372 [bd8 j,.el (aI7 c)] (fun r=>.t (tB r)) (
 .R (j.F4&&(j.At==c)))
def Z4 (N3:Int)(s2:List j8×c8):M prog (List j8×c8) ((List j8×c8)⊕((List j8×c8)⊕Empty)):=
 .K (aN6 s2.2.j9) fun r2=>.I ((!r2.2)||(decide (r2.1>N3))) (.R (.inr (.inl (s2.1,s2.2)))) (.D [] [(11,8)]<| .K (al5 s2.2.j9 r2.1) fun r3=>.U (.ap u9 s2.1 r3.2.1 2360) fun l=>.Z (.fb 6)<| .KG (L3 s2.2.H7 (.of (fun z_=>ao2 z_ r2.1) 372 [aI7 r2.1])) [2417] fun v=>.KG (al4 (⟨s2.2.A1,s2.2.B5,r3.1,s2.2.Next,v,s2.2.Cut⟩:c8)) [] fun v2=>.Z (.rn [(2417,2416)])<| .R (.inl (l,v2)))
def ac3 (s:c8)(N3:Int):CG prog (List j8×c8):=.of Z call302 func302 [.ptr 1000000 0,.t (tI N3)] [(1000000,.box (aw2 (aM1 s) [(11,.own 1000001)])),(1000001,.rs 248 7 s.H7 I5)] (fun r=>.t (tS u9 r.1)) (fun r=>[(900000,.rs 248 7 r.2.H7 I5),(1000000,.box (aw2 (aM1 r.2) [(11,.own 900000)]))]) [900000] (
 .Z (.np 5 2360 409 3 [])<| .Z (.rn [(1000001,2416)])<| .L (fun(t:List j8×c8)=>[.t 5 (.own 2360),.b 2360 (.rs 409 3 t.1 u9),.b 2416 (.rs 248 7 t.2.H7 I5),.b 1000000 (.box (aw2 (aM1 t.2) [(11,.own 2416)]))]) 0 (.e) (Z4 N3) (([]:List j8),s) (fun s3=>.K (al5 s3.2.j9 N3) fun r4=>.U (.ap u9 s3.1 r4.2.1 2360) fun l2=>.Z (.fr 2360)<| .R (l2,(⟨s3.2.A1,s3.2.B5,r4.1,s3.2.Next,s3.2.H7,s3.2.Cut⟩:c8))) (fun t=>t.elim))
def U0 (s:c8)(N3:Int):C prog (c8×List j8×Int):=.of Z call211 func211 [S5 s,.t (tI N3)] (fun r=>.P4 [S5 r.1,.t (tS u9 r.2.1),.t (tI r.2.2)]) (
 .K (K1 s) fun v=>.I (!v) (.R ((⟨(⟨([]:List Int),0⟩:o5),(⟨false,0,0,0,0,0⟩:E8),(⟨0,([]:List j7)⟩:A2),([]:List A6),([]:List B0),false⟩:c8),([]:List j8),1)) (.I (decide (N3<s.j9.V5)) (.R ((⟨(⟨([]:List Int),0⟩:o5),(⟨false,0,0,0,0,0⟩:E8),(⟨0,([]:List j7)⟩:A2),([]:List A6),([]:List B0),false⟩:c8),([]:List j8),16)) (.I (decide (N3>1099511627776)) (.R ((⟨(⟨([]:List Int),0⟩:o5),(⟨false,0,0,0,0,0⟩:E8),(⟨0,([]:List j7)⟩:A2),([]:List A6),([]:List B0),false⟩:c8),([]:List j8),2)) (.KG (L9 s) [2208] fun v2=>.KG (ac3 v2 N3) [2224] fun r2=>.R (r2.2,r2.1,0)))))
def aY4 (s:j6)(aZ4:Int):CG prog j6:=.of Z call287 func287 [.ptr 1000000 0,.t (tI aZ4)] [(1000000,.box (aw2 (G9 s) [(113,.own 1000001)])),(1000001,.rs 409 3 s.A3 u9)] (fun _=>.P4 []) (fun r=>[(900000,.rs 409 3 r.A3 u9),(1000000,.box (aw2 (G9 r) [(113,.own 900000)]))]) [900000] (
 .K (U0 s.u.j3 aZ4) fun r2=>.KG (aH5 s r2.1 r2.2.1 r2.2.2) [2120] fun v=>.K (ap1 v.u.j3) fun r3=>.KG (aH5 v r3.1 r3.2.1 r3.2.2) [2208] fun v2=>.R v2)
def ba3 (s:j6)(S8:ab5)(aZ4:Int):CG prog j6:=.of Z call201 func201 [.ptr 1000000 0,aP9 S8,.t (tI aZ4)] [(1000000,.box (aw2 (G9 s) [(113,.own 1000001)])),(1000001,.rs 409 3 s.A3 u9)] (fun _=>.P4 []) (fun r=>[(900000,.rs 409 3 r.A3 u9),(1000000,.box (aw2 (G9 r) [(113,.own 900000)]))]) [900000] (
 .I ((s.u.Q8.Mode !=0)&&(S8.Mode==0)) (.K (cx3) fun v=>.KG (aY4 ({s with u:=(⟨s.u.A0,s.u.w9,s.u.j3,S8,v,s.u.I2,s.u.M3,s.u.K4,s.u.M5,s.u.D9,s.u.B3,s.u.ab7,s.u.Time⟩:af9)}:j6) aZ4) [2256] fun v2=>.R v2) (.R ({s with u:=(⟨s.u.A0,s.u.w9,s.u.j3,S8,s.u.M9,s.u.I2,s.u.M3,s.u.K4,s.u.M5,s.u.D9,s.u.B3,s.u.ab7,s.u.Time⟩:af9)}:j6)))
def bB4 (old:ab5):C prog ab5:=.of Z call202 func202 [aP9 old] (fun r=>.fz 288 [dd4 r]) (
 .Z (.fb 1)<| .R old)
def bX1 (w:aI8)(s:ab5):C prog Bool:=.of Z call357 func357 [aC7 w,aP9 s] (fun r=>.t (tB r)) (
 .D [] []<| .K (aT1 w) fun v=>.R (s.ay9==(j5 (v-1))))
def bm0 (w:aI8)(s:ab5):C prog Int:=.of Z call289 func289 [aC7 w,aP9 s] (fun r=>.t (tI r)) (
 .K (bX1 w s) fun v=>.I v (.R (j5 ((j5 (w.aQ0+1))*s.O1))) (.R s.O1))
def ch3 (w:aI8)(s:ab5)(now:Int):C prog (ab5×Int):=.of Z call203 func203 [aC7 w,aP9 s,.t (tI now)] (fun r=>.P4 [aP9 r.1,.t (tI r.2)]) (
 .K (bx7 w s) fun v=>.I (!v) (.R ((⟨0,0,0,0,0,0⟩:ab5),1)) (.K (bg5 now) fun v2=>.I (!v2) (.R ((⟨0,0,0,0,0,0⟩:ab5),2)) (.I ((s.Mode !=0)&&(decide (now<s.H6))) (.R ((⟨0,0,0,0,0,0⟩:ab5),16)) (.J0 0 (fun(t:Int)=>[.t 8 (.t (tI t)),.x 3,.x 21,.d 3]) (.I (s.Mode==2) (.K (bm0 w s) fun v3=>.R (j5 (4*v3))) (.I (decide (s.aw7>0)) (.R (j5 (4*s.O1))) (.R 1000000))) fun most=>.I ((s.Mode !=0)&&(decide ((j5 (now-s.H6))>most))) (.R ((⟨0,0,0,0,0,0⟩:ab5),0)) (.R (s,0))))))
def bx9 (p2:Int):C prog Bool:=.of Z call358 func358 [.t (tI p2)] (fun r=>.t (tB r)) (
 .R ((decide (p2>=0))&&(decide (p2<=1099511627776))))
def bk9 (b2:Int)(S8:Cl prog Int Int (fun x=>[.t (tI x)]) (fun r=>.t (tI r)))(s:List Int×Int):M prog (List Int×Int) ((List Int×Int)⊕((List Int×Int)⊕(List Int×Int))):=
 .I (decide (s.2<=b2)) (.I ((s.1.length:Int)==1000) (.R (.inr (.inr (([]:List Int),5)))) (.U (.ap aI7 s.1 ([s.2]:List Int) 2304) fun l=>.K (S8.at s.2) fun v4=>.R (.inl (l,v4)))) (.R (.inr (.inl (s.1,s.2))))
def bm1 (a b2:Int)(S8:Cl prog Int Int (fun x=>[.t (tI x)]) (fun r=>.t (tI r))):C prog (List Int×Int):=.of Z call290 func290 [.t (tI a),.t (tI b2),.fz S8.n S8.cs] (fun r=>.P4 [.t (tS aI7 r.1),.t (tI r.2)]) (
 .K (bx9 a) fun v=>.G (!v) (.R true) (.K (bx9 b2) fun v2=>.R (!v2)) fun b3=>.I (b3||(decide (a>b2))) (.R (([]:List Int),2)) (.K (S8.at a) fun v3=>.Z (.np 8 2304 3 1 [])<| .L (fun(t:List Int×Int)=>[.t 8 (.own 2304),.t 9 (.t (tI t.2)),.b 2304 (.rs 3 1 t.1 aI7)]) 0 (.one .rt) (bk9 b2 S8) (([]:List Int),v3) (fun s2=>.R (s2.1,0)) (fun r2=>.R r2)))
def bd1 (w:aI8):C prog Int:=.of Z call359 func359 [aC7 w] (fun r=>.t (tI r)) (
 .K (aL9 w) fun v=>.I (!v) (.R 0) (.O (.quo .i64 23040 w.aw7) fun q=>.R q))
def ch9 (w:aI8)(p2:Int):C prog (Int×Int):=.of Z call292 func292 [aC7 w,.t (tI p2)] (fun r=>.P4 [.t (tI r.1),.t (tI r.2)]) (
 .K (ac9 p2 23040) fun v=>.K (bd1 w) fun v2=>.O (.quo .i64 (j5 (p2-(j5 (p2-v)))) v2) fun q=>.K (aT1 w) fun v3=>.I (decide ((j5 (q+1))>=v3)) (.R (j5 ((j5 (p2-v))+23040),0)) (.K (bd1 w) fun v4=>.R (j5 ((j5 (p2-v))+(j5 ((j5 (q+1))*v4))),j5 (q+1))))
def ba8 (p2:Int)(c:aI8):C prog Int:=.of Z call291 func291 [.t (tI p2),.el (ce2 c)] (fun r=>.t (tI r)) (
 .K (ch9 c p2) fun r2=>.R r2.1)
def bC2 (w:aI8)(a b2:Int):C prog (List Int×Int):=.of Z call204 func204 [aC7 w,.t (tI a),.t (tI b2)] (fun r=>.P4 [.t (tS aI7 r.1),.t (tI r.2)]) (
 .K (aL9 w) fun v=>.I (!v) (.R (([]:List Int),1)) (.Z (.fb 3)<| .K (bm1 a b2 (.of (fun z_=>ba8 z_ w) 291 [ce2 w])) fun r2=>.R (r2.1,r2.2)))
def aE4 (p2 v _ x:Int)(_:Unit):M prog Int (Fl Unit Int):=
 .W (.hx 0)<| .I (decide ((j5 ((j5 (p2-v))+x))>p2)) (.R (.ret (j5 ((j5 (p2-v))+x)))) (.R (.next ()))
def aN7 (p2:Int)(c:ci7):C prog Int:=.of Z call293 func293 [.t (tI p2),.el (cO9 c)] (fun r=>.t (tI r)) (
 .K (ac9 p2 46080) fun v=>M.Q aI7 c.bz0 2 14 (fun(_:Unit)=>[]) 0 (.one .rt) (aE4 p2 v) () (fun _=>.O (.ix aI7 c.bz0 0) fun x2=>.R (j5 ((j5 ((j5 (p2-v))+46080))+x2))) (fun r2=>.R r2))
def bk8 (c:ci7)(a b2:Int):C prog (List Int×Int):=.of Z call205 func205 [bO1 c,.t (tI a),.t (tI b2)] (fun r=>.P4 [.t (tS aI7 r.1),.t (tI r.2)]) (
 .K (aT2 c) fun v=>.I (!v) (.R (([]:List Int),1)) (.Z (.fb 3)<| .K (bm1 a b2 (.of (fun z_=>aN7 z_ c) 293 [cO9 c])) fun r2=>.R (r2.1,r2.2)))
def aQ3 (s:j6)(_ x:Int)(out:List Int):M prog (List Int) (Fl (List Int) Empty):=
 .W (.hx 0)<| .D [] []<| .K (W5 (j5 (s.u.B3.K7-(j5 (65536*x)))) s.u.B3.D7) fun v=>.U (.ap aI7 out ([j5 (s.t-v)]:List Int) 2328) fun l2=>.R (.next l2)
def aJ4 (s:j6)(l:List Int):CG prog (List Int):=.of Z call206 func206 [.ptr 1000000 0,.t (tS aI7 l)] [(1000000,.box (aw2 (G9 s) [(113,.own 1000001)])),(1000001,.rs 409 3 s.A3 u9)] (fun r=>.t (tS aI7 r)) (fun _=>[(1000000,.box (aw2 (G9 s) [(113,.own 1000001)])),(1000001,.rs 409 3 s.A3 u9)]) [] (
 .D [] []<| .Z (.np 7 2328 3 1 [])<|M.Q aI7 l 2 24 (fun(t:List Int)=>[.t 7 (.own 2328),.x 10,.x 11,.x 12,.x 13,.x 14,.x 16,.x 17,.x 18,.x 19,.x 20,.b 2328 (.rs 3 1 t aI7)]) 0 (.e) (aQ3 s) ([]:List Int) (fun do1=>.Z (.fr 2328)<| .R do1) (fun t=>t.elim))
def bv3 (old:ae3):C prog ae3:=.of Z call208 func208 [aX8 old] (fun r=>.fz 295 [cP2 r]) (
 .Z (.fb 1)<| .R old)
def cx2 (c:ci7)(p2:ae3):C prog (ae3×Int):=.of Z call209 func209 [bO1 c,aX8 p2] (fun r=>.P4 [aX8 r.1,.t (tI r.2)]) (
 .K (bo3 c p2) fun v=>.I (!v) (.R ((⟨false,0,0,false⟩:ae3),1)) (.I p2.Seen (.R (({p2 with Count:=F7 16 (j5 (p2.Count+1))}:ae3),0)) (.R (p2,0))))
def aT8 (S8:ae3)(e2:Int)(c:ae3):C prog ae3:=.of Z call295 func295 [aX8 S8,.t (tI e2),.el (cP2 c)] (fun r=>aX8 r) (
 .I (e2 !=0) (.R c) (.R S8))
def ba4 (c:j6)(c2:List Int):CG prog (j6×List Int):=.of Z call207 func207 [.ptr 1000000 0,.ptr 1000003 0] [(1000000,.box [.ptr 1000001 0]),(1000001,.box (aw2 (G9 c) [(113,.own 1000002)])),(1000002,.rs 409 3 c.A3 u9),(1000003,.box [.t (tS aI7 c2)])] (fun _=>.P4 []) (fun r=>[(1000000,.box [.ptr 1000001 0]),(1000001,.box (aw2 (G9 r.1) [(113,.own 1000002)])),(1000002,.rs 409 3 r.1.A3 u9),(1000003,.box [.t (tS aI7 r.2)])]) [] (
 .D [] []<| .K (bv3 c.u.M9) fun v=>.K (bE4) fun v2=>.K (cx2 v2 c.u.M9) fun r2=>.K (aT8 r2.1 r2.2 v) fun v3=>.U (.sF aI7 c2 1 (c2.length:Int)) fun l=>.R (({c with u:=(⟨c.u.A0,c.u.w9,c.u.j3,c.u.Q8,v3,c.u.I2,c.u.M3,c.u.K4,c.u.M5,c.u.D9,c.u.B3,c.u.ab7,c.u.Time⟩:af9)}:j6),l))
def ba1 (S8:ab5)(e2:Int)(c:ab5):C prog ab5:=.of Z call288 func288 [aP9 S8,.t (tI e2),.el (dd4 c)] (fun r=>aP9 r) (
 .I (e2 !=0) (.R c) (.R S8))
def bg6 (f2:aa7):C prog Int:=.of Z call361 func361 [bc0 f2] (fun r=>.t (tI r)) (
 .K (aH1 f2) fun v=>.I ((!v)||(!f2.Seen)) (.R 0) (.R (G8 20 (j5 (cW7 f2.G1 4)))))
def bk7 (f2:aa7)(t2:Int):C prog (aa7×Bool×Int):=.of Z call296 func296 [bc0 f2,.t (tI t2)] (fun r=>.P4 [bc0 r.1,.t (tB r.2.1),.t (tI r.2.2)]) (
 .K (aH1 f2) fun v=>.I (!v) (.R ((⟨false,0,0⟩:aa7),false,1)) (.K (aV8 t2) fun v2=>.I (!v2) (.R ((⟨false,0,0⟩:aa7),false,2)) (.I (f2.Seen&&(decide (t2<f2.H6))) (.R ((⟨false,0,0⟩:aa7),false,16)) (.J0 1 (fun(t:Bool)=>[.t 28 (.t (tB t)),.x 19]) (.D [] []<| .Sp f2.Seen (.K (bg6 f2) fun v3=>.R (decide ((j5 (t2-f2.H6))<v3))) (.R false)) fun v4=>.I v4 (.R (f2,false,0)) (.I f2.Seen (.R ((⟨true,t2,j5 (t2-f2.H6)⟩:aa7),true,0)) (.R ((⟨true,t2,0⟩:aa7),true,0)))))))
def bM0 (old:aa7):C prog aa7:=.of Z call297 func297 [bc0 old] (fun r=>.fz 362 [cA7 r]) (
 .Z (.fb 1)<| .R old)
def dD0 (w:aI8)(normal period:Int):C prog Bool:=.of Z call410 func410 [aC7 w,.t (tI normal),.t (tI period)] (fun r=>.t (tB r)) (
 .I (w.aQ0==1) (.R (decide ((j5 (2*period))>(j5 (3*normal))))) (.R (decide (period>(j5 (2*normal))))))
def cy6 (p2 q:Int):C prog Bool:=.of Z call411 func411 [.t (tI p2),.t (tI q)] (fun r=>.t (tB r)) (
 .R (decide ((j5 (4*(G8 (j5 (p2-q)) (j5 (q-p2)))))<=q)))
def cy7 (w:aI8)(s:ab5)(t2:Int):C prog ab5:=.of Z call363 func363 [aC7 w,aP9 s,.t (tI t2)] (fun r=>aP9 r) (
 .I (s.Mode==1) (.G (s.aw7==2) (.K (dD0 w s.O1 (j5 (t2-s.H6))) fun v=>.R v) (.R false) fun b2=>.I b2 (.O (.quo .i64 (j5 (t2-s.H6)) (j5 (w.aQ0+1))) fun q=>.R (⟨2,0,t2,j5 (t2-s.H6),q,0⟩:ab5)) (.G (s.aw7 !=0) (.K (cy6 (j5 (t2-s.H6)) s.O1) fun v2=>.R v2) (.R false) fun b3=>.I b3 (.R (⟨1,0,t2,j5 (t2-s.H6),j5 (t2-s.H6),2⟩:ab5)) (.R (⟨1,0,t2,j5 (t2-s.H6),j5 (t2-s.H6),1⟩:ab5)))) (.I (s.Mode==2) (.K (bm0 w s) fun v3=>.K (cy6 (j5 (t2-s.H6)) v3) fun v4=>.I (!v4) (.R (⟨0,0,0,0,0,0⟩:ab5)) (.K (bX1 w s) fun v5=>.I v5 (.O (.quo .i64 (j5 (t2-s.H6)) (j5 (w.aQ0+1))) fun q2=>.R (⟨2,0,t2,j5 (t2-s.H6),q2,0⟩:ab5)) (.R (⟨2,j5 (s.ay9+1),t2,j5 (t2-s.H6),j5 (t2-s.H6),0⟩:ab5)))) (.R (⟨1,0,t2,0,0,0⟩:ab5))))
def cy5 (w:aI8)(s:ab5)(t2:Int):C prog (ab5×Int):=.of Z call298 func298 [aC7 w,aP9 s,.t (tI t2)] (fun r=>.P4 [aP9 r.1,.t (tI r.2)]) (
 .K (bx7 w s) fun v=>.I (!v) (.R ((⟨0,0,0,0,0,0⟩:ab5),1)) (.K (bg5 t2) fun v2=>.I (!v2) (.R ((⟨0,0,0,0,0,0⟩:ab5),2)) (.I ((s.Mode !=0)&&(decide (t2<=s.H6))) (.R ((⟨0,0,0,0,0,0⟩:ab5),16)) (.K (cy7 w s t2) fun v3=>.R (v3,0)))))
def bL2 (c:ci7):C prog (Int×Int):=.of Z call364 func364 [bO1 c] (fun r=>.P4 [.t (tI r.1),.t (tI r.2)]) (
 .K (aT2 c) fun v=>.I (!v) (.R (0,0)) (.K (cr4 c) fun r2=>.R (r2.1,r2.2)))
def bK0 (c:ci7)(p2:ae3):C prog (ae3×Int):=.of Z call299 func299 [bO1 c,aX8 p2] (fun r=>.P4 [aX8 r.1,.t (tI r.2)]) (
 .K (bo3 c p2) fun v=>.I (!v) (.R ((⟨false,0,0,false⟩:ae3),1)) (.I (!p2.Seen) (.R ((⟨false,0,0,true⟩:ae3),0)) (.K (bL2 c) fun r2=>.J0 0 (fun(t:Int)=>[.t 9 (.t (tI t)),.x 2,.x 16,.x 25,.d 2]) (.I (p2.Count==r2.1) (.R 0) (.I (p2.Count==r2.2) (.R 1) (.R (-1)))) fun half=>.I ((decide (half>=0))&&((!p2.aY1)||(p2.bG7==half))) (.R ((⟨true,j5 (1-half),0,true⟩:ae3),0)) (.R ((⟨false,0,0,true⟩:ae3),0)))))
def bV0 (w:aI8)(cq8:Int):C prog (Int×Int):=.of Z call365 func365 [aC7 w,.t (tI cq8)] (fun r=>.P4 [.t (tI r.1),.t (tI r.2)]) (
 .K (aL9 w) fun v=>.I (!v) (.R (0,1)) (.G (decide (cq8<0)) (.R true) (.K (aT1 w) fun v2=>.R (decide (cq8>=v2))) fun b2=>.I b2 (.R (0,2)) (.K (bd1 w) fun v3=>.R (j5 (cq8*v3),0))))
def bO6 (w:aI8)(t2 cq8 half period:Int):C prog (E8×Int):=.of Z call300 func300 [aC7 w,.t (tI t2),.t (tI cq8),.t (tI half),.t (tI period)] (fun r=>.P4 [bC4 r.1,.t (tI r.2)]) (
 .K (aL9 w) fun v=>.I (!v) (.R ((⟨false,0,0,0,0,0⟩:E8),1)) (.K (bV0 w cq8) fun r2=>.G (r2.2 !=0) (.R true) (.K (av6 t2) fun v2=>.R (!v2)) fun b2=>.I ((((b2||(decide (half<0)))||(decide (half>1)))||(decide (period<(j5 (w.aQ0+1)))))||(decide (period>1073741824))) (.R ((⟨false,0,0,0,0,0⟩:E8),2)) (.K (bd1 w) fun v3=>.J0 0 (fun(t:Int)=>[.c 15 3 [.t (tI t)]]) (.I (cq8==0) (.O (.quo .i64 period (j5 (w.aQ0+1))) fun q=>.R q) (.R period)) fun f2=>.K (aT1 w) fun v4=>.I (cq8==(j5 (v4-1))) (.R ((⟨true,t2,j5 ((j5 (half*23040))+r2.1),f2,v3,j5 (v3*(j5 (w.aQ0+1)))⟩:E8),0)) (.R ((⟨true,t2,j5 ((j5 (half*23040))+r2.1),f2,v3,v3⟩:E8),0)))))
def R6 (aT0 N3:Int):C prog Int:=.of Z call366 func366 [.t (tI aT0),.t (tI N3)] (fun r=>.t (tI r)) (
 .K (ai4 aT0) fun v=>.G (!v) (.R true) (.K (ai4 N3) fun v2=>.R (!v2)) fun b2=>.I b2 (.R (-1)) (.K (ac9 (j5 (N3-aT0)) 46080) fun v3=>.R v3))
def aL1 (c:E8):C prog Int:=.of Z call442 func442 [bC4 c] (fun r=>.t (tI r)) (
 .K (aj7 c) fun v=>.I (!v) (.R 1) (.I (!c.Y2) (.R 6) (.R 0)))
def bm5 (a b2:Int):C prog Int:=.of Z call443 func443 [.t (tI a),.t (tI b2)] (fun r=>.t (tI r)) (
 .K (an5 a b2 2) fun r2=>.R r2.1)
def aF3 (c:E8)(bU8:Int):C prog (Int×Int):=.of Z call412 func412 [bC4 c,.t (tI bU8)] (fun r=>.P4 [.t (tI r.1),.t (tI r.2)]) (
 .K (aL1 c) fun v=>.I (v !=0) (.R (0,v)) (.I ((decide (bU8<0))||(decide (bU8>46080))) (.R (0,2)) (.K (bm5 (j5 (bU8*c.G1)) c.ab6) fun v2=>.R (v2,0))))
def al2 (e2:o5)(aD2:Int):C prog (Int×Bool):=.of Z call444 func444 [au5 e2,.t (tI aD2)] (fun r=>.P4 [.t (tI r.1),.t (tB r.2)]) (
 .K (W8 e2.A7 aD2) fun v=>.D [] []<| .O (.quo .i64 (j5 ((G8 v 0)*46080)) (e2.A7.length:Int)) fun q=>.R (dq1 (j5 (e2.as4+q)) 46080,decide (v>=0)))
def aw0 (e2:o5)(aD2:Int):C prog (Int×Int):=.of Z call413 func413 [au5 e2,.t (tI aD2)] (fun r=>.P4 [.t (tI r.1),.t (tI r.2)]) (
 .K (P0 e2) fun v=>.I (!v) (.R (0,1)) (.K (al2 e2 aD2) fun r2=>.I (!r2.2) (.R (0,7)) (.R (r2.1,0))))
def Z3 (f2:A6)(c:Int):C prog Bool:=.of Z call414 func414 [aP8 f2,.el (aI7 c)] (fun r=>.t (tB r)) (
 .R (f2.p7==c))
def ap0 (f2:A6)(c:o5):C prog Bool:=.of Z call460 func460 [aP8 f2,.el (bR4 c)] (fun r=>.t (tB r)) (
 .K (Y3 c f2) fun v=>.R (!v))
def aw1 (g c:A6):C prog Bool:=.of Z call461 func461 [aP8 g,.el (B7 c)] (fun r=>.t (tB r)) (
 .R (g.p7==c.p7))
def O9 (aZ4 kind bS9:Int)(c:List C0)(c2:A6):CG prog (List C0):=.of Z call462 func462 [.t (tI aZ4),.t (tI kind),.t (tI bS9),.ptr 1000000 0,.el (B7 c2)] [(1000000,.box [.own 1000001]),(1000001,.rs 246 4 c ay4)] (fun _=>.P4 []) (fun r=>[(900000,.rs 246 4 r ay4),(1000000,.box [.own 900000])]) [900000] (
 .D [] []<| .K (ac9 aZ4 46080) fun v=>.Z (.rn [(1000001,2136)])<| .U (.ap ay4 c ([(⟨v,kind,c2.p7,bS9⟩:C0)]:List C0) 2136) fun l=>.R l)
def K8 (d c:Int):C prog Int:=.of Z call463 func463 [.t (tI d),.el (aI7 c)] (fun r=>.t (tI r)) (
 .O (.quo .i64 (j5 (d*23040)) c) fun q=>.R q)
def al1 (f2:A6):C prog Int:=.of Z call464 func464 [aP8 f2] (fun r=>.t (tI r)) (
 .I (f2.Z7==0) (.R 0) (.I (f2.Extra==0) (.R 1) (.R 2)))
def cq0:Go.Shelf.Ren:=⟨fun|6=>465|14=>487|15=>449|20=>499|21=>500|22=>501|23=>502|24=>503|25=>504|26=>505|27=>506|28=>476|29=>377|46=>511|47=>491|48=>492|49=>512|50=>513|57=>515|n=>n,fun|0=>0|3=>3|4=>4|5=>5|9=>9|22=>505|24=>246|25=>520|39=>265|45=>523|46=>524|50=>261|53=>364|55=>413|66=>538|70=>542|76=>551|77=>362|n=>n,fun|n=>n⟩
open Go.Shelf in
def ey8:SlLaysF0.n6 prog cq0:={
 mixed:=by kernel_rfl,
 f6:=⟨Tryz.f465.name,by decide,func465.trans (congrArg some (by kernel_rfl))⟩,
 f14:=⟨Tryz.f487.name,by decide,func487.trans (congrArg some (by kernel_rfl))⟩,
 f15:=func449.trans (congrArg some (by kernel_rfl)),
 f20:=⟨Tryz.f499.name,by decide,func499.trans (congrArg some (by kernel_rfl))⟩,
 f21:=⟨Tryz.f500.name,by decide,func500.trans (congrArg some (by kernel_rfl))⟩,
 f22:=⟨Tryz.f501.name,by decide,func501.trans (congrArg some (by kernel_rfl))⟩,
 f23:=⟨Tryz.f502.name,by decide,func502.trans (congrArg some (by kernel_rfl))⟩,
 f24:=⟨Tryz.f503.name,by decide,func503.trans (congrArg some (by kernel_rfl))⟩,
 f25:=⟨Tryz.f504.name,by decide,func504.trans (congrArg some (by kernel_rfl))⟩,
 f26:=⟨Tryz.f505.name,by decide,func505.trans (congrArg some (by kernel_rfl))⟩,
 f27:=⟨Tryz.f506.name,by decide,func506.trans (congrArg some (by kernel_rfl))⟩,
 f28:=func476.trans (congrArg some (by kernel_rfl)),
 f29:=func377.trans (congrArg some (by kernel_rfl)),
 f46:=⟨Tryz.f511.name,by decide,func511.trans (congrArg some (by kernel_rfl))⟩,
 f47:=func491.trans (congrArg some (by kernel_rfl)),
 f48:=func492.trans (congrArg some (by kernel_rfl)),
 f49:=⟨Tryz.f512.name,by decide,func512.trans (congrArg some (by kernel_rfl))⟩,
 f50:=⟨Tryz.f513.name,by decide,func513.trans (congrArg some (by kernel_rfl))⟩,
 f57:=⟨Tryz.f515.name,by decide,func515.trans (congrArg some (by kernel_rfl))⟩,
 t0:=Tryz.underlying0,
 a0:=Tryz.isAgg0,
 z0:=Tryz.sizeOf0,
 v0:=Tryz.zeroValue0,
 t3:=Tryz.underlying3,
 a3:=Tryz.isAgg3,
 z3:=Tryz.sizeOf3,
 v3:=Tryz.zeroValue3,
 t4:=Tryz.underlying4,
 a4:=Tryz.isAgg4,
 z4:=Tryz.sizeOf4,
 v4:=Tryz.zeroValue4,
 t5:=Tryz.underlying5,
 a5:=Tryz.isAgg5,
 z5:=Tryz.sizeOf5,
 v5:=Tryz.zeroValue5,
 t9:=Tryz.underlying9,
 a9:=Tryz.isAgg9,
 z9:=Tryz.sizeOf9,
 v9:=Tryz.zeroValue9,
 t22:=Tryz.underlying505,
 a22:=Tryz.isAgg505,
 z22:=Tryz.sizeOf505,
 v22:=Tryz.zeroValue505,
 t25:=Tryz.underlying520,
 a25:=Tryz.isAgg520,
 z25:=Tryz.sizeOf520,
 v25:=Tryz.zeroValue520,
 t39:=Tryz.underlying265,
 a39:=Tryz.isAgg265,
 z39:=Tryz.sizeOf265,
 v39:=Tryz.zeroValue265,
 t45:=Tryz.underlying523,
 a45:=Tryz.isAgg523,
 z45:=Tryz.sizeOf523,
 v45:=Tryz.zeroValue523,
 t46:=Tryz.underlying524,
 a46:=Tryz.isAgg524,
 z46:=Tryz.sizeOf524,
 v46:=Tryz.zeroValue524,
 t50:=Tryz.underlying261,
 a50:=Tryz.isAgg261,
 z50:=Tryz.sizeOf261,
 v50:=Tryz.zeroValue261,
 t53:=Tryz.underlying364,
 a53:=Tryz.isAgg364,
 z53:=Tryz.sizeOf364,
 v53:=Tryz.zeroValue364,
 t55:=Tryz.underlying413,
 a55:=Tryz.isAgg413,
 z55:=Tryz.sizeOf413,
 v55:=Tryz.zeroValue413,
 t66:=Tryz.underlying538,
 a66:=Tryz.isAgg538,
 z66:=Tryz.sizeOf538,
 v66:=Tryz.zeroValue538,
 t70:=Tryz.underlying542,
 a70:=Tryz.isAgg542,
 z70:=Tryz.sizeOf542,
 v70:=Tryz.zeroValue542,
 t76:=Tryz.underlying551,
 a76:=Tryz.isAgg551,
 z76:=Tryz.sizeOf551,
 v76:=Tryz.zeroValue551,
 t77:=Tryz.underlying362,
 a77:=Tryz.isAgg362,
 z77:=Tryz.sizeOf362,
 v77:=Tryz.zeroValue362}
def bx8 (s:List C0)(n:Nat)(cs:List (List Tree))(f:C0->C0->Option Int)(h:∀x0 x1,aM2 prog n ([aX6 x0,aX6 x1]++cs.map T.el) (f x0 x1) (fun r=>.t (tI r))):
  bh6 prog 465 [.own 1000000,.fz n cs] [(1000000,.rows 246 4 s.length (s.map ay4))] (bT9 f s) (fun _=>.P4 []) (fun r=>[(1000000,.rows 246 4 r.length (r.map ay4))]):=
 cp7 (E:=C0) (enc:=ay4) (ρ:=cq0) ey8 (k:=4) (fun x=>[.int .i64 x.I0,.int .i64 x.Kind,.int .i64 x.p7,.int .i64 x.aj6]) (fun _=>rfl) (fun _=>rfl) (fun x v hv=>by simp only[ca1,eQ1,or_false]at hv;rcases hv with rfl|rfl|rfl|rfl<;>rfl) (fun w=>Tryz.isAgg246 w) (fun w=>Tryz.sizeOf246 w) (A:=aX6) (fun _=>rfl) f h s
def ab4 (s:List C0)(f:Cl prog (C0×C0) Int (fun x=>[aX6 x.1,aX6 x.2]) (fun r=>.t (tI r))):CG prog (List C0):=
 ⟨465,[.own 1000000,.fz f.n f.cs],[(1000000,.rows 246 4 s.length (s.map ay4))],bT9 (fun x y=>f.f (x,y)) s,fun k=>dh2 (fun x y=>f.e k (x,y)) s,fun _=>.P4 [],fun r=>[(1000000,.rows 246 4 r.length (r.map ay4))],[],true,bx8 s f.n f.cs _ (fun x y=>f.ok (x,y)),fun k r h=>dB9 (fun x y r h=>f.le k (x,y) r h) h⟩
def al9 (a b2:C0):C prog Int:=.of Z call466 func466 [aX6 a,aX6 b2] (fun r=>.t (tI r)) (
 .D [] []<| .K (F8 a.I0 b2.I0) fun v=>.K (F8 a.p7 b2.p7) fun v2=>.K (F8 a.Kind b2.Kind) fun v3=>.K (F8 a.aj6 b2.aj6) fun v4=>.K (ag2 ([v,v2,v3,v4]:List Int)) fun v5=>.R v5)
def aD5 (l:List A6)(i:Int)(_:Unit):M prog (List C0×Int) (Fl Unit (List C0×Int)):=
 .O (.ix B7 l i) fun x=>.U (.sF B7 l 0 i) fun l2=>.Z (.fb 9)<| .K (F5 l2 (.of (fun z_=>aw1 z_ x) 461 [B7 x])) fun v4=>.I v4 (.R (.ret (([]:List C0),8))) (.R (.next ()))
def ax0 (e2:o5)(M7 _:Int)(x2:A6)(f2:List C0):M prog (List C0×Int) (Fl (List C0) (List C0×Int)):=
 .W (.hx 0)<| .K (al2 e2 x2.p7) fun r2=>.Z (.fb 12)<| .KG (O9 (j5 (r2.1-x2.O2)) 2 0 f2 x2) [2512] fun v5=>.K (K8 x2.af6 M7) fun v6=>.KG (O9 (j5 ((j5 (r2.1-x2.O2))-(F7 v6 23040))) 1 0 v5 x2) [2584] fun v7=>.D [] []<| .K (K8 x2.Z7 M7) fun v8=>.K (K8 x2.Gap M7) fun v9=>.K (K8 x2.Extra M7) fun v10=>.I (decide ((G8 (G8 v8 v9) v10)>23040)) (.R (.ret (([]:List C0),2))) (.K (al1 x2) fun v11=>.J0 0 (fun(t:List C0)=>[.x 56,.x 62,.x 65,.b 10 (.box [.own 2840]),.b 2840 (.rs 246 4 t ay4),.d 2584]) (.I (decide (v11>0)) (.KG (O9 (j5 (r2.1-x2.End)) 4 1 v7 x2) [2776] fun v12=>.K (K8 x2.Z7 M7) fun v13=>.KG (O9 (j5 ((j5 (r2.1-x2.End))-v13)) 3 1 v12 x2) [2840] fun v14=>.R v14) (.Z (.rn [(2584,2840)])<| .R v7)) fun f3=>.K (al1 x2) fun v15=>.I (decide (v15>1)) (.K (K8 x2.Gap M7) fun v16=>.KG (O9 (j5 ((j5 (r2.1-x2.End))+v16)) 3 2 f3 x2) [2928] fun v17=>.D [] []<| .K (K8 x2.Gap M7) fun v18=>.K (K8 x2.Extra M7) fun v19=>.KG (O9 (j5 ((j5 ((j5 (r2.1-x2.End))+v18))+v19)) 4 2 v17 x2) [3032] fun v20=>.R (.next v20)) (.Z (.rn [(2840,3032)])<| .R (.next f3)))
def aF7 (e2:o5)(l:List A6)(M7:Int):C prog (List C0×Int):=.of Z call445 func445 [au5 e2,.t (tS B7 l),.t (tI M7)] (fun r=>.P4 [.t (tS ay4 r.1),.t (tI r.2)]) (
 .K (P0 e2) fun v=>.Z (.fb 3)<| .G (!v) (.R true) (.K (F5 l (.of (fun z_=>ap0 z_ e2) 460 [bR4 e2])) fun v2=>.R v2) fun b2=>.I b2 (.R (([]:List C0),1)) (.K (M8 M7 4000 1000000) fun v3=>.I (!v3) (.R (([]:List C0),2)) (M.QN (l.length:Int) 2 32 (fun(_:Unit)=>[]) 0 (.one .rt) (aD5 l) () (fun _=>.Z (.fb 5)<| .Z (.nb 10 3032 246 4 [0])<|M.Q B7 l 2 45 (fun(t:List C0)=>[.b 3032 (.rs 246 4 t ay4)]) 2 (.one .rt) (ax0 e2 M7) ([]:List C0) (fun f4=>.KG (ab4 f4 (.of (fun z_=>al9 z_.1 z_.2) 466 [])) [] fun v21=>.R (v21,0)) (fun r3=>.R r3)) (fun r4=>.R r4))))
def C4 (a:Int)(cmp:Cl prog (a7×a7) Int (fun x=>[B1 x.1,B1 x.2]) (fun r=>.t (tI r)))(s2:Int×List a7):M prog (List a7) ((Int×List a7)⊕((Int×List a7)⊕Empty)):=
 .J0 1 (fun(t:Bool)=>[.t 34 (.t (tB t))]) (.D [] []<| .Sp (decide (s2.1>a)) (.O (.ix B2 s2.2 s2.1) fun x=>.W (.ly 0)<| .O (.ix B2 s2.2 (j5 (s2.1-1))) fun x2=>.W (.ly 0)<| .K (cmp.at (x,x2)) fun v=>.R (decide (v<0))) (.R false)) fun v2=>.I v2 (.D [] [(15,1000000)]<| .O (.ix B2 s2.2 (j5 (s2.1-1))) fun x3=>.W (.ly 0)<| .O (.ix B2 s2.2 s2.1) fun x4=>.W (.ly 0)<| .W (.hx 0)<| .U (.st B2 s2.2 s2.1 x3 0) fun l=>.O (.ix B2 l (j5 (s2.1-1))) fun _=>.U (.st B2 l (j5 (s2.1-1)) x4 0) fun l2=>.R (.inl (j5 (s2.1-1),l2))) (.R (.inr (.inl (s2.1,s2.2))))
def B6 (a b2:Int)(cmp:Cl prog (a7×a7) Int (fun x=>[B1 x.1,B1 x.2]) (fun r=>.t (tI r)))(s:Int×List a7):M prog (List a7) ((Int×List a7)⊕((Int×List a7)⊕Empty)):=
 .I (decide (s.1<b2)) (.L (fun(t:Int×List a7)=>[.t 9 (.t (tI t.1)),.b 1000000 (.rs 487 5 t.2 B2)]) 2 (.e) (C4 a cmp) (s.1,s.2) (fun s3=>.R (.inl (j5 (s.1+1),s3.2))) (fun t=>t.elim)) (.R (.inr (.inl (s.1,s.2))))
def B4 (data:List a7)(a b2:Int)(cmp:Cl prog (a7×a7) Int (fun x=>[B1 x.1,B1 x.2]) (fun r=>.t (tI r))):CG prog (List a7):=.of Z call488 func488 [.own 1000000,.t (tI a),.t (tI b2),.fz cmp.n cmp.cs] [(1000000,.rs 487 5 data B2)] (fun _=>.P4 []) (fun r=>[(1000000,.rs 487 5 r B2)]) [] (
 .L (fun(t:Int×List a7)=>[.t 8 (.t (tI t.1)),.b 1000000 (.rs 487 5 t.2 B2)]) 0 (.e) (B6 a b2 cmp) (j5 (a+1),data) (fun s4=>.R s4.2) (fun t=>t.elim))
def I4 (data:List a7)(a m2 b2:Int)(cmp:Cl prog (a7×a7) Int (fun x=>[B1 x.1,B1 x.2]) (fun r=>.t (tI r))):CG prog (List a7):=⟨489,[.own 1000000,.t (tI a),.t (tI m2),.t (tI b2),.fz cmp.n cmp.cs],[(1000000,.rs 487 5 data B2)],none,fun _=>none,(fun _=>.P4 []),(fun r=>[(1000000,.rs 487 5 r B2)]),[],true,⟨call489,fun _ h=>by cases h⟩,fun _ _ h=>by cases h⟩
def K2 (n2:Int)(cmp:Cl prog (a7×a7) Int (fun x=>[B1 x.1,B1 x.2]) (fun r=>.t (tI r)))(s:Int×Int×List a7):M prog (List a7) ((Int×Int×List a7)⊕((Int×Int×List a7)⊕Empty)):=
 .I (decide (s.2.1<=n2)) (.KG (B4 s.2.2 s.1 s.2.1 cmp) [] fun v=>.R (.inl (s.2.1,j5 (s.2.1+20),v))) (.R (.inr (.inl (s.1,s.2.1,s.2.2))))
def N6 (n2:Int)(cmp:Cl prog (a7×a7) Int (fun x=>[B1 x.1,B1 x.2]) (fun r=>.t (tI r)))(s3:Int×List a7)(s4:Int×Int×List a7):M prog (List a7) ((Int×Int×List a7)⊕((Int×Int×List a7)⊕Empty)):=
 .I (decide (s4.2.1<=n2)) (.KG (I4 s4.2.2 s4.1 (j5 (s4.1+s3.1)) s4.2.1 cmp) [] fun v3=>.R (.inl (s4.2.1,j5 (s4.2.1+(j5 (2*s3.1))),v3))) (.R (.inr (.inl (s4.1,s4.2.1,s4.2.2))))
def K3 (n2:Int)(cmp:Cl prog (a7×a7) Int (fun x=>[B1 x.1,B1 x.2]) (fun r=>.t (tI r)))(s3:Int×List a7):M prog (List a7) ((Int×List a7)⊕((Int×List a7)⊕Empty)):=
 .I (decide (s3.1<n2)) (.L (fun(t:Int×Int×List a7)=>[.t 7 (.t (tI t.1)),.t 8 (.t (tI t.2.1)),.b 1000000 (.rs 487 5 t.2.2 B2)]) 4 (.e) (N6 n2 cmp s3) (0,j5 (2*s3.1),s3.2) (fun s5=>.I (decide ((j5 (s5.1+s3.1))<n2)) (.KG (I4 s5.2.2 s5.1 (j5 (s5.1+s3.1)) n2 cmp) [] fun v4=>.R (.inl (j5 (s3.1*2),v4))) (.R (.inl (j5 (s3.1*2),s5.2.2)))) (fun t=>t.elim)) (.R (.inr (.inl (s3.1,s3.2))))
def H4 (data:List a7)(n2:Int)(cmp:Cl prog (a7×a7) Int (fun x=>[B1 x.1,B1 x.2]) (fun r=>.t (tI r))):CG prog (List a7):=.of Z call467 func467 [.own 1000000,.t (tI n2),.fz cmp.n cmp.cs] [(1000000,.rs 487 5 data B2)] (fun _=>.P4 []) (fun r=>[(1000000,.rs 487 5 r B2)]) [] (
 .L (fun(t:Int×Int×List a7)=>[.t 7 (.t (tI t.1)),.t 8 (.t (tI t.2.1)),.b 1000000 (.rs 487 5 t.2.2 B2)]) 0 (.e) (K2 n2 cmp) (0,20,data) (fun s2=>.KG (B4 s2.2.2 s2.1 n2 cmp) [] fun v2=>.L (fun(t:Int×List a7)=>[.t 6 (.t (tI t.1)),.x 23,.b 1000000 (.rs 487 5 t.2 B2)]) 2 (.e) (K3 n2 cmp) (20,v2) (fun s6=>.R s6.2) (fun t=>t.elim)) (fun t=>t.elim))
def D5 (x:List a7)(cmp:Cl prog (a7×a7) Int (fun x=>[B1 x.1,B1 x.2]) (fun r=>.t (tI r))):CG prog (List a7):=.of Z call446 func446 [.own 1000000,.fz cmp.n cmp.cs] [(1000000,.rs 487 5 x B2)] (fun _=>.P4 []) (fun r=>[(1000000,.rs 487 5 r B2)]) [] (
 .KG (H4 x (x.length:Int) cmp) [] fun v=>.R v)
def ad6 (a b2:a7):C prog Int:=.of Z call447 func447 [B1 a,B1 b2] (fun r=>.t (tI r)) (
 .D [] []<| .K (F8 a.cF8 b2.cF8) fun v=>.K (H5 a.x) fun v2=>.K (H5 b2.x) fun v3=>.K (F8 v2 v3) fun v4=>.K (ag2 ([v,v4]:List Int)) fun v5=>.R v5)
def ak2 (begin _:Int)(x:C0)(out:List a7):M prog (List a7×Bool) (Fl (List a7) Empty):=
 .W (.hx 0)<| .D [] []<| .K (R6 begin x.I0) fun v=>.U (.ap B2 out ([(⟨x,v⟩:a7)]:List a7) 2368) fun l=>.R (.next l)
def W6 (x2:(Int×Int))(_:Int)(x3:a7)(s:Int×Int×Int):M prog (List a7×Bool) (Fl (Int×Int×Int) (List a7×Bool)):=
 .W (.hx 0)<| .W (.ly 0)<| .I ((x3.x.Kind !=x2.1)&&(x3.x.Kind !=x2.2)) (.R (.next (s.1,s.2.1,s.2.2))) (.I (((x3.x.Kind !=s.2.2)||(decide (x3.cF8<=s.1)))||(decide (x3.x.aj6<s.2.1))) (.R (.ret (([]:List a7),false))) (.D [] []<| .R (.next (x3.cF8,x3.x.aj6,j5 ((j5 (x2.1+x2.2))-s.2.2)))))
def U2 (v2:List a7)(v3:Int):M prog (List a7×Bool) (Int⊕(Int⊕(List a7×Bool))):=
 .I (decide (v3<2)) (.O (.arr (fun y=>.agg [.t (tI y.1),.t (tI y.2)]) ([(1,2),(3,4)]:List (Int×Int)) v3) fun x2=>.D [] []<|M.Q B2 v2 2 60 (fun(t:Int×Int×Int)=>[.t 17 (.t (tI t.1)),.t 18 (.t (tI t.2.1)),.t 19 (.t (tI t.2.2)),.x 56]) 4 (.one .rt) (W6 x2) ((-1),0,x2.1) (fun _=>.R (.inl (j5 (v3+1)))) (fun r3=>.R (.inr (.inr r3)))) (.R (.inr (.inl v3)))
def ar5 (e2:o5)(f2:A6)(begin M7:Int):C prog (List a7×Bool):=.of Z call415 func415 [au5 e2,aP8 f2,.t (tI begin),.t (tI M7)] (fun r=>.P4 [.t (tS B2 r.1),.t (tB r.2)]) (
 .Z (.fr 25)<| .K (aF7 e2 ([f2]:List A6) M7) fun r2=>.I (r2.2 !=0) (.R (([]:List a7),false)) (.Z (.np 12 2368 487 5 [])<|M.Q ay4 r2.1 2 34 (fun(t:List a7)=>[.t 12 (.own 2368),.x 4,.x 5,.b 2368 (.rs 487 5 t B2),.d 4,.d 5]) 0 (.e) (ak2 begin) ([]:List a7) (fun do1=>.KG (D5 do1 (.of (fun z_=>ad6 z_.1 z_.2) 447 [])) [] fun v2=>.L (fun(t:Int)=>[.t 53 (.t (tI t)),.x 48]) 2 (.one .rt) (U2 v2) 0 (fun _=>.R (v2,true)) (fun r4=>.R r4)) (fun t=>t.elim)))
def ah2 (v _:Int)(x3:a7)(f3:List B0):M prog c8 (Fl (List B0) Empty):=
 .W (.hx 0)<| .Pn 40000<| .D [] [(13,40000)]<| .U (.ap I5 f3 ([(⟨x3.x,j5 (v+x3.cF8),false,0⟩:B0)]:List B0) 40000) fun l=>.R (.next l)
def ah1 (s:c8)(r2:Int×Int)(_ x:Int)(f2:List B0):M prog c8 (Fl (List B0) Empty):=
 .W (.hx 0)<| .D [] []<| .K (aw0 s.A1 x) fun r3=>.K (R6 s.B5.I0 (dq1 (j5 (r3.1+5760)) 46080)) fun v=>.Z (.fb 5)<| .K (H8 s.Next (.of (fun z_=>Z3 z_ x) 414 [aI7 x])) fun v2=>.I ((decide (v>=s.B5.as3))||(decide (v2<0))) (.R (.next f2)) (.D [] []<| .O (.ix B7 s.Next v2) fun x2=>.K (ar5 s.A1 x2 (dq1 (j5 (r3.1+5760)) 46080) r2.1) fun r4=>.I (!r4.2) (.R (.next f2)) (M.Q B2 r4.1 2 90 (fun(t:List B0)=>[.x 34,.x 35,.x 36,.x 45,.x 46,.x 47,.x 48,.x 52,.x 53,.x 54,.x 59,.x 60,.x 61,.x 62,.x 70,.x 71,.x 72,.x 74,.x 75,.x 76,.b 40000 (.rs 248 7 t I5)]) 2 (.e) (ah2 v) f2 (fun f4=>.R (.next f4)) (fun t=>t.elim)))
def ai1 (s:c8):CG prog c8:=.of Z call367 func367 [.ptr 1000000 0] [(1000000,.box (aw2 (aM1 s) [(11,.own 1000001)])),(1000001,.rs 248 7 s.H7 I5)] (fun _=>.P4 []) (fun r=>[(900000,.rs 248 7 r.H7 I5),(1000000,.box (aw2 (aM1 r) [(11,.own 900000)]))]) [900000] (
 .K (aF3 s.B5 23040) fun r2=>.Z (.rn [(1000001,40000)])<|M.Q aI7 s.A1.A7 2 29 (fun(t:List B0)=>[.x 16,.x 17,.x 18,.x 23,.x 24,.x 25,.x 26,.b 40000 (.rs 248 7 t I5)]) 0 (.e) (ah1 s r2) s.H7 (fun f5=>.R ({s with H7:=f5}:c8)) (fun t=>t.elim))
def ab2 (v4 i:Int)(f2:List B0):M prog (c8×List j8×Int) (Fl (List B0) Empty):=
 .D [] []<| .O (.ix I5 f2 i) fun x=>.W (.ly 0)<| .W (.hx 0)<| .U (.st I5 f2 i ({x with Left:=G8 (-1048576) (j5 (x.Left-v4))}:B0) 0) fun l=>.R (.next l)
def am5 (s:c8)(c:E8):C prog (c8×List j8×Int):=.of Z call301 func301 [S5 s,bC4 c] (fun r=>.P4 [S5 r.1,.t (tS u9 r.2.1),.t (tI r.2.2)]) (
 .K (K1 s) fun v=>.G (!v) (.R true) (.K (aj7 c) fun v2=>.R (!v2)) fun b2=>.I b2 (.R ((⟨(⟨([]:List Int),0⟩:o5),(⟨false,0,0,0,0,0⟩:E8),(⟨0,([]:List j7)⟩:A2),([]:List A6),([]:List B0),false⟩:c8),([]:List j8),1)) (.I (!c.Y2) (.R ((⟨(⟨([]:List Int),0⟩:o5),(⟨false,0,0,0,0,0⟩:E8),(⟨0,([]:List j7)⟩:A2),([]:List A6),([]:List B0),false⟩:c8),([]:List j8),6)) (.I (decide (c.At<s.j9.V5)) (.R ((⟨(⟨([]:List Int),0⟩:o5),(⟨false,0,0,0,0,0⟩:E8),(⟨0,([]:List j7)⟩:A2),([]:List A6),([]:List B0),false⟩:c8),([]:List j8),16)) (.KG (L9 s) [2280] fun v3=>.KG (ac3 v3 c.At) [2304] fun r2=>.J0 0 (fun(t:List B0)=>[.x 2,.x 22,.x 27,.x 29,.x 30,.x 36,.x 39,.x 40,.b 2304 (.rs 248 7 t I5),.d 2]) (.I s.B5.Y2 (.K (R6 s.B5.I0 c.I0) fun v4=>M.QN (r2.2.H7.length:Int) 2 51 (fun(t:List B0)=>[.x 2,.x 22,.x 27,.x 29,.x 30,.x 36,.x 39,.x 40,.x 42,.x 43,.x 45,.x 48,.x 49,.b 2304 (.rs 248 7 t I5),.d 2]) 1 (.e) (ab2 v4) r2.2.H7 (fun f3=>.R f3) (fun t=>t.elim)) (.R r2.2.H7)) fun f4=>.I (!r2.2.Cut) (.KG (ai1 (⟨r2.2.A1,c,r2.2.j9,r2.2.Next,f4,r2.2.Cut⟩:c8)) [2592] fun v5=>.I (decide ((v5.H7.length:Int)>200)) (.R ((⟨(⟨([]:List Int),0⟩:o5),(⟨false,0,0,0,0,0⟩:E8),(⟨0,([]:List j7)⟩:A2),([]:List A6),([]:List B0),false⟩:c8),([]:List j8),5)) (.KG (al4 v5) [] fun v6=>.R (v6,r2.1,0))) (.R ((⟨r2.2.A1,c,r2.2.j9,r2.2.Next,f4,r2.2.Cut⟩:c8),r2.1,0))))))
set_option maxHeartbeats 4000000
def bf0 (S8:aa7)(e2:Int)(c:aa7):C prog aa7:=.of Z call362 func362 [bc0 S8,.t (tI e2),.el (cA7 c)] (fun r=>bc0 r) (
 .I (e2 !=0) (.R c) (.R S8))
def bv5 (s:j6)(aZ4:Int):CG prog j6:=.of Z call210 func210 [.ptr 1000000 0,.t (tI aZ4)] [(1000000,.box (aw2 (G9 s) [(113,.own 1000001)])),(1000001,.rs 409 3 s.A3 u9)] (fun _=>.P4 []) (fun r=>[(900000,.rs 409 3 r.A3 u9),(1000000,.box (aw2 (G9 r) [(113,.own 900000)]))]) [900000] (
 .K (bk7 s.u.I2 aZ4) fun r2=>.D [] []<| .K (bM0 s.u.I2) fun v=>.K (bf0 r2.1 r2.2.2 v) fun v2=>.I ((r2.2.2 !=0)||(!r2.2.1)) (.R ({s with u:=(⟨s.u.A0,s.u.w9,s.u.j3,s.u.Q8,s.u.M9,v2,s.u.M3,s.u.K4,s.u.M5,s.u.D9,s.u.B3,s.u.ab7,s.u.Time⟩:af9)}:j6)) (.D [] []<| .K (bB4 s.u.Q8) fun v3=>.K (bt0) fun v4=>.K (cy5 v4 s.u.Q8 aZ4) fun r3=>.K (ba1 r3.1 r3.2 v3) fun v5=>.KG (ba3 ({s with u:=(⟨s.u.A0,s.u.w9,s.u.j3,s.u.Q8,s.u.M9,v2,s.u.M3,s.u.K4,s.u.M5,s.u.D9,s.u.B3,s.u.ab7,s.u.Time⟩:af9)}:j6) v5 aZ4) [2464] fun v6=>.I (v6.u.Q8.Mode !=2) (.R v6) (.J0 0 (fun(t:j6)=>[.x 4,.x 10,.x 11,.x 12,.x 13,.x 20,.x 21,.x 22,.x 23,.x 24,.x 30,.x 31,.x 32,.x 39,.x 40,.x 41,.x 42,.x 43,.x 47,.x 48,.x 49,.x 50,.x 59,.x 60,.x 61,.x 62,.x 63,.x 66,.x 67,.x 68,.x 69,.x 70,.b 2816 (.rs 409 3 t.A3 u9),.b 1000000 (.box (aw2 (G9 t) [(113,.own 2816)])),.d 4,.d 2464]) (.I (v6.u.Q8.ay9==0) (.D [] []<| .K (bv3 v6.u.M9) fun v7=>.K (bE4) fun v8=>.K (bK0 v8 v6.u.M9) fun r4=>.K (aT8 r4.1 r4.2 v7) fun v9=>.I (!v9.aY1) (.KG (aY4 ({v6 with u:=(⟨v6.u.A0,v6.u.w9,v6.u.j3,v6.u.Q8,v9,v6.u.I2,v6.u.M3,v6.u.K4,v6.u.M5,v6.u.D9,v6.u.B3,v6.u.ab7,v6.u.Time⟩:af9)}:j6) aZ4) [2816] fun v10=>.R v10) (.Z (.rn [(2464,2816)])<| .R ({v6 with u:=(⟨v6.u.A0,v6.u.w9,v6.u.j3,v6.u.Q8,v9,v6.u.I2,v6.u.M3,v6.u.K4,v6.u.M5,v6.u.D9,v6.u.B3,v6.u.ab7,v6.u.Time⟩:af9)}:j6))) (.Z (.rn [(2464,2816)])<| .R v6)) fun f2=>.I f2.u.M9.aY1 (.D [] [(25,7)]<| .K (bt0) fun v11=>.K (bO6 v11 aZ4 f2.u.Q8.ay9 f2.u.M9.bG7 f2.u.Q8.G1) fun r5=>.D [] []<| .K (am5 f2.u.j3 r5.1) fun r6=>.KG (aH5 f2 r6.1 r6.2.1 r6.2.2) [3152] fun v12=>.R v12) (.R f2))))
def aU5 (x:Int)(s3:List Int×j6):M prog j6 ((List Int×j6)⊕((List Int×j6)⊕Empty)):=
 .G (decide ((s3.1.length:Int)>0)) (.O (.ix aI7 s3.1 0) fun x2=>.R (decide (x2<=x))) (.R false) fun b2=>.I b2 (.KG (ba4 s3.2 s3.1) [] fun r5=>.R (.inl (r5.2,r5.1))) (.R (.inr (.inl (s3.1,s3.2))))
def aU4 (_ x:Int)(s2:List Int×j6):M prog j6 (Fl (List Int×j6) Empty):=
 .W (.hx 0)<| .L (fun(t:List Int×j6)=>[.b 10 (.box [.t (tS aI7 t.1)]),.b 2312 (.rs 409 3 t.2.A3 u9),.b 1000000 (.box (aw2 (G9 t.2) [(113,.own 2312)]))]) 2 (.e) (aU5 x) (s2.1,s2.2) (fun s4=>.KG (bv5 s4.2 x) [2792] fun v9=>.Z (.rn [(2792,2312)])<| .R (.next (s4.1,v9))) (fun t=>t.elim)
def bj0 (s6:List Int×j6):M prog j6 ((List Int×j6)⊕((List Int×j6)⊕Empty)):=
 .I (decide ((s6.1.length:Int)>0)) (.KG (ba4 s6.2 s6.1) [] fun r6=>.R (.inl (r6.2,r6.1))) (.R (.inr (.inl (s6.1,s6.2))))
def bl3 (s:j6):CG prog j6:=.of Z call124 func124 [.ptr 1000000 0] [(1000000,.box (aw2 (G9 s) [(113,.own 1000001)])),(1000001,.rs 409 3 s.A3 u9)] (fun _=>.P4 []) (fun r=>[(900000,.rs 409 3 r.A3 u9),(1000000,.box (aw2 (G9 r) [(113,.own 900000)]))]) [900000] (
 .D [] []<| .K (bB4 s.u.Q8) fun v=>.K (bt0) fun v2=>.K (ch3 v2 s.u.Q8 s.t) fun r2=>.K (ba1 r2.1 r2.2 v) fun v3=>.KG (ba3 s v3 s.t) [2312] fun v4=>.D [] []<| .K (bt0) fun v5=>.K (bC2 v5 (j5 (cW7 v4.u.B3.K7 65536)) (j5 (cW7 (j5 (v4.u.B3.K7+(j5 (10000*v4.u.B3.D7)))) 65536))) fun r3=>.K (bE4) fun v6=>.K (bk8 v6 (j5 (cW7 v4.u.B3.K7 65536)) (j5 (cW7 (j5 (v4.u.B3.K7+(j5 (10000*v4.u.B3.D7)))) 65536))) fun r4=>.KG (aJ4 v4 r4.1) [] fun v7=>.KG (aJ4 v4 r3.1) [] fun v8=>M.Q aI7 v8 2 81 (fun(t:List Int×j6)=>[.x 0,.x 14,.x 15,.x 16,.x 17,.x 18,.x 22,.x 23,.x 24,.x 25,.x 27,.x 28,.x 29,.x 35,.x 36,.x 37,.x 40,.x 41,.x 42,.x 43,.x 44,.x 46,.x 47,.x 48,.x 49,.x 50,.x 73,.x 76,.x 77,.b 10 (.box [.t (tS aI7 t.1)]),.b 2312 (.rs 409 3 t.2.A3 u9),.b 1000000 (.box (aw2 (G9 t.2) [(113,.own 2312)]))]) 0 (.e) (aU4) (v7,v4) (fun s5=>.L (fun(t:List Int×j6)=>[.b 10 (.box [.t (tS aI7 t.1)]),.b 2312 (.rs 409 3 t.2.A3 u9),.b 1000000 (.box (aw2 (G9 t.2) [(113,.own 2312)]))]) 4 (.e) (bj0) (s5.1,s5.2) (fun s7=>.D [] []<| .K (U0 s7.2.u.j3 (j5 (s7.2.t+10000))) fun r7=>.KG (aH5 s7.2 r7.1 r7.2.1 r7.2.2) [2968] fun v10=>.R v10) (fun t=>t.elim)) (fun t=>t.elim))
def bE6 (f2:A6):C prog Bool:=.of Z call213 func213 [aP8 f2] (fun r=>.t (tB r)) (
 .R (f2.Z7 !=0))
def aB1 (t2:o7)(M7 C3:Int):C prog (Int×Int):=.of Z call214 func214 [T5 t2,.t (tI M7),.t (tI C3)] (fun r=>.P4 [.t (tI r.1),.t (tI r.2)]) (
 .K (aC2 t2 M7 C3) fun r2=>.I (r2.2 !=0) (.R (0,r2.2)) (.R (j5 (3*(G8 0 (j5 (M7-r2.1)))),0)))
def bK1 (b2:L6)(p2:Z8)(fuel air:Int):C prog (Z8×Int×Int):=.of Z call215 func215 [aM0 b2,aX9 p2,.t (tI fuel),.t (tI air)] (fun r=>.P4 [aX9 r.1,.t (tI r.2.1),.t (tI r.2.2)]) (
 .K (bw6 b2 p2) fun v=>.I (!v) (.R ((⟨0,0,0,0,0,([]:List Int)⟩:Z8),0,1)) (.K (G0 fuel 0 1048576) fun v2=>.G (!v2) (.R true) (.K (G0 air 0 1048576) fun v3=>.R (!v3)) fun b3=>.I b3 (.R ((⟨0,0,0,0,0,([]:List Int)⟩:Z8),0,2)) (.D [] []<| .J0 0 (fun(t:Int)=>[.t 14 (.t (tI t)),.x 33,.x 37,.x 39,.x 48,.x 54]) (.I (decide ((j5 ((j5 (fuel-(j5 (cW7 (j5 (fuel*b2.P5)) 1024))))+(j5 (cW7 (j5 (p2.P5*b2.M4)) 1024))))>0)) (.O (.quo .i64 (j5 (10000*air)) (j5 (147*(j5 ((j5 (fuel-(j5 (cW7 (j5 (fuel*b2.P5)) 1024))))+(j5 (cW7 (j5 (p2.P5*b2.M4)) 1024))))))) fun q=>.K (D0 q 500 2000) fun v4=>.R v4) (.R 2000)) fun mixture=>.U (.ap aI7 ([]:List Int) p2.Path 63) fun l=>.U (.ap aI7 l ([mixture]:List Int) 63) fun l2=>.J0 0 (fun(t:List Int)=>[.t 15 (.t (tS aI7 t)),.x 4,.x 64,.x 68,.x 69,.x 70,.x 72,.d 4,.d 63,.d 68]) (.I (decide ((l2.length:Int)>(j5 (b2.aY0+1)))) (.Z (.fr 63)<| .U (.sF aI7 l2 1 (l2.length:Int)) fun l3=>.R l3) (.Z (.fr 63)<| .R l2)) fun path=>.R (({p2 with P5:=j5 (p2.P5+(j5 ((j5 (cW7 (j5 (fuel*b2.P5)) 1024))-(j5 (cW7 (j5 (p2.P5*b2.M4)) 1024))))),Path:=path}:Z8),j5 ((j5 (fuel-(j5 (cW7 (j5 (fuel*b2.P5)) 1024))))+(j5 (cW7 (j5 (p2.P5*b2.M4)) 1024))),0))))
def bv4 (old:Z8):C prog Z8:=.of Z call216 func216 [aX9 old] (fun r=>.fz 304 [cP3 r]) (
 .Z (.fb 1)<| .R old)
def bg3 (w:ap7)(T8 load M7:Int):CG prog ap7:=.of Z call305 func305 [.ptr 1000000 0,.t (tI T8),.t (tI load),.t (tI M7)] [(1000000,.box (bd9 w))] (fun _=>.P4 []) (fun r=>[(1000000,.box (bd9 r))]) [] (
 .D [] []<| .D [] []<| .K (W5 (j5 ((j5 ((j5 ((j5 (T8-load))-(j5 (cW7 (j5 (w.b.ap6*w.B3.D7)) 65536))))*M7))+w.B3.Rest)) w.b.aj5) fun v=>.K (ac9 (j5 ((j5 ((j5 ((j5 (T8-load))-(j5 (cW7 (j5 (w.b.ap6*w.B3.D7)) 65536))))*M7))+w.B3.Rest)) w.b.aj5) fun v2=>.J0 0 (fun(t:Int)=>[.t 10 (.t (tI t)),.x 15,.x 16,.x 17,.x 18,.x 20,.x 21,.x 22,.x 23,.x 30,.x 31,.x 32,.x 33,.x 37,.x 38,.x 39,.x 40,.x 44,.x 45,.x 46,.x 47,.x 50,.x 51,.x 52,.x 53]) (.I ((decide ((j5 (w.B3.D7+v))<0))||(decide ((j5 (w.B3.D7+v))>262144))) (.R 0) (.R v2)) fun rest=>.K (D0 (j5 (w.B3.D7+v)) 0 262144) fun v3=>.R (⟨(⟨w.B3.K7,v3,rest,w.B3.N0,w.B3.P5,w.B3.Path⟩:Z8),w.b⟩:ap7))
def aS2 (w:ap7)(bp0 o8 M7:Int):CG prog ap7:=.of Z call306 func306 [.ptr 1000000 0,.t (tI bp0),.t (tI o8),.t (tI M7)] [(1000000,.box (bd9 w))] (fun _=>.P4 []) (fun r=>[(1000000,.box (bd9 r))]) [] (
 .D [] []<| .D [] []<| .K (W5 (j5 ((j5 ((j5 (cW7 (j5 ((j5 (w.b.J2*bp0))*(j5 (1013-w.B3.N0)))) 1000))-(j5 (cW7 (j5 (o8*w.B3.N0)) 1024))))*M7)) (j5 (65536*w.b.aP6))) fun v=>.K (D0 (j5 (w.B3.N0+v)) 50 1013) fun v2=>.R (⟨(⟨w.B3.K7,w.B3.D7,w.B3.Rest,v2,w.B3.P5,w.B3.Path⟩:Z8),w.b⟩:ap7))
def cf7 (b2:L6)(p2:Z8)(bp0 T8 load M7:Int):C prog (Z8×ei1×Int):=.of Z call217 func217 [aM0 b2,aX9 p2,.t (tI bp0),.t (tI T8),.t (tI load),.t (tI M7)] (fun r=>.P4 [aX9 r.1,eQ3 r.2.1,.t (tI r.2.2)]) (
 .K (bw6 b2 p2) fun v=>.I (!v) (.R ((⟨0,0,0,0,0,([]:List Int)⟩:Z8),(⟨0,0⟩:ei1),1)) (.K (G0 bp0 0 1000) fun v2=>.G (!v2) (.R true) (.K (G0 T8 (-5000) 10000) fun v3=>.R (!v3)) fun b3=>.G b3 (.R true) (.K (G0 load (-10000) 10000) fun v4=>.R (!v4)) fun b4=>.G b4 (.R true) (.K (G0 M7 1 10000) fun v5=>.R (!v5)) fun b5=>.I b5 (.R ((⟨0,0,0,0,0,([]:List Int)⟩:Z8),(⟨0,0⟩:ei1),2)) (.U (.ap aI7 ([]:List Int) p2.Path 49) fun l=>.Z (.fr 49)<| .KG (bg3 (⟨({p2 with Path:=l}:Z8),b2⟩:ap7) T8 load M7) [] fun v6=>.D [] []<| .KG (aS2 (⟨(⟨dq1 (j5 (v6.B3.K7+(j5 (p2.D7*M7)))) 3019898880,v6.B3.D7,v6.B3.Rest,v6.B3.N0,v6.B3.P5,v6.B3.Path⟩:Z8),v6.b⟩:ap7) bp0 p2.D7 M7) [] fun v7=>.D [] [(8,12)]<| .R (v7.B3,(⟨M7,p2.D7⟩:ei1),0))))
def aT9 (S8:Z8)(e2:Int)(c:Z8):C prog Z8:=.of Z call304 func304 [aX9 S8,.t (tI e2),.el (cP3 c)] (fun r=>aX9 r) (
 .I (e2 !=0) (.R c) (.R S8))
def bf1 (s:j6):CG prog j6:=.of Z call125 func125 [.ptr 1000000 0] [(1000000,.box (G9 s))] (fun _=>.P4 []) (fun r=>[(1000000,.box (G9 r))]) [] (
 .J0 0 (fun(t:Int)=>[.x 14,.x 15,.x 16,.x 17,.x 18,.x 20,.x 21,.x 22,.c 1000000 114 [.t (tI t)]]) (.I (((!s.cut)&&s.u.M5.W4)&&s.known) (.R s.F3.o9) (.R s.T8)) fun f2=>.J0 0 (fun(t:Z8)=>[.x 42,.x 43,.x 44,.c 1000000 78 [.t (tI t.K7),.t (tI t.D7),.t (tI t.Rest),.t (tI t.N0),.t (tI t.P5),.t (tS aI7 t.Path)]]) (.I (decide (f2>0)) (.K (H8 s.F3.O3 (.of (fun z_=>bE6 z_) 213 [])) fun v=>.J0 0 (fun(t:Int)=>[.t 3 (.t (tI t)),.x 42,.x 43,.x 44,.x 47,.x 48,.x 49,.x 50]) (.I (decide (v>=0)) (.D [] []<| .O (.ix B7 s.F3.O3 v) fun x=>.K (aB1 s.u.A0 x.Z7 13500) fun r2=>.R r2.1) (.R 0)) fun bs3=>.D [] [(21,5)]<| .K (bK1 s.u.ab7 s.u.B3 bs3 s.A4) fun r3=>.D [] []<| .K (bv4 s.u.B3) fun v2=>.K (aT9 r3.1 r3.2.2 v2) fun v3=>.R v3) (.R s.u.B3)) fun f3=>.J0 0 (fun(t:Int)=>[.t 8 (.t (tI t)),.x 106,.x 107,.x 108,.x 110,.x 111,.x 112]) (.I (decide (s.o8<400)) (.R (j5 (f2+800))) (.R f2)) fun T8=>.J0 0 (fun(t:Int)=>[.t 9 (.t (tI t))]) (.I s.u.M5.W4 (.R s.F3.J2) (.R 0)) fun bp0=>.J0 0 (fun(t:Int)=>[.t 10 (.t (tI t)),.x 123,.x 124,.x 125,.x 126]) (.I (s.d.ca6 !=0) (.D [] []<| .R (j5 (s.d.ca8+s.d.bt5))) (.R 0)) fun load=>.D [] [(21,11),(22,12)]<| .K (cf7 s.u.ab7 f3 bp0 (F7 T8 10000) load 10000) fun r4=>.D [] []<| .K (bv4 f3) fun v4=>.K (aT9 r4.1 r4.2.2 v4) fun v5=>.R ({s with u:=(⟨s.u.A0,s.u.w9,s.u.j3,s.u.Q8,s.u.M9,s.u.I2,s.u.M3,s.u.K4,s.u.M5,s.u.D9,v5,s.u.ab7,s.u.Time⟩:af9),T8:=f2}:j6))
def bC1 (_:Int)(x:j8)(last:Int):M prog Bool (Fl Int Bool):=
 .W (.hx 0)<| .K (bK8 x.At) fun v=>.I ((((!v)||(decide (x.At<last)))||(decide (x.Channel<0)))||(decide (x.Channel>=16))) (.R (.ret false)) (.R (.next x.At))
def ch0 (l:List j8):C prog Bool:=.of Z call307 func307 [.t (tS u9 l)] (fun r=>.t (tB r)) (
 .I (decide ((l.length:Int)>1000)) (.R false) (M.Q u9 l 2 11 (fun(t:Int)=>[.t 3 (.t (tI t))]) 0 (.one .rt) (bC1) 0 (fun _=>.R true) (fun r2=>.R r2)))
def N9 (s:List j8)(del:Cl prog j8 Bool (fun x=>[aB6 x]) (fun r=>.t (tB r))):CG prog (List j8):=⟨308,[.own 1000000,.fz del.n del.cs],[(1000000,.rs 409 3 s u9)],Pv.N9 s (fun x0=>del.f x0),fun _=>du9 s,(fun r=>.t (tS u9 r)),(fun _=>[]),[],true,bj6 s del.n del.cs (fun x0=>del.f x0) (fun x0=>del.ok x0),fun _ r h=>bi6 h⟩
def aS7 (s:List j8):CG prog (List j8):=.of Z call309 func309 [.t (tS u9 s)] [] (fun _=>.own 900000) (fun r=>[(900000,.rs 409 3 r u9)]) [900000] (
 .Nl u9 s (.I true (.Z (.np 2 70000 409 3 [])<| .R ([]:List j8)) .N) (fun s=>.I false .N (.U (.ap u9 ([]:List j8) s 5) fun l=>.R l)))
def cq2 (x:j8)(c:ao8):C prog Bool:=.of Z call310 func310 [aB6 x,.el (bv6 c)] (fun r=>.t (tB r)) (
 .R (x.L4&&(!c.W4)))
def cg8 (s:ao8)(l:List j8):C prog (List j8×Int):=.of Z call218 func218 [bm3 s,.t (tS u9 l)] (fun r=>.P4 [.t (tS u9 r.1),.t (tI r.2)]) (
 .K (bo7 s) fun v=>.G (!v) (.R true) (.K (ch0 l) fun v2=>.R (!v2)) fun b2=>.I b2 (.R (([]:List j8),1)) (.KG (aS7 l) [2120] fun v3=>.Z (.fb 2)<| .KG (N9 v3 (.of (fun z_=>cq2 z_ s) 310 [bv6 s])) [] fun v4=>.R (v4,0)))
def bp6 (s:j6):CG prog aa9:=.of Z call126 func126 [.ptr 1000000 0] [(1000000,.box (G9 s))] (fun r=>bh4 r) (fun _=>[(1000000,.box (G9 s))]) [] (
 .D [] []<| .K (cg8 s.u.M5 s.A3) fun r2=>.D [] []<| .R (⟨s.t,s.o8,s.T8,s.V9,r2.1,s.Z9,(!s.u.M5.W4)⟩:aa9))
def bR3 (u:af9)(d:I9)(k:List aa6):C prog (af9×aa9):=.of Z call66 func66 [ca2 u,bd7 d,.t (tS aH6 k)] (fun r=>.P4 [ca2 r.1,bh4 r.2]) (
 .K (cf5 u.B3.D7) fun r2=>.Z (.nb 24 2292 293 7 [107])<| .Z (.nb 24 2293 409 3 [113])<| .KG (bl2 (⟨u,d,k,u.Time,r2.1,([]:List Q7),0,0,0,0,0,(⟨0,([]:List A6),0⟩:O8),0,0,((u.Q8.Mode==2)&&u.M9.aY1),false,([]:List j8),0⟩:j6)) [] fun v=>.KG (aU1 v) [2304] fun v2=>.KG (aU2 v2) [] fun v3=>.Z (.fr 2304)<| .KG (aF6 v3) [] fun v4=>.KG (ba2 v4) [2352] fun v5=>.KG (bl3 v5) [2368] fun v6=>.Z (.fr 2368)<| .KG (bf1 v6) [] fun v7=>.D [] []<| .KG (bp6 ({v7 with u:=(⟨v7.u.A0,v7.u.w9,v7.u.j3,v7.u.Q8,v7.u.M9,v7.u.I2,v7.u.M3,v7.u.K4,v7.u.M5,v7.u.D9,v7.u.B3,v7.u.ab7,j5 (v7.t+10000)⟩:af9)}:j6)) [] fun v8=>.R ((⟨v7.u.A0,v7.u.w9,v7.u.j3,v7.u.Q8,v7.u.M9,v7.u.I2,v7.u.M3,v7.u.K4,v7.u.M5,v7.u.D9,v7.u.B3,v7.u.ab7,j5 (v7.t+10000)⟩:af9),v8))
def bn4 (u:af9)(d:I9)(k:List aa6):C prog (af9×aa9×Int):=.of Z call29 func29 [ca2 u,bd7 d,.t (tS aH6 k)] (fun r=>.P4 [ca2 r.1,bh4 r.2.1,.t (tI r.2.2)]) (
 .K (bV8 u) fun v=>.G (!v) (.R true) (.K (bI9 k) fun v2=>.R (!v2)) fun b2=>.G b2 (.R true) (.K (cv4 d) fun v3=>.R (!v3)) fun b3=>.I b3 (.R ((⟨(⟨(⟨([]:List Int),([]:List Int),([]:List (List Int))⟩:SMap),(⟨([]:List Int),([]:List Int),([]:List (List Int))⟩:SMap),(⟨([]:List Int),([]:List Int),([]:List (List Int))⟩:SMap),(⟨([]:List Int),([]:List Int),([]:List (List Int))⟩:SMap),(⟨([]:List Int),([]:List Int)⟩:Q4),(⟨([]:List Int),([]:List Int)⟩:Q4),(⟨([]:List Int),([]:List Int)⟩:Q4),(⟨([]:List Int),([]:List Int)⟩:Q4),(⟨0,0,0,0⟩:aW0)⟩:o7),(⟨(⟨0,0,false⟩:V1),(⟨0⟩:F9),([]:List C1),(⟨false,false,0,0,([]:List ac0)⟩:N1),0,(⟨0,0⟩:aa8)⟩:A9),(⟨(⟨([]:List Int),0⟩:o5),(⟨false,0,0,0,0,0⟩:E8),(⟨0,([]:List j7)⟩:A2),([]:List A6),([]:List B0),false⟩:c8),(⟨0,0,0,0,0,0⟩:ab5),(⟨false,0,0,false⟩:ae3),(⟨false,0,0⟩:aa7),(⟨0,0,false⟩:ai3),(⟨0,0,0,false,false⟩:ad9),(⟨false,0,0⟩:ao8),(⟨([]:List y9),([]:List A5),0,false⟩:C2),(⟨0,0,0,0,0,([]:List Int)⟩:Z8),(⟨0,0,0,0,0,0,0⟩:L6),0⟩:af9),(⟨0,0,0,0,([]:List j8),([]:List Q7),false⟩:aa9),1)) (.I (decide ((j5 (u.Time+10000))>549755813888)) (.R ((⟨(⟨(⟨([]:List Int),([]:List Int),([]:List (List Int))⟩:SMap),(⟨([]:List Int),([]:List Int),([]:List (List Int))⟩:SMap),(⟨([]:List Int),([]:List Int),([]:List (List Int))⟩:SMap),(⟨([]:List Int),([]:List Int),([]:List (List Int))⟩:SMap),(⟨([]:List Int),([]:List Int)⟩:Q4),(⟨([]:List Int),([]:List Int)⟩:Q4),(⟨([]:List Int),([]:List Int)⟩:Q4),(⟨([]:List Int),([]:List Int)⟩:Q4),(⟨0,0,0,0⟩:aW0)⟩:o7),(⟨(⟨0,0,false⟩:V1),(⟨0⟩:F9),([]:List C1),(⟨false,false,0,0,([]:List ac0)⟩:N1),0,(⟨0,0⟩:aa8)⟩:A9),(⟨(⟨([]:List Int),0⟩:o5),(⟨false,0,0,0,0,0⟩:E8),(⟨0,([]:List j7)⟩:A2),([]:List A6),([]:List B0),false⟩:c8),(⟨0,0,0,0,0,0⟩:ab5),(⟨false,0,0,false⟩:ae3),(⟨false,0,0⟩:aa7),(⟨0,0,false⟩:ai3),(⟨0,0,0,false,false⟩:ad9),(⟨false,0,0⟩:ao8),(⟨([]:List y9),([]:List A5),0,false⟩:C2),(⟨0,0,0,0,0,([]:List Int)⟩:Z8),(⟨0,0,0,0,0,0,0⟩:L6),0⟩:af9),(⟨0,0,0,0,([]:List j8),([]:List Q7),false⟩:aa9),2)) (.K (bR3 u d k) fun r2=>.D [] [(2,6)]<| .R (r2.1,r2.2,0))))
def aM6:C prog Bool:=.of Z call5 func5 [] (fun r=>.t (tB r)) (
 .K (dI3) fun v=>.K (eo5) fun v2=>.K (bY5) fun v3=>.K (bn3) fun v4=>.K (bV7 v v2 v3 v4) fun r2=>.K (bn4 r2.1 (⟨0,0,0,0,0⟩:I9) ([]:List aa6)) fun r3=>.R (((((((r2.2==0)&&(r3.2.2==0))&&(!r3.2.1.Off))&&(r3.2.1.D7==0))&&(r3.2.1.o9==0))&&(decide (r3.1.B3.D7>0)))&&(r3.1.Time==10000)))
def bR0 (r:aa9)(l:List y9):C prog (ByteArray×Int):=⟨8,[bh4 r,.t (tS H0 l)],exM r l,fun _=>exM r l,fun x=>.P4 [.t (.v (.string x.1)),.t (tI x.2)],false,eU4 r l,fun _ _ h=>h⟩
def bT7 (s1 s2:List Int)(i:Int)(_:Unit):M prog Bool (Fl Unit Bool):=
 .D [] []<| .O (.ix aI7 s1 i) fun x=>.O (.ix aI7 s2 i) fun x2=>.I (x !=x2) (.R (.ret false)) (.R (.next ()))
def aQ5 (s1 s2:List Int):C prog Bool:=.of Z call22 func22 [.t (tS aI7 s1),.t (tS aI7 s2)] (fun r=>.t (tB r)) (
 .I ((s1.length:Int) !=(s2.length:Int)) (.R false) (M.QN (s1.length:Int) 2 13 (fun(_:Unit)=>[]) 0 (.one .rt) (bT7 s1 s2) () (fun _=>.R true) (fun r2=>.R r2)))
def bw1 (l:List Int):C prog Bool:=.of Z call46 func46 [.t (tS aI7 l)] (fun r=>.t (tB r)) (
 .R (decide ((l.length:Int)>40)))
def aX0 (_:Int)(x:SMap)(_:Unit):M prog Bool (Fl Unit Bool):=
 .W (.hx 0)<| .W (.ly 0)<| .G (((decide ((x.X.length:Int)>40))||(decide ((x.Y.length:Int)>40)))||(decide ((x.Z.length:Int)>40))) (.R true) (.K (G2 x.Z (.of (fun z_=>bw1 z_) 46 [])) fun v=>.R v) fun b2=>.I b2 (.R (.ret false)) (.R (.next ()))
def aX1 (_:Int)(x2:Q4)(_:Unit):M prog Bool (Fl Unit Bool):=
 .W (.hx 0)<| .W (.ly 0)<| .I ((decide ((x2.X.length:Int)>40))||(decide ((x2.Y.length:Int)>40))) (.R (.ret false)) (.R (.next ()))
def bj3 (t2:o7):C prog Bool:=.of Z call23 func23 [T5 t2] (fun r=>.t (tB r)) (
 M.Q cP1 ([t2.Air,t2.O2,t2.o9,t2.aI4]:List SMap) 2 17 (fun(_:Unit)=>[.x 7,.x 9,.x 11,.x 13]) 0 (.one .rt) (aX0) () (fun _=>M.Q bJ0 ([t2.M0,t2.af6,t2.aw6,t2.C7]:List Q4) 2 53 (fun(_:Unit)=>[.x 1,.x 43,.x 45,.x 47,.x 49,.d 1]) 2 (.one .rt) (aX1) () (fun _=>.R true) (fun r2=>.R r2)) (fun r3=>.R r3))
def ao9 (x:List I9)(target:Int)(cmp:Cl prog (I9×Int) Int (fun x=>[bd7 x.1,.t (tI x.2)]) (fun r=>.t (tI r)))(s:Int×Int):M prog (Int×Bool) ((Int×Int)⊕((Int×Int)⊕Empty)):=
 .I (decide (s.1<s.2)) (.O (.ix aD4 x (j5 (G3 .u64 (ba6.wrap (j5 (s.1+s.2))) 1))) fun x2=>.K (cmp.at (x2,target)) fun v=>.I (decide (v<0)) (.R (.inl (j5 ((j5 (G3 .u64 (ba6.wrap (j5 (s.1+s.2))) 1))+1),s.2))) (.R (.inl (s.1,j5 (G3 .u64 (ba6.wrap (j5 (s.1+s.2))) 1))))) (.R (.inr (.inl (s.1,s.2))))
def av1 (x:List I9)(target:Int)(cmp:Cl prog (I9×Int) Int (fun x=>[bd7 x.1,.t (tI x.2)]) (fun r=>.t (tI r))):C prog (Int×Bool):=.of Z call163 func163 [.t (tS aD4 x),.t (tI target),.fz cmp.n cmp.cs] (fun r=>.P4 [.t (tI r.1),.t (tB r.2)]) (
 .L (fun(t:Int×Int)=>[.t 9 (.t (tI t.1)),.t 10 (.t (tI t.2))]) 0 (.e) (ao9 x target cmp) (0,(x.length:Int)) (fun s2=>.G (decide (s2.1<(x.length:Int))) (.O (.ix aD4 x s2.1) fun x3=>.K (cmp.at (x3,target)) fun v2=>.R (v2==0)) (.R false) fun b2=>.R (s2.1,b2)) (fun t=>t.elim))
def cm1 (d:I9)(t2:Int):C prog Int:=.of Z call164 func164 [bd7 d,.t (tI t2)] (fun r=>.t (tI r)) (
 .R (j5 (d.At-t2)))
def cd9 (l:List I9)(t2:Int):C prog (Int×Int):=.of Z call116 func116 [.t (tS aD4 l),.t (tI t2)] (fun r=>.P4 [.t (tI r.1),.t (tI r.2)]) (
 .K (aA7 l) fun v=>.I (!v) (.R (0,1)) (.I ((decide (t2<0))||(decide (t2>1099511627776))) (.R (0,2)) (.K (av1 l t2 (.of (fun z_=>cm1 z_.1 z_.2) 164 [])) fun r2=>.I (!r2.2) (.R (j5 (r2.1-1),0)) (.R (r2.1,0)))))
def bv1 (l:List I9)(t2:Int):C prog (I9×Int):=.of Z call60 func60 [.t (tS aD4 l),.t (tI t2)] (fun r=>.P4 [bd7 r.1,.t (tI r.2)]) (
 .K (cd9 l t2) fun r2=>.I (r2.2 !=0) (.R ((⟨0,0,0,0,0⟩:I9),r2.2)) (.O (.ix aD4 l r2.1) fun x=>.R (({x with At:=t2}:I9),0)))
def ce0 (l:List I9)(k:List aa6)(_:Int)(s:List aa9×af9):M prog (List aa9×Int) (Fl (List aa9×af9) (List aa9×Int)):=
 .K (bv1 l s.2.Time) fun r2=>.K (bn4 s.2 r2.1 k) fun r3=>.I (r3.2.2 !=0) (.R (.ret (([]:List aa9),2))) (.U (.ap bn6 s.1 ([r3.2.1]:List aa9) 2472) fun l2=>.R (.next (l2,r3.1)))
def cH9 (u:af9)(l:List I9)(k:List aa6)(steps:Int):C prog (List aa9×Int):=.of Z call25 func25 [ca2 u,.t (tS aD4 l),.t (tS aH6 k),.t (tI steps)] (fun r=>.P4 [.t (tS bn6 r.1),.t (tI r.2)]) (
 .K (bV8 u) fun v=>.G (!v) (.R true) (.K (bI9 k) fun v2=>.R (!v2)) fun b2=>.G b2 (.R true) (.K (aA7 l) fun v3=>.R (!v3)) fun b3=>.I b3 (.R (([]:List aa9),1)) (.I ((decide (steps<0))||(decide (steps>1000))) (.R (([]:List aa9),2)) (.Z (.np 10 2472 25 7 [])<|M.QN steps 2 36 (fun(t:List aa9×af9)=>[.t 10 (.own 2472),.b 4 (.box (eQ4 t.2)),.b 2472 (.rs 25 7 t.1 bn6)]) 0 (.one .rt) (ce0 l k) (([]:List aa9),u) (fun s2=>.R (s2.1,0)) (fun r4=>.R r4))))
def bF0:Go.Shelf.Ren:=⟨fun|99=>26|206=>61|n=>n,fun|3=>3|4=>4|9=>9|n=>n,fun|n=>n⟩
open Go.Shelf in
def dm2:Lays.n99 prog bF0:={
 mixed:=by kernel_rfl,
 f99:=func26.trans (congrArg some (by kernel_rfl)),
 f206:=func61.trans (congrArg some (by kernel_rfl)),
 t3:=Tryz.underlying3,
 a3:=Tryz.isAgg3,
 z3:=Tryz.sizeOf3,
 v3:=Tryz.zeroValue3,
 t4:=Tryz.underlying4,
 a4:=Tryz.isAgg4,
 z4:=Tryz.sizeOf4,
 v4:=Tryz.zeroValue4,
 t9:=Tryz.underlying9,
 a9:=Tryz.isAgg9,
 z9:=Tryz.sizeOf9,
 v9:=Tryz.zeroValue9}
def strings_HasPrefix (s p:ByteArray):C prog Bool:=⟨26,[.t (.v (.string s)),.t (.v (.string p))],some (Lib.hasPrefix s.data.toList p.data.toList),fun _=>some (Lib.hasPrefix s.data.toList p.data.toList),fun r=>.t (.v (.bool r)),true,cY7 (ρ:=bF0) dm2 call26 s p,fun _ _ h=>h⟩
def cm0:Go.Shelf.Ren:=⟨fun|138=>27|143=>64|195=>62|217=>165|218=>63|219=>117|224=>167|225=>166|266=>243|267=>168|314=>244|n=>n,fun|0=>0|3=>3|4=>4|5=>5|9=>9|46=>265|51=>364|146=>365|n=>n,fun|1=>0|n=>n⟩
open Go.Shelf in
def en3:Lays.n138 prog cm0:={
 mixed:=by kernel_rfl,
 f138:=func27.trans (congrArg some (by kernel_rfl)),
 f143:=func64.trans (congrArg some (by kernel_rfl)),
 f195:=func62.trans (congrArg some (by kernel_rfl)),
 f217:=func165.trans (congrArg some (by kernel_rfl)),
 f218:=func63.trans (congrArg some (by kernel_rfl)),
 f219:=func117.trans (congrArg some (by kernel_rfl)),
 f224:=func167.trans (congrArg some (by kernel_rfl)),
 f225:=func166.trans (congrArg some (by kernel_rfl)),
 f266:=func243.trans (congrArg some (by kernel_rfl)),
 f267:=func168.trans (congrArg some (by kernel_rfl)),
 f314:=func244.trans (congrArg some (by kernel_rfl)),
 t0:=Tryz.underlying0,
 a0:=Tryz.isAgg0,
 z0:=Tryz.sizeOf0,
 v0:=Tryz.zeroValue0,
 t3:=Tryz.underlying3,
 a3:=Tryz.isAgg3,
 z3:=Tryz.sizeOf3,
 v3:=Tryz.zeroValue3,
 t4:=Tryz.underlying4,
 a4:=Tryz.isAgg4,
 z4:=Tryz.sizeOf4,
 v4:=Tryz.zeroValue4,
 t5:=Tryz.underlying5,
 a5:=Tryz.isAgg5,
 z5:=Tryz.sizeOf5,
 v5:=Tryz.zeroValue5,
 t9:=Tryz.underlying9,
 a9:=Tryz.isAgg9,
 z9:=Tryz.sizeOf9,
 v9:=Tryz.zeroValue9,
 t46:=Tryz.underlying265,
 a46:=Tryz.isAgg265,
 z46:=Tryz.sizeOf265,
 v46:=Tryz.zeroValue265,
 t51:=Tryz.underlying364,
 a51:=Tryz.isAgg364,
 z51:=Tryz.sizeOf364,
 v51:=Tryz.zeroValue364,
 t146:=Tryz.underlying365,
 a146:=Tryz.isAgg365,
 z146:=Tryz.sizeOf365,
 v146:=Tryz.zeroValue365,
 g1:=by kernel_rfl}
def strings_Count (s p:ByteArray):C prog Int:=⟨27,[.t (.v (.string s)),.t (.v (.string p))],dl2 s p,fun _=>dl2 s p,fun r=>.t (.v (.int .i64 r)),true,dY7 (ρ:=cm0) en3 call27 s p,fun _ _ h=>h⟩
def aj2 (aT0 length:Int)(v4:List y9)(s:Int×ByteArray)(r3:List aa9×Int)(i:Int)(_:Unit):M prog Bool (Fl Unit Bool):=
 .O (.ix bn6 r3.1 i) fun x=>.K (bR0 x v4) fun r4=>.I ((r4.2 !=0)||x.Off) (.R (.ret false)) (.I ((decide (i<(j5 ((dq1 (j5 aT0) 20)+2))))||(decide ((dq1 (j5 length) 8)<3))) (.O (.ef2 false r4.1 (ByteArray.mk #[])) fun q=>.I q (.R (.ret false)) (.R (.next ()))) (.G (decide (i<(j5 ((dq1 (j5 aT0) 20)+(dq1 (j5 length) 8))))) (.K (strings_HasPrefix r4.1 s.2) fun v5=>.G (!v5) (.R true) (.K (strings_Count r4.1 (ByteArray.mk #[10])) fun v6=>.R (v6 !=1)) fun b4=>.G (b4||((x.K5.length:Int) !=1)) (.R true) (.O (.ix T0 x.K5 0) fun x2=>.K (aQ5 x2.W9 ([j5 (s.1-1)]:List Int)) fun v7=>.R (!v7)) fun b5=>.R b5) (.R false) fun b6=>.I b6 (.R (.ret false)) (.R (.next ()))))
def az8 (t2:o7)(b2:L6)(e2:o5)(D6:Bool)(aT0 length value:Int):C prog Bool:=.of Zd call4 func4 [T5 t2,aM0 b2,au5 e2,.t (tB D6),.t (tK .u8 aT0),.t (tK .u8 length),.t (tK .u16 value)] (fun r=>.t (tB r)) (
 .K (aM6) fun v=>.G (!v) (.R true) (.K (bj3 t2) fun v2=>.R (!v2)) fun b3=>.I (b3||(decide ((e2.A7.length:Int)>20))) (.K (aM6) fun v3=>.R v3) (.K (bn3) fun v4=>.K (bV7 t2 b2 e2 v4) fun r2=>.I (r2.2 !=0) (.R (r2.2==1)) (.J0 0 (fun(t:Int×ByteArray)=>[.t 20 (.t (tI t.1)),.t 21 (.t (.v (.string t.2))),.x 7,.x 8,.x 9,.d 7,.d 8,.d 9]) (.I D6 (.R (4,(ByteArray.mk #[99,111,111,108,97,110,116,58,32]))) (.R (3,(ByteArray.mk #[97,105,114,58,32])))) fun s=>.Z (.fr 78)<| .Z (.fr 74)<| .K (cH9 r2.1 ([(⟨0,100,0,0,0⟩:I9)]:List I9) ([(⟨j5 (10000*(dq1 (j5 aT0) 20)),j5 (10000*(j5 ((dq1 (j5 aT0) 20)+(dq1 (j5 length) 8)))),s.1,j5 (151+(j5 value))⟩:aa6)]:List aa6) 30) fun r3=>.I (((r3.2 !=0)||((r3.1.length:Int) !=30))||((v4.length:Int) !=7)) (.R false) (M.QN (r3.1.length:Int) 2 97 (fun(_:Unit)=>[.x 16,.d 16]) 0 (.one .rt) (aj2 aT0 length v4 s r3) () (fun _=>.R true) (fun r5=>.R r5)))))
end Go.Proofs.YtjhedhnghldjbaaGreatDoor
namespace Go.Pv
open Go
structure ch7 (x:j8):Prop where
  At:(fun n=>(de1 .i64 n).wf=true) x.At
  Channel:(fun n=>(de1 .i64 n).wf=true) x.Channel
  L4:(fun _=>True) x.L4
structure ch4 (x:Q7):Prop where
  Q6:(fun n=>(de1 .i64 n).wf=true) x.Q6
  W9:(wfL (fun n=>(de1 .i64 n).wf=true)) x.W9
structure cW5 (x:aa9):Prop where
  Time:(fun n=>(de1 .i64 n).wf=true) x.Time
  D7:(fun n=>(de1 .i64 n).wf=true) x.D7
  o9:(fun n=>(de1 .i64 n).wf=true) x.o9
  dr0:(fun n=>(de1 .i64 n).wf=true) x.dr0
  bO3:(wfL ch7) x.bO3
  K5:(wfL ch4) x.K5
  Off:(fun _=>True) x.Off
structure ch5 (x:y9):Prop where
  Code:(fun n=>(de1 .i64 n).wf=true) x.Code
  aW6:(fun n=>(de1 .i64 n).wf=true) x.aW6
  Pass:(fun n=>(de1 .i64 n).wf=true) x.Pass
  ci4:(fun n=>(de1 .i64 n).wf=true) x.ci4
  Age:(fun n=>(de1 .i64 n).wf=true) x.Age
  E7:(fun n=>(de1 .i64 n).wf=true) x.E7
  ca7:(fun _=>True) x.ca7
  Frame:(fun n=>(de1 .i64 n).wf=true) x.Frame
structure cr2 (x:SMap):Prop where
  X:(wfL (fun n=>(de1 .i64 n).wf=true)) x.X
  Y:(wfL (fun n=>(de1 .i64 n).wf=true)) x.Y
  Z:(wfL (wfL (fun n=>(de1 .i64 n).wf=true))) x.Z
structure bG2 (x:Q4):Prop where
  X:(wfL (fun n=>(de1 .i64 n).wf=true)) x.X
  Y:(wfL (fun n=>(de1 .i64 n).wf=true)) x.Y
structure dD9 (x:aW0):Prop where
  P:(fun n=>(de1 .i64 n).wf=true) x.P
  I:(fun n=>(de1 .i64 n).wf=true) x.I
  Low:(fun n=>(de1 .i64 n).wf=true) x.Low
  bt7:(fun n=>(de1 .i64 n).wf=true) x.bt7
structure ch8 (x:o7):Prop where
  Air:cr2 x.Air
  O2:cr2 x.O2
  o9:cr2 x.o9
  aI4:cr2 x.aI4
  M0:bG2 x.M0
  af6:bG2 x.af6
  aw6:bG2 x.aw6
  C7:bG2 x.C7
  af5:dD9 x.af5
structure cW4 (x:L6):Prop where
  aj5:(fun n=>(de1 .i64 n).wf=true) x.aj5
  ap6:(fun n=>(de1 .i64 n).wf=true) x.ap6
  aP6:(fun n=>(de1 .i64 n).wf=true) x.aP6
  J2:(fun n=>(de1 .i64 n).wf=true) x.J2
  P5:(fun n=>(de1 .i64 n).wf=true) x.P5
  M4:(fun n=>(de1 .i64 n).wf=true) x.M4
  aY0:(fun n=>(de1 .i64 n).wf=true) x.aY0
structure ch6 (x:o5):Prop where
  A7:(wfL (fun n=>(de1 .i64 n).wf=true)) x.A7
  as4:(fun n=>(de1 .i64 n).wf=true) x.as4
end Go.Pv
namespace Go.Proofs.YtjhedhnghldjbaaGreatDoor
open Go Go.Pv Go.Proofs
def ai8:Reads Tryz.prog 3 aI7 (fun n=>(de1 .i64 n).wf=true):=cx9 Tryz.underlying3 (fun _=>rfl)
def cI9:Reads Tryz.prog 4 Pv.dv1 (fun _=>True):=dL6 Tryz.underlying4 (fun _=>rfl)
def ee1:Reads Tryz.prog 409 u9 ch7:=by
  intro H e w fuel cs x h
  obtain⟨xs,n,_,rfl,hl,hlen,hf⟩:=DataW.trod_struct Tryz.underlying409 h
  obtain⟨y0,w0,r0⟩:=J3 hlen hf 0 rfl ai8
  obtain⟨y1,w1,r1⟩:=J3 hlen hf 1 rfl ai8
  obtain⟨y2,w2,r2⟩:=J3 hlen hf 2 rfl cI9
  exact⟨⟨y0,y1,y2⟩,⟨w0,w1,w2⟩,J4 (o:=0) (o':=1) r0 (by kernel_rfl) (J4 (o:=1) (o':=2) r1 (by kernel_rfl) (J4 (o:=2) (o':=3) r2 (by kernel_rfl) (bl9 (hl.trans (by kernel_rfl)))))⟩
def ew0:Reads Tryz.prog 22 (cY6 u9) (wfL ch7):=bo6 (sz:=3) Tryz.underlying22 ee1 (by kernel_rfl) (by decide) (fun _=>rfl)
def bx3:Reads Tryz.prog 29 (cY6 aI7) (wfL (fun n=>(de1 .i64 n).wf=true)):=bo6 (sz:=1) Tryz.underlying29 ai8 (by kernel_rfl) (by decide) (fun _=>rfl)
def ew4:Reads Tryz.prog 31 T0 ch4:=by
  intro H e w fuel cs x h
  obtain⟨xs,n,_,rfl,hl,hlen,hf⟩:=DataW.trod_struct Tryz.underlying31 h
  obtain⟨y0,w0,r0⟩:=J3 hlen hf 0 rfl ai8
  obtain⟨y1,w1,r1⟩:=J3 hlen hf 1 rfl bx3
  exact⟨⟨y0,y1⟩,⟨w0,w1⟩,J4 (o:=0) (o':=1) r0 (by kernel_rfl) (J4 (o:=1) (o':=2) r1 (by kernel_rfl) (bl9 (hl.trans (by kernel_rfl))))⟩
def ew1:Reads Tryz.prog 23 (cY6 T0) (wfL ch4):=bo6 (sz:=2) Tryz.underlying23 ew4 (by kernel_rfl) (by decide) (fun _=>rfl)
def ew2:Reads Tryz.prog 25 bn6 cW5:=by
  intro H e w fuel cs x h
  obtain⟨xs,n,_,rfl,hl,hlen,hf⟩:=DataW.trod_struct Tryz.underlying25 h
  obtain⟨y0,w0,r0⟩:=J3 hlen hf 0 rfl ai8
  obtain⟨y1,w1,r1⟩:=J3 hlen hf 1 rfl ai8
  obtain⟨y2,w2,r2⟩:=J3 hlen hf 2 rfl ai8
  obtain⟨y3,w3,r3⟩:=J3 hlen hf 3 rfl ai8
  obtain⟨y4,w4,r4⟩:=J3 hlen hf 4 rfl ew0
  obtain⟨y5,w5,r5⟩:=J3 hlen hf 5 rfl ew1
  obtain⟨y6,w6,r6⟩:=J3 hlen hf 6 rfl cI9
  exact⟨⟨y0,y1,y2,y3,y4,y5,y6⟩,⟨w0,w1,w2,w3,w4,w5,w6⟩,J4 (o:=0) (o':=1) r0 (by kernel_rfl) (J4 (o:=1) (o':=2) r1 (by kernel_rfl) (J4 (o:=2) (o':=3) r2 (by kernel_rfl) (J4 (o:=3) (o':=4) r3 (by kernel_rfl) (J4 (o:=4) (o':=5) r4 (by kernel_rfl) (J4 (o:=5) (o':=6) r5 (by kernel_rfl) (J4 (o:=6) (o':=7) r6 (by kernel_rfl) (bl9 (hl.trans (by kernel_rfl)))))))))⟩
def fn1:bC5 Tryz.prog 25 (fun x=>bh4 x) cW5:=bH4 Tryz.underlying25 ew2 (fun _=>rfl)
def ew5:Reads Tryz.prog 44 H0 ch5:=by
  intro H e w fuel cs x h
  obtain⟨xs,n,_,rfl,hl,hlen,hf⟩:=DataW.trod_struct Tryz.underlying44 h
  obtain⟨y0,w0,r0⟩:=J3 hlen hf 0 rfl ai8
  obtain⟨y1,w1,r1⟩:=J3 hlen hf 1 rfl ai8
  obtain⟨y2,w2,r2⟩:=J3 hlen hf 2 rfl ai8
  obtain⟨y3,w3,r3⟩:=J3 hlen hf 3 rfl ai8
  obtain⟨y4,w4,r4⟩:=J3 hlen hf 4 rfl ai8
  obtain⟨y5,w5,r5⟩:=J3 hlen hf 5 rfl ai8
  obtain⟨y6,w6,r6⟩:=J3 hlen hf 6 rfl cI9
  obtain⟨y7,w7,r7⟩:=J3 hlen hf 7 rfl ai8
  exact⟨⟨y0,y1,y2,y3,y4,y5,y6,y7⟩,⟨w0,w1,w2,w3,w4,w5,w6,w7⟩,J4 (o:=0) (o':=1) r0 (by kernel_rfl) (J4 (o:=1) (o':=2) r1 (by kernel_rfl) (J4 (o:=2) (o':=3) r2 (by kernel_rfl) (J4 (o:=3) (o':=4) r3 (by kernel_rfl) (J4 (o:=4) (o':=5) r4 (by kernel_rfl) (J4 (o:=5) (o':=6) r5 (by kernel_rfl) (J4 (o:=6) (o':=7) r6 (by kernel_rfl) (J4 (o:=7) (o':=8) r7 (by kernel_rfl) (bl9 (hl.trans (by kernel_rfl))))))))))⟩
def ew3:Reads Tryz.prog 26 (cY6 H0) (wfL ch5):=bo6 (sz:=8) Tryz.underlying26 ew5 (by kernel_rfl) (by decide) (fun _=>rfl)
def fn2:bC5 Tryz.prog 26 (fun x=>.t (tS H0 x)) (wfL ch5):=dW9 Tryz.underlying26 ew3 (fun _=>rfl)
def ew6:Reads Tryz.prog 47 (cY6 (cY6 aI7)) (wfL (wfL (fun n=>(de1 .i64 n).wf=true))):=bo6 (sz:=1) Tryz.underlying47 bx3 (by kernel_rfl) (by decide) (fun _=>rfl)
def co8:Reads Tryz.prog 49 cP1 cr2:=by
  intro H e w fuel cs x h
  obtain⟨xs,n,_,rfl,hl,hlen,hf⟩:=DataW.trod_struct Tryz.underlying49 h
  obtain⟨y0,w0,r0⟩:=J3 hlen hf 0 rfl bx3
  obtain⟨y1,w1,r1⟩:=J3 hlen hf 1 rfl bx3
  obtain⟨y2,w2,r2⟩:=J3 hlen hf 2 rfl ew6
  exact⟨⟨y0,y1,y2⟩,⟨w0,w1,w2⟩,J4 (o:=0) (o':=1) r0 (by kernel_rfl) (J4 (o:=1) (o':=2) r1 (by kernel_rfl) (J4 (o:=2) (o':=3) r2 (by kernel_rfl) (bl9 (hl.trans (by kernel_rfl)))))⟩
def co9:Reads Tryz.prog 51 bJ0 bG2:=by
  intro H e w fuel cs x h
  obtain⟨xs,n,_,rfl,hl,hlen,hf⟩:=DataW.trod_struct Tryz.underlying51 h
  obtain⟨y0,w0,r0⟩:=J3 hlen hf 0 rfl bx3
  obtain⟨y1,w1,r1⟩:=J3 hlen hf 1 rfl bx3
  exact⟨⟨y0,y1⟩,⟨w0,w1⟩,J4 (o:=0) (o':=1) r0 (by kernel_rfl) (J4 (o:=1) (o':=2) r1 (by kernel_rfl) (bl9 (hl.trans (by kernel_rfl))))⟩
def ew7:Reads Tryz.prog 53 dZ2 dD9:=by
  intro H e w fuel cs x h
  obtain⟨xs,n,_,rfl,hl,hlen,hf⟩:=DataW.trod_struct Tryz.underlying53 h
  obtain⟨y0,w0,r0⟩:=J3 hlen hf 0 rfl ai8
  obtain⟨y1,w1,r1⟩:=J3 hlen hf 1 rfl ai8
  obtain⟨y2,w2,r2⟩:=J3 hlen hf 2 rfl ai8
  obtain⟨y3,w3,r3⟩:=J3 hlen hf 3 rfl ai8
  exact⟨⟨y0,y1,y2,y3⟩,⟨w0,w1,w2,w3⟩,J4 (o:=0) (o':=1) r0 (by kernel_rfl) (J4 (o:=1) (o':=2) r1 (by kernel_rfl) (J4 (o:=2) (o':=3) r2 (by kernel_rfl) (J4 (o:=3) (o':=4) r3 (by kernel_rfl) (bl9 (hl.trans (by kernel_rfl))))))⟩
def ew8:Reads Tryz.prog 55 aR6 ch8:=by
  intro H e w fuel cs x h
  obtain⟨xs,n,_,rfl,hl,hlen,hf⟩:=DataW.trod_struct Tryz.underlying55 h
  obtain⟨y0,w0,r0⟩:=J3 hlen hf 0 rfl co8
  obtain⟨y1,w1,r1⟩:=J3 hlen hf 1 rfl co8
  obtain⟨y2,w2,r2⟩:=J3 hlen hf 2 rfl co8
  obtain⟨y3,w3,r3⟩:=J3 hlen hf 3 rfl co8
  obtain⟨y4,w4,r4⟩:=J3 hlen hf 4 rfl co9
  obtain⟨y5,w5,r5⟩:=J3 hlen hf 5 rfl co9
  obtain⟨y6,w6,r6⟩:=J3 hlen hf 6 rfl co9
  obtain⟨y7,w7,r7⟩:=J3 hlen hf 7 rfl co9
  obtain⟨y8,w8,r8⟩:=J3 hlen hf 8 rfl ew7
  exact⟨⟨y0,y1,y2,y3,y4,y5,y6,y7,y8⟩,⟨w0,w1,w2,w3,w4,w5,w6,w7,w8⟩,J4 (o:=0) (o':=3) r0 (by kernel_rfl) (J4 (o:=3) (o':=6) r1 (by kernel_rfl) (J4 (o:=6) (o':=9) r2 (by kernel_rfl) (J4 (o:=9) (o':=12) r3 (by kernel_rfl) (J4 (o:=12) (o':=14) r4 (by kernel_rfl) (J4 (o:=14) (o':=16) r5 (by kernel_rfl) (J4 (o:=16) (o':=18) r6 (by kernel_rfl) (J4 (o:=18) (o':=20) r7 (by kernel_rfl) (J4 (o:=20) (o':=24) r8 (by kernel_rfl) (bl9 (hl.trans (by kernel_rfl)))))))))))⟩
def eR2:bC5 Tryz.prog 55 (fun x=>T5 x) ch8:=bH4 Tryz.underlying55 ew8 (fun _=>rfl)
def ew9:Reads Tryz.prog 59 bE7 cW4:=by
  intro H e w fuel cs x h
  obtain⟨xs,n,_,rfl,hl,hlen,hf⟩:=DataW.trod_struct Tryz.underlying59 h
  obtain⟨y0,w0,r0⟩:=J3 hlen hf 0 rfl ai8
  obtain⟨y1,w1,r1⟩:=J3 hlen hf 1 rfl ai8
  obtain⟨y2,w2,r2⟩:=J3 hlen hf 2 rfl ai8
  obtain⟨y3,w3,r3⟩:=J3 hlen hf 3 rfl ai8
  obtain⟨y4,w4,r4⟩:=J3 hlen hf 4 rfl ai8
  obtain⟨y5,w5,r5⟩:=J3 hlen hf 5 rfl ai8
  obtain⟨y6,w6,r6⟩:=J3 hlen hf 6 rfl ai8
  exact⟨⟨y0,y1,y2,y3,y4,y5,y6⟩,⟨w0,w1,w2,w3,w4,w5,w6⟩,J4 (o:=0) (o':=1) r0 (by kernel_rfl) (J4 (o:=1) (o':=2) r1 (by kernel_rfl) (J4 (o:=2) (o':=3) r2 (by kernel_rfl) (J4 (o:=3) (o':=4) r3 (by kernel_rfl) (J4 (o:=4) (o':=5) r4 (by kernel_rfl) (J4 (o:=5) (o':=6) r5 (by kernel_rfl) (J4 (o:=6) (o':=7) r6 (by kernel_rfl) (bl9 (hl.trans (by kernel_rfl)))))))))⟩
def eR3:bC5 Tryz.prog 59 (fun x=>aM0 x) cW4:=bH4 Tryz.underlying59 ew9 (fun _=>rfl)
def ex0:Reads Tryz.prog 68 bR4 ch6:=by
  intro H e w fuel cs x h
  obtain⟨xs,n,_,rfl,hl,hlen,hf⟩:=DataW.trod_struct Tryz.underlying68 h
  obtain⟨y0,w0,r0⟩:=J3 hlen hf 0 rfl bx3
  obtain⟨y1,w1,r1⟩:=J3 hlen hf 1 rfl ai8
  exact⟨⟨y0,y1⟩,⟨w0,w1⟩,J4 (o:=0) (o':=1) r0 (by kernel_rfl) (J4 (o:=1) (o':=2) r1 (by kernel_rfl) (bl9 (hl.trans (by kernel_rfl))))⟩
def eR4:bC5 Tryz.prog 68 (fun x=>au5 x) ch6:=bH4 Tryz.underlying68 ex0 (fun _=>rfl)
def fc9:bC5 Tryz.prog 4 (fun x=>.t (tB x)) (fun _=>True):=ej9 Tryz.underlying4 cI9 (fun _=>rfl) (fun _=>rfl)
def eK2:Reads Tryz.prog 5 eT2 (fun n=>(de1 .u8 n).wf=true):=cx9 Tryz.underlying5 (fun _=>rfl)
def eN4:bC5 Tryz.prog 5 (fun x=>.t (tK .u8 x)) (fun n=>(de1 .u8 n).wf=true):=dO6 Tryz.underlying5 eK2 (fun _=>rfl) (fun _=>rfl)
def ex1:Reads Tryz.prog 69 eF5 (fun n=>(de1 .u16 n).wf=true):=cx9 Tryz.underlying69 (fun _=>rfl)
def eR5:bC5 Tryz.prog 69 (fun x=>.t (tK .u16 x)) (fun n=>(de1 .u16 n).wf=true):=dO6 Tryz.underlying69 ex1 (fun _=>rfl) (fun _=>rfl)
end Go.Proofs.YtjhedhnghldjbaaGreatDoor
namespace Go.Pv.Ec
open Go Go.Pv Go.Proofs Go.Proofs.YtjhedhnghldjbaaGreatDoor
theorem eW9 {x y:Int}(h:y<x):F7 x y=y:=by unfold F7;rw[if_pos h]
theorem eW8 {x y:Int}(h:x<=y):F7 x y=x:=by unfold F7;rw[if_neg (by omega)]
def ae6 (t:Int):Bool:=decide (t>=0)&&decide (t<=1099511627776)
theorem az3 {t:Int}:ae6 t=true↔0<=t/\t<=1099511627776:=by simp[ae6]
def tfB (f:aa7):Bool:=ae6 f.H6&&ae6 f.G1&&decide (f.G1<=f.H6)&&(f.Seen||((f.H6==0)&&(f.G1==0)))
theorem dV0 (t:Int):(aV8 t).m=some (ae6 t):=rfl
theorem cW0 (f:aa7):(aH1 f).m=some (tfB f):=by
 simp only[aH1,C.of,M.run,dV0,aF2]
 cases h:ae6 f.H6<;>simp[tfB,h]
def eA5 (f:aa7):∃n,(bg6 f).m=some n:=by
 simp only[bg6,C.of,M.run,cW0,aF2]
 cases(!tfB f|| !f.Seen)<;>exact⟨_,rfl⟩
def eM3 (f:aa7)(t:Int):∃g b e,(bk7 f t).m=some (g,b,e)/\(e=0->tfB f=true/\tfB g=true/\(g.H6=t\/g=f)/\ae6 t=true):=by
 obtain⟨n,hn⟩:=eA5 f
 simp only[bk7,C.of,M.run,cW0,dV0,hn,aF2]
 cases h1:tfB f
 ·exact⟨_,_,_,rfl,fun h=>by cases h⟩
 cases h2:ae6 t
 ·exact⟨_,_,_,rfl,fun h=>by cases h⟩
 have ht:=az3.1 h2
 simp only[tfB,aK5,fl2,az3]at h1
 simp only[aX5,fk6]
 cases h3:(f.Seen&&decide (t<f.H6))
 ·simp only[fk6]
  cases h4:f.Seen
  ·simp only[fk6,aF2]
   refine⟨_,_,_,rfl,fun _=>⟨by simp[tfB,az3,h1],?_,.inl rfl,trivial⟩⟩
   simp[tfB,ae6,ht.1,ht.2]
  ·rw[h4,Bool.true_and]at h3
   have h3:=of_decide_eq_false h3
   simp only[fk7,aF2]
   cases decide (j5 (t-f.H6)<n)
   ·refine⟨_,_,_,rfl,fun _=>⟨by simp[tfB,az3,h1],?_,.inl rfl,trivial⟩⟩
    have:j5 (t-f.H6)=t-f.H6:=j4 (by omega) (by omega)
    simp only[tfB,this,aK5,fl2,az3,Bool.true_or,and_true]
    omega
   ·exact⟨_,_,_,rfl,fun _=>⟨by simp[tfB,az3,h1],by simp[tfB,az3,h1],.inr rfl,trivial⟩⟩
 ·exact⟨_,_,_,rfl,fun h=>by cases h⟩
def grB (g:ai3):Bool:=(((decide (g.Over>=0)&&decide (g.Over<=5))&&(decide (g.Calm>=0)&&decide (g.Calm<=1000)))&&((g.Over==0)||(g.Calm==0)))&&(g.Off||decide (g.Over<5))
theorem dZ6 (x a b:Int):(N2 x a b).m=some (decide (x>=a)&&decide (x<=b)):=rfl
theorem cm7 (g:ai3):(aY6 g).m=some (grB g):=by
 simp only[aY6,C.of,M.run,dZ6,aF2]
 cases h:(decide (g.Over>=0)&&decide (g.Over<=5))<;>simp[grB,h]
theorem de2 (t:Int):(bw4 t).m=some (decide (t>= -20000)&&decide (t<=20000)):=rfl
def eH1 (g:ai3)(p a:Int):∃h e,(aV4 g p a).m=some (h,e)/\(e=0->grB h=true)/\
  (grB g=true-> -20000<=p->p<=20000-> -20000<=a->a<=20000->e=0/\h=if a>p then⟨F7 5 (g.Over+1),0,g.Off||(F7 5 (g.Over+1)==5)⟩else⟨0,F7 1000 (g.Calm+1),g.Off⟩):=by
 simp only[aV4,C.of,M.run,cm7,de2,aF2]
 cases h1:grB g
 ·exact⟨_,_,rfl,fun h=>(by cases h),fun h=>(by cases h)⟩
 simp only[grB,aK5,fl2,cH4,beq_iff_eq]at h1
 have w1:j5 (g.Over+1)=g.Over+1:=j4 (by omega) (by omega)
 have w2:j5 (g.Calm+1)=g.Calm+1:=j4 (by omega) (by omega)
 simp only[aX5,fk6,w1,w2]
 by_cases hb:(-20000<=p/\p<=20000)/\(-20000<=a/\a<=20000)
 ·have e1:(decide (p>= -20000)&&decide (p<=20000))=true:=by simp[hb.1]
  have e2:(decide (a>= -20000)&&decide (a<=20000))=true:=by simp[hb.2]
  rw[e1,e2]
  simp only[aX5,fk6,aF2]
  by_cases ha:a>p
  ·rw[fk8 ha]
   refine⟨_,_,rfl,fun _=>?_,fun _ _ _ _ _=>⟨rfl,by rw[if_pos ha]⟩⟩
   rcases Int.lt_or_le (g.Over+1) 5 with hm|hm
   ·rw[eW9 hm];simp only[grB,aK5,fl2,cH4,beq_iff_eq];exact⟨⟨by omega,.inr (by trivial)⟩,.inr hm⟩
   ·rw[eW8 hm];simp[grB]
  ·rw[fk9 ha]
   refine⟨_,_,rfl,fun _=>?_,fun _ _ _ _ _=>⟨rfl,by rw[if_neg ha]⟩⟩
   have:0<=F7 1000 (g.Calm+1)/\F7 1000 (g.Calm+1)<=1000:=by unfold F7;split<;>omega
   have h2:=h1.2
   simp only[grB,aK5,fl2,cH4,beq_iff_eq]
   refine⟨⟨by omega,.inl (by trivial)⟩,?_⟩
   rcases h2 with h2|h2
   ·exact .inl h2
   ·right;omega
 ·cases e1:(decide (p>= -20000)&&decide (p<=20000))
  ·exact⟨_,_,rfl,fun h=>(by cases h),fun _ h1 h2=>(by simp[h1,h2]at e1)⟩
  ·cases e2:(decide (a>= -20000)&&decide (a<=20000))
   ·exact⟨_,_,rfl,fun h=>(by cases h),fun _ _ _ h1 h2=>(by simp[h1,h2]at e2)⟩
   ·simp only[aK5,fl2]at e1 e2
    exact absurd ⟨⟨e1.1,e1.2⟩,e2.1,e2.2⟩ hb
def quB (n:Int):Bool:=decide (n>=1)&&decide (n<=65535)
def qzB (q:ad9):Bool:=(((((quB q.Question&&ae6 q.ap5)&&(q.Open||(q.ap5==0)))&&decide (q.T6>=0))&&decide (q.T6<=7))&&(q.Off==(q.T6==7)))&& !(q.Open&&q.Off)
theorem bT0 (n:Int):(aY8 n).m=some (quB n):=rfl
theorem cg1 (n:Int):(bs6 n).m=some (ae6 n):=rfl
theorem eK0 (n:Int):(cx7 n).m=some (decide (n>=0)&&decide (n<=65535)):=rfl
theorem co5 (q:ad9):(bj9 q).m=some (qzB q):=by
 simp only[bj9,C.of,M.run,bT0,cg1,aF2]
 cases h:quB q.Question<;>simp[qzB,h]
theorem ej5 (l:List Int)(hl:l.length<=1000000)(f:Cl Tryz.prog Int Bool (fun x=>[.t (tI x)]) (fun r=>.t (tB r)))(p:Int->Bool)(h:∀x∈l,f.f x=some (p x)):(o6 l f).m=some (l.any p):=by
 simp only[o6,U9,X1,C.of,M.run,L1.m,Cl.at]
 refine Eq.trans ?_ (bJ5 l (by omega) f.f p h)
 kernel_rfl
def ptB (l:List Int):Bool:=(decide ((l.length:Int)>=1)&&decide ((l.length:Int)<=16))&& !(l.any fun p=>!(decide (p>=0)&&decide (p<=65535)))
theorem dA8 (l:List Int):(bK4 l).m=some (ptB l):=by
 simp only[bK4,C.of,M.run]
 cases h:(decide ((l.length:Int)>=1)&&decide ((l.length:Int)<=16))
 ·simp[ptB,h]
 ·simp only[aK5,fl2]at h
  rw[ej5 l (by omega) _ (fun p=>!(decide (p>=0)&&decide (p<=65535))) (fun x _=>rfl)]
  simp[ptB,h]
theorem fq0 (a:Nat)(h:a<32768):dG7 .i64 (a:Int) 46080=((a^^^46080:Nat):Int):=by
 unfold dG7
 have e1:(BitVec.ofInt (eR9 .i64) (a:Int)).toNat=a:=by
  show(BitVec.ofInt 64 (a:Int)).toNat=a
  simp;omega
 have e2:(BitVec.ofInt (eR9 .i64) (46080:Int)).toNat=46080:=by rfl
 rw[BitVec.toNat_xor,e1,e2]
 have:a^^^46080<2^16:=Nat.xor_lt_two_pow (by omega) (by omega)
 exact j4 (by omega) (by omega)
theorem fn0 (a:Nat)(h:a<65536):U3 .i64 (a:Int) 1=((a%2:Nat):Int):=by
 unfold U3
 have e1:(BitVec.ofInt (eR9 .i64) (a:Int)).toNat=a:=by
  show(BitVec.ofInt 64 (a:Int)).toNat=a
  simp;omega
 have e2:(BitVec.ofInt (eR9 .i64) (1:Int)).toNat=1:=by rfl
 rw[BitVec.toNat_and,e1,e2,Nat.and_one_is_mod]
 exact j4 (by omega) (by omega)
theorem fp3 (a:Nat):G3 .i64 (a:Int) 1=((a/2:Nat):Int):=by
 unfold G3
 show(a:Int).fdiv 2=_
 rw[Int.fdiv_eq_ediv_of_nonneg _ (by omega)]
 omega
def eM9 (a:Nat)(h:a<32768):0<a^^^46080:=by
 have h1:(a^^^46080).testBit 15=true:=by
  rw[Nat.testBit_xor,Nat.testBit_lt_two_pow (by omega)]
  rfl
 rcases Nat.eq_zero_or_pos (a^^^46080)with h0|h0
 ·rw[h0]at h1;simp at h1
 ·exact h0
def eJ9 (n:Int)(h:quB n=true):∃m,(cx6 n).m=some m/\quB m=true:=by
 simp only[cx6,C.of,M.run,bT0,h,aF2,aX5,fk6]
 simp only[quB,aK5,fl2]at h
 obtain⟨a,rfl⟩:∃a:Nat,n=(a:Int):=⟨n.toNat,by omega⟩
 rw[fn0 a (by omega),fp3]
 cases h1:((((a%2:Nat):Int))==1)
 ·simp only[beq_eq_false_iff_ne]at h1
  exact⟨_,rfl,by simp only[quB,aK5,fl2];omega⟩
 ·rw[fq0 _ (by omega)]
  have h2:a/2^^^46080<2^16:=Nat.xor_lt_two_pow (by omega) (by omega)
  have h3:=eM9 (a/2) (by omega)
  exact⟨_,rfl,by simp only[quB,aK5,fl2];omega⟩
def eY3 (q:ad9)(b:Bool)(h:qzB q=true):∃r,(cT4 q b).m=some r/\qzB r=true/\r.ap5=0/\r.Open=false/\r.Question=q.Question/\r.T6=(if b then G8 (q.T6-1) 0 else F7 (q.T6+2) 7)/\r.Off=(r.T6==7):=by
 simp only[qzB,aK5,fl2,cH4,beq_iff_eq,bG5]at h
 have w1:j5 (q.T6-1)=q.T6-1:=j4 (by omega) (by omega)
 have w2:j5 (q.T6+2)=q.T6+2:=j4 (by omega) (by omega)
 simp only[cT4,C.of,M.run,w1,w2]
 have h1:=h.1.1.1.1.1.1
 cases b
 ·refine⟨_,rfl,?_,rfl,rfl,rfl,rfl,rfl⟩
  have:0<=F7 (q.T6+2) 7/\F7 (q.T6+2) 7<=7:=by unfold F7;split<;>omega
  simp[qzB,h1,this,ae6]
 ·refine⟨_,rfl,?_,rfl,rfl,rfl,rfl,rfl⟩
  have:0<=G8 (q.T6-1) 0/\G8 (q.T6-1) 0<=7:=by unfold G8;split<;>omega
  simp[qzB,h1,this,ae6]
def ev6 (q:ad9)(now:Int):∃r n e,(cT2 q now).m=some (r,n,e)/\(e=0->qzB r=true/\r.ap5=now/\r.Open=true/\r.T6=q.T6/\r.Off=q.Off)/\(qzB q=true->ae6 now=true->q.Open=false->q.Off=false->e=0):=by
 simp only[cT2,C.of,M.run,co5,cg1,aF2]
 cases h:qzB q
 ·exact⟨_,_,_,rfl,fun h=>(by cases h),fun h=>(by cases h)⟩
 cases h2:ae6 now
 ·exact⟨_,_,_,rfl,fun h=>(by cases h),fun _ h=>(by cases h)⟩
 simp only[aX5,fk6]
 cases h3:(q.Open||q.Off)
 ·simp only[Bool.or_eq_false_iff]at h3
  have h':=h
  simp only[qzB,aK5,fl2,cH4,beq_iff_eq,bG5]at h
  obtain⟨m,e,hm⟩:=eJ9 q.Question h.1.1.1.1.1.1
  refine⟨_,_,_,cj2 e rfl,fun _=>⟨?_,rfl,rfl,rfl,rfl⟩,fun _ _ _ _=>rfl⟩
  have:=h.1.2
  rw[h3.2]at this
  have:q.T6≠7:=by simpa using this.symm
  simp[qzB,hm,h2,h,h3,this]
 ·exact⟨_,_,_,rfl,fun h=>(by cases h),fun _ _ h1 h2=>(by simp[h1,h2]at h3)⟩
def sgB (s:ao8):Bool:=(((decide (s.bt6>=0))&&(decide (s.bt6<=3)))&&(s.W4==(s.bt6==0)))&&ae6 s.aR0
theorem dp4 (t:Int):(bK8 t).m=some (ae6 t):=rfl
theorem cU7 (s:ao8):(bo7 s).m=some (sgB s):=by
 simp only[bo7,C.of,M.run,dp4,aF2]
 cases h:(((decide (s.bt6>=0))&&(decide (s.bt6<=3)))&&(s.W4==(s.bt6==0)))<;>simp[sgB,h]
def csV (key:Bool)(g:ai3)(q:ad9):Int:=if !key then 1 else if g.Off then 2 else if q.Off then 3 else 0
theorem ey1 (key:Bool)(g:ai3)(q:ad9):(bU2 key g q).m=some (csV key g q):=by
 simp only[bU2,C.of,M.run]
 cases key<;>cases hg:g.Off<;>cases hq:q.Off<;>simp[csV,hg,hq]
def eL1 (s:ao8)(key:Bool)(g:ai3)(q:ad9)(now:Int):∃r e,(cg9 s key g q now).m=some (r,e)/\(e=0->sgB r=true/\(r.aR0=now\/r.aR0=s.aR0)/\r.W4=(csV key g q==0))/\
  (sgB s=true->grB g=true->qzB q=true->ae6 now=true->s.aR0<=now->e=0):=by
 simp only[cg9,C.of,M.run,cU7,cm7,co5,dp4,ey1,aF2]
 cases h1:sgB s
 ·exact⟨_,_,rfl,fun h=>(by cases h),fun h=>(by cases h)⟩
 cases h2:grB g
 ·exact⟨_,_,rfl,fun h=>(by cases h),fun _ h=>(by cases h)⟩
 cases h3:qzB q
 ·exact⟨_,_,rfl,fun h=>(by cases h),fun _ _ h=>(by cases h)⟩
 cases h4:ae6 now
 ·exact⟨_,_,rfl,fun h=>(by cases h),fun _ _ _ h=>(by cases h)⟩
 simp only[aX5,fk6,aF2]
 by_cases h5:now<s.aR0
 ·rw[fk8 h5]
  exact⟨_,_,rfl,fun h=>(by cases h),fun _ _ _ _ h=>absurd h5 (by omega)⟩
 ·rw[fk9 h5]
  simp only[fk6]
  have hc:0<=csV key g q/\csV key g q<=3:=by unfold csV;split<;>(try split)<;>(try split)<;>omega
  simp only[sgB,aK5]at h1
  cases(!((csV key g q==0)==s.W4))
  ·exact⟨_,_,rfl,fun _=>⟨by simp[sgB,hc,h1.2],.inr rfl,rfl⟩,fun _ _ _ _ _=>rfl⟩
  ·exact⟨_,_,rfl,fun _=>⟨by simp[sgB,hc,h4],.inl rfl,rfl⟩,fun _ _ _ _ _=>rfl⟩
abbrev w0:aI8:=⟨60,2⟩
abbrev c0:ci7:=⟨[5000,12000,30000]⟩
theorem cz0:(bt0).m=some w0:=rfl
theorem cm3:(bE4).m=some c0:=rfl
theorem bX4:(aL9 w0).m=some true:=(aL9 w0).le 1 _ (by kernel_rfl)
theorem bG3:(aT1 w0).m=some 58:=(aT1 w0).le 1 _ (by kernel_rfl)
theorem cz1:(bd1 w0).m=some 384:=(bd1 w0).le 1 _ (by kernel_rfl)
theorem db6:(aT2 c0).m=some true:=(aT2 c0).le 100 _ (by kernel_rfl)
theorem dH3:(bL2 c0).m=some (2,1):=(bL2 c0).le 100 _ (by kernel_rfl)
theorem ev4 {a b:Int}(ha:0<=a)(hb:0<b)(hm:a<=9223372036854775807):bo5 .i64 a b=some (a/b):=by
 unfold bo5
 rw[if_neg (by omega),cx1 ha]
 have h1:a/b<=a:=Int.ediv_le_self b ha
 have h0:0<=a/b:=Int.ediv_nonneg ha (by omega)
 exact congrArg some (j4 (by omega) (by omega))
theorem bf {a b:Int}(h:¬a=b):(a==b)=false:=by simpa using h
theorem bnt {a b:Int}(h:¬a=b):(a !=b)=true:=by simpa using h
def syB (s:ab5):Bool:=
 if s.Mode=0 then(s.ay9==0)&&((s.H6==0)&&((s.G1==0)&&((s.O1==0)&&(s.aw7==0))))
 else if s.Mode=1 then((s.ay9==0)&&ae6 s.H6)&&(if s.aw7=0 then(s.G1==0)&&(s.O1==0)else(((s.aw7==1)||(s.aw7==2))&&decide (s.G1>=1))&&decide (s.G1<=s.H6)&&(s.O1==s.G1))
 else if s.Mode=2 then decide (s.ay9>=0)&&decide (s.ay9<58)&&ae6 s.H6&&decide (s.G1>=1)&&decide (s.G1<=s.H6)&&decide (s.O1>=1)&&decide (s.O1<=s.G1)&&(s.aw7==0)
 else false
theorem ch2 (t:Int):(bg5 t).m=some (ae6 t):=rfl
theorem cV8 (s:ab5):(bx7 w0 s).m=some (syB s):=by
 simp only[bx7,C.of,M.run,bX4,bG3,ch2,aF2,aX5,fk6]
 by_cases h0:s.Mode=0
 ·simp[syB,h0]
 by_cases h1:s.Mode=1
 ·simp only[syB,h1]
  by_cases ht:s.ay9=0
  ·cases hl:ae6 s.H6
   ·simp[ht,hl]
   ·by_cases he:s.aw7=0
    ·simp[ht,hl,he]
    ·simp[ht,hl,he,bf he]
  ·simp[ht,bf ht,bnt ht]
 by_cases h2:s.Mode=2
 ·simp only[syB,h2]
  cases decide (s.ay9>=0)<;>cases decide (s.ay9<58)<;>cases ae6 s.H6<;>cases decide (s.G1>=1)<;>cases decide (s.G1<=s.H6)<;>cases decide (s.O1>=1)<;>simp
 ·simp[syB,h0,h1,h2,bf h0,bf h1,bf h2]
theorem eM0 (p q:Int):(cy6 p q).m=some (decide ((j5 (4*(G8 (j5 (p-q)) (j5 (q-p)))))<=q)):=rfl
theorem eZ6 (n p:Int):(dD0 w0 n p).m=some (decide (p>(j5 (2*n)))):=rfl
theorem dU9 (s:ab5):(bX1 w0 s).m=some (s.ay9==57):=by
 simp only[bX1,C.of,M.run,bG3,aF2];rfl
theorem cD3 (s:ab5):(bm0 w0 s).m=some (if s.ay9=57 then j5 (3*s.O1)else s.O1):=by
 simp only[bm0,C.of,M.run,dU9,aF2]
 by_cases h:s.ay9=57
 ·simp only[h,beq_self_eq_true,fk7,if_true];rfl
 ·simp[h,bf h]
abbrev sy0:ab5:=⟨0,0,0,0,0,0⟩
def eZ5:syB sy0=true:=rfl
def ef9 (s:ab5)(t:Int)(hs:syB s=true)(ht:ae6 t=true)(hl:s.Mode≠0->s.H6<t):∃r,(cy7 w0 s t).m=some r/\syB r=true/\(r.H6=t\/r=sy0):=by
 have ht':=az3.1 ht
 simp only[cy7,C.of,M.run,eM0,eZ6,dU9,cD3,aF2,L1.m]
 by_cases h1:s.Mode=1
 ·have hlt:=hl (by omega)
  simp only[syB,h1]at hs
  simp[ae6]at hs
  have wp:j5 (t-s.H6)=t-s.H6:=j4 (by omega) (by omega)
  simp only[h1,beq_self_eq_true,fk7,wp]
  by_cases h2:s.aw7=2
  ·simp[h2]at hs
   have wn:j5 (2*s.O1)=2*s.O1:=j4 (by omega) (by omega)
   simp only[h2,beq_self_eq_true,fk7,aF2,wn]
   by_cases hg:t-s.H6>2*s.O1
   ·rw[fk8 hg]
    simp only[fk7]
    refine⟨_,cj2 (ev4 (by omega) (by decide) (by omega)) rfl,?_,.inl rfl⟩
    have:j5 (2+1)=3:=rfl
    simp only[syB,this]
    simp[ae6,ht']
    omega
   ·rw[fk9 hg]
    simp only[fk6,aF2]
    cases decide (j5 (4*G8 (j5 (t-s.H6-s.O1)) (j5 (s.O1-(t-s.H6))))<=s.O1)
    ·refine⟨_,rfl,?_,.inl rfl⟩
     simp[syB,ae6,ht'];omega
    ·refine⟨_,rfl,?_,.inl rfl⟩
     simp[syB,ae6,ht'];omega
  ·simp only[show(s.aw7==2)=false by simpa using h2,fk6,aF2]
   cases(s.aw7 !=0)
   ·refine⟨_,rfl,?_,.inl rfl⟩
    simp[syB,ae6,ht'];omega
   ·simp only[fk7,aF2]
    cases decide (j5 (4*G8 (j5 (t-s.H6-s.O1)) (j5 (s.O1-(t-s.H6))))<=s.O1)
    ·refine⟨_,rfl,?_,.inl rfl⟩
     simp[syB,ae6,ht'];omega
    ·refine⟨_,rfl,?_,.inl rfl⟩
     simp[syB,ae6,ht'];omega
 ·simp only[show(s.Mode==1)=false by simpa using h1,fk6]
  by_cases h2:s.Mode=2
  ·have hlt:=hl (by omega)
   simp only[syB,h2]at hs
   simp[ae6]at hs
   have wp:j5 (t-s.H6)=t-s.H6:=j4 (by omega) (by omega)
   simp only[h2,beq_self_eq_true,fk7,wp]
   by_cases h3:s.ay9=57
   ·have w3:j5 (3*s.O1)=3*s.O1:=j4 (by omega) (by omega)
    simp only[h3,if_true,w3,beq_self_eq_true,fk7]
    by_cases hf:j5 (4*G8 (j5 (t-s.H6-3*s.O1)) (j5 (3*s.O1-(t-s.H6))))<=3*s.O1
    ·rw[fk8 hf]
     simp only[aX5,fk6]
     refine⟨_,cj2 (ev4 (by omega) (by decide) (by omega)) rfl,?_,.inl rfl⟩
     have:j5 (2+1)=3:=rfl
     have e1:j5 (t-s.H6-3*s.O1)=t-s.H6-3*s.O1:=j4 (by omega) (by omega)
     have e2:j5 (3*s.O1-(t-s.H6))=3*s.O1-(t-s.H6):=j4 (by omega) (by omega)
     rw[e1,e2]at hf
     have hm:3*s.O1-(t-s.H6)<=G8 (t-s.H6-3*s.O1) (3*s.O1-(t-s.H6)):=by unfold G8;split<;>omega
     have hm2:G8 (t-s.H6-3*s.O1) (3*s.O1-(t-s.H6))<=3298534883328:=by unfold G8;split<;>omega
     have hm3:0<=G8 (t-s.H6-3*s.O1) (3*s.O1-(t-s.H6)):=by unfold G8;split<;>omega
     rw[j4 (by omega) (by omega)]at hf
     simp only[syB,this]
     simp[ae6,ht']
     omega
    ·rw[fk9 hf]
     exact⟨_,rfl,rfl,.inr rfl⟩
   ·simp only[if_neg h3,show(s.ay9==57)=false by simpa using h3]
    cases decide (j5 (4*G8 (j5 (t-s.H6-s.O1)) (j5 (s.O1-(t-s.H6))))<=s.O1)
    ·exact⟨_,rfl,rfl,.inr rfl⟩
    ·refine⟨_,rfl,?_,.inl rfl⟩
     have:j5 (s.ay9+1)=s.ay9+1:=j4 (by omega) (by omega)
     simp[syB,ae6,ht',this];omega
  ·simp only[show(s.Mode==2)=false by simpa using h2,fk6]
   refine⟨_,rfl,?_,.inl rfl⟩
   simp[syB,ae6,ht']
def eM1 (s:ab5)(t:Int):∃r e,(cy5 w0 s t).m=some (r,e)/\(e=0->syB r=true/\(r.H6=t\/r=sy0)):=by
 simp only[cy5,C.of,M.run,cV8,ch2,aF2]
 cases h1:syB s
 ·exact⟨_,_,rfl,fun h=>(by cases h)⟩
 cases h2:ae6 t
 ·exact⟨_,_,rfl,fun h=>(by cases h)⟩
 simp only[aX5,fk6]
 cases h3:((s.Mode !=0)&&decide (t<=s.H6))
 ·obtain⟨r,hr,h4,h5⟩:=ef9 s t h1 h2 (fun hm=>by
   rcases Int.lt_or_le s.H6 t with h|h
   ·exact h
   ·simp[hm,h]at h3)
  exact⟨_,_,cj2 hr rfl,fun _=>⟨h4,h5⟩⟩
 ·exact⟨_,_,rfl,fun h=>(by cases h)⟩
def eA0 (s:ab5)(t:Int):∃r e,(ch3 w0 s t).m=some (r,e)/\(e=0->syB r=true/\(r=s\/r=sy0)):=by
 simp only[ch3,C.of,M.run,cV8,ch2,cD3,aF2]
 cases h1:syB s
 ·exact⟨_,_,rfl,fun h=>(by cases h)⟩
 cases h2:ae6 t
 ·exact⟨_,_,rfl,fun h=>(by cases h)⟩
 simp only[aX5,fk6]
 cases h3:((s.Mode !=0)&&decide (t<s.H6))
 ·obtain⟨m,hm⟩:∃m,(bif s.Mode==2 then some (j5 (4*if s.ay9=57 then j5 (3*s.O1)else s.O1))else bif decide (s.aw7>0)then some (j5 (4*s.O1))else some 1000000)=some m:=by
   cases s.Mode==2<;>cases decide (s.aw7>0)<;>exact⟨_,rfl⟩
  simp only[fk6,hm,aF2]
  cases((s.Mode !=0)&&decide (j5 (t-s.H6)>m))
  ·exact⟨_,_,rfl,fun _=>⟨h1,.inl rfl⟩⟩
  ·exact⟨_,_,rfl,fun _=>⟨rfl,.inr rfl⟩⟩
 ·exact⟨_,_,rfl,fun h=>(by cases h)⟩
def phB (p:ae3):Bool:=!((((decide (p.Count<0))||(decide (p.Count>16)))||(decide (p.bG7<0)))||(decide (p.bG7>1)))&&(!((!p.Seen)&&((p.Count !=0)||p.aY1))&&(p.aY1||(p.bG7==0)))
theorem ed5 (p:ae3):(bS8 p).m=some (phB p):=by
 simp only[bS8,C.of,M.run]
 cases h:((((decide (p.Count<0))||(decide (p.Count>16)))||(decide (p.bG7<0)))||(decide (p.bG7>1)))<;>cases h2:((!p.Seen)&&((p.Count !=0)||p.aY1))<;>simp[phB,h,h2]
theorem cS9 (p:ae3):(bo3 c0 p).m=some (phB p):=by
 simp only[bo3,C.of,M.run,db6,ed5,aF2,fk7]
def eX9 (p:ae3):∃r e,(cx2 c0 p).m=some (r,e)/\(e=0->phB r=true):=by
 simp only[cx2,C.of,M.run,cS9,aF2]
 cases h:phB p
 ·exact⟨_,_,rfl,fun h=>(by cases h)⟩
 cases hs:p.Seen
 ·exact⟨_,_,rfl,fun _=>h⟩
 ·refine⟨_,_,rfl,fun _=>?_⟩
  simp[phB,hs]at h|-
  rw[j4 (by omega) (by omega)]
  have:0<=F7 16 (p.Count+1)/\F7 16 (p.Count+1)<=16:=by unfold F7;split<;>omega
  exact⟨⟨⟨by omega,by omega⟩,by omega⟩,h.2⟩
def eJ4 (p:ae3):∃r e,(bK0 c0 p).m=some (r,e)/\(e=0->phB r=true):=by
 simp only[bK0,C.of,M.run,cS9,dH3,aF2]
 cases h:phB p
 ·exact⟨_,_,rfl,fun h=>(by cases h)⟩
 cases hs:p.Seen
 ·exact⟨_,_,rfl,fun _=>rfl⟩
 ·simp only[aX5,fk6]
  have key:∀half:Int,-1<=half->half<=1->∃r e,(bif (decide (half>=0))&&((!p.aY1)||(p.bG7==half))then some ((⟨true,j5 (1-half),0,true⟩:ae3),(0:Int))else some ((⟨false,0,0,true⟩:ae3),0))=some (r,e)/\(e=0->phB r=true):=by
   intro half h1 h2
   cases hc:((decide (half>=0))&&((!p.aY1)||(p.bG7==half)))
   ·exact⟨_,_,rfl,fun _=>rfl⟩
   ·simp only[aK5,fl2]at hc
    refine⟨_,_,rfl,fun _=>?_⟩
    have:j5 (1-half)=1-half:=j4 (by omega) (by omega)
    simp[phB,this];omega
  cases p.Count==2
  ·cases p.Count==1
   ·exact key (-1) (by omega) (by omega)
   ·exact key 1 (by omega) (by omega)
  ·exact key 0 (by omega) (by omega)
def eX8:phB ⟨false,0,0,false⟩=true:=rfl
def bw0 {S B:Type}{mb:S->Option (S⊕B)}(I:S->Prop)(μ:S->Nat)(J:B->Prop)(h:∀s,I s->(∃s',mb s=some (.inl s')/\I s'/\μ s'<μ s)\/(∃b,mb s=some (.inr b)/\J b)):
  ∀(n:Nat) (s:S),μ s<=n->I s->∃b,L8 mb s=some b/\J b:=by
 intro n
 induction n with
 |zero=>
  intro s hn hI
  rcases h s hI with⟨s',_,_,h3⟩|⟨b,h1,h2⟩
  ·omega
  ·exact⟨b,E6 h1,h2⟩
 |succ n ih=>
  intro s hn hI
  rcases h s hI with⟨s',h1,h2,h3⟩|⟨b,h1,h2⟩
  ·rw[H3 h1];exact ih s' (by omega) h2
  ·exact⟨b,E6 h1,h2⟩
theorem dn1 (p b:Int)(hp:0<=p)(hb:0<b):(ac9 p b).m=some (p%b):=by
 simp only[ac9,C.of,M.run,L1.m]
 rw[show((b==0)||(b==(-1)))=false by simp;omega]
 simp only[fk6]
 have e:cg2 p b=some (p%b):=by unfold cg2;rw[if_neg (by omega),Int.tmod_eq_emod_of_nonneg hp]
 rw[e]
 simp only[aF2]
 have h1:0<=p%b:=Int.emod_nonneg p (by omega)
 rw[show((p%b !=0)&&(!((decide (p%b<0))==(decide (b<0)))))=false by
  rw[fk9 (by omega),fk9 (by omega)];simp]
 rfl
def et6 (p:Int)(h0:0<=p)(h1:p<=1099511627776):∃q k,(ch9 w0 p).m=some (q,k)/\p<q/\q<=p+23040:=by
 have hm:0<=p%23040/\p%23040<23040:=⟨Int.emod_nonneg p (by omega),Int.emod_lt_of_pos p (by omega)⟩
 simp only[ch9,C.of,M.run,L1.m,dn1 p 23040 h0 (by omega),cz1,bG3,aF2]
 rw[j4 (n:=p-p%23040) (by omega) (by omega),show p-(p-p%23040)=p%23040 by omega,j4 (n:=p%23040) (by omega) (by omega),ev4 hm.1 (by omega) (by omega)]
 simp only[aF2]
 rw[j4 (n:=p%23040/384+1) (by omega) (by omega)]
 by_cases hk:p%23040/384+1>=58
 ·rw[fk8 hk]
  refine⟨_,_,rfl,?_,?_⟩
  ·rw[j4 (by omega) (by omega)];omega
  ·rw[j4 (by omega) (by omega)];omega
 ·rw[fk9 hk]
  have e1:j5 ((p%23040/384+1)*384)=(p%23040/384+1)*384:=j4 (by omega) (by omega)
  refine⟨_,_,rfl,?_,?_⟩
  ·rw[e1,j4 (by omega) (by omega)];omega
  ·rw[e1,j4 (by omega) (by omega)];omega
def ec8 (p:Int)(h0:0<=p)(h1:p<=1099511627776):∃q,(ba8 p w0).m=some q/\p<q/\q<=p+46080:=by
 obtain⟨q,k,e,h2,h3⟩:=et6 p h0 h1
 simp only[ba8,C.of,M.run]
 exact⟨q,cj2 e rfl,h2,by omega⟩
def dY5 (p:Int)(h0:0<=p)(h1:p<=1099511627776):∃q,(aN7 p c0).m=some q/\p<q/\q<=p+51080:=by
 have hm:0<=p%46080/\p%46080<46080:=⟨Int.emod_nonneg p (by omega),Int.emod_lt_of_pos p (by omega)⟩
 simp only[aN7,C.of,M.run,dn1 p 46080 h0 (by omega),aF2]
 have e0:j5 (p-p%46080)=p-p%46080:=j4 (by omega) (by omega)
 have key:∃b,ae5 c0.bz0 (fun i x t=>(aE4 p (p%46080) i x t).run) ()=some b/\((b= .inl ()/\p-p%46080+46080>p)\/∃q,b= .inr q/\p<q/\q<=p+46080):=by
  rw[L0 _ (by decide)]
  have st:∀i x,(aE4 p (p%46080) i x ()).run=bif decide (j5 (p-p%46080+x)>p)then some (.ret (j5 (p-p%46080+x)))else some (.next ()):=fun i x=>by
   simp only[aE4,M.run,e0]
  simp only[N4,st]
  have f:∀x:Int,0<=x->x<=46080->j5 (p-p%46080+x)=p-p%46080+x:=fun x _ _=>j4 (by omega) (by omega)
  rw[f 5000 (by omega) (by omega),f 12000 (by omega) (by omega),f 30000 (by omega) (by omega)]
  by_cases g1:p-p%46080+5000>p
  ·rw[fk8 g1];exact⟨_,rfl,.inr ⟨_,rfl,g1,by omega⟩⟩
  rw[fk9 g1]
  by_cases g2:p-p%46080+12000>p
  ·rw[fk8 g2];exact⟨_,rfl,.inr ⟨_,rfl,g2,by omega⟩⟩
  rw[fk9 g2]
  by_cases g3:p-p%46080+30000>p
  ·rw[fk8 g3];exact⟨_,rfl,.inr ⟨_,rfl,g3,by omega⟩⟩
  rw[fk9 g3]
  exact⟨_,rfl,.inl ⟨rfl,by omega⟩⟩
 obtain⟨b,hb,hc⟩:=key
 rcases hc with⟨rfl,_⟩|⟨q,rfl,h2,h3⟩
 ·refine⟨p-p%46080+46080+5000,cj2 hb ?_,by omega,by omega⟩
  show(Option.bind (E0 c0.bz0 0) fun t=>some (j5 (j5 (j5 (p-p%46080)+46080)+t)))=_
  rw[e0,show E0 c0.bz0 0=some 5000 from rfl]
  simp only[aF2]
  rw[j4 (n:=p-p%46080+46080) (by omega) (by omega),j4 (by omega) (by omega)]
 ·exact⟨q,cj2 hb rfl,h2,by omega⟩
structure Edg (a b:Int)(l:List Int):Prop where
 len:l.length<=1000
 lo:∀x∈l,a<x
 hi:∀x∈l,x<=b
 asc:l.Pairwise (· <·)
theorem eJ7 (p:Int):(bx9 p).m=some (ae6 p):=rfl
def cA0 (a b:Int)(f:Cl Tryz.prog Int Int (fun x=>[.t (tI x)]) (fun r=>.t (tI r)))(hf:∀p,0<=p->p<=1099511627776->∃q,f.f p=some q/\p<q/\q<=p+100000):
  ∃l e,(bm1 a b f).m=some (l,e)/\Edg a b l:=by
 have enil:Edg a b []:=⟨by simp,by simp,by simp,by simp⟩
 simp only[bm1,C.of,M.run,eJ7,aF2,Cl.at]
 cases ha:ae6 a
 ·exact⟨_,_,rfl,enil⟩
 cases hb:ae6 b
 ·exact⟨_,_,rfl,enil⟩
 simp only[aX5,fk6,aF2,Bool.false_or]
 by_cases hab:a>b
 ·rw[fk8 hab];exact⟨_,_,rfl,enil⟩
 rw[fk9 hab]
 have ha:=az3.1 ha
 have hb:=az3.1 hb
 obtain⟨q,hq,h1,h2⟩:=hf a ha.1 ha.2
 simp only[fk6,hq,aF2]
 obtain⟨r,e,hr⟩:=bw0 (mb:=fun s=>(bk9 b f s).run)
  (fun s=>s.1.length<=1000/\(∀x∈s.1,a<x)/\(∀x∈s.1,x<=b)/\s.1.Pairwise (· <·)/\(∀x∈s.1,x<s.2)/\a<s.2) (fun s=>(b+1-s.2).toNat)
  (fun r=>match r with| .inl s=>Edg a b s.1| .inr t=>Edg a b t.1) (fun s ⟨i1,i2,i3,i4,i5,i6⟩=>by
   obtain⟨l,p⟩:=s
   simp only at i1 i2 i3 i4 i5 i6
   simp only[bk9,M.run,U1.m,Cl.at]
   by_cases hp:p<=b
   ·rw[fk8 hp]
    simp only[fk7]
    by_cases hl:(l.length:Int)=1000
    ·simp only[hl,beq_self_eq_true,fk7]
     exact .inr ⟨_,rfl,enil⟩
    ·simp only[bf hl,fk6]
     obtain⟨q,hq,h1,h2⟩:=hf p (by omega) (by omega)
     rw[I1 _ _ (by simp;omega),hq]
     simp only[aF2]
     refine .inl ⟨_,rfl,⟨?_,?_,?_,?_,?_,by simp only;omega⟩,?_⟩
     ·simp;omega
     ·intro x hx;rcases du0.1 hx with hx|hx
      ·exact i2 x hx
      ·simp at hx;omega
     ·intro x hx;rcases du0.1 hx with hx|hx
      ·exact i3 x hx
      ·simp at hx;omega
     ·refine List.pairwise_append.2 ⟨i4,by simp,fun x hx y hy=>?_⟩
      simp at hy;subst hy;exact i5 x hx
     ·intro x hx;rcases du0.1 hx with hx|hx
      ·have:=i5 x hx;simp only;omega
      ·simp at hx;simp only;omega
     ·simp only;omega
   ·rw[fk9 hp]
    exact .inr ⟨_,rfl,⟨i1,i2,i3,i4⟩⟩) _ ([],q) (bO2 _) ⟨by simp,by simp,by simp,by simp,by simp,by simp only;omega⟩
 rw[e]
 cases r with
 |inl s=>exact⟨_,_,rfl,hr⟩
 |inr t=>exact⟨_,_,rfl,hr⟩
def ds9 (a b:Int):∃l e,(bC2 w0 a b).m=some (l,e)/\Edg a b l:=by
 obtain⟨l,e,h1,h2⟩:=cA0 a b (.of (fun z_=>ba8 z_ w0) _ [ce2 w0]) (fun p h0 h1=>by
  obtain⟨q,e,h2,h3⟩:=ec8 p h0 h1
  exact⟨q,e,h2,by omega⟩)
 simp only[bC2,C.of,M.run,bX4,aF2,aX5,fk6]
 exact⟨l,e,cj2 h1 rfl,h2⟩
def dk9 (a b:Int):∃l e,(bk8 c0 a b).m=some (l,e)/\Edg a b l:=by
 obtain⟨l,e,h1,h2⟩:=cA0 a b (.of (fun z_=>aN7 z_ c0) _ [cO9 c0]) (fun p h0 h1=>by
  obtain⟨q,e,h2,h3⟩:=dY5 p h0 h1
  exact⟨q,e,h2,by omega⟩)
 simp only[bk8,C.of,M.run,db6,aF2,aX5,fk6]
 exact⟨l,e,cj2 h1 rfl,h2⟩
def eK7 (v:Int)(h0:0<=v)(h1:v<=262144):(cf5 v).m=some (v*60000000/1509949440,0):=by
 simp only[cf5,C.of,M.run]
 rw[show(decide (v<0)||decide (v>524288))=false by simp;omega,j4 (n:=v*60000000) (by omega) (by omega),cx1 (by omega),j4 (by omega) (by omega)]
 rfl
end Go.Pv.Ec

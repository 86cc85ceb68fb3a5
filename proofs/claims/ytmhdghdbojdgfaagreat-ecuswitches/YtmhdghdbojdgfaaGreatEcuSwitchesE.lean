/- A part of the proof of EcuSwitches: Plain models, and more. -/
import Derived.Test.YtmhdghdbojdgfaaGreatEcuSwitchesD
import Derived.KernelRfl
set_option linter.unusedSimpArgs false
set_option linter.unusedVariables false
set_option maxRecDepth 100000
noncomputable section
open Bool renaming and_eq_false_iff->fe8,and_eq_true->aJ5,and_false->fh4,and_true->eW8,eq_iff_iff->dC6,false_and->ez1,false_eq_true->do9,false_or->dQ6,not_eq_false'->dT6,not_eq_true'->bO4,not_false->cI0,not_not->eD9,not_true->aP9,or_eq_false_iff->bZ2,or_eq_true->cG1,or_false->fa9,true_and->cI4
open Int renaming ediv_eq_zero_of_lt->fb3,ediv_le_self->eL3,ediv_nonneg->eN3,le_refl->do8,mul_le_mul->eP0,mul_le_mul_of_nonneg_left->ec5,mul_nonneg->eQ2,natAbs->fj2,tdiv->da1,tdiv_eq_ediv_of_nonneg->cr3,tmod->ep0
open Go.IntKind renaming u64->aX3
open List renaming all_eq_true->bN8,any_eq_false->ds5,any_eq_not_all_not->dO9,append_nil->cV6,filter_append->cV9,filter_cons->dC9,filter_cons_of_pos->dQ1,filter_eq_nil_iff->eq3,filter_nil->ez7,foldl_cons->ey7,getD_eq_getElem?_getD->cW2,getElem?_eq_getElem->aK2,getElem?_eq_none->ea1,getElem?_set_ne->eX0,getElem?_set_self->eR0,getElem_mem->ba6,length_append->aY1,length_cons->bq0,length_nil->cr1,length_replicate->eC4,length_singleton->cr0,mem_append->cI5,mem_cons->ch6,mem_cons_self->bx8,mem_filter->dK5,mem_iff_getElem->cY8,mem_map->cX4,mem_range->ee4,mem_range'->eO1,nil_append->cL8,pairwise_append->ey9,pairwise_cons->ee3,range->dp9,range'->dR5,replicate->cr2
open Nat renaming add_sub_cancel->fj1,eq_zero_or_pos->dO8,le_refl->cq9,lt_or_ge->da9
open Option renaming bind->ai5,bind_assoc->bZ3,bind_some->aH3
open Option.some renaming injEq->aI5
namespace Go.Pv
open Go
def ah7 (a:Int):Option Bool:=
 some ((decide (a>=0))&&(decide (a<46080)))
def an8 (s:List Int)(v i:Int)(_:Unit):Option (Fl Unit Int):=
 ai5 (D4 s i) fun x=>bif (v==x)then(some (.ret i))else(some (.next ()))
def V6 (s:List Int)(v:Int):Option Int:=
 ai5 (K9 (s.length:Int) (an8 s v) ()) fun(t:Unit⊕Int)=>match t with| .inl _=>(some (-1))| .inr r2=>some r2
def P3 (s:List Int)(v:Int):Option Bool:=
 ai5 (V6 s v) fun v2=>some (decide (v2>=0))
def as2 (e2:o6)(i:Int):Option (Int⊕(Int⊕Bool)):=
 bif (decide (i<=(e2.u6.length:Int)))then(ai5 (P3 e2.u6 i) fun v2=>bif (!v2)then(some (.inr (.inr false)))else(some (.inl (o4 (i+1)))))else(some (.inr (.inl i)))
def O7 (e2:o6):Option Bool:=
 ai5 (bif ((decide ((e2.u6.length:Int)<1))||(decide ((e2.u6.length:Int)>8)))then(some true)else(ai5 (ah7 e2.as0) fun v=>some (!v))) fun b2=>bif b2 then(some false)else(ai5 (L5 (as2 e2) 1) fun(t:Int⊕Bool)=>match t with| .inl _=>(some true)| .inr r2=>some r2)
def aV2 (n2:Int):Option (List B8×Int):=
 bif ((decide (n2<1))||(decide (n2>8)))then(some (([]:List B8),2))else(ai5 (P5 ([(⟨0,100,0⟩:B8)]:List B8) n2) fun v=>some (v,0))
def bj3:Option U2:=
 some (⟨0,0,false⟩:U2)
def aL4:Option M8:=
 ai5 (aS0 9 (⟨0,0⟩:aa7)) fun l=>some (⟨false,false,1000,0,l⟩:M8)
def aA0 (e2:o6):Option (A7×Int):=
 ai5 (O7 e2) fun v=>bif (!v)then(some ((⟨(⟨0,0,false⟩:U2),(⟨0⟩:F7),([]:List B8),(⟨false,false,0,0,([]:List aa7)⟩:M8),0,(⟨0,0⟩:Z8)⟩:A7),1))else(ai5 (aV2 (e2.u6.length:Int)) fun r2=>bif (r2.2 !=0)then(some ((⟨(⟨0,0,false⟩:U2),(⟨0⟩:F7),([]:List B8),(⟨false,false,0,0,([]:List aa7)⟩:M8),0,(⟨0,0⟩:Z8)⟩:A7),1))else(ai5 (bj3) fun v2=>ai5 (aL4) fun v3=>some ((⟨v2,(⟨0⟩:F7),r2.1,v3,0,(⟨0,(-1)⟩:Z8)⟩:A7),0)))
def V9 (s:List Int)(f2:Int->Option Bool)(i:Int)(_:Unit):Option (Fl Unit Int):=
 ai5 (D4 s i) fun x=>ai5 (f2 x) fun v=>bif v then(some (.ret i))else(some (.next ()))
def T9 (s:List Int)(f2:Int->Option Bool):Option Int:=
 ai5 (K9 (s.length:Int) (V9 s f2) ()) fun(t:Unit⊕Int)=>match t with| .inl _=>(some (-1))| .inr r2=>some r2
def o7 (s:List Int)(f2:Int->Option Bool):Option Bool:=
 ai5 (T9 s f2) fun v=>some (decide (v>=0))
def ab6 (n2:Int):Option Bool:=
 some ((decide (n2>=(-1073741824)))&&(decide (n2<=1073741824)))
def ay5 (l:List Int)(i:Int)(_:Unit):Option (Fl Unit Bool):=
 ai5 (D4 l i) fun x=>ai5 (ab6 x) fun v=>ai5 (bif (!v)then(some true)else(ai5 (bif (decide (i>0))then(ai5 (D4 l (o4 (i-1))) fun x2=>some (decide (x<=x2)))else(some false)) fun b2=>some b2)) fun b3=>bif b3 then(some (.ret false))else(some (.next ()))
def ar4 (l:List Int):Option Bool:=
 bif ((decide ((l.length:Int)<2))||(decide ((l.length:Int)>32)))then(some false)else(ai5 (K9 (l.length:Int) (ay5 l) ()) fun(t:Unit⊕Bool)=>match t with| .inl _=>(some true)| .inr r2=>some r2)
def ah4 (z:Int):Option Bool:=
 ai5 (ab6 z) fun v=>some (!v)
def aC1 (m2:SMap)(_:Int)(x:List Int)(_:Unit):Option (Fl Unit Bool):=
 ai5 (bif ((x.length:Int) !=(m2.Y.length:Int))then(some true)else(ai5 (o7 x ah4) fun v3=>some v3)) fun b3=>bif b3 then(some (.ret false))else(some (.next ()))
def J4 (m2:SMap):Option Bool:=
 ai5 (ar4 m2.X) fun v=>ai5 (bif (!v)then(some true)else(ai5 (ar4 m2.Y) fun v2=>some (!v2))) fun b2=>bif (b2||((m2.Z.length:Int) !=(m2.X.length:Int)))then(some false)else(ai5 (ad5 m2.Z (aC1 m2) ()) fun(t:Unit⊕Bool)=>match t with| .inl _=>(some true)| .inr r2=>some r2)
def aB4 (n2:Int):Option Bool:=
 some ((decide (n2<(-1073741824)))||(decide (n2>1073741824)))
def aH5 (l:List Int)(i:Int)(_:Unit):Option (Fl Unit Bool):=
 ai5 (D4 l i) fun x=>ai5 (D4 l (o4 (i+1))) fun x2=>bif (decide (x>=x2))then(some (.ret false))else(some (.next ()))
def aL9 (l:List Int):Option Bool:=
 ai5 (bif ((decide ((l.length:Int)<2))||(decide ((l.length:Int)>32)))then(some true)else(ai5 (o7 l aB4) fun v=>some v)) fun b2=>bif b2 then(some false)else(ai5 (K9 (o4 ((l.length:Int)-1)) (aH5 l) ()) fun(t:Unit⊕Bool)=>match t with| .inl _=>(some true)| .inr r2=>some r2)
def P2 (c:Q0):Option Bool:=
 ai5 (bif ((c.X.length:Int)==(c.Y.length:Int))then(ai5 (aL9 c.X) fun v=>some v)else(some false)) fun b2=>ai5 (bif b2 then(ai5 (o7 c.Y aB4) fun v2=>some (!v2))else(some false)) fun b3=>some b3
def cmp_isNaN_int (x:Int):Option Bool:=
 some (x !=x)
def cmp_Less_int (x y:Int):Option Bool:=
 ai5 (cmp_isNaN_int x) fun v=>ai5 (bif v then(ai5 (cmp_isNaN_int y) fun v2=>some (!v2))else(some false)) fun b2=>some (b2||(decide (x<y)))
def Q4 (x:List Int)(i:Int):Option (Int⊕(Int⊕Bool)):=
 bif (decide (i>0))then(ai5 (D4 x i) fun x2=>ai5 (D4 x (o4 (i-1))) fun x3=>ai5 (cmp_Less_int x2 x3) fun v=>bif v then(some (.inr (.inr false)))else(some (.inl (o4 (i-1)))))else(some (.inr (.inl i)))
def P4 (x:List Int):Option Bool:=
 ai5 (L5 (Q4 x) (o4 ((x.length:Int)-1))) fun(t:Int⊕Bool)=>match t with| .inl _=>(some true)| .inr r2=>some r2
def I5 (n2 low high:Int):Option Bool:=
 some ((decide (n2>=low))&&(decide (n2<=high)))
def aK6 (y:Int):Option Bool:=
 ai5 (I5 y 100 3000) fun v=>some (!v)
def aT6 (_:Int)(x:List Int)(_:Unit):Option (Fl Unit Bool):=
 ai5 (P4 x) fun v3=>ai5 (bif (!v3)then(some true)else(ai5 (D4 x 0) fun x2=>ai5 (I5 x2 0 1048576) fun v4=>some (!v4))) fun b3=>ai5 (bif b3 then(some true)else(ai5 (D4 x (o4 ((x.length:Int)-1))) fun x3=>ai5 (I5 x3 0 1048576) fun v5=>some (!v5))) fun b4=>bif b4 then(some (.ret false))else(some (.next ()))
def aB1 (t2:o8):Option Bool:=
 ai5 (J4 t2.Air) fun v=>ai5 (bif (!v)then(some true)else(ai5 (P2 t2.L7) fun v2=>some (!v2))) fun b2=>bif b2 then(some false)else(ai5 (ad5 t2.Air.Z (aT6) ()) fun(t:Unit⊕Bool)=>match t with| .inl _=>(ai5 (o7 t2.L7.Y aK6) fun v6=>some (!v6))| .inr r2=>some r2)
def Z7 (s:List (List Int))(f2:(List Int)->Option Bool)(i:Int)(_:Unit):Option (Fl Unit Int):=
 ai5 (D4 s i) fun x=>ai5 (f2 x) fun v=>bif v then(some (.ret i))else(some (.next ()))
def V5 (s:List (List Int))(f2:(List Int)->Option Bool):Option Int:=
 ai5 (K9 (s.length:Int) (Z7 s f2) ()) fun(t:Unit⊕Int)=>match t with| .inl _=>(some (-1))| .inr r2=>some r2
def G0 (s:List (List Int))(f2:(List Int)->Option Bool):Option Bool:=
 ai5 (V5 s f2) fun v=>some (decide (v>=0))
def H6 (x low high:Int):Option Bool:=
 some ((decide (x>=low))&&(decide (x<=high)))
def ao0 (x c c2:Int):Option Bool:=
 ai5 (H6 x c c2) fun v=>some (!v)
def ag9 (l:List Int)(low high:Int):Option Bool:=
 ai5 (o7 l (fun x0=>ao0 x0 low high)) fun v=>some v
def L8 (x:List Int)(cmp:Int->Int->Option Int)(i:Int):Option (Int⊕(Int⊕Bool)):=
 bif (decide (i>0))then(ai5 (D4 x i) fun x2=>ai5 (D4 x (o4 (i-1))) fun x3=>ai5 (cmp x2 x3) fun v=>bif (decide (v<0))then(some (.inr (.inr false)))else(some (.inl (o4 (i-1)))))else(some (.inr (.inl i)))
def H9 (x:List Int)(cmp:Int->Int->Option Int):Option Bool:=
 ai5 (L5 (L8 x cmp) (o4 ((x.length:Int)-1))) fun(t:Int⊕Bool)=>match t with| .inl _=>(some true)| .inr r2=>some r2
def ab7 (a b2:Int):Option Int:=
 some (o4 (b2-a))
def ak9 (row:List Int):Option Bool:=
 ai5 (ag9 row 0 10000) fun v=>ai5 (bif v then(some true)else(ai5 (P4 row) fun v2=>some (!v2))) fun b2=>some b2
def ai1 (t2:o8):Option Bool:=
 ai5 (J4 t2.p7) fun v=>ai5 (bif (!v)then(some true)else(ai5 (P2 t2.C3) fun v2=>some (!v2))) fun b2=>ai5 (bif b2 then(some true)else(ai5 (ag9 t2.C3.Y 0 1000) fun v3=>some v3)) fun b3=>bif b3 then(some false)else(ai5 (H9 t2.C3.Y ab7) fun v4=>bif (!v4)then(some false)else(ai5 (G0 t2.p7.Z ak9) fun v5=>some (!v5)))
def J6 (x low high:Int):Option Bool:=
 some ((decide (x>=low))&&(decide (x<=high)))
def aA1 (x c c2:Int):Option Bool:=
 ai5 (J6 x c c2) fun v=>some (!v)
def af7 (l:List Int)(low high:Int):Option Bool:=
 ai5 (o7 l (fun x0=>aA1 x0 low high)) fun v=>some (!v)
def Q3 (g:aW0):Option Bool:=
 some (((((((decide (g.P>=0))&&(decide (g.P<=65536)))&&(decide (g.I>=0)))&&(decide (g.I<=65536)))&&(decide (g.Low>=(-1073741824))))&&(decide (g.Low<=g.bs5)))&&(decide (g.bs5<=1073741824)))
def aB3 (_:Int)(x:List Int)(_:Unit):Option (Fl Unit Bool):=
 ai5 (af7 x (-1280) 3840) fun v7=>bif (!v7)then(some (.ret false))else(some (.next ()))
def ab9 (t2:o8):Option Bool:=
 ai5 (aB1 t2) fun v=>ai5 (bif (!v)then(some true)else(ai5 (ai1 t2) fun v2=>some (!v2))) fun b2=>ai5 (bif b2 then(some true)else(ai5 (J4 t2.O0) fun v3=>some (!v3))) fun b3=>ai5 (bif b3 then(some true)else(ai5 (J4 t2.aI4) fun v4=>some (!v4))) fun b4=>ai5 (bif b4 then(some true)else(ai5 (P2 t2.ae7) fun v5=>some (!v5))) fun b5=>ai5 (bif b5 then(some true)else(ai5 (P2 t2.aw2) fun v6=>some (!v6))) fun b6=>bif b6 then(some false)else(ai5 (ad5 t2.O0.Z (aB3) ()) fun(t:Unit⊕Bool)=>match t with| .inl _=>(ai5 (af7 t2.ae7.Y 500 10000) fun v8=>ai5 (bif v8 then(ai5 (af7 t2.aw2.Y 0 10000) fun v9=>some v9)else(some false)) fun b7=>ai5 (bif b7 then(ai5 (Q3 t2.ae6) fun v10=>some v10)else(some false)) fun b8=>some b8)| .inr r2=>some r2)
def F8 (x low high:Int):Option Bool:=
 some ((decide (x>=low))&&(decide (x<=high)))
def aj3 (b2:L4):Option Bool:=
 ai5 (F8 b2.ai7 100 1048576) fun v=>ai5 (bif v then(ai5 (F8 b2.ap2 0 65536) fun v2=>some v2)else(some false)) fun b3=>ai5 (bif b3 then(ai5 (F8 b2.J2 0 65536) fun v3=>some v3)else(some false)) fun b4=>ai5 (bif b4 then(ai5 (F8 b2.aP2 1 65536) fun v4=>some v4)else(some false)) fun b5=>ai5 (bif b5 then(ai5 (F8 b2.P0 0 1023) fun v5=>some v5)else(some false)) fun b6=>ai5 (bif b6 then(ai5 (F8 b2.L2 1 1024) fun v6=>some v6)else(some false)) fun b7=>ai5 (bif b7 then(ai5 (F8 b2.aX9 0 20) fun v7=>some v7)else(some false)) fun b8=>some b8
def ax6 (p2:U2):Option Bool:=
 ai5 (bif p2.aQ5 then(some 200)else(some 1000)) fun(most:Int)=>some (((((decide (p2.Value>=0))&&(decide (p2.Value<=most)))&&(decide (p2.af1>=0)))&&(decide (p2.af1<=3)))&&(p2.aQ5==(p2.af1==3)))
def R9 (x low high:Int):Option Bool:=
 some ((decide (x>=low))&&(decide (x<=high)))
def ai4 (s:List aa7)(f2:aa7->Option Bool)(i:Int)(_:Unit):Option (Fl Unit Int):=
 ai5 (D4 s i) fun x=>ai5 (f2 x) fun v=>bif v then(some (.ret i))else(some (.next ()))
def aa2 (s:List aa7)(f2:aa7->Option Bool):Option Int:=
 ai5 (K9 (s.length:Int) (ai4 s f2) ()) fun(t:Unit⊕Int)=>match t with| .inl _=>(some (-1))| .inr r2=>some r2
def Q9 (s:List aa7)(f2:aa7->Option Bool):Option Bool:=
 ai5 (aa2 s f2) fun v=>some (decide (v>=0))
def ab0 (c:aa7):Option Bool:=
 ai5 (R9 c.Value (-100) 100) fun v=>ai5 (bif (!v)then(some true)else(ai5 (R9 c.E5 0 1000) fun v2=>some (!v2))) fun b2=>some b2
def ac1 (p2:M8):Option Bool:=
 ai5 (R9 p2.aj8 750 1250) fun v=>ai5 (bif (!v)then(some true)else(ai5 (R9 p2.be1 0 1000) fun v2=>some (!v2))) fun b2=>bif (b2||((p2.Cells.length:Int) !=9))then(some false)else(ai5 (bif (!p2.as8)then(some (((p2.aj8 !=1000)||(p2.be1 !=0))||p2.be0))else(some false)) fun b3=>bif b3 then(some false)else(ai5 (Q9 p2.Cells ab0) fun v3=>some (!v3)))
def ag6 (s:List B8)(f2:B8->Option Bool)(i:Int)(_:Unit):Option (Fl Unit Int):=
 ai5 (D4 s i) fun x=>ai5 (f2 x) fun v=>bif v then(some (.ret i))else(some (.next ()))
def X5 (s:List B8)(f2:B8->Option Bool):Option Int:=
 ai5 (K9 (s.length:Int) (ag6 s f2) ()) fun(t:Unit⊕Int)=>match t with| .inl _=>(some (-1))| .inr r2=>some r2
def J3 (s:List B8)(f2:B8->Option Bool):Option Bool:=
 ai5 (X5 s f2) fun v=>some (decide (v>=0))
def ah2 (n2:Int):Option Bool:=
 some ((decide (n2>=0))&&(decide (n2<=4095)))
def ax1 (k:B8):Option Bool:=
 ai5 (bif ((decide (k.as9>=0))&&(decide (k.as9<=960)))then(ai5 (ah2 k.aI2) fun v=>some v)else(some false)) fun b2=>some ((b2&&(decide (k.Quiet>=0)))&&(decide (k.Quiet<100)))
def ak2 (k:B8):Option Bool:=
 ai5 (ax1 k) fun v=>some (!v)
def ap8 (e2:o6)(c:A7):Option Bool:=
 ai5 (O7 e2) fun v=>ai5 (bif (!v)then(some true)else(ai5 (ax6 c.I7) fun v2=>some (!v2))) fun b2=>ai5 (bif b2 then(some true)else(ai5 (ac1 c.Q1) fun v3=>some (!v3))) fun b3=>bif (b3||((c.aa6.length:Int) !=(e2.u6.length:Int)))then(some false)else(ai5 (J3 c.aa6 ak2) fun v4=>bif v4 then(some false)else(ai5 (J6 c.ae6.Sum (-4398046511104) 4398046511104) fun v5=>ai5 (bif v5 then(ai5 (J6 c.P0 0 1073741824) fun v6=>some v6)else(some false)) fun b4=>ai5 (bif b4 then(ai5 (J6 c.af2.p7 (-5000) 10000) fun v7=>some v7)else(some false)) fun b5=>ai5 (bif b5 then(ai5 (J6 c.af2.N4 (-1) 15) fun v8=>some v8)else(some false)) fun b6=>some b6))
def ab3 (s:List j2)(f2:j2->Option Bool)(i:Int)(_:Unit):Option (Fl Unit Int):=
 ai5 (D4 s i) fun x=>ai5 (f2 x) fun v=>bif v then(some (.ret i))else(some (.next ()))
def U6 (s:List j2)(f2:j2->Option Bool):Option Int:=
 ai5 (K9 (s.length:Int) (ab3 s f2) ()) fun(t:Unit⊕Int)=>match t with| .inl _=>(some (-1))| .inr r2=>some r2
def D8 (s:List j2)(f2:j2->Option Bool):Option Bool:=
 ai5 (U6 s f2) fun v=>some (decide (v>=0))
def P1 (t2:Int):Option Bool:=
 some ((decide (t2>=(-5000)))&&(decide (t2<=10000)))
def S1 (r2:j2):Option Bool:=
 ai5 (bif ((((decide (r2.N4<0))||(decide (r2.N4>15)))||(decide (r2.E7<0)))||(decide (r2.E7>15)))then(some true)else(ai5 (P1 r2.p7) fun v=>some (!v))) fun b2=>bif b2 then(some false)else(ai5 (bif (r2.Kind==1)then(some true)else(ai5 (bif (decide (r2.N4<=1))then(some ((r2.Kind==2)||(r2.Kind==3)))else(some false)) fun b3=>some b3)) fun b4=>some b4)
def ah1 (r2:j2):Option Bool:=
 ai5 (S1 r2) fun v=>some (!v)
def av3 (i:W5)(B4:Int):Option Bool:=
 ai5 (J6 B4 1 8) fun v=>bif (((!v)||((i.X0.length:Int) !=B4))||(decide ((i.Requests.length:Int)>30)))then(some false)else(ai5 (J6 i.D2 0 12000) fun v2=>ai5 (bif v2 then(ai5 (J6 i.L3 50 3000) fun v3=>some v3)else(some false)) fun b2=>ai5 (bif b2 then(ai5 (J6 i.L7 (-40) 150) fun v4=>some v4)else(some false)) fun b3=>ai5 (bif b3 then(ai5 (J6 i.au8 (-40) 150) fun v5=>some v5)else(some false)) fun b4=>ai5 (bif b4 then(ai5 (J6 i.aI6 0 20000) fun v6=>some v6)else(some false)) fun b5=>ai5 (bif b5 then(ai5 (J6 i.Lambda 0 20000) fun v7=>some v7)else(some false)) fun b6=>ai5 (bif b6 then(ai5 (af7 i.X0 0 4095) fun v8=>some v8)else(some false)) fun b7=>ai5 (bif b7 then(ai5 (D8 i.Requests ah1) fun v9=>some (!v9))else(some false)) fun b8=>some b8)
def C6 (x low high:Int):Option Int:=
 some (F5 (G7 x low) high)
def aj2 (n2:Int):Option Bool:=
 some ((decide (n2>=0))&&(decide (n2<=12000)))
def ax0 (D6:Int):Option Int:=
 bif (decide (D6<=(-20)))then(some 1200)else(bif (decide (D6>=70))then(some 800)else(some (o4 (1200-(o4 (da1 (o4 (400*(o4 (D6+20)))) 90))))))
def bc7 (o9 D6:Int):Option Bool:=
 ai5 (ax0 D6) fun v=>some (decide (o9<(o4 (v+300))))
def aw9 (bg0 o9 D6:Int):Option Bool:=
 ai5 (bif ((decide (bg0>=0))&&(decide (bg0<20)))then(ai5 (aj2 o9) fun v=>some v)else(some false)) fun b2=>ai5 (bif b2 then(ai5 (bc7 o9 D6) fun v2=>some v2)else(some false)) fun b3=>some b3
def aM4 (p2:U2)(first second:Int):Option (U2×Int):=
 ai5 (ax6 p2) fun v=>bif (!v)then(some ((⟨0,0,false⟩:U2),1))else(ai5 (C6 first 0 1000) fun v2=>ai5 (C6 second 0 500) fun v3=>ai5 (bif (decide ((G7 (o4 (v2-(o4 (2*v3)))) (o4 ((o4 (2*v3))-v2)))>50))then(some (F5 3 (o4 (p2.af1+1))))else(bif (!p2.aQ5)then(some 0)else(some p2.af1))) fun(f2:Int)=>bif (f2==3)then(some ((⟨F5 (F5 v2 (o4 (2*v3))) 200,f2,(f2==3)⟩:U2),0))else(bif (decide ((G7 (o4 (v2-(o4 (2*v3)))) (o4 ((o4 (2*v3))-v2)))>50))then(some ((⟨F5 (F5 v2 (o4 (2*v3))) p2.Value,f2,(f2==3)⟩:U2),0))else(some ((⟨v2,f2,(f2==3)⟩:U2),0))))
def u7 (s:o5)(e2:Int):Option o5:=
 bif (s.fail==0)then(some ({s with fail:=e2}:o5))else(some s)
def ab4 (f2:Int->Option Bool)(s:Int×Int):Option ((Int×Int)⊕((Int×Int)⊕Empty)):=
 bif (decide (s.1<s.2))then(ai5 (f2 (o4 (F4 .u64 (aX3.wrap (o4 (s.1+s.2))) 1))) fun v=>bif (!v)then(some (.inl (o4 ((o4 (F4 .u64 (aX3.wrap (o4 (s.1+s.2))) 1))+1),s.2)))else(some (.inl (s.1,o4 (F4 .u64 (aX3.wrap (o4 (s.1+s.2))) 1)))))else(some (.inr (.inl (s.1,s.2))))
def P8 (n2:Int)(f2:Int->Option Bool):Option Int:=
 ai5 (L5 (ab4 f2) (0,n2)) fun(t:(Int×Int)⊕Empty)=>match t with| .inl s2=>(some s2.1)| .inr r=>r.elim
def ae5 (i:Int)(c:List Int)(c2:Int):Option Bool:=
 ai5 (D4 c i) fun x=>some (decide (x>c2))
def W8 (l:List Int)(x:Int):Option (Int×Int):=
 ai5 (D4 l 0) fun x2=>ai5 (D4 l (o4 ((l.length:Int)-1))) fun x3=>ai5 (C6 x x2 x3) fun v=>ai5 (P8 (l.length:Int) (fun x0=>ae5 x0 l v)) fun v2=>some (F5 (o4 (v2-1)) (o4 ((l.length:Int)-2)),v)
def U7 (n2:Int):Option Int:=
 bif (decide (n2<0))then(some (aX3.wrap ((aX3.wrap (o4 (0-(o4 (n2+1)))))+1)))else(some (aX3.wrap n2))
def aO1 (x:Int):Option Int:=
 cv8 x
def V8 (x:Int):Option Int:=
 ai5 (aO1 x) fun v=>some (o4 (64-v))
def aD7 (q3 q6:Int)(s3:Int×Int):Option ((Int×Int)⊕((Int×Int)⊕Empty)):=
 bif ((decide (s3.1>=4294967296))||(decide ((aX3.wrap (s3.1*(ad3 .u64 q3 4294967295)))>(aX3.wrap ((aX3.wrap (4294967296*s3.2))+(F4 .u64 q6 32))))))then(bif (decide ((aX3.wrap (s3.2+(F4 .u64 q3 32)))>=4294967296))then(some (.inr (.inl (aX3.wrap (s3.1-1),aX3.wrap (s3.2+(F4 .u64 q3 32))))))else(some (.inl (aX3.wrap (s3.1-1),aX3.wrap (s3.2+(F4 .u64 q3 32))))))else(some (.inr (.inl (s3.1,s3.2))))
def aD8 (q3 q6:Int)(s5:Int×Int):Option ((Int×Int)⊕((Int×Int)⊕Empty)):=
 bif ((decide (s5.2>=4294967296))||(decide ((aX3.wrap (s5.2*(ad3 .u64 q3 4294967295)))>(aX3.wrap ((aX3.wrap (4294967296*s5.1))+(ad3 .u64 q6 4294967295))))))then(bif (decide ((aX3.wrap (s5.1+(F4 .u64 q3 32)))>=4294967296))then(some (.inr (.inl (aX3.wrap (s5.1+(F4 .u64 q3 32)),aX3.wrap (s5.2-1)))))else(some (.inl (aX3.wrap (s5.1+(F4 .u64 q3 32)),aX3.wrap (s5.2-1)))))else(some (.inr (.inl (s5.1,s5.2))))
def al3 (hi lo y:Int):Option (Int×Int):=
 ai5 (bif (y==0)then none else(some ())) fun(_:Unit)=>ai5 (bif (decide (y<=hi))then none else(some ())) fun(_:Unit)=>bif (hi==0)then(ai5 (bn5 .u64 lo y) fun q=>ai5 (cg1 lo y) fun q2=>some (q,q2))else(ai5 (V8 y) fun v=>ai5 (eu6 .u64 y (aX3.wrap v)) fun q3=>ai5 (eu6 .u64 hi (aX3.wrap v)) fun q4=>ai5 (eH6 .u64 lo (aX3.wrap (64-(aX3.wrap v)))) fun q5=>ai5 (eu6 .u64 lo (aX3.wrap v)) fun q6=>ai5 (bn5 .u64 (U4 .u64 q4 q5) (F4 .u64 q3 32)) fun q7=>ai5 (L5 (aD7 q3 q6) (q7,aX3.wrap ((U4 .u64 q4 q5)-(aX3.wrap (q7*(F4 .u64 q3 32)))))) fun(t:(Int×Int)⊕Empty)=>match t with| .inl s4=>(ai5 (bn5 .u64 (aX3.wrap ((aX3.wrap ((aX3.wrap ((U4 .u64 q4 q5)*4294967296))+(F4 .u64 q6 32)))-(aX3.wrap (s4.1*q3)))) (F4 .u64 q3 32)) fun q8=>ai5 (L5 (aD8 q3 q6) (aX3.wrap ((aX3.wrap ((aX3.wrap ((aX3.wrap ((U4 .u64 q4 q5)*4294967296))+(F4 .u64 q6 32)))-(aX3.wrap (s4.1*q3))))-(aX3.wrap (q8*(F4 .u64 q3 32)))),q8)) fun(t:(Int×Int)⊕Empty)=>match t with| .inl s6=>(ai5 (eH6 .u64 (aX3.wrap ((aX3.wrap ((aX3.wrap ((aX3.wrap ((aX3.wrap ((aX3.wrap ((U4 .u64 q4 q5)*4294967296))+(F4 .u64 q6 32)))-(aX3.wrap (s4.1*q3))))*4294967296))+(ad3 .u64 q6 4294967295)))-(aX3.wrap (s6.2*q3)))) (aX3.wrap v)) fun q9=>some (aX3.wrap ((aX3.wrap (s4.1*4294967296))+s6.2),q9))| .inr r=>r.elim)| .inr r=>r.elim)
def ak1 (r2 c:Int)(negative:Bool)(mode:Int):Option Bool:=
 bif (mode==1)then(some (negative&&(decide (r2>0))))else(bif (mode==2)then(some ((!negative)&&(decide (r2>0))))else(bif negative then(some (decide (r2>(aX3.wrap (c-r2)))))else(some (decide (r2>=(aX3.wrap (c-r2)))))))
def az0 (a b2 c mode:Int):Option (Int×Int):=
 bif ((decide (mode<1))||(decide (mode>3)))then(some (0,1))else(bif (c==0)then(some (0,10))else(ai5 (U7 a) fun v=>ai5 (U7 b2) fun v2=>ai5 (as5 v v2) fun r2=>ai5 (U7 c) fun v3=>bif (decide (r2.1>=v3))then(some (0,9))else(ai5 (al3 r2.1 r2.2 v3) fun r3=>bif (decide (r3.1>9223372036854775808))then(some (0,9))else(ai5 (ak1 r3.2 v3 (!((!((decide (a<0))==(decide (b2<0))))==(decide (c<0)))) mode) fun v4=>ai5 (bif v4 then(some (aX3.wrap (r3.1+1)))else(some r3.1)) fun(q:Int)=>bif ((!((!((decide (a<0))==(decide (b2<0))))==(decide (c<0))))&&(decide (q<=9223372036854775808)))then(some (o4 ((o4 (0-(o4 (aX3.wrap (q-1)))))-1),0))else(bif ((!(!((!((decide (a<0))==(decide (b2<0))))==(decide (c<0)))))&&(decide (q<9223372036854775808)))then(some (o4 q,0))else(some (0,9)))))))
def am7 (a b2 mode:Int):Option (Int×Int):=
 ai5 (az0 a 1 b2 mode) fun r2=>some (r2.1,r2.2)
def V3 (a b2:Int):Option Int:=
 ai5 (am7 a b2 1) fun r2=>some r2.1
def ab5 (x0 x1 y0 y1 x:Int):Option Int:=
 ai5 (V3 (o4 ((o4 (x-x0))*(o4 (y1-y0)))) (o4 (x1-x0))) fun v=>some (o4 (y0+v))
def ar3 (j:Int)(c:SMap)(c2 c3:Int):Option Int:=
 ai5 (D4 c.X c2) fun x=>ai5 (D4 c.X (o4 (c2+1))) fun x2=>ai5 (D4 c.Z c2) fun x3=>ai5 (D4 x3 j) fun x4=>ai5 (D4 c.Z (o4 (c2+1))) fun x5=>ai5 (D4 x5 j) fun x6=>ai5 (ab5 x x2 x4 x6 c3) fun v=>some v
def aN0 (m2:SMap)(x y:Int):Option Int:=
 ai5 (W8 m2.X x) fun r2=>ai5 (W8 m2.Y y) fun r3=>ai5 (D4 m2.Y r3.1) fun x2=>ai5 (D4 m2.Y (o4 (r3.1+1))) fun x3=>ai5 (ar3 r3.1 m2 r2.1 r2.2) fun v=>ai5 (ar3 (o4 (r3.1+1)) m2 r2.1 r2.2) fun v2=>ai5 (ab5 x2 x3 v v2 r3.2) fun v3=>some v3
def X7 (m2:SMap)(x y:Int):Option Int:=
 ai5 (J4 m2) fun v=>bif (!v)then(some 0)else(ai5 (aN0 m2 x y) fun v2=>some v2)
def aM5 (t2:o8)(value o9:Int):Option (Int×Int):=
 ai5 (J4 t2.aI4) fun v=>bif (!v)then(some (0,1))else(bif ((((decide (value<0))||(decide (value>1000)))||(decide (o9<0)))||(decide (o9>12000)))then(some (0,2))else(ai5 (X7 t2.aI4 o9 value) fun v2=>ai5 (C6 v2 (-5000) 10000) fun v3=>some (v3,0)))
def aq2 (s:F7)(g:aW0)(e2:Int):Option (F7×Int×Int):=
 ai5 (Q3 g) fun v=>bif (((!v)||(decide (s.Sum<(-4398046511104))))||(decide (s.Sum>4398046511104)))then(some ((⟨0⟩:F7),0,1))else(bif ((decide (e2<(-1048576)))||(decide (e2>1048576)))then(some ((⟨0⟩:F7),0,2))else(ai5 (bif ((decide ((F4 .i64 (o4 ((o4 (g.P*e2))+s.Sum)) 10)<=g.bs5))||(decide (e2<=0)))then(some ((decide ((F4 .i64 (o4 ((o4 (g.P*e2))+s.Sum)) 10)>=g.Low))||(decide (e2>=0))))else(some false)) fun b2=>ai5 (bif b2 then(ai5 (C6 (o4 (s.Sum+(o4 (g.I*e2)))) (-4398046511104) 4398046511104) fun v2=>some v2)else(some s.Sum)) fun(f2:Int)=>ai5 (C6 (F4 .i64 (o4 ((o4 (g.P*e2))+s.Sum)) 10) g.Low g.bs5) fun v3=>some ((⟨f2⟩:F7),v3,0)))
def aE7 (s:F7)(g:aW0)(target o9:Int):Option (F7×Int×Int):=
 ai5 (Q3 g) fun v=>bif (!v)then(some ((⟨0⟩:F7),0,1))else(ai5 (aj2 target) fun v2=>ai5 (bif (!v2)then(some true)else(ai5 (aj2 o9) fun v3=>some (!v3))) fun b2=>bif b2 then(some ((⟨0⟩:F7),0,2))else(ai5 (aq2 s g (o4 (target-o9))) fun r2=>some (r2.1,r2.2.1,r2.2.2)))
def ah0 (r2:j2):Option Bool:=
 ai5 (S1 r2) fun v=>some (!v)
def av2 (l:List j2)(low high:Int):Option Int:=
 ai5 (D8 l ah0) fun v=>bif v then(some 1)else(bif (decide ((l.length:Int)>32))then(some 5)else(ai5 (P1 low) fun v2=>ai5 (bif (!v2)then(some true)else(ai5 (P1 high) fun v3=>some (!v3))) fun b2=>bif (b2||(decide (low>high)))then(some 2)else(some 0)))
def W4 (s:List j2):Option (List j2):=
 ai5 (U5 ([]:List j2) s) fun l=>some l
def P7 (a:Int)(cmp:j2->j2->Option Int)(s2:Int×List j2):Option ((Int×List j2)⊕((Int×List j2)⊕Empty)):=
 ai5 (bif (decide (s2.1>a))then(ai5 (D4 s2.2 s2.1) fun x=>ai5 (D4 s2.2 (o4 (s2.1-1))) fun x2=>ai5 (cmp x x2) fun v=>some (decide (v<0)))else(some false)) fun(v2:Bool)=>bif v2 then(ai5 (ai5 (D4 s2.2 (o4 (s2.1-1))) fun x3=>ai5 (D4 s2.2 s2.1) fun x4=>ai5 (am4 s2.2 s2.1 x3) fun l=>ai5 (D4 l (o4 (s2.1-1))) fun _=>ai5 (am4 l (o4 (s2.1-1)) x4) fun l2=>some l2) fun(f2:List j2)=>some (.inl (o4 (s2.1-1),f2)))else(some (.inr (.inl (s2.1,s2.2))))
def P6 (a b2:Int)(cmp:j2->j2->Option Int)(s:Int×List j2):Option ((Int×List j2)⊕((Int×List j2)⊕Empty)):=
 bif (decide (s.1<b2))then(ai5 (L5 (P7 a cmp) (s.1,s.2)) fun(t:(Int×List j2)⊕Empty)=>match t with| .inl s3=>(some (.inl (o4 (s.1+1),s3.2)))| .inr r=>r.elim)else(some (.inr (.inl (s.1,s.2))))
def F3 (data:List j2)(a b2:Int)(cmp:j2->j2->Option Int):Option (List j2):=
 ai5 (L5 (P6 a b2 cmp) (o4 (a+1),data)) fun(t:(Int×List j2)⊕Empty)=>match t with| .inl s4=>(some s4.2)| .inr r=>r.elim
def O4 (_:Nat)(_:List j2)(_ _ _:Int)(_:j2->j2->Option Int):Option (List j2):=none
def R5 (n2:Int)(cmp:j2->j2->Option Int)(s:Int×Int×List j2):Option ((Int×Int×List j2)⊕((Int×Int×List j2)⊕Empty)):=
 bif (decide (s.2.1<=n2))then(ai5 (F3 s.2.2 s.1 s.2.1 cmp) fun v=>some (.inl (s.2.1,o4 (s.2.1+20),v)))else(some (.inr (.inl (s.1,s.2.1,s.2.2))))
def W3 (n2:Int)(cmp:j2->j2->Option Int)(s3:Int×List j2)(s4:Int×Int×List j2):Option ((Int×Int×List j2)⊕((Int×Int×List j2)⊕Empty)):=
 bif (decide (s4.2.1<=n2))then(ai5 (O4 64 s4.2.2 s4.1 (o4 (s4.1+s3.1)) s4.2.1 cmp) fun v3=>some (.inl (s4.2.1,o4 (s4.2.1+(o4 (2*s3.1))),v3)))else(some (.inr (.inl (s4.1,s4.2.1,s4.2.2))))
def R6 (n2:Int)(cmp:j2->j2->Option Int)(s3:Int×List j2):Option ((Int×List j2)⊕((Int×List j2)⊕Empty)):=
 bif (decide (s3.1<n2))then(ai5 (L5 (W3 n2 cmp s3) (0,o4 (2*s3.1),s3.2)) fun(t:(Int×Int×List j2)⊕Empty)=>match t with| .inl s5=>(bif (decide ((o4 (s5.1+s3.1))<n2))then(ai5 (O4 64 s5.2.2 s5.1 (o4 (s5.1+s3.1)) n2 cmp) fun v4=>some (.inl (o4 (s3.1*2),v4)))else(some (.inl (o4 (s3.1*2),s5.2.2))))| .inr r=>r.elim)else(some (.inr (.inl (s3.1,s3.2))))
def N2 (data:List j2)(n2:Int)(cmp:j2->j2->Option Int):Option (List j2):=
 ai5 (L5 (R5 n2 cmp) (0,20,data)) fun(t:(Int×Int×List j2)⊕Empty)=>match t with| .inl s2=>(ai5 (F3 s2.2.2 s2.1 n2 cmp) fun v2=>ai5 (L5 (R6 n2 cmp) (20,v2)) fun(t:(Int×List j2)⊕Empty)=>match t with| .inl s6=>(some s6.2)| .inr r=>r.elim)| .inr r=>r.elim
def J7 (x:List j2)(cmp:j2->j2->Option Int):Option (List j2):=
 ai5 (N2 x (x.length:Int) cmp) fun v=>some v
def O3 (a b2:j2):Option Int:=
 some (o4 (b2.E7-a.E7))
def ac9 (s:u3)(t2:Int):Option u3:=
 some (⟨s.low,G7 s.low (F5 s.high t2),s.source⟩:u3)
def Z0 (s:u3)(t2:Int):Option u3:=
 some ({s with low:=F5 s.high (G7 s.low t2)}:u3)
def Z2 (s:u3)(t2:Int):Option u3:=
 ai5 (C6 t2 s.low s.high) fun v=>some (⟨v,v,s.source⟩:u3)
def W6 (s:u3)(r2:j2):Option (Bool×u3):=
 ai5 (bif (r2.Kind==1)then(ai5 (ac9 s r2.p7) fun v=>some v)else(bif (r2.Kind==2)then(ai5 (Z0 s r2.p7) fun v2=>some v2)else(bif (r2.Kind==3)then(ai5 (Z2 s r2.p7) fun v3=>some v3)else(some s)))) fun(f2:u3)=>ai5 (bif (f2.low !=s.low)then(some r2.N4)else(some f2.source)) fun(f3:Int)=>bif (f2.low !=s.low)then(some (true,(⟨f2.low,f2.high,f3⟩:u3)))else(some ((f2.high !=s.high),(⟨f2.low,f2.high,f3⟩:u3)))
def aC0 (s:List Int):Option (List Int):=
 bU4 s
def ar8 (s:List Int):Option (List Int):=
 bm3 s
def aj0 (_:Int)(x:j2)(s:List Int×u3):Option (Fl (List Int×u3) Empty):=
 ai5 (W6 s.2 x) fun r2=>bif r2.1 then(ai5 (U5 s.1 ([x.N4]:List Int)) fun l2=>some (.next (l2,r2.2)))else(some (.next (s.1,r2.2)))
def ap5 (l:List j2)(low high:Int):Option (u3×List Int):=
 ai5 (W4 l) fun v=>ai5 (J7 v O3) fun v2=>ai5 (ad5 v2 (aj0) (([]:List Int),(⟨low,high,(-1)⟩:u3))) fun(t:(List Int×u3)⊕Empty)=>match t with| .inl s2=>(ai5 (aC0 s2.1) fun v3=>ai5 (ai5 (ar8 v3) fun v4=>some (v4,s2.2)) fun(s3:List Int×u3)=>some (s3.2,s3.1))| .inr r=>r.elim
def ap4 (g:Z8)(l:List j2)(low high up down:Int):Option (Z8×Int):=
 ai5 (P1 g.p7) fun v=>bif (((!v)||(decide (g.N4<(-1))))||(decide (g.N4>15)))then(some ((⟨0,0⟩:Z8),1))else(ai5 (av2 l low high) fun v2=>bif (v2 !=0)then(some ((⟨0,0⟩:Z8),v2))else(bif ((((decide (up<0))||(decide (up>20000)))||(decide (down<0)))||(decide (down>20000)))then(some ((⟨0,0⟩:Z8),2))else(ai5 (ap5 l low high) fun r2=>some ((⟨G7 (F5 (F5 (G7 r2.1.low (o4 (g.p7-down))) (o4 (g.p7+up))) r2.1.high) low,r2.1.source⟩:Z8),0))))
def W7 (s:o5):Option o5:=
 ai5 (ai5 (aM4 s.c.I7 s.i.bG0 s.i.bG1) fun r2=>some (r2.2,r2.1)) fun(s2:Int×U2)=>ai5 (u7 ({s with c:=(⟨s2.2,s.c.ae6,s.c.aa6,s.c.Q1,s.c.P0,s.c.af2⟩:A7)}:o5) s2.1) fun v=>ai5 (aM5 v.t v.c.I7.Value v.i.D2) fun r3=>ai5 (u7 v r3.2) fun v2=>ai5 (aw9 v2.c.I7.Value v2.i.D2 v2.i.au8) fun v3=>ai5 (bif v3 then(ai5 (ai5 (ax0 v2.i.au8) fun v4=>ai5 (aE7 v2.c.ae6 v2.t.ae6 v4 v2.i.D2) fun r4=>some (r4.2.2,r4.2.1,r4.1.Sum)) fun(s3:Int×Int×Int)=>ai5 (u7 ({v2 with c:=(⟨v2.c.I7,(⟨s3.2.2⟩:F7),v2.c.aa6,v2.c.Q1,v2.c.P0,v2.c.af2⟩:A7)}:o5) s3.1) fun v5=>ai5 (C6 s3.2.1 (-5000) 10000) fun v6=>ai5 (U5 ([(⟨0,3,r3.1,0⟩:j2)]:List j2) ([(⟨1,2,v6,1⟩:j2)]:List j2)) fun l=>some (v5,l))else(some (({v2 with c:=(⟨v2.c.I7,(⟨0⟩:F7),v2.c.aa6,v2.c.Q1,v2.c.P0,v2.c.af2⟩:A7)}:o5),([(⟨0,3,r3.1,0⟩:j2)]:List j2)))) fun(s4:o5×List j2)=>ai5 (ai5 (U5 s4.2 s4.1.i.Requests) fun l2=>ai5 (ap4 s4.1.c.af2 l2 (-5000) 10000 300 1000) fun r5=>some (r5.2,r5.1,l2)) fun(s5:Int×Z8×List j2)=>ai5 (u7 (⟨s4.1.t,s4.1.e,s4.1.b,(⟨s4.1.c.I7,s4.1.c.ae6,s4.1.c.aa6,s4.1.c.Q1,s4.1.c.P0,s5.2.1⟩:A7),s4.1.i,s4.1.wanted,s4.1.A0,s4.1.ad9,s4.1.late,s4.1.pattern,s4.1.time,s4.1.out,s4.1.fail⟩:o5) s5.1) fun v7=>some ({v7 with wanted:=G7 0 v7.c.af2.p7}:o5)
def al8 (i:Int)(c:o8)(c2 c3 c4:Int):Option Bool:=
 ai5 (X7 c.p7 c2 (o4 (c3+i))) fun v=>some (decide (v>=c4))
def ap1 (t2:o8)(o9 S9:Int):Option (Int×Int):=
 ai5 (ai1 t2) fun v=>bif (!v)then(some (0,1))else(ai5 (H6 o9 0 12000) fun v2=>bif (!v2)then(some (0,2))else(ai5 (D4 t2.p7.Y 0) fun x=>ai5 (D4 t2.p7.Y (o4 ((t2.p7.Y.length:Int)-1))) fun x2=>ai5 (P8 (o4 ((o4 (x2-x))+1)) (fun x0=>al8 x0 t2 o9 x S9)) fun v3=>bif (v3==(o4 ((o4 (x2-x))+1)))then(some (0,7))else(some (o4 (x+v3),0))))
def au1 (x e2 other:Int):Option Int:=
 bif (e2 !=0)then(some other)else(some x)
def al0 (i:Int)(c:Q0)(c2:Int):Option Bool:=
 ai5 (D4 c.X i) fun x=>some (decide (x>c2))
def av4 (c:Q0)(x:Int):Option Int:=
 ai5 (P8 (c.X.length:Int) (fun x0=>al0 x0 c x)) fun v=>some (o4 (v-1))
def aF2 (c:Q0)(x:Int):Option Int:=
 ai5 (D4 c.X 0) fun x2=>bif (decide (x<=x2))then(ai5 (D4 c.Y 0) fun x3=>some x3)else(ai5 (D4 c.X (o4 ((c.X.length:Int)-1))) fun x4=>bif (decide (x>=x4))then(ai5 (D4 c.Y (o4 ((c.X.length:Int)-1))) fun x5=>some x5)else(ai5 (av4 c x) fun v=>ai5 (D4 c.Y v) fun x6=>ai5 (D4 c.X v) fun x7=>ai5 (D4 c.Y (o4 (v+1))) fun x8=>ai5 (D4 c.X (o4 (v+1))) fun x9=>ai5 (V3 (o4 ((o4 (x-x7))*(o4 (x8-x6)))) (o4 (x9-x7))) fun v2=>some (o4 (x6+v2))))
def at5 (c:Q0)(x:Int):Option Int:=
 ai5 (P2 c) fun v=>bif (!v)then(some 0)else(ai5 (aF2 c x) fun v2=>some v2)
def aC5 (t2:o8)(o9 C1 K6:Int):Option Int:=
 ai5 (X7 t2.Air o9 C1) fun v=>ai5 (at5 t2.L7 K6) fun v2=>ai5 (V3 (o4 (v*v2)) 1000) fun v3=>some (F5 1048576 v3)
def aj9 (k:Int)(c:o8)(c2 c3 c4:Int):Option Bool:=
 ai5 (aC5 c c2 (o4 (50+k)) c3) fun v=>some (decide (v>=c4))
def au9 (t2:o8)(o9 want K6:Int):Option (Int×Int):=
 ai5 (aB1 t2) fun v=>bif (!v)then(some (0,1))else(ai5 (I5 o9 0 12000) fun v2=>ai5 (bif (!v2)then(some true)else(ai5 (I5 want 0 1048576) fun v3=>some (!v3))) fun b2=>ai5 (bif b2 then(some true)else(ai5 (I5 K6 (-40) 150) fun v4=>some (!v4))) fun b3=>bif b3 then(some (0,2))else(ai5 (P8 2951 (fun x0=>aj9 x0 t2 o9 K6 want)) fun v5=>bif (decide ((o4 (50+v5))>3000))then(some (0,7))else(some (o4 (50+v5),0))))
def ax5 (rpm:Int):Option (Int×Int):=
 bif ((decide (rpm<0))||(decide (rpm>20000)))then(some (0,2))else(ai5 (am7 (o4 ((o4 (rpm*65536))*23040)) 60000000 2) fun r2=>some (r2.1,r2.2))
def be2 (o9 C1:Int):Option (Int×Int):=
 ai5 (I5 o9 0 12000) fun v=>ai5 (bif (!v)then(some true)else(ai5 (I5 C1 50 3000) fun v2=>some (!v2))) fun b2=>bif b2 then(some (0,2))else(ai5 (ax5 o9) fun r2=>some (o4 (da1 (o4 (r2.1*C1)) 1024),r2.2))
def ak0 (k:Int)(c:L4)(c2 c3:Int):Option Bool:=
 some (decide ((o4 (da1 (o4 ((o4 (c.J2*k))*(o4 (1013-c2)))) 1000))>=c3))
def av0 (b2:L4)(cX5 C1:Int):Option (Int×Int):=
 ai5 (aj3 b2) fun v=>bif (!v)then(some (0,1))else(ai5 (I5 cX5 0 1099511627776) fun v2=>ai5 (bif (!v2)then(some true)else(ai5 (I5 C1 50 1013) fun v3=>some (!v3))) fun b3=>bif b3 then(some (0,2))else(ai5 (P8 1001 (fun x0=>ak0 x0 b2 C1 cX5)) fun v4=>bif (decide (v4>1000))then(some (0,7))else(some (v4,0))))
def T8 (s:o5):Option o5:=
 ai5 (ap1 s.t s.i.D2 s.wanted) fun r2=>ai5 (au1 r2.1 r2.2 1048576) fun v=>ai5 (au9 s.t s.i.D2 (G7 0 v) s.i.L7) fun r3=>ai5 (au1 r3.1 r3.2 3000) fun v2=>ai5 (be2 s.i.D2 (F5 1012 v2)) fun r4=>ai5 (u7 s r4.2) fun v3=>ai5 (av0 v3.b r4.1 (F5 1012 v2)) fun r5=>ai5 (au1 r5.1 r5.2 1000) fun v4=>some ({v3 with out:=(⟨v4,v3.out.O1,v3.out.p7⟩:O5)}:o5)
def aC4 (t2:o8)(o9 C1 K6:Int):Option (Int×Int):=
 ai5 (aB1 t2) fun v=>bif (!v)then(some (0,1))else(ai5 (I5 o9 0 12000) fun v2=>ai5 (bif (!v2)then(some true)else(ai5 (I5 C1 50 3000) fun v3=>some (!v3))) fun b2=>ai5 (bif b2 then(some true)else(ai5 (I5 K6 (-40) 150) fun v4=>some (!v4))) fun b3=>bif b3 then(some (0,2))else(ai5 (aC5 t2 o9 C1 K6) fun v5=>some (v5,0)))
def ag8 (t2:o8)(o9 A0:Int):Option (Int×Int):=
 ai5 (ai1 t2) fun v=>bif (!v)then(some (0,1))else(ai5 (H6 o9 0 12000) fun v2=>ai5 (bif (!v2)then(some true)else(ai5 (H6 A0 0 1048576) fun v3=>some (!v3))) fun b2=>bif b2 then(some (0,2))else(ai5 (X7 t2.p7 o9 A0) fun v4=>some (v4,0)))
def Y3 (t2:o8)(bJ8 late ad9 B4:Int):Option Int:=
 ai5 (at5 t2.C3 late) fun v=>ai5 (bn5 .i64 (o4 ((o4 (bJ8*v))*ad9)) (o4 (1000*B4))) fun q=>some q
def ak8 (late:Int)(c:o8)(c2 c3 c4 c5:Int):Option Bool:=
 ai5 (Y3 c c2 late c3 c4) fun v=>some (decide (v<=c5))
def am0 (t2:o8)(most B4:Int)(r2:Int×Int)(f2:Int):Option (Int⊕(Int⊕Empty)):=
 bif (decide (f2>0))then(ai5 (Y3 t2 r2.1 2560 f2 B4) fun v2=>bif (decide (v2<=most))then(some (.inr (.inl f2)))else(some (.inl (o4 (f2-1)))))else(some (.inr (.inl f2)))
def al9 (t2:o8)(o9 A0 most B4:Int):Option (Int×Int×Int):=
 ai5 (ag8 t2 o9 A0) fun r2=>bif (r2.2 !=0)then(some (0,0,r2.2))else(ai5 (H6 B4 1 8) fun v=>bif ((!v)||(decide (most<0)))then(some (0,0,2))else(ai5 (L5 (am0 t2 most B4 r2) B4) fun(t:Int⊕Empty)=>match t with| .inl f3=>(ai5 (P8 2560 (fun x0=>ak8 x0 t2 r2.1 f3 B4 most)) fun v3=>some (f3,v3,0))| .inr r=>r.elim))
def ar6 (B4 ad9 E6 i:Int)(f2:List Bool):Option (Fl (List Bool) Empty):=
 ai5 (cg1 (o4 (i+E6)) B4) fun q=>ai5 (bn5 .i64 (o4 ((o4 (q+1))*ad9)) B4) fun q2=>ai5 (bn5 .i64 (o4 (q*ad9)) B4) fun q3=>ai5 (D4 f2 i) fun _=>ai5 (am4 f2 i (decide (q2>q3))) fun l2=>some (.next l2)
def ar5 (B4 ad9 E6:Int):Option (List Bool×Int):=
 ai5 (H6 B4 1 8) fun v=>ai5 (bif (!v)then(some true)else(ai5 (H6 ad9 0 B4) fun v2=>some (!v2))) fun b2=>ai5 (bif b2 then(some true)else(ai5 (H6 E6 0 1099511627776) fun v3=>some (!v3))) fun b3=>bif b3 then(some (([]:List Bool),2))else(ai5 (aS0 B4 false) fun l=>ai5 (K9 (l.length:Int) (ar6 B4 ad9 E6) l) fun(t:(List Bool)⊕Empty)=>match t with| .inl f3=>(some (f3,0))| .inr r=>r.elim)
def aw1 (t2:o8)(o9 A0 late ad9 B4:Int):Option (Int×Int):=
 ai5 (ag8 t2 o9 A0) fun r2=>bif (r2.2 !=0)then(some (0,r2.2))else(ai5 (H6 late 0 2560) fun v=>ai5 (bif (!v)then(some true)else(ai5 (H6 B4 1 8) fun v2=>some (!v2))) fun b2=>ai5 (bif b2 then(some true)else(ai5 (H6 ad9 0 B4) fun v3=>some (!v3))) fun b3=>bif b3 then(some (0,2))else(ai5 (Y3 t2 r2.1 late ad9 B4) fun v4=>some (v4,0)))
def aa0 (s:o5):Option o5:=
 ai5 (ai5 (aC4 s.t s.i.D2 s.i.L3 s.i.L7) fun r2=>some (r2.2,r2.1)) fun(s2:Int×Int)=>ai5 (u7 ({s with A0:=s2.2}:o5) s2.1) fun v=>ai5 (ai5 (al9 v.t v.i.D2 v.A0 v.wanted (s.e.u6.length:Int)) fun r3=>some (r3.2.2,r3.1,r3.2.1)) fun(s3:Int×Int×Int)=>ai5 (u7 ({v with ad9:=s3.2.1,late:=s3.2.2}:o5) s3.1) fun v2=>ai5 (ar5 (s.e.u6.length:Int) v2.ad9 0) fun r4=>ai5 (u7 ({v2 with pattern:=r4.1}:o5) r4.2) fun v3=>ai5 (ai5 (aw1 v3.t v3.i.D2 v3.A0 v3.late v3.ad9 (s.e.u6.length:Int)) fun r5=>some (r5.2,r5.1)) fun(s4:Int×Int)=>ai5 (u7 ({v3 with out:=(⟨v3.out.J2,v3.out.O1,s4.2⟩:O5)}:o5) s4.1) fun v4=>some v4
def ac2 (o9 A0:Int):Option Bool:=
 ai5 (R9 o9 0 12000) fun v=>ai5 (bif v then(ai5 (R9 A0 0 1048576) fun v2=>some v2)else(some false)) fun b2=>some b2
def ag5 (s:List aa7):Option (List aa7):=
 ai5 (U5 ([]:List aa7) s) fun l=>some l
def ax2 (p2:M8):Option M8:=
 ai5 (ag5 p2.Cells) fun v=>some ({p2 with Cells:=v}:M8)
def az4 (p2:M8)(B9 o9 A0:Int):Option (M8×Int):=
 ai5 (ac1 p2) fun v=>bif (!v)then(some ((⟨false,false,0,0,([]:List aa7)⟩:M8),1))else(ai5 (ac2 o9 A0) fun v2=>ai5 (bif (!v2)then(some true)else(ai5 (R9 B9 0 20000) fun v3=>some (!v3))) fun b2=>bif b2 then(some ((⟨false,false,0,0,([]:List aa7)⟩:M8),2))else(ai5 (ax2 p2) fun v4=>bif (!v4.as8)then(some (({v4 with as8:=((decide (B9<300))||(decide (B9>600))),be0:=decide (B9>600)}:M8),0))else(ai5 (bif (decide (B9>500))then(some true)else(some ((decide (B9>=400))&&v4.be0))) fun b3=>ai5 (bif (!(b3==v4.be0))then(some (15,0))else(some (1,F5 1000 (o4 (v4.be1+1))))) fun(s:Int×Int)=>ai5 (bif b3 then(some (o4 (0-s.1)))else(some s.1)) fun(v_by:Int)=>ai5 (C6 (o4 (v4.aj8+v_by)) 750 1250) fun v5=>some ((⟨v4.as8,b3,v5,s.2,v4.Cells⟩:M8),0))))
def aB9 (x _ x2 n2:Int):Option (Fl Int Empty):=
 bif (decide (x>=x2))then(some (.next (o4 (n2+1))))else(some (.next n2))
def ak5 (x:Int)(bc0:List Int):Option Int:=
 ai5 (ad5 bc0 (aB9 x) 0) fun(t:Int⊕Empty)=>match t with| .inl n3=>(some n3)| .inr r=>r.elim
def aG2 (o9 A0:Int):Option Int:=
 ai5 (ac2 o9 A0) fun v=>bif (!v)then(some (-1))else(ai5 (ak5 o9 ([1500,3500]:List Int)) fun v2=>ai5 (ak5 A0 ([150000,350000]:List Int)) fun v3=>some (o4 ((o4 (3*v2))+v3)))
def aq4 (p2:M8)(o9 A0:Int):Option (Int×Int):=
 ai5 (ac1 p2) fun v=>bif (!v)then(some (0,1))else(ai5 (ac2 o9 A0) fun v2=>bif (!v2)then(some (0,2))else(ai5 (aG2 o9 A0) fun v3=>ai5 (D4 p2.Cells v3) fun x=>ai5 (C6 (o4 (p2.aj8+x.Value)) 700 1300) fun v4=>some (v4,0)))
def ae9 (x low high:Int):Option Bool:=
 some ((decide (x>=low))&&(decide (x<=high)))
def aU8 (A0 bI8:Int):Option (Int×Int):=
 ai5 (ae9 A0 0 1048576) fun v=>ai5 (bif (!v)then(some true)else(ai5 (ae9 bI8 500 2000) fun v2=>some (!v2))) fun b2=>bif b2 then(some (0,2))else(ai5 (bn5 .i64 (o4 (A0*10000)) (o4 (bI8*147))) fun q=>some (q,0))
def aJ4 (b2:L4):Option Bool:=
 ai5 (ae9 b2.P0 0 1023) fun v=>ai5 (bif v then(ai5 (ae9 b2.L2 0 1024) fun v2=>some v2)else(some false)) fun b3=>some b3
def aM8 (cmp:Int->Option Int)(s:Int×Int):Option ((Int×Int)⊕((Int×Int)⊕Empty)):=
 bif (decide (s.1<s.2))then(ai5 (cmp (o4 (F4 .u64 (aX3.wrap (o4 (s.1+s.2))) 1))) fun v=>bif (decide (v>0))then(some (.inl (o4 ((o4 (F4 .u64 (aX3.wrap (o4 (s.1+s.2))) 1))+1),s.2)))else(some (.inl (s.1,o4 (F4 .u64 (aX3.wrap (o4 (s.1+s.2))) 1)))))else(some (.inr (.inl (s.1,s.2))))
def aP1 (n2:Int)(cmp:Int->Option Int):Option (Int×Bool):=
 ai5 (L5 (aM8 cmp) (0,n2)) fun(t:(Int×Int)⊕Empty)=>match t with| .inl s2=>(ai5 (bif (decide (s2.1<n2))then(ai5 (cmp s2.1) fun v2=>some (v2==0))else(some false)) fun b2=>some (s2.1,b2))| .inr r=>r.elim
def aB8 (b2:L4)(aF8 aH8:Int):Option (Int×Int):=
 some (o4 ((o4 (aH8-(o4 (da1 (o4 (aH8*b2.P0)) 1024))))+(o4 (da1 (o4 (aF8*b2.L2)) 1024))),o4 ((o4 (aF8+(o4 (da1 (o4 (aH8*b2.P0)) 1024))))-(o4 (da1 (o4 (aF8*b2.L2)) 1024))))
def aA6 (i:Int)(c:L4)(c2 c3:Int):Option Int:=
 ai5 (aB8 c c2 i) fun r2=>some (o4 (c3-r2.1))
def aJ3 (b2:L4)(aF8 br1:Int):Option (Int×Int×Int):=
 ai5 (aJ4 b2) fun v=>bif (!v)then(some (0,0,1))else(ai5 (ae9 aF8 0 1073741824) fun v2=>ai5 (bif (!v2)then(some true)else(ai5 (ae9 br1 0 1048576) fun v3=>some (!v3))) fun b3=>bif b3 then(some (0,0,2))else(ai5 (aP1 1048577 (fun x0=>aA6 x0 b2 aF8 br1)) fun r2=>bif (decide (r2.1>1048576))then(some (0,0,9))else(ai5 (aB8 b2 aF8 r2.1) fun r3=>bif (decide (r3.2>1073741824))then(some (0,0,9))else(some (r2.1,r3.2,0)))))
def aO8 (b2:L4)(aF8 aH8:Int):Option (Int×Int×Int):=
 ai5 (aJ4 b2) fun v=>bif (!v)then(some (0,0,1))else(ai5 (ae9 aF8 0 1073741824) fun v2=>ai5 (bif (!v2)then(some true)else(ai5 (ae9 aH8 0 1048576) fun v3=>some (!v3))) fun b3=>bif b3 then(some (0,0,2))else(ai5 (aB8 b2 aF8 aH8) fun r2=>bif (decide (r2.2>1073741824))then(some (0,0,9))else(some (r2.1,r2.2,0))))
def aF9 (y:Int):Option Bool:=
 ai5 (ae9 y 0 10000) fun v=>some (!v)
def aB7 (t2:o8)(cb5 B9:Int):Option (Int×Int):=
 ai5 (P2 t2.aw2) fun v=>ai5 (bif (!v)then(some true)else(ai5 (o7 t2.aw2.Y aF9) fun v2=>some v2)) fun b2=>bif b2 then(some (0,1))else(ai5 (ae9 cb5 0 1048576) fun v3=>ai5 (bif (!v3)then(some true)else(ai5 (ae9 B9 0 20000) fun v4=>some (!v4))) fun b3=>bif b3 then(some (0,2))else(ai5 (at5 t2.aw2 B9) fun v5=>some (v5,0)))
def aO9 (t2:o8)(br1 B9:Int):Option (Int×Int):=
 ai5 (aB7 t2 br1 B9) fun r2=>bif ((r2.2 !=0)||(br1==0))then(some (0,r2.2))else(ai5 (am7 br1 3 2) fun r3=>some (o4 (r2.1+r3.1),r3.2))
def ad7 (s:o5):Option o5:=
 ai5 (ai5 (az4 s.c.Q1 s.i.Lambda s.i.D2 s.A0) fun r2=>some (r2.2,r2.1)) fun(s2:Int×M8)=>ai5 (u7 ({s with c:=(⟨s.c.I7,s.c.ae6,s.c.aa6,s2.2,s.c.P0,s.c.af2⟩:A7)}:o5) s2.1) fun v=>ai5 (aq4 v.c.Q1 v.i.D2 v.A0) fun r3=>ai5 (u7 v r3.2) fun v2=>ai5 (aU8 v2.A0 1000) fun r4=>ai5 (u7 v2 r4.2) fun v3=>ai5 (aJ3 v3.b v3.c.P0 (F5 1048576 (o4 (da1 (o4 (r4.1*r3.1)) 1000)))) fun r5=>ai5 (bif ((v3.ad9==0)||(r5.2.2 !=0))then(ai5 (aO8 v3.b v3.c.P0 0) fun r6=>ai5 (u7 v3 r6.2.2) fun v4=>some (0,r6.2.1,v4))else(some (r5.1,r5.2.1,v3))) fun(s3:Int×Int×o5)=>bif (decide (s3.1>0))then(ai5 (aO9 s3.2.2.t s3.1 s3.2.2.i.aI6) fun r7=>ai5 (u7 (⟨s3.2.2.t,s3.2.2.e,s3.2.2.b,(⟨s3.2.2.c.I7,s3.2.2.c.ae6,s3.2.2.c.aa6,s3.2.2.c.Q1,s3.2.1,s3.2.2.c.af2⟩:A7),s3.2.2.i,s3.2.2.wanted,s3.2.2.A0,s3.2.2.ad9,s3.2.2.late,s3.2.2.pattern,s3.2.2.time,s3.2.2.out,s3.2.2.fail⟩:o5) r7.2) fun v5=>ai5 (C6 r7.1 200 20000) fun v6=>some ({v5 with time:=v6}:o5))else(some (⟨s3.2.2.t,s3.2.2.e,s3.2.2.b,(⟨s3.2.2.c.I7,s3.2.2.c.ae6,s3.2.2.c.aa6,s3.2.2.c.Q1,s3.2.1,s3.2.2.c.af2⟩:A7),s3.2.2.i,s3.2.2.wanted,s3.2.2.A0,s3.2.2.ad9,s3.2.2.late,s3.2.2.pattern,s3.2.2.time,s3.2.2.out,s3.2.2.fail⟩:o5))
def aA7 (k:B8):Option Bool:=
 ai5 (ax1 k) fun v=>some (!v)
def aG1 (n2:Int):Option Bool:=
 ai5 (ah2 n2) fun v=>some (!v)
def ad1 (s:List B8):Option (List B8):=
 ai5 (U5 ([]:List B8) s) fun l=>some l
def aH9 (k:B8)(n2:Int):Option (B8×Bool):=
 bif (decide (n2>(o4 ((o4 (3*k.aI2))+40))))then(some ((⟨F5 (o4 (k.as9+96)) 960,k.aI2,0⟩:B8),true))else(ai5 (bif ((o4 (k.Quiet+1))==100)then(some (G7 (o4 (k.as9-16)) 0,0))else(some (k.as9,o4 (k.Quiet+1)))) fun(s:Int×Int)=>ai5 (V3 (o4 (n2-k.aI2)) 8) fun v=>some ((⟨s.1,o4 (k.aI2+v),s.2⟩:B8),false))
def aM2 (l:List B8)(af8:List Int)(i:Int)(f2:List B8):Option (Fl (List B8) Empty):=
 ai5 (ai5 (D4 l i) fun x=>ai5 (D4 af8 i) fun x2=>ai5 (aH9 x x2) fun r2=>ai5 (D4 f2 i) fun _=>ai5 (am4 f2 i r2.1) fun l2=>some l2) fun(f3:List B8)=>some (.next f3)
def aV1 (l:List B8)(af8:List Int):Option (List B8×Int):=
 ai5 (bif (((decide ((l.length:Int)<1))||(decide ((l.length:Int)>8)))||((af8.length:Int) !=(l.length:Int)))then(some true)else(ai5 (J3 l aA7) fun v=>some v)) fun b2=>bif b2 then(some (([]:List B8),1))else(ai5 (o7 af8 aG1) fun v2=>bif v2 then(some (([]:List B8),2))else(ai5 (ad1 l) fun v3=>ai5 (K9 (v3.length:Int) (aM2 l af8) v3) fun(t:(List B8)⊕Empty)=>match t with| .inl f4=>(some (f4,0))| .inr r=>r.elim))
def aA8 (a b2:Int):Option Int:=
 some (o4 (b2-a))
def aG8 (l:List Int):Option Bool:=
 ai5 (H9 l aA8) fun v=>some v
def Q5 (x low high:Int):Option Bool:=
 some ((decide (x>=low))&&(decide (x<=high)))
def as7 (x c c2:Int):Option Bool:=
 ai5 (Q5 x c c2) fun v=>some (!v)
def ac7 (l:List Int)(low high:Int):Option Bool:=
 ai5 (o7 l (fun x0=>as7 x0 low high)) fun v=>some v
def aw0 (l:List Int):Option Bool:=
 ai5 (ac7 l (-1280) 3840) fun v=>some v
def ax7 (t2:o8):Option Bool:=
 ai5 (J4 t2.O0) fun v=>ai5 (bif (!v)then(some true)else(ai5 (P2 t2.ae7) fun v2=>some (!v2))) fun b2=>ai5 (bif b2 then(some true)else(ai5 (P2 t2.C3) fun v3=>some (!v3))) fun b3=>ai5 (bif b3 then(some true)else(ai5 (aG8 t2.C3.Y) fun v4=>some (!v4))) fun b4=>bif b4 then(some false)else(ai5 (G0 t2.O0.Z aw0) fun v5=>ai5 (bif (!v5)then(ai5 (ac7 t2.ae7.Y 500 10000) fun v6=>some (!v6))else(some false)) fun b5=>ai5 (bif b5 then(ai5 (ac7 t2.C3.Y 0 1000) fun v7=>some (!v7))else(some false)) fun b6=>some b6)
def aG7 (t2:o8)(B9 M5:Int):Option (Int×Int):=
 ai5 (ax7 t2) fun v=>bif (!v)then(some (0,1))else(ai5 (Q5 B9 0 20000) fun v2=>ai5 (bif (!v2)then(some true)else(ai5 (Q5 M5 4000 1000000) fun v3=>some (!v3))) fun b2=>bif b2 then(some (0,2))else(ai5 (at5 t2.ae7 B9) fun v4=>some (F5 v4 (o4 (da1 (o4 (3*M5)) 4)),0)))
def aM9 (t2:o8)(o9 A0:Int):Option (Int×Int):=
 ai5 (ax7 t2) fun v=>bif (!v)then(some (0,1))else(ai5 (Q5 o9 0 12000) fun v2=>ai5 (bif (!v2)then(some true)else(ai5 (Q5 A0 0 1048576) fun v3=>some (!v3))) fun b2=>bif b2 then(some (0,2))else(ai5 (X7 t2.O0 o9 A0) fun v4=>some (v4,0)))
def aG6 (t2:o8)(o9 A0 D6 bj9:Int):Option (Int×Int):=
 ai5 (aM9 t2 o9 A0) fun r2=>bif (r2.2 !=0)then(some (0,r2.2))else(ai5 (Q5 D6 (-40) 150) fun v=>ai5 (bif (!v)then(some true)else(ai5 (Q5 bj9 0 1280) fun v2=>some (!v2))) fun b2=>bif b2 then(some (0,2))else(bif (decide (D6<20))then(ai5 (C6 (o4 ((o4 (r2.1+(o4 (2*(o4 (20-D6))))))-bj9)) (-1280) 3840) fun v3=>some (v3,0))else(bif (decide (D6>100))then(ai5 (C6 (o4 ((o4 (r2.1-(o4 (8*(o4 (D6-100))))))-bj9)) (-1280) 3840) fun v4=>some (v4,0))else(ai5 (C6 (o4 (r2.1-bj9)) (-1280) 3840) fun v5=>some (v5,0)))))
def ad4 (r3:Int×Int)(i:Int)(f2:o5):Option (Fl o5 Empty):=
 ai5 (D4 f2.c.aa6 i) fun x=>ai5 (aG6 f2.t f2.i.D2 f2.A0 f2.i.au8 x.as9) fun r4=>ai5 (u7 f2 r4.2) fun v4=>ai5 (D4 v4.pattern i) fun x2=>ai5 (bif x2 then(some v4.time)else(some 0)) fun(f3:Int)=>ai5 (ai5 (U5 v4.out.O1 ([(⟨o4 (i+1),G7 (-1280) (o4 (r4.1-v4.late)),G7 500 r3.1,5760,f3,0,0⟩:A1)]:List A1)) fun l=>some l) fun(f4:List A1)=>some (.next ({v4 with out:=(⟨v4.out.J2,f4,v4.out.p7⟩:O5)}:o5))
def Z9 (s:o5):Option o5:=
 ai5 (ai5 (aV1 s.c.aa6 s.i.X0) fun r2=>some (r2.2,r2.1)) fun(s2:Int×List B8)=>ai5 (u7 ({s with c:=(⟨s.c.I7,s.c.ae6,s2.2,s.c.Q1,s.c.P0,s.c.af2⟩:A7)}:o5) s2.1) fun v=>ai5 (bn5 .i64 60000000 (G7 1 v.i.D2)) fun q=>ai5 (C6 q 4000 1000000) fun v2=>ai5 (aG7 v.t v.i.aI6 v2) fun r3=>ai5 (u7 v r3.2) fun v3=>bif (v3.fail !=0)then(some v3)else(ai5 (K9 (v3.e.u6.length:Int) (ad4 r3) v3) fun(t:o5⊕Empty)=>match t with| .inl f5=>(some f5)| .inr r=>r.elim)
def aF1 (t2:o8)(e2:o6)(b2:L4)(c:A7)(i:W5):Option (A7×O5×Int):=
 ai5 (ab9 t2) fun v=>ai5 (bif (!v)then(some true)else(ai5 (aj3 b2) fun v2=>some (!v2))) fun b3=>ai5 (bif b3 then(some true)else(ai5 (ap8 e2 c) fun v3=>some (!v3))) fun b4=>bif b4 then(some ((⟨(⟨0,0,false⟩:U2),(⟨0⟩:F7),([]:List B8),(⟨false,false,0,0,([]:List aa7)⟩:M8),0,(⟨0,0⟩:Z8)⟩:A7),(⟨0,([]:List A1),0⟩:O5),1))else(ai5 (av3 i (e2.u6.length:Int)) fun v4=>bif (!v4)then(some ((⟨(⟨0,0,false⟩:U2),(⟨0⟩:F7),([]:List B8),(⟨false,false,0,0,([]:List aa7)⟩:M8),0,(⟨0,0⟩:Z8)⟩:A7),(⟨0,([]:List A1),0⟩:O5),2))else(ai5 (W7 (⟨t2,e2,b2,c,i,0,0,0,0,([]:List Bool),0,(⟨0,([]:List A1),0⟩:O5),0⟩:o5)) fun v5=>ai5 (T8 v5) fun v6=>ai5 (aa0 v6) fun v7=>ai5 (ad7 v7) fun v8=>ai5 (Z9 v8) fun v9=>bif (v9.fail !=0)then(ai5 (some v9.fail) fun(v10:Int)=>some ((⟨(⟨0,0,false⟩:U2),(⟨0⟩:F7),([]:List B8),(⟨false,false,0,0,([]:List aa7)⟩:M8),0,(⟨0,0⟩:Z8)⟩:A7),(⟨0,([]:List A1),0⟩:O5),v10))else(ai5 (some (0,v9.c,v9.out)) fun(s:Int×A7×O5)=>some (s.2.1,s.2.2,s.1))))
def aV8 (n2:Int):Option (w9×Int):=
 bif ((decide (n2<1))||(decide (n2>16)))then(some ((⟨0,([]:List j7)⟩:w9),2))else(ai5 (aS0 n2 (⟨false,0,false,false⟩:j7)) fun l=>some ((⟨0,l⟩:w9),0))
def O2 (s:List Int):Option (List Int):=
 ai5 (U5 ([]:List Int) s) fun l=>some l
def bc2:Option D3:=
 some (⟨false,0,0,0,0,0⟩:D3)
def ao9 (e2:o6):Option (c8×Int):=
 ai5 (O7 e2) fun v=>bif (!v)then(some ((⟨(⟨([]:List Int),0⟩:o6),(⟨false,0,0,0,0,0⟩:D3),(⟨0,([]:List j7)⟩:w9),([]:List A1),([]:List A3),false⟩:c8),1))else(ai5 (aV8 (o4 (2*(e2.u6.length:Int)))) fun r2=>bif (r2.2 !=0)then(some ((⟨(⟨([]:List Int),0⟩:o6),(⟨false,0,0,0,0,0⟩:D3),(⟨0,([]:List j7)⟩:w9),([]:List A1),([]:List A3),false⟩:c8),1))else(ai5 (O2 e2.u6) fun v2=>ai5 (bc2) fun v3=>some ((⟨(⟨v2,e2.as0⟩:o6),v3,r2.1,([]:List A1),([]:List A3),false⟩:c8),0)))
def av1 (t2:Int):Option Bool:=
 some ((decide (t2>=0))&&(decide (t2<=1099511627776)))
def ai9 (c:D3):Option Bool:=
 bif (!c.V7)then(some ((c.V7==false)&&((c.At==0)&&((c.H2==0)&&((c.F9==0)&&((c.aa4==0)&&((c.aj7==0)&&true)))))))else(ai5 (av1 c.At) fun v=>bif (((((((!v)||(decide (c.H2<0)))||(decide (c.H2>=46080)))||(decide (c.F9<1)))||(decide (c.F9>1073741824)))||(decide (c.aa4<192)))||(decide (c.aa4>1920)))then(some false)else(some (((c.aj7==c.aa4)||(c.aj7==(o4 (2*c.aa4))))||(c.aj7==(o4 (3*c.aa4))))))
def V1 (s:List j7)(f2:j7->Option Bool)(i:Int)(_:Unit):Option (Fl Unit Int):=
 ai5 (D4 s i) fun x=>ai5 (f2 x) fun v=>bif v then(some (.ret i))else(some (.next ()))
def R3 (s:List j7)(f2:j7->Option Bool):Option Int:=
 ai5 (K9 (s.length:Int) (V1 s f2) ()) fun(t:Unit⊕Int)=>match t with| .inl _=>(some (-1))| .inr r2=>some r2
def G4 (s:List j7)(f2:j7->Option Bool):Option Bool:=
 ai5 (R3 s f2) fun v=>some (decide (v>=0))
def ap0 (c:j7)(c2:w9):Option Bool:=
 bif c.D9 then(some ((decide (c.At<=c2.Q7))||(decide (c.At>1099511627776))))else(some ((c.At !=0)||c.Next))
def an9 (t2:w9):Option Bool:=
 bif ((((decide (t2.Q7<0))||(decide (t2.Q7>1099511627776)))||(decide ((t2.j1.length:Int)<1)))||(decide ((t2.j1.length:Int)>16)))then(some false)else(ai5 (G4 t2.j1 (fun x0=>ap0 x0 t2)) fun v=>some (!v))
def M6 (x low high:Int):Option Bool:=
 some ((decide (x>=low))&&(decide (x<=high)))
def X1 (e2:o6)(f2:A1):Option Bool:=
 ai5 (O7 e2) fun v=>ai5 (bif (!v)then(some true)else(ai5 (P3 e2.u6 f2.u0) fun v2=>some (!v2))) fun b2=>ai5 (bif b2 then(some true)else(ai5 (M6 f2.O0 (-1280) 3840) fun v3=>some (!v3))) fun b3=>ai5 (bif b3 then(some true)else(ai5 (M6 f2.ae7 500 10000) fun v4=>some (!v4))) fun b4=>ai5 (bif b4 then(some true)else(ai5 (M6 f2.End 0 23040) fun v5=>some (!v5))) fun b5=>bif b5 then(some false)else(ai5 (bif (f2.Y5 !=0)then(ai5 (M6 f2.Y5 200 20000) fun v6=>some (!v6))else(some false)) fun b6=>bif b6 then(some false)else(ai5 (bif ((f2.Gap==0)&&(f2.Extra==0))then(some true)else(ai5 (bif (f2.Y5 !=0)then(ai5 (M6 f2.Gap 200 20000) fun v7=>some v7)else(some false)) fun b7=>ai5 (bif b7 then(ai5 (M6 f2.Extra 200 20000) fun v8=>some v8)else(some false)) fun b8=>some b8)) fun b9=>some b9))
def N8 (s:List A1)(f2:A1->Option Bool)(i:Int)(_:Unit):Option (Fl Unit Int):=
 ai5 (D4 s i) fun x=>ai5 (f2 x) fun v=>bif v then(some (.ret i))else(some (.next ()))
def H5 (s:List A1)(f2:A1->Option Bool):Option Int:=
 ai5 (K9 (s.length:Int) (N8 s f2) ()) fun(t:Unit⊕Int)=>match t with| .inl _=>(some (-1))| .inr r2=>some r2
def F2 (s:List A1)(f2:A1->Option Bool):Option Bool:=
 ai5 (H5 s f2) fun v=>some (decide (v>=0))
def ae4 (g c:A1):Option Bool:=
 some (g.u0==c.u0)
def am3 (e2:o6)(l:List A1)(i:Int)(_:Unit):Option (Fl Unit Bool):=
 ai5 (D4 l i) fun x=>ai5 (X1 e2 x) fun v=>ai5 (bif (!v)then(some true)else(ai5 (ay4 l 0 i) fun l2=>ai5 (F2 l2 (fun x0=>ae4 x0 x)) fun v2=>some v2)) fun b2=>bif b2 then(some (.ret false))else(some (.next ()))
def ab1 (e2:o6)(l:List A1):Option Bool:=
 ai5 (K9 (l.length:Int) (am3 e2 l) ()) fun(t:Unit⊕Bool)=>match t with| .inl _=>(some true)| .inr r2=>some r2
def O8 (s:List A3)(f2:A3->Option Bool):Option Bool:=
 ai5 (C2 s f2) fun v=>some (decide (v>=0))
def av9 (s:c8)(j:A3):Option Bool:=
 ai5 (bif ((((((((((decide (j.Event.u0>=1))&&(decide (j.Event.u0<=(s.p6.u6.length:Int))))&&(decide (j.Event.Kind>=1)))&&(decide (j.Event.Kind<=4)))&&(decide (j.Event.H2>=0)))&&(decide (j.Event.H2<46080)))&&(decide (j.Event.ai8>=0)))&&(decide (j.Event.ai8<=2)))&&(decide (j.Left>=(-1048576))))&&(decide (j.Left<=1048576)))then(some (j.D9||(j.At==0)))else(some false)) fun b2=>some b2
def X9 (j:A3)(c:c8):Option Bool:=
 ai5 (av9 c j) fun v=>some (!v)
def H4 (x:B6):Option Int:=
 bif ((x.Kind==3)||(x.Kind==4))then(some (o4 ((o4 (2*(o4 (x.u0-1))))+1)))else(some (o4 (2*(o4 (x.u0-1)))))
def ar0 (kind:Int):Option Bool:=
 some ((kind==1)||(kind==3))
def Y2 (s:c8)(c:Int)(x:j7)(_:Int)(x2:A3)(s2:Bool×Bool):Option (Fl (Bool×Bool) Bool):=
 ai5 (H4 x2.Event) fun v=>bif (v !=c)then(some (.next (s2.1,s2.2)))else(ai5 (ar0 x2.Event.Kind) fun v2=>bif (v2==s2.1)then(some (.ret false))else(ai5 (bif s2.2 then(ai5 (bif (!(x2.D9==x.D9))then(some true)else(ai5 (bif x2.D9 then(some ((x2.At !=x.At)||(!(x.Next==(!s2.1)))))else(some false)) fun b2=>some b2)) fun b3=>bif b3 then(some (Sum.inr false))else(some (Sum.inl ())))else(bif (x2.D9||s.Cut)then(some (Sum.inr false))else(some (Sum.inl ())))) fun(t:Unit⊕Bool)=>match t with| .inl _=>(ai5 (bif s.Cut then(some (((x2.Event.Kind !=2)||(!x2.D9))||(decide (x2.At>(o4 (s.j4.Q7+5000))))))else(some false)) fun b4=>bif b4 then(some (.ret false))else(some (.next ((!s2.1),false))))| .inr r2=>some (.ret r2)))
def aq9 (s:c8)(c:Int):Option Bool:=
 ai5 (D4 s.j4.j1 c) fun x=>ai5 (ad5 s.D1 (Y2 s c x) (x.E3,true)) fun(t:(Bool×Bool)⊕Bool)=>match t with| .inl s4=>(ai5 (bif (!s4.1)then(some (!(s4.2&&x.D9)))else(some false)) fun b5=>some b5)| .inr r3=>some r3
def am2 (s:c8)(i:Int)(_:Unit):Option (Fl Unit Bool):=
 ai5 (aq9 s i) fun v6=>bif (!v6)then(some (.ret false))else(some (.next ()))
def J9 (s:c8):Option Bool:=
 ai5 (O7 s.p6) fun v=>ai5 (bif (!v)then(some true)else(ai5 (ai9 s.B1) fun v2=>some (!v2))) fun b2=>ai5 (bif b2 then(some true)else(ai5 (an9 s.j4) fun v3=>some (!v3))) fun b3=>ai5 (bif (b3||((s.j4.j1.length:Int) !=(o4 (2*(s.p6.u6.length:Int)))))then(some true)else(ai5 (ab1 s.p6 s.Next) fun v4=>some (!v4))) fun b4=>bif b4 then(some false)else(ai5 (bif (decide ((s.D1.length:Int)>200))then(some true)else(some ((!s.B1.V7)&&(decide ((s.D1.length:Int)>0))))) fun b5=>ai5 (bif b5 then(some true)else(ai5 (O8 s.D1 (fun x0=>X9 x0 s)) fun v5=>some v5)) fun b6=>bif b6 then(some false)else(ai5 (K9 (s.j4.j1.length:Int) (am2 s) ()) fun(t:Unit⊕Bool)=>match t with| .inl _=>(some true)| .inr r2=>some r2))
def T7 (s:List A1):Option (List A1):=
 ai5 (U5 ([]:List A1) s) fun l=>some l
def aj5 (s:List A3):Option (List A3):=
 ai5 (U5 ([]:List A3) s) fun l=>some l
def L6 (s:c8):Option c8:=
 ai5 (aj5 s.D1) fun v=>ai5 (T7 s.Next) fun v2=>some ({s with Next:=v2,D1:=v}:c8)
def aq8 (s:c8)(l:List A1):Option (c8×Int):=
 ai5 (J9 s) fun v=>ai5 (bif (!v)then(some true)else(ai5 (ab1 s.p6 l) fun v2=>some (!v2))) fun b2=>bif b2 then(some ((⟨(⟨([]:List Int),0⟩:o6),(⟨false,0,0,0,0,0⟩:D3),(⟨0,([]:List j7)⟩:w9),([]:List A1),([]:List A3),false⟩:c8),1))else(ai5 (L6 s) fun v3=>ai5 (T7 l) fun v4=>some (({v3 with Next:=v4}:c8),0))
def ag2 (x:j7):Option Bool:=
 some x.E3
def ac4 (s:c8):Option (c8×Int):=
 ai5 (J9 s) fun v=>bif (!v)then(some ((⟨(⟨([]:List Int),0⟩:o6),(⟨false,0,0,0,0,0⟩:D3),(⟨0,([]:List j7)⟩:w9),([]:List A1),([]:List A3),false⟩:c8),1))else(ai5 (bif (!s.Cut)then(some true)else(ai5 (G4 s.j4.j1 ag2) fun v2=>some v2)) fun b2=>bif b2 then(some ((⟨(⟨([]:List Int),0⟩:o6),(⟨false,0,0,0,0,0⟩:D3),(⟨0,([]:List j7)⟩:w9),([]:List A1),([]:List A3),false⟩:c8),6))else(ai5 (L6 s) fun v3=>some (({v3 with Cut:=false}:c8),0)))
def ag7 (t2:w9)(channel:Int):Option (w9×Int):=
 ai5 (an9 t2) fun v=>bif (!v)then(some ((⟨0,([]:List j7)⟩:w9),1))else(bif ((decide (channel<0))||(decide (channel>=(t2.j1.length:Int))))then(some ((⟨0,([]:List j7)⟩:w9),2))else(ai5 (aS0 (t2.j1.length:Int) (⟨false,0,false,false⟩:j7)) fun l=>some ((⟨t2.Q7,aJ2 l t2.j1⟩:w9),0)))
def aH1 (t2:w9)(channel:Int)(level:Bool):Option (w9×List j8×Int):=
 ai5 (ag7 t2 channel) fun r2=>bif (r2.2 !=0)then(some ((⟨0,([]:List j7)⟩:w9),([]:List j8),r2.2))else(ai5 (D4 r2.1.j1 channel) fun _=>ai5 (am4 r2.1.j1 channel (⟨false,0,false,level⟩:j7)) fun l=>ai5 (D4 t2.j1 channel) fun x2=>bif (x2.E3==level)then(some ((⟨r2.1.Q7,l⟩:w9),([]:List j8),0))else(ai5 (some (([(⟨t2.Q7,channel,level⟩:j8)]:List j8),(⟨r2.1.Q7,l⟩:w9))) fun(s:List j8×w9)=>some (s.2,s.1,0)))
def az9 (t2:w9)(channel:Int):Option (w9×Int):=
 ai5 (ag7 t2 channel) fun r2=>bif (r2.2 !=0)then(some ((⟨0,([]:List j7)⟩:w9),r2.2))else(ai5 (D4 t2.j1 channel) fun x=>ai5 (D4 r2.1.j1 channel) fun _=>ai5 (am4 r2.1.j1 channel (⟨false,0,false,x.E3⟩:j7)) fun l=>some ((⟨r2.1.Q7,l⟩:w9),0))
def as6 (j:A3)(c:Int):Option Bool:=
 ai5 (H4 j.Event) fun v=>some (v==c)
def aK0 (t2:w9)(channel aZ5:Int)(level:Bool):Option (w9×Int):=
 ai5 (ag7 t2 channel) fun r2=>bif (r2.2 !=0)then(some ((⟨0,([]:List j7)⟩:w9),r2.2))else(bif (decide (aZ5<=t2.Q7))then(some ((⟨0,([]:List j7)⟩:w9),16))else(bif (decide (aZ5>1099511627776))then(some ((⟨0,([]:List j7)⟩:w9),2))else(ai5 (D4 t2.j1 channel) fun x=>ai5 (D4 r2.1.j1 channel) fun _=>ai5 (am4 r2.1.j1 channel (⟨true,aZ5,level,x.E3⟩:j7)) fun l=>some ((⟨r2.1.Q7,l⟩:w9),0))))
def ac3 (s:c8)(i:Int)(s2:List j8×w9×List A3):Option (Fl (List j8×w9×List A3) Empty):=
 ai5 (D4 s.j4.j1 i) fun x=>ai5 (bif x.E3 then(some ((!((ep0 i 2)==0))||(s.j4.Q7==1099511627776)))else(some false)) fun b2=>bif b2 then(ai5 (aH1 s2.2.1 i false) fun r2=>ai5 (U5 s2.1 r2.2.1) fun l=>some (.next (l,r2.1,s2.2.2)))else(ai5 (az9 s2.2.1 i) fun r3=>bif (!x.E3)then(some (.next (s2.1,r3.1,s2.2.2)))else(ai5 (C2 s.D1 (fun x0=>as6 x0 i)) fun v3=>ai5 (D4 s.D1 v3) fun x2=>ai5 (bif ((!x2.D9)||(decide (x2.At>(o4 (s.j4.Q7+5000)))))then(some (F5 (o4 (s.j4.Q7+5000)) 1099511627776))else(some x2.At)) fun(f2:Int)=>ai5 (aK0 r3.1 i f2 false) fun r4=>ai5 (U5 s2.2.2 ([(⟨x2.Event,x2.Left,true,f2⟩:A3)]:List A3)) fun l2=>some (.next (s2.1,r4.1,l2))))
def ao8 (s:c8):Option (c8×List j8×Int):=
 ai5 (J9 s) fun v=>bif (!v)then(some ((⟨(⟨([]:List Int),0⟩:o6),(⟨false,0,0,0,0,0⟩:D3),(⟨0,([]:List j7)⟩:w9),([]:List A1),([]:List A3),false⟩:c8),([]:List j8),1))else(ai5 (L6 s) fun v2=>bif s.Cut then(some (v2,([]:List j8),0))else(ai5 (K9 (s.j4.j1.length:Int) (ac3 s) (([]:List j8),v2.j4,([]:List A3))) fun(t:(List j8×w9×List A3)⊕Empty)=>match t with| .inl s3=>(some ((⟨v2.p6,v2.B1,s3.2.1,v2.Next,s3.2.2,true⟩:c8),s3.1,0))| .inr r=>r.elim))
def U9 (j:A3)(c:Int):Option Bool:=
 ai5 (H4 j.Event) fun v=>some (v==c)
def az6 (a b2:Int):Option Int:=
 ai5 (bn5 .i64 a b2) fun q=>ai5 (cg1 a b2) fun q2=>bif (decide (q2>0))then(some (o4 (q+1)))else(some q)
def V0 (s:c8)(i:Int)(s2:w9×List A3):Option (Fl (w9×List A3) Empty):=
 ai5 (C2 s2.2 (fun x0=>U9 x0 i)) fun v=>ai5 (bif (decide (v<0))then(some true)else(ai5 (D4 s2.2 v) fun x=>some (decide (x.Left>s.B1.aj7)))) fun(v2:Bool)=>bif v2 then(some (.next (s2.1,s2.2)))else(ai5 (D4 s2.2 v) fun x2=>ai5 (az6 (o4 (x2.Left*s.B1.F9)) s.B1.aa4) fun v3=>bif (decide ((G7 (o4 (s.B1.At+v3)) (o4 (s2.1.Q7+1)))>1099511627776))then(some (.next (s2.1,s2.2)))else(ai5 (ai5 (ar0 x2.Event.Kind) fun v4=>ai5 (aK0 s2.1 i (G7 (o4 (s.B1.At+v3)) (o4 (s2.1.Q7+1))) v4) fun r2=>some (r2.2,r2.1)) fun(s3:Int×w9)=>bif (s3.1==0)then(ai5 (am4 s2.2 v ({x2 with D9:=true}:A3)) fun l=>ai5 (am4 l v (⟨x2.Event,x2.Left,true,G7 (o4 (s.B1.At+v3)) (o4 (s2.1.Q7+1))⟩:A3)) fun l2=>some (.next (s3.2,l2)))else(some (.next (s2.1,s2.2)))))
def ak6 (s:c8):Option c8:=
 bif s.Cut then(some s)else(ai5 (K9 (s.j4.j1.length:Int) (V0 s) (s.j4,s.D1)) fun(t:(w9×List A3)⊕Empty)=>match t with| .inl s4=>(some ({s with j4:=s4.1,D1:=s4.2}:c8))| .inr r=>r.elim)
def aI0 (_:Int)(x:j7)(s:Int×Bool):Option (Fl (Int×Bool) Empty):=
 ai5 (bif x.D9 then(some ((!s.2)||(decide (x.At<s.1))))else(some false)) fun b2=>bif b2 then(some (.next (x.At,true)))else(some (.next (s.1,s.2)))
def aN1 (t2:w9):Option (Int×Bool):=
 ai5 (an9 t2) fun v=>bif (!v)then(some (0,false))else(ai5 (ad5 t2.j1 (aI0) (0,false)) fun(t:(Int×Bool)⊕Empty)=>match t with| .inl s2=>(some (s2.1,s2.2))| .inr r=>r.elim)
def X6 (s:List j8)(f:j8->j8->Option Int):Option (List j8):=
 bU5 f s
def F6 (x y:Int):Option Int:=
 ai5 (cmp_isNaN_int x) fun v=>ai5 (cmp_isNaN_int y) fun v2=>bif v then(bif v2 then(some 0)else(some (-1)))else(bif v2 then(some 1)else(bif (decide (x<y))then(some (-1))else(bif (decide (x>y))then(some 1)else(some 0))))
def ao6 (_ x:Int)(_:Unit):Option (Fl Unit Int):=
 bif (x !=0)then(some (.ret x))else(some (.next ()))
def af6 (bx5:List Int):Option Int:=
 ai5 (ad5 bx5 (ao6) ()) fun(t:Unit⊕Int)=>match t with| .inl _=>(some 0)| .inr r2=>some r2
def W9 (a b2:j8):Option Int:=
 ai5 (F6 a.At b2.At) fun v=>ai5 (F6 a.Channel b2.Channel) fun v2=>ai5 (af6 ([v,v2]:List Int)) fun v3=>some v3
def au7 (t2:w9)(K5 i:Int)(s:List j8×List j7):Option (Fl (List j8×List j7) Empty):=
 ai5 (D4 t2.j1 i) fun x=>bif ((!x.D9)||(decide (x.At>K5)))then(some (.next (s.1,s.2)))else(ai5 (bif (!(x.Next==x.E3))then(ai5 (U5 s.1 ([(⟨x.At,i,x.Next⟩:j8)]:List j8)) fun l=>some l)else(some s.1)) fun(f2:List j8)=>ai5 (D4 s.2 i) fun _=>ai5 (am4 s.2 i (⟨false,0,false,x.Next⟩:j7)) fun l2=>some (.next (f2,l2)))
def ak7 (t2:w9)(K5:Int):Option (w9×List j8×Int):=
 ai5 (ag7 t2 0) fun r2=>bif (r2.2 !=0)then(some ((⟨0,([]:List j7)⟩:w9),([]:List j8),r2.2))else(bif (decide (K5<t2.Q7))then(some ((⟨0,([]:List j7)⟩:w9),([]:List j8),16))else(bif (decide (K5>1099511627776))then(some ((⟨0,([]:List j7)⟩:w9),([]:List j8),2))else(ai5 (K9 (t2.j1.length:Int) (au7 t2 K5) (([]:List j8),r2.1.j1)) fun(t:(List j8×List j7)⊕Empty)=>match t with| .inl s2=>(ai5 (X6 s2.1 W9) fun v=>some ((⟨K5,s2.2⟩:w9),v,0))| .inr r=>r.elim)))
def an7 (j:A3)(c:Int):Option Bool:=
 some (j.D9&&(j.At==c))
def Y1 (K5:Int)(s2:List j8×c8):Option ((List j8×c8)⊕((List j8×c8)⊕Empty)):=
 ai5 (aN1 s2.2.j4) fun r2=>bif ((!r2.2)||(decide (r2.1>K5)))then(some (.inr (.inl (s2.1,s2.2))))else(ai5 (ai5 (ak7 s2.2.j4 r2.1) fun r3=>some (r3.2.1,r3.1)) fun(s3:List j8×w9)=>ai5 (U5 s2.1 s3.1) fun l=>ai5 (L0 s2.2.D1 (fun x0=>an7 x0 r2.1)) fun v=>ai5 (ak6 (⟨s2.2.p6,s2.2.B1,s3.2,s2.2.Next,v,s2.2.Cut⟩:c8)) fun v2=>some (.inl (l,v2)))
def ab2 (s:c8)(K5:Int):Option (List j8×c8):=
 ai5 (L5 (Y1 K5) (([]:List j8),s)) fun(t:(List j8×c8)⊕Empty)=>match t with| .inl s4=>(ai5 (ak7 s4.2.j4 K5) fun r4=>ai5 (U5 s4.1 r4.2.1) fun l2=>some (l2,(⟨s4.2.p6,s4.2.B1,r4.1,s4.2.Next,s4.2.D1,s4.2.Cut⟩:c8)))| .inr r=>r.elim
def T1 (s:c8)(K5:Int):Option (c8×List j8×Int):=
 ai5 (J9 s) fun v=>bif (!v)then(some ((⟨(⟨([]:List Int),0⟩:o6),(⟨false,0,0,0,0,0⟩:D3),(⟨0,([]:List j7)⟩:w9),([]:List A1),([]:List A3),false⟩:c8),([]:List j8),1))else(bif (decide (K5<s.j4.Q7))then(some ((⟨(⟨([]:List Int),0⟩:o6),(⟨false,0,0,0,0,0⟩:D3),(⟨0,([]:List j7)⟩:w9),([]:List A1),([]:List A3),false⟩:c8),([]:List j8),16))else(bif (decide (K5>1099511627776))then(some ((⟨(⟨([]:List Int),0⟩:o6),(⟨false,0,0,0,0,0⟩:D3),(⟨0,([]:List j7)⟩:w9),([]:List A1),([]:List A3),false⟩:c8),([]:List j8),2))else(ai5 (L6 s) fun v2=>ai5 (ab2 v2 K5) fun r2=>some (r2.2,r2.1,0))))
def ab8 (a b2:Int):Option Int:=
 bif ((b2==0)||(b2==(-1)))then(some 0)else(ai5 (cg1 a b2) fun q=>bif ((q !=0)&&(!((decide (q<0))==(decide (b2<0)))))then(some (o4 (q+b2)))else(some q))
def Q8 (bL4 K5:Int):Option Int:=
 ai5 (ah7 bL4) fun v=>ai5 (bif (!v)then(some true)else(ai5 (ah7 K5) fun v2=>some (!v2))) fun b2=>bif b2 then(some (-1))else(ai5 (ab8 (o4 (K5-bL4)) 46080) fun v3=>some v3)
def aK7 (c:D3):Option Int:=
 ai5 (ai9 c) fun v=>bif (!v)then(some 1)else(bif (!c.V7)then(some 6)else(some 0))
def bl8 (a b2:Int):Option Int:=
 ai5 (am7 a b2 2) fun r2=>some r2.1
def aF0 (c:D3)(bV5:Int):Option (Int×Int):=
 ai5 (aK7 c) fun v=>bif (v !=0)then(some (0,v))else(bif ((decide (bV5<0))||(decide (bV5>46080)))then(some (0,2))else(ai5 (bl8 (o4 (bV5*c.F9)) c.aa4) fun v2=>some (v2,0)))
def ak4 (e2:o6)(aC8:Int):Option (Int×Bool):=
 ai5 (V6 e2.u6 aC8) fun v=>ai5 (bn5 .i64 (o4 ((G7 v 0)*46080)) (e2.u6.length:Int)) fun q=>some (ep0 (o4 (e2.as0+q)) 46080,decide (v>=0))
def av5 (e2:o6)(aC8:Int):Option (Int×Int):=
 ai5 (O7 e2) fun v=>bif (!v)then(some (0,1))else(ai5 (ak4 e2 aC8) fun r2=>bif (!r2.2)then(some (0,7))else(some (r2.1,0)))
def Y0 (f2:A1)(c:Int):Option Bool:=
 some (f2.u0==c)
def ao7 (f2:A1)(c:o6):Option Bool:=
 ai5 (X1 c f2) fun v=>some (!v)
def av6 (g c:A1):Option Bool:=
 some (g.u0==c.u0)
def O6 (aZ5 kind bT4:Int)(c:List B6)(c2:A1):Option (List B6):=
 ai5 (ai5 (ab8 aZ5 46080) fun v=>ai5 (U5 c ([(⟨v,kind,c2.u0,bT4⟩:B6)]:List B6)) fun l=>some l) fun(f2:List B6)=>some f2
def K2 (d c:Int):Option Int:=
 ai5 (bn5 .i64 (o4 (d*23040)) c) fun q=>some q
def ak3 (f2:A1):Option Int:=
 bif (f2.Y5==0)then(some 0)else(bif (f2.Extra==0)then(some 1)else(some 2))
def aa3 (s:List B6)(f:B6->B6->Option Int):Option (List B6):=
 bU5 f s
def al1 (a b2:B6):Option Int:=
 ai5 (F6 a.H2 b2.H2) fun v=>ai5 (F6 a.u0 b2.u0) fun v2=>ai5 (F6 a.Kind b2.Kind) fun v3=>ai5 (F6 a.ai8 b2.ai8) fun v4=>ai5 (af6 ([v,v2,v3,v4]:List Int)) fun v5=>some v5
def aD1 (l:List A1)(i:Int)(_:Unit):Option (Fl Unit (List B6×Int)):=
 ai5 (D4 l i) fun x=>ai5 (ay4 l 0 i) fun l2=>ai5 (F2 l2 (fun x0=>av6 x0 x)) fun v4=>bif v4 then(some (.ret (([]:List B6),8)))else(some (.next ()))
def aw7 (e2:o6)(M5 _:Int)(x2:A1)(f2:List B6):Option (Fl (List B6) (List B6×Int)):=
 ai5 (ak4 e2 x2.u0) fun r2=>ai5 (O6 (o4 (r2.1-x2.O0)) 2 0 f2 x2) fun v5=>ai5 (K2 x2.ae7 M5) fun v6=>ai5 (O6 (o4 ((o4 (r2.1-x2.O0))-(F5 v6 23040))) 1 0 v5 x2) fun v7=>ai5 (K2 x2.Y5 M5) fun v8=>ai5 (K2 x2.Gap M5) fun v9=>ai5 (K2 x2.Extra M5) fun v10=>bif (decide ((G7 (G7 v8 v9) v10)>23040))then(some (.ret (([]:List B6),2)))else(ai5 (ak3 x2) fun v11=>ai5 (bif (decide (v11>0))then(ai5 (O6 (o4 (r2.1-x2.End)) 4 1 v7 x2) fun v12=>ai5 (K2 x2.Y5 M5) fun v13=>ai5 (O6 (o4 ((o4 (r2.1-x2.End))-v13)) 3 1 v12 x2) fun v14=>some v14)else(some v7)) fun(f3:List B6)=>ai5 (ak3 x2) fun v15=>bif (decide (v15>1))then(ai5 (K2 x2.Gap M5) fun v16=>ai5 (O6 (o4 ((o4 (r2.1-x2.End))+v16)) 3 2 f3 x2) fun v17=>ai5 (ai5 (K2 x2.Gap M5) fun v18=>ai5 (K2 x2.Extra M5) fun v19=>ai5 (O6 (o4 ((o4 ((o4 (r2.1-x2.End))+v18))+v19)) 4 2 v17 x2) fun v20=>some v20) fun(f4:List B6)=>some (.next f4))else(some (.next f3)))
def aF5 (e2:o6)(l:List A1)(M5:Int):Option (List B6×Int):=
 ai5 (O7 e2) fun v=>ai5 (bif (!v)then(some true)else(ai5 (F2 l (fun x0=>ao7 x0 e2)) fun v2=>some v2)) fun b2=>bif b2 then(some (([]:List B6),1))else(ai5 (M6 M5 4000 1000000) fun v3=>bif (!v3)then(some (([]:List B6),2))else(ai5 (K9 (l.length:Int) (aD1 l) ()) fun(t:Unit⊕(List B6×Int))=>match t with| .inl _=>(ai5 (ad5 l (aw7 e2 M5) ([]:List B6)) fun(t:(List B6)⊕(List B6×Int))=>match t with| .inl f5=>(ai5 (aa3 f5 al1) fun v21=>some (v21,0))| .inr r3=>some r3)| .inr r4=>some r4))
def C0 (a:Int)(cmp:a7->a7->Option Int)(s2:Int×List a7):Option ((Int×List a7)⊕((Int×List a7)⊕Empty)):=
 ai5 (bif (decide (s2.1>a))then(ai5 (D4 s2.2 s2.1) fun x=>ai5 (D4 s2.2 (o4 (s2.1-1))) fun x2=>ai5 (cmp x x2) fun v=>some (decide (v<0)))else(some false)) fun(v2:Bool)=>bif v2 then(ai5 (ai5 (D4 s2.2 (o4 (s2.1-1))) fun x3=>ai5 (D4 s2.2 s2.1) fun x4=>ai5 (am4 s2.2 s2.1 x3) fun l=>ai5 (D4 l (o4 (s2.1-1))) fun _=>ai5 (am4 l (o4 (s2.1-1)) x4) fun l2=>some l2) fun(f2:List a7)=>some (.inl (o4 (s2.1-1),f2)))else(some (.inr (.inl (s2.1,s2.2))))
def B2 (a b2:Int)(cmp:a7->a7->Option Int)(s:Int×List a7):Option ((Int×List a7)⊕((Int×List a7)⊕Empty)):=
 bif (decide (s.1<b2))then(ai5 (L5 (C0 a cmp) (s.1,s.2)) fun(t:(Int×List a7)⊕Empty)=>match t with| .inl s3=>(some (.inl (o4 (s.1+1),s3.2)))| .inr r=>r.elim)else(some (.inr (.inl (s.1,s.2))))
def B0 (data:List a7)(a b2:Int)(cmp:a7->a7->Option Int):Option (List a7):=
 ai5 (L5 (B2 a b2 cmp) (o4 (a+1),data)) fun(t:(Int×List a7)⊕Empty)=>match t with| .inl s4=>(some s4.2)| .inr r=>r.elim
def I1 (_:Nat)(_:List a7)(_ _ _:Int)(_:a7->a7->Option Int):Option (List a7):=none
def K0 (n2:Int)(cmp:a7->a7->Option Int)(s:Int×Int×List a7):Option ((Int×Int×List a7)⊕((Int×Int×List a7)⊕Empty)):=
 bif (decide (s.2.1<=n2))then(ai5 (B0 s.2.2 s.1 s.2.1 cmp) fun v=>some (.inl (s.2.1,o4 (s.2.1+20),v)))else(some (.inr (.inl (s.1,s.2.1,s.2.2))))
def N3 (n2:Int)(cmp:a7->a7->Option Int)(s3:Int×List a7)(s4:Int×Int×List a7):Option ((Int×Int×List a7)⊕((Int×Int×List a7)⊕Empty)):=
 bif (decide (s4.2.1<=n2))then(ai5 (I1 64 s4.2.2 s4.1 (o4 (s4.1+s3.1)) s4.2.1 cmp) fun v3=>some (.inl (s4.2.1,o4 (s4.2.1+(o4 (2*s3.1))),v3)))else(some (.inr (.inl (s4.1,s4.2.1,s4.2.2))))
def K1 (n2:Int)(cmp:a7->a7->Option Int)(s3:Int×List a7):Option ((Int×List a7)⊕((Int×List a7)⊕Empty)):=
 bif (decide (s3.1<n2))then(ai5 (L5 (N3 n2 cmp s3) (0,o4 (2*s3.1),s3.2)) fun(t:(Int×Int×List a7)⊕Empty)=>match t with| .inl s5=>(bif (decide ((o4 (s5.1+s3.1))<n2))then(ai5 (I1 64 s5.2.2 s5.1 (o4 (s5.1+s3.1)) n2 cmp) fun v4=>some (.inl (o4 (s3.1*2),v4)))else(some (.inl (o4 (s3.1*2),s5.2.2))))| .inr r=>r.elim)else(some (.inr (.inl (s3.1,s3.2))))
def H3 (data:List a7)(n2:Int)(cmp:a7->a7->Option Int):Option (List a7):=
 ai5 (L5 (K0 n2 cmp) (0,20,data)) fun(t:(Int×Int×List a7)⊕Empty)=>match t with| .inl s2=>(ai5 (B0 s2.2.2 s2.1 n2 cmp) fun v2=>ai5 (L5 (K1 n2 cmp) (20,v2)) fun(t:(Int×List a7)⊕Empty)=>match t with| .inl s6=>(some s6.2)| .inr r=>r.elim)| .inr r=>r.elim
def D0 (x:List a7)(cmp:a7->a7->Option Int):Option (List a7):=
 ai5 (H3 x (x.length:Int) cmp) fun v=>some v
def ac5 (a b2:a7):Option Int:=
 ai5 (F6 a.cE9 b2.cE9) fun v=>ai5 (H4 a.x) fun v2=>ai5 (H4 b2.x) fun v3=>ai5 (F6 v2 v3) fun v4=>ai5 (af6 ([v,v4]:List Int)) fun v5=>some v5
def aj4 (begin _:Int)(x:B6)(out:List a7):Option (Fl (List a7) Empty):=
 ai5 (ai5 (Q8 begin x.H2) fun v=>ai5 (U5 out ([(⟨x,v⟩:a7)]:List a7)) fun l=>some l) fun(f3:List a7)=>some (.next f3)
def V4 (x2:(Int×Int))(_:Int)(x3:a7)(s:Int×Int×Int):Option (Fl (Int×Int×Int) (List a7×Bool)):=
 bif ((x3.x.Kind !=x2.1)&&(x3.x.Kind !=x2.2))then(some (.next (s.1,s.2.1,s.2.2)))else(bif (((x3.x.Kind !=s.2.2)||(decide (x3.cE9<=s.1)))||(decide (x3.x.ai8<s.2.1)))then(some (.ret (([]:List a7),false)))else(some (.next (x3.cE9,x3.x.ai8,o4 ((o4 (x2.1+x2.2))-s.2.2)))))
def T2 (v2:List a7)(v3:Int):Option (Int⊕(Int⊕(List a7×Bool))):=
 bif (decide (v3<2))then(ai5 (D4 ([(1,2),(3,4)]:List (Int×Int)) v3) fun x2=>ai5 (ad5 v2 (V4 x2) ((-1),0,x2.1)) fun(t:(Int×Int×Int)⊕(List a7×Bool))=>match t with| .inl _=>(some (.inl (o4 (v3+1))))| .inr r3=>some (.inr (.inr r3)))else(some (.inr (.inl v3)))
def ar1 (e2:o6)(f2:A1)(begin M5:Int):Option (List a7×Bool):=
 ai5 (aF5 e2 ([f2]:List A1) M5) fun r2=>bif (r2.2 !=0)then(some (([]:List a7),false))else(ai5 (ad5 r2.1 (aj4 begin) ([]:List a7)) fun(t:(List a7)⊕Empty)=>match t with| .inl dm8=>(ai5 (D0 dm8 ac5) fun v2=>ai5 (L5 (T2 v2) 0) fun(t:Int⊕(List a7×Bool))=>match t with| .inl _=>(some (v2,true))| .inr r4=>some r4)| .inr r=>r.elim)
def ag4 (v _:Int)(x3:a7)(f3:List A3):Option (Fl (List A3) Empty):=
 ai5 (ai5 (U5 f3 ([(⟨x3.x,o4 (v+x3.cE9),false,0⟩:A3)]:List A3)) fun l=>some l) fun(f4:List A3)=>some (.next f4)
def ag3 (s:c8)(r2:Int×Int)(_ x:Int)(f2:List A3):Option (Fl (List A3) Empty):=
 ai5 (av5 s.p6 x) fun r3=>ai5 (Q8 s.B1.H2 (ep0 (o4 (r3.1+5760)) 46080)) fun v=>ai5 (H5 s.Next (fun x0=>Y0 x0 x)) fun v2=>bif ((decide (v>=s.B1.aj7))||(decide (v2<0)))then(some (.next f2))else(ai5 (D4 s.Next v2) fun x2=>ai5 (ar1 s.p6 x2 (ep0 (o4 (r3.1+5760)) 46080) r2.1) fun r4=>bif (!r4.2)then(some (.next f2))else(ai5 (ad5 r4.1 (ag4 v) f2) fun(t:(List A3)⊕Empty)=>match t with| .inl f5=>(some (.next f5))| .inr r=>r.elim))
def ah3 (s:c8):Option c8:=
 ai5 (aF0 s.B1 23040) fun r2=>ai5 (ad5 s.p6.u6 (ag3 s r2) s.D1) fun(t:(List A3)⊕Empty)=>match t with| .inl f6=>(some ({s with D1:=f6}:c8))| .inr r=>r.elim
def aa1 (v4 i:Int)(f2:List A3):Option (Fl (List A3) Empty):=
 ai5 (D4 f2 i) fun x=>ai5 (am4 f2 i ({x with Left:=G7 (-1048576) (o4 (x.Left-v4))}:A3)) fun l=>some (.next l)
def al6 (s:c8)(c:D3):Option (c8×List j8×Int):=
 ai5 (J9 s) fun v=>ai5 (bif (!v)then(some true)else(ai5 (ai9 c) fun v2=>some (!v2))) fun b2=>bif b2 then(some ((⟨(⟨([]:List Int),0⟩:o6),(⟨false,0,0,0,0,0⟩:D3),(⟨0,([]:List j7)⟩:w9),([]:List A1),([]:List A3),false⟩:c8),([]:List j8),1))else(bif (!c.V7)then(some ((⟨(⟨([]:List Int),0⟩:o6),(⟨false,0,0,0,0,0⟩:D3),(⟨0,([]:List j7)⟩:w9),([]:List A1),([]:List A3),false⟩:c8),([]:List j8),6))else(bif (decide (c.At<s.j4.Q7))then(some ((⟨(⟨([]:List Int),0⟩:o6),(⟨false,0,0,0,0,0⟩:D3),(⟨0,([]:List j7)⟩:w9),([]:List A1),([]:List A3),false⟩:c8),([]:List j8),16))else(ai5 (L6 s) fun v3=>ai5 (ab2 v3 c.At) fun r2=>ai5 (bif s.B1.V7 then(ai5 (Q8 s.B1.H2 c.H2) fun v4=>ai5 (K9 (r2.2.D1.length:Int) (aa1 v4) r2.2.D1) fun(t:(List A3)⊕Empty)=>match t with| .inl f3=>(some f3)| .inr r=>r.elim)else(some r2.2.D1)) fun(f4:List A3)=>bif (!r2.2.Cut)then(ai5 (ah3 (⟨r2.2.p6,c,r2.2.j4,r2.2.Next,f4,r2.2.Cut⟩:c8)) fun v5=>bif (decide ((v5.D1.length:Int)>200))then(some ((⟨(⟨([]:List Int),0⟩:o6),(⟨false,0,0,0,0,0⟩:D3),(⟨0,([]:List j7)⟩:w9),([]:List A1),([]:List A3),false⟩:c8),([]:List j8),5))else(ai5 (ak6 v5) fun v6=>some (v6,r2.1,0)))else(some ((⟨r2.2.p6,c,r2.2.j4,r2.2.Next,f4,r2.2.Cut⟩:c8),r2.1,0)))))
def W2 (s:List z8)(f2:z8->Option Bool)(i:Int)(_:Unit):Option (Fl Unit Int):=
 ai5 (D4 s i) fun x=>ai5 (f2 x) fun v=>bif v then(some (.ret i))else(some (.next ()))
def S5 (s:List z8)(f2:z8->Option Bool):Option Int:=
 ai5 (K9 (s.length:Int) (W2 s f2) ()) fun(t:Unit⊕Int)=>match t with| .inl _=>(some (-1))| .inr r2=>some r2
def I4 (s:List z8)(f2:z8->Option Bool):Option Bool:=
 ai5 (S5 s f2) fun v=>some (decide (v>=0))
def D7 (x low high:Int):Option Bool:=
 some ((decide (x>=low))&&(decide (x<=high)))
def ad8 (c:z8):Option Bool:=
 ai5 (D7 c.Code 1 16777215) fun v=>ai5 (bif v then(ai5 (D7 c.bh2 1 100) fun v2=>some v2)else(some false)) fun b2=>ai5 (bif b2 then(ai5 (D7 c.Pass 1 100) fun v3=>some v3)else(some false)) fun b3=>ai5 (bif b3 then(ai5 (D7 c.cC5 1 100) fun v4=>some v4)else(some false)) fun b4=>ai5 (bif b4 then(ai5 (D7 c.Age c.cC5 255) fun v5=>some v5)else(some false)) fun b5=>ai5 (bif b5 then(ai5 (D7 c.E7 0 255) fun v6=>some v6)else(some false)) fun b6=>ai5 (bif b6 then(ai5 (D7 c.Frame 0 8) fun v7=>some v7)else(some false)) fun b7=>some b7
def an5 (c:z8):Option Bool:=
 ai5 (ad8 c) fun v=>some (!v)
def aD4 (_:Int)(x:z8)(f2:List (Int×Bool)):Option (Fl (List (Int×Bool)) Bool):=
 bif (cQ0 false f2 x.Code)then(some (.ret false))else(some (.next (dm1 f2 x.Code true)))
def an4 (l:List z8):Option Bool:=
 ai5 (ad5 l (aD4) ([]:List (Int×Bool))) fun(t:(List (Int×Bool))⊕Bool)=>match t with| .inl _=>(some true)| .inr r2=>some r2
def Z5 (s:List z8):Option (List z8):=
 ai5 (U5 ([]:List z8) s) fun l=>some l
def aB6 (l:List z8):Option (B7×Int):=
 bif (decide ((l.length:Int)>64))then(some ((⟨([]:List z8),([]:List A5),0,false⟩:B7),5))else(ai5 (I4 l an5) fun v=>bif v then(some ((⟨([]:List z8),([]:List A5),0,false⟩:B7),1))else(ai5 (an4 l) fun v2=>bif (!v2)then(some ((⟨([]:List z8),([]:List A5),0,false⟩:B7),8))else(ai5 (Z5 l) fun v3=>ai5 (aS0 (l.length:Int) (⟨0,0,0,0,0,([]:List Int),0⟩:A5)) fun l2=>some ((⟨v3,l2,0,false⟩:B7),0))))
def aR6 (x:Int):Option Bool:=
 ai5 (D7 x (-1099511627776) 1099511627776) fun v=>some v
def aA3 (x:Int):Option Bool:=
 ai5 (aR6 x) fun v=>some (!v)
def as3 (c:z8)(l:List Int):Option Bool:=
 ai5 (bif ((l.length:Int)==c.Frame)then(ai5 (o7 l aA3) fun v=>some (!v))else(some false)) fun b2=>some b2
def X2 (f2:A5)(bits:Int):Option Bool:=
 some ((ad3 .i64 f2.G5 bits)==bits)
def aL0 (f2:A5):Option Bool:=
 some ((ad3 .i64 f2.G5 6) !=0)
def aF7 (c:z8)(f2:A5)(E6:Int):Option Bool:=
 ai5 (D7 f2.G5 0 31) fun v=>ai5 (bif (!v)then(some true)else(ai5 (D7 f2.E5 (o4 (0-c.Pass)) c.bh2) fun v2=>some (!v2))) fun b2=>ai5 (bif b2 then(some true)else(ai5 (D7 f2.J5 0 2) fun v3=>some (!v3))) fun b3=>ai5 (bif b3 then(some true)else(ai5 (D7 f2.Clean 0 (o4 (c.Age-1))) fun v4=>some (!v4))) fun b4=>ai5 (bif b4 then(some true)else(ai5 (D7 f2.A2 0 255) fun v5=>some (!v5))) fun b5=>ai5 (bif b5 then(some true)else(ai5 (D7 f2.H0 0 E6) fun v6=>some (!v6))) fun b6=>ai5 (bif b6 then(some true)else(ai5 (bif (decide ((f2.Frame.length:Int)>0))then(ai5 (as3 c f2.Frame) fun v7=>some (!v7))else(some false)) fun b7=>some b7)) fun b8=>bif b8 then(some false)else(ai5 (X2 f2 1) fun v8=>ai5 (bif v8 then(ai5 (X2 f2 10) fun v9=>some ((!v9)||(f2.H0 !=E6)))else(some false)) fun b9=>bif b9 then(some false)else(ai5 (X2 f2 4) fun v10=>bif (!(v10==(f2.J5==2)))then(some false)else(ai5 (X2 f2 16) fun v11=>ai5 (bif v11 then(ai5 (X2 f2 4) fun v12=>some ((!v12)||(!c.cr6)))else(some false)) fun b10=>bif b10 then(some false)else(ai5 (X2 f2 2) fun v13=>bif (v13&&(f2.Clean !=0))then(some false)else(ai5 (aL0 f2) fun v14=>bif v14 then(some ((((decide (f2.A2>=1))&&(decide (f2.J5>=1)))&&(decide (f2.H0>=1)))&&((f2.Frame.length:Int)==c.Frame)))else(some (((((f2.J5==0)&&(f2.Clean==0))&&(f2.A2==0))&&(f2.H0==0))&&((f2.Frame.length:Int)==0))))))))
def aD3 (f2:B7)(i:Int)(_:Unit):Option (Fl Unit Bool):=
 ai5 (D4 f2.L i) fun x=>ai5 (D4 f2.T0 i) fun x2=>ai5 (aF7 x2 x f2.aI1) fun v4=>bif (!v4)then(some (.ret false))else(some (.next ()))
def Z3 (f2:B7):Option Bool:=
 ai5 (bif (decide ((f2.T0.length:Int)>64))then(some true)else(ai5 (I4 f2.T0 an5) fun v=>some v)) fun b2=>ai5 (bif b2 then(some true)else(ai5 (an4 f2.T0) fun v2=>some (!v2))) fun b3=>ai5 (bif (b3||((f2.L.length:Int) !=(f2.T0.length:Int)))then(some true)else(ai5 (D7 f2.aI1 0 1073741824) fun v3=>some (!v3))) fun b4=>ai5 (bif b4 then(some true)else(some (f2.ax8&&(decide (f2.aI1<1))))) fun b5=>bif b5 then(some false)else(ai5 (K9 (f2.L.length:Int) (aD3 f2) ()) fun(t:Unit⊕Bool)=>match t with| .inl _=>(some true)| .inr r2=>some r2)
def ad0 (s:List A5):Option (List A5):=
 ai5 (U5 ([]:List A5) s) fun l=>some l
def ay2 (i:Int)(f3:List A5):Option (Fl (List A5) Empty):=
 ai5 (D4 f3 i) fun x=>ai5 (O2 x.Frame) fun v2=>ai5 (am4 f3 i ({x with Frame:=v2}:A5)) fun l=>some (.next l)
def al2 (f2:B7):Option B7:=
 ai5 (ad0 f2.L) fun v=>ai5 (K9 (v.length:Int) (ay2) v) fun(t:(List A5)⊕Empty)=>match t with| .inl f4=>(some ({f2 with L:=f4}:B7))| .inr r=>r.elim
def aD2 (i:Int)(f3:List A5):Option (Fl (List A5) Empty):=
 ai5 (D4 f3 i) fun x=>ai5 (am4 f3 i ({x with E5:=0}:A5)) fun l=>ai5 (am4 l i ({x with G5:=aO6 .i64 x.G5 9,E5:=0}:A5)) fun l2=>some (.next l2)
def aw8 (f2:B7):Option (B7×Int):=
 ai5 (Z3 f2) fun v=>bif (!v)then(some ((⟨([]:List z8),([]:List A5),0,false⟩:B7),1))else(bif f2.ax8 then(some ((⟨([]:List z8),([]:List A5),0,false⟩:B7),6))else(bif (f2.aI1==1073741824)then(some ((⟨([]:List z8),([]:List A5),0,false⟩:B7),9))else(ai5 (al2 f2) fun v2=>ai5 (K9 (v2.L.length:Int) (aD2) v2.L) fun(t:(List A5)⊕Empty)=>match t with| .inl f4=>(some ((⟨v2.T0,f4,o4 (v2.aI1+1),true⟩:B7),0))| .inr r=>r.elim)))
def aF6 (l:List A5)(i:Int)(c:z8)(E6:Int)(frame:List Int):Option (List A5):=
 ai5 (D4 l i) fun x2=>ai5 (X2 x2 1) fun v=>ai5 (bif (!v)then(ai5 (am4 l i ({x2 with A2:=F5 255 (o4 (x2.A2+1))}:A5)) fun l2=>ai5 (X2 ({x2 with A2:=F5 255 (o4 (x2.A2+1))}:A5) 4) fun v2=>bif (!v2)then(ai5 (O2 frame) fun v3=>ai5 (am4 l2 i ({x2 with A2:=F5 255 (o4 (x2.A2+1)),Frame:=v3}:A5)) fun l3=>some l3)else(some l2))else(some l)) fun(f2:List A5)=>ai5 (D4 f2 i) fun x3=>ai5 (am4 f2 i ({x3 with G5:=U4 .i64 x3.G5 11}:A5)) fun l4=>ai5 (am4 l4 i ({x3 with G5:=U4 .i64 x3.G5 11,Clean:=0}:A5)) fun l5=>bif (x3.H0==E6)then(some l5)else(ai5 (am4 l5 i ({x3 with G5:=U4 .i64 x3.G5 11,Clean:=0,H0:=E6}:A5)) fun l6=>ai5 (am4 l6 i (⟨U4 .i64 x3.G5 11,x3.E5,F5 2 (o4 (x3.J5+1)),0,x3.A2,x3.Frame,E6⟩:A5)) fun l7=>bif (decide ((F5 2 (o4 (x3.J5+1)))<2))then(some l7)else(ai5 (am4 l7 i (⟨U4 .i64 (U4 .i64 x3.G5 11) 4,x3.E5,F5 2 (o4 (x3.J5+1)),0,x3.A2,x3.Frame,E6⟩:A5)) fun l8=>bif c.cr6 then(ai5 (am4 l8 i (⟨U4 .i64 (U4 .i64 (U4 .i64 x3.G5 11) 4) 16,x3.E5,F5 2 (o4 (x3.J5+1)),0,x3.A2,x3.Frame,E6⟩:A5)) fun l9=>some l9)else(some l8)))
def aq1 (f2:B7)(i:Int)(bad:Bool)(l:List Int):Option (B7×Int):=
 ai5 (Z3 f2) fun v=>bif (!v)then(some ((⟨([]:List z8),([]:List A5),0,false⟩:B7),1))else(bif ((decide (i<0))||(decide (i>=(f2.L.length:Int))))then(some ((⟨([]:List z8),([]:List A5),0,false⟩:B7),2))else(bif (!f2.ax8)then(some ((⟨([]:List z8),([]:List A5),0,false⟩:B7),6))else(ai5 (D4 f2.T0 i) fun x=>ai5 (as3 x l) fun v2=>bif (!v2)then(some ((⟨([]:List z8),([]:List A5),0,false⟩:B7),1))else(ai5 (al2 f2) fun v3=>ai5 (ai5 (D4 v3.L i) fun _=>ai5 (D4 v3.T0 i) fun x3=>some x3) fun(f3:z8)=>ai5 (bif bad then(ai5 (D4 v3.L i) fun x4=>ai5 (am4 v3.L i ({x4 with E5:=F5 f3.bh2 (o4 ((G7 x4.E5 0)+1))}:A5)) fun l2=>some l2)else(ai5 (D4 v3.L i) fun x5=>ai5 (am4 v3.L i ({x5 with E5:=G7 (o4 (0-f3.Pass)) (o4 ((F5 x5.E5 0)-1))}:A5)) fun l3=>some l3)) fun(f4:List A5)=>ai5 (D4 f4 i) fun x6=>bif (x6.E5==f3.bh2)then(ai5 (aF6 f4 i f3 v3.aI1 l) fun v4=>some (({v3 with L:=v4}:B7),0))else(bif (x6.E5==(o4 (0-f3.Pass)))then(ai5 (am4 f4 i ({x6 with G5:=U4 .i64 x6.G5 8}:A5)) fun l4=>ai5 (am4 l4 i ({x6 with G5:=aO6 .i64 (U4 .i64 x6.G5 8) 1}:A5)) fun l5=>some (({v3 with L:=l5}:B7),0))else(some (({v3 with L:=f4}:B7),0)))))))
def N0 (x low high:Int):Option Bool:=
 some ((decide (x>=low))&&(decide (x<=high)))
def U3 (r2:j2):Option Bool:=
 ai5 (S1 r2) fun v=>some (!v)
def aq6 (bo2:List Int)(x i below:Int):Option (Fl Int Empty):=
 ai5 (D4 bo2 i) fun x2=>bif (decide (x2<=x))then(some (.next i))else(some (.next below))
def ae2 (bo2:List Int)(x:Int)(s:Int×Int):Option ((Int×Int)⊕((Int×Int)⊕Empty)):=
 bif (decide (s.1>=0))then(ai5 (D4 bo2 s.1) fun x3=>bif (decide (x3>=x))then(some (.inl (o4 (s.1-1),s.1)))else(some (.inl (o4 (s.1-1),s.2))))else(some (.inr (.inl (s.1,s.2))))
def ag1 (bo2:List Int)(x:Int):Option (Int×Int):=
 ai5 (K9 (bo2.length:Int) (aq6 bo2 x) 0) fun(t:Int⊕Empty)=>match t with| .inl cJ5=>(ai5 (L5 (ae2 bo2 x) (o4 ((bo2.length:Int)-1),o4 ((bo2.length:Int)-1))) fun(t:(Int×Int)⊕Empty)=>match t with| .inl s2=>(ai5 (D4 bo2 0) fun x4=>bif (decide (x<x4))then(some (cJ5,0))else(some (cJ5,s2.2)))| .inr r=>r.elim)| .inr r=>r.elim
def X4 (m2:SMap)(x y:Int):Option Int:=
 ai5 (ag1 m2.X x) fun r2=>ai5 (ag1 m2.Y y) fun r3=>ai5 (D4 m2.Z r2.1) fun x2=>ai5 (D4 x2 r3.1) fun x3=>ai5 (D4 x2 r3.2) fun x4=>ai5 (D4 m2.Z r2.2) fun x5=>ai5 (D4 x5 r3.1) fun x6=>ai5 (D4 x5 r3.2) fun x7=>some (G7 (G7 (G7 x3 x4) x6) x7)
def ax4 (r2:j2):Option Bool:=
 some ((r2.Kind==2)||(r2.Kind==3))
def af9 (_:Int)(x:j2)(s:Int×Int):Option (Fl (Int×Int) Empty):=
 ai5 (ax4 x) fun v6=>bif (!v6)then(some (.next (s.1,s.2)))else(bif (x.N4==1)then(some (.next (G7 s.1 (F5 x.p7 1500),G7 s.2 x.E7)))else(some (.next (s.1,G7 s.2 x.E7))))
def ag0 (s2:Int×Int)(_:Int)(x2:j2)(at8:Int):Option (Fl Int Empty):=
 bif ((x2.Kind==1)&&(decide (x2.E7>s2.2)))then(some (.next (F5 at8 x2.p7)))else(some (.next at8))
def ae1 (t2:o8)(bg0 o9:Int)(l:List j2):Option (Int×Int):=
 ai5 (J4 t2.aI4) fun v=>ai5 (bif (!v)then(some true)else(ai5 (D8 l U3) fun v2=>some v2)) fun b2=>bif b2 then(some (0,1))else(bif (decide ((l.length:Int)>32))then(some (0,5))else(ai5 (N0 bg0 0 1000) fun v3=>ai5 (bif (!v3)then(some true)else(ai5 (N0 o9 0 12000) fun v4=>some (!v4))) fun b3=>bif b3 then(some (0,2))else(ai5 (X4 t2.aI4 o9 bg0) fun v5=>ai5 (ad5 l (af9) ((-5000),(-1))) fun(t:(Int×Int)⊕Empty)=>match t with| .inl s2=>(ai5 (ad5 l (ag0 s2) 10000) fun(t:Int⊕Empty)=>match t with| .inl dI6=>(some (o4 ((G7 0 (F5 dI6 (G7 (F5 (G7 v5 (-5000)) 10000) s2.1)))+100),0))| .inr r=>r.elim)| .inr r=>r.elim)))
def aq5 (_:Int)(x:A1)(n2:Int):Option (Fl Int Empty):=
 bif (x.Y5 !=0)then(some (.next (o4 (n2+1))))else(some (.next n2))
def ax3 (t2:o8)(o9 A0:Int)(l:List A1):Option (Int×Int):=
 ai5 (J4 t2.p7) fun v=>bif (!v)then(some (0,1))else(bif (decide ((l.length:Int)>8))then(some (0,5))else(ai5 (N0 o9 0 12000) fun v2=>ai5 (bif (!v2)then(some true)else(ai5 (N0 A0 0 1048576) fun v3=>some (!v3))) fun b2=>bif b2 then(some (0,2))else(bif ((l.length:Int)==0)then(some (0,0))else(ai5 (ad5 l (aq5) 0) fun(t:Int⊕Empty)=>match t with| .inl n3=>(ai5 (X4 t2.p7 o9 A0) fun v4=>ai5 (bn5 .i64 (o4 ((o4 ((o4 ((F5 (G7 v4 0) 10000)*n3))+(l.length:Int)))-1)) (l.length:Int)) fun q=>some (q,0))| .inr r=>r.elim))))
def aA5 (t2:o8)(M5 B9:Int):Option (Int×Int):=
 ai5 (aB7 t2 M5 B9) fun r2=>bif (r2.2 !=0)then(some (0,r2.2))else(some (o4 (3*(G7 0 (o4 (M5-r2.1)))),0))
end Go.Pv
namespace Go.Proofs.YtmhdghdbojdgfaaGreat
open Go Go.Pv Go.Proofs
set_option maxHeartbeats 1000000
theorem bL8 (a:Int):(ah7 a).m=Pv.ah7 a:=by
 simp only[ah7,Pv.ah7,C.of,M.run]<;>kernel_rfl
theorem bm1 (s:List Int)(v:Int):(V6 s v).m=Pv.V6 s v:=by
 delta Pv.V6 Pv.an8
 simp only[V6,an8,C.of,M.run,L1.m,bZ3,K9,M4]<;>kernel_rfl
theorem bc4 (s:List Int)(v:Int):(P3 s v).m=Pv.P3 s v:=by
 simp only[P3,Pv.P3,C.of,M.run,bm1]<;>kernel_rfl
theorem ay0 (e2:o6):(O7 e2).m=Pv.O7 e2:=by
 delta Pv.O7 Pv.as2
 simp only[O7,as2,C.of,M.run,bL8,bc4]<;>kernel_rfl
theorem cc4 (x y:Int):(as5 x y).m=Pv.as5 x y:=rfl
theorem bD1 (x:List B8)(count:Int):(P5 x count).m=Pv.P5 x count:=rfl
theorem dj3 (n2:Int):(aV2 n2).m=Pv.aV2 n2:=by
 simp only[aV2,Pv.aV2,C.of,M.run,bD1]<;>kernel_rfl
theorem dj4:(bj3).m=Pv.bj3:=by
 simp only[bj3,Pv.bj3,C.of,M.run]<;>kernel_rfl
theorem cL2:(aL4).m=Pv.aL4:=by
 simp only[aL4,Pv.aL4,C.of,M.run]<;>kernel_rfl
theorem bP1 (e2:o6):(aA0 e2).m=Pv.aA0 e2:=by
 simp only[aA0,Pv.aA0,C.of,M.run,ay0,dj3,cL2,dj4]<;>kernel_rfl
theorem bA2 (s:List Int)(f2:Cl Tryz.prog Int Bool (fun x=>[.t (tI x)]) (fun r=>.t (tB r))):(T9 s f2).m=Pv.T9 s (fun x0=>f2.f x0):=by
 delta Pv.T9 Pv.V9
 simp only[T9,V9,C.of,M.run,L1.m,Cl.at,bZ3,K9,M4]<;>kernel_rfl
theorem J8 (s:List Int)(f2:Cl Tryz.prog Int Bool (fun x=>[.t (tI x)]) (fun r=>.t (tB r))):(o7 s f2).m=Pv.o7 s (fun x0=>f2.f x0):=by
 simp only[o7,Pv.o7,C.of,M.run,bA2]<;>kernel_rfl
theorem bt5 (n2:Int):(ab6 n2).m=Pv.ab6 n2:=by
 simp only[ab6,Pv.ab6,C.of,M.run]<;>kernel_rfl
theorem cE5 (l:List Int):(ar4 l).m=Pv.ar4 l:=by
 delta Pv.ar4 Pv.ay5
 simp only[ar4,ay5,C.of,M.run,L1.m,bZ3,K9,M4,bt5]<;>kernel_rfl
theorem cd1 (z:Int):(ah4 z).m=Pv.ah4 z:=by
 simp only[ah4,Pv.ah4,C.of,M.run,bt5]<;>kernel_rfl
theorem am8 (m2:SMap):(J4 m2).m=Pv.J4 m2:=by
 delta Pv.J4 Pv.aC1
 simp only[J4,aC1,C.of,M.run,Cl.of,bZ3,ad5,aq7,J8,cd1,cE5]<;>kernel_rfl
theorem cj3 (n2:Int):(aB4 n2).m=Pv.aB4 n2:=by
 simp only[aB4,Pv.aB4,C.of,M.run]<;>kernel_rfl
theorem cW5 (l:List Int):(aL9 l).m=Pv.aL9 l:=by
 delta Pv.aL9 Pv.aH5
 simp only[aL9,aH5,C.of,M.run,L1.m,Cl.of,bZ3,K9,M4,cj3,J8]<;>kernel_rfl
theorem aI9 (c:Q0):(P2 c).m=Pv.P2 c:=by
 simp only[P2,Pv.P2,C.of,M.run,Cl.of,cW5,cj3,J8]<;>kernel_rfl
theorem bC4 (x:Int):(cmp_isNaN_int x).m=Pv.cmp_isNaN_int x:=by
 simp only[cmp_isNaN_int,Pv.cmp_isNaN_int,C.of,M.run]<;>kernel_rfl
theorem cD6 (x y:Int):(cmp_Less_int x y).m=Pv.cmp_Less_int x y:=by
 simp only[cmp_Less_int,Pv.cmp_Less_int,C.of,M.run,bC4]<;>kernel_rfl
theorem bc5 (x:List Int):(P4 x).m=Pv.P4 x:=by
 delta Pv.P4 Pv.Q4
 simp only[P4,Q4,C.of,M.run,L1.m,cD6]<;>kernel_rfl
theorem aI8 (n2 low high:Int):(I5 n2 low high).m=Pv.I5 n2 low high:=by
 simp only[I5,Pv.I5,C.of,M.run]<;>kernel_rfl
theorem cJ8 (y:Int):(aK6 y).m=Pv.aK6 y:=by
 simp only[aK6,Pv.aK6,C.of,M.run,aI8]<;>kernel_rfl
theorem bH2 (t2:o8):(aB1 t2).m=Pv.aB1 t2:=by
 delta Pv.aB1 Pv.aT6
 simp only[aB1,aT6,C.of,M.run,L1.m,Cl.of,bZ3,ad5,aq7,cJ8,aI8,aI9,J8,bc5,am8]<;>kernel_rfl
theorem bw7 (s:List (List Int))(f2:Cl Tryz.prog (List Int) Bool (fun x=>[.t (tS Pv.encI x)]) (fun r=>.t (tB r))):(V5 s f2).m=Pv.V5 s (fun x0=>f2.f x0):=by
 delta Pv.V5 Pv.Z7
 simp only[V5,Z7,C.of,M.run,L1.m,Cl.at,bZ3,K9,M4]<;>kernel_rfl
theorem aN7 (s:List (List Int))(f2:Cl Tryz.prog (List Int) Bool (fun x=>[.t (tS Pv.encI x)]) (fun r=>.t (tB r))):(G0 s f2).m=Pv.G0 s (fun x0=>f2.f x0):=by
 simp only[G0,Pv.G0,C.of,M.run,bw7]<;>kernel_rfl
theorem aB2 (x low high:Int):(H6 x low high).m=Pv.H6 x low high:=by
 simp only[H6,Pv.H6,C.of,M.run]<;>kernel_rfl
theorem bY9 (x c c2:Int):(ao0 x c c2).m=Pv.ao0 x c c2:=by
 simp only[ao0,Pv.ao0,C.of,M.run,aB2]<;>kernel_rfl
theorem by5 (l:List Int)(low high:Int):(ag9 l low high).m=Pv.ag9 l low high:=by
 simp only[ag9,Pv.ag9,C.of,M.run,Cl.of,J8,bY9]<;>kernel_rfl
theorem aP7 (x:List Int)(cmp:Cl Tryz.prog (Int×Int) Int (fun x=>[.t (tI x.1),.t (tI x.2)]) (fun r=>.t (tI r))):(H9 x cmp).m=Pv.H9 x (fun x0 x1=>cmp.f (x0,x1)):=by
 delta Pv.H9 Pv.L8
 simp only[H9,L8,C.of,M.run,L1.m,Cl.at]<;>kernel_rfl
theorem ck9 (a b2:Int):(ab7 a b2).m=Pv.ab7 a b2:=by
 simp only[ab7,Pv.ab7,C.of,M.run]<;>kernel_rfl
theorem cl0 (row:List Int):(ak9 row).m=Pv.ak9 row:=by
 simp only[ak9,Pv.ak9,C.of,M.run,bc5,by5]<;>kernel_rfl
theorem bo6 (t2:o8):(ai1 t2).m=Pv.ai1 t2:=by
 simp only[ai1,Pv.ai1,C.of,M.run,Cl.of,aI9,aN7,aP7,am8,ck9,cl0,by5]<;>kernel_rfl
theorem bz9 (x low high:Int):(J6 x low high).m=Pv.J6 x low high:=by
 simp only[J6,Pv.J6,C.of,M.run]<;>kernel_rfl
theorem cs7 (x c c2:Int):(aA1 x c c2).m=Pv.aA1 x c c2:=by
 simp only[aA1,Pv.aA1,C.of,M.run,bz9]<;>kernel_rfl
theorem bP2 (l:List Int)(low high:Int):(af7 l low high).m=Pv.af7 l low high:=by
 simp only[af7,Pv.af7,C.of,M.run,Cl.of,cs7,J8]<;>kernel_rfl
theorem aW7 (g:aW0):(Q3 g).m=Pv.Q3 g:=by
 simp only[Q3,Pv.Q3,C.of,M.run]<;>kernel_rfl
theorem bh6 (t2:o8):(ab9 t2).m=Pv.ab9 t2:=by
 delta Pv.ab9 Pv.aB3
 simp only[ab9,aB3,C.of,M.run,bZ3,ad5,aq7,bH2,bP2,aI9,aW7,am8,bo6]<;>kernel_rfl
theorem cE2 (x low high:Int):(F8 x low high).m=Pv.F8 x low high:=by
 simp only[F8,Pv.F8,C.of,M.run]<;>kernel_rfl
theorem bt0 (b2:L4):(aj3 b2).m=Pv.aj3 b2:=by
 simp only[aj3,Pv.aj3,C.of,M.run,cE2]<;>kernel_rfl
theorem bQ4 (p2:U2):(ax6 p2).m=Pv.ax6 p2:=by
 simp only[ax6,Pv.ax6,C.of,M.run]<;>kernel_rfl
theorem bk4 (x low high:Int):(R9 x low high).m=Pv.R9 x low high:=by
 simp only[R9,Pv.R9,C.of,M.run]<;>kernel_rfl
theorem bw6 (s:List aa7)(f2:Cl Tryz.prog aa7 Bool (fun x=>[bW0 x]) (fun r=>.t (tB r))):(aa2 s f2).m=Pv.aa2 s (fun x0=>f2.f x0):=by
 delta Pv.aa2 Pv.ai4
 simp only[aa2,ai4,C.of,M.run,L1.m,Cl.at,bZ3,K9,M4]<;>kernel_rfl
theorem bo3 (s:List aa7)(f2:Cl Tryz.prog aa7 Bool (fun x=>[bW0 x]) (fun r=>.t (tB r))):(Q9 s f2).m=Pv.Q9 s (fun x0=>f2.f x0):=by
 simp only[Q9,Pv.Q9,C.of,M.run,bw6]<;>kernel_rfl
set_option maxHeartbeats 1000000
theorem cc5 (c:aa7):(ab0 c).m=Pv.ab0 c:=by
 simp only[ab0,Pv.ab0,C.of,M.run,bk4]<;>kernel_rfl
theorem bh8 (p2:M8):(ac1 p2).m=Pv.ac1 p2:=by
 simp only[ac1,Pv.ac1,C.of,M.run,Cl.of,bg,bga,cc5,bk4,bo3]<;>kernel_rfl
theorem bt2 (s:List B8)(f2:Cl Tryz.prog B8 Bool (fun x=>[aX6 x]) (fun r=>.t (tB r))):(X5 s f2).m=Pv.X5 s (fun x0=>f2.f x0):=by
 delta Pv.X5 Pv.ag6
 simp only[X5,ag6,C.of,M.run,L1.m,Cl.at,bZ3,K9,M4]<;>kernel_rfl
theorem aK9 (s:List B8)(f2:Cl Tryz.prog B8 Bool (fun x=>[aX6 x]) (fun r=>.t (tB r))):(J3 s f2).m=Pv.J3 s (fun x0=>f2.f x0):=by
 simp only[J3,Pv.J3,C.of,M.run,bt2]<;>kernel_rfl
theorem bs9 (n2:Int):(ah2 n2).m=Pv.ah2 n2:=by
 simp only[ah2,Pv.ah2,C.of,M.run]<;>kernel_rfl
theorem bQ2 (k:B8):(ax1 k).m=Pv.ax1 k:=by
 simp only[ax1,Pv.ax1,C.of,M.run,bs9]<;>kernel_rfl
theorem cj2 (k:B8):(ak2 k).m=Pv.ak2 k:=by
 simp only[ak2,Pv.ak2,C.of,M.run,bQ2]<;>kernel_rfl
theorem bL7 (e2:o6)(c:A7):(ap8 e2 c).m=Pv.ap8 e2 c:=by
 simp only[ap8,Pv.ap8,C.of,M.run,Cl.of,cj2,bz9,ay0,bh8,bQ4,aK9]<;>kernel_rfl
theorem bo5 (s:List j2)(f2:Cl Tryz.prog j2 Bool (fun x=>[G8 x]) (fun r=>.t (tB r))):(U6 s f2).m=Pv.U6 s (fun x0=>f2.f x0):=by
 delta Pv.U6 Pv.ab3
 simp only[U6,ab3,C.of,M.run,L1.m,Cl.at,bZ3,K9,M4]<;>kernel_rfl
theorem at3 (s:List j2)(f2:Cl Tryz.prog j2 Bool (fun x=>[G8 x]) (fun r=>.t (tB r))):(D8 s f2).m=Pv.D8 s (fun x0=>f2.f x0):=by
 simp only[D8,Pv.D8,C.of,M.run,bo5]<;>kernel_rfl
theorem be3 (t2:Int):(P1 t2).m=Pv.P1 t2:=by
 simp only[P1,Pv.P1,C.of,M.run]<;>kernel_rfl
theorem bh5 (r2:j2):(S1 r2).m=Pv.S1 r2:=by
 simp only[S1,Pv.S1,C.of,M.run,bg,bga,bgo,be3]<;>kernel_rfl
theorem cc0 (r2:j2):(ah1 r2).m=Pv.ah1 r2:=by
 simp only[ah1,Pv.ah1,C.of,M.run,bh5]<;>kernel_rfl
theorem cs6 (i:W5)(B4:Int):(av3 i B4).m=Pv.av3 i B4:=by
 simp only[av3,Pv.av3,C.of,M.run,Cl.of,cc0,bP2,bz9,at3]<;>kernel_rfl
theorem af5 (x low high:Int):(C6 x low high).m=Pv.C6 x low high:=by
 simp only[C6,Pv.C6,C.of,M.run]<;>kernel_rfl
theorem bQ1 (n2:Int):(aj2 n2).m=Pv.aj2 n2:=by
 simp only[aj2,Pv.aj2,C.of,M.run]<;>kernel_rfl
theorem bQ0 (D6:Int):(ax0 D6).m=Pv.ax0 D6:=by
 simp only[ax0,Pv.ax0,C.of,M.run]<;>kernel_rfl
theorem dj1 (o9 D6:Int):(bc7 o9 D6).m=Pv.bc7 o9 D6:=by
 simp only[bc7,Pv.bc7,C.of,M.run,bQ0]<;>kernel_rfl
theorem bP9 (bg0 o9 D6:Int):(aw9 bg0 o9 D6).m=Pv.aw9 bg0 o9 D6:=by
 simp only[aw9,Pv.aw9,C.of,M.run,dj1,bQ1]<;>kernel_rfl
theorem cW7 (p2:U2)(first second:Int):(aM4 p2 first second).m=Pv.aM4 p2 first second:=by
 simp only[aM4,Pv.aM4,C.of,M.run,af5,bQ4]<;>kernel_rfl
theorem aw4 (s:o5)(e2:Int):(u7 s e2).m=Pv.u7 s e2:=by
 simp only[u7,Pv.u7,CG.of,M.run]<;>kernel_rfl
theorem aJ1 (n2:Int)(f2:Cl Tryz.prog Int Bool (fun x=>[.t (tI x)]) (fun r=>.t (tB r))):(P8 n2 f2).m=Pv.P8 n2 (fun x0=>f2.f x0):=by
 delta Pv.P8 Pv.ab4
 simp only[P8,ab4,C.of,M.run,Cl.at,elE]<;>kernel_rfl
theorem bR0 (i:Int)(c:List Int)(c2:Int):(ae5 i c c2).m=Pv.ae5 i c c2:=by
 simp only[ae5,Pv.ae5,C.of,M.run,L1.m]<;>kernel_rfl
theorem cd2 (l:List Int)(x:Int):(W8 l x).m=Pv.W8 l x:=by
 simp only[W8,Pv.W8,C.of,M.run,L1.m,Cl.of,af5,aJ1,bR0]<;>kernel_rfl
theorem cb9 (n2:Int):(U7 n2).m=Pv.U7 n2:=by
 simp only[U7,Pv.U7,C.of,M.run]<;>kernel_rfl
theorem cc3 (x:Int):(aO1 x).m=Pv.aO1 x:=rfl
theorem bq4 (x:Int):(V8 x).m=Pv.V8 x:=by
 simp only[V8,Pv.V8,C.of,M.run,cc3]<;>kernel_rfl
theorem cc2 (hi lo y:Int):(al3 hi lo y).m=Pv.al3 hi lo y:=by
 delta Pv.al3 Pv.aD7 Pv.aD8
 simp only[al3,aD7,aD8,C.of,M.run,L1.m,elE,bq4]<;>kernel_rfl
theorem cs5 (r2 c:Int)(negative:Bool)(mode:Int):(ak1 r2 c negative mode).m=Pv.ak1 r2 c negative mode:=by
 simp only[ak1,Pv.ak1,C.of,M.run]<;>kernel_rfl
theorem cD5 (a b2 c mode:Int):(az0 a b2 c mode).m=Pv.az0 a b2 c mode:=by
 simp only[az0,Pv.az0,C.of,M.run,cb9,cs5,cc2,cc4]<;>kernel_rfl
theorem bq2 (a b2 mode:Int):(am7 a b2 mode).m=Pv.am7 a b2 mode:=by
 simp only[am7,Pv.am7,C.of,M.run,cD5]<;>kernel_rfl
theorem aQ8 (a b2:Int):(V3 a b2).m=Pv.V3 a b2:=by
 simp only[V3,Pv.V3,C.of,M.run,bq2]<;>kernel_rfl
theorem bt4 (x0 x1 y0 y1 x:Int):(ab5 x0 x1 y0 y1 x).m=Pv.ab5 x0 x1 y0 y1 x:=by
 simp only[ab5,Pv.ab5,C.of,M.run,aQ8]<;>kernel_rfl
theorem cE4 (j:Int)(c:SMap)(c2 c3:Int):(ar3 j c c2 c3).m=Pv.ar3 j c c2 c3:=by
 simp only[ar3,Pv.ar3,C.of,M.run,L1.m,bt4]<;>kernel_rfl
theorem cX0 (m2:SMap)(x y:Int):(aN0 m2 x y).m=Pv.aN0 m2 x y:=by
 simp only[aN0,Pv.aN0,C.of,M.run,L1.m,cE4,bt4,cd2]<;>kernel_rfl
theorem aY2 (m2:SMap)(x y:Int):(X7 m2 x y).m=Pv.X7 m2 x y:=by
 simp only[X7,Pv.X7,C.of,M.run,am8,cX0]<;>kernel_rfl
theorem cW8 (t2:o8)(value o9:Int):(aM5 t2 value o9).m=Pv.aM5 t2 value o9:=by
 simp only[aM5,Pv.aM5,C.of,M.run,af5,aY2,am8]<;>kernel_rfl
theorem cj5 (s:F7)(g:aW0)(e2:Int):(aq2 s g e2).m=Pv.aq2 s g e2:=by
 simp only[aq2,Pv.aq2,C.of,M.run,bg,bga,af5,aW7]<;>kernel_rfl
theorem dj0 (s:F7)(g:aW0)(target o9:Int):(aE7 s g target o9).m=Pv.aE7 s g target o9:=by
 simp only[aE7,Pv.aE7,C.of,M.run,cj5,aW7,bQ1]<;>kernel_rfl
theorem cb8 (r2:j2):(ah0 r2).m=Pv.ah0 r2:=by
 simp only[ah0,Pv.ah0,C.of,M.run,bh5]<;>kernel_rfl
theorem cs4 (l:List j2)(low high:Int):(av2 l low high).m=Pv.av2 l low high:=by
 simp only[av2,Pv.av2,C.of,M.run,Cl.of,cb8,be3,at3]<;>kernel_rfl
theorem bA1 (s:List j2):(W4 s).m=Pv.W4 s:=by
 simp only[W4,Pv.W4,CG.of,M.run,U1.m,fj6]<;>kernel_rfl
theorem aR0 (data:List j2)(a b2:Int)(cmp:Cl Tryz.prog (j2×j2) Int (fun x=>[G8 x.1,G8 x.2]) (fun r=>.t (tI r))):(F3 data a b2 cmp).m=Pv.F3 data a b2 (fun x0 x1=>cmp.f (x0,x1)):=by
 delta Pv.F3 Pv.P7 Pv.P6
 simp only[F3,P7,P6,CG.of,M.run,L1.m,U1.m,Cl.at,bso,bZ3,elE]<;>kernel_rfl
set_option maxHeartbeats 1000000
theorem bd3 (data:List j2)(a m2 b2:Int)(cmp:Cl Tryz.prog (j2×j2) Int (fun x=>[G8 x.1,G8 x.2]) (fun r=>.t (tI r))):(O4 data a m2 b2 cmp).m=Pv.O4 64 data a m2 b2 (fun x0 x1=>cmp.f (x0,x1)):=rfl
theorem bg7 (data:List j2)(n2:Int)(cmp:Cl Tryz.prog (j2×j2) Int (fun x=>[G8 x.1,G8 x.2]) (fun r=>.t (tI r))):(N2 data n2 cmp).m=Pv.N2 data n2 (fun x0 x1=>cmp.f (x0,x1)):=by
 delta Pv.N2 Pv.R5 Pv.W3 Pv.R6
 simp only[N2,R5,W3,R6,CG.of,M.run,elE,aR0,bd3]<;>kernel_rfl
theorem bd2 (x:List j2)(cmp:Cl Tryz.prog (j2×j2) Int (fun x=>[G8 x.1,G8 x.2]) (fun r=>.t (tI r))):(J7 x cmp).m=Pv.J7 x (fun x0 x1=>cmp.f (x0,x1)):=by
 simp only[J7,Pv.J7,CG.of,M.run,bg7]<;>kernel_rfl
theorem bY4 (a b2:j2):(O3 a b2).m=Pv.O3 a b2:=by
 simp only[O3,Pv.O3,C.of,M.run]<;>kernel_rfl
theorem bH3 (s:u3)(t2:Int):(ac9 s t2).m=Pv.ac9 s t2:=by
 simp only[ac9,Pv.ac9,CG.of,M.run]<;>kernel_rfl
theorem bC2 (s:u3)(t2:Int):(Z0 s t2).m=Pv.Z0 s t2:=by
 simp only[Z0,Pv.Z0,CG.of,M.run]<;>kernel_rfl
theorem bC3 (s:u3)(t2:Int):(Z2 s t2).m=Pv.Z2 s t2:=by
 simp only[Z2,Pv.Z2,CG.of,M.run,af5]<;>kernel_rfl
theorem bH4 (s:u3)(r2:j2):(W6 s r2).m=Pv.W6 s r2:=by
 simp only[W6,Pv.W6,CG.of,M.run,bg,bgo,bgt,bC2,bH3,bC3]<;>kernel_rfl
theorem bY8 (s:List Int):(aC0 s).m=Pv.aC0 s:=rfl
theorem bI0 (s:List Int):(ar8 s).m=Pv.ar8 s:=rfl
theorem cj0 (l:List j2)(low high:Int):(ap5 l low high).m=Pv.ap5 l low high:=by
 delta Pv.ap5 Pv.aj0
 simp only[ap5,aj0,C.of,M.run,U1.m,Cl.of,bso,bZ3,ad5,aq7,elE,bY4,bH4,bA1,bI0,bd2,bY8]<;>kernel_rfl
theorem cD4 (g:Z8)(l:List j2)(low high up down:Int):(ap4 g l low high up down).m=Pv.ap4 g l low high up down:=by
 simp only[ap4,Pv.ap4,C.of,M.run,cj0,cs4,be3]<;>kernel_rfl
theorem bH5 (s:o5):(W7 s).m=Pv.W7 s:=by
 simp only[W7,Pv.W7,CG.of,M.run,U1.m,bso,bZ3,cD4,af5,aw4,bP9,dj0,bQ0,cW7,cW8]<;>kernel_rfl
theorem cd4 (i:Int)(c:o8)(c2 c3 c4:Int):(al8 i c c2 c3 c4).m=Pv.al8 i c c2 c3 c4:=by
 simp only[al8,Pv.al8,C.of,M.run,aY2]<;>kernel_rfl
theorem cu2 (t2:o8)(o9 S9:Int):(ap1 t2 o9 S9).m=Pv.ap1 t2 o9 S9:=by
 simp only[ap1,Pv.ap1,C.of,M.run,L1.m,Cl.of,aJ1,cd4,bo6,aB2]<;>kernel_rfl
theorem cW4 (x e2 other:Int):(au1 x e2 other).m=Pv.au1 x e2 other:=by
 simp only[au1,Pv.au1,C.of,M.run]<;>kernel_rfl
theorem cc1 (i:Int)(c:Q0)(c2:Int):(al0 i c c2).m=Pv.al0 i c c2:=by
 simp only[al0,Pv.al0,C.of,M.run,L1.m]<;>kernel_rfl
theorem cs8 (c:Q0)(x:Int):(av4 c x).m=Pv.av4 c x:=by
 simp only[av4,Pv.av4,C.of,M.run,Cl.of,cc1,aJ1]<;>kernel_rfl
theorem cK1 (c:Q0)(x:Int):(aF2 c x).m=Pv.aF2 c x:=by
 simp only[aF2,Pv.aF2,C.of,M.run,L1.m,aQ8,cs8]<;>kernel_rfl
theorem bx9 (c:Q0)(x:Int):(at5 c x).m=Pv.at5 c x:=by
 simp only[at5,Pv.at5,C.of,M.run,aI9,cK1]<;>kernel_rfl
theorem bZ8 (t2:o8)(o9 C1 K6:Int):(aC5 t2 o9 C1 K6).m=Pv.aC5 t2 o9 C1 K6:=by
 simp only[aC5,Pv.aC5,C.of,M.run,aQ8,bx9,aY2]<;>kernel_rfl
theorem ci8 (k:Int)(c:o8)(c2 c3 c4:Int):(aj9 k c c2 c3 c4).m=Pv.aj9 k c c2 c3 c4:=by
 simp only[aj9,Pv.aj9,C.of,M.run,bZ8]<;>kernel_rfl
theorem cD1 (t2:o8)(o9 want K6:Int):(au9 t2 o9 want K6).m=Pv.au9 t2 o9 want K6:=by
 simp only[au9,Pv.au9,C.of,M.run,Cl.of,ci8,bH2,aI8,aJ1]<;>kernel_rfl
theorem ck2 (rpm:Int):(ax5 rpm).m=Pv.ax5 rpm:=by
 simp only[ax5,Pv.ax5,C.of,M.run,bq2]<;>kernel_rfl
theorem dq9 (o9 C1:Int):(be2 o9 C1).m=Pv.be2 o9 C1:=by
 simp only[be2,Pv.be2,C.of,M.run,aI8,ck2]<;>kernel_rfl
theorem ci9 (k:Int)(c:L4)(c2 c3:Int):(ak0 k c c2 c3).m=Pv.ak0 k c c2 c3:=by
 simp only[ak0,Pv.ak0,C.of,M.run]<;>kernel_rfl
theorem cD2 (b2:L4)(cX5 C1:Int):(av0 b2 cX5 C1).m=Pv.av0 b2 cX5 C1:=by
 simp only[av0,Pv.av0,C.of,M.run,Cl.of,ci9,aI8,bt0,aJ1]<;>kernel_rfl
theorem bA0 (s:o5):(T8 s).m=Pv.T8 s:=by
 simp only[T8,Pv.T8,CG.of,M.run,dq9,cD1,cD2,cW4,aw4,cu2]<;>kernel_rfl
theorem bZ7 (t2:o8)(o9 C1 K6:Int):(aC4 t2 o9 C1 K6).m=Pv.aC4 t2 o9 C1 K6:=by
 simp only[aC4,Pv.aC4,C.of,M.run,bH2,aI8,bZ8]<;>kernel_rfl
theorem by4 (t2:o8)(o9 A0:Int):(ag8 t2 o9 A0).m=Pv.ag8 t2 o9 A0:=by
 simp only[ag8,Pv.ag8,C.of,M.run,aY2,bo6,aB2]<;>kernel_rfl
theorem bi0 (t2:o8)(bJ8 late ad9 B4:Int):(Y3 t2 bJ8 late ad9 B4).m=Pv.Y3 t2 bJ8 late ad9 B4:=by
 simp only[Y3,Pv.Y3,C.of,M.run,L1.m,bx9]<;>kernel_rfl
theorem ck8 (late:Int)(c:o8)(c2 c3 c4 c5:Int):(ak8 late c c2 c3 c4 c5).m=Pv.ak8 late c c2 c3 c4 c5:=by
 simp only[ak8,Pv.ak8,C.of,M.run,bi0]<;>kernel_rfl
theorem cE7 (t2:o8)(o9 A0 most B4:Int):(al9 t2 o9 A0 most B4).m=Pv.al9 t2 o9 A0 most B4:=by
 delta Pv.al9 Pv.am0
 simp only[al9,am0,C.of,M.run,Cl.of,elE,aJ1,by4,ck8,bi0,aB2]<;>kernel_rfl
theorem ck7 (B4 ad9 E6:Int):(ar5 B4 ad9 E6).m=Pv.ar5 B4 ad9 E6:=by
 delta Pv.ar5 Pv.ar6
 simp only[ar5,ar6,C.of,M.run,L1.m,U1.m,bso,bZ3,K9,M4,elE,aB2]<;>kernel_rfl
theorem cu3 (t2:o8)(o9 A0 late ad9 B4:Int):(aw1 t2 o9 A0 late ad9 B4).m=Pv.aw1 t2 o9 A0 late ad9 B4:=by
 simp only[aw1,Pv.aw1,C.of,M.run,by4,bi0,aB2]<;>kernel_rfl
theorem bN0 (s:o5):(aa0 s).m=Pv.aa0 s:=by
 simp only[aa0,Pv.aa0,CG.of,M.run,bso,bZ3,bZ7,aw4,ck7,cE7,cu3]<;>kernel_rfl
theorem bh9 (o9 A0:Int):(ac2 o9 A0).m=Pv.ac2 o9 A0:=by
 simp only[ac2,Pv.ac2,C.of,M.run,bk4]<;>kernel_rfl
theorem bN2 (s:List aa7):(ag5 s).m=Pv.ag5 s:=by
 simp only[ag5,Pv.ag5,C.of,M.run,U1.m,fj6]<;>kernel_rfl
theorem cj9 (p2:M8):(ax2 p2).m=Pv.ax2 p2:=by
 simp only[ax2,Pv.ax2,C.of,M.run,bN2]<;>kernel_rfl
theorem cE1 (p2:M8)(B9 o9 A0:Int):(az4 p2 B9 o9 A0).m=Pv.az4 p2 B9 o9 A0:=by
 simp only[az4,Pv.az4,C.of,M.run,bg,bgo,af5,bh8,cj9,bk4,bh9]<;>kernel_rfl
theorem ct6 (x:Int)(bc0:List Int):(ak5 x bc0).m=Pv.ak5 x bc0:=by
 delta Pv.ak5 Pv.aB9
 simp only[ak5,aB9,C.of,M.run,ad5,aq7,elE]<;>kernel_rfl
theorem cE0 (o9 A0:Int):(aG2 o9 A0).m=Pv.aG2 o9 A0:=by
 simp only[aG2,Pv.aG2,C.of,M.run,ct6,bh9]<;>kernel_rfl
theorem cj8 (p2:M8)(o9 A0:Int):(aq4 p2 o9 A0).m=Pv.aq4 p2 o9 A0:=by
 simp only[aq4,Pv.aq4,C.of,M.run,L1.m,af5,cE0,bh8,bh9]<;>kernel_rfl
theorem bh7 (x low high:Int):(ae9 x low high).m=Pv.ae9 x low high:=by
 simp only[ae9,Pv.ae9,C.of,M.run]<;>kernel_rfl
theorem di7 (A0 bI8:Int):(aU8 A0 bI8).m=Pv.aU8 A0 bI8:=by
 simp only[aU8,Pv.aU8,C.of,M.run,L1.m,bh7]<;>kernel_rfl
set_option maxHeartbeats 1000000
theorem cj7 (b2:L4):(aJ4 b2).m=Pv.aJ4 b2:=by
 simp only[aJ4,Pv.aJ4,C.of,M.run,bh7]<;>kernel_rfl
theorem dj5 (n2:Int)(cmp:Cl Tryz.prog Int Int (fun x=>[.t (tI x)]) (fun r=>.t (tI r))):(aP1 n2 cmp).m=Pv.aP1 n2 (fun x0=>cmp.f x0):=by
 delta Pv.aP1 Pv.aM8
 simp only[aP1,aM8,C.of,M.run,Cl.at,elE]<;>kernel_rfl
theorem bH6 (b2:L4)(aF8 aH8:Int):(aB8 b2 aF8 aH8).m=Pv.aB8 b2 aF8 aH8:=by
 simp only[aB8,Pv.aB8,C.of,M.run]<;>kernel_rfl
theorem cK8 (i:Int)(c:L4)(c2 c3:Int):(aA6 i c c2 c3).m=Pv.aA6 i c c2 c3:=by
 simp only[aA6,Pv.aA6,C.of,M.run,bH6]<;>kernel_rfl
theorem di9 (b2:L4)(aF8 br1:Int):(aJ3 b2 aF8 br1).m=Pv.aJ3 b2 aF8 br1:=by
 simp only[aJ3,Pv.aJ3,C.of,M.run,Cl.of,cK8,cj7,bh7,bH6,dj5]<;>kernel_rfl
theorem di6 (b2:L4)(aF8 aH8:Int):(aO8 b2 aF8 aH8).m=Pv.aO8 b2 aF8 aH8:=by
 simp only[aO8,Pv.aO8,C.of,M.run,cj7,bh7,bH6]<;>kernel_rfl
theorem cK9 (y:Int):(aF9 y).m=Pv.aF9 y:=by
 simp only[aF9,Pv.aF9,C.of,M.run,bh7]<;>kernel_rfl
theorem cj6 (t2:o8)(cb5 B9:Int):(aB7 t2 cb5 B9).m=Pv.aB7 t2 cb5 B9:=by
 simp only[aB7,Pv.aB7,C.of,M.run,Cl.of,bx9,aI9,cK9,bh7,J8]<;>kernel_rfl
theorem di8 (t2:o8)(br1 B9:Int):(aO9 t2 br1 B9).m=Pv.aO9 t2 br1 B9:=by
 simp only[aO9,Pv.aO9,C.of,M.run,bq2,cj6]<;>kernel_rfl
theorem bP3 (s:o5):(ad7 s).m=Pv.ad7 s:=by
 simp only[ad7,Pv.ad7,CG.of,M.run,bso,bZ3,af5,aw4,di6,di7,di8,di9,cj8,cE1]<;>kernel_rfl
theorem cL0 (k:B8):(aA7 k).m=Pv.aA7 k:=by
 simp only[aA7,Pv.aA7,C.of,M.run,bQ2]<;>kernel_rfl
theorem cL1 (n2:Int):(aG1 n2).m=Pv.aG1 n2:=by
 simp only[aG1,Pv.aG1,C.of,M.run,bs9]<;>kernel_rfl
theorem bH9 (s:List B8):(ad1 s).m=Pv.ad1 s:=by
 simp only[ad1,Pv.ad1,CG.of,M.run,U1.m,fj6]<;>kernel_rfl
theorem cW6 (k:B8)(n2:Int):(aH9 k n2).m=Pv.aH9 k n2:=by
 simp only[aH9,Pv.aH9,C.of,M.run,aQ8]<;>kernel_rfl
theorem dj2 (l:List B8)(af8:List Int):(aV1 l af8).m=Pv.aV1 l af8:=by
 delta Pv.aV1 Pv.aM2
 simp only[aV1,aM2,C.of,M.run,L1.m,U1.m,Cl.of,bso,bZ3,K9,M4,elE,cL0,cL1,cW6,bH9,aK9,J8]<;>kernel_rfl
theorem ct8 (a b2:Int):(aA8 a b2).m=Pv.aA8 a b2:=by
 simp only[aA8,Pv.aA8,C.of,M.run]<;>kernel_rfl
theorem cL5 (l:List Int):(aG8 l).m=Pv.aG8 l:=by
 simp only[aG8,Pv.aG8,C.of,M.run,Cl.of,aP7,ct8]<;>kernel_rfl
theorem aZ8 (x low high:Int):(Q5 x low high).m=Pv.Q5 x low high:=by
 simp only[Q5,Pv.Q5,C.of,M.run]<;>kernel_rfl
theorem cd0 (x c c2:Int):(as7 x c c2).m=Pv.as7 x c c2:=by
 simp only[as7,Pv.as7,C.of,M.run,aZ8]<;>kernel_rfl
theorem bD2 (l:List Int)(low high:Int):(ac7 l low high).m=Pv.ac7 l low high:=by
 simp only[ac7,Pv.ac7,C.of,M.run,Cl.of,J8,cd0]<;>kernel_rfl
theorem ct9 (l:List Int):(aw0 l).m=Pv.aw0 l:=by
 simp only[aw0,Pv.aw0,C.of,M.run,bD2]<;>kernel_rfl
theorem bQ9 (t2:o8):(ax7 t2).m=Pv.ax7 t2:=by
 simp only[ax7,Pv.ax7,C.of,M.run,Cl.of,aI9,aN7,cL5,bD2,ct9,am8]<;>kernel_rfl
theorem cL4 (t2:o8)(B9 M5:Int):(aG7 t2 B9 M5).m=Pv.aG7 t2 B9 M5:=by
 simp only[aG7,Pv.aG7,C.of,M.run,bx9,bQ9,aZ8]<;>kernel_rfl
theorem cW9 (t2:o8)(o9 A0:Int):(aM9 t2 o9 A0).m=Pv.aM9 t2 o9 A0:=by
 simp only[aM9,Pv.aM9,C.of,M.run,bQ9,aZ8,aY2]<;>kernel_rfl
theorem cL3 (t2:o8)(o9 A0 D6 bj9:Int):(aG6 t2 o9 A0 D6 bj9).m=Pv.aG6 t2 o9 A0 D6 bj9:=by
 simp only[aG6,Pv.aG6,C.of,M.run,af5,cW9,aZ8]<;>kernel_rfl
theorem bM9 (s:o5):(Z9 s).m=Pv.Z9 s:=by
 delta Pv.Z9 Pv.ad4
 simp only[Z9,ad4,CG.of,M.run,L1.m,U1.m,bso,bZ3,K9,M4,elE,af5,aw4,dj2,cL3,cL4]<;>kernel_rfl
theorem cD7 (t2:o8)(e2:o6)(b2:L4)(c:A7)(i:W5):(aF1 t2 e2 b2 c i).m=Pv.aF1 t2 e2 b2 c i:=by
 simp only[aF1,Pv.aF1,CG.of,M.run,bso,cs6,bL7,bh6,bM9,bP3,bN0,bA0,bH5,bt0]<;>kernel_rfl
theorem dj6 (n2:Int):(aV8 n2).m=Pv.aV8 n2:=by
 simp only[aV8,Pv.aV8,C.of,M.run]<;>kernel_rfl
theorem aQ9 (s:List Int):(O2 s).m=Pv.O2 s:=by
 simp only[O2,Pv.O2,C.of,M.run,U1.m,fj6]<;>kernel_rfl
theorem di5:(bc2).m=Pv.bc2:=by
 simp only[bc2,Pv.bc2,C.of,M.run]<;>kernel_rfl
theorem bC8 (e2:o6):(ao9 e2).m=Pv.ao9 e2:=by
 simp only[ao9,Pv.ao9,C.of,M.run,di5,ay0,aQ9,dj6]<;>kernel_rfl
theorem cD3 (t2:Int):(av1 t2).m=Pv.av1 t2:=by
 simp only[av1,Pv.av1,C.of,M.run]<;>kernel_rfl
theorem bs8 (c:D3):(ai9 c).m=Pv.ai9 c:=by
 simp only[ai9,Pv.ai9,C.of,M.run,cD3]<;>kernel_rfl
theorem bo4 (s:List j7)(f2:Cl Tryz.prog j7 Bool (fun x=>[ba8 x]) (fun r=>.t (tB r))):(R3 s f2).m=Pv.R3 s (fun x0=>f2.f x0):=by
 delta Pv.R3 Pv.V1
 simp only[R3,V1,C.of,M.run,L1.m,Cl.at,bZ3,K9,M4]<;>kernel_rfl
theorem aI3 (s:List j7)(f2:Cl Tryz.prog j7 Bool (fun x=>[ba8 x]) (fun r=>.t (tB r))):(G4 s f2).m=Pv.G4 s (fun x0=>f2.f x0):=by
 simp only[G4,Pv.G4,C.of,M.run,bo4]<;>kernel_rfl
theorem cu1 (c:j7)(c2:w9):(ap0 c c2).m=Pv.ap0 c c2:=by
 simp only[ap0,Pv.ap0,C.of,M.run]<;>kernel_rfl
theorem bt6 (t2:w9):(an9 t2).m=Pv.an9 t2:=by
 simp only[an9,Pv.an9,C.of,M.run,Cl.of,aI3,cu1]<;>kernel_rfl
theorem bC6 (x low high:Int):(M6 x low high).m=Pv.M6 x low high:=by
 simp only[M6,Pv.M6,C.of,M.run]<;>kernel_rfl
theorem bp7 (e2:o6)(f2:A1):(X1 e2 f2).m=Pv.X1 e2 f2:=by
 simp only[X1,Pv.X1,C.of,M.run,ay0,bC6,bc4]<;>kernel_rfl
theorem aW3 (s:List A1)(f2:Cl Tryz.prog A1 Bool (fun x=>[aP4 x]) (fun r=>.t (tB r))):(H5 s f2).m=Pv.H5 s (fun x0=>f2.f x0):=by
 delta Pv.H5 Pv.N8
 simp only[H5,N8,C.of,M.run,L1.m,Cl.at,bZ3,K9,M4]<;>kernel_rfl
theorem aN6 (s:List A1)(f2:Cl Tryz.prog A1 Bool (fun x=>[aP4 x]) (fun r=>.t (tB r))):(F2 s f2).m=Pv.F2 s (fun x0=>f2.f x0):=by
 simp only[F2,Pv.F2,C.of,M.run,aW3]<;>kernel_rfl
theorem bQ7 (g c:A1):(ae4 g c).m=Pv.ae4 g c:=by
 simp only[ae4,Pv.ae4,C.of,M.run]<;>kernel_rfl
theorem bt1 (e2:o6)(l:List A1):(ab1 e2 l).m=Pv.ab1 e2 l:=by
 delta Pv.ab1 Pv.am3
 simp only[ab1,am3,C.of,M.run,L1.m,U1.m,Cl.of,bZ3,K9,M4,bp7,bQ7,aN6]<;>kernel_rfl
theorem aH4 (s:List A3)(f2:Cl Tryz.prog A3 Bool (fun x=>[bd7 x]) (fun r=>.t (tB r))):(C2 s f2).m=Pv.C2 s (fun x0=>f2.f x0):=by
 delta Pv.C2 Pv.O9
 simp only[C2,O9,C.of,M.run,L1.m,Cl.at,bZ3,K9,M4]<;>kernel_rfl
theorem bq5 (s:List A3)(f2:Cl Tryz.prog A3 Bool (fun x=>[bd7 x]) (fun r=>.t (tB r))):(O8 s f2).m=Pv.O8 s (fun x0=>f2.f x0):=by
 simp only[O8,Pv.O8,C.of,M.run,aH4]<;>kernel_rfl
set_option maxHeartbeats 1000000
theorem ct7 (s:c8)(j:A3):(av9 s j).m=Pv.av9 s j:=by
 simp only[av9,Pv.av9,C.of,M.run,bg,bga]<;>kernel_rfl
theorem bQ5 (j:A3)(c:c8):(X9 j c).m=Pv.X9 j c:=by
 simp only[X9,Pv.X9,C.of,M.run,ct7]<;>kernel_rfl
theorem az1 (x:B6):(H4 x).m=Pv.H4 x:=by
 simp only[H4,Pv.H4,C.of,M.run]<;>kernel_rfl
theorem bM0 (kind:Int):(ar0 kind).m=Pv.ar0 kind:=by
 simp only[ar0,Pv.ar0,C.of,M.run]<;>kernel_rfl
theorem ck4 (s:c8)(c:Int):(aq9 s c).m=Pv.aq9 s c:=by
 delta Pv.aq9 Pv.Y2
 simp only[aq9,Y2,C.of,M.run,L1.m,bg,bga,bgo,bZ3,ad5,aq7,az1,bM0]<;>kernel_rfl
theorem au0 (s:c8):(J9 s).m=Pv.J9 s:=by
 delta Pv.J9 Pv.am2
 simp only[J9,am2,C.of,M.run,Cl.of,bg,bgo,bZ3,K9,M4,bs8,ay0,bQ5,bt1,ck4,bq5,bt6]<;>kernel_rfl
theorem bh0 (s:List A1):(T7 s).m=Pv.T7 s:=by
 simp only[T7,Pv.T7,C.of,M.run,U1.m,fj6]<;>kernel_rfl
theorem bQ8 (s:List A3):(aj5 s).m=Pv.aj5 s:=by
 simp only[aj5,Pv.aj5,CG.of,M.run,U1.m,fj6]<;>kernel_rfl
theorem ay8 (s:c8):(L6 s).m=Pv.L6 s:=by
 simp only[L6,Pv.L6,CG.of,M.run,bh0,bQ8]<;>kernel_rfl
theorem ck3 (s:c8)(l:List A1):(aq8 s l).m=Pv.aq8 s l:=by
 simp only[aq8,Pv.aq8,C.of,M.run,CG.f,au0,ay8,bt1,bh0]<;>kernel_rfl
theorem bN1 (x:j7):(ag2 x).m=Pv.ag2 x:=by
 simp only[ag2,Pv.ag2,C.of,M.run]<;>kernel_rfl
theorem bY5 (s:c8):(ac4 s).m=Pv.ac4 s:=by
 simp only[ac4,Pv.ac4,C.of,M.run,Cl.of,CG.f,bN1,au0,ay8,aI3]<;>kernel_rfl
theorem be5 (t2:w9)(channel:Int):(ag7 t2 channel).m=Pv.ag7 t2 channel:=by
 simp only[ag7,Pv.ag7,CG.of,M.run,U1.m,bso,bt6]<;>kernel_rfl
theorem cL6 (t2:w9)(channel:Int)(level:Bool):(aH1 t2 channel level).m=Pv.aH1 t2 channel level:=by
 simp only[aH1,Pv.aH1,C.of,M.run,L1.m,U1.m,bso,be5]<;>kernel_rfl
theorem cE6 (t2:w9)(channel:Int):(az9 t2 channel).m=Pv.az9 t2 channel:=by
 simp only[az9,Pv.az9,C.of,M.run,L1.m,U1.m,be5]<;>kernel_rfl
theorem cc6 (j:A3)(c:Int):(as6 j c).m=Pv.as6 j c:=by
 simp only[as6,Pv.as6,C.of,M.run,az1]<;>kernel_rfl
theorem ck6 (t2:w9)(channel aZ5:Int)(level:Bool):(aK0 t2 channel aZ5 level).m=Pv.aK0 t2 channel aZ5 level:=by
 simp only[aK0,Pv.aK0,C.of,M.run,L1.m,U1.m,be5]<;>kernel_rfl
theorem bC7 (s:c8):(ao8 s).m=Pv.ao8 s:=by
 delta Pv.ao8 Pv.ac3
 simp only[ao8,ac3,C.of,M.run,L1.m,U1.m,Cl.of,CG.f,bg,bga,bZ3,K9,M4,elE,cc6,au0,ay8,aH4,ck6,cE6,cL6]<;>kernel_rfl
theorem cc8 (j:A3)(c:Int):(U9 j c).m=Pv.U9 j c:=by
 simp only[U9,Pv.U9,C.of,M.run,az1]<;>kernel_rfl
theorem cE3 (a b2:Int):(az6 a b2).m=Pv.az6 a b2:=by
 simp only[az6,Pv.az6,C.of,M.run,L1.m]<;>kernel_rfl
theorem bC9 (s:c8):(ak6 s).m=Pv.ak6 s:=by
 delta Pv.ak6 Pv.V0
 simp only[ak6,V0,CG.of,M.run,L1.m,U1.m,Cl.of,bso,bZ3,K9,M4,elE,cc8,bM0,cE3,aH4,ck6]<;>kernel_rfl
theorem cX1 (t2:w9):(aN1 t2).m=Pv.aN1 t2:=by
 delta Pv.aN1 Pv.aI0
 simp only[aN1,aI0,C.of,M.run,bg,bga,ad5,aq7,elE,bt6]<;>kernel_rfl
theorem bt3 (s:List j8)(f:Cl Tryz.prog (j8×j8) Int (fun x=>[aB0 x.1,aB0 x.2]) (fun r=>.t (tI r))):(X6 s f).m=Pv.X6 s (fun x0 x1=>f.f (x0,x1)):=rfl
theorem bb0 (x y:Int):(F6 x y).m=Pv.F6 x y:=by
 simp only[F6,Pv.F6,C.of,M.run,bC4]<;>kernel_rfl
theorem bz8 (bx5:List Int):(af6 bx5).m=Pv.af6 bx5:=by
 delta Pv.af6 Pv.ao6
 simp only[af6,ao6,C.of,M.run,ad5,aq7]<;>kernel_rfl
theorem cd3 (a b2:j8):(W9 a b2).m=Pv.W9 a b2:=by
 simp only[W9,Pv.W9,C.of,M.run,bb0,bz8]<;>kernel_rfl
theorem cu0 (t2:w9)(K5:Int):(ak7 t2 K5).m=Pv.ak7 t2 K5:=by
 delta Pv.ak7 Pv.au7
 simp only[ak7,au7,C.of,M.run,L1.m,U1.m,Cl.of,bZ3,K9,M4,elE,bt3,cd3,be5]<;>kernel_rfl
theorem bw5 (s:List A3)(del:Cl Tryz.prog A3 Bool (fun x=>[bd7 x]) (fun r=>.t (tB r))):(L0 s del).m=Pv.L0 s (fun x0=>del.f x0):=rfl
theorem bY6 (j:A3)(c:Int):(an7 j c).m=Pv.an7 j c:=by
 simp only[an7,Pv.an7,C.of,M.run]<;>kernel_rfl
theorem by3 (s:c8)(K5:Int):(ab2 s K5).m=Pv.ab2 s K5:=by
 delta Pv.ab2 Pv.Y1
 simp only[ab2,Y1,CG.of,M.run,U1.m,Cl.of,bso,bZ3,elE,bC9,bY6,bw5,cu0,cX1]<;>kernel_rfl
theorem bm0 (s:c8)(K5:Int):(T1 s K5).m=Pv.T1 s K5:=by
 simp only[T1,Pv.T1,C.of,M.run,au0,ay8,by3]<;>kernel_rfl
theorem cj1 (a b2:Int):(ab8 a b2).m=Pv.ab8 a b2:=by
 simp only[ab8,Pv.ab8,C.of,M.run,L1.m]<;>kernel_rfl
theorem bb1 (bL4 K5:Int):(Q8 bL4 K5).m=Pv.Q8 bL4 K5:=by
 simp only[Q8,Pv.Q8,C.of,M.run,cj1,bL8]<;>kernel_rfl
theorem cK0 (c:D3):(aK7 c).m=Pv.aK7 c:=by
 simp only[aK7,Pv.aK7,C.of,M.run,bs8]<;>kernel_rfl
theorem dr0 (a b2:Int):(bl8 a b2).m=Pv.bl8 a b2:=by
 simp only[bl8,Pv.bl8,C.of,M.run,bq2]<;>kernel_rfl
theorem cJ9 (c:D3)(bV5:Int):(aF0 c bV5).m=Pv.aF0 c bV5:=by
 simp only[aF0,Pv.aF0,C.of,M.run,cK0,dr0]<;>kernel_rfl
theorem bC5 (e2:o6)(aC8:Int):(ak4 e2 aC8).m=Pv.ak4 e2 aC8:=by
 simp only[ak4,Pv.ak4,C.of,M.run,L1.m,bm1]<;>kernel_rfl
theorem cs9 (e2:o6)(aC8:Int):(av5 e2 aC8).m=Pv.av5 e2 aC8:=by
 simp only[av5,Pv.av5,C.of,M.run,ay0,bC5]<;>kernel_rfl
theorem bQ6 (f2:A1)(c:Int):(Y0 f2 c).m=Pv.Y0 f2 c:=by
 simp only[Y0,Pv.Y0,C.of,M.run]<;>kernel_rfl
theorem ct0 (f2:A1)(c:o6):(ao7 f2 c).m=Pv.ao7 f2 c:=by
 simp only[ao7,Pv.ao7,C.of,M.run,bp7]<;>kernel_rfl
theorem ct1 (g c:A1):(av6 g c).m=Pv.av6 g c:=by
 simp only[av6,Pv.av6,C.of,M.run]<;>kernel_rfl
theorem ct2 (aZ5 kind bT4:Int)(c:List B6)(c2:A1):(O6 aZ5 kind bT4 c c2).m=Pv.O6 aZ5 kind bT4 c c2:=by
 simp only[O6,Pv.O6,CG.of,M.run,U1.m,bso,bZ3,cj1]<;>kernel_rfl
theorem ct3 (d c:Int):(K2 d c).m=Pv.K2 d c:=by
 simp only[K2,Pv.K2,C.of,M.run,L1.m]<;>kernel_rfl
theorem ct4 (f2:A1):(ak3 f2).m=Pv.ak3 f2:=by
 simp only[ak3,Pv.ak3,C.of,M.run]<;>kernel_rfl
theorem bw8 (s:List B6)(f:Cl Tryz.prog (B6×B6) Int (fun x=>[aX5 x.1,aX5 x.2]) (fun r=>.t (tI r))):(aa3 s f).m=Pv.aa3 s (fun x0 x1=>f.f (x0,x1)):=rfl
set_option maxHeartbeats 1000000
theorem cD8 (a b2:B6):(al1 a b2).m=Pv.al1 a b2:=by
 simp only[al1,Pv.al1,C.of,M.run,bb0,bz8]<;>kernel_rfl
theorem cK2 (e2:o6)(l:List A1)(M5:Int):(aF5 e2 l M5).m=Pv.aF5 e2 l M5:=by
 delta Pv.aF5 Pv.aD1 Pv.aw7
 simp only[aF5,aD1,aw7,C.of,M.run,L1.m,U1.m,Cl.of,bso,bZ3,ad5,K9,aq7,M4,ct0,ct1,ct2,ct3,ct4,ay0,bC5,cD8,bC6,aN6,bw8]<;>kernel_rfl
theorem aE5 (data:List a7)(a b2:Int)(cmp:Cl Tryz.prog (a7×a7) Int (fun x=>[A8 x.1,A8 x.2]) (fun r=>.t (tI r))):(B0 data a b2 cmp).m=Pv.B0 data a b2 (fun x0 x1=>cmp.f (x0,x1)):=by
 delta Pv.B0 Pv.C0 Pv.B2
 simp only[B0,C0,B2,CG.of,M.run,L1.m,U1.m,Cl.at,bso,bZ3,elE]<;>kernel_rfl
theorem aK4 (data:List a7)(a m2 b2:Int)(cmp:Cl Tryz.prog (a7×a7) Int (fun x=>[A8 x.1,A8 x.2]) (fun r=>.t (tI r))):(I1 data a m2 b2 cmp).m=Pv.I1 64 data a m2 b2 (fun x0 x1=>cmp.f (x0,x1)):=rfl
theorem aN8 (data:List a7)(n2:Int)(cmp:Cl Tryz.prog (a7×a7) Int (fun x=>[A8 x.1,A8 x.2]) (fun r=>.t (tI r))):(H3 data n2 cmp).m=Pv.H3 data n2 (fun x0 x1=>cmp.f (x0,x1)):=by
 delta Pv.H3 Pv.K0 Pv.N3 Pv.K1
 simp only[H3,K0,N3,K1,CG.of,M.run,elE,aE5,aK4]<;>kernel_rfl
theorem aK3 (x:List a7)(cmp:Cl Tryz.prog (a7×a7) Int (fun x=>[A8 x.1,A8 x.2]) (fun r=>.t (tI r))):(D0 x cmp).m=Pv.D0 x (fun x0 x1=>cmp.f (x0,x1)):=by
 simp only[D0,Pv.D0,CG.of,M.run,aN8]<;>kernel_rfl
theorem bY7 (a b2:a7):(ac5 a b2).m=Pv.ac5 a b2:=by
 simp only[ac5,Pv.ac5,C.of,M.run,bb0,bz8,az1]<;>kernel_rfl
theorem ck5 (e2:o6)(f2:A1)(begin M5:Int):(ar1 e2 f2 begin M5).m=Pv.ar1 e2 f2 begin M5:=by
 delta Pv.ar1 Pv.aj4 Pv.V4 Pv.T2
 simp only[ar1,aj4,V4,T2,C.of,M.run,L1.m,U1.m,Cl.of,bso,bZ3,ad5,aq7,elE,bb1,cK2,bY7,aK3]<;>kernel_rfl
theorem cc9 (s:c8):(ah3 s).m=Pv.ah3 s:=by
 delta Pv.ah3 Pv.ag4 Pv.ag3
 simp only[ah3,ag4,ag3,CG.of,M.run,L1.m,U1.m,Cl.of,bso,bZ3,ad5,aq7,elE,cJ9,cs9,bb1,bQ6,ck5,aW3]<;>kernel_rfl
theorem cc7 (s:c8)(c:D3):(al6 s c).m=Pv.al6 s c:=by
 delta Pv.al6 Pv.aa1
 simp only[al6,aa1,C.of,M.run,L1.m,U1.m,bso,bZ3,K9,M4,elE,bs8,bb1,au0,bC9,cc9,ay8,by3]<;>kernel_rfl
theorem bq6 (s:List z8)(f2:Cl Tryz.prog z8 Bool (fun x=>[aO5 x]) (fun r=>.t (tB r))):(S5 s f2).m=Pv.S5 s (fun x0=>f2.f x0):=by
 delta Pv.S5 Pv.W2
 simp only[S5,W2,C.of,M.run,L1.m,Cl.at,bZ3,K9,M4]<;>kernel_rfl
theorem aJ0 (s:List z8)(f2:Cl Tryz.prog z8 Bool (fun x=>[aO5 x]) (fun r=>.t (tB r))):(I4 s f2).m=Pv.I4 s (fun x0=>f2.f x0):=by
 simp only[I4,Pv.I4,C.of,M.run,bq6]<;>kernel_rfl
theorem aZ7 (x low high:Int):(D7 x low high).m=Pv.D7 x low high:=by
 simp only[D7,Pv.D7,C.of,M.run]<;>kernel_rfl
theorem bP5 (c:z8):(ad8 c).m=Pv.ad8 c:=by
 simp only[ad8,Pv.ad8,C.of,M.run,aZ7]<;>kernel_rfl
theorem bP8 (c:z8):(an5 c).m=Pv.an5 c:=by
 simp only[an5,Pv.an5,C.of,M.run,bP5]<;>kernel_rfl
theorem bP6 (l:List z8):(an4 l).m=Pv.an4 l:=by
 delta Pv.an4 Pv.aD4
 simp only[an4,aD4,C.of,M.run,ad5,aq7]<;>kernel_rfl
theorem bD0 (s:List z8):(Z5 s).m=Pv.Z5 s:=by
 simp only[Z5,Pv.Z5,C.of,M.run,U1.m,fj6]<;>kernel_rfl
theorem bq3 (l:List z8):(aB6 l).m=Pv.aB6 l:=by
 simp only[aB6,Pv.aB6,C.of,M.run,Cl.of,bP6,bP8,bD0,aJ0]<;>kernel_rfl
theorem cK6 (x:Int):(aR6 x).m=Pv.aR6 x:=by
 simp only[aR6,Pv.aR6,C.of,M.run,aZ7]<;>kernel_rfl
theorem ct5 (x:Int):(aA3 x).m=Pv.aA3 x:=by
 simp only[aA3,Pv.aA3,C.of,M.run,cK6]<;>kernel_rfl
theorem bP7 (c:z8)(l:List Int):(as3 c l).m=Pv.as3 c l:=by
 simp only[as3,Pv.as3,C.of,M.run,Cl.of,ct5,J8]<;>kernel_rfl
theorem cj4 (f2:A5)(bits:Int):(X2 f2 bits).m=Pv.X2 f2 bits:=by
 simp only[X2,Pv.X2,C.of,M.run]<;>kernel_rfl
theorem cK4 (f2:A5):(aL0 f2).m=Pv.aL0 f2:=by
 simp only[aL0,Pv.aL0,C.of,M.run]<;>kernel_rfl
theorem cK5 (c:z8)(f2:A5)(E6:Int):(aF7 c f2 E6).m=Pv.aF7 c f2 E6:=by
 simp only[aF7,Pv.aF7,C.of,M.run,bP7,cj4,cK4,aZ7]<;>kernel_rfl
theorem be4 (f2:B7):(Z3 f2).m=Pv.Z3 f2:=by
 delta Pv.Z3 Pv.aD3
 simp only[Z3,aD3,C.of,M.run,L1.m,Cl.of,bg,bgo,bZ3,K9,M4,bP6,cK5,aZ7,bP8,aJ0]<;>kernel_rfl
theorem bH8 (s:List A5):(ad0 s).m=Pv.ad0 s:=by
 simp only[ad0,Pv.ad0,CG.of,M.run,U1.m,fj6]<;>kernel_rfl
theorem bL9 (f2:B7):(al2 f2).m=Pv.al2 f2:=by
 delta Pv.al2 Pv.ay2
 simp only[al2,ay2,CG.of,M.run,L1.m,U1.m,bso,bZ3,K9,M4,elE,bH8,aQ9]<;>kernel_rfl
theorem bP4 (f2:B7):(aw8 f2).m=Pv.aw8 f2:=by
 delta Pv.aw8 Pv.aD2
 simp only[aw8,aD2,C.of,M.run,L1.m,U1.m,bso,bZ3,K9,M4,elE,be4,bL9]<;>kernel_rfl
theorem cK3 (l:List A5)(i:Int)(c:z8)(E6:Int)(frame:List Int):(aF6 l i c E6 frame).m=Pv.aF6 l i c E6 frame:=by
 simp only[aF6,Pv.aF6,CG.of,M.run,U1.m,cj4,aQ9]<;>kernel_rfl
theorem cD9 (f2:B7)(i:Int)(bad:Bool)(l:List Int):(aq1 f2 i bad l).m=Pv.aq1 f2 i bad l:=by
 simp only[aq1,Pv.aq1,C.of,M.run,L1.m,U1.m,bso,bZ3,be4,bL9,cK3,bP7]
 refine da3 fun v _=>dN7 rfl (dN7 rfl (dN7 rfl (da3 fun x _=>da3 fun v2 _=>dN7 rfl (da3 fun v3 _=>da3 fun y hy=>da3 fun f3 _=>?_))))
 simp only[hy,bso]
theorem by2 (x low high:Int):(N0 x low high).m=Pv.N0 x low high:=by
 simp only[N0,Pv.N0,C.of,M.run]<;>kernel_rfl
theorem bH7 (r2:j2):(U3 r2).m=Pv.U3 r2:=by
 simp only[U3,Pv.U3,C.of,M.run,bh5]<;>kernel_rfl
theorem ck0 (bo2:List Int)(x:Int):(ag1 bo2 x).m=Pv.ag1 bo2 x:=by
 delta Pv.ag1 Pv.aq6 Pv.ae2
 simp only[ag1,aq6,ae2,C.of,M.run,L1.m,bZ3,K9,M4,elE]<;>kernel_rfl
theorem by1 (m2:SMap)(x y:Int):(X4 m2 x y).m=Pv.X4 m2 x y:=by
 simp only[X4,Pv.X4,C.of,M.run,L1.m,ck0]<;>kernel_rfl
theorem ck1 (r2:j2):(ax4 r2).m=Pv.ax4 r2:=by
 simp only[ax4,Pv.ax4,C.of,M.run]<;>kernel_rfl
theorem bQ3 (t2:o8)(bg0 o9:Int)(l:List j2):(ae1 t2 bg0 o9 l).m=Pv.ae1 t2 bg0 o9 l:=by
 delta Pv.ae1 Pv.af9 Pv.ag0
 simp only[ae1,af9,ag0,C.of,M.run,Cl.of,bZ3,ad5,aq7,elE,bH7,by1,ck1,by2,at3,am8]<;>kernel_rfl
theorem by0 (t2:o8)(o9 A0:Int)(l:List A1):(ax3 t2 o9 A0 l).m=Pv.ax3 t2 o9 A0 l:=by
 delta Pv.ax3 Pv.aq5
 simp only[ax3,aq5,C.of,M.run,L1.m,ad5,aq7,elE,by1,by2,am8]<;>kernel_rfl
theorem cK7 (t2:o8)(M5 B9:Int):(aA5 t2 M5 B9).m=Pv.aA5 t2 M5 B9:=by
 simp only[aA5,Pv.aA5,C.of,M.run,cj6]<;>kernel_rfl
end Go.Proofs.YtmhdghdbojdgfaaGreat
namespace Go.Pv
open Go
def ai3 {α:Type}(a:Int)(cmp:α->α->Option Int)(s2:Int×List α):Option ((Int×List α)⊕((Int×List α)⊕Empty)):=
 ai5 (bif (decide (s2.1>a))then(ai5 (D4 s2.2 s2.1) fun x=>ai5 (D4 s2.2 (o4 (s2.1-1))) fun x2=>ai5 (cmp x x2) fun v=>some (decide (v<0)))else(some false)) fun(v2:Bool)=>bif v2 then(ai5 (ai5 (D4 s2.2 (o4 (s2.1-1))) fun x3=>ai5 (D4 s2.2 s2.1) fun x4=>ai5 (am4 s2.2 s2.1 x3) fun l=>ai5 (D4 l (o4 (s2.1-1))) fun _=>ai5 (am4 l (o4 (s2.1-1)) x4) fun l2=>some l2) fun(f2:List α)=>some (.inl (o4 (s2.1-1),f2)))else(some (.inr (.inl (s2.1,s2.2))))
def Z6 {α:Type}(a:Int)(b2:Int)(cmp:α->α->Option Int)(s:Int×List α):Option ((Int×List α)⊕((Int×List α)⊕Empty)):=
 bif (decide (s.1<b2))then(ai5 (L5 (ai3 a cmp) (s.1,s.2)) fun(t:(Int×List α)⊕Empty)=>match t with| .inl s3=>(some (.inl (o4 (s.1+1),s3.2)))| .inr r=>r.elim)else(some (.inr (.inl (s.1,s.2))))
def ah8 {α:Type}(data:List α)(a:Int)(b2:Int)(cmp:α->α->Option Int):Option (List α):=
 ai5 (L5 (Z6 a b2 cmp) (o4 (a+1),data)) fun(t:(Int×List α)⊕Empty)=>match t with| .inl s4=>(some s4.2)| .inr r=>r.elim
def bN3 {α:Type}(a:Int)(b2:Int)(n2:Int)(s:Int×List α):Option ((Int×List α)⊕((Int×List α)⊕Empty)):=
 bif (decide (s.1<n2))then(ai5 (ai5 (D4 s.2 (o4 (b2+s.1))) fun x=>ai5 (D4 s.2 (o4 (a+s.1))) fun x2=>ai5 (am4 s.2 (o4 (a+s.1)) x) fun l=>ai5 (D4 l (o4 (b2+s.1))) fun _=>ai5 (am4 l (o4 (b2+s.1)) x2) fun l2=>some l2) fun(f2:List α)=>some (.inl (o4 (s.1+1),f2)))else(some (.inr (.inl (s.1,s.2))))
def bb6 {α:Type}(data:List α)(a:Int)(b2:Int)(n2:Int)(_:α->α->Option Int):Option (List α):=
 ai5 (L5 (bN3 a b2 n2) (0,data)) fun(t:(Int×List α)⊕Empty)=>match t with| .inl s2=>(some s2.2)| .inr r=>r.elim
def ce7 {α:Type}(m2:Int)(cmp:α->α->Option Int)(s:Int×Int×List α):Option ((Int×Int×List α)⊕((Int×Int×List α)⊕Empty)):=
 bif (s.1 !=s.2.1)then(bif (decide (s.1>s.2.1))then(ai5 (bb6 s.2.2 (o4 (m2-s.1)) m2 s.2.1 cmp) fun v=>some (.inl (o4 (s.1-s.2.1),s.2.1,v)))else(ai5 (bb6 s.2.2 (o4 (m2-s.1)) (o4 ((o4 (m2+s.2.1))-s.1)) s.1 cmp) fun v2=>some (.inl (s.1,o4 (s.2.1-s.1),v2))))else(some (.inr (.inl (s.1,s.2.1,s.2.2))))
def cF0 {α:Type}(data:List α)(a:Int)(m2:Int)(b2:Int)(cmp:α->α->Option Int):Option (List α):=
 ai5 (L5 (ce7 m2 cmp) (o4 (m2-a),o4 (b2-m2),data)) fun(t:(Int×Int×List α)⊕Empty)=>match t with| .inl s2=>(ai5 (bb6 s2.2.2 (o4 (m2-s2.1)) m2 s2.1 cmp) fun v3=>some v3)| .inr r=>r.elim
def bS0 {α:Type}(data:List α)(a:Int)(cmp:α->α->Option Int)(s:Int×Int):Option ((Int×Int)⊕((Int×Int)⊕Empty)):=
 bif (decide (s.1<s.2))then(ai5 (D4 data (o4 (F4 .u64 (aX3.wrap (o4 (s.1+s.2))) 1))) fun x=>ai5 (D4 data a) fun x2=>ai5 (cmp x x2) fun v=>bif (decide (v<0))then(some (.inl (o4 ((o4 (F4 .u64 (aX3.wrap (o4 (s.1+s.2))) 1))+1),s.2)))else(some (.inl (s.1,o4 (F4 .u64 (aX3.wrap (o4 (s.1+s.2))) 1)))))else(some (.inr (.inl (s.1,s.2))))
def bS1 {α:Type}(s2:Int×Int)(s3:Int×List α):Option ((Int×List α)⊕((Int×List α)⊕Empty)):=
 bif (decide (s3.1<(o4 (s2.1-1))))then(ai5 (ai5 (D4 s3.2 (o4 (s3.1+1))) fun x3=>ai5 (D4 s3.2 s3.1) fun x4=>ai5 (am4 s3.2 s3.1 x3) fun l=>ai5 (D4 l (o4 (s3.1+1))) fun _=>ai5 (am4 l (o4 (s3.1+1)) x4) fun l2=>some l2) fun(f2:List α)=>some (.inl (o4 (s3.1+1),f2)))else(some (.inr (.inl (s3.1,s3.2))))
def bS2 {α:Type}(data:List α)(m2:Int)(cmp:α->α->Option Int)(s5:Int×Int):Option ((Int×Int)⊕((Int×Int)⊕Empty)):=
 bif (decide (s5.1<s5.2))then(ai5 (D4 data m2) fun x6=>ai5 (D4 data (o4 (F4 .u64 (aX3.wrap (o4 (s5.1+s5.2))) 1))) fun x7=>ai5 (cmp x6 x7) fun v2=>bif (!(decide (v2<0)))then(some (.inl (o4 ((o4 (F4 .u64 (aX3.wrap (o4 (s5.1+s5.2))) 1))+1),s5.2)))else(some (.inl (s5.1,o4 (F4 .u64 (aX3.wrap (o4 (s5.1+s5.2))) 1)))))else(some (.inr (.inl (s5.1,s5.2))))
def bS3 {α:Type}(s6:Int×Int)(s7:Int×List α):Option ((Int×List α)⊕((Int×List α)⊕Empty)):=
 bif (decide (s7.1>s6.1))then(ai5 (ai5 (D4 s7.2 (o4 (s7.1-1))) fun x8=>ai5 (D4 s7.2 s7.1) fun x9=>ai5 (am4 s7.2 s7.1 x8) fun l3=>ai5 (D4 l3 (o4 (s7.1-1))) fun _=>ai5 (am4 l3 (o4 (s7.1-1)) x9) fun l4=>some l4) fun(f3:List α)=>some (.inl (o4 (s7.1-1),f3)))else(some (.inr (.inl (s7.1,s7.2))))
def bS4 {α:Type}(data:List α)(a:Int)(m2:Int)(b2:Int)(cmp:α->α->Option Int)(s10:Int×Int):Option ((Int×Int)⊕((Int×Int)⊕Empty)):=
 bif (decide (s10.1<s10.2))then(ai5 (D4 data (o4 ((o4 ((o4 ((o4 (F4 .u64 (aX3.wrap (o4 (a+b2))) 1))+m2))-1))-(o4 (F4 .u64 (aX3.wrap (o4 (s10.1+s10.2))) 1))))) fun x11=>ai5 (D4 data (o4 (F4 .u64 (aX3.wrap (o4 (s10.1+s10.2))) 1))) fun x12=>ai5 (cmp x11 x12) fun v3=>bif (!(decide (v3<0)))then(some (.inl (o4 ((o4 (F4 .u64 (aX3.wrap (o4 (s10.1+s10.2))) 1))+1),s10.2)))else(some (.inl (s10.1,o4 (F4 .u64 (aX3.wrap (o4 (s10.1+s10.2))) 1)))))else(some (.inr (.inl (s10.1,s10.2))))
def bZ0 {α:Type}(rc:List α->Int->Int->Int->(α->α->Option Int)->Option (List α))(data:List α)(a:Int)(m2:Int)(b2:Int)(cmp:α->α->Option Int):Option (List α):=
 bif ((o4 (m2-a))==1)then(ai5 (L5 (bS0 data a cmp) (m2,b2)) fun(t:(Int×Int)⊕Empty)=>match t with| .inl s2=>(ai5 (L5 (bS1 s2) (a,data)) fun(t:(Int×List α)⊕Empty)=>match t with| .inl s4=>(some s4.2)| .inr r=>r.elim)| .inr r=>r.elim)else(bif ((o4 (b2-m2))==1)then(ai5 (L5 (bS2 data m2 cmp) (a,m2)) fun(t:(Int×Int)⊕Empty)=>match t with| .inl s6=>(ai5 (L5 (bS3 s6) (m2,data)) fun(t:(Int×List α)⊕Empty)=>match t with| .inl s8=>(some s8.2)| .inr r=>r.elim)| .inr r=>r.elim)else(ai5 (bif (decide (m2>(o4 (F4 .u64 (aX3.wrap (o4 (a+b2))) 1))))then(some (o4 ((o4 ((o4 (F4 .u64 (aX3.wrap (o4 (a+b2))) 1))+m2))-b2),o4 (F4 .u64 (aX3.wrap (o4 (a+b2))) 1)))else(some (a,m2))) fun(s9:Int×Int)=>ai5 (L5 (bS4 data a m2 b2 cmp) (s9.1,s9.2)) fun(t:(Int×Int)⊕Empty)=>match t with| .inl s11=>(ai5 (bif ((decide (s11.1<m2))&&(decide (m2<(o4 ((o4 ((o4 (F4 .u64 (aX3.wrap (o4 (a+b2))) 1))+m2))-s11.1)))))then(ai5 (cF0 data s11.1 m2 (o4 ((o4 ((o4 (F4 .u64 (aX3.wrap (o4 (a+b2))) 1))+m2))-s11.1)) cmp) fun v4=>some v4)else(some data)) fun(f4:List α)=>ai5 (bif ((decide (a<s11.1))&&(decide (s11.1<(o4 (F4 .u64 (aX3.wrap (o4 (a+b2))) 1)))))then(ai5 (rc f4 a s11.1 (o4 (F4 .u64 (aX3.wrap (o4 (a+b2))) 1)) cmp) fun v5=>some v5)else(some f4)) fun(f5:List α)=>bif ((decide ((o4 (F4 .u64 (aX3.wrap (o4 (a+b2))) 1))<(o4 ((o4 ((o4 (F4 .u64 (aX3.wrap (o4 (a+b2))) 1))+m2))-s11.1))))&&(decide ((o4 ((o4 ((o4 (F4 .u64 (aX3.wrap (o4 (a+b2))) 1))+m2))-s11.1))<b2)))then(ai5 (rc f5 (o4 (F4 .u64 (aX3.wrap (o4 (a+b2))) 1)) (o4 ((o4 ((o4 (F4 .u64 (aX3.wrap (o4 (a+b2))) 1))+m2))-s11.1)) b2 cmp) fun v6=>some v6)else(some f5))| .inr r=>r.elim))
def bf3 {α:Type}:Nat->List α->Int->Int->Int->(α->α->Option Int)->Option (List α)
 |0=>fun _ _ _ _ _=>none
 |fu+1=>bZ0 (bf3 fu)
def bb4 {α:Type}(n2:Int)(cmp:α->α->Option Int)(s:Int×Int×List α):Option ((Int×Int×List α)⊕((Int×Int×List α)⊕Empty)):=
 bif (decide (s.2.1<=n2))then(ai5 (ah8 s.2.2 s.1 s.2.1 cmp) fun v=>some (.inl (s.2.1,o4 (s.2.1+20),v)))else(some (.inr (.inl (s.1,s.2.1,s.2.2))))
def ce8 {α:Type}(n2:Int)(cmp:α->α->Option Int)(s3:Int×List α)(s4:Int×Int×List α):Option ((Int×Int×List α)⊕((Int×Int×List α)⊕Empty)):=
 bif (decide (s4.2.1<=n2))then(ai5 (bf3 64 s4.2.2 s4.1 (o4 (s4.1+s3.1)) s4.2.1 cmp) fun v3=>some (.inl (s4.2.1,o4 (s4.2.1+(o4 (2*s3.1))),v3)))else(some (.inr (.inl (s4.1,s4.2.1,s4.2.2))))
def bb5 {α:Type}(n2:Int)(cmp:α->α->Option Int)(s3:Int×List α):Option ((Int×List α)⊕((Int×List α)⊕Empty)):=
 bif (decide (s3.1<n2))then(ai5 (L5 (ce8 n2 cmp s3) (0,o4 (2*s3.1),s3.2)) fun(t:(Int×Int×List α)⊕Empty)=>match t with| .inl s5=>(bif (decide ((o4 (s5.1+s3.1))<n2))then(ai5 (bf3 64 s5.2.2 s5.1 (o4 (s5.1+s3.1)) n2 cmp) fun v4=>some (.inl (o4 (s3.1*2),v4)))else(some (.inl (o4 (s3.1*2),s5.2.2))))| .inr r=>r.elim)else(some (.inr (.inl (s3.1,s3.2))))
def bo9 {α:Type}(data:List α)(n2:Int)(cmp:α->α->Option Int):Option (List α):=
 ai5 (L5 (bb4 n2 cmp) (0,20,data)) fun(t:(Int×Int×List α)⊕Empty)=>match t with| .inl s2=>(ai5 (ah8 s2.2.2 s2.1 n2 cmp) fun v2=>ai5 (L5 (bb5 n2 cmp) (20,v2)) fun(t:(Int×List α)⊕Empty)=>match t with| .inl s6=>(some s6.2)| .inr r=>r.elim)| .inr r=>r.elim
def aU9 {α:Type}(x:List α)(cmp:α->α->Option Int):Option (List α):=
 ai5 (bo9 x (x.length:Int) cmp) fun v=>some v
section
variable {α β:Type}
theorem bS5 (P:List α)(x:α)(R:List α){i:Int}(h:i=(P.length:Int)):D4 (P++x::R) i=some x:=by
 subst h;rw[T5,List.getElem?_append_right (cq9 _),Nat.sub_self];rfl
theorem dz8 (P:List α)(x y:α)(R:List α){i:Int}(h:i=(P.length:Int)):am4 (P++x::R) i y=some (P++y::R):=by
 subst h;rw[T6 _ _ _ (by simp),List.set_append_right _ _ (cq9 _),Nat.sub_self];rfl
theorem fe7 (P:List α)(x y:α)(Q:List α){i j:Int}(hi:i=(P.length:Int))(hj:j=(P.length:Int)+1)(k:List α->Option β):
  (ai5 (ai5 (D4 (P++x::y::Q) i) fun u=>ai5 (D4 (P++x::y::Q) j) fun v=>ai5 (am4 (P++x::y::Q) j u) fun l=>ai5 (D4 l i) fun _=>ai5 (am4 l i v) fun l2=>some l2) k)=k (P++y::x::Q):=by
 have e:∀z w:α,P++z::w::Q=(P++[z])++w::Q:=fun z w=>by simp
 have hj2:∀z:α,j=((P++[z]).length:Int):=fun z=>by rw[aY1,cr0];omega
 have g1:D4 (P++x::y::Q) j=some y:=by rw[e];exact bS5 _ _ _ (hj2 x)
 have s1:am4 (P++x::y::Q) j x=some (P++x::x::Q):=by rw[e,e];exact dz8 _ _ _ _ (hj2 x)
 rw[bS5 _ _ _ hi,aH3,g1,aH3,s1,aH3,bS5 _ _ _ hi,aH3,dz8 _ _ _ _ hi]
 rfl
end
section
variable {α:Type} {D:α -> Prop} {g:α -> α -> Option Int}
structure SW (D:α->Prop)(g:α->α->Option Int):Prop where
 ans:∀x y,D x->D y->∃c,g x y=some c
 asym:∀x y,D x->D y->ltM g x y=true->ltM g y x=false
 ntrans:∀x y z,D x->D y->D z->ltM g x y=false->ltM g y z=false->ltM g x z=false
theorem SW.cmp (h:SW D g){x y:α}(hx:D x)(hy:D y):∃c,g x y=some c/\decide (c<0)=ltM g x y:=by
 obtain⟨c,hc⟩:=h.ans x y hx hy
 exact⟨c,hc,by unfold ltM;rw[hc];rfl⟩
abbrev bM7 (D:α->Prop)(l:List α):Prop:=∀x∈l,D x
def eqv (g:α->α->Option Int)(x y:α):Bool:=!ltM g x y&& !ltM g y x
structure Sta (D:α->Prop)(g:α->α->Option Int)(l r:List α):Prop where
 perm:r.Perm l
 same:∀x,D x->r.filter (eqv g x)=l.filter (eqv g x)
abbrev Srt (g:α->α->Option Int)(l:List α):Prop:=l.Pairwise fun x y=>ltM g y x=false
theorem Sta.refl (l:List α):Sta D g l l:=⟨.refl _,fun _ _=>rfl⟩
theorem Sta.trans {l r s:List α}(h:Sta D g l r)(k:Sta D g r s):Sta D g l s:=⟨k.perm.trans h.perm,fun x hx=>(k.same x hx).trans (h.same x hx)⟩
theorem Sta.app {A A' B B':List α}(h:Sta D g A A')(k:Sta D g B B'):Sta D g (A++B) (A'++B'):=
 ⟨h.perm.append k.perm,fun x hx=>by rw[cV9,cV9,h.same x hx,k.same x hx]⟩
theorem Sta.len {l r:List α}(h:Sta D g l r):r.length=l.length:=h.perm.length_eq
theorem Sta.all {l r:List α}(h:Sta D g l r)(hl:bM7 D l):bM7 D r:=fun x hx=>hl x (h.perm.mem_iff.1 hx)
theorem Sta.swap (hs:SW D g){A B:List α}(hA:bM7 D A)(hB:bM7 D B)(h:∀a∈A,∀b∈B,ltM g b a=true):Sta D g (A++B) (B++A):=by
 refine⟨List.perm_append_comm,fun x hx=>?_⟩
 rw[cV9,cV9]
 by_cases he:∃a∈A,eqv g x a=true
 ·obtain⟨a,ha,hxa⟩:=he
  have:B.filter (eqv g x)=[]:=by
   rw[eq3]
   intro b hb hxb
   unfold eqv at hxa hxb
   simp only[aJ5,bO4]at hxa hxb
   have:=hs.ntrans b x a (hB b hb) hx (hA a ha) hxb.2 hxa.1
   rw[h a ha b hb]at this
   cases this
  rw[this,cL8,cV6]
 ·have:A.filter (eqv g x)=[]:=by
   rw[eq3]
   intro a ha hxa
   exact he ⟨a,ha,hxa⟩
  rw[this,cL8,cV6]
theorem Srt.app {A B:List α}(hA:Srt g A)(hB:Srt g B)(h:∀a∈A,∀b∈B,ltM g b a=false):Srt g (A++B):=ey9.2 ⟨hA,hB,h⟩
theorem SW.irr (hs:SW D g){x:α}(hx:D x):ltM g x x=false:=by
 cases h:ltM g x x
 ·rfl
 ·have:=hs.asym x x hx hx h;rw[h]at this;cases this
theorem dY1 (hs:SW D g)(a:Int):∀(n:Nat) (R1:List α),R1.length=n->∀(P:List α) (x:α) (R2 Q:List α),a=(P.length:Int)->bM7 D R1->D x->bM7 D R2->Srt g (R1++R2)->(∀r∈R2,ltM g x r=true)->P.length+R1.length<=1073741824->
  ∃(j:Int) (R':List α),L5 (ai3 a g) ((P.length:Int)+(R1.length:Int),P++(R1++x::(R2++Q)))=some (.inl (j,P++(R'++Q)))/\Srt g R'/\Sta D g (R1++x::R2) R':=by
 intro n
 induction n with
 |zero=>
  intro R1 h1 P x R2 Q ha _ hx hR2 hsrt hlt hN
  have:R1=[]:=List.length_eq_zero_iff.1 h1
  subst this
  refine⟨(P.length:Int)+((0:Nat):Int),x::R2,E0 ?_,?_,Sta.refl _⟩
  ·unfold ai3
   simp only[cr1]
   rw[show decide ((P.length:Int)+((0:Nat):Int)>a)=false from fk3 (by omega)]
   rfl
  ·rw[Srt,ee3]
   exact⟨fun r hr=>hs.asym x r hx (hR2 r hr) (hlt r hr),by simpa using hsrt⟩
 |succ n ih=>
  intro R1 h1 P x R2 Q ha hR1 hx hR2 hsrt hlt hN
  have hne:R1≠[]:=by intro h;subst h;simp at h1
  obtain⟨S,y,rfl⟩:∃S y,R1=S++[y]:=⟨R1.dropLast,R1.getLast hne,(List.dropLast_concat_getLast hne).symm⟩
  rw[aY1,cr0]at h1 hN
  have hy:D y:=hR1 y (by simp)
  have hS:bM7 D S:=fun z hz=>hR1 z (by simp[hz])
  obtain⟨c,hc,hcl⟩:=hs.cmp hx hy
  have e1:P++(S++[y]++x::(R2++Q))=(P++S)++y::x::(R2++Q):=by simp
  have e2:P++(S++[y]++x::(R2++Q))=(P++S++[y])++x::(R2++Q):=by simp
  have hj:(P.length:Int)+(((S++[y]).length:Nat):Int)=(P.length:Int)+(S.length:Int)+1:=by rw[aY1,cr0];omega
  have hb:ai3 a g ((P.length:Int)+(((S++[y]).length:Nat):Int),P++(S++[y]++x::(R2++Q)))=some (bif ltM g x y then .inl ((P.length:Int)+(S.length:Int),P++(S++x::(y::R2++Q)))else .inr (.inl ((P.length:Int)+(S.length:Int)+1,P++(S++[y]++x::(R2++Q))))):=by
   unfold ai3
   simp only
   rw[hj,j6 (n:=(P.length:Int)+(S.length:Int)+1-1) (by omega) (by omega),show(P.length:Int)+(S.length:Int)+1-1=(P.length:Int)+(S.length:Int) by omega]
   rw[show decide ((P.length:Int)+(S.length:Int)+1>a)=true from fk0 (by omega)]
   have g1:D4 (P++(S++[y]++x::(R2++Q))) ((P.length:Int)+(S.length:Int)+1)=some x:=by rw[e2];exact bS5 _ _ _ (by simp only[aY1,cr0];omega)
   have g2:D4 (P++(S++[y]++x::(R2++Q))) ((P.length:Int)+(S.length:Int))=some y:=by rw[e1];exact bS5 _ _ _ (by simp only[aY1];omega)
   have sw:=fe7 (P++S) y x (R2++Q) (i:=(P.length:Int)+(S.length:Int)) (j:=(P.length:Int)+(S.length:Int)+1) (by simp only[aY1];omega) (by simp only[aY1];omega) (fun(f2:List α)=>some (Sum.inl ((P.length:Int)+(S.length:Int),f2):(Int×List α)⊕((Int×List α)⊕Empty)))
   rw[<-e1]at sw
   simp only[fj8]
   rw[sw,g1,aH3,g2,aH3,hc,aH3,hcl,aH3]
   cases ltM g x y
   ·rfl
   ·simp
  cases hxy:ltM g x y
  ·rw[hxy]at hb
   refine⟨(P.length:Int)+(S.length:Int)+1,S++[y]++x::R2,?_,?_,Sta.refl _⟩
   ·rw[E0 hb];simp
   ·have h2:=ey9.1 hsrt
    refine Srt.app h2.1 ?_ fun p hp q hq=>?_
    ·rw[Srt,ee3]
     exact⟨fun r hr=>hs.asym x r hx (hR2 r hr) (hlt r hr),h2.2.1⟩
    ·rcases ch6.1 hq with rfl|hq
     ·rcases cI5.1 hp with hp|hp
      ·have h3:=(ey9.1 h2.1).2.2 p hp y (by simp)
       exact hs.ntrans q y p hx hy (hS p hp) hxy h3
      ·rw[List.mem_singleton]at hp;subst hp;exact hxy
     ·exact h2.2.2 p hp q hq
  ·rw[hxy]at hb
   rw[G9 hb]
   obtain⟨j,R',r1,r2,r3⟩:=ih S (by omega) P x (y::R2) Q ha hS hx (fun z hz=>by rcases ch6.1 hz with rfl|hz;exact hy;exact hR2 z hz) (by simpa using hsrt) (fun r hr=>by
    rcases ch6.1 hr with rfl|hr
    ·exact hxy
    ·exact hlt r hr) (by omega)
   refine⟨j,R',r1,r2,Sta.trans ?_ r3⟩
   have h4:Sta D g ([y]++[x]) ([x]++[y]):=Sta.swap hs (fun z hz=>by simp at hz;subst hz;exact hy) (fun z hz=>by simp at hz;subst hz;exact hx) (fun p hp q hq=>by simp at hp hq;subst hp;subst hq;exact hxy)
   have h5:=Sta.app (Sta.refl (D:=D) (g:=g) S) (Sta.app h4 (Sta.refl R2))
   simpa using h5
theorem de0 (hs:SW D g)(a b:Int)(P Q:List α)(ha:a=(P.length:Int)):∀(T R:List α),b=(P.length:Int)+(R.length:Int)+(T.length:Int)->bM7 D R->bM7 D T->Srt g R->P.length+R.length+T.length<=1073741824->
  ∃R',L5 (Z6 a b g) ((P.length:Int)+(R.length:Int),P++(R++(T++Q)))=some (.inl (b,P++(R'++Q)))/\Srt g R'/\Sta D g (R++T) R'
 |[],R,hb,_,_,hR,_=>by
  refine⟨R,E0 ?_,hR,by rw[cV6];exact Sta.refl _⟩
  unfold Z6
  simp only[cr1]at hb
  simp only
  rw[show decide ((P.length:Int)+(R.length:Int)<b)=false from fk3 (by omega),show(P.length:Int)+(R.length:Int)=b by omega]
  simp
 |x::T,R,hb,dR,dT,hR,hN=>by
  simp only[bq0]at hb hN
  obtain⟨j,R1,r1,r2,r3⟩:=dY1 hs a R.length R rfl P x [] (T++Q) ha dR (dT x (bx8 ..)) (fun z hz=>by cases hz) (by rw[cV6];exact hR) (fun z hz=>by cases hz) (by omega)
  have hl:R1.length=R.length+1:=by have:=r3.len;simpa using this
  obtain⟨R',s1,s2,s3⟩:=de0 hs a b P Q ha T R1 (by omega) (r3.all (fun z hz=>by
   rcases cI5.1 hz with hz|hz
   ·exact dR z hz
   ·simp at hz;subst hz;exact dT z (by simp))) (fun z hz=>dT z (by simp[hz])) r2 (by omega)
  refine⟨R',?_,s2,Sta.trans ?_ s3⟩
  ·rw[<-s1]
   refine G9 ?_
   unfold Z6
   simp only
   rw[show decide ((P.length:Int)+(R.length:Int)<b)=true from fk0 (by omega),j6 (n:=(P.length:Int)+(R.length:Int)+1) (by omega) (by omega)]
   simp only[fj8]
   have e:P++(R++(x::T++Q))=P++(R++x::([]++(T++Q))):=by simp
   rw[e,r1]
   simp only[aH3]
   rw[hl,show(P.length:Int)+((R.length+1:Nat):Int)=(P.length:Int)+(R.length:Int)+1 by omega]
  ·have:=Sta.app r3 (Sta.refl (D:=D) (g:=g) T)
   simpa using this
theorem dl4 (hs:SW D g)(P A Q:List α){a b:Int}(ha:a=(P.length:Int))(hb:b=(P.length:Int)+(A.length:Int))(dA:bM7 D A)(hN:P.length+A.length<=1073741824):
  ∃R,ah8 (P++(A++Q)) a b g=some (P++(R++Q))/\Srt g R/\Sta D g A R:=by
 unfold ah8
 rw[j6 (n:=a+1) (by omega) (by omega)]
 cases A with
 |nil=>
  refine⟨[],?_,.nil,Sta.refl _⟩
  simp only[cr1]at hb
  have:Z6 a b g (a+1,P++([]++Q))=some (.inr (.inl (a+1,P++([]++Q)))):=by
   unfold Z6
   simp only
   rw[show decide (a+1<b)=false from fk3 (by omega)]
   rfl
  rw[E0 this];rfl
 |cons x T=>
  simp only[bq0]at hb hN
  obtain⟨R',s1,s2,s3⟩:=de0 hs a b P Q ha T [x] (by simp only[cr0];omega) (fun z hz=>by simp at hz;subst hz;exact dA z (by simp)) (fun z hz=>dA z (by simp[hz])) (by simp) (by simp only[cr0];omega)
  refine⟨R',?_,s2,s3⟩
  simp only[cr0]at s1
  rw[show a+1=(P.length:Int)+((1:Nat):Int) by omega]
  have e:P++(x::T++Q)=P++([x]++(T++Q)):=by simp
  rw[e,s1]
  rfl
end
section
variable {α:Type} {D:α -> Prop} {g:α -> α -> Option Int}
end
section
variable {α:Type} {D:α -> Prop} {g:α -> α -> Option Int}
end
section
variable {α:Type} {D:α -> Prop} {g:α -> α -> Option Int}
structure fm5 (D:α->Prop)(g:α->α->Option Int)(bs:Nat)(L:List α)(Bs:List (List α))(T:List α):Prop where
 eq:L=Bs.flatten++T
 blk:∀B∈Bs,B.length=bs/\Srt g B
 rest:T.length<bs
theorem bX6 (hs:SW D g)(l:List α)(dl:bM7 D l)(h19:l.length<=19):∃r,aU9 l g=some r/\Srt g r/\Sta D g l r:=by
 obtain⟨R,r1,r2,r3⟩:=dl4 hs [] l [] (a:=0) (b:=(l.length:Int)) rfl (by simp) dl (by simp;omega)
 simp only[cV6,cL8]at r1
 unfold aU9 bo9
 have h1:decide ((20:Int)<=(l.length:Int))=false:=by simp;omega
 have h2:decide ((20:Int)<(l.length:Int))=false:=by simp;omega
 rw[E0 (b:=.inl (0,20,l)) (by unfold bb4;rw[h1];rfl)]
 simp only[aH3]
 rw[r1]
 simp only[aH3]
 rw[E0 (b:=.inl (20,R)) (by unfold bb5;rw[h2];rfl)]
 exact⟨R,rfl,r2,r3⟩
theorem dA3 (hs:SW D g):∀{r s:List α},bM7 D r->bM7 D s->Srt g r->Srt g s->(∀x,D x->r.filter (eqv g x)=s.filter (eqv g x))->r=s
 |[],[],_,_,_,_,_=>rfl
 |[],y::s,_,ds,_,_,h=>by
  have dy:=ds y (by simp)
  have:=h y dy
  rw[ez7,dQ1 (by unfold eqv;rw[hs.irr dy];rfl)]at this
  cases this
 |x::r,[],dr,_,_,_,h=>by
  have dx:=dr x (by simp)
  have:=h x dx
  rw[ez7,dQ1 (by unfold eqv;rw[hs.irr dx];rfl)]at this
  cases this
 |x::r,y::s,dr,ds,sr,ss,h=>by
  have dx:=dr x (by simp)
  have dy:=ds y (by simp)
  have exx:eqv g x x=true:=by unfold eqv;rw[hs.irr dx];rfl
  have eyy:eqv g y y=true:=by unfold eqv;rw[hs.irr dy];rfl
  rw[Srt,ee3]at sr ss
  have hx:=h x dx
  have hy:=h y dy
  have mx:x∈(y::s).filter (eqv g x):=by rw[<-hx,dQ1 exx];exact bx8 ..
  have my:y∈(x::r).filter (eqv g y):=by rw[hy,dQ1 eyy];exact bx8 ..
  have m1:=(dK5.1 mx).1
  have m2:=(dK5.1 my).1
  have exy:eqv g x y=true:=by
   have a1:ltM g x y=false:=by
    rcases ch6.1 m1 with e|m1
    ·rw[e];exact hs.irr dy
    ·exact ss.1 x m1
   have a2:ltM g y x=false:=by
    rcases ch6.1 m2 with e|m2
    ·rw[e];exact hs.irr dx
    ·exact sr.1 y m2
   unfold eqv;rw[a1,a2];rfl
  have hxy:x=y:=by
   rw[dQ1 exx,dQ1 exy]at hx
   exact(List.cons.inj hx).1
  subst hxy
  rw[dA3 hs (fun z hz=>dr z (by simp[hz])) (fun z hz=>ds z (by simp[hz])) sr.2 ss.2 fun z dz=>by
   have:=h z dz
   rw[dC9,dC9]at this
   split at this
   ·exact(List.cons.inj this).2
   ·exact this]
end
def elB (n:Int):Bool:=decide (n>= -1073741824)&&decide (n<=1073741824)
theorem cN2 (n:Int):ab6 n=some (elB n):=rfl
def axP (l:List Int)(i:Nat):Bool:=match l[i]?with
 |none=>false
 |some x=>elB x&&(i==0||(match l[i-1]?with|none=>false|some y=>decide (y<x)))
def axB (l:List Int):Bool:=!(decide ((l.length:Int)<2)||decide ((l.length:Int)>32))&&(dR5 0 l.length).all (axP l)
theorem ey2 (k:Nat)(h:k<1000000):o4 (((k+1:Nat):Int)-1)=(k:Int):=by rw[j6 (by omega) (by omega)];omega
theorem obs {α:Type}(o:Option α):(o.bind fun b=>some b)=o:=by cases o<;>rfl
theorem dV4 (l:List Int)(j:Nat)(hj:j<l.length)(hl:l.length<=32):
  (ai5 (D4 l j) fun x=>ai5 (ab6 x) fun v=>ai5 (bif (!v)then(some true)else(ai5 (bif (decide ((j:Int)>0))then(ai5 (D4 l (o4 (j-1))) fun x2=>some (decide (x<=x2)))else(some false)) fun b2=>some b2)) fun b3=>some b3)=some (!axP l j):=by
 rw[T5,aK2 hj]
 simp only[aH3,cN2]
 unfold axP
 rw[aK2 hj]
 simp only
 cases elB l[j]
 ·rfl
 ·simp only[aP9,fj6,cI4]
  cases j with
  |zero=>rfl
  |succ k=>
   have e:decide (((k+1:Nat):Int)>0)=true:=by rw[fk4];omega
   have hk:k<l.length:=by omega
   rw[e,ey2 k (by omega),T5,aK2 hk]
   simp only[fj8,aH3,fj1,aK2 hk,aI5]
   rw[dC6]
   simp
theorem dN5 (l:List Int):ar4 l=some (axB l):=by
 unfold ar4 axB
 cases h:(decide ((l.length:Int)<2)||decide ((l.length:Int)>32))
 ·have hl:l.length<=32:=by simp at h;omega
  have k:=bw1 (f:=ay5 l) (p:=axP l) (r:=false) l.length 0 (fun j _ hj=>by
   have s:=dV4 l j (by omega) hl
   unfold ay5
   rw[T5,aK2 (by omega)]at s|-
   simp only[aH3,cN2]at s|-
   simp only[obs]at s|-
   rw[s]
   cases axP l j<;>rfl)
  rw[al5 _ (by omega)]
  rw[show((0:Nat):Int)=0 from rfl]at k
  rw[k]
  cases(dR5 0 l.length).all (axP l)<;>rfl
 ·rfl
theorem ee0 (z:Int):ah4 z=some (!elB z):=rfl
theorem contains_eq (l:List Int)(hn:l.length<=9223372036854775807):o7 l ah4=some (l.any fun z=>!elB z):=
 ai0 l hn ah4 _ (fun y _=>ee0 y)
def aE4 (m:SMap)(x:List Int):Bool:=!((x.length:Int) !=(m.Y.length:Int))&& !(x.any fun z=>!elB z)
def bp0 (m:SMap):Bool:=axB m.X&&axB m.Y&& !((m.Z.length:Int) !=(m.X.length:Int))&&m.Z.all (aE4 m)
theorem cG2 {l:List Int}(h:axB l=true):2<=l.length/\l.length<=32:=by
 unfold axB at h
 simp at h
 omega
theorem ao1 (m:SMap):J4 m=some (bp0 m):=by
 unfold J4 bp0
 rw[dN5,dN5]
 simp only[aH3]
 cases h1:axB m.X
 ·rfl
 ·cases h2:axB m.Y
  ·rfl
  ·have l1:=cG2 h1
   have l2:=cG2 h2
   simp only[aP9,fj6,aH3,dQ6,eW8,cI4]
   cases h3:((m.Z.length:Int) !=(m.X.length:Int))
   ·have l3:m.Z.length=m.X.length:=by simp at h3;omega
    rw[K8 _ (by omega),bL1 (p:=aE4 m) (r:=false)]
    ·simp only[fj6,cI0,cI4,aH3]
     cases m.Z.all (aE4 m)<;>rfl
    ·intro i y hy
     unfold aC1 aE4
     cases h4:((y.length:Int) !=(m.Y.length:Int))
     ·have l4:y.length=m.Y.length:=by simp at h4;omega
      rw[contains_eq y (by omega)]
      simp only[fj6,aH3,cI0,cI4]
      cases(y.any fun z=>!elB z)<;>rfl
     ·rfl
   ·rfl
structure bz7 (l:List Int):Prop where
 two:2<=l.length
 most:l.length<=32
 el:∀i (h:i<l.length),-1073741824<=l[i]/\l[i]<=1073741824
 asc:∀i (h:i+1<l.length),l[i]<l[i+1]
theorem cG3 {l:List Int}(h:axB l=true):bz7 l:=by
 obtain⟨h2,h3⟩:=cG2 h
 unfold axB at h
 rw[aJ5,bN8]at h
 have hp:∀i (hi:i<l.length),axP l i=true:=fun i hi=>h.2 i (by rw[eO1];exact⟨i,hi,by omega⟩)
 refine⟨h2,h3,fun i hi=>?_,fun i hi=>?_⟩
 ·have:=hp i hi
  unfold axP at this
  rw[aK2 hi]at this
  simp[elB]at this
  omega
 ·have:=hp (i+1) hi
  unfold axP at this
  rw[aK2 hi,fj1,aK2 (by omega:i<l.length)]at this
  simp at this
  exact this.2
theorem bz7.lt {l:List Int}(h:bz7 l):∀(j i:Nat) (hj:j<l.length) (hi:i<j),l[i]<l[j]
 |0,_,_,hi=>absurd hi (by omega)
 |j+1,i,hj,hi=>by
  rcases da9 i j with h1|h1
  ·exact Int.lt_trans (h.lt j i (by omega) h1) (h.asc j hj)
  ·have:i=j:=by omega
   subst this
   exact h.asc i hj
theorem bz7.le {l:List Int}(h:bz7 l)(j i:Nat)(hj:j<l.length)(hi:i<=j):l[i]<=l[j]:=by
 rcases da9 i j with h1|h1
 ·exact Int.le_of_lt (h.lt j i hj h1)
 ·have:i=j:=by omega
  subst this
  exact do8 _
def lim (l:List Int)(x:Int):Int:=min (max x (l.headD 0)) (l.getLastD 0)
theorem bE2 (l:List Int)(h:0<l.length):l.headD 0=l[0]:=by cases l with
 |nil=>simp at h
 |cons a l=>rfl
theorem bf4 (l:List Int)(h:0<l.length):l.getLastD 0=l[l.length-1]:=by
 cases l with
 |nil=>simp at h
 |cons a l=>rw[List.getLastD_cons,<-List.getLast_eq_getElem (List.cons_ne_nil a l),List.getLast_eq_getLastD]
theorem dI5 {l:List Int}(h:bz7 l)(x:Int):l.headD 0<=lim l x/\lim l x<=l.getLastD 0:=by
 have h2:=h.two
 have:=h.le (l.length-1) 0 (by omega) (by omega)
 unfold lim
 rw[bE2 l (by omega),bf4 l (by omega)]
 omega
def bl7 (l:List Int)(v:Int)(i:Nat):Prop:=∃h:i+1<l.length,l[i]<=v/\v<=l[i+1]/\(i+2=l.length\/v<l[i+1])
def nd (l:List Int)(i:Nat):Int:=l.getD i 0
def zz (m:SMap)(i j:Nat):Int:=(m.Z.getD i []).getD j 0
theorem N5 {l:List Int}{i:Nat}(h:i<l.length):nd l i=l[i]:=by unfold nd;rw[cW2,aK2 h];rfl
theorem bV8 {m:SMap}{i j:Nat}(h:i<m.Z.length)(h2:j<m.Z[i].length):zz m i j=m.Z[i][j]:=by
 unfold zz
 have e:m.Z.getD i []=m.Z[i]:=by rw[cW2,aK2 h];rfl
 rw[e,cW2,aK2 h2];rfl
structure cZ3 (m:SMap):Prop where
 x:bz7 m.X
 y:bz7 m.Y
 zl:m.Z.length=m.X.length
 rl:∀i (h:i<m.Z.length),m.Z[i].length=m.Y.length
 el:∀i j,i<m.X.length->j<m.Y.length-> -1073741824<=zz m i j/\zz m i j<=1073741824
theorem ca3 {m:SMap}(h:bp0 m=true):cZ3 m:=by
 unfold bp0 at h
 simp only[aJ5,bO4,bN8]at h
 obtain⟨⟨⟨hx,hy⟩,hz⟩,hr⟩:=h
 have lz:m.Z.length=m.X.length:=by simp at hz;omega
 have len:∀r∈m.Z,r.length=m.Y.length/\∀z∈r,-1073741824<=z/\z<=1073741824:=by
  intro r hrm
  have:=hr r hrm
  unfold aE4 at this
  simp[elB]at this
  refine⟨by omega,fun z hz=>?_⟩
  have:=this.2 z hz
  omega
 refine⟨cG3 hx,cG3 hy,lz,fun i hi=>(len _ (ba6 hi)).1,fun i j hi hj=>?_⟩
 have hiz:i<m.Z.length:=by omega
 have:=len _ (ba6 hiz)
 have hj':j<m.Z[i].length:=by omega
 rw[bV8 hiz hj']
 exact this.2 _ (ba6 hj')
theorem dN4 {l:List Int}:axB l=true↔bz7 l:=by
 refine⟨cG3,fun h=>?_⟩
 have h2:=h.two
 have h3:=h.most
 unfold axB
 rw[aJ5,bN8]
 refine⟨by simp;omega,fun i hi=>?_⟩
 rw[eO1]at hi
 obtain⟨j,hj,rfl⟩:=hi
 have hj':0+1*j=j:=by omega
 rw[hj']
 unfold axP
 rw[aK2 hj]
 have e:=h.el j hj
 cases j with
 |zero=>simp[elB];omega
 |succ k=>
  have a:=h.asc k hj
  rw[fj1,aK2 (by omega:k<l.length)]
  simp[elB];omega
theorem bc3 {a b:Bool}(h:a=true↔b=true):a=b:=dC6.2 h
theorem ap7 (l:List Int)(hn:l.length<=9223372036854775807)(f:Int->Option Bool)(p:Int->Bool)(h:∀y∈l,f y=some (p y)):o7 l f=some (l.any p):=
 ai0 l hn f p h
theorem em2 (n:Int):aB4 n=some (!elB n):=by
 unfold aB4 elB
 rw[aI5,dC6]
 simp only[cG1,bO4,fe8,fk4,fk7]
 omega
theorem ej0 (l:List Int):aL9 l=some (axB l):=by
 unfold aL9
 cases h:(decide ((l.length:Int)<2)||decide ((l.length:Int)>32))
 ·have hl:2<=l.length/\l.length<=32:=by simp at h;omega
  rw[fj6,ap7 l (by omega) aB4 _ (fun y _=>em2 y)]
  simp only[aH3]
  cases hf:(l.any fun n=>!elB n)
  ·have cm1:∀i (hi:i<l.length),-1073741824<=l[i]/\l[i]<=1073741824:=fun i hi=>by
    rw[ds5]at hf
    have:=hf _ (ba6 hi)
    simp[elB]at this
    omega
   have e:o4 ((l.length:Int)-1)=((l.length-1:Nat):Int):=by rw[j6 (by omega) (by omega)];omega
   have k:=bw1 (f:=aH5 l) (p:=fun j=>decide (nd l j<nd l (j+1))) (r:=false) (l.length-1) 0 (fun j _ hj=>by
    unfold aH5
    rw[j6 (by omega) (by omega),show(j:Int)+1=((j+1:Nat):Int)from rfl,C7 l j (by omega),aH3,C7 l (j+1) (by omega),aH3,N5 (by omega),N5 (by omega)]
    by_cases q:l[j]<l[j+1]
    ·rw[fk0 q,fk3 (by omega)];rfl
    ·rw[fk3 q,fk0 (by omega)];rfl)
   rw[show((0:Nat):Int)=0 from rfl]at k
   rw[fj6,e,al5 _ (by omega),k]
   have:((dR5 0 (l.length-1)).all fun j=>decide (nd l j<nd l (j+1)))=axB l:=by
    apply bc3
    rw[dN4,bN8]
    constructor
    ·intro q
     refine⟨hl.1,hl.2,cm1,fun i hi=>?_⟩
     have:=q i (by rw[eO1];exact⟨i,by omega,by omega⟩)
     rw[fk4,N5 (by omega),N5 hi]at this
     exact this
    ·intro q i hi
     rw[eO1]at hi
     obtain⟨j,hj,rfl⟩:=hi
     rw[show 0+1*j=j by omega,fk4,N5 (by omega),N5 (by omega)]
     exact q.asc j (by omega)
   rw[this]
   cases axB l<;>rfl
  ·have:axB l=false:=by
    cases q:axB l
    ·rfl
    ·have:=(dN4.1 q).el
     rw[List.any_eq_true]at hf
     obtain⟨z,hz,hz2⟩:=hf
     obtain⟨i,hi,rfl⟩:=cY8.1 hz
     have:=this i hi
     simp[elB]at hz2
     omega
   rw[this]
   rfl
 ·unfold axB
  rw[h]
  rfl
def bx0 (c:Q0):Bool:=((c.X.length:Int)==(c.Y.length:Int))&&axB c.X&& !(c.Y.any fun n=>!elB n)
theorem ap9 (c:Q0):P2 c=some (bx0 c):=by
 unfold P2 bx0
 cases h:((c.X.length:Int)==(c.Y.length:Int))
 ·rfl
 ·rw[fj8,ej0]
  simp only[aH3,cI4]
  cases h2:axB c.X
  ·rfl
  ·have:=cG2 h2
   have hl:c.Y.length=c.X.length:=by simp at h;omega
   rw[fj8,ap7 c.Y (by omega) aB4 _ (fun y _=>em2 y)]
   rfl
structure dM7 (c:Q0):Prop where
 x:bz7 c.X
 yl:c.Y.length=c.X.length
 el:∀i,i<c.X.length-> -1073741824<=nd c.Y i/\nd c.Y i<=1073741824
theorem bm4 {c:Q0}(h:bx0 c=true):dM7 c:=by
 unfold bx0 at h
 simp only[aJ5,bO4,ds5]at h
 obtain⟨⟨h1,h2⟩,h3⟩:=h
 have hl:c.Y.length=c.X.length:=by simp at h1;omega
 refine⟨cG3 h2,hl,fun i hi=>?_⟩
 rw[N5 (by omega)]
 have:=h3 _ (ba6 (by omega:i<c.Y.length))
 simp[elB]at this
 omega
theorem cM8 {mb:Int->Option (Int⊕(Int⊕Bool))}(bad:Nat->Bool):∀(k:Nat),(∀i:Nat,i<k->mb ((i+1:Nat):Int)=some (bif bad i then .inr (.inr false)else .inl (i:Int)))->(∀i:Int,i<=0->mb i=some (.inr (.inl i)))->
  ∃t:Int⊕Bool,L5 mb (k:Int)=some t/\(match t with| .inl _=>∀i,i<k->bad i=false| .inr r=>r=false/\∃i,i<k/\bad i=true)
 |0,_,h0=>⟨.inl 0,E0 (h0 0 (do8 _)),fun i hi=>absurd hi (by omega)⟩
 |k+1,h,h0=>by
  have h1:=h k (by omega)
  cases hb:bad k
  ·rw[hb]at h1
   obtain⟨t,a,b⟩:=cM8 bad k (fun i hi=>h i (by omega)) h0
   refine⟨t,by rw[G9 h1];exact a,?_⟩
   cases t with
   |inl i=>
    exact fun i hi=>by
     rcases da9 i k with q|q
     ·exact b i q
     ·have:i=k:=by omega
      subst this;exact hb
   |inr r=>exact⟨b.1,b.2.imp fun i hi=>⟨by omega,hi.2⟩⟩
  ·rw[hb]at h1
   exact⟨.inr false,E0 h1,rfl,k,by omega,hb⟩
def cC9 (l:List Int):Bool:=(dR5 0 (l.length-1)).all fun j=>decide (nd l j<=nd l (j+1))
def cz6 (l:List Int):Bool:=(dR5 0 (l.length-1)).all fun j=>decide (nd l (j+1)<=nd l j)
theorem bj6 {n:Nat}{p:Nat->Bool}:(dR5 0 n).all p=true↔∀i,i<n->p i=true:=by
 rw[bN8]
 constructor
 ·exact fun h i hi=>h i (by rw[eO1];exact⟨i,hi,by omega⟩)
 ·intro h i hi
  rw[eO1]at hi
  obtain⟨j,hj,rfl⟩:=hi
  rw[show 0+1*j=j by omega]
  exact h j hj
theorem cR9 {l:List Int}(h:l.length<=9223372036854775807)(h0:0<l.length):o4 ((l.length:Int)-1)=((l.length-1:Nat):Int):=by rw[j6 (by omega) (by omega)];omega
theorem cA8 (l:List Int)(h:l.length<=9223372036854775807):P4 l=some (cC9 l):=by
 have h0:∀i:Int,i<=0->Q4 l i=some (.inr (.inl i)):=fun i hi=>by
  unfold Q4
  rw[fk3 (by omega)];rfl
 unfold P4
 rcases dO8 l.length with hz|hz
 ·have e:o4 ((l.length:Int)-1)= -1:=by rw[hz];decide
  rw[e,E0 (h0 (-1) (by omega))]
  unfold cC9
  rw[hz];rfl
 ·rw[cR9 h hz]
  obtain⟨t,a,b⟩:=cM8 (mb:=Q4 l) (fun i=>decide (nd l (i+1)<nd l i)) (l.length-1) (fun i hi=>by
   unfold Q4
   rw[fk0 (by omega),fj8,C7 l (i+1) (by omega),aH3,j6 (by omega) (by omega),show((i+1:Nat):Int)-1=(i:Int) by omega,C7 l i (by omega),aH3,N5 (by omega),N5 (by omega)]
   have e:cmp_Less_int l[i+1] l[i]=some (decide (l[i+1]<l[i])):=by
    unfold cmp_Less_int cmp_isNaN_int
    simp
   rw[e,aH3]
   cases decide (l[i+1]<l[i])<;>rfl) h0
  rw[a]
  cases t with
  |inl i=>
   have:cC9 l=true:=bj6.2 fun i hi=>by
    have:=b i hi
    rw[fk7]at this
    rw[fk4];omega
   rw[this];rfl
  |inr r=>
   obtain⟨rfl,i,hi,q⟩:=b
   have:cC9 l=false:=by
    cases z:cC9 l
    ·rfl
    ·have:=bj6.1 z i hi
     rw[fk4]at this q
     omega
   rw[this];rfl
theorem de1 (l:List Int)(h:l.length<=9223372036854775807)(hb:∀i,i<l.length-> -1073741824<=nd l i/\nd l i<=1073741824):H9 l ab7=some (cz6 l):=by
 have h0:∀i:Int,i<=0->L8 l ab7 i=some (.inr (.inl i)):=fun i hi=>by
  unfold L8
  rw[fk3 (by omega)];rfl
 unfold H9
 rcases dO8 l.length with hz|hz
 ·have e:o4 ((l.length:Int)-1)= -1:=by rw[hz];decide
  rw[e,E0 (h0 (-1) (by omega))]
  unfold cz6
  rw[hz];rfl
 ·rw[cR9 h hz]
  obtain⟨t,a,b⟩:=cM8 (mb:=L8 l ab7) (fun i=>decide (nd l i<nd l (i+1))) (l.length-1) (fun i hi=>by
   unfold L8
   rw[fk0 (by omega),fj8,C7 l (i+1) (by omega),aH3,j6 (by omega) (by omega),show((i+1:Nat):Int)-1=(i:Int) by omega,C7 l i (by omega),aH3,<-N5 (by omega),<-N5 (by omega)]
   have b1:=hb i (by omega)
   have b2:=hb (i+1) (by omega)
   have e:ab7 (nd l (i+1)) (nd l i)=some (nd l i-nd l (i+1)):=by
    unfold ab7
    rw[j6 (by omega) (by omega)]
   rw[e,aH3]
   by_cases q:nd l i<nd l (i+1)
   ·rw[fk0 q,fk0 (by omega)];rfl
   ·rw[fk3 q,fk3 (by omega)];rfl) h0
  rw[a]
  cases t with
  |inl i=>
   have:cz6 l=true:=bj6.2 fun i hi=>by
    have:=b i hi
    rw[fk7]at this
    rw[fk4];omega
   rw[this];rfl
  |inr r=>
   obtain⟨rfl,i,hi,q⟩:=b
   have:cz6 l=false:=by
    cases z:cz6 l
    ·rfl
    ·have:=bj6.1 z i hi
     rw[fk4]at this q
     omega
   rw[this];rfl
def inR (lo hi x:Int):Bool:=decide (x>=lo)&&decide (x<=hi)
theorem cR3 (l:List Int)(h:l.length<=9223372036854775807)(lo hi:Int):ag9 l lo hi=some (!l.all (inR lo hi)):=by
 unfold ag9
 rw[ap7 l h (fun x0=>ao0 x0 lo hi) (fun x=>!inR lo hi x) (fun y _=>rfl)]
 have:(l.any fun x=>!inR lo hi x)= !l.all (inR lo hi):=by rw[dO9];simp
 rw[this];rfl
def aZ4 (t:o8):Bool:=bp0 t.p7&&bx0 t.C3&&t.C3.Y.all (inR 0 1000)&&cz6 t.C3.Y&&t.p7.Z.all fun r=>r.all (inR 0 10000)&&cC9 r
theorem bp5 (t:o8):ai1 t=some (aZ4 t):=by
 unfold ai1 aZ4
 rw[ao1]
 cases h1:bp0 t.p7
 ·rfl
 ·have hm:=ca3 h1
  simp only[aH3,aP9,fj6,cI4,ap9]
  cases h2:bx0 t.C3
  ·rfl
  ·have hc:=bm4 h2
   have l1:=hc.x.most
   have l2:=hc.yl
   simp only[aP9,fj6,cI4]
   rw[cR3 _ (by omega)]
   cases h3:t.C3.Y.all (inR 0 1000)
   ·rfl
   ·simp only[aH3,aP9,fj6,cI4]
    rw[de1 _ (by omega) (fun i hi=>hc.el i (by omega))]
    cases h4:cz6 t.C3.Y
    ·rfl
    ·simp only[aH3,aP9,fj6,cI4]
     have k:G0 t.p7.Z ak9=some (t.p7.Z.any fun r=>!(r.all (inR 0 10000)&&cC9 r)):=
      ai0 t.p7.Z (by have:=hm.zl;have:=hm.x.most;omega) ak9 _ (fun r hr=>by
       obtain⟨i,hi,rfl⟩:=cY8.1 hr
       have lr:t.p7.Z[i].length<=32:=by rw[hm.rl i hi];exact hm.y.most
       unfold ak9
       rw[cR3 _ (by omega),aH3,cA8 _ (by omega)]
       cases t.p7.Z[i].all (inR 0 10000)<;>cases cC9 t.p7.Z[i]<;>rfl)
     rw[k,aH3,dO9]
     simp
theorem dE6 {l : List Int} (h : cC9 l = true) : ∀ (j i : Nat), i <= j -> j < l.length -> nd l i <= nd l j
  | 0, i, hi, _ => by have : i = 0 := by omega
                      subst this; exact do8 _
  | j + 1, i, hi, hj => by
    rcases da9 i (j + 1) with q | q
    · have a := dE6 h j i (by omega) (by omega)
      have b := bj6.1 h j (by omega)
      rw [fk4] at b
      omega
    · have : i = j + 1 := by omega
      subst this; exact do8 _
def cI9 (r:List Int):Bool:=r.all (inR 0 1048576)&&cC9 r
def cW3 (t:o8):Bool:=bp0 t.Air&&bx0 t.L7&&t.Air.Z.all cI9&&t.L7.Y.all (inR 100 3000)
theorem af4 (x lo hi:Int):I5 x lo hi=some (inR lo hi x):=rfl
theorem dq2 {r:List Int}(h0:0<r.length)(ha:cC9 r=true):(inR 0 1048576 (nd r 0)&&inR 0 1048576 (nd r (r.length-1)))=r.all (inR 0 1048576):=by
 apply bc3
 rw[aJ5,bN8]
 unfold inR
 constructor
 ·rintro⟨a,b⟩ x hx
  obtain⟨i,hi,rfl⟩:=cY8.1 hx
  have u:=dE6 ha i 0 (by omega) hi
  have v:=dE6 ha (r.length-1) i (by omega) (by omega)
  rw[N5 hi]at u v
  rw[aJ5,fk4,fk4]at*
  omega
 ·intro h
  rw[N5 h0,N5 (by omega:r.length-1<r.length)]
  exact⟨h _ (ba6 _),h _ (ba6 _)⟩
theorem bG8 (t:o8):aB1 t=some (cW3 t):=by
 unfold aB1 cW3
 rw[ao1]
 cases h1:bp0 t.Air
 ·rfl
 ·have hm:=ca3 h1
  simp only[aH3,aP9,fj6,cI4,ap9]
  cases h2:bx0 t.L7
  ·rfl
  ·have hc:=bm4 h2
   have l1:=hc.x.most
   have l2:=hc.yl
   have zl:=hm.zl
   have xm:=hm.x.most
   have ym:=hm.y.most
   have y2:=hm.y.two
   simp only[aP9,fj6,cI4]
   rw[K8 _ (by omega),bL1 (p:=cI9) (r:=false)]
   ·cases h3:t.Air.Z.all cI9
    ·rfl
    ·rw[fj8,aH3]
     simp only
     rw[ap7 _ (by omega) aK6 (fun y=>!inR 100 3000 y) (fun y _=>rfl),aH3,dO9,eD9]
     simp only[eD9,cI4]
   ·intro i r hr
    obtain⟨k,hk,rfl⟩:=cY8.1 hr
    have rl:=hm.rl k hk
    unfold aT6 cI9
    rw[cA8 _ (by omega),aH3]
    cases h4:cC9 t.Air.Z[k]
    ·rw[fh4];rfl
    ·have g0:D4 t.Air.Z[k] 0=some (t.Air.Z[k][0]'(by omega)):=C7 _ 0 (by omega)
     rw[aP9,fj6,eW8,g0,cR9 (by omega) (by omega),C7 _ _ (by omega:t.Air.Z[k].length-1<t.Air.Z[k].length),<-N5,<-N5,<-dq2 (by omega) h4]
     simp only[aH3,af4]
     cases inR 0 1048576 (nd t.Air.Z[k] 0)<;>cases inR 0 1048576 (nd t.Air.Z[k] (t.Air.Z[k].length-1))<;>rfl
def bK9 (t:o8):Bool:=bp0 t.O0&&bx0 t.ae7&&(t.O0.Z.all fun r=>r.all (inR (-1280) 3840))&&t.ae7.Y.all (inR 500 10000)
def cA4 (g:aW0):Bool:=((((((decide (g.P>=0))&&(decide (g.P<=65536)))&&(decide (g.I>=0)))&&(decide (g.I<=65536)))&&(decide (g.Low>=(-1073741824))))&&(decide (g.Low<=g.bs5)))&&(decide (g.bs5<=1073741824))
def cd8 (t:o8):Bool:=cW3 t&&bK9 t&&aZ4 t&&(bx0 t.aw2&&t.aw2.Y.all (inR 0 10000))&&bp0 t.aI4&&cA4 t.ae6
theorem be7 (l:List Int)(h:l.length<=9223372036854775807)(lo hi:Int):af7 l lo hi=some (l.all (inR lo hi)):=by
 unfold af7
 rw[ap7 l h (fun x0=>aA1 x0 lo hi) (fun x=>!inR lo hi x) (fun y _=>rfl),aH3,dO9,eD9]
 simp only[eD9]
theorem bi2 (t:o8):ab9 t=some (cd8 t):=by
 unfold ab9 cd8 bK9
 rw[bG8,bp5,ao1,ao1,ap9,ap9,show Q3 t.ae6=some (cA4 t.ae6)from rfl]
 simp only[aH3]
 cases cW3 t
 ·rfl
 cases aZ4 t
 ·simp only[aP9,cI0,fj6,fj8,aH3,fh4,ez1]
 cases h1:bp0 t.O0
 ·rfl
 cases bp0 t.aI4
 ·simp only[aP9,cI0,fj6,fj8,aH3,fh4,ez1]
 cases h2:bx0 t.ae7
 ·rfl
 cases h3:bx0 t.aw2
 ·simp only[aP9,cI0,fj6,fj8,aH3,fh4,ez1]
 have hm:=ca3 h1
 have zl:=hm.zl
 have xm:=hm.x.most
 have ym:=hm.y.most
 have a1:=(bm4 h2).x.most
 have a2:=(bm4 h2).yl
 have b1:=(bm4 h3).x.most
 have b2:=(bm4 h3).yl
 simp only[aP9,fj6,aH3,cI4,eW8]
 rw[K8 _ (by omega),bL1 (p:=fun r=>r.all (inR (-1280) 3840)) (r:=false)]
 ·rw[be7 _ (by omega),be7 _ (by omega)]
  cases t.O0.Z.all fun r=>r.all (inR (-1280) 3840)
  ·rfl
  ·cases t.ae7.Y.all (inR 500 10000)<;>cases t.aw2.Y.all (inR 0 10000)<;>rfl
 ·intro i r hr
  obtain⟨k,hk,rfl⟩:=cY8.1 hr
  have rl:=hm.rl k hk
  unfold aB3
  rw[be7 _ (by omega),aH3]
  cases t.O0.Z[k].all (inR (-1280) 3840)<;>rfl
theorem dI8 (v:Bool)(q q':Int)(f:Int->Option (Int×Int))(h:(bif v then some (aX3.wrap (q+1))else some q)=some q')(h0:0<=q')(h1:q'<9223372036854775808):
  (ai5 (some v) fun v4=>ai5 (bif v4 then(some (aX3.wrap (q+1)))else(some q)) fun(q:Int)=>bif (false&&(decide (q<=9223372036854775808)))then f q else(bif ((!false)&&(decide (q<9223372036854775808)))then(some (o4 q,0))else(some (0,9))))=some (q',0):=by
 have e:decide (q'<9223372036854775808)=true:=fk0 h1
 rw[aH3,h,aH3,ez1,fj6,cI0,cI4,e,fj8,j6 (by omega) (by omega)]
theorem bL3 {n:Int}(h0:0<=n)(h1:n<18446744073709551616):aX3.wrap n=n:=by
 unfold IntKind.wrap
 simp only[IntKind.bits,IntKind.signed]
 simp only[show(2:Int)^64=18446744073709551616 from rfl,ez1,do9,if_false]
 omega
theorem aC7 (x lo hi:Int):C6 x lo hi=some (F5 (G7 x lo) hi):=rfl
theorem bJ7 (n:Int)(h0: -9223372036854775808<=n)(h1:n<=9223372036854775807):U7 n=some (n.natAbs:Int):=by
 unfold U7
 by_cases h:n<0
 ·simp only[h,decide_true,fj8,aI5]
  rw[j6 (n:=n+1) (by omega) (by omega),j6 (n:=0-(n+1)) (by omega) (by omega),bL3 (n:=0-(n+1)) (by omega) (by omega),bL3 (by omega) (by omega)]
  omega
 ·simp only[h,decide_false,fj6,aI5]
  rw[bL3 (by omega) (by omega)]
  omega
theorem el3 (lo y:Nat)(h0:lo<18446744073709551616)(h1:0<y):al3 0 lo y=some (((lo/y:Nat):Int),((lo%y:Nat):Int)):=by
 unfold al3
 have e1:((y:Int)==0)=false:=by
  have:¬(y:Int)=0:=by omega
  simpa using this
 have e2:decide ((y:Int)<=0)=false:=by simp;omega
 have e3:¬(y:Int)=0:=by omega
 simp only[e1,e2,fj6,aH3,bn5,cg1,if_neg e3]
 have q1:(lo:Int).tdiv y=((lo/y:Nat):Int):=rfl
 have q2:(lo:Int).tmod y=((lo%y:Nat):Int):=rfl
 have q3:lo/y<=lo:=Nat.div_le_self _ _
 rw[q1,q2]
 generalize lo/y=q at q3|-
 rw[bL3 (by omega) (by omega),show((0:Int)==0)=true from rfl,fj8]
theorem bX2 (a c mode:Int)(ha0: -9223372036854775808<=a)(ha1:a<=9223372036854775807)(hc0:0<c)(hc1:c<=9223372036854775807)(hm:mode=1\/mode=2):
  az0 a 1 c mode=some (if mode=1 then a/c else -((-a)/c),0):=by
 unfold az0
 have m1:((decide (mode<1))||(decide (mode>3)))=false:=by
  rcases hm with rfl|rfl<;>rfl
 have c0:(c==0)=false:=by
  have:¬c=0:=by omega
  simpa using this
 rw[m1,c0,bJ7 a ha0 ha1,bJ7 1 (by omega) (by omega),bJ7 c (by omega) hc1]
 obtain⟨m,hm'⟩:∃m:Nat,a.natAbs=m:=⟨_,rfl⟩
 obtain⟨k,rfl⟩:∃k:Nat,c=k:=⟨c.toNat,by omega⟩
 have hk:0<k:=by omega
 have hml:m<=9223372036854775808:=by omega
 rw[hm']
 simp only[fj6,aH3,as5,cw0]
 rw[if_pos (by omega)]
 simp only[aH3]
 have e1:(m:Int)*((fj2 1:Nat):Int)/18446744073709551616=0:=by
  have:((fj2 1:Nat):Int)=1:=rfl
  rw[this];omega
 have e2:(m:Int)*((fj2 1:Nat):Int)%18446744073709551616=(m:Int):=by
  have:((fj2 1:Nat):Int)=1:=rfl
  rw[this];omega
 have e3:(((fj2 (k:Int)):Nat):Int)=(k:Int):=by omega
 have e4:decide ((0:Int)>=(k:Int))=false:=fk3 (by omega)
 rw[e1,e2,e3,e4,show(0:Int)=0 from rfl,el3 m k (by omega) hk]
 have q1:m/k<=m:=Nat.div_le_self _ _
 have q2:m%k<k:=Nat.mod_lt _ hk
 have q3:k*(m/k)+m%k=m:=Nat.div_add_mod m k
 generalize m/k=q at q1 q3|-
 generalize m%k=r at q2 q3|-
 have q4:(m:Int)=(q:Int)*(k:Int)+(r:Int):=by rw[<-q3,Int.natCast_add,Int.natCast_mul,Int.mul_comm]
 have hqk:r=0->0<m->0<q:=fun h0 h1=>by
  rcases dO8 q with h|h
  ·rw[h,h0]at q3;omega
  ·exact h
 have hql:0<r->q<9223372036854775808:=fun h0=>by
  rcases da9 q 9223372036854775808 with h|h
  ·exact h
  ·have:k*q>=1*9223372036854775808:=Nat.mul_le_mul (by omega) h
   omega
 have hql2:0<r->m<=9223372036854775807->q<9223372036854775807:=fun h0 h1=>by
  rcases da9 q 9223372036854775807 with h|h
  ·exact h
  ·have:k*q>=1*9223372036854775807:=Nat.mul_le_mul (by omega) h
   omega
 have e5:decide ((q:Int)>9223372036854775808)=false:=fk3 (by omega)
 simp only[fj6,aH3,e5]
 have d1:decide ((1:Int)<0)=false:=rfl
 have d2:decide ((k:Int)<0)=false:=fk3 (by omega)
 rw[d1,d2]
 have fl0:(m:Int)/(k:Int)=(q:Int):=by
  rw[q4,Int.add_comm,Int.add_mul_ediv_right _ _ (by omega),fb3 (by omega) (by omega)];omega
 have fl1:(-(m:Int))/(k:Int)=if r=0 then -(q:Int)else -(q:Int)-1:=by
  split
  ·rename_i h
   have:-(m:Int)=(-(q:Int))*(k:Int):=by rw[q4,Int.neg_mul,h];omega
   rw[this,Int.mul_ediv_cancel _ (by omega)]
  ·rename_i h
   have e:-(m:Int)=((k:Int)-(r:Int))+(-(q:Int)-1)*(k:Int):=by
    rw[q4,Int.sub_mul,Int.neg_mul];omega
   rw[e,Int.add_mul_ediv_right _ _ (by omega),fb3 (by omega) (by omega)];omega
 clear q3 q4
 by_cases hn:a<0
 ·have ha:a= -(m:Int):=by omega
  have e6:decide (a<0)=true:=fk0 hn
  have n1:(!(!true==false)==false)=true:=by decide
  rw[e6,n1]
  rcases hm with rfl|rfl
  · --down,of a negative number
   have r1:ak1 (r:Int) (k:Int) true 1=some (decide ((r:Int)>0)):=rfl
   rw[if_pos rfl,ha,fl1,r1]
   by_cases hr:r=0
   ·have r2:decide ((r:Int)>0)=false:=fk3 (by omega)
    have bJ2:=hqk hr (by omega)
    have r3:decide ((q:Int)<=9223372036854775808)=true:=fk0 (by omega)
    rw[if_pos hr,r2]
    simp only[aH3,fj6,r3]
    rw[bL3 (n:=(q:Int)-1) (by omega) (by omega),j6 (n:=(q:Int)-1) (by omega) (by omega),j6 (n:=0-((q:Int)-1)) (by omega) (by omega),j6 (n:=0-((q:Int)-1)-1) (by omega) (by omega)]
    simp only[cI4,fj8,aP9,ez1,fj6]
    rw[show 0-((q:Int)-1)-1= -(q:Int) by omega]
   ·have r2:decide ((r:Int)>0)=true:=fk0 (by omega)
    have hlt:=hql (by omega)
    have r3:decide ((q:Int)+1<=9223372036854775808)=true:=fk0 (by omega)
    rw[if_neg hr,r2]
    simp only[aH3,fj8]
    rw[bL3 (n:=(q:Int)+1) (by omega) (by omega),r3,show(q:Int)+1-1=q by omega]
    rw[bL3 (n:=(q:Int)) (by omega) (by omega),j6 (n:=(q:Int)) (by omega) (by omega),j6 (n:=0-(q:Int)) (by omega) (by omega),j6 (n:=0-(q:Int)-1) (by omega) (by omega)]
    simp only[cI4,fj8,aP9,ez1,fj6]
    rw[show 0-(q:Int)-1= -(q:Int)-1 by omega]
  · --up,of a negative number
   have r1:ak1 (r:Int) (k:Int) true 2=some false:=rfl
   rw[if_neg (by decide),ha,Int.neg_neg,fl0,r1]
   have r3:decide ((q:Int)<=9223372036854775808)=true:=fk0 (by omega)
   simp only[aH3,fj6,r3]
   rcases dO8 q with hz|hz
   ·have w1:aX3.wrap (((0:Nat):Int)-1)=18446744073709551615:=by decide
    have w2:o4 18446744073709551615= -1:=by decide
    have w3:o4 (0- -1)=1:=by decide
    have w4:o4 (1-1)=0:=by decide
    rw[hz,w1,w2,w3,w4]
    rfl
   ·rw[bL3 (n:=(q:Int)-1) (by omega) (by omega),j6 (n:=(q:Int)-1) (by omega) (by omega),j6 (n:=0-((q:Int)-1)) (by omega) (by omega),j6 (n:=0-((q:Int)-1)-1) (by omega) (by omega)]
    simp only[cI4,fj8,aP9,ez1,fj6]
    rw[show 0-((q:Int)-1)-1= -(q:Int) by omega]
 ·have ha:a=(m:Int):=by omega
  have e6:decide (a<0)=false:=fk3 hn
  have n1:(!(!false==false)==false)=false:=by decide
  rw[e6,n1]
  rcases hm with rfl|rfl
  ·have r1:ak1 (r:Int) (k:Int) false 1=some false:=rfl
   rw[if_pos rfl,ha,fl0,r1]
   exact dI8 false q q _ rfl (by omega) (by omega)
  ·have r1:ak1 (r:Int) (k:Int) false 2=some (decide ((r:Int)>0)):=rfl
   rw[if_neg (by decide),ha,fl1,r1]
   by_cases hr:r=0
   ·have r2:decide ((r:Int)>0)=false:=fk3 (by omega)
    rw[if_pos hr,r2,Int.neg_neg]
    exact dI8 false q q _ rfl (by omega) (by omega)
   ·have r2:decide ((r:Int)>0)=true:=fk0 (by omega)
    have hlt:=hql2 (by omega) (by omega)
    rw[if_neg hr,r2,show -(-(q:Int)-1)=(q:Int)+1 by omega]
    exact dI8 true q (q+1) _ (by rw[fj8,bL3 (by omega) (by omega)]) (by omega) (by omega)
theorem bR9 (a c:Int)(ha0: -9223372036854775808<=a)(ha1:a<=9223372036854775807)(hc0:0<c)(hc1:c<=9223372036854775807):V3 a c=some (a/c):=by
 unfold V3 am7
 rw[bX2 a c 1 ha0 ha1 hc0 hc1 (.inl rfl)]
 rfl
theorem aS5 (n:Nat)(hn:n<=2305843009213693951)(f:Int->Option Bool)(p:Nat->Bool)(hf:∀i,i<n->f (i:Int)=some (p i)):
  ∃k:Nat,k<=n/\P8 (n:Int) f=some (k:Int)/\(0<k->p (k-1)=false)/\(k<n->p k=true):=by
 have key:∀(m i j:Nat),j-i<=m->i<=j->j<=n->(0<i->p (i-1)=false)->(j<n->p j=true)->
   ∃k:Nat,k<=n/\L5 (ab4 f) ((i:Int),(j:Int))=some (.inl ((k:Int),(k:Int)))/\(0<k->p (k-1)=false)/\(k<n->p k=true):=by
  intro m
  induction m with
  |zero=>
   intro i j hm hij hjn h1 h2
   have:i=j:=by omega
   subst this
   refine⟨i,hjn,E0 ?_,h1,h2⟩
   unfold ab4
   rw[show decide (((i:Int),(i:Int)).1<((i:Int),(i:Int)).2)=false from fk3 (by simp)]
   rfl
  |succ m ih=>
   intro i j hm hij hjn h1 h2
   rcases da9 i j with hlt|hge
   ·have hh:o4 (F4 .u64 (aX3.wrap (o4 ((i:Int)+(j:Int)))) 1)=(((i+j)/2:Nat):Int):=by
     rw[eD6 (by omega) (by omega)];omega
    have hi:(i+j)/2<n:=by omega
    have hb:ab4 f ((i:Int),(j:Int))=some (bif p ((i+j)/2)then .inl ((i:Int),(((i+j)/2:Nat):Int))else .inl ((((i+j)/2+1:Nat):Int),(j:Int))):=by
     unfold ab4
     rw[show decide (((i:Int),(j:Int)).1<((i:Int),(j:Int)).2)=true from fk0 (by show(i:Int)<(j:Int);omega)]
     simp only[fj8,hh,hf _ hi,aH3]
     cases p ((i+j)/2)
     ·simp only[cI0,fj8,fj6]
      rw[j6 (by omega) (by omega)];rfl
     ·rfl
    cases hp:p ((i+j)/2)
    ·rw[hp]at hb
     rw[G9 hb]
     exact ih ((i+j)/2+1) j (by omega) (by omega) hjn (fun _=>by simpa using hp) h2
    ·rw[hp]at hb
     rw[G9 hb]
     exact ih i ((i+j)/2) (by omega) (by omega) (by omega) h1 (fun _=>hp)
   ·have:i=j:=by omega
    subst this
    exact ih i i (by omega) (cq9 _) hjn h1 h2
 obtain⟨k,a,b,c,d⟩:=key n 0 n (by omega) (Nat.zero_le _) (cq9 _) (fun h=>absurd h (by omega)) (fun h=>absurd h (by omega))
 refine⟨k,a,?_,c,d⟩
 unfold P8
 rw[show((0:Nat):Int)=0 from rfl]at b
 rw[b]
 rfl
theorem aq3 (a b:Int):F5 a b=min a b:=by unfold F5;split<;>omega
theorem ao3 (a b:Int):G7 a b=max a b:=by unfold G7;split<;>omega
def itp (x0 x1 y0 y1 x:Int):Int:=y0+((x-x0)*(y1-y0))/(x1-x0)
theorem bi8 {x0 x1 y0 y1 x lo hi:Int}(h0:x0<=x)(h1:x<=x1)(h:x0<x1)(a0:lo<=y0)(a1:y0<=hi)(b0:lo<=y1)(b1:y1<=hi):lo<=itp x0 x1 y0 y1 x/\itp x0 x1 y0 y1 x<=hi:=by
 unfold itp
 have hd:0<x1-x0:=by omega
 have e:0<=x-x0:=by omega
 have e2:x-x0<=x1-x0:=by omega
 constructor
 ·have:lo-y0<=((x-x0)*(y1-y0))/(x1-x0):=by
   rw[Int.le_ediv_iff_mul_le hd]
   have m1:(x-x0)*(lo-y0)<=(x-x0)*(y1-y0):=ec5 (by omega) e
   have m2:(x1-x0)*(lo-y0)<=(x-x0)*(lo-y0):=Int.mul_le_mul_of_nonpos_right e2 (by omega)
   rw[Int.mul_comm (lo-y0)]
   omega
  omega
 ·have:((x-x0)*(y1-y0))/(x1-x0)<=hi-y0:=by
   have m1:(x-x0)*(y1-y0)<=(x-x0)*(hi-y0):=ec5 (by omega) e
   have m2:(x-x0)*(hi-y0)<=(x1-x0)*(hi-y0):=Int.mul_le_mul_of_nonneg_right e2 (by omega)
   have:=Int.ediv_le_ediv hd (Int.le_trans m1 m2)
   rw[Int.mul_ediv_cancel_left _ (by omega)]at this
   exact this
  omega
theorem dv6 (x0 x1 y0 y1:Int):itp x0 x1 y0 y1 x0=y0:=by
 unfold itp;rw[Int.sub_self,Int.zero_mul,Int.zero_ediv,Int.add_zero]
theorem de3 {x0 x1 y0 y1:Int}(h:x0<x1):itp x0 x1 y0 y1 x1=y1:=by
 unfold itp;rw[Int.mul_ediv_cancel_left _ (by omega)];omega
theorem es0 {a b:Int}(a0:0<=a)(a1:a<=2147483648)(b0:-2147483648<=b)(b1:b<=2147483648):-4611686018427387904<=a*b/\a*b<=4611686018427387904:=by
 constructor
 ·have m1:a*(-2147483648)<=a*b:=ec5 b0 a0
  omega
 ·have m1:a*b<=a*2147483648:=ec5 b1 a0
  omega
theorem cJ6 {x0 x1 y0 y1 x:Int}(h0:x0<=x)(h1:x<=x1)(h:x0<x1)(hx0:-1073741824<=x0)(hx1:x1<=1073741824)(a0:-1073741824<=y0)(a1:y0<=1073741824)(b0:-1073741824<=y1)(b1:y1<=1073741824):
  ab5 x0 x1 y0 y1 x=some (itp x0 x1 y0 y1 x):=by
 have hb:=bi8 (lo:=-1073741824) (hi:=1073741824) h0 h1 h a0 a1 b0 b1
 have hp:=es0 (a:=x-x0) (b:=y1-y0) (by omega) (by omega) (by omega) (by omega)
 unfold ab5
 rw[j6 (n:=x-x0) (by omega) (by omega),j6 (n:=y1-y0) (by omega) (by omega),j6 (n:=x1-x0) (by omega) (by omega),j6 (n:=(x-x0)*(y1-y0)) (by omega) (by omega),
  bR9 _ _ (by omega) (by omega) (by omega) (by omega),aH3]
 unfold itp at hb|-
 rw[j6 (by omega) (by omega)]
theorem cg6 {l:List Int}(h:bz7 l)(x:Int):∃i:Nat,bl7 l (lim l x) i/\W8 l x=some ((i:Int),lim l x):=by
 have h2:=h.two
 have h3:=h.most
 have hb:=dI5 h x
 rw[bE2 l (by omega),bf4 l (by omega)]at hb
 obtain⟨k,k1,k2,k3,k4⟩:=aS5 l.length (by omega) (fun x0=>ae5 x0 l (lim l x)) (fun i=>decide (l.getD i 0>lim l x)) (fun i hi=>by
  unfold ae5
  rw[C7 l i hi,cW2,aK2 hi];rfl)
 have gd:∀i (hi:i<l.length),l.getD i 0=l[i]:=fun i hi=>by rw[cW2,aK2 hi];rfl
 have hk0:0<k:=by
  rcases dO8 k with h0|h0
  ·have:=k4 (by omega)
   rw[fk4,gd k (by omega)]at this
   subst h0
   omega
  ·exact h0
 have dX7:=k3 hk0
 rw[fk7,gd (k-1) (by omega)]at dX7
 have hseg:W8 l x=some (((min (k-1) (l.length-2):Nat):Int),lim l x):=by
  unfold W8
  have e1:D4 l 0=some (l.headD 0):=by
   have:=C7 l 0 (by omega)
   rw[bE2 l (by omega)];exact this
  have e2:D4 l (o4 ((l.length:Int)-1))=some (l.getLastD 0):=by
   rw[j6 (by omega) (by omega),show(l.length:Int)-1=((l.length-1:Nat):Int) by omega,C7 l _ (by omega),bf4 l (by omega)]
  have e3:F5 (G7 x (l.headD 0)) (l.getLastD 0)=lim l x:=by rw[aq3,ao3];rfl
  rw[e1,e2,aH3,aH3,aC7,aH3,e3,k2,aH3,j6 (by omega) (by omega),j6 (by omega) (by omega),aq3]
  congr 2
  omega
 rcases da9 k l.length with hk|hk
 ·have hhi:=k4 hk
  rw[fk4,gd k hk]at hhi
  have e:min (k-1) (l.length-2)=k-1:=by omega
  rw[e]at hseg
  refine⟨k-1,⟨by omega,by omega,?_,.inr ?_⟩,hseg⟩
  ·simp only[Nat.sub_add_cancel (show 1<=k from hk0)];omega
  ·simp only[Nat.sub_add_cancel (show 1<=k from hk0)];omega
 ·have e:min (k-1) (l.length-2)=l.length-2:=by omega
  rw[e]at hseg
  have hl:k-1=l.length-1:=by omega
  have hlow':¬l[l.length-1]>lim l x:=by simpa only[hl]using dX7
  have hs:l.length-2+1=l.length-1:=by omega
  refine⟨l.length-2,⟨by omega,?_,?_,.inl (by omega)⟩,hseg⟩
  ·have:=h.le (l.length-1) (l.length-2) (by omega) (by omega)
   omega
  ·simp only[hs];omega
def along (m:SMap)(i:Nat)(v:Int)(j:Nat):Int:=itp (nd m.X i) (nd m.X (i+1)) (zz m i j) (zz m (i+1) j) v
def atV (m:SMap)(i j:Nat)(v w:Int):Int:=itp (nd m.Y j) (nd m.Y (j+1)) (along m i v j) (along m i v (j+1)) w
theorem bl7.nd {l:List Int}{v:Int}{i:Nat}(h:bl7 l v i)(ha:bz7 l):i+1<l.length/\nd l i<=v/\v<=nd l (i+1)/\nd l i<nd l (i+1)/\ -1073741824<=Pv.nd l i/\Pv.nd l (i+1)<=1073741824:=by
 obtain⟨h0,h1,h2,_⟩:=h
 rw[N5 (by omega:i<l.length),N5 h0]
 exact⟨h0,h1,h2,ha.asc i h0,(ha.el i (by omega)).1,(ha.el (i+1) h0).2⟩
theorem ci6 {m:SMap}(h:cZ3 m){i j:Nat}{v lo hi:Int}(hi':bl7 m.X v i)(a0:lo<=zz m i j)(a1:zz m i j<=hi)(b0:lo<=zz m (i+1) j)(b1:zz m (i+1) j<=hi):
  lo<=along m i v j/\along m i v j<=hi:=by
 obtain⟨k0,k1,k2,k3,_,_⟩:=hi'.nd h.x
 exact bi8 k1 k2 k3 a0 a1 b0 b1
theorem dE7 {m:SMap}(h:cZ3 m){i j:Nat}{v w lo hi:Int}(hi':bl7 m.X v i)(hj':bl7 m.Y w j)(hz:∀i j,i<m.X.length->j<m.Y.length->lo<=zz m i j/\zz m i j<=hi):
  lo<=atV m i j v w/\atV m i j v w<=hi:=by
 obtain⟨k0,k1,k2,k3,_,_⟩:=hi'.nd h.x
 obtain⟨l0,l1,l2,l3,_,_⟩:=hj'.nd h.y
 have a:=fun j hj=>ci6 h (j:=j) hi' (hz i j (by omega) hj).1 (hz i j (by omega) hj).2 (hz (i+1) j (by omega) hj).1 (hz (i+1) j (by omega) hj).2
 exact bi8 l1 l2 l3 (a j (by omega)).1 (a j (by omega)).2 (a (j+1) (by omega)).1 (a (j+1) (by omega)).2
theorem ei0 {m:SMap}(h:cZ3 m){i j:Nat}{v:Int}(hi:bl7 m.X v i)(hj:j<m.Y.length):ar3 (j:Int) m (i:Int) v=some (along m i v j):=by
 obtain⟨k0,k1,k2,k3,k4,k5⟩:=hi.nd h.x
 have lx:=h.x.most
 have hz0:i<m.Z.length:=by have:=h.zl;omega
 have hz1:i+1<m.Z.length:=by have:=h.zl;omega
 have r0:=h.rl i hz0
 have r1:=h.rl (i+1) hz1
 unfold ar3
 rw[j6 (by omega) (by omega),show(i:Int)+1=((i+1:Nat):Int)from rfl,C7 m.X i (by omega),aH3,C7 m.X (i+1) k0,aH3,C7 m.Z i hz0,aH3,C7 _ j (by omega),
  aH3,C7 m.Z (i+1) hz1,aH3,C7 _ j (by omega),aH3,<-N5 (by omega:i<m.X.length),<-N5 k0,<-bV8 hz0 (by omega),<-bV8 hz1 (by omega)]
 rw[cJ6 k1 k2 k3 k4 k5 (h.el i j (by omega) hj).1 (h.el i j (by omega) hj).2 (h.el (i+1) j k0 hj).1 (h.el (i+1) j k0 hj).2]
 rfl
theorem eY9 {m:SMap}(h:cZ3 m)(x y:Int):∃i j,bl7 m.X (lim m.X x) i/\bl7 m.Y (lim m.Y y) j/\aN0 m x y=some (atV m i j (lim m.X x) (lim m.Y y)):=by
 obtain⟨i,hi,ei⟩:=cg6 h.x x
 obtain⟨j,hj,ej⟩:=cg6 h.y y
 refine⟨i,j,hi,hj,?_⟩
 obtain⟨k0,k1,k2,k3,k4,k5⟩:=hi.nd h.x
 obtain⟨l0,l1,l2,l3,l4,l5⟩:=hj.nd h.y
 have ly:=h.y.most
 have a:=fun j hj=>ci6 h (j:=j) hi (h.el i j (by omega) hj).1 (h.el i j (by omega) hj).2 (h.el (i+1) j (by omega) hj).1 (h.el (i+1) j (by omega) hj).2
 unfold aN0
 rw[ei,ej]
 simp only[aH3]
 rw[j6 (by omega) (by omega),show(j:Int)+1=((j+1:Nat):Int)from rfl,C7 m.Y j (by omega),aH3,C7 m.Y (j+1) l0,aH3,ei0 h hi (by omega),aH3,ei0 h hi l0,aH3,
  <-N5 (by omega:j<m.Y.length),<-N5 l0,cJ6 l1 l2 l3 l4 l5 (a j (by omega)).1 (a j (by omega)).2 (a (j+1) l0).1 (a (j+1) l0).2]
 rfl
theorem ee8 {m:SMap}(h:bp0 m=true)(x y:Int):∃i j,bl7 m.X (lim m.X x) i/\bl7 m.Y (lim m.Y y) j/\X7 m x y=some (atV m i j (lim m.X x) (lim m.Y y)):=by
 obtain⟨i,j,hi,hj,e⟩:=eY9 (ca3 h) x y
 refine⟨i,j,hi,hj,?_⟩
 unfold X7
 rw[ao1,h]
 simp only[aH3,aP9,fj6]
 rw[e]
 rfl
def cuV (c:Q0)(i:Nat)(v:Int):Int:=itp (nd c.X i) (nd c.X (i+1)) (nd c.Y i) (nd c.Y (i+1)) v
theorem dK7 {l:List Int}(h:bz7 l)(x:Int):∃i,bl7 l (lim l x) i:=by
 obtain⟨i,hi,_⟩:=cg6 h x
 exact⟨i,hi⟩
theorem eS2 {l:List Int}(h:bz7 l)(x:Int):lim l x=min (max x (nd l 0)) (nd l (l.length-1)):=by
 have h2:=h.two
 unfold lim
 rw[bE2 l (by omega),bf4 l (by omega),N5 (by omega),N5 (by omega)]
theorem bz7.nlt {l:List Int}(h:bz7 l){i j:Nat}(h1:i<j)(h2:j<l.length):nd l i<nd l j:=by rw[N5 h2,N5 (by omega)];exact h.lt j i h2 h1
theorem bz7.nle {l:List Int}(h:bz7 l){i j:Nat}(h1:i<=j)(h2:j<l.length):nd l i<=nd l j:=by rw[N5 h2,N5 (by omega)];exact h.le j i h2 h1
theorem dv7 {l:List Int}(h:bz7 l){v:Int}{i:Nat}(hi:bl7 l v i)(f:Nat->Int){c:Nat}(hc:c<l.length)(e:v=nd l c):itp (nd l i) (nd l (i+1)) (f i) (f (i+1)) v=f c:=by
 obtain⟨k0,k1,k2,k3,_,_⟩:=hi.nd h
 subst e
 have c1:i<=c:=by
  rcases da9 c i with q|q
  ·have:=h.nlt q (by omega);omega
  ·exact q
 have c2:c<=i+1:=by
  rcases da9 (i+1) c with q|q
  ·have:=h.nlt q hc;omega
  ·exact q
 rcases(show c=i\/c=i+1 by omega)with rfl|rfl
 ·exact dv6 ..
 ·exact de3 k3
theorem ex9 {c:Q0}(h:dM7 c)(x:Int):∃i,bl7 c.X (lim c.X x) i/\aF2 c x=some (cuV c i (lim c.X x)):=by
 obtain⟨i,hi⟩:=dK7 h.x x
 refine⟨i,hi,?_⟩
 have h2:=h.x.two
 have h3:=h.x.most
 have hyl:=h.yl
 have hl:=eS2 h.x x
 have h0l:=h.x.nlt (i:=0) (j:=c.X.length-1) (by omega) (by omega)
 have gx0:D4 c.X 0=some (nd c.X 0):=by have:=C7 c.X 0 (by omega);rw[N5 (by omega)];exact this
 have gy0:D4 c.Y 0=some (nd c.Y 0):=by have:=C7 c.Y 0 (by omega);rw[N5 (by omega)];exact this
 have ew:o4 ((c.X.length:Int)-1)=((c.X.length-1:Nat):Int):=by rw[j6 (by omega) (by omega)];omega
 have gxl:D4 c.X ((c.X.length-1:Nat):Int)=some (nd c.X (c.X.length-1)):=by rw[C7 _ _ (by omega),N5 (by omega)]
 have gyl:D4 c.Y ((c.X.length-1:Nat):Int)=some (nd c.Y (c.X.length-1)):=by rw[C7 _ _ (by omega),N5 (by omega)]
 unfold aF2
 rw[gx0,aH3]
 by_cases q0:x<=nd c.X 0
 ·have e:=dv7 h.x hi (fun j=>nd c.Y j) (c:=0) (by omega) (by omega)
  rw[fk0 q0,fj8,gy0]
  unfold cuV
  rw[e];rfl
 ·rw[fk3 q0,fj6,ew,gxl,aH3]
  by_cases q1:x>=nd c.X (c.X.length-1)
  ·have e:=dv7 h.x hi (fun j=>nd c.Y j) (c:=c.X.length-1) (by omega) (by omega)
   rw[fk0 q1,fj8,gyl]
   unfold cuV
   rw[e];rfl
  ·have elim:lim c.X x=x:=by omega
   rw[elim]at hi|-
   obtain⟨k0,k1,k2,k3,k4,k5⟩:=hi.nd h.x
   obtain⟨k,r1,r2,r3,r4⟩:=aS5 c.X.length (by omega) (fun x0=>al0 x0 c x) (fun i=>decide (nd c.X i>x)) (fun j hj=>by
    unfold al0
    rw[C7 c.X j hj,N5 hj];rfl)
   have hk:k=i+1:=by
    have hkl:k<c.X.length:=by
     rcases da9 k c.X.length with q|q
     ·exact q
     ·have:=r3 (by omega)
      rw[fk7,show k-1=c.X.length-1 by omega]at this
      omega
    have a1:=r4 hkl
    rw[fk4]at a1
    have hk0:0<k:=by
     rcases dO8 k with q|q
     ·subst q;omega
     ·exact q
    have a2:=r3 hk0
    rw[fk7]at a2
    have b1:i<k:=by
     rcases da9 i k with q|q
     ·exact q
     ·have:=h.x.nle q (by omega);omega
    have b2:k-1<=i:=by
     rcases da9 i (k-1)with q|q
     ·have:=h.x.nle (i:=i+1) (j:=k-1) (by omega) (by omega)
      have hseg:=hi.2
      obtain⟨hh,s1,s2,s3⟩:=hi
      rcases s3 with s3|s3
      ·omega
      ·rw[<-N5 hh]at s3;omega
     ·exact q
    omega
   have es:av4 c x=some (i:Int):=by
    unfold av4
    rw[r2,aH3,j6 (by omega) (by omega),hk]
    congr 1;omega
   have hb:=bi8 (lo:=-1073741824) (hi:=1073741824) k1 k2 k3 (h.el i (by omega)).1 (h.el i (by omega)).2 (h.el (i+1) k0).1 (h.el (i+1) k0).2
   have y0:=h.el i (by omega)
   have y1:=h.el (i+1) k0
   have hp:=es0 (a:=x-nd c.X i) (b:=nd c.Y (i+1)-nd c.Y i) (by omega) (by omega) (by omega) (by omega)
   rw[fk3 q1,fj6,es,aH3,j6 (n:=(i:Int)+1) (by omega) (by omega),show(i:Int)+1=((i+1:Nat):Int)from rfl,C7 c.Y i (by omega),aH3,C7 c.X i (by omega),aH3,
    C7 c.Y (i+1) (by omega),aH3,C7 c.X (i+1) k0,aH3,<-N5,<-N5,<-N5,<-N5]
   rw[j6 (n:=x-nd c.X i) (by omega) (by omega),j6 (n:=nd c.Y (i+1)-nd c.Y i) (by omega) (by omega),j6 (n:=nd c.X (i+1)-nd c.X i) (by omega) (by omega),j6 (n:=(x-nd c.X i)*(nd c.Y (i+1)-nd c.Y i)) (by omega) (by omega),
    bR9 _ _ (by omega) (by omega) (by omega) (by omega),aH3]
   unfold cuV
   unfold itp at hb|-
   rw[j6 (by omega) (by omega)]
theorem cM7 {c:Q0}(h:dM7 c){v:Int}{i:Nat}{lo hi:Int}(hs:bl7 c.X v i)(hy:∀j,j<c.X.length->lo<=nd c.Y j/\nd c.Y j<=hi):lo<=cuV c i v/\cuV c i v<=hi:=by
 obtain⟨k0,k1,k2,k3,k4,k5⟩:=hs.nd h.x
 exact bi8 k1 k2 k3 (hy i (by omega)).1 (hy i (by omega)).2 (hy (i+1) k0).1 (hy (i+1) k0).2
theorem cd9 {c:Q0}(h:bx0 c=true)(x:Int):∃i,bl7 c.X (lim c.X x) i/\at5 c x=some (cuV c i (lim c.X x)):=by
 obtain⟨i,hi,e⟩:=ex9 (bm4 h) x
 refine⟨i,hi,?_⟩
 unfold at5
 rw[ap9,h]
 simp only[aH3,aP9,fj6]
 rw[e]
 rfl
structure eY4 (t:o8):Prop where
 m:cZ3 t.p7
 c:dM7 t.C3
 e:∀i,i<t.C3.X.length->0<=nd t.C3.Y i/\nd t.C3.Y i<=1000
 ed:∀i,i+1<t.C3.X.length->nd t.C3.Y (i+1)<=nd t.C3.Y i
 z:∀i j,i<t.p7.X.length->j<t.p7.Y.length->0<=zz t.p7 i j/\zz t.p7 i j<=10000
 za:∀i j,i<t.p7.X.length->j+1<t.p7.Y.length->zz t.p7 i j<=zz t.p7 i (j+1)
theorem dM6 {m:SMap}{i j:Nat}(h:i<m.Z.length):zz m i j=nd m.Z[i] j:=by
 have e:m.Z.getD i []=m.Z[i]:=by rw[cW2,aK2 h];rfl
 unfold zz nd
 rw[e]
theorem ex4 {t:o8}(h:aZ4 t=true):eY4 t:=by
 unfold aZ4 at h
 simp only[aJ5]at h
 obtain⟨⟨⟨⟨h1,h2⟩,h3⟩,h4⟩,h5⟩:=h
 have hm:=ca3 h1
 have hc:=bm4 h2
 rw[bN8]at h3 h5
 have zl:=hm.zl
 have yl:=hc.yl
 refine⟨hm,hc,fun i hi=>?_,fun i hi=>?_,fun i j hi hj=>?_,fun i j hi hj=>?_⟩
 ·rw[N5 (by omega)]
  have:=h3 _ (ba6 (by omega:i<t.C3.Y.length))
  simp[inR]at this;omega
 ·have:=bj6.1 h4 i (by omega)
  rw[fk4]at this
  exact this
 ·have hz:i<t.p7.Z.length:=by omega
  have:=h5 _ (ba6 hz)
  rw[aJ5,bN8]at this
  have lr:=hm.rl i hz
  have:=this.1 _ (ba6 (by omega:j<t.p7.Z[i].length))
  rw[dM6 hz,N5 (by omega)]
  simp[inR]at this;omega
 ·have hz:i<t.p7.Z.length:=by omega
  have:=h5 _ (ba6 hz)
  rw[aJ5]at this
  have lr:=hm.rl i hz
  have:=bj6.1 this.2 j (by omega)
  rw[fk4]at this
  rw[dM6 hz,dM6 hz]
  exact this
theorem dC1 {t:o8}(h:aZ4 t=true):bp0 t.p7=true:=by
 unfold aZ4 at h
 simp only[aJ5]at h
 exact h.1.1.1.1
theorem dC0 {t:o8}(h:aZ4 t=true):bx0 t.C3=true:=by
 unfold aZ4 at h
 simp only[aJ5]at h
 exact h.1.1.1.2
theorem ed6 {t:o8}(h:aZ4 t=true)(late:Int):∃e,at5 t.C3 late=some e/\0<=e/\e<=1000/\
  ∀o f c,0<=o->o<=10000->0<=f->f<=c->1<=c->c<=8->Y3 t o late f c=some ((o*e*f)/(1000*c)):=by
 obtain⟨i,hi,e⟩:=cd9 (dC0 h) late
 have hb:=cM7 (ex4 h).c hi (ex4 h).e
 refine⟨_,e,hb.1,hb.2,fun o f c o0 o1 f0 f1 c0 c1=>?_⟩
 generalize cuV t.C3 i (lim t.C3.X late)=v at hb e
 have p0:0<=o*v:=eQ2 o0 hb.1
 have p1:o*v<=10000*1000:=eP0 o1 hb.2 hb.1 (by omega)
 have q0:0<=o*v*f:=eQ2 p0 f0
 have q1:o*v*f<=10000*1000*8:=eP0 p1 (by omega) f0 (by omega)
 unfold Y3
 rw[e,aH3,j6 (n:=o*v) (by omega) (by omega),j6 (n:=o*v*f) (by omega) (by omega),j6 (n:=1000*c) (by omega) (by omega)]
 unfold bn5
 rw[if_neg (by omega),aH3,cr3 q0]
 have r0:0<=o*v*f/(1000*c):=eN3 q0 (by omega)
 have r1:o*v*f/(1000*c)<=o*v*f:=eL3 _ q0
 have:=j6 (n:=o*v*f/(1000*c)) (by omega) (by omega)
 unfold o4 at this
 rw[this]
def sAt (m:SMap)(x y:Int):Int:=(X7 m x y).getD 0
def cAt (c:Q0)(x:Int):Int:=(at5 c x).getD 0
theorem cT3 {m:SMap}(h:bp0 m=true)(x y:Int):X7 m x y=some (sAt m x y):=by
 obtain⟨i,j,_,_,e⟩:=ee8 h x y
 unfold sAt;rw[e];rfl
theorem dF2 {c:Q0}(h:bx0 c=true)(x:Int):at5 c x=some (cAt c x):=by
 obtain⟨i,_,e⟩:=cd9 h x
 unfold cAt;rw[e];rfl
theorem cg4 {m:SMap}(h:bp0 m=true)(x y:Int){lo hi:Int}(hz:∀i j,i<m.X.length->j<m.Y.length->lo<=zz m i j/\zz m i j<=hi):lo<=sAt m x y/\sAt m x y<=hi:=by
 obtain⟨i,j,a,b,e⟩:=ee8 h x y
 have:=dE7 (ca3 h) a b hz
 unfold sAt;rw[e];exact this
theorem cd5 {c:Q0}(h:bx0 c=true)(x:Int){lo hi:Int}(hy:∀j,j<c.X.length->lo<=nd c.Y j/\nd c.Y j<=hi):lo<=cAt c x/\cAt c x<=hi:=by
 obtain⟨i,a,e⟩:=cd9 h x
 have:=cM7 (bm4 h) a hy
 unfold cAt;rw[e];exact this
theorem ba4 {lo hi x:Int}:inR lo hi x=true↔lo<=x/\x<=hi:=by
 unfold inR
 rw[aJ5,fk4,fk4]
theorem ff5 {m:SMap}(h:bp0 m=true){lo hi:Int}(hz:∀r∈m.Z,r.all (inR lo hi)=true):∀i j,i<m.X.length->j<m.Y.length->lo<=zz m i j/\zz m i j<=hi:=by
 intro i j hi' hj
 have k:=ca3 h
 have hiz:i<m.Z.length:=by have:=k.zl;omega
 have hjz:j<m.Z[i].length:=by have:=k.rl i hiz;omega
 have:=hz _ (ba6 hiz)
 rw[bN8]at this
 have:=this _ (ba6 hjz)
 rw[bV8 hiz hjz]
 exact ba4.1 this
theorem eW6 {c:Q0}(h:bx0 c=true){lo hi:Int}(hy:c.Y.all (inR lo hi)=true):∀j,j<c.X.length->lo<=nd c.Y j/\nd c.Y j<=hi:=by
 intro j hj
 have k:=bm4 h
 have hjy:j<c.Y.length:=by have:=k.yl;omega
 rw[bN8]at hy
 rw[N5 hjy]
 exact ba4.1 (hy _ (ba6 hjy))
structure eX7 (t:o8):Prop where
 m:bp0 t.Air=true
 c:bx0 t.L7=true
 z:∀i j,i<t.Air.X.length->j<t.Air.Y.length->0<=zz t.Air i j/\zz t.Air i j<=1048576
 y:∀j,j<t.L7.X.length->100<=nd t.L7.Y j/\nd t.L7.Y j<=3000
theorem eY6 {t:o8}(h:cW3 t=true):eX7 t:=by
 unfold cW3 at h
 simp only[aJ5]at h
 obtain⟨⟨⟨h1,h2⟩,h3⟩,h4⟩:=h
 refine⟨h1,h2,ff5 h1 fun r hr=>?_,eW6 h2 h4⟩
 have:=bN8.1 h3 r hr
 unfold cI9 at this
 rw[aJ5]at this
 exact this.1
def chV (t:o8)(s p q:Int):Int:=min 1048576 (sAt t.Air s p*cAt t.L7 q/1000)
theorem aV6 {a b A B:Int}(a0:0<=a)(a1:a<=A)(b0:0<=b)(b1:b<=B):0<=a*b/\a*b<=A*B:=⟨eQ2 a0 b0,eP0 a1 b1 b0 (by omega)⟩
theorem db1 {t:o8}(h:cW3 t=true)(s p q:Int):aC5 t s p q=some (chV t s p q)/\0<=chV t s p q/\chV t s p q<=1048576:=by
 have k:=eY6 h
 have b1:=cg4 k.m s p k.z
 have b2:=cd5 k.c q k.y
 have b3:=aV6 (A:=1048576) (B:=3000) b1.1 b1.2 (by omega) b2.2
 unfold aC5 chV
 rw[cT3 k.m,dF2 k.c]
 simp only[aH3]
 rw[j6 (by omega) (by omega),bR9 _ _ (by omega) (by omega) (by omega) (by omega)]
 simp only[aH3,aq3]
 exact⟨trivial,by omega,by omega⟩
theorem R4 {lo hi x:Int}(h0:lo<=x)(h1:x<=hi):inR lo hi x=true:=ba4.2 ⟨h0,h1⟩
theorem ci4 {t:o8}(h:cW3 t=true){s p q:Int}(s0:0<=s/\s<=12000)(p0:50<=p/\p<=3000)(q0:-40<=q/\q<=150):aC4 t s p q=some (chV t s p q,0):=by
 unfold aC4
 rw[bG8,h,af4,af4,af4,R4 s0.1 s0.2,R4 p0.1 p0.2,R4 q0.1 q0.2,(db1 h s p q).1]
 rfl
structure fg6 (t:o8)(s w q p e:Int):Prop where
 out:e=0\/e=2\/e=7
 ran:e=2↔¬(0<=w/\w<=1048576)
 fit:e=0->50<=p/\p<=3000/\w<=chV t s p q
 low:e=0->50<p->chV t s (p-1) q<w
 big:e=7->chV t s 3000 q<w
theorem dy4 {t:o8}(h:cW3 t=true){s w q:Int}(s0:0<=s/\s<=12000)(q0:-40<=q/\q<=150):∃p e,au9 t s w q=some (p,e)/\fg6 t s w q p e:=by
 unfold au9
 rw[bG8,h,af4,af4,af4,R4 s0.1 s0.2,R4 q0.1 q0.2]
 simp only[aH3,aP9,fj6]
 cases hw:inR 0 1048576 w
 ·have hw2:¬(0<=w/\w<=1048576):=fun h2=>by rw[ba4.2 h2]at hw;cases hw
  exact⟨0,2,rfl,.inr (.inl rfl),⟨fun _=>hw2,fun _=>rfl⟩,fun h=>(by cases h),fun h=>(by cases h),fun h=>(by cases h)⟩
 ·have hw2:=ba4.1 hw
  simp only[aP9,fj6]
  obtain⟨k,k1,k2,k3,k4⟩:=aS5 2951 (by omega) (fun x0=>aj9 x0 t s q w) (fun i=>decide (chV t s (50+(i:Int)) q>=w)) (fun i hi=>by
   unfold aj9
   rw[j6 (by omega) (by omega),(db1 h s _ q).1]
   rfl)
  have k2':P8 2951 (fun x0=>aj9 x0 t s q w)=some (k:Int):=k2
  rw[k2']
  simp only[aH3]
  rw[j6 (n:=50+(k:Int)) (by omega) (by omega)]
  by_cases hk:k=2951
  ·subst hk
   refine⟨0,7,rfl,.inr (.inr rfl),⟨fun h=>(by cases h),fun h=>absurd hw2 h⟩,fun h=>(by cases h),fun h=>(by cases h),fun _=>?_⟩
   have:=k3 (by omega)
   rw[fk7]at this
   have e:(50:Int)+((2951-1:Nat):Int)=3000:=by omega
   rw[e]at this
   omega
  ·have h4:=k4 (by omega)
   rw[fk4]at h4
   rw[fk3 (show¬(50+(k:Int)>3000) by omega)]
   refine⟨50+(k:Int),0,rfl,.inl rfl,⟨fun h=>(by cases h),fun h=>absurd hw2 h⟩,fun _=>⟨by omega,by omega,by omega⟩,fun _ hp=>?_,fun h=>(by cases h)⟩
   have h3:=k3 (by omega)
   rw[fk7]at h3
   have e:(50:Int)+((k-1:Nat):Int)=50+(k:Int)-1:=by omega
   rw[e]at h3
   omega
def ec2 (s:Int):Int:=-((-(s*65536*23040))/60000000)
theorem dK3 {s:Int}(s0:0<=s/\s<=12000):0<=ec2 s/\ec2 s<=310000:=by unfold ec2;omega
def dc9 (s p:Int):Int:=ec2 s*p/1024
theorem eC9 {s p:Int}(s0:0<=s/\s<=12000)(p0:50<=p/\p<=3000):be2 s p=some (dc9 s p,0)/\0<=dc9 s p/\dc9 s p<=930000000:=by
 have r:=dK3 s0
 have b:=aV6 (B:=3000) r.1 r.2 (show 0<=p by omega) p0.2
 unfold be2 ax5 am7
 rw[af4,af4,R4 s0.1 s0.2,R4 p0.1 p0.2]
 rw[show((decide (s<0))||(decide (s>20000)))=false by rw[bZ2];exact⟨fk3 (by omega),fk3 (by omega)⟩]
 rw[j6 (n:=s*65536) (by omega) (by omega),j6 (n:=s*65536*23040) (by omega) (by omega),bX2 _ _ 2 (by omega) (by omega) (by omega) (by omega) (.inr rfl)]
 simp only[aH3,aP9,fj6]
 rw[if_neg (by decide)]
 have er:-((-(s*65536*23040))/60000000)=ec2 s:=rfl
 unfold dc9
 rw[er,j6 (n:=ec2 s*p) (by omega) (by omega),cr3 b.1,j6 (by omega) (by omega)]
 exact⟨rfl,by omega,by omega⟩
structure eM7 (b:L4):Prop where
 i:100<=b.ai7/\b.ai7<=1048576
 f:0<=b.ap2/\b.ap2<=65536
 t:0<=b.J2/\b.J2<=65536
 v:1<=b.aP2/\b.aP2<=65536
 fi:0<=b.P0/\b.P0<=1023
 ev:1<=b.L2/\b.L2<=1024
 de:0<=b.aX9/\b.aX9<=20
def aW2 (b:L4):Bool:=inR 100 1048576 b.ai7&&inR 0 65536 b.ap2&&inR 0 65536 b.J2&&inR 1 65536 b.aP2&&inR 0 1023 b.P0&&inR 1 1024 b.L2&&inR 0 20 b.aX9
theorem di4 (b:L4):aj3 b=some (aW2 b):=by
 unfold aj3 aW2
 have e:∀x lo hi,F8 x lo hi=some (inR lo hi x):=fun _ _ _=>rfl
 simp only[e,aH3]
 cases inR 100 1048576 b.ai7<;>cases inR 0 65536 b.ap2<;>cases inR 0 65536 b.J2<;>cases inR 1 65536 b.aP2<;>cases inR 0 1023 b.P0<;>cases inR 1 1024 b.L2<;>rfl
theorem bs7 {b:L4}(h:aW2 b=true):eM7 b:=by
 unfold aW2 at h
 simp only[aJ5,ba4]at h
 obtain⟨⟨⟨⟨⟨⟨h1,h2⟩,h3⟩,h4⟩,h5⟩,h6⟩,h7⟩:=h
 exact⟨h1,h2,h3,h4,h5,h6,h7⟩
structure fh0 (b:L4)(f p n e:Int):Prop where
 out:e=0\/e=7
 fit:e=0->0<=n/\n<=1000/\f<=b.J2*n*(1013-p)/1000
 low:e=0->0<n->b.J2*(n-1)*(1013-p)/1000<f
 big:e=7->b.J2*1000*(1013-p)/1000<f
theorem dB5 {b:L4}(h:aW2 b=true){f p:Int}(f0:0<=f/\f<=1099511627776)(p0:50<=p/\p<=1013):∃n e,av0 b f p=some (n,e)/\fh0 b f p n e:=by
 have kb:=(bs7 h).t
 have v:∀k:Nat,k<=1000->(o4 (da1 (o4 ((o4 (b.J2*(k:Int)))*(o4 (1013-p)))) 1000))=b.J2*(k:Int)*(1013-p)/1000:=by
  intro k hk
  have b1:=aV6 (A:=65536) (B:=1000) kb.1 kb.2 (show 0<=(k:Int) by omega) (by omega)
  have b2:=aV6 (A:=65536000) (B:=1000) b1.1 (by omega) (show 0<=1013-p by omega) (by omega)
  rw[j6 (n:=b.J2*(k:Int)) (by omega) (by omega),j6 (n:=1013-p) (by omega) (by omega),j6 (n:=b.J2*(k:Int)*(1013-p)) (by omega) (by omega),cr3 b2.1,j6 (by omega) (by omega)]
 unfold av0
 rw[di4,h,af4,af4,R4 f0.1 f0.2,R4 p0.1 p0.2]
 simp only[aH3,aP9,fj6]
 obtain⟨k,k1,k2,k3,k4⟩:=aS5 1001 (by omega) (fun x0=>ak0 x0 b p f) (fun i=>decide (b.J2*(i:Int)*(1013-p)/1000>=f)) (fun i hi=>by
  unfold ak0
  rw[v i (by omega)])
 have k2':P8 1001 (fun x0=>ak0 x0 b p f)=some (k:Int):=k2
 rw[k2']
 simp only[aH3]
 by_cases hk:k=1001
 ·subst hk
  refine⟨0,7,rfl,.inr rfl,fun h=>(by cases h),fun h=>(by cases h),fun _=>?_⟩
  have:=k3 (by omega)
  rw[fk7]at this
  have e:((1001-1:Nat):Int)=1000:=by omega
  rw[e]at this
  omega
 ·have h4:=k4 (by omega)
  rw[fk4]at h4
  rw[fk3 (show¬((k:Int)>1000) by omega)]
  refine⟨(k:Int),0,rfl,.inl rfl,fun _=>⟨by omega,by omega,by omega⟩,fun _ hp=>?_,fun h=>(by cases h)⟩
  have h3:=k3 (by omega)
  rw[fk7]at h3
  have e:((k-1:Nat):Int)=(k:Int)-1:=by omega
  rw[e]at h3
  omega
def cR1 (t:o8)(s c:Int):Int:=sAt t.p7 s c
def bN7 (t:o8)(o l f n:Int):Int:=o*cAt t.C3 l*f/(1000*n)
theorem aZ3 (x lo hi:Int):H6 x lo hi=some (inR lo hi x):=rfl
theorem er1 {t:o8}(h:aZ4 t=true){s c:Int}(s0:0<=s/\s<=12000)(c0:0<=c/\c<=1048576):ag8 t s c=some (cR1 t s c,0)/\0<=cR1 t s c/\cR1 t s c<=10000:=by
 have k:=dC1 h
 have b:=cg4 k s c (ex4 h).z
 refine⟨?_,b.1,b.2⟩
 unfold ag8
 rw[bp5,h,aZ3,aZ3,R4 s0.1 s0.2,R4 c0.1 c0.2,cT3 k]
 rfl
theorem dL9 {t:o8}(h:aZ4 t=true){o l f n:Int}(o0:0<=o/\o<=10000)(f0:0<=f/\f<=n)(n0:1<=n/\n<=8):Y3 t o l f n=some (bN7 t o l f n)/\0<=bN7 t o l f n/\bN7 t o l f n<=10000:=by
 obtain⟨e,h1,h2,h3,h4⟩:=ed6 h l
 unfold bN7 cAt
 rw[h4 o f n o0.1 o0.2 f0.1 f0.2 n0.1 n0.2,h1]
 have b1:=aV6 (A:=10000) (B:=1000) o0.1 o0.2 h2 h3
 have b2:=aV6 (A:=10000000) b1.1 (by omega) f0.1 f0.2
 refine⟨rfl,eN3 b2.1 (by omega),?_⟩
 have:o*e*f/(1000*n)<=10000000*n/(1000*n):=Int.ediv_le_ediv (by omega) b2.2
 rw[show 10000000*n=10000*(1000*n) by omega,Int.mul_ediv_cancel _ (by omega)]at this
 exact this
theorem ep3 {t:o8}(h:aZ4 t=true){s w:Int}(s0:0<=s/\s<=12000):∃c e,ap1 t s w=some (c,e)/\(e=0\/e=7)/\
  (e=0->nd t.p7.Y 0<=c/\c<=nd t.p7.Y (t.p7.Y.length-1)/\w<=sAt t.p7 s c/\(nd t.p7.Y 0<c->sAt t.p7 s (c-1)<w))/\(e=7->sAt t.p7 s (nd t.p7.Y (t.p7.Y.length-1))<w):=by
 have k:=dC1 h
 have ky:=(ca3 k).y
 have y2:=ky.two
 have ym:=ky.most
 have e0:=ky.el 0 (by omega)
 have e1:=ky.el (t.p7.Y.length-1) (by omega)
 have le:=ky.le (t.p7.Y.length-1) 0 (by omega) (by omega)
 rw[<-N5 (by omega:0<t.p7.Y.length)]at e0 le
 rw[<-N5 (by omega:t.p7.Y.length-1<t.p7.Y.length)]at e1 le
 have g0:D4 t.p7.Y 0=some (nd t.p7.Y 0):=by have:=C7 t.p7.Y 0 (by omega);rw[N5 (by omega)];exact this
 have ew:o4 ((t.p7.Y.length:Int)-1)=((t.p7.Y.length-1:Nat):Int):=by rw[j6 (by omega) (by omega)];omega
 have gl:D4 t.p7.Y ((t.p7.Y.length-1:Nat):Int)=some (nd t.p7.Y (t.p7.Y.length-1)):=by rw[C7 _ _ (by omega),N5 (by omega)]
 unfold ap1
 rw[bp5,h,aZ3,R4 s0.1 s0.2]
 simp only[aH3,aP9,fj6]
 rw[g0,ew]
 simp only[aH3]
 rw[gl]
 simp only[aH3]
 generalize nd t.p7.Y 0=a at*
 generalize nd t.p7.Y (t.p7.Y.length-1)=b at*
 rw[j6 (n:=b-a) (by omega) (by omega),j6 (n:=b-a+1) (by omega) (by omega)]
 obtain⟨n,hn⟩:∃n:Nat,b-a+1=n:=⟨(b-a+1).toNat,by omega⟩
 rw[hn]
 obtain⟨j,k1,k2,k3,k4⟩:=aS5 n (by omega) (fun x0=>al8 x0 t s a w) (fun i=>decide (sAt t.p7 s (a+(i:Int))>=w)) (fun i hi=>by
  unfold al8
  rw[j6 (by omega) (by omega),cT3 k];rfl)
 rw[k2]
 simp only[aH3]
 by_cases hj:j=n
 ·subst hj
  refine⟨0,7,by simp,.inr rfl,fun h=>(by cases h),fun _=>?_⟩
  have:=k3 (by omega)
  rw[fk7,show a+((j-1:Nat):Int)=b by omega]at this
  omega
 ·have:((j:Int)==(n:Int))=false:=by
   rw[beq_eq_false_iff_ne];omega
  rw[this,j6 (n:=a+(j:Int)) (by omega) (by omega)]
  have h4:=k4 (by omega)
  rw[fk4]at h4
  refine⟨a+(j:Int),0,rfl,.inl rfl,fun _=>⟨by omega,by omega,by omega,fun hp=>?_⟩,fun h=>(by cases h)⟩
  have h3:=k3 (by omega)
  rw[fk7,show a+((j-1:Nat):Int)=a+(j:Int)-1 by omega]at h3
  omega
structure ez8 (t:o8)(o w n f l:Int):Prop where
 f0:0<=f
 f1:f<=n
 l0:0<=l
 l1:l<=2560
 fit:f=0\/bN7 t o 2560 f n<=w
 more:f<n->w<bN7 t o 2560 (f+1) n
 late:l<2560->bN7 t o l f n<=w
 less:0<l->w<bN7 t o (l-1) f n
theorem cT6 {t:o8}(h:aZ4 t=true){o w n:Int}(o0:0<=o/\o<=10000)(n0:1<=n/\n<=8):∀k:Nat,(k:Int)<=n->((k:Int)<n->w<bN7 t o 2560 ((k:Int)+1) n)->
  ∃f,L5 (am0 t w n (o,0)) (k:Int)=some (.inl f)/\0<=f/\f<=n/\(f=0\/bN7 t o 2560 f n<=w)/\(f<n->w<bN7 t o 2560 (f+1) n)
 |0,_,hm=>⟨0,E0 (by unfold am0;rfl),do8 _,by omega,.inl rfl,hm⟩
 |k+1,hk,hm=>by
  have he:=(dL9 h (l:=2560) (f:=((k+1:Nat):Int)) o0 ⟨by omega,hk⟩ n0).1
  have hb:am0 t w n (o,0) ((k+1:Nat):Int)=some (bif decide (bN7 t o 2560 ((k+1:Nat):Int) n<=w)then .inr (.inl ((k+1:Nat):Int))else .inl (k:Int)):=by
   unfold am0
   rw[fk0 (show((k+1:Nat):Int)>0 by omega),he,j6 (by omega) (by omega),show((k+1:Nat):Int)-1=(k:Int) by omega]
   simp only[fj8,aH3]
   cases decide (bN7 t o 2560 ((k+1:Nat):Int) n<=w)<;>rfl
  by_cases hc:bN7 t o 2560 ((k+1:Nat):Int) n<=w
  ·rw[fk0 hc]at hb
   exact⟨_,E0 hb,by omega,hk,.inr hc,hm⟩
  ·rw[fk3 hc]at hb
   rw[G9 hb]
   exact cT6 h o0 n0 k (by omega) (fun _=>by rw[show(k:Int)+1=((k+1:Nat):Int) by omega];omega)
theorem eu5 {t:o8}(h:aZ4 t=true){s c w n:Int}(s0:0<=s/\s<=12000)(c0:0<=c/\c<=1048576)(w0:0<=w)(n0:1<=n/\n<=8):∃f l,al9 t s c w n=some (f,l,0)/\ez8 t (cR1 t s c) w n f l:=by
 obtain⟨h1,h2⟩:=er1 h s0 c0
 unfold al9
 rw[h1]
 simp only[aH3]
 rw[show(((0:Int) !=0)=false)from rfl,aZ3,R4 n0.1 n0.2,fk3 (show¬w<0 by omega)]
 simp only[fj6,aH3,aP9,Bool.or_self]
 generalize cR1 t s c=o at h2
 obtain⟨k,hk⟩:∃k:Nat,n=k:=⟨n.toNat,by omega⟩
 obtain⟨f,f1,f2,f3,f4,f5⟩:=cT6 h (w:=w) h2 n0 k (by omega) (fun h=>by omega)
 rw[<-hk]at f1
 rw[f1]
 simp only[aH3]
 obtain⟨j,k1,k2,k3,k4⟩:=aS5 2560 (by omega) (fun x0=>ak8 x0 t o f n w) (fun i=>decide (bN7 t o (i:Int) f n<=w)) (fun i hi=>by
  unfold ak8
  rw[(dL9 h h2 ⟨f2,f3⟩ n0).1];rfl)
 have k2':P8 2560 (fun x0=>ak8 x0 t o f n w)=some (j:Int):=k2
 rw[k2']
 refine⟨f,(j:Int),rfl,f2,f3,by omega,by omega,f4,f5,fun hl=>?_,fun hl=>?_⟩
 ·have:=k4 (by omega)
  rwa[fk4]at this
 ·have:=k3 (by omega)
  rw[fk7,show((j-1:Nat):Int)=(j:Int)-1 by omega]at this
  omega
theorem ed5 {t:o8}(h:aZ4 t=true){s c l f n:Int}(s0:0<=s/\s<=12000)(c0:0<=c/\c<=1048576)(l0:0<=l/\l<=2560)(f0:0<=f/\f<=n)(n0:1<=n/\n<=8):aw1 t s c l f n=some (bN7 t (cR1 t s c) l f n,0):=by
 obtain⟨h1,h2⟩:=er1 h s0 c0
 unfold aw1
 rw[h1]
 simp only[aH3]
 rw[show(((0:Int) !=0)=false)from rfl,aZ3,aZ3,aZ3,R4 l0.1 l0.2,R4 n0.1 n0.2,R4 f0.1 f0.2,(dL9 h h2 f0 n0).1]
 rfl
def cF4 (n f i:Int):Bool:=decide ((i+1)*f/n>i*f/n)
theorem eG4 {a b:Int}(ha:0<=a)(hb:0<b)(hm:a<=9223372036854775807):bn5 .i64 a b=some (a/b):=by
 have h1:a/b<=a:=eL3 _ ha
 have h2:0<=a/b:=eN3 ha (by omega)
 unfold bn5
 rw[if_neg (by omega),cr3 ha]
 have:=j6 (n:=a/b) (by omega) (by omega)
 unfold o4 at this
 rw[this]
theorem dJ2 {n:Nat}{f:Int}(n0:1<=n/\n<=8)(f0:0<=f/\f<=n):ar5 (n:Int) f 0=some ((dp9 n).map (fun i:Nat=>cF4 n f (i:Int)),0):=by
 unfold ar5
 rw[aZ3,aZ3,aZ3,R4 (by omega) (by omega),R4 f0.1 f0.2]
 simp only[aH3,aP9,fj6]
 rw[show inR 0 1099511627776 0=true from rfl,bW9 n (by omega)]
 simp only[aH3,aP9,fj6]
 obtain⟨u,e,hu⟩:=ai6 (cr2 n false).length (by simp;omega) (ar6 (n:Int) f 0) (fun i u=>u.length=n/\∀j,j<i->u[j]? =some (cF4 n f (j:Int))) (cr2 n false) ⟨by simp,fun j hj=>by omega⟩ (fun j hj u hu=>by
  simp only[eC4]at hj
  obtain⟨hl,hg⟩:=hu
  unfold ar6
  have m1:=aV6 (A:=9) (B:=8) (show 0<=(j:Int)+1 by omega) (by omega) f0.1 (by omega)
  have m2:=aV6 (A:=9) (B:=8) (show 0<=(j:Int) by omega) (by omega) f0.1 (by omega)
  have er:cg1 (o4 ((j:Int)+0)) (n:Int)=some (j:Int):=by
   unfold cg1
   rw[if_neg (by omega),Int.add_zero,j6 (by omega) (by omega),Int.tmod_eq_emod_of_nonneg (by omega),Int.emod_eq_of_lt (by omega) (by omega)]
  rw[er]
  simp only[aH3]
  rw[j6 (n:=(j:Int)+1) (by omega) (by omega),j6 (n:=((j:Int)+1)*f) (by omega) (by omega),j6 (n:=(j:Int)*f) (by omega) (by omega),eG4 m1.1 (by omega) (by omega),eG4 m2.1 (by omega) (by omega)]
  simp only[aH3]
  rw[C7 _ _ (by omega)]
  simp only[aH3]
  rw[T6 _ _ _ (by omega)]
  refine⟨_,rfl,by simp[hl],fun i hi=>?_⟩
  rcases da9 i j with h|h
  ·rw[eX0 (by omega)];exact hg i h
  ·have:i=j:=by omega
   subst this
   rw[eR0 (by omega)];rfl)
 rw[e]
 simp only[eC4]at hu
 have:u=(dp9 n).map (fun i:Nat=>cF4 n f (i:Int)):=by
  apply List.ext_getElem?
  intro i
  rcases da9 i n with h|h
  ·rw[hu.2 i h,List.getElem?_map,List.getElem?_range h];rfl
  ·rw[ea1 (by omega),ea1 (by simp;omega)]
 rw[this]
 rfl
@[ext] structure dD6 where
 bs5:Int
 Low:Int
def aR9 (x:B6):Option Int:=
 bif ((x.Kind==1)||(x.Kind==2))then(some (o4 (2*(o4 (x.u0-1)))))else(some (o4 ((o4 (2*(o4 (x.u0-1))))+1)))
def bf8 (t2:w9):Option w9:=
 ai5 (ai5 (U5 ([]:List j7) t2.j1) fun l=>some (⟨t2.Q7,l⟩:w9)) fun(f2:w9)=>some f2
def bz5 (s:c8):Option c8:=
 ai5 (U5 ([]:List Int) s.p6.u6) fun l=>ai5 (bf8 s.j4) fun v=>ai5 (U5 ([]:List A1) s.Next) fun l2=>ai5 (U5 ([]:List A3) s.D1) fun l3=>some (⟨(⟨l,s.p6.as0⟩:o6),s.B1,v,l2,l3,s.Cut⟩:c8)
end Go.Pv
namespace Go.Pv.Ev
open Go Go.Pv
theorem da4 {α:Type}(c:Bool)(x y:α):(bif c then some x else some y)=some (bif c then x else y):=by cases c<;>rfl
theorem eP1 {p:Prop}[Decidable p]{b:Bool}(h:p↔b=true):decide p=b:=by
 cases b
 ·exact fk3 fun hp=>Bool.noConfusion (h.1 hp)
 ·exact fk0 (h.2 rfl)
theorem bT2 {α:Type}[DecidableEq α]:∀{l m:List α},l.Nodup->(∀x∈l,x∈m)->m.length<=l.length->l.Perm m
 |[],m,_,_,h=>by
  have:m=[]:=List.length_eq_zero_iff.1 (Nat.le_zero.1 h)
  rw[this]
 |x::l,m,hn,hs,hl=>by
  have hx:x∈m:=hs x (bx8 ..)
  have hp:=List.perm_cons_erase hx
  rw[List.nodup_cons]at hn
  have hlen:=hp.length_eq
  simp only[bq0]at hlen hl
  refine(List.Perm.cons x (bT2 hn.2 (fun y hy=>?_) (by omega))).trans hp.symm
  have hne:y≠x:=fun h=>hn.1 (h▸hy)
  exact(List.mem_erase_of_ne hne).2 (hs y (List.mem_cons_of_mem _ hy))
theorem ea6 {l:List Int}:(∀k,k<l.length->((k:Int)+1)∈l)↔(∀x∈l,1<=x/\x<=l.length)/\l.Nodup:=by
 have hN:((dp9 l.length).map (fun k:Nat=>(k:Int)+1)).Nodup:=by
  unfold List.Nodup
  rw[List.pairwise_map]
  exact List.Pairwise.imp (fun{a b} h=>by omega) List.pairwise_lt_range
 have hm:∀x:Int,x∈(dp9 l.length).map (fun k:Nat=>(k:Int)+1)↔1<=x/\x<=l.length:=by
  intro x
  rw[cX4]
  constructor
  ·rintro⟨k,hk,rfl⟩
   rw[ee4]at hk
   omega
  ·intro h
   exact⟨(x-1).toNat,by rw[ee4];omega,by omega⟩
 constructor
 ·intro h
  have hp:((dp9 l.length).map (fun k:Nat=>(k:Int)+1)).Perm l:=bT2 hN (fun x hx=>by
   rw[cX4]at hx
   obtain⟨k,hk,rfl⟩:=hx
   exact h k (ee4.1 hk)) (by simp)
  exact⟨fun x hx=>(hm x).1 (hp.mem_iff.2 hx),hp.nodup_iff.1 hN⟩
 ·rintro⟨h1,h2⟩ k hk
  have hp:l.Perm ((dp9 l.length).map (fun k:Nat=>(k:Int)+1)):=bT2 h2 (fun x hx=>(hm x).2 (h1 x hx)) (by simp)
  exact hp.mem_iff.2 ((hm _).2 (by omega))
def idx (v:Int):List Int->Nat->Int
 |[],_=>-1
 |x::l,i=>bif v==x then(i:Int)else idx v l (i+1)
theorem bS7 (v:Int):∀(l:List Int) (i:Nat),(idx v l i= -1/\v∉l)\/∃k:Nat,idx v l i=((i+k:Nat):Int)/\l[k]? =some v
 |[],i=>.inl ⟨rfl,by simp⟩
 |x::l,i=>by
  unfold idx
  cases h:v==x
  ·have hne:v≠x:=by simpa using h
   rcases bS7 v l (i+1)with⟨h1,h2⟩|⟨k,h1,h2⟩
   ·exact .inl ⟨h1,by simp[hne,h2]⟩
   ·exact .inr ⟨k+1,by simp only[fj6];rw[h1];omega,by simpa using h2⟩
  ·have:v=x:=by simpa using h
   exact .inr ⟨0,by simp,by simp[this]⟩
theorem dQ0 (v:Int)(l:List Int):decide (idx v l 0>=0)=decide (v∈l):=by
 rcases bS7 v l 0 with⟨h1,h2⟩|⟨k,h1,h2⟩
 ·rw[h1];simp[h2]
 ·rw[h1];simp[List.mem_of_getElem? h2]
theorem dd8 (v:Int):∀(l:List Int) (i:Nat),(ai5 (L9 (fun(i:Int) x (_:Unit)=>bif (v==x)then(some (Fl.ret i))else(some (Fl.next ()))) l (i:Int) ()) fun(t:Unit⊕Int)=>match t with| .inl _=>(some (-1))| .inr r2=>some r2)=some (idx v l i)
 |[],i=>rfl
 |x::l,i=>by
  simp only[L9,idx]
  cases v==x
  ·simpa using dd8 v l (i+1)
  ·rfl
theorem bS8 (s:List Int)(v:Int)(h:s.length<=9223372036854775807):V6 s v=some (idx v s 0):=by
 unfold V6
 have:K9 (s.length:Int) (an8 s v) ()=L9 (fun(i:Int) x (_:Unit)=>bif (v==x)then(some (Fl.ret i))else(some (Fl.next ()))) s 0 ():=bc8 s h _ ()
 rw[this]
 exact dd8 v s 0
theorem contains_eq (s:List Int)(v:Int)(h:s.length<=9223372036854775807):P3 s v=some (decide (v∈s)):=by
 unfold P3
 rw[bS8 s v h,aH3,dQ0]
def aB5 (e:o6):Prop:=1<=e.u6.length/\e.u6.length<=8/\0<=e.as0/\e.as0<46080/\(∀x∈e.u6,1<=x/\x<=(e.u6.length:Int))/\e.u6.Nodup
instance (e:o6):Decidable (aB5 e):=by unfold aB5;infer_instance
theorem em0 {e:o6}(h:(((decide ((e.u6.length:Int)<1))||(decide ((e.u6.length:Int)>8)))|| !((decide (e.as0>=0))&&(decide (e.as0<46080))))=true):¬aB5 e:=by
 rintro⟨h1,h2,h3,h4,_⟩
 simp only[cG1,bO4,fe8,fk4,fk7]at h
 omega
theorem em1 {e:o6}(h:(((decide ((e.u6.length:Int)<1))||(decide ((e.u6.length:Int)>8)))|| !((decide (e.as0>=0))&&(decide (e.as0<46080))))=false):1<=e.u6.length/\e.u6.length<=8/\0<=e.as0/\e.as0<46080:=by
 simp only[bZ2,dT6,aJ5,fk4,fk7]at h
 omega
theorem cb3 {n:Nat}{p:Nat->Bool}:(dR5 0 n).all p=true↔∀k,k<n->p k=true:=by
 rw[bN8]
 constructor
 ·intro h k hk
  exact h k (by rw[List.mem_range'_1];omega)
 ·intro h k hk
  rw[List.mem_range'_1]at hk
  exact h k (by omega)
theorem ao1 (e:o6):O7 e=some (decide (aB5 e)):=by
 unfold O7 ah7
 have hb:(ai5 (bif ((decide ((e.u6.length:Int)<1))||(decide ((e.u6.length:Int)>8)))then(some true)else(ai5 (some ((decide (e.as0>=0))&&(decide (e.as0<46080)))) fun v=>some (!v))):(Bool->Option Bool)->Option Bool)=fun k=>k (((decide ((e.u6.length:Int)<1))||(decide ((e.u6.length:Int)>8)))|| !((decide (e.as0>=0))&&(decide (e.as0<46080)))):=by
  funext k
  cases((decide ((e.u6.length:Int)<1))||(decide ((e.u6.length:Int)>8)))<;>rfl
 rw[hb]
 cases hh:(((decide ((e.u6.length:Int)<1))||(decide ((e.u6.length:Int)>8)))|| !((decide (e.as0>=0))&&(decide (e.as0<46080))))
 ·obtain⟨h1,h2,h3,h4⟩:=em1 hh
  have k:=dZ1 (mb:=as2 e) (fun i=>(i:Int)+1) (p:=fun i=>decide (((i:Int)+1)∈e.u6)) (b0:=.inl ((e.u6.length:Int)+1)) (b1:=.inr false) e.u6.length (by
   unfold as2
   rw[show decide ((e.u6.length:Int)+1<=(e.u6.length:Int))=false by simp;omega];rfl) (fun k hk=>by
   unfold as2
   simp only[show decide ((k:Int)+1<=(e.u6.length:Int))=true by simp;omega,fj8,contains_eq e.u6 _ (by omega),aH3,j6 (n:=(k:Int)+1+1) (by omega) (by omega)]
   cases decide (((k:Int)+1)∈e.u6)<;>rfl)
  simp only[show((0:Nat):Int)+1=1 from rfl]at k
  simp only[fj6]
  rw[k]
  have hP:aB5 e↔(dR5 0 e.u6.length).all (fun i=>decide (((i:Int)+1)∈e.u6))=true:=by
   rw[cb3]
   simp only[fk4]
   rw[ea6]
   unfold aB5
   constructor
   ·rintro⟨_,_,_,_,h5,h6⟩;exact⟨h5,h6⟩
   ·rintro⟨h5,h6⟩;exact⟨h1,h2,h3,h4,h5,h6⟩
  rw[eP1 hP]
  cases(dR5 0 e.u6.length).all (fun i=>decide (((i:Int)+1)∈e.u6))<;>rfl
 ·simp only[fj8]
  rw[fk3 (em0 hh)]
end Go.Pv.Ev
namespace Go.Pv
open Go
def k0:B8:=⟨0,100,0⟩
def eM4:A7:=⟨⟨0,0,false⟩,⟨0⟩,[],⟨false,false,0,0,[]⟩,0,⟨0,0⟩⟩
def dJ5:M8:=⟨false,false,1000,0,cr2 9 ⟨0,0⟩⟩
def eF2 (n:Nat):A7:=⟨⟨0,0,false⟩,⟨0⟩,cr2 n k0,dJ5,0,⟨0,-1⟩⟩
theorem eb7 (n:Nat)(h1:1<=n)(h8:n<=8):P5 [k0] (n:Int)=some (cr2 n k0):=by
 have key:L5 aJ9 (1,aJ2 (cr2 n ⟨0,0,0⟩) [k0])=some (.inl ((n:Int),cr2 n k0)):=by
  have:n=1\/n=2\/n=3\/n=4\/n=5\/n=6\/n=7\/n=8:=by omega
  rcases this with rfl|rfl|rfl|rfl|rfl|rfl|rfl|rfl
  ·exact E0 (by rfl)
  ·exact(G9 (s':=(2,[k0,k0])) (by rfl)).trans (E0 (by rfl))
  ·exact(G9 (s':=(2,[k0,k0,⟨0,0,0⟩])) (by rfl)).trans ((G9 (s':=(3,[k0,k0,k0])) (by rfl)).trans (E0 (by rfl)))
  ·exact(G9 (s':=(2,[k0,k0,⟨0,0,0⟩,⟨0,0,0⟩])) (by rfl)).trans ((G9 (s':=(4,[k0,k0,k0,k0])) (by rfl)).trans (E0 (by rfl)))
  ·exact(G9 (s':=(2,[k0,k0,⟨0,0,0⟩,⟨0,0,0⟩,⟨0,0,0⟩])) (by rfl)).trans ((G9 (s':=(4,[k0,k0,k0,k0,⟨0,0,0⟩])) (by rfl)).trans ((G9 (s':=(5,[k0,k0,k0,k0,k0])) (by rfl)).trans (E0 (by rfl))))
  ·exact(G9 (s':=(2,[k0,k0,⟨0,0,0⟩,⟨0,0,0⟩,⟨0,0,0⟩,⟨0,0,0⟩])) (by rfl)).trans ((G9 (s':=(4,[k0,k0,k0,k0,⟨0,0,0⟩,⟨0,0,0⟩])) (by rfl)).trans ((G9 (s':=(6,[k0,k0,k0,k0,k0,k0])) (by rfl)).trans (E0 (by rfl))))
  ·exact(G9 (s':=(2,[k0,k0,⟨0,0,0⟩,⟨0,0,0⟩,⟨0,0,0⟩,⟨0,0,0⟩,⟨0,0,0⟩])) (by rfl)).trans ((G9 (s':=(4,[k0,k0,k0,k0,⟨0,0,0⟩,⟨0,0,0⟩,⟨0,0,0⟩])) (by rfl)).trans ((G9 (s':=(7,[k0,k0,k0,k0,k0,k0,k0])) (by rfl)).trans (E0 (by rfl))))
  ·exact(G9 (s':=(2,[k0,k0,⟨0,0,0⟩,⟨0,0,0⟩,⟨0,0,0⟩,⟨0,0,0⟩,⟨0,0,0⟩,⟨0,0,0⟩])) (by rfl)).trans ((G9 (s':=(4,[k0,k0,k0,k0,⟨0,0,0⟩,⟨0,0,0⟩,⟨0,0,0⟩,⟨0,0,0⟩])) (by rfl)).trans ((G9 (s':=(8,[k0,k0,k0,k0,k0,k0,k0,k0])) (by rfl)).trans (E0 (by rfl))))
 have a1:bB1 (aX3.wrap (([k0]:List B8).length:Int)) (aX3.wrap (n:Int))=some (0,(n:Int)):=by
  have:n=1\/n=2\/n=3\/n=4\/n=5\/n=6\/n=7\/n=8:=by omega
  rcases this with rfl|rfl|rfl|rfl|rfl|rfl|rfl|rfl<;>rfl
 have a2:aS0 (o4 (n:Int)) (⟨0,0,0⟩:B8)=some (cr2 n ⟨0,0,0⟩):=by
  have:n=1\/n=2\/n=3\/n=4\/n=5\/n=6\/n=7\/n=8:=by omega
  rcases this with rfl|rfl|rfl|rfl|rfl|rfl|rfl|rfl<;>rfl
 have a3:(((min ([k0]:List B8).length (cr2 n (⟨0,0,0⟩:B8)).length:Nat):Int))=1:=by rw[eC4,cr0];omega
 unfold P5
 rw[fk3 (by omega),fj6,aH3,a1,aH3]
 simp only
 rw[fk3 (by omega:¬(0:Int)>0),fk3 (by omega),fa9,fj6,aH3,a2,aH3,a3,key]
 rfl
theorem eb1:aL4=some dJ5:=rfl
theorem bR3 (e:o6):aA0 e=some (bif decide (Ev.aB5 e)then(eF2 e.u6.length,0)else(eM4,1)):=by
 unfold aA0
 rw[Ev.ao1,aH3]
 by_cases h:Ev.aB5 e
 ·rw[fk0 h,aP9,fj6]
  have h1:=h.1
  have h8:=h.2.1
  have:aV2 (e.u6.length:Int)=some (cr2 e.u6.length k0,0):=by
   unfold aV2
   rw[fk3 (by omega),fk3 (by omega),fa9,fj6,show([(⟨0,100,0⟩:B8)]:List B8)=[k0]from rfl,eb7 _ h1 h8]
   rfl
  rw[this,eb1]
  rfl
 ·rw[fk3 h];rfl
def cY2 (p:U2):Bool:=decide (0<=p.Value/\p.Value<=1000/\0<=p.af1/\p.af1<=3/\(p.aQ5=true↔p.af1=3)/\(p.aQ5=true->p.Value<=200))
theorem er4 (p:U2):ax6 p=some (cY2 p):=by
 obtain⟨v,d,f⟩:=p
 unfold ax6 cY2
 cases f
 ·simp only[fj6,aH3,aI5]
  apply bc3
  by_cases q:d=3<;>simp[q]<;>omega
 ·simp only[fj8,aH3,aI5]
  apply bc3
  by_cases q:d=3<;>simp[q]<;>omega
def da6 (c:aa7):Bool:=inR (-100) 100 c.Value&&inR 0 1000 c.E5
def cQ4 (p:M8):Bool:=inR 750 1250 p.aj8&&inR 0 1000 p.be1&&decide (p.Cells.length=9)&&(p.as8||(decide (p.aj8=1000)&&decide (p.be1=0)&& !p.be0))&&p.Cells.all da6
theorem ej3 (c:aa7):ab0 c=some (!da6 c):=by
 unfold ab0 da6
 rw[show R9 c.Value (-100) 100=some (inR (-100) 100 c.Value)from rfl,show R9 c.E5 0 1000=some (inR 0 1000 c.E5)from rfl]
 cases inR (-100) 100 c.Value<;>rfl
theorem dI9 (p:M8):ac1 p=some (cQ4 p):=by
 unfold ac1 cQ4
 rw[show R9 p.aj8 750 1250=some (inR 750 1250 p.aj8)from rfl,show R9 p.be1 0 1000=some (inR 0 1000 p.be1)from rfl,aH3]
 cases inR 750 1250 p.aj8
 ·rfl
 cases inR 0 1000 p.be1
 ·rfl
 by_cases h9:p.Cells.length=9
 ·have:((p.Cells.length:Int) !=9)=false:=by simp;omega
  have k:Q9 p.Cells ab0=some (p.Cells.any fun c=>!da6 c):=ai0 p.Cells (by omega) ab0 _ (fun c _=>ej3 c)
  rw[this,k,fk0 h9,dO9]
  simp only[aP9,fj6,aH3,cI4,fa9,eD9]
  cases p.as8
  ·have e:((p.aj8 !=1000||p.be1 !=0)||p.be0)= !(decide (p.aj8=1000)&&decide (p.be1=0)&& !p.be0):=by
    cases p.be0<;>by_cases a:p.aj8=1000<;>by_cases b:p.be1=0<;>simp[a,b]
   simp only[cI0,fj8,aH3,dQ6]
   rw[e]
   cases(decide (p.aj8=1000)&&decide (p.be1=0)&& !p.be0)<;>rfl
  ·rfl
 ·have:((p.Cells.length:Int) !=9)=true:=by simp;omega
  rw[this,fk3 h9]
  rfl
def knB (k:B8):Bool:=inR 0 960 k.as9&&inR 0 4095 k.aI2&&decide (k.Quiet>=0)&&decide (k.Quiet<=99)
theorem eL0 (k:B8):ax1 k=some (knB k):=by
 unfold ax1 knB
 rw[show ah2 k.aI2=some (inR 0 4095 k.aI2)from rfl,show(decide (k.as9>=0)&&decide (k.as9<=960))=inR 0 960 k.as9 from rfl]
 have e:decide (k.Quiet<100)=decide (k.Quiet<=99):=by apply bc3;rw[fk4,fk4];omega
 rw[e]
 cases inR 0 960 k.as9<;>rfl
def bz1 (e:o6)(c:A7):Bool:=decide (Ev.aB5 e)&&cY2 c.I7&&cQ4 c.Q1&&decide (c.aa6.length=e.u6.length)&&c.aa6.all knB&&inR (-4398046511104) 4398046511104 c.ae6.Sum&&inR 0 1073741824 c.P0&&inR (-5000) 10000 c.af2.p7&&inR (-1) 15 c.af2.N4
theorem dP4 (e:o6)(c:A7):ap8 e c=some (bz1 e c):=by
 unfold ap8 bz1
 rw[Ev.ao1,er4,dI9]
 simp only[aH3]
 by_cases h:Ev.aB5 e
 ·rw[fk0 h]
  cases cY2 c.I7
  ·rfl
  cases cQ4 c.Q1
  ·rfl
  by_cases hl:c.aa6.length=e.u6.length
  ·have:((c.aa6.length:Int) !=(e.u6.length:Int))=false:=by simp;omega
   have h8:=h.2.1
   have k:J3 c.aa6 ak2=some (c.aa6.any fun k=>!knB k):=ai0 c.aa6 (by omega) ak2 _ (fun k _=>by unfold ak2;rw[eL0];rfl)
   rw[this,fk0 hl,k,dO9]
   simp only[aP9,fj6,aH3,cI4,fa9,eD9]
   rw[show J6 c.ae6.Sum (-4398046511104) 4398046511104=some (inR (-4398046511104) 4398046511104 c.ae6.Sum)from rfl,show J6 c.P0 0 1073741824=some (inR 0 1073741824 c.P0)from rfl,
    show J6 c.af2.p7 (-5000) 10000=some (inR (-5000) 10000 c.af2.p7)from rfl,show J6 c.af2.N4 (-1) 15=some (inR (-1) 15 c.af2.N4)from rfl]
   cases c.aa6.all knB
   ·rfl
   cases inR (-4398046511104) 4398046511104 c.ae6.Sum
   ·rfl
   cases inR 0 1073741824 c.P0
   ·rfl
   cases inR (-5000) 10000 c.af2.p7<;>rfl
  ·have:((c.aa6.length:Int) !=(e.u6.length:Int))=true:=by simp;omega
   rw[this,fk3 hl];rfl
 ·rw[fk3 h];rfl
def cT1 (r:j2):Bool:=decide (0<=r.N4/\r.N4<=15/\0<=r.E7/\r.E7<=15/\ -5000<=r.p7/\r.p7<=10000/\(r.Kind=1\/(r.N4<=1/\(r.Kind=2\/r.Kind=3))))
theorem dK0 (r:j2):S1 r=some (cT1 r):=by
 obtain⟨s,k,t,p⟩:=r
 unfold S1 cT1 P1
 simp only
 cases hb:((((decide (s<0))||(decide (s>15)))||(decide (p<0)))||(decide (p>15)))
 ·rw[fj6,aH3,aH3]
  cases ht:(decide (t>= -5000)&&decide (t<=10000))
  ·rw[cI0,fj8,aI5]
   symm;rw[fk7]
   simp at hb ht;omega
  ·rw[aP9,fj6]
   simp at hb ht
   by_cases q:k=1
   ·subst q
    simp;omega
   ·have:(k==1)=false:=by simp;exact q
    rw[this,fj6]
    by_cases z:s<=1
    ·rw[fk0 z,fj8,aH3,aH3,aI5]
     apply bc3
     simp;omega
    ·rw[fk3 z,fj6,aH3,aH3,aI5]
     symm;rw[fk7];omega
 ·rw[fj8,aH3,fj8,aI5]
  symm;rw[fk7]
  simp at hb;omega
def eh7 (i:W5)(n:Int):Bool:=inR 1 8 n&&decide ((i.X0.length:Int)=n)&&decide (i.Requests.length<=30)&&inR 0 12000 i.D2&&inR 50 3000 i.L3&&inR (-40) 150 i.L7&&inR (-40) 150 i.au8&&inR 0 20000 i.aI6&&inR 0 20000 i.Lambda&&i.X0.all (inR 0 4095)&&i.Requests.all cT1
theorem eO9 (x lo hi:Int):J6 x lo hi=some (inR lo hi x):=rfl
theorem eN8 (i:W5)(n:Int):av3 i n=some (eh7 i n):=by
 unfold av3 eh7
 simp only[eO9,aH3]
 cases hn:inR 1 8 n
 ·rfl
 have hn':1<=n/\n<=8:=by unfold inR at hn;simp at hn;omega
 by_cases hl:(i.X0.length:Int)=n
 ·by_cases hr:i.Requests.length<=30
  ·have k:D8 i.Requests ah1=some (i.Requests.any fun k=>!cT1 k):=ai0 i.Requests (by omega) ah1 _ (fun k _=>by unfold ah1;rw[dK0];rfl)
   have h1:((i.X0.length:Int) !=n)=false:=by simp;exact hl
   rw[h1,fk3 (by omega),fk0 hl,fk0 hr,k,be7 _ (by omega),dO9]
   simp only[aP9,fj6,aH3,cI4,fa9,eD9]
   cases inR 0 12000 i.D2
   ·rfl
   cases inR 50 3000 i.L3
   ·rfl
   cases inR (-40) 150 i.L7
   ·rfl
   cases inR (-40) 150 i.au8
   ·rfl
   cases inR 0 20000 i.aI6
   ·rfl
   cases inR 0 20000 i.Lambda
   ·rfl
   cases i.X0.all (inR 0 4095)<;>rfl
  ·rw[fk0 (by omega:(i.Requests.length:Int)>30),fk3 hr,Bool.or_true,fh4];rfl
 ·have h1:((i.X0.length:Int) !=n)=true:=by simp;exact hl
  rw[h1,fk3 hl];rfl
structure eY0 (p:U2):Prop where
 v:0<=p.Value/\p.Value<=1000
 d:0<=p.af1/\p.af1<=3
 f:p.aQ5=true↔p.af1=3
 l:p.aQ5=true->p.Value<=200
theorem dR2 {p:U2}:cY2 p=true↔eY0 p:=by
 unfold cY2
 rw[fk4]
 exact⟨fun⟨a,b,c,d,e,f⟩=>⟨⟨a,b⟩,⟨c,d⟩,e,f⟩,fun⟨⟨a,b⟩,⟨c,d⟩,e,f⟩=>⟨a,b,c,d,e,f⟩⟩
def dx9 (p:U2)(a b:Int):U2:=
 let f:=min (max a 0) 1000
 let s:=2*min (max b 0) 500
 let w:=decide (max (f-s) (s-f)>50)
 let d:=if w then min 3 (p.af1+1)else if p.aQ5 then p.af1 else 0
 if d=3 then⟨min (min f s) 200,d,true⟩else if w then⟨min (min f s) p.Value,d,false⟩else⟨f,d,false⟩
theorem cR6 {p:U2}(h:cY2 p=true)(a b:Int):aM4 p a b=some (dx9 p a b,0)/\cY2 (dx9 p a b)=true:=by
 have k:=dR2.1 h
 have k1:=k.v;have k2:=k.d;have k3:=k.f;have k4:=k.l
 constructor
 ·unfold aM4 dx9
  rw[er4,h,aC7,aC7]
  simp only[aH3,aP9,fj6,aq3,ao3]
  have f0:0<=min (max a 0) 1000/\min (max a 0) 1000<=1000:=by omega
  have s0:0<=min (max b 0) 500/\min (max b 0) 500<=500:=by omega
  generalize min (max a 0) 1000=f at f0
  generalize min (max b 0) 500=s at s0
  rw[j6 (n:=2*s) (by omega) (by omega),j6 (n:=f-2*s) (by omega) (by omega),j6 (n:=2*s-f) (by omega) (by omega),j6 (n:=p.af1+1) (by omega) (by omega)]
  cases hw:decide (max (f-2*s) (2*s-f)>50)
  ·simp only[fj6,do9,if_false]
   cases hf:p.aQ5
   ·simp only[cI0,fj8,aH3,do9,if_false]
    rfl
   ·have:=k3.1 hf
    simp only[aP9,fj6,aH3,if_true]
    rw[this]
    rfl
  ·simp only[fj8,aH3,if_true]
   by_cases hd:min 3 (p.af1+1)=3
   ·rw[hd];rfl
   ·rw[if_neg hd,show(min 3 (p.af1+1)==3)=false from beq_eq_false_iff_ne.2 hd];rfl
 ·rw[dR2]
  unfold dx9
  simp only
  have f0:0<=min (max a 0) 1000/\min (max a 0) 1000<=1000:=by omega
  have s0:0<=min (max b 0) 500/\min (max b 0) 500<=500:=by omega
  generalize min (max a 0) 1000=f at f0
  generalize min (max b 0) 500=s at s0
  have hd:∀w:Bool,0<=(if w=true then min 3 (p.af1+1)else if p.aQ5=true then p.af1 else 0)/\(if w=true then min 3 (p.af1+1)else if p.aQ5=true then p.af1 else 0)<=3:=by
   intro w;split
   ·omega
   ·split<;>omega
  have hd:=hd (decide (max (f-2*s) (2*s-f)>50))
  generalize(if decide (max (f-2*s) (2*s-f)>50)=true then min 3 (p.af1+1)else if p.aQ5=true then p.af1 else 0)=d at hd
  by_cases h3:d=3
  ·rw[if_pos h3];exact⟨by simp only;omega,hd,⟨fun _=>h3,fun _=>rfl⟩,fun _=>by simp only;omega⟩
  ·rw[if_neg h3]
   split
   ·exact⟨by simp only;omega,hd,⟨fun h=>(by cases h),fun h=>absurd h h3⟩,fun h=>(by cases h)⟩
   ·exact⟨by simp only;omega,hd,⟨fun h=>(by cases h),fun h=>absurd h h3⟩,fun h=>(by cases h)⟩
def dC4 (t:o8)(v s:Int):Int:=min (max (sAt t.aI4 s v) (-5000)) 10000
theorem eJ0 {t:o8}(h:bp0 t.aI4=true){v s:Int}(v0:0<=v/\v<=1000)(s0:0<=s/\s<=12000):aM5 t v s=some (dC4 t v s,0):=by
 unfold aM5
 rw[ao1,h,cT3 h]
 simp only[aH3,aP9,fj6]
 rw[show(((decide (v<0))||(decide (v>1000)))||(decide (s<0)))=false by simp only[bZ2,fk7];omega,show decide (s>12000)=false from fk3 (by omega),aC7,aq3,ao3]
 rfl
theorem dM3 (t:o8)(v s:Int):-5000<=dC4 t v s/\dC4 t v s<=10000:=by unfold dC4;omega
def cy1 (c:Int):Int:=if c<= -20 then 1200 else if c>=70 then 800 else 1200-400*(c+20)/90
theorem dL6 {c:Int}(h:-40<=c/\c<=150):ax0 c=some (cy1 c)/\800<=cy1 c/\cy1 c<=1200:=by
 unfold ax0 cy1
 by_cases h1:c<= -20
 ·rw[fk0 h1,if_pos h1];exact⟨rfl,by omega,by omega⟩
 ·by_cases h2:c>=70
  ·rw[fk3 h1,fk0 h2,if_neg h1,if_pos h2];exact⟨rfl,by omega,by omega⟩
  ·rw[fk3 h1,fk3 h2,if_neg h1,if_neg h2,j6 (n:=c+20) (by omega) (by omega),j6 (n:=400*(c+20)) (by omega) (by omega),cr3 (by omega),j6 (n:=400*(c+20)/90) (by omega) (by omega),j6 (by omega) (by omega)]
   exact⟨rfl,by omega,by omega⟩
def dD8 (v s c:Int):Bool:=inR 0 19 v&&(inR 0 12000 s&&decide (s<cy1 c+300))
theorem ef6 {v s c:Int}(h:-40<=c/\c<=150):aw9 v s c=some (dD8 v s c):=by
 obtain⟨h1,h2⟩:=dL6 h
 unfold aw9 bc7 dD8
 rw[h1,show(decide (v>=0)&&decide (v<20))=inR 0 19 v by unfold inR;congr 1;rw[decide_eq_decide];omega,show aj2 s=some (inR 0 12000 s)from rfl]
 simp only[aH3]
 rw[j6 (by omega) (by omega)]
 cases inR 0 19 v<;>cases inR 0 12000 s<;>rfl
def bV1 (s:F7):Prop:=-4398046511104<=s.Sum/\s.Sum<=4398046511104
theorem eD7 {s:F7}{g:aW0}(hg:cA4 g=true)(hs:bV1 s){e:Int}(e0:-1048576<=e/\e<=1048576):∃s' u,aq2 s g e=some (s',u,0)/\bV1 s':=by
 have hs':=hs
 unfold bV1 at hs'
 unfold aq2
 rw[show Q3 g=some (cA4 g)from rfl,hg]
 simp only[aH3]
 rw[show((!true||decide (s.Sum<(-4398046511104)))||decide (s.Sum>4398046511104))=false by simp only[aP9,dQ6,bZ2,fk7];omega]
 rw[show(decide (e<(-1048576))||decide (e>1048576))=false by simp only[bZ2,fk7];omega]
 simp only[fj6]
 generalize F4 .i64 (o4 ((o4 (g.P*e))+s.Sum)) 10=u
 generalize(decide (u<=g.bs5)||decide (e<=0))=A
 generalize(decide (u>=g.Low)||decide (e>=0))=B
 cases A
 ·exact⟨s,_,rfl,hs⟩
 ·cases B
  ·exact⟨s,_,rfl,hs⟩
  ·refine⟨⟨_⟩,_,rfl,?_⟩
   unfold bV1
   simp only[aq3,ao3]
   omega
theorem eo2 {s:F7}{g:aW0}(hg:cA4 g=true)(hs:bV1 s){c v:Int}(c0:-40<=c/\c<=150)(v0:0<=v/\v<=12000):∃s' u,aE7 s g (cy1 c) v=some (s',u,0)/\bV1 s':=by
 obtain⟨_,t0,t1⟩:=dL6 c0
 obtain⟨s',u,h1,h2⟩:=eD7 hg hs (e:=cy1 c-v) (by omega)
 refine⟨s',u,?_,h2⟩
 unfold aE7
 rw[show Q3 g=some (cA4 g)from rfl,hg,show aj2 (cy1 c)=some (inR 0 12000 (cy1 c))from rfl,show aj2 v=some (inR 0 12000 v)from rfl,R4 (show 0<=cy1 c by omega) (by omega),R4 v0.1 v0.2,j6 (by omega) (by omega)]
 simp only[aH3,aP9,fj6]
 rw[h1];rfl
structure fg5 (k:B8):Prop where
 r:0<=k.as9/\k.as9<=960
 n:0<=k.aI2/\k.aI2<=4095
 q:0<=k.Quiet/\k.Quiet<=99
theorem eS0 {k:B8}:knB k=true↔fg5 k:=by
 unfold knB
 simp only[aJ5,ba4,fk4]
 exact⟨fun⟨⟨⟨a,b⟩,c⟩,d⟩=>⟨a,b,c,d⟩,fun⟨a,b,c,d⟩=>⟨⟨⟨a,b⟩,c⟩,d⟩⟩
def kst (k:B8)(n:Int):B8:=
 if n>3*k.aI2+40 then⟨min (k.as9+96) 960,k.aI2,0⟩
 else if k.Quiet+1=100 then⟨max (k.as9-16) 0,k.aI2+(n-k.aI2)/8,0⟩else⟨k.as9,k.aI2+(n-k.aI2)/8,k.Quiet+1⟩
theorem eS1 {k:B8}{n:Int}(h:knB k=true)(n0:inR 0 4095 n=true):(∃b,aH9 k n=some (kst k n,b))/\knB (kst k n)=true:=by
 have o:=eS0.1 h
 have o1:=o.r;have o2:=o.n;have o3:=o.q
 have n1:=ba4.1 n0
 constructor
 ·unfold aH9 kst
  rw[j6 (n:=3*k.aI2) (by omega) (by omega),j6 (n:=3*k.aI2+40) (by omega) (by omega)]
  by_cases h1:n>3*k.aI2+40
  ·rw[fk0 h1,if_pos h1,j6 (n:=k.as9+96) (by omega) (by omega),aq3]
   exact⟨_,rfl⟩
  ·rw[fk3 h1,if_neg h1,j6 (n:=k.Quiet+1) (by omega) (by omega),j6 (n:=k.as9-16) (by omega) (by omega),j6 (n:=n-k.aI2) (by omega) (by omega),bR9 _ _ (by omega) (by omega) (by omega) (by omega),ao3]
   by_cases h2:k.Quiet+1=100
   ·rw[show(k.Quiet+1==100)=true from beq_iff_eq.2 h2,if_pos h2]
    simp only[fj6,fj8,aH3]
    rw[j6 (by omega) (by omega)]
    exact⟨_,rfl⟩
   ·rw[show(k.Quiet+1==100)=false from beq_eq_false_iff_ne.2 h2,if_neg h2]
    simp only[fj6,aH3]
    rw[j6 (by omega) (by omega)]
    exact⟨_,rfl⟩
 ·rw[eS0]
  unfold kst
  split
  ·exact⟨by simp only;omega,by simp only;omega,by simp only;omega⟩
  ·split
   ·exact⟨by simp only;omega,by simp only;omega,by simp only;omega⟩
   ·exact⟨by simp only;omega,by simp only;omega,by simp only;omega⟩
def ksV (l:List B8)(m:List Int):List B8:=List.zipWith kst l m
theorem eL2 {l:List B8}{m:List Int}(h:l.all knB=true)(hm:m.all (inR 0 4095)=true)(hl:1<=l.length/\l.length<=8)(he:m.length=l.length):
  aV1 l m=some (ksV l m,0)/\(ksV l m).all knB=true/\(ksV l m).length=l.length:=by
 rw[bN8]at h hm
 have hlen:(ksV l m).length=l.length:=by unfold ksV;rw[List.length_zipWith];omega
 have cX6:∀j (h1:j<l.length) (h2:j<m.length),(ksV l m)[j]? =some (kst l[j] m[j]):=by
  intro j h1 h2
  unfold ksV
  rw[List.getElem?_zipWith,aK2 h1,aK2 h2]
 have hk:∀j (h1:j<l.length) (h2:j<m.length),(∃b,aH9 l[j] m[j]=some (kst l[j] m[j],b))/\knB (kst l[j] m[j])=true:=fun j h1 h2=>eS1 (h _ (ba6 h1)) (hm _ (ba6 h2))
 refine⟨?_,?_,hlen⟩
 ·have a1:J3 l aA7=some (l.any fun k=>!knB k):=ai0 l (by omega) aA7 _ (fun k _=>by unfold aA7;rw[eL0];rfl)
  have a2:o7 m aG1=some (m.any fun k=>!inR 0 4095 k):=ap7 m (by omega) aG1 _ (fun k _=>rfl)
  have b1:(l.any fun k=>!knB k)=false:=by rw[ds5];intro x hx;rw[h x hx];simp
  have b2:(m.any fun k=>!inR 0 4095 k)=false:=by rw[ds5];intro x hx;rw[hm x hx];simp
  unfold aV1
  rw[show(((decide ((l.length:Int)<1))||(decide ((l.length:Int)>8)))||((m.length:Int) !=(l.length:Int)))=false by simp;omega,a1,b1,a2,b2]
  simp only[fj6,aH3]
  unfold ad1
  rw[H7 _ _ (by simp;omega)]
  simp only[aH3,cL8]
  obtain⟨u,e,hu⟩:=ai6 l.length (by omega) (aM2 l m) (fun i u=>u.length=l.length/\∀j,j<i->u[j]? =(ksV l m)[j]?) l ⟨rfl,fun j hj=>by omega⟩ (fun j hj u hu=>by
   obtain⟨⟨b,hb⟩,_⟩:=hk j hj (by omega)
   unfold aM2
   rw[C7 _ _ hj,C7 _ _ (show j<m.length by omega)]
   simp only[aH3]
   rw[hb]
   simp only[aH3]
   rw[C7 _ _ (by omega)]
   simp only[aH3]
   rw[T6 _ _ _ (by omega)]
   refine⟨_,rfl,by simp[hu.1],fun i hi=>?_⟩
   rcases da9 i j with h|h
   ·rw[eX0 (by omega)];exact hu.2 i h
   ·have:i=j:=by omega
    subst this
    rw[eR0 (by omega),cX6 i hj (by omega)])
  rw[e]
  have:u=ksV l m:=by
   apply List.ext_getElem?
   intro i
   rcases da9 i l.length with h|h
   ·exact hu.2 i h
   ·rw[ea1 (by omega),ea1 (by omega)]
  rw[this]
  rfl
 ·rw[bN8]
  intro x hx
  obtain⟨j,hj,rfl⟩:=cY8.1 hx
  have h1:j<l.length:=by omega
  have:=cX6 j h1 (by omega)
  rw[aK2 hj]at this
  rw[Option.some.inj this]
  exact(hk j h1 (by omega)).2
structure eX9 (p:M8):Prop where
 f:750<=p.aj8/\p.aj8<=1250
 w:0<=p.be1/\p.be1<=1000
 n:p.Cells.length=9
 a:p.as8=true\/(p.aj8=1000/\p.be1=0/\p.be0=false)
 c:p.Cells.all da6=true
theorem eq1 {p:M8}:cQ4 p=true↔eX9 p:=by
 unfold cQ4
 simp only[aJ5,ba4,fk4,cG1,bO4]
 exact⟨fun⟨⟨⟨⟨a,b⟩,c⟩,d⟩,e⟩=>⟨a,b,c,d.imp_right (fun h=>⟨h.1.1,h.1.2,h.2⟩),e⟩,fun⟨a,b,c,d,e⟩=>⟨⟨⟨⟨a,b⟩,c⟩,d.imp_right (fun h=>⟨⟨h.1,h.2.1⟩,h.2.2⟩)⟩,e⟩⟩
def mxR (p:M8)(m:Int):Bool:=decide (m>500)||(decide (m>=400)&&p.be0)
def mxV (p:M8)(m:Int):M8:=
 bif p.as8 then
  (bif mxR p m==p.be0 then⟨true,mxR p m,min (max (p.aj8+bif mxR p m then -1 else 1) 750) 1250,min 1000 (p.be1+1),p.Cells⟩
  else⟨true,mxR p m,min (max (p.aj8+bif mxR p m then -15 else 15) 750) 1250,0,p.Cells⟩)
 else⟨decide (m<300)||decide (m>600),decide (m>600),p.aj8,p.be1,p.Cells⟩
theorem eS4 (x lo hi:Int):R9 x lo hi=some (inR lo hi x):=rfl
theorem dy3 (s c:Int):ac2 s c=some (inR 0 12000 s&&inR 0 1048576 c):=by
 unfold ac2
 rw[eS4,eS4]
 cases inR 0 12000 s<;>rfl
theorem df0 {p:M8}(h:cQ4 p=true){m s c:Int}(m0:0<=m/\m<=20000)(s0:0<=s/\s<=12000)(c0:0<=c/\c<=1048576):az4 p m s c=some (mxV p m,0)/\cQ4 (mxV p m)=true:=by
 have k:=eq1.1 h
 have k1:=k.f;have k2:=k.w;have k3:=k.n
 constructor
 ·unfold az4 ax2 ag5 mxV
  rw[dI9,h,dy3,R4 s0.1 s0.2,R4 c0.1 c0.2,eS4,R4 m0.1 m0.2,H7 _ _ (by simp;omega)]
  simp only[aH3,aP9,fj6,Bool.and_self,cL8]
  cases ha:p.as8
  ·rfl
  ·simp only[aP9,fj6,fj8]
   have hr:(bif (decide (m>500))then(some true)else(some ((decide (m>=400))&&p.be0)))=some (mxR p m):=by unfold mxR;cases decide (m>500)<;>rfl
   rw[hr,j6 (n:=p.be1+1) (by omega) (by omega)]
   simp only[aH3,aq3]
   cases mxR p m==p.be0
   ·simp only[cI0,fj8,fj6,aH3]
    cases mxR p m
    ·simp only[fj6,aH3,aC7,aq3,ao3]
     rw[j6 (by omega) (by omega)]
    ·simp only[fj8,aH3,aC7,aq3,ao3]
     rw[j6 (n:=0-15) (by omega) (by omega),j6 (by omega) (by omega)]
     rfl
   ·simp only[aP9,fj8,fj6,aH3]
    cases mxR p m
    ·simp only[fj6,aH3,aC7,aq3,ao3]
     rw[j6 (by omega) (by omega)]
    ·simp only[fj8,aH3,aC7,aq3,ao3]
     rw[j6 (n:=0-1) (by omega) (by omega),j6 (by omega) (by omega)]
     rfl
 ·rw[eq1]
  unfold mxV
  cases ha:p.as8
  ·have a:=k.a
   rw[ha]at a
   obtain⟨a1,a2,a3⟩:=a.resolve_left (by simp)
   refine⟨k1,k2,k3,?_,k.c⟩
   by_cases hm:m>600
   ·exact .inl (by show(decide (m<300)||decide (m>600))=true;rw[fk0 hm,Bool.or_true])
   ·exact .inr ⟨a1,a2,fk3 hm⟩
  ·simp only[fj8]
   cases mxR p m==p.be0
   ·exact⟨by simp only[fj6];omega,by simp only[fj6];omega,k3,.inl rfl,k.c⟩
   ·exact⟨by simp only[fj8];omega,by simp only[fj8];omega,k3,.inl rfl,k.c⟩
def dj9 (x a b:Int):Nat:=if x>=b then 2 else if x>=a then 1 else 0
theorem ej9 (x a b:Int)(hab:a<=b):ak5 x [a,b]=some (dj9 x a b:Int):=by
 have w1:o4 ((0:Int)+1)=1:=by decide
 have w2:o4 ((1:Int)+1)=2:=by decide
 unfold ak5 dj9
 rw[K8 _ (by simp)]
 simp only[L9,aB9]
 by_cases h1:x>=a
 ·by_cases h2:x>=b
  ·rw[fk0 h1,fk0 h2,if_pos h2]
   simp only[fj8,aH3,w1,w2];rfl
  ·rw[fk0 h1,fk3 h2,if_neg h2,if_pos h1]
   simp only[fj8,fj6,aH3,w1];rfl
 ·have h2:¬x>=b:=by omega
  rw[fk3 h1,fk3 h2,if_neg h2,if_neg h1]
  simp only[fj6,aH3];rfl
theorem db5 (x a b:Int):dj9 x a b<=2:=by unfold dj9;split;omega;split<;>omega
def dr9 (s c:Int):Nat:=3*dj9 s 1500 3500+dj9 c 150000 350000
def cO1 (p:M8)(s c:Int):Int:=min (max (p.aj8+(p.Cells.getD (dr9 s c) ⟨0,0⟩).Value) 700) 1300
theorem eQ1 {p:M8}(h:cQ4 p=true){s c:Int}(s0:0<=s/\s<=12000)(c0:0<=c/\c<=1048576):aq4 p s c=some (cO1 p s c,0):=by
 have k:=eq1.1 h
 have k1:=k.f;have k3:=k.n
 have q1:=db5 s 1500 3500
 have q2:=db5 c 150000 350000
 have hc:dr9 s c<p.Cells.length:=by unfold dr9;omega
 have cm2:=bN8.1 k.c _ (ba6 hc)
 unfold da6 at cm2
 rw[aJ5,ba4]at cm2
 have hv:=cm2.1
 unfold aq4 aG2
 rw[dI9,h,dy3,R4 s0.1 s0.2,R4 c0.1 c0.2,ej9 _ _ _ (by omega),ej9 _ _ _ (by omega)]
 simp only[aH3,aP9,fj6,Bool.and_self]
 rw[j6 (n:=3*(dj9 s 1500 3500:Int)) (by omega) (by omega),j6 (by omega) (by omega),show 3*(dj9 s 1500 3500:Int)+(dj9 c 150000 350000:Int)=((dr9 s c:Nat):Int) by unfold dr9;omega,C7 _ _ hc]
 simp only[aH3]
 unfold cO1
 rw[j6 (by omega) (by omega),aC7,aq3,ao3,cW2,aK2 hc]
 rfl
theorem dW9 (p:M8)(s c:Int):700<=cO1 p s c/\cO1 p s c<=1300:=by unfold cO1;omega
theorem cO0 (x lo hi:Int):ae9 x lo hi=some (inR lo hi x):=rfl
theorem em8 {c:Int}(c0:0<=c/\c<=1048576):aU8 c 1000=some (c*10000/147000,0):=by
 unfold aU8
 rw[cO0,cO0,R4 c0.1 c0.2,show inR 500 2000 1000=true from rfl]
 simp only[aH3,aP9,fj6]
 rw[j6 (n:=c*10000) (by omega) (by omega),j6 (n:=1000*147) (by omega) (by omega),eG4 (by omega) (by omega) (by omega)]
 rfl
theorem du0 {b:L4}(h:aW2 b=true):aJ4 b=some true:=by
 have k:=bs7 h
 have k1:=k.fi;have k2:=k.ev
 unfold aJ4
 rw[cO0,cO0,R4 k1.1 k1.2,R4 (show 0<=b.L2 by omega) k2.2]
 rfl
def aT0 (b:L4)(i:Int):Int:=i*b.P0/1024
def ay3 (b:L4)(f:Int):Int:=f*b.L2/1024
theorem cV3 {b:L4}(h:aW2 b=true){i:Int}(i0:0<=i):0<=aT0 b i/\aT0 b i<=i:=by
 have k:=(bs7 h).fi
 have b1:=aV6 (A:=i) i0 (do8 i) k.1 k.2
 unfold aT0;omega
theorem bz3 {b:L4}(h:aW2 b=true){i:Int}(i0:0<=i):0<=ay3 b i/\ay3 b i<=i:=by
 have k:=(bs7 h).ev
 have b1:=aV6 (A:=i) i0 (do8 i) (show 0<=b.L2 by omega) k.2
 unfold ay3;omega
theorem cO8 {b:L4}(h:aW2 b=true){f i:Int}(f0:0<=f/\f<=1073741824)(i0:0<=i/\i<=1048576):aB8 b f i=some (i-aT0 b i+ay3 b f,f+aT0 b i-ay3 b f):=by
 have k:=bs7 h
 have k1:=k.fi;have k2:=k.ev
 have b1:=aV6 i0.1 i0.2 k1.1 k1.2
 have b2:=aV6 f0.1 f0.2 (show 0<=b.L2 by omega) k2.2
 have r1:=cV3 h i0.1
 have r2:=bz3 h f0.1
 have e1:o4 (da1 (o4 (i*b.P0)) 1024)=aT0 b i:=by
  unfold aT0 at r1|-
  rw[j6 (n:=i*b.P0) (by omega) (by omega),cr3 b1.1,j6 (by omega) (by omega)]
 have e2:o4 (da1 (o4 (f*b.L2)) 1024)=ay3 b f:=by
  unfold ay3 at r2|-
  rw[j6 (n:=f*b.L2) (by omega) (by omega),cr3 b2.1,j6 (by omega) (by omega)]
 unfold aB8
 rw[e1,e2,j6 (n:=i-aT0 b i) (by omega) (by omega),j6 (n:=f+aT0 b i) (by omega) (by omega),j6 (by omega) (by omega),j6 (by omega) (by omega)]
theorem em3 {b:L4}(h:aW2 b=true){f:Int}(f0:0<=f/\f<=1073741824):aO8 b f 0=some (ay3 b f,f-ay3 b f,0):=by
 have r2:=bz3 h f0.1
 have e0:aT0 b 0=0:=by unfold aT0;rw[Int.zero_mul];rfl
 unfold aO8
 rw[du0 h,cO0,cO0,R4 f0.1 f0.2,show inR 0 1048576 0=true from rfl,cO8 h f0 ⟨by omega,by omega⟩,e0]
 simp only[aH3,aP9,fj6]
 rw[fk3 (show¬(f+0-ay3 b f>1073741824) by omega),show(0:Int)-0+ay3 b f=ay3 b f by omega,show f+0-ay3 b f=f-ay3 b f by omega]
 rfl
theorem eC7 (f:Int->Option Int):aM8 f=ab4 (fun x=>ai5 (f x) fun v=>some (!decide (v>0))):=by
 funext s
 unfold aM8 ab4
 cases decide (s.1<s.2)
 ·rfl
 ·simp only[fj8]
  cases f (o4 (F4 .u64 (aX3.wrap (o4 (s.1+s.2))) 1))with
  |none=>rfl
  |some v=>simp only[aH3,eD9]
theorem find_spec (n:Nat)(hn:n<=2305843009213693951)(f:Int->Option Int)(g:Nat->Int)(hf:∀i,i<n->f (i:Int)=some (g i)):
  ∃(k:Nat) (b:Bool),k<=n/\aP1 (n:Int) f=some ((k:Int),b)/\(0<k->g (k-1)>0)/\(k<n->g k<=0):=by
 obtain⟨k,k1,k2,k3,k4⟩:=aS5 n hn (fun x=>ai5 (f x) fun v=>some (!decide (v>0))) (fun i=>!decide (g i>0)) (fun i hi=>by simp only[hf i hi,aH3])
 unfold P8 at k2
 have h3:0<k->g (k-1)>0:=fun h=>by have:=k3 h;simp at this;omega
 have h4:k<n->g k<=0:=fun h=>by have:=k4 h;simp at this;omega
 unfold aP1
 rw[eC7]
 cases hl:L5 (ab4 (fun x=>ai5 (f x) fun v=>some (!decide (v>0)))) (0,(n:Int))with
 |none=>rw[hl]at k2;cases k2
 |some t=>
  rw[hl]at k2
  cases t with
  |inr r=>exact r.elim
  |inl s2=>
   simp only[aH3,aI5]at k2
   simp only[aH3]
   rw[k2]
   rcases da9 k n with h|h
   ·rw[fk0 (show(k:Int)<(n:Int) by omega),hf k h]
    exact⟨k,_,k1,rfl,h3,h4⟩
   ·rw[fk3 (show¬(k:Int)<(n:Int) by omega)]
    exact⟨k,_,k1,rfl,h3,h4⟩
structure ef5 (b:L4)(f m i x e:Int):Prop where
 out:e=0\/e=9
 inj:e=0->0<=i/\i<=1048576
 aF8:e=0->x=f+aT0 b i-ay3 b f
 ran:e=0->0<=x/\x<=1073741824
 fit:e=0->m<=i-aT0 b i+ay3 b f
 low:e=0->0<i->(i-1)-aT0 b (i-1)+ay3 b f<m
 big:e=9->1048576-aT0 b 1048576+ay3 b f<m\/∃j,0<=j/\j<=1048576/\m<=j-aT0 b j+ay3 b f/\(0<j->(j-1)-aT0 b (j-1)+ay3 b f<m)/\1073741824<f+aT0 b j-ay3 b f
theorem en3 {b:L4}(h:aW2 b=true){f m:Int}(f0:0<=f/\f<=1073741824)(m0:0<=m/\m<=1048576):∃i x e,aJ3 b f m=some (i,x,e)/\ef5 b f m i x e:=by
 have r2:=bz3 h f0.1
 have r1:∀i:Int,0<=i->0<=aT0 b i/\aT0 b i<=i:=fun i hi=>cV3 h hi
 unfold aJ3
 rw[du0 h,cO0,cO0,R4 f0.1 f0.2,R4 m0.1 m0.2]
 simp only[aH3,aP9,fj6]
 obtain⟨k,q,k1,k2,k3,k4⟩:=find_spec 1048577 (by omega) (fun x0=>aA6 x0 b f m) (fun i=>m-((i:Int)-aT0 b (i:Int)+ay3 b f)) (fun i hi=>by
  have:=r1 (i:Int) (by omega)
  unfold aA6
  rw[cO8 h f0 ⟨by omega,by omega⟩]
  simp only[aH3]
  rw[j6 (by omega) (by omega)])
 have k2':aP1 1048577 (fun x0=>aA6 x0 b f m)=some ((k:Int),q):=k2
 rw[k2']
 simp only[aH3]
 by_cases hk:k=1048577
 ·subst hk
  refine⟨0,0,9,rfl,.inr rfl,fun h=>(by cases h),fun h=>(by cases h),fun h=>(by cases h),fun h=>(by cases h),fun h=>(by cases h),fun _=>.inl ?_⟩
  have:=k3 (by omega)
  rw[show(((1048577-1:Nat):Int))=1048576 by omega]at this
  omega
 ·have k4':=k4 (by omega)
  have rk:=r1 (k:Int) (by omega)
  rw[fk3 (show¬((k:Int)>1048576) by omega),cO8 h f0 ⟨by omega,by omega⟩]
  simp only[fj6,aH3]
  have dX7:0<(k:Int)->((k:Int)-1)-aT0 b ((k:Int)-1)+ay3 b f<m:=fun hp=>by
   have:=k3 (by omega)
   rw[show((k-1:Nat):Int)=(k:Int)-1 by omega]at this
   omega
  by_cases hb:f+aT0 b (k:Int)-ay3 b f>1073741824
  ·rw[fk0 hb]
   exact⟨0,0,9,rfl,.inr rfl,fun h=>(by cases h),fun h=>(by cases h),fun h=>(by cases h),fun h=>(by cases h),fun h=>(by cases h),fun _=>.inr ⟨(k:Int),by omega,by omega,by omega,dX7,by omega⟩⟩
  ·rw[fk3 hb]
   exact⟨(k:Int),_,0,rfl,.inl rfl,fun _=>⟨by omega,by omega⟩,fun _=>rfl,fun _=>⟨by omega,by omega⟩,fun _=>by omega,fun _=>dX7,fun h=>(by cases h)⟩
theorem dO3 {t:o8}(h:(bx0 t.aw2&&t.aw2.Y.all (inR 0 10000))=true){a v:Int}(a0:0<=a/\a<=1048576)(v0:0<=v/\v<=20000):aB7 t a v=some (cAt t.aw2 v,0)/\0<=cAt t.aw2 v/\cAt t.aw2 v<=10000:=by
 rw[aJ5]at h
 obtain⟨h1,h2⟩:=h
 have hl:=(bm4 h1).yl
 have hx:=(bm4 h1).x.most
 have hb:=cd5 h1 v (eW6 h1 h2)
 refine⟨?_,hb⟩
 have e:o7 t.aw2.Y aF9=some (t.aw2.Y.any fun y=>!inR 0 10000 y):=ap7 _ (by omega) _ _ (fun y _=>rfl)
 have e2:(t.aw2.Y.any fun y=>!inR 0 10000 y)=false:=by
  rw[ds5]
  intro y hy
  rw[bN8.1 h2 y hy];simp
 unfold aB7
 rw[ap9,h1,e,e2,cO0,cO0,R4 a0.1 a0.2,R4 v0.1 v0.2,dF2 h1]
 rfl
def eW4 (m:Int):Int:=-((-m)/3)
theorem en0 {t:o8}(h:(bx0 t.aw2&&t.aw2.Y.all (inR 0 10000))=true){a v:Int}(a0:0<a/\a<=1048576)(v0:0<=v/\v<=20000):aO9 t a v=some (cAt t.aw2 v+eW4 a,0):=by
 obtain⟨h1,h2⟩:=dO3 h (a:=a) (by omega) v0
 unfold aO9 am7 eW4
 rw[h1,bX2 _ _ 2 (by omega) (by omega) (by omega) (by omega) (.inr rfl)]
 simp only[aH3]
 rw[show(((0:Int) !=0)||(a==0))=false by rw[bZ2];exact⟨rfl,beq_eq_false_iff_ne.2 (by omega)⟩]
 simp only[fj6]
 rw[if_neg (by decide),j6 (by omega) (by omega)]
theorem dZ4 {t:o8}(h:(bx0 t.aw2&&t.aw2.Y.all (inR 0 10000))=true){a v:Int}(a0:0<=a/\a<=1048576)(v0:0<=v/\v<=20000):aA5 t a v=some (3*max 0 (a-cAt t.aw2 v),0):=by
 obtain⟨h1,h2⟩:=dO3 h a0 v0
 unfold aA5
 rw[h1]
 simp only[aH3]
 rw[show(((0:Int) !=0))=false from rfl,j6 (n:=a-cAt t.aw2 v) (by omega) (by omega),ao3]
 simp only[fj6]
 rw[j6 (by omega) (by omega)]
theorem bE8 (x lo hi:Int):Q5 x lo hi=some (inR lo hi x):=rfl
theorem cx5 (l:List Int)(h:l.length<=9223372036854775807)(lo hi:Int):ac7 l lo hi=some (!l.all (inR lo hi)):=by
 unfold ac7
 rw[ap7 l h (fun x0=>as7 x0 lo hi) (fun x=>!inR lo hi x) (fun y _=>rfl),aH3,dO9]
 simp only[eD9]
theorem dz4 {t:o8}(h:bK9 t=true)(ht:aZ4 t=true):ax7 t=some true:=by
 have hc:=dC0 ht
 unfold bK9 at h
 unfold aZ4 at ht
 simp only[aJ5]at h ht
 obtain⟨⟨⟨h1,h2⟩,h3⟩,h4⟩:=h
 obtain⟨⟨⟨⟨_,_⟩,t3⟩,t4⟩,_⟩:=ht
 have hm:=ca3 h1
 have zl:=hm.zl
 have xm:=hm.x.most
 have ym:=hm.y.most
 have a1:=(bm4 h2).x.most
 have a2:=(bm4 h2).yl
 have b0:=bm4 hc
 have b1:=b0.x.most
 have b2:=b0.yl
 have hf:aG8 t.C3.Y=some true:=by
  have e:H9 t.C3.Y aA8=some (cz6 t.C3.Y):=de1 t.C3.Y (by omega) (fun i hi=>b0.el i (by omega))
  unfold aG8
  rw[e,t4];rfl
 have hz:G0 t.O0.Z aw0=some (t.O0.Z.any fun r=>!r.all (inR (-1280) 3840)):=ai0 _ (by omega) _ _ (fun r hr=>by
  obtain⟨k,hk,rfl⟩:=cY8.1 hr
  have rl:=hm.rl k hk
  unfold aw0
  rw[cx5 _ (by omega)];rfl)
 have hz2:(t.O0.Z.any fun r=>!r.all (inR (-1280) 3840))=false:=by
  rw[ds5]
  intro r hr
  rw[bN8.1 h3 r hr];simp
 unfold ax7
 rw[ao1,h1,ap9,h2,ap9,hc,hf,hz,hz2,cx5 _ (by omega),cx5 _ (by omega),h4,t3]
 rfl
def cu7 (t:o8)(v k:Int):Int:=min (cAt t.ae7 v) (3*k/4)
theorem el5 {t:o8}(h:bK9 t=true)(ht:aZ4 t=true){v k:Int}(v0:0<=v/\v<=20000)(k0:4000<=k/\k<=1000000):aG7 t v k=some (cu7 t v k,0)/\500<=cu7 t v k/\cu7 t v k<=10000:=by
 have hh:=h
 unfold bK9 at hh
 simp only[aJ5]at hh
 have hb:=cd5 hh.1.1.2 v (eW6 hh.1.1.2 hh.2)
 unfold aG7 cu7
 rw[dz4 h ht,bE8,bE8,R4 v0.1 v0.2,R4 k0.1 k0.2,dF2 hh.1.1.2]
 simp only[aH3,aP9,fj6]
 rw[j6 (n:=3*k) (by omega) (by omega),cr3 (by omega),j6 (by omega) (by omega),aq3]
 exact⟨rfl,by omega,by omega⟩
def dU4 (t:o8)(s c q r:Int):Int:=
 min (max (sAt t.O0 s c+(if q<20 then 2*(20-q)else if q>100 then -(8*(q-100))else 0)-r) (-1280)) 3840
theorem eg6 {t:o8}(h:bK9 t=true)(ht:aZ4 t=true){s c q r:Int}(s0:0<=s/\s<=12000)(c0:0<=c/\c<=1048576)(q0:-40<=q/\q<=150)(r0:0<=r/\r<=1280):aG6 t s c q r=some (dU4 t s c q r,0):=by
 have hh:=h
 unfold bK9 at hh
 simp only[aJ5]at hh
 have hb:=cg4 hh.1.1.1 s c (ff5 hh.1.1.1 (fun r hr=>bN8.1 hh.1.2 r hr))
 have e:aM9 t s c=some (sAt t.O0 s c,0):=by
  unfold aM9
  rw[dz4 h ht,bE8,bE8,R4 s0.1 s0.2,R4 c0.1 c0.2,cT3 hh.1.1.1]
  rfl
 unfold aG6 dU4
 rw[e]
 simp only[aH3]
 rw[show(((0:Int) !=0))=false from rfl,bE8,bE8,R4 q0.1 q0.2,R4 r0.1 r0.2]
 simp only[fj6,aH3,aP9]
 generalize sAt t.O0 s c=z at hb
 by_cases h1:q<20
 ·rw[fk0 h1,if_pos h1]
  simp only[fj8]
  rw[j6 (n:=20-q) (by omega) (by omega),j6 (n:=2*(20-q)) (by omega) (by omega),j6 (n:=z+2*(20-q)) (by omega) (by omega),j6 (by omega) (by omega),aC7,aq3,ao3]
  rfl
 ·rw[fk3 h1,if_neg h1]
  simp only[fj6]
  by_cases h2:q>100
  ·rw[fk0 h2,if_pos h2]
   simp only[fj8]
   rw[j6 (n:=q-100) (by omega) (by omega),j6 (n:=8*(q-100)) (by omega) (by omega),j6 (n:=z-8*(q-100)) (by omega) (by omega),j6 (by omega) (by omega),aC7,aq3,ao3]
   rfl
  ·rw[fk3 h2,if_neg h2]
   simp only[fj6]
   rw[j6 (by omega) (by omega),aC7,aq3,ao3,Int.add_zero]
   rfl
theorem dU5 (t:o8)(s c q r:Int):-1280<=dU4 t s c q r/\dU4 t s c q r<=3840:=by unfold dU4;omega
end Go.Pv
namespace Go.Pv.Ar
open Go Go.Pv
theorem da4 {α:Type}(c:Bool)(x y:α):(bif c then some x else some y)=some (bif c then x else y):=by cases c<;>rfl
def co7 (r:j2):Prop:=(0<=r.N4/\r.N4<=15)/\(0<=r.E7/\r.E7<=15)/\(-5000<=r.p7/\r.p7<=10000)/\(r.Kind=1\/(r.N4<=1/\(r.Kind=2\/r.Kind=3)))
instance (r:j2):Decidable (co7 r):=by unfold co7;infer_instance
theorem ao1 (r:j2):S1 r=some (decide (co7 r)):=by
 unfold S1 P1
 simp only[aH3,da4]
 rw[aI5,dC6,fk4]
 unfold co7
 simp only[Bool.cond_true_left,Bool.cond_false_left,Bool.cond_false_right,cG1,aJ5,bO4,bZ2,dT6,fk4,fk7,beq_iff_eq,ge_iff_le]
 omega
def aZ4 (t:Int):Bool:=decide (t>= -5000)&&decide (t<=10000)
def eb9 (low high:Int):Bool:=(!aZ4 low|| !aZ4 high)||decide (low>high)
def dV6 (l:List j2):Bool:=l.any fun r=>!decide (co7 r)
def chk (l:List j2)(low high:Int):Int:=bif dV6 l then 1 else bif decide ((l.length:Int)>32)then 5 else bif eb9 low high then 2 else 0
theorem eI3 (low high:Int):(ai5 (some (aZ4 low)) fun v2=>ai5 (bif (!v2)then(some true)else(ai5 (some (aZ4 high)) fun v3=>some (!v3))) fun b2=>bif (b2||(decide (low>high)))then(some (2:Int))else(some 0))=some (bif eb9 low high then 2 else 0):=by
 unfold eb9
 cases aZ4 low<;>cases aZ4 high<;>cases decide (low>high)<;>rfl
theorem en4 (l:List j2)(low high:Int)(hl:l.length<=1000):av2 l low high=some (chk l low high):=by
 unfold av2 chk
 have k:=ai0 l (by omega) ah0 (fun r=>!decide (co7 r)) (fun y _=>by unfold ah0;rw[ao1];rfl)
 have k':D8 l ah0=some (dV6 l):=k
 rw[k']
 simp only[aH3]
 cases dV6 l
 ·simp only[fj6]
  cases decide ((l.length:Int)>32)
  ·simp only[fj6]
   exact eI3 low high
  ·rfl
 ·rfl
structure cW0 (l:List j2)(low high:Int):Prop where
 req:∀r∈l,co7 r
 len:l.length<=32
 lo:-5000<=low
 hi:high<=10000
 ord:low<=high
theorem ej6 {l:List j2}{low high:Int}:chk l low high=0↔cW0 l low high:=by
 have hb:dV6 l=false↔∀r∈l,co7 r:=by
  unfold dV6
  rw[ds5]
  constructor
  ·intro h r hr;simpa using h r hr
  ·intro h r hr;simpa using h r hr
 have hr:eb9 low high=false↔(-5000<=low/\low<=10000/\ -5000<=high/\high<=10000/\low<=high):=by
  unfold eb9 aZ4
  simp only[bZ2,dT6,aJ5,fk4,fk7]
  omega
 unfold chk
 constructor
 ·intro h
  cases h1:dV6 l<;>rw[h1]at h
  ·cases h2:decide ((l.length:Int)>32)<;>rw[h2]at h
   ·cases h3:eb9 low high<;>rw[h3]at h
    ·have h4:=hr.1 h3
     have h5:¬((l.length:Int)>32):=of_decide_eq_false h2
     exact⟨hb.1 h1,by omega,by omega,by omega,by omega⟩
    ·cases h
   ·cases h
  ·cases h
 ·intro h
  rw[hb.2 h.req,hr.2 (by have:=h.lo;have:=h.hi;have:=h.ord;omega),fk3 (show¬((l.length:Int)>32) by have:=h.len;omega)]
  rfl
def ins (s:u3)(r:j2):Int:=G7 s.low (F5 s.high r.p7)
def nlo (s:u3)(r:j2):Int:=if r.Kind=1 then s.low else ins s r
def nhi (s:u3)(r:j2):Int:=if r.Kind=2 then s.high else ins s r
def stp (s:u3)(r:j2):u3:=⟨nlo s r,nhi s r,if nlo s r=s.low then s.source else r.N4⟩
def chg (s:u3)(r:j2):Bool:=!(decide (nlo s r=s.low)&&decide (nhi s r=s.high))
theorem dY2 {s:u3}{r:j2}(h:s.low<=s.high):s.low<=ins s r/\ins s r<=s.high:=by
 unfold ins G7 F5;split<;>split<;>omega
theorem dg5 {s:u3}{r:j2}(h:s.low<=s.high):s.low<=(stp s r).low/\(stp s r).low<=(stp s r).high/\(stp s r).high<=s.high:=by
 have:=dY2 (r:=r) h
 unfold stp nlo nhi
 simp only
 split<;>split<;>omega
theorem cQ5 (s:u3)(r:j2)(lo hi:Int):(ai5 (bif (lo !=s.low)then(some r.N4)else(some s.source)) fun(f3:Int)=>bif (lo !=s.low)then(some (true,(⟨lo,hi,f3⟩:u3)))else(some ((hi !=s.high),(⟨lo,hi,f3⟩:u3))))=some (!(decide (lo=s.low)&&decide (hi=s.high)),⟨lo,hi,if lo=s.low then s.source else r.N4⟩):=by
 by_cases h1:lo=s.low
 ·rw[show(lo !=s.low)=false by simpa using h1,fk0 h1,if_pos h1];rfl
 ·rw[show(lo !=s.low)=true by simpa using h1,fk3 h1,if_neg h1];rfl
theorem ea2 (s:u3)(r:j2)(h:s.low<=s.high)(hk:r.Kind=1\/r.Kind=2\/r.Kind=3):W6 s r=some (chg s r,stp s r):=by
 have e1:G7 s.low (F5 s.high r.p7)=ins s r:=rfl
 have e2:F5 s.high (G7 s.low r.p7)=ins s r:=by
  unfold ins G7 F5;repeat' split
  all_goals omega
 have e3:F5 (G7 r.p7 s.low) s.high=ins s r:=by
  unfold ins G7 F5;repeat' split
  all_goals omega
 unfold W6 ac9 Z0 Z2 C6
 simp only[aH3]
 rw[e1,e2,e3]
 unfold stp chg nlo nhi
 rcases hk with hk|hk|hk
 ·rw[hk]
  exact cQ5 s r s.low (ins s r)
 ·rw[hk]
  exact cQ5 s r (ins s r) s.high
 ·rw[hk]
  exact cQ5 s r (ins s r) (ins s r)
def lev (l:List j2)(j:Nat):List j2:=l.filter fun r=>r.E7==15-(j:Int)
def dx3 (l:List j2)(k:Nat):List j2:=(dp9 k).flatMap (lev l)
abbrev cR2 (l:List j2):List j2:=dx3 l 16
theorem df2 (l:List j2)(k:Nat):dx3 l (k+1)=dx3 l k++lev l k:=by
 unfold dx3;rw[List.range_succ,List.flatMap_append,List.flatMap_singleton]
def DR (r:j2):Prop:=0<=r.E7/\r.E7<=15
theorem bJ6 {x y:j2}(hx:DR x)(hy:DR y):ltM O3 x y=decide (y.E7<x.E7):=by
 unfold DR at hx hy
 unfold ltM O3
 rw[Option.getD_some,j6 (by omega) (by omega),decide_eq_decide]
 omega
theorem dL4:SW DR O3 where
 ans:=fun x y _ _=>⟨_,rfl⟩
 asym:=fun x y hx hy=>by rw[bJ6 hx hy,bJ6 hy hx,fk4,fk7];omega
 ntrans:=fun x y z hx hy hz=>by rw[bJ6 hx hy,bJ6 hy hz,bJ6 hx hz];simp only[fk7];omega
theorem eC2 {x y:j2}(hx:DR x)(hy:DR y):eqv O3 x y=(y.E7==x.E7):=by
 unfold eqv
 rw[bJ6 hx hy,bJ6 hy hx,dC6]
 simp only[aJ5,bO4,fk7,beq_iff_eq]
 omega
theorem dw5 {l:List j2}{k:Nat}{r:j2}:r∈dx3 l k↔r∈l/\∃j,j<k/\r.E7=15-(j:Int):=by
 unfold dx3 lev
 rw[List.mem_flatMap]
 constructor
 ·rintro⟨j,hj,h⟩
  rw[dK5]at h
  exact⟨h.1,j,ee4.1 hj,by simpa using h.2⟩
 ·rintro⟨h,j,hj,hp⟩
  exact⟨j,ee4.2 hj,dK5.2 ⟨h,by simpa using hp⟩⟩
theorem cn0 {l:List j2}(h:bM7 DR l){r:j2}:r∈cR2 l↔r∈l:=by
 rw[dw5]
 constructor
 ·exact fun h=>h.1
 ·intro hr
  have:=h r hr
  unfold DR at this
  exact⟨hr,(15-r.E7).toNat,by omega,by omega⟩
theorem dx4 {l:List j2}(h:bM7 DR l):∀k,Srt O3 (dx3 l k)
 |0=>.nil
 |k+1=>by
  rw[df2]
  refine Srt.app (dx4 h k) ?_ fun a ha b hb=>?_
  ·unfold lev
   rw[Srt,List.pairwise_iff_getElem]
   intro i j hi hj _
   have m1:=dK5.1 (ba6 hi)
   have m2:=dK5.1 (ba6 hj)
   have p1:=m1.2
   simp only[beq_iff_eq]at p1
   have p2:=m2.2
   simp only[beq_iff_eq]at p2
   rw[bJ6 (h _ m2.1) (h _ m1.1),fk7]
   omega
  ·obtain⟨ha1,j,hj,hp⟩:=dw5.1 ha
   have m2:=dK5.1 hb
   have p2:=m2.2
   simp only[beq_iff_eq]at p2
   rw[bJ6 (h _ m2.1) (h _ ha1),fk7]
   omega
theorem cB2 (l:List j2)(p:Int):∀k,(dx3 l k).filter (fun r=>r.E7==p)=if 15-(k:Int)<p/\p<=15 then l.filter (fun r=>r.E7==p)else []
 |0=>by
  rw[if_neg (by omega)]
  rfl
 |k+1=>by
  rw[df2,cV9,cB2 l p k]
  unfold lev
  rw[List.filter_filter]
  by_cases hp:p=15-(k:Int)
  ·rw[if_neg (by omega),if_pos (by omega),cL8]
   congr 1
   funext r
   rw[<-hp]
   cases r.E7==p<;>rfl
  ·have:(l.filter fun a=>(a.E7==p)&&(a.E7==15-(k:Int)))=[]:=by
    rw[eq3]
    intro r _ h
    simp only[aJ5,beq_iff_eq]at h
    omega
   rw[this,cV6]
   by_cases h2:15-(k:Int)<p/\p<=15
   ·rw[if_pos h2,if_pos (by omega)]
   ·rw[if_neg h2,if_neg (by omega)]
theorem cT7 {l r:List j2}(h:bM7 DR l)(hs:Srt O3 r)(ht:Sta DR O3 l r):r=cR2 l:=by
 refine dA3 dL4 (ht.all h) (fun x hx=>h x ((cn0 h).1 hx)) hs (dx4 h 16) fun x hx=>?_
 rw[ht.same x hx]
 have e:∀m:List j2,bM7 DR m->m.filter (eqv O3 x)=m.filter (fun r=>r.E7==x.E7):=fun m hm=>List.filter_congr fun y hy=>eC2 hx (hm y hy)
 rw[e l h,e (cR2 l) (fun y hy=>h y ((cn0 h).1 hy)),cB2]
 unfold DR at hx
 rw[if_pos (by omega)]
theorem eo1:F3=ah8:=by kernel_rfl
theorem eH9 (l:List j2)(hl:l.length<=19)(g:j2->j2->Option Int):J7 l g=aU9 l g:=by
 unfold J7 aU9 N2 bo9
 have h1:decide ((20:Int)<=(l.length:Int))=false:=by simp;omega
 have h2:decide ((20:Int)<(l.length:Int))=false:=by simp;omega
 rw[E0 (b:=.inl (0,20,l)) (by unfold R5;rw[h1];rfl),E0 (b:=.inl (0,20,l)) (by unfold bb4;rw[h1];rfl),eo1]
 simp only[aH3]
 cases hx:ah8 l 0 (l.length:Int) g with
 |none=>rfl
 |some v=>
  simp only[aH3]
  rw[E0 (b:=.inl (20,v)) (by unfold R6;rw[h2];rfl),E0 (b:=.inl (20,v)) (by unfold bb5;rw[h2];rfl)]
  simp only[aH3]
def dec (s:u3):List j2->List Int
 |[]=>[]
 |r::l=>(bif chg s r then [r.N4]else [])++dec (stp s r) l
theorem dO4 (s:u3):∀l:List j2,(dec s l).length<=l.length
 |[]=>cq9 _
 |r::l=>by
  have:=dO4 (stp s r) l
  unfold dec
  cases chg s r
  ·simp only[fj6,cL8,bq0];omega
  ·simp only[fj8,aY1,bq0,cr1];omega
theorem eK2:∀(q:List j2) (i:Int) (acc:List Int) (s:u3),s.low<=s.high->(∀r∈q,r.Kind=1\/r.Kind=2\/r.Kind=3)->acc.length+q.length<=10000->
  L9 aj0 q i (acc,s)=some (.inl (acc++dec s q,q.foldl stp s))
 |[],i,acc,s,_,_,_=>by simp[L9,dec]
 |r::q,i,acc,s,hs,hk,hl=>by
  simp only[bq0]at hl
  have hr:=dg5 (r:=r) hs
  have hb:aj0 i r (acc,s)=some (.next (acc++(bif chg s r then [r.N4]else []),stp s r)):=by
   unfold aj0
   simp only
   rw[ea2 s r hs (hk r (by simp))]
   simp only[aH3]
   cases chg s r
   ·simp
   ·simp only[fj8]
    rw[H7 _ _ (by simp only[cr0];omega)]
    rfl
  simp only[L9,hb,aH3]
  rw[eK2 q (i+1) _ (stp s r) (by omega) (fun x hx=>hk x (by simp[hx])) (by rw[aY1];cases chg s r<;>simp<;>omega)]
  simp only[dec,ey7,List.append_assoc]
def s0 (low high:Int):u3:=⟨low,high,-1⟩
def fin (l:List j2)(low high:Int):u3:=(cR2 l).foldl stp (s0 low high)
def fk2 (l:List j2)(low high:Int):List Int:=bD4 ((dec (s0 low high) (cR2 l)).mergeSort fun x y=>decide (x<=y))
theorem cW0.dr {l:List j2}{low high:Int}(h:cW0 l low high):bM7 DR l:=fun r hr=>by
 have:=h.req r hr
 unfold co7 at this
 unfold DR;omega
theorem cW0.kinds {l:List j2}{low high:Int}(h:cW0 l low high):∀r∈l,r.Kind=1\/r.Kind=2\/r.Kind=3:=fun r hr=>by
 have:=h.req r hr
 unfold co7 at this
 omega
theorem er2 {l:List j2}{low high:Int}(h:cW0 l low high)(h19:l.length<=19):(cR2 l).length=l.length:=by
 obtain⟨r,h1,h2,h3⟩:=bX6 dL4 l h.dr h19
 rw[<-cT7 h.dr h2 h3,h3.len]
theorem dW5 {l:List j2}{low high:Int}(h:cW0 l low high)(h19:l.length<=19):ap5 l low high=some (fin l low high,fk2 l low high):=by
 unfold ap5 W4
 have hl:=h.len
 rw[H7 _ _ (by simp only[cr1];omega)]
 simp only[aH3,cL8]
 rw[eH9 _ h19]
 obtain⟨r,h1,h2,h3⟩:=bX6 dL4 l h.dr h19
 rw[h1,cT7 h.dr h2 h3]
 simp only[aH3]
 have hlen:=er2 h h19
 rw[K8 _ (by omega),eK2 (cR2 l) 0 [] ⟨low,high,-1⟩ h.ord (fun x hx=>h.kinds x ((cn0 h.dr).1 hx)) (by simp only[cr1];omega)]
 simp only[aH3,cL8]
 unfold aC0 ar8
 have hd:=dO4 (s0 low high) (cR2 l)
 rw[cx7 (show(dec (⟨low,high,-1⟩:u3) (cR2 l)).length<4611686018427387904 by unfold s0 at hd;omega)]
 simp only[aH3]
 rw[cz4 (by rw[List.length_mergeSort];unfold s0 at hd;omega)]
 rfl
theorem cO6:∀(q:List j2) (s:u3),s.low<=s.high->s.low<=(q.foldl stp s).low/\(q.foldl stp s).low<=(q.foldl stp s).high/\(q.foldl stp s).high<=s.high
 |[],s,h=>⟨do8 _,h,do8 _⟩
 |r::q,s,h=>by
  have h1:=dg5 (r:=r) h
  have h2:=cO6 q (stp s r) (by omega)
  rw[ey7]
  omega
theorem dc6 {l:List j2}{low high:Int}(h:low<=high):low<=(fin l low high).low/\(fin l low high).low<=(fin l low high).high/\(fin l low high).high<=high:=cO6 (cR2 l) (s0 low high) h
end Go.Pv.Ar

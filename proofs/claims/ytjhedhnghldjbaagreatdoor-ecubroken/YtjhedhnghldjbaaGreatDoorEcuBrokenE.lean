/- A part of the proof of EcuBroken: Plain models, and more. -/
import Derived.Test.YtjhedhnghldjbaaGreatDoorEcuBrokenD
import Derived.KernelRfl
set_option linter.all false
set_option maxRecDepth 100000
noncomputable section
open Bool renaming and_eq_false_iff->eD7,and_eq_true->aK5,and_false->eP0,and_true->eS9,eq_iff_iff->dq3,false_and->eg6,false_or->ec6,not_eq_false'->dQ6,not_eq_true'->bG5,not_false->cr8,not_not->eH7,not_true->aX5,or_eq_false_iff->cw7,or_eq_true->cH4,or_false->eN9,true_and->cA6
open Int renaming ediv_le_self->eD5,ediv_nonneg->eM5,le_refl->dj2,mul_le_mul->eP2,mul_le_mul_of_nonneg_left->dQ0,mul_nonneg->eP7,natAbs->fk1,tdiv->cW7,tdiv_eq_ediv_of_nonneg->cx1,tmod->dq1
open Go.IntKind renaming u64->ba6
open List renaming all_eq_true->bt1,any_eq_false->dE4,any_eq_not_all_not->dE7,append_nil->dq6,filter_append->dq4,filter_cons_of_pos->dS0,filter_eq_nil_iff->et4,filter_nil->eS3,foldl_cons->eh2,getD_eq_getElem?_getD->cY4,getElem?_eq_getElem->aX4,getElem?_eq_none->eE7,getElem?_set_ne->fb8,getElem_mem->bf3,length_append->bd4,length_cons->bu9,length_eq_zero_iff->eD0,length_nil->cJ8,length_replicate->fb5,length_singleton->cJ4,mem_cons->ca1,mem_cons_self->cq1,mem_filter->dE3,mem_iff_getElem->cW9,mem_map->cK0,mem_range->dP5,mem_range'->eN3,nil_append->cZ2,pairwise_append->eX4,pairwise_cons->ej0,range->di4,range'->dI4,replicate->cr7
open Nat renaming add_sub_cancel->fk0,eq_zero_or_pos->dU4,le_refl->bO2,lt_or_ge->cZ9
open Option renaming bind->ak4,bind_assoc->bz1,bind_some->aF2
open Option.some renaming injEq->aI6
namespace Go.Pv
open Go
def ai4 (a:Int):Option Bool:=
 some ((decide (a>=0))&&(decide (a<46080)))
def ao4 (s:List Int)(v i:Int)(_:Unit):Option (Fl Unit Int):=
 ak4 (E0 s i) fun x=>bif (v==x)then(some (.ret i))else(some (.next ()))
def W8 (s:List Int)(v:Int):Option Int:=
 ak4 (L2 (s.length:Int) (ao4 s v) ()) fun(t:Unit⊕Int)=>match t with| .inl _=>(some (-1))| .inr r2=>some r2
def P8 (s:List Int)(v:Int):Option Bool:=
 ak4 (W8 s v) fun v2=>some (decide (v2>=0))
def as6 (e2:o5)(i:Int):Option (Int⊕(Int⊕Bool)):=
 bif (decide (i<=(e2.A7.length:Int)))then(ak4 (P8 e2.A7 i) fun v2=>bif (!v2)then(some (.inr (.inr false)))else(some (.inl (j5 (i+1)))))else(some (.inr (.inl i)))
def P0 (e2:o5):Option Bool:=
 ak4 (bif ((decide ((e2.A7.length:Int)<1))||(decide ((e2.A7.length:Int)>8)))then(some true)else(ak4 (ai4 e2.as4) fun v=>some (!v))) fun b2=>bif b2 then(some false)else(ak4 (L8 (as6 e2) 1) fun(t:Int⊕Bool)=>match t with| .inl _=>(some true)| .inr r2=>some r2)
def aV2 (n2:Int):Option (List C1×Int):=
 bif ((decide (n2<1))||(decide (n2>8)))then(some (([]:List C1),2))else(ak4 (Q0 ([(⟨0,100,0⟩:C1)]:List C1) n2) fun v=>some (v,0))
def bj7:Option V1:=
 some (⟨0,0,false⟩:V1)
def aL8:Option N1:=
 ak4 (aY5 9 (⟨0,0⟩:ac0)) fun l=>some (⟨false,false,1000,0,l⟩:N1)
def aA5 (e2:o5):Option (A9×Int):=
 ak4 (P0 e2) fun v=>bif (!v)then(some ((⟨(⟨0,0,false⟩:V1),(⟨0⟩:F9),([]:List C1),(⟨false,false,0,0,([]:List ac0)⟩:N1),0,(⟨0,0⟩:aa8)⟩:A9),1))else(ak4 (aV2 (e2.A7.length:Int)) fun r2=>bif (r2.2 !=0)then(some ((⟨(⟨0,0,false⟩:V1),(⟨0⟩:F9),([]:List C1),(⟨false,false,0,0,([]:List ac0)⟩:N1),0,(⟨0,0⟩:aa8)⟩:A9),1))else(ak4 (bj7) fun v2=>ak4 (aL8) fun v3=>some ((⟨v2,(⟨0⟩:F9),r2.1,v3,0,(⟨0,(-1)⟩:aa8)⟩:A9),0)))
def X1 (s:List Int)(f2:Int->Option Bool)(i:Int)(_:Unit):Option (Fl Unit Int):=
 ak4 (E0 s i) fun x=>ak4 (f2 x) fun v=>bif v then(some (.ret i))else(some (.next ()))
def U9 (s:List Int)(f2:Int->Option Bool):Option Int:=
 ak4 (L2 (s.length:Int) (X1 s f2) ()) fun(t:Unit⊕Int)=>match t with| .inl _=>(some (-1))| .inr r2=>some r2
def o6 (s:List Int)(f2:Int->Option Bool):Option Bool:=
 ak4 (U9 s f2) fun v=>some (decide (v>=0))
def ac7 (n2:Int):Option Bool:=
 some ((decide (n2>=(-1073741824)))&&(decide (n2<=1073741824)))
def ay8 (l:List Int)(i:Int)(_:Unit):Option (Fl Unit Bool):=
 ak4 (E0 l i) fun x=>ak4 (ac7 x) fun v=>ak4 (bif (!v)then(some true)else(ak4 (bif (decide (i>0))then(ak4 (E0 l (j5 (i-1))) fun x2=>some (decide (x<=x2)))else(some false)) fun b2=>some b2)) fun b3=>bif b3 then(some (.ret false))else(some (.next ()))
def ar8 (l:List Int):Option Bool:=
 bif ((decide ((l.length:Int)<2))||(decide ((l.length:Int)>32)))then(some false)else(ak4 (L2 (l.length:Int) (ay8 l) ()) fun(t:Unit⊕Bool)=>match t with| .inl _=>(some true)| .inr r2=>some r2)
def ai2 (z:Int):Option Bool:=
 ak4 (ac7 z) fun v=>some (!v)
def aC6 (m2:SMap)(_:Int)(x:List Int)(_:Unit):Option (Fl Unit Bool):=
 ak4 (bif ((x.length:Int) !=(m2.Y.length:Int))then(some true)else(ak4 (o6 x ai2) fun v3=>some v3)) fun b3=>bif b3 then(some (.ret false))else(some (.next ()))
def J6 (m2:SMap):Option Bool:=
 ak4 (ar8 m2.X) fun v=>ak4 (bif (!v)then(some true)else(ak4 (ar8 m2.Y) fun v2=>some (!v2))) fun b2=>bif (b2||((m2.Z.length:Int) !=(m2.X.length:Int)))then(some false)else(ak4 (ae5 m2.Z (aC6 m2) ()) fun(t:Unit⊕Bool)=>match t with| .inl _=>(some true)| .inr r2=>some r2)
def aC0 (n2:Int):Option Bool:=
 some ((decide (n2<(-1073741824)))||(decide (n2>1073741824)))
def aH3 (l:List Int)(i:Int)(_:Unit):Option (Fl Unit Bool):=
 ak4 (E0 l i) fun x=>ak4 (E0 l (j5 (i+1))) fun x2=>bif (decide (x>=x2))then(some (.ret false))else(some (.next ()))
def aM4 (l:List Int):Option Bool:=
 ak4 (bif ((decide ((l.length:Int)<2))||(decide ((l.length:Int)>32)))then(some true)else(ak4 (o6 l aC0) fun v=>some v)) fun b2=>bif b2 then(some false)else(ak4 (L2 (j5 ((l.length:Int)-1)) (aH3 l) ()) fun(t:Unit⊕Bool)=>match t with| .inl _=>(some true)| .inr r2=>some r2)
def P7 (c:Q4):Option Bool:=
 ak4 (bif ((c.X.length:Int)==(c.Y.length:Int))then(ak4 (aM4 c.X) fun v=>some v)else(some false)) fun b2=>ak4 (bif b2 then(ak4 (o6 c.Y aC0) fun v2=>some (!v2))else(some false)) fun b3=>some b3
def cmp_isNaN_int (x:Int):Option Bool:=
 some (x !=x)
def cmp_Less_int (x y:Int):Option Bool:=
 ak4 (cmp_isNaN_int x) fun v=>ak4 (bif v then(ak4 (cmp_isNaN_int y) fun v2=>some (!v2))else(some false)) fun b2=>some (b2||(decide (x<y)))
def R3 (x:List Int)(i:Int):Option (Int⊕(Int⊕Bool)):=
 bif (decide (i>0))then(ak4 (E0 x i) fun x2=>ak4 (E0 x (j5 (i-1))) fun x3=>ak4 (cmp_Less_int x2 x3) fun v=>bif v then(some (.inr (.inr false)))else(some (.inl (j5 (i-1)))))else(some (.inr (.inl i)))
def P9 (x:List Int):Option Bool:=
 ak4 (L8 (R3 x) (j5 ((x.length:Int)-1))) fun(t:Int⊕Bool)=>match t with| .inl _=>(some true)| .inr r2=>some r2
def I7 (n2 low high:Int):Option Bool:=
 some ((decide (n2>=low))&&(decide (n2<=high)))
def aL0 (y:Int):Option Bool:=
 ak4 (I7 y 100 3000) fun v=>some (!v)
def aT5 (_:Int)(x:List Int)(_:Unit):Option (Fl Unit Bool):=
 ak4 (P9 x) fun v3=>ak4 (bif (!v3)then(some true)else(ak4 (E0 x 0) fun x2=>ak4 (I7 x2 0 1048576) fun v4=>some (!v4))) fun b3=>ak4 (bif b3 then(some true)else(ak4 (E0 x (j5 ((x.length:Int)-1))) fun x3=>ak4 (I7 x3 0 1048576) fun v5=>some (!v5))) fun b4=>bif b4 then(some (.ret false))else(some (.next ()))
def aB7 (t2:o7):Option Bool:=
 ak4 (J6 t2.Air) fun v=>ak4 (bif (!v)then(some true)else(ak4 (P7 t2.M0) fun v2=>some (!v2))) fun b2=>bif b2 then(some false)else(ak4 (ae5 t2.Air.Z (aT5) ()) fun(t:Unit⊕Bool)=>match t with| .inl _=>(ak4 (o6 t2.M0.Y aL0) fun v6=>some (!v6))| .inr r2=>some r2)
def aa5 (s:List (List Int))(f2:(List Int)->Option Bool)(i:Int)(_:Unit):Option (Fl Unit Int):=
 ak4 (E0 s i) fun x=>ak4 (f2 x) fun v=>bif v then(some (.ret i))else(some (.next ()))
def W7 (s:List (List Int))(f2:(List Int)->Option Bool):Option Int:=
 ak4 (L2 (s.length:Int) (aa5 s f2) ()) fun(t:Unit⊕Int)=>match t with| .inl _=>(some (-1))| .inr r2=>some r2
def G2 (s:List (List Int))(f2:(List Int)->Option Bool):Option Bool:=
 ak4 (W7 s f2) fun v=>some (decide (v>=0))
def H9 (x low high:Int):Option Bool:=
 some ((decide (x>=low))&&(decide (x<=high)))
def ao6 (x c c2:Int):Option Bool:=
 ak4 (H9 x c c2) fun v=>some (!v)
def ah7 (l:List Int)(low high:Int):Option Bool:=
 ak4 (o6 l (fun x0=>ao6 x0 low high)) fun v=>some v
def M1 (x:List Int)(cmp:Int->Int->Option Int)(i:Int):Option (Int⊕(Int⊕Bool)):=
 bif (decide (i>0))then(ak4 (E0 x i) fun x2=>ak4 (E0 x (j5 (i-1))) fun x3=>ak4 (cmp x2 x3) fun v=>bif (decide (v<0))then(some (.inr (.inr false)))else(some (.inl (j5 (i-1)))))else(some (.inr (.inl i)))
def I3 (x:List Int)(cmp:Int->Int->Option Int):Option Bool:=
 ak4 (L8 (M1 x cmp) (j5 ((x.length:Int)-1))) fun(t:Int⊕Bool)=>match t with| .inl _=>(some true)| .inr r2=>some r2
def ac8 (a b2:Int):Option Int:=
 some (j5 (b2-a))
def al7 (row:List Int):Option Bool:=
 ak4 (ah7 row 0 10000) fun v=>ak4 (bif v then(some true)else(ak4 (P9 row) fun v2=>some (!v2))) fun b2=>some b2
def ai9 (t2:o7):Option Bool:=
 ak4 (J6 t2.o9) fun v=>ak4 (bif (!v)then(some true)else(ak4 (P7 t2.C7) fun v2=>some (!v2))) fun b2=>ak4 (bif b2 then(some true)else(ak4 (ah7 t2.C7.Y 0 1000) fun v3=>some v3)) fun b3=>bif b3 then(some false)else(ak4 (I3 t2.C7.Y ac8) fun v4=>bif (!v4)then(some false)else(ak4 (G2 t2.o9.Z al7) fun v5=>some (!v5)))
def J8 (x low high:Int):Option Bool:=
 some ((decide (x>=low))&&(decide (x<=high)))
def aA6 (x c c2:Int):Option Bool:=
 ak4 (J8 x c c2) fun v=>some (!v)
def ag3 (l:List Int)(low high:Int):Option Bool:=
 ak4 (o6 l (fun x0=>aA6 x0 low high)) fun v=>some (!v)
def Q9 (g:aW0):Option Bool:=
 some (((((((decide (g.P>=0))&&(decide (g.P<=65536)))&&(decide (g.I>=0)))&&(decide (g.I<=65536)))&&(decide (g.Low>=(-1073741824))))&&(decide (g.Low<=g.bt7)))&&(decide (g.bt7<=1073741824)))
def aB9 (_:Int)(x:List Int)(_:Unit):Option (Fl Unit Bool):=
 ak4 (ag3 x (-1280) 3840) fun v7=>bif (!v7)then(some (.ret false))else(some (.next ()))
def ad0 (t2:o7):Option Bool:=
 ak4 (aB7 t2) fun v=>ak4 (bif (!v)then(some true)else(ak4 (ai9 t2) fun v2=>some (!v2))) fun b2=>ak4 (bif b2 then(some true)else(ak4 (J6 t2.O2) fun v3=>some (!v3))) fun b3=>ak4 (bif b3 then(some true)else(ak4 (J6 t2.aI4) fun v4=>some (!v4))) fun b4=>ak4 (bif b4 then(some true)else(ak4 (P7 t2.af6) fun v5=>some (!v5))) fun b5=>ak4 (bif b5 then(some true)else(ak4 (P7 t2.aw6) fun v6=>some (!v6))) fun b6=>bif b6 then(some false)else(ak4 (ae5 t2.O2.Z (aB9) ()) fun(t:Unit⊕Bool)=>match t with| .inl _=>(ak4 (ag3 t2.af6.Y 500 10000) fun v8=>ak4 (bif v8 then(ak4 (ag3 t2.aw6.Y 0 10000) fun v9=>some v9)else(some false)) fun b7=>ak4 (bif b7 then(ak4 (Q9 t2.af5) fun v10=>some v10)else(some false)) fun b8=>some b8)| .inr r2=>some r2)
def G0 (x low high:Int):Option Bool:=
 some ((decide (x>=low))&&(decide (x<=high)))
def ak1 (b2:L6):Option Bool:=
 ak4 (G0 b2.aj5 100 1048576) fun v=>ak4 (bif v then(ak4 (G0 b2.ap6 0 65536) fun v2=>some v2)else(some false)) fun b3=>ak4 (bif b3 then(ak4 (G0 b2.J2 0 65536) fun v3=>some v3)else(some false)) fun b4=>ak4 (bif b4 then(ak4 (G0 b2.aP6 1 65536) fun v4=>some v4)else(some false)) fun b5=>ak4 (bif b5 then(ak4 (G0 b2.P5 0 1023) fun v5=>some v5)else(some false)) fun b6=>ak4 (bif b6 then(ak4 (G0 b2.M4 1 1024) fun v6=>some v6)else(some false)) fun b7=>ak4 (bif b7 then(ak4 (G0 b2.aY0 0 20) fun v7=>some v7)else(some false)) fun b8=>some b8
def ax9 (p2:V1):Option Bool:=
 ak4 (bif p2.aV9 then(some 200)else(some 1000)) fun(most:Int)=>some (((((decide (p2.Value>=0))&&(decide (p2.Value<=most)))&&(decide (p2.aj4>=0)))&&(decide (p2.aj4<=3)))&&(p2.aV9==(p2.aj4==3)))
def S7 (x low high:Int):Option Bool:=
 some ((decide (x>=low))&&(decide (x<=high)))
def aj3 (s:List ac0)(f2:ac0->Option Bool)(i:Int)(_:Unit):Option (Fl Unit Int):=
 ak4 (E0 s i) fun x=>ak4 (f2 x) fun v=>bif v then(some (.ret i))else(some (.next ()))
def ab3 (s:List ac0)(f2:ac0->Option Bool):Option Int:=
 ak4 (L2 (s.length:Int) (aj3 s f2) ()) fun(t:Unit⊕Int)=>match t with| .inl _=>(some (-1))| .inr r2=>some r2
def R7 (s:List ac0)(f2:ac0->Option Bool):Option Bool:=
 ak4 (ab3 s f2) fun v=>some (decide (v>=0))
def ac1 (c:ac0):Option Bool:=
 ak4 (S7 c.Value (-100) 100) fun v=>ak4 (bif (!v)then(some true)else(ak4 (S7 c.Count 0 1000) fun v2=>some (!v2))) fun b2=>some b2
def ad1 (p2:N1):Option Bool:=
 ak4 (S7 p2.ak6 750 1250) fun v=>ak4 (bif (!v)then(some true)else(ak4 (S7 p2.be2 0 1000) fun v2=>some (!v2))) fun b2=>bif (b2||((p2.Cells.length:Int) !=9))then(some false)else(ak4 (bif (!p2.K5)then(some (((p2.ak6 !=1000)||(p2.be2 !=0))||p2.be1))else(some false)) fun b3=>bif b3 then(some false)else(ak4 (R7 p2.Cells ac1) fun v3=>some (!v3)))
def ah4 (s:List C1)(f2:C1->Option Bool)(i:Int)(_:Unit):Option (Fl Unit Int):=
 ak4 (E0 s i) fun x=>ak4 (f2 x) fun v=>bif v then(some (.ret i))else(some (.next ()))
def Y7 (s:List C1)(f2:C1->Option Bool):Option Int:=
 ak4 (L2 (s.length:Int) (ah4 s f2) ()) fun(t:Unit⊕Int)=>match t with| .inl _=>(some (-1))| .inr r2=>some r2
def J5 (s:List C1)(f2:C1->Option Bool):Option Bool:=
 ak4 (Y7 s f2) fun v=>some (decide (v>=0))
def ai0 (n2:Int):Option Bool:=
 some ((decide (n2>=0))&&(decide (n2<=4095)))
def ax4 (k:C1):Option Bool:=
 ak4 (bif ((decide (k.at5>=0))&&(decide (k.at5<=960)))then(ak4 (ai0 k.aI2) fun v=>some v)else(some false)) fun b2=>some ((b2&&(decide (k.Quiet>=0)))&&(decide (k.Quiet<100)))
def al0 (k:C1):Option Bool:=
 ak4 (ax4 k) fun v=>some (!v)
def aq1 (e2:o5)(c:A9):Option Bool:=
 ak4 (P0 e2) fun v=>ak4 (bif (!v)then(some true)else(ak4 (ax9 c.L5) fun v2=>some (!v2))) fun b2=>ak4 (bif b2 then(some true)else(ak4 (ad1 c.Q5) fun v3=>some (!v3))) fun b3=>bif (b3||((c.ab9.length:Int) !=(e2.A7.length:Int)))then(some false)else(ak4 (J5 c.ab9 al0) fun v4=>bif v4 then(some false)else(ak4 (J8 c.af5.Sum (-4398046511104) 4398046511104) fun v5=>ak4 (bif v5 then(ak4 (J8 c.P5 0 1073741824) fun v6=>some v6)else(some false)) fun b4=>ak4 (bif b4 then(ak4 (J8 c.af8.o9 (-5000) 10000) fun v7=>some v7)else(some false)) fun b5=>ak4 (bif b5 then(ak4 (J8 c.af8.N7 (-1) 15) fun v8=>some v8)else(some false)) fun b6=>some b6))
def ac4 (s:List j1)(f2:j1->Option Bool)(i:Int)(_:Unit):Option (Fl Unit Int):=
 ak4 (E0 s i) fun x=>ak4 (f2 x) fun v=>bif v then(some (.ret i))else(some (.next ()))
def V6 (s:List j1)(f2:j1->Option Bool):Option Int:=
 ak4 (L2 (s.length:Int) (ac4 s f2) ()) fun(t:Unit⊕Int)=>match t with| .inl _=>(some (-1))| .inr r2=>some r2
def E4 (s:List j1)(f2:j1->Option Bool):Option Bool:=
 ak4 (V6 s f2) fun v=>some (decide (v>=0))
def P6 (t2:Int):Option Bool:=
 some ((decide (t2>=(-5000)))&&(decide (t2<=10000)))
def S9 (r2:j1):Option Bool:=
 ak4 (bif ((((decide (r2.N7<0))||(decide (r2.N7>15)))||(decide (r2.E7<0)))||(decide (r2.E7>15)))then(some true)else(ak4 (P6 r2.o9) fun v=>some (!v))) fun b2=>bif b2 then(some false)else(ak4 (bif (r2.Kind==1)then(some true)else(ak4 (bif (decide (r2.N7<=1))then(some ((r2.Kind==2)||(r2.Kind==3)))else(some false)) fun b3=>some b3)) fun b4=>some b4)
def ah9 (r2:j1):Option Bool:=
 ak4 (S9 r2) fun v=>some (!v)
def av8 (i:X5)(B8:Int):Option Bool:=
 ak4 (J8 B8 1 8) fun v=>bif (((!v)||((i.Y1.length:Int) !=B8))||(decide ((i.Requests.length:Int)>30)))then(some false)else(ak4 (J8 i.D7 0 12000) fun v2=>ak4 (bif v2 then(ak4 (J8 i.N0 50 3000) fun v3=>some v3)else(some false)) fun b2=>ak4 (bif b2 then(ak4 (J8 i.M0 (-40) 150) fun v4=>some v4)else(some false)) fun b3=>ak4 (bif b3 then(ak4 (J8 i.av3 (-40) 150) fun v5=>some v5)else(some false)) fun b4=>ak4 (bif b4 then(ak4 (J8 i.aI5 0 20000) fun v6=>some v6)else(some false)) fun b5=>ak4 (bif b5 then(ak4 (J8 i.Lambda 0 20000) fun v7=>some v7)else(some false)) fun b6=>ak4 (bif b6 then(ak4 (ag3 i.Y1 0 4095) fun v8=>some v8)else(some false)) fun b7=>ak4 (bif b7 then(ak4 (E4 i.Requests ah9) fun v9=>some (!v9))else(some false)) fun b8=>some b8)
def D0 (x low high:Int):Option Int:=
 some (F7 (G8 x low) high)
def ak0 (n2:Int):Option Bool:=
 some ((decide (n2>=0))&&(decide (n2<=12000)))
def ax3 (D6:Int):Option Int:=
 bif (decide (D6<=(-20)))then(some 1200)else(bif (decide (D6>=70))then(some 800)else(some (j5 (1200-(j5 (cW7 (j5 (400*(j5 (D6+20)))) 90))))))
def bc7 (o8 D6:Int):Option Bool:=
 ak4 (ax3 D6) fun v=>some (decide (o8<(j5 (v+300))))
def ax2 (bg1 o8 D6:Int):Option Bool:=
 ak4 (bif ((decide (bg1>=0))&&(decide (bg1<20)))then(ak4 (ak0 o8) fun v=>some v)else(some false)) fun b2=>ak4 (bif b2 then(ak4 (bc7 o8 D6) fun v2=>some v2)else(some false)) fun b3=>some b3
def aM7 (p2:V1)(first second:Int):Option (V1×Int):=
 ak4 (ax9 p2) fun v=>bif (!v)then(some ((⟨0,0,false⟩:V1),1))else(ak4 (D0 first 0 1000) fun v2=>ak4 (D0 second 0 500) fun v3=>ak4 (bif (decide ((G8 (j5 (v2-(j5 (2*v3)))) (j5 ((j5 (2*v3))-v2)))>50))then(some (F7 3 (j5 (p2.aj4+1))))else(bif (!p2.aV9)then(some 0)else(some p2.aj4))) fun(f2:Int)=>bif (f2==3)then(some ((⟨F7 (F7 v2 (j5 (2*v3))) 200,f2,(f2==3)⟩:V1),0))else(bif (decide ((G8 (j5 (v2-(j5 (2*v3)))) (j5 ((j5 (2*v3))-v2)))>50))then(some ((⟨F7 (F7 v2 (j5 (2*v3))) p2.Value,f2,(f2==3)⟩:V1),0))else(some ((⟨v2,f2,(f2==3)⟩:V1),0))))
def z8 (s:o4)(e2:Int):Option o4:=
 bif (s.fail==0)then(some ({s with fail:=e2}:o4))else(some s)
def ac5 (f2:Int->Option Bool)(s:Int×Int):Option ((Int×Int)⊕((Int×Int)⊕Empty)):=
 bif (decide (s.1<s.2))then(ak4 (f2 (j5 (G3 .u64 (ba6.wrap (j5 (s.1+s.2))) 1))) fun v=>bif (!v)then(some (.inl (j5 ((j5 (G3 .u64 (ba6.wrap (j5 (s.1+s.2))) 1))+1),s.2)))else(some (.inl (s.1,j5 (G3 .u64 (ba6.wrap (j5 (s.1+s.2))) 1)))))else(some (.inr (.inl (s.1,s.2))))
def Q3 (n2:Int)(f2:Int->Option Bool):Option Int:=
 ak4 (L8 (ac5 f2) (0,n2)) fun(t:(Int×Int)⊕Empty)=>match t with| .inl s2=>(some s2.1)| .inr r=>r.elim
def af4 (i:Int)(c:List Int)(c2:Int):Option Bool:=
 ak4 (E0 c i) fun x=>some (decide (x>c2))
def X9 (l:List Int)(x:Int):Option (Int×Int):=
 ak4 (E0 l 0) fun x2=>ak4 (E0 l (j5 ((l.length:Int)-1))) fun x3=>ak4 (D0 x x2 x3) fun v=>ak4 (Q3 (l.length:Int) (fun x0=>af4 x0 l v)) fun v2=>some (F7 (j5 (v2-1)) (j5 ((l.length:Int)-2)),v)
def V7 (n2:Int):Option Int:=
 bif (decide (n2<0))then(some (ba6.wrap ((ba6.wrap (j5 (0-(j5 (n2+1)))))+1)))else(some (ba6.wrap n2))
def aO6 (x:Int):Option Int:=
 cw3 x
def X0 (x:Int):Option Int:=
 ak4 (aO6 x) fun v=>some (j5 (64-v))
def aD9 (q3 q6:Int)(s3:Int×Int):Option ((Int×Int)⊕((Int×Int)⊕Empty)):=
 bif ((decide (s3.1>=4294967296))||(decide ((ba6.wrap (s3.1*(U3 .u64 q3 4294967295)))>(ba6.wrap ((ba6.wrap (4294967296*s3.2))+(G3 .u64 q6 32))))))then(bif (decide ((ba6.wrap (s3.2+(G3 .u64 q3 32)))>=4294967296))then(some (.inr (.inl (ba6.wrap (s3.1-1),ba6.wrap (s3.2+(G3 .u64 q3 32))))))else(some (.inl (ba6.wrap (s3.1-1),ba6.wrap (s3.2+(G3 .u64 q3 32))))))else(some (.inr (.inl (s3.1,s3.2))))
def aE0 (q3 q6:Int)(s5:Int×Int):Option ((Int×Int)⊕((Int×Int)⊕Empty)):=
 bif ((decide (s5.2>=4294967296))||(decide ((ba6.wrap (s5.2*(U3 .u64 q3 4294967295)))>(ba6.wrap ((ba6.wrap (4294967296*s5.1))+(U3 .u64 q6 4294967295))))))then(bif (decide ((ba6.wrap (s5.1+(G3 .u64 q3 32)))>=4294967296))then(some (.inr (.inl (ba6.wrap (s5.1+(G3 .u64 q3 32)),ba6.wrap (s5.2-1)))))else(some (.inl (ba6.wrap (s5.1+(G3 .u64 q3 32)),ba6.wrap (s5.2-1)))))else(some (.inr (.inl (s5.1,s5.2))))
def am1 (hi lo y:Int):Option (Int×Int):=
 ak4 (bif (y==0)then none else(some ())) fun(_:Unit)=>ak4 (bif (decide (y<=hi))then none else(some ())) fun(_:Unit)=>bif (hi==0)then(ak4 (bo5 .u64 lo y) fun q=>ak4 (cg2 lo y) fun q2=>some (q,q2))else(ak4 (X0 y) fun v=>ak4 (ey3 .u64 y (ba6.wrap v)) fun q3=>ak4 (ey3 .u64 hi (ba6.wrap v)) fun q4=>ak4 (eL2 .u64 lo (ba6.wrap (64-(ba6.wrap v)))) fun q5=>ak4 (ey3 .u64 lo (ba6.wrap v)) fun q6=>ak4 (bo5 .u64 (R9 .u64 q4 q5) (G3 .u64 q3 32)) fun q7=>ak4 (L8 (aD9 q3 q6) (q7,ba6.wrap ((R9 .u64 q4 q5)-(ba6.wrap (q7*(G3 .u64 q3 32)))))) fun(t:(Int×Int)⊕Empty)=>match t with| .inl s4=>(ak4 (bo5 .u64 (ba6.wrap ((ba6.wrap ((ba6.wrap ((R9 .u64 q4 q5)*4294967296))+(G3 .u64 q6 32)))-(ba6.wrap (s4.1*q3)))) (G3 .u64 q3 32)) fun q8=>ak4 (L8 (aE0 q3 q6) (ba6.wrap ((ba6.wrap ((ba6.wrap ((ba6.wrap ((R9 .u64 q4 q5)*4294967296))+(G3 .u64 q6 32)))-(ba6.wrap (s4.1*q3))))-(ba6.wrap (q8*(G3 .u64 q3 32)))),q8)) fun(t:(Int×Int)⊕Empty)=>match t with| .inl s6=>(ak4 (eL2 .u64 (ba6.wrap ((ba6.wrap ((ba6.wrap ((ba6.wrap ((ba6.wrap ((ba6.wrap ((R9 .u64 q4 q5)*4294967296))+(G3 .u64 q6 32)))-(ba6.wrap (s4.1*q3))))*4294967296))+(U3 .u64 q6 4294967295)))-(ba6.wrap (s6.2*q3)))) (ba6.wrap v)) fun q9=>some (ba6.wrap ((ba6.wrap (s4.1*4294967296))+s6.2),q9))| .inr r=>r.elim)| .inr r=>r.elim)
def ak9 (r2 c:Int)(negative:Bool)(mode:Int):Option Bool:=
 bif (mode==1)then(some (negative&&(decide (r2>0))))else(bif (mode==2)then(some ((!negative)&&(decide (r2>0))))else(bif negative then(some (decide (r2>(ba6.wrap (c-r2)))))else(some (decide (r2>=(ba6.wrap (c-r2)))))))
def az5 (a b2 c mode:Int):Option (Int×Int):=
 bif ((decide (mode<1))||(decide (mode>3)))then(some (0,1))else(bif (c==0)then(some (0,10))else(ak4 (V7 a) fun v=>ak4 (V7 b2) fun v2=>ak4 (as9 v v2) fun r2=>ak4 (V7 c) fun v3=>bif (decide (r2.1>=v3))then(some (0,9))else(ak4 (am1 r2.1 r2.2 v3) fun r3=>bif (decide (r3.1>9223372036854775808))then(some (0,9))else(ak4 (ak9 r3.2 v3 (!((!((decide (a<0))==(decide (b2<0))))==(decide (c<0)))) mode) fun v4=>ak4 (bif v4 then(some (ba6.wrap (r3.1+1)))else(some r3.1)) fun(q:Int)=>bif ((!((!((decide (a<0))==(decide (b2<0))))==(decide (c<0))))&&(decide (q<=9223372036854775808)))then(some (j5 ((j5 (0-(j5 (ba6.wrap (q-1)))))-1),0))else(bif ((!(!((!((decide (a<0))==(decide (b2<0))))==(decide (c<0)))))&&(decide (q<9223372036854775808)))then(some (j5 q,0))else(some (0,9)))))))
def an5 (a b2 mode:Int):Option (Int×Int):=
 ak4 (az5 a 1 b2 mode) fun r2=>some (r2.1,r2.2)
def W5 (a b2:Int):Option Int:=
 ak4 (an5 a b2 1) fun r2=>some r2.1
def ac6 (x0 x1 y0 y1 x:Int):Option Int:=
 ak4 (W5 (j5 ((j5 (x-x0))*(j5 (y1-y0)))) (j5 (x1-x0))) fun v=>some (j5 (y0+v))
def ar7 (j:Int)(c:SMap)(c2 c3:Int):Option Int:=
 ak4 (E0 c.X c2) fun x=>ak4 (E0 c.X (j5 (c2+1))) fun x2=>ak4 (E0 c.Z c2) fun x3=>ak4 (E0 x3 j) fun x4=>ak4 (E0 c.Z (j5 (c2+1))) fun x5=>ak4 (E0 x5 j) fun x6=>ak4 (ac6 x x2 x4 x6 c3) fun v=>some v
def aN5 (m2:SMap)(x y:Int):Option Int:=
 ak4 (X9 m2.X x) fun r2=>ak4 (X9 m2.Y y) fun r3=>ak4 (E0 m2.Y r3.1) fun x2=>ak4 (E0 m2.Y (j5 (r3.1+1))) fun x3=>ak4 (ar7 r3.1 m2 r2.1 r2.2) fun v=>ak4 (ar7 (j5 (r3.1+1)) m2 r2.1 r2.2) fun v2=>ak4 (ac6 x2 x3 v v2 r3.2) fun v3=>some v3
def Y9 (m2:SMap)(x y:Int):Option Int:=
 ak4 (J6 m2) fun v=>bif (!v)then(some 0)else(ak4 (aN5 m2 x y) fun v2=>some v2)
def aM8 (t2:o7)(value o8:Int):Option (Int×Int):=
 ak4 (J6 t2.aI4) fun v=>bif (!v)then(some (0,1))else(bif ((((decide (value<0))||(decide (value>1000)))||(decide (o8<0)))||(decide (o8>12000)))then(some (0,2))else(ak4 (Y9 t2.aI4 o8 value) fun v2=>ak4 (D0 v2 (-5000) 10000) fun v3=>some (v3,0)))
def aq5 (s:F9)(g:aW0)(e2:Int):Option (F9×Int×Int):=
 ak4 (Q9 g) fun v=>bif (((!v)||(decide (s.Sum<(-4398046511104))))||(decide (s.Sum>4398046511104)))then(some ((⟨0⟩:F9),0,1))else(bif ((decide (e2<(-1048576)))||(decide (e2>1048576)))then(some ((⟨0⟩:F9),0,2))else(ak4 (bif ((decide ((G3 .i64 (j5 ((j5 (g.P*e2))+s.Sum)) 10)<=g.bt7))||(decide (e2<=0)))then(some ((decide ((G3 .i64 (j5 ((j5 (g.P*e2))+s.Sum)) 10)>=g.Low))||(decide (e2>=0))))else(some false)) fun b2=>ak4 (bif b2 then(ak4 (D0 (j5 (s.Sum+(j5 (g.I*e2)))) (-4398046511104) 4398046511104) fun v2=>some v2)else(some s.Sum)) fun(f2:Int)=>ak4 (D0 (G3 .i64 (j5 ((j5 (g.P*e2))+s.Sum)) 10) g.Low g.bt7) fun v3=>some ((⟨f2⟩:F9),v3,0)))
def aE9 (s:F9)(g:aW0)(target o8:Int):Option (F9×Int×Int):=
 ak4 (Q9 g) fun v=>bif (!v)then(some ((⟨0⟩:F9),0,1))else(ak4 (ak0 target) fun v2=>ak4 (bif (!v2)then(some true)else(ak4 (ak0 o8) fun v3=>some (!v3))) fun b2=>bif b2 then(some ((⟨0⟩:F9),0,2))else(ak4 (aq5 s g (j5 (target-o8))) fun r2=>some (r2.1,r2.2.1,r2.2.2)))
def ah8 (r2:j1):Option Bool:=
 ak4 (S9 r2) fun v=>some (!v)
def av7 (l:List j1)(low high:Int):Option Int:=
 ak4 (E4 l ah8) fun v=>bif v then(some 1)else(bif (decide ((l.length:Int)>32))then(some 5)else(ak4 (P6 low) fun v2=>ak4 (bif (!v2)then(some true)else(ak4 (P6 high) fun v3=>some (!v3))) fun b2=>bif (b2||(decide (low>high)))then(some 2)else(some 0)))
def X4 (s:List j1):Option (List j1):=
 ak4 (V4 ([]:List j1) s) fun l=>some l
def Q2 (a:Int)(cmp:j1->j1->Option Int)(s2:Int×List j1):Option ((Int×List j1)⊕((Int×List j1)⊕Empty)):=
 ak4 (bif (decide (s2.1>a))then(ak4 (E0 s2.2 s2.1) fun x=>ak4 (E0 s2.2 (j5 (s2.1-1))) fun x2=>ak4 (cmp x x2) fun v=>some (decide (v<0)))else(some false)) fun(v2:Bool)=>bif v2 then(ak4 (ak4 (E0 s2.2 (j5 (s2.1-1))) fun x3=>ak4 (E0 s2.2 s2.1) fun x4=>ak4 (ao3 s2.2 s2.1 x3) fun l=>ak4 (E0 l (j5 (s2.1-1))) fun _=>ak4 (ao3 l (j5 (s2.1-1)) x4) fun l2=>some l2) fun(f2:List j1)=>some (.inl (j5 (s2.1-1),f2)))else(some (.inr (.inl (s2.1,s2.2))))
def Q1 (a b2:Int)(cmp:j1->j1->Option Int)(s:Int×List j1):Option ((Int×List j1)⊕((Int×List j1)⊕Empty)):=
 bif (decide (s.1<b2))then(ak4 (L8 (Q2 a cmp) (s.1,s.2)) fun(t:(Int×List j1)⊕Empty)=>match t with| .inl s3=>(some (.inl (j5 (s.1+1),s3.2)))| .inr r=>r.elim)else(some (.inr (.inl (s.1,s.2))))
def F6 (data:List j1)(a b2:Int)(cmp:j1->j1->Option Int):Option (List j1):=
 ak4 (L8 (Q1 a b2 cmp) (j5 (a+1),data)) fun(t:(Int×List j1)⊕Empty)=>match t with| .inl s4=>(some s4.2)| .inr r=>r.elim
def O7 (_:Nat)(_:List j1)(_ _ _:Int)(_:j1->j1->Option Int):Option (List j1):=none
def S3 (n2:Int)(cmp:j1->j1->Option Int)(s:Int×Int×List j1):Option ((Int×Int×List j1)⊕((Int×Int×List j1)⊕Empty)):=
 bif (decide (s.2.1<=n2))then(ak4 (F6 s.2.2 s.1 s.2.1 cmp) fun v=>some (.inl (s.2.1,j5 (s.2.1+20),v)))else(some (.inr (.inl (s.1,s.2.1,s.2.2))))
def X3 (n2:Int)(cmp:j1->j1->Option Int)(s3:Int×List j1)(s4:Int×Int×List j1):Option ((Int×Int×List j1)⊕((Int×Int×List j1)⊕Empty)):=
 bif (decide (s4.2.1<=n2))then(ak4 (O7 64 s4.2.2 s4.1 (j5 (s4.1+s3.1)) s4.2.1 cmp) fun v3=>some (.inl (s4.2.1,j5 (s4.2.1+(j5 (2*s3.1))),v3)))else(some (.inr (.inl (s4.1,s4.2.1,s4.2.2))))
def S4 (n2:Int)(cmp:j1->j1->Option Int)(s3:Int×List j1):Option ((Int×List j1)⊕((Int×List j1)⊕Empty)):=
 bif (decide (s3.1<n2))then(ak4 (L8 (X3 n2 cmp s3) (0,j5 (2*s3.1),s3.2)) fun(t:(Int×Int×List j1)⊕Empty)=>match t with| .inl s5=>(bif (decide ((j5 (s5.1+s3.1))<n2))then(ak4 (O7 64 s5.2.2 s5.1 (j5 (s5.1+s3.1)) n2 cmp) fun v4=>some (.inl (j5 (s3.1*2),v4)))else(some (.inl (j5 (s3.1*2),s5.2.2))))| .inr r=>r.elim)else(some (.inr (.inl (s3.1,s3.2))))
def N5 (data:List j1)(n2:Int)(cmp:j1->j1->Option Int):Option (List j1):=
 ak4 (L8 (S3 n2 cmp) (0,20,data)) fun(t:(Int×Int×List j1)⊕Empty)=>match t with| .inl s2=>(ak4 (F6 s2.2.2 s2.1 n2 cmp) fun v2=>ak4 (L8 (S4 n2 cmp) (20,v2)) fun(t:(Int×List j1)⊕Empty)=>match t with| .inl s6=>(some s6.2)| .inr r=>r.elim)| .inr r=>r.elim
def J9 (x:List j1)(cmp:j1->j1->Option Int):Option (List j1):=
 ak4 (N5 x (x.length:Int) cmp) fun v=>some v
def O5 (a b2:j1):Option Int:=
 some (j5 (b2.E7-a.E7))
def ae0 (s:u7)(t2:Int):Option u7:=
 some (⟨s.low,G8 s.low (F7 s.high t2),s.source⟩:u7)
def aa0 (s:u7)(t2:Int):Option u7:=
 some ({s with low:=F7 s.high (G8 s.low t2)}:u7)
def aa1 (s:u7)(t2:Int):Option u7:=
 ak4 (D0 t2 s.low s.high) fun v=>some (⟨v,v,s.source⟩:u7)
def X6 (s:u7)(r2:j1):Option (Bool×u7):=
 ak4 (bif (r2.Kind==1)then(ak4 (ae0 s r2.o9) fun v=>some v)else(bif (r2.Kind==2)then(ak4 (aa0 s r2.o9) fun v2=>some v2)else(bif (r2.Kind==3)then(ak4 (aa1 s r2.o9) fun v3=>some v3)else(some s)))) fun(f2:u7)=>ak4 (bif (f2.low !=s.low)then(some r2.N7)else(some f2.source)) fun(f3:Int)=>bif (f2.low !=s.low)then(some (true,(⟨f2.low,f2.high,f3⟩:u7)))else(some ((f2.high !=s.high),(⟨f2.low,f2.high,f3⟩:u7)))
def aC5 (s:List Int):Option (List Int):=
 bT8 s
def as2 (s:List Int):Option (List Int):=
 bn1 s
def aj8 (_:Int)(x:j1)(s:List Int×u7):Option (Fl (List Int×u7) Empty):=
 ak4 (X6 s.2 x) fun r2=>bif r2.1 then(ak4 (V4 s.1 ([x.N7]:List Int)) fun l2=>some (.next (l2,r2.2)))else(some (.next (s.1,r2.2)))
def ap9 (l:List j1)(low high:Int):Option (u7×List Int):=
 ak4 (X4 l) fun v=>ak4 (J9 v O5) fun v2=>ak4 (ae5 v2 (aj8) (([]:List Int),(⟨low,high,(-1)⟩:u7))) fun(t:(List Int×u7)⊕Empty)=>match t with| .inl s2=>(ak4 (aC5 s2.1) fun v3=>ak4 (ak4 (as2 v3) fun v4=>some (v4,s2.2)) fun(s3:List Int×u7)=>some (s3.2,s3.1))| .inr r=>r.elim
def ap8 (g:aa8)(l:List j1)(low high up down:Int):Option (aa8×Int):=
 ak4 (P6 g.o9) fun v=>bif (((!v)||(decide (g.N7<(-1))))||(decide (g.N7>15)))then(some ((⟨0,0⟩:aa8),1))else(ak4 (av7 l low high) fun v2=>bif (v2 !=0)then(some ((⟨0,0⟩:aa8),v2))else(bif ((((decide (up<0))||(decide (up>20000)))||(decide (down<0)))||(decide (down>20000)))then(some ((⟨0,0⟩:aa8),2))else(ak4 (ap9 l low high) fun r2=>some ((⟨G8 (F7 (F7 (G8 r2.1.low (j5 (g.o9-down))) (j5 (g.o9+up))) r2.1.high) low,r2.1.source⟩:aa8),0))))
def X7 (s:o4):Option o4:=
 ak4 (ak4 (aM7 s.c.L5 s.i.bG8 s.i.bG9) fun r2=>some (r2.2,r2.1)) fun(s2:Int×V1)=>ak4 (z8 ({s with c:=(⟨s2.2,s.c.af5,s.c.ab9,s.c.Q5,s.c.P5,s.c.af8⟩:A9)}:o4) s2.1) fun v=>ak4 (aM8 v.t v.c.L5.Value v.i.D7) fun r3=>ak4 (z8 v r3.2) fun v2=>ak4 (ax2 v2.c.L5.Value v2.i.D7 v2.i.av3) fun v3=>ak4 (bif v3 then(ak4 (ak4 (ax3 v2.i.av3) fun v4=>ak4 (aE9 v2.c.af5 v2.t.af5 v4 v2.i.D7) fun r4=>some (r4.2.2,r4.2.1,r4.1.Sum)) fun(s3:Int×Int×Int)=>ak4 (z8 ({v2 with c:=(⟨v2.c.L5,(⟨s3.2.2⟩:F9),v2.c.ab9,v2.c.Q5,v2.c.P5,v2.c.af8⟩:A9)}:o4) s3.1) fun v5=>ak4 (D0 s3.2.1 (-5000) 10000) fun v6=>ak4 (V4 ([(⟨0,3,r3.1,0⟩:j1)]:List j1) ([(⟨1,2,v6,1⟩:j1)]:List j1)) fun l=>some (v5,l))else(some (({v2 with c:=(⟨v2.c.L5,(⟨0⟩:F9),v2.c.ab9,v2.c.Q5,v2.c.P5,v2.c.af8⟩:A9)}:o4),([(⟨0,3,r3.1,0⟩:j1)]:List j1)))) fun(s4:o4×List j1)=>ak4 (ak4 (V4 s4.2 s4.1.i.Requests) fun l2=>ak4 (ap8 s4.1.c.af8 l2 (-5000) 10000 300 1000) fun r5=>some (r5.2,r5.1,l2)) fun(s5:Int×aa8×List j1)=>ak4 (z8 (⟨s4.1.t,s4.1.e,s4.1.b,(⟨s4.1.c.L5,s4.1.c.af5,s4.1.c.ab9,s4.1.c.Q5,s4.1.c.P5,s5.2.1⟩:A9),s4.1.i,s4.1.wanted,s4.1.A4,s4.1.ae9,s4.1.late,s4.1.pattern,s4.1.time,s4.1.out,s4.1.fail⟩:o4) s5.1) fun v7=>some ({v7 with wanted:=G8 0 v7.c.af8.o9}:o4)
def am7 (i:Int)(c:o7)(c2 c3 c4:Int):Option Bool:=
 ak4 (Y9 c.o9 c2 (j5 (c3+i))) fun v=>some (decide (v>=c4))
def ap4 (t2:o7)(o8 T8:Int):Option (Int×Int):=
 ak4 (ai9 t2) fun v=>bif (!v)then(some (0,1))else(ak4 (H9 o8 0 12000) fun v2=>bif (!v2)then(some (0,2))else(ak4 (E0 t2.o9.Y 0) fun x=>ak4 (E0 t2.o9.Y (j5 ((t2.o9.Y.length:Int)-1))) fun x2=>ak4 (Q3 (j5 ((j5 (x2-x))+1)) (fun x0=>am7 x0 t2 o8 x T8)) fun v3=>bif (v3==(j5 ((j5 (x2-x))+1)))then(some (0,7))else(some (j5 (x+v3),0))))
def au7 (x e2 other:Int):Option Int:=
 bif (e2 !=0)then(some other)else(some x)
def al8 (i:Int)(c:Q4)(c2:Int):Option Bool:=
 ak4 (E0 c.X i) fun x=>some (decide (x>c2))
def av9 (c:Q4)(x:Int):Option Int:=
 ak4 (Q3 (c.X.length:Int) (fun x0=>al8 x0 c x)) fun v=>some (j5 (v-1))
def aF5 (c:Q4)(x:Int):Option Int:=
 ak4 (E0 c.X 0) fun x2=>bif (decide (x<=x2))then(ak4 (E0 c.Y 0) fun x3=>some x3)else(ak4 (E0 c.X (j5 ((c.X.length:Int)-1))) fun x4=>bif (decide (x>=x4))then(ak4 (E0 c.Y (j5 ((c.X.length:Int)-1))) fun x5=>some x5)else(ak4 (av9 c x) fun v=>ak4 (E0 c.Y v) fun x6=>ak4 (E0 c.X v) fun x7=>ak4 (E0 c.Y (j5 (v+1))) fun x8=>ak4 (E0 c.X (j5 (v+1))) fun x9=>ak4 (W5 (j5 ((j5 (x-x7))*(j5 (x8-x6)))) (j5 (x9-x7))) fun v2=>some (j5 (x6+v2))))
def au1 (c:Q4)(x:Int):Option Int:=
 ak4 (P7 c) fun v=>bif (!v)then(some 0)else(ak4 (aF5 c x) fun v2=>some v2)
def aC9 (t2:o7)(o8 C5 K9:Int):Option Int:=
 ak4 (Y9 t2.Air o8 C5) fun v=>ak4 (au1 t2.M0 K9) fun v2=>ak4 (W5 (j5 (v*v2)) 1000) fun v3=>some (F7 1048576 v3)
def ak7 (k:Int)(c:o7)(c2 c3 c4:Int):Option Bool:=
 ak4 (aC9 c c2 (j5 (50+k)) c3) fun v=>some (decide (v>=c4))
def av4 (t2:o7)(o8 want K9:Int):Option (Int×Int):=
 ak4 (aB7 t2) fun v=>bif (!v)then(some (0,1))else(ak4 (I7 o8 0 12000) fun v2=>ak4 (bif (!v2)then(some true)else(ak4 (I7 want 0 1048576) fun v3=>some (!v3))) fun b2=>ak4 (bif b2 then(some true)else(ak4 (I7 K9 (-40) 150) fun v4=>some (!v4))) fun b3=>bif b3 then(some (0,2))else(ak4 (Q3 2951 (fun x0=>ak7 x0 t2 o8 K9 want)) fun v5=>bif (decide ((j5 (50+v5))>3000))then(some (0,7))else(some (j5 (50+v5),0))))
def ax8 (rpm:Int):Option (Int×Int):=
 bif ((decide (rpm<0))||(decide (rpm>20000)))then(some (0,2))else(ak4 (an5 (j5 ((j5 (rpm*65536))*23040)) 60000000 2) fun r2=>some (r2.1,r2.2))
def be3 (o8 C5:Int):Option (Int×Int):=
 ak4 (I7 o8 0 12000) fun v=>ak4 (bif (!v)then(some true)else(ak4 (I7 C5 50 3000) fun v2=>some (!v2))) fun b2=>bif b2 then(some (0,2))else(ak4 (ax8 o8) fun r2=>some (j5 (cW7 (j5 (r2.1*C5)) 1024),r2.2))
def ak8 (k:Int)(c:L6)(c2 c3:Int):Option Bool:=
 some (decide ((j5 (cW7 (j5 ((j5 (c.J2*k))*(j5 (1013-c2)))) 1000))>=c3))
def av5 (b2:L6)(cY5 C5:Int):Option (Int×Int):=
 ak4 (ak1 b2) fun v=>bif (!v)then(some (0,1))else(ak4 (I7 cY5 0 1099511627776) fun v2=>ak4 (bif (!v2)then(some true)else(ak4 (I7 C5 50 1013) fun v3=>some (!v3))) fun b3=>bif b3 then(some (0,2))else(ak4 (Q3 1001 (fun x0=>ak8 x0 b2 C5 cY5)) fun v4=>bif (decide (v4>1000))then(some (0,7))else(some (v4,0))))
def U7 (s:o4):Option o4:=
 ak4 (ap4 s.t s.i.D7 s.wanted) fun r2=>ak4 (au7 r2.1 r2.2 1048576) fun v=>ak4 (av4 s.t s.i.D7 (G8 0 v) s.i.M0) fun r3=>ak4 (au7 r3.1 r3.2 3000) fun v2=>ak4 (be3 s.i.D7 (F7 1012 v2)) fun r4=>ak4 (z8 s r4.2) fun v3=>ak4 (av5 v3.b r4.1 (F7 1012 v2)) fun r5=>ak4 (au7 r5.1 r5.2 1000) fun v4=>some ({v3 with out:=(⟨v4,v3.out.O3,v3.out.o9⟩:O8)}:o4)
def aC8 (t2:o7)(o8 C5 K9:Int):Option (Int×Int):=
 ak4 (aB7 t2) fun v=>bif (!v)then(some (0,1))else(ak4 (I7 o8 0 12000) fun v2=>ak4 (bif (!v2)then(some true)else(ak4 (I7 C5 50 3000) fun v3=>some (!v3))) fun b2=>ak4 (bif b2 then(some true)else(ak4 (I7 K9 (-40) 150) fun v4=>some (!v4))) fun b3=>bif b3 then(some (0,2))else(ak4 (aC9 t2 o8 C5 K9) fun v5=>some (v5,0)))
def ah6 (t2:o7)(o8 A4:Int):Option (Int×Int):=
 ak4 (ai9 t2) fun v=>bif (!v)then(some (0,1))else(ak4 (H9 o8 0 12000) fun v2=>ak4 (bif (!v2)then(some true)else(ak4 (H9 A4 0 1048576) fun v3=>some (!v3))) fun b2=>bif b2 then(some (0,2))else(ak4 (Y9 t2.o9 o8 A4) fun v4=>some (v4,0)))
def Z6 (t2:o7)(bJ9 late ae9 B8:Int):Option Int:=
 ak4 (au1 t2.C7 late) fun v=>ak4 (bo5 .i64 (j5 ((j5 (bJ9*v))*ae9)) (j5 (1000*B8))) fun q=>some q
def al6 (late:Int)(c:o7)(c2 c3 c4 c5:Int):Option Bool:=
 ak4 (Z6 c c2 late c3 c4) fun v=>some (decide (v<=c5))
def am9 (t2:o7)(most B8:Int)(r2:Int×Int)(f2:Int):Option (Int⊕(Int⊕Empty)):=
 bif (decide (f2>0))then(ak4 (Z6 t2 r2.1 2560 f2 B8) fun v2=>bif (decide (v2<=most))then(some (.inr (.inl f2)))else(some (.inl (j5 (f2-1)))))else(some (.inr (.inl f2)))
def am8 (t2:o7)(o8 A4 most B8:Int):Option (Int×Int×Int):=
 ak4 (ah6 t2 o8 A4) fun r2=>bif (r2.2 !=0)then(some (0,0,r2.2))else(ak4 (H9 B8 1 8) fun v=>bif ((!v)||(decide (most<0)))then(some (0,0,2))else(ak4 (L8 (am9 t2 most B8 r2) B8) fun(t:Int⊕Empty)=>match t with| .inl f3=>(ak4 (Q3 2560 (fun x0=>al6 x0 t2 r2.1 f3 B8 most)) fun v3=>some (f3,v3,0))| .inr r=>r.elim))
def as0 (B8 ae9 E5 i:Int)(f2:List Bool):Option (Fl (List Bool) Empty):=
 ak4 (cg2 (j5 (i+E5)) B8) fun q=>ak4 (bo5 .i64 (j5 ((j5 (q+1))*ae9)) B8) fun q2=>ak4 (bo5 .i64 (j5 (q*ae9)) B8) fun q3=>ak4 (E0 f2 i) fun _=>ak4 (ao3 f2 i (decide (q2>q3))) fun l2=>some (.next l2)
def ar9 (B8 ae9 E5:Int):Option (List Bool×Int):=
 ak4 (H9 B8 1 8) fun v=>ak4 (bif (!v)then(some true)else(ak4 (H9 ae9 0 B8) fun v2=>some (!v2))) fun b2=>ak4 (bif b2 then(some true)else(ak4 (H9 E5 0 1099511627776) fun v3=>some (!v3))) fun b3=>bif b3 then(some (([]:List Bool),2))else(ak4 (aY5 B8 false) fun l=>ak4 (L2 (l.length:Int) (as0 B8 ae9 E5) l) fun(t:(List Bool)⊕Empty)=>match t with| .inl f3=>(some (f3,0))| .inr r=>r.elim)
def aw5 (t2:o7)(o8 A4 late ae9 B8:Int):Option (Int×Int):=
 ak4 (ah6 t2 o8 A4) fun r2=>bif (r2.2 !=0)then(some (0,r2.2))else(ak4 (H9 late 0 2560) fun v=>ak4 (bif (!v)then(some true)else(ak4 (H9 B8 1 8) fun v2=>some (!v2))) fun b2=>ak4 (bif b2 then(some true)else(ak4 (H9 ae9 0 B8) fun v3=>some (!v3))) fun b3=>bif b3 then(some (0,2))else(ak4 (Z6 t2 r2.1 late ae9 B8) fun v4=>some (v4,0)))
def ab1 (s:o4):Option o4:=
 ak4 (ak4 (aC8 s.t s.i.D7 s.i.N0 s.i.M0) fun r2=>some (r2.2,r2.1)) fun(s2:Int×Int)=>ak4 (z8 ({s with A4:=s2.2}:o4) s2.1) fun v=>ak4 (ak4 (am8 v.t v.i.D7 v.A4 v.wanted (s.e.A7.length:Int)) fun r3=>some (r3.2.2,r3.1,r3.2.1)) fun(s3:Int×Int×Int)=>ak4 (z8 ({v with ae9:=s3.2.1,late:=s3.2.2}:o4) s3.1) fun v2=>ak4 (ar9 (s.e.A7.length:Int) v2.ae9 0) fun r4=>ak4 (z8 ({v2 with pattern:=r4.1}:o4) r4.2) fun v3=>ak4 (ak4 (aw5 v3.t v3.i.D7 v3.A4 v3.late v3.ae9 (s.e.A7.length:Int)) fun r5=>some (r5.2,r5.1)) fun(s4:Int×Int)=>ak4 (z8 ({v3 with out:=(⟨v3.out.J2,v3.out.O3,s4.2⟩:O8)}:o4) s4.1) fun v4=>some v4
def ad3 (o8 A4:Int):Option Bool:=
 ak4 (S7 o8 0 12000) fun v=>ak4 (bif v then(ak4 (S7 A4 0 1048576) fun v2=>some v2)else(some false)) fun b2=>some b2
def ah3 (s:List ac0):Option (List ac0):=
 ak4 (V4 ([]:List ac0) s) fun l=>some l
def ax5 (p2:N1):Option N1:=
 ak4 (ah3 p2.Cells) fun v=>some ({p2 with Cells:=v}:N1)
def az9 (p2:N1)(C3 o8 A4:Int):Option (N1×Int):=
 ak4 (ad1 p2) fun v=>bif (!v)then(some ((⟨false,false,0,0,([]:List ac0)⟩:N1),1))else(ak4 (ad3 o8 A4) fun v2=>ak4 (bif (!v2)then(some true)else(ak4 (S7 C3 0 20000) fun v3=>some (!v3))) fun b2=>bif b2 then(some ((⟨false,false,0,0,([]:List ac0)⟩:N1),2))else(ak4 (ax5 p2) fun v4=>bif (!v4.K5)then(some (({v4 with K5:=((decide (C3<300))||(decide (C3>600))),be1:=decide (C3>600)}:N1),0))else(ak4 (bif (decide (C3>500))then(some true)else(some ((decide (C3>=400))&&v4.be1))) fun b3=>ak4 (bif (!(b3==v4.be1))then(some (15,0))else(some (1,F7 1000 (j5 (v4.be2+1))))) fun(s:Int×Int)=>ak4 (bif b3 then(some (j5 (0-s.1)))else(some s.1)) fun(v_by:Int)=>ak4 (D0 (j5 (v4.ak6+v_by)) 750 1250) fun v5=>some ((⟨v4.K5,b3,v5,s.2,v4.Cells⟩:N1),0))))
def aC4 (x _ x2 n2:Int):Option (Fl Int Empty):=
 bif (decide (x>=x2))then(some (.next (j5 (n2+1))))else(some (.next n2))
def al3 (x:Int)(bb9:List Int):Option Int:=
 ak4 (ae5 bb9 (aC4 x) 0) fun(t:Int⊕Empty)=>match t with| .inl n3=>(some n3)| .inr r=>r.elim
def aG4 (o8 A4:Int):Option Int:=
 ak4 (ad3 o8 A4) fun v=>bif (!v)then(some (-1))else(ak4 (al3 o8 ([1500,3500]:List Int)) fun v2=>ak4 (al3 A4 ([150000,350000]:List Int)) fun v3=>some (j5 ((j5 (3*v2))+v3)))
def aq8 (p2:N1)(o8 A4:Int):Option (Int×Int):=
 ak4 (ad1 p2) fun v=>bif (!v)then(some (0,1))else(ak4 (ad3 o8 A4) fun v2=>bif (!v2)then(some (0,2))else(ak4 (aG4 o8 A4) fun v3=>ak4 (E0 p2.Cells v3) fun x=>ak4 (D0 (j5 (p2.ak6+x.Value)) 700 1300) fun v4=>some (v4,0)))
def af7 (x low high:Int):Option Bool:=
 some ((decide (x>=low))&&(decide (x<=high)))
def aU8 (A4 bJ1:Int):Option (Int×Int):=
 ak4 (af7 A4 0 1048576) fun v=>ak4 (bif (!v)then(some true)else(ak4 (af7 bJ1 500 2000) fun v2=>some (!v2))) fun b2=>bif b2 then(some (0,2))else(ak4 (bo5 .i64 (j5 (A4*10000)) (j5 (bJ1*147))) fun q=>some (q,0))
def aJ6 (b2:L6):Option Bool:=
 ak4 (af7 b2.P5 0 1023) fun v=>ak4 (bif v then(ak4 (af7 b2.M4 0 1024) fun v2=>some v2)else(some false)) fun b3=>some b3
def aN3 (cmp:Int->Option Int)(s:Int×Int):Option ((Int×Int)⊕((Int×Int)⊕Empty)):=
 bif (decide (s.1<s.2))then(ak4 (cmp (j5 (G3 .u64 (ba6.wrap (j5 (s.1+s.2))) 1))) fun v=>bif (decide (v>0))then(some (.inl (j5 ((j5 (G3 .u64 (ba6.wrap (j5 (s.1+s.2))) 1))+1),s.2)))else(some (.inl (s.1,j5 (G3 .u64 (ba6.wrap (j5 (s.1+s.2))) 1)))))else(some (.inr (.inl (s.1,s.2))))
def aP5 (n2:Int)(cmp:Int->Option Int):Option (Int×Bool):=
 ak4 (L8 (aN3 cmp) (0,n2)) fun(t:(Int×Int)⊕Empty)=>match t with| .inl s2=>(ak4 (bif (decide (s2.1<n2))then(ak4 (cmp s2.1) fun v2=>some (v2==0))else(some false)) fun b2=>some (s2.1,b2))| .inr r=>r.elim
def aC3 (b2:L6)(aG0 aH7:Int):Option (Int×Int):=
 some (j5 ((j5 (aH7-(j5 (cW7 (j5 (aH7*b2.P5)) 1024))))+(j5 (cW7 (j5 (aG0*b2.M4)) 1024))),j5 ((j5 (aG0+(j5 (cW7 (j5 (aH7*b2.P5)) 1024))))-(j5 (cW7 (j5 (aG0*b2.M4)) 1024))))
def aB2 (i:Int)(c:L6)(c2 c3:Int):Option Int:=
 ak4 (aC3 c c2 i) fun r2=>some (j5 (c3-r2.1))
def aJ5 (b2:L6)(aG0 bs3:Int):Option (Int×Int×Int):=
 ak4 (aJ6 b2) fun v=>bif (!v)then(some (0,0,1))else(ak4 (af7 aG0 0 1073741824) fun v2=>ak4 (bif (!v2)then(some true)else(ak4 (af7 bs3 0 1048576) fun v3=>some (!v3))) fun b3=>bif b3 then(some (0,0,2))else(ak4 (aP5 1048577 (fun x0=>aB2 x0 b2 aG0 bs3)) fun r2=>bif (decide (r2.1>1048576))then(some (0,0,9))else(ak4 (aC3 b2 aG0 r2.1) fun r3=>bif (decide (r3.2>1073741824))then(some (0,0,9))else(some (r2.1,r3.2,0)))))
def aP2 (b2:L6)(aG0 aH7:Int):Option (Int×Int×Int):=
 ak4 (aJ6 b2) fun v=>bif (!v)then(some (0,0,1))else(ak4 (af7 aG0 0 1073741824) fun v2=>ak4 (bif (!v2)then(some true)else(ak4 (af7 aH7 0 1048576) fun v3=>some (!v3))) fun b3=>bif b3 then(some (0,0,2))else(ak4 (aC3 b2 aG0 aH7) fun r2=>bif (decide (r2.2>1073741824))then(some (0,0,9))else(some (r2.1,r2.2,0))))
def aG1 (y:Int):Option Bool:=
 ak4 (af7 y 0 10000) fun v=>some (!v)
def aC2 (t2:o7)(cb4 C3:Int):Option (Int×Int):=
 ak4 (P7 t2.aw6) fun v=>ak4 (bif (!v)then(some true)else(ak4 (o6 t2.aw6.Y aG1) fun v2=>some v2)) fun b2=>bif b2 then(some (0,1))else(ak4 (af7 cb4 0 1048576) fun v3=>ak4 (bif (!v3)then(some true)else(ak4 (af7 C3 0 20000) fun v4=>some (!v4))) fun b3=>bif b3 then(some (0,2))else(ak4 (au1 t2.aw6 C3) fun v5=>some (v5,0)))
def aP3 (t2:o7)(bs3 C3:Int):Option (Int×Int):=
 ak4 (aC2 t2 bs3 C3) fun r2=>bif ((r2.2 !=0)||(bs3==0))then(some (0,r2.2))else(ak4 (an5 bs3 3 2) fun r3=>some (j5 (r2.1+r3.1),r3.2))
def ae7 (s:o4):Option o4:=
 ak4 (ak4 (az9 s.c.Q5 s.i.Lambda s.i.D7 s.A4) fun r2=>some (r2.2,r2.1)) fun(s2:Int×N1)=>ak4 (z8 ({s with c:=(⟨s.c.L5,s.c.af5,s.c.ab9,s2.2,s.c.P5,s.c.af8⟩:A9)}:o4) s2.1) fun v=>ak4 (aq8 v.c.Q5 v.i.D7 v.A4) fun r3=>ak4 (z8 v r3.2) fun v2=>ak4 (aU8 v2.A4 1000) fun r4=>ak4 (z8 v2 r4.2) fun v3=>ak4 (aJ5 v3.b v3.c.P5 (F7 1048576 (j5 (cW7 (j5 (r4.1*r3.1)) 1000)))) fun r5=>ak4 (bif ((v3.ae9==0)||(r5.2.2 !=0))then(ak4 (aP2 v3.b v3.c.P5 0) fun r6=>ak4 (z8 v3 r6.2.2) fun v4=>some (0,r6.2.1,v4))else(some (r5.1,r5.2.1,v3))) fun(s3:Int×Int×o4)=>bif (decide (s3.1>0))then(ak4 (aP3 s3.2.2.t s3.1 s3.2.2.i.aI5) fun r7=>ak4 (z8 (⟨s3.2.2.t,s3.2.2.e,s3.2.2.b,(⟨s3.2.2.c.L5,s3.2.2.c.af5,s3.2.2.c.ab9,s3.2.2.c.Q5,s3.2.1,s3.2.2.c.af8⟩:A9),s3.2.2.i,s3.2.2.wanted,s3.2.2.A4,s3.2.2.ae9,s3.2.2.late,s3.2.2.pattern,s3.2.2.time,s3.2.2.out,s3.2.2.fail⟩:o4) r7.2) fun v5=>ak4 (D0 r7.1 200 20000) fun v6=>some ({v5 with time:=v6}:o4))else(some (⟨s3.2.2.t,s3.2.2.e,s3.2.2.b,(⟨s3.2.2.c.L5,s3.2.2.c.af5,s3.2.2.c.ab9,s3.2.2.c.Q5,s3.2.1,s3.2.2.c.af8⟩:A9),s3.2.2.i,s3.2.2.wanted,s3.2.2.A4,s3.2.2.ae9,s3.2.2.late,s3.2.2.pattern,s3.2.2.time,s3.2.2.out,s3.2.2.fail⟩:o4))
def aB3 (k:C1):Option Bool:=
 ak4 (ax4 k) fun v=>some (!v)
def aG3 (n2:Int):Option Bool:=
 ak4 (ai0 n2) fun v=>some (!v)
def ae2 (s:List C1):Option (List C1):=
 ak4 (V4 ([]:List C1) s) fun l=>some l
def aH8 (k:C1)(n2:Int):Option (C1×Bool):=
 bif (decide (n2>(j5 ((j5 (3*k.aI2))+40))))then(some ((⟨F7 (j5 (k.at5+96)) 960,k.aI2,0⟩:C1),true))else(ak4 (bif ((j5 (k.Quiet+1))==100)then(some (G8 (j5 (k.at5-16)) 0,0))else(some (k.at5,j5 (k.Quiet+1)))) fun(s:Int×Int)=>ak4 (W5 (j5 (n2-k.aI2)) 8) fun v=>some ((⟨s.1,j5 (k.aI2+v),s.2⟩:C1),false))
def aM5 (l:List C1)(ag5:List Int)(i:Int)(f2:List C1):Option (Fl (List C1) Empty):=
 ak4 (ak4 (E0 l i) fun x=>ak4 (E0 ag5 i) fun x2=>ak4 (aH8 x x2) fun r2=>ak4 (E0 f2 i) fun _=>ak4 (ao3 f2 i r2.1) fun l2=>some l2) fun(f3:List C1)=>some (.next f3)
def aV1 (l:List C1)(ag5:List Int):Option (List C1×Int):=
 ak4 (bif (((decide ((l.length:Int)<1))||(decide ((l.length:Int)>8)))||((ag5.length:Int) !=(l.length:Int)))then(some true)else(ak4 (J5 l aB3) fun v=>some v)) fun b2=>bif b2 then(some (([]:List C1),1))else(ak4 (o6 ag5 aG3) fun v2=>bif v2 then(some (([]:List C1),2))else(ak4 (ae2 l) fun v3=>ak4 (L2 (v3.length:Int) (aM5 l ag5) v3) fun(t:(List C1)⊕Empty)=>match t with| .inl f4=>(some (f4,0))| .inr r=>r.elim))
def aB4 (a b2:Int):Option Int:=
 some (j5 (b2-a))
def aG9 (l:List Int):Option Bool:=
 ak4 (I3 l aB4) fun v=>some v
def R4 (x low high:Int):Option Bool:=
 some ((decide (x>=low))&&(decide (x<=high)))
def at4 (x c c2:Int):Option Bool:=
 ak4 (R4 x c c2) fun v=>some (!v)
def ad8 (l:List Int)(low high:Int):Option Bool:=
 ak4 (o6 l (fun x0=>at4 x0 low high)) fun v=>some v
def aw4 (l:List Int):Option Bool:=
 ak4 (ad8 l (-1280) 3840) fun v=>some v
def ay0 (t2:o7):Option Bool:=
 ak4 (J6 t2.O2) fun v=>ak4 (bif (!v)then(some true)else(ak4 (P7 t2.af6) fun v2=>some (!v2))) fun b2=>ak4 (bif b2 then(some true)else(ak4 (P7 t2.C7) fun v3=>some (!v3))) fun b3=>ak4 (bif b3 then(some true)else(ak4 (aG9 t2.C7.Y) fun v4=>some (!v4))) fun b4=>bif b4 then(some false)else(ak4 (G2 t2.O2.Z aw4) fun v5=>ak4 (bif (!v5)then(ak4 (ad8 t2.af6.Y 500 10000) fun v6=>some (!v6))else(some false)) fun b5=>ak4 (bif b5 then(ak4 (ad8 t2.C7.Y 0 1000) fun v7=>some (!v7))else(some false)) fun b6=>some b6)
def aG8 (t2:o7)(C3 M7:Int):Option (Int×Int):=
 ak4 (ay0 t2) fun v=>bif (!v)then(some (0,1))else(ak4 (R4 C3 0 20000) fun v2=>ak4 (bif (!v2)then(some true)else(ak4 (R4 M7 4000 1000000) fun v3=>some (!v3))) fun b2=>bif b2 then(some (0,2))else(ak4 (au1 t2.af6 C3) fun v4=>some (F7 v4 (j5 (cW7 (j5 (3*M7)) 4)),0)))
def aN4 (t2:o7)(o8 A4:Int):Option (Int×Int):=
 ak4 (ay0 t2) fun v=>bif (!v)then(some (0,1))else(ak4 (R4 o8 0 12000) fun v2=>ak4 (bif (!v2)then(some true)else(ak4 (R4 A4 0 1048576) fun v3=>some (!v3))) fun b2=>bif b2 then(some (0,2))else(ak4 (Y9 t2.O2 o8 A4) fun v4=>some (v4,0)))
def aG7 (t2:o7)(o8 A4 D6 bk4:Int):Option (Int×Int):=
 ak4 (aN4 t2 o8 A4) fun r2=>bif (r2.2 !=0)then(some (0,r2.2))else(ak4 (R4 D6 (-40) 150) fun v=>ak4 (bif (!v)then(some true)else(ak4 (R4 bk4 0 1280) fun v2=>some (!v2))) fun b2=>bif b2 then(some (0,2))else(bif (decide (D6<20))then(ak4 (D0 (j5 ((j5 (r2.1+(j5 (2*(j5 (20-D6))))))-bk4)) (-1280) 3840) fun v3=>some (v3,0))else(bif (decide (D6>100))then(ak4 (D0 (j5 ((j5 (r2.1-(j5 (8*(j5 (D6-100))))))-bk4)) (-1280) 3840) fun v4=>some (v4,0))else(ak4 (D0 (j5 (r2.1-bk4)) (-1280) 3840) fun v5=>some (v5,0)))))
def ae4 (r3:Int×Int)(i:Int)(f2:o4):Option (Fl o4 Empty):=
 ak4 (E0 f2.c.ab9 i) fun x=>ak4 (aG7 f2.t f2.i.D7 f2.A4 f2.i.av3 x.at5) fun r4=>ak4 (z8 f2 r4.2) fun v4=>ak4 (E0 v4.pattern i) fun x2=>ak4 (bif x2 then(some v4.time)else(some 0)) fun(f3:Int)=>ak4 (ak4 (V4 v4.out.O3 ([(⟨j5 (i+1),G8 (-1280) (j5 (r4.1-v4.late)),G8 500 r3.1,5760,f3,0,0⟩:A6)]:List A6)) fun l=>some l) fun(f4:List A6)=>some (.next ({v4 with out:=(⟨v4.out.J2,f4,v4.out.o9⟩:O8)}:o4))
def ab0 (s:o4):Option o4:=
 ak4 (ak4 (aV1 s.c.ab9 s.i.Y1) fun r2=>some (r2.2,r2.1)) fun(s2:Int×List C1)=>ak4 (z8 ({s with c:=(⟨s.c.L5,s.c.af5,s2.2,s.c.Q5,s.c.P5,s.c.af8⟩:A9)}:o4) s2.1) fun v=>ak4 (bo5 .i64 60000000 (G8 1 v.i.D7)) fun q=>ak4 (D0 q 4000 1000000) fun v2=>ak4 (aG8 v.t v.i.aI5 v2) fun r3=>ak4 (z8 v r3.2) fun v3=>bif (v3.fail !=0)then(some v3)else(ak4 (L2 (v3.e.A7.length:Int) (ae4 r3) v3) fun(t:o4⊕Empty)=>match t with| .inl f5=>(some f5)| .inr r=>r.elim)
def aF4 (t2:o7)(e2:o5)(b2:L6)(c:A9)(i:X5):Option (A9×O8×Int):=
 ak4 (ad0 t2) fun v=>ak4 (bif (!v)then(some true)else(ak4 (ak1 b2) fun v2=>some (!v2))) fun b3=>ak4 (bif b3 then(some true)else(ak4 (aq1 e2 c) fun v3=>some (!v3))) fun b4=>bif b4 then(some ((⟨(⟨0,0,false⟩:V1),(⟨0⟩:F9),([]:List C1),(⟨false,false,0,0,([]:List ac0)⟩:N1),0,(⟨0,0⟩:aa8)⟩:A9),(⟨0,([]:List A6),0⟩:O8),1))else(ak4 (av8 i (e2.A7.length:Int)) fun v4=>bif (!v4)then(some ((⟨(⟨0,0,false⟩:V1),(⟨0⟩:F9),([]:List C1),(⟨false,false,0,0,([]:List ac0)⟩:N1),0,(⟨0,0⟩:aa8)⟩:A9),(⟨0,([]:List A6),0⟩:O8),2))else(ak4 (X7 (⟨t2,e2,b2,c,i,0,0,0,0,([]:List Bool),0,(⟨0,([]:List A6),0⟩:O8),0⟩:o4)) fun v5=>ak4 (U7 v5) fun v6=>ak4 (ab1 v6) fun v7=>ak4 (ae7 v7) fun v8=>ak4 (ab0 v8) fun v9=>bif (v9.fail !=0)then(ak4 (some v9.fail) fun(v10:Int)=>some ((⟨(⟨0,0,false⟩:V1),(⟨0⟩:F9),([]:List C1),(⟨false,false,0,0,([]:List ac0)⟩:N1),0,(⟨0,0⟩:aa8)⟩:A9),(⟨0,([]:List A6),0⟩:O8),v10))else(ak4 (some (0,v9.c,v9.out)) fun(s:Int×A9×O8)=>some (s.2.1,s.2.2,s.1))))
def aV7 (n2:Int):Option (A2×Int):=
 bif ((decide (n2<1))||(decide (n2>16)))then(some ((⟨0,([]:List j7)⟩:A2),2))else(ak4 (aY5 n2 (⟨false,0,false,false⟩:j7)) fun l=>some ((⟨0,l⟩:A2),0))
def O4 (s:List Int):Option (List Int):=
 ak4 (V4 ([]:List Int) s) fun l=>some l
def bc1:Option E8:=
 some (⟨false,0,0,0,0,0⟩:E8)
def ap2 (e2:o5):Option (c8×Int):=
 ak4 (P0 e2) fun v=>bif (!v)then(some ((⟨(⟨([]:List Int),0⟩:o5),(⟨false,0,0,0,0,0⟩:E8),(⟨0,([]:List j7)⟩:A2),([]:List A6),([]:List B0),false⟩:c8),1))else(ak4 (aV7 (j5 (2*(e2.A7.length:Int)))) fun r2=>bif (r2.2 !=0)then(some ((⟨(⟨([]:List Int),0⟩:o5),(⟨false,0,0,0,0,0⟩:E8),(⟨0,([]:List j7)⟩:A2),([]:List A6),([]:List B0),false⟩:c8),1))else(ak4 (O4 e2.A7) fun v2=>ak4 (bc1) fun v3=>some ((⟨(⟨v2,e2.as4⟩:o5),v3,r2.1,([]:List A6),([]:List B0),false⟩:c8),0)))
def av6 (t2:Int):Option Bool:=
 some ((decide (t2>=0))&&(decide (t2<=1099511627776)))
def aj7 (c:E8):Option Bool:=
 bif (!c.Y2)then(some ((c.Y2==false)&&((c.At==0)&&((c.I0==0)&&((c.G1==0)&&((c.ab6==0)&&((c.as3==0)&&true)))))))else(ak4 (av6 c.At) fun v=>bif (((((((!v)||(decide (c.I0<0)))||(decide (c.I0>=46080)))||(decide (c.G1<1)))||(decide (c.G1>1073741824)))||(decide (c.ab6<192)))||(decide (c.ab6>1920)))then(some false)else(some (((c.as3==c.ab6)||(c.as3==(j5 (2*c.ab6))))||(c.as3==(j5 (3*c.ab6))))))
def W3 (s:List j7)(f2:j7->Option Bool)(i:Int)(_:Unit):Option (Fl Unit Int):=
 ak4 (E0 s i) fun x=>ak4 (f2 x) fun v=>bif v then(some (.ret i))else(some (.next ()))
def R8 (s:List j7)(f2:j7->Option Bool):Option Int:=
 ak4 (L2 (s.length:Int) (W3 s f2) ()) fun(t:Unit⊕Int)=>match t with| .inl _=>(some (-1))| .inr r2=>some r2
def G7 (s:List j7)(f2:j7->Option Bool):Option Bool:=
 ak4 (R8 s f2) fun v=>some (decide (v>=0))
def ap3 (c:j7)(c2:A2):Option Bool:=
 bif c.F4 then(some ((decide (c.At<=c2.V5))||(decide (c.At>1099511627776))))else(some ((c.At !=0)||c.Next))
def ao5 (t2:A2):Option Bool:=
 bif ((((decide (t2.V5<0))||(decide (t2.V5>1099511627776)))||(decide ((t2.j2.length:Int)<1)))||(decide ((t2.j2.length:Int)>16)))then(some false)else(ak4 (G7 t2.j2 (fun x0=>ap3 x0 t2)) fun v=>some (!v))
def M8 (x low high:Int):Option Bool:=
 some ((decide (x>=low))&&(decide (x<=high)))
def Y3 (e2:o5)(f2:A6):Option Bool:=
 ak4 (P0 e2) fun v=>ak4 (bif (!v)then(some true)else(ak4 (P8 e2.A7 f2.p7) fun v2=>some (!v2))) fun b2=>ak4 (bif b2 then(some true)else(ak4 (M8 f2.O2 (-1280) 3840) fun v3=>some (!v3))) fun b3=>ak4 (bif b3 then(some true)else(ak4 (M8 f2.af6 500 10000) fun v4=>some (!v4))) fun b4=>ak4 (bif b4 then(some true)else(ak4 (M8 f2.End 0 23040) fun v5=>some (!v5))) fun b5=>bif b5 then(some false)else(ak4 (bif (f2.Z7 !=0)then(ak4 (M8 f2.Z7 200 20000) fun v6=>some (!v6))else(some false)) fun b6=>bif b6 then(some false)else(ak4 (bif ((f2.Gap==0)&&(f2.Extra==0))then(some true)else(ak4 (bif (f2.Z7 !=0)then(ak4 (M8 f2.Gap 200 20000) fun v7=>some v7)else(some false)) fun b7=>ak4 (bif b7 then(ak4 (M8 f2.Extra 200 20000) fun v8=>some v8)else(some false)) fun b8=>some b8)) fun b9=>some b9))
def O0 (s:List A6)(f2:A6->Option Bool)(i:Int)(_:Unit):Option (Fl Unit Int):=
 ak4 (E0 s i) fun x=>ak4 (f2 x) fun v=>bif v then(some (.ret i))else(some (.next ()))
def H8 (s:List A6)(f2:A6->Option Bool):Option Int:=
 ak4 (L2 (s.length:Int) (O0 s f2) ()) fun(t:Unit⊕Int)=>match t with| .inl _=>(some (-1))| .inr r2=>some r2
def F5 (s:List A6)(f2:A6->Option Bool):Option Bool:=
 ak4 (H8 s f2) fun v=>some (decide (v>=0))
def af3 (g c:A6):Option Bool:=
 some (g.p7==c.p7)
def an3 (e2:o5)(l:List A6)(i:Int)(_:Unit):Option (Fl Unit Bool):=
 ak4 (E0 l i) fun x=>ak4 (Y3 e2 x) fun v=>ak4 (bif (!v)then(some true)else(ak4 (ay7 l 0 i) fun l2=>ak4 (F5 l2 (fun x0=>af3 x0 x)) fun v2=>some v2)) fun b2=>bif b2 then(some (.ret false))else(some (.next ()))
def ac2 (e2:o5)(l:List A6):Option Bool:=
 ak4 (L2 (l.length:Int) (an3 e2 l) ()) fun(t:Unit⊕Bool)=>match t with| .inl _=>(some true)| .inr r2=>some r2
def P2 (s:List B0)(f2:B0->Option Bool):Option Bool:=
 ak4 (C6 s f2) fun v=>some (decide (v>=0))
def aw3 (s:c8)(j:B0):Option Bool:=
 ak4 (bif ((((((((((decide (j.Event.p7>=1))&&(decide (j.Event.p7<=(s.A1.A7.length:Int))))&&(decide (j.Event.Kind>=1)))&&(decide (j.Event.Kind<=4)))&&(decide (j.Event.I0>=0)))&&(decide (j.Event.I0<46080)))&&(decide (j.Event.aj6>=0)))&&(decide (j.Event.aj6<=2)))&&(decide (j.Left>=(-1048576))))&&(decide (j.Left<=1048576)))then(some (j.F4||(j.At==0)))else(some false)) fun b2=>some b2
def Z2 (j:B0)(c:c8):Option Bool:=
 ak4 (aw3 c j) fun v=>some (!v)
def H5 (x:C0):Option Int:=
 bif ((x.Kind==3)||(x.Kind==4))then(some (j5 ((j5 (2*(j5 (x.p7-1))))+1)))else(some (j5 (2*(j5 (x.p7-1)))))
def ar4 (kind:Int):Option Bool:=
 some ((kind==1)||(kind==3))
def Z5 (s:c8)(c:Int)(x:j7)(_:Int)(x2:B0)(s2:Bool×Bool):Option (Fl (Bool×Bool) Bool):=
 ak4 (H5 x2.Event) fun v=>bif (v !=c)then(some (.next (s2.1,s2.2)))else(ak4 (ar4 x2.Event.Kind) fun v2=>bif (v2==s2.1)then(some (.ret false))else(ak4 (bif s2.2 then(ak4 (bif (!(x2.F4==x.F4))then(some true)else(ak4 (bif x2.F4 then(some ((x2.At !=x.At)||(!(x.Next==(!s2.1)))))else(some false)) fun b2=>some b2)) fun b3=>bif b3 then(some (Sum.inr false))else(some (Sum.inl ())))else(bif (x2.F4||s.Cut)then(some (Sum.inr false))else(some (Sum.inl ())))) fun(t:Unit⊕Bool)=>match t with| .inl _=>(ak4 (bif s.Cut then(some (((x2.Event.Kind !=2)||(!x2.F4))||(decide (x2.At>(j5 (s.j9.V5+5000))))))else(some false)) fun b4=>bif b4 then(some (.ret false))else(some (.next ((!s2.1),false))))| .inr r2=>some (.ret r2)))
def ar3 (s:c8)(c:Int):Option Bool:=
 ak4 (E0 s.j9.j2 c) fun x=>ak4 (ae5 s.H7 (Z5 s c x) (x.L4,true)) fun(t:(Bool×Bool)⊕Bool)=>match t with| .inl s4=>(ak4 (bif (!s4.1)then(some (!(s4.2&&x.F4)))else(some false)) fun b5=>some b5)| .inr r3=>some r3
def an2 (s:c8)(i:Int)(_:Unit):Option (Fl Unit Bool):=
 ak4 (ar3 s i) fun v6=>bif (!v6)then(some (.ret false))else(some (.next ()))
def K1 (s:c8):Option Bool:=
 ak4 (P0 s.A1) fun v=>ak4 (bif (!v)then(some true)else(ak4 (aj7 s.B5) fun v2=>some (!v2))) fun b2=>ak4 (bif b2 then(some true)else(ak4 (ao5 s.j9) fun v3=>some (!v3))) fun b3=>ak4 (bif (b3||((s.j9.j2.length:Int) !=(j5 (2*(s.A1.A7.length:Int)))))then(some true)else(ak4 (ac2 s.A1 s.Next) fun v4=>some (!v4))) fun b4=>bif b4 then(some false)else(ak4 (bif (decide ((s.H7.length:Int)>200))then(some true)else(some ((!s.B5.Y2)&&(decide ((s.H7.length:Int)>0))))) fun b5=>ak4 (bif b5 then(some true)else(ak4 (P2 s.H7 (fun x0=>Z2 x0 s)) fun v5=>some v5)) fun b6=>bif b6 then(some false)else(ak4 (L2 (s.j9.j2.length:Int) (an2 s) ()) fun(t:Unit⊕Bool)=>match t with| .inl _=>(some true)| .inr r2=>some r2))
def U6 (s:List A6):Option (List A6):=
 ak4 (V4 ([]:List A6) s) fun l=>some l
def ak3 (s:List B0):Option (List B0):=
 ak4 (V4 ([]:List B0) s) fun l=>some l
def L9 (s:c8):Option c8:=
 ak4 (ak3 s.H7) fun v=>ak4 (U6 s.Next) fun v2=>some ({s with Next:=v2,H7:=v}:c8)
def ar2 (s:c8)(l:List A6):Option (c8×Int):=
 ak4 (K1 s) fun v=>ak4 (bif (!v)then(some true)else(ak4 (ac2 s.A1 l) fun v2=>some (!v2))) fun b2=>bif b2 then(some ((⟨(⟨([]:List Int),0⟩:o5),(⟨false,0,0,0,0,0⟩:E8),(⟨0,([]:List j7)⟩:A2),([]:List A6),([]:List B0),false⟩:c8),1))else(ak4 (L9 s) fun v3=>ak4 (U6 l) fun v4=>some (({v3 with Next:=v4}:c8),0))
def ah0 (x:j7):Option Bool:=
 some x.L4
def ad5 (s:c8):Option (c8×Int):=
 ak4 (K1 s) fun v=>bif (!v)then(some ((⟨(⟨([]:List Int),0⟩:o5),(⟨false,0,0,0,0,0⟩:E8),(⟨0,([]:List j7)⟩:A2),([]:List A6),([]:List B0),false⟩:c8),1))else(ak4 (bif (!s.Cut)then(some true)else(ak4 (G7 s.j9.j2 ah0) fun v2=>some v2)) fun b2=>bif b2 then(some ((⟨(⟨([]:List Int),0⟩:o5),(⟨false,0,0,0,0,0⟩:E8),(⟨0,([]:List j7)⟩:A2),([]:List A6),([]:List B0),false⟩:c8),6))else(ak4 (L9 s) fun v3=>some (({v3 with Cut:=false}:c8),0)))
def ah5 (t2:A2)(channel:Int):Option (A2×Int):=
 ak4 (ao5 t2) fun v=>bif (!v)then(some ((⟨0,([]:List j7)⟩:A2),1))else(bif ((decide (channel<0))||(decide (channel>=(t2.j2.length:Int))))then(some ((⟨0,([]:List j7)⟩:A2),2))else(ak4 (aY5 (t2.j2.length:Int) (⟨false,0,false,false⟩:j7)) fun l=>some ((⟨t2.V5,aJ3 l t2.j2⟩:A2),0)))
def aH0 (t2:A2)(channel:Int)(level:Bool):Option (A2×List j8×Int):=
 ak4 (ah5 t2 channel) fun r2=>bif (r2.2 !=0)then(some ((⟨0,([]:List j7)⟩:A2),([]:List j8),r2.2))else(ak4 (E0 r2.1.j2 channel) fun _=>ak4 (ao3 r2.1.j2 channel (⟨false,0,false,level⟩:j7)) fun l=>ak4 (E0 t2.j2 channel) fun x2=>bif (x2.L4==level)then(some ((⟨r2.1.V5,l⟩:A2),([]:List j8),0))else(ak4 (some (([(⟨t2.V5,channel,level⟩:j8)]:List j8),(⟨r2.1.V5,l⟩:A2))) fun(s:List j8×A2)=>some (s.2,s.1,0)))
def aA3 (t2:A2)(channel:Int):Option (A2×Int):=
 ak4 (ah5 t2 channel) fun r2=>bif (r2.2 !=0)then(some ((⟨0,([]:List j7)⟩:A2),r2.2))else(ak4 (E0 t2.j2 channel) fun x=>ak4 (E0 r2.1.j2 channel) fun _=>ak4 (ao3 r2.1.j2 channel (⟨false,0,false,x.L4⟩:j7)) fun l=>some ((⟨r2.1.V5,l⟩:A2),0))
def at3 (j:B0)(c:Int):Option Bool:=
 ak4 (H5 j.Event) fun v=>some (v==c)
def aK4 (t2:A2)(channel aZ4:Int)(level:Bool):Option (A2×Int):=
 ak4 (ah5 t2 channel) fun r2=>bif (r2.2 !=0)then(some ((⟨0,([]:List j7)⟩:A2),r2.2))else(bif (decide (aZ4<=t2.V5))then(some ((⟨0,([]:List j7)⟩:A2),16))else(bif (decide (aZ4>1099511627776))then(some ((⟨0,([]:List j7)⟩:A2),2))else(ak4 (E0 t2.j2 channel) fun x=>ak4 (E0 r2.1.j2 channel) fun _=>ak4 (ao3 r2.1.j2 channel (⟨true,aZ4,level,x.L4⟩:j7)) fun l=>some ((⟨r2.1.V5,l⟩:A2),0))))
def ad4 (s:c8)(i:Int)(s2:List j8×A2×List B0):Option (Fl (List j8×A2×List B0) Empty):=
 ak4 (E0 s.j9.j2 i) fun x=>ak4 (bif x.L4 then(some ((!((dq1 i 2)==0))||(s.j9.V5==1099511627776)))else(some false)) fun b2=>bif b2 then(ak4 (aH0 s2.2.1 i false) fun r2=>ak4 (V4 s2.1 r2.2.1) fun l=>some (.next (l,r2.1,s2.2.2)))else(ak4 (aA3 s2.2.1 i) fun r3=>bif (!x.L4)then(some (.next (s2.1,r3.1,s2.2.2)))else(ak4 (C6 s.H7 (fun x0=>at3 x0 i)) fun v3=>ak4 (E0 s.H7 v3) fun x2=>ak4 (bif ((!x2.F4)||(decide (x2.At>(j5 (s.j9.V5+5000)))))then(some (F7 (j5 (s.j9.V5+5000)) 1099511627776))else(some x2.At)) fun(f2:Int)=>ak4 (aK4 r3.1 i f2 false) fun r4=>ak4 (V4 s2.2.2 ([(⟨x2.Event,x2.Left,true,f2⟩:B0)]:List B0)) fun l2=>some (.next (s2.1,r4.1,l2))))
def ap1 (s:c8):Option (c8×List j8×Int):=
 ak4 (K1 s) fun v=>bif (!v)then(some ((⟨(⟨([]:List Int),0⟩:o5),(⟨false,0,0,0,0,0⟩:E8),(⟨0,([]:List j7)⟩:A2),([]:List A6),([]:List B0),false⟩:c8),([]:List j8),1))else(ak4 (L9 s) fun v2=>bif s.Cut then(some (v2,([]:List j8),0))else(ak4 (L2 (s.j9.j2.length:Int) (ad4 s) (([]:List j8),v2.j9,([]:List B0))) fun(t:(List j8×A2×List B0)⊕Empty)=>match t with| .inl s3=>(some ((⟨v2.A1,v2.B5,s3.2.1,v2.Next,s3.2.2,true⟩:c8),s3.1,0))| .inr r=>r.elim))
def W0 (j:B0)(c:Int):Option Bool:=
 ak4 (H5 j.Event) fun v=>some (v==c)
def aA0 (a b2:Int):Option Int:=
 ak4 (bo5 .i64 a b2) fun q=>ak4 (cg2 a b2) fun q2=>bif (decide (q2>0))then(some (j5 (q+1)))else(some q)
def W2 (s:c8)(i:Int)(s2:A2×List B0):Option (Fl (A2×List B0) Empty):=
 ak4 (C6 s2.2 (fun x0=>W0 x0 i)) fun v=>ak4 (bif (decide (v<0))then(some true)else(ak4 (E0 s2.2 v) fun x=>some (decide (x.Left>s.B5.as3)))) fun(v2:Bool)=>bif v2 then(some (.next (s2.1,s2.2)))else(ak4 (E0 s2.2 v) fun x2=>ak4 (aA0 (j5 (x2.Left*s.B5.G1)) s.B5.ab6) fun v3=>bif (decide ((G8 (j5 (s.B5.At+v3)) (j5 (s2.1.V5+1)))>1099511627776))then(some (.next (s2.1,s2.2)))else(ak4 (ak4 (ar4 x2.Event.Kind) fun v4=>ak4 (aK4 s2.1 i (G8 (j5 (s.B5.At+v3)) (j5 (s2.1.V5+1))) v4) fun r2=>some (r2.2,r2.1)) fun(s3:Int×A2)=>bif (s3.1==0)then(ak4 (ao3 s2.2 v ({x2 with F4:=true}:B0)) fun l=>ak4 (ao3 l v (⟨x2.Event,x2.Left,true,G8 (j5 (s.B5.At+v3)) (j5 (s2.1.V5+1))⟩:B0)) fun l2=>some (.next (s3.2,l2)))else(some (.next (s2.1,s2.2)))))
def al4 (s:c8):Option c8:=
 bif s.Cut then(some s)else(ak4 (L2 (s.j9.j2.length:Int) (W2 s) (s.j9,s.H7)) fun(t:(A2×List B0)⊕Empty)=>match t with| .inl s4=>(some ({s with j9:=s4.1,H7:=s4.2}:c8))| .inr r=>r.elim)
def aI0 (_:Int)(x:j7)(s:Int×Bool):Option (Fl (Int×Bool) Empty):=
 ak4 (bif x.F4 then(some ((!s.2)||(decide (x.At<s.1))))else(some false)) fun b2=>bif b2 then(some (.next (x.At,true)))else(some (.next (s.1,s.2)))
def aN6 (t2:A2):Option (Int×Bool):=
 ak4 (ao5 t2) fun v=>bif (!v)then(some (0,false))else(ak4 (ae5 t2.j2 (aI0) (0,false)) fun(t:(Int×Bool)⊕Empty)=>match t with| .inl s2=>(some (s2.1,s2.2))| .inr r=>r.elim)
def Y8 (s:List j8)(f:j8->j8->Option Int):Option (List j8):=
 bT9 f s
def F8 (x y:Int):Option Int:=
 ak4 (cmp_isNaN_int x) fun v=>ak4 (cmp_isNaN_int y) fun v2=>bif v then(bif v2 then(some 0)else(some (-1)))else(bif v2 then(some 1)else(bif (decide (x<y))then(some (-1))else(bif (decide (x>y))then(some 1)else(some 0))))
def aA4 (_ x:Int)(_:Unit):Option (Fl Unit Int):=
 bif (x !=0)then(some (.ret x))else(some (.next ()))
def ag2 (by8:List Int):Option Int:=
 ak4 (ae5 by8 (aA4) ()) fun(t:Unit⊕Int)=>match t with| .inl _=>(some 0)| .inr r2=>some r2
def Y0 (a b2:j8):Option Int:=
 ak4 (F8 a.At b2.At) fun v=>ak4 (F8 a.Channel b2.Channel) fun v2=>ak4 (ag2 ([v,v2]:List Int)) fun v3=>some v3
def av2 (t2:A2)(N3 i:Int)(s:List j8×List j7):Option (Fl (List j8×List j7) Empty):=
 ak4 (E0 t2.j2 i) fun x=>bif ((!x.F4)||(decide (x.At>N3)))then(some (.next (s.1,s.2)))else(ak4 (bif (!(x.Next==x.L4))then(ak4 (V4 s.1 ([(⟨x.At,i,x.Next⟩:j8)]:List j8)) fun l=>some l)else(some s.1)) fun(f2:List j8)=>ak4 (E0 s.2 i) fun _=>ak4 (ao3 s.2 i (⟨false,0,false,x.Next⟩:j7)) fun l2=>some (.next (f2,l2)))
def al5 (t2:A2)(N3:Int):Option (A2×List j8×Int):=
 ak4 (ah5 t2 0) fun r2=>bif (r2.2 !=0)then(some ((⟨0,([]:List j7)⟩:A2),([]:List j8),r2.2))else(bif (decide (N3<t2.V5))then(some ((⟨0,([]:List j7)⟩:A2),([]:List j8),16))else(bif (decide (N3>1099511627776))then(some ((⟨0,([]:List j7)⟩:A2),([]:List j8),2))else(ak4 (L2 (t2.j2.length:Int) (av2 t2 N3) (([]:List j8),r2.1.j2)) fun(t:(List j8×List j7)⊕Empty)=>match t with| .inl s2=>(ak4 (Y8 s2.1 Y0) fun v=>some ((⟨N3,s2.2⟩:A2),v,0))| .inr r=>r.elim)))
def ao2 (j:B0)(c:Int):Option Bool:=
 some (j.F4&&(j.At==c))
def Z4 (N3:Int)(s2:List j8×c8):Option ((List j8×c8)⊕((List j8×c8)⊕Empty)):=
 ak4 (aN6 s2.2.j9) fun r2=>bif ((!r2.2)||(decide (r2.1>N3)))then(some (.inr (.inl (s2.1,s2.2))))else(ak4 (ak4 (al5 s2.2.j9 r2.1) fun r3=>some (r3.2.1,r3.1)) fun(s3:List j8×A2)=>ak4 (V4 s2.1 s3.1) fun l=>ak4 (L3 s2.2.H7 (fun x0=>ao2 x0 r2.1)) fun v=>ak4 (al4 (⟨s2.2.A1,s2.2.B5,s3.2,s2.2.Next,v,s2.2.Cut⟩:c8)) fun v2=>some (.inl (l,v2)))
def ac3 (s:c8)(N3:Int):Option (List j8×c8):=
 ak4 (L8 (Z4 N3) (([]:List j8),s)) fun(t:(List j8×c8)⊕Empty)=>match t with| .inl s4=>(ak4 (al5 s4.2.j9 N3) fun r4=>ak4 (V4 s4.1 r4.2.1) fun l2=>some (l2,(⟨s4.2.A1,s4.2.B5,r4.1,s4.2.Next,s4.2.H7,s4.2.Cut⟩:c8)))| .inr r=>r.elim
def U0 (s:c8)(N3:Int):Option (c8×List j8×Int):=
 ak4 (K1 s) fun v=>bif (!v)then(some ((⟨(⟨([]:List Int),0⟩:o5),(⟨false,0,0,0,0,0⟩:E8),(⟨0,([]:List j7)⟩:A2),([]:List A6),([]:List B0),false⟩:c8),([]:List j8),1))else(bif (decide (N3<s.j9.V5))then(some ((⟨(⟨([]:List Int),0⟩:o5),(⟨false,0,0,0,0,0⟩:E8),(⟨0,([]:List j7)⟩:A2),([]:List A6),([]:List B0),false⟩:c8),([]:List j8),16))else(bif (decide (N3>1099511627776))then(some ((⟨(⟨([]:List Int),0⟩:o5),(⟨false,0,0,0,0,0⟩:E8),(⟨0,([]:List j7)⟩:A2),([]:List A6),([]:List B0),false⟩:c8),([]:List j8),2))else(ak4 (L9 s) fun v2=>ak4 (ac3 v2 N3) fun r2=>some (r2.2,r2.1,0))))
def ac9 (a b2:Int):Option Int:=
 bif ((b2==0)||(b2==(-1)))then(some 0)else(ak4 (cg2 a b2) fun q=>bif ((q !=0)&&(!((decide (q<0))==(decide (b2<0)))))then(some (j5 (q+b2)))else(some q))
def R6 (aT0 N3:Int):Option Int:=
 ak4 (ai4 aT0) fun v=>ak4 (bif (!v)then(some true)else(ak4 (ai4 N3) fun v2=>some (!v2))) fun b2=>bif b2 then(some (-1))else(ak4 (ac9 (j5 (N3-aT0)) 46080) fun v3=>some v3)
def aL1 (c:E8):Option Int:=
 ak4 (aj7 c) fun v=>bif (!v)then(some 1)else(bif (!c.Y2)then(some 6)else(some 0))
def bm5 (a b2:Int):Option Int:=
 ak4 (an5 a b2 2) fun r2=>some r2.1
def aF3 (c:E8)(bU8:Int):Option (Int×Int):=
 ak4 (aL1 c) fun v=>bif (v !=0)then(some (0,v))else(bif ((decide (bU8<0))||(decide (bU8>46080)))then(some (0,2))else(ak4 (bm5 (j5 (bU8*c.G1)) c.ab6) fun v2=>some (v2,0)))
def al2 (e2:o5)(aD2:Int):Option (Int×Bool):=
 ak4 (W8 e2.A7 aD2) fun v=>ak4 (bo5 .i64 (j5 ((G8 v 0)*46080)) (e2.A7.length:Int)) fun q=>some (dq1 (j5 (e2.as4+q)) 46080,decide (v>=0))
def aw0 (e2:o5)(aD2:Int):Option (Int×Int):=
 ak4 (P0 e2) fun v=>bif (!v)then(some (0,1))else(ak4 (al2 e2 aD2) fun r2=>bif (!r2.2)then(some (0,7))else(some (r2.1,0)))
def Z3 (f2:A6)(c:Int):Option Bool:=
 some (f2.p7==c)
def ap0 (f2:A6)(c:o5):Option Bool:=
 ak4 (Y3 c f2) fun v=>some (!v)
def aw1 (g c:A6):Option Bool:=
 some (g.p7==c.p7)
def O9 (aZ4 kind bS9:Int)(c:List C0)(c2:A6):Option (List C0):=
 ak4 (ak4 (ac9 aZ4 46080) fun v=>ak4 (V4 c ([(⟨v,kind,c2.p7,bS9⟩:C0)]:List C0)) fun l=>some l) fun(f2:List C0)=>some f2
def K8 (d c:Int):Option Int:=
 ak4 (bo5 .i64 (j5 (d*23040)) c) fun q=>some q
def al1 (f2:A6):Option Int:=
 bif (f2.Z7==0)then(some 0)else(bif (f2.Extra==0)then(some 1)else(some 2))
def ab4 (s:List C0)(f:C0->C0->Option Int):Option (List C0):=
 bT9 f s
def al9 (a b2:C0):Option Int:=
 ak4 (F8 a.I0 b2.I0) fun v=>ak4 (F8 a.p7 b2.p7) fun v2=>ak4 (F8 a.Kind b2.Kind) fun v3=>ak4 (F8 a.aj6 b2.aj6) fun v4=>ak4 (ag2 ([v,v2,v3,v4]:List Int)) fun v5=>some v5
def aD5 (l:List A6)(i:Int)(_:Unit):Option (Fl Unit (List C0×Int)):=
 ak4 (E0 l i) fun x=>ak4 (ay7 l 0 i) fun l2=>ak4 (F5 l2 (fun x0=>aw1 x0 x)) fun v4=>bif v4 then(some (.ret (([]:List C0),8)))else(some (.next ()))
def ax0 (e2:o5)(M7 _:Int)(x2:A6)(f2:List C0):Option (Fl (List C0) (List C0×Int)):=
 ak4 (al2 e2 x2.p7) fun r2=>ak4 (O9 (j5 (r2.1-x2.O2)) 2 0 f2 x2) fun v5=>ak4 (K8 x2.af6 M7) fun v6=>ak4 (O9 (j5 ((j5 (r2.1-x2.O2))-(F7 v6 23040))) 1 0 v5 x2) fun v7=>ak4 (K8 x2.Z7 M7) fun v8=>ak4 (K8 x2.Gap M7) fun v9=>ak4 (K8 x2.Extra M7) fun v10=>bif (decide ((G8 (G8 v8 v9) v10)>23040))then(some (.ret (([]:List C0),2)))else(ak4 (al1 x2) fun v11=>ak4 (bif (decide (v11>0))then(ak4 (O9 (j5 (r2.1-x2.End)) 4 1 v7 x2) fun v12=>ak4 (K8 x2.Z7 M7) fun v13=>ak4 (O9 (j5 ((j5 (r2.1-x2.End))-v13)) 3 1 v12 x2) fun v14=>some v14)else(some v7)) fun(f3:List C0)=>ak4 (al1 x2) fun v15=>bif (decide (v15>1))then(ak4 (K8 x2.Gap M7) fun v16=>ak4 (O9 (j5 ((j5 (r2.1-x2.End))+v16)) 3 2 f3 x2) fun v17=>ak4 (ak4 (K8 x2.Gap M7) fun v18=>ak4 (K8 x2.Extra M7) fun v19=>ak4 (O9 (j5 ((j5 ((j5 (r2.1-x2.End))+v18))+v19)) 4 2 v17 x2) fun v20=>some v20) fun(f4:List C0)=>some (.next f4))else(some (.next f3)))
def aF7 (e2:o5)(l:List A6)(M7:Int):Option (List C0×Int):=
 ak4 (P0 e2) fun v=>ak4 (bif (!v)then(some true)else(ak4 (F5 l (fun x0=>ap0 x0 e2)) fun v2=>some v2)) fun b2=>bif b2 then(some (([]:List C0),1))else(ak4 (M8 M7 4000 1000000) fun v3=>bif (!v3)then(some (([]:List C0),2))else(ak4 (L2 (l.length:Int) (aD5 l) ()) fun(t:Unit⊕(List C0×Int))=>match t with| .inl _=>(ak4 (ae5 l (ax0 e2 M7) ([]:List C0)) fun(t:(List C0)⊕(List C0×Int))=>match t with| .inl f5=>(ak4 (ab4 f5 al9) fun v21=>some (v21,0))| .inr r3=>some r3)| .inr r4=>some r4))
def C4 (a:Int)(cmp:a7->a7->Option Int)(s2:Int×List a7):Option ((Int×List a7)⊕((Int×List a7)⊕Empty)):=
 ak4 (bif (decide (s2.1>a))then(ak4 (E0 s2.2 s2.1) fun x=>ak4 (E0 s2.2 (j5 (s2.1-1))) fun x2=>ak4 (cmp x x2) fun v=>some (decide (v<0)))else(some false)) fun(v2:Bool)=>bif v2 then(ak4 (ak4 (E0 s2.2 (j5 (s2.1-1))) fun x3=>ak4 (E0 s2.2 s2.1) fun x4=>ak4 (ao3 s2.2 s2.1 x3) fun l=>ak4 (E0 l (j5 (s2.1-1))) fun _=>ak4 (ao3 l (j5 (s2.1-1)) x4) fun l2=>some l2) fun(f2:List a7)=>some (.inl (j5 (s2.1-1),f2)))else(some (.inr (.inl (s2.1,s2.2))))
def B6 (a b2:Int)(cmp:a7->a7->Option Int)(s:Int×List a7):Option ((Int×List a7)⊕((Int×List a7)⊕Empty)):=
 bif (decide (s.1<b2))then(ak4 (L8 (C4 a cmp) (s.1,s.2)) fun(t:(Int×List a7)⊕Empty)=>match t with| .inl s3=>(some (.inl (j5 (s.1+1),s3.2)))| .inr r=>r.elim)else(some (.inr (.inl (s.1,s.2))))
def B4 (data:List a7)(a b2:Int)(cmp:a7->a7->Option Int):Option (List a7):=
 ak4 (L8 (B6 a b2 cmp) (j5 (a+1),data)) fun(t:(Int×List a7)⊕Empty)=>match t with| .inl s4=>(some s4.2)| .inr r=>r.elim
def I4 (_:Nat)(_:List a7)(_ _ _:Int)(_:a7->a7->Option Int):Option (List a7):=none
def K2 (n2:Int)(cmp:a7->a7->Option Int)(s:Int×Int×List a7):Option ((Int×Int×List a7)⊕((Int×Int×List a7)⊕Empty)):=
 bif (decide (s.2.1<=n2))then(ak4 (B4 s.2.2 s.1 s.2.1 cmp) fun v=>some (.inl (s.2.1,j5 (s.2.1+20),v)))else(some (.inr (.inl (s.1,s.2.1,s.2.2))))
def N6 (n2:Int)(cmp:a7->a7->Option Int)(s3:Int×List a7)(s4:Int×Int×List a7):Option ((Int×Int×List a7)⊕((Int×Int×List a7)⊕Empty)):=
 bif (decide (s4.2.1<=n2))then(ak4 (I4 64 s4.2.2 s4.1 (j5 (s4.1+s3.1)) s4.2.1 cmp) fun v3=>some (.inl (s4.2.1,j5 (s4.2.1+(j5 (2*s3.1))),v3)))else(some (.inr (.inl (s4.1,s4.2.1,s4.2.2))))
def K3 (n2:Int)(cmp:a7->a7->Option Int)(s3:Int×List a7):Option ((Int×List a7)⊕((Int×List a7)⊕Empty)):=
 bif (decide (s3.1<n2))then(ak4 (L8 (N6 n2 cmp s3) (0,j5 (2*s3.1),s3.2)) fun(t:(Int×Int×List a7)⊕Empty)=>match t with| .inl s5=>(bif (decide ((j5 (s5.1+s3.1))<n2))then(ak4 (I4 64 s5.2.2 s5.1 (j5 (s5.1+s3.1)) n2 cmp) fun v4=>some (.inl (j5 (s3.1*2),v4)))else(some (.inl (j5 (s3.1*2),s5.2.2))))| .inr r=>r.elim)else(some (.inr (.inl (s3.1,s3.2))))
def H4 (data:List a7)(n2:Int)(cmp:a7->a7->Option Int):Option (List a7):=
 ak4 (L8 (K2 n2 cmp) (0,20,data)) fun(t:(Int×Int×List a7)⊕Empty)=>match t with| .inl s2=>(ak4 (B4 s2.2.2 s2.1 n2 cmp) fun v2=>ak4 (L8 (K3 n2 cmp) (20,v2)) fun(t:(Int×List a7)⊕Empty)=>match t with| .inl s6=>(some s6.2)| .inr r=>r.elim)| .inr r=>r.elim
def D5 (x:List a7)(cmp:a7->a7->Option Int):Option (List a7):=
 ak4 (H4 x (x.length:Int) cmp) fun v=>some v
def ad6 (a b2:a7):Option Int:=
 ak4 (F8 a.cF8 b2.cF8) fun v=>ak4 (H5 a.x) fun v2=>ak4 (H5 b2.x) fun v3=>ak4 (F8 v2 v3) fun v4=>ak4 (ag2 ([v,v4]:List Int)) fun v5=>some v5
def ak2 (begin _:Int)(x:C0)(out:List a7):Option (Fl (List a7) Empty):=
 ak4 (ak4 (R6 begin x.I0) fun v=>ak4 (V4 out ([(⟨x,v⟩:a7)]:List a7)) fun l=>some l) fun(f3:List a7)=>some (.next f3)
def W6 (x2:(Int×Int))(_:Int)(x3:a7)(s:Int×Int×Int):Option (Fl (Int×Int×Int) (List a7×Bool)):=
 bif ((x3.x.Kind !=x2.1)&&(x3.x.Kind !=x2.2))then(some (.next (s.1,s.2.1,s.2.2)))else(bif (((x3.x.Kind !=s.2.2)||(decide (x3.cF8<=s.1)))||(decide (x3.x.aj6<s.2.1)))then(some (.ret (([]:List a7),false)))else(some (.next (x3.cF8,x3.x.aj6,j5 ((j5 (x2.1+x2.2))-s.2.2)))))
def U2 (v2:List a7)(v3:Int):Option (Int⊕(Int⊕(List a7×Bool))):=
 bif (decide (v3<2))then(ak4 (E0 ([(1,2),(3,4)]:List (Int×Int)) v3) fun x2=>ak4 (ae5 v2 (W6 x2) ((-1),0,x2.1)) fun(t:(Int×Int×Int)⊕(List a7×Bool))=>match t with| .inl _=>(some (.inl (j5 (v3+1))))| .inr r3=>some (.inr (.inr r3)))else(some (.inr (.inl v3)))
def ar5 (e2:o5)(f2:A6)(begin M7:Int):Option (List a7×Bool):=
 ak4 (aF7 e2 ([f2]:List A6) M7) fun r2=>bif (r2.2 !=0)then(some (([]:List a7),false))else(ak4 (ae5 r2.1 (ak2 begin) ([]:List a7)) fun(t:(List a7)⊕Empty)=>match t with| .inl do1=>(ak4 (D5 do1 ad6) fun v2=>ak4 (L8 (U2 v2) 0) fun(t:Int⊕(List a7×Bool))=>match t with| .inl _=>(some (v2,true))| .inr r4=>some r4)| .inr r=>r.elim)
def ah2 (v _:Int)(x3:a7)(f3:List B0):Option (Fl (List B0) Empty):=
 ak4 (ak4 (V4 f3 ([(⟨x3.x,j5 (v+x3.cF8),false,0⟩:B0)]:List B0)) fun l=>some l) fun(f4:List B0)=>some (.next f4)
def ah1 (s:c8)(r2:Int×Int)(_ x:Int)(f2:List B0):Option (Fl (List B0) Empty):=
 ak4 (aw0 s.A1 x) fun r3=>ak4 (R6 s.B5.I0 (dq1 (j5 (r3.1+5760)) 46080)) fun v=>ak4 (H8 s.Next (fun x0=>Z3 x0 x)) fun v2=>bif ((decide (v>=s.B5.as3))||(decide (v2<0)))then(some (.next f2))else(ak4 (E0 s.Next v2) fun x2=>ak4 (ar5 s.A1 x2 (dq1 (j5 (r3.1+5760)) 46080) r2.1) fun r4=>bif (!r4.2)then(some (.next f2))else(ak4 (ae5 r4.1 (ah2 v) f2) fun(t:(List B0)⊕Empty)=>match t with| .inl f5=>(some (.next f5))| .inr r=>r.elim))
def ai1 (s:c8):Option c8:=
 ak4 (aF3 s.B5 23040) fun r2=>ak4 (ae5 s.A1.A7 (ah1 s r2) s.H7) fun(t:(List B0)⊕Empty)=>match t with| .inl f6=>(some ({s with H7:=f6}:c8))| .inr r=>r.elim
def ab2 (v4 i:Int)(f2:List B0):Option (Fl (List B0) Empty):=
 ak4 (E0 f2 i) fun x=>ak4 (ao3 f2 i ({x with Left:=G8 (-1048576) (j5 (x.Left-v4))}:B0)) fun l=>some (.next l)
def am5 (s:c8)(c:E8):Option (c8×List j8×Int):=
 ak4 (K1 s) fun v=>ak4 (bif (!v)then(some true)else(ak4 (aj7 c) fun v2=>some (!v2))) fun b2=>bif b2 then(some ((⟨(⟨([]:List Int),0⟩:o5),(⟨false,0,0,0,0,0⟩:E8),(⟨0,([]:List j7)⟩:A2),([]:List A6),([]:List B0),false⟩:c8),([]:List j8),1))else(bif (!c.Y2)then(some ((⟨(⟨([]:List Int),0⟩:o5),(⟨false,0,0,0,0,0⟩:E8),(⟨0,([]:List j7)⟩:A2),([]:List A6),([]:List B0),false⟩:c8),([]:List j8),6))else(bif (decide (c.At<s.j9.V5))then(some ((⟨(⟨([]:List Int),0⟩:o5),(⟨false,0,0,0,0,0⟩:E8),(⟨0,([]:List j7)⟩:A2),([]:List A6),([]:List B0),false⟩:c8),([]:List j8),16))else(ak4 (L9 s) fun v3=>ak4 (ac3 v3 c.At) fun r2=>ak4 (bif s.B5.Y2 then(ak4 (R6 s.B5.I0 c.I0) fun v4=>ak4 (L2 (r2.2.H7.length:Int) (ab2 v4) r2.2.H7) fun(t:(List B0)⊕Empty)=>match t with| .inl f3=>(some f3)| .inr r=>r.elim)else(some r2.2.H7)) fun(f4:List B0)=>bif (!r2.2.Cut)then(ak4 (ai1 (⟨r2.2.A1,c,r2.2.j9,r2.2.Next,f4,r2.2.Cut⟩:c8)) fun v5=>bif (decide ((v5.H7.length:Int)>200))then(some ((⟨(⟨([]:List Int),0⟩:o5),(⟨false,0,0,0,0,0⟩:E8),(⟨0,([]:List j7)⟩:A2),([]:List A6),([]:List B0),false⟩:c8),([]:List j8),5))else(ak4 (al4 v5) fun v6=>some (v6,r2.1,0)))else(some ((⟨r2.2.A1,c,r2.2.j9,r2.2.Next,f4,r2.2.Cut⟩:c8),r2.1,0)))))
def X2 (s:List y9)(f2:y9->Option Bool)(i:Int)(_:Unit):Option (Fl Unit Int):=
 ak4 (E0 s i) fun x=>ak4 (f2 x) fun v=>bif v then(some (.ret i))else(some (.next ()))
def T4 (s:List y9)(f2:y9->Option Bool):Option Int:=
 ak4 (L2 (s.length:Int) (X2 s f2) ()) fun(t:Unit⊕Int)=>match t with| .inl _=>(some (-1))| .inr r2=>some r2
def I6 (s:List y9)(f2:y9->Option Bool):Option Bool:=
 ak4 (T4 s f2) fun v=>some (decide (v>=0))
def E3 (x low high:Int):Option Bool:=
 some ((decide (x>=low))&&(decide (x<=high)))
def ae8 (c:y9):Option Bool:=
 ak4 (E3 c.Code 1 16777215) fun v=>ak4 (bif v then(ak4 (E3 c.aW6 1 100) fun v2=>some v2)else(some false)) fun b2=>ak4 (bif b2 then(ak4 (E3 c.Pass 1 100) fun v3=>some v3)else(some false)) fun b3=>ak4 (bif b3 then(ak4 (E3 c.ci4 1 100) fun v4=>some v4)else(some false)) fun b4=>ak4 (bif b4 then(ak4 (E3 c.Age c.ci4 255) fun v5=>some v5)else(some false)) fun b5=>ak4 (bif b5 then(ak4 (E3 c.E7 0 255) fun v6=>some v6)else(some false)) fun b6=>ak4 (bif b6 then(ak4 (E3 c.Frame 0 8) fun v7=>some v7)else(some false)) fun b7=>some b7
def ao0 (c:y9):Option Bool:=
 ak4 (ae8 c) fun v=>some (!v)
def aD8 (_:Int)(x:y9)(f2:List (Int×Bool)):Option (Fl (List (Int×Bool)) Bool):=
 bif (cR5 false f2 x.Code)then(some (.ret false))else(some (.next (dn3 f2 x.Code true)))
def an9 (l:List y9):Option Bool:=
 ak4 (ae5 l (aD8) ([]:List (Int×Bool))) fun(t:(List (Int×Bool))⊕Bool)=>match t with| .inl _=>(some true)| .inr r2=>some r2
def aa3 (s:List y9):Option (List y9):=
 ak4 (V4 ([]:List y9) s) fun l=>some l
def aC1 (l:List y9):Option (C2×Int):=
 bif (decide ((l.length:Int)>64))then(some ((⟨([]:List y9),([]:List A5),0,false⟩:C2),5))else(ak4 (I6 l ao0) fun v=>bif v then(some ((⟨([]:List y9),([]:List A5),0,false⟩:C2),1))else(ak4 (an9 l) fun v2=>bif (!v2)then(some ((⟨([]:List y9),([]:List A5),0,false⟩:C2),8))else(ak4 (aa3 l) fun v3=>ak4 (aY5 (l.length:Int) (⟨0,0,0,0,0,([]:List Int),0⟩:A5)) fun l2=>some ((⟨v3,l2,0,false⟩:C2),0))))
def aR7 (x:Int):Option Bool:=
 ak4 (E3 x (-1099511627776) 1099511627776) fun v=>some v
def aA9 (x:Int):Option Bool:=
 ak4 (aR7 x) fun v=>some (!v)
def as7 (c:y9)(l:List Int):Option Bool:=
 ak4 (bif ((l.length:Int)==c.Frame)then(ak4 (o6 l aA9) fun v=>some (!v))else(some false)) fun b2=>some b2
def Y4 (f2:A5)(bits:Int):Option Bool:=
 some ((U3 .i64 f2.D8 bits)==bits)
def aL4 (f2:A5):Option Bool:=
 some ((U3 .i64 f2.D8 6) !=0)
def aF9 (c:y9)(f2:A5)(E5:Int):Option Bool:=
 ak4 (E3 f2.D8 0 31) fun v=>ak4 (bif (!v)then(some true)else(ak4 (E3 f2.Count (j5 (0-c.Pass)) c.aW6) fun v2=>some (!v2))) fun b2=>ak4 (bif b2 then(some true)else(ak4 (E3 f2.J7 0 2) fun v3=>some (!v3))) fun b3=>ak4 (bif b3 then(some true)else(ak4 (E3 f2.Clean 0 (j5 (c.Age-1))) fun v4=>some (!v4))) fun b4=>ak4 (bif b4 then(some true)else(ak4 (E3 f2.A8 0 255) fun v5=>some (!v5))) fun b5=>ak4 (bif b5 then(some true)else(ak4 (E3 f2.H6 0 E5) fun v6=>some (!v6))) fun b6=>ak4 (bif b6 then(some true)else(ak4 (bif (decide ((f2.Frame.length:Int)>0))then(ak4 (as7 c f2.Frame) fun v7=>some (!v7))else(some false)) fun b7=>some b7)) fun b8=>bif b8 then(some false)else(ak4 (Y4 f2 1) fun v8=>ak4 (bif v8 then(ak4 (Y4 f2 10) fun v9=>some ((!v9)||(f2.H6 !=E5)))else(some false)) fun b9=>bif b9 then(some false)else(ak4 (Y4 f2 4) fun v10=>bif (!(v10==(f2.J7==2)))then(some false)else(ak4 (Y4 f2 16) fun v11=>ak4 (bif v11 then(ak4 (Y4 f2 4) fun v12=>some ((!v12)||(!c.ca7)))else(some false)) fun b10=>bif b10 then(some false)else(ak4 (Y4 f2 2) fun v13=>bif (v13&&(f2.Clean !=0))then(some false)else(ak4 (aL4 f2) fun v14=>bif v14 then(some ((((decide (f2.A8>=1))&&(decide (f2.J7>=1)))&&(decide (f2.H6>=1)))&&((f2.Frame.length:Int)==c.Frame)))else(some (((((f2.J7==0)&&(f2.Clean==0))&&(f2.A8==0))&&(f2.H6==0))&&((f2.Frame.length:Int)==0))))))))
def aD7 (f2:C2)(i:Int)(_:Unit):Option (Fl Unit Bool):=
 ak4 (E0 f2.L i) fun x=>ak4 (E0 f2.T9 i) fun x2=>ak4 (aF9 x2 x f2.aI1) fun v4=>bif (!v4)then(some (.ret false))else(some (.next ()))
def aa2 (f2:C2):Option Bool:=
 ak4 (bif (decide ((f2.T9.length:Int)>64))then(some true)else(ak4 (I6 f2.T9 ao0) fun v=>some v)) fun b2=>ak4 (bif b2 then(some true)else(ak4 (an9 f2.T9) fun v2=>some (!v2))) fun b3=>ak4 (bif (b3||((f2.L.length:Int) !=(f2.T9.length:Int)))then(some true)else(ak4 (E3 f2.aI1 0 1073741824) fun v3=>some (!v3))) fun b4=>ak4 (bif b4 then(some true)else(some (f2.ay1&&(decide (f2.aI1<1))))) fun b5=>bif b5 then(some false)else(ak4 (L2 (f2.L.length:Int) (aD7 f2) ()) fun(t:Unit⊕Bool)=>match t with| .inl _=>(some true)| .inr r2=>some r2)
def ae1 (s:List A5):Option (List A5):=
 ak4 (V4 ([]:List A5) s) fun l=>some l
def ay5 (i:Int)(f3:List A5):Option (Fl (List A5) Empty):=
 ak4 (E0 f3 i) fun x=>ak4 (O4 x.Frame) fun v2=>ak4 (ao3 f3 i ({x with Frame:=v2}:A5)) fun l=>some (.next l)
def am0 (f2:C2):Option C2:=
 ak4 (ae1 f2.L) fun v=>ak4 (L2 (v.length:Int) (ay5) v) fun(t:(List A5)⊕Empty)=>match t with| .inl f4=>(some ({f2 with L:=f4}:C2))| .inr r=>r.elim
def aD6 (i:Int)(f3:List A5):Option (Fl (List A5) Empty):=
 ak4 (E0 f3 i) fun x=>ak4 (ao3 f3 i ({x with Count:=0}:A5)) fun l=>ak4 (ao3 l i ({x with D8:=aP1 .i64 x.D8 9,Count:=0}:A5)) fun l2=>some (.next l2)
def ax1 (f2:C2):Option (C2×Int):=
 ak4 (aa2 f2) fun v=>bif (!v)then(some ((⟨([]:List y9),([]:List A5),0,false⟩:C2),1))else(bif f2.ay1 then(some ((⟨([]:List y9),([]:List A5),0,false⟩:C2),6))else(bif (f2.aI1==1073741824)then(some ((⟨([]:List y9),([]:List A5),0,false⟩:C2),9))else(ak4 (am0 f2) fun v2=>ak4 (L2 (v2.L.length:Int) (aD6) v2.L) fun(t:(List A5)⊕Empty)=>match t with| .inl f4=>(some ((⟨v2.T9,f4,j5 (v2.aI1+1),true⟩:C2),0))| .inr r=>r.elim)))
def aF8 (l:List A5)(i:Int)(c:y9)(E5:Int)(frame:List Int):Option (List A5):=
 ak4 (E0 l i) fun x2=>ak4 (Y4 x2 1) fun v=>ak4 (bif (!v)then(ak4 (ao3 l i ({x2 with A8:=F7 255 (j5 (x2.A8+1))}:A5)) fun l2=>ak4 (Y4 ({x2 with A8:=F7 255 (j5 (x2.A8+1))}:A5) 4) fun v2=>bif (!v2)then(ak4 (O4 frame) fun v3=>ak4 (ao3 l2 i ({x2 with A8:=F7 255 (j5 (x2.A8+1)),Frame:=v3}:A5)) fun l3=>some l3)else(some l2))else(some l)) fun(f2:List A5)=>ak4 (E0 f2 i) fun x3=>ak4 (ao3 f2 i ({x3 with D8:=R9 .i64 x3.D8 11}:A5)) fun l4=>ak4 (ao3 l4 i ({x3 with D8:=R9 .i64 x3.D8 11,Clean:=0}:A5)) fun l5=>bif (x3.H6==E5)then(some l5)else(ak4 (ao3 l5 i ({x3 with D8:=R9 .i64 x3.D8 11,Clean:=0,H6:=E5}:A5)) fun l6=>ak4 (ao3 l6 i (⟨R9 .i64 x3.D8 11,x3.Count,F7 2 (j5 (x3.J7+1)),0,x3.A8,x3.Frame,E5⟩:A5)) fun l7=>bif (decide ((F7 2 (j5 (x3.J7+1)))<2))then(some l7)else(ak4 (ao3 l7 i (⟨R9 .i64 (R9 .i64 x3.D8 11) 4,x3.Count,F7 2 (j5 (x3.J7+1)),0,x3.A8,x3.Frame,E5⟩:A5)) fun l8=>bif c.ca7 then(ak4 (ao3 l8 i (⟨R9 .i64 (R9 .i64 (R9 .i64 x3.D8 11) 4) 16,x3.Count,F7 2 (j5 (x3.J7+1)),0,x3.A8,x3.Frame,E5⟩:A5)) fun l9=>some l9)else(some l8)))
def aq4 (f2:C2)(i:Int)(bad:Bool)(l:List Int):Option (C2×Int):=
 ak4 (aa2 f2) fun v=>bif (!v)then(some ((⟨([]:List y9),([]:List A5),0,false⟩:C2),1))else(bif ((decide (i<0))||(decide (i>=(f2.L.length:Int))))then(some ((⟨([]:List y9),([]:List A5),0,false⟩:C2),2))else(bif (!f2.ay1)then(some ((⟨([]:List y9),([]:List A5),0,false⟩:C2),6))else(ak4 (E0 f2.T9 i) fun x=>ak4 (as7 x l) fun v2=>bif (!v2)then(some ((⟨([]:List y9),([]:List A5),0,false⟩:C2),1))else(ak4 (am0 f2) fun v3=>ak4 (ak4 (E0 v3.L i) fun _=>ak4 (E0 v3.T9 i) fun x3=>some x3) fun(f3:y9)=>ak4 (bif bad then(ak4 (E0 v3.L i) fun x4=>ak4 (ao3 v3.L i ({x4 with Count:=F7 f3.aW6 (j5 ((G8 x4.Count 0)+1))}:A5)) fun l2=>some l2)else(ak4 (E0 v3.L i) fun x5=>ak4 (ao3 v3.L i ({x5 with Count:=G8 (j5 (0-f3.Pass)) (j5 ((F7 x5.Count 0)-1))}:A5)) fun l3=>some l3)) fun(f4:List A5)=>ak4 (E0 f4 i) fun x6=>bif (x6.Count==f3.aW6)then(ak4 (aF8 f4 i f3 v3.aI1 l) fun v4=>some (({v3 with L:=v4}:C2),0))else(bif (x6.Count==(j5 (0-f3.Pass)))then(ak4 (ao3 f4 i ({x6 with D8:=R9 .i64 x6.D8 8}:A5)) fun l4=>ak4 (ao3 l4 i ({x6 with D8:=aP1 .i64 (R9 .i64 x6.D8 8) 1}:A5)) fun l5=>some (({v3 with L:=l5}:C2),0))else(some (({v3 with L:=f4}:C2),0)))))))
def N2 (x low high:Int):Option Bool:=
 some ((decide (x>=low))&&(decide (x<=high)))
def V3 (r2:j1):Option Bool:=
 ak4 (S9 r2) fun v=>some (!v)
def ar0 (bp1:List Int)(x i below:Int):Option (Fl Int Empty):=
 ak4 (E0 bp1 i) fun x2=>bif (decide (x2<=x))then(some (.next i))else(some (.next below))
def af1 (bp1:List Int)(x:Int)(s:Int×Int):Option ((Int×Int)⊕((Int×Int)⊕Empty)):=
 bif (decide (s.1>=0))then(ak4 (E0 bp1 s.1) fun x3=>bif (decide (x3>=x))then(some (.inl (j5 (s.1-1),s.1)))else(some (.inl (j5 (s.1-1),s.2))))else(some (.inr (.inl (s.1,s.2))))
def ag8 (bp1:List Int)(x:Int):Option (Int×Int):=
 ak4 (L2 (bp1.length:Int) (ar0 bp1 x) 0) fun(t:Int⊕Empty)=>match t with| .inl cL1=>(ak4 (L8 (af1 bp1 x) (j5 ((bp1.length:Int)-1),j5 ((bp1.length:Int)-1))) fun(t:(Int×Int)⊕Empty)=>match t with| .inl s2=>(ak4 (E0 bp1 0) fun x4=>bif (decide (x<x4))then(some (cL1,0))else(some (cL1,s2.2)))| .inr r=>r.elim)| .inr r=>r.elim
def Y6 (m2:SMap)(x y:Int):Option Int:=
 ak4 (ag8 m2.X x) fun r2=>ak4 (ag8 m2.Y y) fun r3=>ak4 (E0 m2.Z r2.1) fun x2=>ak4 (E0 x2 r3.1) fun x3=>ak4 (E0 x2 r3.2) fun x4=>ak4 (E0 m2.Z r2.2) fun x5=>ak4 (E0 x5 r3.1) fun x6=>ak4 (E0 x5 r3.2) fun x7=>some (G8 (G8 (G8 x3 x4) x6) x7)
def ax7 (r2:j1):Option Bool:=
 some ((r2.Kind==2)||(r2.Kind==3))
def ag6 (_:Int)(x:j1)(s:Int×Int):Option (Fl (Int×Int) Empty):=
 ak4 (ax7 x) fun v6=>bif (!v6)then(some (.next (s.1,s.2)))else(bif (x.N7==1)then(some (.next (G8 s.1 (F7 x.o9 1500),G8 s.2 x.E7)))else(some (.next (s.1,G8 s.2 x.E7))))
def ag7 (s2:Int×Int)(_:Int)(x2:j1)(au4:Int):Option (Fl Int Empty):=
 bif ((x2.Kind==1)&&(decide (x2.E7>s2.2)))then(some (.next (F7 au4 x2.o9)))else(some (.next au4))
def af0 (t2:o7)(bg1 o8:Int)(l:List j1):Option (Int×Int):=
 ak4 (J6 t2.aI4) fun v=>ak4 (bif (!v)then(some true)else(ak4 (E4 l V3) fun v2=>some v2)) fun b2=>bif b2 then(some (0,1))else(bif (decide ((l.length:Int)>32))then(some (0,5))else(ak4 (N2 bg1 0 1000) fun v3=>ak4 (bif (!v3)then(some true)else(ak4 (N2 o8 0 12000) fun v4=>some (!v4))) fun b3=>bif b3 then(some (0,2))else(ak4 (Y6 t2.aI4 o8 bg1) fun v5=>ak4 (ae5 l (ag6) ((-5000),(-1))) fun(t:(Int×Int)⊕Empty)=>match t with| .inl s2=>(ak4 (ae5 l (ag7 s2) 10000) fun(t:Int⊕Empty)=>match t with| .inl dK2=>(some (j5 ((G8 0 (F7 dK2 (G8 (F7 (G8 v5 (-5000)) 10000) s2.1)))+100),0))| .inr r=>r.elim)| .inr r=>r.elim)))
def aq9 (_:Int)(x:A6)(n2:Int):Option (Fl Int Empty):=
 bif (x.Z7 !=0)then(some (.next (j5 (n2+1))))else(some (.next n2))
def ax6 (t2:o7)(o8 A4:Int)(l:List A6):Option (Int×Int):=
 ak4 (J6 t2.o9) fun v=>bif (!v)then(some (0,1))else(bif (decide ((l.length:Int)>8))then(some (0,5))else(ak4 (N2 o8 0 12000) fun v2=>ak4 (bif (!v2)then(some true)else(ak4 (N2 A4 0 1048576) fun v3=>some (!v3))) fun b2=>bif b2 then(some (0,2))else(bif ((l.length:Int)==0)then(some (0,0))else(ak4 (ae5 l (aq9) 0) fun(t:Int⊕Empty)=>match t with| .inl n3=>(ak4 (Y6 t2.o9 o8 A4) fun v4=>ak4 (bo5 .i64 (j5 ((j5 ((j5 ((F7 (G8 v4 0) 10000)*n3))+(l.length:Int)))-1)) (l.length:Int)) fun q=>some (q,0))| .inr r=>r.elim))))
def aB1 (t2:o7)(M7 C3:Int):Option (Int×Int):=
 ak4 (aC2 t2 M7 C3) fun r2=>bif (r2.2 !=0)then(some (0,r2.2))else(some (j5 (3*(G8 0 (j5 (M7-r2.1)))),0))
end Go.Pv
namespace Go.Proofs.YtjhedhnghldjbaaGreatDoor
open Go Go.Pv Go.Proofs
set_option maxHeartbeats 1000000
theorem bL6 (a:Int):(ai4 a).m=Pv.ai4 a:=by
 simp only[ai4,Pv.ai4,C.of,M.run]<;>kernel_rfl
theorem bm8 (s:List Int)(v:Int):(W8 s v).m=Pv.W8 s v:=by
 delta Pv.W8 Pv.ao4
 simp only[W8,ao4,C.of,M.run,L1.m,bz1,L2,M6]<;>kernel_rfl
theorem bc3 (s:List Int)(v:Int):(P8 s v).m=Pv.P8 s v:=by
 simp only[P8,Pv.P8,C.of,M.run,bm8]<;>kernel_rfl
theorem ay3 (e2:o5):(P0 e2).m=Pv.P0 e2:=by
 delta Pv.P0 Pv.as6
 simp only[P0,as6,C.of,M.run,bL6,bc3]<;>kernel_rfl
theorem cc4 (x y:Int):(as9 x y).m=Pv.as9 x y:=rfl
theorem bD7 (x:List C1)(count:Int):(Q0 x count).m=Pv.Q0 x count:=rfl
theorem dk4 (n2:Int):(aV2 n2).m=Pv.aV2 n2:=by
 simp only[aV2,Pv.aV2,C.of,M.run,bD7]<;>kernel_rfl
theorem dk5:(bj7).m=Pv.bj7:=by
 simp only[bj7,Pv.bj7,C.of,M.run]<;>kernel_rfl
theorem cM8:(aL8).m=Pv.aL8:=by
 simp only[aL8,Pv.aL8,C.of,M.run]<;>kernel_rfl
theorem bO8 (e2:o5):(aA5 e2).m=Pv.aA5 e2:=by
 simp only[aA5,Pv.aA5,C.of,M.run,ay3,dk4,cM8,dk5]<;>kernel_rfl
theorem bB1 (s:List Int)(f2:Cl Tryz.prog Int Bool (fun x=>[.t (tI x)]) (fun r=>.t (tB r))):(U9 s f2).m=Pv.U9 s (fun x0=>f2.f x0):=by
 delta Pv.U9 Pv.X1
 simp only[U9,X1,C.of,M.run,L1.m,Cl.at,bz1,L2,M6]<;>kernel_rfl
theorem K0 (s:List Int)(f2:Cl Tryz.prog Int Bool (fun x=>[.t (tI x)]) (fun r=>.t (tB r))):(o6 s f2).m=Pv.o6 s (fun x0=>f2.f x0):=by
 simp only[o6,Pv.o6,C.of,M.run,bB1]<;>kernel_rfl
theorem bu7 (n2:Int):(ac7 n2).m=Pv.ac7 n2:=by
 simp only[ac7,Pv.ac7,C.of,M.run]<;>kernel_rfl
theorem cF4 (l:List Int):(ar8 l).m=Pv.ar8 l:=by
 delta Pv.ar8 Pv.ay8
 simp only[ar8,ay8,C.of,M.run,L1.m,bz1,L2,M6,bu7]<;>kernel_rfl
theorem cd1 (z:Int):(ai2 z).m=Pv.ai2 z:=by
 simp only[ai2,Pv.ai2,C.of,M.run,bu7]<;>kernel_rfl
theorem an6 (m2:SMap):(J6 m2).m=Pv.J6 m2:=by
 delta Pv.J6 Pv.aC6
 simp only[J6,aC6,C.of,M.run,Cl.of,bz1,ae5,ar1,K0,cd1,cF4]<;>kernel_rfl
theorem cj8 (n2:Int):(aC0 n2).m=Pv.aC0 n2:=by
 simp only[aC0,Pv.aC0,C.of,M.run]<;>kernel_rfl
theorem cX4 (l:List Int):(aM4 l).m=Pv.aM4 l:=by
 delta Pv.aM4 Pv.aH3
 simp only[aM4,aH3,C.of,M.run,L1.m,Cl.of,bz1,L2,M6,cj8,K0]<;>kernel_rfl
theorem aJ0 (c:Q4):(P7 c).m=Pv.P7 c:=by
 simp only[P7,Pv.P7,C.of,M.run,Cl.of,cX4,cj8,K0]<;>kernel_rfl
theorem bD1 (x:Int):(cmp_isNaN_int x).m=Pv.cmp_isNaN_int x:=by
 simp only[cmp_isNaN_int,Pv.cmp_isNaN_int,C.of,M.run]<;>kernel_rfl
theorem cE5 (x y:Int):(cmp_Less_int x y).m=Pv.cmp_Less_int x y:=by
 simp only[cmp_Less_int,Pv.cmp_Less_int,C.of,M.run,bD1]<;>kernel_rfl
theorem bc4 (x:List Int):(P9 x).m=Pv.P9 x:=by
 delta Pv.P9 Pv.R3
 simp only[P9,R3,C.of,M.run,L1.m,cE5]<;>kernel_rfl
theorem aI9 (n2 low high:Int):(I7 n2 low high).m=Pv.I7 n2 low high:=by
 simp only[I7,Pv.I7,C.of,M.run]<;>kernel_rfl
theorem cL4 (y:Int):(aL0 y).m=Pv.aL0 y:=by
 simp only[aL0,Pv.aL0,C.of,M.run,aI9]<;>kernel_rfl
theorem bH6 (t2:o7):(aB7 t2).m=Pv.aB7 t2:=by
 delta Pv.aB7 Pv.aT5
 simp only[aB7,aT5,C.of,M.run,L1.m,Cl.of,bz1,ae5,ar1,cL4,aI9,aJ0,K0,bc4,an6]<;>kernel_rfl
theorem by2 (s:List (List Int))(f2:Cl Tryz.prog (List Int) Bool (fun x=>[.t (tS Pv.encI x)]) (fun r=>.t (tB r))):(W7 s f2).m=Pv.W7 s (fun x0=>f2.f x0):=by
 delta Pv.W7 Pv.aa5
 simp only[W7,aa5,C.of,M.run,L1.m,Cl.at,bz1,L2,M6]<;>kernel_rfl
theorem aO1 (s:List (List Int))(f2:Cl Tryz.prog (List Int) Bool (fun x=>[.t (tS Pv.encI x)]) (fun r=>.t (tB r))):(G2 s f2).m=Pv.G2 s (fun x0=>f2.f x0):=by
 simp only[G2,Pv.G2,C.of,M.run,by2]<;>kernel_rfl
theorem aB8 (x low high:Int):(H9 x low high).m=Pv.H9 x low high:=by
 simp only[H9,Pv.H9,C.of,M.run]<;>kernel_rfl
theorem bY2 (x c c2:Int):(ao6 x c c2).m=Pv.ao6 x c c2:=by
 simp only[ao6,Pv.ao6,C.of,M.run,aB8]<;>kernel_rfl
theorem bz8 (l:List Int)(low high:Int):(ah7 l low high).m=Pv.ah7 l low high:=by
 simp only[ah7,Pv.ah7,C.of,M.run,Cl.of,K0,bY2]<;>kernel_rfl
theorem aQ1 (x:List Int)(cmp:Cl Tryz.prog (Int×Int) Int (fun x=>[.t (tI x.1),.t (tI x.2)]) (fun r=>.t (tI r))):(I3 x cmp).m=Pv.I3 x (fun x0 x1=>cmp.f (x0,x1)):=by
 delta Pv.I3 Pv.M1
 simp only[I3,M1,C.of,M.run,L1.m,Cl.at]<;>kernel_rfl
theorem cl4 (a b2:Int):(ac8 a b2).m=Pv.ac8 a b2:=by
 simp only[ac8,Pv.ac8,C.of,M.run]<;>kernel_rfl
theorem cl5 (row:List Int):(al7 row).m=Pv.al7 row:=by
 simp only[al7,Pv.al7,C.of,M.run,bc4,bz8]<;>kernel_rfl
theorem bp5 (t2:o7):(ai9 t2).m=Pv.ai9 t2:=by
 simp only[ai9,Pv.ai9,C.of,M.run,Cl.of,aJ0,aO1,aQ1,an6,cl4,cl5,bz8]<;>kernel_rfl
theorem bA8 (x low high:Int):(J8 x low high).m=Pv.J8 x low high:=by
 simp only[J8,Pv.J8,C.of,M.run]<;>kernel_rfl
theorem ct1 (x c c2:Int):(aA6 x c c2).m=Pv.aA6 x c c2:=by
 simp only[aA6,Pv.aA6,C.of,M.run,bA8]<;>kernel_rfl
theorem bO9 (l:List Int)(low high:Int):(ag3 l low high).m=Pv.ag3 l low high:=by
 simp only[ag3,Pv.ag3,C.of,M.run,Cl.of,ct1,K0]<;>kernel_rfl
theorem aW7 (g:aW0):(Q9 g).m=Pv.Q9 g:=by
 simp only[Q9,Pv.Q9,C.of,M.run]<;>kernel_rfl
theorem bh8 (t2:o7):(ad0 t2).m=Pv.ad0 t2:=by
 delta Pv.ad0 Pv.aB9
 simp only[ad0,aB9,C.of,M.run,bz1,ae5,ar1,bH6,bO9,aJ0,aW7,an6,bp5]<;>kernel_rfl
theorem cF1 (x low high:Int):(G0 x low high).m=Pv.G0 x low high:=by
 simp only[G0,Pv.G0,C.of,M.run]<;>kernel_rfl
theorem bu2 (b2:L6):(ak1 b2).m=Pv.ak1 b2:=by
 simp only[ak1,Pv.ak1,C.of,M.run,cF1]<;>kernel_rfl
theorem bQ1 (p2:V1):(ax9 p2).m=Pv.ax9 p2:=by
 simp only[ax9,Pv.ax9,C.of,M.run]<;>kernel_rfl
theorem bl0 (x low high:Int):(S7 x low high).m=Pv.S7 x low high:=by
 simp only[S7,Pv.S7,C.of,M.run]<;>kernel_rfl
theorem by1 (s:List ac0)(f2:Cl Tryz.prog ac0 Bool (fun x=>[bV3 x]) (fun r=>.t (tB r))):(ab3 s f2).m=Pv.ab3 s (fun x0=>f2.f x0):=by
 delta Pv.ab3 Pv.aj3
 simp only[ab3,aj3,C.of,M.run,L1.m,Cl.at,bz1,L2,M6]<;>kernel_rfl
theorem bp2 (s:List ac0)(f2:Cl Tryz.prog ac0 Bool (fun x=>[bV3 x]) (fun r=>.t (tB r))):(R7 s f2).m=Pv.R7 s (fun x0=>f2.f x0):=by
 simp only[R7,Pv.R7,C.of,M.run,by1]<;>kernel_rfl
set_option maxHeartbeats 1000000
theorem cc5 (c:ac0):(ac1 c).m=Pv.ac1 c:=by
 simp only[ac1,Pv.ac1,C.of,M.run,bl0]<;>kernel_rfl
theorem bi0 (p2:N1):(ad1 p2).m=Pv.ad1 p2:=by
 simp only[ad1,Pv.ad1,C.of,M.run,Cl.of,bg,bga,cc5,bl0,bp2]<;>kernel_rfl
theorem bu4 (s:List C1)(f2:Cl Tryz.prog C1 Bool (fun x=>[aX7 x]) (fun r=>.t (tB r))):(Y7 s f2).m=Pv.Y7 s (fun x0=>f2.f x0):=by
 delta Pv.Y7 Pv.ah4
 simp only[Y7,ah4,C.of,M.run,L1.m,Cl.at,bz1,L2,M6]<;>kernel_rfl
theorem aL3 (s:List C1)(f2:Cl Tryz.prog C1 Bool (fun x=>[aX7 x]) (fun r=>.t (tB r))):(J5 s f2).m=Pv.J5 s (fun x0=>f2.f x0):=by
 simp only[J5,Pv.J5,C.of,M.run,bu4]<;>kernel_rfl
theorem bu1 (n2:Int):(ai0 n2).m=Pv.ai0 n2:=by
 simp only[ai0,Pv.ai0,C.of,M.run]<;>kernel_rfl
theorem bP9 (k:C1):(ax4 k).m=Pv.ax4 k:=by
 simp only[ax4,Pv.ax4,C.of,M.run,bu1]<;>kernel_rfl
theorem cj7 (k:C1):(al0 k).m=Pv.al0 k:=by
 simp only[al0,Pv.al0,C.of,M.run,bP9]<;>kernel_rfl
theorem bL5 (e2:o5)(c:A9):(aq1 e2 c).m=Pv.aq1 e2 c:=by
 simp only[aq1,Pv.aq1,C.of,M.run,Cl.of,cj7,bA8,ay3,bi0,bQ1,aL3]<;>kernel_rfl
theorem bp4 (s:List j1)(f2:Cl Tryz.prog j1 Bool (fun x=>[H2 x]) (fun r=>.t (tB r))):(V6 s f2).m=Pv.V6 s (fun x0=>f2.f x0):=by
 delta Pv.V6 Pv.ac4
 simp only[V6,ac4,C.of,M.run,L1.m,Cl.at,bz1,L2,M6]<;>kernel_rfl
theorem at6 (s:List j1)(f2:Cl Tryz.prog j1 Bool (fun x=>[H2 x]) (fun r=>.t (tB r))):(E4 s f2).m=Pv.E4 s (fun x0=>f2.f x0):=by
 simp only[E4,Pv.E4,C.of,M.run,bp4]<;>kernel_rfl
theorem be4 (t2:Int):(P6 t2).m=Pv.P6 t2:=by
 simp only[P6,Pv.P6,C.of,M.run]<;>kernel_rfl
theorem bh7 (r2:j1):(S9 r2).m=Pv.S9 r2:=by
 simp only[S9,Pv.S9,C.of,M.run,bg,bga,bgo,be4]<;>kernel_rfl
theorem cc0 (r2:j1):(ah9 r2).m=Pv.ah9 r2:=by
 simp only[ah9,Pv.ah9,C.of,M.run,bh7]<;>kernel_rfl
theorem ct0 (i:X5)(B8:Int):(av8 i B8).m=Pv.av8 i B8:=by
 simp only[av8,Pv.av8,C.of,M.run,Cl.of,cc0,bO9,bA8,at6]<;>kernel_rfl
theorem ag1 (x low high:Int):(D0 x low high).m=Pv.D0 x low high:=by
 simp only[D0,Pv.D0,C.of,M.run]<;>kernel_rfl
theorem bP8 (n2:Int):(ak0 n2).m=Pv.ak0 n2:=by
 simp only[ak0,Pv.ak0,C.of,M.run]<;>kernel_rfl
theorem bP7 (D6:Int):(ax3 D6).m=Pv.ax3 D6:=by
 simp only[ax3,Pv.ax3,C.of,M.run]<;>kernel_rfl
theorem dk2 (o8 D6:Int):(bc7 o8 D6).m=Pv.bc7 o8 D6:=by
 simp only[bc7,Pv.bc7,C.of,M.run,bP7]<;>kernel_rfl
theorem bP6 (bg1 o8 D6:Int):(ax2 bg1 o8 D6).m=Pv.ax2 bg1 o8 D6:=by
 simp only[ax2,Pv.ax2,C.of,M.run,dk2,bP8]<;>kernel_rfl
theorem cX6 (p2:V1)(first second:Int):(aM7 p2 first second).m=Pv.aM7 p2 first second:=by
 simp only[aM7,Pv.aM7,C.of,M.run,ag1,bQ1]<;>kernel_rfl
theorem aw8 (s:o4)(e2:Int):(z8 s e2).m=Pv.z8 s e2:=by
 simp only[z8,Pv.z8,CG.of,M.run]<;>kernel_rfl
theorem aJ2 (n2:Int)(f2:Cl Tryz.prog Int Bool (fun x=>[.t (tI x)]) (fun r=>.t (tB r))):(Q3 n2 f2).m=Pv.Q3 n2 (fun x0=>f2.f x0):=by
 delta Pv.Q3 Pv.ac5
 simp only[Q3,ac5,C.of,M.run,Cl.at,elE]<;>kernel_rfl
theorem bQ7 (i:Int)(c:List Int)(c2:Int):(af4 i c c2).m=Pv.af4 i c c2:=by
 simp only[af4,Pv.af4,C.of,M.run,L1.m]<;>kernel_rfl
theorem cd2 (l:List Int)(x:Int):(X9 l x).m=Pv.X9 l x:=by
 simp only[X9,Pv.X9,C.of,M.run,L1.m,Cl.of,ag1,aJ2,bQ7]<;>kernel_rfl
theorem cb9 (n2:Int):(V7 n2).m=Pv.V7 n2:=by
 simp only[V7,Pv.V7,C.of,M.run]<;>kernel_rfl
theorem cc3 (x:Int):(aO6 x).m=Pv.aO6 x:=rfl
theorem br3 (x:Int):(X0 x).m=Pv.X0 x:=by
 simp only[X0,Pv.X0,C.of,M.run,cc3]<;>kernel_rfl
theorem cc2 (hi lo y:Int):(am1 hi lo y).m=Pv.am1 hi lo y:=by
 delta Pv.am1 Pv.aD9 Pv.aE0
 simp only[am1,aD9,aE0,C.of,M.run,L1.m,elE,br3]<;>kernel_rfl
theorem cs9 (r2 c:Int)(negative:Bool)(mode:Int):(ak9 r2 c negative mode).m=Pv.ak9 r2 c negative mode:=by
 simp only[ak9,Pv.ak9,C.of,M.run]<;>kernel_rfl
theorem cE4 (a b2 c mode:Int):(az5 a b2 c mode).m=Pv.az5 a b2 c mode:=by
 simp only[az5,Pv.az5,C.of,M.run,cb9,cs9,cc2,cc4]<;>kernel_rfl
theorem br1 (a b2 mode:Int):(an5 a b2 mode).m=Pv.an5 a b2 mode:=by
 simp only[an5,Pv.an5,C.of,M.run,cE4]<;>kernel_rfl
theorem aR1 (a b2:Int):(W5 a b2).m=Pv.W5 a b2:=by
 simp only[W5,Pv.W5,C.of,M.run,br1]<;>kernel_rfl
theorem bu6 (x0 x1 y0 y1 x:Int):(ac6 x0 x1 y0 y1 x).m=Pv.ac6 x0 x1 y0 y1 x:=by
 simp only[ac6,Pv.ac6,C.of,M.run,aR1]<;>kernel_rfl
theorem cF3 (j:Int)(c:SMap)(c2 c3:Int):(ar7 j c c2 c3).m=Pv.ar7 j c c2 c3:=by
 simp only[ar7,Pv.ar7,C.of,M.run,L1.m,bu6]<;>kernel_rfl
theorem cX9 (m2:SMap)(x y:Int):(aN5 m2 x y).m=Pv.aN5 m2 x y:=by
 simp only[aN5,Pv.aN5,C.of,M.run,L1.m,cF3,bu6,cd2]<;>kernel_rfl
theorem aY2 (m2:SMap)(x y:Int):(Y9 m2 x y).m=Pv.Y9 m2 x y:=by
 simp only[Y9,Pv.Y9,C.of,M.run,an6,cX9]<;>kernel_rfl
theorem cX7 (t2:o7)(value o8:Int):(aM8 t2 value o8).m=Pv.aM8 t2 value o8:=by
 simp only[aM8,Pv.aM8,C.of,M.run,ag1,aY2,an6]<;>kernel_rfl
theorem ck0 (s:F9)(g:aW0)(e2:Int):(aq5 s g e2).m=Pv.aq5 s g e2:=by
 simp only[aq5,Pv.aq5,C.of,M.run,bg,bga,ag1,aW7]<;>kernel_rfl
theorem dk1 (s:F9)(g:aW0)(target o8:Int):(aE9 s g target o8).m=Pv.aE9 s g target o8:=by
 simp only[aE9,Pv.aE9,C.of,M.run,ck0,aW7,bP8]<;>kernel_rfl
theorem cb8 (r2:j1):(ah8 r2).m=Pv.ah8 r2:=by
 simp only[ah8,Pv.ah8,C.of,M.run,bh7]<;>kernel_rfl
theorem cs8 (l:List j1)(low high:Int):(av7 l low high).m=Pv.av7 l low high:=by
 simp only[av7,Pv.av7,C.of,M.run,Cl.of,cb8,be4,at6]<;>kernel_rfl
theorem bB0 (s:List j1):(X4 s).m=Pv.X4 s:=by
 simp only[X4,Pv.X4,CG.of,M.run,U1.m,fk6]<;>kernel_rfl
theorem aR3 (data:List j1)(a b2:Int)(cmp:Cl Tryz.prog (j1×j1) Int (fun x=>[H2 x.1,H2 x.2]) (fun r=>.t (tI r))):(F6 data a b2 cmp).m=Pv.F6 data a b2 (fun x0 x1=>cmp.f (x0,x1)):=by
 delta Pv.F6 Pv.Q2 Pv.Q1
 simp only[F6,Q2,Q1,CG.of,M.run,L1.m,U1.m,Cl.at,bso,bz1,elE]<;>kernel_rfl
set_option maxHeartbeats 1000000
theorem bd3 (data:List j1)(a m2 b2:Int)(cmp:Cl Tryz.prog (j1×j1) Int (fun x=>[H2 x.1,H2 x.2]) (fun r=>.t (tI r))):(O7 data a m2 b2 cmp).m=Pv.O7 64 data a m2 b2 (fun x0 x1=>cmp.f (x0,x1)):=rfl
theorem bg8 (data:List j1)(n2:Int)(cmp:Cl Tryz.prog (j1×j1) Int (fun x=>[H2 x.1,H2 x.2]) (fun r=>.t (tI r))):(N5 data n2 cmp).m=Pv.N5 data n2 (fun x0 x1=>cmp.f (x0,x1)):=by
 delta Pv.N5 Pv.S3 Pv.X3 Pv.S4
 simp only[N5,S3,X3,S4,CG.of,M.run,elE,aR3,bd3]<;>kernel_rfl
theorem bd2 (x:List j1)(cmp:Cl Tryz.prog (j1×j1) Int (fun x=>[H2 x.1,H2 x.2]) (fun r=>.t (tI r))):(J9 x cmp).m=Pv.J9 x (fun x0 x1=>cmp.f (x0,x1)):=by
 simp only[J9,Pv.J9,CG.of,M.run,bg8]<;>kernel_rfl
theorem bX7 (a b2:j1):(O5 a b2).m=Pv.O5 a b2:=by
 simp only[O5,Pv.O5,C.of,M.run]<;>kernel_rfl
theorem bH7 (s:u7)(t2:Int):(ae0 s t2).m=Pv.ae0 s t2:=by
 simp only[ae0,Pv.ae0,CG.of,M.run]<;>kernel_rfl
theorem bC9 (s:u7)(t2:Int):(aa0 s t2).m=Pv.aa0 s t2:=by
 simp only[aa0,Pv.aa0,CG.of,M.run]<;>kernel_rfl
theorem bD0 (s:u7)(t2:Int):(aa1 s t2).m=Pv.aa1 s t2:=by
 simp only[aa1,Pv.aa1,CG.of,M.run,ag1]<;>kernel_rfl
theorem bH8 (s:u7)(r2:j1):(X6 s r2).m=Pv.X6 s r2:=by
 simp only[X6,Pv.X6,CG.of,M.run,bg,bgo,bgt,bC9,bH7,bD0]<;>kernel_rfl
theorem bY1 (s:List Int):(aC5 s).m=Pv.aC5 s:=rfl
theorem bI4 (s:List Int):(as2 s).m=Pv.as2 s:=rfl
theorem cj5 (l:List j1)(low high:Int):(ap9 l low high).m=Pv.ap9 l low high:=by
 delta Pv.ap9 Pv.aj8
 simp only[ap9,aj8,C.of,M.run,U1.m,Cl.of,bso,bz1,ae5,ar1,elE,bX7,bH8,bB0,bI4,bd2,bY1]<;>kernel_rfl
theorem cE3 (g:aa8)(l:List j1)(low high up down:Int):(ap8 g l low high up down).m=Pv.ap8 g l low high up down:=by
 simp only[ap8,Pv.ap8,C.of,M.run,cj5,cs8,be4]<;>kernel_rfl
theorem bH9 (s:o4):(X7 s).m=Pv.X7 s:=by
 simp only[X7,Pv.X7,CG.of,M.run,U1.m,bso,bz1,cE3,ag1,aw8,bP6,dk1,bP7,cX6,cX7]<;>kernel_rfl
theorem cd4 (i:Int)(c:o7)(c2 c3 c4:Int):(am7 i c c2 c3 c4).m=Pv.am7 i c c2 c3 c4:=by
 simp only[am7,Pv.am7,C.of,M.run,aY2]<;>kernel_rfl
theorem cu7 (t2:o7)(o8 T8:Int):(ap4 t2 o8 T8).m=Pv.ap4 t2 o8 T8:=by
 simp only[ap4,Pv.ap4,C.of,M.run,L1.m,Cl.of,aJ2,cd4,bp5,aB8]<;>kernel_rfl
theorem cX3 (x e2 other:Int):(au7 x e2 other).m=Pv.au7 x e2 other:=by
 simp only[au7,Pv.au7,C.of,M.run]<;>kernel_rfl
theorem cc1 (i:Int)(c:Q4)(c2:Int):(al8 i c c2).m=Pv.al8 i c c2:=by
 simp only[al8,Pv.al8,C.of,M.run,L1.m]<;>kernel_rfl
theorem ct2 (c:Q4)(x:Int):(av9 c x).m=Pv.av9 c x:=by
 simp only[av9,Pv.av9,C.of,M.run,Cl.of,cc1,aJ2]<;>kernel_rfl
theorem cL7 (c:Q4)(x:Int):(aF5 c x).m=Pv.aF5 c x:=by
 simp only[aF5,Pv.aF5,C.of,M.run,L1.m,aR1,ct2]<;>kernel_rfl
theorem bz2 (c:Q4)(x:Int):(au1 c x).m=Pv.au1 c x:=by
 simp only[au1,Pv.au1,C.of,M.run,aJ0,cL7]<;>kernel_rfl
theorem bZ0 (t2:o7)(o8 C5 K9:Int):(aC9 t2 o8 C5 K9).m=Pv.aC9 t2 o8 C5 K9:=by
 simp only[aC9,Pv.aC9,C.of,M.run,aR1,bz2,aY2]<;>kernel_rfl
theorem cj3 (k:Int)(c:o7)(c2 c3 c4:Int):(ak7 k c c2 c3 c4).m=Pv.ak7 k c c2 c3 c4:=by
 simp only[ak7,Pv.ak7,C.of,M.run,bZ0]<;>kernel_rfl
theorem cE0 (t2:o7)(o8 want K9:Int):(av4 t2 o8 want K9).m=Pv.av4 t2 o8 want K9:=by
 simp only[av4,Pv.av4,C.of,M.run,Cl.of,cj3,bH6,aI9,aJ2]<;>kernel_rfl
theorem ck7 (rpm:Int):(ax8 rpm).m=Pv.ax8 rpm:=by
 simp only[ax8,Pv.ax8,C.of,M.run,br1]<;>kernel_rfl
theorem dt0 (o8 C5:Int):(be3 o8 C5).m=Pv.be3 o8 C5:=by
 simp only[be3,Pv.be3,C.of,M.run,aI9,ck7]<;>kernel_rfl
theorem cj4 (k:Int)(c:L6)(c2 c3:Int):(ak8 k c c2 c3).m=Pv.ak8 k c c2 c3:=by
 simp only[ak8,Pv.ak8,C.of,M.run]<;>kernel_rfl
theorem cE1 (b2:L6)(cY5 C5:Int):(av5 b2 cY5 C5).m=Pv.av5 b2 cY5 C5:=by
 simp only[av5,Pv.av5,C.of,M.run,Cl.of,cj4,aI9,bu2,aJ2]<;>kernel_rfl
theorem bA9 (s:o4):(U7 s).m=Pv.U7 s:=by
 simp only[U7,Pv.U7,CG.of,M.run,dt0,cE0,cE1,cX3,aw8,cu7]<;>kernel_rfl
theorem bY9 (t2:o7)(o8 C5 K9:Int):(aC8 t2 o8 C5 K9).m=Pv.aC8 t2 o8 C5 K9:=by
 simp only[aC8,Pv.aC8,C.of,M.run,bH6,aI9,bZ0]<;>kernel_rfl
theorem bz7 (t2:o7)(o8 A4:Int):(ah6 t2 o8 A4).m=Pv.ah6 t2 o8 A4:=by
 simp only[ah6,Pv.ah6,C.of,M.run,aY2,bp5,aB8]<;>kernel_rfl
theorem bi2 (t2:o7)(bJ9 late ae9 B8:Int):(Z6 t2 bJ9 late ae9 B8).m=Pv.Z6 t2 bJ9 late ae9 B8:=by
 simp only[Z6,Pv.Z6,C.of,M.run,L1.m,bz2]<;>kernel_rfl
theorem cl3 (late:Int)(c:o7)(c2 c3 c4 c5:Int):(al6 late c c2 c3 c4 c5).m=Pv.al6 late c c2 c3 c4 c5:=by
 simp only[al6,Pv.al6,C.of,M.run,bi2]<;>kernel_rfl
theorem cF6 (t2:o7)(o8 A4 most B8:Int):(am8 t2 o8 A4 most B8).m=Pv.am8 t2 o8 A4 most B8:=by
 delta Pv.am8 Pv.am9
 simp only[am8,am9,C.of,M.run,Cl.of,elE,aJ2,bz7,cl3,bi2,aB8]<;>kernel_rfl
theorem cl2 (B8 ae9 E5:Int):(ar9 B8 ae9 E5).m=Pv.ar9 B8 ae9 E5:=by
 delta Pv.ar9 Pv.as0
 simp only[ar9,as0,C.of,M.run,L1.m,U1.m,bso,bz1,L2,M6,elE,aB8]<;>kernel_rfl
theorem cu8 (t2:o7)(o8 A4 late ae9 B8:Int):(aw5 t2 o8 A4 late ae9 B8).m=Pv.aw5 t2 o8 A4 late ae9 B8:=by
 simp only[aw5,Pv.aw5,C.of,M.run,bz7,bi2,aB8]<;>kernel_rfl
theorem bM9 (s:o4):(ab1 s).m=Pv.ab1 s:=by
 simp only[ab1,Pv.ab1,CG.of,M.run,bso,bz1,bY9,aw8,cl2,cF6,cu8]<;>kernel_rfl
theorem bi1 (o8 A4:Int):(ad3 o8 A4).m=Pv.ad3 o8 A4:=by
 simp only[ad3,Pv.ad3,C.of,M.run,bl0]<;>kernel_rfl
theorem bN1 (s:List ac0):(ah3 s).m=Pv.ah3 s:=by
 simp only[ah3,Pv.ah3,C.of,M.run,U1.m,fk6]<;>kernel_rfl
theorem ck4 (p2:N1):(ax5 p2).m=Pv.ax5 p2:=by
 simp only[ax5,Pv.ax5,C.of,M.run,bN1]<;>kernel_rfl
theorem cF0 (p2:N1)(C3 o8 A4:Int):(az9 p2 C3 o8 A4).m=Pv.az9 p2 C3 o8 A4:=by
 simp only[az9,Pv.az9,C.of,M.run,bg,bgo,ag1,bi0,ck4,bl0,bi1]<;>kernel_rfl
theorem cu0 (x:Int)(bb9:List Int):(al3 x bb9).m=Pv.al3 x bb9:=by
 delta Pv.al3 Pv.aC4
 simp only[al3,aC4,C.of,M.run,ae5,ar1,elE]<;>kernel_rfl
theorem cE9 (o8 A4:Int):(aG4 o8 A4).m=Pv.aG4 o8 A4:=by
 simp only[aG4,Pv.aG4,C.of,M.run,cu0,bi1]<;>kernel_rfl
theorem ck3 (p2:N1)(o8 A4:Int):(aq8 p2 o8 A4).m=Pv.aq8 p2 o8 A4:=by
 simp only[aq8,Pv.aq8,C.of,M.run,L1.m,ag1,cE9,bi0,bi1]<;>kernel_rfl
theorem bh9 (x low high:Int):(af7 x low high).m=Pv.af7 x low high:=by
 simp only[af7,Pv.af7,C.of,M.run]<;>kernel_rfl
theorem dj8 (A4 bJ1:Int):(aU8 A4 bJ1).m=Pv.aU8 A4 bJ1:=by
 simp only[aU8,Pv.aU8,C.of,M.run,L1.m,bh9]<;>kernel_rfl
set_option maxHeartbeats 1000000
theorem ck2 (b2:L6):(aJ6 b2).m=Pv.aJ6 b2:=by
 simp only[aJ6,Pv.aJ6,C.of,M.run,bh9]<;>kernel_rfl
theorem dk6 (n2:Int)(cmp:Cl Tryz.prog Int Int (fun x=>[.t (tI x)]) (fun r=>.t (tI r))):(aP5 n2 cmp).m=Pv.aP5 n2 (fun x0=>cmp.f x0):=by
 delta Pv.aP5 Pv.aN3
 simp only[aP5,aN3,C.of,M.run,Cl.at,elE]<;>kernel_rfl
theorem bI0 (b2:L6)(aG0 aH7:Int):(aC3 b2 aG0 aH7).m=Pv.aC3 b2 aG0 aH7:=by
 simp only[aC3,Pv.aC3,C.of,M.run]<;>kernel_rfl
theorem cM4 (i:Int)(c:L6)(c2 c3:Int):(aB2 i c c2 c3).m=Pv.aB2 i c c2 c3:=by
 simp only[aB2,Pv.aB2,C.of,M.run,bI0]<;>kernel_rfl
theorem dk0 (b2:L6)(aG0 bs3:Int):(aJ5 b2 aG0 bs3).m=Pv.aJ5 b2 aG0 bs3:=by
 simp only[aJ5,Pv.aJ5,C.of,M.run,Cl.of,cM4,ck2,bh9,bI0,dk6]<;>kernel_rfl
theorem dj7 (b2:L6)(aG0 aH7:Int):(aP2 b2 aG0 aH7).m=Pv.aP2 b2 aG0 aH7:=by
 simp only[aP2,Pv.aP2,C.of,M.run,ck2,bh9,bI0]<;>kernel_rfl
theorem cM5 (y:Int):(aG1 y).m=Pv.aG1 y:=by
 simp only[aG1,Pv.aG1,C.of,M.run,bh9]<;>kernel_rfl
theorem ck1 (t2:o7)(cb4 C3:Int):(aC2 t2 cb4 C3).m=Pv.aC2 t2 cb4 C3:=by
 simp only[aC2,Pv.aC2,C.of,M.run,Cl.of,bz2,aJ0,cM5,bh9,K0]<;>kernel_rfl
theorem dj9 (t2:o7)(bs3 C3:Int):(aP3 t2 bs3 C3).m=Pv.aP3 t2 bs3 C3:=by
 simp only[aP3,Pv.aP3,C.of,M.run,br1,ck1]<;>kernel_rfl
theorem bP0 (s:o4):(ae7 s).m=Pv.ae7 s:=by
 simp only[ae7,Pv.ae7,CG.of,M.run,bso,bz1,ag1,aw8,dj7,dj8,dj9,dk0,ck3,cF0]<;>kernel_rfl
theorem cM6 (k:C1):(aB3 k).m=Pv.aB3 k:=by
 simp only[aB3,Pv.aB3,C.of,M.run,bP9]<;>kernel_rfl
theorem cM7 (n2:Int):(aG3 n2).m=Pv.aG3 n2:=by
 simp only[aG3,Pv.aG3,C.of,M.run,bu1]<;>kernel_rfl
theorem bI3 (s:List C1):(ae2 s).m=Pv.ae2 s:=by
 simp only[ae2,Pv.ae2,CG.of,M.run,U1.m,fk6]<;>kernel_rfl
theorem cX5 (k:C1)(n2:Int):(aH8 k n2).m=Pv.aH8 k n2:=by
 simp only[aH8,Pv.aH8,C.of,M.run,aR1]<;>kernel_rfl
theorem dk3 (l:List C1)(ag5:List Int):(aV1 l ag5).m=Pv.aV1 l ag5:=by
 delta Pv.aV1 Pv.aM5
 simp only[aV1,aM5,C.of,M.run,L1.m,U1.m,Cl.of,bso,bz1,L2,M6,elE,cM6,cM7,cX5,bI3,aL3,K0]<;>kernel_rfl
theorem cu3 (a b2:Int):(aB4 a b2).m=Pv.aB4 a b2:=by
 simp only[aB4,Pv.aB4,C.of,M.run]<;>kernel_rfl
theorem cN1 (l:List Int):(aG9 l).m=Pv.aG9 l:=by
 simp only[aG9,Pv.aG9,C.of,M.run,Cl.of,aQ1,cu3]<;>kernel_rfl
theorem aZ9 (x low high:Int):(R4 x low high).m=Pv.R4 x low high:=by
 simp only[R4,Pv.R4,C.of,M.run]<;>kernel_rfl
theorem cd0 (x c c2:Int):(at4 x c c2).m=Pv.at4 x c c2:=by
 simp only[at4,Pv.at4,C.of,M.run,aZ9]<;>kernel_rfl
theorem bD8 (l:List Int)(low high:Int):(ad8 l low high).m=Pv.ad8 l low high:=by
 simp only[ad8,Pv.ad8,C.of,M.run,Cl.of,K0,cd0]<;>kernel_rfl
theorem cu4 (l:List Int):(aw4 l).m=Pv.aw4 l:=by
 simp only[aw4,Pv.aw4,C.of,M.run,bD8]<;>kernel_rfl
theorem bQ6 (t2:o7):(ay0 t2).m=Pv.ay0 t2:=by
 simp only[ay0,Pv.ay0,C.of,M.run,Cl.of,aJ0,aO1,cN1,bD8,cu4,an6]<;>kernel_rfl
theorem cN0 (t2:o7)(C3 M7:Int):(aG8 t2 C3 M7).m=Pv.aG8 t2 C3 M7:=by
 simp only[aG8,Pv.aG8,C.of,M.run,bz2,bQ6,aZ9]<;>kernel_rfl
theorem cX8 (t2:o7)(o8 A4:Int):(aN4 t2 o8 A4).m=Pv.aN4 t2 o8 A4:=by
 simp only[aN4,Pv.aN4,C.of,M.run,bQ6,aZ9,aY2]<;>kernel_rfl
theorem cM9 (t2:o7)(o8 A4 D6 bk4:Int):(aG7 t2 o8 A4 D6 bk4).m=Pv.aG7 t2 o8 A4 D6 bk4:=by
 simp only[aG7,Pv.aG7,C.of,M.run,ag1,cX8,aZ9]<;>kernel_rfl
theorem bM8 (s:o4):(ab0 s).m=Pv.ab0 s:=by
 delta Pv.ab0 Pv.ae4
 simp only[ab0,ae4,CG.of,M.run,L1.m,U1.m,bso,bz1,L2,M6,elE,ag1,aw8,dk3,cM9,cN0]<;>kernel_rfl
theorem cE6 (t2:o7)(e2:o5)(b2:L6)(c:A9)(i:X5):(aF4 t2 e2 b2 c i).m=Pv.aF4 t2 e2 b2 c i:=by
 simp only[aF4,Pv.aF4,CG.of,M.run,bso,ct0,bL5,bh8,bM8,bP0,bM9,bA9,bH9,bu2]<;>kernel_rfl
theorem dk7 (n2:Int):(aV7 n2).m=Pv.aV7 n2:=by
 simp only[aV7,Pv.aV7,C.of,M.run]<;>kernel_rfl
theorem aR2 (s:List Int):(O4 s).m=Pv.O4 s:=by
 simp only[O4,Pv.O4,C.of,M.run,U1.m,fk6]<;>kernel_rfl
theorem dj6:(bc1).m=Pv.bc1:=by
 simp only[bc1,Pv.bc1,C.of,M.run]<;>kernel_rfl
theorem bD4 (e2:o5):(ap2 e2).m=Pv.ap2 e2:=by
 simp only[ap2,Pv.ap2,C.of,M.run,dj6,ay3,aR2,dk7]<;>kernel_rfl
theorem cE2 (t2:Int):(av6 t2).m=Pv.av6 t2:=by
 simp only[av6,Pv.av6,C.of,M.run]<;>kernel_rfl
theorem bu0 (c:E8):(aj7 c).m=Pv.aj7 c:=by
 simp only[aj7,Pv.aj7,C.of,M.run,cE2]<;>kernel_rfl
theorem bp3 (s:List j7)(f2:Cl Tryz.prog j7 Bool (fun x=>[ba9 x]) (fun r=>.t (tB r))):(R8 s f2).m=Pv.R8 s (fun x0=>f2.f x0):=by
 delta Pv.R8 Pv.W3
 simp only[R8,W3,C.of,M.run,L1.m,Cl.at,bz1,L2,M6]<;>kernel_rfl
theorem aI3 (s:List j7)(f2:Cl Tryz.prog j7 Bool (fun x=>[ba9 x]) (fun r=>.t (tB r))):(G7 s f2).m=Pv.G7 s (fun x0=>f2.f x0):=by
 simp only[G7,Pv.G7,C.of,M.run,bp3]<;>kernel_rfl
theorem cu6 (c:j7)(c2:A2):(ap3 c c2).m=Pv.ap3 c c2:=by
 simp only[ap3,Pv.ap3,C.of,M.run]<;>kernel_rfl
theorem bu8 (t2:A2):(ao5 t2).m=Pv.ao5 t2:=by
 simp only[ao5,Pv.ao5,C.of,M.run,Cl.of,aI3,cu6]<;>kernel_rfl
theorem bD3 (x low high:Int):(M8 x low high).m=Pv.M8 x low high:=by
 simp only[M8,Pv.M8,C.of,M.run]<;>kernel_rfl
theorem bq5 (e2:o5)(f2:A6):(Y3 e2 f2).m=Pv.Y3 e2 f2:=by
 simp only[Y3,Pv.Y3,C.of,M.run,ay3,bD3,bc3]<;>kernel_rfl
theorem aW3 (s:List A6)(f2:Cl Tryz.prog A6 Bool (fun x=>[aP8 x]) (fun r=>.t (tB r))):(H8 s f2).m=Pv.H8 s (fun x0=>f2.f x0):=by
 delta Pv.H8 Pv.O0
 simp only[H8,O0,C.of,M.run,L1.m,Cl.at,bz1,L2,M6]<;>kernel_rfl
theorem aO0 (s:List A6)(f2:Cl Tryz.prog A6 Bool (fun x=>[aP8 x]) (fun r=>.t (tB r))):(F5 s f2).m=Pv.F5 s (fun x0=>f2.f x0):=by
 simp only[F5,Pv.F5,C.of,M.run,aW3]<;>kernel_rfl
theorem bQ4 (g c:A6):(af3 g c).m=Pv.af3 g c:=by
 simp only[af3,Pv.af3,C.of,M.run]<;>kernel_rfl
theorem bu3 (e2:o5)(l:List A6):(ac2 e2 l).m=Pv.ac2 e2 l:=by
 delta Pv.ac2 Pv.an3
 simp only[ac2,an3,C.of,M.run,L1.m,U1.m,Cl.of,bz1,L2,M6,bq5,bQ4,aO0]<;>kernel_rfl
theorem aH2 (s:List B0)(f2:Cl Tryz.prog B0 Bool (fun x=>[bd8 x]) (fun r=>.t (tB r))):(C6 s f2).m=Pv.C6 s (fun x0=>f2.f x0):=by
 delta Pv.C6 Pv.P3
 simp only[C6,P3,C.of,M.run,L1.m,Cl.at,bz1,L2,M6]<;>kernel_rfl
theorem br4 (s:List B0)(f2:Cl Tryz.prog B0 Bool (fun x=>[bd8 x]) (fun r=>.t (tB r))):(P2 s f2).m=Pv.P2 s (fun x0=>f2.f x0):=by
 simp only[P2,Pv.P2,C.of,M.run,aH2]<;>kernel_rfl
set_option maxHeartbeats 1000000
theorem cu2 (s:c8)(j:B0):(aw3 s j).m=Pv.aw3 s j:=by
 simp only[aw3,Pv.aw3,C.of,M.run,bg,bga]<;>kernel_rfl
theorem bQ2 (j:B0)(c:c8):(Z2 j c).m=Pv.Z2 j c:=by
 simp only[Z2,Pv.Z2,C.of,M.run,cu2]<;>kernel_rfl
theorem az6 (x:C0):(H5 x).m=Pv.H5 x:=by
 simp only[H5,Pv.H5,C.of,M.run]<;>kernel_rfl
theorem bL8 (kind:Int):(ar4 kind).m=Pv.ar4 kind:=by
 simp only[ar4,Pv.ar4,C.of,M.run]<;>kernel_rfl
theorem ck9 (s:c8)(c:Int):(ar3 s c).m=Pv.ar3 s c:=by
 delta Pv.ar3 Pv.Z5
 simp only[ar3,Z5,C.of,M.run,L1.m,bg,bga,bgo,bz1,ae5,ar1,az6,bL8]<;>kernel_rfl
theorem au6 (s:c8):(K1 s).m=Pv.K1 s:=by
 delta Pv.K1 Pv.an2
 simp only[K1,an2,C.of,M.run,Cl.of,bg,bgo,bz1,L2,M6,bu0,ay3,bQ2,bu3,ck9,br4,bu8]<;>kernel_rfl
theorem bh1 (s:List A6):(U6 s).m=Pv.U6 s:=by
 simp only[U6,Pv.U6,C.of,M.run,U1.m,fk6]<;>kernel_rfl
theorem bQ5 (s:List B0):(ak3 s).m=Pv.ak3 s:=by
 simp only[ak3,Pv.ak3,CG.of,M.run,U1.m,fk6]<;>kernel_rfl
theorem az1 (s:c8):(L9 s).m=Pv.L9 s:=by
 simp only[L9,Pv.L9,CG.of,M.run,bh1,bQ5]<;>kernel_rfl
theorem ck8 (s:c8)(l:List A6):(ar2 s l).m=Pv.ar2 s l:=by
 simp only[ar2,Pv.ar2,C.of,M.run,CG.f,au6,az1,bu3,bh1]<;>kernel_rfl
theorem bN0 (x:j7):(ah0 x).m=Pv.ah0 x:=by
 simp only[ah0,Pv.ah0,C.of,M.run]<;>kernel_rfl
theorem bX8 (s:c8):(ad5 s).m=Pv.ad5 s:=by
 simp only[ad5,Pv.ad5,C.of,M.run,Cl.of,CG.f,bN0,au6,az1,aI3]<;>kernel_rfl
theorem be6 (t2:A2)(channel:Int):(ah5 t2 channel).m=Pv.ah5 t2 channel:=by
 simp only[ah5,Pv.ah5,CG.of,M.run,U1.m,bso,bu8]<;>kernel_rfl
theorem cN2 (t2:A2)(channel:Int)(level:Bool):(aH0 t2 channel level).m=Pv.aH0 t2 channel level:=by
 simp only[aH0,Pv.aH0,C.of,M.run,L1.m,U1.m,bso,be6]<;>kernel_rfl
theorem cF5 (t2:A2)(channel:Int):(aA3 t2 channel).m=Pv.aA3 t2 channel:=by
 simp only[aA3,Pv.aA3,C.of,M.run,L1.m,U1.m,be6]<;>kernel_rfl
theorem cc6 (j:B0)(c:Int):(at3 j c).m=Pv.at3 j c:=by
 simp only[at3,Pv.at3,C.of,M.run,az6]<;>kernel_rfl
theorem cl1 (t2:A2)(channel aZ4:Int)(level:Bool):(aK4 t2 channel aZ4 level).m=Pv.aK4 t2 channel aZ4 level:=by
 simp only[aK4,Pv.aK4,C.of,M.run,L1.m,U1.m,be6]<;>kernel_rfl
theorem cu1 (s:c8):(ap1 s).m=Pv.ap1 s:=by
 delta Pv.ap1 Pv.ad4
 simp only[ap1,ad4,C.of,M.run,L1.m,U1.m,Cl.of,CG.f,bg,bga,bz1,L2,M6,elE,cc6,au6,az1,aH2,cl1,cF5,cN2]<;>kernel_rfl
theorem cc8 (j:B0)(c:Int):(W0 j c).m=Pv.W0 j c:=by
 simp only[W0,Pv.W0,C.of,M.run,az6]<;>kernel_rfl
theorem cF2 (a b2:Int):(aA0 a b2).m=Pv.aA0 a b2:=by
 simp only[aA0,Pv.aA0,C.of,M.run,L1.m]<;>kernel_rfl
theorem bD5 (s:c8):(al4 s).m=Pv.al4 s:=by
 delta Pv.al4 Pv.W2
 simp only[al4,W2,CG.of,M.run,L1.m,U1.m,Cl.of,bso,bz1,L2,M6,elE,cc8,bL8,cF2,aH2,cl1]<;>kernel_rfl
theorem cY0 (t2:A2):(aN6 t2).m=Pv.aN6 t2:=by
 delta Pv.aN6 Pv.aI0
 simp only[aN6,aI0,C.of,M.run,bg,bga,ae5,ar1,elE,bu8]<;>kernel_rfl
theorem bu5 (s:List j8)(f:Cl Tryz.prog (j8×j8) Int (fun x=>[aB6 x.1,aB6 x.2]) (fun r=>.t (tI r))):(Y8 s f).m=Pv.Y8 s (fun x0 x1=>f.f (x0,x1)):=rfl
theorem bb0 (x y:Int):(F8 x y).m=Pv.F8 x y:=by
 simp only[F8,Pv.F8,C.of,M.run,bD1]<;>kernel_rfl
theorem bA7 (by8:List Int):(ag2 by8).m=Pv.ag2 by8:=by
 delta Pv.ag2 Pv.aA4
 simp only[ag2,aA4,C.of,M.run,ae5,ar1]<;>kernel_rfl
theorem cd3 (a b2:j8):(Y0 a b2).m=Pv.Y0 a b2:=by
 simp only[Y0,Pv.Y0,C.of,M.run,bb0,bA7]<;>kernel_rfl
theorem cu5 (t2:A2)(N3:Int):(al5 t2 N3).m=Pv.al5 t2 N3:=by
 delta Pv.al5 Pv.av2
 simp only[al5,av2,C.of,M.run,L1.m,U1.m,Cl.of,bz1,L2,M6,elE,bu5,cd3,be6]<;>kernel_rfl
theorem by0 (s:List B0)(del:Cl Tryz.prog B0 Bool (fun x=>[bd8 x]) (fun r=>.t (tB r))):(L3 s del).m=Pv.L3 s (fun x0=>del.f x0):=rfl
theorem bX9 (j:B0)(c:Int):(ao2 j c).m=Pv.ao2 j c:=by
 simp only[ao2,Pv.ao2,C.of,M.run]<;>kernel_rfl
theorem bz6 (s:c8)(N3:Int):(ac3 s N3).m=Pv.ac3 s N3:=by
 delta Pv.ac3 Pv.Z4
 simp only[ac3,Z4,CG.of,M.run,U1.m,Cl.of,bso,bz1,elE,bD5,bX9,by0,cu5,cY0]<;>kernel_rfl
theorem bm7 (s:c8)(N3:Int):(U0 s N3).m=Pv.U0 s N3:=by
 simp only[U0,Pv.U0,C.of,M.run,au6,az1,bz6]<;>kernel_rfl
theorem cj6 (a b2:Int):(ac9 a b2).m=Pv.ac9 a b2:=by
 simp only[ac9,Pv.ac9,C.of,M.run,L1.m]<;>kernel_rfl
theorem bb1 (aT0 N3:Int):(R6 aT0 N3).m=Pv.R6 aT0 N3:=by
 simp only[R6,Pv.R6,C.of,M.run,cj6,bL6]<;>kernel_rfl
theorem cL6 (c:E8):(aL1 c).m=Pv.aL1 c:=by
 simp only[aL1,Pv.aL1,C.of,M.run,bu0]<;>kernel_rfl
theorem dt1 (a b2:Int):(bm5 a b2).m=Pv.bm5 a b2:=by
 simp only[bm5,Pv.bm5,C.of,M.run,br1]<;>kernel_rfl
theorem cL5 (c:E8)(bU8:Int):(aF3 c bU8).m=Pv.aF3 c bU8:=by
 simp only[aF3,Pv.aF3,C.of,M.run,cL6,dt1]<;>kernel_rfl
theorem bD2 (e2:o5)(aD2:Int):(al2 e2 aD2).m=Pv.al2 e2 aD2:=by
 simp only[al2,Pv.al2,C.of,M.run,L1.m,bm8]<;>kernel_rfl
theorem ct3 (e2:o5)(aD2:Int):(aw0 e2 aD2).m=Pv.aw0 e2 aD2:=by
 simp only[aw0,Pv.aw0,C.of,M.run,ay3,bD2]<;>kernel_rfl
theorem bQ3 (f2:A6)(c:Int):(Z3 f2 c).m=Pv.Z3 f2 c:=by
 simp only[Z3,Pv.Z3,C.of,M.run]<;>kernel_rfl
theorem ct4 (f2:A6)(c:o5):(ap0 f2 c).m=Pv.ap0 f2 c:=by
 simp only[ap0,Pv.ap0,C.of,M.run,bq5]<;>kernel_rfl
theorem ct5 (g c:A6):(aw1 g c).m=Pv.aw1 g c:=by
 simp only[aw1,Pv.aw1,C.of,M.run]<;>kernel_rfl
theorem ct6 (aZ4 kind bS9:Int)(c:List C0)(c2:A6):(O9 aZ4 kind bS9 c c2).m=Pv.O9 aZ4 kind bS9 c c2:=by
 simp only[O9,Pv.O9,CG.of,M.run,U1.m,bso,bz1,cj6]<;>kernel_rfl
theorem ct7 (d c:Int):(K8 d c).m=Pv.K8 d c:=by
 simp only[K8,Pv.K8,C.of,M.run,L1.m]<;>kernel_rfl
theorem ct8 (f2:A6):(al1 f2).m=Pv.al1 f2:=by
 simp only[al1,Pv.al1,C.of,M.run]<;>kernel_rfl
theorem by3 (s:List C0)(f:Cl Tryz.prog (C0×C0) Int (fun x=>[aX6 x.1,aX6 x.2]) (fun r=>.t (tI r))):(ab4 s f).m=Pv.ab4 s (fun x0 x1=>f.f (x0,x1)):=rfl
set_option maxHeartbeats 1000000
theorem cE7 (a b2:C0):(al9 a b2).m=Pv.al9 a b2:=by
 simp only[al9,Pv.al9,C.of,M.run,bb0,bA7]<;>kernel_rfl
theorem cL8 (e2:o5)(l:List A6)(M7:Int):(aF7 e2 l M7).m=Pv.aF7 e2 l M7:=by
 delta Pv.aF7 Pv.aD5 Pv.ax0
 simp only[aF7,aD5,ax0,C.of,M.run,L1.m,U1.m,Cl.of,bso,bz1,ae5,L2,ar1,M6,ct4,ct5,ct6,ct7,ct8,ay3,bD2,cE7,bD3,aO0,by3]<;>kernel_rfl
theorem aE7 (data:List a7)(a b2:Int)(cmp:Cl Tryz.prog (a7×a7) Int (fun x=>[B1 x.1,B1 x.2]) (fun r=>.t (tI r))):(B4 data a b2 cmp).m=Pv.B4 data a b2 (fun x0 x1=>cmp.f (x0,x1)):=by
 delta Pv.B4 Pv.C4 Pv.B6
 simp only[B4,C4,B6,CG.of,M.run,L1.m,U1.m,Cl.at,bso,bz1,elE]<;>kernel_rfl
theorem aK7 (data:List a7)(a m2 b2:Int)(cmp:Cl Tryz.prog (a7×a7) Int (fun x=>[B1 x.1,B1 x.2]) (fun r=>.t (tI r))):(I4 data a m2 b2 cmp).m=Pv.I4 64 data a m2 b2 (fun x0 x1=>cmp.f (x0,x1)):=rfl
theorem aO2 (data:List a7)(n2:Int)(cmp:Cl Tryz.prog (a7×a7) Int (fun x=>[B1 x.1,B1 x.2]) (fun r=>.t (tI r))):(H4 data n2 cmp).m=Pv.H4 data n2 (fun x0 x1=>cmp.f (x0,x1)):=by
 delta Pv.H4 Pv.K2 Pv.N6 Pv.K3
 simp only[H4,K2,N6,K3,CG.of,M.run,elE,aE7,aK7]<;>kernel_rfl
theorem aK6 (x:List a7)(cmp:Cl Tryz.prog (a7×a7) Int (fun x=>[B1 x.1,B1 x.2]) (fun r=>.t (tI r))):(D5 x cmp).m=Pv.D5 x (fun x0 x1=>cmp.f (x0,x1)):=by
 simp only[D5,Pv.D5,CG.of,M.run,aO2]<;>kernel_rfl
theorem bY0 (a b2:a7):(ad6 a b2).m=Pv.ad6 a b2:=by
 simp only[ad6,Pv.ad6,C.of,M.run,bb0,bA7,az6]<;>kernel_rfl
theorem cl0 (e2:o5)(f2:A6)(begin M7:Int):(ar5 e2 f2 begin M7).m=Pv.ar5 e2 f2 begin M7:=by
 delta Pv.ar5 Pv.ak2 Pv.W6 Pv.U2
 simp only[ar5,ak2,W6,U2,C.of,M.run,L1.m,U1.m,Cl.of,bso,bz1,ae5,ar1,elE,bb1,cL8,bY0,aK6]<;>kernel_rfl
theorem cc9 (s:c8):(ai1 s).m=Pv.ai1 s:=by
 delta Pv.ai1 Pv.ah2 Pv.ah1
 simp only[ai1,ah2,ah1,CG.of,M.run,L1.m,U1.m,Cl.of,bso,bz1,ae5,ar1,elE,cL5,ct3,bb1,bQ3,cl0,aW3]<;>kernel_rfl
theorem cc7 (s:c8)(c:E8):(am5 s c).m=Pv.am5 s c:=by
 delta Pv.am5 Pv.ab2
 simp only[am5,ab2,C.of,M.run,L1.m,U1.m,bso,bz1,L2,M6,elE,bu0,bb1,au6,bD5,cc9,az1,bz6]<;>kernel_rfl
theorem br5 (s:List y9)(f2:Cl Tryz.prog y9 Bool (fun x=>[aP0 x]) (fun r=>.t (tB r))):(T4 s f2).m=Pv.T4 s (fun x0=>f2.f x0):=by
 delta Pv.T4 Pv.X2
 simp only[T4,X2,C.of,M.run,L1.m,Cl.at,bz1,L2,M6]<;>kernel_rfl
theorem aJ1 (s:List y9)(f2:Cl Tryz.prog y9 Bool (fun x=>[aP0 x]) (fun r=>.t (tB r))):(I6 s f2).m=Pv.I6 s (fun x0=>f2.f x0):=by
 simp only[I6,Pv.I6,C.of,M.run,br5]<;>kernel_rfl
theorem aZ8 (x low high:Int):(E3 x low high).m=Pv.E3 x low high:=by
 simp only[E3,Pv.E3,C.of,M.run]<;>kernel_rfl
theorem bP2 (c:y9):(ae8 c).m=Pv.ae8 c:=by
 simp only[ae8,Pv.ae8,C.of,M.run,aZ8]<;>kernel_rfl
theorem bP5 (c:y9):(ao0 c).m=Pv.ao0 c:=by
 simp only[ao0,Pv.ao0,C.of,M.run,bP2]<;>kernel_rfl
theorem bP3 (l:List y9):(an9 l).m=Pv.an9 l:=by
 delta Pv.an9 Pv.aD8
 simp only[an9,aD8,C.of,M.run,ae5,ar1]<;>kernel_rfl
theorem bD6 (s:List y9):(aa3 s).m=Pv.aa3 s:=by
 simp only[aa3,Pv.aa3,C.of,M.run,U1.m,fk6]<;>kernel_rfl
theorem br2 (l:List y9):(aC1 l).m=Pv.aC1 l:=by
 simp only[aC1,Pv.aC1,C.of,M.run,Cl.of,bP3,bP5,bD6,aJ1]<;>kernel_rfl
theorem cM2 (x:Int):(aR7 x).m=Pv.aR7 x:=by
 simp only[aR7,Pv.aR7,C.of,M.run,aZ8]<;>kernel_rfl
theorem ct9 (x:Int):(aA9 x).m=Pv.aA9 x:=by
 simp only[aA9,Pv.aA9,C.of,M.run,cM2]<;>kernel_rfl
theorem bP4 (c:y9)(l:List Int):(as7 c l).m=Pv.as7 c l:=by
 simp only[as7,Pv.as7,C.of,M.run,Cl.of,ct9,K0]<;>kernel_rfl
theorem cj9 (f2:A5)(bits:Int):(Y4 f2 bits).m=Pv.Y4 f2 bits:=by
 simp only[Y4,Pv.Y4,C.of,M.run]<;>kernel_rfl
theorem cM0 (f2:A5):(aL4 f2).m=Pv.aL4 f2:=by
 simp only[aL4,Pv.aL4,C.of,M.run]<;>kernel_rfl
theorem cM1 (c:y9)(f2:A5)(E5:Int):(aF9 c f2 E5).m=Pv.aF9 c f2 E5:=by
 simp only[aF9,Pv.aF9,C.of,M.run,bP4,cj9,cM0,aZ8]<;>kernel_rfl
theorem be5 (f2:C2):(aa2 f2).m=Pv.aa2 f2:=by
 delta Pv.aa2 Pv.aD7
 simp only[aa2,aD7,C.of,M.run,L1.m,Cl.of,bg,bgo,bz1,L2,M6,bP3,cM1,aZ8,bP5,aJ1]<;>kernel_rfl
theorem bI2 (s:List A5):(ae1 s).m=Pv.ae1 s:=by
 simp only[ae1,Pv.ae1,CG.of,M.run,U1.m,fk6]<;>kernel_rfl
theorem bL7 (f2:C2):(am0 f2).m=Pv.am0 f2:=by
 delta Pv.am0 Pv.ay5
 simp only[am0,ay5,CG.of,M.run,L1.m,U1.m,bso,bz1,L2,M6,elE,bI2,aR2]<;>kernel_rfl
theorem bP1 (f2:C2):(ax1 f2).m=Pv.ax1 f2:=by
 delta Pv.ax1 Pv.aD6
 simp only[ax1,aD6,C.of,M.run,L1.m,U1.m,bso,bz1,L2,M6,elE,be5,bL7]<;>kernel_rfl
theorem cL9 (l:List A5)(i:Int)(c:y9)(E5:Int)(frame:List Int):(aF8 l i c E5 frame).m=Pv.aF8 l i c E5 frame:=by
 simp only[aF8,Pv.aF8,CG.of,M.run,U1.m,cj9,aR2]<;>kernel_rfl
theorem cE8 (f2:C2)(i:Int)(bad:Bool)(l:List Int):(aq4 f2 i bad l).m=Pv.aq4 f2 i bad l:=by
 simp only[aq4,Pv.aq4,C.of,M.run,L1.m,U1.m,bso,bz1,be5,bL7,cL9,bP4]
 refine db4 fun v _=>dP1 rfl (dP1 rfl (dP1 rfl (db4 fun x _=>db4 fun v2 _=>dP1 rfl (db4 fun v3 _=>db4 fun y hy=>db4 fun f3 _=>?_))))
 simp only[hy,bso]
theorem bz5 (x low high:Int):(N2 x low high).m=Pv.N2 x low high:=by
 simp only[N2,Pv.N2,C.of,M.run]<;>kernel_rfl
theorem bI1 (r2:j1):(V3 r2).m=Pv.V3 r2:=by
 simp only[V3,Pv.V3,C.of,M.run,bh7]<;>kernel_rfl
theorem ck5 (bp1:List Int)(x:Int):(ag8 bp1 x).m=Pv.ag8 bp1 x:=by
 delta Pv.ag8 Pv.ar0 Pv.af1
 simp only[ag8,ar0,af1,C.of,M.run,L1.m,bz1,L2,M6,elE]<;>kernel_rfl
theorem bz4 (m2:SMap)(x y:Int):(Y6 m2 x y).m=Pv.Y6 m2 x y:=by
 simp only[Y6,Pv.Y6,C.of,M.run,L1.m,ck5]<;>kernel_rfl
theorem ck6 (r2:j1):(ax7 r2).m=Pv.ax7 r2:=by
 simp only[ax7,Pv.ax7,C.of,M.run]<;>kernel_rfl
theorem bQ0 (t2:o7)(bg1 o8:Int)(l:List j1):(af0 t2 bg1 o8 l).m=Pv.af0 t2 bg1 o8 l:=by
 delta Pv.af0 Pv.ag6 Pv.ag7
 simp only[af0,ag6,ag7,C.of,M.run,Cl.of,bz1,ae5,ar1,elE,bI1,bz4,ck6,bz5,at6,an6]<;>kernel_rfl
theorem bz3 (t2:o7)(o8 A4:Int)(l:List A6):(ax6 t2 o8 A4 l).m=Pv.ax6 t2 o8 A4 l:=by
 delta Pv.ax6 Pv.aq9
 simp only[ax6,aq9,C.of,M.run,L1.m,ae5,ar1,elE,bz4,bz5,an6]<;>kernel_rfl
theorem cM3 (t2:o7)(M7 C3:Int):(aB1 t2 M7 C3).m=Pv.aB1 t2 M7 C3:=by
 simp only[aB1,Pv.aB1,C.of,M.run,ck1]<;>kernel_rfl
end Go.Proofs.YtjhedhnghldjbaaGreatDoor
namespace Go.Pv
open Go
def aj1 {α:Type}(a:Int)(cmp:α->α->Option Int)(s2:Int×List α):Option ((Int×List α)⊕((Int×List α)⊕Empty)):=
 ak4 (bif (decide (s2.1>a))then(ak4 (E0 s2.2 s2.1) fun x=>ak4 (E0 s2.2 (j5 (s2.1-1))) fun x2=>ak4 (cmp x x2) fun v=>some (decide (v<0)))else(some false)) fun(v2:Bool)=>bif v2 then(ak4 (ak4 (E0 s2.2 (j5 (s2.1-1))) fun x3=>ak4 (E0 s2.2 s2.1) fun x4=>ak4 (ao3 s2.2 s2.1 x3) fun l=>ak4 (E0 l (j5 (s2.1-1))) fun _=>ak4 (ao3 l (j5 (s2.1-1)) x4) fun l2=>some l2) fun(f2:List α)=>some (.inl (j5 (s2.1-1),f2)))else(some (.inr (.inl (s2.1,s2.2))))
def aa4 {α:Type}(a:Int)(b2:Int)(cmp:α->α->Option Int)(s:Int×List α):Option ((Int×List α)⊕((Int×List α)⊕Empty)):=
 bif (decide (s.1<b2))then(ak4 (L8 (aj1 a cmp) (s.1,s.2)) fun(t:(Int×List α)⊕Empty)=>match t with| .inl s3=>(some (.inl (j5 (s.1+1),s3.2)))| .inr r=>r.elim)else(some (.inr (.inl (s.1,s.2))))
def ai5 {α:Type}(data:List α)(a:Int)(b2:Int)(cmp:α->α->Option Int):Option (List α):=
 ak4 (L8 (aa4 a b2 cmp) (j5 (a+1),data)) fun(t:(Int×List α)⊕Empty)=>match t with| .inl s4=>(some s4.2)| .inr r=>r.elim
def bN3 {α:Type}(a:Int)(b2:Int)(n2:Int)(s:Int×List α):Option ((Int×List α)⊕((Int×List α)⊕Empty)):=
 bif (decide (s.1<n2))then(ak4 (ak4 (E0 s.2 (j5 (b2+s.1))) fun x=>ak4 (E0 s.2 (j5 (a+s.1))) fun x2=>ak4 (ao3 s.2 (j5 (a+s.1)) x) fun l=>ak4 (E0 l (j5 (b2+s.1))) fun _=>ak4 (ao3 l (j5 (b2+s.1)) x2) fun l2=>some l2) fun(f2:List α)=>some (.inl (j5 (s.1+1),f2)))else(some (.inr (.inl (s.1,s.2))))
def bb5 {α:Type}(data:List α)(a:Int)(b2:Int)(n2:Int)(_:α->α->Option Int):Option (List α):=
 ak4 (L8 (bN3 a b2 n2) (0,data)) fun(t:(Int×List α)⊕Empty)=>match t with| .inl s2=>(some s2.2)| .inr r=>r.elim
def ce6 {α:Type}(m2:Int)(cmp:α->α->Option Int)(s:Int×Int×List α):Option ((Int×Int×List α)⊕((Int×Int×List α)⊕Empty)):=
 bif (s.1 !=s.2.1)then(bif (decide (s.1>s.2.1))then(ak4 (bb5 s.2.2 (j5 (m2-s.1)) m2 s.2.1 cmp) fun v=>some (.inl (j5 (s.1-s.2.1),s.2.1,v)))else(ak4 (bb5 s.2.2 (j5 (m2-s.1)) (j5 ((j5 (m2+s.2.1))-s.1)) s.1 cmp) fun v2=>some (.inl (s.1,j5 (s.2.1-s.1),v2))))else(some (.inr (.inl (s.1,s.2.1,s.2.2))))
def cF9 {α:Type}(data:List α)(a:Int)(m2:Int)(b2:Int)(cmp:α->α->Option Int):Option (List α):=
 ak4 (L8 (ce6 m2 cmp) (j5 (m2-a),j5 (b2-m2),data)) fun(t:(Int×Int×List α)⊕Empty)=>match t with| .inl s2=>(ak4 (bb5 s2.2.2 (j5 (m2-s2.1)) m2 s2.1 cmp) fun v3=>some v3)| .inr r=>r.elim
def bR6 {α:Type}(data:List α)(a:Int)(cmp:α->α->Option Int)(s:Int×Int):Option ((Int×Int)⊕((Int×Int)⊕Empty)):=
 bif (decide (s.1<s.2))then(ak4 (E0 data (j5 (G3 .u64 (ba6.wrap (j5 (s.1+s.2))) 1))) fun x=>ak4 (E0 data a) fun x2=>ak4 (cmp x x2) fun v=>bif (decide (v<0))then(some (.inl (j5 ((j5 (G3 .u64 (ba6.wrap (j5 (s.1+s.2))) 1))+1),s.2)))else(some (.inl (s.1,j5 (G3 .u64 (ba6.wrap (j5 (s.1+s.2))) 1)))))else(some (.inr (.inl (s.1,s.2))))
def bR7 {α:Type}(s2:Int×Int)(s3:Int×List α):Option ((Int×List α)⊕((Int×List α)⊕Empty)):=
 bif (decide (s3.1<(j5 (s2.1-1))))then(ak4 (ak4 (E0 s3.2 (j5 (s3.1+1))) fun x3=>ak4 (E0 s3.2 s3.1) fun x4=>ak4 (ao3 s3.2 s3.1 x3) fun l=>ak4 (E0 l (j5 (s3.1+1))) fun _=>ak4 (ao3 l (j5 (s3.1+1)) x4) fun l2=>some l2) fun(f2:List α)=>some (.inl (j5 (s3.1+1),f2)))else(some (.inr (.inl (s3.1,s3.2))))
def bR8 {α:Type}(data:List α)(m2:Int)(cmp:α->α->Option Int)(s5:Int×Int):Option ((Int×Int)⊕((Int×Int)⊕Empty)):=
 bif (decide (s5.1<s5.2))then(ak4 (E0 data m2) fun x6=>ak4 (E0 data (j5 (G3 .u64 (ba6.wrap (j5 (s5.1+s5.2))) 1))) fun x7=>ak4 (cmp x6 x7) fun v2=>bif (!(decide (v2<0)))then(some (.inl (j5 ((j5 (G3 .u64 (ba6.wrap (j5 (s5.1+s5.2))) 1))+1),s5.2)))else(some (.inl (s5.1,j5 (G3 .u64 (ba6.wrap (j5 (s5.1+s5.2))) 1)))))else(some (.inr (.inl (s5.1,s5.2))))
def bR9 {α:Type}(s6:Int×Int)(s7:Int×List α):Option ((Int×List α)⊕((Int×List α)⊕Empty)):=
 bif (decide (s7.1>s6.1))then(ak4 (ak4 (E0 s7.2 (j5 (s7.1-1))) fun x8=>ak4 (E0 s7.2 s7.1) fun x9=>ak4 (ao3 s7.2 s7.1 x8) fun l3=>ak4 (E0 l3 (j5 (s7.1-1))) fun _=>ak4 (ao3 l3 (j5 (s7.1-1)) x9) fun l4=>some l4) fun(f3:List α)=>some (.inl (j5 (s7.1-1),f3)))else(some (.inr (.inl (s7.1,s7.2))))
def bS0 {α:Type}(data:List α)(a:Int)(m2:Int)(b2:Int)(cmp:α->α->Option Int)(s10:Int×Int):Option ((Int×Int)⊕((Int×Int)⊕Empty)):=
 bif (decide (s10.1<s10.2))then(ak4 (E0 data (j5 ((j5 ((j5 ((j5 (G3 .u64 (ba6.wrap (j5 (a+b2))) 1))+m2))-1))-(j5 (G3 .u64 (ba6.wrap (j5 (s10.1+s10.2))) 1))))) fun x11=>ak4 (E0 data (j5 (G3 .u64 (ba6.wrap (j5 (s10.1+s10.2))) 1))) fun x12=>ak4 (cmp x11 x12) fun v3=>bif (!(decide (v3<0)))then(some (.inl (j5 ((j5 (G3 .u64 (ba6.wrap (j5 (s10.1+s10.2))) 1))+1),s10.2)))else(some (.inl (s10.1,j5 (G3 .u64 (ba6.wrap (j5 (s10.1+s10.2))) 1)))))else(some (.inr (.inl (s10.1,s10.2))))
def bY4 {α:Type}(rc:List α->Int->Int->Int->(α->α->Option Int)->Option (List α))(data:List α)(a:Int)(m2:Int)(b2:Int)(cmp:α->α->Option Int):Option (List α):=
 bif ((j5 (m2-a))==1)then(ak4 (L8 (bR6 data a cmp) (m2,b2)) fun(t:(Int×Int)⊕Empty)=>match t with| .inl s2=>(ak4 (L8 (bR7 s2) (a,data)) fun(t:(Int×List α)⊕Empty)=>match t with| .inl s4=>(some s4.2)| .inr r=>r.elim)| .inr r=>r.elim)else(bif ((j5 (b2-m2))==1)then(ak4 (L8 (bR8 data m2 cmp) (a,m2)) fun(t:(Int×Int)⊕Empty)=>match t with| .inl s6=>(ak4 (L8 (bR9 s6) (m2,data)) fun(t:(Int×List α)⊕Empty)=>match t with| .inl s8=>(some s8.2)| .inr r=>r.elim)| .inr r=>r.elim)else(ak4 (bif (decide (m2>(j5 (G3 .u64 (ba6.wrap (j5 (a+b2))) 1))))then(some (j5 ((j5 ((j5 (G3 .u64 (ba6.wrap (j5 (a+b2))) 1))+m2))-b2),j5 (G3 .u64 (ba6.wrap (j5 (a+b2))) 1)))else(some (a,m2))) fun(s9:Int×Int)=>ak4 (L8 (bS0 data a m2 b2 cmp) (s9.1,s9.2)) fun(t:(Int×Int)⊕Empty)=>match t with| .inl s11=>(ak4 (bif ((decide (s11.1<m2))&&(decide (m2<(j5 ((j5 ((j5 (G3 .u64 (ba6.wrap (j5 (a+b2))) 1))+m2))-s11.1)))))then(ak4 (cF9 data s11.1 m2 (j5 ((j5 ((j5 (G3 .u64 (ba6.wrap (j5 (a+b2))) 1))+m2))-s11.1)) cmp) fun v4=>some v4)else(some data)) fun(f4:List α)=>ak4 (bif ((decide (a<s11.1))&&(decide (s11.1<(j5 (G3 .u64 (ba6.wrap (j5 (a+b2))) 1)))))then(ak4 (rc f4 a s11.1 (j5 (G3 .u64 (ba6.wrap (j5 (a+b2))) 1)) cmp) fun v5=>some v5)else(some f4)) fun(f5:List α)=>bif ((decide ((j5 (G3 .u64 (ba6.wrap (j5 (a+b2))) 1))<(j5 ((j5 ((j5 (G3 .u64 (ba6.wrap (j5 (a+b2))) 1))+m2))-s11.1))))&&(decide ((j5 ((j5 ((j5 (G3 .u64 (ba6.wrap (j5 (a+b2))) 1))+m2))-s11.1))<b2)))then(ak4 (rc f5 (j5 (G3 .u64 (ba6.wrap (j5 (a+b2))) 1)) (j5 ((j5 ((j5 (G3 .u64 (ba6.wrap (j5 (a+b2))) 1))+m2))-s11.1)) b2 cmp) fun v6=>some v6)else(some f5))| .inr r=>r.elim))
def bf5 {α:Type}:Nat->List α->Int->Int->Int->(α->α->Option Int)->Option (List α)
 |0=>fun _ _ _ _ _=>none
 |fu+1=>bY4 (bf5 fu)
def bb3 {α:Type}(n2:Int)(cmp:α->α->Option Int)(s:Int×Int×List α):Option ((Int×Int×List α)⊕((Int×Int×List α)⊕Empty)):=
 bif (decide (s.2.1<=n2))then(ak4 (ai5 s.2.2 s.1 s.2.1 cmp) fun v=>some (.inl (s.2.1,j5 (s.2.1+20),v)))else(some (.inr (.inl (s.1,s.2.1,s.2.2))))
def ce7 {α:Type}(n2:Int)(cmp:α->α->Option Int)(s3:Int×List α)(s4:Int×Int×List α):Option ((Int×Int×List α)⊕((Int×Int×List α)⊕Empty)):=
 bif (decide (s4.2.1<=n2))then(ak4 (bf5 64 s4.2.2 s4.1 (j5 (s4.1+s3.1)) s4.2.1 cmp) fun v3=>some (.inl (s4.2.1,j5 (s4.2.1+(j5 (2*s3.1))),v3)))else(some (.inr (.inl (s4.1,s4.2.1,s4.2.2))))
def bb4 {α:Type}(n2:Int)(cmp:α->α->Option Int)(s3:Int×List α):Option ((Int×List α)⊕((Int×List α)⊕Empty)):=
 bif (decide (s3.1<n2))then(ak4 (L8 (ce7 n2 cmp s3) (0,j5 (2*s3.1),s3.2)) fun(t:(Int×Int×List α)⊕Empty)=>match t with| .inl s5=>(bif (decide ((j5 (s5.1+s3.1))<n2))then(ak4 (bf5 64 s5.2.2 s5.1 (j5 (s5.1+s3.1)) n2 cmp) fun v4=>some (.inl (j5 (s3.1*2),v4)))else(some (.inl (j5 (s3.1*2),s5.2.2))))| .inr r=>r.elim)else(some (.inr (.inl (s3.1,s3.2))))
def bp8 {α:Type}(data:List α)(n2:Int)(cmp:α->α->Option Int):Option (List α):=
 ak4 (L8 (bb3 n2 cmp) (0,20,data)) fun(t:(Int×Int×List α)⊕Empty)=>match t with| .inl s2=>(ak4 (ai5 s2.2.2 s2.1 n2 cmp) fun v2=>ak4 (L8 (bb4 n2 cmp) (20,v2)) fun(t:(Int×List α)⊕Empty)=>match t with| .inl s6=>(some s6.2)| .inr r=>r.elim)| .inr r=>r.elim
def aU9 {α:Type}(x:List α)(cmp:α->α->Option Int):Option (List α):=
 ak4 (bp8 x (x.length:Int) cmp) fun v=>some v
section
variable {α β:Type}
theorem cm6 (P:List α)(x:α)(R:List α){i:Int}(h:i=(P.length:Int)):E0 (P++x::R) i=some x:=by
 simp_all[U4]
theorem dB7 (P:List α)(x y:α)(R:List α){i:Int}(h:i=(P.length:Int)):ao3 (P++x::R) i y=some (P++y::R):=by
 simp_all[U5]
def fj6 (P:List α)(x y:α)(Q:List α){i j:Int}(hi:i=(P.length:Int))(hj:j=(P.length:Int)+1)(k:List α->Option β):
  (ak4 (ak4 (E0 (P++x::y::Q) i) fun u=>ak4 (E0 (P++x::y::Q) j) fun v=>ak4 (ao3 (P++x::y::Q) j u) fun l=>ak4 (E0 l i) fun _=>ak4 (ao3 l i v) fun l2=>some l2) k)=k (P++y::x::Q):=by
 have e:∀z w:α,P++z::w::Q=(P++[z])++w::Q:=fun z w=>by simp
 have hj2:∀z:α,j=((P++[z]).length:Int):=fun z=>by grind
 have g1:E0 (P++x::y::Q) j=some y:=by grind [cm6]
 have s1:ao3 (P++x::y::Q) j x=some (P++x::x::Q):=by grind [dB7]
 grind [cm6,dB7]
end
section
variable {α:Type} {D:α -> Prop} {g:α -> α -> Option Int}
structure SW (D:α->Prop)(g:α->α->Option Int):Prop where
 ans:∀x y,D x->D y->∃c,g x y=some c
 asym:∀x y,D x->D y->ltM g x y=true->ltM g y x=false
 ntrans:∀x y z,D x->D y->D z->ltM g x y=false->ltM g y z=false->ltM g x z=false
def SW.cmp (h:SW D g){x y:α}(hx:D x)(hy:D y):∃c,g x y=some c/\decide (c<0)=ltM g x y:=by
 obtain⟨c,hc⟩:=h.ans x y hx hy
 grind [ltM]
abbrev bM4 (D:α->Prop)(l:List α):Prop:=∀x∈l,D x
def eqv (g:α->α->Option Int)(x y:α):Bool:=!ltM g x y&& !ltM g y x
structure Sta (D:α->Prop)(g:α->α->Option Int)(l r:List α):Prop where
 perm:r.Perm l
 same:∀x,D x->r.filter (eqv g x)=l.filter (eqv g x)
abbrev Srt (g:α->α->Option Int)(l:List α):Prop:=l.Pairwise fun x y=>ltM g y x=false
theorem Sta.refl (l:List α):Sta D g l l:=⟨.refl _,fun _ _=>rfl⟩
theorem Sta.trans {l r s:List α}(h:Sta D g l r)(k:Sta D g r s):Sta D g l s:=⟨k.perm.trans h.perm,fun x hx=>(k.same x hx).trans (h.same x hx)⟩
theorem Sta.app {A A' B B':List α}(h:Sta D g A A')(k:Sta D g B B'):Sta D g (A++B) (A'++B'):=
 ⟨h.perm.append k.perm,fun x hx=>by rw[dq4,dq4,h.same x hx,k.same x hx]⟩
theorem Sta.len {l r:List α}(h:Sta D g l r):r.length=l.length:=h.perm.length_eq
theorem Sta.all {l r:List α}(h:Sta D g l r)(hl:bM4 D l):bM4 D r:=fun x hx=>hl x (h.perm.mem_iff.1 hx)
def Sta.swap (hs:SW D g){A B:List α}(hA:bM4 D A)(hB:bM4 D B)(h:∀a∈A,∀b∈B,ltM g b a=true):Sta D g (A++B) (B++A):=by
 refine⟨List.perm_append_comm,fun x hx=>?_⟩
 rw[dq4,dq4]
 by_cases he:∃a∈A,eqv g x a=true
 ·obtain⟨a,ha,hxa⟩:=he
  have:B.filter (eqv g x)=[]:=by
   rw[et4]
   intro b hb hxb
   unfold eqv at hxa hxb
   simp only[aK5,bG5]at hxa hxb
   have:=hs.ntrans b x a (hB b hb) hx (hA a ha) hxb.2 hxa.1
   grind
  grind
 grind [et4]
theorem Srt.app {A B:List α}(hA:Srt g A)(hB:Srt g B)(h:∀a∈A,∀b∈B,ltM g b a=false):Srt g (A++B):=eX4.2 ⟨hA,hB,h⟩
theorem SW.irr (hs:SW D g){x:α}(hx:D x):ltM g x x=false:=by
 cases h:ltM g x x
 ·rfl
 ·have:=hs.asym x x hx hx h;grind
def ea5 (hs:SW D g)(a:Int):∀(n:Nat) (R1:List α),R1.length=n->∀(P:List α) (x:α) (R2 Q:List α),a=(P.length:Int)->bM4 D R1->D x->bM4 D R2->Srt g (R1++R2)->(∀r∈R2,ltM g x r=true)->P.length+R1.length<=1073741824->
  ∃(j:Int) (R':List α),L8 (aj1 a g) ((P.length:Int)+(R1.length:Int),P++(R1++x::(R2++Q)))=some (.inl (j,P++(R'++Q)))/\Srt g R'/\Sta D g (R1++x::R2) R':=by
 intro n
 induction n with
 |zero=>
  intro R1 h1 P x R2 Q ha _ hx hR2 hsrt hlt hN
  have:R1=[]:=eD0.1 h1
  subst this
  refine⟨(P.length:Int)+((0:Nat):Int),x::R2,E6 ?_,?_,Sta.refl _⟩
  ·grind [aj1]
  ·rw[Srt,ej0]
   exact⟨fun r hr=>hs.asym x r hx (hR2 r hr) (hlt r hr),by grind⟩
 |succ n ih=>
  intro R1 h1 P x R2 Q ha hR1 hx hR2 hsrt hlt hN
  have hne:R1≠[]:=by intro h;subst h;simp at h1
  obtain⟨S,y,rfl⟩:∃S y,R1=S++[y]:=⟨R1.dropLast,R1.getLast hne,(List.dropLast_concat_getLast hne).symm⟩
  rw[bd4,cJ4]at h1 hN
  have hy:D y:=hR1 y (by simp)
  have hS:bM4 D S:=fun z hz=>hR1 z (by simp[hz])
  obtain⟨c,hc,hcl⟩:=hs.cmp hx hy
  have e1:P++(S++[y]++x::(R2++Q))=(P++S)++y::x::(R2++Q):=by simp
  have e2:P++(S++[y]++x::(R2++Q))=(P++S++[y])++x::(R2++Q):=by simp
  have hj:(P.length:Int)+(((S++[y]).length:Nat):Int)=(P.length:Int)+(S.length:Int)+1:=by rw[bd4,cJ4];omega
  have hb:aj1 a g ((P.length:Int)+(((S++[y]).length:Nat):Int),P++(S++[y]++x::(R2++Q)))=some (bif ltM g x y then .inl ((P.length:Int)+(S.length:Int),P++(S++x::(y::R2++Q)))else .inr (.inl ((P.length:Int)+(S.length:Int)+1,P++(S++[y]++x::(R2++Q))))):=by
   unfold aj1
   simp only
   rw[hj,j4 (n:=(P.length:Int)+(S.length:Int)+1-1) (by omega) (by omega),show(P.length:Int)+(S.length:Int)+1-1=(P.length:Int)+(S.length:Int) by omega]
   rw[show decide ((P.length:Int)+(S.length:Int)+1>a)=true from fk8 (by omega)]
   have g1:E0 (P++(S++[y]++x::(R2++Q))) ((P.length:Int)+(S.length:Int)+1)=some x:=by rw[e2];exact cm6 _ _ _ (by simp only[bd4,cJ4];omega)
   have g2:E0 (P++(S++[y]++x::(R2++Q))) ((P.length:Int)+(S.length:Int))=some y:=by rw[e1];exact cm6 _ _ _ (by simp only[bd4];omega)
   have sw:=fj6 (P++S) y x (R2++Q) (i:=(P.length:Int)+(S.length:Int)) (j:=(P.length:Int)+(S.length:Int)+1) (by simp only[bd4];omega) (by simp only[bd4];omega) (fun(f2:List α)=>some (Sum.inl ((P.length:Int)+(S.length:Int),f2):(Int×List α)⊕((Int×List α)⊕Empty)))
   rw[<-e1]at sw
   simp only[fk7]
   rw[sw,g1,aF2,g2,aF2,hc,aF2,hcl,aF2]
   cases ltM g x y
   ·rfl
   ·simp
  cases hxy:ltM g x y
  ·rw[hxy]at hb
   refine⟨(P.length:Int)+(S.length:Int)+1,S++[y]++x::R2,?_,?_,Sta.refl _⟩
   ·rw[E6 hb];simp
   ·have h2:=eX4.1 hsrt
    refine Srt.app h2.1 ?_ fun p hp q hq=>?_
    ·rw[Srt,ej0]
     exact⟨fun r hr=>hs.asym x r hx (hR2 r hr) (hlt r hr),h2.2.1⟩
    ·rcases ca1.1 hq with rfl|hq
     ·rcases List.mem_append.1 hp with hp|hp
      ·have h3:=(eX4.1 h2.1).2.2 p hp y (by simp)
       exact hs.ntrans q y p hx hy (hS p hp) hxy h3
      ·rw[List.mem_singleton]at hp;subst hp;exact hxy
     ·exact h2.2.2 p hp q hq
  ·rw[hxy]at hb
   rw[H3 hb]
   obtain⟨j,R',r1,r2,r3⟩:=ih S (by omega) P x (y::R2) Q ha hS hx (fun z hz=>by rcases ca1.1 hz with rfl|hz;exact hy;exact hR2 z hz) (by simpa using hsrt) (fun r hr=>by
    rcases ca1.1 hr with rfl|hr
    ·exact hxy
    ·exact hlt r hr) (by omega)
   refine⟨j,R',r1,r2,Sta.trans ?_ r3⟩
   have h4:Sta D g ([y]++[x]) ([x]++[y]):=Sta.swap hs (fun z hz=>by simp at hz;subst hz;exact hy) (fun z hz=>by simp at hz;subst hz;exact hx) (fun p hp q hq=>by simp at hp hq;subst hp;subst hq;exact hxy)
   have h5:=Sta.app (Sta.refl (D:=D) (g:=g) S) (Sta.app h4 (Sta.refl R2))
   simpa using h5
def de9 (hs:SW D g)(a b:Int)(P Q:List α)(ha:a=(P.length:Int)):∀(T R:List α),b=(P.length:Int)+(R.length:Int)+(T.length:Int)->bM4 D R->bM4 D T->Srt g R->P.length+R.length+T.length<=1073741824->
  ∃R',L8 (aa4 a b g) ((P.length:Int)+(R.length:Int),P++(R++(T++Q)))=some (.inl (b,P++(R'++Q)))/\Srt g R'/\Sta D g (R++T) R'
 |[],R,hb,_,_,hR,_=>by
  grind [E6,Sta.refl,aa4]
 |x::T,R,hb,dR,dT,hR,hN=>by
  simp only[bu9]at hb hN
  obtain⟨j,R1,r1,r2,r3⟩:=ea5 hs a R.length R rfl P x [] (T++Q) ha dR (dT x (cq1 ..)) (fun z hz=>by cases hz) (by grind) (fun z hz=>by cases hz) (by omega)
  have hl:R1.length=R.length+1:=by have:=r3.len;grind
  obtain⟨R',s1,s2,s3⟩:=de9 hs a b P Q ha T R1 (by omega) (r3.all (fun z hz=>by
   grind)) (fun z hz=>dT z (by simp[hz])) r2 (by omega)
  refine⟨R',?_,s2,Sta.trans ?_ s3⟩
  ·rw[<-s1]
   refine H3 ?_
   unfold aa4
   simp only
   rw[show decide ((P.length:Int)+(R.length:Int)<b)=true from fk8 (by omega),j4 (n:=(P.length:Int)+(R.length:Int)+1) (by omega) (by omega)]
   simp only[fk7]
   have e:P++(R++(x::T++Q))=P++(R++x::([]++(T++Q))):=by simp
   rw[e,r1]
   simp only[aF2]
   rw[hl,show(P.length:Int)+((R.length+1:Nat):Int)=(P.length:Int)+(R.length:Int)+1 by omega]
  grind [Sta.app,Sta.refl]
def dm7 (hs:SW D g)(P A Q:List α){a b:Int}(ha:a=(P.length:Int))(hb:b=(P.length:Int)+(A.length:Int))(dA:bM4 D A)(hN:P.length+A.length<=1073741824):
  ∃R,ai5 (P++(A++Q)) a b g=some (P++(R++Q))/\Srt g R/\Sta D g A R:=by
 unfold ai5
 rw[j4 (n:=a+1) (by omega) (by omega)]
 cases A with
 |nil=>
  refine⟨[],?_,.nil,Sta.refl _⟩
  simp only[cJ8]at hb
  have:aa4 a b g (a+1,P++([]++Q))=some (.inr (.inl (a+1,P++([]++Q)))):=by
   grind [aa4]
  rw[E6 this];rfl
 |cons x T=>
  simp only[bu9]at hb hN
  obtain⟨R',s1,s2,s3⟩:=de9 hs a b P Q ha T [x] (by grind) (fun z hz=>by grind) (fun z hz=>dA z (by simp[hz])) (by simp) (by grind)
  simp_all
end
section
variable {α:Type} {D:α -> Prop} {g:α -> α -> Option Int}
end
section
variable {α:Type} {D:α -> Prop} {g:α -> α -> Option Int}
end
section
variable {α:Type} {D:α -> Prop} {g:α -> α -> Option Int}
structure fr9 (D:α->Prop)(g:α->α->Option Int)(bs:Nat)(L:List α)(Bs:List (List α))(T:List α):Prop where
 eq:L=Bs.flatten++T
 blk:∀B∈Bs,B.length=bs/\Srt g B
 rest:T.length<bs
theorem bW9 (hs:SW D g)(l:List α)(dl:bM4 D l)(h19:l.length<=19):∃r,aU9 l g=some r/\Srt g r/\Sta D g l r:=by
 obtain⟨R,r1,r2,r3⟩:=dm7 hs [] l [] (a:=0) (b:=(l.length:Int)) rfl (by simp) dl (by simp;omega)
 simp only[dq6,cZ2]at r1
 unfold aU9 bp8
 have h1:decide ((20:Int)<=(l.length:Int))=false:=by simp;omega
 have h2:decide ((20:Int)<(l.length:Int))=false:=by simp;omega
 rw[E6 (b:=.inl (0,20,l)) (by unfold bb3;rw[h1];rfl)]
 simp only[aF2]
 rw[r1]
 simp only[aF2]
 rw[E6 (b:=.inl (20,R)) (by unfold bb4;rw[h2];rfl)]
 exact⟨R,rfl,r2,r3⟩
theorem dC2 (hs:SW D g):∀{r s:List α},bM4 D r->bM4 D s->Srt g r->Srt g s->(∀x,D x->r.filter (eqv g x)=s.filter (eqv g x))->r=s
 |[],[],_,_,_,_,_=>rfl
 |[],y::s,_,ds,_,_,h=>by
  have dy:=ds y (by simp)
  have:=h y dy
  rw[eS3,dS0 (by unfold eqv;rw[hs.irr dy];rfl)]at this
  cases this
 |x::r,[],dr,_,_,_,h=>by
  have dx:=dr x (by simp)
  have:=h x dx
  rw[eS3,dS0 (by unfold eqv;rw[hs.irr dx];rfl)]at this
  cases this
 |x::r,y::s,dr,ds,sr,ss,h=>by
  have dx:=dr x (by simp)
  have dy:=ds y (by simp)
  have exx:eqv g x x=true:=by unfold eqv;rw[hs.irr dx];rfl
  have eyy:eqv g y y=true:=by unfold eqv;rw[hs.irr dy];rfl
  rw[Srt,ej0]at sr ss
  have hx:=h x dx
  have hy:=h y dy
  have mx:x∈(y::s).filter (eqv g x):=by grind
  have my:y∈(x::r).filter (eqv g y):=by grind
  have m1:=(dE3.1 mx).1
  have m2:=(dE3.1 my).1
  have exy:eqv g x y=true:=by
   have a1:ltM g x y=false:=by
    rcases ca1.1 m1 with e|m1
    ·rw[e];exact hs.irr dy
    ·exact ss.1 x m1
   have a2:ltM g y x=false:=by
    rcases ca1.1 m2 with e|m2
    ·rw[e];exact hs.irr dx
    ·exact sr.1 y m2
   unfold eqv;rw[a1,a2];rfl
  have hxy:x=y:=by
   rw[dS0 exx,dS0 exy]at hx
   exact(List.cons.inj hx).1
  subst hxy
  rw[dC2 hs (fun z hz=>dr z (by simp[hz])) (fun z hz=>ds z (by simp[hz])) sr.2 ss.2 fun z dz=>by
   have:=h z dz
   rw[List.filter_cons,List.filter_cons]at this
   split at this
   ·exact(List.cons.inj this).2
   ·exact this]
end
def elB (n:Int):Bool:=decide (n>= -1073741824)&&decide (n<=1073741824)
theorem cO8 (n:Int):ac7 n=some (elB n):=rfl
def axP (l:List Int)(i:Nat):Bool:=match l[i]?with
 |none=>false
 |some x=>elB x&&(i==0||(match l[i-1]?with|none=>false|some y=>decide (y<x)))
def axB (l:List Int):Bool:=!(decide ((l.length:Int)<2)||decide ((l.length:Int)>32))&&(dI4 0 l.length).all (axP l)
theorem eC0 (k:Nat)(h:k<1000000):j5 (((k+1:Nat):Int)-1)=(k:Int):=by rw[j4 (by omega) (by omega)];omega
theorem obs {α:Type}(o:Option α):(o.bind fun b=>some b)=o:=by cases o<;>rfl
def dX4 (l:List Int)(j:Nat)(hj:j<l.length)(hl:l.length<=32):
  (ak4 (E0 l j) fun x=>ak4 (ac7 x) fun v=>ak4 (bif (!v)then(some true)else(ak4 (bif (decide ((j:Int)>0))then(ak4 (E0 l (j5 (j-1))) fun x2=>some (decide (x<=x2)))else(some false)) fun b2=>some b2)) fun b3=>some b3)=some (!axP l j):=by
 rw[U4,aX4 hj]
 simp only[aF2,cO8]
 unfold axP
 rw[aX4 hj]
 simp only
 cases elB l[j]
 ·rfl
 ·simp only[aX5,fk6,cA6]
  cases j with
  |zero=>rfl
  |succ k=>
   have e:decide (((k+1:Nat):Int)>0)=true:=by rw[fl2];omega
   have hk:k<l.length:=by omega
   rw[e,eC0 k (by omega),U4,aX4 hk]
   simp only[fk7,aF2,fk0,aX4 hk,aI6]
   rw[dq3]
   simp
theorem dO8 (l:List Int):ar8 l=some (axB l):=by
 unfold ar8 axB
 cases h:(decide ((l.length:Int)<2)||decide ((l.length:Int)>32))
 ·have hl:l.length<=32:=by simp at h;omega
  have k:=bx6 (f:=ay8 l) (p:=axP l) (r:=false) l.length 0 (fun j _ hj=>by
   have s:=dX4 l j (by omega) hl
   unfold ay8
   rw[U4,aX4 (by omega)]at s|-
   simp only[aF2,cO8]at s|-
   simp only[obs]at s|-
   rw[s]
   cases axP l j<;>rfl)
  rw[am4 _ (by omega)]
  rw[show((0:Nat):Int)=0 from rfl]at k
  rw[k]
  cases(dI4 0 l.length).all (axP l)<;>rfl
 ·rfl
def eg8 (z:Int):ai2 z=some (!elB z):=rfl
theorem contains_eq (l:List Int)(hn:l.length<=9223372036854775807):o6 l ai2=some (l.any fun z=>!elB z):=
 ai7 l hn ai2 _ (fun y _=>eg8 y)
def aK2 (m:SMap)(x:List Int):Bool:=!((x.length:Int) !=(m.Y.length:Int))&& !(x.any fun z=>!elB z)
def bp9 (m:SMap):Bool:=axB m.X&&axB m.Y&& !((m.Z.length:Int) !=(m.X.length:Int))&&m.Z.all (aK2 m)
def cH5 {l:List Int}(h:axB l=true):2<=l.length/\l.length<=32:=by
 unfold axB at h
 simp at h
 omega
theorem ao7 (m:SMap):J6 m=some (bp9 m):=by
 unfold J6 bp9
 rw[dO8,dO8]
 simp only[aF2]
 cases h1:axB m.X
 ·rfl
 ·cases h2:axB m.Y
  ·rfl
  ·have l1:=cH5 h1
   have l2:=cH5 h2
   simp only[aX5,fk6,aF2,ec6,eS9,cA6]
   cases h3:((m.Z.length:Int) !=(m.X.length:Int))
   ·have l3:m.Z.length=m.X.length:=by simp at h3;omega
    rw[L0 _ (by omega),bK9 (p:=aK2 m) (r:=false)]
    ·simp only[fk6,cr8,cA6,aF2]
     cases m.Z.all (aK2 m)<;>rfl
    ·intro i y hy
     unfold aC6 aK2
     cases h4:((y.length:Int) !=(m.Y.length:Int))
     ·have l4:y.length=m.Y.length:=by simp at h4;omega
      rw[contains_eq y (by omega)]
      simp only[fk6,aF2,cr8,cA6]
      cases(y.any fun z=>!elB z)<;>rfl
     ·rfl
   ·rfl
structure bA6 (l:List Int):Prop where
 two:2<=l.length
 most:l.length<=32
 el:∀i (h:i<l.length),-1073741824<=l[i]/\l[i]<=1073741824
 asc:∀i (h:i+1<l.length),l[i]<l[i+1]
def cH6 {l:List Int}(h:axB l=true):bA6 l:=by
 obtain⟨h2,h3⟩:=cH5 h
 unfold axB at h
 rw[aK5,bt1]at h
 have hp:∀i (hi:i<l.length),axP l i=true:=fun i hi=>h.2 i (by rw[eN3];exact⟨i,hi,by omega⟩)
 refine⟨h2,h3,fun i hi=>?_,fun i hi=>?_⟩
 ·have:=hp i hi
  unfold axP at this
  rw[aX4 hi]at this
  simp[elB]at this
  omega
 ·have:=hp (i+1) hi
  unfold axP at this
  rw[aX4 hi,fk0,aX4 (by omega:i<l.length)]at this
  simp at this
  exact this.2
def bA6.lt {l:List Int}(h:bA6 l):∀(j i:Nat) (hj:j<l.length) (hi:i<j),l[i]<l[j]
 |0,_,_,hi=>absurd hi (by omega)
 |j+1,i,hj,hi=>by
  rcases cZ9 i j with h1|h1
  ·exact Int.lt_trans (h.lt j i (by omega) h1) (h.asc j hj)
  ·have:i=j:=by omega
   subst this
   exact h.asc i hj
def bA6.le {l:List Int}(h:bA6 l)(j i:Nat)(hj:j<l.length)(hi:i<=j):l[i]<=l[j]:=by
 rcases cZ9 i j with h1|h1
 ·exact Int.le_of_lt (h.lt j i hj h1)
 ·have:i=j:=by omega
  subst this
  exact dj2 _
def lim (l:List Int)(x:Int):Int:=min (max x (l.headD 0)) (l.getLastD 0)
theorem bF2 (l:List Int)(h:0<l.length):l.headD 0=l[0]:=by cases l with
 |nil=>simp at h
 |cons a l=>rfl
theorem bf6 (l:List Int)(h:0<l.length):l.getLastD 0=l[l.length-1]:=by
 cases l with
 |nil=>simp at h
 |cons a l=>rw[List.getLastD_cons,<-List.getLast_eq_getElem (List.cons_ne_nil a l),List.getLast_eq_getLastD]
def dK1 {l:List Int}(h:bA6 l)(x:Int):l.headD 0<=lim l x/\lim l x<=l.getLastD 0:=by
 have h2:=h.two
 have:=h.le (l.length-1) 0 (by omega) (by omega)
 unfold lim
 rw[bF2 l (by omega),bf6 l (by omega)]
 omega
def bm4 (l:List Int)(v:Int)(i:Nat):Prop:=∃h:i+1<l.length,l[i]<=v/\v<=l[i+1]/\(i+2=l.length\/v<l[i+1])
def nd (l:List Int)(i:Nat):Int:=l.getD i 0
def zz (m:SMap)(i j:Nat):Int:=(m.Z.getD i []).getD j 0
theorem N8 {l:List Int}{i:Nat}(h:i<l.length):nd l i=l[i]:=by unfold nd;rw[cY4,aX4 h];rfl
theorem bV1 {m:SMap}{i j:Nat}(h:i<m.Z.length)(h2:j<m.Z[i].length):zz m i j=m.Z[i][j]:=by
 unfold zz
 have e:m.Z.getD i []=m.Z[i]:=by rw[cY4,aX4 h];rfl
 rw[e,cY4,aX4 h2];rfl
structure da5 (m:SMap):Prop where
 x:bA6 m.X
 y:bA6 m.Y
 zl:m.Z.length=m.X.length
 rl:∀i (h:i<m.Z.length),m.Z[i].length=m.Y.length
 el:∀i j,i<m.X.length->j<m.Y.length-> -1073741824<=zz m i j/\zz m i j<=1073741824
def bZ6 {m:SMap}(h:bp9 m=true):da5 m:=by
 unfold bp9 at h
 simp only[aK5,bG5,bt1]at h
 obtain⟨⟨⟨hx,hy⟩,hz⟩,hr⟩:=h
 have lz:m.Z.length=m.X.length:=by simp at hz;omega
 have len:∀r∈m.Z,r.length=m.Y.length/\∀z∈r,-1073741824<=z/\z<=1073741824:=by
  intro r hrm
  have:=hr r hrm
  unfold aK2 at this
  simp[elB]at this
  refine⟨by omega,fun z hz=>?_⟩
  have:=this.2 z hz
  omega
 refine⟨cH6 hx,cH6 hy,lz,fun i hi=>(len _ (bf3 hi)).1,fun i j hi hj=>?_⟩
 have hiz:i<m.Z.length:=by omega
 have:=len _ (bf3 hiz)
 have hj':j<m.Z[i].length:=by omega
 rw[bV1 hiz hj']
 exact this.2 _ (bf3 hj')
theorem dO7 {l:List Int}:axB l=true↔bA6 l:=by
 refine⟨cH6,fun h=>?_⟩
 have h2:=h.two
 have h3:=h.most
 unfold axB
 rw[aK5,bt1]
 refine⟨by simp;omega,fun i hi=>?_⟩
 rw[eN3]at hi
 obtain⟨j,hj,rfl⟩:=hi
 have hj':0+1*j=j:=by omega
 rw[hj']
 unfold axP
 rw[aX4 hj]
 have e:=h.el j hj
 cases j with
 |zero=>simp[elB];omega
 |succ k=>
  have a:=h.asc k hj
  rw[fk0,aX4 (by omega:k<l.length)]
  simp[elB];omega
def bc2 {a b:Bool}(h:a=true↔b=true):a=b:=dq3.2 h
theorem aq0 (l:List Int)(hn:l.length<=9223372036854775807)(f:Int->Option Bool)(p:Int->Bool)(h:∀y∈l,f y=some (p y)):o6 l f=some (l.any p):=
 ai7 l hn f p h
theorem ep2 (n:Int):aC0 n=some (!elB n):=by
 unfold aC0 elB
 rw[aI6,dq3]
 simp only[cH4,bG5,eD7,fl2,fl3]
 omega
theorem el8 (l:List Int):aM4 l=some (axB l):=by
 unfold aM4
 cases h:(decide ((l.length:Int)<2)||decide ((l.length:Int)>32))
 ·have hl:2<=l.length/\l.length<=32:=by simp at h;omega
  rw[fk6,aq0 l (by omega) aC0 _ (fun y _=>ep2 y)]
  simp only[aF2]
  cases hf:(l.any fun n=>!elB n)
  ·have bN4:∀i (hi:i<l.length),-1073741824<=l[i]/\l[i]<=1073741824:=fun i hi=>by
    rw[dE4]at hf
    have:=hf _ (bf3 hi)
    simp[elB]at this
    omega
   have e:j5 ((l.length:Int)-1)=((l.length-1:Nat):Int):=by rw[j4 (by omega) (by omega)];omega
   have k:=bx6 (f:=aH3 l) (p:=fun j=>decide (nd l j<nd l (j+1))) (r:=false) (l.length-1) 0 (fun j _ hj=>by
    unfold aH3
    rw[j4 (by omega) (by omega),show(j:Int)+1=((j+1:Nat):Int)from rfl,D1 l j (by omega),aF2,D1 l (j+1) (by omega),aF2,N8 (by omega),N8 (by omega)]
    by_cases q:l[j]<l[j+1]
    ·rw[fk8 q,fk9 (by omega)];rfl
    ·rw[fk9 q,fk8 (by omega)];rfl)
   rw[show((0:Nat):Int)=0 from rfl]at k
   rw[fk6,e,am4 _ (by omega),k]
   have:((dI4 0 (l.length-1)).all fun j=>decide (nd l j<nd l (j+1)))=axB l:=by
    apply bc2
    rw[dO7,bt1]
    constructor
    ·intro q
     refine⟨hl.1,hl.2,bN4,fun i hi=>?_⟩
     have:=q i (by rw[eN3];exact⟨i,by omega,by omega⟩)
     rw[fl2,N8 (by omega),N8 hi]at this
     exact this
    ·intro q i hi
     rw[eN3]at hi
     obtain⟨j,hj,rfl⟩:=hi
     rw[show 0+1*j=j by omega,fl2,N8 (by omega),N8 (by omega)]
     exact q.asc j (by omega)
   rw[this]
   cases axB l<;>rfl
  ·have:axB l=false:=by
    cases q:axB l
    ·rfl
    ·have:=(dO7.1 q).el
     rw[List.any_eq_true]at hf
     obtain⟨z,hz,hz2⟩:=hf
     obtain⟨i,hi,rfl⟩:=cW9.1 hz
     have:=this i hi
     simp[elB]at hz2
     omega
   rw[this]
   rfl
 ·unfold axB
  rw[h]
  rfl
def by4 (c:Q4):Bool:=((c.X.length:Int)==(c.Y.length:Int))&&axB c.X&& !(c.Y.any fun n=>!elB n)
theorem aq2 (c:Q4):P7 c=some (by4 c):=by
 unfold P7 by4
 cases h:((c.X.length:Int)==(c.Y.length:Int))
 ·rfl
 ·rw[fk7,el8]
  simp only[aF2,cA6]
  cases h2:axB c.X
  ·rfl
  ·have:=cH5 h2
   have hl:c.Y.length=c.X.length:=by simp at h;omega
   rw[fk7,aq0 c.Y (by omega) aC0 _ (fun y _=>ep2 y)]
   rfl
structure dO3 (c:Q4):Prop where
 x:bA6 c.X
 yl:c.Y.length=c.X.length
 el:∀i,i<c.X.length-> -1073741824<=nd c.Y i/\nd c.Y i<=1073741824
def bn2 {c:Q4}(h:by4 c=true):dO3 c:=by
 unfold by4 at h
 simp only[aK5,bG5,dE4]at h
 obtain⟨⟨h1,h2⟩,h3⟩:=h
 have hl:c.Y.length=c.X.length:=by simp at h1;omega
 refine⟨cH6 h2,hl,fun i hi=>?_⟩
 rw[N8 (by omega)]
 have:=h3 _ (bf3 (by omega:i<c.Y.length))
 simp[elB]at this
 omega
def cO3 {mb:Int->Option (Int⊕(Int⊕Bool))}(bad:Nat->Bool):∀(k:Nat),(∀i:Nat,i<k->mb ((i+1:Nat):Int)=some (bif bad i then .inr (.inr false)else .inl (i:Int)))->(∀i:Int,i<=0->mb i=some (.inr (.inl i)))->
  ∃t:Int⊕Bool,L8 mb (k:Int)=some t/\(match t with| .inl _=>∀i,i<k->bad i=false| .inr r=>r=false/\∃i,i<k/\bad i=true)
 |0,_,h0=>⟨.inl 0,E6 (h0 0 (dj2 _)),fun i hi=>absurd hi (by omega)⟩
 |k+1,h,h0=>by
  have h1:=h k (by omega)
  cases hb:bad k
  ·rw[hb]at h1
   obtain⟨t,a,b⟩:=cO3 bad k (fun i hi=>h i (by omega)) h0
   refine⟨t,by rw[H3 h1];exact a,?_⟩
   cases t with
   |inl i=>
    exact fun i hi=>by
     rcases cZ9 i k with q|q
     ·exact b i q
     ·have:i=k:=by omega
      subst this;exact hb
   |inr r=>exact⟨b.1,b.2.imp fun i hi=>⟨by omega,hi.2⟩⟩
  ·rw[hb]at h1
   exact⟨.inr false,E6 h1,rfl,k,by omega,hb⟩
def cD7 (l:List Int):Bool:=(dI4 0 (l.length-1)).all fun j=>decide (nd l j<=nd l (j+1))
def cA4 (l:List Int):Bool:=(dI4 0 (l.length-1)).all fun j=>decide (nd l (j+1)<=nd l j)
def bk0 {n:Nat}{p:Nat->Bool}:(dI4 0 n).all p=true↔∀i,i<n->p i=true:=by
 rw[bt1]
 constructor
 ·exact fun h i hi=>h i (by rw[eN3];exact⟨i,hi,by omega⟩)
 ·intro h i hi
  rw[eN3]at hi
  obtain⟨j,hj,rfl⟩:=hi
  rw[show 0+1*j=j by omega]
  exact h j hj
theorem cT1 {l:List Int}(h:l.length<=9223372036854775807)(h0:0<l.length):j5 ((l.length:Int)-1)=((l.length-1:Nat):Int):=by rw[j4 (by omega) (by omega)];omega
theorem cB8 (l:List Int)(h:l.length<=9223372036854775807):P9 l=some (cD7 l):=by
 have h0:∀i:Int,i<=0->R3 l i=some (.inr (.inl i)):=fun i hi=>by
  unfold R3
  rw[fk9 (by omega)];rfl
 unfold P9
 rcases dU4 l.length with hz|hz
 ·have e:j5 ((l.length:Int)-1)= -1:=by rw[hz];decide
  rw[e,E6 (h0 (-1) (by omega))]
  unfold cD7
  rw[hz];rfl
 ·rw[cT1 h hz]
  obtain⟨t,a,b⟩:=cO3 (mb:=R3 l) (fun i=>decide (nd l (i+1)<nd l i)) (l.length-1) (fun i hi=>by
   unfold R3
   rw[fk8 (by omega),fk7,D1 l (i+1) (by omega),aF2,j4 (by omega) (by omega),show((i+1:Nat):Int)-1=(i:Int) by omega,D1 l i (by omega),aF2,N8 (by omega),N8 (by omega)]
   have e:cmp_Less_int l[i+1] l[i]=some (decide (l[i+1]<l[i])):=by
    unfold cmp_Less_int cmp_isNaN_int
    simp
   rw[e,aF2]
   cases decide (l[i+1]<l[i])<;>rfl) h0
  rw[a]
  cases t with
  |inl i=>
   have:cD7 l=true:=bk0.2 fun i hi=>by
    have:=b i hi
    rw[fl3]at this
    rw[fl2];omega
   rw[this];rfl
  |inr r=>
   obtain⟨rfl,i,hi,q⟩:=b
   have:cD7 l=false:=by
    cases z:cD7 l
    ·rfl
    ·have:=bk0.1 z i hi
     rw[fl2]at this q
     omega
   rw[this];rfl
theorem df0 (l:List Int)(h:l.length<=9223372036854775807)(hb:∀i,i<l.length-> -1073741824<=nd l i/\nd l i<=1073741824):I3 l ac8=some (cA4 l):=by
 have h0:∀i:Int,i<=0->M1 l ac8 i=some (.inr (.inl i)):=fun i hi=>by
  unfold M1
  rw[fk9 (by omega)];rfl
 unfold I3
 rcases dU4 l.length with hz|hz
 ·have e:j5 ((l.length:Int)-1)= -1:=by rw[hz];decide
  rw[e,E6 (h0 (-1) (by omega))]
  unfold cA4
  rw[hz];rfl
 ·rw[cT1 h hz]
  obtain⟨t,a,b⟩:=cO3 (mb:=M1 l ac8) (fun i=>decide (nd l i<nd l (i+1))) (l.length-1) (fun i hi=>by
   unfold M1
   rw[fk8 (by omega),fk7,D1 l (i+1) (by omega),aF2,j4 (by omega) (by omega),show((i+1:Nat):Int)-1=(i:Int) by omega,D1 l i (by omega),aF2,<-N8 (by omega),<-N8 (by omega)]
   have b1:=hb i (by omega)
   have b2:=hb (i+1) (by omega)
   have e:ac8 (nd l (i+1)) (nd l i)=some (nd l i-nd l (i+1)):=by
    unfold ac8
    rw[j4 (by omega) (by omega)]
   rw[e,aF2]
   by_cases q:nd l i<nd l (i+1)
   ·rw[fk8 q,fk8 (by omega)];rfl
   ·rw[fk9 q,fk9 (by omega)];rfl) h0
  rw[a]
  cases t with
  |inl i=>
   have:cA4 l=true:=bk0.2 fun i hi=>by
    have:=b i hi
    rw[fl3]at this
    rw[fl2];omega
   rw[this];rfl
  |inr r=>
   obtain⟨rfl,i,hi,q⟩:=b
   have:cA4 l=false:=by
    cases z:cA4 l
    ·rfl
    ·have:=bk0.1 z i hi
     rw[fl2]at this q
     omega
   rw[this];rfl
def inR (lo hi x:Int):Bool:=decide (x>=lo)&&decide (x<=hi)
theorem cS5 (l:List Int)(h:l.length<=9223372036854775807)(lo hi:Int):ah7 l lo hi=some (!l.all (inR lo hi)):=by
 unfold ah7
 rw[aq0 l h (fun x0=>ao6 x0 lo hi) (fun x=>!inR lo hi x) (fun y _=>rfl)]
 have:(l.any fun x=>!inR lo hi x)= !l.all (inR lo hi):=by rw[dE7];simp
 rw[this];rfl
def aZ3 (t:o7):Bool:=bp9 t.o9&&by4 t.C7&&t.C7.Y.all (inR 0 1000)&&cA4 t.C7.Y&&t.o9.Z.all fun r=>r.all (inR 0 10000)&&cD7 r
theorem bq3 (t:o7):ai9 t=some (aZ3 t):=by
 unfold ai9 aZ3
 rw[ao7]
 cases h1:bp9 t.o9
 ·rfl
 ·have hm:=bZ6 h1
  simp only[aF2,aX5,fk6,cA6,aq2]
  cases h2:by4 t.C7
  ·rfl
  ·have hc:=bn2 h2
   have l1:=hc.x.most
   have l2:=hc.yl
   simp only[aF2,aX5,fk6,cA6]
   rw[cS5 _ (by omega)]
   cases h3:t.C7.Y.all (inR 0 1000)
   ·rfl
   ·simp only[aF2,aX5,fk6,cA6]
    rw[df0 _ (by omega) (fun i hi=>hc.el i (by omega))]
    cases h4:cA4 t.C7.Y
    ·rfl
    ·simp only[aF2,aX5,fk6,cA6]
     have k:G2 t.o9.Z al7=some (t.o9.Z.any fun r=>!(r.all (inR 0 10000)&&cD7 r)):=
      ai7 t.o9.Z (by have:=hm.zl;have:=hm.x.most;omega) al7 _ (fun r hr=>by
       obtain⟨i,hi,rfl⟩:=cW9.1 hr
       have lr:t.o9.Z[i].length<=32:=by rw[hm.rl i hi];exact hm.y.most
       unfold al7
       rw[cS5 _ (by omega),aF2,cB8 _ (by omega)]
       cases t.o9.Z[i].all (inR 0 10000)<;>cases cD7 t.o9.Z[i]<;>rfl)
     rw[k,aF2,dE7]
     simp
def dG3 {l : List Int} (h : cD7 l = true) : ∀ (j i : Nat), i <= j -> j < l.length -> nd l i <= nd l j
  | 0, i, hi, _ => by have : i = 0 := by omega
                      subst this; exact dj2 _
  | j + 1, i, hi, hj => by
    rcases cZ9 i (j + 1) with q | q
    · have a := dG3 h j i (by omega) (by omega)
      have b := bk0.1 h j (by omega)
      rw [fl2] at b
      omega
    · have : i = j + 1 := by omega
      subst this; exact dj2 _
def cK5 (r:List Int):Bool:=r.all (inR 0 1048576)&&cD7 r
def cX2 (t:o7):Bool:=bp9 t.Air&&by4 t.M0&&t.Air.Z.all cK5&&t.M0.Y.all (inR 100 3000)
theorem ag0 (x lo hi:Int):I7 x lo hi=some (inR lo hi x):=rfl
theorem dr5 {r:List Int}(h0:0<r.length)(ha:cD7 r=true):(inR 0 1048576 (nd r 0)&&inR 0 1048576 (nd r (r.length-1)))=r.all (inR 0 1048576):=by
 apply bc2
 rw[aK5,bt1]
 unfold inR
 constructor
 ·rintro⟨a,b⟩ x hx
  obtain⟨i,hi,rfl⟩:=cW9.1 hx
  have u:=dG3 ha i 0 (by omega) hi
  have v:=dG3 ha (r.length-1) i (by omega) (by omega)
  rw[N8 hi]at u v
  rw[aK5,fl2,fl2]at*
  omega
 ·intro h
  rw[N8 h0,N8 (by omega:r.length-1<r.length)]
  exact⟨h _ (bf3 _),h _ (bf3 _)⟩
theorem bH2 (t:o7):aB7 t=some (cX2 t):=by
 unfold aB7 cX2
 rw[ao7]
 cases h1:bp9 t.Air
 ·rfl
 ·have hm:=bZ6 h1
  simp only[aF2,aX5,fk6,cA6,aq2]
  cases h2:by4 t.M0
  ·rfl
  ·have hc:=bn2 h2
   have l1:=hc.x.most
   have l2:=hc.yl
   have zl:=hm.zl
   have xm:=hm.x.most
   have ym:=hm.y.most
   have y2:=hm.y.two
   simp only[aF2,aX5,fk6,cA6]
   rw[L0 _ (by omega),bK9 (p:=cK5) (r:=false)]
   ·cases h3:t.Air.Z.all cK5
    ·rfl
    ·rw[fk7,aF2]
     simp only
     rw[aq0 _ (by omega) aL0 (fun y=>!inR 100 3000 y) (fun y _=>rfl),aF2,dE7,eH7]
     simp only[eH7,cA6]
   ·intro i r hr
    obtain⟨k,hk,rfl⟩:=cW9.1 hr
    have rl:=hm.rl k hk
    unfold aT5 cK5
    rw[cB8 _ (by omega),aF2]
    cases h4:cD7 t.Air.Z[k]
    ·rw[eP0];rfl
    ·have g0:E0 t.Air.Z[k] 0=some (t.Air.Z[k][0]'(by omega)):=D1 _ 0 (by omega)
     rw[aX5,fk6,eS9,g0,cT1 (by omega) (by omega),D1 _ _ (by omega:t.Air.Z[k].length-1<t.Air.Z[k].length),<-N8,<-N8,<-dr5 (by omega) h4]
     simp only[aF2,ag0]
     cases inR 0 1048576 (nd t.Air.Z[k] 0)<;>cases inR 0 1048576 (nd t.Air.Z[k] (t.Air.Z[k].length-1))<;>rfl
def bK7 (t:o7):Bool:=bp9 t.O2&&by4 t.af6&&(t.O2.Z.all fun r=>r.all (inR (-1280) 3840))&&t.af6.Y.all (inR 500 10000)
def cB3 (g:aW0):Bool:=((((((decide (g.P>=0))&&(decide (g.P<=65536)))&&(decide (g.I>=0)))&&(decide (g.I<=65536)))&&(decide (g.Low>=(-1073741824))))&&(decide (g.Low<=g.bt7)))&&(decide (g.bt7<=1073741824))
def cd7 (t:o7):Bool:=cX2 t&&bK7 t&&aZ3 t&&(by4 t.aw6&&t.aw6.Y.all (inR 0 10000))&&bp9 t.aI4&&cB3 t.af5
theorem be8 (l:List Int)(h:l.length<=9223372036854775807)(lo hi:Int):ag3 l lo hi=some (l.all (inR lo hi)):=by
 unfold ag3
 rw[aq0 l h (fun x0=>aA6 x0 lo hi) (fun x=>!inR lo hi x) (fun y _=>rfl),aF2,dE7,eH7]
 simp only[eH7]
theorem bi5 (t:o7):ad0 t=some (cd7 t):=by
 unfold ad0 cd7 bK7
 rw[bH2,bq3,ao7,ao7,aq2,aq2,show Q9 t.af5=some (cB3 t.af5)from rfl]
 simp only[aF2]
 cases cX2 t
 ·rfl
 cases aZ3 t
 ·simp only[aX5,cr8,fk6,fk7,aF2,eP0,eg6]
 cases h1:bp9 t.O2
 ·rfl
 cases bp9 t.aI4
 ·simp only[aX5,cr8,fk6,fk7,aF2,eP0,eg6]
 cases h2:by4 t.af6
 ·rfl
 cases h3:by4 t.aw6
 ·simp only[aX5,cr8,fk6,fk7,aF2,eP0,eg6]
 have hm:=bZ6 h1
 have zl:=hm.zl
 have xm:=hm.x.most
 have ym:=hm.y.most
 have a1:=(bn2 h2).x.most
 have a2:=(bn2 h2).yl
 have b1:=(bn2 h3).x.most
 have b2:=(bn2 h3).yl
 simp only[aX5,cr8,fk6,fk7,aF2,cA6,eS9]
 rw[L0 _ (by omega),bK9 (p:=fun r=>r.all (inR (-1280) 3840)) (r:=false)]
 ·rw[be8 _ (by omega),be8 _ (by omega)]
  cases t.O2.Z.all fun r=>r.all (inR (-1280) 3840)
  ·rfl
  ·cases t.af6.Y.all (inR 500 10000)<;>cases t.aw6.Y.all (inR 0 10000)<;>rfl
 ·intro i r hr
  obtain⟨k,hk,rfl⟩:=cW9.1 hr
  have rl:=hm.rl k hk
  unfold aB9
  rw[be8 _ (by omega),aF2]
  cases t.O2.Z[k].all (inR (-1280) 3840)<;>rfl
def dK4 (v:Bool)(q q':Int)(f:Int->Option (Int×Int))(h:(bif v then some (ba6.wrap (q+1))else some q)=some q')(h0:0<=q')(h1:q'<9223372036854775808):
  (ak4 (some v) fun v4=>ak4 (bif v4 then(some (ba6.wrap (q+1)))else(some q)) fun(q:Int)=>bif (false&&(decide (q<=9223372036854775808)))then f q else(bif ((!false)&&(decide (q<9223372036854775808)))then(some (j5 q,0))else(some (0,9))))=some (q',0):=by
 have e:decide (q'<9223372036854775808)=true:=fk8 h1
 rw[aF2,h,aF2,eg6,fk6,cr8,cA6,e,fk7,j4 (by omega) (by omega)]
theorem bL1 {n:Int}(h0:0<=n)(h1:n<18446744073709551616):ba6.wrap n=n:=by
 unfold IntKind.wrap
 simp only[IntKind.bits,IntKind.signed]
 simp only[show(2:Int)^64=18446744073709551616 from rfl,eg6,Bool.false_eq_true,if_false]
 omega
theorem aD1 (x lo hi:Int):D0 x lo hi=some (F7 (G8 x lo) hi):=rfl
theorem bJ8 (n:Int)(h0: -9223372036854775808<=n)(h1:n<=9223372036854775807):V7 n=some (n.natAbs:Int):=by
 unfold V7
 by_cases h:n<0
 ·simp only[h,decide_true,fk7,aI6]
  rw[j4 (n:=n+1) (by omega) (by omega),j4 (n:=0-(n+1)) (by omega) (by omega),bL1 (n:=0-(n+1)) (by omega) (by omega),bL1 (by omega) (by omega)]
  omega
 ·simp only[h,decide_false,fk6,aI6]
  rw[bL1 (by omega) (by omega)]
  omega
theorem eo0 (lo y:Nat)(h0:lo<18446744073709551616)(h1:0<y):am1 0 lo y=some (((lo/y:Nat):Int),((lo%y:Nat):Int)):=by
 unfold am1
 have e1:((y:Int)==0)=false:=by
  have:¬(y:Int)=0:=by omega
  simpa using this
 have e2:decide ((y:Int)<=0)=false:=by simp;omega
 have e3:¬(y:Int)=0:=by omega
 simp only[e1,e2,fk6,aF2,bo5,cg2,if_neg e3]
 have q1:(lo:Int).tdiv y=((lo/y:Nat):Int):=rfl
 have q2:(lo:Int).tmod y=((lo%y:Nat):Int):=rfl
 have q3:lo/y<=lo:=Nat.div_le_self _ _
 rw[q1,q2]
 generalize lo/y=q at q3|-
 rw[bL1 (by omega) (by omega),show((0:Int)==0)=true from rfl,fk7]
theorem bW5 (a c mode:Int)(ha0: -9223372036854775808<=a)(ha1:a<=9223372036854775807)(hc0:0<c)(hc1:c<=9223372036854775807)(hm:mode=1\/mode=2):
  az5 a 1 c mode=some (if mode=1 then a/c else -((-a)/c),0):=by
 unfold az5
 have m1:((decide (mode<1))||(decide (mode>3)))=false:=by
  rcases hm with rfl|rfl<;>rfl
 have c0:(c==0)=false:=by
  have:¬c=0:=by omega
  simpa using this
 rw[m1,c0,bJ8 a ha0 ha1,bJ8 1 (by omega) (by omega),bJ8 c (by omega) hc1]
 obtain⟨m,hm'⟩:∃m:Nat,a.natAbs=m:=⟨_,rfl⟩
 obtain⟨k,rfl⟩:∃k:Nat,c=k:=⟨c.toNat,by omega⟩
 have hk:0<k:=by omega
 have hml:m<=9223372036854775808:=by omega
 rw[hm']
 simp only[fk6,aF2,as9,cw6]
 rw[if_pos (by omega)]
 simp only[aF2]
 have e1:(m:Int)*((fk1 1:Nat):Int)/18446744073709551616=0:=by
  have:((fk1 1:Nat):Int)=1:=rfl
  rw[this];omega
 have e2:(m:Int)*((fk1 1:Nat):Int)%18446744073709551616=(m:Int):=by
  have:((fk1 1:Nat):Int)=1:=rfl
  rw[this];omega
 have e3:(((fk1 (k:Int)):Nat):Int)=(k:Int):=by omega
 have e4:decide ((0:Int)>=(k:Int))=false:=fk9 (by omega)
 rw[e1,e2,e3,e4,show(0:Int)=0 from rfl,eo0 m k (by omega) hk]
 have q1:m/k<=m:=Nat.div_le_self _ _
 have q2:m%k<k:=Nat.mod_lt _ hk
 have q3:k*(m/k)+m%k=m:=Nat.div_add_mod m k
 generalize m/k=q at q1 q3|-
 generalize m%k=r at q2 q3|-
 have q4:(m:Int)=(q:Int)*(k:Int)+(r:Int):=by rw[<-q3,Int.natCast_add,Int.natCast_mul,Int.mul_comm]
 have hqk:r=0->0<m->0<q:=fun h0 h1=>by
  rcases dU4 q with h|h
  ·rw[h,h0]at q3;omega
  ·exact h
 have hql:0<r->q<9223372036854775808:=fun h0=>by
  rcases cZ9 q 9223372036854775808 with h|h
  ·exact h
  ·have:k*q>=1*9223372036854775808:=Nat.mul_le_mul (by omega) h
   omega
 have hql2:0<r->m<=9223372036854775807->q<9223372036854775807:=fun h0 h1=>by
  rcases cZ9 q 9223372036854775807 with h|h
  ·exact h
  ·have:k*q>=1*9223372036854775807:=Nat.mul_le_mul (by omega) h
   omega
 have e5:decide ((q:Int)>9223372036854775808)=false:=fk9 (by omega)
 simp only[fk6,aF2,e5]
 have d1:decide ((1:Int)<0)=false:=rfl
 have d2:decide ((k:Int)<0)=false:=fk9 (by omega)
 rw[d1,d2]
 have fl0:(m:Int)/(k:Int)=(q:Int):=by
  rw[q4,Int.add_comm,Int.add_mul_ediv_right _ _ (by omega),Int.ediv_eq_zero_of_lt (by omega) (by omega)];omega
 have fl1:(-(m:Int))/(k:Int)=if r=0 then -(q:Int)else -(q:Int)-1:=by
  split
  ·rename_i h
   have:-(m:Int)=(-(q:Int))*(k:Int):=by rw[q4,Int.neg_mul,h];omega
   rw[this,Int.mul_ediv_cancel _ (by omega)]
  ·rename_i h
   have e:-(m:Int)=((k:Int)-(r:Int))+(-(q:Int)-1)*(k:Int):=by
    rw[q4,Int.sub_mul,Int.neg_mul];omega
   rw[e,Int.add_mul_ediv_right _ _ (by omega),Int.ediv_eq_zero_of_lt (by omega) (by omega)];omega
 clear q3 q4
 by_cases hn:a<0
 ·have ha:a= -(m:Int):=by omega
  have e6:decide (a<0)=true:=fk8 hn
  have n1:(!(!true==false)==false)=true:=by decide
  rw[e6,n1]
  rcases hm with rfl|rfl
  · --down,of a negative number
   have r1:ak9 (r:Int) (k:Int) true 1=some (decide ((r:Int)>0)):=rfl
   rw[if_pos rfl,ha,fl1,r1]
   by_cases hr:r=0
   ·have r2:decide ((r:Int)>0)=false:=fk9 (by omega)
    have bS2:=hqk hr (by omega)
    have r3:decide ((q:Int)<=9223372036854775808)=true:=fk8 (by omega)
    rw[if_pos hr,r2]
    simp only[aF2,fk6,r3]
    rw[bL1 (n:=(q:Int)-1) (by omega) (by omega),j4 (n:=(q:Int)-1) (by omega) (by omega),j4 (n:=0-((q:Int)-1)) (by omega) (by omega),j4 (n:=0-((q:Int)-1)-1) (by omega) (by omega)]
    simp only[cA6,cr8,fk7,aX5,eg6,fk6]
    rw[show 0-((q:Int)-1)-1= -(q:Int) by omega]
   ·have r2:decide ((r:Int)>0)=true:=fk8 (by omega)
    have hlt:=hql (by omega)
    have r3:decide ((q:Int)+1<=9223372036854775808)=true:=fk8 (by omega)
    rw[if_neg hr,r2]
    simp only[aF2,fk7]
    rw[bL1 (n:=(q:Int)+1) (by omega) (by omega),r3,show(q:Int)+1-1=q by omega]
    rw[bL1 (n:=(q:Int)) (by omega) (by omega),j4 (n:=(q:Int)) (by omega) (by omega),j4 (n:=0-(q:Int)) (by omega) (by omega),j4 (n:=0-(q:Int)-1) (by omega) (by omega)]
    simp only[cA6,cr8,fk7,aX5,eg6,fk6]
    rw[show 0-(q:Int)-1= -(q:Int)-1 by omega]
  · --up,of a negative number
   have r1:ak9 (r:Int) (k:Int) true 2=some false:=rfl
   rw[if_neg (by decide),ha,Int.neg_neg,fl0,r1]
   have r3:decide ((q:Int)<=9223372036854775808)=true:=fk8 (by omega)
   simp only[aF2,fk6,r3]
   rcases dU4 q with hz|hz
   ·have w1:ba6.wrap (((0:Nat):Int)-1)=18446744073709551615:=by decide
    have w2:j5 18446744073709551615= -1:=by decide
    have w3:j5 (0- -1)=1:=by decide
    have w4:j5 (1-1)=0:=by decide
    rw[hz,w1,w2,w3,w4]
    rfl
   ·rw[bL1 (n:=(q:Int)-1) (by omega) (by omega),j4 (n:=(q:Int)-1) (by omega) (by omega),j4 (n:=0-((q:Int)-1)) (by omega) (by omega),j4 (n:=0-((q:Int)-1)-1) (by omega) (by omega)]
    simp only[cA6,cr8,fk7,aX5,eg6,fk6]
    rw[show 0-((q:Int)-1)-1= -(q:Int) by omega]
 ·have ha:a=(m:Int):=by omega
  have e6:decide (a<0)=false:=fk9 hn
  have n1:(!(!false==false)==false)=false:=by decide
  rw[e6,n1]
  rcases hm with rfl|rfl
  ·have r1:ak9 (r:Int) (k:Int) false 1=some false:=rfl
   rw[if_pos rfl,ha,fl0,r1]
   exact dK4 false q q _ rfl (by omega) (by omega)
  ·have r1:ak9 (r:Int) (k:Int) false 2=some (decide ((r:Int)>0)):=rfl
   rw[if_neg (by decide),ha,fl1,r1]
   by_cases hr:r=0
   ·have r2:decide ((r:Int)>0)=false:=fk9 (by omega)
    rw[if_pos hr,r2,Int.neg_neg]
    exact dK4 false q q _ rfl (by omega) (by omega)
   ·have r2:decide ((r:Int)>0)=true:=fk8 (by omega)
    have hlt:=hql2 (by omega) (by omega)
    rw[if_neg hr,r2,show -(-(q:Int)-1)=(q:Int)+1 by omega]
    exact dK4 true q (q+1) _ (by rw[fk7,bL1 (by omega) (by omega)]) (by omega) (by omega)
theorem bR5 (a c:Int)(ha0: -9223372036854775808<=a)(ha1:a<=9223372036854775807)(hc0:0<c)(hc1:c<=9223372036854775807):W5 a c=some (a/c):=by
 unfold W5 an5
 rw[bW5 a c 1 ha0 ha1 hc0 hc1 (.inl rfl)]
 rfl
def aS5 (n:Nat)(hn:n<=2305843009213693951)(f:Int->Option Bool)(p:Nat->Bool)(hf:∀i,i<n->f (i:Int)=some (p i)):
  ∃k:Nat,k<=n/\Q3 (n:Int) f=some (k:Int)/\(0<k->p (k-1)=false)/\(k<n->p k=true):=by
 have key:∀(m i j:Nat),j-i<=m->i<=j->j<=n->(0<i->p (i-1)=false)->(j<n->p j=true)->
   ∃k:Nat,k<=n/\L8 (ac5 f) ((i:Int),(j:Int))=some (.inl ((k:Int),(k:Int)))/\(0<k->p (k-1)=false)/\(k<n->p k=true):=by
  intro m
  induction m with
  |zero=>
   intro i j hm hij hjn h1 h2
   have:i=j:=by omega
   subst this
   refine⟨i,hjn,E6 ?_,h1,h2⟩
   unfold ac5
   rw[show decide (((i:Int),(i:Int)).1<((i:Int),(i:Int)).2)=false from fk9 (by simp)]
   rfl
  |succ m ih=>
   intro i j hm hij hjn h1 h2
   rcases cZ9 i j with hlt|hge
   ·have hh:j5 (G3 .u64 (ba6.wrap (j5 ((i:Int)+(j:Int)))) 1)=(((i+j)/2:Nat):Int):=by
     rw[eH4 (by omega) (by omega)];omega
    have hi:(i+j)/2<n:=by omega
    have hb:ac5 f ((i:Int),(j:Int))=some (bif p ((i+j)/2)then .inl ((i:Int),(((i+j)/2:Nat):Int))else .inl ((((i+j)/2+1:Nat):Int),(j:Int))):=by
     unfold ac5
     rw[show decide (((i:Int),(j:Int)).1<((i:Int),(j:Int)).2)=true from fk8 (by show(i:Int)<(j:Int);omega)]
     simp only[fk7,hh,hf _ hi,aF2]
     cases p ((i+j)/2)
     ·simp only[cr8,fk7,fk6]
      rw[j4 (by omega) (by omega)];rfl
     ·rfl
    cases hp:p ((i+j)/2)
    ·rw[hp]at hb
     rw[H3 hb]
     exact ih ((i+j)/2+1) j (by omega) (by omega) hjn (fun _=>by simpa using hp) h2
    ·rw[hp]at hb
     rw[H3 hb]
     exact ih i ((i+j)/2) (by omega) (by omega) (by omega) h1 (fun _=>hp)
   ·have:i=j:=by omega
    subst this
    exact ih i i (by omega) (bO2 _) hjn h1 h2
 obtain⟨k,a,b,c,d⟩:=key n 0 n (by omega) (Nat.zero_le _) (bO2 _) (fun h=>absurd h (by omega)) (fun h=>absurd h (by omega))
 refine⟨k,a,?_,c,d⟩
 unfold Q3
 rw[show((0:Nat):Int)=0 from rfl]at b
 rw[b]
 rfl
theorem aq6 (a b:Int):F7 a b=min a b:=by unfold F7;split<;>omega
theorem am2 (a b:Int):G8 a b=max a b:=by unfold G8;split<;>omega
def itp (x0 x1 y0 y1 x:Int):Int:=y0+((x-x0)*(y1-y0))/(x1-x0)
def bj2 {x0 x1 y0 y1 x lo hi:Int}(h0:x0<=x)(h1:x<=x1)(h:x0<x1)(a0:lo<=y0)(a1:y0<=hi)(b0:lo<=y1)(b1:y1<=hi):lo<=itp x0 x1 y0 y1 x/\itp x0 x1 y0 y1 x<=hi:=by
 unfold itp
 have hd:0<x1-x0:=by omega
 have e:0<=x-x0:=by omega
 have e2:x-x0<=x1-x0:=by omega
 constructor
 ·have:lo-y0<=((x-x0)*(y1-y0))/(x1-x0):=by
   rw[Int.le_ediv_iff_mul_le hd]
   have m1:(x-x0)*(lo-y0)<=(x-x0)*(y1-y0):=dQ0 (by omega) e
   have m2:(x1-x0)*(lo-y0)<=(x-x0)*(lo-y0):=Int.mul_le_mul_of_nonpos_right e2 (by omega)
   rw[Int.mul_comm (lo-y0)]
   omega
  omega
 ·have:((x-x0)*(y1-y0))/(x1-x0)<=hi-y0:=by
   have m1:(x-x0)*(y1-y0)<=(x-x0)*(hi-y0):=dQ0 (by omega) e
   have m2:(x-x0)*(hi-y0)<=(x1-x0)*(hi-y0):=Int.mul_le_mul_of_nonneg_right e2 (by omega)
   have:=Int.ediv_le_ediv hd (Int.le_trans m1 m2)
   rw[Int.mul_ediv_cancel_left _ (by omega)]at this
   exact this
  omega
def dx3 (x0 x1 y0 y1:Int):itp x0 x1 y0 y1 x0=y0:=by
 unfold itp;rw[Int.sub_self,Int.zero_mul,Int.zero_ediv,Int.add_zero]
def df2 {x0 x1 y0 y1:Int}(h:x0<x1):itp x0 x1 y0 y1 x1=y1:=by
 unfold itp;rw[Int.mul_ediv_cancel_left _ (by omega)];omega
def ev2 {a b:Int}(a0:0<=a)(a1:a<=2147483648)(b0:-2147483648<=b)(b1:b<=2147483648):-4611686018427387904<=a*b/\a*b<=4611686018427387904:=by
 constructor
 ·have m1:a*(-2147483648)<=a*b:=dQ0 b0 a0
  omega
 ·have m1:a*b<=a*2147483648:=dQ0 b1 a0
  omega
theorem cL2 {x0 x1 y0 y1 x:Int}(h0:x0<=x)(h1:x<=x1)(h:x0<x1)(hx0:-1073741824<=x0)(hx1:x1<=1073741824)(a0:-1073741824<=y0)(a1:y0<=1073741824)(b0:-1073741824<=y1)(b1:y1<=1073741824):
  ac6 x0 x1 y0 y1 x=some (itp x0 x1 y0 y1 x):=by
 have hb:=bj2 (lo:=-1073741824) (hi:=1073741824) h0 h1 h a0 a1 b0 b1
 have hp:=ev2 (a:=x-x0) (b:=y1-y0) (by omega) (by omega) (by omega) (by omega)
 unfold ac6
 rw[j4 (n:=x-x0) (by omega) (by omega),j4 (n:=y1-y0) (by omega) (by omega),j4 (n:=x1-x0) (by omega) (by omega),j4 (n:=(x-x0)*(y1-y0)) (by omega) (by omega),
  bR5 _ _ (by omega) (by omega) (by omega) (by omega),aF2]
 unfold itp at hb|-
 rw[j4 (by omega) (by omega)]
def cg7 {l:List Int}(h:bA6 l)(x:Int):∃i:Nat,bm4 l (lim l x) i/\X9 l x=some ((i:Int),lim l x):=by
 have h2:=h.two
 have h3:=h.most
 have hb:=dK1 h x
 rw[bF2 l (by omega),bf6 l (by omega)]at hb
 obtain⟨k,k1,k2,k3,k4⟩:=aS5 l.length (by omega) (fun x0=>af4 x0 l (lim l x)) (fun i=>decide (l.getD i 0>lim l x)) (fun i hi=>by
  unfold af4
  rw[D1 l i hi,cY4,aX4 hi];rfl)
 have gd:∀i (hi:i<l.length),l.getD i 0=l[i]:=fun i hi=>by rw[cY4,aX4 hi];rfl
 have hk0:0<k:=by
  rcases dU4 k with h0|h0
  ·have:=k4 (by omega)
   rw[fl2,gd k (by omega)]at this
   subst h0
   omega
  ·exact h0
 have ea1:=k3 hk0
 rw[fl3,gd (k-1) (by omega)]at ea1
 have hseg:X9 l x=some (((min (k-1) (l.length-2):Nat):Int),lim l x):=by
  unfold X9
  have e1:E0 l 0=some (l.headD 0):=by
   have:=D1 l 0 (by omega)
   rw[bF2 l (by omega)];exact this
  have e2:E0 l (j5 ((l.length:Int)-1))=some (l.getLastD 0):=by
   rw[j4 (by omega) (by omega),show(l.length:Int)-1=((l.length-1:Nat):Int) by omega,D1 l _ (by omega),bf6 l (by omega)]
  have e3:F7 (G8 x (l.headD 0)) (l.getLastD 0)=lim l x:=by rw[aq6,am2];rfl
  rw[e1,e2,aF2,aF2,aD1,aF2,e3,k2,aF2,j4 (by omega) (by omega),j4 (by omega) (by omega),aq6]
  congr 2
  omega
 rcases cZ9 k l.length with hk|hk
 ·have hhi:=k4 hk
  rw[fl2,gd k hk]at hhi
  have e:min (k-1) (l.length-2)=k-1:=by omega
  rw[e]at hseg
  refine⟨k-1,⟨by omega,by omega,?_,.inr ?_⟩,hseg⟩
  ·simp only[Nat.sub_add_cancel (show 1<=k from hk0)];omega
  ·simp only[Nat.sub_add_cancel (show 1<=k from hk0)];omega
 ·have e:min (k-1) (l.length-2)=l.length-2:=by omega
  rw[e]at hseg
  have hl:k-1=l.length-1:=by omega
  have hlow':¬l[l.length-1]>lim l x:=by simpa only[hl]using ea1
  have hs:l.length-2+1=l.length-1:=by omega
  refine⟨l.length-2,⟨by omega,?_,?_,.inl (by omega)⟩,hseg⟩
  ·have:=h.le (l.length-1) (l.length-2) (by omega) (by omega)
   omega
  ·simp only[hs];omega
def along (m:SMap)(i:Nat)(v:Int)(j:Nat):Int:=itp (nd m.X i) (nd m.X (i+1)) (zz m i j) (zz m (i+1) j) v
def atV (m:SMap)(i j:Nat)(v w:Int):Int:=itp (nd m.Y j) (nd m.Y (j+1)) (along m i v j) (along m i v (j+1)) w
theorem bm4.nd {l:List Int}{v:Int}{i:Nat}(h:bm4 l v i)(ha:bA6 l):i+1<l.length/\nd l i<=v/\v<=nd l (i+1)/\nd l i<nd l (i+1)/\ -1073741824<=Pv.nd l i/\Pv.nd l (i+1)<=1073741824:=by
 obtain⟨h0,h1,h2,_⟩:=h
 rw[N8 (by omega:i<l.length),N8 h0]
 exact⟨h0,h1,h2,ha.asc i h0,(ha.el i (by omega)).1,(ha.el (i+1) h0).2⟩
def cj1 {m:SMap}(h:da5 m){i j:Nat}{v lo hi:Int}(hi':bm4 m.X v i)(a0:lo<=zz m i j)(a1:zz m i j<=hi)(b0:lo<=zz m (i+1) j)(b1:zz m (i+1) j<=hi):
  lo<=along m i v j/\along m i v j<=hi:=by
 obtain⟨k0,k1,k2,k3,_,_⟩:=hi'.nd h.x
 exact bj2 k1 k2 k3 a0 a1 b0 b1
def dG4 {m:SMap}(h:da5 m){i j:Nat}{v w lo hi:Int}(hi':bm4 m.X v i)(hj':bm4 m.Y w j)(hz:∀i j,i<m.X.length->j<m.Y.length->lo<=zz m i j/\zz m i j<=hi):
  lo<=atV m i j v w/\atV m i j v w<=hi:=by
 obtain⟨k0,k1,k2,k3,_,_⟩:=hi'.nd h.x
 obtain⟨l0,l1,l2,l3,_,_⟩:=hj'.nd h.y
 have a:=fun j hj=>cj1 h (j:=j) hi' (hz i j (by omega) hj).1 (hz i j (by omega) hj).2 (hz (i+1) j (by omega) hj).1 (hz (i+1) j (by omega) hj).2
 exact bj2 l1 l2 l3 (a j (by omega)).1 (a j (by omega)).2 (a (j+1) (by omega)).1 (a (j+1) (by omega)).2
theorem ek8 {m:SMap}(h:da5 m){i j:Nat}{v:Int}(hi:bm4 m.X v i)(hj:j<m.Y.length):ar7 (j:Int) m (i:Int) v=some (along m i v j):=by
 obtain⟨k0,k1,k2,k3,k4,k5⟩:=hi.nd h.x
 have lx:=h.x.most
 have hz0:i<m.Z.length:=by have:=h.zl;omega
 have hz1:i+1<m.Z.length:=by have:=h.zl;omega
 have r0:=h.rl i hz0
 have r1:=h.rl (i+1) hz1
 unfold ar7
 rw[j4 (by omega) (by omega),show(i:Int)+1=((i+1:Nat):Int)from rfl,D1 m.X i (by omega),aF2,D1 m.X (i+1) k0,aF2,D1 m.Z i hz0,aF2,D1 _ j (by omega),
  aF2,D1 m.Z (i+1) hz1,aF2,D1 _ j (by omega),aF2,<-N8 (by omega:i<m.X.length),<-N8 k0,<-bV1 hz0 (by omega),<-bV1 hz1 (by omega)]
 rw[cL2 k1 k2 k3 k4 k5 (h.el i j (by omega) hj).1 (h.el i j (by omega) hj).2 (h.el (i+1) j k0 hj).1 (h.el (i+1) j k0 hj).2]
 rfl
def fd1 {m:SMap}(h:da5 m)(x y:Int):∃i j,bm4 m.X (lim m.X x) i/\bm4 m.Y (lim m.Y y) j/\aN5 m x y=some (atV m i j (lim m.X x) (lim m.Y y)):=by
 obtain⟨i,hi,ei⟩:=cg7 h.x x
 obtain⟨j,hj,ej⟩:=cg7 h.y y
 refine⟨i,j,hi,hj,?_⟩
 obtain⟨k0,k1,k2,k3,k4,k5⟩:=hi.nd h.x
 obtain⟨l0,l1,l2,l3,l4,l5⟩:=hj.nd h.y
 have ly:=h.y.most
 have a:=fun j hj=>cj1 h (j:=j) hi (h.el i j (by omega) hj).1 (h.el i j (by omega) hj).2 (h.el (i+1) j (by omega) hj).1 (h.el (i+1) j (by omega) hj).2
 unfold aN5
 rw[ei,ej]
 simp only[aF2]
 rw[j4 (by omega) (by omega),show(j:Int)+1=((j+1:Nat):Int)from rfl,D1 m.Y j (by omega),aF2,D1 m.Y (j+1) l0,aF2,ek8 h hi (by omega),aF2,ek8 h hi l0,aF2,
  <-N8 (by omega:j<m.Y.length),<-N8 l0,cL2 l1 l2 l3 l4 l5 (a j (by omega)).1 (a j (by omega)).2 (a (j+1) l0).1 (a (j+1) l0).2]
 rfl
def eh6 {m:SMap}(h:bp9 m=true)(x y:Int):∃i j,bm4 m.X (lim m.X x) i/\bm4 m.Y (lim m.Y y) j/\Y9 m x y=some (atV m i j (lim m.X x) (lim m.Y y)):=by
 obtain⟨i,j,hi,hj,e⟩:=fd1 (bZ6 h) x y
 refine⟨i,j,hi,hj,?_⟩
 unfold Y9
 rw[ao7,h]
 simp only[aF2,aX5,fk6]
 rw[e]
 rfl
def cuV (c:Q4)(i:Nat)(v:Int):Int:=itp (nd c.X i) (nd c.X (i+1)) (nd c.Y i) (nd c.Y (i+1)) v
def dM4 {l:List Int}(h:bA6 l)(x:Int):∃i,bm4 l (lim l x) i:=by
 obtain⟨i,hi,_⟩:=cg7 h x
 exact⟨i,hi⟩
def eW6 {l:List Int}(h:bA6 l)(x:Int):lim l x=min (max x (nd l 0)) (nd l (l.length-1)):=by
 have h2:=h.two
 unfold lim
 rw[bF2 l (by omega),bf6 l (by omega),N8 (by omega),N8 (by omega)]
def bA6.nlt {l:List Int}(h:bA6 l){i j:Nat}(h1:i<j)(h2:j<l.length):nd l i<nd l j:=by rw[N8 h2,N8 (by omega)];exact h.lt j i h2 h1
def bA6.nle {l:List Int}(h:bA6 l){i j:Nat}(h1:i<=j)(h2:j<l.length):nd l i<=nd l j:=by rw[N8 h2,N8 (by omega)];exact h.le j i h2 h1
def dx4 {l:List Int}(h:bA6 l){v:Int}{i:Nat}(hi:bm4 l v i)(f:Nat->Int){c:Nat}(hc:c<l.length)(e:v=nd l c):itp (nd l i) (nd l (i+1)) (f i) (f (i+1)) v=f c:=by
 obtain⟨k0,k1,k2,k3,_,_⟩:=hi.nd h
 subst e
 have c1:i<=c:=by
  rcases cZ9 c i with q|q
  ·have:=h.nlt q (by omega);omega
  ·exact q
 have c2:c<=i+1:=by
  rcases cZ9 (i+1) c with q|q
  ·have:=h.nlt q hc;omega
  ·exact q
 rcases(show c=i\/c=i+1 by omega)with rfl|rfl
 ·exact dx3 ..
 ·exact df2 k3
def eB7 {c:Q4}(h:dO3 c)(x:Int):∃i,bm4 c.X (lim c.X x) i/\aF5 c x=some (cuV c i (lim c.X x)):=by
 obtain⟨i,hi⟩:=dM4 h.x x
 refine⟨i,hi,?_⟩
 have h2:=h.x.two
 have h3:=h.x.most
 have hyl:=h.yl
 have hl:=eW6 h.x x
 have h0l:=h.x.nlt (i:=0) (j:=c.X.length-1) (by omega) (by omega)
 have gx0:E0 c.X 0=some (nd c.X 0):=by have:=D1 c.X 0 (by omega);rw[N8 (by omega)];exact this
 have gy0:E0 c.Y 0=some (nd c.Y 0):=by have:=D1 c.Y 0 (by omega);rw[N8 (by omega)];exact this
 have ew:j5 ((c.X.length:Int)-1)=((c.X.length-1:Nat):Int):=by rw[j4 (by omega) (by omega)];omega
 have gxl:E0 c.X ((c.X.length-1:Nat):Int)=some (nd c.X (c.X.length-1)):=by rw[D1 _ _ (by omega),N8 (by omega)]
 have gyl:E0 c.Y ((c.X.length-1:Nat):Int)=some (nd c.Y (c.X.length-1)):=by rw[D1 _ _ (by omega),N8 (by omega)]
 unfold aF5
 rw[gx0,aF2]
 by_cases q0:x<=nd c.X 0
 ·have e:=dx4 h.x hi (fun j=>nd c.Y j) (c:=0) (by omega) (by omega)
  rw[fk8 q0,fk7,gy0]
  unfold cuV
  rw[e];rfl
 ·rw[fk9 q0,fk6,ew,gxl,aF2]
  by_cases q1:x>=nd c.X (c.X.length-1)
  ·have e:=dx4 h.x hi (fun j=>nd c.Y j) (c:=c.X.length-1) (by omega) (by omega)
   rw[fk8 q1,fk7,gyl]
   unfold cuV
   rw[e];rfl
  ·have elim:lim c.X x=x:=by omega
   rw[elim]at hi|-
   obtain⟨k0,k1,k2,k3,k4,k5⟩:=hi.nd h.x
   obtain⟨k,r1,r2,r3,r4⟩:=aS5 c.X.length (by omega) (fun x0=>al8 x0 c x) (fun i=>decide (nd c.X i>x)) (fun j hj=>by
    unfold al8
    rw[D1 c.X j hj,N8 hj];rfl)
   have hk:k=i+1:=by
    have hkl:k<c.X.length:=by
     rcases cZ9 k c.X.length with q|q
     ·exact q
     ·have:=r3 (by omega)
      rw[fl3,show k-1=c.X.length-1 by omega]at this
      omega
    have a1:=r4 hkl
    rw[fl2]at a1
    have hk0:0<k:=by
     rcases dU4 k with q|q
     ·subst q;omega
     ·exact q
    have a2:=r3 hk0
    rw[fl3]at a2
    have b1:i<k:=by
     rcases cZ9 i k with q|q
     ·exact q
     ·have:=h.x.nle q (by omega);omega
    have b2:k-1<=i:=by
     rcases cZ9 i (k-1)with q|q
     ·have:=h.x.nle (i:=i+1) (j:=k-1) (by omega) (by omega)
      have hseg:=hi.2
      obtain⟨hh,s1,s2,s3⟩:=hi
      rcases s3 with s3|s3
      ·omega
      ·rw[<-N8 hh]at s3;omega
     ·exact q
    omega
   have es:av9 c x=some (i:Int):=by
    unfold av9
    rw[r2,aF2,j4 (by omega) (by omega),hk]
    congr 1;omega
   have hb:=bj2 (lo:=-1073741824) (hi:=1073741824) k1 k2 k3 (h.el i (by omega)).1 (h.el i (by omega)).2 (h.el (i+1) k0).1 (h.el (i+1) k0).2
   have y0:=h.el i (by omega)
   have y1:=h.el (i+1) k0
   have hp:=ev2 (a:=x-nd c.X i) (b:=nd c.Y (i+1)-nd c.Y i) (by omega) (by omega) (by omega) (by omega)
   rw[fk9 q1,fk6,es,aF2,j4 (n:=(i:Int)+1) (by omega) (by omega),show(i:Int)+1=((i+1:Nat):Int)from rfl,D1 c.Y i (by omega),aF2,D1 c.X i (by omega),aF2,
    D1 c.Y (i+1) (by omega),aF2,D1 c.X (i+1) k0,aF2,<-N8,<-N8,<-N8,<-N8]
   rw[j4 (n:=x-nd c.X i) (by omega) (by omega),j4 (n:=nd c.Y (i+1)-nd c.Y i) (by omega) (by omega),j4 (n:=nd c.X (i+1)-nd c.X i) (by omega) (by omega),j4 (n:=(x-nd c.X i)*(nd c.Y (i+1)-nd c.Y i)) (by omega) (by omega),
    bR5 _ _ (by omega) (by omega) (by omega) (by omega),aF2]
   unfold cuV
   unfold itp at hb|-
   rw[j4 (by omega) (by omega)]
def cO2 {c:Q4}(h:dO3 c){v:Int}{i:Nat}{lo hi:Int}(hs:bm4 c.X v i)(hy:∀j,j<c.X.length->lo<=nd c.Y j/\nd c.Y j<=hi):lo<=cuV c i v/\cuV c i v<=hi:=by
 obtain⟨k0,k1,k2,k3,k4,k5⟩:=hs.nd h.x
 exact bj2 k1 k2 k3 (hy i (by omega)).1 (hy i (by omega)).2 (hy (i+1) k0).1 (hy (i+1) k0).2
def cd8 {c:Q4}(h:by4 c=true)(x:Int):∃i,bm4 c.X (lim c.X x) i/\au1 c x=some (cuV c i (lim c.X x)):=by
 obtain⟨i,hi,e⟩:=eB7 (bn2 h) x
 refine⟨i,hi,?_⟩
 unfold au1
 rw[aq2,h]
 simp only[aF2,aX5,fk6]
 rw[e]
 rfl
structure fc7 (t:o7):Prop where
 m:da5 t.o9
 c:dO3 t.C7
 e:∀i,i<t.C7.X.length->0<=nd t.C7.Y i/\nd t.C7.Y i<=1000
 ed:∀i,i+1<t.C7.X.length->nd t.C7.Y (i+1)<=nd t.C7.Y i
 z:∀i j,i<t.o9.X.length->j<t.o9.Y.length->0<=zz t.o9 i j/\zz t.o9 i j<=10000
 za:∀i j,i<t.o9.X.length->j+1<t.o9.Y.length->zz t.o9 i j<=zz t.o9 i (j+1)
theorem dO2 {m:SMap}{i j:Nat}(h:i<m.Z.length):zz m i j=nd m.Z[i] j:=by
 have e:m.Z.getD i []=m.Z[i]:=by rw[cY4,aX4 h];rfl
 unfold zz nd
 rw[e]
def eB1 {t:o7}(h:aZ3 t=true):fc7 t:=by
 unfold aZ3 at h
 simp only[aK5]at h
 obtain⟨⟨⟨⟨h1,h2⟩,h3⟩,h4⟩,h5⟩:=h
 have hm:=bZ6 h1
 have hc:=bn2 h2
 rw[bt1]at h3 h5
 have zl:=hm.zl
 have yl:=hc.yl
 refine⟨hm,hc,fun i hi=>?_,fun i hi=>?_,fun i j hi hj=>?_,fun i j hi hj=>?_⟩
 ·rw[N8 (by omega)]
  have:=h3 _ (bf3 (by omega:i<t.C7.Y.length))
  simp[inR]at this;omega
 ·have:=bk0.1 h4 i (by omega)
  rw[fl2]at this
  exact this
 ·have hz:i<t.o9.Z.length:=by omega
  have:=h5 _ (bf3 hz)
  rw[aK5,bt1]at this
  have lr:=hm.rl i hz
  have:=this.1 _ (bf3 (by omega:j<t.o9.Z[i].length))
  rw[dO2 hz,N8 (by omega)]
  simp[inR]at this;omega
 ·have hz:i<t.o9.Z.length:=by omega
  have:=h5 _ (bf3 hz)
  rw[aK5]at this
  have lr:=hm.rl i hz
  have:=bk0.1 this.2 j (by omega)
  rw[fl2]at this
  rw[dO2 hz,dO2 hz]
  exact this
def dD8 {t:o7}(h:aZ3 t=true):bp9 t.o9=true:=by
 unfold aZ3 at h
 simp only[aK5]at h
 exact h.1.1.1.1
def dD7 {t:o7}(h:aZ3 t=true):by4 t.C7=true:=by
 unfold aZ3 at h
 simp only[aK5]at h
 exact h.1.1.1.2
def eg3 {t:o7}(h:aZ3 t=true)(late:Int):∃e,au1 t.C7 late=some e/\0<=e/\e<=1000/\
  ∀o f c,0<=o->o<=10000->0<=f->f<=c->1<=c->c<=8->Z6 t o late f c=some ((o*e*f)/(1000*c)):=by
 obtain⟨i,hi,e⟩:=cd8 (dD7 h) late
 have hb:=cO2 (eB1 h).c hi (eB1 h).e
 refine⟨_,e,hb.1,hb.2,fun o f c o0 o1 f0 f1 c0 c1=>?_⟩
 generalize cuV t.C7 i (lim t.C7.X late)=v at hb e
 have p0:0<=o*v:=eP7 o0 hb.1
 have p1:o*v<=10000*1000:=eP2 o1 hb.2 hb.1 (by omega)
 have q0:0<=o*v*f:=eP7 p0 f0
 have q1:o*v*f<=10000*1000*8:=eP2 p1 (by omega) f0 (by omega)
 unfold Z6
 rw[e,aF2,j4 (n:=o*v) (by omega) (by omega),j4 (n:=o*v*f) (by omega) (by omega),j4 (n:=1000*c) (by omega) (by omega)]
 unfold bo5
 rw[if_neg (by omega),aF2,cx1 q0]
 have r0:0<=o*v*f/(1000*c):=eM5 q0 (by omega)
 have r1:o*v*f/(1000*c)<=o*v*f:=eD5 _ q0
 have:=j4 (n:=o*v*f/(1000*c)) (by omega) (by omega)
 unfold j5 at this
 rw[this]
def sAt (m:SMap)(x y:Int):Int:=(Y9 m x y).getD 0
def cAt (c:Q4)(x:Int):Int:=(au1 c x).getD 0
theorem cU5 {m:SMap}(h:bp9 m=true)(x y:Int):Y9 m x y=some (sAt m x y):=by
 obtain⟨i,j,_,_,e⟩:=eh6 h x y
 unfold sAt;rw[e];rfl
theorem dH1 {c:Q4}(h:by4 c=true)(x:Int):au1 c x=some (cAt c x):=by
 obtain⟨i,_,e⟩:=cd8 h x
 unfold cAt;rw[e];rfl
def cg6 {m:SMap}(h:bp9 m=true)(x y:Int){lo hi:Int}(hz:∀i j,i<m.X.length->j<m.Y.length->lo<=zz m i j/\zz m i j<=hi):lo<=sAt m x y/\sAt m x y<=hi:=by
 obtain⟨i,j,a,b,e⟩:=eh6 h x y
 have:=dG4 (bZ6 h) a b hz
 unfold sAt;rw[e];exact this
def cd5 {c:Q4}(h:by4 c=true)(x:Int){lo hi:Int}(hy:∀j,j<c.X.length->lo<=nd c.Y j/\nd c.Y j<=hi):lo<=cAt c x/\cAt c x<=hi:=by
 obtain⟨i,a,e⟩:=cd8 h x
 have:=cO2 (bn2 h) a hy
 unfold cAt;rw[e];exact this
theorem ba5 {lo hi x:Int}:inR lo hi x=true↔lo<=x/\x<=hi:=by
 unfold inR
 rw[aK5,fl2,fl2]
def fk4 {m:SMap}(h:bp9 m=true){lo hi:Int}(hz:∀r∈m.Z,r.all (inR lo hi)=true):∀i j,i<m.X.length->j<m.Y.length->lo<=zz m i j/\zz m i j<=hi:=by
 intro i j hi' hj
 have k:=bZ6 h
 have hiz:i<m.Z.length:=by have:=k.zl;omega
 have hjz:j<m.Z[i].length:=by have:=k.rl i hiz;omega
 have:=hz _ (bf3 hiz)
 rw[bt1]at this
 have:=this _ (bf3 hjz)
 rw[bV1 hiz hjz]
 exact ba5.1 this
def fa9 {c:Q4}(h:by4 c=true){lo hi:Int}(hy:c.Y.all (inR lo hi)=true):∀j,j<c.X.length->lo<=nd c.Y j/\nd c.Y j<=hi:=by
 intro j hj
 have k:=bn2 h
 have hjy:j<c.Y.length:=by have:=k.yl;omega
 rw[bt1]at hy
 rw[N8 hjy]
 exact ba5.1 (hy _ (bf3 hjy))
structure fc0 (t:o7):Prop where
 m:bp9 t.Air=true
 c:by4 t.M0=true
 z:∀i j,i<t.Air.X.length->j<t.Air.Y.length->0<=zz t.Air i j/\zz t.Air i j<=1048576
 y:∀j,j<t.M0.X.length->100<=nd t.M0.Y j/\nd t.M0.Y j<=3000
def fc8 {t:o7}(h:cX2 t=true):fc0 t:=by
 unfold cX2 at h
 simp only[aK5]at h
 obtain⟨⟨⟨h1,h2⟩,h3⟩,h4⟩:=h
 refine⟨h1,h2,fk4 h1 fun r hr=>?_,fa9 h2 h4⟩
 have:=bt1.1 h3 r hr
 unfold cK5 at this
 rw[aK5]at this
 exact this.1
def chV (t:o7)(s p q:Int):Int:=min 1048576 (sAt t.Air s p*cAt t.M0 q/1000)
def aV5 {a b A B:Int}(a0:0<=a)(a1:a<=A)(b0:0<=b)(b1:b<=B):0<=a*b/\a*b<=A*B:=⟨eP7 a0 b0,eP2 a1 b1 b0 (by omega)⟩
theorem dc2 {t:o7}(h:cX2 t=true)(s p q:Int):aC9 t s p q=some (chV t s p q)/\0<=chV t s p q/\chV t s p q<=1048576:=by
 have k:=fc8 h
 have b1:=cg6 k.m s p k.z
 have b2:=cd5 k.c q k.y
 have b3:=aV5 (A:=1048576) (B:=3000) b1.1 b1.2 (by omega) b2.2
 unfold aC9 chV
 rw[cU5 k.m,dH1 k.c]
 simp only[aF2]
 rw[j4 (by omega) (by omega),bR5 _ _ (by omega) (by omega) (by omega) (by omega)]
 simp only[aF2,aq6]
 exact⟨trivial,by omega,by omega⟩
theorem U8 {lo hi x:Int}(h0:lo<=x)(h1:x<=hi):inR lo hi x=true:=ba5.2 ⟨h0,h1⟩
theorem ci9 {t:o7}(h:cX2 t=true){s p q:Int}(s0:0<=s/\s<=12000)(p0:50<=p/\p<=3000)(q0:-40<=q/\q<=150):aC8 t s p q=some (chV t s p q,0):=by
 unfold aC8
 rw[bH2,h,ag0,ag0,ag0,U8 s0.1 s0.2,U8 p0.1 p0.2,U8 q0.1 q0.2,(dc2 h s p q).1]
 rfl
structure fl9 (t:o7)(s w q p e:Int):Prop where
 out:e=0\/e=2\/e=7
 ran:e=2↔¬(0<=w/\w<=1048576)
 fit:e=0->50<=p/\p<=3000/\w<=chV t s p q
 low:e=0->50<p->chV t s (p-1) q<w
 big:e=7->chV t s 3000 q<w
def dA2 {t:o7}(h:cX2 t=true){s w q:Int}(s0:0<=s/\s<=12000)(q0:-40<=q/\q<=150):∃p e,av4 t s w q=some (p,e)/\fl9 t s w q p e:=by
 unfold av4
 rw[bH2,h,ag0,ag0,ag0,U8 s0.1 s0.2,U8 q0.1 q0.2]
 simp only[aF2,aX5,fk6]
 cases hw:inR 0 1048576 w
 ·have hw2:¬(0<=w/\w<=1048576):=fun h2=>by rw[ba5.2 h2]at hw;cases hw
  exact⟨0,2,rfl,.inr (.inl rfl),⟨fun _=>hw2,fun _=>rfl⟩,fun h=>(by cases h),fun h=>(by cases h),fun h=>(by cases h)⟩
 ·have hw2:=ba5.1 hw
  simp only[aX5,fk6]
  obtain⟨k,k1,k2,k3,k4⟩:=aS5 2951 (by omega) (fun x0=>ak7 x0 t s q w) (fun i=>decide (chV t s (50+(i:Int)) q>=w)) (fun i hi=>by
   unfold ak7
   rw[j4 (by omega) (by omega),(dc2 h s _ q).1]
   rfl)
  have k2':Q3 2951 (fun x0=>ak7 x0 t s q w)=some (k:Int):=k2
  rw[k2']
  simp only[aF2]
  rw[j4 (n:=50+(k:Int)) (by omega) (by omega)]
  by_cases hk:k=2951
  ·subst hk
   refine⟨0,7,rfl,.inr (.inr rfl),⟨fun h=>(by cases h),fun h=>absurd hw2 h⟩,fun h=>(by cases h),fun h=>(by cases h),fun _=>?_⟩
   have:=k3 (by omega)
   rw[fl3]at this
   have e:(50:Int)+((2951-1:Nat):Int)=3000:=by omega
   rw[e]at this
   omega
  ·have h4:=k4 (by omega)
   rw[fl2]at h4
   rw[fk9 (show¬(50+(k:Int)>3000) by omega)]
   refine⟨50+(k:Int),0,rfl,.inl rfl,⟨fun h=>(by cases h),fun h=>absurd hw2 h⟩,fun _=>⟨by omega,by omega,by omega⟩,fun _ hp=>?_,fun h=>(by cases h)⟩
   have h3:=k3 (by omega)
   rw[fl3]at h3
   have e:(50:Int)+((k-1:Nat):Int)=50+(k:Int)-1:=by omega
   rw[e]at h3
   omega
def ee9 (s:Int):Int:=-((-(s*65536*23040))/60000000)
def dM0 {s:Int}(s0:0<=s/\s<=12000):0<=ee9 s/\ee9 s<=310000:=by unfold ee9;omega
def dd9 (s p:Int):Int:=ee9 s*p/1024
def eG5 {s p:Int}(s0:0<=s/\s<=12000)(p0:50<=p/\p<=3000):be3 s p=some (dd9 s p,0)/\0<=dd9 s p/\dd9 s p<=930000000:=by
 have r:=dM0 s0
 have b:=aV5 (B:=3000) r.1 r.2 (show 0<=p by omega) p0.2
 unfold be3 ax8 an5
 rw[ag0,ag0,U8 s0.1 s0.2,U8 p0.1 p0.2]
 rw[show((decide (s<0))||(decide (s>20000)))=false by rw[cw7];exact⟨fk9 (by omega),fk9 (by omega)⟩]
 rw[j4 (n:=s*65536) (by omega) (by omega),j4 (n:=s*65536*23040) (by omega) (by omega),bW5 _ _ 2 (by omega) (by omega) (by omega) (by omega) (.inr rfl)]
 simp only[aF2,aX5,fk6]
 rw[if_neg (by decide)]
 have er:-((-(s*65536*23040))/60000000)=ee9 s:=rfl
 unfold dd9
 rw[er,j4 (n:=ee9 s*p) (by omega) (by omega),cx1 b.1,j4 (by omega) (by omega)]
 exact⟨rfl,by omega,by omega⟩
structure eQ5 (b:L6):Prop where
 i:100<=b.aj5/\b.aj5<=1048576
 f:0<=b.ap6/\b.ap6<=65536
 t:0<=b.J2/\b.J2<=65536
 v:1<=b.aP6/\b.aP6<=65536
 fi:0<=b.P5/\b.P5<=1023
 ev:1<=b.M4/\b.M4<=1024
 de:0<=b.aY0/\b.aY0<=20
def aW2 (b:L6):Bool:=inR 100 1048576 b.aj5&&inR 0 65536 b.ap6&&inR 0 65536 b.J2&&inR 1 65536 b.aP6&&inR 0 1023 b.P5&&inR 1 1024 b.M4&&inR 0 20 b.aY0
theorem dj5 (b:L6):ak1 b=some (aW2 b):=by
 unfold ak1 aW2
 have e:∀x lo hi,G0 x lo hi=some (inR lo hi x):=fun _ _ _=>rfl
 simp only[e,aF2]
 cases inR 100 1048576 b.aj5<;>cases inR 0 65536 b.ap6<;>cases inR 0 65536 b.J2<;>cases inR 1 65536 b.aP6<;>cases inR 0 1023 b.P5<;>cases inR 1 1024 b.M4<;>rfl
def bt9 {b:L6}(h:aW2 b=true):eQ5 b:=by
 unfold aW2 at h
 simp only[aK5,ba5]at h
 obtain⟨⟨⟨⟨⟨⟨h1,h2⟩,h3⟩,h4⟩,h5⟩,h6⟩,h7⟩:=h
 exact⟨h1,h2,h3,h4,h5,h6,h7⟩
structure fm4 (b:L6)(f p n e:Int):Prop where
 out:e=0\/e=7
 fit:e=0->0<=n/\n<=1000/\f<=b.J2*n*(1013-p)/1000
 low:e=0->0<n->b.J2*(n-1)*(1013-p)/1000<f
 big:e=7->b.J2*1000*(1013-p)/1000<f
def dD4 {b:L6}(h:aW2 b=true){f p:Int}(f0:0<=f/\f<=1099511627776)(p0:50<=p/\p<=1013):∃n e,av5 b f p=some (n,e)/\fm4 b f p n e:=by
 have kb:=(bt9 h).t
 have v:∀k:Nat,k<=1000->(j5 (cW7 (j5 ((j5 (b.J2*(k:Int)))*(j5 (1013-p)))) 1000))=b.J2*(k:Int)*(1013-p)/1000:=by
  intro k hk
  have b1:=aV5 (A:=65536) (B:=1000) kb.1 kb.2 (show 0<=(k:Int) by omega) (by omega)
  have b2:=aV5 (A:=65536000) (B:=1000) b1.1 (by omega) (show 0<=1013-p by omega) (by omega)
  rw[j4 (n:=b.J2*(k:Int)) (by omega) (by omega),j4 (n:=1013-p) (by omega) (by omega),j4 (n:=b.J2*(k:Int)*(1013-p)) (by omega) (by omega),cx1 b2.1,j4 (by omega) (by omega)]
 unfold av5
 rw[dj5,h,ag0,ag0,U8 f0.1 f0.2,U8 p0.1 p0.2]
 simp only[aF2,aX5,fk6]
 obtain⟨k,k1,k2,k3,k4⟩:=aS5 1001 (by omega) (fun x0=>ak8 x0 b p f) (fun i=>decide (b.J2*(i:Int)*(1013-p)/1000>=f)) (fun i hi=>by
  unfold ak8
  rw[v i (by omega)])
 have k2':Q3 1001 (fun x0=>ak8 x0 b p f)=some (k:Int):=k2
 rw[k2']
 simp only[aF2]
 by_cases hk:k=1001
 ·subst hk
  refine⟨0,7,rfl,.inr rfl,fun h=>(by cases h),fun h=>(by cases h),fun _=>?_⟩
  have:=k3 (by omega)
  rw[fl3]at this
  have e:((1001-1:Nat):Int)=1000:=by omega
  rw[e]at this
  omega
 ·have h4:=k4 (by omega)
  rw[fl2]at h4
  rw[fk9 (show¬((k:Int)>1000) by omega)]
  refine⟨(k:Int),0,rfl,.inl rfl,fun _=>⟨by omega,by omega,by omega⟩,fun _ hp=>?_,fun h=>(by cases h)⟩
  have h3:=k3 (by omega)
  rw[fl3]at h3
  have e:((k-1:Nat):Int)=(k:Int)-1:=by omega
  rw[e]at h3
  omega
def cS3 (t:o7)(s c:Int):Int:=sAt t.o9 s c
def bN8 (t:o7)(o l f n:Int):Int:=o*cAt t.C7 l*f/(1000*n)
theorem aZ2 (x lo hi:Int):H9 x lo hi=some (inR lo hi x):=rfl
def eu3 {t:o7}(h:aZ3 t=true){s c:Int}(s0:0<=s/\s<=12000)(c0:0<=c/\c<=1048576):ah6 t s c=some (cS3 t s c,0)/\0<=cS3 t s c/\cS3 t s c<=10000:=by
 have k:=dD8 h
 have b:=cg6 k s c (eB1 h).z
 refine⟨?_,b.1,b.2⟩
 unfold ah6
 rw[bq3,h,aZ2,aZ2,U8 s0.1 s0.2,U8 c0.1 c0.2,cU5 k]
 rfl
theorem dN5 {t:o7}(h:aZ3 t=true){o l f n:Int}(o0:0<=o/\o<=10000)(f0:0<=f/\f<=n)(n0:1<=n/\n<=8):Z6 t o l f n=some (bN8 t o l f n)/\0<=bN8 t o l f n/\bN8 t o l f n<=10000:=by
 obtain⟨e,h1,h2,h3,h4⟩:=eg3 h l
 unfold bN8 cAt
 rw[h4 o f n o0.1 o0.2 f0.1 f0.2 n0.1 n0.2,h1]
 have b1:=aV5 (A:=10000) (B:=1000) o0.1 o0.2 h2 h3
 have b2:=aV5 (A:=10000000) b1.1 (by omega) f0.1 f0.2
 refine⟨rfl,eM5 b2.1 (by omega),?_⟩
 have:o*e*f/(1000*n)<=10000000*n/(1000*n):=Int.ediv_le_ediv (by omega) b2.2
 rw[show 10000000*n=10000*(1000*n) by omega,Int.mul_ediv_cancel _ (by omega)]at this
 exact this
def es5 {t:o7}(h:aZ3 t=true){s w:Int}(s0:0<=s/\s<=12000):∃c e,ap4 t s w=some (c,e)/\(e=0\/e=7)/\
  (e=0->nd t.o9.Y 0<=c/\c<=nd t.o9.Y (t.o9.Y.length-1)/\w<=sAt t.o9 s c/\(nd t.o9.Y 0<c->sAt t.o9 s (c-1)<w))/\(e=7->sAt t.o9 s (nd t.o9.Y (t.o9.Y.length-1))<w):=by
 have k:=dD8 h
 have ky:=(bZ6 k).y
 have y2:=ky.two
 have ym:=ky.most
 have e0:=ky.el 0 (by omega)
 have e1:=ky.el (t.o9.Y.length-1) (by omega)
 have le:=ky.le (t.o9.Y.length-1) 0 (by omega) (by omega)
 rw[<-N8 (by omega:0<t.o9.Y.length)]at e0 le
 rw[<-N8 (by omega:t.o9.Y.length-1<t.o9.Y.length)]at e1 le
 have g0:E0 t.o9.Y 0=some (nd t.o9.Y 0):=by have:=D1 t.o9.Y 0 (by omega);rw[N8 (by omega)];exact this
 have ew:j5 ((t.o9.Y.length:Int)-1)=((t.o9.Y.length-1:Nat):Int):=by rw[j4 (by omega) (by omega)];omega
 have gl:E0 t.o9.Y ((t.o9.Y.length-1:Nat):Int)=some (nd t.o9.Y (t.o9.Y.length-1)):=by rw[D1 _ _ (by omega),N8 (by omega)]
 unfold ap4
 rw[bq3,h,aZ2,U8 s0.1 s0.2]
 simp only[aF2,aX5,fk6]
 rw[g0,ew]
 simp only[aF2]
 rw[gl]
 simp only[aF2]
 generalize nd t.o9.Y 0=a at*
 generalize nd t.o9.Y (t.o9.Y.length-1)=b at*
 rw[j4 (n:=b-a) (by omega) (by omega),j4 (n:=b-a+1) (by omega) (by omega)]
 obtain⟨n,hn⟩:∃n:Nat,b-a+1=n:=⟨(b-a+1).toNat,by omega⟩
 rw[hn]
 obtain⟨j,k1,k2,k3,k4⟩:=aS5 n (by omega) (fun x0=>am7 x0 t s a w) (fun i=>decide (sAt t.o9 s (a+(i:Int))>=w)) (fun i hi=>by
  unfold am7
  rw[j4 (by omega) (by omega),cU5 k];rfl)
 rw[k2]
 simp only[aF2]
 by_cases hj:j=n
 ·subst hj
  refine⟨0,7,by simp,.inr rfl,fun h=>(by cases h),fun _=>?_⟩
  have:=k3 (by omega)
  rw[fl3,show a+((j-1:Nat):Int)=b by omega]at this
  omega
 ·have:((j:Int)==(n:Int))=false:=by
   rw[beq_eq_false_iff_ne];omega
  rw[this,j4 (n:=a+(j:Int)) (by omega) (by omega)]
  have h4:=k4 (by omega)
  rw[fl2]at h4
  refine⟨a+(j:Int),0,rfl,.inl rfl,fun _=>⟨by omega,by omega,by omega,fun hp=>?_⟩,fun h=>(by cases h)⟩
  have h3:=k3 (by omega)
  rw[fl3,show a+((j-1:Nat):Int)=a+(j:Int)-1 by omega]at h3
  omega
structure eD6 (t:o7)(o w n f l:Int):Prop where
 f0:0<=f
 f1:f<=n
 l0:0<=l
 l1:l<=2560
 fit:f=0\/bN8 t o 2560 f n<=w
 more:f<n->w<bN8 t o 2560 (f+1) n
 late:l<2560->bN8 t o l f n<=w
 less:0<l->w<bN8 t o (l-1) f n
def cU8 {t:o7}(h:aZ3 t=true){o w n:Int}(o0:0<=o/\o<=10000)(n0:1<=n/\n<=8):∀k:Nat,(k:Int)<=n->((k:Int)<n->w<bN8 t o 2560 ((k:Int)+1) n)->
  ∃f,L8 (am9 t w n (o,0)) (k:Int)=some (.inl f)/\0<=f/\f<=n/\(f=0\/bN8 t o 2560 f n<=w)/\(f<n->w<bN8 t o 2560 (f+1) n)
 |0,_,hm=>⟨0,E6 (by unfold am9;rfl),dj2 _,by omega,.inl rfl,hm⟩
 |k+1,hk,hm=>by
  have he:=(dN5 h (l:=2560) (f:=((k+1:Nat):Int)) o0 ⟨by omega,hk⟩ n0).1
  have hb:am9 t w n (o,0) ((k+1:Nat):Int)=some (bif decide (bN8 t o 2560 ((k+1:Nat):Int) n<=w)then .inr (.inl ((k+1:Nat):Int))else .inl (k:Int)):=by
   unfold am9
   rw[fk8 (show((k+1:Nat):Int)>0 by omega),he,j4 (by omega) (by omega),show((k+1:Nat):Int)-1=(k:Int) by omega]
   simp only[fk7,aF2]
   cases decide (bN8 t o 2560 ((k+1:Nat):Int) n<=w)<;>rfl
  by_cases hc:bN8 t o 2560 ((k+1:Nat):Int) n<=w
  ·rw[fk8 hc]at hb
   exact⟨_,E6 hb,by omega,hk,.inr hc,hm⟩
  ·rw[fk9 hc]at hb
   rw[H3 hb]
   exact cU8 h o0 n0 k (by omega) (fun _=>by rw[show(k:Int)+1=((k+1:Nat):Int) by omega];omega)
def ey2 {t:o7}(h:aZ3 t=true){s c w n:Int}(s0:0<=s/\s<=12000)(c0:0<=c/\c<=1048576)(w0:0<=w)(n0:1<=n/\n<=8):∃f l,am8 t s c w n=some (f,l,0)/\eD6 t (cS3 t s c) w n f l:=by
 obtain⟨h1,h2⟩:=eu3 h s0 c0
 unfold am8
 rw[h1]
 simp only[aF2]
 rw[show(((0:Int) !=0)=false)from rfl,aZ2,U8 n0.1 n0.2,fk9 (show¬w<0 by omega)]
 simp only[fk6,aF2,aX5,Bool.or_self]
 generalize cS3 t s c=o at h2
 obtain⟨k,hk⟩:∃k:Nat,n=k:=⟨n.toNat,by omega⟩
 obtain⟨f,f1,f2,f3,f4,f5⟩:=cU8 h (w:=w) h2 n0 k (by omega) (fun h=>by omega)
 rw[<-hk]at f1
 rw[f1]
 simp only[aF2]
 obtain⟨j,k1,k2,k3,k4⟩:=aS5 2560 (by omega) (fun x0=>al6 x0 t o f n w) (fun i=>decide (bN8 t o (i:Int) f n<=w)) (fun i hi=>by
  unfold al6
  rw[(dN5 h h2 ⟨f2,f3⟩ n0).1];rfl)
 have k2':Q3 2560 (fun x0=>al6 x0 t o f n w)=some (j:Int):=k2
 rw[k2']
 refine⟨f,(j:Int),rfl,f2,f3,by omega,by omega,f4,f5,fun hl=>?_,fun hl=>?_⟩
 ·have:=k4 (by omega)
  rwa[fl2]at this
 ·have:=k3 (by omega)
  rw[fl3,show((j-1:Nat):Int)=(j:Int)-1 by omega]at this
  omega
theorem eg2 {t:o7}(h:aZ3 t=true){s c l f n:Int}(s0:0<=s/\s<=12000)(c0:0<=c/\c<=1048576)(l0:0<=l/\l<=2560)(f0:0<=f/\f<=n)(n0:1<=n/\n<=8):aw5 t s c l f n=some (bN8 t (cS3 t s c) l f n,0):=by
 obtain⟨h1,h2⟩:=eu3 h s0 c0
 unfold aw5
 rw[h1]
 simp only[aF2]
 rw[show(((0:Int) !=0)=false)from rfl,aZ2,aZ2,aZ2,U8 l0.1 l0.2,U8 n0.1 n0.2,U8 f0.1 f0.2,(dN5 h h2 f0 n0).1]
 rfl
def cG3 (n f i:Int):Bool:=decide ((i+1)*f/n>i*f/n)
theorem eJ8 {a b:Int}(ha:0<=a)(hb:0<b)(hm:a<=9223372036854775807):bo5 .i64 a b=some (a/b):=by
 have h1:a/b<=a:=eD5 _ ha
 have h2:0<=a/b:=eM5 ha (by omega)
 unfold bo5
 rw[if_neg (by omega),cx1 ha]
 have:=j4 (n:=a/b) (by omega) (by omega)
 unfold j5 at this
 rw[this]
theorem dK9 {n:Nat}{f:Int}(n0:1<=n/\n<=8)(f0:0<=f/\f<=n):ar9 (n:Int) f 0=some ((di4 n).map (fun i:Nat=>cG3 n f (i:Int)),0):=by
 unfold ar9
 rw[aZ2,aZ2,aZ2,U8 (by omega) (by omega),U8 f0.1 f0.2]
 simp only[aF2,aX5,fk6]
 rw[show inR 0 1099511627776 0=true from rfl,bW2 n (by omega)]
 simp only[aF2,aX5,fk6]
 obtain⟨u,e,hu⟩:=ag9 (cr7 n false).length (by simp;omega) (as0 (n:Int) f 0) (fun i u=>u.length=n/\∀j,j<i->u[j]? =some (cG3 n f (j:Int))) (cr7 n false) ⟨by simp,fun j hj=>by omega⟩ (fun j hj u hu=>by
  simp only[fb5]at hj
  obtain⟨hl,hg⟩:=hu
  unfold as0
  have m1:=aV5 (A:=9) (B:=8) (show 0<=(j:Int)+1 by omega) (by omega) f0.1 (by omega)
  have m2:=aV5 (A:=9) (B:=8) (show 0<=(j:Int) by omega) (by omega) f0.1 (by omega)
  have er:cg2 (j5 ((j:Int)+0)) (n:Int)=some (j:Int):=by
   unfold cg2
   rw[if_neg (by omega),Int.add_zero,j4 (by omega) (by omega),Int.tmod_eq_emod_of_nonneg (by omega),Int.emod_eq_of_lt (by omega) (by omega)]
  rw[er]
  simp only[aF2]
  rw[j4 (n:=(j:Int)+1) (by omega) (by omega),j4 (n:=((j:Int)+1)*f) (by omega) (by omega),j4 (n:=(j:Int)*f) (by omega) (by omega),eJ8 m1.1 (by omega) (by omega),eJ8 m2.1 (by omega) (by omega)]
  simp only[aF2]
  rw[D1 _ _ (by omega)]
  simp only[aF2]
  rw[U5 _ _ _ (by omega)]
  refine⟨_,rfl,by simp[hl],fun i hi=>?_⟩
  rcases cZ9 i j with h|h
  ·rw[fb8 (by omega)];exact hg i h
  ·have:i=j:=by omega
   subst this
   rw[List.getElem?_set_self (by omega)];rfl)
 rw[e]
 simp only[fb5]at hu
 have:u=(di4 n).map (fun i:Nat=>cG3 n f (i:Int)):=by
  apply List.ext_getElem?
  intro i
  rcases cZ9 i n with h|h
  ·rw[hu.2 i h,List.getElem?_map,List.getElem?_range h];rfl
  ·rw[eE7 (by omega),eE7 (by simp;omega)]
 rw[this]
 rfl
@[ext] structure dF3 where
 bt7:Int
 Low:Int
def aS0 (x:C0):Option Int:=
 bif ((x.Kind==1)||(x.Kind==2))then(some (j5 (2*(j5 (x.p7-1)))))else(some (j5 ((j5 (2*(j5 (x.p7-1))))+1)))
def bg0 (t2:A2):Option A2:=
 ak4 (ak4 (V4 ([]:List j7) t2.j2) fun l=>some (⟨t2.V5,l⟩:A2)) fun(f2:A2)=>some f2
def bA4 (s:c8):Option c8:=
 ak4 (V4 ([]:List Int) s.A1.A7) fun l=>ak4 (bg0 s.j9) fun v=>ak4 (V4 ([]:List A6) s.Next) fun l2=>ak4 (V4 ([]:List B0) s.H7) fun l3=>some (⟨(⟨l,s.A1.as4⟩:o5),s.B5,v,l2,l3,s.Cut⟩:c8)
end Go.Pv
namespace Go.Pv.Ev
open Go Go.Pv
theorem db5 {α:Type}(c:Bool)(x y:α):(bif c then some x else some y)=some (bif c then x else y):=by cases c<;>rfl
theorem eT0 {p:Prop}[Decidable p]{b:Bool}(h:p↔b=true):decide p=b:=by
 cases b
 ·exact fk9 fun hp=>Bool.noConfusion (h.1 hp)
 ·exact fk8 (h.2 rfl)
def bS7 {α:Type}[DecidableEq α]:∀{l m:List α},l.Nodup->(∀x∈l,x∈m)->m.length<=l.length->l.Perm m
 |[],m,_,_,h=>by
  have:m=[]:=eD0.1 (Nat.le_zero.1 h)
  rw[this]
 |x::l,m,hn,hs,hl=>by
  have hx:x∈m:=hs x (cq1 ..)
  have hp:=List.perm_cons_erase hx
  rw[List.nodup_cons]at hn
  have hlen:=hp.length_eq
  simp only[bu9]at hlen hl
  refine(List.Perm.cons x (bS7 hn.2 (fun y hy=>?_) (by omega))).trans hp.symm
  have hne:y≠x:=fun h=>hn.1 (h▸hy)
  exact(List.mem_erase_of_ne hne).2 (hs y (List.mem_cons_of_mem _ hy))
theorem ed2 {l:List Int}:(∀k,k<l.length->((k:Int)+1)∈l)↔(∀x∈l,1<=x/\x<=l.length)/\l.Nodup:=by
 have hN:((di4 l.length).map (fun k:Nat=>(k:Int)+1)).Nodup:=by
  unfold List.Nodup
  rw[List.pairwise_map]
  exact List.Pairwise.imp (fun{a b} h=>by omega) List.pairwise_lt_range
 have hm:∀x:Int,x∈(di4 l.length).map (fun k:Nat=>(k:Int)+1)↔1<=x/\x<=l.length:=by
  intro x
  rw[cK0]
  constructor
  ·rintro⟨k,hk,rfl⟩
   rw[dP5]at hk
   omega
  ·intro h
   exact⟨(x-1).toNat,by rw[dP5];omega,by omega⟩
 constructor
 ·intro h
  have hp:((di4 l.length).map (fun k:Nat=>(k:Int)+1)).Perm l:=bS7 hN (fun x hx=>by
   rw[cK0]at hx
   obtain⟨k,hk,rfl⟩:=hx
   exact h k (dP5.1 hk)) (by simp)
  exact⟨fun x hx=>(hm x).1 (hp.mem_iff.2 hx),hp.nodup_iff.1 hN⟩
 ·rintro⟨h1,h2⟩ k hk
  have hp:l.Perm ((di4 l.length).map (fun k:Nat=>(k:Int)+1)):=bS7 h2 (fun x hx=>(hm x).2 (h1 x hx)) (by simp)
  exact hp.mem_iff.2 ((hm _).2 (by omega))
def idx (v:Int):List Int->Nat->Int
 |[],_=>-1
 |x::l,i=>bif v==x then(i:Int)else idx v l (i+1)
def cQ8 (v:Int):∀(l:List Int) (i:Nat),(idx v l i= -1/\v∉l)\/∃k:Nat,idx v l i=((i+k:Nat):Int)/\l[k]? =some v
 |[],i=>.inl ⟨rfl,by simp⟩
 |x::l,i=>by
  unfold idx
  cases h:v==x
  ·have hne:v≠x:=by simpa using h
   rcases cQ8 v l (i+1)with⟨h1,h2⟩|⟨k,h1,h2⟩
   ·exact .inl ⟨h1,by simp[hne,h2]⟩
   ·exact .inr ⟨k+1,by simp only[fk6];rw[h1];omega,by simpa using h2⟩
  ·have:v=x:=by simpa using h
   exact .inr ⟨0,by simp,by simp[this]⟩
theorem dR9 (v:Int)(l:List Int):decide (idx v l 0>=0)=decide (v∈l):=by
 rcases cQ8 v l 0 with⟨h1,h2⟩|⟨k,h1,h2⟩
 ·rw[h1];simp[h2]
 ·rw[h1];simp[List.mem_of_getElem? h2]
def de7 (v:Int):∀(l:List Int) (i:Nat),(ak4 (N4 (fun(i:Int) x (_:Unit)=>bif (v==x)then(some (Fl.ret i))else(some (Fl.next ()))) l (i:Int) ()) fun(t:Unit⊕Int)=>match t with| .inl _=>(some (-1))| .inr r2=>some r2)=some (idx v l i)
 |[],i=>rfl
 |x::l,i=>by
  simp only[N4,idx]
  cases v==x
  ·simpa using de7 v l (i+1)
  ·rfl
theorem bS3 (s:List Int)(v:Int)(h:s.length<=9223372036854775807):W8 s v=some (idx v s 0):=by
 unfold W8
 have:L2 (s.length:Int) (ao4 s v) ()=N4 (fun(i:Int) x (_:Unit)=>bif (v==x)then(some (Fl.ret i))else(some (Fl.next ()))) s 0 ():=bc8 s h _ ()
 rw[this]
 exact de7 v s 0
theorem contains_eq (s:List Int)(v:Int)(h:s.length<=9223372036854775807):P8 s v=some (decide (v∈s)):=by
 unfold P8
 rw[bS3 s v h,aF2,dR9]
def aE5 (e:o5):Prop:=1<=e.A7.length/\e.A7.length<=8/\0<=e.as4/\e.as4<46080/\(∀x∈e.A7,1<=x/\x<=(e.A7.length:Int))/\e.A7.Nodup
instance (e:o5):Decidable (aE5 e):=by unfold aE5;infer_instance
theorem eo9 {e:o5}(h:(((decide ((e.A7.length:Int)<1))||(decide ((e.A7.length:Int)>8)))|| !((decide (e.as4>=0))&&(decide (e.as4<46080))))=true):¬aE5 e:=by
 rintro⟨h1,h2,h3,h4,_⟩
 simp only[cH4,bG5,eD7,fl2,fl3]at h
 omega
def ep0 {e:o5}(h:(((decide ((e.A7.length:Int)<1))||(decide ((e.A7.length:Int)>8)))|| !((decide (e.as4>=0))&&(decide (e.as4<46080))))=false):1<=e.A7.length/\e.A7.length<=8/\0<=e.as4/\e.as4<46080:=by
 simp only[cw7,dQ6,aK5,fl2,fl3]at h
 omega
theorem cb2 {n:Nat}{p:Nat->Bool}:(dI4 0 n).all p=true↔∀k,k<n->p k=true:=by
 rw[bt1]
 constructor
 ·intro h k hk
  exact h k (by rw[List.mem_range'_1];omega)
 ·intro h k hk
  rw[List.mem_range'_1]at hk
  exact h k (by omega)
theorem ao7 (e:o5):P0 e=some (decide (aE5 e)):=by
 unfold P0 ai4
 have hb:(ak4 (bif ((decide ((e.A7.length:Int)<1))||(decide ((e.A7.length:Int)>8)))then(some true)else(ak4 (some ((decide (e.as4>=0))&&(decide (e.as4<46080)))) fun v=>some (!v))):(Bool->Option Bool)->Option Bool)=fun k=>k (((decide ((e.A7.length:Int)<1))||(decide ((e.A7.length:Int)>8)))|| !((decide (e.as4>=0))&&(decide (e.as4<46080)))):=by
  funext k
  cases((decide ((e.A7.length:Int)<1))||(decide ((e.A7.length:Int)>8)))<;>rfl
 rw[hb]
 cases hh:(((decide ((e.A7.length:Int)<1))||(decide ((e.A7.length:Int)>8)))|| !((decide (e.as4>=0))&&(decide (e.as4<46080))))
 ·obtain⟨h1,h2,h3,h4⟩:=ep0 hh
  have k:=eb5 (mb:=as6 e) (fun i=>(i:Int)+1) (p:=fun i=>decide (((i:Int)+1)∈e.A7)) (b0:=.inl ((e.A7.length:Int)+1)) (b1:=.inr false) e.A7.length (by
   unfold as6
   rw[show decide ((e.A7.length:Int)+1<=(e.A7.length:Int))=false by simp;omega];rfl) (fun k hk=>by
   unfold as6
   simp only[show decide ((k:Int)+1<=(e.A7.length:Int))=true by simp;omega,fk7,contains_eq e.A7 _ (by omega),aF2,j4 (n:=(k:Int)+1+1) (by omega) (by omega)]
   cases decide (((k:Int)+1)∈e.A7)<;>rfl)
  simp only[show((0:Nat):Int)+1=1 from rfl]at k
  simp only[fk6]
  rw[k]
  have hP:aE5 e↔(dI4 0 e.A7.length).all (fun i=>decide (((i:Int)+1)∈e.A7))=true:=by
   rw[cb2]
   simp only[fl2]
   rw[ed2]
   unfold aE5
   constructor
   ·rintro⟨_,_,_,_,h5,h6⟩;exact⟨h5,h6⟩
   ·rintro⟨h5,h6⟩;exact⟨h1,h2,h3,h4,h5,h6⟩
  rw[eT0 hP]
  cases(dI4 0 e.A7.length).all (fun i=>decide (((i:Int)+1)∈e.A7))<;>rfl
 ·simp only[fk7]
  rw[fk9 (eo9 hh)]
end Go.Pv.Ev
namespace Go.Pv
open Go
def k0:C1:=⟨0,100,0⟩
def eQ2:A9:=⟨⟨0,0,false⟩,⟨0⟩,[],⟨false,false,0,0,[]⟩,0,⟨0,0⟩⟩
def dL1:N1:=⟨false,false,1000,0,cr7 9 ⟨0,0⟩⟩
def eI8 (n:Nat):A9:=⟨⟨0,0,false⟩,⟨0⟩,cr7 n k0,dL1,0,⟨0,-1⟩⟩
theorem ee3 (n:Nat)(h1:1<=n)(h8:n<=8):Q0 [k0] (n:Int)=some (cr7 n k0):=by
 have key:L8 aK3 (1,aJ3 (cr7 n ⟨0,0,0⟩) [k0])=some (.inl ((n:Int),cr7 n k0)):=by
  have:n=1\/n=2\/n=3\/n=4\/n=5\/n=6\/n=7\/n=8:=by omega
  rcases this with rfl|rfl|rfl|rfl|rfl|rfl|rfl|rfl
  ·exact E6 (by rfl)
  ·exact(H3 (s':=(2,[k0,k0])) (by rfl)).trans (E6 (by rfl))
  ·exact(H3 (s':=(2,[k0,k0,⟨0,0,0⟩])) (by rfl)).trans ((H3 (s':=(3,[k0,k0,k0])) (by rfl)).trans (E6 (by rfl)))
  ·exact(H3 (s':=(2,[k0,k0,⟨0,0,0⟩,⟨0,0,0⟩])) (by rfl)).trans ((H3 (s':=(4,[k0,k0,k0,k0])) (by rfl)).trans (E6 (by rfl)))
  ·exact(H3 (s':=(2,[k0,k0,⟨0,0,0⟩,⟨0,0,0⟩,⟨0,0,0⟩])) (by rfl)).trans ((H3 (s':=(4,[k0,k0,k0,k0,⟨0,0,0⟩])) (by rfl)).trans ((H3 (s':=(5,[k0,k0,k0,k0,k0])) (by rfl)).trans (E6 (by rfl))))
  ·exact(H3 (s':=(2,[k0,k0,⟨0,0,0⟩,⟨0,0,0⟩,⟨0,0,0⟩,⟨0,0,0⟩])) (by rfl)).trans ((H3 (s':=(4,[k0,k0,k0,k0,⟨0,0,0⟩,⟨0,0,0⟩])) (by rfl)).trans ((H3 (s':=(6,[k0,k0,k0,k0,k0,k0])) (by rfl)).trans (E6 (by rfl))))
  ·exact(H3 (s':=(2,[k0,k0,⟨0,0,0⟩,⟨0,0,0⟩,⟨0,0,0⟩,⟨0,0,0⟩,⟨0,0,0⟩])) (by rfl)).trans ((H3 (s':=(4,[k0,k0,k0,k0,⟨0,0,0⟩,⟨0,0,0⟩,⟨0,0,0⟩])) (by rfl)).trans ((H3 (s':=(7,[k0,k0,k0,k0,k0,k0,k0])) (by rfl)).trans (E6 (by rfl))))
  ·exact(H3 (s':=(2,[k0,k0,⟨0,0,0⟩,⟨0,0,0⟩,⟨0,0,0⟩,⟨0,0,0⟩,⟨0,0,0⟩,⟨0,0,0⟩])) (by rfl)).trans ((H3 (s':=(4,[k0,k0,k0,k0,⟨0,0,0⟩,⟨0,0,0⟩,⟨0,0,0⟩,⟨0,0,0⟩])) (by rfl)).trans ((H3 (s':=(8,[k0,k0,k0,k0,k0,k0,k0,k0])) (by rfl)).trans (E6 (by rfl))))
 have a1:bB7 (ba6.wrap (([k0]:List C1).length:Int)) (ba6.wrap (n:Int))=some (0,(n:Int)):=by
  have:n=1\/n=2\/n=3\/n=4\/n=5\/n=6\/n=7\/n=8:=by omega
  rcases this with rfl|rfl|rfl|rfl|rfl|rfl|rfl|rfl<;>rfl
 have a2:aY5 (j5 (n:Int)) (⟨0,0,0⟩:C1)=some (cr7 n ⟨0,0,0⟩):=by
  have:n=1\/n=2\/n=3\/n=4\/n=5\/n=6\/n=7\/n=8:=by omega
  rcases this with rfl|rfl|rfl|rfl|rfl|rfl|rfl|rfl<;>rfl
 have a3:(((min ([k0]:List C1).length (cr7 n (⟨0,0,0⟩:C1)).length:Nat):Int))=1:=by rw[fb5,cJ4];omega
 unfold Q0
 rw[fk9 (by omega),fk6,aF2,a1,aF2]
 simp only
 rw[fk9 (by omega:¬(0:Int)>0),fk9 (by omega),eN9,fk6,aF2,a2,aF2,a3,key]
 rfl
theorem ed7:aL8=some dL1:=rfl
theorem bQ9 (e:o5):aA5 e=some (bif decide (Ev.aE5 e)then(eI8 e.A7.length,0)else(eQ2,1)):=by
 unfold aA5
 rw[Ev.ao7,aF2]
 by_cases h:Ev.aE5 e
 ·rw[fk8 h,aX5,fk6]
  have h1:=h.1
  have h8:=h.2.1
  have:aV2 (e.A7.length:Int)=some (cr7 e.A7.length k0,0):=by
   unfold aV2
   rw[fk9 (by omega),fk9 (by omega),eN9,fk6,show([(⟨0,100,0⟩:C1)]:List C1)=[k0]from rfl,ee3 _ h1 h8]
   rfl
  rw[this,ed7]
  rfl
 ·rw[fk9 h];rfl
def cZ3 (p:V1):Bool:=decide (0<=p.Value/\p.Value<=1000/\0<=p.aj4/\p.aj4<=3/\(p.aV9=true↔p.aj4=3)/\(p.aV9=true->p.Value<=200))
theorem eu6 (p:V1):ax9 p=some (cZ3 p):=by
 obtain⟨v,d,f⟩:=p
 unfold ax9 cZ3
 cases f
 ·simp only[fk6,aF2,aI6]
  apply bc2
  by_cases q:d=3<;>simp[q]<;>omega
 ·simp only[fk7,aF2,aI6]
  apply bc2
  by_cases q:d=3<;>simp[q]<;>omega
def db7 (c:ac0):Bool:=inR (-100) 100 c.Value&&inR 0 1000 c.Count
def cR9 (p:N1):Bool:=inR 750 1250 p.ak6&&inR 0 1000 p.be2&&decide (p.Cells.length=9)&&(p.K5||(decide (p.ak6=1000)&&decide (p.be2=0)&& !p.be1))&&p.Cells.all db7
def em0 (c:ac0):ac1 c=some (!db7 c):=by
 unfold ac1 db7
 rw[show S7 c.Value (-100) 100=some (inR (-100) 100 c.Value)from rfl,show S7 c.Count 0 1000=some (inR 0 1000 c.Count)from rfl]
 cases inR (-100) 100 c.Value<;>rfl
theorem dK5 (p:N1):ad1 p=some (cR9 p):=by
 unfold ad1 cR9
 rw[show S7 p.ak6 750 1250=some (inR 750 1250 p.ak6)from rfl,show S7 p.be2 0 1000=some (inR 0 1000 p.be2)from rfl,aF2]
 cases inR 750 1250 p.ak6
 ·rfl
 cases inR 0 1000 p.be2
 ·rfl
 by_cases h9:p.Cells.length=9
 ·have:((p.Cells.length:Int) !=9)=false:=by simp;omega
  have k:R7 p.Cells ac1=some (p.Cells.any fun c=>!db7 c):=ai7 p.Cells (by omega) ac1 _ (fun c _=>em0 c)
  rw[this,k,fk8 h9,dE7]
  simp only[aX5,cr8,fk6,fk7,aF2,cA6,eN9,eH7]
  cases p.K5
  ·have e:((p.ak6 !=1000||p.be2 !=0)||p.be1)= !(decide (p.ak6=1000)&&decide (p.be2=0)&& !p.be1):=by
    cases p.be1<;>by_cases a:p.ak6=1000<;>by_cases b:p.be2=0<;>simp[a,b]
   simp only[cr8,fk7,aF2,ec6]
   rw[e]
   cases(decide (p.ak6=1000)&&decide (p.be2=0)&& !p.be1)<;>rfl
  ·rfl
 ·have:((p.Cells.length:Int) !=9)=true:=by simp;omega
  rw[this,fk9 h9]
  rfl
def knB (k:C1):Bool:=inR 0 960 k.at5&&inR 0 4095 k.aI2&&decide (k.Quiet>=0)&&decide (k.Quiet<=99)
theorem eO9 (k:C1):ax4 k=some (knB k):=by
 unfold ax4 knB
 rw[show ai0 k.aI2=some (inR 0 4095 k.aI2)from rfl,show(decide (k.at5>=0)&&decide (k.at5<=960))=inR 0 960 k.at5 from rfl]
 have e:decide (k.Quiet<100)=decide (k.Quiet<=99):=by apply bc2;rw[fl2,fl2];omega
 rw[e]
 cases inR 0 960 k.at5<;>rfl
def bA2 (e:o5)(c:A9):Bool:=decide (Ev.aE5 e)&&cZ3 c.L5&&cR9 c.Q5&&decide (c.ab9.length=e.A7.length)&&c.ab9.all knB&&inR (-4398046511104) 4398046511104 c.af5.Sum&&inR 0 1073741824 c.P5&&inR (-5000) 10000 c.af8.o9&&inR (-1) 15 c.af8.N7
theorem dR4 (e:o5)(c:A9):aq1 e c=some (bA2 e c):=by
 unfold aq1 bA2
 rw[Ev.ao7,eu6,dK5]
 simp only[aF2]
 by_cases h:Ev.aE5 e
 ·rw[fk8 h]
  cases cZ3 c.L5
  ·rfl
  cases cR9 c.Q5
  ·rfl
  by_cases hl:c.ab9.length=e.A7.length
  ·have:((c.ab9.length:Int) !=(e.A7.length:Int))=false:=by simp;omega
   have h8:=h.2.1
   have k:J5 c.ab9 al0=some (c.ab9.any fun k=>!knB k):=ai7 c.ab9 (by omega) al0 _ (fun k _=>by unfold al0;rw[eO9];rfl)
   rw[this,fk8 hl,k,dE7]
   simp only[aX5,cr8,fk6,fk7,aF2,cA6,eN9,eH7]
   rw[show J8 c.af5.Sum (-4398046511104) 4398046511104=some (inR (-4398046511104) 4398046511104 c.af5.Sum)from rfl,show J8 c.P5 0 1073741824=some (inR 0 1073741824 c.P5)from rfl,
    show J8 c.af8.o9 (-5000) 10000=some (inR (-5000) 10000 c.af8.o9)from rfl,show J8 c.af8.N7 (-1) 15=some (inR (-1) 15 c.af8.N7)from rfl]
   cases c.ab9.all knB
   ·rfl
   cases inR (-4398046511104) 4398046511104 c.af5.Sum
   ·rfl
   cases inR 0 1073741824 c.P5
   ·rfl
   cases inR (-5000) 10000 c.af8.o9<;>rfl
  ·have:((c.ab9.length:Int) !=(e.A7.length:Int))=true:=by simp;omega
   rw[this,fk9 hl];rfl
 ·rw[fk9 h];rfl
def cU1 (r:j1):Bool:=decide (0<=r.N7/\r.N7<=15/\0<=r.E7/\r.E7<=15/\ -5000<=r.o9/\r.o9<=10000/\(r.Kind=1\/(r.N7<=1/\(r.Kind=2\/r.Kind=3))))
theorem dL7 (r:j1):S9 r=some (cU1 r):=by
 obtain⟨s,k,t,p⟩:=r
 unfold S9 cU1 P6
 simp only
 cases hb:((((decide (s<0))||(decide (s>15)))||(decide (p<0)))||(decide (p>15)))
 ·rw[fk6,aF2,aF2]
  cases ht:(decide (t>= -5000)&&decide (t<=10000))
  ·rw[cr8,fk7,aI6]
   symm;rw[fl3]
   simp at hb ht;omega
  ·rw[aX5,fk6]
   simp at hb ht
   by_cases q:k=1
   ·subst q
    simp;omega
   ·have:(k==1)=false:=by simp;exact q
    rw[this,fk6]
    by_cases z:s<=1
    ·rw[fk8 z,fk7,aF2,aF2,aI6]
     apply bc2
     simp;omega
    ·rw[fk9 z,fk6,aF2,aF2,aI6]
     symm;rw[fl3];omega
 ·rw[fk7,aF2,fk7,aI6]
  symm;rw[fl3]
  simp at hb;omega
def ek5 (i:X5)(n:Int):Bool:=inR 1 8 n&&decide ((i.Y1.length:Int)=n)&&decide (i.Requests.length<=30)&&inR 0 12000 i.D7&&inR 50 3000 i.N0&&inR (-40) 150 i.M0&&inR (-40) 150 i.av3&&inR 0 20000 i.aI5&&inR 0 20000 i.Lambda&&i.Y1.all (inR 0 4095)&&i.Requests.all cU1
theorem eS8 (x lo hi:Int):J8 x lo hi=some (inR lo hi x):=rfl
theorem eR6 (i:X5)(n:Int):av8 i n=some (ek5 i n):=by
 unfold av8 ek5
 simp only[eS8,aF2]
 cases hn:inR 1 8 n
 ·rfl
 have hn':1<=n/\n<=8:=by unfold inR at hn;simp at hn;omega
 by_cases hl:(i.Y1.length:Int)=n
 ·by_cases hr:i.Requests.length<=30
  ·have k:E4 i.Requests ah9=some (i.Requests.any fun k=>!cU1 k):=ai7 i.Requests (by omega) ah9 _ (fun k _=>by unfold ah9;rw[dL7];rfl)
   have h1:((i.Y1.length:Int) !=n)=false:=by simp;exact hl
   rw[h1,fk9 (by omega),fk8 hl,fk8 hr,k,be8 _ (by omega),dE7]
   simp only[aX5,cr8,fk6,fk7,aF2,cA6,eN9,eH7]
   cases inR 0 12000 i.D7
   ·rfl
   cases inR 50 3000 i.N0
   ·rfl
   cases inR (-40) 150 i.M0
   ·rfl
   cases inR (-40) 150 i.av3
   ·rfl
   cases inR 0 20000 i.aI5
   ·rfl
   cases inR 0 20000 i.Lambda
   ·rfl
   cases i.Y1.all (inR 0 4095)<;>rfl
  ·rw[fk8 (by omega:(i.Requests.length:Int)>30),fk9 hr,Bool.or_true,eP0];rfl
 ·have h1:((i.Y1.length:Int) !=n)=true:=by simp;exact hl
  rw[h1,fk9 hl];rfl
structure fc3 (p:V1):Prop where
 v:0<=p.Value/\p.Value<=1000
 d:0<=p.aj4/\p.aj4<=3
 f:p.aV9=true↔p.aj4=3
 l:p.aV9=true->p.Value<=200
theorem dT1 {p:V1}:cZ3 p=true↔fc3 p:=by
 unfold cZ3
 rw[fl2]
 exact⟨fun⟨a,b,c,d,e,f⟩=>⟨⟨a,b⟩,⟨c,d⟩,e,f⟩,fun⟨⟨a,b⟩,⟨c,d⟩,e,f⟩=>⟨a,b,c,d,e,f⟩⟩
def dz7 (p:V1)(a b:Int):V1:=
 let f:=min (max a 0) 1000
 let s:=2*min (max b 0) 500
 let w:=decide (max (f-s) (s-f)>50)
 let d:=if w then min 3 (p.aj4+1)else if p.aV9 then p.aj4 else 0
 if d=3 then⟨min (min f s) 200,d,true⟩else if w then⟨min (min f s) p.Value,d,false⟩else⟨f,d,false⟩
def cS8 {p:V1}(h:cZ3 p=true)(a b:Int):aM7 p a b=some (dz7 p a b,0)/\cZ3 (dz7 p a b)=true:=by
 have k:=dT1.1 h
 have k1:=k.v;have k2:=k.d;have k3:=k.f;have k4:=k.l
 constructor
 ·unfold aM7 dz7
  rw[eu6,h,aD1,aD1]
  simp only[aF2,aX5,fk6,aq6,am2]
  have f0:0<=min (max a 0) 1000/\min (max a 0) 1000<=1000:=by omega
  have s0:0<=min (max b 0) 500/\min (max b 0) 500<=500:=by omega
  generalize min (max a 0) 1000=f at f0
  generalize min (max b 0) 500=s at s0
  rw[j4 (n:=2*s) (by omega) (by omega),j4 (n:=f-2*s) (by omega) (by omega),j4 (n:=2*s-f) (by omega) (by omega),j4 (n:=p.aj4+1) (by omega) (by omega)]
  grind
 ·rw[dT1]
  unfold dz7
  simp only
  have f0:0<=min (max a 0) 1000/\min (max a 0) 1000<=1000:=by omega
  have s0:0<=min (max b 0) 500/\min (max b 0) 500<=500:=by omega
  generalize min (max a 0) 1000=f at f0
  generalize min (max b 0) 500=s at s0
  have hd:∀w:Bool,0<=(if w=true then min 3 (p.aj4+1)else if p.aV9=true then p.aj4 else 0)/\(if w=true then min 3 (p.aj4+1)else if p.aV9=true then p.aj4 else 0)<=3:=by
   intro w;split
   ·omega
   ·split<;>omega
  have hd:=hd (decide (max (f-2*s) (2*s-f)>50))
  generalize(if decide (max (f-2*s) (2*s-f)>50)=true then min 3 (p.aj4+1)else if p.aV9=true then p.aj4 else 0)=d at hd
  by_cases h3:d=3
  ·rw[if_pos h3];exact⟨by simp only;omega,hd,⟨fun _=>h3,fun _=>rfl⟩,fun _=>by simp only;omega⟩
  ·rw[if_neg h3]
   split
   ·exact⟨by simp only;omega,hd,⟨fun h=>(by cases h),fun h=>absurd h h3⟩,fun h=>(by cases h)⟩
   ·exact⟨by simp only;omega,hd,⟨fun h=>(by cases h),fun h=>absurd h h3⟩,fun h=>(by cases h)⟩
def dE1 (t:o7)(v s:Int):Int:=min (max (sAt t.aI4 s v) (-5000)) 10000
def eM7 {t:o7}(h:bp9 t.aI4=true){v s:Int}(v0:0<=v/\v<=1000)(s0:0<=s/\s<=12000):aM8 t v s=some (dE1 t v s,0):=by
 unfold aM8
 rw[ao7,h,cU5 h]
 simp only[aF2,aX5,fk6]
 rw[show(((decide (v<0))||(decide (v>1000)))||(decide (s<0)))=false by grind,show decide (s>12000)=false from fk9 (by omega),aD1,aq6,am2]
 rfl
def dN9 (t:o7)(v s:Int):-5000<=dE1 t v s/\dE1 t v s<=10000:=by grind [dE1]
def cy8 (c:Int):Int:=if c<= -20 then 1200 else if c>=70 then 800 else 1200-400*(c+20)/90
theorem dN1 {c:Int}(h:-40<=c/\c<=150):ax3 c=some (cy8 c)/\800<=cy8 c/\cy8 c<=1200:=by
 unfold ax3 cy8
 by_cases h1:c<= -20
 ·grind
 ·by_cases h2:c>=70
  ·grind
  ·rw[fk9 h1,fk9 h2,if_neg h1,if_neg h2,j4 (n:=c+20) (by omega) (by omega),j4 (n:=400*(c+20)) (by omega) (by omega),cx1 (by omega),j4 (n:=400*(c+20)/90) (by omega) (by omega),j4 (by omega) (by omega)]
   grind
def dF5 (v s c:Int):Bool:=inR 0 19 v&&(inR 0 12000 s&&decide (s<cy8 c+300))
def ei3 {v s c:Int}(h:-40<=c/\c<=150):ax2 v s c=some (dF5 v s c):=by
 obtain⟨h1,h2⟩:=dN1 h
 unfold ax2 bc7 dF5
 rw[h1,show(decide (v>=0)&&decide (v<20))=inR 0 19 v by unfold inR;grind,show ak0 s=some (inR 0 12000 s)from rfl]
 simp only[aF2]
 rw[j4 (by omega) (by omega)]
 grind
def bU5 (s:F9):Prop:=-4398046511104<=s.Sum/\s.Sum<=4398046511104
def eH5 {s:F9}{g:aW0}(hg:cB3 g=true)(hs:bU5 s){e:Int}(e0:-1048576<=e/\e<=1048576):∃s' u,aq5 s g e=some (s',u,0)/\bU5 s':=by
 have hs':=hs
 unfold bU5 at hs'
 unfold aq5
 rw[show Q9 g=some (cB3 g)from rfl,hg]
 simp only[aF2]
 rw[show((!true||decide (s.Sum<(-4398046511104)))||decide (s.Sum>4398046511104))=false by grind]
 rw[show(decide (e<(-1048576))||decide (e>1048576))=false by grind]
 simp only[fk6]
 generalize G3 .i64 (j5 ((j5 (g.P*e))+s.Sum)) 10=u
 generalize(decide (u<=g.bt7)||decide (e<=0))=A
 generalize(decide (u>=g.Low)||decide (e>=0))=B
 cases A
 ·exact⟨s,_,rfl,hs⟩
 ·cases B
  ·exact⟨s,_,rfl,hs⟩
  ·refine⟨⟨_⟩,_,rfl,?_⟩
   grind [bU5,aq6,am2]
def er3 {s:F9}{g:aW0}(hg:cB3 g=true)(hs:bU5 s){c v:Int}(c0:-40<=c/\c<=150)(v0:0<=v/\v<=12000):∃s' u,aE9 s g (cy8 c) v=some (s',u,0)/\bU5 s':=by
 obtain⟨_,t0,t1⟩:=dN1 c0
 obtain⟨s',u,h1,h2⟩:=eH5 hg hs (e:=cy8 c-v) (by omega)
 refine⟨s',u,?_,h2⟩
 unfold aE9
 rw[show Q9 g=some (cB3 g)from rfl,hg,show ak0 (cy8 c)=some (inR 0 12000 (cy8 c))from rfl,show ak0 v=some (inR 0 12000 v)from rfl,U8 (show 0<=cy8 c by omega) (by omega),U8 v0.1 v0.2,j4 (by omega) (by omega)]
 grind
structure fl8 (k:C1):Prop where
 r:0<=k.at5/\k.at5<=960
 n:0<=k.aI2/\k.aI2<=4095
 q:0<=k.Quiet/\k.Quiet<=99
theorem eW4 {k:C1}:knB k=true↔fl8 k:=by
 unfold knB
 simp only[aK5,ba5,fl2]
 exact⟨fun⟨⟨⟨a,b⟩,c⟩,d⟩=>⟨a,b,c,d⟩,fun⟨a,b,c,d⟩=>⟨⟨⟨a,b⟩,c⟩,d⟩⟩
def kst (k:C1)(n:Int):C1:=
 if n>3*k.aI2+40 then⟨min (k.at5+96) 960,k.aI2,0⟩
 else if k.Quiet+1=100 then⟨max (k.at5-16) 0,k.aI2+(n-k.aI2)/8,0⟩else⟨k.at5,k.aI2+(n-k.aI2)/8,k.Quiet+1⟩
def eW5 {k:C1}{n:Int}(h:knB k=true)(n0:inR 0 4095 n=true):(∃b,aH8 k n=some (kst k n,b))/\knB (kst k n)=true:=by
 have o:=eW4.1 h
 have o1:=o.r;have o2:=o.n;have o3:=o.q
 have n1:=ba5.1 n0
 constructor
 ·unfold aH8 kst
  rw[j4 (n:=3*k.aI2) (by omega) (by omega),j4 (n:=3*k.aI2+40) (by omega) (by omega)]
  by_cases h1:n>3*k.aI2+40
  ·rw[fk8 h1,if_pos h1,j4 (n:=k.at5+96) (by omega) (by omega),aq6]
   simp
  ·rw[fk9 h1,if_neg h1,j4 (n:=k.Quiet+1) (by omega) (by omega),j4 (n:=k.at5-16) (by omega) (by omega),j4 (n:=n-k.aI2) (by omega) (by omega),bR5 _ _ (by omega) (by omega) (by omega) (by omega),am2]
   by_cases h2:k.Quiet+1=100
   ·rw[show(k.Quiet+1==100)=true from beq_iff_eq.2 h2,if_pos h2]
    simp only[fk6,fk7,aF2]
    rw[j4 (by omega) (by omega)]
    simp
   ·rw[show(k.Quiet+1==100)=false from beq_eq_false_iff_ne.2 h2,if_neg h2]
    simp only[fk6,fk7,aF2]
    rw[j4 (by omega) (by omega)]
    simp
 ·rw[eW4]
  unfold kst
  split
  ·exact⟨by grind,by omega,by simp⟩
  ·split
   ·exact⟨by grind,by grind,by simp⟩
   ·exact⟨by omega,by grind,by grind⟩
def ksV (l:List C1)(m:List Int):List C1:=List.zipWith kst l m
def eP1 {l:List C1}{m:List Int}(h:l.all knB=true)(hm:m.all (inR 0 4095)=true)(hl:1<=l.length/\l.length<=8)(he:m.length=l.length):
  aV1 l m=some (ksV l m,0)/\(ksV l m).all knB=true/\(ksV l m).length=l.length:=by
 rw[bt1]at h hm
 have hlen:(ksV l m).length=l.length:=by grind [ksV]
 have dm4:∀j (h1:j<l.length) (h2:j<m.length),(ksV l m)[j]? =some (kst l[j] m[j]):=by
  grind [ksV]
 have hk:∀j (h1:j<l.length) (h2:j<m.length),(∃b,aH8 l[j] m[j]=some (kst l[j] m[j],b))/\knB (kst l[j] m[j])=true:=fun j h1 h2=>eW5 (h _ (bf3 h1)) (hm _ (bf3 h2))
 refine⟨?_,?_,hlen⟩
 ·have a1:J5 l aB3=some (l.any fun k=>!knB k):=ai7 l (by omega) aB3 _ (fun k _=>by unfold aB3;rw[eO9];rfl)
  have a2:o6 m aG3=some (m.any fun k=>!inR 0 4095 k):=aq0 m (by omega) aG3 _ (fun k _=>rfl)
  have b1:(l.any fun k=>!knB k)=false:=by rw[dE4];intro x hx;rw[h x hx];simp
  have b2:(m.any fun k=>!inR 0 4095 k)=false:=by rw[dE4];intro x hx;rw[hm x hx];simp
  unfold aV1
  rw[show(((decide ((l.length:Int)<1))||(decide ((l.length:Int)>8)))||((m.length:Int) !=(l.length:Int)))=false by simp;omega,a1,b1,a2,b2]
  simp only[fk6,aF2]
  unfold ae2
  rw[I1 _ _ (by simp;omega)]
  simp only[aF2,cZ2]
  obtain⟨u,e,hu⟩:=ag9 l.length (by omega) (aM5 l m) (fun i u=>u.length=l.length/\∀j,j<i->u[j]? =(ksV l m)[j]?) l ⟨rfl,fun j hj=>by omega⟩ (fun j hj u hu=>by
   obtain⟨⟨b,hb⟩,_⟩:=hk j hj (by omega)
   unfold aM5
   rw[D1 _ _ hj,D1 _ _ (show j<m.length by omega)]
   simp only[aF2]
   rw[hb]
   simp only[aF2]
   rw[D1 _ _ (by omega)]
   simp only[aF2]
   rw[U5 _ _ _ (by omega)]
   refine⟨_,rfl,by simp[hu.1],fun i hi=>?_⟩
   rcases cZ9 i j with h|h
   ·rw[fb8 (by omega)];exact hu.2 i h
   ·have:i=j:=by omega
    subst this
    rw[List.getElem?_set_self (by omega),dm4 i hj (by omega)])
  rw[e]
  have:u=ksV l m:=by
   apply List.ext_getElem?
   intro i
   rcases cZ9 i l.length with h|h
   ·exact hu.2 i h
   ·rw[eE7 (by omega),eE7 (by omega)]
  rw[this]
  rfl
 ·rw[bt1]
  intro x hx
  obtain⟨j,hj,rfl⟩:=cW9.1 hx
  have h1:j<l.length:=by omega
  have:=dm4 j h1 (by omega)
  rw[aX4 hj]at this
  rw[Option.some.inj this]
  exact(hk j h1 (by omega)).2
structure fc2 (p:N1):Prop where
 f:750<=p.ak6/\p.ak6<=1250
 w:0<=p.be2/\p.be2<=1000
 n:p.Cells.length=9
 a:p.K5=true\/(p.ak6=1000/\p.be2=0/\p.be1=false)
 c:p.Cells.all db7=true
theorem et2 {p:N1}:cR9 p=true↔fc2 p:=by
 unfold cR9
 simp only[aK5,ba5,fl2,cH4,bG5]
 exact⟨fun⟨⟨⟨⟨a,b⟩,c⟩,d⟩,e⟩=>⟨a,b,c,d.imp_right (fun h=>⟨h.1.1,h.1.2,h.2⟩),e⟩,fun⟨a,b,c,d,e⟩=>⟨⟨⟨⟨a,b⟩,c⟩,d.imp_right (fun h=>⟨⟨h.1,h.2.1⟩,h.2.2⟩)⟩,e⟩⟩
def mxR (p:N1)(m:Int):Bool:=decide (m>500)||(decide (m>=400)&&p.be1)
def mxV (p:N1)(m:Int):N1:=
 bif p.K5 then
  (bif mxR p m==p.be1 then⟨true,mxR p m,min (max (p.ak6+bif mxR p m then -1 else 1) 750) 1250,min 1000 (p.be2+1),p.Cells⟩
  else⟨true,mxR p m,min (max (p.ak6+bif mxR p m then -15 else 15) 750) 1250,0,p.Cells⟩)
 else⟨decide (m<300)||decide (m>600),decide (m>600),p.ak6,p.be2,p.Cells⟩
theorem fg9 (x lo hi:Int):S7 x lo hi=some (inR lo hi x):=rfl
theorem dA1 (s c:Int):ad3 s c=some (inR 0 12000 s&&inR 0 1048576 c):=by
 grind [ad3,fg9]
def dg0 {p:N1}(h:cR9 p=true){m s c:Int}(m0:0<=m/\m<=20000)(s0:0<=s/\s<=12000)(c0:0<=c/\c<=1048576):az9 p m s c=some (mxV p m,0)/\cR9 (mxV p m)=true:=by
 have k:=et2.1 h
 have k1:=k.f;have k2:=k.w;have k3:=k.n
 constructor
 ·unfold az9 ax5 ah3 mxV
  rw[dK5,h,dA1,U8 s0.1 s0.2,U8 c0.1 c0.2,fg9,U8 m0.1 m0.2,I1 _ _ (by simp;omega)]
  simp only[aF2,aX5,fk6,Bool.and_self,cZ2]
  cases ha:p.K5
  ·rfl
  ·simp only[aX5,fk6,fk7]
   have hr:(bif (decide (m>500))then(some true)else(some ((decide (m>=400))&&p.be1)))=some (mxR p m):=by grind [mxR]
   rw[hr,j4 (n:=p.be2+1) (by omega) (by omega)]
   simp only[aF2,aq6]
   cases mxR p m==p.be1
   ·simp only[cr8,fk7,fk6,aF2]
    cases mxR p m
    ·simp only[fk6,aF2,aD1,aq6,am2]
     grind [j4]
    ·simp only[fk7,aF2,aD1,aq6,am2]
     grind [j4]
   ·simp only[aX5,fk7,fk6,aF2]
    cases mxR p m
    ·simp only[fk6,aF2,aD1,aq6,am2]
     rw[j4 (by omega) (by omega)]
    ·simp only[fk7,aF2,aD1,aq6,am2]
     rw[j4 (n:=0-1) (by omega) (by omega),j4 (by omega) (by omega)]
     rfl
 ·rw[et2]
  unfold mxV
  cases ha:p.K5
  ·have a:=k.a
   rw[ha]at a
   obtain⟨a1,a2,a3⟩:=a.resolve_left (by simp)
   refine⟨k1,k2,k3,?_,k.c⟩
   by_cases hm:m>600
   ·exact .inl (by show(decide (m<300)||decide (m>600))=true;rw[fk8 hm,Bool.or_true])
   ·exact .inr ⟨a1,a2,fk9 hm⟩
  ·simp only[fk7]
   cases mxR p m==p.be1
   ·exact⟨by simp only[fk6];omega,by simp only[fk6];omega,k3,.inl rfl,k.c⟩
   ·exact⟨by simp only[fk7];omega,by simp only[fk7];omega,k3,.inl rfl,k.c⟩
def dl1 (x a b:Int):Nat:=if x>=b then 2 else if x>=a then 1 else 0
theorem em6 (x a b:Int)(hab:a<=b):al3 x [a,b]=some (dl1 x a b:Int):=by
 have w1:j5 ((0:Int)+1)=1:=by decide
 have w2:j5 ((1:Int)+1)=2:=by decide
 unfold al3 dl1
 rw[L0 _ (by simp)]
 simp only[N4,aC4]
 grind
def dc6 (x a b:Int):dl1 x a b<=2:=by grind [dl1]
def dP2 (s c:Int):Nat:=3*dl1 s 1500 3500+dl1 c 150000 350000
def cP6 (p:N1)(s c:Int):Int:=min (max (p.ak6+(p.Cells.getD (dP2 s c) ⟨0,0⟩).Value) 700) 1300
def eU5 {p:N1}(h:cR9 p=true){s c:Int}(s0:0<=s/\s<=12000)(c0:0<=c/\c<=1048576):aq8 p s c=some (cP6 p s c,0):=by
 have k:=et2.1 h
 have k1:=k.f;have k3:=k.n
 have q1:=dc6 s 1500 3500
 have q2:=dc6 c 150000 350000
 have hc:dP2 s c<p.Cells.length:=by grind [dP2]
 have cm8:=bt1.1 k.c _ (bf3 hc)
 unfold db7 at cm8
 rw[aK5,ba5]at cm8
 have hv:=cm8.1
 unfold aq8 aG4
 rw[dK5,h,dA1,U8 s0.1 s0.2,U8 c0.1 c0.2,em6 _ _ _ (by omega),em6 _ _ _ (by omega)]
 simp only[aF2,aX5,fk6,Bool.and_self]
 rw[j4 (n:=3*(dl1 s 1500 3500:Int)) (by omega) (by omega),j4 (by omega) (by omega),show 3*(dl1 s 1500 3500:Int)+(dl1 c 150000 350000:Int)=((dP2 s c:Nat):Int) by rfl,D1 _ _ hc]
 grind [cP6,j4,aD1,aq6,am2]
def dZ4 (p:N1)(s c:Int):700<=cP6 p s c/\cP6 p s c<=1300:=by grind [cP6]
theorem dl4 (x lo hi:Int):af7 x lo hi=some (inR lo hi x):=rfl
theorem ep7 {c:Int}(c0:0<=c/\c<=1048576):aU8 c 1000=some (c*10000/147000,0):=by
 unfold aU8
 rw[dl4,dl4,U8 c0.1 c0.2,show inR 500 2000 1000=true from rfl]
 simp only[aF2,aX5,fk6]
 grind [j4,eJ8]
theorem dv6 {b:L6}(h:aW2 b=true):aJ6 b=some true:=by
 have k:=bt9 h
 have k1:=k.fi;have k2:=k.ev
 grind [aJ6,dl4,U8]
def aZ5 (b:L6)(i:Int):Int:=i*b.P5/1024
def aJ7 (b:L6)(f:Int):Int:=f*b.M4/1024
def cW3 {b:L6}(h:aW2 b=true){i:Int}(i0:0<=i):0<=aZ5 b i/\aZ5 b i<=i:=by
 have k:=(bt9 h).fi
 have b1:=aV5 (A:=i) i0 (dj2 i) k.1 k.2
 grind [aZ5]
def bA3 {b:L6}(h:aW2 b=true){i:Int}(i0:0<=i):0<=aJ7 b i/\aJ7 b i<=i:=by
 have k:=(bt9 h).ev
 have b1:=aV5 (A:=i) i0 (dj2 i) (show 0<=b.M4 by omega) k.2
 grind [aJ7]
theorem cQ5 {b:L6}(h:aW2 b=true){f i:Int}(f0:0<=f/\f<=1073741824)(i0:0<=i/\i<=1048576):aC3 b f i=some (i-aZ5 b i+aJ7 b f,f+aZ5 b i-aJ7 b f):=by
 have k:=bt9 h
 have k1:=k.fi;have k2:=k.ev
 have b1:=aV5 i0.1 i0.2 k1.1 k1.2
 have b2:=aV5 f0.1 f0.2 (show 0<=b.M4 by omega) k2.2
 have r1:=cW3 h i0.1
 have r2:=bA3 h f0.1
 have e1:j5 (cW7 (j5 (i*b.P5)) 1024)=aZ5 b i:=by
  grind [aZ5,j4]
 have e2:j5 (cW7 (j5 (f*b.M4)) 1024)=aJ7 b f:=by
  grind [aJ7,j4]
 grind [aC3,j4]
theorem ep3 {b:L6}(h:aW2 b=true){f:Int}(f0:0<=f/\f<=1073741824):aP2 b f 0=some (aJ7 b f,f-aJ7 b f,0):=by
 have r2:=bA3 h f0.1
 have e0:aZ5 b 0=0:=by simp[aZ5]
 unfold aP2
 rw[dv6 h,dl4,dl4,U8 f0.1 f0.2,show inR 0 1048576 0=true from rfl,cQ5 h f0 ⟨by omega,by omega⟩,e0]
 grind
theorem eG3 (f:Int->Option Int):aN3 f=ac5 (fun x=>ak4 (f x) fun v=>some (!decide (v>0))):=by
 funext s
 unfold aN3 ac5
 grind
def find_spec (n:Nat)(hn:n<=2305843009213693951)(f:Int->Option Int)(g:Nat->Int)(hf:∀i,i<n->f (i:Int)=some (g i)):
  ∃(k:Nat) (b:Bool),k<=n/\aP5 (n:Int) f=some ((k:Int),b)/\(0<k->g (k-1)>0)/\(k<n->g k<=0):=by
 obtain⟨k,k1,k2,k3,k4⟩:=aS5 n hn (fun x=>ak4 (f x) fun v=>some (!decide (v>0))) (fun i=>!decide (g i>0)) (fun i hi=>by grind)
 unfold Q3 at k2
 have h3:0<k->g (k-1)>0:=fun h=>by grind
 have h4:k<n->g k<=0:=fun h=>by grind
 unfold aP5
 rw[eG3]
 cases hl:L8 (ac5 (fun x=>ak4 (f x) fun v=>some (!decide (v>0)))) (0,(n:Int))with
 |none=>grind
 |some t=>
  rw[hl]at k2
  cases t with
  |inr r=>grind
  |inl s2=>
   simp only[aF2,aI6]at k2
   simp only[aF2]
   rw[k2]
   rcases cZ9 k n with h|h
   ·rw[fk8 (show(k:Int)<(n:Int) by omega),hf k h]
    exact⟨k,_,k1,rfl,h3,h4⟩
   ·rw[fk9 (show¬(k:Int)<(n:Int) by omega)]
    exact⟨k,_,k1,rfl,h3,h4⟩
structure ei2 (b:L6)(f m i x e:Int):Prop where
 out:e=0\/e=9
 inj:e=0->0<=i/\i<=1048576
 aG0:e=0->x=f+aZ5 b i-aJ7 b f
 ran:e=0->0<=x/\x<=1073741824
 fit:e=0->m<=i-aZ5 b i+aJ7 b f
 low:e=0->0<i->(i-1)-aZ5 b (i-1)+aJ7 b f<m
 big:e=9->1048576-aZ5 b 1048576+aJ7 b f<m\/∃j,0<=j/\j<=1048576/\m<=j-aZ5 b j+aJ7 b f/\(0<j->(j-1)-aZ5 b (j-1)+aJ7 b f<m)/\1073741824<f+aZ5 b j-aJ7 b f
def eq3 {b:L6}(h:aW2 b=true){f m:Int}(f0:0<=f/\f<=1073741824)(m0:0<=m/\m<=1048576):∃i x e,aJ5 b f m=some (i,x,e)/\ei2 b f m i x e:=by
 have r2:=bA3 h f0.1
 have r1:∀i:Int,0<=i->0<=aZ5 b i/\aZ5 b i<=i:=fun i hi=>cW3 h hi
 unfold aJ5
 rw[dv6 h,dl4,dl4,U8 f0.1 f0.2,U8 m0.1 m0.2]
 simp only[aF2,aX5,fk6]
 obtain⟨k,q,k1,k2,k3,k4⟩:=find_spec 1048577 (by omega) (fun x0=>aB2 x0 b f m) (fun i=>m-((i:Int)-aZ5 b (i:Int)+aJ7 b f)) (fun i hi=>by
  have:=r1 (i:Int) (by omega)
  unfold aB2
  rw[cQ5 h f0 ⟨by omega,by omega⟩]
  simp only[aF2]
  rw[j4 (by omega) (by omega)])
 have k2':aP5 1048577 (fun x0=>aB2 x0 b f m)=some ((k:Int),q):=k2
 rw[k2']
 simp only[aF2]
 by_cases hk:k=1048577
 ·subst hk
  refine⟨0,0,9,rfl,.inr rfl,fun h=>(by cases h),fun h=>(by cases h),fun h=>(by cases h),fun h=>(by cases h),fun h=>(by cases h),fun _=>.inl ?_⟩
  have:=k3 (by omega)
  rw[show(((1048577-1:Nat):Int))=1048576 by omega]at this
  omega
 ·have k4':=k4 (by omega)
  have rk:=r1 (k:Int) (by omega)
  rw[fk9 (show¬((k:Int)>1048576) by omega),cQ5 h f0 ⟨by omega,by omega⟩]
  simp only[fk6,aF2]
  have ea1:0<(k:Int)->((k:Int)-1)-aZ5 b ((k:Int)-1)+aJ7 b f<m:=fun hp=>by
   have:=k3 (by omega)
   rw[show((k-1:Nat):Int)=(k:Int)-1 by omega]at this
   omega
  by_cases hb:f+aZ5 b (k:Int)-aJ7 b f>1073741824
  ·rw[fk8 hb]
   exact⟨0,0,9,rfl,.inr rfl,fun h=>(by cases h),fun h=>(by cases h),fun h=>(by cases h),fun h=>(by cases h),fun h=>(by cases h),fun _=>.inr ⟨(k:Int),by omega,by omega,by omega,ea1,by omega⟩⟩
  ·rw[fk9 hb]
   exact⟨(k:Int),_,0,rfl,.inl rfl,fun _=>⟨by omega,by omega⟩,fun _=>rfl,fun _=>⟨by omega,by omega⟩,fun _=>by omega,fun _=>ea1,fun h=>(by cases h)⟩
def dQ1 {t:o7}(h:(by4 t.aw6&&t.aw6.Y.all (inR 0 10000))=true){a v:Int}(a0:0<=a/\a<=1048576)(v0:0<=v/\v<=20000):aC2 t a v=some (cAt t.aw6 v,0)/\0<=cAt t.aw6 v/\cAt t.aw6 v<=10000:=by
 rw[aK5]at h
 obtain⟨h1,h2⟩:=h
 have hl:=(bn2 h1).yl
 have hx:=(bn2 h1).x.most
 have hb:=cd5 h1 v (fa9 h1 h2)
 refine⟨?_,hb⟩
 have e:o6 t.aw6.Y aG1=some (t.aw6.Y.any fun y=>!inR 0 10000 y):=aq0 _ (by omega) _ _ (fun y _=>rfl)
 have e2:(t.aw6.Y.any fun y=>!inR 0 10000 y)=false:=by
  grind
 simp_all[aC2,aq2,dl4,U8,dH1]
def fa8 (m:Int):Int:=-((-m)/3)
theorem eq0 {t:o7}(h:(by4 t.aw6&&t.aw6.Y.all (inR 0 10000))=true){a v:Int}(a0:0<a/\a<=1048576)(v0:0<=v/\v<=20000):aP3 t a v=some (cAt t.aw6 v+fa8 a,0):=by
 obtain⟨h1,h2⟩:=dQ1 h (a:=a) (by omega) v0
 unfold aP3 an5 fa8
 rw[h1,bW5 _ _ 2 (by omega) (by omega) (by omega) (by omega) (.inr rfl)]
 simp only[aF2]
 rw[show(((0:Int) !=0)||(a==0))=false by grind]
 simp only[fk6]
 rw[if_neg (by decide),j4 (by omega) (by omega)]
theorem eb8 {t:o7}(h:(by4 t.aw6&&t.aw6.Y.all (inR 0 10000))=true){a v:Int}(a0:0<=a/\a<=1048576)(v0:0<=v/\v<=20000):aB1 t a v=some (3*max 0 (a-cAt t.aw6 v),0):=by
 obtain⟨h1,h2⟩:=dQ1 h a0 v0
 unfold aB1
 rw[h1]
 simp only[aF2]
 rw[show(((0:Int) !=0))=false from rfl,j4 (n:=a-cAt t.aw6 v) (by omega) (by omega),am2]
 simp only[fk6]
 grind [j4]
theorem bT4 (x lo hi:Int):R4 x lo hi=some (inR lo hi x):=rfl
theorem cy2 (l:List Int)(h:l.length<=9223372036854775807)(lo hi:Int):ad8 l lo hi=some (!l.all (inR lo hi)):=by
 unfold ad8
 rw[aq0 l h (fun x0=>at4 x0 lo hi) (fun x=>!inR lo hi x) (fun y _=>rfl),aF2,dE7]
 simp
theorem dB2 {t:o7}(h:bK7 t=true)(ht:aZ3 t=true):ay0 t=some true:=by
 have hc:=dD7 ht
 unfold bK7 at h
 unfold aZ3 at ht
 simp only[aK5]at h ht
 obtain⟨⟨⟨h1,h2⟩,h3⟩,h4⟩:=h
 obtain⟨⟨⟨⟨_,_⟩,t3⟩,t4⟩,_⟩:=ht
 have hm:=bZ6 h1
 have zl:=hm.zl
 have xm:=hm.x.most
 have ym:=hm.y.most
 have a1:=(bn2 h2).x.most
 have a2:=(bn2 h2).yl
 have b0:=bn2 hc
 have b1:=b0.x.most
 have b2:=b0.yl
 have hf:aG9 t.C7.Y=some true:=by
  have e:I3 t.C7.Y aB4=some (cA4 t.C7.Y):=df0 t.C7.Y (by omega) (fun i hi=>b0.el i (by omega))
  unfold aG9
  rw[e,t4];rfl
 have hz:G2 t.O2.Z aw4=some (t.O2.Z.any fun r=>!r.all (inR (-1280) 3840)):=ai7 _ (by omega) _ _ (fun r hr=>by
  obtain⟨k,hk,rfl⟩:=cW9.1 hr
  have rl:=hm.rl k hk
  unfold aw4
  rw[cy2 _ (by omega)];rfl)
 have hz2:(t.O2.Z.any fun r=>!r.all (inR (-1280) 3840))=false:=by
  rw[dE4]
  intro r hr
  rw[bt1.1 h3 r hr];simp
 unfold ay0
 rw[ao7,h1,aq2,h2,aq2,hc,hf,hz,hz2,cy2 _ (by omega),cy2 _ (by omega),h4,t3]
 rfl
def cv3 (t:o7)(v k:Int):Int:=min (cAt t.af6 v) (3*k/4)
def eo4 {t:o7}(h:bK7 t=true)(ht:aZ3 t=true){v k:Int}(v0:0<=v/\v<=20000)(k0:4000<=k/\k<=1000000):aG8 t v k=some (cv3 t v k,0)/\500<=cv3 t v k/\cv3 t v k<=10000:=by
 have hh:=h
 unfold bK7 at hh
 simp only[aK5]at hh
 have hb:=cd5 hh.1.1.2 v (fa9 hh.1.1.2 hh.2)
 unfold aG8 cv3
 rw[dB2 h ht,bT4,bT4,U8 v0.1 v0.2,U8 k0.1 k0.2,dH1 hh.1.1.2]
 simp only[aF2,aX5,fk6]
 rw[j4 (n:=3*k) (by omega) (by omega),cx1 (by omega),j4 (by omega) (by omega),aq6]
 grind
def dW3 (t:o7)(s c q r:Int):Int:=
 min (max (sAt t.O2 s c+(if q<20 then 2*(20-q)else if q>100 then -(8*(q-100))else 0)-r) (-1280)) 3840
theorem ej4 {t:o7}(h:bK7 t=true)(ht:aZ3 t=true){s c q r:Int}(s0:0<=s/\s<=12000)(c0:0<=c/\c<=1048576)(q0:-40<=q/\q<=150)(r0:0<=r/\r<=1280):aG7 t s c q r=some (dW3 t s c q r,0):=by
 have hh:=h
 unfold bK7 at hh
 simp only[aK5]at hh
 have hb:=cg6 hh.1.1.1 s c (fk4 hh.1.1.1 (fun r hr=>bt1.1 hh.1.2 r hr))
 have e:aN4 t s c=some (sAt t.O2 s c,0):=by
  simp_all[aN4,dB2,bT4,U8,cU5]
 unfold aG7 dW3
 rw[e]
 simp only[aF2]
 rw[show(((0:Int) !=0))=false from rfl,bT4,bT4,U8 q0.1 q0.2,U8 r0.1 r0.2]
 simp only[fk6,aF2,aX5]
 generalize sAt t.O2 s c=z at hb
 by_cases h1:q<20
 ·rw[fk8 h1,if_pos h1]
  simp only[fk7]
  grind [j4,aD1,aq6,am2]
 ·rw[fk9 h1,if_neg h1]
  simp only[fk6]
  by_cases h2:q>100
  ·rw[fk8 h2,if_pos h2]
   simp only[fk7]
   rw[j4 (n:=q-100) (by omega) (by omega),j4 (n:=8*(q-100)) (by omega) (by omega),j4 (n:=z-8*(q-100)) (by omega) (by omega),j4 (by omega) (by omega),aD1,aq6,am2]
   rfl
  ·rw[fk9 h2,if_neg h2]
   simp only[fk6]
   rw[j4 (by omega) (by omega),aD1,aq6,am2,Int.add_zero]
   rfl
def dW4 (t:o7)(s c q r:Int):-1280<=dW3 t s c q r/\dW3 t s c q r<=3840:=by grind [dW3]
end Go.Pv
namespace Go.Pv.Ar
open Go Go.Pv
theorem db5 {α:Type}(c:Bool)(x y:α):(bif c then some x else some y)=some (bif c then x else y):=by cases c<;>rfl
def cp3 (r:j1):Prop:=(0<=r.N7/\r.N7<=15)/\(0<=r.E7/\r.E7<=15)/\(-5000<=r.o9/\r.o9<=10000)/\(r.Kind=1\/(r.N7<=1/\(r.Kind=2\/r.Kind=3)))
instance (r:j1):Decidable (cp3 r):=by unfold cp3;infer_instance
theorem ao7 (r:j1):S9 r=some (decide (cp3 r)):=by
 unfold S9 P6
 simp only[aF2,db5]
 rw[aI6,dq3,fl2]
 unfold cp3
 simp only[Bool.cond_true_left,Bool.cond_false_left,Bool.cond_true_right,Bool.cond_false_right,cH4,aK5,bG5,cw7,eD7,dQ6,fl2,fl3,bne_iff_ne,bne_eq_false_iff_eq,beq_iff_eq,beq_eq_false_iff_ne,ne_eq,ge_iff_le]
 omega
def aZ3 (t:Int):Bool:=decide (t>= -5000)&&decide (t<=10000)
def ee7 (low high:Int):Bool:=(!aZ3 low|| !aZ3 high)||decide (low>high)
def dX6 (l:List j1):Bool:=l.any fun r=>!decide (cp3 r)
def chk (l:List j1)(low high:Int):Int:=bif dX6 l then 1 else bif decide ((l.length:Int)>32)then 5 else bif ee7 low high then 2 else 0
def eM2 (low high:Int):(ak4 (some (aZ3 low)) fun v2=>ak4 (bif (!v2)then(some true)else(ak4 (some (aZ3 high)) fun v3=>some (!v3))) fun b2=>bif (b2||(decide (low>high)))then(some (2:Int))else(some 0))=some (bif ee7 low high then 2 else 0):=by
 unfold ee7
 cases aZ3 low<;>cases aZ3 high<;>cases decide (low>high)<;>rfl
theorem eq4 (l:List j1)(low high:Int)(hl:l.length<=1000):av7 l low high=some (chk l low high):=by
 unfold av7 chk
 have k:=ai7 l (by omega) ah8 (fun r=>!decide (cp3 r)) (fun y _=>by unfold ah8;rw[ao7];rfl)
 have k':E4 l ah8=some (dX6 l):=k
 rw[k']
 simp only[aF2]
 cases dX6 l
 ·simp only[fk6]
  cases decide ((l.length:Int)>32)
  ·simp only[fk6]
   exact eM2 low high
  ·rfl
 ·rfl
structure cX0 (l:List j1)(low high:Int):Prop where
 req:∀r∈l,cp3 r
 len:l.length<=32
 lo:-5000<=low
 hi:high<=10000
 ord:low<=high
def em3 {l:List j1}{low high:Int}:chk l low high=0↔cX0 l low high:=by
 have hb:dX6 l=false↔∀r∈l,cp3 r:=by
  unfold dX6
  rw[dE4]
  constructor
  ·intro h r hr;simpa using h r hr
  ·intro h r hr;simpa using h r hr
 have hr:ee7 low high=false↔(-5000<=low/\low<=10000/\ -5000<=high/\high<=10000/\low<=high):=by
  unfold ee7 aZ3
  simp only[cw7,dQ6,aK5,fl2,fl3]
  omega
 unfold chk
 constructor
 ·intro h
  cases h1:dX6 l<;>rw[h1]at h
  ·cases h2:decide ((l.length:Int)>32)<;>rw[h2]at h
   ·cases h3:ee7 low high<;>rw[h3]at h
    ·have h4:=hr.1 h3
     have h5:¬((l.length:Int)>32):=of_decide_eq_false h2
     exact⟨hb.1 h1,by omega,by omega,by omega,by omega⟩
    ·cases h
   ·cases h
  ·cases h
 ·intro h
  rw[hb.2 h.req,hr.2 (by have:=h.lo;have:=h.hi;have:=h.ord;omega),fk9 (show¬((l.length:Int)>32) by have:=h.len;omega)]
  rfl
def ins (s:u7)(r:j1):Int:=G8 s.low (F7 s.high r.o9)
def nlo (s:u7)(r:j1):Int:=if r.Kind=1 then s.low else ins s r
def nhi (s:u7)(r:j1):Int:=if r.Kind=2 then s.high else ins s r
def stp (s:u7)(r:j1):u7:=⟨nlo s r,nhi s r,if nlo s r=s.low then s.source else r.N7⟩
def chg (s:u7)(r:j1):Bool:=!(decide (nlo s r=s.low)&&decide (nhi s r=s.high))
def ea6 {s:u7}{r:j1}(h:s.low<=s.high):s.low<=ins s r/\ins s r<=s.high:=by
 unfold ins G8 F7;split<;>split<;>omega
def dh5 {s:u7}{r:j1}(h:s.low<=s.high):s.low<=(stp s r).low/\(stp s r).low<=(stp s r).high/\(stp s r).high<=s.high:=by
 have:=ea6 (r:=r) h
 unfold stp nlo nhi
 simp only
 split<;>split<;>omega
def cS0 (s:u7)(r:j1)(lo hi:Int):(ak4 (bif (lo !=s.low)then(some r.N7)else(some s.source)) fun(f3:Int)=>bif (lo !=s.low)then(some (true,(⟨lo,hi,f3⟩:u7)))else(some ((hi !=s.high),(⟨lo,hi,f3⟩:u7))))=some (!(decide (lo=s.low)&&decide (hi=s.high)),⟨lo,hi,if lo=s.low then s.source else r.N7⟩):=by
 by_cases h1:lo=s.low
 ·rw[show(lo !=s.low)=false by simpa using h1,fk8 h1,if_pos h1];rfl
 ·rw[show(lo !=s.low)=true by simpa using h1,fk9 h1,if_neg h1];rfl
theorem ec7 (s:u7)(r:j1)(h:s.low<=s.high)(hk:r.Kind=1\/r.Kind=2\/r.Kind=3):X6 s r=some (chg s r,stp s r):=by
 have e1:G8 s.low (F7 s.high r.o9)=ins s r:=rfl
 have e2:F7 s.high (G8 s.low r.o9)=ins s r:=by
  unfold ins G8 F7;repeat' split
  all_goals omega
 have e3:F7 (G8 r.o9 s.low) s.high=ins s r:=by
  unfold ins G8 F7;repeat' split
  all_goals omega
 unfold X6 ae0 aa0 aa1 D0
 simp only[aF2]
 rw[e1,e2,e3]
 unfold stp chg nlo nhi
 rcases hk with hk|hk|hk
 ·rw[hk]
  exact cS0 s r s.low (ins s r)
 ·rw[hk]
  exact cS0 s r (ins s r) s.high
 ·rw[hk]
  exact cS0 s r (ins s r) (ins s r)
def lev (l:List j1)(j:Nat):List j1:=l.filter fun r=>r.E7==15-(j:Int)
def dz1 (l:List j1)(k:Nat):List j1:=(di4 k).flatMap (lev l)
abbrev cS4 (l:List j1):List j1:=dz1 l 16
theorem dg2 (l:List j1)(k:Nat):dz1 l (k+1)=dz1 l k++lev l k:=by
 unfold dz1;rw[List.range_succ,List.flatMap_append,List.flatMap_singleton]
def DR (r:j1):Prop:=0<=r.E7/\r.E7<=15
theorem bJ7 {x y:j1}(hx:DR x)(hy:DR y):ltM O5 x y=decide (y.E7<x.E7):=by
 unfold DR at hx hy
 unfold ltM O5
 rw[Option.getD_some,j4 (by omega) (by omega),decide_eq_decide]
 omega
def dN0:SW DR O5 where
 ans:=fun x y _ _=>⟨_,rfl⟩
 asym:=fun x y hx hy=>by rw[bJ7 hx hy,bJ7 hy hx,fl2,fl3];omega
 ntrans:=fun x y z hx hy hz=>by rw[bJ7 hx hy,bJ7 hy hz,bJ7 hx hz];simp only[fl3];omega
def eF9 {x y:j1}(hx:DR x)(hy:DR y):eqv O5 x y=(y.E7==x.E7):=by
 unfold eqv
 rw[bJ7 hx hy,bJ7 hy hx,dq3]
 simp only[aK5,bG5,fl3,beq_iff_eq]
 omega
theorem dy2 {l:List j1}{k:Nat}{r:j1}:r∈dz1 l k↔r∈l/\∃j,j<k/\r.E7=15-(j:Int):=by
 unfold dz1 lev
 rw[List.mem_flatMap]
 constructor
 ·rintro⟨j,hj,h⟩
  rw[dE3]at h
  exact⟨h.1,j,dP5.1 hj,by simpa using h.2⟩
 ·rintro⟨h,j,hj,hp⟩
  exact⟨j,dP5.2 hj,dE3.2 ⟨h,by simpa using hp⟩⟩
theorem cn7 {l:List j1}(h:bM4 DR l){r:j1}:r∈cS4 l↔r∈l:=by
 rw[dy2]
 constructor
 ·exact fun h=>h.1
 ·intro hr
  have:=h r hr
  unfold DR at this
  exact⟨hr,(15-r.E7).toNat,by omega,by omega⟩
def dz2 {l:List j1}(h:bM4 DR l):∀k,Srt O5 (dz1 l k)
 |0=>.nil
 |k+1=>by
  rw[dg2]
  refine Srt.app (dz2 h k) ?_ fun a ha b hb=>?_
  ·unfold lev
   rw[Srt,List.pairwise_iff_getElem]
   intro i j hi hj _
   have m1:=dE3.1 (bf3 hi)
   have m2:=dE3.1 (bf3 hj)
   have p1:=m1.2
   simp only[beq_iff_eq]at p1
   have p2:=m2.2
   simp only[beq_iff_eq]at p2
   rw[bJ7 (h _ m2.1) (h _ m1.1),fl3]
   omega
  ·obtain⟨ha1,j,hj,hp⟩:=dy2.1 ha
   have m2:=dE3.1 hb
   have p2:=m2.2
   simp only[beq_iff_eq]at p2
   rw[bJ7 (h _ m2.1) (h _ ha1),fl3]
   omega
theorem cC5 (l:List j1)(p:Int):∀k,(dz1 l k).filter (fun r=>r.E7==p)=if 15-(k:Int)<p/\p<=15 then l.filter (fun r=>r.E7==p)else []
 |0=>by
  rw[if_neg (by omega)]
  rfl
 |k+1=>by
  rw[dg2,dq4,cC5 l p k]
  unfold lev
  rw[List.filter_filter]
  by_cases hp:p=15-(k:Int)
  ·rw[if_neg (by omega),if_pos (by omega),cZ2]
   congr 1
   funext r
   rw[<-hp]
   cases r.E7==p<;>rfl
  ·have:(l.filter fun a=>(a.E7==p)&&(a.E7==15-(k:Int)))=[]:=by
    rw[et4]
    intro r _ h
    simp only[aK5,beq_iff_eq]at h
    omega
   rw[this,dq6]
   by_cases h2:15-(k:Int)<p/\p<=15
   ·rw[if_pos h2,if_pos (by omega)]
   ·rw[if_neg h2,if_neg (by omega)]
theorem cU9 {l r:List j1}(h:bM4 DR l)(hs:Srt O5 r)(ht:Sta DR O5 l r):r=cS4 l:=by
 refine dC2 dN0 (ht.all h) (fun x hx=>h x ((cn7 h).1 hx)) hs (dz2 h 16) fun x hx=>?_
 rw[ht.same x hx]
 have e:∀m:List j1,bM4 DR m->m.filter (eqv O5 x)=m.filter (fun r=>r.E7==x.E7):=fun m hm=>List.filter_congr fun y hy=>eF9 hx (hm y hy)
 rw[e l h,e (cS4 l) (fun y hy=>h y ((cn7 h).1 hy)),cC5]
 unfold DR at hx
 rw[if_pos (by omega)]
theorem er2:F6=ai5:=by kernel_rfl
theorem eL8 (l:List j1)(hl:l.length<=19)(g:j1->j1->Option Int):J9 l g=aU9 l g:=by
 unfold J9 aU9 N5 bp8
 have h1:decide ((20:Int)<=(l.length:Int))=false:=by simp;omega
 have h2:decide ((20:Int)<(l.length:Int))=false:=by simp;omega
 rw[E6 (b:=.inl (0,20,l)) (by unfold S3;rw[h1];rfl),E6 (b:=.inl (0,20,l)) (by unfold bb3;rw[h1];rfl),er2]
 simp only[aF2]
 cases hx:ai5 l 0 (l.length:Int) g with
 |none=>rfl
 |some v=>
  simp only[aF2]
  rw[E6 (b:=.inl (20,v)) (by unfold S4;rw[h2];rfl),E6 (b:=.inl (20,v)) (by unfold bb4;rw[h2];rfl)]
  simp only[aF2]
def dec (s:u7):List j1->List Int
 |[]=>[]
 |r::l=>(bif chg s r then [r.N7]else [])++dec (stp s r) l
def dQ2 (s:u7):∀l:List j1,(dec s l).length<=l.length
 |[]=>bO2 _
 |r::l=>by
  have:=dQ2 (stp s r) l
  unfold dec
  cases chg s r
  ·simp only[fk6,cZ2,bu9];omega
  ·simp only[fk7,bd4,bu9,cJ8];omega
theorem eO0:∀(q:List j1) (i:Int) (acc:List Int) (s:u7),s.low<=s.high->(∀r∈q,r.Kind=1\/r.Kind=2\/r.Kind=3)->acc.length+q.length<=10000->
  N4 aj8 q i (acc,s)=some (.inl (acc++dec s q,q.foldl stp s))
 |[],i,acc,s,_,_,_=>by simp[N4,dec]
 |r::q,i,acc,s,hs,hk,hl=>by
  simp only[bu9]at hl
  have hr:=dh5 (r:=r) hs
  have hb:aj8 i r (acc,s)=some (.next (acc++(bif chg s r then [r.N7]else []),stp s r)):=by
   unfold aj8
   simp only
   rw[ec7 s r hs (hk r (by simp))]
   simp only[aF2]
   cases chg s r
   ·simp
   ·simp only[fk7]
    rw[I1 _ _ (by simp only[cJ4];omega)]
    rfl
  simp only[N4,hb,aF2]
  rw[eO0 q (i+1) _ (stp s r) (by omega) (fun x hx=>hk x (by simp[hx])) (by rw[bd4];cases chg s r<;>simp<;>omega)]
  simp only[dec,eh2,List.append_assoc]
def s0 (low high:Int):u7:=⟨low,high,-1⟩
def fin (l:List j1)(low high:Int):u7:=(cS4 l).foldl stp (s0 low high)
def fp4 (l:List j1)(low high:Int):List Int:=bE1 ((dec (s0 low high) (cS4 l)).mergeSort fun x y=>decide (x<=y))
theorem cX0.dr {l:List j1}{low high:Int}(h:cX0 l low high):bM4 DR l:=fun r hr=>by
 have:=h.req r hr
 unfold cp3 at this
 unfold DR;omega
theorem cX0.kinds {l:List j1}{low high:Int}(h:cX0 l low high):∀r∈l,r.Kind=1\/r.Kind=2\/r.Kind=3:=fun r hr=>by
 have:=h.req r hr
 unfold cp3 at this
 omega
def eu4 {l:List j1}{low high:Int}(h:cX0 l low high)(h19:l.length<=19):(cS4 l).length=l.length:=by
 obtain⟨r,h1,h2,h3⟩:=bW9 dN0 l h.dr h19
 rw[<-cU9 h.dr h2 h3,h3.len]
theorem dZ0 {l:List j1}{low high:Int}(h:cX0 l low high)(h19:l.length<=19):ap9 l low high=some (fin l low high,fp4 l low high):=by
 unfold ap9 X4
 have hl:=h.len
 rw[I1 _ _ (by simp only[cJ8];omega)]
 simp only[aF2,cZ2]
 rw[eL8 _ h19]
 obtain⟨r,h1,h2,h3⟩:=bW9 dN0 l h.dr h19
 rw[h1,cU9 h.dr h2 h3]
 simp only[aF2]
 have hlen:=eu4 h h19
 rw[L0 _ (by omega),eO0 (cS4 l) 0 [] ⟨low,high,-1⟩ h.ord (fun x hx=>h.kinds x ((cn7 h.dr).1 hx)) (by simp only[cJ8];omega)]
 simp only[aF2,cZ2]
 unfold aC5 as2
 have hd:=dQ2 (s0 low high) (cS4 l)
 rw[cy4 (show(dec (⟨low,high,-1⟩:u7) (cS4 l)).length<4611686018427387904 by unfold s0 at hd;omega)]
 simp only[aF2]
 rw[cA2 (by rw[List.length_mergeSort];unfold s0 at hd;omega)]
 rfl
def cQ2:∀(q:List j1) (s:u7),s.low<=s.high->s.low<=(q.foldl stp s).low/\(q.foldl stp s).low<=(q.foldl stp s).high/\(q.foldl stp s).high<=s.high
 |[],s,h=>⟨dj2 _,h,dj2 _⟩
 |r::q,s,h=>by
  have h1:=dh5 (r:=r) h
  have h2:=cQ2 q (stp s r) (by omega)
  rw[eh2]
  omega
def dd6 {l:List j1}{low high:Int}(h:low<=high):low<=(fin l low high).low/\(fin l low high).low<=(fin l low high).high/\(fin l low high).high<=high:=cQ2 (cS4 l) (s0 low high) h
end Go.Pv.Ar

/- A part of the proof of EcuStops: Plain models, and more. -/
import Derived.Test.YtmhdghdbojdgfaaGreatEcuStopsD
import Derived.KernelRfl
set_option linter.unusedSimpArgs false
set_option linter.unusedVariables false
set_option maxRecDepth 100000
noncomputable section
open Bool renaming and_eq_false_iff->fc5,and_eq_true->aI0,and_false->ff4,and_true->eU9,eq_iff_iff->dG9,false_and->ez5,false_eq_true->do2,false_or->ec9,not_eq_false'->ef2,not_eq_true'->bY2,not_false->cI3,not_not->eI2,not_true->aX0,or_eq_false_iff->bG1,or_eq_true->cH8,or_false->eY7,true_and->cL7
open Int renaming ediv_le_self->eN1,ediv_nonneg->eP0,le_refl->dr2,mul_le_mul->eR5,mul_le_mul_of_nonneg_left->ed6,mul_nonneg->eT3,natAbs->fg8,tdiv->cZ1,tdiv_eq_ediv_of_nonneg->cz5,tmod->ed7
open Go.IntKind renaming u64->aX8
open List renaming all_eq_true->bx8,any_eq_false->dv4,any_eq_not_all_not->dS1,append_nil->da6,filter_append->dK2,filter_cons->ew4,filter_cons_of_pos->dY9,filter_eq_nil_iff->eA8,filter_nil->eK7,foldl_cons->ex7,getD_eq_getElem?_getD->cY3,getElem?_eq_getElem->aW9,getElem?_eq_none->ed4,getElem?_set_ne->fd2,getElem_mem->bd2,length_append->ba3,length_cons->br6,length_nil->cI2,length_replicate->eH7,length_singleton->co8,mem_append->dn9,mem_cons->bZ8,mem_cons_self->bN7,mem_filter->dM6,mem_iff_getElem->cW9,mem_map->cY4,mem_range->ej4,mem_range'->eP1,nil_append->cV5,pairwise_append->eV2,pairwise_cons->ex9,range->dB7,range'->ed3,replicate->cE8
open Nat renaming add_sub_cancel->fg7,eq_zero_or_pos->dR1,le_refl->cv6,lt_or_ge->cZ8
open Option renaming bind->ai8,bind_assoc->bO2,bind_some->as5
open Option.some renaming injEq->aH8
namespace Go.Pv
open Go
def ai0 (a:Int):Option Bool:=
 some ((decide (a>=0))&&(decide (a<46080)))
def ao0 (s:List Int)(v i:Int)(_:Unit):Option (Fl Unit Int):=
 ai8 (D4 s i) fun x=>bif (v==x)then(some (.ret i))else(some (.next ()))
def W2 (s:List Int)(v:Int):Option Int:=
 ai8 (K7 (s.length:Int) (ao0 s v) ()) fun(t:Unit⊕Int)=>match t with| .inl _=>(some (-1))| .inr r2=>some r2
def P5 (s:List Int)(v:Int):Option Bool:=
 ai8 (W2 s v) fun v2=>some (decide (v2>=0))
def as7 (e2:o5)(i:Int):Option (Int⊕(Int⊕Bool)):=
 bif (decide (i<=(e2.A3.length:Int)))then(ai8 (P5 e2.A3 i) fun v2=>bif (!v2)then(some (.inr (.inr false)))else(some (.inl (j7 (i+1)))))else(some (.inr (.inl i)))
def O7 (e2:o5):Option Bool:=
 ai8 (bif ((decide ((e2.A3.length:Int)<1))||(decide ((e2.A3.length:Int)>8)))then(some true)else(ai8 (ai0 e2.as4) fun v=>some (!v))) fun b2=>bif b2 then(some false)else(ai8 (L7 (as7 e2) 1) fun(t:Int⊕Bool)=>match t with| .inl _=>(some true)| .inr r2=>some r2)
def aU6 (n2:Int):Option (List B8×Int):=
 bif ((decide (n2<1))||(decide (n2>8)))then(some (([]:List B8),2))else(ai8 (P7 ([(⟨0,100,0⟩:B8)]:List B8) n2) fun v=>some (v,0))
def bj1:Option U7:=
 some (⟨0,0,false⟩:U7)
def aL2:Option M8:=
 ai8 (aY3 9 (⟨0,0⟩:ab3)) fun l=>some (⟨false,false,1000,0,l⟩:M8)
def az8 (e2:o5):Option (A5×Int):=
 ai8 (O7 e2) fun v=>bif (!v)then(some ((⟨(⟨0,0,false⟩:U7),(⟨0⟩:F7),([]:List B8),(⟨false,false,0,0,([]:List ab3)⟩:M8),0,(⟨0,0⟩:aa2)⟩:A5),1))else(ai8 (aU6 (e2.A3.length:Int)) fun r2=>bif (r2.2 !=0)then(some ((⟨(⟨0,0,false⟩:U7),(⟨0⟩:F7),([]:List B8),(⟨false,false,0,0,([]:List ab3)⟩:M8),0,(⟨0,0⟩:aa2)⟩:A5),1))else(ai8 (bj1) fun v2=>ai8 (aL2) fun v3=>some ((⟨v2,(⟨0⟩:F7),r2.1,v3,0,(⟨0,(-1)⟩:aa2)⟩:A5),0)))
def W4 (s:List Int)(f2:Int->Option Bool)(i:Int)(_:Unit):Option (Fl Unit Int):=
 ai8 (D4 s i) fun x=>ai8 (f2 x) fun v=>bif v then(some (.ret i))else(some (.next ()))
def U5 (s:List Int)(f2:Int->Option Bool):Option Int:=
 ai8 (K7 (s.length:Int) (W4 s f2) ()) fun(t:Unit⊕Int)=>match t with| .inl _=>(some (-1))| .inr r2=>some r2
def o6 (s:List Int)(f2:Int->Option Bool):Option Bool:=
 ai8 (U5 s f2) fun v=>some (decide (v>=0))
def ac1 (n2:Int):Option Bool:=
 some ((decide (n2>=(-1073741824)))&&(decide (n2<=1073741824)))
def ay7 (l:List Int)(i:Int)(_:Unit):Option (Fl Unit Bool):=
 ai8 (D4 l i) fun x=>ai8 (ac1 x) fun v=>ai8 (bif (!v)then(some true)else(ai8 (bif (decide (i>0))then(ai8 (D4 l (j7 (i-1))) fun x2=>some (decide (x<=x2)))else(some false)) fun b2=>some b2)) fun b3=>bif b3 then(some (.ret false))else(some (.next ()))
def ar8 (l:List Int):Option Bool:=
 bif ((decide ((l.length:Int)<2))||(decide ((l.length:Int)>32)))then(some false)else(ai8 (K7 (l.length:Int) (ay7 l) ()) fun(t:Unit⊕Bool)=>match t with| .inl _=>(some true)| .inr r2=>some r2)
def ah8 (z:Int):Option Bool:=
 ai8 (ac1 z) fun v=>some (!v)
def aB7 (m2:SMap)(_:Int)(x:List Int)(_:Unit):Option (Fl Unit Bool):=
 ai8 (bif ((x.length:Int) !=(m2.Y.length:Int))then(some true)else(ai8 (o6 x ah8) fun v3=>some v3)) fun b3=>bif b3 then(some (.ret false))else(some (.next ()))
def J4 (m2:SMap):Option Bool:=
 ai8 (ar8 m2.X) fun v=>ai8 (bif (!v)then(some true)else(ai8 (ar8 m2.Y) fun v2=>some (!v2))) fun b2=>bif (b2||((m2.Z.length:Int) !=(m2.X.length:Int)))then(some false)else(ai8 (ad9 m2.Z (aB7 m2) ()) fun(t:Unit⊕Bool)=>match t with| .inl _=>(some true)| .inr r2=>some r2)
def aB1 (n2:Int):Option Bool:=
 some ((decide (n2<(-1073741824)))||(decide (n2>1073741824)))
def aG8 (l:List Int)(i:Int)(_:Unit):Option (Fl Unit Bool):=
 ai8 (D4 l i) fun x=>ai8 (D4 l (j7 (i+1))) fun x2=>bif (decide (x>=x2))then(some (.ret false))else(some (.next ()))
def aL7 (l:List Int):Option Bool:=
 ai8 (bif ((decide ((l.length:Int)<2))||(decide ((l.length:Int)>32)))then(some true)else(ai8 (o6 l aB1) fun v=>some v)) fun b2=>bif b2 then(some false)else(ai8 (K7 (j7 ((l.length:Int)-1)) (aG8 l) ()) fun(t:Unit⊕Bool)=>match t with| .inl _=>(some true)| .inr r2=>some r2)
def P4 (c:Q2):Option Bool:=
 ai8 (bif ((c.X.length:Int)==(c.Y.length:Int))then(ai8 (aL7 c.X) fun v=>some v)else(some false)) fun b2=>ai8 (bif b2 then(ai8 (o6 c.Y aB1) fun v2=>some (!v2))else(some false)) fun b3=>some b3
def cmp_isNaN_int (x:Int):Option Bool:=
 some (x !=x)
def cmp_Less_int (x y:Int):Option Bool:=
 ai8 (cmp_isNaN_int x) fun v=>ai8 (bif v then(ai8 (cmp_isNaN_int y) fun v2=>some (!v2))else(some false)) fun b2=>some (b2||(decide (x<y)))
def Q6 (x:List Int)(i:Int):Option (Int⊕(Int⊕Bool)):=
 bif (decide (i>0))then(ai8 (D4 x i) fun x2=>ai8 (D4 x (j7 (i-1))) fun x3=>ai8 (cmp_Less_int x2 x3) fun v=>bif v then(some (.inr (.inr false)))else(some (.inl (j7 (i-1)))))else(some (.inr (.inl i)))
def P6 (x:List Int):Option Bool:=
 ai8 (L7 (Q6 x) (j7 ((x.length:Int)-1))) fun(t:Int⊕Bool)=>match t with| .inl _=>(some true)| .inr r2=>some r2
def I4 (n2 low high:Int):Option Bool:=
 some ((decide (n2>=low))&&(decide (n2<=high)))
def aK4 (y:Int):Option Bool:=
 ai8 (I4 y 100 3000) fun v=>some (!v)
def aT2 (_:Int)(x:List Int)(_:Unit):Option (Fl Unit Bool):=
 ai8 (P6 x) fun v3=>ai8 (bif (!v3)then(some true)else(ai8 (D4 x 0) fun x2=>ai8 (I4 x2 0 1048576) fun v4=>some (!v4))) fun b3=>ai8 (bif b3 then(some true)else(ai8 (D4 x (j7 ((x.length:Int)-1))) fun x3=>ai8 (I4 x3 0 1048576) fun v5=>some (!v5))) fun b4=>bif b4 then(some (.ret false))else(some (.next ()))
def aA8 (t2:o7):Option Bool:=
 ai8 (J4 t2.Air) fun v=>ai8 (bif (!v)then(some true)else(ai8 (P4 t2.L4) fun v2=>some (!v2))) fun b2=>bif b2 then(some false)else(ai8 (ad9 t2.Air.Z (aT2) ()) fun(t:Unit⊕Bool)=>match t with| .inl _=>(ai8 (o6 t2.L4.Y aK4) fun v6=>some (!v6))| .inr r2=>some r2)
def aa0 (s:List (List Int))(f2:(List Int)->Option Bool)(i:Int)(_:Unit):Option (Fl Unit Int):=
 ai8 (D4 s i) fun x=>ai8 (f2 x) fun v=>bif v then(some (.ret i))else(some (.next ()))
def W0 (s:List (List Int))(f2:(List Int)->Option Bool):Option Int:=
 ai8 (K7 (s.length:Int) (aa0 s f2) ()) fun(t:Unit⊕Int)=>match t with| .inl _=>(some (-1))| .inr r2=>some r2
def G0 (s:List (List Int))(f2:(List Int)->Option Bool):Option Bool:=
 ai8 (W0 s f2) fun v=>some (decide (v>=0))
def H5 (x low high:Int):Option Bool:=
 some ((decide (x>=low))&&(decide (x<=high)))
def ao2 (x c c2:Int):Option Bool:=
 ai8 (H5 x c c2) fun v=>some (!v)
def ah3 (l:List Int)(low high:Int):Option Bool:=
 ai8 (o6 l (fun x0=>ao2 x0 low high)) fun v=>some v
def L5 (x:List Int)(cmp:Int->Int->Option Int)(i:Int):Option (Int⊕(Int⊕Bool)):=
 bif (decide (i>0))then(ai8 (D4 x i) fun x2=>ai8 (D4 x (j7 (i-1))) fun x3=>ai8 (cmp x2 x3) fun v=>bif (decide (v<0))then(some (.inr (.inr false)))else(some (.inl (j7 (i-1)))))else(some (.inr (.inl i)))
def H9 (x:List Int)(cmp:Int->Int->Option Int):Option Bool:=
 ai8 (L7 (L5 x cmp) (j7 ((x.length:Int)-1))) fun(t:Int⊕Bool)=>match t with| .inl _=>(some true)| .inr r2=>some r2
def ac2 (a b2:Int):Option Int:=
 some (j7 (b2-a))
def al2 (row:List Int):Option Bool:=
 ai8 (ah3 row 0 10000) fun v=>ai8 (bif v then(some true)else(ai8 (P6 row) fun v2=>some (!v2))) fun b2=>some b2
def ai4 (t2:o7):Option Bool:=
 ai8 (J4 t2.o9) fun v=>ai8 (bif (!v)then(some true)else(ai8 (P4 t2.C3) fun v2=>some (!v2))) fun b2=>ai8 (bif b2 then(some true)else(ai8 (ah3 t2.C3.Y 0 1000) fun v3=>some v3)) fun b3=>bif b3 then(some false)else(ai8 (H9 t2.C3.Y ac2) fun v4=>bif (!v4)then(some false)else(ai8 (G0 t2.o9.Z al2) fun v5=>some (!v5)))
def J5 (x low high:Int):Option Bool:=
 some ((decide (x>=low))&&(decide (x<=high)))
def az9 (x c c2:Int):Option Bool:=
 ai8 (J5 x c c2) fun v=>some (!v)
def af9 (l:List Int)(low high:Int):Option Bool:=
 ai8 (o6 l (fun x0=>az9 x0 low high)) fun v=>some (!v)
def Q5 (g:aV4):Option Bool:=
 some (((((((decide (g.P>=0))&&(decide (g.P<=65536)))&&(decide (g.I>=0)))&&(decide (g.I<=65536)))&&(decide (g.Low>=(-1073741824))))&&(decide (g.Low<=g.bs4)))&&(decide (g.bs4<=1073741824)))
def aB0 (_:Int)(x:List Int)(_:Unit):Option (Fl Unit Bool):=
 ai8 (af9 x (-1280) 3840) fun v7=>bif (!v7)then(some (.ret false))else(some (.next ()))
def ac5 (t2:o7):Option Bool:=
 ai8 (aA8 t2) fun v=>ai8 (bif (!v)then(some true)else(ai8 (ai4 t2) fun v2=>some (!v2))) fun b2=>ai8 (bif b2 then(some true)else(ai8 (J4 t2.N9) fun v3=>some (!v3))) fun b3=>ai8 (bif b3 then(some true)else(ai8 (J4 t2.aH9) fun v4=>some (!v4))) fun b4=>ai8 (bif b4 then(some true)else(ai8 (P4 t2.af1) fun v5=>some (!v5))) fun b5=>ai8 (bif b5 then(some true)else(ai8 (P4 t2.aw5) fun v6=>some (!v6))) fun b6=>bif b6 then(some false)else(ai8 (ad9 t2.N9.Z (aB0) ()) fun(t:Unit⊕Bool)=>match t with| .inl _=>(ai8 (af9 t2.af1.Y 500 10000) fun v8=>ai8 (bif v8 then(ai8 (af9 t2.aw5.Y 0 10000) fun v9=>some v9)else(some false)) fun b7=>ai8 (bif b7 then(ai8 (Q5 t2.af0) fun v10=>some v10)else(some false)) fun b8=>some b8)| .inr r2=>some r2)
def F8 (x low high:Int):Option Bool:=
 some ((decide (x>=low))&&(decide (x<=high)))
def aj6 (b2:L2):Option Bool:=
 ai8 (F8 b2.ai9 100 1048576) fun v=>ai8 (bif v then(ai8 (F8 b2.ap4 0 65536) fun v2=>some v2)else(some false)) fun b3=>ai8 (bif b3 then(ai8 (F8 b2.J2 0 65536) fun v3=>some v3)else(some false)) fun b4=>ai8 (bif b4 then(ai8 (F8 b2.aO8 1 65536) fun v4=>some v4)else(some false)) fun b5=>ai8 (bif b5 then(ai8 (F8 b2.P1 0 1023) fun v5=>some v5)else(some false)) fun b6=>ai8 (bif b6 then(ai8 (F8 b2.K9 1 1024) fun v6=>some v6)else(some false)) fun b7=>ai8 (bif b7 then(ai8 (F8 b2.aX5 0 20) fun v7=>some v7)else(some false)) fun b8=>some b8
def ax8 (p2:U7):Option Bool:=
 ai8 (bif p2.aQ3 then(some 200)else(some 1000)) fun(most:Int)=>some (((((decide (p2.Value>=0))&&(decide (p2.Value<=most)))&&(decide (p2.af4>=0)))&&(decide (p2.af4<=3)))&&(p2.aQ3==(p2.af4==3)))
def S1 (x low high:Int):Option Bool:=
 some ((decide (x>=low))&&(decide (x<=high)))
def ai7 (s:List ab3)(f2:ab3->Option Bool)(i:Int)(_:Unit):Option (Fl Unit Int):=
 ai8 (D4 s i) fun x=>ai8 (f2 x) fun v=>bif v then(some (.ret i))else(some (.next ()))
def aa6 (s:List ab3)(f2:ab3->Option Bool):Option Int:=
 ai8 (K7 (s.length:Int) (ai7 s f2) ()) fun(t:Unit⊕Int)=>match t with| .inl _=>(some (-1))| .inr r2=>some r2
def R3 (s:List ab3)(f2:ab3->Option Bool):Option Bool:=
 ai8 (aa6 s f2) fun v=>some (decide (v>=0))
def ab5 (c:ab3):Option Bool:=
 ai8 (S1 c.Value (-100) 100) fun v=>ai8 (bif (!v)then(some true)else(ai8 (S1 c.D1 0 1000) fun v2=>some (!v2))) fun b2=>some b2
def ac7 (p2:M8):Option Bool:=
 ai8 (S1 p2.ak1 750 1250) fun v=>ai8 (bif (!v)then(some true)else(ai8 (S1 p2.bd8 0 1000) fun v2=>some (!v2))) fun b2=>bif (b2||((p2.Cells.length:Int) !=9))then(some false)else(ai8 (bif (!p2.af3)then(some (((p2.ak1 !=1000)||(p2.bd8 !=0))||p2.bd7))else(some false)) fun b3=>bif b3 then(some false)else(ai8 (R3 p2.Cells ab5) fun v3=>some (!v3)))
def ah0 (s:List B8)(f2:B8->Option Bool)(i:Int)(_:Unit):Option (Fl Unit Int):=
 ai8 (D4 s i) fun x=>ai8 (f2 x) fun v=>bif v then(some (.ret i))else(some (.next ()))
def Y0 (s:List B8)(f2:B8->Option Bool):Option Int:=
 ai8 (K7 (s.length:Int) (ah0 s f2) ()) fun(t:Unit⊕Int)=>match t with| .inl _=>(some (-1))| .inr r2=>some r2
def J3 (s:List B8)(f2:B8->Option Bool):Option Bool:=
 ai8 (Y0 s f2) fun v=>some (decide (v>=0))
def ah6 (n2:Int):Option Bool:=
 some ((decide (n2>=0))&&(decide (n2<=4095)))
def ax3 (k:B8):Option Bool:=
 ai8 (bif ((decide (k.at6>=0))&&(decide (k.at6<=960)))then(ai8 (ah6 k.aH6) fun v=>some v)else(some false)) fun b2=>some ((b2&&(decide (k.Quiet>=0)))&&(decide (k.Quiet<100)))
def ak5 (k:B8):Option Bool:=
 ai8 (ax3 k) fun v=>some (!v)
def aq0 (e2:o5)(c:A5):Option Bool:=
 ai8 (O7 e2) fun v=>ai8 (bif (!v)then(some true)else(ai8 (ax8 c.I9) fun v2=>some (!v2))) fun b2=>ai8 (bif b2 then(some true)else(ai8 (ac7 c.Q3) fun v3=>some (!v3))) fun b3=>bif (b3||((c.ab2.length:Int) !=(e2.A3.length:Int)))then(some false)else(ai8 (J3 c.ab2 ak5) fun v4=>bif v4 then(some false)else(ai8 (J5 c.af0.Sum (-4398046511104) 4398046511104) fun v5=>ai8 (bif v5 then(ai8 (J5 c.P1 0 1073741824) fun v6=>some v6)else(some false)) fun b4=>ai8 (bif b4 then(ai8 (J5 c.af5.o9 (-5000) 10000) fun v7=>some v7)else(some false)) fun b5=>ai8 (bif b5 then(ai8 (J5 c.af5.N3 (-1) 15) fun v8=>some v8)else(some false)) fun b6=>some b6))
def ab8 (s:List j2)(f2:j2->Option Bool)(i:Int)(_:Unit):Option (Fl Unit Int):=
 ai8 (D4 s i) fun x=>ai8 (f2 x) fun v=>bif v then(some (.ret i))else(some (.next ()))
def V1 (s:List j2)(f2:j2->Option Bool):Option Int:=
 ai8 (K7 (s.length:Int) (ab8 s f2) ()) fun(t:Unit⊕Int)=>match t with| .inl _=>(some (-1))| .inr r2=>some r2
def D7 (s:List j2)(f2:j2->Option Bool):Option Bool:=
 ai8 (V1 s f2) fun v=>some (decide (v>=0))
def P3 (t2:Int):Option Bool:=
 some ((decide (t2>=(-5000)))&&(decide (t2<=10000)))
def S6 (r2:j2):Option Bool:=
 ai8 (bif ((((decide (r2.N3<0))||(decide (r2.N3>15)))||(decide (r2.E6<0)))||(decide (r2.E6>15)))then(some true)else(ai8 (P3 r2.o9) fun v=>some (!v))) fun b2=>bif b2 then(some false)else(ai8 (bif (r2.Kind==1)then(some true)else(ai8 (bif (decide (r2.N3<=1))then(some ((r2.Kind==2)||(r2.Kind==3)))else(some false)) fun b3=>some b3)) fun b4=>some b4)
def ah5 (r2:j2):Option Bool:=
 ai8 (S6 r2) fun v=>some (!v)
def av6 (i:W9)(B4:Int):Option Bool:=
 ai8 (J5 B4 1 8) fun v=>bif (((!v)||((i.X4.length:Int) !=B4))||(decide ((i.Requests.length:Int)>30)))then(some false)else(ai8 (J5 i.D2 0 12000) fun v2=>ai8 (bif v2 then(ai8 (J5 i.L0 50 3000) fun v3=>some v3)else(some false)) fun b2=>ai8 (bif b2 then(ai8 (J5 i.L4 (-40) 150) fun v4=>some v4)else(some false)) fun b3=>ai8 (bif b3 then(ai8 (J5 i.av1 (-40) 150) fun v5=>some v5)else(some false)) fun b4=>ai8 (bif b4 then(ai8 (J5 i.aI3 0 20000) fun v6=>some v6)else(some false)) fun b5=>ai8 (bif b5 then(ai8 (J5 i.Lambda 0 20000) fun v7=>some v7)else(some false)) fun b6=>ai8 (bif b6 then(ai8 (af9 i.X4 0 4095) fun v8=>some v8)else(some false)) fun b7=>ai8 (bif b7 then(ai8 (D7 i.Requests ah5) fun v9=>some (!v9))else(some false)) fun b8=>some b8)
def C6 (x low high:Int):Option Int:=
 some (F2 (G4 x low) high)
def aj5 (n2:Int):Option Bool:=
 some ((decide (n2>=0))&&(decide (n2<=12000)))
def ax2 (D5:Int):Option Int:=
 bif (decide (D5<=(-20)))then(some 1200)else(bif (decide (D5>=70))then(some 800)else(some (j7 (1200-(j7 (cZ1 (j7 (400*(j7 (D5+20)))) 90))))))
def bc2 (o8 D5:Int):Option Bool:=
 ai8 (ax2 D5) fun v=>some (decide (o8<(j7 (v+300))))
def ax1 (bf8 o8 D5:Int):Option Bool:=
 ai8 (bif ((decide (bf8>=0))&&(decide (bf8<20)))then(ai8 (aj5 o8) fun v=>some v)else(some false)) fun b2=>ai8 (bif b2 then(ai8 (bc2 o8 D5) fun v2=>some v2)else(some false)) fun b3=>some b3
def aM1 (p2:U7)(first second:Int):Option (U7×Int):=
 ai8 (ax8 p2) fun v=>bif (!v)then(some ((⟨0,0,false⟩:U7),1))else(ai8 (C6 first 0 1000) fun v2=>ai8 (C6 second 0 500) fun v3=>ai8 (bif (decide ((G4 (j7 (v2-(j7 (2*v3)))) (j7 ((j7 (2*v3))-v2)))>50))then(some (F2 3 (j7 (p2.af4+1))))else(bif (!p2.aQ3)then(some 0)else(some p2.af4))) fun(f2:Int)=>bif (f2==3)then(some ((⟨F2 (F2 v2 (j7 (2*v3))) 200,f2,(f2==3)⟩:U7),0))else(bif (decide ((G4 (j7 (v2-(j7 (2*v3)))) (j7 ((j7 (2*v3))-v2)))>50))then(some ((⟨F2 (F2 v2 (j7 (2*v3))) p2.Value,f2,(f2==3)⟩:U7),0))else(some ((⟨v2,f2,(f2==3)⟩:U7),0))))
def u5 (s:o4)(e2:Int):Option o4:=
 bif (s.fail==0)then(some ({s with fail:=e2}:o4))else(some s)
def ab9 (f2:Int->Option Bool)(s:Int×Int):Option ((Int×Int)⊕((Int×Int)⊕Empty)):=
 bif (decide (s.1<s.2))then(ai8 (f2 (j7 (F5 .u64 (aX8.wrap (j7 (s.1+s.2))) 1))) fun v=>bif (!v)then(some (.inl (j7 ((j7 (F5 .u64 (aX8.wrap (j7 (s.1+s.2))) 1))+1),s.2)))else(some (.inl (s.1,j7 (F5 .u64 (aX8.wrap (j7 (s.1+s.2))) 1)))))else(some (.inr (.inl (s.1,s.2))))
def Q0 (n2:Int)(f2:Int->Option Bool):Option Int:=
 ai8 (L7 (ab9 f2) (0,n2)) fun(t:(Int×Int)⊕Empty)=>match t with| .inl s2=>(some s2.1)| .inr r=>r.elim
def ae8 (i:Int)(c:List Int)(c2:Int):Option Bool:=
 ai8 (D4 c i) fun x=>some (decide (x>c2))
def X2 (l:List Int)(x:Int):Option (Int×Int):=
 ai8 (D4 l 0) fun x2=>ai8 (D4 l (j7 ((l.length:Int)-1))) fun x3=>ai8 (C6 x x2 x3) fun v=>ai8 (Q0 (l.length:Int) (fun x0=>ae8 x0 l v)) fun v2=>some (F2 (j7 (v2-1)) (j7 ((l.length:Int)-2)),v)
def V3 (n2:Int):Option Int:=
 bif (decide (n2<0))then(some (aX8.wrap ((aX8.wrap (j7 (0-(j7 (n2+1)))))+1)))else(some (aX8.wrap n2))
def aN8 (x:Int):Option Int:=
 cu9 x
def W3 (x:Int):Option Int:=
 ai8 (aN8 x) fun v=>some (j7 (64-v))
def aD2 (q3 q6:Int)(s3:Int×Int):Option ((Int×Int)⊕((Int×Int)⊕Empty)):=
 bif ((decide (s3.1>=4294967296))||(decide ((aX8.wrap (s3.1*(T2 .u64 q3 4294967295)))>(aX8.wrap ((aX8.wrap (4294967296*s3.2))+(F5 .u64 q6 32))))))then(bif (decide ((aX8.wrap (s3.2+(F5 .u64 q3 32)))>=4294967296))then(some (.inr (.inl (aX8.wrap (s3.1-1),aX8.wrap (s3.2+(F5 .u64 q3 32))))))else(some (.inl (aX8.wrap (s3.1-1),aX8.wrap (s3.2+(F5 .u64 q3 32))))))else(some (.inr (.inl (s3.1,s3.2))))
def aD3 (q3 q6:Int)(s5:Int×Int):Option ((Int×Int)⊕((Int×Int)⊕Empty)):=
 bif ((decide (s5.2>=4294967296))||(decide ((aX8.wrap (s5.2*(T2 .u64 q3 4294967295)))>(aX8.wrap ((aX8.wrap (4294967296*s5.1))+(T2 .u64 q6 4294967295))))))then(bif (decide ((aX8.wrap (s5.1+(F5 .u64 q3 32)))>=4294967296))then(some (.inr (.inl (aX8.wrap (s5.1+(F5 .u64 q3 32)),aX8.wrap (s5.2-1)))))else(some (.inl (aX8.wrap (s5.1+(F5 .u64 q3 32)),aX8.wrap (s5.2-1)))))else(some (.inr (.inl (s5.1,s5.2))))
def al6 (hi lo y:Int):Option (Int×Int):=
 ai8 (bif (y==0)then none else(some ())) fun(_:Unit)=>ai8 (bif (decide (y<=hi))then none else(some ())) fun(_:Unit)=>bif (hi==0)then(ai8 (bn3 .u64 lo y) fun q=>ai8 (cf1 lo y) fun q2=>some (q,q2))else(ai8 (W3 y) fun v=>ai8 (et3 .u64 y (aX8.wrap v)) fun q3=>ai8 (et3 .u64 hi (aX8.wrap v)) fun q4=>ai8 (eF9 .u64 lo (aX8.wrap (64-(aX8.wrap v)))) fun q5=>ai8 (et3 .u64 lo (aX8.wrap v)) fun q6=>ai8 (bn3 .u64 (R6 .u64 q4 q5) (F5 .u64 q3 32)) fun q7=>ai8 (L7 (aD2 q3 q6) (q7,aX8.wrap ((R6 .u64 q4 q5)-(aX8.wrap (q7*(F5 .u64 q3 32)))))) fun(t:(Int×Int)⊕Empty)=>match t with| .inl s4=>(ai8 (bn3 .u64 (aX8.wrap ((aX8.wrap ((aX8.wrap ((R6 .u64 q4 q5)*4294967296))+(F5 .u64 q6 32)))-(aX8.wrap (s4.1*q3)))) (F5 .u64 q3 32)) fun q8=>ai8 (L7 (aD3 q3 q6) (aX8.wrap ((aX8.wrap ((aX8.wrap ((aX8.wrap ((R6 .u64 q4 q5)*4294967296))+(F5 .u64 q6 32)))-(aX8.wrap (s4.1*q3))))-(aX8.wrap (q8*(F5 .u64 q3 32)))),q8)) fun(t:(Int×Int)⊕Empty)=>match t with| .inl s6=>(ai8 (eF9 .u64 (aX8.wrap ((aX8.wrap ((aX8.wrap ((aX8.wrap ((aX8.wrap ((aX8.wrap ((R6 .u64 q4 q5)*4294967296))+(F5 .u64 q6 32)))-(aX8.wrap (s4.1*q3))))*4294967296))+(T2 .u64 q6 4294967295)))-(aX8.wrap (s6.2*q3)))) (aX8.wrap v)) fun q9=>some (aX8.wrap ((aX8.wrap (s4.1*4294967296))+s6.2),q9))| .inr r=>r.elim)| .inr r=>r.elim)
def ak4 (r2 c:Int)(negative:Bool)(mode:Int):Option Bool:=
 bif (mode==1)then(some (negative&&(decide (r2>0))))else(bif (mode==2)then(some ((!negative)&&(decide (r2>0))))else(bif negative then(some (decide (r2>(aX8.wrap (c-r2)))))else(some (decide (r2>=(aX8.wrap (c-r2)))))))
def az2 (a b2 c mode:Int):Option (Int×Int):=
 bif ((decide (mode<1))||(decide (mode>3)))then(some (0,1))else(bif (c==0)then(some (0,10))else(ai8 (V3 a) fun v=>ai8 (V3 b2) fun v2=>ai8 (at3 v v2) fun r2=>ai8 (V3 c) fun v3=>bif (decide (r2.1>=v3))then(some (0,9))else(ai8 (al6 r2.1 r2.2 v3) fun r3=>bif (decide (r3.1>9223372036854775808))then(some (0,9))else(ai8 (ak4 r3.2 v3 (!((!((decide (a<0))==(decide (b2<0))))==(decide (c<0)))) mode) fun v4=>ai8 (bif v4 then(some (aX8.wrap (r3.1+1)))else(some r3.1)) fun(q:Int)=>bif ((!((!((decide (a<0))==(decide (b2<0))))==(decide (c<0))))&&(decide (q<=9223372036854775808)))then(some (j7 ((j7 (0-(j7 (aX8.wrap (q-1)))))-1),0))else(bif ((!(!((!((decide (a<0))==(decide (b2<0))))==(decide (c<0)))))&&(decide (q<9223372036854775808)))then(some (j7 q,0))else(some (0,9)))))))
def am8 (a b2 mode:Int):Option (Int×Int):=
 ai8 (az2 a 1 b2 mode) fun r2=>some (r2.1,r2.2)
def V8 (a b2:Int):Option Int:=
 ai8 (am8 a b2 1) fun r2=>some r2.1
def ac0 (x0 x1 y0 y1 x:Int):Option Int:=
 ai8 (V8 (j7 ((j7 (x-x0))*(j7 (y1-y0)))) (j7 (x1-x0))) fun v=>some (j7 (y0+v))
def ar7 (j:Int)(c:SMap)(c2 c3:Int):Option Int:=
 ai8 (D4 c.X c2) fun x=>ai8 (D4 c.X (j7 (c2+1))) fun x2=>ai8 (D4 c.Z c2) fun x3=>ai8 (D4 x3 j) fun x4=>ai8 (D4 c.Z (j7 (c2+1))) fun x5=>ai8 (D4 x5 j) fun x6=>ai8 (ac0 x x2 x4 x6 c3) fun v=>some v
def aM8 (m2:SMap)(x y:Int):Option Int:=
 ai8 (X2 m2.X x) fun r2=>ai8 (X2 m2.Y y) fun r3=>ai8 (D4 m2.Y r3.1) fun x2=>ai8 (D4 m2.Y (j7 (r3.1+1))) fun x3=>ai8 (ar7 r3.1 m2 r2.1 r2.2) fun v=>ai8 (ar7 (j7 (r3.1+1)) m2 r2.1 r2.2) fun v2=>ai8 (ac0 x2 x3 v v2 r3.2) fun v3=>some v3
def Y2 (m2:SMap)(x y:Int):Option Int:=
 ai8 (J4 m2) fun v=>bif (!v)then(some 0)else(ai8 (aM8 m2 x y) fun v2=>some v2)
def aM2 (t2:o7)(value o8:Int):Option (Int×Int):=
 ai8 (J4 t2.aH9) fun v=>bif (!v)then(some (0,1))else(bif ((((decide (value<0))||(decide (value>1000)))||(decide (o8<0)))||(decide (o8>12000)))then(some (0,2))else(ai8 (Y2 t2.aH9 o8 value) fun v2=>ai8 (C6 v2 (-5000) 10000) fun v3=>some (v3,0)))
def aq5 (s:F7)(g:aV4)(e2:Int):Option (F7×Int×Int):=
 ai8 (Q5 g) fun v=>bif (((!v)||(decide (s.Sum<(-4398046511104))))||(decide (s.Sum>4398046511104)))then(some ((⟨0⟩:F7),0,1))else(bif ((decide (e2<(-1048576)))||(decide (e2>1048576)))then(some ((⟨0⟩:F7),0,2))else(ai8 (bif ((decide ((F5 .i64 (j7 ((j7 (g.P*e2))+s.Sum)) 10)<=g.bs4))||(decide (e2<=0)))then(some ((decide ((F5 .i64 (j7 ((j7 (g.P*e2))+s.Sum)) 10)>=g.Low))||(decide (e2>=0))))else(some false)) fun b2=>ai8 (bif b2 then(ai8 (C6 (j7 (s.Sum+(j7 (g.I*e2)))) (-4398046511104) 4398046511104) fun v2=>some v2)else(some s.Sum)) fun(f2:Int)=>ai8 (C6 (F5 .i64 (j7 ((j7 (g.P*e2))+s.Sum)) 10) g.Low g.bs4) fun v3=>some ((⟨f2⟩:F7),v3,0)))
def aE5 (s:F7)(g:aV4)(target o8:Int):Option (F7×Int×Int):=
 ai8 (Q5 g) fun v=>bif (!v)then(some ((⟨0⟩:F7),0,1))else(ai8 (aj5 target) fun v2=>ai8 (bif (!v2)then(some true)else(ai8 (aj5 o8) fun v3=>some (!v3))) fun b2=>bif b2 then(some ((⟨0⟩:F7),0,2))else(ai8 (aq5 s g (j7 (target-o8))) fun r2=>some (r2.1,r2.2.1,r2.2.2)))
def ah4 (r2:j2):Option Bool:=
 ai8 (S6 r2) fun v=>some (!v)
def av5 (l:List j2)(low high:Int):Option Int:=
 ai8 (D7 l ah4) fun v=>bif v then(some 1)else(bif (decide ((l.length:Int)>32))then(some 5)else(ai8 (P3 low) fun v2=>ai8 (bif (!v2)then(some true)else(ai8 (P3 high) fun v3=>some (!v3))) fun b2=>bif (b2||(decide (low>high)))then(some 2)else(some 0)))
def W8 (s:List j2):Option (List j2):=
 ai8 (U9 ([]:List j2) s) fun l=>some l
def P9 (a:Int)(cmp:j2->j2->Option Int)(s2:Int×List j2):Option ((Int×List j2)⊕((Int×List j2)⊕Empty)):=
 ai8 (bif (decide (s2.1>a))then(ai8 (D4 s2.2 s2.1) fun x=>ai8 (D4 s2.2 (j7 (s2.1-1))) fun x2=>ai8 (cmp x x2) fun v=>some (decide (v<0)))else(some false)) fun(v2:Bool)=>bif v2 then(ai8 (ai8 (D4 s2.2 (j7 (s2.1-1))) fun x3=>ai8 (D4 s2.2 s2.1) fun x4=>ai8 (an9 s2.2 s2.1 x3) fun l=>ai8 (D4 l (j7 (s2.1-1))) fun _=>ai8 (an9 l (j7 (s2.1-1)) x4) fun l2=>some l2) fun(f2:List j2)=>some (.inl (j7 (s2.1-1),f2)))else(some (.inr (.inl (s2.1,s2.2))))
def P8 (a b2:Int)(cmp:j2->j2->Option Int)(s:Int×List j2):Option ((Int×List j2)⊕((Int×List j2)⊕Empty)):=
 bif (decide (s.1<b2))then(ai8 (L7 (P9 a cmp) (s.1,s.2)) fun(t:(Int×List j2)⊕Empty)=>match t with| .inl s3=>(some (.inl (j7 (s.1+1),s3.2)))| .inr r=>r.elim)else(some (.inr (.inl (s.1,s.2))))
def F4 (data:List j2)(a b2:Int)(cmp:j2->j2->Option Int):Option (List j2):=
 ai8 (L7 (P8 a b2 cmp) (j7 (a+1),data)) fun(t:(Int×List j2)⊕Empty)=>match t with| .inl s4=>(some s4.2)| .inr r=>r.elim
def O3 (_:Nat)(_:List j2)(_ _ _:Int)(_:j2->j2->Option Int):Option (List j2):=none
def R7 (n2:Int)(cmp:j2->j2->Option Int)(s:Int×Int×List j2):Option ((Int×Int×List j2)⊕((Int×Int×List j2)⊕Empty)):=
 bif (decide (s.2.1<=n2))then(ai8 (F4 s.2.2 s.1 s.2.1 cmp) fun v=>some (.inl (s.2.1,j7 (s.2.1+20),v)))else(some (.inr (.inl (s.1,s.2.1,s.2.2))))
def W7 (n2:Int)(cmp:j2->j2->Option Int)(s3:Int×List j2)(s4:Int×Int×List j2):Option ((Int×Int×List j2)⊕((Int×Int×List j2)⊕Empty)):=
 bif (decide (s4.2.1<=n2))then(ai8 (O3 64 s4.2.2 s4.1 (j7 (s4.1+s3.1)) s4.2.1 cmp) fun v3=>some (.inl (s4.2.1,j7 (s4.2.1+(j7 (2*s3.1))),v3)))else(some (.inr (.inl (s4.1,s4.2.1,s4.2.2))))
def R8 (n2:Int)(cmp:j2->j2->Option Int)(s3:Int×List j2):Option ((Int×List j2)⊕((Int×List j2)⊕Empty)):=
 bif (decide (s3.1<n2))then(ai8 (L7 (W7 n2 cmp s3) (0,j7 (2*s3.1),s3.2)) fun(t:(Int×Int×List j2)⊕Empty)=>match t with| .inl s5=>(bif (decide ((j7 (s5.1+s3.1))<n2))then(ai8 (O3 64 s5.2.2 s5.1 (j7 (s5.1+s3.1)) n2 cmp) fun v4=>some (.inl (j7 (s3.1*2),v4)))else(some (.inl (j7 (s3.1*2),s5.2.2))))| .inr r=>r.elim)else(some (.inr (.inl (s3.1,s3.2))))
def N1 (data:List j2)(n2:Int)(cmp:j2->j2->Option Int):Option (List j2):=
 ai8 (L7 (R7 n2 cmp) (0,20,data)) fun(t:(Int×Int×List j2)⊕Empty)=>match t with| .inl s2=>(ai8 (F4 s2.2.2 s2.1 n2 cmp) fun v2=>ai8 (L7 (R8 n2 cmp) (20,v2)) fun(t:(Int×List j2)⊕Empty)=>match t with| .inl s6=>(some s6.2)| .inr r=>r.elim)| .inr r=>r.elim
def J6 (x:List j2)(cmp:j2->j2->Option Int):Option (List j2):=
 ai8 (N1 x (x.length:Int) cmp) fun v=>some v
def O2 (a b2:j2):Option Int:=
 some (j7 (b2.E6-a.E6))
def ad4 (s:u0)(t2:Int):Option u0:=
 some (⟨s.low,G4 s.low (F2 s.high t2),s.source⟩:u0)
def Z4 (s:u0)(t2:Int):Option u0:=
 some ({s with low:=F2 s.high (G4 s.low t2)}:u0)
def Z5 (s:u0)(t2:Int):Option u0:=
 ai8 (C6 t2 s.low s.high) fun v=>some (⟨v,v,s.source⟩:u0)
def X0 (s:u0)(r2:j2):Option (Bool×u0):=
 ai8 (bif (r2.Kind==1)then(ai8 (ad4 s r2.o9) fun v=>some v)else(bif (r2.Kind==2)then(ai8 (Z4 s r2.o9) fun v2=>some v2)else(bif (r2.Kind==3)then(ai8 (Z5 s r2.o9) fun v3=>some v3)else(some s)))) fun(f2:u0)=>ai8 (bif (f2.low !=s.low)then(some r2.N3)else(some f2.source)) fun(f3:Int)=>bif (f2.low !=s.low)then(some (true,(⟨f2.low,f2.high,f3⟩:u0)))else(some ((f2.high !=s.high),(⟨f2.low,f2.high,f3⟩:u0)))
def aB6 (s:List Int):Option (List Int):=
 bT5 s
def as2 (s:List Int):Option (List Int):=
 bm2 s
def aj3 (_:Int)(x:j2)(s:List Int×u0):Option (Fl (List Int×u0) Empty):=
 ai8 (X0 s.2 x) fun r2=>bif r2.1 then(ai8 (U9 s.1 ([x.N3]:List Int)) fun l2=>some (.next (l2,r2.2)))else(some (.next (s.1,r2.2)))
def ap7 (l:List j2)(low high:Int):Option (u0×List Int):=
 ai8 (W8 l) fun v=>ai8 (J6 v O2) fun v2=>ai8 (ad9 v2 (aj3) (([]:List Int),(⟨low,high,(-1)⟩:u0))) fun(t:(List Int×u0)⊕Empty)=>match t with| .inl s2=>(ai8 (aB6 s2.1) fun v3=>ai8 (ai8 (as2 v3) fun v4=>some (v4,s2.2)) fun(s3:List Int×u0)=>some (s3.2,s3.1))| .inr r=>r.elim
def ap6 (g:aa2)(l:List j2)(low high up down:Int):Option (aa2×Int):=
 ai8 (P3 g.o9) fun v=>bif (((!v)||(decide (g.N3<(-1))))||(decide (g.N3>15)))then(some ((⟨0,0⟩:aa2),1))else(ai8 (av5 l low high) fun v2=>bif (v2 !=0)then(some ((⟨0,0⟩:aa2),v2))else(bif ((((decide (up<0))||(decide (up>20000)))||(decide (down<0)))||(decide (down>20000)))then(some ((⟨0,0⟩:aa2),2))else(ai8 (ap7 l low high) fun r2=>some ((⟨G4 (F2 (F2 (G4 r2.1.low (j7 (g.o9-down))) (j7 (g.o9+up))) r2.1.high) low,r2.1.source⟩:aa2),0))))
def X1 (s:o4):Option o4:=
 ai8 (ai8 (aM1 s.c.I9 s.i.bG3 s.i.bG4) fun r2=>some (r2.2,r2.1)) fun(s2:Int×U7)=>ai8 (u5 ({s with c:=(⟨s2.2,s.c.af0,s.c.ab2,s.c.Q3,s.c.P1,s.c.af5⟩:A5)}:o4) s2.1) fun v=>ai8 (aM2 v.t v.c.I9.Value v.i.D2) fun r3=>ai8 (u5 v r3.2) fun v2=>ai8 (ax1 v2.c.I9.Value v2.i.D2 v2.i.av1) fun v3=>ai8 (bif v3 then(ai8 (ai8 (ax2 v2.i.av1) fun v4=>ai8 (aE5 v2.c.af0 v2.t.af0 v4 v2.i.D2) fun r4=>some (r4.2.2,r4.2.1,r4.1.Sum)) fun(s3:Int×Int×Int)=>ai8 (u5 ({v2 with c:=(⟨v2.c.I9,(⟨s3.2.2⟩:F7),v2.c.ab2,v2.c.Q3,v2.c.P1,v2.c.af5⟩:A5)}:o4) s3.1) fun v5=>ai8 (C6 s3.2.1 (-5000) 10000) fun v6=>ai8 (U9 ([(⟨0,3,r3.1,0⟩:j2)]:List j2) ([(⟨1,2,v6,1⟩:j2)]:List j2)) fun l=>some (v5,l))else(some (({v2 with c:=(⟨v2.c.I9,(⟨0⟩:F7),v2.c.ab2,v2.c.Q3,v2.c.P1,v2.c.af5⟩:A5)}:o4),([(⟨0,3,r3.1,0⟩:j2)]:List j2)))) fun(s4:o4×List j2)=>ai8 (ai8 (U9 s4.2 s4.1.i.Requests) fun l2=>ai8 (ap6 s4.1.c.af5 l2 (-5000) 10000 300 1000) fun r5=>some (r5.2,r5.1,l2)) fun(s5:Int×aa2×List j2)=>ai8 (u5 (⟨s4.1.t,s4.1.e,s4.1.b,(⟨s4.1.c.I9,s4.1.c.af0,s4.1.c.ab2,s4.1.c.Q3,s4.1.c.P1,s5.2.1⟩:A5),s4.1.i,s4.1.wanted,s4.1.A0,s4.1.ae3,s4.1.late,s4.1.pattern,s4.1.time,s4.1.out,s4.1.fail⟩:o4) s5.1) fun v7=>some ({v7 with wanted:=G4 0 v7.c.af5.o9}:o4)
def am1 (i:Int)(c:o7)(c2 c3 c4:Int):Option Bool:=
 ai8 (Y2 c.o9 c2 (j7 (c3+i))) fun v=>some (decide (v>=c4))
def ap3 (t2:o7)(o8 T4:Int):Option (Int×Int):=
 ai8 (ai4 t2) fun v=>bif (!v)then(some (0,1))else(ai8 (H5 o8 0 12000) fun v2=>bif (!v2)then(some (0,2))else(ai8 (D4 t2.o9.Y 0) fun x=>ai8 (D4 t2.o9.Y (j7 ((t2.o9.Y.length:Int)-1))) fun x2=>ai8 (Q0 (j7 ((j7 (x2-x))+1)) (fun x0=>am1 x0 t2 o8 x T4)) fun v3=>bif (v3==(j7 ((j7 (x2-x))+1)))then(some (0,7))else(some (j7 (x+v3),0))))
def au5 (x e2 other:Int):Option Int:=
 bif (e2 !=0)then(some other)else(some x)
def al3 (i:Int)(c:Q2)(c2:Int):Option Bool:=
 ai8 (D4 c.X i) fun x=>some (decide (x>c2))
def av7 (c:Q2)(x:Int):Option Int:=
 ai8 (Q0 (c.X.length:Int) (fun x0=>al3 x0 c x)) fun v=>some (j7 (v-1))
def aE9 (c:Q2)(x:Int):Option Int:=
 ai8 (D4 c.X 0) fun x2=>bif (decide (x<=x2))then(ai8 (D4 c.Y 0) fun x3=>some x3)else(ai8 (D4 c.X (j7 ((c.X.length:Int)-1))) fun x4=>bif (decide (x>=x4))then(ai8 (D4 c.Y (j7 ((c.X.length:Int)-1))) fun x5=>some x5)else(ai8 (av7 c x) fun v=>ai8 (D4 c.Y v) fun x6=>ai8 (D4 c.X v) fun x7=>ai8 (D4 c.Y (j7 (v+1))) fun x8=>ai8 (D4 c.X (j7 (v+1))) fun x9=>ai8 (V8 (j7 ((j7 (x-x7))*(j7 (x8-x6)))) (j7 (x9-x7))) fun v2=>some (j7 (x6+v2))))
def at9 (c:Q2)(x:Int):Option Int:=
 ai8 (P4 c) fun v=>bif (!v)then(some 0)else(ai8 (aE9 c x) fun v2=>some v2)
def aC1 (t2:o7)(o8 C1 K5:Int):Option Int:=
 ai8 (Y2 t2.Air o8 C1) fun v=>ai8 (at9 t2.L4 K5) fun v2=>ai8 (V8 (j7 (v*v2)) 1000) fun v3=>some (F2 1048576 v3)
def ak2 (k:Int)(c:o7)(c2 c3 c4:Int):Option Bool:=
 ai8 (aC1 c c2 (j7 (50+k)) c3) fun v=>some (decide (v>=c4))
def av2 (t2:o7)(o8 want K5:Int):Option (Int×Int):=
 ai8 (aA8 t2) fun v=>bif (!v)then(some (0,1))else(ai8 (I4 o8 0 12000) fun v2=>ai8 (bif (!v2)then(some true)else(ai8 (I4 want 0 1048576) fun v3=>some (!v3))) fun b2=>ai8 (bif b2 then(some true)else(ai8 (I4 K5 (-40) 150) fun v4=>some (!v4))) fun b3=>bif b3 then(some (0,2))else(ai8 (Q0 2951 (fun x0=>ak2 x0 t2 o8 K5 want)) fun v5=>bif (decide ((j7 (50+v5))>3000))then(some (0,7))else(some (j7 (50+v5),0))))
def ax7 (rpm:Int):Option (Int×Int):=
 bif ((decide (rpm<0))||(decide (rpm>20000)))then(some (0,2))else(ai8 (am8 (j7 ((j7 (rpm*65536))*23040)) 60000000 2) fun r2=>some (r2.1,r2.2))
def bd9 (o8 C1:Int):Option (Int×Int):=
 ai8 (I4 o8 0 12000) fun v=>ai8 (bif (!v)then(some true)else(ai8 (I4 C1 50 3000) fun v2=>some (!v2))) fun b2=>bif b2 then(some (0,2))else(ai8 (ax7 o8) fun r2=>some (j7 (cZ1 (j7 (r2.1*C1)) 1024),r2.2))
def ak3 (k:Int)(c:L2)(c2 c3:Int):Option Bool:=
 some (decide ((j7 (cZ1 (j7 ((j7 (c.J2*k))*(j7 (1013-c2)))) 1000))>=c3))
def av3 (b2:L2)(cX0 C1:Int):Option (Int×Int):=
 ai8 (aj6 b2) fun v=>bif (!v)then(some (0,1))else(ai8 (I4 cX0 0 1099511627776) fun v2=>ai8 (bif (!v2)then(some true)else(ai8 (I4 C1 50 1013) fun v3=>some (!v3))) fun b3=>bif b3 then(some (0,2))else(ai8 (Q0 1001 (fun x0=>ak3 x0 b2 C1 cX0)) fun v4=>bif (decide (v4>1000))then(some (0,7))else(some (v4,0))))
def U4 (s:o4):Option o4:=
 ai8 (ap3 s.t s.i.D2 s.wanted) fun r2=>ai8 (au5 r2.1 r2.2 1048576) fun v=>ai8 (av2 s.t s.i.D2 (G4 0 v) s.i.L4) fun r3=>ai8 (au5 r3.1 r3.2 3000) fun v2=>ai8 (bd9 s.i.D2 (F2 1012 v2)) fun r4=>ai8 (u5 s r4.2) fun v3=>ai8 (av3 v3.b r4.1 (F2 1012 v2)) fun r5=>ai8 (au5 r5.1 r5.2 1000) fun v4=>some ({v3 with out:=(⟨v4,v3.out.O0,v3.out.o9⟩:O4)}:o4)
def aC0 (t2:o7)(o8 C1 K5:Int):Option (Int×Int):=
 ai8 (aA8 t2) fun v=>bif (!v)then(some (0,1))else(ai8 (I4 o8 0 12000) fun v2=>ai8 (bif (!v2)then(some true)else(ai8 (I4 C1 50 3000) fun v3=>some (!v3))) fun b2=>ai8 (bif b2 then(some true)else(ai8 (I4 K5 (-40) 150) fun v4=>some (!v4))) fun b3=>bif b3 then(some (0,2))else(ai8 (aC1 t2 o8 C1 K5) fun v5=>some (v5,0)))
def ah2 (t2:o7)(o8 A0:Int):Option (Int×Int):=
 ai8 (ai4 t2) fun v=>bif (!v)then(some (0,1))else(ai8 (H5 o8 0 12000) fun v2=>ai8 (bif (!v2)then(some true)else(ai8 (H5 A0 0 1048576) fun v3=>some (!v3))) fun b2=>bif b2 then(some (0,2))else(ai8 (Y2 t2.o9 o8 A0) fun v4=>some (v4,0)))
def Y7 (t2:o7)(bJ7 late ae3 B4:Int):Option Int:=
 ai8 (at9 t2.C3 late) fun v=>ai8 (bn3 .i64 (j7 ((j7 (bJ7*v))*ae3)) (j7 (1000*B4))) fun q=>some q
def al1 (late:Int)(c:o7)(c2 c3 c4 c5:Int):Option Bool:=
 ai8 (Y7 c c2 late c3 c4) fun v=>some (decide (v<=c5))
def am3 (t2:o7)(most B4:Int)(r2:Int×Int)(f2:Int):Option (Int⊕(Int⊕Empty)):=
 bif (decide (f2>0))then(ai8 (Y7 t2 r2.1 2560 f2 B4) fun v2=>bif (decide (v2<=most))then(some (.inr (.inl f2)))else(some (.inl (j7 (f2-1)))))else(some (.inr (.inl f2)))
def am2 (t2:o7)(o8 A0 most B4:Int):Option (Int×Int×Int):=
 ai8 (ah2 t2 o8 A0) fun r2=>bif (r2.2 !=0)then(some (0,0,r2.2))else(ai8 (H5 B4 1 8) fun v=>bif ((!v)||(decide (most<0)))then(some (0,0,2))else(ai8 (L7 (am3 t2 most B4 r2) B4) fun(t:Int⊕Empty)=>match t with| .inl f3=>(ai8 (Q0 2560 (fun x0=>al1 x0 t2 r2.1 f3 B4 most)) fun v3=>some (f3,v3,0))| .inr r=>r.elim))
def as0 (B4 ae3 E5 i:Int)(f2:List Bool):Option (Fl (List Bool) Empty):=
 ai8 (cf1 (j7 (i+E5)) B4) fun q=>ai8 (bn3 .i64 (j7 ((j7 (q+1))*ae3)) B4) fun q2=>ai8 (bn3 .i64 (j7 (q*ae3)) B4) fun q3=>ai8 (D4 f2 i) fun _=>ai8 (an9 f2 i (decide (q2>q3))) fun l2=>some (.next l2)
def ar9 (B4 ae3 E5:Int):Option (List Bool×Int):=
 ai8 (H5 B4 1 8) fun v=>ai8 (bif (!v)then(some true)else(ai8 (H5 ae3 0 B4) fun v2=>some (!v2))) fun b2=>ai8 (bif b2 then(some true)else(ai8 (H5 E5 0 1099511627776) fun v3=>some (!v3))) fun b3=>bif b3 then(some (([]:List Bool),2))else(ai8 (aY3 B4 false) fun l=>ai8 (K7 (l.length:Int) (as0 B4 ae3 E5) l) fun(t:(List Bool)⊕Empty)=>match t with| .inl f3=>(some (f3,0))| .inr r=>r.elim)
def aw4 (t2:o7)(o8 A0 late ae3 B4:Int):Option (Int×Int):=
 ai8 (ah2 t2 o8 A0) fun r2=>bif (r2.2 !=0)then(some (0,r2.2))else(ai8 (H5 late 0 2560) fun v=>ai8 (bif (!v)then(some true)else(ai8 (H5 B4 1 8) fun v2=>some (!v2))) fun b2=>ai8 (bif b2 then(some true)else(ai8 (H5 ae3 0 B4) fun v3=>some (!v3))) fun b3=>bif b3 then(some (0,2))else(ai8 (Y7 t2 r2.1 late ae3 B4) fun v4=>some (v4,0)))
def aa4 (s:o4):Option o4:=
 ai8 (ai8 (aC0 s.t s.i.D2 s.i.L0 s.i.L4) fun r2=>some (r2.2,r2.1)) fun(s2:Int×Int)=>ai8 (u5 ({s with A0:=s2.2}:o4) s2.1) fun v=>ai8 (ai8 (am2 v.t v.i.D2 v.A0 v.wanted (s.e.A3.length:Int)) fun r3=>some (r3.2.2,r3.1,r3.2.1)) fun(s3:Int×Int×Int)=>ai8 (u5 ({v with ae3:=s3.2.1,late:=s3.2.2}:o4) s3.1) fun v2=>ai8 (ar9 (s.e.A3.length:Int) v2.ae3 0) fun r4=>ai8 (u5 ({v2 with pattern:=r4.1}:o4) r4.2) fun v3=>ai8 (ai8 (aw4 v3.t v3.i.D2 v3.A0 v3.late v3.ae3 (s.e.A3.length:Int)) fun r5=>some (r5.2,r5.1)) fun(s4:Int×Int)=>ai8 (u5 ({v3 with out:=(⟨v3.out.J2,v3.out.O0,s4.2⟩:O4)}:o4) s4.1) fun v4=>some v4
def ac8 (o8 A0:Int):Option Bool:=
 ai8 (S1 o8 0 12000) fun v=>ai8 (bif v then(ai8 (S1 A0 0 1048576) fun v2=>some v2)else(some false)) fun b2=>some b2
def ag9 (s:List ab3):Option (List ab3):=
 ai8 (U9 ([]:List ab3) s) fun l=>some l
def ax4 (p2:M8):Option M8:=
 ai8 (ag9 p2.Cells) fun v=>some ({p2 with Cells:=v}:M8)
def az5 (p2:M8)(B9 o8 A0:Int):Option (M8×Int):=
 ai8 (ac7 p2) fun v=>bif (!v)then(some ((⟨false,false,0,0,([]:List ab3)⟩:M8),1))else(ai8 (ac8 o8 A0) fun v2=>ai8 (bif (!v2)then(some true)else(ai8 (S1 B9 0 20000) fun v3=>some (!v3))) fun b2=>bif b2 then(some ((⟨false,false,0,0,([]:List ab3)⟩:M8),2))else(ai8 (ax4 p2) fun v4=>bif (!v4.af3)then(some (({v4 with af3:=((decide (B9<300))||(decide (B9>600))),bd7:=decide (B9>600)}:M8),0))else(ai8 (bif (decide (B9>500))then(some true)else(some ((decide (B9>=400))&&v4.bd7))) fun b3=>ai8 (bif (!(b3==v4.bd7))then(some (15,0))else(some (1,F2 1000 (j7 (v4.bd8+1))))) fun(s:Int×Int)=>ai8 (bif b3 then(some (j7 (0-s.1)))else(some s.1)) fun(v_by:Int)=>ai8 (C6 (j7 (v4.ak1+v_by)) 750 1250) fun v5=>some ((⟨v4.af3,b3,v5,s.2,v4.Cells⟩:M8),0))))
def aB5 (x _ x2 n2:Int):Option (Fl Int Empty):=
 bif (decide (x>=x2))then(some (.next (j7 (n2+1))))else(some (.next n2))
def ak8 (x:Int)(bb5:List Int):Option Int:=
 ai8 (ad9 bb5 (aB5 x) 0) fun(t:Int⊕Empty)=>match t with| .inl n3=>(some n3)| .inr r=>r.elim
def aF7 (o8 A0:Int):Option Int:=
 ai8 (ac8 o8 A0) fun v=>bif (!v)then(some (-1))else(ai8 (ak8 o8 ([1500,3500]:List Int)) fun v2=>ai8 (ak8 A0 ([150000,350000]:List Int)) fun v3=>some (j7 ((j7 (3*v2))+v3)))
def aq8 (p2:M8)(o8 A0:Int):Option (Int×Int):=
 ai8 (ac7 p2) fun v=>bif (!v)then(some (0,1))else(ai8 (ac8 o8 A0) fun v2=>bif (!v2)then(some (0,2))else(ai8 (aF7 o8 A0) fun v3=>ai8 (D4 p2.Cells v3) fun x=>ai8 (C6 (j7 (p2.ak1+x.Value)) 700 1300) fun v4=>some (v4,0)))
def af2 (x low high:Int):Option Bool:=
 some ((decide (x>=low))&&(decide (x<=high)))
def aU2 (A0 bI8:Int):Option (Int×Int):=
 ai8 (af2 A0 0 1048576) fun v=>ai8 (bif (!v)then(some true)else(ai8 (af2 bI8 500 2000) fun v2=>some (!v2))) fun b2=>bif b2 then(some (0,2))else(ai8 (bn3 .i64 (j7 (A0*10000)) (j7 (bI8*147))) fun q=>some (q,0))
def aJ2 (b2:L2):Option Bool:=
 ai8 (af2 b2.P1 0 1023) fun v=>ai8 (bif v then(ai8 (af2 b2.K9 0 1024) fun v2=>some v2)else(some false)) fun b3=>some b3
def aM6 (cmp:Int->Option Int)(s:Int×Int):Option ((Int×Int)⊕((Int×Int)⊕Empty)):=
 bif (decide (s.1<s.2))then(ai8 (cmp (j7 (F5 .u64 (aX8.wrap (j7 (s.1+s.2))) 1))) fun v=>bif (decide (v>0))then(some (.inl (j7 ((j7 (F5 .u64 (aX8.wrap (j7 (s.1+s.2))) 1))+1),s.2)))else(some (.inl (s.1,j7 (F5 .u64 (aX8.wrap (j7 (s.1+s.2))) 1)))))else(some (.inr (.inl (s.1,s.2))))
def aO7 (n2:Int)(cmp:Int->Option Int):Option (Int×Bool):=
 ai8 (L7 (aM6 cmp) (0,n2)) fun(t:(Int×Int)⊕Empty)=>match t with| .inl s2=>(ai8 (bif (decide (s2.1<n2))then(ai8 (cmp s2.1) fun v2=>some (v2==0))else(some false)) fun b2=>some (s2.1,b2))| .inr r=>r.elim
def aB4 (b2:L2)(aF3 aH1:Int):Option (Int×Int):=
 some (j7 ((j7 (aH1-(j7 (cZ1 (j7 (aH1*b2.P1)) 1024))))+(j7 (cZ1 (j7 (aF3*b2.K9)) 1024))),j7 ((j7 (aF3+(j7 (cZ1 (j7 (aH1*b2.P1)) 1024))))-(j7 (cZ1 (j7 (aF3*b2.K9)) 1024))))
def aA4 (i:Int)(c:L2)(c2 c3:Int):Option Int:=
 ai8 (aB4 c c2 i) fun r2=>some (j7 (c3-r2.1))
def aJ1 (b2:L2)(aF3 bq8:Int):Option (Int×Int×Int):=
 ai8 (aJ2 b2) fun v=>bif (!v)then(some (0,0,1))else(ai8 (af2 aF3 0 1073741824) fun v2=>ai8 (bif (!v2)then(some true)else(ai8 (af2 bq8 0 1048576) fun v3=>some (!v3))) fun b3=>bif b3 then(some (0,0,2))else(ai8 (aO7 1048577 (fun x0=>aA4 x0 b2 aF3 bq8)) fun r2=>bif (decide (r2.1>1048576))then(some (0,0,9))else(ai8 (aB4 b2 aF3 r2.1) fun r3=>bif (decide (r3.2>1073741824))then(some (0,0,9))else(some (r2.1,r3.2,0)))))
def aO4 (b2:L2)(aF3 aH1:Int):Option (Int×Int×Int):=
 ai8 (aJ2 b2) fun v=>bif (!v)then(some (0,0,1))else(ai8 (af2 aF3 0 1073741824) fun v2=>ai8 (bif (!v2)then(some true)else(ai8 (af2 aH1 0 1048576) fun v3=>some (!v3))) fun b3=>bif b3 then(some (0,0,2))else(ai8 (aB4 b2 aF3 aH1) fun r2=>bif (decide (r2.2>1073741824))then(some (0,0,9))else(some (r2.1,r2.2,0))))
def aF4 (y:Int):Option Bool:=
 ai8 (af2 y 0 10000) fun v=>some (!v)
def aB3 (t2:o7)(ca6 B9:Int):Option (Int×Int):=
 ai8 (P4 t2.aw5) fun v=>ai8 (bif (!v)then(some true)else(ai8 (o6 t2.aw5.Y aF4) fun v2=>some v2)) fun b2=>bif b2 then(some (0,1))else(ai8 (af2 ca6 0 1048576) fun v3=>ai8 (bif (!v3)then(some true)else(ai8 (af2 B9 0 20000) fun v4=>some (!v4))) fun b3=>bif b3 then(some (0,2))else(ai8 (at9 t2.aw5 B9) fun v5=>some (v5,0)))
def aO5 (t2:o7)(bq8 B9:Int):Option (Int×Int):=
 ai8 (aB3 t2 bq8 B9) fun r2=>bif ((r2.2 !=0)||(bq8==0))then(some (0,r2.2))else(ai8 (am8 bq8 3 2) fun r3=>some (j7 (r2.1+r3.1),r3.2))
def ae1 (s:o4):Option o4:=
 ai8 (ai8 (az5 s.c.Q3 s.i.Lambda s.i.D2 s.A0) fun r2=>some (r2.2,r2.1)) fun(s2:Int×M8)=>ai8 (u5 ({s with c:=(⟨s.c.I9,s.c.af0,s.c.ab2,s2.2,s.c.P1,s.c.af5⟩:A5)}:o4) s2.1) fun v=>ai8 (aq8 v.c.Q3 v.i.D2 v.A0) fun r3=>ai8 (u5 v r3.2) fun v2=>ai8 (aU2 v2.A0 1000) fun r4=>ai8 (u5 v2 r4.2) fun v3=>ai8 (aJ1 v3.b v3.c.P1 (F2 1048576 (j7 (cZ1 (j7 (r4.1*r3.1)) 1000)))) fun r5=>ai8 (bif ((v3.ae3==0)||(r5.2.2 !=0))then(ai8 (aO4 v3.b v3.c.P1 0) fun r6=>ai8 (u5 v3 r6.2.2) fun v4=>some (0,r6.2.1,v4))else(some (r5.1,r5.2.1,v3))) fun(s3:Int×Int×o4)=>bif (decide (s3.1>0))then(ai8 (aO5 s3.2.2.t s3.1 s3.2.2.i.aI3) fun r7=>ai8 (u5 (⟨s3.2.2.t,s3.2.2.e,s3.2.2.b,(⟨s3.2.2.c.I9,s3.2.2.c.af0,s3.2.2.c.ab2,s3.2.2.c.Q3,s3.2.1,s3.2.2.c.af5⟩:A5),s3.2.2.i,s3.2.2.wanted,s3.2.2.A0,s3.2.2.ae3,s3.2.2.late,s3.2.2.pattern,s3.2.2.time,s3.2.2.out,s3.2.2.fail⟩:o4) r7.2) fun v5=>ai8 (C6 r7.1 200 20000) fun v6=>some ({v5 with time:=v6}:o4))else(some (⟨s3.2.2.t,s3.2.2.e,s3.2.2.b,(⟨s3.2.2.c.I9,s3.2.2.c.af0,s3.2.2.c.ab2,s3.2.2.c.Q3,s3.2.1,s3.2.2.c.af5⟩:A5),s3.2.2.i,s3.2.2.wanted,s3.2.2.A0,s3.2.2.ae3,s3.2.2.late,s3.2.2.pattern,s3.2.2.time,s3.2.2.out,s3.2.2.fail⟩:o4))
def aA5 (k:B8):Option Bool:=
 ai8 (ax3 k) fun v=>some (!v)
def aF6 (n2:Int):Option Bool:=
 ai8 (ah6 n2) fun v=>some (!v)
def ad6 (s:List B8):Option (List B8):=
 ai8 (U9 ([]:List B8) s) fun l=>some l
def aH2 (k:B8)(n2:Int):Option (B8×Bool):=
 bif (decide (n2>(j7 ((j7 (3*k.aH6))+40))))then(some ((⟨F2 (j7 (k.at6+96)) 960,k.aH6,0⟩:B8),true))else(ai8 (bif ((j7 (k.Quiet+1))==100)then(some (G4 (j7 (k.at6-16)) 0,0))else(some (k.at6,j7 (k.Quiet+1)))) fun(s:Int×Int)=>ai8 (V8 (j7 (n2-k.aH6)) 8) fun v=>some ((⟨s.1,j7 (k.aH6+v),s.2⟩:B8),false))
def aL9 (l:List B8)(ag1:List Int)(i:Int)(f2:List B8):Option (Fl (List B8) Empty):=
 ai8 (ai8 (D4 l i) fun x=>ai8 (D4 ag1 i) fun x2=>ai8 (aH2 x x2) fun r2=>ai8 (D4 f2 i) fun _=>ai8 (an9 f2 i r2.1) fun l2=>some l2) fun(f3:List B8)=>some (.next f3)
def aU5 (l:List B8)(ag1:List Int):Option (List B8×Int):=
 ai8 (bif (((decide ((l.length:Int)<1))||(decide ((l.length:Int)>8)))||((ag1.length:Int) !=(l.length:Int)))then(some true)else(ai8 (J3 l aA5) fun v=>some v)) fun b2=>bif b2 then(some (([]:List B8),1))else(ai8 (o6 ag1 aF6) fun v2=>bif v2 then(some (([]:List B8),2))else(ai8 (ad6 l) fun v3=>ai8 (K7 (v3.length:Int) (aL9 l ag1) v3) fun(t:(List B8)⊕Empty)=>match t with| .inl f4=>(some (f4,0))| .inr r=>r.elim))
def aA6 (a b2:Int):Option Int:=
 some (j7 (b2-a))
def aG3 (l:List Int):Option Bool:=
 ai8 (H9 l aA6) fun v=>some v
def Q7 (x low high:Int):Option Bool:=
 some ((decide (x>=low))&&(decide (x<=high)))
def at5 (x c c2:Int):Option Bool:=
 ai8 (Q7 x c c2) fun v=>some (!v)
def ad3 (l:List Int)(low high:Int):Option Bool:=
 ai8 (o6 l (fun x0=>at5 x0 low high)) fun v=>some v
def aw3 (l:List Int):Option Bool:=
 ai8 (ad3 l (-1280) 3840) fun v=>some v
def ax9 (t2:o7):Option Bool:=
 ai8 (J4 t2.N9) fun v=>ai8 (bif (!v)then(some true)else(ai8 (P4 t2.af1) fun v2=>some (!v2))) fun b2=>ai8 (bif b2 then(some true)else(ai8 (P4 t2.C3) fun v3=>some (!v3))) fun b3=>ai8 (bif b3 then(some true)else(ai8 (aG3 t2.C3.Y) fun v4=>some (!v4))) fun b4=>bif b4 then(some false)else(ai8 (G0 t2.N9.Z aw3) fun v5=>ai8 (bif (!v5)then(ai8 (ad3 t2.af1.Y 500 10000) fun v6=>some (!v6))else(some false)) fun b5=>ai8 (bif b5 then(ai8 (ad3 t2.C3.Y 0 1000) fun v7=>some (!v7))else(some false)) fun b6=>some b6)
def aG2 (t2:o7)(B9 M5:Int):Option (Int×Int):=
 ai8 (ax9 t2) fun v=>bif (!v)then(some (0,1))else(ai8 (Q7 B9 0 20000) fun v2=>ai8 (bif (!v2)then(some true)else(ai8 (Q7 M5 4000 1000000) fun v3=>some (!v3))) fun b2=>bif b2 then(some (0,2))else(ai8 (at9 t2.af1 B9) fun v4=>some (F2 v4 (j7 (cZ1 (j7 (3*M5)) 4)),0)))
def aM7 (t2:o7)(o8 A0:Int):Option (Int×Int):=
 ai8 (ax9 t2) fun v=>bif (!v)then(some (0,1))else(ai8 (Q7 o8 0 12000) fun v2=>ai8 (bif (!v2)then(some true)else(ai8 (Q7 A0 0 1048576) fun v3=>some (!v3))) fun b2=>bif b2 then(some (0,2))else(ai8 (Y2 t2.N9 o8 A0) fun v4=>some (v4,0)))
def aG1 (t2:o7)(o8 A0 D5 bj7:Int):Option (Int×Int):=
 ai8 (aM7 t2 o8 A0) fun r2=>bif (r2.2 !=0)then(some (0,r2.2))else(ai8 (Q7 D5 (-40) 150) fun v=>ai8 (bif (!v)then(some true)else(ai8 (Q7 bj7 0 1280) fun v2=>some (!v2))) fun b2=>bif b2 then(some (0,2))else(bif (decide (D5<20))then(ai8 (C6 (j7 ((j7 (r2.1+(j7 (2*(j7 (20-D5))))))-bj7)) (-1280) 3840) fun v3=>some (v3,0))else(bif (decide (D5>100))then(ai8 (C6 (j7 ((j7 (r2.1-(j7 (8*(j7 (D5-100))))))-bj7)) (-1280) 3840) fun v4=>some (v4,0))else(ai8 (C6 (j7 (r2.1-bj7)) (-1280) 3840) fun v5=>some (v5,0)))))
def ad8 (r3:Int×Int)(i:Int)(f2:o4):Option (Fl o4 Empty):=
 ai8 (D4 f2.c.ab2 i) fun x=>ai8 (aG1 f2.t f2.i.D2 f2.A0 f2.i.av1 x.at6) fun r4=>ai8 (u5 f2 r4.2) fun v4=>ai8 (D4 v4.pattern i) fun x2=>ai8 (bif x2 then(some v4.time)else(some 0)) fun(f3:Int)=>ai8 (ai8 (U9 v4.out.O0 ([(⟨j7 (i+1),G4 (-1280) (j7 (r4.1-v4.late)),G4 500 r3.1,5760,f3,0,0⟩:A2)]:List A2)) fun l=>some l) fun(f4:List A2)=>some (.next ({v4 with out:=(⟨v4.out.J2,f4,v4.out.o9⟩:O4)}:o4))
def aa3 (s:o4):Option o4:=
 ai8 (ai8 (aU5 s.c.ab2 s.i.X4) fun r2=>some (r2.2,r2.1)) fun(s2:Int×List B8)=>ai8 (u5 ({s with c:=(⟨s.c.I9,s.c.af0,s2.2,s.c.Q3,s.c.P1,s.c.af5⟩:A5)}:o4) s2.1) fun v=>ai8 (bn3 .i64 60000000 (G4 1 v.i.D2)) fun q=>ai8 (C6 q 4000 1000000) fun v2=>ai8 (aG2 v.t v.i.aI3 v2) fun r3=>ai8 (u5 v r3.2) fun v3=>bif (v3.fail !=0)then(some v3)else(ai8 (K7 (v3.e.A3.length:Int) (ad8 r3) v3) fun(t:o4⊕Empty)=>match t with| .inl f5=>(some f5)| .inr r=>r.elim)
def aE8 (t2:o7)(e2:o5)(b2:L2)(c:A5)(i:W9):Option (A5×O4×Int):=
 ai8 (ac5 t2) fun v=>ai8 (bif (!v)then(some true)else(ai8 (aj6 b2) fun v2=>some (!v2))) fun b3=>ai8 (bif b3 then(some true)else(ai8 (aq0 e2 c) fun v3=>some (!v3))) fun b4=>bif b4 then(some ((⟨(⟨0,0,false⟩:U7),(⟨0⟩:F7),([]:List B8),(⟨false,false,0,0,([]:List ab3)⟩:M8),0,(⟨0,0⟩:aa2)⟩:A5),(⟨0,([]:List A2),0⟩:O4),1))else(ai8 (av6 i (e2.A3.length:Int)) fun v4=>bif (!v4)then(some ((⟨(⟨0,0,false⟩:U7),(⟨0⟩:F7),([]:List B8),(⟨false,false,0,0,([]:List ab3)⟩:M8),0,(⟨0,0⟩:aa2)⟩:A5),(⟨0,([]:List A2),0⟩:O4),2))else(ai8 (X1 (⟨t2,e2,b2,c,i,0,0,0,0,([]:List Bool),0,(⟨0,([]:List A2),0⟩:O4),0⟩:o4)) fun v5=>ai8 (U4 v5) fun v6=>ai8 (aa4 v6) fun v7=>ai8 (ae1 v7) fun v8=>ai8 (aa3 v8) fun v9=>bif (v9.fail !=0)then(ai8 (some v9.fail) fun(v10:Int)=>some ((⟨(⟨0,0,false⟩:U7),(⟨0⟩:F7),([]:List B8),(⟨false,false,0,0,([]:List ab3)⟩:M8),0,(⟨0,0⟩:aa2)⟩:A5),(⟨0,([]:List A2),0⟩:O4),v10))else(ai8 (some (0,v9.c,v9.out)) fun(s:Int×A5×O4)=>some (s.2.1,s.2.2,s.1))))
def aV2 (n2:Int):Option (u9×Int):=
 bif ((decide (n2<1))||(decide (n2>16)))then(some ((⟨0,([]:List j9)⟩:u9),2))else(ai8 (aY3 n2 (⟨false,0,false,false⟩:j9)) fun l=>some ((⟨0,l⟩:u9),0))
def O1 (s:List Int):Option (List Int):=
 ai8 (U9 ([]:List Int) s) fun l=>some l
def bb7:Option E3:=
 some (⟨false,0,0,0,0,0⟩:E3)
def ap1 (e2:o5):Option (j1×Int):=
 ai8 (O7 e2) fun v=>bif (!v)then(some ((⟨(⟨([]:List Int),0⟩:o5),(⟨false,0,0,0,0,0⟩:E3),(⟨0,([]:List j9)⟩:u9),([]:List A2),([]:List A6),false⟩:j1),1))else(ai8 (aV2 (j7 (2*(e2.A3.length:Int)))) fun r2=>bif (r2.2 !=0)then(some ((⟨(⟨([]:List Int),0⟩:o5),(⟨false,0,0,0,0,0⟩:E3),(⟨0,([]:List j9)⟩:u9),([]:List A2),([]:List A6),false⟩:j1),1))else(ai8 (O1 e2.A3) fun v2=>ai8 (bb7) fun v3=>some ((⟨(⟨v2,e2.as4⟩:o5),v3,r2.1,([]:List A2),([]:List A6),false⟩:j1),0)))
def av4 (t2:Int):Option Bool:=
 some ((decide (t2>=0))&&(decide (t2<=1099511627776)))
def aj2 (c:E3):Option Bool:=
 bif (!c.X5)then(some ((c.X5==false)&&((c.At==0)&&((c.H6==0)&&((c.F9==0)&&((c.aa9==0)&&((c.as3==0)&&true)))))))else(ai8 (av4 c.At) fun v=>bif (((((((!v)||(decide (c.H6<0)))||(decide (c.H6>=46080)))||(decide (c.F9<1)))||(decide (c.F9>1073741824)))||(decide (c.aa9<192)))||(decide (c.aa9>1920)))then(some false)else(some (((c.as3==c.aa9)||(c.as3==(j7 (2*c.aa9))))||(c.as3==(j7 (3*c.aa9))))))
def V7 (s:List j9)(f2:j9->Option Bool)(i:Int)(_:Unit):Option (Fl Unit Int):=
 ai8 (D4 s i) fun x=>ai8 (f2 x) fun v=>bif v then(some (.ret i))else(some (.next ()))
def R4 (s:List j9)(f2:j9->Option Bool):Option Int:=
 ai8 (K7 (s.length:Int) (V7 s f2) ()) fun(t:Unit⊕Int)=>match t with| .inl _=>(some (-1))| .inr r2=>some r2
def G5 (s:List j9)(f2:j9->Option Bool):Option Bool:=
 ai8 (R4 s f2) fun v=>some (decide (v>=0))
def ap2 (c:j9)(c2:u9):Option Bool:=
 bif c.E0 then(some ((decide (c.At<=c2.V0))||(decide (c.At>1099511627776))))else(some ((c.At !=0)||c.Next))
def ao1 (t2:u9):Option Bool:=
 bif ((((decide (t2.V0<0))||(decide (t2.V0>1099511627776)))||(decide ((t2.j3.length:Int)<1)))||(decide ((t2.j3.length:Int)>16)))then(some false)else(ai8 (G5 t2.j3 (fun x0=>ap2 x0 t2)) fun v=>some (!v))
def M6 (x low high:Int):Option Bool:=
 some ((decide (x>=low))&&(decide (x<=high)))
def X6 (e2:o5)(f2:A2):Option Bool:=
 ai8 (O7 e2) fun v=>ai8 (bif (!v)then(some true)else(ai8 (P5 e2.A3 f2.p7) fun v2=>some (!v2))) fun b2=>ai8 (bif b2 then(some true)else(ai8 (M6 f2.N9 (-1280) 3840) fun v3=>some (!v3))) fun b3=>ai8 (bif b3 then(some true)else(ai8 (M6 f2.af1 500 10000) fun v4=>some (!v4))) fun b4=>ai8 (bif b4 then(some true)else(ai8 (M6 f2.End 0 23040) fun v5=>some (!v5))) fun b5=>bif b5 then(some false)else(ai8 (bif (f2.Y8 !=0)then(ai8 (M6 f2.Y8 200 20000) fun v6=>some (!v6))else(some false)) fun b6=>bif b6 then(some false)else(ai8 (bif ((f2.Gap==0)&&(f2.Extra==0))then(some true)else(ai8 (bif (f2.Y8 !=0)then(ai8 (M6 f2.Gap 200 20000) fun v7=>some v7)else(some false)) fun b7=>ai8 (bif b7 then(ai8 (M6 f2.Extra 200 20000) fun v8=>some v8)else(some false)) fun b8=>some b8)) fun b9=>some b9))
def N7 (s:List A2)(f2:A2->Option Bool)(i:Int)(_:Unit):Option (Fl Unit Int):=
 ai8 (D4 s i) fun x=>ai8 (f2 x) fun v=>bif v then(some (.ret i))else(some (.next ()))
def H4 (s:List A2)(f2:A2->Option Bool):Option Int:=
 ai8 (K7 (s.length:Int) (N7 s f2) ()) fun(t:Unit⊕Int)=>match t with| .inl _=>(some (-1))| .inr r2=>some r2
def E9 (s:List A2)(f2:A2->Option Bool):Option Bool:=
 ai8 (H4 s f2) fun v=>some (decide (v>=0))
def ae7 (g c:A2):Option Bool:=
 some (g.p7==c.p7)
def am5 (e2:o5)(l:List A2)(i:Int)(_:Unit):Option (Fl Unit Bool):=
 ai8 (D4 l i) fun x=>ai8 (X6 e2 x) fun v=>ai8 (bif (!v)then(some true)else(ai8 (ay6 l 0 i) fun l2=>ai8 (E9 l2 (fun x0=>ae7 x0 x)) fun v2=>some v2)) fun b2=>bif b2 then(some (.ret false))else(some (.next ()))
def ab6 (e2:o5)(l:List A2):Option Bool:=
 ai8 (K7 (l.length:Int) (am5 e2 l) ()) fun(t:Unit⊕Bool)=>match t with| .inl _=>(some true)| .inr r2=>some r2
def O8 (s:List A6)(f2:A6->Option Bool):Option Bool:=
 ai8 (C2 s f2) fun v=>some (decide (v>=0))
def aw2 (s:j1)(j:A6):Option Bool:=
 ai8 (bif ((((((((((decide (j.Event.p7>=1))&&(decide (j.Event.p7<=(s.u7.A3.length:Int))))&&(decide (j.Event.Kind>=1)))&&(decide (j.Event.Kind<=4)))&&(decide (j.Event.H6>=0)))&&(decide (j.Event.H6<46080)))&&(decide (j.Event.aj0>=0)))&&(decide (j.Event.aj0<=2)))&&(decide (j.Left>=(-1048576))))&&(decide (j.Left<=1048576)))then(some (j.E0||(j.At==0)))else(some false)) fun b2=>some b2
def Y3 (j:A6)(c:j1):Option Bool:=
 ai8 (aw2 c j) fun v=>some (!v)
def H2 (x:B6):Option Int:=
 bif ((x.Kind==3)||(x.Kind==4))then(some (j7 ((j7 (2*(j7 (x.p7-1))))+1)))else(some (j7 (2*(j7 (x.p7-1)))))
def ar4 (kind:Int):Option Bool:=
 some ((kind==1)||(kind==3))
def Y6 (s:j1)(c:Int)(x:j9)(_:Int)(x2:A6)(s2:Bool×Bool):Option (Fl (Bool×Bool) Bool):=
 ai8 (H2 x2.Event) fun v=>bif (v !=c)then(some (.next (s2.1,s2.2)))else(ai8 (ar4 x2.Event.Kind) fun v2=>bif (v2==s2.1)then(some (.ret false))else(ai8 (bif s2.2 then(ai8 (bif (!(x2.E0==x.E0))then(some true)else(ai8 (bif x2.E0 then(some ((x2.At !=x.At)||(!(x.Next==(!s2.1)))))else(some false)) fun b2=>some b2)) fun b3=>bif b3 then(some (Sum.inr false))else(some (Sum.inl ())))else(bif (x2.E0||s.Cut)then(some (Sum.inr false))else(some (Sum.inl ())))) fun(t:Unit⊕Bool)=>match t with| .inl _=>(ai8 (bif s.Cut then(some (((x2.Event.Kind !=2)||(!x2.E0))||(decide (x2.At>(j7 (s.k6.V0+5000))))))else(some false)) fun b4=>bif b4 then(some (.ret false))else(some (.next ((!s2.1),false))))| .inr r2=>some (.ret r2)))
def ar3 (s:j1)(c:Int):Option Bool:=
 ai8 (D4 s.k6.j3 c) fun x=>ai8 (ad9 s.H3 (Y6 s c x) (x.K1,true)) fun(t:(Bool×Bool)⊕Bool)=>match t with| .inl s4=>(ai8 (bif (!s4.1)then(some (!(s4.2&&x.E0)))else(some false)) fun b5=>some b5)| .inr r3=>some r3
def am4 (s:j1)(i:Int)(_:Unit):Option (Fl Unit Bool):=
 ai8 (ar3 s i) fun v6=>bif (!v6)then(some (.ret false))else(some (.next ()))
def J8 (s:j1):Option Bool:=
 ai8 (O7 s.u7) fun v=>ai8 (bif (!v)then(some true)else(ai8 (aj2 s.B1) fun v2=>some (!v2))) fun b2=>ai8 (bif b2 then(some true)else(ai8 (ao1 s.k6) fun v3=>some (!v3))) fun b3=>ai8 (bif (b3||((s.k6.j3.length:Int) !=(j7 (2*(s.u7.A3.length:Int)))))then(some true)else(ai8 (ab6 s.u7 s.Next) fun v4=>some (!v4))) fun b4=>bif b4 then(some false)else(ai8 (bif (decide ((s.H3.length:Int)>200))then(some true)else(some ((!s.B1.X5)&&(decide ((s.H3.length:Int)>0))))) fun b5=>ai8 (bif b5 then(some true)else(ai8 (O8 s.H3 (fun x0=>Y3 x0 s)) fun v5=>some v5)) fun b6=>bif b6 then(some false)else(ai8 (K7 (s.k6.j3.length:Int) (am4 s) ()) fun(t:Unit⊕Bool)=>match t with| .inl _=>(some true)| .inr r2=>some r2))
def U0 (s:List A2):Option (List A2):=
 ai8 (U9 ([]:List A2) s) fun l=>some l
def aj8 (s:List A6):Option (List A6):=
 ai8 (U9 ([]:List A6) s) fun l=>some l
def L3 (s:j1):Option j1:=
 ai8 (aj8 s.H3) fun v=>ai8 (U0 s.Next) fun v2=>some ({s with Next:=v2,H3:=v}:j1)
def ar2 (s:j1)(l:List A2):Option (j1×Int):=
 ai8 (J8 s) fun v=>ai8 (bif (!v)then(some true)else(ai8 (ab6 s.u7 l) fun v2=>some (!v2))) fun b2=>bif b2 then(some ((⟨(⟨([]:List Int),0⟩:o5),(⟨false,0,0,0,0,0⟩:E3),(⟨0,([]:List j9)⟩:u9),([]:List A2),([]:List A6),false⟩:j1),1))else(ai8 (L3 s) fun v3=>ai8 (U0 l) fun v4=>some (({v3 with Next:=v4}:j1),0))
def ag6 (x:j9):Option Bool:=
 some x.K1
def ad0 (s:j1):Option (j1×Int):=
 ai8 (J8 s) fun v=>bif (!v)then(some ((⟨(⟨([]:List Int),0⟩:o5),(⟨false,0,0,0,0,0⟩:E3),(⟨0,([]:List j9)⟩:u9),([]:List A2),([]:List A6),false⟩:j1),1))else(ai8 (bif (!s.Cut)then(some true)else(ai8 (G5 s.k6.j3 ag6) fun v2=>some v2)) fun b2=>bif b2 then(some ((⟨(⟨([]:List Int),0⟩:o5),(⟨false,0,0,0,0,0⟩:E3),(⟨0,([]:List j9)⟩:u9),([]:List A2),([]:List A6),false⟩:j1),6))else(ai8 (L3 s) fun v3=>some (({v3 with Cut:=false}:j1),0)))
def ah1 (t2:u9)(channel:Int):Option (u9×Int):=
 ai8 (ao1 t2) fun v=>bif (!v)then(some ((⟨0,([]:List j9)⟩:u9),1))else(bif ((decide (channel<0))||(decide (channel>=(t2.j3.length:Int))))then(some ((⟨0,([]:List j9)⟩:u9),2))else(ai8 (aY3 (t2.j3.length:Int) (⟨false,0,false,false⟩:j9)) fun l=>some ((⟨t2.V0,aI9 l t2.j3⟩:u9),0)))
def aG5 (t2:u9)(channel:Int)(level:Bool):Option (u9×List j6×Int):=
 ai8 (ah1 t2 channel) fun r2=>bif (r2.2 !=0)then(some ((⟨0,([]:List j9)⟩:u9),([]:List j6),r2.2))else(ai8 (D4 r2.1.j3 channel) fun _=>ai8 (an9 r2.1.j3 channel (⟨false,0,false,level⟩:j9)) fun l=>ai8 (D4 t2.j3 channel) fun x2=>bif (x2.K1==level)then(some ((⟨r2.1.V0,l⟩:u9),([]:List j6),0))else(ai8 (some (([(⟨t2.V0,channel,level⟩:j6)]:List j6),(⟨r2.1.V0,l⟩:u9))) fun(s:List j6×u9)=>some (s.2,s.1,0)))
def az7 (t2:u9)(channel:Int):Option (u9×Int):=
 ai8 (ah1 t2 channel) fun r2=>bif (r2.2 !=0)then(some ((⟨0,([]:List j9)⟩:u9),r2.2))else(ai8 (D4 t2.j3 channel) fun x=>ai8 (D4 r2.1.j3 channel) fun _=>ai8 (an9 r2.1.j3 channel (⟨false,0,false,x.K1⟩:j9)) fun l=>some ((⟨r2.1.V0,l⟩:u9),0))
def at4 (j:A6)(c:Int):Option Bool:=
 ai8 (H2 j.Event) fun v=>some (v==c)
def aJ8 (t2:u9)(channel aZ2:Int)(level:Bool):Option (u9×Int):=
 ai8 (ah1 t2 channel) fun r2=>bif (r2.2 !=0)then(some ((⟨0,([]:List j9)⟩:u9),r2.2))else(bif (decide (aZ2<=t2.V0))then(some ((⟨0,([]:List j9)⟩:u9),16))else(bif (decide (aZ2>1099511627776))then(some ((⟨0,([]:List j9)⟩:u9),2))else(ai8 (D4 t2.j3 channel) fun x=>ai8 (D4 r2.1.j3 channel) fun _=>ai8 (an9 r2.1.j3 channel (⟨true,aZ2,level,x.K1⟩:j9)) fun l=>some ((⟨r2.1.V0,l⟩:u9),0))))
def ac9 (s:j1)(i:Int)(s2:List j6×u9×List A6):Option (Fl (List j6×u9×List A6) Empty):=
 ai8 (D4 s.k6.j3 i) fun x=>ai8 (bif x.K1 then(some ((!((ed7 i 2)==0))||(s.k6.V0==1099511627776)))else(some false)) fun b2=>bif b2 then(ai8 (aG5 s2.2.1 i false) fun r2=>ai8 (U9 s2.1 r2.2.1) fun l=>some (.next (l,r2.1,s2.2.2)))else(ai8 (az7 s2.2.1 i) fun r3=>bif (!x.K1)then(some (.next (s2.1,r3.1,s2.2.2)))else(ai8 (C2 s.H3 (fun x0=>at4 x0 i)) fun v3=>ai8 (D4 s.H3 v3) fun x2=>ai8 (bif ((!x2.E0)||(decide (x2.At>(j7 (s.k6.V0+5000)))))then(some (F2 (j7 (s.k6.V0+5000)) 1099511627776))else(some x2.At)) fun(f2:Int)=>ai8 (aJ8 r3.1 i f2 false) fun r4=>ai8 (U9 s2.2.2 ([(⟨x2.Event,x2.Left,true,f2⟩:A6)]:List A6)) fun l2=>some (.next (s2.1,r4.1,l2))))
def ap0 (s:j1):Option (j1×List j6×Int):=
 ai8 (J8 s) fun v=>bif (!v)then(some ((⟨(⟨([]:List Int),0⟩:o5),(⟨false,0,0,0,0,0⟩:E3),(⟨0,([]:List j9)⟩:u9),([]:List A2),([]:List A6),false⟩:j1),([]:List j6),1))else(ai8 (L3 s) fun v2=>bif s.Cut then(some (v2,([]:List j6),0))else(ai8 (K7 (s.k6.j3.length:Int) (ac9 s) (([]:List j6),v2.k6,([]:List A6))) fun(t:(List j6×u9×List A6)⊕Empty)=>match t with| .inl s3=>(some ((⟨v2.u7,v2.B1,s3.2.1,v2.Next,s3.2.2,true⟩:j1),s3.1,0))| .inr r=>r.elim))
def V5 (j:A6)(c:Int):Option Bool:=
 ai8 (H2 j.Event) fun v=>some (v==c)
def az6 (a b2:Int):Option Int:=
 ai8 (bn3 .i64 a b2) fun q=>ai8 (cf1 a b2) fun q2=>bif (decide (q2>0))then(some (j7 (q+1)))else(some q)
def V6 (s:j1)(i:Int)(s2:u9×List A6):Option (Fl (u9×List A6) Empty):=
 ai8 (C2 s2.2 (fun x0=>V5 x0 i)) fun v=>ai8 (bif (decide (v<0))then(some true)else(ai8 (D4 s2.2 v) fun x=>some (decide (x.Left>s.B1.as3)))) fun(v2:Bool)=>bif v2 then(some (.next (s2.1,s2.2)))else(ai8 (D4 s2.2 v) fun x2=>ai8 (az6 (j7 (x2.Left*s.B1.F9)) s.B1.aa9) fun v3=>bif (decide ((G4 (j7 (s.B1.At+v3)) (j7 (s2.1.V0+1)))>1099511627776))then(some (.next (s2.1,s2.2)))else(ai8 (ai8 (ar4 x2.Event.Kind) fun v4=>ai8 (aJ8 s2.1 i (G4 (j7 (s.B1.At+v3)) (j7 (s2.1.V0+1))) v4) fun r2=>some (r2.2,r2.1)) fun(s3:Int×u9)=>bif (s3.1==0)then(ai8 (an9 s2.2 v ({x2 with E0:=true}:A6)) fun l=>ai8 (an9 l v (⟨x2.Event,x2.Left,true,G4 (j7 (s.B1.At+v3)) (j7 (s2.1.V0+1))⟩:A6)) fun l2=>some (.next (s3.2,l2)))else(some (.next (s2.1,s2.2)))))
def ak9 (s:j1):Option j1:=
 bif s.Cut then(some s)else(ai8 (K7 (s.k6.j3.length:Int) (V6 s) (s.k6,s.H3)) fun(t:(u9×List A6)⊕Empty)=>match t with| .inl s4=>(some ({s with k6:=s4.1,H3:=s4.2}:j1))| .inr r=>r.elim)
def aH4 (_:Int)(x:j9)(s:Int×Bool):Option (Fl (Int×Bool) Empty):=
 ai8 (bif x.E0 then(some ((!s.2)||(decide (x.At<s.1))))else(some false)) fun b2=>bif b2 then(some (.next (x.At,true)))else(some (.next (s.1,s.2)))
def aM9 (t2:u9):Option (Int×Bool):=
 ai8 (ao1 t2) fun v=>bif (!v)then(some (0,false))else(ai8 (ad9 t2.j3 (aH4) (0,false)) fun(t:(Int×Bool)⊕Empty)=>match t with| .inl s2=>(some (s2.1,s2.2))| .inr r=>r.elim)
def Y1 (s:List j6)(f:j6->j6->Option Int):Option (List j6):=
 bT6 f s
def F6 (x y:Int):Option Int:=
 ai8 (cmp_isNaN_int x) fun v=>ai8 (cmp_isNaN_int y) fun v2=>bif v then(bif v2 then(some 0)else(some (-1)))else(bif v2 then(some 1)else(bif (decide (x<y))then(some (-1))else(bif (decide (x>y))then(some 1)else(some 0))))
def ao8 (_ x:Int)(_:Unit):Option (Fl Unit Int):=
 bif (x !=0)then(some (.ret x))else(some (.next ()))
def af8 (bx5:List Int):Option Int:=
 ai8 (ad9 bx5 (ao8) ()) fun(t:Unit⊕Int)=>match t with| .inl _=>(some 0)| .inr r2=>some r2
def X3 (a b2:j6):Option Int:=
 ai8 (F6 a.At b2.At) fun v=>ai8 (F6 a.Channel b2.Channel) fun v2=>ai8 (af8 ([v,v2]:List Int)) fun v3=>some v3
def av0 (t2:u9)(L9 i:Int)(s:List j6×List j9):Option (Fl (List j6×List j9) Empty):=
 ai8 (D4 t2.j3 i) fun x=>bif ((!x.E0)||(decide (x.At>L9)))then(some (.next (s.1,s.2)))else(ai8 (bif (!(x.Next==x.K1))then(ai8 (U9 s.1 ([(⟨x.At,i,x.Next⟩:j6)]:List j6)) fun l=>some l)else(some s.1)) fun(f2:List j6)=>ai8 (D4 s.2 i) fun _=>ai8 (an9 s.2 i (⟨false,0,false,x.Next⟩:j9)) fun l2=>some (.next (f2,l2)))
def al0 (t2:u9)(L9:Int):Option (u9×List j6×Int):=
 ai8 (ah1 t2 0) fun r2=>bif (r2.2 !=0)then(some ((⟨0,([]:List j9)⟩:u9),([]:List j6),r2.2))else(bif (decide (L9<t2.V0))then(some ((⟨0,([]:List j9)⟩:u9),([]:List j6),16))else(bif (decide (L9>1099511627776))then(some ((⟨0,([]:List j9)⟩:u9),([]:List j6),2))else(ai8 (K7 (t2.j3.length:Int) (av0 t2 L9) (([]:List j6),r2.1.j3)) fun(t:(List j6×List j9)⊕Empty)=>match t with| .inl s2=>(ai8 (Y1 s2.1 X3) fun v=>some ((⟨L9,s2.2⟩:u9),v,0))| .inr r=>r.elim)))
def an8 (j:A6)(c:Int):Option Bool:=
 some (j.E0&&(j.At==c))
def Y5 (L9:Int)(s2:List j6×j1):Option ((List j6×j1)⊕((List j6×j1)⊕Empty)):=
 ai8 (aM9 s2.2.k6) fun r2=>bif ((!r2.2)||(decide (r2.1>L9)))then(some (.inr (.inl (s2.1,s2.2))))else(ai8 (ai8 (al0 s2.2.k6 r2.1) fun r3=>some (r3.2.1,r3.1)) fun(s3:List j6×u9)=>ai8 (U9 s2.1 s3.1) fun l=>ai8 (K8 s2.2.H3 (fun x0=>an8 x0 r2.1)) fun v=>ai8 (ak9 (⟨s2.2.u7,s2.2.B1,s3.2,s2.2.Next,v,s2.2.Cut⟩:j1)) fun v2=>some (.inl (l,v2)))
def ab7 (s:j1)(L9:Int):Option (List j6×j1):=
 ai8 (L7 (Y5 L9) (([]:List j6),s)) fun(t:(List j6×j1)⊕Empty)=>match t with| .inl s4=>(ai8 (al0 s4.2.k6 L9) fun r4=>ai8 (U9 s4.1 r4.2.1) fun l2=>some (l2,(⟨s4.2.u7,s4.2.B1,r4.1,s4.2.Next,s4.2.H3,s4.2.Cut⟩:j1)))| .inr r=>r.elim
def T6 (s:j1)(L9:Int):Option (j1×List j6×Int):=
 ai8 (J8 s) fun v=>bif (!v)then(some ((⟨(⟨([]:List Int),0⟩:o5),(⟨false,0,0,0,0,0⟩:E3),(⟨0,([]:List j9)⟩:u9),([]:List A2),([]:List A6),false⟩:j1),([]:List j6),1))else(bif (decide (L9<s.k6.V0))then(some ((⟨(⟨([]:List Int),0⟩:o5),(⟨false,0,0,0,0,0⟩:E3),(⟨0,([]:List j9)⟩:u9),([]:List A2),([]:List A6),false⟩:j1),([]:List j6),16))else(bif (decide (L9>1099511627776))then(some ((⟨(⟨([]:List Int),0⟩:o5),(⟨false,0,0,0,0,0⟩:E3),(⟨0,([]:List j9)⟩:u9),([]:List A2),([]:List A6),false⟩:j1),([]:List j6),2))else(ai8 (L3 s) fun v2=>ai8 (ab7 v2 L9) fun r2=>some (r2.2,r2.1,0))))
def ac4 (a b2:Int):Option Int:=
 bif ((b2==0)||(b2==(-1)))then(some 0)else(ai8 (cf1 a b2) fun q=>bif ((q !=0)&&(!((decide (q<0))==(decide (b2<0)))))then(some (j7 (q+b2)))else(some q))
def Q9 (aP0 L9:Int):Option Int:=
 ai8 (ai0 aP0) fun v=>ai8 (bif (!v)then(some true)else(ai8 (ai0 L9) fun v2=>some (!v2))) fun b2=>bif b2 then(some (-1))else(ai8 (ac4 (j7 (L9-aP0)) 46080) fun v3=>some v3)
def aK5 (c:E3):Option Int:=
 ai8 (aj2 c) fun v=>bif (!v)then(some 1)else(bif (!c.X5)then(some 6)else(some 0))
def bl7 (a b2:Int):Option Int:=
 ai8 (am8 a b2 2) fun r2=>some r2.1
def aE7 (c:E3)(bU5:Int):Option (Int×Int):=
 ai8 (aK5 c) fun v=>bif (v !=0)then(some (0,v))else(bif ((decide (bU5<0))||(decide (bU5>46080)))then(some (0,2))else(ai8 (bl7 (j7 (bU5*c.F9)) c.aa9) fun v2=>some (v2,0)))
def ak7 (e2:o5)(aC4:Int):Option (Int×Bool):=
 ai8 (W2 e2.A3 aC4) fun v=>ai8 (bn3 .i64 (j7 ((G4 v 0)*46080)) (e2.A3.length:Int)) fun q=>some (ed7 (j7 (e2.as4+q)) 46080,decide (v>=0))
def av9 (e2:o5)(aC4:Int):Option (Int×Int):=
 ai8 (O7 e2) fun v=>bif (!v)then(some (0,1))else(ai8 (ak7 e2 aC4) fun r2=>bif (!r2.2)then(some (0,7))else(some (r2.1,0)))
def Y4 (f2:A2)(c:Int):Option Bool:=
 some (f2.p7==c)
def ao9 (f2:A2)(c:o5):Option Bool:=
 ai8 (X6 c f2) fun v=>some (!v)
def aw0 (g c:A2):Option Bool:=
 some (g.p7==c.p7)
def O6 (aZ2 kind bS4:Int)(c:List B6)(c2:A2):Option (List B6):=
 ai8 (ai8 (ac4 aZ2 46080) fun v=>ai8 (U9 c ([(⟨v,kind,c2.p7,bS4⟩:B6)]:List B6)) fun l=>some l) fun(f2:List B6)=>some f2
def K3 (d c:Int):Option Int:=
 ai8 (bn3 .i64 (j7 (d*23040)) c) fun q=>some q
def ak6 (f2:A2):Option Int:=
 bif (f2.Y8==0)then(some 0)else(bif (f2.Extra==0)then(some 1)else(some 2))
def aa7 (s:List B6)(f:B6->B6->Option Int):Option (List B6):=
 bT6 f s
def al4 (a b2:B6):Option Int:=
 ai8 (F6 a.H6 b2.H6) fun v=>ai8 (F6 a.p7 b2.p7) fun v2=>ai8 (F6 a.Kind b2.Kind) fun v3=>ai8 (F6 a.aj0 b2.aj0) fun v4=>ai8 (af8 ([v,v2,v3,v4]:List Int)) fun v5=>some v5
def aC6 (l:List A2)(i:Int)(_:Unit):Option (Fl Unit (List B6×Int)):=
 ai8 (D4 l i) fun x=>ai8 (ay6 l 0 i) fun l2=>ai8 (E9 l2 (fun x0=>aw0 x0 x)) fun v4=>bif v4 then(some (.ret (([]:List B6),8)))else(some (.next ()))
def aw9 (e2:o5)(M5 _:Int)(x2:A2)(f2:List B6):Option (Fl (List B6) (List B6×Int)):=
 ai8 (ak7 e2 x2.p7) fun r2=>ai8 (O6 (j7 (r2.1-x2.N9)) 2 0 f2 x2) fun v5=>ai8 (K3 x2.af1 M5) fun v6=>ai8 (O6 (j7 ((j7 (r2.1-x2.N9))-(F2 v6 23040))) 1 0 v5 x2) fun v7=>ai8 (K3 x2.Y8 M5) fun v8=>ai8 (K3 x2.Gap M5) fun v9=>ai8 (K3 x2.Extra M5) fun v10=>bif (decide ((G4 (G4 v8 v9) v10)>23040))then(some (.ret (([]:List B6),2)))else(ai8 (ak6 x2) fun v11=>ai8 (bif (decide (v11>0))then(ai8 (O6 (j7 (r2.1-x2.End)) 4 1 v7 x2) fun v12=>ai8 (K3 x2.Y8 M5) fun v13=>ai8 (O6 (j7 ((j7 (r2.1-x2.End))-v13)) 3 1 v12 x2) fun v14=>some v14)else(some v7)) fun(f3:List B6)=>ai8 (ak6 x2) fun v15=>bif (decide (v15>1))then(ai8 (K3 x2.Gap M5) fun v16=>ai8 (O6 (j7 ((j7 (r2.1-x2.End))+v16)) 3 2 f3 x2) fun v17=>ai8 (ai8 (K3 x2.Gap M5) fun v18=>ai8 (K3 x2.Extra M5) fun v19=>ai8 (O6 (j7 ((j7 ((j7 (r2.1-x2.End))+v18))+v19)) 4 2 v17 x2) fun v20=>some v20) fun(f4:List B6)=>some (.next f4))else(some (.next f3)))
def aF0 (e2:o5)(l:List A2)(M5:Int):Option (List B6×Int):=
 ai8 (O7 e2) fun v=>ai8 (bif (!v)then(some true)else(ai8 (E9 l (fun x0=>ao9 x0 e2)) fun v2=>some v2)) fun b2=>bif b2 then(some (([]:List B6),1))else(ai8 (M6 M5 4000 1000000) fun v3=>bif (!v3)then(some (([]:List B6),2))else(ai8 (K7 (l.length:Int) (aC6 l) ()) fun(t:Unit⊕(List B6×Int))=>match t with| .inl _=>(ai8 (ad9 l (aw9 e2 M5) ([]:List B6)) fun(t:(List B6)⊕(List B6×Int))=>match t with| .inl f5=>(ai8 (aa7 f5 al4) fun v21=>some (v21,0))| .inr r3=>some r3)| .inr r4=>some r4))
def C0 (a:Int)(cmp:c8->c8->Option Int)(s2:Int×List c8):Option ((Int×List c8)⊕((Int×List c8)⊕Empty)):=
 ai8 (bif (decide (s2.1>a))then(ai8 (D4 s2.2 s2.1) fun x=>ai8 (D4 s2.2 (j7 (s2.1-1))) fun x2=>ai8 (cmp x x2) fun v=>some (decide (v<0)))else(some false)) fun(v2:Bool)=>bif v2 then(ai8 (ai8 (D4 s2.2 (j7 (s2.1-1))) fun x3=>ai8 (D4 s2.2 s2.1) fun x4=>ai8 (an9 s2.2 s2.1 x3) fun l=>ai8 (D4 l (j7 (s2.1-1))) fun _=>ai8 (an9 l (j7 (s2.1-1)) x4) fun l2=>some l2) fun(f2:List c8)=>some (.inl (j7 (s2.1-1),f2)))else(some (.inr (.inl (s2.1,s2.2))))
def B2 (a b2:Int)(cmp:c8->c8->Option Int)(s:Int×List c8):Option ((Int×List c8)⊕((Int×List c8)⊕Empty)):=
 bif (decide (s.1<b2))then(ai8 (L7 (C0 a cmp) (s.1,s.2)) fun(t:(Int×List c8)⊕Empty)=>match t with| .inl s3=>(some (.inl (j7 (s.1+1),s3.2)))| .inr r=>r.elim)else(some (.inr (.inl (s.1,s.2))))
def B0 (data:List c8)(a b2:Int)(cmp:c8->c8->Option Int):Option (List c8):=
 ai8 (L7 (B2 a b2 cmp) (j7 (a+1),data)) fun(t:(Int×List c8)⊕Empty)=>match t with| .inl s4=>(some s4.2)| .inr r=>r.elim
def I0 (_:Nat)(_:List c8)(_ _ _:Int)(_:c8->c8->Option Int):Option (List c8):=none
def J9 (n2:Int)(cmp:c8->c8->Option Int)(s:Int×Int×List c8):Option ((Int×Int×List c8)⊕((Int×Int×List c8)⊕Empty)):=
 bif (decide (s.2.1<=n2))then(ai8 (B0 s.2.2 s.1 s.2.1 cmp) fun v=>some (.inl (s.2.1,j7 (s.2.1+20),v)))else(some (.inr (.inl (s.1,s.2.1,s.2.2))))
def N2 (n2:Int)(cmp:c8->c8->Option Int)(s3:Int×List c8)(s4:Int×Int×List c8):Option ((Int×Int×List c8)⊕((Int×Int×List c8)⊕Empty)):=
 bif (decide (s4.2.1<=n2))then(ai8 (I0 64 s4.2.2 s4.1 (j7 (s4.1+s3.1)) s4.2.1 cmp) fun v3=>some (.inl (s4.2.1,j7 (s4.2.1+(j7 (2*s3.1))),v3)))else(some (.inr (.inl (s4.1,s4.2.1,s4.2.2))))
def K0 (n2:Int)(cmp:c8->c8->Option Int)(s3:Int×List c8):Option ((Int×List c8)⊕((Int×List c8)⊕Empty)):=
 bif (decide (s3.1<n2))then(ai8 (L7 (N2 n2 cmp s3) (0,j7 (2*s3.1),s3.2)) fun(t:(Int×Int×List c8)⊕Empty)=>match t with| .inl s5=>(bif (decide ((j7 (s5.1+s3.1))<n2))then(ai8 (I0 64 s5.2.2 s5.1 (j7 (s5.1+s3.1)) n2 cmp) fun v4=>some (.inl (j7 (s3.1*2),v4)))else(some (.inl (j7 (s3.1*2),s5.2.2))))| .inr r=>r.elim)else(some (.inr (.inl (s3.1,s3.2))))
def H0 (data:List c8)(n2:Int)(cmp:c8->c8->Option Int):Option (List c8):=
 ai8 (L7 (J9 n2 cmp) (0,20,data)) fun(t:(Int×Int×List c8)⊕Empty)=>match t with| .inl s2=>(ai8 (B0 s2.2.2 s2.1 n2 cmp) fun v2=>ai8 (L7 (K0 n2 cmp) (20,v2)) fun(t:(Int×List c8)⊕Empty)=>match t with| .inl s6=>(some s6.2)| .inr r=>r.elim)| .inr r=>r.elim
def D0 (x:List c8)(cmp:c8->c8->Option Int):Option (List c8):=
 ai8 (H0 x (x.length:Int) cmp) fun v=>some v
def ad1 (a b2:c8):Option Int:=
 ai8 (F6 a.cE7 b2.cE7) fun v=>ai8 (H2 a.x) fun v2=>ai8 (H2 b2.x) fun v3=>ai8 (F6 v2 v3) fun v4=>ai8 (af8 ([v,v4]:List Int)) fun v5=>some v5
def aj7 (begin _:Int)(x:B6)(out:List c8):Option (Fl (List c8) Empty):=
 ai8 (ai8 (Q9 begin x.H6) fun v=>ai8 (U9 out ([(⟨x,v⟩:c8)]:List c8)) fun l=>some l) fun(f3:List c8)=>some (.next f3)
def V9 (x2:(Int×Int))(_:Int)(x3:c8)(s:Int×Int×Int):Option (Fl (Int×Int×Int) (List c8×Bool)):=
 bif ((x3.x.Kind !=x2.1)&&(x3.x.Kind !=x2.2))then(some (.next (s.1,s.2.1,s.2.2)))else(bif (((x3.x.Kind !=s.2.2)||(decide (x3.cE7<=s.1)))||(decide (x3.x.aj0<s.2.1)))then(some (.ret (([]:List c8),false)))else(some (.next (x3.cE7,x3.x.aj0,j7 ((j7 (x2.1+x2.2))-s.2.2)))))
def T7 (v2:List c8)(v3:Int):Option (Int⊕(Int⊕(List c8×Bool))):=
 bif (decide (v3<2))then(ai8 (D4 ([(1,2),(3,4)]:List (Int×Int)) v3) fun x2=>ai8 (ad9 v2 (V9 x2) ((-1),0,x2.1)) fun(t:(Int×Int×Int)⊕(List c8×Bool))=>match t with| .inl _=>(some (.inl (j7 (v3+1))))| .inr r3=>some (.inr (.inr r3)))else(some (.inr (.inl v3)))
def ar5 (e2:o5)(f2:A2)(begin M5:Int):Option (List c8×Bool):=
 ai8 (aF0 e2 ([f2]:List A2) M5) fun r2=>bif (r2.2 !=0)then(some (([]:List c8),false))else(ai8 (ad9 r2.1 (aj7 begin) ([]:List c8)) fun(t:(List c8)⊕Empty)=>match t with| .inl dm0=>(ai8 (D0 dm0 ad1) fun v2=>ai8 (L7 (T7 v2) 0) fun(t:Int⊕(List c8×Bool))=>match t with| .inl _=>(some (v2,true))| .inr r4=>some r4)| .inr r=>r.elim)
def ag8 (v _:Int)(x3:c8)(f3:List A6):Option (Fl (List A6) Empty):=
 ai8 (ai8 (U9 f3 ([(⟨x3.x,j7 (v+x3.cE7),false,0⟩:A6)]:List A6)) fun l=>some l) fun(f4:List A6)=>some (.next f4)
def ag7 (s:j1)(r2:Int×Int)(_ x:Int)(f2:List A6):Option (Fl (List A6) Empty):=
 ai8 (av9 s.u7 x) fun r3=>ai8 (Q9 s.B1.H6 (ed7 (j7 (r3.1+5760)) 46080)) fun v=>ai8 (H4 s.Next (fun x0=>Y4 x0 x)) fun v2=>bif ((decide (v>=s.B1.as3))||(decide (v2<0)))then(some (.next f2))else(ai8 (D4 s.Next v2) fun x2=>ai8 (ar5 s.u7 x2 (ed7 (j7 (r3.1+5760)) 46080) r2.1) fun r4=>bif (!r4.2)then(some (.next f2))else(ai8 (ad9 r4.1 (ag8 v) f2) fun(t:(List A6)⊕Empty)=>match t with| .inl f5=>(some (.next f5))| .inr r=>r.elim))
def ah7 (s:j1):Option j1:=
 ai8 (aE7 s.B1 23040) fun r2=>ai8 (ad9 s.u7.A3 (ag7 s r2) s.H3) fun(t:(List A6)⊕Empty)=>match t with| .inl f6=>(some ({s with H3:=f6}:j1))| .inr r=>r.elim
def aa5 (v4 i:Int)(f2:List A6):Option (Fl (List A6) Empty):=
 ai8 (D4 f2 i) fun x=>ai8 (an9 f2 i ({x with Left:=G4 (-1048576) (j7 (x.Left-v4))}:A6)) fun l=>some (.next l)
def al9 (s:j1)(c:E3):Option (j1×List j6×Int):=
 ai8 (J8 s) fun v=>ai8 (bif (!v)then(some true)else(ai8 (aj2 c) fun v2=>some (!v2))) fun b2=>bif b2 then(some ((⟨(⟨([]:List Int),0⟩:o5),(⟨false,0,0,0,0,0⟩:E3),(⟨0,([]:List j9)⟩:u9),([]:List A2),([]:List A6),false⟩:j1),([]:List j6),1))else(bif (!c.X5)then(some ((⟨(⟨([]:List Int),0⟩:o5),(⟨false,0,0,0,0,0⟩:E3),(⟨0,([]:List j9)⟩:u9),([]:List A2),([]:List A6),false⟩:j1),([]:List j6),6))else(bif (decide (c.At<s.k6.V0))then(some ((⟨(⟨([]:List Int),0⟩:o5),(⟨false,0,0,0,0,0⟩:E3),(⟨0,([]:List j9)⟩:u9),([]:List A2),([]:List A6),false⟩:j1),([]:List j6),16))else(ai8 (L3 s) fun v3=>ai8 (ab7 v3 c.At) fun r2=>ai8 (bif s.B1.X5 then(ai8 (Q9 s.B1.H6 c.H6) fun v4=>ai8 (K7 (r2.2.H3.length:Int) (aa5 v4) r2.2.H3) fun(t:(List A6)⊕Empty)=>match t with| .inl f3=>(some f3)| .inr r=>r.elim)else(some r2.2.H3)) fun(f4:List A6)=>bif (!r2.2.Cut)then(ai8 (ah7 (⟨r2.2.u7,c,r2.2.k6,r2.2.Next,f4,r2.2.Cut⟩:j1)) fun v5=>bif (decide ((v5.H3.length:Int)>200))then(some ((⟨(⟨([]:List Int),0⟩:o5),(⟨false,0,0,0,0,0⟩:E3),(⟨0,([]:List j9)⟩:u9),([]:List A2),([]:List A6),false⟩:j1),([]:List j6),5))else(ai8 (ak9 v5) fun v6=>some (v6,r2.1,0)))else(some ((⟨r2.2.u7,c,r2.2.k6,r2.2.Next,f4,r2.2.Cut⟩:j1),r2.1,0)))))
def W5 (s:List w9)(f2:w9->Option Bool)(i:Int)(_:Unit):Option (Fl Unit Int):=
 ai8 (D4 s i) fun x=>ai8 (f2 x) fun v=>bif v then(some (.ret i))else(some (.next ()))
def S9 (s:List w9)(f2:w9->Option Bool):Option Int:=
 ai8 (K7 (s.length:Int) (W5 s f2) ()) fun(t:Unit⊕Int)=>match t with| .inl _=>(some (-1))| .inr r2=>some r2
def I3 (s:List w9)(f2:w9->Option Bool):Option Bool:=
 ai8 (S9 s f2) fun v=>some (decide (v>=0))
def D6 (x low high:Int):Option Bool:=
 some ((decide (x>=low))&&(decide (x<=high)))
def ae2 (c:w9):Option Bool:=
 ai8 (D6 c.Code 1 16777215) fun v=>ai8 (bif v then(ai8 (D6 c.ba6 1 100) fun v2=>some v2)else(some false)) fun b2=>ai8 (bif b2 then(ai8 (D6 c.Pass 1 100) fun v3=>some v3)else(some false)) fun b3=>ai8 (bif b3 then(ai8 (D6 c.cC4 1 100) fun v4=>some v4)else(some false)) fun b4=>ai8 (bif b4 then(ai8 (D6 c.Age c.cC4 255) fun v5=>some v5)else(some false)) fun b5=>ai8 (bif b5 then(ai8 (D6 c.E6 0 255) fun v6=>some v6)else(some false)) fun b6=>ai8 (bif b6 then(ai8 (D6 c.Frame 0 8) fun v7=>some v7)else(some false)) fun b7=>some b7
def an6 (c:w9):Option Bool:=
 ai8 (ae2 c) fun v=>some (!v)
def aC9 (_:Int)(x:w9)(f2:List (Int×Bool)):Option (Fl (List (Int×Bool)) Bool):=
 bif (cP8 false f2 x.Code)then(some (.ret false))else(some (.next (dl3 f2 x.Code true)))
def an5 (l:List w9):Option Bool:=
 ai8 (ad9 l (aC9) ([]:List (Int×Bool))) fun(t:(List (Int×Bool))⊕Bool)=>match t with| .inl _=>(some true)| .inr r2=>some r2
def Z8 (s:List w9):Option (List w9):=
 ai8 (U9 ([]:List w9) s) fun l=>some l
def aB2 (l:List w9):Option (B7×Int):=
 bif (decide ((l.length:Int)>64))then(some ((⟨([]:List w9),([]:List A1),0,false⟩:B7),5))else(ai8 (I3 l an6) fun v=>bif v then(some ((⟨([]:List w9),([]:List A1),0,false⟩:B7),1))else(ai8 (an5 l) fun v2=>bif (!v2)then(some ((⟨([]:List w9),([]:List A1),0,false⟩:B7),8))else(ai8 (Z8 l) fun v3=>ai8 (aY3 (l.length:Int) (⟨0,0,0,0,0,([]:List Int),0⟩:A1)) fun l2=>some ((⟨v3,l2,0,false⟩:B7),0))))
def aR4 (x:Int):Option Bool:=
 ai8 (D6 x (-1099511627776) 1099511627776) fun v=>some v
def aA1 (x:Int):Option Bool:=
 ai8 (aR4 x) fun v=>some (!v)
def as8 (c:w9)(l:List Int):Option Bool:=
 ai8 (bif ((l.length:Int)==c.Frame)then(ai8 (o6 l aA1) fun v=>some (!v))else(some false)) fun b2=>some b2
def X7 (f2:A1)(bits:Int):Option Bool:=
 some ((T2 .i64 f2.D8 bits)==bits)
def aK8 (f2:A1):Option Bool:=
 some ((T2 .i64 f2.D8 6) !=0)
def aF2 (c:w9)(f2:A1)(E5:Int):Option Bool:=
 ai8 (D6 f2.D8 0 31) fun v=>ai8 (bif (!v)then(some true)else(ai8 (D6 f2.D1 (j7 (0-c.Pass)) c.ba6) fun v2=>some (!v2))) fun b2=>ai8 (bif b2 then(some true)else(ai8 (D6 f2.I7 0 2) fun v3=>some (!v3))) fun b3=>ai8 (bif b3 then(some true)else(ai8 (D6 f2.Clean 0 (j7 (c.Age-1))) fun v4=>some (!v4))) fun b4=>ai8 (bif b4 then(some true)else(ai8 (D6 f2.z8 0 255) fun v5=>some (!v5))) fun b5=>ai8 (bif b5 then(some true)else(ai8 (D6 f2.G9 0 E5) fun v6=>some (!v6))) fun b6=>ai8 (bif b6 then(some true)else(ai8 (bif (decide ((f2.Frame.length:Int)>0))then(ai8 (as8 c f2.Frame) fun v7=>some (!v7))else(some false)) fun b7=>some b7)) fun b8=>bif b8 then(some false)else(ai8 (X7 f2 1) fun v8=>ai8 (bif v8 then(ai8 (X7 f2 10) fun v9=>some ((!v9)||(f2.G9 !=E5)))else(some false)) fun b9=>bif b9 then(some false)else(ai8 (X7 f2 4) fun v10=>bif (!(v10==(f2.I7==2)))then(some false)else(ai8 (X7 f2 16) fun v11=>ai8 (bif v11 then(ai8 (X7 f2 4) fun v12=>some ((!v12)||(!c.ch1)))else(some false)) fun b10=>bif b10 then(some false)else(ai8 (X7 f2 2) fun v13=>bif (v13&&(f2.Clean !=0))then(some false)else(ai8 (aK8 f2) fun v14=>bif v14 then(some ((((decide (f2.z8>=1))&&(decide (f2.I7>=1)))&&(decide (f2.G9>=1)))&&((f2.Frame.length:Int)==c.Frame)))else(some (((((f2.I7==0)&&(f2.Clean==0))&&(f2.z8==0))&&(f2.G9==0))&&((f2.Frame.length:Int)==0))))))))
def aC8 (f2:B7)(i:Int)(_:Unit):Option (Fl Unit Bool):=
 ai8 (D4 f2.L i) fun x=>ai8 (D4 f2.T5 i) fun x2=>ai8 (aF2 x2 x f2.aH5) fun v4=>bif (!v4)then(some (.ret false))else(some (.next ()))
def Z6 (f2:B7):Option Bool:=
 ai8 (bif (decide ((f2.T5.length:Int)>64))then(some true)else(ai8 (I3 f2.T5 an6) fun v=>some v)) fun b2=>ai8 (bif b2 then(some true)else(ai8 (an5 f2.T5) fun v2=>some (!v2))) fun b3=>ai8 (bif (b3||((f2.L.length:Int) !=(f2.T5.length:Int)))then(some true)else(ai8 (D6 f2.aH5 0 1073741824) fun v3=>some (!v3))) fun b4=>ai8 (bif b4 then(some true)else(some (f2.ay0&&(decide (f2.aH5<1))))) fun b5=>bif b5 then(some false)else(ai8 (K7 (f2.L.length:Int) (aC8 f2) ()) fun(t:Unit⊕Bool)=>match t with| .inl _=>(some true)| .inr r2=>some r2)
def ad5 (s:List A1):Option (List A1):=
 ai8 (U9 ([]:List A1) s) fun l=>some l
def ay4 (i:Int)(f3:List A1):Option (Fl (List A1) Empty):=
 ai8 (D4 f3 i) fun x=>ai8 (O1 x.Frame) fun v2=>ai8 (an9 f3 i ({x with Frame:=v2}:A1)) fun l=>some (.next l)
def al5 (f2:B7):Option B7:=
 ai8 (ad5 f2.L) fun v=>ai8 (K7 (v.length:Int) (ay4) v) fun(t:(List A1)⊕Empty)=>match t with| .inl f4=>(some ({f2 with L:=f4}:B7))| .inr r=>r.elim
def aC7 (i:Int)(f3:List A1):Option (Fl (List A1) Empty):=
 ai8 (D4 f3 i) fun x=>ai8 (an9 f3 i ({x with D1:=0}:A1)) fun l=>ai8 (an9 l i ({x with D8:=aO3 .i64 x.D8 9,D1:=0}:A1)) fun l2=>some (.next l2)
def ax0 (f2:B7):Option (B7×Int):=
 ai8 (Z6 f2) fun v=>bif (!v)then(some ((⟨([]:List w9),([]:List A1),0,false⟩:B7),1))else(bif f2.ay0 then(some ((⟨([]:List w9),([]:List A1),0,false⟩:B7),6))else(bif (f2.aH5==1073741824)then(some ((⟨([]:List w9),([]:List A1),0,false⟩:B7),9))else(ai8 (al5 f2) fun v2=>ai8 (K7 (v2.L.length:Int) (aC7) v2.L) fun(t:(List A1)⊕Empty)=>match t with| .inl f4=>(some ((⟨v2.T5,f4,j7 (v2.aH5+1),true⟩:B7),0))| .inr r=>r.elim)))
def aF1 (l:List A1)(i:Int)(c:w9)(E5:Int)(frame:List Int):Option (List A1):=
 ai8 (D4 l i) fun x2=>ai8 (X7 x2 1) fun v=>ai8 (bif (!v)then(ai8 (an9 l i ({x2 with z8:=F2 255 (j7 (x2.z8+1))}:A1)) fun l2=>ai8 (X7 ({x2 with z8:=F2 255 (j7 (x2.z8+1))}:A1) 4) fun v2=>bif (!v2)then(ai8 (O1 frame) fun v3=>ai8 (an9 l2 i ({x2 with z8:=F2 255 (j7 (x2.z8+1)),Frame:=v3}:A1)) fun l3=>some l3)else(some l2))else(some l)) fun(f2:List A1)=>ai8 (D4 f2 i) fun x3=>ai8 (an9 f2 i ({x3 with D8:=R6 .i64 x3.D8 11}:A1)) fun l4=>ai8 (an9 l4 i ({x3 with D8:=R6 .i64 x3.D8 11,Clean:=0}:A1)) fun l5=>bif (x3.G9==E5)then(some l5)else(ai8 (an9 l5 i ({x3 with D8:=R6 .i64 x3.D8 11,Clean:=0,G9:=E5}:A1)) fun l6=>ai8 (an9 l6 i (⟨R6 .i64 x3.D8 11,x3.D1,F2 2 (j7 (x3.I7+1)),0,x3.z8,x3.Frame,E5⟩:A1)) fun l7=>bif (decide ((F2 2 (j7 (x3.I7+1)))<2))then(some l7)else(ai8 (an9 l7 i (⟨R6 .i64 (R6 .i64 x3.D8 11) 4,x3.D1,F2 2 (j7 (x3.I7+1)),0,x3.z8,x3.Frame,E5⟩:A1)) fun l8=>bif c.ch1 then(ai8 (an9 l8 i (⟨R6 .i64 (R6 .i64 (R6 .i64 x3.D8 11) 4) 16,x3.D1,F2 2 (j7 (x3.I7+1)),0,x3.z8,x3.Frame,E5⟩:A1)) fun l9=>some l9)else(some l8)))
def aq4 (f2:B7)(i:Int)(bad:Bool)(l:List Int):Option (B7×Int):=
 ai8 (Z6 f2) fun v=>bif (!v)then(some ((⟨([]:List w9),([]:List A1),0,false⟩:B7),1))else(bif ((decide (i<0))||(decide (i>=(f2.L.length:Int))))then(some ((⟨([]:List w9),([]:List A1),0,false⟩:B7),2))else(bif (!f2.ay0)then(some ((⟨([]:List w9),([]:List A1),0,false⟩:B7),6))else(ai8 (D4 f2.T5 i) fun x=>ai8 (as8 x l) fun v2=>bif (!v2)then(some ((⟨([]:List w9),([]:List A1),0,false⟩:B7),1))else(ai8 (al5 f2) fun v3=>ai8 (ai8 (D4 v3.L i) fun _=>ai8 (D4 v3.T5 i) fun x3=>some x3) fun(f3:w9)=>ai8 (bif bad then(ai8 (D4 v3.L i) fun x4=>ai8 (an9 v3.L i ({x4 with D1:=F2 f3.ba6 (j7 ((G4 x4.D1 0)+1))}:A1)) fun l2=>some l2)else(ai8 (D4 v3.L i) fun x5=>ai8 (an9 v3.L i ({x5 with D1:=G4 (j7 (0-f3.Pass)) (j7 ((F2 x5.D1 0)-1))}:A1)) fun l3=>some l3)) fun(f4:List A1)=>ai8 (D4 f4 i) fun x6=>bif (x6.D1==f3.ba6)then(ai8 (aF1 f4 i f3 v3.aH5 l) fun v4=>some (({v3 with L:=v4}:B7),0))else(bif (x6.D1==(j7 (0-f3.Pass)))then(ai8 (an9 f4 i ({x6 with D8:=R6 .i64 x6.D8 8}:A1)) fun l4=>ai8 (an9 l4 i ({x6 with D8:=aO3 .i64 (R6 .i64 x6.D8 8) 1}:A1)) fun l5=>some (({v3 with L:=l5}:B7),0))else(some (({v3 with L:=f4}:B7),0)))))))
def N0 (x low high:Int):Option Bool:=
 some ((decide (x>=low))&&(decide (x<=high)))
def U8 (r2:j2):Option Bool:=
 ai8 (S6 r2) fun v=>some (!v)
def ar0 (bn9:List Int)(x i below:Int):Option (Fl Int Empty):=
 ai8 (D4 bn9 i) fun x2=>bif (decide (x2<=x))then(some (.next i))else(some (.next below))
def ae5 (bn9:List Int)(x:Int)(s:Int×Int):Option ((Int×Int)⊕((Int×Int)⊕Empty)):=
 bif (decide (s.1>=0))then(ai8 (D4 bn9 s.1) fun x3=>bif (decide (x3>=x))then(some (.inl (j7 (s.1-1),s.1)))else(some (.inl (j7 (s.1-1),s.2))))else(some (.inr (.inl (s.1,s.2))))
def ag4 (bn9:List Int)(x:Int):Option (Int×Int):=
 ai8 (K7 (bn9.length:Int) (ar0 bn9 x) 0) fun(t:Int⊕Empty)=>match t with| .inl cJ4=>(ai8 (L7 (ae5 bn9 x) (j7 ((bn9.length:Int)-1),j7 ((bn9.length:Int)-1))) fun(t:(Int×Int)⊕Empty)=>match t with| .inl s2=>(ai8 (D4 bn9 0) fun x4=>bif (decide (x<x4))then(some (cJ4,0))else(some (cJ4,s2.2)))| .inr r=>r.elim)| .inr r=>r.elim
def X9 (m2:SMap)(x y:Int):Option Int:=
 ai8 (ag4 m2.X x) fun r2=>ai8 (ag4 m2.Y y) fun r3=>ai8 (D4 m2.Z r2.1) fun x2=>ai8 (D4 x2 r3.1) fun x3=>ai8 (D4 x2 r3.2) fun x4=>ai8 (D4 m2.Z r2.2) fun x5=>ai8 (D4 x5 r3.1) fun x6=>ai8 (D4 x5 r3.2) fun x7=>some (G4 (G4 (G4 x3 x4) x6) x7)
def ax6 (r2:j2):Option Bool:=
 some ((r2.Kind==2)||(r2.Kind==3))
def ag2 (_:Int)(x:j2)(s:Int×Int):Option (Fl (Int×Int) Empty):=
 ai8 (ax6 x) fun v6=>bif (!v6)then(some (.next (s.1,s.2)))else(bif (x.N3==1)then(some (.next (G4 s.1 (F2 x.o9 1500),G4 s.2 x.E6)))else(some (.next (s.1,G4 s.2 x.E6))))
def ag3 (s2:Int×Int)(_:Int)(x2:j2)(au2:Int):Option (Fl Int Empty):=
 bif ((x2.Kind==1)&&(decide (x2.E6>s2.2)))then(some (.next (F2 au2 x2.o9)))else(some (.next au2))
def ae4 (t2:o7)(bf8 o8:Int)(l:List j2):Option (Int×Int):=
 ai8 (J4 t2.aH9) fun v=>ai8 (bif (!v)then(some true)else(ai8 (D7 l U8) fun v2=>some v2)) fun b2=>bif b2 then(some (0,1))else(bif (decide ((l.length:Int)>32))then(some (0,5))else(ai8 (N0 bf8 0 1000) fun v3=>ai8 (bif (!v3)then(some true)else(ai8 (N0 o8 0 12000) fun v4=>some (!v4))) fun b3=>bif b3 then(some (0,2))else(ai8 (X9 t2.aH9 o8 bf8) fun v5=>ai8 (ad9 l (ag2) ((-5000),(-1))) fun(t:(Int×Int)⊕Empty)=>match t with| .inl s2=>(ai8 (ad9 l (ag3 s2) 10000) fun(t:Int⊕Empty)=>match t with| .inl dH3=>(some (j7 ((G4 0 (F2 dH3 (G4 (F2 (G4 v5 (-5000)) 10000) s2.1)))+100),0))| .inr r=>r.elim)| .inr r=>r.elim)))
def aq9 (_:Int)(x:A2)(n2:Int):Option (Fl Int Empty):=
 bif (x.Y8 !=0)then(some (.next (j7 (n2+1))))else(some (.next n2))
def ax5 (t2:o7)(o8 A0:Int)(l:List A2):Option (Int×Int):=
 ai8 (J4 t2.o9) fun v=>bif (!v)then(some (0,1))else(bif (decide ((l.length:Int)>8))then(some (0,5))else(ai8 (N0 o8 0 12000) fun v2=>ai8 (bif (!v2)then(some true)else(ai8 (N0 A0 0 1048576) fun v3=>some (!v3))) fun b2=>bif b2 then(some (0,2))else(bif ((l.length:Int)==0)then(some (0,0))else(ai8 (ad9 l (aq9) 0) fun(t:Int⊕Empty)=>match t with| .inl n3=>(ai8 (X9 t2.o9 o8 A0) fun v4=>ai8 (bn3 .i64 (j7 ((j7 ((j7 ((F2 (G4 v4 0) 10000)*n3))+(l.length:Int)))-1)) (l.length:Int)) fun q=>some (q,0))| .inr r=>r.elim))))
def aA3 (t2:o7)(M5 B9:Int):Option (Int×Int):=
 ai8 (aB3 t2 M5 B9) fun r2=>bif (r2.2 !=0)then(some (0,r2.2))else(some (j7 (3*(G4 0 (j7 (M5-r2.1)))),0))
end Go.Pv
namespace Go.Proofs.YtmhdghdbojdgfaaGreat
open Go Go.Pv Go.Proofs
set_option maxHeartbeats 1000000
theorem bL5 (a:Int):(ai0 a).m=Pv.ai0 a:=by
 simp only[ai0,Pv.ai0,C.of,M.run]<;>kernel_rfl
theorem bm0 (s:List Int)(v:Int):(W2 s v).m=Pv.W2 s v:=by
 delta Pv.W2 Pv.ao0
 simp only[W2,ao0,C.of,M.run,L1.m,bO2,K7,M4]<;>kernel_rfl
theorem bb9 (s:List Int)(v:Int):(P5 s v).m=Pv.P5 s v:=by
 simp only[P5,Pv.P5,C.of,M.run,bm0]<;>kernel_rfl
theorem ay2 (e2:o5):(O7 e2).m=Pv.O7 e2:=by
 delta Pv.O7 Pv.as7
 simp only[O7,as7,C.of,M.run,bL5,bb9]<;>kernel_rfl
theorem cb6 (x y:Int):(at3 x y).m=Pv.at3 x y:=rfl
theorem bD1 (x:List B8)(count:Int):(P7 x count).m=Pv.P7 x count:=rfl
theorem di3 (n2:Int):(aU6 n2).m=Pv.aU6 n2:=by
 simp only[aU6,Pv.aU6,C.of,M.run,bD1]<;>kernel_rfl
theorem di4:(bj1).m=Pv.bj1:=by
 simp only[bj1,Pv.bj1,C.of,M.run]<;>kernel_rfl
theorem cL1:(aL2).m=Pv.aL2:=by
 simp only[aL2,Pv.aL2,C.of,M.run]<;>kernel_rfl
theorem bO6 (e2:o5):(az8 e2).m=Pv.az8 e2:=by
 simp only[az8,Pv.az8,C.of,M.run,ay2,di3,cL1,di4]<;>kernel_rfl
theorem bA1 (s:List Int)(f2:Cl Tryz.prog Int Bool (fun x=>[.t (tI x)]) (fun r=>.t (tB r))):(U5 s f2).m=Pv.U5 s (fun x0=>f2.f x0):=by
 delta Pv.U5 Pv.W4
 simp only[U5,W4,C.of,M.run,L1.m,Cl.at,bO2,K7,M4]<;>kernel_rfl
theorem J7 (s:List Int)(f2:Cl Tryz.prog Int Bool (fun x=>[.t (tI x)]) (fun r=>.t (tB r))):(o6 s f2).m=Pv.o6 s (fun x0=>f2.f x0):=by
 simp only[o6,Pv.o6,C.of,M.run,bA1]<;>kernel_rfl
theorem bt4 (n2:Int):(ac1 n2).m=Pv.ac1 n2:=by
 simp only[ac1,Pv.ac1,C.of,M.run]<;>kernel_rfl
theorem cE3 (l:List Int):(ar8 l).m=Pv.ar8 l:=by
 delta Pv.ar8 Pv.ay7
 simp only[ar8,ay7,C.of,M.run,L1.m,bO2,K7,M4,bt4]<;>kernel_rfl
theorem cc3 (z:Int):(ah8 z).m=Pv.ah8 z:=by
 simp only[ah8,Pv.ah8,C.of,M.run,bt4]<;>kernel_rfl
theorem am9 (m2:SMap):(J4 m2).m=Pv.J4 m2:=by
 delta Pv.J4 Pv.aB7
 simp only[J4,aB7,C.of,M.run,Cl.of,bO2,ad9,ar1,J7,cc3,cE3]<;>kernel_rfl
theorem ci5 (n2:Int):(aB1 n2).m=Pv.aB1 n2:=by
 simp only[aB1,Pv.aB1,C.of,M.run]<;>kernel_rfl
theorem cW0 (l:List Int):(aL7 l).m=Pv.aL7 l:=by
 delta Pv.aL7 Pv.aG8
 simp only[aL7,aG8,C.of,M.run,L1.m,Cl.of,bO2,K7,M4,ci5,J7]<;>kernel_rfl
theorem aI6 (c:Q2):(P4 c).m=Pv.P4 c:=by
 simp only[P4,Pv.P4,C.of,M.run,Cl.of,cW0,ci5,J7]<;>kernel_rfl
theorem bC5 (x:Int):(cmp_isNaN_int x).m=Pv.cmp_isNaN_int x:=by
 simp only[cmp_isNaN_int,Pv.cmp_isNaN_int,C.of,M.run]<;>kernel_rfl
theorem cD4 (x y:Int):(cmp_Less_int x y).m=Pv.cmp_Less_int x y:=by
 simp only[cmp_Less_int,Pv.cmp_Less_int,C.of,M.run,bC5]<;>kernel_rfl
theorem bc0 (x:List Int):(P6 x).m=Pv.P6 x:=by
 delta Pv.P6 Pv.Q6
 simp only[P6,Q6,C.of,M.run,L1.m,cD4]<;>kernel_rfl
theorem aI5 (n2 low high:Int):(I4 n2 low high).m=Pv.I4 n2 low high:=by
 simp only[I4,Pv.I4,C.of,M.run]<;>kernel_rfl
theorem cJ7 (y:Int):(aK4 y).m=Pv.aK4 y:=by
 simp only[aK4,Pv.aK4,C.of,M.run,aI5]<;>kernel_rfl
theorem bH1 (t2:o7):(aA8 t2).m=Pv.aA8 t2:=by
 delta Pv.aA8 Pv.aT2
 simp only[aA8,aT2,C.of,M.run,L1.m,Cl.of,bO2,ad9,ar1,cJ7,aI5,aI6,J7,bc0,am9]<;>kernel_rfl
theorem bw9 (s:List (List Int))(f2:Cl Tryz.prog (List Int) Bool (fun x=>[.t (tS Pv.encI x)]) (fun r=>.t (tB r))):(W0 s f2).m=Pv.W0 s (fun x0=>f2.f x0):=by
 delta Pv.W0 Pv.aa0
 simp only[W0,aa0,C.of,M.run,L1.m,Cl.at,bO2,K7,M4]<;>kernel_rfl
theorem aN4 (s:List (List Int))(f2:Cl Tryz.prog (List Int) Bool (fun x=>[.t (tS Pv.encI x)]) (fun r=>.t (tB r))):(G0 s f2).m=Pv.G0 s (fun x0=>f2.f x0):=by
 simp only[G0,Pv.G0,C.of,M.run,bw9]<;>kernel_rfl
theorem aA9 (x low high:Int):(H5 x low high).m=Pv.H5 x low high:=by
 simp only[H5,Pv.H5,C.of,M.run]<;>kernel_rfl
theorem bX8 (x c c2:Int):(ao2 x c c2).m=Pv.ao2 x c c2:=by
 simp only[ao2,Pv.ao2,C.of,M.run,aA9]<;>kernel_rfl
theorem by5 (l:List Int)(low high:Int):(ah3 l low high).m=Pv.ah3 l low high:=by
 simp only[ah3,Pv.ah3,C.of,M.run,Cl.of,J7,bX8]<;>kernel_rfl
theorem aP4 (x:List Int)(cmp:Cl Tryz.prog (Int×Int) Int (fun x=>[.t (tI x.1),.t (tI x.2)]) (fun r=>.t (tI r))):(H9 x cmp).m=Pv.H9 x (fun x0 x1=>cmp.f (x0,x1)):=by
 delta Pv.H9 Pv.L5
 simp only[H9,L5,C.of,M.run,L1.m,Cl.at]<;>kernel_rfl
theorem ck1 (a b2:Int):(ac2 a b2).m=Pv.ac2 a b2:=by
 simp only[ac2,Pv.ac2,C.of,M.run]<;>kernel_rfl
theorem ck2 (row:List Int):(al2 row).m=Pv.al2 row:=by
 simp only[al2,Pv.al2,C.of,M.run,bc0,by5]<;>kernel_rfl
theorem bo3 (t2:o7):(ai4 t2).m=Pv.ai4 t2:=by
 simp only[ai4,Pv.ai4,C.of,M.run,Cl.of,aI6,aN4,aP4,am9,ck1,ck2,by5]<;>kernel_rfl
theorem bz8 (x low high:Int):(J5 x low high).m=Pv.J5 x low high:=by
 simp only[J5,Pv.J5,C.of,M.run]<;>kernel_rfl
theorem cr7 (x c c2:Int):(az9 x c c2).m=Pv.az9 x c c2:=by
 simp only[az9,Pv.az9,C.of,M.run,bz8]<;>kernel_rfl
theorem bO7 (l:List Int)(low high:Int):(af9 l low high).m=Pv.af9 l low high:=by
 simp only[af9,Pv.af9,C.of,M.run,Cl.of,cr7,J7]<;>kernel_rfl
theorem aW2 (g:aV4):(Q5 g).m=Pv.Q5 g:=by
 simp only[Q5,Pv.Q5,C.of,M.run]<;>kernel_rfl
theorem bh4 (t2:o7):(ac5 t2).m=Pv.ac5 t2:=by
 delta Pv.ac5 Pv.aB0
 simp only[ac5,aB0,C.of,M.run,bO2,ad9,ar1,bH1,bO7,aI6,aW2,am9,bo3]<;>kernel_rfl
theorem cE0 (x low high:Int):(F8 x low high).m=Pv.F8 x low high:=by
 simp only[F8,Pv.F8,C.of,M.run]<;>kernel_rfl
theorem bs9 (b2:L2):(aj6 b2).m=Pv.aj6 b2:=by
 simp only[aj6,Pv.aj6,C.of,M.run,cE0]<;>kernel_rfl
theorem bP9 (p2:U7):(ax8 p2).m=Pv.ax8 p2:=by
 simp only[ax8,Pv.ax8,C.of,M.run]<;>kernel_rfl
theorem bk3 (x low high:Int):(S1 x low high).m=Pv.S1 x low high:=by
 simp only[S1,Pv.S1,C.of,M.run]<;>kernel_rfl
theorem bw8 (s:List ab3)(f2:Cl Tryz.prog ab3 Bool (fun x=>[bU9 x]) (fun r=>.t (tB r))):(aa6 s f2).m=Pv.aa6 s (fun x0=>f2.f x0):=by
 delta Pv.aa6 Pv.ai7
 simp only[aa6,ai7,C.of,M.run,L1.m,Cl.at,bO2,K7,M4]<;>kernel_rfl
theorem bo0 (s:List ab3)(f2:Cl Tryz.prog ab3 Bool (fun x=>[bU9 x]) (fun r=>.t (tB r))):(R3 s f2).m=Pv.R3 s (fun x0=>f2.f x0):=by
 simp only[R3,Pv.R3,C.of,M.run,bw8]<;>kernel_rfl
set_option maxHeartbeats 1000000
theorem cb7 (c:ab3):(ab5 c).m=Pv.ab5 c:=by
 simp only[ab5,Pv.ab5,C.of,M.run,bk3]<;>kernel_rfl
theorem bh6 (p2:M8):(ac7 p2).m=Pv.ac7 p2:=by
 simp only[ac7,Pv.ac7,C.of,M.run,Cl.of,bg,bga,cb7,bk3,bo0]<;>kernel_rfl
theorem bt1 (s:List B8)(f2:Cl Tryz.prog B8 Bool (fun x=>[aX2 x]) (fun r=>.t (tB r))):(Y0 s f2).m=Pv.Y0 s (fun x0=>f2.f x0):=by
 delta Pv.Y0 Pv.ah0
 simp only[Y0,ah0,C.of,M.run,L1.m,Cl.at,bO2,K7,M4]<;>kernel_rfl
theorem aK7 (s:List B8)(f2:Cl Tryz.prog B8 Bool (fun x=>[aX2 x]) (fun r=>.t (tB r))):(J3 s f2).m=Pv.J3 s (fun x0=>f2.f x0):=by
 simp only[J3,Pv.J3,C.of,M.run,bt1]<;>kernel_rfl
theorem bs8 (n2:Int):(ah6 n2).m=Pv.ah6 n2:=by
 simp only[ah6,Pv.ah6,C.of,M.run]<;>kernel_rfl
theorem bP7 (k:B8):(ax3 k).m=Pv.ax3 k:=by
 simp only[ax3,Pv.ax3,C.of,M.run,bs8]<;>kernel_rfl
theorem ci4 (k:B8):(ak5 k).m=Pv.ak5 k:=by
 simp only[ak5,Pv.ak5,C.of,M.run,bP7]<;>kernel_rfl
theorem bL4 (e2:o5)(c:A5):(aq0 e2 c).m=Pv.aq0 e2 c:=by
 simp only[aq0,Pv.aq0,C.of,M.run,Cl.of,ci4,bz8,ay2,bh6,bP9,aK7]<;>kernel_rfl
theorem bo2 (s:List j2)(f2:Cl Tryz.prog j2 Bool (fun x=>[G7 x]) (fun r=>.t (tB r))):(V1 s f2).m=Pv.V1 s (fun x0=>f2.f x0):=by
 delta Pv.V1 Pv.ab8
 simp only[V1,ab8,C.of,M.run,L1.m,Cl.at,bO2,K7,M4]<;>kernel_rfl
theorem at7 (s:List j2)(f2:Cl Tryz.prog j2 Bool (fun x=>[G7 x]) (fun r=>.t (tB r))):(D7 s f2).m=Pv.D7 s (fun x0=>f2.f x0):=by
 simp only[D7,Pv.D7,C.of,M.run,bo2]<;>kernel_rfl
theorem be0 (t2:Int):(P3 t2).m=Pv.P3 t2:=by
 simp only[P3,Pv.P3,C.of,M.run]<;>kernel_rfl
theorem bh3 (r2:j2):(S6 r2).m=Pv.S6 r2:=by
 simp only[S6,Pv.S6,C.of,M.run,bg,bga,bgo,be0]<;>kernel_rfl
theorem cb2 (r2:j2):(ah5 r2).m=Pv.ah5 r2:=by
 simp only[ah5,Pv.ah5,C.of,M.run,bh3]<;>kernel_rfl
theorem cr6 (i:W9)(B4:Int):(av6 i B4).m=Pv.av6 i B4:=by
 simp only[av6,Pv.av6,C.of,M.run,Cl.of,cb2,bO7,bz8,at7]<;>kernel_rfl
theorem af7 (x low high:Int):(C6 x low high).m=Pv.C6 x low high:=by
 simp only[C6,Pv.C6,C.of,M.run]<;>kernel_rfl
theorem bP6 (n2:Int):(aj5 n2).m=Pv.aj5 n2:=by
 simp only[aj5,Pv.aj5,C.of,M.run]<;>kernel_rfl
theorem bP5 (D5:Int):(ax2 D5).m=Pv.ax2 D5:=by
 simp only[ax2,Pv.ax2,C.of,M.run]<;>kernel_rfl
theorem di1 (o8 D5:Int):(bc2 o8 D5).m=Pv.bc2 o8 D5:=by
 simp only[bc2,Pv.bc2,C.of,M.run,bP5]<;>kernel_rfl
theorem bP4 (bf8 o8 D5:Int):(ax1 bf8 o8 D5).m=Pv.ax1 bf8 o8 D5:=by
 simp only[ax1,Pv.ax1,C.of,M.run,di1,bP6]<;>kernel_rfl
theorem cW2 (p2:U7)(first second:Int):(aM1 p2 first second).m=Pv.aM1 p2 first second:=by
 simp only[aM1,Pv.aM1,C.of,M.run,af7,bP9]<;>kernel_rfl
theorem aw7 (s:o4)(e2:Int):(u5 s e2).m=Pv.u5 s e2:=by
 simp only[u5,Pv.u5,CG.of,M.run]<;>kernel_rfl
theorem aI8 (n2:Int)(f2:Cl Tryz.prog Int Bool (fun x=>[.t (tI x)]) (fun r=>.t (tB r))):(Q0 n2 f2).m=Pv.Q0 n2 (fun x0=>f2.f x0):=by
 delta Pv.Q0 Pv.ab9
 simp only[Q0,ab9,C.of,M.run,Cl.at,elE]<;>kernel_rfl
theorem bQ5 (i:Int)(c:List Int)(c2:Int):(ae8 i c c2).m=Pv.ae8 i c c2:=by
 simp only[ae8,Pv.ae8,C.of,M.run,L1.m]<;>kernel_rfl
theorem cc4 (l:List Int)(x:Int):(X2 l x).m=Pv.X2 l x:=by
 simp only[X2,Pv.X2,C.of,M.run,L1.m,Cl.of,af7,aI8,bQ5]<;>kernel_rfl
theorem cb1 (n2:Int):(V3 n2).m=Pv.V3 n2:=by
 simp only[V3,Pv.V3,C.of,M.run]<;>kernel_rfl
theorem cb5 (x:Int):(aN8 x).m=Pv.aN8 x:=rfl
theorem bq0 (x:Int):(W3 x).m=Pv.W3 x:=by
 simp only[W3,Pv.W3,C.of,M.run,cb5]<;>kernel_rfl
theorem cb4 (hi lo y:Int):(al6 hi lo y).m=Pv.al6 hi lo y:=by
 delta Pv.al6 Pv.aD2 Pv.aD3
 simp only[al6,aD2,aD3,C.of,M.run,L1.m,elE,bq0]<;>kernel_rfl
theorem cr5 (r2 c:Int)(negative:Bool)(mode:Int):(ak4 r2 c negative mode).m=Pv.ak4 r2 c negative mode:=by
 simp only[ak4,Pv.ak4,C.of,M.run]<;>kernel_rfl
theorem cD3 (a b2 c mode:Int):(az2 a b2 c mode).m=Pv.az2 a b2 c mode:=by
 simp only[az2,Pv.az2,C.of,M.run,cb1,cr5,cb4,cb6]<;>kernel_rfl
theorem bp8 (a b2 mode:Int):(am8 a b2 mode).m=Pv.am8 a b2 mode:=by
 simp only[am8,Pv.am8,C.of,M.run,cD3]<;>kernel_rfl
theorem aQ6 (a b2:Int):(V8 a b2).m=Pv.V8 a b2:=by
 simp only[V8,Pv.V8,C.of,M.run,bp8]<;>kernel_rfl
theorem bt3 (x0 x1 y0 y1 x:Int):(ac0 x0 x1 y0 y1 x).m=Pv.ac0 x0 x1 y0 y1 x:=by
 simp only[ac0,Pv.ac0,C.of,M.run,aQ6]<;>kernel_rfl
theorem cE2 (j:Int)(c:SMap)(c2 c3:Int):(ar7 j c c2 c3).m=Pv.ar7 j c c2 c3:=by
 simp only[ar7,Pv.ar7,C.of,M.run,L1.m,bt3]<;>kernel_rfl
theorem cW5 (m2:SMap)(x y:Int):(aM8 m2 x y).m=Pv.aM8 m2 x y:=by
 simp only[aM8,Pv.aM8,C.of,M.run,L1.m,cE2,bt3,cc4]<;>kernel_rfl
theorem aX9 (m2:SMap)(x y:Int):(Y2 m2 x y).m=Pv.Y2 m2 x y:=by
 simp only[Y2,Pv.Y2,C.of,M.run,am9,cW5]<;>kernel_rfl
theorem cW3 (t2:o7)(value o8:Int):(aM2 t2 value o8).m=Pv.aM2 t2 value o8:=by
 simp only[aM2,Pv.aM2,C.of,M.run,af7,aX9,am9]<;>kernel_rfl
theorem ci7 (s:F7)(g:aV4)(e2:Int):(aq5 s g e2).m=Pv.aq5 s g e2:=by
 simp only[aq5,Pv.aq5,C.of,M.run,bg,bga,af7,aW2]<;>kernel_rfl
theorem di0 (s:F7)(g:aV4)(target o8:Int):(aE5 s g target o8).m=Pv.aE5 s g target o8:=by
 simp only[aE5,Pv.aE5,C.of,M.run,ci7,aW2,bP6]<;>kernel_rfl
theorem cb0 (r2:j2):(ah4 r2).m=Pv.ah4 r2:=by
 simp only[ah4,Pv.ah4,C.of,M.run,bh3]<;>kernel_rfl
theorem cr4 (l:List j2)(low high:Int):(av5 l low high).m=Pv.av5 l low high:=by
 simp only[av5,Pv.av5,C.of,M.run,Cl.of,cb0,be0,at7]<;>kernel_rfl
theorem bA0 (s:List j2):(W8 s).m=Pv.W8 s:=by
 simp only[W8,Pv.W8,CG.of,M.run,U1.m,fh5]<;>kernel_rfl
theorem aQ8 (data:List j2)(a b2:Int)(cmp:Cl Tryz.prog (j2×j2) Int (fun x=>[G7 x.1,G7 x.2]) (fun r=>.t (tI r))):(F4 data a b2 cmp).m=Pv.F4 data a b2 (fun x0 x1=>cmp.f (x0,x1)):=by
 delta Pv.F4 Pv.P9 Pv.P8
 simp only[F4,P9,P8,CG.of,M.run,L1.m,U1.m,Cl.at,bso,bO2,elE]<;>kernel_rfl
set_option maxHeartbeats 1000000
theorem bd1 (data:List j2)(a m2 b2:Int)(cmp:Cl Tryz.prog (j2×j2) Int (fun x=>[G7 x.1,G7 x.2]) (fun r=>.t (tI r))):(O3 data a m2 b2 cmp).m=Pv.O3 64 data a m2 b2 (fun x0 x1=>cmp.f (x0,x1)):=rfl
theorem bg5 (data:List j2)(n2:Int)(cmp:Cl Tryz.prog (j2×j2) Int (fun x=>[G7 x.1,G7 x.2]) (fun r=>.t (tI r))):(N1 data n2 cmp).m=Pv.N1 data n2 (fun x0 x1=>cmp.f (x0,x1)):=by
 delta Pv.N1 Pv.R7 Pv.W7 Pv.R8
 simp only[N1,R7,W7,R8,CG.of,M.run,elE,aQ8,bd1]<;>kernel_rfl
theorem bd0 (x:List j2)(cmp:Cl Tryz.prog (j2×j2) Int (fun x=>[G7 x.1,G7 x.2]) (fun r=>.t (tI r))):(J6 x cmp).m=Pv.J6 x (fun x0 x1=>cmp.f (x0,x1)):=by
 simp only[J6,Pv.J6,CG.of,M.run,bg5]<;>kernel_rfl
theorem bX3 (a b2:j2):(O2 a b2).m=Pv.O2 a b2:=by
 simp only[O2,Pv.O2,C.of,M.run]<;>kernel_rfl
theorem bH2 (s:u0)(t2:Int):(ad4 s t2).m=Pv.ad4 s t2:=by
 simp only[ad4,Pv.ad4,CG.of,M.run]<;>kernel_rfl
theorem bC3 (s:u0)(t2:Int):(Z4 s t2).m=Pv.Z4 s t2:=by
 simp only[Z4,Pv.Z4,CG.of,M.run]<;>kernel_rfl
theorem bC4 (s:u0)(t2:Int):(Z5 s t2).m=Pv.Z5 s t2:=by
 simp only[Z5,Pv.Z5,CG.of,M.run,af7]<;>kernel_rfl
theorem bH3 (s:u0)(r2:j2):(X0 s r2).m=Pv.X0 s r2:=by
 simp only[X0,Pv.X0,CG.of,M.run,bg,bgo,bgt,bC3,bH2,bC4]<;>kernel_rfl
theorem bX7 (s:List Int):(aB6 s).m=Pv.aB6 s:=rfl
theorem bH9 (s:List Int):(as2 s).m=Pv.as2 s:=rfl
theorem ci2 (l:List j2)(low high:Int):(ap7 l low high).m=Pv.ap7 l low high:=by
 delta Pv.ap7 Pv.aj3
 simp only[ap7,aj3,C.of,M.run,U1.m,Cl.of,bso,bO2,ad9,ar1,elE,bX3,bH3,bA0,bH9,bd0,bX7]<;>kernel_rfl
theorem cD2 (g:aa2)(l:List j2)(low high up down:Int):(ap6 g l low high up down).m=Pv.ap6 g l low high up down:=by
 simp only[ap6,Pv.ap6,C.of,M.run,ci2,cr4,be0]<;>kernel_rfl
theorem bH4 (s:o4):(X1 s).m=Pv.X1 s:=by
 simp only[X1,Pv.X1,CG.of,M.run,U1.m,bso,bO2,cD2,af7,aw7,bP4,di0,bP5,cW2,cW3]<;>kernel_rfl
theorem cc6 (i:Int)(c:o7)(c2 c3 c4:Int):(am1 i c c2 c3 c4).m=Pv.am1 i c c2 c3 c4:=by
 simp only[am1,Pv.am1,C.of,M.run,aX9]<;>kernel_rfl
theorem ct3 (t2:o7)(o8 T4:Int):(ap3 t2 o8 T4).m=Pv.ap3 t2 o8 T4:=by
 simp only[ap3,Pv.ap3,C.of,M.run,L1.m,Cl.of,aI8,cc6,bo3,aA9]<;>kernel_rfl
theorem cV9 (x e2 other:Int):(au5 x e2 other).m=Pv.au5 x e2 other:=by
 simp only[au5,Pv.au5,C.of,M.run]<;>kernel_rfl
theorem cb3 (i:Int)(c:Q2)(c2:Int):(al3 i c c2).m=Pv.al3 i c c2:=by
 simp only[al3,Pv.al3,C.of,M.run,L1.m]<;>kernel_rfl
theorem cr8 (c:Q2)(x:Int):(av7 c x).m=Pv.av7 c x:=by
 simp only[av7,Pv.av7,C.of,M.run,Cl.of,cb3,aI8]<;>kernel_rfl
theorem cK0 (c:Q2)(x:Int):(aE9 c x).m=Pv.aE9 c x:=by
 simp only[aE9,Pv.aE9,C.of,M.run,L1.m,aQ6,cr8]<;>kernel_rfl
theorem bx9 (c:Q2)(x:Int):(at9 c x).m=Pv.at9 c x:=by
 simp only[at9,Pv.at9,C.of,M.run,aI6,cK0]<;>kernel_rfl
theorem bY7 (t2:o7)(o8 C1 K5:Int):(aC1 t2 o8 C1 K5).m=Pv.aC1 t2 o8 C1 K5:=by
 simp only[aC1,Pv.aC1,C.of,M.run,aQ6,bx9,aX9]<;>kernel_rfl
theorem ci0 (k:Int)(c:o7)(c2 c3 c4:Int):(ak2 k c c2 c3 c4).m=Pv.ak2 k c c2 c3 c4:=by
 simp only[ak2,Pv.ak2,C.of,M.run,bY7]<;>kernel_rfl
theorem cC9 (t2:o7)(o8 want K5:Int):(av2 t2 o8 want K5).m=Pv.av2 t2 o8 want K5:=by
 simp only[av2,Pv.av2,C.of,M.run,Cl.of,ci0,bH1,aI5,aI8]<;>kernel_rfl
theorem cj4 (rpm:Int):(ax7 rpm).m=Pv.ax7 rpm:=by
 simp only[ax7,Pv.ax7,C.of,M.run,bp8]<;>kernel_rfl
theorem dq1 (o8 C1:Int):(bd9 o8 C1).m=Pv.bd9 o8 C1:=by
 simp only[bd9,Pv.bd9,C.of,M.run,aI5,cj4]<;>kernel_rfl
theorem ci1 (k:Int)(c:L2)(c2 c3:Int):(ak3 k c c2 c3).m=Pv.ak3 k c c2 c3:=by
 simp only[ak3,Pv.ak3,C.of,M.run]<;>kernel_rfl
theorem cD0 (b2:L2)(cX0 C1:Int):(av3 b2 cX0 C1).m=Pv.av3 b2 cX0 C1:=by
 simp only[av3,Pv.av3,C.of,M.run,Cl.of,ci1,aI5,bs9,aI8]<;>kernel_rfl
theorem bz9 (s:o4):(U4 s).m=Pv.U4 s:=by
 simp only[U4,Pv.U4,CG.of,M.run,dq1,cC9,cD0,cV9,aw7,ct3]<;>kernel_rfl
theorem bY6 (t2:o7)(o8 C1 K5:Int):(aC0 t2 o8 C1 K5).m=Pv.aC0 t2 o8 C1 K5:=by
 simp only[aC0,Pv.aC0,C.of,M.run,bH1,aI5,bY7]<;>kernel_rfl
theorem by4 (t2:o7)(o8 A0:Int):(ah2 t2 o8 A0).m=Pv.ah2 t2 o8 A0:=by
 simp only[ah2,Pv.ah2,C.of,M.run,aX9,bo3,aA9]<;>kernel_rfl
theorem bh8 (t2:o7)(bJ7 late ae3 B4:Int):(Y7 t2 bJ7 late ae3 B4).m=Pv.Y7 t2 bJ7 late ae3 B4:=by
 simp only[Y7,Pv.Y7,C.of,M.run,L1.m,bx9]<;>kernel_rfl
theorem ck0 (late:Int)(c:o7)(c2 c3 c4 c5:Int):(al1 late c c2 c3 c4 c5).m=Pv.al1 late c c2 c3 c4 c5:=by
 simp only[al1,Pv.al1,C.of,M.run,bh8]<;>kernel_rfl
theorem cE5 (t2:o7)(o8 A0 most B4:Int):(am2 t2 o8 A0 most B4).m=Pv.am2 t2 o8 A0 most B4:=by
 delta Pv.am2 Pv.am3
 simp only[am2,am3,C.of,M.run,Cl.of,elE,aI8,by4,ck0,bh8,aA9]<;>kernel_rfl
theorem cj9 (B4 ae3 E5:Int):(ar9 B4 ae3 E5).m=Pv.ar9 B4 ae3 E5:=by
 delta Pv.ar9 Pv.as0
 simp only[ar9,as0,C.of,M.run,L1.m,U1.m,bso,bO2,K7,M4,elE,aA9]<;>kernel_rfl
theorem ct4 (t2:o7)(o8 A0 late ae3 B4:Int):(aw4 t2 o8 A0 late ae3 B4).m=Pv.aw4 t2 o8 A0 late ae3 B4:=by
 simp only[aw4,Pv.aw4,C.of,M.run,by4,bh8,aA9]<;>kernel_rfl
theorem bM6 (s:o4):(aa4 s).m=Pv.aa4 s:=by
 simp only[aa4,Pv.aa4,CG.of,M.run,bso,bO2,bY6,aw7,cj9,cE5,ct4]<;>kernel_rfl
theorem bh7 (o8 A0:Int):(ac8 o8 A0).m=Pv.ac8 o8 A0:=by
 simp only[ac8,Pv.ac8,C.of,M.run,bk3]<;>kernel_rfl
theorem bM8 (s:List ab3):(ag9 s).m=Pv.ag9 s:=by
 simp only[ag9,Pv.ag9,C.of,M.run,U1.m,fh5]<;>kernel_rfl
theorem cj1 (p2:M8):(ax4 p2).m=Pv.ax4 p2:=by
 simp only[ax4,Pv.ax4,C.of,M.run,bM8]<;>kernel_rfl
theorem cD9 (p2:M8)(B9 o8 A0:Int):(az5 p2 B9 o8 A0).m=Pv.az5 p2 B9 o8 A0:=by
 simp only[az5,Pv.az5,C.of,M.run,bg,bgo,af7,bh6,cj1,bk3,bh7]<;>kernel_rfl
theorem cs6 (x:Int)(bb5:List Int):(ak8 x bb5).m=Pv.ak8 x bb5:=by
 delta Pv.ak8 Pv.aB5
 simp only[ak8,aB5,C.of,M.run,ad9,ar1,elE]<;>kernel_rfl
theorem cD8 (o8 A0:Int):(aF7 o8 A0).m=Pv.aF7 o8 A0:=by
 simp only[aF7,Pv.aF7,C.of,M.run,cs6,bh7]<;>kernel_rfl
theorem cj0 (p2:M8)(o8 A0:Int):(aq8 p2 o8 A0).m=Pv.aq8 p2 o8 A0:=by
 simp only[aq8,Pv.aq8,C.of,M.run,L1.m,af7,cD8,bh6,bh7]<;>kernel_rfl
theorem bh5 (x low high:Int):(af2 x low high).m=Pv.af2 x low high:=by
 simp only[af2,Pv.af2,C.of,M.run]<;>kernel_rfl
theorem dh7 (A0 bI8:Int):(aU2 A0 bI8).m=Pv.aU2 A0 bI8:=by
 simp only[aU2,Pv.aU2,C.of,M.run,L1.m,bh5]<;>kernel_rfl
set_option maxHeartbeats 1000000
theorem ci9 (b2:L2):(aJ2 b2).m=Pv.aJ2 b2:=by
 simp only[aJ2,Pv.aJ2,C.of,M.run,bh5]<;>kernel_rfl
theorem di5 (n2:Int)(cmp:Cl Tryz.prog Int Int (fun x=>[.t (tI x)]) (fun r=>.t (tI r))):(aO7 n2 cmp).m=Pv.aO7 n2 (fun x0=>cmp.f x0):=by
 delta Pv.aO7 Pv.aM6
 simp only[aO7,aM6,C.of,M.run,Cl.at,elE]<;>kernel_rfl
theorem bH5 (b2:L2)(aF3 aH1:Int):(aB4 b2 aF3 aH1).m=Pv.aB4 b2 aF3 aH1:=by
 simp only[aB4,Pv.aB4,C.of,M.run]<;>kernel_rfl
theorem cK7 (i:Int)(c:L2)(c2 c3:Int):(aA4 i c c2 c3).m=Pv.aA4 i c c2 c3:=by
 simp only[aA4,Pv.aA4,C.of,M.run,bH5]<;>kernel_rfl
theorem dh9 (b2:L2)(aF3 bq8:Int):(aJ1 b2 aF3 bq8).m=Pv.aJ1 b2 aF3 bq8:=by
 simp only[aJ1,Pv.aJ1,C.of,M.run,Cl.of,cK7,ci9,bh5,bH5,di5]<;>kernel_rfl
theorem dh6 (b2:L2)(aF3 aH1:Int):(aO4 b2 aF3 aH1).m=Pv.aO4 b2 aF3 aH1:=by
 simp only[aO4,Pv.aO4,C.of,M.run,ci9,bh5,bH5]<;>kernel_rfl
theorem cK8 (y:Int):(aF4 y).m=Pv.aF4 y:=by
 simp only[aF4,Pv.aF4,C.of,M.run,bh5]<;>kernel_rfl
theorem ci8 (t2:o7)(ca6 B9:Int):(aB3 t2 ca6 B9).m=Pv.aB3 t2 ca6 B9:=by
 simp only[aB3,Pv.aB3,C.of,M.run,Cl.of,bx9,aI6,cK8,bh5,J7]<;>kernel_rfl
theorem dh8 (t2:o7)(bq8 B9:Int):(aO5 t2 bq8 B9).m=Pv.aO5 t2 bq8 B9:=by
 simp only[aO5,Pv.aO5,C.of,M.run,bp8,ci8]<;>kernel_rfl
theorem bO8 (s:o4):(ae1 s).m=Pv.ae1 s:=by
 simp only[ae1,Pv.ae1,CG.of,M.run,bso,bO2,af7,aw7,dh6,dh7,dh8,dh9,cj0,cD9]<;>kernel_rfl
theorem cK9 (k:B8):(aA5 k).m=Pv.aA5 k:=by
 simp only[aA5,Pv.aA5,C.of,M.run,bP7]<;>kernel_rfl
theorem cL0 (n2:Int):(aF6 n2).m=Pv.aF6 n2:=by
 simp only[aF6,Pv.aF6,C.of,M.run,bs8]<;>kernel_rfl
theorem bH8 (s:List B8):(ad6 s).m=Pv.ad6 s:=by
 simp only[ad6,Pv.ad6,CG.of,M.run,U1.m,fh5]<;>kernel_rfl
theorem cW1 (k:B8)(n2:Int):(aH2 k n2).m=Pv.aH2 k n2:=by
 simp only[aH2,Pv.aH2,C.of,M.run,aQ6]<;>kernel_rfl
theorem di2 (l:List B8)(ag1:List Int):(aU5 l ag1).m=Pv.aU5 l ag1:=by
 delta Pv.aU5 Pv.aL9
 simp only[aU5,aL9,C.of,M.run,L1.m,U1.m,Cl.of,bso,bO2,K7,M4,elE,cK9,cL0,cW1,bH8,aK7,J7]<;>kernel_rfl
theorem cs9 (a b2:Int):(aA6 a b2).m=Pv.aA6 a b2:=by
 simp only[aA6,Pv.aA6,C.of,M.run]<;>kernel_rfl
theorem cL4 (l:List Int):(aG3 l).m=Pv.aG3 l:=by
 simp only[aG3,Pv.aG3,C.of,M.run,Cl.of,aP4,cs9]<;>kernel_rfl
theorem aZ5 (x low high:Int):(Q7 x low high).m=Pv.Q7 x low high:=by
 simp only[Q7,Pv.Q7,C.of,M.run]<;>kernel_rfl
theorem cc2 (x c c2:Int):(at5 x c c2).m=Pv.at5 x c c2:=by
 simp only[at5,Pv.at5,C.of,M.run,aZ5]<;>kernel_rfl
theorem bD2 (l:List Int)(low high:Int):(ad3 l low high).m=Pv.ad3 l low high:=by
 simp only[ad3,Pv.ad3,C.of,M.run,Cl.of,J7,cc2]<;>kernel_rfl
theorem ct0 (l:List Int):(aw3 l).m=Pv.aw3 l:=by
 simp only[aw3,Pv.aw3,C.of,M.run,bD2]<;>kernel_rfl
theorem bQ4 (t2:o7):(ax9 t2).m=Pv.ax9 t2:=by
 simp only[ax9,Pv.ax9,C.of,M.run,Cl.of,aI6,aN4,cL4,bD2,ct0,am9]<;>kernel_rfl
theorem cL3 (t2:o7)(B9 M5:Int):(aG2 t2 B9 M5).m=Pv.aG2 t2 B9 M5:=by
 simp only[aG2,Pv.aG2,C.of,M.run,bx9,bQ4,aZ5]<;>kernel_rfl
theorem cW4 (t2:o7)(o8 A0:Int):(aM7 t2 o8 A0).m=Pv.aM7 t2 o8 A0:=by
 simp only[aM7,Pv.aM7,C.of,M.run,bQ4,aZ5,aX9]<;>kernel_rfl
theorem cL2 (t2:o7)(o8 A0 D5 bj7:Int):(aG1 t2 o8 A0 D5 bj7).m=Pv.aG1 t2 o8 A0 D5 bj7:=by
 simp only[aG1,Pv.aG1,C.of,M.run,af7,cW4,aZ5]<;>kernel_rfl
theorem bM5 (s:o4):(aa3 s).m=Pv.aa3 s:=by
 delta Pv.aa3 Pv.ad8
 simp only[aa3,ad8,CG.of,M.run,L1.m,U1.m,bso,bO2,K7,M4,elE,af7,aw7,di2,cL2,cL3]<;>kernel_rfl
theorem cD5 (t2:o7)(e2:o5)(b2:L2)(c:A5)(i:W9):(aE8 t2 e2 b2 c i).m=Pv.aE8 t2 e2 b2 c i:=by
 simp only[aE8,Pv.aE8,CG.of,M.run,bso,cr6,bL4,bh4,bM5,bO8,bM6,bz9,bH4,bs9]<;>kernel_rfl
theorem di6 (n2:Int):(aV2 n2).m=Pv.aV2 n2:=by
 simp only[aV2,Pv.aV2,C.of,M.run]<;>kernel_rfl
theorem aQ7 (s:List Int):(O1 s).m=Pv.O1 s:=by
 simp only[O1,Pv.O1,C.of,M.run,U1.m,fh5]<;>kernel_rfl
theorem dh5:(bb7).m=Pv.bb7:=by
 simp only[bb7,Pv.bb7,C.of,M.run]<;>kernel_rfl
theorem bC8 (e2:o5):(ap1 e2).m=Pv.ap1 e2:=by
 simp only[ap1,Pv.ap1,C.of,M.run,dh5,ay2,aQ7,di6]<;>kernel_rfl
theorem cD1 (t2:Int):(av4 t2).m=Pv.av4 t2:=by
 simp only[av4,Pv.av4,C.of,M.run]<;>kernel_rfl
theorem bs7 (c:E3):(aj2 c).m=Pv.aj2 c:=by
 simp only[aj2,Pv.aj2,C.of,M.run,cD1]<;>kernel_rfl
theorem bo1 (s:List j9)(f2:Cl Tryz.prog j9 Bool (fun x=>[ba5 x]) (fun r=>.t (tB r))):(R4 s f2).m=Pv.R4 s (fun x0=>f2.f x0):=by
 delta Pv.R4 Pv.V7
 simp only[R4,V7,C.of,M.run,L1.m,Cl.at,bO2,K7,M4]<;>kernel_rfl
theorem aH7 (s:List j9)(f2:Cl Tryz.prog j9 Bool (fun x=>[ba5 x]) (fun r=>.t (tB r))):(G5 s f2).m=Pv.G5 s (fun x0=>f2.f x0):=by
 simp only[G5,Pv.G5,C.of,M.run,bo1]<;>kernel_rfl
theorem ct2 (c:j9)(c2:u9):(ap2 c c2).m=Pv.ap2 c c2:=by
 simp only[ap2,Pv.ap2,C.of,M.run]<;>kernel_rfl
theorem bt5 (t2:u9):(ao1 t2).m=Pv.ao1 t2:=by
 simp only[ao1,Pv.ao1,C.of,M.run,Cl.of,aH7,ct2]<;>kernel_rfl
theorem bC7 (x low high:Int):(M6 x low high).m=Pv.M6 x low high:=by
 simp only[M6,Pv.M6,C.of,M.run]<;>kernel_rfl
theorem bp3 (e2:o5)(f2:A2):(X6 e2 f2).m=Pv.X6 e2 f2:=by
 simp only[X6,Pv.X6,C.of,M.run,ay2,bC7,bb9]<;>kernel_rfl
theorem aV7 (s:List A2)(f2:Cl Tryz.prog A2 Bool (fun x=>[aP1 x]) (fun r=>.t (tB r))):(H4 s f2).m=Pv.H4 s (fun x0=>f2.f x0):=by
 delta Pv.H4 Pv.N7
 simp only[H4,N7,C.of,M.run,L1.m,Cl.at,bO2,K7,M4]<;>kernel_rfl
theorem aN3 (s:List A2)(f2:Cl Tryz.prog A2 Bool (fun x=>[aP1 x]) (fun r=>.t (tB r))):(E9 s f2).m=Pv.E9 s (fun x0=>f2.f x0):=by
 simp only[E9,Pv.E9,C.of,M.run,aV7]<;>kernel_rfl
theorem bQ2 (g c:A2):(ae7 g c).m=Pv.ae7 g c:=by
 simp only[ae7,Pv.ae7,C.of,M.run]<;>kernel_rfl
theorem bt0 (e2:o5)(l:List A2):(ab6 e2 l).m=Pv.ab6 e2 l:=by
 delta Pv.ab6 Pv.am5
 simp only[ab6,am5,C.of,M.run,L1.m,U1.m,Cl.of,bO2,K7,M4,bp3,bQ2,aN3]<;>kernel_rfl
theorem aG7 (s:List A6)(f2:Cl Tryz.prog A6 Bool (fun x=>[bd4 x]) (fun r=>.t (tB r))):(C2 s f2).m=Pv.C2 s (fun x0=>f2.f x0):=by
 delta Pv.C2 Pv.O9
 simp only[C2,O9,C.of,M.run,L1.m,Cl.at,bO2,K7,M4]<;>kernel_rfl
theorem bq1 (s:List A6)(f2:Cl Tryz.prog A6 Bool (fun x=>[bd4 x]) (fun r=>.t (tB r))):(O8 s f2).m=Pv.O8 s (fun x0=>f2.f x0):=by
 simp only[O8,Pv.O8,C.of,M.run,aG7]<;>kernel_rfl
set_option maxHeartbeats 1000000
theorem cs8 (s:j1)(j:A6):(aw2 s j).m=Pv.aw2 s j:=by
 simp only[aw2,Pv.aw2,C.of,M.run,bg,bga]<;>kernel_rfl
theorem bQ0 (j:A6)(c:j1):(Y3 j c).m=Pv.Y3 j c:=by
 simp only[Y3,Pv.Y3,C.of,M.run,cs8]<;>kernel_rfl
theorem az3 (x:B6):(H2 x).m=Pv.H2 x:=by
 simp only[H2,Pv.H2,C.of,M.run]<;>kernel_rfl
theorem bL7 (kind:Int):(ar4 kind).m=Pv.ar4 kind:=by
 simp only[ar4,Pv.ar4,C.of,M.run]<;>kernel_rfl
theorem cj6 (s:j1)(c:Int):(ar3 s c).m=Pv.ar3 s c:=by
 delta Pv.ar3 Pv.Y6
 simp only[ar3,Y6,C.of,M.run,L1.m,bg,bga,bgo,bO2,ad9,ar1,az3,bL7]<;>kernel_rfl
theorem au4 (s:j1):(J8 s).m=Pv.J8 s:=by
 delta Pv.J8 Pv.am4
 simp only[J8,am4,C.of,M.run,Cl.of,bg,bgo,bO2,K7,M4,bs7,ay2,bQ0,bt0,cj6,bq1,bt5]<;>kernel_rfl
theorem bg8 (s:List A2):(U0 s).m=Pv.U0 s:=by
 simp only[U0,Pv.U0,C.of,M.run,U1.m,fh5]<;>kernel_rfl
theorem bQ3 (s:List A6):(aj8 s).m=Pv.aj8 s:=by
 simp only[aj8,Pv.aj8,CG.of,M.run,U1.m,fh5]<;>kernel_rfl
theorem az0 (s:j1):(L3 s).m=Pv.L3 s:=by
 simp only[L3,Pv.L3,CG.of,M.run,bg8,bQ3]<;>kernel_rfl
theorem cj5 (s:j1)(l:List A2):(ar2 s l).m=Pv.ar2 s l:=by
 simp only[ar2,Pv.ar2,C.of,M.run,CG.f,au4,az0,bt0,bg8]<;>kernel_rfl
theorem bM7 (x:j9):(ag6 x).m=Pv.ag6 x:=by
 simp only[ag6,Pv.ag6,C.of,M.run]<;>kernel_rfl
theorem bX4 (s:j1):(ad0 s).m=Pv.ad0 s:=by
 simp only[ad0,Pv.ad0,C.of,M.run,Cl.of,CG.f,bM7,au4,az0,aH7]<;>kernel_rfl
theorem be2 (t2:u9)(channel:Int):(ah1 t2 channel).m=Pv.ah1 t2 channel:=by
 simp only[ah1,Pv.ah1,CG.of,M.run,U1.m,bso,bt5]<;>kernel_rfl
theorem cL5 (t2:u9)(channel:Int)(level:Bool):(aG5 t2 channel level).m=Pv.aG5 t2 channel level:=by
 simp only[aG5,Pv.aG5,C.of,M.run,L1.m,U1.m,bso,be2]<;>kernel_rfl
theorem cE4 (t2:u9)(channel:Int):(az7 t2 channel).m=Pv.az7 t2 channel:=by
 simp only[az7,Pv.az7,C.of,M.run,L1.m,U1.m,be2]<;>kernel_rfl
theorem cb8 (j:A6)(c:Int):(at4 j c).m=Pv.at4 j c:=by
 simp only[at4,Pv.at4,C.of,M.run,az3]<;>kernel_rfl
theorem cj8 (t2:u9)(channel aZ2:Int)(level:Bool):(aJ8 t2 channel aZ2 level).m=Pv.aJ8 t2 channel aZ2 level:=by
 simp only[aJ8,Pv.aJ8,C.of,M.run,L1.m,U1.m,be2]<;>kernel_rfl
theorem cs7 (s:j1):(ap0 s).m=Pv.ap0 s:=by
 delta Pv.ap0 Pv.ac9
 simp only[ap0,ac9,C.of,M.run,L1.m,U1.m,Cl.of,CG.f,bg,bga,bO2,K7,M4,elE,cb8,au4,az0,aG7,cj8,cE4,cL5]<;>kernel_rfl
theorem cc0 (j:A6)(c:Int):(V5 j c).m=Pv.V5 j c:=by
 simp only[V5,Pv.V5,C.of,M.run,az3]<;>kernel_rfl
theorem cE1 (a b2:Int):(az6 a b2).m=Pv.az6 a b2:=by
 simp only[az6,Pv.az6,C.of,M.run,L1.m]<;>kernel_rfl
theorem bC9 (s:j1):(ak9 s).m=Pv.ak9 s:=by
 delta Pv.ak9 Pv.V6
 simp only[ak9,V6,CG.of,M.run,L1.m,U1.m,Cl.of,bso,bO2,K7,M4,elE,cc0,bL7,cE1,aG7,cj8]<;>kernel_rfl
theorem cW6 (t2:u9):(aM9 t2).m=Pv.aM9 t2:=by
 delta Pv.aM9 Pv.aH4
 simp only[aM9,aH4,C.of,M.run,bg,bga,ad9,ar1,elE,bt5]<;>kernel_rfl
theorem bt2 (s:List j6)(f:Cl Tryz.prog (j6×j6) Int (fun x=>[aj9 x.1,aj9 x.2]) (fun r=>.t (tI r))):(Y1 s f).m=Pv.Y1 s (fun x0 x1=>f.f (x0,x1)):=rfl
theorem ba7 (x y:Int):(F6 x y).m=Pv.F6 x y:=by
 simp only[F6,Pv.F6,C.of,M.run,bC5]<;>kernel_rfl
theorem bz7 (bx5:List Int):(af8 bx5).m=Pv.af8 bx5:=by
 delta Pv.af8 Pv.ao8
 simp only[af8,ao8,C.of,M.run,ad9,ar1]<;>kernel_rfl
theorem cc5 (a b2:j6):(X3 a b2).m=Pv.X3 a b2:=by
 simp only[X3,Pv.X3,C.of,M.run,ba7,bz7]<;>kernel_rfl
theorem ct1 (t2:u9)(L9:Int):(al0 t2 L9).m=Pv.al0 t2 L9:=by
 delta Pv.al0 Pv.av0
 simp only[al0,av0,C.of,M.run,L1.m,U1.m,Cl.of,bO2,K7,M4,elE,bt2,cc5,be2]<;>kernel_rfl
theorem bw7 (s:List A6)(del:Cl Tryz.prog A6 Bool (fun x=>[bd4 x]) (fun r=>.t (tB r))):(K8 s del).m=Pv.K8 s (fun x0=>del.f x0):=rfl
theorem bX5 (j:A6)(c:Int):(an8 j c).m=Pv.an8 j c:=by
 simp only[an8,Pv.an8,C.of,M.run]<;>kernel_rfl
theorem by3 (s:j1)(L9:Int):(ab7 s L9).m=Pv.ab7 s L9:=by
 delta Pv.ab7 Pv.Y5
 simp only[ab7,Y5,CG.of,M.run,U1.m,Cl.of,bso,bO2,elE,bC9,bX5,bw7,ct1,cW6]<;>kernel_rfl
theorem bl9 (s:j1)(L9:Int):(T6 s L9).m=Pv.T6 s L9:=by
 simp only[T6,Pv.T6,C.of,M.run,au4,az0,by3]<;>kernel_rfl
theorem ci3 (a b2:Int):(ac4 a b2).m=Pv.ac4 a b2:=by
 simp only[ac4,Pv.ac4,C.of,M.run,L1.m]<;>kernel_rfl
theorem ba8 (aP0 L9:Int):(Q9 aP0 L9).m=Pv.Q9 aP0 L9:=by
 simp only[Q9,Pv.Q9,C.of,M.run,ci3,bL5]<;>kernel_rfl
theorem cJ9 (c:E3):(aK5 c).m=Pv.aK5 c:=by
 simp only[aK5,Pv.aK5,C.of,M.run,bs7]<;>kernel_rfl
theorem dq2 (a b2:Int):(bl7 a b2).m=Pv.bl7 a b2:=by
 simp only[bl7,Pv.bl7,C.of,M.run,bp8]<;>kernel_rfl
theorem cJ8 (c:E3)(bU5:Int):(aE7 c bU5).m=Pv.aE7 c bU5:=by
 simp only[aE7,Pv.aE7,C.of,M.run,cJ9,dq2]<;>kernel_rfl
theorem bC6 (e2:o5)(aC4:Int):(ak7 e2 aC4).m=Pv.ak7 e2 aC4:=by
 simp only[ak7,Pv.ak7,C.of,M.run,L1.m,bm0]<;>kernel_rfl
theorem cr9 (e2:o5)(aC4:Int):(av9 e2 aC4).m=Pv.av9 e2 aC4:=by
 simp only[av9,Pv.av9,C.of,M.run,ay2,bC6]<;>kernel_rfl
theorem bQ1 (f2:A2)(c:Int):(Y4 f2 c).m=Pv.Y4 f2 c:=by
 simp only[Y4,Pv.Y4,C.of,M.run]<;>kernel_rfl
theorem cs0 (f2:A2)(c:o5):(ao9 f2 c).m=Pv.ao9 f2 c:=by
 simp only[ao9,Pv.ao9,C.of,M.run,bp3]<;>kernel_rfl
theorem cs1 (g c:A2):(aw0 g c).m=Pv.aw0 g c:=by
 simp only[aw0,Pv.aw0,C.of,M.run]<;>kernel_rfl
theorem cs2 (aZ2 kind bS4:Int)(c:List B6)(c2:A2):(O6 aZ2 kind bS4 c c2).m=Pv.O6 aZ2 kind bS4 c c2:=by
 simp only[O6,Pv.O6,CG.of,M.run,U1.m,bso,bO2,ci3]<;>kernel_rfl
theorem cs3 (d c:Int):(K3 d c).m=Pv.K3 d c:=by
 simp only[K3,Pv.K3,C.of,M.run,L1.m]<;>kernel_rfl
theorem cs4 (f2:A2):(ak6 f2).m=Pv.ak6 f2:=by
 simp only[ak6,Pv.ak6,C.of,M.run]<;>kernel_rfl
theorem bx0 (s:List B6)(f:Cl Tryz.prog (B6×B6) Int (fun x=>[aX1 x.1,aX1 x.2]) (fun r=>.t (tI r))):(aa7 s f).m=Pv.aa7 s (fun x0 x1=>f.f (x0,x1)):=rfl
set_option maxHeartbeats 1000000
theorem cD6 (a b2:B6):(al4 a b2).m=Pv.al4 a b2:=by
 simp only[al4,Pv.al4,C.of,M.run,ba7,bz7]<;>kernel_rfl
theorem cK1 (e2:o5)(l:List A2)(M5:Int):(aF0 e2 l M5).m=Pv.aF0 e2 l M5:=by
 delta Pv.aF0 Pv.aC6 Pv.aw9
 simp only[aF0,aC6,aw9,C.of,M.run,L1.m,U1.m,Cl.of,bso,bO2,ad9,K7,ar1,M4,cs0,cs1,cs2,cs3,cs4,ay2,bC6,cD6,bC7,aN3,bx0]<;>kernel_rfl
theorem aE3 (data:List c8)(a b2:Int)(cmp:Cl Tryz.prog (c8×c8) Int (fun x=>[A7 x.1,A7 x.2]) (fun r=>.t (tI r))):(B0 data a b2 cmp).m=Pv.B0 data a b2 (fun x0 x1=>cmp.f (x0,x1)):=by
 delta Pv.B0 Pv.C0 Pv.B2
 simp only[B0,C0,B2,CG.of,M.run,L1.m,U1.m,Cl.at,bso,bO2,elE]<;>kernel_rfl
theorem aK1 (data:List c8)(a m2 b2:Int)(cmp:Cl Tryz.prog (c8×c8) Int (fun x=>[A7 x.1,A7 x.2]) (fun r=>.t (tI r))):(I0 data a m2 b2 cmp).m=Pv.I0 64 data a m2 b2 (fun x0 x1=>cmp.f (x0,x1)):=rfl
theorem aN5 (data:List c8)(n2:Int)(cmp:Cl Tryz.prog (c8×c8) Int (fun x=>[A7 x.1,A7 x.2]) (fun r=>.t (tI r))):(H0 data n2 cmp).m=Pv.H0 data n2 (fun x0 x1=>cmp.f (x0,x1)):=by
 delta Pv.H0 Pv.J9 Pv.N2 Pv.K0
 simp only[H0,J9,N2,K0,CG.of,M.run,elE,aE3,aK1]<;>kernel_rfl
theorem aK0 (x:List c8)(cmp:Cl Tryz.prog (c8×c8) Int (fun x=>[A7 x.1,A7 x.2]) (fun r=>.t (tI r))):(D0 x cmp).m=Pv.D0 x (fun x0 x1=>cmp.f (x0,x1)):=by
 simp only[D0,Pv.D0,CG.of,M.run,aN5]<;>kernel_rfl
theorem bX6 (a b2:c8):(ad1 a b2).m=Pv.ad1 a b2:=by
 simp only[ad1,Pv.ad1,C.of,M.run,ba7,bz7,az3]<;>kernel_rfl
theorem cj7 (e2:o5)(f2:A2)(begin M5:Int):(ar5 e2 f2 begin M5).m=Pv.ar5 e2 f2 begin M5:=by
 delta Pv.ar5 Pv.aj7 Pv.V9 Pv.T7
 simp only[ar5,aj7,V9,T7,C.of,M.run,L1.m,U1.m,Cl.of,bso,bO2,ad9,ar1,elE,ba8,cK1,bX6,aK0]<;>kernel_rfl
theorem cc1 (s:j1):(ah7 s).m=Pv.ah7 s:=by
 delta Pv.ah7 Pv.ag8 Pv.ag7
 simp only[ah7,ag8,ag7,CG.of,M.run,L1.m,U1.m,Cl.of,bso,bO2,ad9,ar1,elE,cJ8,cr9,ba8,bQ1,cj7,aV7]<;>kernel_rfl
theorem cb9 (s:j1)(c:E3):(al9 s c).m=Pv.al9 s c:=by
 delta Pv.al9 Pv.aa5
 simp only[al9,aa5,C.of,M.run,L1.m,U1.m,bso,bO2,K7,M4,elE,bs7,ba8,au4,bC9,cc1,az0,by3]<;>kernel_rfl
theorem bq2 (s:List w9)(f2:Cl Tryz.prog w9 Bool (fun x=>[aO2 x]) (fun r=>.t (tB r))):(S9 s f2).m=Pv.S9 s (fun x0=>f2.f x0):=by
 delta Pv.S9 Pv.W5
 simp only[S9,W5,C.of,M.run,L1.m,Cl.at,bO2,K7,M4]<;>kernel_rfl
theorem aI7 (s:List w9)(f2:Cl Tryz.prog w9 Bool (fun x=>[aO2 x]) (fun r=>.t (tB r))):(I3 s f2).m=Pv.I3 s (fun x0=>f2.f x0):=by
 simp only[I3,Pv.I3,C.of,M.run,bq2]<;>kernel_rfl
theorem aZ4 (x low high:Int):(D6 x low high).m=Pv.D6 x low high:=by
 simp only[D6,Pv.D6,C.of,M.run]<;>kernel_rfl
theorem bP0 (c:w9):(ae2 c).m=Pv.ae2 c:=by
 simp only[ae2,Pv.ae2,C.of,M.run,aZ4]<;>kernel_rfl
theorem bP3 (c:w9):(an6 c).m=Pv.an6 c:=by
 simp only[an6,Pv.an6,C.of,M.run,bP0]<;>kernel_rfl
theorem bP1 (l:List w9):(an5 l).m=Pv.an5 l:=by
 delta Pv.an5 Pv.aC9
 simp only[an5,aC9,C.of,M.run,ad9,ar1]<;>kernel_rfl
theorem bD0 (s:List w9):(Z8 s).m=Pv.Z8 s:=by
 simp only[Z8,Pv.Z8,C.of,M.run,U1.m,fh5]<;>kernel_rfl
theorem bp9 (l:List w9):(aB2 l).m=Pv.aB2 l:=by
 simp only[aB2,Pv.aB2,C.of,M.run,Cl.of,bP1,bP3,bD0,aI7]<;>kernel_rfl
theorem cK5 (x:Int):(aR4 x).m=Pv.aR4 x:=by
 simp only[aR4,Pv.aR4,C.of,M.run,aZ4]<;>kernel_rfl
theorem cs5 (x:Int):(aA1 x).m=Pv.aA1 x:=by
 simp only[aA1,Pv.aA1,C.of,M.run,cK5]<;>kernel_rfl
theorem bP2 (c:w9)(l:List Int):(as8 c l).m=Pv.as8 c l:=by
 simp only[as8,Pv.as8,C.of,M.run,Cl.of,cs5,J7]<;>kernel_rfl
theorem ci6 (f2:A1)(bits:Int):(X7 f2 bits).m=Pv.X7 f2 bits:=by
 simp only[X7,Pv.X7,C.of,M.run]<;>kernel_rfl
theorem cK3 (f2:A1):(aK8 f2).m=Pv.aK8 f2:=by
 simp only[aK8,Pv.aK8,C.of,M.run]<;>kernel_rfl
theorem cK4 (c:w9)(f2:A1)(E5:Int):(aF2 c f2 E5).m=Pv.aF2 c f2 E5:=by
 simp only[aF2,Pv.aF2,C.of,M.run,bP2,ci6,cK3,aZ4]<;>kernel_rfl
theorem be1 (f2:B7):(Z6 f2).m=Pv.Z6 f2:=by
 delta Pv.Z6 Pv.aC8
 simp only[Z6,aC8,C.of,M.run,L1.m,Cl.of,bg,bgo,bO2,K7,M4,bP1,cK4,aZ4,bP3,aI7]<;>kernel_rfl
theorem bH7 (s:List A1):(ad5 s).m=Pv.ad5 s:=by
 simp only[ad5,Pv.ad5,CG.of,M.run,U1.m,fh5]<;>kernel_rfl
theorem bL6 (f2:B7):(al5 f2).m=Pv.al5 f2:=by
 delta Pv.al5 Pv.ay4
 simp only[al5,ay4,CG.of,M.run,L1.m,U1.m,bso,bO2,K7,M4,elE,bH7,aQ7]<;>kernel_rfl
theorem bO9 (f2:B7):(ax0 f2).m=Pv.ax0 f2:=by
 delta Pv.ax0 Pv.aC7
 simp only[ax0,aC7,C.of,M.run,L1.m,U1.m,bso,bO2,K7,M4,elE,be1,bL6]<;>kernel_rfl
theorem cK2 (l:List A1)(i:Int)(c:w9)(E5:Int)(frame:List Int):(aF1 l i c E5 frame).m=Pv.aF1 l i c E5 frame:=by
 simp only[aF1,Pv.aF1,CG.of,M.run,U1.m,ci6,aQ7]<;>kernel_rfl
theorem cD7 (f2:B7)(i:Int)(bad:Bool)(l:List Int):(aq4 f2 i bad l).m=Pv.aq4 f2 i bad l:=by
 simp only[aq4,Pv.aq4,C.of,M.run,L1.m,U1.m,bso,bO2,be1,bL6,cK2,bP2]
 refine da0 fun v _=>dM4 rfl (dM4 rfl (dM4 rfl (da0 fun x _=>da0 fun v2 _=>dM4 rfl (da0 fun v3 _=>da0 fun y hy=>da0 fun f3 _=>?_))))
 simp only[hy,bso]
theorem by2 (x low high:Int):(N0 x low high).m=Pv.N0 x low high:=by
 simp only[N0,Pv.N0,C.of,M.run]<;>kernel_rfl
theorem bH6 (r2:j2):(U8 r2).m=Pv.U8 r2:=by
 simp only[U8,Pv.U8,C.of,M.run,bh3]<;>kernel_rfl
theorem cj2 (bn9:List Int)(x:Int):(ag4 bn9 x).m=Pv.ag4 bn9 x:=by
 delta Pv.ag4 Pv.ar0 Pv.ae5
 simp only[ag4,ar0,ae5,C.of,M.run,L1.m,bO2,K7,M4,elE]<;>kernel_rfl
theorem by1 (m2:SMap)(x y:Int):(X9 m2 x y).m=Pv.X9 m2 x y:=by
 simp only[X9,Pv.X9,C.of,M.run,L1.m,cj2]<;>kernel_rfl
theorem cj3 (r2:j2):(ax6 r2).m=Pv.ax6 r2:=by
 simp only[ax6,Pv.ax6,C.of,M.run]<;>kernel_rfl
theorem bP8 (t2:o7)(bf8 o8:Int)(l:List j2):(ae4 t2 bf8 o8 l).m=Pv.ae4 t2 bf8 o8 l:=by
 delta Pv.ae4 Pv.ag2 Pv.ag3
 simp only[ae4,ag2,ag3,C.of,M.run,Cl.of,bO2,ad9,ar1,elE,bH6,by1,cj3,by2,at7,am9]<;>kernel_rfl
theorem by0 (t2:o7)(o8 A0:Int)(l:List A2):(ax5 t2 o8 A0 l).m=Pv.ax5 t2 o8 A0 l:=by
 delta Pv.ax5 Pv.aq9
 simp only[ax5,aq9,C.of,M.run,L1.m,ad9,ar1,elE,by1,by2,am9]<;>kernel_rfl
theorem cK6 (t2:o7)(M5 B9:Int):(aA3 t2 M5 B9).m=Pv.aA3 t2 M5 B9:=by
 simp only[aA3,Pv.aA3,C.of,M.run,ci8]<;>kernel_rfl
end Go.Proofs.YtmhdghdbojdgfaaGreat
namespace Go.Pv
open Go
def ai6 {α:Type}(a:Int)(cmp:α->α->Option Int)(s2:Int×List α):Option ((Int×List α)⊕((Int×List α)⊕Empty)):=
 ai8 (bif (decide (s2.1>a))then(ai8 (D4 s2.2 s2.1) fun x=>ai8 (D4 s2.2 (j7 (s2.1-1))) fun x2=>ai8 (cmp x x2) fun v=>some (decide (v<0)))else(some false)) fun(v2:Bool)=>bif v2 then(ai8 (ai8 (D4 s2.2 (j7 (s2.1-1))) fun x3=>ai8 (D4 s2.2 s2.1) fun x4=>ai8 (an9 s2.2 s2.1 x3) fun l=>ai8 (D4 l (j7 (s2.1-1))) fun _=>ai8 (an9 l (j7 (s2.1-1)) x4) fun l2=>some l2) fun(f2:List α)=>some (.inl (j7 (s2.1-1),f2)))else(some (.inr (.inl (s2.1,s2.2))))
def Z9 {α:Type}(a:Int)(b2:Int)(cmp:α->α->Option Int)(s:Int×List α):Option ((Int×List α)⊕((Int×List α)⊕Empty)):=
 bif (decide (s.1<b2))then(ai8 (L7 (ai6 a cmp) (s.1,s.2)) fun(t:(Int×List α)⊕Empty)=>match t with| .inl s3=>(some (.inl (j7 (s.1+1),s3.2)))| .inr r=>r.elim)else(some (.inr (.inl (s.1,s.2))))
def ai1 {α:Type}(data:List α)(a:Int)(b2:Int)(cmp:α->α->Option Int):Option (List α):=
 ai8 (L7 (Z9 a b2 cmp) (j7 (a+1),data)) fun(t:(Int×List α)⊕Empty)=>match t with| .inl s4=>(some s4.2)| .inr r=>r.elim
def bN0 {α:Type}(a:Int)(b2:Int)(n2:Int)(s:Int×List α):Option ((Int×List α)⊕((Int×List α)⊕Empty)):=
 bif (decide (s.1<n2))then(ai8 (ai8 (D4 s.2 (j7 (b2+s.1))) fun x=>ai8 (D4 s.2 (j7 (a+s.1))) fun x2=>ai8 (an9 s.2 (j7 (a+s.1)) x) fun l=>ai8 (D4 l (j7 (b2+s.1))) fun _=>ai8 (an9 l (j7 (b2+s.1)) x2) fun l2=>some l2) fun(f2:List α)=>some (.inl (j7 (s.1+1),f2)))else(some (.inr (.inl (s.1,s.2))))
def bb2 {α:Type}(data:List α)(a:Int)(b2:Int)(n2:Int)(_:α->α->Option Int):Option (List α):=
 ai8 (L7 (bN0 a b2 n2) (0,data)) fun(t:(Int×List α)⊕Empty)=>match t with| .inl s2=>(some s2.2)| .inr r=>r.elim
def cd8 {α:Type}(m2:Int)(cmp:α->α->Option Int)(s:Int×Int×List α):Option ((Int×Int×List α)⊕((Int×Int×List α)⊕Empty)):=
 bif (s.1 !=s.2.1)then(bif (decide (s.1>s.2.1))then(ai8 (bb2 s.2.2 (j7 (m2-s.1)) m2 s.2.1 cmp) fun v=>some (.inl (j7 (s.1-s.2.1),s.2.1,v)))else(ai8 (bb2 s.2.2 (j7 (m2-s.1)) (j7 ((j7 (m2+s.2.1))-s.1)) s.1 cmp) fun v2=>some (.inl (s.1,j7 (s.2.1-s.1),v2))))else(some (.inr (.inl (s.1,s.2.1,s.2.2))))
def cE9 {α:Type}(data:List α)(a:Int)(m2:Int)(b2:Int)(cmp:α->α->Option Int):Option (List α):=
 ai8 (L7 (cd8 m2 cmp) (j7 (m2-a),j7 (b2-m2),data)) fun(t:(Int×Int×List α)⊕Empty)=>match t with| .inl s2=>(ai8 (bb2 s2.2.2 (j7 (m2-s2.1)) m2 s2.1 cmp) fun v3=>some v3)| .inr r=>r.elim
def bR2 {α:Type}(data:List α)(a:Int)(cmp:α->α->Option Int)(s:Int×Int):Option ((Int×Int)⊕((Int×Int)⊕Empty)):=
 bif (decide (s.1<s.2))then(ai8 (D4 data (j7 (F5 .u64 (aX8.wrap (j7 (s.1+s.2))) 1))) fun x=>ai8 (D4 data a) fun x2=>ai8 (cmp x x2) fun v=>bif (decide (v<0))then(some (.inl (j7 ((j7 (F5 .u64 (aX8.wrap (j7 (s.1+s.2))) 1))+1),s.2)))else(some (.inl (s.1,j7 (F5 .u64 (aX8.wrap (j7 (s.1+s.2))) 1)))))else(some (.inr (.inl (s.1,s.2))))
def bR3 {α:Type}(s2:Int×Int)(s3:Int×List α):Option ((Int×List α)⊕((Int×List α)⊕Empty)):=
 bif (decide (s3.1<(j7 (s2.1-1))))then(ai8 (ai8 (D4 s3.2 (j7 (s3.1+1))) fun x3=>ai8 (D4 s3.2 s3.1) fun x4=>ai8 (an9 s3.2 s3.1 x3) fun l=>ai8 (D4 l (j7 (s3.1+1))) fun _=>ai8 (an9 l (j7 (s3.1+1)) x4) fun l2=>some l2) fun(f2:List α)=>some (.inl (j7 (s3.1+1),f2)))else(some (.inr (.inl (s3.1,s3.2))))
def bR4 {α:Type}(data:List α)(m2:Int)(cmp:α->α->Option Int)(s5:Int×Int):Option ((Int×Int)⊕((Int×Int)⊕Empty)):=
 bif (decide (s5.1<s5.2))then(ai8 (D4 data m2) fun x6=>ai8 (D4 data (j7 (F5 .u64 (aX8.wrap (j7 (s5.1+s5.2))) 1))) fun x7=>ai8 (cmp x6 x7) fun v2=>bif (!(decide (v2<0)))then(some (.inl (j7 ((j7 (F5 .u64 (aX8.wrap (j7 (s5.1+s5.2))) 1))+1),s5.2)))else(some (.inl (s5.1,j7 (F5 .u64 (aX8.wrap (j7 (s5.1+s5.2))) 1)))))else(some (.inr (.inl (s5.1,s5.2))))
def bR5 {α:Type}(s6:Int×Int)(s7:Int×List α):Option ((Int×List α)⊕((Int×List α)⊕Empty)):=
 bif (decide (s7.1>s6.1))then(ai8 (ai8 (D4 s7.2 (j7 (s7.1-1))) fun x8=>ai8 (D4 s7.2 s7.1) fun x9=>ai8 (an9 s7.2 s7.1 x8) fun l3=>ai8 (D4 l3 (j7 (s7.1-1))) fun _=>ai8 (an9 l3 (j7 (s7.1-1)) x9) fun l4=>some l4) fun(f3:List α)=>some (.inl (j7 (s7.1-1),f3)))else(some (.inr (.inl (s7.1,s7.2))))
def bR6 {α:Type}(data:List α)(a:Int)(m2:Int)(b2:Int)(cmp:α->α->Option Int)(s10:Int×Int):Option ((Int×Int)⊕((Int×Int)⊕Empty)):=
 bif (decide (s10.1<s10.2))then(ai8 (D4 data (j7 ((j7 ((j7 ((j7 (F5 .u64 (aX8.wrap (j7 (a+b2))) 1))+m2))-1))-(j7 (F5 .u64 (aX8.wrap (j7 (s10.1+s10.2))) 1))))) fun x11=>ai8 (D4 data (j7 (F5 .u64 (aX8.wrap (j7 (s10.1+s10.2))) 1))) fun x12=>ai8 (cmp x11 x12) fun v3=>bif (!(decide (v3<0)))then(some (.inl (j7 ((j7 (F5 .u64 (aX8.wrap (j7 (s10.1+s10.2))) 1))+1),s10.2)))else(some (.inl (s10.1,j7 (F5 .u64 (aX8.wrap (j7 (s10.1+s10.2))) 1)))))else(some (.inr (.inl (s10.1,s10.2))))
def bX9 {α:Type}(rc:List α->Int->Int->Int->(α->α->Option Int)->Option (List α))(data:List α)(a:Int)(m2:Int)(b2:Int)(cmp:α->α->Option Int):Option (List α):=
 bif ((j7 (m2-a))==1)then(ai8 (L7 (bR2 data a cmp) (m2,b2)) fun(t:(Int×Int)⊕Empty)=>match t with| .inl s2=>(ai8 (L7 (bR3 s2) (a,data)) fun(t:(Int×List α)⊕Empty)=>match t with| .inl s4=>(some s4.2)| .inr r=>r.elim)| .inr r=>r.elim)else(bif ((j7 (b2-m2))==1)then(ai8 (L7 (bR4 data m2 cmp) (a,m2)) fun(t:(Int×Int)⊕Empty)=>match t with| .inl s6=>(ai8 (L7 (bR5 s6) (m2,data)) fun(t:(Int×List α)⊕Empty)=>match t with| .inl s8=>(some s8.2)| .inr r=>r.elim)| .inr r=>r.elim)else(ai8 (bif (decide (m2>(j7 (F5 .u64 (aX8.wrap (j7 (a+b2))) 1))))then(some (j7 ((j7 ((j7 (F5 .u64 (aX8.wrap (j7 (a+b2))) 1))+m2))-b2),j7 (F5 .u64 (aX8.wrap (j7 (a+b2))) 1)))else(some (a,m2))) fun(s9:Int×Int)=>ai8 (L7 (bR6 data a m2 b2 cmp) (s9.1,s9.2)) fun(t:(Int×Int)⊕Empty)=>match t with| .inl s11=>(ai8 (bif ((decide (s11.1<m2))&&(decide (m2<(j7 ((j7 ((j7 (F5 .u64 (aX8.wrap (j7 (a+b2))) 1))+m2))-s11.1)))))then(ai8 (cE9 data s11.1 m2 (j7 ((j7 ((j7 (F5 .u64 (aX8.wrap (j7 (a+b2))) 1))+m2))-s11.1)) cmp) fun v4=>some v4)else(some data)) fun(f4:List α)=>ai8 (bif ((decide (a<s11.1))&&(decide (s11.1<(j7 (F5 .u64 (aX8.wrap (j7 (a+b2))) 1)))))then(ai8 (rc f4 a s11.1 (j7 (F5 .u64 (aX8.wrap (j7 (a+b2))) 1)) cmp) fun v5=>some v5)else(some f4)) fun(f5:List α)=>bif ((decide ((j7 (F5 .u64 (aX8.wrap (j7 (a+b2))) 1))<(j7 ((j7 ((j7 (F5 .u64 (aX8.wrap (j7 (a+b2))) 1))+m2))-s11.1))))&&(decide ((j7 ((j7 ((j7 (F5 .u64 (aX8.wrap (j7 (a+b2))) 1))+m2))-s11.1))<b2)))then(ai8 (rc f5 (j7 (F5 .u64 (aX8.wrap (j7 (a+b2))) 1)) (j7 ((j7 ((j7 (F5 .u64 (aX8.wrap (j7 (a+b2))) 1))+m2))-s11.1)) b2 cmp) fun v6=>some v6)else(some f5))| .inr r=>r.elim))
def bf1 {α:Type}:Nat->List α->Int->Int->Int->(α->α->Option Int)->Option (List α)
 |0=>fun _ _ _ _ _=>none
 |fu+1=>bX9 (bf1 fu)
def bb0 {α:Type}(n2:Int)(cmp:α->α->Option Int)(s:Int×Int×List α):Option ((Int×Int×List α)⊕((Int×Int×List α)⊕Empty)):=
 bif (decide (s.2.1<=n2))then(ai8 (ai1 s.2.2 s.1 s.2.1 cmp) fun v=>some (.inl (s.2.1,j7 (s.2.1+20),v)))else(some (.inr (.inl (s.1,s.2.1,s.2.2))))
def cd9 {α:Type}(n2:Int)(cmp:α->α->Option Int)(s3:Int×List α)(s4:Int×Int×List α):Option ((Int×Int×List α)⊕((Int×Int×List α)⊕Empty)):=
 bif (decide (s4.2.1<=n2))then(ai8 (bf1 64 s4.2.2 s4.1 (j7 (s4.1+s3.1)) s4.2.1 cmp) fun v3=>some (.inl (s4.2.1,j7 (s4.2.1+(j7 (2*s3.1))),v3)))else(some (.inr (.inl (s4.1,s4.2.1,s4.2.2))))
def bb1 {α:Type}(n2:Int)(cmp:α->α->Option Int)(s3:Int×List α):Option ((Int×List α)⊕((Int×List α)⊕Empty)):=
 bif (decide (s3.1<n2))then(ai8 (L7 (cd9 n2 cmp s3) (0,j7 (2*s3.1),s3.2)) fun(t:(Int×Int×List α)⊕Empty)=>match t with| .inl s5=>(bif (decide ((j7 (s5.1+s3.1))<n2))then(ai8 (bf1 64 s5.2.2 s5.1 (j7 (s5.1+s3.1)) n2 cmp) fun v4=>some (.inl (j7 (s3.1*2),v4)))else(some (.inl (j7 (s3.1*2),s5.2.2))))| .inr r=>r.elim)else(some (.inr (.inl (s3.1,s3.2))))
def bo6 {α:Type}(data:List α)(n2:Int)(cmp:α->α->Option Int):Option (List α):=
 ai8 (L7 (bb0 n2 cmp) (0,20,data)) fun(t:(Int×Int×List α)⊕Empty)=>match t with| .inl s2=>(ai8 (ai1 s2.2.2 s2.1 n2 cmp) fun v2=>ai8 (L7 (bb1 n2 cmp) (20,v2)) fun(t:(Int×List α)⊕Empty)=>match t with| .inl s6=>(some s6.2)| .inr r=>r.elim)| .inr r=>r.elim
def aU3 {α:Type}(x:List α)(cmp:α->α->Option Int):Option (List α):=
 ai8 (bo6 x (x.length:Int) cmp) fun v=>some v
section
variable {α β:Type}
theorem bR7 (P:List α)(x:α)(R:List α){i:Int}(h:i=(P.length:Int)):D4 (P++x::R) i=some x:=by
 subst h;rw[T8,List.getElem?_append_right (cv6 _),Nat.sub_self];rfl
theorem dz0 (P:List α)(x y:α)(R:List α){i:Int}(h:i=(P.length:Int)):an9 (P++x::R) i y=some (P++y::R):=by
 subst h;rw[T9 _ _ _ (by simp),List.set_append_right _ _ (cv6 _),Nat.sub_self];rfl
theorem fc1 (P:List α)(x y:α)(Q:List α){i j:Int}(hi:i=(P.length:Int))(hj:j=(P.length:Int)+1)(k:List α->Option β):
  (ai8 (ai8 (D4 (P++x::y::Q) i) fun u=>ai8 (D4 (P++x::y::Q) j) fun v=>ai8 (an9 (P++x::y::Q) j u) fun l=>ai8 (D4 l i) fun _=>ai8 (an9 l i v) fun l2=>some l2) k)=k (P++y::x::Q):=by
 have e:∀z w:α,P++z::w::Q=(P++[z])++w::Q:=fun z w=>by simp
 have hj2:∀z:α,j=((P++[z]).length:Int):=fun z=>by rw[ba3,co8];omega
 have g1:D4 (P++x::y::Q) j=some y:=by rw[e];exact bR7 _ _ _ (hj2 x)
 have s1:an9 (P++x::y::Q) j x=some (P++x::x::Q):=by rw[e,e];exact dz0 _ _ _ _ (hj2 x)
 rw[bR7 _ _ _ hi,as5,g1,as5,s1,as5,bR7 _ _ _ hi,as5,dz0 _ _ _ _ hi]
 rfl
end
section
variable {α:Type} {D:α -> Prop} {g:α -> α -> Option Int}
structure SW (D:α->Prop)(g:α->α->Option Int):Prop where
 ans:∀x y,D x->D y->∃c,g x y=some c
 asym:∀x y,D x->D y->ltM g x y=true->ltM g y x=false
 ntrans:∀x y z,D x->D y->D z->ltM g x y=false->ltM g y z=false->ltM g x z=false
theorem SW.cmp (h:SW D g){x y:α}(hx:D x)(hy:D y):∃c,g x y=some c/\decide (c<0)=ltM g x y:=by
 obtain⟨c,hc⟩:=h.ans x y hx hy
 exact⟨c,hc,by unfold ltM;rw[hc];rfl⟩
abbrev bM3 (D:α->Prop)(l:List α):Prop:=∀x∈l,D x
def eqv (g:α->α->Option Int)(x y:α):Bool:=!ltM g x y&& !ltM g y x
structure Sta (D:α->Prop)(g:α->α->Option Int)(l r:List α):Prop where
 perm:r.Perm l
 same:∀x,D x->r.filter (eqv g x)=l.filter (eqv g x)
abbrev Srt (g:α->α->Option Int)(l:List α):Prop:=l.Pairwise fun x y=>ltM g y x=false
theorem Sta.refl (l:List α):Sta D g l l:=⟨.refl _,fun _ _=>rfl⟩
theorem Sta.trans {l r s:List α}(h:Sta D g l r)(k:Sta D g r s):Sta D g l s:=⟨k.perm.trans h.perm,fun x hx=>(k.same x hx).trans (h.same x hx)⟩
theorem Sta.app {A A' B B':List α}(h:Sta D g A A')(k:Sta D g B B'):Sta D g (A++B) (A'++B'):=
 ⟨h.perm.append k.perm,fun x hx=>by rw[dK2,dK2,h.same x hx,k.same x hx]⟩
theorem Sta.len {l r:List α}(h:Sta D g l r):r.length=l.length:=h.perm.length_eq
theorem Sta.all {l r:List α}(h:Sta D g l r)(hl:bM3 D l):bM3 D r:=fun x hx=>hl x (h.perm.mem_iff.1 hx)
theorem Sta.swap (hs:SW D g){A B:List α}(hA:bM3 D A)(hB:bM3 D B)(h:∀a∈A,∀b∈B,ltM g b a=true):Sta D g (A++B) (B++A):=by
 refine⟨List.perm_append_comm,fun x hx=>?_⟩
 rw[dK2,dK2]
 by_cases he:∃a∈A,eqv g x a=true
 ·obtain⟨a,ha,hxa⟩:=he
  have:B.filter (eqv g x)=[]:=by
   rw[eA8]
   intro b hb hxb
   unfold eqv at hxa hxb
   simp only[aI0,bY2]at hxa hxb
   have:=hs.ntrans b x a (hB b hb) hx (hA a ha) hxb.2 hxa.1
   rw[h a ha b hb]at this
   cases this
  rw[this,cV5,da6]
 ·have:A.filter (eqv g x)=[]:=by
   rw[eA8]
   intro a ha hxa
   exact he ⟨a,ha,hxa⟩
  rw[this,cV5,da6]
theorem Srt.app {A B:List α}(hA:Srt g A)(hB:Srt g B)(h:∀a∈A,∀b∈B,ltM g b a=false):Srt g (A++B):=eV2.2 ⟨hA,hB,h⟩
theorem SW.irr (hs:SW D g){x:α}(hx:D x):ltM g x x=false:=by
 cases h:ltM g x x
 ·rfl
 ·have:=hs.asym x x hx hx h;rw[h]at this;cases this
theorem dW8 (hs:SW D g)(a:Int):∀(n:Nat) (R1:List α),R1.length=n->∀(P:List α) (x:α) (R2 Q:List α),a=(P.length:Int)->bM3 D R1->D x->bM3 D R2->Srt g (R1++R2)->(∀r∈R2,ltM g x r=true)->P.length+R1.length<=1073741824->
  ∃(j:Int) (R':List α),L7 (ai6 a g) ((P.length:Int)+(R1.length:Int),P++(R1++x::(R2++Q)))=some (.inl (j,P++(R'++Q)))/\Srt g R'/\Sta D g (R1++x::R2) R':=by
 intro n
 induction n with
 |zero=>
  intro R1 h1 P x R2 Q ha _ hx hR2 hsrt hlt hN
  have:R1=[]:=List.length_eq_zero_iff.1 h1
  subst this
  refine⟨(P.length:Int)+((0:Nat):Int),x::R2,D9 ?_,?_,Sta.refl _⟩
  ·unfold ai6
   simp only[cI2]
   rw[show decide ((P.length:Int)+((0:Nat):Int)>a)=false from fi1 (by omega)]
   rfl
  ·rw[Srt,ex9]
   exact⟨fun r hr=>hs.asym x r hx (hR2 r hr) (hlt r hr),by simpa using hsrt⟩
 |succ n ih=>
  intro R1 h1 P x R2 Q ha hR1 hx hR2 hsrt hlt hN
  have hne:R1≠[]:=by intro h;subst h;simp at h1
  obtain⟨S,y,rfl⟩:∃S y,R1=S++[y]:=⟨R1.dropLast,R1.getLast hne,(List.dropLast_concat_getLast hne).symm⟩
  rw[ba3,co8]at h1 hN
  have hy:D y:=hR1 y (by simp)
  have hS:bM3 D S:=fun z hz=>hR1 z (by simp[hz])
  obtain⟨c,hc,hcl⟩:=hs.cmp hx hy
  have e1:P++(S++[y]++x::(R2++Q))=(P++S)++y::x::(R2++Q):=by simp
  have e2:P++(S++[y]++x::(R2++Q))=(P++S++[y])++x::(R2++Q):=by simp
  have hj:(P.length:Int)+(((S++[y]).length:Nat):Int)=(P.length:Int)+(S.length:Int)+1:=by rw[ba3,co8];omega
  have hb:ai6 a g ((P.length:Int)+(((S++[y]).length:Nat):Int),P++(S++[y]++x::(R2++Q)))=some (bif ltM g x y then .inl ((P.length:Int)+(S.length:Int),P++(S++x::(y::R2++Q)))else .inr (.inl ((P.length:Int)+(S.length:Int)+1,P++(S++[y]++x::(R2++Q))))):=by
   unfold ai6
   simp only
   rw[hj,j5 (n:=(P.length:Int)+(S.length:Int)+1-1) (by omega) (by omega),show(P.length:Int)+(S.length:Int)+1-1=(P.length:Int)+(S.length:Int) by omega]
   rw[show decide ((P.length:Int)+(S.length:Int)+1>a)=true from fi0 (by omega)]
   have g1:D4 (P++(S++[y]++x::(R2++Q))) ((P.length:Int)+(S.length:Int)+1)=some x:=by rw[e2];exact bR7 _ _ _ (by simp only[ba3,co8];omega)
   have g2:D4 (P++(S++[y]++x::(R2++Q))) ((P.length:Int)+(S.length:Int))=some y:=by rw[e1];exact bR7 _ _ _ (by simp only[ba3];omega)
   have sw:=fc1 (P++S) y x (R2++Q) (i:=(P.length:Int)+(S.length:Int)) (j:=(P.length:Int)+(S.length:Int)+1) (by simp only[ba3];omega) (by simp only[ba3];omega) (fun(f2:List α)=>some (Sum.inl ((P.length:Int)+(S.length:Int),f2):(Int×List α)⊕((Int×List α)⊕Empty)))
   rw[<-e1]at sw
   simp only[fh8]
   rw[sw,g1,as5,g2,as5,hc,as5,hcl,as5]
   cases ltM g x y
   ·rfl
   ·simp
  cases hxy:ltM g x y
  ·rw[hxy]at hb
   refine⟨(P.length:Int)+(S.length:Int)+1,S++[y]++x::R2,?_,?_,Sta.refl _⟩
   ·rw[D9 hb];simp
   ·have h2:=eV2.1 hsrt
    refine Srt.app h2.1 ?_ fun p hp q hq=>?_
    ·rw[Srt,ex9]
     exact⟨fun r hr=>hs.asym x r hx (hR2 r hr) (hlt r hr),h2.2.1⟩
    ·rcases bZ8.1 hq with rfl|hq
     ·rcases dn9.1 hp with hp|hp
      ·have h3:=(eV2.1 h2.1).2.2 p hp y (by simp)
       exact hs.ntrans q y p hx hy (hS p hp) hxy h3
      ·rw[List.mem_singleton]at hp;subst hp;exact hxy
     ·exact h2.2.2 p hp q hq
  ·rw[hxy]at hb
   rw[G8 hb]
   obtain⟨j,R',r1,r2,r3⟩:=ih S (by omega) P x (y::R2) Q ha hS hx (fun z hz=>by rcases bZ8.1 hz with rfl|hz;exact hy;exact hR2 z hz) (by simpa using hsrt) (fun r hr=>by
    rcases bZ8.1 hr with rfl|hr
    ·exact hxy
    ·exact hlt r hr) (by omega)
   refine⟨j,R',r1,r2,Sta.trans ?_ r3⟩
   have h4:Sta D g ([y]++[x]) ([x]++[y]):=Sta.swap hs (fun z hz=>by simp at hz;subst hz;exact hy) (fun z hz=>by simp at hz;subst hz;exact hx) (fun p hp q hq=>by simp at hp hq;subst hp;subst hq;exact hxy)
   have h5:=Sta.app (Sta.refl (D:=D) (g:=g) S) (Sta.app h4 (Sta.refl R2))
   simpa using h5
theorem dd3 (hs:SW D g)(a b:Int)(P Q:List α)(ha:a=(P.length:Int)):∀(T R:List α),b=(P.length:Int)+(R.length:Int)+(T.length:Int)->bM3 D R->bM3 D T->Srt g R->P.length+R.length+T.length<=1073741824->
  ∃R',L7 (Z9 a b g) ((P.length:Int)+(R.length:Int),P++(R++(T++Q)))=some (.inl (b,P++(R'++Q)))/\Srt g R'/\Sta D g (R++T) R'
 |[],R,hb,_,_,hR,_=>by
  refine⟨R,D9 ?_,hR,by rw[da6];exact Sta.refl _⟩
  unfold Z9
  simp only[cI2]at hb
  simp only
  rw[show decide ((P.length:Int)+(R.length:Int)<b)=false from fi1 (by omega),show(P.length:Int)+(R.length:Int)=b by omega]
  simp
 |x::T,R,hb,dR,dT,hR,hN=>by
  simp only[br6]at hb hN
  obtain⟨j,R1,r1,r2,r3⟩:=dW8 hs a R.length R rfl P x [] (T++Q) ha dR (dT x (bN7 ..)) (fun z hz=>by cases hz) (by rw[da6];exact hR) (fun z hz=>by cases hz) (by omega)
  have hl:R1.length=R.length+1:=by have:=r3.len;simpa using this
  obtain⟨R',s1,s2,s3⟩:=dd3 hs a b P Q ha T R1 (by omega) (r3.all (fun z hz=>by
   rcases dn9.1 hz with hz|hz
   ·exact dR z hz
   ·simp at hz;subst hz;exact dT z (by simp))) (fun z hz=>dT z (by simp[hz])) r2 (by omega)
  refine⟨R',?_,s2,Sta.trans ?_ s3⟩
  ·rw[<-s1]
   refine G8 ?_
   unfold Z9
   simp only
   rw[show decide ((P.length:Int)+(R.length:Int)<b)=true from fi0 (by omega),j5 (n:=(P.length:Int)+(R.length:Int)+1) (by omega) (by omega)]
   simp only[fh8]
   have e:P++(R++(x::T++Q))=P++(R++x::([]++(T++Q))):=by simp
   rw[e,r1]
   simp only[as5]
   rw[hl,show(P.length:Int)+((R.length+1:Nat):Int)=(P.length:Int)+(R.length:Int)+1 by omega]
  ·have:=Sta.app r3 (Sta.refl (D:=D) (g:=g) T)
   simpa using this
theorem dk6 (hs:SW D g)(P A Q:List α){a b:Int}(ha:a=(P.length:Int))(hb:b=(P.length:Int)+(A.length:Int))(dA:bM3 D A)(hN:P.length+A.length<=1073741824):
  ∃R,ai1 (P++(A++Q)) a b g=some (P++(R++Q))/\Srt g R/\Sta D g A R:=by
 unfold ai1
 rw[j5 (n:=a+1) (by omega) (by omega)]
 cases A with
 |nil=>
  refine⟨[],?_,.nil,Sta.refl _⟩
  simp only[cI2]at hb
  have:Z9 a b g (a+1,P++([]++Q))=some (.inr (.inl (a+1,P++([]++Q)))):=by
   unfold Z9
   simp only
   rw[show decide (a+1<b)=false from fi1 (by omega)]
   rfl
  rw[D9 this];rfl
 |cons x T=>
  simp only[br6]at hb hN
  obtain⟨R',s1,s2,s3⟩:=dd3 hs a b P Q ha T [x] (by simp only[co8];omega) (fun z hz=>by simp at hz;subst hz;exact dA z (by simp)) (fun z hz=>dA z (by simp[hz])) (by simp) (by simp only[co8];omega)
  refine⟨R',?_,s2,s3⟩
  simp only[co8]at s1
  rw[show a+1=(P.length:Int)+((1:Nat):Int) by omega]
  have e:P++(x::T++Q)=P++([x]++(T++Q)):=by simp
  rw[e,s1]
  rfl
end
section
variable {α:Type} {D:α -> Prop} {g:α -> α -> Option Int}
end
section
variable {α:Type} {D:α -> Prop} {g:α -> α -> Option Int}
end
section
variable {α:Type} {D:α -> Prop} {g:α -> α -> Option Int}
structure fj5 (D:α->Prop)(g:α->α->Option Int)(bs:Nat)(L:List α)(Bs:List (List α))(T:List α):Prop where
 eq:L=Bs.flatten++T
 blk:∀B∈Bs,B.length=bs/\Srt g B
 rest:T.length<bs
theorem bW4 (hs:SW D g)(l:List α)(dl:bM3 D l)(h19:l.length<=19):∃r,aU3 l g=some r/\Srt g r/\Sta D g l r:=by
 obtain⟨R,r1,r2,r3⟩:=dk6 hs [] l [] (a:=0) (b:=(l.length:Int)) rfl (by simp) dl (by simp;omega)
 simp only[da6,cV5]at r1
 unfold aU3 bo6
 have h1:decide ((20:Int)<=(l.length:Int))=false:=by simp;omega
 have h2:decide ((20:Int)<(l.length:Int))=false:=by simp;omega
 rw[D9 (b:=.inl (0,20,l)) (by unfold bb0;rw[h1];rfl)]
 simp only[as5]
 rw[r1]
 simp only[as5]
 rw[D9 (b:=.inl (20,R)) (by unfold bb1;rw[h2];rfl)]
 exact⟨R,rfl,r2,r3⟩
theorem dz5 (hs:SW D g):∀{r s:List α},bM3 D r->bM3 D s->Srt g r->Srt g s->(∀x,D x->r.filter (eqv g x)=s.filter (eqv g x))->r=s
 |[],[],_,_,_,_,_=>rfl
 |[],y::s,_,ds,_,_,h=>by
  have dy:=ds y (by simp)
  have:=h y dy
  rw[eK7,dY9 (by unfold eqv;rw[hs.irr dy];rfl)]at this
  cases this
 |x::r,[],dr,_,_,_,h=>by
  have dx:=dr x (by simp)
  have:=h x dx
  rw[eK7,dY9 (by unfold eqv;rw[hs.irr dx];rfl)]at this
  cases this
 |x::r,y::s,dr,ds,sr,ss,h=>by
  have dx:=dr x (by simp)
  have dy:=ds y (by simp)
  have exx:eqv g x x=true:=by unfold eqv;rw[hs.irr dx];rfl
  have eyy:eqv g y y=true:=by unfold eqv;rw[hs.irr dy];rfl
  rw[Srt,ex9]at sr ss
  have hx:=h x dx
  have hy:=h y dy
  have mx:x∈(y::s).filter (eqv g x):=by rw[<-hx,dY9 exx];exact bN7 ..
  have my:y∈(x::r).filter (eqv g y):=by rw[hy,dY9 eyy];exact bN7 ..
  have m1:=(dM6.1 mx).1
  have m2:=(dM6.1 my).1
  have exy:eqv g x y=true:=by
   have a1:ltM g x y=false:=by
    rcases bZ8.1 m1 with e|m1
    ·rw[e];exact hs.irr dy
    ·exact ss.1 x m1
   have a2:ltM g y x=false:=by
    rcases bZ8.1 m2 with e|m2
    ·rw[e];exact hs.irr dx
    ·exact sr.1 y m2
   unfold eqv;rw[a1,a2];rfl
  have hxy:x=y:=by
   rw[dY9 exx,dY9 exy]at hx
   exact(List.cons.inj hx).1
  subst hxy
  rw[dz5 hs (fun z hz=>dr z (by simp[hz])) (fun z hz=>ds z (by simp[hz])) sr.2 ss.2 fun z dz=>by
   have:=h z dz
   rw[ew4,ew4]at this
   split at this
   ·exact(List.cons.inj this).2
   ·exact this]
end
def elB (n:Int):Bool:=decide (n>= -1073741824)&&decide (n<=1073741824)
theorem cN1 (n:Int):ac1 n=some (elB n):=rfl
def axP (l:List Int)(i:Nat):Bool:=match l[i]?with
 |none=>false
 |some x=>elB x&&(i==0||(match l[i-1]?with|none=>false|some y=>decide (y<x)))
def axB (l:List Int):Bool:=!(decide ((l.length:Int)<2)||decide ((l.length:Int)>32))&&(ed3 0 l.length).all (axP l)
theorem ew9 (k:Nat)(h:k<1000000):j7 (((k+1:Nat):Int)-1)=(k:Int):=by rw[j5 (by omega) (by omega)];omega
theorem obs {α:Type}(o:Option α):(o.bind fun b=>some b)=o:=by cases o<;>rfl
theorem dU0 (l:List Int)(j:Nat)(hj:j<l.length)(hl:l.length<=32):
  (ai8 (D4 l j) fun x=>ai8 (ac1 x) fun v=>ai8 (bif (!v)then(some true)else(ai8 (bif (decide ((j:Int)>0))then(ai8 (D4 l (j7 (j-1))) fun x2=>some (decide (x<=x2)))else(some false)) fun b2=>some b2)) fun b3=>some b3)=some (!axP l j):=by
 rw[T8,aW9 hj]
 simp only[as5,cN1]
 unfold axP
 rw[aW9 hj]
 simp only
 cases elB l[j]
 ·rfl
 ·simp only[aX0,fh5,cL7]
  cases j with
  |zero=>rfl
  |succ k=>
   have e:decide (((k+1:Nat):Int)>0)=true:=by rw[fi2];omega
   have hk:k<l.length:=by omega
   rw[e,ew9 k (by omega),T8,aW9 hk]
   simp only[fh8,as5,fg7,aW9 hk,aH8]
   rw[dG9]
   simp
theorem dM2 (l:List Int):ar8 l=some (axB l):=by
 unfold ar8 axB
 cases h:(decide ((l.length:Int)<2)||decide ((l.length:Int)>32))
 ·have hl:l.length<=32:=by simp at h;omega
  have k:=bw2 (f:=ay7 l) (p:=axP l) (r:=false) l.length 0 (fun j _ hj=>by
   have s:=dU0 l j (by omega) hl
   unfold ay7
   rw[T8,aW9 (by omega)]at s|-
   simp only[as5,cN1]at s|-
   simp only[obs]at s|-
   rw[s]
   cases axP l j<;>rfl)
  rw[al8 _ (by omega)]
  rw[show((0:Nat):Int)=0 from rfl]at k
  rw[k]
  cases(ed3 0 l.length).all (axP l)<;>rfl
 ·rfl
theorem ed1 (z:Int):ah8 z=some (!elB z):=rfl
theorem contains_eq (l:List Int)(hn:l.length<=9223372036854775807):o6 l ah8=some (l.any fun z=>!elB z):=
 ai3 l hn ah8 _ (fun y _=>ed1 y)
def aI2 (m:SMap)(x:List Int):Bool:=!((x.length:Int) !=(m.Y.length:Int))&& !(x.any fun z=>!elB z)
def bo7 (m:SMap):Bool:=axB m.X&&axB m.Y&& !((m.Z.length:Int) !=(m.X.length:Int))&&m.Z.all (aI2 m)
theorem cG3 {l:List Int}(h:axB l=true):2<=l.length/\l.length<=32:=by
 unfold axB at h
 simp at h
 omega
theorem ao3 (m:SMap):J4 m=some (bo7 m):=by
 unfold J4 bo7
 rw[dM2,dM2]
 simp only[as5]
 cases h1:axB m.X
 ·rfl
 ·cases h2:axB m.Y
  ·rfl
  ·have l1:=cG3 h1
   have l2:=cG3 h2
   simp only[aX0,fh5,as5,ec9,eU9,cL7]
   cases h3:((m.Z.length:Int) !=(m.X.length:Int))
   ·have l3:m.Z.length=m.X.length:=by simp at h3;omega
    rw[K6 _ (by omega),bK9 (p:=aI2 m) (r:=false)]
    ·simp only[fh5,cI3,cL7,as5]
     cases m.Z.all (aI2 m)<;>rfl
    ·intro i y hy
     unfold aB7 aI2
     cases h4:((y.length:Int) !=(m.Y.length:Int))
     ·have l4:y.length=m.Y.length:=by simp at h4;omega
      rw[contains_eq y (by omega)]
      simp only[fh5,as5,cI3,cL7]
      cases(y.any fun z=>!elB z)<;>rfl
     ·rfl
   ·rfl
structure bz5 (l:List Int):Prop where
 two:2<=l.length
 most:l.length<=32
 el:∀i (h:i<l.length),-1073741824<=l[i]/\l[i]<=1073741824
 asc:∀i (h:i+1<l.length),l[i]<l[i+1]
theorem cG4 {l:List Int}(h:axB l=true):bz5 l:=by
 obtain⟨h2,h3⟩:=cG3 h
 unfold axB at h
 rw[aI0,bx8]at h
 have hp:∀i (hi:i<l.length),axP l i=true:=fun i hi=>h.2 i (by rw[eP1];exact⟨i,hi,by omega⟩)
 refine⟨h2,h3,fun i hi=>?_,fun i hi=>?_⟩
 ·have:=hp i hi
  unfold axP at this
  rw[aW9 hi]at this
  simp[elB]at this
  omega
 ·have:=hp (i+1) hi
  unfold axP at this
  rw[aW9 hi,fg7,aW9 (by omega:i<l.length)]at this
  simp at this
  exact this.2
theorem bz5.lt {l:List Int}(h:bz5 l):∀(j i:Nat) (hj:j<l.length) (hi:i<j),l[i]<l[j]
 |0,_,_,hi=>absurd hi (by omega)
 |j+1,i,hj,hi=>by
  rcases cZ8 i j with h1|h1
  ·exact Int.lt_trans (h.lt j i (by omega) h1) (h.asc j hj)
  ·have:i=j:=by omega
   subst this
   exact h.asc i hj
theorem bz5.le {l:List Int}(h:bz5 l)(j i:Nat)(hj:j<l.length)(hi:i<=j):l[i]<=l[j]:=by
 rcases cZ8 i j with h1|h1
 ·exact Int.le_of_lt (h.lt j i hj h1)
 ·have:i=j:=by omega
  subst this
  exact dr2 _
def lim (l:List Int)(x:Int):Int:=min (max x (l.headD 0)) (l.getLastD 0)
theorem bE4 (l:List Int)(h:0<l.length):l.headD 0=l[0]:=by cases l with
 |nil=>simp at h
 |cons a l=>rfl
theorem bf2 (l:List Int)(h:0<l.length):l.getLastD 0=l[l.length-1]:=by
 cases l with
 |nil=>simp at h
 |cons a l=>rw[List.getLastD_cons,<-List.getLast_eq_getElem (List.cons_ne_nil a l),List.getLast_eq_getLastD]
theorem dH2 {l:List Int}(h:bz5 l)(x:Int):l.headD 0<=lim l x/\lim l x<=l.getLastD 0:=by
 have h2:=h.two
 have:=h.le (l.length-1) 0 (by omega) (by omega)
 unfold lim
 rw[bE4 l (by omega),bf2 l (by omega)]
 omega
def bl6 (l:List Int)(v:Int)(i:Nat):Prop:=∃h:i+1<l.length,l[i]<=v/\v<=l[i+1]/\(i+2=l.length\/v<l[i+1])
def nd (l:List Int)(i:Nat):Int:=l.getD i 0
def zz (m:SMap)(i j:Nat):Int:=(m.Z.getD i []).getD j 0
theorem N4 {l:List Int}{i:Nat}(h:i<l.length):nd l i=l[i]:=by unfold nd;rw[cY3,aW9 h];rfl
theorem bU8 {m:SMap}{i j:Nat}(h:i<m.Z.length)(h2:j<m.Z[i].length):zz m i j=m.Z[i][j]:=by
 unfold zz
 have e:m.Z.getD i []=m.Z[i]:=by rw[cY3,aW9 h];rfl
 rw[e,cY3,aW9 h2];rfl
structure cY8 (m:SMap):Prop where
 x:bz5 m.X
 y:bz5 m.Y
 zl:m.Z.length=m.X.length
 rl:∀i (h:i<m.Z.length),m.Z[i].length=m.Y.length
 el:∀i j,i<m.X.length->j<m.Y.length-> -1073741824<=zz m i j/\zz m i j<=1073741824
theorem bZ3 {m:SMap}(h:bo7 m=true):cY8 m:=by
 unfold bo7 at h
 simp only[aI0,bY2,bx8]at h
 obtain⟨⟨⟨hx,hy⟩,hz⟩,hr⟩:=h
 have lz:m.Z.length=m.X.length:=by simp at hz;omega
 have len:∀r∈m.Z,r.length=m.Y.length/\∀z∈r,-1073741824<=z/\z<=1073741824:=by
  intro r hrm
  have:=hr r hrm
  unfold aI2 at this
  simp[elB]at this
  refine⟨by omega,fun z hz=>?_⟩
  have:=this.2 z hz
  omega
 refine⟨cG4 hx,cG4 hy,lz,fun i hi=>(len _ (bd2 hi)).1,fun i j hi hj=>?_⟩
 have hiz:i<m.Z.length:=by omega
 have:=len _ (bd2 hiz)
 have hj':j<m.Z[i].length:=by omega
 rw[bU8 hiz hj']
 exact this.2 _ (bd2 hj')
theorem dM1 {l:List Int}:axB l=true↔bz5 l:=by
 refine⟨cG4,fun h=>?_⟩
 have h2:=h.two
 have h3:=h.most
 unfold axB
 rw[aI0,bx8]
 refine⟨by simp;omega,fun i hi=>?_⟩
 rw[eP1]at hi
 obtain⟨j,hj,rfl⟩:=hi
 have hj':0+1*j=j:=by omega
 rw[hj']
 unfold axP
 rw[aW9 hj]
 have e:=h.el j hj
 cases j with
 |zero=>simp[elB];omega
 |succ k=>
  have a:=h.asc k hj
  rw[fg7,aW9 (by omega:k<l.length)]
  simp[elB];omega
theorem bb8 {a b:Bool}(h:a=true↔b=true):a=b:=dG9.2 h
theorem ap9 (l:List Int)(hn:l.length<=9223372036854775807)(f:Int->Option Bool)(p:Int->Bool)(h:∀y∈l,f y=some (p y)):o6 l f=some (l.any p):=
 ai3 l hn f p h
theorem el1 (n:Int):aB1 n=some (!elB n):=by
 unfold aB1 elB
 rw[aH8,dG9]
 simp only[cH8,bY2,fc5,fi2,fi3]
 omega
theorem eh9 (l:List Int):aL7 l=some (axB l):=by
 unfold aL7
 cases h:(decide ((l.length:Int)<2)||decide ((l.length:Int)>32))
 ·have hl:2<=l.length/\l.length<=32:=by simp at h;omega
  rw[fh5,ap9 l (by omega) aB1 _ (fun y _=>el1 y)]
  simp only[as5]
  cases hf:(l.any fun n=>!elB n)
  ·have cl3:∀i (hi:i<l.length),-1073741824<=l[i]/\l[i]<=1073741824:=fun i hi=>by
    rw[dv4]at hf
    have:=hf _ (bd2 hi)
    simp[elB]at this
    omega
   have e:j7 ((l.length:Int)-1)=((l.length-1:Nat):Int):=by rw[j5 (by omega) (by omega)];omega
   have k:=bw2 (f:=aG8 l) (p:=fun j=>decide (nd l j<nd l (j+1))) (r:=false) (l.length-1) 0 (fun j _ hj=>by
    unfold aG8
    rw[j5 (by omega) (by omega),show(j:Int)+1=((j+1:Nat):Int)from rfl,C7 l j (by omega),as5,C7 l (j+1) (by omega),as5,N4 (by omega),N4 (by omega)]
    by_cases q:l[j]<l[j+1]
    ·rw[fi0 q,fi1 (by omega)];rfl
    ·rw[fi1 q,fi0 (by omega)];rfl)
   rw[show((0:Nat):Int)=0 from rfl]at k
   rw[fh5,e,al8 _ (by omega),k]
   have:((ed3 0 (l.length-1)).all fun j=>decide (nd l j<nd l (j+1)))=axB l:=by
    apply bb8
    rw[dM1,bx8]
    constructor
    ·intro q
     refine⟨hl.1,hl.2,cl3,fun i hi=>?_⟩
     have:=q i (by rw[eP1];exact⟨i,by omega,by omega⟩)
     rw[fi2,N4 (by omega),N4 hi]at this
     exact this
    ·intro q i hi
     rw[eP1]at hi
     obtain⟨j,hj,rfl⟩:=hi
     rw[show 0+1*j=j by omega,fi2,N4 (by omega),N4 (by omega)]
     exact q.asc j (by omega)
   rw[this]
   cases axB l<;>rfl
  ·have:axB l=false:=by
    cases q:axB l
    ·rfl
    ·have:=(dM1.1 q).el
     rw[List.any_eq_true]at hf
     obtain⟨z,hz,hz2⟩:=hf
     obtain⟨i,hi,rfl⟩:=cW9.1 hz
     have:=this i hi
     simp[elB]at hz2
     omega
   rw[this]
   rfl
 ·unfold axB
  rw[h]
  rfl
def bx1 (c:Q2):Bool:=((c.X.length:Int)==(c.Y.length:Int))&&axB c.X&& !(c.Y.any fun n=>!elB n)
theorem aq1 (c:Q2):P4 c=some (bx1 c):=by
 unfold P4 bx1
 cases h:((c.X.length:Int)==(c.Y.length:Int))
 ·rfl
 ·rw[fh8,eh9]
  simp only[as5,cL7]
  cases h2:axB c.X
  ·rfl
  ·have:=cG3 h2
   have hl:c.Y.length=c.X.length:=by simp at h;omega
   rw[fh8,ap9 c.Y (by omega) aB1 _ (fun y _=>el1 y)]
   rfl
structure dL5 (c:Q2):Prop where
 x:bz5 c.X
 yl:c.Y.length=c.X.length
 el:∀i,i<c.X.length-> -1073741824<=nd c.Y i/\nd c.Y i<=1073741824
theorem bm3 {c:Q2}(h:bx1 c=true):dL5 c:=by
 unfold bx1 at h
 simp only[aI0,bY2,dv4]at h
 obtain⟨⟨h1,h2⟩,h3⟩:=h
 have hl:c.Y.length=c.X.length:=by simp at h1;omega
 refine⟨cG4 h2,hl,fun i hi=>?_⟩
 rw[N4 (by omega)]
 have:=h3 _ (bd2 (by omega:i<c.Y.length))
 simp[elB]at this
 omega
theorem cM6 {mb:Int->Option (Int⊕(Int⊕Bool))}(bad:Nat->Bool):∀(k:Nat),(∀i:Nat,i<k->mb ((i+1:Nat):Int)=some (bif bad i then .inr (.inr false)else .inl (i:Int)))->(∀i:Int,i<=0->mb i=some (.inr (.inl i)))->
  ∃t:Int⊕Bool,L7 mb (k:Int)=some t/\(match t with| .inl _=>∀i,i<k->bad i=false| .inr r=>r=false/\∃i,i<k/\bad i=true)
 |0,_,h0=>⟨.inl 0,D9 (h0 0 (dr2 _)),fun i hi=>absurd hi (by omega)⟩
 |k+1,h,h0=>by
  have h1:=h k (by omega)
  cases hb:bad k
  ·rw[hb]at h1
   obtain⟨t,a,b⟩:=cM6 bad k (fun i hi=>h i (by omega)) h0
   refine⟨t,by rw[G8 h1];exact a,?_⟩
   cases t with
   |inl i=>
    exact fun i hi=>by
     rcases cZ8 i k with q|q
     ·exact b i q
     ·have:i=k:=by omega
      subst this;exact hb
   |inr r=>exact⟨b.1,b.2.imp fun i hi=>⟨by omega,hi.2⟩⟩
  ·rw[hb]at h1
   exact⟨.inr false,D9 h1,rfl,k,by omega,hb⟩
def cC7 (l:List Int):Bool:=(ed3 0 (l.length-1)).all fun j=>decide (nd l j<=nd l (j+1))
def cz3 (l:List Int):Bool:=(ed3 0 (l.length-1)).all fun j=>decide (nd l (j+1)<=nd l j)
theorem bj4 {n:Nat}{p:Nat->Bool}:(ed3 0 n).all p=true↔∀i,i<n->p i=true:=by
 rw[bx8]
 constructor
 ·exact fun h i hi=>h i (by rw[eP1];exact⟨i,hi,by omega⟩)
 ·intro h i hi
  rw[eP1]at hi
  obtain⟨j,hj,rfl⟩:=hi
  rw[show 0+1*j=j by omega]
  exact h j hj
theorem cR6 {l:List Int}(h:l.length<=9223372036854775807)(h0:0<l.length):j7 ((l.length:Int)-1)=((l.length-1:Nat):Int):=by rw[j5 (by omega) (by omega)];omega
theorem cA6 (l:List Int)(h:l.length<=9223372036854775807):P6 l=some (cC7 l):=by
 have h0:∀i:Int,i<=0->Q6 l i=some (.inr (.inl i)):=fun i hi=>by
  unfold Q6
  rw[fi1 (by omega)];rfl
 unfold P6
 rcases dR1 l.length with hz|hz
 ·have e:j7 ((l.length:Int)-1)= -1:=by rw[hz];decide
  rw[e,D9 (h0 (-1) (by omega))]
  unfold cC7
  rw[hz];rfl
 ·rw[cR6 h hz]
  obtain⟨t,a,b⟩:=cM6 (mb:=Q6 l) (fun i=>decide (nd l (i+1)<nd l i)) (l.length-1) (fun i hi=>by
   unfold Q6
   rw[fi0 (by omega),fh8,C7 l (i+1) (by omega),as5,j5 (by omega) (by omega),show((i+1:Nat):Int)-1=(i:Int) by omega,C7 l i (by omega),as5,N4 (by omega),N4 (by omega)]
   have e:cmp_Less_int l[i+1] l[i]=some (decide (l[i+1]<l[i])):=by
    unfold cmp_Less_int cmp_isNaN_int
    simp
   rw[e,as5]
   cases decide (l[i+1]<l[i])<;>rfl) h0
  rw[a]
  cases t with
  |inl i=>
   have:cC7 l=true:=bj4.2 fun i hi=>by
    have:=b i hi
    rw[fi3]at this
    rw[fi2];omega
   rw[this];rfl
  |inr r=>
   obtain⟨rfl,i,hi,q⟩:=b
   have:cC7 l=false:=by
    cases z:cC7 l
    ·rfl
    ·have:=bj4.1 z i hi
     rw[fi2]at this q
     omega
   rw[this];rfl
theorem dd4 (l:List Int)(h:l.length<=9223372036854775807)(hb:∀i,i<l.length-> -1073741824<=nd l i/\nd l i<=1073741824):H9 l ac2=some (cz3 l):=by
 have h0:∀i:Int,i<=0->L5 l ac2 i=some (.inr (.inl i)):=fun i hi=>by
  unfold L5
  rw[fi1 (by omega)];rfl
 unfold H9
 rcases dR1 l.length with hz|hz
 ·have e:j7 ((l.length:Int)-1)= -1:=by rw[hz];decide
  rw[e,D9 (h0 (-1) (by omega))]
  unfold cz3
  rw[hz];rfl
 ·rw[cR6 h hz]
  obtain⟨t,a,b⟩:=cM6 (mb:=L5 l ac2) (fun i=>decide (nd l i<nd l (i+1))) (l.length-1) (fun i hi=>by
   unfold L5
   rw[fi0 (by omega),fh8,C7 l (i+1) (by omega),as5,j5 (by omega) (by omega),show((i+1:Nat):Int)-1=(i:Int) by omega,C7 l i (by omega),as5,<-N4 (by omega),<-N4 (by omega)]
   have b1:=hb i (by omega)
   have b2:=hb (i+1) (by omega)
   have e:ac2 (nd l (i+1)) (nd l i)=some (nd l i-nd l (i+1)):=by
    unfold ac2
    rw[j5 (by omega) (by omega)]
   rw[e,as5]
   by_cases q:nd l i<nd l (i+1)
   ·rw[fi0 q,fi0 (by omega)];rfl
   ·rw[fi1 q,fi1 (by omega)];rfl) h0
  rw[a]
  cases t with
  |inl i=>
   have:cz3 l=true:=bj4.2 fun i hi=>by
    have:=b i hi
    rw[fi3]at this
    rw[fi2];omega
   rw[this];rfl
  |inr r=>
   obtain⟨rfl,i,hi,q⟩:=b
   have:cz3 l=false:=by
    cases z:cz3 l
    ·rfl
    ·have:=bj4.1 z i hi
     rw[fi2]at this q
     omega
   rw[this];rfl
def inR (lo hi x:Int):Bool:=decide (x>=lo)&&decide (x<=hi)
theorem cQ9 (l:List Int)(h:l.length<=9223372036854775807)(lo hi:Int):ah3 l lo hi=some (!l.all (inR lo hi)):=by
 unfold ah3
 rw[ap9 l h (fun x0=>ao2 x0 lo hi) (fun x=>!inR lo hi x) (fun y _=>rfl)]
 have:(l.any fun x=>!inR lo hi x)= !l.all (inR lo hi):=by rw[dS1];simp
 rw[this];rfl
def aZ1 (t:o7):Bool:=bo7 t.o9&&bx1 t.C3&&t.C3.Y.all (inR 0 1000)&&cz3 t.C3.Y&&t.o9.Z.all fun r=>r.all (inR 0 10000)&&cC7 r
theorem bp1 (t:o7):ai4 t=some (aZ1 t):=by
 unfold ai4 aZ1
 rw[ao3]
 cases h1:bo7 t.o9
 ·rfl
 ·have hm:=bZ3 h1
  simp only[as5,aX0,fh5,cL7,aq1]
  cases h2:bx1 t.C3
  ·rfl
  ·have hc:=bm3 h2
   have l1:=hc.x.most
   have l2:=hc.yl
   simp only[aX0,fh5,cL7]
   rw[cQ9 _ (by omega)]
   cases h3:t.C3.Y.all (inR 0 1000)
   ·rfl
   ·simp only[as5,aX0,fh5,cL7]
    rw[dd4 _ (by omega) (fun i hi=>hc.el i (by omega))]
    cases h4:cz3 t.C3.Y
    ·rfl
    ·simp only[as5,aX0,fh5,cL7]
     have k:G0 t.o9.Z al2=some (t.o9.Z.any fun r=>!(r.all (inR 0 10000)&&cC7 r)):=
      ai3 t.o9.Z (by have:=hm.zl;have:=hm.x.most;omega) al2 _ (fun r hr=>by
       obtain⟨i,hi,rfl⟩:=cW9.1 hr
       have lr:t.o9.Z[i].length<=32:=by rw[hm.rl i hi];exact hm.y.most
       unfold al2
       rw[cQ9 _ (by omega),as5,cA6 _ (by omega)]
       cases t.o9.Z[i].all (inR 0 10000)<;>cases cC7 t.o9.Z[i]<;>rfl)
     rw[k,as5,dS1]
     simp
theorem dD5 {l : List Int} (h : cC7 l = true) : ∀ (j i : Nat), i <= j -> j < l.length -> nd l i <= nd l j
  | 0, i, hi, _ => by have : i = 0 := by omega
                      subst this; exact dr2 _
  | j + 1, i, hi, hj => by
    rcases cZ8 i (j + 1) with q | q
    · have a := dD5 h j i (by omega) (by omega)
      have b := bj4.1 h j (by omega)
      rw [fi2] at b
      omega
    · have : i = j + 1 := by omega
      subst this; exact dr2 _
def cI8 (r:List Int):Bool:=r.all (inR 0 1048576)&&cC7 r
def cV8 (t:o7):Bool:=bo7 t.Air&&bx1 t.L4&&t.Air.Z.all cI8&&t.L4.Y.all (inR 100 3000)
theorem af6 (x lo hi:Int):I4 x lo hi=some (inR lo hi x):=rfl
theorem dp2 {r:List Int}(h0:0<r.length)(ha:cC7 r=true):(inR 0 1048576 (nd r 0)&&inR 0 1048576 (nd r (r.length-1)))=r.all (inR 0 1048576):=by
 apply bb8
 rw[aI0,bx8]
 unfold inR
 constructor
 ·rintro⟨a,b⟩ x hx
  obtain⟨i,hi,rfl⟩:=cW9.1 hx
  have u:=dD5 ha i 0 (by omega) hi
  have v:=dD5 ha (r.length-1) i (by omega) (by omega)
  rw[N4 hi]at u v
  rw[aI0,fi2,fi2]at*
  omega
 ·intro h
  rw[N4 h0,N4 (by omega:r.length-1<r.length)]
  exact⟨h _ (bd2 _),h _ (bd2 _)⟩
theorem bG8 (t:o7):aA8 t=some (cV8 t):=by
 unfold aA8 cV8
 rw[ao3]
 cases h1:bo7 t.Air
 ·rfl
 ·have hm:=bZ3 h1
  simp only[as5,aX0,fh5,cL7,aq1]
  cases h2:bx1 t.L4
  ·rfl
  ·have hc:=bm3 h2
   have l1:=hc.x.most
   have l2:=hc.yl
   have zl:=hm.zl
   have xm:=hm.x.most
   have ym:=hm.y.most
   have y2:=hm.y.two
   simp only[aX0,fh5,cL7]
   rw[K6 _ (by omega),bK9 (p:=cI8) (r:=false)]
   ·cases h3:t.Air.Z.all cI8
    ·rfl
    ·rw[fh8,as5]
     simp only
     rw[ap9 _ (by omega) aK4 (fun y=>!inR 100 3000 y) (fun y _=>rfl),as5,dS1,eI2]
     simp only[eI2,cL7]
   ·intro i r hr
    obtain⟨k,hk,rfl⟩:=cW9.1 hr
    have rl:=hm.rl k hk
    unfold aT2 cI8
    rw[cA6 _ (by omega),as5]
    cases h4:cC7 t.Air.Z[k]
    ·rw[ff4];rfl
    ·have g0:D4 t.Air.Z[k] 0=some (t.Air.Z[k][0]'(by omega)):=C7 _ 0 (by omega)
     rw[aX0,fh5,eU9,g0,cR6 (by omega) (by omega),C7 _ _ (by omega:t.Air.Z[k].length-1<t.Air.Z[k].length),<-N4,<-N4,<-dp2 (by omega) h4]
     simp only[as5,af6]
     cases inR 0 1048576 (nd t.Air.Z[k] 0)<;>cases inR 0 1048576 (nd t.Air.Z[k] (t.Air.Z[k].length-1))<;>rfl
def bK7 (t:o7):Bool:=bo7 t.N9&&bx1 t.af1&&(t.N9.Z.all fun r=>r.all (inR (-1280) 3840))&&t.af1.Y.all (inR 500 10000)
def cA2 (g:aV4):Bool:=((((((decide (g.P>=0))&&(decide (g.P<=65536)))&&(decide (g.I>=0)))&&(decide (g.I<=65536)))&&(decide (g.Low>=(-1073741824))))&&(decide (g.Low<=g.bs4)))&&(decide (g.bs4<=1073741824))
def cc9 (t:o7):Bool:=cV8 t&&bK7 t&&aZ1 t&&(bx1 t.aw5&&t.aw5.Y.all (inR 0 10000))&&bo7 t.aH9&&cA2 t.af0
theorem be4 (l:List Int)(h:l.length<=9223372036854775807)(lo hi:Int):af9 l lo hi=some (l.all (inR lo hi)):=by
 unfold af9
 rw[ap9 l h (fun x0=>az9 x0 lo hi) (fun x=>!inR lo hi x) (fun y _=>rfl),as5,dS1,eI2]
 simp only[eI2]
theorem bi0 (t:o7):ac5 t=some (cc9 t):=by
 unfold ac5 cc9 bK7
 rw[bG8,bp1,ao3,ao3,aq1,aq1,show Q5 t.af0=some (cA2 t.af0)from rfl]
 simp only[as5]
 cases cV8 t
 ·rfl
 cases aZ1 t
 ·simp only[aX0,cI3,fh5,fh8,as5,ff4,ez5]
 cases h1:bo7 t.N9
 ·rfl
 cases bo7 t.aH9
 ·simp only[aX0,cI3,fh5,fh8,as5,ff4,ez5]
 cases h2:bx1 t.af1
 ·rfl
 cases h3:bx1 t.aw5
 ·simp only[aX0,cI3,fh5,fh8,as5,ff4,ez5]
 have hm:=bZ3 h1
 have zl:=hm.zl
 have xm:=hm.x.most
 have ym:=hm.y.most
 have a1:=(bm3 h2).x.most
 have a2:=(bm3 h2).yl
 have b1:=(bm3 h3).x.most
 have b2:=(bm3 h3).yl
 simp only[aX0,fh5,as5,cL7,eU9]
 rw[K6 _ (by omega),bK9 (p:=fun r=>r.all (inR (-1280) 3840)) (r:=false)]
 ·rw[be4 _ (by omega),be4 _ (by omega)]
  cases t.N9.Z.all fun r=>r.all (inR (-1280) 3840)
  ·rfl
  ·cases t.af1.Y.all (inR 500 10000)<;>cases t.aw5.Y.all (inR 0 10000)<;>rfl
 ·intro i r hr
  obtain⟨k,hk,rfl⟩:=cW9.1 hr
  have rl:=hm.rl k hk
  unfold aB0
  rw[be4 _ (by omega),as5]
  cases t.N9.Z[k].all (inR (-1280) 3840)<;>rfl
theorem dH5 (v:Bool)(q q':Int)(f:Int->Option (Int×Int))(h:(bif v then some (aX8.wrap (q+1))else some q)=some q')(h0:0<=q')(h1:q'<9223372036854775808):
  (ai8 (some v) fun v4=>ai8 (bif v4 then(some (aX8.wrap (q+1)))else(some q)) fun(q:Int)=>bif (false&&(decide (q<=9223372036854775808)))then f q else(bif ((!false)&&(decide (q<9223372036854775808)))then(some (j7 q,0))else(some (0,9))))=some (q',0):=by
 have e:decide (q'<9223372036854775808)=true:=fi0 h1
 rw[as5,h,as5,ez5,fh5,cI3,cL7,e,fh8,j5 (by omega) (by omega)]
theorem bL1 {n:Int}(h0:0<=n)(h1:n<18446744073709551616):aX8.wrap n=n:=by
 unfold IntKind.wrap
 simp only[IntKind.bits,IntKind.signed]
 simp only[show(2:Int)^64=18446744073709551616 from rfl,ez5,do2,if_false]
 omega
theorem aC3 (x lo hi:Int):C6 x lo hi=some (F2 (G4 x lo) hi):=rfl
theorem bJ6 (n:Int)(h0: -9223372036854775808<=n)(h1:n<=9223372036854775807):V3 n=some (n.natAbs:Int):=by
 unfold V3
 by_cases h:n<0
 ·simp only[h,decide_true,fh8,aH8]
  rw[j5 (n:=n+1) (by omega) (by omega),j5 (n:=0-(n+1)) (by omega) (by omega),bL1 (n:=0-(n+1)) (by omega) (by omega),bL1 (by omega) (by omega)]
  omega
 ·simp only[h,decide_false,fh5,aH8]
  rw[bL1 (by omega) (by omega)]
  omega
theorem ek0 (lo y:Nat)(h0:lo<18446744073709551616)(h1:0<y):al6 0 lo y=some (((lo/y:Nat):Int),((lo%y:Nat):Int)):=by
 unfold al6
 have e1:((y:Int)==0)=false:=by
  have:¬(y:Int)=0:=by omega
  simpa using this
 have e2:decide ((y:Int)<=0)=false:=by simp;omega
 have e3:¬(y:Int)=0:=by omega
 simp only[e1,e2,fh5,as5,bn3,cf1,if_neg e3]
 have q1:(lo:Int).tdiv y=((lo/y:Nat):Int):=rfl
 have q2:(lo:Int).tmod y=((lo%y:Nat):Int):=rfl
 have q3:lo/y<=lo:=Nat.div_le_self _ _
 rw[q1,q2]
 generalize lo/y=q at q3|-
 rw[bL1 (by omega) (by omega),show((0:Int)==0)=true from rfl,fh8]
theorem bW0 (a c mode:Int)(ha0: -9223372036854775808<=a)(ha1:a<=9223372036854775807)(hc0:0<c)(hc1:c<=9223372036854775807)(hm:mode=1\/mode=2):
  az2 a 1 c mode=some (if mode=1 then a/c else -((-a)/c),0):=by
 unfold az2
 have m1:((decide (mode<1))||(decide (mode>3)))=false:=by
  rcases hm with rfl|rfl<;>rfl
 have c0:(c==0)=false:=by
  have:¬c=0:=by omega
  simpa using this
 rw[m1,c0,bJ6 a ha0 ha1,bJ6 1 (by omega) (by omega),bJ6 c (by omega) hc1]
 obtain⟨m,hm'⟩:∃m:Nat,a.natAbs=m:=⟨_,rfl⟩
 obtain⟨k,rfl⟩:∃k:Nat,c=k:=⟨c.toNat,by omega⟩
 have hk:0<k:=by omega
 have hml:m<=9223372036854775808:=by omega
 rw[hm']
 simp only[fh5,as5,at3,cv1]
 rw[if_pos (by omega)]
 simp only[as5]
 have e1:(m:Int)*((fg8 1:Nat):Int)/18446744073709551616=0:=by
  have:((fg8 1:Nat):Int)=1:=rfl
  rw[this];omega
 have e2:(m:Int)*((fg8 1:Nat):Int)%18446744073709551616=(m:Int):=by
  have:((fg8 1:Nat):Int)=1:=rfl
  rw[this];omega
 have e3:(((fg8 (k:Int)):Nat):Int)=(k:Int):=by omega
 have e4:decide ((0:Int)>=(k:Int))=false:=fi1 (by omega)
 rw[e1,e2,e3,e4,show(0:Int)=0 from rfl,ek0 m k (by omega) hk]
 have q1:m/k<=m:=Nat.div_le_self _ _
 have q2:m%k<k:=Nat.mod_lt _ hk
 have q3:k*(m/k)+m%k=m:=Nat.div_add_mod m k
 generalize m/k=q at q1 q3|-
 generalize m%k=r at q2 q3|-
 have q4:(m:Int)=(q:Int)*(k:Int)+(r:Int):=by rw[<-q3,Int.natCast_add,Int.natCast_mul,Int.mul_comm]
 have hqk:r=0->0<m->0<q:=fun h0 h1=>by
  rcases dR1 q with h|h
  ·rw[h,h0]at q3;omega
  ·exact h
 have hql:0<r->q<9223372036854775808:=fun h0=>by
  rcases cZ8 q 9223372036854775808 with h|h
  ·exact h
  ·have:k*q>=1*9223372036854775808:=Nat.mul_le_mul (by omega) h
   omega
 have hql2:0<r->m<=9223372036854775807->q<9223372036854775807:=fun h0 h1=>by
  rcases cZ8 q 9223372036854775807 with h|h
  ·exact h
  ·have:k*q>=1*9223372036854775807:=Nat.mul_le_mul (by omega) h
   omega
 have e5:decide ((q:Int)>9223372036854775808)=false:=fi1 (by omega)
 simp only[fh5,as5,e5]
 have d1:decide ((1:Int)<0)=false:=rfl
 have d2:decide ((k:Int)<0)=false:=fi1 (by omega)
 rw[d1,d2]
 have fl0:(m:Int)/(k:Int)=(q:Int):=by
  rw[q4,Int.add_comm,Int.add_mul_ediv_right _ _ (by omega),Int.ediv_eq_zero_of_lt (by omega) (by omega)];omega
 have fl1:(-(m:Int))/(k:Int)=if r=0 then -(q:Int)else -(q:Int)-1:=by
  split
  ·rename_i h
   have:-(m:Int)=(-(q:Int))*(k:Int):=by rw[q4,Int.neg_mul,h];omega
   rw[this,Int.mul_ediv_cancel _ (by omega)]
  ·rename_i h
   have e:-(m:Int)=((k:Int)-(r:Int))+(-(q:Int)-1)*(k:Int):=by
    rw[q4,Int.sub_mul,Int.neg_mul];omega
   rw[e,Int.add_mul_ediv_right _ _ (by omega),Int.ediv_eq_zero_of_lt (by omega) (by omega)];omega
 clear q3 q4
 by_cases hn:a<0
 ·have ha:a= -(m:Int):=by omega
  have e6:decide (a<0)=true:=fi0 hn
  have n1:(!(!true==false)==false)=true:=by decide
  rw[e6,n1]
  rcases hm with rfl|rfl
  · --down,of a negative number
   have r1:ak4 (r:Int) (k:Int) true 1=some (decide ((r:Int)>0)):=rfl
   rw[if_pos rfl,ha,fl1,r1]
   by_cases hr:r=0
   ·have r2:decide ((r:Int)>0)=false:=fi1 (by omega)
    have bJ2:=hqk hr (by omega)
    have r3:decide ((q:Int)<=9223372036854775808)=true:=fi0 (by omega)
    rw[if_pos hr,r2]
    simp only[as5,fh5,r3]
    rw[bL1 (n:=(q:Int)-1) (by omega) (by omega),j5 (n:=(q:Int)-1) (by omega) (by omega),j5 (n:=0-((q:Int)-1)) (by omega) (by omega),j5 (n:=0-((q:Int)-1)-1) (by omega) (by omega)]
    simp only[cL7,fh8,aX0,ez5,fh5]
    rw[show 0-((q:Int)-1)-1= -(q:Int) by omega]
   ·have r2:decide ((r:Int)>0)=true:=fi0 (by omega)
    have hlt:=hql (by omega)
    have r3:decide ((q:Int)+1<=9223372036854775808)=true:=fi0 (by omega)
    rw[if_neg hr,r2]
    simp only[as5,fh8]
    rw[bL1 (n:=(q:Int)+1) (by omega) (by omega),r3,show(q:Int)+1-1=q by omega]
    rw[bL1 (n:=(q:Int)) (by omega) (by omega),j5 (n:=(q:Int)) (by omega) (by omega),j5 (n:=0-(q:Int)) (by omega) (by omega),j5 (n:=0-(q:Int)-1) (by omega) (by omega)]
    simp only[cL7,fh8,aX0,ez5,fh5]
    rw[show 0-(q:Int)-1= -(q:Int)-1 by omega]
  · --up,of a negative number
   have r1:ak4 (r:Int) (k:Int) true 2=some false:=rfl
   rw[if_neg (by decide),ha,Int.neg_neg,fl0,r1]
   have r3:decide ((q:Int)<=9223372036854775808)=true:=fi0 (by omega)
   simp only[as5,fh5,r3]
   rcases dR1 q with hz|hz
   ·have w1:aX8.wrap (((0:Nat):Int)-1)=18446744073709551615:=by decide
    have w2:j7 18446744073709551615= -1:=by decide
    have w3:j7 (0- -1)=1:=by decide
    have w4:j7 (1-1)=0:=by decide
    rw[hz,w1,w2,w3,w4]
    rfl
   ·rw[bL1 (n:=(q:Int)-1) (by omega) (by omega),j5 (n:=(q:Int)-1) (by omega) (by omega),j5 (n:=0-((q:Int)-1)) (by omega) (by omega),j5 (n:=0-((q:Int)-1)-1) (by omega) (by omega)]
    simp only[cL7,fh8,aX0,ez5,fh5]
    rw[show 0-((q:Int)-1)-1= -(q:Int) by omega]
 ·have ha:a=(m:Int):=by omega
  have e6:decide (a<0)=false:=fi1 hn
  have n1:(!(!false==false)==false)=false:=by decide
  rw[e6,n1]
  rcases hm with rfl|rfl
  ·have r1:ak4 (r:Int) (k:Int) false 1=some false:=rfl
   rw[if_pos rfl,ha,fl0,r1]
   exact dH5 false q q _ rfl (by omega) (by omega)
  ·have r1:ak4 (r:Int) (k:Int) false 2=some (decide ((r:Int)>0)):=rfl
   rw[if_neg (by decide),ha,fl1,r1]
   by_cases hr:r=0
   ·have r2:decide ((r:Int)>0)=false:=fi1 (by omega)
    rw[if_pos hr,r2,Int.neg_neg]
    exact dH5 false q q _ rfl (by omega) (by omega)
   ·have r2:decide ((r:Int)>0)=true:=fi0 (by omega)
    have hlt:=hql2 (by omega) (by omega)
    rw[if_neg hr,r2,show -(-(q:Int)-1)=(q:Int)+1 by omega]
    exact dH5 true q (q+1) _ (by rw[fh8,bL1 (by omega) (by omega)]) (by omega) (by omega)
theorem bR1 (a c:Int)(ha0: -9223372036854775808<=a)(ha1:a<=9223372036854775807)(hc0:0<c)(hc1:c<=9223372036854775807):V8 a c=some (a/c):=by
 unfold V8 am8
 rw[bW0 a c 1 ha0 ha1 hc0 hc1 (.inl rfl)]
 rfl
theorem aS2 (n:Nat)(hn:n<=2305843009213693951)(f:Int->Option Bool)(p:Nat->Bool)(hf:∀i,i<n->f (i:Int)=some (p i)):
  ∃k:Nat,k<=n/\Q0 (n:Int) f=some (k:Int)/\(0<k->p (k-1)=false)/\(k<n->p k=true):=by
 have key:∀(m i j:Nat),j-i<=m->i<=j->j<=n->(0<i->p (i-1)=false)->(j<n->p j=true)->
   ∃k:Nat,k<=n/\L7 (ab9 f) ((i:Int),(j:Int))=some (.inl ((k:Int),(k:Int)))/\(0<k->p (k-1)=false)/\(k<n->p k=true):=by
  intro m
  induction m with
  |zero=>
   intro i j hm hij hjn h1 h2
   have:i=j:=by omega
   subst this
   refine⟨i,hjn,D9 ?_,h1,h2⟩
   unfold ab9
   rw[show decide (((i:Int),(i:Int)).1<((i:Int),(i:Int)).2)=false from fi1 (by simp)]
   rfl
  |succ m ih=>
   intro i j hm hij hjn h1 h2
   rcases cZ8 i j with hlt|hge
   ·have hh:j7 (F5 .u64 (aX8.wrap (j7 ((i:Int)+(j:Int)))) 1)=(((i+j)/2:Nat):Int):=by
     rw[eC1 (by omega) (by omega)];omega
    have hi:(i+j)/2<n:=by omega
    have hb:ab9 f ((i:Int),(j:Int))=some (bif p ((i+j)/2)then .inl ((i:Int),(((i+j)/2:Nat):Int))else .inl ((((i+j)/2+1:Nat):Int),(j:Int))):=by
     unfold ab9
     rw[show decide (((i:Int),(j:Int)).1<((i:Int),(j:Int)).2)=true from fi0 (by show(i:Int)<(j:Int);omega)]
     simp only[fh8,hh,hf _ hi,as5]
     cases p ((i+j)/2)
     ·simp only[cI3,fh8,fh5]
      rw[j5 (by omega) (by omega)];rfl
     ·rfl
    cases hp:p ((i+j)/2)
    ·rw[hp]at hb
     rw[G8 hb]
     exact ih ((i+j)/2+1) j (by omega) (by omega) hjn (fun _=>by simpa using hp) h2
    ·rw[hp]at hb
     rw[G8 hb]
     exact ih i ((i+j)/2) (by omega) (by omega) (by omega) h1 (fun _=>hp)
   ·have:i=j:=by omega
    subst this
    exact ih i i (by omega) (cv6 _) hjn h1 h2
 obtain⟨k,a,b,c,d⟩:=key n 0 n (by omega) (Nat.zero_le _) (cv6 _) (fun h=>absurd h (by omega)) (fun h=>absurd h (by omega))
 refine⟨k,a,?_,c,d⟩
 unfold Q0
 rw[show((0:Nat):Int)=0 from rfl]at b
 rw[b]
 rfl
theorem aq6 (a b:Int):F2 a b=min a b:=by unfold F2;split<;>omega
theorem ao4 (a b:Int):G4 a b=max a b:=by unfold G4;split<;>omega
def itp (x0 x1 y0 y1 x:Int):Int:=y0+((x-x0)*(y1-y0))/(x1-x0)
theorem bi6 {x0 x1 y0 y1 x lo hi:Int}(h0:x0<=x)(h1:x<=x1)(h:x0<x1)(a0:lo<=y0)(a1:y0<=hi)(b0:lo<=y1)(b1:y1<=hi):lo<=itp x0 x1 y0 y1 x/\itp x0 x1 y0 y1 x<=hi:=by
 unfold itp
 have hd:0<x1-x0:=by omega
 have e:0<=x-x0:=by omega
 have e2:x-x0<=x1-x0:=by omega
 constructor
 ·have:lo-y0<=((x-x0)*(y1-y0))/(x1-x0):=by
   rw[Int.le_ediv_iff_mul_le hd]
   have m1:(x-x0)*(lo-y0)<=(x-x0)*(y1-y0):=ed6 (by omega) e
   have m2:(x1-x0)*(lo-y0)<=(x-x0)*(lo-y0):=Int.mul_le_mul_of_nonpos_right e2 (by omega)
   rw[Int.mul_comm (lo-y0)]
   omega
  omega
 ·have:((x-x0)*(y1-y0))/(x1-x0)<=hi-y0:=by
   have m1:(x-x0)*(y1-y0)<=(x-x0)*(hi-y0):=ed6 (by omega) e
   have m2:(x-x0)*(hi-y0)<=(x1-x0)*(hi-y0):=Int.mul_le_mul_of_nonneg_right e2 (by omega)
   have:=Int.ediv_le_ediv hd (Int.le_trans m1 m2)
   rw[Int.mul_ediv_cancel_left _ (by omega)]at this
   exact this
  omega
theorem du7 (x0 x1 y0 y1:Int):itp x0 x1 y0 y1 x0=y0:=by
 unfold itp;rw[Int.sub_self,Int.zero_mul,Int.zero_ediv,Int.add_zero]
theorem dd6 {x0 x1 y0 y1:Int}(h:x0<x1):itp x0 x1 y0 y1 x1=y1:=by
 unfold itp;rw[Int.mul_ediv_cancel_left _ (by omega)];omega
theorem eq9 {a b:Int}(a0:0<=a)(a1:a<=2147483648)(b0:-2147483648<=b)(b1:b<=2147483648):-4611686018427387904<=a*b/\a*b<=4611686018427387904:=by
 constructor
 ·have m1:a*(-2147483648)<=a*b:=ed6 b0 a0
  omega
 ·have m1:a*b<=a*2147483648:=ed6 b1 a0
  omega
theorem cJ5 {x0 x1 y0 y1 x:Int}(h0:x0<=x)(h1:x<=x1)(h:x0<x1)(hx0:-1073741824<=x0)(hx1:x1<=1073741824)(a0:-1073741824<=y0)(a1:y0<=1073741824)(b0:-1073741824<=y1)(b1:y1<=1073741824):
  ac0 x0 x1 y0 y1 x=some (itp x0 x1 y0 y1 x):=by
 have hb:=bi6 (lo:=-1073741824) (hi:=1073741824) h0 h1 h a0 a1 b0 b1
 have hp:=eq9 (a:=x-x0) (b:=y1-y0) (by omega) (by omega) (by omega) (by omega)
 unfold ac0
 rw[j5 (n:=x-x0) (by omega) (by omega),j5 (n:=y1-y0) (by omega) (by omega),j5 (n:=x1-x0) (by omega) (by omega),j5 (n:=(x-x0)*(y1-y0)) (by omega) (by omega),
  bR1 _ _ (by omega) (by omega) (by omega) (by omega),as5]
 unfold itp at hb|-
 rw[j5 (by omega) (by omega)]
theorem cf5 {l:List Int}(h:bz5 l)(x:Int):∃i:Nat,bl6 l (lim l x) i/\X2 l x=some ((i:Int),lim l x):=by
 have h2:=h.two
 have h3:=h.most
 have hb:=dH2 h x
 rw[bE4 l (by omega),bf2 l (by omega)]at hb
 obtain⟨k,k1,k2,k3,k4⟩:=aS2 l.length (by omega) (fun x0=>ae8 x0 l (lim l x)) (fun i=>decide (l.getD i 0>lim l x)) (fun i hi=>by
  unfold ae8
  rw[C7 l i hi,cY3,aW9 hi];rfl)
 have gd:∀i (hi:i<l.length),l.getD i 0=l[i]:=fun i hi=>by rw[cY3,aW9 hi];rfl
 have hk0:0<k:=by
  rcases dR1 k with h0|h0
  ·have:=k4 (by omega)
   rw[fi2,gd k (by omega)]at this
   subst h0
   omega
  ·exact h0
 have dW4:=k3 hk0
 rw[fi3,gd (k-1) (by omega)]at dW4
 have hseg:X2 l x=some (((min (k-1) (l.length-2):Nat):Int),lim l x):=by
  unfold X2
  have e1:D4 l 0=some (l.headD 0):=by
   have:=C7 l 0 (by omega)
   rw[bE4 l (by omega)];exact this
  have e2:D4 l (j7 ((l.length:Int)-1))=some (l.getLastD 0):=by
   rw[j5 (by omega) (by omega),show(l.length:Int)-1=((l.length-1:Nat):Int) by omega,C7 l _ (by omega),bf2 l (by omega)]
  have e3:F2 (G4 x (l.headD 0)) (l.getLastD 0)=lim l x:=by rw[aq6,ao4];rfl
  rw[e1,e2,as5,as5,aC3,as5,e3,k2,as5,j5 (by omega) (by omega),j5 (by omega) (by omega),aq6]
  congr 2
  omega
 rcases cZ8 k l.length with hk|hk
 ·have hhi:=k4 hk
  rw[fi2,gd k hk]at hhi
  have e:min (k-1) (l.length-2)=k-1:=by omega
  rw[e]at hseg
  refine⟨k-1,⟨by omega,by omega,?_,.inr ?_⟩,hseg⟩
  ·simp only[Nat.sub_add_cancel (show 1<=k from hk0)];omega
  ·simp only[Nat.sub_add_cancel (show 1<=k from hk0)];omega
 ·have e:min (k-1) (l.length-2)=l.length-2:=by omega
  rw[e]at hseg
  have hl:k-1=l.length-1:=by omega
  have hlow':¬l[l.length-1]>lim l x:=by simpa only[hl]using dW4
  have hs:l.length-2+1=l.length-1:=by omega
  refine⟨l.length-2,⟨by omega,?_,?_,.inl (by omega)⟩,hseg⟩
  ·have:=h.le (l.length-1) (l.length-2) (by omega) (by omega)
   omega
  ·simp only[hs];omega
def along (m:SMap)(i:Nat)(v:Int)(j:Nat):Int:=itp (nd m.X i) (nd m.X (i+1)) (zz m i j) (zz m (i+1) j) v
def atV (m:SMap)(i j:Nat)(v w:Int):Int:=itp (nd m.Y j) (nd m.Y (j+1)) (along m i v j) (along m i v (j+1)) w
theorem bl6.nd {l:List Int}{v:Int}{i:Nat}(h:bl6 l v i)(ha:bz5 l):i+1<l.length/\nd l i<=v/\v<=nd l (i+1)/\nd l i<nd l (i+1)/\ -1073741824<=Pv.nd l i/\Pv.nd l (i+1)<=1073741824:=by
 obtain⟨h0,h1,h2,_⟩:=h
 rw[N4 (by omega:i<l.length),N4 h0]
 exact⟨h0,h1,h2,ha.asc i h0,(ha.el i (by omega)).1,(ha.el (i+1) h0).2⟩
theorem ch8 {m:SMap}(h:cY8 m){i j:Nat}{v lo hi:Int}(hi':bl6 m.X v i)(a0:lo<=zz m i j)(a1:zz m i j<=hi)(b0:lo<=zz m (i+1) j)(b1:zz m (i+1) j<=hi):
  lo<=along m i v j/\along m i v j<=hi:=by
 obtain⟨k0,k1,k2,k3,_,_⟩:=hi'.nd h.x
 exact bi6 k1 k2 k3 a0 a1 b0 b1
theorem dD6 {m:SMap}(h:cY8 m){i j:Nat}{v w lo hi:Int}(hi':bl6 m.X v i)(hj':bl6 m.Y w j)(hz:∀i j,i<m.X.length->j<m.Y.length->lo<=zz m i j/\zz m i j<=hi):
  lo<=atV m i j v w/\atV m i j v w<=hi:=by
 obtain⟨k0,k1,k2,k3,_,_⟩:=hi'.nd h.x
 obtain⟨l0,l1,l2,l3,_,_⟩:=hj'.nd h.y
 have a:=fun j hj=>ch8 h (j:=j) hi' (hz i j (by omega) hj).1 (hz i j (by omega) hj).2 (hz (i+1) j (by omega) hj).1 (hz (i+1) j (by omega) hj).2
 exact bi6 l1 l2 l3 (a j (by omega)).1 (a j (by omega)).2 (a (j+1) (by omega)).1 (a (j+1) (by omega)).2
theorem eg9 {m:SMap}(h:cY8 m){i j:Nat}{v:Int}(hi:bl6 m.X v i)(hj:j<m.Y.length):ar7 (j:Int) m (i:Int) v=some (along m i v j):=by
 obtain⟨k0,k1,k2,k3,k4,k5⟩:=hi.nd h.x
 have lx:=h.x.most
 have hz0:i<m.Z.length:=by have:=h.zl;omega
 have hz1:i+1<m.Z.length:=by have:=h.zl;omega
 have r0:=h.rl i hz0
 have r1:=h.rl (i+1) hz1
 unfold ar7
 rw[j5 (by omega) (by omega),show(i:Int)+1=((i+1:Nat):Int)from rfl,C7 m.X i (by omega),as5,C7 m.X (i+1) k0,as5,C7 m.Z i hz0,as5,C7 _ j (by omega),
  as5,C7 m.Z (i+1) hz1,as5,C7 _ j (by omega),as5,<-N4 (by omega:i<m.X.length),<-N4 k0,<-bU8 hz0 (by omega),<-bU8 hz1 (by omega)]
 rw[cJ5 k1 k2 k3 k4 k5 (h.el i j (by omega) hj).1 (h.el i j (by omega) hj).2 (h.el (i+1) j k0 hj).1 (h.el (i+1) j k0 hj).2]
 rfl
theorem eW5 {m:SMap}(h:cY8 m)(x y:Int):∃i j,bl6 m.X (lim m.X x) i/\bl6 m.Y (lim m.Y y) j/\aM8 m x y=some (atV m i j (lim m.X x) (lim m.Y y)):=by
 obtain⟨i,hi,ei⟩:=cf5 h.x x
 obtain⟨j,hj,ej⟩:=cf5 h.y y
 refine⟨i,j,hi,hj,?_⟩
 obtain⟨k0,k1,k2,k3,k4,k5⟩:=hi.nd h.x
 obtain⟨l0,l1,l2,l3,l4,l5⟩:=hj.nd h.y
 have ly:=h.y.most
 have a:=fun j hj=>ch8 h (j:=j) hi (h.el i j (by omega) hj).1 (h.el i j (by omega) hj).2 (h.el (i+1) j (by omega) hj).1 (h.el (i+1) j (by omega) hj).2
 unfold aM8
 rw[ei,ej]
 simp only[as5]
 rw[j5 (by omega) (by omega),show(j:Int)+1=((j+1:Nat):Int)from rfl,C7 m.Y j (by omega),as5,C7 m.Y (j+1) l0,as5,eg9 h hi (by omega),as5,eg9 h hi l0,as5,
  <-N4 (by omega:j<m.Y.length),<-N4 l0,cJ5 l1 l2 l3 l4 l5 (a j (by omega)).1 (a j (by omega)).2 (a (j+1) l0).1 (a (j+1) l0).2]
 rfl
theorem ed9 {m:SMap}(h:bo7 m=true)(x y:Int):∃i j,bl6 m.X (lim m.X x) i/\bl6 m.Y (lim m.Y y) j/\Y2 m x y=some (atV m i j (lim m.X x) (lim m.Y y)):=by
 obtain⟨i,j,hi,hj,e⟩:=eW5 (bZ3 h) x y
 refine⟨i,j,hi,hj,?_⟩
 unfold Y2
 rw[ao3,h]
 simp only[as5,aX0,fh5]
 rw[e]
 rfl
def cuV (c:Q2)(i:Nat)(v:Int):Int:=itp (nd c.X i) (nd c.X (i+1)) (nd c.Y i) (nd c.Y (i+1)) v
theorem dJ4 {l:List Int}(h:bz5 l)(x:Int):∃i,bl6 l (lim l x) i:=by
 obtain⟨i,hi,_⟩:=cf5 h x
 exact⟨i,hi⟩
theorem eQ2 {l:List Int}(h:bz5 l)(x:Int):lim l x=min (max x (nd l 0)) (nd l (l.length-1)):=by
 have h2:=h.two
 unfold lim
 rw[bE4 l (by omega),bf2 l (by omega),N4 (by omega),N4 (by omega)]
theorem bz5.nlt {l:List Int}(h:bz5 l){i j:Nat}(h1:i<j)(h2:j<l.length):nd l i<nd l j:=by rw[N4 h2,N4 (by omega)];exact h.lt j i h2 h1
theorem bz5.nle {l:List Int}(h:bz5 l){i j:Nat}(h1:i<=j)(h2:j<l.length):nd l i<=nd l j:=by rw[N4 h2,N4 (by omega)];exact h.le j i h2 h1
theorem du8 {l:List Int}(h:bz5 l){v:Int}{i:Nat}(hi:bl6 l v i)(f:Nat->Int){c:Nat}(hc:c<l.length)(e:v=nd l c):itp (nd l i) (nd l (i+1)) (f i) (f (i+1)) v=f c:=by
 obtain⟨k0,k1,k2,k3,_,_⟩:=hi.nd h
 subst e
 have c1:i<=c:=by
  rcases cZ8 c i with q|q
  ·have:=h.nlt q (by omega);omega
  ·exact q
 have c2:c<=i+1:=by
  rcases cZ8 (i+1) c with q|q
  ·have:=h.nlt q hc;omega
  ·exact q
 rcases(show c=i\/c=i+1 by omega)with rfl|rfl
 ·exact du7 ..
 ·exact dd6 k3
theorem ew6 {c:Q2}(h:dL5 c)(x:Int):∃i,bl6 c.X (lim c.X x) i/\aE9 c x=some (cuV c i (lim c.X x)):=by
 obtain⟨i,hi⟩:=dJ4 h.x x
 refine⟨i,hi,?_⟩
 have h2:=h.x.two
 have h3:=h.x.most
 have hyl:=h.yl
 have hl:=eQ2 h.x x
 have h0l:=h.x.nlt (i:=0) (j:=c.X.length-1) (by omega) (by omega)
 have gx0:D4 c.X 0=some (nd c.X 0):=by have:=C7 c.X 0 (by omega);rw[N4 (by omega)];exact this
 have gy0:D4 c.Y 0=some (nd c.Y 0):=by have:=C7 c.Y 0 (by omega);rw[N4 (by omega)];exact this
 have ew:j7 ((c.X.length:Int)-1)=((c.X.length-1:Nat):Int):=by rw[j5 (by omega) (by omega)];omega
 have gxl:D4 c.X ((c.X.length-1:Nat):Int)=some (nd c.X (c.X.length-1)):=by rw[C7 _ _ (by omega),N4 (by omega)]
 have gyl:D4 c.Y ((c.X.length-1:Nat):Int)=some (nd c.Y (c.X.length-1)):=by rw[C7 _ _ (by omega),N4 (by omega)]
 unfold aE9
 rw[gx0,as5]
 by_cases q0:x<=nd c.X 0
 ·have e:=du8 h.x hi (fun j=>nd c.Y j) (c:=0) (by omega) (by omega)
  rw[fi0 q0,fh8,gy0]
  unfold cuV
  rw[e];rfl
 ·rw[fi1 q0,fh5,ew,gxl,as5]
  by_cases q1:x>=nd c.X (c.X.length-1)
  ·have e:=du8 h.x hi (fun j=>nd c.Y j) (c:=c.X.length-1) (by omega) (by omega)
   rw[fi0 q1,fh8,gyl]
   unfold cuV
   rw[e];rfl
  ·have elim:lim c.X x=x:=by omega
   rw[elim]at hi|-
   obtain⟨k0,k1,k2,k3,k4,k5⟩:=hi.nd h.x
   obtain⟨k,r1,r2,r3,r4⟩:=aS2 c.X.length (by omega) (fun x0=>al3 x0 c x) (fun i=>decide (nd c.X i>x)) (fun j hj=>by
    unfold al3
    rw[C7 c.X j hj,N4 hj];rfl)
   have hk:k=i+1:=by
    have hkl:k<c.X.length:=by
     rcases cZ8 k c.X.length with q|q
     ·exact q
     ·have:=r3 (by omega)
      rw[fi3,show k-1=c.X.length-1 by omega]at this
      omega
    have a1:=r4 hkl
    rw[fi2]at a1
    have hk0:0<k:=by
     rcases dR1 k with q|q
     ·subst q;omega
     ·exact q
    have a2:=r3 hk0
    rw[fi3]at a2
    have b1:i<k:=by
     rcases cZ8 i k with q|q
     ·exact q
     ·have:=h.x.nle q (by omega);omega
    have b2:k-1<=i:=by
     rcases cZ8 i (k-1)with q|q
     ·have:=h.x.nle (i:=i+1) (j:=k-1) (by omega) (by omega)
      have hseg:=hi.2
      obtain⟨hh,s1,s2,s3⟩:=hi
      rcases s3 with s3|s3
      ·omega
      ·rw[<-N4 hh]at s3;omega
     ·exact q
    omega
   have es:av7 c x=some (i:Int):=by
    unfold av7
    rw[r2,as5,j5 (by omega) (by omega),hk]
    congr 1;omega
   have hb:=bi6 (lo:=-1073741824) (hi:=1073741824) k1 k2 k3 (h.el i (by omega)).1 (h.el i (by omega)).2 (h.el (i+1) k0).1 (h.el (i+1) k0).2
   have y0:=h.el i (by omega)
   have y1:=h.el (i+1) k0
   have hp:=eq9 (a:=x-nd c.X i) (b:=nd c.Y (i+1)-nd c.Y i) (by omega) (by omega) (by omega) (by omega)
   rw[fi1 q1,fh5,es,as5,j5 (n:=(i:Int)+1) (by omega) (by omega),show(i:Int)+1=((i+1:Nat):Int)from rfl,C7 c.Y i (by omega),as5,C7 c.X i (by omega),as5,
    C7 c.Y (i+1) (by omega),as5,C7 c.X (i+1) k0,as5,<-N4,<-N4,<-N4,<-N4]
   rw[j5 (n:=x-nd c.X i) (by omega) (by omega),j5 (n:=nd c.Y (i+1)-nd c.Y i) (by omega) (by omega),j5 (n:=nd c.X (i+1)-nd c.X i) (by omega) (by omega),j5 (n:=(x-nd c.X i)*(nd c.Y (i+1)-nd c.Y i)) (by omega) (by omega),
    bR1 _ _ (by omega) (by omega) (by omega) (by omega),as5]
   unfold cuV
   unfold itp at hb|-
   rw[j5 (by omega) (by omega)]
theorem cM5 {c:Q2}(h:dL5 c){v:Int}{i:Nat}{lo hi:Int}(hs:bl6 c.X v i)(hy:∀j,j<c.X.length->lo<=nd c.Y j/\nd c.Y j<=hi):lo<=cuV c i v/\cuV c i v<=hi:=by
 obtain⟨k0,k1,k2,k3,k4,k5⟩:=hs.nd h.x
 exact bi6 k1 k2 k3 (hy i (by omega)).1 (hy i (by omega)).2 (hy (i+1) k0).1 (hy (i+1) k0).2
theorem cd0 {c:Q2}(h:bx1 c=true)(x:Int):∃i,bl6 c.X (lim c.X x) i/\at9 c x=some (cuV c i (lim c.X x)):=by
 obtain⟨i,hi,e⟩:=ew6 (bm3 h) x
 refine⟨i,hi,?_⟩
 unfold at9
 rw[aq1,h]
 simp only[as5,aX0,fh5]
 rw[e]
 rfl
structure eW1 (t:o7):Prop where
 m:cY8 t.o9
 c:dL5 t.C3
 e:∀i,i<t.C3.X.length->0<=nd t.C3.Y i/\nd t.C3.Y i<=1000
 ed:∀i,i+1<t.C3.X.length->nd t.C3.Y (i+1)<=nd t.C3.Y i
 z:∀i j,i<t.o9.X.length->j<t.o9.Y.length->0<=zz t.o9 i j/\zz t.o9 i j<=10000
 za:∀i j,i<t.o9.X.length->j+1<t.o9.Y.length->zz t.o9 i j<=zz t.o9 i (j+1)
theorem dL3 {m:SMap}{i j:Nat}(h:i<m.Z.length):zz m i j=nd m.Z[i] j:=by
 have e:m.Z.getD i []=m.Z[i]:=by rw[cY3,aW9 h];rfl
 unfold zz nd
 rw[e]
theorem ew0 {t:o7}(h:aZ1 t=true):eW1 t:=by
 unfold aZ1 at h
 simp only[aI0]at h
 obtain⟨⟨⟨⟨h1,h2⟩,h3⟩,h4⟩,h5⟩:=h
 have hm:=bZ3 h1
 have hc:=bm3 h2
 rw[bx8]at h3 h5
 have zl:=hm.zl
 have yl:=hc.yl
 refine⟨hm,hc,fun i hi=>?_,fun i hi=>?_,fun i j hi hj=>?_,fun i j hi hj=>?_⟩
 ·rw[N4 (by omega)]
  have:=h3 _ (bd2 (by omega:i<t.C3.Y.length))
  simp[inR]at this;omega
 ·have:=bj4.1 h4 i (by omega)
  rw[fi2]at this
  exact this
 ·have hz:i<t.o9.Z.length:=by omega
  have:=h5 _ (bd2 hz)
  rw[aI0,bx8]at this
  have lr:=hm.rl i hz
  have:=this.1 _ (bd2 (by omega:j<t.o9.Z[i].length))
  rw[dL3 hz,N4 (by omega)]
  simp[inR]at this;omega
 ·have hz:i<t.o9.Z.length:=by omega
  have:=h5 _ (bd2 hz)
  rw[aI0]at this
  have lr:=hm.rl i hz
  have:=bj4.1 this.2 j (by omega)
  rw[fi2]at this
  rw[dL3 hz,dL3 hz]
  exact this
theorem dB1 {t:o7}(h:aZ1 t=true):bo7 t.o9=true:=by
 unfold aZ1 at h
 simp only[aI0]at h
 exact h.1.1.1.1
theorem dB0 {t:o7}(h:aZ1 t=true):bx1 t.C3=true:=by
 unfold aZ1 at h
 simp only[aI0]at h
 exact h.1.1.1.2
theorem ec6 {t:o7}(h:aZ1 t=true)(late:Int):∃e,at9 t.C3 late=some e/\0<=e/\e<=1000/\
  ∀o f c,0<=o->o<=10000->0<=f->f<=c->1<=c->c<=8->Y7 t o late f c=some ((o*e*f)/(1000*c)):=by
 obtain⟨i,hi,e⟩:=cd0 (dB0 h) late
 have hb:=cM5 (ew0 h).c hi (ew0 h).e
 refine⟨_,e,hb.1,hb.2,fun o f c o0 o1 f0 f1 c0 c1=>?_⟩
 generalize cuV t.C3 i (lim t.C3.X late)=v at hb e
 have p0:0<=o*v:=eT3 o0 hb.1
 have p1:o*v<=10000*1000:=eR5 o1 hb.2 hb.1 (by omega)
 have q0:0<=o*v*f:=eT3 p0 f0
 have q1:o*v*f<=10000*1000*8:=eR5 p1 (by omega) f0 (by omega)
 unfold Y7
 rw[e,as5,j5 (n:=o*v) (by omega) (by omega),j5 (n:=o*v*f) (by omega) (by omega),j5 (n:=1000*c) (by omega) (by omega)]
 unfold bn3
 rw[if_neg (by omega),as5,cz5 q0]
 have r0:0<=o*v*f/(1000*c):=eP0 q0 (by omega)
 have r1:o*v*f/(1000*c)<=o*v*f:=eN1 _ q0
 have:=j5 (n:=o*v*f/(1000*c)) (by omega) (by omega)
 unfold j7 at this
 rw[this]
def sAt (m:SMap)(x y:Int):Int:=(Y2 m x y).getD 0
def cAt (c:Q2)(x:Int):Int:=(at9 c x).getD 0
theorem cT0 {m:SMap}(h:bo7 m=true)(x y:Int):Y2 m x y=some (sAt m x y):=by
 obtain⟨i,j,_,_,e⟩:=ed9 h x y
 unfold sAt;rw[e];rfl
theorem dE2 {c:Q2}(h:bx1 c=true)(x:Int):at9 c x=some (cAt c x):=by
 obtain⟨i,_,e⟩:=cd0 h x
 unfold cAt;rw[e];rfl
theorem cf4 {m:SMap}(h:bo7 m=true)(x y:Int){lo hi:Int}(hz:∀i j,i<m.X.length->j<m.Y.length->lo<=zz m i j/\zz m i j<=hi):lo<=sAt m x y/\sAt m x y<=hi:=by
 obtain⟨i,j,a,b,e⟩:=ed9 h x y
 have:=dD6 (bZ3 h) a b hz
 unfold sAt;rw[e];exact this
theorem cc7 {c:Q2}(h:bx1 c=true)(x:Int){lo hi:Int}(hy:∀j,j<c.X.length->lo<=nd c.Y j/\nd c.Y j<=hi):lo<=cAt c x/\cAt c x<=hi:=by
 obtain⟨i,a,e⟩:=cd0 h x
 have:=cM5 (bm3 h) a hy
 unfold cAt;rw[e];exact this
theorem ba1 {lo hi x:Int}:inR lo hi x=true↔lo<=x/\x<=hi:=by
 unfold inR
 rw[aI0,fi2,fi2]
theorem fc9 {m:SMap}(h:bo7 m=true){lo hi:Int}(hz:∀r∈m.Z,r.all (inR lo hi)=true):∀i j,i<m.X.length->j<m.Y.length->lo<=zz m i j/\zz m i j<=hi:=by
 intro i j hi' hj
 have k:=bZ3 h
 have hiz:i<m.Z.length:=by have:=k.zl;omega
 have hjz:j<m.Z[i].length:=by have:=k.rl i hiz;omega
 have:=hz _ (bd2 hiz)
 rw[bx8]at this
 have:=this _ (bd2 hjz)
 rw[bU8 hiz hjz]
 exact ba1.1 this
theorem eU2 {c:Q2}(h:bx1 c=true){lo hi:Int}(hy:c.Y.all (inR lo hi)=true):∀j,j<c.X.length->lo<=nd c.Y j/\nd c.Y j<=hi:=by
 intro j hj
 have k:=bm3 h
 have hjy:j<c.Y.length:=by have:=k.yl;omega
 rw[bx8]at hy
 rw[N4 hjy]
 exact ba1.1 (hy _ (bd2 hjy))
structure eV3 (t:o7):Prop where
 m:bo7 t.Air=true
 c:bx1 t.L4=true
 z:∀i j,i<t.Air.X.length->j<t.Air.Y.length->0<=zz t.Air i j/\zz t.Air i j<=1048576
 y:∀j,j<t.L4.X.length->100<=nd t.L4.Y j/\nd t.L4.Y j<=3000
theorem eW2 {t:o7}(h:cV8 t=true):eV3 t:=by
 unfold cV8 at h
 simp only[aI0]at h
 obtain⟨⟨⟨h1,h2⟩,h3⟩,h4⟩:=h
 refine⟨h1,h2,fc9 h1 fun r hr=>?_,eU2 h2 h4⟩
 have:=bx8.1 h3 r hr
 unfold cI8 at this
 rw[aI0]at this
 exact this.1
def chV (t:o7)(s p q:Int):Int:=min 1048576 (sAt t.Air s p*cAt t.L4 q/1000)
theorem aV0 {a b A B:Int}(a0:0<=a)(a1:a<=A)(b0:0<=b)(b1:b<=B):0<=a*b/\a*b<=A*B:=⟨eT3 a0 b0,eR5 a1 b1 b0 (by omega)⟩
theorem da8 {t:o7}(h:cV8 t=true)(s p q:Int):aC1 t s p q=some (chV t s p q)/\0<=chV t s p q/\chV t s p q<=1048576:=by
 have k:=eW2 h
 have b1:=cf4 k.m s p k.z
 have b2:=cc7 k.c q k.y
 have b3:=aV0 (A:=1048576) (B:=3000) b1.1 b1.2 (by omega) b2.2
 unfold aC1 chV
 rw[cT0 k.m,dE2 k.c]
 simp only[as5]
 rw[j5 (by omega) (by omega),bR1 _ _ (by omega) (by omega) (by omega) (by omega)]
 simp only[as5,aq6]
 exact⟨trivial,by omega,by omega⟩
theorem R5 {lo hi x:Int}(h0:lo<=x)(h1:x<=hi):inR lo hi x=true:=ba1.2 ⟨h0,h1⟩
theorem ch6 {t:o7}(h:cV8 t=true){s p q:Int}(s0:0<=s/\s<=12000)(p0:50<=p/\p<=3000)(q0:-40<=q/\q<=150):aC0 t s p q=some (chV t s p q,0):=by
 unfold aC0
 rw[bG8,h,af6,af6,af6,R5 s0.1 s0.2,R5 p0.1 p0.2,R5 q0.1 q0.2,(da8 h s p q).1]
 rfl
structure fe0 (t:o7)(s w q p e:Int):Prop where
 out:e=0\/e=2\/e=7
 ran:e=2↔¬(0<=w/\w<=1048576)
 fit:e=0->50<=p/\p<=3000/\w<=chV t s p q
 low:e=0->50<p->chV t s (p-1) q<w
 big:e=7->chV t s 3000 q<w
theorem dx5 {t:o7}(h:cV8 t=true){s w q:Int}(s0:0<=s/\s<=12000)(q0:-40<=q/\q<=150):∃p e,av2 t s w q=some (p,e)/\fe0 t s w q p e:=by
 unfold av2
 rw[bG8,h,af6,af6,af6,R5 s0.1 s0.2,R5 q0.1 q0.2]
 simp only[as5,aX0,fh5]
 cases hw:inR 0 1048576 w
 ·have hw2:¬(0<=w/\w<=1048576):=fun h2=>by rw[ba1.2 h2]at hw;cases hw
  exact⟨0,2,rfl,.inr (.inl rfl),⟨fun _=>hw2,fun _=>rfl⟩,fun h=>(by cases h),fun h=>(by cases h),fun h=>(by cases h)⟩
 ·have hw2:=ba1.1 hw
  simp only[aX0,fh5]
  obtain⟨k,k1,k2,k3,k4⟩:=aS2 2951 (by omega) (fun x0=>ak2 x0 t s q w) (fun i=>decide (chV t s (50+(i:Int)) q>=w)) (fun i hi=>by
   unfold ak2
   rw[j5 (by omega) (by omega),(da8 h s _ q).1]
   rfl)
  have k2':Q0 2951 (fun x0=>ak2 x0 t s q w)=some (k:Int):=k2
  rw[k2']
  simp only[as5]
  rw[j5 (n:=50+(k:Int)) (by omega) (by omega)]
  by_cases hk:k=2951
  ·subst hk
   refine⟨0,7,rfl,.inr (.inr rfl),⟨fun h=>(by cases h),fun h=>absurd hw2 h⟩,fun h=>(by cases h),fun h=>(by cases h),fun _=>?_⟩
   have:=k3 (by omega)
   rw[fi3]at this
   have e:(50:Int)+((2951-1:Nat):Int)=3000:=by omega
   rw[e]at this
   omega
  ·have h4:=k4 (by omega)
   rw[fi2]at h4
   rw[fi1 (show¬(50+(k:Int)>3000) by omega)]
   refine⟨50+(k:Int),0,rfl,.inl rfl,⟨fun h=>(by cases h),fun h=>absurd hw2 h⟩,fun _=>⟨by omega,by omega,by omega⟩,fun _ hp=>?_,fun h=>(by cases h)⟩
   have h3:=k3 (by omega)
   rw[fi3]at h3
   have e:(50:Int)+((k-1:Nat):Int)=50+(k:Int)-1:=by omega
   rw[e]at h3
   omega
def eb0 (s:Int):Int:=-((-(s*65536*23040))/60000000)
theorem dJ0 {s:Int}(s0:0<=s/\s<=12000):0<=eb0 s/\eb0 s<=310000:=by unfold eb0;omega
def dc3 (s p:Int):Int:=eb0 s*p/1024
theorem eB4 {s p:Int}(s0:0<=s/\s<=12000)(p0:50<=p/\p<=3000):bd9 s p=some (dc3 s p,0)/\0<=dc3 s p/\dc3 s p<=930000000:=by
 have r:=dJ0 s0
 have b:=aV0 (B:=3000) r.1 r.2 (show 0<=p by omega) p0.2
 unfold bd9 ax7 am8
 rw[af6,af6,R5 s0.1 s0.2,R5 p0.1 p0.2]
 rw[show((decide (s<0))||(decide (s>20000)))=false by rw[bG1];exact⟨fi1 (by omega),fi1 (by omega)⟩]
 rw[j5 (n:=s*65536) (by omega) (by omega),j5 (n:=s*65536*23040) (by omega) (by omega),bW0 _ _ 2 (by omega) (by omega) (by omega) (by omega) (.inr rfl)]
 simp only[as5,aX0,fh5]
 rw[if_neg (by decide)]
 have er:-((-(s*65536*23040))/60000000)=eb0 s:=rfl
 unfold dc3
 rw[er,j5 (n:=eb0 s*p) (by omega) (by omega),cz5 b.1,j5 (by omega) (by omega)]
 exact⟨rfl,by omega,by omega⟩
structure eK6 (b:L2):Prop where
 i:100<=b.ai9/\b.ai9<=1048576
 f:0<=b.ap4/\b.ap4<=65536
 t:0<=b.J2/\b.J2<=65536
 v:1<=b.aO8/\b.aO8<=65536
 fi:0<=b.P1/\b.P1<=1023
 ev:1<=b.K9/\b.K9<=1024
 de:0<=b.aX5/\b.aX5<=20
def aV6 (b:L2):Bool:=inR 100 1048576 b.ai9&&inR 0 65536 b.ap4&&inR 0 65536 b.J2&&inR 1 65536 b.aO8&&inR 0 1023 b.P1&&inR 1 1024 b.K9&&inR 0 20 b.aX5
theorem dh4 (b:L2):aj6 b=some (aV6 b):=by
 unfold aj6 aV6
 have e:∀x lo hi,F8 x lo hi=some (inR lo hi x):=fun _ _ _=>rfl
 simp only[e,as5]
 cases inR 100 1048576 b.ai9<;>cases inR 0 65536 b.ap4<;>cases inR 0 65536 b.J2<;>cases inR 1 65536 b.aO8<;>cases inR 0 1023 b.P1<;>cases inR 1 1024 b.K9<;>rfl
theorem bs6 {b:L2}(h:aV6 b=true):eK6 b:=by
 unfold aV6 at h
 simp only[aI0,ba1]at h
 obtain⟨⟨⟨⟨⟨⟨h1,h2⟩,h3⟩,h4⟩,h5⟩,h6⟩,h7⟩:=h
 exact⟨h1,h2,h3,h4,h5,h6,h7⟩
structure fe3 (b:L2)(f p n e:Int):Prop where
 out:e=0\/e=7
 fit:e=0->0<=n/\n<=1000/\f<=b.J2*n*(1013-p)/1000
 low:e=0->0<n->b.J2*(n-1)*(1013-p)/1000<f
 big:e=7->b.J2*1000*(1013-p)/1000<f
theorem dA7 {b:L2}(h:aV6 b=true){f p:Int}(f0:0<=f/\f<=1099511627776)(p0:50<=p/\p<=1013):∃n e,av3 b f p=some (n,e)/\fe3 b f p n e:=by
 have kb:=(bs6 h).t
 have v:∀k:Nat,k<=1000->(j7 (cZ1 (j7 ((j7 (b.J2*(k:Int)))*(j7 (1013-p)))) 1000))=b.J2*(k:Int)*(1013-p)/1000:=by
  intro k hk
  have b1:=aV0 (A:=65536) (B:=1000) kb.1 kb.2 (show 0<=(k:Int) by omega) (by omega)
  have b2:=aV0 (A:=65536000) (B:=1000) b1.1 (by omega) (show 0<=1013-p by omega) (by omega)
  rw[j5 (n:=b.J2*(k:Int)) (by omega) (by omega),j5 (n:=1013-p) (by omega) (by omega),j5 (n:=b.J2*(k:Int)*(1013-p)) (by omega) (by omega),cz5 b2.1,j5 (by omega) (by omega)]
 unfold av3
 rw[dh4,h,af6,af6,R5 f0.1 f0.2,R5 p0.1 p0.2]
 simp only[as5,aX0,fh5]
 obtain⟨k,k1,k2,k3,k4⟩:=aS2 1001 (by omega) (fun x0=>ak3 x0 b p f) (fun i=>decide (b.J2*(i:Int)*(1013-p)/1000>=f)) (fun i hi=>by
  unfold ak3
  rw[v i (by omega)])
 have k2':Q0 1001 (fun x0=>ak3 x0 b p f)=some (k:Int):=k2
 rw[k2']
 simp only[as5]
 by_cases hk:k=1001
 ·subst hk
  refine⟨0,7,rfl,.inr rfl,fun h=>(by cases h),fun h=>(by cases h),fun _=>?_⟩
  have:=k3 (by omega)
  rw[fi3]at this
  have e:((1001-1:Nat):Int)=1000:=by omega
  rw[e]at this
  omega
 ·have h4:=k4 (by omega)
  rw[fi2]at h4
  rw[fi1 (show¬((k:Int)>1000) by omega)]
  refine⟨(k:Int),0,rfl,.inl rfl,fun _=>⟨by omega,by omega,by omega⟩,fun _ hp=>?_,fun h=>(by cases h)⟩
  have h3:=k3 (by omega)
  rw[fi3]at h3
  have e:((k-1:Nat):Int)=(k:Int)-1:=by omega
  rw[e]at h3
  omega
def cQ7 (t:o7)(s c:Int):Int:=sAt t.o9 s c
def bN6 (t:o7)(o l f n:Int):Int:=o*cAt t.C3 l*f/(1000*n)
theorem aZ0 (x lo hi:Int):H5 x lo hi=some (inR lo hi x):=rfl
theorem eq0 {t:o7}(h:aZ1 t=true){s c:Int}(s0:0<=s/\s<=12000)(c0:0<=c/\c<=1048576):ah2 t s c=some (cQ7 t s c,0)/\0<=cQ7 t s c/\cQ7 t s c<=10000:=by
 have k:=dB1 h
 have b:=cf4 k s c (ew0 h).z
 refine⟨?_,b.1,b.2⟩
 unfold ah2
 rw[bp1,h,aZ0,aZ0,R5 s0.1 s0.2,R5 c0.1 c0.2,cT0 k]
 rfl
theorem dK5 {t:o7}(h:aZ1 t=true){o l f n:Int}(o0:0<=o/\o<=10000)(f0:0<=f/\f<=n)(n0:1<=n/\n<=8):Y7 t o l f n=some (bN6 t o l f n)/\0<=bN6 t o l f n/\bN6 t o l f n<=10000:=by
 obtain⟨e,h1,h2,h3,h4⟩:=ec6 h l
 unfold bN6 cAt
 rw[h4 o f n o0.1 o0.2 f0.1 f0.2 n0.1 n0.2,h1]
 have b1:=aV0 (A:=10000) (B:=1000) o0.1 o0.2 h2 h3
 have b2:=aV0 (A:=10000000) b1.1 (by omega) f0.1 f0.2
 refine⟨rfl,eP0 b2.1 (by omega),?_⟩
 have:o*e*f/(1000*n)<=10000000*n/(1000*n):=Int.ediv_le_ediv (by omega) b2.2
 rw[show 10000000*n=10000*(1000*n) by omega,Int.mul_ediv_cancel _ (by omega)]at this
 exact this
theorem eo1 {t:o7}(h:aZ1 t=true){s w:Int}(s0:0<=s/\s<=12000):∃c e,ap3 t s w=some (c,e)/\(e=0\/e=7)/\
  (e=0->nd t.o9.Y 0<=c/\c<=nd t.o9.Y (t.o9.Y.length-1)/\w<=sAt t.o9 s c/\(nd t.o9.Y 0<c->sAt t.o9 s (c-1)<w))/\(e=7->sAt t.o9 s (nd t.o9.Y (t.o9.Y.length-1))<w):=by
 have k:=dB1 h
 have ky:=(bZ3 k).y
 have y2:=ky.two
 have ym:=ky.most
 have e0:=ky.el 0 (by omega)
 have e1:=ky.el (t.o9.Y.length-1) (by omega)
 have le:=ky.le (t.o9.Y.length-1) 0 (by omega) (by omega)
 rw[<-N4 (by omega:0<t.o9.Y.length)]at e0 le
 rw[<-N4 (by omega:t.o9.Y.length-1<t.o9.Y.length)]at e1 le
 have g0:D4 t.o9.Y 0=some (nd t.o9.Y 0):=by have:=C7 t.o9.Y 0 (by omega);rw[N4 (by omega)];exact this
 have ew:j7 ((t.o9.Y.length:Int)-1)=((t.o9.Y.length-1:Nat):Int):=by rw[j5 (by omega) (by omega)];omega
 have gl:D4 t.o9.Y ((t.o9.Y.length-1:Nat):Int)=some (nd t.o9.Y (t.o9.Y.length-1)):=by rw[C7 _ _ (by omega),N4 (by omega)]
 unfold ap3
 rw[bp1,h,aZ0,R5 s0.1 s0.2]
 simp only[as5,aX0,fh5]
 rw[g0,ew]
 simp only[as5]
 rw[gl]
 simp only[as5]
 generalize nd t.o9.Y 0=a at*
 generalize nd t.o9.Y (t.o9.Y.length-1)=b at*
 rw[j5 (n:=b-a) (by omega) (by omega),j5 (n:=b-a+1) (by omega) (by omega)]
 obtain⟨n,hn⟩:∃n:Nat,b-a+1=n:=⟨(b-a+1).toNat,by omega⟩
 rw[hn]
 obtain⟨j,k1,k2,k3,k4⟩:=aS2 n (by omega) (fun x0=>am1 x0 t s a w) (fun i=>decide (sAt t.o9 s (a+(i:Int))>=w)) (fun i hi=>by
  unfold am1
  rw[j5 (by omega) (by omega),cT0 k];rfl)
 rw[k2]
 simp only[as5]
 by_cases hj:j=n
 ·subst hj
  refine⟨0,7,by simp,.inr rfl,fun h=>(by cases h),fun _=>?_⟩
  have:=k3 (by omega)
  rw[fi3,show a+((j-1:Nat):Int)=b by omega]at this
  omega
 ·have:((j:Int)==(n:Int))=false:=by
   rw[beq_eq_false_iff_ne];omega
  rw[this,j5 (n:=a+(j:Int)) (by omega) (by omega)]
  have h4:=k4 (by omega)
  rw[fi2]at h4
  refine⟨a+(j:Int),0,rfl,.inl rfl,fun _=>⟨by omega,by omega,by omega,fun hp=>?_⟩,fun h=>(by cases h)⟩
  have h3:=k3 (by omega)
  rw[fi3,show a+((j-1:Nat):Int)=a+(j:Int)-1 by omega]at h3
  omega
structure ey5 (t:o7)(o w n f l:Int):Prop where
 f0:0<=f
 f1:f<=n
 l0:0<=l
 l1:l<=2560
 fit:f=0\/bN6 t o 2560 f n<=w
 more:f<n->w<bN6 t o 2560 (f+1) n
 late:l<2560->bN6 t o l f n<=w
 less:0<l->w<bN6 t o (l-1) f n
theorem cT3 {t:o7}(h:aZ1 t=true){o w n:Int}(o0:0<=o/\o<=10000)(n0:1<=n/\n<=8):∀k:Nat,(k:Int)<=n->((k:Int)<n->w<bN6 t o 2560 ((k:Int)+1) n)->
  ∃f,L7 (am3 t w n (o,0)) (k:Int)=some (.inl f)/\0<=f/\f<=n/\(f=0\/bN6 t o 2560 f n<=w)/\(f<n->w<bN6 t o 2560 (f+1) n)
 |0,_,hm=>⟨0,D9 (by unfold am3;rfl),dr2 _,by omega,.inl rfl,hm⟩
 |k+1,hk,hm=>by
  have he:=(dK5 h (l:=2560) (f:=((k+1:Nat):Int)) o0 ⟨by omega,hk⟩ n0).1
  have hb:am3 t w n (o,0) ((k+1:Nat):Int)=some (bif decide (bN6 t o 2560 ((k+1:Nat):Int) n<=w)then .inr (.inl ((k+1:Nat):Int))else .inl (k:Int)):=by
   unfold am3
   rw[fi0 (show((k+1:Nat):Int)>0 by omega),he,j5 (by omega) (by omega),show((k+1:Nat):Int)-1=(k:Int) by omega]
   simp only[fh8,as5]
   cases decide (bN6 t o 2560 ((k+1:Nat):Int) n<=w)<;>rfl
  by_cases hc:bN6 t o 2560 ((k+1:Nat):Int) n<=w
  ·rw[fi0 hc]at hb
   exact⟨_,D9 hb,by omega,hk,.inr hc,hm⟩
  ·rw[fi1 hc]at hb
   rw[G8 hb]
   exact cT3 h o0 n0 k (by omega) (fun _=>by rw[show(k:Int)+1=((k+1:Nat):Int) by omega];omega)
theorem et2 {t:o7}(h:aZ1 t=true){s c w n:Int}(s0:0<=s/\s<=12000)(c0:0<=c/\c<=1048576)(w0:0<=w)(n0:1<=n/\n<=8):∃f l,am2 t s c w n=some (f,l,0)/\ey5 t (cQ7 t s c) w n f l:=by
 obtain⟨h1,h2⟩:=eq0 h s0 c0
 unfold am2
 rw[h1]
 simp only[as5]
 rw[show(((0:Int) !=0)=false)from rfl,aZ0,R5 n0.1 n0.2,fi1 (show¬w<0 by omega)]
 simp only[fh5,as5,aX0,Bool.or_self]
 generalize cQ7 t s c=o at h2
 obtain⟨k,hk⟩:∃k:Nat,n=k:=⟨n.toNat,by omega⟩
 obtain⟨f,f1,f2,f3,f4,f5⟩:=cT3 h (w:=w) h2 n0 k (by omega) (fun h=>by omega)
 rw[<-hk]at f1
 rw[f1]
 simp only[as5]
 obtain⟨j,k1,k2,k3,k4⟩:=aS2 2560 (by omega) (fun x0=>al1 x0 t o f n w) (fun i=>decide (bN6 t o (i:Int) f n<=w)) (fun i hi=>by
  unfold al1
  rw[(dK5 h h2 ⟨f2,f3⟩ n0).1];rfl)
 have k2':Q0 2560 (fun x0=>al1 x0 t o f n w)=some (j:Int):=k2
 rw[k2']
 refine⟨f,(j:Int),rfl,f2,f3,by omega,by omega,f4,f5,fun hl=>?_,fun hl=>?_⟩
 ·have:=k4 (by omega)
  rwa[fi2]at this
 ·have:=k3 (by omega)
  rw[fi3,show((j-1:Nat):Int)=(j:Int)-1 by omega]at this
  omega
theorem ec5 {t:o7}(h:aZ1 t=true){s c l f n:Int}(s0:0<=s/\s<=12000)(c0:0<=c/\c<=1048576)(l0:0<=l/\l<=2560)(f0:0<=f/\f<=n)(n0:1<=n/\n<=8):aw4 t s c l f n=some (bN6 t (cQ7 t s c) l f n,0):=by
 obtain⟨h1,h2⟩:=eq0 h s0 c0
 unfold aw4
 rw[h1]
 simp only[as5]
 rw[show(((0:Int) !=0)=false)from rfl,aZ0,aZ0,aZ0,R5 l0.1 l0.2,R5 n0.1 n0.2,R5 f0.1 f0.2,(dK5 h h2 f0 n0).1]
 rfl
def cF4 (n f i:Int):Bool:=decide ((i+1)*f/n>i*f/n)
theorem eE6 {a b:Int}(ha:0<=a)(hb:0<b)(hm:a<=9223372036854775807):bn3 .i64 a b=some (a/b):=by
 have h1:a/b<=a:=eN1 _ ha
 have h2:0<=a/b:=eP0 ha (by omega)
 unfold bn3
 rw[if_neg (by omega),cz5 ha]
 have:=j5 (n:=a/b) (by omega) (by omega)
 unfold j7 at this
 rw[this]
theorem dH9 {n:Nat}{f:Int}(n0:1<=n/\n<=8)(f0:0<=f/\f<=n):ar9 (n:Int) f 0=some ((dB7 n).map (fun i:Nat=>cF4 n f (i:Int)),0):=by
 unfold ar9
 rw[aZ0,aZ0,aZ0,R5 (by omega) (by omega),R5 f0.1 f0.2]
 simp only[as5,aX0,fh5]
 rw[show inR 0 1099511627776 0=true from rfl,bV7 n (by omega)]
 simp only[as5,aX0,fh5]
 obtain⟨u,e,hu⟩:=ag5 (cE8 n false).length (by simp;omega) (as0 (n:Int) f 0) (fun i u=>u.length=n/\∀j,j<i->u[j]? =some (cF4 n f (j:Int))) (cE8 n false) ⟨by simp,fun j hj=>by omega⟩ (fun j hj u hu=>by
  simp only[eH7]at hj
  obtain⟨hl,hg⟩:=hu
  unfold as0
  have m1:=aV0 (A:=9) (B:=8) (show 0<=(j:Int)+1 by omega) (by omega) f0.1 (by omega)
  have m2:=aV0 (A:=9) (B:=8) (show 0<=(j:Int) by omega) (by omega) f0.1 (by omega)
  have er:cf1 (j7 ((j:Int)+0)) (n:Int)=some (j:Int):=by
   unfold cf1
   rw[if_neg (by omega),Int.add_zero,j5 (by omega) (by omega),Int.tmod_eq_emod_of_nonneg (by omega),Int.emod_eq_of_lt (by omega) (by omega)]
  rw[er]
  simp only[as5]
  rw[j5 (n:=(j:Int)+1) (by omega) (by omega),j5 (n:=((j:Int)+1)*f) (by omega) (by omega),j5 (n:=(j:Int)*f) (by omega) (by omega),eE6 m1.1 (by omega) (by omega),eE6 m2.1 (by omega) (by omega)]
  simp only[as5]
  rw[C7 _ _ (by omega)]
  simp only[as5]
  rw[T9 _ _ _ (by omega)]
  refine⟨_,rfl,by simp[hl],fun i hi=>?_⟩
  rcases cZ8 i j with h|h
  ·rw[fd2 (by omega)];exact hg i h
  ·have:i=j:=by omega
   subst this
   rw[List.getElem?_set_self (by omega)];rfl)
 rw[e]
 simp only[eH7]at hu
 have:u=(dB7 n).map (fun i:Nat=>cF4 n f (i:Int)):=by
  apply List.ext_getElem?
  intro i
  rcases cZ8 i n with h|h
  ·rw[hu.2 i h,List.getElem?_map,List.getElem?_range h];rfl
  ·rw[ed4 (by omega),ed4 (by simp;omega)]
 rw[this]
 rfl
@[ext] structure dC4 where
 bs4:Int
 Low:Int
def aR7 (x:B6):Option Int:=
 bif ((x.Kind==1)||(x.Kind==2))then(some (j7 (2*(j7 (x.p7-1)))))else(some (j7 ((j7 (2*(j7 (x.p7-1))))+1)))
def bf6 (t2:u9):Option u9:=
 ai8 (ai8 (U9 ([]:List j9) t2.j3) fun l=>some (⟨t2.V0,l⟩:u9)) fun(f2:u9)=>some f2
def bz3 (s:j1):Option j1:=
 ai8 (U9 ([]:List Int) s.u7.A3) fun l=>ai8 (bf6 s.k6) fun v=>ai8 (U9 ([]:List A2) s.Next) fun l2=>ai8 (U9 ([]:List A6) s.H3) fun l3=>some (⟨(⟨l,s.u7.as4⟩:o5),s.B1,v,l2,l3,s.Cut⟩:j1)
end Go.Pv
namespace Go.Pv.Ev
open Go Go.Pv
theorem da1 {α:Type}(c:Bool)(x y:α):(bif c then some x else some y)=some (bif c then x else y):=by cases c<;>rfl
theorem eN2 {p:Prop}[Decidable p]{b:Bool}(h:p↔b=true):decide p=b:=by
 cases b
 ·exact fi1 fun hp=>Bool.noConfusion (h.1 hp)
 ·exact fi0 (h.2 rfl)
theorem bS2 {α:Type}[DecidableEq α]:∀{l m:List α},l.Nodup->(∀x∈l,x∈m)->m.length<=l.length->l.Perm m
 |[],m,_,_,h=>by
  have:m=[]:=List.length_eq_zero_iff.1 (Nat.le_zero.1 h)
  rw[this]
 |x::l,m,hn,hs,hl=>by
  have hx:x∈m:=hs x (bN7 ..)
  have hp:=List.perm_cons_erase hx
  rw[List.nodup_cons]at hn
  have hlen:=hp.length_eq
  simp only[br6]at hlen hl
  refine(List.Perm.cons x (bS2 hn.2 (fun y hy=>?_) (by omega))).trans hp.symm
  have hne:y≠x:=fun h=>hn.1 (h▸hy)
  exact(List.mem_erase_of_ne hne).2 (hs y (List.mem_cons_of_mem _ hy))
theorem dZ5 {l:List Int}:(∀k,k<l.length->((k:Int)+1)∈l)↔(∀x∈l,1<=x/\x<=l.length)/\l.Nodup:=by
 have hN:((dB7 l.length).map (fun k:Nat=>(k:Int)+1)).Nodup:=by
  unfold List.Nodup
  rw[List.pairwise_map]
  exact List.Pairwise.imp (fun{a b} h=>by omega) List.pairwise_lt_range
 have hm:∀x:Int,x∈(dB7 l.length).map (fun k:Nat=>(k:Int)+1)↔1<=x/\x<=l.length:=by
  intro x
  rw[cY4]
  constructor
  ·rintro⟨k,hk,rfl⟩
   rw[ej4]at hk
   omega
  ·intro h
   exact⟨(x-1).toNat,by rw[ej4];omega,by omega⟩
 constructor
 ·intro h
  have hp:((dB7 l.length).map (fun k:Nat=>(k:Int)+1)).Perm l:=bS2 hN (fun x hx=>by
   rw[cY4]at hx
   obtain⟨k,hk,rfl⟩:=hx
   exact h k (ej4.1 hk)) (by simp)
  exact⟨fun x hx=>(hm x).1 (hp.mem_iff.2 hx),hp.nodup_iff.1 hN⟩
 ·rintro⟨h1,h2⟩ k hk
  have hp:l.Perm ((dB7 l.length).map (fun k:Nat=>(k:Int)+1)):=bS2 h2 (fun x hx=>(hm x).2 (h1 x hx)) (by simp)
  exact hp.mem_iff.2 ((hm _).2 (by omega))
def idx (v:Int):List Int->Nat->Int
 |[],_=>-1
 |x::l,i=>bif v==x then(i:Int)else idx v l (i+1)
theorem cP2 (v:Int):∀(l:List Int) (i:Nat),(idx v l i= -1/\v∉l)\/∃k:Nat,idx v l i=((i+k:Nat):Int)/\l[k]? =some v
 |[],i=>.inl ⟨rfl,by simp⟩
 |x::l,i=>by
  unfold idx
  cases h:v==x
  ·have hne:v≠x:=by simpa using h
   rcases cP2 v l (i+1)with⟨h1,h2⟩|⟨k,h1,h2⟩
   ·exact .inl ⟨h1,by simp[hne,h2]⟩
   ·exact .inr ⟨k+1,by simp only[fh5];rw[h1];omega,by simpa using h2⟩
  ·have:v=x:=by simpa using h
   exact .inr ⟨0,by simp,by simp[this]⟩
theorem dO7 (v:Int)(l:List Int):decide (idx v l 0>=0)=decide (v∈l):=by
 rcases cP2 v l 0 with⟨h1,h2⟩|⟨k,h1,h2⟩
 ·rw[h1];simp[h2]
 ·rw[h1];simp[List.mem_of_getElem? h2]
theorem dd0 (v:Int):∀(l:List Int) (i:Nat),(ai8 (L8 (fun(i:Int) x (_:Unit)=>bif (v==x)then(some (Fl.ret i))else(some (Fl.next ()))) l (i:Int) ()) fun(t:Unit⊕Int)=>match t with| .inl _=>(some (-1))| .inr r2=>some r2)=some (idx v l i)
 |[],i=>rfl
 |x::l,i=>by
  simp only[L8,idx]
  cases v==x
  ·simpa using dd0 v l (i+1)
  ·rfl
theorem bR8 (s:List Int)(v:Int)(h:s.length<=9223372036854775807):W2 s v=some (idx v s 0):=by
 unfold W2
 have:K7 (s.length:Int) (ao0 s v) ()=L8 (fun(i:Int) x (_:Unit)=>bif (v==x)then(some (Fl.ret i))else(some (Fl.next ()))) s 0 ():=bc6 s h _ ()
 rw[this]
 exact dd0 v s 0
theorem contains_eq (s:List Int)(v:Int)(h:s.length<=9223372036854775807):P5 s v=some (decide (v∈s)):=by
 unfold P5
 rw[bR8 s v h,as5,dO7]
def aE1 (e:o5):Prop:=1<=e.A3.length/\e.A3.length<=8/\0<=e.as4/\e.as4<46080/\(∀x∈e.A3,1<=x/\x<=(e.A3.length:Int))/\e.A3.Nodup
instance (e:o5):Decidable (aE1 e):=by unfold aE1;infer_instance
theorem ek8 {e:o5}(h:(((decide ((e.A3.length:Int)<1))||(decide ((e.A3.length:Int)>8)))|| !((decide (e.as4>=0))&&(decide (e.as4<46080))))=true):¬aE1 e:=by
 rintro⟨h1,h2,h3,h4,_⟩
 simp only[cH8,bY2,fc5,fi2,fi3]at h
 omega
theorem ek9 {e:o5}(h:(((decide ((e.A3.length:Int)<1))||(decide ((e.A3.length:Int)>8)))|| !((decide (e.as4>=0))&&(decide (e.as4<46080))))=false):1<=e.A3.length/\e.A3.length<=8/\0<=e.as4/\e.as4<46080:=by
 simp only[bG1,ef2,aI0,fi2,fi3]at h
 omega
theorem ca4 {n:Nat}{p:Nat->Bool}:(ed3 0 n).all p=true↔∀k,k<n->p k=true:=by
 rw[bx8]
 constructor
 ·intro h k hk
  exact h k (by rw[List.mem_range'_1];omega)
 ·intro h k hk
  rw[List.mem_range'_1]at hk
  exact h k (by omega)
theorem ao3 (e:o5):O7 e=some (decide (aE1 e)):=by
 unfold O7 ai0
 have hb:(ai8 (bif ((decide ((e.A3.length:Int)<1))||(decide ((e.A3.length:Int)>8)))then(some true)else(ai8 (some ((decide (e.as4>=0))&&(decide (e.as4<46080)))) fun v=>some (!v))):(Bool->Option Bool)->Option Bool)=fun k=>k (((decide ((e.A3.length:Int)<1))||(decide ((e.A3.length:Int)>8)))|| !((decide (e.as4>=0))&&(decide (e.as4<46080)))):=by
  funext k
  cases((decide ((e.A3.length:Int)<1))||(decide ((e.A3.length:Int)>8)))<;>rfl
 rw[hb]
 cases hh:(((decide ((e.A3.length:Int)<1))||(decide ((e.A3.length:Int)>8)))|| !((decide (e.as4>=0))&&(decide (e.as4<46080))))
 ·obtain⟨h1,h2,h3,h4⟩:=ek9 hh
  have k:=dX8 (mb:=as7 e) (fun i=>(i:Int)+1) (p:=fun i=>decide (((i:Int)+1)∈e.A3)) (b0:=.inl ((e.A3.length:Int)+1)) (b1:=.inr false) e.A3.length (by
   unfold as7
   rw[show decide ((e.A3.length:Int)+1<=(e.A3.length:Int))=false by simp;omega];rfl) (fun k hk=>by
   unfold as7
   simp only[show decide ((k:Int)+1<=(e.A3.length:Int))=true by simp;omega,fh8,contains_eq e.A3 _ (by omega),as5,j5 (n:=(k:Int)+1+1) (by omega) (by omega)]
   cases decide (((k:Int)+1)∈e.A3)<;>rfl)
  simp only[show((0:Nat):Int)+1=1 from rfl]at k
  simp only[fh5]
  rw[k]
  have hP:aE1 e↔(ed3 0 e.A3.length).all (fun i=>decide (((i:Int)+1)∈e.A3))=true:=by
   rw[ca4]
   simp only[fi2]
   rw[dZ5]
   unfold aE1
   constructor
   ·rintro⟨_,_,_,_,h5,h6⟩;exact⟨h5,h6⟩
   ·rintro⟨h5,h6⟩;exact⟨h1,h2,h3,h4,h5,h6⟩
  rw[eN2 hP]
  cases(ed3 0 e.A3.length).all (fun i=>decide (((i:Int)+1)∈e.A3))<;>rfl
 ·simp only[fh8]
  rw[fi1 (ek8 hh)]
end Go.Pv.Ev
namespace Go.Pv
open Go
def k0:B8:=⟨0,100,0⟩
def eK3:A5:=⟨⟨0,0,false⟩,⟨0⟩,[],⟨false,false,0,0,[]⟩,0,⟨0,0⟩⟩
def dI1:M8:=⟨false,false,1000,0,cE8 9 ⟨0,0⟩⟩
def eD4 (n:Nat):A5:=⟨⟨0,0,false⟩,⟨0⟩,cE8 n k0,dI1,0,⟨0,-1⟩⟩
theorem ea6 (n:Nat)(h1:1<=n)(h8:n<=8):P7 [k0] (n:Int)=some (cE8 n k0):=by
 have key:L7 aJ6 (1,aI9 (cE8 n ⟨0,0,0⟩) [k0])=some (.inl ((n:Int),cE8 n k0)):=by
  have:n=1\/n=2\/n=3\/n=4\/n=5\/n=6\/n=7\/n=8:=by omega
  rcases this with rfl|rfl|rfl|rfl|rfl|rfl|rfl|rfl
  ·exact D9 (by rfl)
  ·exact(G8 (s':=(2,[k0,k0])) (by rfl)).trans (D9 (by rfl))
  ·exact(G8 (s':=(2,[k0,k0,⟨0,0,0⟩])) (by rfl)).trans ((G8 (s':=(3,[k0,k0,k0])) (by rfl)).trans (D9 (by rfl)))
  ·exact(G8 (s':=(2,[k0,k0,⟨0,0,0⟩,⟨0,0,0⟩])) (by rfl)).trans ((G8 (s':=(4,[k0,k0,k0,k0])) (by rfl)).trans (D9 (by rfl)))
  ·exact(G8 (s':=(2,[k0,k0,⟨0,0,0⟩,⟨0,0,0⟩,⟨0,0,0⟩])) (by rfl)).trans ((G8 (s':=(4,[k0,k0,k0,k0,⟨0,0,0⟩])) (by rfl)).trans ((G8 (s':=(5,[k0,k0,k0,k0,k0])) (by rfl)).trans (D9 (by rfl))))
  ·exact(G8 (s':=(2,[k0,k0,⟨0,0,0⟩,⟨0,0,0⟩,⟨0,0,0⟩,⟨0,0,0⟩])) (by rfl)).trans ((G8 (s':=(4,[k0,k0,k0,k0,⟨0,0,0⟩,⟨0,0,0⟩])) (by rfl)).trans ((G8 (s':=(6,[k0,k0,k0,k0,k0,k0])) (by rfl)).trans (D9 (by rfl))))
  ·exact(G8 (s':=(2,[k0,k0,⟨0,0,0⟩,⟨0,0,0⟩,⟨0,0,0⟩,⟨0,0,0⟩,⟨0,0,0⟩])) (by rfl)).trans ((G8 (s':=(4,[k0,k0,k0,k0,⟨0,0,0⟩,⟨0,0,0⟩,⟨0,0,0⟩])) (by rfl)).trans ((G8 (s':=(7,[k0,k0,k0,k0,k0,k0,k0])) (by rfl)).trans (D9 (by rfl))))
  ·exact(G8 (s':=(2,[k0,k0,⟨0,0,0⟩,⟨0,0,0⟩,⟨0,0,0⟩,⟨0,0,0⟩,⟨0,0,0⟩,⟨0,0,0⟩])) (by rfl)).trans ((G8 (s':=(4,[k0,k0,k0,k0,⟨0,0,0⟩,⟨0,0,0⟩,⟨0,0,0⟩,⟨0,0,0⟩])) (by rfl)).trans ((G8 (s':=(8,[k0,k0,k0,k0,k0,k0,k0,k0])) (by rfl)).trans (D9 (by rfl))))
 have a1:bA9 (aX8.wrap (([k0]:List B8).length:Int)) (aX8.wrap (n:Int))=some (0,(n:Int)):=by
  have:n=1\/n=2\/n=3\/n=4\/n=5\/n=6\/n=7\/n=8:=by omega
  rcases this with rfl|rfl|rfl|rfl|rfl|rfl|rfl|rfl<;>rfl
 have a2:aY3 (j7 (n:Int)) (⟨0,0,0⟩:B8)=some (cE8 n ⟨0,0,0⟩):=by
  have:n=1\/n=2\/n=3\/n=4\/n=5\/n=6\/n=7\/n=8:=by omega
  rcases this with rfl|rfl|rfl|rfl|rfl|rfl|rfl|rfl<;>rfl
 have a3:(((min ([k0]:List B8).length (cE8 n (⟨0,0,0⟩:B8)).length:Nat):Int))=1:=by rw[eH7,co8];omega
 unfold P7
 rw[fi1 (by omega),fh5,as5,a1,as5]
 simp only
 rw[fi1 (by omega:¬(0:Int)>0),fi1 (by omega),eY7,fh5,as5,a2,as5,a3,key]
 rfl
theorem ea0:aL2=some dI1:=rfl
theorem bQ6 (e:o5):az8 e=some (bif decide (Ev.aE1 e)then(eD4 e.A3.length,0)else(eK3,1)):=by
 unfold az8
 rw[Ev.ao3,as5]
 by_cases h:Ev.aE1 e
 ·rw[fi0 h,aX0,fh5]
  have h1:=h.1
  have h8:=h.2.1
  have:aU6 (e.A3.length:Int)=some (cE8 e.A3.length k0,0):=by
   unfold aU6
   rw[fi1 (by omega),fi1 (by omega),eY7,fh5,show([(⟨0,100,0⟩:B8)]:List B8)=[k0]from rfl,ea6 _ h1 h8]
   rfl
  rw[this,ea0]
  rfl
 ·rw[fi1 h];rfl
def cX7 (p:U7):Bool:=decide (0<=p.Value/\p.Value<=1000/\0<=p.af4/\p.af4<=3/\(p.aQ3=true↔p.af4=3)/\(p.aQ3=true->p.Value<=200))
theorem eq3 (p:U7):ax8 p=some (cX7 p):=by
 obtain⟨v,d,f⟩:=p
 unfold ax8 cX7
 cases f
 ·simp only[fh5,as5,aH8]
  apply bb8
  by_cases q:d=3<;>simp[q]<;>omega
 ·simp only[fh8,as5,aH8]
  apply bb8
  by_cases q:d=3<;>simp[q]<;>omega
def da3 (c:ab3):Bool:=inR (-100) 100 c.Value&&inR 0 1000 c.D1
def cQ2 (p:M8):Bool:=inR 750 1250 p.ak1&&inR 0 1000 p.bd8&&decide (p.Cells.length=9)&&(p.af3||(decide (p.ak1=1000)&&decide (p.bd8=0)&& !p.bd7))&&p.Cells.all da3
theorem ei1 (c:ab3):ab5 c=some (!da3 c):=by
 unfold ab5 da3
 rw[show S1 c.Value (-100) 100=some (inR (-100) 100 c.Value)from rfl,show S1 c.D1 0 1000=some (inR 0 1000 c.D1)from rfl]
 cases inR (-100) 100 c.Value<;>rfl
theorem dH6 (p:M8):ac7 p=some (cQ2 p):=by
 unfold ac7 cQ2
 rw[show S1 p.ak1 750 1250=some (inR 750 1250 p.ak1)from rfl,show S1 p.bd8 0 1000=some (inR 0 1000 p.bd8)from rfl,as5]
 cases inR 750 1250 p.ak1
 ·rfl
 cases inR 0 1000 p.bd8
 ·rfl
 by_cases h9:p.Cells.length=9
 ·have:((p.Cells.length:Int) !=9)=false:=by simp;omega
  have k:R3 p.Cells ab5=some (p.Cells.any fun c=>!da3 c):=ai3 p.Cells (by omega) ab5 _ (fun c _=>ei1 c)
  rw[this,k,fi0 h9,dS1]
  simp only[aX0,fh5,as5,cL7,eY7,eI2]
  cases p.af3
  ·have e:((p.ak1 !=1000||p.bd8 !=0)||p.bd7)= !(decide (p.ak1=1000)&&decide (p.bd8=0)&& !p.bd7):=by
    cases p.bd7<;>by_cases a:p.ak1=1000<;>by_cases b:p.bd8=0<;>simp[a,b]
   simp only[cI3,fh8,as5,ec9]
   rw[e]
   cases(decide (p.ak1=1000)&&decide (p.bd8=0)&& !p.bd7)<;>rfl
  ·rfl
 ·have:((p.Cells.length:Int) !=9)=true:=by simp;omega
  rw[this,fi1 h9]
  rfl
def knB (k:B8):Bool:=inR 0 960 k.at6&&inR 0 4095 k.aH6&&decide (k.Quiet>=0)&&decide (k.Quiet<=99)
theorem eI9 (k:B8):ax3 k=some (knB k):=by
 unfold ax3 knB
 rw[show ah6 k.aH6=some (inR 0 4095 k.aH6)from rfl,show(decide (k.at6>=0)&&decide (k.at6<=960))=inR 0 960 k.at6 from rfl]
 have e:decide (k.Quiet<100)=decide (k.Quiet<=99):=by apply bb8;rw[fi2,fi2];omega
 rw[e]
 cases inR 0 960 k.at6<;>rfl
def bz0 (e:o5)(c:A5):Bool:=decide (Ev.aE1 e)&&cX7 c.I9&&cQ2 c.Q3&&decide (c.ab2.length=e.A3.length)&&c.ab2.all knB&&inR (-4398046511104) 4398046511104 c.af0.Sum&&inR 0 1073741824 c.P1&&inR (-5000) 10000 c.af5.o9&&inR (-1) 15 c.af5.N3
theorem dO3 (e:o5)(c:A5):aq0 e c=some (bz0 e c):=by
 unfold aq0 bz0
 rw[Ev.ao3,eq3,dH6]
 simp only[as5]
 by_cases h:Ev.aE1 e
 ·rw[fi0 h]
  cases cX7 c.I9
  ·rfl
  cases cQ2 c.Q3
  ·rfl
  by_cases hl:c.ab2.length=e.A3.length
  ·have:((c.ab2.length:Int) !=(e.A3.length:Int))=false:=by simp;omega
   have h8:=h.2.1
   have k:J3 c.ab2 ak5=some (c.ab2.any fun k=>!knB k):=ai3 c.ab2 (by omega) ak5 _ (fun k _=>by unfold ak5;rw[eI9];rfl)
   rw[this,fi0 hl,k,dS1]
   simp only[aX0,fh5,as5,cL7,eY7,eI2]
   rw[show J5 c.af0.Sum (-4398046511104) 4398046511104=some (inR (-4398046511104) 4398046511104 c.af0.Sum)from rfl,show J5 c.P1 0 1073741824=some (inR 0 1073741824 c.P1)from rfl,
    show J5 c.af5.o9 (-5000) 10000=some (inR (-5000) 10000 c.af5.o9)from rfl,show J5 c.af5.N3 (-1) 15=some (inR (-1) 15 c.af5.N3)from rfl]
   cases c.ab2.all knB
   ·rfl
   cases inR (-4398046511104) 4398046511104 c.af0.Sum
   ·rfl
   cases inR 0 1073741824 c.P1
   ·rfl
   cases inR (-5000) 10000 c.af5.o9<;>rfl
  ·have:((c.ab2.length:Int) !=(e.A3.length:Int))=true:=by simp;omega
   rw[this,fi1 hl];rfl
 ·rw[fi1 h];rfl
def cS7 (r:j2):Bool:=decide (0<=r.N3/\r.N3<=15/\0<=r.E6/\r.E6<=15/\ -5000<=r.o9/\r.o9<=10000/\(r.Kind=1\/(r.N3<=1/\(r.Kind=2\/r.Kind=3))))
theorem dI7 (r:j2):S6 r=some (cS7 r):=by
 obtain⟨s,k,t,p⟩:=r
 unfold S6 cS7 P3
 simp only
 cases hb:((((decide (s<0))||(decide (s>15)))||(decide (p<0)))||(decide (p>15)))
 ·rw[fh5,as5,as5]
  cases ht:(decide (t>= -5000)&&decide (t<=10000))
  ·rw[cI3,fh8,aH8]
   symm;rw[fi3]
   simp at hb ht;omega
  ·rw[aX0,fh5]
   simp at hb ht
   by_cases q:k=1
   ·subst q
    simp;omega
   ·have:(k==1)=false:=by simp;exact q
    rw[this,fh5]
    by_cases z:s<=1
    ·rw[fi0 z,fh8,as5,as5,aH8]
     apply bb8
     simp;omega
    ·rw[fi1 z,fh5,as5,as5,aH8]
     symm;rw[fi3];omega
 ·rw[fh8,as5,fh8,aH8]
  symm;rw[fi3]
  simp at hb;omega
def eg6 (i:W9)(n:Int):Bool:=inR 1 8 n&&decide ((i.X4.length:Int)=n)&&decide (i.Requests.length<=30)&&inR 0 12000 i.D2&&inR 50 3000 i.L0&&inR (-40) 150 i.L4&&inR (-40) 150 i.av1&&inR 0 20000 i.aI3&&inR 0 20000 i.Lambda&&i.X4.all (inR 0 4095)&&i.Requests.all cS7
theorem eN0 (x lo hi:Int):J5 x lo hi=some (inR lo hi x):=rfl
theorem eL8 (i:W9)(n:Int):av6 i n=some (eg6 i n):=by
 unfold av6 eg6
 simp only[eN0,as5]
 cases hn:inR 1 8 n
 ·rfl
 have hn':1<=n/\n<=8:=by unfold inR at hn;simp at hn;omega
 by_cases hl:(i.X4.length:Int)=n
 ·by_cases hr:i.Requests.length<=30
  ·have k:D7 i.Requests ah5=some (i.Requests.any fun k=>!cS7 k):=ai3 i.Requests (by omega) ah5 _ (fun k _=>by unfold ah5;rw[dI7];rfl)
   have h1:((i.X4.length:Int) !=n)=false:=by simp;exact hl
   rw[h1,fi1 (by omega),fi0 hl,fi0 hr,k,be4 _ (by omega),dS1]
   simp only[aX0,fh5,as5,cL7,eY7,eI2]
   cases inR 0 12000 i.D2
   ·rfl
   cases inR 50 3000 i.L0
   ·rfl
   cases inR (-40) 150 i.L4
   ·rfl
   cases inR (-40) 150 i.av1
   ·rfl
   cases inR 0 20000 i.aI3
   ·rfl
   cases inR 0 20000 i.Lambda
   ·rfl
   cases i.X4.all (inR 0 4095)<;>rfl
  ·rw[fi0 (by omega:(i.Requests.length:Int)>30),fi1 hr,Bool.or_true,ff4];rfl
 ·have h1:((i.X4.length:Int) !=n)=true:=by simp;exact hl
  rw[h1,fi1 hl];rfl
structure eV7 (p:U7):Prop where
 v:0<=p.Value/\p.Value<=1000
 d:0<=p.af4/\p.af4<=3
 f:p.aQ3=true↔p.af4=3
 l:p.aQ3=true->p.Value<=200
theorem dP8 {p:U7}:cX7 p=true↔eV7 p:=by
 unfold cX7
 rw[fi2]
 exact⟨fun⟨a,b,c,d,e,f⟩=>⟨⟨a,b⟩,⟨c,d⟩,e,f⟩,fun⟨⟨a,b⟩,⟨c,d⟩,e,f⟩=>⟨a,b,c,d,e,f⟩⟩
def dx0 (p:U7)(a b:Int):U7:=
 let f:=min (max a 0) 1000
 let s:=2*min (max b 0) 500
 let w:=decide (max (f-s) (s-f)>50)
 let d:=if w then min 3 (p.af4+1)else if p.aQ3 then p.af4 else 0
 if d=3 then⟨min (min f s) 200,d,true⟩else if w then⟨min (min f s) p.Value,d,false⟩else⟨f,d,false⟩
theorem cR2 {p:U7}(h:cX7 p=true)(a b:Int):aM1 p a b=some (dx0 p a b,0)/\cX7 (dx0 p a b)=true:=by
 have k:=dP8.1 h
 have k1:=k.v;have k2:=k.d;have k3:=k.f;have k4:=k.l
 constructor
 ·unfold aM1 dx0
  rw[eq3,h,aC3,aC3]
  simp only[as5,aX0,fh5,aq6,ao4]
  have f0:0<=min (max a 0) 1000/\min (max a 0) 1000<=1000:=by omega
  have s0:0<=min (max b 0) 500/\min (max b 0) 500<=500:=by omega
  generalize min (max a 0) 1000=f at f0
  generalize min (max b 0) 500=s at s0
  rw[j5 (n:=2*s) (by omega) (by omega),j5 (n:=f-2*s) (by omega) (by omega),j5 (n:=2*s-f) (by omega) (by omega),j5 (n:=p.af4+1) (by omega) (by omega)]
  cases hw:decide (max (f-2*s) (2*s-f)>50)
  ·simp only[fh5,do2,if_false]
   cases hf:p.aQ3
   ·simp only[cI3,fh8,as5,do2,if_false]
    rfl
   ·have:=k3.1 hf
    simp only[aX0,fh5,as5,if_true]
    rw[this]
    rfl
  ·simp only[fh8,as5,if_true]
   by_cases hd:min 3 (p.af4+1)=3
   ·rw[hd];rfl
   ·rw[if_neg hd,show(min 3 (p.af4+1)==3)=false from beq_eq_false_iff_ne.2 hd];rfl
 ·rw[dP8]
  unfold dx0
  simp only
  have f0:0<=min (max a 0) 1000/\min (max a 0) 1000<=1000:=by omega
  have s0:0<=min (max b 0) 500/\min (max b 0) 500<=500:=by omega
  generalize min (max a 0) 1000=f at f0
  generalize min (max b 0) 500=s at s0
  have hd:∀w:Bool,0<=(if w=true then min 3 (p.af4+1)else if p.aQ3=true then p.af4 else 0)/\(if w=true then min 3 (p.af4+1)else if p.aQ3=true then p.af4 else 0)<=3:=by
   intro w;split
   ·omega
   ·split<;>omega
  have hd:=hd (decide (max (f-2*s) (2*s-f)>50))
  generalize(if decide (max (f-2*s) (2*s-f)>50)=true then min 3 (p.af4+1)else if p.aQ3=true then p.af4 else 0)=d at hd
  by_cases h3:d=3
  ·rw[if_pos h3];exact⟨by simp only;omega,hd,⟨fun _=>h3,fun _=>rfl⟩,fun _=>by simp only;omega⟩
  ·rw[if_neg h3]
   split
   ·exact⟨by simp only;omega,hd,⟨fun h=>(by cases h),fun h=>absurd h h3⟩,fun h=>(by cases h)⟩
   ·exact⟨by simp only;omega,hd,⟨fun h=>(by cases h),fun h=>absurd h h3⟩,fun h=>(by cases h)⟩
def dB4 (t:o7)(v s:Int):Int:=min (max (sAt t.aH9 s v) (-5000)) 10000
theorem eH3 {t:o7}(h:bo7 t.aH9=true){v s:Int}(v0:0<=v/\v<=1000)(s0:0<=s/\s<=12000):aM2 t v s=some (dB4 t v s,0):=by
 unfold aM2
 rw[ao3,h,cT0 h]
 simp only[as5,aX0,fh5]
 rw[show(((decide (v<0))||(decide (v>1000)))||(decide (s<0)))=false by simp only[bG1,fi3];omega,show decide (s>12000)=false from fi1 (by omega),aC3,aq6,ao4]
 rfl
theorem dK9 (t:o7)(v s:Int):-5000<=dB4 t v s/\dB4 t v s<=10000:=by unfold dB4;omega
def cx4 (c:Int):Int:=if c<= -20 then 1200 else if c>=70 then 800 else 1200-400*(c+20)/90
theorem dK1 {c:Int}(h:-40<=c/\c<=150):ax2 c=some (cx4 c)/\800<=cx4 c/\cx4 c<=1200:=by
 unfold ax2 cx4
 by_cases h1:c<= -20
 ·rw[fi0 h1,if_pos h1];exact⟨rfl,by omega,by omega⟩
 ·by_cases h2:c>=70
  ·rw[fi1 h1,fi0 h2,if_neg h1,if_pos h2];exact⟨rfl,by omega,by omega⟩
  ·rw[fi1 h1,fi1 h2,if_neg h1,if_neg h2,j5 (n:=c+20) (by omega) (by omega),j5 (n:=400*(c+20)) (by omega) (by omega),cz5 (by omega),j5 (n:=400*(c+20)/90) (by omega) (by omega),j5 (by omega) (by omega)]
   exact⟨rfl,by omega,by omega⟩
def dC7 (v s c:Int):Bool:=inR 0 19 v&&(inR 0 12000 s&&decide (s<cx4 c+300))
theorem ee5 {v s c:Int}(h:-40<=c/\c<=150):ax1 v s c=some (dC7 v s c):=by
 obtain⟨h1,h2⟩:=dK1 h
 unfold ax1 bc2 dC7
 rw[h1,show(decide (v>=0)&&decide (v<20))=inR 0 19 v by unfold inR;congr 1;rw[decide_eq_decide];omega,show aj5 s=some (inR 0 12000 s)from rfl]
 simp only[as5]
 rw[j5 (by omega) (by omega)]
 cases inR 0 19 v<;>cases inR 0 12000 s<;>rfl
def bU2 (s:F7):Prop:=-4398046511104<=s.Sum/\s.Sum<=4398046511104
theorem eC2 {s:F7}{g:aV4}(hg:cA2 g=true)(hs:bU2 s){e:Int}(e0:-1048576<=e/\e<=1048576):∃s' u,aq5 s g e=some (s',u,0)/\bU2 s':=by
 have hs':=hs
 unfold bU2 at hs'
 unfold aq5
 rw[show Q5 g=some (cA2 g)from rfl,hg]
 simp only[as5]
 rw[show((!true||decide (s.Sum<(-4398046511104)))||decide (s.Sum>4398046511104))=false by simp only[aX0,ec9,bG1,fi3];omega]
 rw[show(decide (e<(-1048576))||decide (e>1048576))=false by simp only[bG1,fi3];omega]
 simp only[fh5]
 generalize F5 .i64 (j7 ((j7 (g.P*e))+s.Sum)) 10=u
 generalize(decide (u<=g.bs4)||decide (e<=0))=A
 generalize(decide (u>=g.Low)||decide (e>=0))=B
 cases A
 ·exact⟨s,_,rfl,hs⟩
 ·cases B
  ·exact⟨s,_,rfl,hs⟩
  ·refine⟨⟨_⟩,_,rfl,?_⟩
   unfold bU2
   simp only[aq6,ao4]
   omega
theorem en0 {s:F7}{g:aV4}(hg:cA2 g=true)(hs:bU2 s){c v:Int}(c0:-40<=c/\c<=150)(v0:0<=v/\v<=12000):∃s' u,aE5 s g (cx4 c) v=some (s',u,0)/\bU2 s':=by
 obtain⟨_,t0,t1⟩:=dK1 c0
 obtain⟨s',u,h1,h2⟩:=eC2 hg hs (e:=cx4 c-v) (by omega)
 refine⟨s',u,?_,h2⟩
 unfold aE5
 rw[show Q5 g=some (cA2 g)from rfl,hg,show aj5 (cx4 c)=some (inR 0 12000 (cx4 c))from rfl,show aj5 v=some (inR 0 12000 v)from rfl,R5 (show 0<=cx4 c by omega) (by omega),R5 v0.1 v0.2,j5 (by omega) (by omega)]
 simp only[as5,aX0,fh5]
 rw[h1];rfl
structure fd9 (k:B8):Prop where
 r:0<=k.at6/\k.at6<=960
 n:0<=k.aH6/\k.aH6<=4095
 q:0<=k.Quiet/\k.Quiet<=99
theorem eQ0 {k:B8}:knB k=true↔fd9 k:=by
 unfold knB
 simp only[aI0,ba1,fi2]
 exact⟨fun⟨⟨⟨a,b⟩,c⟩,d⟩=>⟨a,b,c,d⟩,fun⟨a,b,c,d⟩=>⟨⟨⟨a,b⟩,c⟩,d⟩⟩
def kst (k:B8)(n:Int):B8:=
 if n>3*k.aH6+40 then⟨min (k.at6+96) 960,k.aH6,0⟩
 else if k.Quiet+1=100 then⟨max (k.at6-16) 0,k.aH6+(n-k.aH6)/8,0⟩else⟨k.at6,k.aH6+(n-k.aH6)/8,k.Quiet+1⟩
theorem eQ1 {k:B8}{n:Int}(h:knB k=true)(n0:inR 0 4095 n=true):(∃b,aH2 k n=some (kst k n,b))/\knB (kst k n)=true:=by
 have o:=eQ0.1 h
 have o1:=o.r;have o2:=o.n;have o3:=o.q
 have n1:=ba1.1 n0
 constructor
 ·unfold aH2 kst
  rw[j5 (n:=3*k.aH6) (by omega) (by omega),j5 (n:=3*k.aH6+40) (by omega) (by omega)]
  by_cases h1:n>3*k.aH6+40
  ·rw[fi0 h1,if_pos h1,j5 (n:=k.at6+96) (by omega) (by omega),aq6]
   exact⟨_,rfl⟩
  ·rw[fi1 h1,if_neg h1,j5 (n:=k.Quiet+1) (by omega) (by omega),j5 (n:=k.at6-16) (by omega) (by omega),j5 (n:=n-k.aH6) (by omega) (by omega),bR1 _ _ (by omega) (by omega) (by omega) (by omega),ao4]
   by_cases h2:k.Quiet+1=100
   ·rw[show(k.Quiet+1==100)=true from beq_iff_eq.2 h2,if_pos h2]
    simp only[fh5,fh8,as5]
    rw[j5 (by omega) (by omega)]
    exact⟨_,rfl⟩
   ·rw[show(k.Quiet+1==100)=false from beq_eq_false_iff_ne.2 h2,if_neg h2]
    simp only[fh5,as5]
    rw[j5 (by omega) (by omega)]
    exact⟨_,rfl⟩
 ·rw[eQ0]
  unfold kst
  split
  ·exact⟨by simp only;omega,by simp only;omega,by simp only;omega⟩
  ·split
   ·exact⟨by simp only;omega,by simp only;omega,by simp only;omega⟩
   ·exact⟨by simp only;omega,by simp only;omega,by simp only;omega⟩
def ksV (l:List B8)(m:List Int):List B8:=List.zipWith kst l m
theorem eJ1 {l:List B8}{m:List Int}(h:l.all knB=true)(hm:m.all (inR 0 4095)=true)(hl:1<=l.length/\l.length<=8)(he:m.length=l.length):
  aU5 l m=some (ksV l m,0)/\(ksV l m).all knB=true/\(ksV l m).length=l.length:=by
 rw[bx8]at h hm
 have hlen:(ksV l m).length=l.length:=by unfold ksV;rw[List.length_zipWith];omega
 have cX1:∀j (h1:j<l.length) (h2:j<m.length),(ksV l m)[j]? =some (kst l[j] m[j]):=by
  intro j h1 h2
  unfold ksV
  rw[List.getElem?_zipWith,aW9 h1,aW9 h2]
 have hk:∀j (h1:j<l.length) (h2:j<m.length),(∃b,aH2 l[j] m[j]=some (kst l[j] m[j],b))/\knB (kst l[j] m[j])=true:=fun j h1 h2=>eQ1 (h _ (bd2 h1)) (hm _ (bd2 h2))
 refine⟨?_,?_,hlen⟩
 ·have a1:J3 l aA5=some (l.any fun k=>!knB k):=ai3 l (by omega) aA5 _ (fun k _=>by unfold aA5;rw[eI9];rfl)
  have a2:o6 m aF6=some (m.any fun k=>!inR 0 4095 k):=ap9 m (by omega) aF6 _ (fun k _=>rfl)
  have b1:(l.any fun k=>!knB k)=false:=by rw[dv4];intro x hx;rw[h x hx];simp
  have b2:(m.any fun k=>!inR 0 4095 k)=false:=by rw[dv4];intro x hx;rw[hm x hx];simp
  unfold aU5
  rw[show(((decide ((l.length:Int)<1))||(decide ((l.length:Int)>8)))||((m.length:Int) !=(l.length:Int)))=false by simp;omega,a1,b1,a2,b2]
  simp only[fh5,as5]
  unfold ad6
  rw[H7 _ _ (by simp;omega)]
  simp only[as5,cV5]
  obtain⟨u,e,hu⟩:=ag5 l.length (by omega) (aL9 l m) (fun i u=>u.length=l.length/\∀j,j<i->u[j]? =(ksV l m)[j]?) l ⟨rfl,fun j hj=>by omega⟩ (fun j hj u hu=>by
   obtain⟨⟨b,hb⟩,_⟩:=hk j hj (by omega)
   unfold aL9
   rw[C7 _ _ hj,C7 _ _ (show j<m.length by omega)]
   simp only[as5]
   rw[hb]
   simp only[as5]
   rw[C7 _ _ (by omega)]
   simp only[as5]
   rw[T9 _ _ _ (by omega)]
   refine⟨_,rfl,by simp[hu.1],fun i hi=>?_⟩
   rcases cZ8 i j with h|h
   ·rw[fd2 (by omega)];exact hu.2 i h
   ·have:i=j:=by omega
    subst this
    rw[List.getElem?_set_self (by omega),cX1 i hj (by omega)])
  rw[e]
  have:u=ksV l m:=by
   apply List.ext_getElem?
   intro i
   rcases cZ8 i l.length with h|h
   ·exact hu.2 i h
   ·rw[ed4 (by omega),ed4 (by omega)]
  rw[this]
  rfl
 ·rw[bx8]
  intro x hx
  obtain⟨j,hj,rfl⟩:=cW9.1 hx
  have h1:j<l.length:=by omega
  have:=cX1 j h1 (by omega)
  rw[aW9 hj]at this
  rw[Option.some.inj this]
  exact(hk j h1 (by omega)).2
structure eV6 (p:M8):Prop where
 f:750<=p.ak1/\p.ak1<=1250
 w:0<=p.bd8/\p.bd8<=1000
 n:p.Cells.length=9
 a:p.af3=true\/(p.ak1=1000/\p.bd8=0/\p.bd7=false)
 c:p.Cells.all da3=true
theorem eo9 {p:M8}:cQ2 p=true↔eV6 p:=by
 unfold cQ2
 simp only[aI0,ba1,fi2,cH8,bY2]
 exact⟨fun⟨⟨⟨⟨a,b⟩,c⟩,d⟩,e⟩=>⟨a,b,c,d.imp_right (fun h=>⟨h.1.1,h.1.2,h.2⟩),e⟩,fun⟨a,b,c,d,e⟩=>⟨⟨⟨⟨a,b⟩,c⟩,d.imp_right (fun h=>⟨⟨h.1,h.2.1⟩,h.2.2⟩)⟩,e⟩⟩
def mxR (p:M8)(m:Int):Bool:=decide (m>500)||(decide (m>=400)&&p.bd7)
def mxV (p:M8)(m:Int):M8:=
 bif p.af3 then
  (bif mxR p m==p.bd7 then⟨true,mxR p m,min (max (p.ak1+bif mxR p m then -1 else 1) 750) 1250,min 1000 (p.bd8+1),p.Cells⟩
  else⟨true,mxR p m,min (max (p.ak1+bif mxR p m then -15 else 15) 750) 1250,0,p.Cells⟩)
 else⟨decide (m<300)||decide (m>600),decide (m>600),p.ak1,p.bd8,p.Cells⟩
theorem eQ3 (x lo hi:Int):S1 x lo hi=some (inR lo hi x):=rfl
theorem dx4 (s c:Int):ac8 s c=some (inR 0 12000 s&&inR 0 1048576 c):=by
 unfold ac8
 rw[eQ3,eQ3]
 cases inR 0 12000 s<;>rfl
theorem de3 {p:M8}(h:cQ2 p=true){m s c:Int}(m0:0<=m/\m<=20000)(s0:0<=s/\s<=12000)(c0:0<=c/\c<=1048576):az5 p m s c=some (mxV p m,0)/\cQ2 (mxV p m)=true:=by
 have k:=eo9.1 h
 have k1:=k.f;have k2:=k.w;have k3:=k.n
 constructor
 ·unfold az5 ax4 ag9 mxV
  rw[dH6,h,dx4,R5 s0.1 s0.2,R5 c0.1 c0.2,eQ3,R5 m0.1 m0.2,H7 _ _ (by simp;omega)]
  simp only[as5,aX0,fh5,Bool.and_self,cV5]
  cases ha:p.af3
  ·rfl
  ·simp only[aX0,fh5,fh8]
   have hr:(bif (decide (m>500))then(some true)else(some ((decide (m>=400))&&p.bd7)))=some (mxR p m):=by unfold mxR;cases decide (m>500)<;>rfl
   rw[hr,j5 (n:=p.bd8+1) (by omega) (by omega)]
   simp only[as5,aq6]
   cases mxR p m==p.bd7
   ·simp only[cI3,fh8,fh5,as5]
    cases mxR p m
    ·simp only[fh5,as5,aC3,aq6,ao4]
     rw[j5 (by omega) (by omega)]
    ·simp only[fh8,as5,aC3,aq6,ao4]
     rw[j5 (n:=0-15) (by omega) (by omega),j5 (by omega) (by omega)]
     rfl
   ·simp only[aX0,fh8,fh5,as5]
    cases mxR p m
    ·simp only[fh5,as5,aC3,aq6,ao4]
     rw[j5 (by omega) (by omega)]
    ·simp only[fh8,as5,aC3,aq6,ao4]
     rw[j5 (n:=0-1) (by omega) (by omega),j5 (by omega) (by omega)]
     rfl
 ·rw[eo9]
  unfold mxV
  cases ha:p.af3
  ·have a:=k.a
   rw[ha]at a
   obtain⟨a1,a2,a3⟩:=a.resolve_left (by simp)
   refine⟨k1,k2,k3,?_,k.c⟩
   by_cases hm:m>600
   ·exact .inl (by show(decide (m<300)||decide (m>600))=true;rw[fi0 hm,Bool.or_true])
   ·exact .inr ⟨a1,a2,fi1 hm⟩
  ·simp only[fh8]
   cases mxR p m==p.bd7
   ·exact⟨by simp only[fh5];omega,by simp only[fh5];omega,k3,.inl rfl,k.c⟩
   ·exact⟨by simp only[fh8];omega,by simp only[fh8];omega,k3,.inl rfl,k.c⟩
def dj0 (x a b:Int):Nat:=if x>=b then 2 else if x>=a then 1 else 0
theorem ei6 (x a b:Int)(hab:a<=b):ak8 x [a,b]=some (dj0 x a b:Int):=by
 have w1:j7 ((0:Int)+1)=1:=by decide
 have w2:j7 ((1:Int)+1)=2:=by decide
 unfold ak8 dj0
 rw[K6 _ (by simp)]
 simp only[L8,aB5]
 by_cases h1:x>=a
 ·by_cases h2:x>=b
  ·rw[fi0 h1,fi0 h2,if_pos h2]
   simp only[fh8,as5,w1,w2];rfl
  ·rw[fi0 h1,fi1 h2,if_neg h2,if_pos h1]
   simp only[fh8,fh5,as5,w1];rfl
 ·have h2:¬x>=b:=by omega
  rw[fi1 h1,fi1 h2,if_neg h2,if_neg h1]
  simp only[fh5,as5];rfl
theorem db1 (x a b:Int):dj0 x a b<=2:=by unfold dj0;split;omega;split<;>omega
def dr1 (s c:Int):Nat:=3*dj0 s 1500 3500+dj0 c 150000 350000
def cO0 (p:M8)(s c:Int):Int:=min (max (p.ak1+(p.Cells.getD (dr1 s c) ⟨0,0⟩).Value) 700) 1300
theorem eO2 {p:M8}(h:cQ2 p=true){s c:Int}(s0:0<=s/\s<=12000)(c0:0<=c/\c<=1048576):aq8 p s c=some (cO0 p s c,0):=by
 have k:=eo9.1 h
 have k1:=k.f;have k3:=k.n
 have q1:=db1 s 1500 3500
 have q2:=db1 c 150000 350000
 have hc:dr1 s c<p.Cells.length:=by unfold dr1;omega
 have cl4:=bx8.1 k.c _ (bd2 hc)
 unfold da3 at cl4
 rw[aI0,ba1]at cl4
 have hv:=cl4.1
 unfold aq8 aF7
 rw[dH6,h,dx4,R5 s0.1 s0.2,R5 c0.1 c0.2,ei6 _ _ _ (by omega),ei6 _ _ _ (by omega)]
 simp only[as5,aX0,fh5,Bool.and_self]
 rw[j5 (n:=3*(dj0 s 1500 3500:Int)) (by omega) (by omega),j5 (by omega) (by omega),show 3*(dj0 s 1500 3500:Int)+(dj0 c 150000 350000:Int)=((dr1 s c:Nat):Int) by unfold dr1;omega,C7 _ _ hc]
 simp only[as5]
 unfold cO0
 rw[j5 (by omega) (by omega),aC3,aq6,ao4,cY3,aW9 hc]
 rfl
theorem dV7 (p:M8)(s c:Int):700<=cO0 p s c/\cO0 p s c<=1300:=by unfold cO0;omega
theorem cN9 (x lo hi:Int):af2 x lo hi=some (inR lo hi x):=rfl
theorem el6 {c:Int}(c0:0<=c/\c<=1048576):aU2 c 1000=some (c*10000/147000,0):=by
 unfold aU2
 rw[cN9,cN9,R5 c0.1 c0.2,show inR 500 2000 1000=true from rfl]
 simp only[as5,aX0,fh5]
 rw[j5 (n:=c*10000) (by omega) (by omega),j5 (n:=1000*147) (by omega) (by omega),eE6 (by omega) (by omega) (by omega)]
 rfl
theorem dt2 {b:L2}(h:aV6 b=true):aJ2 b=some true:=by
 have k:=bs6 h
 have k1:=k.fi;have k2:=k.ev
 unfold aJ2
 rw[cN9,cN9,R5 k1.1 k1.2,R5 (show 0<=b.K9 by omega) k2.2]
 rfl
def aS7 (b:L2)(i:Int):Int:=i*b.P1/1024
def ay5 (b:L2)(f:Int):Int:=f*b.K9/1024
theorem cU9 {b:L2}(h:aV6 b=true){i:Int}(i0:0<=i):0<=aS7 b i/\aS7 b i<=i:=by
 have k:=(bs6 h).fi
 have b1:=aV0 (A:=i) i0 (dr2 i) k.1 k.2
 unfold aS7;omega
theorem bz2 {b:L2}(h:aV6 b=true){i:Int}(i0:0<=i):0<=ay5 b i/\ay5 b i<=i:=by
 have k:=(bs6 h).ev
 have b1:=aV0 (A:=i) i0 (dr2 i) (show 0<=b.K9 by omega) k.2
 unfold ay5;omega
theorem cO9 {b:L2}(h:aV6 b=true){f i:Int}(f0:0<=f/\f<=1073741824)(i0:0<=i/\i<=1048576):aB4 b f i=some (i-aS7 b i+ay5 b f,f+aS7 b i-ay5 b f):=by
 have k:=bs6 h
 have k1:=k.fi;have k2:=k.ev
 have b1:=aV0 i0.1 i0.2 k1.1 k1.2
 have b2:=aV0 f0.1 f0.2 (show 0<=b.K9 by omega) k2.2
 have r1:=cU9 h i0.1
 have r2:=bz2 h f0.1
 have e1:j7 (cZ1 (j7 (i*b.P1)) 1024)=aS7 b i:=by
  unfold aS7 at r1|-
  rw[j5 (n:=i*b.P1) (by omega) (by omega),cz5 b1.1,j5 (by omega) (by omega)]
 have e2:j7 (cZ1 (j7 (f*b.K9)) 1024)=ay5 b f:=by
  unfold ay5 at r2|-
  rw[j5 (n:=f*b.K9) (by omega) (by omega),cz5 b2.1,j5 (by omega) (by omega)]
 unfold aB4
 rw[e1,e2,j5 (n:=i-aS7 b i) (by omega) (by omega),j5 (n:=f+aS7 b i) (by omega) (by omega),j5 (by omega) (by omega),j5 (by omega) (by omega)]
theorem el2 {b:L2}(h:aV6 b=true){f:Int}(f0:0<=f/\f<=1073741824):aO4 b f 0=some (ay5 b f,f-ay5 b f,0):=by
 have r2:=bz2 h f0.1
 have e0:aS7 b 0=0:=by unfold aS7;rw[Int.zero_mul];rfl
 unfold aO4
 rw[dt2 h,cN9,cN9,R5 f0.1 f0.2,show inR 0 1048576 0=true from rfl,cO9 h f0 ⟨by omega,by omega⟩,e0]
 simp only[as5,aX0,fh5]
 rw[fi1 (show¬(f+0-ay5 b f>1073741824) by omega),show(0:Int)-0+ay5 b f=ay5 b f by omega,show f+0-ay5 b f=f-ay5 b f by omega]
 rfl
theorem eB2 (f:Int->Option Int):aM6 f=ab9 (fun x=>ai8 (f x) fun v=>some (!decide (v>0))):=by
 funext s
 unfold aM6 ab9
 cases decide (s.1<s.2)
 ·rfl
 ·simp only[fh8]
  cases f (j7 (F5 .u64 (aX8.wrap (j7 (s.1+s.2))) 1))with
  |none=>rfl
  |some v=>simp only[as5,eI2]
theorem find_spec (n:Nat)(hn:n<=2305843009213693951)(f:Int->Option Int)(g:Nat->Int)(hf:∀i,i<n->f (i:Int)=some (g i)):
  ∃(k:Nat) (b:Bool),k<=n/\aO7 (n:Int) f=some ((k:Int),b)/\(0<k->g (k-1)>0)/\(k<n->g k<=0):=by
 obtain⟨k,k1,k2,k3,k4⟩:=aS2 n hn (fun x=>ai8 (f x) fun v=>some (!decide (v>0))) (fun i=>!decide (g i>0)) (fun i hi=>by simp only[hf i hi,as5])
 unfold Q0 at k2
 have h3:0<k->g (k-1)>0:=fun h=>by have:=k3 h;simp at this;omega
 have h4:k<n->g k<=0:=fun h=>by have:=k4 h;simp at this;omega
 unfold aO7
 rw[eB2]
 cases hl:L7 (ab9 (fun x=>ai8 (f x) fun v=>some (!decide (v>0)))) (0,(n:Int))with
 |none=>rw[hl]at k2;cases k2
 |some t=>
  rw[hl]at k2
  cases t with
  |inr r=>exact r.elim
  |inl s2=>
   simp only[as5,aH8]at k2
   simp only[as5]
   rw[k2]
   rcases cZ8 k n with h|h
   ·rw[fi0 (show(k:Int)<(n:Int) by omega),hf k h]
    exact⟨k,_,k1,rfl,h3,h4⟩
   ·rw[fi1 (show¬(k:Int)<(n:Int) by omega)]
    exact⟨k,_,k1,rfl,h3,h4⟩
structure ee4 (b:L2)(f m i x e:Int):Prop where
 out:e=0\/e=9
 inj:e=0->0<=i/\i<=1048576
 aF3:e=0->x=f+aS7 b i-ay5 b f
 ran:e=0->0<=x/\x<=1073741824
 fit:e=0->m<=i-aS7 b i+ay5 b f
 low:e=0->0<i->(i-1)-aS7 b (i-1)+ay5 b f<m
 big:e=9->1048576-aS7 b 1048576+ay5 b f<m\/∃j,0<=j/\j<=1048576/\m<=j-aS7 b j+ay5 b f/\(0<j->(j-1)-aS7 b (j-1)+ay5 b f<m)/\1073741824<f+aS7 b j-ay5 b f
theorem em1 {b:L2}(h:aV6 b=true){f m:Int}(f0:0<=f/\f<=1073741824)(m0:0<=m/\m<=1048576):∃i x e,aJ1 b f m=some (i,x,e)/\ee4 b f m i x e:=by
 have r2:=bz2 h f0.1
 have r1:∀i:Int,0<=i->0<=aS7 b i/\aS7 b i<=i:=fun i hi=>cU9 h hi
 unfold aJ1
 rw[dt2 h,cN9,cN9,R5 f0.1 f0.2,R5 m0.1 m0.2]
 simp only[as5,aX0,fh5]
 obtain⟨k,q,k1,k2,k3,k4⟩:=find_spec 1048577 (by omega) (fun x0=>aA4 x0 b f m) (fun i=>m-((i:Int)-aS7 b (i:Int)+ay5 b f)) (fun i hi=>by
  have:=r1 (i:Int) (by omega)
  unfold aA4
  rw[cO9 h f0 ⟨by omega,by omega⟩]
  simp only[as5]
  rw[j5 (by omega) (by omega)])
 have k2':aO7 1048577 (fun x0=>aA4 x0 b f m)=some ((k:Int),q):=k2
 rw[k2']
 simp only[as5]
 by_cases hk:k=1048577
 ·subst hk
  refine⟨0,0,9,rfl,.inr rfl,fun h=>(by cases h),fun h=>(by cases h),fun h=>(by cases h),fun h=>(by cases h),fun h=>(by cases h),fun _=>.inl ?_⟩
  have:=k3 (by omega)
  rw[show(((1048577-1:Nat):Int))=1048576 by omega]at this
  omega
 ·have k4':=k4 (by omega)
  have rk:=r1 (k:Int) (by omega)
  rw[fi1 (show¬((k:Int)>1048576) by omega),cO9 h f0 ⟨by omega,by omega⟩]
  simp only[fh5,as5]
  have dW4:0<(k:Int)->((k:Int)-1)-aS7 b ((k:Int)-1)+ay5 b f<m:=fun hp=>by
   have:=k3 (by omega)
   rw[show((k-1:Nat):Int)=(k:Int)-1 by omega]at this
   omega
  by_cases hb:f+aS7 b (k:Int)-ay5 b f>1073741824
  ·rw[fi0 hb]
   exact⟨0,0,9,rfl,.inr rfl,fun h=>(by cases h),fun h=>(by cases h),fun h=>(by cases h),fun h=>(by cases h),fun h=>(by cases h),fun _=>.inr ⟨(k:Int),by omega,by omega,by omega,dW4,by omega⟩⟩
  ·rw[fi1 hb]
   exact⟨(k:Int),_,0,rfl,.inl rfl,fun _=>⟨by omega,by omega⟩,fun _=>rfl,fun _=>⟨by omega,by omega⟩,fun _=>by omega,fun _=>dW4,fun h=>(by cases h)⟩
theorem dN2 {t:o7}(h:(bx1 t.aw5&&t.aw5.Y.all (inR 0 10000))=true){a v:Int}(a0:0<=a/\a<=1048576)(v0:0<=v/\v<=20000):aB3 t a v=some (cAt t.aw5 v,0)/\0<=cAt t.aw5 v/\cAt t.aw5 v<=10000:=by
 rw[aI0]at h
 obtain⟨h1,h2⟩:=h
 have hl:=(bm3 h1).yl
 have hx:=(bm3 h1).x.most
 have hb:=cc7 h1 v (eU2 h1 h2)
 refine⟨?_,hb⟩
 have e:o6 t.aw5.Y aF4=some (t.aw5.Y.any fun y=>!inR 0 10000 y):=ap9 _ (by omega) _ _ (fun y _=>rfl)
 have e2:(t.aw5.Y.any fun y=>!inR 0 10000 y)=false:=by
  rw[dv4]
  intro y hy
  rw[bx8.1 h2 y hy];simp
 unfold aB3
 rw[aq1,h1,e,e2,cN9,cN9,R5 a0.1 a0.2,R5 v0.1 v0.2,dE2 h1]
 rfl
def eU1 (m:Int):Int:=-((-m)/3)
theorem el8 {t:o7}(h:(bx1 t.aw5&&t.aw5.Y.all (inR 0 10000))=true){a v:Int}(a0:0<a/\a<=1048576)(v0:0<=v/\v<=20000):aO5 t a v=some (cAt t.aw5 v+eU1 a,0):=by
 obtain⟨h1,h2⟩:=dN2 h (a:=a) (by omega) v0
 unfold aO5 am8 eU1
 rw[h1,bW0 _ _ 2 (by omega) (by omega) (by omega) (by omega) (.inr rfl)]
 simp only[as5]
 rw[show(((0:Int) !=0)||(a==0))=false by rw[bG1];exact⟨rfl,beq_eq_false_iff_ne.2 (by omega)⟩]
 simp only[fh5]
 rw[if_neg (by decide),j5 (by omega) (by omega)]
theorem dY1 {t:o7}(h:(bx1 t.aw5&&t.aw5.Y.all (inR 0 10000))=true){a v:Int}(a0:0<=a/\a<=1048576)(v0:0<=v/\v<=20000):aA3 t a v=some (3*max 0 (a-cAt t.aw5 v),0):=by
 obtain⟨h1,h2⟩:=dN2 h a0 v0
 unfold aA3
 rw[h1]
 simp only[as5]
 rw[show(((0:Int) !=0))=false from rfl,j5 (n:=a-cAt t.aw5 v) (by omega) (by omega),ao4]
 simp only[fh5]
 rw[j5 (by omega) (by omega)]
theorem bF1 (x lo hi:Int):Q7 x lo hi=some (inR lo hi x):=rfl
theorem cw7 (l:List Int)(h:l.length<=9223372036854775807)(lo hi:Int):ad3 l lo hi=some (!l.all (inR lo hi)):=by
 unfold ad3
 rw[ap9 l h (fun x0=>at5 x0 lo hi) (fun x=>!inR lo hi x) (fun y _=>rfl),as5,dS1]
 simp only[eI2]
theorem dy5 {t:o7}(h:bK7 t=true)(ht:aZ1 t=true):ax9 t=some true:=by
 have hc:=dB0 ht
 unfold bK7 at h
 unfold aZ1 at ht
 simp only[aI0]at h ht
 obtain⟨⟨⟨h1,h2⟩,h3⟩,h4⟩:=h
 obtain⟨⟨⟨⟨_,_⟩,t3⟩,t4⟩,_⟩:=ht
 have hm:=bZ3 h1
 have zl:=hm.zl
 have xm:=hm.x.most
 have ym:=hm.y.most
 have a1:=(bm3 h2).x.most
 have a2:=(bm3 h2).yl
 have b0:=bm3 hc
 have b1:=b0.x.most
 have b2:=b0.yl
 have hf:aG3 t.C3.Y=some true:=by
  have e:H9 t.C3.Y aA6=some (cz3 t.C3.Y):=dd4 t.C3.Y (by omega) (fun i hi=>b0.el i (by omega))
  unfold aG3
  rw[e,t4];rfl
 have hz:G0 t.N9.Z aw3=some (t.N9.Z.any fun r=>!r.all (inR (-1280) 3840)):=ai3 _ (by omega) _ _ (fun r hr=>by
  obtain⟨k,hk,rfl⟩:=cW9.1 hr
  have rl:=hm.rl k hk
  unfold aw3
  rw[cw7 _ (by omega)];rfl)
 have hz2:(t.N9.Z.any fun r=>!r.all (inR (-1280) 3840))=false:=by
  rw[dv4]
  intro r hr
  rw[bx8.1 h3 r hr];simp
 unfold ax9
 rw[ao3,h1,aq1,h2,aq1,hc,hf,hz,hz2,cw7 _ (by omega),cw7 _ (by omega),h4,t3]
 rfl
def ct8 (t:o7)(v k:Int):Int:=min (cAt t.af1 v) (3*k/4)
theorem ek3 {t:o7}(h:bK7 t=true)(ht:aZ1 t=true){v k:Int}(v0:0<=v/\v<=20000)(k0:4000<=k/\k<=1000000):aG2 t v k=some (ct8 t v k,0)/\500<=ct8 t v k/\ct8 t v k<=10000:=by
 have hh:=h
 unfold bK7 at hh
 simp only[aI0]at hh
 have hb:=cc7 hh.1.1.2 v (eU2 hh.1.1.2 hh.2)
 unfold aG2 ct8
 rw[dy5 h ht,bF1,bF1,R5 v0.1 v0.2,R5 k0.1 k0.2,dE2 hh.1.1.2]
 simp only[as5,aX0,fh5]
 rw[j5 (n:=3*k) (by omega) (by omega),cz5 (by omega),j5 (by omega) (by omega),aq6]
 exact⟨rfl,by omega,by omega⟩
def dT0 (t:o7)(s c q r:Int):Int:=
 min (max (sAt t.N9 s c+(if q<20 then 2*(20-q)else if q>100 then -(8*(q-100))else 0)-r) (-1280)) 3840
theorem ef6 {t:o7}(h:bK7 t=true)(ht:aZ1 t=true){s c q r:Int}(s0:0<=s/\s<=12000)(c0:0<=c/\c<=1048576)(q0:-40<=q/\q<=150)(r0:0<=r/\r<=1280):aG1 t s c q r=some (dT0 t s c q r,0):=by
 have hh:=h
 unfold bK7 at hh
 simp only[aI0]at hh
 have hb:=cf4 hh.1.1.1 s c (fc9 hh.1.1.1 (fun r hr=>bx8.1 hh.1.2 r hr))
 have e:aM7 t s c=some (sAt t.N9 s c,0):=by
  unfold aM7
  rw[dy5 h ht,bF1,bF1,R5 s0.1 s0.2,R5 c0.1 c0.2,cT0 hh.1.1.1]
  rfl
 unfold aG1 dT0
 rw[e]
 simp only[as5]
 rw[show(((0:Int) !=0))=false from rfl,bF1,bF1,R5 q0.1 q0.2,R5 r0.1 r0.2]
 simp only[fh5,as5,aX0]
 generalize sAt t.N9 s c=z at hb
 by_cases h1:q<20
 ·rw[fi0 h1,if_pos h1]
  simp only[fh8]
  rw[j5 (n:=20-q) (by omega) (by omega),j5 (n:=2*(20-q)) (by omega) (by omega),j5 (n:=z+2*(20-q)) (by omega) (by omega),j5 (by omega) (by omega),aC3,aq6,ao4]
  rfl
 ·rw[fi1 h1,if_neg h1]
  simp only[fh5]
  by_cases h2:q>100
  ·rw[fi0 h2,if_pos h2]
   simp only[fh8]
   rw[j5 (n:=q-100) (by omega) (by omega),j5 (n:=8*(q-100)) (by omega) (by omega),j5 (n:=z-8*(q-100)) (by omega) (by omega),j5 (by omega) (by omega),aC3,aq6,ao4]
   rfl
  ·rw[fi1 h2,if_neg h2]
   simp only[fh5]
   rw[j5 (by omega) (by omega),aC3,aq6,ao4,Int.add_zero]
   rfl
theorem dT1 (t:o7)(s c q r:Int):-1280<=dT0 t s c q r/\dT0 t s c q r<=3840:=by unfold dT0;omega
end Go.Pv
namespace Go.Pv.Ar
open Go Go.Pv
theorem da1 {α:Type}(c:Bool)(x y:α):(bif c then some x else some y)=some (bif c then x else y):=by cases c<;>rfl
def cn9 (r:j2):Prop:=(0<=r.N3/\r.N3<=15)/\(0<=r.E6/\r.E6<=15)/\(-5000<=r.o9/\r.o9<=10000)/\(r.Kind=1\/(r.N3<=1/\(r.Kind=2\/r.Kind=3)))
instance (r:j2):Decidable (cn9 r):=by unfold cn9;infer_instance
theorem ao3 (r:j2):S6 r=some (decide (cn9 r)):=by
 unfold S6 P3
 simp only[as5,da1]
 rw[aH8,dG9,fi2]
 unfold cn9
 simp only[Bool.cond_true_left,Bool.cond_false_left,Bool.cond_false_right,cH8,aI0,bY2,bG1,ef2,fi2,fi3,beq_iff_eq,ge_iff_le]
 omega
def aZ1 (t:Int):Bool:=decide (t>= -5000)&&decide (t<=10000)
def ea8 (low high:Int):Bool:=(!aZ1 low|| !aZ1 high)||decide (low>high)
def dU2 (l:List j2):Bool:=l.any fun r=>!decide (cn9 r)
def chk (l:List j2)(low high:Int):Int:=bif dU2 l then 1 else bif decide ((l.length:Int)>32)then 5 else bif ea8 low high then 2 else 0
theorem eG8 (low high:Int):(ai8 (some (aZ1 low)) fun v2=>ai8 (bif (!v2)then(some true)else(ai8 (some (aZ1 high)) fun v3=>some (!v3))) fun b2=>bif (b2||(decide (low>high)))then(some (2:Int))else(some 0))=some (bif ea8 low high then 2 else 0):=by
 unfold ea8
 cases aZ1 low<;>cases aZ1 high<;>cases decide (low>high)<;>rfl
theorem em2 (l:List j2)(low high:Int)(hl:l.length<=1000):av5 l low high=some (chk l low high):=by
 unfold av5 chk
 have k:=ai3 l (by omega) ah4 (fun r=>!decide (cn9 r)) (fun y _=>by unfold ah4;rw[ao3];rfl)
 have k':D7 l ah4=some (dU2 l):=k
 rw[k']
 simp only[as5]
 cases dU2 l
 ·simp only[fh5]
  cases decide ((l.length:Int)>32)
  ·simp only[fh5]
   exact eG8 low high
  ·rfl
 ·rfl
structure cV6 (l:List j2)(low high:Int):Prop where
 req:∀r∈l,cn9 r
 len:l.length<=32
 lo:-5000<=low
 hi:high<=10000
 ord:low<=high
theorem ei4 {l:List j2}{low high:Int}:chk l low high=0↔cV6 l low high:=by
 have hb:dU2 l=false↔∀r∈l,cn9 r:=by
  unfold dU2
  rw[dv4]
  constructor
  ·intro h r hr;simpa using h r hr
  ·intro h r hr;simpa using h r hr
 have hr:ea8 low high=false↔(-5000<=low/\low<=10000/\ -5000<=high/\high<=10000/\low<=high):=by
  unfold ea8 aZ1
  simp only[bG1,ef2,aI0,fi2,fi3]
  omega
 unfold chk
 constructor
 ·intro h
  cases h1:dU2 l<;>rw[h1]at h
  ·cases h2:decide ((l.length:Int)>32)<;>rw[h2]at h
   ·cases h3:ea8 low high<;>rw[h3]at h
    ·have h4:=hr.1 h3
     have h5:¬((l.length:Int)>32):=of_decide_eq_false h2
     exact⟨hb.1 h1,by omega,by omega,by omega,by omega⟩
    ·cases h
   ·cases h
  ·cases h
 ·intro h
  rw[hb.2 h.req,hr.2 (by have:=h.lo;have:=h.hi;have:=h.ord;omega),fi1 (show¬((l.length:Int)>32) by have:=h.len;omega)]
  rfl
def ins (s:u0)(r:j2):Int:=G4 s.low (F2 s.high r.o9)
def nlo (s:u0)(r:j2):Int:=if r.Kind=1 then s.low else ins s r
def nhi (s:u0)(r:j2):Int:=if r.Kind=2 then s.high else ins s r
def stp (s:u0)(r:j2):u0:=⟨nlo s r,nhi s r,if nlo s r=s.low then s.source else r.N3⟩
def chg (s:u0)(r:j2):Bool:=!(decide (nlo s r=s.low)&&decide (nhi s r=s.high))
theorem dW9 {s:u0}{r:j2}(h:s.low<=s.high):s.low<=ins s r/\ins s r<=s.high:=by
 unfold ins G4 F2;split<;>split<;>omega
theorem df7 {s:u0}{r:j2}(h:s.low<=s.high):s.low<=(stp s r).low/\(stp s r).low<=(stp s r).high/\(stp s r).high<=s.high:=by
 have:=dW9 (r:=r) h
 unfold stp nlo nhi
 simp only
 split<;>split<;>omega
theorem cQ3 (s:u0)(r:j2)(lo hi:Int):(ai8 (bif (lo !=s.low)then(some r.N3)else(some s.source)) fun(f3:Int)=>bif (lo !=s.low)then(some (true,(⟨lo,hi,f3⟩:u0)))else(some ((hi !=s.high),(⟨lo,hi,f3⟩:u0))))=some (!(decide (lo=s.low)&&decide (hi=s.high)),⟨lo,hi,if lo=s.low then s.source else r.N3⟩):=by
 by_cases h1:lo=s.low
 ·rw[show(lo !=s.low)=false by simpa using h1,fi0 h1,if_pos h1];rfl
 ·rw[show(lo !=s.low)=true by simpa using h1,fi1 h1,if_neg h1];rfl
theorem dZ0 (s:u0)(r:j2)(h:s.low<=s.high)(hk:r.Kind=1\/r.Kind=2\/r.Kind=3):X0 s r=some (chg s r,stp s r):=by
 have e1:G4 s.low (F2 s.high r.o9)=ins s r:=rfl
 have e2:F2 s.high (G4 s.low r.o9)=ins s r:=by
  unfold ins G4 F2;repeat' split
  all_goals omega
 have e3:F2 (G4 r.o9 s.low) s.high=ins s r:=by
  unfold ins G4 F2;repeat' split
  all_goals omega
 unfold X0 ad4 Z4 Z5 C6
 simp only[as5]
 rw[e1,e2,e3]
 unfold stp chg nlo nhi
 rcases hk with hk|hk|hk
 ·rw[hk]
  exact cQ3 s r s.low (ins s r)
 ·rw[hk]
  exact cQ3 s r (ins s r) s.high
 ·rw[hk]
  exact cQ3 s r (ins s r) (ins s r)
def lev (l:List j2)(j:Nat):List j2:=l.filter fun r=>r.E6==15-(j:Int)
def dw4 (l:List j2)(k:Nat):List j2:=(dB7 k).flatMap (lev l)
abbrev cQ8 (l:List j2):List j2:=dw4 l 16
theorem de5 (l:List j2)(k:Nat):dw4 l (k+1)=dw4 l k++lev l k:=by
 unfold dw4;rw[List.range_succ,List.flatMap_append,List.flatMap_singleton]
def DR (r:j2):Prop:=0<=r.E6/\r.E6<=15
theorem bJ5 {x y:j2}(hx:DR x)(hy:DR y):ltM O2 x y=decide (y.E6<x.E6):=by
 unfold DR at hx hy
 unfold ltM O2
 rw[Option.getD_some,j5 (by omega) (by omega),decide_eq_decide]
 omega
theorem dK0:SW DR O2 where
 ans:=fun x y _ _=>⟨_,rfl⟩
 asym:=fun x y hx hy=>by rw[bJ5 hx hy,bJ5 hy hx,fi2,fi3];omega
 ntrans:=fun x y z hx hy hz=>by rw[bJ5 hx hy,bJ5 hy hz,bJ5 hx hz];simp only[fi3];omega
theorem eA7 {x y:j2}(hx:DR x)(hy:DR y):eqv O2 x y=(y.E6==x.E6):=by
 unfold eqv
 rw[bJ5 hx hy,bJ5 hy hx,dG9]
 simp only[aI0,bY2,fi3,beq_iff_eq]
 omega
theorem dv6 {l:List j2}{k:Nat}{r:j2}:r∈dw4 l k↔r∈l/\∃j,j<k/\r.E6=15-(j:Int):=by
 unfold dw4 lev
 rw[List.mem_flatMap]
 constructor
 ·rintro⟨j,hj,h⟩
  rw[dM6]at h
  exact⟨h.1,j,ej4.1 hj,by simpa using h.2⟩
 ·rintro⟨h,j,hj,hp⟩
  exact⟨j,ej4.2 hj,dM6.2 ⟨h,by simpa using hp⟩⟩
theorem cm3 {l:List j2}(h:bM3 DR l){r:j2}:r∈cQ8 l↔r∈l:=by
 rw[dv6]
 constructor
 ·exact fun h=>h.1
 ·intro hr
  have:=h r hr
  unfold DR at this
  exact⟨hr,(15-r.E6).toNat,by omega,by omega⟩
theorem dw5 {l:List j2}(h:bM3 DR l):∀k,Srt O2 (dw4 l k)
 |0=>.nil
 |k+1=>by
  rw[de5]
  refine Srt.app (dw5 h k) ?_ fun a ha b hb=>?_
  ·unfold lev
   rw[Srt,List.pairwise_iff_getElem]
   intro i j hi hj _
   have m1:=dM6.1 (bd2 hi)
   have m2:=dM6.1 (bd2 hj)
   have p1:=m1.2
   simp only[beq_iff_eq]at p1
   have p2:=m2.2
   simp only[beq_iff_eq]at p2
   rw[bJ5 (h _ m2.1) (h _ m1.1),fi3]
   omega
  ·obtain⟨ha1,j,hj,hp⟩:=dv6.1 ha
   have m2:=dM6.1 hb
   have p2:=m2.2
   simp only[beq_iff_eq]at p2
   rw[bJ5 (h _ m2.1) (h _ ha1),fi3]
   omega
theorem cB2 (l:List j2)(p:Int):∀k,(dw4 l k).filter (fun r=>r.E6==p)=if 15-(k:Int)<p/\p<=15 then l.filter (fun r=>r.E6==p)else []
 |0=>by
  rw[if_neg (by omega)]
  rfl
 |k+1=>by
  rw[de5,dK2,cB2 l p k]
  unfold lev
  rw[List.filter_filter]
  by_cases hp:p=15-(k:Int)
  ·rw[if_neg (by omega),if_pos (by omega),cV5]
   congr 1
   funext r
   rw[<-hp]
   cases r.E6==p<;>rfl
  ·have:(l.filter fun a=>(a.E6==p)&&(a.E6==15-(k:Int)))=[]:=by
    rw[eA8]
    intro r _ h
    simp only[aI0,beq_iff_eq]at h
    omega
   rw[this,da6]
   by_cases h2:15-(k:Int)<p/\p<=15
   ·rw[if_pos h2,if_pos (by omega)]
   ·rw[if_neg h2,if_neg (by omega)]
theorem cT4 {l r:List j2}(h:bM3 DR l)(hs:Srt O2 r)(ht:Sta DR O2 l r):r=cQ8 l:=by
 refine dz5 dK0 (ht.all h) (fun x hx=>h x ((cm3 h).1 hx)) hs (dw5 h 16) fun x hx=>?_
 rw[ht.same x hx]
 have e:∀m:List j2,bM3 DR m->m.filter (eqv O2 x)=m.filter (fun r=>r.E6==x.E6):=fun m hm=>List.filter_congr fun y hy=>eA7 hx (hm y hy)
 rw[e l h,e (cQ8 l) (fun y hy=>h y ((cm3 h).1 hy)),cB2]
 unfold DR at hx
 rw[if_pos (by omega)]
theorem em9:F4=ai1:=by kernel_rfl
theorem eG4 (l:List j2)(hl:l.length<=19)(g:j2->j2->Option Int):J6 l g=aU3 l g:=by
 unfold J6 aU3 N1 bo6
 have h1:decide ((20:Int)<=(l.length:Int))=false:=by simp;omega
 have h2:decide ((20:Int)<(l.length:Int))=false:=by simp;omega
 rw[D9 (b:=.inl (0,20,l)) (by unfold R7;rw[h1];rfl),D9 (b:=.inl (0,20,l)) (by unfold bb0;rw[h1];rfl),em9]
 simp only[as5]
 cases hx:ai1 l 0 (l.length:Int) g with
 |none=>rfl
 |some v=>
  simp only[as5]
  rw[D9 (b:=.inl (20,v)) (by unfold R8;rw[h2];rfl),D9 (b:=.inl (20,v)) (by unfold bb1;rw[h2];rfl)]
  simp only[as5]
def dec (s:u0):List j2->List Int
 |[]=>[]
 |r::l=>(bif chg s r then [r.N3]else [])++dec (stp s r) l
theorem dN3 (s:u0):∀l:List j2,(dec s l).length<=l.length
 |[]=>cv6 _
 |r::l=>by
  have:=dN3 (stp s r) l
  unfold dec
  cases chg s r
  ·simp only[fh5,cV5,br6];omega
  ·simp only[fh8,ba3,br6,cI2];omega
theorem eI3:∀(q:List j2) (i:Int) (acc:List Int) (s:u0),s.low<=s.high->(∀r∈q,r.Kind=1\/r.Kind=2\/r.Kind=3)->acc.length+q.length<=10000->
  L8 aj3 q i (acc,s)=some (.inl (acc++dec s q,q.foldl stp s))
 |[],i,acc,s,_,_,_=>by simp[L8,dec]
 |r::q,i,acc,s,hs,hk,hl=>by
  simp only[br6]at hl
  have hr:=df7 (r:=r) hs
  have hb:aj3 i r (acc,s)=some (.next (acc++(bif chg s r then [r.N3]else []),stp s r)):=by
   unfold aj3
   simp only
   rw[dZ0 s r hs (hk r (by simp))]
   simp only[as5]
   cases chg s r
   ·simp
   ·simp only[fh8]
    rw[H7 _ _ (by simp only[co8];omega)]
    rfl
  simp only[L8,hb,as5]
  rw[eI3 q (i+1) _ (stp s r) (by omega) (fun x hx=>hk x (by simp[hx])) (by rw[ba3];cases chg s r<;>simp<;>omega)]
  simp only[dec,ex7,List.append_assoc]
def s0 (low high:Int):u0:=⟨low,high,-1⟩
def fin (l:List j2)(low high:Int):u0:=(cQ8 l).foldl stp (s0 low high)
def fh3 (l:List j2)(low high:Int):List Int:=bD5 ((dec (s0 low high) (cQ8 l)).mergeSort fun x y=>decide (x<=y))
theorem cV6.dr {l:List j2}{low high:Int}(h:cV6 l low high):bM3 DR l:=fun r hr=>by
 have:=h.req r hr
 unfold cn9 at this
 unfold DR;omega
theorem cV6.kinds {l:List j2}{low high:Int}(h:cV6 l low high):∀r∈l,r.Kind=1\/r.Kind=2\/r.Kind=3:=fun r hr=>by
 have:=h.req r hr
 unfold cn9 at this
 omega
theorem eq1 {l:List j2}{low high:Int}(h:cV6 l low high)(h19:l.length<=19):(cQ8 l).length=l.length:=by
 obtain⟨r,h1,h2,h3⟩:=bW4 dK0 l h.dr h19
 rw[<-cT4 h.dr h2 h3,h3.len]
theorem dV3 {l:List j2}{low high:Int}(h:cV6 l low high)(h19:l.length<=19):ap7 l low high=some (fin l low high,fh3 l low high):=by
 unfold ap7 W8
 have hl:=h.len
 rw[H7 _ _ (by simp only[cI2];omega)]
 simp only[as5,cV5]
 rw[eG4 _ h19]
 obtain⟨r,h1,h2,h3⟩:=bW4 dK0 l h.dr h19
 rw[h1,cT4 h.dr h2 h3]
 simp only[as5]
 have hlen:=eq1 h h19
 rw[K6 _ (by omega),eI3 (cQ8 l) 0 [] ⟨low,high,-1⟩ h.ord (fun x hx=>h.kinds x ((cm3 h.dr).1 hx)) (by simp only[cI2];omega)]
 simp only[as5,cV5]
 unfold aB6 as2
 have hd:=dN3 (s0 low high) (cQ8 l)
 rw[cw9 (show(dec (⟨low,high,-1⟩:u0) (cQ8 l)).length<4611686018427387904 by unfold s0 at hd;omega)]
 simp only[as5]
 rw[cz1 (by rw[List.length_mergeSort];unfold s0 at hd;omega)]
 rfl
theorem cO6:∀(q:List j2) (s:u0),s.low<=s.high->s.low<=(q.foldl stp s).low/\(q.foldl stp s).low<=(q.foldl stp s).high/\(q.foldl stp s).high<=s.high
 |[],s,h=>⟨dr2 _,h,dr2 _⟩
 |r::q,s,h=>by
  have h1:=df7 (r:=r) h
  have h2:=cO6 q (stp s r) (by omega)
  rw[ex7]
  omega
theorem dc0 {l:List j2}{low high:Int}(h:low<=high):low<=(fin l low high).low/\(fin l low high).low<=(fin l low high).high/\(fin l low high).high<=high:=cO6 (cQ8 l) (s0 low high) h
end Go.Pv.Ar

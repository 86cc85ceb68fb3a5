/- A part of the proof of EcuQuiet: Plain models, and more. -/
import Derived.Test.YtmhdghdbojdgfaaGreatEcuQuietD
import Derived.KernelRfl
set_option linter.unusedSimpArgs false
set_option linter.unusedVariables false
set_option maxRecDepth 100000
noncomputable section
open Bool renaming and_eq_false_iff->fc4,and_eq_true->aI9,and_false->ff6,and_true->eU6,eq_iff_iff->dG1,false_and->eA6,false_eq_true->do8,false_or->ed0,not_eq_false'->ef3,not_eq_true'->ck7,not_false->cJ0,not_not->eH9,not_true->aX3,or_eq_false_iff->bN3,or_eq_true->cI5,or_false->eZ0,true_and->cM4
open Int renaming ediv_le_self->eM1,ediv_nonneg->eO6,le_refl->dv9,mul_le_mul->eR2,mul_le_mul_of_nonneg_left->ed7,mul_nonneg->eT0,natAbs->fg9,tdiv->db0,tdiv_eq_ediv_of_nonneg->cA0,tmod->ew5
open Go.IntKind renaming u64->aW6
open List renaming all_eq_true->bF0,any_eq_false->dC3,any_eq_not_all_not->dS2,append_nil->dh6,filter_append->dJ7,filter_cons->ex5,filter_cons_of_pos->dZ1,filter_eq_nil_iff->eA8,filter_nil->eK1,foldl_cons->ex9,getD_eq_getElem?_getD->cZ0,getElem?_eq_getElem->aW5,getElem?_eq_none->ed5,getElem?_set_ne->fd1,getElem_mem->bd9,length_append->aZ7,length_cons->bv4,length_nil->cV7,length_replicate->eH4,length_singleton->cr0,mem_append->do5,mem_cons->cq9,mem_cons_self->bN8,mem_filter->dM7,mem_iff_getElem->cY2,mem_map->da1,mem_range->ej6,mem_range'->eO7,nil_append->cW3,pairwise_append->eU9,pairwise_cons->ey0,range->dC2,range'->ed4,replicate->cG8
open Nat renaming add_sub_cancel->fg7,eq_zero_or_pos->dR2,le_refl->cw4,lt_or_ge->dc9
open Option renaming bind->ai2,bind_assoc->bY5,bind_some->aD6
open Option.some renaming injEq->aH6
namespace Go.Pv
open Go
def ah4 (a:Int):Option Bool:=
 some ((decide (a>=0))&&(decide (a<46080)))
def an5 (s:List Int)(v i:Int)(_:Unit):Option (Fl Unit Int):=
 ai2 (C9 s i) fun x=>bif (v==x)then(some (.ret i))else(some (.next ()))
def V5 (s:List Int)(v:Int):Option Int:=
 ai2 (K5 (s.length:Int) (an5 s v) ()) fun(t:Unit⊕Int)=>match t with| .inl _=>(some (-1))| .inr r2=>some r2
def P1 (s:List Int)(v:Int):Option Bool:=
 ai2 (V5 s v) fun v2=>some (decide (v2>=0))
def ar8 (e2:o4)(i:Int):Option (Int⊕(Int⊕Bool)):=
 bif (decide (i<=(e2.z8.length:Int)))then(ai2 (P1 e2.z8 i) fun v2=>bif (!v2)then(some (.inr (.inr false)))else(some (.inl (j7 (i+1)))))else(some (.inr (.inl i)))
def O5 (e2:o4):Option Bool:=
 ai2 (bif ((decide ((e2.z8.length:Int)<1))||(decide ((e2.z8.length:Int)>8)))then(some true)else(ai2 (ah4 e2.ao2) fun v=>some (!v))) fun b2=>bif b2 then(some false)else(ai2 (J7 (ar8 e2) 1) fun(t:Int⊕Bool)=>match t with| .inl _=>(some true)| .inr r2=>some r2)
def aU2 (n2:Int):Option (List B6×Int):=
 bif ((decide (n2<1))||(decide (n2>8)))then(some (([]:List B6),2))else(ai2 (P3 ([(⟨0,100,0⟩:B6)]:List B6) n2) fun v=>some (v,0))
def bi3:Option U2:=
 some (⟨0,0,false⟩:U2)
def aK8:Option M6:=
 ai2 (aX7 9 (⟨0,0⟩:aa7)) fun l=>some (⟨false,false,1000,0,l⟩:M6)
def az1 (e2:o4):Option (A5×Int):=
 ai2 (O5 e2) fun v=>bif (!v)then(some ((⟨(⟨0,0,false⟩:U2),(⟨0⟩:F4),([]:List B6),(⟨false,false,0,0,([]:List aa7)⟩:M6),0,(⟨0,0⟩:Z7)⟩:A5),1))else(ai2 (aU2 (e2.z8.length:Int)) fun r2=>bif (r2.2 !=0)then(some ((⟨(⟨0,0,false⟩:U2),(⟨0⟩:F4),([]:List B6),(⟨false,false,0,0,([]:List aa7)⟩:M6),0,(⟨0,0⟩:Z7)⟩:A5),1))else(ai2 (bi3) fun v2=>ai2 (aK8) fun v3=>some ((⟨v2,(⟨0⟩:F4),r2.1,v3,0,(⟨0,(-1)⟩:Z7)⟩:A5),0)))
def V8 (s:List Int)(f2:Int->Option Bool)(i:Int)(_:Unit):Option (Fl Unit Int):=
 ai2 (C9 s i) fun x=>ai2 (f2 x) fun v=>bif v then(some (.ret i))else(some (.next ()))
def T8 (s:List Int)(f2:Int->Option Bool):Option Int:=
 ai2 (K5 (s.length:Int) (V8 s f2) ()) fun(t:Unit⊕Int)=>match t with| .inl _=>(some (-1))| .inr r2=>some r2
def o5 (s:List Int)(f2:Int->Option Bool):Option Bool:=
 ai2 (T8 s f2) fun v=>some (decide (v>=0))
def ab5 (n2:Int):Option Bool:=
 some ((decide (n2>=(-1073741824)))&&(decide (n2<=1073741824)))
def ax8 (l:List Int)(i:Int)(_:Unit):Option (Fl Unit Bool):=
 ai2 (C9 l i) fun x=>ai2 (ab5 x) fun v=>ai2 (bif (!v)then(some true)else(ai2 (bif (decide (i>0))then(ai2 (C9 l (j7 (i-1))) fun x2=>some (decide (x<=x2)))else(some false)) fun b2=>some b2)) fun b3=>bif b3 then(some (.ret false))else(some (.next ()))
def ar2 (l:List Int):Option Bool:=
 bif ((decide ((l.length:Int)<2))||(decide ((l.length:Int)>32)))then(some false)else(ai2 (K5 (l.length:Int) (ax8 l) ()) fun(t:Unit⊕Bool)=>match t with| .inl _=>(some true)| .inr r2=>some r2)
def ah2 (z:Int):Option Bool:=
 ai2 (ab5 z) fun v=>some (!v)
def aB1 (m2:SMap)(_:Int)(x:List Int)(_:Unit):Option (Fl Unit Bool):=
 ai2 (bif ((x.length:Int) !=(m2.Y.length:Int))then(some true)else(ai2 (o5 x ah2) fun v3=>some v3)) fun b3=>bif b3 then(some (.ret false))else(some (.next ()))
def I8 (m2:SMap):Option Bool:=
 ai2 (ar2 m2.X) fun v=>ai2 (bif (!v)then(some true)else(ai2 (ar2 m2.Y) fun v2=>some (!v2))) fun b2=>bif (b2||((m2.Z.length:Int) !=(m2.X.length:Int)))then(some false)else(ai2 (ad3 m2.Z (aB1 m2) ()) fun(t:Unit⊕Bool)=>match t with| .inl _=>(some true)| .inr r2=>some r2)
def aA5 (n2:Int):Option Bool:=
 some ((decide (n2<(-1073741824)))||(decide (n2>1073741824)))
def aG5 (l:List Int)(i:Int)(_:Unit):Option (Fl Unit Bool):=
 ai2 (C9 l i) fun x=>ai2 (C9 l (j7 (i+1))) fun x2=>bif (decide (x>=x2))then(some (.ret false))else(some (.next ()))
def aL4 (l:List Int):Option Bool:=
 ai2 (bif ((decide ((l.length:Int)<2))||(decide ((l.length:Int)>32)))then(some true)else(ai2 (o5 l aA5) fun v=>some v)) fun b2=>bif b2 then(some false)else(ai2 (K5 (j7 ((l.length:Int)-1)) (aG5 l) ()) fun(t:Unit⊕Bool)=>match t with| .inl _=>(some true)| .inr r2=>some r2)
def P0 (c:P8):Option Bool:=
 ai2 (bif ((c.X.length:Int)==(c.Y.length:Int))then(ai2 (aL4 c.X) fun v=>some v)else(some false)) fun b2=>ai2 (bif b2 then(ai2 (o5 c.Y aA5) fun v2=>some (!v2))else(some false)) fun b3=>some b3
def cmp_isNaN_int (x:Int):Option Bool:=
 some (x !=x)
def cmp_Less_int (x y:Int):Option Bool:=
 ai2 (cmp_isNaN_int x) fun v=>ai2 (bif v then(ai2 (cmp_isNaN_int y) fun v2=>some (!v2))else(some false)) fun b2=>some (b2||(decide (x<y)))
def Q2 (x:List Int)(i:Int):Option (Int⊕(Int⊕Bool)):=
 bif (decide (i>0))then(ai2 (C9 x i) fun x2=>ai2 (C9 x (j7 (i-1))) fun x3=>ai2 (cmp_Less_int x2 x3) fun v=>bif v then(some (.inr (.inr false)))else(some (.inl (j7 (i-1)))))else(some (.inr (.inl i)))
def P2 (x:List Int):Option Bool:=
 ai2 (J7 (Q2 x) (j7 ((x.length:Int)-1))) fun(t:Int⊕Bool)=>match t with| .inl _=>(some true)| .inr r2=>some r2
def I2 (n2 low high:Int):Option Bool:=
 some ((decide (n2>=low))&&(decide (n2<=high)))
def aK0 (y:Int):Option Bool:=
 ai2 (I2 y 100 3000) fun v=>some (!v)
def aS8 (_:Int)(x:List Int)(_:Unit):Option (Fl Unit Bool):=
 ai2 (P2 x) fun v3=>ai2 (bif (!v3)then(some true)else(ai2 (C9 x 0) fun x2=>ai2 (I2 x2 0 1048576) fun v4=>some (!v4))) fun b3=>ai2 (bif b3 then(some true)else(ai2 (C9 x (j7 ((x.length:Int)-1))) fun x3=>ai2 (I2 x3 0 1048576) fun v5=>some (!v5))) fun b4=>bif b4 then(some (.ret false))else(some (.next ()))
def aA2 (t2:o6):Option Bool:=
 ai2 (I8 t2.Air) fun v=>ai2 (bif (!v)then(some true)else(ai2 (P0 t2.L3) fun v2=>some (!v2))) fun b2=>bif b2 then(some false)else(ai2 (ad3 t2.Air.Z (aS8) ()) fun(t:Unit⊕Bool)=>match t with| .inl _=>(ai2 (o5 t2.L3.Y aK0) fun v6=>some (!v6))| .inr r2=>some r2)
def Z5 (s:List (List Int))(f2:(List Int)->Option Bool)(i:Int)(_:Unit):Option (Fl Unit Int):=
 ai2 (C9 s i) fun x=>ai2 (f2 x) fun v=>bif v then(some (.ret i))else(some (.next ()))
def V4 (s:List (List Int))(f2:(List Int)->Option Bool):Option Int:=
 ai2 (K5 (s.length:Int) (Z5 s f2) ()) fun(t:Unit⊕Int)=>match t with| .inl _=>(some (-1))| .inr r2=>some r2
def F6 (s:List (List Int))(f2:(List Int)->Option Bool):Option Bool:=
 ai2 (V4 s f2) fun v=>some (decide (v>=0))
def H3 (x low high:Int):Option Bool:=
 some ((decide (x>=low))&&(decide (x<=high)))
def an7 (x c c2:Int):Option Bool:=
 ai2 (H3 x c c2) fun v=>some (!v)
def ag7 (l:List Int)(low high:Int):Option Bool:=
 ai2 (o5 l (fun x0=>an7 x0 low high)) fun v=>some v
def L4 (x:List Int)(cmp:Int->Int->Option Int)(i:Int):Option (Int⊕(Int⊕Bool)):=
 bif (decide (i>0))then(ai2 (C9 x i) fun x2=>ai2 (C9 x (j7 (i-1))) fun x3=>ai2 (cmp x2 x3) fun v=>bif (decide (v<0))then(some (.inr (.inr false)))else(some (.inl (j7 (i-1)))))else(some (.inr (.inl i)))
def H7 (x:List Int)(cmp:Int->Int->Option Int):Option Bool:=
 ai2 (J7 (L4 x cmp) (j7 ((x.length:Int)-1))) fun(t:Int⊕Bool)=>match t with| .inl _=>(some true)| .inr r2=>some r2
def ab6 (a b2:Int):Option Int:=
 some (j7 (b2-a))
def ak5 (row:List Int):Option Bool:=
 ai2 (ag7 row 0 10000) fun v=>ai2 (bif v then(some true)else(ai2 (P2 row) fun v2=>some (!v2))) fun b2=>some b2
def ah8 (t2:o6):Option Bool:=
 ai2 (I8 t2.o8) fun v=>ai2 (bif (!v)then(some true)else(ai2 (P0 t2.C1) fun v2=>some (!v2))) fun b2=>ai2 (bif b2 then(some true)else(ai2 (ag7 t2.C1.Y 0 1000) fun v3=>some v3)) fun b3=>bif b3 then(some false)else(ai2 (H7 t2.C1.Y ab6) fun v4=>bif (!v4)then(some false)else(ai2 (F6 t2.o8.Z ak5) fun v5=>some (!v5)))
def J1 (x low high:Int):Option Bool:=
 some ((decide (x>=low))&&(decide (x<=high)))
def az2 (x c c2:Int):Option Bool:=
 ai2 (J1 x c c2) fun v=>some (!v)
def af4 (l:List Int)(low high:Int):Option Bool:=
 ai2 (o5 l (fun x0=>az2 x0 low high)) fun v=>some (!v)
def Q1 (g:aV0):Option Bool:=
 some (((((((decide (g.P>=0))&&(decide (g.P<=65536)))&&(decide (g.I>=0)))&&(decide (g.I<=65536)))&&(decide (g.Low>=(-1073741824))))&&(decide (g.Low<=g.bn0)))&&(decide (g.bn0<=1073741824)))
def aA4 (_:Int)(x:List Int)(_:Unit):Option (Fl Unit Bool):=
 ai2 (af4 x (-1280) 3840) fun v7=>bif (!v7)then(some (.ret false))else(some (.next ()))
def ab8 (t2:o6):Option Bool:=
 ai2 (aA2 t2) fun v=>ai2 (bif (!v)then(some true)else(ai2 (ah8 t2) fun v2=>some (!v2))) fun b2=>ai2 (bif b2 then(some true)else(ai2 (I8 t2.N8) fun v3=>some (!v3))) fun b3=>ai2 (bif b3 then(some true)else(ai2 (I8 t2.aH5) fun v4=>some (!v4))) fun b4=>ai2 (bif b4 then(some true)else(ai2 (P0 t2.ae6) fun v5=>some (!v5))) fun b5=>ai2 (bif b5 then(some true)else(ai2 (P0 t2.av6) fun v6=>some (!v6))) fun b6=>bif b6 then(some false)else(ai2 (ad3 t2.N8.Z (aA4) ()) fun(t:Unit⊕Bool)=>match t with| .inl _=>(ai2 (af4 t2.ae6.Y 500 10000) fun v8=>ai2 (bif v8 then(ai2 (af4 t2.av6.Y 0 10000) fun v9=>some v9)else(some false)) fun b7=>ai2 (bif b7 then(ai2 (Q1 t2.ae3) fun v10=>some v10)else(some false)) fun b8=>some b8)| .inr r2=>some r2)
def F5 (x low high:Int):Option Bool:=
 some ((decide (x>=low))&&(decide (x<=high)))
def ai9 (b2:L0):Option Bool:=
 ai2 (F5 b2.ai3 100 1048576) fun v=>ai2 (bif v then(ai2 (F5 b2.ao9 0 65536) fun v2=>some v2)else(some false)) fun b3=>ai2 (bif b3 then(ai2 (F5 b2.I6 0 65536) fun v3=>some v3)else(some false)) fun b4=>ai2 (bif b4 then(ai2 (F5 b2.aO6 1 65536) fun v4=>some v4)else(some false)) fun b5=>ai2 (bif b5 then(ai2 (F5 b2.O8 0 1023) fun v5=>some v5)else(some false)) fun b6=>ai2 (bif b6 then(ai2 (F5 b2.K7 1 1024) fun v6=>some v6)else(some false)) fun b7=>ai2 (bif b7 then(ai2 (F5 b2.aX1 0 20) fun v7=>some v7)else(some false)) fun b8=>some b8
def aw9 (p2:U2):Option Bool:=
 ai2 (bif p2.aQ1 then(some 200)else(some 1000)) fun(most:Int)=>some (((((decide (p2.Value>=0))&&(decide (p2.Value<=most)))&&(decide (p2.ae9>=0)))&&(decide (p2.ae9<=3)))&&(p2.aQ1==(p2.ae9==3)))
def R7 (x low high:Int):Option Bool:=
 some ((decide (x>=low))&&(decide (x<=high)))
def ai1 (s:List aa7)(f2:aa7->Option Bool)(i:Int)(_:Unit):Option (Fl Unit Int):=
 ai2 (C9 s i) fun x=>ai2 (f2 x) fun v=>bif v then(some (.ret i))else(some (.next ()))
def aa1 (s:List aa7)(f2:aa7->Option Bool):Option Int:=
 ai2 (K5 (s.length:Int) (ai1 s f2) ()) fun(t:Unit⊕Int)=>match t with| .inl _=>(some (-1))| .inr r2=>some r2
def Q6 (s:List aa7)(f2:aa7->Option Bool):Option Bool:=
 ai2 (aa1 s f2) fun v=>some (decide (v>=0))
def aa9 (c:aa7):Option Bool:=
 ai2 (R7 c.Value (-100) 100) fun v=>ai2 (bif (!v)then(some true)else(ai2 (R7 c.E0 0 1000) fun v2=>some (!v2))) fun b2=>some b2
def ac0 (p2:M6):Option Bool:=
 ai2 (R7 p2.aj4 750 1250) fun v=>ai2 (bif (!v)then(some true)else(ai2 (R7 p2.bc8 0 1000) fun v2=>some (!v2))) fun b2=>bif (b2||((p2.Cells.length:Int) !=9))then(some false)else(ai2 (bif (!p2.al8)then(some (((p2.aj4 !=1000)||(p2.bc8 !=0))||p2.bc7))else(some false)) fun b3=>bif b3 then(some false)else(ai2 (Q6 p2.Cells aa9) fun v3=>some (!v3)))
def ag4 (s:List B6)(f2:B6->Option Bool)(i:Int)(_:Unit):Option (Fl Unit Int):=
 ai2 (C9 s i) fun x=>ai2 (f2 x) fun v=>bif v then(some (.ret i))else(some (.next ()))
def X6 (s:List B6)(f2:B6->Option Bool):Option Int:=
 ai2 (K5 (s.length:Int) (ag4 s f2) ()) fun(t:Unit⊕Int)=>match t with| .inl _=>(some (-1))| .inr r2=>some r2
def I7 (s:List B6)(f2:B6->Option Bool):Option Bool:=
 ai2 (X6 s f2) fun v=>some (decide (v>=0))
def ah0 (n2:Int):Option Bool:=
 some ((decide (n2>=0))&&(decide (n2<=4095)))
def aw4 (k:B6):Option Bool:=
 ai2 (bif ((decide (k.as4>=0))&&(decide (k.as4<=960)))then(ai2 (ah0 k.aH3) fun v=>some v)else(some false)) fun b2=>some ((b2&&(decide (k.Quiet>=0)))&&(decide (k.Quiet<100)))
def aj8 (k:B6):Option Bool:=
 ai2 (aw4 k) fun v=>some (!v)
def ap5 (e2:o4)(c:A5):Option Bool:=
 ai2 (O5 e2) fun v=>ai2 (bif (!v)then(some true)else(ai2 (aw9 c.I4) fun v2=>some (!v2))) fun b2=>ai2 (bif b2 then(some true)else(ai2 (ac0 c.P9) fun v3=>some (!v3))) fun b3=>bif (b3||((c.aa6.length:Int) !=(e2.z8.length:Int)))then(some false)else(ai2 (I7 c.aa6 aj8) fun v4=>bif v4 then(some false)else(ai2 (J1 c.ae3.Sum (-4398046511104) 4398046511104) fun v5=>ai2 (bif v5 then(ai2 (J1 c.O8 0 1073741824) fun v6=>some v6)else(some false)) fun b4=>ai2 (bif b4 then(ai2 (J1 c.af0.o8 (-5000) 10000) fun v7=>some v7)else(some false)) fun b5=>ai2 (bif b5 then(ai2 (J1 c.af0.N1 (-1) 15) fun v8=>some v8)else(some false)) fun b6=>some b6))
def ab2 (s:List j2)(f2:j2->Option Bool)(i:Int)(_:Unit):Option (Fl Unit Int):=
 ai2 (C9 s i) fun x=>ai2 (f2 x) fun v=>bif v then(some (.ret i))else(some (.next ()))
def U5 (s:List j2)(f2:j2->Option Bool):Option Int:=
 ai2 (K5 (s.length:Int) (ab2 s f2) ()) fun(t:Unit⊕Int)=>match t with| .inl _=>(some (-1))| .inr r2=>some r2
def D5 (s:List j2)(f2:j2->Option Bool):Option Bool:=
 ai2 (U5 s f2) fun v=>some (decide (v>=0))
def O9 (t2:Int):Option Bool:=
 some ((decide (t2>=(-5000)))&&(decide (t2<=10000)))
def R9 (r2:j2):Option Bool:=
 ai2 (bif ((((decide (r2.N1<0))||(decide (r2.N1>15)))||(decide (r2.E4<0)))||(decide (r2.E4>15)))then(some true)else(ai2 (O9 r2.o8) fun v=>some (!v))) fun b2=>bif b2 then(some false)else(ai2 (bif (r2.Kind==1)then(some true)else(ai2 (bif (decide (r2.N1<=1))then(some ((r2.Kind==2)||(r2.Kind==3)))else(some false)) fun b3=>some b3)) fun b4=>some b4)
def ag9 (r2:j2):Option Bool:=
 ai2 (R9 r2) fun v=>some (!v)
def au8 (i:W4)(B2:Int):Option Bool:=
 ai2 (J1 B2 1 8) fun v=>bif (((!v)||((i.X0.length:Int) !=B2))||(decide ((i.Requests.length:Int)>30)))then(some false)else(ai2 (J1 i.D1 0 12000) fun v2=>ai2 (bif v2 then(ai2 (J1 i.K9 50 3000) fun v3=>some v3)else(some false)) fun b2=>ai2 (bif b2 then(ai2 (J1 i.L3 (-40) 150) fun v4=>some v4)else(some false)) fun b3=>ai2 (bif b3 then(ai2 (J1 i.au3 (-40) 150) fun v5=>some v5)else(some false)) fun b4=>ai2 (bif b4 then(ai2 (J1 i.aH9 0 20000) fun v6=>some v6)else(some false)) fun b5=>ai2 (bif b5 then(ai2 (J1 i.Lambda 0 20000) fun v7=>some v7)else(some false)) fun b6=>ai2 (bif b6 then(ai2 (af4 i.X0 0 4095) fun v8=>some v8)else(some false)) fun b7=>ai2 (bif b7 then(ai2 (D5 i.Requests ag9) fun v9=>some (!v9))else(some false)) fun b8=>some b8)
def C4 (x low high:Int):Option Int:=
 some (F2 (G4 x low) high)
def ai8 (n2:Int):Option Bool:=
 some ((decide (n2>=0))&&(decide (n2<=12000)))
def aw3 (D3:Int):Option Int:=
 bif (decide (D3<=(-20)))then(some 1200)else(bif (decide (D3>=70))then(some 800)else(some (j7 (1200-(j7 (db0 (j7 (400*(j7 (D3+20)))) 90))))))
def bb5 (o7 D3:Int):Option Bool:=
 ai2 (aw3 D3) fun v=>some (decide (o7<(j7 (v+300))))
def aw2 (be9 o7 D3:Int):Option Bool:=
 ai2 (bif ((decide (be9>=0))&&(decide (be9<20)))then(ai2 (ai8 o7) fun v=>some v)else(some false)) fun b2=>ai2 (bif b2 then(ai2 (bb5 o7 D3) fun v2=>some v2)else(some false)) fun b3=>some b3
def aL8 (p2:U2)(first second:Int):Option (U2×Int):=
 ai2 (aw9 p2) fun v=>bif (!v)then(some ((⟨0,0,false⟩:U2),1))else(ai2 (C4 first 0 1000) fun v2=>ai2 (C4 second 0 500) fun v3=>ai2 (bif (decide ((G4 (j7 (v2-(j7 (2*v3)))) (j7 ((j7 (2*v3))-v2)))>50))then(some (F2 3 (j7 (p2.ae9+1))))else(bif (!p2.aQ1)then(some 0)else(some p2.ae9))) fun(f2:Int)=>bif (f2==3)then(some ((⟨F2 (F2 v2 (j7 (2*v3))) 200,f2,(f2==3)⟩:U2),0))else(bif (decide ((G4 (j7 (v2-(j7 (2*v3)))) (j7 ((j7 (2*v3))-v2)))>50))then(some ((⟨F2 (F2 v2 (j7 (2*v3))) p2.Value,f2,(f2==3)⟩:U2),0))else(some ((⟨v2,f2,(f2==3)⟩:U2),0))))
def u5 (s:k6)(e2:Int):Option k6:=
 bif (s.fail==0)then(some ({s with fail:=e2}:k6))else(some s)
def ab3 (f2:Int->Option Bool)(s:Int×Int):Option ((Int×Int)⊕((Int×Int)⊕Empty)):=
 bif (decide (s.1<s.2))then(ai2 (f2 (j7 (D0 .u64 (aW6.wrap (j7 (s.1+s.2))) 1))) fun v=>bif (!v)then(some (.inl (j7 ((j7 (D0 .u64 (aW6.wrap (j7 (s.1+s.2))) 1))+1),s.2)))else(some (.inl (s.1,j7 (D0 .u64 (aW6.wrap (j7 (s.1+s.2))) 1)))))else(some (.inr (.inl (s.1,s.2))))
def P6 (n2:Int)(f2:Int->Option Bool):Option Int:=
 ai2 (J7 (ab3 f2) (0,n2)) fun(t:(Int×Int)⊕Empty)=>match t with| .inl s2=>(some s2.1)| .inr r=>r.elim
def ae2 (i:Int)(c:List Int)(c2:Int):Option Bool:=
 ai2 (C9 c i) fun x=>some (decide (x>c2))
def W8 (l:List Int)(x:Int):Option (Int×Int):=
 ai2 (C9 l 0) fun x2=>ai2 (C9 l (j7 ((l.length:Int)-1))) fun x3=>ai2 (C4 x x2 x3) fun v=>ai2 (P6 (l.length:Int) (fun x0=>ae2 x0 l v)) fun v2=>some (F2 (j7 (v2-1)) (j7 ((l.length:Int)-2)),v)
def U6 (n2:Int):Option Int:=
 bif (decide (n2<0))then(some (aW6.wrap ((aW6.wrap (j7 (0-(j7 (n2+1)))))+1)))else(some (aW6.wrap n2))
def aN5 (x:Int):Option Int:=
 cv5 x
def V7 (x:Int):Option Int:=
 ai2 (aN5 x) fun v=>some (j7 (64-v))
def aC7 (q3 q6:Int)(s3:Int×Int):Option ((Int×Int)⊕((Int×Int)⊕Empty)):=
 bif ((decide (s3.1>=4294967296))||(decide ((aW6.wrap (s3.1*(N2 .u64 q3 4294967295)))>(aW6.wrap ((aW6.wrap (4294967296*s3.2))+(D0 .u64 q6 32))))))then(bif (decide ((aW6.wrap (s3.2+(D0 .u64 q3 32)))>=4294967296))then(some (.inr (.inl (aW6.wrap (s3.1-1),aW6.wrap (s3.2+(D0 .u64 q3 32))))))else(some (.inl (aW6.wrap (s3.1-1),aW6.wrap (s3.2+(D0 .u64 q3 32))))))else(some (.inr (.inl (s3.1,s3.2))))
def aC8 (q3 q6:Int)(s5:Int×Int):Option ((Int×Int)⊕((Int×Int)⊕Empty)):=
 bif ((decide (s5.2>=4294967296))||(decide ((aW6.wrap (s5.2*(N2 .u64 q3 4294967295)))>(aW6.wrap ((aW6.wrap (4294967296*s5.1))+(N2 .u64 q6 4294967295))))))then(bif (decide ((aW6.wrap (s5.1+(D0 .u64 q3 32)))>=4294967296))then(some (.inr (.inl (aW6.wrap (s5.1+(D0 .u64 q3 32)),aW6.wrap (s5.2-1)))))else(some (.inl (aW6.wrap (s5.1+(D0 .u64 q3 32)),aW6.wrap (s5.2-1)))))else(some (.inr (.inl (s5.1,s5.2))))
def al0 (hi lo y:Int):Option (Int×Int):=
 ai2 (bif (y==0)then none else(some ())) fun(_:Unit)=>ai2 (bif (decide (y<=hi))then none else(some ())) fun(_:Unit)=>bif (hi==0)then(ai2 (bm5 .u64 lo y) fun q=>ai2 (cf7 lo y) fun q2=>some (q,q2))else(ai2 (V7 y) fun v=>ai2 (et3 .u64 y (aW6.wrap v)) fun q3=>ai2 (et3 .u64 hi (aW6.wrap v)) fun q4=>ai2 (et4 .u64 lo (aW6.wrap (64-(aW6.wrap v)))) fun q5=>ai2 (et3 .u64 lo (aW6.wrap v)) fun q6=>ai2 (bm5 .u64 (U4 .u64 q4 q5) (D0 .u64 q3 32)) fun q7=>ai2 (J7 (aC7 q3 q6) (q7,aW6.wrap ((U4 .u64 q4 q5)-(aW6.wrap (q7*(D0 .u64 q3 32)))))) fun(t:(Int×Int)⊕Empty)=>match t with| .inl s4=>(ai2 (bm5 .u64 (aW6.wrap ((aW6.wrap ((aW6.wrap ((U4 .u64 q4 q5)*4294967296))+(D0 .u64 q6 32)))-(aW6.wrap (s4.1*q3)))) (D0 .u64 q3 32)) fun q8=>ai2 (J7 (aC8 q3 q6) (aW6.wrap ((aW6.wrap ((aW6.wrap ((aW6.wrap ((U4 .u64 q4 q5)*4294967296))+(D0 .u64 q6 32)))-(aW6.wrap (s4.1*q3))))-(aW6.wrap (q8*(D0 .u64 q3 32)))),q8)) fun(t:(Int×Int)⊕Empty)=>match t with| .inl s6=>(ai2 (et4 .u64 (aW6.wrap ((aW6.wrap ((aW6.wrap ((aW6.wrap ((aW6.wrap ((aW6.wrap ((U4 .u64 q4 q5)*4294967296))+(D0 .u64 q6 32)))-(aW6.wrap (s4.1*q3))))*4294967296))+(N2 .u64 q6 4294967295)))-(aW6.wrap (s6.2*q3)))) (aW6.wrap v)) fun q9=>some (aW6.wrap ((aW6.wrap (s4.1*4294967296))+s6.2),q9))| .inr r=>r.elim)| .inr r=>r.elim)
def aj7 (r2 c:Int)(negative:Bool)(mode:Int):Option Bool:=
 bif (mode==1)then(some (negative&&(decide (r2>0))))else(bif (mode==2)then(some ((!negative)&&(decide (r2>0))))else(bif negative then(some (decide (r2>(aW6.wrap (c-r2)))))else(some (decide (r2>=(aW6.wrap (c-r2)))))))
def ay3 (a b2 c mode:Int):Option (Int×Int):=
 bif ((decide (mode<1))||(decide (mode>3)))then(some (0,1))else(bif (c==0)then(some (0,10))else(ai2 (U6 a) fun v=>ai2 (U6 b2) fun v2=>ai2 (as1 v v2) fun r2=>ai2 (U6 c) fun v3=>bif (decide (r2.1>=v3))then(some (0,9))else(ai2 (al0 r2.1 r2.2 v3) fun r3=>bif (decide (r3.1>9223372036854775808))then(some (0,9))else(ai2 (aj7 r3.2 v3 (!((!((decide (a<0))==(decide (b2<0))))==(decide (c<0)))) mode) fun v4=>ai2 (bif v4 then(some (aW6.wrap (r3.1+1)))else(some r3.1)) fun(q:Int)=>bif ((!((!((decide (a<0))==(decide (b2<0))))==(decide (c<0))))&&(decide (q<=9223372036854775808)))then(some (j7 ((j7 (0-(j7 (aW6.wrap (q-1)))))-1),0))else(bif ((!(!((!((decide (a<0))==(decide (b2<0))))==(decide (c<0)))))&&(decide (q<9223372036854775808)))then(some (j7 q,0))else(some (0,9)))))))
def am4 (a b2 mode:Int):Option (Int×Int):=
 ai2 (ay3 a 1 b2 mode) fun r2=>some (r2.1,r2.2)
def V1 (a b2:Int):Option Int:=
 ai2 (am4 a b2 1) fun r2=>some r2.1
def ab4 (x0 x1 y0 y1 x:Int):Option Int:=
 ai2 (V1 (j7 ((j7 (x-x0))*(j7 (y1-y0)))) (j7 (x1-x0))) fun v=>some (j7 (y0+v))
def ar1 (j:Int)(c:SMap)(c2 c3:Int):Option Int:=
 ai2 (C9 c.X c2) fun x=>ai2 (C9 c.X (j7 (c2+1))) fun x2=>ai2 (C9 c.Z c2) fun x3=>ai2 (C9 x3 j) fun x4=>ai2 (C9 c.Z (j7 (c2+1))) fun x5=>ai2 (C9 x5 j) fun x6=>ai2 (ab4 x x2 x4 x6 c3) fun v=>some v
def aM5 (m2:SMap)(x y:Int):Option Int:=
 ai2 (W8 m2.X x) fun r2=>ai2 (W8 m2.Y y) fun r3=>ai2 (C9 m2.Y r3.1) fun x2=>ai2 (C9 m2.Y (j7 (r3.1+1))) fun x3=>ai2 (ar1 r3.1 m2 r2.1 r2.2) fun v=>ai2 (ar1 (j7 (r3.1+1)) m2 r2.1 r2.2) fun v2=>ai2 (ab4 x2 x3 v v2 r3.2) fun v3=>some v3
def X8 (m2:SMap)(x y:Int):Option Int:=
 ai2 (I8 m2) fun v=>bif (!v)then(some 0)else(ai2 (aM5 m2 x y) fun v2=>some v2)
def aL9 (t2:o6)(value o7:Int):Option (Int×Int):=
 ai2 (I8 t2.aH5) fun v=>bif (!v)then(some (0,1))else(bif ((((decide (value<0))||(decide (value>1000)))||(decide (o7<0)))||(decide (o7>12000)))then(some (0,2))else(ai2 (X8 t2.aH5 o7 value) fun v2=>ai2 (C4 v2 (-5000) 10000) fun v3=>some (v3,0)))
def ap9 (s:F4)(g:aV0)(e2:Int):Option (F4×Int×Int):=
 ai2 (Q1 g) fun v=>bif (((!v)||(decide (s.Sum<(-4398046511104))))||(decide (s.Sum>4398046511104)))then(some ((⟨0⟩:F4),0,1))else(bif ((decide (e2<(-1048576)))||(decide (e2>1048576)))then(some ((⟨0⟩:F4),0,2))else(ai2 (bif ((decide ((D0 .i64 (j7 ((j7 (g.P*e2))+s.Sum)) 10)<=g.bn0))||(decide (e2<=0)))then(some ((decide ((D0 .i64 (j7 ((j7 (g.P*e2))+s.Sum)) 10)>=g.Low))||(decide (e2>=0))))else(some false)) fun b2=>ai2 (bif b2 then(ai2 (C4 (j7 (s.Sum+(j7 (g.I*e2)))) (-4398046511104) 4398046511104) fun v2=>some v2)else(some s.Sum)) fun(f2:Int)=>ai2 (C4 (D0 .i64 (j7 ((j7 (g.P*e2))+s.Sum)) 10) g.Low g.bn0) fun v3=>some ((⟨f2⟩:F4),v3,0)))
def aE0 (s:F4)(g:aV0)(target o7:Int):Option (F4×Int×Int):=
 ai2 (Q1 g) fun v=>bif (!v)then(some ((⟨0⟩:F4),0,1))else(ai2 (ai8 target) fun v2=>ai2 (bif (!v2)then(some true)else(ai2 (ai8 o7) fun v3=>some (!v3))) fun b2=>bif b2 then(some ((⟨0⟩:F4),0,2))else(ai2 (ap9 s g (j7 (target-o7))) fun r2=>some (r2.1,r2.2.1,r2.2.2)))
def ag8 (r2:j2):Option Bool:=
 ai2 (R9 r2) fun v=>some (!v)
def au7 (l:List j2)(low high:Int):Option Int:=
 ai2 (D5 l ag8) fun v=>bif v then(some 1)else(bif (decide ((l.length:Int)>32))then(some 5)else(ai2 (O9 low) fun v2=>ai2 (bif (!v2)then(some true)else(ai2 (O9 high) fun v3=>some (!v3))) fun b2=>bif (b2||(decide (low>high)))then(some 2)else(some 0)))
def W3 (s:List j2):Option (List j2):=
 ai2 (R6 ([]:List j2) s) fun l=>some l
def P5 (a:Int)(cmp:j2->j2->Option Int)(s2:Int×List j2):Option ((Int×List j2)⊕((Int×List j2)⊕Empty)):=
 ai2 (bif (decide (s2.1>a))then(ai2 (C9 s2.2 s2.1) fun x=>ai2 (C9 s2.2 (j7 (s2.1-1))) fun x2=>ai2 (cmp x x2) fun v=>some (decide (v<0)))else(some false)) fun(v2:Bool)=>bif v2 then(ai2 (ai2 (C9 s2.2 (j7 (s2.1-1))) fun x3=>ai2 (C9 s2.2 s2.1) fun x4=>ai2 (aj2 s2.2 s2.1 x3) fun l=>ai2 (C9 l (j7 (s2.1-1))) fun _=>ai2 (aj2 l (j7 (s2.1-1)) x4) fun l2=>some l2) fun(f2:List j2)=>some (.inl (j7 (s2.1-1),f2)))else(some (.inr (.inl (s2.1,s2.2))))
def P4 (a b2:Int)(cmp:j2->j2->Option Int)(s:Int×List j2):Option ((Int×List j2)⊕((Int×List j2)⊕Empty)):=
 bif (decide (s.1<b2))then(ai2 (J7 (P5 a cmp) (s.1,s.2)) fun(t:(Int×List j2)⊕Empty)=>match t with| .inl s3=>(some (.inl (j7 (s.1+1),s3.2)))| .inr r=>r.elim)else(some (.inr (.inl (s.1,s.2))))
def E8 (data:List j2)(a b2:Int)(cmp:j2->j2->Option Int):Option (List j2):=
 ai2 (J7 (P4 a b2 cmp) (j7 (a+1),data)) fun(t:(Int×List j2)⊕Empty)=>match t with| .inl s4=>(some s4.2)| .inr r=>r.elim
def O2 (_:Nat)(_:List j2)(_ _ _:Int)(_:j2->j2->Option Int):Option (List j2):=none
def Q9 (n2:Int)(cmp:j2->j2->Option Int)(s:Int×Int×List j2):Option ((Int×Int×List j2)⊕((Int×Int×List j2)⊕Empty)):=
 bif (decide (s.2.1<=n2))then(ai2 (E8 s.2.2 s.1 s.2.1 cmp) fun v=>some (.inl (s.2.1,j7 (s.2.1+20),v)))else(some (.inr (.inl (s.1,s.2.1,s.2.2))))
def W2 (n2:Int)(cmp:j2->j2->Option Int)(s3:Int×List j2)(s4:Int×Int×List j2):Option ((Int×Int×List j2)⊕((Int×Int×List j2)⊕Empty)):=
 bif (decide (s4.2.1<=n2))then(ai2 (O2 64 s4.2.2 s4.1 (j7 (s4.1+s3.1)) s4.2.1 cmp) fun v3=>some (.inl (s4.2.1,j7 (s4.2.1+(j7 (2*s3.1))),v3)))else(some (.inr (.inl (s4.1,s4.2.1,s4.2.2))))
def R3 (n2:Int)(cmp:j2->j2->Option Int)(s3:Int×List j2):Option ((Int×List j2)⊕((Int×List j2)⊕Empty)):=
 bif (decide (s3.1<n2))then(ai2 (J7 (W2 n2 cmp s3) (0,j7 (2*s3.1),s3.2)) fun(t:(Int×Int×List j2)⊕Empty)=>match t with| .inl s5=>(bif (decide ((j7 (s5.1+s3.1))<n2))then(ai2 (O2 64 s5.2.2 s5.1 (j7 (s5.1+s3.1)) n2 cmp) fun v4=>some (.inl (j7 (s3.1*2),v4)))else(some (.inl (j7 (s3.1*2),s5.2.2))))| .inr r=>r.elim)else(some (.inr (.inl (s3.1,s3.2))))
def M9 (data:List j2)(n2:Int)(cmp:j2->j2->Option Int):Option (List j2):=
 ai2 (J7 (Q9 n2 cmp) (0,20,data)) fun(t:(Int×Int×List j2)⊕Empty)=>match t with| .inl s2=>(ai2 (E8 s2.2.2 s2.1 n2 cmp) fun v2=>ai2 (J7 (R3 n2 cmp) (20,v2)) fun(t:(Int×List j2)⊕Empty)=>match t with| .inl s6=>(some s6.2)| .inr r=>r.elim)| .inr r=>r.elim
def J2 (x:List j2)(cmp:j2->j2->Option Int):Option (List j2):=
 ai2 (M9 x (x.length:Int) cmp) fun v=>some v
def O1 (a b2:j2):Option Int:=
 some (j7 (b2.E4-a.E4))
def ac7 (s:p6)(t2:Int):Option p6:=
 some (⟨s.low,G4 s.low (F2 s.high t2),s.source⟩:p6)
def Y8 (s:p6)(t2:Int):Option p6:=
 some ({s with low:=F2 s.high (G4 s.low t2)}:p6)
def Y9 (s:p6)(t2:Int):Option p6:=
 ai2 (C4 t2 s.low s.high) fun v=>some (⟨v,v,s.source⟩:p6)
def W5 (s:p6)(r2:j2):Option (Bool×p6):=
 ai2 (bif (r2.Kind==1)then(ai2 (ac7 s r2.o8) fun v=>some v)else(bif (r2.Kind==2)then(ai2 (Y8 s r2.o8) fun v2=>some v2)else(bif (r2.Kind==3)then(ai2 (Y9 s r2.o8) fun v3=>some v3)else(some s)))) fun(f2:p6)=>ai2 (bif (f2.low !=s.low)then(some r2.N1)else(some f2.source)) fun(f3:Int)=>bif (f2.low !=s.low)then(some (true,(⟨f2.low,f2.high,f3⟩:p6)))else(some ((f2.high !=s.high),(⟨f2.low,f2.high,f3⟩:p6)))
def aB0 (s:List Int):Option (List Int):=
 bT6 s
def ar6 (s:List Int):Option (List Int):=
 bl4 s
def ai6 (_:Int)(x:j2)(s:List Int×p6):Option (Fl (List Int×p6) Empty):=
 ai2 (W5 s.2 x) fun r2=>bif r2.1 then(ai2 (R6 s.1 ([x.N1]:List Int)) fun l2=>some (.next (l2,r2.2)))else(some (.next (s.1,r2.2)))
def ap2 (l:List j2)(low high:Int):Option (p6×List Int):=
 ai2 (W3 l) fun v=>ai2 (J2 v O1) fun v2=>ai2 (ad3 v2 (ai6) (([]:List Int),(⟨low,high,(-1)⟩:p6))) fun(t:(List Int×p6)⊕Empty)=>match t with| .inl s2=>(ai2 (aB0 s2.1) fun v3=>ai2 (ai2 (ar6 v3) fun v4=>some (v4,s2.2)) fun(s3:List Int×p6)=>some (s3.2,s3.1))| .inr r=>r.elim
def ap1 (g:Z7)(l:List j2)(low high up down:Int):Option (Z7×Int):=
 ai2 (O9 g.o8) fun v=>bif (((!v)||(decide (g.N1<(-1))))||(decide (g.N1>15)))then(some ((⟨0,0⟩:Z7),1))else(ai2 (au7 l low high) fun v2=>bif (v2 !=0)then(some ((⟨0,0⟩:Z7),v2))else(bif ((((decide (up<0))||(decide (up>20000)))||(decide (down<0)))||(decide (down>20000)))then(some ((⟨0,0⟩:Z7),2))else(ai2 (ap2 l low high) fun r2=>some ((⟨G4 (F2 (F2 (G4 r2.1.low (j7 (g.o8-down))) (j7 (g.o8+up))) r2.1.high) low,r2.1.source⟩:Z7),0))))
def W6 (s:k6):Option k6:=
 ai2 (ai2 (aL8 s.c.I4 s.i.bF3 s.i.bF4) fun r2=>some (r2.2,r2.1)) fun(s2:Int×U2)=>ai2 (u5 ({s with c:=(⟨s2.2,s.c.ae3,s.c.aa6,s.c.P9,s.c.O8,s.c.af0⟩:A5)}:k6) s2.1) fun v=>ai2 (aL9 v.t v.c.I4.Value v.i.D1) fun r3=>ai2 (u5 v r3.2) fun v2=>ai2 (aw2 v2.c.I4.Value v2.i.D1 v2.i.au3) fun v3=>ai2 (bif v3 then(ai2 (ai2 (aw3 v2.i.au3) fun v4=>ai2 (aE0 v2.c.ae3 v2.t.ae3 v4 v2.i.D1) fun r4=>some (r4.2.2,r4.2.1,r4.1.Sum)) fun(s3:Int×Int×Int)=>ai2 (u5 ({v2 with c:=(⟨v2.c.I4,(⟨s3.2.2⟩:F4),v2.c.aa6,v2.c.P9,v2.c.O8,v2.c.af0⟩:A5)}:k6) s3.1) fun v5=>ai2 (C4 s3.2.1 (-5000) 10000) fun v6=>ai2 (R6 ([(⟨0,3,r3.1,0⟩:j2)]:List j2) ([(⟨1,2,v6,1⟩:j2)]:List j2)) fun l=>some (v5,l))else(some (({v2 with c:=(⟨v2.c.I4,(⟨0⟩:F4),v2.c.aa6,v2.c.P9,v2.c.O8,v2.c.af0⟩:A5)}:k6),([(⟨0,3,r3.1,0⟩:j2)]:List j2)))) fun(s4:k6×List j2)=>ai2 (ai2 (R6 s4.2 s4.1.i.Requests) fun l2=>ai2 (ap1 s4.1.c.af0 l2 (-5000) 10000 300 1000) fun r5=>some (r5.2,r5.1,l2)) fun(s5:Int×Z7×List j2)=>ai2 (u5 (⟨s4.1.t,s4.1.e,s4.1.b,(⟨s4.1.c.I4,s4.1.c.ae3,s4.1.c.aa6,s4.1.c.P9,s4.1.c.O8,s5.2.1⟩:A5),s4.1.i,s4.1.wanted,s4.1.w9,s4.1.ad7,s4.1.late,s4.1.pattern,s4.1.time,s4.1.out,s4.1.fail⟩:k6) s5.1) fun v7=>some ({v7 with wanted:=G4 0 v7.c.af0.o8}:k6)
def al5 (i:Int)(c:o6)(c2 c3 c4:Int):Option Bool:=
 ai2 (X8 c.o8 c2 (j7 (c3+i))) fun v=>some (decide (v>=c4))
def ao8 (t2:o6)(o7 S7:Int):Option (Int×Int):=
 ai2 (ah8 t2) fun v=>bif (!v)then(some (0,1))else(ai2 (H3 o7 0 12000) fun v2=>bif (!v2)then(some (0,2))else(ai2 (C9 t2.o8.Y 0) fun x=>ai2 (C9 t2.o8.Y (j7 ((t2.o8.Y.length:Int)-1))) fun x2=>ai2 (P6 (j7 ((j7 (x2-x))+1)) (fun x0=>al5 x0 t2 o7 x S7)) fun v3=>bif (v3==(j7 ((j7 (x2-x))+1)))then(some (0,7))else(some (j7 (x+v3),0))))
def at7 (x e2 other:Int):Option Int:=
 bif (e2 !=0)then(some other)else(some x)
def ak7 (i:Int)(c:P8)(c2:Int):Option Bool:=
 ai2 (C9 c.X i) fun x=>some (decide (x>c2))
def au9 (c:P8)(x:Int):Option Int:=
 ai2 (P6 (c.X.length:Int) (fun x0=>ak7 x0 c x)) fun v=>some (j7 (v-1))
def aE4 (c:P8)(x:Int):Option Int:=
 ai2 (C9 c.X 0) fun x2=>bif (decide (x<=x2))then(ai2 (C9 c.Y 0) fun x3=>some x3)else(ai2 (C9 c.X (j7 ((c.X.length:Int)-1))) fun x4=>bif (decide (x>=x4))then(ai2 (C9 c.Y (j7 ((c.X.length:Int)-1))) fun x5=>some x5)else(ai2 (au9 c x) fun v=>ai2 (C9 c.Y v) fun x6=>ai2 (C9 c.X v) fun x7=>ai2 (C9 c.Y (j7 (v+1))) fun x8=>ai2 (C9 c.X (j7 (v+1))) fun x9=>ai2 (V1 (j7 ((j7 (x-x7))*(j7 (x8-x6)))) (j7 (x9-x7))) fun v2=>some (j7 (x6+v2))))
def as8 (c:P8)(x:Int):Option Int:=
 ai2 (P0 c) fun v=>bif (!v)then(some 0)else(ai2 (aE4 c x) fun v2=>some v2)
def aB5 (t2:o6)(o7 B9 K3:Int):Option Int:=
 ai2 (X8 t2.Air o7 B9) fun v=>ai2 (as8 t2.L3 K3) fun v2=>ai2 (V1 (j7 (v*v2)) 1000) fun v3=>some (F2 1048576 v3)
def aj5 (k:Int)(c:o6)(c2 c3 c4:Int):Option Bool:=
 ai2 (aB5 c c2 (j7 (50+k)) c3) fun v=>some (decide (v>=c4))
def au4 (t2:o6)(o7 want K3:Int):Option (Int×Int):=
 ai2 (aA2 t2) fun v=>bif (!v)then(some (0,1))else(ai2 (I2 o7 0 12000) fun v2=>ai2 (bif (!v2)then(some true)else(ai2 (I2 want 0 1048576) fun v3=>some (!v3))) fun b2=>ai2 (bif b2 then(some true)else(ai2 (I2 K3 (-40) 150) fun v4=>some (!v4))) fun b3=>bif b3 then(some (0,2))else(ai2 (P6 2951 (fun x0=>aj5 x0 t2 o7 K3 want)) fun v5=>bif (decide ((j7 (50+v5))>3000))then(some (0,7))else(some (j7 (50+v5),0))))
def aw8 (rpm:Int):Option (Int×Int):=
 bif ((decide (rpm<0))||(decide (rpm>20000)))then(some (0,2))else(ai2 (am4 (j7 ((j7 (rpm*65536))*23040)) 60000000 2) fun r2=>some (r2.1,r2.2))
def bc9 (o7 B9:Int):Option (Int×Int):=
 ai2 (I2 o7 0 12000) fun v=>ai2 (bif (!v)then(some true)else(ai2 (I2 B9 50 3000) fun v2=>some (!v2))) fun b2=>bif b2 then(some (0,2))else(ai2 (aw8 o7) fun r2=>some (j7 (db0 (j7 (r2.1*B9)) 1024),r2.2))
def aj6 (k:Int)(c:L0)(c2 c3:Int):Option Bool:=
 some (decide ((j7 (db0 (j7 ((j7 (c.I6*k))*(j7 (1013-c2)))) 1000))>=c3))
def au5 (b2:L0)(cX6 B9:Int):Option (Int×Int):=
 ai2 (ai9 b2) fun v=>bif (!v)then(some (0,1))else(ai2 (I2 cX6 0 1099511627776) fun v2=>ai2 (bif (!v2)then(some true)else(ai2 (I2 B9 50 1013) fun v3=>some (!v3))) fun b3=>bif b3 then(some (0,2))else(ai2 (P6 1001 (fun x0=>aj6 x0 b2 B9 cX6)) fun v4=>bif (decide (v4>1000))then(some (0,7))else(some (v4,0))))
def T7 (s:k6):Option k6:=
 ai2 (ao8 s.t s.i.D1 s.wanted) fun r2=>ai2 (at7 r2.1 r2.2 1048576) fun v=>ai2 (au4 s.t s.i.D1 (G4 0 v) s.i.L3) fun r3=>ai2 (at7 r3.1 r3.2 3000) fun v2=>ai2 (bc9 s.i.D1 (F2 1012 v2)) fun r4=>ai2 (u5 s r4.2) fun v3=>ai2 (au5 v3.b r4.1 (F2 1012 v2)) fun r5=>ai2 (at7 r5.1 r5.2 1000) fun v4=>some ({v3 with out:=(⟨v4,v3.out.N9,v3.out.o8⟩:O3)}:k6)
def aB4 (t2:o6)(o7 B9 K3:Int):Option (Int×Int):=
 ai2 (aA2 t2) fun v=>bif (!v)then(some (0,1))else(ai2 (I2 o7 0 12000) fun v2=>ai2 (bif (!v2)then(some true)else(ai2 (I2 B9 50 3000) fun v3=>some (!v3))) fun b2=>ai2 (bif b2 then(some true)else(ai2 (I2 K3 (-40) 150) fun v4=>some (!v4))) fun b3=>bif b3 then(some (0,2))else(ai2 (aB5 t2 o7 B9 K3) fun v5=>some (v5,0)))
def ag6 (t2:o6)(o7 w9:Int):Option (Int×Int):=
 ai2 (ah8 t2) fun v=>bif (!v)then(some (0,1))else(ai2 (H3 o7 0 12000) fun v2=>ai2 (bif (!v2)then(some true)else(ai2 (H3 w9 0 1048576) fun v3=>some (!v3))) fun b2=>bif b2 then(some (0,2))else(ai2 (X8 t2.o8 o7 w9) fun v4=>some (v4,0)))
def Y3 (t2:o6)(bI9 late ad7 B2:Int):Option Int:=
 ai2 (as8 t2.C1 late) fun v=>ai2 (bm5 .i64 (j7 ((j7 (bI9*v))*ad7)) (j7 (1000*B2))) fun q=>some q
def ak4 (late:Int)(c:o6)(c2 c3 c4 c5:Int):Option Bool:=
 ai2 (Y3 c c2 late c3 c4) fun v=>some (decide (v<=c5))
def al7 (t2:o6)(most B2:Int)(r2:Int×Int)(f2:Int):Option (Int⊕(Int⊕Empty)):=
 bif (decide (f2>0))then(ai2 (Y3 t2 r2.1 2560 f2 B2) fun v2=>bif (decide (v2<=most))then(some (.inr (.inl f2)))else(some (.inl (j7 (f2-1)))))else(some (.inr (.inl f2)))
def al6 (t2:o6)(o7 w9 most B2:Int):Option (Int×Int×Int):=
 ai2 (ag6 t2 o7 w9) fun r2=>bif (r2.2 !=0)then(some (0,0,r2.2))else(ai2 (H3 B2 1 8) fun v=>bif ((!v)||(decide (most<0)))then(some (0,0,2))else(ai2 (J7 (al7 t2 most B2 r2) B2) fun(t:Int⊕Empty)=>match t with| .inl f3=>(ai2 (P6 2560 (fun x0=>ak4 x0 t2 r2.1 f3 B2 most)) fun v3=>some (f3,v3,0))| .inr r=>r.elim))
def ar4 (B2 ad7 E3 i:Int)(f2:List Bool):Option (Fl (List Bool) Empty):=
 ai2 (cf7 (j7 (i+E3)) B2) fun q=>ai2 (bm5 .i64 (j7 ((j7 (q+1))*ad7)) B2) fun q2=>ai2 (bm5 .i64 (j7 (q*ad7)) B2) fun q3=>ai2 (C9 f2 i) fun _=>ai2 (aj2 f2 i (decide (q2>q3))) fun l2=>some (.next l2)
def ar3 (B2 ad7 E3:Int):Option (List Bool×Int):=
 ai2 (H3 B2 1 8) fun v=>ai2 (bif (!v)then(some true)else(ai2 (H3 ad7 0 B2) fun v2=>some (!v2))) fun b2=>ai2 (bif b2 then(some true)else(ai2 (H3 E3 0 1099511627776) fun v3=>some (!v3))) fun b3=>bif b3 then(some (([]:List Bool),2))else(ai2 (aX7 B2 false) fun l=>ai2 (K5 (l.length:Int) (ar4 B2 ad7 E3) l) fun(t:(List Bool)⊕Empty)=>match t with| .inl f3=>(some (f3,0))| .inr r=>r.elim)
def av5 (t2:o6)(o7 w9 late ad7 B2:Int):Option (Int×Int):=
 ai2 (ag6 t2 o7 w9) fun r2=>bif (r2.2 !=0)then(some (0,r2.2))else(ai2 (H3 late 0 2560) fun v=>ai2 (bif (!v)then(some true)else(ai2 (H3 B2 1 8) fun v2=>some (!v2))) fun b2=>ai2 (bif b2 then(some true)else(ai2 (H3 ad7 0 B2) fun v3=>some (!v3))) fun b3=>bif b3 then(some (0,2))else(ai2 (Y3 t2 r2.1 late ad7 B2) fun v4=>some (v4,0)))
def Z9 (s:k6):Option k6:=
 ai2 (ai2 (aB4 s.t s.i.D1 s.i.K9 s.i.L3) fun r2=>some (r2.2,r2.1)) fun(s2:Int×Int)=>ai2 (u5 ({s with w9:=s2.2}:k6) s2.1) fun v=>ai2 (ai2 (al6 v.t v.i.D1 v.w9 v.wanted (s.e.z8.length:Int)) fun r3=>some (r3.2.2,r3.1,r3.2.1)) fun(s3:Int×Int×Int)=>ai2 (u5 ({v with ad7:=s3.2.1,late:=s3.2.2}:k6) s3.1) fun v2=>ai2 (ar3 (s.e.z8.length:Int) v2.ad7 0) fun r4=>ai2 (u5 ({v2 with pattern:=r4.1}:k6) r4.2) fun v3=>ai2 (ai2 (av5 v3.t v3.i.D1 v3.w9 v3.late v3.ad7 (s.e.z8.length:Int)) fun r5=>some (r5.2,r5.1)) fun(s4:Int×Int)=>ai2 (u5 ({v3 with out:=(⟨v3.out.I6,v3.out.N9,s4.2⟩:O3)}:k6) s4.1) fun v4=>some v4
def ac1 (o7 w9:Int):Option Bool:=
 ai2 (R7 o7 0 12000) fun v=>ai2 (bif v then(ai2 (R7 w9 0 1048576) fun v2=>some v2)else(some false)) fun b2=>some b2
def ag3 (s:List aa7):Option (List aa7):=
 ai2 (R6 ([]:List aa7) s) fun l=>some l
def aw5 (p2:M6):Option M6:=
 ai2 (ag3 p2.Cells) fun v=>some ({p2 with Cells:=v}:M6)
def ay6 (p2:M6)(B7 o7 w9:Int):Option (M6×Int):=
 ai2 (ac0 p2) fun v=>bif (!v)then(some ((⟨false,false,0,0,([]:List aa7)⟩:M6),1))else(ai2 (ac1 o7 w9) fun v2=>ai2 (bif (!v2)then(some true)else(ai2 (R7 B7 0 20000) fun v3=>some (!v3))) fun b2=>bif b2 then(some ((⟨false,false,0,0,([]:List aa7)⟩:M6),2))else(ai2 (aw5 p2) fun v4=>bif (!v4.al8)then(some (({v4 with al8:=((decide (B7<300))||(decide (B7>600))),bc7:=decide (B7>600)}:M6),0))else(ai2 (bif (decide (B7>500))then(some true)else(some ((decide (B7>=400))&&v4.bc7))) fun b3=>ai2 (bif (!(b3==v4.bc7))then(some (15,0))else(some (1,F2 1000 (j7 (v4.bc8+1))))) fun(s:Int×Int)=>ai2 (bif b3 then(some (j7 (0-s.1)))else(some s.1)) fun(v_by:Int)=>ai2 (C4 (j7 (v4.aj4+v_by)) 750 1250) fun v5=>some ((⟨v4.al8,b3,v5,s.2,v4.Cells⟩:M6),0))))
def aA9 (x _ x2 n2:Int):Option (Fl Int Empty):=
 bif (decide (x>=x2))then(some (.next (j7 (n2+1))))else(some (.next n2))
def ak1 (x:Int)(ba8:List Int):Option Int:=
 ai2 (ad3 ba8 (aA9 x) 0) fun(t:Int⊕Empty)=>match t with| .inl n3=>(some n3)| .inr r=>r.elim
def aF4 (o7 w9:Int):Option Int:=
 ai2 (ac1 o7 w9) fun v=>bif (!v)then(some (-1))else(ai2 (ak1 o7 ([1500,3500]:List Int)) fun v2=>ai2 (ak1 w9 ([150000,350000]:List Int)) fun v3=>some (j7 ((j7 (3*v2))+v3)))
def aq2 (p2:M6)(o7 w9:Int):Option (Int×Int):=
 ai2 (ac0 p2) fun v=>bif (!v)then(some (0,1))else(ai2 (ac1 o7 w9) fun v2=>bif (!v2)then(some (0,2))else(ai2 (aF4 o7 w9) fun v3=>ai2 (C9 p2.Cells v3) fun x=>ai2 (C4 (j7 (p2.aj4+x.Value)) 700 1300) fun v4=>some (v4,0)))
def ae7 (x low high:Int):Option Bool:=
 some ((decide (x>=low))&&(decide (x<=high)))
def aT8 (w9 bH9:Int):Option (Int×Int):=
 ai2 (ae7 w9 0 1048576) fun v=>ai2 (bif (!v)then(some true)else(ai2 (ae7 bH9 500 2000) fun v2=>some (!v2))) fun b2=>bif b2 then(some (0,2))else(ai2 (bm5 .i64 (j7 (w9*10000)) (j7 (bH9*147))) fun q=>some (q,0))
def aI8 (b2:L0):Option Bool:=
 ai2 (ae7 b2.O8 0 1023) fun v=>ai2 (bif v then(ai2 (ae7 b2.K7 0 1024) fun v2=>some v2)else(some false)) fun b3=>some b3
def aM3 (cmp:Int->Option Int)(s:Int×Int):Option ((Int×Int)⊕((Int×Int)⊕Empty)):=
 bif (decide (s.1<s.2))then(ai2 (cmp (j7 (D0 .u64 (aW6.wrap (j7 (s.1+s.2))) 1))) fun v=>bif (decide (v>0))then(some (.inl (j7 ((j7 (D0 .u64 (aW6.wrap (j7 (s.1+s.2))) 1))+1),s.2)))else(some (.inl (s.1,j7 (D0 .u64 (aW6.wrap (j7 (s.1+s.2))) 1)))))else(some (.inr (.inl (s.1,s.2))))
def aO4 (n2:Int)(cmp:Int->Option Int):Option (Int×Bool):=
 ai2 (J7 (aM3 cmp) (0,n2)) fun(t:(Int×Int)⊕Empty)=>match t with| .inl s2=>(ai2 (bif (decide (s2.1<n2))then(ai2 (cmp s2.1) fun v2=>some (v2==0))else(some false)) fun b2=>some (s2.1,b2))| .inr r=>r.elim
def aA8 (b2:L0)(aE9 aG8:Int):Option (Int×Int):=
 some (j7 ((j7 (aG8-(j7 (db0 (j7 (aG8*b2.O8)) 1024))))+(j7 (db0 (j7 (aE9*b2.K7)) 1024))),j7 ((j7 (aE9+(j7 (db0 (j7 (aG8*b2.O8)) 1024))))-(j7 (db0 (j7 (aE9*b2.K7)) 1024))))
def az7 (i:Int)(c:L0)(c2 c3:Int):Option Int:=
 ai2 (aA8 c c2 i) fun r2=>some (j7 (c3-r2.1))
def aI7 (b2:L0)(aE9 bp9:Int):Option (Int×Int×Int):=
 ai2 (aI8 b2) fun v=>bif (!v)then(some (0,0,1))else(ai2 (ae7 aE9 0 1073741824) fun v2=>ai2 (bif (!v2)then(some true)else(ai2 (ae7 bp9 0 1048576) fun v3=>some (!v3))) fun b3=>bif b3 then(some (0,0,2))else(ai2 (aO4 1048577 (fun x0=>az7 x0 b2 aE9 bp9)) fun r2=>bif (decide (r2.1>1048576))then(some (0,0,9))else(ai2 (aA8 b2 aE9 r2.1) fun r3=>bif (decide (r3.2>1073741824))then(some (0,0,9))else(some (r2.1,r3.2,0)))))
def aO1 (b2:L0)(aE9 aG8:Int):Option (Int×Int×Int):=
 ai2 (aI8 b2) fun v=>bif (!v)then(some (0,0,1))else(ai2 (ae7 aE9 0 1073741824) fun v2=>ai2 (bif (!v2)then(some true)else(ai2 (ae7 aG8 0 1048576) fun v3=>some (!v3))) fun b3=>bif b3 then(some (0,0,2))else(ai2 (aA8 b2 aE9 aG8) fun r2=>bif (decide (r2.2>1073741824))then(some (0,0,9))else(some (r2.1,r2.2,0))))
def aF0 (y:Int):Option Bool:=
 ai2 (ae7 y 0 10000) fun v=>some (!v)
def aA7 (t2:o6)(ca8 B7:Int):Option (Int×Int):=
 ai2 (P0 t2.av6) fun v=>ai2 (bif (!v)then(some true)else(ai2 (o5 t2.av6.Y aF0) fun v2=>some v2)) fun b2=>bif b2 then(some (0,1))else(ai2 (ae7 ca8 0 1048576) fun v3=>ai2 (bif (!v3)then(some true)else(ai2 (ae7 B7 0 20000) fun v4=>some (!v4))) fun b3=>bif b3 then(some (0,2))else(ai2 (as8 t2.av6 B7) fun v5=>some (v5,0)))
def aO2 (t2:o6)(bp9 B7:Int):Option (Int×Int):=
 ai2 (aA7 t2 bp9 B7) fun r2=>bif ((r2.2 !=0)||(bp9==0))then(some (0,r2.2))else(ai2 (am4 bp9 3 2) fun r3=>some (j7 (r2.1+r3.1),r3.2))
def ad5 (s:k6):Option k6:=
 ai2 (ai2 (ay6 s.c.P9 s.i.Lambda s.i.D1 s.w9) fun r2=>some (r2.2,r2.1)) fun(s2:Int×M6)=>ai2 (u5 ({s with c:=(⟨s.c.I4,s.c.ae3,s.c.aa6,s2.2,s.c.O8,s.c.af0⟩:A5)}:k6) s2.1) fun v=>ai2 (aq2 v.c.P9 v.i.D1 v.w9) fun r3=>ai2 (u5 v r3.2) fun v2=>ai2 (aT8 v2.w9 1000) fun r4=>ai2 (u5 v2 r4.2) fun v3=>ai2 (aI7 v3.b v3.c.O8 (F2 1048576 (j7 (db0 (j7 (r4.1*r3.1)) 1000)))) fun r5=>ai2 (bif ((v3.ad7==0)||(r5.2.2 !=0))then(ai2 (aO1 v3.b v3.c.O8 0) fun r6=>ai2 (u5 v3 r6.2.2) fun v4=>some (0,r6.2.1,v4))else(some (r5.1,r5.2.1,v3))) fun(s3:Int×Int×k6)=>bif (decide (s3.1>0))then(ai2 (aO2 s3.2.2.t s3.1 s3.2.2.i.aH9) fun r7=>ai2 (u5 (⟨s3.2.2.t,s3.2.2.e,s3.2.2.b,(⟨s3.2.2.c.I4,s3.2.2.c.ae3,s3.2.2.c.aa6,s3.2.2.c.P9,s3.2.1,s3.2.2.c.af0⟩:A5),s3.2.2.i,s3.2.2.wanted,s3.2.2.w9,s3.2.2.ad7,s3.2.2.late,s3.2.2.pattern,s3.2.2.time,s3.2.2.out,s3.2.2.fail⟩:k6) r7.2) fun v5=>ai2 (C4 r7.1 200 20000) fun v6=>some ({v5 with time:=v6}:k6))else(some (⟨s3.2.2.t,s3.2.2.e,s3.2.2.b,(⟨s3.2.2.c.I4,s3.2.2.c.ae3,s3.2.2.c.aa6,s3.2.2.c.P9,s3.2.1,s3.2.2.c.af0⟩:A5),s3.2.2.i,s3.2.2.wanted,s3.2.2.w9,s3.2.2.ad7,s3.2.2.late,s3.2.2.pattern,s3.2.2.time,s3.2.2.out,s3.2.2.fail⟩:k6))
def az8 (k:B6):Option Bool:=
 ai2 (aw4 k) fun v=>some (!v)
def aF2 (n2:Int):Option Bool:=
 ai2 (ah0 n2) fun v=>some (!v)
def ac9 (s:List B6):Option (List B6):=
 ai2 (R6 ([]:List B6) s) fun l=>some l
def aG9 (k:B6)(n2:Int):Option (B6×Bool):=
 bif (decide (n2>(j7 ((j7 (3*k.aH3))+40))))then(some ((⟨F2 (j7 (k.as4+96)) 960,k.aH3,0⟩:B6),true))else(ai2 (bif ((j7 (k.Quiet+1))==100)then(some (G4 (j7 (k.as4-16)) 0,0))else(some (k.as4,j7 (k.Quiet+1)))) fun(s:Int×Int)=>ai2 (V1 (j7 (n2-k.aH3)) 8) fun v=>some ((⟨s.1,j7 (k.aH3+v),s.2⟩:B6),false))
def aL6 (l:List B6)(af5:List Int)(i:Int)(f2:List B6):Option (Fl (List B6) Empty):=
 ai2 (ai2 (C9 l i) fun x=>ai2 (C9 af5 i) fun x2=>ai2 (aG9 x x2) fun r2=>ai2 (C9 f2 i) fun _=>ai2 (aj2 f2 i r2.1) fun l2=>some l2) fun(f3:List B6)=>some (.next f3)
def aU1 (l:List B6)(af5:List Int):Option (List B6×Int):=
 ai2 (bif (((decide ((l.length:Int)<1))||(decide ((l.length:Int)>8)))||((af5.length:Int) !=(l.length:Int)))then(some true)else(ai2 (I7 l az8) fun v=>some v)) fun b2=>bif b2 then(some (([]:List B6),1))else(ai2 (o5 af5 aF2) fun v2=>bif v2 then(some (([]:List B6),2))else(ai2 (ac9 l) fun v3=>ai2 (K5 (v3.length:Int) (aL6 l af5) v3) fun(t:(List B6)⊕Empty)=>match t with| .inl f4=>(some (f4,0))| .inr r=>r.elim))
def az9 (a b2:Int):Option Int:=
 some (j7 (b2-a))
def aG0 (l:List Int):Option Bool:=
 ai2 (H7 l az9) fun v=>some v
def Q3 (x low high:Int):Option Bool:=
 some ((decide (x>=low))&&(decide (x<=high)))
def as3 (x c c2:Int):Option Bool:=
 ai2 (Q3 x c c2) fun v=>some (!v)
def ac6 (l:List Int)(low high:Int):Option Bool:=
 ai2 (o5 l (fun x0=>as3 x0 low high)) fun v=>some v
def av4 (l:List Int):Option Bool:=
 ai2 (ac6 l (-1280) 3840) fun v=>some v
def ax0 (t2:o6):Option Bool:=
 ai2 (I8 t2.N8) fun v=>ai2 (bif (!v)then(some true)else(ai2 (P0 t2.ae6) fun v2=>some (!v2))) fun b2=>ai2 (bif b2 then(some true)else(ai2 (P0 t2.C1) fun v3=>some (!v3))) fun b3=>ai2 (bif b3 then(some true)else(ai2 (aG0 t2.C1.Y) fun v4=>some (!v4))) fun b4=>bif b4 then(some false)else(ai2 (F6 t2.N8.Z av4) fun v5=>ai2 (bif (!v5)then(ai2 (ac6 t2.ae6.Y 500 10000) fun v6=>some (!v6))else(some false)) fun b5=>ai2 (bif b5 then(ai2 (ac6 t2.C1.Y 0 1000) fun v7=>some (!v7))else(some false)) fun b6=>some b6)
def aF9 (t2:o6)(B7 M1:Int):Option (Int×Int):=
 ai2 (ax0 t2) fun v=>bif (!v)then(some (0,1))else(ai2 (Q3 B7 0 20000) fun v2=>ai2 (bif (!v2)then(some true)else(ai2 (Q3 M1 4000 1000000) fun v3=>some (!v3))) fun b2=>bif b2 then(some (0,2))else(ai2 (as8 t2.ae6 B7) fun v4=>some (F2 v4 (j7 (db0 (j7 (3*M1)) 4)),0)))
def aM4 (t2:o6)(o7 w9:Int):Option (Int×Int):=
 ai2 (ax0 t2) fun v=>bif (!v)then(some (0,1))else(ai2 (Q3 o7 0 12000) fun v2=>ai2 (bif (!v2)then(some true)else(ai2 (Q3 w9 0 1048576) fun v3=>some (!v3))) fun b2=>bif b2 then(some (0,2))else(ai2 (X8 t2.N8 o7 w9) fun v4=>some (v4,0)))
def aF8 (t2:o6)(o7 w9 D3 bi9:Int):Option (Int×Int):=
 ai2 (aM4 t2 o7 w9) fun r2=>bif (r2.2 !=0)then(some (0,r2.2))else(ai2 (Q3 D3 (-40) 150) fun v=>ai2 (bif (!v)then(some true)else(ai2 (Q3 bi9 0 1280) fun v2=>some (!v2))) fun b2=>bif b2 then(some (0,2))else(bif (decide (D3<20))then(ai2 (C4 (j7 ((j7 (r2.1+(j7 (2*(j7 (20-D3))))))-bi9)) (-1280) 3840) fun v3=>some (v3,0))else(bif (decide (D3>100))then(ai2 (C4 (j7 ((j7 (r2.1-(j7 (8*(j7 (D3-100))))))-bi9)) (-1280) 3840) fun v4=>some (v4,0))else(ai2 (C4 (j7 (r2.1-bi9)) (-1280) 3840) fun v5=>some (v5,0)))))
def ad1 (r3:Int×Int)(i:Int)(f2:k6):Option (Fl k6 Empty):=
 ai2 (C9 f2.c.aa6 i) fun x=>ai2 (aF8 f2.t f2.i.D1 f2.w9 f2.i.au3 x.as4) fun r4=>ai2 (u5 f2 r4.2) fun v4=>ai2 (C9 v4.pattern i) fun x2=>ai2 (bif x2 then(some v4.time)else(some 0)) fun(f3:Int)=>ai2 (ai2 (R6 v4.out.N9 ([(⟨j7 (i+1),G4 (-1280) (j7 (r4.1-v4.late)),G4 500 r3.1,5760,f3,0,0⟩:A0)]:List A0)) fun l=>some l) fun(f4:List A0)=>some (.next ({v4 with out:=(⟨v4.out.I6,f4,v4.out.o8⟩:O3)}:k6))
def Z8 (s:k6):Option k6:=
 ai2 (ai2 (aU1 s.c.aa6 s.i.X0) fun r2=>some (r2.2,r2.1)) fun(s2:Int×List B6)=>ai2 (u5 ({s with c:=(⟨s.c.I4,s.c.ae3,s2.2,s.c.P9,s.c.O8,s.c.af0⟩:A5)}:k6) s2.1) fun v=>ai2 (bm5 .i64 60000000 (G4 1 v.i.D1)) fun q=>ai2 (C4 q 4000 1000000) fun v2=>ai2 (aF9 v.t v.i.aH9 v2) fun r3=>ai2 (u5 v r3.2) fun v3=>bif (v3.fail !=0)then(some v3)else(ai2 (K5 (v3.e.z8.length:Int) (ad1 r3) v3) fun(t:k6⊕Empty)=>match t with| .inl f5=>(some f5)| .inr r=>r.elim)
def aE3 (t2:o6)(e2:o4)(b2:L0)(c:A5)(i:W4):Option (A5×O3×Int):=
 ai2 (ab8 t2) fun v=>ai2 (bif (!v)then(some true)else(ai2 (ai9 b2) fun v2=>some (!v2))) fun b3=>ai2 (bif b3 then(some true)else(ai2 (ap5 e2 c) fun v3=>some (!v3))) fun b4=>bif b4 then(some ((⟨(⟨0,0,false⟩:U2),(⟨0⟩:F4),([]:List B6),(⟨false,false,0,0,([]:List aa7)⟩:M6),0,(⟨0,0⟩:Z7)⟩:A5),(⟨0,([]:List A0),0⟩:O3),1))else(ai2 (au8 i (e2.z8.length:Int)) fun v4=>bif (!v4)then(some ((⟨(⟨0,0,false⟩:U2),(⟨0⟩:F4),([]:List B6),(⟨false,false,0,0,([]:List aa7)⟩:M6),0,(⟨0,0⟩:Z7)⟩:A5),(⟨0,([]:List A0),0⟩:O3),2))else(ai2 (W6 (⟨t2,e2,b2,c,i,0,0,0,0,([]:List Bool),0,(⟨0,([]:List A0),0⟩:O3),0⟩:k6)) fun v5=>ai2 (T7 v5) fun v6=>ai2 (Z9 v6) fun v7=>ai2 (ad5 v7) fun v8=>ai2 (Z8 v8) fun v9=>bif (v9.fail !=0)then(ai2 (some v9.fail) fun(v10:Int)=>some ((⟨(⟨0,0,false⟩:U2),(⟨0⟩:F4),([]:List B6),(⟨false,false,0,0,([]:List aa7)⟩:M6),0,(⟨0,0⟩:Z7)⟩:A5),(⟨0,([]:List A0),0⟩:O3),v10))else(ai2 (some (0,v9.c,v9.out)) fun(s:Int×A5×O3)=>some (s.2.1,s.2.2,s.1))))
def aU8 (n2:Int):Option (u0×Int):=
 bif ((decide (n2<1))||(decide (n2>16)))then(some ((⟨0,([]:List j5)⟩:u0),2))else(ai2 (aX7 n2 (⟨false,0,false,false⟩:j5)) fun l=>some ((⟨0,l⟩:u0),0))
def O0 (s:List Int):Option (List Int):=
 ai2 (R6 ([]:List Int) s) fun l=>some l
def bb0:Option D8:=
 some (⟨false,0,0,0,0,0⟩:D8)
def ao6 (e2:o4):Option (c8×Int):=
 ai2 (O5 e2) fun v=>bif (!v)then(some ((⟨(⟨([]:List Int),0⟩:o4),(⟨false,0,0,0,0,0⟩:D8),(⟨0,([]:List j5)⟩:u0),([]:List A0),([]:List A4),false⟩:c8),1))else(ai2 (aU8 (j7 (2*(e2.z8.length:Int)))) fun r2=>bif (r2.2 !=0)then(some ((⟨(⟨([]:List Int),0⟩:o4),(⟨false,0,0,0,0,0⟩:D8),(⟨0,([]:List j5)⟩:u0),([]:List A0),([]:List A4),false⟩:c8),1))else(ai2 (O0 e2.z8) fun v2=>ai2 (bb0) fun v3=>some ((⟨(⟨v2,e2.ao2⟩:o4),v3,r2.1,([]:List A0),([]:List A4),false⟩:c8),0)))
def au6 (t2:Int):Option Bool:=
 some ((decide (t2>=0))&&(decide (t2<=1099511627776)))
def ai5 (c:D8):Option Bool:=
 bif (!c.V6)then(some ((c.V6==false)&&((c.At==0)&&((c.G7==0)&&((c.E9==0)&&((c.X1==0)&&((c.am3==0)&&true)))))))else(ai2 (au6 c.At) fun v=>bif (((((((!v)||(decide (c.G7<0)))||(decide (c.G7>=46080)))||(decide (c.E9<1)))||(decide (c.E9>1073741824)))||(decide (c.X1<192)))||(decide (c.X1>1920)))then(some false)else(some (((c.am3==c.X1)||(c.am3==(j7 (2*c.X1))))||(c.am3==(j7 (3*c.X1))))))
def V0 (s:List j5)(f2:j5->Option Bool)(i:Int)(_:Unit):Option (Fl Unit Int):=
 ai2 (C9 s i) fun x=>ai2 (f2 x) fun v=>bif v then(some (.ret i))else(some (.next ()))
def Q7 (s:List j5)(f2:j5->Option Bool):Option Int:=
 ai2 (K5 (s.length:Int) (V0 s f2) ()) fun(t:Unit⊕Int)=>match t with| .inl _=>(some (-1))| .inr r2=>some r2
def G1 (s:List j5)(f2:j5->Option Bool):Option Bool:=
 ai2 (Q7 s f2) fun v=>some (decide (v>=0))
def ao7 (c:j5)(c2:u0):Option Bool:=
 bif c.D6 then(some ((decide (c.At<=c2.T1))||(decide (c.At>1099511627776))))else(some ((c.At !=0)||c.Next))
def an6 (t2:u0):Option Bool:=
 bif ((((decide (t2.T1<0))||(decide (t2.T1>1099511627776)))||(decide ((t2.j1.length:Int)<1)))||(decide ((t2.j1.length:Int)>16)))then(some false)else(ai2 (G1 t2.j1 (fun x0=>ao7 x0 t2)) fun v=>some (!v))
def M3 (x low high:Int):Option Bool:=
 some ((decide (x>=low))&&(decide (x<=high)))
def X2 (e2:o4)(f2:A0):Option Bool:=
 ai2 (O5 e2) fun v=>ai2 (bif (!v)then(some true)else(ai2 (P1 e2.z8 f2.o9) fun v2=>some (!v2))) fun b2=>ai2 (bif b2 then(some true)else(ai2 (M3 f2.N8 (-1280) 3840) fun v3=>some (!v3))) fun b3=>ai2 (bif b3 then(some true)else(ai2 (M3 f2.ae6 500 10000) fun v4=>some (!v4))) fun b4=>ai2 (bif b4 then(some true)else(ai2 (M3 f2.End 0 23040) fun v5=>some (!v5))) fun b5=>bif b5 then(some false)else(ai2 (bif (f2.Y4 !=0)then(ai2 (M3 f2.Y4 200 20000) fun v6=>some (!v6))else(some false)) fun b6=>bif b6 then(some false)else(ai2 (bif ((f2.Gap==0)&&(f2.Extra==0))then(some true)else(ai2 (bif (f2.Y4 !=0)then(ai2 (M3 f2.Gap 200 20000) fun v7=>some v7)else(some false)) fun b7=>ai2 (bif b7 then(ai2 (M3 f2.Extra 200 20000) fun v8=>some v8)else(some false)) fun b8=>some b8)) fun b9=>some b9))
def N6 (s:List A0)(f2:A0->Option Bool)(i:Int)(_:Unit):Option (Fl Unit Int):=
 ai2 (C9 s i) fun x=>ai2 (f2 x) fun v=>bif v then(some (.ret i))else(some (.next ()))
def H2 (s:List A0)(f2:A0->Option Bool):Option Int:=
 ai2 (K5 (s.length:Int) (N6 s f2) ()) fun(t:Unit⊕Int)=>match t with| .inl _=>(some (-1))| .inr r2=>some r2
def E7 (s:List A0)(f2:A0->Option Bool):Option Bool:=
 ai2 (H2 s f2) fun v=>some (decide (v>=0))
def ae1 (g c:A0):Option Bool:=
 some (g.o9==c.o9)
def am1 (e2:o4)(l:List A0)(i:Int)(_:Unit):Option (Fl Unit Bool):=
 ai2 (C9 l i) fun x=>ai2 (X2 e2 x) fun v=>ai2 (bif (!v)then(some true)else(ai2 (ax7 l 0 i) fun l2=>ai2 (E7 l2 (fun x0=>ae1 x0 x)) fun v2=>some v2)) fun b2=>bif b2 then(some (.ret false))else(some (.next ()))
def ab0 (e2:o4)(l:List A0):Option Bool:=
 ai2 (K5 (l.length:Int) (am1 e2 l) ()) fun(t:Unit⊕Bool)=>match t with| .inl _=>(some true)| .inr r2=>some r2
def O6 (s:List A4)(f2:A4->Option Bool):Option Bool:=
 ai2 (C0 s f2) fun v=>some (decide (v>=0))
def av3 (s:c8)(j:A4):Option Bool:=
 ai2 (bif ((((((((((decide (j.Event.o9>=1))&&(decide (j.Event.o9<=(s.u4.z8.length:Int))))&&(decide (j.Event.Kind>=1)))&&(decide (j.Event.Kind<=4)))&&(decide (j.Event.G7>=0)))&&(decide (j.Event.G7<46080)))&&(decide (j.Event.ai4>=0)))&&(decide (j.Event.ai4<=2)))&&(decide (j.Left>=(-1048576))))&&(decide (j.Left<=1048576)))then(some (j.D6||(j.At==0)))else(some false)) fun b2=>some b2
def X9 (j:A4)(c:c8):Option Bool:=
 ai2 (av3 c j) fun v=>some (!v)
def G9 (x:B4):Option Int:=
 bif ((x.Kind==3)||(x.Kind==4))then(some (j7 ((j7 (2*(j7 (x.o9-1))))+1)))else(some (j7 (2*(j7 (x.o9-1)))))
def aq8 (kind:Int):Option Bool:=
 some ((kind==1)||(kind==3))
def Y2 (s:c8)(c:Int)(x:j5)(_:Int)(x2:A4)(s2:Bool×Bool):Option (Fl (Bool×Bool) Bool):=
 ai2 (G9 x2.Event) fun v=>bif (v !=c)then(some (.next (s2.1,s2.2)))else(ai2 (aq8 x2.Event.Kind) fun v2=>bif (v2==s2.1)then(some (.ret false))else(ai2 (bif s2.2 then(ai2 (bif (!(x2.D6==x.D6))then(some true)else(ai2 (bif x2.D6 then(some ((x2.At !=x.At)||(!(x.Next==(!s2.1)))))else(some false)) fun b2=>some b2)) fun b3=>bif b3 then(some (Sum.inr false))else(some (Sum.inl ())))else(bif (x2.D6||s.Cut)then(some (Sum.inr false))else(some (Sum.inl ())))) fun(t:Unit⊕Bool)=>match t with| .inl _=>(ai2 (bif s.Cut then(some (((x2.Event.Kind !=2)||(!x2.D6))||(decide (x2.At>(j7 (s.j9.T1+5000))))))else(some false)) fun b4=>bif b4 then(some (.ret false))else(some (.next ((!s2.1),false))))| .inr r2=>some (.ret r2)))
def aq7 (s:c8)(c:Int):Option Bool:=
 ai2 (C9 s.j9.j1 c) fun x=>ai2 (ad3 s.G3 (Y2 s c x) (x.K2,true)) fun(t:(Bool×Bool)⊕Bool)=>match t with| .inl s4=>(ai2 (bif (!s4.1)then(some (!(s4.2&&x.D6)))else(some false)) fun b5=>some b5)| .inr r3=>some r3
def am0 (s:c8)(i:Int)(_:Unit):Option (Fl Unit Bool):=
 ai2 (aq7 s i) fun v6=>bif (!v6)then(some (.ret false))else(some (.next ()))
def J4 (s:c8):Option Bool:=
 ai2 (O5 s.u4) fun v=>ai2 (bif (!v)then(some true)else(ai2 (ai5 s.A1) fun v2=>some (!v2))) fun b2=>ai2 (bif b2 then(some true)else(ai2 (an6 s.j9) fun v3=>some (!v3))) fun b3=>ai2 (bif (b3||((s.j9.j1.length:Int) !=(j7 (2*(s.u4.z8.length:Int)))))then(some true)else(ai2 (ab0 s.u4 s.Next) fun v4=>some (!v4))) fun b4=>bif b4 then(some false)else(ai2 (bif (decide ((s.G3.length:Int)>200))then(some true)else(some ((!s.A1.V6)&&(decide ((s.G3.length:Int)>0))))) fun b5=>ai2 (bif b5 then(some true)else(ai2 (O6 s.G3 (fun x0=>X9 x0 s)) fun v5=>some v5)) fun b6=>bif b6 then(some false)else(ai2 (K5 (s.j9.j1.length:Int) (am0 s) ()) fun(t:Unit⊕Bool)=>match t with| .inl _=>(some true)| .inr r2=>some r2))
def T5 (s:List A0):Option (List A0):=
 ai2 (R6 ([]:List A0) s) fun l=>some l
def aj1 (s:List A4):Option (List A4):=
 ai2 (R6 ([]:List A4) s) fun l=>some l
def L2 (s:c8):Option c8:=
 ai2 (aj1 s.G3) fun v=>ai2 (T5 s.Next) fun v2=>some ({s with Next:=v2,G3:=v}:c8)
def aq6 (s:c8)(l:List A0):Option (c8×Int):=
 ai2 (J4 s) fun v=>ai2 (bif (!v)then(some true)else(ai2 (ab0 s.u4 l) fun v2=>some (!v2))) fun b2=>bif b2 then(some ((⟨(⟨([]:List Int),0⟩:o4),(⟨false,0,0,0,0,0⟩:D8),(⟨0,([]:List j5)⟩:u0),([]:List A0),([]:List A4),false⟩:c8),1))else(ai2 (L2 s) fun v3=>ai2 (T5 l) fun v4=>some (({v3 with Next:=v4}:c8),0))
def ag0 (x:j5):Option Bool:=
 some x.K2
def ac3 (s:c8):Option (c8×Int):=
 ai2 (J4 s) fun v=>bif (!v)then(some ((⟨(⟨([]:List Int),0⟩:o4),(⟨false,0,0,0,0,0⟩:D8),(⟨0,([]:List j5)⟩:u0),([]:List A0),([]:List A4),false⟩:c8),1))else(ai2 (bif (!s.Cut)then(some true)else(ai2 (G1 s.j9.j1 ag0) fun v2=>some v2)) fun b2=>bif b2 then(some ((⟨(⟨([]:List Int),0⟩:o4),(⟨false,0,0,0,0,0⟩:D8),(⟨0,([]:List j5)⟩:u0),([]:List A0),([]:List A4),false⟩:c8),6))else(ai2 (L2 s) fun v3=>some (({v3 with Cut:=false}:c8),0)))
def ag5 (t2:u0)(channel:Int):Option (u0×Int):=
 ai2 (an6 t2) fun v=>bif (!v)then(some ((⟨0,([]:List j5)⟩:u0),1))else(bif ((decide (channel<0))||(decide (channel>=(t2.j1.length:Int))))then(some ((⟨0,([]:List j5)⟩:u0),2))else(ai2 (aX7 (t2.j1.length:Int) (⟨false,0,false,false⟩:j5)) fun l=>some ((⟨t2.T1,aI5 l t2.j1⟩:u0),0)))
def aG2 (t2:u0)(channel:Int)(level:Bool):Option (u0×List j6×Int):=
 ai2 (ag5 t2 channel) fun r2=>bif (r2.2 !=0)then(some ((⟨0,([]:List j5)⟩:u0),([]:List j6),r2.2))else(ai2 (C9 r2.1.j1 channel) fun _=>ai2 (aj2 r2.1.j1 channel (⟨false,0,false,level⟩:j5)) fun l=>ai2 (C9 t2.j1 channel) fun x2=>bif (x2.K2==level)then(some ((⟨r2.1.T1,l⟩:u0),([]:List j6),0))else(ai2 (some (([(⟨t2.T1,channel,level⟩:j6)]:List j6),(⟨r2.1.T1,l⟩:u0))) fun(s:List j6×u0)=>some (s.2,s.1,0)))
def az0 (t2:u0)(channel:Int):Option (u0×Int):=
 ai2 (ag5 t2 channel) fun r2=>bif (r2.2 !=0)then(some ((⟨0,([]:List j5)⟩:u0),r2.2))else(ai2 (C9 t2.j1 channel) fun x=>ai2 (C9 r2.1.j1 channel) fun _=>ai2 (aj2 r2.1.j1 channel (⟨false,0,false,x.K2⟩:j5)) fun l=>some ((⟨r2.1.T1,l⟩:u0),0))
def as2 (j:A4)(c:Int):Option Bool:=
 ai2 (G9 j.Event) fun v=>some (v==c)
def aJ5 (t2:u0)(channel aY6:Int)(level:Bool):Option (u0×Int):=
 ai2 (ag5 t2 channel) fun r2=>bif (r2.2 !=0)then(some ((⟨0,([]:List j5)⟩:u0),r2.2))else(bif (decide (aY6<=t2.T1))then(some ((⟨0,([]:List j5)⟩:u0),16))else(bif (decide (aY6>1099511627776))then(some ((⟨0,([]:List j5)⟩:u0),2))else(ai2 (C9 t2.j1 channel) fun x=>ai2 (C9 r2.1.j1 channel) fun _=>ai2 (aj2 r2.1.j1 channel (⟨true,aY6,level,x.K2⟩:j5)) fun l=>some ((⟨r2.1.T1,l⟩:u0),0))))
def ac2 (s:c8)(i:Int)(s2:List j6×u0×List A4):Option (Fl (List j6×u0×List A4) Empty):=
 ai2 (C9 s.j9.j1 i) fun x=>ai2 (bif x.K2 then(some ((!((ew5 i 2)==0))||(s.j9.T1==1099511627776)))else(some false)) fun b2=>bif b2 then(ai2 (aG2 s2.2.1 i false) fun r2=>ai2 (R6 s2.1 r2.2.1) fun l=>some (.next (l,r2.1,s2.2.2)))else(ai2 (az0 s2.2.1 i) fun r3=>bif (!x.K2)then(some (.next (s2.1,r3.1,s2.2.2)))else(ai2 (C0 s.G3 (fun x0=>as2 x0 i)) fun v3=>ai2 (C9 s.G3 v3) fun x2=>ai2 (bif ((!x2.D6)||(decide (x2.At>(j7 (s.j9.T1+5000)))))then(some (F2 (j7 (s.j9.T1+5000)) 1099511627776))else(some x2.At)) fun(f2:Int)=>ai2 (aJ5 r3.1 i f2 false) fun r4=>ai2 (R6 s2.2.2 ([(⟨x2.Event,x2.Left,true,f2⟩:A4)]:List A4)) fun l2=>some (.next (s2.1,r4.1,l2))))
def ao5 (s:c8):Option (c8×List j6×Int):=
 ai2 (J4 s) fun v=>bif (!v)then(some ((⟨(⟨([]:List Int),0⟩:o4),(⟨false,0,0,0,0,0⟩:D8),(⟨0,([]:List j5)⟩:u0),([]:List A0),([]:List A4),false⟩:c8),([]:List j6),1))else(ai2 (L2 s) fun v2=>bif s.Cut then(some (v2,([]:List j6),0))else(ai2 (K5 (s.j9.j1.length:Int) (ac2 s) (([]:List j6),v2.j9,([]:List A4))) fun(t:(List j6×u0×List A4)⊕Empty)=>match t with| .inl s3=>(some ((⟨v2.u4,v2.A1,s3.2.1,v2.Next,s3.2.2,true⟩:c8),s3.1,0))| .inr r=>r.elim))
def U8 (j:A4)(c:Int):Option Bool:=
 ai2 (G9 j.Event) fun v=>some (v==c)
def ay7 (a b2:Int):Option Int:=
 ai2 (bm5 .i64 a b2) fun q=>ai2 (cf7 a b2) fun q2=>bif (decide (q2>0))then(some (j7 (q+1)))else(some q)
def U9 (s:c8)(i:Int)(s2:u0×List A4):Option (Fl (u0×List A4) Empty):=
 ai2 (C0 s2.2 (fun x0=>U8 x0 i)) fun v=>ai2 (bif (decide (v<0))then(some true)else(ai2 (C9 s2.2 v) fun x=>some (decide (x.Left>s.A1.am3)))) fun(v2:Bool)=>bif v2 then(some (.next (s2.1,s2.2)))else(ai2 (C9 s2.2 v) fun x2=>ai2 (ay7 (j7 (x2.Left*s.A1.E9)) s.A1.X1) fun v3=>bif (decide ((G4 (j7 (s.A1.At+v3)) (j7 (s2.1.T1+1)))>1099511627776))then(some (.next (s2.1,s2.2)))else(ai2 (ai2 (aq8 x2.Event.Kind) fun v4=>ai2 (aJ5 s2.1 i (G4 (j7 (s.A1.At+v3)) (j7 (s2.1.T1+1))) v4) fun r2=>some (r2.2,r2.1)) fun(s3:Int×u0)=>bif (s3.1==0)then(ai2 (aj2 s2.2 v ({x2 with D6:=true}:A4)) fun l=>ai2 (aj2 l v (⟨x2.Event,x2.Left,true,G4 (j7 (s.A1.At+v3)) (j7 (s2.1.T1+1))⟩:A4)) fun l2=>some (.next (s3.2,l2)))else(some (.next (s2.1,s2.2)))))
def ak2 (s:c8):Option c8:=
 bif s.Cut then(some s)else(ai2 (K5 (s.j9.j1.length:Int) (U9 s) (s.j9,s.G3)) fun(t:(u0×List A4)⊕Empty)=>match t with| .inl s4=>(some ({s with j9:=s4.1,G3:=s4.2}:c8))| .inr r=>r.elim)
def aH1 (_:Int)(x:j5)(s:Int×Bool):Option (Fl (Int×Bool) Empty):=
 ai2 (bif x.D6 then(some ((!s.2)||(decide (x.At<s.1))))else(some false)) fun b2=>bif b2 then(some (.next (x.At,true)))else(some (.next (s.1,s.2)))
def aM6 (t2:u0):Option (Int×Bool):=
 ai2 (an6 t2) fun v=>bif (!v)then(some (0,false))else(ai2 (ad3 t2.j1 (aH1) (0,false)) fun(t:(Int×Bool)⊕Empty)=>match t with| .inl s2=>(some (s2.1,s2.2))| .inr r=>r.elim)
def X7 (s:List j6)(f:j6->j6->Option Int):Option (List j6):=
 bT7 f s
def F3 (x y:Int):Option Int:=
 ai2 (cmp_isNaN_int x) fun v=>ai2 (cmp_isNaN_int y) fun v2=>bif v then(bif v2 then(some 0)else(some (-1)))else(bif v2 then(some 1)else(bif (decide (x<y))then(some (-1))else(bif (decide (x>y))then(some 1)else(some 0))))
def ao3 (_ x:Int)(_:Unit):Option (Fl Unit Int):=
 bif (x !=0)then(some (.ret x))else(some (.next ()))
def af3 (bw3:List Int):Option Int:=
 ai2 (ad3 bw3 (ao3) ()) fun(t:Unit⊕Int)=>match t with| .inl _=>(some 0)| .inr r2=>some r2
def W9 (a b2:j6):Option Int:=
 ai2 (F3 a.At b2.At) fun v=>ai2 (F3 a.Channel b2.Channel) fun v2=>ai2 (af3 ([v,v2]:List Int)) fun v3=>some v3
def au2 (t2:u0)(K1 i:Int)(s:List j6×List j5):Option (Fl (List j6×List j5) Empty):=
 ai2 (C9 t2.j1 i) fun x=>bif ((!x.D6)||(decide (x.At>K1)))then(some (.next (s.1,s.2)))else(ai2 (bif (!(x.Next==x.K2))then(ai2 (R6 s.1 ([(⟨x.At,i,x.Next⟩:j6)]:List j6)) fun l=>some l)else(some s.1)) fun(f2:List j6)=>ai2 (C9 s.2 i) fun _=>ai2 (aj2 s.2 i (⟨false,0,false,x.Next⟩:j5)) fun l2=>some (.next (f2,l2)))
def ak3 (t2:u0)(K1:Int):Option (u0×List j6×Int):=
 ai2 (ag5 t2 0) fun r2=>bif (r2.2 !=0)then(some ((⟨0,([]:List j5)⟩:u0),([]:List j6),r2.2))else(bif (decide (K1<t2.T1))then(some ((⟨0,([]:List j5)⟩:u0),([]:List j6),16))else(bif (decide (K1>1099511627776))then(some ((⟨0,([]:List j5)⟩:u0),([]:List j6),2))else(ai2 (K5 (t2.j1.length:Int) (au2 t2 K1) (([]:List j6),r2.1.j1)) fun(t:(List j6×List j5)⊕Empty)=>match t with| .inl s2=>(ai2 (X7 s2.1 W9) fun v=>some ((⟨K1,s2.2⟩:u0),v,0))| .inr r=>r.elim)))
def an4 (j:A4)(c:Int):Option Bool:=
 some (j.D6&&(j.At==c))
def Y1 (K1:Int)(s2:List j6×c8):Option ((List j6×c8)⊕((List j6×c8)⊕Empty)):=
 ai2 (aM6 s2.2.j9) fun r2=>bif ((!r2.2)||(decide (r2.1>K1)))then(some (.inr (.inl (s2.1,s2.2))))else(ai2 (ai2 (ak3 s2.2.j9 r2.1) fun r3=>some (r3.2.1,r3.1)) fun(s3:List j6×u0)=>ai2 (R6 s2.1 s3.1) fun l=>ai2 (K6 s2.2.G3 (fun x0=>an4 x0 r2.1)) fun v=>ai2 (ak2 (⟨s2.2.u4,s2.2.A1,s3.2,s2.2.Next,v,s2.2.Cut⟩:c8)) fun v2=>some (.inl (l,v2)))
def ab1 (s:c8)(K1:Int):Option (List j6×c8):=
 ai2 (J7 (Y1 K1) (([]:List j6),s)) fun(t:(List j6×c8)⊕Empty)=>match t with| .inl s4=>(ai2 (ak3 s4.2.j9 K1) fun r4=>ai2 (R6 s4.1 r4.2.1) fun l2=>some (l2,(⟨s4.2.u4,s4.2.A1,r4.1,s4.2.Next,s4.2.G3,s4.2.Cut⟩:c8)))| .inr r=>r.elim
def S9 (s:c8)(K1:Int):Option (c8×List j6×Int):=
 ai2 (J4 s) fun v=>bif (!v)then(some ((⟨(⟨([]:List Int),0⟩:o4),(⟨false,0,0,0,0,0⟩:D8),(⟨0,([]:List j5)⟩:u0),([]:List A0),([]:List A4),false⟩:c8),([]:List j6),1))else(bif (decide (K1<s.j9.T1))then(some ((⟨(⟨([]:List Int),0⟩:o4),(⟨false,0,0,0,0,0⟩:D8),(⟨0,([]:List j5)⟩:u0),([]:List A0),([]:List A4),false⟩:c8),([]:List j6),16))else(bif (decide (K1>1099511627776))then(some ((⟨(⟨([]:List Int),0⟩:o4),(⟨false,0,0,0,0,0⟩:D8),(⟨0,([]:List j5)⟩:u0),([]:List A0),([]:List A4),false⟩:c8),([]:List j6),2))else(ai2 (L2 s) fun v2=>ai2 (ab1 v2 K1) fun r2=>some (r2.2,r2.1,0))))
def ab7 (a b2:Int):Option Int:=
 bif ((b2==0)||(b2==(-1)))then(some 0)else(ai2 (cf7 a b2) fun q=>bif ((q !=0)&&(!((decide (q<0))==(decide (b2<0)))))then(some (j7 (q+b2)))else(some q))
def Q5 (bK5 K1:Int):Option Int:=
 ai2 (ah4 bK5) fun v=>ai2 (bif (!v)then(some true)else(ai2 (ah4 K1) fun v2=>some (!v2))) fun b2=>bif b2 then(some (-1))else(ai2 (ab7 (j7 (K1-bK5)) 46080) fun v3=>some v3)
def aK1 (c:D8):Option Int:=
 ai2 (ai5 c) fun v=>bif (!v)then(some 1)else(bif (!c.V6)then(some 6)else(some 0))
def bk9 (a b2:Int):Option Int:=
 ai2 (am4 a b2 2) fun r2=>some r2.1
def aE2 (c:D8)(bU6:Int):Option (Int×Int):=
 ai2 (aK1 c) fun v=>bif (v !=0)then(some (0,v))else(bif ((decide (bU6<0))||(decide (bU6>46080)))then(some (0,2))else(ai2 (bk9 (j7 (bU6*c.E9)) c.X1) fun v2=>some (v2,0)))
def ak0 (e2:o4)(aB8:Int):Option (Int×Bool):=
 ai2 (V5 e2.z8 aB8) fun v=>ai2 (bm5 .i64 (j7 ((G4 v 0)*46080)) (e2.z8.length:Int)) fun q=>some (ew5 (j7 (e2.ao2+q)) 46080,decide (v>=0))
def av0 (e2:o4)(aB8:Int):Option (Int×Int):=
 ai2 (O5 e2) fun v=>bif (!v)then(some (0,1))else(ai2 (ak0 e2 aB8) fun r2=>bif (!r2.2)then(some (0,7))else(some (r2.1,0)))
def Y0 (f2:A0)(c:Int):Option Bool:=
 some (f2.o9==c)
def ao4 (f2:A0)(c:o4):Option Bool:=
 ai2 (X2 c f2) fun v=>some (!v)
def av1 (g c:A0):Option Bool:=
 some (g.o9==c.o9)
def O4 (aY6 kind bS6:Int)(c:List B4)(c2:A0):Option (List B4):=
 ai2 (ai2 (ab7 aY6 46080) fun v=>ai2 (R6 c ([(⟨v,kind,c2.o9,bS6⟩:B4)]:List B4)) fun l=>some l) fun(f2:List B4)=>some f2
def J9 (d c:Int):Option Int:=
 ai2 (bm5 .i64 (j7 (d*23040)) c) fun q=>some q
def aj9 (f2:A0):Option Int:=
 bif (f2.Y4==0)then(some 0)else(bif (f2.Extra==0)then(some 1)else(some 2))
def aa2 (s:List B4)(f:B4->B4->Option Int):Option (List B4):=
 bT7 f s
def ak8 (a b2:B4):Option Int:=
 ai2 (F3 a.G7 b2.G7) fun v=>ai2 (F3 a.o9 b2.o9) fun v2=>ai2 (F3 a.Kind b2.Kind) fun v3=>ai2 (F3 a.ai4 b2.ai4) fun v4=>ai2 (af3 ([v,v2,v3,v4]:List Int)) fun v5=>some v5
def aC1 (l:List A0)(i:Int)(_:Unit):Option (Fl Unit (List B4×Int)):=
 ai2 (C9 l i) fun x=>ai2 (ax7 l 0 i) fun l2=>ai2 (E7 l2 (fun x0=>av1 x0 x)) fun v4=>bif v4 then(some (.ret (([]:List B4),8)))else(some (.next ()))
def aw0 (e2:o4)(M1 _:Int)(x2:A0)(f2:List B4):Option (Fl (List B4) (List B4×Int)):=
 ai2 (ak0 e2 x2.o9) fun r2=>ai2 (O4 (j7 (r2.1-x2.N8)) 2 0 f2 x2) fun v5=>ai2 (J9 x2.ae6 M1) fun v6=>ai2 (O4 (j7 ((j7 (r2.1-x2.N8))-(F2 v6 23040))) 1 0 v5 x2) fun v7=>ai2 (J9 x2.Y4 M1) fun v8=>ai2 (J9 x2.Gap M1) fun v9=>ai2 (J9 x2.Extra M1) fun v10=>bif (decide ((G4 (G4 v8 v9) v10)>23040))then(some (.ret (([]:List B4),2)))else(ai2 (aj9 x2) fun v11=>ai2 (bif (decide (v11>0))then(ai2 (O4 (j7 (r2.1-x2.End)) 4 1 v7 x2) fun v12=>ai2 (J9 x2.Y4 M1) fun v13=>ai2 (O4 (j7 ((j7 (r2.1-x2.End))-v13)) 3 1 v12 x2) fun v14=>some v14)else(some v7)) fun(f3:List B4)=>ai2 (aj9 x2) fun v15=>bif (decide (v15>1))then(ai2 (J9 x2.Gap M1) fun v16=>ai2 (O4 (j7 ((j7 (r2.1-x2.End))+v16)) 3 2 f3 x2) fun v17=>ai2 (ai2 (J9 x2.Gap M1) fun v18=>ai2 (J9 x2.Extra M1) fun v19=>ai2 (O4 (j7 ((j7 ((j7 (r2.1-x2.End))+v18))+v19)) 4 2 v17 x2) fun v20=>some v20) fun(f4:List B4)=>some (.next f4))else(some (.next f3)))
def aE6 (e2:o4)(l:List A0)(M1:Int):Option (List B4×Int):=
 ai2 (O5 e2) fun v=>ai2 (bif (!v)then(some true)else(ai2 (E7 l (fun x0=>ao4 x0 e2)) fun v2=>some v2)) fun b2=>bif b2 then(some (([]:List B4),1))else(ai2 (M3 M1 4000 1000000) fun v3=>bif (!v3)then(some (([]:List B4),2))else(ai2 (K5 (l.length:Int) (aC1 l) ()) fun(t:Unit⊕(List B4×Int))=>match t with| .inl _=>(ai2 (ad3 l (aw0 e2 M1) ([]:List B4)) fun(t:(List B4)⊕(List B4×Int))=>match t with| .inl f5=>(ai2 (aa2 f5 ak8) fun v21=>some (v21,0))| .inr r3=>some r3)| .inr r4=>some r4))
def B8 (a:Int)(cmp:a7->a7->Option Int)(s2:Int×List a7):Option ((Int×List a7)⊕((Int×List a7)⊕Empty)):=
 ai2 (bif (decide (s2.1>a))then(ai2 (C9 s2.2 s2.1) fun x=>ai2 (C9 s2.2 (j7 (s2.1-1))) fun x2=>ai2 (cmp x x2) fun v=>some (decide (v<0)))else(some false)) fun(v2:Bool)=>bif v2 then(ai2 (ai2 (C9 s2.2 (j7 (s2.1-1))) fun x3=>ai2 (C9 s2.2 s2.1) fun x4=>ai2 (aj2 s2.2 s2.1 x3) fun l=>ai2 (C9 l (j7 (s2.1-1))) fun _=>ai2 (aj2 l (j7 (s2.1-1)) x4) fun l2=>some l2) fun(f2:List a7)=>some (.inl (j7 (s2.1-1),f2)))else(some (.inr (.inl (s2.1,s2.2))))
def B0 (a b2:Int)(cmp:a7->a7->Option Int)(s:Int×List a7):Option ((Int×List a7)⊕((Int×List a7)⊕Empty)):=
 bif (decide (s.1<b2))then(ai2 (J7 (B8 a cmp) (s.1,s.2)) fun(t:(Int×List a7)⊕Empty)=>match t with| .inl s3=>(some (.inl (j7 (s.1+1),s3.2)))| .inr r=>r.elim)else(some (.inr (.inl (s.1,s.2))))
def A9 (data:List a7)(a b2:Int)(cmp:a7->a7->Option Int):Option (List a7):=
 ai2 (J7 (B0 a b2 cmp) (j7 (a+1),data)) fun(t:(Int×List a7)⊕Empty)=>match t with| .inl s4=>(some s4.2)| .inr r=>r.elim
def H8 (_:Nat)(_:List a7)(_ _ _:Int)(_:a7->a7->Option Int):Option (List a7):=none
def J5 (n2:Int)(cmp:a7->a7->Option Int)(s:Int×Int×List a7):Option ((Int×Int×List a7)⊕((Int×Int×List a7)⊕Empty)):=
 bif (decide (s.2.1<=n2))then(ai2 (A9 s.2.2 s.1 s.2.1 cmp) fun v=>some (.inl (s.2.1,j7 (s.2.1+20),v)))else(some (.inr (.inl (s.1,s.2.1,s.2.2))))
def N0 (n2:Int)(cmp:a7->a7->Option Int)(s3:Int×List a7)(s4:Int×Int×List a7):Option ((Int×Int×List a7)⊕((Int×Int×List a7)⊕Empty)):=
 bif (decide (s4.2.1<=n2))then(ai2 (H8 64 s4.2.2 s4.1 (j7 (s4.1+s3.1)) s4.2.1 cmp) fun v3=>some (.inl (s4.2.1,j7 (s4.2.1+(j7 (2*s3.1))),v3)))else(some (.inr (.inl (s4.1,s4.2.1,s4.2.2))))
def J6 (n2:Int)(cmp:a7->a7->Option Int)(s3:Int×List a7):Option ((Int×List a7)⊕((Int×List a7)⊕Empty)):=
 bif (decide (s3.1<n2))then(ai2 (J7 (N0 n2 cmp s3) (0,j7 (2*s3.1),s3.2)) fun(t:(Int×Int×List a7)⊕Empty)=>match t with| .inl s5=>(bif (decide ((j7 (s5.1+s3.1))<n2))then(ai2 (H8 64 s5.2.2 s5.1 (j7 (s5.1+s3.1)) n2 cmp) fun v4=>some (.inl (j7 (s3.1*2),v4)))else(some (.inl (j7 (s3.1*2),s5.2.2))))| .inr r=>r.elim)else(some (.inr (.inl (s3.1,s3.2))))
def G8 (data:List a7)(n2:Int)(cmp:a7->a7->Option Int):Option (List a7):=
 ai2 (J7 (J5 n2 cmp) (0,20,data)) fun(t:(Int×Int×List a7)⊕Empty)=>match t with| .inl s2=>(ai2 (A9 s2.2.2 s2.1 n2 cmp) fun v2=>ai2 (J7 (J6 n2 cmp) (20,v2)) fun(t:(Int×List a7)⊕Empty)=>match t with| .inl s6=>(some s6.2)| .inr r=>r.elim)| .inr r=>r.elim
def C8 (x:List a7)(cmp:a7->a7->Option Int):Option (List a7):=
 ai2 (G8 x (x.length:Int) cmp) fun v=>some v
def ac4 (a b2:a7):Option Int:=
 ai2 (F3 a.cF2 b2.cF2) fun v=>ai2 (G9 a.x) fun v2=>ai2 (G9 b2.x) fun v3=>ai2 (F3 v2 v3) fun v4=>ai2 (af3 ([v,v4]:List Int)) fun v5=>some v5
def aj0 (begin _:Int)(x:B4)(out:List a7):Option (Fl (List a7) Empty):=
 ai2 (ai2 (Q5 begin x.G7) fun v=>ai2 (R6 out ([(⟨x,v⟩:a7)]:List a7)) fun l=>some l) fun(f3:List a7)=>some (.next f3)
def V3 (x2:(Int×Int))(_:Int)(x3:a7)(s:Int×Int×Int):Option (Fl (Int×Int×Int) (List a7×Bool)):=
 bif ((x3.x.Kind !=x2.1)&&(x3.x.Kind !=x2.2))then(some (.next (s.1,s.2.1,s.2.2)))else(bif (((x3.x.Kind !=s.2.2)||(decide (x3.cF2<=s.1)))||(decide (x3.x.ai4<s.2.1)))then(some (.ret (([]:List a7),false)))else(some (.next (x3.cF2,x3.x.ai4,j7 ((j7 (x2.1+x2.2))-s.2.2)))))
def T0 (v2:List a7)(v3:Int):Option (Int⊕(Int⊕(List a7×Bool))):=
 bif (decide (v3<2))then(ai2 (C9 ([(1,2),(3,4)]:List (Int×Int)) v3) fun x2=>ai2 (ad3 v2 (V3 x2) ((-1),0,x2.1)) fun(t:(Int×Int×Int)⊕(List a7×Bool))=>match t with| .inl _=>(some (.inl (j7 (v3+1))))| .inr r3=>some (.inr (.inr r3)))else(some (.inr (.inl v3)))
def aq9 (e2:o4)(f2:A0)(begin M1:Int):Option (List a7×Bool):=
 ai2 (aE6 e2 ([f2]:List A0) M1) fun r2=>bif (r2.2 !=0)then(some (([]:List a7),false))else(ai2 (ad3 r2.1 (aj0 begin) ([]:List a7)) fun(t:(List a7)⊕Empty)=>match t with| .inl dm3=>(ai2 (C8 dm3 ac4) fun v2=>ai2 (J7 (T0 v2) 0) fun(t:Int⊕(List a7×Bool))=>match t with| .inl _=>(some (v2,true))| .inr r4=>some r4)| .inr r=>r.elim)
def ag2 (v _:Int)(x3:a7)(f3:List A4):Option (Fl (List A4) Empty):=
 ai2 (ai2 (R6 f3 ([(⟨x3.x,j7 (v+x3.cF2),false,0⟩:A4)]:List A4)) fun l=>some l) fun(f4:List A4)=>some (.next f4)
def ag1 (s:c8)(r2:Int×Int)(_ x:Int)(f2:List A4):Option (Fl (List A4) Empty):=
 ai2 (av0 s.u4 x) fun r3=>ai2 (Q5 s.A1.G7 (ew5 (j7 (r3.1+5760)) 46080)) fun v=>ai2 (H2 s.Next (fun x0=>Y0 x0 x)) fun v2=>bif ((decide (v>=s.A1.am3))||(decide (v2<0)))then(some (.next f2))else(ai2 (C9 s.Next v2) fun x2=>ai2 (aq9 s.u4 x2 (ew5 (j7 (r3.1+5760)) 46080) r2.1) fun r4=>bif (!r4.2)then(some (.next f2))else(ai2 (ad3 r4.1 (ag2 v) f2) fun(t:(List A4)⊕Empty)=>match t with| .inl f5=>(some (.next f5))| .inr r=>r.elim))
def ah1 (s:c8):Option c8:=
 ai2 (aE2 s.A1 23040) fun r2=>ai2 (ad3 s.u4.z8 (ag1 s r2) s.G3) fun(t:(List A4)⊕Empty)=>match t with| .inl f6=>(some ({s with G3:=f6}:c8))| .inr r=>r.elim
def aa0 (v4 i:Int)(f2:List A4):Option (Fl (List A4) Empty):=
 ai2 (C9 f2 i) fun x=>ai2 (aj2 f2 i ({x with Left:=G4 (-1048576) (j7 (x.Left-v4))}:A4)) fun l=>some (.next l)
def al3 (s:c8)(c:D8):Option (c8×List j6×Int):=
 ai2 (J4 s) fun v=>ai2 (bif (!v)then(some true)else(ai2 (ai5 c) fun v2=>some (!v2))) fun b2=>bif b2 then(some ((⟨(⟨([]:List Int),0⟩:o4),(⟨false,0,0,0,0,0⟩:D8),(⟨0,([]:List j5)⟩:u0),([]:List A0),([]:List A4),false⟩:c8),([]:List j6),1))else(bif (!c.V6)then(some ((⟨(⟨([]:List Int),0⟩:o4),(⟨false,0,0,0,0,0⟩:D8),(⟨0,([]:List j5)⟩:u0),([]:List A0),([]:List A4),false⟩:c8),([]:List j6),6))else(bif (decide (c.At<s.j9.T1))then(some ((⟨(⟨([]:List Int),0⟩:o4),(⟨false,0,0,0,0,0⟩:D8),(⟨0,([]:List j5)⟩:u0),([]:List A0),([]:List A4),false⟩:c8),([]:List j6),16))else(ai2 (L2 s) fun v3=>ai2 (ab1 v3 c.At) fun r2=>ai2 (bif s.A1.V6 then(ai2 (Q5 s.A1.G7 c.G7) fun v4=>ai2 (K5 (r2.2.G3.length:Int) (aa0 v4) r2.2.G3) fun(t:(List A4)⊕Empty)=>match t with| .inl f3=>(some f3)| .inr r=>r.elim)else(some r2.2.G3)) fun(f4:List A4)=>bif (!r2.2.Cut)then(ai2 (ah1 (⟨r2.2.u4,c,r2.2.j9,r2.2.Next,f4,r2.2.Cut⟩:c8)) fun v5=>bif (decide ((v5.G3.length:Int)>200))then(some ((⟨(⟨([]:List Int),0⟩:o4),(⟨false,0,0,0,0,0⟩:D8),(⟨0,([]:List j5)⟩:u0),([]:List A0),([]:List A4),false⟩:c8),([]:List j6),5))else(ai2 (ak2 v5) fun v6=>some (v6,r2.1,0)))else(some ((⟨r2.2.u4,c,r2.2.j9,r2.2.Next,f4,r2.2.Cut⟩:c8),r2.1,0)))))
def W0 (s:List u7)(f2:u7->Option Bool)(i:Int)(_:Unit):Option (Fl Unit Int):=
 ai2 (C9 s i) fun x=>ai2 (f2 x) fun v=>bif v then(some (.ret i))else(some (.next ()))
def S3 (s:List u7)(f2:u7->Option Bool):Option Int:=
 ai2 (K5 (s.length:Int) (W0 s f2) ()) fun(t:Unit⊕Int)=>match t with| .inl _=>(some (-1))| .inr r2=>some r2
def I1 (s:List u7)(f2:u7->Option Bool):Option Bool:=
 ai2 (S3 s f2) fun v=>some (decide (v>=0))
def D4 (x low high:Int):Option Bool:=
 some ((decide (x>=low))&&(decide (x<=high)))
def ad6 (c:u7):Option Bool:=
 ai2 (D4 c.Code 1 16777215) fun v=>ai2 (bif v then(ai2 (D4 c.bg2 1 100) fun v2=>some v2)else(some false)) fun b2=>ai2 (bif b2 then(ai2 (D4 c.Pass 1 100) fun v3=>some v3)else(some false)) fun b3=>ai2 (bif b3 then(ai2 (D4 c.cC9 1 100) fun v4=>some v4)else(some false)) fun b4=>ai2 (bif b4 then(ai2 (D4 c.Age c.cC9 255) fun v5=>some v5)else(some false)) fun b5=>ai2 (bif b5 then(ai2 (D4 c.E4 0 255) fun v6=>some v6)else(some false)) fun b6=>ai2 (bif b6 then(ai2 (D4 c.Frame 0 8) fun v7=>some v7)else(some false)) fun b7=>some b7
def an2 (c:u7):Option Bool:=
 ai2 (ad6 c) fun v=>some (!v)
def aC4 (_:Int)(x:u7)(f2:List (Int×Bool)):Option (Fl (List (Int×Bool)) Bool):=
 bif (cQ5 false f2 x.Code)then(some (.ret false))else(some (.next (dl6 f2 x.Code true)))
def am9 (l:List u7):Option Bool:=
 ai2 (ad3 l (aC4) ([]:List (Int×Bool))) fun(t:(List (Int×Bool))⊕Bool)=>match t with| .inl _=>(some true)| .inr r2=>some r2
def Z3 (s:List u7):Option (List u7):=
 ai2 (R6 ([]:List u7) s) fun l=>some l
def aA6 (l:List u7):Option (B5×Int):=
 bif (decide ((l.length:Int)>64))then(some ((⟨([]:List u7),([]:List A2),0,false⟩:B5),5))else(ai2 (I1 l an2) fun v=>bif v then(some ((⟨([]:List u7),([]:List A2),0,false⟩:B5),1))else(ai2 (am9 l) fun v2=>bif (!v2)then(some ((⟨([]:List u7),([]:List A2),0,false⟩:B5),8))else(ai2 (Z3 l) fun v3=>ai2 (aX7 (l.length:Int) (⟨0,0,0,0,0,([]:List Int),0⟩:A2)) fun l2=>some ((⟨v3,l2,0,false⟩:B5),0))))
def aR1 (x:Int):Option Bool:=
 ai2 (D4 x (-1099511627776) 1099511627776) fun v=>some v
def az4 (x:Int):Option Bool:=
 ai2 (aR1 x) fun v=>some (!v)
def ar9 (c:u7)(l:List Int):Option Bool:=
 ai2 (bif ((l.length:Int)==c.Frame)then(ai2 (o5 l az4) fun v=>some (!v))else(some false)) fun b2=>some b2
def X3 (f2:A2)(bits:Int):Option Bool:=
 some ((N2 .i64 f2.F8 bits)==bits)
def aK4 (f2:A2):Option Bool:=
 some ((N2 .i64 f2.F8 6) !=0)
def aE8 (c:u7)(f2:A2)(E3:Int):Option Bool:=
 ai2 (D4 f2.F8 0 31) fun v=>ai2 (bif (!v)then(some true)else(ai2 (D4 f2.E0 (j7 (0-c.Pass)) c.bg2) fun v2=>some (!v2))) fun b2=>ai2 (bif b2 then(some true)else(ai2 (D4 f2.I9 0 2) fun v3=>some (!v3))) fun b3=>ai2 (bif b3 then(some true)else(ai2 (D4 f2.Clean 0 (j7 (c.Age-1))) fun v4=>some (!v4))) fun b4=>ai2 (bif b4 then(some true)else(ai2 (D4 f2.y9 0 255) fun v5=>some (!v5))) fun b5=>ai2 (bif b5 then(some true)else(ai2 (D4 f2.H0 0 E3) fun v6=>some (!v6))) fun b6=>ai2 (bif b6 then(some true)else(ai2 (bif (decide ((f2.Frame.length:Int)>0))then(ai2 (ar9 c f2.Frame) fun v7=>some (!v7))else(some false)) fun b7=>some b7)) fun b8=>bif b8 then(some false)else(ai2 (X3 f2 1) fun v8=>ai2 (bif v8 then(ai2 (X3 f2 10) fun v9=>some ((!v9)||(f2.H0 !=E3)))else(some false)) fun b9=>bif b9 then(some false)else(ai2 (X3 f2 4) fun v10=>bif (!(v10==(f2.I9==2)))then(some false)else(ai2 (X3 f2 16) fun v11=>ai2 (bif v11 then(ai2 (X3 f2 4) fun v12=>some ((!v12)||(!c.cr2)))else(some false)) fun b10=>bif b10 then(some false)else(ai2 (X3 f2 2) fun v13=>bif (v13&&(f2.Clean !=0))then(some false)else(ai2 (aK4 f2) fun v14=>bif v14 then(some ((((decide (f2.y9>=1))&&(decide (f2.I9>=1)))&&(decide (f2.H0>=1)))&&((f2.Frame.length:Int)==c.Frame)))else(some (((((f2.I9==0)&&(f2.Clean==0))&&(f2.y9==0))&&(f2.H0==0))&&((f2.Frame.length:Int)==0))))))))
def aC3 (f2:B5)(i:Int)(_:Unit):Option (Fl Unit Bool):=
 ai2 (C9 f2.L i) fun x=>ai2 (C9 f2.S8 i) fun x2=>ai2 (aE8 x2 x f2.aH2) fun v4=>bif (!v4)then(some (.ret false))else(some (.next ()))
def Z0 (f2:B5):Option Bool:=
 ai2 (bif (decide ((f2.S8.length:Int)>64))then(some true)else(ai2 (I1 f2.S8 an2) fun v=>some v)) fun b2=>ai2 (bif b2 then(some true)else(ai2 (am9 f2.S8) fun v2=>some (!v2))) fun b3=>ai2 (bif (b3||((f2.L.length:Int) !=(f2.S8.length:Int)))then(some true)else(ai2 (D4 f2.aH2 0 1073741824) fun v3=>some (!v3))) fun b4=>ai2 (bif b4 then(some true)else(some (f2.ax1&&(decide (f2.aH2<1))))) fun b5=>bif b5 then(some false)else(ai2 (K5 (f2.L.length:Int) (aC3 f2) ()) fun(t:Unit⊕Bool)=>match t with| .inl _=>(some true)| .inr r2=>some r2)
def ac8 (s:List A2):Option (List A2):=
 ai2 (R6 ([]:List A2) s) fun l=>some l
def ax5 (i:Int)(f3:List A2):Option (Fl (List A2) Empty):=
 ai2 (C9 f3 i) fun x=>ai2 (O0 x.Frame) fun v2=>ai2 (aj2 f3 i ({x with Frame:=v2}:A2)) fun l=>some (.next l)
def ak9 (f2:B5):Option B5:=
 ai2 (ac8 f2.L) fun v=>ai2 (K5 (v.length:Int) (ax5) v) fun(t:(List A2)⊕Empty)=>match t with| .inl f4=>(some ({f2 with L:=f4}:B5))| .inr r=>r.elim
def aC2 (i:Int)(f3:List A2):Option (Fl (List A2) Empty):=
 ai2 (C9 f3 i) fun x=>ai2 (aj2 f3 i ({x with E0:=0}:A2)) fun l=>ai2 (aj2 l i ({x with F8:=aO0 .i64 x.F8 9,E0:=0}:A2)) fun l2=>some (.next l2)
def aw1 (f2:B5):Option (B5×Int):=
 ai2 (Z0 f2) fun v=>bif (!v)then(some ((⟨([]:List u7),([]:List A2),0,false⟩:B5),1))else(bif f2.ax1 then(some ((⟨([]:List u7),([]:List A2),0,false⟩:B5),6))else(bif (f2.aH2==1073741824)then(some ((⟨([]:List u7),([]:List A2),0,false⟩:B5),9))else(ai2 (ak9 f2) fun v2=>ai2 (K5 (v2.L.length:Int) (aC2) v2.L) fun(t:(List A2)⊕Empty)=>match t with| .inl f4=>(some ((⟨v2.S8,f4,j7 (v2.aH2+1),true⟩:B5),0))| .inr r=>r.elim)))
def aE7 (l:List A2)(i:Int)(c:u7)(E3:Int)(frame:List Int):Option (List A2):=
 ai2 (C9 l i) fun x2=>ai2 (X3 x2 1) fun v=>ai2 (bif (!v)then(ai2 (aj2 l i ({x2 with y9:=F2 255 (j7 (x2.y9+1))}:A2)) fun l2=>ai2 (X3 ({x2 with y9:=F2 255 (j7 (x2.y9+1))}:A2) 4) fun v2=>bif (!v2)then(ai2 (O0 frame) fun v3=>ai2 (aj2 l2 i ({x2 with y9:=F2 255 (j7 (x2.y9+1)),Frame:=v3}:A2)) fun l3=>some l3)else(some l2))else(some l)) fun(f2:List A2)=>ai2 (C9 f2 i) fun x3=>ai2 (aj2 f2 i ({x3 with F8:=U4 .i64 x3.F8 11}:A2)) fun l4=>ai2 (aj2 l4 i ({x3 with F8:=U4 .i64 x3.F8 11,Clean:=0}:A2)) fun l5=>bif (x3.H0==E3)then(some l5)else(ai2 (aj2 l5 i ({x3 with F8:=U4 .i64 x3.F8 11,Clean:=0,H0:=E3}:A2)) fun l6=>ai2 (aj2 l6 i (⟨U4 .i64 x3.F8 11,x3.E0,F2 2 (j7 (x3.I9+1)),0,x3.y9,x3.Frame,E3⟩:A2)) fun l7=>bif (decide ((F2 2 (j7 (x3.I9+1)))<2))then(some l7)else(ai2 (aj2 l7 i (⟨U4 .i64 (U4 .i64 x3.F8 11) 4,x3.E0,F2 2 (j7 (x3.I9+1)),0,x3.y9,x3.Frame,E3⟩:A2)) fun l8=>bif c.cr2 then(ai2 (aj2 l8 i (⟨U4 .i64 (U4 .i64 (U4 .i64 x3.F8 11) 4) 16,x3.E0,F2 2 (j7 (x3.I9+1)),0,x3.y9,x3.Frame,E3⟩:A2)) fun l9=>some l9)else(some l8)))
def ap8 (f2:B5)(i:Int)(bad:Bool)(l:List Int):Option (B5×Int):=
 ai2 (Z0 f2) fun v=>bif (!v)then(some ((⟨([]:List u7),([]:List A2),0,false⟩:B5),1))else(bif ((decide (i<0))||(decide (i>=(f2.L.length:Int))))then(some ((⟨([]:List u7),([]:List A2),0,false⟩:B5),2))else(bif (!f2.ax1)then(some ((⟨([]:List u7),([]:List A2),0,false⟩:B5),6))else(ai2 (C9 f2.S8 i) fun x=>ai2 (ar9 x l) fun v2=>bif (!v2)then(some ((⟨([]:List u7),([]:List A2),0,false⟩:B5),1))else(ai2 (ak9 f2) fun v3=>ai2 (ai2 (C9 v3.L i) fun _=>ai2 (C9 v3.S8 i) fun x3=>some x3) fun(f3:u7)=>ai2 (bif bad then(ai2 (C9 v3.L i) fun x4=>ai2 (aj2 v3.L i ({x4 with E0:=F2 f3.bg2 (j7 ((G4 x4.E0 0)+1))}:A2)) fun l2=>some l2)else(ai2 (C9 v3.L i) fun x5=>ai2 (aj2 v3.L i ({x5 with E0:=G4 (j7 (0-f3.Pass)) (j7 ((F2 x5.E0 0)-1))}:A2)) fun l3=>some l3)) fun(f4:List A2)=>ai2 (C9 f4 i) fun x6=>bif (x6.E0==f3.bg2)then(ai2 (aE7 f4 i f3 v3.aH2 l) fun v4=>some (({v3 with L:=v4}:B5),0))else(bif (x6.E0==(j7 (0-f3.Pass)))then(ai2 (aj2 f4 i ({x6 with F8:=U4 .i64 x6.F8 8}:A2)) fun l4=>ai2 (aj2 l4 i ({x6 with F8:=aO0 .i64 (U4 .i64 x6.F8 8) 1}:A2)) fun l5=>some (({v3 with L:=l5}:B5),0))else(some (({v3 with L:=f4}:B5),0)))))))
def M8 (x low high:Int):Option Bool:=
 some ((decide (x>=low))&&(decide (x<=high)))
def U3 (r2:j2):Option Bool:=
 ai2 (R9 r2) fun v=>some (!v)
def aq4 (bn1:List Int)(x i below:Int):Option (Fl Int Empty):=
 ai2 (C9 bn1 i) fun x2=>bif (decide (x2<=x))then(some (.next i))else(some (.next below))
def ad9 (bn1:List Int)(x:Int)(s:Int×Int):Option ((Int×Int)⊕((Int×Int)⊕Empty)):=
 bif (decide (s.1>=0))then(ai2 (C9 bn1 s.1) fun x3=>bif (decide (x3>=x))then(some (.inl (j7 (s.1-1),s.1)))else(some (.inl (j7 (s.1-1),s.2))))else(some (.inr (.inl (s.1,s.2))))
def af8 (bn1:List Int)(x:Int):Option (Int×Int):=
 ai2 (K5 (bn1.length:Int) (aq4 bn1 x) 0) fun(t:Int⊕Empty)=>match t with| .inl cK1=>(ai2 (J7 (ad9 bn1 x) (j7 ((bn1.length:Int)-1),j7 ((bn1.length:Int)-1))) fun(t:(Int×Int)⊕Empty)=>match t with| .inl s2=>(ai2 (C9 bn1 0) fun x4=>bif (decide (x<x4))then(some (cK1,0))else(some (cK1,s2.2)))| .inr r=>r.elim)| .inr r=>r.elim
def X5 (m2:SMap)(x y:Int):Option Int:=
 ai2 (af8 m2.X x) fun r2=>ai2 (af8 m2.Y y) fun r3=>ai2 (C9 m2.Z r2.1) fun x2=>ai2 (C9 x2 r3.1) fun x3=>ai2 (C9 x2 r3.2) fun x4=>ai2 (C9 m2.Z r2.2) fun x5=>ai2 (C9 x5 r3.1) fun x6=>ai2 (C9 x5 r3.2) fun x7=>some (G4 (G4 (G4 x3 x4) x6) x7)
def aw7 (r2:j2):Option Bool:=
 some ((r2.Kind==2)||(r2.Kind==3))
def af6 (_:Int)(x:j2)(s:Int×Int):Option (Fl (Int×Int) Empty):=
 ai2 (aw7 x) fun v6=>bif (!v6)then(some (.next (s.1,s.2)))else(bif (x.N1==1)then(some (.next (G4 s.1 (F2 x.o8 1500),G4 s.2 x.E4)))else(some (.next (s.1,G4 s.2 x.E4))))
def af7 (s2:Int×Int)(_:Int)(x2:j2)(at4:Int):Option (Fl Int Empty):=
 bif ((x2.Kind==1)&&(decide (x2.E4>s2.2)))then(some (.next (F2 at4 x2.o8)))else(some (.next at4))
def ad8 (t2:o6)(be9 o7:Int)(l:List j2):Option (Int×Int):=
 ai2 (I8 t2.aH5) fun v=>ai2 (bif (!v)then(some true)else(ai2 (D5 l U3) fun v2=>some v2)) fun b2=>bif b2 then(some (0,1))else(bif (decide ((l.length:Int)>32))then(some (0,5))else(ai2 (M8 be9 0 1000) fun v3=>ai2 (bif (!v3)then(some true)else(ai2 (M8 o7 0 12000) fun v4=>some (!v4))) fun b3=>bif b3 then(some (0,2))else(ai2 (X5 t2.aH5 o7 be9) fun v5=>ai2 (ad3 l (af6) ((-5000),(-1))) fun(t:(Int×Int)⊕Empty)=>match t with| .inl s2=>(ai2 (ad3 l (af7 s2) 10000) fun(t:Int⊕Empty)=>match t with| .inl dH7=>(some (j7 ((G4 0 (F2 dH7 (G4 (F2 (G4 v5 (-5000)) 10000) s2.1)))+100),0))| .inr r=>r.elim)| .inr r=>r.elim)))
def aq3 (_:Int)(x:A0)(n2:Int):Option (Fl Int Empty):=
 bif (x.Y4 !=0)then(some (.next (j7 (n2+1))))else(some (.next n2))
def aw6 (t2:o6)(o7 w9:Int)(l:List A0):Option (Int×Int):=
 ai2 (I8 t2.o8) fun v=>bif (!v)then(some (0,1))else(bif (decide ((l.length:Int)>8))then(some (0,5))else(ai2 (M8 o7 0 12000) fun v2=>ai2 (bif (!v2)then(some true)else(ai2 (M8 w9 0 1048576) fun v3=>some (!v3))) fun b2=>bif b2 then(some (0,2))else(bif ((l.length:Int)==0)then(some (0,0))else(ai2 (ad3 l (aq3) 0) fun(t:Int⊕Empty)=>match t with| .inl n3=>(ai2 (X5 t2.o8 o7 w9) fun v4=>ai2 (bm5 .i64 (j7 ((j7 ((j7 ((F2 (G4 v4 0) 10000)*n3))+(l.length:Int)))-1)) (l.length:Int)) fun q=>some (q,0))| .inr r=>r.elim))))
def az6 (t2:o6)(M1 B7:Int):Option (Int×Int):=
 ai2 (aA7 t2 M1 B7) fun r2=>bif (r2.2 !=0)then(some (0,r2.2))else(some (j7 (3*(G4 0 (j7 (M1-r2.1)))),0))
end Go.Pv
namespace Go.Proofs.YtmhdghdbojdgfaaGreat
open Go Go.Pv Go.Proofs
set_option maxHeartbeats 1000000
theorem bL0 (a:Int):(ah4 a).m=Pv.ah4 a:=by
 simp only[ah4,Pv.ah4,C.of,M.run]<;>kernel_rfl
theorem bl2 (s:List Int)(v:Int):(V5 s v).m=Pv.V5 s v:=by
 delta Pv.V5 Pv.an5
 simp only[V5,an5,C.of,M.run,L1.m,bY5,K5,M0]<;>kernel_rfl
theorem bb2 (s:List Int)(v:Int):(P1 s v).m=Pv.P1 s v:=by
 simp only[P1,Pv.P1,C.of,M.run,bl2]<;>kernel_rfl
theorem ax3 (e2:o4):(O5 e2).m=Pv.O5 e2:=by
 delta Pv.O5 Pv.ar8
 simp only[O5,ar8,C.of,M.run,bL0,bb2]<;>kernel_rfl
theorem cb8 (x y:Int):(as1 x y).m=Pv.as1 x y:=rfl
theorem bB8 (x:List B6)(count:Int):(P3 x count).m=Pv.P3 x count:=rfl
theorem di7 (n2:Int):(aU2 n2).m=Pv.aU2 n2:=by
 simp only[aU2,Pv.aU2,C.of,M.run,bB8]<;>kernel_rfl
theorem di8:(bi3).m=Pv.bi3:=by
 simp only[bi3,Pv.bi3,C.of,M.run]<;>kernel_rfl
theorem cL8:(aK8).m=Pv.aK8:=by
 simp only[aK8,Pv.aK8,C.of,M.run]<;>kernel_rfl
theorem bO3 (e2:o4):(az1 e2).m=Pv.az1 e2:=by
 simp only[az1,Pv.az1,C.of,M.run,ax3,di7,cL8,di8]<;>kernel_rfl
theorem bz0 (s:List Int)(f2:Cl Tryz.prog Int Bool (fun x=>[.t (tI x)]) (fun r=>.t (tB r))):(T8 s f2).m=Pv.T8 s (fun x0=>f2.f x0):=by
 delta Pv.T8 Pv.V8
 simp only[T8,V8,C.of,M.run,L1.m,Cl.at,bY5,K5,M0]<;>kernel_rfl
theorem J3 (s:List Int)(f2:Cl Tryz.prog Int Bool (fun x=>[.t (tI x)]) (fun r=>.t (tB r))):(o5 s f2).m=Pv.o5 s (fun x0=>f2.f x0):=by
 simp only[o5,Pv.o5,C.of,M.run,bz0]<;>kernel_rfl
theorem bs4 (n2:Int):(ab5 n2).m=Pv.ab5 n2:=by
 simp only[ab5,Pv.ab5,C.of,M.run]<;>kernel_rfl
theorem cE8 (l:List Int):(ar2 l).m=Pv.ar2 l:=by
 delta Pv.ar2 Pv.ax8
 simp only[ar2,ax8,C.of,M.run,L1.m,bY5,K5,M0,bs4]<;>kernel_rfl
theorem cc5 (z:Int):(ah2 z).m=Pv.ah2 z:=by
 simp only[ah2,Pv.ah2,C.of,M.run,bs4]<;>kernel_rfl
theorem am5 (m2:SMap):(I8 m2).m=Pv.I8 m2:=by
 delta Pv.I8 Pv.aB1
 simp only[I8,aB1,C.of,M.run,Cl.of,bY5,ad3,aq5,J3,cc5,cE8]<;>kernel_rfl
theorem ci9 (n2:Int):(aA5 n2).m=Pv.aA5 n2:=by
 simp only[aA5,Pv.aA5,C.of,M.run]<;>kernel_rfl
theorem cW6 (l:List Int):(aL4 l).m=Pv.aL4 l:=by
 delta Pv.aL4 Pv.aG5
 simp only[aL4,aG5,C.of,M.run,L1.m,Cl.of,bY5,K5,M0,ci9,J3]<;>kernel_rfl
theorem aI2 (c:P8):(P0 c).m=Pv.P0 c:=by
 simp only[P0,Pv.P0,C.of,M.run,Cl.of,cW6,ci9,J3]<;>kernel_rfl
theorem bB2 (x:Int):(cmp_isNaN_int x).m=Pv.cmp_isNaN_int x:=by
 simp only[cmp_isNaN_int,Pv.cmp_isNaN_int,C.of,M.run]<;>kernel_rfl
theorem cD9 (x y:Int):(cmp_Less_int x y).m=Pv.cmp_Less_int x y:=by
 simp only[cmp_Less_int,Pv.cmp_Less_int,C.of,M.run,bB2]<;>kernel_rfl
theorem bb3 (x:List Int):(P2 x).m=Pv.P2 x:=by
 delta Pv.P2 Pv.Q2
 simp only[P2,Q2,C.of,M.run,L1.m,cD9]<;>kernel_rfl
theorem aI1 (n2 low high:Int):(I2 n2 low high).m=Pv.I2 n2 low high:=by
 simp only[I2,Pv.I2,C.of,M.run]<;>kernel_rfl
theorem cK4 (y:Int):(aK0 y).m=Pv.aK0 y:=by
 simp only[aK0,Pv.aK0,C.of,M.run,aI1]<;>kernel_rfl
theorem bG1 (t2:o6):(aA2 t2).m=Pv.aA2 t2:=by
 delta Pv.aA2 Pv.aS8
 simp only[aA2,aS8,C.of,M.run,L1.m,Cl.of,bY5,ad3,aq5,cK4,aI1,aI2,J3,bb3,am5]<;>kernel_rfl
theorem bv7 (s:List (List Int))(f2:Cl Tryz.prog (List Int) Bool (fun x=>[.t (tS Pv.encI x)]) (fun r=>.t (tB r))):(V4 s f2).m=Pv.V4 s (fun x0=>f2.f x0):=by
 delta Pv.V4 Pv.Z5
 simp only[V4,Z5,C.of,M.run,L1.m,Cl.at,bY5,K5,M0]<;>kernel_rfl
theorem aN1 (s:List (List Int))(f2:Cl Tryz.prog (List Int) Bool (fun x=>[.t (tS Pv.encI x)]) (fun r=>.t (tB r))):(F6 s f2).m=Pv.F6 s (fun x0=>f2.f x0):=by
 simp only[F6,Pv.F6,C.of,M.run,bv7]<;>kernel_rfl
theorem aA3 (x low high:Int):(H3 x low high).m=Pv.H3 x low high:=by
 simp only[H3,Pv.H3,C.of,M.run]<;>kernel_rfl
theorem bY0 (x c c2:Int):(an7 x c c2).m=Pv.an7 x c c2:=by
 simp only[an7,Pv.an7,C.of,M.run,aA3]<;>kernel_rfl
theorem bx3 (l:List Int)(low high:Int):(ag7 l low high).m=Pv.ag7 l low high:=by
 simp only[ag7,Pv.ag7,C.of,M.run,Cl.of,J3,bY0]<;>kernel_rfl
theorem aP1 (x:List Int)(cmp:Cl Tryz.prog (Int×Int) Int (fun x=>[.t (tI x.1),.t (tI x.2)]) (fun r=>.t (tI r))):(H7 x cmp).m=Pv.H7 x (fun x0 x1=>cmp.f (x0,x1)):=by
 delta Pv.H7 Pv.L4
 simp only[H7,L4,C.of,M.run,L1.m,Cl.at]<;>kernel_rfl
theorem ck5 (a b2:Int):(ab6 a b2).m=Pv.ab6 a b2:=by
 simp only[ab6,Pv.ab6,C.of,M.run]<;>kernel_rfl
theorem ck6 (row:List Int):(ak5 row).m=Pv.ak5 row:=by
 simp only[ak5,Pv.ak5,C.of,M.run,bb3,bx3]<;>kernel_rfl
theorem bn5 (t2:o6):(ah8 t2).m=Pv.ah8 t2:=by
 simp only[ah8,Pv.ah8,C.of,M.run,Cl.of,aI2,aN1,aP1,am5,ck5,ck6,bx3]<;>kernel_rfl
theorem by7 (x low high:Int):(J1 x low high).m=Pv.J1 x low high:=by
 simp only[J1,Pv.J1,C.of,M.run]<;>kernel_rfl
theorem cs3 (x c c2:Int):(az2 x c c2).m=Pv.az2 x c c2:=by
 simp only[az2,Pv.az2,C.of,M.run,by7]<;>kernel_rfl
theorem bO4 (l:List Int)(low high:Int):(af4 l low high).m=Pv.af4 l low high:=by
 simp only[af4,Pv.af4,C.of,M.run,Cl.of,cs3,J3]<;>kernel_rfl
theorem aV8 (g:aV0):(Q1 g).m=Pv.Q1 g:=by
 simp only[Q1,Pv.Q1,C.of,M.run]<;>kernel_rfl
theorem bg6 (t2:o6):(ab8 t2).m=Pv.ab8 t2:=by
 delta Pv.ab8 Pv.aA4
 simp only[ab8,aA4,C.of,M.run,bY5,ad3,aq5,bG1,bO4,aI2,aV8,am5,bn5]<;>kernel_rfl
theorem cE5 (x low high:Int):(F5 x low high).m=Pv.F5 x low high:=by
 simp only[F5,Pv.F5,C.of,M.run]<;>kernel_rfl
theorem br8 (b2:L0):(ai9 b2).m=Pv.ai9 b2:=by
 simp only[ai9,Pv.ai9,C.of,M.run,cE5]<;>kernel_rfl
theorem bP6 (p2:U2):(aw9 p2).m=Pv.aw9 p2:=by
 simp only[aw9,Pv.aw9,C.of,M.run]<;>kernel_rfl
theorem bj5 (x low high:Int):(R7 x low high).m=Pv.R7 x low high:=by
 simp only[R7,Pv.R7,C.of,M.run]<;>kernel_rfl
theorem bv6 (s:List aa7)(f2:Cl Tryz.prog aa7 Bool (fun x=>[bV1 x]) (fun r=>.t (tB r))):(aa1 s f2).m=Pv.aa1 s (fun x0=>f2.f x0):=by
 delta Pv.aa1 Pv.ai1
 simp only[aa1,ai1,C.of,M.run,L1.m,Cl.at,bY5,K5,M0]<;>kernel_rfl
theorem bn2 (s:List aa7)(f2:Cl Tryz.prog aa7 Bool (fun x=>[bV1 x]) (fun r=>.t (tB r))):(Q6 s f2).m=Pv.Q6 s (fun x0=>f2.f x0):=by
 simp only[Q6,Pv.Q6,C.of,M.run,bv6]<;>kernel_rfl
set_option maxHeartbeats 1000000
theorem cb9 (c:aa7):(aa9 c).m=Pv.aa9 c:=by
 simp only[aa9,Pv.aa9,C.of,M.run,bj5]<;>kernel_rfl
theorem bg8 (p2:M6):(ac0 p2).m=Pv.ac0 p2:=by
 simp only[ac0,Pv.ac0,C.of,M.run,Cl.of,bg,bga,cb9,bj5,bn2]<;>kernel_rfl
theorem bs1 (s:List B6)(f2:Cl Tryz.prog B6 Bool (fun x=>[aW8 x]) (fun r=>.t (tB r))):(X6 s f2).m=Pv.X6 s (fun x0=>f2.f x0):=by
 delta Pv.X6 Pv.ag4
 simp only[X6,ag4,C.of,M.run,L1.m,Cl.at,bY5,K5,M0]<;>kernel_rfl
theorem aK3 (s:List B6)(f2:Cl Tryz.prog B6 Bool (fun x=>[aW8 x]) (fun r=>.t (tB r))):(I7 s f2).m=Pv.I7 s (fun x0=>f2.f x0):=by
 simp only[I7,Pv.I7,C.of,M.run,bs1]<;>kernel_rfl
theorem br7 (n2:Int):(ah0 n2).m=Pv.ah0 n2:=by
 simp only[ah0,Pv.ah0,C.of,M.run]<;>kernel_rfl
theorem bP4 (k:B6):(aw4 k).m=Pv.aw4 k:=by
 simp only[aw4,Pv.aw4,C.of,M.run,br7]<;>kernel_rfl
theorem ci8 (k:B6):(aj8 k).m=Pv.aj8 k:=by
 simp only[aj8,Pv.aj8,C.of,M.run,bP4]<;>kernel_rfl
theorem bK9 (e2:o4)(c:A5):(ap5 e2 c).m=Pv.ap5 e2 c:=by
 simp only[ap5,Pv.ap5,C.of,M.run,Cl.of,ci8,by7,ax3,bg8,bP6,aK3]<;>kernel_rfl
theorem bn4 (s:List j2)(f2:Cl Tryz.prog j2 Bool (fun x=>[G5 x]) (fun r=>.t (tB r))):(U5 s f2).m=Pv.U5 s (fun x0=>f2.f x0):=by
 delta Pv.U5 Pv.ab2
 simp only[U5,ab2,C.of,M.run,L1.m,Cl.at,bY5,K5,M0]<;>kernel_rfl
theorem as5 (s:List j2)(f2:Cl Tryz.prog j2 Bool (fun x=>[G5 x]) (fun r=>.t (tB r))):(D5 s f2).m=Pv.D5 s (fun x0=>f2.f x0):=by
 simp only[D5,Pv.D5,C.of,M.run,bn4]<;>kernel_rfl
theorem bd0 (t2:Int):(O9 t2).m=Pv.O9 t2:=by
 simp only[O9,Pv.O9,C.of,M.run]<;>kernel_rfl
theorem bg5 (r2:j2):(R9 r2).m=Pv.R9 r2:=by
 simp only[R9,Pv.R9,C.of,M.run,bg,bga,bgo,bd0]<;>kernel_rfl
theorem cb4 (r2:j2):(ag9 r2).m=Pv.ag9 r2:=by
 simp only[ag9,Pv.ag9,C.of,M.run,bg5]<;>kernel_rfl
theorem cs2 (i:W4)(B2:Int):(au8 i B2).m=Pv.au8 i B2:=by
 simp only[au8,Pv.au8,C.of,M.run,Cl.of,cb4,bO4,by7,as5]<;>kernel_rfl
theorem af2 (x low high:Int):(C4 x low high).m=Pv.C4 x low high:=by
 simp only[C4,Pv.C4,C.of,M.run]<;>kernel_rfl
theorem bP3 (n2:Int):(ai8 n2).m=Pv.ai8 n2:=by
 simp only[ai8,Pv.ai8,C.of,M.run]<;>kernel_rfl
theorem bP2 (D3:Int):(aw3 D3).m=Pv.aw3 D3:=by
 simp only[aw3,Pv.aw3,C.of,M.run]<;>kernel_rfl
theorem di5 (o7 D3:Int):(bb5 o7 D3).m=Pv.bb5 o7 D3:=by
 simp only[bb5,Pv.bb5,C.of,M.run,bP2]<;>kernel_rfl
theorem bP1 (be9 o7 D3:Int):(aw2 be9 o7 D3).m=Pv.aw2 be9 o7 D3:=by
 simp only[aw2,Pv.aw2,C.of,M.run,di5,bP3]<;>kernel_rfl
theorem cW8 (p2:U2)(first second:Int):(aL8 p2 first second).m=Pv.aL8 p2 first second:=by
 simp only[aL8,Pv.aL8,C.of,M.run,af2,bP6]<;>kernel_rfl
theorem av8 (s:k6)(e2:Int):(u5 s e2).m=Pv.u5 s e2:=by
 simp only[u5,Pv.u5,CG.of,M.run]<;>kernel_rfl
theorem aI4 (n2:Int)(f2:Cl Tryz.prog Int Bool (fun x=>[.t (tI x)]) (fun r=>.t (tB r))):(P6 n2 f2).m=Pv.P6 n2 (fun x0=>f2.f x0):=by
 delta Pv.P6 Pv.ab3
 simp only[P6,ab3,C.of,M.run,Cl.at,elE]<;>kernel_rfl
theorem bQ2 (i:Int)(c:List Int)(c2:Int):(ae2 i c c2).m=Pv.ae2 i c c2:=by
 simp only[ae2,Pv.ae2,C.of,M.run,L1.m]<;>kernel_rfl
theorem cc6 (l:List Int)(x:Int):(W8 l x).m=Pv.W8 l x:=by
 simp only[W8,Pv.W8,C.of,M.run,L1.m,Cl.of,af2,aI4,bQ2]<;>kernel_rfl
theorem cb3 (n2:Int):(U6 n2).m=Pv.U6 n2:=by
 simp only[U6,Pv.U6,C.of,M.run]<;>kernel_rfl
theorem cb7 (x:Int):(aN5 x).m=Pv.aN5 x:=rfl
theorem bp2 (x:Int):(V7 x).m=Pv.V7 x:=by
 simp only[V7,Pv.V7,C.of,M.run,cb7]<;>kernel_rfl
theorem cb6 (hi lo y:Int):(al0 hi lo y).m=Pv.al0 hi lo y:=by
 delta Pv.al0 Pv.aC7 Pv.aC8
 simp only[al0,aC7,aC8,C.of,M.run,L1.m,elE,bp2]<;>kernel_rfl
theorem cs1 (r2 c:Int)(negative:Bool)(mode:Int):(aj7 r2 c negative mode).m=Pv.aj7 r2 c negative mode:=by
 simp only[aj7,Pv.aj7,C.of,M.run]<;>kernel_rfl
theorem cD8 (a b2 c mode:Int):(ay3 a b2 c mode).m=Pv.ay3 a b2 c mode:=by
 simp only[ay3,Pv.ay3,C.of,M.run,cb3,cs1,cb6,cb8]<;>kernel_rfl
theorem bp0 (a b2 mode:Int):(am4 a b2 mode).m=Pv.am4 a b2 mode:=by
 simp only[am4,Pv.am4,C.of,M.run,cD8]<;>kernel_rfl
theorem aQ4 (a b2:Int):(V1 a b2).m=Pv.V1 a b2:=by
 simp only[V1,Pv.V1,C.of,M.run,bp0]<;>kernel_rfl
theorem bs3 (x0 x1 y0 y1 x:Int):(ab4 x0 x1 y0 y1 x).m=Pv.ab4 x0 x1 y0 y1 x:=by
 simp only[ab4,Pv.ab4,C.of,M.run,aQ4]<;>kernel_rfl
theorem cE7 (j:Int)(c:SMap)(c2 c3:Int):(ar1 j c c2 c3).m=Pv.ar1 j c c2 c3:=by
 simp only[ar1,Pv.ar1,C.of,M.run,L1.m,bs3]<;>kernel_rfl
theorem cX1 (m2:SMap)(x y:Int):(aM5 m2 x y).m=Pv.aM5 m2 x y:=by
 simp only[aM5,Pv.aM5,C.of,M.run,L1.m,cE7,bs3,cc6]<;>kernel_rfl
theorem aX4 (m2:SMap)(x y:Int):(X8 m2 x y).m=Pv.X8 m2 x y:=by
 simp only[X8,Pv.X8,C.of,M.run,am5,cX1]<;>kernel_rfl
theorem cW9 (t2:o6)(value o7:Int):(aL9 t2 value o7).m=Pv.aL9 t2 value o7:=by
 simp only[aL9,Pv.aL9,C.of,M.run,af2,aX4,am5]<;>kernel_rfl
theorem cj1 (s:F4)(g:aV0)(e2:Int):(ap9 s g e2).m=Pv.ap9 s g e2:=by
 simp only[ap9,Pv.ap9,C.of,M.run,bg,bga,af2,aV8]<;>kernel_rfl
theorem di4 (s:F4)(g:aV0)(target o7:Int):(aE0 s g target o7).m=Pv.aE0 s g target o7:=by
 simp only[aE0,Pv.aE0,C.of,M.run,cj1,aV8,bP3]<;>kernel_rfl
theorem cb2 (r2:j2):(ag8 r2).m=Pv.ag8 r2:=by
 simp only[ag8,Pv.ag8,C.of,M.run,bg5]<;>kernel_rfl
theorem cs0 (l:List j2)(low high:Int):(au7 l low high).m=Pv.au7 l low high:=by
 simp only[au7,Pv.au7,C.of,M.run,Cl.of,cb2,bd0,as5]<;>kernel_rfl
theorem by9 (s:List j2):(W3 s).m=Pv.W3 s:=by
 simp only[W3,Pv.W3,CG.of,M.run,U1.m,fh8]<;>kernel_rfl
theorem aQ6 (data:List j2)(a b2:Int)(cmp:Cl Tryz.prog (j2×j2) Int (fun x=>[G5 x.1,G5 x.2]) (fun r=>.t (tI r))):(E8 data a b2 cmp).m=Pv.E8 data a b2 (fun x0 x1=>cmp.f (x0,x1)):=by
 delta Pv.E8 Pv.P5 Pv.P4
 simp only[E8,P5,P4,CG.of,M.run,L1.m,U1.m,Cl.at,bso,bY5,elE]<;>kernel_rfl
set_option maxHeartbeats 1000000
theorem bc1 (data:List j2)(a m2 b2:Int)(cmp:Cl Tryz.prog (j2×j2) Int (fun x=>[G5 x.1,G5 x.2]) (fun r=>.t (tI r))):(O2 data a m2 b2 cmp).m=Pv.O2 64 data a m2 b2 (fun x0 x1=>cmp.f (x0,x1)):=rfl
theorem bf6 (data:List j2)(n2:Int)(cmp:Cl Tryz.prog (j2×j2) Int (fun x=>[G5 x.1,G5 x.2]) (fun r=>.t (tI r))):(M9 data n2 cmp).m=Pv.M9 data n2 (fun x0 x1=>cmp.f (x0,x1)):=by
 delta Pv.M9 Pv.Q9 Pv.W2 Pv.R3
 simp only[M9,Q9,W2,R3,CG.of,M.run,elE,aQ6,bc1]<;>kernel_rfl
theorem bc0 (x:List j2)(cmp:Cl Tryz.prog (j2×j2) Int (fun x=>[G5 x.1,G5 x.2]) (fun r=>.t (tI r))):(J2 x cmp).m=Pv.J2 x (fun x0 x1=>cmp.f (x0,x1)):=by
 simp only[J2,Pv.J2,CG.of,M.run,bf6]<;>kernel_rfl
theorem bX5 (a b2:j2):(O1 a b2).m=Pv.O1 a b2:=by
 simp only[O1,Pv.O1,C.of,M.run]<;>kernel_rfl
theorem bG2 (s:p6)(t2:Int):(ac7 s t2).m=Pv.ac7 s t2:=by
 simp only[ac7,Pv.ac7,CG.of,M.run]<;>kernel_rfl
theorem bB0 (s:p6)(t2:Int):(Y8 s t2).m=Pv.Y8 s t2:=by
 simp only[Y8,Pv.Y8,CG.of,M.run]<;>kernel_rfl
theorem bB1 (s:p6)(t2:Int):(Y9 s t2).m=Pv.Y9 s t2:=by
 simp only[Y9,Pv.Y9,CG.of,M.run,af2]<;>kernel_rfl
theorem bG3 (s:p6)(r2:j2):(W5 s r2).m=Pv.W5 s r2:=by
 simp only[W5,Pv.W5,CG.of,M.run,bg,bgo,bgt,bB0,bG2,bB1]<;>kernel_rfl
theorem bX9 (s:List Int):(aB0 s).m=Pv.aB0 s:=rfl
theorem bG9 (s:List Int):(ar6 s).m=Pv.ar6 s:=rfl
theorem ci6 (l:List j2)(low high:Int):(ap2 l low high).m=Pv.ap2 l low high:=by
 delta Pv.ap2 Pv.ai6
 simp only[ap2,ai6,C.of,M.run,U1.m,Cl.of,bso,bY5,ad3,aq5,elE,bX5,bG3,by9,bG9,bc0,bX9]<;>kernel_rfl
theorem cD7 (g:Z7)(l:List j2)(low high up down:Int):(ap1 g l low high up down).m=Pv.ap1 g l low high up down:=by
 simp only[ap1,Pv.ap1,C.of,M.run,ci6,cs0,bd0]<;>kernel_rfl
theorem bG4 (s:k6):(W6 s).m=Pv.W6 s:=by
 simp only[W6,Pv.W6,CG.of,M.run,U1.m,bso,bY5,cD7,af2,av8,bP1,di4,bP2,cW8,cW9]<;>kernel_rfl
theorem cc8 (i:Int)(c:o6)(c2 c3 c4:Int):(al5 i c c2 c3 c4).m=Pv.al5 i c c2 c3 c4:=by
 simp only[al5,Pv.al5,C.of,M.run,aX4]<;>kernel_rfl
theorem ct9 (t2:o6)(o7 S7:Int):(ao8 t2 o7 S7).m=Pv.ao8 t2 o7 S7:=by
 simp only[ao8,Pv.ao8,C.of,M.run,L1.m,Cl.of,aI4,cc8,bn5,aA3]<;>kernel_rfl
theorem cW5 (x e2 other:Int):(at7 x e2 other).m=Pv.at7 x e2 other:=by
 simp only[at7,Pv.at7,C.of,M.run]<;>kernel_rfl
theorem cb5 (i:Int)(c:P8)(c2:Int):(ak7 i c c2).m=Pv.ak7 i c c2:=by
 simp only[ak7,Pv.ak7,C.of,M.run,L1.m]<;>kernel_rfl
theorem cs4 (c:P8)(x:Int):(au9 c x).m=Pv.au9 c x:=by
 simp only[au9,Pv.au9,C.of,M.run,Cl.of,cb5,aI4]<;>kernel_rfl
theorem cK7 (c:P8)(x:Int):(aE4 c x).m=Pv.aE4 c x:=by
 simp only[aE4,Pv.aE4,C.of,M.run,L1.m,aQ4,cs4]<;>kernel_rfl
theorem bw7 (c:P8)(x:Int):(as8 c x).m=Pv.as8 c x:=by
 simp only[as8,Pv.as8,C.of,M.run,aI2,cK7]<;>kernel_rfl
theorem bZ0 (t2:o6)(o7 B9 K3:Int):(aB5 t2 o7 B9 K3).m=Pv.aB5 t2 o7 B9 K3:=by
 simp only[aB5,Pv.aB5,C.of,M.run,aQ4,bw7,aX4]<;>kernel_rfl
theorem ci4 (k:Int)(c:o6)(c2 c3 c4:Int):(aj5 k c c2 c3 c4).m=Pv.aj5 k c c2 c3 c4:=by
 simp only[aj5,Pv.aj5,C.of,M.run,bZ0]<;>kernel_rfl
theorem cD4 (t2:o6)(o7 want K3:Int):(au4 t2 o7 want K3).m=Pv.au4 t2 o7 want K3:=by
 simp only[au4,Pv.au4,C.of,M.run,Cl.of,ci4,bG1,aI1,aI4]<;>kernel_rfl
theorem cj8 (rpm:Int):(aw8 rpm).m=Pv.aw8 rpm:=by
 simp only[aw8,Pv.aw8,C.of,M.run,bp0]<;>kernel_rfl
theorem dq4 (o7 B9:Int):(bc9 o7 B9).m=Pv.bc9 o7 B9:=by
 simp only[bc9,Pv.bc9,C.of,M.run,aI1,cj8]<;>kernel_rfl
theorem ci5 (k:Int)(c:L0)(c2 c3:Int):(aj6 k c c2 c3).m=Pv.aj6 k c c2 c3:=by
 simp only[aj6,Pv.aj6,C.of,M.run]<;>kernel_rfl
theorem cD5 (b2:L0)(cX6 B9:Int):(au5 b2 cX6 B9).m=Pv.au5 b2 cX6 B9:=by
 simp only[au5,Pv.au5,C.of,M.run,Cl.of,ci5,aI1,br8,aI4]<;>kernel_rfl
theorem by8 (s:k6):(T7 s).m=Pv.T7 s:=by
 simp only[T7,Pv.T7,CG.of,M.run,dq4,cD4,cD5,cW5,av8,ct9]<;>kernel_rfl
theorem bY9 (t2:o6)(o7 B9 K3:Int):(aB4 t2 o7 B9 K3).m=Pv.aB4 t2 o7 B9 K3:=by
 simp only[aB4,Pv.aB4,C.of,M.run,bG1,aI1,bZ0]<;>kernel_rfl
theorem bx2 (t2:o6)(o7 w9:Int):(ag6 t2 o7 w9).m=Pv.ag6 t2 o7 w9:=by
 simp only[ag6,Pv.ag6,C.of,M.run,aX4,bn5,aA3]<;>kernel_rfl
theorem bh0 (t2:o6)(bI9 late ad7 B2:Int):(Y3 t2 bI9 late ad7 B2).m=Pv.Y3 t2 bI9 late ad7 B2:=by
 simp only[Y3,Pv.Y3,C.of,M.run,L1.m,bw7]<;>kernel_rfl
theorem ck4 (late:Int)(c:o6)(c2 c3 c4 c5:Int):(ak4 late c c2 c3 c4 c5).m=Pv.ak4 late c c2 c3 c4 c5:=by
 simp only[ak4,Pv.ak4,C.of,M.run,bh0]<;>kernel_rfl
theorem cF0 (t2:o6)(o7 w9 most B2:Int):(al6 t2 o7 w9 most B2).m=Pv.al6 t2 o7 w9 most B2:=by
 delta Pv.al6 Pv.al7
 simp only[al6,al7,C.of,M.run,Cl.of,elE,aI4,bx2,ck4,bh0,aA3]<;>kernel_rfl
theorem ck3 (B2 ad7 E3:Int):(ar3 B2 ad7 E3).m=Pv.ar3 B2 ad7 E3:=by
 delta Pv.ar3 Pv.ar4
 simp only[ar3,ar4,C.of,M.run,L1.m,U1.m,bso,bY5,K5,M0,elE,aA3]<;>kernel_rfl
theorem cu0 (t2:o6)(o7 w9 late ad7 B2:Int):(av5 t2 o7 w9 late ad7 B2).m=Pv.av5 t2 o7 w9 late ad7 B2:=by
 simp only[av5,Pv.av5,C.of,M.run,bx2,bh0,aA3]<;>kernel_rfl
theorem bM1 (s:k6):(Z9 s).m=Pv.Z9 s:=by
 simp only[Z9,Pv.Z9,CG.of,M.run,bso,bY5,bY9,av8,ck3,cF0,cu0]<;>kernel_rfl
theorem bg9 (o7 w9:Int):(ac1 o7 w9).m=Pv.ac1 o7 w9:=by
 simp only[ac1,Pv.ac1,C.of,M.run,bj5]<;>kernel_rfl
theorem bM3 (s:List aa7):(ag3 s).m=Pv.ag3 s:=by
 simp only[ag3,Pv.ag3,C.of,M.run,U1.m,fh8]<;>kernel_rfl
theorem cj5 (p2:M6):(aw5 p2).m=Pv.aw5 p2:=by
 simp only[aw5,Pv.aw5,C.of,M.run,bM3]<;>kernel_rfl
theorem cE4 (p2:M6)(B7 o7 w9:Int):(ay6 p2 B7 o7 w9).m=Pv.ay6 p2 B7 o7 w9:=by
 simp only[ay6,Pv.ay6,C.of,M.run,bg,bgo,af2,bg8,cj5,bj5,bg9]<;>kernel_rfl
theorem ct2 (x:Int)(ba8:List Int):(ak1 x ba8).m=Pv.ak1 x ba8:=by
 delta Pv.ak1 Pv.aA9
 simp only[ak1,aA9,C.of,M.run,ad3,aq5,elE]<;>kernel_rfl
theorem cE3 (o7 w9:Int):(aF4 o7 w9).m=Pv.aF4 o7 w9:=by
 simp only[aF4,Pv.aF4,C.of,M.run,ct2,bg9]<;>kernel_rfl
theorem cj4 (p2:M6)(o7 w9:Int):(aq2 p2 o7 w9).m=Pv.aq2 p2 o7 w9:=by
 simp only[aq2,Pv.aq2,C.of,M.run,L1.m,af2,cE3,bg8,bg9]<;>kernel_rfl
theorem bg7 (x low high:Int):(ae7 x low high).m=Pv.ae7 x low high:=by
 simp only[ae7,Pv.ae7,C.of,M.run]<;>kernel_rfl
theorem di1 (w9 bH9:Int):(aT8 w9 bH9).m=Pv.aT8 w9 bH9:=by
 simp only[aT8,Pv.aT8,C.of,M.run,L1.m,bg7]<;>kernel_rfl
set_option maxHeartbeats 1000000
theorem cj3 (b2:L0):(aI8 b2).m=Pv.aI8 b2:=by
 simp only[aI8,Pv.aI8,C.of,M.run,bg7]<;>kernel_rfl
theorem di9 (n2:Int)(cmp:Cl Tryz.prog Int Int (fun x=>[.t (tI x)]) (fun r=>.t (tI r))):(aO4 n2 cmp).m=Pv.aO4 n2 (fun x0=>cmp.f x0):=by
 delta Pv.aO4 Pv.aM3
 simp only[aO4,aM3,C.of,M.run,Cl.at,elE]<;>kernel_rfl
theorem bG5 (b2:L0)(aE9 aG8:Int):(aA8 b2 aE9 aG8).m=Pv.aA8 b2 aE9 aG8:=by
 simp only[aA8,Pv.aA8,C.of,M.run]<;>kernel_rfl
theorem cL4 (i:Int)(c:L0)(c2 c3:Int):(az7 i c c2 c3).m=Pv.az7 i c c2 c3:=by
 simp only[az7,Pv.az7,C.of,M.run,bG5]<;>kernel_rfl
theorem di3 (b2:L0)(aE9 bp9:Int):(aI7 b2 aE9 bp9).m=Pv.aI7 b2 aE9 bp9:=by
 simp only[aI7,Pv.aI7,C.of,M.run,Cl.of,cL4,cj3,bg7,bG5,di9]<;>kernel_rfl
theorem di0 (b2:L0)(aE9 aG8:Int):(aO1 b2 aE9 aG8).m=Pv.aO1 b2 aE9 aG8:=by
 simp only[aO1,Pv.aO1,C.of,M.run,cj3,bg7,bG5]<;>kernel_rfl
theorem cL5 (y:Int):(aF0 y).m=Pv.aF0 y:=by
 simp only[aF0,Pv.aF0,C.of,M.run,bg7]<;>kernel_rfl
theorem cj2 (t2:o6)(ca8 B7:Int):(aA7 t2 ca8 B7).m=Pv.aA7 t2 ca8 B7:=by
 simp only[aA7,Pv.aA7,C.of,M.run,Cl.of,bw7,aI2,cL5,bg7,J3]<;>kernel_rfl
theorem di2 (t2:o6)(bp9 B7:Int):(aO2 t2 bp9 B7).m=Pv.aO2 t2 bp9 B7:=by
 simp only[aO2,Pv.aO2,C.of,M.run,bp0,cj2]<;>kernel_rfl
theorem bO5 (s:k6):(ad5 s).m=Pv.ad5 s:=by
 simp only[ad5,Pv.ad5,CG.of,M.run,bso,bY5,af2,av8,di0,di1,di2,di3,cj4,cE4]<;>kernel_rfl
theorem cL6 (k:B6):(az8 k).m=Pv.az8 k:=by
 simp only[az8,Pv.az8,C.of,M.run,bP4]<;>kernel_rfl
theorem cL7 (n2:Int):(aF2 n2).m=Pv.aF2 n2:=by
 simp only[aF2,Pv.aF2,C.of,M.run,br7]<;>kernel_rfl
theorem bG8 (s:List B6):(ac9 s).m=Pv.ac9 s:=by
 simp only[ac9,Pv.ac9,CG.of,M.run,U1.m,fh8]<;>kernel_rfl
theorem cW7 (k:B6)(n2:Int):(aG9 k n2).m=Pv.aG9 k n2:=by
 simp only[aG9,Pv.aG9,C.of,M.run,aQ4]<;>kernel_rfl
theorem di6 (l:List B6)(af5:List Int):(aU1 l af5).m=Pv.aU1 l af5:=by
 delta Pv.aU1 Pv.aL6
 simp only[aU1,aL6,C.of,M.run,L1.m,U1.m,Cl.of,bso,bY5,K5,M0,elE,cL6,cL7,cW7,bG8,aK3,J3]<;>kernel_rfl
theorem ct5 (a b2:Int):(az9 a b2).m=Pv.az9 a b2:=by
 simp only[az9,Pv.az9,C.of,M.run]<;>kernel_rfl
theorem cM1 (l:List Int):(aG0 l).m=Pv.aG0 l:=by
 simp only[aG0,Pv.aG0,C.of,M.run,Cl.of,aP1,ct5]<;>kernel_rfl
theorem aY9 (x low high:Int):(Q3 x low high).m=Pv.Q3 x low high:=by
 simp only[Q3,Pv.Q3,C.of,M.run]<;>kernel_rfl
theorem cc4 (x c c2:Int):(as3 x c c2).m=Pv.as3 x c c2:=by
 simp only[as3,Pv.as3,C.of,M.run,aY9]<;>kernel_rfl
theorem bB9 (l:List Int)(low high:Int):(ac6 l low high).m=Pv.ac6 l low high:=by
 simp only[ac6,Pv.ac6,C.of,M.run,Cl.of,J3,cc4]<;>kernel_rfl
theorem ct6 (l:List Int):(av4 l).m=Pv.av4 l:=by
 simp only[av4,Pv.av4,C.of,M.run,bB9]<;>kernel_rfl
theorem bQ1 (t2:o6):(ax0 t2).m=Pv.ax0 t2:=by
 simp only[ax0,Pv.ax0,C.of,M.run,Cl.of,aI2,aN1,cM1,bB9,ct6,am5]<;>kernel_rfl
theorem cM0 (t2:o6)(B7 M1:Int):(aF9 t2 B7 M1).m=Pv.aF9 t2 B7 M1:=by
 simp only[aF9,Pv.aF9,C.of,M.run,bw7,bQ1,aY9]<;>kernel_rfl
theorem cX0 (t2:o6)(o7 w9:Int):(aM4 t2 o7 w9).m=Pv.aM4 t2 o7 w9:=by
 simp only[aM4,Pv.aM4,C.of,M.run,bQ1,aY9,aX4]<;>kernel_rfl
theorem cL9 (t2:o6)(o7 w9 D3 bi9:Int):(aF8 t2 o7 w9 D3 bi9).m=Pv.aF8 t2 o7 w9 D3 bi9:=by
 simp only[aF8,Pv.aF8,C.of,M.run,af2,cX0,aY9]<;>kernel_rfl
theorem bM0 (s:k6):(Z8 s).m=Pv.Z8 s:=by
 delta Pv.Z8 Pv.ad1
 simp only[Z8,ad1,CG.of,M.run,L1.m,U1.m,bso,bY5,K5,M0,elE,af2,av8,di6,cL9,cM0]<;>kernel_rfl
theorem cE0 (t2:o6)(e2:o4)(b2:L0)(c:A5)(i:W4):(aE3 t2 e2 b2 c i).m=Pv.aE3 t2 e2 b2 c i:=by
 simp only[aE3,Pv.aE3,CG.of,M.run,bso,cs2,bK9,bg6,bM0,bO5,bM1,by8,bG4,br8]<;>kernel_rfl
theorem dj0 (n2:Int):(aU8 n2).m=Pv.aU8 n2:=by
 simp only[aU8,Pv.aU8,C.of,M.run]<;>kernel_rfl
theorem aQ5 (s:List Int):(O0 s).m=Pv.O0 s:=by
 simp only[O0,Pv.O0,C.of,M.run,U1.m,fh8]<;>kernel_rfl
theorem dh9:(bb0).m=Pv.bb0:=by
 simp only[bb0,Pv.bb0,C.of,M.run]<;>kernel_rfl
theorem bB5 (e2:o4):(ao6 e2).m=Pv.ao6 e2:=by
 simp only[ao6,Pv.ao6,C.of,M.run,dh9,ax3,aQ5,dj0]<;>kernel_rfl
theorem cD6 (t2:Int):(au6 t2).m=Pv.au6 t2:=by
 simp only[au6,Pv.au6,C.of,M.run]<;>kernel_rfl
theorem br6 (c:D8):(ai5 c).m=Pv.ai5 c:=by
 simp only[ai5,Pv.ai5,C.of,M.run,cD6]<;>kernel_rfl
theorem bn3 (s:List j5)(f2:Cl Tryz.prog j5 Bool (fun x=>[aZ9 x]) (fun r=>.t (tB r))):(Q7 s f2).m=Pv.Q7 s (fun x0=>f2.f x0):=by
 delta Pv.Q7 Pv.V0
 simp only[Q7,V0,C.of,M.run,L1.m,Cl.at,bY5,K5,M0]<;>kernel_rfl
theorem aH4 (s:List j5)(f2:Cl Tryz.prog j5 Bool (fun x=>[aZ9 x]) (fun r=>.t (tB r))):(G1 s f2).m=Pv.G1 s (fun x0=>f2.f x0):=by
 simp only[G1,Pv.G1,C.of,M.run,bn3]<;>kernel_rfl
theorem ct8 (c:j5)(c2:u0):(ao7 c c2).m=Pv.ao7 c c2:=by
 simp only[ao7,Pv.ao7,C.of,M.run]<;>kernel_rfl
theorem bs5 (t2:u0):(an6 t2).m=Pv.an6 t2:=by
 simp only[an6,Pv.an6,C.of,M.run,Cl.of,aH4,ct8]<;>kernel_rfl
theorem bB4 (x low high:Int):(M3 x low high).m=Pv.M3 x low high:=by
 simp only[M3,Pv.M3,C.of,M.run]<;>kernel_rfl
theorem bo5 (e2:o4)(f2:A0):(X2 e2 f2).m=Pv.X2 e2 f2:=by
 simp only[X2,Pv.X2,C.of,M.run,ax3,bB4,bb2]<;>kernel_rfl
theorem aV3 (s:List A0)(f2:Cl Tryz.prog A0 Bool (fun x=>[aO8 x]) (fun r=>.t (tB r))):(H2 s f2).m=Pv.H2 s (fun x0=>f2.f x0):=by
 delta Pv.H2 Pv.N6
 simp only[H2,N6,C.of,M.run,L1.m,Cl.at,bY5,K5,M0]<;>kernel_rfl
theorem aN0 (s:List A0)(f2:Cl Tryz.prog A0 Bool (fun x=>[aO8 x]) (fun r=>.t (tB r))):(E7 s f2).m=Pv.E7 s (fun x0=>f2.f x0):=by
 simp only[E7,Pv.E7,C.of,M.run,aV3]<;>kernel_rfl
theorem bP9 (g c:A0):(ae1 g c).m=Pv.ae1 g c:=by
 simp only[ae1,Pv.ae1,C.of,M.run]<;>kernel_rfl
theorem br9 (e2:o4)(l:List A0):(ab0 e2 l).m=Pv.ab0 e2 l:=by
 delta Pv.ab0 Pv.am1
 simp only[ab0,am1,C.of,M.run,L1.m,U1.m,Cl.of,bY5,K5,M0,bo5,bP9,aN0]<;>kernel_rfl
theorem aG4 (s:List A4)(f2:Cl Tryz.prog A4 Bool (fun x=>[bc4 x]) (fun r=>.t (tB r))):(C0 s f2).m=Pv.C0 s (fun x0=>f2.f x0):=by
 delta Pv.C0 Pv.O7
 simp only[C0,O7,C.of,M.run,L1.m,Cl.at,bY5,K5,M0]<;>kernel_rfl
theorem bp3 (s:List A4)(f2:Cl Tryz.prog A4 Bool (fun x=>[bc4 x]) (fun r=>.t (tB r))):(O6 s f2).m=Pv.O6 s (fun x0=>f2.f x0):=by
 simp only[O6,Pv.O6,C.of,M.run,aG4]<;>kernel_rfl
set_option maxHeartbeats 1000000
theorem ct4 (s:c8)(j:A4):(av3 s j).m=Pv.av3 s j:=by
 simp only[av3,Pv.av3,C.of,M.run,bg,bga]<;>kernel_rfl
theorem bP7 (j:A4)(c:c8):(X9 j c).m=Pv.X9 j c:=by
 simp only[X9,Pv.X9,C.of,M.run,ct4]<;>kernel_rfl
theorem ay4 (x:B4):(G9 x).m=Pv.G9 x:=by
 simp only[G9,Pv.G9,C.of,M.run]<;>kernel_rfl
theorem bL2 (kind:Int):(aq8 kind).m=Pv.aq8 kind:=by
 simp only[aq8,Pv.aq8,C.of,M.run]<;>kernel_rfl
theorem ck0 (s:c8)(c:Int):(aq7 s c).m=Pv.aq7 s c:=by
 delta Pv.aq7 Pv.Y2
 simp only[aq7,Y2,C.of,M.run,L1.m,bg,bga,bgo,bY5,ad3,aq5,ay4,bL2]<;>kernel_rfl
theorem at6 (s:c8):(J4 s).m=Pv.J4 s:=by
 delta Pv.J4 Pv.am0
 simp only[J4,am0,C.of,M.run,Cl.of,bg,bgo,bY5,K5,M0,br6,ax3,bP7,br9,ck0,bp3,bs5]<;>kernel_rfl
theorem bf9 (s:List A0):(T5 s).m=Pv.T5 s:=by
 simp only[T5,Pv.T5,C.of,M.run,U1.m,fh8]<;>kernel_rfl
theorem bQ0 (s:List A4):(aj1 s).m=Pv.aj1 s:=by
 simp only[aj1,Pv.aj1,CG.of,M.run,U1.m,fh8]<;>kernel_rfl
theorem ay1 (s:c8):(L2 s).m=Pv.L2 s:=by
 simp only[L2,Pv.L2,CG.of,M.run,bf9,bQ0]<;>kernel_rfl
theorem cj9 (s:c8)(l:List A0):(aq6 s l).m=Pv.aq6 s l:=by
 simp only[aq6,Pv.aq6,C.of,M.run,CG.f,at6,ay1,br9,bf9]<;>kernel_rfl
theorem bM2 (x:j5):(ag0 x).m=Pv.ag0 x:=by
 simp only[ag0,Pv.ag0,C.of,M.run]<;>kernel_rfl
theorem bX6 (s:c8):(ac3 s).m=Pv.ac3 s:=by
 simp only[ac3,Pv.ac3,C.of,M.run,Cl.of,CG.f,bM2,at6,ay1,aH4]<;>kernel_rfl
theorem bd2 (t2:u0)(channel:Int):(ag5 t2 channel).m=Pv.ag5 t2 channel:=by
 simp only[ag5,Pv.ag5,CG.of,M.run,U1.m,bso,bs5]<;>kernel_rfl
theorem cM2 (t2:u0)(channel:Int)(level:Bool):(aG2 t2 channel level).m=Pv.aG2 t2 channel level:=by
 simp only[aG2,Pv.aG2,C.of,M.run,L1.m,U1.m,bso,bd2]<;>kernel_rfl
theorem cE9 (t2:u0)(channel:Int):(az0 t2 channel).m=Pv.az0 t2 channel:=by
 simp only[az0,Pv.az0,C.of,M.run,L1.m,U1.m,bd2]<;>kernel_rfl
theorem cc0 (j:A4)(c:Int):(as2 j c).m=Pv.as2 j c:=by
 simp only[as2,Pv.as2,C.of,M.run,ay4]<;>kernel_rfl
theorem ck2 (t2:u0)(channel aY6:Int)(level:Bool):(aJ5 t2 channel aY6 level).m=Pv.aJ5 t2 channel aY6 level:=by
 simp only[aJ5,Pv.aJ5,C.of,M.run,L1.m,U1.m,bd2]<;>kernel_rfl
theorem ct3 (s:c8):(ao5 s).m=Pv.ao5 s:=by
 delta Pv.ao5 Pv.ac2
 simp only[ao5,ac2,C.of,M.run,L1.m,U1.m,Cl.of,CG.f,bg,bga,bY5,K5,M0,elE,cc0,at6,ay1,aG4,ck2,cE9,cM2]<;>kernel_rfl
theorem cc2 (j:A4)(c:Int):(U8 j c).m=Pv.U8 j c:=by
 simp only[U8,Pv.U8,C.of,M.run,ay4]<;>kernel_rfl
theorem cE6 (a b2:Int):(ay7 a b2).m=Pv.ay7 a b2:=by
 simp only[ay7,Pv.ay7,C.of,M.run,L1.m]<;>kernel_rfl
theorem bB6 (s:c8):(ak2 s).m=Pv.ak2 s:=by
 delta Pv.ak2 Pv.U9
 simp only[ak2,U9,CG.of,M.run,L1.m,U1.m,Cl.of,bso,bY5,K5,M0,elE,cc2,bL2,cE6,aG4,ck2]<;>kernel_rfl
theorem cX2 (t2:u0):(aM6 t2).m=Pv.aM6 t2:=by
 delta Pv.aM6 Pv.aH1
 simp only[aM6,aH1,C.of,M.run,bg,bga,ad3,aq5,elE,bs5]<;>kernel_rfl
theorem bs2 (s:List j6)(f:Cl Tryz.prog (j6×j6) Int (fun x=>[aA1 x.1,aA1 x.2]) (fun r=>.t (tI r))):(X7 s f).m=Pv.X7 s (fun x0 x1=>f.f (x0,x1)):=rfl
theorem ba0 (x y:Int):(F3 x y).m=Pv.F3 x y:=by
 simp only[F3,Pv.F3,C.of,M.run,bB2]<;>kernel_rfl
theorem by6 (bw3:List Int):(af3 bw3).m=Pv.af3 bw3:=by
 delta Pv.af3 Pv.ao3
 simp only[af3,ao3,C.of,M.run,ad3,aq5]<;>kernel_rfl
theorem cc7 (a b2:j6):(W9 a b2).m=Pv.W9 a b2:=by
 simp only[W9,Pv.W9,C.of,M.run,ba0,by6]<;>kernel_rfl
theorem ct7 (t2:u0)(K1:Int):(ak3 t2 K1).m=Pv.ak3 t2 K1:=by
 delta Pv.ak3 Pv.au2
 simp only[ak3,au2,C.of,M.run,L1.m,U1.m,Cl.of,bY5,K5,M0,elE,bs2,cc7,bd2]<;>kernel_rfl
theorem bv5 (s:List A4)(del:Cl Tryz.prog A4 Bool (fun x=>[bc4 x]) (fun r=>.t (tB r))):(K6 s del).m=Pv.K6 s (fun x0=>del.f x0):=rfl
theorem bX7 (j:A4)(c:Int):(an4 j c).m=Pv.an4 j c:=by
 simp only[an4,Pv.an4,C.of,M.run]<;>kernel_rfl
theorem bx1 (s:c8)(K1:Int):(ab1 s K1).m=Pv.ab1 s K1:=by
 delta Pv.ab1 Pv.Y1
 simp only[ab1,Y1,CG.of,M.run,U1.m,Cl.of,bso,bY5,elE,bB6,bX7,bv5,ct7,cX2]<;>kernel_rfl
theorem bl1 (s:c8)(K1:Int):(S9 s K1).m=Pv.S9 s K1:=by
 simp only[S9,Pv.S9,C.of,M.run,at6,ay1,bx1]<;>kernel_rfl
theorem ci7 (a b2:Int):(ab7 a b2).m=Pv.ab7 a b2:=by
 simp only[ab7,Pv.ab7,C.of,M.run,L1.m]<;>kernel_rfl
theorem ba1 (bK5 K1:Int):(Q5 bK5 K1).m=Pv.Q5 bK5 K1:=by
 simp only[Q5,Pv.Q5,C.of,M.run,ci7,bL0]<;>kernel_rfl
theorem cK6 (c:D8):(aK1 c).m=Pv.aK1 c:=by
 simp only[aK1,Pv.aK1,C.of,M.run,br6]<;>kernel_rfl
theorem dq5 (a b2:Int):(bk9 a b2).m=Pv.bk9 a b2:=by
 simp only[bk9,Pv.bk9,C.of,M.run,bp0]<;>kernel_rfl
theorem cK5 (c:D8)(bU6:Int):(aE2 c bU6).m=Pv.aE2 c bU6:=by
 simp only[aE2,Pv.aE2,C.of,M.run,cK6,dq5]<;>kernel_rfl
theorem bB3 (e2:o4)(aB8:Int):(ak0 e2 aB8).m=Pv.ak0 e2 aB8:=by
 simp only[ak0,Pv.ak0,C.of,M.run,L1.m,bl2]<;>kernel_rfl
theorem cs5 (e2:o4)(aB8:Int):(av0 e2 aB8).m=Pv.av0 e2 aB8:=by
 simp only[av0,Pv.av0,C.of,M.run,ax3,bB3]<;>kernel_rfl
theorem bP8 (f2:A0)(c:Int):(Y0 f2 c).m=Pv.Y0 f2 c:=by
 simp only[Y0,Pv.Y0,C.of,M.run]<;>kernel_rfl
theorem cs6 (f2:A0)(c:o4):(ao4 f2 c).m=Pv.ao4 f2 c:=by
 simp only[ao4,Pv.ao4,C.of,M.run,bo5]<;>kernel_rfl
theorem cs7 (g c:A0):(av1 g c).m=Pv.av1 g c:=by
 simp only[av1,Pv.av1,C.of,M.run]<;>kernel_rfl
theorem cs8 (aY6 kind bS6:Int)(c:List B4)(c2:A0):(O4 aY6 kind bS6 c c2).m=Pv.O4 aY6 kind bS6 c c2:=by
 simp only[O4,Pv.O4,CG.of,M.run,U1.m,bso,bY5,ci7]<;>kernel_rfl
theorem cs9 (d c:Int):(J9 d c).m=Pv.J9 d c:=by
 simp only[J9,Pv.J9,C.of,M.run,L1.m]<;>kernel_rfl
theorem ct0 (f2:A0):(aj9 f2).m=Pv.aj9 f2:=by
 simp only[aj9,Pv.aj9,C.of,M.run]<;>kernel_rfl
theorem bv8 (s:List B4)(f:Cl Tryz.prog (B4×B4) Int (fun x=>[aW7 x.1,aW7 x.2]) (fun r=>.t (tI r))):(aa2 s f).m=Pv.aa2 s (fun x0 x1=>f.f (x0,x1)):=rfl
set_option maxHeartbeats 1000000
theorem cE1 (a b2:B4):(ak8 a b2).m=Pv.ak8 a b2:=by
 simp only[ak8,Pv.ak8,C.of,M.run,ba0,by6]<;>kernel_rfl
theorem cK8 (e2:o4)(l:List A0)(M1:Int):(aE6 e2 l M1).m=Pv.aE6 e2 l M1:=by
 delta Pv.aE6 Pv.aC1 Pv.aw0
 simp only[aE6,aC1,aw0,C.of,M.run,L1.m,U1.m,Cl.of,bso,bY5,ad3,K5,aq5,M0,cs6,cs7,cs8,cs9,ct0,ax3,bB3,cE1,bB4,aN0,bv8]<;>kernel_rfl
theorem aD8 (data:List a7)(a b2:Int)(cmp:Cl Tryz.prog (a7×a7) Int (fun x=>[A6 x.1,A6 x.2]) (fun r=>.t (tI r))):(A9 data a b2 cmp).m=Pv.A9 data a b2 (fun x0 x1=>cmp.f (x0,x1)):=by
 delta Pv.A9 Pv.B8 Pv.B0
 simp only[A9,B8,B0,CG.of,M.run,L1.m,U1.m,Cl.at,bso,bY5,elE]<;>kernel_rfl
theorem aJ8 (data:List a7)(a m2 b2:Int)(cmp:Cl Tryz.prog (a7×a7) Int (fun x=>[A6 x.1,A6 x.2]) (fun r=>.t (tI r))):(H8 data a m2 b2 cmp).m=Pv.H8 64 data a m2 b2 (fun x0 x1=>cmp.f (x0,x1)):=rfl
theorem aN2 (data:List a7)(n2:Int)(cmp:Cl Tryz.prog (a7×a7) Int (fun x=>[A6 x.1,A6 x.2]) (fun r=>.t (tI r))):(G8 data n2 cmp).m=Pv.G8 data n2 (fun x0 x1=>cmp.f (x0,x1)):=by
 delta Pv.G8 Pv.J5 Pv.N0 Pv.J6
 simp only[G8,J5,N0,J6,CG.of,M.run,elE,aD8,aJ8]<;>kernel_rfl
theorem aJ7 (x:List a7)(cmp:Cl Tryz.prog (a7×a7) Int (fun x=>[A6 x.1,A6 x.2]) (fun r=>.t (tI r))):(C8 x cmp).m=Pv.C8 x (fun x0 x1=>cmp.f (x0,x1)):=by
 simp only[C8,Pv.C8,CG.of,M.run,aN2]<;>kernel_rfl
theorem bX8 (a b2:a7):(ac4 a b2).m=Pv.ac4 a b2:=by
 simp only[ac4,Pv.ac4,C.of,M.run,ba0,by6,ay4]<;>kernel_rfl
theorem ck1 (e2:o4)(f2:A0)(begin M1:Int):(aq9 e2 f2 begin M1).m=Pv.aq9 e2 f2 begin M1:=by
 delta Pv.aq9 Pv.aj0 Pv.V3 Pv.T0
 simp only[aq9,aj0,V3,T0,C.of,M.run,L1.m,U1.m,Cl.of,bso,bY5,ad3,aq5,elE,ba1,cK8,bX8,aJ7]<;>kernel_rfl
theorem cc3 (s:c8):(ah1 s).m=Pv.ah1 s:=by
 delta Pv.ah1 Pv.ag2 Pv.ag1
 simp only[ah1,ag2,ag1,CG.of,M.run,L1.m,U1.m,Cl.of,bso,bY5,ad3,aq5,elE,cK5,cs5,ba1,bP8,ck1,aV3]<;>kernel_rfl
theorem cc1 (s:c8)(c:D8):(al3 s c).m=Pv.al3 s c:=by
 delta Pv.al3 Pv.aa0
 simp only[al3,aa0,C.of,M.run,L1.m,U1.m,bso,bY5,K5,M0,elE,br6,ba1,at6,bB6,cc3,ay1,bx1]<;>kernel_rfl
theorem bp4 (s:List u7)(f2:Cl Tryz.prog u7 Bool (fun x=>[aN9 x]) (fun r=>.t (tB r))):(S3 s f2).m=Pv.S3 s (fun x0=>f2.f x0):=by
 delta Pv.S3 Pv.W0
 simp only[S3,W0,C.of,M.run,L1.m,Cl.at,bY5,K5,M0]<;>kernel_rfl
theorem aI3 (s:List u7)(f2:Cl Tryz.prog u7 Bool (fun x=>[aN9 x]) (fun r=>.t (tB r))):(I1 s f2).m=Pv.I1 s (fun x0=>f2.f x0):=by
 simp only[I1,Pv.I1,C.of,M.run,bp4]<;>kernel_rfl
theorem aY8 (x low high:Int):(D4 x low high).m=Pv.D4 x low high:=by
 simp only[D4,Pv.D4,C.of,M.run]<;>kernel_rfl
theorem bO7 (c:u7):(ad6 c).m=Pv.ad6 c:=by
 simp only[ad6,Pv.ad6,C.of,M.run,aY8]<;>kernel_rfl
theorem bP0 (c:u7):(an2 c).m=Pv.an2 c:=by
 simp only[an2,Pv.an2,C.of,M.run,bO7]<;>kernel_rfl
theorem bO8 (l:List u7):(am9 l).m=Pv.am9 l:=by
 delta Pv.am9 Pv.aC4
 simp only[am9,aC4,C.of,M.run,ad3,aq5]<;>kernel_rfl
theorem bB7 (s:List u7):(Z3 s).m=Pv.Z3 s:=by
 simp only[Z3,Pv.Z3,C.of,M.run,U1.m,fh8]<;>kernel_rfl
theorem bp1 (l:List u7):(aA6 l).m=Pv.aA6 l:=by
 simp only[aA6,Pv.aA6,C.of,M.run,Cl.of,bO8,bP0,bB7,aI3]<;>kernel_rfl
theorem cL2 (x:Int):(aR1 x).m=Pv.aR1 x:=by
 simp only[aR1,Pv.aR1,C.of,M.run,aY8]<;>kernel_rfl
theorem ct1 (x:Int):(az4 x).m=Pv.az4 x:=by
 simp only[az4,Pv.az4,C.of,M.run,cL2]<;>kernel_rfl
theorem bO9 (c:u7)(l:List Int):(ar9 c l).m=Pv.ar9 c l:=by
 simp only[ar9,Pv.ar9,C.of,M.run,Cl.of,ct1,J3]<;>kernel_rfl
theorem cj0 (f2:A2)(bits:Int):(X3 f2 bits).m=Pv.X3 f2 bits:=by
 simp only[X3,Pv.X3,C.of,M.run]<;>kernel_rfl
theorem cL0 (f2:A2):(aK4 f2).m=Pv.aK4 f2:=by
 simp only[aK4,Pv.aK4,C.of,M.run]<;>kernel_rfl
theorem cL1 (c:u7)(f2:A2)(E3:Int):(aE8 c f2 E3).m=Pv.aE8 c f2 E3:=by
 simp only[aE8,Pv.aE8,C.of,M.run,bO9,cj0,cL0,aY8]<;>kernel_rfl
theorem bd1 (f2:B5):(Z0 f2).m=Pv.Z0 f2:=by
 delta Pv.Z0 Pv.aC3
 simp only[Z0,aC3,C.of,M.run,L1.m,Cl.of,bg,bgo,bY5,K5,M0,bO8,cL1,aY8,bP0,aI3]<;>kernel_rfl
theorem bG7 (s:List A2):(ac8 s).m=Pv.ac8 s:=by
 simp only[ac8,Pv.ac8,CG.of,M.run,U1.m,fh8]<;>kernel_rfl
theorem bL1 (f2:B5):(ak9 f2).m=Pv.ak9 f2:=by
 delta Pv.ak9 Pv.ax5
 simp only[ak9,ax5,CG.of,M.run,L1.m,U1.m,bso,bY5,K5,M0,elE,bG7,aQ5]<;>kernel_rfl
theorem bO6 (f2:B5):(aw1 f2).m=Pv.aw1 f2:=by
 delta Pv.aw1 Pv.aC2
 simp only[aw1,aC2,C.of,M.run,L1.m,U1.m,bso,bY5,K5,M0,elE,bd1,bL1]<;>kernel_rfl
theorem cK9 (l:List A2)(i:Int)(c:u7)(E3:Int)(frame:List Int):(aE7 l i c E3 frame).m=Pv.aE7 l i c E3 frame:=by
 simp only[aE7,Pv.aE7,CG.of,M.run,U1.m,cj0,aQ5]<;>kernel_rfl
theorem cE2 (f2:B5)(i:Int)(bad:Bool)(l:List Int):(ap8 f2 i bad l).m=Pv.ap8 f2 i bad l:=by
 simp only[ap8,Pv.ap8,C.of,M.run,L1.m,U1.m,bso,bY5,bd1,bL1,cK9,bO9]
 refine da3 fun v _=>dM5 rfl (dM5 rfl (dM5 rfl (da3 fun x _=>da3 fun v2 _=>dM5 rfl (da3 fun v3 _=>da3 fun y hy=>da3 fun f3 _=>?_))))
 simp only[hy,bso]
theorem bx0 (x low high:Int):(M8 x low high).m=Pv.M8 x low high:=by
 simp only[M8,Pv.M8,C.of,M.run]<;>kernel_rfl
theorem bG6 (r2:j2):(U3 r2).m=Pv.U3 r2:=by
 simp only[U3,Pv.U3,C.of,M.run,bg5]<;>kernel_rfl
theorem cj6 (bn1:List Int)(x:Int):(af8 bn1 x).m=Pv.af8 bn1 x:=by
 delta Pv.af8 Pv.aq4 Pv.ad9
 simp only[af8,aq4,ad9,C.of,M.run,L1.m,bY5,K5,M0,elE]<;>kernel_rfl
theorem bw9 (m2:SMap)(x y:Int):(X5 m2 x y).m=Pv.X5 m2 x y:=by
 simp only[X5,Pv.X5,C.of,M.run,L1.m,cj6]<;>kernel_rfl
theorem cj7 (r2:j2):(aw7 r2).m=Pv.aw7 r2:=by
 simp only[aw7,Pv.aw7,C.of,M.run]<;>kernel_rfl
theorem bP5 (t2:o6)(be9 o7:Int)(l:List j2):(ad8 t2 be9 o7 l).m=Pv.ad8 t2 be9 o7 l:=by
 delta Pv.ad8 Pv.af6 Pv.af7
 simp only[ad8,af6,af7,C.of,M.run,Cl.of,bY5,ad3,aq5,elE,bG6,bw9,cj7,bx0,as5,am5]<;>kernel_rfl
theorem bw8 (t2:o6)(o7 w9:Int)(l:List A0):(aw6 t2 o7 w9 l).m=Pv.aw6 t2 o7 w9 l:=by
 delta Pv.aw6 Pv.aq3
 simp only[aw6,aq3,C.of,M.run,L1.m,ad3,aq5,elE,bw9,bx0,am5]<;>kernel_rfl
theorem cL3 (t2:o6)(M1 B7:Int):(az6 t2 M1 B7).m=Pv.az6 t2 M1 B7:=by
 simp only[az6,Pv.az6,C.of,M.run,cj2]<;>kernel_rfl
end Go.Proofs.YtmhdghdbojdgfaaGreat
namespace Go.Pv
open Go
def ai0 {α:Type}(a:Int)(cmp:α->α->Option Int)(s2:Int×List α):Option ((Int×List α)⊕((Int×List α)⊕Empty)):=
 ai2 (bif (decide (s2.1>a))then(ai2 (C9 s2.2 s2.1) fun x=>ai2 (C9 s2.2 (j7 (s2.1-1))) fun x2=>ai2 (cmp x x2) fun v=>some (decide (v<0)))else(some false)) fun(v2:Bool)=>bif v2 then(ai2 (ai2 (C9 s2.2 (j7 (s2.1-1))) fun x3=>ai2 (C9 s2.2 s2.1) fun x4=>ai2 (aj2 s2.2 s2.1 x3) fun l=>ai2 (C9 l (j7 (s2.1-1))) fun _=>ai2 (aj2 l (j7 (s2.1-1)) x4) fun l2=>some l2) fun(f2:List α)=>some (.inl (j7 (s2.1-1),f2)))else(some (.inr (.inl (s2.1,s2.2))))
def Z4 {α:Type}(a:Int)(b2:Int)(cmp:α->α->Option Int)(s:Int×List α):Option ((Int×List α)⊕((Int×List α)⊕Empty)):=
 bif (decide (s.1<b2))then(ai2 (J7 (ai0 a cmp) (s.1,s.2)) fun(t:(Int×List α)⊕Empty)=>match t with| .inl s3=>(some (.inl (j7 (s.1+1),s3.2)))| .inr r=>r.elim)else(some (.inr (.inl (s.1,s.2))))
def ah5 {α:Type}(data:List α)(a:Int)(b2:Int)(cmp:α->α->Option Int):Option (List α):=
 ai2 (J7 (Z4 a b2 cmp) (j7 (a+1),data)) fun(t:(Int×List α)⊕Empty)=>match t with| .inl s4=>(some s4.2)| .inr r=>r.elim
def bM5 {α:Type}(a:Int)(b2:Int)(n2:Int)(s:Int×List α):Option ((Int×List α)⊕((Int×List α)⊕Empty)):=
 bif (decide (s.1<n2))then(ai2 (ai2 (C9 s.2 (j7 (b2+s.1))) fun x=>ai2 (C9 s.2 (j7 (a+s.1))) fun x2=>ai2 (aj2 s.2 (j7 (a+s.1)) x) fun l=>ai2 (C9 l (j7 (b2+s.1))) fun _=>ai2 (aj2 l (j7 (b2+s.1)) x2) fun l2=>some l2) fun(f2:List α)=>some (.inl (j7 (s.1+1),f2)))else(some (.inr (.inl (s.1,s.2))))
def ba5 {α:Type}(data:List α)(a:Int)(b2:Int)(n2:Int)(_:α->α->Option Int):Option (List α):=
 ai2 (J7 (bM5 a b2 n2) (0,data)) fun(t:(Int×List α)⊕Empty)=>match t with| .inl s2=>(some s2.2)| .inr r=>r.elim
def ce0 {α:Type}(m2:Int)(cmp:α->α->Option Int)(s:Int×Int×List α):Option ((Int×Int×List α)⊕((Int×Int×List α)⊕Empty)):=
 bif (s.1 !=s.2.1)then(bif (decide (s.1>s.2.1))then(ai2 (ba5 s.2.2 (j7 (m2-s.1)) m2 s.2.1 cmp) fun v=>some (.inl (j7 (s.1-s.2.1),s.2.1,v)))else(ai2 (ba5 s.2.2 (j7 (m2-s.1)) (j7 ((j7 (m2+s.2.1))-s.1)) s.1 cmp) fun v2=>some (.inl (s.1,j7 (s.2.1-s.1),v2))))else(some (.inr (.inl (s.1,s.2.1,s.2.2))))
def cF3 {α:Type}(data:List α)(a:Int)(m2:Int)(b2:Int)(cmp:α->α->Option Int):Option (List α):=
 ai2 (J7 (ce0 m2 cmp) (j7 (m2-a),j7 (b2-m2),data)) fun(t:(Int×Int×List α)⊕Empty)=>match t with| .inl s2=>(ai2 (ba5 s2.2.2 (j7 (m2-s2.1)) m2 s2.1 cmp) fun v3=>some v3)| .inr r=>r.elim
def bR1 {α:Type}(data:List α)(a:Int)(cmp:α->α->Option Int)(s:Int×Int):Option ((Int×Int)⊕((Int×Int)⊕Empty)):=
 bif (decide (s.1<s.2))then(ai2 (C9 data (j7 (D0 .u64 (aW6.wrap (j7 (s.1+s.2))) 1))) fun x=>ai2 (C9 data a) fun x2=>ai2 (cmp x x2) fun v=>bif (decide (v<0))then(some (.inl (j7 ((j7 (D0 .u64 (aW6.wrap (j7 (s.1+s.2))) 1))+1),s.2)))else(some (.inl (s.1,j7 (D0 .u64 (aW6.wrap (j7 (s.1+s.2))) 1)))))else(some (.inr (.inl (s.1,s.2))))
def bR2 {α:Type}(s2:Int×Int)(s3:Int×List α):Option ((Int×List α)⊕((Int×List α)⊕Empty)):=
 bif (decide (s3.1<(j7 (s2.1-1))))then(ai2 (ai2 (C9 s3.2 (j7 (s3.1+1))) fun x3=>ai2 (C9 s3.2 s3.1) fun x4=>ai2 (aj2 s3.2 s3.1 x3) fun l=>ai2 (C9 l (j7 (s3.1+1))) fun _=>ai2 (aj2 l (j7 (s3.1+1)) x4) fun l2=>some l2) fun(f2:List α)=>some (.inl (j7 (s3.1+1),f2)))else(some (.inr (.inl (s3.1,s3.2))))
def bR3 {α:Type}(data:List α)(m2:Int)(cmp:α->α->Option Int)(s5:Int×Int):Option ((Int×Int)⊕((Int×Int)⊕Empty)):=
 bif (decide (s5.1<s5.2))then(ai2 (C9 data m2) fun x6=>ai2 (C9 data (j7 (D0 .u64 (aW6.wrap (j7 (s5.1+s5.2))) 1))) fun x7=>ai2 (cmp x6 x7) fun v2=>bif (!(decide (v2<0)))then(some (.inl (j7 ((j7 (D0 .u64 (aW6.wrap (j7 (s5.1+s5.2))) 1))+1),s5.2)))else(some (.inl (s5.1,j7 (D0 .u64 (aW6.wrap (j7 (s5.1+s5.2))) 1)))))else(some (.inr (.inl (s5.1,s5.2))))
def bR4 {α:Type}(s6:Int×Int)(s7:Int×List α):Option ((Int×List α)⊕((Int×List α)⊕Empty)):=
 bif (decide (s7.1>s6.1))then(ai2 (ai2 (C9 s7.2 (j7 (s7.1-1))) fun x8=>ai2 (C9 s7.2 s7.1) fun x9=>ai2 (aj2 s7.2 s7.1 x8) fun l3=>ai2 (C9 l3 (j7 (s7.1-1))) fun _=>ai2 (aj2 l3 (j7 (s7.1-1)) x9) fun l4=>some l4) fun(f3:List α)=>some (.inl (j7 (s7.1-1),f3)))else(some (.inr (.inl (s7.1,s7.2))))
def bR5 {α:Type}(data:List α)(a:Int)(m2:Int)(b2:Int)(cmp:α->α->Option Int)(s10:Int×Int):Option ((Int×Int)⊕((Int×Int)⊕Empty)):=
 bif (decide (s10.1<s10.2))then(ai2 (C9 data (j7 ((j7 ((j7 ((j7 (D0 .u64 (aW6.wrap (j7 (a+b2))) 1))+m2))-1))-(j7 (D0 .u64 (aW6.wrap (j7 (s10.1+s10.2))) 1))))) fun x11=>ai2 (C9 data (j7 (D0 .u64 (aW6.wrap (j7 (s10.1+s10.2))) 1))) fun x12=>ai2 (cmp x11 x12) fun v3=>bif (!(decide (v3<0)))then(some (.inl (j7 ((j7 (D0 .u64 (aW6.wrap (j7 (s10.1+s10.2))) 1))+1),s10.2)))else(some (.inl (s10.1,j7 (D0 .u64 (aW6.wrap (j7 (s10.1+s10.2))) 1)))))else(some (.inr (.inl (s10.1,s10.2))))
def bY1 {α:Type}(rc:List α->Int->Int->Int->(α->α->Option Int)->Option (List α))(data:List α)(a:Int)(m2:Int)(b2:Int)(cmp:α->α->Option Int):Option (List α):=
 bif ((j7 (m2-a))==1)then(ai2 (J7 (bR1 data a cmp) (m2,b2)) fun(t:(Int×Int)⊕Empty)=>match t with| .inl s2=>(ai2 (J7 (bR2 s2) (a,data)) fun(t:(Int×List α)⊕Empty)=>match t with| .inl s4=>(some s4.2)| .inr r=>r.elim)| .inr r=>r.elim)else(bif ((j7 (b2-m2))==1)then(ai2 (J7 (bR3 data m2 cmp) (a,m2)) fun(t:(Int×Int)⊕Empty)=>match t with| .inl s6=>(ai2 (J7 (bR4 s6) (m2,data)) fun(t:(Int×List α)⊕Empty)=>match t with| .inl s8=>(some s8.2)| .inr r=>r.elim)| .inr r=>r.elim)else(ai2 (bif (decide (m2>(j7 (D0 .u64 (aW6.wrap (j7 (a+b2))) 1))))then(some (j7 ((j7 ((j7 (D0 .u64 (aW6.wrap (j7 (a+b2))) 1))+m2))-b2),j7 (D0 .u64 (aW6.wrap (j7 (a+b2))) 1)))else(some (a,m2))) fun(s9:Int×Int)=>ai2 (J7 (bR5 data a m2 b2 cmp) (s9.1,s9.2)) fun(t:(Int×Int)⊕Empty)=>match t with| .inl s11=>(ai2 (bif ((decide (s11.1<m2))&&(decide (m2<(j7 ((j7 ((j7 (D0 .u64 (aW6.wrap (j7 (a+b2))) 1))+m2))-s11.1)))))then(ai2 (cF3 data s11.1 m2 (j7 ((j7 ((j7 (D0 .u64 (aW6.wrap (j7 (a+b2))) 1))+m2))-s11.1)) cmp) fun v4=>some v4)else(some data)) fun(f4:List α)=>ai2 (bif ((decide (a<s11.1))&&(decide (s11.1<(j7 (D0 .u64 (aW6.wrap (j7 (a+b2))) 1)))))then(ai2 (rc f4 a s11.1 (j7 (D0 .u64 (aW6.wrap (j7 (a+b2))) 1)) cmp) fun v5=>some v5)else(some f4)) fun(f5:List α)=>bif ((decide ((j7 (D0 .u64 (aW6.wrap (j7 (a+b2))) 1))<(j7 ((j7 ((j7 (D0 .u64 (aW6.wrap (j7 (a+b2))) 1))+m2))-s11.1))))&&(decide ((j7 ((j7 ((j7 (D0 .u64 (aW6.wrap (j7 (a+b2))) 1))+m2))-s11.1))<b2)))then(ai2 (rc f5 (j7 (D0 .u64 (aW6.wrap (j7 (a+b2))) 1)) (j7 ((j7 ((j7 (D0 .u64 (aW6.wrap (j7 (a+b2))) 1))+m2))-s11.1)) b2 cmp) fun v6=>some v6)else(some f5))| .inr r=>r.elim))
def be1 {α:Type}:Nat->List α->Int->Int->Int->(α->α->Option Int)->Option (List α)
 |0=>fun _ _ _ _ _=>none
 |fu+1=>bY1 (be1 fu)
def ba3 {α:Type}(n2:Int)(cmp:α->α->Option Int)(s:Int×Int×List α):Option ((Int×Int×List α)⊕((Int×Int×List α)⊕Empty)):=
 bif (decide (s.2.1<=n2))then(ai2 (ah5 s.2.2 s.1 s.2.1 cmp) fun v=>some (.inl (s.2.1,j7 (s.2.1+20),v)))else(some (.inr (.inl (s.1,s.2.1,s.2.2))))
def ce1 {α:Type}(n2:Int)(cmp:α->α->Option Int)(s3:Int×List α)(s4:Int×Int×List α):Option ((Int×Int×List α)⊕((Int×Int×List α)⊕Empty)):=
 bif (decide (s4.2.1<=n2))then(ai2 (be1 64 s4.2.2 s4.1 (j7 (s4.1+s3.1)) s4.2.1 cmp) fun v3=>some (.inl (s4.2.1,j7 (s4.2.1+(j7 (2*s3.1))),v3)))else(some (.inr (.inl (s4.1,s4.2.1,s4.2.2))))
def ba4 {α:Type}(n2:Int)(cmp:α->α->Option Int)(s3:Int×List α):Option ((Int×List α)⊕((Int×List α)⊕Empty)):=
 bif (decide (s3.1<n2))then(ai2 (J7 (ce1 n2 cmp s3) (0,j7 (2*s3.1),s3.2)) fun(t:(Int×Int×List α)⊕Empty)=>match t with| .inl s5=>(bif (decide ((j7 (s5.1+s3.1))<n2))then(ai2 (be1 64 s5.2.2 s5.1 (j7 (s5.1+s3.1)) n2 cmp) fun v4=>some (.inl (j7 (s3.1*2),v4)))else(some (.inl (j7 (s3.1*2),s5.2.2))))| .inr r=>r.elim)else(some (.inr (.inl (s3.1,s3.2))))
def bn8 {α:Type}(data:List α)(n2:Int)(cmp:α->α->Option Int):Option (List α):=
 ai2 (J7 (ba3 n2 cmp) (0,20,data)) fun(t:(Int×Int×List α)⊕Empty)=>match t with| .inl s2=>(ai2 (ah5 s2.2.2 s2.1 n2 cmp) fun v2=>ai2 (J7 (ba4 n2 cmp) (20,v2)) fun(t:(Int×List α)⊕Empty)=>match t with| .inl s6=>(some s6.2)| .inr r=>r.elim)| .inr r=>r.elim
def aT9 {α:Type}(x:List α)(cmp:α->α->Option Int):Option (List α):=
 ai2 (bn8 x (x.length:Int) cmp) fun v=>some v
section
variable {α β:Type}
theorem bR6 (P:List α)(x:α)(R:List α){i:Int}(h:i=(P.length:Int)):C9 (P++x::R) i=some x:=by
 subst h;rw[T3,List.getElem?_append_right (cw4 _),Nat.sub_self];rfl
theorem dz5 (P:List α)(x y:α)(R:List α){i:Int}(h:i=(P.length:Int)):aj2 (P++x::R) i y=some (P++y::R):=by
 subst h;rw[T4 _ _ _ (by simp),List.set_append_right _ _ (cw4 _),Nat.sub_self];rfl
theorem fb9 (P:List α)(x y:α)(Q:List α){i j:Int}(hi:i=(P.length:Int))(hj:j=(P.length:Int)+1)(k:List α->Option β):
  (ai2 (ai2 (C9 (P++x::y::Q) i) fun u=>ai2 (C9 (P++x::y::Q) j) fun v=>ai2 (aj2 (P++x::y::Q) j u) fun l=>ai2 (C9 l i) fun _=>ai2 (aj2 l i v) fun l2=>some l2) k)=k (P++y::x::Q):=by
 have e:∀z w:α,P++z::w::Q=(P++[z])++w::Q:=fun z w=>by simp
 have hj2:∀z:α,j=((P++[z]).length:Int):=fun z=>by rw[aZ7,cr0];omega
 have g1:C9 (P++x::y::Q) j=some y:=by rw[e];exact bR6 _ _ _ (hj2 x)
 have s1:aj2 (P++x::y::Q) j x=some (P++x::x::Q):=by rw[e,e];exact dz5 _ _ _ _ (hj2 x)
 rw[bR6 _ _ _ hi,aD6,g1,aD6,s1,aD6,bR6 _ _ _ hi,aD6,dz5 _ _ _ _ hi]
 rfl
end
section
variable {α:Type} {D:α -> Prop} {g:α -> α -> Option Int}
structure SW (D:α->Prop)(g:α->α->Option Int):Prop where
 ans:∀x y,D x->D y->∃c,g x y=some c
 asym:∀x y,D x->D y->ltM g x y=true->ltM g y x=false
 ntrans:∀x y z,D x->D y->D z->ltM g x y=false->ltM g y z=false->ltM g x z=false
theorem SW.cmp (h:SW D g){x y:α}(hx:D x)(hy:D y):∃c,g x y=some c/\decide (c<0)=ltM g x y:=by
 obtain⟨c,hc⟩:=h.ans x y hx hy
 exact⟨c,hc,by unfold ltM;rw[hc];rfl⟩
abbrev bL8 (D:α->Prop)(l:List α):Prop:=∀x∈l,D x
def eqv (g:α->α->Option Int)(x y:α):Bool:=!ltM g x y&& !ltM g y x
structure Sta (D:α->Prop)(g:α->α->Option Int)(l r:List α):Prop where
 perm:r.Perm l
 same:∀x,D x->r.filter (eqv g x)=l.filter (eqv g x)
abbrev Srt (g:α->α->Option Int)(l:List α):Prop:=l.Pairwise fun x y=>ltM g y x=false
theorem Sta.refl (l:List α):Sta D g l l:=⟨.refl _,fun _ _=>rfl⟩
theorem Sta.trans {l r s:List α}(h:Sta D g l r)(k:Sta D g r s):Sta D g l s:=⟨k.perm.trans h.perm,fun x hx=>(k.same x hx).trans (h.same x hx)⟩
theorem Sta.app {A A' B B':List α}(h:Sta D g A A')(k:Sta D g B B'):Sta D g (A++B) (A'++B'):=
 ⟨h.perm.append k.perm,fun x hx=>by rw[dJ7,dJ7,h.same x hx,k.same x hx]⟩
theorem Sta.len {l r:List α}(h:Sta D g l r):r.length=l.length:=h.perm.length_eq
theorem Sta.all {l r:List α}(h:Sta D g l r)(hl:bL8 D l):bL8 D r:=fun x hx=>hl x (h.perm.mem_iff.1 hx)
theorem Sta.swap (hs:SW D g){A B:List α}(hA:bL8 D A)(hB:bL8 D B)(h:∀a∈A,∀b∈B,ltM g b a=true):Sta D g (A++B) (B++A):=by
 refine⟨List.perm_append_comm,fun x hx=>?_⟩
 rw[dJ7,dJ7]
 by_cases he:∃a∈A,eqv g x a=true
 ·obtain⟨a,ha,hxa⟩:=he
  have:B.filter (eqv g x)=[]:=by
   rw[eA8]
   intro b hb hxb
   unfold eqv at hxa hxb
   simp only[aI9,ck7]at hxa hxb
   have:=hs.ntrans b x a (hB b hb) hx (hA a ha) hxb.2 hxa.1
   rw[h a ha b hb]at this
   cases this
  rw[this,cW3,dh6]
 ·have:A.filter (eqv g x)=[]:=by
   rw[eA8]
   intro a ha hxa
   exact he ⟨a,ha,hxa⟩
  rw[this,cW3,dh6]
theorem Srt.app {A B:List α}(hA:Srt g A)(hB:Srt g B)(h:∀a∈A,∀b∈B,ltM g b a=false):Srt g (A++B):=eU9.2 ⟨hA,hB,h⟩
theorem SW.irr (hs:SW D g){x:α}(hx:D x):ltM g x x=false:=by
 cases h:ltM g x x
 ·rfl
 ·have:=hs.asym x x hx hx h;rw[h]at this;cases this
theorem dX0 (hs:SW D g)(a:Int):∀(n:Nat) (R1:List α),R1.length=n->∀(P:List α) (x:α) (R2 Q:List α),a=(P.length:Int)->bL8 D R1->D x->bL8 D R2->Srt g (R1++R2)->(∀r∈R2,ltM g x r=true)->P.length+R1.length<=1073741824->
  ∃(j:Int) (R':List α),J7 (ai0 a g) ((P.length:Int)+(R1.length:Int),P++(R1++x::(R2++Q)))=some (.inl (j,P++(R'++Q)))/\Srt g R'/\Sta D g (R1++x::R2) R':=by
 intro n
 induction n with
 |zero=>
  intro R1 h1 P x R2 Q ha _ hx hR2 hsrt hlt hN
  have:R1=[]:=List.length_eq_zero_iff.1 h1
  subst this
  refine⟨(P.length:Int)+((0:Nat):Int),x::R2,D7 ?_,?_,Sta.refl _⟩
  ·unfold ai0
   simp only[cV7]
   rw[show decide ((P.length:Int)+((0:Nat):Int)>a)=false from fi2 (by omega)]
   rfl
  ·rw[Srt,ey0]
   exact⟨fun r hr=>hs.asym x r hx (hR2 r hr) (hlt r hr),by simpa using hsrt⟩
 |succ n ih=>
  intro R1 h1 P x R2 Q ha hR1 hx hR2 hsrt hlt hN
  have hne:R1≠[]:=by intro h;subst h;simp at h1
  obtain⟨S,y,rfl⟩:∃S y,R1=S++[y]:=⟨R1.dropLast,R1.getLast hne,(List.dropLast_concat_getLast hne).symm⟩
  rw[aZ7,cr0]at h1 hN
  have hy:D y:=hR1 y (by simp)
  have hS:bL8 D S:=fun z hz=>hR1 z (by simp[hz])
  obtain⟨c,hc,hcl⟩:=hs.cmp hx hy
  have e1:P++(S++[y]++x::(R2++Q))=(P++S)++y::x::(R2++Q):=by simp
  have e2:P++(S++[y]++x::(R2++Q))=(P++S++[y])++x::(R2++Q):=by simp
  have hj:(P.length:Int)+(((S++[y]).length:Nat):Int)=(P.length:Int)+(S.length:Int)+1:=by rw[aZ7,cr0];omega
  have hb:ai0 a g ((P.length:Int)+(((S++[y]).length:Nat):Int),P++(S++[y]++x::(R2++Q)))=some (bif ltM g x y then .inl ((P.length:Int)+(S.length:Int),P++(S++x::(y::R2++Q)))else .inr (.inl ((P.length:Int)+(S.length:Int)+1,P++(S++[y]++x::(R2++Q))))):=by
   unfold ai0
   simp only
   rw[hj,j4 (n:=(P.length:Int)+(S.length:Int)+1-1) (by omega) (by omega),show(P.length:Int)+(S.length:Int)+1-1=(P.length:Int)+(S.length:Int) by omega]
   rw[show decide ((P.length:Int)+(S.length:Int)+1>a)=true from fi1 (by omega)]
   have g1:C9 (P++(S++[y]++x::(R2++Q))) ((P.length:Int)+(S.length:Int)+1)=some x:=by rw[e2];exact bR6 _ _ _ (by simp only[aZ7,cr0];omega)
   have g2:C9 (P++(S++[y]++x::(R2++Q))) ((P.length:Int)+(S.length:Int))=some y:=by rw[e1];exact bR6 _ _ _ (by simp only[aZ7];omega)
   have sw:=fb9 (P++S) y x (R2++Q) (i:=(P.length:Int)+(S.length:Int)) (j:=(P.length:Int)+(S.length:Int)+1) (by simp only[aZ7];omega) (by simp only[aZ7];omega) (fun(f2:List α)=>some (Sum.inl ((P.length:Int)+(S.length:Int),f2):(Int×List α)⊕((Int×List α)⊕Empty)))
   rw[<-e1]at sw
   simp only[fi0]
   rw[sw,g1,aD6,g2,aD6,hc,aD6,hcl,aD6]
   cases ltM g x y
   ·rfl
   ·simp
  cases hxy:ltM g x y
  ·rw[hxy]at hb
   refine⟨(P.length:Int)+(S.length:Int)+1,S++[y]++x::R2,?_,?_,Sta.refl _⟩
   ·rw[D7 hb];simp
   ·have h2:=eU9.1 hsrt
    refine Srt.app h2.1 ?_ fun p hp q hq=>?_
    ·rw[Srt,ey0]
     exact⟨fun r hr=>hs.asym x r hx (hR2 r hr) (hlt r hr),h2.2.1⟩
    ·rcases cq9.1 hq with rfl|hq
     ·rcases do5.1 hp with hp|hp
      ·have h3:=(eU9.1 h2.1).2.2 p hp y (by simp)
       exact hs.ntrans q y p hx hy (hS p hp) hxy h3
      ·rw[List.mem_singleton]at hp;subst hp;exact hxy
     ·exact h2.2.2 p hp q hq
  ·rw[hxy]at hb
   rw[G6 hb]
   obtain⟨j,R',r1,r2,r3⟩:=ih S (by omega) P x (y::R2) Q ha hS hx (fun z hz=>by rcases cq9.1 hz with rfl|hz;exact hy;exact hR2 z hz) (by simpa using hsrt) (fun r hr=>by
    rcases cq9.1 hr with rfl|hr
    ·exact hxy
    ·exact hlt r hr) (by omega)
   refine⟨j,R',r1,r2,Sta.trans ?_ r3⟩
   have h4:Sta D g ([y]++[x]) ([x]++[y]):=Sta.swap hs (fun z hz=>by simp at hz;subst hz;exact hy) (fun z hz=>by simp at hz;subst hz;exact hx) (fun p hp q hq=>by simp at hp hq;subst hp;subst hq;exact hxy)
   have h5:=Sta.app (Sta.refl (D:=D) (g:=g) S) (Sta.app h4 (Sta.refl R2))
   simpa using h5
theorem dd7 (hs:SW D g)(a b:Int)(P Q:List α)(ha:a=(P.length:Int)):∀(T R:List α),b=(P.length:Int)+(R.length:Int)+(T.length:Int)->bL8 D R->bL8 D T->Srt g R->P.length+R.length+T.length<=1073741824->
  ∃R',J7 (Z4 a b g) ((P.length:Int)+(R.length:Int),P++(R++(T++Q)))=some (.inl (b,P++(R'++Q)))/\Srt g R'/\Sta D g (R++T) R'
 |[],R,hb,_,_,hR,_=>by
  refine⟨R,D7 ?_,hR,by rw[dh6];exact Sta.refl _⟩
  unfold Z4
  simp only[cV7]at hb
  simp only
  rw[show decide ((P.length:Int)+(R.length:Int)<b)=false from fi2 (by omega),show(P.length:Int)+(R.length:Int)=b by omega]
  simp
 |x::T,R,hb,dR,dT,hR,hN=>by
  simp only[bv4]at hb hN
  obtain⟨j,R1,r1,r2,r3⟩:=dX0 hs a R.length R rfl P x [] (T++Q) ha dR (dT x (bN8 ..)) (fun z hz=>by cases hz) (by rw[dh6];exact hR) (fun z hz=>by cases hz) (by omega)
  have hl:R1.length=R.length+1:=by have:=r3.len;simpa using this
  obtain⟨R',s1,s2,s3⟩:=dd7 hs a b P Q ha T R1 (by omega) (r3.all (fun z hz=>by
   rcases do5.1 hz with hz|hz
   ·exact dR z hz
   ·simp at hz;subst hz;exact dT z (by simp))) (fun z hz=>dT z (by simp[hz])) r2 (by omega)
  refine⟨R',?_,s2,Sta.trans ?_ s3⟩
  ·rw[<-s1]
   refine G6 ?_
   unfold Z4
   simp only
   rw[show decide ((P.length:Int)+(R.length:Int)<b)=true from fi1 (by omega),j4 (n:=(P.length:Int)+(R.length:Int)+1) (by omega) (by omega)]
   simp only[fi0]
   have e:P++(R++(x::T++Q))=P++(R++x::([]++(T++Q))):=by simp
   rw[e,r1]
   simp only[aD6]
   rw[hl,show(P.length:Int)+((R.length+1:Nat):Int)=(P.length:Int)+(R.length:Int)+1 by omega]
  ·have:=Sta.app r3 (Sta.refl (D:=D) (g:=g) T)
   simpa using this
theorem dk9 (hs:SW D g)(P A Q:List α){a b:Int}(ha:a=(P.length:Int))(hb:b=(P.length:Int)+(A.length:Int))(dA:bL8 D A)(hN:P.length+A.length<=1073741824):
  ∃R,ah5 (P++(A++Q)) a b g=some (P++(R++Q))/\Srt g R/\Sta D g A R:=by
 unfold ah5
 rw[j4 (n:=a+1) (by omega) (by omega)]
 cases A with
 |nil=>
  refine⟨[],?_,.nil,Sta.refl _⟩
  simp only[cV7]at hb
  have:Z4 a b g (a+1,P++([]++Q))=some (.inr (.inl (a+1,P++([]++Q)))):=by
   unfold Z4
   simp only
   rw[show decide (a+1<b)=false from fi2 (by omega)]
   rfl
  rw[D7 this];rfl
 |cons x T=>
  simp only[bv4]at hb hN
  obtain⟨R',s1,s2,s3⟩:=dd7 hs a b P Q ha T [x] (by simp only[cr0];omega) (fun z hz=>by simp at hz;subst hz;exact dA z (by simp)) (fun z hz=>dA z (by simp[hz])) (by simp) (by simp only[cr0];omega)
  refine⟨R',?_,s2,s3⟩
  simp only[cr0]at s1
  rw[show a+1=(P.length:Int)+((1:Nat):Int) by omega]
  have e:P++(x::T++Q)=P++([x]++(T++Q)):=by simp
  rw[e,s1]
  rfl
end
section
variable {α:Type} {D:α -> Prop} {g:α -> α -> Option Int}
end
section
variable {α:Type} {D:α -> Prop} {g:α -> α -> Option Int}
end
section
variable {α:Type} {D:α -> Prop} {g:α -> α -> Option Int}
structure fj4 (D:α->Prop)(g:α->α->Option Int)(bs:Nat)(L:List α)(Bs:List (List α))(T:List α):Prop where
 eq:L=Bs.flatten++T
 blk:∀B∈Bs,B.length=bs/\Srt g B
 rest:T.length<bs
theorem bW6 (hs:SW D g)(l:List α)(dl:bL8 D l)(h19:l.length<=19):∃r,aT9 l g=some r/\Srt g r/\Sta D g l r:=by
 obtain⟨R,r1,r2,r3⟩:=dk9 hs [] l [] (a:=0) (b:=(l.length:Int)) rfl (by simp) dl (by simp;omega)
 simp only[dh6,cW3]at r1
 unfold aT9 bn8
 have h1:decide ((20:Int)<=(l.length:Int))=false:=by simp;omega
 have h2:decide ((20:Int)<(l.length:Int))=false:=by simp;omega
 rw[D7 (b:=.inl (0,20,l)) (by unfold ba3;rw[h1];rfl)]
 simp only[aD6]
 rw[r1]
 simp only[aD6]
 rw[D7 (b:=.inl (20,R)) (by unfold ba4;rw[h2];rfl)]
 exact⟨R,rfl,r2,r3⟩
theorem dA0 (hs:SW D g):∀{r s:List α},bL8 D r->bL8 D s->Srt g r->Srt g s->(∀x,D x->r.filter (eqv g x)=s.filter (eqv g x))->r=s
 |[],[],_,_,_,_,_=>rfl
 |[],y::s,_,ds,_,_,h=>by
  have dy:=ds y (by simp)
  have:=h y dy
  rw[eK1,dZ1 (by unfold eqv;rw[hs.irr dy];rfl)]at this
  cases this
 |x::r,[],dr,_,_,_,h=>by
  have dx:=dr x (by simp)
  have:=h x dx
  rw[eK1,dZ1 (by unfold eqv;rw[hs.irr dx];rfl)]at this
  cases this
 |x::r,y::s,dr,ds,sr,ss,h=>by
  have dx:=dr x (by simp)
  have dy:=ds y (by simp)
  have exx:eqv g x x=true:=by unfold eqv;rw[hs.irr dx];rfl
  have eyy:eqv g y y=true:=by unfold eqv;rw[hs.irr dy];rfl
  rw[Srt,ey0]at sr ss
  have hx:=h x dx
  have hy:=h y dy
  have mx:x∈(y::s).filter (eqv g x):=by rw[<-hx,dZ1 exx];exact bN8 ..
  have my:y∈(x::r).filter (eqv g y):=by rw[hy,dZ1 eyy];exact bN8 ..
  have m1:=(dM7.1 mx).1
  have m2:=(dM7.1 my).1
  have exy:eqv g x y=true:=by
   have a1:ltM g x y=false:=by
    rcases cq9.1 m1 with e|m1
    ·rw[e];exact hs.irr dy
    ·exact ss.1 x m1
   have a2:ltM g y x=false:=by
    rcases cq9.1 m2 with e|m2
    ·rw[e];exact hs.irr dx
    ·exact sr.1 y m2
   unfold eqv;rw[a1,a2];rfl
  have hxy:x=y:=by
   rw[dZ1 exx,dZ1 exy]at hx
   exact(List.cons.inj hx).1
  subst hxy
  rw[dA0 hs (fun z hz=>dr z (by simp[hz])) (fun z hz=>ds z (by simp[hz])) sr.2 ss.2 fun z dz=>by
   have:=h z dz
   rw[ex5,ex5]at this
   split at this
   ·exact(List.cons.inj this).2
   ·exact this]
end
def elB (n:Int):Bool:=decide (n>= -1073741824)&&decide (n<=1073741824)
theorem cN8 (n:Int):ab5 n=some (elB n):=rfl
def axP (l:List Int)(i:Nat):Bool:=match l[i]?with
 |none=>false
 |some x=>elB x&&(i==0||(match l[i-1]?with|none=>false|some y=>decide (y<x)))
def axB (l:List Int):Bool:=!(decide ((l.length:Int)<2)||decide ((l.length:Int)>32))&&(ed4 0 l.length).all (axP l)
theorem ex0 (k:Nat)(h:k<1000000):j7 (((k+1:Nat):Int)-1)=(k:Int):=by rw[j4 (by omega) (by omega)];omega
theorem obs {α:Type}(o:Option α):(o.bind fun b=>some b)=o:=by cases o<;>rfl
theorem dU3 (l:List Int)(j:Nat)(hj:j<l.length)(hl:l.length<=32):
  (ai2 (C9 l j) fun x=>ai2 (ab5 x) fun v=>ai2 (bif (!v)then(some true)else(ai2 (bif (decide ((j:Int)>0))then(ai2 (C9 l (j7 (j-1))) fun x2=>some (decide (x<=x2)))else(some false)) fun b2=>some b2)) fun b3=>some b3)=some (!axP l j):=by
 rw[T3,aW5 hj]
 simp only[aD6,cN8]
 unfold axP
 rw[aW5 hj]
 simp only
 cases elB l[j]
 ·rfl
 ·simp only[aX3,fh8,cM4]
  cases j with
  |zero=>rfl
  |succ k=>
   have e:decide (((k+1:Nat):Int)>0)=true:=by rw[fi3];omega
   have hk:k<l.length:=by omega
   rw[e,ex0 k (by omega),T3,aW5 hk]
   simp only[fi0,aD6,fg7,aW5 hk,aH6]
   rw[dG1]
   simp
theorem dM3 (l:List Int):ar2 l=some (axB l):=by
 unfold ar2 axB
 cases h:(decide ((l.length:Int)<2)||decide ((l.length:Int)>32))
 ·have hl:l.length<=32:=by simp at h;omega
  have k:=bv0 (f:=ax8 l) (p:=axP l) (r:=false) l.length 0 (fun j _ hj=>by
   have s:=dU3 l j (by omega) hl
   unfold ax8
   rw[T3,aW5 (by omega)]at s|-
   simp only[aD6,cN8]at s|-
   simp only[obs]at s|-
   rw[s]
   cases axP l j<;>rfl)
  rw[al2 _ (by omega)]
  rw[show((0:Nat):Int)=0 from rfl]at k
  rw[k]
  cases(ed4 0 l.length).all (axP l)<;>rfl
 ·rfl
theorem ed2 (z:Int):ah2 z=some (!elB z):=rfl
theorem contains_eq (l:List Int)(hn:l.length<=9223372036854775807):o5 l ah2=some (l.any fun z=>!elB z):=
 ah7 l hn ah2 _ (fun y _=>ed2 y)
def aH8 (m:SMap)(x:List Int):Bool:=!((x.length:Int) !=(m.Y.length:Int))&& !(x.any fun z=>!elB z)
def bn9 (m:SMap):Bool:=axB m.X&&axB m.Y&& !((m.Z.length:Int) !=(m.X.length:Int))&&m.Z.all (aH8 m)
theorem cG9 {l:List Int}(h:axB l=true):2<=l.length/\l.length<=32:=by
 unfold axB at h
 simp at h
 omega
theorem an8 (m:SMap):I8 m=some (bn9 m):=by
 unfold I8 bn9
 rw[dM3,dM3]
 simp only[aD6]
 cases h1:axB m.X
 ·rfl
 ·cases h2:axB m.Y
  ·rfl
  ·have l1:=cG9 h1
   have l2:=cG9 h2
   simp only[aX3,fh8,aD6,ed0,eU6,cM4]
   cases h3:((m.Z.length:Int) !=(m.X.length:Int))
   ·have l3:m.Z.length=m.X.length:=by simp at h3;omega
    rw[K4 _ (by omega),bK2 (p:=aH8 m) (r:=false)]
    ·simp only[fh8,cJ0,cM4,aD6]
     cases m.Z.all (aH8 m)<;>rfl
    ·intro i y hy
     unfold aB1 aH8
     cases h4:((y.length:Int) !=(m.Y.length:Int))
     ·have l4:y.length=m.Y.length:=by simp at h4;omega
      rw[contains_eq y (by omega)]
      simp only[fh8,aD6,cJ0,cM4]
      cases(y.any fun z=>!elB z)<;>rfl
     ·rfl
   ·rfl
structure by4 (l:List Int):Prop where
 two:2<=l.length
 most:l.length<=32
 el:∀i (h:i<l.length),-1073741824<=l[i]/\l[i]<=1073741824
 asc:∀i (h:i+1<l.length),l[i]<l[i+1]
theorem cH0 {l:List Int}(h:axB l=true):by4 l:=by
 obtain⟨h2,h3⟩:=cG9 h
 unfold axB at h
 rw[aI9,bF0]at h
 have hp:∀i (hi:i<l.length),axP l i=true:=fun i hi=>h.2 i (by rw[eO7];exact⟨i,hi,by omega⟩)
 refine⟨h2,h3,fun i hi=>?_,fun i hi=>?_⟩
 ·have:=hp i hi
  unfold axP at this
  rw[aW5 hi]at this
  simp[elB]at this
  omega
 ·have:=hp (i+1) hi
  unfold axP at this
  rw[aW5 hi,fg7,aW5 (by omega:i<l.length)]at this
  simp at this
  exact this.2
theorem by4.lt {l:List Int}(h:by4 l):∀(j i:Nat) (hj:j<l.length) (hi:i<j),l[i]<l[j]
 |0,_,_,hi=>absurd hi (by omega)
 |j+1,i,hj,hi=>by
  rcases dc9 i j with h1|h1
  ·exact Int.lt_trans (h.lt j i (by omega) h1) (h.asc j hj)
  ·have:i=j:=by omega
   subst this
   exact h.asc i hj
theorem by4.le {l:List Int}(h:by4 l)(j i:Nat)(hj:j<l.length)(hi:i<=j):l[i]<=l[j]:=by
 rcases dc9 i j with h1|h1
 ·exact Int.le_of_lt (h.lt j i hj h1)
 ·have:i=j:=by omega
  subst this
  exact dv9 _
def lim (l:List Int)(x:Int):Int:=min (max x (l.headD 0)) (l.getLastD 0)
theorem bD2 (l:List Int)(h:0<l.length):l.headD 0=l[0]:=by cases l with
 |nil=>simp at h
 |cons a l=>rfl
theorem be2 (l:List Int)(h:0<l.length):l.getLastD 0=l[l.length-1]:=by
 cases l with
 |nil=>simp at h
 |cons a l=>rw[List.getLastD_cons,<-List.getLast_eq_getElem (List.cons_ne_nil a l),List.getLast_eq_getLastD]
theorem dH6 {l:List Int}(h:by4 l)(x:Int):l.headD 0<=lim l x/\lim l x<=l.getLastD 0:=by
 have h2:=h.two
 have:=h.le (l.length-1) 0 (by omega) (by omega)
 unfold lim
 rw[bD2 l (by omega),be2 l (by omega)]
 omega
def bk8 (l:List Int)(v:Int)(i:Nat):Prop:=∃h:i+1<l.length,l[i]<=v/\v<=l[i+1]/\(i+2=l.length\/v<l[i+1])
def nd (l:List Int)(i:Nat):Int:=l.getD i 0
def zz (m:SMap)(i j:Nat):Int:=(m.Z.getD i []).getD j 0
theorem N3 {l:List Int}{i:Nat}(h:i<l.length):nd l i=l[i]:=by unfold nd;rw[cZ0,aW5 h];rfl
theorem bU9 {m:SMap}{i j:Nat}(h:i<m.Z.length)(h2:j<m.Z[i].length):zz m i j=m.Z[i][j]:=by
 unfold zz
 have e:m.Z.getD i []=m.Z[i]:=by rw[cZ0,aW5 h];rfl
 rw[e,cZ0,aW5 h2];rfl
structure cZ4 (m:SMap):Prop where
 x:by4 m.X
 y:by4 m.Y
 zl:m.Z.length=m.X.length
 rl:∀i (h:i<m.Z.length),m.Z[i].length=m.Y.length
 el:∀i j,i<m.X.length->j<m.Y.length-> -1073741824<=zz m i j/\zz m i j<=1073741824
theorem bZ5 {m:SMap}(h:bn9 m=true):cZ4 m:=by
 unfold bn9 at h
 simp only[aI9,ck7,bF0]at h
 obtain⟨⟨⟨hx,hy⟩,hz⟩,hr⟩:=h
 have lz:m.Z.length=m.X.length:=by simp at hz;omega
 have len:∀r∈m.Z,r.length=m.Y.length/\∀z∈r,-1073741824<=z/\z<=1073741824:=by
  intro r hrm
  have:=hr r hrm
  unfold aH8 at this
  simp[elB]at this
  refine⟨by omega,fun z hz=>?_⟩
  have:=this.2 z hz
  omega
 refine⟨cH0 hx,cH0 hy,lz,fun i hi=>(len _ (bd9 hi)).1,fun i j hi hj=>?_⟩
 have hiz:i<m.Z.length:=by omega
 have:=len _ (bd9 hiz)
 have hj':j<m.Z[i].length:=by omega
 rw[bU9 hiz hj']
 exact this.2 _ (bd9 hj')
theorem dM2 {l:List Int}:axB l=true↔by4 l:=by
 refine⟨cH0,fun h=>?_⟩
 have h2:=h.two
 have h3:=h.most
 unfold axB
 rw[aI9,bF0]
 refine⟨by simp;omega,fun i hi=>?_⟩
 rw[eO7]at hi
 obtain⟨j,hj,rfl⟩:=hi
 have hj':0+1*j=j:=by omega
 rw[hj']
 unfold axP
 rw[aW5 hj]
 have e:=h.el j hj
 cases j with
 |zero=>simp[elB];omega
 |succ k=>
  have a:=h.asc k hj
  rw[fg7,aW5 (by omega:k<l.length)]
  simp[elB];omega
theorem bb1 {a b:Bool}(h:a=true↔b=true):a=b:=dG1.2 h
theorem ap4 (l:List Int)(hn:l.length<=9223372036854775807)(f:Int->Option Bool)(p:Int->Bool)(h:∀y∈l,f y=some (p y)):o5 l f=some (l.any p):=
 ah7 l hn f p h
theorem el1 (n:Int):aA5 n=some (!elB n):=by
 unfold aA5 elB
 rw[aH6,dG1]
 simp only[cI5,ck7,fc4,fi3,fi4]
 omega
theorem eh9 (l:List Int):aL4 l=some (axB l):=by
 unfold aL4
 cases h:(decide ((l.length:Int)<2)||decide ((l.length:Int)>32))
 ·have hl:2<=l.length/\l.length<=32:=by simp at h;omega
  rw[fh8,ap4 l (by omega) aA5 _ (fun y _=>el1 y)]
  simp only[aD6]
  cases hf:(l.any fun n=>!elB n)
  ·have cl8:∀i (hi:i<l.length),-1073741824<=l[i]/\l[i]<=1073741824:=fun i hi=>by
    rw[dC3]at hf
    have:=hf _ (bd9 hi)
    simp[elB]at this
    omega
   have e:j7 ((l.length:Int)-1)=((l.length-1:Nat):Int):=by rw[j4 (by omega) (by omega)];omega
   have k:=bv0 (f:=aG5 l) (p:=fun j=>decide (nd l j<nd l (j+1))) (r:=false) (l.length-1) 0 (fun j _ hj=>by
    unfold aG5
    rw[j4 (by omega) (by omega),show(j:Int)+1=((j+1:Nat):Int)from rfl,C5 l j (by omega),aD6,C5 l (j+1) (by omega),aD6,N3 (by omega),N3 (by omega)]
    by_cases q:l[j]<l[j+1]
    ·rw[fi1 q,fi2 (by omega)];rfl
    ·rw[fi2 q,fi1 (by omega)];rfl)
   rw[show((0:Nat):Int)=0 from rfl]at k
   rw[fh8,e,al2 _ (by omega),k]
   have:((ed4 0 (l.length-1)).all fun j=>decide (nd l j<nd l (j+1)))=axB l:=by
    apply bb1
    rw[dM2,bF0]
    constructor
    ·intro q
     refine⟨hl.1,hl.2,cl8,fun i hi=>?_⟩
     have:=q i (by rw[eO7];exact⟨i,by omega,by omega⟩)
     rw[fi3,N3 (by omega),N3 hi]at this
     exact this
    ·intro q i hi
     rw[eO7]at hi
     obtain⟨j,hj,rfl⟩:=hi
     rw[show 0+1*j=j by omega,fi3,N3 (by omega),N3 (by omega)]
     exact q.asc j (by omega)
   rw[this]
   cases axB l<;>rfl
  ·have:axB l=false:=by
    cases q:axB l
    ·rfl
    ·have:=(dM2.1 q).el
     rw[List.any_eq_true]at hf
     obtain⟨z,hz,hz2⟩:=hf
     obtain⟨i,hi,rfl⟩:=cY2.1 hz
     have:=this i hi
     simp[elB]at hz2
     omega
   rw[this]
   rfl
 ·unfold axB
  rw[h]
  rfl
def bv9 (c:P8):Bool:=((c.X.length:Int)==(c.Y.length:Int))&&axB c.X&& !(c.Y.any fun n=>!elB n)
theorem ap6 (c:P8):P0 c=some (bv9 c):=by
 unfold P0 bv9
 cases h:((c.X.length:Int)==(c.Y.length:Int))
 ·rfl
 ·rw[fi0,eh9]
  simp only[aD6,cM4]
  cases h2:axB c.X
  ·rfl
  ·have:=cG9 h2
   have hl:c.Y.length=c.X.length:=by simp at h;omega
   rw[fi0,ap4 c.Y (by omega) aA5 _ (fun y _=>el1 y)]
   rfl
structure dL7 (c:P8):Prop where
 x:by4 c.X
 yl:c.Y.length=c.X.length
 el:∀i,i<c.X.length-> -1073741824<=nd c.Y i/\nd c.Y i<=1073741824
theorem bl5 {c:P8}(h:bv9 c=true):dL7 c:=by
 unfold bv9 at h
 simp only[aI9,ck7,dC3]at h
 obtain⟨⟨h1,h2⟩,h3⟩:=h
 have hl:c.Y.length=c.X.length:=by simp at h1;omega
 refine⟨cH0 h2,hl,fun i hi=>?_⟩
 rw[N3 (by omega)]
 have:=h3 _ (bd9 (by omega:i<c.Y.length))
 simp[elB]at this
 omega
theorem cN4 {mb:Int->Option (Int⊕(Int⊕Bool))}(bad:Nat->Bool):∀(k:Nat),(∀i:Nat,i<k->mb ((i+1:Nat):Int)=some (bif bad i then .inr (.inr false)else .inl (i:Int)))->(∀i:Int,i<=0->mb i=some (.inr (.inl i)))->
  ∃t:Int⊕Bool,J7 mb (k:Int)=some t/\(match t with| .inl _=>∀i,i<k->bad i=false| .inr r=>r=false/\∃i,i<k/\bad i=true)
 |0,_,h0=>⟨.inl 0,D7 (h0 0 (dv9 _)),fun i hi=>absurd hi (by omega)⟩
 |k+1,h,h0=>by
  have h1:=h k (by omega)
  cases hb:bad k
  ·rw[hb]at h1
   obtain⟨t,a,b⟩:=cN4 bad k (fun i hi=>h i (by omega)) h0
   refine⟨t,by rw[G6 h1];exact a,?_⟩
   cases t with
   |inl i=>
    exact fun i hi=>by
     rcases dc9 i k with q|q
     ·exact b i q
     ·have:i=k:=by omega
      subst this;exact hb
   |inr r=>exact⟨b.1,b.2.imp fun i hi=>⟨by omega,hi.2⟩⟩
  ·rw[hb]at h1
   exact⟨.inr false,D7 h1,rfl,k,by omega,hb⟩
def cD2 (l:List Int):Bool:=(ed4 0 (l.length-1)).all fun j=>decide (nd l j<=nd l (j+1))
def cz8 (l:List Int):Bool:=(ed4 0 (l.length-1)).all fun j=>decide (nd l (j+1)<=nd l j)
theorem bi6 {n:Nat}{p:Nat->Bool}:(ed4 0 n).all p=true↔∀i,i<n->p i=true:=by
 rw[bF0]
 constructor
 ·exact fun h i hi=>h i (by rw[eO7];exact⟨i,hi,by omega⟩)
 ·intro h i hi
  rw[eO7]at hi
  obtain⟨j,hj,rfl⟩:=hi
  rw[show 0+1*j=j by omega]
  exact h j hj
theorem cS3 {l:List Int}(h:l.length<=9223372036854775807)(h0:0<l.length):j7 ((l.length:Int)-1)=((l.length-1:Nat):Int):=by rw[j4 (by omega) (by omega)];omega
theorem cB0 (l:List Int)(h:l.length<=9223372036854775807):P2 l=some (cD2 l):=by
 have h0:∀i:Int,i<=0->Q2 l i=some (.inr (.inl i)):=fun i hi=>by
  unfold Q2
  rw[fi2 (by omega)];rfl
 unfold P2
 rcases dR2 l.length with hz|hz
 ·have e:j7 ((l.length:Int)-1)= -1:=by rw[hz];decide
  rw[e,D7 (h0 (-1) (by omega))]
  unfold cD2
  rw[hz];rfl
 ·rw[cS3 h hz]
  obtain⟨t,a,b⟩:=cN4 (mb:=Q2 l) (fun i=>decide (nd l (i+1)<nd l i)) (l.length-1) (fun i hi=>by
   unfold Q2
   rw[fi1 (by omega),fi0,C5 l (i+1) (by omega),aD6,j4 (by omega) (by omega),show((i+1:Nat):Int)-1=(i:Int) by omega,C5 l i (by omega),aD6,N3 (by omega),N3 (by omega)]
   have e:cmp_Less_int l[i+1] l[i]=some (decide (l[i+1]<l[i])):=by
    unfold cmp_Less_int cmp_isNaN_int
    simp
   rw[e,aD6]
   cases decide (l[i+1]<l[i])<;>rfl) h0
  rw[a]
  cases t with
  |inl i=>
   have:cD2 l=true:=bi6.2 fun i hi=>by
    have:=b i hi
    rw[fi4]at this
    rw[fi3];omega
   rw[this];rfl
  |inr r=>
   obtain⟨rfl,i,hi,q⟩:=b
   have:cD2 l=false:=by
    cases z:cD2 l
    ·rfl
    ·have:=bi6.1 z i hi
     rw[fi3]at this q
     omega
   rw[this];rfl
theorem dd8 (l:List Int)(h:l.length<=9223372036854775807)(hb:∀i,i<l.length-> -1073741824<=nd l i/\nd l i<=1073741824):H7 l ab6=some (cz8 l):=by
 have h0:∀i:Int,i<=0->L4 l ab6 i=some (.inr (.inl i)):=fun i hi=>by
  unfold L4
  rw[fi2 (by omega)];rfl
 unfold H7
 rcases dR2 l.length with hz|hz
 ·have e:j7 ((l.length:Int)-1)= -1:=by rw[hz];decide
  rw[e,D7 (h0 (-1) (by omega))]
  unfold cz8
  rw[hz];rfl
 ·rw[cS3 h hz]
  obtain⟨t,a,b⟩:=cN4 (mb:=L4 l ab6) (fun i=>decide (nd l i<nd l (i+1))) (l.length-1) (fun i hi=>by
   unfold L4
   rw[fi1 (by omega),fi0,C5 l (i+1) (by omega),aD6,j4 (by omega) (by omega),show((i+1:Nat):Int)-1=(i:Int) by omega,C5 l i (by omega),aD6,<-N3 (by omega),<-N3 (by omega)]
   have b1:=hb i (by omega)
   have b2:=hb (i+1) (by omega)
   have e:ab6 (nd l (i+1)) (nd l i)=some (nd l i-nd l (i+1)):=by
    unfold ab6
    rw[j4 (by omega) (by omega)]
   rw[e,aD6]
   by_cases q:nd l i<nd l (i+1)
   ·rw[fi1 q,fi1 (by omega)];rfl
   ·rw[fi2 q,fi2 (by omega)];rfl) h0
  rw[a]
  cases t with
  |inl i=>
   have:cz8 l=true:=bi6.2 fun i hi=>by
    have:=b i hi
    rw[fi4]at this
    rw[fi3];omega
   rw[this];rfl
  |inr r=>
   obtain⟨rfl,i,hi,q⟩:=b
   have:cz8 l=false:=by
    cases z:cz8 l
    ·rfl
    ·have:=bi6.1 z i hi
     rw[fi3]at this q
     omega
   rw[this];rfl
def inR (lo hi x:Int):Bool:=decide (x>=lo)&&decide (x<=hi)
theorem cR6 (l:List Int)(h:l.length<=9223372036854775807)(lo hi:Int):ag7 l lo hi=some (!l.all (inR lo hi)):=by
 unfold ag7
 rw[ap4 l h (fun x0=>an7 x0 lo hi) (fun x=>!inR lo hi x) (fun y _=>rfl)]
 have:(l.any fun x=>!inR lo hi x)= !l.all (inR lo hi):=by rw[dS2];simp
 rw[this];rfl
def aY5 (t:o6):Bool:=bn9 t.o8&&bv9 t.C1&&t.C1.Y.all (inR 0 1000)&&cz8 t.C1.Y&&t.o8.Z.all fun r=>r.all (inR 0 10000)&&cD2 r
theorem bo3 (t:o6):ah8 t=some (aY5 t):=by
 unfold ah8 aY5
 rw[an8]
 cases h1:bn9 t.o8
 ·rfl
 ·have hm:=bZ5 h1
  simp only[aD6,aX3,fh8,cM4,ap6]
  cases h2:bv9 t.C1
  ·rfl
  ·have hc:=bl5 h2
   have l1:=hc.x.most
   have l2:=hc.yl
   simp only[aX3,fh8,cM4]
   rw[cR6 _ (by omega)]
   cases h3:t.C1.Y.all (inR 0 1000)
   ·rfl
   ·simp only[aD6,aX3,fh8,cM4]
    rw[dd8 _ (by omega) (fun i hi=>hc.el i (by omega))]
    cases h4:cz8 t.C1.Y
    ·rfl
    ·simp only[aD6,aX3,fh8,cM4]
     have k:F6 t.o8.Z ak5=some (t.o8.Z.any fun r=>!(r.all (inR 0 10000)&&cD2 r)):=
      ah7 t.o8.Z (by have:=hm.zl;have:=hm.x.most;omega) ak5 _ (fun r hr=>by
       obtain⟨i,hi,rfl⟩:=cY2.1 hr
       have lr:t.o8.Z[i].length<=32:=by rw[hm.rl i hi];exact hm.y.most
       unfold ak5
       rw[cR6 _ (by omega),aD6,cB0 _ (by omega)]
       cases t.o8.Z[i].all (inR 0 10000)<;>cases cD2 t.o8.Z[i]<;>rfl)
     rw[k,aD6,dS2]
     simp
theorem dE1 {l : List Int} (h : cD2 l = true) : ∀ (j i : Nat), i <= j -> j < l.length -> nd l i <= nd l j
  | 0, i, hi, _ => by have : i = 0 := by omega
                      subst this; exact dv9 _
  | j + 1, i, hi, hj => by
    rcases dc9 i (j + 1) with q | q
    · have a := dE1 h j i (by omega) (by omega)
      have b := bi6.1 h j (by omega)
      rw [fi3] at b
      omega
    · have : i = j + 1 := by omega
      subst this; exact dv9 _
def cJ5 (r:List Int):Bool:=r.all (inR 0 1048576)&&cD2 r
def cW4 (t:o6):Bool:=bn9 t.Air&&bv9 t.L3&&t.Air.Z.all cJ5&&t.L3.Y.all (inR 100 3000)
theorem af1 (x lo hi:Int):I2 x lo hi=some (inR lo hi x):=rfl
theorem dp6 {r:List Int}(h0:0<r.length)(ha:cD2 r=true):(inR 0 1048576 (nd r 0)&&inR 0 1048576 (nd r (r.length-1)))=r.all (inR 0 1048576):=by
 apply bb1
 rw[aI9,bF0]
 unfold inR
 constructor
 ·rintro⟨a,b⟩ x hx
  obtain⟨i,hi,rfl⟩:=cY2.1 hx
  have u:=dE1 ha i 0 (by omega) hi
  have v:=dE1 ha (r.length-1) i (by omega) (by omega)
  rw[N3 hi]at u v
  rw[aI9,fi3,fi3]at*
  omega
 ·intro h
  rw[N3 h0,N3 (by omega:r.length-1<r.length)]
  exact⟨h _ (bd9 _),h _ (bd9 _)⟩
theorem bF8 (t:o6):aA2 t=some (cW4 t):=by
 unfold aA2 cW4
 rw[an8]
 cases h1:bn9 t.Air
 ·rfl
 ·have hm:=bZ5 h1
  simp only[aD6,aX3,fh8,cM4,ap6]
  cases h2:bv9 t.L3
  ·rfl
  ·have hc:=bl5 h2
   have l1:=hc.x.most
   have l2:=hc.yl
   have zl:=hm.zl
   have xm:=hm.x.most
   have ym:=hm.y.most
   have y2:=hm.y.two
   simp only[aX3,fh8,cM4]
   rw[K4 _ (by omega),bK2 (p:=cJ5) (r:=false)]
   ·cases h3:t.Air.Z.all cJ5
    ·rfl
    ·rw[fi0,aD6]
     simp only
     rw[ap4 _ (by omega) aK0 (fun y=>!inR 100 3000 y) (fun y _=>rfl),aD6,dS2,eH9]
     simp only[eH9,cM4]
   ·intro i r hr
    obtain⟨k,hk,rfl⟩:=cY2.1 hr
    have rl:=hm.rl k hk
    unfold aS8 cJ5
    rw[cB0 _ (by omega),aD6]
    cases h4:cD2 t.Air.Z[k]
    ·rw[ff6];rfl
    ·have g0:C9 t.Air.Z[k] 0=some (t.Air.Z[k][0]'(by omega)):=C5 _ 0 (by omega)
     rw[aX3,fh8,eU6,g0,cS3 (by omega) (by omega),C5 _ _ (by omega:t.Air.Z[k].length-1<t.Air.Z[k].length),<-N3,<-N3,<-dp6 (by omega) h4]
     simp only[aD6,af1]
     cases inR 0 1048576 (nd t.Air.Z[k] 0)<;>cases inR 0 1048576 (nd t.Air.Z[k] (t.Air.Z[k].length-1))<;>rfl
def bK0 (t:o6):Bool:=bn9 t.N8&&bv9 t.ae6&&(t.N8.Z.all fun r=>r.all (inR (-1280) 3840))&&t.ae6.Y.all (inR 500 10000)
def cA6 (g:aV0):Bool:=((((((decide (g.P>=0))&&(decide (g.P<=65536)))&&(decide (g.I>=0)))&&(decide (g.I<=65536)))&&(decide (g.Low>=(-1073741824))))&&(decide (g.Low<=g.bn0)))&&(decide (g.bn0<=1073741824))
def cd1 (t:o6):Bool:=cW4 t&&bK0 t&&aY5 t&&(bv9 t.av6&&t.av6.Y.all (inR 0 10000))&&bn9 t.aH5&&cA6 t.ae3
theorem bd4 (l:List Int)(h:l.length<=9223372036854775807)(lo hi:Int):af4 l lo hi=some (l.all (inR lo hi)):=by
 unfold af4
 rw[ap4 l h (fun x0=>az2 x0 lo hi) (fun x=>!inR lo hi x) (fun y _=>rfl),aD6,dS2,eH9]
 simp only[eH9]
theorem bh2 (t:o6):ab8 t=some (cd1 t):=by
 unfold ab8 cd1 bK0
 rw[bF8,bo3,an8,an8,ap6,ap6,show Q1 t.ae3=some (cA6 t.ae3)from rfl]
 simp only[aD6]
 cases cW4 t
 ·rfl
 cases aY5 t
 ·simp only[aX3,cJ0,fh8,fi0,aD6,ff6,eA6]
 cases h1:bn9 t.N8
 ·rfl
 cases bn9 t.aH5
 ·simp only[aX3,cJ0,fh8,fi0,aD6,ff6,eA6]
 cases h2:bv9 t.ae6
 ·rfl
 cases h3:bv9 t.av6
 ·simp only[aX3,cJ0,fh8,fi0,aD6,ff6,eA6]
 have hm:=bZ5 h1
 have zl:=hm.zl
 have xm:=hm.x.most
 have ym:=hm.y.most
 have a1:=(bl5 h2).x.most
 have a2:=(bl5 h2).yl
 have b1:=(bl5 h3).x.most
 have b2:=(bl5 h3).yl
 simp only[aX3,fh8,aD6,cM4,eU6]
 rw[K4 _ (by omega),bK2 (p:=fun r=>r.all (inR (-1280) 3840)) (r:=false)]
 ·rw[bd4 _ (by omega),bd4 _ (by omega)]
  cases t.N8.Z.all fun r=>r.all (inR (-1280) 3840)
  ·rfl
  ·cases t.ae6.Y.all (inR 500 10000)<;>cases t.av6.Y.all (inR 0 10000)<;>rfl
 ·intro i r hr
  obtain⟨k,hk,rfl⟩:=cY2.1 hr
  have rl:=hm.rl k hk
  unfold aA4
  rw[bd4 _ (by omega),aD6]
  cases t.N8.Z[k].all (inR (-1280) 3840)<;>rfl
theorem dI0 (v:Bool)(q q':Int)(f:Int->Option (Int×Int))(h:(bif v then some (aW6.wrap (q+1))else some q)=some q')(h0:0<=q')(h1:q'<9223372036854775808):
  (ai2 (some v) fun v4=>ai2 (bif v4 then(some (aW6.wrap (q+1)))else(some q)) fun(q:Int)=>bif (false&&(decide (q<=9223372036854775808)))then f q else(bif ((!false)&&(decide (q<9223372036854775808)))then(some (j7 q,0))else(some (0,9))))=some (q',0):=by
 have e:decide (q'<9223372036854775808)=true:=fi1 h1
 rw[aD6,h,aD6,eA6,fh8,cJ0,cM4,e,fi0,j4 (by omega) (by omega)]
theorem bK4 {n:Int}(h0:0<=n)(h1:n<18446744073709551616):aW6.wrap n=n:=by
 unfold IntKind.wrap
 simp only[IntKind.bits,IntKind.signed]
 simp only[show(2:Int)^64=18446744073709551616 from rfl,eA6,do8,if_false]
 omega
theorem aB7 (x lo hi:Int):C4 x lo hi=some (F2 (G4 x lo) hi):=rfl
theorem bI8 (n:Int)(h0: -9223372036854775808<=n)(h1:n<=9223372036854775807):U6 n=some (n.natAbs:Int):=by
 unfold U6
 by_cases h:n<0
 ·simp only[h,decide_true,fi0,aH6]
  rw[j4 (n:=n+1) (by omega) (by omega),j4 (n:=0-(n+1)) (by omega) (by omega),bK4 (n:=0-(n+1)) (by omega) (by omega),bK4 (by omega) (by omega)]
  omega
 ·simp only[h,decide_false,fh8,aH6]
  rw[bK4 (by omega) (by omega)]
  omega
theorem ek2 (lo y:Nat)(h0:lo<18446744073709551616)(h1:0<y):al0 0 lo y=some (((lo/y:Nat):Int),((lo%y:Nat):Int)):=by
 unfold al0
 have e1:((y:Int)==0)=false:=by
  have:¬(y:Int)=0:=by omega
  simpa using this
 have e2:decide ((y:Int)<=0)=false:=by simp;omega
 have e3:¬(y:Int)=0:=by omega
 simp only[e1,e2,fh8,aD6,bm5,cf7,if_neg e3]
 have q1:(lo:Int).tdiv y=((lo/y:Nat):Int):=rfl
 have q2:(lo:Int).tmod y=((lo%y:Nat):Int):=rfl
 have q3:lo/y<=lo:=Nat.div_le_self _ _
 rw[q1,q2]
 generalize lo/y=q at q3|-
 rw[bK4 (by omega) (by omega),show((0:Int)==0)=true from rfl,fi0]
theorem bW2 (a c mode:Int)(ha0: -9223372036854775808<=a)(ha1:a<=9223372036854775807)(hc0:0<c)(hc1:c<=9223372036854775807)(hm:mode=1\/mode=2):
  ay3 a 1 c mode=some (if mode=1 then a/c else -((-a)/c),0):=by
 unfold ay3
 have m1:((decide (mode<1))||(decide (mode>3)))=false:=by
  rcases hm with rfl|rfl<;>rfl
 have c0:(c==0)=false:=by
  have:¬c=0:=by omega
  simpa using this
 rw[m1,c0,bI8 a ha0 ha1,bI8 1 (by omega) (by omega),bI8 c (by omega) hc1]
 obtain⟨m,hm'⟩:∃m:Nat,a.natAbs=m:=⟨_,rfl⟩
 obtain⟨k,rfl⟩:∃k:Nat,c=k:=⟨c.toNat,by omega⟩
 have hk:0<k:=by omega
 have hml:m<=9223372036854775808:=by omega
 rw[hm']
 simp only[fh8,aD6,as1,cv9]
 rw[if_pos (by omega)]
 simp only[aD6]
 have e1:(m:Int)*((fg9 1:Nat):Int)/18446744073709551616=0:=by
  have:((fg9 1:Nat):Int)=1:=rfl
  rw[this];omega
 have e2:(m:Int)*((fg9 1:Nat):Int)%18446744073709551616=(m:Int):=by
  have:((fg9 1:Nat):Int)=1:=rfl
  rw[this];omega
 have e3:(((fg9 (k:Int)):Nat):Int)=(k:Int):=by omega
 have e4:decide ((0:Int)>=(k:Int))=false:=fi2 (by omega)
 rw[e1,e2,e3,e4,show(0:Int)=0 from rfl,ek2 m k (by omega) hk]
 have q1:m/k<=m:=Nat.div_le_self _ _
 have q2:m%k<k:=Nat.mod_lt _ hk
 have q3:k*(m/k)+m%k=m:=Nat.div_add_mod m k
 generalize m/k=q at q1 q3|-
 generalize m%k=r at q2 q3|-
 have q4:(m:Int)=(q:Int)*(k:Int)+(r:Int):=by rw[<-q3,Int.natCast_add,Int.natCast_mul,Int.mul_comm]
 have hqk:r=0->0<m->0<q:=fun h0 h1=>by
  rcases dR2 q with h|h
  ·rw[h,h0]at q3;omega
  ·exact h
 have hql:0<r->q<9223372036854775808:=fun h0=>by
  rcases dc9 q 9223372036854775808 with h|h
  ·exact h
  ·have:k*q>=1*9223372036854775808:=Nat.mul_le_mul (by omega) h
   omega
 have hql2:0<r->m<=9223372036854775807->q<9223372036854775807:=fun h0 h1=>by
  rcases dc9 q 9223372036854775807 with h|h
  ·exact h
  ·have:k*q>=1*9223372036854775807:=Nat.mul_le_mul (by omega) h
   omega
 have e5:decide ((q:Int)>9223372036854775808)=false:=fi2 (by omega)
 simp only[fh8,aD6,e5]
 have d1:decide ((1:Int)<0)=false:=rfl
 have d2:decide ((k:Int)<0)=false:=fi2 (by omega)
 rw[d1,d2]
 have fl0:(m:Int)/(k:Int)=(q:Int):=by
  rw[q4,Int.add_comm,Int.add_mul_ediv_right _ _ (by omega),Int.ediv_eq_zero_of_lt (by omega) (by omega)];omega
 have fl1:(-(m:Int))/(k:Int)=if r=0 then -(q:Int)else -(q:Int)-1:=by
  split
  ·rename_i h
   have:-(m:Int)=(-(q:Int))*(k:Int):=by rw[q4,Int.neg_mul,h];omega
   rw[this,Int.mul_ediv_cancel _ (by omega)]
  ·rename_i h
   have e:-(m:Int)=((k:Int)-(r:Int))+(-(q:Int)-1)*(k:Int):=by
    rw[q4,Int.sub_mul,Int.neg_mul];omega
   rw[e,Int.add_mul_ediv_right _ _ (by omega),Int.ediv_eq_zero_of_lt (by omega) (by omega)];omega
 clear q3 q4
 by_cases hn:a<0
 ·have ha:a= -(m:Int):=by omega
  have e6:decide (a<0)=true:=fi1 hn
  have n1:(!(!true==false)==false)=true:=by decide
  rw[e6,n1]
  rcases hm with rfl|rfl
  · --down,of a negative number
   have r1:aj7 (r:Int) (k:Int) true 1=some (decide ((r:Int)>0)):=rfl
   rw[if_pos rfl,ha,fl1,r1]
   by_cases hr:r=0
   ·have r2:decide ((r:Int)>0)=false:=fi2 (by omega)
    have bI3:=hqk hr (by omega)
    have r3:decide ((q:Int)<=9223372036854775808)=true:=fi1 (by omega)
    rw[if_pos hr,r2]
    simp only[aD6,fh8,r3]
    rw[bK4 (n:=(q:Int)-1) (by omega) (by omega),j4 (n:=(q:Int)-1) (by omega) (by omega),j4 (n:=0-((q:Int)-1)) (by omega) (by omega),j4 (n:=0-((q:Int)-1)-1) (by omega) (by omega)]
    simp only[cM4,fi0,aX3,eA6,fh8]
    rw[show 0-((q:Int)-1)-1= -(q:Int) by omega]
   ·have r2:decide ((r:Int)>0)=true:=fi1 (by omega)
    have hlt:=hql (by omega)
    have r3:decide ((q:Int)+1<=9223372036854775808)=true:=fi1 (by omega)
    rw[if_neg hr,r2]
    simp only[aD6,fi0]
    rw[bK4 (n:=(q:Int)+1) (by omega) (by omega),r3,show(q:Int)+1-1=q by omega]
    rw[bK4 (n:=(q:Int)) (by omega) (by omega),j4 (n:=(q:Int)) (by omega) (by omega),j4 (n:=0-(q:Int)) (by omega) (by omega),j4 (n:=0-(q:Int)-1) (by omega) (by omega)]
    simp only[cM4,fi0,aX3,eA6,fh8]
    rw[show 0-(q:Int)-1= -(q:Int)-1 by omega]
  · --up,of a negative number
   have r1:aj7 (r:Int) (k:Int) true 2=some false:=rfl
   rw[if_neg (by decide),ha,Int.neg_neg,fl0,r1]
   have r3:decide ((q:Int)<=9223372036854775808)=true:=fi1 (by omega)
   simp only[aD6,fh8,r3]
   rcases dR2 q with hz|hz
   ·have w1:aW6.wrap (((0:Nat):Int)-1)=18446744073709551615:=by decide
    have w2:j7 18446744073709551615= -1:=by decide
    have w3:j7 (0- -1)=1:=by decide
    have w4:j7 (1-1)=0:=by decide
    rw[hz,w1,w2,w3,w4]
    rfl
   ·rw[bK4 (n:=(q:Int)-1) (by omega) (by omega),j4 (n:=(q:Int)-1) (by omega) (by omega),j4 (n:=0-((q:Int)-1)) (by omega) (by omega),j4 (n:=0-((q:Int)-1)-1) (by omega) (by omega)]
    simp only[cM4,fi0,aX3,eA6,fh8]
    rw[show 0-((q:Int)-1)-1= -(q:Int) by omega]
 ·have ha:a=(m:Int):=by omega
  have e6:decide (a<0)=false:=fi2 hn
  have n1:(!(!false==false)==false)=false:=by decide
  rw[e6,n1]
  rcases hm with rfl|rfl
  ·have r1:aj7 (r:Int) (k:Int) false 1=some false:=rfl
   rw[if_pos rfl,ha,fl0,r1]
   exact dI0 false q q _ rfl (by omega) (by omega)
  ·have r1:aj7 (r:Int) (k:Int) false 2=some (decide ((r:Int)>0)):=rfl
   rw[if_neg (by decide),ha,fl1,r1]
   by_cases hr:r=0
   ·have r2:decide ((r:Int)>0)=false:=fi2 (by omega)
    rw[if_pos hr,r2,Int.neg_neg]
    exact dI0 false q q _ rfl (by omega) (by omega)
   ·have r2:decide ((r:Int)>0)=true:=fi1 (by omega)
    have hlt:=hql2 (by omega) (by omega)
    rw[if_neg hr,r2,show -(-(q:Int)-1)=(q:Int)+1 by omega]
    exact dI0 true q (q+1) _ (by rw[fi0,bK4 (by omega) (by omega)]) (by omega) (by omega)
theorem bR0 (a c:Int)(ha0: -9223372036854775808<=a)(ha1:a<=9223372036854775807)(hc0:0<c)(hc1:c<=9223372036854775807):V1 a c=some (a/c):=by
 unfold V1 am4
 rw[bW2 a c 1 ha0 ha1 hc0 hc1 (.inl rfl)]
 rfl
theorem aR8 (n:Nat)(hn:n<=2305843009213693951)(f:Int->Option Bool)(p:Nat->Bool)(hf:∀i,i<n->f (i:Int)=some (p i)):
  ∃k:Nat,k<=n/\P6 (n:Int) f=some (k:Int)/\(0<k->p (k-1)=false)/\(k<n->p k=true):=by
 have key:∀(m i j:Nat),j-i<=m->i<=j->j<=n->(0<i->p (i-1)=false)->(j<n->p j=true)->
   ∃k:Nat,k<=n/\J7 (ab3 f) ((i:Int),(j:Int))=some (.inl ((k:Int),(k:Int)))/\(0<k->p (k-1)=false)/\(k<n->p k=true):=by
  intro m
  induction m with
  |zero=>
   intro i j hm hij hjn h1 h2
   have:i=j:=by omega
   subst this
   refine⟨i,hjn,D7 ?_,h1,h2⟩
   unfold ab3
   rw[show decide (((i:Int),(i:Int)).1<((i:Int),(i:Int)).2)=false from fi2 (by simp)]
   rfl
  |succ m ih=>
   intro i j hm hij hjn h1 h2
   rcases dc9 i j with hlt|hge
   ·have hh:j7 (D0 .u64 (aW6.wrap (j7 ((i:Int)+(j:Int)))) 1)=(((i+j)/2:Nat):Int):=by
     rw[eC2 (by omega) (by omega)];omega
    have hi:(i+j)/2<n:=by omega
    have hb:ab3 f ((i:Int),(j:Int))=some (bif p ((i+j)/2)then .inl ((i:Int),(((i+j)/2:Nat):Int))else .inl ((((i+j)/2+1:Nat):Int),(j:Int))):=by
     unfold ab3
     rw[show decide (((i:Int),(j:Int)).1<((i:Int),(j:Int)).2)=true from fi1 (by show(i:Int)<(j:Int);omega)]
     simp only[fi0,hh,hf _ hi,aD6]
     cases p ((i+j)/2)
     ·simp only[cJ0,fi0,fh8]
      rw[j4 (by omega) (by omega)];rfl
     ·rfl
    cases hp:p ((i+j)/2)
    ·rw[hp]at hb
     rw[G6 hb]
     exact ih ((i+j)/2+1) j (by omega) (by omega) hjn (fun _=>by simpa using hp) h2
    ·rw[hp]at hb
     rw[G6 hb]
     exact ih i ((i+j)/2) (by omega) (by omega) (by omega) h1 (fun _=>hp)
   ·have:i=j:=by omega
    subst this
    exact ih i i (by omega) (cw4 _) hjn h1 h2
 obtain⟨k,a,b,c,d⟩:=key n 0 n (by omega) (Nat.zero_le _) (cw4 _) (fun h=>absurd h (by omega)) (fun h=>absurd h (by omega))
 refine⟨k,a,?_,c,d⟩
 unfold P6
 rw[show((0:Nat):Int)=0 from rfl]at b
 rw[b]
 rfl
theorem aq0 (a b:Int):F2 a b=min a b:=by unfold F2;split<;>omega
theorem an9 (a b:Int):G4 a b=max a b:=by unfold G4;split<;>omega
def itp (x0 x1 y0 y1 x:Int):Int:=y0+((x-x0)*(y1-y0))/(x1-x0)
theorem bh8 {x0 x1 y0 y1 x lo hi:Int}(h0:x0<=x)(h1:x<=x1)(h:x0<x1)(a0:lo<=y0)(a1:y0<=hi)(b0:lo<=y1)(b1:y1<=hi):lo<=itp x0 x1 y0 y1 x/\itp x0 x1 y0 y1 x<=hi:=by
 unfold itp
 have hd:0<x1-x0:=by omega
 have e:0<=x-x0:=by omega
 have e2:x-x0<=x1-x0:=by omega
 constructor
 ·have:lo-y0<=((x-x0)*(y1-y0))/(x1-x0):=by
   rw[Int.le_ediv_iff_mul_le hd]
   have m1:(x-x0)*(lo-y0)<=(x-x0)*(y1-y0):=ed7 (by omega) e
   have m2:(x1-x0)*(lo-y0)<=(x-x0)*(lo-y0):=Int.mul_le_mul_of_nonpos_right e2 (by omega)
   rw[Int.mul_comm (lo-y0)]
   omega
  omega
 ·have:((x-x0)*(y1-y0))/(x1-x0)<=hi-y0:=by
   have m1:(x-x0)*(y1-y0)<=(x-x0)*(hi-y0):=ed7 (by omega) e
   have m2:(x-x0)*(hi-y0)<=(x1-x0)*(hi-y0):=Int.mul_le_mul_of_nonneg_right e2 (by omega)
   have:=Int.ediv_le_ediv hd (Int.le_trans m1 m2)
   rw[Int.mul_ediv_cancel_left _ (by omega)]at this
   exact this
  omega
theorem dv2 (x0 x1 y0 y1:Int):itp x0 x1 y0 y1 x0=y0:=by
 unfold itp;rw[Int.sub_self,Int.zero_mul,Int.zero_ediv,Int.add_zero]
theorem de0 {x0 x1 y0 y1:Int}(h:x0<x1):itp x0 x1 y0 y1 x1=y1:=by
 unfold itp;rw[Int.mul_ediv_cancel_left _ (by omega)];omega
theorem eq9 {a b:Int}(a0:0<=a)(a1:a<=2147483648)(b0:-2147483648<=b)(b1:b<=2147483648):-4611686018427387904<=a*b/\a*b<=4611686018427387904:=by
 constructor
 ·have m1:a*(-2147483648)<=a*b:=ed7 b0 a0
  omega
 ·have m1:a*b<=a*2147483648:=ed7 b1 a0
  omega
theorem cK2 {x0 x1 y0 y1 x:Int}(h0:x0<=x)(h1:x<=x1)(h:x0<x1)(hx0:-1073741824<=x0)(hx1:x1<=1073741824)(a0:-1073741824<=y0)(a1:y0<=1073741824)(b0:-1073741824<=y1)(b1:y1<=1073741824):
  ab4 x0 x1 y0 y1 x=some (itp x0 x1 y0 y1 x):=by
 have hb:=bh8 (lo:=-1073741824) (hi:=1073741824) h0 h1 h a0 a1 b0 b1
 have hp:=eq9 (a:=x-x0) (b:=y1-y0) (by omega) (by omega) (by omega) (by omega)
 unfold ab4
 rw[j4 (n:=x-x0) (by omega) (by omega),j4 (n:=y1-y0) (by omega) (by omega),j4 (n:=x1-x0) (by omega) (by omega),j4 (n:=(x-x0)*(y1-y0)) (by omega) (by omega),
  bR0 _ _ (by omega) (by omega) (by omega) (by omega),aD6]
 unfold itp at hb|-
 rw[j4 (by omega) (by omega)]
theorem cg1 {l:List Int}(h:by4 l)(x:Int):∃i:Nat,bk8 l (lim l x) i/\W8 l x=some ((i:Int),lim l x):=by
 have h2:=h.two
 have h3:=h.most
 have hb:=dH6 h x
 rw[bD2 l (by omega),be2 l (by omega)]at hb
 obtain⟨k,k1,k2,k3,k4⟩:=aR8 l.length (by omega) (fun x0=>ae2 x0 l (lim l x)) (fun i=>decide (l.getD i 0>lim l x)) (fun i hi=>by
  unfold ae2
  rw[C5 l i hi,cZ0,aW5 hi];rfl)
 have gd:∀i (hi:i<l.length),l.getD i 0=l[i]:=fun i hi=>by rw[cZ0,aW5 hi];rfl
 have hk0:0<k:=by
  rcases dR2 k with h0|h0
  ·have:=k4 (by omega)
   rw[fi3,gd k (by omega)]at this
   subst h0
   omega
  ·exact h0
 have dW6:=k3 hk0
 rw[fi4,gd (k-1) (by omega)]at dW6
 have hseg:W8 l x=some (((min (k-1) (l.length-2):Nat):Int),lim l x):=by
  unfold W8
  have e1:C9 l 0=some (l.headD 0):=by
   have:=C5 l 0 (by omega)
   rw[bD2 l (by omega)];exact this
  have e2:C9 l (j7 ((l.length:Int)-1))=some (l.getLastD 0):=by
   rw[j4 (by omega) (by omega),show(l.length:Int)-1=((l.length-1:Nat):Int) by omega,C5 l _ (by omega),be2 l (by omega)]
  have e3:F2 (G4 x (l.headD 0)) (l.getLastD 0)=lim l x:=by rw[aq0,an9];rfl
  rw[e1,e2,aD6,aD6,aB7,aD6,e3,k2,aD6,j4 (by omega) (by omega),j4 (by omega) (by omega),aq0]
  congr 2
  omega
 rcases dc9 k l.length with hk|hk
 ·have hhi:=k4 hk
  rw[fi3,gd k hk]at hhi
  have e:min (k-1) (l.length-2)=k-1:=by omega
  rw[e]at hseg
  refine⟨k-1,⟨by omega,by omega,?_,.inr ?_⟩,hseg⟩
  ·simp only[Nat.sub_add_cancel (show 1<=k from hk0)];omega
  ·simp only[Nat.sub_add_cancel (show 1<=k from hk0)];omega
 ·have e:min (k-1) (l.length-2)=l.length-2:=by omega
  rw[e]at hseg
  have hl:k-1=l.length-1:=by omega
  have hlow':¬l[l.length-1]>lim l x:=by simpa only[hl]using dW6
  have hs:l.length-2+1=l.length-1:=by omega
  refine⟨l.length-2,⟨by omega,?_,?_,.inl (by omega)⟩,hseg⟩
  ·have:=h.le (l.length-1) (l.length-2) (by omega) (by omega)
   omega
  ·simp only[hs];omega
def along (m:SMap)(i:Nat)(v:Int)(j:Nat):Int:=itp (nd m.X i) (nd m.X (i+1)) (zz m i j) (zz m (i+1) j) v
def atV (m:SMap)(i j:Nat)(v w:Int):Int:=itp (nd m.Y j) (nd m.Y (j+1)) (along m i v j) (along m i v (j+1)) w
theorem bk8.nd {l:List Int}{v:Int}{i:Nat}(h:bk8 l v i)(ha:by4 l):i+1<l.length/\nd l i<=v/\v<=nd l (i+1)/\nd l i<nd l (i+1)/\ -1073741824<=Pv.nd l i/\Pv.nd l (i+1)<=1073741824:=by
 obtain⟨h0,h1,h2,_⟩:=h
 rw[N3 (by omega:i<l.length),N3 h0]
 exact⟨h0,h1,h2,ha.asc i h0,(ha.el i (by omega)).1,(ha.el (i+1) h0).2⟩
theorem ci2 {m:SMap}(h:cZ4 m){i j:Nat}{v lo hi:Int}(hi':bk8 m.X v i)(a0:lo<=zz m i j)(a1:zz m i j<=hi)(b0:lo<=zz m (i+1) j)(b1:zz m (i+1) j<=hi):
  lo<=along m i v j/\along m i v j<=hi:=by
 obtain⟨k0,k1,k2,k3,_,_⟩:=hi'.nd h.x
 exact bh8 k1 k2 k3 a0 a1 b0 b1
theorem dE2 {m:SMap}(h:cZ4 m){i j:Nat}{v w lo hi:Int}(hi':bk8 m.X v i)(hj':bk8 m.Y w j)(hz:∀i j,i<m.X.length->j<m.Y.length->lo<=zz m i j/\zz m i j<=hi):
  lo<=atV m i j v w/\atV m i j v w<=hi:=by
 obtain⟨k0,k1,k2,k3,_,_⟩:=hi'.nd h.x
 obtain⟨l0,l1,l2,l3,_,_⟩:=hj'.nd h.y
 have a:=fun j hj=>ci2 h (j:=j) hi' (hz i j (by omega) hj).1 (hz i j (by omega) hj).2 (hz (i+1) j (by omega) hj).1 (hz (i+1) j (by omega) hj).2
 exact bh8 l1 l2 l3 (a j (by omega)).1 (a j (by omega)).2 (a (j+1) (by omega)).1 (a (j+1) (by omega)).2
theorem eh0 {m:SMap}(h:cZ4 m){i j:Nat}{v:Int}(hi:bk8 m.X v i)(hj:j<m.Y.length):ar1 (j:Int) m (i:Int) v=some (along m i v j):=by
 obtain⟨k0,k1,k2,k3,k4,k5⟩:=hi.nd h.x
 have lx:=h.x.most
 have hz0:i<m.Z.length:=by have:=h.zl;omega
 have hz1:i+1<m.Z.length:=by have:=h.zl;omega
 have r0:=h.rl i hz0
 have r1:=h.rl (i+1) hz1
 unfold ar1
 rw[j4 (by omega) (by omega),show(i:Int)+1=((i+1:Nat):Int)from rfl,C5 m.X i (by omega),aD6,C5 m.X (i+1) k0,aD6,C5 m.Z i hz0,aD6,C5 _ j (by omega),
  aD6,C5 m.Z (i+1) hz1,aD6,C5 _ j (by omega),aD6,<-N3 (by omega:i<m.X.length),<-N3 k0,<-bU9 hz0 (by omega),<-bU9 hz1 (by omega)]
 rw[cK2 k1 k2 k3 k4 k5 (h.el i j (by omega) hj).1 (h.el i j (by omega) hj).2 (h.el (i+1) j k0 hj).1 (h.el (i+1) j k0 hj).2]
 rfl
theorem eW1 {m:SMap}(h:cZ4 m)(x y:Int):∃i j,bk8 m.X (lim m.X x) i/\bk8 m.Y (lim m.Y y) j/\aM5 m x y=some (atV m i j (lim m.X x) (lim m.Y y)):=by
 obtain⟨i,hi,ei⟩:=cg1 h.x x
 obtain⟨j,hj,ej⟩:=cg1 h.y y
 refine⟨i,j,hi,hj,?_⟩
 obtain⟨k0,k1,k2,k3,k4,k5⟩:=hi.nd h.x
 obtain⟨l0,l1,l2,l3,l4,l5⟩:=hj.nd h.y
 have ly:=h.y.most
 have a:=fun j hj=>ci2 h (j:=j) hi (h.el i j (by omega) hj).1 (h.el i j (by omega) hj).2 (h.el (i+1) j (by omega) hj).1 (h.el (i+1) j (by omega) hj).2
 unfold aM5
 rw[ei,ej]
 simp only[aD6]
 rw[j4 (by omega) (by omega),show(j:Int)+1=((j+1:Nat):Int)from rfl,C5 m.Y j (by omega),aD6,C5 m.Y (j+1) l0,aD6,eh0 h hi (by omega),aD6,eh0 h hi l0,aD6,
  <-N3 (by omega:j<m.Y.length),<-N3 l0,cK2 l1 l2 l3 l4 l5 (a j (by omega)).1 (a j (by omega)).2 (a (j+1) l0).1 (a (j+1) l0).2]
 rfl
theorem ed9 {m:SMap}(h:bn9 m=true)(x y:Int):∃i j,bk8 m.X (lim m.X x) i/\bk8 m.Y (lim m.Y y) j/\X8 m x y=some (atV m i j (lim m.X x) (lim m.Y y)):=by
 obtain⟨i,j,hi,hj,e⟩:=eW1 (bZ5 h) x y
 refine⟨i,j,hi,hj,?_⟩
 unfold X8
 rw[an8,h]
 simp only[aD6,aX3,fh8]
 rw[e]
 rfl
def cuV (c:P8)(i:Nat)(v:Int):Int:=itp (nd c.X i) (nd c.X (i+1)) (nd c.Y i) (nd c.Y (i+1)) v
theorem dJ9 {l:List Int}(h:by4 l)(x:Int):∃i,bk8 l (lim l x) i:=by
 obtain⟨i,hi,_⟩:=cg1 h x
 exact⟨i,hi⟩
theorem eP8 {l:List Int}(h:by4 l)(x:Int):lim l x=min (max x (nd l 0)) (nd l (l.length-1)):=by
 have h2:=h.two
 unfold lim
 rw[bD2 l (by omega),be2 l (by omega),N3 (by omega),N3 (by omega)]
theorem by4.nlt {l:List Int}(h:by4 l){i j:Nat}(h1:i<j)(h2:j<l.length):nd l i<nd l j:=by rw[N3 h2,N3 (by omega)];exact h.lt j i h2 h1
theorem by4.nle {l:List Int}(h:by4 l){i j:Nat}(h1:i<=j)(h2:j<l.length):nd l i<=nd l j:=by rw[N3 h2,N3 (by omega)];exact h.le j i h2 h1
theorem dv3 {l:List Int}(h:by4 l){v:Int}{i:Nat}(hi:bk8 l v i)(f:Nat->Int){c:Nat}(hc:c<l.length)(e:v=nd l c):itp (nd l i) (nd l (i+1)) (f i) (f (i+1)) v=f c:=by
 obtain⟨k0,k1,k2,k3,_,_⟩:=hi.nd h
 subst e
 have c1:i<=c:=by
  rcases dc9 c i with q|q
  ·have:=h.nlt q (by omega);omega
  ·exact q
 have c2:c<=i+1:=by
  rcases dc9 (i+1) c with q|q
  ·have:=h.nlt q hc;omega
  ·exact q
 rcases(show c=i\/c=i+1 by omega)with rfl|rfl
 ·exact dv2 ..
 ·exact de0 k3
theorem ew7 {c:P8}(h:dL7 c)(x:Int):∃i,bk8 c.X (lim c.X x) i/\aE4 c x=some (cuV c i (lim c.X x)):=by
 obtain⟨i,hi⟩:=dJ9 h.x x
 refine⟨i,hi,?_⟩
 have h2:=h.x.two
 have h3:=h.x.most
 have hyl:=h.yl
 have hl:=eP8 h.x x
 have h0l:=h.x.nlt (i:=0) (j:=c.X.length-1) (by omega) (by omega)
 have gx0:C9 c.X 0=some (nd c.X 0):=by have:=C5 c.X 0 (by omega);rw[N3 (by omega)];exact this
 have gy0:C9 c.Y 0=some (nd c.Y 0):=by have:=C5 c.Y 0 (by omega);rw[N3 (by omega)];exact this
 have ew:j7 ((c.X.length:Int)-1)=((c.X.length-1:Nat):Int):=by rw[j4 (by omega) (by omega)];omega
 have gxl:C9 c.X ((c.X.length-1:Nat):Int)=some (nd c.X (c.X.length-1)):=by rw[C5 _ _ (by omega),N3 (by omega)]
 have gyl:C9 c.Y ((c.X.length-1:Nat):Int)=some (nd c.Y (c.X.length-1)):=by rw[C5 _ _ (by omega),N3 (by omega)]
 unfold aE4
 rw[gx0,aD6]
 by_cases q0:x<=nd c.X 0
 ·have e:=dv3 h.x hi (fun j=>nd c.Y j) (c:=0) (by omega) (by omega)
  rw[fi1 q0,fi0,gy0]
  unfold cuV
  rw[e];rfl
 ·rw[fi2 q0,fh8,ew,gxl,aD6]
  by_cases q1:x>=nd c.X (c.X.length-1)
  ·have e:=dv3 h.x hi (fun j=>nd c.Y j) (c:=c.X.length-1) (by omega) (by omega)
   rw[fi1 q1,fi0,gyl]
   unfold cuV
   rw[e];rfl
  ·have elim:lim c.X x=x:=by omega
   rw[elim]at hi|-
   obtain⟨k0,k1,k2,k3,k4,k5⟩:=hi.nd h.x
   obtain⟨k,r1,r2,r3,r4⟩:=aR8 c.X.length (by omega) (fun x0=>ak7 x0 c x) (fun i=>decide (nd c.X i>x)) (fun j hj=>by
    unfold ak7
    rw[C5 c.X j hj,N3 hj];rfl)
   have hk:k=i+1:=by
    have hkl:k<c.X.length:=by
     rcases dc9 k c.X.length with q|q
     ·exact q
     ·have:=r3 (by omega)
      rw[fi4,show k-1=c.X.length-1 by omega]at this
      omega
    have a1:=r4 hkl
    rw[fi3]at a1
    have hk0:0<k:=by
     rcases dR2 k with q|q
     ·subst q;omega
     ·exact q
    have a2:=r3 hk0
    rw[fi4]at a2
    have b1:i<k:=by
     rcases dc9 i k with q|q
     ·exact q
     ·have:=h.x.nle q (by omega);omega
    have b2:k-1<=i:=by
     rcases dc9 i (k-1)with q|q
     ·have:=h.x.nle (i:=i+1) (j:=k-1) (by omega) (by omega)
      have hseg:=hi.2
      obtain⟨hh,s1,s2,s3⟩:=hi
      rcases s3 with s3|s3
      ·omega
      ·rw[<-N3 hh]at s3;omega
     ·exact q
    omega
   have es:au9 c x=some (i:Int):=by
    unfold au9
    rw[r2,aD6,j4 (by omega) (by omega),hk]
    congr 1;omega
   have hb:=bh8 (lo:=-1073741824) (hi:=1073741824) k1 k2 k3 (h.el i (by omega)).1 (h.el i (by omega)).2 (h.el (i+1) k0).1 (h.el (i+1) k0).2
   have y0:=h.el i (by omega)
   have y1:=h.el (i+1) k0
   have hp:=eq9 (a:=x-nd c.X i) (b:=nd c.Y (i+1)-nd c.Y i) (by omega) (by omega) (by omega) (by omega)
   rw[fi2 q1,fh8,es,aD6,j4 (n:=(i:Int)+1) (by omega) (by omega),show(i:Int)+1=((i+1:Nat):Int)from rfl,C5 c.Y i (by omega),aD6,C5 c.X i (by omega),aD6,
    C5 c.Y (i+1) (by omega),aD6,C5 c.X (i+1) k0,aD6,<-N3,<-N3,<-N3,<-N3]
   rw[j4 (n:=x-nd c.X i) (by omega) (by omega),j4 (n:=nd c.Y (i+1)-nd c.Y i) (by omega) (by omega),j4 (n:=nd c.X (i+1)-nd c.X i) (by omega) (by omega),j4 (n:=(x-nd c.X i)*(nd c.Y (i+1)-nd c.Y i)) (by omega) (by omega),
    bR0 _ _ (by omega) (by omega) (by omega) (by omega),aD6]
   unfold cuV
   unfold itp at hb|-
   rw[j4 (by omega) (by omega)]
theorem cN3 {c:P8}(h:dL7 c){v:Int}{i:Nat}{lo hi:Int}(hs:bk8 c.X v i)(hy:∀j,j<c.X.length->lo<=nd c.Y j/\nd c.Y j<=hi):lo<=cuV c i v/\cuV c i v<=hi:=by
 obtain⟨k0,k1,k2,k3,k4,k5⟩:=hs.nd h.x
 exact bh8 k1 k2 k3 (hy i (by omega)).1 (hy i (by omega)).2 (hy (i+1) k0).1 (hy (i+1) k0).2
theorem cd2 {c:P8}(h:bv9 c=true)(x:Int):∃i,bk8 c.X (lim c.X x) i/\as8 c x=some (cuV c i (lim c.X x)):=by
 obtain⟨i,hi,e⟩:=ew7 (bl5 h) x
 refine⟨i,hi,?_⟩
 unfold as8
 rw[ap6,h]
 simp only[aD6,aX3,fh8]
 rw[e]
 rfl
structure eV7 (t:o6):Prop where
 m:cZ4 t.o8
 c:dL7 t.C1
 e:∀i,i<t.C1.X.length->0<=nd t.C1.Y i/\nd t.C1.Y i<=1000
 ed:∀i,i+1<t.C1.X.length->nd t.C1.Y (i+1)<=nd t.C1.Y i
 z:∀i j,i<t.o8.X.length->j<t.o8.Y.length->0<=zz t.o8 i j/\zz t.o8 i j<=10000
 za:∀i j,i<t.o8.X.length->j+1<t.o8.Y.length->zz t.o8 i j<=zz t.o8 i (j+1)
theorem dL6 {m:SMap}{i j:Nat}(h:i<m.Z.length):zz m i j=nd m.Z[i] j:=by
 have e:m.Z.getD i []=m.Z[i]:=by rw[cZ0,aW5 h];rfl
 unfold zz nd
 rw[e]
theorem ew1 {t:o6}(h:aY5 t=true):eV7 t:=by
 unfold aY5 at h
 simp only[aI9]at h
 obtain⟨⟨⟨⟨h1,h2⟩,h3⟩,h4⟩,h5⟩:=h
 have hm:=bZ5 h1
 have hc:=bl5 h2
 rw[bF0]at h3 h5
 have zl:=hm.zl
 have yl:=hc.yl
 refine⟨hm,hc,fun i hi=>?_,fun i hi=>?_,fun i j hi hj=>?_,fun i j hi hj=>?_⟩
 ·rw[N3 (by omega)]
  have:=h3 _ (bd9 (by omega:i<t.C1.Y.length))
  simp[inR]at this;omega
 ·have:=bi6.1 h4 i (by omega)
  rw[fi3]at this
  exact this
 ·have hz:i<t.o8.Z.length:=by omega
  have:=h5 _ (bd9 hz)
  rw[aI9,bF0]at this
  have lr:=hm.rl i hz
  have:=this.1 _ (bd9 (by omega:j<t.o8.Z[i].length))
  rw[dL6 hz,N3 (by omega)]
  simp[inR]at this;omega
 ·have hz:i<t.o8.Z.length:=by omega
  have:=h5 _ (bd9 hz)
  rw[aI9]at this
  have lr:=hm.rl i hz
  have:=bi6.1 this.2 j (by omega)
  rw[fi3]at this
  rw[dL6 hz,dL6 hz]
  exact this
theorem dB6 {t:o6}(h:aY5 t=true):bn9 t.o8=true:=by
 unfold aY5 at h
 simp only[aI9]at h
 exact h.1.1.1.1
theorem dB5 {t:o6}(h:aY5 t=true):bv9 t.C1=true:=by
 unfold aY5 at h
 simp only[aI9]at h
 exact h.1.1.1.2
theorem ec7 {t:o6}(h:aY5 t=true)(late:Int):∃e,as8 t.C1 late=some e/\0<=e/\e<=1000/\
  ∀o f c,0<=o->o<=10000->0<=f->f<=c->1<=c->c<=8->Y3 t o late f c=some ((o*e*f)/(1000*c)):=by
 obtain⟨i,hi,e⟩:=cd2 (dB5 h) late
 have hb:=cN3 (ew1 h).c hi (ew1 h).e
 refine⟨_,e,hb.1,hb.2,fun o f c o0 o1 f0 f1 c0 c1=>?_⟩
 generalize cuV t.C1 i (lim t.C1.X late)=v at hb e
 have p0:0<=o*v:=eT0 o0 hb.1
 have p1:o*v<=10000*1000:=eR2 o1 hb.2 hb.1 (by omega)
 have q0:0<=o*v*f:=eT0 p0 f0
 have q1:o*v*f<=10000*1000*8:=eR2 p1 (by omega) f0 (by omega)
 unfold Y3
 rw[e,aD6,j4 (n:=o*v) (by omega) (by omega),j4 (n:=o*v*f) (by omega) (by omega),j4 (n:=1000*c) (by omega) (by omega)]
 unfold bm5
 rw[if_neg (by omega),aD6,cA0 q0]
 have r0:0<=o*v*f/(1000*c):=eO6 q0 (by omega)
 have r1:o*v*f/(1000*c)<=o*v*f:=eM1 _ q0
 have:=j4 (n:=o*v*f/(1000*c)) (by omega) (by omega)
 unfold j7 at this
 rw[this]
def sAt (m:SMap)(x y:Int):Int:=(X8 m x y).getD 0
def cAt (c:P8)(x:Int):Int:=(as8 c x).getD 0
theorem cT6 {m:SMap}(h:bn9 m=true)(x y:Int):X8 m x y=some (sAt m x y):=by
 obtain⟨i,j,_,_,e⟩:=ed9 h x y
 unfold sAt;rw[e];rfl
theorem dE7 {c:P8}(h:bv9 c=true)(x:Int):as8 c x=some (cAt c x):=by
 obtain⟨i,_,e⟩:=cd2 h x
 unfold cAt;rw[e];rfl
theorem cg0 {m:SMap}(h:bn9 m=true)(x y:Int){lo hi:Int}(hz:∀i j,i<m.X.length->j<m.Y.length->lo<=zz m i j/\zz m i j<=hi):lo<=sAt m x y/\sAt m x y<=hi:=by
 obtain⟨i,j,a,b,e⟩:=ed9 h x y
 have:=dE2 (bZ5 h) a b hz
 unfold sAt;rw[e];exact this
theorem cc9 {c:P8}(h:bv9 c=true)(x:Int){lo hi:Int}(hy:∀j,j<c.X.length->lo<=nd c.Y j/\nd c.Y j<=hi):lo<=cAt c x/\cAt c x<=hi:=by
 obtain⟨i,a,e⟩:=cd2 h x
 have:=cN3 (bl5 h) a hy
 unfold cAt;rw[e];exact this
theorem aZ5 {lo hi x:Int}:inR lo hi x=true↔lo<=x/\x<=hi:=by
 unfold inR
 rw[aI9,fi3,fi3]
theorem fc7 {m:SMap}(h:bn9 m=true){lo hi:Int}(hz:∀r∈m.Z,r.all (inR lo hi)=true):∀i j,i<m.X.length->j<m.Y.length->lo<=zz m i j/\zz m i j<=hi:=by
 intro i j hi' hj
 have k:=bZ5 h
 have hiz:i<m.Z.length:=by have:=k.zl;omega
 have hjz:j<m.Z[i].length:=by have:=k.rl i hiz;omega
 have:=hz _ (bd9 hiz)
 rw[bF0]at this
 have:=this _ (bd9 hjz)
 rw[bU9 hiz hjz]
 exact aZ5.1 this
theorem eT9 {c:P8}(h:bv9 c=true){lo hi:Int}(hy:c.Y.all (inR lo hi)=true):∀j,j<c.X.length->lo<=nd c.Y j/\nd c.Y j<=hi:=by
 intro j hj
 have k:=bl5 h
 have hjy:j<c.Y.length:=by have:=k.yl;omega
 rw[bF0]at hy
 rw[N3 hjy]
 exact aZ5.1 (hy _ (bd9 hjy))
structure eV0 (t:o6):Prop where
 m:bn9 t.Air=true
 c:bv9 t.L3=true
 z:∀i j,i<t.Air.X.length->j<t.Air.Y.length->0<=zz t.Air i j/\zz t.Air i j<=1048576
 y:∀j,j<t.L3.X.length->100<=nd t.L3.Y j/\nd t.L3.Y j<=3000
theorem eV8 {t:o6}(h:cW4 t=true):eV0 t:=by
 unfold cW4 at h
 simp only[aI9]at h
 obtain⟨⟨⟨h1,h2⟩,h3⟩,h4⟩:=h
 refine⟨h1,h2,fc7 h1 fun r hr=>?_,eT9 h2 h4⟩
 have:=bF0.1 h3 r hr
 unfold cJ5 at this
 rw[aI9]at this
 exact this.1
def chV (t:o6)(s p q:Int):Int:=min 1048576 (sAt t.Air s p*cAt t.L3 q/1000)
theorem aU6 {a b A B:Int}(a0:0<=a)(a1:a<=A)(b0:0<=b)(b1:b<=B):0<=a*b/\a*b<=A*B:=⟨eT0 a0 b0,eR2 a1 b1 b0 (by omega)⟩
theorem db2 {t:o6}(h:cW4 t=true)(s p q:Int):aB5 t s p q=some (chV t s p q)/\0<=chV t s p q/\chV t s p q<=1048576:=by
 have k:=eV8 h
 have b1:=cg0 k.m s p k.z
 have b2:=cc9 k.c q k.y
 have b3:=aU6 (A:=1048576) (B:=3000) b1.1 b1.2 (by omega) b2.2
 unfold aB5 chV
 rw[cT6 k.m,dE7 k.c]
 simp only[aD6]
 rw[j4 (by omega) (by omega),bR0 _ _ (by omega) (by omega) (by omega) (by omega)]
 simp only[aD6,aq0]
 exact⟨trivial,by omega,by omega⟩
theorem Q8 {lo hi x:Int}(h0:lo<=x)(h1:x<=hi):inR lo hi x=true:=aZ5.2 ⟨h0,h1⟩
theorem ci0 {t:o6}(h:cW4 t=true){s p q:Int}(s0:0<=s/\s<=12000)(p0:50<=p/\p<=3000)(q0:-40<=q/\q<=150):aB4 t s p q=some (chV t s p q,0):=by
 unfold aB4
 rw[bF8,h,af1,af1,af1,Q8 s0.1 s0.2,Q8 p0.1 p0.2,Q8 q0.1 q0.2,(db2 h s p q).1]
 rfl
structure fd8 (t:o6)(s w q p e:Int):Prop where
 out:e=0\/e=2\/e=7
 ran:e=2↔¬(0<=w/\w<=1048576)
 fit:e=0->50<=p/\p<=3000/\w<=chV t s p q
 low:e=0->50<p->chV t s (p-1) q<w
 big:e=7->chV t s 3000 q<w
theorem dy0 {t:o6}(h:cW4 t=true){s w q:Int}(s0:0<=s/\s<=12000)(q0:-40<=q/\q<=150):∃p e,au4 t s w q=some (p,e)/\fd8 t s w q p e:=by
 unfold au4
 rw[bF8,h,af1,af1,af1,Q8 s0.1 s0.2,Q8 q0.1 q0.2]
 simp only[aD6,aX3,fh8]
 cases hw:inR 0 1048576 w
 ·have hw2:¬(0<=w/\w<=1048576):=fun h2=>by rw[aZ5.2 h2]at hw;cases hw
  exact⟨0,2,rfl,.inr (.inl rfl),⟨fun _=>hw2,fun _=>rfl⟩,fun h=>(by cases h),fun h=>(by cases h),fun h=>(by cases h)⟩
 ·have hw2:=aZ5.1 hw
  simp only[aX3,fh8]
  obtain⟨k,k1,k2,k3,k4⟩:=aR8 2951 (by omega) (fun x0=>aj5 x0 t s q w) (fun i=>decide (chV t s (50+(i:Int)) q>=w)) (fun i hi=>by
   unfold aj5
   rw[j4 (by omega) (by omega),(db2 h s _ q).1]
   rfl)
  have k2':P6 2951 (fun x0=>aj5 x0 t s q w)=some (k:Int):=k2
  rw[k2']
  simp only[aD6]
  rw[j4 (n:=50+(k:Int)) (by omega) (by omega)]
  by_cases hk:k=2951
  ·subst hk
   refine⟨0,7,rfl,.inr (.inr rfl),⟨fun h=>(by cases h),fun h=>absurd hw2 h⟩,fun h=>(by cases h),fun h=>(by cases h),fun _=>?_⟩
   have:=k3 (by omega)
   rw[fi4]at this
   have e:(50:Int)+((2951-1:Nat):Int)=3000:=by omega
   rw[e]at this
   omega
  ·have h4:=k4 (by omega)
   rw[fi3]at h4
   rw[fi2 (show¬(50+(k:Int)>3000) by omega)]
   refine⟨50+(k:Int),0,rfl,.inl rfl,⟨fun h=>(by cases h),fun h=>absurd hw2 h⟩,fun _=>⟨by omega,by omega,by omega⟩,fun _ hp=>?_,fun h=>(by cases h)⟩
   have h3:=k3 (by omega)
   rw[fi4]at h3
   have e:(50:Int)+((k-1:Nat):Int)=50+(k:Int)-1:=by omega
   rw[e]at h3
   omega
def eb3 (s:Int):Int:=-((-(s*65536*23040))/60000000)
theorem dJ5 {s:Int}(s0:0<=s/\s<=12000):0<=eb3 s/\eb3 s<=310000:=by unfold eb3;omega
def dc7 (s p:Int):Int:=eb3 s*p/1024
theorem eB4 {s p:Int}(s0:0<=s/\s<=12000)(p0:50<=p/\p<=3000):bc9 s p=some (dc7 s p,0)/\0<=dc7 s p/\dc7 s p<=930000000:=by
 have r:=dJ5 s0
 have b:=aU6 (B:=3000) r.1 r.2 (show 0<=p by omega) p0.2
 unfold bc9 aw8 am4
 rw[af1,af1,Q8 s0.1 s0.2,Q8 p0.1 p0.2]
 rw[show((decide (s<0))||(decide (s>20000)))=false by rw[bN3];exact⟨fi2 (by omega),fi2 (by omega)⟩]
 rw[j4 (n:=s*65536) (by omega) (by omega),j4 (n:=s*65536*23040) (by omega) (by omega),bW2 _ _ 2 (by omega) (by omega) (by omega) (by omega) (.inr rfl)]
 simp only[aD6,aX3,fh8]
 rw[if_neg (by decide)]
 have er:-((-(s*65536*23040))/60000000)=eb3 s:=rfl
 unfold dc7
 rw[er,j4 (n:=eb3 s*p) (by omega) (by omega),cA0 b.1,j4 (by omega) (by omega)]
 exact⟨rfl,by omega,by omega⟩
structure eK5 (b:L0):Prop where
 i:100<=b.ai3/\b.ai3<=1048576
 f:0<=b.ao9/\b.ao9<=65536
 t:0<=b.I6/\b.I6<=65536
 v:1<=b.aO6/\b.aO6<=65536
 fi:0<=b.O8/\b.O8<=1023
 ev:1<=b.K7/\b.K7<=1024
 de:0<=b.aX1/\b.aX1<=20
def aV2 (b:L0):Bool:=inR 100 1048576 b.ai3&&inR 0 65536 b.ao9&&inR 0 65536 b.I6&&inR 1 65536 b.aO6&&inR 0 1023 b.O8&&inR 1 1024 b.K7&&inR 0 20 b.aX1
theorem dh8 (b:L0):ai9 b=some (aV2 b):=by
 unfold ai9 aV2
 have e:∀x lo hi,F5 x lo hi=some (inR lo hi x):=fun _ _ _=>rfl
 simp only[e,aD6]
 cases inR 100 1048576 b.ai3<;>cases inR 0 65536 b.ao9<;>cases inR 0 65536 b.I6<;>cases inR 1 65536 b.aO6<;>cases inR 0 1023 b.O8<;>cases inR 1 1024 b.K7<;>rfl
theorem br5 {b:L0}(h:aV2 b=true):eK5 b:=by
 unfold aV2 at h
 simp only[aI9,aZ5]at h
 obtain⟨⟨⟨⟨⟨⟨h1,h2⟩,h3⟩,h4⟩,h5⟩,h6⟩,h7⟩:=h
 exact⟨h1,h2,h3,h4,h5,h6,h7⟩
structure fe2 (b:L0)(f p n e:Int):Prop where
 out:e=0\/e=7
 fit:e=0->0<=n/\n<=1000/\f<=b.I6*n*(1013-p)/1000
 low:e=0->0<n->b.I6*(n-1)*(1013-p)/1000<f
 big:e=7->b.I6*1000*(1013-p)/1000<f
theorem dB2 {b:L0}(h:aV2 b=true){f p:Int}(f0:0<=f/\f<=1099511627776)(p0:50<=p/\p<=1013):∃n e,au5 b f p=some (n,e)/\fe2 b f p n e:=by
 have kb:=(br5 h).t
 have v:∀k:Nat,k<=1000->(j7 (db0 (j7 ((j7 (b.I6*(k:Int)))*(j7 (1013-p)))) 1000))=b.I6*(k:Int)*(1013-p)/1000:=by
  intro k hk
  have b1:=aU6 (A:=65536) (B:=1000) kb.1 kb.2 (show 0<=(k:Int) by omega) (by omega)
  have b2:=aU6 (A:=65536000) (B:=1000) b1.1 (by omega) (show 0<=1013-p by omega) (by omega)
  rw[j4 (n:=b.I6*(k:Int)) (by omega) (by omega),j4 (n:=1013-p) (by omega) (by omega),j4 (n:=b.I6*(k:Int)*(1013-p)) (by omega) (by omega),cA0 b2.1,j4 (by omega) (by omega)]
 unfold au5
 rw[dh8,h,af1,af1,Q8 f0.1 f0.2,Q8 p0.1 p0.2]
 simp only[aD6,aX3,fh8]
 obtain⟨k,k1,k2,k3,k4⟩:=aR8 1001 (by omega) (fun x0=>aj6 x0 b p f) (fun i=>decide (b.I6*(i:Int)*(1013-p)/1000>=f)) (fun i hi=>by
  unfold aj6
  rw[v i (by omega)])
 have k2':P6 1001 (fun x0=>aj6 x0 b p f)=some (k:Int):=k2
 rw[k2']
 simp only[aD6]
 by_cases hk:k=1001
 ·subst hk
  refine⟨0,7,rfl,.inr rfl,fun h=>(by cases h),fun h=>(by cases h),fun _=>?_⟩
  have:=k3 (by omega)
  rw[fi4]at this
  have e:((1001-1:Nat):Int)=1000:=by omega
  rw[e]at this
  omega
 ·have h4:=k4 (by omega)
  rw[fi3]at h4
  rw[fi2 (show¬((k:Int)>1000) by omega)]
  refine⟨(k:Int),0,rfl,.inl rfl,fun _=>⟨by omega,by omega,by omega⟩,fun _ hp=>?_,fun h=>(by cases h)⟩
  have h3:=k3 (by omega)
  rw[fi4]at h3
  have e:((k-1:Nat):Int)=(k:Int)-1:=by omega
  rw[e]at h3
  omega
def cR4 (t:o6)(s c:Int):Int:=sAt t.o8 s c
def bN2 (t:o6)(o l f n:Int):Int:=o*cAt t.C1 l*f/(1000*n)
theorem aY4 (x lo hi:Int):H3 x lo hi=some (inR lo hi x):=rfl
theorem eq0 {t:o6}(h:aY5 t=true){s c:Int}(s0:0<=s/\s<=12000)(c0:0<=c/\c<=1048576):ag6 t s c=some (cR4 t s c,0)/\0<=cR4 t s c/\cR4 t s c<=10000:=by
 have k:=dB6 h
 have b:=cg0 k s c (ew1 h).z
 refine⟨?_,b.1,b.2⟩
 unfold ag6
 rw[bo3,h,aY4,aY4,Q8 s0.1 s0.2,Q8 c0.1 c0.2,cT6 k]
 rfl
theorem dL0 {t:o6}(h:aY5 t=true){o l f n:Int}(o0:0<=o/\o<=10000)(f0:0<=f/\f<=n)(n0:1<=n/\n<=8):Y3 t o l f n=some (bN2 t o l f n)/\0<=bN2 t o l f n/\bN2 t o l f n<=10000:=by
 obtain⟨e,h1,h2,h3,h4⟩:=ec7 h l
 unfold bN2 cAt
 rw[h4 o f n o0.1 o0.2 f0.1 f0.2 n0.1 n0.2,h1]
 have b1:=aU6 (A:=10000) (B:=1000) o0.1 o0.2 h2 h3
 have b2:=aU6 (A:=10000000) b1.1 (by omega) f0.1 f0.2
 refine⟨rfl,eO6 b2.1 (by omega),?_⟩
 have:o*e*f/(1000*n)<=10000000*n/(1000*n):=Int.ediv_le_ediv (by omega) b2.2
 rw[show 10000000*n=10000*(1000*n) by omega,Int.mul_ediv_cancel _ (by omega)]at this
 exact this
theorem eo1 {t:o6}(h:aY5 t=true){s w:Int}(s0:0<=s/\s<=12000):∃c e,ao8 t s w=some (c,e)/\(e=0\/e=7)/\
  (e=0->nd t.o8.Y 0<=c/\c<=nd t.o8.Y (t.o8.Y.length-1)/\w<=sAt t.o8 s c/\(nd t.o8.Y 0<c->sAt t.o8 s (c-1)<w))/\(e=7->sAt t.o8 s (nd t.o8.Y (t.o8.Y.length-1))<w):=by
 have k:=dB6 h
 have ky:=(bZ5 k).y
 have y2:=ky.two
 have ym:=ky.most
 have e0:=ky.el 0 (by omega)
 have e1:=ky.el (t.o8.Y.length-1) (by omega)
 have le:=ky.le (t.o8.Y.length-1) 0 (by omega) (by omega)
 rw[<-N3 (by omega:0<t.o8.Y.length)]at e0 le
 rw[<-N3 (by omega:t.o8.Y.length-1<t.o8.Y.length)]at e1 le
 have g0:C9 t.o8.Y 0=some (nd t.o8.Y 0):=by have:=C5 t.o8.Y 0 (by omega);rw[N3 (by omega)];exact this
 have ew:j7 ((t.o8.Y.length:Int)-1)=((t.o8.Y.length-1:Nat):Int):=by rw[j4 (by omega) (by omega)];omega
 have gl:C9 t.o8.Y ((t.o8.Y.length-1:Nat):Int)=some (nd t.o8.Y (t.o8.Y.length-1)):=by rw[C5 _ _ (by omega),N3 (by omega)]
 unfold ao8
 rw[bo3,h,aY4,Q8 s0.1 s0.2]
 simp only[aD6,aX3,fh8]
 rw[g0,ew]
 simp only[aD6]
 rw[gl]
 simp only[aD6]
 generalize nd t.o8.Y 0=a at*
 generalize nd t.o8.Y (t.o8.Y.length-1)=b at*
 rw[j4 (n:=b-a) (by omega) (by omega),j4 (n:=b-a+1) (by omega) (by omega)]
 obtain⟨n,hn⟩:∃n:Nat,b-a+1=n:=⟨(b-a+1).toNat,by omega⟩
 rw[hn]
 obtain⟨j,k1,k2,k3,k4⟩:=aR8 n (by omega) (fun x0=>al5 x0 t s a w) (fun i=>decide (sAt t.o8 s (a+(i:Int))>=w)) (fun i hi=>by
  unfold al5
  rw[j4 (by omega) (by omega),cT6 k];rfl)
 rw[k2]
 simp only[aD6]
 by_cases hj:j=n
 ·subst hj
  refine⟨0,7,by simp,.inr rfl,fun h=>(by cases h),fun _=>?_⟩
  have:=k3 (by omega)
  rw[fi4,show a+((j-1:Nat):Int)=b by omega]at this
  omega
 ·have:((j:Int)==(n:Int))=false:=by
   rw[beq_eq_false_iff_ne];omega
  rw[this,j4 (n:=a+(j:Int)) (by omega) (by omega)]
  have h4:=k4 (by omega)
  rw[fi3]at h4
  refine⟨a+(j:Int),0,rfl,.inl rfl,fun _=>⟨by omega,by omega,by omega,fun hp=>?_⟩,fun h=>(by cases h)⟩
  have h3:=k3 (by omega)
  rw[fi4,show a+((j-1:Nat):Int)=a+(j:Int)-1 by omega]at h3
  omega
structure ey5 (t:o6)(o w n f l:Int):Prop where
 f0:0<=f
 f1:f<=n
 l0:0<=l
 l1:l<=2560
 fit:f=0\/bN2 t o 2560 f n<=w
 more:f<n->w<bN2 t o 2560 (f+1) n
 late:l<2560->bN2 t o l f n<=w
 less:0<l->w<bN2 t o (l-1) f n
theorem cT9 {t:o6}(h:aY5 t=true){o w n:Int}(o0:0<=o/\o<=10000)(n0:1<=n/\n<=8):∀k:Nat,(k:Int)<=n->((k:Int)<n->w<bN2 t o 2560 ((k:Int)+1) n)->
  ∃f,J7 (al7 t w n (o,0)) (k:Int)=some (.inl f)/\0<=f/\f<=n/\(f=0\/bN2 t o 2560 f n<=w)/\(f<n->w<bN2 t o 2560 (f+1) n)
 |0,_,hm=>⟨0,D7 (by unfold al7;rfl),dv9 _,by omega,.inl rfl,hm⟩
 |k+1,hk,hm=>by
  have he:=(dL0 h (l:=2560) (f:=((k+1:Nat):Int)) o0 ⟨by omega,hk⟩ n0).1
  have hb:al7 t w n (o,0) ((k+1:Nat):Int)=some (bif decide (bN2 t o 2560 ((k+1:Nat):Int) n<=w)then .inr (.inl ((k+1:Nat):Int))else .inl (k:Int)):=by
   unfold al7
   rw[fi1 (show((k+1:Nat):Int)>0 by omega),he,j4 (by omega) (by omega),show((k+1:Nat):Int)-1=(k:Int) by omega]
   simp only[fi0,aD6]
   cases decide (bN2 t o 2560 ((k+1:Nat):Int) n<=w)<;>rfl
  by_cases hc:bN2 t o 2560 ((k+1:Nat):Int) n<=w
  ·rw[fi1 hc]at hb
   exact⟨_,D7 hb,by omega,hk,.inr hc,hm⟩
  ·rw[fi2 hc]at hb
   rw[G6 hb]
   exact cT9 h o0 n0 k (by omega) (fun _=>by rw[show(k:Int)+1=((k+1:Nat):Int) by omega];omega)
theorem et2 {t:o6}(h:aY5 t=true){s c w n:Int}(s0:0<=s/\s<=12000)(c0:0<=c/\c<=1048576)(w0:0<=w)(n0:1<=n/\n<=8):∃f l,al6 t s c w n=some (f,l,0)/\ey5 t (cR4 t s c) w n f l:=by
 obtain⟨h1,h2⟩:=eq0 h s0 c0
 unfold al6
 rw[h1]
 simp only[aD6]
 rw[show(((0:Int) !=0)=false)from rfl,aY4,Q8 n0.1 n0.2,fi2 (show¬w<0 by omega)]
 simp only[fh8,aD6,aX3,Bool.or_self]
 generalize cR4 t s c=o at h2
 obtain⟨k,hk⟩:∃k:Nat,n=k:=⟨n.toNat,by omega⟩
 obtain⟨f,f1,f2,f3,f4,f5⟩:=cT9 h (w:=w) h2 n0 k (by omega) (fun h=>by omega)
 rw[<-hk]at f1
 rw[f1]
 simp only[aD6]
 obtain⟨j,k1,k2,k3,k4⟩:=aR8 2560 (by omega) (fun x0=>ak4 x0 t o f n w) (fun i=>decide (bN2 t o (i:Int) f n<=w)) (fun i hi=>by
  unfold ak4
  rw[(dL0 h h2 ⟨f2,f3⟩ n0).1];rfl)
 have k2':P6 2560 (fun x0=>ak4 x0 t o f n w)=some (j:Int):=k2
 rw[k2']
 refine⟨f,(j:Int),rfl,f2,f3,by omega,by omega,f4,f5,fun hl=>?_,fun hl=>?_⟩
 ·have:=k4 (by omega)
  rwa[fi3]at this
 ·have:=k3 (by omega)
  rw[fi4,show((j-1:Nat):Int)=(j:Int)-1 by omega]at this
  omega
theorem ec6 {t:o6}(h:aY5 t=true){s c l f n:Int}(s0:0<=s/\s<=12000)(c0:0<=c/\c<=1048576)(l0:0<=l/\l<=2560)(f0:0<=f/\f<=n)(n0:1<=n/\n<=8):av5 t s c l f n=some (bN2 t (cR4 t s c) l f n,0):=by
 obtain⟨h1,h2⟩:=eq0 h s0 c0
 unfold av5
 rw[h1]
 simp only[aD6]
 rw[show(((0:Int) !=0)=false)from rfl,aY4,aY4,aY4,Q8 l0.1 l0.2,Q8 n0.1 n0.2,Q8 f0.1 f0.2,(dL0 h h2 f0 n0).1]
 rfl
def cG0 (n f i:Int):Bool:=decide ((i+1)*f/n>i*f/n)
theorem eE5 {a b:Int}(ha:0<=a)(hb:0<b)(hm:a<=9223372036854775807):bm5 .i64 a b=some (a/b):=by
 have h1:a/b<=a:=eM1 _ ha
 have h2:0<=a/b:=eO6 ha (by omega)
 unfold bm5
 rw[if_neg (by omega),cA0 ha]
 have:=j4 (n:=a/b) (by omega) (by omega)
 unfold j7 at this
 rw[this]
theorem dI4 {n:Nat}{f:Int}(n0:1<=n/\n<=8)(f0:0<=f/\f<=n):ar3 (n:Int) f 0=some ((dC2 n).map (fun i:Nat=>cG0 n f (i:Int)),0):=by
 unfold ar3
 rw[aY4,aY4,aY4,Q8 (by omega) (by omega),Q8 f0.1 f0.2]
 simp only[aD6,aX3,fh8]
 rw[show inR 0 1099511627776 0=true from rfl,bV9 n (by omega)]
 simp only[aD6,aX3,fh8]
 obtain⟨u,e,hu⟩:=af9 (cG8 n false).length (by simp;omega) (ar4 (n:Int) f 0) (fun i u=>u.length=n/\∀j,j<i->u[j]? =some (cG0 n f (j:Int))) (cG8 n false) ⟨by simp,fun j hj=>by omega⟩ (fun j hj u hu=>by
  simp only[eH4]at hj
  obtain⟨hl,hg⟩:=hu
  unfold ar4
  have m1:=aU6 (A:=9) (B:=8) (show 0<=(j:Int)+1 by omega) (by omega) f0.1 (by omega)
  have m2:=aU6 (A:=9) (B:=8) (show 0<=(j:Int) by omega) (by omega) f0.1 (by omega)
  have er:cf7 (j7 ((j:Int)+0)) (n:Int)=some (j:Int):=by
   unfold cf7
   rw[if_neg (by omega),Int.add_zero,j4 (by omega) (by omega),Int.tmod_eq_emod_of_nonneg (by omega),Int.emod_eq_of_lt (by omega) (by omega)]
  rw[er]
  simp only[aD6]
  rw[j4 (n:=(j:Int)+1) (by omega) (by omega),j4 (n:=((j:Int)+1)*f) (by omega) (by omega),j4 (n:=(j:Int)*f) (by omega) (by omega),eE5 m1.1 (by omega) (by omega),eE5 m2.1 (by omega) (by omega)]
  simp only[aD6]
  rw[C5 _ _ (by omega)]
  simp only[aD6]
  rw[T4 _ _ _ (by omega)]
  refine⟨_,rfl,by simp[hl],fun i hi=>?_⟩
  rcases dc9 i j with h|h
  ·rw[fd1 (by omega)];exact hg i h
  ·have:i=j:=by omega
   subst this
   rw[List.getElem?_set_self (by omega)];rfl)
 rw[e]
 simp only[eH4]at hu
 have:u=(dC2 n).map (fun i:Nat=>cG0 n f (i:Int)):=by
  apply List.ext_getElem?
  intro i
  rcases dc9 i n with h|h
  ·rw[hu.2 i h,List.getElem?_map,List.getElem?_range h];rfl
  ·rw[ed5 (by omega),ed5 (by simp;omega)]
 rw[this]
 rfl
@[ext] structure aL2 where
 bn0:Int
 Low:Int
def aF3 (x:B4):Option Int:=
 bif ((x.Kind==1)||(x.Kind==2))then(some (j7 (2*(j7 (x.o9-1)))))else(some (j7 ((j7 (2*(j7 (x.o9-1))))+1)))
def cF7 (kind:Int):Option Bool:=
 some ((kind==1)||(kind==3))
def aP4 (t2:u0):Option u0:=
 ai2 (ai2 (R6 ([]:List j5) t2.j1) fun l=>some (⟨t2.T1,l⟩:u0)) fun(f2:u0)=>some f2
def by2 (s:c8):Option c8:=
 ai2 (R6 ([]:List Int) s.u4.z8) fun l=>ai2 (aP4 s.j9) fun v=>ai2 (R6 ([]:List A0) s.Next) fun l2=>ai2 (R6 ([]:List A4) s.G3) fun l3=>some (⟨(⟨l,s.u4.ao2⟩:o4),s.A1,v,l2,l3,s.Cut⟩:c8)
def be6 (a:Int):Option Int:=
 bif (decide (a<0))then(some (aW6.wrap (0-(aW6.wrap a))))else(some (aW6.wrap a))
def bR8 (w:aL2)(c:Int)(s:Int×Int×Int):Option ((Int×Int×Int)⊕((Int×Int×Int)⊕Empty)):=
 bif (decide (s.2.2>=0))then(ai2 (et4 .u64 w.Low (aW6.wrap s.2.2)) fun q=>bif (((D0 .u64 s.1 63)==1)||(decide ((aW6.wrap ((bO2 .u64 s.1 1)+(N2 .u64 q 1)))>=c)))then(some (.inl (aW6.wrap ((aW6.wrap ((bO2 .u64 s.1 1)+(N2 .u64 q 1)))-c),aW6.wrap ((bO2 .u64 s.2.1 1)+1),j7 (s.2.2-1))))else(some (.inl (aW6.wrap ((bO2 .u64 s.1 1)+(N2 .u64 q 1)),bO2 .u64 s.2.1 1,j7 (s.2.2-1)))))else(some (.inr (.inl (s.1,s.2.1,s.2.2))))
def cm8 (w:aL2)(c:Int):Option (Int×Int×Bool):=
 bif (decide (w.bn0>=c))then(some (0,0,false))else(ai2 (J7 (bR8 w c) (w.bn0,0,63)) fun(t:(Int×Int×Int)⊕Empty)=>match t with| .inl s2=>(some (s2.2.1,s2.1,true))| .inr r=>r.elim)
def ce7 (a b2:Int):Option aL2:=
 some (⟨aW6.wrap ((aW6.wrap ((aW6.wrap ((D0 .u64 a 32)*(D0 .u64 b2 32)))+(D0 .u64 (aW6.wrap ((aW6.wrap ((D0 .u64 a 32)*(N2 .u64 b2 4294967295)))+(D0 .u64 (aW6.wrap ((N2 .u64 a 4294967295)*(N2 .u64 b2 4294967295))) 32))) 32)))+(D0 .u64 (aW6.wrap ((aW6.wrap ((N2 .u64 a 4294967295)*(D0 .u64 b2 32)))+(N2 .u64 (aW6.wrap ((aW6.wrap ((D0 .u64 a 32)*(N2 .u64 b2 4294967295)))+(D0 .u64 (aW6.wrap ((N2 .u64 a 4294967295)*(N2 .u64 b2 4294967295))) 32))) 4294967295))) 32)),aW6.wrap ((bO2 .u64 (aW6.wrap ((aW6.wrap ((N2 .u64 a 4294967295)*(D0 .u64 b2 32)))+(N2 .u64 (aW6.wrap ((aW6.wrap ((D0 .u64 a 32)*(N2 .u64 b2 4294967295)))+(D0 .u64 (aW6.wrap ((N2 .u64 a 4294967295)*(N2 .u64 b2 4294967295))) 32))) 4294967295))) 32)+(N2 .u64 (aW6.wrap ((N2 .u64 a 4294967295)*(N2 .u64 b2 4294967295))) 4294967295))⟩:aL2)
def bY3 (a b2 c mode:Int):Option (Int×Int):=
 bif (((mode !=1)&&(mode !=2))&&(mode !=3))then(some (0,1))else(bif (c==0)then(some (0,10))else(ai2 (be6 c) fun v=>ai2 (be6 a) fun v2=>ai2 (be6 b2) fun v3=>ai2 (ce7 v2 v3) fun v4=>ai2 (cm8 v4 v) fun r2=>bif (!r2.2.2)then(some (0,9))else(ai2 (bif (mode==1)then(some ((((a !=0)&&(b2 !=0))&&(!((!((decide (a<0))==(decide (b2<0))))==(decide (c<0)))))&&(decide (r2.2.1>0))))else(bif (mode==2)then(some ((!(((a !=0)&&(b2 !=0))&&(!((!((decide (a<0))==(decide (b2<0))))==(decide (c<0))))))&&(decide (r2.2.1>0))))else(bif (mode==3)then(ai2 (bif (decide (r2.2.1>(aW6.wrap (v-r2.2.1))))then(some true)else(some ((r2.2.1==(aW6.wrap (v-r2.2.1)))&&(!(((a !=0)&&(b2 !=0))&&(!((!((decide (a<0))==(decide (b2<0))))==(decide (c<0))))))))) fun b3=>some b3)else(some false)))) fun(away:Bool)=>ai2 (bif away then(bif (r2.1==18446744073709551615)then(some (Sum.inr (0,9)))else(some (Sum.inl (aW6.wrap (r2.1+1)))))else(some (Sum.inl r2.1))) fun(t:Int⊕(Int×Int))=>match t with| .inl q=>(bif (((a !=0)&&(b2 !=0))&&(!((!((decide (a<0))==(decide (b2<0))))==(decide (c<0)))))then(bif (decide (q>9223372036854775808))then(some (0,9))else(some (j7 (aW6.wrap (0-q)),0)))else(bif (decide (q>=9223372036854775808))then(some (0,9))else(some (j7 q,0))))| .inr r3=>some r3)))
def cv7 (a b2 mode:Int):Option (Int×Int):=
 ai2 (bY3 a 1 b2 mode) fun r2=>some (r2.1,r2.2)
def ce6 (a b2:Int):Option Int:=
 ai2 (cv7 a b2 1) fun r2=>some r2.1
def cF8 (a b2:Int):Option Int:=
 ai2 (ce6 (j7 (0-a)) b2) fun v=>some (j7 (0-v))
def bM9 (s:c8)(channel i:Int):Option (Int⊕(Int⊕Int)):=
 bif (decide (i<(s.G3.length:Int)))then(ai2 (C9 s.G3 i) fun x=>ai2 (aF3 x.Event) fun v=>bif (v==channel)then(some (.inr (.inr i)))else(some (.inl (j7 (i+1)))))else(some (.inr (.inl i)))
def ce8 (s:c8)(channel:Int):Option Int:=
 ai2 (J7 (bM9 s channel) 0) fun(t:Int⊕Int)=>match t with| .inl _=>(some (-1))| .inr r2=>some r2
def bY4 (s:c8)(s2:Int×List j5×List A4):Option ((Int×List j5×List A4)⊕((Int×List j5×List A4)⊕Empty)):=
 bif (decide (s2.1<(s2.2.1.length:Int)))then(ai2 (ce8 (⟨s.u4,s.A1,(⟨s.j9.T1,s2.2.1⟩:u0),s.Next,s2.2.2,s.Cut⟩:c8) s2.1) fun v=>ai2 (bif (decide (v<0))then(some true)else(ai2 (C9 s2.2.2 v) fun x=>some (decide (x.Left>s.A1.am3)))) fun(v2:Bool)=>bif v2 then(some (.inl (j7 (s2.1+1),s2.2.1,s2.2.2)))else(ai2 (C9 s2.2.2 v) fun x2=>ai2 (cF8 (j7 (x2.Left*s.A1.E9)) s.A1.X1) fun v3=>bif (decide ((G4 (j7 (s.A1.At+v3)) (j7 (s.j9.T1+1)))<=1099511627776))then(ai2 (aj2 s2.2.2 v (⟨x2.Event,x2.Left,true,x2.At⟩:A4)) fun l=>ai2 (aj2 l v (⟨x2.Event,x2.Left,true,G4 (j7 (s.A1.At+v3)) (j7 (s.j9.T1+1))⟩:A4)) fun l2=>ai2 (cF7 x2.Event.Kind) fun v4=>ai2 (C9 s2.2.1 s2.1) fun x3=>ai2 (aj2 s2.2.1 s2.1 (⟨true,G4 (j7 (s.A1.At+v3)) (j7 (s.j9.T1+1)),v4,x3.K2⟩:j5)) fun l3=>some (.inl (j7 (s2.1+1),l3,l2)))else(some (.inl (j7 (s2.1+1),s2.2.1,s2.2.2)))))else(some (.inr (.inl (s2.1,s2.2.1,s2.2.2))))
def cv8 (s:c8):Option c8:=
 bif (s.Cut||(!s.A1.V6))then(some s)else(ai2 (J7 (bY4 s) (0,s.j9.j1,s.G3)) fun(t:(Int×List j5×List A4)⊕Empty)=>match t with| .inl s3=>(some (⟨s.u4,s.A1,(⟨s.j9.T1,s3.2.1⟩:u0),s.Next,s3.2.2,s.Cut⟩:c8))| .inr r=>r.elim)
def bS0 (t2:u0)(s:Int×Bool×Int):Option ((Int×Bool×Int)⊕((Int×Bool×Int)⊕Empty)):=
 bif (decide (s.2.2<(t2.j1.length:Int)))then(ai2 (C9 t2.j1 s.2.2) fun x=>ai2 (bif x.D6 then(ai2 (bif (!s.2.1)then(some true)else(some (decide (x.At<s.1)))) fun b2=>some b2)else(some false)) fun b3=>bif b3 then(some (.inl (x.At,true,j7 (s.2.2+1))))else(some (.inl (s.1,s.2.1,j7 (s.2.2+1)))))else(some (.inr (.inl (s.1,s.2.1,s.2.2))))
def be7 (t2:u0):Option (Int×Bool):=
 ai2 (J7 (bS0 t2) (0,false,0)) fun(t:(Int×Bool×Int)⊕Empty)=>match t with| .inl s2=>(some (s2.1,s2.2.1))| .inr r=>r.elim
def bD8 (s:List j6×Int×Bool×List j5)(s2:Int×List j5×List j6):Option ((Int×List j5×List j6)⊕((Int×List j5×List j6)⊕Empty)):=
 bif (decide (s2.1<(s2.2.1.length:Int)))then(ai2 (C9 s2.2.1 s2.1) fun x=>bif ((!x.D6)||(x.At !=s.2.1))then(some (.inl (j7 (s2.1+1),s2.2.1,s2.2.2)))else(ai2 (bif (!(x.K2==x.Next))then(ai2 (R6 s2.2.2 ([(⟨s.2.1,s2.1,x.Next⟩:j6)]:List j6)) fun l=>some l)else(some s2.2.2)) fun(f2:List j6)=>ai2 (aj2 s2.2.1 s2.1 (⟨false,0,false,x.Next⟩:j5)) fun l2=>some (.inl (j7 (s2.1+1),l2,f2))))else(some (.inr (.inl (s2.1,s2.2.1,s2.2.2))))
def bD7 (K1:Int)(v:u0)(s:List j6×Int×Bool×List j5):Option ((List j6×Int×Bool×List j5)⊕((List j6×Int×Bool×List j5)⊕Empty)):=
 bif (s.2.2.1&&(decide (s.2.1<=K1)))then(ai2 (J7 (bD8 s) (0,s.2.2.2,s.1)) fun(t:(Int×List j5×List j6)⊕Empty)=>match t with| .inl s3=>(ai2 (be7 (⟨v.T1,s3.2.1⟩:u0)) fun r3=>some (.inl (s3.2.2,r3.1,r3.2,s3.2.1)))| .inr r=>r.elim)else(some (.inr (.inl (s.1,s.2.1,s.2.2.1,s.2.2.2))))
def bR9 (t2:u0)(K1:Int):Option (u0×List j6):=
 ai2 (aP4 t2) fun v=>ai2 (be7 v) fun r2=>ai2 (J7 (bD7 K1 v) (([]:List j6),r2.1,r2.2,v.j1)) fun(t:(List j6×Int×Bool×List j5)⊕Empty)=>match t with| .inl s4=>(some ((⟨K1,s4.2.2.2⟩:u0),s4.1))| .inr r=>r.elim
def ce9 (s2:List j6×c8)(r2:Int×Bool)(s3:List A4×Int):Option ((List A4×Int)⊕((List A4×Int)⊕Empty)):=
 bif (decide (s3.2<(s2.2.G3.length:Int)))then(ai2 (C9 s2.2.G3 s3.2) fun x=>ai2 (bif (!x.D6)then(some true)else(some (x.At !=r2.1))) fun b2=>bif b2 then(ai2 (R6 s3.1 ([x]:List A4)) fun l2=>some (.inl (l2,j7 (s3.2+1))))else(some (.inl (s3.1,j7 (s3.2+1)))))else(some (.inr (.inl (s3.1,s3.2))))
def dH9 (K1:Int)(s2:List j6×c8):Option ((List j6×c8)⊕((List j6×c8)⊕Empty)):=
 ai2 (be7 (⟨s2.2.j9.T1,s2.2.j9.j1⟩:u0)) fun r2=>bif ((!r2.2)||(decide (r2.1>K1)))then(some (.inr (.inl (s2.1,(⟨(⟨s2.2.u4.z8,s2.2.u4.ao2⟩:o4),(⟨s2.2.A1.V6,s2.2.A1.At,s2.2.A1.G7,s2.2.A1.E9,s2.2.A1.X1,s2.2.A1.am3⟩:D8),(⟨s2.2.j9.T1,s2.2.j9.j1⟩:u0),s2.2.Next,s2.2.G3,s2.2.Cut⟩:c8)))))else(ai2 (bR9 (⟨s2.2.j9.T1,s2.2.j9.j1⟩:u0) r2.1) fun r3=>ai2 (R6 s2.1 r3.2) fun l=>ai2 (J7 (ce9 s2 r2) (([]:List A4),0)) fun(t:(List A4×Int)⊕Empty)=>match t with| .inl s4=>(ai2 (cv8 (⟨(⟨s2.2.u4.z8,s2.2.u4.ao2⟩:o4),(⟨s2.2.A1.V6,s2.2.A1.At,s2.2.A1.G7,s2.2.A1.E9,s2.2.A1.X1,s2.2.A1.am3⟩:D8),r3.1,s2.2.Next,s4.1,s2.2.Cut⟩:c8)) fun v2=>some (.inl (l,v2)))| .inr r=>r.elim)
end Go.Pv
namespace Go.Pv.Ev
open Go Go.Pv
theorem da4 {α:Type}(c:Bool)(x y:α):(bif c then some x else some y)=some (bif c then x else y):=by cases c<;>rfl
theorem eM8 {p:Prop}[Decidable p]{b:Bool}(h:p↔b=true):decide p=b:=by
 cases b
 ·exact fi2 fun hp=>Bool.noConfusion (h.1 hp)
 ·exact fi1 (h.2 rfl)
theorem bS4 {α:Type}[DecidableEq α]:∀{l m:List α},l.Nodup->(∀x∈l,x∈m)->m.length<=l.length->l.Perm m
 |[],m,_,_,h=>by
  have:m=[]:=List.length_eq_zero_iff.1 (Nat.le_zero.1 h)
  rw[this]
 |x::l,m,hn,hs,hl=>by
  have hx:x∈m:=hs x (bN8 ..)
  have hp:=List.perm_cons_erase hx
  rw[List.nodup_cons]at hn
  have hlen:=hp.length_eq
  simp only[bv4]at hlen hl
  refine(List.Perm.cons x (bS4 hn.2 (fun y hy=>?_) (by omega))).trans hp.symm
  have hne:y≠x:=fun h=>hn.1 (h▸hy)
  exact(List.mem_erase_of_ne hne).2 (hs y (List.mem_cons_of_mem _ hy))
theorem dZ7 {l:List Int}:(∀k,k<l.length->((k:Int)+1)∈l)↔(∀x∈l,1<=x/\x<=l.length)/\l.Nodup:=by
 have hN:((dC2 l.length).map (fun k:Nat=>(k:Int)+1)).Nodup:=by
  unfold List.Nodup
  rw[List.pairwise_map]
  exact List.Pairwise.imp (fun{a b} h=>by omega) List.pairwise_lt_range
 have hm:∀x:Int,x∈(dC2 l.length).map (fun k:Nat=>(k:Int)+1)↔1<=x/\x<=l.length:=by
  intro x
  rw[da1]
  constructor
  ·rintro⟨k,hk,rfl⟩
   rw[ej6]at hk
   omega
  ·intro h
   exact⟨(x-1).toNat,by rw[ej6];omega,by omega⟩
 constructor
 ·intro h
  have hp:((dC2 l.length).map (fun k:Nat=>(k:Int)+1)).Perm l:=bS4 hN (fun x hx=>by
   rw[da1]at hx
   obtain⟨k,hk,rfl⟩:=hx
   exact h k (ej6.1 hk)) (by simp)
  exact⟨fun x hx=>(hm x).1 (hp.mem_iff.2 hx),hp.nodup_iff.1 hN⟩
 ·rintro⟨h1,h2⟩ k hk
  have hp:l.Perm ((dC2 l.length).map (fun k:Nat=>(k:Int)+1)):=bS4 h2 (fun x hx=>(hm x).2 (h1 x hx)) (by simp)
  exact hp.mem_iff.2 ((hm _).2 (by omega))
def idx (v:Int):List Int->Nat->Int
 |[],_=>-1
 |x::l,i=>bif v==x then(i:Int)else idx v l (i+1)
theorem cP9 (v:Int):∀(l:List Int) (i:Nat),(idx v l i= -1/\v∉l)\/∃k:Nat,idx v l i=((i+k:Nat):Int)/\l[k]? =some v
 |[],i=>.inl ⟨rfl,by simp⟩
 |x::l,i=>by
  unfold idx
  cases h:v==x
  ·have hne:v≠x:=by simpa using h
   rcases cP9 v l (i+1)with⟨h1,h2⟩|⟨k,h1,h2⟩
   ·exact .inl ⟨h1,by simp[hne,h2]⟩
   ·exact .inr ⟨k+1,by simp only[fh8];rw[h1];omega,by simpa using h2⟩
  ·have:v=x:=by simpa using h
   exact .inr ⟨0,by simp,by simp[this]⟩
theorem dO8 (v:Int)(l:List Int):decide (idx v l 0>=0)=decide (v∈l):=by
 rcases cP9 v l 0 with⟨h1,h2⟩|⟨k,h1,h2⟩
 ·rw[h1];simp[h2]
 ·rw[h1];simp[List.mem_of_getElem? h2]
theorem dd5 (v:Int):∀(l:List Int) (i:Nat),(ai2 (L7 (fun(i:Int) x (_:Unit)=>bif (v==x)then(some (Fl.ret i))else(some (Fl.next ()))) l (i:Int) ()) fun(t:Unit⊕Int)=>match t with| .inl _=>(some (-1))| .inr r2=>some r2)=some (idx v l i)
 |[],i=>rfl
 |x::l,i=>by
  simp only[L7,idx]
  cases v==x
  ·simpa using dd5 v l (i+1)
  ·rfl
theorem bR7 (s:List Int)(v:Int)(h:s.length<=9223372036854775807):V5 s v=some (idx v s 0):=by
 unfold V5
 have:K5 (s.length:Int) (an5 s v) ()=L7 (fun(i:Int) x (_:Unit)=>bif (v==x)then(some (Fl.ret i))else(some (Fl.next ()))) s 0 ():=bb6 s h _ ()
 rw[this]
 exact dd5 v s 0
theorem contains_eq (s:List Int)(v:Int)(h:s.length<=9223372036854775807):P1 s v=some (decide (v∈s)):=by
 unfold P1
 rw[bR7 s v h,aD6,dO8]
def aD7 (e:o4):Prop:=1<=e.z8.length/\e.z8.length<=8/\0<=e.ao2/\e.ao2<46080/\(∀x∈e.z8,1<=x/\x<=(e.z8.length:Int))/\e.z8.Nodup
instance (e:o4):Decidable (aD7 e):=by unfold aD7;infer_instance
theorem ek9 {e:o4}(h:(((decide ((e.z8.length:Int)<1))||(decide ((e.z8.length:Int)>8)))|| !((decide (e.ao2>=0))&&(decide (e.ao2<46080))))=true):¬aD7 e:=by
 rintro⟨h1,h2,h3,h4,_⟩
 simp only[cI5,ck7,fc4,fi3,fi4]at h
 omega
theorem el0 {e:o4}(h:(((decide ((e.z8.length:Int)<1))||(decide ((e.z8.length:Int)>8)))|| !((decide (e.ao2>=0))&&(decide (e.ao2<46080))))=false):1<=e.z8.length/\e.z8.length<=8/\0<=e.ao2/\e.ao2<46080:=by
 simp only[bN3,ef3,aI9,fi3,fi4]at h
 omega
theorem ca6 {n:Nat}{p:Nat->Bool}:(ed4 0 n).all p=true↔∀k,k<n->p k=true:=by
 rw[bF0]
 constructor
 ·intro h k hk
  exact h k (by rw[List.mem_range'_1];omega)
 ·intro h k hk
  rw[List.mem_range'_1]at hk
  exact h k (by omega)
theorem an8 (e:o4):O5 e=some (decide (aD7 e)):=by
 unfold O5 ah4
 have hb:(ai2 (bif ((decide ((e.z8.length:Int)<1))||(decide ((e.z8.length:Int)>8)))then(some true)else(ai2 (some ((decide (e.ao2>=0))&&(decide (e.ao2<46080)))) fun v=>some (!v))):(Bool->Option Bool)->Option Bool)=fun k=>k (((decide ((e.z8.length:Int)<1))||(decide ((e.z8.length:Int)>8)))|| !((decide (e.ao2>=0))&&(decide (e.ao2<46080)))):=by
  funext k
  cases((decide ((e.z8.length:Int)<1))||(decide ((e.z8.length:Int)>8)))<;>rfl
 rw[hb]
 cases hh:(((decide ((e.z8.length:Int)<1))||(decide ((e.z8.length:Int)>8)))|| !((decide (e.ao2>=0))&&(decide (e.ao2<46080))))
 ·obtain⟨h1,h2,h3,h4⟩:=el0 hh
  have k:=dY0 (mb:=ar8 e) (fun i=>(i:Int)+1) (p:=fun i=>decide (((i:Int)+1)∈e.z8)) (b0:=.inl ((e.z8.length:Int)+1)) (b1:=.inr false) e.z8.length (by
   unfold ar8
   rw[show decide ((e.z8.length:Int)+1<=(e.z8.length:Int))=false by simp;omega];rfl) (fun k hk=>by
   unfold ar8
   simp only[show decide ((k:Int)+1<=(e.z8.length:Int))=true by simp;omega,fi0,contains_eq e.z8 _ (by omega),aD6,j4 (n:=(k:Int)+1+1) (by omega) (by omega)]
   cases decide (((k:Int)+1)∈e.z8)<;>rfl)
  simp only[show((0:Nat):Int)+1=1 from rfl]at k
  simp only[fh8]
  rw[k]
  have hP:aD7 e↔(ed4 0 e.z8.length).all (fun i=>decide (((i:Int)+1)∈e.z8))=true:=by
   rw[ca6]
   simp only[fi3]
   rw[dZ7]
   unfold aD7
   constructor
   ·rintro⟨_,_,_,_,h5,h6⟩;exact⟨h5,h6⟩
   ·rintro⟨h5,h6⟩;exact⟨h1,h2,h3,h4,h5,h6⟩
  rw[eM8 hP]
  cases(ed4 0 e.z8.length).all (fun i=>decide (((i:Int)+1)∈e.z8))<;>rfl
 ·simp only[fi0]
  rw[fi2 (ek9 hh)]
end Go.Pv.Ev
namespace Go.Pv
open Go
def k0:B6:=⟨0,100,0⟩
def eK2:A5:=⟨⟨0,0,false⟩,⟨0⟩,[],⟨false,false,0,0,[]⟩,0,⟨0,0⟩⟩
def dI6:M6:=⟨false,false,1000,0,cG8 9 ⟨0,0⟩⟩
def eD5 (n:Nat):A5:=⟨⟨0,0,false⟩,⟨0⟩,cG8 n k0,dI6,0,⟨0,-1⟩⟩
theorem ea9 (n:Nat)(h1:1<=n)(h8:n<=8):P3 [k0] (n:Int)=some (cG8 n k0):=by
 have key:J7 aJ3 (1,aI5 (cG8 n ⟨0,0,0⟩) [k0])=some (.inl ((n:Int),cG8 n k0)):=by
  have:n=1\/n=2\/n=3\/n=4\/n=5\/n=6\/n=7\/n=8:=by omega
  rcases this with rfl|rfl|rfl|rfl|rfl|rfl|rfl|rfl
  ·exact D7 (by rfl)
  ·exact(G6 (s':=(2,[k0,k0])) (by rfl)).trans (D7 (by rfl))
  ·exact(G6 (s':=(2,[k0,k0,⟨0,0,0⟩])) (by rfl)).trans ((G6 (s':=(3,[k0,k0,k0])) (by rfl)).trans (D7 (by rfl)))
  ·exact(G6 (s':=(2,[k0,k0,⟨0,0,0⟩,⟨0,0,0⟩])) (by rfl)).trans ((G6 (s':=(4,[k0,k0,k0,k0])) (by rfl)).trans (D7 (by rfl)))
  ·exact(G6 (s':=(2,[k0,k0,⟨0,0,0⟩,⟨0,0,0⟩,⟨0,0,0⟩])) (by rfl)).trans ((G6 (s':=(4,[k0,k0,k0,k0,⟨0,0,0⟩])) (by rfl)).trans ((G6 (s':=(5,[k0,k0,k0,k0,k0])) (by rfl)).trans (D7 (by rfl))))
  ·exact(G6 (s':=(2,[k0,k0,⟨0,0,0⟩,⟨0,0,0⟩,⟨0,0,0⟩,⟨0,0,0⟩])) (by rfl)).trans ((G6 (s':=(4,[k0,k0,k0,k0,⟨0,0,0⟩,⟨0,0,0⟩])) (by rfl)).trans ((G6 (s':=(6,[k0,k0,k0,k0,k0,k0])) (by rfl)).trans (D7 (by rfl))))
  ·exact(G6 (s':=(2,[k0,k0,⟨0,0,0⟩,⟨0,0,0⟩,⟨0,0,0⟩,⟨0,0,0⟩,⟨0,0,0⟩])) (by rfl)).trans ((G6 (s':=(4,[k0,k0,k0,k0,⟨0,0,0⟩,⟨0,0,0⟩,⟨0,0,0⟩])) (by rfl)).trans ((G6 (s':=(7,[k0,k0,k0,k0,k0,k0,k0])) (by rfl)).trans (D7 (by rfl))))
  ·exact(G6 (s':=(2,[k0,k0,⟨0,0,0⟩,⟨0,0,0⟩,⟨0,0,0⟩,⟨0,0,0⟩,⟨0,0,0⟩,⟨0,0,0⟩])) (by rfl)).trans ((G6 (s':=(4,[k0,k0,k0,k0,⟨0,0,0⟩,⟨0,0,0⟩,⟨0,0,0⟩,⟨0,0,0⟩])) (by rfl)).trans ((G6 (s':=(8,[k0,k0,k0,k0,k0,k0,k0,k0])) (by rfl)).trans (D7 (by rfl))))
 have a1:bz8 (aW6.wrap (([k0]:List B6).length:Int)) (aW6.wrap (n:Int))=some (0,(n:Int)):=by
  have:n=1\/n=2\/n=3\/n=4\/n=5\/n=6\/n=7\/n=8:=by omega
  rcases this with rfl|rfl|rfl|rfl|rfl|rfl|rfl|rfl<;>rfl
 have a2:aX7 (j7 (n:Int)) (⟨0,0,0⟩:B6)=some (cG8 n ⟨0,0,0⟩):=by
  have:n=1\/n=2\/n=3\/n=4\/n=5\/n=6\/n=7\/n=8:=by omega
  rcases this with rfl|rfl|rfl|rfl|rfl|rfl|rfl|rfl<;>rfl
 have a3:(((min ([k0]:List B6).length (cG8 n (⟨0,0,0⟩:B6)).length:Nat):Int))=1:=by rw[eH4,cr0];omega
 unfold P3
 rw[fi2 (by omega),fh8,aD6,a1,aD6]
 simp only
 rw[fi2 (by omega:¬(0:Int)>0),fi2 (by omega),eZ0,fh8,aD6,a2,aD6,a3,key]
 rfl
theorem ea2:aK8=some dI6:=rfl
theorem bQ5 (e:o4):az1 e=some (bif decide (Ev.aD7 e)then(eD5 e.z8.length,0)else(eK2,1)):=by
 unfold az1
 rw[Ev.an8,aD6]
 by_cases h:Ev.aD7 e
 ·rw[fi1 h,aX3,fh8]
  have h1:=h.1
  have h8:=h.2.1
  have:aU2 (e.z8.length:Int)=some (cG8 e.z8.length k0,0):=by
   unfold aU2
   rw[fi2 (by omega),fi2 (by omega),eZ0,fh8,show([(⟨0,100,0⟩:B6)]:List B6)=[k0]from rfl,ea9 _ h1 h8]
   rfl
  rw[this,ea2]
  rfl
 ·rw[fi2 h];rfl
def cY3 (p:U2):Bool:=decide (0<=p.Value/\p.Value<=1000/\0<=p.ae9/\p.ae9<=3/\(p.aQ1=true↔p.ae9=3)/\(p.aQ1=true->p.Value<=200))
theorem eq3 (p:U2):aw9 p=some (cY3 p):=by
 obtain⟨v,d,f⟩:=p
 unfold aw9 cY3
 cases f
 ·simp only[fh8,aD6,aH6]
  apply bb1
  by_cases q:d=3<;>simp[q]<;>omega
 ·simp only[fi0,aD6,aH6]
  apply bb1
  by_cases q:d=3<;>simp[q]<;>omega
def da7 (c:aa7):Bool:=inR (-100) 100 c.Value&&inR 0 1000 c.E0
def cQ9 (p:M6):Bool:=inR 750 1250 p.aj4&&inR 0 1000 p.bc8&&decide (p.Cells.length=9)&&(p.al8||(decide (p.aj4=1000)&&decide (p.bc8=0)&& !p.bc7))&&p.Cells.all da7
theorem ei3 (c:aa7):aa9 c=some (!da7 c):=by
 unfold aa9 da7
 rw[show R7 c.Value (-100) 100=some (inR (-100) 100 c.Value)from rfl,show R7 c.E0 0 1000=some (inR 0 1000 c.E0)from rfl]
 cases inR (-100) 100 c.Value<;>rfl
theorem dI1 (p:M6):ac0 p=some (cQ9 p):=by
 unfold ac0 cQ9
 rw[show R7 p.aj4 750 1250=some (inR 750 1250 p.aj4)from rfl,show R7 p.bc8 0 1000=some (inR 0 1000 p.bc8)from rfl,aD6]
 cases inR 750 1250 p.aj4
 ·rfl
 cases inR 0 1000 p.bc8
 ·rfl
 by_cases h9:p.Cells.length=9
 ·have:((p.Cells.length:Int) !=9)=false:=by simp;omega
  have k:Q6 p.Cells aa9=some (p.Cells.any fun c=>!da7 c):=ah7 p.Cells (by omega) aa9 _ (fun c _=>ei3 c)
  rw[this,k,fi1 h9,dS2]
  simp only[aX3,fh8,aD6,cM4,eZ0,eH9]
  cases p.al8
  ·have e:((p.aj4 !=1000||p.bc8 !=0)||p.bc7)= !(decide (p.aj4=1000)&&decide (p.bc8=0)&& !p.bc7):=by
    cases p.bc7<;>by_cases a:p.aj4=1000<;>by_cases b:p.bc8=0<;>simp[a,b]
   simp only[cJ0,fi0,aD6,ed0]
   rw[e]
   cases(decide (p.aj4=1000)&&decide (p.bc8=0)&& !p.bc7)<;>rfl
  ·rfl
 ·have:((p.Cells.length:Int) !=9)=true:=by simp;omega
  rw[this,fi2 h9]
  rfl
def knB (k:B6):Bool:=inR 0 960 k.as4&&inR 0 4095 k.aH3&&decide (k.Quiet>=0)&&decide (k.Quiet<=99)
theorem eI8 (k:B6):aw4 k=some (knB k):=by
 unfold aw4 knB
 rw[show ah0 k.aH3=some (inR 0 4095 k.aH3)from rfl,show(decide (k.as4>=0)&&decide (k.as4<=960))=inR 0 960 k.as4 from rfl]
 have e:decide (k.Quiet<100)=decide (k.Quiet<=99):=by apply bb1;rw[fi3,fi3];omega
 rw[e]
 cases inR 0 960 k.as4<;>rfl
def bx9 (e:o4)(c:A5):Bool:=decide (Ev.aD7 e)&&cY3 c.I4&&cQ9 c.P9&&decide (c.aa6.length=e.z8.length)&&c.aa6.all knB&&inR (-4398046511104) 4398046511104 c.ae3.Sum&&inR 0 1073741824 c.O8&&inR (-5000) 10000 c.af0.o8&&inR (-1) 15 c.af0.N1
theorem dO4 (e:o4)(c:A5):ap5 e c=some (bx9 e c):=by
 unfold ap5 bx9
 rw[Ev.an8,eq3,dI1]
 simp only[aD6]
 by_cases h:Ev.aD7 e
 ·rw[fi1 h]
  cases cY3 c.I4
  ·rfl
  cases cQ9 c.P9
  ·rfl
  by_cases hl:c.aa6.length=e.z8.length
  ·have:((c.aa6.length:Int) !=(e.z8.length:Int))=false:=by simp;omega
   have h8:=h.2.1
   have k:I7 c.aa6 aj8=some (c.aa6.any fun k=>!knB k):=ah7 c.aa6 (by omega) aj8 _ (fun k _=>by unfold aj8;rw[eI8];rfl)
   rw[this,fi1 hl,k,dS2]
   simp only[aX3,fh8,aD6,cM4,eZ0,eH9]
   rw[show J1 c.ae3.Sum (-4398046511104) 4398046511104=some (inR (-4398046511104) 4398046511104 c.ae3.Sum)from rfl,show J1 c.O8 0 1073741824=some (inR 0 1073741824 c.O8)from rfl,
    show J1 c.af0.o8 (-5000) 10000=some (inR (-5000) 10000 c.af0.o8)from rfl,show J1 c.af0.N1 (-1) 15=some (inR (-1) 15 c.af0.N1)from rfl]
   cases c.aa6.all knB
   ·rfl
   cases inR (-4398046511104) 4398046511104 c.ae3.Sum
   ·rfl
   cases inR 0 1073741824 c.O8
   ·rfl
   cases inR (-5000) 10000 c.af0.o8<;>rfl
  ·have:((c.aa6.length:Int) !=(e.z8.length:Int))=true:=by simp;omega
   rw[this,fi2 hl];rfl
 ·rw[fi2 h];rfl
def cT4 (r:j2):Bool:=decide (0<=r.N1/\r.N1<=15/\0<=r.E4/\r.E4<=15/\ -5000<=r.o8/\r.o8<=10000/\(r.Kind=1\/(r.N1<=1/\(r.Kind=2\/r.Kind=3))))
theorem dJ1 (r:j2):R9 r=some (cT4 r):=by
 obtain⟨s,k,t,p⟩:=r
 unfold R9 cT4 O9
 simp only
 cases hb:((((decide (s<0))||(decide (s>15)))||(decide (p<0)))||(decide (p>15)))
 ·rw[fh8,aD6,aD6]
  cases ht:(decide (t>= -5000)&&decide (t<=10000))
  ·rw[cJ0,fi0,aH6]
   symm;rw[fi4]
   simp at hb ht;omega
  ·rw[aX3,fh8]
   simp at hb ht
   by_cases q:k=1
   ·subst q
    simp;omega
   ·have:(k==1)=false:=by simp;exact q
    rw[this,fh8]
    by_cases z:s<=1
    ·rw[fi1 z,fi0,aD6,aD6,aH6]
     apply bb1
     simp;omega
    ·rw[fi2 z,fh8,aD6,aD6,aH6]
     symm;rw[fi4];omega
 ·rw[fi0,aD6,fi0,aH6]
  symm;rw[fi4]
  simp at hb;omega
def eg7 (i:W4)(n:Int):Bool:=inR 1 8 n&&decide ((i.X0.length:Int)=n)&&decide (i.Requests.length<=30)&&inR 0 12000 i.D1&&inR 50 3000 i.K9&&inR (-40) 150 i.L3&&inR (-40) 150 i.au3&&inR 0 20000 i.aH9&&inR 0 20000 i.Lambda&&i.X0.all (inR 0 4095)&&i.Requests.all cT4
theorem eM6 (x lo hi:Int):J1 x lo hi=some (inR lo hi x):=rfl
theorem eL5 (i:W4)(n:Int):au8 i n=some (eg7 i n):=by
 unfold au8 eg7
 simp only[eM6,aD6]
 cases hn:inR 1 8 n
 ·rfl
 have hn':1<=n/\n<=8:=by unfold inR at hn;simp at hn;omega
 by_cases hl:(i.X0.length:Int)=n
 ·by_cases hr:i.Requests.length<=30
  ·have k:D5 i.Requests ag9=some (i.Requests.any fun k=>!cT4 k):=ah7 i.Requests (by omega) ag9 _ (fun k _=>by unfold ag9;rw[dJ1];rfl)
   have h1:((i.X0.length:Int) !=n)=false:=by simp;exact hl
   rw[h1,fi2 (by omega),fi1 hl,fi1 hr,k,bd4 _ (by omega),dS2]
   simp only[aX3,fh8,aD6,cM4,eZ0,eH9]
   cases inR 0 12000 i.D1
   ·rfl
   cases inR 50 3000 i.K9
   ·rfl
   cases inR (-40) 150 i.L3
   ·rfl
   cases inR (-40) 150 i.au3
   ·rfl
   cases inR 0 20000 i.aH9
   ·rfl
   cases inR 0 20000 i.Lambda
   ·rfl
   cases i.X0.all (inR 0 4095)<;>rfl
  ·rw[fi1 (by omega:(i.Requests.length:Int)>30),fi2 hr,Bool.or_true,ff6];rfl
 ·have h1:((i.X0.length:Int) !=n)=true:=by simp;exact hl
  rw[h1,fi2 hl];rfl
structure eV3 (p:U2):Prop where
 v:0<=p.Value/\p.Value<=1000
 d:0<=p.ae9/\p.ae9<=3
 f:p.aQ1=true↔p.ae9=3
 l:p.aQ1=true->p.Value<=200
theorem dP9 {p:U2}:cY3 p=true↔eV3 p:=by
 unfold cY3
 rw[fi3]
 exact⟨fun⟨a,b,c,d,e,f⟩=>⟨⟨a,b⟩,⟨c,d⟩,e,f⟩,fun⟨⟨a,b⟩,⟨c,d⟩,e,f⟩=>⟨a,b,c,d,e,f⟩⟩
def dx5 (p:U2)(a b:Int):U2:=
 let f:=min (max a 0) 1000
 let s:=2*min (max b 0) 500
 let w:=decide (max (f-s) (s-f)>50)
 let d:=if w then min 3 (p.ae9+1)else if p.aQ1 then p.ae9 else 0
 if d=3 then⟨min (min f s) 200,d,true⟩else if w then⟨min (min f s) p.Value,d,false⟩else⟨f,d,false⟩
theorem cR9 {p:U2}(h:cY3 p=true)(a b:Int):aL8 p a b=some (dx5 p a b,0)/\cY3 (dx5 p a b)=true:=by
 have k:=dP9.1 h
 have k1:=k.v;have k2:=k.d;have k3:=k.f;have k4:=k.l
 constructor
 ·unfold aL8 dx5
  rw[eq3,h,aB7,aB7]
  simp only[aD6,aX3,fh8,aq0,an9]
  have f0:0<=min (max a 0) 1000/\min (max a 0) 1000<=1000:=by omega
  have s0:0<=min (max b 0) 500/\min (max b 0) 500<=500:=by omega
  generalize min (max a 0) 1000=f at f0
  generalize min (max b 0) 500=s at s0
  rw[j4 (n:=2*s) (by omega) (by omega),j4 (n:=f-2*s) (by omega) (by omega),j4 (n:=2*s-f) (by omega) (by omega),j4 (n:=p.ae9+1) (by omega) (by omega)]
  cases hw:decide (max (f-2*s) (2*s-f)>50)
  ·simp only[fh8,do8,if_false]
   cases hf:p.aQ1
   ·simp only[cJ0,fi0,aD6,do8,if_false]
    rfl
   ·have:=k3.1 hf
    simp only[aX3,fh8,aD6,if_true]
    rw[this]
    rfl
  ·simp only[fi0,aD6,if_true]
   by_cases hd:min 3 (p.ae9+1)=3
   ·rw[hd];rfl
   ·rw[if_neg hd,show(min 3 (p.ae9+1)==3)=false from beq_eq_false_iff_ne.2 hd];rfl
 ·rw[dP9]
  unfold dx5
  simp only
  have f0:0<=min (max a 0) 1000/\min (max a 0) 1000<=1000:=by omega
  have s0:0<=min (max b 0) 500/\min (max b 0) 500<=500:=by omega
  generalize min (max a 0) 1000=f at f0
  generalize min (max b 0) 500=s at s0
  have hd:∀w:Bool,0<=(if w=true then min 3 (p.ae9+1)else if p.aQ1=true then p.ae9 else 0)/\(if w=true then min 3 (p.ae9+1)else if p.aQ1=true then p.ae9 else 0)<=3:=by
   intro w;split
   ·omega
   ·split<;>omega
  have hd:=hd (decide (max (f-2*s) (2*s-f)>50))
  generalize(if decide (max (f-2*s) (2*s-f)>50)=true then min 3 (p.ae9+1)else if p.aQ1=true then p.ae9 else 0)=d at hd
  by_cases h3:d=3
  ·rw[if_pos h3];exact⟨by simp only;omega,hd,⟨fun _=>h3,fun _=>rfl⟩,fun _=>by simp only;omega⟩
  ·rw[if_neg h3]
   split
   ·exact⟨by simp only;omega,hd,⟨fun h=>(by cases h),fun h=>absurd h h3⟩,fun h=>(by cases h)⟩
   ·exact⟨by simp only;omega,hd,⟨fun h=>(by cases h),fun h=>absurd h h3⟩,fun h=>(by cases h)⟩
def dB9 (t:o6)(v s:Int):Int:=min (max (sAt t.aH5 s v) (-5000)) 10000
theorem eH0 {t:o6}(h:bn9 t.aH5=true){v s:Int}(v0:0<=v/\v<=1000)(s0:0<=s/\s<=12000):aL9 t v s=some (dB9 t v s,0):=by
 unfold aL9
 rw[an8,h,cT6 h]
 simp only[aD6,aX3,fh8]
 rw[show(((decide (v<0))||(decide (v>1000)))||(decide (s<0)))=false by simp only[bN3,fi4];omega,show decide (s>12000)=false from fi2 (by omega),aB7,aq0,an9]
 rfl
theorem dL3 (t:o6)(v s:Int):-5000<=dB9 t v s/\dB9 t v s<=10000:=by unfold dB9;omega
def cy1 (c:Int):Int:=if c<= -20 then 1200 else if c>=70 then 800 else 1200-400*(c+20)/90
theorem dK6 {c:Int}(h:-40<=c/\c<=150):aw3 c=some (cy1 c)/\800<=cy1 c/\cy1 c<=1200:=by
 unfold aw3 cy1
 by_cases h1:c<= -20
 ·rw[fi1 h1,if_pos h1];exact⟨rfl,by omega,by omega⟩
 ·by_cases h2:c>=70
  ·rw[fi2 h1,fi1 h2,if_neg h1,if_pos h2];exact⟨rfl,by omega,by omega⟩
  ·rw[fi2 h1,fi2 h2,if_neg h1,if_neg h2,j4 (n:=c+20) (by omega) (by omega),j4 (n:=400*(c+20)) (by omega) (by omega),cA0 (by omega),j4 (n:=400*(c+20)/90) (by omega) (by omega),j4 (by omega) (by omega)]
   exact⟨rfl,by omega,by omega⟩
def dD3 (v s c:Int):Bool:=inR 0 19 v&&(inR 0 12000 s&&decide (s<cy1 c+300))
theorem ee6 {v s c:Int}(h:-40<=c/\c<=150):aw2 v s c=some (dD3 v s c):=by
 obtain⟨h1,h2⟩:=dK6 h
 unfold aw2 bb5 dD3
 rw[h1,show(decide (v>=0)&&decide (v<20))=inR 0 19 v by unfold inR;congr 1;rw[decide_eq_decide];omega,show ai8 s=some (inR 0 12000 s)from rfl]
 simp only[aD6]
 rw[j4 (by omega) (by omega)]
 cases inR 0 19 v<;>cases inR 0 12000 s<;>rfl
def bU3 (s:F4):Prop:=-4398046511104<=s.Sum/\s.Sum<=4398046511104
theorem eC3 {s:F4}{g:aV0}(hg:cA6 g=true)(hs:bU3 s){e:Int}(e0:-1048576<=e/\e<=1048576):∃s' u,ap9 s g e=some (s',u,0)/\bU3 s':=by
 have hs':=hs
 unfold bU3 at hs'
 unfold ap9
 rw[show Q1 g=some (cA6 g)from rfl,hg]
 simp only[aD6]
 rw[show((!true||decide (s.Sum<(-4398046511104)))||decide (s.Sum>4398046511104))=false by simp only[aX3,ed0,bN3,fi4];omega]
 rw[show(decide (e<(-1048576))||decide (e>1048576))=false by simp only[bN3,fi4];omega]
 simp only[fh8]
 generalize D0 .i64 (j7 ((j7 (g.P*e))+s.Sum)) 10=u
 generalize(decide (u<=g.bn0)||decide (e<=0))=A
 generalize(decide (u>=g.Low)||decide (e>=0))=B
 cases A
 ·exact⟨s,_,rfl,hs⟩
 ·cases B
  ·exact⟨s,_,rfl,hs⟩
  ·refine⟨⟨_⟩,_,rfl,?_⟩
   unfold bU3
   simp only[aq0,an9]
   omega
theorem en0 {s:F4}{g:aV0}(hg:cA6 g=true)(hs:bU3 s){c v:Int}(c0:-40<=c/\c<=150)(v0:0<=v/\v<=12000):∃s' u,aE0 s g (cy1 c) v=some (s',u,0)/\bU3 s':=by
 obtain⟨_,t0,t1⟩:=dK6 c0
 obtain⟨s',u,h1,h2⟩:=eC3 hg hs (e:=cy1 c-v) (by omega)
 refine⟨s',u,?_,h2⟩
 unfold aE0
 rw[show Q1 g=some (cA6 g)from rfl,hg,show ai8 (cy1 c)=some (inR 0 12000 (cy1 c))from rfl,show ai8 v=some (inR 0 12000 v)from rfl,Q8 (show 0<=cy1 c by omega) (by omega),Q8 v0.1 v0.2,j4 (by omega) (by omega)]
 simp only[aD6,aX3,fh8]
 rw[h1];rfl
structure fd7 (k:B6):Prop where
 r:0<=k.as4/\k.as4<=960
 n:0<=k.aH3/\k.aH3<=4095
 q:0<=k.Quiet/\k.Quiet<=99
theorem eP6 {k:B6}:knB k=true↔fd7 k:=by
 unfold knB
 simp only[aI9,aZ5,fi3]
 exact⟨fun⟨⟨⟨a,b⟩,c⟩,d⟩=>⟨a,b,c,d⟩,fun⟨a,b,c,d⟩=>⟨⟨⟨a,b⟩,c⟩,d⟩⟩
def kst (k:B6)(n:Int):B6:=
 if n>3*k.aH3+40 then⟨min (k.as4+96) 960,k.aH3,0⟩
 else if k.Quiet+1=100 then⟨max (k.as4-16) 0,k.aH3+(n-k.aH3)/8,0⟩else⟨k.as4,k.aH3+(n-k.aH3)/8,k.Quiet+1⟩
theorem eP7 {k:B6}{n:Int}(h:knB k=true)(n0:inR 0 4095 n=true):(∃b,aG9 k n=some (kst k n,b))/\knB (kst k n)=true:=by
 have o:=eP6.1 h
 have o1:=o.r;have o2:=o.n;have o3:=o.q
 have n1:=aZ5.1 n0
 constructor
 ·unfold aG9 kst
  rw[j4 (n:=3*k.aH3) (by omega) (by omega),j4 (n:=3*k.aH3+40) (by omega) (by omega)]
  by_cases h1:n>3*k.aH3+40
  ·rw[fi1 h1,if_pos h1,j4 (n:=k.as4+96) (by omega) (by omega),aq0]
   exact⟨_,rfl⟩
  ·rw[fi2 h1,if_neg h1,j4 (n:=k.Quiet+1) (by omega) (by omega),j4 (n:=k.as4-16) (by omega) (by omega),j4 (n:=n-k.aH3) (by omega) (by omega),bR0 _ _ (by omega) (by omega) (by omega) (by omega),an9]
   by_cases h2:k.Quiet+1=100
   ·rw[show(k.Quiet+1==100)=true from beq_iff_eq.2 h2,if_pos h2]
    simp only[fh8,fi0,aD6]
    rw[j4 (by omega) (by omega)]
    exact⟨_,rfl⟩
   ·rw[show(k.Quiet+1==100)=false from beq_eq_false_iff_ne.2 h2,if_neg h2]
    simp only[fh8,aD6]
    rw[j4 (by omega) (by omega)]
    exact⟨_,rfl⟩
 ·rw[eP6]
  unfold kst
  split
  ·exact⟨by simp only;omega,by simp only;omega,by simp only;omega⟩
  ·split
   ·exact⟨by simp only;omega,by simp only;omega,by simp only;omega⟩
   ·exact⟨by simp only;omega,by simp only;omega,by simp only;omega⟩
def ksV (l:List B6)(m:List Int):List B6:=List.zipWith kst l m
theorem eJ0 {l:List B6}{m:List Int}(h:l.all knB=true)(hm:m.all (inR 0 4095)=true)(hl:1<=l.length/\l.length<=8)(he:m.length=l.length):
  aU1 l m=some (ksV l m,0)/\(ksV l m).all knB=true/\(ksV l m).length=l.length:=by
 rw[bF0]at h hm
 have hlen:(ksV l m).length=l.length:=by unfold ksV;rw[List.length_zipWith];omega
 have cX7:∀j (h1:j<l.length) (h2:j<m.length),(ksV l m)[j]? =some (kst l[j] m[j]):=by
  intro j h1 h2
  unfold ksV
  rw[List.getElem?_zipWith,aW5 h1,aW5 h2]
 have hk:∀j (h1:j<l.length) (h2:j<m.length),(∃b,aG9 l[j] m[j]=some (kst l[j] m[j],b))/\knB (kst l[j] m[j])=true:=fun j h1 h2=>eP7 (h _ (bd9 h1)) (hm _ (bd9 h2))
 refine⟨?_,?_,hlen⟩
 ·have a1:I7 l az8=some (l.any fun k=>!knB k):=ah7 l (by omega) az8 _ (fun k _=>by unfold az8;rw[eI8];rfl)
  have a2:o5 m aF2=some (m.any fun k=>!inR 0 4095 k):=ap4 m (by omega) aF2 _ (fun k _=>rfl)
  have b1:(l.any fun k=>!knB k)=false:=by rw[dC3];intro x hx;rw[h x hx];simp
  have b2:(m.any fun k=>!inR 0 4095 k)=false:=by rw[dC3];intro x hx;rw[hm x hx];simp
  unfold aU1
  rw[show(((decide ((l.length:Int)<1))||(decide ((l.length:Int)>8)))||((m.length:Int) !=(l.length:Int)))=false by simp;omega,a1,b1,a2,b2]
  simp only[fh8,aD6]
  unfold ac9
  rw[H5 _ _ (by simp;omega)]
  simp only[aD6,cW3]
  obtain⟨u,e,hu⟩:=af9 l.length (by omega) (aL6 l m) (fun i u=>u.length=l.length/\∀j,j<i->u[j]? =(ksV l m)[j]?) l ⟨rfl,fun j hj=>by omega⟩ (fun j hj u hu=>by
   obtain⟨⟨b,hb⟩,_⟩:=hk j hj (by omega)
   unfold aL6
   rw[C5 _ _ hj,C5 _ _ (show j<m.length by omega)]
   simp only[aD6]
   rw[hb]
   simp only[aD6]
   rw[C5 _ _ (by omega)]
   simp only[aD6]
   rw[T4 _ _ _ (by omega)]
   refine⟨_,rfl,by simp[hu.1],fun i hi=>?_⟩
   rcases dc9 i j with h|h
   ·rw[fd1 (by omega)];exact hu.2 i h
   ·have:i=j:=by omega
    subst this
    rw[List.getElem?_set_self (by omega),cX7 i hj (by omega)])
  rw[e]
  have:u=ksV l m:=by
   apply List.ext_getElem?
   intro i
   rcases dc9 i l.length with h|h
   ·exact hu.2 i h
   ·rw[ed5 (by omega),ed5 (by omega)]
  rw[this]
  rfl
 ·rw[bF0]
  intro x hx
  obtain⟨j,hj,rfl⟩:=cY2.1 hx
  have h1:j<l.length:=by omega
  have:=cX7 j h1 (by omega)
  rw[aW5 hj]at this
  rw[Option.some.inj this]
  exact(hk j h1 (by omega)).2
structure eV2 (p:M6):Prop where
 f:750<=p.aj4/\p.aj4<=1250
 w:0<=p.bc8/\p.bc8<=1000
 n:p.Cells.length=9
 a:p.al8=true\/(p.aj4=1000/\p.bc8=0/\p.bc7=false)
 c:p.Cells.all da7=true
theorem eo8 {p:M6}:cQ9 p=true↔eV2 p:=by
 unfold cQ9
 simp only[aI9,aZ5,fi3,cI5,ck7]
 exact⟨fun⟨⟨⟨⟨a,b⟩,c⟩,d⟩,e⟩=>⟨a,b,c,d.imp_right (fun h=>⟨h.1.1,h.1.2,h.2⟩),e⟩,fun⟨a,b,c,d,e⟩=>⟨⟨⟨⟨a,b⟩,c⟩,d.imp_right (fun h=>⟨⟨h.1,h.2.1⟩,h.2.2⟩)⟩,e⟩⟩
def mxR (p:M6)(m:Int):Bool:=decide (m>500)||(decide (m>=400)&&p.bc7)
def mxV (p:M6)(m:Int):M6:=
 bif p.al8 then
  (bif mxR p m==p.bc7 then⟨true,mxR p m,min (max (p.aj4+bif mxR p m then -1 else 1) 750) 1250,min 1000 (p.bc8+1),p.Cells⟩
  else⟨true,mxR p m,min (max (p.aj4+bif mxR p m then -15 else 15) 750) 1250,0,p.Cells⟩)
 else⟨decide (m<300)||decide (m>600),decide (m>600),p.aj4,p.bc8,p.Cells⟩
theorem eP9 (x lo hi:Int):R7 x lo hi=some (inR lo hi x):=rfl
theorem dx9 (s c:Int):ac1 s c=some (inR 0 12000 s&&inR 0 1048576 c):=by
 unfold ac1
 rw[eP9,eP9]
 cases inR 0 12000 s<;>rfl
theorem de7 {p:M6}(h:cQ9 p=true){m s c:Int}(m0:0<=m/\m<=20000)(s0:0<=s/\s<=12000)(c0:0<=c/\c<=1048576):ay6 p m s c=some (mxV p m,0)/\cQ9 (mxV p m)=true:=by
 have k:=eo8.1 h
 have k1:=k.f;have k2:=k.w;have k3:=k.n
 constructor
 ·unfold ay6 aw5 ag3 mxV
  rw[dI1,h,dx9,Q8 s0.1 s0.2,Q8 c0.1 c0.2,eP9,Q8 m0.1 m0.2,H5 _ _ (by simp;omega)]
  simp only[aD6,aX3,fh8,Bool.and_self,cW3]
  cases ha:p.al8
  ·rfl
  ·simp only[aX3,fh8,fi0]
   have hr:(bif (decide (m>500))then(some true)else(some ((decide (m>=400))&&p.bc7)))=some (mxR p m):=by unfold mxR;cases decide (m>500)<;>rfl
   rw[hr,j4 (n:=p.bc8+1) (by omega) (by omega)]
   simp only[aD6,aq0]
   cases mxR p m==p.bc7
   ·simp only[cJ0,fi0,fh8,aD6]
    cases mxR p m
    ·simp only[fh8,aD6,aB7,aq0,an9]
     rw[j4 (by omega) (by omega)]
    ·simp only[fi0,aD6,aB7,aq0,an9]
     rw[j4 (n:=0-15) (by omega) (by omega),j4 (by omega) (by omega)]
     rfl
   ·simp only[aX3,fi0,fh8,aD6]
    cases mxR p m
    ·simp only[fh8,aD6,aB7,aq0,an9]
     rw[j4 (by omega) (by omega)]
    ·simp only[fi0,aD6,aB7,aq0,an9]
     rw[j4 (n:=0-1) (by omega) (by omega),j4 (by omega) (by omega)]
     rfl
 ·rw[eo8]
  unfold mxV
  cases ha:p.al8
  ·have a:=k.a
   rw[ha]at a
   obtain⟨a1,a2,a3⟩:=a.resolve_left (by simp)
   refine⟨k1,k2,k3,?_,k.c⟩
   by_cases hm:m>600
   ·exact .inl (by show(decide (m<300)||decide (m>600))=true;rw[fi1 hm,Bool.or_true])
   ·exact .inr ⟨a1,a2,fi2 hm⟩
  ·simp only[fi0]
   cases mxR p m==p.bc7
   ·exact⟨by simp only[fh8];omega,by simp only[fh8];omega,k3,.inl rfl,k.c⟩
   ·exact⟨by simp only[fi0];omega,by simp only[fi0];omega,k3,.inl rfl,k.c⟩
def dj4 (x a b:Int):Nat:=if x>=b then 2 else if x>=a then 1 else 0
theorem ei8 (x a b:Int)(hab:a<=b):ak1 x [a,b]=some (dj4 x a b:Int):=by
 have w1:j7 ((0:Int)+1)=1:=by decide
 have w2:j7 ((1:Int)+1)=2:=by decide
 unfold ak1 dj4
 rw[K4 _ (by simp)]
 simp only[L7,aA9]
 by_cases h1:x>=a
 ·by_cases h2:x>=b
  ·rw[fi1 h1,fi1 h2,if_pos h2]
   simp only[fi0,aD6,w1,w2];rfl
  ·rw[fi1 h1,fi2 h2,if_neg h2,if_pos h1]
   simp only[fi0,fh8,aD6,w1];rfl
 ·have h2:¬x>=b:=by omega
  rw[fi2 h1,fi2 h2,if_neg h2,if_neg h1]
  simp only[fh8,aD6];rfl
theorem db5 (x a b:Int):dj4 x a b<=2:=by unfold dj4;split;omega;split<;>omega
def dr5 (s c:Int):Nat:=3*dj4 s 1500 3500+dj4 c 150000 350000
def cO7 (p:M6)(s c:Int):Int:=min (max (p.aj4+(p.Cells.getD (dr5 s c) ⟨0,0⟩).Value) 700) 1300
theorem eN8 {p:M6}(h:cQ9 p=true){s c:Int}(s0:0<=s/\s<=12000)(c0:0<=c/\c<=1048576):aq2 p s c=some (cO7 p s c,0):=by
 have k:=eo8.1 h
 have k1:=k.f;have k3:=k.n
 have q1:=db5 s 1500 3500
 have q2:=db5 c 150000 350000
 have hc:dr5 s c<p.Cells.length:=by unfold dr5;omega
 have cl9:=bF0.1 k.c _ (bd9 hc)
 unfold da7 at cl9
 rw[aI9,aZ5]at cl9
 have hv:=cl9.1
 unfold aq2 aF4
 rw[dI1,h,dx9,Q8 s0.1 s0.2,Q8 c0.1 c0.2,ei8 _ _ _ (by omega),ei8 _ _ _ (by omega)]
 simp only[aD6,aX3,fh8,Bool.and_self]
 rw[j4 (n:=3*(dj4 s 1500 3500:Int)) (by omega) (by omega),j4 (by omega) (by omega),show 3*(dj4 s 1500 3500:Int)+(dj4 c 150000 350000:Int)=((dr5 s c:Nat):Int) by unfold dr5;omega,C5 _ _ hc]
 simp only[aD6]
 unfold cO7
 rw[j4 (by omega) (by omega),aB7,aq0,an9,cZ0,aW5 hc]
 rfl
theorem dV9 (p:M6)(s c:Int):700<=cO7 p s c/\cO7 p s c<=1300:=by unfold cO7;omega
theorem cO6 (x lo hi:Int):ae7 x lo hi=some (inR lo hi x):=rfl
theorem el6 {c:Int}(c0:0<=c/\c<=1048576):aT8 c 1000=some (c*10000/147000,0):=by
 unfold aT8
 rw[cO6,cO6,Q8 c0.1 c0.2,show inR 500 2000 1000=true from rfl]
 simp only[aD6,aX3,fh8]
 rw[j4 (n:=c*10000) (by omega) (by omega),j4 (n:=1000*147) (by omega) (by omega),eE5 (by omega) (by omega) (by omega)]
 rfl
theorem dt7 {b:L0}(h:aV2 b=true):aI8 b=some true:=by
 have k:=br5 h
 have k1:=k.fi;have k2:=k.ev
 unfold aI8
 rw[cO6,cO6,Q8 k1.1 k1.2,Q8 (show 0<=b.K7 by omega) k2.2]
 rfl
def aS3 (b:L0)(i:Int):Int:=i*b.O8/1024
def ax6 (b:L0)(f:Int):Int:=f*b.K7/1024
theorem cV4 {b:L0}(h:aV2 b=true){i:Int}(i0:0<=i):0<=aS3 b i/\aS3 b i<=i:=by
 have k:=(br5 h).fi
 have b1:=aU6 (A:=i) i0 (dv9 i) k.1 k.2
 unfold aS3;omega
theorem by1 {b:L0}(h:aV2 b=true){i:Int}(i0:0<=i):0<=ax6 b i/\ax6 b i<=i:=by
 have k:=(br5 h).ev
 have b1:=aU6 (A:=i) i0 (dv9 i) (show 0<=b.K7 by omega) k.2
 unfold ax6;omega
theorem cP6 {b:L0}(h:aV2 b=true){f i:Int}(f0:0<=f/\f<=1073741824)(i0:0<=i/\i<=1048576):aA8 b f i=some (i-aS3 b i+ax6 b f,f+aS3 b i-ax6 b f):=by
 have k:=br5 h
 have k1:=k.fi;have k2:=k.ev
 have b1:=aU6 i0.1 i0.2 k1.1 k1.2
 have b2:=aU6 f0.1 f0.2 (show 0<=b.K7 by omega) k2.2
 have r1:=cV4 h i0.1
 have r2:=by1 h f0.1
 have e1:j7 (db0 (j7 (i*b.O8)) 1024)=aS3 b i:=by
  unfold aS3 at r1|-
  rw[j4 (n:=i*b.O8) (by omega) (by omega),cA0 b1.1,j4 (by omega) (by omega)]
 have e2:j7 (db0 (j7 (f*b.K7)) 1024)=ax6 b f:=by
  unfold ax6 at r2|-
  rw[j4 (n:=f*b.K7) (by omega) (by omega),cA0 b2.1,j4 (by omega) (by omega)]
 unfold aA8
 rw[e1,e2,j4 (n:=i-aS3 b i) (by omega) (by omega),j4 (n:=f+aS3 b i) (by omega) (by omega),j4 (by omega) (by omega),j4 (by omega) (by omega)]
theorem el2 {b:L0}(h:aV2 b=true){f:Int}(f0:0<=f/\f<=1073741824):aO1 b f 0=some (ax6 b f,f-ax6 b f,0):=by
 have r2:=by1 h f0.1
 have e0:aS3 b 0=0:=by unfold aS3;rw[Int.zero_mul];rfl
 unfold aO1
 rw[dt7 h,cO6,cO6,Q8 f0.1 f0.2,show inR 0 1048576 0=true from rfl,cP6 h f0 ⟨by omega,by omega⟩,e0]
 simp only[aD6,aX3,fh8]
 rw[fi2 (show¬(f+0-ax6 b f>1073741824) by omega),show(0:Int)-0+ax6 b f=ax6 b f by omega,show f+0-ax6 b f=f-ax6 b f by omega]
 rfl
theorem eB2 (f:Int->Option Int):aM3 f=ab3 (fun x=>ai2 (f x) fun v=>some (!decide (v>0))):=by
 funext s
 unfold aM3 ab3
 cases decide (s.1<s.2)
 ·rfl
 ·simp only[fi0]
  cases f (j7 (D0 .u64 (aW6.wrap (j7 (s.1+s.2))) 1))with
  |none=>rfl
  |some v=>simp only[aD6,eH9]
theorem find_spec (n:Nat)(hn:n<=2305843009213693951)(f:Int->Option Int)(g:Nat->Int)(hf:∀i,i<n->f (i:Int)=some (g i)):
  ∃(k:Nat) (b:Bool),k<=n/\aO4 (n:Int) f=some ((k:Int),b)/\(0<k->g (k-1)>0)/\(k<n->g k<=0):=by
 obtain⟨k,k1,k2,k3,k4⟩:=aR8 n hn (fun x=>ai2 (f x) fun v=>some (!decide (v>0))) (fun i=>!decide (g i>0)) (fun i hi=>by simp only[hf i hi,aD6])
 unfold P6 at k2
 have h3:0<k->g (k-1)>0:=fun h=>by have:=k3 h;simp at this;omega
 have h4:k<n->g k<=0:=fun h=>by have:=k4 h;simp at this;omega
 unfold aO4
 rw[eB2]
 cases hl:J7 (ab3 (fun x=>ai2 (f x) fun v=>some (!decide (v>0)))) (0,(n:Int))with
 |none=>rw[hl]at k2;cases k2
 |some t=>
  rw[hl]at k2
  cases t with
  |inr r=>exact r.elim
  |inl s2=>
   simp only[aD6,aH6]at k2
   simp only[aD6]
   rw[k2]
   rcases dc9 k n with h|h
   ·rw[fi1 (show(k:Int)<(n:Int) by omega),hf k h]
    exact⟨k,_,k1,rfl,h3,h4⟩
   ·rw[fi2 (show¬(k:Int)<(n:Int) by omega)]
    exact⟨k,_,k1,rfl,h3,h4⟩
structure ee5 (b:L0)(f m i x e:Int):Prop where
 out:e=0\/e=9
 inj:e=0->0<=i/\i<=1048576
 aE9:e=0->x=f+aS3 b i-ax6 b f
 ran:e=0->0<=x/\x<=1073741824
 fit:e=0->m<=i-aS3 b i+ax6 b f
 low:e=0->0<i->(i-1)-aS3 b (i-1)+ax6 b f<m
 big:e=9->1048576-aS3 b 1048576+ax6 b f<m\/∃j,0<=j/\j<=1048576/\m<=j-aS3 b j+ax6 b f/\(0<j->(j-1)-aS3 b (j-1)+ax6 b f<m)/\1073741824<f+aS3 b j-ax6 b f
theorem em1 {b:L0}(h:aV2 b=true){f m:Int}(f0:0<=f/\f<=1073741824)(m0:0<=m/\m<=1048576):∃i x e,aI7 b f m=some (i,x,e)/\ee5 b f m i x e:=by
 have r2:=by1 h f0.1
 have r1:∀i:Int,0<=i->0<=aS3 b i/\aS3 b i<=i:=fun i hi=>cV4 h hi
 unfold aI7
 rw[dt7 h,cO6,cO6,Q8 f0.1 f0.2,Q8 m0.1 m0.2]
 simp only[aD6,aX3,fh8]
 obtain⟨k,q,k1,k2,k3,k4⟩:=find_spec 1048577 (by omega) (fun x0=>az7 x0 b f m) (fun i=>m-((i:Int)-aS3 b (i:Int)+ax6 b f)) (fun i hi=>by
  have:=r1 (i:Int) (by omega)
  unfold az7
  rw[cP6 h f0 ⟨by omega,by omega⟩]
  simp only[aD6]
  rw[j4 (by omega) (by omega)])
 have k2':aO4 1048577 (fun x0=>az7 x0 b f m)=some ((k:Int),q):=k2
 rw[k2']
 simp only[aD6]
 by_cases hk:k=1048577
 ·subst hk
  refine⟨0,0,9,rfl,.inr rfl,fun h=>(by cases h),fun h=>(by cases h),fun h=>(by cases h),fun h=>(by cases h),fun h=>(by cases h),fun _=>.inl ?_⟩
  have:=k3 (by omega)
  rw[show(((1048577-1:Nat):Int))=1048576 by omega]at this
  omega
 ·have k4':=k4 (by omega)
  have rk:=r1 (k:Int) (by omega)
  rw[fi2 (show¬((k:Int)>1048576) by omega),cP6 h f0 ⟨by omega,by omega⟩]
  simp only[fh8,aD6]
  have dW6:0<(k:Int)->((k:Int)-1)-aS3 b ((k:Int)-1)+ax6 b f<m:=fun hp=>by
   have:=k3 (by omega)
   rw[show((k-1:Nat):Int)=(k:Int)-1 by omega]at this
   omega
  by_cases hb:f+aS3 b (k:Int)-ax6 b f>1073741824
  ·rw[fi1 hb]
   exact⟨0,0,9,rfl,.inr rfl,fun h=>(by cases h),fun h=>(by cases h),fun h=>(by cases h),fun h=>(by cases h),fun h=>(by cases h),fun _=>.inr ⟨(k:Int),by omega,by omega,by omega,dW6,by omega⟩⟩
  ·rw[fi2 hb]
   exact⟨(k:Int),_,0,rfl,.inl rfl,fun _=>⟨by omega,by omega⟩,fun _=>rfl,fun _=>⟨by omega,by omega⟩,fun _=>by omega,fun _=>dW6,fun h=>(by cases h)⟩
theorem dN3 {t:o6}(h:(bv9 t.av6&&t.av6.Y.all (inR 0 10000))=true){a v:Int}(a0:0<=a/\a<=1048576)(v0:0<=v/\v<=20000):aA7 t a v=some (cAt t.av6 v,0)/\0<=cAt t.av6 v/\cAt t.av6 v<=10000:=by
 rw[aI9]at h
 obtain⟨h1,h2⟩:=h
 have hl:=(bl5 h1).yl
 have hx:=(bl5 h1).x.most
 have hb:=cc9 h1 v (eT9 h1 h2)
 refine⟨?_,hb⟩
 have e:o5 t.av6.Y aF0=some (t.av6.Y.any fun y=>!inR 0 10000 y):=ap4 _ (by omega) _ _ (fun y _=>rfl)
 have e2:(t.av6.Y.any fun y=>!inR 0 10000 y)=false:=by
  rw[dC3]
  intro y hy
  rw[bF0.1 h2 y hy];simp
 unfold aA7
 rw[ap6,h1,e,e2,cO6,cO6,Q8 a0.1 a0.2,Q8 v0.1 v0.2,dE7 h1]
 rfl
def eT8 (m:Int):Int:=-((-m)/3)
theorem el8 {t:o6}(h:(bv9 t.av6&&t.av6.Y.all (inR 0 10000))=true){a v:Int}(a0:0<a/\a<=1048576)(v0:0<=v/\v<=20000):aO2 t a v=some (cAt t.av6 v+eT8 a,0):=by
 obtain⟨h1,h2⟩:=dN3 h (a:=a) (by omega) v0
 unfold aO2 am4 eT8
 rw[h1,bW2 _ _ 2 (by omega) (by omega) (by omega) (by omega) (.inr rfl)]
 simp only[aD6]
 rw[show(((0:Int) !=0)||(a==0))=false by rw[bN3];exact⟨rfl,beq_eq_false_iff_ne.2 (by omega)⟩]
 simp only[fh8]
 rw[if_neg (by decide),j4 (by omega) (by omega)]
theorem dY3 {t:o6}(h:(bv9 t.av6&&t.av6.Y.all (inR 0 10000))=true){a v:Int}(a0:0<=a/\a<=1048576)(v0:0<=v/\v<=20000):az6 t a v=some (3*max 0 (a-cAt t.av6 v),0):=by
 obtain⟨h1,h2⟩:=dN3 h a0 v0
 unfold az6
 rw[h1]
 simp only[aD6]
 rw[show(((0:Int) !=0))=false from rfl,j4 (n:=a-cAt t.av6 v) (by omega) (by omega),an9]
 simp only[fh8]
 rw[j4 (by omega) (by omega)]
theorem bE1 (x lo hi:Int):Q3 x lo hi=some (inR lo hi x):=rfl
theorem cx5 (l:List Int)(h:l.length<=9223372036854775807)(lo hi:Int):ac6 l lo hi=some (!l.all (inR lo hi)):=by
 unfold ac6
 rw[ap4 l h (fun x0=>as3 x0 lo hi) (fun x=>!inR lo hi x) (fun y _=>rfl),aD6,dS2]
 simp only[eH9]
theorem dz0 {t:o6}(h:bK0 t=true)(ht:aY5 t=true):ax0 t=some true:=by
 have hc:=dB5 ht
 unfold bK0 at h
 unfold aY5 at ht
 simp only[aI9]at h ht
 obtain⟨⟨⟨h1,h2⟩,h3⟩,h4⟩:=h
 obtain⟨⟨⟨⟨_,_⟩,t3⟩,t4⟩,_⟩:=ht
 have hm:=bZ5 h1
 have zl:=hm.zl
 have xm:=hm.x.most
 have ym:=hm.y.most
 have a1:=(bl5 h2).x.most
 have a2:=(bl5 h2).yl
 have b0:=bl5 hc
 have b1:=b0.x.most
 have b2:=b0.yl
 have hf:aG0 t.C1.Y=some true:=by
  have e:H7 t.C1.Y az9=some (cz8 t.C1.Y):=dd8 t.C1.Y (by omega) (fun i hi=>b0.el i (by omega))
  unfold aG0
  rw[e,t4];rfl
 have hz:F6 t.N8.Z av4=some (t.N8.Z.any fun r=>!r.all (inR (-1280) 3840)):=ah7 _ (by omega) _ _ (fun r hr=>by
  obtain⟨k,hk,rfl⟩:=cY2.1 hr
  have rl:=hm.rl k hk
  unfold av4
  rw[cx5 _ (by omega)];rfl)
 have hz2:(t.N8.Z.any fun r=>!r.all (inR (-1280) 3840))=false:=by
  rw[dC3]
  intro r hr
  rw[bF0.1 h3 r hr];simp
 unfold ax0
 rw[an8,h1,ap6,h2,ap6,hc,hf,hz,hz2,cx5 _ (by omega),cx5 _ (by omega),h4,t3]
 rfl
def cu4 (t:o6)(v k:Int):Int:=min (cAt t.ae6 v) (3*k/4)
theorem ek4 {t:o6}(h:bK0 t=true)(ht:aY5 t=true){v k:Int}(v0:0<=v/\v<=20000)(k0:4000<=k/\k<=1000000):aF9 t v k=some (cu4 t v k,0)/\500<=cu4 t v k/\cu4 t v k<=10000:=by
 have hh:=h
 unfold bK0 at hh
 simp only[aI9]at hh
 have hb:=cc9 hh.1.1.2 v (eT9 hh.1.1.2 hh.2)
 unfold aF9 cu4
 rw[dz0 h ht,bE1,bE1,Q8 v0.1 v0.2,Q8 k0.1 k0.2,dE7 hh.1.1.2]
 simp only[aD6,aX3,fh8]
 rw[j4 (n:=3*k) (by omega) (by omega),cA0 (by omega),j4 (by omega) (by omega),aq0]
 exact⟨rfl,by omega,by omega⟩
def dT2 (t:o6)(s c q r:Int):Int:=
 min (max (sAt t.N8 s c+(if q<20 then 2*(20-q)else if q>100 then -(8*(q-100))else 0)-r) (-1280)) 3840
theorem ef7 {t:o6}(h:bK0 t=true)(ht:aY5 t=true){s c q r:Int}(s0:0<=s/\s<=12000)(c0:0<=c/\c<=1048576)(q0:-40<=q/\q<=150)(r0:0<=r/\r<=1280):aF8 t s c q r=some (dT2 t s c q r,0):=by
 have hh:=h
 unfold bK0 at hh
 simp only[aI9]at hh
 have hb:=cg0 hh.1.1.1 s c (fc7 hh.1.1.1 (fun r hr=>bF0.1 hh.1.2 r hr))
 have e:aM4 t s c=some (sAt t.N8 s c,0):=by
  unfold aM4
  rw[dz0 h ht,bE1,bE1,Q8 s0.1 s0.2,Q8 c0.1 c0.2,cT6 hh.1.1.1]
  rfl
 unfold aF8 dT2
 rw[e]
 simp only[aD6]
 rw[show(((0:Int) !=0))=false from rfl,bE1,bE1,Q8 q0.1 q0.2,Q8 r0.1 r0.2]
 simp only[fh8,aD6,aX3]
 generalize sAt t.N8 s c=z at hb
 by_cases h1:q<20
 ·rw[fi1 h1,if_pos h1]
  simp only[fi0]
  rw[j4 (n:=20-q) (by omega) (by omega),j4 (n:=2*(20-q)) (by omega) (by omega),j4 (n:=z+2*(20-q)) (by omega) (by omega),j4 (by omega) (by omega),aB7,aq0,an9]
  rfl
 ·rw[fi2 h1,if_neg h1]
  simp only[fh8]
  by_cases h2:q>100
  ·rw[fi1 h2,if_pos h2]
   simp only[fi0]
   rw[j4 (n:=q-100) (by omega) (by omega),j4 (n:=8*(q-100)) (by omega) (by omega),j4 (n:=z-8*(q-100)) (by omega) (by omega),j4 (by omega) (by omega),aB7,aq0,an9]
   rfl
  ·rw[fi2 h2,if_neg h2]
   simp only[fh8]
   rw[j4 (by omega) (by omega),aB7,aq0,an9,Int.add_zero]
   rfl
theorem dT3 (t:o6)(s c q r:Int):-1280<=dT2 t s c q r/\dT2 t s c q r<=3840:=by unfold dT2;omega
end Go.Pv
namespace Go.Pv.Ar
open Go Go.Pv
theorem da4 {α:Type}(c:Bool)(x y:α):(bif c then some x else some y)=some (bif c then x else y):=by cases c<;>rfl
def co5 (r:j2):Prop:=(0<=r.N1/\r.N1<=15)/\(0<=r.E4/\r.E4<=15)/\(-5000<=r.o8/\r.o8<=10000)/\(r.Kind=1\/(r.N1<=1/\(r.Kind=2\/r.Kind=3)))
instance (r:j2):Decidable (co5 r):=by unfold co5;infer_instance
theorem an8 (r:j2):R9 r=some (decide (co5 r)):=by
 unfold R9 O9
 simp only[aD6,da4]
 rw[aH6,dG1,fi3]
 unfold co5
 simp only[Bool.cond_true_left,Bool.cond_false_left,Bool.cond_false_right,cI5,aI9,ck7,bN3,ef3,fi3,fi4,beq_iff_eq,ge_iff_le]
 omega
def aY5 (t:Int):Bool:=decide (t>= -5000)&&decide (t<=10000)
def eb1 (low high:Int):Bool:=(!aY5 low|| !aY5 high)||decide (low>high)
def dU5 (l:List j2):Bool:=l.any fun r=>!decide (co5 r)
def chk (l:List j2)(low high:Int):Int:=bif dU5 l then 1 else bif decide ((l.length:Int)>32)then 5 else bif eb1 low high then 2 else 0
theorem eG5 (low high:Int):(ai2 (some (aY5 low)) fun v2=>ai2 (bif (!v2)then(some true)else(ai2 (some (aY5 high)) fun v3=>some (!v3))) fun b2=>bif (b2||(decide (low>high)))then(some (2:Int))else(some 0))=some (bif eb1 low high then 2 else 0):=by
 unfold eb1
 cases aY5 low<;>cases aY5 high<;>cases decide (low>high)<;>rfl
theorem em2 (l:List j2)(low high:Int)(hl:l.length<=1000):au7 l low high=some (chk l low high):=by
 unfold au7 chk
 have k:=ah7 l (by omega) ag8 (fun r=>!decide (co5 r)) (fun y _=>by unfold ag8;rw[an8];rfl)
 have k':D5 l ag8=some (dU5 l):=k
 rw[k']
 simp only[aD6]
 cases dU5 l
 ·simp only[fh8]
  cases decide ((l.length:Int)>32)
  ·simp only[fh8]
   exact eG5 low high
  ·rfl
 ·rfl
structure cW1 (l:List j2)(low high:Int):Prop where
 req:∀r∈l,co5 r
 len:l.length<=32
 lo:-5000<=low
 hi:high<=10000
 ord:low<=high
theorem ei6 {l:List j2}{low high:Int}:chk l low high=0↔cW1 l low high:=by
 have hb:dU5 l=false↔∀r∈l,co5 r:=by
  unfold dU5
  rw[dC3]
  constructor
  ·intro h r hr;simpa using h r hr
  ·intro h r hr;simpa using h r hr
 have hr:eb1 low high=false↔(-5000<=low/\low<=10000/\ -5000<=high/\high<=10000/\low<=high):=by
  unfold eb1 aY5
  simp only[bN3,ef3,aI9,fi3,fi4]
  omega
 unfold chk
 constructor
 ·intro h
  cases h1:dU5 l<;>rw[h1]at h
  ·cases h2:decide ((l.length:Int)>32)<;>rw[h2]at h
   ·cases h3:eb1 low high<;>rw[h3]at h
    ·have h4:=hr.1 h3
     have h5:¬((l.length:Int)>32):=of_decide_eq_false h2
     exact⟨hb.1 h1,by omega,by omega,by omega,by omega⟩
    ·cases h
   ·cases h
  ·cases h
 ·intro h
  rw[hb.2 h.req,hr.2 (by have:=h.lo;have:=h.hi;have:=h.ord;omega),fi2 (show¬((l.length:Int)>32) by have:=h.len;omega)]
  rfl
def ins (s:p6)(r:j2):Int:=G4 s.low (F2 s.high r.o8)
def nlo (s:p6)(r:j2):Int:=if r.Kind=1 then s.low else ins s r
def nhi (s:p6)(r:j2):Int:=if r.Kind=2 then s.high else ins s r
def stp (s:p6)(r:j2):p6:=⟨nlo s r,nhi s r,if nlo s r=s.low then s.source else r.N1⟩
def chg (s:p6)(r:j2):Bool:=!(decide (nlo s r=s.low)&&decide (nhi s r=s.high))
theorem dX1 {s:p6}{r:j2}(h:s.low<=s.high):s.low<=ins s r/\ins s r<=s.high:=by
 unfold ins G4 F2;split<;>split<;>omega
theorem dg1 {s:p6}{r:j2}(h:s.low<=s.high):s.low<=(stp s r).low/\(stp s r).low<=(stp s r).high/\(stp s r).high<=s.high:=by
 have:=dX1 (r:=r) h
 unfold stp nlo nhi
 simp only
 split<;>split<;>omega
theorem cR0 (s:p6)(r:j2)(lo hi:Int):(ai2 (bif (lo !=s.low)then(some r.N1)else(some s.source)) fun(f3:Int)=>bif (lo !=s.low)then(some (true,(⟨lo,hi,f3⟩:p6)))else(some ((hi !=s.high),(⟨lo,hi,f3⟩:p6))))=some (!(decide (lo=s.low)&&decide (hi=s.high)),⟨lo,hi,if lo=s.low then s.source else r.N1⟩):=by
 by_cases h1:lo=s.low
 ·rw[show(lo !=s.low)=false by simpa using h1,fi1 h1,if_pos h1];rfl
 ·rw[show(lo !=s.low)=true by simpa using h1,fi2 h1,if_neg h1];rfl
theorem dZ2 (s:p6)(r:j2)(h:s.low<=s.high)(hk:r.Kind=1\/r.Kind=2\/r.Kind=3):W5 s r=some (chg s r,stp s r):=by
 have e1:G4 s.low (F2 s.high r.o8)=ins s r:=rfl
 have e2:F2 s.high (G4 s.low r.o8)=ins s r:=by
  unfold ins G4 F2;repeat' split
  all_goals omega
 have e3:F2 (G4 r.o8 s.low) s.high=ins s r:=by
  unfold ins G4 F2;repeat' split
  all_goals omega
 unfold W5 ac7 Y8 Y9 C4
 simp only[aD6]
 rw[e1,e2,e3]
 unfold stp chg nlo nhi
 rcases hk with hk|hk|hk
 ·rw[hk]
  exact cR0 s r s.low (ins s r)
 ·rw[hk]
  exact cR0 s r (ins s r) s.high
 ·rw[hk]
  exact cR0 s r (ins s r) (ins s r)
def lev (l:List j2)(j:Nat):List j2:=l.filter fun r=>r.E4==15-(j:Int)
def dw9 (l:List j2)(k:Nat):List j2:=(dC2 k).flatMap (lev l)
abbrev cR5 (l:List j2):List j2:=dw9 l 16
theorem de9 (l:List j2)(k:Nat):dw9 l (k+1)=dw9 l k++lev l k:=by
 unfold dw9;rw[List.range_succ,List.flatMap_append,List.flatMap_singleton]
def DR (r:j2):Prop:=0<=r.E4/\r.E4<=15
theorem bI7 {x y:j2}(hx:DR x)(hy:DR y):ltM O1 x y=decide (y.E4<x.E4):=by
 unfold DR at hx hy
 unfold ltM O1
 rw[Option.getD_some,j4 (by omega) (by omega),decide_eq_decide]
 omega
theorem dK5:SW DR O1 where
 ans:=fun x y _ _=>⟨_,rfl⟩
 asym:=fun x y hx hy=>by rw[bI7 hx hy,bI7 hy hx,fi3,fi4];omega
 ntrans:=fun x y z hx hy hz=>by rw[bI7 hx hy,bI7 hy hz,bI7 hx hz];simp only[fi4];omega
theorem eA7 {x y:j2}(hx:DR x)(hy:DR y):eqv O1 x y=(y.E4==x.E4):=by
 unfold eqv
 rw[bI7 hx hy,bI7 hy hx,dG1]
 simp only[aI9,ck7,fi4,beq_iff_eq]
 omega
theorem dw1 {l:List j2}{k:Nat}{r:j2}:r∈dw9 l k↔r∈l/\∃j,j<k/\r.E4=15-(j:Int):=by
 unfold dw9 lev
 rw[List.mem_flatMap]
 constructor
 ·rintro⟨j,hj,h⟩
  rw[dM7]at h
  exact⟨h.1,j,ej6.1 hj,by simpa using h.2⟩
 ·rintro⟨h,j,hj,hp⟩
  exact⟨j,ej6.2 hj,dM7.2 ⟨h,by simpa using hp⟩⟩
theorem cm9 {l:List j2}(h:bL8 DR l){r:j2}:r∈cR5 l↔r∈l:=by
 rw[dw1]
 constructor
 ·exact fun h=>h.1
 ·intro hr
  have:=h r hr
  unfold DR at this
  exact⟨hr,(15-r.E4).toNat,by omega,by omega⟩
theorem dx0 {l:List j2}(h:bL8 DR l):∀k,Srt O1 (dw9 l k)
 |0=>.nil
 |k+1=>by
  rw[de9]
  refine Srt.app (dx0 h k) ?_ fun a ha b hb=>?_
  ·unfold lev
   rw[Srt,List.pairwise_iff_getElem]
   intro i j hi hj _
   have m1:=dM7.1 (bd9 hi)
   have m2:=dM7.1 (bd9 hj)
   have p1:=m1.2
   simp only[beq_iff_eq]at p1
   have p2:=m2.2
   simp only[beq_iff_eq]at p2
   rw[bI7 (h _ m2.1) (h _ m1.1),fi4]
   omega
  ·obtain⟨ha1,j,hj,hp⟩:=dw1.1 ha
   have m2:=dM7.1 hb
   have p2:=m2.2
   simp only[beq_iff_eq]at p2
   rw[bI7 (h _ m2.1) (h _ ha1),fi4]
   omega
theorem cB6 (l:List j2)(p:Int):∀k,(dw9 l k).filter (fun r=>r.E4==p)=if 15-(k:Int)<p/\p<=15 then l.filter (fun r=>r.E4==p)else []
 |0=>by
  rw[if_neg (by omega)]
  rfl
 |k+1=>by
  rw[de9,dJ7,cB6 l p k]
  unfold lev
  rw[List.filter_filter]
  by_cases hp:p=15-(k:Int)
  ·rw[if_neg (by omega),if_pos (by omega),cW3]
   congr 1
   funext r
   rw[<-hp]
   cases r.E4==p<;>rfl
  ·have:(l.filter fun a=>(a.E4==p)&&(a.E4==15-(k:Int)))=[]:=by
    rw[eA8]
    intro r _ h
    simp only[aI9,beq_iff_eq]at h
    omega
   rw[this,dh6]
   by_cases h2:15-(k:Int)<p/\p<=15
   ·rw[if_pos h2,if_pos (by omega)]
   ·rw[if_neg h2,if_neg (by omega)]
theorem cU0 {l r:List j2}(h:bL8 DR l)(hs:Srt O1 r)(ht:Sta DR O1 l r):r=cR5 l:=by
 refine dA0 dK5 (ht.all h) (fun x hx=>h x ((cm9 h).1 hx)) hs (dx0 h 16) fun x hx=>?_
 rw[ht.same x hx]
 have e:∀m:List j2,bL8 DR m->m.filter (eqv O1 x)=m.filter (fun r=>r.E4==x.E4):=fun m hm=>List.filter_congr fun y hy=>eA7 hx (hm y hy)
 rw[e l h,e (cR5 l) (fun y hy=>h y ((cm9 h).1 hy)),cB6]
 unfold DR at hx
 rw[if_pos (by omega)]
theorem em9:E8=ah5:=by kernel_rfl
theorem eG1 (l:List j2)(hl:l.length<=19)(g:j2->j2->Option Int):J2 l g=aT9 l g:=by
 unfold J2 aT9 M9 bn8
 have h1:decide ((20:Int)<=(l.length:Int))=false:=by simp;omega
 have h2:decide ((20:Int)<(l.length:Int))=false:=by simp;omega
 rw[D7 (b:=.inl (0,20,l)) (by unfold Q9;rw[h1];rfl),D7 (b:=.inl (0,20,l)) (by unfold ba3;rw[h1];rfl),em9]
 simp only[aD6]
 cases hx:ah5 l 0 (l.length:Int) g with
 |none=>rfl
 |some v=>
  simp only[aD6]
  rw[D7 (b:=.inl (20,v)) (by unfold R3;rw[h2];rfl),D7 (b:=.inl (20,v)) (by unfold ba4;rw[h2];rfl)]
  simp only[aD6]
def dec (s:p6):List j2->List Int
 |[]=>[]
 |r::l=>(bif chg s r then [r.N1]else [])++dec (stp s r) l
theorem dN4 (s:p6):∀l:List j2,(dec s l).length<=l.length
 |[]=>cw4 _
 |r::l=>by
  have:=dN4 (stp s r) l
  unfold dec
  cases chg s r
  ·simp only[fh8,cW3,bv4];omega
  ·simp only[fi0,aZ7,bv4,cV7];omega
theorem eI0:∀(q:List j2) (i:Int) (acc:List Int) (s:p6),s.low<=s.high->(∀r∈q,r.Kind=1\/r.Kind=2\/r.Kind=3)->acc.length+q.length<=10000->
  L7 ai6 q i (acc,s)=some (.inl (acc++dec s q,q.foldl stp s))
 |[],i,acc,s,_,_,_=>by simp[L7,dec]
 |r::q,i,acc,s,hs,hk,hl=>by
  simp only[bv4]at hl
  have hr:=dg1 (r:=r) hs
  have hb:ai6 i r (acc,s)=some (.next (acc++(bif chg s r then [r.N1]else []),stp s r)):=by
   unfold ai6
   simp only
   rw[dZ2 s r hs (hk r (by simp))]
   simp only[aD6]
   cases chg s r
   ·simp
   ·simp only[fi0]
    rw[H5 _ _ (by simp only[cr0];omega)]
    rfl
  simp only[L7,hb,aD6]
  rw[eI0 q (i+1) _ (stp s r) (by omega) (fun x hx=>hk x (by simp[hx])) (by rw[aZ7];cases chg s r<;>simp<;>omega)]
  simp only[dec,ex9,List.append_assoc]
def s0 (low high:Int):p6:=⟨low,high,-1⟩
def fin (l:List j2)(low high:Int):p6:=(cR5 l).foldl stp (s0 low high)
def fh3 (l:List j2)(low high:Int):List Int:=bC2 ((dec (s0 low high) (cR5 l)).mergeSort fun x y=>decide (x<=y))
theorem cW1.dr {l:List j2}{low high:Int}(h:cW1 l low high):bL8 DR l:=fun r hr=>by
 have:=h.req r hr
 unfold co5 at this
 unfold DR;omega
theorem cW1.kinds {l:List j2}{low high:Int}(h:cW1 l low high):∀r∈l,r.Kind=1\/r.Kind=2\/r.Kind=3:=fun r hr=>by
 have:=h.req r hr
 unfold co5 at this
 omega
theorem eq1 {l:List j2}{low high:Int}(h:cW1 l low high)(h19:l.length<=19):(cR5 l).length=l.length:=by
 obtain⟨r,h1,h2,h3⟩:=bW6 dK5 l h.dr h19
 rw[<-cU0 h.dr h2 h3,h3.len]
theorem dV5 {l:List j2}{low high:Int}(h:cW1 l low high)(h19:l.length<=19):ap2 l low high=some (fin l low high,fh3 l low high):=by
 unfold ap2 W3
 have hl:=h.len
 rw[H5 _ _ (by simp only[cV7];omega)]
 simp only[aD6,cW3]
 rw[eG1 _ h19]
 obtain⟨r,h1,h2,h3⟩:=bW6 dK5 l h.dr h19
 rw[h1,cU0 h.dr h2 h3]
 simp only[aD6]
 have hlen:=eq1 h h19
 rw[K4 _ (by omega),eI0 (cR5 l) 0 [] ⟨low,high,-1⟩ h.ord (fun x hx=>h.kinds x ((cm9 h.dr).1 hx)) (by simp only[cV7];omega)]
 simp only[aD6,cW3]
 unfold aB0 ar6
 have hd:=dN4 (s0 low high) (cR5 l)
 rw[cx7 (show(dec (⟨low,high,-1⟩:p6) (cR5 l)).length<4611686018427387904 by unfold s0 at hd;omega)]
 simp only[aD6]
 rw[cz6 (by rw[List.length_mergeSort];unfold s0 at hd;omega)]
 rfl
theorem cP3:∀(q:List j2) (s:p6),s.low<=s.high->s.low<=(q.foldl stp s).low/\(q.foldl stp s).low<=(q.foldl stp s).high/\(q.foldl stp s).high<=s.high
 |[],s,h=>⟨dv9 _,h,dv9 _⟩
 |r::q,s,h=>by
  have h1:=dg1 (r:=r) h
  have h2:=cP3 q (stp s r) (by omega)
  rw[ex9]
  omega
theorem dc4 {l:List j2}{low high:Int}(h:low<=high):low<=(fin l low high).low/\(fin l low high).low<=(fin l low high).high/\(fin l low high).high<=high:=cP3 (cR5 l) (s0 low high) h
end Go.Pv.Ar

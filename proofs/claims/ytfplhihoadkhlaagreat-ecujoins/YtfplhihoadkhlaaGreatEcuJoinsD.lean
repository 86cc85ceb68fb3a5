/- A part of the proof of EcuJoins: Models that know their code, and more. -/
import Derived.Test.YtfplhihoadkhlaaGreatEcuJoinsC
import Derived.Test.YtfplhihoadkhlaaGreatProg
import Derived.KernelRfl
set_option linter.unusedSimpArgs false
set_option linter.unusedVariables false
set_option maxRecDepth 100000
noncomputable section
open Bool renaming and_eq_true->au2,not_eq_true'->bZ6,not_true->aK4,or_eq_true->cx1
open Int renaming tdiv->da8,tmod->ef7
open Go.IntKind renaming bits->eU4,u64->aK3
open List renaming getElem?_eq_getElem->aJ9,mem_cons->cr6,not_mem_nil->eP5
open Go.Lit renaming int->dN1
open Nat renaming le_refl->cB6
open Option renaming bind->ab6,bind_some->ac0
open Go.Pv renaming encI->aI8,encS->dn9
namespace Go.Proofs.YtfplhihoadkhlaaGreat
open Go Go.Pv Go.Proofs
open Tryz
set_option maxHeartbeats 4000000
def ai9 (a:Int):C prog Bool:=.of Z call101 func101 [.t (tI a)] (fun r=>.t (tB r)) (
 .R ((decide (a>=0))&&(decide (a<46080))))
def ap1 (s:List Int)(v i:Int)(_:Unit):M prog Int (Fl Unit Int):=
 .O (.ix aI8 s i) fun x=>.I (v==x) (.R (.ret i)) (.R (.next ()))
def Y8 (s:List Int)(v:Int):C prog Int:=.of Z call201 func201 [.t (tS aI8 s),.t (tI v)] (fun r=>.t (tI r)) (
 M.QN (s.length:Int) 2 8 (fun(_:Unit)=>[]) 0 (.one .rt) (ap1 s v) () (fun _=>.R (-1)) (fun r2=>.R r2))
def S1 (s:List Int)(v:Int):C prog Bool:=.of Z call102 func102 [.t (tS aI8 s),.t (tI v)] (fun r=>.t (tB r)) (
 .K (Y8 s v) fun v2=>.R (decide (v2>=0)))
def at6 (e2:o7)(i:Int):M prog Bool (Int⊕(Int⊕Bool)):=
 .I (decide (i<=(e2.z7.length:Int))) (.K (S1 e2.z7 i) fun v2=>.I (!v2) (.R (.inr (.inr false))) (.R (.inl (o6 (i+1))))) (.R (.inr (.inl i)))
def R3 (e2:o7):C prog Bool:=.of Z call45 func45 [av0 e2] (fun r=>.t (tB r)) (
 .G ((decide ((e2.z7.length:Int)<1))||(decide ((e2.z7.length:Int)>8))) (.R true) (.K (ai9 e2.P0) fun v=>.R (!v)) fun b2=>.I b2 (.R false) (.L (fun(t:Int)=>[.t 4 (.t (tI t)),.x 5]) 0 (.one .rt) (at6 e2) 1 (fun _=>.R true) (fun r2=>.R r2)))
def S4 (x:List D0)(count:Int):C prog (List D0):=⟨117,[.t (tS K5 x),.t (tI count)],Pv.S4 x count,fun _=>eF4 x count,(fun r=>.t (tS K5 r)),by1 x count,fun _ r h=>by2 h⟩
def aU9 (n2:Int):C prog (List D0×Int):=.of Z call62 func62 [.t (tI n2)] (fun r=>.S9 [.t (tS K5 r.1),.t (tI r.2)]) (
 .I ((decide (n2<1))||(decide (n2>8))) (.R (([]:List D0),2)) (.Z (.fr 11)<| .K (S4 ([(⟨0,100,0⟩:D0)]:List D0) n2) fun v=>.R (v,0)))
def bj8:C prog L4:=.of Z call63 func63 [] (fun r=>ci2 r) (
 .R (⟨0,0,false⟩:L4))
def aL9:C prog I2:=.of Z call64 func64 [] (fun r=>bt3 r) (
 .Mk ao5 9 (⟨0,0⟩:ad1) fun l=>.R (⟨false,false,1000,0,l⟩:I2))
def aA5 (e2:o7):C prog (z8×Int):=.of Z call27 func27 [av0 e2] (fun r=>.S9 [aR0 r.1,.t (tI r.2)]) (
 .K (R3 e2) fun v=>.I (!v) (.R ((⟨(⟨0,0,false⟩:L4),(⟨0⟩:B9),([]:List D0),(⟨false,false,0,0,([]:List ad1)⟩:I2),0,(⟨0,0⟩:N4)⟩:z8),1)) (.K (aU9 (e2.z7.length:Int)) fun r2=>.I (r2.2 !=0) (.R ((⟨(⟨0,0,false⟩:L4),(⟨0⟩:B9),([]:List D0),(⟨false,false,0,0,([]:List ad1)⟩:I2),0,(⟨0,0⟩:N4)⟩:z8),1)) (.K (bj8) fun v2=>.K (aL9) fun v3=>.R ((⟨v2,(⟨0⟩:B9),r2.1,v3,0,(⟨0,(-1)⟩:N4)⟩:z8),0))))
def aV4 (n2:Int):C prog (u5×Int):=.of Z call65 func65 [.t (tI n2)] (fun r=>.S9 [aO2 r.1,.t (tI r.2)]) (
 .I ((decide (n2<1))||(decide (n2>16))) (.R ((⟨0,([]:List o4)⟩:u5),2)) (.Mk G3 n2 (⟨false,0,false,false⟩:o4) fun l=>.R ((⟨0,l⟩:u5),0)))
def P9 (s:List Int):C prog (List Int):=.of Z call66 func66 [.t (tS aI8 s)] (fun r=>.t (tS aI8 r)) (
 .Nl aI8 s (.I true (.R ([]:List Int)) .N) (fun s=>.I false .N (.U (.ap aI8 ([]:List Int) s 5) fun l=>.R l)))
def bc2:C prog B8:=.of Z call67 func67 [] (fun r=>bC2 r) (
 .R (⟨false,0,0,0,0,0⟩:B8))
def aq2 (e2:o7):C prog (j2×Int):=.of Z call28 func28 [av0 e2] (fun r=>.S9 [U6 r.1,.t (tI r.2)]) (
 .K (R3 e2) fun v=>.I (!v) (.R ((⟨(⟨([]:List Int),0⟩:o7),(⟨false,0,0,0,0,0⟩:B8),(⟨0,([]:List o4)⟩:u5),([]:List A6),([]:List A9),false⟩:j2),1)) (.K (aV4 (o6 (2*(e2.z7.length:Int)))) fun r2=>.I (r2.2 !=0) (.R ((⟨(⟨([]:List Int),0⟩:o7),(⟨false,0,0,0,0,0⟩:B8),(⟨0,([]:List o4)⟩:u5),([]:List A6),([]:List A9),false⟩:j2),1)) (.D [] []<| .K (P9 e2.z7) fun v2=>.K (bc2) fun v3=>.R ((⟨(⟨v2,e2.P0⟩:o7),v3,r2.1,([]:List A6),([]:List A9),false⟩:j2),0))))
def H0 (x low high:Int):C prog Bool:=.of Z call118 func118 [.t (tI x),.t (tI low),.t (tI high)] (fun r=>.t (tB r)) (
 .R ((decide (x>=low))&&(decide (x<=high))))
def ak5 (b2:J4):C prog Bool:=.of Z call68 func68 [aM1 b2] (fun r=>.t (tB r)) (
 .K (H0 b2.O5 100 1048576) fun v=>.G v (.K (H0 b2.N9 0 65536) fun v2=>.R v2) (.R false) fun b3=>.G b3 (.K (H0 b2.C4 0 65536) fun v3=>.R v3) (.R false) fun b4=>.G b4 (.K (H0 b2.ac4 1 65536) fun v4=>.R v4) (.R false) fun b5=>.G b5 (.K (H0 b2.H9 0 1023) fun v5=>.R v5) (.R false) fun b6=>.G b6 (.K (H0 b2.E9 1 1024) fun v6=>.R v6) (.R false) fun b7=>.G b7 (.K (H0 b2.an6 0 20) fun v7=>.R v7) (.R false) fun b8=>.R b8)
def cx5 (b2:J4):C prog (O9×Int):=.of Z call29 func29 [aM1 b2] (fun r=>.S9 [aX6 r.1,.t (tI r.2)]) (
 .K (ak5 b2) fun v=>.I (!v) (.R ((⟨0,0,0,0,0,([]:List Int)⟩:O9),1)) (.R ((⟨0,0,0,1013,0,([]:List Int)⟩:O9),0)))
def Z3 (s:List A5)(f2:Cl prog A5 Bool (fun x=>[aP3 x]) (fun r=>.t (tB r)))(i:Int)(_:Unit):M prog Int (Fl Unit Int):=
 .O (.ix O1 s i) fun x=>.K (f2.at x) fun v=>.I v (.R (.ret i)) (.R (.next ()))
def V4 (s:List A5)(f2:Cl prog A5 Bool (fun x=>[aP3 x]) (fun r=>.t (tB r))):C prog Int:=.of Z call112 func112 [.t (tS O1 s),.fz f2.n f2.cs] (fun r=>.t (tI r)) (
 M.QN (s.length:Int) 2 8 (fun(_:Unit)=>[]) 0 (.one .rt) (Z3 s f2) () (fun _=>.R (-1)) (fun r2=>.R r2))
def K1 (s:List A5)(f2:Cl prog A5 Bool (fun x=>[aP3 x]) (fun r=>.t (tB r))):C prog Bool:=.of Z call53 func53 [.t (tS O1 s),.fz f2.n f2.cs] (fun r=>.t (tB r)) (
 .K (V4 s f2) fun v=>.R (decide (v>=0)))
def F4 (x low high:Int):C prog Bool:=.of Z call56 func56 [.t (tI x),.t (tI low),.t (tI high)] (fun r=>.t (tB r)) (
 .R ((decide (x>=low))&&(decide (x<=high))))
def af7 (c:A5):C prog Bool:=.of Z call113 func113 [aP3 c] (fun r=>.t (tB r)) (
 .K (F4 c.Code 1 16777215) fun v=>.G v (.K (F4 c.bq6 1 100) fun v2=>.R v2) (.R false) fun b2=>.G b2 (.K (F4 c.Pass 1 100) fun v3=>.R v3) (.R false) fun b3=>.G b3 (.K (F4 c.cD4 1 100) fun v4=>.R v4) (.R false) fun b4=>.G b4 (.K (F4 c.Age c.cD4 255) fun v5=>.R v5) (.R false) fun b5=>.G b5 (.K (F4 c.G5 0 255) fun v6=>.R v6) (.R false) fun b6=>.G b6 (.K (F4 c.Frame 0 8) fun v7=>.R v7) (.R false) fun b7=>.R b7)
def ao7 (c:A5):C prog Bool:=.of Z call54 func54 [aP3 c] (fun r=>.t (tB r)) (
 .K (af7 c) fun v=>.R (!v))
def aD7 (_:Int)(x:A5)(f2:List (Int×Bool)):M prog Bool (Fl (List (Int×Bool)) Bool):=
 .W (.hx 0)<| .Ml eK1 f2 x.Code<| .I (cQ9 false f2 x.Code) (.R (.ret false)) (.Mu eK1 f2 x.Code true<| .R (.next (dl2 f2 x.Code true)))
def ao6 (l:List A5):C prog Bool:=.of Z call55 func55 [.t (tS O1 l)] (fun r=>.t (tB r)) (
 .Mm 2048<|M.Q O1 l 2 9 (fun(t:List (Int×Bool))=>[.x 6,.b 2048 (.mp (List.map (ent (fun n:Int=>.int .i64 n) (fun v:Bool=>.bool v)) t))]) 0 (.one .rt) (aD7) ([]:List (Int×Bool)) (fun _=>.R true) (fun r2=>.R r2))
def ac1 (s:List A5):C prog (List A5):=.of Z call69 func69 [.t (tS O1 s)] (fun r=>.t (tS O1 r)) (
 .Nl O1 s (.I true (.R ([]:List A5)) .N) (fun s=>.I false .N (.U (.ap O1 ([]:List A5) s 5) fun l=>.R l)))
def aP5 (l:List A5):C prog (B3×Int):=.of Z call30 func30 [.t (tS O1 l)] (fun r=>.S9 [aB4 r.1,.t (tI r.2)]) (
 .I (decide ((l.length:Int)>64)) (.R ((⟨([]:List A5),([]:List B1),0,false⟩:B3),5)) (.K (K1 l (.of (fun z_=>ao7 z_) 54 [])) fun v=>.I v (.R ((⟨([]:List A5),([]:List B1),0,false⟩:B3),1)) (.K (ao6 l) fun v2=>.I (!v2) (.R ((⟨([]:List A5),([]:List B1),0,false⟩:B3),8)) (.D [] []<| .K (ac1 l) fun v3=>.Mk H3 (l.length:Int) (⟨0,0,0,0,0,([]:List Int),0⟩:B1) fun l2=>.R ((⟨v3,l2,0,false⟩:B3),0)))))
def Z2 (s:List Int)(f2:Cl prog Int Bool (fun x=>[.t (tI x)]) (fun r=>.t (tB r)))(i:Int)(_:Unit):M prog Int (Fl Unit Int):=
 .O (.ix aI8 s i) fun x=>.K (f2.at x) fun v=>.I v (.R (.ret i)) (.R (.next ()))
def W6 (s:List Int)(f2:Cl prog Int Bool (fun x=>[.t (tI x)]) (fun r=>.t (tB r))):C prog Int:=.of Z call208 func208 [.t (tS aI8 s),.fz f2.n f2.cs] (fun r=>.t (tI r)) (
 M.QN (s.length:Int) 2 8 (fun(_:Unit)=>[]) 0 (.one .rt) (Z2 s f2) () (fun _=>.R (-1)) (fun r2=>.R r2))
def u7 (s:List Int)(f2:Cl prog Int Bool (fun x=>[.t (tI x)]) (fun r=>.t (tB r))):C prog Bool:=.of Z call121 func121 [.t (tS aI8 s),.fz f2.n f2.cs] (fun r=>.t (tB r)) (
 .K (W6 s f2) fun v=>.R (decide (v>=0)))
def ae0 (n2:Int):C prog Bool:=.of Z call129 func129 [.t (tI n2)] (fun r=>.t (tB r)) (
 .R ((decide (n2>=(-1073741824)))&&(decide (n2<=1073741824))))
def az0 (l:List Int)(i:Int)(_:Unit):M prog Bool (Fl Unit Bool):=
 .O (.ix aI8 l i) fun x=>.K (ae0 x) fun v=>.G (!v) (.R true) (.G (decide (i>0)) (.O (.ix aI8 l (o6 (i-1))) fun x2=>.R (decide (x<=x2))) (.R false) fun b2=>.R b2) fun b3=>.I b3 (.R (.ret false)) (.R (.next ()))
def as7 (l:List Int):C prog Bool:=.of Z call127 func127 [.t (tS aI8 l)] (fun r=>.t (tB r)) (
 .I ((decide ((l.length:Int)<2))||(decide ((l.length:Int)>32))) (.R false) (M.QN (l.length:Int) 2 15 (fun(_:Unit)=>[]) 0 (.one .rt) (az0 l) () (fun _=>.R true) (fun r2=>.R r2)))
def ai7 (z:Int):C prog Bool:=.of Z call128 func128 [.t (tI z)] (fun r=>.t (tB r)) (
 .K (ae0 z) fun v=>.R (!v))
def aC4 (m2:SMap)(_:Int)(x:List Int)(_:Unit):M prog Bool (Fl Unit Bool):=
 .W (.hx 0)<| .G ((x.length:Int) !=(m2.Y.length:Int)) (.R true) (.K (u7 x (.of (fun z_=>ai7 z_) 128 [])) fun v3=>.R v3) fun b3=>.I b3 (.R (.ret false)) (.R (.next ()))
def L0 (m2:SMap):C prog Bool:=.of Z call72 func72 [dg8 m2] (fun r=>.t (tB r)) (
 .K (as7 m2.X) fun v=>.G (!v) (.R true) (.K (as7 m2.Y) fun v2=>.R (!v2)) fun b2=>.I (b2||((m2.Z.length:Int) !=(m2.X.length:Int))) (.R false) (M.Q (dn9 aI8) m2.Z 2 27 (fun(_:Unit)=>[.x 5,.x 24]) 0 (.one .rt) (aC4 m2) () (fun _=>.R true) (fun r2=>.R r2)))
def aB9 (n2:Int):C prog Bool:=.of Z call131 func131 [.t (tI n2)] (fun r=>.t (tB r)) (
 .R ((decide (n2<(-1073741824)))||(decide (n2>1073741824))))
def aH8 (l:List Int)(i:Int)(_:Unit):M prog Bool (Fl Unit Bool):=
 .D [] []<| .O (.ix aI8 l i) fun x=>.O (.ix aI8 l (o6 (i+1))) fun x2=>.I (decide (x>=x2)) (.R (.ret false)) (.R (.next ()))
def aM6 (l:List Int):C prog Bool:=.of Z call130 func130 [.t (tS aI8 l)] (fun r=>.t (tB r)) (
 .G ((decide ((l.length:Int)<2))||(decide ((l.length:Int)>32))) (.R true) (.K (u7 l (.of (fun z_=>aB9 z_) 131 [])) fun v=>.R v) fun b2=>.I b2 (.R false) (M.QN (o6 ((l.length:Int)-1)) 2 19 (fun(_:Unit)=>[]) 0 (.one .rt) (aH8 l) () (fun _=>.R true) (fun r2=>.R r2)))
def R9 (c:A7):C prog Bool:=.of Z call73 func73 [ci1 c] (fun r=>.t (tB r)) (
 .G ((c.X.length:Int)==(c.Y.length:Int)) (.K (aM6 c.X) fun v=>.R v) (.R false) fun b2=>.G b2 (.K (u7 c.Y (.of (fun z_=>aB9 z_) 131 [])) fun v2=>.R (!v2)) (.R false) fun b3=>.R b3)
def cmp_isNaN_int (x:Int):C prog Bool:=.of Z call287 func287 [.t (tI x)] (fun r=>.t (tB r)) (
 .R (x !=x))
def cmp_Less_int (x y:Int):C prog Bool:=.of Z call207 func207 [.t (tI x),.t (tI y)] (fun r=>.t (tB r)) (
 .K (cmp_isNaN_int x) fun v=>.G v (.K (cmp_isNaN_int y) fun v2=>.R (!v2)) (.R false) fun b2=>.R (b2||(decide (x<y))))
def T1 (x:List Int)(i:Int):M prog Bool (Int⊕(Int⊕Bool)):=
 .I (decide (i>0)) (.D [] []<| .O (.ix aI8 x i) fun x2=>.O (.ix aI8 x (o6 (i-1))) fun x3=>.K (cmp_Less_int x2 x3) fun v=>.I v (.R (.inr (.inr false))) (.R (.inl (o6 (i-1))))) (.R (.inr (.inl i)))
def S3 (x:List Int):C prog Bool:=.of Z call119 func119 [.t (tS aI8 x)] (fun r=>.t (tB r)) (
 .L (fun(t:Int)=>[.t 3 (.t (tI t))]) 0 (.one .rt) (T1 x) (o6 ((x.length:Int)-1)) (fun _=>.R true) (fun r2=>.R r2))
def K3 (n2 low high:Int):C prog Bool:=.of Z call120 func120 [.t (tI n2),.t (tI low),.t (tI high)] (fun r=>.t (tB r)) (
 .R ((decide (n2>=low))&&(decide (n2<=high))))
def aK9 (y:Int):C prog Bool:=.of Z call122 func122 [.t (tI y)] (fun r=>.t (tB r)) (
 .K (K3 y 100 3000) fun v=>.R (!v))
def aT5 (_:Int)(x:List Int)(_:Unit):M prog Bool (Fl Unit Bool):=
 .W (.hx 0)<| .K (S3 x) fun v3=>.G (!v3) (.R true) (.O (.ix aI8 x 0) fun x2=>.K (K3 x2 0 1048576) fun v4=>.R (!v4)) fun b3=>.G b3 (.R true) (.O (.ix aI8 x (o6 ((x.length:Int)-1))) fun x3=>.K (K3 x3 0 1048576) fun v5=>.R (!v5)) fun b4=>.I b4 (.R (.ret false)) (.R (.next ()))
def aB6 (t2:p6):C prog Bool:=.of Z call70 func70 [V5 t2] (fun r=>.t (tB r)) (
 .K (L0 t2.Air) fun v=>.G (!v) (.R true) (.K (R9 t2.C6) fun v2=>.R (!v2)) fun b2=>.I b2 (.R false) (M.Q (dn9 aI8) t2.Air.Z 2 19 (fun(_:Unit)=>[.x 5,.x 15,.x 16]) 0 (.one .rt) (aT5) () (fun _=>.K (u7 t2.C6.Y (.of (fun z_=>aK9 z_) 122 [])) fun v6=>.R (!v6)) (fun r2=>.R r2)))
def ac3 (s:List (List Int))(f2:Cl prog (List Int) Bool (fun x=>[.t (tS aI8 x)]) (fun r=>.t (tB r)))(i:Int)(_:Unit):M prog Int (Fl Unit Int):=
 .O (.ix (dn9 aI8) s i) fun x=>.K (f2.at x) fun v=>.I v (.R (.ret i)) (.R (.next ()))
def Y7 (s:List (List Int))(f2:Cl prog (List Int) Bool (fun x=>[.t (tS aI8 x)]) (fun r=>.t (tB r))):C prog Int:=.of Z call61 func61 [.t (tS (dn9 aI8) s),.fz f2.n f2.cs] (fun r=>.t (tI r)) (
 M.QN (s.length:Int) 2 8 (fun(_:Unit)=>[]) 0 (.one .rt) (ac3 s f2) () (fun _=>.R (-1)) (fun r2=>.R r2))
def H2 (s:List (List Int))(f2:Cl prog (List Int) Bool (fun x=>[.t (tS aI8 x)]) (fun r=>.t (tB r))):C prog Bool:=.of Z call22 func22 [.t (tS (dn9 aI8) s),.fz f2.n f2.cs] (fun r=>.t (tB r)) (
 .K (Y7 s f2) fun v=>.R (decide (v>=0)))
def J3 (x low high:Int):C prog Bool:=.of Z call210 func210 [.t (tI x),.t (tI low),.t (tI high)] (fun r=>.t (tB r)) (
 .R ((decide (x>=low))&&(decide (x<=high))))
def ap3 (x c c2:Int):C prog Bool:=.of Z call209 func209 [.t (tI x),.el (aI8 c),.el (aI8 c2)] (fun r=>.t (tB r)) (
 .K (J3 x c c2) fun v=>.R (!v))
def ai2 (l:List Int)(low high:Int):C prog Bool:=.of Z call123 func123 [.t (tS aI8 l),.t (tI low),.t (tI high)] (fun r=>.t (tB r)) (
 .Z (.fb 4)<| .Z (.fb 5)<| .K (u7 l (.of (fun z_=>ap3 z_ low high) 209 [aI8 low,aI8 high])) fun v=>.R v)
def N7 (x:List Int)(cmp:Cl prog (Int×Int) Int (fun x=>[.t (tI x.1),.t (tI x.2)]) (fun r=>.t (tI r)))(i:Int):M prog Bool (Int⊕(Int⊕Bool)):=
 .I (decide (i>0)) (.D [] []<| .O (.ix aI8 x i) fun x2=>.O (.ix aI8 x (o6 (i-1))) fun x3=>.K (cmp.at (x2,x3)) fun v=>.I (decide (v<0)) (.R (.inr (.inr false))) (.R (.inl (o6 (i-1))))) (.R (.inr (.inl i)))
def J5 (x:List Int)(cmp:Cl prog (Int×Int) Int (fun x=>[.t (tI x.1),.t (tI x.2)]) (fun r=>.t (tI r))):C prog Bool:=.of Z call124 func124 [.t (tS aI8 x),.fz cmp.n cmp.cs] (fun r=>.t (tB r)) (
 .L (fun(t:Int)=>[.t 5 (.t (tI t))]) 0 (.one .rt) (N7 x cmp) (o6 ((x.length:Int)-1)) (fun _=>.R true) (fun r2=>.R r2))
def ae1 (a b2:Int):C prog Int:=.of Z call125 func125 [.t (tI a),.t (tI b2)] (fun r=>.t (tI r)) (
 .R (o6 (b2-a)))
def am1 (row:List Int):C prog Bool:=.of Z call126 func126 [.t (tS aI8 row)] (fun r=>.t (tB r)) (
 .K (ai2 row 0 10000) fun v=>.G v (.R true) (.K (S3 row) fun v2=>.R (!v2)) fun b2=>.R b2)
def aj3 (t2:p6):C prog Bool:=.of Z call71 func71 [V5 t2] (fun r=>.t (tB r)) (
 .K (L0 t2.j9) fun v=>.G (!v) (.R true) (.K (R9 t2.u6) fun v2=>.R (!v2)) fun b2=>.G b2 (.R true) (.K (ai2 t2.u6.Y 0 1000) fun v3=>.R v3) fun b3=>.I b3 (.R false) (.K (J5 t2.u6.Y (.of (fun z_=>ae1 z_.1 z_.2) 125 [])) fun v4=>.I (!v4) (.R false) (.K (H2 t2.j9.Z (.of (fun z_=>am1 z_) 126 [])) fun v5=>.R (!v5))))
def L5 (x low high:Int):C prog Bool:=.of Z call133 func133 [.t (tI x),.t (tI low),.t (tI high)] (fun r=>.t (tB r)) (
 .R ((decide (x>=low))&&(decide (x<=high))))
def aA6 (x c c2:Int):C prog Bool:=.of Z call132 func132 [.t (tI x),.el (aI8 c),.el (aI8 c2)] (fun r=>.t (tB r)) (
 .K (L5 x c c2) fun v=>.R (!v))
def ag9 (l:List Int)(low high:Int):C prog Bool:=.of Z call74 func74 [.t (tS aI8 l),.t (tI low),.t (tI high)] (fun r=>.t (tB r)) (
 .Z (.fb 4)<| .Z (.fb 5)<| .K (u7 l (.of (fun z_=>aA6 z_ low high) 132 [aI8 low,aI8 high])) fun v=>.R (!v))
def T0 (g:ak0):C prog Bool:=.of Z call75 func75 [dg7 g] (fun r=>.t (tB r)) (
 .R (((((((decide (g.P>=0))&&(decide (g.P<=65536)))&&(decide (g.I>=0)))&&(decide (g.I<=65536)))&&(decide (g.Low>=(-1073741824))))&&(decide (g.Low<=g.aC5)))&&(decide (g.aC5<=1073741824))))
def aB8 (_:Int)(x:List Int)(_:Unit):M prog Bool (Fl Unit Bool):=
 .W (.hx 0)<| .K (ag9 x (-1280) 3840) fun v7=>.I (!v7) (.R (.ret false)) (.R (.next ()))
def ae2 (t2:p6):C prog Bool:=.of Z call31 func31 [V5 t2] (fun r=>.t (tB r)) (
 .K (aB6 t2) fun v=>.G (!v) (.R true) (.K (aj3 t2) fun v2=>.R (!v2)) fun b2=>.G b2 (.R true) (.K (L0 t2.D9) fun v3=>.R (!v3)) fun b3=>.G b3 (.R true) (.K (L0 t2.R6) fun v4=>.R (!v4)) fun b4=>.G b4 (.R true) (.K (R9 t2.L2) fun v5=>.R (!v5)) fun b5=>.G b5 (.R true) (.K (R9 t2.V6) fun v6=>.R (!v6)) fun b6=>.I b6 (.R false) (M.Q (dn9 aI8) t2.D9.Z 2 41 (fun(_:Unit)=>[.x 37,.x 38]) 0 (.one .rt) (aB8) () (fun _=>.K (ag9 t2.L2.Y 500 10000) fun v8=>.G v8 (.K (ag9 t2.V6.Y 0 10000) fun v9=>.R v9) (.R false) fun b7=>.G b7 (.K (T0 t2.G6) fun v10=>.R v10) (.R false) fun b8=>.R b8) (fun r2=>.R r2)))
def aR8 (x:Int):C prog Bool:=.of Z call205 func205 [.t (tI x)] (fun r=>.t (tB r)) (
 .K (F4 x (-1099511627776) 1099511627776) fun v=>.R v)
def aA8 (x:Int):C prog Bool:=.of Z call204 func204 [.t (tI x)] (fun r=>.t (tB r)) (
 .K (aR8 x) fun v=>.R (!v))
def at7 (c:A5)(l:List Int):C prog Bool:=.of Z call114 func114 [aP3 c,.t (tS aI8 l)] (fun r=>.t (tB r)) (
 .G ((l.length:Int)==c.Frame) (.K (u7 l (.of (fun z_=>aA8 z_) 204 [])) fun v=>.R (!v)) (.R false) fun b2=>.R b2)
def aa3 (f2:B1)(bits:Int):C prog Bool:=.of Z call115 func115 [cJ1 f2,.t (tI bits)] (fun r=>.t (tB r)) (
 .R ((V8 .i64 f2.K7 bits)==bits))
def aL5 (f2:B1):C prog Bool:=.of Z call116 func116 [cJ1 f2] (fun r=>.t (tB r)) (
 .R ((V8 .i64 f2.K7 6) !=0))
def aG0 (c:A5)(f2:B1)(G8:Int):C prog Bool:=.of Z call57 func57 [aP3 c,cJ1 f2,.t (tI G8)] (fun r=>.t (tB r)) (
 .K (F4 f2.K7 0 31) fun v=>.G (!v) (.R true) (.K (F4 f2.F2 (o6 (0-c.Pass)) c.bq6) fun v2=>.R (!v2)) fun b2=>.G b2 (.R true) (.K (F4 f2.I4 0 2) fun v3=>.R (!v3)) fun b3=>.G b3 (.R true) (.K (F4 f2.Clean 0 (o6 (c.Age-1))) fun v4=>.R (!v4)) fun b4=>.G b4 (.R true) (.K (F4 f2.A2 0 255) fun v5=>.R (!v5)) fun b5=>.G b5 (.R true) (.K (F4 f2.E0 0 G8) fun v6=>.R (!v6)) fun b6=>.G b6 (.R true) (.G (decide ((f2.Frame.length:Int)>0)) (.K (at7 c f2.Frame) fun v7=>.R (!v7)) (.R false) fun b7=>.R b7) fun b8=>.I b8 (.R false) (.K (aa3 f2 1) fun v8=>.G v8 (.K (aa3 f2 10) fun v9=>.R ((!v9)||(f2.E0 !=G8))) (.R false) fun b9=>.I b9 (.R false) (.D [] []<| .K (aa3 f2 4) fun v10=>.I (!(v10==(f2.I4==2))) (.R false) (.K (aa3 f2 16) fun v11=>.G v11 (.K (aa3 f2 4) fun v12=>.R ((!v12)||(!c.cr8))) (.R false) fun b10=>.I b10 (.R false) (.K (aa3 f2 2) fun v13=>.I (v13&&(f2.Clean !=0)) (.R false) (.K (aL5 f2) fun v14=>.I v14 (.R ((((decide (f2.A2>=1))&&(decide (f2.I4>=1)))&&(decide (f2.E0>=1)))&&((f2.Frame.length:Int)==c.Frame))) (.R (((((f2.I4==0)&&(f2.Clean==0))&&(f2.A2==0))&&(f2.E0==0))&&((f2.Frame.length:Int)==0)))))))))
def aD6 (f2:B3)(i:Int)(_:Unit):M prog Bool (Fl Unit Bool):=
 .O (.ix H3 f2.L i) fun x=>.D [] []<| .O (.ix O1 f2.K6 i) fun x2=>.K (aG0 x2 x f2.af1) fun v4=>.I (!v4) (.R (.ret false)) (.R (.next ()))
def ab9 (f2:B3):C prog Bool:=.of Z call16 func16 [aB4 f2] (fun r=>.t (tB r)) (
 .G (decide ((f2.K6.length:Int)>64)) (.R true) (.K (K1 f2.K6 (.of (fun z_=>ao7 z_) 54 [])) fun v=>.R v) fun b2=>.G b2 (.R true) (.K (ao6 f2.K6) fun v2=>.R (!v2)) fun b3=>.G (b3||((f2.L.length:Int) !=(f2.K6.length:Int))) (.R true) (.K (F4 f2.af1 0 1073741824) fun v3=>.R (!v3)) fun b4=>.I (b4||(f2.S8&&(decide (f2.af1<1)))) (.R false) (M.QN (f2.L.length:Int) 2 47 (fun(_:Unit)=>[.x 5,.x 44]) 0 (.one .rt) (aD6 f2) () (fun _=>.R true) (fun r2=>.R r2)))
def af3 (s:List B1):CG prog (List B1):=.of Z call134 func134 [.t (tS H3 s)] [] (fun _=>.own 900000) (fun r=>[(900000,.rs 166 7 r H3)]) [900000] (
 .Nl H3 s (.I true (.Z (.np 2 70000 166 7 [])<| .R ([]:List B1)) .N) (fun s=>.I false .N (.U (.ap H3 ([]:List B1) s 5) fun l=>.R l)))
def ay7 (i:Int)(f3:List B1):M prog B3 (Fl (List B1) Empty):=
 .D [] []<| .O (.ix H3 f3 i) fun x=>.W (.ly 0)<| .K (P9 x.Frame) fun v2=>.W (.hx 0)<| .U (.st H3 f3 i (⟨x.K7,x.F2,x.I4,x.Clean,x.A2,v2,x.E0⟩:B1) 0) fun l=>.R (.next l)
def am4 (f2:B3):CG prog B3:=.of Z call76 func76 [aB4 f2] [] (fun r=>.agg [.t (tS O1 r.K6),.own 900000,.t (tI r.af1),.t (tB r.S8)]) (fun r=>[(900000,.rs 166 7 r.L H3)]) [900000] (
 .KG (af3 f2.L) [2048] fun v=>M.QN (v.length:Int) 2 11 (fun(t:List B1)=>[.x 4,.x 6,.x 7,.x 8,.x 9,.b 2048 (.rs 166 7 t H3)]) 0 (.e) (ay7) v (fun f4=>.R (⟨f2.K6,f4,f2.af1,f2.S8⟩:B3)) (fun t=>t.elim))
def aD5 (i:Int)(f3:List B1):M prog (B3×Int) (Fl (List B1) Empty):=
 .O (.ix H3 f3 i) fun x=>.U (.st H3 f3 i (⟨x.K7,0,x.I4,x.Clean,x.A2,x.Frame,x.E0⟩:B1) 0) fun l=>.W (.ly 0)<| .U (.st H3 l i (⟨aP4 .i64 x.K7 9,0,x.I4,x.Clean,x.A2,x.Frame,x.E0⟩:B1) 0) fun l2=>.R (.next l2)
def aL4 (f2:B3):C prog (B3×Int):=.of Z call32 func32 [aB4 f2] (fun r=>.S9 [aB4 r.1,.t (tI r.2)]) (
 .K (ab9 f2) fun v=>.I (!v) (.R ((⟨([]:List A5),([]:List B1),0,false⟩:B3),1)) (.I f2.S8 (.R ((⟨([]:List A5),([]:List B1),0,false⟩:B3),6)) (.I (f2.af1==1073741824) (.R ((⟨([]:List A5),([]:List B1),0,false⟩:B3),9)) (.KG (am4 f2) [2168] fun v2=>M.QN (v2.L.length:Int) 2 30 (fun(t:List B1)=>[.x 12,.x 16,.x 21,.x 22,.x 25,.x 26,.x 27,.x 28,.b 2168 (.rs 166 7 t H3)]) 1 (.e) (aD5) v2.L (fun f4=>.R ((⟨v2.K6,f4,o6 (v2.af1+1),true⟩:B3),0)) (fun t=>t.elim)))))
def aY5 (n2:Int):C prog Bool:=.of Z call77 func77 [.t (tI n2)] (fun r=>.t (tB r)) (
 .R ((decide (n2>=1))&&(decide (n2<=65535))))
def cS9 (seed:Int):C prog (W3×Int):=.of Z call33 func33 [.t (tI seed)] (fun r=>.S9 [aT3 r.1,.t (tI r.2)]) (
 .K (aY5 seed) fun v=>.I (!v) (.R ((⟨0,0,0,false,false⟩:W3),2)) (.R ((⟨seed,0,0,false,false⟩:W3),0)))
def dA4:C prog Q5:=.of Z call34 func34 [] (fun r=>aM2 r) (
 .R (⟨0,0,0,0,0,0⟩:Q5))
def cx3:C prog Q0:=.of Z call35 func35 [] (fun r=>aX5 r) (
 .R (⟨false,0,0,false⟩:Q0))
def bN2:C prog N6:=.of Z call36 func36 [] (fun r=>bc1 r) (
 .R (⟨false,0,0⟩:N6))
def df7:C prog V7:=.of Z call37 func37 [] (fun r=>bm4 r) (
 .R (⟨false,1,0⟩:V7))
def bW3 (t2:p6)(b2:J4)(e2:o7)(l:List A5):C prog (Y9×Int):=.of Z call8 func8 [V5 t2,aM1 b2,av0 e2,.t (tS O1 l)] (fun r=>.S9 [cb1 r.1,.t (tI r.2)]) (
 .K (aA5 e2) fun r2=>.K (aq2 e2) fun r3=>.K (cx5 b2) fun r4=>.K (aP5 l) fun r5=>.K (ae2 t2) fun v=>.I ((((((!v)||(r2.2 !=0))||(r3.2 !=0))||(r4.2 !=0))||(r5.2 !=0))||(decide ((l.length:Int)<7))) (.R ((⟨(⟨(⟨([]:List Int),([]:List Int),([]:List (List Int))⟩:SMap),(⟨([]:List Int),([]:List Int),([]:List (List Int))⟩:SMap),(⟨([]:List Int),([]:List Int),([]:List (List Int))⟩:SMap),(⟨([]:List Int),([]:List Int),([]:List (List Int))⟩:SMap),(⟨([]:List Int),([]:List Int)⟩:A7),(⟨([]:List Int),([]:List Int)⟩:A7),(⟨([]:List Int),([]:List Int)⟩:A7),(⟨([]:List Int),([]:List Int)⟩:A7),(⟨0,0,0,0⟩:ak0)⟩:p6),(⟨(⟨0,0,false⟩:L4),(⟨0⟩:B9),([]:List D0),(⟨false,false,0,0,([]:List ad1)⟩:I2),0,(⟨0,0⟩:N4)⟩:z8),(⟨(⟨([]:List Int),0⟩:o7),(⟨false,0,0,0,0,0⟩:B8),(⟨0,([]:List o4)⟩:u5),([]:List A6),([]:List A9),false⟩:j2),(⟨0,0,0,0,0,0⟩:Q5),(⟨false,0,0,false⟩:Q0),(⟨false,0,0⟩:N6),(⟨0,0,false⟩:U0),(⟨0,0,0,false,false⟩:W3),(⟨false,0,0⟩:V7),(⟨([]:List A5),([]:List B1),0,false⟩:B3),(⟨0,0,0,0,0,([]:List Int)⟩:O9),(⟨0,0,0,0,0,0,0⟩:J4),0⟩:Y9),1)) (.K (aL4 r5.1) fun r6=>.K (cS9 1) fun r7=>.D [] []<| .K (dA4) fun v2=>.K (cx3) fun v3=>.K (bN2) fun v4=>.K (df7) fun v5=>.R ((⟨t2,(⟨(⟨r2.1.C5.Value,r2.1.C5.O8,r2.1.C5.ai8⟩:L4),(⟨r2.1.G6.Sum⟩:B9),r2.1.R7,(⟨r2.1.B2.Q8,r2.1.B2.ay2,r2.1.B2.P3,r2.1.B2.av7,r2.1.B2.Cells⟩:I2),r2.1.H9,(⟨r2.1.L8.j9,r2.1.L8.I7⟩:N4)⟩:z8),(⟨(⟨r3.1.o9.z7,r3.1.o9.P0⟩:o7),(⟨r3.1.j8.L9,r3.1.j8.At,r3.1.j8.E3,r3.1.j8.A0,r3.1.j8.M5,r3.1.j8.Q4⟩:B8),(⟨r3.1.j7.P8,r3.1.j7.j5⟩:u5),r3.1.Next,r3.1.F3,r3.1.Cut⟩:j2),v2,v3,v4,(⟨0,0,false⟩:U0),r7.1,v5,r6.1,r4.1,b2,0⟩:Y9),0)))
def cO0 (s:List A5×Int):M prog (List A5) ((List A5×Int)⊕((List A5×Int)⊕Empty)):=
 .I (decide (s.2<7)) (.U (.ap O1 s.1 ([(⟨o6 (8448+s.2),3,5,3,40,o6 (1+s.2),true,2⟩:A5)]:List A5) 2104) fun l=>.R (.inl (l,o6 (s.2+1)))) (.R (.inr (.inl (s.1,s.2))))
def bn3:C prog (List A5):=.of Z call9 func9 [] (fun r=>.t (tS O1 r)) (
 .Z (.np 1 2104 141 8 [])<| .L (fun(t:List A5×Int)=>[.t 1 (.own 2104),.t 3 (.t (tI t.2)),.b 2104 (.rs 141 8 t.1 O1)]) 0 (.e) (cO0) (([]:List A5),0) (fun s2=>.R s2.1) (fun t=>t.elim))
def aw0 (t2:Int):C prog Bool:=.of Z call103 func103 [.t (tI t2)] (fun r=>.t (tB r)) (
 .R ((decide (t2>=0))&&(decide (t2<=1099511627776))))
def ak1 (c:B8):C prog Bool:=.of Z call46 func46 [bC2 c] (fun r=>.t (tB r)) (
 .I (!c.L9) (.W .eq<| .R ((c.L9==false)&&((c.At==0)&&((c.E3==0)&&((c.A0==0)&&((c.M5==0)&&((c.Q4==0)&&true))))))) (.K (aw0 c.At) fun v=>.I (((((((!v)||(decide (c.E3<0)))||(decide (c.E3>=46080)))||(decide (c.A0<1)))||(decide (c.A0>1073741824)))||(decide (c.M5<192)))||(decide (c.M5>1920))) (.R false) (.R (((c.Q4==c.M5)||(c.Q4==(o6 (2*c.M5))))||(c.Q4==(o6 (3*c.M5)))))))
def Y1 (s:List o4)(f2:Cl prog o4 Bool (fun x=>[ba4 x]) (fun r=>.t (tB r)))(i:Int)(_:Unit):M prog Int (Fl Unit Int):=
 .O (.ix G3 s i) fun x=>.K (f2.at x) fun v=>.I v (.R (.ret i)) (.R (.next ()))
def T6 (s:List o4)(f2:Cl prog o4 Bool (fun x=>[ba4 x]) (fun r=>.t (tB r))):C prog Int:=.of Z call202 func202 [.t (tS G3 s),.fz f2.n f2.cs] (fun r=>.t (tI r)) (
 M.QN (s.length:Int) 2 8 (fun(_:Unit)=>[]) 0 (.one .rt) (Y1 s f2) () (fun _=>.R (-1)) (fun r2=>.R r2))
def H8 (s:List o4)(f2:Cl prog o4 Bool (fun x=>[ba4 x]) (fun r=>.t (tB r))):C prog Bool:=.of Z call104 func104 [.t (tS G3 s),.fz f2.n f2.cs] (fun r=>.t (tB r)) (
 .K (T6 s f2) fun v=>.R (decide (v>=0)))
def aq3 (c:o4)(c2:u5):C prog Bool:=.of Z call105 func105 [ba4 c,.el (cO8 c2)] (fun r=>.t (tB r)) (
 .I c.F6 (.R ((decide (c.At<=c2.P8))||(decide (c.At>1099511627776)))) (.R ((c.At !=0)||c.Next)))
def ap2 (t2:u5):C prog Bool:=.of Z call47 func47 [aO2 t2] (fun r=>.t (tB r)) (
 .I ((((decide (t2.P8<0))||(decide (t2.P8>1099511627776)))||(decide ((t2.j5.length:Int)<1)))||(decide ((t2.j5.length:Int)>16))) (.R false) (.Z (.fb 1)<| .K (H8 t2.j5 (.of (fun z_=>aq3 z_ t2) 105 [cO8 t2])) fun v=>.R (!v)))
def O4 (x low high:Int):C prog Bool:=.of Z call203 func203 [.t (tI x),.t (tI low),.t (tI high)] (fun r=>.t (tB r)) (
 .R ((decide (x>=low))&&(decide (x<=high))))
def aa2 (e2:o7)(f2:A6):C prog Bool:=.of Z call106 func106 [av0 e2,aQ2 f2] (fun r=>.t (tB r)) (
 .K (R3 e2) fun v=>.G (!v) (.R true) (.K (S1 e2.z7 f2.w9) fun v2=>.R (!v2)) fun b2=>.G b2 (.R true) (.K (O4 f2.D9 (-1280) 3840) fun v3=>.R (!v3)) fun b3=>.G b3 (.R true) (.K (O4 f2.L2 500 10000) fun v4=>.R (!v4)) fun b4=>.G b4 (.R true) (.K (O4 f2.End 0 23040) fun v5=>.R (!v5)) fun b5=>.I b5 (.R false) (.G (f2.ag3 !=0) (.K (O4 f2.ag3 200 20000) fun v6=>.R (!v6)) (.R false) fun b6=>.I b6 (.R false) (.G ((f2.Gap==0)&&(f2.Extra==0)) (.R true) (.G (f2.ag3 !=0) (.K (O4 f2.Gap 200 20000) fun v7=>.R v7) (.R false) fun b7=>.G b7 (.K (O4 f2.Extra 200 20000) fun v8=>.R v8) (.R false) fun b8=>.R b8) fun b9=>.R b9)))
def P7 (s:List A6)(f2:Cl prog A6 Bool (fun x=>[aQ2 x]) (fun r=>.t (tB r)))(i:Int)(_:Unit):M prog Int (Fl Unit Int):=
 .O (.ix C1 s i) fun x=>.K (f2.at x) fun v=>.I v (.R (.ret i)) (.R (.next ()))
def J2 (s:List A6)(f2:Cl prog A6 Bool (fun x=>[aQ2 x]) (fun r=>.t (tB r))):C prog Int:=.of Z call194 func194 [.t (tS C1 s),.fz f2.n f2.cs] (fun r=>.t (tI r)) (
 M.QN (s.length:Int) 2 8 (fun(_:Unit)=>[]) 0 (.one .rt) (P7 s f2) () (fun _=>.R (-1)) (fun r2=>.R r2))
def G4 (s:List A6)(f2:Cl prog A6 Bool (fun x=>[aQ2 x]) (fun r=>.t (tB r))):C prog Bool:=.of Z call107 func107 [.t (tS C1 s),.fz f2.n f2.cs] (fun r=>.t (tB r)) (
 .K (J2 s f2) fun v=>.R (decide (v>=0)))
def ag0 (g c:A6):C prog Bool:=.of Z call108 func108 [aQ2 g,.el (C1 c)] (fun r=>.t (tB r)) (
 .R (g.w9==c.w9))
def an9 (e2:o7)(l:List A6)(i:Int)(_:Unit):M prog Bool (Fl Unit Bool):=
 .O (.ix C1 l i) fun x=>.K (aa2 e2 x) fun v=>.Z (.fb 6)<| .G (!v) (.R true) (.U (.sF C1 l 0 i) fun l2=>.K (G4 l2 (.of (fun z_=>ag0 z_ x) 108 [C1 x])) fun v2=>.R v2) fun b2=>.I b2 (.R (.ret false)) (.R (.next ()))
def ad5 (e2:o7)(l:List A6):C prog Bool:=.of Z call48 func48 [av0 e2,.t (tS C1 l)] (fun r=>.t (tB r)) (
 M.QN (l.length:Int) 2 9 (fun(_:Unit)=>[]) 0 (.one .rt) (an9 e2 l) () (fun _=>.R true) (fun r2=>.R r2))
def R5 (s:List A9)(f2:Cl prog A9 Bool (fun x=>[bd7 x]) (fun r=>.t (tB r)))(i:Int)(_:Unit):M prog Int (Fl Unit Int):=
 .O (.ix K0 s i) fun x=>.K (f2.at x) fun v=>.I v (.R (.ret i)) (.R (.next ()))
def D4 (s:List A9)(f2:Cl prog A9 Bool (fun x=>[bd7 x]) (fun r=>.t (tB r))):C prog Int:=.of Z call109 func109 [.t (tS K0 s),.fz f2.n f2.cs] (fun r=>.t (tI r)) (
 M.QN (s.length:Int) 2 8 (fun(_:Unit)=>[]) 0 (.one .rt) (R5 s f2) () (fun _=>.R (-1)) (fun r2=>.R r2))
def R4 (s:List A9)(f2:Cl prog A9 Bool (fun x=>[bd7 x]) (fun r=>.t (tB r))):C prog Bool:=.of Z call49 func49 [.t (tS K0 s),.fz f2.n f2.cs] (fun r=>.t (tB r)) (
 .K (D4 s f2) fun v=>.R (decide (v>=0)))
def aw7 (s:j2)(j:A9):C prog Bool:=.of Z call51 func51 [U6 s,bd7 j] (fun r=>.t (tB r)) (
 .R (((((((((((decide (j.Event.w9>=1))&&(decide (j.Event.w9<=(s.o9.z7.length:Int))))&&(decide (j.Event.Kind>=1)))&&(decide (j.Event.Kind<=4)))&&(decide (j.Event.E3>=0)))&&(decide (j.Event.E3<46080)))&&(decide (j.Event.aj9>=0)))&&(decide (j.Event.aj9<=2)))&&(decide (j.Left>=(-1048576))))&&(decide (j.Left<=1048576)))&&(j.F6||(j.At==0))))
def ab0 (j:A9)(c:j2):C prog Bool:=.of Z call50 func50 [bd7 j,.el (bf1 c)] (fun r=>.t (tB r)) (
 .K (aw7 c j) fun v=>.R (!v))
def I9 (x:C8):C prog Int:=.of Z call110 func110 [aX3 x] (fun r=>.t (tI r)) (
 .I ((x.Kind==3)||(x.Kind==4)) (.R (o6 ((o6 (2*(o6 (x.w9-1))))+1))) (.R (o6 (2*(o6 (x.w9-1))))))
def as3 (kind:Int):C prog Bool:=.of Z call111 func111 [.t (tI kind)] (fun r=>.t (tB r)) (
 .R ((kind==1)||(kind==3)))
def ab3 (s:j2)(c:Int)(x:o4)(_:Int)(x2:A9)(s2:Bool×Bool):M prog Bool (Fl (Bool×Bool) Bool):=
 .W (.hx 0)<| .K (I9 x2.Event) fun v=>.I (v !=c) (.R (.next (s2.1,s2.2))) (.K (as3 x2.Event.Kind) fun v2=>.I (v2==s2.1) (.R (.ret false)) (.J 0 (fun(_:Unit)=>[.x 25,.x 30,.x 31]) (.one .rt) (.I s2.2 (.I ((!(x2.F6==x.F6))||(x2.F6&&((x2.At !=x.At)||(!(x.Next==(!s2.1)))))) (.R (.inr false)) (.R (.inl ()))) (.I (x2.F6||s.Cut) (.R (.inr false)) (.R (.inl ())))) (fun _=>.I (s.Cut&&(((x2.Event.Kind !=2)||(!x2.F6))||(decide (x2.At>(o6 (s.j7.P8+5000)))))) (.R (.ret false)) (.R (.next ((!s2.1),false)))) (fun r2=>.R (.ret r2))))
def as2 (s:j2)(c:Int):C prog Bool:=.of Z call52 func52 [U6 s,.t (tI c)] (fun r=>.t (tB r)) (
 .O (.ix G3 s.j7.j5 c) fun x=>M.Q K0 s.F3 2 21 (fun(t:Bool×Bool)=>[.t 6 (.t (tB t.1)),.t 7 (.t (tB t.2)),.x 10,.x 11,.x 16,.x 18]) 0 (.one .rt) (ab3 s c x) (x.M9,true) (fun s4=>.R ((!s4.1)&&(!(s4.2&&x.F6)))) (fun r3=>.R r3))
def an8 (s:j2)(i:Int)(_:Unit):M prog Bool (Fl Unit Bool):=
 .K (as2 s i) fun v6=>.I (!v6) (.R (.ret false)) (.R (.next ()))
def K9 (s:j2):C prog Bool:=.of Z call15 func15 [U6 s] (fun r=>.t (tB r)) (
 .K (R3 s.o9) fun v=>.G (!v) (.R true) (.K (ak1 s.j8) fun v2=>.R (!v2)) fun b2=>.G b2 (.R true) (.K (ap2 s.j7) fun v3=>.R (!v3)) fun b3=>.G (b3||((s.j7.j5.length:Int) !=(o6 (2*(s.o9.z7.length:Int))))) (.R true) (.K (ad5 s.o9 s.Next) fun v4=>.R (!v4)) fun b4=>.I b4 (.R false) (.Z (.fb 1)<| .G ((decide ((s.F3.length:Int)>200))||((!s.j8.L9)&&(decide ((s.F3.length:Int)>0)))) (.R true) (.K (R4 s.F3 (.of (fun z_=>ab0 z_ s) 50 [bf1 s])) fun v5=>.R v5) fun b5=>.I b5 (.R false) (M.QN (s.j7.j5.length:Int) 2 66 (fun(_:Unit)=>[]) 0 (.one .rt) (an8 s) () (fun _=>.R true) (fun r2=>.R r2))))
def bB7 (_ x:Int)(_:Unit):M prog Bool (Fl Unit Bool):=
 .W (.hx 0)<| .K (H0 x 500 2000) fun v7=>.I (!v7) (.R (.ret false)) (.R (.next ()))
def bw3 (b2:J4)(p2:O9):C prog Bool:=.of Z call78 func78 [aM1 b2,aX6 p2] (fun r=>.t (tB r)) (
 .K (ak5 b2) fun v=>.G (!v) (.R true) (.K (H0 p2.F8 0 3019898879) fun v2=>.R (!v2)) fun b3=>.G b3 (.R true) (.K (H0 p2.C9 0 262144) fun v3=>.R (!v3)) fun b4=>.G b4 (.R true) (.K (H0 p2.Rest 0 (o6 (b2.O5-1))) fun v4=>.R (!v4)) fun b5=>.G b5 (.R true) (.K (H0 p2.G0 50 1013) fun v5=>.R (!v5)) fun b6=>.G b6 (.R true) (.K (H0 p2.H9 0 2147483648) fun v6=>.R (!v6)) fun b7=>.I (b7||(decide ((p2.Path.length:Int)>(o6 (b2.an6+1))))) (.R false) (M.Q aI8 p2.Path 2 55 (fun(_:Unit)=>[.x 2,.x 3,.x 52,.d 2,.d 3]) 0 (.one .rt) (bB7) () (fun _=>.R true) (fun r2=>.R r2)))
def ay0 (p2:L4):C prog Bool:=.of Z call135 func135 [ci2 p2] (fun r=>.t (tB r)) (
 .J0 0 (fun(t:Int)=>[.t 3 (.t (tI t)),.x 4]) (.I p2.ai8 (.R 200) (.R 1000)) fun most=>.R (((((decide (p2.Value>=0))&&(decide (p2.Value<=most)))&&(decide (p2.O8>=0)))&&(decide (p2.O8<=3)))&&(p2.ai8==(p2.O8==3))))
def U9 (x low high:Int):C prog Bool:=.of Z call211 func211 [.t (tI x),.t (tI low),.t (tI high)] (fun r=>.t (tB r)) (
 .R ((decide (x>=low))&&(decide (x<=high))))
def aj6 (s:List ad1)(f2:Cl prog ad1 Bool (fun x=>[bV9 x]) (fun r=>.t (tB r)))(i:Int)(_:Unit):M prog Int (Fl Unit Int):=
 .O (.ix ao5 s i) fun x=>.K (f2.at x) fun v=>.I v (.R (.ret i)) (.R (.next ()))
def ac8 (s:List ad1)(f2:Cl prog ad1 Bool (fun x=>[bV9 x]) (fun r=>.t (tB r))):C prog Int:=.of Z call288 func288 [.t (tS ao5 s),.fz f2.n f2.cs] (fun r=>.t (tI r)) (
 M.QN (s.length:Int) 2 8 (fun(_:Unit)=>[]) 0 (.one .rt) (aj6 s f2) () (fun _=>.R (-1)) (fun r2=>.R r2))
def T5 (s:List ad1)(f2:Cl prog ad1 Bool (fun x=>[bV9 x]) (fun r=>.t (tB r))):C prog Bool:=.of Z call212 func212 [.t (tS ao5 s),.fz f2.n f2.cs] (fun r=>.t (tB r)) (
 .K (ac8 s f2) fun v=>.R (decide (v>=0)))
def ad3 (c:ad1):C prog Bool:=.of Z call213 func213 [bV9 c] (fun r=>.t (tB r)) (
 .K (U9 c.Value (-100) 100) fun v=>.G (!v) (.R true) (.K (U9 c.F2 0 1000) fun v2=>.R (!v2)) fun b2=>.R b2)
def ae4 (p2:I2):C prog Bool:=.of Z call136 func136 [bt3 p2] (fun r=>.t (tB r)) (
 .K (U9 p2.P3 750 1250) fun v=>.G (!v) (.R true) (.K (U9 p2.av7 0 1000) fun v2=>.R (!v2)) fun b2=>.I (b2||((p2.Cells.length:Int) !=9)) (.R false) (.I ((!p2.Q8)&&(((p2.P3 !=1000)||(p2.av7 !=0))||p2.ay2)) (.R false) (.K (T5 p2.Cells (.of (fun z_=>ad3 z_) 213 [])) fun v3=>.R (!v3))))
def ah9 (s:List D0)(f2:Cl prog D0 Bool (fun x=>[aX4 x]) (fun r=>.t (tB r)))(i:Int)(_:Unit):M prog Int (Fl Unit Int):=
 .O (.ix K5 s i) fun x=>.K (f2.at x) fun v=>.I v (.R (.ret i)) (.R (.next ()))
def aa7 (s:List D0)(f2:Cl prog D0 Bool (fun x=>[aX4 x]) (fun r=>.t (tB r))):C prog Int:=.of Z call214 func214 [.t (tS K5 s),.fz f2.n f2.cs] (fun r=>.t (tI r)) (
 M.QN (s.length:Int) 2 8 (fun(_:Unit)=>[]) 0 (.one .rt) (ah9 s f2) () (fun _=>.R (-1)) (fun r2=>.R r2))
def K8 (s:List D0)(f2:Cl prog D0 Bool (fun x=>[aX4 x]) (fun r=>.t (tB r))):C prog Bool:=.of Z call137 func137 [.t (tS K5 s),.fz f2.n f2.cs] (fun r=>.t (tB r)) (
 .K (aa7 s f2) fun v=>.R (decide (v>=0)))
def ai5 (n2:Int):C prog Bool:=.of Z call215 func215 [.t (tI n2)] (fun r=>.t (tB r)) (
 .R ((decide (n2>=0))&&(decide (n2<=4095))))
def ax5 (k:D0):C prog Bool:=.of Z call139 func139 [aX4 k] (fun r=>.t (tB r)) (
 .G ((decide (k.au3>=0))&&(decide (k.au3<=960))) (.K (ai5 k.aI6) fun v=>.R v) (.R false) fun b2=>.R ((b2&&(decide (k.Quiet>=0)))&&(decide (k.Quiet<100))))
def al4 (k:D0):C prog Bool:=.of Z call138 func138 [aX4 k] (fun r=>.t (tB r)) (
 .K (ax5 k) fun v=>.R (!v))
def ar1 (e2:o7)(c:z8):C prog Bool:=.of Z call79 func79 [av0 e2,aR0 c] (fun r=>.t (tB r)) (
 .K (R3 e2) fun v=>.G (!v) (.R true) (.K (ay0 c.C5) fun v2=>.R (!v2)) fun b2=>.G b2 (.R true) (.K (ae4 c.B2) fun v3=>.R (!v3)) fun b3=>.I (b3||((c.R7.length:Int) !=(e2.z7.length:Int))) (.R false) (.K (K8 c.R7 (.of (fun z_=>al4 z_) 138 [])) fun v4=>.I v4 (.R false) (.K (L5 c.G6.Sum (-4398046511104) 4398046511104) fun v5=>.G v5 (.K (L5 c.H9 0 1073741824) fun v6=>.R v6) (.R false) fun b4=>.G b4 (.K (L5 c.L8.j9 (-5000) 10000) fun v7=>.R v7) (.R false) fun b5=>.G b5 (.K (L5 c.L8.I7 (-1) 15) fun v8=>.R v8) (.R false) fun b6=>.R b6)))
def aV5 (t2:Int):C prog Bool:=.of Z call140 func140 [.t (tI t2)] (fun r=>.t (tB r)) (
 .R ((decide (t2>=0))&&(decide (t2<=1099511627776))))
def aH6 (f2:N6):C prog Bool:=.of Z call80 func80 [bc1 f2] (fun r=>.t (tB r)) (
 .K (aV5 f2.E0) fun v=>.G v (.K (aV5 f2.A0) fun v2=>.R v2) (.R false) fun b2=>.R ((b2&&(decide (f2.A0<=f2.E0)))&&(f2.Seen||((f2.E0==0)&&(f2.A0==0)))))
def aM0 (w:ay3):C prog Bool:=.of Z call141 func141 [aq5 w] (fun r=>.t (tB r)) (
 .G (((((w.aE4==1)||(w.aE4==2))&&(decide (w.U2>=12)))&&(decide (w.U2<=120)))&&(decide (w.U2>=(o6 (8*w.aE4))))) (.O (.rem 23040 w.U2) fun q=>.R (q==0)) (.R false) fun b2=>.R b2)
def bg9 (t2:Int):C prog Bool:=.of Z call142 func142 [.t (tI t2)] (fun r=>.t (tB r)) (
 .R ((decide (t2>=0))&&(decide (t2<=1099511627776))))
def aT1 (w:ay3):C prog Int:=.of Z call143 func143 [aq5 w] (fun r=>.t (tI r)) (
 .K (aM0 w) fun v=>.I (!v) (.R 0) (.R (o6 (w.U2-w.aE4))))
def bx0 (w:ay3)(s:Q5):C prog Bool:=.of Z call81 func81 [aq5 w,aM2 s] (fun r=>.t (tB r)) (
 .K (aM0 w) fun v=>.I (!v) (.R false) (.I (s.Mode==0) (.W .eq<| .R ((s.Mode==0)&&((s.Z5==0)&&((s.E0==0)&&((s.A0==0)&&((s.I6==0)&&((s.U2==0)&&true))))))) (.I (s.Mode==1) (.G (s.Z5 !=0) (.R true) (.K (bg9 s.E0) fun v2=>.R (!v2)) fun b2=>.I b2 (.R false) (.I (s.U2==0) (.R ((s.A0==0)&&(s.I6==0))) (.R (((((s.U2==1)||(s.U2==2))&&(decide (s.A0>=1)))&&(decide (s.A0<=s.E0)))&&(s.I6==s.A0))))) (.I (s.Mode==2) (.J0 1 (fun(t:Bool)=>[.t 4 (.t (tB t)),.x 2,.x 3,.x 8,.d 2,.d 3]) (.D [] []<| .Sp (decide (s.Z5>=0)) (.K (aT1 w) fun v3=>.Sp (decide (s.Z5<v3)) (.K (bg9 s.E0) fun v4=>.Sp v4 (.Sp (decide (s.A0>=1)) (.Sp (decide (s.A0<=s.E0)) (.Sp (decide (s.I6>=1)) (.R ((decide (s.I6<=s.A0))&&(s.U2==0))) (.R false)) (.Sp false .N (.R false))) (.Sp false .N (.Sp false .N (.R false)))) (.Sp false .N (.Sp false .N (.Sp false .N (.R false))))) (.Sp false .N (.Sp false .N (.Sp false .N (.Sp false .N (.R false)))))) (.Sp false .N (.Sp false .N (.Sp false .N (.Sp false .N (.Sp false .N (.R false))))))) fun v5=>.R v5) (.R false)))))
def bs7:C prog ay3:=.of Z call82 func82 [] (fun r=>aq5 r) (
 .R (⟨60,2⟩:ay3))
def G9 (x y:Int):C prog Int:=.of Z call216 func216 [.t (tI x),.t (tI y)] (fun r=>.t (tI r)) (
 .K (cmp_isNaN_int x) fun v=>.K (cmp_isNaN_int y) fun v2=>.I v (.I v2 (.R 0) (.R (-1))) (.I v2 (.R 1) (.I (decide (x<y)) (.R (-1)) (.I (decide (x>y)) (.R 1) (.R 0)))))
def cH1 (_ x:Int)(s:Int×Int):M prog (Int×Int) (Fl (Int×Int) Empty):=
 .W (.hx 0)<| .I (decide (x<23040)) (.R (.next (o6 (s.1+1),s.2))) (.R (.next (s.1,o6 (s.2+1))))
def cr3 (c:ci6):C prog (Int×Int):=.of Z call217 func217 [bO8 c] (fun r=>.S9 [.t (tI r.1),.t (tI r.2)]) (
 M.Q aI8 c.by5 2 9 (fun(t:Int×Int)=>[.t 2 (.t (tI t.1)),.t 3 (.t (tI t.2)),.x 1,.x 6,.d 1]) 0 (.e) (cH1) (0,0) (fun s2=>.R (s2.1,s2.2)) (fun t=>t.elim))
def cr2 (c:ci6)(i:Int)(_:Unit):M prog Bool (Fl Unit Bool):=
 .O (.ix aI8 c.by5 i) fun x=>.G ((((decide (x<0))||(decide (x>=46080)))||(decide ((ef7 x 23040)<1920)))||(decide ((ef7 x 23040)>21120))) (.R true) (.G (decide (i>0)) (.O (.ix aI8 c.by5 (o6 (i-1))) fun x2=>.R (decide ((o6 (x-x2))<1920))) (.R false) fun b3=>.R b3) fun b4=>.I b4 (.R (.ret false)) (.R (.next ()))
def aT2 (c:ci6):C prog Bool:=.of Z call144 func144 [bO8 c] (fun r=>.t (tB r)) (
 .G ((decide ((c.by5.length:Int)<1))||(decide ((c.by5.length:Int)>8))) (.R true) (.K (J5 c.by5 (.of (fun z_=>G9 z_.1 z_.2) 216 [])) fun v=>.R (!v)) fun b2=>.I b2 (.R false) (M.QN (c.by5.length:Int) 2 26 (fun(_:Unit)=>[.x 7,.x 23]) 0 (.one .rt) (cr2 c) () (fun _=>.K (cr3 c) fun r2=>.R (r2.1 !=r2.2)) (fun r3=>.R r3)))
def bT4 (p2:Q0):C prog Bool:=.of Z call145 func145 [aX5 p2] (fun r=>.t (tB r)) (
 .I ((((decide (p2.F2<0))||(decide (p2.F2>16)))||(decide (p2.aO3<0)))||(decide (p2.aO3>1))) (.R false) (.I ((!p2.Seen)&&((p2.F2 !=0)||p2.ap8)) (.R false) (.R (p2.ap8||(p2.aO3==0)))))
def bo0 (c:ci6)(p2:Q0):C prog Bool:=.of Z call83 func83 [bO8 c,aX5 p2] (fun r=>.t (tB r)) (
 .K (aT2 c) fun v=>.G v (.K (bT4 p2) fun v2=>.R v2) (.R false) fun b2=>.R b2)
def bE3:C prog ci6:=.of Z call84 func84 [] (fun r=>bO8 r) (
 .R (⟨([5000,12000,30000]:List Int)⟩:ci6))
def O7 (x low high:Int):C prog Bool:=.of Z call146 func146 [.t (tI x),.t (tI low),.t (tI high)] (fun r=>.t (tB r)) (
 .R ((decide (x>=low))&&(decide (x<=high))))
def aY3 (g:U0):C prog Bool:=.of Z call85 func85 [bm3 g] (fun r=>.t (tB r)) (
 .K (O7 g.Over 0 5) fun v=>.G v (.K (O7 g.Calm 0 1000) fun v2=>.R v2) (.R false) fun b2=>.R ((b2&&((g.Over==0)||(g.Calm==0)))&&(g.Off||(decide (g.Over<5)))))
def bs2 (t2:Int):C prog Bool:=.of Z call147 func147 [.t (tI t2)] (fun r=>.t (tB r)) (
 .R ((decide (t2>=0))&&(decide (t2<=1099511627776))))
def bk0 (q:W3):C prog Bool:=.of Z call86 func86 [aT3 q] (fun r=>.t (tB r)) (
 .K (aY5 q.Question) fun v=>.G v (.K (bs2 q.an5) fun v2=>.R v2) (.R false) fun b2=>.R (((((b2&&(q.Open||(q.an5==0)))&&(decide (q.U7>=0)))&&(decide (q.U7<=7)))&&(q.Off==(q.U7==7)))&&(!(q.Open&&q.Off))))
def bL6 (t2:Int):C prog Bool:=.of Z call148 func148 [.t (tI t2)] (fun r=>.t (tB r)) (
 .R ((decide (t2>=0))&&(decide (t2<=1099511627776))))
def bo3 (s:V7):C prog Bool:=.of Z call87 func87 [bm4 s] (fun r=>.t (tB r)) (
 .G (((decide (s.az1>=0))&&(decide (s.az1<=3)))&&(s.T7==(s.az1==0))) (.K (bL6 s.ao1) fun v=>.R v) (.R false) fun b2=>.R b2)
def bW4 (u:Y9):C prog Bool:=.of Z call38 func38 [cb1 u] (fun r=>.t (tB r)) (
 .J0 1 (fun(t:Bool)=>[.t 49 (.t (tB t))]) (.D [] []<| .K (ae2 u.j3) fun v=>.Sp (!v) (.Sp true (.Sp true (.Sp true (.Sp true (.Sp true (.R true) .N) .N) .N) .N) .N) (.K (bw3 u.E7 u.u3) fun v2=>.Sp (!v2) (.Sp true (.Sp true (.Sp true (.Sp true (.R true) .N) .N) .N) .N) (.K (K9 u.c8) fun v3=>.Sp (!v3) (.Sp true (.Sp true (.Sp true (.R true) .N) .N) .N) (.K (ar1 u.c8.o9 u.j4) fun v4=>.Sp (!v4) (.Sp true (.Sp true (.R true) .N) .N) (.K (aH6 u.B4) fun v5=>.Sp (!v5) (.Sp true (.R true) .N) (.K (bs7) fun v6=>.K (bx0 v6 u.D8) fun v7=>.Sp (!v7) (.R true) (.K (bE3) fun v8=>.K (bo0 v8 u.D3) fun v9=>.R (!v9)))))))) fun v10=>.I v10 (.R false) (.K (aY3 u.H4) fun v11=>.G (!v11) (.R true) (.K (bk0 u.H7) fun v12=>.R (!v12)) fun b2=>.G b2 (.R true) (.K (bo3 u.G1) fun v13=>.R (!v13)) fun b3=>.G b3 (.R true) (.K (ab9 u.C7) fun v14=>.R (!v14)) fun b4=>.I ((b4||(decide ((u.C7.L.length:Int)<7)))||(!u.C7.S8)) (.R false) (.R (((((decide (u.Time>=0))&&(decide (u.Time<=549755813888)))&&((ef7 u.Time 10000)==0))&&(u.c8.j7.P8==u.Time))&&(decide ((K2 (K2 (K2 u.B4.E0 u.D8.E0) u.G1.ao1) u.H7.an5)<=u.Time))))))
def aS8 (s:List ab5)(f2:Cl prog ab5 Bool (fun x=>[bO7 x]) (fun r=>.t (tB r)))(i:Int)(_:Unit):M prog Int (Fl Unit Int):=
 .O (.ix aj8 s i) fun x=>.K (f2.at x) fun v=>.I v (.R (.ret i)) (.R (.next ()))
def bd0 (s:List ab5)(f2:Cl prog ab5 Bool (fun x=>[bO7 x]) (fun r=>.t (tB r))):C prog Int:=.of Z call149 func149 [.t (tS aj8 s),.fz f2.n f2.cs] (fun r=>.t (tI r)) (
 M.QN (s.length:Int) 2 8 (fun(_:Unit)=>[]) 0 (.one .rt) (aS8 s f2) () (fun _=>.R (-1)) (fun r2=>.R r2))
def aE3 (s:List ab5)(f2:Cl prog ab5 Bool (fun x=>[bO7 x]) (fun r=>.t (tB r))):C prog Bool:=.of Z call88 func88 [.t (tS aj8 s),.fz f2.n f2.cs] (fun r=>.t (tB r)) (
 .K (bd0 s f2) fun v=>.R (decide (v>=0)))
def cm1 (b2:ab5):C prog Bool:=.of Z call89 func89 [bO7 b2] (fun r=>.t (tB r)) (
 .R ((((((((decide (b2.cb3<0))||(decide (b2.cb3>1099511627776)))||(decide (b2.To<0)))||(decide (b2.To>1099511627776)))||(decide (b2.ba5<0)))||(decide (b2.ba5>7)))||(decide (b2.Value<(-1000000))))||(decide (b2.Value>1000000))))
def bJ0 (k:List ab5):C prog Bool:=.of Z call39 func39 [.t (tS aj8 k)] (fun r=>.t (tB r)) (
 .G (decide ((k.length:Int)<=100)) (.K (aE3 k (.of (fun z_=>cm1 z_) 89 [])) fun v=>.R (!v)) (.R false) fun b2=>.R b2)
def ca3 (d:L3):C prog (Int×Int×Int×Int×Int):=.of Z call25 func25 [bd6 d] (fun r=>dC2 r) (
 .R (d.At,d.C5,d.aF4,d.be0,d.be1))
def cA3:C prog (I1×I1×I1×I1×I1):=.of Z call26 func26 [] (fun r=>cb2 r) (
 .R ((⟨(ByteArray.mk #[97,116]),0,1099511627776⟩:I1),(⟨(ByteArray.mk #[112,101,100,97,108]),0,1000⟩:I1),(⟨(ByteArray.mk #[98,114,97,107,101]),0,1000⟩:I1),(⟨(ByteArray.mk #[103,101,97,114]),0,6⟩:I1),(⟨(ByteArray.mk #[108,111,97,100]),(-500),2000⟩:I1)))
def ax1 (v2:(Int×Int×Int×Int×Int))(v3:(I1×I1×I1×I1×I1))(v4:Int):M prog Bool (Int⊕(Int⊕Bool)):=
 .I (decide (v4<5)) (.O (.arr (fun y=>.agg [.t (.v (.string y.word)),.t (tI y.low),.t (tI y.high)]) ([(⟨v3.1.word,v3.1.low,v3.1.high⟩:I1),(⟨v3.2.1.word,v3.2.1.low,v3.2.1.high⟩:I1),(⟨v3.2.2.1.word,v3.2.2.1.low,v3.2.2.1.high⟩:I1),(⟨v3.2.2.2.1.word,v3.2.2.2.1.low,v3.2.2.2.1.high⟩:I1),(⟨v3.2.2.2.2.word,v3.2.2.2.2.low,v3.2.2.2.2.high⟩:I1)]:List I1) v4) fun x4=>.J0 1 (fun(t:Bool)=>[.t 63 (.t (tB t)),.x 7,.d 7]) (.D [] []<| .O (.ax aI8 ([v2.1,v2.2.1,v2.2.2.1,v2.2.2.2.1,v2.2.2.2.2]:List Int) v4) fun x5=>.Sp (decide (x5<x4.low)) (.R true) (.O (.ax aI8 ([v2.1,v2.2.1,v2.2.2.1,v2.2.2.2.1,v2.2.2.2.2]:List Int) v4) fun x6=>.R (decide (x6>x4.high)))) fun v5=>.I v5 (.R (.inr (.inr false))) (.R (.inl (o6 (v4+1))))) (.R (.inr (.inl v4)))
def aR5 (l:List L3)(i:Int)(_:Unit):M prog Bool (Fl Unit Bool):=
 .O (.ix an7 l i) fun x2=>.J0 1 (fun(t:Bool)=>[.t 42 (.t (tB t))]) (.D [] []<| .Sp (decide (i>0)) (.O (.ix an7 l (o6 (i-1))) fun x3=>.R (decide (x2.At<=x3.At))) (.R false)) fun v=>.I v (.R (.ret false)) (.K (ca3 x2) fun v2=>.K (cA3) fun v3=>.Z (.fb 5)<| .L (fun(t:Int)=>[.t 46 (.t (tI t)),.x 4,.d 4]) 2 (.one .rt) (ax1 v2 v3) 0 (fun _=>.R (.next ())) (fun r2=>.R (.ret r2)))
def aA7 (l:List L3):C prog Bool:=.of Z call7 func7 [.t (tS an7 l)] (fun r=>.t (tB r)) (
 .G ((decide ((l.length:Int)<1))||(decide ((l.length:Int)>200))) (.R true) (.O (.ix an7 l 0) fun x=>.R (x.At !=0)) fun b2=>.I b2 (.R false) (M.QN (l.length:Int) 2 25 (fun(_:Unit)=>[]) 0 (.one .rt) (aR5 l) () (fun _=>.R true) (fun r3=>.R r3)))
def cv0 (d:L3):C prog Bool:=.of Z call43 func43 [bd6 d] (fun r=>.t (tB r)) (
 .G ((decide (d.At>=0))&&(decide (d.At<=1099511627776))) (.K (aA7 ([(⟨0,d.C5,d.aF4,d.be0,d.be1⟩:L3)]:List L3)) fun v=>.R v) (.R false) fun b2=>.R b2)
def cg2 (u0:Int):C prog (Int×Int):=.of Z call92 func92 [.t (tI u0)] (fun r=>.S9 [.t (tI r.1),.t (tI r.2)]) (
 .I ((decide (u0<0))||(decide (u0>524288))) (.R (0,2)) (.R (o6 (da8 (o6 (u0*60000000)) 1509949440),0)))
def ba8 (s:o8)(bq0 _:Int)(x:ab5)(_:Unit):M prog (Int×Bool) (Fl Unit (Int×Bool)):=
 .W (.hx 0)<| .J0 1 (fun(t:Bool)=>[.t 38 (.t (tB t))]) (.D [] []<| .Sp (x.ba5==bq0) (.Sp (decide (x.cb3<=s.t)) (.R (decide (s.t<x.To))) (.R false)) (.Sp false .N (.R false))) fun v=>.I v (.R (.ret (x.Value,true))) (.R (.next ()))
def aF0 (s:o8)(bq0:Int):C prog (Int×Bool):=.of Z call168 func168 [.el (bl6 s),.t (tI bq0)] (fun r=>.S9 [.t (tI r.1),.t (tB r.2)]) (
 M.Q aj8 s.k 2 13 (fun(_:Unit)=>[]) 0 (.one .rt) (ba8 s bq0) () (fun _=>.R (0,false)) (fun r2=>.R r2))
def bK6 (p2:O9):C prog Int:=.of Z call219 func219 [aX6 p2] (fun r=>.t (tI r)) (
 .I ((p2.Path.length:Int)==0) (.R 1000) (.O (.ix aI8 p2.Path 0) fun x=>.R x))
def Q2 (s:o8)(bq0:Int):C prog Int:=.of Z call151 func151 [.el (bl6 s),.t (tI bq0)] (fun r=>.t (tI r)) (
 .K (aF0 s bq0) fun r2=>.I r2.2 (.R r2.1) (.I (bq0==0) (.R s.d.C5) (.I (bq0==1) (.R (o6 (da8 s.d.C5 2))) (.I (bq0==2) (.R s.u.u3.G0) (.I (bq0==3) (.R 20) (.I (bq0==4) (.R (J1 (o6 (20+(o6 (da8 s.t 1000000)))) 90)) (.K (bK6 s.u.u3) fun v=>.I (decide (v<1000)) (.R 800) (.R 100))))))))
def D7 (x low high:Int):C prog Int:=.of Z call158 func158 [.t (tI x),.t (tI low),.t (tI high)] (fun r=>.t (tI r)) (
 .R (J1 (K2 x low) high))
def bn4 (x low high:Int):C prog Bool:=.of Z call218 func218 [.t (tI x),.t (tI low),.t (tI high)] (fun r=>.t (tB r)) (
 .R ((decide (x<low))||(decide (x>high))))
def bJ1 (s:o8):C prog (Bool×Bool×Bool×Bool×Bool×Bool×Bool):=.of Z call150 func150 [.el (bl6 s)] (fun r=>do5 r) (
 .K (Q2 s 0) fun v=>.K (D7 v 0 1000) fun v2=>.K (Q2 s 1) fun v3=>.K (D7 v3 0 500) fun v4=>.D [] []<| .K (Q2 s 2) fun v5=>.K (bn4 v5 50 1013) fun v6=>.K (Q2 s 3) fun v7=>.K (bn4 v7 (-40) 150) fun v8=>.K (Q2 s 4) fun v9=>.K (bn4 v9 (-40) 150) fun v10=>.K (Q2 s 5) fun v11=>.K (bn4 v11 50 900) fun v12=>.R (decide ((K2 (o6 (v2-(o6 (2*v4)))) (o6 ((o6 (2*v4))-v2)))>50),v6,v8,v10,v12,s.u.H4.Off,s.u.H7.Off))
def bM7 (old:B3):C prog B3:=.of Z call152 func152 [aB4 old] (fun r=>.fz 220 [bc6 r]) (
 .Z (.fb 1)<| .R old)
def aF9 (l:List B1)(i:Int)(c:A5)(G8:Int)(frame:List Int):CG prog (List B1):=.of Z call221 func221 [.pe 1000000 (Int.toNat i) 7 0,aP3 c,.t (tI G8),.t (tS aI8 frame)] [(1000000,.rs 166 7 l H3)] (fun _=>.S9 []) (fun r=>[(1000000,.rs 166 7 r H3)]) [] (
 .A H3 l i fun x2=>.W (.ly 0)<| .K (aa3 x2 1) fun v=>.J0 0 (fun(t:List B1)=>[.x 8,.x 9,.b 1000000 (.rs 166 7 t H3)]) (.I (!v) (.W (.ly 0)<| .U (.st H3 l i (⟨x2.K7,x2.F2,x2.I4,x2.Clean,J1 255 (o6 (x2.A2+1)),x2.Frame,x2.E0⟩:B1) 0) fun l2=>.W (.ly 0)<| .K (aa3 (⟨x2.K7,x2.F2,x2.I4,x2.Clean,J1 255 (o6 (x2.A2+1)),x2.Frame,x2.E0⟩:B1) 4) fun v2=>.I (!v2) (.K (P9 frame) fun v3=>.U (.st H3 l2 i (⟨x2.K7,x2.F2,x2.I4,x2.Clean,J1 255 (o6 (x2.A2+1)),v3,x2.E0⟩:B1) 0) fun l3=>.R l3) (.R l2)) (.R l)) fun f2=>.A H3 f2 i fun x3=>.W (.ly 0)<| .U (.st H3 f2 i (⟨X1 .i64 x3.K7 11,x3.F2,x3.I4,x3.Clean,x3.A2,x3.Frame,x3.E0⟩:B1) 0) fun l4=>.U (.st H3 l4 i (⟨X1 .i64 x3.K7 11,x3.F2,x3.I4,0,x3.A2,x3.Frame,x3.E0⟩:B1) 0) fun l5=>.W (.ly 0)<| .I (x3.E0==G8) (.R l5) (.U (.st H3 l5 i (⟨X1 .i64 x3.K7 11,x3.F2,x3.I4,0,x3.A2,x3.Frame,G8⟩:B1) 0) fun l6=>.W (.ly 0)<| .U (.st H3 l6 i (⟨X1 .i64 x3.K7 11,x3.F2,J1 2 (o6 (x3.I4+1)),0,x3.A2,x3.Frame,G8⟩:B1) 0) fun l7=>.W (.ly 0)<| .I (decide ((J1 2 (o6 (x3.I4+1)))<2)) (.R l7) (.W (.ly 0)<| .U (.st H3 l7 i (⟨X1 .i64 (X1 .i64 x3.K7 11) 4,x3.F2,J1 2 (o6 (x3.I4+1)),0,x3.A2,x3.Frame,G8⟩:B1) 0) fun l8=>.I c.cr8 (.W (.ly 0)<| .U (.st H3 l8 i (⟨X1 .i64 (X1 .i64 (X1 .i64 x3.K7 11) 4) 16,x3.F2,J1 2 (o6 (x3.I4+1)),0,x3.A2,x3.Frame,G8⟩:B1) 0) fun l9=>.R l9) (.R l8))))
def az7 (f2:B3)(i:Int)(bad:Bool)(l:List Int):C prog (B3×Int):=.of Z call153 func153 [aB4 f2,.t (tI i),.t (tB bad),.t (tS aI8 l)] (fun r=>.S9 [aB4 r.1,.t (tI r.2)]) (
 .K (ab9 f2) fun v=>.I (!v) (.R ((⟨([]:List A5),([]:List B1),0,false⟩:B3),1)) (.I ((decide (i<0))||(decide (i>=(f2.L.length:Int)))) (.R ((⟨([]:List A5),([]:List B1),0,false⟩:B3),2)) (.I (!f2.S8) (.R ((⟨([]:List A5),([]:List B1),0,false⟩:B3),6)) (.O (.ix O1 f2.K6 i) fun x=>.K (at7 x l) fun v2=>.I (!v2) (.R ((⟨([]:List A5),([]:List B1),0,false⟩:B3),1)) (.KG (am4 f2) [2352] fun v3=>.D [] []<| .O (.ix H3 v3.L i) fun x2=>.O (.ix O1 v3.K6 i) fun x3=>.J0 0 (fun(t:List B1)=>[.x 29,.x 34,.x 44,.x 45,.x 46,.x 48,.x 49,.b 2352 (.rs 166 7 t H3)]) (.I bad (.D [] []<| .W (.ly 1)<| .U (.st H3 v3.L i (⟨x2.K7,J1 x3.bq6 (o6 ((K2 x2.F2 0)+1)),x2.I4,x2.Clean,x2.A2,x2.Frame,x2.E0⟩:B1) 1) fun l2=>.R l2) (.D [] []<| .W (.ly 1)<| .U (.st H3 v3.L i (⟨x2.K7,K2 (o6 (0-x3.Pass)) (o6 ((J1 x2.F2 0)-1)),x2.I4,x2.Clean,x2.A2,x2.Frame,x2.E0⟩:B1) 1) fun l3=>.R l3)) fun f3=>.A H3 f3 i fun x4=>.W (.ly 0)<| .I (x4.F2==x3.bq6) (.KG (aF9 f3 i x3 v3.af1 l) [] fun v4=>.R ((⟨v3.K6,v4,v3.af1,v3.S8⟩:B3),0)) (.I (x4.F2==(o6 (0-x3.Pass))) (.W (.ly 0)<| .U (.st H3 f3 i (⟨X1 .i64 x4.K7 8,x4.F2,x4.I4,x4.Clean,x4.A2,x4.Frame,x4.E0⟩:B1) 0) fun l4=>.W (.ly 0)<| .U (.st H3 l4 i (⟨aP4 .i64 (X1 .i64 x4.K7 8) 1,x4.F2,x4.I4,x4.Clean,x4.A2,x4.Frame,x4.E0⟩:B1) 0) fun l5=>.R ((⟨v3.K6,l5,v3.af1,v3.S8⟩:B3),0)) (.R ((⟨v3.K6,f3,v3.af1,v3.S8⟩:B3),0))))))))
def bB0:C prog (List W8):=.of Z call154 func154 [] (fun r=>.t (tS ae3 r)) (
 .Z (.fr 1)<| .Z (.fr 3)<| .Z (.fr 5)<| .Z (.fr 7)<| .Z (.fr 9)<| .Z (.fr 11)<| .Z (.fr 13)<| .R ([(⟨(ByteArray.mk #[108,105,109,112]),0,2,([0]:List Int),600⟩:W8),(⟨(ByteArray.mk #[100,114,111,112]),0,2,([1,4]:List Int),1500⟩:W8),(⟨(ByteArray.mk #[115,116,111,112]),0,9,([5,6]:List Int),0⟩:W8),(⟨(ByteArray.mk #[112,114,101,115,115,117,114,101]),1,0,([1]:List Int),500⟩:W8),(⟨(ByteArray.mk #[97,105,114]),2,0,([2]:List Int),40⟩:W8),(⟨(ByteArray.mk #[99,111,111,108,97,110,116]),3,0,([3]:List Int),90⟩:W8),(⟨(ByteArray.mk #[112,114,111,98,101]),4,0,([4]:List Int),450⟩:W8)]:List W8))
def cx8 (s:ByteArray)(i:Int)(_:Unit):M prog Bool (Fl Unit Bool):=
 .O (.str s i) fun b2=>.G (decide (b2<33)) (.R true) (.O (.str s i) fun b3=>.R (decide (b3>126))) fun b4=>.I b4 (.R (.ret false)) (.R (.next ()))
def cY3 (s:ByteArray):C prog Bool:=.of Z call344 func344 [.t (.v (.string s))] (fun r=>.t (tB r)) (
 .I ((decide ((s.size:Int)<1))||(decide ((s.size:Int)>24))) (.R false) (M.QN (s.size:Int) 2 14 (fun(_:Unit)=>[]) 0 (.one .rt) (cx8 s) () (fun _=>.R true) (fun r2=>.R r2)))
def co7 (r2:W8)(bv4 i:Int)(_:Unit):M prog Bool (Fl Unit Bool):=
 .O (.ix aI8 r2.ag5 i) fun x=>.G ((decide (x<0))||(decide (x>=bv4))) (.R true) (.G (decide (i>0)) (.O (.ix aI8 r2.ag5 (o6 (i-1))) fun x2=>.R (decide (x<=x2))) (.R false) fun b2=>.R b2) fun b3=>.I b3 (.R (.ret false)) (.R (.next ()))
def cT4 (r2:W8)(bv4:Int):C prog Bool:=.of Z call291 func291 [cz2 r2,.t (tI bv4)] (fun r=>.t (tB r)) (
 .K (cY3 r2.Name) fun v=>.I (((((((((!v)||(decide (r2.cZ3<0)))||(decide (r2.cZ3>15)))||(decide (r2.G5<0)))||(decide (r2.G5>15)))||(decide ((r2.ag5.length:Int)<1)))||(decide ((r2.ag5.length:Int)>16)))||(decide (r2.ci4<(-5000))))||(decide (r2.ci4>10000))) (.R false) (M.QN (r2.ag5.length:Int) 2 56 (fun(_:Unit)=>[.x 7,.x 53]) 0 (.one .rt) (co7 r2 bv4) () (fun _=>.R true) (fun r3=>.R r3)))
def co6 (bv4 _:Int)(x:W8)(f2:List (ByteArray×Bool)):M prog Bool (Fl (List (ByteArray×Bool)) Bool):=
 .W (.hx 0)<| .K (cT4 x bv4) fun v=>.G (!v) (.R true) (.Ml eK2 f2 x.Name<| .R (cQ9 false f2 x.Name)) fun b2=>.I b2 (.R (.ret false)) (.Mu eK2 f2 x.Name true<| .R (.next (dl2 f2 x.Name true)))
def aK0 (l:List W8)(bv4:Int):C prog Bool:=.of Z call225 func225 [.t (tS ae3 l),.t (tI bv4)] (fun r=>.t (tB r)) (
 .I (((decide (bv4<0))||(decide (bv4>64)))||(decide ((l.length:Int)>64))) (.R false) (.Mm 2152<|M.Q ae3 l 2 22 (fun(t:List (ByteArray×Bool))=>[.x 19,.b 2152 (.mp (List.map (ent (fun s:ByteArray=>.string s) (fun v:Bool=>.bool v)) t))]) 0 (.one .rt) (co6 bv4) ([]:List (ByteArray×Bool)) (fun _=>.R true) (fun r2=>.R r2)))
def bT8 (l:List W8)(f2:B3):C prog Bool:=.of Z call222 func222 [.t (tS ae3 l),aB4 f2] (fun r=>.t (tB r)) (
 .K (ab9 f2) fun v=>.G v (.K (aK0 l (f2.L.length:Int)) fun v2=>.R v2) (.R false) fun b2=>.R b2)
def bb8 (holds:Cl prog Int Bool (fun x=>[.t (tI x)]) (fun r=>.t (tB r)))(_ x:Int)(out:List Int):M prog (List Int) (Fl (List Int) Empty):=
 .W (.hx 0)<| .K (holds.at x) fun v=>.I v (.U (.ap aI8 out ([x]:List Int) 2168) fun l=>.R (.next l)) (.R (.next out))
def bp9 (r2:W8)(holds:Cl prog Int Bool (fun x=>[.t (tI x)]) (fun r=>.t (tB r))):C prog (List Int):=.of Z call289 func289 [cz2 r2,.fz holds.n holds.cs] (fun r=>.t (tS aI8 r)) (
 .Z (.np 5 2168 3 1 [])<|M.Q aI8 r2.ag5 2 11 (fun(t:List Int)=>[.t 5 (.own 2168),.x 2,.x 8,.b 2168 (.rs 3 1 t aI8),.d 2]) 0 (.e) (bb8 holds) ([]:List Int) (fun dm0=>.R dm0) (fun t=>t.elim))
def aW9 (l:List W8)(holds:Cl prog Int Bool (fun x=>[.t (tI x)]) (fun r=>.t (tB r)))(i:Int)(out:List X4):M prog (List X4) (Fl (List X4) Empty):=
 .O (.ix ae3 l i) fun x=>.K (bp9 x holds) fun v=>.I (decide ((v.length:Int)>0)) (.U (.ap Y4 out ([(⟨i,v⟩:X4)]:List X4) 2216) fun l2=>.R (.next l2)) (.R (.next out))
def bk4 (l:List W8)(holds:Cl prog Int Bool (fun x=>[.t (tI x)]) (fun r=>.t (tB r))):C prog (List X4):=.of Z call223 func223 [.t (tS ae3 l),.fz holds.n holds.cs] (fun r=>.t (tS Y4 r)) (
 .Z (.np 5 2216 201 2 [])<|M.QN (l.length:Int) 2 11 (fun(t:List X4)=>[.t 5 (.own 2216),.b 2216 (.rs 201 2 t Y4)]) 0 (.e) (aW9 l holds) ([]:List X4) (fun dm0=>.R dm0) (fun t=>t.elim))
def bN1 (f2:B3)(but:Int):C prog (Int×B3):=.of Z call224 func224 [aB4 f2,.t (tI but)] (fun r=>.fz 290 [aI8 r.1,bc6 r.2]) (
 .Z (.fb 3)<| .Z (.fb 2)<| .R (but,f2))
def bg8 (i c:Int)(c2:B3):C prog Bool:=.of Z call290 func290 [.t (tI i),.el (aI8 c),.el (bc6 c2)] (fun r=>.t (tB r)) (
 .G (i !=c) (.O (.ix H3 c2.L i) fun x=>.R ((V8 .i64 x.K7 5) !=0)) (.R false) fun b2=>.R b2)
def bp8 (l:List W8)(f2:B3):C prog (List X4×Int):=.of Z call155 func155 [.t (tS ae3 l),aB4 f2] (fun r=>.S9 [.t (tS Y4 r.1),.t (tI r.2)]) (
 .K (bT8 l f2) fun v=>.I (!v) (.R (([]:List X4),1)) (.K (bN1 f2 (-1)) fun v2=>.K (bk4 l (.of (fun z_=>bg8 z_ v2.1 v2.2) 290 [aI8 v2.1,bc6 v2.2])) fun v3=>.R (v3,0)))
def aQ7 (s:List X4)(f2:Cl prog X4 Bool (fun x=>[bV8 x]) (fun r=>.t (tB r)))(i:Int)(_:Unit):M prog Int (Fl Unit Int):=
 .O (.ix Y4 s i) fun x=>.K (f2.at x) fun v=>.I v (.R (.ret i)) (.R (.next ()))
def aY7 (s:List X4)(f2:Cl prog X4 Bool (fun x=>[bV8 x]) (fun r=>.t (tB r))):C prog Int:=.of Z call292 func292 [.t (tS Y4 s),.fz f2.n f2.cs] (fun r=>.t (tI r)) (
 M.QN (s.length:Int) 2 8 (fun(_:Unit)=>[]) 0 (.one .rt) (aQ7 s f2) () (fun _=>.R (-1)) (fun r2=>.R r2))
def aA1 (s:List X4)(f2:Cl prog X4 Bool (fun x=>[bV8 x]) (fun r=>.t (tB r))):C prog Bool:=.of Z call226 func226 [.t (tS Y4 s),.fz f2.n f2.cs] (fun r=>.t (tB r)) (
 .K (aY7 s f2) fun v=>.R (decide (v>=0)))
def bk3 (x:X4)(c:List W8):C prog Bool:=.of Z call227 func227 [bV8 x,.el ((dn9 ae3) c)] (fun r=>.t (tB r)) (
 .R ((decide (x.T9<0))||(decide (x.T9>=(c.length:Int)))))
def bg7 (l:List W8)(group _:Int)(x:X4)(s:Int×Int):M prog (Int×Int) (Fl (Int×Int) Empty):=
 .W (.hx 0)<| .O (.ix ae3 l x.T9) fun x2=>.I ((x2.cZ3 !=group)||(decide (x2.G5<s.2))) (.R (.next (s.1,s.2))) (.I (decide (x2.G5>s.2)) (.D [] []<| .R (.next (J1 x2.ci4 x2.ci4,x2.G5))) (.R (.next (J1 s.1 x2.ci4,s.2))))
def bw6 (l:List W8)(a:List X4)(group other:Int):C prog (Int×Int):=.of Z call157 func157 [.t (tS ae3 l),.t (tS Y4 a),.t (tI group),.t (tI other)] (fun r=>.S9 [.t (tI r.1),.t (tI r.2)]) (
 .K (aK0 l 64) fun v=>.Z (.fb 4)<| .G ((!v)||(decide ((a.length:Int)>64))) (.R true) (.K (aA1 a (.of (fun z_=>bk3 z_ l) 227 [(dn9 ae3) l])) fun v2=>.R v2) fun b2=>.I b2 (.R (0,1)) (.I ((decide (group<0))||(decide (group>15))) (.R (0,2)) (M.Q Y4 a 2 37 (fun(t:Int×Int)=>[.t 10 (.t (tI t.1)),.t 11 (.t (tI t.2))]) 0 (.e) (bg7 l group) (other,(-1)) (fun s2=>.R (s2.1,0)) (fun t=>t.elim))))
def at5 (n2 other:Int)(c:List W8)(c2:o8):CG prog Int:=.of Z call156 func156 [.t (tI n2),.t (tI other),.el ((dn9 ae3) c),.ptr 1000000 0] [(1000000,.box [.ptr 1000001 0]),(1000001,.box (aw6 (I0 c2) [(107,.own 1000002),(113,.own 1000003)])),(1000002,.rs 220 7 c2.A4.N8 C1),(1000003,.rs 203 3 c2.u4 y9)] (fun r=>.t (tI r)) (fun _=>[(1000000,.box [.ptr 1000001 0]),(1000001,.box (aw6 (I0 c2) [(107,.own 1000002),(113,.own 1000003)])),(1000002,.rs 220 7 c2.A4.N8 C1),(1000003,.rs 203 3 c2.u4 y9)]) [] (
 .D [] []<| .K (bw6 c c2.X6 n2 other) fun r2=>.R r2.1)
def be8 (V0:B3)(e2:Int)(c:B3):C prog B3:=.of Z call220 func220 [aB4 V0,.t (tI e2),.el (bc6 c)] (fun r=>aB4 r) (
 .I (e2 !=0) (.R c) (.R V0))
set_option maxHeartbeats 4000000
def aU0 (s:o8)(v:(Bool×Bool×Bool×Bool×Bool×Bool×Bool))(s2:Int×B3):M prog o8 ((Int×B3)⊕((Int×B3)⊕Empty)):=
 .I (decide (s2.1<7)) (.O (.arr (fun y=>.t (tB y)) ([v.1,v.2.1,v.2.2.1,v.2.2.2.1,v.2.2.2.2.1,v.2.2.2.2.2.1,v.2.2.2.2.2.2]:List Bool) s2.1) fun x=>.O (.ix O1 s2.2.K6 s2.1) fun x2=>.Mk aI8 x2.Frame 0 fun l=>.D [] []<| .K (Q2 (⟨(⟨s.u.j3,s.u.j4,s.u.c8,s.u.D8,s.u.D3,s.u.B4,s.u.H4,s.u.H7,s.u.G1,s2.2,s.u.u3,s.u.E7,s.u.Time⟩:Y9),s.d,s.k,s.t,s.u0,s.X6,s.Y5,s.A3,s.ak8,s.B0,s.V3,s.A4,s.G2,s.u9,s.known,s.cut,s.u4,s.J7⟩:o8) 2) fun v2=>.U (.cp aI8 l ([s.u0,v2]:List Int)) fun l2=>.Z (.fr 23)<| .D [] []<| .K (bM7 s2.2) fun v3=>.K (az7 s2.2 s2.1 x l2) fun r2=>.K (be8 r2.1 r2.2 v3) fun v4=>.R (.inl (o6 (s2.1+1),v4))) (.R (.inr (.inl (s2.1,s2.2))))
def bl4 (s:o8):CG prog o8:=.of Z call93 func93 [.ptr 1000000 0] [(1000000,.box (aw6 (I0 s) [(107,.own 1000001),(113,.own 1000002)])),(1000001,.rs 220 7 s.A4.N8 C1),(1000002,.rs 203 3 s.u4 y9)] (fun _=>.S9 []) (fun r=>[(1000000,.box (aw6 (I0 r) [(107,.own 1000001),(113,.own 1000002)])),(1000001,.rs 220 7 r.A4.N8 C1),(1000002,.rs 203 3 r.u4 y9)]) [] (
 .K (bJ1 s) fun v=>.L (fun(t:Int×B3)=>[.t 9 (.t (tI t.1)),.x 0,.x 7,.c 1000000 74 [.t (tS O1 t.2.K6),.t (tS H3 t.2.L),.t (tI t.2.af1),.t (tB t.2.S8)]]) 0 (.e) (aU0 s v) (0,s.u.C7) (fun s3=>.K (bB0) fun v5=>.D [] [(13,1000000)]<| .K (bp8 v5 s3.2) fun r3=>.Z (.fb 5)<| .D [] []<| .KG (at5 0 10000 v5 (⟨(⟨s.u.j3,s.u.j4,s.u.c8,s.u.D8,s.u.D3,s.u.B4,s.u.H4,s.u.H7,s.u.G1,s3.2,s.u.u3,s.u.E7,s.u.Time⟩:Y9),s.d,s.k,s.t,s.u0,r3.1,s.Y5,s.A3,s.ak8,s.B0,s.V3,s.A4,s.G2,s.u9,s.known,s.cut,s.u4,s.J7⟩:o8)) [] fun v6=>.D [] []<| .K (Q2 (⟨(⟨s.u.j3,s.u.j4,s.u.c8,s.u.D8,s.u.D3,s.u.B4,s.u.H4,s.u.H7,s.u.G1,s3.2,s.u.u3,s.u.E7,s.u.Time⟩:Y9),s.d,s.k,s.t,s.u0,r3.1,v6,s.A3,s.ak8,s.B0,s.V3,s.A4,s.G2,s.u9,s.known,s.cut,s.u4,s.J7⟩:o8) 2) fun v7=>.KG (at5 1 v7 v5 (⟨(⟨s.u.j3,s.u.j4,s.u.c8,s.u.D8,s.u.D3,s.u.B4,s.u.H4,s.u.H7,s.u.G1,s3.2,s.u.u3,s.u.E7,s.u.Time⟩:Y9),s.d,s.k,s.t,s.u0,r3.1,v6,s.A3,s.ak8,s.B0,s.V3,s.A4,s.G2,s.u9,s.known,s.cut,s.u4,s.J7⟩:o8)) [] fun v8=>.K (D7 v8 50 1013) fun v9=>.D [] []<| .K (Q2 (⟨(⟨s.u.j3,s.u.j4,s.u.c8,s.u.D8,s.u.D3,s.u.B4,s.u.H4,s.u.H7,s.u.G1,s3.2,s.u.u3,s.u.E7,s.u.Time⟩:Y9),s.d,s.k,s.t,s.u0,r3.1,v6,v9,s.ak8,s.B0,s.V3,s.A4,s.G2,s.u9,s.known,s.cut,s.u4,s.J7⟩:o8) 3) fun v10=>.KG (at5 2 v10 v5 (⟨(⟨s.u.j3,s.u.j4,s.u.c8,s.u.D8,s.u.D3,s.u.B4,s.u.H4,s.u.H7,s.u.G1,s3.2,s.u.u3,s.u.E7,s.u.Time⟩:Y9),s.d,s.k,s.t,s.u0,r3.1,v6,v9,s.ak8,s.B0,s.V3,s.A4,s.G2,s.u9,s.known,s.cut,s.u4,s.J7⟩:o8)) [] fun v11=>.K (D7 v11 (-40) 150) fun v12=>.D [] []<| .K (Q2 (⟨(⟨s.u.j3,s.u.j4,s.u.c8,s.u.D8,s.u.D3,s.u.B4,s.u.H4,s.u.H7,s.u.G1,s3.2,s.u.u3,s.u.E7,s.u.Time⟩:Y9),s.d,s.k,s.t,s.u0,r3.1,v6,v9,v12,s.B0,s.V3,s.A4,s.G2,s.u9,s.known,s.cut,s.u4,s.J7⟩:o8) 4) fun v13=>.KG (at5 3 v13 v5 (⟨(⟨s.u.j3,s.u.j4,s.u.c8,s.u.D8,s.u.D3,s.u.B4,s.u.H4,s.u.H7,s.u.G1,s3.2,s.u.u3,s.u.E7,s.u.Time⟩:Y9),s.d,s.k,s.t,s.u0,r3.1,v6,v9,v12,s.B0,s.V3,s.A4,s.G2,s.u9,s.known,s.cut,s.u4,s.J7⟩:o8)) [] fun v14=>.K (D7 v14 (-40) 150) fun v15=>.D [] []<| .K (Q2 (⟨(⟨s.u.j3,s.u.j4,s.u.c8,s.u.D8,s.u.D3,s.u.B4,s.u.H4,s.u.H7,s.u.G1,s3.2,s.u.u3,s.u.E7,s.u.Time⟩:Y9),s.d,s.k,s.t,s.u0,r3.1,v6,v9,v12,v15,s.V3,s.A4,s.G2,s.u9,s.known,s.cut,s.u4,s.J7⟩:o8) 5) fun v16=>.KG (at5 4 v16 v5 (⟨(⟨s.u.j3,s.u.j4,s.u.c8,s.u.D8,s.u.D3,s.u.B4,s.u.H4,s.u.H7,s.u.G1,s3.2,s.u.u3,s.u.E7,s.u.Time⟩:Y9),s.d,s.k,s.t,s.u0,r3.1,v6,v9,v12,v15,s.V3,s.A4,s.G2,s.u9,s.known,s.cut,s.u4,s.J7⟩:o8)) [] fun v17=>.K (D7 v17 0 20000) fun v18=>.R (⟨(⟨s.u.j3,s.u.j4,s.u.c8,s.u.D8,s.u.D3,s.u.B4,s.u.H4,s.u.H7,s.u.G1,s3.2,s.u.u3,s.u.E7,s.u.Time⟩:Y9),s.d,s.k,s.t,s.u0,r3.1,v6,v9,v12,v15,v18,s.A4,s.G2,s.u9,s.known,s.cut,s.u4,s.J7⟩:o8)) (fun t=>t.elim))
def bj1 (s:o8):C prog j6:=.of Z call159 func159 [.el (bl6 s)] (fun r=>I3 r) (
 .R (⟨9,1,s.Y5,15⟩:j6))
def ad7 (s:List j6)(f2:Cl prog j6 Bool (fun x=>[I3 x]) (fun r=>.t (tB r)))(i:Int)(_:Unit):M prog Int (Fl Unit Int):=
 .O (.ix E4 s i) fun x=>.K (f2.at x) fun v=>.I v (.R (.ret i)) (.R (.next ()))
def X7 (s:List j6)(f2:Cl prog j6 Bool (fun x=>[I3 x]) (fun r=>.t (tB r))):C prog Int:=.of Z call317 func317 [.t (tS E4 s),.fz f2.n f2.cs] (fun r=>.t (tI r)) (
 M.QN (s.length:Int) 2 8 (fun(_:Unit)=>[]) 0 (.one .rt) (ad7 s f2) () (fun _=>.R (-1)) (fun r2=>.R r2))
def F5 (s:List j6)(f2:Cl prog j6 Bool (fun x=>[I3 x]) (fun r=>.t (tB r))):C prog Bool:=.of Z call238 func238 [.t (tS E4 s),.fz f2.n f2.cs] (fun r=>.t (tB r)) (
 .K (X7 s f2) fun v=>.R (decide (v>=0)))
def R8 (t2:Int):C prog Bool:=.of Z call318 func318 [.t (tI t2)] (fun r=>.t (tB r)) (
 .R ((decide (t2>=(-5000)))&&(decide (t2<=10000))))
def V1 (r2:j6):C prog Bool:=.of Z call240 func240 [I3 r2] (fun r=>.t (tB r)) (
 .G ((((decide (r2.I7<0))||(decide (r2.I7>15)))||(decide (r2.G5<0)))||(decide (r2.G5>15))) (.R true) (.K (R8 r2.j9) fun v=>.R (!v)) fun b2=>.I b2 (.R false) (.R ((r2.Kind==1)||((decide (r2.I7<=1))&&((r2.Kind==2)||(r2.Kind==3))))))
def ai4 (r2:j6):C prog Bool:=.of Z call293 func293 [I3 r2] (fun r=>.t (tB r)) (
 .K (V1 r2) fun v=>.R (!v))
def aw2 (i:X5)(C2:Int):C prog Bool:=.of Z call228 func228 [cZ0 i,.t (tI C2)] (fun r=>.t (tB r)) (
 .K (L5 C2 1 8) fun v=>.I (((!v)||((i.W7.length:Int) !=C2))||(decide ((i.Requests.length:Int)>30))) (.R false) (.K (L5 i.C9 0 12000) fun v2=>.G v2 (.K (L5 i.G0 50 3000) fun v3=>.R v3) (.R false) fun b2=>.G b2 (.K (L5 i.C6 (-40) 150) fun v4=>.R v4) (.R false) fun b3=>.G b3 (.K (L5 i.ap5 (-40) 150) fun v5=>.R v5) (.R false) fun b4=>.G b4 (.K (L5 i.az4 0 20000) fun v6=>.R v6) (.R false) fun b5=>.G b5 (.K (L5 i.Lambda 0 20000) fun v7=>.R v7) (.R false) fun b6=>.G b6 (.K (ag9 i.W7 0 4095) fun v8=>.R v8) (.R false) fun b7=>.G b7 (.K (F5 i.Requests (.of (fun z_=>ai4 z_) 293 [])) fun v9=>.R (!v9)) (.R false) fun b8=>.R b8))
def ak4 (n2:Int):C prog Bool:=.of Z call236 func236 [.t (tI n2)] (fun r=>.t (tB r)) (
 .R ((decide (n2>=0))&&(decide (n2<=12000))))
def ax4 (B0:Int):C prog Int:=.of Z call298 func298 [.t (tI B0)] (fun r=>.t (tI r)) (
 .I (decide (B0<=(-20))) (.R 1200) (.I (decide (B0>=70)) (.R 800) (.R (o6 (1200-(o6 (da8 (o6 (400*(o6 (B0+20)))) 90)))))))
def bc8 (u0 B0:Int):C prog Bool:=.of Z call237 func237 [.t (tI u0),.t (tI B0)] (fun r=>.t (tB r)) (
 .K (ax4 B0) fun v=>.R (decide (u0<(o6 (v+300)))))
def ax3 (bg4 u0 B0:Int):C prog Bool:=.of Z call163 func163 [.t (tI bg4),.t (tI u0),.t (tI B0)] (fun r=>.t (tB r)) (
 .G ((decide (bg4>=0))&&(decide (bg4<20))) (.K (ak4 u0) fun v=>.R v) (.R false) fun b2=>.G b2 (.K (bc8 u0 B0) fun v2=>.R v2) (.R false) fun b3=>.R b3)
def aN3 (p2:L4)(first second:Int):C prog (L4×Int):=.of Z call294 func294 [ci2 p2,.t (tI first),.t (tI second)] (fun r=>.S9 [ci2 r.1,.t (tI r.2)]) (
 .K (ay0 p2) fun v=>.I (!v) (.R ((⟨0,0,false⟩:L4),1)) (.K (D7 first 0 1000) fun v2=>.K (D7 second 0 500) fun v3=>.J0 0 (fun(t:Int)=>[.c 11 1 [.t (tI t)]]) (.I (decide ((K2 (o6 (v2-(o6 (2*v3)))) (o6 ((o6 (2*v3))-v2)))>50)) (.R (J1 3 (o6 (p2.O8+1)))) (.I (!p2.ai8) (.R 0) (.R p2.O8))) fun f2=>.I (f2==3) (.R ((⟨J1 (J1 v2 (o6 (2*v3))) 200,f2,(f2==3)⟩:L4),0)) (.I (decide ((K2 (o6 (v2-(o6 (2*v3)))) (o6 ((o6 (2*v3))-v2)))>50)) (.R ((⟨J1 (J1 v2 (o6 (2*v3))) p2.Value,f2,(f2==3)⟩:L4),0)) (.R ((⟨v2,f2,(f2==3)⟩:L4),0)))))
def A1 (s:p7)(e2:Int):CG prog p7:=.of Z call295 func295 [.ptr 1000000 0,.t (tI e2)] [(1000000,.box (aw6 (T3 s) [(63,.own 1000001)])),(1000001,.rs 220 7 s.out.N8 C1)] (fun _=>.S9 []) (fun r=>[(1000000,.box (aw6 (T3 r) [(63,.own 1000001)])),(1000001,.rs 220 7 r.out.N8 C1)]) [] (
 .I (s.fail==0) (.R (⟨s.t,s.e,s.b,s.c,s.i,s.wanted,s.u9,s.X2,s.late,s.pattern,s.time,s.out,e2⟩:p7)) (.R s))
def ad8 (f2:Cl prog Int Bool (fun x=>[.t (tI x)]) (fun r=>.t (tB r)))(s:Int×Int):M prog Int ((Int×Int)⊕((Int×Int)⊕Empty)):=
 .I (decide (s.1<s.2)) (.K (f2.at (o6 (F1 .u64 (aK3.wrap (o6 (s.1+s.2))) 1))) fun v=>.I (!v) (.R (.inl (o6 ((o6 (F1 .u64 (aK3.wrap (o6 (s.1+s.2))) 1))+1),s.2))) (.R (.inl (s.1,o6 (F1 .u64 (aK3.wrap (o6 (s.1+s.2))) 1))))) (.R (.inr (.inl (s.1,s.2))))
def S7 (n2:Int)(f2:Cl prog Int Bool (fun x=>[.t (tI x)]) (fun r=>.t (tB r))):C prog Int:=.of Z call348 func348 [.t (tI n2),.fz f2.n f2.cs] (fun r=>.t (tI r)) (
 .L (fun(t:Int×Int)=>[.t 5 (.t (tI t.1)),.t 6 (.t (tI t.2))]) 0 (.e) (ad8 f2) (0,n2) (fun s2=>.R s2.1) (fun t=>t.elim))
def ag1 (i:Int)(c:List Int)(c2:Int):C prog Bool:=.of Z call418 func418 [.t (tI i),.el ((dn9 aI8) c),.el (aI8 c2)] (fun r=>.t (tB r)) (
 .D [] []<| .O (.ix aI8 c i) fun x=>.R (decide (x>c2)))
def Z9 (l:List Int)(x:Int):C prog (Int×Int):=.of Z call396 func396 [.t (tS aI8 l),.t (tI x)] (fun r=>.S9 [.t (tI r.1),.t (tI r.2)]) (
 .D [] []<| .O (.ix aI8 l 0) fun x2=>.O (.ix aI8 l (o6 ((l.length:Int)-1))) fun x3=>.K (D7 x x2 x3) fun v=>.Z (.fb 2)<| .Z (.fb 3)<| .K (S7 (l.length:Int) (.of (fun z_=>ag1 z_ l v) 418 [(dn9 aI8) l,aI8 v])) fun v2=>.D [] []<| .R (J1 (o6 (v2-1)) (o6 ((l.length:Int)-2)),v))
def at9 (x y:Int):C prog (Int×Int):=⟨286,[.t (tK .u64 x),.t (tK .u64 y)],cw6 x y,fun _=>cw6 x y,fun r=>.S9 [.t (tK .u64 r.1),.t (tK .u64 r.2)],bn8 x y,fun _ _ h=>h⟩
def X8 (n2:Int):C prog Int:=.of Z call400 func400 [.t (tI n2)] (fun r=>.t (tK .u64 r)) (
 .I (decide (n2<0)) (.R (aK3.wrap ((aK3.wrap (o6 (0-(o6 (n2+1)))))+1))) (.R (aK3.wrap n2)))
def ca5:Go.Shelf.Ren:=⟨fun|129=>438|n=>n,fun|3=>3|4=>4|5=>5|9=>9|46=>245|53=>385|n=>n,fun|n=>n⟩
open Go.Shelf in
theorem dX9:Lays.n129 prog ca5:={
 mixed:=by kernel_rfl,
 f129:=func438.trans (congrArg some (by kernel_rfl)),
 t3:=Tryz.underlying3,
 a3:=Tryz.isAgg3,
 z3:=Tryz.sizeOf3,
 v3:=Tryz.zeroValue3,
 t4:=Tryz.underlying4,
 a4:=Tryz.isAgg4,
 z4:=Tryz.sizeOf4,
 v4:=Tryz.zeroValue4,
 t5:=Tryz.underlying5,
 a5:=Tryz.isAgg5,
 z5:=Tryz.sizeOf5,
 v5:=Tryz.zeroValue5,
 t9:=Tryz.underlying9,
 a9:=Tryz.isAgg9,
 z9:=Tryz.sizeOf9,
 v9:=Tryz.zeroValue9,
 t46:=Tryz.underlying245,
 a46:=Tryz.isAgg245,
 z46:=Tryz.sizeOf245,
 v46:=Tryz.zeroValue245,
 t53:=Tryz.underlying385,
 a53:=Tryz.isAgg385,
 z53:=Tryz.sizeOf385,
 v53:=Tryz.zeroValue385}
theorem bZ8 (x:Int):aR1 prog 438 [.t (tK .u64 x)] (cw2 x) (fun r=>.t (tI r)):=
 dY0 (ρ:=ca5) dX9 call438 x
def aP1 (x:Int):C prog Int:=⟨438,[.t (tK .u64 x)],cw2 x,fun _=>cw2 x,fun r=>.t (tI r),bZ8 x,fun _ _ h=>h⟩
def Z0 (x:Int):C prog Int:=.of Z call420 func420 [.t (tK .u64 x)] (fun r=>.t (tI r)) (
 .K (aP1 x) fun v=>.R (o6 (64-v)))
def aE0 (q3 q6:Int)(s3:Int×Int):M prog (Int×Int) ((Int×Int)⊕((Int×Int)⊕Empty)):=
 .I ((decide (s3.1>=4294967296))||(decide ((aK3.wrap (s3.1*(V8 .u64 q3 4294967295)))>(aK3.wrap ((aK3.wrap (4294967296*s3.2))+(F1 .u64 q6 32)))))) (.I (decide ((aK3.wrap (s3.2+(F1 .u64 q3 32)))>=4294967296)) (.R (.inr (.inl (aK3.wrap (s3.1-1),aK3.wrap (s3.2+(F1 .u64 q3 32)))))) (.R (.inl (aK3.wrap (s3.1-1),aK3.wrap (s3.2+(F1 .u64 q3 32)))))) (.R (.inr (.inl (s3.1,s3.2))))
def aE1 (q3 q6:Int)(s5:Int×Int):M prog (Int×Int) ((Int×Int)⊕((Int×Int)⊕Empty)):=
 .I ((decide (s5.2>=4294967296))||(decide ((aK3.wrap (s5.2*(V8 .u64 q3 4294967295)))>(aK3.wrap ((aK3.wrap (4294967296*s5.1))+(V8 .u64 q6 4294967295)))))) (.I (decide ((aK3.wrap (s5.1+(F1 .u64 q3 32)))>=4294967296)) (.R (.inr (.inl (aK3.wrap (s5.1+(F1 .u64 q3 32)),aK3.wrap (s5.2-1))))) (.R (.inl (aK3.wrap (s5.1+(F1 .u64 q3 32)),aK3.wrap (s5.2-1))))) (.R (.inr (.inl (s5.1,s5.2))))
def am5 (hi lo y:Int):C prog (Int×Int):=.of Z call401 func401 [.t (tK .u64 hi),.t (tK .u64 lo),.t (tK .u64 y)] (fun r=>.S9 [.t (tK .u64 r.1),.t (tK .u64 r.2)]) (
 .J0 0 (fun(_:Unit)=>[]) (.I (y==0) (M.N) (.R ())) fun _=>.J0 0 (fun(_:Unit)=>[]) (.I (decide (y<=hi)) (M.N) (.R ())) fun _=>.I (hi==0) (.D [] []<| .O (.quo .u64 lo y) fun q=>.O (.rem lo y) fun q2=>.R (q,q2)) (.K (Z0 y) fun v=>.O (.shl .u64 y (aK3.wrap v)) fun q3=>.O (.shl .u64 hi (aK3.wrap v)) fun q4=>.O (.shr .u64 lo (aK3.wrap (64-(aK3.wrap v)))) fun q5=>.O (.shl .u64 lo (aK3.wrap v)) fun q6=>.O (.quo .u64 (X1 .u64 q4 q5) (F1 .u64 q3 32)) fun q7=>.L (fun(t:Int×Int)=>[.t 15 (.t (tK .u64 t.1)),.t 16 (.t (tK .u64 t.2))]) 0 (.e) (aE0 q3 q6) (q7,aK3.wrap ((X1 .u64 q4 q5)-(aK3.wrap (q7*(F1 .u64 q3 32))))) (fun s4=>.O (.quo .u64 (aK3.wrap ((aK3.wrap ((aK3.wrap ((X1 .u64 q4 q5)*4294967296))+(F1 .u64 q6 32)))-(aK3.wrap (s4.1*q3)))) (F1 .u64 q3 32)) fun q8=>.L (fun(t:Int×Int)=>[.t 16 (.t (tK .u64 t.1)),.t 18 (.t (tK .u64 t.2))]) 2 (.e) (aE1 q3 q6) (aK3.wrap ((aK3.wrap ((aK3.wrap ((aK3.wrap ((X1 .u64 q4 q5)*4294967296))+(F1 .u64 q6 32)))-(aK3.wrap (s4.1*q3))))-(aK3.wrap (q8*(F1 .u64 q3 32)))),q8) (fun s6=>.O (.shr .u64 (aK3.wrap ((aK3.wrap ((aK3.wrap ((aK3.wrap ((aK3.wrap ((aK3.wrap ((X1 .u64 q4 q5)*4294967296))+(F1 .u64 q6 32)))-(aK3.wrap (s4.1*q3))))*4294967296))+(V8 .u64 q6 4294967295)))-(aK3.wrap (s6.2*q3)))) (aK3.wrap v)) fun q9=>.R (aK3.wrap ((aK3.wrap (s4.1*4294967296))+s6.2),q9)) (fun t=>t.elim)) (fun t=>t.elim)))
def al3 (r2 c:Int)(negative:Bool)(mode:Int):C prog Bool:=.of Z call402 func402 [.t (tK .u64 r2),.t (tK .u64 c),.t (tB negative),.t (tI mode)] (fun r=>.t (tB r)) (
 .I (mode==1) (.R (negative&&(decide (r2>0)))) (.I (mode==2) (.R ((!negative)&&(decide (r2>0)))) (.I negative (.R (decide (r2>(aK3.wrap (c-r2))))) (.R (decide (r2>=(aK3.wrap (c-r2))))))))
def az5 (a b2 c mode:Int):C prog (Int×Int):=.of Z call372 func372 [.t (tI a),.t (tI b2),.t (tI c),.t (tI mode)] (fun r=>.S9 [.t (tI r.1),.t (tI r.2)]) (
 .I ((decide (mode<1))||(decide (mode>3))) (.R (0,1)) (.I (c==0) (.R (0,10)) (.K (X8 a) fun v=>.K (X8 b2) fun v2=>.K (at9 v v2) fun r2=>.K (X8 c) fun v3=>.I (decide (r2.1>=v3)) (.R (0,9)) (.K (am5 r2.1 r2.2 v3) fun r3=>.I (decide (r3.1>9223372036854775808)) (.R (0,9)) (.K (al3 r3.2 v3 (!((!((decide (a<0))==(decide (b2<0))))==(decide (c<0)))) mode) fun v4=>.J0 0 (fun(t:Int)=>[.t 14 (.t (tK .u64 t))]) (.I v4 (.R (aK3.wrap (r3.1+1))) (.R r3.1)) fun q=>.I ((!((!((decide (a<0))==(decide (b2<0))))==(decide (c<0))))&&(decide (q<=9223372036854775808))) (.R (o6 ((o6 (0-(o6 (aK3.wrap (q-1)))))-1),0)) (.I ((!(!((!((decide (a<0))==(decide (b2<0))))==(decide (c<0)))))&&(decide (q<9223372036854775808))) (.R (o6 q,0)) (.R (0,9))))))))
def ao2 (a b2 mode:Int):C prog (Int×Int):=.of Z call328 func328 [.t (tI a),.t (tI b2),.t (tI mode)] (fun r=>.S9 [.t (tI r.1),.t (tI r.2)]) (
 .K (az5 a 1 b2 mode) fun r2=>.R (r2.1,r2.2))
def Y3 (a b2:Int):C prog Int:=.of Z call268 func268 [.t (tI a),.t (tI b2)] (fun r=>.t (tI r)) (
 .K (ao2 a b2 1) fun r2=>.R r2.1)
def ad9 (x0 x1 y0 y1 x:Int):C prog Int:=.of Z call398 func398 [.t (tI x0),.t (tI x1),.t (tI y0),.t (tI y1),.t (tI x)] (fun r=>.t (tI r)) (
 .K (Y3 (o6 ((o6 (x-x0))*(o6 (y1-y0)))) (o6 (x1-x0))) fun v=>.R (o6 (y0+v)))
def as6 (j:Int)(c:SMap)(c2 c3:Int):C prog Int:=.of Z call397 func397 [.t (tI j),.el (cO5 c),.el (aI8 c2),.el (aI8 c3)] (fun r=>.t (tI r)) (
 .D [] []<| .O (.ix aI8 c.X c2) fun x=>.O (.ix aI8 c.X (o6 (c2+1))) fun x2=>.O (.ix (dn9 aI8) c.Z c2) fun x3=>.O (.ix aI8 x3 j) fun x4=>.O (.ix (dn9 aI8) c.Z (o6 (c2+1))) fun x5=>.O (.ix aI8 x5 j) fun x6=>.K (ad9 x x2 x4 x6 c3) fun v=>.R v)
def aN9 (m2:SMap)(x y:Int):C prog Int:=.of Z call370 func370 [dg8 m2,.t (tI x),.t (tI y)] (fun r=>.t (tI r)) (
 .K (Z9 m2.X x) fun r2=>.K (Z9 m2.Y y) fun r3=>.Z (.fb 3)<| .Z (.fb 7)<| .Z (.fb 4)<| .D [] []<| .O (.ix aI8 m2.Y r3.1) fun x2=>.O (.ix aI8 m2.Y (o6 (r3.1+1))) fun x3=>.K (as6 r3.1 m2 r2.1 r2.2) fun v=>.K (as6 (o6 (r3.1+1)) m2 r2.1 r2.2) fun v2=>.K (ad9 x2 x3 v v2 r3.2) fun v3=>.R v3)
def aa9 (m2:SMap)(x y:Int):C prog Int:=.of Z call320 func320 [dg8 m2,.t (tI x),.t (tI y)] (fun r=>.t (tI r)) (
 .K (L0 m2) fun v=>.I (!v) (.R 0) (.K (aN9 m2 x y) fun v2=>.R v2))
def aN4 (t2:p6)(value u0:Int):C prog (Int×Int):=.of Z call296 func296 [V5 t2,.t (tI value),.t (tI u0)] (fun r=>.S9 [.t (tI r.1),.t (tI r.2)]) (
 .K (L0 t2.R6) fun v=>.I (!v) (.R (0,1)) (.I ((((decide (value<0))||(decide (value>1000)))||(decide (u0<0)))||(decide (u0>12000))) (.R (0,2)) (.K (aa9 t2.R6 u0 value) fun v2=>.K (D7 v2 (-5000) 10000) fun v3=>.R (v3,0))))
def ar4 (s:B9)(g:ak0)(e2:Int):C prog (B9×Int×Int):=.of Z call345 func345 [by4 s,dg7 g,.t (tI e2)] (fun r=>.S9 [by4 r.1,.t (tI r.2.1),.t (tI r.2.2)]) (
 .K (T0 g) fun v=>.I (((!v)||(decide (s.Sum<(-4398046511104))))||(decide (s.Sum>4398046511104))) (.R ((⟨0⟩:B9),0,1)) (.I ((decide (e2<(-1048576)))||(decide (e2>1048576))) (.R ((⟨0⟩:B9),0,2)) (.J0 0 (fun(t:Int)=>[.x 33,.x 37,.x 42,.b 3 (.box [.t (tI t)])]) (.I (((decide ((F1 .i64 (o6 ((o6 (g.P*e2))+s.Sum)) 10)<=g.aC5))||(decide (e2<=0)))&&((decide ((F1 .i64 (o6 ((o6 (g.P*e2))+s.Sum)) 10)>=g.Low))||(decide (e2>=0)))) (.K (D7 (o6 (s.Sum+(o6 (g.I*e2)))) (-4398046511104) 4398046511104) fun v2=>.R v2) (.R s.Sum)) fun f2=>.D [] []<| .K (D7 (F1 .i64 (o6 ((o6 (g.P*e2))+s.Sum)) 10) g.Low g.aC5) fun v3=>.R ((⟨f2⟩:B9),v3,0))))
def aF2 (s:B9)(g:ak0)(target u0:Int):C prog (B9×Int×Int):=.of Z call297 func297 [by4 s,dg7 g,.t (tI target),.t (tI u0)] (fun r=>.S9 [by4 r.1,.t (tI r.2.1),.t (tI r.2.2)]) (
 .K (T0 g) fun v=>.I (!v) (.R ((⟨0⟩:B9),0,1)) (.K (ak4 target) fun v2=>.G (!v2) (.R true) (.K (ak4 u0) fun v3=>.R (!v3)) fun b2=>.I b2 (.R ((⟨0⟩:B9),0,2)) (.K (ar4 s g (o6 (target-u0))) fun r2=>.R (r2.1,r2.2.1,r2.2.2))))
def ai3 (r2:j6):C prog Bool:=.of Z call384 func384 [I3 r2] (fun r=>.t (tB r)) (
 .K (V1 r2) fun v=>.R (!v))
def aw1 (l:List j6)(low high:Int):C prog Int:=.of Z call346 func346 [.t (tS E4 l),.t (tI low),.t (tI high)] (fun r=>.t (tI r)) (
 .K (F5 l (.of (fun z_=>ai3 z_) 384 [])) fun v=>.I v (.R 1) (.I (decide ((l.length:Int)>32)) (.R 5) (.K (R8 low) fun v2=>.G (!v2) (.R true) (.K (R8 high) fun v3=>.R (!v3)) fun b2=>.I (b2||(decide (low>high))) (.R 2) (.R 0))))
def Z6 (s:List j6):CG prog (List j6):=.of Z call385 func385 [.t (tS E4 s)] [] (fun _=>.own 900000) (fun r=>[(900000,.rs 259 4 r E4)]) [900000] (
 .Nl E4 s (.I true (.Z (.np 2 70000 259 4 [])<| .R ([]:List j6)) .N) (fun s=>.I false .N (.U (.ap E4 ([]:List j6) s 5) fun l=>.R l)))
def S6 (a:Int)(cmp:Cl prog (j6×j6) Int (fun x=>[I3 x.1,I3 x.2]) (fun r=>.t (tI r)))(s2:Int×List j6):M prog (List j6) ((Int×List j6)⊕((Int×List j6)⊕Empty)):=
 .J0 1 (fun(t:Bool)=>[.t 34 (.t (tB t))]) (.D [] []<| .Sp (decide (s2.1>a)) (.O (.ix E4 s2.2 s2.1) fun x=>.W (.ly 0)<| .O (.ix E4 s2.2 (o6 (s2.1-1))) fun x2=>.W (.ly 0)<| .K (cmp.at (x,x2)) fun v=>.R (decide (v<0))) (.R false)) fun v2=>.I v2 (.D [] [(15,1000000)]<| .O (.ix E4 s2.2 (o6 (s2.1-1))) fun x3=>.W (.ly 0)<| .O (.ix E4 s2.2 s2.1) fun x4=>.W (.ly 0)<| .W (.hx 0)<| .U (.st E4 s2.2 s2.1 x3 0) fun l=>.O (.ix E4 l (o6 (s2.1-1))) fun _=>.U (.st E4 l (o6 (s2.1-1)) x4 0) fun l2=>.R (.inl (o6 (s2.1-1),l2))) (.R (.inr (.inl (s2.1,s2.2))))
def S5 (a b2:Int)(cmp:Cl prog (j6×j6) Int (fun x=>[I3 x.1,I3 x.2]) (fun r=>.t (tI r)))(s:Int×List j6):M prog (List j6) ((Int×List j6)⊕((Int×List j6)⊕Empty)):=
 .I (decide (s.1<b2)) (.L (fun(t:Int×List j6)=>[.t 9 (.t (tI t.1)),.b 1000000 (.rs 259 4 t.2 E4)]) 2 (.e) (S6 a cmp) (s.1,s.2) (fun s3=>.R (.inl (o6 (s.1+1),s3.2))) (fun t=>t.elim)) (.R (.inr (.inl (s.1,s.2))))
def G7 (data:List j6)(a b2:Int)(cmp:Cl prog (j6×j6) Int (fun x=>[I3 x.1,I3 x.2]) (fun r=>.t (tI r))):CG prog (List j6):=.of Z call439 func439 [.own 1000000,.t (tI a),.t (tI b2),.fz cmp.n cmp.cs] [(1000000,.rs 259 4 data E4)] (fun _=>.S9 []) (fun r=>[(1000000,.rs 259 4 r E4)]) [] (
 .L (fun(t:Int×List j6)=>[.t 8 (.t (tI t.1)),.b 1000000 (.rs 259 4 t.2 E4)]) 0 (.e) (S5 a b2 cmp) (o6 (a+1),data) (fun s4=>.R s4.2) (fun t=>t.elim))
def Q3 (data:List j6)(a m2 b2:Int)(cmp:Cl prog (j6×j6) Int (fun x=>[I3 x.1,I3 x.2]) (fun r=>.t (tI r))):CG prog (List j6):=⟨440,[.own 1000000,.t (tI a),.t (tI m2),.t (tI b2),.fz cmp.n cmp.cs],[(1000000,.rs 259 4 data E4)],none,fun _=>none,(fun _=>.S9 []),(fun r=>[(1000000,.rs 259 4 r E4)]),[],⟨call440,fun _ h=>by cases h⟩,fun _ _ h=>by cases h⟩
def U3 (n2:Int)(cmp:Cl prog (j6×j6) Int (fun x=>[I3 x.1,I3 x.2]) (fun r=>.t (tI r)))(s:Int×Int×List j6):M prog (List j6) ((Int×Int×List j6)⊕((Int×Int×List j6)⊕Empty)):=
 .I (decide (s.2.1<=n2)) (.KG (G7 s.2.2 s.1 s.2.1 cmp) [] fun v=>.R (.inl (s.2.1,o6 (s.2.1+20),v))) (.R (.inr (.inl (s.1,s.2.1,s.2.2))))
def Z4 (n2:Int)(cmp:Cl prog (j6×j6) Int (fun x=>[I3 x.1,I3 x.2]) (fun r=>.t (tI r)))(s3:Int×List j6)(s4:Int×Int×List j6):M prog (List j6) ((Int×Int×List j6)⊕((Int×Int×List j6)⊕Empty)):=
 .I (decide (s4.2.1<=n2)) (.KG (Q3 s4.2.2 s4.1 (o6 (s4.1+s3.1)) s4.2.1 cmp) [] fun v3=>.R (.inl (s4.2.1,o6 (s4.2.1+(o6 (2*s3.1))),v3))) (.R (.inr (.inl (s4.1,s4.2.1,s4.2.2))))
def U4 (n2:Int)(cmp:Cl prog (j6×j6) Int (fun x=>[I3 x.1,I3 x.2]) (fun r=>.t (tI r)))(s3:Int×List j6):M prog (List j6) ((Int×List j6)⊕((Int×List j6)⊕Empty)):=
 .I (decide (s3.1<n2)) (.L (fun(t:Int×Int×List j6)=>[.t 7 (.t (tI t.1)),.t 8 (.t (tI t.2.1)),.b 1000000 (.rs 259 4 t.2.2 E4)]) 4 (.e) (Z4 n2 cmp s3) (0,o6 (2*s3.1),s3.2) (fun s5=>.I (decide ((o6 (s5.1+s3.1))<n2)) (.KG (Q3 s5.2.2 s5.1 (o6 (s5.1+s3.1)) n2 cmp) [] fun v4=>.R (.inl (o6 (s3.1*2),v4))) (.R (.inl (o6 (s3.1*2),s5.2.2)))) (fun t=>t.elim)) (.R (.inr (.inl (s3.1,s3.2))))
def P1 (data:List j6)(n2:Int)(cmp:Cl prog (j6×j6) Int (fun x=>[I3 x.1,I3 x.2]) (fun r=>.t (tI r))):CG prog (List j6):=.of Z call411 func411 [.own 1000000,.t (tI n2),.fz cmp.n cmp.cs] [(1000000,.rs 259 4 data E4)] (fun _=>.S9 []) (fun r=>[(1000000,.rs 259 4 r E4)]) [] (
 .L (fun(t:Int×Int×List j6)=>[.t 7 (.t (tI t.1)),.t 8 (.t (tI t.2.1)),.b 1000000 (.rs 259 4 t.2.2 E4)]) 0 (.e) (U3 n2 cmp) (0,20,data) (fun s2=>.KG (G7 s2.2.2 s2.1 n2 cmp) [] fun v2=>.L (fun(t:Int×List j6)=>[.t 6 (.t (tI t.1)),.x 23,.b 1000000 (.rs 259 4 t.2 E4)]) 2 (.e) (U4 n2 cmp) (20,v2) (fun s6=>.R s6.2) (fun t=>t.elim)) (fun t=>t.elim))
def L6 (x:List j6)(cmp:Cl prog (j6×j6) Int (fun x=>[I3 x.1,I3 x.2]) (fun r=>.t (tI r))):CG prog (List j6):=.of Z call386 func386 [.own 1000000,.fz cmp.n cmp.cs] [(1000000,.rs 259 4 x E4)] (fun _=>.S9 []) (fun r=>[(1000000,.rs 259 4 r E4)]) [] (
 .KG (P1 x (x.length:Int) cmp) [] fun v=>.R v)
def Q1 (a b2:j6):C prog Int:=.of Z call387 func387 [I3 a,I3 b2] (fun r=>.t (tI r)) (
 .R (o6 (b2.G5-a.G5)))
def af2 (s:z6)(t2:Int):CG prog z6:=.of Z call412 func412 [.ptr 1000000 0,.t (tI t2)] [(1000000,.box [.t (tI s.low),.t (tI s.high),.t (tI s.source)])] (fun _=>.S9 []) (fun r=>[(1000000,.box [.t (tI r.low),.t (tI r.high),.t (tI r.source)])]) [] (
 .D [] []<| .R (⟨s.low,K2 s.low (J1 s.high t2),s.source⟩:z6))
def ab7 (s:z6)(t2:Int):CG prog z6:=.of Z call413 func413 [.ptr 1000000 0,.t (tI t2)] [(1000000,.box [.t (tI s.low),.t (tI s.high),.t (tI s.source)])] (fun _=>.S9 []) (fun r=>[(1000000,.box [.t (tI r.low),.t (tI r.high),.t (tI r.source)])]) [] (
 .D [] []<| .R (⟨J1 s.high (K2 s.low t2),s.high,s.source⟩:z6))
def ab8 (s:z6)(t2:Int):CG prog z6:=.of Z call414 func414 [.ptr 1000000 0,.t (tI t2)] [(1000000,.box [.t (tI s.low),.t (tI s.high),.t (tI s.source)])] (fun _=>.S9 []) (fun r=>[(1000000,.box [.t (tI r.low),.t (tI r.high),.t (tI r.source)])]) [] (
 .D [] []<| .K (D7 t2 s.low s.high) fun v=>.R (⟨v,v,s.source⟩:z6))
def Z7 (s:z6)(r2:j6):CG prog (Bool×z6):=.of Z call388 func388 [.ptr 1000000 0,I3 r2] [(1000000,.box [.t (tI s.low),.t (tI s.high),.t (tI s.source)])] (fun r=>.t (tB r.1)) (fun r=>[(1000000,.box [.t (tI r.2.low),.t (tI r.2.high),.t (tI r.2.source)])]) [] (
 .J0 0 (fun(t:z6)=>[.x 6,.x 7,.x 9,.b 1000000 (.box [.t (tI t.low),.t (tI t.high),.t (tI t.source)])]) (.I (r2.Kind==1) (.KG (af2 s r2.j9) [] fun v=>.R v) (.I (r2.Kind==2) (.KG (ab7 s r2.j9) [] fun v2=>.R v2) (.I (r2.Kind==3) (.KG (ab8 s r2.j9) [] fun v3=>.R v3) (.R s)))) fun f2=>.D [] []<| .J0 0 (fun(t:Int)=>[.x 3,.x 29,.x 30,.x 31,.x 33,.c 1000000 2 [.t (tI t)],.d 3]) (.I (f2.low !=s.low) (.R r2.I7) (.R f2.source)) fun f3=>.J0 1 (fun(t:Bool)=>[.t 4 (.t (tB t)),.x 0,.x 5,.d 5]) (.D [] []<| .Sp (f2.low !=s.low) (.R true) (.R (f2.high !=s.high))) fun v4=>.R (v4,(⟨f2.low,f2.high,f3⟩:z6)))
def cp7:Go.Shelf.Ren:=⟨fun|125=>410|128=>437|129=>438|189=>389|215=>287|216=>207|257=>415|294=>441|295=>442|296=>443|297=>444|298=>445|299=>446|300=>447|301=>448|328=>458|329=>453|330=>454|331=>459|332=>460|343=>472|n=>n,fun|0=>0|3=>3|4=>4|5=>5|9=>9|28=>22|46=>245|51=>382|53=>385|131=>204|182=>487|183=>488|218=>503|222=>507|228=>516|229=>333|n=>n,fun|n=>n⟩
open Go.Shelf in
theorem et6:Lays.n189 prog cp7:={
 mixed:=by kernel_rfl,
 f125:=func410.trans (congrArg some (by kernel_rfl)),
 f128:=func437.trans (congrArg some (by kernel_rfl)),
 f129:=func438.trans (congrArg some (by kernel_rfl)),
 f189:=func389.trans (congrArg some (by kernel_rfl)),
 f215:=func287.trans (congrArg some (by kernel_rfl)),
 f216:=func207.trans (congrArg some (by kernel_rfl)),
 f257:=func415.trans (congrArg some (by kernel_rfl)),
 f294:=func441.trans (congrArg some (by kernel_rfl)),
 f295:=func442.trans (congrArg some (by kernel_rfl)),
 f296:=func443.trans (congrArg some (by kernel_rfl)),
 f297:=func444.trans (congrArg some (by kernel_rfl)),
 f298:=func445.trans (congrArg some (by kernel_rfl)),
 f299:=func446.trans (congrArg some (by kernel_rfl)),
 f300:=func447.trans (congrArg some (by kernel_rfl)),
 f301:=func448.trans (congrArg some (by kernel_rfl)),
 f328:=func458.trans (congrArg some (by kernel_rfl)),
 f329:=func453.trans (congrArg some (by kernel_rfl)),
 f330:=func454.trans (congrArg some (by kernel_rfl)),
 f331:=func459.trans (congrArg some (by kernel_rfl)),
 f332:=func460.trans (congrArg some (by kernel_rfl)),
 f343:=func472.trans (congrArg some (by kernel_rfl)),
 t0:=Tryz.underlying0,
 a0:=Tryz.isAgg0,
 z0:=Tryz.sizeOf0,
 v0:=Tryz.zeroValue0,
 t3:=Tryz.underlying3,
 a3:=Tryz.isAgg3,
 z3:=Tryz.sizeOf3,
 v3:=Tryz.zeroValue3,
 t4:=Tryz.underlying4,
 a4:=Tryz.isAgg4,
 z4:=Tryz.sizeOf4,
 v4:=Tryz.zeroValue4,
 t5:=Tryz.underlying5,
 a5:=Tryz.isAgg5,
 z5:=Tryz.sizeOf5,
 v5:=Tryz.zeroValue5,
 t9:=Tryz.underlying9,
 a9:=Tryz.isAgg9,
 z9:=Tryz.sizeOf9,
 v9:=Tryz.zeroValue9,
 t28:=Tryz.underlying22,
 a28:=Tryz.isAgg22,
 z28:=Tryz.sizeOf22,
 v28:=Tryz.zeroValue22,
 t46:=Tryz.underlying245,
 a46:=Tryz.isAgg245,
 z46:=Tryz.sizeOf245,
 v46:=Tryz.zeroValue245,
 t51:=Tryz.underlying382,
 a51:=Tryz.isAgg382,
 z51:=Tryz.sizeOf382,
 v51:=Tryz.zeroValue382,
 t53:=Tryz.underlying385,
 a53:=Tryz.isAgg385,
 z53:=Tryz.sizeOf385,
 v53:=Tryz.zeroValue385,
 t131:=Tryz.underlying204,
 a131:=Tryz.isAgg204,
 z131:=Tryz.sizeOf204,
 v131:=Tryz.zeroValue204,
 t182:=Tryz.underlying487,
 a182:=Tryz.isAgg487,
 z182:=Tryz.sizeOf487,
 v182:=Tryz.zeroValue487,
 t183:=Tryz.underlying488,
 a183:=Tryz.isAgg488,
 z183:=Tryz.sizeOf488,
 v183:=Tryz.zeroValue488,
 t218:=Tryz.underlying503,
 a218:=Tryz.isAgg503,
 z218:=Tryz.sizeOf503,
 v218:=Tryz.zeroValue503,
 t222:=Tryz.underlying507,
 a222:=Tryz.isAgg507,
 z222:=Tryz.sizeOf507,
 v222:=Tryz.zeroValue507,
 t228:=Tryz.underlying516,
 a228:=Tryz.isAgg516,
 z228:=Tryz.sizeOf516,
 v228:=Tryz.zeroValue516,
 t229:=Tryz.underlying333,
 a229:=Tryz.isAgg333,
 z229:=Tryz.sizeOf333,
 v229:=Tryz.zeroValue333}
theorem bV4 (s:List Int):bh9 prog 389 [.own 1000000] [(1000000,.rows 3 1 s.length (s.map aI8))] (bU5 s) (fun _=>.S9 []) (fun r=>[(1000000,.rows 3 1 r.length (r.map aI8))]):=
 dn3 (ρ:=cp7) et6 call389 s
def aC3 (s:List Int):CG prog (List Int):=⟨389,[.own 1000000],[(1000000,.rows 3 1 s.length (s.map aI8))],bU5 s,fun _=>dJ9 s,fun _=>.S9 [],fun r=>[(1000000,.rows 3 1 r.length (r.map aI8))],[],bV4 s,fun _ r h=>eb6 h⟩
def cl7:Go.Shelf.Ren:=⟨fun|20=>390|n=>n,fun|0=>0|3=>3|4=>4|22=>22|n=>n,fun|n=>n⟩
open Go.Shelf in
theorem ej0:Lays2.n20 prog cl7:={
 mixed:=by kernel_rfl,
 f20:=func390.trans (congrArg some (by kernel_rfl)),
 t0:=Tryz.underlying0,
 a0:=Tryz.isAgg0,
 z0:=Tryz.sizeOf0,
 v0:=Tryz.zeroValue0,
 t3:=Tryz.underlying3,
 a3:=Tryz.isAgg3,
 z3:=Tryz.sizeOf3,
 v3:=Tryz.zeroValue3,
 t4:=Tryz.underlying4,
 a4:=Tryz.isAgg4,
 z4:=Tryz.sizeOf4,
 v4:=Tryz.zeroValue4,
 t22:=Tryz.underlying22,
 a22:=Tryz.isAgg22,
 z22:=Tryz.sizeOf22,
 v22:=Tryz.zeroValue22,
 i3:=by kernel_rfl}
theorem bG2 (s:List Int):bh9 prog 390 [.own 1000000] [(1000000,.rows 3 1 s.length (s.map aI8))] (bn1 s) (fun _=>.own 900000) (fun r=>[(900000,.rows 3 1 r.length (r.map aI8))]):=
 cF6 (ρ:=cl7) ej0 call390 s
def at4 (s:List Int):CG prog (List Int):=⟨390,[.own 1000000],[(1000000,.rows 3 1 s.length (s.map aI8))],bn1 s,fun _=>bn1 s,fun _=>.own 900000,fun r=>[(900000,.rows 3 1 r.length (r.map aI8))],[900000],bG2 s,fun _ r h=>h⟩
def ak2 (_:Int)(x:j6)(s:List Int×z6):M prog (z6×List Int) (Fl (List Int×z6) Empty):=
 .W (.hx 0)<| .W (.ly 0)<| .KG (Z7 s.2 x) [] fun r2=>.I r2.1 (.U (.ap aI8 s.1 ([x.I7]:List Int) 2248) fun l2=>.R (.next (l2,r2.2))) (.R (.next (s.1,r2.2)))
def aq8 (l:List j6)(low high:Int):C prog (z6×List Int):=.of Z call347 func347 [.t (tS E4 l),.t (tI low),.t (tI high)] (fun r=>.S9 [cD3 r.1,.t (tS aI8 r.2)]) (
 .KG (Z6 l) [2104] fun v=>.KG (L6 v (.of (fun z_=>Q1 z_.1 z_.2) 387 [])) [] fun v2=>.Z (.np 9 2248 3 1 [])<|M.Q E4 v2 2 21 (fun(t:List Int×z6)=>[.t 9 (.own 2248),.x 0,.x 13,.x 14,.b 8 (.box [.t (tI t.2.low),.t (tI t.2.high),.t (tI t.2.source)]),.b 2248 (.rs 3 1 t.1 aI8)]) 0 (.e) (ak2) (([]:List Int),(⟨low,high,(-1)⟩:z6)) (fun s2=>.KG (aC3 s2.1) [] fun v3=>.Pn 2248<| .D [] [(2,2248)]<| .KG (at4 v3) [2248] fun v4=>.R (s2.2,v4)) (fun t=>t.elim))
def aq7 (g:N4)(l:List j6)(low high up down:Int):C prog (N4×Int):=.of Z call299 func299 [do4 g,.t (tS E4 l),.t (tI low),.t (tI high),.t (tI up),.t (tI down)] (fun r=>.S9 [do4 r.1,.t (tI r.2)]) (
 .K (R8 g.j9) fun v=>.I (((!v)||(decide (g.I7<(-1))))||(decide (g.I7>15))) (.R ((⟨0,0⟩:N4),1)) (.K (aw1 l low high) fun v2=>.I (v2 !=0) (.R ((⟨0,0⟩:N4),v2)) (.I ((((decide (up<0))||(decide (up>20000)))||(decide (down<0)))||(decide (down>20000))) (.R ((⟨0,0⟩:N4),2)) (.K (aq8 l low high) fun r2=>.R ((⟨K2 (J1 (J1 (K2 r2.1.low (o6 (g.j9-down))) (o6 (g.j9+up))) r2.1.high) low,r2.1.source⟩:N4),0)))))
def Z8 (s:p7):CG prog p7:=.of Z call229 func229 [.ptr 1000000 0] [(1000000,.box (aw6 (T3 s) [(63,.own 1000001)])),(1000001,.rs 220 7 s.out.N8 C1)] (fun _=>.S9 []) (fun r=>[(1000000,.box (aw6 (T3 r) [(63,.own 1000001)])),(1000001,.rs 220 7 r.out.N8 C1)]) [] (
 .D [] [(23,1000000)]<| .K (aN3 s.c.C5 s.i.bo7 s.i.bo8) fun r2=>.KG (A1 (⟨s.t,s.e,s.b,(⟨r2.1,s.c.G6,s.c.R7,s.c.B2,s.c.H9,s.c.L8⟩:z8),s.i,s.wanted,s.u9,s.X2,s.late,s.pattern,s.time,s.out,s.fail⟩:p7) r2.2) [] fun v=>.D [] []<| .K (aN4 v.t v.c.C5.Value v.i.C9) fun r3=>.KG (A1 v r3.2) [] fun v2=>.D [] []<| .K (ax3 v2.c.C5.Value v2.i.C9 v2.i.ap5) fun v3=>.J0 0 (fun(t:p7×List j6)=>[.t 4 (.own 56),.x 7,.x 8,.x 9,.x 10,.x 11,.x 13,.x 14,.x 15,.x 16,.x 18,.x 19,.x 20,.x 21,.x 26,.x 27,.x 28,.x 29,.x 33,.x 34,.x 35,.x 37,.x 38,.x 39,.x 40,.x 41,.x 43,.x 44,.x 45,.x 46,.x 51,.x 56,.x 57,.x 58,.x 59,.x 60,.x 61,.x 63,.x 64,.x 65,.x 66,.x 68,.x 69,.x 70,.x 71,.b 56 (.rs 259 4 t.2 E4),.b 1000000 (.box (aw6 (T3 t.1) [(63,.own 1000001)])),.b 1000001 (.rs 220 7 t.1.out.N8 C1)]) (.I v3 (.D [] [(30,1000000)]<| .K (ax4 v2.i.ap5) fun v4=>.K (aF2 v2.c.G6 v2.t.G6 v4 v2.i.C9) fun r4=>.KG (A1 (⟨v2.t,v2.e,v2.b,(⟨v2.c.C5,r4.1,v2.c.R7,v2.c.B2,v2.c.H9,v2.c.L8⟩:z8),v2.i,v2.wanted,v2.u9,v2.X2,v2.late,v2.pattern,v2.time,v2.out,v2.fail⟩:p7) r4.2.2) [] fun v5=>.K (D7 r4.2.1 (-5000) 10000) fun v6=>.U (.ap E4 ([(⟨0,3,r3.1,0⟩:j6)]:List j6) ([(⟨1,2,v6,1⟩:j6)]:List j6) 56) fun l=>.R (v5,l)) (.R ((⟨v2.t,v2.e,v2.b,(⟨v2.c.C5,(⟨0⟩:B9),v2.c.R7,v2.c.B2,v2.c.H9,v2.c.L8⟩:z8),v2.i,v2.wanted,v2.u9,v2.X2,v2.late,v2.pattern,v2.time,v2.out,v2.fail⟩:p7),([(⟨0,3,r3.1,0⟩:j6)]:List j6)))) fun s2=>.Pn 56<| .D [] [(12,56),(20,1000000)]<| .U (.ap E4 s2.2 s2.1.i.Requests 56) fun l2=>.K (aq7 (⟨s2.1.c.L8.j9,s2.1.c.L8.I7⟩:N4) l2 (-5000) 10000 300 1000) fun r5=>.KG (A1 (⟨(⟨(⟨s2.1.t.Air.X,s2.1.t.Air.Y,s2.1.t.Air.Z⟩:SMap),(⟨s2.1.t.D9.X,s2.1.t.D9.Y,s2.1.t.D9.Z⟩:SMap),(⟨s2.1.t.j9.X,s2.1.t.j9.Y,s2.1.t.j9.Z⟩:SMap),(⟨s2.1.t.R6.X,s2.1.t.R6.Y,s2.1.t.R6.Z⟩:SMap),(⟨s2.1.t.C6.X,s2.1.t.C6.Y⟩:A7),(⟨s2.1.t.L2.X,s2.1.t.L2.Y⟩:A7),(⟨s2.1.t.V6.X,s2.1.t.V6.Y⟩:A7),(⟨s2.1.t.u6.X,s2.1.t.u6.Y⟩:A7),(⟨s2.1.t.G6.P,s2.1.t.G6.I,s2.1.t.G6.Low,s2.1.t.G6.aC5⟩:ak0)⟩:p6),(⟨s2.1.e.z7,s2.1.e.P0⟩:o7),(⟨s2.1.b.O5,s2.1.b.N9,s2.1.b.ac4,s2.1.b.C4,s2.1.b.H9,s2.1.b.E9,s2.1.b.an6⟩:J4),(⟨(⟨s2.1.c.C5.Value,s2.1.c.C5.O8,s2.1.c.C5.ai8⟩:L4),(⟨s2.1.c.G6.Sum⟩:B9),s2.1.c.R7,(⟨s2.1.c.B2.Q8,s2.1.c.B2.ay2,s2.1.c.B2.P3,s2.1.c.B2.av7,s2.1.c.B2.Cells⟩:I2),s2.1.c.H9,r5.1⟩:z8),(⟨s2.1.i.bo7,s2.1.i.bo8,s2.1.i.C9,s2.1.i.G0,s2.1.i.C6,s2.1.i.az4,s2.1.i.Lambda,s2.1.i.ap5,s2.1.i.W7,s2.1.i.Requests⟩:X5),s2.1.wanted,s2.1.u9,s2.1.X2,s2.1.late,s2.1.pattern,s2.1.time,(⟨s2.1.out.C4,s2.1.out.N8,s2.1.out.j9⟩:J9),s2.1.fail⟩:p7) r5.2) [] fun v7=>.R (⟨v7.t,v7.e,v7.b,v7.c,v7.i,K2 0 v7.c.L8.j9,v7.u9,v7.X2,v7.late,v7.pattern,v7.time,v7.out,v7.fail⟩:p7))
def an2 (i:Int)(c:p6)(c2 c3 c4:Int):C prog Bool:=.of Z call349 func349 [.t (tI i),.el (aR6 c),.el (aI8 c2),.el (aI8 c3),.el (aI8 c4)] (fun r=>.t (tB r)) (
 .D [] []<| .K (aa9 c.j9 c2 (o6 (c3+i))) fun v=>.R (decide (v>=c4)))
def aq4 (t2:p6)(u0 J7:Int):C prog (Int×Int):=.of Z call300 func300 [V5 t2,.t (tI u0),.t (tI J7)] (fun r=>.S9 [.t (tI r.1),.t (tI r.2)]) (
 .K (aj3 t2) fun v=>.I (!v) (.R (0,1)) (.K (J3 u0 0 12000) fun v2=>.I (!v2) (.R (0,2)) (.O (.ix aI8 t2.j9.Y 0) fun x=>.D [] []<| .O (.ix aI8 t2.j9.Y (o6 ((t2.j9.Y.length:Int)-1))) fun x2=>.Z (.fb 3)<| .Z (.fb 4)<| .Z (.fb 8)<| .Z (.fb 5)<| .K (S7 (o6 ((o6 (x2-x))+1)) (.of (fun z_=>an2 z_ t2 u0 x J7) 349 [aR6 t2,aI8 u0,aI8 x,aI8 J7])) fun v3=>.I (v3==(o6 ((o6 (x2-x))+1))) (.R (0,7)) (.R (o6 (x+v3),0)))))
def av2 (x e2 other:Int):C prog Int:=.of Z call301 func301 [.t (tI x),.t (tI e2),.t (tI other)] (fun r=>.t (tI r)) (
 .I (e2 !=0) (.R other) (.R x))
def am2 (i:Int)(c:A7)(c2:Int):C prog Bool:=.of Z call419 func419 [.t (tI i),.el (bJ2 c),.el (aI8 c2)] (fun r=>.t (tB r)) (
 .D [] []<| .O (.ix aI8 c.X i) fun x=>.R (decide (x>c2)))
def aw3 (c:A7)(x:Int):C prog Int:=.of Z call399 func399 [ci1 c,.t (tI x)] (fun r=>.t (tI r)) (
 .Z (.fb 2)<| .Z (.fb 3)<| .K (S7 (c.X.length:Int) (.of (fun z_=>am2 z_ c x) 419 [bJ2 c,aI8 x])) fun v=>.R (o6 (v-1)))
def aF7 (c:A7)(x:Int):C prog Int:=.of Z call371 func371 [ci1 c,.t (tI x)] (fun r=>.t (tI r)) (
 .O (.ix aI8 c.X 0) fun x2=>.I (decide (x<=x2)) (.O (.ix aI8 c.Y 0) fun x3=>.R x3) (.O (.ix aI8 c.X (o6 ((c.X.length:Int)-1))) fun x4=>.I (decide (x>=x4)) (.O (.ix aI8 c.Y (o6 ((c.X.length:Int)-1))) fun x5=>.R x5) (.K (aw3 c x) fun v=>.D [] []<| .O (.ix aI8 c.Y v) fun x6=>.O (.ix aI8 c.X v) fun x7=>.O (.ix aI8 c.Y (o6 (v+1))) fun x8=>.W (.hx 2)<| .O (.ix aI8 c.X (o6 (v+1))) fun x9=>.W (.hx 2)<| .K (Y3 (o6 ((o6 (x-x7))*(o6 (x8-x6)))) (o6 (x9-x7))) fun v2=>.R (o6 (x6+v2)))))
def au7 (c:A7)(x:Int):C prog Int:=.of Z call321 func321 [ci1 c,.t (tI x)] (fun r=>.t (tI r)) (
 .K (R9 c) fun v=>.I (!v) (.R 0) (.K (aF7 c x) fun v2=>.R v2))
def aC8 (t2:p6)(u0 A3 N0:Int):C prog Int:=.of Z call243 func243 [V5 t2,.t (tI u0),.t (tI A3),.t (tI N0)] (fun r=>.t (tI r)) (
 .D [] []<| .K (aa9 t2.Air u0 A3) fun v=>.K (au7 t2.C6 N0) fun v2=>.K (Y3 (o6 (v*v2)) 1000) fun v3=>.R (J1 1048576 v3))
def al1 (k:Int)(c:p6)(c2 c3 c4:Int):C prog Bool:=.of Z call350 func350 [.t (tI k),.el (aR6 c),.el (aI8 c2),.el (aI8 c3),.el (aI8 c4)] (fun r=>.t (tB r)) (
 .D [] []<| .K (aC8 c c2 (o6 (50+k)) c3) fun v=>.R (decide (v>=c4)))
def av8 (t2:p6)(u0 want N0:Int):C prog (Int×Int):=.of Z call302 func302 [V5 t2,.t (tI u0),.t (tI want),.t (tI N0)] (fun r=>.S9 [.t (tI r.1),.t (tI r.2)]) (
 .K (aB6 t2) fun v=>.I (!v) (.R (0,1)) (.K (K3 u0 0 12000) fun v2=>.G (!v2) (.R true) (.K (K3 want 0 1048576) fun v3=>.R (!v3)) fun b2=>.G b2 (.R true) (.K (K3 N0 (-40) 150) fun v4=>.R (!v4)) fun b3=>.I b3 (.R (0,2)) (.Z (.fb 4)<| .Z (.fb 5)<| .Z (.fb 7)<| .Z (.fb 6)<| .K (S7 2951 (.of (fun z_=>al1 z_ t2 u0 N0 want) 350 [aR6 t2,aI8 u0,aI8 N0,aI8 want])) fun v5=>.I (decide ((o6 (50+v5))>3000)) (.R (0,7)) (.R (o6 (50+v5),0)))))
def ax9 (rpm:Int):C prog (Int×Int):=.of Z call351 func351 [.t (tI rpm)] (fun r=>.S9 [.t (tI r.1),.t (tI r.2)]) (
 .I ((decide (rpm<0))||(decide (rpm>20000))) (.R (0,2)) (.K (ao2 (o6 ((o6 (rpm*65536))*23040)) 60000000 2) fun r2=>.R (r2.1,r2.2)))
def be2 (u0 A3:Int):C prog (Int×Int):=.of Z call303 func303 [.t (tI u0),.t (tI A3)] (fun r=>.S9 [.t (tI r.1),.t (tI r.2)]) (
 .K (K3 u0 0 12000) fun v=>.G (!v) (.R true) (.K (K3 A3 50 3000) fun v2=>.R (!v2)) fun b2=>.I b2 (.R (0,2)) (.K (ax9 u0) fun r2=>.R (o6 (da8 (o6 (r2.1*A3)) 1024),r2.2)))
def al2 (k:Int)(c:J4)(c2 c3:Int):C prog Bool:=.of Z call352 func352 [.t (tI k),.el (bE6 c),.el (aI8 c2),.el (aI8 c3)] (fun r=>.t (tB r)) (
 .R (decide ((o6 (da8 (o6 ((o6 (c.C4*k))*(o6 (1013-c2)))) 1000))>=c3)))
def av9 (b2:J4)(cX6 A3:Int):C prog (Int×Int):=.of Z call304 func304 [aM1 b2,.t (tI cX6),.t (tI A3)] (fun r=>.S9 [.t (tI r.1),.t (tI r.2)]) (
 .K (ak5 b2) fun v=>.I (!v) (.R (0,1)) (.K (K3 cX6 0 1099511627776) fun v2=>.G (!v2) (.R true) (.K (K3 A3 50 1013) fun v3=>.R (!v3)) fun b3=>.I b3 (.R (0,2)) (.Z (.fb 3)<| .Z (.fb 5)<| .Z (.fb 4)<| .K (S7 1001 (.of (fun z_=>al2 z_ b2 A3 cX6) 352 [bE6 b2,aI8 A3,aI8 cX6])) fun v4=>.I (decide (v4>1000)) (.R (0,7)) (.R (v4,0)))))
def W5 (s:p7):CG prog p7:=.of Z call230 func230 [.ptr 1000000 0] [(1000000,.box (aw6 (T3 s) [(63,.own 1000001)])),(1000001,.rs 220 7 s.out.N8 C1)] (fun _=>.S9 []) (fun r=>[(1000000,.box (aw6 (T3 r) [(63,.own 1000001)])),(1000001,.rs 220 7 r.out.N8 C1)]) [] (
 .D [] []<| .K (aq4 s.t s.i.C9 s.wanted) fun r2=>.K (av2 r2.1 r2.2 1048576) fun v=>.D [] []<| .K (av8 s.t s.i.C9 (K2 0 v) s.i.C6) fun r3=>.K (av2 r3.1 r3.2 3000) fun v2=>.K (be2 s.i.C9 (J1 1012 v2)) fun r4=>.KG (A1 s r4.2) [] fun v3=>.K (av9 v3.b r4.1 (J1 1012 v2)) fun r5=>.K (av2 r5.1 r5.2 1000) fun v4=>.R (⟨v3.t,v3.e,v3.b,v3.c,v3.i,v3.wanted,v3.u9,v3.X2,v3.late,v3.pattern,v3.time,(⟨v4,v3.out.N8,v3.out.j9⟩:J9),v3.fail⟩:p7))
def aC7 (t2:p6)(u0 A3 N0:Int):C prog (Int×Int):=.of Z call165 func165 [V5 t2,.t (tI u0),.t (tI A3),.t (tI N0)] (fun r=>.S9 [.t (tI r.1),.t (tI r.2)]) (
 .K (aB6 t2) fun v=>.I (!v) (.R (0,1)) (.K (K3 u0 0 12000) fun v2=>.G (!v2) (.R true) (.K (K3 A3 50 3000) fun v3=>.R (!v3)) fun b2=>.G b2 (.R true) (.K (K3 N0 (-40) 150) fun v4=>.R (!v4)) fun b3=>.I b3 (.R (0,2)) (.K (aC8 t2 u0 A3 N0) fun v5=>.R (v5,0))))
def ai1 (t2:p6)(u0 u9:Int):C prog (Int×Int):=.of Z call353 func353 [V5 t2,.t (tI u0),.t (tI u9)] (fun r=>.S9 [.t (tI r.1),.t (tI r.2)]) (
 .K (aj3 t2) fun v=>.I (!v) (.R (0,1)) (.K (J3 u0 0 12000) fun v2=>.G (!v2) (.R true) (.K (J3 u9 0 1048576) fun v3=>.R (!v3)) fun b2=>.I b2 (.R (0,2)) (.K (aa9 t2.j9 u0 u9) fun v4=>.R (v4,0))))
def ab4 (t2:p6)(bK3 late X2 C2:Int):C prog Int:=.of Z call354 func354 [V5 t2,.t (tI bK3),.t (tI late),.t (tI X2),.t (tI C2)] (fun r=>.t (tI r)) (
 .K (au7 t2.u6 late) fun v=>.O (.quo .i64 (o6 ((o6 (bK3*v))*X2)) (o6 (1000*C2))) fun q=>.R q)
def am0 (late:Int)(c:p6)(c2 c3 c4 c5:Int):C prog Bool:=.of Z call355 func355 [.t (tI late),.el (aR6 c),.el (aI8 c2),.el (aI8 c3),.el (aI8 c4),.el (aI8 c5)] (fun r=>.t (tB r)) (
 .D [] []<| .K (ab4 c c2 late c3 c4) fun v=>.R (decide (v<=c5)))
def an4 (t2:p6)(most C2:Int)(r2:Int×Int)(f2:Int):M prog (Int×Int×Int) (Int⊕(Int⊕Empty)):=
 .I (decide (f2>0)) (.D [] []<| .K (ab4 t2 r2.1 2560 f2 C2) fun v2=>.I (decide (v2<=most)) (.R (.inr (.inl f2))) (.R (.inl (o6 (f2-1))))) (.R (.inr (.inl f2)))
def an3 (t2:p6)(u0 u9 most C2:Int):C prog (Int×Int×Int):=.of Z call305 func305 [V5 t2,.t (tI u0),.t (tI u9),.t (tI most),.t (tI C2)] (fun r=>.S9 [.t (tI r.1),.t (tI r.2.1),.t (tI r.2.2)]) (
 .K (ai1 t2 u0 u9) fun r2=>.I (r2.2 !=0) (.R (0,0,r2.2)) (.K (J3 C2 1 8) fun v=>.I ((!v)||(decide (most<0))) (.R (0,0,2)) (.L (fun(t:Int)=>[.b 10 (.box [.t (tI t)])]) 1 (.e) (an4 t2 most C2 r2) C2 (fun f3=>.Z (.fb 5)<| .Z (.fb 13)<| .Z (.fb 9)<| .Z (.fb 8)<| .K (S7 2560 (.of (fun z_=>am0 z_ t2 r2.1 f3 C2 most) 355 [aR6 t2,aI8 r2.1,aI8 f3,aI8 C2,aI8 most])) fun v3=>.R (f3,v3,0)) (fun t=>t.elim))))
def as9 (C2 X2 G8 i:Int)(f2:List Bool):M prog (List Bool×Int) (Fl (List Bool) Empty):=
 .O (.rem (o6 (i+G8)) C2) fun q=>.D [] []<| .O (.quo .i64 (o6 ((o6 (q+1))*X2)) C2) fun q2=>.O (.quo .i64 (o6 (q*X2)) C2) fun q3=>.O (.ix Pv.dF7 f2 i) fun _=>.U (.st Pv.dF7 f2 i (decide (q2>q3)) 0) fun l2=>.R (.next l2)
def as8 (C2 X2 G8:Int):C prog (List Bool×Int):=.of Z call306 func306 [.t (tI C2),.t (tI X2),.t (tI G8)] (fun r=>.S9 [.t (tS Pv.dF7 r.1),.t (tI r.2)]) (
 .K (J3 C2 1 8) fun v=>.G (!v) (.R true) (.K (J3 X2 0 C2) fun v2=>.R (!v2)) fun b2=>.G b2 (.R true) (.K (J3 G8 0 1099511627776) fun v3=>.R (!v3)) fun b3=>.I b3 (.R (([]:List Bool),2)) (.Mk Pv.dF7 C2 false fun l=>M.QN (l.length:Int) 2 29 (fun(t:List Bool)=>[.x 26,.x 27,.b 26 (.rs 4 1 t Pv.dF7)]) 0 (.e) (as9 C2 X2 G8) l (fun f3=>.R (f3,0)) (fun t=>t.elim)))
def aw9 (t2:p6)(u0 u9 late X2 C2:Int):C prog (Int×Int):=.of Z call307 func307 [V5 t2,.t (tI u0),.t (tI u9),.t (tI late),.t (tI X2),.t (tI C2)] (fun r=>.S9 [.t (tI r.1),.t (tI r.2)]) (
 .K (ai1 t2 u0 u9) fun r2=>.I (r2.2 !=0) (.R (0,r2.2)) (.K (J3 late 0 2560) fun v=>.G (!v) (.R true) (.K (J3 C2 1 8) fun v2=>.R (!v2)) fun b2=>.G b2 (.R true) (.K (J3 X2 0 C2) fun v3=>.R (!v3)) fun b3=>.I b3 (.R (0,2)) (.K (ab4 t2 r2.1 late X2 C2) fun v4=>.R (v4,0))))
def ac6 (s:p7):CG prog p7:=.of Z call231 func231 [.ptr 1000000 0] [(1000000,.box (aw6 (T3 s) [(63,.own 1000001)])),(1000001,.rs 220 7 s.out.N8 C1)] (fun _=>.S9 []) (fun r=>[(1000000,.box (aw6 (T3 r) [(63,.own 1000001)])),(1000001,.rs 220 7 r.out.N8 C1)]) [] (
 .D [] [(26,1000000)]<| .K (aC7 s.t s.i.C9 s.i.G0 s.i.C6) fun r2=>.KG (A1 (⟨s.t,s.e,s.b,s.c,s.i,s.wanted,r2.1,s.X2,s.late,s.pattern,s.time,s.out,s.fail⟩:p7) r2.2) [] fun v=>.D [] [(27,1000000),(30,1000000)]<| .K (an3 v.t v.i.C9 v.u9 v.wanted (s.e.z7.length:Int)) fun r3=>.KG (A1 (⟨v.t,v.e,v.b,v.c,v.i,v.wanted,v.u9,r3.1,r3.2.1,v.pattern,v.time,v.out,v.fail⟩:p7) r3.2.2) [] fun v2=>.K (as8 (s.e.z7.length:Int) v2.X2 0) fun r4=>.KG (A1 (⟨v2.t,v2.e,v2.b,v2.c,v2.i,v2.wanted,v2.u9,v2.X2,v2.late,r4.1,v2.time,v2.out,v2.fail⟩:p7) r4.2) [] fun v3=>.D [] [(30,1000000)]<| .K (aw9 v3.t v3.i.C9 v3.u9 v3.late v3.X2 (s.e.z7.length:Int)) fun r5=>.KG (A1 (⟨v3.t,v3.e,v3.b,v3.c,v3.i,v3.wanted,v3.u9,v3.X2,v3.late,v3.pattern,v3.time,(⟨v3.out.C4,v3.out.N8,r5.1⟩:J9),v3.fail⟩:p7) r5.2) [] fun v4=>.R v4)
def ae5 (u0 u9:Int):C prog Bool:=.of Z call356 func356 [.t (tI u0),.t (tI u9)] (fun r=>.t (tB r)) (
 .K (U9 u0 0 12000) fun v=>.G v (.K (U9 u9 0 1048576) fun v2=>.R v2) (.R false) fun b2=>.R b2)
def ah8 (s:List ad1):C prog (List ad1):=.of Z call391 func391 [.t (tS ao5 s)] (fun r=>.t (tS ao5 r)) (
 .Nl ao5 s (.I true (.R ([]:List ad1)) .N) (fun s=>.I false .N (.U (.ap ao5 ([]:List ad1) s 5) fun l=>.R l)))
def ax6 (p2:I2):C prog I2:=.of Z call357 func357 [bt3 p2] (fun r=>bt3 r) (
 .K (ah8 p2.Cells) fun v=>.R (⟨p2.Q8,p2.ay2,p2.P3,p2.av7,v⟩:I2))
def az9 (p2:I2)(D1 u0 u9:Int):C prog (I2×Int):=.of Z call308 func308 [bt3 p2,.t (tI D1),.t (tI u0),.t (tI u9)] (fun r=>.S9 [bt3 r.1,.t (tI r.2)]) (
 .K (ae4 p2) fun v=>.I (!v) (.R ((⟨false,false,0,0,([]:List ad1)⟩:I2),1)) (.K (ae5 u0 u9) fun v2=>.G (!v2) (.R true) (.K (U9 D1 0 20000) fun v3=>.R (!v3)) fun b2=>.I b2 (.R ((⟨false,false,0,0,([]:List ad1)⟩:I2),2)) (.K (ax6 p2) fun v4=>.I (!v4.Q8) (.R ((⟨((decide (D1<300))||(decide (D1>600))),decide (D1>600),v4.P3,v4.av7,v4.Cells⟩:I2),0)) (.J0 0 (fun(t:Int×Int)=>[.t 11 (.t (tI t.1)),.x 30,.x 55,.c 4 3 [.t (tI t.2)]]) (.I (!(((decide (D1>500))||((decide (D1>=400))&&v4.ay2))==v4.ay2)) (.R (15,0)) (.R (1,J1 1000 (o6 (v4.av7+1))))) fun s=>.J0 0 (fun(t:Int)=>[.t 11 (.t (tI t))]) (.I ((decide (D1>500))||((decide (D1>=400))&&v4.ay2)) (.R (o6 (0-s.1))) (.R s.1)) fun v_by=>.K (D7 (o6 (v4.P3+v_by)) 750 1250) fun v5=>.R ((⟨v4.Q8,((decide (D1>500))||((decide (D1>=400))&&v4.ay2)),v5,s.2,v4.Cells⟩:I2),0)))))
def aC2 (x _ x2 n2:Int):M prog Int (Fl Int Empty):=
 .W (.hx 0)<| .I (decide (x>=x2)) (.R (.next (o6 (n2+1)))) (.R (.next n2))
def al7 (x:Int)(bb9:List Int):C prog Int:=.of Z call392 func392 [.t (tI x),.t (tS aI8 bb9)] (fun r=>.t (tI r)) (
 M.Q aI8 bb9 2 10 (fun(t:Int)=>[.t 5 (.t (tI t))]) 0 (.e) (aC2 x) 0 (fun n3=>.R n3) (fun t=>t.elim))
def aG8 (u0 u9:Int):C prog Int:=.of Z call358 func358 [.t (tI u0),.t (tI u9)] (fun r=>.t (tI r)) (
 .K (ae5 u0 u9) fun v=>.I (!v) (.R (-1)) (.K (al7 u0 ([1500,3500]:List Int)) fun v2=>.K (al7 u9 ([150000,350000]:List Int)) fun v3=>.R (o6 ((o6 (3*v2))+v3))))
def ar7 (p2:I2)(u0 u9:Int):C prog (Int×Int):=.of Z call309 func309 [bt3 p2,.t (tI u0),.t (tI u9)] (fun r=>.S9 [.t (tI r.1),.t (tI r.2)]) (
 .K (ae4 p2) fun v=>.I (!v) (.R (0,1)) (.K (ae5 u0 u9) fun v2=>.I (!v2) (.R (0,2)) (.D [] []<| .K (aG8 u0 u9) fun v3=>.O (.ix ao5 p2.Cells v3) fun x=>.K (D7 (o6 (p2.P3+x.Value)) 700 1300) fun v4=>.R (v4,0))))
def ag4 (x low high:Int):C prog Bool:=.of Z call342 func342 [.t (tI x),.t (tI low),.t (tI high)] (fun r=>.t (tB r)) (
 .R ((decide (x>=low))&&(decide (x<=high))))
def aU5 (u9 bJ3:Int):C prog (Int×Int):=.of Z call310 func310 [.t (tI u9),.t (tI bJ3)] (fun r=>.S9 [.t (tI r.1),.t (tI r.2)]) (
 .K (ag4 u9 0 1048576) fun v=>.G (!v) (.R true) (.K (ag4 bJ3 500 2000) fun v2=>.R (!v2)) fun b2=>.I b2 (.R (0,2)) (.O (.quo .i64 (o6 (u9*10000)) (o6 (bJ3*147))) fun q=>.R (q,0)))
def aJ8 (b2:J4):C prog Bool:=.of Z call359 func359 [aM1 b2] (fun r=>.t (tB r)) (
 .K (ag4 b2.H9 0 1023) fun v=>.G v (.K (ag4 b2.E9 0 1024) fun v2=>.R v2) (.R false) fun b3=>.R b3)
def aN7 (cmp:Cl prog Int Int (fun x=>[.t (tI x)]) (fun r=>.t (tI r)))(s:Int×Int):M prog (Int×Bool) ((Int×Int)⊕((Int×Int)⊕Empty)):=
 .I (decide (s.1<s.2)) (.K (cmp.at (o6 (F1 .u64 (aK3.wrap (o6 (s.1+s.2))) 1))) fun v=>.I (decide (v>0)) (.R (.inl (o6 ((o6 (F1 .u64 (aK3.wrap (o6 (s.1+s.2))) 1))+1),s.2))) (.R (.inl (s.1,o6 (F1 .u64 (aK3.wrap (o6 (s.1+s.2))) 1))))) (.R (.inr (.inl (s.1,s.2))))
def aP9 (n2:Int)(cmp:Cl prog Int Int (fun x=>[.t (tI x)]) (fun r=>.t (tI r))):C prog (Int×Bool):=.of Z call360 func360 [.t (tI n2),.fz cmp.n cmp.cs] (fun r=>.S9 [.t (tI r.1),.t (tB r.2)]) (
 .L (fun(t:Int×Int)=>[.t 4 (.t (tI t.1)),.t 6 (.t (tI t.2))]) 0 (.e) (aN7 cmp) (0,n2) (fun s2=>.G (decide (s2.1<n2)) (.K (cmp.at s2.1) fun v2=>.R (v2==0)) (.R false) fun b2=>.R (s2.1,b2)) (fun t=>t.elim))
def aC1 (b2:J4)(aG1 aI0:Int):C prog (Int×Int):=.of Z call362 func362 [aM1 b2,.t (tI aG1),.t (tI aI0)] (fun r=>.S9 [.t (tI r.1),.t (tI r.2)]) (
 .D [] []<| .R (o6 ((o6 (aI0-(o6 (da8 (o6 (aI0*b2.H9)) 1024))))+(o6 (da8 (o6 (aG1*b2.E9)) 1024))),o6 ((o6 (aG1+(o6 (da8 (o6 (aI0*b2.H9)) 1024))))-(o6 (da8 (o6 (aG1*b2.E9)) 1024)))))
def aB1 (i:Int)(c:J4)(c2 c3:Int):C prog Int:=.of Z call361 func361 [.t (tI i),.el (bE6 c),.el (aI8 c2),.el (aI8 c3)] (fun r=>.t (tI r)) (
 .K (aC1 c c2 i) fun r2=>.R (o6 (c3-r2.1)))
def aJ7 (b2:J4)(aG1 br8:Int):C prog (Int×Int×Int):=.of Z call311 func311 [aM1 b2,.t (tI aG1),.t (tI br8)] (fun r=>.S9 [.t (tI r.1),.t (tI r.2.1),.t (tI r.2.2)]) (
 .K (aJ8 b2) fun v=>.I (!v) (.R (0,0,1)) (.K (ag4 aG1 0 1073741824) fun v2=>.G (!v2) (.R true) (.K (ag4 br8 0 1048576) fun v3=>.R (!v3)) fun b3=>.I b3 (.R (0,0,2)) (.Z (.fb 3)<| .Z (.fb 4)<| .Z (.fb 5)<| .K (aP9 1048577 (.of (fun z_=>aB1 z_ b2 aG1 br8) 361 [bE6 b2,aI8 aG1,aI8 br8])) fun r2=>.I (decide (r2.1>1048576)) (.R (0,0,9)) (.K (aC1 b2 aG1 r2.1) fun r3=>.I (decide (r3.2>1073741824)) (.R (0,0,9)) (.R (r2.1,r3.2,0))))))
def aP6 (b2:J4)(aG1 aI0:Int):C prog (Int×Int×Int):=.of Z call312 func312 [aM1 b2,.t (tI aG1),.t (tI aI0)] (fun r=>.S9 [.t (tI r.1),.t (tI r.2.1),.t (tI r.2.2)]) (
 .K (aJ8 b2) fun v=>.I (!v) (.R (0,0,1)) (.K (ag4 aG1 0 1073741824) fun v2=>.G (!v2) (.R true) (.K (ag4 aI0 0 1048576) fun v3=>.R (!v3)) fun b3=>.I b3 (.R (0,0,2)) (.K (aC1 b2 aG1 aI0) fun r2=>.I (decide (r2.2>1073741824)) (.R (0,0,9)) (.R (r2.1,r2.2,0)))))
def aG2 (y:Int):C prog Bool:=.of Z call341 func341 [.t (tI y)] (fun r=>.t (tB r)) (
 .K (ag4 y 0 10000) fun v=>.R (!v))
def aC0 (t2:p6)(cb9 D1:Int):C prog (Int×Int):=.of Z call277 func277 [V5 t2,.t (tI cb9),.t (tI D1)] (fun r=>.S9 [.t (tI r.1),.t (tI r.2)]) (
 .K (R9 t2.V6) fun v=>.G (!v) (.R true) (.K (u7 t2.V6.Y (.of (fun z_=>aG2 z_) 341 [])) fun v2=>.R v2) fun b2=>.I b2 (.R (0,1)) (.K (ag4 cb9 0 1048576) fun v3=>.G (!v3) (.R true) (.K (ag4 D1 0 20000) fun v4=>.R (!v4)) fun b3=>.I b3 (.R (0,2)) (.K (au7 t2.V6 D1) fun v5=>.R (v5,0))))
def aP7 (t2:p6)(br8 D1:Int):C prog (Int×Int):=.of Z call313 func313 [V5 t2,.t (tI br8),.t (tI D1)] (fun r=>.S9 [.t (tI r.1),.t (tI r.2)]) (
 .K (aC0 t2 br8 D1) fun r2=>.I ((r2.2 !=0)||(br8==0)) (.R (0,r2.2)) (.K (ao2 br8 3 2) fun r3=>.R (o6 (r2.1+r3.1),r3.2)))
def af6 (s:p7):CG prog p7:=.of Z call232 func232 [.ptr 1000000 0] [(1000000,.box (aw6 (T3 s) [(63,.own 1000001)])),(1000001,.rs 220 7 s.out.N8 C1)] (fun _=>.S9 []) (fun r=>[(1000000,.box (aw6 (T3 r) [(63,.own 1000001)])),(1000001,.rs 220 7 r.out.N8 C1)]) [] (
 .D [] [(27,1000000)]<| .K (az9 s.c.B2 s.i.Lambda s.i.C9 s.u9) fun r2=>.KG (A1 (⟨s.t,s.e,s.b,(⟨s.c.C5,s.c.G6,s.c.R7,r2.1,s.c.H9,s.c.L8⟩:z8),s.i,s.wanted,s.u9,s.X2,s.late,s.pattern,s.time,s.out,s.fail⟩:p7) r2.2) [] fun v=>.D [] []<| .K (ar7 v.c.B2 v.i.C9 v.u9) fun r3=>.KG (A1 v r3.2) [] fun v2=>.K (aU5 v2.u9 1000) fun r4=>.KG (A1 v2 r4.2) [] fun v3=>.D [] []<| .K (aJ7 v3.b v3.c.H9 (J1 1048576 (o6 (da8 (o6 (r4.1*r3.1)) 1000)))) fun r5=>.J0 0 (fun(t:Int×Int×p7)=>[.t 5 (.t (tI t.1)),.t 6 (.t (tI t.2.1)),.x 10,.x 11,.x 12,.x 13,.x 14,.x 16,.x 17,.x 18,.x 19,.x 21,.x 22,.x 23,.x 24,.x 26,.x 27,.x 28,.x 33,.x 34,.x 35,.x 36,.x 40,.x 41,.x 42,.x 43,.x 45,.x 46,.x 47,.x 48,.x 50,.x 51,.x 52,.x 57,.x 61,.x 62,.x 63,.x 68,.x 77,.x 78,.x 79,.x 81,.x 82,.x 83,.x 84,.x 91,.x 92,.x 93,.b 1000000 (.box (aw6 (T3 t.2.2) [(63,.own 1000001)])),.b 1000001 (.rs 220 7 t.2.2.out.N8 C1)]) (.I ((v3.X2==0)||(r5.2.2 !=0)) (.D [] []<| .K (aP6 v3.b v3.c.H9 0) fun r6=>.KG (A1 v3 r6.2.2) [] fun v4=>.R (0,r6.2.1,v4)) (.R (r5.1,r5.2.1,v3))) fun s2=>.I (decide (s2.1>0)) (.D [] []<| .K (aP7 (⟨(⟨s2.2.2.t.Air.X,s2.2.2.t.Air.Y,s2.2.2.t.Air.Z⟩:SMap),(⟨s2.2.2.t.D9.X,s2.2.2.t.D9.Y,s2.2.2.t.D9.Z⟩:SMap),(⟨s2.2.2.t.j9.X,s2.2.2.t.j9.Y,s2.2.2.t.j9.Z⟩:SMap),(⟨s2.2.2.t.R6.X,s2.2.2.t.R6.Y,s2.2.2.t.R6.Z⟩:SMap),(⟨s2.2.2.t.C6.X,s2.2.2.t.C6.Y⟩:A7),(⟨s2.2.2.t.L2.X,s2.2.2.t.L2.Y⟩:A7),(⟨s2.2.2.t.V6.X,s2.2.2.t.V6.Y⟩:A7),(⟨s2.2.2.t.u6.X,s2.2.2.t.u6.Y⟩:A7),(⟨s2.2.2.t.G6.P,s2.2.2.t.G6.I,s2.2.2.t.G6.Low,s2.2.2.t.G6.aC5⟩:ak0)⟩:p6) s2.1 s2.2.2.i.az4) fun r7=>.KG (A1 (⟨(⟨(⟨s2.2.2.t.Air.X,s2.2.2.t.Air.Y,s2.2.2.t.Air.Z⟩:SMap),(⟨s2.2.2.t.D9.X,s2.2.2.t.D9.Y,s2.2.2.t.D9.Z⟩:SMap),(⟨s2.2.2.t.j9.X,s2.2.2.t.j9.Y,s2.2.2.t.j9.Z⟩:SMap),(⟨s2.2.2.t.R6.X,s2.2.2.t.R6.Y,s2.2.2.t.R6.Z⟩:SMap),(⟨s2.2.2.t.C6.X,s2.2.2.t.C6.Y⟩:A7),(⟨s2.2.2.t.L2.X,s2.2.2.t.L2.Y⟩:A7),(⟨s2.2.2.t.V6.X,s2.2.2.t.V6.Y⟩:A7),(⟨s2.2.2.t.u6.X,s2.2.2.t.u6.Y⟩:A7),(⟨s2.2.2.t.G6.P,s2.2.2.t.G6.I,s2.2.2.t.G6.Low,s2.2.2.t.G6.aC5⟩:ak0)⟩:p6),(⟨s2.2.2.e.z7,s2.2.2.e.P0⟩:o7),(⟨s2.2.2.b.O5,s2.2.2.b.N9,s2.2.2.b.ac4,s2.2.2.b.C4,s2.2.2.b.H9,s2.2.2.b.E9,s2.2.2.b.an6⟩:J4),(⟨(⟨s2.2.2.c.C5.Value,s2.2.2.c.C5.O8,s2.2.2.c.C5.ai8⟩:L4),(⟨s2.2.2.c.G6.Sum⟩:B9),s2.2.2.c.R7,(⟨s2.2.2.c.B2.Q8,s2.2.2.c.B2.ay2,s2.2.2.c.B2.P3,s2.2.2.c.B2.av7,s2.2.2.c.B2.Cells⟩:I2),s2.2.1,(⟨s2.2.2.c.L8.j9,s2.2.2.c.L8.I7⟩:N4)⟩:z8),(⟨s2.2.2.i.bo7,s2.2.2.i.bo8,s2.2.2.i.C9,s2.2.2.i.G0,s2.2.2.i.C6,s2.2.2.i.az4,s2.2.2.i.Lambda,s2.2.2.i.ap5,s2.2.2.i.W7,s2.2.2.i.Requests⟩:X5),s2.2.2.wanted,s2.2.2.u9,s2.2.2.X2,s2.2.2.late,s2.2.2.pattern,s2.2.2.time,(⟨s2.2.2.out.C4,s2.2.2.out.N8,s2.2.2.out.j9⟩:J9),s2.2.2.fail⟩:p7) r7.2) [] fun v5=>.K (D7 r7.1 200 20000) fun v6=>.R (⟨v5.t,v5.e,v5.b,v5.c,v5.i,v5.wanted,v5.u9,v5.X2,v5.late,v5.pattern,v6,v5.out,v5.fail⟩:p7)) (.R (⟨(⟨(⟨s2.2.2.t.Air.X,s2.2.2.t.Air.Y,s2.2.2.t.Air.Z⟩:SMap),(⟨s2.2.2.t.D9.X,s2.2.2.t.D9.Y,s2.2.2.t.D9.Z⟩:SMap),(⟨s2.2.2.t.j9.X,s2.2.2.t.j9.Y,s2.2.2.t.j9.Z⟩:SMap),(⟨s2.2.2.t.R6.X,s2.2.2.t.R6.Y,s2.2.2.t.R6.Z⟩:SMap),(⟨s2.2.2.t.C6.X,s2.2.2.t.C6.Y⟩:A7),(⟨s2.2.2.t.L2.X,s2.2.2.t.L2.Y⟩:A7),(⟨s2.2.2.t.V6.X,s2.2.2.t.V6.Y⟩:A7),(⟨s2.2.2.t.u6.X,s2.2.2.t.u6.Y⟩:A7),(⟨s2.2.2.t.G6.P,s2.2.2.t.G6.I,s2.2.2.t.G6.Low,s2.2.2.t.G6.aC5⟩:ak0)⟩:p6),(⟨s2.2.2.e.z7,s2.2.2.e.P0⟩:o7),(⟨s2.2.2.b.O5,s2.2.2.b.N9,s2.2.2.b.ac4,s2.2.2.b.C4,s2.2.2.b.H9,s2.2.2.b.E9,s2.2.2.b.an6⟩:J4),(⟨(⟨s2.2.2.c.C5.Value,s2.2.2.c.C5.O8,s2.2.2.c.C5.ai8⟩:L4),(⟨s2.2.2.c.G6.Sum⟩:B9),s2.2.2.c.R7,(⟨s2.2.2.c.B2.Q8,s2.2.2.c.B2.ay2,s2.2.2.c.B2.P3,s2.2.2.c.B2.av7,s2.2.2.c.B2.Cells⟩:I2),s2.2.1,(⟨s2.2.2.c.L8.j9,s2.2.2.c.L8.I7⟩:N4)⟩:z8),(⟨s2.2.2.i.bo7,s2.2.2.i.bo8,s2.2.2.i.C9,s2.2.2.i.G0,s2.2.2.i.C6,s2.2.2.i.az4,s2.2.2.i.Lambda,s2.2.2.i.ap5,s2.2.2.i.W7,s2.2.2.i.Requests⟩:X5),s2.2.2.wanted,s2.2.2.u9,s2.2.2.X2,s2.2.2.late,s2.2.2.pattern,s2.2.2.time,(⟨s2.2.2.out.C4,s2.2.2.out.N8,s2.2.2.out.j9⟩:J9),s2.2.2.fail⟩:p7)))
def aB2 (k:D0):C prog Bool:=.of Z call363 func363 [aX4 k] (fun r=>.t (tB r)) (
 .K (ax5 k) fun v=>.R (!v))
def aG4 (n2:Int):C prog Bool:=.of Z call364 func364 [.t (tI n2)] (fun r=>.t (tB r)) (
 .K (ai5 n2) fun v=>.R (!v))
def af4 (s:List D0):CG prog (List D0):=.of Z call365 func365 [.t (tS K5 s)] [] (fun _=>.own 900000) (fun r=>[(900000,.rs 233 3 r K5)]) [900000] (
 .Nl K5 s (.I true (.Z (.np 2 70000 233 3 [])<| .R ([]:List D0)) .N) (fun s=>.I false .N (.U (.ap K5 ([]:List D0) s 5) fun l=>.R l)))
def aI1 (k:D0)(n2:Int):C prog (D0×Bool):=.of Z call366 func366 [aX4 k,.t (tI n2)] (fun r=>.S9 [aX4 r.1,.t (tB r.2)]) (
 .I (decide (n2>(o6 ((o6 (3*k.aI6))+40)))) (.R ((⟨J1 (o6 (k.au3+96)) 960,k.aI6,0⟩:D0),true)) (.J0 0 (fun(t:Int×Int)=>[.x 7,.x 19,.x 22,.x 23,.b 2 (.box [.t (tI t.1),.t (tI k.aI6),.t (tI t.2)])]) (.I ((o6 (k.Quiet+1))==100) (.R (K2 (o6 (k.au3-16)) 0,0)) (.R (k.au3,o6 (k.Quiet+1)))) fun s=>.D [] []<| .K (Y3 (o6 (n2-k.aI6)) 8) fun v=>.R ((⟨s.1,o6 (k.aI6+v),s.2⟩:D0),false)))
def aM9 (l:List D0)(ah0:List Int)(i:Int)(f2:List D0):M prog (List D0×Int) (Fl (List D0) Empty):=
 .D [] [(15,2240)]<| .O (.ix K5 l i) fun x=>.O (.ix aI8 ah0 i) fun x2=>.K (aI1 x x2) fun r2=>.O (.ix K5 f2 i) fun _=>.U (.st K5 f2 i r2.1 0) fun l2=>.R (.next l2)
def aU8 (l:List D0)(ah0:List Int):C prog (List D0×Int):=.of Z call314 func314 [.t (tS K5 l),.t (tS aI8 ah0)] (fun r=>.S9 [.t (tS K5 r.1),.t (tI r.2)]) (
 .G (((decide ((l.length:Int)<1))||(decide ((l.length:Int)>8)))||((ah0.length:Int) !=(l.length:Int))) (.R true) (.K (K8 l (.of (fun z_=>aB2 z_) 363 [])) fun v=>.R v) fun b2=>.I b2 (.R (([]:List D0),1)) (.K (u7 ah0 (.of (fun z_=>aG4 z_) 364 [])) fun v2=>.I v2 (.R (([]:List D0),2)) (.KG (af4 l) [2240] fun v3=>M.QN (v3.length:Int) 2 33 (fun(t:List D0)=>[.x 30,.x 31,.b 2240 (.rs 233 3 t K5)]) 0 (.e) (aM9 l ah0) v3 (fun f3=>.R (f3,0)) (fun t=>t.elim))))
def aB3 (a b2:Int):C prog Int:=.of Z call416 func416 [.t (tI a),.t (tI b2)] (fun r=>.t (tI r)) (
 .R (o6 (b2-a)))
def aH3 (l:List Int):C prog Bool:=.of Z call393 func393 [.t (tS aI8 l)] (fun r=>.t (tB r)) (
 .K (J5 l (.of (fun z_=>aB3 z_.1 z_.2) 416 [])) fun v=>.R v)
def T2 (x low high:Int):C prog Bool:=.of Z call368 func368 [.t (tI x),.t (tI low),.t (tI high)] (fun r=>.t (tB r)) (
 .R ((decide (x>=low))&&(decide (x<=high))))
def au1 (x c c2:Int):C prog Bool:=.of Z call417 func417 [.t (tI x),.el (aI8 c),.el (aI8 c2)] (fun r=>.t (tB r)) (
 .K (T2 x c c2) fun v=>.R (!v))
def af0 (l:List Int)(low high:Int):C prog Bool:=.of Z call395 func395 [.t (tS aI8 l),.t (tI low),.t (tI high)] (fun r=>.t (tB r)) (
 .Z (.fb 4)<| .Z (.fb 5)<| .K (u7 l (.of (fun z_=>au1 z_ low high) 417 [aI8 low,aI8 high])) fun v=>.R v)
def aw8 (l:List Int):C prog Bool:=.of Z call394 func394 [.t (tS aI8 l)] (fun r=>.t (tB r)) (
 .K (af0 l (-1280) 3840) fun v=>.R v)
def ay1 (t2:p6):C prog Bool:=.of Z call367 func367 [V5 t2] (fun r=>.t (tB r)) (
 .K (L0 t2.D9) fun v=>.G (!v) (.R true) (.K (R9 t2.L2) fun v2=>.R (!v2)) fun b2=>.G b2 (.R true) (.K (R9 t2.u6) fun v3=>.R (!v3)) fun b3=>.G b3 (.R true) (.K (aH3 t2.u6.Y) fun v4=>.R (!v4)) fun b4=>.I b4 (.R false) (.K (H2 t2.D9.Z (.of (fun z_=>aw8 z_) 394 [])) fun v5=>.G (!v5) (.K (af0 t2.L2.Y 500 10000) fun v6=>.R (!v6)) (.R false) fun b5=>.G b5 (.K (af0 t2.u6.Y 0 1000) fun v7=>.R (!v7)) (.R false) fun b6=>.R b6))
def aH2 (t2:p6)(D1 O3:Int):C prog (Int×Int):=.of Z call315 func315 [V5 t2,.t (tI D1),.t (tI O3)] (fun r=>.S9 [.t (tI r.1),.t (tI r.2)]) (
 .K (ay1 t2) fun v=>.I (!v) (.R (0,1)) (.K (T2 D1 0 20000) fun v2=>.G (!v2) (.R true) (.K (T2 O3 4000 1000000) fun v3=>.R (!v3)) fun b2=>.I b2 (.R (0,2)) (.K (au7 t2.L2 D1) fun v4=>.R (J1 v4 (o6 (da8 (o6 (3*O3)) 4)),0))))
def aN8 (t2:p6)(u0 u9:Int):C prog (Int×Int):=.of Z call369 func369 [V5 t2,.t (tI u0),.t (tI u9)] (fun r=>.S9 [.t (tI r.1),.t (tI r.2)]) (
 .K (ay1 t2) fun v=>.I (!v) (.R (0,1)) (.K (T2 u0 0 12000) fun v2=>.G (!v2) (.R true) (.K (T2 u9 0 1048576) fun v3=>.R (!v3)) fun b2=>.I b2 (.R (0,2)) (.K (aa9 t2.D9 u0 u9) fun v4=>.R (v4,0))))
def aH1 (t2:p6)(u0 u9 B0 bk6:Int):C prog (Int×Int):=.of Z call316 func316 [V5 t2,.t (tI u0),.t (tI u9),.t (tI B0),.t (tI bk6)] (fun r=>.S9 [.t (tI r.1),.t (tI r.2)]) (
 .K (aN8 t2 u0 u9) fun r2=>.I (r2.2 !=0) (.R (0,r2.2)) (.K (T2 B0 (-40) 150) fun v=>.G (!v) (.R true) (.K (T2 bk6 0 1280) fun v2=>.R (!v2)) fun b2=>.I b2 (.R (0,2)) (.I (decide (B0<20)) (.K (D7 (o6 ((o6 (r2.1+(o6 (2*(o6 (20-B0))))))-bk6)) (-1280) 3840) fun v3=>.R (v3,0)) (.I (decide (B0>100)) (.K (D7 (o6 ((o6 (r2.1-(o6 (8*(o6 (B0-100))))))-bk6)) (-1280) 3840) fun v4=>.R (v4,0)) (.K (D7 (o6 (r2.1-bk6)) (-1280) 3840) fun v5=>.R (v5,0))))))
def af5 (r3:Int×Int)(i:Int)(f2:p7):M prog p7 (Fl p7 Empty):=
 .D [] []<| .O (.ix K5 f2.c.R7 i) fun x=>.K (aH1 f2.t f2.i.C9 f2.u9 f2.i.ap5 x.au3) fun r4=>.KG (A1 f2 r4.2) [] fun v4=>.O (.ix Pv.dF7 v4.pattern i) fun x2=>.J0 0 (fun(t:Int)=>[.x 70,.x 71,.x 72,.x 74,.x 75,.x 76,.x 77,.x 79,.x 80,.x 81,.x 83,.x 84,.x 85,.x 86,.x 88,.x 89,.x 90,.x 91,.x 100,.x 106,.x 107,.x 108,.x 115,.x 116,.x 117,.c 8 4 [.t (tI t)]]) (.I x2 (.R v4.time) (.R 0)) fun f3=>.Pn 40000<| .D [] [(8,40000)]<| .U (.ap C1 v4.out.N8 ([(⟨o6 (i+1),K2 (-1280) (o6 (r4.1-v4.late)),K2 500 r3.1,5760,f3,0,0⟩:A6)]:List A6) 40000) fun l=>.R (.next (⟨v4.t,v4.e,v4.b,v4.c,v4.i,v4.wanted,v4.u9,v4.X2,v4.late,v4.pattern,v4.time,(⟨v4.out.C4,l,v4.out.j9⟩:J9),v4.fail⟩:p7))
def ac5 (s:p7):CG prog p7:=.of Z call233 func233 [.ptr 1000000 0] [(1000000,.box (aw6 (T3 s) [(63,.own 1000001)])),(1000001,.rs 220 7 s.out.N8 C1)] (fun _=>.S9 []) (fun r=>[(900000,.rs 220 7 r.out.N8 C1),(1000000,.box (aw6 (T3 r) [(63,.own 900000)]))]) [900000] (
 .D [] [(18,1000000)]<| .K (aU8 s.c.R7 s.i.W7) fun r2=>.KG (A1 (⟨s.t,s.e,s.b,(⟨s.c.C5,s.c.G6,r2.1,s.c.B2,s.c.H9,s.c.L8⟩:z8),s.i,s.wanted,s.u9,s.X2,s.late,s.pattern,s.time,s.out,s.fail⟩:p7) r2.2) [] fun v=>.O (.quo .i64 60000000 (K2 1 v.i.C9)) fun q=>.K (D7 q 4000 1000000) fun v2=>.D [] []<| .K (aH2 v.t v.i.az4 v2) fun r3=>.KG (A1 v r3.2) [] fun v3=>.I (v3.fail !=0) (.R v3) (.Z (.rn [(1000001,40000)])<|M.QN (v3.e.z7.length:Int) 2 66 (fun(t:p7)=>[.x 10,.x 11,.x 12,.x 13,.x 14,.x 16,.x 17,.x 18,.x 19,.x 24,.x 25,.x 26,.x 27,.x 30,.x 31,.x 32,.x 33,.x 39,.x 40,.x 41,.x 43,.x 44,.x 45,.x 46,.x 52,.x 55,.x 56,.x 57,.x 60,.x 61,.x 62,.x 63,.b 40000 (.rs 220 7 t.out.N8 C1),.b 1000000 (.box (aw6 (T3 t) [(63,.own 40000)]))]) 0 (.e) (af5 r3) v3 (fun f4=>.R f4) (fun t=>t.elim)))
set_option maxHeartbeats 4000000
def aF6 (t2:p6)(e2:o7)(b2:J4)(c:z8)(i:X5):CG prog (z8×J9×Int):=.of Z call160 func160 [V5 t2,av0 e2,aM1 b2,aR0 c,cZ0 i] [] (fun r=>.S9 [aR0 r.1,.agg [.t (tI r.2.1.C4),.own 900000,.t (tI r.2.1.j9)],.t (tI r.2.2)]) (fun r=>[(900000,.rs 220 7 r.2.1.N8 C1)]) [900000] (
 .K (ae2 t2) fun v=>.G (!v) (.R true) (.K (ak5 b2) fun v2=>.R (!v2)) fun b3=>.G b3 (.R true) (.K (ar1 e2 c) fun v3=>.R (!v3)) fun b4=>.I b4 (.Z (.nb 11 70000 220 7 [1])<| .R ((⟨(⟨0,0,false⟩:L4),(⟨0⟩:B9),([]:List D0),(⟨false,false,0,0,([]:List ad1)⟩:I2),0,(⟨0,0⟩:N4)⟩:z8),(⟨0,([]:List A6),0⟩:J9),1)) (.K (aw2 i (e2.z7.length:Int)) fun v4=>.I (!v4) (.Z (.nb 11 70000 220 7 [1])<| .R ((⟨(⟨0,0,false⟩:L4),(⟨0⟩:B9),([]:List D0),(⟨false,false,0,0,([]:List ad1)⟩:I2),0,(⟨0,0⟩:N4)⟩:z8),(⟨0,([]:List A6),0⟩:J9),2)) (.Z (.nb 46 2388 220 7 [63])<| .KG (Z8 (⟨t2,e2,b2,c,i,0,0,0,0,([]:List Bool),0,(⟨0,([]:List A6),0⟩:J9),0⟩:p7)) [] fun v5=>.KG (W5 v5) [] fun v6=>.KG (ac6 v6) [] fun v7=>.KG (af6 v7) [] fun v8=>.KG (ac5 v8) [2448] fun v9=>.I (v9.fail !=0) (.D [] [(6,10),(7,11)]<| .Z (.nb 11 70000 220 7 [1])<| .R ((⟨(⟨0,0,false⟩:L4),(⟨0⟩:B9),([]:List D0),(⟨false,false,0,0,([]:List ad1)⟩:I2),0,(⟨0,0⟩:N4)⟩:z8),(⟨0,([]:List A6),0⟩:J9),v9.fail)) (.D [] [(8,10)]<| .R (v9.c,v9.out,0)))))
def bz3 (old:z8):C prog z8:=.of Z call161 func161 [aR0 old] (fun r=>.fz 234 [ca4 r]) (
 .Z (.fb 1)<| .R old)
def bE4 (old:J9):C prog J9:=.of Z call162 func162 [dC1 old] (fun r=>.fz 235 [cm3 r]) (
 .Z (.fb 1)<| .R old)
def bq4 (V0:z8)(e2:Int)(c:z8):C prog z8:=.of Z call234 func234 [aR0 V0,.t (tI e2),.el (ca4 c)] (fun r=>aR0 r) (
 .I (e2 !=0) (.R c) (.R V0))
def bu9 (V0:J9)(e2:Int)(c:J9):CG prog J9:=.of Z call235 func235 [.agg [.t (tI V0.C4),.own 1000000,.t (tI V0.j9)],.t (tI e2),.el (cm3 c)] [(1000000,.rs 220 7 V0.N8 C1)] (fun r=>.agg [.t (tI r.C4),.own 900000,.t (tI r.j9)]) (fun r=>[(900000,.rs 220 7 r.N8 C1)]) [900000] (
 .I (e2 !=0) (M.N) (.R V0))
def aT8 (s:o8):CG prog o8:=.of Z call94 func94 [.ptr 1000000 0] [(1000000,.box (aw6 (I0 s) [(107,.own 1000001),(113,.own 1000002)])),(1000001,.rs 220 7 s.A4.N8 C1),(1000002,.rs 203 3 s.u4 y9)] (fun _=>.S9 []) (fun r=>[(900000,.rs 220 7 r.A4.N8 C1),(1000000,.box (aw6 (I0 r) [(107,.own 900000),(113,.own 1000002)])),(1000002,.rs 203 3 r.u4 y9)]) [900000] (
 .D [] []<| .K (Q2 s 0) fun v=>.K (Q2 s 1) fun v2=>.Mk aI8 (s.u.c8.o9.z7.length:Int) 0 fun l=>.K (bj1 s) fun v3=>.Z (.fr 40)<| .Z (.fr 43)<| .D [] [(17,2504),(24,4),(25,5)]<| .KG (aF6 s.u.j3 s.u.c8.o9 s.u.E7 s.u.j4 (⟨v,v2,s.u0,s.A3,s.ak8,13500,s.V3,s.B0,l,([v3]:List j6)⟩:X5)) [2504] fun r2=>.D [] []<| .K (bz3 s.u.j4) fun v4=>.K (bq4 (⟨(⟨r2.1.C5.Value,r2.1.C5.O8,r2.1.C5.ai8⟩:L4),(⟨r2.1.G6.Sum⟩:B9),r2.1.R7,(⟨r2.1.B2.Q8,r2.1.B2.ay2,r2.1.B2.P3,r2.1.B2.av7,r2.1.B2.Cells⟩:I2),r2.1.H9,(⟨r2.1.L8.j9,r2.1.L8.I7⟩:N4)⟩:z8) r2.2.2 v4) fun v5=>.Pn 2504<| .D [] [(5,2504)]<| .K (bE4 (⟨0,([]:List A6),0⟩:J9)) fun v6=>.KG (bu9 r2.2.1 r2.2.2 v6) [2504] fun v7=>.R (⟨(⟨s.u.j3,v5,s.u.c8,s.u.D8,s.u.D3,s.u.B4,s.u.H4,s.u.H7,s.u.G1,s.u.C7,s.u.u3,s.u.E7,s.u.Time⟩:Y9),s.d,s.k,s.t,s.u0,s.X6,s.Y5,s.A3,s.ak8,s.B0,s.V3,v7,s.G2,s.u9,s.known,s.cut,s.u4,s.J7⟩:o8))
def X0 (r2:j6):C prog Bool:=.of Z call239 func239 [I3 r2] (fun r=>.t (tB r)) (
 .K (V1 r2) fun v=>.R (!v))
def ar9 (bo9:List Int)(x i below:Int):M prog (Int×Int) (Fl Int Empty):=
 .O (.ix aI8 bo9 i) fun x2=>.I (decide (x2<=x)) (.R (.next i)) (.R (.next below))
def af9 (bo9:List Int)(x:Int)(s:Int×Int):M prog (Int×Int) ((Int×Int)⊕((Int×Int)⊕Empty)):=
 .I (decide (s.1>=0)) (.O (.ix aI8 bo9 s.1) fun x3=>.I (decide (x3>=x)) (.R (.inl (o6 (s.1-1),s.1))) (.R (.inl (o6 (s.1-1),s.2)))) (.R (.inr (.inl (s.1,s.2))))
def ah3 (bo9:List Int)(x:Int):C prog (Int×Int):=.of Z call319 func319 [.t (tS aI8 bo9),.t (tI x)] (fun r=>.S9 [.t (tI r.1),.t (tI r.2)]) (
 M.QN (bo9.length:Int) 2 11 (fun(t:Int)=>[.t 4 (.t (tI t))]) 0 (.e) (ar9 bo9 x) 0 (fun cK5=>.L (fun(t:Int×Int)=>[.t 5 (.t (tI t.2)),.t 8 (.t (tI t.1))]) 2 (.e) (af9 bo9 x) (o6 ((bo9.length:Int)-1),o6 ((bo9.length:Int)-1)) (fun s2=>.O (.ix aI8 bo9 0) fun x4=>.I (decide (x<x4)) (.R (cK5,0)) (.R (cK5,s2.2))) (fun t=>t.elim)) (fun t=>t.elim))
def aa5 (m2:SMap)(x y:Int):C prog Int:=.of Z call241 func241 [dg8 m2,.t (tI x),.t (tI y)] (fun r=>.t (tI r)) (
 .K (ah3 m2.X x) fun r2=>.K (ah3 m2.Y y) fun r3=>.D [] []<| .O (.ix (dn9 aI8) m2.Z r2.1) fun x2=>.O (.ix aI8 x2 r3.1) fun x3=>.W (.hx 1)<| .O (.ix aI8 x2 r3.2) fun x4=>.O (.ix (dn9 aI8) m2.Z r2.2) fun x5=>.O (.ix aI8 x5 r3.1) fun x6=>.W (.hx 1)<| .O (.ix aI8 x5 r3.2) fun x7=>.R (K2 (K2 (K2 x3 x4) x6) x7))
def ax8 (r2:j6):C prog Bool:=.of Z call242 func242 [I3 r2] (fun r=>.t (tB r)) (
 .R ((r2.Kind==2)||(r2.Kind==3)))
def ah1 (_:Int)(x:j6)(s:Int×Int):M prog (Int×Int) (Fl (Int×Int) Empty):=
 .W (.hx 0)<| .K (ax8 x) fun v6=>.I (!v6) (.R (.next (s.1,s.2))) (.I (x.I7==1) (.R (.next (K2 s.1 (J1 x.j9 1500),K2 s.2 x.G5))) (.R (.next (s.1,K2 s.2 x.G5))))
def ah2 (s2:Int×Int)(_:Int)(x2:j6)(Y5:Int):M prog (Int×Int) (Fl Int Empty):=
 .W (.hx 0)<| .I ((x2.Kind==1)&&(decide (x2.G5>s2.2))) (.R (.next (J1 Y5 x2.j9))) (.R (.next Y5))
def af8 (t2:p6)(bg4 u0:Int)(l:List j6):C prog (Int×Int):=.of Z call164 func164 [V5 t2,.t (tI bg4),.t (tI u0),.t (tS E4 l)] (fun r=>.S9 [.t (tI r.1),.t (tI r.2)]) (
 .K (L0 t2.R6) fun v=>.G (!v) (.R true) (.K (F5 l (.of (fun z_=>X0 z_) 239 [])) fun v2=>.R v2) fun b2=>.I b2 (.R (0,1)) (.I (decide ((l.length:Int)>32)) (.R (0,5)) (.K (O7 bg4 0 1000) fun v3=>.G (!v3) (.R true) (.K (O7 u0 0 12000) fun v4=>.R (!v4)) fun b3=>.I b3 (.R (0,2)) (.K (aa5 t2.R6 u0 bg4) fun v5=>M.Q E4 l 2 49 (fun(t:Int×Int)=>[.t 11 (.t (tI t.1)),.t 12 (.t (tI t.2)),.x 4,.x 19,.x 40,.d 4]) 1 (.e) (ah1) ((-5000),(-1)) (fun s2=>M.Q E4 l 2 71 (fun(t:Int)=>[.t 15 (.t (tI t))]) 3 (.e) (ah2 s2) 10000 (fun dH3=>.R (o6 ((K2 0 (J1 dH3 (K2 (J1 (K2 v5 (-5000)) 10000) s2.1)))+100),0)) (fun t=>t.elim)) (fun t=>t.elim)))))
def ar8 (_:Int)(x:A6)(n2:Int):M prog (Int×Int) (Fl Int Empty):=
 .W (.hx 0)<| .I (x.ag3 !=0) (.R (.next (o6 (n2+1)))) (.R (.next n2))
def ax7 (t2:p6)(u0 u9:Int)(l:List A6):C prog (Int×Int):=.of Z call167 func167 [V5 t2,.t (tI u0),.t (tI u9),.t (tS C1 l)] (fun r=>.S9 [.t (tI r.1),.t (tI r.2)]) (
 .K (L0 t2.j9) fun v=>.I (!v) (.R (0,1)) (.I (decide ((l.length:Int)>8)) (.R (0,5)) (.K (O7 u0 0 12000) fun v2=>.G (!v2) (.R true) (.K (O7 u9 0 1048576) fun v3=>.R (!v3)) fun b2=>.I b2 (.R (0,2)) (.I ((l.length:Int)==0) (.R (0,0)) (M.Q C1 l 2 38 (fun(t:Int)=>[.t 10 (.t (tI t)),.x 15]) 1 (.e) (ar8) 0 (fun n3=>.K (aa5 t2.j9 u0 u9) fun v4=>.O (.quo .i64 (o6 ((o6 ((o6 ((J1 (K2 v4 0) 10000)*n3))+(l.length:Int)))-1)) (l.length:Int)) fun q=>.R (q,0)) (fun t=>t.elim))))))
def aM7 (c:o8):CG prog Int:=.of Z call166 func166 [.ptr 1000000 0] [(1000000,.box [.ptr 1000001 0]),(1000001,.box (aw6 (I0 c) [(107,.own 1000002),(113,.own 1000003)])),(1000002,.rs 220 7 c.A4.N8 C1),(1000003,.rs 203 3 c.u4 y9)] (fun r=>.t (tI r)) (fun _=>[(1000000,.box [.ptr 1000001 0]),(1000001,.box (aw6 (I0 c) [(107,.own 1000002),(113,.own 1000003)])),(1000002,.rs 220 7 c.A4.N8 C1),(1000003,.rs 203 3 c.u4 y9)]) [] (
 .D [] []<| .K (ax7 c.u.j3 c.u0 c.u9 c.A4.N8) fun r2=>.R r2.1)
def bR5 (old:U0):C prog U0:=.of Z call169 func169 [bm3 old] (fun r=>.fz 244 [cO4 r]) (
 .Z (.fb 1)<| .R old)
def bw1 (t2:Int):C prog Bool:=.of Z call245 func245 [.t (tI t2)] (fun r=>.t (tB r)) (
 .K (O7 t2 (-20000) 20000) fun v=>.R v)
def br9 (g:U0)(G2 dD0:Int):C prog (U0×Int):=.of Z call170 func170 [bm3 g,.t (tI G2),.t (tI dD0)] (fun r=>.S9 [bm3 r.1,.t (tI r.2)]) (
 .K (aY3 g) fun v=>.I (!v) (.R ((⟨0,0,false⟩:U0),1)) (.K (bw1 G2) fun v2=>.G (!v2) (.R true) (.K (bw1 dD0) fun v3=>.R (!v3)) fun b2=>.I b2 (.R ((⟨0,0,false⟩:U0),2)) (.I (decide (dD0>G2)) (.R ((⟨J1 5 (o6 (g.Over+1)),0,(g.Off||((J1 5 (o6 (g.Over+1)))==5))⟩:U0),0)) (.R ((⟨0,J1 1000 (o6 (g.Calm+1)),g.Off⟩:U0),0)))))
def bi9 (V0:U0)(e2:Int)(c:U0):C prog U0:=.of Z call244 func244 [bm3 V0,.t (tI e2),.el (cO4 c)] (fun r=>bm3 r) (
 .I (e2 !=0) (.R c) (.R V0))
def aW4 (i:Int)(f3:List A6):M prog o8 (Fl (List A6) Empty):=
 .O (.ix C1 f3 i) fun x=>.U (.st C1 f3 i (⟨x.w9,x.D9,x.L2,x.End,0,x.Gap,x.Extra⟩:A6) 0) fun l2=>.R (.next l2)
def aT9 (s:o8):CG prog o8:=.of Z call95 func95 [.ptr 1000000 0] [(1000000,.box (aw6 (I0 s) [(107,.own 1000001),(113,.own 1000002)])),(1000001,.rs 220 7 s.A4.N8 C1),(1000002,.rs 203 3 s.u4 y9)] (fun _=>.S9 []) (fun r=>[(1000000,.box (aw6 (I0 r) [(107,.own 1000001),(113,.own 1000002)])),(1000001,.rs 220 7 r.A4.N8 C1),(1000002,.rs 203 3 r.u4 y9)]) [] (
 .K (bj1 s) fun v=>.D [] []<| .K (ax3 s.u.j4.C5.Value s.u0 s.B0) fun v2=>.J0 0 (fun(t:List j6)=>[.t 2 (.own 11),.x 0,.x 9,.x 11,.x 12,.x 13,.x 14,.x 15,.x 16,.x 17,.x 20,.x 21,.x 22,.x 24,.x 25,.x 26,.b 11 (.rs 259 4 t E4)]) (.I v2 (.U (.ap E4 ([v]:List j6) ([(⟨1,2,1500,1⟩:j6)]:List j6) 11) fun l=>.R l) (.R ([v]:List j6))) fun f2=>.D [] [(18,1000000)]<| .K (af8 s.u.j3 s.u.j4.C5.Value s.u0 f2) fun r2=>.D [] [(24,1000000)]<| .K (aC7 s.u.j3 s.u0 s.A3 s.ak8) fun r3=>.KG (aM7 (⟨s.u,s.d,s.k,s.t,s.u0,s.X6,s.Y5,s.A3,s.ak8,s.B0,s.V3,s.A4,r2.1,r3.1,s.known,s.cut,s.u4,s.J7⟩:o8)) [] fun v3=>.K (aF0 (⟨s.u,s.d,s.k,s.t,s.u0,s.X6,s.Y5,s.A3,s.ak8,s.B0,s.V3,s.A4,r2.1,r3.1,s.known,s.cut,s.u4,s.J7⟩:o8) 7) fun r4=>.J0 0 (fun(t:Int×Bool×List A6)=>[.t 5 (.t (tI t.1)),.x 2,.x 4,.x 34,.x 35,.x 36,.x 37,.x 38,.x 41,.x 42,.x 43,.x 45,.x 49,.x 50,.x 52,.x 53,.x 54,.x 55,.x 56,.x 58,.x 59,.x 60,.x 62,.x 63,.x 64,.x 66,.x 67,.x 68,.x 73,.x 74,.x 75,.x 76,.x 79,.x 84,.x 85,.x 86,.c 1000000 112 [.t (tB t.2.1)],.b 1000001 (.rs 220 7 t.2.2 C1),.d 11]) (.I ((decide (v3>r2.1))&&(!r4.2)) (M.QN (s.A4.N8.length:Int) 2 102 (fun(t:List A6)=>[.x 2,.x 34,.x 35,.x 36,.x 37,.x 38,.x 41,.x 42,.x 43,.x 45,.x 49,.x 50,.x 52,.x 53,.x 54,.x 55,.x 56,.x 58,.x 59,.x 60,.x 62,.x 63,.x 64,.x 66,.x 67,.x 68,.x 73,.x 74,.x 75,.x 76,.x 79,.x 84,.x 85,.x 86,.x 93,.x 94,.x 95,.x 96,.x 97,.x 98,.x 99,.x 100,.b 1000001 (.rs 220 7 t C1),.d 11]) 0 (.e) (aW4) s.A4.N8 (fun f4=>.KG (aM7 (⟨s.u,s.d,s.k,s.t,s.u0,s.X6,s.Y5,s.A3,s.ak8,s.B0,s.V3,(⟨s.A4.C4,f4,s.A4.j9⟩:J9),r2.1,r3.1,s.known,true,s.u4,s.J7⟩:o8)) [] fun v4=>.R (v4,true,f4)) (fun t=>t.elim)) (.R (v3,s.cut,s.A4.N8))) fun s2=>.D [] []<| .K (bR5 s.u.H4) fun v5=>.K (br9 s.u.H4 r2.1 s2.1) fun r5=>.K (bi9 r5.1 r5.2 v5) fun v6=>.R (⟨(⟨s.u.j3,s.u.j4,s.u.c8,s.u.D8,s.u.D3,s.u.B4,v6,s.u.H7,s.u.G1,s.u.C7,s.u.u3,s.u.E7,s.u.Time⟩:Y9),s.d,s.k,s.t,s.u0,s.X6,s.Y5,s.A3,s.ak8,s.B0,s.V3,(⟨s.A4.C4,s2.2.2,s.A4.j9⟩:J9),r2.1,r3.1,s.known,s2.2.1,s.u4,s.J7⟩:o8))
def aa1 (a b2:Int):C prog Int:=.of Z call171 func171 [.t (tI a),.t (tI b2)] (fun r=>.t (tI r)) (
 .I ((b2==0)||(b2==(-1))) (.R 0) (.O (.rem a b2) fun q=>.I ((q !=0)&&(!((decide (q<0))==(decide (b2<0))))) (.R (o6 (q+b2))) (.R q)))
def cx7 (n2:Int):C prog Bool:=.of Z call248 func248 [.t (tI n2)] (fun r=>.t (tB r)) (
 .R ((decide (n2>=0))&&(decide (n2<=65535))))
def dm6 (p2:Int):C prog Bool:=.of Z call322 func322 [.t (tI p2)] (fun r=>.t (tB r)) (
 .K (cx7 p2) fun v=>.R (!v))
def bL0 (l:List Int):C prog Bool:=.of Z call246 func246 [.t (tS aI8 l)] (fun r=>.t (tB r)) (
 .G ((decide ((l.length:Int)>=1))&&(decide ((l.length:Int)<=16))) (.K (u7 l (.of (fun z_=>dm6 z_) 322 [])) fun v=>.R (!v)) (.R false) fun b2=>.R b2)
def bT6 (_ x a:Int):M prog (Int×Int) (Fl Int Empty):=
 .W (.hx 0)<| .R (.next (V8 .i64 (o6 ((o6 ((o6 (5*a))+x))+1)) 65535))
def bo1 (n2:Int)(l:List Int):C prog (Int×Int):=.of Z call172 func172 [.t (tI n2),.t (tS aI8 l)] (fun r=>.S9 [.t (tI r.1),.t (tI r.2)]) (
 .K (bL0 l) fun v=>.I (!v) (.R (0,1)) (.K (aY5 n2) fun v2=>.I (!v2) (.R (0,2)) (M.Q aI8 l 2 18 (fun(t:Int)=>[.t 6 (.t (tI t))]) 0 (.e) (bT6) n2 (fun a2=>.R (a2,0)) (fun t=>t.elim))))
def bl3 (old:W3):C prog W3:=.of Z call173 func173 [aT3 old] (fun r=>.fz 247 [dc0 r]) (
 .Z (.fb 1)<| .R old)
def cT0 (q:W3)(right:Bool):C prog W3:=.of Z call249 func249 [aT3 q,.t (tB right)] (fun r=>aT3 r) (
 .J0 0 (fun(t:Int)=>[.x 5,.x 6,.c 2 2 [.t (tI t)]]) (.I right (.R (K2 (o6 (q.U7-1)) 0)) (.R (J1 (o6 (q.U7+2)) 7))) fun f2=>.R (⟨q.Question,0,f2,false,(f2==7)⟩:W3))
def bK9 (q:W3)(now answer:Int)(l:List Int):C prog (W3×Int):=.of Z call174 func174 [aT3 q,.t (tI now),.t (tI answer),.t (tS aI8 l)] (fun r=>.S9 [aT3 r.1,.t (tI r.2)]) (
 .K (bk0 q) fun v=>.G (!v) (.R true) (.K (bL0 l) fun v2=>.R (!v2)) fun b2=>.I b2 (.R ((⟨0,0,0,false,false⟩:W3),1)) (.K (bs2 now) fun v3=>.G (!v3) (.R true) (.K (cx7 answer) fun v4=>.R (!v4)) fun b3=>.I b3 (.R ((⟨0,0,0,false,false⟩:W3),2)) (.I (!q.Open) (.R ((⟨0,0,0,false,false⟩:W3),6)) (.I (decide (now<q.an5)) (.R ((⟨0,0,0,false,false⟩:W3),16)) (.K (bo1 q.Question l) fun r2=>.K (cT0 q (((r2.1==answer)&&(decide ((o6 (now-q.an5))>=10000)))&&(decide ((o6 (now-q.an5))<=20000)))) fun v5=>.R (v5,0))))))
def cx6 (n2:Int):C prog Int:=.of Z call250 func250 [.t (tI n2)] (fun r=>.t (tI r)) (
 .K (aY5 n2) fun v=>.I (!v) (.R 0) (.I ((V8 .i64 n2 1)==1) (.R (dE0 .i64 (F1 .i64 n2 1) 46080)) (.R (F1 .i64 n2 1))))
def cS8 (q:W3)(now:Int):C prog (W3×Int×Int):=.of Z call175 func175 [aT3 q,.t (tI now)] (fun r=>.S9 [aT3 r.1,.t (tI r.2.1),.t (tI r.2.2)]) (
 .K (bk0 q) fun v=>.I (!v) (.R ((⟨0,0,0,false,false⟩:W3),0,1)) (.K (bs2 now) fun v2=>.I (!v2) (.R ((⟨0,0,0,false,false⟩:W3),0,2)) (.I (q.Open||q.Off) (.R ((⟨0,0,0,false,false⟩:W3),0,6)) (.K (cx6 q.Question) fun v3=>.D [] [(3,4)]<| .R ((⟨v3,now,q.U7,true,q.Off⟩:W3),v3,0)))))
def aO8 (V0:W3)(e2:Int)(c:W3):C prog W3:=.of Z call247 func247 [aT3 V0,.t (tI e2),.el (dc0 c)] (fun r=>aT3 r) (
 .I (e2 !=0) (.R c) (.R V0))
def br5 (s:o8):CG prog o8:=.of Z call96 func96 [.ptr 1000000 0] [(1000000,.box (aw6 (I0 s) [(113,.own 1000001)])),(1000001,.rs 203 3 s.u4 y9)] (fun _=>.S9 []) (fun r=>[(1000000,.box (aw6 (I0 r) [(113,.own 1000001)])),(1000001,.rs 203 3 r.u4 y9)]) [] (
 .J0 0 (fun(t:W3)=>[.x 10,.x 11,.x 12,.x 13,.x 14,.c 1000000 66 [.t (tI t.Question),.t (tI t.an5),.t (tI t.U7),.t (tB t.Open),.t (tB t.Off)]]) (.I s.u.H7.Open (.D [] []<| .K (aa1 s.G2 65536) fun v=>.K (bo1 s.u.H7.Question ([s.u0,v,7]:List Int)) fun r2=>.K (aF0 s 6) fun r3=>.J0 0 (fun(t:Int)=>[.t 3 (.t (tI t)),.x 10,.x 11,.x 12,.x 13,.x 14,.x 16,.x 17,.x 18,.x 20,.x 21,.x 22,.x 25,.x 27,.x 28,.x 29,.x 30,.x 31,.x 33,.x 38]) (.I r3.2 (.K (aa1 (o6 (r2.1+r3.1)) 65536) fun v2=>.R v2) (.R r2.1)) fun answer=>.D [] []<| .K (bl3 s.u.H7) fun v3=>.K (bK9 s.u.H7 s.t answer ([s.u0,v,7]:List Int)) fun r4=>.K (aO8 r4.1 r4.2 v3) fun v4=>.R v4) (.R s.u.H7)) fun f2=>.D [] [(15,7)]<| .K (cS8 f2 s.t) fun r5=>.D [] []<| .K (bl3 f2) fun v5=>.K (aO8 r5.1 r5.2.2 v5) fun v6=>.R (⟨(⟨s.u.j3,s.u.j4,s.u.c8,s.u.D8,s.u.D3,s.u.B4,s.u.H4,v6,s.u.G1,s.u.C7,s.u.u3,s.u.E7,s.u.Time⟩:Y9),s.d,s.k,s.t,s.u0,s.X6,s.Y5,s.A3,s.ak8,s.B0,s.V3,s.A4,s.G2,s.u9,s.known,s.cut,s.u4,s.J7⟩:o8))
def bR6 (old:V7):C prog V7:=.of Z call176 func176 [bm4 old] (fun r=>.fz 251 [bv3 r]) (
 .Z (.fb 1)<| .R old)
def bU9 (key:Bool)(g:U0)(q:W3):C prog Int:=.of Z call252 func252 [.t (tB key),bm3 g,aT3 q] (fun r=>.t (tI r)) (
 .I (!key) (.R 1) (.I g.Off (.R 2) (.I q.Off (.R 3) (.R 0))))
def ch3 (s:V7)(key:Bool)(g:U0)(q:W3)(now:Int):C prog (V7×Int):=.of Z call177 func177 [bm4 s,.t (tB key),bm3 g,aT3 q,.t (tI now)] (fun r=>.S9 [bm4 r.1,.t (tI r.2)]) (
 .K (bo3 s) fun v=>.G (!v) (.R true) (.K (aY3 g) fun v2=>.R (!v2)) fun b2=>.G b2 (.R true) (.K (bk0 q) fun v3=>.R (!v3)) fun b3=>.I b3 (.R ((⟨false,0,0⟩:V7),1)) (.K (bL6 now) fun v4=>.I (!v4) (.R ((⟨false,0,0⟩:V7),2)) (.I (decide (now<s.ao1)) (.R ((⟨false,0,0⟩:V7),16)) (.D [] []<| .K (bU9 key g q) fun v5=>.I (!((v5==0)==s.T7)) (.R ((⟨(v5==0),v5,now⟩:V7),0)) (.R ((⟨(v5==0),v5,s.ao1⟩:V7),0))))))
def aD2 (old:j2):C prog j2:=.of Z call180 func180 [U6 old] (fun r=>.fz 258 [bf1 r]) (
 .Z (.fb 1)<| .R old)
def ao4 (V0:j2)(e2:Int)(c:j2):C prog j2:=.of Z call258 func258 [U6 V0,.t (tI e2),.el (bf1 c)] (fun r=>U6 r) (
 .I (e2 !=0) (.R c) (.R V0))
def aH9 (s:o8)(V0:j2)(l:List o5)(e2:Int):CG prog o8:=.of Z call178 func178 [.ptr 1000000 0,U6 V0,.t (tS y9 l),.t (tI e2)] [(1000000,.box (aw6 (I0 s) [(113,.own 1000001)])),(1000001,.rs 203 3 s.u4 y9)] (fun _=>.S9 []) (fun r=>[(900000,.rs 203 3 r.u4 y9),(1000000,.box (aw6 (I0 r) [(113,.own 900000)]))]) [900000] (
 .D [] []<| .K (aD2 s.u.c8) fun v=>.K (ao4 V0 e2 v) fun v2=>.I (e2==0) (.Z (.rn [(1000001,2232)])<| .U (.ap y9 s.u4 l 2232) fun l2=>.R (⟨(⟨s.u.j3,s.u.j4,v2,s.u.D8,s.u.D3,s.u.B4,s.u.H4,s.u.H7,s.u.G1,s.u.C7,s.u.u3,s.u.E7,s.u.Time⟩:Y9),s.d,s.k,s.t,s.u0,s.X6,s.Y5,s.A3,s.ak8,s.B0,s.V3,s.A4,s.G2,s.u9,s.known,s.cut,l2,s.J7⟩:o8)) (.R (⟨(⟨s.u.j3,s.u.j4,v2,s.u.D8,s.u.D3,s.u.B4,s.u.H4,s.u.H7,s.u.G1,s.u.C7,s.u.u3,s.u.E7,s.u.Time⟩:Y9),s.d,s.k,s.t,s.u0,s.X6,s.Y5,s.A3,s.ak8,s.B0,s.V3,s.A4,s.G2,s.u9,s.known,s.cut,s.u4,s.J7⟩:o8)))
def W4 (s:List A6):C prog (List A6):=.of Z call260 func260 [.t (tS C1 s)] (fun r=>.t (tS C1 r)) (
 .Nl C1 s (.I true (.R ([]:List A6)) .N) (fun s=>.I false .N (.U (.ap C1 ([]:List A6) s 5) fun l=>.R l)))
def ak7 (s:List A9):CG prog (List A9):=.of Z call323 func323 [.t (tS K0 s)] [] (fun _=>.own 900000) (fun r=>[(900000,.rs 158 7 r K0)]) [900000] (
 .Nl K0 s (.I true (.Z (.np 2 70000 158 7 [])<| .R ([]:List A9)) .N) (fun s=>.I false .N (.U (.ap K0 ([]:List A9) s 5) fun l=>.R l)))
def N5 (s:j2):CG prog j2:=.of Z call253 func253 [U6 s] [] (fun r=>.agg [.t (tS aI8 r.o9.z7),.t (tI r.o9.P0),.t (tB r.j8.L9),.t (tI r.j8.At),.t (tI r.j8.E3),.t (tI r.j8.A0),.t (tI r.j8.M5),.t (tI r.j8.Q4),.t (tI r.j7.P8),.t (tS G3 r.j7.j5),.t (tS C1 r.Next),.own 900000,.t (tB r.Cut)]) (fun r=>[(900000,.rs 158 7 r.F3 K0)]) [900000] (
 .KG (ak7 s.F3) [2040] fun v=>.K (W4 s.Next) fun v2=>.R (⟨s.o9,s.j8,s.j7,v2,v,s.Cut⟩:j2))
def ai0 (t2:u5)(channel:Int):CG prog (u5×Int):=.of Z call324 func324 [aO2 t2,.t (tI channel)] [] (fun r=>.S9 [.agg [.t (tI r.1.P8),.own 900000],.t (tI r.2)]) (fun r=>[(900000,.rs 217 4 r.1.j5 G3)]) [900000] (
 .K (ap2 t2) fun v=>.I (!v) (.Z (.nb 4 70000 217 4 [1])<| .R ((⟨0,([]:List o4)⟩:u5),1)) (.I ((decide (channel<0))||(decide (channel>=(t2.j5.length:Int)))) (.Z (.nb 4 70000 217 4 [1])<| .R ((⟨0,([]:List o4)⟩:u5),2)) (.Mk G3 (t2.j5.length:Int) (⟨false,0,false,false⟩:o4) fun l=>.U (.cp G3 l t2.j5) fun l2=>.R ((⟨t2.P8,l2⟩:u5),0))))
def aH5 (t2:u5)(channel:Int)(level:Bool):C prog (u5×List o5×Int):=.of Z call254 func254 [aO2 t2,.t (tI channel),.t (tB level)] (fun r=>.S9 [aO2 r.1,.t (tS y9 r.2.1),.t (tI r.2.2)]) (
 .KG (ai0 t2 channel) [2112] fun r2=>.I (r2.2 !=0) (.R ((⟨0,([]:List o4)⟩:u5),([]:List o5),r2.2)) (.O (.ix G3 r2.1.j5 channel) fun _=>.U (.st G3 r2.1.j5 channel (⟨false,0,false,level⟩:o4) 0) fun l=>.O (.ix G3 t2.j5 channel) fun x2=>.I (x2.M9==level) (.R ((⟨r2.1.P8,l⟩:u5),([]:List o5),0)) (.D [] [(7,6)]<| .R ((⟨r2.1.P8,l⟩:u5),([(⟨t2.P8,channel,level⟩:o5)]:List o5),0))))
def aA4 (t2:u5)(channel:Int):C prog (u5×Int):=.of Z call255 func255 [aO2 t2,.t (tI channel)] (fun r=>.S9 [aO2 r.1,.t (tI r.2)]) (
 .KG (ai0 t2 channel) [2088] fun r2=>.I (r2.2 !=0) (.R ((⟨0,([]:List o4)⟩:u5),r2.2)) (.D [] []<| .O (.ix G3 t2.j5 channel) fun x=>.O (.ix G3 r2.1.j5 channel) fun _=>.U (.st G3 r2.1.j5 channel (⟨false,0,false,x.M9⟩:o4) 0) fun l=>.R ((⟨r2.1.P8,l⟩:u5),0)))
def au0 (j:A9)(c:Int):C prog Bool:=.of Z call256 func256 [bd7 j,.el (aI8 c)] (fun r=>.t (tB r)) (
 .D [] []<| .K (I9 j.Event) fun v=>.R (v==c))
def aK2 (t2:u5)(channel aZ1:Int)(level:Bool):C prog (u5×Int):=.of Z call257 func257 [aO2 t2,.t (tI channel),.t (tI aZ1),.t (tB level)] (fun r=>.S9 [aO2 r.1,.t (tI r.2)]) (
 .KG (ai0 t2 channel) [2120] fun r2=>.I (r2.2 !=0) (.R ((⟨0,([]:List o4)⟩:u5),r2.2)) (.I (decide (aZ1<=t2.P8)) (.R ((⟨0,([]:List o4)⟩:u5),16)) (.I (decide (aZ1>1099511627776)) (.R ((⟨0,([]:List o4)⟩:u5),2)) (.D [] []<| .O (.ix G3 t2.j5 channel) fun x=>.O (.ix G3 r2.1.j5 channel) fun _=>.U (.st G3 r2.1.j5 channel (⟨true,aZ1,level,x.M9⟩:o4) 0) fun l=>.R ((⟨r2.1.P8,l⟩:u5),0)))))
def ae6 (s:j2)(i:Int)(s2:List o5×u5×List A9):M prog (j2×List o5×Int) (Fl (List o5×u5×List A9) Empty):=
 .O (.ix G3 s.j7.j5 i) fun x=>.I (x.M9&&((!((ef7 i 2)==0))||(s.j7.P8==1099511627776))) (.K (aH5 s2.2.1 i false) fun r2=>.U (.ap y9 s2.1 r2.2.1 2528) fun l=>.R (.next (l,r2.1,s2.2.2))) (.K (aA4 s2.2.1 i) fun r3=>.I (!x.M9) (.R (.next (s2.1,r3.1,s2.2.2))) (.Z (.fb 8)<| .K (D4 s.F3 (.of (fun z_=>au0 z_ i) 256 [aI8 i])) fun v3=>.O (.ix K0 s.F3 v3) fun x2=>.J0 0 (fun(t:Int)=>[.x 9,.x 44,.x 68,.x 75,.x 76,.x 79,.x 83,.x 88,.c 17 6 [.t (tI t)],.d 9]) (.I ((!x2.F6)||(decide (x2.At>(o6 (s.j7.P8+5000))))) (.R (J1 (o6 (s.j7.P8+5000)) 1099511627776)) (.R x2.At)) fun f2=>.K (aK2 r3.1 i f2 false) fun r4=>.U (.ap K0 s2.2.2 ([(⟨x2.Event,x2.Left,true,f2⟩:A9)]:List A9) 2944) fun l2=>.R (.next (s2.1,r4.1,l2))))
def aq1 (s:j2):C prog (j2×List o5×Int):=.of Z call179 func179 [U6 s] (fun r=>.S9 [U6 r.1,.t (tS y9 r.2.1),.t (tI r.2.2)]) (
 .K (K9 s) fun v=>.I (!v) (.R ((⟨(⟨([]:List Int),0⟩:o7),(⟨false,0,0,0,0,0⟩:B8),(⟨0,([]:List o4)⟩:u5),([]:List A6),([]:List A9),false⟩:j2),([]:List o5),1)) (.K ((N5 s).f rfl (fun _=>rfl)) fun v2=>.I s.Cut (.R (v2,([]:List o5),0)) (.Z (.np 7 2528 203 3 [])<| .Z (.nb 5 2944 158 7 [11])<|M.QN (s.j7.j5.length:Int) 2 36 (fun(t:List o5×u5×List A9)=>[.t 7 (.own 2528),.x 24,.x 27,.x 28,.x 29,.x 30,.x 32,.x 33,.c 5 8 [.t (tI t.2.1.P8),.t (tS G3 t.2.1.j5)],.b 2528 (.rs 203 3 t.1 y9),.b 2944 (.rs 158 7 t.2.2 K0)]) 0 (.e) (ae6 s) (([]:List o5),v2.j7,([]:List A9)) (fun s3=>.R ((⟨v2.o9,v2.j8,s3.2.1,v2.Next,s3.2.2,true⟩:j2),s3.1,0)) (fun t=>t.elim))))
def ah5 (x:o4):C prog Bool:=.of Z call259 func259 [ba4 x] (fun r=>.t (tB r)) (
 .R x.M9)
def ae7 (s:j2):C prog (j2×Int):=.of Z call181 func181 [U6 s] (fun r=>.S9 [U6 r.1,.t (tI r.2)]) (
 .K (K9 s) fun v=>.I (!v) (.R ((⟨(⟨([]:List Int),0⟩:o7),(⟨false,0,0,0,0,0⟩:B8),(⟨0,([]:List o4)⟩:u5),([]:List A6),([]:List A9),false⟩:j2),1)) (.G (!s.Cut) (.R true) (.K (H8 s.j7.j5 (.of (fun z_=>ah5 z_) 259 [])) fun v2=>.R v2) fun b2=>.I b2 (.R ((⟨(⟨([]:List Int),0⟩:o7),(⟨false,0,0,0,0,0⟩:B8),(⟨0,([]:List o4)⟩:u5),([]:List A6),([]:List A9),false⟩:j2),6)) (.K ((N5 s).f rfl (fun _=>rfl)) fun v3=>.R ((⟨v3.o9,v3.j8,v3.j7,v3.Next,v3.F3,false⟩:j2),0))))
def as1 (s:j2)(l:List A6):C prog (j2×Int):=.of Z call182 func182 [U6 s,.t (tS C1 l)] (fun r=>.S9 [U6 r.1,.t (tI r.2)]) (
 .K (K9 s) fun v=>.G (!v) (.R true) (.K (ad5 s.o9 l) fun v2=>.R (!v2)) fun b2=>.I b2 (.R ((⟨(⟨([]:List Int),0⟩:o7),(⟨false,0,0,0,0,0⟩:B8),(⟨0,([]:List o4)⟩:u5),([]:List A6),([]:List A9),false⟩:j2),1)) (.K ((N5 s).f rfl (fun _=>rfl)) fun v3=>.K (W4 l) fun v4=>.R ((⟨v3.o9,v3.j8,v3.j7,v4,v3.F3,v3.Cut⟩:j2),0)))
def bj0 (V0:V7)(e2:Int)(c:V7):C prog V7:=.of Z call251 func251 [bm4 V0,.t (tI e2),.el (bv3 c)] (fun r=>bm4 r) (
 .I (e2 !=0) (.R c) (.R V0))
def aZ7 (s:o8):CG prog o8:=.of Z call97 func97 [.ptr 1000000 0] [(1000000,.box (aw6 (I0 s) [(113,.own 1000001)])),(1000001,.rs 203 3 s.u4 y9)] (fun _=>.S9 []) (fun r=>[(900000,.rs 203 3 r.u4 y9),(1000000,.box (aw6 (I0 r) [(113,.own 900000)]))]) [900000] (
 .D [] []<| .K (bR6 s.u.G1) fun v=>.K (ch3 s.u.G1 true s.u.H4 s.u.H7 s.t) fun r2=>.K (bj0 r2.1 r2.2 v) fun v2=>.I (!v2.T7) (.K (aq1 s.u.c8) fun r3=>.KG (aH9 (⟨(⟨s.u.j3,s.u.j4,s.u.c8,s.u.D8,s.u.D3,s.u.B4,s.u.H4,s.u.H7,v2,s.u.C7,s.u.u3,s.u.E7,s.u.Time⟩:Y9),s.d,s.k,s.t,s.u0,s.X6,s.Y5,s.A3,s.ak8,s.B0,s.V3,s.A4,s.G2,s.u9,s.known,s.cut,s.u4,s.J7⟩:o8) (⟨(⟨r3.1.o9.z7,r3.1.o9.P0⟩:o7),(⟨r3.1.j8.L9,r3.1.j8.At,r3.1.j8.E3,r3.1.j8.A0,r3.1.j8.M5,r3.1.j8.Q4⟩:B8),(⟨r3.1.j7.P8,r3.1.j7.j5⟩:u5),r3.1.Next,r3.1.F3,r3.1.Cut⟩:j2) r3.2.1 r3.2.2) [2416] fun v3=>.R v3) (.J0 0 (fun(t:j2)=>[.x 2,.x 3,.x 4,.x 5,.x 6,.x 9,.x 10,.x 11,.x 12,.x 14,.x 15,.x 16,.x 17,.x 19,.x 20,.x 21,.x 22,.x 24,.x 25,.x 26,.x 32,.x 33,.x 34,.x 35,.x 36,.x 37,.x 38,.x 39,.x 53,.x 54,.x 55,.x 56,.x 57,.c 1000000 37 [.t (tS aI8 t.o9.z7),.t (tI t.o9.P0),.t (tB t.j8.L9),.t (tI t.j8.At),.t (tI t.j8.E3),.t (tI t.j8.A0),.t (tI t.j8.M5),.t (tI t.j8.Q4),.t (tI t.j7.P8),.t (tS G3 t.j7.j5),.t (tS C1 t.Next),.t (tS K0 t.F3),.t (tB t.Cut)]]) (.I s.u.c8.Cut (.D [] []<| .K (aD2 s.u.c8) fun v4=>.K (ae7 s.u.c8) fun r4=>.K (ao4 (⟨(⟨r4.1.o9.z7,r4.1.o9.P0⟩:o7),(⟨r4.1.j8.L9,r4.1.j8.At,r4.1.j8.E3,r4.1.j8.A0,r4.1.j8.M5,r4.1.j8.Q4⟩:B8),(⟨r4.1.j7.P8,r4.1.j7.j5⟩:u5),r4.1.Next,r4.1.F3,r4.1.Cut⟩:j2) r4.2 v4) fun v5=>.R v5) (.R s.u.c8)) fun f2=>.D [] []<| .K (aD2 f2) fun v6=>.K (as1 f2 s.A4.N8) fun r5=>.K (ao4 (⟨(⟨r5.1.o9.z7,r5.1.o9.P0⟩:o7),(⟨r5.1.j8.L9,r5.1.j8.At,r5.1.j8.E3,r5.1.j8.A0,r5.1.j8.M5,r5.1.j8.Q4⟩:B8),(⟨r5.1.j7.P8,r5.1.j7.j5⟩:u5),r5.1.Next,r5.1.F3,r5.1.Cut⟩:j2) r5.2 v6) fun v7=>.R (⟨(⟨s.u.j3,s.u.j4,v7,s.u.D8,s.u.D3,s.u.B4,s.u.H4,s.u.H7,v2,s.u.C7,s.u.u3,s.u.E7,s.u.Time⟩:Y9),s.d,s.k,s.t,s.u0,s.X6,s.Y5,s.A3,s.ak8,s.B0,s.V3,s.A4,s.G2,s.u9,s.known,s.cut,s.u4,s.J7⟩:o8)))
def X9 (j:A9)(c:Int):C prog Bool:=.of Z call379 func379 [bd7 j,.el (aI8 c)] (fun r=>.t (tB r)) (
 .D [] []<| .K (I9 j.Event) fun v=>.R (v==c))
def aA0 (a b2:Int):C prog Int:=.of Z call380 func380 [.t (tI a),.t (tI b2)] (fun r=>.t (tI r)) (
 .O (.quo .i64 a b2) fun q=>.O (.rem a b2) fun q2=>.I (decide (q2>0)) (.R (o6 (q+1))) (.R q))
def Y0 (s:j2)(i:Int)(s2:u5×List A9):M prog j2 (Fl (u5×List A9) Empty):=
 .Z (.fb 2)<| .K (D4 s2.2 (.of (fun z_=>X9 z_ i) 379 [aI8 i])) fun v=>.J0 1 (fun(t:Bool)=>[.t 44 (.t (tB t)),.x 21,.x 22,.x 23,.x 24]) (.D [] []<| .Sp (decide (v<0)) (.R true) (.O (.ix K0 s2.2 v) fun x=>.W (.ly 0)<| .R (decide (x.Left>s.j8.Q4)))) fun v2=>.I v2 (.R (.next (s2.1,s2.2))) (.O (.ix K0 s2.2 v) fun x2=>.D [] []<| .W (.ly 0)<| .K (aA0 (o6 (x2.Left*s.j8.A0)) s.j8.M5) fun v3=>.I (decide ((K2 (o6 (s.j8.At+v3)) (o6 (s2.1.P8+1)))>1099511627776)) (.R (.next (s2.1,s2.2))) (.D [] [(17,6)]<| .W (.ly 0)<| .K (as3 x2.Event.Kind) fun v4=>.K (aK2 s2.1 i (K2 (o6 (s.j8.At+v3)) (o6 (s2.1.P8+1))) v4) fun r2=>.I (r2.2==0) (.U (.st K0 s2.2 v (⟨x2.Event,x2.Left,true,x2.At⟩:A9) 0) fun l=>.U (.st K0 l v (⟨x2.Event,x2.Left,true,K2 (o6 (s.j8.At+v3)) (o6 (s2.1.P8+1))⟩:A9) 0) fun l2=>.R (.next (r2.1,l2))) (.R (.next (s2.1,s2.2)))))
def al8 (s:j2):CG prog j2:=.of Z call336 func336 [.ptr 1000000 0] [(1000000,.box (aw6 (aM3 s) [(11,.own 1000001)])),(1000001,.rs 158 7 s.F3 K0)] (fun _=>.S9 []) (fun r=>[(1000000,.box (aw6 (aM3 r) [(11,.own 1000001)])),(1000001,.rs 158 7 r.F3 K0)]) [] (
 .I s.Cut (.R s) (M.QN (s.j7.j5.length:Int) 2 18 (fun(t:u5×List A9)=>[.x 8,.x 9,.x 10,.x 12,.x 13,.x 14,.x 15,.c 1000000 8 [.t (tI t.1.P8),.t (tS G3 t.1.j5)],.b 1000001 (.rs 158 7 t.2 K0)]) 0 (.e) (Y0 s) (s.j7,s.F3) (fun s3=>.R (⟨s.o9,s.j8,s3.1,s.Next,s3.2,s.Cut⟩:j2)) (fun t=>t.elim)))
def aI5 (_:Int)(x:o4)(s:Int×Bool):M prog (Int×Bool) (Fl (Int×Bool) Empty):=
 .W (.hx 0)<| .I (x.F6&&((!s.2)||(decide (x.At<s.1)))) (.R (.next (x.At,true))) (.R (.next (s.1,s.2)))
def aO0 (t2:u5):C prog (Int×Bool):=.of Z call337 func337 [aO2 t2] (fun r=>.S9 [.t (tI r.1),.t (tB r.2)]) (
 .K (ap2 t2) fun v=>.I (!v) (.R (0,false)) (M.Q G3 t2.j5 2 14 (fun(t:Int×Bool)=>[.t 4 (.t (tI t.1)),.t 5 (.t (tB t.2)),.x 1,.x 11,.d 1]) 0 (.e) (aI5) (0,false) (fun s2=>.R (s2.1,s2.2)) (fun t=>t.elim)))
def cp8:Go.Shelf.Ren:=⟨fun|6=>381|14=>409|15=>410|20=>429|21=>430|22=>431|23=>432|24=>433|25=>434|26=>435|27=>436|28=>437|29=>438|46=>452|47=>453|48=>454|49=>455|50=>456|57=>470|n=>n,fun|0=>0|3=>3|4=>4|5=>5|9=>9|22=>91|24=>203|25=>454|39=>245|45=>487|46=>488|50=>204|53=>382|55=>385|66=>503|70=>507|76=>516|77=>333|n=>n,fun|n=>n⟩
open Go.Shelf in
theorem et7:SlLaysF0.n6 prog cp8:={
 mixed:=by kernel_rfl,
 f6:=⟨Tryz.f381.name,by decide,func381.trans (congrArg some (by kernel_rfl))⟩,
 f14:=⟨Tryz.f409.name,by decide,func409.trans (congrArg some (by kernel_rfl))⟩,
 f15:=func410.trans (congrArg some (by kernel_rfl)),
 f20:=⟨Tryz.f429.name,by decide,func429.trans (congrArg some (by kernel_rfl))⟩,
 f21:=⟨Tryz.f430.name,by decide,func430.trans (congrArg some (by kernel_rfl))⟩,
 f22:=⟨Tryz.f431.name,by decide,func431.trans (congrArg some (by kernel_rfl))⟩,
 f23:=⟨Tryz.f432.name,by decide,func432.trans (congrArg some (by kernel_rfl))⟩,
 f24:=⟨Tryz.f433.name,by decide,func433.trans (congrArg some (by kernel_rfl))⟩,
 f25:=⟨Tryz.f434.name,by decide,func434.trans (congrArg some (by kernel_rfl))⟩,
 f26:=⟨Tryz.f435.name,by decide,func435.trans (congrArg some (by kernel_rfl))⟩,
 f27:=⟨Tryz.f436.name,by decide,func436.trans (congrArg some (by kernel_rfl))⟩,
 f28:=func437.trans (congrArg some (by kernel_rfl)),
 f29:=func438.trans (congrArg some (by kernel_rfl)),
 f46:=⟨Tryz.f452.name,by decide,func452.trans (congrArg some (by kernel_rfl))⟩,
 f47:=func453.trans (congrArg some (by kernel_rfl)),
 f48:=func454.trans (congrArg some (by kernel_rfl)),
 f49:=⟨Tryz.f455.name,by decide,func455.trans (congrArg some (by kernel_rfl))⟩,
 f50:=⟨Tryz.f456.name,by decide,func456.trans (congrArg some (by kernel_rfl))⟩,
 f57:=⟨Tryz.f470.name,by decide,func470.trans (congrArg some (by kernel_rfl))⟩,
 t0:=Tryz.underlying0,
 a0:=Tryz.isAgg0,
 z0:=Tryz.sizeOf0,
 v0:=Tryz.zeroValue0,
 t3:=Tryz.underlying3,
 a3:=Tryz.isAgg3,
 z3:=Tryz.sizeOf3,
 v3:=Tryz.zeroValue3,
 t4:=Tryz.underlying4,
 a4:=Tryz.isAgg4,
 z4:=Tryz.sizeOf4,
 v4:=Tryz.zeroValue4,
 t5:=Tryz.underlying5,
 a5:=Tryz.isAgg5,
 z5:=Tryz.sizeOf5,
 v5:=Tryz.zeroValue5,
 t9:=Tryz.underlying9,
 a9:=Tryz.isAgg9,
 z9:=Tryz.sizeOf9,
 v9:=Tryz.zeroValue9,
 t22:=Tryz.underlying91,
 a22:=Tryz.isAgg91,
 z22:=Tryz.sizeOf91,
 v22:=Tryz.zeroValue91,
 t25:=Tryz.underlying454,
 a25:=Tryz.isAgg454,
 z25:=Tryz.sizeOf454,
 v25:=Tryz.zeroValue454,
 t39:=Tryz.underlying245,
 a39:=Tryz.isAgg245,
 z39:=Tryz.sizeOf245,
 v39:=Tryz.zeroValue245,
 t45:=Tryz.underlying487,
 a45:=Tryz.isAgg487,
 z45:=Tryz.sizeOf487,
 v45:=Tryz.zeroValue487,
 t46:=Tryz.underlying488,
 a46:=Tryz.isAgg488,
 z46:=Tryz.sizeOf488,
 v46:=Tryz.zeroValue488,
 t50:=Tryz.underlying204,
 a50:=Tryz.isAgg204,
 z50:=Tryz.sizeOf204,
 v50:=Tryz.zeroValue204,
 t53:=Tryz.underlying382,
 a53:=Tryz.isAgg382,
 z53:=Tryz.sizeOf382,
 v53:=Tryz.zeroValue382,
 t55:=Tryz.underlying385,
 a55:=Tryz.isAgg385,
 z55:=Tryz.sizeOf385,
 v55:=Tryz.zeroValue385,
 t66:=Tryz.underlying503,
 a66:=Tryz.isAgg503,
 z66:=Tryz.sizeOf503,
 v66:=Tryz.zeroValue503,
 t70:=Tryz.underlying507,
 a70:=Tryz.isAgg507,
 z70:=Tryz.sizeOf507,
 v70:=Tryz.zeroValue507,
 t76:=Tryz.underlying516,
 a76:=Tryz.isAgg516,
 z76:=Tryz.sizeOf516,
 v76:=Tryz.zeroValue516,
 t77:=Tryz.underlying333,
 a77:=Tryz.isAgg333,
 z77:=Tryz.sizeOf333,
 v77:=Tryz.zeroValue333}
theorem bs3 (s:List o5)(n:Nat)(cs:List (List Tree))(f:o5->o5->Option Int)(h:∀x0 x1,aR1 prog n ([aB5 x0,aB5 x1]++cs.map T.el) (f x0 x1) (fun r=>.t (tI r))):
  bh9 prog 381 [.own 1000000,.fz n cs] [(1000000,.rows 203 3 s.length (s.map y9))] (bU6 f s) (fun _=>.S9 []) (fun r=>[(1000000,.rows 203 3 r.length (r.map y9))]):=
 cp6 (E:=o5) (enc:=y9) (ρ:=cp8) et7 (k:=3) (fun x=>[.int .i64 x.At,.int .i64 x.Channel,.bool x.M9]) (fun _=>rfl) (fun _=>rfl) (fun x v hv=>by simp only[cr6,eP5,or_false]at hv;rcases hv with rfl|rfl|rfl<;>rfl) (fun w=>Tryz.isAgg203 w) (fun w=>Tryz.sizeOf203 w) (A:=aB5) (fun _=>rfl) f h s
def aa8 (s:List o5)(f:Cl prog (o5×o5) Int (fun x=>[aB5 x.1,aB5 x.2]) (fun r=>.t (tI r))):CG prog (List o5):=
 ⟨381,[.own 1000000,.fz f.n f.cs],[(1000000,.rows 203 3 s.length (s.map y9))],bU6 (fun x y=>f.f (x,y)) s,fun k=>df5 (fun x y=>f.e k (x,y)) s,fun _=>.S9 [],fun r=>[(1000000,.rows 203 3 r.length (r.map y9))],[],bs3 s f.n f.cs _ (fun x y=>f.ok (x,y)),fun k r h=>dz4 (fun x y r h=>f.le k (x,y) r h) h⟩
def ap9 (_ x:Int)(_:Unit):M prog Int (Fl Unit Int):=
 .W (.hx 0)<| .I (x !=0) (.R (.ret x)) (.R (.next ()))
def ag8 (by3:List Int):C prog Int:=.of Z call383 func383 [.t (tS aI8 by3)] (fun r=>.t (tI r)) (
 M.Q aI8 by3 2 8 (fun(_:Unit)=>[]) 0 (.one .rt) (ap9) () (fun _=>.R 0) (fun r2=>.R r2))
def aa0 (a b2:o5):C prog Int:=.of Z call382 func382 [aB5 a,aB5 b2] (fun r=>.t (tI r)) (
 .D [] []<| .K (G9 a.At b2.At) fun v=>.K (G9 a.Channel b2.Channel) fun v2=>.K (ag8 ([v,v2]:List Int)) fun v3=>.R v3)
def av6 (t2:u5)(M8 i:Int)(s:List o5×List o4):M prog (u5×List o5×Int) (Fl (List o5×List o4) Empty):=
 .O (.ix G3 t2.j5 i) fun x=>.I ((!x.F6)||(decide (x.At>M8))) (.R (.next (s.1,s.2))) (.J0 0 (fun(t:List o5)=>[.t 9 (.own 2496),.x 40,.x 49,.x 51,.b 2496 (.rs 203 3 t y9)]) (.I (!(x.Next==x.M9)) (.U (.ap y9 s.1 ([(⟨x.At,i,x.Next⟩:o5)]:List o5) 2496) fun l=>.R l) (.R s.1)) fun f2=>.O (.ix G3 s.2 i) fun _=>.U (.st G3 s.2 i (⟨false,0,false,x.Next⟩:o4) 0) fun l2=>.R (.next (f2,l2)))
def al9 (t2:u5)(M8:Int):C prog (u5×List o5×Int):=.of Z call338 func338 [aO2 t2,.t (tI M8)] (fun r=>.S9 [aO2 r.1,.t (tS y9 r.2.1),.t (tI r.2.2)]) (
 .KG (ai0 t2 0) [2112] fun r2=>.I (r2.2 !=0) (.R ((⟨0,([]:List o4)⟩:u5),([]:List o5),r2.2)) (.I (decide (M8<t2.P8)) (.R ((⟨0,([]:List o4)⟩:u5),([]:List o5),16)) (.I (decide (M8>1099511627776)) (.R ((⟨0,([]:List o4)⟩:u5),([]:List o5),2)) (.Z (.np 9 2496 203 3 [])<|M.QN (t2.j5.length:Int) 2 35 (fun(t:List o5×List o4)=>[.t 9 (.own 2496),.x 2,.x 12,.x 14,.x 15,.x 24,.x 32,.b 2112 (.rs 217 4 t.2 G3),.b 2496 (.rs 203 3 t.1 y9),.d 2]) 1 (.e) (av6 t2 M8) (([]:List o5),r2.1.j5) (fun s2=>.KG (aa8 s2.1 (.of (fun z_=>aa0 z_.1 z_.2) 382 [])) [] fun v=>.R ((⟨M8,s2.2⟩:u5),v,0)) (fun t=>t.elim)))))
def N2 (s:List A9)(del:Cl prog A9 Bool (fun x=>[bd7 x]) (fun r=>.t (tB r))):CG prog (List A9):=⟨339,[.own 1000000,.fz del.n del.cs],[(1000000,.rs 158 7 s K0)],Pv.N2 s (fun x0=>del.f x0),fun _=>dr7 s,(fun _=>.own 900000),(fun r=>[(900000,.rs 158 7 r K0)]),[900000],bs1 s del.n del.cs (fun x0=>del.f x0) (fun x0=>del.ok x0),fun _ r h=>br4 h⟩
def ap0 (j:A9)(c:Int):C prog Bool:=.of Z call340 func340 [bd7 j,.el (aI8 c)] (fun r=>.t (tB r)) (
 .R (j.F6&&(j.At==c)))
def ab2 (M8:Int)(s2:List o5×j2):M prog (List o5×j2) ((List o5×j2)⊕((List o5×j2)⊕Empty)):=
 .K (aO0 (⟨s2.2.j7.P8,s2.2.j7.j5⟩:u5)) fun r2=>.I ((!r2.2)||(decide (r2.1>M8))) (.R (.inr (.inl (s2.1,(⟨(⟨s2.2.o9.z7,s2.2.o9.P0⟩:o7),(⟨s2.2.j8.L9,s2.2.j8.At,s2.2.j8.E3,s2.2.j8.A0,s2.2.j8.M5,s2.2.j8.Q4⟩:B8),(⟨s2.2.j7.P8,s2.2.j7.j5⟩:u5),s2.2.Next,s2.2.F3,s2.2.Cut⟩:j2))))) (.D [] [(11,8)]<| .K (al9 (⟨s2.2.j7.P8,s2.2.j7.j5⟩:u5) r2.1) fun r3=>.U (.ap y9 s2.1 r3.2.1 2360) fun l=>.Z (.fb 6)<| .KG (N2 s2.2.F3 (.of (fun z_=>ap0 z_ r2.1) 340 [aI8 r2.1])) [2417] fun v=>.KG (al8 (⟨(⟨s2.2.o9.z7,s2.2.o9.P0⟩:o7),(⟨s2.2.j8.L9,s2.2.j8.At,s2.2.j8.E3,s2.2.j8.A0,s2.2.j8.M5,s2.2.j8.Q4⟩:B8),r3.1,s2.2.Next,v,s2.2.Cut⟩:j2)) [] fun v2=>.Z (.rn [(2417,2416)])<| .R (.inl (l,v2)))
def ad6 (s:j2)(M8:Int):CG prog (List o5×j2):=.of Z call276 func276 [.ptr 1000000 0,.t (tI M8)] [(1000000,.box (aw6 (aM3 s) [(11,.own 1000001)])),(1000001,.rs 158 7 s.F3 K0)] (fun r=>.t (tS y9 r.1)) (fun r=>[(900000,.rs 158 7 r.2.F3 K0),(1000000,.box (aw6 (aM3 r.2) [(11,.own 900000)]))]) [900000] (
 .Z (.np 5 2360 203 3 [])<| .Z (.rn [(1000001,2416)])<| .L (fun(t:List o5×j2)=>[.t 5 (.own 2360),.b 2360 (.rs 203 3 t.1 y9),.b 2416 (.rs 158 7 t.2.F3 K0),.b 1000000 (.box (aw6 (aM3 t.2) [(11,.own 2416)]))]) 0 (.e) (ab2 M8) (([]:List o5),s) (fun s3=>.K (al9 (⟨s3.2.j7.P8,s3.2.j7.j5⟩:u5) M8) fun r4=>.U (.ap y9 s3.1 r4.2.1 2360) fun l2=>.Z (.fr 2360)<| .R (l2,(⟨(⟨s3.2.o9.z7,s3.2.o9.P0⟩:o7),(⟨s3.2.j8.L9,s3.2.j8.At,s3.2.j8.E3,s3.2.j8.A0,s3.2.j8.M5,s3.2.j8.Q4⟩:B8),r4.1,s3.2.Next,s3.2.F3,s3.2.Cut⟩:j2))) (fun t=>t.elim))
def W0 (s:j2)(M8:Int):C prog (j2×List o5×Int):=.of Z call193 func193 [U6 s,.t (tI M8)] (fun r=>.S9 [U6 r.1,.t (tS y9 r.2.1),.t (tI r.2.2)]) (
 .K (K9 s) fun v=>.I (!v) (.R ((⟨(⟨([]:List Int),0⟩:o7),(⟨false,0,0,0,0,0⟩:B8),(⟨0,([]:List o4)⟩:u5),([]:List A6),([]:List A9),false⟩:j2),([]:List o5),1)) (.I (decide (M8<s.j7.P8)) (.R ((⟨(⟨([]:List Int),0⟩:o7),(⟨false,0,0,0,0,0⟩:B8),(⟨0,([]:List o4)⟩:u5),([]:List A6),([]:List A9),false⟩:j2),([]:List o5),16)) (.I (decide (M8>1099511627776)) (.R ((⟨(⟨([]:List Int),0⟩:o7),(⟨false,0,0,0,0,0⟩:B8),(⟨0,([]:List o4)⟩:u5),([]:List A6),([]:List A9),false⟩:j2),([]:List o5),2)) (.KG (N5 s) [2208] fun v2=>.KG (ad6 v2 M8) [2224] fun r2=>.R ((⟨(⟨r2.2.o9.z7,r2.2.o9.P0⟩:o7),(⟨r2.2.j8.L9,r2.2.j8.At,r2.2.j8.E3,r2.2.j8.A0,r2.2.j8.M5,r2.2.j8.Q4⟩:B8),(⟨r2.2.j7.P8,r2.2.j7.j5⟩:u5),r2.2.Next,r2.2.F3,r2.2.Cut⟩:j2),r2.1,0)))))
def aY0 (s:o8)(aZ1:Int):CG prog o8:=.of Z call261 func261 [.ptr 1000000 0,.t (tI aZ1)] [(1000000,.box (aw6 (I0 s) [(113,.own 1000001)])),(1000001,.rs 203 3 s.u4 y9)] (fun _=>.S9 []) (fun r=>[(900000,.rs 203 3 r.u4 y9),(1000000,.box (aw6 (I0 r) [(113,.own 900000)]))]) [900000] (
 .K (W0 s.u.c8 aZ1) fun r2=>.KG (aH9 s (⟨(⟨r2.1.o9.z7,r2.1.o9.P0⟩:o7),(⟨r2.1.j8.L9,r2.1.j8.At,r2.1.j8.E3,r2.1.j8.A0,r2.1.j8.M5,r2.1.j8.Q4⟩:B8),(⟨r2.1.j7.P8,r2.1.j7.j5⟩:u5),r2.1.Next,r2.1.F3,r2.1.Cut⟩:j2) r2.2.1 r2.2.2) [2120] fun v=>.K (aq1 v.u.c8) fun r3=>.KG (aH9 v (⟨(⟨r3.1.o9.z7,r3.1.o9.P0⟩:o7),(⟨r3.1.j8.L9,r3.1.j8.At,r3.1.j8.E3,r3.1.j8.A0,r3.1.j8.M5,r3.1.j8.Q4⟩:B8),(⟨r3.1.j7.P8,r3.1.j7.j5⟩:u5),r3.1.Next,r3.1.F3,r3.1.Cut⟩:j2) r3.2.1 r3.2.2) [2208] fun v2=>.R v2)
def aZ8 (s:o8)(V0:Q5)(aZ1:Int):CG prog o8:=.of Z call183 func183 [.ptr 1000000 0,aM2 V0,.t (tI aZ1)] [(1000000,.box (aw6 (I0 s) [(113,.own 1000001)])),(1000001,.rs 203 3 s.u4 y9)] (fun _=>.S9 []) (fun r=>[(900000,.rs 203 3 r.u4 y9),(1000000,.box (aw6 (I0 r) [(113,.own 900000)]))]) [900000] (
 .I ((s.u.D8.Mode !=0)&&(V0.Mode==0)) (.K (cx3) fun v=>.KG (aY0 (⟨(⟨s.u.j3,s.u.j4,s.u.c8,V0,v,s.u.B4,s.u.H4,s.u.H7,s.u.G1,s.u.C7,s.u.u3,s.u.E7,s.u.Time⟩:Y9),s.d,s.k,s.t,s.u0,s.X6,s.Y5,s.A3,s.ak8,s.B0,s.V3,s.A4,s.G2,s.u9,s.known,s.cut,s.u4,s.J7⟩:o8) aZ1) [2256] fun v2=>.R v2) (.R (⟨(⟨s.u.j3,s.u.j4,s.u.c8,V0,s.u.D3,s.u.B4,s.u.H4,s.u.H7,s.u.G1,s.u.C7,s.u.u3,s.u.E7,s.u.Time⟩:Y9),s.d,s.k,s.t,s.u0,s.X6,s.Y5,s.A3,s.ak8,s.B0,s.V3,s.A4,s.G2,s.u9,s.known,s.cut,s.u4,s.J7⟩:o8)))
def bB1 (old:Q5):C prog Q5:=.of Z call184 func184 [aM2 old] (fun r=>.fz 262 [dc1 r]) (
 .Z (.fb 1)<| .R old)
def bX8 (w:ay3)(s:Q5):C prog Bool:=.of Z call325 func325 [aq5 w,aM2 s] (fun r=>.t (tB r)) (
 .D [] []<| .K (aT1 w) fun v=>.R (s.Z5==(o6 (v-1))))
def bm1 (w:ay3)(s:Q5):C prog Int:=.of Z call263 func263 [aq5 w,aM2 s] (fun r=>.t (tI r)) (
 .K (bX8 w s) fun v=>.I v (.R (o6 ((o6 (w.aE4+1))*s.I6))) (.R s.I6))
def ch7 (w:ay3)(s:Q5)(now:Int):C prog (Q5×Int):=.of Z call185 func185 [aq5 w,aM2 s,.t (tI now)] (fun r=>.S9 [aM2 r.1,.t (tI r.2)]) (
 .K (bx0 w s) fun v=>.I (!v) (.R ((⟨0,0,0,0,0,0⟩:Q5),1)) (.K (bg9 now) fun v2=>.I (!v2) (.R ((⟨0,0,0,0,0,0⟩:Q5),2)) (.I ((s.Mode !=0)&&(decide (now<s.E0))) (.R ((⟨0,0,0,0,0,0⟩:Q5),16)) (.J0 0 (fun(t:Int)=>[.t 8 (.t (tI t)),.x 3,.x 21,.d 3]) (.I (s.Mode==2) (.K (bm1 w s) fun v3=>.R (o6 (4*v3))) (.I (decide (s.U2>0)) (.R (o6 (4*s.I6))) (.R 1000000))) fun most=>.I ((s.Mode !=0)&&(decide ((o6 (now-s.E0))>most))) (.R ((⟨0,0,0,0,0,0⟩:Q5),0)) (.R (s,0))))))
def bx2 (p2:Int):C prog Bool:=.of Z call326 func326 [.t (tI p2)] (fun r=>.t (tB r)) (
 .R ((decide (p2>=0))&&(decide (p2<=1099511627776))))
def bl1 (b2:Int)(V0:Cl prog Int Int (fun x=>[.t (tI x)]) (fun r=>.t (tI r)))(s:List Int×Int):M prog (List Int×Int) ((List Int×Int)⊕((List Int×Int)⊕(List Int×Int))):=
 .I (decide (s.2<=b2)) (.I ((s.1.length:Int)==1000) (.R (.inr (.inr (([]:List Int),5)))) (.U (.ap aI8 s.1 ([s.2]:List Int) 2304) fun l=>.K (V0.at s.2) fun v4=>.R (.inl (l,v4)))) (.R (.inr (.inl (s.1,s.2))))
def bm2 (a b2:Int)(V0:Cl prog Int Int (fun x=>[.t (tI x)]) (fun r=>.t (tI r))):C prog (List Int×Int):=.of Z call264 func264 [.t (tI a),.t (tI b2),.fz V0.n V0.cs] (fun r=>.S9 [.t (tS aI8 r.1),.t (tI r.2)]) (
 .K (bx2 a) fun v=>.G (!v) (.R true) (.K (bx2 b2) fun v2=>.R (!v2)) fun b3=>.I (b3||(decide (a>b2))) (.R (([]:List Int),2)) (.K (V0.at a) fun v3=>.Z (.np 8 2304 3 1 [])<| .L (fun(t:List Int×Int)=>[.t 8 (.own 2304),.t 9 (.t (tI t.2)),.b 2304 (.rs 3 1 t.1 aI8)]) 0 (.one .rt) (bl1 b2 V0) (([]:List Int),v3) (fun s2=>.R (s2.1,0)) (fun r2=>.R r2)))
def bd2 (w:ay3):C prog Int:=.of Z call327 func327 [aq5 w] (fun r=>.t (tI r)) (
 .K (aM0 w) fun v=>.I (!v) (.R 0) (.O (.quo .i64 23040 w.U2) fun q=>.R q))
def ci0 (w:ay3)(p2:Int):C prog (Int×Int):=.of Z call266 func266 [aq5 w,.t (tI p2)] (fun r=>.S9 [.t (tI r.1),.t (tI r.2)]) (
 .K (aa1 p2 23040) fun v=>.K (bd2 w) fun v2=>.O (.quo .i64 (o6 (p2-(o6 (p2-v)))) v2) fun q=>.K (aT1 w) fun v3=>.I (decide ((o6 (q+1))>=v3)) (.R (o6 ((o6 (p2-v))+23040),0)) (.K (bd2 w) fun v4=>.R (o6 ((o6 (p2-v))+(o6 ((o6 (q+1))*v4))),o6 (q+1))))
def ba3 (p2:Int)(c:ay3):C prog Int:=.of Z call265 func265 [.t (tI p2),.el (ce7 c)] (fun r=>.t (tI r)) (
 .K (ci0 c p2) fun r2=>.R r2.1)
def bC0 (w:ay3)(a b2:Int):C prog (List Int×Int):=.of Z call186 func186 [aq5 w,.t (tI a),.t (tI b2)] (fun r=>.S9 [.t (tS aI8 r.1),.t (tI r.2)]) (
 .K (aM0 w) fun v=>.I (!v) (.R (([]:List Int),1)) (.Z (.fb 3)<| .K (bm2 a b2 (.of (fun z_=>ba3 z_ w) 265 [ce7 w])) fun r2=>.R (r2.1,r2.2)))
def aE7 (p2 v _ x:Int)(_:Unit):M prog Int (Fl Unit Int):=
 .W (.hx 0)<| .I (decide ((o6 ((o6 (p2-v))+x))>p2)) (.R (.ret (o6 ((o6 (p2-v))+x)))) (.R (.next ()))
def aO1 (p2:Int)(c:ci6):C prog Int:=.of Z call267 func267 [.t (tI p2),.el (cO3 c)] (fun r=>.t (tI r)) (
 .K (aa1 p2 46080) fun v=>M.Q aI8 c.by5 2 14 (fun(_:Unit)=>[]) 0 (.one .rt) (aE7 p2 v) () (fun _=>.O (.ix aI8 c.by5 0) fun x2=>.R (o6 ((o6 ((o6 (p2-v))+46080))+x2))) (fun r2=>.R r2))
def bl0 (c:ci6)(a b2:Int):C prog (List Int×Int):=.of Z call187 func187 [bO8 c,.t (tI a),.t (tI b2)] (fun r=>.S9 [.t (tS aI8 r.1),.t (tI r.2)]) (
 .K (aT2 c) fun v=>.I (!v) (.R (([]:List Int),1)) (.Z (.fb 3)<| .K (bm2 a b2 (.of (fun z_=>aO1 z_ c) 267 [cO3 c])) fun r2=>.R (r2.1,r2.2)))
def aQ4 (s:o8)(_ x:Int)(out:List Int):M prog (List Int) (Fl (List Int) Empty):=
 .W (.hx 0)<| .D [] []<| .K (Y3 (o6 (s.u.u3.F8-(o6 (65536*x)))) s.u.u3.C9) fun v=>.U (.ap aI8 out ([o6 (s.t-v)]:List Int) 2328) fun l2=>.R (.next l2)
def aJ6 (s:o8)(l:List Int):CG prog (List Int):=.of Z call188 func188 [.ptr 1000000 0,.t (tS aI8 l)] [(1000000,.box (aw6 (I0 s) [(113,.own 1000001)])),(1000001,.rs 203 3 s.u4 y9)] (fun r=>.t (tS aI8 r)) (fun _=>[(1000000,.box (aw6 (I0 s) [(113,.own 1000001)])),(1000001,.rs 203 3 s.u4 y9)]) [] (
 .D [] []<| .Z (.np 7 2328 3 1 [])<|M.Q aI8 l 2 24 (fun(t:List Int)=>[.t 7 (.own 2328),.x 10,.x 11,.x 12,.x 13,.x 14,.x 16,.x 17,.x 18,.x 19,.x 20,.b 2328 (.rs 3 1 t aI8)]) 0 (.e) (aQ4 s) ([]:List Int) (fun dm0=>.Z (.fr 2328)<| .R dm0) (fun t=>t.elim))
def bv0 (old:Q0):C prog Q0:=.of Z call190 func190 [aX5 old] (fun r=>.fz 269 [cO6 r]) (
 .Z (.fb 1)<| .R old)
def cx2 (c:ci6)(p2:Q0):C prog (Q0×Int):=.of Z call191 func191 [bO8 c,aX5 p2] (fun r=>.S9 [aX5 r.1,.t (tI r.2)]) (
 .K (bo0 c p2) fun v=>.I (!v) (.R ((⟨false,0,0,false⟩:Q0),1)) (.I p2.Seen (.R ((⟨p2.ap8,p2.aO3,J1 16 (o6 (p2.F2+1)),p2.Seen⟩:Q0),0)) (.R (p2,0))))
def aT6 (V0:Q0)(e2:Int)(c:Q0):C prog Q0:=.of Z call269 func269 [aX5 V0,.t (tI e2),.el (cO6 c)] (fun r=>aX5 r) (
 .I (e2 !=0) (.R c) (.R V0))
def aZ9 (c:o8)(c2:List Int):CG prog (o8×List Int):=.of Z call189 func189 [.ptr 1000000 0,.ptr 1000003 0] [(1000000,.box [.ptr 1000001 0]),(1000001,.box (aw6 (I0 c) [(113,.own 1000002)])),(1000002,.rs 203 3 c.u4 y9),(1000003,.box [.t (tS aI8 c2)])] (fun _=>.S9 []) (fun r=>[(1000000,.box [.ptr 1000001 0]),(1000001,.box (aw6 (I0 r.1) [(113,.own 1000002)])),(1000002,.rs 203 3 r.1.u4 y9),(1000003,.box [.t (tS aI8 r.2)])]) [] (
 .D [] []<| .K (bv0 c.u.D3) fun v=>.K (bE3) fun v2=>.K (cx2 v2 c.u.D3) fun r2=>.K (aT6 r2.1 r2.2 v) fun v3=>.U (.sF aI8 c2 1 (c2.length:Int)) fun l=>.R ((⟨(⟨c.u.j3,c.u.j4,c.u.c8,c.u.D8,v3,c.u.B4,c.u.H4,c.u.H7,c.u.G1,c.u.C7,c.u.u3,c.u.E7,c.u.Time⟩:Y9),c.d,c.k,c.t,c.u0,c.X6,c.Y5,c.A3,c.ak8,c.B0,c.V3,c.A4,c.G2,c.u9,c.known,c.cut,c.u4,c.J7⟩:o8),l))
def aZ6 (V0:Q5)(e2:Int)(c:Q5):C prog Q5:=.of Z call262 func262 [aM2 V0,.t (tI e2),.el (dc1 c)] (fun r=>aM2 r) (
 .I (e2 !=0) (.R c) (.R V0))
def bh0 (f2:N6):C prog Int:=.of Z call329 func329 [bc1 f2] (fun r=>.t (tI r)) (
 .K (aH6 f2) fun v=>.I ((!v)||(!f2.Seen)) (.R 0) (.R (K2 20 (o6 (da8 f2.A0 4)))))
def bk9 (f2:N6)(t2:Int):C prog (N6×Bool×Int):=.of Z call270 func270 [bc1 f2,.t (tI t2)] (fun r=>.S9 [bc1 r.1,.t (tB r.2.1),.t (tI r.2.2)]) (
 .K (aH6 f2) fun v=>.I (!v) (.R ((⟨false,0,0⟩:N6),false,1)) (.K (aV5 t2) fun v2=>.I (!v2) (.R ((⟨false,0,0⟩:N6),false,2)) (.I (f2.Seen&&(decide (t2<f2.E0))) (.R ((⟨false,0,0⟩:N6),false,16)) (.J0 1 (fun(t:Bool)=>[.t 28 (.t (tB t)),.x 19]) (.D [] []<| .Sp f2.Seen (.K (bh0 f2) fun v3=>.R (decide ((o6 (t2-f2.E0))<v3))) (.R false)) fun v4=>.I v4 (.R (f2,false,0)) (.I f2.Seen (.R ((⟨true,t2,o6 (t2-f2.E0)⟩:N6),true,0)) (.R ((⟨true,t2,0⟩:N6),true,0)))))))
def bM8 (old:N6):C prog N6:=.of Z call271 func271 [bc1 old] (fun r=>.fz 330 [cA5 r]) (
 .Z (.fb 1)<| .R old)
def dA5 (w:ay3)(normal period:Int):C prog Bool:=.of Z call373 func373 [aq5 w,.t (tI normal),.t (tI period)] (fun r=>.t (tB r)) (
 .I (w.aE4==1) (.R (decide ((o6 (2*period))>(o6 (3*normal))))) (.R (decide (period>(o6 (2*normal))))))
def cy5 (p2 q:Int):C prog Bool:=.of Z call374 func374 [.t (tI p2),.t (tI q)] (fun r=>.t (tB r)) (
 .R (decide ((o6 (4*(K2 (o6 (p2-q)) (o6 (q-p2)))))<=q)))
def cy6 (w:ay3)(s:Q5)(t2:Int):C prog Q5:=.of Z call331 func331 [aq5 w,aM2 s,.t (tI t2)] (fun r=>aM2 r) (
 .I (s.Mode==1) (.G (s.U2==2) (.K (dA5 w s.I6 (o6 (t2-s.E0))) fun v=>.R v) (.R false) fun b2=>.I b2 (.O (.quo .i64 (o6 (t2-s.E0)) (o6 (w.aE4+1))) fun q=>.R (⟨2,0,t2,o6 (t2-s.E0),q,0⟩:Q5)) (.G (s.U2 !=0) (.K (cy5 (o6 (t2-s.E0)) s.I6) fun v2=>.R v2) (.R false) fun b3=>.I b3 (.R (⟨1,0,t2,o6 (t2-s.E0),o6 (t2-s.E0),2⟩:Q5)) (.R (⟨1,0,t2,o6 (t2-s.E0),o6 (t2-s.E0),1⟩:Q5)))) (.I (s.Mode==2) (.K (bm1 w s) fun v3=>.K (cy5 (o6 (t2-s.E0)) v3) fun v4=>.I (!v4) (.R (⟨0,0,0,0,0,0⟩:Q5)) (.K (bX8 w s) fun v5=>.I v5 (.O (.quo .i64 (o6 (t2-s.E0)) (o6 (w.aE4+1))) fun q2=>.R (⟨2,0,t2,o6 (t2-s.E0),q2,0⟩:Q5)) (.R (⟨2,o6 (s.Z5+1),t2,o6 (t2-s.E0),o6 (t2-s.E0),0⟩:Q5)))) (.R (⟨1,0,t2,0,0,0⟩:Q5))))
def cy4 (w:ay3)(s:Q5)(t2:Int):C prog (Q5×Int):=.of Z call272 func272 [aq5 w,aM2 s,.t (tI t2)] (fun r=>.S9 [aM2 r.1,.t (tI r.2)]) (
 .K (bx0 w s) fun v=>.I (!v) (.R ((⟨0,0,0,0,0,0⟩:Q5),1)) (.K (bg9 t2) fun v2=>.I (!v2) (.R ((⟨0,0,0,0,0,0⟩:Q5),2)) (.I ((s.Mode !=0)&&(decide (t2<=s.E0))) (.R ((⟨0,0,0,0,0,0⟩:Q5),16)) (.K (cy6 w s t2) fun v3=>.R (v3,0)))))
def bM1 (c:ci6):C prog (Int×Int):=.of Z call332 func332 [bO8 c] (fun r=>.S9 [.t (tI r.1),.t (tI r.2)]) (
 .K (aT2 c) fun v=>.I (!v) (.R (0,0)) (.K (cr3 c) fun r2=>.R (r2.1,r2.2)))
def bK4 (c:ci6)(p2:Q0):C prog (Q0×Int):=.of Z call273 func273 [bO8 c,aX5 p2] (fun r=>.S9 [aX5 r.1,.t (tI r.2)]) (
 .K (bo0 c p2) fun v=>.I (!v) (.R ((⟨false,0,0,false⟩:Q0),1)) (.I (!p2.Seen) (.R ((⟨false,0,0,true⟩:Q0),0)) (.K (bM1 c) fun r2=>.J0 0 (fun(t:Int)=>[.t 9 (.t (tI t)),.x 2,.x 16,.x 25,.d 2]) (.I (p2.F2==r2.1) (.R 0) (.I (p2.F2==r2.2) (.R 1) (.R (-1)))) fun half=>.I ((decide (half>=0))&&((!p2.ap8)||(p2.aO3==half))) (.R ((⟨true,o6 (1-half),0,true⟩:Q0),0)) (.R ((⟨false,0,0,true⟩:Q0),0)))))
def bV6 (w:ay3)(cq6:Int):C prog (Int×Int):=.of Z call333 func333 [aq5 w,.t (tI cq6)] (fun r=>.S9 [.t (tI r.1),.t (tI r.2)]) (
 .K (aM0 w) fun v=>.I (!v) (.R (0,1)) (.G (decide (cq6<0)) (.R true) (.K (aT1 w) fun v2=>.R (decide (cq6>=v2))) fun b2=>.I b2 (.R (0,2)) (.K (bd2 w) fun v3=>.R (o6 (cq6*v3),0))))
def bP1 (w:ay3)(t2 cq6 half period:Int):C prog (B8×Int):=.of Z call274 func274 [aq5 w,.t (tI t2),.t (tI cq6),.t (tI half),.t (tI period)] (fun r=>.S9 [bC2 r.1,.t (tI r.2)]) (
 .K (aM0 w) fun v=>.I (!v) (.R ((⟨false,0,0,0,0,0⟩:B8),1)) (.K (bV6 w cq6) fun r2=>.G (r2.2 !=0) (.R true) (.K (aw0 t2) fun v2=>.R (!v2)) fun b2=>.I ((((b2||(decide (half<0)))||(decide (half>1)))||(decide (period<(o6 (w.aE4+1)))))||(decide (period>1073741824))) (.R ((⟨false,0,0,0,0,0⟩:B8),2)) (.K (bd2 w) fun v3=>.J0 0 (fun(t:Int)=>[.c 15 3 [.t (tI t)]]) (.I (cq6==0) (.O (.quo .i64 period (o6 (w.aE4+1))) fun q=>.R q) (.R period)) fun f2=>.K (aT1 w) fun v4=>.I (cq6==(o6 (v4-1))) (.R ((⟨true,t2,o6 ((o6 (half*23040))+r2.1),f2,v3,o6 (v3*(o6 (w.aE4+1)))⟩:B8),0)) (.R ((⟨true,t2,o6 ((o6 (half*23040))+r2.1),f2,v3,v3⟩:B8),0)))))
def T4 (bM0 M8:Int):C prog Int:=.of Z call334 func334 [.t (tI bM0),.t (tI M8)] (fun r=>.t (tI r)) (
 .K (ai9 bM0) fun v=>.G (!v) (.R true) (.K (ai9 M8) fun v2=>.R (!v2)) fun b2=>.I b2 (.R (-1)) (.K (aa1 (o6 (M8-bM0)) 46080) fun v3=>.R v3))
def aL0 (c:B8):C prog Int:=.of Z call403 func403 [bC2 c] (fun r=>.t (tI r)) (
 .K (ak1 c) fun v=>.I (!v) (.R 1) (.I (!c.L9) (.R 6) (.R 0)))
def bm6 (a b2:Int):C prog Int:=.of Z call404 func404 [.t (tI a),.t (tI b2)] (fun r=>.t (tI r)) (
 .K (ao2 a b2 2) fun r2=>.R r2.1)
def aF5 (c:B8)(bV5:Int):C prog (Int×Int):=.of Z call375 func375 [bC2 c,.t (tI bV5)] (fun r=>.S9 [.t (tI r.1),.t (tI r.2)]) (
 .K (aL0 c) fun v=>.I (v !=0) (.R (0,v)) (.I ((decide (bV5<0))||(decide (bV5>46080))) (.R (0,2)) (.K (bm6 (o6 (bV5*c.A0)) c.M5) fun v2=>.R (v2,0))))
def al6 (e2:o7)(aD1:Int):C prog (Int×Bool):=.of Z call405 func405 [av0 e2,.t (tI aD1)] (fun r=>.S9 [.t (tI r.1),.t (tB r.2)]) (
 .K (Y8 e2.z7 aD1) fun v=>.D [] []<| .O (.quo .i64 (o6 ((K2 v 0)*46080)) (e2.z7.length:Int)) fun q=>.R (ef7 (o6 (e2.P0+q)) 46080,decide (v>=0)))
def aw4 (e2:o7)(aD1:Int):C prog (Int×Int):=.of Z call376 func376 [av0 e2,.t (tI aD1)] (fun r=>.S9 [.t (tI r.1),.t (tI r.2)]) (
 .K (R3 e2) fun v=>.I (!v) (.R (0,1)) (.K (al6 e2 aD1) fun r2=>.I (!r2.2) (.R (0,7)) (.R (r2.1,0))))
def ab1 (f2:A6)(c:Int):C prog Bool:=.of Z call377 func377 [aQ2 f2,.el (aI8 c)] (fun r=>.t (tB r)) (
 .R (f2.w9==c))
def aq0 (f2:A6)(c:o7):C prog Bool:=.of Z call421 func421 [aQ2 f2,.el (bR8 c)] (fun r=>.t (tB r)) (
 .K (aa2 c f2) fun v=>.R (!v))
def aw5 (g c:A6):C prog Bool:=.of Z call422 func422 [aQ2 g,.el (C1 c)] (fun r=>.t (tB r)) (
 .R (g.w9==c.w9))
def Q9 (aZ1 kind bT5:Int)(c:List C8)(c2:A6):CG prog (List C8):=.of Z call423 func423 [.t (tI aZ1),.t (tI kind),.t (tI bT5),.ptr 1000000 0,.el (C1 c2)] [(1000000,.box [.own 1000001]),(1000001,.rs 156 4 c ay6)] (fun _=>.S9 []) (fun r=>[(900000,.rs 156 4 r ay6),(1000000,.box [.own 900000])]) [900000] (
 .D [] []<| .K (aa1 aZ1 46080) fun v=>.Z (.rn [(1000001,2136)])<| .U (.ap ay6 c ([(⟨v,kind,c2.w9,bT5⟩:C8)]:List C8) 2136) fun l=>.R l)
def M6 (d c:Int):C prog Int:=.of Z call424 func424 [.t (tI d),.el (aI8 c)] (fun r=>.t (tI r)) (
 .O (.quo .i64 (o6 (d*23040)) c) fun q=>.R q)
def al5 (f2:A6):C prog Int:=.of Z call425 func425 [aQ2 f2] (fun r=>.t (tI r)) (
 .I (f2.ag3==0) (.R 0) (.I (f2.Extra==0) (.R 1) (.R 2)))
def cp9:Go.Shelf.Ren:=⟨fun|6=>426|14=>449|15=>410|20=>461|21=>462|22=>463|23=>464|24=>465|25=>466|26=>467|27=>468|28=>437|29=>438|46=>473|47=>453|48=>454|49=>474|50=>475|57=>477|n=>n,fun|0=>0|3=>3|4=>4|5=>5|9=>9|22=>467|24=>156|25=>484|39=>245|45=>487|46=>488|50=>204|53=>382|55=>385|66=>503|70=>507|76=>516|77=>333|n=>n,fun|n=>n⟩
open Go.Shelf in
theorem et8:SlLaysF0.n6 prog cp9:={
 mixed:=by kernel_rfl,
 f6:=⟨Tryz.f426.name,by decide,func426.trans (congrArg some (by kernel_rfl))⟩,
 f14:=⟨Tryz.f449.name,by decide,func449.trans (congrArg some (by kernel_rfl))⟩,
 f15:=func410.trans (congrArg some (by kernel_rfl)),
 f20:=⟨Tryz.f461.name,by decide,func461.trans (congrArg some (by kernel_rfl))⟩,
 f21:=⟨Tryz.f462.name,by decide,func462.trans (congrArg some (by kernel_rfl))⟩,
 f22:=⟨Tryz.f463.name,by decide,func463.trans (congrArg some (by kernel_rfl))⟩,
 f23:=⟨Tryz.f464.name,by decide,func464.trans (congrArg some (by kernel_rfl))⟩,
 f24:=⟨Tryz.f465.name,by decide,func465.trans (congrArg some (by kernel_rfl))⟩,
 f25:=⟨Tryz.f466.name,by decide,func466.trans (congrArg some (by kernel_rfl))⟩,
 f26:=⟨Tryz.f467.name,by decide,func467.trans (congrArg some (by kernel_rfl))⟩,
 f27:=⟨Tryz.f468.name,by decide,func468.trans (congrArg some (by kernel_rfl))⟩,
 f28:=func437.trans (congrArg some (by kernel_rfl)),
 f29:=func438.trans (congrArg some (by kernel_rfl)),
 f46:=⟨Tryz.f473.name,by decide,func473.trans (congrArg some (by kernel_rfl))⟩,
 f47:=func453.trans (congrArg some (by kernel_rfl)),
 f48:=func454.trans (congrArg some (by kernel_rfl)),
 f49:=⟨Tryz.f474.name,by decide,func474.trans (congrArg some (by kernel_rfl))⟩,
 f50:=⟨Tryz.f475.name,by decide,func475.trans (congrArg some (by kernel_rfl))⟩,
 f57:=⟨Tryz.f477.name,by decide,func477.trans (congrArg some (by kernel_rfl))⟩,
 t0:=Tryz.underlying0,
 a0:=Tryz.isAgg0,
 z0:=Tryz.sizeOf0,
 v0:=Tryz.zeroValue0,
 t3:=Tryz.underlying3,
 a3:=Tryz.isAgg3,
 z3:=Tryz.sizeOf3,
 v3:=Tryz.zeroValue3,
 t4:=Tryz.underlying4,
 a4:=Tryz.isAgg4,
 z4:=Tryz.sizeOf4,
 v4:=Tryz.zeroValue4,
 t5:=Tryz.underlying5,
 a5:=Tryz.isAgg5,
 z5:=Tryz.sizeOf5,
 v5:=Tryz.zeroValue5,
 t9:=Tryz.underlying9,
 a9:=Tryz.isAgg9,
 z9:=Tryz.sizeOf9,
 v9:=Tryz.zeroValue9,
 t22:=Tryz.underlying467,
 a22:=Tryz.isAgg467,
 z22:=Tryz.sizeOf467,
 v22:=Tryz.zeroValue467,
 t25:=Tryz.underlying484,
 a25:=Tryz.isAgg484,
 z25:=Tryz.sizeOf484,
 v25:=Tryz.zeroValue484,
 t39:=Tryz.underlying245,
 a39:=Tryz.isAgg245,
 z39:=Tryz.sizeOf245,
 v39:=Tryz.zeroValue245,
 t45:=Tryz.underlying487,
 a45:=Tryz.isAgg487,
 z45:=Tryz.sizeOf487,
 v45:=Tryz.zeroValue487,
 t46:=Tryz.underlying488,
 a46:=Tryz.isAgg488,
 z46:=Tryz.sizeOf488,
 v46:=Tryz.zeroValue488,
 t50:=Tryz.underlying204,
 a50:=Tryz.isAgg204,
 z50:=Tryz.sizeOf204,
 v50:=Tryz.zeroValue204,
 t53:=Tryz.underlying382,
 a53:=Tryz.isAgg382,
 z53:=Tryz.sizeOf382,
 v53:=Tryz.zeroValue382,
 t55:=Tryz.underlying385,
 a55:=Tryz.isAgg385,
 z55:=Tryz.sizeOf385,
 v55:=Tryz.zeroValue385,
 t66:=Tryz.underlying503,
 a66:=Tryz.isAgg503,
 z66:=Tryz.sizeOf503,
 v66:=Tryz.zeroValue503,
 t70:=Tryz.underlying507,
 a70:=Tryz.isAgg507,
 z70:=Tryz.sizeOf507,
 v70:=Tryz.zeroValue507,
 t76:=Tryz.underlying516,
 a76:=Tryz.isAgg516,
 z76:=Tryz.sizeOf516,
 v76:=Tryz.zeroValue516,
 t77:=Tryz.underlying333,
 a77:=Tryz.isAgg333,
 z77:=Tryz.sizeOf333,
 v77:=Tryz.zeroValue333}
theorem bx1 (s:List C8)(n:Nat)(cs:List (List Tree))(f:C8->C8->Option Int)(h:∀x0 x1,aR1 prog n ([aX3 x0,aX3 x1]++cs.map T.el) (f x0 x1) (fun r=>.t (tI r))):
  bh9 prog 426 [.own 1000000,.fz n cs] [(1000000,.rows 156 4 s.length (s.map ay6))] (bU6 f s) (fun _=>.S9 []) (fun r=>[(1000000,.rows 156 4 r.length (r.map ay6))]):=
 cp6 (E:=C8) (enc:=ay6) (ρ:=cp9) et8 (k:=4) (fun x=>[.int .i64 x.E3,.int .i64 x.Kind,.int .i64 x.w9,.int .i64 x.aj9]) (fun _=>rfl) (fun _=>rfl) (fun x v hv=>by simp only[cr6,eP5,or_false]at hv;rcases hv with rfl|rfl|rfl|rfl<;>rfl) (fun w=>Tryz.isAgg156 w) (fun w=>Tryz.sizeOf156 w) (A:=aX3) (fun _=>rfl) f h s
def ac9 (s:List C8)(f:Cl prog (C8×C8) Int (fun x=>[aX3 x.1,aX3 x.2]) (fun r=>.t (tI r))):CG prog (List C8):=
 ⟨426,[.own 1000000,.fz f.n f.cs],[(1000000,.rows 156 4 s.length (s.map ay6))],bU6 (fun x y=>f.f (x,y)) s,fun k=>df5 (fun x y=>f.e k (x,y)) s,fun _=>.S9 [],fun r=>[(1000000,.rows 156 4 r.length (r.map ay6))],[],bx1 s f.n f.cs _ (fun x y=>f.ok (x,y)),fun k r h=>dz4 (fun x y r h=>f.le k (x,y) r h) h⟩
def am3 (a b2:C8):C prog Int:=.of Z call427 func427 [aX3 a,aX3 b2] (fun r=>.t (tI r)) (
 .D [] []<| .K (G9 a.E3 b2.E3) fun v=>.K (G9 a.w9 b2.w9) fun v2=>.K (G9 a.Kind b2.Kind) fun v3=>.K (G9 a.aj9 b2.aj9) fun v4=>.K (ag8 ([v,v2,v3,v4]:List Int)) fun v5=>.R v5)
def aD4 (l:List A6)(i:Int)(_:Unit):M prog (List C8×Int) (Fl Unit (List C8×Int)):=
 .O (.ix C1 l i) fun x=>.U (.sF C1 l 0 i) fun l2=>.Z (.fb 9)<| .K (G4 l2 (.of (fun z_=>aw5 z_ x) 422 [C1 x])) fun v4=>.I v4 (.R (.ret (([]:List C8),8))) (.R (.next ()))
def ax2 (e2:o7)(O3 _:Int)(x2:A6)(f2:List C8):M prog (List C8×Int) (Fl (List C8) (List C8×Int)):=
 .W (.hx 0)<| .K (al6 e2 x2.w9) fun r2=>.Z (.fb 12)<| .KG (Q9 (o6 (r2.1-x2.D9)) 2 0 f2 x2) [2512] fun v5=>.K (M6 x2.L2 O3) fun v6=>.KG (Q9 (o6 ((o6 (r2.1-x2.D9))-(J1 v6 23040))) 1 0 v5 x2) [2584] fun v7=>.D [] []<| .K (M6 x2.ag3 O3) fun v8=>.K (M6 x2.Gap O3) fun v9=>.K (M6 x2.Extra O3) fun v10=>.I (decide ((K2 (K2 v8 v9) v10)>23040)) (.R (.ret (([]:List C8),2))) (.K (al5 x2) fun v11=>.J0 0 (fun(t:List C8)=>[.x 56,.x 62,.x 65,.b 10 (.box [.own 2840]),.b 2840 (.rs 156 4 t ay6),.d 2584]) (.I (decide (v11>0)) (.KG (Q9 (o6 (r2.1-x2.End)) 4 1 v7 x2) [2776] fun v12=>.K (M6 x2.ag3 O3) fun v13=>.KG (Q9 (o6 ((o6 (r2.1-x2.End))-v13)) 3 1 v12 x2) [2840] fun v14=>.R v14) (.Z (.rn [(2584,2840)])<| .R v7)) fun f3=>.K (al5 x2) fun v15=>.I (decide (v15>1)) (.K (M6 x2.Gap O3) fun v16=>.KG (Q9 (o6 ((o6 (r2.1-x2.End))+v16)) 3 2 f3 x2) [2928] fun v17=>.D [] []<| .K (M6 x2.Gap O3) fun v18=>.K (M6 x2.Extra O3) fun v19=>.KG (Q9 (o6 ((o6 ((o6 (r2.1-x2.End))+v18))+v19)) 4 2 v17 x2) [3032] fun v20=>.R (.next v20)) (.Z (.rn [(2840,3032)])<| .R (.next f3)))
def aF8 (e2:o7)(l:List A6)(O3:Int):C prog (List C8×Int):=.of Z call406 func406 [av0 e2,.t (tS C1 l),.t (tI O3)] (fun r=>.S9 [.t (tS ay6 r.1),.t (tI r.2)]) (
 .K (R3 e2) fun v=>.Z (.fb 3)<| .G (!v) (.R true) (.K (G4 l (.of (fun z_=>aq0 z_ e2) 421 [bR8 e2])) fun v2=>.R v2) fun b2=>.I b2 (.R (([]:List C8),1)) (.K (O4 O3 4000 1000000) fun v3=>.I (!v3) (.R (([]:List C8),2)) (M.QN (l.length:Int) 2 32 (fun(_:Unit)=>[]) 0 (.one .rt) (aD4 l) () (fun _=>.Z (.fb 5)<| .Z (.nb 10 3032 156 4 [0])<|M.Q C1 l 2 45 (fun(t:List C8)=>[.b 3032 (.rs 156 4 t ay6)]) 2 (.one .rt) (ax2 e2 O3) ([]:List C8) (fun f4=>.KG (ac9 f4 (.of (fun z_=>am3 z_.1 z_.2) 427 [])) [] fun v21=>.R (v21,0)) (fun r3=>.R r3)) (fun r4=>.R r4))))
def D2 (a:Int)(cmp:Cl prog (j1×j1) Int (fun x=>[B5 x.1,B5 x.2]) (fun r=>.t (tI r)))(s2:Int×List j1):M prog (List j1) ((Int×List j1)⊕((Int×List j1)⊕Empty)):=
 .J0 1 (fun(t:Bool)=>[.t 34 (.t (tB t))]) (.D [] []<| .Sp (decide (s2.1>a)) (.O (.ix B6 s2.2 s2.1) fun x=>.W (.ly 0)<| .O (.ix B6 s2.2 (o6 (s2.1-1))) fun x2=>.W (.ly 0)<| .K (cmp.at (x,x2)) fun v=>.R (decide (v<0))) (.R false)) fun v2=>.I v2 (.D [] [(15,1000000)]<| .O (.ix B6 s2.2 (o6 (s2.1-1))) fun x3=>.W (.ly 0)<| .O (.ix B6 s2.2 s2.1) fun x4=>.W (.ly 0)<| .W (.hx 0)<| .U (.st B6 s2.2 s2.1 x3 0) fun l=>.O (.ix B6 l (o6 (s2.1-1))) fun _=>.U (.st B6 l (o6 (s2.1-1)) x4 0) fun l2=>.R (.inl (o6 (s2.1-1),l2))) (.R (.inr (.inl (s2.1,s2.2))))
def C0 (a b2:Int)(cmp:Cl prog (j1×j1) Int (fun x=>[B5 x.1,B5 x.2]) (fun r=>.t (tI r)))(s:Int×List j1):M prog (List j1) ((Int×List j1)⊕((Int×List j1)⊕Empty)):=
 .I (decide (s.1<b2)) (.L (fun(t:Int×List j1)=>[.t 9 (.t (tI t.1)),.b 1000000 (.rs 450 5 t.2 B6)]) 2 (.e) (D2 a cmp) (s.1,s.2) (fun s3=>.R (.inl (o6 (s.1+1),s3.2))) (fun t=>t.elim)) (.R (.inr (.inl (s.1,s.2))))
def B7 (data:List j1)(a b2:Int)(cmp:Cl prog (j1×j1) Int (fun x=>[B5 x.1,B5 x.2]) (fun r=>.t (tI r))):CG prog (List j1):=.of Z call450 func450 [.own 1000000,.t (tI a),.t (tI b2),.fz cmp.n cmp.cs] [(1000000,.rs 450 5 data B6)] (fun _=>.S9 []) (fun r=>[(1000000,.rs 450 5 r B6)]) [] (
 .L (fun(t:Int×List j1)=>[.t 8 (.t (tI t.1)),.b 1000000 (.rs 450 5 t.2 B6)]) 0 (.e) (C0 a b2 cmp) (o6 (a+1),data) (fun s4=>.R s4.2) (fun t=>t.elim))
def J6 (data:List j1)(a m2 b2:Int)(cmp:Cl prog (j1×j1) Int (fun x=>[B5 x.1,B5 x.2]) (fun r=>.t (tI r))):CG prog (List j1):=⟨451,[.own 1000000,.t (tI a),.t (tI m2),.t (tI b2),.fz cmp.n cmp.cs],[(1000000,.rs 450 5 data B6)],none,fun _=>none,(fun _=>.S9 []),(fun r=>[(1000000,.rs 450 5 r B6)]),[],⟨call451,fun _ h=>by cases h⟩,fun _ _ h=>by cases h⟩
set_option maxHeartbeats 4000000
def M1 (n2:Int)(cmp:Cl prog (j1×j1) Int (fun x=>[B5 x.1,B5 x.2]) (fun r=>.t (tI r)))(s:Int×Int×List j1):M prog (List j1) ((Int×Int×List j1)⊕((Int×Int×List j1)⊕Empty)):=
 .I (decide (s.2.1<=n2)) (.KG (B7 s.2.2 s.1 s.2.1 cmp) [] fun v=>.R (.inl (s.2.1,o6 (s.2.1+20),v))) (.R (.inr (.inl (s.1,s.2.1,s.2.2))))
def P2 (n2:Int)(cmp:Cl prog (j1×j1) Int (fun x=>[B5 x.1,B5 x.2]) (fun r=>.t (tI r)))(s3:Int×List j1)(s4:Int×Int×List j1):M prog (List j1) ((Int×Int×List j1)⊕((Int×Int×List j1)⊕Empty)):=
 .I (decide (s4.2.1<=n2)) (.KG (J6 s4.2.2 s4.1 (o6 (s4.1+s3.1)) s4.2.1 cmp) [] fun v3=>.R (.inl (s4.2.1,o6 (s4.2.1+(o6 (2*s3.1))),v3))) (.R (.inr (.inl (s4.1,s4.2.1,s4.2.2))))
def M3 (n2:Int)(cmp:Cl prog (j1×j1) Int (fun x=>[B5 x.1,B5 x.2]) (fun r=>.t (tI r)))(s3:Int×List j1):M prog (List j1) ((Int×List j1)⊕((Int×List j1)⊕Empty)):=
 .I (decide (s3.1<n2)) (.L (fun(t:Int×Int×List j1)=>[.t 7 (.t (tI t.1)),.t 8 (.t (tI t.2.1)),.b 1000000 (.rs 450 5 t.2.2 B6)]) 4 (.e) (P2 n2 cmp s3) (0,o6 (2*s3.1),s3.2) (fun s5=>.I (decide ((o6 (s5.1+s3.1))<n2)) (.KG (J6 s5.2.2 s5.1 (o6 (s5.1+s3.1)) n2 cmp) [] fun v4=>.R (.inl (o6 (s3.1*2),v4))) (.R (.inl (o6 (s3.1*2),s5.2.2)))) (fun t=>t.elim)) (.R (.inr (.inl (s3.1,s3.2))))
def I8 (data:List j1)(n2:Int)(cmp:Cl prog (j1×j1) Int (fun x=>[B5 x.1,B5 x.2]) (fun r=>.t (tI r))):CG prog (List j1):=.of Z call428 func428 [.own 1000000,.t (tI n2),.fz cmp.n cmp.cs] [(1000000,.rs 450 5 data B6)] (fun _=>.S9 []) (fun r=>[(1000000,.rs 450 5 r B6)]) [] (
 .L (fun(t:Int×Int×List j1)=>[.t 7 (.t (tI t.1)),.t 8 (.t (tI t.2.1)),.b 1000000 (.rs 450 5 t.2.2 B6)]) 0 (.e) (M1 n2 cmp) (0,20,data) (fun s2=>.KG (B7 s2.2.2 s2.1 n2 cmp) [] fun v2=>.L (fun(t:Int×List j1)=>[.t 6 (.t (tI t.1)),.x 23,.b 1000000 (.rs 450 5 t.2 B6)]) 2 (.e) (M3 n2 cmp) (20,v2) (fun s6=>.R s6.2) (fun t=>t.elim)) (fun t=>t.elim))
def E6 (x:List j1)(cmp:Cl prog (j1×j1) Int (fun x=>[B5 x.1,B5 x.2]) (fun r=>.t (tI r))):CG prog (List j1):=.of Z call407 func407 [.own 1000000,.fz cmp.n cmp.cs] [(1000000,.rs 450 5 x B6)] (fun _=>.S9 []) (fun r=>[(1000000,.rs 450 5 r B6)]) [] (
 .KG (I8 x (x.length:Int) cmp) [] fun v=>.R v)
def ae8 (a b2:j1):C prog Int:=.of Z call408 func408 [B5 a,B5 b2] (fun r=>.t (tI r)) (
 .D [] []<| .K (G9 a.cF7 b2.cF7) fun v=>.K (I9 a.x) fun v2=>.K (I9 b2.x) fun v3=>.K (G9 v2 v3) fun v4=>.K (ag8 ([v,v4]:List Int)) fun v5=>.R v5)
def ak6 (begin _:Int)(x:C8)(out:List j1):M prog (List j1×Bool) (Fl (List j1) Empty):=
 .W (.hx 0)<| .D [] []<| .K (T4 begin x.E3) fun v=>.U (.ap B6 out ([(⟨x,v⟩:j1)]:List j1) 2368) fun l=>.R (.next l)
def Y6 (x2:(Int×Int))(_:Int)(x3:j1)(s:Int×Int×Int):M prog (List j1×Bool) (Fl (Int×Int×Int) (List j1×Bool)):=
 .W (.hx 0)<| .W (.ly 0)<| .I ((x3.x.Kind !=x2.1)&&(x3.x.Kind !=x2.2)) (.R (.next (s.1,s.2.1,s.2.2))) (.I (((x3.x.Kind !=s.2.2)||(decide (x3.cF7<=s.1)))||(decide (x3.x.aj9<s.2.1))) (.R (.ret (([]:List j1),false))) (.D [] []<| .R (.next (x3.cF7,x3.x.aj9,o6 ((o6 (x2.1+x2.2))-s.2.2)))))
def W2 (v2:List j1)(v3:Int):M prog (List j1×Bool) (Int⊕(Int⊕(List j1×Bool))):=
 .I (decide (v3<2)) (.O (.arr (fun y=>.agg [.t (tI y.1),.t (tI y.2)]) ([(1,2),(3,4)]:List (Int×Int)) v3) fun x2=>.D [] []<|M.Q B6 v2 2 60 (fun(t:Int×Int×Int)=>[.t 17 (.t (tI t.1)),.t 18 (.t (tI t.2.1)),.t 19 (.t (tI t.2.2)),.x 56]) 4 (.one .rt) (Y6 x2) ((-1),0,x2.1) (fun _=>.R (.inl (o6 (v3+1)))) (fun r3=>.R (.inr (.inr r3)))) (.R (.inr (.inl v3)))
def as4 (e2:o7)(f2:A6)(begin O3:Int):C prog (List j1×Bool):=.of Z call378 func378 [av0 e2,aQ2 f2,.t (tI begin),.t (tI O3)] (fun r=>.S9 [.t (tS B6 r.1),.t (tB r.2)]) (
 .Z (.fr 25)<| .K (aF8 e2 ([f2]:List A6) O3) fun r2=>.I (r2.2 !=0) (.R (([]:List j1),false)) (.Z (.np 12 2368 450 5 [])<|M.Q ay6 r2.1 2 34 (fun(t:List j1)=>[.t 12 (.own 2368),.x 4,.x 5,.b 2368 (.rs 450 5 t B6),.d 4,.d 5]) 0 (.e) (ak6 begin) ([]:List j1) (fun dm0=>.KG (E6 dm0 (.of (fun z_=>ae8 z_.1 z_.2) 408 [])) [] fun v2=>.L (fun(t:Int)=>[.t 53 (.t (tI t)),.x 48]) 2 (.one .rt) (W2 v2) 0 (fun _=>.R (v2,true)) (fun r4=>.R r4)) (fun t=>t.elim)))
def ah7 (v _:Int)(x3:j1)(f3:List A9):M prog j2 (Fl (List A9) Empty):=
 .W (.hx 0)<| .Pn 40000<| .D [] [(13,40000)]<| .U (.ap K0 f3 ([(⟨x3.x,o6 (v+x3.cF7),false,0⟩:A9)]:List A9) 40000) fun l=>.R (.next l)
def ah6 (s:j2)(r2:Int×Int)(_ x:Int)(f2:List A9):M prog j2 (Fl (List A9) Empty):=
 .W (.hx 0)<| .D [] []<| .K (aw4 s.o9 x) fun r3=>.K (T4 s.j8.E3 (ef7 (o6 (r3.1+5760)) 46080)) fun v=>.Z (.fb 5)<| .K (J2 s.Next (.of (fun z_=>ab1 z_ x) 377 [aI8 x])) fun v2=>.I ((decide (v>=s.j8.Q4))||(decide (v2<0))) (.R (.next f2)) (.D [] []<| .O (.ix C1 s.Next v2) fun x2=>.K (as4 s.o9 x2 (ef7 (o6 (r3.1+5760)) 46080) r2.1) fun r4=>.I (!r4.2) (.R (.next f2)) (M.Q B6 r4.1 2 90 (fun(t:List A9)=>[.x 34,.x 35,.x 36,.x 45,.x 46,.x 47,.x 48,.x 52,.x 53,.x 54,.x 59,.x 60,.x 61,.x 62,.x 70,.x 71,.x 72,.x 74,.x 75,.x 76,.b 40000 (.rs 158 7 t K0)]) 2 (.e) (ah7 v) f2 (fun f4=>.R (.next f4)) (fun t=>t.elim)))
def ai6 (s:j2):CG prog j2:=.of Z call335 func335 [.ptr 1000000 0] [(1000000,.box (aw6 (aM3 s) [(11,.own 1000001)])),(1000001,.rs 158 7 s.F3 K0)] (fun _=>.S9 []) (fun r=>[(900000,.rs 158 7 r.F3 K0),(1000000,.box (aw6 (aM3 r) [(11,.own 900000)]))]) [900000] (
 .K (aF5 s.j8 23040) fun r2=>.Z (.rn [(1000001,40000)])<|M.Q aI8 s.o9.z7 2 29 (fun(t:List A9)=>[.x 16,.x 17,.x 18,.x 23,.x 24,.x 25,.x 26,.b 40000 (.rs 158 7 t K0)]) 0 (.e) (ah6 s r2) s.F3 (fun f5=>.R (⟨s.o9,s.j8,s.j7,s.Next,f5,s.Cut⟩:j2)) (fun t=>t.elim))
def ac7 (v4 i:Int)(f2:List A9):M prog (j2×List o5×Int) (Fl (List A9) Empty):=
 .D [] []<| .O (.ix K0 f2 i) fun x=>.W (.ly 0)<| .W (.hx 0)<| .U (.st K0 f2 i (⟨x.Event,K2 (-1048576) (o6 (x.Left-v4)),x.F6,x.At⟩:A9) 0) fun l=>.R (.next l)
def am8 (s:j2)(c:B8):C prog (j2×List o5×Int):=.of Z call275 func275 [U6 s,bC2 c] (fun r=>.S9 [U6 r.1,.t (tS y9 r.2.1),.t (tI r.2.2)]) (
 .K (K9 s) fun v=>.G (!v) (.R true) (.K (ak1 c) fun v2=>.R (!v2)) fun b2=>.I b2 (.R ((⟨(⟨([]:List Int),0⟩:o7),(⟨false,0,0,0,0,0⟩:B8),(⟨0,([]:List o4)⟩:u5),([]:List A6),([]:List A9),false⟩:j2),([]:List o5),1)) (.I (!c.L9) (.R ((⟨(⟨([]:List Int),0⟩:o7),(⟨false,0,0,0,0,0⟩:B8),(⟨0,([]:List o4)⟩:u5),([]:List A6),([]:List A9),false⟩:j2),([]:List o5),6)) (.I (decide (c.At<s.j7.P8)) (.R ((⟨(⟨([]:List Int),0⟩:o7),(⟨false,0,0,0,0,0⟩:B8),(⟨0,([]:List o4)⟩:u5),([]:List A6),([]:List A9),false⟩:j2),([]:List o5),16)) (.KG (N5 s) [2280] fun v3=>.KG (ad6 v3 c.At) [2304] fun r2=>.J0 0 (fun(t:List A9)=>[.x 2,.x 22,.x 27,.x 29,.x 30,.x 36,.x 39,.x 40,.b 2304 (.rs 158 7 t K0),.d 2]) (.I s.j8.L9 (.K (T4 s.j8.E3 c.E3) fun v4=>M.QN (r2.2.F3.length:Int) 2 51 (fun(t:List A9)=>[.x 2,.x 22,.x 27,.x 29,.x 30,.x 36,.x 39,.x 40,.x 42,.x 43,.x 45,.x 48,.x 49,.b 2304 (.rs 158 7 t K0),.d 2]) 1 (.e) (ac7 v4) r2.2.F3 (fun f3=>.R f3) (fun t=>t.elim)) (.R r2.2.F3)) fun f4=>.I (!r2.2.Cut) (.KG (ai6 (⟨(⟨r2.2.o9.z7,r2.2.o9.P0⟩:o7),c,(⟨r2.2.j7.P8,r2.2.j7.j5⟩:u5),r2.2.Next,f4,r2.2.Cut⟩:j2)) [2592] fun v5=>.I (decide ((v5.F3.length:Int)>200)) (.R ((⟨(⟨([]:List Int),0⟩:o7),(⟨false,0,0,0,0,0⟩:B8),(⟨0,([]:List o4)⟩:u5),([]:List A6),([]:List A9),false⟩:j2),([]:List o5),5)) (.KG (al8 v5) [] fun v6=>.R (v6,r2.1,0))) (.R ((⟨(⟨r2.2.o9.z7,r2.2.o9.P0⟩:o7),c,(⟨r2.2.j7.P8,r2.2.j7.j5⟩:u5),r2.2.Next,f4,r2.2.Cut⟩:j2),r2.1,0))))))
def be9 (V0:N6)(e2:Int)(c:N6):C prog N6:=.of Z call330 func330 [bc1 V0,.t (tI e2),.el (cA5 c)] (fun r=>bc1 r) (
 .I (e2 !=0) (.R c) (.R V0))
def bv2 (s:o8)(aZ1:Int):CG prog o8:=.of Z call192 func192 [.ptr 1000000 0,.t (tI aZ1)] [(1000000,.box (aw6 (I0 s) [(113,.own 1000001)])),(1000001,.rs 203 3 s.u4 y9)] (fun _=>.S9 []) (fun r=>[(900000,.rs 203 3 r.u4 y9),(1000000,.box (aw6 (I0 r) [(113,.own 900000)]))]) [900000] (
 .K (bk9 s.u.B4 aZ1) fun r2=>.D [] []<| .K (bM8 s.u.B4) fun v=>.K (be9 r2.1 r2.2.2 v) fun v2=>.I ((r2.2.2 !=0)||(!r2.2.1)) (.R (⟨(⟨s.u.j3,s.u.j4,s.u.c8,s.u.D8,s.u.D3,v2,s.u.H4,s.u.H7,s.u.G1,s.u.C7,s.u.u3,s.u.E7,s.u.Time⟩:Y9),s.d,s.k,s.t,s.u0,s.X6,s.Y5,s.A3,s.ak8,s.B0,s.V3,s.A4,s.G2,s.u9,s.known,s.cut,s.u4,s.J7⟩:o8)) (.D [] []<| .K (bB1 s.u.D8) fun v3=>.K (bs7) fun v4=>.K (cy4 v4 s.u.D8 aZ1) fun r3=>.K (aZ6 r3.1 r3.2 v3) fun v5=>.KG (aZ8 (⟨(⟨s.u.j3,s.u.j4,s.u.c8,s.u.D8,s.u.D3,v2,s.u.H4,s.u.H7,s.u.G1,s.u.C7,s.u.u3,s.u.E7,s.u.Time⟩:Y9),s.d,s.k,s.t,s.u0,s.X6,s.Y5,s.A3,s.ak8,s.B0,s.V3,s.A4,s.G2,s.u9,s.known,s.cut,s.u4,s.J7⟩:o8) v5 aZ1) [2464] fun v6=>.I (v6.u.D8.Mode !=2) (.R v6) (.J0 0 (fun(t:o8)=>[.x 4,.x 10,.x 11,.x 12,.x 13,.x 20,.x 21,.x 22,.x 23,.x 24,.x 30,.x 31,.x 32,.x 39,.x 40,.x 41,.x 42,.x 43,.x 47,.x 48,.x 49,.x 50,.x 59,.x 60,.x 61,.x 62,.x 63,.x 66,.x 67,.x 68,.x 69,.x 70,.b 2816 (.rs 203 3 t.u4 y9),.b 1000000 (.box (aw6 (I0 t) [(113,.own 2816)])),.d 4,.d 2464]) (.I (v6.u.D8.Z5==0) (.D [] []<| .K (bv0 v6.u.D3) fun v7=>.K (bE3) fun v8=>.K (bK4 v8 v6.u.D3) fun r4=>.K (aT6 r4.1 r4.2 v7) fun v9=>.I (!v9.ap8) (.KG (aY0 (⟨(⟨v6.u.j3,v6.u.j4,v6.u.c8,v6.u.D8,v9,v6.u.B4,v6.u.H4,v6.u.H7,v6.u.G1,v6.u.C7,v6.u.u3,v6.u.E7,v6.u.Time⟩:Y9),v6.d,v6.k,v6.t,v6.u0,v6.X6,v6.Y5,v6.A3,v6.ak8,v6.B0,v6.V3,v6.A4,v6.G2,v6.u9,v6.known,v6.cut,v6.u4,v6.J7⟩:o8) aZ1) [2816] fun v10=>.R v10) (.Z (.rn [(2464,2816)])<| .R (⟨(⟨v6.u.j3,v6.u.j4,v6.u.c8,v6.u.D8,v9,v6.u.B4,v6.u.H4,v6.u.H7,v6.u.G1,v6.u.C7,v6.u.u3,v6.u.E7,v6.u.Time⟩:Y9),v6.d,v6.k,v6.t,v6.u0,v6.X6,v6.Y5,v6.A3,v6.ak8,v6.B0,v6.V3,v6.A4,v6.G2,v6.u9,v6.known,v6.cut,v6.u4,v6.J7⟩:o8))) (.Z (.rn [(2464,2816)])<| .R v6)) fun f2=>.I f2.u.D3.ap8 (.D [] [(25,7)]<| .K (bs7) fun v11=>.K (bP1 v11 aZ1 f2.u.D8.Z5 f2.u.D3.aO3 f2.u.D8.A0) fun r5=>.D [] []<| .K (am8 f2.u.c8 r5.1) fun r6=>.KG (aH9 f2 (⟨(⟨r6.1.o9.z7,r6.1.o9.P0⟩:o7),(⟨r6.1.j8.L9,r6.1.j8.At,r6.1.j8.E3,r6.1.j8.A0,r6.1.j8.M5,r6.1.j8.Q4⟩:B8),(⟨r6.1.j7.P8,r6.1.j7.j5⟩:u5),r6.1.Next,r6.1.F3,r6.1.Cut⟩:j2) r6.2.1 r6.2.2) [3152] fun v12=>.R v12) (.R f2))))
def aU2 (x:Int)(s3:List Int×o8):M prog o8 ((List Int×o8)⊕((List Int×o8)⊕Empty)):=
 .G (decide ((s3.1.length:Int)>0)) (.O (.ix aI8 s3.1 0) fun x2=>.R (decide (x2<=x))) (.R false) fun b2=>.I b2 (.KG (aZ9 (⟨(⟨(⟨(⟨s3.2.u.j3.Air.X,s3.2.u.j3.Air.Y,s3.2.u.j3.Air.Z⟩:SMap),(⟨s3.2.u.j3.D9.X,s3.2.u.j3.D9.Y,s3.2.u.j3.D9.Z⟩:SMap),(⟨s3.2.u.j3.j9.X,s3.2.u.j3.j9.Y,s3.2.u.j3.j9.Z⟩:SMap),(⟨s3.2.u.j3.R6.X,s3.2.u.j3.R6.Y,s3.2.u.j3.R6.Z⟩:SMap),(⟨s3.2.u.j3.C6.X,s3.2.u.j3.C6.Y⟩:A7),(⟨s3.2.u.j3.L2.X,s3.2.u.j3.L2.Y⟩:A7),(⟨s3.2.u.j3.V6.X,s3.2.u.j3.V6.Y⟩:A7),(⟨s3.2.u.j3.u6.X,s3.2.u.j3.u6.Y⟩:A7),(⟨s3.2.u.j3.G6.P,s3.2.u.j3.G6.I,s3.2.u.j3.G6.Low,s3.2.u.j3.G6.aC5⟩:ak0)⟩:p6),(⟨(⟨s3.2.u.j4.C5.Value,s3.2.u.j4.C5.O8,s3.2.u.j4.C5.ai8⟩:L4),(⟨s3.2.u.j4.G6.Sum⟩:B9),s3.2.u.j4.R7,(⟨s3.2.u.j4.B2.Q8,s3.2.u.j4.B2.ay2,s3.2.u.j4.B2.P3,s3.2.u.j4.B2.av7,s3.2.u.j4.B2.Cells⟩:I2),s3.2.u.j4.H9,(⟨s3.2.u.j4.L8.j9,s3.2.u.j4.L8.I7⟩:N4)⟩:z8),(⟨(⟨s3.2.u.c8.o9.z7,s3.2.u.c8.o9.P0⟩:o7),(⟨s3.2.u.c8.j8.L9,s3.2.u.c8.j8.At,s3.2.u.c8.j8.E3,s3.2.u.c8.j8.A0,s3.2.u.c8.j8.M5,s3.2.u.c8.j8.Q4⟩:B8),(⟨s3.2.u.c8.j7.P8,s3.2.u.c8.j7.j5⟩:u5),s3.2.u.c8.Next,s3.2.u.c8.F3,s3.2.u.c8.Cut⟩:j2),(⟨s3.2.u.D8.Mode,s3.2.u.D8.Z5,s3.2.u.D8.E0,s3.2.u.D8.A0,s3.2.u.D8.I6,s3.2.u.D8.U2⟩:Q5),(⟨s3.2.u.D3.ap8,s3.2.u.D3.aO3,s3.2.u.D3.F2,s3.2.u.D3.Seen⟩:Q0),(⟨s3.2.u.B4.Seen,s3.2.u.B4.E0,s3.2.u.B4.A0⟩:N6),(⟨s3.2.u.H4.Over,s3.2.u.H4.Calm,s3.2.u.H4.Off⟩:U0),(⟨s3.2.u.H7.Question,s3.2.u.H7.an5,s3.2.u.H7.U7,s3.2.u.H7.Open,s3.2.u.H7.Off⟩:W3),(⟨s3.2.u.G1.T7,s3.2.u.G1.az1,s3.2.u.G1.ao1⟩:V7),(⟨s3.2.u.C7.K6,s3.2.u.C7.L,s3.2.u.C7.af1,s3.2.u.C7.S8⟩:B3),(⟨s3.2.u.u3.F8,s3.2.u.u3.C9,s3.2.u.u3.Rest,s3.2.u.u3.G0,s3.2.u.u3.H9,s3.2.u.u3.Path⟩:O9),(⟨s3.2.u.E7.O5,s3.2.u.E7.N9,s3.2.u.E7.ac4,s3.2.u.E7.C4,s3.2.u.E7.H9,s3.2.u.E7.E9,s3.2.u.E7.an6⟩:J4),s3.2.u.Time⟩:Y9),(⟨s3.2.d.At,s3.2.d.C5,s3.2.d.aF4,s3.2.d.be0,s3.2.d.be1⟩:L3),s3.2.k,s3.2.t,s3.2.u0,s3.2.X6,s3.2.Y5,s3.2.A3,s3.2.ak8,s3.2.B0,s3.2.V3,(⟨s3.2.A4.C4,s3.2.A4.N8,s3.2.A4.j9⟩:J9),s3.2.G2,s3.2.u9,s3.2.known,s3.2.cut,s3.2.u4,s3.2.J7⟩:o8) s3.1) [] fun r5=>.R (.inl (r5.2,(⟨(⟨(⟨(⟨r5.1.u.j3.Air.X,r5.1.u.j3.Air.Y,r5.1.u.j3.Air.Z⟩:SMap),(⟨r5.1.u.j3.D9.X,r5.1.u.j3.D9.Y,r5.1.u.j3.D9.Z⟩:SMap),(⟨r5.1.u.j3.j9.X,r5.1.u.j3.j9.Y,r5.1.u.j3.j9.Z⟩:SMap),(⟨r5.1.u.j3.R6.X,r5.1.u.j3.R6.Y,r5.1.u.j3.R6.Z⟩:SMap),(⟨r5.1.u.j3.C6.X,r5.1.u.j3.C6.Y⟩:A7),(⟨r5.1.u.j3.L2.X,r5.1.u.j3.L2.Y⟩:A7),(⟨r5.1.u.j3.V6.X,r5.1.u.j3.V6.Y⟩:A7),(⟨r5.1.u.j3.u6.X,r5.1.u.j3.u6.Y⟩:A7),(⟨r5.1.u.j3.G6.P,r5.1.u.j3.G6.I,r5.1.u.j3.G6.Low,r5.1.u.j3.G6.aC5⟩:ak0)⟩:p6),(⟨(⟨r5.1.u.j4.C5.Value,r5.1.u.j4.C5.O8,r5.1.u.j4.C5.ai8⟩:L4),(⟨r5.1.u.j4.G6.Sum⟩:B9),r5.1.u.j4.R7,(⟨r5.1.u.j4.B2.Q8,r5.1.u.j4.B2.ay2,r5.1.u.j4.B2.P3,r5.1.u.j4.B2.av7,r5.1.u.j4.B2.Cells⟩:I2),r5.1.u.j4.H9,(⟨r5.1.u.j4.L8.j9,r5.1.u.j4.L8.I7⟩:N4)⟩:z8),(⟨(⟨r5.1.u.c8.o9.z7,r5.1.u.c8.o9.P0⟩:o7),(⟨r5.1.u.c8.j8.L9,r5.1.u.c8.j8.At,r5.1.u.c8.j8.E3,r5.1.u.c8.j8.A0,r5.1.u.c8.j8.M5,r5.1.u.c8.j8.Q4⟩:B8),(⟨r5.1.u.c8.j7.P8,r5.1.u.c8.j7.j5⟩:u5),r5.1.u.c8.Next,r5.1.u.c8.F3,r5.1.u.c8.Cut⟩:j2),(⟨r5.1.u.D8.Mode,r5.1.u.D8.Z5,r5.1.u.D8.E0,r5.1.u.D8.A0,r5.1.u.D8.I6,r5.1.u.D8.U2⟩:Q5),(⟨r5.1.u.D3.ap8,r5.1.u.D3.aO3,r5.1.u.D3.F2,r5.1.u.D3.Seen⟩:Q0),(⟨r5.1.u.B4.Seen,r5.1.u.B4.E0,r5.1.u.B4.A0⟩:N6),(⟨r5.1.u.H4.Over,r5.1.u.H4.Calm,r5.1.u.H4.Off⟩:U0),(⟨r5.1.u.H7.Question,r5.1.u.H7.an5,r5.1.u.H7.U7,r5.1.u.H7.Open,r5.1.u.H7.Off⟩:W3),(⟨r5.1.u.G1.T7,r5.1.u.G1.az1,r5.1.u.G1.ao1⟩:V7),(⟨r5.1.u.C7.K6,r5.1.u.C7.L,r5.1.u.C7.af1,r5.1.u.C7.S8⟩:B3),(⟨r5.1.u.u3.F8,r5.1.u.u3.C9,r5.1.u.u3.Rest,r5.1.u.u3.G0,r5.1.u.u3.H9,r5.1.u.u3.Path⟩:O9),(⟨r5.1.u.E7.O5,r5.1.u.E7.N9,r5.1.u.E7.ac4,r5.1.u.E7.C4,r5.1.u.E7.H9,r5.1.u.E7.E9,r5.1.u.E7.an6⟩:J4),r5.1.u.Time⟩:Y9),(⟨r5.1.d.At,r5.1.d.C5,r5.1.d.aF4,r5.1.d.be0,r5.1.d.be1⟩:L3),r5.1.k,r5.1.t,r5.1.u0,r5.1.X6,r5.1.Y5,r5.1.A3,r5.1.ak8,r5.1.B0,r5.1.V3,(⟨r5.1.A4.C4,r5.1.A4.N8,r5.1.A4.j9⟩:J9),r5.1.G2,r5.1.u9,r5.1.known,r5.1.cut,r5.1.u4,r5.1.J7⟩:o8)))) (.R (.inr (.inl (s3.1,(⟨(⟨(⟨(⟨s3.2.u.j3.Air.X,s3.2.u.j3.Air.Y,s3.2.u.j3.Air.Z⟩:SMap),(⟨s3.2.u.j3.D9.X,s3.2.u.j3.D9.Y,s3.2.u.j3.D9.Z⟩:SMap),(⟨s3.2.u.j3.j9.X,s3.2.u.j3.j9.Y,s3.2.u.j3.j9.Z⟩:SMap),(⟨s3.2.u.j3.R6.X,s3.2.u.j3.R6.Y,s3.2.u.j3.R6.Z⟩:SMap),(⟨s3.2.u.j3.C6.X,s3.2.u.j3.C6.Y⟩:A7),(⟨s3.2.u.j3.L2.X,s3.2.u.j3.L2.Y⟩:A7),(⟨s3.2.u.j3.V6.X,s3.2.u.j3.V6.Y⟩:A7),(⟨s3.2.u.j3.u6.X,s3.2.u.j3.u6.Y⟩:A7),(⟨s3.2.u.j3.G6.P,s3.2.u.j3.G6.I,s3.2.u.j3.G6.Low,s3.2.u.j3.G6.aC5⟩:ak0)⟩:p6),(⟨(⟨s3.2.u.j4.C5.Value,s3.2.u.j4.C5.O8,s3.2.u.j4.C5.ai8⟩:L4),(⟨s3.2.u.j4.G6.Sum⟩:B9),s3.2.u.j4.R7,(⟨s3.2.u.j4.B2.Q8,s3.2.u.j4.B2.ay2,s3.2.u.j4.B2.P3,s3.2.u.j4.B2.av7,s3.2.u.j4.B2.Cells⟩:I2),s3.2.u.j4.H9,(⟨s3.2.u.j4.L8.j9,s3.2.u.j4.L8.I7⟩:N4)⟩:z8),(⟨(⟨s3.2.u.c8.o9.z7,s3.2.u.c8.o9.P0⟩:o7),(⟨s3.2.u.c8.j8.L9,s3.2.u.c8.j8.At,s3.2.u.c8.j8.E3,s3.2.u.c8.j8.A0,s3.2.u.c8.j8.M5,s3.2.u.c8.j8.Q4⟩:B8),(⟨s3.2.u.c8.j7.P8,s3.2.u.c8.j7.j5⟩:u5),s3.2.u.c8.Next,s3.2.u.c8.F3,s3.2.u.c8.Cut⟩:j2),(⟨s3.2.u.D8.Mode,s3.2.u.D8.Z5,s3.2.u.D8.E0,s3.2.u.D8.A0,s3.2.u.D8.I6,s3.2.u.D8.U2⟩:Q5),(⟨s3.2.u.D3.ap8,s3.2.u.D3.aO3,s3.2.u.D3.F2,s3.2.u.D3.Seen⟩:Q0),(⟨s3.2.u.B4.Seen,s3.2.u.B4.E0,s3.2.u.B4.A0⟩:N6),(⟨s3.2.u.H4.Over,s3.2.u.H4.Calm,s3.2.u.H4.Off⟩:U0),(⟨s3.2.u.H7.Question,s3.2.u.H7.an5,s3.2.u.H7.U7,s3.2.u.H7.Open,s3.2.u.H7.Off⟩:W3),(⟨s3.2.u.G1.T7,s3.2.u.G1.az1,s3.2.u.G1.ao1⟩:V7),(⟨s3.2.u.C7.K6,s3.2.u.C7.L,s3.2.u.C7.af1,s3.2.u.C7.S8⟩:B3),(⟨s3.2.u.u3.F8,s3.2.u.u3.C9,s3.2.u.u3.Rest,s3.2.u.u3.G0,s3.2.u.u3.H9,s3.2.u.u3.Path⟩:O9),(⟨s3.2.u.E7.O5,s3.2.u.E7.N9,s3.2.u.E7.ac4,s3.2.u.E7.C4,s3.2.u.E7.H9,s3.2.u.E7.E9,s3.2.u.E7.an6⟩:J4),s3.2.u.Time⟩:Y9),(⟨s3.2.d.At,s3.2.d.C5,s3.2.d.aF4,s3.2.d.be0,s3.2.d.be1⟩:L3),s3.2.k,s3.2.t,s3.2.u0,s3.2.X6,s3.2.Y5,s3.2.A3,s3.2.ak8,s3.2.B0,s3.2.V3,(⟨s3.2.A4.C4,s3.2.A4.N8,s3.2.A4.j9⟩:J9),s3.2.G2,s3.2.u9,s3.2.known,s3.2.cut,s3.2.u4,s3.2.J7⟩:o8)))))
def aU1 (_ x:Int)(s2:List Int×o8):M prog o8 (Fl (List Int×o8) Empty):=
 .W (.hx 0)<| .L (fun(t:List Int×o8)=>[.b 10 (.box [.t (tS aI8 t.1)]),.b 2312 (.rs 203 3 t.2.u4 y9),.b 1000000 (.box (aw6 (I0 t.2) [(113,.own 2312)]))]) 2 (.e) (aU2 x) (s2.1,(⟨(⟨(⟨(⟨s2.2.u.j3.Air.X,s2.2.u.j3.Air.Y,s2.2.u.j3.Air.Z⟩:SMap),(⟨s2.2.u.j3.D9.X,s2.2.u.j3.D9.Y,s2.2.u.j3.D9.Z⟩:SMap),(⟨s2.2.u.j3.j9.X,s2.2.u.j3.j9.Y,s2.2.u.j3.j9.Z⟩:SMap),(⟨s2.2.u.j3.R6.X,s2.2.u.j3.R6.Y,s2.2.u.j3.R6.Z⟩:SMap),(⟨s2.2.u.j3.C6.X,s2.2.u.j3.C6.Y⟩:A7),(⟨s2.2.u.j3.L2.X,s2.2.u.j3.L2.Y⟩:A7),(⟨s2.2.u.j3.V6.X,s2.2.u.j3.V6.Y⟩:A7),(⟨s2.2.u.j3.u6.X,s2.2.u.j3.u6.Y⟩:A7),(⟨s2.2.u.j3.G6.P,s2.2.u.j3.G6.I,s2.2.u.j3.G6.Low,s2.2.u.j3.G6.aC5⟩:ak0)⟩:p6),(⟨(⟨s2.2.u.j4.C5.Value,s2.2.u.j4.C5.O8,s2.2.u.j4.C5.ai8⟩:L4),(⟨s2.2.u.j4.G6.Sum⟩:B9),s2.2.u.j4.R7,(⟨s2.2.u.j4.B2.Q8,s2.2.u.j4.B2.ay2,s2.2.u.j4.B2.P3,s2.2.u.j4.B2.av7,s2.2.u.j4.B2.Cells⟩:I2),s2.2.u.j4.H9,(⟨s2.2.u.j4.L8.j9,s2.2.u.j4.L8.I7⟩:N4)⟩:z8),(⟨(⟨s2.2.u.c8.o9.z7,s2.2.u.c8.o9.P0⟩:o7),(⟨s2.2.u.c8.j8.L9,s2.2.u.c8.j8.At,s2.2.u.c8.j8.E3,s2.2.u.c8.j8.A0,s2.2.u.c8.j8.M5,s2.2.u.c8.j8.Q4⟩:B8),(⟨s2.2.u.c8.j7.P8,s2.2.u.c8.j7.j5⟩:u5),s2.2.u.c8.Next,s2.2.u.c8.F3,s2.2.u.c8.Cut⟩:j2),(⟨s2.2.u.D8.Mode,s2.2.u.D8.Z5,s2.2.u.D8.E0,s2.2.u.D8.A0,s2.2.u.D8.I6,s2.2.u.D8.U2⟩:Q5),(⟨s2.2.u.D3.ap8,s2.2.u.D3.aO3,s2.2.u.D3.F2,s2.2.u.D3.Seen⟩:Q0),(⟨s2.2.u.B4.Seen,s2.2.u.B4.E0,s2.2.u.B4.A0⟩:N6),(⟨s2.2.u.H4.Over,s2.2.u.H4.Calm,s2.2.u.H4.Off⟩:U0),(⟨s2.2.u.H7.Question,s2.2.u.H7.an5,s2.2.u.H7.U7,s2.2.u.H7.Open,s2.2.u.H7.Off⟩:W3),(⟨s2.2.u.G1.T7,s2.2.u.G1.az1,s2.2.u.G1.ao1⟩:V7),(⟨s2.2.u.C7.K6,s2.2.u.C7.L,s2.2.u.C7.af1,s2.2.u.C7.S8⟩:B3),(⟨s2.2.u.u3.F8,s2.2.u.u3.C9,s2.2.u.u3.Rest,s2.2.u.u3.G0,s2.2.u.u3.H9,s2.2.u.u3.Path⟩:O9),(⟨s2.2.u.E7.O5,s2.2.u.E7.N9,s2.2.u.E7.ac4,s2.2.u.E7.C4,s2.2.u.E7.H9,s2.2.u.E7.E9,s2.2.u.E7.an6⟩:J4),s2.2.u.Time⟩:Y9),(⟨s2.2.d.At,s2.2.d.C5,s2.2.d.aF4,s2.2.d.be0,s2.2.d.be1⟩:L3),s2.2.k,s2.2.t,s2.2.u0,s2.2.X6,s2.2.Y5,s2.2.A3,s2.2.ak8,s2.2.B0,s2.2.V3,(⟨s2.2.A4.C4,s2.2.A4.N8,s2.2.A4.j9⟩:J9),s2.2.G2,s2.2.u9,s2.2.known,s2.2.cut,s2.2.u4,s2.2.J7⟩:o8)) (fun s4=>.KG (bv2 (⟨(⟨(⟨(⟨s4.2.u.j3.Air.X,s4.2.u.j3.Air.Y,s4.2.u.j3.Air.Z⟩:SMap),(⟨s4.2.u.j3.D9.X,s4.2.u.j3.D9.Y,s4.2.u.j3.D9.Z⟩:SMap),(⟨s4.2.u.j3.j9.X,s4.2.u.j3.j9.Y,s4.2.u.j3.j9.Z⟩:SMap),(⟨s4.2.u.j3.R6.X,s4.2.u.j3.R6.Y,s4.2.u.j3.R6.Z⟩:SMap),(⟨s4.2.u.j3.C6.X,s4.2.u.j3.C6.Y⟩:A7),(⟨s4.2.u.j3.L2.X,s4.2.u.j3.L2.Y⟩:A7),(⟨s4.2.u.j3.V6.X,s4.2.u.j3.V6.Y⟩:A7),(⟨s4.2.u.j3.u6.X,s4.2.u.j3.u6.Y⟩:A7),(⟨s4.2.u.j3.G6.P,s4.2.u.j3.G6.I,s4.2.u.j3.G6.Low,s4.2.u.j3.G6.aC5⟩:ak0)⟩:p6),(⟨(⟨s4.2.u.j4.C5.Value,s4.2.u.j4.C5.O8,s4.2.u.j4.C5.ai8⟩:L4),(⟨s4.2.u.j4.G6.Sum⟩:B9),s4.2.u.j4.R7,(⟨s4.2.u.j4.B2.Q8,s4.2.u.j4.B2.ay2,s4.2.u.j4.B2.P3,s4.2.u.j4.B2.av7,s4.2.u.j4.B2.Cells⟩:I2),s4.2.u.j4.H9,(⟨s4.2.u.j4.L8.j9,s4.2.u.j4.L8.I7⟩:N4)⟩:z8),(⟨(⟨s4.2.u.c8.o9.z7,s4.2.u.c8.o9.P0⟩:o7),(⟨s4.2.u.c8.j8.L9,s4.2.u.c8.j8.At,s4.2.u.c8.j8.E3,s4.2.u.c8.j8.A0,s4.2.u.c8.j8.M5,s4.2.u.c8.j8.Q4⟩:B8),(⟨s4.2.u.c8.j7.P8,s4.2.u.c8.j7.j5⟩:u5),s4.2.u.c8.Next,s4.2.u.c8.F3,s4.2.u.c8.Cut⟩:j2),(⟨s4.2.u.D8.Mode,s4.2.u.D8.Z5,s4.2.u.D8.E0,s4.2.u.D8.A0,s4.2.u.D8.I6,s4.2.u.D8.U2⟩:Q5),(⟨s4.2.u.D3.ap8,s4.2.u.D3.aO3,s4.2.u.D3.F2,s4.2.u.D3.Seen⟩:Q0),(⟨s4.2.u.B4.Seen,s4.2.u.B4.E0,s4.2.u.B4.A0⟩:N6),(⟨s4.2.u.H4.Over,s4.2.u.H4.Calm,s4.2.u.H4.Off⟩:U0),(⟨s4.2.u.H7.Question,s4.2.u.H7.an5,s4.2.u.H7.U7,s4.2.u.H7.Open,s4.2.u.H7.Off⟩:W3),(⟨s4.2.u.G1.T7,s4.2.u.G1.az1,s4.2.u.G1.ao1⟩:V7),(⟨s4.2.u.C7.K6,s4.2.u.C7.L,s4.2.u.C7.af1,s4.2.u.C7.S8⟩:B3),(⟨s4.2.u.u3.F8,s4.2.u.u3.C9,s4.2.u.u3.Rest,s4.2.u.u3.G0,s4.2.u.u3.H9,s4.2.u.u3.Path⟩:O9),(⟨s4.2.u.E7.O5,s4.2.u.E7.N9,s4.2.u.E7.ac4,s4.2.u.E7.C4,s4.2.u.E7.H9,s4.2.u.E7.E9,s4.2.u.E7.an6⟩:J4),s4.2.u.Time⟩:Y9),(⟨s4.2.d.At,s4.2.d.C5,s4.2.d.aF4,s4.2.d.be0,s4.2.d.be1⟩:L3),s4.2.k,s4.2.t,s4.2.u0,s4.2.X6,s4.2.Y5,s4.2.A3,s4.2.ak8,s4.2.B0,s4.2.V3,(⟨s4.2.A4.C4,s4.2.A4.N8,s4.2.A4.j9⟩:J9),s4.2.G2,s4.2.u9,s4.2.known,s4.2.cut,s4.2.u4,s4.2.J7⟩:o8) x) [2792] fun v9=>.Z (.rn [(2792,2312)])<| .R (.next (s4.1,v9))) (fun t=>t.elim)
def bj2 (s6:List Int×o8):M prog o8 ((List Int×o8)⊕((List Int×o8)⊕Empty)):=
 .I (decide ((s6.1.length:Int)>0)) (.KG (aZ9 (⟨(⟨(⟨(⟨s6.2.u.j3.Air.X,s6.2.u.j3.Air.Y,s6.2.u.j3.Air.Z⟩:SMap),(⟨s6.2.u.j3.D9.X,s6.2.u.j3.D9.Y,s6.2.u.j3.D9.Z⟩:SMap),(⟨s6.2.u.j3.j9.X,s6.2.u.j3.j9.Y,s6.2.u.j3.j9.Z⟩:SMap),(⟨s6.2.u.j3.R6.X,s6.2.u.j3.R6.Y,s6.2.u.j3.R6.Z⟩:SMap),(⟨s6.2.u.j3.C6.X,s6.2.u.j3.C6.Y⟩:A7),(⟨s6.2.u.j3.L2.X,s6.2.u.j3.L2.Y⟩:A7),(⟨s6.2.u.j3.V6.X,s6.2.u.j3.V6.Y⟩:A7),(⟨s6.2.u.j3.u6.X,s6.2.u.j3.u6.Y⟩:A7),(⟨s6.2.u.j3.G6.P,s6.2.u.j3.G6.I,s6.2.u.j3.G6.Low,s6.2.u.j3.G6.aC5⟩:ak0)⟩:p6),(⟨(⟨s6.2.u.j4.C5.Value,s6.2.u.j4.C5.O8,s6.2.u.j4.C5.ai8⟩:L4),(⟨s6.2.u.j4.G6.Sum⟩:B9),s6.2.u.j4.R7,(⟨s6.2.u.j4.B2.Q8,s6.2.u.j4.B2.ay2,s6.2.u.j4.B2.P3,s6.2.u.j4.B2.av7,s6.2.u.j4.B2.Cells⟩:I2),s6.2.u.j4.H9,(⟨s6.2.u.j4.L8.j9,s6.2.u.j4.L8.I7⟩:N4)⟩:z8),(⟨(⟨s6.2.u.c8.o9.z7,s6.2.u.c8.o9.P0⟩:o7),(⟨s6.2.u.c8.j8.L9,s6.2.u.c8.j8.At,s6.2.u.c8.j8.E3,s6.2.u.c8.j8.A0,s6.2.u.c8.j8.M5,s6.2.u.c8.j8.Q4⟩:B8),(⟨s6.2.u.c8.j7.P8,s6.2.u.c8.j7.j5⟩:u5),s6.2.u.c8.Next,s6.2.u.c8.F3,s6.2.u.c8.Cut⟩:j2),(⟨s6.2.u.D8.Mode,s6.2.u.D8.Z5,s6.2.u.D8.E0,s6.2.u.D8.A0,s6.2.u.D8.I6,s6.2.u.D8.U2⟩:Q5),(⟨s6.2.u.D3.ap8,s6.2.u.D3.aO3,s6.2.u.D3.F2,s6.2.u.D3.Seen⟩:Q0),(⟨s6.2.u.B4.Seen,s6.2.u.B4.E0,s6.2.u.B4.A0⟩:N6),(⟨s6.2.u.H4.Over,s6.2.u.H4.Calm,s6.2.u.H4.Off⟩:U0),(⟨s6.2.u.H7.Question,s6.2.u.H7.an5,s6.2.u.H7.U7,s6.2.u.H7.Open,s6.2.u.H7.Off⟩:W3),(⟨s6.2.u.G1.T7,s6.2.u.G1.az1,s6.2.u.G1.ao1⟩:V7),(⟨s6.2.u.C7.K6,s6.2.u.C7.L,s6.2.u.C7.af1,s6.2.u.C7.S8⟩:B3),(⟨s6.2.u.u3.F8,s6.2.u.u3.C9,s6.2.u.u3.Rest,s6.2.u.u3.G0,s6.2.u.u3.H9,s6.2.u.u3.Path⟩:O9),(⟨s6.2.u.E7.O5,s6.2.u.E7.N9,s6.2.u.E7.ac4,s6.2.u.E7.C4,s6.2.u.E7.H9,s6.2.u.E7.E9,s6.2.u.E7.an6⟩:J4),s6.2.u.Time⟩:Y9),(⟨s6.2.d.At,s6.2.d.C5,s6.2.d.aF4,s6.2.d.be0,s6.2.d.be1⟩:L3),s6.2.k,s6.2.t,s6.2.u0,s6.2.X6,s6.2.Y5,s6.2.A3,s6.2.ak8,s6.2.B0,s6.2.V3,(⟨s6.2.A4.C4,s6.2.A4.N8,s6.2.A4.j9⟩:J9),s6.2.G2,s6.2.u9,s6.2.known,s6.2.cut,s6.2.u4,s6.2.J7⟩:o8) s6.1) [] fun r6=>.R (.inl (r6.2,(⟨(⟨(⟨(⟨r6.1.u.j3.Air.X,r6.1.u.j3.Air.Y,r6.1.u.j3.Air.Z⟩:SMap),(⟨r6.1.u.j3.D9.X,r6.1.u.j3.D9.Y,r6.1.u.j3.D9.Z⟩:SMap),(⟨r6.1.u.j3.j9.X,r6.1.u.j3.j9.Y,r6.1.u.j3.j9.Z⟩:SMap),(⟨r6.1.u.j3.R6.X,r6.1.u.j3.R6.Y,r6.1.u.j3.R6.Z⟩:SMap),(⟨r6.1.u.j3.C6.X,r6.1.u.j3.C6.Y⟩:A7),(⟨r6.1.u.j3.L2.X,r6.1.u.j3.L2.Y⟩:A7),(⟨r6.1.u.j3.V6.X,r6.1.u.j3.V6.Y⟩:A7),(⟨r6.1.u.j3.u6.X,r6.1.u.j3.u6.Y⟩:A7),(⟨r6.1.u.j3.G6.P,r6.1.u.j3.G6.I,r6.1.u.j3.G6.Low,r6.1.u.j3.G6.aC5⟩:ak0)⟩:p6),(⟨(⟨r6.1.u.j4.C5.Value,r6.1.u.j4.C5.O8,r6.1.u.j4.C5.ai8⟩:L4),(⟨r6.1.u.j4.G6.Sum⟩:B9),r6.1.u.j4.R7,(⟨r6.1.u.j4.B2.Q8,r6.1.u.j4.B2.ay2,r6.1.u.j4.B2.P3,r6.1.u.j4.B2.av7,r6.1.u.j4.B2.Cells⟩:I2),r6.1.u.j4.H9,(⟨r6.1.u.j4.L8.j9,r6.1.u.j4.L8.I7⟩:N4)⟩:z8),(⟨(⟨r6.1.u.c8.o9.z7,r6.1.u.c8.o9.P0⟩:o7),(⟨r6.1.u.c8.j8.L9,r6.1.u.c8.j8.At,r6.1.u.c8.j8.E3,r6.1.u.c8.j8.A0,r6.1.u.c8.j8.M5,r6.1.u.c8.j8.Q4⟩:B8),(⟨r6.1.u.c8.j7.P8,r6.1.u.c8.j7.j5⟩:u5),r6.1.u.c8.Next,r6.1.u.c8.F3,r6.1.u.c8.Cut⟩:j2),(⟨r6.1.u.D8.Mode,r6.1.u.D8.Z5,r6.1.u.D8.E0,r6.1.u.D8.A0,r6.1.u.D8.I6,r6.1.u.D8.U2⟩:Q5),(⟨r6.1.u.D3.ap8,r6.1.u.D3.aO3,r6.1.u.D3.F2,r6.1.u.D3.Seen⟩:Q0),(⟨r6.1.u.B4.Seen,r6.1.u.B4.E0,r6.1.u.B4.A0⟩:N6),(⟨r6.1.u.H4.Over,r6.1.u.H4.Calm,r6.1.u.H4.Off⟩:U0),(⟨r6.1.u.H7.Question,r6.1.u.H7.an5,r6.1.u.H7.U7,r6.1.u.H7.Open,r6.1.u.H7.Off⟩:W3),(⟨r6.1.u.G1.T7,r6.1.u.G1.az1,r6.1.u.G1.ao1⟩:V7),(⟨r6.1.u.C7.K6,r6.1.u.C7.L,r6.1.u.C7.af1,r6.1.u.C7.S8⟩:B3),(⟨r6.1.u.u3.F8,r6.1.u.u3.C9,r6.1.u.u3.Rest,r6.1.u.u3.G0,r6.1.u.u3.H9,r6.1.u.u3.Path⟩:O9),(⟨r6.1.u.E7.O5,r6.1.u.E7.N9,r6.1.u.E7.ac4,r6.1.u.E7.C4,r6.1.u.E7.H9,r6.1.u.E7.E9,r6.1.u.E7.an6⟩:J4),r6.1.u.Time⟩:Y9),(⟨r6.1.d.At,r6.1.d.C5,r6.1.d.aF4,r6.1.d.be0,r6.1.d.be1⟩:L3),r6.1.k,r6.1.t,r6.1.u0,r6.1.X6,r6.1.Y5,r6.1.A3,r6.1.ak8,r6.1.B0,r6.1.V3,(⟨r6.1.A4.C4,r6.1.A4.N8,r6.1.A4.j9⟩:J9),r6.1.G2,r6.1.u9,r6.1.known,r6.1.cut,r6.1.u4,r6.1.J7⟩:o8)))) (.R (.inr (.inl (s6.1,(⟨(⟨(⟨(⟨s6.2.u.j3.Air.X,s6.2.u.j3.Air.Y,s6.2.u.j3.Air.Z⟩:SMap),(⟨s6.2.u.j3.D9.X,s6.2.u.j3.D9.Y,s6.2.u.j3.D9.Z⟩:SMap),(⟨s6.2.u.j3.j9.X,s6.2.u.j3.j9.Y,s6.2.u.j3.j9.Z⟩:SMap),(⟨s6.2.u.j3.R6.X,s6.2.u.j3.R6.Y,s6.2.u.j3.R6.Z⟩:SMap),(⟨s6.2.u.j3.C6.X,s6.2.u.j3.C6.Y⟩:A7),(⟨s6.2.u.j3.L2.X,s6.2.u.j3.L2.Y⟩:A7),(⟨s6.2.u.j3.V6.X,s6.2.u.j3.V6.Y⟩:A7),(⟨s6.2.u.j3.u6.X,s6.2.u.j3.u6.Y⟩:A7),(⟨s6.2.u.j3.G6.P,s6.2.u.j3.G6.I,s6.2.u.j3.G6.Low,s6.2.u.j3.G6.aC5⟩:ak0)⟩:p6),(⟨(⟨s6.2.u.j4.C5.Value,s6.2.u.j4.C5.O8,s6.2.u.j4.C5.ai8⟩:L4),(⟨s6.2.u.j4.G6.Sum⟩:B9),s6.2.u.j4.R7,(⟨s6.2.u.j4.B2.Q8,s6.2.u.j4.B2.ay2,s6.2.u.j4.B2.P3,s6.2.u.j4.B2.av7,s6.2.u.j4.B2.Cells⟩:I2),s6.2.u.j4.H9,(⟨s6.2.u.j4.L8.j9,s6.2.u.j4.L8.I7⟩:N4)⟩:z8),(⟨(⟨s6.2.u.c8.o9.z7,s6.2.u.c8.o9.P0⟩:o7),(⟨s6.2.u.c8.j8.L9,s6.2.u.c8.j8.At,s6.2.u.c8.j8.E3,s6.2.u.c8.j8.A0,s6.2.u.c8.j8.M5,s6.2.u.c8.j8.Q4⟩:B8),(⟨s6.2.u.c8.j7.P8,s6.2.u.c8.j7.j5⟩:u5),s6.2.u.c8.Next,s6.2.u.c8.F3,s6.2.u.c8.Cut⟩:j2),(⟨s6.2.u.D8.Mode,s6.2.u.D8.Z5,s6.2.u.D8.E0,s6.2.u.D8.A0,s6.2.u.D8.I6,s6.2.u.D8.U2⟩:Q5),(⟨s6.2.u.D3.ap8,s6.2.u.D3.aO3,s6.2.u.D3.F2,s6.2.u.D3.Seen⟩:Q0),(⟨s6.2.u.B4.Seen,s6.2.u.B4.E0,s6.2.u.B4.A0⟩:N6),(⟨s6.2.u.H4.Over,s6.2.u.H4.Calm,s6.2.u.H4.Off⟩:U0),(⟨s6.2.u.H7.Question,s6.2.u.H7.an5,s6.2.u.H7.U7,s6.2.u.H7.Open,s6.2.u.H7.Off⟩:W3),(⟨s6.2.u.G1.T7,s6.2.u.G1.az1,s6.2.u.G1.ao1⟩:V7),(⟨s6.2.u.C7.K6,s6.2.u.C7.L,s6.2.u.C7.af1,s6.2.u.C7.S8⟩:B3),(⟨s6.2.u.u3.F8,s6.2.u.u3.C9,s6.2.u.u3.Rest,s6.2.u.u3.G0,s6.2.u.u3.H9,s6.2.u.u3.Path⟩:O9),(⟨s6.2.u.E7.O5,s6.2.u.E7.N9,s6.2.u.E7.ac4,s6.2.u.E7.C4,s6.2.u.E7.H9,s6.2.u.E7.E9,s6.2.u.E7.an6⟩:J4),s6.2.u.Time⟩:Y9),(⟨s6.2.d.At,s6.2.d.C5,s6.2.d.aF4,s6.2.d.be0,s6.2.d.be1⟩:L3),s6.2.k,s6.2.t,s6.2.u0,s6.2.X6,s6.2.Y5,s6.2.A3,s6.2.ak8,s6.2.B0,s6.2.V3,(⟨s6.2.A4.C4,s6.2.A4.N8,s6.2.A4.j9⟩:J9),s6.2.G2,s6.2.u9,s6.2.known,s6.2.cut,s6.2.u4,s6.2.J7⟩:o8)))))
def bl5 (s:o8):CG prog o8:=.of Z call98 func98 [.ptr 1000000 0] [(1000000,.box (aw6 (I0 s) [(113,.own 1000001)])),(1000001,.rs 203 3 s.u4 y9)] (fun _=>.S9 []) (fun r=>[(900000,.rs 203 3 r.u4 y9),(1000000,.box (aw6 (I0 r) [(113,.own 900000)]))]) [900000] (
 .D [] []<| .K (bB1 s.u.D8) fun v=>.K (bs7) fun v2=>.K (ch7 v2 s.u.D8 s.t) fun r2=>.K (aZ6 r2.1 r2.2 v) fun v3=>.KG (aZ8 s v3 s.t) [2312] fun v4=>.D [] []<| .K (bs7) fun v5=>.K (bC0 v5 (o6 (da8 v4.u.u3.F8 65536)) (o6 (da8 (o6 (v4.u.u3.F8+(o6 (10000*v4.u.u3.C9)))) 65536))) fun r3=>.K (bE3) fun v6=>.K (bl0 v6 (o6 (da8 v4.u.u3.F8 65536)) (o6 (da8 (o6 (v4.u.u3.F8+(o6 (10000*v4.u.u3.C9)))) 65536))) fun r4=>.KG (aJ6 v4 r4.1) [] fun v7=>.KG (aJ6 v4 r3.1) [] fun v8=>M.Q aI8 v8 2 81 (fun(t:List Int×o8)=>[.x 0,.x 14,.x 15,.x 16,.x 17,.x 18,.x 22,.x 23,.x 24,.x 25,.x 27,.x 28,.x 29,.x 35,.x 36,.x 37,.x 40,.x 41,.x 42,.x 43,.x 44,.x 46,.x 47,.x 48,.x 49,.x 50,.x 73,.x 76,.x 77,.b 10 (.box [.t (tS aI8 t.1)]),.b 2312 (.rs 203 3 t.2.u4 y9),.b 1000000 (.box (aw6 (I0 t.2) [(113,.own 2312)]))]) 0 (.e) (aU1) (v7,v4) (fun s5=>.L (fun(t:List Int×o8)=>[.b 10 (.box [.t (tS aI8 t.1)]),.b 2312 (.rs 203 3 t.2.u4 y9),.b 1000000 (.box (aw6 (I0 t.2) [(113,.own 2312)]))]) 4 (.e) (bj2) (s5.1,(⟨(⟨(⟨(⟨s5.2.u.j3.Air.X,s5.2.u.j3.Air.Y,s5.2.u.j3.Air.Z⟩:SMap),(⟨s5.2.u.j3.D9.X,s5.2.u.j3.D9.Y,s5.2.u.j3.D9.Z⟩:SMap),(⟨s5.2.u.j3.j9.X,s5.2.u.j3.j9.Y,s5.2.u.j3.j9.Z⟩:SMap),(⟨s5.2.u.j3.R6.X,s5.2.u.j3.R6.Y,s5.2.u.j3.R6.Z⟩:SMap),(⟨s5.2.u.j3.C6.X,s5.2.u.j3.C6.Y⟩:A7),(⟨s5.2.u.j3.L2.X,s5.2.u.j3.L2.Y⟩:A7),(⟨s5.2.u.j3.V6.X,s5.2.u.j3.V6.Y⟩:A7),(⟨s5.2.u.j3.u6.X,s5.2.u.j3.u6.Y⟩:A7),(⟨s5.2.u.j3.G6.P,s5.2.u.j3.G6.I,s5.2.u.j3.G6.Low,s5.2.u.j3.G6.aC5⟩:ak0)⟩:p6),(⟨(⟨s5.2.u.j4.C5.Value,s5.2.u.j4.C5.O8,s5.2.u.j4.C5.ai8⟩:L4),(⟨s5.2.u.j4.G6.Sum⟩:B9),s5.2.u.j4.R7,(⟨s5.2.u.j4.B2.Q8,s5.2.u.j4.B2.ay2,s5.2.u.j4.B2.P3,s5.2.u.j4.B2.av7,s5.2.u.j4.B2.Cells⟩:I2),s5.2.u.j4.H9,(⟨s5.2.u.j4.L8.j9,s5.2.u.j4.L8.I7⟩:N4)⟩:z8),(⟨(⟨s5.2.u.c8.o9.z7,s5.2.u.c8.o9.P0⟩:o7),(⟨s5.2.u.c8.j8.L9,s5.2.u.c8.j8.At,s5.2.u.c8.j8.E3,s5.2.u.c8.j8.A0,s5.2.u.c8.j8.M5,s5.2.u.c8.j8.Q4⟩:B8),(⟨s5.2.u.c8.j7.P8,s5.2.u.c8.j7.j5⟩:u5),s5.2.u.c8.Next,s5.2.u.c8.F3,s5.2.u.c8.Cut⟩:j2),(⟨s5.2.u.D8.Mode,s5.2.u.D8.Z5,s5.2.u.D8.E0,s5.2.u.D8.A0,s5.2.u.D8.I6,s5.2.u.D8.U2⟩:Q5),(⟨s5.2.u.D3.ap8,s5.2.u.D3.aO3,s5.2.u.D3.F2,s5.2.u.D3.Seen⟩:Q0),(⟨s5.2.u.B4.Seen,s5.2.u.B4.E0,s5.2.u.B4.A0⟩:N6),(⟨s5.2.u.H4.Over,s5.2.u.H4.Calm,s5.2.u.H4.Off⟩:U0),(⟨s5.2.u.H7.Question,s5.2.u.H7.an5,s5.2.u.H7.U7,s5.2.u.H7.Open,s5.2.u.H7.Off⟩:W3),(⟨s5.2.u.G1.T7,s5.2.u.G1.az1,s5.2.u.G1.ao1⟩:V7),(⟨s5.2.u.C7.K6,s5.2.u.C7.L,s5.2.u.C7.af1,s5.2.u.C7.S8⟩:B3),(⟨s5.2.u.u3.F8,s5.2.u.u3.C9,s5.2.u.u3.Rest,s5.2.u.u3.G0,s5.2.u.u3.H9,s5.2.u.u3.Path⟩:O9),(⟨s5.2.u.E7.O5,s5.2.u.E7.N9,s5.2.u.E7.ac4,s5.2.u.E7.C4,s5.2.u.E7.H9,s5.2.u.E7.E9,s5.2.u.E7.an6⟩:J4),s5.2.u.Time⟩:Y9),(⟨s5.2.d.At,s5.2.d.C5,s5.2.d.aF4,s5.2.d.be0,s5.2.d.be1⟩:L3),s5.2.k,s5.2.t,s5.2.u0,s5.2.X6,s5.2.Y5,s5.2.A3,s5.2.ak8,s5.2.B0,s5.2.V3,(⟨s5.2.A4.C4,s5.2.A4.N8,s5.2.A4.j9⟩:J9),s5.2.G2,s5.2.u9,s5.2.known,s5.2.cut,s5.2.u4,s5.2.J7⟩:o8)) (fun s7=>.D [] []<| .K (W0 (⟨(⟨s7.2.u.c8.o9.z7,s7.2.u.c8.o9.P0⟩:o7),(⟨s7.2.u.c8.j8.L9,s7.2.u.c8.j8.At,s7.2.u.c8.j8.E3,s7.2.u.c8.j8.A0,s7.2.u.c8.j8.M5,s7.2.u.c8.j8.Q4⟩:B8),(⟨s7.2.u.c8.j7.P8,s7.2.u.c8.j7.j5⟩:u5),s7.2.u.c8.Next,s7.2.u.c8.F3,s7.2.u.c8.Cut⟩:j2) (o6 (s7.2.t+10000))) fun r7=>.KG (aH9 (⟨(⟨(⟨(⟨s7.2.u.j3.Air.X,s7.2.u.j3.Air.Y,s7.2.u.j3.Air.Z⟩:SMap),(⟨s7.2.u.j3.D9.X,s7.2.u.j3.D9.Y,s7.2.u.j3.D9.Z⟩:SMap),(⟨s7.2.u.j3.j9.X,s7.2.u.j3.j9.Y,s7.2.u.j3.j9.Z⟩:SMap),(⟨s7.2.u.j3.R6.X,s7.2.u.j3.R6.Y,s7.2.u.j3.R6.Z⟩:SMap),(⟨s7.2.u.j3.C6.X,s7.2.u.j3.C6.Y⟩:A7),(⟨s7.2.u.j3.L2.X,s7.2.u.j3.L2.Y⟩:A7),(⟨s7.2.u.j3.V6.X,s7.2.u.j3.V6.Y⟩:A7),(⟨s7.2.u.j3.u6.X,s7.2.u.j3.u6.Y⟩:A7),(⟨s7.2.u.j3.G6.P,s7.2.u.j3.G6.I,s7.2.u.j3.G6.Low,s7.2.u.j3.G6.aC5⟩:ak0)⟩:p6),(⟨(⟨s7.2.u.j4.C5.Value,s7.2.u.j4.C5.O8,s7.2.u.j4.C5.ai8⟩:L4),(⟨s7.2.u.j4.G6.Sum⟩:B9),s7.2.u.j4.R7,(⟨s7.2.u.j4.B2.Q8,s7.2.u.j4.B2.ay2,s7.2.u.j4.B2.P3,s7.2.u.j4.B2.av7,s7.2.u.j4.B2.Cells⟩:I2),s7.2.u.j4.H9,(⟨s7.2.u.j4.L8.j9,s7.2.u.j4.L8.I7⟩:N4)⟩:z8),(⟨(⟨s7.2.u.c8.o9.z7,s7.2.u.c8.o9.P0⟩:o7),(⟨s7.2.u.c8.j8.L9,s7.2.u.c8.j8.At,s7.2.u.c8.j8.E3,s7.2.u.c8.j8.A0,s7.2.u.c8.j8.M5,s7.2.u.c8.j8.Q4⟩:B8),(⟨s7.2.u.c8.j7.P8,s7.2.u.c8.j7.j5⟩:u5),s7.2.u.c8.Next,s7.2.u.c8.F3,s7.2.u.c8.Cut⟩:j2),(⟨s7.2.u.D8.Mode,s7.2.u.D8.Z5,s7.2.u.D8.E0,s7.2.u.D8.A0,s7.2.u.D8.I6,s7.2.u.D8.U2⟩:Q5),(⟨s7.2.u.D3.ap8,s7.2.u.D3.aO3,s7.2.u.D3.F2,s7.2.u.D3.Seen⟩:Q0),(⟨s7.2.u.B4.Seen,s7.2.u.B4.E0,s7.2.u.B4.A0⟩:N6),(⟨s7.2.u.H4.Over,s7.2.u.H4.Calm,s7.2.u.H4.Off⟩:U0),(⟨s7.2.u.H7.Question,s7.2.u.H7.an5,s7.2.u.H7.U7,s7.2.u.H7.Open,s7.2.u.H7.Off⟩:W3),(⟨s7.2.u.G1.T7,s7.2.u.G1.az1,s7.2.u.G1.ao1⟩:V7),(⟨s7.2.u.C7.K6,s7.2.u.C7.L,s7.2.u.C7.af1,s7.2.u.C7.S8⟩:B3),(⟨s7.2.u.u3.F8,s7.2.u.u3.C9,s7.2.u.u3.Rest,s7.2.u.u3.G0,s7.2.u.u3.H9,s7.2.u.u3.Path⟩:O9),(⟨s7.2.u.E7.O5,s7.2.u.E7.N9,s7.2.u.E7.ac4,s7.2.u.E7.C4,s7.2.u.E7.H9,s7.2.u.E7.E9,s7.2.u.E7.an6⟩:J4),s7.2.u.Time⟩:Y9),(⟨s7.2.d.At,s7.2.d.C5,s7.2.d.aF4,s7.2.d.be0,s7.2.d.be1⟩:L3),s7.2.k,s7.2.t,s7.2.u0,s7.2.X6,s7.2.Y5,s7.2.A3,s7.2.ak8,s7.2.B0,s7.2.V3,(⟨s7.2.A4.C4,s7.2.A4.N8,s7.2.A4.j9⟩:J9),s7.2.G2,s7.2.u9,s7.2.known,s7.2.cut,s7.2.u4,s7.2.J7⟩:o8) (⟨(⟨r7.1.o9.z7,r7.1.o9.P0⟩:o7),(⟨r7.1.j8.L9,r7.1.j8.At,r7.1.j8.E3,r7.1.j8.A0,r7.1.j8.M5,r7.1.j8.Q4⟩:B8),(⟨r7.1.j7.P8,r7.1.j7.j5⟩:u5),r7.1.Next,r7.1.F3,r7.1.Cut⟩:j2) r7.2.1 r7.2.2) [2968] fun v10=>.R v10) (fun t=>t.elim)) (fun t=>t.elim))
def bE5 (f2:A6):C prog Bool:=.of Z call195 func195 [aQ2 f2] (fun r=>.t (tB r)) (
 .R (f2.ag3 !=0))
def aB0 (t2:p6)(O3 D1:Int):C prog (Int×Int):=.of Z call196 func196 [V5 t2,.t (tI O3),.t (tI D1)] (fun r=>.S9 [.t (tI r.1),.t (tI r.2)]) (
 .K (aC0 t2 O3 D1) fun r2=>.I (r2.2 !=0) (.R (0,r2.2)) (.R (o6 (3*(K2 0 (o6 (O3-r2.1)))),0)))
def bK5 (b2:J4)(p2:O9)(fuel air:Int):C prog (O9×Int×Int):=.of Z call197 func197 [aM1 b2,aX6 p2,.t (tI fuel),.t (tI air)] (fun r=>.S9 [aX6 r.1,.t (tI r.2.1),.t (tI r.2.2)]) (
 .K (bw3 b2 p2) fun v=>.I (!v) (.R ((⟨0,0,0,0,0,([]:List Int)⟩:O9),0,1)) (.K (H0 fuel 0 1048576) fun v2=>.G (!v2) (.R true) (.K (H0 air 0 1048576) fun v3=>.R (!v3)) fun b3=>.I b3 (.R ((⟨0,0,0,0,0,([]:List Int)⟩:O9),0,2)) (.D [] []<| .J0 0 (fun(t:Int)=>[.t 14 (.t (tI t)),.x 33,.x 37,.x 39,.x 48,.x 54]) (.I (decide ((o6 ((o6 (fuel-(o6 (da8 (o6 (fuel*b2.H9)) 1024))))+(o6 (da8 (o6 (p2.H9*b2.E9)) 1024))))>0)) (.O (.quo .i64 (o6 (10000*air)) (o6 (147*(o6 ((o6 (fuel-(o6 (da8 (o6 (fuel*b2.H9)) 1024))))+(o6 (da8 (o6 (p2.H9*b2.E9)) 1024))))))) fun q=>.K (D7 q 500 2000) fun v4=>.R v4) (.R 2000)) fun mixture=>.U (.ap aI8 ([]:List Int) p2.Path 63) fun l=>.U (.ap aI8 l ([mixture]:List Int) 63) fun l2=>.J0 0 (fun(t:List Int)=>[.t 15 (.t (tS aI8 t)),.x 4,.x 64,.x 68,.x 69,.x 70,.x 72,.d 4,.d 63,.d 68]) (.I (decide ((l2.length:Int)>(o6 (b2.an6+1)))) (.Z (.fr 63)<| .U (.sF aI8 l2 1 (l2.length:Int)) fun l3=>.R l3) (.Z (.fr 63)<| .R l2)) fun path=>.R ((⟨p2.F8,p2.C9,p2.Rest,p2.G0,o6 (p2.H9+(o6 ((o6 (da8 (o6 (fuel*b2.H9)) 1024))-(o6 (da8 (o6 (p2.H9*b2.E9)) 1024))))),path⟩:O9),o6 ((o6 (fuel-(o6 (da8 (o6 (fuel*b2.H9)) 1024))))+(o6 (da8 (o6 (p2.H9*b2.E9)) 1024))),0))))
def bv1 (old:O9):C prog O9:=.of Z call198 func198 [aX6 old] (fun r=>.fz 278 [cO7 r]) (
 .Z (.fb 1)<| .R old)
def bg6 (w:aq6)(J7 load O3:Int):CG prog aq6:=.of Z call279 func279 [.ptr 1000000 0,.t (tI J7),.t (tI load),.t (tI O3)] [(1000000,.box (bd8 w))] (fun _=>.S9 []) (fun r=>[(1000000,.box (bd8 r))]) [] (
 .D [] []<| .D [] []<| .K (Y3 (o6 ((o6 ((o6 ((o6 (J7-load))-(o6 (da8 (o6 (w.b.N9*w.u3.C9)) 65536))))*O3))+w.u3.Rest)) w.b.O5) fun v=>.K (aa1 (o6 ((o6 ((o6 ((o6 (J7-load))-(o6 (da8 (o6 (w.b.N9*w.u3.C9)) 65536))))*O3))+w.u3.Rest)) w.b.O5) fun v2=>.J0 0 (fun(t:Int)=>[.t 10 (.t (tI t)),.x 15,.x 16,.x 17,.x 18,.x 20,.x 21,.x 22,.x 23,.x 30,.x 31,.x 32,.x 33,.x 37,.x 38,.x 39,.x 40,.x 44,.x 45,.x 46,.x 47,.x 50,.x 51,.x 52,.x 53]) (.I ((decide ((o6 (w.u3.C9+v))<0))||(decide ((o6 (w.u3.C9+v))>262144))) (.R 0) (.R v2)) fun rest=>.K (D7 (o6 (w.u3.C9+v)) 0 262144) fun v3=>.R (⟨(⟨w.u3.F8,v3,rest,w.u3.G0,w.u3.H9,w.u3.Path⟩:O9),w.b⟩:aq6))
def aS3 (w:aq6)(bo6 u0 O3:Int):CG prog aq6:=.of Z call280 func280 [.ptr 1000000 0,.t (tI bo6),.t (tI u0),.t (tI O3)] [(1000000,.box (bd8 w))] (fun _=>.S9 []) (fun r=>[(1000000,.box (bd8 r))]) [] (
 .D [] []<| .D [] []<| .K (Y3 (o6 ((o6 ((o6 (da8 (o6 ((o6 (w.b.C4*bo6))*(o6 (1013-w.u3.G0)))) 1000))-(o6 (da8 (o6 (u0*w.u3.G0)) 1024))))*O3)) (o6 (65536*w.b.ac4))) fun v=>.K (D7 (o6 (w.u3.G0+v)) 50 1013) fun v2=>.R (⟨(⟨w.u3.F8,w.u3.C9,w.u3.Rest,v2,w.u3.H9,w.u3.Path⟩:O9),w.b⟩:aq6))
def cg4 (b2:J4)(p2:O9)(bo6 J7 load O3:Int):C prog (O9×ee8×Int):=.of Z call199 func199 [aM1 b2,aX6 p2,.t (tI bo6),.t (tI J7),.t (tI load),.t (tI O3)] (fun r=>.S9 [aX6 r.1,eL0 r.2.1,.t (tI r.2.2)]) (
 .K (bw3 b2 p2) fun v=>.I (!v) (.R ((⟨0,0,0,0,0,([]:List Int)⟩:O9),(⟨0,0⟩:ee8),1)) (.K (H0 bo6 0 1000) fun v2=>.G (!v2) (.R true) (.K (H0 J7 (-5000) 10000) fun v3=>.R (!v3)) fun b3=>.G b3 (.R true) (.K (H0 load (-10000) 10000) fun v4=>.R (!v4)) fun b4=>.G b4 (.R true) (.K (H0 O3 1 10000) fun v5=>.R (!v5)) fun b5=>.I b5 (.R ((⟨0,0,0,0,0,([]:List Int)⟩:O9),(⟨0,0⟩:ee8),2)) (.U (.ap aI8 ([]:List Int) p2.Path 49) fun l=>.Z (.fr 49)<| .KG (bg6 (⟨(⟨p2.F8,p2.C9,p2.Rest,p2.G0,p2.H9,l⟩:O9),b2⟩:aq6) J7 load O3) [] fun v6=>.D [] []<| .KG (aS3 (⟨(⟨ef7 (o6 (v6.u3.F8+(o6 (p2.C9*O3)))) 3019898880,v6.u3.C9,v6.u3.Rest,v6.u3.G0,v6.u3.H9,v6.u3.Path⟩:O9),v6.b⟩:aq6) bo6 p2.C9 O3) [] fun v7=>.D [] [(8,12)]<| .R (v7.u3,(⟨O3,p2.C9⟩:ee8),0))))
def aT7 (V0:O9)(e2:Int)(c:O9):C prog O9:=.of Z call278 func278 [aX6 V0,.t (tI e2),.el (cO7 c)] (fun r=>aX6 r) (
 .I (e2 !=0) (.R c) (.R V0))
def bf0 (s:o8):CG prog o8:=.of Z call99 func99 [.ptr 1000000 0] [(1000000,.box (I0 s))] (fun _=>.S9 []) (fun r=>[(1000000,.box (I0 r))]) [] (
 .J0 0 (fun(t:Int)=>[.x 14,.x 15,.x 16,.x 17,.x 18,.x 20,.x 21,.x 22,.c 1000000 114 [.t (tI t)]]) (.I (((!s.cut)&&s.u.G1.T7)&&s.known) (.R s.A4.j9) (.R s.J7)) fun f2=>.J0 0 (fun(t:O9)=>[.x 42,.x 43,.x 44,.c 1000000 78 [.t (tI t.F8),.t (tI t.C9),.t (tI t.Rest),.t (tI t.G0),.t (tI t.H9),.t (tS aI8 t.Path)]]) (.I (decide (f2>0)) (.K (J2 s.A4.N8 (.of (fun z_=>bE5 z_) 195 [])) fun v=>.J0 0 (fun(t:Int)=>[.t 3 (.t (tI t)),.x 42,.x 43,.x 44,.x 47,.x 48,.x 49,.x 50]) (.I (decide (v>=0)) (.D [] []<| .O (.ix C1 s.A4.N8 v) fun x=>.K (aB0 s.u.j3 x.ag3 13500) fun r2=>.R r2.1) (.R 0)) fun br8=>.D [] [(21,5)]<| .K (bK5 s.u.E7 s.u.u3 br8 s.u9) fun r3=>.D [] []<| .K (bv1 s.u.u3) fun v2=>.K (aT7 r3.1 r3.2.2 v2) fun v3=>.R v3) (.R s.u.u3)) fun f3=>.J0 0 (fun(t:Int)=>[.t 8 (.t (tI t)),.x 106,.x 107,.x 108,.x 110,.x 111,.x 112]) (.I (decide (s.u0<400)) (.R (o6 (f2+800))) (.R f2)) fun J7=>.J0 0 (fun(t:Int)=>[.t 9 (.t (tI t))]) (.I s.u.G1.T7 (.R s.A4.C4) (.R 0)) fun bo6=>.J0 0 (fun(t:Int)=>[.t 10 (.t (tI t)),.x 123,.x 124,.x 125,.x 126]) (.I (s.d.be0 !=0) (.D [] []<| .R (o6 (s.d.be1+s.d.aF4))) (.R 0)) fun load=>.D [] [(21,11),(22,12)]<| .K (cg4 s.u.E7 f3 bo6 (J1 J7 10000) load 10000) fun r4=>.D [] []<| .K (bv1 f3) fun v4=>.K (aT7 r4.1 r4.2.2 v4) fun v5=>.R (⟨(⟨s.u.j3,s.u.j4,s.u.c8,s.u.D8,s.u.D3,s.u.B4,s.u.H4,s.u.H7,s.u.G1,s.u.C7,v5,s.u.E7,s.u.Time⟩:Y9),s.d,s.k,s.t,s.u0,s.X6,s.Y5,s.A3,s.ak8,s.B0,s.V3,s.A4,s.G2,s.u9,s.known,s.cut,s.u4,f2⟩:o8))
def bB9 (_:Int)(x:o5)(last:Int):M prog Bool (Fl Int Bool):=
 .W (.hx 0)<| .K (bL6 x.At) fun v=>.I ((((!v)||(decide (x.At<last)))||(decide (x.Channel<0)))||(decide (x.Channel>=16))) (.R (.ret false)) (.R (.next x.At))
def ch4 (l:List o5):C prog Bool:=.of Z call281 func281 [.t (tS y9 l)] (fun r=>.t (tB r)) (
 .I (decide ((l.length:Int)>1000)) (.R false) (M.Q y9 l 2 11 (fun(t:Int)=>[.t 3 (.t (tI t))]) 0 (.one .rt) (bB9) 0 (fun _=>.R true) (fun r2=>.R r2)))
def P6 (s:List o5)(del:Cl prog o5 Bool (fun x=>[aB5 x]) (fun r=>.t (tB r))):CG prog (List o5):=⟨282,[.own 1000000,.fz del.n del.cs],[(1000000,.rs 203 3 s y9)],Pv.P6 s (fun x0=>del.f x0),fun _=>dr7 s,(fun r=>.t (tS y9 r)),(fun _=>[]),[],bj7 s del.n del.cs (fun x0=>del.f x0) (fun x0=>del.ok x0),fun _ r h=>bi8 h⟩
def aS7 (s:List o5):CG prog (List o5):=.of Z call283 func283 [.t (tS y9 s)] [] (fun _=>.own 900000) (fun r=>[(900000,.rs 203 3 r y9)]) [900000] (
 .Nl y9 s (.I true (.Z (.np 2 70000 203 3 [])<| .R ([]:List o5)) .N) (fun s=>.I false .N (.U (.ap y9 ([]:List o5) s 5) fun l=>.R l)))
def cq0 (x:o5)(c:V7):C prog Bool:=.of Z call284 func284 [aB5 x,.el (bv3 c)] (fun r=>.t (tB r)) (
 .R (x.M9&&(!c.T7)))
def ch2 (s:V7)(l:List o5):C prog (List o5×Int):=.of Z call200 func200 [bm4 s,.t (tS y9 l)] (fun r=>.S9 [.t (tS y9 r.1),.t (tI r.2)]) (
 .K (bo3 s) fun v=>.G (!v) (.R true) (.K (ch4 l) fun v2=>.R (!v2)) fun b2=>.I b2 (.R (([]:List o5),1)) (.KG (aS7 l) [2120] fun v3=>.Z (.fb 2)<| .KG (P6 v3 (.of (fun z_=>cq0 z_ s) 284 [bv3 s])) [] fun v4=>.R (v4,0)))
def bp4 (s:o8):CG prog Y2:=.of Z call100 func100 [.ptr 1000000 0] [(1000000,.box (I0 s))] (fun r=>aJ0 r) (fun _=>[(1000000,.box (I0 s))]) [] (
 .D [] []<| .K (ch2 s.u.G1 s.u4) fun r2=>.D [] []<| .R (⟨s.t,s.u0,s.J7,s.G2,r2.1,s.X6,(!s.u.G1.T7)⟩:Y2))
def bR7 (u:Y9)(d:L3)(k:List ab5):C prog (Y9×Y2):=.of Z call44 func44 [cb1 u,bd6 d,.t (tS aj8 k)] (fun r=>.S9 [cb1 r.1,aJ0 r.2]) (
 .K (cg2 u.u3.C9) fun r2=>.Z (.nb 24 2292 220 7 [107])<| .Z (.nb 24 2293 203 3 [113])<| .KG (bl4 (⟨u,d,k,u.Time,r2.1,([]:List X4),0,0,0,0,0,(⟨0,([]:List A6),0⟩:J9),0,0,((u.D8.Mode==2)&&u.D3.ap8),false,([]:List o5),0⟩:o8)) [] fun v=>.KG (aT8 v) [2304] fun v2=>.KG (aT9 v2) [] fun v3=>.Z (.fr 2304)<| .KG (br5 v3) [] fun v4=>.KG (aZ7 v4) [2352] fun v5=>.KG (bl5 v5) [2368] fun v6=>.Z (.fr 2368)<| .KG (bf0 v6) [] fun v7=>.D [] []<| .KG (bp4 (⟨(⟨v7.u.j3,v7.u.j4,v7.u.c8,v7.u.D8,v7.u.D3,v7.u.B4,v7.u.H4,v7.u.H7,v7.u.G1,v7.u.C7,v7.u.u3,v7.u.E7,o6 (v7.t+10000)⟩:Y9),v7.d,v7.k,v7.t,v7.u0,v7.X6,v7.Y5,v7.A3,v7.ak8,v7.B0,v7.V3,v7.A4,v7.G2,v7.u9,v7.known,v7.cut,v7.u4,v7.J7⟩:o8)) [] fun v8=>.R ((⟨v7.u.j3,v7.u.j4,v7.u.c8,v7.u.D8,v7.u.D3,v7.u.B4,v7.u.H4,v7.u.H7,v7.u.G1,v7.u.C7,v7.u.u3,v7.u.E7,o6 (v7.t+10000)⟩:Y9),v8))
def bu8 (u:Y9)(d:L3)(k:List ab5):C prog (Y9×Y2×Int):=.of Z call14 func14 [cb1 u,bd6 d,.t (tS aj8 k)] (fun r=>.S9 [cb1 r.1,aJ0 r.2.1,.t (tI r.2.2)]) (
 .K (bW4 u) fun v=>.G (!v) (.R true) (.K (bJ0 k) fun v2=>.R (!v2)) fun b2=>.G b2 (.R true) (.K (cv0 d) fun v3=>.R (!v3)) fun b3=>.I b3 (.R ((⟨(⟨(⟨([]:List Int),([]:List Int),([]:List (List Int))⟩:SMap),(⟨([]:List Int),([]:List Int),([]:List (List Int))⟩:SMap),(⟨([]:List Int),([]:List Int),([]:List (List Int))⟩:SMap),(⟨([]:List Int),([]:List Int),([]:List (List Int))⟩:SMap),(⟨([]:List Int),([]:List Int)⟩:A7),(⟨([]:List Int),([]:List Int)⟩:A7),(⟨([]:List Int),([]:List Int)⟩:A7),(⟨([]:List Int),([]:List Int)⟩:A7),(⟨0,0,0,0⟩:ak0)⟩:p6),(⟨(⟨0,0,false⟩:L4),(⟨0⟩:B9),([]:List D0),(⟨false,false,0,0,([]:List ad1)⟩:I2),0,(⟨0,0⟩:N4)⟩:z8),(⟨(⟨([]:List Int),0⟩:o7),(⟨false,0,0,0,0,0⟩:B8),(⟨0,([]:List o4)⟩:u5),([]:List A6),([]:List A9),false⟩:j2),(⟨0,0,0,0,0,0⟩:Q5),(⟨false,0,0,false⟩:Q0),(⟨false,0,0⟩:N6),(⟨0,0,false⟩:U0),(⟨0,0,0,false,false⟩:W3),(⟨false,0,0⟩:V7),(⟨([]:List A5),([]:List B1),0,false⟩:B3),(⟨0,0,0,0,0,([]:List Int)⟩:O9),(⟨0,0,0,0,0,0,0⟩:J4),0⟩:Y9),(⟨0,0,0,0,([]:List o5),([]:List X4),false⟩:Y2),1)) (.I (decide ((o6 (u.Time+10000))>549755813888)) (.R ((⟨(⟨(⟨([]:List Int),([]:List Int),([]:List (List Int))⟩:SMap),(⟨([]:List Int),([]:List Int),([]:List (List Int))⟩:SMap),(⟨([]:List Int),([]:List Int),([]:List (List Int))⟩:SMap),(⟨([]:List Int),([]:List Int),([]:List (List Int))⟩:SMap),(⟨([]:List Int),([]:List Int)⟩:A7),(⟨([]:List Int),([]:List Int)⟩:A7),(⟨([]:List Int),([]:List Int)⟩:A7),(⟨([]:List Int),([]:List Int)⟩:A7),(⟨0,0,0,0⟩:ak0)⟩:p6),(⟨(⟨0,0,false⟩:L4),(⟨0⟩:B9),([]:List D0),(⟨false,false,0,0,([]:List ad1)⟩:I2),0,(⟨0,0⟩:N4)⟩:z8),(⟨(⟨([]:List Int),0⟩:o7),(⟨false,0,0,0,0,0⟩:B8),(⟨0,([]:List o4)⟩:u5),([]:List A6),([]:List A9),false⟩:j2),(⟨0,0,0,0,0,0⟩:Q5),(⟨false,0,0,false⟩:Q0),(⟨false,0,0⟩:N6),(⟨0,0,false⟩:U0),(⟨0,0,0,false,false⟩:W3),(⟨false,0,0⟩:V7),(⟨([]:List A5),([]:List B1),0,false⟩:B3),(⟨0,0,0,0,0,([]:List Int)⟩:O9),(⟨0,0,0,0,0,0,0⟩:J4),0⟩:Y9),(⟨0,0,0,0,([]:List o5),([]:List X4),false⟩:Y2),2)) (.K (bR7 u d k) fun r2=>.D [] [(2,6)]<| .R ((⟨(⟨(⟨r2.1.j3.Air.X,r2.1.j3.Air.Y,r2.1.j3.Air.Z⟩:SMap),(⟨r2.1.j3.D9.X,r2.1.j3.D9.Y,r2.1.j3.D9.Z⟩:SMap),(⟨r2.1.j3.j9.X,r2.1.j3.j9.Y,r2.1.j3.j9.Z⟩:SMap),(⟨r2.1.j3.R6.X,r2.1.j3.R6.Y,r2.1.j3.R6.Z⟩:SMap),(⟨r2.1.j3.C6.X,r2.1.j3.C6.Y⟩:A7),(⟨r2.1.j3.L2.X,r2.1.j3.L2.Y⟩:A7),(⟨r2.1.j3.V6.X,r2.1.j3.V6.Y⟩:A7),(⟨r2.1.j3.u6.X,r2.1.j3.u6.Y⟩:A7),(⟨r2.1.j3.G6.P,r2.1.j3.G6.I,r2.1.j3.G6.Low,r2.1.j3.G6.aC5⟩:ak0)⟩:p6),(⟨(⟨r2.1.j4.C5.Value,r2.1.j4.C5.O8,r2.1.j4.C5.ai8⟩:L4),(⟨r2.1.j4.G6.Sum⟩:B9),r2.1.j4.R7,(⟨r2.1.j4.B2.Q8,r2.1.j4.B2.ay2,r2.1.j4.B2.P3,r2.1.j4.B2.av7,r2.1.j4.B2.Cells⟩:I2),r2.1.j4.H9,(⟨r2.1.j4.L8.j9,r2.1.j4.L8.I7⟩:N4)⟩:z8),(⟨(⟨r2.1.c8.o9.z7,r2.1.c8.o9.P0⟩:o7),(⟨r2.1.c8.j8.L9,r2.1.c8.j8.At,r2.1.c8.j8.E3,r2.1.c8.j8.A0,r2.1.c8.j8.M5,r2.1.c8.j8.Q4⟩:B8),(⟨r2.1.c8.j7.P8,r2.1.c8.j7.j5⟩:u5),r2.1.c8.Next,r2.1.c8.F3,r2.1.c8.Cut⟩:j2),(⟨r2.1.D8.Mode,r2.1.D8.Z5,r2.1.D8.E0,r2.1.D8.A0,r2.1.D8.I6,r2.1.D8.U2⟩:Q5),(⟨r2.1.D3.ap8,r2.1.D3.aO3,r2.1.D3.F2,r2.1.D3.Seen⟩:Q0),(⟨r2.1.B4.Seen,r2.1.B4.E0,r2.1.B4.A0⟩:N6),(⟨r2.1.H4.Over,r2.1.H4.Calm,r2.1.H4.Off⟩:U0),(⟨r2.1.H7.Question,r2.1.H7.an5,r2.1.H7.U7,r2.1.H7.Open,r2.1.H7.Off⟩:W3),(⟨r2.1.G1.T7,r2.1.G1.az1,r2.1.G1.ao1⟩:V7),(⟨r2.1.C7.K6,r2.1.C7.L,r2.1.C7.af1,r2.1.C7.S8⟩:B3),(⟨r2.1.u3.F8,r2.1.u3.C9,r2.1.u3.Rest,r2.1.u3.G0,r2.1.u3.H9,r2.1.u3.Path⟩:O9),(⟨r2.1.E7.O5,r2.1.E7.N9,r2.1.E7.ac4,r2.1.E7.C4,r2.1.E7.H9,r2.1.E7.E9,r2.1.E7.an6⟩:J4),r2.1.Time⟩:Y9),r2.2,0))))
def dF4:C prog p6:=.of Z call19 func19 [] (fun r=>V5 r) (
 .Z (.fr 7)<| .Z (.fr 8)<| .Z (.fr 9)<| .Z (.fr 10)<| .Z (.fr 18)<| .Z (.fr 19)<| .Z (.fr 20)<| .Z (.fr 21)<| .Z (.fr 35)<| .Z (.fr 36)<| .Z (.fr 37)<| .Z (.fr 38)<| .Z (.fr 43)<| .Z (.fr 44)<| .Z (.fr 45)<| .Z (.fr 46)<| .R (⟨(⟨([0,1000,3000,7000]:List Int),([50,300,700,1050]:List Int),([([5000,90000,250000,400000]:List Int),([8000,100000,280000,430000]:List Int),([10000,110000,300000,460000]:List Int),([8000,95000,270000,420000]:List Int)]:List (List Int))⟩:SMap),(⟨([0,1000,3000,7000]:List Int),([0,100000,300000,500000]:List Int),([([640,600,400,300]:List Int),([900,800,600,500]:List Int),([1900,1600,1300,1100]:List Int),([2400,2100,1800,1600]:List Int)]:List (List Int))⟩:SMap),(⟨([0,1000,3000,7000]:List Int),([0,100000,300000,500000]:List Int),([([0,400,1500,2600]:List Int),([0,500,1800,3000]:List Int),([0,450,1900,3200]:List Int),([0,300,1500,2700]:List Int)]:List (List Int))⟩:SMap),(⟨([0,1000,3000,7000]:List Int),([0,200,600,1000]:List Int),([([100,800,2000,3000]:List Int),([0,700,2000,3200]:List Int),([0,600,1900,3200]:List Int),([0,300,1500,2700]:List Int)]:List (List Int))⟩:SMap),(⟨([(-40),20,100]:List Int),([1200,1000,850]:List Int)⟩:A7),(⟨([6000,14000]:List Int),([6000,3000]:List Int)⟩:A7),(⟨([6000,14000]:List Int),([2500,800]:List Int)⟩:A7),(⟨([0,640,1600,2560]:List Int),([1000,950,700,300]:List Int)⟩:A7),(⟨1024,32,0,800⟩:ak0)⟩:p6))
def ek4:C prog J4:=.of Z call20 func20 [] (fun r=>aM1 r) (
 .R (⟨4000,400,600,9000,200,300,4⟩:J4))
def bZ3:C prog o7:=.of Z call21 func21 [] (fun r=>av0 r) (
 .R (⟨([1]:List Int),0⟩:o7))
def aN1:C prog Bool:=.of Z call4 func4 [] (fun r=>.t (tB r)) (
 .K (dF4) fun v=>.K (ek4) fun v2=>.K (bZ3) fun v3=>.K (bn3) fun v4=>.K (bW3 v v2 v3 v4) fun r2=>.K (bu8 (⟨(⟨(⟨r2.1.j3.Air.X,r2.1.j3.Air.Y,r2.1.j3.Air.Z⟩:SMap),(⟨r2.1.j3.D9.X,r2.1.j3.D9.Y,r2.1.j3.D9.Z⟩:SMap),(⟨r2.1.j3.j9.X,r2.1.j3.j9.Y,r2.1.j3.j9.Z⟩:SMap),(⟨r2.1.j3.R6.X,r2.1.j3.R6.Y,r2.1.j3.R6.Z⟩:SMap),(⟨r2.1.j3.C6.X,r2.1.j3.C6.Y⟩:A7),(⟨r2.1.j3.L2.X,r2.1.j3.L2.Y⟩:A7),(⟨r2.1.j3.V6.X,r2.1.j3.V6.Y⟩:A7),(⟨r2.1.j3.u6.X,r2.1.j3.u6.Y⟩:A7),(⟨r2.1.j3.G6.P,r2.1.j3.G6.I,r2.1.j3.G6.Low,r2.1.j3.G6.aC5⟩:ak0)⟩:p6),(⟨(⟨r2.1.j4.C5.Value,r2.1.j4.C5.O8,r2.1.j4.C5.ai8⟩:L4),(⟨r2.1.j4.G6.Sum⟩:B9),r2.1.j4.R7,(⟨r2.1.j4.B2.Q8,r2.1.j4.B2.ay2,r2.1.j4.B2.P3,r2.1.j4.B2.av7,r2.1.j4.B2.Cells⟩:I2),r2.1.j4.H9,(⟨r2.1.j4.L8.j9,r2.1.j4.L8.I7⟩:N4)⟩:z8),(⟨(⟨r2.1.c8.o9.z7,r2.1.c8.o9.P0⟩:o7),(⟨r2.1.c8.j8.L9,r2.1.c8.j8.At,r2.1.c8.j8.E3,r2.1.c8.j8.A0,r2.1.c8.j8.M5,r2.1.c8.j8.Q4⟩:B8),(⟨r2.1.c8.j7.P8,r2.1.c8.j7.j5⟩:u5),r2.1.c8.Next,r2.1.c8.F3,r2.1.c8.Cut⟩:j2),(⟨r2.1.D8.Mode,r2.1.D8.Z5,r2.1.D8.E0,r2.1.D8.A0,r2.1.D8.I6,r2.1.D8.U2⟩:Q5),(⟨r2.1.D3.ap8,r2.1.D3.aO3,r2.1.D3.F2,r2.1.D3.Seen⟩:Q0),(⟨r2.1.B4.Seen,r2.1.B4.E0,r2.1.B4.A0⟩:N6),(⟨r2.1.H4.Over,r2.1.H4.Calm,r2.1.H4.Off⟩:U0),(⟨r2.1.H7.Question,r2.1.H7.an5,r2.1.H7.U7,r2.1.H7.Open,r2.1.H7.Off⟩:W3),(⟨r2.1.G1.T7,r2.1.G1.az1,r2.1.G1.ao1⟩:V7),(⟨r2.1.C7.K6,r2.1.C7.L,r2.1.C7.af1,r2.1.C7.S8⟩:B3),(⟨r2.1.u3.F8,r2.1.u3.C9,r2.1.u3.Rest,r2.1.u3.G0,r2.1.u3.H9,r2.1.u3.Path⟩:O9),(⟨r2.1.E7.O5,r2.1.E7.N9,r2.1.E7.ac4,r2.1.E7.C4,r2.1.E7.H9,r2.1.E7.E9,r2.1.E7.an6⟩:J4),r2.1.Time⟩:Y9) (⟨0,0,0,0,0⟩:L3) ([]:List ab5)) fun r3=>.R (((((((r2.2==0)&&(r3.2.2==0))&&(!r3.2.1.Off))&&(r3.2.1.C9==0))&&(r3.2.1.j9==0))&&(decide (r3.1.u3.C9>0)))&&(r3.1.Time==10000)))
def bv7 (l:List Int):C prog Bool:=.of Z call23 func23 [.t (tS aI8 l)] (fun r=>.t (tB r)) (
 .R (decide ((l.length:Int)>40)))
def aW5 (_:Int)(x:SMap)(_:Unit):M prog Bool (Fl Unit Bool):=
 .W (.hx 0)<| .W (.ly 0)<| .G (((decide ((x.X.length:Int)>40))||(decide ((x.Y.length:Int)>40)))||(decide ((x.Z.length:Int)>40))) (.R true) (.K (H2 x.Z (.of (fun z_=>bv7 z_) 23 [])) fun v=>.R v) fun b2=>.I b2 (.R (.ret false)) (.R (.next ()))
def aW6 (_:Int)(x2:A7)(_:Unit):M prog Bool (Fl Unit Bool):=
 .W (.hx 0)<| .W (.ly 0)<| .I ((decide ((x2.X.length:Int)>40))||(decide ((x2.Y.length:Int)>40))) (.R (.ret false)) (.R (.next ()))
def bj4 (t2:p6):C prog Bool:=.of Z call5 func5 [V5 t2] (fun r=>.t (tB r)) (
 M.Q cO5 ([t2.Air,t2.D9,t2.j9,t2.R6]:List SMap) 2 17 (fun(_:Unit)=>[.x 7,.x 9,.x 11,.x 13]) 0 (.one .rt) (aW5) () (fun _=>M.Q bJ2 ([t2.C6,t2.L2,t2.V6,t2.u6]:List A7) 2 53 (fun(_:Unit)=>[.x 1,.x 43,.x 45,.x 47,.x 49,.d 1]) 2 (.one .rt) (aW6) () (fun _=>.R true) (fun r2=>.R r2)) (fun r3=>.R r3))
def aP0 (x low high:Int):C prog Bool:=.of Z call24 func24 [.t (tI x),.t (tI low),.t (tI high)] (fun r=>.t (tB r)) (
 .R ((decide (x>=low))&&(decide (x<=high))))
def aN2 (k:List ab5)(i:Int):M prog Bool (Int⊕(Int⊕Bool)):=
 .I (decide (i<(k.length:Int))) (.O (.ix aj8 k i) fun x=>.K (aP0 x.cb3 0 1099511627776) fun v=>.G (!v) (.R true) (.W (.hx 0)<| .K (aP0 x.To 0 1099511627776) fun v2=>.R (!v2)) fun b2=>.G b2 (.R true) (.W (.hx 0)<| .K (aP0 x.ba5 0 7) fun v3=>.R (!v3)) fun b3=>.G b3 (.R true) (.W (.hx 0)<| .K (aP0 x.Value (-1000000) 1000000) fun v4=>.R (!v4)) fun b4=>.I b4 (.R (.inr (.inr false))) (.R (.inl (o6 (i+1))))) (.R (.inr (.inl i)))
def aW7 (k:List ab5):C prog Bool:=.of Z call6 func6 [.t (tS aj8 k)] (fun r=>.t (tB r)) (
 .L (fun(t:Int)=>[.t 3 (.t (tI t))]) 0 (.one .rt) (aN2 k) 0 (fun _=>.R (decide ((k.length:Int)<=100))) (fun r2=>.R r2))
def ap7 (x:List L3)(target:Int)(cmp:Cl prog (L3×Int) Int (fun x=>[bd6 x.1,.t (tI x.2)]) (fun r=>.t (tI r)))(s:Int×Int):M prog (Int×Bool) ((Int×Int)⊕((Int×Int)⊕Empty)):=
 .I (decide (s.1<s.2)) (.O (.ix an7 x (o6 (F1 .u64 (aK3.wrap (o6 (s.1+s.2))) 1))) fun x2=>.K (cmp.at (x2,target)) fun v=>.I (decide (v<0)) (.R (.inl (o6 ((o6 (F1 .u64 (aK3.wrap (o6 (s.1+s.2))) 1))+1),s.2))) (.R (.inl (s.1,o6 (F1 .u64 (aK3.wrap (o6 (s.1+s.2))) 1))))) (.R (.inr (.inl (s.1,s.2))))
def av5 (x:List L3)(target:Int)(cmp:Cl prog (L3×Int) Int (fun x=>[bd6 x.1,.t (tI x.2)]) (fun r=>.t (tI r))):C prog (Int×Bool):=.of Z call90 func90 [.t (tS an7 x),.t (tI target),.fz cmp.n cmp.cs] (fun r=>.S9 [.t (tI r.1),.t (tB r.2)]) (
 .L (fun(t:Int×Int)=>[.t 9 (.t (tI t.1)),.t 10 (.t (tI t.2))]) 0 (.e) (ap7 x target cmp) (0,(x.length:Int)) (fun s2=>.G (decide (s2.1<(x.length:Int))) (.O (.ix an7 x s2.1) fun x3=>.K (cmp.at (x3,target)) fun v2=>.R (v2==0)) (.R false) fun b2=>.R (s2.1,b2)) (fun t=>t.elim))
def cm0 (d:L3)(t2:Int):C prog Int:=.of Z call91 func91 [bd6 d,.t (tI t2)] (fun r=>.t (tI r)) (
 .R (o6 (d.At-t2)))
def ce4 (l:List L3)(t2:Int):C prog (Int×Int):=.of Z call42 func42 [.t (tS an7 l),.t (tI t2)] (fun r=>.S9 [.t (tI r.1),.t (tI r.2)]) (
 .K (aA7 l) fun v=>.I (!v) (.R (0,1)) (.I ((decide (t2<0))||(decide (t2>1099511627776))) (.R (0,2)) (.K (av5 l t2 (.of (fun z_=>cm0 z_.1 z_.2) 91 [])) fun r2=>.I (!r2.2) (.R (o6 (r2.1-1),0)) (.R (r2.1,0)))))
def bE1 (l:List L3)(t2:Int):C prog (L3×Int):=.of Z call13 func13 [.t (tS an7 l),.t (tI t2)] (fun r=>.S9 [bd6 r.1,.t (tI r.2)]) (
 .K (ce4 l t2) fun r2=>.I (r2.2 !=0) (.R ((⟨0,0,0,0,0⟩:L3),r2.2)) (.O (.ix an7 l r2.1) fun x=>.R ((⟨t2,x.C5,x.aF4,x.be0,x.be1⟩:L3),0)))
def ce5 (l:List L3)(k:List ab5)(_:Int)(s:List Y2×Y9):M prog (List Y2×Int) (Fl (List Y2×Y9) (List Y2×Int)):=
 .K (bE1 l s.2.Time) fun r2=>.K (bu8 (⟨(⟨(⟨s.2.j3.Air.X,s.2.j3.Air.Y,s.2.j3.Air.Z⟩:SMap),(⟨s.2.j3.D9.X,s.2.j3.D9.Y,s.2.j3.D9.Z⟩:SMap),(⟨s.2.j3.j9.X,s.2.j3.j9.Y,s.2.j3.j9.Z⟩:SMap),(⟨s.2.j3.R6.X,s.2.j3.R6.Y,s.2.j3.R6.Z⟩:SMap),(⟨s.2.j3.C6.X,s.2.j3.C6.Y⟩:A7),(⟨s.2.j3.L2.X,s.2.j3.L2.Y⟩:A7),(⟨s.2.j3.V6.X,s.2.j3.V6.Y⟩:A7),(⟨s.2.j3.u6.X,s.2.j3.u6.Y⟩:A7),(⟨s.2.j3.G6.P,s.2.j3.G6.I,s.2.j3.G6.Low,s.2.j3.G6.aC5⟩:ak0)⟩:p6),(⟨(⟨s.2.j4.C5.Value,s.2.j4.C5.O8,s.2.j4.C5.ai8⟩:L4),(⟨s.2.j4.G6.Sum⟩:B9),s.2.j4.R7,(⟨s.2.j4.B2.Q8,s.2.j4.B2.ay2,s.2.j4.B2.P3,s.2.j4.B2.av7,s.2.j4.B2.Cells⟩:I2),s.2.j4.H9,(⟨s.2.j4.L8.j9,s.2.j4.L8.I7⟩:N4)⟩:z8),(⟨(⟨s.2.c8.o9.z7,s.2.c8.o9.P0⟩:o7),(⟨s.2.c8.j8.L9,s.2.c8.j8.At,s.2.c8.j8.E3,s.2.c8.j8.A0,s.2.c8.j8.M5,s.2.c8.j8.Q4⟩:B8),(⟨s.2.c8.j7.P8,s.2.c8.j7.j5⟩:u5),s.2.c8.Next,s.2.c8.F3,s.2.c8.Cut⟩:j2),(⟨s.2.D8.Mode,s.2.D8.Z5,s.2.D8.E0,s.2.D8.A0,s.2.D8.I6,s.2.D8.U2⟩:Q5),(⟨s.2.D3.ap8,s.2.D3.aO3,s.2.D3.F2,s.2.D3.Seen⟩:Q0),(⟨s.2.B4.Seen,s.2.B4.E0,s.2.B4.A0⟩:N6),(⟨s.2.H4.Over,s.2.H4.Calm,s.2.H4.Off⟩:U0),(⟨s.2.H7.Question,s.2.H7.an5,s.2.H7.U7,s.2.H7.Open,s.2.H7.Off⟩:W3),(⟨s.2.G1.T7,s.2.G1.az1,s.2.G1.ao1⟩:V7),(⟨s.2.C7.K6,s.2.C7.L,s.2.C7.af1,s.2.C7.S8⟩:B3),(⟨s.2.u3.F8,s.2.u3.C9,s.2.u3.Rest,s.2.u3.G0,s.2.u3.H9,s.2.u3.Path⟩:O9),(⟨s.2.E7.O5,s.2.E7.N9,s.2.E7.ac4,s.2.E7.C4,s.2.E7.H9,s.2.E7.E9,s.2.E7.an6⟩:J4),s.2.Time⟩:Y9) r2.1 k) fun r3=>.I (r3.2.2 !=0) (.R (.ret (([]:List Y2),2))) (.U (.ap aL3 s.1 ([r3.2.1]:List Y2) 2472) fun l2=>.R (.next (l2,(⟨(⟨(⟨r3.1.j3.Air.X,r3.1.j3.Air.Y,r3.1.j3.Air.Z⟩:SMap),(⟨r3.1.j3.D9.X,r3.1.j3.D9.Y,r3.1.j3.D9.Z⟩:SMap),(⟨r3.1.j3.j9.X,r3.1.j3.j9.Y,r3.1.j3.j9.Z⟩:SMap),(⟨r3.1.j3.R6.X,r3.1.j3.R6.Y,r3.1.j3.R6.Z⟩:SMap),(⟨r3.1.j3.C6.X,r3.1.j3.C6.Y⟩:A7),(⟨r3.1.j3.L2.X,r3.1.j3.L2.Y⟩:A7),(⟨r3.1.j3.V6.X,r3.1.j3.V6.Y⟩:A7),(⟨r3.1.j3.u6.X,r3.1.j3.u6.Y⟩:A7),(⟨r3.1.j3.G6.P,r3.1.j3.G6.I,r3.1.j3.G6.Low,r3.1.j3.G6.aC5⟩:ak0)⟩:p6),(⟨(⟨r3.1.j4.C5.Value,r3.1.j4.C5.O8,r3.1.j4.C5.ai8⟩:L4),(⟨r3.1.j4.G6.Sum⟩:B9),r3.1.j4.R7,(⟨r3.1.j4.B2.Q8,r3.1.j4.B2.ay2,r3.1.j4.B2.P3,r3.1.j4.B2.av7,r3.1.j4.B2.Cells⟩:I2),r3.1.j4.H9,(⟨r3.1.j4.L8.j9,r3.1.j4.L8.I7⟩:N4)⟩:z8),(⟨(⟨r3.1.c8.o9.z7,r3.1.c8.o9.P0⟩:o7),(⟨r3.1.c8.j8.L9,r3.1.c8.j8.At,r3.1.c8.j8.E3,r3.1.c8.j8.A0,r3.1.c8.j8.M5,r3.1.c8.j8.Q4⟩:B8),(⟨r3.1.c8.j7.P8,r3.1.c8.j7.j5⟩:u5),r3.1.c8.Next,r3.1.c8.F3,r3.1.c8.Cut⟩:j2),(⟨r3.1.D8.Mode,r3.1.D8.Z5,r3.1.D8.E0,r3.1.D8.A0,r3.1.D8.I6,r3.1.D8.U2⟩:Q5),(⟨r3.1.D3.ap8,r3.1.D3.aO3,r3.1.D3.F2,r3.1.D3.Seen⟩:Q0),(⟨r3.1.B4.Seen,r3.1.B4.E0,r3.1.B4.A0⟩:N6),(⟨r3.1.H4.Over,r3.1.H4.Calm,r3.1.H4.Off⟩:U0),(⟨r3.1.H7.Question,r3.1.H7.an5,r3.1.H7.U7,r3.1.H7.Open,r3.1.H7.Off⟩:W3),(⟨r3.1.G1.T7,r3.1.G1.az1,r3.1.G1.ao1⟩:V7),(⟨r3.1.C7.K6,r3.1.C7.L,r3.1.C7.af1,r3.1.C7.S8⟩:B3),(⟨r3.1.u3.F8,r3.1.u3.C9,r3.1.u3.Rest,r3.1.u3.G0,r3.1.u3.H9,r3.1.u3.Path⟩:O9),(⟨r3.1.E7.O5,r3.1.E7.N9,r3.1.E7.ac4,r3.1.E7.C4,r3.1.E7.H9,r3.1.E7.E9,r3.1.E7.an6⟩:J4),r3.1.Time⟩:Y9))))
def cH7 (u:Y9)(l:List L3)(k:List ab5)(steps:Int):C prog (List Y2×Int):=.of Z call10 func10 [cb1 u,.t (tS an7 l),.t (tS aj8 k),.t (tI steps)] (fun r=>.S9 [.t (tS aL3 r.1),.t (tI r.2)]) (
 .K (bW4 u) fun v=>.G (!v) (.R true) (.K (bJ0 k) fun v2=>.R (!v2)) fun b2=>.G b2 (.R true) (.K (aA7 l) fun v3=>.R (!v3)) fun b3=>.I b3 (.R (([]:List Y2),1)) (.I ((decide (steps<0))||(decide (steps>1000))) (.R (([]:List Y2),2)) (.Z (.np 10 2472 94 7 [])<|M.QN steps 2 36 (fun(t:List Y2×Y9)=>[.t 10 (.own 2472),.b 4 (.box (ee3 t.2)),.b 2472 (.rs 94 7 t.1 aL3)]) 0 (.one .rt) (ce5 l k) (([]:List Y2),u) (fun s2=>.R (s2.1,0)) (fun r4=>.R r4))))
def aA2 (s1 s2:List Y2)(eq:Cl prog (Y2×Y2) Bool (fun x=>[aJ0 x.1,aJ0 x.2]) (fun r=>.t (tB r)))(i:Int)(_:Unit):M prog Bool (Fl Unit Bool):=
 .O (.ix aL3 s1 i) fun x=>.O (.ix aL3 s2 i) fun x2=>.K (eq.at (x,x2)) fun v=>.I (!v) (.R (.ret false)) (.R (.next ()))
def aI4 (s1 s2:List Y2)(eq:Cl prog (Y2×Y2) Bool (fun x=>[aJ0 x.1,aJ0 x.2]) (fun r=>.t (tB r))):C prog Bool:=.of Z call11 func11 [.t (tS aL3 s1),.t (tS aL3 s2),.fz eq.n eq.cs] (fun r=>.t (tB r)) (
 .I ((s1.length:Int) !=(s2.length:Int)) (.R false) (M.QN (s1.length:Int) 2 17 (fun(_:Unit)=>[]) 0 (.one .rt) (aA2 s1 s2 eq) () (fun _=>.R true) (fun r2=>.R r2)))
def aG6 (a b2:List X4)(i k:Int):M prog Bool (Int⊕(Int⊕Bool)):=
 .O (.ix Y4 a i) fun x3=>.I (decide (k<(x3.ag5.length:Int))) (.D [] []<| .W (.hx 0)<| .O (.ix aI8 x3.ag5 k) fun x4=>.O (.ix Y4 b2 i) fun x5=>.O (.ix aI8 x5.ag5 k) fun x6=>.I (x4 !=x6) (.R (.inr (.inr false))) (.R (.inl (o6 (k+1))))) (.R (.inr (.inl k)))
def aS1 (a b2:List X4)(i:Int):M prog Bool (Int⊕(Int⊕Bool)):=
 .I (decide (i<(a.length:Int))) (.J0 1 (fun(t:Bool)=>[.t 43 (.t (tB t))]) (.D [] []<| .O (.ix Y4 a i) fun x=>.O (.ix Y4 b2 i) fun x2=>.Sp (x.T9 !=x2.T9) (.R true) (.W (.hx 1)<| .W (.hx 0)<| .R ((x.ag5.length:Int) !=(x2.ag5.length:Int)))) fun v=>.I v (.R (.inr (.inr false))) (.L (fun(t:Int)=>[.t 6 (.t (tI t))]) 2 (.one .rt) (aG6 a b2 i) 0 (fun _=>.R (.inl (o6 (i+1)))) (fun r2=>.R (.inr (.inr r2))))) (.R (.inr (.inl i)))
def bg2 (a b2:List X4):C prog Bool:=.of Z call40 func40 [.t (tS Y4 a),.t (tS Y4 b2)] (fun r=>.t (tB r)) (
 .I ((a.length:Int) !=(b2.length:Int)) (.R false) (.L (fun(t:Int)=>[.t 5 (.t (tI t))]) 0 (.one .rt) (aS1 a b2) 0 (fun _=>.R true) (fun r3=>.R r3)))
def aI3 (a b2:List o5)(i:Int):M prog Bool (Int⊕(Int⊕Bool)):=
 .I (decide (i<(a.length:Int))) (.D [] []<| .O (.ix y9 a i) fun x=>.O (.ix y9 b2 i) fun x2=>.W .eq<| .I (!((x.At==x2.At)&&((x.Channel==x2.Channel)&&((x.M9==x2.M9)&&true)))) (.R (.inr (.inr false))) (.R (.inl (o6 (i+1))))) (.R (.inr (.inl i)))
def aQ0 (a b2:List o5):C prog Bool:=.of Z call41 func41 [.t (tS y9 a),.t (tS y9 b2)] (fun r=>.t (tB r)) (
 .I ((a.length:Int) !=(b2.length:Int)) (.R false) (.L (fun(t:Int)=>[.t 5 (.t (tI t))]) 0 (.one .rt) (aI3 a b2) 0 (fun _=>.R true) (fun r2=>.R r2)))
def aG7 (a b2:Y2):C prog Bool:=.of Z call12 func12 [aJ0 a,aJ0 b2] (fun r=>.t (tB r)) (
 .G (((((a.Time==b2.Time)&&(a.C9==b2.C9))&&(a.j9==b2.j9))&&(a.dL4==b2.dL4))&&(a.Off==b2.Off)) (.K (bg2 a.Q8 b2.Q8) fun v=>.R v) (.R false) fun b3=>.G b3 (.K (aQ0 a.bt4 b2.bt4) fun v2=>.R v2) (.R false) fun b4=>.R b4)
def bb4 (w:ay3):C prog Bool:=.of Z call58 func58 [aq5 w] (fun r=>.t (tB r)) (
 .G (((((w.aE4==1)||(w.aE4==2))&&(decide (w.U2>=12)))&&(decide (w.U2<=120)))&&(decide (w.U2>=(o6 (8*w.aE4))))) (.O (.rem 23040 w.U2) fun q=>.R (q==0)) (.R false) fun b2=>.R b2)
def bg0 (t2:Int):C prog Bool:=.of Z call59 func59 [.t (tI t2)] (fun r=>.t (tB r)) (
 .R ((decide (t2>=0))&&(decide (t2<=1099511627776))))
set_option maxHeartbeats 4000000
def bb3 (w:ay3):C prog Int:=.of Z call60 func60 [aq5 w] (fun r=>.t (tI r)) (
 .R (o6 (w.U2-w.aE4)))
def bb5 (w:ay3)(s:Q5):C prog Bool:=.of Z call17 func17 [aq5 w,aM2 s] (fun r=>.t (tB r)) (
 .K (bb4 w) fun v=>.I (!v) (.R false) (.I (s.Mode==0) (.W .eq<| .R ((s.Mode==0)&&((s.Z5==0)&&((s.E0==0)&&((s.A0==0)&&((s.I6==0)&&((s.U2==0)&&true))))))) (.I (s.Mode==1) (.K (bg0 s.E0) fun v2=>.I ((!v2)||(s.Z5 !=0)) (.R false) (.I (s.A0==0) (.R ((s.I6==0)&&(s.U2==0))) (.R ((((decide (s.A0>=1))&&(decide (s.A0<=s.E0)))&&(s.I6==s.A0))&&((s.U2==1)||(s.U2==2)))))) (.I (s.Mode==2) (.J0 1 (fun(t:Bool)=>[.t 4 (.t (tB t)),.x 2,.x 3,.x 8,.d 2,.d 3]) (.D [] []<| .K (bg0 s.E0) fun v3=>.Sp v3 (.Sp (decide (s.Z5>=0)) (.K (bb3 w) fun v4=>.Sp (decide (s.Z5<v4)) (.Sp (decide (s.A0>=1)) (.Sp (decide (s.A0<=s.E0)) (.Sp (decide (s.I6>=1)) (.R ((decide (s.I6<=s.A0))&&(s.U2==0))) (.R false)) (.Sp false .N (.R false))) (.Sp false .N (.Sp false .N (.R false)))) (.Sp false .N (.Sp false .N (.Sp false .N (.R false))))) (.Sp false .N (.Sp false .N (.Sp false .N (.Sp false .N (.R false)))))) (.Sp false .N (.Sp false .N (.Sp false .N (.Sp false .N (.Sp false .N (.R false))))))) fun v5=>.R v5) (.R false)))))
def bv8:C prog ay3:=.of Z call18 func18 [] (fun r=>aq5 r) (
 .R (⟨60,2⟩:ay3))
def aI2 (l:List L3)(k:List ab5)(r3:List Y2×Int)(i:Int)(f2:Y9):M prog Bool (Fl Y9 Bool):=
 .K (bE1 l f2.Time) fun r5=>.K (bu8 f2 r5.1 k) fun r6=>.J0 1 (fun(t:Bool)=>[.t 161 (.t (tB t)),.x 21,.x 24,.x 115,.d 21,.d 24]) (.D [] []<| .Sp (r5.2 !=0) (.Sp true (.Sp true (.Sp true (.Sp true (.R true) .N) .N) .N) .N) (.Sp (r6.2.2 !=0) (.Sp true (.Sp true (.Sp true (.R true) .N) .N) .N) (.O (.ix aL3 r3.1 i) fun x=>.K (aG7 r6.2.1 x) fun v8=>.Sp (!v8) (.Sp true (.Sp true (.R true) .N) .N) (.K (K9 (⟨(⟨r6.1.c8.o9.z7,r6.1.c8.o9.P0⟩:o7),(⟨r6.1.c8.j8.L9,r6.1.c8.j8.At,r6.1.c8.j8.E3,r6.1.c8.j8.A0,r6.1.c8.j8.M5,r6.1.c8.j8.Q4⟩:B8),(⟨r6.1.c8.j7.P8,r6.1.c8.j7.j5⟩:u5),r6.1.c8.Next,r6.1.c8.F3,r6.1.c8.Cut⟩:j2)) fun v9=>.Sp (!v9) (.Sp true (.R true) .N) (.K (ab9 (⟨r6.1.C7.K6,r6.1.C7.L,r6.1.C7.af1,r6.1.C7.S8⟩:B3)) fun v10=>.Sp (!v10) (.R true) (.K (bv8) fun v11=>.K (bb5 v11 (⟨r6.1.D8.Mode,r6.1.D8.Z5,r6.1.D8.E0,r6.1.D8.A0,r6.1.D8.I6,r6.1.D8.U2⟩:Q5)) fun v12=>.R (!v12))))))) fun v13=>.I v13 (.R (.ret false)) (.R (.next (⟨(⟨(⟨r6.1.j3.Air.X,r6.1.j3.Air.Y,r6.1.j3.Air.Z⟩:SMap),(⟨r6.1.j3.D9.X,r6.1.j3.D9.Y,r6.1.j3.D9.Z⟩:SMap),(⟨r6.1.j3.j9.X,r6.1.j3.j9.Y,r6.1.j3.j9.Z⟩:SMap),(⟨r6.1.j3.R6.X,r6.1.j3.R6.Y,r6.1.j3.R6.Z⟩:SMap),(⟨r6.1.j3.C6.X,r6.1.j3.C6.Y⟩:A7),(⟨r6.1.j3.L2.X,r6.1.j3.L2.Y⟩:A7),(⟨r6.1.j3.V6.X,r6.1.j3.V6.Y⟩:A7),(⟨r6.1.j3.u6.X,r6.1.j3.u6.Y⟩:A7),(⟨r6.1.j3.G6.P,r6.1.j3.G6.I,r6.1.j3.G6.Low,r6.1.j3.G6.aC5⟩:ak0)⟩:p6),(⟨(⟨r6.1.j4.C5.Value,r6.1.j4.C5.O8,r6.1.j4.C5.ai8⟩:L4),(⟨r6.1.j4.G6.Sum⟩:B9),r6.1.j4.R7,(⟨r6.1.j4.B2.Q8,r6.1.j4.B2.ay2,r6.1.j4.B2.P3,r6.1.j4.B2.av7,r6.1.j4.B2.Cells⟩:I2),r6.1.j4.H9,(⟨r6.1.j4.L8.j9,r6.1.j4.L8.I7⟩:N4)⟩:z8),(⟨(⟨r6.1.c8.o9.z7,r6.1.c8.o9.P0⟩:o7),(⟨r6.1.c8.j8.L9,r6.1.c8.j8.At,r6.1.c8.j8.E3,r6.1.c8.j8.A0,r6.1.c8.j8.M5,r6.1.c8.j8.Q4⟩:B8),(⟨r6.1.c8.j7.P8,r6.1.c8.j7.j5⟩:u5),r6.1.c8.Next,r6.1.c8.F3,r6.1.c8.Cut⟩:j2),(⟨r6.1.D8.Mode,r6.1.D8.Z5,r6.1.D8.E0,r6.1.D8.A0,r6.1.D8.I6,r6.1.D8.U2⟩:Q5),(⟨r6.1.D3.ap8,r6.1.D3.aO3,r6.1.D3.F2,r6.1.D3.Seen⟩:Q0),(⟨r6.1.B4.Seen,r6.1.B4.E0,r6.1.B4.A0⟩:N6),(⟨r6.1.H4.Over,r6.1.H4.Calm,r6.1.H4.Off⟩:U0),(⟨r6.1.H7.Question,r6.1.H7.an5,r6.1.H7.U7,r6.1.H7.Open,r6.1.H7.Off⟩:W3),(⟨r6.1.G1.T7,r6.1.G1.az1,r6.1.G1.ao1⟩:V7),(⟨r6.1.C7.K6,r6.1.C7.L,r6.1.C7.af1,r6.1.C7.S8⟩:B3),(⟨r6.1.u3.F8,r6.1.u3.C9,r6.1.u3.Rest,r6.1.u3.G0,r6.1.u3.H9,r6.1.u3.Path⟩:O9),(⟨r6.1.E7.O5,r6.1.E7.N9,r6.1.E7.ac4,r6.1.E7.C4,r6.1.E7.H9,r6.1.E7.E9,r6.1.E7.an6⟩:J4),r6.1.Time⟩:Y9)))
def aE5 (t2:p6)(b2:J4)(e2:o7)(l:List L3)(k:List ab5)(steps:Int):C prog Bool:=.of Z call3 func3 [V5 t2,aM1 b2,av0 e2,.t (tS an7 l),.t (tS aj8 k),.t (tK .u8 steps)] (fun r=>.t (tB r)) (
 .K (aN1) fun v=>.G (!v) (.R true) (.K (bj4 t2) fun v2=>.R (!v2)) fun b3=>.G (((b3||(decide ((e2.z7.length:Int)>20)))||(decide ((l.length:Int)>210)))||(decide ((k.length:Int)>100))) (.R true) (.K (aW7 k) fun v3=>.R (!v3)) fun b4=>.G b4 (.R true) (.K (aA7 l) fun v4=>.R (!v4)) fun b5=>.I b5 (.K (aN1) fun v5=>.R v5) (.D [] [(9,13)]<| .K (bn3) fun v6=>.K (bW3 t2 b2 e2 v6) fun r2=>.I (r2.2 !=0) (.R (r2.2==1)) (.K (cH7 (⟨(⟨(⟨r2.1.j3.Air.X,r2.1.j3.Air.Y,r2.1.j3.Air.Z⟩:SMap),(⟨r2.1.j3.D9.X,r2.1.j3.D9.Y,r2.1.j3.D9.Z⟩:SMap),(⟨r2.1.j3.j9.X,r2.1.j3.j9.Y,r2.1.j3.j9.Z⟩:SMap),(⟨r2.1.j3.R6.X,r2.1.j3.R6.Y,r2.1.j3.R6.Z⟩:SMap),(⟨r2.1.j3.C6.X,r2.1.j3.C6.Y⟩:A7),(⟨r2.1.j3.L2.X,r2.1.j3.L2.Y⟩:A7),(⟨r2.1.j3.V6.X,r2.1.j3.V6.Y⟩:A7),(⟨r2.1.j3.u6.X,r2.1.j3.u6.Y⟩:A7),(⟨r2.1.j3.G6.P,r2.1.j3.G6.I,r2.1.j3.G6.Low,r2.1.j3.G6.aC5⟩:ak0)⟩:p6),(⟨(⟨r2.1.j4.C5.Value,r2.1.j4.C5.O8,r2.1.j4.C5.ai8⟩:L4),(⟨r2.1.j4.G6.Sum⟩:B9),r2.1.j4.R7,(⟨r2.1.j4.B2.Q8,r2.1.j4.B2.ay2,r2.1.j4.B2.P3,r2.1.j4.B2.av7,r2.1.j4.B2.Cells⟩:I2),r2.1.j4.H9,(⟨r2.1.j4.L8.j9,r2.1.j4.L8.I7⟩:N4)⟩:z8),(⟨(⟨r2.1.c8.o9.z7,r2.1.c8.o9.P0⟩:o7),(⟨r2.1.c8.j8.L9,r2.1.c8.j8.At,r2.1.c8.j8.E3,r2.1.c8.j8.A0,r2.1.c8.j8.M5,r2.1.c8.j8.Q4⟩:B8),(⟨r2.1.c8.j7.P8,r2.1.c8.j7.j5⟩:u5),r2.1.c8.Next,r2.1.c8.F3,r2.1.c8.Cut⟩:j2),(⟨r2.1.D8.Mode,r2.1.D8.Z5,r2.1.D8.E0,r2.1.D8.A0,r2.1.D8.I6,r2.1.D8.U2⟩:Q5),(⟨r2.1.D3.ap8,r2.1.D3.aO3,r2.1.D3.F2,r2.1.D3.Seen⟩:Q0),(⟨r2.1.B4.Seen,r2.1.B4.E0,r2.1.B4.A0⟩:N6),(⟨r2.1.H4.Over,r2.1.H4.Calm,r2.1.H4.Off⟩:U0),(⟨r2.1.H7.Question,r2.1.H7.an5,r2.1.H7.U7,r2.1.H7.Open,r2.1.H7.Off⟩:W3),(⟨r2.1.G1.T7,r2.1.G1.az1,r2.1.G1.ao1⟩:V7),(⟨r2.1.C7.K6,r2.1.C7.L,r2.1.C7.af1,r2.1.C7.S8⟩:B3),(⟨r2.1.u3.F8,r2.1.u3.C9,r2.1.u3.Rest,r2.1.u3.G0,r2.1.u3.H9,r2.1.u3.Path⟩:O9),(⟨r2.1.E7.O5,r2.1.E7.N9,r2.1.E7.ac4,r2.1.E7.C4,r2.1.E7.H9,r2.1.E7.E9,r2.1.E7.an6⟩:J4),r2.1.Time⟩:Y9) l k (ef7 (o6 steps) 21)) fun r3=>.K (cH7 (⟨(⟨(⟨r2.1.j3.Air.X,r2.1.j3.Air.Y,r2.1.j3.Air.Z⟩:SMap),(⟨r2.1.j3.D9.X,r2.1.j3.D9.Y,r2.1.j3.D9.Z⟩:SMap),(⟨r2.1.j3.j9.X,r2.1.j3.j9.Y,r2.1.j3.j9.Z⟩:SMap),(⟨r2.1.j3.R6.X,r2.1.j3.R6.Y,r2.1.j3.R6.Z⟩:SMap),(⟨r2.1.j3.C6.X,r2.1.j3.C6.Y⟩:A7),(⟨r2.1.j3.L2.X,r2.1.j3.L2.Y⟩:A7),(⟨r2.1.j3.V6.X,r2.1.j3.V6.Y⟩:A7),(⟨r2.1.j3.u6.X,r2.1.j3.u6.Y⟩:A7),(⟨r2.1.j3.G6.P,r2.1.j3.G6.I,r2.1.j3.G6.Low,r2.1.j3.G6.aC5⟩:ak0)⟩:p6),(⟨(⟨r2.1.j4.C5.Value,r2.1.j4.C5.O8,r2.1.j4.C5.ai8⟩:L4),(⟨r2.1.j4.G6.Sum⟩:B9),r2.1.j4.R7,(⟨r2.1.j4.B2.Q8,r2.1.j4.B2.ay2,r2.1.j4.B2.P3,r2.1.j4.B2.av7,r2.1.j4.B2.Cells⟩:I2),r2.1.j4.H9,(⟨r2.1.j4.L8.j9,r2.1.j4.L8.I7⟩:N4)⟩:z8),(⟨(⟨r2.1.c8.o9.z7,r2.1.c8.o9.P0⟩:o7),(⟨r2.1.c8.j8.L9,r2.1.c8.j8.At,r2.1.c8.j8.E3,r2.1.c8.j8.A0,r2.1.c8.j8.M5,r2.1.c8.j8.Q4⟩:B8),(⟨r2.1.c8.j7.P8,r2.1.c8.j7.j5⟩:u5),r2.1.c8.Next,r2.1.c8.F3,r2.1.c8.Cut⟩:j2),(⟨r2.1.D8.Mode,r2.1.D8.Z5,r2.1.D8.E0,r2.1.D8.A0,r2.1.D8.I6,r2.1.D8.U2⟩:Q5),(⟨r2.1.D3.ap8,r2.1.D3.aO3,r2.1.D3.F2,r2.1.D3.Seen⟩:Q0),(⟨r2.1.B4.Seen,r2.1.B4.E0,r2.1.B4.A0⟩:N6),(⟨r2.1.H4.Over,r2.1.H4.Calm,r2.1.H4.Off⟩:U0),(⟨r2.1.H7.Question,r2.1.H7.an5,r2.1.H7.U7,r2.1.H7.Open,r2.1.H7.Off⟩:W3),(⟨r2.1.G1.T7,r2.1.G1.az1,r2.1.G1.ao1⟩:V7),(⟨r2.1.C7.K6,r2.1.C7.L,r2.1.C7.af1,r2.1.C7.S8⟩:B3),(⟨r2.1.u3.F8,r2.1.u3.C9,r2.1.u3.Rest,r2.1.u3.G0,r2.1.u3.H9,r2.1.u3.Path⟩:O9),(⟨r2.1.E7.O5,r2.1.E7.N9,r2.1.E7.ac4,r2.1.E7.C4,r2.1.E7.H9,r2.1.E7.E9,r2.1.E7.an6⟩:J4),r2.1.Time⟩:Y9) l k (ef7 (o6 steps) 21)) fun r4=>.G (((r3.2 !=0)||(r4.2 !=0))||((r3.1.length:Int) !=(ef7 (o6 steps) 21))) (.R true) (.K (aI4 r3.1 r4.1 (.of (fun z_=>aG7 z_.1 z_.2) 12 [])) fun v7=>.R (!v7)) fun b6=>.I b6 (.R false) (M.QN (ef7 (o6 steps) 21) 2 110 (fun(t:Y9)=>[.x 6,.x 7,.x 8,.b 13 (.box (ee3 t)),.d 6,.d 7,.d 8]) 0 (.one .rt) (aI2 l k r3) (⟨(⟨(⟨r2.1.j3.Air.X,r2.1.j3.Air.Y,r2.1.j3.Air.Z⟩:SMap),(⟨r2.1.j3.D9.X,r2.1.j3.D9.Y,r2.1.j3.D9.Z⟩:SMap),(⟨r2.1.j3.j9.X,r2.1.j3.j9.Y,r2.1.j3.j9.Z⟩:SMap),(⟨r2.1.j3.R6.X,r2.1.j3.R6.Y,r2.1.j3.R6.Z⟩:SMap),(⟨r2.1.j3.C6.X,r2.1.j3.C6.Y⟩:A7),(⟨r2.1.j3.L2.X,r2.1.j3.L2.Y⟩:A7),(⟨r2.1.j3.V6.X,r2.1.j3.V6.Y⟩:A7),(⟨r2.1.j3.u6.X,r2.1.j3.u6.Y⟩:A7),(⟨r2.1.j3.G6.P,r2.1.j3.G6.I,r2.1.j3.G6.Low,r2.1.j3.G6.aC5⟩:ak0)⟩:p6),(⟨(⟨r2.1.j4.C5.Value,r2.1.j4.C5.O8,r2.1.j4.C5.ai8⟩:L4),(⟨r2.1.j4.G6.Sum⟩:B9),r2.1.j4.R7,(⟨r2.1.j4.B2.Q8,r2.1.j4.B2.ay2,r2.1.j4.B2.P3,r2.1.j4.B2.av7,r2.1.j4.B2.Cells⟩:I2),r2.1.j4.H9,(⟨r2.1.j4.L8.j9,r2.1.j4.L8.I7⟩:N4)⟩:z8),(⟨(⟨r2.1.c8.o9.z7,r2.1.c8.o9.P0⟩:o7),(⟨r2.1.c8.j8.L9,r2.1.c8.j8.At,r2.1.c8.j8.E3,r2.1.c8.j8.A0,r2.1.c8.j8.M5,r2.1.c8.j8.Q4⟩:B8),(⟨r2.1.c8.j7.P8,r2.1.c8.j7.j5⟩:u5),r2.1.c8.Next,r2.1.c8.F3,r2.1.c8.Cut⟩:j2),(⟨r2.1.D8.Mode,r2.1.D8.Z5,r2.1.D8.E0,r2.1.D8.A0,r2.1.D8.I6,r2.1.D8.U2⟩:Q5),(⟨r2.1.D3.ap8,r2.1.D3.aO3,r2.1.D3.F2,r2.1.D3.Seen⟩:Q0),(⟨r2.1.B4.Seen,r2.1.B4.E0,r2.1.B4.A0⟩:N6),(⟨r2.1.H4.Over,r2.1.H4.Calm,r2.1.H4.Off⟩:U0),(⟨r2.1.H7.Question,r2.1.H7.an5,r2.1.H7.U7,r2.1.H7.Open,r2.1.H7.Off⟩:W3),(⟨r2.1.G1.T7,r2.1.G1.az1,r2.1.G1.ao1⟩:V7),(⟨r2.1.C7.K6,r2.1.C7.L,r2.1.C7.af1,r2.1.C7.S8⟩:B3),(⟨r2.1.u3.F8,r2.1.u3.C9,r2.1.u3.Rest,r2.1.u3.G0,r2.1.u3.H9,r2.1.u3.Path⟩:O9),(⟨r2.1.E7.O5,r2.1.E7.N9,r2.1.E7.ac4,r2.1.E7.C4,r2.1.E7.H9,r2.1.E7.E9,r2.1.E7.an6⟩:J4),r2.1.Time⟩:Y9) (fun _=>.R true) (fun r7=>.R r7)))))
end Go.Proofs.YtfplhihoadkhlaaGreat
namespace Go.Pv
open Go
structure cr1 (x:SMap):Prop where
  X:(wfL (fun n=>(dN1 .i64 n).wf=true)) x.X
  Y:(wfL (fun n=>(dN1 .i64 n).wf=true)) x.Y
  Z:(wfL (wfL (fun n=>(dN1 .i64 n).wf=true))) x.Z
structure bG5 (x:A7):Prop where
  X:(wfL (fun n=>(dN1 .i64 n).wf=true)) x.X
  Y:(wfL (fun n=>(dN1 .i64 n).wf=true)) x.Y
structure dB4 (x:ak0):Prop where
  P:(fun n=>(dN1 .i64 n).wf=true) x.P
  I:(fun n=>(dN1 .i64 n).wf=true) x.I
  Low:(fun n=>(dN1 .i64 n).wf=true) x.Low
  aC5:(fun n=>(dN1 .i64 n).wf=true) x.aC5
structure ch9 (x:p6):Prop where
  Air:cr1 x.Air
  D9:cr1 x.D9
  j9:cr1 x.j9
  R6:cr1 x.R6
  C6:bG5 x.C6
  L2:bG5 x.L2
  V6:bG5 x.V6
  u6:bG5 x.u6
  G6:dB4 x.G6
structure cV9 (x:J4):Prop where
  O5:(fun n=>(dN1 .i64 n).wf=true) x.O5
  N9:(fun n=>(dN1 .i64 n).wf=true) x.N9
  ac4:(fun n=>(dN1 .i64 n).wf=true) x.ac4
  C4:(fun n=>(dN1 .i64 n).wf=true) x.C4
  H9:(fun n=>(dN1 .i64 n).wf=true) x.H9
  E9:(fun n=>(dN1 .i64 n).wf=true) x.E9
  an6:(fun n=>(dN1 .i64 n).wf=true) x.an6
structure ch8 (x:o7):Prop where
  z7:(wfL (fun n=>(dN1 .i64 n).wf=true)) x.z7
  P0:(fun n=>(dN1 .i64 n).wf=true) x.P0
structure bY2 (x:L3):Prop where
  At:(fun n=>(dN1 .i64 n).wf=true) x.At
  C5:(fun n=>(dN1 .i64 n).wf=true) x.C5
  aF4:(fun n=>(dN1 .i64 n).wf=true) x.aF4
  be0:(fun n=>(dN1 .i64 n).wf=true) x.be0
  be1:(fun n=>(dN1 .i64 n).wf=true) x.be1
structure bY1 (x:ab5):Prop where
  cb3:(fun n=>(dN1 .i64 n).wf=true) x.cb3
  To:(fun n=>(dN1 .i64 n).wf=true) x.To
  ba5:(fun n=>(dN1 .i64 n).wf=true) x.ba5
  Value:(fun n=>(dN1 .i64 n).wf=true) x.Value
end Go.Pv
namespace Go.Proofs.YtfplhihoadkhlaaGreat
open Go Go.Pv Go.Proofs
theorem au5:Reads Tryz.prog 3 aI8 (fun n=>(dN1 .i64 n).wf=true):=df2 Tryz.underlying3 (fun _=>rfl)
theorem bF6:Reads Tryz.prog 22 (dn9 aI8) (wfL (fun n=>(dN1 .i64 n).wf=true)):=bA1 (sz:=1) Tryz.underlying22 au5 (by kernel_rfl) (by decide) (fun _=>rfl)
theorem er7:Reads Tryz.prog 23 (dn9 (dn9 aI8)) (wfL (wfL (fun n=>(dN1 .i64 n).wf=true))):=bA1 (sz:=1) Tryz.underlying23 bF6 (by kernel_rfl) (by decide) (fun _=>rfl)
theorem co8:Reads Tryz.prog 25 cO5 cr1:=by
  intro H e w fuel cs x h
  obtain⟨xs,n,_,rfl,hl,hlen,hf⟩:=DataW.trod_struct Tryz.underlying25 h
  obtain⟨y0,w0,r0⟩:=Q6 hlen hf 0 rfl bF6
  obtain⟨y1,w1,r1⟩:=Q6 hlen hf 1 rfl bF6
  obtain⟨y2,w2,r2⟩:=Q6 hlen hf 2 rfl er7
  exact⟨⟨y0,y1,y2⟩,⟨w0,w1,w2⟩,Q7 (o:=0) (o':=1) r0 (by kernel_rfl) (Q7 (o:=1) (o':=2) r1 (by kernel_rfl) (Q7 (o:=2) (o':=3) r2 (by kernel_rfl) (bA2 (hl.trans (by kernel_rfl)))))⟩
theorem co9:Reads Tryz.prog 27 bJ2 bG5:=by
  intro H e w fuel cs x h
  obtain⟨xs,n,_,rfl,hl,hlen,hf⟩:=DataW.trod_struct Tryz.underlying27 h
  obtain⟨y0,w0,r0⟩:=Q6 hlen hf 0 rfl bF6
  obtain⟨y1,w1,r1⟩:=Q6 hlen hf 1 rfl bF6
  exact⟨⟨y0,y1⟩,⟨w0,w1⟩,Q7 (o:=0) (o':=1) r0 (by kernel_rfl) (Q7 (o:=1) (o':=2) r1 (by kernel_rfl) (bA2 (hl.trans (by kernel_rfl))))⟩
theorem er8:Reads Tryz.prog 29 dV7 dB4:=by
  intro H e w fuel cs x h
  obtain⟨xs,n,_,rfl,hl,hlen,hf⟩:=DataW.trod_struct Tryz.underlying29 h
  obtain⟨y0,w0,r0⟩:=Q6 hlen hf 0 rfl au5
  obtain⟨y1,w1,r1⟩:=Q6 hlen hf 1 rfl au5
  obtain⟨y2,w2,r2⟩:=Q6 hlen hf 2 rfl au5
  obtain⟨y3,w3,r3⟩:=Q6 hlen hf 3 rfl au5
  exact⟨⟨y0,y1,y2,y3⟩,⟨w0,w1,w2,w3⟩,Q7 (o:=0) (o':=1) r0 (by kernel_rfl) (Q7 (o:=1) (o':=2) r1 (by kernel_rfl) (Q7 (o:=2) (o':=3) r2 (by kernel_rfl) (Q7 (o:=3) (o':=4) r3 (by kernel_rfl) (bA2 (hl.trans (by kernel_rfl))))))⟩
theorem er9:Reads Tryz.prog 31 aR6 ch9:=by
  intro H e w fuel cs x h
  obtain⟨xs,n,_,rfl,hl,hlen,hf⟩:=DataW.trod_struct Tryz.underlying31 h
  obtain⟨y0,w0,r0⟩:=Q6 hlen hf 0 rfl co8
  obtain⟨y1,w1,r1⟩:=Q6 hlen hf 1 rfl co8
  obtain⟨y2,w2,r2⟩:=Q6 hlen hf 2 rfl co8
  obtain⟨y3,w3,r3⟩:=Q6 hlen hf 3 rfl co8
  obtain⟨y4,w4,r4⟩:=Q6 hlen hf 4 rfl co9
  obtain⟨y5,w5,r5⟩:=Q6 hlen hf 5 rfl co9
  obtain⟨y6,w6,r6⟩:=Q6 hlen hf 6 rfl co9
  obtain⟨y7,w7,r7⟩:=Q6 hlen hf 7 rfl co9
  obtain⟨y8,w8,r8⟩:=Q6 hlen hf 8 rfl er8
  exact⟨⟨y0,y1,y2,y3,y4,y5,y6,y7,y8⟩,⟨w0,w1,w2,w3,w4,w5,w6,w7,w8⟩,Q7 (o:=0) (o':=3) r0 (by kernel_rfl) (Q7 (o:=3) (o':=6) r1 (by kernel_rfl) (Q7 (o:=6) (o':=9) r2 (by kernel_rfl) (Q7 (o:=9) (o':=12) r3 (by kernel_rfl) (Q7 (o:=12) (o':=14) r4 (by kernel_rfl) (Q7 (o:=14) (o':=16) r5 (by kernel_rfl) (Q7 (o:=16) (o':=18) r6 (by kernel_rfl) (Q7 (o:=18) (o':=20) r7 (by kernel_rfl) (Q7 (o:=20) (o':=24) r8 (by kernel_rfl) (bA2 (hl.trans (by kernel_rfl)))))))))))⟩
theorem eL6:bZ9 Tryz.prog 31 (fun x=>V5 x) ch9:=cc1 Tryz.underlying31 er9 (fun _=>rfl)
theorem es0:Reads Tryz.prog 33 bE6 cV9:=by
  intro H e w fuel cs x h
  obtain⟨xs,n,_,rfl,hl,hlen,hf⟩:=DataW.trod_struct Tryz.underlying33 h
  obtain⟨y0,w0,r0⟩:=Q6 hlen hf 0 rfl au5
  obtain⟨y1,w1,r1⟩:=Q6 hlen hf 1 rfl au5
  obtain⟨y2,w2,r2⟩:=Q6 hlen hf 2 rfl au5
  obtain⟨y3,w3,r3⟩:=Q6 hlen hf 3 rfl au5
  obtain⟨y4,w4,r4⟩:=Q6 hlen hf 4 rfl au5
  obtain⟨y5,w5,r5⟩:=Q6 hlen hf 5 rfl au5
  obtain⟨y6,w6,r6⟩:=Q6 hlen hf 6 rfl au5
  exact⟨⟨y0,y1,y2,y3,y4,y5,y6⟩,⟨w0,w1,w2,w3,w4,w5,w6⟩,Q7 (o:=0) (o':=1) r0 (by kernel_rfl) (Q7 (o:=1) (o':=2) r1 (by kernel_rfl) (Q7 (o:=2) (o':=3) r2 (by kernel_rfl) (Q7 (o:=3) (o':=4) r3 (by kernel_rfl) (Q7 (o:=4) (o':=5) r4 (by kernel_rfl) (Q7 (o:=5) (o':=6) r5 (by kernel_rfl) (Q7 (o:=6) (o':=7) r6 (by kernel_rfl) (bA2 (hl.trans (by kernel_rfl)))))))))⟩
theorem eL7:bZ9 Tryz.prog 33 (fun x=>aM1 x) cV9:=cc1 Tryz.underlying33 es0 (fun _=>rfl)
theorem es1:Reads Tryz.prog 35 bR8 ch8:=by
  intro H e w fuel cs x h
  obtain⟨xs,n,_,rfl,hl,hlen,hf⟩:=DataW.trod_struct Tryz.underlying35 h
  obtain⟨y0,w0,r0⟩:=Q6 hlen hf 0 rfl bF6
  obtain⟨y1,w1,r1⟩:=Q6 hlen hf 1 rfl au5
  exact⟨⟨y0,y1⟩,⟨w0,w1⟩,Q7 (o:=0) (o':=1) r0 (by kernel_rfl) (Q7 (o:=1) (o':=2) r1 (by kernel_rfl) (bA2 (hl.trans (by kernel_rfl))))⟩
theorem eL8:bZ9 Tryz.prog 35 (fun x=>av0 x) ch8:=cc1 Tryz.underlying35 es1 (fun _=>rfl)
theorem es4:Reads Tryz.prog 97 an7 bY2:=by
  intro H e w fuel cs x h
  obtain⟨xs,n,_,rfl,hl,hlen,hf⟩:=DataW.trod_struct Tryz.underlying97 h
  obtain⟨y0,w0,r0⟩:=Q6 hlen hf 0 rfl au5
  obtain⟨y1,w1,r1⟩:=Q6 hlen hf 1 rfl au5
  obtain⟨y2,w2,r2⟩:=Q6 hlen hf 2 rfl au5
  obtain⟨y3,w3,r3⟩:=Q6 hlen hf 3 rfl au5
  obtain⟨y4,w4,r4⟩:=Q6 hlen hf 4 rfl au5
  exact⟨⟨y0,y1,y2,y3,y4⟩,⟨w0,w1,w2,w3,w4⟩,Q7 (o:=0) (o':=1) r0 (by kernel_rfl) (Q7 (o:=1) (o':=2) r1 (by kernel_rfl) (Q7 (o:=2) (o':=3) r2 (by kernel_rfl) (Q7 (o:=3) (o':=4) r3 (by kernel_rfl) (Q7 (o:=4) (o':=5) r4 (by kernel_rfl) (bA2 (hl.trans (by kernel_rfl)))))))⟩
theorem es2:Reads Tryz.prog 36 (dn9 an7) (wfL bY2):=bA1 (sz:=5) Tryz.underlying36 es4 (by kernel_rfl) (by decide) (fun _=>rfl)
theorem eL9:bZ9 Tryz.prog 36 (fun x=>.t (tS an7 x)) (wfL bY2):=cZ7 Tryz.underlying36 es2 (fun _=>rfl)
theorem ea7:Reads Tryz.prog 118 aj8 bY1:=by
  intro H e w fuel cs x h
  obtain⟨xs,n,_,rfl,hl,hlen,hf⟩:=DataW.trod_struct Tryz.underlying118 h
  obtain⟨y0,w0,r0⟩:=Q6 hlen hf 0 rfl au5
  obtain⟨y1,w1,r1⟩:=Q6 hlen hf 1 rfl au5
  obtain⟨y2,w2,r2⟩:=Q6 hlen hf 2 rfl au5
  obtain⟨y3,w3,r3⟩:=Q6 hlen hf 3 rfl au5
  exact⟨⟨y0,y1,y2,y3⟩,⟨w0,w1,w2,w3⟩,Q7 (o:=0) (o':=1) r0 (by kernel_rfl) (Q7 (o:=1) (o':=2) r1 (by kernel_rfl) (Q7 (o:=2) (o':=3) r2 (by kernel_rfl) (Q7 (o:=3) (o':=4) r3 (by kernel_rfl) (bA2 (hl.trans (by kernel_rfl))))))⟩
theorem es3:Reads Tryz.prog 37 (dn9 aj8) (wfL bY1):=bA1 (sz:=4) Tryz.underlying37 ea7 (by kernel_rfl) (by decide) (fun _=>rfl)
theorem eM0:bZ9 Tryz.prog 37 (fun x=>.t (tS aj8 x)) (wfL bY1):=cZ7 Tryz.underlying37 es3 (fun _=>rfl)
theorem eF3:Reads Tryz.prog 5 eN6 (fun n=>(dN1 .u8 n).wf=true):=df2 Tryz.underlying5 (fun _=>rfl)
theorem eW2:bZ9 Tryz.prog 5 (fun x=>.t (tK .u8 x)) (fun n=>(dN1 .u8 n).wf=true):=ez2 Tryz.underlying5 eF3 (fun _=>rfl) (fun _=>rfl)
end Go.Proofs.YtfplhihoadkhlaaGreat
namespace Go.Pv
open Go.RowKit
theorem cV1 {S R:Type}(f:Int->S->Option (Fl S R))(I:Nat->S->Prop):∀(k i:Nat) (s:S),I i s->(∀j,i<=j->j<i+k->∀s,I j s->∃s',f (j:Int) s=some (.next s')/\I (j+1) s')->∃s',aX0 f k (i:Int) s=some (.inl s')/\I (i+k) s'
 |0,i,s,h,_=>⟨s,rfl,h⟩
 |k+1,i,s,h,st=>by
  obtain⟨s1,h1,h2⟩:=st i (cB6 _) (by omega) s h
  obtain⟨s2,h3,h4⟩:=cV1 f I k (i+1) s1 h2 (fun j a b=>st j (by omega) (by omega))
  refine⟨s2,?_,by rw[show i+(k+1)=i+1+k by omega];exact h4⟩
  simp only[aX0,h1,ac0]
  exact h3
theorem ah4 {S R:Type}(n:Nat)(hn:n<=9223372036854775807)(f:Int->S->Option (Fl S R))(I:Nat->S->Prop)(s:S)(h:I 0 s)(st:∀j,j<n->∀s,I j s->∃s',f (j:Int) s=some (.next s')/\I (j+1) s'):∃s',N1 (n:Int) f s=some (.inl s')/\I n s':=by
 obtain⟨s',h1,h2⟩:=cV1 f I n 0 s h (fun j _ b=>st j (by omega))
 refine⟨s',?_,by simpa using h2⟩
 rw[am7 _ hn]
 exact h1
theorem bw8 {α S R:Type}(f:Int->α->S->Option (Fl S R))(l:List α)(I:Nat->S->Prop):∀(r:List α) (i:Nat) (s:S),l.drop i=r->I i s->(∀j (hj:j<l.length),i<=j->∀s,I j s->∃s',f (j:Int) l[j] s=some (.next s')/\I (j+1) s')->∃s',N3 f r (i:Int) s=some (.inl s')/\I (i+r.length) s'
 |[],i,s,_,h,_=>⟨s,rfl,h⟩
 |y::r,i,s,hd,h,st=>by
  have hi:i<l.length:=by
   have:=congrArg List.length hd;simp at this;omega
  have hy:l[i]=y:=by
   have h1:l[i]? =some y:=by rw[<-List.head?_drop,hd];rfl
   rw[aJ9 hi]at h1;exact Option.some.inj h1
  obtain⟨s1,h1,h2⟩:=st i hi (cB6 _) s h
  obtain⟨s2,h3,h4⟩:=bw8 f l I r (i+1) s1 (by rw[<-List.drop_drop,hd];rfl) h2 (fun j a b=>st j a (by omega))
  refine⟨s2,?_,by rw[List.length_cons,show i+(r.length+1)=i+1+r.length by omega];exact h4⟩
  rw[hy]at h1
  simp only[N3,h1,ac0]
  exact h3
theorem dI4 {α S R:Type}(l:List α)(hn:l.length<=9223372036854775807)(f:Int->α->S->Option (Fl S R))(I:Nat->S->Prop)(s:S)(h:I 0 s)(st:∀j (hj:j<l.length),∀s,I j s->∃s',f (j:Int) l[j] s=some (.next s')/\I (j+1) s'):∃s',ad4 l f s=some (.inl s')/\I l.length s':=by
 obtain⟨s',h1,h2⟩:=bw8 f l I l 0 s rfl h (fun j a _=>st j a)
 refine⟨s',?_,by simpa using h2⟩
 rw[M4 _ hn]
 exact h1
theorem cw3 {S B:Type}{mb:S->Option (S⊕B)}(I:Nat->S->Prop)(J:B->Prop):∀(n k:Nat) (s:S),I k s->(∀j,k<=j->j<k+n->∀s,I j s->∃s',mb s=some (.inl s')/\I (j+1) s')->(∀s,I (k+n) s->∃b,mb s=some (.inr b)/\J b)->∃b,M0 mb s=some b/\J b
 |0,k,s,h,_,e=>by
  obtain⟨b,h1,h2⟩:=e s h
  exact⟨b,F7 h1,h2⟩
 |n+1,k,s,h,st,e=>by
  obtain⟨s',h1,h2⟩:=st k (cB6 _) (by omega) s h
  rw[I5 h1]
  exact cw3 I J n (k+1) s' h2 (fun j a b=>st j (by omega) (by omega)) (by rw[show k+1+n=k+(n+1) by omega];exact e)
theorem aa6 {α:Type}(l:List α)(i:Nat)(y:α)(h:i<l.length):ak9 l (i:Int) y=some (l.set i y):=by
 unfold ak9;rw[if_pos ⟨by omega,by omega⟩];rfl
theorem E8 {α:Type}(l:List α)(i:Nat)(h:i<l.length):F0 l (i:Int)=some l[i]:=by rw[S0,aJ9 h]
theorem bW8 {α:Type}(n:Nat)(h:n<=1073741824)(z:α):aY2 (n:Int) z=some (List.replicate n z):=by
 unfold aY2;rw[if_pos ⟨by omega,by omega⟩];rfl
theorem K4 {α:Type}(l r:List α)(h:l.length+r.length<=1073741824):U8 l r=some (l++r):=by
 unfold U8;rw[if_pos h]
theorem dF0 {α:Type}(l r:List α)(h:l.length=r.length):aJ5 l r=r:=by
 unfold aJ5;rw[h,List.take_length,<-h,List.drop_length,List.append_nil]
theorem as0 {α S R:Type}(l:List α)(f:Int->α->S->Option (Fl S R)):cT1 l f=fun p=>bif decide (p.1<(l.length:Int))then((F0 l p.1).bind fun x=>(f p.1 x p.2).bind (aE2 p.1))else some (.inr (.inl p.2)):=rfl
theorem O2 {S R:Type}(n:Int)(f:Int->S->Option (Fl S R)):co5 n f=fun p=>bif decide (p.1<n)then(f p.1 p.2).bind (aE2 p.1)else some (.inr (.inl p.2)):=rfl
theorem bg {α:Type}(c x y:Bool)(f:Bool->Option α):ab6 (bif c then some x else some y) f=f (bif c then x else y):=by cases c<;>rfl
theorem bga (c x:Bool):(bif c then x else false)=(c&&x):=by cases c<;>rfl
theorem bgo (c x:Bool):(bif c then true else x)=(c||x):=by cases c<;>rfl
theorem bso {α β:Type}(x:α)(f:α->Option β):ab6 (some x) f=f x:=rfl
theorem bP3 {α β:Type}{a:Option α}{x:α}{f:α->Option β}{r:Option β}(h:a=some x)(k:f x=r):a.bind f=r:=by subst h;exact k
theorem bJ8 {α:Type}(l:List α)(hn:l.length<=9223372036854775807)(f:α->Option Bool)(p:α->Bool)(h:∀y∈l,f y=some (p y)):
  (ab6 (ab6 (M0 (fun(s:Int×Unit)=>bif decide (s.1<(l.length:Int))then(ab6 (ab6 (F0 l s.1) fun t=>ab6 (f t) fun t=>bif t then some (Fl.ret s.1)else some (Fl.next ())) (aE2 s.1))else some (Sum.inr (Sum.inl s.2))) (0,())) fun(t:Unit⊕Int)=>match t with| .inl _=>(some (-1))| .inr r2=>some r2) fun v=>some (decide (v>=0)))=some (l.any p):=by
 have:=aj2 l hn f p h
 exact this
theorem elE {P:Program}{ρ τ:Type}(t:Empty):(t.elim:M P ρ τ).run=(t.elim:Option τ):=t.elim
theorem bgt {α:Type}(c d:Bool)(x:α):(bif c then some (true,x)else some (d,x))=some (c||d,x):=by cases c<;>rfl
theorem da1 {α β:Type}{a:Option α}{f g:α->Option β}(h:∀y,a=some y->f y=g y):a.bind f=a.bind g:=by cases a;rfl;exact h _ rfl
theorem dM4 {α:Type}{c:Bool}{x y z w:α}(h:x=z)(k:y=w):(bif c then x else y)=(bif c then z else w):=by rw[h,k]
end Go.Pv
namespace Go.Pv.Ec
open Go Go.Pv Go.Proofs Go.Proofs.YtfplhihoadkhlaaGreat
theorem eQ7 {x y:Int}(h:y<x):J1 x y=y:=by unfold J1;rw[if_pos h]
theorem eQ6 {x y:Int}(h:x<=y):J1 x y=x:=by unfold J1;rw[if_neg (by omega)]
def ag2 (t:Int):Bool:=decide (t>=0)&&decide (t<=1099511627776)
theorem aZ0 {t:Int}:ag2 t=true↔0<=t/\t<=1099511627776:=by simp[ag2]
def tfB (f:N6):Bool:=ag2 f.E0&&ag2 f.A0&&decide (f.A0<=f.E0)&&(f.Seen||((f.E0==0)&&(f.A0==0)))
theorem dR7 (t:Int):(aV5 t).m=some (ag2 t):=rfl
theorem cV5 (f:N6):(aH6 f).m=some (tfB f):=by
 simp only[aH6,C.of,M.run,dR7,ac0]
 cases h:ag2 f.E0<;>simp[tfB,h]
theorem ev7 (f:N6):∃n,(bh0 f).m=some n:=by
 simp only[bh0,C.of,M.run,cV5,ac0]
 cases(!tfB f|| !f.Seen)<;>exact⟨_,rfl⟩
theorem eH3 (f:N6)(t:Int):∃g b e,(bk9 f t).m=some (g,b,e)/\(e=0->tfB f=true/\tfB g=true/\(g.E0=t\/g=f)/\ag2 t=true):=by
 obtain⟨n,hn⟩:=ev7 f
 simp only[bk9,C.of,M.run,cV5,dR7,hn,ac0]
 cases h1:tfB f
 ·exact⟨_,_,_,rfl,fun h=>by cases h⟩
 cases h2:ag2 t
 ·exact⟨_,_,_,rfl,fun h=>by cases h⟩
 have ht:=aZ0.1 h2
 simp only[tfB,au2,fh8,aZ0]at h1
 simp only[aK4,fh3]
 cases h3:(f.Seen&&decide (t<f.E0))
 ·simp only[fh3]
  cases h4:f.Seen
  ·simp only[fh3,ac0]
   refine⟨_,_,_,rfl,fun _=>⟨by simp[tfB],?_,.inl rfl,trivial⟩⟩
   simp[tfB,ag2,ht.1,ht.2]
  ·rw[h4,Bool.true_and]at h3
   have h3:=of_decide_eq_false h3
   simp only[fh5,ac0]
   cases decide (o6 (t-f.E0)<n)
   ·refine⟨_,_,_,rfl,fun _=>⟨by simp[tfB],?_,.inl rfl,trivial⟩⟩
    have:o6 (t-f.E0)=t-f.E0:=k6 (by omega) (by omega)
    simp only[tfB,this,au2,fh8,aZ0,Bool.true_or,and_true]
    omega
   ·exact⟨_,_,_,rfl,fun _=>⟨by simp[tfB],by simp[tfB,aZ0,h1],.inr rfl,trivial⟩⟩
 ·exact⟨_,_,_,rfl,fun h=>by cases h⟩
def grB (g:U0):Bool:=(((decide (g.Over>=0)&&decide (g.Over<=5))&&(decide (g.Calm>=0)&&decide (g.Calm<=1000)))&&((g.Over==0)||(g.Calm==0)))&&(g.Off||decide (g.Over<5))
theorem dW3 (x a b:Int):(O7 x a b).m=some (decide (x>=a)&&decide (x<=b)):=rfl
theorem cQ0 (g:U0):(aY3 g).m=some (grB g):=by
 simp only[aY3,C.of,M.run,dW3,ac0]
 cases h:(decide (g.Over>=0)&&decide (g.Over<=5))<;>simp[grB,h]
theorem dW2 (t:Int):(bw1 t).m=some (decide (t>= -20000)&&decide (t<=20000)):=rfl
theorem eC1 (g:U0)(p a:Int):∃h e,(br9 g p a).m=some (h,e)/\(e=0->grB h=true)/\
  (grB g=true-> -20000<=p->p<=20000-> -20000<=a->a<=20000->e=0/\h=if a>p then⟨J1 5 (g.Over+1),0,g.Off||(J1 5 (g.Over+1)==5)⟩else⟨0,J1 1000 (g.Calm+1),g.Off⟩):=by
 simp only[br9,C.of,M.run,cQ0,dW2,ac0]
 cases h1:grB g
 ·exact⟨_,_,rfl,fun h=>(by cases h),fun h=>(by cases h)⟩
 simp only[grB,au2,fh8,cx1,beq_iff_eq]at h1
 have w1:o6 (g.Over+1)=g.Over+1:=k6 (by omega) (by omega)
 have w2:o6 (g.Calm+1)=g.Calm+1:=k6 (by omega) (by omega)
 simp only[aK4,fh3,w1,w2]
 by_cases hb:(-20000<=p/\p<=20000)/\(-20000<=a/\a<=20000)
 ·have e1:(decide (p>= -20000)&&decide (p<=20000))=true:=by simp[hb.1]
  have e2:(decide (a>= -20000)&&decide (a<=20000))=true:=by simp[hb.2]
  rw[e1,e2]
  simp only[aK4,fh3,ac0]
  by_cases ha:a>p
  ·rw[fh6 ha]
   refine⟨_,_,rfl,fun _=>?_,fun _ _ _ _ _=>⟨rfl,by rw[if_pos ha]⟩⟩
   rcases Int.lt_or_le (g.Over+1) 5 with hm|hm
   ·rw[eQ7 hm];simp only[grB,au2,fh8,cx1,beq_iff_eq];exact⟨⟨by omega,.inr (by trivial)⟩,.inr hm⟩
   ·rw[eQ6 hm];simp[grB]
  ·rw[fh7 ha]
   refine⟨_,_,rfl,fun _=>?_,fun _ _ _ _ _=>⟨rfl,by rw[if_neg ha]⟩⟩
   have:0<=J1 1000 (g.Calm+1)/\J1 1000 (g.Calm+1)<=1000:=by unfold J1;split<;>omega
   have h2:=h1.2
   simp only[grB,au2,fh8,cx1,beq_iff_eq]
   refine⟨⟨by omega,.inl (by trivial)⟩,?_⟩
   rcases h2 with h2|h2
   ·exact .inl h2
   ·right;omega
 ·cases e1:(decide (p>= -20000)&&decide (p<=20000))
  ·exact⟨_,_,rfl,fun h=>(by cases h),fun _ h1 h2=>(by simp[h1,h2]at e1)⟩
  ·cases e2:(decide (a>= -20000)&&decide (a<=20000))
   ·exact⟨_,_,rfl,fun h=>(by cases h),fun _ _ _ h1 h2=>(by simp[h1,h2]at e2)⟩
   ·simp only[au2,fh8]at e1 e2
    exact absurd ⟨⟨e1.1,e1.2⟩,e2.1,e2.2⟩ hb
def quB (n:Int):Bool:=decide (n>=1)&&decide (n<=65535)
def qzB (q:W3):Bool:=(((((quB q.Question&&ag2 q.an5)&&(q.Open||(q.an5==0)))&&decide (q.U7>=0))&&decide (q.U7<=7))&&(q.Off==(q.U7==7)))&& !(q.Open&&q.Off)
theorem bT7 (n:Int):(aY5 n).m=some (quB n):=rfl
theorem cg6 (n:Int):(bs2 n).m=some (ag2 n):=rfl
theorem eF1 (n:Int):(cx7 n).m=some (decide (n>=0)&&decide (n<=65535)):=rfl
theorem co4 (q:W3):(bk0 q).m=some (qzB q):=by
 simp only[bk0,C.of,M.run,bT7,cg6,ac0]
 cases h:quB q.Question<;>simp[qzB,h]
theorem eg1 (l:List Int)(hl:l.length<=1000000)(f:Cl Tryz.prog Int Bool (fun x=>[.t (tI x)]) (fun r=>.t (tB r)))(p:Int->Bool)(h:∀x∈l,f.f x=some (p x)):(u7 l f).m=some (l.any p):=by
 simp only[u7,W6,Z2,C.of,M.run,L1.m,Cl.at]
 refine Eq.trans ?_ (bJ8 l (by omega) f.f p h)
 kernel_rfl
def ptB (l:List Int):Bool:=(decide ((l.length:Int)>=1)&&decide ((l.length:Int)<=16))&& !(l.any fun p=>!(decide (p>=0)&&decide (p<=65535)))
theorem dy3 (l:List Int):(bL0 l).m=some (ptB l):=by
 simp only[bL0,C.of,M.run]
 cases h:(decide ((l.length:Int)>=1)&&decide ((l.length:Int)<=16))
 ·simp[ptB,h]
 ·simp only[au2,fh8]at h
  rw[eg1 l (by omega) _ (fun p=>!(decide (p>=0)&&decide (p<=65535))) (fun x _=>rfl)]
  simp[ptB,h]
theorem de9 (n:Int)(l:List Int):∃a e,(bo1 n l).m=some (a,e):=by
 simp only[bo1,C.of,M.run,dy3,bT7,ac0]
 cases h:ptB l
 ·exact⟨_,_,rfl⟩
 cases quB n
 ·exact⟨_,_,rfl⟩
 simp only[ptB,au2,fh8]at h
 obtain⟨s',e,_⟩:=dI4 l (by omega) (fun i x t=>(bT6 i x t).run) (fun _ _=>True) n trivial (fun j hj s _=>⟨_,rfl,trivial⟩)
 exact⟨s',0,bP3 e rfl⟩
theorem fh4 (a:Nat)(h:a<32768):dE0 .i64 (a:Int) 46080=((a^^^46080:Nat):Int):=by
 unfold dE0
 have e1:(BitVec.ofInt (eU4 .i64) (a:Int)).toNat=a:=by
  show(BitVec.ofInt 64 (a:Int)).toNat=a
  simp;omega
 have e2:(BitVec.ofInt (eU4 .i64) (46080:Int)).toNat=46080:=by rfl
 rw[BitVec.toNat_xor,e1,e2]
 have:a^^^46080<2^16:=Nat.xor_lt_two_pow (by omega) (by omega)
 exact k6 (by omega) (by omega)
theorem fe8 (a:Nat)(h:a<65536):V8 .i64 (a:Int) 1=((a%2:Nat):Int):=by
 unfold V8
 have e1:(BitVec.ofInt (eU4 .i64) (a:Int)).toNat=a:=by
  show(BitVec.ofInt 64 (a:Int)).toNat=a
  simp;omega
 have e2:(BitVec.ofInt (eU4 .i64) (1:Int)).toNat=1:=by rfl
 rw[BitVec.toNat_and,e1,e2,Nat.and_one_is_mod]
 exact k6 (by omega) (by omega)
theorem fg7 (a:Nat):F1 .i64 (a:Int) 1=((a/2:Nat):Int):=by
 unfold F1
 show(a:Int).fdiv 2=_
 rw[Int.fdiv_eq_ediv_of_nonneg _ (by omega)]
 omega
theorem eH9 (a:Nat)(h:a<32768):0<a^^^46080:=by
 have h1:(a^^^46080).testBit 15=true:=by
  rw[Nat.testBit_xor,Nat.testBit_lt_two_pow (by omega)]
  rfl
 rcases Nat.eq_zero_or_pos (a^^^46080)with h0|h0
 ·rw[h0]at h1;simp at h1
 ·exact h0
theorem eF0 (n:Int)(h:quB n=true):∃m,(cx6 n).m=some m/\quB m=true:=by
 simp only[cx6,C.of,M.run,bT7,h,ac0,aK4,fh3]
 simp only[quB,au2,fh8]at h
 obtain⟨a,rfl⟩:∃a:Nat,n=(a:Int):=⟨n.toNat,by omega⟩
 rw[fe8 a (by omega),fg7]
 cases h1:((((a%2:Nat):Int))==1)
 ·simp only[beq_eq_false_iff_ne]at h1
  exact⟨_,rfl,by simp only[quB,au2,fh8];omega⟩
 ·rw[fh4 _ (by omega)]
  have h2:a/2^^^46080<2^16:=Nat.xor_lt_two_pow (by omega) (by omega)
  have h3:=eH9 (a/2) (by omega)
  exact⟨_,rfl,by simp only[quB,au2,fh8];omega⟩
theorem eR8 (q:W3)(b:Bool)(h:qzB q=true):∃r,(cT0 q b).m=some r/\qzB r=true/\r.an5=0/\r.Open=false/\r.Question=q.Question/\r.U7=(if b then K2 (q.U7-1) 0 else J1 (q.U7+2) 7)/\r.Off=(r.U7==7):=by
 simp only[qzB,au2,fh8,cx1,beq_iff_eq,bZ6]at h
 have w1:o6 (q.U7-1)=q.U7-1:=k6 (by omega) (by omega)
 have w2:o6 (q.U7+2)=q.U7+2:=k6 (by omega) (by omega)
 simp only[cT0,C.of,M.run,w1,w2]
 have h1:=h.1.1.1.1.1.1
 cases b
 ·refine⟨_,rfl,?_,rfl,rfl,rfl,rfl,rfl⟩
  have:0<=J1 (q.U7+2) 7/\J1 (q.U7+2) 7<=7:=by unfold J1;split<;>omega
  simp[qzB,h1,this,ag2]
 ·refine⟨_,rfl,?_,rfl,rfl,rfl,rfl,rfl⟩
  have:0<=K2 (q.U7-1) 0/\K2 (q.U7-1) 0<=7:=by unfold K2;split<;>omega
  simp[qzB,h1,this,ag2]
theorem eR7 (q:W3)(now:Int):∃r n e,(cS8 q now).m=some (r,n,e)/\(e=0->qzB r=true/\r.an5=now/\r.Open=true/\r.U7=q.U7/\r.Off=q.Off)/\(qzB q=true->ag2 now=true->q.Open=false->q.Off=false->e=0):=by
 simp only[cS8,C.of,M.run,co4,cg6,ac0]
 cases h:qzB q
 ·exact⟨_,_,_,rfl,fun h=>(by cases h),fun h=>(by cases h)⟩
 cases h2:ag2 now
 ·exact⟨_,_,_,rfl,fun h=>(by cases h),fun _ h=>(by cases h)⟩
 simp only[aK4,fh3]
 cases h3:(q.Open||q.Off)
 ·simp only[Bool.or_eq_false_iff]at h3
  have h':=h
  simp only[qzB,au2,fh8,cx1,beq_iff_eq,bZ6]at h
  obtain⟨m,e,hm⟩:=eF0 q.Question h.1.1.1.1.1.1
  refine⟨_,_,_,bP3 e rfl,fun _=>⟨?_,rfl,rfl,rfl,rfl⟩,fun _ _ _ _=>rfl⟩
  have:=h.1.2
  rw[h3.2]at this
  have:q.U7≠7:=by simpa using this.symm
  simp[qzB,hm,h2,h,this]
 ·exact⟨_,_,_,rfl,fun h=>(by cases h),fun _ _ h1 h2=>(by simp[h1,h2]at h3)⟩
theorem er3 (q:W3)(now a:Int)(l:List Int):∃r e,(bK9 q now a l).m=some (r,e)/\(e=0->qzB r=true/\r.an5=0):=by
 obtain⟨x,y,hxy⟩:=de9 q.Question l
 simp only[bK9,C.of,M.run,co4,cg6,dy3,eF1,hxy,ac0]
 cases h:qzB q
 ·exact⟨_,_,rfl,fun h=>(by cases h)⟩
 cases ptB l
 ·exact⟨_,_,rfl,fun h=>(by cases h)⟩
 simp only[aK4,fh3,ac0]
 cases ag2 now
 ·exact⟨_,_,rfl,fun h=>(by cases h)⟩
 cases(decide (a>=0)&&decide (a<=65535))
 ·exact⟨_,_,rfl,fun h=>(by cases h)⟩
 simp only[aK4,fh3,ac0]
 cases q.Open
 ·exact⟨_,_,rfl,fun h=>(by cases h)⟩
 cases decide (now<q.an5)
 ·simp only[aK4,fh3]
  obtain⟨r,e,h1,h2,_⟩:=eR8 q (((x==a)&&decide (o6 (now-q.an5)>=10000))&&decide (o6 (now-q.an5)<=20000)) h
  exact⟨_,_,bP3 e rfl,fun _=>⟨h1,h2⟩⟩
 ·exact⟨_,_,rfl,fun h=>(by cases h)⟩
def sgB (s:V7):Bool:=(((decide (s.az1>=0))&&(decide (s.az1<=3)))&&(s.T7==(s.az1==0)))&&ag2 s.ao1
theorem dn2 (t:Int):(bL6 t).m=some (ag2 t):=rfl
theorem cU3 (s:V7):(bo3 s).m=some (sgB s):=by
 simp only[bo3,C.of,M.run,dn2,ac0]
 cases h:(((decide (s.az1>=0))&&(decide (s.az1<=3)))&&(s.T7==(s.az1==0)))<;>simp[sgB,h]
def csV (key:Bool)(g:U0)(q:W3):Int:=if !key then 1 else if g.Off then 2 else if q.Off then 3 else 0
theorem et0 (key:Bool)(g:U0)(q:W3):(bU9 key g q).m=some (csV key g q):=by
 simp only[bU9,C.of,M.run]
 cases key<;>cases hg:g.Off<;>cases hq:q.Off<;>simp[csV,hg,hq]
theorem eG3 (s:V7)(key:Bool)(g:U0)(q:W3)(now:Int):∃r e,(ch3 s key g q now).m=some (r,e)/\(e=0->sgB r=true/\(r.ao1=now\/r.ao1=s.ao1)/\r.T7=(csV key g q==0))/\
  (sgB s=true->grB g=true->qzB q=true->ag2 now=true->s.ao1<=now->e=0):=by
 simp only[ch3,C.of,M.run,cU3,cQ0,co4,dn2,et0,ac0]
 cases h1:sgB s
 ·exact⟨_,_,rfl,fun h=>(by cases h),fun h=>(by cases h)⟩
 cases h2:grB g
 ·exact⟨_,_,rfl,fun h=>(by cases h),fun _ h=>(by cases h)⟩
 cases h3:qzB q
 ·exact⟨_,_,rfl,fun h=>(by cases h),fun _ _ h=>(by cases h)⟩
 cases h4:ag2 now
 ·exact⟨_,_,rfl,fun h=>(by cases h),fun _ _ _ h=>(by cases h)⟩
 simp only[aK4,fh3,ac0]
 by_cases h5:now<s.ao1
 ·rw[fh6 h5]
  exact⟨_,_,rfl,fun h=>(by cases h),fun _ _ _ _ h=>absurd h5 (by omega)⟩
 ·rw[fh7 h5]
  simp only[fh3]
  have hc:0<=csV key g q/\csV key g q<=3:=by unfold csV;split<;>(try split)<;>(try split)<;>omega
  simp only[sgB,au2]at h1
  cases(!((csV key g q==0)==s.T7))
  ·exact⟨_,_,rfl,fun _=>⟨by simp[sgB,hc,h1.2],.inr rfl,rfl⟩,fun _ _ _ _ _=>rfl⟩
  ·exact⟨_,_,rfl,fun _=>⟨by simp[sgB,hc,h4],.inl rfl,rfl⟩,fun _ _ _ _ _=>rfl⟩
abbrev w0:ay3:=⟨60,2⟩
abbrev c0:ci6:=⟨[5000,12000,30000]⟩
theorem cy8:(bs7).m=some w0:=rfl
theorem cm2:(bE3).m=some c0:=rfl
theorem bY3:(aM0 w0).m=some true:=(aM0 w0).le 1 _ (by kernel_rfl)
theorem bG6:(aT1 w0).m=some 58:=(aT1 w0).le 1 _ (by kernel_rfl)
theorem cy9:(bd2 w0).m=some 384:=(bd2 w0).le 1 _ (by kernel_rfl)
theorem da3:(aT2 c0).m=some true:=(aT2 c0).le 100 _ (by kernel_rfl)
theorem dE4:(bM1 c0).m=some (2,1):=(bM1 c0).le 100 _ (by kernel_rfl)
theorem er1 {a b:Int}(ha:0<=a)(hb:0<b)(hm:a<=9223372036854775807):bo2 .i64 a b=some (a/b):=by
 unfold bo2
 rw[if_neg (by omega),Int.tdiv_eq_ediv_of_nonneg ha]
 have h1:a/b<=a:=Int.ediv_le_self b ha
 have h0:0<=a/b:=Int.ediv_nonneg ha (by omega)
 exact congrArg some (k6 (by omega) (by omega))
theorem bf {a b:Int}(h:¬a=b):(a==b)=false:=by simpa using h
theorem bnt {a b:Int}(h:¬a=b):(a !=b)=true:=by simpa using h
def syB (s:Q5):Bool:=
 if s.Mode=0 then(s.Z5==0)&&((s.E0==0)&&((s.A0==0)&&((s.I6==0)&&(s.U2==0))))
 else if s.Mode=1 then((s.Z5==0)&&ag2 s.E0)&&(if s.U2=0 then(s.A0==0)&&(s.I6==0)else(((s.U2==1)||(s.U2==2))&&decide (s.A0>=1))&&decide (s.A0<=s.E0)&&(s.I6==s.A0))
 else if s.Mode=2 then decide (s.Z5>=0)&&decide (s.Z5<58)&&ag2 s.E0&&decide (s.A0>=1)&&decide (s.A0<=s.E0)&&decide (s.I6>=1)&&decide (s.I6<=s.A0)&&(s.U2==0)
 else false
theorem ch6 (t:Int):(bg9 t).m=some (ag2 t):=rfl
theorem cV3 (s:Q5):(bx0 w0 s).m=some (syB s):=by
 simp only[bx0,C.of,M.run,bY3,bG6,ch6,ac0,aK4,fh3]
 by_cases h0:s.Mode=0
 ·simp[syB,h0]
 by_cases h1:s.Mode=1
 ·simp only[syB,h1]
  by_cases ht:s.Z5=0
  ·cases hl:ag2 s.E0
   ·simp[ht]
   ·by_cases he:s.U2=0
    ·simp[ht,he]
    ·simp[ht,he,bf he]
  ·simp[bf ht,bnt ht]
 by_cases h2:s.Mode=2
 ·simp only[syB,h2]
  cases decide (s.Z5>=0)<;>cases decide (s.Z5<58)<;>cases ag2 s.E0<;>cases decide (s.A0>=1)<;>cases decide (s.A0<=s.E0)<;>cases decide (s.I6>=1)<;>simp
 ·simp[syB,h0,h1,h2,bf h0,bf h1,bf h2]
theorem eG9 (p q:Int):(cy5 p q).m=some (decide ((o6 (4*(K2 (o6 (p-q)) (o6 (q-p)))))<=q)):=rfl
theorem eT0 (n p:Int):(dA5 w0 n p).m=some (decide (p>(o6 (2*n)))):=rfl
theorem dR6 (s:Q5):(bX8 w0 s).m=some (s.Z5==57):=by
 simp only[bX8,C.of,M.run,bG6,ac0];rfl
theorem cD0 (s:Q5):(bm1 w0 s).m=some (if s.Z5=57 then o6 (3*s.I6)else s.I6):=by
 simp only[bm1,C.of,M.run,dR6,ac0]
 by_cases h:s.Z5=57
 ·simp only[h,beq_self_eq_true,fh5,if_true];rfl
 ·simp[h,bf h]
abbrev sy0:Q5:=⟨0,0,0,0,0,0⟩
theorem eS9:syB sy0=true:=rfl
theorem ec3 (s:Q5)(t:Int)(hs:syB s=true)(ht:ag2 t=true)(hl:s.Mode≠0->s.E0<t):∃r,(cy6 w0 s t).m=some r/\syB r=true/\(r.E0=t\/r=sy0):=by
 have ht':=aZ0.1 ht
 simp only[cy6,C.of,M.run,eG9,eT0,dR6,cD0,ac0,L1.m]
 by_cases h1:s.Mode=1
 ·have hlt:=hl (by omega)
  simp only[syB,h1]at hs
  simp[ag2]at hs
  have wp:o6 (t-s.E0)=t-s.E0:=k6 (by omega) (by omega)
  simp only[h1,beq_self_eq_true,fh5,wp]
  by_cases h2:s.U2=2
  ·simp[h2]at hs
   have wn:o6 (2*s.I6)=2*s.I6:=k6 (by omega) (by omega)
   simp only[h2,beq_self_eq_true,fh5,ac0,wn]
   by_cases hg:t-s.E0>2*s.I6
   ·rw[fh6 hg]
    simp only[fh5]
    refine⟨_,bP3 (er1 (by omega) (by decide) (by omega)) rfl,?_,.inl rfl⟩
    have:o6 (2+1)=3:=rfl
    simp only[syB,this]
    simp[ag2,ht']
    omega
   ·rw[fh7 hg]
    simp only[fh3]
    cases decide (o6 (4*K2 (o6 (t-s.E0-s.I6)) (o6 (s.I6-(t-s.E0))))<=s.I6)
    ·refine⟨_,rfl,?_,.inl rfl⟩
     simp[syB,ag2,ht'];omega
    ·refine⟨_,rfl,?_,.inl rfl⟩
     simp[syB,ag2,ht'];omega
  ·simp only[show(s.U2==2)=false by simpa using h2,fh3,ac0]
   cases(s.U2 !=0)
   ·refine⟨_,rfl,?_,.inl rfl⟩
    simp[syB,ag2,ht'];omega
   ·simp only[fh5,ac0]
    cases decide (o6 (4*K2 (o6 (t-s.E0-s.I6)) (o6 (s.I6-(t-s.E0))))<=s.I6)
    ·refine⟨_,rfl,?_,.inl rfl⟩
     simp[syB,ag2,ht'];omega
    ·refine⟨_,rfl,?_,.inl rfl⟩
     simp[syB,ag2,ht'];omega
 ·simp only[show(s.Mode==1)=false by simpa using h1,fh3]
  by_cases h2:s.Mode=2
  ·have hlt:=hl (by omega)
   simp only[syB,h2]at hs
   simp[ag2]at hs
   have wp:o6 (t-s.E0)=t-s.E0:=k6 (by omega) (by omega)
   simp only[h2,beq_self_eq_true,fh5,wp]
   by_cases h3:s.Z5=57
   ·have w3:o6 (3*s.I6)=3*s.I6:=k6 (by omega) (by omega)
    simp only[h3,if_true,w3,beq_self_eq_true,fh5]
    by_cases hf:o6 (4*K2 (o6 (t-s.E0-3*s.I6)) (o6 (3*s.I6-(t-s.E0))))<=3*s.I6
    ·rw[fh6 hf]
     simp only[aK4,fh3]
     refine⟨_,bP3 (er1 (by omega) (by decide) (by omega)) rfl,?_,.inl rfl⟩
     have:o6 (2+1)=3:=rfl
     have e1:o6 (t-s.E0-3*s.I6)=t-s.E0-3*s.I6:=k6 (by omega) (by omega)
     have e2:o6 (3*s.I6-(t-s.E0))=3*s.I6-(t-s.E0):=k6 (by omega) (by omega)
     rw[e1,e2]at hf
     have hm:3*s.I6-(t-s.E0)<=K2 (t-s.E0-3*s.I6) (3*s.I6-(t-s.E0)):=by unfold K2;split<;>omega
     have hm2:K2 (t-s.E0-3*s.I6) (3*s.I6-(t-s.E0))<=3298534883328:=by unfold K2;split<;>omega
     have hm3:0<=K2 (t-s.E0-3*s.I6) (3*s.I6-(t-s.E0)):=by unfold K2;split<;>omega
     rw[k6 (by omega) (by omega)]at hf
     simp only[syB,this]
     simp[ag2,ht']
     omega
    ·rw[fh7 hf]
     exact⟨_,rfl,rfl,.inr rfl⟩
   ·simp only[if_neg h3,show(s.Z5==57)=false by simpa using h3]
    cases decide (o6 (4*K2 (o6 (t-s.E0-s.I6)) (o6 (s.I6-(t-s.E0))))<=s.I6)
    ·exact⟨_,rfl,rfl,.inr rfl⟩
    ·refine⟨_,rfl,?_,.inl rfl⟩
     have:o6 (s.Z5+1)=s.Z5+1:=k6 (by omega) (by omega)
     simp[syB,ag2,ht',this];omega
  ·simp only[show(s.Mode==2)=false by simpa using h2,fh3]
   refine⟨_,rfl,?_,.inl rfl⟩
   simp[syB,ag2,ht']
theorem eH0 (s:Q5)(t:Int):∃r e,(cy4 w0 s t).m=some (r,e)/\(e=0->syB r=true/\(r.E0=t\/r=sy0)):=by
 simp only[cy4,C.of,M.run,cV3,ch6,ac0]
 cases h1:syB s
 ·exact⟨_,_,rfl,fun h=>(by cases h)⟩
 cases h2:ag2 t
 ·exact⟨_,_,rfl,fun h=>(by cases h)⟩
 simp only[aK4,fh3]
 cases h3:((s.Mode !=0)&&decide (t<=s.E0))
 ·obtain⟨r,hr,h4,h5⟩:=ec3 s t h1 h2 (fun hm=>by
   rcases Int.lt_or_le s.E0 t with h|h
   ·exact h
   ·simp[hm,h]at h3)
  exact⟨_,_,bP3 hr rfl,fun _=>⟨h4,h5⟩⟩
 ·exact⟨_,_,rfl,fun h=>(by cases h)⟩
theorem ev1 (s:Q5)(t:Int):∃r e,(ch7 w0 s t).m=some (r,e)/\(e=0->syB r=true/\(r=s\/r=sy0)):=by
 simp only[ch7,C.of,M.run,cV3,ch6,cD0,ac0]
 cases h1:syB s
 ·exact⟨_,_,rfl,fun h=>(by cases h)⟩
 cases h2:ag2 t
 ·exact⟨_,_,rfl,fun h=>(by cases h)⟩
 simp only[aK4,fh3]
 cases h3:((s.Mode !=0)&&decide (t<s.E0))
 ·obtain⟨m,hm⟩:∃m,(bif s.Mode==2 then some (o6 (4*if s.Z5=57 then o6 (3*s.I6)else s.I6))else bif decide (s.U2>0)then some (o6 (4*s.I6))else some 1000000)=some m:=by
   cases s.Mode==2<;>cases decide (s.U2>0)<;>exact⟨_,rfl⟩
  simp only[fh3,hm,ac0]
  cases((s.Mode !=0)&&decide (o6 (t-s.E0)>m))
  ·exact⟨_,_,rfl,fun _=>⟨h1,.inl rfl⟩⟩
  ·exact⟨_,_,rfl,fun _=>⟨rfl,.inr rfl⟩⟩
 ·exact⟨_,_,rfl,fun h=>(by cases h)⟩
def phB (p:Q0):Bool:=!((((decide (p.F2<0))||(decide (p.F2>16)))||(decide (p.aO3<0)))||(decide (p.aO3>1)))&&(!((!p.Seen)&&((p.F2 !=0)||p.ap8))&&(p.ap8||(p.aO3==0)))
theorem ea0 (p:Q0):(bT4 p).m=some (phB p):=by
 simp only[bT4,C.of,M.run]
 cases h:((((decide (p.F2<0))||(decide (p.F2>16)))||(decide (p.aO3<0)))||(decide (p.aO3>1)))<;>cases h2:((!p.Seen)&&((p.F2 !=0)||p.ap8))<;>simp[phB,h,h2]
theorem cS4 (p:Q0):(bo0 c0 p).m=some (phB p):=by
 simp only[bo0,C.of,M.run,da3,ea0,ac0,fh5]
theorem eR4 (p:Q0):∃r e,(cx2 c0 p).m=some (r,e)/\(e=0->phB r=true):=by
 simp only[cx2,C.of,M.run,cS4,ac0]
 cases h:phB p
 ·exact⟨_,_,rfl,fun h=>(by cases h)⟩
 cases hs:p.Seen
 ·exact⟨_,_,rfl,fun _=>h⟩
 ·refine⟨_,_,rfl,fun _=>?_⟩
  simp[phB,hs]at h|-
  rw[k6 (by omega) (by omega)]
  have:0<=J1 16 (p.F2+1)/\J1 16 (p.F2+1)<=16:=by unfold J1;split<;>omega
  exact⟨⟨⟨by omega,by omega⟩,by omega⟩,h.2⟩
theorem eE4 (p:Q0):∃r e,(bK4 c0 p).m=some (r,e)/\(e=0->phB r=true):=by
 simp only[bK4,C.of,M.run,cS4,dE4,ac0]
 cases h:phB p
 ·exact⟨_,_,rfl,fun h=>(by cases h)⟩
 cases hs:p.Seen
 ·exact⟨_,_,rfl,fun _=>rfl⟩
 ·simp only[aK4,fh3]
  have key:∀half:Int,-1<=half->half<=1->∃r e,(bif (decide (half>=0))&&((!p.ap8)||(p.aO3==half))then some ((⟨true,o6 (1-half),0,true⟩:Q0),(0:Int))else some ((⟨false,0,0,true⟩:Q0),0))=some (r,e)/\(e=0->phB r=true):=by
   intro half h1 h2
   cases hc:((decide (half>=0))&&((!p.ap8)||(p.aO3==half)))
   ·exact⟨_,_,rfl,fun _=>rfl⟩
   ·simp only[au2,fh8]at hc
    refine⟨_,_,rfl,fun _=>?_⟩
    have:o6 (1-half)=1-half:=k6 (by omega) (by omega)
    simp[phB,this];omega
  cases p.F2==2
  ·cases p.F2==1
   ·exact key (-1) (by omega) (by omega)
   ·exact key 1 (by omega) (by omega)
  ·exact key 0 (by omega) (by omega)
theorem eR3:phB ⟨false,0,0,false⟩=true:=rfl
end Go.Pv.Ec

/- A part of the proof of EcuStops: Models that know their code, and more. -/
import Derived.Test.YtmhdghdbojdgfaaGreatEcuStopsC
import Derived.Test.YtmhdghdbojdgfaaGreatProg
import Derived.KernelRfl
set_option linter.unusedSimpArgs false
set_option linter.unusedVariables false
set_option maxRecDepth 100000
noncomputable section
open Bool renaming and_eq_true->aI0,not_eq_true'->bY2,not_true->aX0,or_eq_true->cH8
open Int renaming tdiv->cZ1,tdiv_eq_ediv_of_nonneg->cz5,tmod->ed7
open Go.IntKind renaming bits->eU4,u64->aX8
open List renaming mem_append->dn9,mem_cons->bZ8,not_mem_nil->eT4
open Go.Lit renaming int->dO8
open Nat renaming le_refl->cv6
open Option renaming bind->ai8,bind_some->as5
open Go.Pv renaming encI->aJ9,encS->dn6
namespace Go.Proofs.YtmhdghdbojdgfaaGreat
open Go Go.Pv Go.Proofs
open Tryz
set_option maxHeartbeats 4000000
def ai0 (a:Int):C prog Bool:=.of Z call88 func88 [.t (tI a)] (fun r=>.t (tB r)) (
 .R ((decide (a>=0))&&(decide (a<46080))))
def ao0 (s:List Int)(v i:Int)(_:Unit):M prog Int (Fl Unit Int):=
 .O (.ix aJ9 s i) fun x=>.I (v==x) (.R (.ret i)) (.R (.next ()))
def W2 (s:List Int)(v:Int):C prog Int:=.of Z call187 func187 [.t (tS aJ9 s),.t (tI v)] (fun r=>.t (tI r)) (
 M.QN (s.length:Int) 2 8 (fun(_:Unit)=>[]) 0 (.one .rt) (ao0 s v) () (fun _=>.R (-1)) (fun r2=>.R r2))
def P5 (s:List Int)(v:Int):C prog Bool:=.of Z call89 func89 [.t (tS aJ9 s),.t (tI v)] (fun r=>.t (tB r)) (
 .K (W2 s v) fun v2=>.R (decide (v2>=0)))
def as7 (e2:o5)(i:Int):M prog Bool (Int⊕(Int⊕Bool)):=
 .I (decide (i<=(e2.A3.length:Int))) (.K (P5 e2.A3 i) fun v2=>.I (!v2) (.R (.inr (.inr false))) (.R (.inl (j7 (i+1))))) (.R (.inr (.inl i)))
def O7 (e2:o5):C prog Bool:=.of Z call44 func44 [au3 e2] (fun r=>.t (tB r)) (
 .G ((decide ((e2.A3.length:Int)<1))||(decide ((e2.A3.length:Int)>8))) (.R true) (.K (ai0 e2.as4) fun v=>.R (!v)) fun b2=>.I b2 (.R false) (.L (fun(t:Int)=>[.t 4 (.t (tI t)),.x 5]) 0 (.one .rt) (as7 e2) 1 (fun _=>.R true) (fun r2=>.R r2)))
def P7 (x:List B8)(count:Int):C prog (List B8):=⟨90,[.t (tS I6 x),.t (tI count)],Pv.P7 x count,fun _=>eF1 x count,(fun r=>.t (tS I6 r)),bx3 x count,fun _ r h=>bx4 h⟩
def aU6 (n2:Int):C prog (List B8×Int):=.of Z call45 func45 [.t (tI n2)] (fun r=>.Q1 [.t (tS I6 r.1),.t (tI r.2)]) (
 .I ((decide (n2<1))||(decide (n2>8))) (.R (([]:List B8),2)) (.Z (.fr 11)<| .K (P7 ([(⟨0,100,0⟩:B8)]:List B8) n2) fun v=>.R (v,0)))
def bj1:C prog U7:=.of Z call46 func46 [] (fun r=>cg7 r) (
 .R (⟨0,0,false⟩:U7))
def aL2:C prog M8:=.of Z call47 func47 [] (fun r=>bs2 r) (
 .Mk an4 9 (⟨0,0⟩:ab3) fun l=>.R (⟨false,false,1000,0,l⟩:M8))
def az8 (e2:o5):C prog (A5×Int):=.of Z call23 func23 [au3 e2] (fun r=>.Q1 [aQ2 r.1,.t (tI r.2)]) (
 .K (O7 e2) fun v=>.I (!v) (.R ((⟨(⟨0,0,false⟩:U7),(⟨0⟩:F7),([]:List B8),(⟨false,false,0,0,([]:List ab3)⟩:M8),0,(⟨0,0⟩:aa2)⟩:A5),1)) (.K (aU6 (e2.A3.length:Int)) fun r2=>.I (r2.2 !=0) (.R ((⟨(⟨0,0,false⟩:U7),(⟨0⟩:F7),([]:List B8),(⟨false,false,0,0,([]:List ab3)⟩:M8),0,(⟨0,0⟩:aa2)⟩:A5),1)) (.K (bj1) fun v2=>.K (aL2) fun v3=>.R ((⟨v2,(⟨0⟩:F7),r2.1,v3,0,(⟨0,(-1)⟩:aa2)⟩:A5),0))))
def aV2 (n2:Int):C prog (u9×Int):=.of Z call48 func48 [.t (tI n2)] (fun r=>.Q1 [aN1 r.1,.t (tI r.2)]) (
 .I ((decide (n2<1))||(decide (n2>16))) (.R ((⟨0,([]:List j9)⟩:u9),2)) (.Mk E7 n2 (⟨false,0,false,false⟩:j9) fun l=>.R ((⟨0,l⟩:u9),0)))
def O1 (s:List Int):C prog (List Int):=.of Z call49 func49 [.t (tS aJ9 s)] (fun r=>.t (tS aJ9 r)) (
 .Nl aJ9 s (.I true (.R ([]:List Int)) .N) (fun s=>.I false .N (.U (.ap aJ9 ([]:List Int) s 5) fun l=>.R l)))
def bb7:C prog E3:=.of Z call50 func50 [] (fun r=>bB7 r) (
 .R (⟨false,0,0,0,0,0⟩:E3))
def ap1 (e2:o5):C prog (j1×Int):=.of Z call24 func24 [au3 e2] (fun r=>.Q1 [S0 r.1,.t (tI r.2)]) (
 .K (O7 e2) fun v=>.I (!v) (.R ((⟨(⟨([]:List Int),0⟩:o5),(⟨false,0,0,0,0,0⟩:E3),(⟨0,([]:List j9)⟩:u9),([]:List A2),([]:List A6),false⟩:j1),1)) (.K (aV2 (j7 (2*(e2.A3.length:Int)))) fun r2=>.I (r2.2 !=0) (.R ((⟨(⟨([]:List Int),0⟩:o5),(⟨false,0,0,0,0,0⟩:E3),(⟨0,([]:List j9)⟩:u9),([]:List A2),([]:List A6),false⟩:j1),1)) (.D [] []<| .K (O1 e2.A3) fun v2=>.K (bb7) fun v3=>.R ((⟨(⟨v2,e2.as4⟩:o5),v3,r2.1,([]:List A2),([]:List A6),false⟩:j1),0))))
def F8 (x low high:Int):C prog Bool:=.of Z call91 func91 [.t (tI x),.t (tI low),.t (tI high)] (fun r=>.t (tB r)) (
 .R ((decide (x>=low))&&(decide (x<=high))))
def aj6 (b2:L2):C prog Bool:=.of Z call51 func51 [aL4 b2] (fun r=>.t (tB r)) (
 .K (F8 b2.ai9 100 1048576) fun v=>.G v (.K (F8 b2.ap4 0 65536) fun v2=>.R v2) (.R false) fun b3=>.G b3 (.K (F8 b2.J2 0 65536) fun v3=>.R v3) (.R false) fun b4=>.G b4 (.K (F8 b2.aO8 1 65536) fun v4=>.R v4) (.R false) fun b5=>.G b5 (.K (F8 b2.P1 0 1023) fun v5=>.R v5) (.R false) fun b6=>.G b6 (.K (F8 b2.K9 1 1024) fun v6=>.R v6) (.R false) fun b7=>.G b7 (.K (F8 b2.aX5 0 20) fun v7=>.R v7) (.R false) fun b8=>.R b8)
def cw0 (b2:L2):C prog (Z0×Int):=.of Z call25 func25 [aL4 b2] (fun r=>.Q1 [aX4 r.1,.t (tI r.2)]) (
 .K (aj6 b2) fun v=>.I (!v) (.R ((⟨0,0,0,0,0,([]:List Int)⟩:Z0),1)) (.R ((⟨0,0,0,1013,0,([]:List Int)⟩:Z0),0)))
def W5 (s:List w9)(f2:Cl prog w9 Bool (fun x=>[aO2 x]) (fun r=>.t (tB r)))(i:Int)(_:Unit):M prog Int (Fl Unit Int):=
 .O (.ix M3 s i) fun x=>.K (f2.at x) fun v=>.I v (.R (.ret i)) (.R (.next ()))
def S9 (s:List w9)(f2:Cl prog w9 Bool (fun x=>[aO2 x]) (fun r=>.t (tB r))):C prog Int:=.of Z call92 func92 [.t (tS M3 s),.fz f2.n f2.cs] (fun r=>.t (tI r)) (
 M.QN (s.length:Int) 2 8 (fun(_:Unit)=>[]) 0 (.one .rt) (W5 s f2) () (fun _=>.R (-1)) (fun r2=>.R r2))
def I3 (s:List w9)(f2:Cl prog w9 Bool (fun x=>[aO2 x]) (fun r=>.t (tB r))):C prog Bool:=.of Z call52 func52 [.t (tS M3 s),.fz f2.n f2.cs] (fun r=>.t (tB r)) (
 .K (S9 s f2) fun v=>.R (decide (v>=0)))
def D6 (x low high:Int):C prog Bool:=.of Z call109 func109 [.t (tI x),.t (tI low),.t (tI high)] (fun r=>.t (tB r)) (
 .R ((decide (x>=low))&&(decide (x<=high))))
def ae2 (c:w9):C prog Bool:=.of Z call93 func93 [aO2 c] (fun r=>.t (tB r)) (
 .K (D6 c.Code 1 16777215) fun v=>.G v (.K (D6 c.ba6 1 100) fun v2=>.R v2) (.R false) fun b2=>.G b2 (.K (D6 c.Pass 1 100) fun v3=>.R v3) (.R false) fun b3=>.G b3 (.K (D6 c.cC4 1 100) fun v4=>.R v4) (.R false) fun b4=>.G b4 (.K (D6 c.Age c.cC4 255) fun v5=>.R v5) (.R false) fun b5=>.G b5 (.K (D6 c.E6 0 255) fun v6=>.R v6) (.R false) fun b6=>.G b6 (.K (D6 c.Frame 0 8) fun v7=>.R v7) (.R false) fun b7=>.R b7)
def an6 (c:w9):C prog Bool:=.of Z call53 func53 [aO2 c] (fun r=>.t (tB r)) (
 .K (ae2 c) fun v=>.R (!v))
def aC9 (_:Int)(x:w9)(f2:List (Int×Bool)):M prog Bool (Fl (List (Int×Bool)) Bool):=
 .W (.hx 0)<| .Ml eJ5 f2 x.Code<| .I (cP8 false f2 x.Code) (.R (.ret false)) (.Mu eJ5 f2 x.Code true<| .R (.next (dl3 f2 x.Code true)))
def an5 (l:List w9):C prog Bool:=.of Z call54 func54 [.t (tS M3 l)] (fun r=>.t (tB r)) (
 .Mm 2048<|M.Q M3 l 2 9 (fun(t:List (Int×Bool))=>[.x 6,.b 2048 (.mp (List.map (ent (fun n:Int=>.int .i64 n) (fun v:Bool=>.bool v)) t))]) 0 (.one .rt) (aC9) ([]:List (Int×Bool)) (fun _=>.R true) (fun r2=>.R r2))
def Z8 (s:List w9):C prog (List w9):=.of Z call55 func55 [.t (tS M3 s)] (fun r=>.t (tS M3 r)) (
 .Nl M3 s (.I true (.R ([]:List w9)) .N) (fun s=>.I false .N (.U (.ap M3 ([]:List w9) s 5) fun l=>.R l)))
def aB2 (l:List w9):C prog (B7×Int):=.of Z call26 func26 [.t (tS M3 l)] (fun r=>.Q1 [aA7 r.1,.t (tI r.2)]) (
 .I (decide ((l.length:Int)>64)) (.R ((⟨([]:List w9),([]:List A1),0,false⟩:B7),5)) (.K (I3 l (.of (fun z_=>an6 z_) 53 [])) fun v=>.I v (.R ((⟨([]:List w9),([]:List A1),0,false⟩:B7),1)) (.K (an5 l) fun v2=>.I (!v2) (.R ((⟨([]:List w9),([]:List A1),0,false⟩:B7),8)) (.D [] []<| .K (Z8 l) fun v3=>.Mk G1 (l.length:Int) (⟨0,0,0,0,0,([]:List Int),0⟩:A1) fun l2=>.R ((⟨v3,l2,0,false⟩:B7),0)))))
def W4 (s:List Int)(f2:Cl prog Int Bool (fun x=>[.t (tI x)]) (fun r=>.t (tB r)))(i:Int)(_:Unit):M prog Int (Fl Unit Int):=
 .O (.ix aJ9 s i) fun x=>.K (f2.at x) fun v=>.I v (.R (.ret i)) (.R (.next ()))
def U5 (s:List Int)(f2:Cl prog Int Bool (fun x=>[.t (tI x)]) (fun r=>.t (tB r))):C prog Int:=.of Z call190 func190 [.t (tS aJ9 s),.fz f2.n f2.cs] (fun r=>.t (tI r)) (
 M.QN (s.length:Int) 2 8 (fun(_:Unit)=>[]) 0 (.one .rt) (W4 s f2) () (fun _=>.R (-1)) (fun r2=>.R r2))
def o6 (s:List Int)(f2:Cl prog Int Bool (fun x=>[.t (tI x)]) (fun r=>.t (tB r))):C prog Bool:=.of Z call96 func96 [.t (tS aJ9 s),.fz f2.n f2.cs] (fun r=>.t (tB r)) (
 .K (U5 s f2) fun v=>.R (decide (v>=0)))
def ac1 (n2:Int):C prog Bool:=.of Z call104 func104 [.t (tI n2)] (fun r=>.t (tB r)) (
 .R ((decide (n2>=(-1073741824)))&&(decide (n2<=1073741824))))
def ay7 (l:List Int)(i:Int)(_:Unit):M prog Bool (Fl Unit Bool):=
 .O (.ix aJ9 l i) fun x=>.K (ac1 x) fun v=>.G (!v) (.R true) (.G (decide (i>0)) (.O (.ix aJ9 l (j7 (i-1))) fun x2=>.R (decide (x<=x2))) (.R false) fun b2=>.R b2) fun b3=>.I b3 (.R (.ret false)) (.R (.next ()))
def ar8 (l:List Int):C prog Bool:=.of Z call102 func102 [.t (tS aJ9 l)] (fun r=>.t (tB r)) (
 .I ((decide ((l.length:Int)<2))||(decide ((l.length:Int)>32))) (.R false) (M.QN (l.length:Int) 2 15 (fun(_:Unit)=>[]) 0 (.one .rt) (ay7 l) () (fun _=>.R true) (fun r2=>.R r2)))
def ah8 (z:Int):C prog Bool:=.of Z call103 func103 [.t (tI z)] (fun r=>.t (tB r)) (
 .K (ac1 z) fun v=>.R (!v))
def aB7 (m2:SMap)(_:Int)(x:List Int)(_:Unit):M prog Bool (Fl Unit Bool):=
 .W (.hx 0)<| .G ((x.length:Int) !=(m2.Y.length:Int)) (.R true) (.K (o6 x (.of (fun z_=>ah8 z_) 103 [])) fun v3=>.R v3) fun b3=>.I b3 (.R (.ret false)) (.R (.next ()))
def J4 (m2:SMap):C prog Bool:=.of Z call58 func58 [dg8 m2] (fun r=>.t (tB r)) (
 .K (ar8 m2.X) fun v=>.G (!v) (.R true) (.K (ar8 m2.Y) fun v2=>.R (!v2)) fun b2=>.I (b2||((m2.Z.length:Int) !=(m2.X.length:Int))) (.R false) (M.Q (dn6 aJ9) m2.Z 2 27 (fun(_:Unit)=>[.x 5,.x 24]) 0 (.one .rt) (aB7 m2) () (fun _=>.R true) (fun r2=>.R r2)))
def aB1 (n2:Int):C prog Bool:=.of Z call106 func106 [.t (tI n2)] (fun r=>.t (tB r)) (
 .R ((decide (n2<(-1073741824)))||(decide (n2>1073741824))))
def aG8 (l:List Int)(i:Int)(_:Unit):M prog Bool (Fl Unit Bool):=
 .D [] []<| .O (.ix aJ9 l i) fun x=>.O (.ix aJ9 l (j7 (i+1))) fun x2=>.I (decide (x>=x2)) (.R (.ret false)) (.R (.next ()))
def aL7 (l:List Int):C prog Bool:=.of Z call105 func105 [.t (tS aJ9 l)] (fun r=>.t (tB r)) (
 .G ((decide ((l.length:Int)<2))||(decide ((l.length:Int)>32))) (.R true) (.K (o6 l (.of (fun z_=>aB1 z_) 106 [])) fun v=>.R v) fun b2=>.I b2 (.R false) (M.QN (j7 ((l.length:Int)-1)) 2 19 (fun(_:Unit)=>[]) 0 (.one .rt) (aG8 l) () (fun _=>.R true) (fun r2=>.R r2)))
def P4 (c:Q2):C prog Bool:=.of Z call59 func59 [cg6 c] (fun r=>.t (tB r)) (
 .G ((c.X.length:Int)==(c.Y.length:Int)) (.K (aL7 c.X) fun v=>.R v) (.R false) fun b2=>.G b2 (.K (o6 c.Y (.of (fun z_=>aB1 z_) 106 [])) fun v2=>.R (!v2)) (.R false) fun b3=>.R b3)
def cmp_isNaN_int (x:Int):C prog Bool:=.of Z call280 func280 [.t (tI x)] (fun r=>.t (tB r)) (
 .R (x !=x))
def cmp_Less_int (x y:Int):C prog Bool:=.of Z call189 func189 [.t (tI x),.t (tI y)] (fun r=>.t (tB r)) (
 .K (cmp_isNaN_int x) fun v=>.G v (.K (cmp_isNaN_int y) fun v2=>.R (!v2)) (.R false) fun b2=>.R (b2||(decide (x<y))))
def Q6 (x:List Int)(i:Int):M prog Bool (Int⊕(Int⊕Bool)):=
 .I (decide (i>0)) (.D [] []<| .O (.ix aJ9 x i) fun x2=>.O (.ix aJ9 x (j7 (i-1))) fun x3=>.K (cmp_Less_int x2 x3) fun v=>.I v (.R (.inr (.inr false))) (.R (.inl (j7 (i-1))))) (.R (.inr (.inl i)))
def P6 (x:List Int):C prog Bool:=.of Z call94 func94 [.t (tS aJ9 x)] (fun r=>.t (tB r)) (
 .L (fun(t:Int)=>[.t 3 (.t (tI t))]) 0 (.one .rt) (Q6 x) (j7 ((x.length:Int)-1)) (fun _=>.R true) (fun r2=>.R r2))
def I4 (n2 low high:Int):C prog Bool:=.of Z call95 func95 [.t (tI n2),.t (tI low),.t (tI high)] (fun r=>.t (tB r)) (
 .R ((decide (n2>=low))&&(decide (n2<=high))))
def aK4 (y:Int):C prog Bool:=.of Z call97 func97 [.t (tI y)] (fun r=>.t (tB r)) (
 .K (I4 y 100 3000) fun v=>.R (!v))
def aT2 (_:Int)(x:List Int)(_:Unit):M prog Bool (Fl Unit Bool):=
 .W (.hx 0)<| .K (P6 x) fun v3=>.G (!v3) (.R true) (.O (.ix aJ9 x 0) fun x2=>.K (I4 x2 0 1048576) fun v4=>.R (!v4)) fun b3=>.G b3 (.R true) (.O (.ix aJ9 x (j7 ((x.length:Int)-1))) fun x3=>.K (I4 x3 0 1048576) fun v5=>.R (!v5)) fun b4=>.I b4 (.R (.ret false)) (.R (.next ()))
def aA8 (t2:o7):C prog Bool:=.of Z call56 func56 [T0 t2] (fun r=>.t (tB r)) (
 .K (J4 t2.Air) fun v=>.G (!v) (.R true) (.K (P4 t2.L4) fun v2=>.R (!v2)) fun b2=>.I b2 (.R false) (M.Q (dn6 aJ9) t2.Air.Z 2 19 (fun(_:Unit)=>[.x 5,.x 15,.x 16]) 0 (.one .rt) (aT2) () (fun _=>.K (o6 t2.L4.Y (.of (fun z_=>aK4 z_) 97 [])) fun v6=>.R (!v6)) (fun r2=>.R r2)))
def aa0 (s:List (List Int))(f2:Cl prog (List Int) Bool (fun x=>[.t (tS aJ9 x)]) (fun r=>.t (tB r)))(i:Int)(_:Unit):M prog Int (Fl Unit Int):=
 .O (.ix (dn6 aJ9) s i) fun x=>.K (f2.at x) fun v=>.I v (.R (.ret i)) (.R (.next ()))
def W0 (s:List (List Int))(f2:Cl prog (List Int) Bool (fun x=>[.t (tS aJ9 x)]) (fun r=>.t (tB r))):C prog Int:=.of Z call43 func43 [.t (tS (dn6 aJ9) s),.fz f2.n f2.cs] (fun r=>.t (tI r)) (
 M.QN (s.length:Int) 2 8 (fun(_:Unit)=>[]) 0 (.one .rt) (aa0 s f2) () (fun _=>.R (-1)) (fun r2=>.R r2))
def G0 (s:List (List Int))(f2:Cl prog (List Int) Bool (fun x=>[.t (tS aJ9 x)]) (fun r=>.t (tB r))):C prog Bool:=.of Z call21 func21 [.t (tS (dn6 aJ9) s),.fz f2.n f2.cs] (fun r=>.t (tB r)) (
 .K (W0 s f2) fun v=>.R (decide (v>=0)))
def H5 (x low high:Int):C prog Bool:=.of Z call192 func192 [.t (tI x),.t (tI low),.t (tI high)] (fun r=>.t (tB r)) (
 .R ((decide (x>=low))&&(decide (x<=high))))
def ao2 (x c c2:Int):C prog Bool:=.of Z call191 func191 [.t (tI x),.el (aJ9 c),.el (aJ9 c2)] (fun r=>.t (tB r)) (
 .K (H5 x c c2) fun v=>.R (!v))
def ah3 (l:List Int)(low high:Int):C prog Bool:=.of Z call98 func98 [.t (tS aJ9 l),.t (tI low),.t (tI high)] (fun r=>.t (tB r)) (
 .Z (.fb 4)<| .Z (.fb 5)<| .K (o6 l (.of (fun z_=>ao2 z_ low high) 191 [aJ9 low,aJ9 high])) fun v=>.R v)
def L5 (x:List Int)(cmp:Cl prog (Int×Int) Int (fun x=>[.t (tI x.1),.t (tI x.2)]) (fun r=>.t (tI r)))(i:Int):M prog Bool (Int⊕(Int⊕Bool)):=
 .I (decide (i>0)) (.D [] []<| .O (.ix aJ9 x i) fun x2=>.O (.ix aJ9 x (j7 (i-1))) fun x3=>.K (cmp.at (x2,x3)) fun v=>.I (decide (v<0)) (.R (.inr (.inr false))) (.R (.inl (j7 (i-1))))) (.R (.inr (.inl i)))
def H9 (x:List Int)(cmp:Cl prog (Int×Int) Int (fun x=>[.t (tI x.1),.t (tI x.2)]) (fun r=>.t (tI r))):C prog Bool:=.of Z call99 func99 [.t (tS aJ9 x),.fz cmp.n cmp.cs] (fun r=>.t (tB r)) (
 .L (fun(t:Int)=>[.t 5 (.t (tI t))]) 0 (.one .rt) (L5 x cmp) (j7 ((x.length:Int)-1)) (fun _=>.R true) (fun r2=>.R r2))
def ac2 (a b2:Int):C prog Int:=.of Z call100 func100 [.t (tI a),.t (tI b2)] (fun r=>.t (tI r)) (
 .R (j7 (b2-a)))
def al2 (row:List Int):C prog Bool:=.of Z call101 func101 [.t (tS aJ9 row)] (fun r=>.t (tB r)) (
 .K (ah3 row 0 10000) fun v=>.G v (.R true) (.K (P6 row) fun v2=>.R (!v2)) fun b2=>.R b2)
def ai4 (t2:o7):C prog Bool:=.of Z call57 func57 [T0 t2] (fun r=>.t (tB r)) (
 .K (J4 t2.o9) fun v=>.G (!v) (.R true) (.K (P4 t2.C3) fun v2=>.R (!v2)) fun b2=>.G b2 (.R true) (.K (ah3 t2.C3.Y 0 1000) fun v3=>.R v3) fun b3=>.I b3 (.R false) (.K (H9 t2.C3.Y (.of (fun z_=>ac2 z_.1 z_.2) 100 [])) fun v4=>.I (!v4) (.R false) (.K (G0 t2.o9.Z (.of (fun z_=>al2 z_) 101 [])) fun v5=>.R (!v5))))
def J5 (x low high:Int):C prog Bool:=.of Z call108 func108 [.t (tI x),.t (tI low),.t (tI high)] (fun r=>.t (tB r)) (
 .R ((decide (x>=low))&&(decide (x<=high))))
def az9 (x c c2:Int):C prog Bool:=.of Z call107 func107 [.t (tI x),.el (aJ9 c),.el (aJ9 c2)] (fun r=>.t (tB r)) (
 .K (J5 x c c2) fun v=>.R (!v))
def af9 (l:List Int)(low high:Int):C prog Bool:=.of Z call60 func60 [.t (tS aJ9 l),.t (tI low),.t (tI high)] (fun r=>.t (tB r)) (
 .Z (.fb 4)<| .Z (.fb 5)<| .K (o6 l (.of (fun z_=>az9 z_ low high) 107 [aJ9 low,aJ9 high])) fun v=>.R (!v))
def Q5 (g:aV4):C prog Bool:=.of Z call61 func61 [dg7 g] (fun r=>.t (tB r)) (
 .R (((((((decide (g.P>=0))&&(decide (g.P<=65536)))&&(decide (g.I>=0)))&&(decide (g.I<=65536)))&&(decide (g.Low>=(-1073741824))))&&(decide (g.Low<=g.bs4)))&&(decide (g.bs4<=1073741824))))
def aB0 (_:Int)(x:List Int)(_:Unit):M prog Bool (Fl Unit Bool):=
 .W (.hx 0)<| .K (af9 x (-1280) 3840) fun v7=>.I (!v7) (.R (.ret false)) (.R (.next ()))
def ac5 (t2:o7):C prog Bool:=.of Z call27 func27 [T0 t2] (fun r=>.t (tB r)) (
 .K (aA8 t2) fun v=>.G (!v) (.R true) (.K (ai4 t2) fun v2=>.R (!v2)) fun b2=>.G b2 (.R true) (.K (J4 t2.N9) fun v3=>.R (!v3)) fun b3=>.G b3 (.R true) (.K (J4 t2.aH9) fun v4=>.R (!v4)) fun b4=>.G b4 (.R true) (.K (P4 t2.af1) fun v5=>.R (!v5)) fun b5=>.G b5 (.R true) (.K (P4 t2.aw5) fun v6=>.R (!v6)) fun b6=>.I b6 (.R false) (M.Q (dn6 aJ9) t2.N9.Z 2 41 (fun(_:Unit)=>[.x 37,.x 38]) 0 (.one .rt) (aB0) () (fun _=>.K (af9 t2.af1.Y 500 10000) fun v8=>.G v8 (.K (af9 t2.aw5.Y 0 10000) fun v9=>.R v9) (.R false) fun b7=>.G b7 (.K (Q5 t2.af0) fun v10=>.R v10) (.R false) fun b8=>.R b8) (fun r2=>.R r2)))
def aR4 (x:Int):C prog Bool:=.of Z call282 func282 [.t (tI x)] (fun r=>.t (tB r)) (
 .K (D6 x (-1099511627776) 1099511627776) fun v=>.R v)
def aA1 (x:Int):C prog Bool:=.of Z call281 func281 [.t (tI x)] (fun r=>.t (tB r)) (
 .K (aR4 x) fun v=>.R (!v))
def as8 (c:w9)(l:List Int):C prog Bool:=.of Z call193 func193 [aO2 c,.t (tS aJ9 l)] (fun r=>.t (tB r)) (
 .G ((l.length:Int)==c.Frame) (.K (o6 l (.of (fun z_=>aA1 z_) 281 [])) fun v=>.R (!v)) (.R false) fun b2=>.R b2)
def X7 (f2:A1)(bits:Int):C prog Bool:=.of Z call194 func194 [cI1 f2,.t (tI bits)] (fun r=>.t (tB r)) (
 .R ((T2 .i64 f2.D8 bits)==bits))
def aK8 (f2:A1):C prog Bool:=.of Z call195 func195 [cI1 f2] (fun r=>.t (tB r)) (
 .R ((T2 .i64 f2.D8 6) !=0))
def aF2 (c:w9)(f2:A1)(E5:Int):C prog Bool:=.of Z call110 func110 [aO2 c,cI1 f2,.t (tI E5)] (fun r=>.t (tB r)) (
 .K (D6 f2.D8 0 31) fun v=>.G (!v) (.R true) (.K (D6 f2.D1 (j7 (0-c.Pass)) c.ba6) fun v2=>.R (!v2)) fun b2=>.G b2 (.R true) (.K (D6 f2.I7 0 2) fun v3=>.R (!v3)) fun b3=>.G b3 (.R true) (.K (D6 f2.Clean 0 (j7 (c.Age-1))) fun v4=>.R (!v4)) fun b4=>.G b4 (.R true) (.K (D6 f2.z8 0 255) fun v5=>.R (!v5)) fun b5=>.G b5 (.R true) (.K (D6 f2.G9 0 E5) fun v6=>.R (!v6)) fun b6=>.G b6 (.R true) (.G (decide ((f2.Frame.length:Int)>0)) (.K (as8 c f2.Frame) fun v7=>.R (!v7)) (.R false) fun b7=>.R b7) fun b8=>.I b8 (.R false) (.K (X7 f2 1) fun v8=>.G v8 (.K (X7 f2 10) fun v9=>.R ((!v9)||(f2.G9 !=E5))) (.R false) fun b9=>.I b9 (.R false) (.D [] []<| .K (X7 f2 4) fun v10=>.I (!(v10==(f2.I7==2))) (.R false) (.K (X7 f2 16) fun v11=>.G v11 (.K (X7 f2 4) fun v12=>.R ((!v12)||(!c.ch1))) (.R false) fun b10=>.I b10 (.R false) (.K (X7 f2 2) fun v13=>.I (v13&&(f2.Clean !=0)) (.R false) (.K (aK8 f2) fun v14=>.I v14 (.R ((((decide (f2.z8>=1))&&(decide (f2.I7>=1)))&&(decide (f2.G9>=1)))&&((f2.Frame.length:Int)==c.Frame))) (.R (((((f2.I7==0)&&(f2.Clean==0))&&(f2.z8==0))&&(f2.G9==0))&&((f2.Frame.length:Int)==0)))))))))
def aC8 (f2:B7)(i:Int)(_:Unit):M prog Bool (Fl Unit Bool):=
 .O (.ix G1 f2.L i) fun x=>.D [] []<| .O (.ix M3 f2.T5 i) fun x2=>.K (aF2 x2 x f2.aH5) fun v4=>.I (!v4) (.R (.ret false)) (.R (.next ()))
def Z6 (f2:B7):C prog Bool:=.of Z call62 func62 [aA7 f2] (fun r=>.t (tB r)) (
 .G (decide ((f2.T5.length:Int)>64)) (.R true) (.K (I3 f2.T5 (.of (fun z_=>an6 z_) 53 [])) fun v=>.R v) fun b2=>.G b2 (.R true) (.K (an5 f2.T5) fun v2=>.R (!v2)) fun b3=>.G (b3||((f2.L.length:Int) !=(f2.T5.length:Int))) (.R true) (.K (D6 f2.aH5 0 1073741824) fun v3=>.R (!v3)) fun b4=>.I (b4||(f2.ay0&&(decide (f2.aH5<1)))) (.R false) (M.QN (f2.L.length:Int) 2 47 (fun(_:Unit)=>[.x 5,.x 44]) 0 (.one .rt) (aC8 f2) () (fun _=>.R true) (fun r2=>.R r2)))
def ad5 (s:List A1):CG prog (List A1):=.of Z call111 func111 [.t (tS G1 s)] [] (fun _=>.own 900000) (fun r=>[(900000,.rs 174 7 r G1)]) [900000] (
 .Nl G1 s (.I true (.Z (.np 2 70000 174 7 [])<| .R ([]:List A1)) .N) (fun s=>.I false .N (.U (.ap G1 ([]:List A1) s 5) fun l=>.R l)))
def ay4 (i:Int)(f3:List A1):M prog B7 (Fl (List A1) Empty):=
 .D [] []<| .O (.ix G1 f3 i) fun x=>.W (.ly 0)<| .K (O1 x.Frame) fun v2=>.W (.hx 0)<| .U (.st G1 f3 i ({x with Frame:=v2}:A1) 0) fun l=>.R (.next l)
def al5 (f2:B7):CG prog B7:=.of Z call63 func63 [aA7 f2] [] (fun r=>.agg [.t (tS M3 r.T5),.own 900000,.t (tI r.aH5),.t (tB r.ay0)]) (fun r=>[(900000,.rs 174 7 r.L G1)]) [900000] (
 .KG (ad5 f2.L) [2048] fun v=>M.QN (v.length:Int) 2 11 (fun(t:List A1)=>[.x 4,.x 6,.x 7,.x 8,.x 9,.b 2048 (.rs 174 7 t G1)]) 0 (.e) (ay4) v (fun f4=>.R ({f2 with L:=f4}:B7)) (fun t=>t.elim))
def aC7 (i:Int)(f3:List A1):M prog (B7×Int) (Fl (List A1) Empty):=
 .O (.ix G1 f3 i) fun x=>.U (.st G1 f3 i ({x with D1:=0}:A1) 0) fun l=>.W (.ly 0)<| .U (.st G1 l i ({x with D8:=aO3 .i64 x.D8 9,D1:=0}:A1) 0) fun l2=>.R (.next l2)
def ax0 (f2:B7):C prog (B7×Int):=.of Z call28 func28 [aA7 f2] (fun r=>.Q1 [aA7 r.1,.t (tI r.2)]) (
 .K (Z6 f2) fun v=>.I (!v) (.R ((⟨([]:List w9),([]:List A1),0,false⟩:B7),1)) (.I f2.ay0 (.R ((⟨([]:List w9),([]:List A1),0,false⟩:B7),6)) (.I (f2.aH5==1073741824) (.R ((⟨([]:List w9),([]:List A1),0,false⟩:B7),9)) (.KG (al5 f2) [2168] fun v2=>M.QN (v2.L.length:Int) 2 30 (fun(t:List A1)=>[.x 12,.x 16,.x 21,.x 22,.x 25,.x 26,.x 27,.x 28,.b 2168 (.rs 174 7 t G1)]) 1 (.e) (aC7) v2.L (fun f4=>.R ((⟨v2.T5,f4,j7 (v2.aH5+1),true⟩:B7),0)) (fun t=>t.elim)))))
def aY6 (n2:Int):C prog Bool:=.of Z call64 func64 [.t (tI n2)] (fun r=>.t (tB r)) (
 .R ((decide (n2>=1))&&(decide (n2<=65535))))
def cR8 (seed:Int):C prog (ab4×Int):=.of Z call29 func29 [.t (tI seed)] (fun r=>.Q1 [aT0 r.1,.t (tI r.2)]) (
 .K (aY6 seed) fun v=>.I (!v) (.R ((⟨0,0,0,false,false⟩:ab4),2)) (.R ((⟨seed,0,0,false,false⟩:ab4),0)))
def dA2:C prog aa8:=.of Z call30 func30 [] (fun r=>aP2 r) (
 .R (⟨0,0,0,0,0,0⟩:aa8))
def cv8:C prog ad7:=.of Z call31 func31 [] (fun r=>aX3 r) (
 .R (⟨false,0,0,false⟩:ad7))
def bM2:C prog aa1:=.of Z call32 func32 [] (fun r=>bb6 r) (
 .R (⟨false,0,0⟩:aa1))
def df6:C prog ao6:=.of Z call33 func33 [] (fun r=>bl4 r) (
 .R (⟨false,1,0⟩:ao6))
def bV2 (t2:o7)(b2:L2)(e2:o5)(l:List w9):C prog (ac3×Int):=.of Z call8 func8 [T0 t2,aL4 b2,au3 e2,.t (tS M3 l)] (fun r=>.Q1 [bZ9 r.1,.t (tI r.2)]) (
 .K (az8 e2) fun r2=>.K (ap1 e2) fun r3=>.K (cw0 b2) fun r4=>.K (aB2 l) fun r5=>.K (ac5 t2) fun v=>.I ((((((!v)||(r2.2 !=0))||(r3.2 !=0))||(r4.2 !=0))||(r5.2 !=0))||(decide ((l.length:Int)<7))) (.R ((⟨(⟨(⟨([]:List Int),([]:List Int),([]:List (List Int))⟩:SMap),(⟨([]:List Int),([]:List Int),([]:List (List Int))⟩:SMap),(⟨([]:List Int),([]:List Int),([]:List (List Int))⟩:SMap),(⟨([]:List Int),([]:List Int),([]:List (List Int))⟩:SMap),(⟨([]:List Int),([]:List Int)⟩:Q2),(⟨([]:List Int),([]:List Int)⟩:Q2),(⟨([]:List Int),([]:List Int)⟩:Q2),(⟨([]:List Int),([]:List Int)⟩:Q2),(⟨0,0,0,0⟩:aV4)⟩:o7),(⟨(⟨0,0,false⟩:U7),(⟨0⟩:F7),([]:List B8),(⟨false,false,0,0,([]:List ab3)⟩:M8),0,(⟨0,0⟩:aa2)⟩:A5),(⟨(⟨([]:List Int),0⟩:o5),(⟨false,0,0,0,0,0⟩:E3),(⟨0,([]:List j9)⟩:u9),([]:List A2),([]:List A6),false⟩:j1),(⟨0,0,0,0,0,0⟩:aa8),(⟨false,0,0,false⟩:ad7),(⟨false,0,0⟩:aa1),(⟨0,0,false⟩:ah9),(⟨0,0,0,false,false⟩:ab4),(⟨false,0,0⟩:ao6),(⟨([]:List w9),([]:List A1),0,false⟩:B7),(⟨0,0,0,0,0,([]:List Int)⟩:Z0),(⟨0,0,0,0,0,0,0⟩:L2),0⟩:ac3),1)) (.K (ax0 r5.1) fun r6=>.K (cR8 1) fun r7=>.D [] []<| .K (dA2) fun v2=>.K (cv8) fun v3=>.K (bM2) fun v4=>.K (df6) fun v5=>.R ((⟨t2,r2.1,r3.1,v2,v3,v4,(⟨0,0,false⟩:ah9),r7.1,v5,r6.1,r4.1,b2,0⟩:ac3),0)))
def cM9 (s:List w9×Int):M prog (List w9) ((List w9×Int)⊕((List w9×Int)⊕Empty)):=
 .I (decide (s.2<7)) (.U (.ap M3 s.1 ([(⟨j7 (8448+s.2),3,5,3,40,j7 (1+s.2),true,2⟩:w9)]:List w9) 2104) fun l=>.R (.inl (l,j7 (s.2+1)))) (.R (.inr (.inl (s.1,s.2))))
def bm4:C prog (List w9):=.of Z call9 func9 [] (fun r=>.t (tS M3 r)) (
 .Z (.np 1 2104 135 8 [])<| .L (fun(t:List w9×Int)=>[.t 1 (.own 2104),.t 3 (.t (tI t.2)),.b 2104 (.rs 135 8 t.1 M3)]) 0 (.e) (cM9) (([]:List w9),0) (fun s2=>.R s2.1) (fun t=>t.elim))
def dF4:C prog o7:=.of Z call17 func17 [] (fun r=>T0 r) (
 .Z (.fr 7)<| .Z (.fr 8)<| .Z (.fr 9)<| .Z (.fr 10)<| .Z (.fr 18)<| .Z (.fr 19)<| .Z (.fr 20)<| .Z (.fr 21)<| .Z (.fr 35)<| .Z (.fr 36)<| .Z (.fr 37)<| .Z (.fr 38)<| .Z (.fr 43)<| .Z (.fr 44)<| .Z (.fr 45)<| .Z (.fr 46)<| .R (⟨(⟨([0,1000,3000,7000]:List Int),([50,300,700,1050]:List Int),([([5000,90000,250000,400000]:List Int),([8000,100000,280000,430000]:List Int),([10000,110000,300000,460000]:List Int),([8000,95000,270000,420000]:List Int)]:List (List Int))⟩:SMap),(⟨([0,1000,3000,7000]:List Int),([0,100000,300000,500000]:List Int),([([640,600,400,300]:List Int),([900,800,600,500]:List Int),([1900,1600,1300,1100]:List Int),([2400,2100,1800,1600]:List Int)]:List (List Int))⟩:SMap),(⟨([0,1000,3000,7000]:List Int),([0,100000,300000,500000]:List Int),([([0,400,1500,2600]:List Int),([0,500,1800,3000]:List Int),([0,450,1900,3200]:List Int),([0,300,1500,2700]:List Int)]:List (List Int))⟩:SMap),(⟨([0,1000,3000,7000]:List Int),([0,200,600,1000]:List Int),([([100,800,2000,3000]:List Int),([0,700,2000,3200]:List Int),([0,600,1900,3200]:List Int),([0,300,1500,2700]:List Int)]:List (List Int))⟩:SMap),(⟨([(-40),20,100]:List Int),([1200,1000,850]:List Int)⟩:Q2),(⟨([6000,14000]:List Int),([6000,3000]:List Int)⟩:Q2),(⟨([6000,14000]:List Int),([2500,800]:List Int)⟩:Q2),(⟨([0,640,1600,2560]:List Int),([1000,950,700,300]:List Int)⟩:Q2),(⟨1024,32,0,800⟩:aV4)⟩:o7))
def ek4:C prog L2:=.of Z call18 func18 [] (fun r=>aL4 r) (
 .R (⟨4000,400,600,9000,200,300,4⟩:L2))
def bY0:C prog o5:=.of Z call19 func19 [] (fun r=>au3 r) (
 .R (⟨([1]:List Int),0⟩:o5))
def bB1 (_ x:Int)(_:Unit):M prog Bool (Fl Unit Bool):=
 .W (.hx 0)<| .K (F8 x 500 2000) fun v7=>.I (!v7) (.R (.ret false)) (.R (.next ()))
def bv4 (b2:L2)(p2:Z0):C prog Bool:=.of Z call65 func65 [aL4 b2,aX4 p2] (fun r=>.t (tB r)) (
 .K (aj6 b2) fun v=>.G (!v) (.R true) (.K (F8 p2.K2 0 3019898879) fun v2=>.R (!v2)) fun b3=>.G b3 (.R true) (.K (F8 p2.D2 0 262144) fun v3=>.R (!v3)) fun b4=>.G b4 (.R true) (.K (F8 p2.Rest 0 (j7 (b2.ai9-1))) fun v4=>.R (!v4)) fun b5=>.G b5 (.R true) (.K (F8 p2.L0 50 1013) fun v5=>.R (!v5)) fun b6=>.G b6 (.R true) (.K (F8 p2.P1 0 2147483648) fun v6=>.R (!v6)) fun b7=>.I (b7||(decide ((p2.Path.length:Int)>(j7 (b2.aX5+1))))) (.R false) (M.Q aJ9 p2.Path 2 55 (fun(_:Unit)=>[.x 2,.x 3,.x 52,.d 2,.d 3]) 0 (.one .rt) (bB1) () (fun _=>.R true) (fun r2=>.R r2)))
def av4 (t2:Int):C prog Bool:=.of Z call196 func196 [.t (tI t2)] (fun r=>.t (tB r)) (
 .R ((decide (t2>=0))&&(decide (t2<=1099511627776))))
def aj2 (c:E3):C prog Bool:=.of Z call112 func112 [bB7 c] (fun r=>.t (tB r)) (
 .I (!c.X5) (.W .eq<| .R ((c.X5==false)&&((c.At==0)&&((c.H6==0)&&((c.F9==0)&&((c.aa9==0)&&((c.as3==0)&&true))))))) (.K (av4 c.At) fun v=>.I (((((((!v)||(decide (c.H6<0)))||(decide (c.H6>=46080)))||(decide (c.F9<1)))||(decide (c.F9>1073741824)))||(decide (c.aa9<192)))||(decide (c.aa9>1920))) (.R false) (.R (((c.as3==c.aa9)||(c.as3==(j7 (2*c.aa9))))||(c.as3==(j7 (3*c.aa9)))))))
def V7 (s:List j9)(f2:Cl prog j9 Bool (fun x=>[ba5 x]) (fun r=>.t (tB r)))(i:Int)(_:Unit):M prog Int (Fl Unit Int):=
 .O (.ix E7 s i) fun x=>.K (f2.at x) fun v=>.I v (.R (.ret i)) (.R (.next ()))
def R4 (s:List j9)(f2:Cl prog j9 Bool (fun x=>[ba5 x]) (fun r=>.t (tB r))):C prog Int:=.of Z call283 func283 [.t (tS E7 s),.fz f2.n f2.cs] (fun r=>.t (tI r)) (
 M.QN (s.length:Int) 2 8 (fun(_:Unit)=>[]) 0 (.one .rt) (V7 s f2) () (fun _=>.R (-1)) (fun r2=>.R r2))
def G5 (s:List j9)(f2:Cl prog j9 Bool (fun x=>[ba5 x]) (fun r=>.t (tB r))):C prog Bool:=.of Z call197 func197 [.t (tS E7 s),.fz f2.n f2.cs] (fun r=>.t (tB r)) (
 .K (R4 s f2) fun v=>.R (decide (v>=0)))
def ap2 (c:j9)(c2:u9):C prog Bool:=.of Z call198 func198 [ba5 c,.el (cN7 c2)] (fun r=>.t (tB r)) (
 .I c.E0 (.R ((decide (c.At<=c2.V0))||(decide (c.At>1099511627776)))) (.R ((c.At !=0)||c.Next)))
def ao1 (t2:u9):C prog Bool:=.of Z call113 func113 [aN1 t2] (fun r=>.t (tB r)) (
 .I ((((decide (t2.V0<0))||(decide (t2.V0>1099511627776)))||(decide ((t2.j3.length:Int)<1)))||(decide ((t2.j3.length:Int)>16))) (.R false) (.Z (.fb 1)<| .K (G5 t2.j3 (.of (fun z_=>ap2 z_ t2) 198 [cN7 t2])) fun v=>.R (!v)))
def M6 (x low high:Int):C prog Bool:=.of Z call284 func284 [.t (tI x),.t (tI low),.t (tI high)] (fun r=>.t (tB r)) (
 .R ((decide (x>=low))&&(decide (x<=high))))
def X6 (e2:o5)(f2:A2):C prog Bool:=.of Z call199 func199 [au3 e2,aP1 f2] (fun r=>.t (tB r)) (
 .K (O7 e2) fun v=>.G (!v) (.R true) (.K (P5 e2.A3 f2.p7) fun v2=>.R (!v2)) fun b2=>.G b2 (.R true) (.K (M6 f2.N9 (-1280) 3840) fun v3=>.R (!v3)) fun b3=>.G b3 (.R true) (.K (M6 f2.af1 500 10000) fun v4=>.R (!v4)) fun b4=>.G b4 (.R true) (.K (M6 f2.End 0 23040) fun v5=>.R (!v5)) fun b5=>.I b5 (.R false) (.G (f2.Y8 !=0) (.K (M6 f2.Y8 200 20000) fun v6=>.R (!v6)) (.R false) fun b6=>.I b6 (.R false) (.G ((f2.Gap==0)&&(f2.Extra==0)) (.R true) (.G (f2.Y8 !=0) (.K (M6 f2.Gap 200 20000) fun v7=>.R v7) (.R false) fun b7=>.G b7 (.K (M6 f2.Extra 200 20000) fun v8=>.R v8) (.R false) fun b8=>.R b8) fun b9=>.R b9)))
def N7 (s:List A2)(f2:Cl prog A2 Bool (fun x=>[aP1 x]) (fun r=>.t (tB r)))(i:Int)(_:Unit):M prog Int (Fl Unit Int):=
 .O (.ix B3 s i) fun x=>.K (f2.at x) fun v=>.I v (.R (.ret i)) (.R (.next ()))
def H4 (s:List A2)(f2:Cl prog A2 Bool (fun x=>[aP1 x]) (fun r=>.t (tB r))):C prog Int:=.of Z call180 func180 [.t (tS B3 s),.fz f2.n f2.cs] (fun r=>.t (tI r)) (
 M.QN (s.length:Int) 2 8 (fun(_:Unit)=>[]) 0 (.one .rt) (N7 s f2) () (fun _=>.R (-1)) (fun r2=>.R r2))
def E9 (s:List A2)(f2:Cl prog A2 Bool (fun x=>[aP1 x]) (fun r=>.t (tB r))):C prog Bool:=.of Z call200 func200 [.t (tS B3 s),.fz f2.n f2.cs] (fun r=>.t (tB r)) (
 .K (H4 s f2) fun v=>.R (decide (v>=0)))
def ae7 (g c:A2):C prog Bool:=.of Z call201 func201 [aP1 g,.el (B3 c)] (fun r=>.t (tB r)) (
 .R (g.p7==c.p7))
def am5 (e2:o5)(l:List A2)(i:Int)(_:Unit):M prog Bool (Fl Unit Bool):=
 .O (.ix B3 l i) fun x=>.K (X6 e2 x) fun v=>.Z (.fb 6)<| .G (!v) (.R true) (.U (.sF B3 l 0 i) fun l2=>.K (E9 l2 (.of (fun z_=>ae7 z_ x) 201 [B3 x])) fun v2=>.R v2) fun b2=>.I b2 (.R (.ret false)) (.R (.next ()))
def ab6 (e2:o5)(l:List A2):C prog Bool:=.of Z call114 func114 [au3 e2,.t (tS B3 l)] (fun r=>.t (tB r)) (
 M.QN (l.length:Int) 2 9 (fun(_:Unit)=>[]) 0 (.one .rt) (am5 e2 l) () (fun _=>.R true) (fun r2=>.R r2))
def O9 (s:List A6)(f2:Cl prog A6 Bool (fun x=>[bd4 x]) (fun r=>.t (tB r)))(i:Int)(_:Unit):M prog Int (Fl Unit Int):=
 .O (.ix I2 s i) fun x=>.K (f2.at x) fun v=>.I v (.R (.ret i)) (.R (.next ()))
def C2 (s:List A6)(f2:Cl prog A6 Bool (fun x=>[bd4 x]) (fun r=>.t (tB r))):C prog Int:=.of Z call202 func202 [.t (tS I2 s),.fz f2.n f2.cs] (fun r=>.t (tI r)) (
 M.QN (s.length:Int) 2 8 (fun(_:Unit)=>[]) 0 (.one .rt) (O9 s f2) () (fun _=>.R (-1)) (fun r2=>.R r2))
def O8 (s:List A6)(f2:Cl prog A6 Bool (fun x=>[bd4 x]) (fun r=>.t (tB r))):C prog Bool:=.of Z call115 func115 [.t (tS I2 s),.fz f2.n f2.cs] (fun r=>.t (tB r)) (
 .K (C2 s f2) fun v=>.R (decide (v>=0)))
def aw2 (s:j1)(j:A6):C prog Bool:=.of Z call117 func117 [S0 s,bd4 j] (fun r=>.t (tB r)) (
 .R (((((((((((decide (j.Event.p7>=1))&&(decide (j.Event.p7<=(s.u7.A3.length:Int))))&&(decide (j.Event.Kind>=1)))&&(decide (j.Event.Kind<=4)))&&(decide (j.Event.H6>=0)))&&(decide (j.Event.H6<46080)))&&(decide (j.Event.aj0>=0)))&&(decide (j.Event.aj0<=2)))&&(decide (j.Left>=(-1048576))))&&(decide (j.Left<=1048576)))&&(j.E0||(j.At==0))))
def Y3 (j:A6)(c:j1):C prog Bool:=.of Z call116 func116 [bd4 j,.el (be8 c)] (fun r=>.t (tB r)) (
 .K (aw2 c j) fun v=>.R (!v))
def H2 (x:B6):C prog Int:=.of Z call203 func203 [aX1 x] (fun r=>.t (tI r)) (
 .I ((x.Kind==3)||(x.Kind==4)) (.R (j7 ((j7 (2*(j7 (x.p7-1))))+1))) (.R (j7 (2*(j7 (x.p7-1))))))
def ar4 (kind:Int):C prog Bool:=.of Z call204 func204 [.t (tI kind)] (fun r=>.t (tB r)) (
 .R ((kind==1)||(kind==3)))
def Y6 (s:j1)(c:Int)(x:j9)(_:Int)(x2:A6)(s2:Bool×Bool):M prog Bool (Fl (Bool×Bool) Bool):=
 .W (.hx 0)<| .K (H2 x2.Event) fun v=>.I (v !=c) (.R (.next (s2.1,s2.2))) (.K (ar4 x2.Event.Kind) fun v2=>.I (v2==s2.1) (.R (.ret false)) (.J 0 (fun(_:Unit)=>[.x 25,.x 30,.x 31]) (.one .rt) (.I s2.2 (.I ((!(x2.E0==x.E0))||(x2.E0&&((x2.At !=x.At)||(!(x.Next==(!s2.1)))))) (.R (.inr false)) (.R (.inl ()))) (.I (x2.E0||s.Cut) (.R (.inr false)) (.R (.inl ())))) (fun _=>.I (s.Cut&&(((x2.Event.Kind !=2)||(!x2.E0))||(decide (x2.At>(j7 (s.k6.V0+5000)))))) (.R (.ret false)) (.R (.next ((!s2.1),false)))) (fun r2=>.R (.ret r2))))
def ar3 (s:j1)(c:Int):C prog Bool:=.of Z call118 func118 [S0 s,.t (tI c)] (fun r=>.t (tB r)) (
 .O (.ix E7 s.k6.j3 c) fun x=>M.Q I2 s.H3 2 21 (fun(t:Bool×Bool)=>[.t 6 (.t (tB t.1)),.t 7 (.t (tB t.2)),.x 10,.x 11,.x 16,.x 18]) 0 (.one .rt) (Y6 s c x) (x.K1,true) (fun s4=>.R ((!s4.1)&&(!(s4.2&&x.E0)))) (fun r3=>.R r3))
def am4 (s:j1)(i:Int)(_:Unit):M prog Bool (Fl Unit Bool):=
 .K (ar3 s i) fun v6=>.I (!v6) (.R (.ret false)) (.R (.next ()))
def J8 (s:j1):C prog Bool:=.of Z call66 func66 [S0 s] (fun r=>.t (tB r)) (
 .K (O7 s.u7) fun v=>.G (!v) (.R true) (.K (aj2 s.B1) fun v2=>.R (!v2)) fun b2=>.G b2 (.R true) (.K (ao1 s.k6) fun v3=>.R (!v3)) fun b3=>.G (b3||((s.k6.j3.length:Int) !=(j7 (2*(s.u7.A3.length:Int))))) (.R true) (.K (ab6 s.u7 s.Next) fun v4=>.R (!v4)) fun b4=>.I b4 (.R false) (.Z (.fb 1)<| .G ((decide ((s.H3.length:Int)>200))||((!s.B1.X5)&&(decide ((s.H3.length:Int)>0)))) (.R true) (.K (O8 s.H3 (.of (fun z_=>Y3 z_ s) 116 [be8 s])) fun v5=>.R v5) fun b5=>.I b5 (.R false) (M.QN (s.k6.j3.length:Int) 2 66 (fun(_:Unit)=>[]) 0 (.one .rt) (am4 s) () (fun _=>.R true) (fun r2=>.R r2))))
def ax8 (p2:U7):C prog Bool:=.of Z call119 func119 [cg7 p2] (fun r=>.t (tB r)) (
 .J0 0 (fun(t:Int)=>[.t 3 (.t (tI t)),.x 4]) (.I p2.aQ3 (.R 200) (.R 1000)) fun most=>.R (((((decide (p2.Value>=0))&&(decide (p2.Value<=most)))&&(decide (p2.af4>=0)))&&(decide (p2.af4<=3)))&&(p2.aQ3==(p2.af4==3))))
def S1 (x low high:Int):C prog Bool:=.of Z call205 func205 [.t (tI x),.t (tI low),.t (tI high)] (fun r=>.t (tB r)) (
 .R ((decide (x>=low))&&(decide (x<=high))))
def ai7 (s:List ab3)(f2:Cl prog ab3 Bool (fun x=>[bU9 x]) (fun r=>.t (tB r)))(i:Int)(_:Unit):M prog Int (Fl Unit Int):=
 .O (.ix an4 s i) fun x=>.K (f2.at x) fun v=>.I v (.R (.ret i)) (.R (.next ()))
def aa6 (s:List ab3)(f2:Cl prog ab3 Bool (fun x=>[bU9 x]) (fun r=>.t (tB r))):C prog Int:=.of Z call285 func285 [.t (tS an4 s),.fz f2.n f2.cs] (fun r=>.t (tI r)) (
 M.QN (s.length:Int) 2 8 (fun(_:Unit)=>[]) 0 (.one .rt) (ai7 s f2) () (fun _=>.R (-1)) (fun r2=>.R r2))
def R3 (s:List ab3)(f2:Cl prog ab3 Bool (fun x=>[bU9 x]) (fun r=>.t (tB r))):C prog Bool:=.of Z call206 func206 [.t (tS an4 s),.fz f2.n f2.cs] (fun r=>.t (tB r)) (
 .K (aa6 s f2) fun v=>.R (decide (v>=0)))
def ab5 (c:ab3):C prog Bool:=.of Z call207 func207 [bU9 c] (fun r=>.t (tB r)) (
 .K (S1 c.Value (-100) 100) fun v=>.G (!v) (.R true) (.K (S1 c.D1 0 1000) fun v2=>.R (!v2)) fun b2=>.R b2)
def ac7 (p2:M8):C prog Bool:=.of Z call120 func120 [bs2 p2] (fun r=>.t (tB r)) (
 .K (S1 p2.ak1 750 1250) fun v=>.G (!v) (.R true) (.K (S1 p2.bd8 0 1000) fun v2=>.R (!v2)) fun b2=>.I (b2||((p2.Cells.length:Int) !=9)) (.R false) (.I ((!p2.af3)&&(((p2.ak1 !=1000)||(p2.bd8 !=0))||p2.bd7)) (.R false) (.K (R3 p2.Cells (.of (fun z_=>ab5 z_) 207 [])) fun v3=>.R (!v3))))
def ah0 (s:List B8)(f2:Cl prog B8 Bool (fun x=>[aX2 x]) (fun r=>.t (tB r)))(i:Int)(_:Unit):M prog Int (Fl Unit Int):=
 .O (.ix I6 s i) fun x=>.K (f2.at x) fun v=>.I v (.R (.ret i)) (.R (.next ()))
def Y0 (s:List B8)(f2:Cl prog B8 Bool (fun x=>[aX2 x]) (fun r=>.t (tB r))):C prog Int:=.of Z call208 func208 [.t (tS I6 s),.fz f2.n f2.cs] (fun r=>.t (tI r)) (
 M.QN (s.length:Int) 2 8 (fun(_:Unit)=>[]) 0 (.one .rt) (ah0 s f2) () (fun _=>.R (-1)) (fun r2=>.R r2))
def J3 (s:List B8)(f2:Cl prog B8 Bool (fun x=>[aX2 x]) (fun r=>.t (tB r))):C prog Bool:=.of Z call121 func121 [.t (tS I6 s),.fz f2.n f2.cs] (fun r=>.t (tB r)) (
 .K (Y0 s f2) fun v=>.R (decide (v>=0)))
def ah6 (n2:Int):C prog Bool:=.of Z call209 func209 [.t (tI n2)] (fun r=>.t (tB r)) (
 .R ((decide (n2>=0))&&(decide (n2<=4095))))
def ax3 (k:B8):C prog Bool:=.of Z call123 func123 [aX2 k] (fun r=>.t (tB r)) (
 .G ((decide (k.at6>=0))&&(decide (k.at6<=960))) (.K (ah6 k.aH6) fun v=>.R v) (.R false) fun b2=>.R ((b2&&(decide (k.Quiet>=0)))&&(decide (k.Quiet<100))))
def ak5 (k:B8):C prog Bool:=.of Z call122 func122 [aX2 k] (fun r=>.t (tB r)) (
 .K (ax3 k) fun v=>.R (!v))
def aq0 (e2:o5)(c:A5):C prog Bool:=.of Z call67 func67 [au3 e2,aQ2 c] (fun r=>.t (tB r)) (
 .K (O7 e2) fun v=>.G (!v) (.R true) (.K (ax8 c.I9) fun v2=>.R (!v2)) fun b2=>.G b2 (.R true) (.K (ac7 c.Q3) fun v3=>.R (!v3)) fun b3=>.I (b3||((c.ab2.length:Int) !=(e2.A3.length:Int))) (.R false) (.K (J3 c.ab2 (.of (fun z_=>ak5 z_) 122 [])) fun v4=>.I v4 (.R false) (.K (J5 c.af0.Sum (-4398046511104) 4398046511104) fun v5=>.G v5 (.K (J5 c.P1 0 1073741824) fun v6=>.R v6) (.R false) fun b4=>.G b4 (.K (J5 c.af5.o9 (-5000) 10000) fun v7=>.R v7) (.R false) fun b5=>.G b5 (.K (J5 c.af5.N3 (-1) 15) fun v8=>.R v8) (.R false) fun b6=>.R b6)))
def aV3 (t2:Int):C prog Bool:=.of Z call124 func124 [.t (tI t2)] (fun r=>.t (tB r)) (
 .R ((decide (t2>=0))&&(decide (t2<=1099511627776))))
def aG6 (f2:aa1):C prog Bool:=.of Z call68 func68 [bb6 f2] (fun r=>.t (tB r)) (
 .K (aV3 f2.G9) fun v=>.G v (.K (aV3 f2.F9) fun v2=>.R v2) (.R false) fun b2=>.R ((b2&&(decide (f2.F9<=f2.G9)))&&(f2.Seen||((f2.G9==0)&&(f2.F9==0)))))
def aL3 (w:aI4):C prog Bool:=.of Z call125 func125 [aB8 w] (fun r=>.t (tB r)) (
 .G (((((w.aP3==1)||(w.aP3==2))&&(decide (w.aw6>=12)))&&(decide (w.aw6<=120)))&&(decide (w.aw6>=(j7 (8*w.aP3))))) (.O (.rem 23040 w.aw6) fun q=>.R (q==0)) (.R false) fun b2=>.R b2)
def bg2 (t2:Int):C prog Bool:=.of Z call126 func126 [.t (tI t2)] (fun r=>.t (tB r)) (
 .R ((decide (t2>=0))&&(decide (t2<=1099511627776))))
def aS8 (w:aI4):C prog Int:=.of Z call127 func127 [aB8 w] (fun r=>.t (tI r)) (
 .K (aL3 w) fun v=>.I (!v) (.R 0) (.R (j7 (w.aw6-w.aP3))))
def bw3 (w:aI4)(s:aa8):C prog Bool:=.of Z call69 func69 [aB8 w,aP2 s] (fun r=>.t (tB r)) (
 .K (aL3 w) fun v=>.I (!v) (.R false) (.I (s.Mode==0) (.W .eq<| .R ((s.Mode==0)&&((s.ay8==0)&&((s.G9==0)&&((s.F9==0)&&((s.N8==0)&&((s.aw6==0)&&true))))))) (.I (s.Mode==1) (.G (s.ay8 !=0) (.R true) (.K (bg2 s.G9) fun v2=>.R (!v2)) fun b2=>.I b2 (.R false) (.I (s.aw6==0) (.R ((s.F9==0)&&(s.N8==0))) (.R (((((s.aw6==1)||(s.aw6==2))&&(decide (s.F9>=1)))&&(decide (s.F9<=s.G9)))&&(s.N8==s.F9))))) (.I (s.Mode==2) (.J0 1 (fun(t:Bool)=>[.t 4 (.t (tB t)),.x 2,.x 3,.x 8,.d 2,.d 3]) (.D [] []<| .Sp (decide (s.ay8>=0)) (.K (aS8 w) fun v3=>.Sp (decide (s.ay8<v3)) (.K (bg2 s.G9) fun v4=>.Sp v4 (.Sp (decide (s.F9>=1)) (.Sp (decide (s.F9<=s.G9)) (.Sp (decide (s.N8>=1)) (.R ((decide (s.N8<=s.F9))&&(s.aw6==0))) (.R false)) (.Sp false .N (.R false))) (.Sp false .N (.Sp false .N (.R false)))) (.Sp false .N (.Sp false .N (.Sp false .N (.R false))))) (.Sp false .N (.Sp false .N (.Sp false .N (.Sp false .N (.R false)))))) (.Sp false .N (.Sp false .N (.Sp false .N (.Sp false .N (.Sp false .N (.R false))))))) fun v5=>.R v5) (.R false)))))
def br5:C prog aI4:=.of Z call70 func70 [] (fun r=>aB8 r) (
 .R (⟨60,2⟩:aI4))
def F6 (x y:Int):C prog Int:=.of Z call210 func210 [.t (tI x),.t (tI y)] (fun r=>.t (tI r)) (
 .K (cmp_isNaN_int x) fun v=>.K (cmp_isNaN_int y) fun v2=>.I v (.I v2 (.R 0) (.R (-1))) (.I v2 (.R 1) (.I (decide (x<y)) (.R (-1)) (.I (decide (x>y)) (.R 1) (.R 0)))))
def cG1 (_ x:Int)(s:Int×Int):M prog (Int×Int) (Fl (Int×Int) Empty):=
 .W (.hx 0)<| .I (decide (x<23040)) (.R (.next (j7 (s.1+1),s.2))) (.R (.next (s.1,j7 (s.2+1))))
def cq1 (c:ch4):C prog (Int×Int):=.of Z call211 func211 [bN9 c] (fun r=>.Q1 [.t (tI r.1),.t (tI r.2)]) (
 M.Q aJ9 c.bx7 2 9 (fun(t:Int×Int)=>[.t 2 (.t (tI t.1)),.t 3 (.t (tI t.2)),.x 1,.x 6,.d 1]) 0 (.e) (cG1) (0,0) (fun s2=>.R (s2.1,s2.2)) (fun t=>t.elim))
def cq0 (c:ch4)(i:Int)(_:Unit):M prog Bool (Fl Unit Bool):=
 .O (.ix aJ9 c.bx7 i) fun x=>.G ((((decide (x<0))||(decide (x>=46080)))||(decide ((ed7 x 23040)<1920)))||(decide ((ed7 x 23040)>21120))) (.R true) (.G (decide (i>0)) (.O (.ix aJ9 c.bx7 (j7 (i-1))) fun x2=>.R (decide ((j7 (x-x2))<1920))) (.R false) fun b3=>.R b3) fun b4=>.I b4 (.R (.ret false)) (.R (.next ()))
def aS9 (c:ch4):C prog Bool:=.of Z call128 func128 [bN9 c] (fun r=>.t (tB r)) (
 .G ((decide ((c.bx7.length:Int)<1))||(decide ((c.bx7.length:Int)>8))) (.R true) (.K (H9 c.bx7 (.of (fun z_=>F6 z_.1 z_.2) 210 [])) fun v=>.R (!v)) fun b2=>.I b2 (.R false) (M.QN (c.bx7.length:Int) 2 26 (fun(_:Unit)=>[.x 7,.x 23]) 0 (.one .rt) (cq0 c) () (fun _=>.K (cq1 c) fun r2=>.R (r2.1 !=r2.2)) (fun r3=>.R r3)))
def bS3 (p2:ad7):C prog Bool:=.of Z call129 func129 [aX3 p2] (fun r=>.t (tB r)) (
 .I ((((decide (p2.D1<0))||(decide (p2.D1>16)))||(decide (p2.bG2<0)))||(decide (p2.bG2>1))) (.R false) (.I ((!p2.Seen)&&((p2.D1 !=0)||p2.aX6)) (.R false) (.R (p2.aX6||(p2.bG2==0)))))
def bn1 (c:ch4)(p2:ad7):C prog Bool:=.of Z call71 func71 [bN9 c,aX3 p2] (fun r=>.t (tB r)) (
 .K (aS9 c) fun v=>.G v (.K (bS3 p2) fun v2=>.R v2) (.R false) fun b2=>.R b2)
def bD8:C prog ch4:=.of Z call72 func72 [] (fun r=>bN9 r) (
 .R (⟨([5000,12000,30000]:List Int)⟩:ch4))
def N0 (x low high:Int):C prog Bool:=.of Z call130 func130 [.t (tI x),.t (tI low),.t (tI high)] (fun r=>.t (tB r)) (
 .R ((decide (x>=low))&&(decide (x<=high))))
def aY4 (g:ah9):C prog Bool:=.of Z call73 func73 [bl3 g] (fun r=>.t (tB r)) (
 .K (N0 g.Over 0 5) fun v=>.G v (.K (N0 g.Calm 0 1000) fun v2=>.R v2) (.R false) fun b2=>.R ((b2&&((g.Over==0)||(g.Calm==0)))&&(g.Off||(decide (g.Over<5)))))
def br0 (t2:Int):C prog Bool:=.of Z call131 func131 [.t (tI t2)] (fun r=>.t (tB r)) (
 .R ((decide (t2>=0))&&(decide (t2<=1099511627776))))
def bj3 (q:ab4):C prog Bool:=.of Z call74 func74 [aT0 q] (fun r=>.t (tB r)) (
 .K (aY6 q.Question) fun v=>.G v (.K (br0 q.am7) fun v2=>.R v2) (.R false) fun b2=>.R (((((b2&&(q.Open||(q.am7==0)))&&(decide (q.P2>=0)))&&(decide (q.P2<=7)))&&(q.Off==(q.P2==7)))&&(!(q.Open&&q.Off))))
def bK8 (t2:Int):C prog Bool:=.of Z call132 func132 [.t (tI t2)] (fun r=>.t (tB r)) (
 .R ((decide (t2>=0))&&(decide (t2<=1099511627776))))
def bn4 (s:ao6):C prog Bool:=.of Z call75 func75 [bl4 s] (fun r=>.t (tB r)) (
 .G (((decide (s.bs3>=0))&&(decide (s.bs3<=3)))&&(s.U2==(s.bs3==0))) (.K (bK8 s.aQ4) fun v=>.R v) (.R false) fun b2=>.R b2)
def bV3 (u:ac3):C prog Bool:=.of Z call36 func36 [bZ9 u] (fun r=>.t (tB r)) (
 .J0 1 (fun(t:Bool)=>[.t 49 (.t (tB t))]) (.D [] []<| .K (ac5 u.u6) fun v=>.Sp (!v) (.Sp true (.Sp true (.Sp true (.Sp true (.Sp true (.R true) .N) .N) .N) .N) .N) (.K (bv4 u.ab0 u.A8) fun v2=>.Sp (!v2) (.Sp true (.Sp true (.Sp true (.Sp true (.R true) .N) .N) .N) .N) (.K (J8 u.j4) fun v3=>.Sp (!v3) (.Sp true (.Sp true (.Sp true (.R true) .N) .N) .N) (.K (aq0 u.j4.u7 u.u4) fun v4=>.Sp (!v4) (.Sp true (.Sp true (.R true) .N) .N) (.K (aG6 u.H8) fun v5=>.Sp (!v5) (.Sp true (.R true) .N) (.K (br5) fun v6=>.K (bw3 v6 u.Q4) fun v7=>.Sp (!v7) (.R true) (.K (bD8) fun v8=>.K (bn1 v8 u.M7) fun v9=>.R (!v9)))))))) fun v10=>.I v10 (.R false) (.K (aY4 u.M0) fun v11=>.G (!v11) (.R true) (.K (bj3 u.I8) fun v12=>.R (!v12)) fun b2=>.G b2 (.R true) (.K (bn4 u.L6) fun v13=>.R (!v13)) fun b3=>.G b3 (.R true) (.K (Z6 u.F3) fun v14=>.R (!v14)) fun b4=>.I ((b4||(decide ((u.F3.L.length:Int)<7)))||(!u.F3.ay0)) (.R false) (.R (((((decide (u.Time>=0))&&(decide (u.Time<=549755813888)))&&((ed7 u.Time 10000)==0))&&(u.j4.k6.V0==u.Time))&&(decide ((G4 (G4 (G4 u.H8.G9 u.Q4.G9) u.L6.aQ4) u.I8.am7)<=u.Time))))))
def aS5 (s:List Y9)(f2:Cl prog Y9 Bool (fun x=>[bN8 x]) (fun r=>.t (tB r)))(i:Int)(_:Unit):M prog Int (Fl Unit Int):=
 .O (.ix aH0 s i) fun x=>.K (f2.at x) fun v=>.I v (.R (.ret i)) (.R (.next ()))
def bc7 (s:List Y9)(f2:Cl prog Y9 Bool (fun x=>[bN8 x]) (fun r=>.t (tB r))):C prog Int:=.of Z call133 func133 [.t (tS aH0 s),.fz f2.n f2.cs] (fun r=>.t (tI r)) (
 M.QN (s.length:Int) 2 8 (fun(_:Unit)=>[]) 0 (.one .rt) (aS5 s f2) () (fun _=>.R (-1)) (fun r2=>.R r2))
def aD6 (s:List Y9)(f2:Cl prog Y9 Bool (fun x=>[bN8 x]) (fun r=>.t (tB r))):C prog Bool:=.of Z call76 func76 [.t (tS aH0 s),.fz f2.n f2.cs] (fun r=>.t (tB r)) (
 .K (bc7 s f2) fun v=>.R (decide (v>=0)))
def ck8 (b2:Y9):C prog Bool:=.of Z call77 func77 [bN8 b2] (fun r=>.t (tB r)) (
 .R ((((((((decide (b2.bX1<0))||(decide (b2.bX1>1099511627776)))||(decide (b2.To<0)))||(decide (b2.To>1099511627776)))||(decide (b2.aE2<0)))||(decide (b2.aE2>7)))||(decide (b2.Value<(-1000000))))||(decide (b2.Value>1000000))))
def bI5 (k:List Y9):C prog Bool:=.of Z call37 func37 [.t (tS aH0 k)] (fun r=>.t (tB r)) (
 .G (decide ((k.length:Int)<=100)) (.K (aD6 k (.of (fun z_=>ck8 z_) 77 [])) fun v=>.R (!v)) (.R false) fun b2=>.R b2)
def bY9 (d:I5):C prog (Int×Int×Int×Int×Int):=.of Z call34 func34 [bd3 d] (fun r=>dB9 r) (
 .R (d.At,d.I9,d.bl5,d.bO0,d.bO1))
def cz4:C prog (J1×J1×J1×J1×J1):=.of Z call35 func35 [] (fun r=>ca0 r) (
 .R ((⟨(ByteArray.mk #[97,116]),0,1099511627776⟩:J1),(⟨(ByteArray.mk #[112,101,100,97,108]),0,1000⟩:J1),(⟨(ByteArray.mk #[98,114,97,107,101]),0,1000⟩:J1),(⟨(ByteArray.mk #[103,101,97,114]),0,6⟩:J1),(⟨(ByteArray.mk #[108,111,97,100]),(-500),2000⟩:J1)))
def aw8 (v2:(Int×Int×Int×Int×Int))(v3:(J1×J1×J1×J1×J1))(v4:Int):M prog Bool (Int⊕(Int⊕Bool)):=
 .I (decide (v4<5)) (.O (.arr (fun y=>.agg [.t (.v (.string y.word)),.t (tI y.low),.t (tI y.high)]) ([v3.1,v3.2.1,v3.2.2.1,v3.2.2.2.1,v3.2.2.2.2]:List J1) v4) fun x4=>.J0 1 (fun(t:Bool)=>[.t 63 (.t (tB t)),.x 7,.d 7]) (.D [] []<| .O (.ax aJ9 ([v2.1,v2.2.1,v2.2.2.1,v2.2.2.2.1,v2.2.2.2.2]:List Int) v4) fun x5=>.Sp (decide (x5<x4.low)) (.R true) (.O (.ax aJ9 ([v2.1,v2.2.1,v2.2.2.1,v2.2.2.2.1,v2.2.2.2.2]:List Int) v4) fun x6=>.R (decide (x6>x4.high)))) fun v5=>.I v5 (.R (.inr (.inr false))) (.R (.inl (j7 (v4+1))))) (.R (.inr (.inl v4)))
def aQ9 (l:List I5)(i:Int)(_:Unit):M prog Bool (Fl Unit Bool):=
 .O (.ix aq3 l i) fun x2=>.J0 1 (fun(t:Bool)=>[.t 42 (.t (tB t))]) (.D [] []<| .Sp (decide (i>0)) (.O (.ix aq3 l (j7 (i-1))) fun x3=>.R (decide (x2.At<=x3.At))) (.R false)) fun v=>.I v (.R (.ret false)) (.K (bY9 x2) fun v2=>.K (cz4) fun v3=>.Z (.fb 5)<| .L (fun(t:Int)=>[.t 46 (.t (tI t)),.x 4,.d 4]) 2 (.one .rt) (aw8 v2 v3) 0 (fun _=>.R (.next ())) (fun r2=>.R (.ret r2)))
def aA0 (l:List I5):C prog Bool:=.of Z call10 func10 [.t (tS aq3 l)] (fun r=>.t (tB r)) (
 .G ((decide ((l.length:Int)<1))||(decide ((l.length:Int)>200))) (.R true) (.O (.ix aq3 l 0) fun x=>.R (x.At !=0)) fun b2=>.I b2 (.R false) (M.QN (l.length:Int) 2 25 (fun(_:Unit)=>[]) 0 (.one .rt) (aQ9 l) () (fun _=>.R true) (fun r3=>.R r3)))
def ct9 (d:I5):C prog Bool:=.of Z call41 func41 [bd3 d] (fun r=>.t (tB r)) (
 .G ((decide (d.At>=0))&&(decide (d.At<=1099511627776))) (.K (aA0 ([({d with At:=0}:I5)]:List I5)) fun v=>.R v) (.R false) fun b2=>.R b2)
def ce4 (o8:Int):C prog (Int×Int):=.of Z call79 func79 [.t (tI o8)] (fun r=>.Q1 [.t (tI r.1),.t (tI r.2)]) (
 .I ((decide (o8<0))||(decide (o8>524288))) (.R (0,2)) (.R (j7 (cZ1 (j7 (o8*60000000)) 1509949440),0)))
def ag0 (s:j8)(bp0 _:Int)(x:Y9)(_:Unit):M prog (Int×Bool) (Fl Unit (Int×Bool)):=
 .W (.hx 0)<| .J0 1 (fun(t:Bool)=>[.t 38 (.t (tB t))]) (.D [] []<| .Sp (x.aE2==bp0) (.Sp (decide (x.bX1<=s.t)) (.R (decide (s.t<x.To))) (.R false)) (.Sp false .N (.R false))) fun v=>.I v (.R (.ret (x.Value,true))) (.R (.next ()))
def O5 (s:j8)(bp0:Int):C prog (Int×Bool):=.of Z call154 func154 [.el (bk6 s),.t (tI bp0)] (fun r=>.Q1 [.t (tI r.1),.t (tB r.2)]) (
 M.Q aH0 s.k 2 13 (fun(_:Unit)=>[]) 0 (.one .rt) (ag0 s bp0) () (fun _=>.R (0,false)) (fun r2=>.R r2))
def bK0 (p2:Z0):C prog Int:=.of Z call213 func213 [aX4 p2] (fun r=>.t (tI r)) (
 .I ((p2.Path.length:Int)==0) (.R 1000) (.O (.ix aJ9 p2.Path 0) fun x=>.R x))
def D3 (s:j8)(bp0:Int):C prog Int:=.of Z call137 func137 [.el (bk6 s),.t (tI bp0)] (fun r=>.t (tI r)) (
 .K (O5 s bp0) fun r2=>.I r2.2 (.R r2.1) (.I (bp0==0) (.R s.d.I9) (.I (bp0==1) (.R (j7 (cZ1 s.d.I9 2))) (.I (bp0==2) (.R s.u.A8.L0) (.I (bp0==3) (.R 20) (.I (bp0==4) (.R (F2 (j7 (20+(j7 (cZ1 s.t 1000000)))) 90)) (.K (bK0 s.u.A8) fun v=>.I (decide (v<1000)) (.R 800) (.R 100))))))))
def C6 (x low high:Int):C prog Int:=.of Z call144 func144 [.t (tI x),.t (tI low),.t (tI high)] (fun r=>.t (tI r)) (
 .R (F2 (G4 x low) high))
def bm5 (x low high:Int):C prog Bool:=.of Z call212 func212 [.t (tI x),.t (tI low),.t (tI high)] (fun r=>.t (tB r)) (
 .R ((decide (x<low))||(decide (x>high))))
def bI6 (s:j8):C prog (Bool×Bool×Bool×Bool×Bool×Bool×Bool):=.of Z call136 func136 [.el (bk6 s)] (fun r=>do5 r) (
 .K (D3 s 0) fun v=>.K (C6 v 0 1000) fun v2=>.K (D3 s 1) fun v3=>.K (C6 v3 0 500) fun v4=>.D [] []<| .K (D3 s 2) fun v5=>.K (bm5 v5 50 1013) fun v6=>.K (D3 s 3) fun v7=>.K (bm5 v7 (-40) 150) fun v8=>.K (D3 s 4) fun v9=>.K (bm5 v9 (-40) 150) fun v10=>.K (D3 s 5) fun v11=>.K (bm5 v11 50 900) fun v12=>.R (decide ((G4 (j7 (v2-(j7 (2*v4)))) (j7 ((j7 (2*v4))-v2)))>50),v6,v8,v10,v12,s.u.M0.Off,s.u.I8.Off))
def bL8 (old:B7):C prog B7:=.of Z call138 func138 [aA7 old] (fun r=>.fz 214 [aR1 r]) (
 .Z (.fb 1)<| .R old)
def aF1 (l:List A1)(i:Int)(c:w9)(E5:Int)(frame:List Int):CG prog (List A1):=.of Z call215 func215 [.pe 1000000 (Int.toNat i) 7 0,aO2 c,.t (tI E5),.t (tS aJ9 frame)] [(1000000,.rs 174 7 l G1)] (fun _=>.Q1 []) (fun r=>[(1000000,.rs 174 7 r G1)]) [] (
 .A G1 l i fun x2=>.W (.ly 0)<| .K (X7 x2 1) fun v=>.J0 0 (fun(t:List A1)=>[.x 8,.x 9,.b 1000000 (.rs 174 7 t G1)]) (.I (!v) (.W (.ly 0)<| .U (.st G1 l i ({x2 with z8:=F2 255 (j7 (x2.z8+1))}:A1) 0) fun l2=>.W (.ly 0)<| .K (X7 ({x2 with z8:=F2 255 (j7 (x2.z8+1))}:A1) 4) fun v2=>.I (!v2) (.K (O1 frame) fun v3=>.U (.st G1 l2 i ({x2 with z8:=F2 255 (j7 (x2.z8+1)),Frame:=v3}:A1) 0) fun l3=>.R l3) (.R l2)) (.R l)) fun f2=>.A G1 f2 i fun x3=>.W (.ly 0)<| .U (.st G1 f2 i ({x3 with D8:=R6 .i64 x3.D8 11}:A1) 0) fun l4=>.U (.st G1 l4 i ({x3 with D8:=R6 .i64 x3.D8 11,Clean:=0}:A1) 0) fun l5=>.W (.ly 0)<| .I (x3.G9==E5) (.R l5) (.U (.st G1 l5 i ({x3 with D8:=R6 .i64 x3.D8 11,Clean:=0,G9:=E5}:A1) 0) fun l6=>.W (.ly 0)<| .U (.st G1 l6 i (⟨R6 .i64 x3.D8 11,x3.D1,F2 2 (j7 (x3.I7+1)),0,x3.z8,x3.Frame,E5⟩:A1) 0) fun l7=>.W (.ly 0)<| .I (decide ((F2 2 (j7 (x3.I7+1)))<2)) (.R l7) (.W (.ly 0)<| .U (.st G1 l7 i (⟨R6 .i64 (R6 .i64 x3.D8 11) 4,x3.D1,F2 2 (j7 (x3.I7+1)),0,x3.z8,x3.Frame,E5⟩:A1) 0) fun l8=>.I c.ch1 (.W (.ly 0)<| .U (.st G1 l8 i (⟨R6 .i64 (R6 .i64 (R6 .i64 x3.D8 11) 4) 16,x3.D1,F2 2 (j7 (x3.I7+1)),0,x3.z8,x3.Frame,E5⟩:A1) 0) fun l9=>.R l9) (.R l8))))
def aq4 (f2:B7)(i:Int)(bad:Bool)(l:List Int):C prog (B7×Int):=.of Z call139 func139 [aA7 f2,.t (tI i),.t (tB bad),.t (tS aJ9 l)] (fun r=>.Q1 [aA7 r.1,.t (tI r.2)]) (
 .K (Z6 f2) fun v=>.I (!v) (.R ((⟨([]:List w9),([]:List A1),0,false⟩:B7),1)) (.I ((decide (i<0))||(decide (i>=(f2.L.length:Int)))) (.R ((⟨([]:List w9),([]:List A1),0,false⟩:B7),2)) (.I (!f2.ay0) (.R ((⟨([]:List w9),([]:List A1),0,false⟩:B7),6)) (.O (.ix M3 f2.T5 i) fun x=>.K (as8 x l) fun v2=>.I (!v2) (.R ((⟨([]:List w9),([]:List A1),0,false⟩:B7),1)) (.KG (al5 f2) [2352] fun v3=>.D [] []<| .O (.ix G1 v3.L i) fun x2=>.O (.ix M3 v3.T5 i) fun x3=>.J0 0 (fun(t:List A1)=>[.x 29,.x 34,.x 44,.x 45,.x 46,.x 48,.x 49,.b 2352 (.rs 174 7 t G1)]) (.I bad (.D [] []<| .W (.ly 1)<| .U (.st G1 v3.L i ({x2 with D1:=F2 x3.ba6 (j7 ((G4 x2.D1 0)+1))}:A1) 1) fun l2=>.R l2) (.D [] []<| .W (.ly 1)<| .U (.st G1 v3.L i ({x2 with D1:=G4 (j7 (0-x3.Pass)) (j7 ((F2 x2.D1 0)-1))}:A1) 1) fun l3=>.R l3)) fun f3=>.A G1 f3 i fun x4=>.W (.ly 0)<| .I (x4.D1==x3.ba6) (.KG (aF1 f3 i x3 v3.aH5 l) [] fun v4=>.R (({v3 with L:=v4}:B7),0)) (.I (x4.D1==(j7 (0-x3.Pass))) (.W (.ly 0)<| .U (.st G1 f3 i ({x4 with D8:=R6 .i64 x4.D8 8}:A1) 0) fun l4=>.W (.ly 0)<| .U (.st G1 l4 i ({x4 with D8:=aO3 .i64 (R6 .i64 x4.D8 8) 1}:A1) 0) fun l5=>.R (({v3 with L:=l5}:B7),0)) (.R (({v3 with L:=f3}:B7),0))))))))
def bA3:C prog (List T1):=.of Z call140 func140 [] (fun r=>.t (tS ac6 r)) (
 .Z (.fr 1)<| .Z (.fr 3)<| .Z (.fr 5)<| .Z (.fr 7)<| .Z (.fr 9)<| .Z (.fr 11)<| .Z (.fr 13)<| .R ([(⟨(ByteArray.mk #[108,105,109,112]),0,2,([0]:List Int),600⟩:T1),(⟨(ByteArray.mk #[100,114,111,112]),0,2,([1,4]:List Int),1500⟩:T1),(⟨(ByteArray.mk #[115,116,111,112]),0,9,([5,6]:List Int),0⟩:T1),(⟨(ByteArray.mk #[112,114,101,115,115,117,114,101]),1,0,([1]:List Int),500⟩:T1),(⟨(ByteArray.mk #[97,105,114]),2,0,([2]:List Int),40⟩:T1),(⟨(ByteArray.mk #[99,111,111,108,97,110,116]),3,0,([3]:List Int),90⟩:T1),(⟨(ByteArray.mk #[112,114,111,98,101]),4,0,([4]:List Int),450⟩:T1)]:List T1))
def cw3 (s:ByteArray)(i:Int)(_:Unit):M prog Bool (Fl Unit Bool):=
 .O (.str s i) fun b2=>.G (decide (b2<33)) (.R true) (.O (.str s i) fun b3=>.R (decide (b3>126))) fun b4=>.I b4 (.R (.ret false)) (.R (.next ()))
def cX8 (s:ByteArray):C prog Bool:=.of Z call339 func339 [.t (.v (.string s))] (fun r=>.t (tB r)) (
 .I ((decide ((s.size:Int)<1))||(decide ((s.size:Int)>24))) (.R false) (M.QN (s.size:Int) 2 14 (fun(_:Unit)=>[]) 0 (.one .rt) (cw3 s) () (fun _=>.R true) (fun r2=>.R r2)))
def cn4 (r2:T1)(bu4 i:Int)(_:Unit):M prog Bool (Fl Unit Bool):=
 .O (.ix aJ9 r2.ae9 i) fun x=>.G ((decide (x<0))||(decide (x>=bu4))) (.R true) (.G (decide (i>0)) (.O (.ix aJ9 r2.ae9 (j7 (i-1))) fun x2=>.R (decide (x<=x2))) (.R false) fun b2=>.R b2) fun b3=>.I b3 (.R (.ret false)) (.R (.next ()))
def cS3 (r2:T1)(bu4:Int):C prog Bool:=.of Z call288 func288 [cy0 r2,.t (tI bu4)] (fun r=>.t (tB r)) (
 .K (cX8 r2.Name) fun v=>.I (((((((((!v)||(decide (r2.cY7<0)))||(decide (r2.cY7>15)))||(decide (r2.E6<0)))||(decide (r2.E6>15)))||(decide ((r2.ae9.length:Int)<1)))||(decide ((r2.ae9.length:Int)>16)))||(decide (r2.ch2<(-5000))))||(decide (r2.ch2>10000))) (.R false) (M.QN (r2.ae9.length:Int) 2 56 (fun(_:Unit)=>[.x 7,.x 53]) 0 (.one .rt) (cn4 r2 bu4) () (fun _=>.R true) (fun r3=>.R r3)))
def cn3 (bu4 _:Int)(x:T1)(f2:List (ByteArray×Bool)):M prog Bool (Fl (List (ByteArray×Bool)) Bool):=
 .W (.hx 0)<| .K (cS3 x bu4) fun v=>.G (!v) (.R true) (.Ml eJ6 f2 x.Name<| .R (cP8 false f2 x.Name)) fun b2=>.I b2 (.R (.ret false)) (.Mu eJ6 f2 x.Name true<| .R (.next (dl3 f2 x.Name true)))
def aJ4 (l:List T1)(bu4:Int):C prog Bool:=.of Z call219 func219 [.t (tS ac6 l),.t (tI bu4)] (fun r=>.t (tB r)) (
 .I (((decide (bu4<0))||(decide (bu4>64)))||(decide ((l.length:Int)>64))) (.R false) (.Mm 2152<|M.Q ac6 l 2 22 (fun(t:List (ByteArray×Bool))=>[.x 19,.b 2152 (.mp (List.map (ent (fun s:ByteArray=>.string s) (fun v:Bool=>.bool v)) t))]) 0 (.one .rt) (cn3 bu4) ([]:List (ByteArray×Bool)) (fun _=>.R true) (fun r2=>.R r2)))
def bw0 (l:List T1)(f2:B7):C prog Bool:=.of Z call216 func216 [.t (tS ac6 l),aA7 f2] (fun r=>.t (tB r)) (
 .K (Z6 f2) fun v=>.G v (.K (aJ4 l (f2.L.length:Int)) fun v2=>.R v2) (.R false) fun b2=>.R b2)
def aD5 (holds:Cl prog Int Bool (fun x=>[.t (tI x)]) (fun r=>.t (tB r)))(_ x:Int)(out:List Int):M prog (List Int) (Fl (List Int) Empty):=
 .W (.hx 0)<| .K (holds.at x) fun v=>.I v (.U (.ap aJ9 out ([x]:List Int) 2168) fun l=>.R (.next l)) (.R (.next out))
def aO1 (r2:T1)(holds:Cl prog Int Bool (fun x=>[.t (tI x)]) (fun r=>.t (tB r))):C prog (List Int):=.of Z call286 func286 [cy0 r2,.fz holds.n holds.cs] (fun r=>.t (tS aJ9 r)) (
 .Z (.np 5 2168 3 1 [])<|M.Q aJ9 r2.ae9 2 11 (fun(t:List Int)=>[.t 5 (.own 2168),.x 2,.x 8,.b 2168 (.rs 3 1 t aJ9),.d 2]) 0 (.e) (aD5 holds) ([]:List Int) (fun dm0=>.R dm0) (fun t=>t.elim))
def az1 (l:List T1)(holds:Cl prog Int Bool (fun x=>[.t (tI x)]) (fun r=>.t (tB r)))(i:Int)(out:List U3):M prog (List U3) (Fl (List U3) Empty):=
 .O (.ix ac6 l i) fun x=>.K (aO1 x holds) fun v=>.I (decide ((v.length:Int)>0)) (.U (.ap an3 out ([(⟨i,v⟩:U3)]:List U3) 2216) fun l2=>.R (.next l2)) (.R (.next out))
def aJ5 (l:List T1)(holds:Cl prog Int Bool (fun x=>[.t (tI x)]) (fun r=>.t (tB r))):C prog (List U3):=.of Z call217 func217 [.t (tS ac6 l),.fz holds.n holds.cs] (fun r=>.t (tS an3 r)) (
 .Z (.np 5 2216 106 2 [])<|M.QN (l.length:Int) 2 11 (fun(t:List U3)=>[.t 5 (.own 2216),.b 2216 (.rs 106 2 t an3)]) 0 (.e) (az1 l holds) ([]:List U3) (fun dm0=>.R dm0) (fun t=>t.elim))
def bo9 (f2:B7)(but:Int):C prog (Int×B7):=.of Z call218 func218 [aA7 f2,.t (tI but)] (fun r=>.fz 287 [aJ9 r.1,aR1 r.2]) (
 .Z (.fb 3)<| .Z (.fb 2)<| .R (but,f2))
def aF9 (i c:Int)(c2:B7):C prog Bool:=.of Z call287 func287 [.t (tI i),.el (aJ9 c),.el (aR1 c2)] (fun r=>.t (tB r)) (
 .G (i !=c) (.O (.ix G1 c2.L i) fun x=>.R ((T2 .i64 x.D8 5) !=0)) (.R false) fun b2=>.R b2)
def aO0 (l:List T1)(f2:B7):C prog (List U3×Int):=.of Z call141 func141 [.t (tS ac6 l),aA7 f2] (fun r=>.Q1 [.t (tS an3 r.1),.t (tI r.2)]) (
 .K (bw0 l f2) fun v=>.I (!v) (.R (([]:List U3),1)) (.K (bo9 f2 (-1)) fun v2=>.K (aJ5 l (.of (fun z_=>aF9 z_ v2.1 v2.2) 287 [aJ9 v2.1,aR1 v2.2])) fun v3=>.R (v3,0)))
def aP8 (s:List U3)(f2:Cl prog U3 Bool (fun x=>[bB6 x]) (fun r=>.t (tB r)))(i:Int)(_:Unit):M prog Int (Fl Unit Int):=
 .O (.ix an3 s i) fun x=>.K (f2.at x) fun v=>.I v (.R (.ret i)) (.R (.next ()))
def aY8 (s:List U3)(f2:Cl prog U3 Bool (fun x=>[bB6 x]) (fun r=>.t (tB r))):C prog Int:=.of Z call40 func40 [.t (tS an3 s),.fz f2.n f2.cs] (fun r=>.t (tI r)) (
 M.QN (s.length:Int) 2 8 (fun(_:Unit)=>[]) 0 (.one .rt) (aP8 s f2) () (fun _=>.R (-1)) (fun r2=>.R r2))
def S3 (s:List U3)(f2:Cl prog U3 Bool (fun x=>[bB6 x]) (fun r=>.t (tB r))):C prog Bool:=.of Z call14 func14 [.t (tS an3 s),.fz f2.n f2.cs] (fun r=>.t (tB r)) (
 .K (aY8 s f2) fun v=>.R (decide (v>=0)))
def bj5 (x:U3)(c:List T1):C prog Bool:=.of Z call220 func220 [bB6 x,.el ((dn6 ac6) c)] (fun r=>.t (tB r)) (
 .R ((decide (x.S5<0))||(decide (x.S5>=(c.length:Int)))))
def bg1 (l:List T1)(group _:Int)(x:U3)(s:Int×Int):M prog (Int×Int) (Fl (Int×Int) Empty):=
 .W (.hx 0)<| .O (.ix ac6 l x.S5) fun x2=>.I ((x2.cY7 !=group)||(decide (x2.E6<s.2))) (.R (.next (s.1,s.2))) (.I (decide (x2.E6>s.2)) (.D [] []<| .R (.next (F2 x2.ch2 x2.ch2,x2.E6))) (.R (.next (F2 s.1 x2.ch2,s.2))))
def bv9 (l:List T1)(a:List U3)(group other:Int):C prog (Int×Int):=.of Z call143 func143 [.t (tS ac6 l),.t (tS an3 a),.t (tI group),.t (tI other)] (fun r=>.Q1 [.t (tI r.1),.t (tI r.2)]) (
 .K (aJ4 l 64) fun v=>.Z (.fb 4)<| .G ((!v)||(decide ((a.length:Int)>64))) (.R true) (.K (S3 a (.of (fun z_=>bj5 z_ l) 220 [(dn6 ac6) l])) fun v2=>.R v2) fun b2=>.I b2 (.R (0,1)) (.I ((decide (group<0))||(decide (group>15))) (.R (0,2)) (M.Q an3 a 2 37 (fun(t:Int×Int)=>[.t 10 (.t (tI t.1)),.t 11 (.t (tI t.2))]) 0 (.e) (bg1 l group) (other,(-1)) (fun s2=>.R (s2.1,0)) (fun t=>t.elim))))
def as6 (n2 other:Int)(c:List T1)(c2:j8):CG prog Int:=.of Z call142 func142 [.t (tI n2),.t (tI other),.el ((dn6 ac6) c),.ptr 1000000 0] [(1000000,.box [.ptr 1000001 0]),(1000001,.box (aw1 (G6 c2) [(107,.own 1000002),(113,.own 1000003)])),(1000002,.rs 267 7 c2.E8.O0 B3),(1000003,.rs 95 3 c2.y9 u3)] (fun r=>.t (tI r)) (fun _=>[(1000000,.box [.ptr 1000001 0]),(1000001,.box (aw1 (G6 c2) [(107,.own 1000002),(113,.own 1000003)])),(1000002,.rs 267 7 c2.E8.O0 B3),(1000003,.rs 95 3 c2.y9 u3)]) [] (
 .D [] []<| .K (bv9 c c2.Z2 n2 other) fun r2=>.R r2.1)
set_option maxHeartbeats 4000000
def be5 (S4:B7)(e2:Int)(c:B7):C prog B7:=.of Z call214 func214 [aA7 S4,.t (tI e2),.el (aR1 c)] (fun r=>aA7 r) (
 .I (e2 !=0) (.R c) (.R S4))
def aT7 (s:j8)(v:(Bool×Bool×Bool×Bool×Bool×Bool×Bool))(s2:Int×B7):M prog j8 ((Int×B7)⊕((Int×B7)⊕Empty)):=
 .I (decide (s2.1<7)) (.O (.arr (fun y=>.t (tB y)) ([v.1,v.2.1,v.2.2.1,v.2.2.2.1,v.2.2.2.2.1,v.2.2.2.2.2.1,v.2.2.2.2.2.2]:List Bool) s2.1) fun x=>.O (.ix M3 s2.2.T5 s2.1) fun x2=>.Mk aJ9 x2.Frame 0 fun l=>.D [] []<| .K (D3 ({s with u:=(⟨s.u.u6,s.u.u4,s.u.j4,s.u.Q4,s.u.M7,s.u.H8,s.u.M0,s.u.I8,s.u.L6,s2.2,s.u.A8,s.u.ab0,s.u.Time⟩:ac3)}:j8) 2) fun v2=>.U (.cp aJ9 l ([s.o8,v2]:List Int)) fun l2=>.Z (.fr 23)<| .D [] []<| .K (bL8 s2.2) fun v3=>.K (aq4 s2.2 s2.1 x l2) fun r2=>.K (be5 r2.1 r2.2 v3) fun v4=>.R (.inl (j7 (s2.1+1),v4))) (.R (.inr (.inl (s2.1,s2.2))))
def bk4 (s:j8):CG prog j8:=.of Z call80 func80 [.ptr 1000000 0] [(1000000,.box (aw1 (G6 s) [(107,.own 1000001),(113,.own 1000002)])),(1000001,.rs 267 7 s.E8.O0 B3),(1000002,.rs 95 3 s.y9 u3)] (fun _=>.Q1 []) (fun r=>[(1000000,.box (aw1 (G6 r) [(107,.own 1000001),(113,.own 1000002)])),(1000001,.rs 267 7 r.E8.O0 B3),(1000002,.rs 95 3 r.y9 u3)]) [] (
 .K (bI6 s) fun v=>.L (fun(t:Int×B7)=>[.t 9 (.t (tI t.1)),.x 0,.x 7,.c 1000000 74 [.t (tS M3 t.2.T5),.t (tS G1 t.2.L),.t (tI t.2.aH5),.t (tB t.2.ay0)]]) 0 (.e) (aT7 s v) (0,s.u.F3) (fun s3=>.K (bA3) fun v5=>.D [] [(13,1000000)]<| .K (aO0 v5 s3.2) fun r3=>.Z (.fb 5)<| .D [] []<| .KG (as6 0 10000 v5 ({s with u:=(⟨s.u.u6,s.u.u4,s.u.j4,s.u.Q4,s.u.M7,s.u.H8,s.u.M0,s.u.I8,s.u.L6,s3.2,s.u.A8,s.u.ab0,s.u.Time⟩:ac3),Z2:=r3.1}:j8)) [] fun v6=>.D [] []<| .K (D3 ({s with u:=(⟨s.u.u6,s.u.u4,s.u.j4,s.u.Q4,s.u.M7,s.u.H8,s.u.M0,s.u.I8,s.u.L6,s3.2,s.u.A8,s.u.ab0,s.u.Time⟩:ac3),Z2:=r3.1,au2:=v6}:j8) 2) fun v7=>.KG (as6 1 v7 v5 ({s with u:=(⟨s.u.u6,s.u.u4,s.u.j4,s.u.Q4,s.u.M7,s.u.H8,s.u.M0,s.u.I8,s.u.L6,s3.2,s.u.A8,s.u.ab0,s.u.Time⟩:ac3),Z2:=r3.1,au2:=v6}:j8)) [] fun v8=>.K (C6 v8 50 1013) fun v9=>.D [] []<| .K (D3 ({s with u:=(⟨s.u.u6,s.u.u4,s.u.j4,s.u.Q4,s.u.M7,s.u.H8,s.u.M0,s.u.I8,s.u.L6,s3.2,s.u.A8,s.u.ab0,s.u.Time⟩:ac3),Z2:=r3.1,au2:=v6,C1:=v9}:j8) 3) fun v10=>.KG (as6 2 v10 v5 ({s with u:=(⟨s.u.u6,s.u.u4,s.u.j4,s.u.Q4,s.u.M7,s.u.H8,s.u.M0,s.u.I8,s.u.L6,s3.2,s.u.A8,s.u.ab0,s.u.Time⟩:ac3),Z2:=r3.1,au2:=v6,C1:=v9}:j8)) [] fun v11=>.K (C6 v11 (-40) 150) fun v12=>.D [] []<| .K (D3 ({s with u:=(⟨s.u.u6,s.u.u4,s.u.j4,s.u.Q4,s.u.M7,s.u.H8,s.u.M0,s.u.I8,s.u.L6,s3.2,s.u.A8,s.u.ab0,s.u.Time⟩:ac3),Z2:=r3.1,au2:=v6,C1:=v9,aQ0:=v12}:j8) 4) fun v13=>.KG (as6 3 v13 v5 ({s with u:=(⟨s.u.u6,s.u.u4,s.u.j4,s.u.Q4,s.u.M7,s.u.H8,s.u.M0,s.u.I8,s.u.L6,s3.2,s.u.A8,s.u.ab0,s.u.Time⟩:ac3),Z2:=r3.1,au2:=v6,C1:=v9,aQ0:=v12}:j8)) [] fun v14=>.K (C6 v14 (-40) 150) fun v15=>.D [] []<| .K (D3 ({s with u:=(⟨s.u.u6,s.u.u4,s.u.j4,s.u.Q4,s.u.M7,s.u.H8,s.u.M0,s.u.I8,s.u.L6,s3.2,s.u.A8,s.u.ab0,s.u.Time⟩:ac3),Z2:=r3.1,au2:=v6,C1:=v9,aQ0:=v12,D5:=v15}:j8) 5) fun v16=>.KG (as6 4 v16 v5 ({s with u:=(⟨s.u.u6,s.u.u4,s.u.j4,s.u.Q4,s.u.M7,s.u.H8,s.u.M0,s.u.I8,s.u.L6,s3.2,s.u.A8,s.u.ab0,s.u.Time⟩:ac3),Z2:=r3.1,au2:=v6,C1:=v9,aQ0:=v12,D5:=v15}:j8)) [] fun v17=>.K (C6 v17 0 20000) fun v18=>.R ({s with u:=(⟨s.u.u6,s.u.u4,s.u.j4,s.u.Q4,s.u.M7,s.u.H8,s.u.M0,s.u.I8,s.u.L6,s3.2,s.u.A8,s.u.ab0,s.u.Time⟩:ac3),Z2:=r3.1,au2:=v6,C1:=v9,aQ0:=v12,D5:=v15,aJ3:=v18}:j8)) (fun t=>t.elim))
def bi4 (s:j8):C prog j2:=.of Z call145 func145 [.el (bk6 s)] (fun r=>G7 r) (
 .R (⟨9,1,s.au2,15⟩:j2))
def ab8 (s:List j2)(f2:Cl prog j2 Bool (fun x=>[G7 x]) (fun r=>.t (tB r)))(i:Int)(_:Unit):M prog Int (Fl Unit Int):=
 .O (.ix C8 s i) fun x=>.K (f2.at x) fun v=>.I v (.R (.ret i)) (.R (.next ()))
def V1 (s:List j2)(f2:Cl prog j2 Bool (fun x=>[G7 x]) (fun r=>.t (tB r))):C prog Int:=.of Z call313 func313 [.t (tS C8 s),.fz f2.n f2.cs] (fun r=>.t (tI r)) (
 M.QN (s.length:Int) 2 8 (fun(_:Unit)=>[]) 0 (.one .rt) (ab8 s f2) () (fun _=>.R (-1)) (fun r2=>.R r2))
def D7 (s:List j2)(f2:Cl prog j2 Bool (fun x=>[G7 x]) (fun r=>.t (tB r))):C prog Bool:=.of Z call231 func231 [.t (tS C8 s),.fz f2.n f2.cs] (fun r=>.t (tB r)) (
 .K (V1 s f2) fun v=>.R (decide (v>=0)))
def P3 (t2:Int):C prog Bool:=.of Z call314 func314 [.t (tI t2)] (fun r=>.t (tB r)) (
 .R ((decide (t2>=(-5000)))&&(decide (t2<=10000))))
def S6 (r2:j2):C prog Bool:=.of Z call233 func233 [G7 r2] (fun r=>.t (tB r)) (
 .G ((((decide (r2.N3<0))||(decide (r2.N3>15)))||(decide (r2.E6<0)))||(decide (r2.E6>15))) (.R true) (.K (P3 r2.o9) fun v=>.R (!v)) fun b2=>.I b2 (.R false) (.R ((r2.Kind==1)||((decide (r2.N3<=1))&&((r2.Kind==2)||(r2.Kind==3))))))
def ah5 (r2:j2):C prog Bool:=.of Z call289 func289 [G7 r2] (fun r=>.t (tB r)) (
 .K (S6 r2) fun v=>.R (!v))
def av6 (i:W9)(B4:Int):C prog Bool:=.of Z call221 func221 [cY5 i,.t (tI B4)] (fun r=>.t (tB r)) (
 .K (J5 B4 1 8) fun v=>.I (((!v)||((i.X4.length:Int) !=B4))||(decide ((i.Requests.length:Int)>30))) (.R false) (.K (J5 i.D2 0 12000) fun v2=>.G v2 (.K (J5 i.L0 50 3000) fun v3=>.R v3) (.R false) fun b2=>.G b2 (.K (J5 i.L4 (-40) 150) fun v4=>.R v4) (.R false) fun b3=>.G b3 (.K (J5 i.av1 (-40) 150) fun v5=>.R v5) (.R false) fun b4=>.G b4 (.K (J5 i.aI3 0 20000) fun v6=>.R v6) (.R false) fun b5=>.G b5 (.K (J5 i.Lambda 0 20000) fun v7=>.R v7) (.R false) fun b6=>.G b6 (.K (af9 i.X4 0 4095) fun v8=>.R v8) (.R false) fun b7=>.G b7 (.K (D7 i.Requests (.of (fun z_=>ah5 z_) 289 [])) fun v9=>.R (!v9)) (.R false) fun b8=>.R b8))
def aj5 (n2:Int):C prog Bool:=.of Z call229 func229 [.t (tI n2)] (fun r=>.t (tB r)) (
 .R ((decide (n2>=0))&&(decide (n2<=12000))))
def ax2 (D5:Int):C prog Int:=.of Z call294 func294 [.t (tI D5)] (fun r=>.t (tI r)) (
 .I (decide (D5<=(-20))) (.R 1200) (.I (decide (D5>=70)) (.R 800) (.R (j7 (1200-(j7 (cZ1 (j7 (400*(j7 (D5+20)))) 90)))))))
def bc2 (o8 D5:Int):C prog Bool:=.of Z call230 func230 [.t (tI o8),.t (tI D5)] (fun r=>.t (tB r)) (
 .K (ax2 D5) fun v=>.R (decide (o8<(j7 (v+300)))))
def ax1 (bf8 o8 D5:Int):C prog Bool:=.of Z call149 func149 [.t (tI bf8),.t (tI o8),.t (tI D5)] (fun r=>.t (tB r)) (
 .G ((decide (bf8>=0))&&(decide (bf8<20))) (.K (aj5 o8) fun v=>.R v) (.R false) fun b2=>.G b2 (.K (bc2 o8 D5) fun v2=>.R v2) (.R false) fun b3=>.R b3)
def aM1 (p2:U7)(first second:Int):C prog (U7×Int):=.of Z call290 func290 [cg7 p2,.t (tI first),.t (tI second)] (fun r=>.Q1 [cg7 r.1,.t (tI r.2)]) (
 .K (ax8 p2) fun v=>.I (!v) (.R ((⟨0,0,false⟩:U7),1)) (.K (C6 first 0 1000) fun v2=>.K (C6 second 0 500) fun v3=>.J0 0 (fun(t:Int)=>[.c 11 1 [.t (tI t)]]) (.I (decide ((G4 (j7 (v2-(j7 (2*v3)))) (j7 ((j7 (2*v3))-v2)))>50)) (.R (F2 3 (j7 (p2.af4+1)))) (.I (!p2.aQ3) (.R 0) (.R p2.af4))) fun f2=>.I (f2==3) (.R ((⟨F2 (F2 v2 (j7 (2*v3))) 200,f2,(f2==3)⟩:U7),0)) (.I (decide ((G4 (j7 (v2-(j7 (2*v3)))) (j7 ((j7 (2*v3))-v2)))>50)) (.R ((⟨F2 (F2 v2 (j7 (2*v3))) p2.Value,f2,(f2==3)⟩:U7),0)) (.R ((⟨v2,f2,(f2==3)⟩:U7),0)))))
def u5 (s:o4)(e2:Int):CG prog o4:=.of Z call291 func291 [.ptr 1000000 0,.t (tI e2)] [(1000000,.box (aw1 (Q8 s) [(63,.own 1000001)])),(1000001,.rs 267 7 s.out.O0 B3)] (fun _=>.Q1 []) (fun r=>[(1000000,.box (aw1 (Q8 r) [(63,.own 1000001)])),(1000001,.rs 267 7 r.out.O0 B3)]) [] (
 .I (s.fail==0) (.R ({s with fail:=e2}:o4)) (.R s))
def ab9 (f2:Cl prog Int Bool (fun x=>[.t (tI x)]) (fun r=>.t (tB r)))(s:Int×Int):M prog Int ((Int×Int)⊕((Int×Int)⊕Empty)):=
 .I (decide (s.1<s.2)) (.K (f2.at (j7 (F5 .u64 (aX8.wrap (j7 (s.1+s.2))) 1))) fun v=>.I (!v) (.R (.inl (j7 ((j7 (F5 .u64 (aX8.wrap (j7 (s.1+s.2))) 1))+1),s.2))) (.R (.inl (s.1,j7 (F5 .u64 (aX8.wrap (j7 (s.1+s.2))) 1))))) (.R (.inr (.inl (s.1,s.2))))
def Q0 (n2:Int)(f2:Cl prog Int Bool (fun x=>[.t (tI x)]) (fun r=>.t (tB r))):C prog Int:=.of Z call343 func343 [.t (tI n2),.fz f2.n f2.cs] (fun r=>.t (tI r)) (
 .L (fun(t:Int×Int)=>[.t 5 (.t (tI t.1)),.t 6 (.t (tI t.2))]) 0 (.e) (ab9 f2) (0,n2) (fun s2=>.R s2.1) (fun t=>t.elim))
def ae8 (i:Int)(c:List Int)(c2:Int):C prog Bool:=.of Z call413 func413 [.t (tI i),.el ((dn6 aJ9) c),.el (aJ9 c2)] (fun r=>.t (tB r)) (
 .D [] []<| .O (.ix aJ9 c i) fun x=>.R (decide (x>c2)))
def X2 (l:List Int)(x:Int):C prog (Int×Int):=.of Z call391 func391 [.t (tS aJ9 l),.t (tI x)] (fun r=>.Q1 [.t (tI r.1),.t (tI r.2)]) (
 .D [] []<| .O (.ix aJ9 l 0) fun x2=>.O (.ix aJ9 l (j7 ((l.length:Int)-1))) fun x3=>.K (C6 x x2 x3) fun v=>.Z (.fb 2)<| .Z (.fb 3)<| .K (Q0 (l.length:Int) (.of (fun z_=>ae8 z_ l v) 413 [(dn6 aJ9) l,aJ9 v])) fun v2=>.D [] []<| .R (F2 (j7 (v2-1)) (j7 ((l.length:Int)-2)),v))
def at3 (x y:Int):C prog (Int×Int):=⟨279,[.t (tK .u64 x),.t (tK .u64 y)],cv1 x y,fun _=>cv1 x y,fun r=>.Q1 [.t (tK .u64 r.1),.t (tK .u64 r.2)],bm9 x y,fun _ _ h=>h⟩
def V3 (n2:Int):C prog Int:=.of Z call395 func395 [.t (tI n2)] (fun r=>.t (tK .u64 r)) (
 .I (decide (n2<0)) (.R (aX8.wrap ((aX8.wrap (j7 (0-(j7 (n2+1)))))+1))) (.R (aX8.wrap n2)))
def bZ2:Go.Shelf.Ren:=⟨fun|129=>433|n=>n,fun|3=>3|4=>4|5=>5|9=>9|46=>317|53=>386|n=>n,fun|n=>n⟩
open Go.Shelf in
theorem dX5:Lays.n129 prog bZ2:={
 mixed:=by kernel_rfl,
 f129:=func433.trans (congrArg some (by kernel_rfl)),
 t3:=Tryz.underlying3,
 a3:=Tryz.isAgg3,
 z3:=Tryz.sizeOf3,
 v3:=Tryz.zeroValue3,
 t4:=Tryz.underlying4,
 a4:=Tryz.isAgg4,
 z4:=Tryz.sizeOf4,
 v4:=Tryz.zeroValue4,
 t5:=Tryz.underlying5,
 a5:=Tryz.isAgg5,
 z5:=Tryz.sizeOf5,
 v5:=Tryz.zeroValue5,
 t9:=Tryz.underlying9,
 a9:=Tryz.isAgg9,
 z9:=Tryz.sizeOf9,
 v9:=Tryz.zeroValue9,
 t46:=Tryz.underlying317,
 a46:=Tryz.isAgg317,
 z46:=Tryz.sizeOf317,
 v46:=Tryz.zeroValue317,
 t53:=Tryz.underlying386,
 a53:=Tryz.isAgg386,
 z53:=Tryz.sizeOf386,
 v53:=Tryz.zeroValue386}
theorem bY3 (x:Int):aQ5 prog 433 [.t (tK .u64 x)] (cu9 x) (fun r=>.t (tI r)):=
 dX6 (ρ:=bZ2) dX5 call433 x
def aN8 (x:Int):C prog Int:=⟨433,[.t (tK .u64 x)],cu9 x,fun _=>cu9 x,fun r=>.t (tI r),bY3 x,fun _ _ h=>h⟩
def W3 (x:Int):C prog Int:=.of Z call415 func415 [.t (tK .u64 x)] (fun r=>.t (tI r)) (
 .K (aN8 x) fun v=>.R (j7 (64-v)))
def aD2 (q3 q6:Int)(s3:Int×Int):M prog (Int×Int) ((Int×Int)⊕((Int×Int)⊕Empty)):=
 .I ((decide (s3.1>=4294967296))||(decide ((aX8.wrap (s3.1*(T2 .u64 q3 4294967295)))>(aX8.wrap ((aX8.wrap (4294967296*s3.2))+(F5 .u64 q6 32)))))) (.I (decide ((aX8.wrap (s3.2+(F5 .u64 q3 32)))>=4294967296)) (.R (.inr (.inl (aX8.wrap (s3.1-1),aX8.wrap (s3.2+(F5 .u64 q3 32)))))) (.R (.inl (aX8.wrap (s3.1-1),aX8.wrap (s3.2+(F5 .u64 q3 32)))))) (.R (.inr (.inl (s3.1,s3.2))))
def aD3 (q3 q6:Int)(s5:Int×Int):M prog (Int×Int) ((Int×Int)⊕((Int×Int)⊕Empty)):=
 .I ((decide (s5.2>=4294967296))||(decide ((aX8.wrap (s5.2*(T2 .u64 q3 4294967295)))>(aX8.wrap ((aX8.wrap (4294967296*s5.1))+(T2 .u64 q6 4294967295)))))) (.I (decide ((aX8.wrap (s5.1+(F5 .u64 q3 32)))>=4294967296)) (.R (.inr (.inl (aX8.wrap (s5.1+(F5 .u64 q3 32)),aX8.wrap (s5.2-1))))) (.R (.inl (aX8.wrap (s5.1+(F5 .u64 q3 32)),aX8.wrap (s5.2-1))))) (.R (.inr (.inl (s5.1,s5.2))))
def al6 (hi lo y:Int):C prog (Int×Int):=.of Z call396 func396 [.t (tK .u64 hi),.t (tK .u64 lo),.t (tK .u64 y)] (fun r=>.Q1 [.t (tK .u64 r.1),.t (tK .u64 r.2)]) (
 .J0 0 (fun(_:Unit)=>[]) (.I (y==0) (M.N) (.R ())) fun _=>.J0 0 (fun(_:Unit)=>[]) (.I (decide (y<=hi)) (M.N) (.R ())) fun _=>.I (hi==0) (.D [] []<| .O (.quo .u64 lo y) fun q=>.O (.rem lo y) fun q2=>.R (q,q2)) (.K (W3 y) fun v=>.O (.shl .u64 y (aX8.wrap v)) fun q3=>.O (.shl .u64 hi (aX8.wrap v)) fun q4=>.O (.shr .u64 lo (aX8.wrap (64-(aX8.wrap v)))) fun q5=>.O (.shl .u64 lo (aX8.wrap v)) fun q6=>.O (.quo .u64 (R6 .u64 q4 q5) (F5 .u64 q3 32)) fun q7=>.L (fun(t:Int×Int)=>[.t 15 (.t (tK .u64 t.1)),.t 16 (.t (tK .u64 t.2))]) 0 (.e) (aD2 q3 q6) (q7,aX8.wrap ((R6 .u64 q4 q5)-(aX8.wrap (q7*(F5 .u64 q3 32))))) (fun s4=>.O (.quo .u64 (aX8.wrap ((aX8.wrap ((aX8.wrap ((R6 .u64 q4 q5)*4294967296))+(F5 .u64 q6 32)))-(aX8.wrap (s4.1*q3)))) (F5 .u64 q3 32)) fun q8=>.L (fun(t:Int×Int)=>[.t 16 (.t (tK .u64 t.1)),.t 18 (.t (tK .u64 t.2))]) 2 (.e) (aD3 q3 q6) (aX8.wrap ((aX8.wrap ((aX8.wrap ((aX8.wrap ((R6 .u64 q4 q5)*4294967296))+(F5 .u64 q6 32)))-(aX8.wrap (s4.1*q3))))-(aX8.wrap (q8*(F5 .u64 q3 32)))),q8) (fun s6=>.O (.shr .u64 (aX8.wrap ((aX8.wrap ((aX8.wrap ((aX8.wrap ((aX8.wrap ((aX8.wrap ((R6 .u64 q4 q5)*4294967296))+(F5 .u64 q6 32)))-(aX8.wrap (s4.1*q3))))*4294967296))+(T2 .u64 q6 4294967295)))-(aX8.wrap (s6.2*q3)))) (aX8.wrap v)) fun q9=>.R (aX8.wrap ((aX8.wrap (s4.1*4294967296))+s6.2),q9)) (fun t=>t.elim)) (fun t=>t.elim)))
def ak4 (r2 c:Int)(negative:Bool)(mode:Int):C prog Bool:=.of Z call397 func397 [.t (tK .u64 r2),.t (tK .u64 c),.t (tB negative),.t (tI mode)] (fun r=>.t (tB r)) (
 .I (mode==1) (.R (negative&&(decide (r2>0)))) (.I (mode==2) (.R ((!negative)&&(decide (r2>0)))) (.I negative (.R (decide (r2>(aX8.wrap (c-r2))))) (.R (decide (r2>=(aX8.wrap (c-r2))))))))
def az2 (a b2 c mode:Int):C prog (Int×Int):=.of Z call367 func367 [.t (tI a),.t (tI b2),.t (tI c),.t (tI mode)] (fun r=>.Q1 [.t (tI r.1),.t (tI r.2)]) (
 .I ((decide (mode<1))||(decide (mode>3))) (.R (0,1)) (.I (c==0) (.R (0,10)) (.K (V3 a) fun v=>.K (V3 b2) fun v2=>.K (at3 v v2) fun r2=>.K (V3 c) fun v3=>.I (decide (r2.1>=v3)) (.R (0,9)) (.K (al6 r2.1 r2.2 v3) fun r3=>.I (decide (r3.1>9223372036854775808)) (.R (0,9)) (.K (ak4 r3.2 v3 (!((!((decide (a<0))==(decide (b2<0))))==(decide (c<0)))) mode) fun v4=>.J0 0 (fun(t:Int)=>[.t 14 (.t (tK .u64 t))]) (.I v4 (.R (aX8.wrap (r3.1+1))) (.R r3.1)) fun q=>.I ((!((!((decide (a<0))==(decide (b2<0))))==(decide (c<0))))&&(decide (q<=9223372036854775808))) (.R (j7 ((j7 (0-(j7 (aX8.wrap (q-1)))))-1),0)) (.I ((!(!((!((decide (a<0))==(decide (b2<0))))==(decide (c<0)))))&&(decide (q<9223372036854775808))) (.R (j7 q,0)) (.R (0,9))))))))
def am8 (a b2 mode:Int):C prog (Int×Int):=.of Z call324 func324 [.t (tI a),.t (tI b2),.t (tI mode)] (fun r=>.Q1 [.t (tI r.1),.t (tI r.2)]) (
 .K (az2 a 1 b2 mode) fun r2=>.R (r2.1,r2.2))
def V8 (a b2:Int):C prog Int:=.of Z call261 func261 [.t (tI a),.t (tI b2)] (fun r=>.t (tI r)) (
 .K (am8 a b2 1) fun r2=>.R r2.1)
def ac0 (x0 x1 y0 y1 x:Int):C prog Int:=.of Z call393 func393 [.t (tI x0),.t (tI x1),.t (tI y0),.t (tI y1),.t (tI x)] (fun r=>.t (tI r)) (
 .K (V8 (j7 ((j7 (x-x0))*(j7 (y1-y0)))) (j7 (x1-x0))) fun v=>.R (j7 (y0+v)))
def ar7 (j:Int)(c:SMap)(c2 c3:Int):C prog Int:=.of Z call392 func392 [.t (tI j),.el (cN4 c),.el (aJ9 c2),.el (aJ9 c3)] (fun r=>.t (tI r)) (
 .D [] []<| .O (.ix aJ9 c.X c2) fun x=>.O (.ix aJ9 c.X (j7 (c2+1))) fun x2=>.O (.ix (dn6 aJ9) c.Z c2) fun x3=>.O (.ix aJ9 x3 j) fun x4=>.O (.ix (dn6 aJ9) c.Z (j7 (c2+1))) fun x5=>.O (.ix aJ9 x5 j) fun x6=>.K (ac0 x x2 x4 x6 c3) fun v=>.R v)
def aM8 (m2:SMap)(x y:Int):C prog Int:=.of Z call365 func365 [dg8 m2,.t (tI x),.t (tI y)] (fun r=>.t (tI r)) (
 .K (X2 m2.X x) fun r2=>.K (X2 m2.Y y) fun r3=>.Z (.fb 3)<| .Z (.fb 7)<| .Z (.fb 4)<| .D [] []<| .O (.ix aJ9 m2.Y r3.1) fun x2=>.O (.ix aJ9 m2.Y (j7 (r3.1+1))) fun x3=>.K (ar7 r3.1 m2 r2.1 r2.2) fun v=>.K (ar7 (j7 (r3.1+1)) m2 r2.1 r2.2) fun v2=>.K (ac0 x2 x3 v v2 r3.2) fun v3=>.R v3)
def Y2 (m2:SMap)(x y:Int):C prog Int:=.of Z call316 func316 [dg8 m2,.t (tI x),.t (tI y)] (fun r=>.t (tI r)) (
 .K (J4 m2) fun v=>.I (!v) (.R 0) (.K (aM8 m2 x y) fun v2=>.R v2))
def aM2 (t2:o7)(value o8:Int):C prog (Int×Int):=.of Z call292 func292 [T0 t2,.t (tI value),.t (tI o8)] (fun r=>.Q1 [.t (tI r.1),.t (tI r.2)]) (
 .K (J4 t2.aH9) fun v=>.I (!v) (.R (0,1)) (.I ((((decide (value<0))||(decide (value>1000)))||(decide (o8<0)))||(decide (o8>12000))) (.R (0,2)) (.K (Y2 t2.aH9 o8 value) fun v2=>.K (C6 v2 (-5000) 10000) fun v3=>.R (v3,0))))
def aq5 (s:F7)(g:aV4)(e2:Int):C prog (F7×Int×Int):=.of Z call340 func340 [bx6 s,dg7 g,.t (tI e2)] (fun r=>.Q1 [bx6 r.1,.t (tI r.2.1),.t (tI r.2.2)]) (
 .K (Q5 g) fun v=>.I (((!v)||(decide (s.Sum<(-4398046511104))))||(decide (s.Sum>4398046511104))) (.R ((⟨0⟩:F7),0,1)) (.I ((decide (e2<(-1048576)))||(decide (e2>1048576))) (.R ((⟨0⟩:F7),0,2)) (.J0 0 (fun(t:Int)=>[.x 33,.x 37,.x 42,.b 3 (.box [.t (tI t)])]) (.I (((decide ((F5 .i64 (j7 ((j7 (g.P*e2))+s.Sum)) 10)<=g.bs4))||(decide (e2<=0)))&&((decide ((F5 .i64 (j7 ((j7 (g.P*e2))+s.Sum)) 10)>=g.Low))||(decide (e2>=0)))) (.K (C6 (j7 (s.Sum+(j7 (g.I*e2)))) (-4398046511104) 4398046511104) fun v2=>.R v2) (.R s.Sum)) fun f2=>.D [] []<| .K (C6 (F5 .i64 (j7 ((j7 (g.P*e2))+s.Sum)) 10) g.Low g.bs4) fun v3=>.R ((⟨f2⟩:F7),v3,0))))
def aE5 (s:F7)(g:aV4)(target o8:Int):C prog (F7×Int×Int):=.of Z call293 func293 [bx6 s,dg7 g,.t (tI target),.t (tI o8)] (fun r=>.Q1 [bx6 r.1,.t (tI r.2.1),.t (tI r.2.2)]) (
 .K (Q5 g) fun v=>.I (!v) (.R ((⟨0⟩:F7),0,1)) (.K (aj5 target) fun v2=>.G (!v2) (.R true) (.K (aj5 o8) fun v3=>.R (!v3)) fun b2=>.I b2 (.R ((⟨0⟩:F7),0,2)) (.K (aq5 s g (j7 (target-o8))) fun r2=>.R (r2.1,r2.2.1,r2.2.2))))
def ah4 (r2:j2):C prog Bool:=.of Z call379 func379 [G7 r2] (fun r=>.t (tB r)) (
 .K (S6 r2) fun v=>.R (!v))
def av5 (l:List j2)(low high:Int):C prog Int:=.of Z call341 func341 [.t (tS C8 l),.t (tI low),.t (tI high)] (fun r=>.t (tI r)) (
 .K (D7 l (.of (fun z_=>ah4 z_) 379 [])) fun v=>.I v (.R 1) (.I (decide ((l.length:Int)>32)) (.R 5) (.K (P3 low) fun v2=>.G (!v2) (.R true) (.K (P3 high) fun v3=>.R (!v3)) fun b2=>.I (b2||(decide (low>high))) (.R 2) (.R 0))))
def W8 (s:List j2):CG prog (List j2):=.of Z call380 func380 [.t (tS C8 s)] [] (fun _=>.own 900000) (fun r=>[(900000,.rs 250 4 r C8)]) [900000] (
 .Nl C8 s (.I true (.Z (.np 2 70000 250 4 [])<| .R ([]:List j2)) .N) (fun s=>.I false .N (.U (.ap C8 ([]:List j2) s 5) fun l=>.R l)))
def P9 (a:Int)(cmp:Cl prog (j2×j2) Int (fun x=>[G7 x.1,G7 x.2]) (fun r=>.t (tI r)))(s2:Int×List j2):M prog (List j2) ((Int×List j2)⊕((Int×List j2)⊕Empty)):=
 .J0 1 (fun(t:Bool)=>[.t 34 (.t (tB t))]) (.D [] []<| .Sp (decide (s2.1>a)) (.O (.ix C8 s2.2 s2.1) fun x=>.W (.ly 0)<| .O (.ix C8 s2.2 (j7 (s2.1-1))) fun x2=>.W (.ly 0)<| .K (cmp.at (x,x2)) fun v=>.R (decide (v<0))) (.R false)) fun v2=>.I v2 (.D [] [(15,1000000)]<| .O (.ix C8 s2.2 (j7 (s2.1-1))) fun x3=>.W (.ly 0)<| .O (.ix C8 s2.2 s2.1) fun x4=>.W (.ly 0)<| .W (.hx 0)<| .U (.st C8 s2.2 s2.1 x3 0) fun l=>.O (.ix C8 l (j7 (s2.1-1))) fun _=>.U (.st C8 l (j7 (s2.1-1)) x4 0) fun l2=>.R (.inl (j7 (s2.1-1),l2))) (.R (.inr (.inl (s2.1,s2.2))))
def P8 (a b2:Int)(cmp:Cl prog (j2×j2) Int (fun x=>[G7 x.1,G7 x.2]) (fun r=>.t (tI r)))(s:Int×List j2):M prog (List j2) ((Int×List j2)⊕((Int×List j2)⊕Empty)):=
 .I (decide (s.1<b2)) (.L (fun(t:Int×List j2)=>[.t 9 (.t (tI t.1)),.b 1000000 (.rs 250 4 t.2 C8)]) 2 (.e) (P9 a cmp) (s.1,s.2) (fun s3=>.R (.inl (j7 (s.1+1),s3.2))) (fun t=>t.elim)) (.R (.inr (.inl (s.1,s.2))))
def F4 (data:List j2)(a b2:Int)(cmp:Cl prog (j2×j2) Int (fun x=>[G7 x.1,G7 x.2]) (fun r=>.t (tI r))):CG prog (List j2):=.of Z call434 func434 [.own 1000000,.t (tI a),.t (tI b2),.fz cmp.n cmp.cs] [(1000000,.rs 250 4 data C8)] (fun _=>.Q1 []) (fun r=>[(1000000,.rs 250 4 r C8)]) [] (
 .L (fun(t:Int×List j2)=>[.t 8 (.t (tI t.1)),.b 1000000 (.rs 250 4 t.2 C8)]) 0 (.e) (P8 a b2 cmp) (j7 (a+1),data) (fun s4=>.R s4.2) (fun t=>t.elim))
def O3 (data:List j2)(a m2 b2:Int)(cmp:Cl prog (j2×j2) Int (fun x=>[G7 x.1,G7 x.2]) (fun r=>.t (tI r))):CG prog (List j2):=⟨435,[.own 1000000,.t (tI a),.t (tI m2),.t (tI b2),.fz cmp.n cmp.cs],[(1000000,.rs 250 4 data C8)],none,fun _=>none,(fun _=>.Q1 []),(fun r=>[(1000000,.rs 250 4 r C8)]),[],⟨call435,fun _ h=>by cases h⟩,fun _ _ h=>by cases h⟩
def R7 (n2:Int)(cmp:Cl prog (j2×j2) Int (fun x=>[G7 x.1,G7 x.2]) (fun r=>.t (tI r)))(s:Int×Int×List j2):M prog (List j2) ((Int×Int×List j2)⊕((Int×Int×List j2)⊕Empty)):=
 .I (decide (s.2.1<=n2)) (.KG (F4 s.2.2 s.1 s.2.1 cmp) [] fun v=>.R (.inl (s.2.1,j7 (s.2.1+20),v))) (.R (.inr (.inl (s.1,s.2.1,s.2.2))))
def W7 (n2:Int)(cmp:Cl prog (j2×j2) Int (fun x=>[G7 x.1,G7 x.2]) (fun r=>.t (tI r)))(s3:Int×List j2)(s4:Int×Int×List j2):M prog (List j2) ((Int×Int×List j2)⊕((Int×Int×List j2)⊕Empty)):=
 .I (decide (s4.2.1<=n2)) (.KG (O3 s4.2.2 s4.1 (j7 (s4.1+s3.1)) s4.2.1 cmp) [] fun v3=>.R (.inl (s4.2.1,j7 (s4.2.1+(j7 (2*s3.1))),v3))) (.R (.inr (.inl (s4.1,s4.2.1,s4.2.2))))
def R8 (n2:Int)(cmp:Cl prog (j2×j2) Int (fun x=>[G7 x.1,G7 x.2]) (fun r=>.t (tI r)))(s3:Int×List j2):M prog (List j2) ((Int×List j2)⊕((Int×List j2)⊕Empty)):=
 .I (decide (s3.1<n2)) (.L (fun(t:Int×Int×List j2)=>[.t 7 (.t (tI t.1)),.t 8 (.t (tI t.2.1)),.b 1000000 (.rs 250 4 t.2.2 C8)]) 4 (.e) (W7 n2 cmp s3) (0,j7 (2*s3.1),s3.2) (fun s5=>.I (decide ((j7 (s5.1+s3.1))<n2)) (.KG (O3 s5.2.2 s5.1 (j7 (s5.1+s3.1)) n2 cmp) [] fun v4=>.R (.inl (j7 (s3.1*2),v4))) (.R (.inl (j7 (s3.1*2),s5.2.2)))) (fun t=>t.elim)) (.R (.inr (.inl (s3.1,s3.2))))
def N1 (data:List j2)(n2:Int)(cmp:Cl prog (j2×j2) Int (fun x=>[G7 x.1,G7 x.2]) (fun r=>.t (tI r))):CG prog (List j2):=.of Z call406 func406 [.own 1000000,.t (tI n2),.fz cmp.n cmp.cs] [(1000000,.rs 250 4 data C8)] (fun _=>.Q1 []) (fun r=>[(1000000,.rs 250 4 r C8)]) [] (
 .L (fun(t:Int×Int×List j2)=>[.t 7 (.t (tI t.1)),.t 8 (.t (tI t.2.1)),.b 1000000 (.rs 250 4 t.2.2 C8)]) 0 (.e) (R7 n2 cmp) (0,20,data) (fun s2=>.KG (F4 s2.2.2 s2.1 n2 cmp) [] fun v2=>.L (fun(t:Int×List j2)=>[.t 6 (.t (tI t.1)),.x 23,.b 1000000 (.rs 250 4 t.2 C8)]) 2 (.e) (R8 n2 cmp) (20,v2) (fun s6=>.R s6.2) (fun t=>t.elim)) (fun t=>t.elim))
def J6 (x:List j2)(cmp:Cl prog (j2×j2) Int (fun x=>[G7 x.1,G7 x.2]) (fun r=>.t (tI r))):CG prog (List j2):=.of Z call381 func381 [.own 1000000,.fz cmp.n cmp.cs] [(1000000,.rs 250 4 x C8)] (fun _=>.Q1 []) (fun r=>[(1000000,.rs 250 4 r C8)]) [] (
 .KG (N1 x (x.length:Int) cmp) [] fun v=>.R v)
def O2 (a b2:j2):C prog Int:=.of Z call382 func382 [G7 a,G7 b2] (fun r=>.t (tI r)) (
 .R (j7 (b2.E6-a.E6)))
def ad4 (s:u0)(t2:Int):CG prog u0:=.of Z call407 func407 [.ptr 1000000 0,.t (tI t2)] [(1000000,.box [.t (tI s.low),.t (tI s.high),.t (tI s.source)])] (fun _=>.Q1 []) (fun r=>[(1000000,.box [.t (tI r.low),.t (tI r.high),.t (tI r.source)])]) [] (
 .D [] []<| .R (⟨s.low,G4 s.low (F2 s.high t2),s.source⟩:u0))
def Z4 (s:u0)(t2:Int):CG prog u0:=.of Z call408 func408 [.ptr 1000000 0,.t (tI t2)] [(1000000,.box [.t (tI s.low),.t (tI s.high),.t (tI s.source)])] (fun _=>.Q1 []) (fun r=>[(1000000,.box [.t (tI r.low),.t (tI r.high),.t (tI r.source)])]) [] (
 .D [] []<| .R ({s with low:=F2 s.high (G4 s.low t2)}:u0))
def Z5 (s:u0)(t2:Int):CG prog u0:=.of Z call409 func409 [.ptr 1000000 0,.t (tI t2)] [(1000000,.box [.t (tI s.low),.t (tI s.high),.t (tI s.source)])] (fun _=>.Q1 []) (fun r=>[(1000000,.box [.t (tI r.low),.t (tI r.high),.t (tI r.source)])]) [] (
 .D [] []<| .K (C6 t2 s.low s.high) fun v=>.R (⟨v,v,s.source⟩:u0))
def X0 (s:u0)(r2:j2):CG prog (Bool×u0):=.of Z call383 func383 [.ptr 1000000 0,G7 r2] [(1000000,.box [.t (tI s.low),.t (tI s.high),.t (tI s.source)])] (fun r=>.t (tB r.1)) (fun r=>[(1000000,.box [.t (tI r.2.low),.t (tI r.2.high),.t (tI r.2.source)])]) [] (
 .J0 0 (fun(t:u0)=>[.x 6,.x 7,.x 9,.b 1000000 (.box [.t (tI t.low),.t (tI t.high),.t (tI t.source)])]) (.I (r2.Kind==1) (.KG (ad4 s r2.o9) [] fun v=>.R v) (.I (r2.Kind==2) (.KG (Z4 s r2.o9) [] fun v2=>.R v2) (.I (r2.Kind==3) (.KG (Z5 s r2.o9) [] fun v3=>.R v3) (.R s)))) fun f2=>.D [] []<| .J0 0 (fun(t:Int)=>[.x 3,.x 29,.x 30,.x 31,.x 33,.c 1000000 2 [.t (tI t)],.d 3]) (.I (f2.low !=s.low) (.R r2.N3) (.R f2.source)) fun f3=>.J0 1 (fun(t:Bool)=>[.t 4 (.t (tB t)),.x 0,.x 5,.d 5]) (.D [] []<| .Sp (f2.low !=s.low) (.R true) (.R (f2.high !=s.high))) fun v4=>.R (v4,(⟨f2.low,f2.high,f3⟩:u0)))
def co5:Go.Shelf.Ren:=⟨fun|125=>405|128=>432|129=>433|189=>384|215=>280|216=>189|257=>410|294=>436|295=>437|296=>438|297=>439|298=>440|299=>441|300=>442|301=>443|328=>453|329=>448|330=>449|331=>454|332=>455|343=>467|n=>n,fun|0=>0|3=>3|4=>4|5=>5|9=>9|28=>22|46=>317|51=>383|53=>386|131=>234|182=>487|183=>488|218=>503|222=>507|228=>516|229=>338|n=>n,fun|n=>n⟩
open Go.Shelf in
theorem et6:Lays.n189 prog co5:={
 mixed:=by kernel_rfl,
 f125:=func405.trans (congrArg some (by kernel_rfl)),
 f128:=func432.trans (congrArg some (by kernel_rfl)),
 f129:=func433.trans (congrArg some (by kernel_rfl)),
 f189:=func384.trans (congrArg some (by kernel_rfl)),
 f215:=func280.trans (congrArg some (by kernel_rfl)),
 f216:=func189.trans (congrArg some (by kernel_rfl)),
 f257:=func410.trans (congrArg some (by kernel_rfl)),
 f294:=func436.trans (congrArg some (by kernel_rfl)),
 f295:=func437.trans (congrArg some (by kernel_rfl)),
 f296:=func438.trans (congrArg some (by kernel_rfl)),
 f297:=func439.trans (congrArg some (by kernel_rfl)),
 f298:=func440.trans (congrArg some (by kernel_rfl)),
 f299:=func441.trans (congrArg some (by kernel_rfl)),
 f300:=func442.trans (congrArg some (by kernel_rfl)),
 f301:=func443.trans (congrArg some (by kernel_rfl)),
 f328:=func453.trans (congrArg some (by kernel_rfl)),
 f329:=func448.trans (congrArg some (by kernel_rfl)),
 f330:=func449.trans (congrArg some (by kernel_rfl)),
 f331:=func454.trans (congrArg some (by kernel_rfl)),
 f332:=func455.trans (congrArg some (by kernel_rfl)),
 f343:=func467.trans (congrArg some (by kernel_rfl)),
 t0:=Tryz.underlying0,
 a0:=Tryz.isAgg0,
 z0:=Tryz.sizeOf0,
 v0:=Tryz.zeroValue0,
 t3:=Tryz.underlying3,
 a3:=Tryz.isAgg3,
 z3:=Tryz.sizeOf3,
 v3:=Tryz.zeroValue3,
 t4:=Tryz.underlying4,
 a4:=Tryz.isAgg4,
 z4:=Tryz.sizeOf4,
 v4:=Tryz.zeroValue4,
 t5:=Tryz.underlying5,
 a5:=Tryz.isAgg5,
 z5:=Tryz.sizeOf5,
 v5:=Tryz.zeroValue5,
 t9:=Tryz.underlying9,
 a9:=Tryz.isAgg9,
 z9:=Tryz.sizeOf9,
 v9:=Tryz.zeroValue9,
 t28:=Tryz.underlying22,
 a28:=Tryz.isAgg22,
 z28:=Tryz.sizeOf22,
 v28:=Tryz.zeroValue22,
 t46:=Tryz.underlying317,
 a46:=Tryz.isAgg317,
 z46:=Tryz.sizeOf317,
 v46:=Tryz.zeroValue317,
 t51:=Tryz.underlying383,
 a51:=Tryz.isAgg383,
 z51:=Tryz.sizeOf383,
 v51:=Tryz.zeroValue383,
 t53:=Tryz.underlying386,
 a53:=Tryz.isAgg386,
 z53:=Tryz.sizeOf386,
 v53:=Tryz.zeroValue386,
 t131:=Tryz.underlying234,
 a131:=Tryz.isAgg234,
 z131:=Tryz.sizeOf234,
 v131:=Tryz.zeroValue234,
 t182:=Tryz.underlying487,
 a182:=Tryz.isAgg487,
 z182:=Tryz.sizeOf487,
 v182:=Tryz.zeroValue487,
 t183:=Tryz.underlying488,
 a183:=Tryz.isAgg488,
 z183:=Tryz.sizeOf488,
 v183:=Tryz.zeroValue488,
 t218:=Tryz.underlying503,
 a218:=Tryz.isAgg503,
 z218:=Tryz.sizeOf503,
 v218:=Tryz.zeroValue503,
 t222:=Tryz.underlying507,
 a222:=Tryz.isAgg507,
 z222:=Tryz.sizeOf507,
 v222:=Tryz.zeroValue507,
 t228:=Tryz.underlying516,
 a228:=Tryz.isAgg516,
 z228:=Tryz.sizeOf516,
 v228:=Tryz.zeroValue516,
 t229:=Tryz.underlying338,
 a229:=Tryz.isAgg338,
 z229:=Tryz.sizeOf338,
 v229:=Tryz.zeroValue338}
theorem bU4 (s:List Int):bh2 prog 384 [.own 1000000] [(1000000,.rows 3 1 s.length (s.map aJ9))] (bT5 s) (fun _=>.Q1 []) (fun r=>[(1000000,.rows 3 1 r.length (r.map aJ9))]):=
 dn3 (ρ:=co5) et6 call384 s
def aB6 (s:List Int):CG prog (List Int):=⟨384,[.own 1000000],[(1000000,.rows 3 1 s.length (s.map aJ9))],bT5 s,fun _=>dJ7 s,fun _=>.Q1 [],fun r=>[(1000000,.rows 3 1 r.length (r.map aJ9))],[],bU4 s,fun _ r h=>eb3 h⟩
def ck5:Go.Shelf.Ren:=⟨fun|20=>385|n=>n,fun|0=>0|3=>3|4=>4|22=>22|n=>n,fun|n=>n⟩
open Go.Shelf in
theorem ei8:Lays2.n20 prog ck5:={
 mixed:=by kernel_rfl,
 f20:=func385.trans (congrArg some (by kernel_rfl)),
 t0:=Tryz.underlying0,
 a0:=Tryz.isAgg0,
 z0:=Tryz.sizeOf0,
 v0:=Tryz.zeroValue0,
 t3:=Tryz.underlying3,
 a3:=Tryz.isAgg3,
 z3:=Tryz.sizeOf3,
 v3:=Tryz.zeroValue3,
 t4:=Tryz.underlying4,
 a4:=Tryz.isAgg4,
 z4:=Tryz.sizeOf4,
 v4:=Tryz.zeroValue4,
 t22:=Tryz.underlying22,
 a22:=Tryz.isAgg22,
 z22:=Tryz.sizeOf22,
 v22:=Tryz.zeroValue22,
 i3:=by kernel_rfl}
theorem bF4 (s:List Int):bh2 prog 385 [.own 1000000] [(1000000,.rows 3 1 s.length (s.map aJ9))] (bm2 s) (fun _=>.own 900000) (fun r=>[(900000,.rows 3 1 r.length (r.map aJ9))]):=
 cE6 (ρ:=ck5) ei8 call385 s
def as2 (s:List Int):CG prog (List Int):=⟨385,[.own 1000000],[(1000000,.rows 3 1 s.length (s.map aJ9))],bm2 s,fun _=>bm2 s,fun _=>.own 900000,fun r=>[(900000,.rows 3 1 r.length (r.map aJ9))],[900000],bF4 s,fun _ r h=>h⟩
def aj3 (_:Int)(x:j2)(s:List Int×u0):M prog (u0×List Int) (Fl (List Int×u0) Empty):=
 .W (.hx 0)<| .W (.ly 0)<| .KG (X0 s.2 x) [] fun r2=>.I r2.1 (.U (.ap aJ9 s.1 ([x.N3]:List Int) 2248) fun l2=>.R (.next (l2,r2.2))) (.R (.next (s.1,r2.2)))
def ap7 (l:List j2)(low high:Int):C prog (u0×List Int):=.of Z call342 func342 [.t (tS C8 l),.t (tI low),.t (tI high)] (fun r=>.Q1 [cC3 r.1,.t (tS aJ9 r.2)]) (
 .KG (W8 l) [2104] fun v=>.KG (J6 v (.of (fun z_=>O2 z_.1 z_.2) 382 [])) [] fun v2=>.Z (.np 9 2248 3 1 [])<|M.Q C8 v2 2 21 (fun(t:List Int×u0)=>[.t 9 (.own 2248),.x 0,.x 13,.x 14,.b 8 (.box [.t (tI t.2.low),.t (tI t.2.high),.t (tI t.2.source)]),.b 2248 (.rs 3 1 t.1 aJ9)]) 0 (.e) (aj3) (([]:List Int),(⟨low,high,(-1)⟩:u0)) (fun s2=>.KG (aB6 s2.1) [] fun v3=>.Pn 2248<| .D [] [(2,2248)]<| .KG (as2 v3) [2248] fun v4=>.R (s2.2,v4)) (fun t=>t.elim))
def ap6 (g:aa2)(l:List j2)(low high up down:Int):C prog (aa2×Int):=.of Z call295 func295 [do4 g,.t (tS C8 l),.t (tI low),.t (tI high),.t (tI up),.t (tI down)] (fun r=>.Q1 [do4 r.1,.t (tI r.2)]) (
 .K (P3 g.o9) fun v=>.I (((!v)||(decide (g.N3<(-1))))||(decide (g.N3>15))) (.R ((⟨0,0⟩:aa2),1)) (.K (av5 l low high) fun v2=>.I (v2 !=0) (.R ((⟨0,0⟩:aa2),v2)) (.I ((((decide (up<0))||(decide (up>20000)))||(decide (down<0)))||(decide (down>20000))) (.R ((⟨0,0⟩:aa2),2)) (.K (ap7 l low high) fun r2=>.R ((⟨G4 (F2 (F2 (G4 r2.1.low (j7 (g.o9-down))) (j7 (g.o9+up))) r2.1.high) low,r2.1.source⟩:aa2),0)))))
def X1 (s:o4):CG prog o4:=.of Z call222 func222 [.ptr 1000000 0] [(1000000,.box (aw1 (Q8 s) [(63,.own 1000001)])),(1000001,.rs 267 7 s.out.O0 B3)] (fun _=>.Q1 []) (fun r=>[(1000000,.box (aw1 (Q8 r) [(63,.own 1000001)])),(1000001,.rs 267 7 r.out.O0 B3)]) [] (
 .D [] [(23,1000000)]<| .K (aM1 s.c.I9 s.i.bG3 s.i.bG4) fun r2=>.KG (u5 ({s with c:=(⟨r2.1,s.c.af0,s.c.ab2,s.c.Q3,s.c.P1,s.c.af5⟩:A5)}:o4) r2.2) [] fun v=>.D [] []<| .K (aM2 v.t v.c.I9.Value v.i.D2) fun r3=>.KG (u5 v r3.2) [] fun v2=>.D [] []<| .K (ax1 v2.c.I9.Value v2.i.D2 v2.i.av1) fun v3=>.J0 0 (fun(t:o4×List j2)=>[.t 4 (.own 56),.x 7,.x 8,.x 9,.x 10,.x 11,.x 13,.x 14,.x 15,.x 16,.x 18,.x 19,.x 20,.x 21,.x 26,.x 27,.x 28,.x 29,.x 33,.x 34,.x 35,.x 37,.x 38,.x 39,.x 40,.x 41,.x 43,.x 44,.x 45,.x 46,.x 51,.x 56,.x 57,.x 58,.x 59,.x 60,.x 61,.x 63,.x 64,.x 65,.x 66,.x 68,.x 69,.x 70,.x 71,.b 56 (.rs 250 4 t.2 C8),.b 1000000 (.box (aw1 (Q8 t.1) [(63,.own 1000001)])),.b 1000001 (.rs 267 7 t.1.out.O0 B3)]) (.I v3 (.D [] [(30,1000000)]<| .K (ax2 v2.i.av1) fun v4=>.K (aE5 v2.c.af0 v2.t.af0 v4 v2.i.D2) fun r4=>.KG (u5 ({v2 with c:=(⟨v2.c.I9,r4.1,v2.c.ab2,v2.c.Q3,v2.c.P1,v2.c.af5⟩:A5)}:o4) r4.2.2) [] fun v5=>.K (C6 r4.2.1 (-5000) 10000) fun v6=>.U (.ap C8 ([(⟨0,3,r3.1,0⟩:j2)]:List j2) ([(⟨1,2,v6,1⟩:j2)]:List j2) 56) fun l=>.R (v5,l)) (.R (({v2 with c:=(⟨v2.c.I9,(⟨0⟩:F7),v2.c.ab2,v2.c.Q3,v2.c.P1,v2.c.af5⟩:A5)}:o4),([(⟨0,3,r3.1,0⟩:j2)]:List j2)))) fun s2=>.Pn 56<| .D [] [(12,56),(20,1000000)]<| .U (.ap C8 s2.2 s2.1.i.Requests 56) fun l2=>.K (ap6 s2.1.c.af5 l2 (-5000) 10000 300 1000) fun r5=>.KG (u5 (⟨s2.1.t,s2.1.e,s2.1.b,(⟨s2.1.c.I9,s2.1.c.af0,s2.1.c.ab2,s2.1.c.Q3,s2.1.c.P1,r5.1⟩:A5),s2.1.i,s2.1.wanted,s2.1.A0,s2.1.ae3,s2.1.late,s2.1.pattern,s2.1.time,s2.1.out,s2.1.fail⟩:o4) r5.2) [] fun v7=>.R ({v7 with wanted:=G4 0 v7.c.af5.o9}:o4))
def am1 (i:Int)(c:o7)(c2 c3 c4:Int):C prog Bool:=.of Z call344 func344 [.t (tI i),.el (aR2 c),.el (aJ9 c2),.el (aJ9 c3),.el (aJ9 c4)] (fun r=>.t (tB r)) (
 .D [] []<| .K (Y2 c.o9 c2 (j7 (c3+i))) fun v=>.R (decide (v>=c4)))
def ap3 (t2:o7)(o8 T4:Int):C prog (Int×Int):=.of Z call296 func296 [T0 t2,.t (tI o8),.t (tI T4)] (fun r=>.Q1 [.t (tI r.1),.t (tI r.2)]) (
 .K (ai4 t2) fun v=>.I (!v) (.R (0,1)) (.K (H5 o8 0 12000) fun v2=>.I (!v2) (.R (0,2)) (.O (.ix aJ9 t2.o9.Y 0) fun x=>.D [] []<| .O (.ix aJ9 t2.o9.Y (j7 ((t2.o9.Y.length:Int)-1))) fun x2=>.Z (.fb 3)<| .Z (.fb 4)<| .Z (.fb 8)<| .Z (.fb 5)<| .K (Q0 (j7 ((j7 (x2-x))+1)) (.of (fun z_=>am1 z_ t2 o8 x T4) 344 [aR2 t2,aJ9 o8,aJ9 x,aJ9 T4])) fun v3=>.I (v3==(j7 ((j7 (x2-x))+1))) (.R (0,7)) (.R (j7 (x+v3),0)))))
def au5 (x e2 other:Int):C prog Int:=.of Z call297 func297 [.t (tI x),.t (tI e2),.t (tI other)] (fun r=>.t (tI r)) (
 .I (e2 !=0) (.R other) (.R x))
def al3 (i:Int)(c:Q2)(c2:Int):C prog Bool:=.of Z call414 func414 [.t (tI i),.el (bI7 c),.el (aJ9 c2)] (fun r=>.t (tB r)) (
 .D [] []<| .O (.ix aJ9 c.X i) fun x=>.R (decide (x>c2)))
def av7 (c:Q2)(x:Int):C prog Int:=.of Z call394 func394 [cg6 c,.t (tI x)] (fun r=>.t (tI r)) (
 .Z (.fb 2)<| .Z (.fb 3)<| .K (Q0 (c.X.length:Int) (.of (fun z_=>al3 z_ c x) 414 [bI7 c,aJ9 x])) fun v=>.R (j7 (v-1)))
def aE9 (c:Q2)(x:Int):C prog Int:=.of Z call366 func366 [cg6 c,.t (tI x)] (fun r=>.t (tI r)) (
 .O (.ix aJ9 c.X 0) fun x2=>.I (decide (x<=x2)) (.O (.ix aJ9 c.Y 0) fun x3=>.R x3) (.O (.ix aJ9 c.X (j7 ((c.X.length:Int)-1))) fun x4=>.I (decide (x>=x4)) (.O (.ix aJ9 c.Y (j7 ((c.X.length:Int)-1))) fun x5=>.R x5) (.K (av7 c x) fun v=>.D [] []<| .O (.ix aJ9 c.Y v) fun x6=>.O (.ix aJ9 c.X v) fun x7=>.O (.ix aJ9 c.Y (j7 (v+1))) fun x8=>.W (.hx 2)<| .O (.ix aJ9 c.X (j7 (v+1))) fun x9=>.W (.hx 2)<| .K (V8 (j7 ((j7 (x-x7))*(j7 (x8-x6)))) (j7 (x9-x7))) fun v2=>.R (j7 (x6+v2)))))
def at9 (c:Q2)(x:Int):C prog Int:=.of Z call317 func317 [cg6 c,.t (tI x)] (fun r=>.t (tI r)) (
 .K (P4 c) fun v=>.I (!v) (.R 0) (.K (aE9 c x) fun v2=>.R v2))
def aC1 (t2:o7)(o8 C1 K5:Int):C prog Int:=.of Z call236 func236 [T0 t2,.t (tI o8),.t (tI C1),.t (tI K5)] (fun r=>.t (tI r)) (
 .D [] []<| .K (Y2 t2.Air o8 C1) fun v=>.K (at9 t2.L4 K5) fun v2=>.K (V8 (j7 (v*v2)) 1000) fun v3=>.R (F2 1048576 v3))
def ak2 (k:Int)(c:o7)(c2 c3 c4:Int):C prog Bool:=.of Z call345 func345 [.t (tI k),.el (aR2 c),.el (aJ9 c2),.el (aJ9 c3),.el (aJ9 c4)] (fun r=>.t (tB r)) (
 .D [] []<| .K (aC1 c c2 (j7 (50+k)) c3) fun v=>.R (decide (v>=c4)))
def av2 (t2:o7)(o8 want K5:Int):C prog (Int×Int):=.of Z call298 func298 [T0 t2,.t (tI o8),.t (tI want),.t (tI K5)] (fun r=>.Q1 [.t (tI r.1),.t (tI r.2)]) (
 .K (aA8 t2) fun v=>.I (!v) (.R (0,1)) (.K (I4 o8 0 12000) fun v2=>.G (!v2) (.R true) (.K (I4 want 0 1048576) fun v3=>.R (!v3)) fun b2=>.G b2 (.R true) (.K (I4 K5 (-40) 150) fun v4=>.R (!v4)) fun b3=>.I b3 (.R (0,2)) (.Z (.fb 4)<| .Z (.fb 5)<| .Z (.fb 7)<| .Z (.fb 6)<| .K (Q0 2951 (.of (fun z_=>ak2 z_ t2 o8 K5 want) 345 [aR2 t2,aJ9 o8,aJ9 K5,aJ9 want])) fun v5=>.I (decide ((j7 (50+v5))>3000)) (.R (0,7)) (.R (j7 (50+v5),0)))))
def ax7 (rpm:Int):C prog (Int×Int):=.of Z call346 func346 [.t (tI rpm)] (fun r=>.Q1 [.t (tI r.1),.t (tI r.2)]) (
 .I ((decide (rpm<0))||(decide (rpm>20000))) (.R (0,2)) (.K (am8 (j7 ((j7 (rpm*65536))*23040)) 60000000 2) fun r2=>.R (r2.1,r2.2)))
def bd9 (o8 C1:Int):C prog (Int×Int):=.of Z call299 func299 [.t (tI o8),.t (tI C1)] (fun r=>.Q1 [.t (tI r.1),.t (tI r.2)]) (
 .K (I4 o8 0 12000) fun v=>.G (!v) (.R true) (.K (I4 C1 50 3000) fun v2=>.R (!v2)) fun b2=>.I b2 (.R (0,2)) (.K (ax7 o8) fun r2=>.R (j7 (cZ1 (j7 (r2.1*C1)) 1024),r2.2)))
def ak3 (k:Int)(c:L2)(c2 c3:Int):C prog Bool:=.of Z call347 func347 [.t (tI k),.el (bE1 c),.el (aJ9 c2),.el (aJ9 c3)] (fun r=>.t (tB r)) (
 .R (decide ((j7 (cZ1 (j7 ((j7 (c.J2*k))*(j7 (1013-c2)))) 1000))>=c3)))
def av3 (b2:L2)(cX0 C1:Int):C prog (Int×Int):=.of Z call300 func300 [aL4 b2,.t (tI cX0),.t (tI C1)] (fun r=>.Q1 [.t (tI r.1),.t (tI r.2)]) (
 .K (aj6 b2) fun v=>.I (!v) (.R (0,1)) (.K (I4 cX0 0 1099511627776) fun v2=>.G (!v2) (.R true) (.K (I4 C1 50 1013) fun v3=>.R (!v3)) fun b3=>.I b3 (.R (0,2)) (.Z (.fb 3)<| .Z (.fb 5)<| .Z (.fb 4)<| .K (Q0 1001 (.of (fun z_=>ak3 z_ b2 C1 cX0) 347 [bE1 b2,aJ9 C1,aJ9 cX0])) fun v4=>.I (decide (v4>1000)) (.R (0,7)) (.R (v4,0)))))
def U4 (s:o4):CG prog o4:=.of Z call223 func223 [.ptr 1000000 0] [(1000000,.box (aw1 (Q8 s) [(63,.own 1000001)])),(1000001,.rs 267 7 s.out.O0 B3)] (fun _=>.Q1 []) (fun r=>[(1000000,.box (aw1 (Q8 r) [(63,.own 1000001)])),(1000001,.rs 267 7 r.out.O0 B3)]) [] (
 .D [] []<| .K (ap3 s.t s.i.D2 s.wanted) fun r2=>.K (au5 r2.1 r2.2 1048576) fun v=>.D [] []<| .K (av2 s.t s.i.D2 (G4 0 v) s.i.L4) fun r3=>.K (au5 r3.1 r3.2 3000) fun v2=>.K (bd9 s.i.D2 (F2 1012 v2)) fun r4=>.KG (u5 s r4.2) [] fun v3=>.K (av3 v3.b r4.1 (F2 1012 v2)) fun r5=>.K (au5 r5.1 r5.2 1000) fun v4=>.R ({v3 with out:=(⟨v4,v3.out.O0,v3.out.o9⟩:O4)}:o4))
def aC0 (t2:o7)(o8 C1 K5:Int):C prog (Int×Int):=.of Z call151 func151 [T0 t2,.t (tI o8),.t (tI C1),.t (tI K5)] (fun r=>.Q1 [.t (tI r.1),.t (tI r.2)]) (
 .K (aA8 t2) fun v=>.I (!v) (.R (0,1)) (.K (I4 o8 0 12000) fun v2=>.G (!v2) (.R true) (.K (I4 C1 50 3000) fun v3=>.R (!v3)) fun b2=>.G b2 (.R true) (.K (I4 K5 (-40) 150) fun v4=>.R (!v4)) fun b3=>.I b3 (.R (0,2)) (.K (aC1 t2 o8 C1 K5) fun v5=>.R (v5,0))))
def ah2 (t2:o7)(o8 A0:Int):C prog (Int×Int):=.of Z call348 func348 [T0 t2,.t (tI o8),.t (tI A0)] (fun r=>.Q1 [.t (tI r.1),.t (tI r.2)]) (
 .K (ai4 t2) fun v=>.I (!v) (.R (0,1)) (.K (H5 o8 0 12000) fun v2=>.G (!v2) (.R true) (.K (H5 A0 0 1048576) fun v3=>.R (!v3)) fun b2=>.I b2 (.R (0,2)) (.K (Y2 t2.o9 o8 A0) fun v4=>.R (v4,0))))
def Y7 (t2:o7)(bJ7 late ae3 B4:Int):C prog Int:=.of Z call349 func349 [T0 t2,.t (tI bJ7),.t (tI late),.t (tI ae3),.t (tI B4)] (fun r=>.t (tI r)) (
 .K (at9 t2.C3 late) fun v=>.O (.quo .i64 (j7 ((j7 (bJ7*v))*ae3)) (j7 (1000*B4))) fun q=>.R q)
def al1 (late:Int)(c:o7)(c2 c3 c4 c5:Int):C prog Bool:=.of Z call350 func350 [.t (tI late),.el (aR2 c),.el (aJ9 c2),.el (aJ9 c3),.el (aJ9 c4),.el (aJ9 c5)] (fun r=>.t (tB r)) (
 .D [] []<| .K (Y7 c c2 late c3 c4) fun v=>.R (decide (v<=c5)))
def am3 (t2:o7)(most B4:Int)(r2:Int×Int)(f2:Int):M prog (Int×Int×Int) (Int⊕(Int⊕Empty)):=
 .I (decide (f2>0)) (.D [] []<| .K (Y7 t2 r2.1 2560 f2 B4) fun v2=>.I (decide (v2<=most)) (.R (.inr (.inl f2))) (.R (.inl (j7 (f2-1))))) (.R (.inr (.inl f2)))
def am2 (t2:o7)(o8 A0 most B4:Int):C prog (Int×Int×Int):=.of Z call301 func301 [T0 t2,.t (tI o8),.t (tI A0),.t (tI most),.t (tI B4)] (fun r=>.Q1 [.t (tI r.1),.t (tI r.2.1),.t (tI r.2.2)]) (
 .K (ah2 t2 o8 A0) fun r2=>.I (r2.2 !=0) (.R (0,0,r2.2)) (.K (H5 B4 1 8) fun v=>.I ((!v)||(decide (most<0))) (.R (0,0,2)) (.L (fun(t:Int)=>[.b 10 (.box [.t (tI t)])]) 1 (.e) (am3 t2 most B4 r2) B4 (fun f3=>.Z (.fb 5)<| .Z (.fb 13)<| .Z (.fb 9)<| .Z (.fb 8)<| .K (Q0 2560 (.of (fun z_=>al1 z_ t2 r2.1 f3 B4 most) 350 [aR2 t2,aJ9 r2.1,aJ9 f3,aJ9 B4,aJ9 most])) fun v3=>.R (f3,v3,0)) (fun t=>t.elim))))
def as0 (B4 ae3 E5 i:Int)(f2:List Bool):M prog (List Bool×Int) (Fl (List Bool) Empty):=
 .O (.rem (j7 (i+E5)) B4) fun q=>.D [] []<| .O (.quo .i64 (j7 ((j7 (q+1))*ae3)) B4) fun q2=>.O (.quo .i64 (j7 (q*ae3)) B4) fun q3=>.O (.ix Pv.dF6 f2 i) fun _=>.U (.st Pv.dF6 f2 i (decide (q2>q3)) 0) fun l2=>.R (.next l2)
def ar9 (B4 ae3 E5:Int):C prog (List Bool×Int):=.of Z call302 func302 [.t (tI B4),.t (tI ae3),.t (tI E5)] (fun r=>.Q1 [.t (tS Pv.dF6 r.1),.t (tI r.2)]) (
 .K (H5 B4 1 8) fun v=>.G (!v) (.R true) (.K (H5 ae3 0 B4) fun v2=>.R (!v2)) fun b2=>.G b2 (.R true) (.K (H5 E5 0 1099511627776) fun v3=>.R (!v3)) fun b3=>.I b3 (.R (([]:List Bool),2)) (.Mk Pv.dF6 B4 false fun l=>M.QN (l.length:Int) 2 29 (fun(t:List Bool)=>[.x 26,.x 27,.b 26 (.rs 4 1 t Pv.dF6)]) 0 (.e) (as0 B4 ae3 E5) l (fun f3=>.R (f3,0)) (fun t=>t.elim)))
def aw4 (t2:o7)(o8 A0 late ae3 B4:Int):C prog (Int×Int):=.of Z call303 func303 [T0 t2,.t (tI o8),.t (tI A0),.t (tI late),.t (tI ae3),.t (tI B4)] (fun r=>.Q1 [.t (tI r.1),.t (tI r.2)]) (
 .K (ah2 t2 o8 A0) fun r2=>.I (r2.2 !=0) (.R (0,r2.2)) (.K (H5 late 0 2560) fun v=>.G (!v) (.R true) (.K (H5 B4 1 8) fun v2=>.R (!v2)) fun b2=>.G b2 (.R true) (.K (H5 ae3 0 B4) fun v3=>.R (!v3)) fun b3=>.I b3 (.R (0,2)) (.K (Y7 t2 r2.1 late ae3 B4) fun v4=>.R (v4,0))))
def aa4 (s:o4):CG prog o4:=.of Z call224 func224 [.ptr 1000000 0] [(1000000,.box (aw1 (Q8 s) [(63,.own 1000001)])),(1000001,.rs 267 7 s.out.O0 B3)] (fun _=>.Q1 []) (fun r=>[(1000000,.box (aw1 (Q8 r) [(63,.own 1000001)])),(1000001,.rs 267 7 r.out.O0 B3)]) [] (
 .D [] [(26,1000000)]<| .K (aC0 s.t s.i.D2 s.i.L0 s.i.L4) fun r2=>.KG (u5 ({s with A0:=r2.1}:o4) r2.2) [] fun v=>.D [] [(27,1000000),(30,1000000)]<| .K (am2 v.t v.i.D2 v.A0 v.wanted (s.e.A3.length:Int)) fun r3=>.KG (u5 ({v with ae3:=r3.1,late:=r3.2.1}:o4) r3.2.2) [] fun v2=>.K (ar9 (s.e.A3.length:Int) v2.ae3 0) fun r4=>.KG (u5 ({v2 with pattern:=r4.1}:o4) r4.2) [] fun v3=>.D [] [(30,1000000)]<| .K (aw4 v3.t v3.i.D2 v3.A0 v3.late v3.ae3 (s.e.A3.length:Int)) fun r5=>.KG (u5 ({v3 with out:=(⟨v3.out.J2,v3.out.O0,r5.1⟩:O4)}:o4) r5.2) [] fun v4=>.R v4)
def ac8 (o8 A0:Int):C prog Bool:=.of Z call351 func351 [.t (tI o8),.t (tI A0)] (fun r=>.t (tB r)) (
 .K (S1 o8 0 12000) fun v=>.G v (.K (S1 A0 0 1048576) fun v2=>.R v2) (.R false) fun b2=>.R b2)
def ag9 (s:List ab3):C prog (List ab3):=.of Z call386 func386 [.t (tS an4 s)] (fun r=>.t (tS an4 r)) (
 .Nl an4 s (.I true (.R ([]:List ab3)) .N) (fun s=>.I false .N (.U (.ap an4 ([]:List ab3) s 5) fun l=>.R l)))
def ax4 (p2:M8):C prog M8:=.of Z call352 func352 [bs2 p2] (fun r=>bs2 r) (
 .K (ag9 p2.Cells) fun v=>.R ({p2 with Cells:=v}:M8))
def az5 (p2:M8)(B9 o8 A0:Int):C prog (M8×Int):=.of Z call304 func304 [bs2 p2,.t (tI B9),.t (tI o8),.t (tI A0)] (fun r=>.Q1 [bs2 r.1,.t (tI r.2)]) (
 .K (ac7 p2) fun v=>.I (!v) (.R ((⟨false,false,0,0,([]:List ab3)⟩:M8),1)) (.K (ac8 o8 A0) fun v2=>.G (!v2) (.R true) (.K (S1 B9 0 20000) fun v3=>.R (!v3)) fun b2=>.I b2 (.R ((⟨false,false,0,0,([]:List ab3)⟩:M8),2)) (.K (ax4 p2) fun v4=>.I (!v4.af3) (.R (({v4 with af3:=((decide (B9<300))||(decide (B9>600))),bd7:=decide (B9>600)}:M8),0)) (.J0 0 (fun(t:Int×Int)=>[.t 11 (.t (tI t.1)),.x 30,.x 55,.c 4 3 [.t (tI t.2)]]) (.I (!(((decide (B9>500))||((decide (B9>=400))&&v4.bd7))==v4.bd7)) (.R (15,0)) (.R (1,F2 1000 (j7 (v4.bd8+1))))) fun s=>.J0 0 (fun(t:Int)=>[.t 11 (.t (tI t))]) (.I ((decide (B9>500))||((decide (B9>=400))&&v4.bd7)) (.R (j7 (0-s.1))) (.R s.1)) fun v_by=>.K (C6 (j7 (v4.ak1+v_by)) 750 1250) fun v5=>.R ((⟨v4.af3,((decide (B9>500))||((decide (B9>=400))&&v4.bd7)),v5,s.2,v4.Cells⟩:M8),0)))))
def aB5 (x _ x2 n2:Int):M prog Int (Fl Int Empty):=
 .W (.hx 0)<| .I (decide (x>=x2)) (.R (.next (j7 (n2+1)))) (.R (.next n2))
def ak8 (x:Int)(bb5:List Int):C prog Int:=.of Z call387 func387 [.t (tI x),.t (tS aJ9 bb5)] (fun r=>.t (tI r)) (
 M.Q aJ9 bb5 2 10 (fun(t:Int)=>[.t 5 (.t (tI t))]) 0 (.e) (aB5 x) 0 (fun n3=>.R n3) (fun t=>t.elim))
def aF7 (o8 A0:Int):C prog Int:=.of Z call353 func353 [.t (tI o8),.t (tI A0)] (fun r=>.t (tI r)) (
 .K (ac8 o8 A0) fun v=>.I (!v) (.R (-1)) (.K (ak8 o8 ([1500,3500]:List Int)) fun v2=>.K (ak8 A0 ([150000,350000]:List Int)) fun v3=>.R (j7 ((j7 (3*v2))+v3))))
def aq8 (p2:M8)(o8 A0:Int):C prog (Int×Int):=.of Z call305 func305 [bs2 p2,.t (tI o8),.t (tI A0)] (fun r=>.Q1 [.t (tI r.1),.t (tI r.2)]) (
 .K (ac7 p2) fun v=>.I (!v) (.R (0,1)) (.K (ac8 o8 A0) fun v2=>.I (!v2) (.R (0,2)) (.D [] []<| .K (aF7 o8 A0) fun v3=>.O (.ix an4 p2.Cells v3) fun x=>.K (C6 (j7 (p2.ak1+x.Value)) 700 1300) fun v4=>.R (v4,0))))
def af2 (x low high:Int):C prog Bool:=.of Z call338 func338 [.t (tI x),.t (tI low),.t (tI high)] (fun r=>.t (tB r)) (
 .R ((decide (x>=low))&&(decide (x<=high))))
def aU2 (A0 bI8:Int):C prog (Int×Int):=.of Z call306 func306 [.t (tI A0),.t (tI bI8)] (fun r=>.Q1 [.t (tI r.1),.t (tI r.2)]) (
 .K (af2 A0 0 1048576) fun v=>.G (!v) (.R true) (.K (af2 bI8 500 2000) fun v2=>.R (!v2)) fun b2=>.I b2 (.R (0,2)) (.O (.quo .i64 (j7 (A0*10000)) (j7 (bI8*147))) fun q=>.R (q,0)))
def aJ2 (b2:L2):C prog Bool:=.of Z call354 func354 [aL4 b2] (fun r=>.t (tB r)) (
 .K (af2 b2.P1 0 1023) fun v=>.G v (.K (af2 b2.K9 0 1024) fun v2=>.R v2) (.R false) fun b3=>.R b3)
def aM6 (cmp:Cl prog Int Int (fun x=>[.t (tI x)]) (fun r=>.t (tI r)))(s:Int×Int):M prog (Int×Bool) ((Int×Int)⊕((Int×Int)⊕Empty)):=
 .I (decide (s.1<s.2)) (.K (cmp.at (j7 (F5 .u64 (aX8.wrap (j7 (s.1+s.2))) 1))) fun v=>.I (decide (v>0)) (.R (.inl (j7 ((j7 (F5 .u64 (aX8.wrap (j7 (s.1+s.2))) 1))+1),s.2))) (.R (.inl (s.1,j7 (F5 .u64 (aX8.wrap (j7 (s.1+s.2))) 1))))) (.R (.inr (.inl (s.1,s.2))))
def aO7 (n2:Int)(cmp:Cl prog Int Int (fun x=>[.t (tI x)]) (fun r=>.t (tI r))):C prog (Int×Bool):=.of Z call355 func355 [.t (tI n2),.fz cmp.n cmp.cs] (fun r=>.Q1 [.t (tI r.1),.t (tB r.2)]) (
 .L (fun(t:Int×Int)=>[.t 4 (.t (tI t.1)),.t 6 (.t (tI t.2))]) 0 (.e) (aM6 cmp) (0,n2) (fun s2=>.G (decide (s2.1<n2)) (.K (cmp.at s2.1) fun v2=>.R (v2==0)) (.R false) fun b2=>.R (s2.1,b2)) (fun t=>t.elim))
def aB4 (b2:L2)(aF3 aH1:Int):C prog (Int×Int):=.of Z call357 func357 [aL4 b2,.t (tI aF3),.t (tI aH1)] (fun r=>.Q1 [.t (tI r.1),.t (tI r.2)]) (
 .D [] []<| .R (j7 ((j7 (aH1-(j7 (cZ1 (j7 (aH1*b2.P1)) 1024))))+(j7 (cZ1 (j7 (aF3*b2.K9)) 1024))),j7 ((j7 (aF3+(j7 (cZ1 (j7 (aH1*b2.P1)) 1024))))-(j7 (cZ1 (j7 (aF3*b2.K9)) 1024)))))
def aA4 (i:Int)(c:L2)(c2 c3:Int):C prog Int:=.of Z call356 func356 [.t (tI i),.el (bE1 c),.el (aJ9 c2),.el (aJ9 c3)] (fun r=>.t (tI r)) (
 .K (aB4 c c2 i) fun r2=>.R (j7 (c3-r2.1)))
def aJ1 (b2:L2)(aF3 bq8:Int):C prog (Int×Int×Int):=.of Z call307 func307 [aL4 b2,.t (tI aF3),.t (tI bq8)] (fun r=>.Q1 [.t (tI r.1),.t (tI r.2.1),.t (tI r.2.2)]) (
 .K (aJ2 b2) fun v=>.I (!v) (.R (0,0,1)) (.K (af2 aF3 0 1073741824) fun v2=>.G (!v2) (.R true) (.K (af2 bq8 0 1048576) fun v3=>.R (!v3)) fun b3=>.I b3 (.R (0,0,2)) (.Z (.fb 3)<| .Z (.fb 4)<| .Z (.fb 5)<| .K (aO7 1048577 (.of (fun z_=>aA4 z_ b2 aF3 bq8) 356 [bE1 b2,aJ9 aF3,aJ9 bq8])) fun r2=>.I (decide (r2.1>1048576)) (.R (0,0,9)) (.K (aB4 b2 aF3 r2.1) fun r3=>.I (decide (r3.2>1073741824)) (.R (0,0,9)) (.R (r2.1,r3.2,0))))))
def aO4 (b2:L2)(aF3 aH1:Int):C prog (Int×Int×Int):=.of Z call308 func308 [aL4 b2,.t (tI aF3),.t (tI aH1)] (fun r=>.Q1 [.t (tI r.1),.t (tI r.2.1),.t (tI r.2.2)]) (
 .K (aJ2 b2) fun v=>.I (!v) (.R (0,0,1)) (.K (af2 aF3 0 1073741824) fun v2=>.G (!v2) (.R true) (.K (af2 aH1 0 1048576) fun v3=>.R (!v3)) fun b3=>.I b3 (.R (0,0,2)) (.K (aB4 b2 aF3 aH1) fun r2=>.I (decide (r2.2>1073741824)) (.R (0,0,9)) (.R (r2.1,r2.2,0)))))
def aF4 (y:Int):C prog Bool:=.of Z call337 func337 [.t (tI y)] (fun r=>.t (tB r)) (
 .K (af2 y 0 10000) fun v=>.R (!v))
def aB3 (t2:o7)(ca6 B9:Int):C prog (Int×Int):=.of Z call270 func270 [T0 t2,.t (tI ca6),.t (tI B9)] (fun r=>.Q1 [.t (tI r.1),.t (tI r.2)]) (
 .K (P4 t2.aw5) fun v=>.G (!v) (.R true) (.K (o6 t2.aw5.Y (.of (fun z_=>aF4 z_) 337 [])) fun v2=>.R v2) fun b2=>.I b2 (.R (0,1)) (.K (af2 ca6 0 1048576) fun v3=>.G (!v3) (.R true) (.K (af2 B9 0 20000) fun v4=>.R (!v4)) fun b3=>.I b3 (.R (0,2)) (.K (at9 t2.aw5 B9) fun v5=>.R (v5,0))))
def aO5 (t2:o7)(bq8 B9:Int):C prog (Int×Int):=.of Z call309 func309 [T0 t2,.t (tI bq8),.t (tI B9)] (fun r=>.Q1 [.t (tI r.1),.t (tI r.2)]) (
 .K (aB3 t2 bq8 B9) fun r2=>.I ((r2.2 !=0)||(bq8==0)) (.R (0,r2.2)) (.K (am8 bq8 3 2) fun r3=>.R (j7 (r2.1+r3.1),r3.2)))
def ae1 (s:o4):CG prog o4:=.of Z call225 func225 [.ptr 1000000 0] [(1000000,.box (aw1 (Q8 s) [(63,.own 1000001)])),(1000001,.rs 267 7 s.out.O0 B3)] (fun _=>.Q1 []) (fun r=>[(1000000,.box (aw1 (Q8 r) [(63,.own 1000001)])),(1000001,.rs 267 7 r.out.O0 B3)]) [] (
 .D [] [(27,1000000)]<| .K (az5 s.c.Q3 s.i.Lambda s.i.D2 s.A0) fun r2=>.KG (u5 ({s with c:=(⟨s.c.I9,s.c.af0,s.c.ab2,r2.1,s.c.P1,s.c.af5⟩:A5)}:o4) r2.2) [] fun v=>.D [] []<| .K (aq8 v.c.Q3 v.i.D2 v.A0) fun r3=>.KG (u5 v r3.2) [] fun v2=>.K (aU2 v2.A0 1000) fun r4=>.KG (u5 v2 r4.2) [] fun v3=>.D [] []<| .K (aJ1 v3.b v3.c.P1 (F2 1048576 (j7 (cZ1 (j7 (r4.1*r3.1)) 1000)))) fun r5=>.J0 0 (fun(t:Int×Int×o4)=>[.t 5 (.t (tI t.1)),.t 6 (.t (tI t.2.1)),.x 10,.x 11,.x 12,.x 13,.x 14,.x 16,.x 17,.x 18,.x 19,.x 21,.x 22,.x 23,.x 24,.x 26,.x 27,.x 28,.x 33,.x 34,.x 35,.x 36,.x 40,.x 41,.x 42,.x 43,.x 45,.x 46,.x 47,.x 48,.x 50,.x 51,.x 52,.x 57,.x 61,.x 62,.x 63,.x 68,.x 77,.x 78,.x 79,.x 81,.x 82,.x 83,.x 84,.x 91,.x 92,.x 93,.b 1000000 (.box (aw1 (Q8 t.2.2) [(63,.own 1000001)])),.b 1000001 (.rs 267 7 t.2.2.out.O0 B3)]) (.I ((v3.ae3==0)||(r5.2.2 !=0)) (.D [] []<| .K (aO4 v3.b v3.c.P1 0) fun r6=>.KG (u5 v3 r6.2.2) [] fun v4=>.R (0,r6.2.1,v4)) (.R (r5.1,r5.2.1,v3))) fun s2=>.I (decide (s2.1>0)) (.D [] []<| .K (aO5 s2.2.2.t s2.1 s2.2.2.i.aI3) fun r7=>.KG (u5 (⟨s2.2.2.t,s2.2.2.e,s2.2.2.b,(⟨s2.2.2.c.I9,s2.2.2.c.af0,s2.2.2.c.ab2,s2.2.2.c.Q3,s2.2.1,s2.2.2.c.af5⟩:A5),s2.2.2.i,s2.2.2.wanted,s2.2.2.A0,s2.2.2.ae3,s2.2.2.late,s2.2.2.pattern,s2.2.2.time,s2.2.2.out,s2.2.2.fail⟩:o4) r7.2) [] fun v5=>.K (C6 r7.1 200 20000) fun v6=>.R ({v5 with time:=v6}:o4)) (.R (⟨s2.2.2.t,s2.2.2.e,s2.2.2.b,(⟨s2.2.2.c.I9,s2.2.2.c.af0,s2.2.2.c.ab2,s2.2.2.c.Q3,s2.2.1,s2.2.2.c.af5⟩:A5),s2.2.2.i,s2.2.2.wanted,s2.2.2.A0,s2.2.2.ae3,s2.2.2.late,s2.2.2.pattern,s2.2.2.time,s2.2.2.out,s2.2.2.fail⟩:o4)))
def aA5 (k:B8):C prog Bool:=.of Z call358 func358 [aX2 k] (fun r=>.t (tB r)) (
 .K (ax3 k) fun v=>.R (!v))
def aF6 (n2:Int):C prog Bool:=.of Z call359 func359 [.t (tI n2)] (fun r=>.t (tB r)) (
 .K (ah6 n2) fun v=>.R (!v))
def ad6 (s:List B8):CG prog (List B8):=.of Z call360 func360 [.t (tS I6 s)] [] (fun _=>.own 900000) (fun r=>[(900000,.rs 205 3 r I6)]) [900000] (
 .Nl I6 s (.I true (.Z (.np 2 70000 205 3 [])<| .R ([]:List B8)) .N) (fun s=>.I false .N (.U (.ap I6 ([]:List B8) s 5) fun l=>.R l)))
def aH2 (k:B8)(n2:Int):C prog (B8×Bool):=.of Z call361 func361 [aX2 k,.t (tI n2)] (fun r=>.Q1 [aX2 r.1,.t (tB r.2)]) (
 .I (decide (n2>(j7 ((j7 (3*k.aH6))+40)))) (.R ((⟨F2 (j7 (k.at6+96)) 960,k.aH6,0⟩:B8),true)) (.J0 0 (fun(t:Int×Int)=>[.x 7,.x 19,.x 22,.x 23,.b 2 (.box [.t (tI t.1),.t (tI k.aH6),.t (tI t.2)])]) (.I ((j7 (k.Quiet+1))==100) (.R (G4 (j7 (k.at6-16)) 0,0)) (.R (k.at6,j7 (k.Quiet+1)))) fun s=>.D [] []<| .K (V8 (j7 (n2-k.aH6)) 8) fun v=>.R ((⟨s.1,j7 (k.aH6+v),s.2⟩:B8),false)))
def aL9 (l:List B8)(ag1:List Int)(i:Int)(f2:List B8):M prog (List B8×Int) (Fl (List B8) Empty):=
 .D [] [(15,2240)]<| .O (.ix I6 l i) fun x=>.O (.ix aJ9 ag1 i) fun x2=>.K (aH2 x x2) fun r2=>.O (.ix I6 f2 i) fun _=>.U (.st I6 f2 i r2.1 0) fun l2=>.R (.next l2)
def aU5 (l:List B8)(ag1:List Int):C prog (List B8×Int):=.of Z call310 func310 [.t (tS I6 l),.t (tS aJ9 ag1)] (fun r=>.Q1 [.t (tS I6 r.1),.t (tI r.2)]) (
 .G (((decide ((l.length:Int)<1))||(decide ((l.length:Int)>8)))||((ag1.length:Int) !=(l.length:Int))) (.R true) (.K (J3 l (.of (fun z_=>aA5 z_) 358 [])) fun v=>.R v) fun b2=>.I b2 (.R (([]:List B8),1)) (.K (o6 ag1 (.of (fun z_=>aF6 z_) 359 [])) fun v2=>.I v2 (.R (([]:List B8),2)) (.KG (ad6 l) [2240] fun v3=>M.QN (v3.length:Int) 2 33 (fun(t:List B8)=>[.x 30,.x 31,.b 2240 (.rs 205 3 t I6)]) 0 (.e) (aL9 l ag1) v3 (fun f3=>.R (f3,0)) (fun t=>t.elim))))
def aA6 (a b2:Int):C prog Int:=.of Z call411 func411 [.t (tI a),.t (tI b2)] (fun r=>.t (tI r)) (
 .R (j7 (b2-a)))
def aG3 (l:List Int):C prog Bool:=.of Z call388 func388 [.t (tS aJ9 l)] (fun r=>.t (tB r)) (
 .K (H9 l (.of (fun z_=>aA6 z_.1 z_.2) 411 [])) fun v=>.R v)
def Q7 (x low high:Int):C prog Bool:=.of Z call363 func363 [.t (tI x),.t (tI low),.t (tI high)] (fun r=>.t (tB r)) (
 .R ((decide (x>=low))&&(decide (x<=high))))
def at5 (x c c2:Int):C prog Bool:=.of Z call412 func412 [.t (tI x),.el (aJ9 c),.el (aJ9 c2)] (fun r=>.t (tB r)) (
 .K (Q7 x c c2) fun v=>.R (!v))
def ad3 (l:List Int)(low high:Int):C prog Bool:=.of Z call390 func390 [.t (tS aJ9 l),.t (tI low),.t (tI high)] (fun r=>.t (tB r)) (
 .Z (.fb 4)<| .Z (.fb 5)<| .K (o6 l (.of (fun z_=>at5 z_ low high) 412 [aJ9 low,aJ9 high])) fun v=>.R v)
def aw3 (l:List Int):C prog Bool:=.of Z call389 func389 [.t (tS aJ9 l)] (fun r=>.t (tB r)) (
 .K (ad3 l (-1280) 3840) fun v=>.R v)
def ax9 (t2:o7):C prog Bool:=.of Z call362 func362 [T0 t2] (fun r=>.t (tB r)) (
 .K (J4 t2.N9) fun v=>.G (!v) (.R true) (.K (P4 t2.af1) fun v2=>.R (!v2)) fun b2=>.G b2 (.R true) (.K (P4 t2.C3) fun v3=>.R (!v3)) fun b3=>.G b3 (.R true) (.K (aG3 t2.C3.Y) fun v4=>.R (!v4)) fun b4=>.I b4 (.R false) (.K (G0 t2.N9.Z (.of (fun z_=>aw3 z_) 389 [])) fun v5=>.G (!v5) (.K (ad3 t2.af1.Y 500 10000) fun v6=>.R (!v6)) (.R false) fun b5=>.G b5 (.K (ad3 t2.C3.Y 0 1000) fun v7=>.R (!v7)) (.R false) fun b6=>.R b6))
def aG2 (t2:o7)(B9 M5:Int):C prog (Int×Int):=.of Z call311 func311 [T0 t2,.t (tI B9),.t (tI M5)] (fun r=>.Q1 [.t (tI r.1),.t (tI r.2)]) (
 .K (ax9 t2) fun v=>.I (!v) (.R (0,1)) (.K (Q7 B9 0 20000) fun v2=>.G (!v2) (.R true) (.K (Q7 M5 4000 1000000) fun v3=>.R (!v3)) fun b2=>.I b2 (.R (0,2)) (.K (at9 t2.af1 B9) fun v4=>.R (F2 v4 (j7 (cZ1 (j7 (3*M5)) 4)),0))))
def aM7 (t2:o7)(o8 A0:Int):C prog (Int×Int):=.of Z call364 func364 [T0 t2,.t (tI o8),.t (tI A0)] (fun r=>.Q1 [.t (tI r.1),.t (tI r.2)]) (
 .K (ax9 t2) fun v=>.I (!v) (.R (0,1)) (.K (Q7 o8 0 12000) fun v2=>.G (!v2) (.R true) (.K (Q7 A0 0 1048576) fun v3=>.R (!v3)) fun b2=>.I b2 (.R (0,2)) (.K (Y2 t2.N9 o8 A0) fun v4=>.R (v4,0))))
def aG1 (t2:o7)(o8 A0 D5 bj7:Int):C prog (Int×Int):=.of Z call312 func312 [T0 t2,.t (tI o8),.t (tI A0),.t (tI D5),.t (tI bj7)] (fun r=>.Q1 [.t (tI r.1),.t (tI r.2)]) (
 .K (aM7 t2 o8 A0) fun r2=>.I (r2.2 !=0) (.R (0,r2.2)) (.K (Q7 D5 (-40) 150) fun v=>.G (!v) (.R true) (.K (Q7 bj7 0 1280) fun v2=>.R (!v2)) fun b2=>.I b2 (.R (0,2)) (.I (decide (D5<20)) (.K (C6 (j7 ((j7 (r2.1+(j7 (2*(j7 (20-D5))))))-bj7)) (-1280) 3840) fun v3=>.R (v3,0)) (.I (decide (D5>100)) (.K (C6 (j7 ((j7 (r2.1-(j7 (8*(j7 (D5-100))))))-bj7)) (-1280) 3840) fun v4=>.R (v4,0)) (.K (C6 (j7 (r2.1-bj7)) (-1280) 3840) fun v5=>.R (v5,0))))))
def ad8 (r3:Int×Int)(i:Int)(f2:o4):M prog o4 (Fl o4 Empty):=
 .D [] []<| .O (.ix I6 f2.c.ab2 i) fun x=>.K (aG1 f2.t f2.i.D2 f2.A0 f2.i.av1 x.at6) fun r4=>.KG (u5 f2 r4.2) [] fun v4=>.O (.ix Pv.dF6 v4.pattern i) fun x2=>.J0 0 (fun(t:Int)=>[.x 70,.x 71,.x 72,.x 74,.x 75,.x 76,.x 77,.x 79,.x 80,.x 81,.x 83,.x 84,.x 85,.x 86,.x 88,.x 89,.x 90,.x 91,.x 100,.x 106,.x 107,.x 108,.x 115,.x 116,.x 117,.c 8 4 [.t (tI t)]]) (.I x2 (.R v4.time) (.R 0)) fun f3=>.Pn 40000<| .D [] [(8,40000)]<| .U (.ap B3 v4.out.O0 ([(⟨j7 (i+1),G4 (-1280) (j7 (r4.1-v4.late)),G4 500 r3.1,5760,f3,0,0⟩:A2)]:List A2) 40000) fun l=>.R (.next ({v4 with out:=(⟨v4.out.J2,l,v4.out.o9⟩:O4)}:o4))
def aa3 (s:o4):CG prog o4:=.of Z call226 func226 [.ptr 1000000 0] [(1000000,.box (aw1 (Q8 s) [(63,.own 1000001)])),(1000001,.rs 267 7 s.out.O0 B3)] (fun _=>.Q1 []) (fun r=>[(900000,.rs 267 7 r.out.O0 B3),(1000000,.box (aw1 (Q8 r) [(63,.own 900000)]))]) [900000] (
 .D [] [(18,1000000)]<| .K (aU5 s.c.ab2 s.i.X4) fun r2=>.KG (u5 ({s with c:=(⟨s.c.I9,s.c.af0,r2.1,s.c.Q3,s.c.P1,s.c.af5⟩:A5)}:o4) r2.2) [] fun v=>.O (.quo .i64 60000000 (G4 1 v.i.D2)) fun q=>.K (C6 q 4000 1000000) fun v2=>.D [] []<| .K (aG2 v.t v.i.aI3 v2) fun r3=>.KG (u5 v r3.2) [] fun v3=>.I (v3.fail !=0) (.R v3) (.Z (.rn [(1000001,40000)])<|M.QN (v3.e.A3.length:Int) 2 66 (fun(t:o4)=>[.x 10,.x 11,.x 12,.x 13,.x 14,.x 16,.x 17,.x 18,.x 19,.x 24,.x 25,.x 26,.x 27,.x 30,.x 31,.x 32,.x 33,.x 39,.x 40,.x 41,.x 43,.x 44,.x 45,.x 46,.x 52,.x 55,.x 56,.x 57,.x 60,.x 61,.x 62,.x 63,.b 40000 (.rs 267 7 t.out.O0 B3),.b 1000000 (.box (aw1 (Q8 t) [(63,.own 40000)]))]) 0 (.e) (ad8 r3) v3 (fun f4=>.R f4) (fun t=>t.elim)))
def aE8 (t2:o7)(e2:o5)(b2:L2)(c:A5)(i:W9):CG prog (A5×O4×Int):=.of Z call146 func146 [T0 t2,au3 e2,aL4 b2,aQ2 c,cY5 i] [] (fun r=>.Q1 [aQ2 r.1,.agg [.t (tI r.2.1.J2),.own 900000,.t (tI r.2.1.o9)],.t (tI r.2.2)]) (fun r=>[(900000,.rs 267 7 r.2.1.O0 B3)]) [900000] (
 .K (ac5 t2) fun v=>.G (!v) (.R true) (.K (aj6 b2) fun v2=>.R (!v2)) fun b3=>.G b3 (.R true) (.K (aq0 e2 c) fun v3=>.R (!v3)) fun b4=>.I b4 (.Z (.nb 11 70000 267 7 [1])<| .R ((⟨(⟨0,0,false⟩:U7),(⟨0⟩:F7),([]:List B8),(⟨false,false,0,0,([]:List ab3)⟩:M8),0,(⟨0,0⟩:aa2)⟩:A5),(⟨0,([]:List A2),0⟩:O4),1)) (.K (av6 i (e2.A3.length:Int)) fun v4=>.I (!v4) (.Z (.nb 11 70000 267 7 [1])<| .R ((⟨(⟨0,0,false⟩:U7),(⟨0⟩:F7),([]:List B8),(⟨false,false,0,0,([]:List ab3)⟩:M8),0,(⟨0,0⟩:aa2)⟩:A5),(⟨0,([]:List A2),0⟩:O4),2)) (.Z (.nb 46 2388 267 7 [63])<| .KG (X1 (⟨t2,e2,b2,c,i,0,0,0,0,([]:List Bool),0,(⟨0,([]:List A2),0⟩:O4),0⟩:o4)) [] fun v5=>.KG (U4 v5) [] fun v6=>.KG (aa4 v6) [] fun v7=>.KG (ae1 v7) [] fun v8=>.KG (aa3 v8) [2448] fun v9=>.I (v9.fail !=0) (.D [] [(6,10),(7,11)]<| .Z (.nb 11 70000 267 7 [1])<| .R ((⟨(⟨0,0,false⟩:U7),(⟨0⟩:F7),([]:List B8),(⟨false,false,0,0,([]:List ab3)⟩:M8),0,(⟨0,0⟩:aa2)⟩:A5),(⟨0,([]:List A2),0⟩:O4),v9.fail)) (.D [] [(8,10)]<| .R (v9.c,v9.out,0)))))
def by6 (old:A5):C prog A5:=.of Z call147 func147 [aQ2 old] (fun r=>.fz 227 [bZ0 r]) (
 .Z (.fb 1)<| .R old)
def bD9 (old:O4):C prog O4:=.of Z call148 func148 [dB8 old] (fun r=>.fz 228 [cl0 r]) (
 .Z (.fb 1)<| .R old)
def bp4 (S4:A5)(e2:Int)(c:A5):C prog A5:=.of Z call227 func227 [aQ2 S4,.t (tI e2),.el (bZ0 c)] (fun r=>aQ2 r) (
 .I (e2 !=0) (.R c) (.R S4))
def bt9 (S4:O4)(e2:Int)(c:O4):CG prog O4:=.of Z call228 func228 [.agg [.t (tI S4.J2),.own 1000000,.t (tI S4.o9)],.t (tI e2),.el (cl0 c)] [(1000000,.rs 267 7 S4.O0 B3)] (fun r=>.agg [.t (tI r.J2),.own 900000,.t (tI r.o9)]) (fun r=>[(900000,.rs 267 7 r.O0 B3)]) [900000] (
 .I (e2 !=0) (M.N) (.R S4))
def aT5 (s:j8):CG prog j8:=.of Z call81 func81 [.ptr 1000000 0] [(1000000,.box (aw1 (G6 s) [(107,.own 1000001),(113,.own 1000002)])),(1000001,.rs 267 7 s.E8.O0 B3),(1000002,.rs 95 3 s.y9 u3)] (fun _=>.Q1 []) (fun r=>[(900000,.rs 267 7 r.E8.O0 B3),(1000000,.box (aw1 (G6 r) [(107,.own 900000),(113,.own 1000002)])),(1000002,.rs 95 3 r.y9 u3)]) [900000] (
 .D [] []<| .K (D3 s 0) fun v=>.K (D3 s 1) fun v2=>.Mk aJ9 (s.u.j4.u7.A3.length:Int) 0 fun l=>.K (bi4 s) fun v3=>.Z (.fr 40)<| .Z (.fr 43)<| .D [] [(17,2504),(24,4),(25,5)]<| .KG (aE8 s.u.u6 s.u.j4.u7 s.u.ab0 s.u.u4 (⟨v,v2,s.o8,s.C1,s.aQ0,13500,s.aJ3,s.D5,l,([v3]:List j2)⟩:W9)) [2504] fun r2=>.D [] []<| .K (by6 s.u.u4) fun v4=>.K (bp4 r2.1 r2.2.2 v4) fun v5=>.Pn 2504<| .D [] [(5,2504)]<| .K (bD9 (⟨0,([]:List A2),0⟩:O4)) fun v6=>.KG (bt9 r2.2.1 r2.2.2 v6) [2504] fun v7=>.R ({s with u:=(⟨s.u.u6,v5,s.u.j4,s.u.Q4,s.u.M7,s.u.H8,s.u.M0,s.u.I8,s.u.L6,s.u.F3,s.u.A8,s.u.ab0,s.u.Time⟩:ac3),E8:=v7}:j8))
def U8 (r2:j2):C prog Bool:=.of Z call232 func232 [G7 r2] (fun r=>.t (tB r)) (
 .K (S6 r2) fun v=>.R (!v))
def ar0 (bn9:List Int)(x i below:Int):M prog (Int×Int) (Fl Int Empty):=
 .O (.ix aJ9 bn9 i) fun x2=>.I (decide (x2<=x)) (.R (.next i)) (.R (.next below))
def ae5 (bn9:List Int)(x:Int)(s:Int×Int):M prog (Int×Int) ((Int×Int)⊕((Int×Int)⊕Empty)):=
 .I (decide (s.1>=0)) (.O (.ix aJ9 bn9 s.1) fun x3=>.I (decide (x3>=x)) (.R (.inl (j7 (s.1-1),s.1))) (.R (.inl (j7 (s.1-1),s.2)))) (.R (.inr (.inl (s.1,s.2))))
def ag4 (bn9:List Int)(x:Int):C prog (Int×Int):=.of Z call315 func315 [.t (tS aJ9 bn9),.t (tI x)] (fun r=>.Q1 [.t (tI r.1),.t (tI r.2)]) (
 M.QN (bn9.length:Int) 2 11 (fun(t:Int)=>[.t 4 (.t (tI t))]) 0 (.e) (ar0 bn9 x) 0 (fun cJ4=>.L (fun(t:Int×Int)=>[.t 5 (.t (tI t.2)),.t 8 (.t (tI t.1))]) 2 (.e) (ae5 bn9 x) (j7 ((bn9.length:Int)-1),j7 ((bn9.length:Int)-1)) (fun s2=>.O (.ix aJ9 bn9 0) fun x4=>.I (decide (x<x4)) (.R (cJ4,0)) (.R (cJ4,s2.2))) (fun t=>t.elim)) (fun t=>t.elim))
def X9 (m2:SMap)(x y:Int):C prog Int:=.of Z call234 func234 [dg8 m2,.t (tI x),.t (tI y)] (fun r=>.t (tI r)) (
 .K (ag4 m2.X x) fun r2=>.K (ag4 m2.Y y) fun r3=>.D [] []<| .O (.ix (dn6 aJ9) m2.Z r2.1) fun x2=>.O (.ix aJ9 x2 r3.1) fun x3=>.W (.hx 1)<| .O (.ix aJ9 x2 r3.2) fun x4=>.O (.ix (dn6 aJ9) m2.Z r2.2) fun x5=>.O (.ix aJ9 x5 r3.1) fun x6=>.W (.hx 1)<| .O (.ix aJ9 x5 r3.2) fun x7=>.R (G4 (G4 (G4 x3 x4) x6) x7))
def ax6 (r2:j2):C prog Bool:=.of Z call235 func235 [G7 r2] (fun r=>.t (tB r)) (
 .R ((r2.Kind==2)||(r2.Kind==3)))
set_option maxHeartbeats 4000000
def ag2 (_:Int)(x:j2)(s:Int×Int):M prog (Int×Int) (Fl (Int×Int) Empty):=
 .W (.hx 0)<| .K (ax6 x) fun v6=>.I (!v6) (.R (.next (s.1,s.2))) (.I (x.N3==1) (.R (.next (G4 s.1 (F2 x.o9 1500),G4 s.2 x.E6))) (.R (.next (s.1,G4 s.2 x.E6))))
def ag3 (s2:Int×Int)(_:Int)(x2:j2)(au2:Int):M prog (Int×Int) (Fl Int Empty):=
 .W (.hx 0)<| .I ((x2.Kind==1)&&(decide (x2.E6>s2.2))) (.R (.next (F2 au2 x2.o9))) (.R (.next au2))
def ae4 (t2:o7)(bf8 o8:Int)(l:List j2):C prog (Int×Int):=.of Z call150 func150 [T0 t2,.t (tI bf8),.t (tI o8),.t (tS C8 l)] (fun r=>.Q1 [.t (tI r.1),.t (tI r.2)]) (
 .K (J4 t2.aH9) fun v=>.G (!v) (.R true) (.K (D7 l (.of (fun z_=>U8 z_) 232 [])) fun v2=>.R v2) fun b2=>.I b2 (.R (0,1)) (.I (decide ((l.length:Int)>32)) (.R (0,5)) (.K (N0 bf8 0 1000) fun v3=>.G (!v3) (.R true) (.K (N0 o8 0 12000) fun v4=>.R (!v4)) fun b3=>.I b3 (.R (0,2)) (.K (X9 t2.aH9 o8 bf8) fun v5=>M.Q C8 l 2 49 (fun(t:Int×Int)=>[.t 11 (.t (tI t.1)),.t 12 (.t (tI t.2)),.x 4,.x 19,.x 40,.d 4]) 1 (.e) (ag2) ((-5000),(-1)) (fun s2=>M.Q C8 l 2 71 (fun(t:Int)=>[.t 15 (.t (tI t))]) 3 (.e) (ag3 s2) 10000 (fun dH3=>.R (j7 ((G4 0 (F2 dH3 (G4 (F2 (G4 v5 (-5000)) 10000) s2.1)))+100),0)) (fun t=>t.elim)) (fun t=>t.elim)))))
def aq9 (_:Int)(x:A2)(n2:Int):M prog (Int×Int) (Fl Int Empty):=
 .W (.hx 0)<| .I (x.Y8 !=0) (.R (.next (j7 (n2+1)))) (.R (.next n2))
def ax5 (t2:o7)(o8 A0:Int)(l:List A2):C prog (Int×Int):=.of Z call153 func153 [T0 t2,.t (tI o8),.t (tI A0),.t (tS B3 l)] (fun r=>.Q1 [.t (tI r.1),.t (tI r.2)]) (
 .K (J4 t2.o9) fun v=>.I (!v) (.R (0,1)) (.I (decide ((l.length:Int)>8)) (.R (0,5)) (.K (N0 o8 0 12000) fun v2=>.G (!v2) (.R true) (.K (N0 A0 0 1048576) fun v3=>.R (!v3)) fun b2=>.I b2 (.R (0,2)) (.I ((l.length:Int)==0) (.R (0,0)) (M.Q B3 l 2 38 (fun(t:Int)=>[.t 10 (.t (tI t)),.x 15]) 1 (.e) (aq9) 0 (fun n3=>.K (X9 t2.o9 o8 A0) fun v4=>.O (.quo .i64 (j7 ((j7 ((j7 ((F2 (G4 v4 0) 10000)*n3))+(l.length:Int)))-1)) (l.length:Int)) fun q=>.R (q,0)) (fun t=>t.elim))))))
def au7 (c:j8):CG prog Int:=.of Z call152 func152 [.ptr 1000000 0] [(1000000,.box [.ptr 1000001 0]),(1000001,.box (aw1 (G6 c) [(107,.own 1000002),(113,.own 1000003)])),(1000002,.rs 267 7 c.E8.O0 B3),(1000003,.rs 95 3 c.y9 u3)] (fun r=>.t (tI r)) (fun _=>[(1000000,.box [.ptr 1000001 0]),(1000001,.box (aw1 (G6 c) [(107,.own 1000002),(113,.own 1000003)])),(1000002,.rs 267 7 c.E8.O0 B3),(1000003,.rs 95 3 c.y9 u3)]) [] (
 .D [] []<| .K (ax5 c.u.u6 c.o8 c.A0 c.E8.O0) fun r2=>.R r2.1)
def bQ7 (old:ah9):C prog ah9:=.of Z call155 func155 [bl3 old] (fun r=>.fz 237 [cN3 r]) (
 .Z (.fb 1)<| .R old)
def bv2 (t2:Int):C prog Bool:=.of Z call238 func238 [.t (tI t2)] (fun r=>.t (tB r)) (
 .K (N0 t2 (-20000) 20000) fun v=>.R v)
def aU9 (g:ah9)(V4 dC9:Int):C prog (ah9×Int):=.of Z call156 func156 [bl3 g,.t (tI V4),.t (tI dC9)] (fun r=>.Q1 [bl3 r.1,.t (tI r.2)]) (
 .K (aY4 g) fun v=>.I (!v) (.R ((⟨0,0,false⟩:ah9),1)) (.K (bv2 V4) fun v2=>.G (!v2) (.R true) (.K (bv2 dC9) fun v3=>.R (!v3)) fun b2=>.I b2 (.R ((⟨0,0,false⟩:ah9),2)) (.I (decide (dC9>V4)) (.R ((⟨F2 5 (j7 (g.Over+1)),0,(g.Off||((F2 5 (j7 (g.Over+1)))==5))⟩:ah9),0)) (.R ((⟨0,F2 1000 (j7 (g.Calm+1)),g.Off⟩:ah9),0)))))
def bi2 (S4:ah9)(e2:Int)(c:ah9):C prog ah9:=.of Z call237 func237 [bl3 S4,.t (tI e2),.el (cN3 c)] (fun r=>bl3 r) (
 .I (e2 !=0) (.R c) (.R S4))
def aW3 (i:Int)(f3:List A2):M prog j8 (Fl (List A2) Empty):=
 .O (.ix B3 f3 i) fun x=>.U (.st B3 f3 i ({x with Y8:=0}:A2) 0) fun l2=>.R (.next l2)
def aT6 (s:j8):CG prog j8:=.of Z call82 func82 [.ptr 1000000 0] [(1000000,.box (aw1 (G6 s) [(107,.own 1000001),(113,.own 1000002)])),(1000001,.rs 267 7 s.E8.O0 B3),(1000002,.rs 95 3 s.y9 u3)] (fun _=>.Q1 []) (fun r=>[(1000000,.box (aw1 (G6 r) [(107,.own 1000001),(113,.own 1000002)])),(1000001,.rs 267 7 r.E8.O0 B3),(1000002,.rs 95 3 r.y9 u3)]) [] (
 .K (bi4 s) fun v=>.D [] []<| .K (ax1 s.u.u4.I9.Value s.o8 s.D5) fun v2=>.J0 0 (fun(t:List j2)=>[.t 2 (.own 11),.x 0,.x 9,.x 11,.x 12,.x 13,.x 14,.x 15,.x 16,.x 17,.x 20,.x 21,.x 22,.x 24,.x 25,.x 26,.b 11 (.rs 250 4 t C8)]) (.I v2 (.U (.ap C8 ([v]:List j2) ([(⟨1,2,1500,1⟩:j2)]:List j2) 11) fun l=>.R l) (.R ([v]:List j2))) fun f2=>.D [] [(18,1000000)]<| .K (ae4 s.u.u6 s.u.u4.I9.Value s.o8 f2) fun r2=>.D [] [(24,1000000)]<| .K (aC0 s.u.u6 s.o8 s.C1 s.aQ0) fun r3=>.KG (au7 ({s with V4:=r2.1,A0:=r3.1}:j8)) [] fun v3=>.K (O5 ({s with V4:=r2.1,A0:=r3.1}:j8) 7) fun r4=>.J0 0 (fun(t:Int×Bool×List A2)=>[.t 5 (.t (tI t.1)),.x 2,.x 4,.x 34,.x 35,.x 36,.x 37,.x 38,.x 41,.x 42,.x 43,.x 45,.x 49,.x 50,.x 52,.x 53,.x 54,.x 55,.x 56,.x 58,.x 59,.x 60,.x 62,.x 63,.x 64,.x 66,.x 67,.x 68,.x 73,.x 74,.x 75,.x 76,.x 79,.x 84,.x 85,.x 86,.c 1000000 112 [.t (tB t.2.1)],.b 1000001 (.rs 267 7 t.2.2 B3),.d 11]) (.I ((decide (v3>r2.1))&&(!r4.2)) (M.QN (s.E8.O0.length:Int) 2 102 (fun(t:List A2)=>[.x 2,.x 34,.x 35,.x 36,.x 37,.x 38,.x 41,.x 42,.x 43,.x 45,.x 49,.x 50,.x 52,.x 53,.x 54,.x 55,.x 56,.x 58,.x 59,.x 60,.x 62,.x 63,.x 64,.x 66,.x 67,.x 68,.x 73,.x 74,.x 75,.x 76,.x 79,.x 84,.x 85,.x 86,.x 93,.x 94,.x 95,.x 96,.x 97,.x 98,.x 99,.x 100,.b 1000001 (.rs 267 7 t B3),.d 11]) 0 (.e) (aW3) s.E8.O0 (fun f4=>.KG (au7 ({s with E8:=(⟨s.E8.J2,f4,s.E8.o9⟩:O4),V4:=r2.1,A0:=r3.1,cut:=true}:j8)) [] fun v4=>.R (v4,true,f4)) (fun t=>t.elim)) (.R (v3,s.cut,s.E8.O0))) fun s2=>.D [] []<| .K (bQ7 s.u.M0) fun v5=>.K (aU9 s.u.M0 r2.1 s2.1) fun r5=>.K (bi2 r5.1 r5.2 v5) fun v6=>.R ({s with u:=(⟨s.u.u6,s.u.u4,s.u.j4,s.u.Q4,s.u.M7,s.u.H8,v6,s.u.I8,s.u.L6,s.u.F3,s.u.A8,s.u.ab0,s.u.Time⟩:ac3),E8:=(⟨s.E8.J2,s2.2.2,s.E8.o9⟩:O4),V4:=r2.1,A0:=r3.1,cut:=s2.2.1}:j8))
def ac4 (a b2:Int):C prog Int:=.of Z call157 func157 [.t (tI a),.t (tI b2)] (fun r=>.t (tI r)) (
 .I ((b2==0)||(b2==(-1))) (.R 0) (.O (.rem a b2) fun q=>.I ((q !=0)&&(!((decide (q<0))==(decide (b2<0))))) (.R (j7 (q+b2))) (.R q)))
def cw2 (n2:Int):C prog Bool:=.of Z call241 func241 [.t (tI n2)] (fun r=>.t (tB r)) (
 .R ((decide (n2>=0))&&(decide (n2<=65535))))
def dm6 (p2:Int):C prog Bool:=.of Z call318 func318 [.t (tI p2)] (fun r=>.t (tB r)) (
 .K (cw2 p2) fun v=>.R (!v))
def bK3 (l:List Int):C prog Bool:=.of Z call239 func239 [.t (tS aJ9 l)] (fun r=>.t (tB r)) (
 .G ((decide ((l.length:Int)>=1))&&(decide ((l.length:Int)<=16))) (.K (o6 l (.of (fun z_=>dm6 z_) 318 [])) fun v=>.R (!v)) (.R false) fun b2=>.R b2)
def bv7 (_ x a:Int):M prog (Int×Int) (Fl Int Empty):=
 .W (.hx 0)<| .R (.next (T2 .i64 (j7 ((j7 ((j7 (5*a))+x))+1)) 65535))
def bn2 (n2:Int)(l:List Int):C prog (Int×Int):=.of Z call158 func158 [.t (tI n2),.t (tS aJ9 l)] (fun r=>.Q1 [.t (tI r.1),.t (tI r.2)]) (
 .K (bK3 l) fun v=>.I (!v) (.R (0,1)) (.K (aY6 n2) fun v2=>.I (!v2) (.R (0,2)) (M.Q aJ9 l 2 18 (fun(t:Int)=>[.t 6 (.t (tI t))]) 0 (.e) (bv7) n2 (fun a2=>.R (a2,0)) (fun t=>t.elim))))
def bA4 (old:ab4):C prog ab4:=.of Z call159 func159 [aT0 old] (fun r=>.fz 240 [db7 r]) (
 .Z (.fb 1)<| .R old)
def cR9 (q:ab4)(right:Bool):C prog ab4:=.of Z call242 func242 [aT0 q,.t (tB right)] (fun r=>aT0 r) (
 .J0 0 (fun(t:Int)=>[.x 5,.x 6,.c 2 2 [.t (tI t)]]) (.I right (.R (G4 (j7 (q.P2-1)) 0)) (.R (F2 (j7 (q.P2+2)) 7))) fun f2=>.R (⟨q.Question,0,f2,false,(f2==7)⟩:ab4))
def ce8 (q:ab4)(now answer:Int)(l:List Int):C prog (ab4×Int):=.of Z call160 func160 [aT0 q,.t (tI now),.t (tI answer),.t (tS aJ9 l)] (fun r=>.Q1 [aT0 r.1,.t (tI r.2)]) (
 .K (bj3 q) fun v=>.G (!v) (.R true) (.K (bK3 l) fun v2=>.R (!v2)) fun b2=>.I b2 (.R ((⟨0,0,0,false,false⟩:ab4),1)) (.K (br0 now) fun v3=>.G (!v3) (.R true) (.K (cw2 answer) fun v4=>.R (!v4)) fun b3=>.I b3 (.R ((⟨0,0,0,false,false⟩:ab4),2)) (.I (!q.Open) (.R ((⟨0,0,0,false,false⟩:ab4),6)) (.I (decide (now<q.am7)) (.R ((⟨0,0,0,false,false⟩:ab4),16)) (.K (bn2 q.Question l) fun r2=>.K (cR9 q (((r2.1==answer)&&(decide ((j7 (now-q.am7))>=10000)))&&(decide ((j7 (now-q.am7))<=20000)))) fun v5=>.R (v5,0))))))
def cw1 (n2:Int):C prog Int:=.of Z call243 func243 [.t (tI n2)] (fun r=>.t (tI r)) (
 .K (aY6 n2) fun v=>.I (!v) (.R 0) (.I ((T2 .i64 n2 1)==1) (.R (dD9 .i64 (F5 .i64 n2 1) 46080)) (.R (F5 .i64 n2 1))))
def cR7 (q:ab4)(now:Int):C prog (ab4×Int×Int):=.of Z call161 func161 [aT0 q,.t (tI now)] (fun r=>.Q1 [aT0 r.1,.t (tI r.2.1),.t (tI r.2.2)]) (
 .K (bj3 q) fun v=>.I (!v) (.R ((⟨0,0,0,false,false⟩:ab4),0,1)) (.K (br0 now) fun v2=>.I (!v2) (.R ((⟨0,0,0,false,false⟩:ab4),0,2)) (.I (q.Open||q.Off) (.R ((⟨0,0,0,false,false⟩:ab4),0,6)) (.K (cw1 q.Question) fun v3=>.D [] [(3,4)]<| .R ((⟨v3,now,q.P2,true,q.Off⟩:ab4),v3,0)))))
def aZ6 (S4:ab4)(e2:Int)(c:ab4):C prog ab4:=.of Z call240 func240 [aT0 S4,.t (tI e2),.el (db7 c)] (fun r=>aT0 r) (
 .I (e2 !=0) (.R c) (.R S4))
def av8 (s:j8):CG prog j8:=.of Z call83 func83 [.ptr 1000000 0] [(1000000,.box (aw1 (G6 s) [(113,.own 1000001)])),(1000001,.rs 95 3 s.y9 u3)] (fun _=>.Q1 []) (fun r=>[(1000000,.box (aw1 (G6 r) [(113,.own 1000001)])),(1000001,.rs 95 3 r.y9 u3)]) [] (
 .J0 0 (fun(t:ab4)=>[.x 10,.x 11,.x 12,.x 13,.x 14,.c 1000000 66 [.t (tI t.Question),.t (tI t.am7),.t (tI t.P2),.t (tB t.Open),.t (tB t.Off)]]) (.I s.u.I8.Open (.D [] []<| .K (ac4 s.V4 65536) fun v=>.K (bn2 s.u.I8.Question ([s.o8,v,7]:List Int)) fun r2=>.K (O5 s 6) fun r3=>.J0 0 (fun(t:Int)=>[.t 3 (.t (tI t)),.x 10,.x 11,.x 12,.x 13,.x 14,.x 16,.x 17,.x 18,.x 20,.x 21,.x 22,.x 25,.x 27,.x 28,.x 29,.x 30,.x 31,.x 33,.x 38]) (.I r3.2 (.K (ac4 (j7 (r2.1+r3.1)) 65536) fun v2=>.R v2) (.R r2.1)) fun answer=>.D [] []<| .K (bA4 s.u.I8) fun v3=>.K (ce8 s.u.I8 s.t answer ([s.o8,v,7]:List Int)) fun r4=>.K (aZ6 r4.1 r4.2 v3) fun v4=>.R v4) (.R s.u.I8)) fun f2=>.D [] [(15,7)]<| .K (cR7 f2 s.t) fun r5=>.D [] []<| .K (bA4 f2) fun v5=>.K (aZ6 r5.1 r5.2.2 v5) fun v6=>.R ({s with u:=(⟨s.u.u6,s.u.u4,s.u.j4,s.u.Q4,s.u.M7,s.u.H8,s.u.M0,v6,s.u.L6,s.u.F3,s.u.A8,s.u.ab0,s.u.Time⟩:ac3)}:j8))
def bQ8 (old:ao6):C prog ao6:=.of Z call162 func162 [bl4 old] (fun r=>.fz 244 [bu3 r]) (
 .Z (.fb 1)<| .R old)
def bT9 (key:Bool)(g:ah9)(q:ab4):C prog Int:=.of Z call245 func245 [.t (tB key),bl3 g,aT0 q] (fun r=>.t (tI r)) (
 .I (!key) (.R 1) (.I g.Off (.R 2) (.I q.Off (.R 3) (.R 0))))
def cf8 (s:ao6)(key:Bool)(g:ah9)(q:ab4)(now:Int):C prog (ao6×Int):=.of Z call163 func163 [bl4 s,.t (tB key),bl3 g,aT0 q,.t (tI now)] (fun r=>.Q1 [bl4 r.1,.t (tI r.2)]) (
 .K (bn4 s) fun v=>.G (!v) (.R true) (.K (aY4 g) fun v2=>.R (!v2)) fun b2=>.G b2 (.R true) (.K (bj3 q) fun v3=>.R (!v3)) fun b3=>.I b3 (.R ((⟨false,0,0⟩:ao6),1)) (.K (bK8 now) fun v4=>.I (!v4) (.R ((⟨false,0,0⟩:ao6),2)) (.I (decide (now<s.aQ4)) (.R ((⟨false,0,0⟩:ao6),16)) (.D [] []<| .K (bT9 key g q) fun v5=>.I (!((v5==0)==s.U2)) (.R ((⟨(v5==0),v5,now⟩:ao6),0)) (.R ((⟨(v5==0),v5,s.aQ4⟩:ao6),0))))))
def aC5 (old:j1):C prog j1:=.of Z call166 func166 [S0 old] (fun r=>.fz 251 [be8 r]) (
 .Z (.fb 1)<| .R old)
def an2 (S4:j1)(e2:Int)(c:j1):C prog j1:=.of Z call251 func251 [S0 S4,.t (tI e2),.el (be8 c)] (fun r=>S0 r) (
 .I (e2 !=0) (.R c) (.R S4))
def aG9 (s:j8)(S4:j1)(l:List j6)(e2:Int):CG prog j8:=.of Z call164 func164 [.ptr 1000000 0,S0 S4,.t (tS u3 l),.t (tI e2)] [(1000000,.box (aw1 (G6 s) [(113,.own 1000001)])),(1000001,.rs 95 3 s.y9 u3)] (fun _=>.Q1 []) (fun r=>[(900000,.rs 95 3 r.y9 u3),(1000000,.box (aw1 (G6 r) [(113,.own 900000)]))]) [900000] (
 .D [] []<| .K (aC5 s.u.j4) fun v=>.K (an2 S4 e2 v) fun v2=>.I (e2==0) (.Z (.rn [(1000001,2232)])<| .U (.ap u3 s.y9 l 2232) fun l2=>.R ({s with u:=(⟨s.u.u6,s.u.u4,v2,s.u.Q4,s.u.M7,s.u.H8,s.u.M0,s.u.I8,s.u.L6,s.u.F3,s.u.A8,s.u.ab0,s.u.Time⟩:ac3),y9:=l2}:j8)) (.R ({s with u:=(⟨s.u.u6,s.u.u4,v2,s.u.Q4,s.u.M7,s.u.H8,s.u.M0,s.u.I8,s.u.L6,s.u.F3,s.u.A8,s.u.ab0,s.u.Time⟩:ac3)}:j8)))
def U0 (s:List A2):C prog (List A2):=.of Z call253 func253 [.t (tS B3 s)] (fun r=>.t (tS B3 r)) (
 .Nl B3 s (.I true (.R ([]:List A2)) .N) (fun s=>.I false .N (.U (.ap B3 ([]:List A2) s 5) fun l=>.R l)))
def aj8 (s:List A6):CG prog (List A6):=.of Z call319 func319 [.t (tS I2 s)] [] (fun _=>.own 900000) (fun r=>[(900000,.rs 221 7 r I2)]) [900000] (
 .Nl I2 s (.I true (.Z (.np 2 70000 221 7 [])<| .R ([]:List A6)) .N) (fun s=>.I false .N (.U (.ap I2 ([]:List A6) s 5) fun l=>.R l)))
def L3 (s:j1):CG prog j1:=.of Z call246 func246 [S0 s] [] (fun r=>.agg [.t (tS aJ9 r.u7.A3),.t (tI r.u7.as4),.t (tB r.B1.X5),.t (tI r.B1.At),.t (tI r.B1.H6),.t (tI r.B1.F9),.t (tI r.B1.aa9),.t (tI r.B1.as3),.t (tI r.k6.V0),.t (tS E7 r.k6.j3),.t (tS B3 r.Next),.own 900000,.t (tB r.Cut)]) (fun r=>[(900000,.rs 221 7 r.H3 I2)]) [900000] (
 .KG (aj8 s.H3) [2040] fun v=>.K (U0 s.Next) fun v2=>.R ({s with Next:=v2,H3:=v}:j1))
def ah1 (t2:u9)(channel:Int):CG prog (u9×Int):=.of Z call320 func320 [aN1 t2,.t (tI channel)] [] (fun r=>.Q1 [.agg [.t (tI r.1.V0),.own 900000],.t (tI r.2)]) (fun r=>[(900000,.rs 327 4 r.1.j3 E7)]) [900000] (
 .K (ao1 t2) fun v=>.I (!v) (.Z (.nb 4 70000 327 4 [1])<| .R ((⟨0,([]:List j9)⟩:u9),1)) (.I ((decide (channel<0))||(decide (channel>=(t2.j3.length:Int)))) (.Z (.nb 4 70000 327 4 [1])<| .R ((⟨0,([]:List j9)⟩:u9),2)) (.Mk E7 (t2.j3.length:Int) (⟨false,0,false,false⟩:j9) fun l=>.U (.cp E7 l t2.j3) fun l2=>.R ((⟨t2.V0,l2⟩:u9),0))))
def aG5 (t2:u9)(channel:Int)(level:Bool):C prog (u9×List j6×Int):=.of Z call247 func247 [aN1 t2,.t (tI channel),.t (tB level)] (fun r=>.Q1 [aN1 r.1,.t (tS u3 r.2.1),.t (tI r.2.2)]) (
 .KG (ah1 t2 channel) [2112] fun r2=>.I (r2.2 !=0) (.R ((⟨0,([]:List j9)⟩:u9),([]:List j6),r2.2)) (.O (.ix E7 r2.1.j3 channel) fun _=>.U (.st E7 r2.1.j3 channel (⟨false,0,false,level⟩:j9) 0) fun l=>.O (.ix E7 t2.j3 channel) fun x2=>.I (x2.K1==level) (.R ((⟨r2.1.V0,l⟩:u9),([]:List j6),0)) (.D [] [(7,6)]<| .R ((⟨r2.1.V0,l⟩:u9),([(⟨t2.V0,channel,level⟩:j6)]:List j6),0))))
def az7 (t2:u9)(channel:Int):C prog (u9×Int):=.of Z call248 func248 [aN1 t2,.t (tI channel)] (fun r=>.Q1 [aN1 r.1,.t (tI r.2)]) (
 .KG (ah1 t2 channel) [2088] fun r2=>.I (r2.2 !=0) (.R ((⟨0,([]:List j9)⟩:u9),r2.2)) (.D [] []<| .O (.ix E7 t2.j3 channel) fun x=>.O (.ix E7 r2.1.j3 channel) fun _=>.U (.st E7 r2.1.j3 channel (⟨false,0,false,x.K1⟩:j9) 0) fun l=>.R ((⟨r2.1.V0,l⟩:u9),0)))
def at4 (j:A6)(c:Int):C prog Bool:=.of Z call249 func249 [bd4 j,.el (aJ9 c)] (fun r=>.t (tB r)) (
 .D [] []<| .K (H2 j.Event) fun v=>.R (v==c))
def aJ8 (t2:u9)(channel aZ2:Int)(level:Bool):C prog (u9×Int):=.of Z call250 func250 [aN1 t2,.t (tI channel),.t (tI aZ2),.t (tB level)] (fun r=>.Q1 [aN1 r.1,.t (tI r.2)]) (
 .KG (ah1 t2 channel) [2120] fun r2=>.I (r2.2 !=0) (.R ((⟨0,([]:List j9)⟩:u9),r2.2)) (.I (decide (aZ2<=t2.V0)) (.R ((⟨0,([]:List j9)⟩:u9),16)) (.I (decide (aZ2>1099511627776)) (.R ((⟨0,([]:List j9)⟩:u9),2)) (.D [] []<| .O (.ix E7 t2.j3 channel) fun x=>.O (.ix E7 r2.1.j3 channel) fun _=>.U (.st E7 r2.1.j3 channel (⟨true,aZ2,level,x.K1⟩:j9) 0) fun l=>.R ((⟨r2.1.V0,l⟩:u9),0)))))
def ac9 (s:j1)(i:Int)(s2:List j6×u9×List A6):M prog (j1×List j6×Int) (Fl (List j6×u9×List A6) Empty):=
 .O (.ix E7 s.k6.j3 i) fun x=>.I (x.K1&&((!((ed7 i 2)==0))||(s.k6.V0==1099511627776))) (.K (aG5 s2.2.1 i false) fun r2=>.U (.ap u3 s2.1 r2.2.1 2528) fun l=>.R (.next (l,r2.1,s2.2.2))) (.K (az7 s2.2.1 i) fun r3=>.I (!x.K1) (.R (.next (s2.1,r3.1,s2.2.2))) (.Z (.fb 8)<| .K (C2 s.H3 (.of (fun z_=>at4 z_ i) 249 [aJ9 i])) fun v3=>.O (.ix I2 s.H3 v3) fun x2=>.J0 0 (fun(t:Int)=>[.x 9,.x 44,.x 68,.x 75,.x 76,.x 79,.x 83,.x 88,.c 17 6 [.t (tI t)],.d 9]) (.I ((!x2.E0)||(decide (x2.At>(j7 (s.k6.V0+5000))))) (.R (F2 (j7 (s.k6.V0+5000)) 1099511627776)) (.R x2.At)) fun f2=>.K (aJ8 r3.1 i f2 false) fun r4=>.U (.ap I2 s2.2.2 ([(⟨x2.Event,x2.Left,true,f2⟩:A6)]:List A6) 2944) fun l2=>.R (.next (s2.1,r4.1,l2))))
def ap0 (s:j1):C prog (j1×List j6×Int):=.of Z call165 func165 [S0 s] (fun r=>.Q1 [S0 r.1,.t (tS u3 r.2.1),.t (tI r.2.2)]) (
 .K (J8 s) fun v=>.I (!v) (.R ((⟨(⟨([]:List Int),0⟩:o5),(⟨false,0,0,0,0,0⟩:E3),(⟨0,([]:List j9)⟩:u9),([]:List A2),([]:List A6),false⟩:j1),([]:List j6),1)) (.K ((L3 s).f rfl (fun _=>rfl)) fun v2=>.I s.Cut (.R (v2,([]:List j6),0)) (.Z (.np 7 2528 95 3 [])<| .Z (.nb 5 2944 221 7 [11])<|M.QN (s.k6.j3.length:Int) 2 36 (fun(t:List j6×u9×List A6)=>[.t 7 (.own 2528),.x 24,.x 27,.x 28,.x 29,.x 30,.x 32,.x 33,.c 5 8 [.t (tI t.2.1.V0),.t (tS E7 t.2.1.j3)],.b 2528 (.rs 95 3 t.1 u3),.b 2944 (.rs 221 7 t.2.2 I2)]) 0 (.e) (ac9 s) (([]:List j6),v2.k6,([]:List A6)) (fun s3=>.R ((⟨v2.u7,v2.B1,s3.2.1,v2.Next,s3.2.2,true⟩:j1),s3.1,0)) (fun t=>t.elim))))
def ag6 (x:j9):C prog Bool:=.of Z call252 func252 [ba5 x] (fun r=>.t (tB r)) (
 .R x.K1)
def ad0 (s:j1):C prog (j1×Int):=.of Z call167 func167 [S0 s] (fun r=>.Q1 [S0 r.1,.t (tI r.2)]) (
 .K (J8 s) fun v=>.I (!v) (.R ((⟨(⟨([]:List Int),0⟩:o5),(⟨false,0,0,0,0,0⟩:E3),(⟨0,([]:List j9)⟩:u9),([]:List A2),([]:List A6),false⟩:j1),1)) (.G (!s.Cut) (.R true) (.K (G5 s.k6.j3 (.of (fun z_=>ag6 z_) 252 [])) fun v2=>.R v2) fun b2=>.I b2 (.R ((⟨(⟨([]:List Int),0⟩:o5),(⟨false,0,0,0,0,0⟩:E3),(⟨0,([]:List j9)⟩:u9),([]:List A2),([]:List A6),false⟩:j1),6)) (.K ((L3 s).f rfl (fun _=>rfl)) fun v3=>.R (({v3 with Cut:=false}:j1),0))))
def ar2 (s:j1)(l:List A2):C prog (j1×Int):=.of Z call168 func168 [S0 s,.t (tS B3 l)] (fun r=>.Q1 [S0 r.1,.t (tI r.2)]) (
 .K (J8 s) fun v=>.G (!v) (.R true) (.K (ab6 s.u7 l) fun v2=>.R (!v2)) fun b2=>.I b2 (.R ((⟨(⟨([]:List Int),0⟩:o5),(⟨false,0,0,0,0,0⟩:E3),(⟨0,([]:List j9)⟩:u9),([]:List A2),([]:List A6),false⟩:j1),1)) (.K ((L3 s).f rfl (fun _=>rfl)) fun v3=>.K (U0 l) fun v4=>.R (({v3 with Next:=v4}:j1),0)))
def bi3 (S4:ao6)(e2:Int)(c:ao6):C prog ao6:=.of Z call244 func244 [bl4 S4,.t (tI e2),.el (bu3 c)] (fun r=>bl4 r) (
 .I (e2 !=0) (.R c) (.R S4))
def aZ8 (s:j8):CG prog j8:=.of Z call84 func84 [.ptr 1000000 0] [(1000000,.box (aw1 (G6 s) [(113,.own 1000001)])),(1000001,.rs 95 3 s.y9 u3)] (fun _=>.Q1 []) (fun r=>[(900000,.rs 95 3 r.y9 u3),(1000000,.box (aw1 (G6 r) [(113,.own 900000)]))]) [900000] (
 .D [] []<| .K (bQ8 s.u.L6) fun v=>.K (cf8 s.u.L6 true s.u.M0 s.u.I8 s.t) fun r2=>.K (bi3 r2.1 r2.2 v) fun v2=>.I (!v2.U2) (.K (ap0 s.u.j4) fun r3=>.KG (aG9 ({s with u:=(⟨s.u.u6,s.u.u4,s.u.j4,s.u.Q4,s.u.M7,s.u.H8,s.u.M0,s.u.I8,v2,s.u.F3,s.u.A8,s.u.ab0,s.u.Time⟩:ac3)}:j8) r3.1 r3.2.1 r3.2.2) [2416] fun v3=>.R v3) (.J0 0 (fun(t:j1)=>[.x 2,.x 3,.x 4,.x 5,.x 6,.x 9,.x 10,.x 11,.x 12,.x 14,.x 15,.x 16,.x 17,.x 19,.x 20,.x 21,.x 22,.x 24,.x 25,.x 26,.x 32,.x 33,.x 34,.x 35,.x 36,.x 37,.x 38,.x 39,.x 53,.x 54,.x 55,.x 56,.x 57,.c 1000000 37 [.t (tS aJ9 t.u7.A3),.t (tI t.u7.as4),.t (tB t.B1.X5),.t (tI t.B1.At),.t (tI t.B1.H6),.t (tI t.B1.F9),.t (tI t.B1.aa9),.t (tI t.B1.as3),.t (tI t.k6.V0),.t (tS E7 t.k6.j3),.t (tS B3 t.Next),.t (tS I2 t.H3),.t (tB t.Cut)]]) (.I s.u.j4.Cut (.D [] []<| .K (aC5 s.u.j4) fun v4=>.K (ad0 s.u.j4) fun r4=>.K (an2 r4.1 r4.2 v4) fun v5=>.R v5) (.R s.u.j4)) fun f2=>.D [] []<| .K (aC5 f2) fun v6=>.K (ar2 f2 s.E8.O0) fun r5=>.K (an2 r5.1 r5.2 v6) fun v7=>.R ({s with u:=(⟨s.u.u6,s.u.u4,v7,s.u.Q4,s.u.M7,s.u.H8,s.u.M0,s.u.I8,v2,s.u.F3,s.u.A8,s.u.ab0,s.u.Time⟩:ac3)}:j8)))
def V5 (j:A6)(c:Int):C prog Bool:=.of Z call374 func374 [bd4 j,.el (aJ9 c)] (fun r=>.t (tB r)) (
 .D [] []<| .K (H2 j.Event) fun v=>.R (v==c))
def az6 (a b2:Int):C prog Int:=.of Z call375 func375 [.t (tI a),.t (tI b2)] (fun r=>.t (tI r)) (
 .O (.quo .i64 a b2) fun q=>.O (.rem a b2) fun q2=>.I (decide (q2>0)) (.R (j7 (q+1))) (.R q))
def V6 (s:j1)(i:Int)(s2:u9×List A6):M prog j1 (Fl (u9×List A6) Empty):=
 .Z (.fb 2)<| .K (C2 s2.2 (.of (fun z_=>V5 z_ i) 374 [aJ9 i])) fun v=>.J0 1 (fun(t:Bool)=>[.t 44 (.t (tB t)),.x 21,.x 22,.x 23,.x 24]) (.D [] []<| .Sp (decide (v<0)) (.R true) (.O (.ix I2 s2.2 v) fun x=>.W (.ly 0)<| .R (decide (x.Left>s.B1.as3)))) fun v2=>.I v2 (.R (.next (s2.1,s2.2))) (.O (.ix I2 s2.2 v) fun x2=>.D [] []<| .W (.ly 0)<| .K (az6 (j7 (x2.Left*s.B1.F9)) s.B1.aa9) fun v3=>.I (decide ((G4 (j7 (s.B1.At+v3)) (j7 (s2.1.V0+1)))>1099511627776)) (.R (.next (s2.1,s2.2))) (.D [] [(17,6)]<| .W (.ly 0)<| .K (ar4 x2.Event.Kind) fun v4=>.K (aJ8 s2.1 i (G4 (j7 (s.B1.At+v3)) (j7 (s2.1.V0+1))) v4) fun r2=>.I (r2.2==0) (.U (.st I2 s2.2 v ({x2 with E0:=true}:A6) 0) fun l=>.U (.st I2 l v (⟨x2.Event,x2.Left,true,G4 (j7 (s.B1.At+v3)) (j7 (s2.1.V0+1))⟩:A6) 0) fun l2=>.R (.next (r2.1,l2))) (.R (.next (s2.1,s2.2)))))
def ak9 (s:j1):CG prog j1:=.of Z call332 func332 [.ptr 1000000 0] [(1000000,.box (aw1 (aL5 s) [(11,.own 1000001)])),(1000001,.rs 221 7 s.H3 I2)] (fun _=>.Q1 []) (fun r=>[(1000000,.box (aw1 (aL5 r) [(11,.own 1000001)])),(1000001,.rs 221 7 r.H3 I2)]) [] (
 .I s.Cut (.R s) (M.QN (s.k6.j3.length:Int) 2 18 (fun(t:u9×List A6)=>[.x 8,.x 9,.x 10,.x 12,.x 13,.x 14,.x 15,.c 1000000 8 [.t (tI t.1.V0),.t (tS E7 t.1.j3)],.b 1000001 (.rs 221 7 t.2 I2)]) 0 (.e) (V6 s) (s.k6,s.H3) (fun s3=>.R ({s with k6:=s3.1,H3:=s3.2}:j1)) (fun t=>t.elim)))
def aH4 (_:Int)(x:j9)(s:Int×Bool):M prog (Int×Bool) (Fl (Int×Bool) Empty):=
 .W (.hx 0)<| .I (x.E0&&((!s.2)||(decide (x.At<s.1)))) (.R (.next (x.At,true))) (.R (.next (s.1,s.2)))
def aM9 (t2:u9):C prog (Int×Bool):=.of Z call333 func333 [aN1 t2] (fun r=>.Q1 [.t (tI r.1),.t (tB r.2)]) (
 .K (ao1 t2) fun v=>.I (!v) (.R (0,false)) (M.Q E7 t2.j3 2 14 (fun(t:Int×Bool)=>[.t 4 (.t (tI t.1)),.t 5 (.t (tB t.2)),.x 1,.x 11,.d 1]) 0 (.e) (aH4) (0,false) (fun s2=>.R (s2.1,s2.2)) (fun t=>t.elim)))
def co6:Go.Shelf.Ren:=⟨fun|6=>376|14=>404|15=>405|20=>424|21=>425|22=>426|23=>427|24=>428|25=>429|26=>430|27=>431|28=>432|29=>433|46=>447|47=>448|48=>449|49=>450|50=>451|57=>465|n=>n,fun|0=>0|3=>3|4=>4|5=>5|9=>9|22=>88|24=>95|25=>454|39=>317|45=>487|46=>488|50=>234|53=>383|55=>386|66=>503|70=>507|76=>516|77=>338|n=>n,fun|n=>n⟩
open Go.Shelf in
theorem et7:SlLaysF0.n6 prog co6:={
 mixed:=by kernel_rfl,
 f6:=⟨Tryz.f376.name,by decide,func376.trans (congrArg some (by kernel_rfl))⟩,
 f14:=⟨Tryz.f404.name,by decide,func404.trans (congrArg some (by kernel_rfl))⟩,
 f15:=func405.trans (congrArg some (by kernel_rfl)),
 f20:=⟨Tryz.f424.name,by decide,func424.trans (congrArg some (by kernel_rfl))⟩,
 f21:=⟨Tryz.f425.name,by decide,func425.trans (congrArg some (by kernel_rfl))⟩,
 f22:=⟨Tryz.f426.name,by decide,func426.trans (congrArg some (by kernel_rfl))⟩,
 f23:=⟨Tryz.f427.name,by decide,func427.trans (congrArg some (by kernel_rfl))⟩,
 f24:=⟨Tryz.f428.name,by decide,func428.trans (congrArg some (by kernel_rfl))⟩,
 f25:=⟨Tryz.f429.name,by decide,func429.trans (congrArg some (by kernel_rfl))⟩,
 f26:=⟨Tryz.f430.name,by decide,func430.trans (congrArg some (by kernel_rfl))⟩,
 f27:=⟨Tryz.f431.name,by decide,func431.trans (congrArg some (by kernel_rfl))⟩,
 f28:=func432.trans (congrArg some (by kernel_rfl)),
 f29:=func433.trans (congrArg some (by kernel_rfl)),
 f46:=⟨Tryz.f447.name,by decide,func447.trans (congrArg some (by kernel_rfl))⟩,
 f47:=func448.trans (congrArg some (by kernel_rfl)),
 f48:=func449.trans (congrArg some (by kernel_rfl)),
 f49:=⟨Tryz.f450.name,by decide,func450.trans (congrArg some (by kernel_rfl))⟩,
 f50:=⟨Tryz.f451.name,by decide,func451.trans (congrArg some (by kernel_rfl))⟩,
 f57:=⟨Tryz.f465.name,by decide,func465.trans (congrArg some (by kernel_rfl))⟩,
 t0:=Tryz.underlying0,
 a0:=Tryz.isAgg0,
 z0:=Tryz.sizeOf0,
 v0:=Tryz.zeroValue0,
 t3:=Tryz.underlying3,
 a3:=Tryz.isAgg3,
 z3:=Tryz.sizeOf3,
 v3:=Tryz.zeroValue3,
 t4:=Tryz.underlying4,
 a4:=Tryz.isAgg4,
 z4:=Tryz.sizeOf4,
 v4:=Tryz.zeroValue4,
 t5:=Tryz.underlying5,
 a5:=Tryz.isAgg5,
 z5:=Tryz.sizeOf5,
 v5:=Tryz.zeroValue5,
 t9:=Tryz.underlying9,
 a9:=Tryz.isAgg9,
 z9:=Tryz.sizeOf9,
 v9:=Tryz.zeroValue9,
 t22:=Tryz.underlying88,
 a22:=Tryz.isAgg88,
 z22:=Tryz.sizeOf88,
 v22:=Tryz.zeroValue88,
 t25:=Tryz.underlying454,
 a25:=Tryz.isAgg454,
 z25:=Tryz.sizeOf454,
 v25:=Tryz.zeroValue454,
 t39:=Tryz.underlying317,
 a39:=Tryz.isAgg317,
 z39:=Tryz.sizeOf317,
 v39:=Tryz.zeroValue317,
 t45:=Tryz.underlying487,
 a45:=Tryz.isAgg487,
 z45:=Tryz.sizeOf487,
 v45:=Tryz.zeroValue487,
 t46:=Tryz.underlying488,
 a46:=Tryz.isAgg488,
 z46:=Tryz.sizeOf488,
 v46:=Tryz.zeroValue488,
 t50:=Tryz.underlying234,
 a50:=Tryz.isAgg234,
 z50:=Tryz.sizeOf234,
 v50:=Tryz.zeroValue234,
 t53:=Tryz.underlying383,
 a53:=Tryz.isAgg383,
 z53:=Tryz.sizeOf383,
 v53:=Tryz.zeroValue383,
 t55:=Tryz.underlying386,
 a55:=Tryz.isAgg386,
 z55:=Tryz.sizeOf386,
 v55:=Tryz.zeroValue386,
 t66:=Tryz.underlying503,
 a66:=Tryz.isAgg503,
 z66:=Tryz.sizeOf503,
 v66:=Tryz.zeroValue503,
 t70:=Tryz.underlying507,
 a70:=Tryz.isAgg507,
 z70:=Tryz.sizeOf507,
 v70:=Tryz.zeroValue507,
 t76:=Tryz.underlying516,
 a76:=Tryz.isAgg516,
 z76:=Tryz.sizeOf516,
 v76:=Tryz.zeroValue516,
 t77:=Tryz.underlying338,
 a77:=Tryz.isAgg338,
 z77:=Tryz.sizeOf338,
 v77:=Tryz.zeroValue338}
theorem br1 (s:List j6)(n:Nat)(cs:List (List Tree))(f:j6->j6->Option Int)(h:∀x0 x1,aQ5 prog n ([aj9 x0,aj9 x1]++cs.map T.el) (f x0 x1) (fun r=>.t (tI r))):
  bh2 prog 376 [.own 1000000,.fz n cs] [(1000000,.rows 95 3 s.length (s.map u3))] (bT6 f s) (fun _=>.Q1 []) (fun r=>[(1000000,.rows 95 3 r.length (r.map u3))]):=
 co4 (E:=j6) (enc:=u3) (ρ:=co6) et7 (k:=3) (fun x=>[.int .i64 x.At,.int .i64 x.Channel,.bool x.K1]) (fun _=>rfl) (fun _=>rfl) (fun x v hv=>by simp only[bZ8,eT4,or_false]at hv;rcases hv with rfl|rfl|rfl<;>rfl) (fun w=>Tryz.isAgg95 w) (fun w=>Tryz.sizeOf95 w) (A:=aj9) (fun _=>rfl) f h s
def Y1 (s:List j6)(f:Cl prog (j6×j6) Int (fun x=>[aj9 x.1,aj9 x.2]) (fun r=>.t (tI r))):CG prog (List j6):=
 ⟨376,[.own 1000000,.fz f.n f.cs],[(1000000,.rows 95 3 s.length (s.map u3))],bT6 (fun x y=>f.f (x,y)) s,fun k=>df4 (fun x y=>f.e k (x,y)) s,fun _=>.Q1 [],fun r=>[(1000000,.rows 95 3 r.length (r.map u3))],[],br1 s f.n f.cs _ (fun x y=>f.ok (x,y)),fun k r h=>dz2 (fun x y r h=>f.le k (x,y) r h) h⟩
def ao8 (_ x:Int)(_:Unit):M prog Int (Fl Unit Int):=
 .W (.hx 0)<| .I (x !=0) (.R (.ret x)) (.R (.next ()))
def af8 (bx5:List Int):C prog Int:=.of Z call378 func378 [.t (tS aJ9 bx5)] (fun r=>.t (tI r)) (
 M.Q aJ9 bx5 2 8 (fun(_:Unit)=>[]) 0 (.one .rt) (ao8) () (fun _=>.R 0) (fun r2=>.R r2))
def X3 (a b2:j6):C prog Int:=.of Z call377 func377 [aj9 a,aj9 b2] (fun r=>.t (tI r)) (
 .D [] []<| .K (F6 a.At b2.At) fun v=>.K (F6 a.Channel b2.Channel) fun v2=>.K (af8 ([v,v2]:List Int)) fun v3=>.R v3)
def av0 (t2:u9)(L9 i:Int)(s:List j6×List j9):M prog (u9×List j6×Int) (Fl (List j6×List j9) Empty):=
 .O (.ix E7 t2.j3 i) fun x=>.I ((!x.E0)||(decide (x.At>L9))) (.R (.next (s.1,s.2))) (.J0 0 (fun(t:List j6)=>[.t 9 (.own 2496),.x 40,.x 49,.x 51,.b 2496 (.rs 95 3 t u3)]) (.I (!(x.Next==x.K1)) (.U (.ap u3 s.1 ([(⟨x.At,i,x.Next⟩:j6)]:List j6) 2496) fun l=>.R l) (.R s.1)) fun f2=>.O (.ix E7 s.2 i) fun _=>.U (.st E7 s.2 i (⟨false,0,false,x.Next⟩:j9) 0) fun l2=>.R (.next (f2,l2)))
def al0 (t2:u9)(L9:Int):C prog (u9×List j6×Int):=.of Z call334 func334 [aN1 t2,.t (tI L9)] (fun r=>.Q1 [aN1 r.1,.t (tS u3 r.2.1),.t (tI r.2.2)]) (
 .KG (ah1 t2 0) [2112] fun r2=>.I (r2.2 !=0) (.R ((⟨0,([]:List j9)⟩:u9),([]:List j6),r2.2)) (.I (decide (L9<t2.V0)) (.R ((⟨0,([]:List j9)⟩:u9),([]:List j6),16)) (.I (decide (L9>1099511627776)) (.R ((⟨0,([]:List j9)⟩:u9),([]:List j6),2)) (.Z (.np 9 2496 95 3 [])<|M.QN (t2.j3.length:Int) 2 35 (fun(t:List j6×List j9)=>[.t 9 (.own 2496),.x 2,.x 12,.x 14,.x 15,.x 24,.x 32,.b 2112 (.rs 327 4 t.2 E7),.b 2496 (.rs 95 3 t.1 u3),.d 2]) 1 (.e) (av0 t2 L9) (([]:List j6),r2.1.j3) (fun s2=>.KG (Y1 s2.1 (.of (fun z_=>X3 z_.1 z_.2) 377 [])) [] fun v=>.R ((⟨L9,s2.2⟩:u9),v,0)) (fun t=>t.elim)))))
def K8 (s:List A6)(del:Cl prog A6 Bool (fun x=>[bd4 x]) (fun r=>.t (tB r))):CG prog (List A6):=⟨335,[.own 1000000,.fz del.n del.cs],[(1000000,.rs 221 7 s I2)],Pv.K8 s (fun x0=>del.f x0),fun _=>ds6 s,(fun _=>.own 900000),(fun r=>[(900000,.rs 221 7 r I2)]),[900000],bq9 s del.n del.cs (fun x0=>del.f x0) (fun x0=>del.ok x0),fun _ r h=>bq6 h⟩
def an8 (j:A6)(c:Int):C prog Bool:=.of Z call336 func336 [bd4 j,.el (aJ9 c)] (fun r=>.t (tB r)) (
 .R (j.E0&&(j.At==c)))
def Y5 (L9:Int)(s2:List j6×j1):M prog (List j6×j1) ((List j6×j1)⊕((List j6×j1)⊕Empty)):=
 .K (aM9 s2.2.k6) fun r2=>.I ((!r2.2)||(decide (r2.1>L9))) (.R (.inr (.inl (s2.1,s2.2)))) (.D [] [(11,8)]<| .K (al0 s2.2.k6 r2.1) fun r3=>.U (.ap u3 s2.1 r3.2.1 2360) fun l=>.Z (.fb 6)<| .KG (K8 s2.2.H3 (.of (fun z_=>an8 z_ r2.1) 336 [aJ9 r2.1])) [2417] fun v=>.KG (ak9 (⟨s2.2.u7,s2.2.B1,r3.1,s2.2.Next,v,s2.2.Cut⟩:j1)) [] fun v2=>.Z (.rn [(2417,2416)])<| .R (.inl (l,v2)))
def ab7 (s:j1)(L9:Int):CG prog (List j6×j1):=.of Z call269 func269 [.ptr 1000000 0,.t (tI L9)] [(1000000,.box (aw1 (aL5 s) [(11,.own 1000001)])),(1000001,.rs 221 7 s.H3 I2)] (fun r=>.t (tS u3 r.1)) (fun r=>[(900000,.rs 221 7 r.2.H3 I2),(1000000,.box (aw1 (aL5 r.2) [(11,.own 900000)]))]) [900000] (
 .Z (.np 5 2360 95 3 [])<| .Z (.rn [(1000001,2416)])<| .L (fun(t:List j6×j1)=>[.t 5 (.own 2360),.b 2360 (.rs 95 3 t.1 u3),.b 2416 (.rs 221 7 t.2.H3 I2),.b 1000000 (.box (aw1 (aL5 t.2) [(11,.own 2416)]))]) 0 (.e) (Y5 L9) (([]:List j6),s) (fun s3=>.K (al0 s3.2.k6 L9) fun r4=>.U (.ap u3 s3.1 r4.2.1 2360) fun l2=>.Z (.fr 2360)<| .R (l2,(⟨s3.2.u7,s3.2.B1,r4.1,s3.2.Next,s3.2.H3,s3.2.Cut⟩:j1))) (fun t=>t.elim))
def T6 (s:j1)(L9:Int):C prog (j1×List j6×Int):=.of Z call179 func179 [S0 s,.t (tI L9)] (fun r=>.Q1 [S0 r.1,.t (tS u3 r.2.1),.t (tI r.2.2)]) (
 .K (J8 s) fun v=>.I (!v) (.R ((⟨(⟨([]:List Int),0⟩:o5),(⟨false,0,0,0,0,0⟩:E3),(⟨0,([]:List j9)⟩:u9),([]:List A2),([]:List A6),false⟩:j1),([]:List j6),1)) (.I (decide (L9<s.k6.V0)) (.R ((⟨(⟨([]:List Int),0⟩:o5),(⟨false,0,0,0,0,0⟩:E3),(⟨0,([]:List j9)⟩:u9),([]:List A2),([]:List A6),false⟩:j1),([]:List j6),16)) (.I (decide (L9>1099511627776)) (.R ((⟨(⟨([]:List Int),0⟩:o5),(⟨false,0,0,0,0,0⟩:E3),(⟨0,([]:List j9)⟩:u9),([]:List A2),([]:List A6),false⟩:j1),([]:List j6),2)) (.KG (L3 s) [2208] fun v2=>.KG (ab7 v2 L9) [2224] fun r2=>.R (r2.2,r2.1,0)))))
def aY2 (s:j8)(aZ2:Int):CG prog j8:=.of Z call254 func254 [.ptr 1000000 0,.t (tI aZ2)] [(1000000,.box (aw1 (G6 s) [(113,.own 1000001)])),(1000001,.rs 95 3 s.y9 u3)] (fun _=>.Q1 []) (fun r=>[(900000,.rs 95 3 r.y9 u3),(1000000,.box (aw1 (G6 r) [(113,.own 900000)]))]) [900000] (
 .K (T6 s.u.j4 aZ2) fun r2=>.KG (aG9 s r2.1 r2.2.1 r2.2.2) [2120] fun v=>.K (ap0 v.u.j4) fun r3=>.KG (aG9 v r3.1 r3.2.1 r3.2.2) [2208] fun v2=>.R v2)
def aZ9 (s:j8)(S4:aa8)(aZ2:Int):CG prog j8:=.of Z call169 func169 [.ptr 1000000 0,aP2 S4,.t (tI aZ2)] [(1000000,.box (aw1 (G6 s) [(113,.own 1000001)])),(1000001,.rs 95 3 s.y9 u3)] (fun _=>.Q1 []) (fun r=>[(900000,.rs 95 3 r.y9 u3),(1000000,.box (aw1 (G6 r) [(113,.own 900000)]))]) [900000] (
 .I ((s.u.Q4.Mode !=0)&&(S4.Mode==0)) (.K (cv8) fun v=>.KG (aY2 ({s with u:=(⟨s.u.u6,s.u.u4,s.u.j4,S4,v,s.u.H8,s.u.M0,s.u.I8,s.u.L6,s.u.F3,s.u.A8,s.u.ab0,s.u.Time⟩:ac3)}:j8) aZ2) [2256] fun v2=>.R v2) (.R ({s with u:=(⟨s.u.u6,s.u.u4,s.u.j4,S4,s.u.M7,s.u.H8,s.u.M0,s.u.I8,s.u.L6,s.u.F3,s.u.A8,s.u.ab0,s.u.Time⟩:ac3)}:j8)))
def bA5 (old:aa8):C prog aa8:=.of Z call170 func170 [aP2 old] (fun r=>.fz 255 [db8 r]) (
 .Z (.fb 1)<| .R old)
def bW6 (w:aI4)(s:aa8):C prog Bool:=.of Z call321 func321 [aB8 w,aP2 s] (fun r=>.t (tB r)) (
 .D [] []<| .K (aS8 w) fun v=>.R (s.ay8==(j7 (v-1))))
def bl1 (w:aI4)(s:aa8):C prog Int:=.of Z call256 func256 [aB8 w,aP2 s] (fun r=>.t (tI r)) (
 .K (bW6 w s) fun v=>.I v (.R (j7 ((j7 (w.aP3+1))*s.N8))) (.R s.N8))
def cg2 (w:aI4)(s:aa8)(now:Int):C prog (aa8×Int):=.of Z call171 func171 [aB8 w,aP2 s,.t (tI now)] (fun r=>.Q1 [aP2 r.1,.t (tI r.2)]) (
 .K (bw3 w s) fun v=>.I (!v) (.R ((⟨0,0,0,0,0,0⟩:aa8),1)) (.K (bg2 now) fun v2=>.I (!v2) (.R ((⟨0,0,0,0,0,0⟩:aa8),2)) (.I ((s.Mode !=0)&&(decide (now<s.G9))) (.R ((⟨0,0,0,0,0,0⟩:aa8),16)) (.J0 0 (fun(t:Int)=>[.t 8 (.t (tI t)),.x 3,.x 21,.d 3]) (.I (s.Mode==2) (.K (bl1 w s) fun v3=>.R (j7 (4*v3))) (.I (decide (s.aw6>0)) (.R (j7 (4*s.N8))) (.R 1000000))) fun most=>.I ((s.Mode !=0)&&(decide ((j7 (now-s.G9))>most))) (.R ((⟨0,0,0,0,0,0⟩:aa8),0)) (.R (s,0))))))
def bw5 (p2:Int):C prog Bool:=.of Z call322 func322 [.t (tI p2)] (fun r=>.t (tB r)) (
 .R ((decide (p2>=0))&&(decide (p2<=1099511627776))))
def bk2 (b2:Int)(S4:Cl prog Int Int (fun x=>[.t (tI x)]) (fun r=>.t (tI r)))(s:List Int×Int):M prog (List Int×Int) ((List Int×Int)⊕((List Int×Int)⊕(List Int×Int))):=
 .I (decide (s.2<=b2)) (.I ((s.1.length:Int)==1000) (.R (.inr (.inr (([]:List Int),5)))) (.U (.ap aJ9 s.1 ([s.2]:List Int) 2304) fun l=>.K (S4.at s.2) fun v4=>.R (.inl (l,v4)))) (.R (.inr (.inl (s.1,s.2))))
def bl2 (a b2:Int)(S4:Cl prog Int Int (fun x=>[.t (tI x)]) (fun r=>.t (tI r))):C prog (List Int×Int):=.of Z call257 func257 [.t (tI a),.t (tI b2),.fz S4.n S4.cs] (fun r=>.Q1 [.t (tS aJ9 r.1),.t (tI r.2)]) (
 .K (bw5 a) fun v=>.G (!v) (.R true) (.K (bw5 b2) fun v2=>.R (!v2)) fun b3=>.I (b3||(decide (a>b2))) (.R (([]:List Int),2)) (.K (S4.at a) fun v3=>.Z (.np 8 2304 3 1 [])<| .L (fun(t:List Int×Int)=>[.t 8 (.own 2304),.t 9 (.t (tI t.2)),.b 2304 (.rs 3 1 t.1 aJ9)]) 0 (.one .rt) (bk2 b2 S4) (([]:List Int),v3) (fun s2=>.R (s2.1,0)) (fun r2=>.R r2)))
def bc9 (w:aI4):C prog Int:=.of Z call323 func323 [aB8 w] (fun r=>.t (tI r)) (
 .K (aL3 w) fun v=>.I (!v) (.R 0) (.O (.quo .i64 23040 w.aw6) fun q=>.R q))
def cg5 (w:aI4)(p2:Int):C prog (Int×Int):=.of Z call259 func259 [aB8 w,.t (tI p2)] (fun r=>.Q1 [.t (tI r.1),.t (tI r.2)]) (
 .K (ac4 p2 23040) fun v=>.K (bc9 w) fun v2=>.O (.quo .i64 (j7 (p2-(j7 (p2-v)))) v2) fun q=>.K (aS8 w) fun v3=>.I (decide ((j7 (q+1))>=v3)) (.R (j7 ((j7 (p2-v))+23040),0)) (.K (bc9 w) fun v4=>.R (j7 ((j7 (p2-v))+(j7 ((j7 (q+1))*v4))),j7 (q+1))))
def ba4 (p2:Int)(c:aI4):C prog Int:=.of Z call258 func258 [.t (tI p2),.el (cd4 c)] (fun r=>.t (tI r)) (
 .K (cg5 c p2) fun r2=>.R r2.1)
def bB4 (w:aI4)(a b2:Int):C prog (List Int×Int):=.of Z call172 func172 [aB8 w,.t (tI a),.t (tI b2)] (fun r=>.Q1 [.t (tS aJ9 r.1),.t (tI r.2)]) (
 .K (aL3 w) fun v=>.I (!v) (.R (([]:List Int),1)) (.Z (.fb 3)<| .K (bl2 a b2 (.of (fun z_=>ba4 z_ w) 258 [cd4 w])) fun r2=>.R (r2.1,r2.2)))
def aE0 (p2 v _ x:Int)(_:Unit):M prog Int (Fl Unit Int):=
 .W (.hx 0)<| .I (decide ((j7 ((j7 (p2-v))+x))>p2)) (.R (.ret (j7 ((j7 (p2-v))+x)))) (.R (.next ()))
def aN0 (p2:Int)(c:ch4):C prog Int:=.of Z call260 func260 [.t (tI p2),.el (cN2 c)] (fun r=>.t (tI r)) (
 .K (ac4 p2 46080) fun v=>M.Q aJ9 c.bx7 2 14 (fun(_:Unit)=>[]) 0 (.one .rt) (aE0 p2 v) () (fun _=>.O (.ix aJ9 c.bx7 0) fun x2=>.R (j7 ((j7 ((j7 (p2-v))+46080))+x2))) (fun r2=>.R r2))
def bk1 (c:ch4)(a b2:Int):C prog (List Int×Int):=.of Z call173 func173 [bN9 c,.t (tI a),.t (tI b2)] (fun r=>.Q1 [.t (tS aJ9 r.1),.t (tI r.2)]) (
 .K (aS9 c) fun v=>.I (!v) (.R (([]:List Int),1)) (.Z (.fb 3)<| .K (bl2 a b2 (.of (fun z_=>aN0 z_ c) 260 [cN2 c])) fun r2=>.R (r2.1,r2.2)))
def aP6 (s:j8)(_ x:Int)(out:List Int):M prog (List Int) (Fl (List Int) Empty):=
 .W (.hx 0)<| .D [] []<| .K (V8 (j7 (s.u.A8.K2-(j7 (65536*x)))) s.u.A8.D2) fun v=>.U (.ap aJ9 out ([j7 (s.t-v)]:List Int) 2328) fun l2=>.R (.next l2)
def aJ0 (s:j8)(l:List Int):CG prog (List Int):=.of Z call174 func174 [.ptr 1000000 0,.t (tS aJ9 l)] [(1000000,.box (aw1 (G6 s) [(113,.own 1000001)])),(1000001,.rs 95 3 s.y9 u3)] (fun r=>.t (tS aJ9 r)) (fun _=>[(1000000,.box (aw1 (G6 s) [(113,.own 1000001)])),(1000001,.rs 95 3 s.y9 u3)]) [] (
 .D [] []<| .Z (.np 7 2328 3 1 [])<|M.Q aJ9 l 2 24 (fun(t:List Int)=>[.t 7 (.own 2328),.x 10,.x 11,.x 12,.x 13,.x 14,.x 16,.x 17,.x 18,.x 19,.x 20,.b 2328 (.rs 3 1 t aJ9)]) 0 (.e) (aP6 s) ([]:List Int) (fun dm0=>.Z (.fr 2328)<| .R dm0) (fun t=>t.elim))
def bu0 (old:ad7):C prog ad7:=.of Z call176 func176 [aX3 old] (fun r=>.fz 262 [cN5 r]) (
 .Z (.fb 1)<| .R old)
def cv7 (c:ch4)(p2:ad7):C prog (ad7×Int):=.of Z call177 func177 [bN9 c,aX3 p2] (fun r=>.Q1 [aX3 r.1,.t (tI r.2)]) (
 .K (bn1 c p2) fun v=>.I (!v) (.R ((⟨false,0,0,false⟩:ad7),1)) (.I p2.Seen (.R (({p2 with D1:=F2 16 (j7 (p2.D1+1))}:ad7),0)) (.R (p2,0))))
def aT3 (S4:ad7)(e2:Int)(c:ad7):C prog ad7:=.of Z call262 func262 [aX3 S4,.t (tI e2),.el (cN5 c)] (fun r=>aX3 r) (
 .I (e2 !=0) (.R c) (.R S4))
def ba0 (c:j8)(c2:List Int):CG prog (j8×List Int):=.of Z call175 func175 [.ptr 1000000 0,.ptr 1000003 0] [(1000000,.box [.ptr 1000001 0]),(1000001,.box (aw1 (G6 c) [(113,.own 1000002)])),(1000002,.rs 95 3 c.y9 u3),(1000003,.box [.t (tS aJ9 c2)])] (fun _=>.Q1 []) (fun r=>[(1000000,.box [.ptr 1000001 0]),(1000001,.box (aw1 (G6 r.1) [(113,.own 1000002)])),(1000002,.rs 95 3 r.1.y9 u3),(1000003,.box [.t (tS aJ9 r.2)])]) [] (
 .D [] []<| .K (bu0 c.u.M7) fun v=>.K (bD8) fun v2=>.K (cv7 v2 c.u.M7) fun r2=>.K (aT3 r2.1 r2.2 v) fun v3=>.U (.sF aJ9 c2 1 (c2.length:Int)) fun l=>.R (({c with u:=(⟨c.u.u6,c.u.u4,c.u.j4,c.u.Q4,v3,c.u.H8,c.u.M0,c.u.I8,c.u.L6,c.u.F3,c.u.A8,c.u.ab0,c.u.Time⟩:ac3)}:j8),l))
def aZ7 (S4:aa8)(e2:Int)(c:aa8):C prog aa8:=.of Z call255 func255 [aP2 S4,.t (tI e2),.el (db8 c)] (fun r=>aP2 r) (
 .I (e2 !=0) (.R c) (.R S4))
def bg3 (f2:aa1):C prog Int:=.of Z call325 func325 [bb6 f2] (fun r=>.t (tI r)) (
 .K (aG6 f2) fun v=>.I ((!v)||(!f2.Seen)) (.R 0) (.R (G4 20 (j7 (cZ1 f2.F9 4)))))
def bk0 (f2:aa1)(t2:Int):C prog (aa1×Bool×Int):=.of Z call263 func263 [bb6 f2,.t (tI t2)] (fun r=>.Q1 [bb6 r.1,.t (tB r.2.1),.t (tI r.2.2)]) (
 .K (aG6 f2) fun v=>.I (!v) (.R ((⟨false,0,0⟩:aa1),false,1)) (.K (aV3 t2) fun v2=>.I (!v2) (.R ((⟨false,0,0⟩:aa1),false,2)) (.I (f2.Seen&&(decide (t2<f2.G9))) (.R ((⟨false,0,0⟩:aa1),false,16)) (.J0 1 (fun(t:Bool)=>[.t 28 (.t (tB t)),.x 19]) (.D [] []<| .Sp f2.Seen (.K (bg3 f2) fun v3=>.R (decide ((j7 (t2-f2.G9))<v3))) (.R false)) fun v4=>.I v4 (.R (f2,false,0)) (.I f2.Seen (.R ((⟨true,t2,j7 (t2-f2.G9)⟩:aa1),true,0)) (.R ((⟨true,t2,0⟩:aa1),true,0)))))))
def bL9 (old:aa1):C prog aa1:=.of Z call264 func264 [bb6 old] (fun r=>.fz 326 [cz6 r]) (
 .Z (.fb 1)<| .R old)
def dA3 (w:aI4)(normal period:Int):C prog Bool:=.of Z call368 func368 [aB8 w,.t (tI normal),.t (tI period)] (fun r=>.t (tB r)) (
 .I (w.aP3==1) (.R (decide ((j7 (2*period))>(j7 (3*normal))))) (.R (decide (period>(j7 (2*normal))))))
def cx2 (p2 q:Int):C prog Bool:=.of Z call369 func369 [.t (tI p2),.t (tI q)] (fun r=>.t (tB r)) (
 .R (decide ((j7 (4*(G4 (j7 (p2-q)) (j7 (q-p2)))))<=q)))
def cx3 (w:aI4)(s:aa8)(t2:Int):C prog aa8:=.of Z call327 func327 [aB8 w,aP2 s,.t (tI t2)] (fun r=>aP2 r) (
 .I (s.Mode==1) (.G (s.aw6==2) (.K (dA3 w s.N8 (j7 (t2-s.G9))) fun v=>.R v) (.R false) fun b2=>.I b2 (.O (.quo .i64 (j7 (t2-s.G9)) (j7 (w.aP3+1))) fun q=>.R (⟨2,0,t2,j7 (t2-s.G9),q,0⟩:aa8)) (.G (s.aw6 !=0) (.K (cx2 (j7 (t2-s.G9)) s.N8) fun v2=>.R v2) (.R false) fun b3=>.I b3 (.R (⟨1,0,t2,j7 (t2-s.G9),j7 (t2-s.G9),2⟩:aa8)) (.R (⟨1,0,t2,j7 (t2-s.G9),j7 (t2-s.G9),1⟩:aa8)))) (.I (s.Mode==2) (.K (bl1 w s) fun v3=>.K (cx2 (j7 (t2-s.G9)) v3) fun v4=>.I (!v4) (.R (⟨0,0,0,0,0,0⟩:aa8)) (.K (bW6 w s) fun v5=>.I v5 (.O (.quo .i64 (j7 (t2-s.G9)) (j7 (w.aP3+1))) fun q2=>.R (⟨2,0,t2,j7 (t2-s.G9),q2,0⟩:aa8)) (.R (⟨2,j7 (s.ay8+1),t2,j7 (t2-s.G9),j7 (t2-s.G9),0⟩:aa8)))) (.R (⟨1,0,t2,0,0,0⟩:aa8))))
def cx1 (w:aI4)(s:aa8)(t2:Int):C prog (aa8×Int):=.of Z call265 func265 [aB8 w,aP2 s,.t (tI t2)] (fun r=>.Q1 [aP2 r.1,.t (tI r.2)]) (
 .K (bw3 w s) fun v=>.I (!v) (.R ((⟨0,0,0,0,0,0⟩:aa8),1)) (.K (bg2 t2) fun v2=>.I (!v2) (.R ((⟨0,0,0,0,0,0⟩:aa8),2)) (.I ((s.Mode !=0)&&(decide (t2<=s.G9))) (.R ((⟨0,0,0,0,0,0⟩:aa8),16)) (.K (cx3 w s t2) fun v3=>.R (v3,0)))))
def bL2 (c:ch4):C prog (Int×Int):=.of Z call328 func328 [bN9 c] (fun r=>.Q1 [.t (tI r.1),.t (tI r.2)]) (
 .K (aS9 c) fun v=>.I (!v) (.R (0,0)) (.K (cq1 c) fun r2=>.R (r2.1,r2.2)))
def bJ8 (c:ch4)(p2:ad7):C prog (ad7×Int):=.of Z call266 func266 [bN9 c,aX3 p2] (fun r=>.Q1 [aX3 r.1,.t (tI r.2)]) (
 .K (bn1 c p2) fun v=>.I (!v) (.R ((⟨false,0,0,false⟩:ad7),1)) (.I (!p2.Seen) (.R ((⟨false,0,0,true⟩:ad7),0)) (.K (bL2 c) fun r2=>.J0 0 (fun(t:Int)=>[.t 9 (.t (tI t)),.x 2,.x 16,.x 25,.d 2]) (.I (p2.D1==r2.1) (.R 0) (.I (p2.D1==r2.2) (.R 1) (.R (-1)))) fun half=>.I ((decide (half>=0))&&((!p2.aX6)||(p2.bG2==half))) (.R ((⟨true,j7 (1-half),0,true⟩:ad7),0)) (.R ((⟨false,0,0,true⟩:ad7),0)))))
def bU7 (w:aI4)(cp5:Int):C prog (Int×Int):=.of Z call329 func329 [aB8 w,.t (tI cp5)] (fun r=>.Q1 [.t (tI r.1),.t (tI r.2)]) (
 .K (aL3 w) fun v=>.I (!v) (.R (0,1)) (.G (decide (cp5<0)) (.R true) (.K (aS8 w) fun v2=>.R (decide (cp5>=v2))) fun b2=>.I b2 (.R (0,2)) (.K (bc9 w) fun v3=>.R (j7 (cp5*v3),0))))
def bO4 (w:aI4)(t2 cp5 half period:Int):C prog (E3×Int):=.of Z call267 func267 [aB8 w,.t (tI t2),.t (tI cp5),.t (tI half),.t (tI period)] (fun r=>.Q1 [bB7 r.1,.t (tI r.2)]) (
 .K (aL3 w) fun v=>.I (!v) (.R ((⟨false,0,0,0,0,0⟩:E3),1)) (.K (bU7 w cp5) fun r2=>.G (r2.2 !=0) (.R true) (.K (av4 t2) fun v2=>.R (!v2)) fun b2=>.I ((((b2||(decide (half<0)))||(decide (half>1)))||(decide (period<(j7 (w.aP3+1)))))||(decide (period>1073741824))) (.R ((⟨false,0,0,0,0,0⟩:E3),2)) (.K (bc9 w) fun v3=>.J0 0 (fun(t:Int)=>[.c 15 3 [.t (tI t)]]) (.I (cp5==0) (.O (.quo .i64 period (j7 (w.aP3+1))) fun q=>.R q) (.R period)) fun f2=>.K (aS8 w) fun v4=>.I (cp5==(j7 (v4-1))) (.R ((⟨true,t2,j7 ((j7 (half*23040))+r2.1),f2,v3,j7 (v3*(j7 (w.aP3+1)))⟩:E3),0)) (.R ((⟨true,t2,j7 ((j7 (half*23040))+r2.1),f2,v3,v3⟩:E3),0)))))
def Q9 (aP0 L9:Int):C prog Int:=.of Z call330 func330 [.t (tI aP0),.t (tI L9)] (fun r=>.t (tI r)) (
 .K (ai0 aP0) fun v=>.G (!v) (.R true) (.K (ai0 L9) fun v2=>.R (!v2)) fun b2=>.I b2 (.R (-1)) (.K (ac4 (j7 (L9-aP0)) 46080) fun v3=>.R v3))
def aK5 (c:E3):C prog Int:=.of Z call398 func398 [bB7 c] (fun r=>.t (tI r)) (
 .K (aj2 c) fun v=>.I (!v) (.R 1) (.I (!c.X5) (.R 6) (.R 0)))
def bl7 (a b2:Int):C prog Int:=.of Z call399 func399 [.t (tI a),.t (tI b2)] (fun r=>.t (tI r)) (
 .K (am8 a b2 2) fun r2=>.R r2.1)
def aE7 (c:E3)(bU5:Int):C prog (Int×Int):=.of Z call370 func370 [bB7 c,.t (tI bU5)] (fun r=>.Q1 [.t (tI r.1),.t (tI r.2)]) (
 .K (aK5 c) fun v=>.I (v !=0) (.R (0,v)) (.I ((decide (bU5<0))||(decide (bU5>46080))) (.R (0,2)) (.K (bl7 (j7 (bU5*c.F9)) c.aa9) fun v2=>.R (v2,0))))
def ak7 (e2:o5)(aC4:Int):C prog (Int×Bool):=.of Z call400 func400 [au3 e2,.t (tI aC4)] (fun r=>.Q1 [.t (tI r.1),.t (tB r.2)]) (
 .K (W2 e2.A3 aC4) fun v=>.D [] []<| .O (.quo .i64 (j7 ((G4 v 0)*46080)) (e2.A3.length:Int)) fun q=>.R (ed7 (j7 (e2.as4+q)) 46080,decide (v>=0)))
def av9 (e2:o5)(aC4:Int):C prog (Int×Int):=.of Z call371 func371 [au3 e2,.t (tI aC4)] (fun r=>.Q1 [.t (tI r.1),.t (tI r.2)]) (
 .K (O7 e2) fun v=>.I (!v) (.R (0,1)) (.K (ak7 e2 aC4) fun r2=>.I (!r2.2) (.R (0,7)) (.R (r2.1,0))))
def Y4 (f2:A2)(c:Int):C prog Bool:=.of Z call372 func372 [aP1 f2,.el (aJ9 c)] (fun r=>.t (tB r)) (
 .R (f2.p7==c))
def ao9 (f2:A2)(c:o5):C prog Bool:=.of Z call416 func416 [aP1 f2,.el (bR0 c)] (fun r=>.t (tB r)) (
 .K (X6 c f2) fun v=>.R (!v))
def aw0 (g c:A2):C prog Bool:=.of Z call417 func417 [aP1 g,.el (B3 c)] (fun r=>.t (tB r)) (
 .R (g.p7==c.p7))
def O6 (aZ2 kind bS4:Int)(c:List B6)(c2:A2):CG prog (List B6):=.of Z call418 func418 [.t (tI aZ2),.t (tI kind),.t (tI bS4),.ptr 1000000 0,.el (B3 c2)] [(1000000,.box [.own 1000001]),(1000001,.rs 219 4 c ay3)] (fun _=>.Q1 []) (fun r=>[(900000,.rs 219 4 r ay3),(1000000,.box [.own 900000])]) [900000] (
 .D [] []<| .K (ac4 aZ2 46080) fun v=>.Z (.rn [(1000001,2136)])<| .U (.ap ay3 c ([(⟨v,kind,c2.p7,bS4⟩:B6)]:List B6) 2136) fun l=>.R l)
def K3 (d c:Int):C prog Int:=.of Z call419 func419 [.t (tI d),.el (aJ9 c)] (fun r=>.t (tI r)) (
 .O (.quo .i64 (j7 (d*23040)) c) fun q=>.R q)
def ak6 (f2:A2):C prog Int:=.of Z call420 func420 [aP1 f2] (fun r=>.t (tI r)) (
 .I (f2.Y8==0) (.R 0) (.I (f2.Extra==0) (.R 1) (.R 2)))
def co7:Go.Shelf.Ren:=⟨fun|6=>421|14=>444|15=>405|20=>456|21=>457|22=>458|23=>459|24=>460|25=>461|26=>462|27=>463|28=>432|29=>433|46=>468|47=>448|48=>449|49=>469|50=>470|57=>472|n=>n,fun|0=>0|3=>3|4=>4|5=>5|9=>9|22=>467|24=>219|25=>484|39=>317|45=>487|46=>488|50=>234|53=>383|55=>386|66=>503|70=>507|76=>516|77=>338|n=>n,fun|n=>n⟩
open Go.Shelf in
theorem et8:SlLaysF0.n6 prog co7:={
 mixed:=by kernel_rfl,
 f6:=⟨Tryz.f421.name,by decide,func421.trans (congrArg some (by kernel_rfl))⟩,
 f14:=⟨Tryz.f444.name,by decide,func444.trans (congrArg some (by kernel_rfl))⟩,
 f15:=func405.trans (congrArg some (by kernel_rfl)),
 f20:=⟨Tryz.f456.name,by decide,func456.trans (congrArg some (by kernel_rfl))⟩,
 f21:=⟨Tryz.f457.name,by decide,func457.trans (congrArg some (by kernel_rfl))⟩,
 f22:=⟨Tryz.f458.name,by decide,func458.trans (congrArg some (by kernel_rfl))⟩,
 f23:=⟨Tryz.f459.name,by decide,func459.trans (congrArg some (by kernel_rfl))⟩,
 f24:=⟨Tryz.f460.name,by decide,func460.trans (congrArg some (by kernel_rfl))⟩,
 f25:=⟨Tryz.f461.name,by decide,func461.trans (congrArg some (by kernel_rfl))⟩,
 f26:=⟨Tryz.f462.name,by decide,func462.trans (congrArg some (by kernel_rfl))⟩,
 f27:=⟨Tryz.f463.name,by decide,func463.trans (congrArg some (by kernel_rfl))⟩,
 f28:=func432.trans (congrArg some (by kernel_rfl)),
 f29:=func433.trans (congrArg some (by kernel_rfl)),
 f46:=⟨Tryz.f468.name,by decide,func468.trans (congrArg some (by kernel_rfl))⟩,
 f47:=func448.trans (congrArg some (by kernel_rfl)),
 f48:=func449.trans (congrArg some (by kernel_rfl)),
 f49:=⟨Tryz.f469.name,by decide,func469.trans (congrArg some (by kernel_rfl))⟩,
 f50:=⟨Tryz.f470.name,by decide,func470.trans (congrArg some (by kernel_rfl))⟩,
 f57:=⟨Tryz.f472.name,by decide,func472.trans (congrArg some (by kernel_rfl))⟩,
 t0:=Tryz.underlying0,
 a0:=Tryz.isAgg0,
 z0:=Tryz.sizeOf0,
 v0:=Tryz.zeroValue0,
 t3:=Tryz.underlying3,
 a3:=Tryz.isAgg3,
 z3:=Tryz.sizeOf3,
 v3:=Tryz.zeroValue3,
 t4:=Tryz.underlying4,
 a4:=Tryz.isAgg4,
 z4:=Tryz.sizeOf4,
 v4:=Tryz.zeroValue4,
 t5:=Tryz.underlying5,
 a5:=Tryz.isAgg5,
 z5:=Tryz.sizeOf5,
 v5:=Tryz.zeroValue5,
 t9:=Tryz.underlying9,
 a9:=Tryz.isAgg9,
 z9:=Tryz.sizeOf9,
 v9:=Tryz.zeroValue9,
 t22:=Tryz.underlying467,
 a22:=Tryz.isAgg467,
 z22:=Tryz.sizeOf467,
 v22:=Tryz.zeroValue467,
 t25:=Tryz.underlying484,
 a25:=Tryz.isAgg484,
 z25:=Tryz.sizeOf484,
 v25:=Tryz.zeroValue484,
 t39:=Tryz.underlying317,
 a39:=Tryz.isAgg317,
 z39:=Tryz.sizeOf317,
 v39:=Tryz.zeroValue317,
 t45:=Tryz.underlying487,
 a45:=Tryz.isAgg487,
 z45:=Tryz.sizeOf487,
 v45:=Tryz.zeroValue487,
 t46:=Tryz.underlying488,
 a46:=Tryz.isAgg488,
 z46:=Tryz.sizeOf488,
 v46:=Tryz.zeroValue488,
 t50:=Tryz.underlying234,
 a50:=Tryz.isAgg234,
 z50:=Tryz.sizeOf234,
 v50:=Tryz.zeroValue234,
 t53:=Tryz.underlying383,
 a53:=Tryz.isAgg383,
 z53:=Tryz.sizeOf383,
 v53:=Tryz.zeroValue383,
 t55:=Tryz.underlying386,
 a55:=Tryz.isAgg386,
 z55:=Tryz.sizeOf386,
 v55:=Tryz.zeroValue386,
 t66:=Tryz.underlying503,
 a66:=Tryz.isAgg503,
 z66:=Tryz.sizeOf503,
 v66:=Tryz.zeroValue503,
 t70:=Tryz.underlying507,
 a70:=Tryz.isAgg507,
 z70:=Tryz.sizeOf507,
 v70:=Tryz.zeroValue507,
 t76:=Tryz.underlying516,
 a76:=Tryz.isAgg516,
 z76:=Tryz.sizeOf516,
 v76:=Tryz.zeroValue516,
 t77:=Tryz.underlying338,
 a77:=Tryz.isAgg338,
 z77:=Tryz.sizeOf338,
 v77:=Tryz.zeroValue338}
theorem bw4 (s:List B6)(n:Nat)(cs:List (List Tree))(f:B6->B6->Option Int)(h:∀x0 x1,aQ5 prog n ([aX1 x0,aX1 x1]++cs.map T.el) (f x0 x1) (fun r=>.t (tI r))):
  bh2 prog 421 [.own 1000000,.fz n cs] [(1000000,.rows 219 4 s.length (s.map ay3))] (bT6 f s) (fun _=>.Q1 []) (fun r=>[(1000000,.rows 219 4 r.length (r.map ay3))]):=
 co4 (E:=B6) (enc:=ay3) (ρ:=co7) et8 (k:=4) (fun x=>[.int .i64 x.H6,.int .i64 x.Kind,.int .i64 x.p7,.int .i64 x.aj0]) (fun _=>rfl) (fun _=>rfl) (fun x v hv=>by simp only[bZ8,eT4,or_false]at hv;rcases hv with rfl|rfl|rfl|rfl<;>rfl) (fun w=>Tryz.isAgg219 w) (fun w=>Tryz.sizeOf219 w) (A:=aX1) (fun _=>rfl) f h s
def aa7 (s:List B6)(f:Cl prog (B6×B6) Int (fun x=>[aX1 x.1,aX1 x.2]) (fun r=>.t (tI r))):CG prog (List B6):=
 ⟨421,[.own 1000000,.fz f.n f.cs],[(1000000,.rows 219 4 s.length (s.map ay3))],bT6 (fun x y=>f.f (x,y)) s,fun k=>df4 (fun x y=>f.e k (x,y)) s,fun _=>.Q1 [],fun r=>[(1000000,.rows 219 4 r.length (r.map ay3))],[],bw4 s f.n f.cs _ (fun x y=>f.ok (x,y)),fun k r h=>dz2 (fun x y r h=>f.le k (x,y) r h) h⟩
def al4 (a b2:B6):C prog Int:=.of Z call422 func422 [aX1 a,aX1 b2] (fun r=>.t (tI r)) (
 .D [] []<| .K (F6 a.H6 b2.H6) fun v=>.K (F6 a.p7 b2.p7) fun v2=>.K (F6 a.Kind b2.Kind) fun v3=>.K (F6 a.aj0 b2.aj0) fun v4=>.K (af8 ([v,v2,v3,v4]:List Int)) fun v5=>.R v5)
def aC6 (l:List A2)(i:Int)(_:Unit):M prog (List B6×Int) (Fl Unit (List B6×Int)):=
 .O (.ix B3 l i) fun x=>.U (.sF B3 l 0 i) fun l2=>.Z (.fb 9)<| .K (E9 l2 (.of (fun z_=>aw0 z_ x) 417 [B3 x])) fun v4=>.I v4 (.R (.ret (([]:List B6),8))) (.R (.next ()))
def aw9 (e2:o5)(M5 _:Int)(x2:A2)(f2:List B6):M prog (List B6×Int) (Fl (List B6) (List B6×Int)):=
 .W (.hx 0)<| .K (ak7 e2 x2.p7) fun r2=>.Z (.fb 12)<| .KG (O6 (j7 (r2.1-x2.N9)) 2 0 f2 x2) [2512] fun v5=>.K (K3 x2.af1 M5) fun v6=>.KG (O6 (j7 ((j7 (r2.1-x2.N9))-(F2 v6 23040))) 1 0 v5 x2) [2584] fun v7=>.D [] []<| .K (K3 x2.Y8 M5) fun v8=>.K (K3 x2.Gap M5) fun v9=>.K (K3 x2.Extra M5) fun v10=>.I (decide ((G4 (G4 v8 v9) v10)>23040)) (.R (.ret (([]:List B6),2))) (.K (ak6 x2) fun v11=>.J0 0 (fun(t:List B6)=>[.x 56,.x 62,.x 65,.b 10 (.box [.own 2840]),.b 2840 (.rs 219 4 t ay3),.d 2584]) (.I (decide (v11>0)) (.KG (O6 (j7 (r2.1-x2.End)) 4 1 v7 x2) [2776] fun v12=>.K (K3 x2.Y8 M5) fun v13=>.KG (O6 (j7 ((j7 (r2.1-x2.End))-v13)) 3 1 v12 x2) [2840] fun v14=>.R v14) (.Z (.rn [(2584,2840)])<| .R v7)) fun f3=>.K (ak6 x2) fun v15=>.I (decide (v15>1)) (.K (K3 x2.Gap M5) fun v16=>.KG (O6 (j7 ((j7 (r2.1-x2.End))+v16)) 3 2 f3 x2) [2928] fun v17=>.D [] []<| .K (K3 x2.Gap M5) fun v18=>.K (K3 x2.Extra M5) fun v19=>.KG (O6 (j7 ((j7 ((j7 (r2.1-x2.End))+v18))+v19)) 4 2 v17 x2) [3032] fun v20=>.R (.next v20)) (.Z (.rn [(2840,3032)])<| .R (.next f3)))
def aF0 (e2:o5)(l:List A2)(M5:Int):C prog (List B6×Int):=.of Z call401 func401 [au3 e2,.t (tS B3 l),.t (tI M5)] (fun r=>.Q1 [.t (tS ay3 r.1),.t (tI r.2)]) (
 .K (O7 e2) fun v=>.Z (.fb 3)<| .G (!v) (.R true) (.K (E9 l (.of (fun z_=>ao9 z_ e2) 416 [bR0 e2])) fun v2=>.R v2) fun b2=>.I b2 (.R (([]:List B6),1)) (.K (M6 M5 4000 1000000) fun v3=>.I (!v3) (.R (([]:List B6),2)) (M.QN (l.length:Int) 2 32 (fun(_:Unit)=>[]) 0 (.one .rt) (aC6 l) () (fun _=>.Z (.fb 5)<| .Z (.nb 10 3032 219 4 [0])<|M.Q B3 l 2 45 (fun(t:List B6)=>[.b 3032 (.rs 219 4 t ay3)]) 2 (.one .rt) (aw9 e2 M5) ([]:List B6) (fun f4=>.KG (aa7 f4 (.of (fun z_=>al4 z_.1 z_.2) 422 [])) [] fun v21=>.R (v21,0)) (fun r3=>.R r3)) (fun r4=>.R r4))))
def C0 (a:Int)(cmp:Cl prog (c8×c8) Int (fun x=>[A7 x.1,A7 x.2]) (fun r=>.t (tI r)))(s2:Int×List c8):M prog (List c8) ((Int×List c8)⊕((Int×List c8)⊕Empty)):=
 .J0 1 (fun(t:Bool)=>[.t 34 (.t (tB t))]) (.D [] []<| .Sp (decide (s2.1>a)) (.O (.ix A9 s2.2 s2.1) fun x=>.W (.ly 0)<| .O (.ix A9 s2.2 (j7 (s2.1-1))) fun x2=>.W (.ly 0)<| .K (cmp.at (x,x2)) fun v=>.R (decide (v<0))) (.R false)) fun v2=>.I v2 (.D [] [(15,1000000)]<| .O (.ix A9 s2.2 (j7 (s2.1-1))) fun x3=>.W (.ly 0)<| .O (.ix A9 s2.2 s2.1) fun x4=>.W (.ly 0)<| .W (.hx 0)<| .U (.st A9 s2.2 s2.1 x3 0) fun l=>.O (.ix A9 l (j7 (s2.1-1))) fun _=>.U (.st A9 l (j7 (s2.1-1)) x4 0) fun l2=>.R (.inl (j7 (s2.1-1),l2))) (.R (.inr (.inl (s2.1,s2.2))))
def B2 (a b2:Int)(cmp:Cl prog (c8×c8) Int (fun x=>[A7 x.1,A7 x.2]) (fun r=>.t (tI r)))(s:Int×List c8):M prog (List c8) ((Int×List c8)⊕((Int×List c8)⊕Empty)):=
 .I (decide (s.1<b2)) (.L (fun(t:Int×List c8)=>[.t 9 (.t (tI t.1)),.b 1000000 (.rs 450 5 t.2 A9)]) 2 (.e) (C0 a cmp) (s.1,s.2) (fun s3=>.R (.inl (j7 (s.1+1),s3.2))) (fun t=>t.elim)) (.R (.inr (.inl (s.1,s.2))))
def B0 (data:List c8)(a b2:Int)(cmp:Cl prog (c8×c8) Int (fun x=>[A7 x.1,A7 x.2]) (fun r=>.t (tI r))):CG prog (List c8):=.of Z call445 func445 [.own 1000000,.t (tI a),.t (tI b2),.fz cmp.n cmp.cs] [(1000000,.rs 450 5 data A9)] (fun _=>.Q1 []) (fun r=>[(1000000,.rs 450 5 r A9)]) [] (
 .L (fun(t:Int×List c8)=>[.t 8 (.t (tI t.1)),.b 1000000 (.rs 450 5 t.2 A9)]) 0 (.e) (B2 a b2 cmp) (j7 (a+1),data) (fun s4=>.R s4.2) (fun t=>t.elim))
def I0 (data:List c8)(a m2 b2:Int)(cmp:Cl prog (c8×c8) Int (fun x=>[A7 x.1,A7 x.2]) (fun r=>.t (tI r))):CG prog (List c8):=⟨446,[.own 1000000,.t (tI a),.t (tI m2),.t (tI b2),.fz cmp.n cmp.cs],[(1000000,.rs 450 5 data A9)],none,fun _=>none,(fun _=>.Q1 []),(fun r=>[(1000000,.rs 450 5 r A9)]),[],⟨call446,fun _ h=>by cases h⟩,fun _ _ h=>by cases h⟩
def J9 (n2:Int)(cmp:Cl prog (c8×c8) Int (fun x=>[A7 x.1,A7 x.2]) (fun r=>.t (tI r)))(s:Int×Int×List c8):M prog (List c8) ((Int×Int×List c8)⊕((Int×Int×List c8)⊕Empty)):=
 .I (decide (s.2.1<=n2)) (.KG (B0 s.2.2 s.1 s.2.1 cmp) [] fun v=>.R (.inl (s.2.1,j7 (s.2.1+20),v))) (.R (.inr (.inl (s.1,s.2.1,s.2.2))))
def N2 (n2:Int)(cmp:Cl prog (c8×c8) Int (fun x=>[A7 x.1,A7 x.2]) (fun r=>.t (tI r)))(s3:Int×List c8)(s4:Int×Int×List c8):M prog (List c8) ((Int×Int×List c8)⊕((Int×Int×List c8)⊕Empty)):=
 .I (decide (s4.2.1<=n2)) (.KG (I0 s4.2.2 s4.1 (j7 (s4.1+s3.1)) s4.2.1 cmp) [] fun v3=>.R (.inl (s4.2.1,j7 (s4.2.1+(j7 (2*s3.1))),v3))) (.R (.inr (.inl (s4.1,s4.2.1,s4.2.2))))
def K0 (n2:Int)(cmp:Cl prog (c8×c8) Int (fun x=>[A7 x.1,A7 x.2]) (fun r=>.t (tI r)))(s3:Int×List c8):M prog (List c8) ((Int×List c8)⊕((Int×List c8)⊕Empty)):=
 .I (decide (s3.1<n2)) (.L (fun(t:Int×Int×List c8)=>[.t 7 (.t (tI t.1)),.t 8 (.t (tI t.2.1)),.b 1000000 (.rs 450 5 t.2.2 A9)]) 4 (.e) (N2 n2 cmp s3) (0,j7 (2*s3.1),s3.2) (fun s5=>.I (decide ((j7 (s5.1+s3.1))<n2)) (.KG (I0 s5.2.2 s5.1 (j7 (s5.1+s3.1)) n2 cmp) [] fun v4=>.R (.inl (j7 (s3.1*2),v4))) (.R (.inl (j7 (s3.1*2),s5.2.2)))) (fun t=>t.elim)) (.R (.inr (.inl (s3.1,s3.2))))
def H0 (data:List c8)(n2:Int)(cmp:Cl prog (c8×c8) Int (fun x=>[A7 x.1,A7 x.2]) (fun r=>.t (tI r))):CG prog (List c8):=.of Z call423 func423 [.own 1000000,.t (tI n2),.fz cmp.n cmp.cs] [(1000000,.rs 450 5 data A9)] (fun _=>.Q1 []) (fun r=>[(1000000,.rs 450 5 r A9)]) [] (
 .L (fun(t:Int×Int×List c8)=>[.t 7 (.t (tI t.1)),.t 8 (.t (tI t.2.1)),.b 1000000 (.rs 450 5 t.2.2 A9)]) 0 (.e) (J9 n2 cmp) (0,20,data) (fun s2=>.KG (B0 s2.2.2 s2.1 n2 cmp) [] fun v2=>.L (fun(t:Int×List c8)=>[.t 6 (.t (tI t.1)),.x 23,.b 1000000 (.rs 450 5 t.2 A9)]) 2 (.e) (K0 n2 cmp) (20,v2) (fun s6=>.R s6.2) (fun t=>t.elim)) (fun t=>t.elim))
def D0 (x:List c8)(cmp:Cl prog (c8×c8) Int (fun x=>[A7 x.1,A7 x.2]) (fun r=>.t (tI r))):CG prog (List c8):=.of Z call402 func402 [.own 1000000,.fz cmp.n cmp.cs] [(1000000,.rs 450 5 x A9)] (fun _=>.Q1 []) (fun r=>[(1000000,.rs 450 5 r A9)]) [] (
 .KG (H0 x (x.length:Int) cmp) [] fun v=>.R v)
def ad1 (a b2:c8):C prog Int:=.of Z call403 func403 [A7 a,A7 b2] (fun r=>.t (tI r)) (
 .D [] []<| .K (F6 a.cE7 b2.cE7) fun v=>.K (H2 a.x) fun v2=>.K (H2 b2.x) fun v3=>.K (F6 v2 v3) fun v4=>.K (af8 ([v,v4]:List Int)) fun v5=>.R v5)
def aj7 (begin _:Int)(x:B6)(out:List c8):M prog (List c8×Bool) (Fl (List c8) Empty):=
 .W (.hx 0)<| .D [] []<| .K (Q9 begin x.H6) fun v=>.U (.ap A9 out ([(⟨x,v⟩:c8)]:List c8) 2368) fun l=>.R (.next l)
def V9 (x2:(Int×Int))(_:Int)(x3:c8)(s:Int×Int×Int):M prog (List c8×Bool) (Fl (Int×Int×Int) (List c8×Bool)):=
 .W (.hx 0)<| .W (.ly 0)<| .I ((x3.x.Kind !=x2.1)&&(x3.x.Kind !=x2.2)) (.R (.next (s.1,s.2.1,s.2.2))) (.I (((x3.x.Kind !=s.2.2)||(decide (x3.cE7<=s.1)))||(decide (x3.x.aj0<s.2.1))) (.R (.ret (([]:List c8),false))) (.D [] []<| .R (.next (x3.cE7,x3.x.aj0,j7 ((j7 (x2.1+x2.2))-s.2.2)))))
def T7 (v2:List c8)(v3:Int):M prog (List c8×Bool) (Int⊕(Int⊕(List c8×Bool))):=
 .I (decide (v3<2)) (.O (.arr (fun y=>.agg [.t (tI y.1),.t (tI y.2)]) ([(1,2),(3,4)]:List (Int×Int)) v3) fun x2=>.D [] []<|M.Q A9 v2 2 60 (fun(t:Int×Int×Int)=>[.t 17 (.t (tI t.1)),.t 18 (.t (tI t.2.1)),.t 19 (.t (tI t.2.2)),.x 56]) 4 (.one .rt) (V9 x2) ((-1),0,x2.1) (fun _=>.R (.inl (j7 (v3+1)))) (fun r3=>.R (.inr (.inr r3)))) (.R (.inr (.inl v3)))
def ar5 (e2:o5)(f2:A2)(begin M5:Int):C prog (List c8×Bool):=.of Z call373 func373 [au3 e2,aP1 f2,.t (tI begin),.t (tI M5)] (fun r=>.Q1 [.t (tS A9 r.1),.t (tB r.2)]) (
 .Z (.fr 25)<| .K (aF0 e2 ([f2]:List A2) M5) fun r2=>.I (r2.2 !=0) (.R (([]:List c8),false)) (.Z (.np 12 2368 450 5 [])<|M.Q ay3 r2.1 2 34 (fun(t:List c8)=>[.t 12 (.own 2368),.x 4,.x 5,.b 2368 (.rs 450 5 t A9),.d 4,.d 5]) 0 (.e) (aj7 begin) ([]:List c8) (fun dm0=>.KG (D0 dm0 (.of (fun z_=>ad1 z_.1 z_.2) 403 [])) [] fun v2=>.L (fun(t:Int)=>[.t 53 (.t (tI t)),.x 48]) 2 (.one .rt) (T7 v2) 0 (fun _=>.R (v2,true)) (fun r4=>.R r4)) (fun t=>t.elim)))
def ag8 (v _:Int)(x3:c8)(f3:List A6):M prog j1 (Fl (List A6) Empty):=
 .W (.hx 0)<| .Pn 40000<| .D [] [(13,40000)]<| .U (.ap I2 f3 ([(⟨x3.x,j7 (v+x3.cE7),false,0⟩:A6)]:List A6) 40000) fun l=>.R (.next l)
def ag7 (s:j1)(r2:Int×Int)(_ x:Int)(f2:List A6):M prog j1 (Fl (List A6) Empty):=
 .W (.hx 0)<| .D [] []<| .K (av9 s.u7 x) fun r3=>.K (Q9 s.B1.H6 (ed7 (j7 (r3.1+5760)) 46080)) fun v=>.Z (.fb 5)<| .K (H4 s.Next (.of (fun z_=>Y4 z_ x) 372 [aJ9 x])) fun v2=>.I ((decide (v>=s.B1.as3))||(decide (v2<0))) (.R (.next f2)) (.D [] []<| .O (.ix B3 s.Next v2) fun x2=>.K (ar5 s.u7 x2 (ed7 (j7 (r3.1+5760)) 46080) r2.1) fun r4=>.I (!r4.2) (.R (.next f2)) (M.Q A9 r4.1 2 90 (fun(t:List A6)=>[.x 34,.x 35,.x 36,.x 45,.x 46,.x 47,.x 48,.x 52,.x 53,.x 54,.x 59,.x 60,.x 61,.x 62,.x 70,.x 71,.x 72,.x 74,.x 75,.x 76,.b 40000 (.rs 221 7 t I2)]) 2 (.e) (ag8 v) f2 (fun f4=>.R (.next f4)) (fun t=>t.elim)))
def ah7 (s:j1):CG prog j1:=.of Z call331 func331 [.ptr 1000000 0] [(1000000,.box (aw1 (aL5 s) [(11,.own 1000001)])),(1000001,.rs 221 7 s.H3 I2)] (fun _=>.Q1 []) (fun r=>[(900000,.rs 221 7 r.H3 I2),(1000000,.box (aw1 (aL5 r) [(11,.own 900000)]))]) [900000] (
 .K (aE7 s.B1 23040) fun r2=>.Z (.rn [(1000001,40000)])<|M.Q aJ9 s.u7.A3 2 29 (fun(t:List A6)=>[.x 16,.x 17,.x 18,.x 23,.x 24,.x 25,.x 26,.b 40000 (.rs 221 7 t I2)]) 0 (.e) (ag7 s r2) s.H3 (fun f5=>.R ({s with H3:=f5}:j1)) (fun t=>t.elim))
def aa5 (v4 i:Int)(f2:List A6):M prog (j1×List j6×Int) (Fl (List A6) Empty):=
 .D [] []<| .O (.ix I2 f2 i) fun x=>.W (.ly 0)<| .W (.hx 0)<| .U (.st I2 f2 i ({x with Left:=G4 (-1048576) (j7 (x.Left-v4))}:A6) 0) fun l=>.R (.next l)
def al9 (s:j1)(c:E3):C prog (j1×List j6×Int):=.of Z call268 func268 [S0 s,bB7 c] (fun r=>.Q1 [S0 r.1,.t (tS u3 r.2.1),.t (tI r.2.2)]) (
 .K (J8 s) fun v=>.G (!v) (.R true) (.K (aj2 c) fun v2=>.R (!v2)) fun b2=>.I b2 (.R ((⟨(⟨([]:List Int),0⟩:o5),(⟨false,0,0,0,0,0⟩:E3),(⟨0,([]:List j9)⟩:u9),([]:List A2),([]:List A6),false⟩:j1),([]:List j6),1)) (.I (!c.X5) (.R ((⟨(⟨([]:List Int),0⟩:o5),(⟨false,0,0,0,0,0⟩:E3),(⟨0,([]:List j9)⟩:u9),([]:List A2),([]:List A6),false⟩:j1),([]:List j6),6)) (.I (decide (c.At<s.k6.V0)) (.R ((⟨(⟨([]:List Int),0⟩:o5),(⟨false,0,0,0,0,0⟩:E3),(⟨0,([]:List j9)⟩:u9),([]:List A2),([]:List A6),false⟩:j1),([]:List j6),16)) (.KG (L3 s) [2280] fun v3=>.KG (ab7 v3 c.At) [2304] fun r2=>.J0 0 (fun(t:List A6)=>[.x 2,.x 22,.x 27,.x 29,.x 30,.x 36,.x 39,.x 40,.b 2304 (.rs 221 7 t I2),.d 2]) (.I s.B1.X5 (.K (Q9 s.B1.H6 c.H6) fun v4=>M.QN (r2.2.H3.length:Int) 2 51 (fun(t:List A6)=>[.x 2,.x 22,.x 27,.x 29,.x 30,.x 36,.x 39,.x 40,.x 42,.x 43,.x 45,.x 48,.x 49,.b 2304 (.rs 221 7 t I2),.d 2]) 1 (.e) (aa5 v4) r2.2.H3 (fun f3=>.R f3) (fun t=>t.elim)) (.R r2.2.H3)) fun f4=>.I (!r2.2.Cut) (.KG (ah7 (⟨r2.2.u7,c,r2.2.k6,r2.2.Next,f4,r2.2.Cut⟩:j1)) [2592] fun v5=>.I (decide ((v5.H3.length:Int)>200)) (.R ((⟨(⟨([]:List Int),0⟩:o5),(⟨false,0,0,0,0,0⟩:E3),(⟨0,([]:List j9)⟩:u9),([]:List A2),([]:List A6),false⟩:j1),([]:List j6),5)) (.KG (ak9 v5) [] fun v6=>.R (v6,r2.1,0))) (.R ((⟨r2.2.u7,c,r2.2.k6,r2.2.Next,f4,r2.2.Cut⟩:j1),r2.1,0))))))
set_option maxHeartbeats 4000000
def be6 (S4:aa1)(e2:Int)(c:aa1):C prog aa1:=.of Z call326 func326 [bb6 S4,.t (tI e2),.el (cz6 c)] (fun r=>bb6 r) (
 .I (e2 !=0) (.R c) (.R S4))
def bu2 (s:j8)(aZ2:Int):CG prog j8:=.of Z call178 func178 [.ptr 1000000 0,.t (tI aZ2)] [(1000000,.box (aw1 (G6 s) [(113,.own 1000001)])),(1000001,.rs 95 3 s.y9 u3)] (fun _=>.Q1 []) (fun r=>[(900000,.rs 95 3 r.y9 u3),(1000000,.box (aw1 (G6 r) [(113,.own 900000)]))]) [900000] (
 .K (bk0 s.u.H8 aZ2) fun r2=>.D [] []<| .K (bL9 s.u.H8) fun v=>.K (be6 r2.1 r2.2.2 v) fun v2=>.I ((r2.2.2 !=0)||(!r2.2.1)) (.R ({s with u:=(⟨s.u.u6,s.u.u4,s.u.j4,s.u.Q4,s.u.M7,v2,s.u.M0,s.u.I8,s.u.L6,s.u.F3,s.u.A8,s.u.ab0,s.u.Time⟩:ac3)}:j8)) (.D [] []<| .K (bA5 s.u.Q4) fun v3=>.K (br5) fun v4=>.K (cx1 v4 s.u.Q4 aZ2) fun r3=>.K (aZ7 r3.1 r3.2 v3) fun v5=>.KG (aZ9 ({s with u:=(⟨s.u.u6,s.u.u4,s.u.j4,s.u.Q4,s.u.M7,v2,s.u.M0,s.u.I8,s.u.L6,s.u.F3,s.u.A8,s.u.ab0,s.u.Time⟩:ac3)}:j8) v5 aZ2) [2464] fun v6=>.I (v6.u.Q4.Mode !=2) (.R v6) (.J0 0 (fun(t:j8)=>[.x 4,.x 10,.x 11,.x 12,.x 13,.x 20,.x 21,.x 22,.x 23,.x 24,.x 30,.x 31,.x 32,.x 39,.x 40,.x 41,.x 42,.x 43,.x 47,.x 48,.x 49,.x 50,.x 59,.x 60,.x 61,.x 62,.x 63,.x 66,.x 67,.x 68,.x 69,.x 70,.b 2816 (.rs 95 3 t.y9 u3),.b 1000000 (.box (aw1 (G6 t) [(113,.own 2816)])),.d 4,.d 2464]) (.I (v6.u.Q4.ay8==0) (.D [] []<| .K (bu0 v6.u.M7) fun v7=>.K (bD8) fun v8=>.K (bJ8 v8 v6.u.M7) fun r4=>.K (aT3 r4.1 r4.2 v7) fun v9=>.I (!v9.aX6) (.KG (aY2 ({v6 with u:=(⟨v6.u.u6,v6.u.u4,v6.u.j4,v6.u.Q4,v9,v6.u.H8,v6.u.M0,v6.u.I8,v6.u.L6,v6.u.F3,v6.u.A8,v6.u.ab0,v6.u.Time⟩:ac3)}:j8) aZ2) [2816] fun v10=>.R v10) (.Z (.rn [(2464,2816)])<| .R ({v6 with u:=(⟨v6.u.u6,v6.u.u4,v6.u.j4,v6.u.Q4,v9,v6.u.H8,v6.u.M0,v6.u.I8,v6.u.L6,v6.u.F3,v6.u.A8,v6.u.ab0,v6.u.Time⟩:ac3)}:j8))) (.Z (.rn [(2464,2816)])<| .R v6)) fun f2=>.I f2.u.M7.aX6 (.D [] [(25,7)]<| .K (br5) fun v11=>.K (bO4 v11 aZ2 f2.u.Q4.ay8 f2.u.M7.bG2 f2.u.Q4.F9) fun r5=>.D [] []<| .K (al9 f2.u.j4 r5.1) fun r6=>.KG (aG9 f2 r6.1 r6.2.1 r6.2.2) [3152] fun v12=>.R v12) (.R f2))))
def aT9 (x:Int)(s3:List Int×j8):M prog j8 ((List Int×j8)⊕((List Int×j8)⊕Empty)):=
 .G (decide ((s3.1.length:Int)>0)) (.O (.ix aJ9 s3.1 0) fun x2=>.R (decide (x2<=x))) (.R false) fun b2=>.I b2 (.KG (ba0 s3.2 s3.1) [] fun r5=>.R (.inl (r5.2,r5.1))) (.R (.inr (.inl (s3.1,s3.2))))
def aT8 (_ x:Int)(s2:List Int×j8):M prog j8 (Fl (List Int×j8) Empty):=
 .W (.hx 0)<| .L (fun(t:List Int×j8)=>[.b 10 (.box [.t (tS aJ9 t.1)]),.b 2312 (.rs 95 3 t.2.y9 u3),.b 1000000 (.box (aw1 (G6 t.2) [(113,.own 2312)]))]) 2 (.e) (aT9 x) (s2.1,s2.2) (fun s4=>.KG (bu2 s4.2 x) [2792] fun v9=>.Z (.rn [(2792,2312)])<| .R (.next (s4.1,v9))) (fun t=>t.elim)
def bi5 (s6:List Int×j8):M prog j8 ((List Int×j8)⊕((List Int×j8)⊕Empty)):=
 .I (decide ((s6.1.length:Int)>0)) (.KG (ba0 s6.2 s6.1) [] fun r6=>.R (.inl (r6.2,r6.1))) (.R (.inr (.inl (s6.1,s6.2))))
def bk5 (s:j8):CG prog j8:=.of Z call85 func85 [.ptr 1000000 0] [(1000000,.box (aw1 (G6 s) [(113,.own 1000001)])),(1000001,.rs 95 3 s.y9 u3)] (fun _=>.Q1 []) (fun r=>[(900000,.rs 95 3 r.y9 u3),(1000000,.box (aw1 (G6 r) [(113,.own 900000)]))]) [900000] (
 .D [] []<| .K (bA5 s.u.Q4) fun v=>.K (br5) fun v2=>.K (cg2 v2 s.u.Q4 s.t) fun r2=>.K (aZ7 r2.1 r2.2 v) fun v3=>.KG (aZ9 s v3 s.t) [2312] fun v4=>.D [] []<| .K (br5) fun v5=>.K (bB4 v5 (j7 (cZ1 v4.u.A8.K2 65536)) (j7 (cZ1 (j7 (v4.u.A8.K2+(j7 (10000*v4.u.A8.D2)))) 65536))) fun r3=>.K (bD8) fun v6=>.K (bk1 v6 (j7 (cZ1 v4.u.A8.K2 65536)) (j7 (cZ1 (j7 (v4.u.A8.K2+(j7 (10000*v4.u.A8.D2)))) 65536))) fun r4=>.KG (aJ0 v4 r4.1) [] fun v7=>.KG (aJ0 v4 r3.1) [] fun v8=>M.Q aJ9 v8 2 81 (fun(t:List Int×j8)=>[.x 0,.x 14,.x 15,.x 16,.x 17,.x 18,.x 22,.x 23,.x 24,.x 25,.x 27,.x 28,.x 29,.x 35,.x 36,.x 37,.x 40,.x 41,.x 42,.x 43,.x 44,.x 46,.x 47,.x 48,.x 49,.x 50,.x 73,.x 76,.x 77,.b 10 (.box [.t (tS aJ9 t.1)]),.b 2312 (.rs 95 3 t.2.y9 u3),.b 1000000 (.box (aw1 (G6 t.2) [(113,.own 2312)]))]) 0 (.e) (aT8) (v7,v4) (fun s5=>.L (fun(t:List Int×j8)=>[.b 10 (.box [.t (tS aJ9 t.1)]),.b 2312 (.rs 95 3 t.2.y9 u3),.b 1000000 (.box (aw1 (G6 t.2) [(113,.own 2312)]))]) 4 (.e) (bi5) (s5.1,s5.2) (fun s7=>.D [] []<| .K (T6 s7.2.u.j4 (j7 (s7.2.t+10000))) fun r7=>.KG (aG9 s7.2 r7.1 r7.2.1 r7.2.2) [2968] fun v10=>.R v10) (fun t=>t.elim)) (fun t=>t.elim))
def bE0 (f2:A2):C prog Bool:=.of Z call181 func181 [aP1 f2] (fun r=>.t (tB r)) (
 .R (f2.Y8 !=0))
def aA3 (t2:o7)(M5 B9:Int):C prog (Int×Int):=.of Z call182 func182 [T0 t2,.t (tI M5),.t (tI B9)] (fun r=>.Q1 [.t (tI r.1),.t (tI r.2)]) (
 .K (aB3 t2 M5 B9) fun r2=>.I (r2.2 !=0) (.R (0,r2.2)) (.R (j7 (3*(G4 0 (j7 (M5-r2.1)))),0)))
def bJ9 (b2:L2)(p2:Z0)(fuel air:Int):C prog (Z0×Int×Int):=.of Z call183 func183 [aL4 b2,aX4 p2,.t (tI fuel),.t (tI air)] (fun r=>.Q1 [aX4 r.1,.t (tI r.2.1),.t (tI r.2.2)]) (
 .K (bv4 b2 p2) fun v=>.I (!v) (.R ((⟨0,0,0,0,0,([]:List Int)⟩:Z0),0,1)) (.K (F8 fuel 0 1048576) fun v2=>.G (!v2) (.R true) (.K (F8 air 0 1048576) fun v3=>.R (!v3)) fun b3=>.I b3 (.R ((⟨0,0,0,0,0,([]:List Int)⟩:Z0),0,2)) (.D [] []<| .J0 0 (fun(t:Int)=>[.t 14 (.t (tI t)),.x 33,.x 37,.x 39,.x 48,.x 54]) (.I (decide ((j7 ((j7 (fuel-(j7 (cZ1 (j7 (fuel*b2.P1)) 1024))))+(j7 (cZ1 (j7 (p2.P1*b2.K9)) 1024))))>0)) (.O (.quo .i64 (j7 (10000*air)) (j7 (147*(j7 ((j7 (fuel-(j7 (cZ1 (j7 (fuel*b2.P1)) 1024))))+(j7 (cZ1 (j7 (p2.P1*b2.K9)) 1024))))))) fun q=>.K (C6 q 500 2000) fun v4=>.R v4) (.R 2000)) fun mixture=>.U (.ap aJ9 ([]:List Int) p2.Path 63) fun l=>.U (.ap aJ9 l ([mixture]:List Int) 63) fun l2=>.J0 0 (fun(t:List Int)=>[.t 15 (.t (tS aJ9 t)),.x 4,.x 64,.x 68,.x 69,.x 70,.x 72,.d 4,.d 63,.d 68]) (.I (decide ((l2.length:Int)>(j7 (b2.aX5+1)))) (.Z (.fr 63)<| .U (.sF aJ9 l2 1 (l2.length:Int)) fun l3=>.R l3) (.Z (.fr 63)<| .R l2)) fun path=>.R (({p2 with P1:=j7 (p2.P1+(j7 ((j7 (cZ1 (j7 (fuel*b2.P1)) 1024))-(j7 (cZ1 (j7 (p2.P1*b2.K9)) 1024))))),Path:=path}:Z0),j7 ((j7 (fuel-(j7 (cZ1 (j7 (fuel*b2.P1)) 1024))))+(j7 (cZ1 (j7 (p2.P1*b2.K9)) 1024))),0))))
def bu1 (old:Z0):C prog Z0:=.of Z call184 func184 [aX4 old] (fun r=>.fz 271 [cN6 r]) (
 .Z (.fb 1)<| .R old)
def bg0 (w:ap5)(T4 load M5:Int):CG prog ap5:=.of Z call272 func272 [.ptr 1000000 0,.t (tI T4),.t (tI load),.t (tI M5)] [(1000000,.box (bd5 w))] (fun _=>.Q1 []) (fun r=>[(1000000,.box (bd5 r))]) [] (
 .D [] []<| .D [] []<| .K (V8 (j7 ((j7 ((j7 ((j7 (T4-load))-(j7 (cZ1 (j7 (w.b.ap4*w.A8.D2)) 65536))))*M5))+w.A8.Rest)) w.b.ai9) fun v=>.K (ac4 (j7 ((j7 ((j7 ((j7 (T4-load))-(j7 (cZ1 (j7 (w.b.ap4*w.A8.D2)) 65536))))*M5))+w.A8.Rest)) w.b.ai9) fun v2=>.J0 0 (fun(t:Int)=>[.t 10 (.t (tI t)),.x 15,.x 16,.x 17,.x 18,.x 20,.x 21,.x 22,.x 23,.x 30,.x 31,.x 32,.x 33,.x 37,.x 38,.x 39,.x 40,.x 44,.x 45,.x 46,.x 47,.x 50,.x 51,.x 52,.x 53]) (.I ((decide ((j7 (w.A8.D2+v))<0))||(decide ((j7 (w.A8.D2+v))>262144))) (.R 0) (.R v2)) fun rest=>.K (C6 (j7 (w.A8.D2+v)) 0 262144) fun v3=>.R (⟨(⟨w.A8.K2,v3,rest,w.A8.L0,w.A8.P1,w.A8.Path⟩:Z0),w.b⟩:ap5))
def aR9 (w:ap5)(bn7 o8 M5:Int):CG prog ap5:=.of Z call273 func273 [.ptr 1000000 0,.t (tI bn7),.t (tI o8),.t (tI M5)] [(1000000,.box (bd5 w))] (fun _=>.Q1 []) (fun r=>[(1000000,.box (bd5 r))]) [] (
 .D [] []<| .D [] []<| .K (V8 (j7 ((j7 ((j7 (cZ1 (j7 ((j7 (w.b.J2*bn7))*(j7 (1013-w.A8.L0)))) 1000))-(j7 (cZ1 (j7 (o8*w.A8.L0)) 1024))))*M5)) (j7 (65536*w.b.aO8))) fun v=>.K (C6 (j7 (w.A8.L0+v)) 50 1013) fun v2=>.R (⟨(⟨w.A8.K2,w.A8.D2,w.A8.Rest,v2,w.A8.P1,w.A8.Path⟩:Z0),w.b⟩:ap5))
def ce6 (b2:L2)(p2:Z0)(bn7 T4 load M5:Int):C prog (Z0×ee3×Int):=.of Z call185 func185 [aL4 b2,aX4 p2,.t (tI bn7),.t (tI T4),.t (tI load),.t (tI M5)] (fun r=>.Q1 [aX4 r.1,eK4 r.2.1,.t (tI r.2.2)]) (
 .K (bv4 b2 p2) fun v=>.I (!v) (.R ((⟨0,0,0,0,0,([]:List Int)⟩:Z0),(⟨0,0⟩:ee3),1)) (.K (F8 bn7 0 1000) fun v2=>.G (!v2) (.R true) (.K (F8 T4 (-5000) 10000) fun v3=>.R (!v3)) fun b3=>.G b3 (.R true) (.K (F8 load (-10000) 10000) fun v4=>.R (!v4)) fun b4=>.G b4 (.R true) (.K (F8 M5 1 10000) fun v5=>.R (!v5)) fun b5=>.I b5 (.R ((⟨0,0,0,0,0,([]:List Int)⟩:Z0),(⟨0,0⟩:ee3),2)) (.U (.ap aJ9 ([]:List Int) p2.Path 49) fun l=>.Z (.fr 49)<| .KG (bg0 (⟨({p2 with Path:=l}:Z0),b2⟩:ap5) T4 load M5) [] fun v6=>.D [] []<| .KG (aR9 (⟨(⟨ed7 (j7 (v6.A8.K2+(j7 (p2.D2*M5)))) 3019898880,v6.A8.D2,v6.A8.Rest,v6.A8.L0,v6.A8.P1,v6.A8.Path⟩:Z0),v6.b⟩:ap5) bn7 p2.D2 M5) [] fun v7=>.D [] [(8,12)]<| .R (v7.A8,(⟨M5,p2.D2⟩:ee3),0))))
def aT4 (S4:Z0)(e2:Int)(c:Z0):C prog Z0:=.of Z call271 func271 [aX4 S4,.t (tI e2),.el (cN6 c)] (fun r=>aX4 r) (
 .I (e2 !=0) (.R c) (.R S4))
def be7 (s:j8):CG prog j8:=.of Z call86 func86 [.ptr 1000000 0] [(1000000,.box (G6 s))] (fun _=>.Q1 []) (fun r=>[(1000000,.box (G6 r))]) [] (
 .J0 0 (fun(t:Int)=>[.x 14,.x 15,.x 16,.x 17,.x 18,.x 20,.x 21,.x 22,.c 1000000 114 [.t (tI t)]]) (.I (((!s.cut)&&s.u.L6.U2)&&s.known) (.R s.E8.o9) (.R s.T4)) fun f2=>.J0 0 (fun(t:Z0)=>[.x 42,.x 43,.x 44,.c 1000000 78 [.t (tI t.K2),.t (tI t.D2),.t (tI t.Rest),.t (tI t.L0),.t (tI t.P1),.t (tS aJ9 t.Path)]]) (.I (decide (f2>0)) (.K (H4 s.E8.O0 (.of (fun z_=>bE0 z_) 181 [])) fun v=>.J0 0 (fun(t:Int)=>[.t 3 (.t (tI t)),.x 42,.x 43,.x 44,.x 47,.x 48,.x 49,.x 50]) (.I (decide (v>=0)) (.D [] []<| .O (.ix B3 s.E8.O0 v) fun x=>.K (aA3 s.u.u6 x.Y8 13500) fun r2=>.R r2.1) (.R 0)) fun bq8=>.D [] [(21,5)]<| .K (bJ9 s.u.ab0 s.u.A8 bq8 s.A0) fun r3=>.D [] []<| .K (bu1 s.u.A8) fun v2=>.K (aT4 r3.1 r3.2.2 v2) fun v3=>.R v3) (.R s.u.A8)) fun f3=>.J0 0 (fun(t:Int)=>[.t 8 (.t (tI t)),.x 106,.x 107,.x 108,.x 110,.x 111,.x 112]) (.I (decide (s.o8<400)) (.R (j7 (f2+800))) (.R f2)) fun T4=>.J0 0 (fun(t:Int)=>[.t 9 (.t (tI t))]) (.I s.u.L6.U2 (.R s.E8.J2) (.R 0)) fun bn7=>.J0 0 (fun(t:Int)=>[.t 10 (.t (tI t)),.x 123,.x 124,.x 125,.x 126]) (.I (s.d.bO0 !=0) (.D [] []<| .R (j7 (s.d.bO1+s.d.bl5))) (.R 0)) fun load=>.D [] [(21,11),(22,12)]<| .K (ce6 s.u.ab0 f3 bn7 (F2 T4 10000) load 10000) fun r4=>.D [] []<| .K (bu1 f3) fun v4=>.K (aT4 r4.1 r4.2.2 v4) fun v5=>.R ({s with u:=(⟨s.u.u6,s.u.u4,s.u.j4,s.u.Q4,s.u.M7,s.u.H8,s.u.M0,s.u.I8,s.u.L6,s.u.F3,v5,s.u.ab0,s.u.Time⟩:ac3),T4:=f2}:j8))
def bB3 (_:Int)(x:j6)(last:Int):M prog Bool (Fl Int Bool):=
 .W (.hx 0)<| .K (bK8 x.At) fun v=>.I ((((!v)||(decide (x.At<last)))||(decide (x.Channel<0)))||(decide (x.Channel>=16))) (.R (.ret false)) (.R (.next x.At))
def cf9 (l:List j6):C prog Bool:=.of Z call274 func274 [.t (tS u3 l)] (fun r=>.t (tB r)) (
 .I (decide ((l.length:Int)>1000)) (.R false) (M.Q u3 l 2 11 (fun(t:Int)=>[.t 3 (.t (tI t))]) 0 (.one .rt) (bB3) 0 (fun _=>.R true) (fun r2=>.R r2)))
def N6 (s:List j6)(del:Cl prog j6 Bool (fun x=>[aj9 x]) (fun r=>.t (tB r))):CG prog (List j6):=⟨275,[.own 1000000,.fz del.n del.cs],[(1000000,.rs 95 3 s u3)],Pv.N6 s (fun x0=>del.f x0),fun _=>ds6 s,(fun r=>.t (tS u3 r)),(fun _=>[]),[],bj0 s del.n del.cs (fun x0=>del.f x0) (fun x0=>del.ok x0),fun _ r h=>bi1 h⟩
def aS4 (s:List j6):CG prog (List j6):=.of Z call276 func276 [.t (tS u3 s)] [] (fun _=>.own 900000) (fun r=>[(900000,.rs 95 3 r u3)]) [900000] (
 .Nl u3 s (.I true (.Z (.np 2 70000 95 3 [])<| .R ([]:List j6)) .N) (fun s=>.I false .N (.U (.ap u3 ([]:List j6) s 5) fun l=>.R l)))
def co9 (x:j6)(c:ao6):C prog Bool:=.of Z call277 func277 [aj9 x,.el (bu3 c)] (fun r=>.t (tB r)) (
 .R (x.K1&&(!c.U2)))
def cf7 (s:ao6)(l:List j6):C prog (List j6×Int):=.of Z call186 func186 [bl4 s,.t (tS u3 l)] (fun r=>.Q1 [.t (tS u3 r.1),.t (tI r.2)]) (
 .K (bn4 s) fun v=>.G (!v) (.R true) (.K (cf9 l) fun v2=>.R (!v2)) fun b2=>.I b2 (.R (([]:List j6),1)) (.KG (aS4 l) [2120] fun v3=>.Z (.fb 2)<| .KG (N6 v3 (.of (fun z_=>co9 z_ s) 277 [bu3 s])) [] fun v4=>.R (v4,0)))
def bo4 (s:j8):CG prog aj1:=.of Z call87 func87 [.ptr 1000000 0] [(1000000,.box (G6 s))] (fun r=>cq5 r) (fun _=>[(1000000,.box (G6 s))]) [] (
 .D [] []<| .K (cf7 s.u.L6 s.y9) fun r2=>.D [] []<| .R (⟨s.t,s.o8,s.T4,s.V4,r2.1,s.Z2,(!s.u.L6.U2)⟩:aj1))
def bQ9 (u:ac3)(d:I5)(k:List Y9):C prog (ac3×aj1):=.of Z call42 func42 [bZ9 u,bd3 d,.t (tS aH0 k)] (fun r=>.Q1 [bZ9 r.1,cq5 r.2]) (
 .K (ce4 u.A8.D2) fun r2=>.Z (.nb 24 2292 267 7 [107])<| .Z (.nb 24 2293 95 3 [113])<| .KG (bk4 (⟨u,d,k,u.Time,r2.1,([]:List U3),0,0,0,0,0,(⟨0,([]:List A2),0⟩:O4),0,0,((u.Q4.Mode==2)&&u.M7.aX6),false,([]:List j6),0⟩:j8)) [] fun v=>.KG (aT5 v) [2304] fun v2=>.KG (aT6 v2) [] fun v3=>.Z (.fr 2304)<| .KG (av8 v3) [] fun v4=>.KG (aZ8 v4) [2352] fun v5=>.KG (bk5 v5) [2368] fun v6=>.Z (.fr 2368)<| .KG (be7 v6) [] fun v7=>.D [] []<| .KG (bo4 ({v7 with u:=(⟨v7.u.u6,v7.u.u4,v7.u.j4,v7.u.Q4,v7.u.M7,v7.u.H8,v7.u.M0,v7.u.I8,v7.u.L6,v7.u.F3,v7.u.A8,v7.u.ab0,j7 (v7.t+10000)⟩:ac3)}:j8)) [] fun v8=>.R ((⟨v7.u.u6,v7.u.u4,v7.u.j4,v7.u.Q4,v7.u.M7,v7.u.H8,v7.u.M0,v7.u.I8,v7.u.L6,v7.u.F3,v7.u.A8,v7.u.ab0,j7 (v7.t+10000)⟩:ac3),v8))
def aR0 (u:ac3)(d:I5)(k:List Y9):C prog (ac3×aj1×Int):=.of Z call20 func20 [bZ9 u,bd3 d,.t (tS aH0 k)] (fun r=>.Q1 [bZ9 r.1,cq5 r.2.1,.t (tI r.2.2)]) (
 .K (bV3 u) fun v=>.G (!v) (.R true) (.K (bI5 k) fun v2=>.R (!v2)) fun b2=>.G b2 (.R true) (.K (ct9 d) fun v3=>.R (!v3)) fun b3=>.I b3 (.R ((⟨(⟨(⟨([]:List Int),([]:List Int),([]:List (List Int))⟩:SMap),(⟨([]:List Int),([]:List Int),([]:List (List Int))⟩:SMap),(⟨([]:List Int),([]:List Int),([]:List (List Int))⟩:SMap),(⟨([]:List Int),([]:List Int),([]:List (List Int))⟩:SMap),(⟨([]:List Int),([]:List Int)⟩:Q2),(⟨([]:List Int),([]:List Int)⟩:Q2),(⟨([]:List Int),([]:List Int)⟩:Q2),(⟨([]:List Int),([]:List Int)⟩:Q2),(⟨0,0,0,0⟩:aV4)⟩:o7),(⟨(⟨0,0,false⟩:U7),(⟨0⟩:F7),([]:List B8),(⟨false,false,0,0,([]:List ab3)⟩:M8),0,(⟨0,0⟩:aa2)⟩:A5),(⟨(⟨([]:List Int),0⟩:o5),(⟨false,0,0,0,0,0⟩:E3),(⟨0,([]:List j9)⟩:u9),([]:List A2),([]:List A6),false⟩:j1),(⟨0,0,0,0,0,0⟩:aa8),(⟨false,0,0,false⟩:ad7),(⟨false,0,0⟩:aa1),(⟨0,0,false⟩:ah9),(⟨0,0,0,false,false⟩:ab4),(⟨false,0,0⟩:ao6),(⟨([]:List w9),([]:List A1),0,false⟩:B7),(⟨0,0,0,0,0,([]:List Int)⟩:Z0),(⟨0,0,0,0,0,0,0⟩:L2),0⟩:ac3),(⟨0,0,0,0,([]:List j6),([]:List U3),false⟩:aj1),1)) (.I (decide ((j7 (u.Time+10000))>549755813888)) (.R ((⟨(⟨(⟨([]:List Int),([]:List Int),([]:List (List Int))⟩:SMap),(⟨([]:List Int),([]:List Int),([]:List (List Int))⟩:SMap),(⟨([]:List Int),([]:List Int),([]:List (List Int))⟩:SMap),(⟨([]:List Int),([]:List Int),([]:List (List Int))⟩:SMap),(⟨([]:List Int),([]:List Int)⟩:Q2),(⟨([]:List Int),([]:List Int)⟩:Q2),(⟨([]:List Int),([]:List Int)⟩:Q2),(⟨([]:List Int),([]:List Int)⟩:Q2),(⟨0,0,0,0⟩:aV4)⟩:o7),(⟨(⟨0,0,false⟩:U7),(⟨0⟩:F7),([]:List B8),(⟨false,false,0,0,([]:List ab3)⟩:M8),0,(⟨0,0⟩:aa2)⟩:A5),(⟨(⟨([]:List Int),0⟩:o5),(⟨false,0,0,0,0,0⟩:E3),(⟨0,([]:List j9)⟩:u9),([]:List A2),([]:List A6),false⟩:j1),(⟨0,0,0,0,0,0⟩:aa8),(⟨false,0,0,false⟩:ad7),(⟨false,0,0⟩:aa1),(⟨0,0,false⟩:ah9),(⟨0,0,0,false,false⟩:ab4),(⟨false,0,0⟩:ao6),(⟨([]:List w9),([]:List A1),0,false⟩:B7),(⟨0,0,0,0,0,([]:List Int)⟩:Z0),(⟨0,0,0,0,0,0,0⟩:L2),0⟩:ac3),(⟨0,0,0,0,([]:List j6),([]:List U3),false⟩:aj1),2)) (.K (bQ9 u d k) fun r2=>.D [] [(2,6)]<| .R (r2.1,r2.2,0))))
def aM0:C prog Bool:=.of Z call6 func6 [] (fun r=>.t (tB r)) (
 .K (dF4) fun v=>.K (ek4) fun v2=>.K (bY0) fun v3=>.K (bm4) fun v4=>.K (bV2 v v2 v3 v4) fun r2=>.K (aR0 r2.1 (⟨0,0,0,0,0⟩:I5) ([]:List Y9)) fun r3=>.R (((((((r2.2==0)&&(r3.2.2==0))&&(!r3.2.1.Off))&&(r3.2.1.D2==0))&&(r3.2.1.o9==0))&&(decide (r3.1.A8.D2>0)))&&(r3.1.Time==10000)))
def bu9 (l:List Int):C prog Bool:=.of Z call22 func22 [.t (tS aJ9 l)] (fun r=>.t (tB r)) (
 .R (decide ((l.length:Int)>40)))
def aW4 (_:Int)(x:SMap)(_:Unit):M prog Bool (Fl Unit Bool):=
 .W (.hx 0)<| .W (.ly 0)<| .G (((decide ((x.X.length:Int)>40))||(decide ((x.Y.length:Int)>40)))||(decide ((x.Z.length:Int)>40))) (.R true) (.K (G0 x.Z (.of (fun z_=>bu9 z_) 22 [])) fun v=>.R v) fun b2=>.I b2 (.R (.ret false)) (.R (.next ()))
def aW5 (_:Int)(x2:Q2)(_:Unit):M prog Bool (Fl Unit Bool):=
 .W (.hx 0)<| .W (.ly 0)<| .I ((decide ((x2.X.length:Int)>40))||(decide ((x2.Y.length:Int)>40))) (.R (.ret false)) (.R (.next ()))
def bi7 (t2:o7):C prog Bool:=.of Z call7 func7 [T0 t2] (fun r=>.t (tB r)) (
 M.Q cN4 ([t2.Air,t2.N9,t2.o9,t2.aH9]:List SMap) 2 17 (fun(_:Unit)=>[.x 7,.x 9,.x 11,.x 13]) 0 (.one .rt) (aW4) () (fun _=>M.Q bI7 ([t2.L4,t2.af1,t2.aw5,t2.C3]:List Q2) 2 53 (fun(_:Unit)=>[.x 1,.x 43,.x 45,.x 47,.x 49,.d 1]) 2 (.one .rt) (aW5) () (fun _=>.R true) (fun r2=>.R r2)) (fun r3=>.R r3))
def ao7 (x:List I5)(target:Int)(cmp:Cl prog (I5×Int) Int (fun x=>[bd3 x.1,.t (tI x.2)]) (fun r=>.t (tI r)))(s:Int×Int):M prog (Int×Bool) ((Int×Int)⊕((Int×Int)⊕Empty)):=
 .I (decide (s.1<s.2)) (.O (.ix aq3 x (j7 (F5 .u64 (aX8.wrap (j7 (s.1+s.2))) 1))) fun x2=>.K (cmp.at (x2,target)) fun v=>.I (decide (v<0)) (.R (.inl (j7 ((j7 (F5 .u64 (aX8.wrap (j7 (s.1+s.2))) 1))+1),s.2))) (.R (.inl (s.1,j7 (F5 .u64 (aX8.wrap (j7 (s.1+s.2))) 1))))) (.R (.inr (.inl (s.1,s.2))))
def au9 (x:List I5)(target:Int)(cmp:Cl prog (I5×Int) Int (fun x=>[bd3 x.1,.t (tI x.2)]) (fun r=>.t (tI r))):C prog (Int×Bool):=.of Z call134 func134 [.t (tS aq3 x),.t (tI target),.fz cmp.n cmp.cs] (fun r=>.Q1 [.t (tI r.1),.t (tB r.2)]) (
 .L (fun(t:Int×Int)=>[.t 9 (.t (tI t.1)),.t 10 (.t (tI t.2))]) 0 (.e) (ao7 x target cmp) (0,(x.length:Int)) (fun s2=>.G (decide (s2.1<(x.length:Int))) (.O (.ix aq3 x s2.1) fun x3=>.K (cmp.at (x3,target)) fun v2=>.R (v2==0)) (.R false) fun b2=>.R (s2.1,b2)) (fun t=>t.elim))
def ck7 (d:I5)(t2:Int):C prog Int:=.of Z call135 func135 [bd3 d,.t (tI t2)] (fun r=>.t (tI r)) (
 .R (j7 (d.At-t2)))
def cd1 (l:List I5)(t2:Int):C prog (Int×Int):=.of Z call78 func78 [.t (tS aq3 l),.t (tI t2)] (fun r=>.Q1 [.t (tI r.1),.t (tI r.2)]) (
 .K (aA0 l) fun v=>.I (!v) (.R (0,1)) (.I ((decide (t2<0))||(decide (t2>1099511627776))) (.R (0,2)) (.K (au9 l t2 (.of (fun z_=>ck7 z_.1 z_.2) 135 [])) fun r2=>.I (!r2.2) (.R (j7 (r2.1-1),0)) (.R (r2.1,0)))))
def aY1 (l:List I5)(t2:Int):C prog (I5×Int):=.of Z call38 func38 [.t (tS aq3 l),.t (tI t2)] (fun r=>.Q1 [bd3 r.1,.t (tI r.2)]) (
 .K (cd1 l t2) fun r2=>.I (r2.2 !=0) (.R ((⟨0,0,0,0,0⟩:I5),r2.2)) (.O (.ix aq3 l r2.1) fun x=>.R (({x with At:=t2}:I5),0)))
def cd2 (l:List I5)(k:List Y9)(_:Int)(s:List aj1×ac3):M prog (List aj1×Int) (Fl (List aj1×ac3) (List aj1×Int)):=
 .K (aY1 l s.2.Time) fun r2=>.K (aR0 s.2 r2.1 k) fun r3=>.I (r3.2.2 !=0) (.R (.ret (([]:List aj1),2))) (.U (.ap by7 s.1 ([r3.2.1]:List aj1) 2472) fun l2=>.R (.next (l2,r3.1)))
def cG7 (u:ac3)(l:List I5)(k:List Y9)(steps:Int):C prog (List aj1×Int):=.of Z call11 func11 [bZ9 u,.t (tS aq3 l),.t (tS aH0 k),.t (tI steps)] (fun r=>.Q1 [.t (tS by7 r.1),.t (tI r.2)]) (
 .K (bV3 u) fun v=>.G (!v) (.R true) (.K (bI5 k) fun v2=>.R (!v2)) fun b2=>.G b2 (.R true) (.K (aA0 l) fun v3=>.R (!v3)) fun b3=>.I b3 (.R (([]:List aj1),1)) (.I ((decide (steps<0))||(decide (steps>1000))) (.R (([]:List aj1),2)) (.Z (.np 10 2472 91 7 [])<|M.QN steps 2 36 (fun(t:List aj1×ac3)=>[.t 10 (.own 2472),.b 4 (.box (eK5 t.2)),.b 2472 (.rs 91 7 t.1 by7)]) 0 (.one .rt) (cd2 l k) (([]:List aj1),u) (fun s2=>.R (s2.1,0)) (fun r4=>.R r4))))
def W6 (s:List j6)(f2:Cl prog j6 Bool (fun x=>[aj9 x]) (fun r=>.t (tB r)))(i:Int)(_:Unit):M prog Int (Fl Unit Int):=
 .O (.ix u3 s i) fun x=>.K (f2.at x) fun v=>.I v (.R (.ret i)) (.R (.next ()))
def P0 (s:List j6)(f2:Cl prog j6 Bool (fun x=>[aj9 x]) (fun r=>.t (tB r))):C prog Int:=.of Z call39 func39 [.t (tS u3 s),.fz f2.n f2.cs] (fun r=>.t (tI r)) (
 M.QN (s.length:Int) 2 8 (fun(_:Unit)=>[]) 0 (.one .rt) (W6 s f2) () (fun _=>.R (-1)) (fun r2=>.R r2))
def ao5 (s:List j6)(f2:Cl prog j6 Bool (fun x=>[aj9 x]) (fun r=>.t (tB r))):C prog Bool:=.of Z call12 func12 [.t (tS u3 s),.fz f2.n f2.cs] (fun r=>.t (tB r)) (
 .K (P0 s f2) fun v=>.R (decide (v>=0)))
def bc3 (s:j6):C prog Bool:=.of Z call13 func13 [aj9 s] (fun r=>.t (tB r)) (
 .R s.K1)
def bT4 (s1 s2:List Int)(i:Int)(_:Unit):M prog Bool (Fl Unit Bool):=
 .D [] []<| .O (.ix aJ9 s1 i) fun x=>.O (.ix aJ9 s2 i) fun x2=>.I (x !=x2) (.R (.ret false)) (.R (.next ()))
def co3 (s1 s2:List Int):C prog Bool:=.of Z call16 func16 [.t (tS aJ9 s1),.t (tS aJ9 s2)] (fun r=>.t (tB r)) (
 .I ((s1.length:Int) !=(s2.length:Int)) (.R false) (M.QN (s1.length:Int) 2 13 (fun(_:Unit)=>[]) 0 (.one .rt) (bT4 s1 s2) () (fun _=>.R true) (fun r2=>.R r2)))
def bc4 (a:U3):C prog Bool:=.of Z call15 func15 [bB6 a] (fun r=>.t (tB r)) (
 .G (a.S5==2) (.K (co3 a.ae9 ([6]:List Int)) fun v=>.R v) (.R false) fun b2=>.R b2)
def aH3 (aP0:Int)(r3:List aj1×Int)(i:Int)(_:Unit):M prog Bool (Fl Unit Bool):=
 .O (.ix by7 r3.1 i) fun x=>.I (((decide (i<(j7 (1+(ed7 (j7 aP0) 30)))))&&x.Off)||((decide (i>=(j7 ((j7 (1+(ed7 (j7 aP0) 30)))+4))))&&(!x.Off))) (.R (.ret false)) (.G x.Off (.G (x.o9 !=0) (.R true) (.K (ao5 x.aX7 (.of (fun z_=>bc3 z_) 13 [])) fun v5=>.R v5) fun b4=>.R b4) (.R false) fun b5=>.I b5 (.R (.ret false)) (.K (S3 x.af3 (.of (fun z_=>bc4 z_) 15 [])) fun v6=>.I (((decide (i>=(j7 ((j7 (1+(ed7 (j7 aP0) 30)))+7))))&&(!v6))||((decide (i<(j7 ((j7 (1+(ed7 (j7 aP0) 30)))+3))))&&((x.af3.length:Int) !=0))) (.R (.ret false)) (.R (.next ()))))
def aD7 (t2:o7)(b2:L2)(e2:o5)(aP0 value:Int):C prog Bool:=.of Z call5 func5 [T0 t2,aL4 b2,au3 e2,.t (tK .u8 aP0),.t (tK .u16 value)] (fun r=>.t (tB r)) (
 .K (aM0) fun v=>.G (!v) (.R true) (.K (bi7 t2) fun v2=>.R (!v2)) fun b3=>.I ((b3||(decide ((e2.A3.length:Int)>20)))||(value==0)) (.K (aM0) fun v3=>.R v3) (.K (bm4) fun v4=>.K (bV2 t2 b2 e2 v4) fun r2=>.I (r2.2 !=0) (.R (r2.2==1)) (.Z (.fr 65)<| .Z (.fr 61)<| .K (cG7 r2.1 ([(⟨0,500,0,0,0⟩:I5)]:List I5) ([(⟨j7 (10000*(j7 (1+(ed7 (j7 aP0) 30)))),1099511627776,6,j7 value⟩:Y9)]:List Y9) 40) fun r3=>.I ((r3.2 !=0)||((r3.1.length:Int) !=40)) (.R false) (M.QN (r3.1.length:Int) 2 79 (fun(_:Unit)=>[.x 5,.x 6,.x 7,.x 12,.d 5,.d 6,.d 7,.d 12]) 0 (.one .rt) (aH3 aP0 r3) () (fun _=>.R true) (fun r4=>.R r4)))))
end Go.Proofs.YtmhdghdbojdgfaaGreat
namespace Go.Pv
open Go
structure cp9 (x:SMap):Prop where
  X:(wfL (fun n=>(dO8 .i64 n).wf=true)) x.X
  Y:(wfL (fun n=>(dO8 .i64 n).wf=true)) x.Y
  Z:(wfL (wfL (fun n=>(dO8 .i64 n).wf=true))) x.Z
structure bF7 (x:Q2):Prop where
  X:(wfL (fun n=>(dO8 .i64 n).wf=true)) x.X
  Y:(wfL (fun n=>(dO8 .i64 n).wf=true)) x.Y
structure dB2 (x:aV4):Prop where
  P:(fun n=>(dO8 .i64 n).wf=true) x.P
  I:(fun n=>(dO8 .i64 n).wf=true) x.I
  Low:(fun n=>(dO8 .i64 n).wf=true) x.Low
  bs4:(fun n=>(dO8 .i64 n).wf=true) x.bs4
structure cg4 (x:o7):Prop where
  Air:cp9 x.Air
  N9:cp9 x.N9
  o9:cp9 x.o9
  aH9:cp9 x.aH9
  L4:bF7 x.L4
  af1:bF7 x.af1
  aw5:bF7 x.aw5
  C3:bF7 x.C3
  af0:dB2 x.af0
structure cV0 (x:L2):Prop where
  ai9:(fun n=>(dO8 .i64 n).wf=true) x.ai9
  ap4:(fun n=>(dO8 .i64 n).wf=true) x.ap4
  aO8:(fun n=>(dO8 .i64 n).wf=true) x.aO8
  J2:(fun n=>(dO8 .i64 n).wf=true) x.J2
  P1:(fun n=>(dO8 .i64 n).wf=true) x.P1
  K9:(fun n=>(dO8 .i64 n).wf=true) x.K9
  aX5:(fun n=>(dO8 .i64 n).wf=true) x.aX5
structure cg3 (x:o5):Prop where
  A3:(wfL (fun n=>(dO8 .i64 n).wf=true)) x.A3
  as4:(fun n=>(dO8 .i64 n).wf=true) x.as4
structure cx5 (x:I5):Prop where
  At:(fun n=>(dO8 .i64 n).wf=true) x.At
  I9:(fun n=>(dO8 .i64 n).wf=true) x.I9
  bl5:(fun n=>(dO8 .i64 n).wf=true) x.bl5
  bO0:(fun n=>(dO8 .i64 n).wf=true) x.bO0
  bO1:(fun n=>(dO8 .i64 n).wf=true) x.bO1
end Go.Pv
namespace Go.Proofs.YtmhdghdbojdgfaaGreat
open Go Go.Pv Go.Proofs
theorem aD9:Reads Tryz.prog 3 aJ9 (fun n=>(dO8 .i64 n).wf=true):=cw4 Tryz.underlying3 (fun _=>rfl)
theorem bE9:Reads Tryz.prog 22 (dn6 aJ9) (wfL (fun n=>(dO8 .i64 n).wf=true)):=bS6 (sz:=1) Tryz.underlying22 aD9 (by kernel_rfl) (by decide) (fun _=>rfl)
theorem er6:Reads Tryz.prog 23 (dn6 (dn6 aJ9)) (wfL (wfL (fun n=>(dO8 .i64 n).wf=true))):=bS6 (sz:=1) Tryz.underlying23 bE9 (by kernel_rfl) (by decide) (fun _=>rfl)
theorem cn5:Reads Tryz.prog 25 cN4 cp9:=by
  intro H e w fuel cs x h
  obtain⟨xs,n,_,rfl,hl,hlen,hf⟩:=DataW.trod_struct Tryz.underlying25 h
  obtain⟨y0,w0,r0⟩:=S7 hlen hf 0 rfl bE9
  obtain⟨y1,w1,r1⟩:=S7 hlen hf 1 rfl bE9
  obtain⟨y2,w2,r2⟩:=S7 hlen hf 2 rfl er6
  exact⟨⟨y0,y1,y2⟩,⟨w0,w1,w2⟩,S8 (o:=0) (o':=1) r0 (by kernel_rfl) (S8 (o:=1) (o':=2) r1 (by kernel_rfl) (S8 (o:=2) (o':=3) r2 (by kernel_rfl) (bK5 (hl.trans (by kernel_rfl)))))⟩
theorem cn6:Reads Tryz.prog 27 bI7 bF7:=by
  intro H e w fuel cs x h
  obtain⟨xs,n,_,rfl,hl,hlen,hf⟩:=DataW.trod_struct Tryz.underlying27 h
  obtain⟨y0,w0,r0⟩:=S7 hlen hf 0 rfl bE9
  obtain⟨y1,w1,r1⟩:=S7 hlen hf 1 rfl bE9
  exact⟨⟨y0,y1⟩,⟨w0,w1⟩,S8 (o:=0) (o':=1) r0 (by kernel_rfl) (S8 (o:=1) (o':=2) r1 (by kernel_rfl) (bK5 (hl.trans (by kernel_rfl))))⟩
theorem er7:Reads Tryz.prog 29 dV5 dB2:=by
  intro H e w fuel cs x h
  obtain⟨xs,n,_,rfl,hl,hlen,hf⟩:=DataW.trod_struct Tryz.underlying29 h
  obtain⟨y0,w0,r0⟩:=S7 hlen hf 0 rfl aD9
  obtain⟨y1,w1,r1⟩:=S7 hlen hf 1 rfl aD9
  obtain⟨y2,w2,r2⟩:=S7 hlen hf 2 rfl aD9
  obtain⟨y3,w3,r3⟩:=S7 hlen hf 3 rfl aD9
  exact⟨⟨y0,y1,y2,y3⟩,⟨w0,w1,w2,w3⟩,S8 (o:=0) (o':=1) r0 (by kernel_rfl) (S8 (o:=1) (o':=2) r1 (by kernel_rfl) (S8 (o:=2) (o':=3) r2 (by kernel_rfl) (S8 (o:=3) (o':=4) r3 (by kernel_rfl) (bK5 (hl.trans (by kernel_rfl))))))⟩
theorem er8:Reads Tryz.prog 31 aR2 cg4:=by
  intro H e w fuel cs x h
  obtain⟨xs,n,_,rfl,hl,hlen,hf⟩:=DataW.trod_struct Tryz.underlying31 h
  obtain⟨y0,w0,r0⟩:=S7 hlen hf 0 rfl cn5
  obtain⟨y1,w1,r1⟩:=S7 hlen hf 1 rfl cn5
  obtain⟨y2,w2,r2⟩:=S7 hlen hf 2 rfl cn5
  obtain⟨y3,w3,r3⟩:=S7 hlen hf 3 rfl cn5
  obtain⟨y4,w4,r4⟩:=S7 hlen hf 4 rfl cn6
  obtain⟨y5,w5,r5⟩:=S7 hlen hf 5 rfl cn6
  obtain⟨y6,w6,r6⟩:=S7 hlen hf 6 rfl cn6
  obtain⟨y7,w7,r7⟩:=S7 hlen hf 7 rfl cn6
  obtain⟨y8,w8,r8⟩:=S7 hlen hf 8 rfl er7
  exact⟨⟨y0,y1,y2,y3,y4,y5,y6,y7,y8⟩,⟨w0,w1,w2,w3,w4,w5,w6,w7,w8⟩,S8 (o:=0) (o':=3) r0 (by kernel_rfl) (S8 (o:=3) (o':=6) r1 (by kernel_rfl) (S8 (o:=6) (o':=9) r2 (by kernel_rfl) (S8 (o:=9) (o':=12) r3 (by kernel_rfl) (S8 (o:=12) (o':=14) r4 (by kernel_rfl) (S8 (o:=14) (o':=16) r5 (by kernel_rfl) (S8 (o:=16) (o':=18) r6 (by kernel_rfl) (S8 (o:=18) (o':=20) r7 (by kernel_rfl) (S8 (o:=20) (o':=24) r8 (by kernel_rfl) (bK5 (hl.trans (by kernel_rfl)))))))))))⟩
theorem eL4:bY4 Tryz.prog 31 (fun x=>T0 x) cg4:=ca8 Tryz.underlying31 er8 (fun _=>rfl)
theorem er9:Reads Tryz.prog 33 bE1 cV0:=by
  intro H e w fuel cs x h
  obtain⟨xs,n,_,rfl,hl,hlen,hf⟩:=DataW.trod_struct Tryz.underlying33 h
  obtain⟨y0,w0,r0⟩:=S7 hlen hf 0 rfl aD9
  obtain⟨y1,w1,r1⟩:=S7 hlen hf 1 rfl aD9
  obtain⟨y2,w2,r2⟩:=S7 hlen hf 2 rfl aD9
  obtain⟨y3,w3,r3⟩:=S7 hlen hf 3 rfl aD9
  obtain⟨y4,w4,r4⟩:=S7 hlen hf 4 rfl aD9
  obtain⟨y5,w5,r5⟩:=S7 hlen hf 5 rfl aD9
  obtain⟨y6,w6,r6⟩:=S7 hlen hf 6 rfl aD9
  exact⟨⟨y0,y1,y2,y3,y4,y5,y6⟩,⟨w0,w1,w2,w3,w4,w5,w6⟩,S8 (o:=0) (o':=1) r0 (by kernel_rfl) (S8 (o:=1) (o':=2) r1 (by kernel_rfl) (S8 (o:=2) (o':=3) r2 (by kernel_rfl) (S8 (o:=3) (o':=4) r3 (by kernel_rfl) (S8 (o:=4) (o':=5) r4 (by kernel_rfl) (S8 (o:=5) (o':=6) r5 (by kernel_rfl) (S8 (o:=6) (o':=7) r6 (by kernel_rfl) (bK5 (hl.trans (by kernel_rfl)))))))))⟩
theorem eL5:bY4 Tryz.prog 33 (fun x=>aL4 x) cV0:=ca8 Tryz.underlying33 er9 (fun _=>rfl)
theorem es0:Reads Tryz.prog 35 bR0 cg3:=by
  intro H e w fuel cs x h
  obtain⟨xs,n,_,rfl,hl,hlen,hf⟩:=DataW.trod_struct Tryz.underlying35 h
  obtain⟨y0,w0,r0⟩:=S7 hlen hf 0 rfl bE9
  obtain⟨y1,w1,r1⟩:=S7 hlen hf 1 rfl aD9
  exact⟨⟨y0,y1⟩,⟨w0,w1⟩,S8 (o:=0) (o':=1) r0 (by kernel_rfl) (S8 (o:=1) (o':=2) r1 (by kernel_rfl) (bK5 (hl.trans (by kernel_rfl))))⟩
theorem eL6:bY4 Tryz.prog 35 (fun x=>au3 x) cg3:=ca8 Tryz.underlying35 es0 (fun _=>rfl)
theorem ea4:Reads Tryz.prog 101 aq3 cx5:=by
  intro H e w fuel cs x h
  obtain⟨xs,n,_,rfl,hl,hlen,hf⟩:=DataW.trod_struct Tryz.underlying101 h
  obtain⟨y0,w0,r0⟩:=S7 hlen hf 0 rfl aD9
  obtain⟨y1,w1,r1⟩:=S7 hlen hf 1 rfl aD9
  obtain⟨y2,w2,r2⟩:=S7 hlen hf 2 rfl aD9
  obtain⟨y3,w3,r3⟩:=S7 hlen hf 3 rfl aD9
  obtain⟨y4,w4,r4⟩:=S7 hlen hf 4 rfl aD9
  exact⟨⟨y0,y1,y2,y3,y4⟩,⟨w0,w1,w2,w3,w4⟩,S8 (o:=0) (o':=1) r0 (by kernel_rfl) (S8 (o:=1) (o':=2) r1 (by kernel_rfl) (S8 (o:=2) (o':=3) r2 (by kernel_rfl) (S8 (o:=3) (o':=4) r3 (by kernel_rfl) (S8 (o:=4) (o':=5) r4 (by kernel_rfl) (bK5 (hl.trans (by kernel_rfl)))))))⟩
theorem es1:Reads Tryz.prog 36 (dn6 aq3) (wfL cx5):=bS6 (sz:=5) Tryz.underlying36 ea4 (by kernel_rfl) (by decide) (fun _=>rfl)
theorem ff0:bY4 Tryz.prog 36 (fun x=>.t (tS aq3 x)) (wfL cx5):=dT6 Tryz.underlying36 es1 (fun _=>rfl)
theorem eF0:Reads Tryz.prog 5 eN4 (fun n=>(dO8 .u8 n).wf=true):=cw4 Tryz.underlying5 (fun _=>rfl)
theorem eW3:bY4 Tryz.prog 5 (fun x=>.t (tK .u8 x)) (fun n=>(dO8 .u8 n).wf=true):=dL9 Tryz.underlying5 eF0 (fun _=>rfl) (fun _=>rfl)
theorem es2:Reads Tryz.prog 96 eA3 (fun n=>(dO8 .u16 n).wf=true):=cw4 Tryz.underlying96 (fun _=>rfl)
theorem eL7:bY4 Tryz.prog 96 (fun x=>.t (tK .u16 x)) (fun n=>(dO8 .u16 n).wf=true):=dL9 Tryz.underlying96 es2 (fun _=>rfl) (fun _=>rfl)
end Go.Proofs.YtmhdghdbojdgfaaGreat

namespace Go.Pv
open Go.RowKit
theorem cU1 {S R:Type}(f:Int->S->Option (Fl S R))(I:Nat->S->Prop):∀(k i:Nat) (s:S),I i s->(∀j,i<=j->j<i+k->∀s,I j s->∃s',f (j:Int) s=some (.next s')/\I (j+1) s')->∃s',aW7 f k (i:Int) s=some (.inl s')/\I (i+k) s'
 |0,i,s,h,_=>⟨s,rfl,h⟩
 |k+1,i,s,h,st=>by
  obtain⟨s1,h1,h2⟩:=st i (cv6 _) (by omega) s h
  obtain⟨s2,h3,h4⟩:=cU1 f I k (i+1) s1 h2 (fun j a b=>st j (by omega) (by omega))
  refine⟨s2,?_,by rw[show i+(k+1)=i+1+k by omega];exact h4⟩
  simp only[aW7,h1,as5]
  exact h3
theorem ag5 {S R:Type}(n:Nat)(hn:n<=9223372036854775807)(f:Int->S->Option (Fl S R))(I:Nat->S->Prop)(s:S)(h:I 0 s)(st:∀j,j<n->∀s,I j s->∃s',f (j:Int) s=some (.next s')/\I (j+1) s'):∃s',K7 (n:Int) f s=some (.inl s')/\I n s':=by
 obtain⟨s',h1,h2⟩:=cU1 f I n 0 s h (fun j _ b=>st j (by omega))
 refine⟨s',?_,by simpa using h2⟩
 rw[al8 _ hn]
 exact h1
theorem cv0 {S B:Type}{mb:S->Option (S⊕B)}(I:Nat->S->Prop)(J:B->Prop):∀(n k:Nat) (s:S),I k s->(∀j,k<=j->j<k+n->∀s,I j s->∃s',mb s=some (.inl s')/\I (j+1) s')->(∀s,I (k+n) s->∃b,mb s=some (.inr b)/\J b)->∃b,L7 mb s=some b/\J b
 |0,k,s,h,_,e=>by
  obtain⟨b,h1,h2⟩:=e s h
  exact⟨b,D9 h1,h2⟩
 |n+1,k,s,h,st,e=>by
  obtain⟨s',h1,h2⟩:=st k (cv6 _) (by omega) s h
  rw[G8 h1]
  exact cv0 I J n (k+1) s' h2 (fun j a b=>st j (by omega) (by omega)) (by rw[show k+1+n=k+(n+1) by omega];exact e)
theorem T9 {α:Type}(l:List α)(i:Nat)(y:α)(h:i<l.length):an9 l (i:Int) y=some (l.set i y):=by
 unfold an9;rw[if_pos ⟨by omega,by omega⟩];rfl
theorem C7 {α:Type}(l:List α)(i:Nat)(h:i<l.length):D4 l (i:Int)=some l[i]:=by rw[T8,List.getElem?_eq_getElem h]
theorem bV7 {α:Type}(n:Nat)(h:n<=1073741824)(z:α):aY3 (n:Int) z=some (List.replicate n z):=by
 unfold aY3;rw[if_pos ⟨by omega,by omega⟩];rfl
theorem H7 {α:Type}(l r:List α)(h:l.length+r.length<=1073741824):U9 l r=some (l++r):=by
 unfold U9;rw[if_pos h]
theorem dF0 {α:Type}(l r:List α)(h:l.length=r.length):aI9 l r=r:=by
 unfold aI9;rw[h,List.take_length,<-h,List.drop_length,List.append_nil]
theorem ar1 {α S R:Type}(l:List α)(f:Int->α->S->Option (Fl S R)):cS0 l f=fun p=>bif decide (p.1<(l.length:Int))then((D4 l p.1).bind fun x=>(f p.1 x p.2).bind (aD4 p.1))else some (.inr (.inl p.2)):=rfl
theorem M4 {S R:Type}(n:Int)(f:Int->S->Option (Fl S R)):cn2 n f=fun p=>bif decide (p.1<n)then(f p.1 p.2).bind (aD4 p.1)else some (.inr (.inl p.2)):=rfl
theorem bg {α:Type}(c x y:Bool)(f:Bool->Option α):ai8 (bif c then some x else some y) f=f (bif c then x else y):=by cases c<;>rfl
theorem bga (c x:Bool):(bif c then x else false)=(c&&x):=by cases c<;>rfl
theorem bgo (c x:Bool):(bif c then true else x)=(c||x):=by cases c<;>rfl
theorem bso {α β:Type}(x:α)(f:α->Option β):ai8 (some x) f=f x:=rfl
theorem ch9 {α β:Type}{a:Option α}{x:α}{f:α->Option β}{r:Option β}(h:a=some x)(k:f x=r):a.bind f=r:=by subst h;exact k
theorem bu7 {α:Type}(l:List α)(hn:l.length<=9223372036854775807)(f:α->Option Bool)(p:α->Bool)(h:∀y∈l,f y=some (p y)):
  (ai8 (ai8 (L7 (fun(s:Int×Unit)=>bif decide (s.1<(l.length:Int))then(ai8 (ai8 (D4 l s.1) fun t=>ai8 (f t) fun t=>bif t then some (Fl.ret s.1)else some (Fl.next ())) (aD4 s.1))else some (Sum.inr (Sum.inl s.2))) (0,())) fun(t:Unit⊕Int)=>match t with| .inl _=>(some (-1))| .inr r2=>some r2) fun v=>some (decide (v>=0)))=some (l.any p):=by
 have:=ai3 l hn f p h
 exact this
theorem elE {P:Program}{ρ τ:Type}(t:Empty):(t.elim:M P ρ τ).run=(t.elim:Option τ):=t.elim
theorem bgt {α:Type}(c d:Bool)(x:α):(bif c then some (true,x)else some (d,x))=some (c||d,x):=by cases c<;>rfl
theorem da0 {α β:Type}{a:Option α}{f g:α->Option β}(h:∀y,a=some y->f y=g y):a.bind f=a.bind g:=by cases a;rfl;exact h _ rfl
theorem dM4 {α:Type}{c:Bool}{x y z w:α}(h:x=z)(k:y=w):(bif c then x else y)=(bif c then z else w):=by rw[h,k]
end Go.Pv
namespace Go.Pv.Ec
open Go Go.Pv Go.Proofs Go.Proofs.YtmhdghdbojdgfaaGreat
theorem eQ5 {x y:Int}(h:y<x):F2 x y=y:=by unfold F2;rw[if_pos h]
theorem eo8 {x y:Int}(h:x<=y):F2 x y=x:=by unfold F2;rw[if_neg (by omega)]
def ae0 (t:Int):Bool:=decide (t>=0)&&decide (t<=1099511627776)
theorem aJ7 {t:Int}:ae0 t=true↔0<=t/\t<=1099511627776:=by simp[ae0]
def tfB (f:aa1):Bool:=ae0 f.G9&&ae0 f.F9&&decide (f.F9<=f.G9)&&(f.Seen||((f.G9==0)&&(f.F9==0)))
theorem dR7 (t:Int):(aV3 t).m=some (ae0 t):=rfl
theorem cU6 (f:aa1):(aG6 f).m=some (tfB f):=by
 simp only[aG6,C.of,M.run,dR7,as5]
 cases h:ae0 f.G9<;>simp[tfB,h]
theorem ev4 (f:aa1):∃n,(bg3 f).m=some n:=by
 simp only[bg3,C.of,M.run,cU6,as5]
 cases(!tfB f|| !f.Seen)<;>exact⟨_,rfl⟩
theorem eG9 (f:aa1)(t:Int):∃g b e,(bk0 f t).m=some (g,b,e)/\(e=0->tfB f=true/\tfB g=true/\(g.G9=t\/g=f)/\ae0 t=true):=by
 obtain⟨n,hn⟩:=ev4 f
 simp only[bk0,C.of,M.run,cU6,dR7,hn,as5]
 cases h1:tfB f
 ·exact⟨_,_,_,rfl,fun h=>by cases h⟩
 cases h2:ae0 t
 ·exact⟨_,_,_,rfl,fun h=>by cases h⟩
 have ht:=aJ7.1 h2
 simp only[tfB,aI0,fi2,aJ7]at h1
 simp only[aX0,fh5]
 cases h3:(f.Seen&&decide (t<f.G9))
 ·simp only[fh5]
  cases h4:f.Seen
  ·simp only[fh5,as5]
   refine⟨_,_,_,rfl,fun _=>⟨by simp[tfB],?_,.inl rfl,trivial⟩⟩
   simp[tfB,ae0,ht.1,ht.2]
  ·rw[h4,Bool.true_and]at h3
   have h3:=of_decide_eq_false h3
   simp only[fh8,as5]
   cases decide (j7 (t-f.G9)<n)
   ·refine⟨_,_,_,rfl,fun _=>⟨by simp[tfB],?_,.inl rfl,trivial⟩⟩
    have:j7 (t-f.G9)=t-f.G9:=j5 (by omega) (by omega)
    simp only[tfB,this,aI0,fi2,aJ7,Bool.true_or,and_true]
    omega
   ·exact⟨_,_,_,rfl,fun _=>⟨by simp[tfB],by simp[tfB,aJ7,h1],.inr rfl,trivial⟩⟩
 ·exact⟨_,_,_,rfl,fun h=>by cases h⟩
def grB (g:ah9):Bool:=(((decide (g.Over>=0)&&decide (g.Over<=5))&&(decide (g.Calm>=0)&&decide (g.Calm<=1000)))&&((g.Over==0)||(g.Calm==0)))&&(g.Off||decide (g.Over<5))
theorem dV9 (x a b:Int):(N0 x a b).m=some (decide (x>=a)&&decide (x<=b)):=rfl
theorem cl2 (g:ah9):(aY4 g).m=some (grB g):=by
 simp only[aY4,C.of,M.run,dV9,as5]
 cases h:(decide (g.Over>=0)&&decide (g.Over<=5))<;>simp[grB,h]
theorem dc6 (t:Int):(bv2 t).m=some (decide (t>= -20000)&&decide (t<=20000)):=rfl
theorem eB8 (g:ah9)(p a:Int):∃h e,(aU9 g p a).m=some (h,e)/\(e=0->grB h=true)/\
  (grB g=true-> -20000<=p->p<=20000-> -20000<=a->a<=20000->e=0/\h=if a>p then⟨F2 5 (g.Over+1),0,g.Off||(F2 5 (g.Over+1)==5)⟩else⟨0,F2 1000 (g.Calm+1),g.Off⟩):=by
 simp only[aU9,C.of,M.run,cl2,dc6,as5]
 cases h1:grB g
 ·exact⟨_,_,rfl,fun h=>(by cases h),fun h=>(by cases h)⟩
 simp only[grB,aI0,fi2,cH8,beq_iff_eq]at h1
 have w1:j7 (g.Over+1)=g.Over+1:=j5 (by omega) (by omega)
 have w2:j7 (g.Calm+1)=g.Calm+1:=j5 (by omega) (by omega)
 simp only[aX0,fh5,w1,w2]
 by_cases hb:(-20000<=p/\p<=20000)/\(-20000<=a/\a<=20000)
 ·have e1:(decide (p>= -20000)&&decide (p<=20000))=true:=by simp[hb.1]
  have e2:(decide (a>= -20000)&&decide (a<=20000))=true:=by simp[hb.2]
  rw[e1,e2]
  simp only[aX0,fh5,as5]
  by_cases ha:a>p
  ·rw[fi0 ha]
   refine⟨_,_,rfl,fun _=>?_,fun _ _ _ _ _=>⟨rfl,by rw[if_pos ha]⟩⟩
   rcases Int.lt_or_le (g.Over+1) 5 with hm|hm
   ·rw[eQ5 hm];simp only[grB,aI0,fi2,cH8,beq_iff_eq];exact⟨⟨by omega,.inr (by trivial)⟩,.inr hm⟩
   ·rw[eo8 hm];simp[grB]
  ·rw[fi1 ha]
   refine⟨_,_,rfl,fun _=>?_,fun _ _ _ _ _=>⟨rfl,by rw[if_neg ha]⟩⟩
   have:0<=F2 1000 (g.Calm+1)/\F2 1000 (g.Calm+1)<=1000:=by unfold F2;split<;>omega
   have h2:=h1.2
   simp only[grB,aI0,fi2,cH8,beq_iff_eq]
   refine⟨⟨by omega,.inl (by trivial)⟩,?_⟩
   rcases h2 with h2|h2
   ·exact .inl h2
   ·right;omega
 ·cases e1:(decide (p>= -20000)&&decide (p<=20000))
  ·exact⟨_,_,rfl,fun h=>(by cases h),fun _ h1 h2=>(by simp[h1,h2]at e1)⟩
  ·cases e2:(decide (a>= -20000)&&decide (a<=20000))
   ·exact⟨_,_,rfl,fun h=>(by cases h),fun _ _ _ h1 h2=>(by simp[h1,h2]at e2)⟩
   ·simp only[aI0,fi2]at e1 e2
    exact absurd ⟨⟨e1.1,e1.2⟩,e2.1,e2.2⟩ hb
def quB (n:Int):Bool:=decide (n>=1)&&decide (n<=65535)
def qzB (q:ab4):Bool:=(((((quB q.Question&&ae0 q.am7)&&(q.Open||(q.am7==0)))&&decide (q.P2>=0))&&decide (q.P2<=7))&&(q.Off==(q.P2==7)))&& !(q.Open&&q.Off)
theorem bS5 (n:Int):(aY6 n).m=some (quB n):=rfl
theorem ce9 (n:Int):(br0 n).m=some (ae0 n):=rfl
theorem eE8 (n:Int):(cw2 n).m=some (decide (n>=0)&&decide (n<=65535)):=rfl
theorem cn1 (q:ab4):(bj3 q).m=some (qzB q):=by
 simp only[bj3,C.of,M.run,bS5,ce9,as5]
 cases h:quB q.Question<;>simp[qzB,h]
theorem ef7 (l:List Int)(hl:l.length<=1000000)(f:Cl Tryz.prog Int Bool (fun x=>[.t (tI x)]) (fun r=>.t (tB r)))(p:Int->Bool)(h:∀x∈l,f.f x=some (p x)):(o6 l f).m=some (l.any p):=by
 simp only[o6,U5,W4,C.of,M.run,L1.m,Cl.at]
 refine Eq.trans ?_ (bu7 l (by omega) f.f p h)
 kernel_rfl
def ptB (l:List Int):Bool:=(decide ((l.length:Int)>=1)&&decide ((l.length:Int)<=16))&& !(l.any fun p=>!(decide (p>=0)&&decide (p<=65535)))
theorem dy1 (l:List Int):(bK3 l).m=some (ptB l):=by
 simp only[bK3,C.of,M.run]
 cases h:(decide ((l.length:Int)>=1)&&decide ((l.length:Int)<=16))
 ·simp[ptB,h]
 ·simp only[aI0,fi2]at h
  rw[ef7 l (by omega) _ (fun p=>!(decide (p>=0)&&decide (p<=65535))) (fun x _=>rfl)]
  simp[ptB,h]
theorem fh9 (a:Nat)(h:a<32768):dD9 .i64 (a:Int) 46080=((a^^^46080:Nat):Int):=by
 unfold dD9
 have e1:(BitVec.ofInt (eU4 .i64) (a:Int)).toNat=a:=by
  show(BitVec.ofInt 64 (a:Int)).toNat=a
  simp;omega
 have e2:(BitVec.ofInt (eU4 .i64) (46080:Int)).toNat=46080:=by rfl
 rw[BitVec.toNat_xor,e1,e2]
 have:a^^^46080<2^16:=Nat.xor_lt_two_pow (by omega) (by omega)
 exact j5 (by omega) (by omega)
theorem fe9 (a:Nat)(h:a<65536):T2 .i64 (a:Int) 1=((a%2:Nat):Int):=by
 unfold T2
 have e1:(BitVec.ofInt (eU4 .i64) (a:Int)).toNat=a:=by
  show(BitVec.ofInt 64 (a:Int)).toNat=a
  simp;omega
 have e2:(BitVec.ofInt (eU4 .i64) (1:Int)).toNat=1:=by rfl
 rw[BitVec.toNat_and,e1,e2,Nat.and_one_is_mod]
 exact j5 (by omega) (by omega)
theorem fh2 (a:Nat):F5 .i64 (a:Int) 1=((a/2:Nat):Int):=by
 unfold F5
 show(a:Int).fdiv 2=_
 rw[Int.fdiv_eq_ediv_of_nonneg _ (by omega)]
 omega
theorem eH5 (a:Nat)(h:a<32768):0<a^^^46080:=by
 have h1:(a^^^46080).testBit 15=true:=by
  rw[Nat.testBit_xor,Nat.testBit_lt_two_pow (by omega)]
  rfl
 rcases Nat.eq_zero_or_pos (a^^^46080)with h0|h0
 ·rw[h0]at h1;simp at h1
 ·exact h0
theorem eE7 (n:Int)(h:quB n=true):∃m,(cw1 n).m=some m/\quB m=true:=by
 simp only[cw1,C.of,M.run,bS5,h,as5,aX0,fh5]
 simp only[quB,aI0,fi2]at h
 obtain⟨a,rfl⟩:∃a:Nat,n=(a:Int):=⟨n.toNat,by omega⟩
 rw[fe9 a (by omega),fh2]
 cases h1:((((a%2:Nat):Int))==1)
 ·simp only[beq_eq_false_iff_ne]at h1
  exact⟨_,rfl,by simp only[quB,aI0,fi2];omega⟩
 ·rw[fh9 _ (by omega)]
  have h2:a/2^^^46080<2^16:=Nat.xor_lt_two_pow (by omega) (by omega)
  have h3:=eH5 (a/2) (by omega)
  exact⟨_,rfl,by simp only[quB,aI0,fi2];omega⟩
theorem eR7 (q:ab4)(b:Bool)(h:qzB q=true):∃r,(cR9 q b).m=some r/\qzB r=true/\r.am7=0/\r.Open=false/\r.Question=q.Question/\r.P2=(if b then G4 (q.P2-1) 0 else F2 (q.P2+2) 7)/\r.Off=(r.P2==7):=by
 simp only[qzB,aI0,fi2,cH8,beq_iff_eq,bY2]at h
 have w1:j7 (q.P2-1)=q.P2-1:=j5 (by omega) (by omega)
 have w2:j7 (q.P2+2)=q.P2+2:=j5 (by omega) (by omega)
 simp only[cR9,C.of,M.run,w1,w2]
 have h1:=h.1.1.1.1.1.1
 cases b
 ·refine⟨_,rfl,?_,rfl,rfl,rfl,rfl,rfl⟩
  have:0<=F2 (q.P2+2) 7/\F2 (q.P2+2) 7<=7:=by unfold F2;split<;>omega
  simp[qzB,h1,this,ae0]
 ·refine⟨_,rfl,?_,rfl,rfl,rfl,rfl,rfl⟩
  have:0<=G4 (q.P2-1) 0/\G4 (q.P2-1) 0<=7:=by unfold G4;split<;>omega
  simp[qzB,h1,this,ae0]
theorem dI3 (q:ab4)(now:Int):∃r n e,(cR7 q now).m=some (r,n,e)/\(e=0->qzB r=true/\r.am7=now/\r.Open=true/\r.P2=q.P2/\r.Off=q.Off)/\(qzB q=true->ae0 now=true->q.Open=false->q.Off=false->e=0):=by
 simp only[cR7,C.of,M.run,cn1,ce9,as5]
 cases h:qzB q
 ·exact⟨_,_,_,rfl,fun h=>(by cases h),fun h=>(by cases h)⟩
 cases h2:ae0 now
 ·exact⟨_,_,_,rfl,fun h=>(by cases h),fun _ h=>(by cases h)⟩
 simp only[aX0,fh5]
 cases h3:(q.Open||q.Off)
 ·simp only[Bool.or_eq_false_iff]at h3
  have h':=h
  simp only[qzB,aI0,fi2,cH8,beq_iff_eq,bY2]at h
  obtain⟨m,e,hm⟩:=eE7 q.Question h.1.1.1.1.1.1
  refine⟨_,_,_,ch9 e rfl,fun _=>⟨?_,rfl,rfl,rfl,rfl⟩,fun _ _ _ _=>rfl⟩
  have:=h.1.2
  rw[h3.2]at this
  have:q.P2≠7:=by simpa using this.symm
  simp[qzB,hm,h2,h,this]
 ·exact⟨_,_,_,rfl,fun h=>(by cases h),fun _ _ h1 h2=>(by simp[h1,h2]at h3)⟩
def sgB (s:ao6):Bool:=(((decide (s.bs3>=0))&&(decide (s.bs3<=3)))&&(s.U2==(s.bs3==0)))&&ae0 s.aQ4
theorem dn2 (t:Int):(bK8 t).m=some (ae0 t):=rfl
theorem cT2 (s:ao6):(bn4 s).m=some (sgB s):=by
 simp only[bn4,C.of,M.run,dn2,as5]
 cases h:(((decide (s.bs3>=0))&&(decide (s.bs3<=3)))&&(s.U2==(s.bs3==0)))<;>simp[sgB,h]
def csV (key:Bool)(g:ah9)(q:ab4):Int:=if !key then 1 else if g.Off then 2 else if q.Off then 3 else 0
theorem et1 (key:Bool)(g:ah9)(q:ab4):(bT9 key g q).m=some (csV key g q):=by
 simp only[bT9,C.of,M.run]
 cases key<;>cases hg:g.Off<;>cases hq:q.Off<;>simp[csV,hg,hq]
theorem eF8 (s:ao6)(key:Bool)(g:ah9)(q:ab4)(now:Int):∃r e,(cf8 s key g q now).m=some (r,e)/\(e=0->sgB r=true/\(r.aQ4=now\/r.aQ4=s.aQ4)/\r.U2=(csV key g q==0))/\
  (sgB s=true->grB g=true->qzB q=true->ae0 now=true->s.aQ4<=now->e=0):=by
 simp only[cf8,C.of,M.run,cT2,cl2,cn1,dn2,et1,as5]
 cases h1:sgB s
 ·exact⟨_,_,rfl,fun h=>(by cases h),fun h=>(by cases h)⟩
 cases h2:grB g
 ·exact⟨_,_,rfl,fun h=>(by cases h),fun _ h=>(by cases h)⟩
 cases h3:qzB q
 ·exact⟨_,_,rfl,fun h=>(by cases h),fun _ _ h=>(by cases h)⟩
 cases h4:ae0 now
 ·exact⟨_,_,rfl,fun h=>(by cases h),fun _ _ _ h=>(by cases h)⟩
 simp only[aX0,fh5,as5]
 by_cases h5:now<s.aQ4
 ·rw[fi0 h5]
  exact⟨_,_,rfl,fun h=>(by cases h),fun _ _ _ _ h=>absurd h5 (by omega)⟩
 ·rw[fi1 h5]
  simp only[fh5]
  have hc:0<=csV key g q/\csV key g q<=3:=by unfold csV;split<;>(try split)<;>(try split)<;>omega
  simp only[sgB,aI0]at h1
  cases(!((csV key g q==0)==s.U2))
  ·exact⟨_,_,rfl,fun _=>⟨by simp[sgB,hc,h1.2],.inr rfl,rfl⟩,fun _ _ _ _ _=>rfl⟩
  ·exact⟨_,_,rfl,fun _=>⟨by simp[sgB,hc,h4],.inl rfl,rfl⟩,fun _ _ _ _ _=>rfl⟩
abbrev w0:aI4:=⟨60,2⟩
abbrev c0:ch4:=⟨[5000,12000,30000]⟩
theorem cx6:(br5).m=some w0:=rfl
theorem ck9:(bD8).m=some c0:=rfl
theorem bW9:(aL3 w0).m=some true:=(aL3 w0).le 1 _ (by kernel_rfl)
theorem bF8:(aS8 w0).m=some 58:=(aS8 w0).le 1 _ (by kernel_rfl)
theorem cx7:(bc9 w0).m=some 384:=(bc9 w0).le 1 _ (by kernel_rfl)
theorem da2:(aS9 c0).m=some true:=(aS9 c0).le 100 _ (by kernel_rfl)
theorem dE4:(bL2 c0).m=some (2,1):=(bL2 c0).le 100 _ (by kernel_rfl)
theorem er1 {a b:Int}(ha:0<=a)(hb:0<b)(hm:a<=9223372036854775807):bn3 .i64 a b=some (a/b):=by
 unfold bn3
 rw[if_neg (by omega),cz5 ha]
 have h1:a/b<=a:=Int.ediv_le_self b ha
 have h0:0<=a/b:=Int.ediv_nonneg ha (by omega)
 exact congrArg some (j5 (by omega) (by omega))
theorem bf {a b:Int}(h:¬a=b):(a==b)=false:=by simpa using h
theorem bnt {a b:Int}(h:¬a=b):(a !=b)=true:=by simpa using h
def syB (s:aa8):Bool:=
 if s.Mode=0 then(s.ay8==0)&&((s.G9==0)&&((s.F9==0)&&((s.N8==0)&&(s.aw6==0))))
 else if s.Mode=1 then((s.ay8==0)&&ae0 s.G9)&&(if s.aw6=0 then(s.F9==0)&&(s.N8==0)else(((s.aw6==1)||(s.aw6==2))&&decide (s.F9>=1))&&decide (s.F9<=s.G9)&&(s.N8==s.F9))
 else if s.Mode=2 then decide (s.ay8>=0)&&decide (s.ay8<58)&&ae0 s.G9&&decide (s.F9>=1)&&decide (s.F9<=s.G9)&&decide (s.N8>=1)&&decide (s.N8<=s.F9)&&(s.aw6==0)
 else false
theorem cg1 (t:Int):(bg2 t).m=some (ae0 t):=rfl
theorem cU4 (s:aa8):(bw3 w0 s).m=some (syB s):=by
 simp only[bw3,C.of,M.run,bW9,bF8,cg1,as5,aX0,fh5]
 by_cases h0:s.Mode=0
 ·simp[syB,h0]
 by_cases h1:s.Mode=1
 ·simp only[syB,h1]
  by_cases ht:s.ay8=0
  ·cases hl:ae0 s.G9
   ·simp[ht]
   ·by_cases he:s.aw6=0
    ·simp[ht,he]
    ·simp[ht,he,bf he]
  ·simp[bf ht,bnt ht]
 by_cases h2:s.Mode=2
 ·simp only[syB,h2]
  cases decide (s.ay8>=0)<;>cases decide (s.ay8<58)<;>cases ae0 s.G9<;>cases decide (s.F9>=1)<;>cases decide (s.F9<=s.G9)<;>cases decide (s.N8>=1)<;>simp
 ·simp[syB,h0,h1,h2,bf h0,bf h1,bf h2]
theorem eG6 (p q:Int):(cx2 p q).m=some (decide ((j7 (4*(G4 (j7 (p-q)) (j7 (q-p)))))<=q)):=rfl
theorem eT0 (n p:Int):(dA3 w0 n p).m=some (decide (p>(j7 (2*n)))):=rfl
theorem dR6 (s:aa8):(bW6 w0 s).m=some (s.ay8==57):=by
 simp only[bW6,C.of,M.run,bF8,as5];rfl
theorem cC1 (s:aa8):(bl1 w0 s).m=some (if s.ay8=57 then j7 (3*s.N8)else s.N8):=by
 simp only[bl1,C.of,M.run,dR6,as5]
 by_cases h:s.ay8=57
 ·simp only[h,beq_self_eq_true,fh8,if_true];rfl
 ·simp[h,bf h]
abbrev sy0:aa8:=⟨0,0,0,0,0,0⟩
theorem eS9:syB sy0=true:=rfl
theorem ec2 (s:aa8)(t:Int)(hs:syB s=true)(ht:ae0 t=true)(hl:s.Mode≠0->s.G9<t):∃r,(cx3 w0 s t).m=some r/\syB r=true/\(r.G9=t\/r=sy0):=by
 have ht':=aJ7.1 ht
 simp only[cx3,C.of,M.run,eG6,eT0,dR6,cC1,as5,L1.m]
 by_cases h1:s.Mode=1
 ·have hlt:=hl (by omega)
  simp only[syB,h1]at hs
  simp[ae0]at hs
  have wp:j7 (t-s.G9)=t-s.G9:=j5 (by omega) (by omega)
  simp only[h1,beq_self_eq_true,fh8,wp]
  by_cases h2:s.aw6=2
  ·simp[h2]at hs
   have wn:j7 (2*s.N8)=2*s.N8:=j5 (by omega) (by omega)
   simp only[h2,beq_self_eq_true,fh8,as5,wn]
   by_cases hg:t-s.G9>2*s.N8
   ·rw[fi0 hg]
    simp only[fh8]
    refine⟨_,ch9 (er1 (by omega) (by decide) (by omega)) rfl,?_,.inl rfl⟩
    have:j7 (2+1)=3:=rfl
    simp only[syB,this]
    simp[ae0,ht']
    omega
   ·rw[fi1 hg]
    simp only[fh5]
    cases decide (j7 (4*G4 (j7 (t-s.G9-s.N8)) (j7 (s.N8-(t-s.G9))))<=s.N8)
    ·refine⟨_,rfl,?_,.inl rfl⟩
     simp[syB,ae0,ht'];omega
    ·refine⟨_,rfl,?_,.inl rfl⟩
     simp[syB,ae0,ht'];omega
  ·simp only[show(s.aw6==2)=false by simpa using h2,fh5,as5]
   cases(s.aw6 !=0)
   ·refine⟨_,rfl,?_,.inl rfl⟩
    simp[syB,ae0,ht'];omega
   ·simp only[fh8,as5]
    cases decide (j7 (4*G4 (j7 (t-s.G9-s.N8)) (j7 (s.N8-(t-s.G9))))<=s.N8)
    ·refine⟨_,rfl,?_,.inl rfl⟩
     simp[syB,ae0,ht'];omega
    ·refine⟨_,rfl,?_,.inl rfl⟩
     simp[syB,ae0,ht'];omega
 ·simp only[show(s.Mode==1)=false by simpa using h1,fh5]
  by_cases h2:s.Mode=2
  ·have hlt:=hl (by omega)
   simp only[syB,h2]at hs
   simp[ae0]at hs
   have wp:j7 (t-s.G9)=t-s.G9:=j5 (by omega) (by omega)
   simp only[h2,beq_self_eq_true,fh8,wp]
   by_cases h3:s.ay8=57
   ·have w3:j7 (3*s.N8)=3*s.N8:=j5 (by omega) (by omega)
    simp only[h3,if_true,w3,beq_self_eq_true,fh8]
    by_cases hf:j7 (4*G4 (j7 (t-s.G9-3*s.N8)) (j7 (3*s.N8-(t-s.G9))))<=3*s.N8
    ·rw[fi0 hf]
     simp only[aX0,fh5]
     refine⟨_,ch9 (er1 (by omega) (by decide) (by omega)) rfl,?_,.inl rfl⟩
     have:j7 (2+1)=3:=rfl
     have e1:j7 (t-s.G9-3*s.N8)=t-s.G9-3*s.N8:=j5 (by omega) (by omega)
     have e2:j7 (3*s.N8-(t-s.G9))=3*s.N8-(t-s.G9):=j5 (by omega) (by omega)
     rw[e1,e2]at hf
     have hm:3*s.N8-(t-s.G9)<=G4 (t-s.G9-3*s.N8) (3*s.N8-(t-s.G9)):=by unfold G4;split<;>omega
     have hm2:G4 (t-s.G9-3*s.N8) (3*s.N8-(t-s.G9))<=3298534883328:=by unfold G4;split<;>omega
     have hm3:0<=G4 (t-s.G9-3*s.N8) (3*s.N8-(t-s.G9)):=by unfold G4;split<;>omega
     rw[j5 (by omega) (by omega)]at hf
     simp only[syB,this]
     simp[ae0,ht']
     omega
    ·rw[fi1 hf]
     exact⟨_,rfl,rfl,.inr rfl⟩
   ·simp only[if_neg h3,show(s.ay8==57)=false by simpa using h3]
    cases decide (j7 (4*G4 (j7 (t-s.G9-s.N8)) (j7 (s.N8-(t-s.G9))))<=s.N8)
    ·exact⟨_,rfl,rfl,.inr rfl⟩
    ·refine⟨_,rfl,?_,.inl rfl⟩
     have:j7 (s.ay8+1)=s.ay8+1:=j5 (by omega) (by omega)
     simp[syB,ae0,ht',this];omega
  ·simp only[show(s.Mode==2)=false by simpa using h2,fh5]
   refine⟨_,rfl,?_,.inl rfl⟩
   simp[syB,ae0,ht']
theorem eG7 (s:aa8)(t:Int):∃r e,(cx1 w0 s t).m=some (r,e)/\(e=0->syB r=true/\(r.G9=t\/r=sy0)):=by
 simp only[cx1,C.of,M.run,cU4,cg1,as5]
 cases h1:syB s
 ·exact⟨_,_,rfl,fun h=>(by cases h)⟩
 cases h2:ae0 t
 ·exact⟨_,_,rfl,fun h=>(by cases h)⟩
 simp only[aX0,fh5]
 cases h3:((s.Mode !=0)&&decide (t<=s.G9))
 ·obtain⟨r,hr,h4,h5⟩:=ec2 s t h1 h2 (fun hm=>by
   rcases Int.lt_or_le s.G9 t with h|h
   ·exact h
   ·simp[hm,h]at h3)
  exact⟨_,_,ch9 hr rfl,fun _=>⟨h4,h5⟩⟩
 ·exact⟨_,_,rfl,fun h=>(by cases h)⟩
theorem eu9 (s:aa8)(t:Int):∃r e,(cg2 w0 s t).m=some (r,e)/\(e=0->syB r=true/\(r=s\/r=sy0)):=by
 simp only[cg2,C.of,M.run,cU4,cg1,cC1,as5]
 cases h1:syB s
 ·exact⟨_,_,rfl,fun h=>(by cases h)⟩
 cases h2:ae0 t
 ·exact⟨_,_,rfl,fun h=>(by cases h)⟩
 simp only[aX0,fh5]
 cases h3:((s.Mode !=0)&&decide (t<s.G9))
 ·obtain⟨m,hm⟩:∃m,(bif s.Mode==2 then some (j7 (4*if s.ay8=57 then j7 (3*s.N8)else s.N8))else bif decide (s.aw6>0)then some (j7 (4*s.N8))else some 1000000)=some m:=by
   cases s.Mode==2<;>cases decide (s.aw6>0)<;>exact⟨_,rfl⟩
  simp only[fh5,hm,as5]
  cases((s.Mode !=0)&&decide (j7 (t-s.G9)>m))
  ·exact⟨_,_,rfl,fun _=>⟨h1,.inl rfl⟩⟩
  ·exact⟨_,_,rfl,fun _=>⟨rfl,.inr rfl⟩⟩
 ·exact⟨_,_,rfl,fun h=>(by cases h)⟩
def phB (p:ad7):Bool:=!((((decide (p.D1<0))||(decide (p.D1>16)))||(decide (p.bG2<0)))||(decide (p.bG2>1)))&&(!((!p.Seen)&&((p.D1 !=0)||p.aX6))&&(p.aX6||(p.bG2==0)))
theorem dZ8 (p:ad7):(bS3 p).m=some (phB p):=by
 simp only[bS3,C.of,M.run]
 cases h:((((decide (p.D1<0))||(decide (p.D1>16)))||(decide (p.bG2<0)))||(decide (p.bG2>1)))<;>cases h2:((!p.Seen)&&((p.D1 !=0)||p.aX6))<;>simp[phB,h,h2]
theorem cR3 (p:ad7):(bn1 c0 p).m=some (phB p):=by
 simp only[bn1,C.of,M.run,da2,dZ8,as5,fh8]
theorem eR3 (p:ad7):∃r e,(cv7 c0 p).m=some (r,e)/\(e=0->phB r=true):=by
 simp only[cv7,C.of,M.run,cR3,as5]
 cases h:phB p
 ·exact⟨_,_,rfl,fun h=>(by cases h)⟩
 cases hs:p.Seen
 ·exact⟨_,_,rfl,fun _=>h⟩
 ·refine⟨_,_,rfl,fun _=>?_⟩
  simp[phB,hs]at h|-
  rw[j5 (by omega) (by omega)]
  have:0<=F2 16 (p.D1+1)/\F2 16 (p.D1+1)<=16:=by unfold F2;split<;>omega
  exact⟨⟨⟨by omega,by omega⟩,by omega⟩,h.2⟩
theorem eE1 (p:ad7):∃r e,(bJ8 c0 p).m=some (r,e)/\(e=0->phB r=true):=by
 simp only[bJ8,C.of,M.run,cR3,dE4,as5]
 cases h:phB p
 ·exact⟨_,_,rfl,fun h=>(by cases h)⟩
 cases hs:p.Seen
 ·exact⟨_,_,rfl,fun _=>rfl⟩
 ·simp only[aX0,fh5]
  have key:∀half:Int,-1<=half->half<=1->∃r e,(bif (decide (half>=0))&&((!p.aX6)||(p.bG2==half))then some ((⟨true,j7 (1-half),0,true⟩:ad7),(0:Int))else some ((⟨false,0,0,true⟩:ad7),0))=some (r,e)/\(e=0->phB r=true):=by
   intro half h1 h2
   cases hc:((decide (half>=0))&&((!p.aX6)||(p.bG2==half)))
   ·exact⟨_,_,rfl,fun _=>rfl⟩
   ·simp only[aI0,fi2]at hc
    refine⟨_,_,rfl,fun _=>?_⟩
    have:j7 (1-half)=1-half:=j5 (by omega) (by omega)
    simp[phB,this];omega
  cases p.D1==2
  ·cases p.D1==1
   ·exact key (-1) (by omega) (by omega)
   ·exact key 1 (by omega) (by omega)
  ·exact key 0 (by omega) (by omega)
theorem eR2:phB ⟨false,0,0,false⟩=true:=rfl
theorem bu8 {S B:Type}{mb:S->Option (S⊕B)}(I:S->Prop)(μ:S->Nat)(J:B->Prop)(h:∀s,I s->(∃s',mb s=some (.inl s')/\I s'/\μ s'<μ s)\/(∃b,mb s=some (.inr b)/\J b)):
  ∀(n:Nat) (s:S),μ s<=n->I s->∃b,L7 mb s=some b/\J b:=by
 intro n
 induction n with
 |zero=>
  intro s hn hI
  rcases h s hI with⟨s',_,_,h3⟩|⟨b,h1,h2⟩
  ·omega
  ·exact⟨b,D9 h1,h2⟩
 |succ n ih=>
  intro s hn hI
  rcases h s hI with⟨s',h1,h2,h3⟩|⟨b,h1,h2⟩
  ·rw[G8 h1];exact ih s' (by omega) h2
  ·exact⟨b,D9 h1,h2⟩
theorem dl1 (p b:Int)(hp:0<=p)(hb:0<b):(ac4 p b).m=some (p%b):=by
 simp only[ac4,C.of,M.run,L1.m]
 rw[show((b==0)||(b==(-1)))=false by simp;omega]
 simp only[fh5]
 have e:cf1 p b=some (p%b):=by unfold cf1;rw[if_neg (by omega),Int.tmod_eq_emod_of_nonneg hp]
 rw[e]
 simp only[as5]
 have h1:0<=p%b:=Int.emod_nonneg p (by omega)
 rw[show((p%b !=0)&&(!((decide (p%b<0))==(decide (b<0)))))=false by
  rw[fi1 (by omega),fi1 (by omega)];simp]
 rfl
theorem ep3 (p:Int)(h0:0<=p)(h1:p<=1099511627776):∃q k,(cg5 w0 p).m=some (q,k)/\p<q/\q<=p+23040:=by
 have hm:0<=p%23040/\p%23040<23040:=⟨Int.emod_nonneg p (by omega),Int.emod_lt_of_pos p (by omega)⟩
 simp only[cg5,C.of,M.run,L1.m,dl1 p 23040 h0 (by omega),cx7,bF8,as5]
 rw[j5 (n:=p-p%23040) (by omega) (by omega),show p-(p-p%23040)=p%23040 by omega,j5 (n:=p%23040) (by omega) (by omega),er1 hm.1 (by omega) (by omega)]
 simp only[as5]
 rw[j5 (n:=p%23040/384+1) (by omega) (by omega)]
 by_cases hk:p%23040/384+1>=58
 ·rw[fi0 hk]
  refine⟨_,_,rfl,?_,?_⟩
  ·rw[j5 (by omega) (by omega)];omega
  ·rw[j5 (by omega) (by omega)];omega
 ·rw[fi1 hk]
  have e1:j7 ((p%23040/384+1)*384)=(p%23040/384+1)*384:=j5 (by omega) (by omega)
  refine⟨_,_,rfl,?_,?_⟩
  ·rw[e1,j5 (by omega) (by omega)];omega
  ·rw[e1,j5 (by omega) (by omega)];omega
theorem dZ1 (p:Int)(h0:0<=p)(h1:p<=1099511627776):∃q,(ba4 p w0).m=some q/\p<q/\q<=p+46080:=by
 obtain⟨q,k,e,h2,h3⟩:=ep3 p h0 h1
 simp only[ba4,C.of,M.run]
 exact⟨q,ch9 e rfl,h2,by omega⟩
theorem dU9 (p:Int)(h0:0<=p)(h1:p<=1099511627776):∃q,(aN0 p c0).m=some q/\p<q/\q<=p+51080:=by
 have hm:0<=p%46080/\p%46080<46080:=⟨Int.emod_nonneg p (by omega),Int.emod_lt_of_pos p (by omega)⟩
 simp only[aN0,C.of,M.run,dl1 p 46080 h0 (by omega),as5]
 have e0:j7 (p-p%46080)=p-p%46080:=j5 (by omega) (by omega)
 have key:∃b,ad9 c0.bx7 (fun i x t=>(aE0 p (p%46080) i x t).run) ()=some b/\((b= .inl ()/\p-p%46080+46080>p)\/∃q,b= .inr q/\p<q/\q<=p+46080):=by
  rw[K6 _ (by decide)]
  have st:∀i x,(aE0 p (p%46080) i x ()).run=bif decide (j7 (p-p%46080+x)>p)then some (.ret (j7 (p-p%46080+x)))else some (.next ()):=fun i x=>by
   simp only[aE0,M.run,e0]
  simp only[L8,st]
  have f:∀x:Int,0<=x->x<=46080->j7 (p-p%46080+x)=p-p%46080+x:=fun x _ _=>j5 (by omega) (by omega)
  rw[f 5000 (by omega) (by omega),f 12000 (by omega) (by omega),f 30000 (by omega) (by omega)]
  by_cases g1:p-p%46080+5000>p
  ·rw[fi0 g1];exact⟨_,rfl,.inr ⟨_,rfl,g1,by omega⟩⟩
  rw[fi1 g1]
  by_cases g2:p-p%46080+12000>p
  ·rw[fi0 g2];exact⟨_,rfl,.inr ⟨_,rfl,g2,by omega⟩⟩
  rw[fi1 g2]
  by_cases g3:p-p%46080+30000>p
  ·rw[fi0 g3];exact⟨_,rfl,.inr ⟨_,rfl,g3,by omega⟩⟩
  rw[fi1 g3]
  exact⟨_,rfl,.inl ⟨rfl,by omega⟩⟩
 obtain⟨b,hb,hc⟩:=key
 rcases hc with⟨rfl,_⟩|⟨q,rfl,h2,h3⟩
 ·refine⟨p-p%46080+46080+5000,ch9 hb ?_,by omega,by omega⟩
  show(ai8 (D4 c0.bx7 0) fun t=>some (j7 (j7 (j7 (p-p%46080)+46080)+t)))=_
  rw[e0,show D4 c0.bx7 0=some 5000 from rfl]
  simp only[as5]
  rw[j5 (n:=p-p%46080+46080) (by omega) (by omega),j5 (by omega) (by omega)]
 ·exact⟨q,ch9 hb rfl,h2,by omega⟩
structure Edg (a b:Int)(l:List Int):Prop where
 len:l.length<=1000
 lo:∀x∈l,a<x
 hi:∀x∈l,x<=b
 asc:l.Pairwise (· <·)
theorem eE4 (p:Int):(bw5 p).m=some (ae0 p):=rfl
theorem cy9 (a b:Int)(f:Cl Tryz.prog Int Int (fun x=>[.t (tI x)]) (fun r=>.t (tI r)))(hf:∀p,0<=p->p<=1099511627776->∃q,f.f p=some q/\p<q/\q<=p+100000):
  ∃l e,(bl2 a b f).m=some (l,e)/\Edg a b l:=by
 have enil:Edg a b []:=⟨by simp,by simp,by simp,by simp⟩
 simp only[bl2,C.of,M.run,eE4,as5,Cl.at]
 cases ha:ae0 a
 ·exact⟨_,_,rfl,enil⟩
 cases hb:ae0 b
 ·exact⟨_,_,rfl,enil⟩
 simp only[aX0,fh5,as5,Bool.false_or]
 by_cases hab:a>b
 ·rw[fi0 hab];exact⟨_,_,rfl,enil⟩
 rw[fi1 hab]
 have ha:=aJ7.1 ha
 have hb:=aJ7.1 hb
 obtain⟨q,hq,h1,h2⟩:=hf a ha.1 ha.2
 simp only[fh5,hq,as5]
 obtain⟨r,e,hr⟩:=bu8 (mb:=fun s=>(bk2 b f s).run)
  (fun s=>s.1.length<=1000/\(∀x∈s.1,a<x)/\(∀x∈s.1,x<=b)/\s.1.Pairwise (· <·)/\(∀x∈s.1,x<s.2)/\a<s.2) (fun s=>(b+1-s.2).toNat)
  (fun r=>match r with| .inl s=>Edg a b s.1| .inr t=>Edg a b t.1) (fun s ⟨i1,i2,i3,i4,i5,i6⟩=>by
   obtain⟨l,p⟩:=s
   simp only at i1 i2 i3 i4 i5 i6
   simp only[bk2,M.run,U1.m,Cl.at]
   by_cases hp:p<=b
   ·rw[fi0 hp]
    simp only[fh8]
    by_cases hl:(l.length:Int)=1000
    ·simp only[hl,beq_self_eq_true,fh8]
     exact .inr ⟨_,rfl,enil⟩
    ·simp only[bf hl,fh5]
     obtain⟨q,hq,h1,h2⟩:=hf p (by omega) (by omega)
     rw[H7 _ _ (by simp;omega),hq]
     simp only[as5]
     refine .inl ⟨_,rfl,⟨?_,?_,?_,?_,?_,by simp only;omega⟩,?_⟩
     ·simp;omega
     ·intro x hx;rcases dn9.1 hx with hx|hx
      ·exact i2 x hx
      ·simp at hx;omega
     ·intro x hx;rcases dn9.1 hx with hx|hx
      ·exact i3 x hx
      ·simp at hx;omega
     ·refine List.pairwise_append.2 ⟨i4,by simp,fun x hx y hy=>?_⟩
      simp at hy;subst hy;exact i5 x hx
     ·intro x hx;rcases dn9.1 hx with hx|hx
      ·have:=i5 x hx;simp only;omega
      ·simp at hx;simp only;omega
     ·simp only;omega
   ·rw[fi1 hp]
    exact .inr ⟨_,rfl,⟨i1,i2,i3,i4⟩⟩) _ ([],q) (cv6 _) ⟨by simp,by simp,by simp,by simp,by simp,by simp only;omega⟩
 rw[e]
 cases r with
 |inl s=>exact⟨_,_,rfl,hr⟩
 |inr t=>exact⟨_,_,rfl,hr⟩
theorem dq0 (a b:Int):∃l e,(bB4 w0 a b).m=some (l,e)/\Edg a b l:=by
 obtain⟨l,e,h1,h2⟩:=cy9 a b (.of (fun z_=>ba4 z_ w0) _ [cd4 w0]) (fun p h0 h1=>by
  obtain⟨q,e,h2,h3⟩:=dZ1 p h0 h1
  exact⟨q,e,h2,by omega⟩)
 simp only[bB4,C.of,M.run,bW9,as5,aX0,fh5]
 exact⟨l,e,ch9 h1 rfl,h2⟩
theorem di8 (a b:Int):∃l e,(bk1 c0 a b).m=some (l,e)/\Edg a b l:=by
 obtain⟨l,e,h1,h2⟩:=cy9 a b (.of (fun z_=>aN0 z_ c0) _ [cN2 c0]) (fun p h0 h1=>by
  obtain⟨q,e,h2,h3⟩:=dU9 p h0 h1
  exact⟨q,e,h2,by omega⟩)
 simp only[bk1,C.of,M.run,da2,as5,aX0,fh5]
 exact⟨l,e,ch9 h1 rfl,h2⟩
theorem eF5 (v:Int)(h0:0<=v)(h1:v<=262144):(ce4 v).m=some (v*60000000/1509949440,0):=by
 simp only[ce4,C.of,M.run]
 rw[show(decide (v<0)||decide (v>524288))=false by simp;omega,j5 (n:=v*60000000) (by omega) (by omega),cz5 (by omega),j5 (by omega) (by omega)]
 rfl
end Go.Pv.Ec

/- A part of the proof of EcuSwitches: Models that know their code, and more. -/
import Derived.Test.YtmhdghdbojdgfaaGreatEcuSwitchesC
import Derived.Test.YtmhdghdbojdgfaaGreatProg
import Derived.KernelRfl
set_option linter.unusedSimpArgs false
set_option linter.unusedVariables false
set_option maxRecDepth 100000
noncomputable section
open Bool renaming and_eq_true->aJ5,not_eq_true'->bO4,not_true->aP9,or_eq_true->cG1
open Int renaming tdiv->da1,tdiv_eq_ediv_of_nonneg->cr3,tmod->ep0
open Go.IntKind renaming bits->eT7,u64->aX3
open List renaming mem_cons->ch6,not_mem_nil->eL8
open Go.Lit renaming int->dN9
open Option renaming bind->ai5,bind_some->aH3
open Go.Pv renaming encI->aN3,encS->do7
namespace Go.Proofs.YtmhdghdbojdgfaaGreat
open Go Go.Pv Go.Proofs
open Tryz
set_option maxHeartbeats 4000000
def ah7 (a:Int):C prog Bool:=.of Z call88 func88 [.t (tI a)] (fun r=>.t (tB r)) (
 .R ((decide (a>=0))&&(decide (a<46080))))
def an8 (s:List Int)(v i:Int)(_:Unit):M prog Int (Fl Unit Int):=
 .O (.ix aN3 s i) fun x=>.I (v==x) (.R (.ret i)) (.R (.next ()))
def V6 (s:List Int)(v:Int):C prog Int:=.of Z call187 func187 [.t (tS aN3 s),.t (tI v)] (fun r=>.t (tI r)) (
 M.QN (s.length:Int) 2 8 (fun(_:Unit)=>[]) 0 (.one .rt) (an8 s v) () (fun _=>.R (-1)) (fun r2=>.R r2))
def P3 (s:List Int)(v:Int):C prog Bool:=.of Z call89 func89 [.t (tS aN3 s),.t (tI v)] (fun r=>.t (tB r)) (
 .K (V6 s v) fun v2=>.R (decide (v2>=0)))
def as2 (e2:o6)(i:Int):M prog Bool (Int⊕(Int⊕Bool)):=
 .I (decide (i<=(e2.u6.length:Int))) (.K (P3 e2.u6 i) fun v2=>.I (!v2) (.R (.inr (.inr false))) (.R (.inl (o4 (i+1))))) (.R (.inr (.inl i)))
def O7 (e2:o6):C prog Bool:=.of Z call44 func44 [at9 e2] (fun r=>.t (tB r)) (
 .G ((decide ((e2.u6.length:Int)<1))||(decide ((e2.u6.length:Int)>8))) (.R true) (.K (ah7 e2.as0) fun v=>.R (!v)) fun b2=>.I b2 (.R false) (.L (fun(t:Int)=>[.t 4 (.t (tI t)),.x 5]) 0 (.one .rt) (as2 e2) 1 (fun _=>.R true) (fun r2=>.R r2)))
def P5 (x:List B8)(count:Int):C prog (List B8):=⟨90,[.t (tS I6 x),.t (tI count)],Pv.P5 x count,fun _=>eG9 x count,(fun r=>.t (tS I6 r)),bx3 x count,fun _ r h=>bx4 h⟩
def aV2 (n2:Int):C prog (List B8×Int):=.of Z call45 func45 [.t (tI n2)] (fun r=>.P9 [.t (tS I6 r.1),.t (tI r.2)]) (
 .I ((decide (n2<1))||(decide (n2>8))) (.R (([]:List B8),2)) (.Z (.fr 11)<| .K (P5 ([(⟨0,100,0⟩:B8)]:List B8) n2) fun v=>.R (v,0)))
def bj3:C prog U2:=.of Z call46 func46 [] (fun r=>ch8 r) (
 .R (⟨0,0,false⟩:U2))
def aL4:C prog M8:=.of Z call47 func47 [] (fun r=>bs3 r) (
 .Mk an3 9 (⟨0,0⟩:aa7) fun l=>.R (⟨false,false,1000,0,l⟩:M8))
def aA0 (e2:o6):C prog (A7×Int):=.of Z call23 func23 [at9 e2] (fun r=>.P9 [aQ4 r.1,.t (tI r.2)]) (
 .K (O7 e2) fun v=>.I (!v) (.R ((⟨(⟨0,0,false⟩:U2),(⟨0⟩:F7),([]:List B8),(⟨false,false,0,0,([]:List aa7)⟩:M8),0,(⟨0,0⟩:Z8)⟩:A7),1)) (.K (aV2 (e2.u6.length:Int)) fun r2=>.I (r2.2 !=0) (.R ((⟨(⟨0,0,false⟩:U2),(⟨0⟩:F7),([]:List B8),(⟨false,false,0,0,([]:List aa7)⟩:M8),0,(⟨0,0⟩:Z8)⟩:A7),1)) (.K (bj3) fun v2=>.K (aL4) fun v3=>.R ((⟨v2,(⟨0⟩:F7),r2.1,v3,0,(⟨0,(-1)⟩:Z8)⟩:A7),0))))
def aV8 (n2:Int):C prog (w9×Int):=.of Z call48 func48 [.t (tI n2)] (fun r=>.P9 [aN4 r.1,.t (tI r.2)]) (
 .I ((decide (n2<1))||(decide (n2>16))) (.R ((⟨0,([]:List j7)⟩:w9),2)) (.Mk E8 n2 (⟨false,0,false,false⟩:j7) fun l=>.R ((⟨0,l⟩:w9),0)))
def O2 (s:List Int):C prog (List Int):=.of Z call49 func49 [.t (tS aN3 s)] (fun r=>.t (tS aN3 r)) (
 .Nl aN3 s (.I true (.R ([]:List Int)) .N) (fun s=>.I false .N (.U (.ap aN3 ([]:List Int) s 5) fun l=>.R l)))
def bc2:C prog D3:=.of Z call50 func50 [] (fun r=>bB7 r) (
 .R (⟨false,0,0,0,0,0⟩:D3))
def ao9 (e2:o6):C prog (c8×Int):=.of Z call24 func24 [at9 e2] (fun r=>.P9 [R8 r.1,.t (tI r.2)]) (
 .K (O7 e2) fun v=>.I (!v) (.R ((⟨(⟨([]:List Int),0⟩:o6),(⟨false,0,0,0,0,0⟩:D3),(⟨0,([]:List j7)⟩:w9),([]:List A1),([]:List A3),false⟩:c8),1)) (.K (aV8 (o4 (2*(e2.u6.length:Int)))) fun r2=>.I (r2.2 !=0) (.R ((⟨(⟨([]:List Int),0⟩:o6),(⟨false,0,0,0,0,0⟩:D3),(⟨0,([]:List j7)⟩:w9),([]:List A1),([]:List A3),false⟩:c8),1)) (.D [] []<| .K (O2 e2.u6) fun v2=>.K (bc2) fun v3=>.R ((⟨(⟨v2,e2.as0⟩:o6),v3,r2.1,([]:List A1),([]:List A3),false⟩:c8),0))))
def F8 (x low high:Int):C prog Bool:=.of Z call91 func91 [.t (tI x),.t (tI low),.t (tI high)] (fun r=>.t (tB r)) (
 .R ((decide (x>=low))&&(decide (x<=high))))
def aj3 (b2:L4):C prog Bool:=.of Z call51 func51 [aL6 b2] (fun r=>.t (tB r)) (
 .K (F8 b2.ai7 100 1048576) fun v=>.G v (.K (F8 b2.ap2 0 65536) fun v2=>.R v2) (.R false) fun b3=>.G b3 (.K (F8 b2.J2 0 65536) fun v3=>.R v3) (.R false) fun b4=>.G b4 (.K (F8 b2.aP2 1 65536) fun v4=>.R v4) (.R false) fun b5=>.G b5 (.K (F8 b2.P0 0 1023) fun v5=>.R v5) (.R false) fun b6=>.G b6 (.K (F8 b2.L2 1 1024) fun v6=>.R v6) (.R false) fun b7=>.G b7 (.K (F8 b2.aX9 0 20) fun v7=>.R v7) (.R false) fun b8=>.R b8)
def cw8 (b2:L4):C prog (Y6×Int):=.of Z call25 func25 [aL6 b2] (fun r=>.P9 [aX8 r.1,.t (tI r.2)]) (
 .K (aj3 b2) fun v=>.I (!v) (.R ((⟨0,0,0,0,0,([]:List Int)⟩:Y6),1)) (.R ((⟨0,0,0,1013,0,([]:List Int)⟩:Y6),0)))
def W2 (s:List z8)(f2:Cl prog z8 Bool (fun x=>[aO5 x]) (fun r=>.t (tB r)))(i:Int)(_:Unit):M prog Int (Fl Unit Int):=
 .O (.ix M3 s i) fun x=>.K (f2.at x) fun v=>.I v (.R (.ret i)) (.R (.next ()))
def S5 (s:List z8)(f2:Cl prog z8 Bool (fun x=>[aO5 x]) (fun r=>.t (tB r))):C prog Int:=.of Z call92 func92 [.t (tS M3 s),.fz f2.n f2.cs] (fun r=>.t (tI r)) (
 M.QN (s.length:Int) 2 8 (fun(_:Unit)=>[]) 0 (.one .rt) (W2 s f2) () (fun _=>.R (-1)) (fun r2=>.R r2))
def I4 (s:List z8)(f2:Cl prog z8 Bool (fun x=>[aO5 x]) (fun r=>.t (tB r))):C prog Bool:=.of Z call52 func52 [.t (tS M3 s),.fz f2.n f2.cs] (fun r=>.t (tB r)) (
 .K (S5 s f2) fun v=>.R (decide (v>=0)))
def D7 (x low high:Int):C prog Bool:=.of Z call109 func109 [.t (tI x),.t (tI low),.t (tI high)] (fun r=>.t (tB r)) (
 .R ((decide (x>=low))&&(decide (x<=high))))
def ad8 (c:z8):C prog Bool:=.of Z call93 func93 [aO5 c] (fun r=>.t (tB r)) (
 .K (D7 c.Code 1 16777215) fun v=>.G v (.K (D7 c.bh2 1 100) fun v2=>.R v2) (.R false) fun b2=>.G b2 (.K (D7 c.Pass 1 100) fun v3=>.R v3) (.R false) fun b3=>.G b3 (.K (D7 c.cC5 1 100) fun v4=>.R v4) (.R false) fun b4=>.G b4 (.K (D7 c.Age c.cC5 255) fun v5=>.R v5) (.R false) fun b5=>.G b5 (.K (D7 c.E7 0 255) fun v6=>.R v6) (.R false) fun b6=>.G b6 (.K (D7 c.Frame 0 8) fun v7=>.R v7) (.R false) fun b7=>.R b7)
def an5 (c:z8):C prog Bool:=.of Z call53 func53 [aO5 c] (fun r=>.t (tB r)) (
 .K (ad8 c) fun v=>.R (!v))
def aD4 (_:Int)(x:z8)(f2:List (Int×Bool)):M prog Bool (Fl (List (Int×Bool)) Bool):=
 .W (.hx 0)<| .Ml eL6 f2 x.Code<| .I (cQ0 false f2 x.Code) (.R (.ret false)) (.Mu eL6 f2 x.Code true<| .R (.next (dm1 f2 x.Code true)))
def an4 (l:List z8):C prog Bool:=.of Z call54 func54 [.t (tS M3 l)] (fun r=>.t (tB r)) (
 .Mm 2048<|M.Q M3 l 2 9 (fun(t:List (Int×Bool))=>[.x 6,.b 2048 (.mp (List.map (ent (fun n:Int=>.int .i64 n) (fun v:Bool=>.bool v)) t))]) 0 (.one .rt) (aD4) ([]:List (Int×Bool)) (fun _=>.R true) (fun r2=>.R r2))
def Z5 (s:List z8):C prog (List z8):=.of Z call55 func55 [.t (tS M3 s)] (fun r=>.t (tS M3 r)) (
 .Nl M3 s (.I true (.R ([]:List z8)) .N) (fun s=>.I false .N (.U (.ap M3 ([]:List z8) s 5) fun l=>.R l)))
def aB6 (l:List z8):C prog (B7×Int):=.of Z call26 func26 [.t (tS M3 l)] (fun r=>.P9 [aA9 r.1,.t (tI r.2)]) (
 .I (decide ((l.length:Int)>64)) (.R ((⟨([]:List z8),([]:List A5),0,false⟩:B7),5)) (.K (I4 l (.of (fun z_=>an5 z_) 53 [])) fun v=>.I v (.R ((⟨([]:List z8),([]:List A5),0,false⟩:B7),1)) (.K (an4 l) fun v2=>.I (!v2) (.R ((⟨([]:List z8),([]:List A5),0,false⟩:B7),8)) (.D [] []<| .K (Z5 l) fun v3=>.Mk G1 (l.length:Int) (⟨0,0,0,0,0,([]:List Int),0⟩:A5) fun l2=>.R ((⟨v3,l2,0,false⟩:B7),0)))))
def V9 (s:List Int)(f2:Cl prog Int Bool (fun x=>[.t (tI x)]) (fun r=>.t (tB r)))(i:Int)(_:Unit):M prog Int (Fl Unit Int):=
 .O (.ix aN3 s i) fun x=>.K (f2.at x) fun v=>.I v (.R (.ret i)) (.R (.next ()))
def T9 (s:List Int)(f2:Cl prog Int Bool (fun x=>[.t (tI x)]) (fun r=>.t (tB r))):C prog Int:=.of Z call190 func190 [.t (tS aN3 s),.fz f2.n f2.cs] (fun r=>.t (tI r)) (
 M.QN (s.length:Int) 2 8 (fun(_:Unit)=>[]) 0 (.one .rt) (V9 s f2) () (fun _=>.R (-1)) (fun r2=>.R r2))
def o7 (s:List Int)(f2:Cl prog Int Bool (fun x=>[.t (tI x)]) (fun r=>.t (tB r))):C prog Bool:=.of Z call96 func96 [.t (tS aN3 s),.fz f2.n f2.cs] (fun r=>.t (tB r)) (
 .K (T9 s f2) fun v=>.R (decide (v>=0)))
def ab6 (n2:Int):C prog Bool:=.of Z call104 func104 [.t (tI n2)] (fun r=>.t (tB r)) (
 .R ((decide (n2>=(-1073741824)))&&(decide (n2<=1073741824))))
def ay5 (l:List Int)(i:Int)(_:Unit):M prog Bool (Fl Unit Bool):=
 .O (.ix aN3 l i) fun x=>.K (ab6 x) fun v=>.G (!v) (.R true) (.G (decide (i>0)) (.O (.ix aN3 l (o4 (i-1))) fun x2=>.R (decide (x<=x2))) (.R false) fun b2=>.R b2) fun b3=>.I b3 (.R (.ret false)) (.R (.next ()))
def ar4 (l:List Int):C prog Bool:=.of Z call102 func102 [.t (tS aN3 l)] (fun r=>.t (tB r)) (
 .I ((decide ((l.length:Int)<2))||(decide ((l.length:Int)>32))) (.R false) (M.QN (l.length:Int) 2 15 (fun(_:Unit)=>[]) 0 (.one .rt) (ay5 l) () (fun _=>.R true) (fun r2=>.R r2)))
def ah4 (z:Int):C prog Bool:=.of Z call103 func103 [.t (tI z)] (fun r=>.t (tB r)) (
 .K (ab6 z) fun v=>.R (!v))
def aC1 (m2:SMap)(_:Int)(x:List Int)(_:Unit):M prog Bool (Fl Unit Bool):=
 .W (.hx 0)<| .G ((x.length:Int) !=(m2.Y.length:Int)) (.R true) (.K (o7 x (.of (fun z_=>ah4 z_) 103 [])) fun v3=>.R v3) fun b3=>.I b3 (.R (.ret false)) (.R (.next ()))
def J4 (m2:SMap):C prog Bool:=.of Z call58 func58 [dh8 m2] (fun r=>.t (tB r)) (
 .K (ar4 m2.X) fun v=>.G (!v) (.R true) (.K (ar4 m2.Y) fun v2=>.R (!v2)) fun b2=>.I (b2||((m2.Z.length:Int) !=(m2.X.length:Int))) (.R false) (M.Q (do7 aN3) m2.Z 2 27 (fun(_:Unit)=>[.x 5,.x 24]) 0 (.one .rt) (aC1 m2) () (fun _=>.R true) (fun r2=>.R r2)))
def aB4 (n2:Int):C prog Bool:=.of Z call106 func106 [.t (tI n2)] (fun r=>.t (tB r)) (
 .R ((decide (n2<(-1073741824)))||(decide (n2>1073741824))))
def aH5 (l:List Int)(i:Int)(_:Unit):M prog Bool (Fl Unit Bool):=
 .D [] []<| .O (.ix aN3 l i) fun x=>.O (.ix aN3 l (o4 (i+1))) fun x2=>.I (decide (x>=x2)) (.R (.ret false)) (.R (.next ()))
def aL9 (l:List Int):C prog Bool:=.of Z call105 func105 [.t (tS aN3 l)] (fun r=>.t (tB r)) (
 .G ((decide ((l.length:Int)<2))||(decide ((l.length:Int)>32))) (.R true) (.K (o7 l (.of (fun z_=>aB4 z_) 106 [])) fun v=>.R v) fun b2=>.I b2 (.R false) (M.QN (o4 ((l.length:Int)-1)) 2 19 (fun(_:Unit)=>[]) 0 (.one .rt) (aH5 l) () (fun _=>.R true) (fun r2=>.R r2)))
def P2 (c:Q0):C prog Bool:=.of Z call59 func59 [ch7 c] (fun r=>.t (tB r)) (
 .G ((c.X.length:Int)==(c.Y.length:Int)) (.K (aL9 c.X) fun v=>.R v) (.R false) fun b2=>.G b2 (.K (o7 c.Y (.of (fun z_=>aB4 z_) 106 [])) fun v2=>.R (!v2)) (.R false) fun b3=>.R b3)
def cmp_isNaN_int (x:Int):C prog Bool:=.of Z call280 func280 [.t (tI x)] (fun r=>.t (tB r)) (
 .R (x !=x))
def cmp_Less_int (x y:Int):C prog Bool:=.of Z call189 func189 [.t (tI x),.t (tI y)] (fun r=>.t (tB r)) (
 .K (cmp_isNaN_int x) fun v=>.G v (.K (cmp_isNaN_int y) fun v2=>.R (!v2)) (.R false) fun b2=>.R (b2||(decide (x<y))))
def Q4 (x:List Int)(i:Int):M prog Bool (Int⊕(Int⊕Bool)):=
 .I (decide (i>0)) (.D [] []<| .O (.ix aN3 x i) fun x2=>.O (.ix aN3 x (o4 (i-1))) fun x3=>.K (cmp_Less_int x2 x3) fun v=>.I v (.R (.inr (.inr false))) (.R (.inl (o4 (i-1))))) (.R (.inr (.inl i)))
def P4 (x:List Int):C prog Bool:=.of Z call94 func94 [.t (tS aN3 x)] (fun r=>.t (tB r)) (
 .L (fun(t:Int)=>[.t 3 (.t (tI t))]) 0 (.one .rt) (Q4 x) (o4 ((x.length:Int)-1)) (fun _=>.R true) (fun r2=>.R r2))
def I5 (n2 low high:Int):C prog Bool:=.of Z call95 func95 [.t (tI n2),.t (tI low),.t (tI high)] (fun r=>.t (tB r)) (
 .R ((decide (n2>=low))&&(decide (n2<=high))))
def aK6 (y:Int):C prog Bool:=.of Z call97 func97 [.t (tI y)] (fun r=>.t (tB r)) (
 .K (I5 y 100 3000) fun v=>.R (!v))
def aT6 (_:Int)(x:List Int)(_:Unit):M prog Bool (Fl Unit Bool):=
 .W (.hx 0)<| .K (P4 x) fun v3=>.G (!v3) (.R true) (.O (.ix aN3 x 0) fun x2=>.K (I5 x2 0 1048576) fun v4=>.R (!v4)) fun b3=>.G b3 (.R true) (.O (.ix aN3 x (o4 ((x.length:Int)-1))) fun x3=>.K (I5 x3 0 1048576) fun v5=>.R (!v5)) fun b4=>.I b4 (.R (.ret false)) (.R (.next ()))
def aB1 (t2:o8):C prog Bool:=.of Z call56 func56 [S6 t2] (fun r=>.t (tB r)) (
 .K (J4 t2.Air) fun v=>.G (!v) (.R true) (.K (P2 t2.L7) fun v2=>.R (!v2)) fun b2=>.I b2 (.R false) (M.Q (do7 aN3) t2.Air.Z 2 19 (fun(_:Unit)=>[.x 5,.x 15,.x 16]) 0 (.one .rt) (aT6) () (fun _=>.K (o7 t2.L7.Y (.of (fun z_=>aK6 z_) 97 [])) fun v6=>.R (!v6)) (fun r2=>.R r2)))
def Z7 (s:List (List Int))(f2:Cl prog (List Int) Bool (fun x=>[.t (tS aN3 x)]) (fun r=>.t (tB r)))(i:Int)(_:Unit):M prog Int (Fl Unit Int):=
 .O (.ix (do7 aN3) s i) fun x=>.K (f2.at x) fun v=>.I v (.R (.ret i)) (.R (.next ()))
def V5 (s:List (List Int))(f2:Cl prog (List Int) Bool (fun x=>[.t (tS aN3 x)]) (fun r=>.t (tB r))):C prog Int:=.of Z call43 func43 [.t (tS (do7 aN3) s),.fz f2.n f2.cs] (fun r=>.t (tI r)) (
 M.QN (s.length:Int) 2 8 (fun(_:Unit)=>[]) 0 (.one .rt) (Z7 s f2) () (fun _=>.R (-1)) (fun r2=>.R r2))
def G0 (s:List (List Int))(f2:Cl prog (List Int) Bool (fun x=>[.t (tS aN3 x)]) (fun r=>.t (tB r))):C prog Bool:=.of Z call21 func21 [.t (tS (do7 aN3) s),.fz f2.n f2.cs] (fun r=>.t (tB r)) (
 .K (V5 s f2) fun v=>.R (decide (v>=0)))
def H6 (x low high:Int):C prog Bool:=.of Z call192 func192 [.t (tI x),.t (tI low),.t (tI high)] (fun r=>.t (tB r)) (
 .R ((decide (x>=low))&&(decide (x<=high))))
def ao0 (x c c2:Int):C prog Bool:=.of Z call191 func191 [.t (tI x),.el (aN3 c),.el (aN3 c2)] (fun r=>.t (tB r)) (
 .K (H6 x c c2) fun v=>.R (!v))
def ag9 (l:List Int)(low high:Int):C prog Bool:=.of Z call98 func98 [.t (tS aN3 l),.t (tI low),.t (tI high)] (fun r=>.t (tB r)) (
 .Z (.fb 4)<| .Z (.fb 5)<| .K (o7 l (.of (fun z_=>ao0 z_ low high) 191 [aN3 low,aN3 high])) fun v=>.R v)
def L8 (x:List Int)(cmp:Cl prog (Int×Int) Int (fun x=>[.t (tI x.1),.t (tI x.2)]) (fun r=>.t (tI r)))(i:Int):M prog Bool (Int⊕(Int⊕Bool)):=
 .I (decide (i>0)) (.D [] []<| .O (.ix aN3 x i) fun x2=>.O (.ix aN3 x (o4 (i-1))) fun x3=>.K (cmp.at (x2,x3)) fun v=>.I (decide (v<0)) (.R (.inr (.inr false))) (.R (.inl (o4 (i-1))))) (.R (.inr (.inl i)))
def H9 (x:List Int)(cmp:Cl prog (Int×Int) Int (fun x=>[.t (tI x.1),.t (tI x.2)]) (fun r=>.t (tI r))):C prog Bool:=.of Z call99 func99 [.t (tS aN3 x),.fz cmp.n cmp.cs] (fun r=>.t (tB r)) (
 .L (fun(t:Int)=>[.t 5 (.t (tI t))]) 0 (.one .rt) (L8 x cmp) (o4 ((x.length:Int)-1)) (fun _=>.R true) (fun r2=>.R r2))
def ab7 (a b2:Int):C prog Int:=.of Z call100 func100 [.t (tI a),.t (tI b2)] (fun r=>.t (tI r)) (
 .R (o4 (b2-a)))
def ak9 (row:List Int):C prog Bool:=.of Z call101 func101 [.t (tS aN3 row)] (fun r=>.t (tB r)) (
 .K (ag9 row 0 10000) fun v=>.G v (.R true) (.K (P4 row) fun v2=>.R (!v2)) fun b2=>.R b2)
def ai1 (t2:o8):C prog Bool:=.of Z call57 func57 [S6 t2] (fun r=>.t (tB r)) (
 .K (J4 t2.p7) fun v=>.G (!v) (.R true) (.K (P2 t2.C3) fun v2=>.R (!v2)) fun b2=>.G b2 (.R true) (.K (ag9 t2.C3.Y 0 1000) fun v3=>.R v3) fun b3=>.I b3 (.R false) (.K (H9 t2.C3.Y (.of (fun z_=>ab7 z_.1 z_.2) 100 [])) fun v4=>.I (!v4) (.R false) (.K (G0 t2.p7.Z (.of (fun z_=>ak9 z_) 101 [])) fun v5=>.R (!v5))))
def J6 (x low high:Int):C prog Bool:=.of Z call108 func108 [.t (tI x),.t (tI low),.t (tI high)] (fun r=>.t (tB r)) (
 .R ((decide (x>=low))&&(decide (x<=high))))
def aA1 (x c c2:Int):C prog Bool:=.of Z call107 func107 [.t (tI x),.el (aN3 c),.el (aN3 c2)] (fun r=>.t (tB r)) (
 .K (J6 x c c2) fun v=>.R (!v))
def af7 (l:List Int)(low high:Int):C prog Bool:=.of Z call60 func60 [.t (tS aN3 l),.t (tI low),.t (tI high)] (fun r=>.t (tB r)) (
 .Z (.fb 4)<| .Z (.fb 5)<| .K (o7 l (.of (fun z_=>aA1 z_ low high) 107 [aN3 low,aN3 high])) fun v=>.R (!v))
def Q3 (g:aW0):C prog Bool:=.of Z call61 func61 [dh7 g] (fun r=>.t (tB r)) (
 .R (((((((decide (g.P>=0))&&(decide (g.P<=65536)))&&(decide (g.I>=0)))&&(decide (g.I<=65536)))&&(decide (g.Low>=(-1073741824))))&&(decide (g.Low<=g.bs5)))&&(decide (g.bs5<=1073741824))))
def aB3 (_:Int)(x:List Int)(_:Unit):M prog Bool (Fl Unit Bool):=
 .W (.hx 0)<| .K (af7 x (-1280) 3840) fun v7=>.I (!v7) (.R (.ret false)) (.R (.next ()))
def ab9 (t2:o8):C prog Bool:=.of Z call27 func27 [S6 t2] (fun r=>.t (tB r)) (
 .K (aB1 t2) fun v=>.G (!v) (.R true) (.K (ai1 t2) fun v2=>.R (!v2)) fun b2=>.G b2 (.R true) (.K (J4 t2.O0) fun v3=>.R (!v3)) fun b3=>.G b3 (.R true) (.K (J4 t2.aI4) fun v4=>.R (!v4)) fun b4=>.G b4 (.R true) (.K (P2 t2.ae7) fun v5=>.R (!v5)) fun b5=>.G b5 (.R true) (.K (P2 t2.aw2) fun v6=>.R (!v6)) fun b6=>.I b6 (.R false) (M.Q (do7 aN3) t2.O0.Z 2 41 (fun(_:Unit)=>[.x 37,.x 38]) 0 (.one .rt) (aB3) () (fun _=>.K (af7 t2.ae7.Y 500 10000) fun v8=>.G v8 (.K (af7 t2.aw2.Y 0 10000) fun v9=>.R v9) (.R false) fun b7=>.G b7 (.K (Q3 t2.ae6) fun v10=>.R v10) (.R false) fun b8=>.R b8) (fun r2=>.R r2)))
def aR6 (x:Int):C prog Bool:=.of Z call282 func282 [.t (tI x)] (fun r=>.t (tB r)) (
 .K (D7 x (-1099511627776) 1099511627776) fun v=>.R v)
def aA3 (x:Int):C prog Bool:=.of Z call281 func281 [.t (tI x)] (fun r=>.t (tB r)) (
 .K (aR6 x) fun v=>.R (!v))
def as3 (c:z8)(l:List Int):C prog Bool:=.of Z call193 func193 [aO5 c,.t (tS aN3 l)] (fun r=>.t (tB r)) (
 .G ((l.length:Int)==c.Frame) (.K (o7 l (.of (fun z_=>aA3 z_) 281 [])) fun v=>.R (!v)) (.R false) fun b2=>.R b2)
def X2 (f2:A5)(bits:Int):C prog Bool:=.of Z call194 func194 [cI3 f2,.t (tI bits)] (fun r=>.t (tB r)) (
 .R ((ad3 .i64 f2.G5 bits)==bits))
def aL0 (f2:A5):C prog Bool:=.of Z call195 func195 [cI3 f2] (fun r=>.t (tB r)) (
 .R ((ad3 .i64 f2.G5 6) !=0))
def aF7 (c:z8)(f2:A5)(E6:Int):C prog Bool:=.of Z call110 func110 [aO5 c,cI3 f2,.t (tI E6)] (fun r=>.t (tB r)) (
 .K (D7 f2.G5 0 31) fun v=>.G (!v) (.R true) (.K (D7 f2.E5 (o4 (0-c.Pass)) c.bh2) fun v2=>.R (!v2)) fun b2=>.G b2 (.R true) (.K (D7 f2.J5 0 2) fun v3=>.R (!v3)) fun b3=>.G b3 (.R true) (.K (D7 f2.Clean 0 (o4 (c.Age-1))) fun v4=>.R (!v4)) fun b4=>.G b4 (.R true) (.K (D7 f2.A2 0 255) fun v5=>.R (!v5)) fun b5=>.G b5 (.R true) (.K (D7 f2.H0 0 E6) fun v6=>.R (!v6)) fun b6=>.G b6 (.R true) (.G (decide ((f2.Frame.length:Int)>0)) (.K (as3 c f2.Frame) fun v7=>.R (!v7)) (.R false) fun b7=>.R b7) fun b8=>.I b8 (.R false) (.K (X2 f2 1) fun v8=>.G v8 (.K (X2 f2 10) fun v9=>.R ((!v9)||(f2.H0 !=E6))) (.R false) fun b9=>.I b9 (.R false) (.D [] []<| .K (X2 f2 4) fun v10=>.I (!(v10==(f2.J5==2))) (.R false) (.K (X2 f2 16) fun v11=>.G v11 (.K (X2 f2 4) fun v12=>.R ((!v12)||(!c.cr6))) (.R false) fun b10=>.I b10 (.R false) (.K (X2 f2 2) fun v13=>.I (v13&&(f2.Clean !=0)) (.R false) (.K (aL0 f2) fun v14=>.I v14 (.R ((((decide (f2.A2>=1))&&(decide (f2.J5>=1)))&&(decide (f2.H0>=1)))&&((f2.Frame.length:Int)==c.Frame))) (.R (((((f2.J5==0)&&(f2.Clean==0))&&(f2.A2==0))&&(f2.H0==0))&&((f2.Frame.length:Int)==0)))))))))
def aD3 (f2:B7)(i:Int)(_:Unit):M prog Bool (Fl Unit Bool):=
 .O (.ix G1 f2.L i) fun x=>.D [] []<| .O (.ix M3 f2.T0 i) fun x2=>.K (aF7 x2 x f2.aI1) fun v4=>.I (!v4) (.R (.ret false)) (.R (.next ()))
def Z3 (f2:B7):C prog Bool:=.of Z call62 func62 [aA9 f2] (fun r=>.t (tB r)) (
 .G (decide ((f2.T0.length:Int)>64)) (.R true) (.K (I4 f2.T0 (.of (fun z_=>an5 z_) 53 [])) fun v=>.R v) fun b2=>.G b2 (.R true) (.K (an4 f2.T0) fun v2=>.R (!v2)) fun b3=>.G (b3||((f2.L.length:Int) !=(f2.T0.length:Int))) (.R true) (.K (D7 f2.aI1 0 1073741824) fun v3=>.R (!v3)) fun b4=>.I (b4||(f2.ax8&&(decide (f2.aI1<1)))) (.R false) (M.QN (f2.L.length:Int) 2 47 (fun(_:Unit)=>[.x 5,.x 44]) 0 (.one .rt) (aD3 f2) () (fun _=>.R true) (fun r2=>.R r2)))
def ad0 (s:List A5):CG prog (List A5):=.of Z call111 func111 [.t (tS G1 s)] [] (fun _=>.own 900000) (fun r=>[(900000,.rs 174 7 r G1)]) [900000] (
 .Nl G1 s (.I true (.Z (.np 2 70000 174 7 [])<| .R ([]:List A5)) .N) (fun s=>.I false .N (.U (.ap G1 ([]:List A5) s 5) fun l=>.R l)))
def ay2 (i:Int)(f3:List A5):M prog B7 (Fl (List A5) Empty):=
 .D [] []<| .O (.ix G1 f3 i) fun x=>.W (.ly 0)<| .K (O2 x.Frame) fun v2=>.W (.hx 0)<| .U (.st G1 f3 i ({x with Frame:=v2}:A5) 0) fun l=>.R (.next l)
def al2 (f2:B7):CG prog B7:=.of Z call63 func63 [aA9 f2] [] (fun r=>.agg [.t (tS M3 r.T0),.own 900000,.t (tI r.aI1),.t (tB r.ax8)]) (fun r=>[(900000,.rs 174 7 r.L G1)]) [900000] (
 .KG (ad0 f2.L) [2048] fun v=>M.QN (v.length:Int) 2 11 (fun(t:List A5)=>[.x 4,.x 6,.x 7,.x 8,.x 9,.b 2048 (.rs 174 7 t G1)]) 0 (.e) (ay2) v (fun f4=>.R ({f2 with L:=f4}:B7)) (fun t=>t.elim))
def aD2 (i:Int)(f3:List A5):M prog (B7×Int) (Fl (List A5) Empty):=
 .O (.ix G1 f3 i) fun x=>.U (.st G1 f3 i ({x with E5:=0}:A5) 0) fun l=>.W (.ly 0)<| .U (.st G1 l i ({x with G5:=aO6 .i64 x.G5 9,E5:=0}:A5) 0) fun l2=>.R (.next l2)
def aw8 (f2:B7):C prog (B7×Int):=.of Z call28 func28 [aA9 f2] (fun r=>.P9 [aA9 r.1,.t (tI r.2)]) (
 .K (Z3 f2) fun v=>.I (!v) (.R ((⟨([]:List z8),([]:List A5),0,false⟩:B7),1)) (.I f2.ax8 (.R ((⟨([]:List z8),([]:List A5),0,false⟩:B7),6)) (.I (f2.aI1==1073741824) (.R ((⟨([]:List z8),([]:List A5),0,false⟩:B7),9)) (.KG (al2 f2) [2168] fun v2=>M.QN (v2.L.length:Int) 2 30 (fun(t:List A5)=>[.x 12,.x 16,.x 21,.x 22,.x 25,.x 26,.x 27,.x 28,.b 2168 (.rs 174 7 t G1)]) 1 (.e) (aD2) v2.L (fun f4=>.R ((⟨v2.T0,f4,o4 (v2.aI1+1),true⟩:B7),0)) (fun t=>t.elim)))))
def aY8 (n2:Int):C prog Bool:=.of Z call64 func64 [.t (tI n2)] (fun r=>.t (tB r)) (
 .R ((decide (n2>=1))&&(decide (n2<=65535))))
def cS1 (seed:Int):C prog (ac8×Int):=.of Z call29 func29 [.t (tI seed)] (fun r=>.P9 [aT4 r.1,.t (tI r.2)]) (
 .K (aY8 seed) fun v=>.I (!v) (.R ((⟨0,0,0,false,false⟩:ac8),2)) (.R ((⟨seed,0,0,false,false⟩:ac8),0)))
def dB0:C prog Y9:=.of Z call30 func30 [] (fun r=>aP5 r) (
 .R (⟨0,0,0,0,0,0⟩:Y9))
def cw6:C prog aa8:=.of Z call31 func31 [] (fun r=>aX7 r) (
 .R (⟨false,0,0,false⟩:aa8))
def bM6:C prog X8:=.of Z call32 func32 [] (fun r=>bc1 r) (
 .R (⟨false,0,0⟩:X8))
def dg3:C prog ao4:=.of Z call33 func33 [] (fun r=>bl5 r) (
 .R (⟨false,1,0⟩:ao4))
def bW4 (t2:o8)(b2:L4)(e2:o6)(l:List z8):C prog (af3×Int):=.of Z call8 func8 [S6 t2,aL6 b2,at9 e2,.t (tS M3 l)] (fun r=>.P9 [ca9 r.1,.t (tI r.2)]) (
 .K (aA0 e2) fun r2=>.K (ao9 e2) fun r3=>.K (cw8 b2) fun r4=>.K (aB6 l) fun r5=>.K (ab9 t2) fun v=>.I ((((((!v)||(r2.2 !=0))||(r3.2 !=0))||(r4.2 !=0))||(r5.2 !=0))||(decide ((l.length:Int)<7))) (.R ((⟨(⟨(⟨([]:List Int),([]:List Int),([]:List (List Int))⟩:SMap),(⟨([]:List Int),([]:List Int),([]:List (List Int))⟩:SMap),(⟨([]:List Int),([]:List Int),([]:List (List Int))⟩:SMap),(⟨([]:List Int),([]:List Int),([]:List (List Int))⟩:SMap),(⟨([]:List Int),([]:List Int)⟩:Q0),(⟨([]:List Int),([]:List Int)⟩:Q0),(⟨([]:List Int),([]:List Int)⟩:Q0),(⟨([]:List Int),([]:List Int)⟩:Q0),(⟨0,0,0,0⟩:aW0)⟩:o8),(⟨(⟨0,0,false⟩:U2),(⟨0⟩:F7),([]:List B8),(⟨false,false,0,0,([]:List aa7)⟩:M8),0,(⟨0,0⟩:Z8)⟩:A7),(⟨(⟨([]:List Int),0⟩:o6),(⟨false,0,0,0,0,0⟩:D3),(⟨0,([]:List j7)⟩:w9),([]:List A1),([]:List A3),false⟩:c8),(⟨0,0,0,0,0,0⟩:Y9),(⟨false,0,0,false⟩:aa8),(⟨false,0,0⟩:X8),(⟨0,0,false⟩:ah6),(⟨0,0,0,false,false⟩:ac8),(⟨false,0,0⟩:ao4),(⟨([]:List z8),([]:List A5),0,false⟩:B7),(⟨0,0,0,0,0,([]:List Int)⟩:Y6),(⟨0,0,0,0,0,0,0⟩:L4),0⟩:af3),1)) (.K (aw8 r5.1) fun r6=>.K (cS1 1) fun r7=>.D [] []<| .K (dB0) fun v2=>.K (cw6) fun v3=>.K (bM6) fun v4=>.K (dg3) fun v5=>.R ((⟨t2,r2.1,r3.1,v2,v3,v4,(⟨0,0,false⟩:ah6),r7.1,v5,r6.1,r4.1,b2,0⟩:af3),0)))
def cN0 (s:List z8×Int):M prog (List z8) ((List z8×Int)⊕((List z8×Int)⊕Empty)):=
 .I (decide (s.2<7)) (.U (.ap M3 s.1 ([(⟨o4 (8448+s.2),3,5,3,40,o4 (1+s.2),true,2⟩:z8)]:List z8) 2104) fun l=>.R (.inl (l,o4 (s.2+1)))) (.R (.inr (.inl (s.1,s.2))))
def bm5:C prog (List z8):=.of Z call9 func9 [] (fun r=>.t (tS M3 r)) (
 .Z (.np 1 2104 135 8 [])<| .L (fun(t:List z8×Int)=>[.t 1 (.own 2104),.t 3 (.t (tI t.2)),.b 2104 (.rs 135 8 t.1 M3)]) 0 (.e) (cN0) (([]:List z8),0) (fun s2=>.R s2.1) (fun t=>t.elim))
def dG7:C prog o8:=.of Z call17 func17 [] (fun r=>S6 r) (
 .Z (.fr 7)<| .Z (.fr 8)<| .Z (.fr 9)<| .Z (.fr 10)<| .Z (.fr 18)<| .Z (.fr 19)<| .Z (.fr 20)<| .Z (.fr 21)<| .Z (.fr 35)<| .Z (.fr 36)<| .Z (.fr 37)<| .Z (.fr 38)<| .Z (.fr 43)<| .Z (.fr 44)<| .Z (.fr 45)<| .Z (.fr 46)<| .R (⟨(⟨([0,1000,3000,7000]:List Int),([50,300,700,1050]:List Int),([([5000,90000,250000,400000]:List Int),([8000,100000,280000,430000]:List Int),([10000,110000,300000,460000]:List Int),([8000,95000,270000,420000]:List Int)]:List (List Int))⟩:SMap),(⟨([0,1000,3000,7000]:List Int),([0,100000,300000,500000]:List Int),([([640,600,400,300]:List Int),([900,800,600,500]:List Int),([1900,1600,1300,1100]:List Int),([2400,2100,1800,1600]:List Int)]:List (List Int))⟩:SMap),(⟨([0,1000,3000,7000]:List Int),([0,100000,300000,500000]:List Int),([([0,400,1500,2600]:List Int),([0,500,1800,3000]:List Int),([0,450,1900,3200]:List Int),([0,300,1500,2700]:List Int)]:List (List Int))⟩:SMap),(⟨([0,1000,3000,7000]:List Int),([0,200,600,1000]:List Int),([([100,800,2000,3000]:List Int),([0,700,2000,3200]:List Int),([0,600,1900,3200]:List Int),([0,300,1500,2700]:List Int)]:List (List Int))⟩:SMap),(⟨([(-40),20,100]:List Int),([1200,1000,850]:List Int)⟩:Q0),(⟨([6000,14000]:List Int),([6000,3000]:List Int)⟩:Q0),(⟨([6000,14000]:List Int),([2500,800]:List Int)⟩:Q0),(⟨([0,640,1600,2560]:List Int),([1000,950,700,300]:List Int)⟩:Q0),(⟨1024,32,0,800⟩:aW0)⟩:o8))
def el6:C prog L4:=.of Z call18 func18 [] (fun r=>aL6 r) (
 .R (⟨4000,400,600,9000,200,300,4⟩:L4))
def bZ1:C prog o6:=.of Z call19 func19 [] (fun r=>at9 r) (
 .R (⟨([1]:List Int),0⟩:o6))
def bB3 (_ x:Int)(_:Unit):M prog Bool (Fl Unit Bool):=
 .W (.hx 0)<| .K (F8 x 500 2000) fun v7=>.I (!v7) (.R (.ret false)) (.R (.next ()))
def bv3 (b2:L4)(p2:Y6):C prog Bool:=.of Z call65 func65 [aL6 b2,aX8 p2] (fun r=>.t (tB r)) (
 .K (aj3 b2) fun v=>.G (!v) (.R true) (.K (F8 p2.I8 0 3019898879) fun v2=>.R (!v2)) fun b3=>.G b3 (.R true) (.K (F8 p2.D2 0 262144) fun v3=>.R (!v3)) fun b4=>.G b4 (.R true) (.K (F8 p2.Rest 0 (o4 (b2.ai7-1))) fun v4=>.R (!v4)) fun b5=>.G b5 (.R true) (.K (F8 p2.L3 50 1013) fun v5=>.R (!v5)) fun b6=>.G b6 (.R true) (.K (F8 p2.P0 0 2147483648) fun v6=>.R (!v6)) fun b7=>.I (b7||(decide ((p2.Path.length:Int)>(o4 (b2.aX9+1))))) (.R false) (M.Q aN3 p2.Path 2 55 (fun(_:Unit)=>[.x 2,.x 3,.x 52,.d 2,.d 3]) 0 (.one .rt) (bB3) () (fun _=>.R true) (fun r2=>.R r2)))
def av1 (t2:Int):C prog Bool:=.of Z call196 func196 [.t (tI t2)] (fun r=>.t (tB r)) (
 .R ((decide (t2>=0))&&(decide (t2<=1099511627776))))
def ai9 (c:D3):C prog Bool:=.of Z call112 func112 [bB7 c] (fun r=>.t (tB r)) (
 .I (!c.V7) (.W .eq<| .R ((c.V7==false)&&((c.At==0)&&((c.H2==0)&&((c.F9==0)&&((c.aa4==0)&&((c.aj7==0)&&true))))))) (.K (av1 c.At) fun v=>.I (((((((!v)||(decide (c.H2<0)))||(decide (c.H2>=46080)))||(decide (c.F9<1)))||(decide (c.F9>1073741824)))||(decide (c.aa4<192)))||(decide (c.aa4>1920))) (.R false) (.R (((c.aj7==c.aa4)||(c.aj7==(o4 (2*c.aa4))))||(c.aj7==(o4 (3*c.aa4)))))))
def V1 (s:List j7)(f2:Cl prog j7 Bool (fun x=>[ba8 x]) (fun r=>.t (tB r)))(i:Int)(_:Unit):M prog Int (Fl Unit Int):=
 .O (.ix E8 s i) fun x=>.K (f2.at x) fun v=>.I v (.R (.ret i)) (.R (.next ()))
def R3 (s:List j7)(f2:Cl prog j7 Bool (fun x=>[ba8 x]) (fun r=>.t (tB r))):C prog Int:=.of Z call283 func283 [.t (tS E8 s),.fz f2.n f2.cs] (fun r=>.t (tI r)) (
 M.QN (s.length:Int) 2 8 (fun(_:Unit)=>[]) 0 (.one .rt) (V1 s f2) () (fun _=>.R (-1)) (fun r2=>.R r2))
def G4 (s:List j7)(f2:Cl prog j7 Bool (fun x=>[ba8 x]) (fun r=>.t (tB r))):C prog Bool:=.of Z call197 func197 [.t (tS E8 s),.fz f2.n f2.cs] (fun r=>.t (tB r)) (
 .K (R3 s f2) fun v=>.R (decide (v>=0)))
def ap0 (c:j7)(c2:w9):C prog Bool:=.of Z call198 func198 [ba8 c,.el (cN8 c2)] (fun r=>.t (tB r)) (
 .I c.D9 (.R ((decide (c.At<=c2.Q7))||(decide (c.At>1099511627776)))) (.R ((c.At !=0)||c.Next)))
def an9 (t2:w9):C prog Bool:=.of Z call113 func113 [aN4 t2] (fun r=>.t (tB r)) (
 .I ((((decide (t2.Q7<0))||(decide (t2.Q7>1099511627776)))||(decide ((t2.j1.length:Int)<1)))||(decide ((t2.j1.length:Int)>16))) (.R false) (.Z (.fb 1)<| .K (G4 t2.j1 (.of (fun z_=>ap0 z_ t2) 198 [cN8 t2])) fun v=>.R (!v)))
def M6 (x low high:Int):C prog Bool:=.of Z call284 func284 [.t (tI x),.t (tI low),.t (tI high)] (fun r=>.t (tB r)) (
 .R ((decide (x>=low))&&(decide (x<=high))))
def X1 (e2:o6)(f2:A1):C prog Bool:=.of Z call199 func199 [at9 e2,aP4 f2] (fun r=>.t (tB r)) (
 .K (O7 e2) fun v=>.G (!v) (.R true) (.K (P3 e2.u6 f2.u0) fun v2=>.R (!v2)) fun b2=>.G b2 (.R true) (.K (M6 f2.O0 (-1280) 3840) fun v3=>.R (!v3)) fun b3=>.G b3 (.R true) (.K (M6 f2.ae7 500 10000) fun v4=>.R (!v4)) fun b4=>.G b4 (.R true) (.K (M6 f2.End 0 23040) fun v5=>.R (!v5)) fun b5=>.I b5 (.R false) (.G (f2.Y5 !=0) (.K (M6 f2.Y5 200 20000) fun v6=>.R (!v6)) (.R false) fun b6=>.I b6 (.R false) (.G ((f2.Gap==0)&&(f2.Extra==0)) (.R true) (.G (f2.Y5 !=0) (.K (M6 f2.Gap 200 20000) fun v7=>.R v7) (.R false) fun b7=>.G b7 (.K (M6 f2.Extra 200 20000) fun v8=>.R v8) (.R false) fun b8=>.R b8) fun b9=>.R b9)))
def N8 (s:List A1)(f2:Cl prog A1 Bool (fun x=>[aP4 x]) (fun r=>.t (tB r)))(i:Int)(_:Unit):M prog Int (Fl Unit Int):=
 .O (.ix B3 s i) fun x=>.K (f2.at x) fun v=>.I v (.R (.ret i)) (.R (.next ()))
def H5 (s:List A1)(f2:Cl prog A1 Bool (fun x=>[aP4 x]) (fun r=>.t (tB r))):C prog Int:=.of Z call180 func180 [.t (tS B3 s),.fz f2.n f2.cs] (fun r=>.t (tI r)) (
 M.QN (s.length:Int) 2 8 (fun(_:Unit)=>[]) 0 (.one .rt) (N8 s f2) () (fun _=>.R (-1)) (fun r2=>.R r2))
def F2 (s:List A1)(f2:Cl prog A1 Bool (fun x=>[aP4 x]) (fun r=>.t (tB r))):C prog Bool:=.of Z call200 func200 [.t (tS B3 s),.fz f2.n f2.cs] (fun r=>.t (tB r)) (
 .K (H5 s f2) fun v=>.R (decide (v>=0)))
def ae4 (g c:A1):C prog Bool:=.of Z call201 func201 [aP4 g,.el (B3 c)] (fun r=>.t (tB r)) (
 .R (g.u0==c.u0))
def am3 (e2:o6)(l:List A1)(i:Int)(_:Unit):M prog Bool (Fl Unit Bool):=
 .O (.ix B3 l i) fun x=>.K (X1 e2 x) fun v=>.Z (.fb 6)<| .G (!v) (.R true) (.U (.sF B3 l 0 i) fun l2=>.K (F2 l2 (.of (fun z_=>ae4 z_ x) 201 [B3 x])) fun v2=>.R v2) fun b2=>.I b2 (.R (.ret false)) (.R (.next ()))
def ab1 (e2:o6)(l:List A1):C prog Bool:=.of Z call114 func114 [at9 e2,.t (tS B3 l)] (fun r=>.t (tB r)) (
 M.QN (l.length:Int) 2 9 (fun(_:Unit)=>[]) 0 (.one .rt) (am3 e2 l) () (fun _=>.R true) (fun r2=>.R r2))
def O9 (s:List A3)(f2:Cl prog A3 Bool (fun x=>[bd7 x]) (fun r=>.t (tB r)))(i:Int)(_:Unit):M prog Int (Fl Unit Int):=
 .O (.ix I3 s i) fun x=>.K (f2.at x) fun v=>.I v (.R (.ret i)) (.R (.next ()))
def C2 (s:List A3)(f2:Cl prog A3 Bool (fun x=>[bd7 x]) (fun r=>.t (tB r))):C prog Int:=.of Z call202 func202 [.t (tS I3 s),.fz f2.n f2.cs] (fun r=>.t (tI r)) (
 M.QN (s.length:Int) 2 8 (fun(_:Unit)=>[]) 0 (.one .rt) (O9 s f2) () (fun _=>.R (-1)) (fun r2=>.R r2))
def O8 (s:List A3)(f2:Cl prog A3 Bool (fun x=>[bd7 x]) (fun r=>.t (tB r))):C prog Bool:=.of Z call115 func115 [.t (tS I3 s),.fz f2.n f2.cs] (fun r=>.t (tB r)) (
 .K (C2 s f2) fun v=>.R (decide (v>=0)))
def av9 (s:c8)(j:A3):C prog Bool:=.of Z call117 func117 [R8 s,bd7 j] (fun r=>.t (tB r)) (
 .R (((((((((((decide (j.Event.u0>=1))&&(decide (j.Event.u0<=(s.p6.u6.length:Int))))&&(decide (j.Event.Kind>=1)))&&(decide (j.Event.Kind<=4)))&&(decide (j.Event.H2>=0)))&&(decide (j.Event.H2<46080)))&&(decide (j.Event.ai8>=0)))&&(decide (j.Event.ai8<=2)))&&(decide (j.Left>=(-1048576))))&&(decide (j.Left<=1048576)))&&(j.D9||(j.At==0))))
def X9 (j:A3)(c:c8):C prog Bool:=.of Z call116 func116 [bd7 j,.el (bf1 c)] (fun r=>.t (tB r)) (
 .K (av9 c j) fun v=>.R (!v))
def H4 (x:B6):C prog Int:=.of Z call203 func203 [aX5 x] (fun r=>.t (tI r)) (
 .I ((x.Kind==3)||(x.Kind==4)) (.R (o4 ((o4 (2*(o4 (x.u0-1))))+1))) (.R (o4 (2*(o4 (x.u0-1))))))
def ar0 (kind:Int):C prog Bool:=.of Z call204 func204 [.t (tI kind)] (fun r=>.t (tB r)) (
 .R ((kind==1)||(kind==3)))
def Y2 (s:c8)(c:Int)(x:j7)(_:Int)(x2:A3)(s2:Bool×Bool):M prog Bool (Fl (Bool×Bool) Bool):=
 .W (.hx 0)<| .K (H4 x2.Event) fun v=>.I (v !=c) (.R (.next (s2.1,s2.2))) (.K (ar0 x2.Event.Kind) fun v2=>.I (v2==s2.1) (.R (.ret false)) (.J 0 (fun(_:Unit)=>[.x 25,.x 30,.x 31]) (.one .rt) (.I s2.2 (.I ((!(x2.D9==x.D9))||(x2.D9&&((x2.At !=x.At)||(!(x.Next==(!s2.1)))))) (.R (.inr false)) (.R (.inl ()))) (.I (x2.D9||s.Cut) (.R (.inr false)) (.R (.inl ())))) (fun _=>.I (s.Cut&&(((x2.Event.Kind !=2)||(!x2.D9))||(decide (x2.At>(o4 (s.j4.Q7+5000)))))) (.R (.ret false)) (.R (.next ((!s2.1),false)))) (fun r2=>.R (.ret r2))))
def aq9 (s:c8)(c:Int):C prog Bool:=.of Z call118 func118 [R8 s,.t (tI c)] (fun r=>.t (tB r)) (
 .O (.ix E8 s.j4.j1 c) fun x=>M.Q I3 s.D1 2 21 (fun(t:Bool×Bool)=>[.t 6 (.t (tB t.1)),.t 7 (.t (tB t.2)),.x 10,.x 11,.x 16,.x 18]) 0 (.one .rt) (Y2 s c x) (x.E3,true) (fun s4=>.R ((!s4.1)&&(!(s4.2&&x.D9)))) (fun r3=>.R r3))
def am2 (s:c8)(i:Int)(_:Unit):M prog Bool (Fl Unit Bool):=
 .K (aq9 s i) fun v6=>.I (!v6) (.R (.ret false)) (.R (.next ()))
def J9 (s:c8):C prog Bool:=.of Z call66 func66 [R8 s] (fun r=>.t (tB r)) (
 .K (O7 s.p6) fun v=>.G (!v) (.R true) (.K (ai9 s.B1) fun v2=>.R (!v2)) fun b2=>.G b2 (.R true) (.K (an9 s.j4) fun v3=>.R (!v3)) fun b3=>.G (b3||((s.j4.j1.length:Int) !=(o4 (2*(s.p6.u6.length:Int))))) (.R true) (.K (ab1 s.p6 s.Next) fun v4=>.R (!v4)) fun b4=>.I b4 (.R false) (.Z (.fb 1)<| .G ((decide ((s.D1.length:Int)>200))||((!s.B1.V7)&&(decide ((s.D1.length:Int)>0)))) (.R true) (.K (O8 s.D1 (.of (fun z_=>X9 z_ s) 116 [bf1 s])) fun v5=>.R v5) fun b5=>.I b5 (.R false) (M.QN (s.j4.j1.length:Int) 2 66 (fun(_:Unit)=>[]) 0 (.one .rt) (am2 s) () (fun _=>.R true) (fun r2=>.R r2))))
def ax6 (p2:U2):C prog Bool:=.of Z call119 func119 [ch8 p2] (fun r=>.t (tB r)) (
 .J0 0 (fun(t:Int)=>[.t 3 (.t (tI t)),.x 4]) (.I p2.aQ5 (.R 200) (.R 1000)) fun most=>.R (((((decide (p2.Value>=0))&&(decide (p2.Value<=most)))&&(decide (p2.af1>=0)))&&(decide (p2.af1<=3)))&&(p2.aQ5==(p2.af1==3))))
def R9 (x low high:Int):C prog Bool:=.of Z call205 func205 [.t (tI x),.t (tI low),.t (tI high)] (fun r=>.t (tB r)) (
 .R ((decide (x>=low))&&(decide (x<=high))))
def ai4 (s:List aa7)(f2:Cl prog aa7 Bool (fun x=>[bW0 x]) (fun r=>.t (tB r)))(i:Int)(_:Unit):M prog Int (Fl Unit Int):=
 .O (.ix an3 s i) fun x=>.K (f2.at x) fun v=>.I v (.R (.ret i)) (.R (.next ()))
def aa2 (s:List aa7)(f2:Cl prog aa7 Bool (fun x=>[bW0 x]) (fun r=>.t (tB r))):C prog Int:=.of Z call285 func285 [.t (tS an3 s),.fz f2.n f2.cs] (fun r=>.t (tI r)) (
 M.QN (s.length:Int) 2 8 (fun(_:Unit)=>[]) 0 (.one .rt) (ai4 s f2) () (fun _=>.R (-1)) (fun r2=>.R r2))
def Q9 (s:List aa7)(f2:Cl prog aa7 Bool (fun x=>[bW0 x]) (fun r=>.t (tB r))):C prog Bool:=.of Z call206 func206 [.t (tS an3 s),.fz f2.n f2.cs] (fun r=>.t (tB r)) (
 .K (aa2 s f2) fun v=>.R (decide (v>=0)))
def ab0 (c:aa7):C prog Bool:=.of Z call207 func207 [bW0 c] (fun r=>.t (tB r)) (
 .K (R9 c.Value (-100) 100) fun v=>.G (!v) (.R true) (.K (R9 c.E5 0 1000) fun v2=>.R (!v2)) fun b2=>.R b2)
def ac1 (p2:M8):C prog Bool:=.of Z call120 func120 [bs3 p2] (fun r=>.t (tB r)) (
 .K (R9 p2.aj8 750 1250) fun v=>.G (!v) (.R true) (.K (R9 p2.be1 0 1000) fun v2=>.R (!v2)) fun b2=>.I (b2||((p2.Cells.length:Int) !=9)) (.R false) (.I ((!p2.as8)&&(((p2.aj8 !=1000)||(p2.be1 !=0))||p2.be0)) (.R false) (.K (Q9 p2.Cells (.of (fun z_=>ab0 z_) 207 [])) fun v3=>.R (!v3))))
def ag6 (s:List B8)(f2:Cl prog B8 Bool (fun x=>[aX6 x]) (fun r=>.t (tB r)))(i:Int)(_:Unit):M prog Int (Fl Unit Int):=
 .O (.ix I6 s i) fun x=>.K (f2.at x) fun v=>.I v (.R (.ret i)) (.R (.next ()))
def X5 (s:List B8)(f2:Cl prog B8 Bool (fun x=>[aX6 x]) (fun r=>.t (tB r))):C prog Int:=.of Z call208 func208 [.t (tS I6 s),.fz f2.n f2.cs] (fun r=>.t (tI r)) (
 M.QN (s.length:Int) 2 8 (fun(_:Unit)=>[]) 0 (.one .rt) (ag6 s f2) () (fun _=>.R (-1)) (fun r2=>.R r2))
def J3 (s:List B8)(f2:Cl prog B8 Bool (fun x=>[aX6 x]) (fun r=>.t (tB r))):C prog Bool:=.of Z call121 func121 [.t (tS I6 s),.fz f2.n f2.cs] (fun r=>.t (tB r)) (
 .K (X5 s f2) fun v=>.R (decide (v>=0)))
def ah2 (n2:Int):C prog Bool:=.of Z call209 func209 [.t (tI n2)] (fun r=>.t (tB r)) (
 .R ((decide (n2>=0))&&(decide (n2<=4095))))
def ax1 (k:B8):C prog Bool:=.of Z call123 func123 [aX6 k] (fun r=>.t (tB r)) (
 .G ((decide (k.as9>=0))&&(decide (k.as9<=960))) (.K (ah2 k.aI2) fun v=>.R v) (.R false) fun b2=>.R ((b2&&(decide (k.Quiet>=0)))&&(decide (k.Quiet<100))))
def ak2 (k:B8):C prog Bool:=.of Z call122 func122 [aX6 k] (fun r=>.t (tB r)) (
 .K (ax1 k) fun v=>.R (!v))
def ap8 (e2:o6)(c:A7):C prog Bool:=.of Z call67 func67 [at9 e2,aQ4 c] (fun r=>.t (tB r)) (
 .K (O7 e2) fun v=>.G (!v) (.R true) (.K (ax6 c.I7) fun v2=>.R (!v2)) fun b2=>.G b2 (.R true) (.K (ac1 c.Q1) fun v3=>.R (!v3)) fun b3=>.I (b3||((c.aa6.length:Int) !=(e2.u6.length:Int))) (.R false) (.K (J3 c.aa6 (.of (fun z_=>ak2 z_) 122 [])) fun v4=>.I v4 (.R false) (.K (J6 c.ae6.Sum (-4398046511104) 4398046511104) fun v5=>.G v5 (.K (J6 c.P0 0 1073741824) fun v6=>.R v6) (.R false) fun b4=>.G b4 (.K (J6 c.af2.p7 (-5000) 10000) fun v7=>.R v7) (.R false) fun b5=>.G b5 (.K (J6 c.af2.N4 (-1) 15) fun v8=>.R v8) (.R false) fun b6=>.R b6)))
def aV9 (t2:Int):C prog Bool:=.of Z call124 func124 [.t (tI t2)] (fun r=>.t (tB r)) (
 .R ((decide (t2>=0))&&(decide (t2<=1099511627776))))
def aH2 (f2:X8):C prog Bool:=.of Z call68 func68 [bc1 f2] (fun r=>.t (tB r)) (
 .K (aV9 f2.H0) fun v=>.G v (.K (aV9 f2.F9) fun v2=>.R v2) (.R false) fun b2=>.R ((b2&&(decide (f2.F9<=f2.H0)))&&(f2.Seen||((f2.H0==0)&&(f2.F9==0)))))
def aL5 (w:aI7):C prog Bool:=.of Z call125 func125 [aC2 w] (fun r=>.t (tB r)) (
 .G (((((w.aP6==1)||(w.aP6==2))&&(decide (w.aw3>=12)))&&(decide (w.aw3<=120)))&&(decide (w.aw3>=(o4 (8*w.aP6))))) (.O (.rem 23040 w.aw3) fun q=>.R (q==0)) (.R false) fun b2=>.R b2)
def bg4 (t2:Int):C prog Bool:=.of Z call126 func126 [.t (tI t2)] (fun r=>.t (tB r)) (
 .R ((decide (t2>=0))&&(decide (t2<=1099511627776))))
def aT1 (w:aI7):C prog Int:=.of Z call127 func127 [aC2 w] (fun r=>.t (tI r)) (
 .K (aL5 w) fun v=>.I (!v) (.R 0) (.R (o4 (w.aw3-w.aP6))))
def bw2 (w:aI7)(s:Y9):C prog Bool:=.of Z call69 func69 [aC2 w,aP5 s] (fun r=>.t (tB r)) (
 .K (aL5 w) fun v=>.I (!v) (.R false) (.I (s.Mode==0) (.W .eq<| .R ((s.Mode==0)&&((s.ay6==0)&&((s.H0==0)&&((s.F9==0)&&((s.N9==0)&&((s.aw3==0)&&true))))))) (.I (s.Mode==1) (.G (s.ay6 !=0) (.R true) (.K (bg4 s.H0) fun v2=>.R (!v2)) fun b2=>.I b2 (.R false) (.I (s.aw3==0) (.R ((s.F9==0)&&(s.N9==0))) (.R (((((s.aw3==1)||(s.aw3==2))&&(decide (s.F9>=1)))&&(decide (s.F9<=s.H0)))&&(s.N9==s.F9))))) (.I (s.Mode==2) (.J0 1 (fun(t:Bool)=>[.t 4 (.t (tB t)),.x 2,.x 3,.x 8,.d 2,.d 3]) (.D [] []<| .Sp (decide (s.ay6>=0)) (.K (aT1 w) fun v3=>.Sp (decide (s.ay6<v3)) (.K (bg4 s.H0) fun v4=>.Sp v4 (.Sp (decide (s.F9>=1)) (.Sp (decide (s.F9<=s.H0)) (.Sp (decide (s.N9>=1)) (.R ((decide (s.N9<=s.F9))&&(s.aw3==0))) (.R false)) (.Sp false .N (.R false))) (.Sp false .N (.Sp false .N (.R false)))) (.Sp false .N (.Sp false .N (.Sp false .N (.R false))))) (.Sp false .N (.Sp false .N (.Sp false .N (.Sp false .N (.R false)))))) (.Sp false .N (.Sp false .N (.Sp false .N (.Sp false .N (.Sp false .N (.R false))))))) fun v5=>.R v5) (.R false)))))
def br7:C prog aI7:=.of Z call70 func70 [] (fun r=>aC2 r) (
 .R (⟨60,2⟩:aI7))
def F6 (x y:Int):C prog Int:=.of Z call210 func210 [.t (tI x),.t (tI y)] (fun r=>.t (tI r)) (
 .K (cmp_isNaN_int x) fun v=>.K (cmp_isNaN_int y) fun v2=>.I v (.I v2 (.R 0) (.R (-1))) (.I v2 (.R 1) (.I (decide (x<y)) (.R (-1)) (.I (decide (x>y)) (.R 1) (.R 0)))))
def cG0 (_ x:Int)(s:Int×Int):M prog (Int×Int) (Fl (Int×Int) Empty):=
 .W (.hx 0)<| .I (decide (x<23040)) (.R (.next (o4 (s.1+1),s.2))) (.R (.next (s.1,o4 (s.2+1))))
def cq6 (c:ci3):C prog (Int×Int):=.of Z call211 func211 [bO0 c] (fun r=>.P9 [.t (tI r.1),.t (tI r.2)]) (
 M.Q aN3 c.bx7 2 9 (fun(t:Int×Int)=>[.t 2 (.t (tI t.1)),.t 3 (.t (tI t.2)),.x 1,.x 6,.d 1]) 0 (.e) (cG0) (0,0) (fun s2=>.R (s2.1,s2.2)) (fun t=>t.elim))
def cq5 (c:ci3)(i:Int)(_:Unit):M prog Bool (Fl Unit Bool):=
 .O (.ix aN3 c.bx7 i) fun x=>.G ((((decide (x<0))||(decide (x>=46080)))||(decide ((ep0 x 23040)<1920)))||(decide ((ep0 x 23040)>21120))) (.R true) (.G (decide (i>0)) (.O (.ix aN3 c.bx7 (o4 (i-1))) fun x2=>.R (decide ((o4 (x-x2))<1920))) (.R false) fun b3=>.R b3) fun b4=>.I b4 (.R (.ret false)) (.R (.next ()))
def aT2 (c:ci3):C prog Bool:=.of Z call128 func128 [bO0 c] (fun r=>.t (tB r)) (
 .G ((decide ((c.bx7.length:Int)<1))||(decide ((c.bx7.length:Int)>8))) (.R true) (.K (H9 c.bx7 (.of (fun z_=>F6 z_.1 z_.2) 210 [])) fun v=>.R (!v)) fun b2=>.I b2 (.R false) (M.QN (c.bx7.length:Int) 2 26 (fun(_:Unit)=>[.x 7,.x 23]) 0 (.one .rt) (cq5 c) () (fun _=>.K (cq6 c) fun r2=>.R (r2.1 !=r2.2)) (fun r3=>.R r3)))
def bT3 (p2:aa8):C prog Bool:=.of Z call129 func129 [aX7 p2] (fun r=>.t (tB r)) (
 .I ((((decide (p2.E5<0))||(decide (p2.E5>16)))||(decide (p2.bF9<0)))||(decide (p2.bF9>1))) (.R false) (.I ((!p2.Seen)&&((p2.E5 !=0)||p2.aY0)) (.R false) (.R (p2.aY0||(p2.bF9==0)))))
def bn3 (c:ci3)(p2:aa8):C prog Bool:=.of Z call71 func71 [bO0 c,aX7 p2] (fun r=>.t (tB r)) (
 .K (aT2 c) fun v=>.G v (.K (bT3 p2) fun v2=>.R v2) (.R false) fun b2=>.R b2)
def bD6:C prog ci3:=.of Z call72 func72 [] (fun r=>bO0 r) (
 .R (⟨([5000,12000,30000]:List Int)⟩:ci3))
def N0 (x low high:Int):C prog Bool:=.of Z call130 func130 [.t (tI x),.t (tI low),.t (tI high)] (fun r=>.t (tB r)) (
 .R ((decide (x>=low))&&(decide (x<=high))))
def aY6 (g:ah6):C prog Bool:=.of Z call73 func73 [bl4 g] (fun r=>.t (tB r)) (
 .K (N0 g.Over 0 5) fun v=>.G v (.K (N0 g.Calm 0 1000) fun v2=>.R v2) (.R false) fun b2=>.R ((b2&&((g.Over==0)||(g.Calm==0)))&&(g.Off||(decide (g.Over<5)))))
def br3 (t2:Int):C prog Bool:=.of Z call131 func131 [.t (tI t2)] (fun r=>.t (tB r)) (
 .R ((decide (t2>=0))&&(decide (t2<=1099511627776))))
def bj5 (q:ac8):C prog Bool:=.of Z call74 func74 [aT4 q] (fun r=>.t (tB r)) (
 .K (aY8 q.Question) fun v=>.G v (.K (br3 q.ar9) fun v2=>.R v2) (.R false) fun b2=>.R (((((b2&&(q.Open||(q.ar9==0)))&&(decide (q.T3>=0)))&&(decide (q.T3<=7)))&&(q.Off==(q.T3==7)))&&(!(q.Open&&q.Off))))
def bL0 (t2:Int):C prog Bool:=.of Z call132 func132 [.t (tI t2)] (fun r=>.t (tB r)) (
 .R ((decide (t2>=0))&&(decide (t2<=1099511627776))))
def bn6 (s:ao4):C prog Bool:=.of Z call75 func75 [bl5 s] (fun r=>.t (tB r)) (
 .G (((decide (s.bs4>=0))&&(decide (s.bs4<=3)))&&(s.K7==(s.bs4==0))) (.K (bL0 s.aQ6) fun v=>.R v) (.R false) fun b2=>.R b2)
def bW5 (u:af3):C prog Bool:=.of Z call36 func36 [ca9 u] (fun r=>.t (tB r)) (
 .J0 1 (fun(t:Bool)=>[.t 49 (.t (tB t))]) (.D [] []<| .K (ab9 u.u9) fun v=>.Sp (!v) (.Sp true (.Sp true (.Sp true (.Sp true (.Sp true (.R true) .N) .N) .N) .N) .N) (.K (bv3 u.Y4 u.A6) fun v2=>.Sp (!v2) (.Sp true (.Sp true (.Sp true (.Sp true (.R true) .N) .N) .N) .N) (.K (J9 u.j3) fun v3=>.Sp (!v3) (.Sp true (.Sp true (.Sp true (.R true) .N) .N) .N) (.K (ap8 u.j3.p6 u.u5) fun v4=>.Sp (!v4) (.Sp true (.Sp true (.R true) .N) .N) (.K (aH2 u.H8) fun v5=>.Sp (!v5) (.Sp true (.R true) .N) (.K (br7) fun v6=>.K (bw2 v6 u.Q2) fun v7=>.Sp (!v7) (.R true) (.K (bD6) fun v8=>.K (bn3 v8 u.M7) fun v9=>.R (!v9)))))))) fun v10=>.I v10 (.R false) (.K (aY6 u.M1) fun v11=>.G (!v11) (.R true) (.K (bj5 u.K3) fun v12=>.R (!v12)) fun b2=>.G b2 (.R true) (.K (bn6 u.J1) fun v13=>.R (!v13)) fun b3=>.G b3 (.R true) (.K (Z3 u.I0) fun v14=>.R (!v14)) fun b4=>.I ((b4||(decide ((u.I0.L.length:Int)<7)))||(!u.I0.ax8)) (.R false) (.R (((((decide (u.Time>=0))&&(decide (u.Time<=549755813888)))&&((ep0 u.Time 10000)==0))&&(u.j3.j4.Q7==u.Time))&&(decide ((G7 (G7 (G7 u.H8.H0 u.Q2.H0) u.J1.aQ6) u.K3.ar9)<=u.Time))))))
def aS8 (s:List ah5)(f2:Cl prog ah5 Bool (fun x=>[bN9 x]) (fun r=>.t (tB r)))(i:Int)(_:Unit):M prog Int (Fl Unit Int):=
 .O (.ix aH7 s i) fun x=>.K (f2.at x) fun v=>.I v (.R (.ret i)) (.R (.next ()))
def bc9 (s:List ah5)(f2:Cl prog ah5 Bool (fun x=>[bN9 x]) (fun r=>.t (tB r))):C prog Int:=.of Z call133 func133 [.t (tS aH7 s),.fz f2.n f2.cs] (fun r=>.t (tI r)) (
 M.QN (s.length:Int) 2 8 (fun(_:Unit)=>[]) 0 (.one .rt) (aS8 s f2) () (fun _=>.R (-1)) (fun r2=>.R r2))
def aE0 (s:List ah5)(f2:Cl prog ah5 Bool (fun x=>[bN9 x]) (fun r=>.t (tB r))):C prog Bool:=.of Z call76 func76 [.t (tS aH7 s),.fz f2.n f2.cs] (fun r=>.t (tB r)) (
 .K (bc9 s f2) fun v=>.R (decide (v>=0)))
def cl6 (b2:ah5):C prog Bool:=.of Z call77 func77 [bN9 b2] (fun r=>.t (tB r)) (
 .R ((((((((decide (b2.cW1<0))||(decide (b2.cW1>1099511627776)))||(decide (b2.To<0)))||(decide (b2.To>1099511627776)))||(decide (b2.ba9<0)))||(decide (b2.ba9>7)))||(decide (b2.Value<(-1000000))))||(decide (b2.Value>1000000))))
def bI6 (k:List ah5):C prog Bool:=.of Z call37 func37 [.t (tS aH7 k)] (fun r=>.t (tB r)) (
 .G (decide ((k.length:Int)<=100)) (.K (aE0 k (.of (fun z_=>cl6 z_) 77 [])) fun v=>.R (!v)) (.R false) fun b2=>.R b2)
def bZ9 (d:N1):C prog (Int×Int×Int×Int×Int):=.of Z call34 func34 [bd6 d] (fun r=>dD2 r) (
 .R (d.At,d.I7,d.bl6,d.bO1,d.bO2))
def cz7:C prog (I9×I9×I9×I9×I9):=.of Z call35 func35 [] (fun r=>cb0 r) (
 .R ((⟨(ByteArray.mk #[97,116]),0,1099511627776⟩:I9),(⟨(ByteArray.mk #[112,101,100,97,108]),0,1000⟩:I9),(⟨(ByteArray.mk #[98,114,97,107,101]),0,1000⟩:I9),(⟨(ByteArray.mk #[103,101,97,114]),0,6⟩:I9),(⟨(ByteArray.mk #[108,111,97,100]),(-500),2000⟩:I9)))
def aw5 (v2:(Int×Int×Int×Int×Int))(v3:(I9×I9×I9×I9×I9))(v4:Int):M prog Bool (Int⊕(Int⊕Bool)):=
 .I (decide (v4<5)) (.O (.arr (fun y=>.agg [.t (.v (.string y.word)),.t (tI y.low),.t (tI y.high)]) ([v3.1,v3.2.1,v3.2.2.1,v3.2.2.2.1,v3.2.2.2.2]:List I9) v4) fun x4=>.J0 1 (fun(t:Bool)=>[.t 63 (.t (tB t)),.x 7,.d 7]) (.D [] []<| .O (.ax aN3 ([v2.1,v2.2.1,v2.2.2.1,v2.2.2.2.1,v2.2.2.2.2]:List Int) v4) fun x5=>.Sp (decide (x5<x4.low)) (.R true) (.O (.ax aN3 ([v2.1,v2.2.1,v2.2.2.1,v2.2.2.2.1,v2.2.2.2.2]:List Int) v4) fun x6=>.R (decide (x6>x4.high)))) fun v5=>.I v5 (.R (.inr (.inr false))) (.R (.inl (o4 (v4+1))))) (.R (.inr (.inl v4)))
def aR2 (l:List N1)(i:Int)(_:Unit):M prog Bool (Fl Unit Bool):=
 .O (.ix am1 l i) fun x2=>.J0 1 (fun(t:Bool)=>[.t 42 (.t (tB t))]) (.D [] []<| .Sp (decide (i>0)) (.O (.ix am1 l (o4 (i-1))) fun x3=>.R (decide (x2.At<=x3.At))) (.R false)) fun v=>.I v (.R (.ret false)) (.K (bZ9 x2) fun v2=>.K (cz7) fun v3=>.Z (.fb 5)<| .L (fun(t:Int)=>[.t 46 (.t (tI t)),.x 4,.d 4]) 2 (.one .rt) (aw5 v2 v3) 0 (fun _=>.R (.next ())) (fun r2=>.R (.ret r2)))
def aA2 (l:List N1):C prog Bool:=.of Z call10 func10 [.t (tS am1 l)] (fun r=>.t (tB r)) (
 .G ((decide ((l.length:Int)<1))||(decide ((l.length:Int)>200))) (.R true) (.O (.ix am1 l 0) fun x=>.R (x.At !=0)) fun b2=>.I b2 (.R false) (M.QN (l.length:Int) 2 25 (fun(_:Unit)=>[]) 0 (.one .rt) (aR2 l) () (fun _=>.R true) (fun r3=>.R r3)))
def cu8 (d:N1):C prog Bool:=.of Z call41 func41 [bd6 d] (fun r=>.t (tB r)) (
 .G ((decide (d.At>=0))&&(decide (d.At<=1099511627776))) (.K (aA2 ([({d with At:=0}:N1)]:List N1)) fun v=>.R v) (.R false) fun b2=>.R b2)
def cf5 (o9:Int):C prog (Int×Int):=.of Z call79 func79 [.t (tI o9)] (fun r=>.P9 [.t (tI r.1),.t (tI r.2)]) (
 .I ((decide (o9<0))||(decide (o9>524288))) (.R (0,2)) (.R (o4 (da1 (o4 (o9*60000000)) 1509949440),0)))
def aD0 (s:j9)(bp4 _:Int)(x:ah5)(_:Unit):M prog (Int×Bool) (Fl Unit (Int×Bool)):=
 .W (.hx 0)<| .J0 1 (fun(t:Bool)=>[.t 38 (.t (tB t))]) (.D [] []<| .Sp (x.ba9==bp4) (.Sp (decide (x.cW1<=s.t)) (.R (decide (s.t<x.To))) (.R false)) (.Sp false .N (.R false))) fun v=>.I v (.R (.ret (x.Value,true))) (.R (.next ()))
def aa9 (s:j9)(bp4:Int):C prog (Int×Bool):=.of Z call154 func154 [.el (bk7 s),.t (tI bp4)] (fun r=>.P9 [.t (tI r.1),.t (tB r.2)]) (
 M.Q aH7 s.k 2 13 (fun(_:Unit)=>[]) 0 (.one .rt) (aD0 s bp4) () (fun _=>.R (0,false)) (fun r2=>.R r2))
def bK1 (p2:Y6):C prog Int:=.of Z call213 func213 [aX8 p2] (fun r=>.t (tI r)) (
 .I ((p2.Path.length:Int)==0) (.R 1000) (.O (.ix aN3 p2.Path 0) fun x=>.R x))
def D5 (s:j9)(bp4:Int):C prog Int:=.of Z call137 func137 [.el (bk7 s),.t (tI bp4)] (fun r=>.t (tI r)) (
 .K (aa9 s bp4) fun r2=>.I r2.2 (.R r2.1) (.I (bp4==0) (.R s.d.I7) (.I (bp4==1) (.R (o4 (da1 s.d.I7 2))) (.I (bp4==2) (.R s.u.A6.L3) (.I (bp4==3) (.R 20) (.I (bp4==4) (.R (F5 (o4 (20+(o4 (da1 s.t 1000000)))) 90)) (.K (bK1 s.u.A6) fun v=>.I (decide (v<1000)) (.R 800) (.R 100))))))))
def C6 (x low high:Int):C prog Int:=.of Z call144 func144 [.t (tI x),.t (tI low),.t (tI high)] (fun r=>.t (tI r)) (
 .R (F5 (G7 x low) high))
def bm7 (x low high:Int):C prog Bool:=.of Z call212 func212 [.t (tI x),.t (tI low),.t (tI high)] (fun r=>.t (tB r)) (
 .R ((decide (x<low))||(decide (x>high))))
def aU0 (s:j9):C prog (Bool×Bool×Bool×Bool×Bool×Bool×Bool):=.of Z call136 func136 [.el (bk7 s)] (fun r=>dp4 r) (
 .K (D5 s 0) fun v=>.K (C6 v 0 1000) fun v2=>.K (D5 s 1) fun v3=>.K (C6 v3 0 500) fun v4=>.D [] []<| .K (D5 s 2) fun v5=>.K (bm7 v5 50 1013) fun v6=>.K (D5 s 3) fun v7=>.K (bm7 v7 (-40) 150) fun v8=>.K (D5 s 4) fun v9=>.K (bm7 v9 (-40) 150) fun v10=>.K (D5 s 5) fun v11=>.K (bm7 v11 50 900) fun v12=>.R (decide ((G7 (o4 (v2-(o4 (2*v4)))) (o4 ((o4 (2*v4))-v2)))>50),v6,v8,v10,v12,s.u.M1.Off,s.u.K3.Off))
def bM2 (old:B7):C prog B7:=.of Z call138 func138 [aA9 old] (fun r=>.fz 214 [aR3 r]) (
 .Z (.fb 1)<| .R old)
def aF6 (l:List A5)(i:Int)(c:z8)(E6:Int)(frame:List Int):CG prog (List A5):=.of Z call215 func215 [.pe 1000000 (Int.toNat i) 7 0,aO5 c,.t (tI E6),.t (tS aN3 frame)] [(1000000,.rs 174 7 l G1)] (fun _=>.P9 []) (fun r=>[(1000000,.rs 174 7 r G1)]) [] (
 .A G1 l i fun x2=>.W (.ly 0)<| .K (X2 x2 1) fun v=>.J0 0 (fun(t:List A5)=>[.x 8,.x 9,.b 1000000 (.rs 174 7 t G1)]) (.I (!v) (.W (.ly 0)<| .U (.st G1 l i ({x2 with A2:=F5 255 (o4 (x2.A2+1))}:A5) 0) fun l2=>.W (.ly 0)<| .K (X2 ({x2 with A2:=F5 255 (o4 (x2.A2+1))}:A5) 4) fun v2=>.I (!v2) (.K (O2 frame) fun v3=>.U (.st G1 l2 i ({x2 with A2:=F5 255 (o4 (x2.A2+1)),Frame:=v3}:A5) 0) fun l3=>.R l3) (.R l2)) (.R l)) fun f2=>.A G1 f2 i fun x3=>.W (.ly 0)<| .U (.st G1 f2 i ({x3 with G5:=U4 .i64 x3.G5 11}:A5) 0) fun l4=>.U (.st G1 l4 i ({x3 with G5:=U4 .i64 x3.G5 11,Clean:=0}:A5) 0) fun l5=>.W (.ly 0)<| .I (x3.H0==E6) (.R l5) (.U (.st G1 l5 i ({x3 with G5:=U4 .i64 x3.G5 11,Clean:=0,H0:=E6}:A5) 0) fun l6=>.W (.ly 0)<| .U (.st G1 l6 i (⟨U4 .i64 x3.G5 11,x3.E5,F5 2 (o4 (x3.J5+1)),0,x3.A2,x3.Frame,E6⟩:A5) 0) fun l7=>.W (.ly 0)<| .I (decide ((F5 2 (o4 (x3.J5+1)))<2)) (.R l7) (.W (.ly 0)<| .U (.st G1 l7 i (⟨U4 .i64 (U4 .i64 x3.G5 11) 4,x3.E5,F5 2 (o4 (x3.J5+1)),0,x3.A2,x3.Frame,E6⟩:A5) 0) fun l8=>.I c.cr6 (.W (.ly 0)<| .U (.st G1 l8 i (⟨U4 .i64 (U4 .i64 (U4 .i64 x3.G5 11) 4) 16,x3.E5,F5 2 (o4 (x3.J5+1)),0,x3.A2,x3.Frame,E6⟩:A5) 0) fun l9=>.R l9) (.R l8))))
def aq1 (f2:B7)(i:Int)(bad:Bool)(l:List Int):C prog (B7×Int):=.of Z call139 func139 [aA9 f2,.t (tI i),.t (tB bad),.t (tS aN3 l)] (fun r=>.P9 [aA9 r.1,.t (tI r.2)]) (
 .K (Z3 f2) fun v=>.I (!v) (.R ((⟨([]:List z8),([]:List A5),0,false⟩:B7),1)) (.I ((decide (i<0))||(decide (i>=(f2.L.length:Int)))) (.R ((⟨([]:List z8),([]:List A5),0,false⟩:B7),2)) (.I (!f2.ax8) (.R ((⟨([]:List z8),([]:List A5),0,false⟩:B7),6)) (.O (.ix M3 f2.T0 i) fun x=>.K (as3 x l) fun v2=>.I (!v2) (.R ((⟨([]:List z8),([]:List A5),0,false⟩:B7),1)) (.KG (al2 f2) [2352] fun v3=>.D [] []<| .O (.ix G1 v3.L i) fun x2=>.O (.ix M3 v3.T0 i) fun x3=>.J0 0 (fun(t:List A5)=>[.x 29,.x 34,.x 44,.x 45,.x 46,.x 48,.x 49,.b 2352 (.rs 174 7 t G1)]) (.I bad (.D [] []<| .W (.ly 1)<| .U (.st G1 v3.L i ({x2 with E5:=F5 x3.bh2 (o4 ((G7 x2.E5 0)+1))}:A5) 1) fun l2=>.R l2) (.D [] []<| .W (.ly 1)<| .U (.st G1 v3.L i ({x2 with E5:=G7 (o4 (0-x3.Pass)) (o4 ((F5 x2.E5 0)-1))}:A5) 1) fun l3=>.R l3)) fun f3=>.A G1 f3 i fun x4=>.W (.ly 0)<| .I (x4.E5==x3.bh2) (.KG (aF6 f3 i x3 v3.aI1 l) [] fun v4=>.R (({v3 with L:=v4}:B7),0)) (.I (x4.E5==(o4 (0-x3.Pass))) (.W (.ly 0)<| .U (.st G1 f3 i ({x4 with G5:=U4 .i64 x4.G5 8}:A5) 0) fun l4=>.W (.ly 0)<| .U (.st G1 l4 i ({x4 with G5:=aO6 .i64 (U4 .i64 x4.G5 8) 1}:A5) 0) fun l5=>.R (({v3 with L:=l5}:B7),0)) (.R (({v3 with L:=f3}:B7),0))))))))
def bA5:C prog (List S7):=.of Z call140 func140 [] (fun r=>.t (tS ac0 r)) (
 .Z (.fr 1)<| .Z (.fr 3)<| .Z (.fr 5)<| .Z (.fr 7)<| .Z (.fr 9)<| .Z (.fr 11)<| .Z (.fr 13)<| .R ([(⟨(ByteArray.mk #[108,105,109,112]),0,2,([0]:List Int),600⟩:S7),(⟨(ByteArray.mk #[100,114,111,112]),0,2,([1,4]:List Int),1500⟩:S7),(⟨(ByteArray.mk #[115,116,111,112]),0,9,([5,6]:List Int),0⟩:S7),(⟨(ByteArray.mk #[112,114,101,115,115,117,114,101]),1,0,([1]:List Int),500⟩:S7),(⟨(ByteArray.mk #[97,105,114]),2,0,([2]:List Int),40⟩:S7),(⟨(ByteArray.mk #[99,111,111,108,97,110,116]),3,0,([3]:List Int),90⟩:S7),(⟨(ByteArray.mk #[112,114,111,98,101]),4,0,([4]:List Int),450⟩:S7)]:List S7))
def cx1 (s:ByteArray)(i:Int)(_:Unit):M prog Bool (Fl Unit Bool):=
 .O (.str s i) fun b2=>.G (decide (b2<33)) (.R true) (.O (.str s i) fun b3=>.R (decide (b3>126))) fun b4=>.I b4 (.R (.ret false)) (.R (.next ()))
def cY3 (s:ByteArray):C prog Bool:=.of Z call339 func339 [.t (.v (.string s))] (fun r=>.t (tB r)) (
 .I ((decide ((s.size:Int)<1))||(decide ((s.size:Int)>24))) (.R false) (M.QN (s.size:Int) 2 14 (fun(_:Unit)=>[]) 0 (.one .rt) (cx1 s) () (fun _=>.R true) (fun r2=>.R r2)))
def co2 (r2:S7)(bu4 i:Int)(_:Unit):M prog Bool (Fl Unit Bool):=
 .O (.ix aN3 r2.af0 i) fun x=>.G ((decide (x<0))||(decide (x>=bu4))) (.R true) (.G (decide (i>0)) (.O (.ix aN3 r2.af0 (o4 (i-1))) fun x2=>.R (decide (x<=x2))) (.R false) fun b2=>.R b2) fun b3=>.I b3 (.R (.ret false)) (.R (.next ()))
def cS7 (r2:S7)(bu4:Int):C prog Bool:=.of Z call288 func288 [cy7 r2,.t (tI bu4)] (fun r=>.t (tB r)) (
 .K (cY3 r2.Name) fun v=>.I (((((((((!v)||(decide (r2.cZ2<0)))||(decide (r2.cZ2>15)))||(decide (r2.E7<0)))||(decide (r2.E7>15)))||(decide ((r2.af0.length:Int)<1)))||(decide ((r2.af0.length:Int)>16)))||(decide (r2.ci1<(-5000))))||(decide (r2.ci1>10000))) (.R false) (M.QN (r2.af0.length:Int) 2 56 (fun(_:Unit)=>[.x 7,.x 53]) 0 (.one .rt) (co2 r2 bu4) () (fun _=>.R true) (fun r3=>.R r3)))
def co1 (bu4 _:Int)(x:S7)(f2:List (ByteArray×Bool)):M prog Bool (Fl (List (ByteArray×Bool)) Bool):=
 .W (.hx 0)<| .K (cS7 x bu4) fun v=>.G (!v) (.R true) (.Ml eL7 f2 x.Name<| .R (cQ0 false f2 x.Name)) fun b2=>.I b2 (.R (.ret false)) (.Mu eL7 f2 x.Name true<| .R (.next (dm1 f2 x.Name true)))
def aJ7 (l:List S7)(bu4:Int):C prog Bool:=.of Z call219 func219 [.t (tS ac0 l),.t (tI bu4)] (fun r=>.t (tB r)) (
 .I (((decide (bu4<0))||(decide (bu4>64)))||(decide ((l.length:Int)>64))) (.R false) (.Mm 2152<|M.Q ac0 l 2 22 (fun(t:List (ByteArray×Bool))=>[.x 19,.b 2152 (.mp (List.map (ent (fun s:ByteArray=>.string s) (fun v:Bool=>.bool v)) t))]) 0 (.one .rt) (co1 bu4) ([]:List (ByteArray×Bool)) (fun _=>.R true) (fun r2=>.R r2)))
def bv8 (l:List S7)(f2:B7):C prog Bool:=.of Z call216 func216 [.t (tS ac0 l),aA9 f2] (fun r=>.t (tB r)) (
 .K (Z3 f2) fun v=>.G v (.K (aJ7 l (f2.L.length:Int)) fun v2=>.R v2) (.R false) fun b2=>.R b2)
def aD9 (holds:Cl prog Int Bool (fun x=>[.t (tI x)]) (fun r=>.t (tB r)))(_ x:Int)(out:List Int):M prog (List Int) (Fl (List Int) Empty):=
 .W (.hx 0)<| .K (holds.at x) fun v=>.I v (.U (.ap aN3 out ([x]:List Int) 2168) fun l=>.R (.next l)) (.R (.next out))
def aO4 (r2:S7)(holds:Cl prog Int Bool (fun x=>[.t (tI x)]) (fun r=>.t (tB r))):C prog (List Int):=.of Z call286 func286 [cy7 r2,.fz holds.n holds.cs] (fun r=>.t (tS aN3 r)) (
 .Z (.np 5 2168 3 1 [])<|M.Q aN3 r2.af0 2 11 (fun(t:List Int)=>[.t 5 (.own 2168),.x 2,.x 8,.b 2168 (.rs 3 1 t aN3),.d 2]) 0 (.e) (aD9 holds) ([]:List Int) (fun dm8=>.R dm8) (fun t=>t.elim))
def ay9 (l:List S7)(holds:Cl prog Int Bool (fun x=>[.t (tI x)]) (fun r=>.t (tB r)))(i:Int)(out:List W0):M prog (List W0) (Fl (List W0) Empty):=
 .O (.ix ac0 l i) fun x=>.K (aO4 x holds) fun v=>.I (decide ((v.length:Int)>0)) (.U (.ap an2 out ([(⟨i,v⟩:W0)]:List W0) 2216) fun l2=>.R (.next l2)) (.R (.next out))
def aJ8 (l:List S7)(holds:Cl prog Int Bool (fun x=>[.t (tI x)]) (fun r=>.t (tB r))):C prog (List W0):=.of Z call217 func217 [.t (tS ac0 l),.fz holds.n holds.cs] (fun r=>.t (tS an2 r)) (
 .Z (.np 5 2216 106 2 [])<|M.QN (l.length:Int) 2 11 (fun(t:List W0)=>[.t 5 (.own 2216),.b 2216 (.rs 106 2 t an2)]) 0 (.e) (ay9 l holds) ([]:List W0) (fun dm8=>.R dm8) (fun t=>t.elim))
def bp3 (f2:B7)(but:Int):C prog (Int×B7):=.of Z call218 func218 [aA9 f2,.t (tI but)] (fun r=>.fz 287 [aN3 r.1,aR3 r.2]) (
 .Z (.fb 3)<| .Z (.fb 2)<| .R (but,f2))
def aG4 (i c:Int)(c2:B7):C prog Bool:=.of Z call287 func287 [.t (tI i),.el (aN3 c),.el (aR3 c2)] (fun r=>.t (tB r)) (
 .G (i !=c) (.O (.ix G1 c2.L i) fun x=>.R ((ad3 .i64 x.G5 5) !=0)) (.R false) fun b2=>.R b2)
def aO3 (l:List S7)(f2:B7):C prog (List W0×Int):=.of Z call141 func141 [.t (tS ac0 l),aA9 f2] (fun r=>.P9 [.t (tS an2 r.1),.t (tI r.2)]) (
 .K (bv8 l f2) fun v=>.I (!v) (.R (([]:List W0),1)) (.K (bp3 f2 (-1)) fun v2=>.K (aJ8 l (.of (fun z_=>aG4 z_ v2.1 v2.2) 287 [aN3 v2.1,aR3 v2.2])) fun v3=>.R (v3,0)))
def aQ1 (s:List W0)(f2:Cl prog W0 Bool (fun x=>[bV9 x]) (fun r=>.t (tB r)))(i:Int)(_:Unit):M prog Int (Fl Unit Int):=
 .O (.ix an2 s i) fun x=>.K (f2.at x) fun v=>.I v (.R (.ret i)) (.R (.next ()))
def aZ0 (s:List W0)(f2:Cl prog W0 Bool (fun x=>[bV9 x]) (fun r=>.t (tB r))):C prog Int:=.of Z call40 func40 [.t (tS an2 s),.fz f2.n f2.cs] (fun r=>.t (tI r)) (
 M.QN (s.length:Int) 2 8 (fun(_:Unit)=>[]) 0 (.one .rt) (aQ1 s f2) () (fun _=>.R (-1)) (fun r2=>.R r2))
def az7 (s:List W0)(f2:Cl prog W0 Bool (fun x=>[bV9 x]) (fun r=>.t (tB r))):C prog Bool:=.of Z call14 func14 [.t (tS an2 s),.fz f2.n f2.cs] (fun r=>.t (tB r)) (
 .K (aZ0 s f2) fun v=>.R (decide (v>=0)))
def bj7 (x:W0)(c:List S7):C prog Bool:=.of Z call220 func220 [bV9 x,.el ((do7 ac0) c)] (fun r=>.t (tB r)) (
 .R ((decide (x.T4<0))||(decide (x.T4>=(c.length:Int)))))
def bg3 (l:List S7)(group _:Int)(x:W0)(s:Int×Int):M prog (Int×Int) (Fl (Int×Int) Empty):=
 .W (.hx 0)<| .O (.ix ac0 l x.T4) fun x2=>.I ((x2.cZ2 !=group)||(decide (x2.E7<s.2))) (.R (.next (s.1,s.2))) (.I (decide (x2.E7>s.2)) (.D [] []<| .R (.next (F5 x2.ci1 x2.ci1,x2.E7))) (.R (.next (F5 s.1 x2.ci1,s.2))))
def bv7 (l:List S7)(a:List W0)(group other:Int):C prog (Int×Int):=.of Z call143 func143 [.t (tS ac0 l),.t (tS an2 a),.t (tI group),.t (tI other)] (fun r=>.P9 [.t (tI r.1),.t (tI r.2)]) (
 .K (aJ7 l 64) fun v=>.Z (.fb 4)<| .G ((!v)||(decide ((a.length:Int)>64))) (.R true) (.K (az7 a (.of (fun z_=>bj7 z_ l) 220 [(do7 ac0) l])) fun v2=>.R v2) fun b2=>.I b2 (.R (0,1)) (.I ((decide (group<0))||(decide (group>15))) (.R (0,2)) (M.Q an2 a 2 37 (fun(t:Int×Int)=>[.t 10 (.t (tI t.1)),.t 11 (.t (tI t.2))]) 0 (.e) (bg3 l group) (other,(-1)) (fun s2=>.R (s2.1,0)) (fun t=>t.elim))))
def as1 (n2 other:Int)(c:List S7)(c2:j9):CG prog Int:=.of Z call142 func142 [.t (tI n2),.t (tI other),.el ((do7 ac0) c),.ptr 1000000 0] [(1000000,.box [.ptr 1000001 0]),(1000001,.box (av7 (G6 c2) [(107,.own 1000002),(113,.own 1000003)])),(1000002,.rs 267 7 c2.E9.O1 B3),(1000003,.rs 95 3 c2.y9 u4)] (fun r=>.t (tI r)) (fun _=>[(1000000,.box [.ptr 1000001 0]),(1000001,.box (av7 (G6 c2) [(107,.own 1000002),(113,.own 1000003)])),(1000002,.rs 267 7 c2.E9.O1 B3),(1000003,.rs 95 3 c2.y9 u4)]) [] (
 .D [] []<| .K (bv7 c c2.Y7 n2 other) fun r2=>.R r2.1)
set_option maxHeartbeats 4000000
def be8 (S0:B7)(e2:Int)(c:B7):C prog B7:=.of Z call214 func214 [aA9 S0,.t (tI e2),.el (aR3 c)] (fun r=>aA9 r) (
 .I (e2 !=0) (.R c) (.R S0))
def aU3 (s:j9)(v:(Bool×Bool×Bool×Bool×Bool×Bool×Bool))(s2:Int×B7):M prog j9 ((Int×B7)⊕((Int×B7)⊕Empty)):=
 .I (decide (s2.1<7)) (.O (.arr (fun y=>.t (tB y)) ([v.1,v.2.1,v.2.2.1,v.2.2.2.1,v.2.2.2.2.1,v.2.2.2.2.2.1,v.2.2.2.2.2.2]:List Bool) s2.1) fun x=>.O (.ix M3 s2.2.T0 s2.1) fun x2=>.Mk aN3 x2.Frame 0 fun l=>.D [] []<| .K (D5 ({s with u:=(⟨s.u.u9,s.u.u5,s.u.j3,s.u.Q2,s.u.M7,s.u.H8,s.u.M1,s.u.K3,s.u.J1,s2.2,s.u.A6,s.u.Y4,s.u.Time⟩:af3)}:j9) 2) fun v2=>.U (.cp aN3 l ([s.o9,v2]:List Int)) fun l2=>.Z (.fr 23)<| .D [] []<| .K (bM2 s2.2) fun v3=>.K (aq1 s2.2 s2.1 x l2) fun r2=>.K (be8 r2.1 r2.2 v3) fun v4=>.R (.inl (o4 (s2.1+1),v4))) (.R (.inr (.inl (s2.1,s2.2))))
def bk6 (s:j9):CG prog j9:=.of Z call80 func80 [.ptr 1000000 0] [(1000000,.box (av7 (G6 s) [(107,.own 1000001),(113,.own 1000002)])),(1000001,.rs 267 7 s.E9.O1 B3),(1000002,.rs 95 3 s.y9 u4)] (fun _=>.P9 []) (fun r=>[(1000000,.box (av7 (G6 r) [(107,.own 1000001),(113,.own 1000002)])),(1000001,.rs 267 7 r.E9.O1 B3),(1000002,.rs 95 3 r.y9 u4)]) [] (
 .K (aU0 s) fun v=>.L (fun(t:Int×B7)=>[.t 9 (.t (tI t.1)),.x 0,.x 7,.c 1000000 74 [.t (tS M3 t.2.T0),.t (tS G1 t.2.L),.t (tI t.2.aI1),.t (tB t.2.ax8)]]) 0 (.e) (aU3 s v) (0,s.u.I0) (fun s3=>.K (bA5) fun v5=>.D [] [(13,1000000)]<| .K (aO3 v5 s3.2) fun r3=>.Z (.fb 5)<| .D [] []<| .KG (as1 0 10000 v5 ({s with u:=(⟨s.u.u9,s.u.u5,s.u.j3,s.u.Q2,s.u.M7,s.u.H8,s.u.M1,s.u.K3,s.u.J1,s3.2,s.u.A6,s.u.Y4,s.u.Time⟩:af3),Y7:=r3.1}:j9)) [] fun v6=>.D [] []<| .K (D5 ({s with u:=(⟨s.u.u9,s.u.u5,s.u.j3,s.u.Q2,s.u.M7,s.u.H8,s.u.M1,s.u.K3,s.u.J1,s3.2,s.u.A6,s.u.Y4,s.u.Time⟩:af3),Y7:=r3.1,at8:=v6}:j9) 2) fun v7=>.KG (as1 1 v7 v5 ({s with u:=(⟨s.u.u9,s.u.u5,s.u.j3,s.u.Q2,s.u.M7,s.u.H8,s.u.M1,s.u.K3,s.u.J1,s3.2,s.u.A6,s.u.Y4,s.u.Time⟩:af3),Y7:=r3.1,at8:=v6}:j9)) [] fun v8=>.K (C6 v8 50 1013) fun v9=>.D [] []<| .K (D5 ({s with u:=(⟨s.u.u9,s.u.u5,s.u.j3,s.u.Q2,s.u.M7,s.u.H8,s.u.M1,s.u.K3,s.u.J1,s3.2,s.u.A6,s.u.Y4,s.u.Time⟩:af3),Y7:=r3.1,at8:=v6,C1:=v9}:j9) 3) fun v10=>.KG (as1 2 v10 v5 ({s with u:=(⟨s.u.u9,s.u.u5,s.u.j3,s.u.Q2,s.u.M7,s.u.H8,s.u.M1,s.u.K3,s.u.J1,s3.2,s.u.A6,s.u.Y4,s.u.Time⟩:af3),Y7:=r3.1,at8:=v6,C1:=v9}:j9)) [] fun v11=>.K (C6 v11 (-40) 150) fun v12=>.D [] []<| .K (D5 ({s with u:=(⟨s.u.u9,s.u.u5,s.u.j3,s.u.Q2,s.u.M7,s.u.H8,s.u.M1,s.u.K3,s.u.J1,s3.2,s.u.A6,s.u.Y4,s.u.Time⟩:af3),Y7:=r3.1,at8:=v6,C1:=v9,aQ3:=v12}:j9) 4) fun v13=>.KG (as1 3 v13 v5 ({s with u:=(⟨s.u.u9,s.u.u5,s.u.j3,s.u.Q2,s.u.M7,s.u.H8,s.u.M1,s.u.K3,s.u.J1,s3.2,s.u.A6,s.u.Y4,s.u.Time⟩:af3),Y7:=r3.1,at8:=v6,C1:=v9,aQ3:=v12}:j9)) [] fun v14=>.K (C6 v14 (-40) 150) fun v15=>.D [] []<| .K (D5 ({s with u:=(⟨s.u.u9,s.u.u5,s.u.j3,s.u.Q2,s.u.M7,s.u.H8,s.u.M1,s.u.K3,s.u.J1,s3.2,s.u.A6,s.u.Y4,s.u.Time⟩:af3),Y7:=r3.1,at8:=v6,C1:=v9,aQ3:=v12,D6:=v15}:j9) 5) fun v16=>.KG (as1 4 v16 v5 ({s with u:=(⟨s.u.u9,s.u.u5,s.u.j3,s.u.Q2,s.u.M7,s.u.H8,s.u.M1,s.u.K3,s.u.J1,s3.2,s.u.A6,s.u.Y4,s.u.Time⟩:af3),Y7:=r3.1,at8:=v6,C1:=v9,aQ3:=v12,D6:=v15}:j9)) [] fun v17=>.K (C6 v17 0 20000) fun v18=>.R ({s with u:=(⟨s.u.u9,s.u.u5,s.u.j3,s.u.Q2,s.u.M7,s.u.H8,s.u.M1,s.u.K3,s.u.J1,s3.2,s.u.A6,s.u.Y4,s.u.Time⟩:af3),Y7:=r3.1,at8:=v6,C1:=v9,aQ3:=v12,D6:=v15,aJ6:=v18}:j9)) (fun t=>t.elim))
def bi6 (s:j9):C prog j2:=.of Z call145 func145 [.el (bk7 s)] (fun r=>G8 r) (
 .R (⟨9,1,s.at8,15⟩:j2))
def ab3 (s:List j2)(f2:Cl prog j2 Bool (fun x=>[G8 x]) (fun r=>.t (tB r)))(i:Int)(_:Unit):M prog Int (Fl Unit Int):=
 .O (.ix C8 s i) fun x=>.K (f2.at x) fun v=>.I v (.R (.ret i)) (.R (.next ()))
def U6 (s:List j2)(f2:Cl prog j2 Bool (fun x=>[G8 x]) (fun r=>.t (tB r))):C prog Int:=.of Z call313 func313 [.t (tS C8 s),.fz f2.n f2.cs] (fun r=>.t (tI r)) (
 M.QN (s.length:Int) 2 8 (fun(_:Unit)=>[]) 0 (.one .rt) (ab3 s f2) () (fun _=>.R (-1)) (fun r2=>.R r2))
def D8 (s:List j2)(f2:Cl prog j2 Bool (fun x=>[G8 x]) (fun r=>.t (tB r))):C prog Bool:=.of Z call231 func231 [.t (tS C8 s),.fz f2.n f2.cs] (fun r=>.t (tB r)) (
 .K (U6 s f2) fun v=>.R (decide (v>=0)))
def P1 (t2:Int):C prog Bool:=.of Z call314 func314 [.t (tI t2)] (fun r=>.t (tB r)) (
 .R ((decide (t2>=(-5000)))&&(decide (t2<=10000))))
def S1 (r2:j2):C prog Bool:=.of Z call233 func233 [G8 r2] (fun r=>.t (tB r)) (
 .G ((((decide (r2.N4<0))||(decide (r2.N4>15)))||(decide (r2.E7<0)))||(decide (r2.E7>15))) (.R true) (.K (P1 r2.p7) fun v=>.R (!v)) fun b2=>.I b2 (.R false) (.R ((r2.Kind==1)||((decide (r2.N4<=1))&&((r2.Kind==2)||(r2.Kind==3))))))
def ah1 (r2:j2):C prog Bool:=.of Z call289 func289 [G8 r2] (fun r=>.t (tB r)) (
 .K (S1 r2) fun v=>.R (!v))
def av3 (i:W5)(B4:Int):C prog Bool:=.of Z call221 func221 [cZ0 i,.t (tI B4)] (fun r=>.t (tB r)) (
 .K (J6 B4 1 8) fun v=>.I (((!v)||((i.X0.length:Int) !=B4))||(decide ((i.Requests.length:Int)>30))) (.R false) (.K (J6 i.D2 0 12000) fun v2=>.G v2 (.K (J6 i.L3 50 3000) fun v3=>.R v3) (.R false) fun b2=>.G b2 (.K (J6 i.L7 (-40) 150) fun v4=>.R v4) (.R false) fun b3=>.G b3 (.K (J6 i.au8 (-40) 150) fun v5=>.R v5) (.R false) fun b4=>.G b4 (.K (J6 i.aI6 0 20000) fun v6=>.R v6) (.R false) fun b5=>.G b5 (.K (J6 i.Lambda 0 20000) fun v7=>.R v7) (.R false) fun b6=>.G b6 (.K (af7 i.X0 0 4095) fun v8=>.R v8) (.R false) fun b7=>.G b7 (.K (D8 i.Requests (.of (fun z_=>ah1 z_) 289 [])) fun v9=>.R (!v9)) (.R false) fun b8=>.R b8))
def aj2 (n2:Int):C prog Bool:=.of Z call229 func229 [.t (tI n2)] (fun r=>.t (tB r)) (
 .R ((decide (n2>=0))&&(decide (n2<=12000))))
def ax0 (D6:Int):C prog Int:=.of Z call294 func294 [.t (tI D6)] (fun r=>.t (tI r)) (
 .I (decide (D6<=(-20))) (.R 1200) (.I (decide (D6>=70)) (.R 800) (.R (o4 (1200-(o4 (da1 (o4 (400*(o4 (D6+20)))) 90)))))))
def bc7 (o9 D6:Int):C prog Bool:=.of Z call230 func230 [.t (tI o9),.t (tI D6)] (fun r=>.t (tB r)) (
 .K (ax0 D6) fun v=>.R (decide (o9<(o4 (v+300)))))
def aw9 (bg0 o9 D6:Int):C prog Bool:=.of Z call149 func149 [.t (tI bg0),.t (tI o9),.t (tI D6)] (fun r=>.t (tB r)) (
 .G ((decide (bg0>=0))&&(decide (bg0<20))) (.K (aj2 o9) fun v=>.R v) (.R false) fun b2=>.G b2 (.K (bc7 o9 D6) fun v2=>.R v2) (.R false) fun b3=>.R b3)
def aM4 (p2:U2)(first second:Int):C prog (U2×Int):=.of Z call290 func290 [ch8 p2,.t (tI first),.t (tI second)] (fun r=>.P9 [ch8 r.1,.t (tI r.2)]) (
 .K (ax6 p2) fun v=>.I (!v) (.R ((⟨0,0,false⟩:U2),1)) (.K (C6 first 0 1000) fun v2=>.K (C6 second 0 500) fun v3=>.J0 0 (fun(t:Int)=>[.c 11 1 [.t (tI t)]]) (.I (decide ((G7 (o4 (v2-(o4 (2*v3)))) (o4 ((o4 (2*v3))-v2)))>50)) (.R (F5 3 (o4 (p2.af1+1)))) (.I (!p2.aQ5) (.R 0) (.R p2.af1))) fun f2=>.I (f2==3) (.R ((⟨F5 (F5 v2 (o4 (2*v3))) 200,f2,(f2==3)⟩:U2),0)) (.I (decide ((G7 (o4 (v2-(o4 (2*v3)))) (o4 ((o4 (2*v3))-v2)))>50)) (.R ((⟨F5 (F5 v2 (o4 (2*v3))) p2.Value,f2,(f2==3)⟩:U2),0)) (.R ((⟨v2,f2,(f2==3)⟩:U2),0)))))
def u7 (s:o5)(e2:Int):CG prog o5:=.of Z call291 func291 [.ptr 1000000 0,.t (tI e2)] [(1000000,.box (av7 (Q6 s) [(63,.own 1000001)])),(1000001,.rs 267 7 s.out.O1 B3)] (fun _=>.P9 []) (fun r=>[(1000000,.box (av7 (Q6 r) [(63,.own 1000001)])),(1000001,.rs 267 7 r.out.O1 B3)]) [] (
 .I (s.fail==0) (.R ({s with fail:=e2}:o5)) (.R s))
def ab4 (f2:Cl prog Int Bool (fun x=>[.t (tI x)]) (fun r=>.t (tB r)))(s:Int×Int):M prog Int ((Int×Int)⊕((Int×Int)⊕Empty)):=
 .I (decide (s.1<s.2)) (.K (f2.at (o4 (F4 .u64 (aX3.wrap (o4 (s.1+s.2))) 1))) fun v=>.I (!v) (.R (.inl (o4 ((o4 (F4 .u64 (aX3.wrap (o4 (s.1+s.2))) 1))+1),s.2))) (.R (.inl (s.1,o4 (F4 .u64 (aX3.wrap (o4 (s.1+s.2))) 1))))) (.R (.inr (.inl (s.1,s.2))))
def P8 (n2:Int)(f2:Cl prog Int Bool (fun x=>[.t (tI x)]) (fun r=>.t (tB r))):C prog Int:=.of Z call343 func343 [.t (tI n2),.fz f2.n f2.cs] (fun r=>.t (tI r)) (
 .L (fun(t:Int×Int)=>[.t 5 (.t (tI t.1)),.t 6 (.t (tI t.2))]) 0 (.e) (ab4 f2) (0,n2) (fun s2=>.R s2.1) (fun t=>t.elim))
def ae5 (i:Int)(c:List Int)(c2:Int):C prog Bool:=.of Z call413 func413 [.t (tI i),.el ((do7 aN3) c),.el (aN3 c2)] (fun r=>.t (tB r)) (
 .D [] []<| .O (.ix aN3 c i) fun x=>.R (decide (x>c2)))
def W8 (l:List Int)(x:Int):C prog (Int×Int):=.of Z call391 func391 [.t (tS aN3 l),.t (tI x)] (fun r=>.P9 [.t (tI r.1),.t (tI r.2)]) (
 .D [] []<| .O (.ix aN3 l 0) fun x2=>.O (.ix aN3 l (o4 ((l.length:Int)-1))) fun x3=>.K (C6 x x2 x3) fun v=>.Z (.fb 2)<| .Z (.fb 3)<| .K (P8 (l.length:Int) (.of (fun z_=>ae5 z_ l v) 413 [(do7 aN3) l,aN3 v])) fun v2=>.D [] []<| .R (F5 (o4 (v2-1)) (o4 ((l.length:Int)-2)),v))
def as5 (x y:Int):C prog (Int×Int):=⟨279,[.t (tK .u64 x),.t (tK .u64 y)],cw0 x y,fun _=>cw0 x y,fun r=>.P9 [.t (tK .u64 r.1),.t (tK .u64 r.2)],bn1 x y,fun _ _ h=>h⟩
def U7 (n2:Int):C prog Int:=.of Z call395 func395 [.t (tI n2)] (fun r=>.t (tK .u64 r)) (
 .I (decide (n2<0)) (.R (aX3.wrap ((aX3.wrap (o4 (0-(o4 (n2+1)))))+1))) (.R (aX3.wrap n2)))
def ca2:Go.Shelf.Ren:=⟨fun|129=>433|n=>n,fun|3=>3|4=>4|5=>5|9=>9|46=>317|53=>386|n=>n,fun|n=>n⟩
open Go.Shelf in
theorem dY8:Lays.n129 prog ca2:={
 mixed:=by kernel_rfl,
 f129:=func433.trans (congrArg some (by kernel_rfl)),
 t3:=Tryz.underlying3,
 a3:=Tryz.isAgg3,
 z3:=Tryz.sizeOf3,
 v3:=Tryz.zeroValue3,
 t4:=Tryz.underlying4,
 a4:=Tryz.isAgg4,
 z4:=Tryz.sizeOf4,
 v4:=Tryz.zeroValue4,
 t5:=Tryz.underlying5,
 a5:=Tryz.isAgg5,
 z5:=Tryz.sizeOf5,
 v5:=Tryz.zeroValue5,
 t9:=Tryz.underlying9,
 a9:=Tryz.isAgg9,
 z9:=Tryz.sizeOf9,
 v9:=Tryz.zeroValue9,
 t46:=Tryz.underlying317,
 a46:=Tryz.isAgg317,
 z46:=Tryz.sizeOf317,
 v46:=Tryz.zeroValue317,
 t53:=Tryz.underlying386,
 a53:=Tryz.isAgg386,
 z53:=Tryz.sizeOf386,
 v53:=Tryz.zeroValue386}
theorem bZ4 (x:Int):aQ7 prog 433 [.t (tK .u64 x)] (cv8 x) (fun r=>.t (tI r)):=
 dY9 (ρ:=ca2) dY8 call433 x
def aO1 (x:Int):C prog Int:=⟨433,[.t (tK .u64 x)],cv8 x,fun _=>cv8 x,fun r=>.t (tI r),bZ4 x,fun _ _ h=>h⟩
def V8 (x:Int):C prog Int:=.of Z call415 func415 [.t (tK .u64 x)] (fun r=>.t (tI r)) (
 .K (aO1 x) fun v=>.R (o4 (64-v)))
def aD7 (q3 q6:Int)(s3:Int×Int):M prog (Int×Int) ((Int×Int)⊕((Int×Int)⊕Empty)):=
 .I ((decide (s3.1>=4294967296))||(decide ((aX3.wrap (s3.1*(ad3 .u64 q3 4294967295)))>(aX3.wrap ((aX3.wrap (4294967296*s3.2))+(F4 .u64 q6 32)))))) (.I (decide ((aX3.wrap (s3.2+(F4 .u64 q3 32)))>=4294967296)) (.R (.inr (.inl (aX3.wrap (s3.1-1),aX3.wrap (s3.2+(F4 .u64 q3 32)))))) (.R (.inl (aX3.wrap (s3.1-1),aX3.wrap (s3.2+(F4 .u64 q3 32)))))) (.R (.inr (.inl (s3.1,s3.2))))
def aD8 (q3 q6:Int)(s5:Int×Int):M prog (Int×Int) ((Int×Int)⊕((Int×Int)⊕Empty)):=
 .I ((decide (s5.2>=4294967296))||(decide ((aX3.wrap (s5.2*(ad3 .u64 q3 4294967295)))>(aX3.wrap ((aX3.wrap (4294967296*s5.1))+(ad3 .u64 q6 4294967295)))))) (.I (decide ((aX3.wrap (s5.1+(F4 .u64 q3 32)))>=4294967296)) (.R (.inr (.inl (aX3.wrap (s5.1+(F4 .u64 q3 32)),aX3.wrap (s5.2-1))))) (.R (.inl (aX3.wrap (s5.1+(F4 .u64 q3 32)),aX3.wrap (s5.2-1))))) (.R (.inr (.inl (s5.1,s5.2))))
def al3 (hi lo y:Int):C prog (Int×Int):=.of Z call396 func396 [.t (tK .u64 hi),.t (tK .u64 lo),.t (tK .u64 y)] (fun r=>.P9 [.t (tK .u64 r.1),.t (tK .u64 r.2)]) (
 .J0 0 (fun(_:Unit)=>[]) (.I (y==0) (M.N) (.R ())) fun _=>.J0 0 (fun(_:Unit)=>[]) (.I (decide (y<=hi)) (M.N) (.R ())) fun _=>.I (hi==0) (.D [] []<| .O (.quo .u64 lo y) fun q=>.O (.rem lo y) fun q2=>.R (q,q2)) (.K (V8 y) fun v=>.O (.shl .u64 y (aX3.wrap v)) fun q3=>.O (.shl .u64 hi (aX3.wrap v)) fun q4=>.O (.shr .u64 lo (aX3.wrap (64-(aX3.wrap v)))) fun q5=>.O (.shl .u64 lo (aX3.wrap v)) fun q6=>.O (.quo .u64 (U4 .u64 q4 q5) (F4 .u64 q3 32)) fun q7=>.L (fun(t:Int×Int)=>[.t 15 (.t (tK .u64 t.1)),.t 16 (.t (tK .u64 t.2))]) 0 (.e) (aD7 q3 q6) (q7,aX3.wrap ((U4 .u64 q4 q5)-(aX3.wrap (q7*(F4 .u64 q3 32))))) (fun s4=>.O (.quo .u64 (aX3.wrap ((aX3.wrap ((aX3.wrap ((U4 .u64 q4 q5)*4294967296))+(F4 .u64 q6 32)))-(aX3.wrap (s4.1*q3)))) (F4 .u64 q3 32)) fun q8=>.L (fun(t:Int×Int)=>[.t 16 (.t (tK .u64 t.1)),.t 18 (.t (tK .u64 t.2))]) 2 (.e) (aD8 q3 q6) (aX3.wrap ((aX3.wrap ((aX3.wrap ((aX3.wrap ((U4 .u64 q4 q5)*4294967296))+(F4 .u64 q6 32)))-(aX3.wrap (s4.1*q3))))-(aX3.wrap (q8*(F4 .u64 q3 32)))),q8) (fun s6=>.O (.shr .u64 (aX3.wrap ((aX3.wrap ((aX3.wrap ((aX3.wrap ((aX3.wrap ((aX3.wrap ((U4 .u64 q4 q5)*4294967296))+(F4 .u64 q6 32)))-(aX3.wrap (s4.1*q3))))*4294967296))+(ad3 .u64 q6 4294967295)))-(aX3.wrap (s6.2*q3)))) (aX3.wrap v)) fun q9=>.R (aX3.wrap ((aX3.wrap (s4.1*4294967296))+s6.2),q9)) (fun t=>t.elim)) (fun t=>t.elim)))
def ak1 (r2 c:Int)(negative:Bool)(mode:Int):C prog Bool:=.of Z call397 func397 [.t (tK .u64 r2),.t (tK .u64 c),.t (tB negative),.t (tI mode)] (fun r=>.t (tB r)) (
 .I (mode==1) (.R (negative&&(decide (r2>0)))) (.I (mode==2) (.R ((!negative)&&(decide (r2>0)))) (.I negative (.R (decide (r2>(aX3.wrap (c-r2))))) (.R (decide (r2>=(aX3.wrap (c-r2))))))))
def az0 (a b2 c mode:Int):C prog (Int×Int):=.of Z call367 func367 [.t (tI a),.t (tI b2),.t (tI c),.t (tI mode)] (fun r=>.P9 [.t (tI r.1),.t (tI r.2)]) (
 .I ((decide (mode<1))||(decide (mode>3))) (.R (0,1)) (.I (c==0) (.R (0,10)) (.K (U7 a) fun v=>.K (U7 b2) fun v2=>.K (as5 v v2) fun r2=>.K (U7 c) fun v3=>.I (decide (r2.1>=v3)) (.R (0,9)) (.K (al3 r2.1 r2.2 v3) fun r3=>.I (decide (r3.1>9223372036854775808)) (.R (0,9)) (.K (ak1 r3.2 v3 (!((!((decide (a<0))==(decide (b2<0))))==(decide (c<0)))) mode) fun v4=>.J0 0 (fun(t:Int)=>[.t 14 (.t (tK .u64 t))]) (.I v4 (.R (aX3.wrap (r3.1+1))) (.R r3.1)) fun q=>.I ((!((!((decide (a<0))==(decide (b2<0))))==(decide (c<0))))&&(decide (q<=9223372036854775808))) (.R (o4 ((o4 (0-(o4 (aX3.wrap (q-1)))))-1),0)) (.I ((!(!((!((decide (a<0))==(decide (b2<0))))==(decide (c<0)))))&&(decide (q<9223372036854775808))) (.R (o4 q,0)) (.R (0,9))))))))
def am7 (a b2 mode:Int):C prog (Int×Int):=.of Z call324 func324 [.t (tI a),.t (tI b2),.t (tI mode)] (fun r=>.P9 [.t (tI r.1),.t (tI r.2)]) (
 .K (az0 a 1 b2 mode) fun r2=>.R (r2.1,r2.2))
def V3 (a b2:Int):C prog Int:=.of Z call261 func261 [.t (tI a),.t (tI b2)] (fun r=>.t (tI r)) (
 .K (am7 a b2 1) fun r2=>.R r2.1)
def ab5 (x0 x1 y0 y1 x:Int):C prog Int:=.of Z call393 func393 [.t (tI x0),.t (tI x1),.t (tI y0),.t (tI y1),.t (tI x)] (fun r=>.t (tI r)) (
 .K (V3 (o4 ((o4 (x-x0))*(o4 (y1-y0)))) (o4 (x1-x0))) fun v=>.R (o4 (y0+v)))
def ar3 (j:Int)(c:SMap)(c2 c3:Int):C prog Int:=.of Z call392 func392 [.t (tI j),.el (cN5 c),.el (aN3 c2),.el (aN3 c3)] (fun r=>.t (tI r)) (
 .D [] []<| .O (.ix aN3 c.X c2) fun x=>.O (.ix aN3 c.X (o4 (c2+1))) fun x2=>.O (.ix (do7 aN3) c.Z c2) fun x3=>.O (.ix aN3 x3 j) fun x4=>.O (.ix (do7 aN3) c.Z (o4 (c2+1))) fun x5=>.O (.ix aN3 x5 j) fun x6=>.K (ab5 x x2 x4 x6 c3) fun v=>.R v)
def aN0 (m2:SMap)(x y:Int):C prog Int:=.of Z call365 func365 [dh8 m2,.t (tI x),.t (tI y)] (fun r=>.t (tI r)) (
 .K (W8 m2.X x) fun r2=>.K (W8 m2.Y y) fun r3=>.Z (.fb 3)<| .Z (.fb 7)<| .Z (.fb 4)<| .D [] []<| .O (.ix aN3 m2.Y r3.1) fun x2=>.O (.ix aN3 m2.Y (o4 (r3.1+1))) fun x3=>.K (ar3 r3.1 m2 r2.1 r2.2) fun v=>.K (ar3 (o4 (r3.1+1)) m2 r2.1 r2.2) fun v2=>.K (ab5 x2 x3 v v2 r3.2) fun v3=>.R v3)
def X7 (m2:SMap)(x y:Int):C prog Int:=.of Z call316 func316 [dh8 m2,.t (tI x),.t (tI y)] (fun r=>.t (tI r)) (
 .K (J4 m2) fun v=>.I (!v) (.R 0) (.K (aN0 m2 x y) fun v2=>.R v2))
def aM5 (t2:o8)(value o9:Int):C prog (Int×Int):=.of Z call292 func292 [S6 t2,.t (tI value),.t (tI o9)] (fun r=>.P9 [.t (tI r.1),.t (tI r.2)]) (
 .K (J4 t2.aI4) fun v=>.I (!v) (.R (0,1)) (.I ((((decide (value<0))||(decide (value>1000)))||(decide (o9<0)))||(decide (o9>12000))) (.R (0,2)) (.K (X7 t2.aI4 o9 value) fun v2=>.K (C6 v2 (-5000) 10000) fun v3=>.R (v3,0))))
def aq2 (s:F7)(g:aW0)(e2:Int):C prog (F7×Int×Int):=.of Z call340 func340 [bx6 s,dh7 g,.t (tI e2)] (fun r=>.P9 [bx6 r.1,.t (tI r.2.1),.t (tI r.2.2)]) (
 .K (Q3 g) fun v=>.I (((!v)||(decide (s.Sum<(-4398046511104))))||(decide (s.Sum>4398046511104))) (.R ((⟨0⟩:F7),0,1)) (.I ((decide (e2<(-1048576)))||(decide (e2>1048576))) (.R ((⟨0⟩:F7),0,2)) (.J0 0 (fun(t:Int)=>[.x 33,.x 37,.x 42,.b 3 (.box [.t (tI t)])]) (.I (((decide ((F4 .i64 (o4 ((o4 (g.P*e2))+s.Sum)) 10)<=g.bs5))||(decide (e2<=0)))&&((decide ((F4 .i64 (o4 ((o4 (g.P*e2))+s.Sum)) 10)>=g.Low))||(decide (e2>=0)))) (.K (C6 (o4 (s.Sum+(o4 (g.I*e2)))) (-4398046511104) 4398046511104) fun v2=>.R v2) (.R s.Sum)) fun f2=>.D [] []<| .K (C6 (F4 .i64 (o4 ((o4 (g.P*e2))+s.Sum)) 10) g.Low g.bs5) fun v3=>.R ((⟨f2⟩:F7),v3,0))))
def aE7 (s:F7)(g:aW0)(target o9:Int):C prog (F7×Int×Int):=.of Z call293 func293 [bx6 s,dh7 g,.t (tI target),.t (tI o9)] (fun r=>.P9 [bx6 r.1,.t (tI r.2.1),.t (tI r.2.2)]) (
 .K (Q3 g) fun v=>.I (!v) (.R ((⟨0⟩:F7),0,1)) (.K (aj2 target) fun v2=>.G (!v2) (.R true) (.K (aj2 o9) fun v3=>.R (!v3)) fun b2=>.I b2 (.R ((⟨0⟩:F7),0,2)) (.K (aq2 s g (o4 (target-o9))) fun r2=>.R (r2.1,r2.2.1,r2.2.2))))
def ah0 (r2:j2):C prog Bool:=.of Z call379 func379 [G8 r2] (fun r=>.t (tB r)) (
 .K (S1 r2) fun v=>.R (!v))
def av2 (l:List j2)(low high:Int):C prog Int:=.of Z call341 func341 [.t (tS C8 l),.t (tI low),.t (tI high)] (fun r=>.t (tI r)) (
 .K (D8 l (.of (fun z_=>ah0 z_) 379 [])) fun v=>.I v (.R 1) (.I (decide ((l.length:Int)>32)) (.R 5) (.K (P1 low) fun v2=>.G (!v2) (.R true) (.K (P1 high) fun v3=>.R (!v3)) fun b2=>.I (b2||(decide (low>high))) (.R 2) (.R 0))))
def W4 (s:List j2):CG prog (List j2):=.of Z call380 func380 [.t (tS C8 s)] [] (fun _=>.own 900000) (fun r=>[(900000,.rs 250 4 r C8)]) [900000] (
 .Nl C8 s (.I true (.Z (.np 2 70000 250 4 [])<| .R ([]:List j2)) .N) (fun s=>.I false .N (.U (.ap C8 ([]:List j2) s 5) fun l=>.R l)))
def P7 (a:Int)(cmp:Cl prog (j2×j2) Int (fun x=>[G8 x.1,G8 x.2]) (fun r=>.t (tI r)))(s2:Int×List j2):M prog (List j2) ((Int×List j2)⊕((Int×List j2)⊕Empty)):=
 .J0 1 (fun(t:Bool)=>[.t 34 (.t (tB t))]) (.D [] []<| .Sp (decide (s2.1>a)) (.O (.ix C8 s2.2 s2.1) fun x=>.W (.ly 0)<| .O (.ix C8 s2.2 (o4 (s2.1-1))) fun x2=>.W (.ly 0)<| .K (cmp.at (x,x2)) fun v=>.R (decide (v<0))) (.R false)) fun v2=>.I v2 (.D [] [(15,1000000)]<| .O (.ix C8 s2.2 (o4 (s2.1-1))) fun x3=>.W (.ly 0)<| .O (.ix C8 s2.2 s2.1) fun x4=>.W (.ly 0)<| .W (.hx 0)<| .U (.st C8 s2.2 s2.1 x3 0) fun l=>.O (.ix C8 l (o4 (s2.1-1))) fun _=>.U (.st C8 l (o4 (s2.1-1)) x4 0) fun l2=>.R (.inl (o4 (s2.1-1),l2))) (.R (.inr (.inl (s2.1,s2.2))))
def P6 (a b2:Int)(cmp:Cl prog (j2×j2) Int (fun x=>[G8 x.1,G8 x.2]) (fun r=>.t (tI r)))(s:Int×List j2):M prog (List j2) ((Int×List j2)⊕((Int×List j2)⊕Empty)):=
 .I (decide (s.1<b2)) (.L (fun(t:Int×List j2)=>[.t 9 (.t (tI t.1)),.b 1000000 (.rs 250 4 t.2 C8)]) 2 (.e) (P7 a cmp) (s.1,s.2) (fun s3=>.R (.inl (o4 (s.1+1),s3.2))) (fun t=>t.elim)) (.R (.inr (.inl (s.1,s.2))))
def F3 (data:List j2)(a b2:Int)(cmp:Cl prog (j2×j2) Int (fun x=>[G8 x.1,G8 x.2]) (fun r=>.t (tI r))):CG prog (List j2):=.of Z call434 func434 [.own 1000000,.t (tI a),.t (tI b2),.fz cmp.n cmp.cs] [(1000000,.rs 250 4 data C8)] (fun _=>.P9 []) (fun r=>[(1000000,.rs 250 4 r C8)]) [] (
 .L (fun(t:Int×List j2)=>[.t 8 (.t (tI t.1)),.b 1000000 (.rs 250 4 t.2 C8)]) 0 (.e) (P6 a b2 cmp) (o4 (a+1),data) (fun s4=>.R s4.2) (fun t=>t.elim))
def O4 (data:List j2)(a m2 b2:Int)(cmp:Cl prog (j2×j2) Int (fun x=>[G8 x.1,G8 x.2]) (fun r=>.t (tI r))):CG prog (List j2):=⟨435,[.own 1000000,.t (tI a),.t (tI m2),.t (tI b2),.fz cmp.n cmp.cs],[(1000000,.rs 250 4 data C8)],none,fun _=>none,(fun _=>.P9 []),(fun r=>[(1000000,.rs 250 4 r C8)]),[],⟨call435,fun _ h=>by cases h⟩,fun _ _ h=>by cases h⟩
def R5 (n2:Int)(cmp:Cl prog (j2×j2) Int (fun x=>[G8 x.1,G8 x.2]) (fun r=>.t (tI r)))(s:Int×Int×List j2):M prog (List j2) ((Int×Int×List j2)⊕((Int×Int×List j2)⊕Empty)):=
 .I (decide (s.2.1<=n2)) (.KG (F3 s.2.2 s.1 s.2.1 cmp) [] fun v=>.R (.inl (s.2.1,o4 (s.2.1+20),v))) (.R (.inr (.inl (s.1,s.2.1,s.2.2))))
def W3 (n2:Int)(cmp:Cl prog (j2×j2) Int (fun x=>[G8 x.1,G8 x.2]) (fun r=>.t (tI r)))(s3:Int×List j2)(s4:Int×Int×List j2):M prog (List j2) ((Int×Int×List j2)⊕((Int×Int×List j2)⊕Empty)):=
 .I (decide (s4.2.1<=n2)) (.KG (O4 s4.2.2 s4.1 (o4 (s4.1+s3.1)) s4.2.1 cmp) [] fun v3=>.R (.inl (s4.2.1,o4 (s4.2.1+(o4 (2*s3.1))),v3))) (.R (.inr (.inl (s4.1,s4.2.1,s4.2.2))))
def R6 (n2:Int)(cmp:Cl prog (j2×j2) Int (fun x=>[G8 x.1,G8 x.2]) (fun r=>.t (tI r)))(s3:Int×List j2):M prog (List j2) ((Int×List j2)⊕((Int×List j2)⊕Empty)):=
 .I (decide (s3.1<n2)) (.L (fun(t:Int×Int×List j2)=>[.t 7 (.t (tI t.1)),.t 8 (.t (tI t.2.1)),.b 1000000 (.rs 250 4 t.2.2 C8)]) 4 (.e) (W3 n2 cmp s3) (0,o4 (2*s3.1),s3.2) (fun s5=>.I (decide ((o4 (s5.1+s3.1))<n2)) (.KG (O4 s5.2.2 s5.1 (o4 (s5.1+s3.1)) n2 cmp) [] fun v4=>.R (.inl (o4 (s3.1*2),v4))) (.R (.inl (o4 (s3.1*2),s5.2.2)))) (fun t=>t.elim)) (.R (.inr (.inl (s3.1,s3.2))))
def N2 (data:List j2)(n2:Int)(cmp:Cl prog (j2×j2) Int (fun x=>[G8 x.1,G8 x.2]) (fun r=>.t (tI r))):CG prog (List j2):=.of Z call406 func406 [.own 1000000,.t (tI n2),.fz cmp.n cmp.cs] [(1000000,.rs 250 4 data C8)] (fun _=>.P9 []) (fun r=>[(1000000,.rs 250 4 r C8)]) [] (
 .L (fun(t:Int×Int×List j2)=>[.t 7 (.t (tI t.1)),.t 8 (.t (tI t.2.1)),.b 1000000 (.rs 250 4 t.2.2 C8)]) 0 (.e) (R5 n2 cmp) (0,20,data) (fun s2=>.KG (F3 s2.2.2 s2.1 n2 cmp) [] fun v2=>.L (fun(t:Int×List j2)=>[.t 6 (.t (tI t.1)),.x 23,.b 1000000 (.rs 250 4 t.2 C8)]) 2 (.e) (R6 n2 cmp) (20,v2) (fun s6=>.R s6.2) (fun t=>t.elim)) (fun t=>t.elim))
def J7 (x:List j2)(cmp:Cl prog (j2×j2) Int (fun x=>[G8 x.1,G8 x.2]) (fun r=>.t (tI r))):CG prog (List j2):=.of Z call381 func381 [.own 1000000,.fz cmp.n cmp.cs] [(1000000,.rs 250 4 x C8)] (fun _=>.P9 []) (fun r=>[(1000000,.rs 250 4 r C8)]) [] (
 .KG (N2 x (x.length:Int) cmp) [] fun v=>.R v)
def O3 (a b2:j2):C prog Int:=.of Z call382 func382 [G8 a,G8 b2] (fun r=>.t (tI r)) (
 .R (o4 (b2.E7-a.E7)))
def ac9 (s:u3)(t2:Int):CG prog u3:=.of Z call407 func407 [.ptr 1000000 0,.t (tI t2)] [(1000000,.box [.t (tI s.low),.t (tI s.high),.t (tI s.source)])] (fun _=>.P9 []) (fun r=>[(1000000,.box [.t (tI r.low),.t (tI r.high),.t (tI r.source)])]) [] (
 .D [] []<| .R (⟨s.low,G7 s.low (F5 s.high t2),s.source⟩:u3))
def Z0 (s:u3)(t2:Int):CG prog u3:=.of Z call408 func408 [.ptr 1000000 0,.t (tI t2)] [(1000000,.box [.t (tI s.low),.t (tI s.high),.t (tI s.source)])] (fun _=>.P9 []) (fun r=>[(1000000,.box [.t (tI r.low),.t (tI r.high),.t (tI r.source)])]) [] (
 .D [] []<| .R ({s with low:=F5 s.high (G7 s.low t2)}:u3))
def Z2 (s:u3)(t2:Int):CG prog u3:=.of Z call409 func409 [.ptr 1000000 0,.t (tI t2)] [(1000000,.box [.t (tI s.low),.t (tI s.high),.t (tI s.source)])] (fun _=>.P9 []) (fun r=>[(1000000,.box [.t (tI r.low),.t (tI r.high),.t (tI r.source)])]) [] (
 .D [] []<| .K (C6 t2 s.low s.high) fun v=>.R (⟨v,v,s.source⟩:u3))
def W6 (s:u3)(r2:j2):CG prog (Bool×u3):=.of Z call383 func383 [.ptr 1000000 0,G8 r2] [(1000000,.box [.t (tI s.low),.t (tI s.high),.t (tI s.source)])] (fun r=>.t (tB r.1)) (fun r=>[(1000000,.box [.t (tI r.2.low),.t (tI r.2.high),.t (tI r.2.source)])]) [] (
 .J0 0 (fun(t:u3)=>[.x 6,.x 7,.x 9,.b 1000000 (.box [.t (tI t.low),.t (tI t.high),.t (tI t.source)])]) (.I (r2.Kind==1) (.KG (ac9 s r2.p7) [] fun v=>.R v) (.I (r2.Kind==2) (.KG (Z0 s r2.p7) [] fun v2=>.R v2) (.I (r2.Kind==3) (.KG (Z2 s r2.p7) [] fun v3=>.R v3) (.R s)))) fun f2=>.D [] []<| .J0 0 (fun(t:Int)=>[.x 3,.x 29,.x 30,.x 31,.x 33,.c 1000000 2 [.t (tI t)],.d 3]) (.I (f2.low !=s.low) (.R r2.N4) (.R f2.source)) fun f3=>.J0 1 (fun(t:Bool)=>[.t 4 (.t (tB t)),.x 0,.x 5,.d 5]) (.D [] []<| .Sp (f2.low !=s.low) (.R true) (.R (f2.high !=s.high))) fun v4=>.R (v4,(⟨f2.low,f2.high,f3⟩:u3)))
def cp1:Go.Shelf.Ren:=⟨fun|125=>405|128=>432|129=>433|189=>384|215=>280|216=>189|257=>410|294=>436|295=>437|296=>438|297=>439|298=>440|299=>441|300=>442|301=>443|328=>453|329=>448|330=>449|331=>454|332=>455|343=>467|n=>n,fun|0=>0|3=>3|4=>4|5=>5|9=>9|28=>22|46=>317|51=>383|53=>386|131=>234|182=>487|183=>488|218=>503|222=>507|228=>516|229=>338|n=>n,fun|n=>n⟩
open Go.Shelf in
theorem eu9:Lays.n189 prog cp1:={
 mixed:=by kernel_rfl,
 f125:=func405.trans (congrArg some (by kernel_rfl)),
 f128:=func432.trans (congrArg some (by kernel_rfl)),
 f129:=func433.trans (congrArg some (by kernel_rfl)),
 f189:=func384.trans (congrArg some (by kernel_rfl)),
 f215:=func280.trans (congrArg some (by kernel_rfl)),
 f216:=func189.trans (congrArg some (by kernel_rfl)),
 f257:=func410.trans (congrArg some (by kernel_rfl)),
 f294:=func436.trans (congrArg some (by kernel_rfl)),
 f295:=func437.trans (congrArg some (by kernel_rfl)),
 f296:=func438.trans (congrArg some (by kernel_rfl)),
 f297:=func439.trans (congrArg some (by kernel_rfl)),
 f298:=func440.trans (congrArg some (by kernel_rfl)),
 f299:=func441.trans (congrArg some (by kernel_rfl)),
 f300:=func442.trans (congrArg some (by kernel_rfl)),
 f301:=func443.trans (congrArg some (by kernel_rfl)),
 f328:=func453.trans (congrArg some (by kernel_rfl)),
 f329:=func448.trans (congrArg some (by kernel_rfl)),
 f330:=func449.trans (congrArg some (by kernel_rfl)),
 f331:=func454.trans (congrArg some (by kernel_rfl)),
 f332:=func455.trans (congrArg some (by kernel_rfl)),
 f343:=func467.trans (congrArg some (by kernel_rfl)),
 t0:=Tryz.underlying0,
 a0:=Tryz.isAgg0,
 z0:=Tryz.sizeOf0,
 v0:=Tryz.zeroValue0,
 t3:=Tryz.underlying3,
 a3:=Tryz.isAgg3,
 z3:=Tryz.sizeOf3,
 v3:=Tryz.zeroValue3,
 t4:=Tryz.underlying4,
 a4:=Tryz.isAgg4,
 z4:=Tryz.sizeOf4,
 v4:=Tryz.zeroValue4,
 t5:=Tryz.underlying5,
 a5:=Tryz.isAgg5,
 z5:=Tryz.sizeOf5,
 v5:=Tryz.zeroValue5,
 t9:=Tryz.underlying9,
 a9:=Tryz.isAgg9,
 z9:=Tryz.sizeOf9,
 v9:=Tryz.zeroValue9,
 t28:=Tryz.underlying22,
 a28:=Tryz.isAgg22,
 z28:=Tryz.sizeOf22,
 v28:=Tryz.zeroValue22,
 t46:=Tryz.underlying317,
 a46:=Tryz.isAgg317,
 z46:=Tryz.sizeOf317,
 v46:=Tryz.zeroValue317,
 t51:=Tryz.underlying383,
 a51:=Tryz.isAgg383,
 z51:=Tryz.sizeOf383,
 v51:=Tryz.zeroValue383,
 t53:=Tryz.underlying386,
 a53:=Tryz.isAgg386,
 z53:=Tryz.sizeOf386,
 v53:=Tryz.zeroValue386,
 t131:=Tryz.underlying234,
 a131:=Tryz.isAgg234,
 z131:=Tryz.sizeOf234,
 v131:=Tryz.zeroValue234,
 t182:=Tryz.underlying487,
 a182:=Tryz.isAgg487,
 z182:=Tryz.sizeOf487,
 v182:=Tryz.zeroValue487,
 t183:=Tryz.underlying488,
 a183:=Tryz.isAgg488,
 z183:=Tryz.sizeOf488,
 v183:=Tryz.zeroValue488,
 t218:=Tryz.underlying503,
 a218:=Tryz.isAgg503,
 z218:=Tryz.sizeOf503,
 v218:=Tryz.zeroValue503,
 t222:=Tryz.underlying507,
 a222:=Tryz.isAgg507,
 z222:=Tryz.sizeOf507,
 v222:=Tryz.zeroValue507,
 t228:=Tryz.underlying516,
 a228:=Tryz.isAgg516,
 z228:=Tryz.sizeOf516,
 v228:=Tryz.zeroValue516,
 t229:=Tryz.underlying338,
 a229:=Tryz.isAgg338,
 z229:=Tryz.sizeOf338,
 v229:=Tryz.zeroValue338}
theorem bV3 (s:List Int):bh4 prog 384 [.own 1000000] [(1000000,.rows 3 1 s.length (s.map aN3))] (bU4 s) (fun _=>.P9 []) (fun r=>[(1000000,.rows 3 1 r.length (r.map aN3))]):=
 do1 (ρ:=cp1) eu9 call384 s
def aC0 (s:List Int):CG prog (List Int):=⟨384,[.own 1000000],[(1000000,.rows 3 1 s.length (s.map aN3))],bU4 s,fun _=>dL0 s,fun _=>.P9 [],fun r=>[(1000000,.rows 3 1 r.length (r.map aN3))],[],bV3 s,fun _ r h=>ec6 h⟩
def cl3:Go.Shelf.Ren:=⟨fun|20=>385|n=>n,fun|0=>0|3=>3|4=>4|22=>22|n=>n,fun|n=>n⟩
open Go.Shelf in
theorem ek1:Lays2.n20 prog cl3:={
 mixed:=by kernel_rfl,
 f20:=func385.trans (congrArg some (by kernel_rfl)),
 t0:=Tryz.underlying0,
 a0:=Tryz.isAgg0,
 z0:=Tryz.sizeOf0,
 v0:=Tryz.zeroValue0,
 t3:=Tryz.underlying3,
 a3:=Tryz.isAgg3,
 z3:=Tryz.sizeOf3,
 v3:=Tryz.zeroValue3,
 t4:=Tryz.underlying4,
 a4:=Tryz.isAgg4,
 z4:=Tryz.sizeOf4,
 v4:=Tryz.zeroValue4,
 t22:=Tryz.underlying22,
 a22:=Tryz.isAgg22,
 z22:=Tryz.sizeOf22,
 v22:=Tryz.zeroValue22,
 i3:=by kernel_rfl}
theorem bF2 (s:List Int):bh4 prog 385 [.own 1000000] [(1000000,.rows 3 1 s.length (s.map aN3))] (bm3 s) (fun _=>.own 900000) (fun r=>[(900000,.rows 3 1 r.length (r.map aN3))]):=
 cE8 (ρ:=cl3) ek1 call385 s
def ar8 (s:List Int):CG prog (List Int):=⟨385,[.own 1000000],[(1000000,.rows 3 1 s.length (s.map aN3))],bm3 s,fun _=>bm3 s,fun _=>.own 900000,fun r=>[(900000,.rows 3 1 r.length (r.map aN3))],[900000],bF2 s,fun _ r h=>h⟩
def aj0 (_:Int)(x:j2)(s:List Int×u3):M prog (u3×List Int) (Fl (List Int×u3) Empty):=
 .W (.hx 0)<| .W (.ly 0)<| .KG (W6 s.2 x) [] fun r2=>.I r2.1 (.U (.ap aN3 s.1 ([x.N4]:List Int) 2248) fun l2=>.R (.next (l2,r2.2))) (.R (.next (s.1,r2.2)))
def ap5 (l:List j2)(low high:Int):C prog (u3×List Int):=.of Z call342 func342 [.t (tS C8 l),.t (tI low),.t (tI high)] (fun r=>.P9 [cC3 r.1,.t (tS aN3 r.2)]) (
 .KG (W4 l) [2104] fun v=>.KG (J7 v (.of (fun z_=>O3 z_.1 z_.2) 382 [])) [] fun v2=>.Z (.np 9 2248 3 1 [])<|M.Q C8 v2 2 21 (fun(t:List Int×u3)=>[.t 9 (.own 2248),.x 0,.x 13,.x 14,.b 8 (.box [.t (tI t.2.low),.t (tI t.2.high),.t (tI t.2.source)]),.b 2248 (.rs 3 1 t.1 aN3)]) 0 (.e) (aj0) (([]:List Int),(⟨low,high,(-1)⟩:u3)) (fun s2=>.KG (aC0 s2.1) [] fun v3=>.Pn 2248<| .D [] [(2,2248)]<| .KG (ar8 v3) [2248] fun v4=>.R (s2.2,v4)) (fun t=>t.elim))
def ap4 (g:Z8)(l:List j2)(low high up down:Int):C prog (Z8×Int):=.of Z call295 func295 [dp3 g,.t (tS C8 l),.t (tI low),.t (tI high),.t (tI up),.t (tI down)] (fun r=>.P9 [dp3 r.1,.t (tI r.2)]) (
 .K (P1 g.p7) fun v=>.I (((!v)||(decide (g.N4<(-1))))||(decide (g.N4>15))) (.R ((⟨0,0⟩:Z8),1)) (.K (av2 l low high) fun v2=>.I (v2 !=0) (.R ((⟨0,0⟩:Z8),v2)) (.I ((((decide (up<0))||(decide (up>20000)))||(decide (down<0)))||(decide (down>20000))) (.R ((⟨0,0⟩:Z8),2)) (.K (ap5 l low high) fun r2=>.R ((⟨G7 (F5 (F5 (G7 r2.1.low (o4 (g.p7-down))) (o4 (g.p7+up))) r2.1.high) low,r2.1.source⟩:Z8),0)))))
def W7 (s:o5):CG prog o5:=.of Z call222 func222 [.ptr 1000000 0] [(1000000,.box (av7 (Q6 s) [(63,.own 1000001)])),(1000001,.rs 267 7 s.out.O1 B3)] (fun _=>.P9 []) (fun r=>[(1000000,.box (av7 (Q6 r) [(63,.own 1000001)])),(1000001,.rs 267 7 r.out.O1 B3)]) [] (
 .D [] [(23,1000000)]<| .K (aM4 s.c.I7 s.i.bG0 s.i.bG1) fun r2=>.KG (u7 ({s with c:=(⟨r2.1,s.c.ae6,s.c.aa6,s.c.Q1,s.c.P0,s.c.af2⟩:A7)}:o5) r2.2) [] fun v=>.D [] []<| .K (aM5 v.t v.c.I7.Value v.i.D2) fun r3=>.KG (u7 v r3.2) [] fun v2=>.D [] []<| .K (aw9 v2.c.I7.Value v2.i.D2 v2.i.au8) fun v3=>.J0 0 (fun(t:o5×List j2)=>[.t 4 (.own 56),.x 7,.x 8,.x 9,.x 10,.x 11,.x 13,.x 14,.x 15,.x 16,.x 18,.x 19,.x 20,.x 21,.x 26,.x 27,.x 28,.x 29,.x 33,.x 34,.x 35,.x 37,.x 38,.x 39,.x 40,.x 41,.x 43,.x 44,.x 45,.x 46,.x 51,.x 56,.x 57,.x 58,.x 59,.x 60,.x 61,.x 63,.x 64,.x 65,.x 66,.x 68,.x 69,.x 70,.x 71,.b 56 (.rs 250 4 t.2 C8),.b 1000000 (.box (av7 (Q6 t.1) [(63,.own 1000001)])),.b 1000001 (.rs 267 7 t.1.out.O1 B3)]) (.I v3 (.D [] [(30,1000000)]<| .K (ax0 v2.i.au8) fun v4=>.K (aE7 v2.c.ae6 v2.t.ae6 v4 v2.i.D2) fun r4=>.KG (u7 ({v2 with c:=(⟨v2.c.I7,r4.1,v2.c.aa6,v2.c.Q1,v2.c.P0,v2.c.af2⟩:A7)}:o5) r4.2.2) [] fun v5=>.K (C6 r4.2.1 (-5000) 10000) fun v6=>.U (.ap C8 ([(⟨0,3,r3.1,0⟩:j2)]:List j2) ([(⟨1,2,v6,1⟩:j2)]:List j2) 56) fun l=>.R (v5,l)) (.R (({v2 with c:=(⟨v2.c.I7,(⟨0⟩:F7),v2.c.aa6,v2.c.Q1,v2.c.P0,v2.c.af2⟩:A7)}:o5),([(⟨0,3,r3.1,0⟩:j2)]:List j2)))) fun s2=>.Pn 56<| .D [] [(12,56),(20,1000000)]<| .U (.ap C8 s2.2 s2.1.i.Requests 56) fun l2=>.K (ap4 s2.1.c.af2 l2 (-5000) 10000 300 1000) fun r5=>.KG (u7 (⟨s2.1.t,s2.1.e,s2.1.b,(⟨s2.1.c.I7,s2.1.c.ae6,s2.1.c.aa6,s2.1.c.Q1,s2.1.c.P0,r5.1⟩:A7),s2.1.i,s2.1.wanted,s2.1.A0,s2.1.ad9,s2.1.late,s2.1.pattern,s2.1.time,s2.1.out,s2.1.fail⟩:o5) r5.2) [] fun v7=>.R ({v7 with wanted:=G7 0 v7.c.af2.p7}:o5))
def al8 (i:Int)(c:o8)(c2 c3 c4:Int):C prog Bool:=.of Z call344 func344 [.t (tI i),.el (aR4 c),.el (aN3 c2),.el (aN3 c3),.el (aN3 c4)] (fun r=>.t (tB r)) (
 .D [] []<| .K (X7 c.p7 c2 (o4 (c3+i))) fun v=>.R (decide (v>=c4)))
def ap1 (t2:o8)(o9 S9:Int):C prog (Int×Int):=.of Z call296 func296 [S6 t2,.t (tI o9),.t (tI S9)] (fun r=>.P9 [.t (tI r.1),.t (tI r.2)]) (
 .K (ai1 t2) fun v=>.I (!v) (.R (0,1)) (.K (H6 o9 0 12000) fun v2=>.I (!v2) (.R (0,2)) (.O (.ix aN3 t2.p7.Y 0) fun x=>.D [] []<| .O (.ix aN3 t2.p7.Y (o4 ((t2.p7.Y.length:Int)-1))) fun x2=>.Z (.fb 3)<| .Z (.fb 4)<| .Z (.fb 8)<| .Z (.fb 5)<| .K (P8 (o4 ((o4 (x2-x))+1)) (.of (fun z_=>al8 z_ t2 o9 x S9) 344 [aR4 t2,aN3 o9,aN3 x,aN3 S9])) fun v3=>.I (v3==(o4 ((o4 (x2-x))+1))) (.R (0,7)) (.R (o4 (x+v3),0)))))
def au1 (x e2 other:Int):C prog Int:=.of Z call297 func297 [.t (tI x),.t (tI e2),.t (tI other)] (fun r=>.t (tI r)) (
 .I (e2 !=0) (.R other) (.R x))
def al0 (i:Int)(c:Q0)(c2:Int):C prog Bool:=.of Z call414 func414 [.t (tI i),.el (bI7 c),.el (aN3 c2)] (fun r=>.t (tB r)) (
 .D [] []<| .O (.ix aN3 c.X i) fun x=>.R (decide (x>c2)))
def av4 (c:Q0)(x:Int):C prog Int:=.of Z call394 func394 [ch7 c,.t (tI x)] (fun r=>.t (tI r)) (
 .Z (.fb 2)<| .Z (.fb 3)<| .K (P8 (c.X.length:Int) (.of (fun z_=>al0 z_ c x) 414 [bI7 c,aN3 x])) fun v=>.R (o4 (v-1)))
def aF2 (c:Q0)(x:Int):C prog Int:=.of Z call366 func366 [ch7 c,.t (tI x)] (fun r=>.t (tI r)) (
 .O (.ix aN3 c.X 0) fun x2=>.I (decide (x<=x2)) (.O (.ix aN3 c.Y 0) fun x3=>.R x3) (.O (.ix aN3 c.X (o4 ((c.X.length:Int)-1))) fun x4=>.I (decide (x>=x4)) (.O (.ix aN3 c.Y (o4 ((c.X.length:Int)-1))) fun x5=>.R x5) (.K (av4 c x) fun v=>.D [] []<| .O (.ix aN3 c.Y v) fun x6=>.O (.ix aN3 c.X v) fun x7=>.O (.ix aN3 c.Y (o4 (v+1))) fun x8=>.W (.hx 2)<| .O (.ix aN3 c.X (o4 (v+1))) fun x9=>.W (.hx 2)<| .K (V3 (o4 ((o4 (x-x7))*(o4 (x8-x6)))) (o4 (x9-x7))) fun v2=>.R (o4 (x6+v2)))))
def at5 (c:Q0)(x:Int):C prog Int:=.of Z call317 func317 [ch7 c,.t (tI x)] (fun r=>.t (tI r)) (
 .K (P2 c) fun v=>.I (!v) (.R 0) (.K (aF2 c x) fun v2=>.R v2))
def aC5 (t2:o8)(o9 C1 K6:Int):C prog Int:=.of Z call236 func236 [S6 t2,.t (tI o9),.t (tI C1),.t (tI K6)] (fun r=>.t (tI r)) (
 .D [] []<| .K (X7 t2.Air o9 C1) fun v=>.K (at5 t2.L7 K6) fun v2=>.K (V3 (o4 (v*v2)) 1000) fun v3=>.R (F5 1048576 v3))
def aj9 (k:Int)(c:o8)(c2 c3 c4:Int):C prog Bool:=.of Z call345 func345 [.t (tI k),.el (aR4 c),.el (aN3 c2),.el (aN3 c3),.el (aN3 c4)] (fun r=>.t (tB r)) (
 .D [] []<| .K (aC5 c c2 (o4 (50+k)) c3) fun v=>.R (decide (v>=c4)))
def au9 (t2:o8)(o9 want K6:Int):C prog (Int×Int):=.of Z call298 func298 [S6 t2,.t (tI o9),.t (tI want),.t (tI K6)] (fun r=>.P9 [.t (tI r.1),.t (tI r.2)]) (
 .K (aB1 t2) fun v=>.I (!v) (.R (0,1)) (.K (I5 o9 0 12000) fun v2=>.G (!v2) (.R true) (.K (I5 want 0 1048576) fun v3=>.R (!v3)) fun b2=>.G b2 (.R true) (.K (I5 K6 (-40) 150) fun v4=>.R (!v4)) fun b3=>.I b3 (.R (0,2)) (.Z (.fb 4)<| .Z (.fb 5)<| .Z (.fb 7)<| .Z (.fb 6)<| .K (P8 2951 (.of (fun z_=>aj9 z_ t2 o9 K6 want) 345 [aR4 t2,aN3 o9,aN3 K6,aN3 want])) fun v5=>.I (decide ((o4 (50+v5))>3000)) (.R (0,7)) (.R (o4 (50+v5),0)))))
def ax5 (rpm:Int):C prog (Int×Int):=.of Z call346 func346 [.t (tI rpm)] (fun r=>.P9 [.t (tI r.1),.t (tI r.2)]) (
 .I ((decide (rpm<0))||(decide (rpm>20000))) (.R (0,2)) (.K (am7 (o4 ((o4 (rpm*65536))*23040)) 60000000 2) fun r2=>.R (r2.1,r2.2)))
def be2 (o9 C1:Int):C prog (Int×Int):=.of Z call299 func299 [.t (tI o9),.t (tI C1)] (fun r=>.P9 [.t (tI r.1),.t (tI r.2)]) (
 .K (I5 o9 0 12000) fun v=>.G (!v) (.R true) (.K (I5 C1 50 3000) fun v2=>.R (!v2)) fun b2=>.I b2 (.R (0,2)) (.K (ax5 o9) fun r2=>.R (o4 (da1 (o4 (r2.1*C1)) 1024),r2.2)))
def ak0 (k:Int)(c:L4)(c2 c3:Int):C prog Bool:=.of Z call347 func347 [.t (tI k),.el (bD9 c),.el (aN3 c2),.el (aN3 c3)] (fun r=>.t (tB r)) (
 .R (decide ((o4 (da1 (o4 ((o4 (c.J2*k))*(o4 (1013-c2)))) 1000))>=c3)))
def av0 (b2:L4)(cX5 C1:Int):C prog (Int×Int):=.of Z call300 func300 [aL6 b2,.t (tI cX5),.t (tI C1)] (fun r=>.P9 [.t (tI r.1),.t (tI r.2)]) (
 .K (aj3 b2) fun v=>.I (!v) (.R (0,1)) (.K (I5 cX5 0 1099511627776) fun v2=>.G (!v2) (.R true) (.K (I5 C1 50 1013) fun v3=>.R (!v3)) fun b3=>.I b3 (.R (0,2)) (.Z (.fb 3)<| .Z (.fb 5)<| .Z (.fb 4)<| .K (P8 1001 (.of (fun z_=>ak0 z_ b2 C1 cX5) 347 [bD9 b2,aN3 C1,aN3 cX5])) fun v4=>.I (decide (v4>1000)) (.R (0,7)) (.R (v4,0)))))
def T8 (s:o5):CG prog o5:=.of Z call223 func223 [.ptr 1000000 0] [(1000000,.box (av7 (Q6 s) [(63,.own 1000001)])),(1000001,.rs 267 7 s.out.O1 B3)] (fun _=>.P9 []) (fun r=>[(1000000,.box (av7 (Q6 r) [(63,.own 1000001)])),(1000001,.rs 267 7 r.out.O1 B3)]) [] (
 .D [] []<| .K (ap1 s.t s.i.D2 s.wanted) fun r2=>.K (au1 r2.1 r2.2 1048576) fun v=>.D [] []<| .K (au9 s.t s.i.D2 (G7 0 v) s.i.L7) fun r3=>.K (au1 r3.1 r3.2 3000) fun v2=>.K (be2 s.i.D2 (F5 1012 v2)) fun r4=>.KG (u7 s r4.2) [] fun v3=>.K (av0 v3.b r4.1 (F5 1012 v2)) fun r5=>.K (au1 r5.1 r5.2 1000) fun v4=>.R ({v3 with out:=(⟨v4,v3.out.O1,v3.out.p7⟩:O5)}:o5))
def aC4 (t2:o8)(o9 C1 K6:Int):C prog (Int×Int):=.of Z call151 func151 [S6 t2,.t (tI o9),.t (tI C1),.t (tI K6)] (fun r=>.P9 [.t (tI r.1),.t (tI r.2)]) (
 .K (aB1 t2) fun v=>.I (!v) (.R (0,1)) (.K (I5 o9 0 12000) fun v2=>.G (!v2) (.R true) (.K (I5 C1 50 3000) fun v3=>.R (!v3)) fun b2=>.G b2 (.R true) (.K (I5 K6 (-40) 150) fun v4=>.R (!v4)) fun b3=>.I b3 (.R (0,2)) (.K (aC5 t2 o9 C1 K6) fun v5=>.R (v5,0))))
def ag8 (t2:o8)(o9 A0:Int):C prog (Int×Int):=.of Z call348 func348 [S6 t2,.t (tI o9),.t (tI A0)] (fun r=>.P9 [.t (tI r.1),.t (tI r.2)]) (
 .K (ai1 t2) fun v=>.I (!v) (.R (0,1)) (.K (H6 o9 0 12000) fun v2=>.G (!v2) (.R true) (.K (H6 A0 0 1048576) fun v3=>.R (!v3)) fun b2=>.I b2 (.R (0,2)) (.K (X7 t2.p7 o9 A0) fun v4=>.R (v4,0))))
def Y3 (t2:o8)(bJ8 late ad9 B4:Int):C prog Int:=.of Z call349 func349 [S6 t2,.t (tI bJ8),.t (tI late),.t (tI ad9),.t (tI B4)] (fun r=>.t (tI r)) (
 .K (at5 t2.C3 late) fun v=>.O (.quo .i64 (o4 ((o4 (bJ8*v))*ad9)) (o4 (1000*B4))) fun q=>.R q)
def ak8 (late:Int)(c:o8)(c2 c3 c4 c5:Int):C prog Bool:=.of Z call350 func350 [.t (tI late),.el (aR4 c),.el (aN3 c2),.el (aN3 c3),.el (aN3 c4),.el (aN3 c5)] (fun r=>.t (tB r)) (
 .D [] []<| .K (Y3 c c2 late c3 c4) fun v=>.R (decide (v<=c5)))
def am0 (t2:o8)(most B4:Int)(r2:Int×Int)(f2:Int):M prog (Int×Int×Int) (Int⊕(Int⊕Empty)):=
 .I (decide (f2>0)) (.D [] []<| .K (Y3 t2 r2.1 2560 f2 B4) fun v2=>.I (decide (v2<=most)) (.R (.inr (.inl f2))) (.R (.inl (o4 (f2-1))))) (.R (.inr (.inl f2)))
def al9 (t2:o8)(o9 A0 most B4:Int):C prog (Int×Int×Int):=.of Z call301 func301 [S6 t2,.t (tI o9),.t (tI A0),.t (tI most),.t (tI B4)] (fun r=>.P9 [.t (tI r.1),.t (tI r.2.1),.t (tI r.2.2)]) (
 .K (ag8 t2 o9 A0) fun r2=>.I (r2.2 !=0) (.R (0,0,r2.2)) (.K (H6 B4 1 8) fun v=>.I ((!v)||(decide (most<0))) (.R (0,0,2)) (.L (fun(t:Int)=>[.b 10 (.box [.t (tI t)])]) 1 (.e) (am0 t2 most B4 r2) B4 (fun f3=>.Z (.fb 5)<| .Z (.fb 13)<| .Z (.fb 9)<| .Z (.fb 8)<| .K (P8 2560 (.of (fun z_=>ak8 z_ t2 r2.1 f3 B4 most) 350 [aR4 t2,aN3 r2.1,aN3 f3,aN3 B4,aN3 most])) fun v3=>.R (f3,v3,0)) (fun t=>t.elim))))
def ar6 (B4 ad9 E6 i:Int)(f2:List Bool):M prog (List Bool×Int) (Fl (List Bool) Empty):=
 .O (.rem (o4 (i+E6)) B4) fun q=>.D [] []<| .O (.quo .i64 (o4 ((o4 (q+1))*ad9)) B4) fun q2=>.O (.quo .i64 (o4 (q*ad9)) B4) fun q3=>.O (.ix Pv.cv0 f2 i) fun _=>.U (.st Pv.cv0 f2 i (decide (q2>q3)) 0) fun l2=>.R (.next l2)
def ar5 (B4 ad9 E6:Int):C prog (List Bool×Int):=.of Z call302 func302 [.t (tI B4),.t (tI ad9),.t (tI E6)] (fun r=>.P9 [.t (tS Pv.cv0 r.1),.t (tI r.2)]) (
 .K (H6 B4 1 8) fun v=>.G (!v) (.R true) (.K (H6 ad9 0 B4) fun v2=>.R (!v2)) fun b2=>.G b2 (.R true) (.K (H6 E6 0 1099511627776) fun v3=>.R (!v3)) fun b3=>.I b3 (.R (([]:List Bool),2)) (.Mk Pv.cv0 B4 false fun l=>M.QN (l.length:Int) 2 29 (fun(t:List Bool)=>[.x 26,.x 27,.b 26 (.rs 4 1 t Pv.cv0)]) 0 (.e) (ar6 B4 ad9 E6) l (fun f3=>.R (f3,0)) (fun t=>t.elim)))
def aw1 (t2:o8)(o9 A0 late ad9 B4:Int):C prog (Int×Int):=.of Z call303 func303 [S6 t2,.t (tI o9),.t (tI A0),.t (tI late),.t (tI ad9),.t (tI B4)] (fun r=>.P9 [.t (tI r.1),.t (tI r.2)]) (
 .K (ag8 t2 o9 A0) fun r2=>.I (r2.2 !=0) (.R (0,r2.2)) (.K (H6 late 0 2560) fun v=>.G (!v) (.R true) (.K (H6 B4 1 8) fun v2=>.R (!v2)) fun b2=>.G b2 (.R true) (.K (H6 ad9 0 B4) fun v3=>.R (!v3)) fun b3=>.I b3 (.R (0,2)) (.K (Y3 t2 r2.1 late ad9 B4) fun v4=>.R (v4,0))))
def aa0 (s:o5):CG prog o5:=.of Z call224 func224 [.ptr 1000000 0] [(1000000,.box (av7 (Q6 s) [(63,.own 1000001)])),(1000001,.rs 267 7 s.out.O1 B3)] (fun _=>.P9 []) (fun r=>[(1000000,.box (av7 (Q6 r) [(63,.own 1000001)])),(1000001,.rs 267 7 r.out.O1 B3)]) [] (
 .D [] [(26,1000000)]<| .K (aC4 s.t s.i.D2 s.i.L3 s.i.L7) fun r2=>.KG (u7 ({s with A0:=r2.1}:o5) r2.2) [] fun v=>.D [] [(27,1000000),(30,1000000)]<| .K (al9 v.t v.i.D2 v.A0 v.wanted (s.e.u6.length:Int)) fun r3=>.KG (u7 ({v with ad9:=r3.1,late:=r3.2.1}:o5) r3.2.2) [] fun v2=>.K (ar5 (s.e.u6.length:Int) v2.ad9 0) fun r4=>.KG (u7 ({v2 with pattern:=r4.1}:o5) r4.2) [] fun v3=>.D [] [(30,1000000)]<| .K (aw1 v3.t v3.i.D2 v3.A0 v3.late v3.ad9 (s.e.u6.length:Int)) fun r5=>.KG (u7 ({v3 with out:=(⟨v3.out.J2,v3.out.O1,r5.1⟩:O5)}:o5) r5.2) [] fun v4=>.R v4)
def ac2 (o9 A0:Int):C prog Bool:=.of Z call351 func351 [.t (tI o9),.t (tI A0)] (fun r=>.t (tB r)) (
 .K (R9 o9 0 12000) fun v=>.G v (.K (R9 A0 0 1048576) fun v2=>.R v2) (.R false) fun b2=>.R b2)
def ag5 (s:List aa7):C prog (List aa7):=.of Z call386 func386 [.t (tS an3 s)] (fun r=>.t (tS an3 r)) (
 .Nl an3 s (.I true (.R ([]:List aa7)) .N) (fun s=>.I false .N (.U (.ap an3 ([]:List aa7) s 5) fun l=>.R l)))
def ax2 (p2:M8):C prog M8:=.of Z call352 func352 [bs3 p2] (fun r=>bs3 r) (
 .K (ag5 p2.Cells) fun v=>.R ({p2 with Cells:=v}:M8))
def az4 (p2:M8)(B9 o9 A0:Int):C prog (M8×Int):=.of Z call304 func304 [bs3 p2,.t (tI B9),.t (tI o9),.t (tI A0)] (fun r=>.P9 [bs3 r.1,.t (tI r.2)]) (
 .K (ac1 p2) fun v=>.I (!v) (.R ((⟨false,false,0,0,([]:List aa7)⟩:M8),1)) (.K (ac2 o9 A0) fun v2=>.G (!v2) (.R true) (.K (R9 B9 0 20000) fun v3=>.R (!v3)) fun b2=>.I b2 (.R ((⟨false,false,0,0,([]:List aa7)⟩:M8),2)) (.K (ax2 p2) fun v4=>.I (!v4.as8) (.R (({v4 with as8:=((decide (B9<300))||(decide (B9>600))),be0:=decide (B9>600)}:M8),0)) (.J0 0 (fun(t:Int×Int)=>[.t 11 (.t (tI t.1)),.x 30,.x 55,.c 4 3 [.t (tI t.2)]]) (.I (!(((decide (B9>500))||((decide (B9>=400))&&v4.be0))==v4.be0)) (.R (15,0)) (.R (1,F5 1000 (o4 (v4.be1+1))))) fun s=>.J0 0 (fun(t:Int)=>[.t 11 (.t (tI t))]) (.I ((decide (B9>500))||((decide (B9>=400))&&v4.be0)) (.R (o4 (0-s.1))) (.R s.1)) fun v_by=>.K (C6 (o4 (v4.aj8+v_by)) 750 1250) fun v5=>.R ((⟨v4.as8,((decide (B9>500))||((decide (B9>=400))&&v4.be0)),v5,s.2,v4.Cells⟩:M8),0)))))
def aB9 (x _ x2 n2:Int):M prog Int (Fl Int Empty):=
 .W (.hx 0)<| .I (decide (x>=x2)) (.R (.next (o4 (n2+1)))) (.R (.next n2))
def ak5 (x:Int)(bc0:List Int):C prog Int:=.of Z call387 func387 [.t (tI x),.t (tS aN3 bc0)] (fun r=>.t (tI r)) (
 M.Q aN3 bc0 2 10 (fun(t:Int)=>[.t 5 (.t (tI t))]) 0 (.e) (aB9 x) 0 (fun n3=>.R n3) (fun t=>t.elim))
def aG2 (o9 A0:Int):C prog Int:=.of Z call353 func353 [.t (tI o9),.t (tI A0)] (fun r=>.t (tI r)) (
 .K (ac2 o9 A0) fun v=>.I (!v) (.R (-1)) (.K (ak5 o9 ([1500,3500]:List Int)) fun v2=>.K (ak5 A0 ([150000,350000]:List Int)) fun v3=>.R (o4 ((o4 (3*v2))+v3))))
def aq4 (p2:M8)(o9 A0:Int):C prog (Int×Int):=.of Z call305 func305 [bs3 p2,.t (tI o9),.t (tI A0)] (fun r=>.P9 [.t (tI r.1),.t (tI r.2)]) (
 .K (ac1 p2) fun v=>.I (!v) (.R (0,1)) (.K (ac2 o9 A0) fun v2=>.I (!v2) (.R (0,2)) (.D [] []<| .K (aG2 o9 A0) fun v3=>.O (.ix an3 p2.Cells v3) fun x=>.K (C6 (o4 (p2.aj8+x.Value)) 700 1300) fun v4=>.R (v4,0))))
def ae9 (x low high:Int):C prog Bool:=.of Z call338 func338 [.t (tI x),.t (tI low),.t (tI high)] (fun r=>.t (tB r)) (
 .R ((decide (x>=low))&&(decide (x<=high))))
def aU8 (A0 bI8:Int):C prog (Int×Int):=.of Z call306 func306 [.t (tI A0),.t (tI bI8)] (fun r=>.P9 [.t (tI r.1),.t (tI r.2)]) (
 .K (ae9 A0 0 1048576) fun v=>.G (!v) (.R true) (.K (ae9 bI8 500 2000) fun v2=>.R (!v2)) fun b2=>.I b2 (.R (0,2)) (.O (.quo .i64 (o4 (A0*10000)) (o4 (bI8*147))) fun q=>.R (q,0)))
def aJ4 (b2:L4):C prog Bool:=.of Z call354 func354 [aL6 b2] (fun r=>.t (tB r)) (
 .K (ae9 b2.P0 0 1023) fun v=>.G v (.K (ae9 b2.L2 0 1024) fun v2=>.R v2) (.R false) fun b3=>.R b3)
def aM8 (cmp:Cl prog Int Int (fun x=>[.t (tI x)]) (fun r=>.t (tI r)))(s:Int×Int):M prog (Int×Bool) ((Int×Int)⊕((Int×Int)⊕Empty)):=
 .I (decide (s.1<s.2)) (.K (cmp.at (o4 (F4 .u64 (aX3.wrap (o4 (s.1+s.2))) 1))) fun v=>.I (decide (v>0)) (.R (.inl (o4 ((o4 (F4 .u64 (aX3.wrap (o4 (s.1+s.2))) 1))+1),s.2))) (.R (.inl (s.1,o4 (F4 .u64 (aX3.wrap (o4 (s.1+s.2))) 1))))) (.R (.inr (.inl (s.1,s.2))))
def aP1 (n2:Int)(cmp:Cl prog Int Int (fun x=>[.t (tI x)]) (fun r=>.t (tI r))):C prog (Int×Bool):=.of Z call355 func355 [.t (tI n2),.fz cmp.n cmp.cs] (fun r=>.P9 [.t (tI r.1),.t (tB r.2)]) (
 .L (fun(t:Int×Int)=>[.t 4 (.t (tI t.1)),.t 6 (.t (tI t.2))]) 0 (.e) (aM8 cmp) (0,n2) (fun s2=>.G (decide (s2.1<n2)) (.K (cmp.at s2.1) fun v2=>.R (v2==0)) (.R false) fun b2=>.R (s2.1,b2)) (fun t=>t.elim))
def aB8 (b2:L4)(aF8 aH8:Int):C prog (Int×Int):=.of Z call357 func357 [aL6 b2,.t (tI aF8),.t (tI aH8)] (fun r=>.P9 [.t (tI r.1),.t (tI r.2)]) (
 .D [] []<| .R (o4 ((o4 (aH8-(o4 (da1 (o4 (aH8*b2.P0)) 1024))))+(o4 (da1 (o4 (aF8*b2.L2)) 1024))),o4 ((o4 (aF8+(o4 (da1 (o4 (aH8*b2.P0)) 1024))))-(o4 (da1 (o4 (aF8*b2.L2)) 1024)))))
def aA6 (i:Int)(c:L4)(c2 c3:Int):C prog Int:=.of Z call356 func356 [.t (tI i),.el (bD9 c),.el (aN3 c2),.el (aN3 c3)] (fun r=>.t (tI r)) (
 .K (aB8 c c2 i) fun r2=>.R (o4 (c3-r2.1)))
def aJ3 (b2:L4)(aF8 br1:Int):C prog (Int×Int×Int):=.of Z call307 func307 [aL6 b2,.t (tI aF8),.t (tI br1)] (fun r=>.P9 [.t (tI r.1),.t (tI r.2.1),.t (tI r.2.2)]) (
 .K (aJ4 b2) fun v=>.I (!v) (.R (0,0,1)) (.K (ae9 aF8 0 1073741824) fun v2=>.G (!v2) (.R true) (.K (ae9 br1 0 1048576) fun v3=>.R (!v3)) fun b3=>.I b3 (.R (0,0,2)) (.Z (.fb 3)<| .Z (.fb 4)<| .Z (.fb 5)<| .K (aP1 1048577 (.of (fun z_=>aA6 z_ b2 aF8 br1) 356 [bD9 b2,aN3 aF8,aN3 br1])) fun r2=>.I (decide (r2.1>1048576)) (.R (0,0,9)) (.K (aB8 b2 aF8 r2.1) fun r3=>.I (decide (r3.2>1073741824)) (.R (0,0,9)) (.R (r2.1,r3.2,0))))))
def aO8 (b2:L4)(aF8 aH8:Int):C prog (Int×Int×Int):=.of Z call308 func308 [aL6 b2,.t (tI aF8),.t (tI aH8)] (fun r=>.P9 [.t (tI r.1),.t (tI r.2.1),.t (tI r.2.2)]) (
 .K (aJ4 b2) fun v=>.I (!v) (.R (0,0,1)) (.K (ae9 aF8 0 1073741824) fun v2=>.G (!v2) (.R true) (.K (ae9 aH8 0 1048576) fun v3=>.R (!v3)) fun b3=>.I b3 (.R (0,0,2)) (.K (aB8 b2 aF8 aH8) fun r2=>.I (decide (r2.2>1073741824)) (.R (0,0,9)) (.R (r2.1,r2.2,0)))))
def aF9 (y:Int):C prog Bool:=.of Z call337 func337 [.t (tI y)] (fun r=>.t (tB r)) (
 .K (ae9 y 0 10000) fun v=>.R (!v))
def aB7 (t2:o8)(cb5 B9:Int):C prog (Int×Int):=.of Z call270 func270 [S6 t2,.t (tI cb5),.t (tI B9)] (fun r=>.P9 [.t (tI r.1),.t (tI r.2)]) (
 .K (P2 t2.aw2) fun v=>.G (!v) (.R true) (.K (o7 t2.aw2.Y (.of (fun z_=>aF9 z_) 337 [])) fun v2=>.R v2) fun b2=>.I b2 (.R (0,1)) (.K (ae9 cb5 0 1048576) fun v3=>.G (!v3) (.R true) (.K (ae9 B9 0 20000) fun v4=>.R (!v4)) fun b3=>.I b3 (.R (0,2)) (.K (at5 t2.aw2 B9) fun v5=>.R (v5,0))))
def aO9 (t2:o8)(br1 B9:Int):C prog (Int×Int):=.of Z call309 func309 [S6 t2,.t (tI br1),.t (tI B9)] (fun r=>.P9 [.t (tI r.1),.t (tI r.2)]) (
 .K (aB7 t2 br1 B9) fun r2=>.I ((r2.2 !=0)||(br1==0)) (.R (0,r2.2)) (.K (am7 br1 3 2) fun r3=>.R (o4 (r2.1+r3.1),r3.2)))
def ad7 (s:o5):CG prog o5:=.of Z call225 func225 [.ptr 1000000 0] [(1000000,.box (av7 (Q6 s) [(63,.own 1000001)])),(1000001,.rs 267 7 s.out.O1 B3)] (fun _=>.P9 []) (fun r=>[(1000000,.box (av7 (Q6 r) [(63,.own 1000001)])),(1000001,.rs 267 7 r.out.O1 B3)]) [] (
 .D [] [(27,1000000)]<| .K (az4 s.c.Q1 s.i.Lambda s.i.D2 s.A0) fun r2=>.KG (u7 ({s with c:=(⟨s.c.I7,s.c.ae6,s.c.aa6,r2.1,s.c.P0,s.c.af2⟩:A7)}:o5) r2.2) [] fun v=>.D [] []<| .K (aq4 v.c.Q1 v.i.D2 v.A0) fun r3=>.KG (u7 v r3.2) [] fun v2=>.K (aU8 v2.A0 1000) fun r4=>.KG (u7 v2 r4.2) [] fun v3=>.D [] []<| .K (aJ3 v3.b v3.c.P0 (F5 1048576 (o4 (da1 (o4 (r4.1*r3.1)) 1000)))) fun r5=>.J0 0 (fun(t:Int×Int×o5)=>[.t 5 (.t (tI t.1)),.t 6 (.t (tI t.2.1)),.x 10,.x 11,.x 12,.x 13,.x 14,.x 16,.x 17,.x 18,.x 19,.x 21,.x 22,.x 23,.x 24,.x 26,.x 27,.x 28,.x 33,.x 34,.x 35,.x 36,.x 40,.x 41,.x 42,.x 43,.x 45,.x 46,.x 47,.x 48,.x 50,.x 51,.x 52,.x 57,.x 61,.x 62,.x 63,.x 68,.x 77,.x 78,.x 79,.x 81,.x 82,.x 83,.x 84,.x 91,.x 92,.x 93,.b 1000000 (.box (av7 (Q6 t.2.2) [(63,.own 1000001)])),.b 1000001 (.rs 267 7 t.2.2.out.O1 B3)]) (.I ((v3.ad9==0)||(r5.2.2 !=0)) (.D [] []<| .K (aO8 v3.b v3.c.P0 0) fun r6=>.KG (u7 v3 r6.2.2) [] fun v4=>.R (0,r6.2.1,v4)) (.R (r5.1,r5.2.1,v3))) fun s2=>.I (decide (s2.1>0)) (.D [] []<| .K (aO9 s2.2.2.t s2.1 s2.2.2.i.aI6) fun r7=>.KG (u7 (⟨s2.2.2.t,s2.2.2.e,s2.2.2.b,(⟨s2.2.2.c.I7,s2.2.2.c.ae6,s2.2.2.c.aa6,s2.2.2.c.Q1,s2.2.1,s2.2.2.c.af2⟩:A7),s2.2.2.i,s2.2.2.wanted,s2.2.2.A0,s2.2.2.ad9,s2.2.2.late,s2.2.2.pattern,s2.2.2.time,s2.2.2.out,s2.2.2.fail⟩:o5) r7.2) [] fun v5=>.K (C6 r7.1 200 20000) fun v6=>.R ({v5 with time:=v6}:o5)) (.R (⟨s2.2.2.t,s2.2.2.e,s2.2.2.b,(⟨s2.2.2.c.I7,s2.2.2.c.ae6,s2.2.2.c.aa6,s2.2.2.c.Q1,s2.2.1,s2.2.2.c.af2⟩:A7),s2.2.2.i,s2.2.2.wanted,s2.2.2.A0,s2.2.2.ad9,s2.2.2.late,s2.2.2.pattern,s2.2.2.time,s2.2.2.out,s2.2.2.fail⟩:o5)))
def aA7 (k:B8):C prog Bool:=.of Z call358 func358 [aX6 k] (fun r=>.t (tB r)) (
 .K (ax1 k) fun v=>.R (!v))
def aG1 (n2:Int):C prog Bool:=.of Z call359 func359 [.t (tI n2)] (fun r=>.t (tB r)) (
 .K (ah2 n2) fun v=>.R (!v))
def ad1 (s:List B8):CG prog (List B8):=.of Z call360 func360 [.t (tS I6 s)] [] (fun _=>.own 900000) (fun r=>[(900000,.rs 205 3 r I6)]) [900000] (
 .Nl I6 s (.I true (.Z (.np 2 70000 205 3 [])<| .R ([]:List B8)) .N) (fun s=>.I false .N (.U (.ap I6 ([]:List B8) s 5) fun l=>.R l)))
def aH9 (k:B8)(n2:Int):C prog (B8×Bool):=.of Z call361 func361 [aX6 k,.t (tI n2)] (fun r=>.P9 [aX6 r.1,.t (tB r.2)]) (
 .I (decide (n2>(o4 ((o4 (3*k.aI2))+40)))) (.R ((⟨F5 (o4 (k.as9+96)) 960,k.aI2,0⟩:B8),true)) (.J0 0 (fun(t:Int×Int)=>[.x 7,.x 19,.x 22,.x 23,.b 2 (.box [.t (tI t.1),.t (tI k.aI2),.t (tI t.2)])]) (.I ((o4 (k.Quiet+1))==100) (.R (G7 (o4 (k.as9-16)) 0,0)) (.R (k.as9,o4 (k.Quiet+1)))) fun s=>.D [] []<| .K (V3 (o4 (n2-k.aI2)) 8) fun v=>.R ((⟨s.1,o4 (k.aI2+v),s.2⟩:B8),false)))
def aM2 (l:List B8)(af8:List Int)(i:Int)(f2:List B8):M prog (List B8×Int) (Fl (List B8) Empty):=
 .D [] [(15,2240)]<| .O (.ix I6 l i) fun x=>.O (.ix aN3 af8 i) fun x2=>.K (aH9 x x2) fun r2=>.O (.ix I6 f2 i) fun _=>.U (.st I6 f2 i r2.1 0) fun l2=>.R (.next l2)
def aV1 (l:List B8)(af8:List Int):C prog (List B8×Int):=.of Z call310 func310 [.t (tS I6 l),.t (tS aN3 af8)] (fun r=>.P9 [.t (tS I6 r.1),.t (tI r.2)]) (
 .G (((decide ((l.length:Int)<1))||(decide ((l.length:Int)>8)))||((af8.length:Int) !=(l.length:Int))) (.R true) (.K (J3 l (.of (fun z_=>aA7 z_) 358 [])) fun v=>.R v) fun b2=>.I b2 (.R (([]:List B8),1)) (.K (o7 af8 (.of (fun z_=>aG1 z_) 359 [])) fun v2=>.I v2 (.R (([]:List B8),2)) (.KG (ad1 l) [2240] fun v3=>M.QN (v3.length:Int) 2 33 (fun(t:List B8)=>[.x 30,.x 31,.b 2240 (.rs 205 3 t I6)]) 0 (.e) (aM2 l af8) v3 (fun f3=>.R (f3,0)) (fun t=>t.elim))))
def aA8 (a b2:Int):C prog Int:=.of Z call411 func411 [.t (tI a),.t (tI b2)] (fun r=>.t (tI r)) (
 .R (o4 (b2-a)))
def aG8 (l:List Int):C prog Bool:=.of Z call388 func388 [.t (tS aN3 l)] (fun r=>.t (tB r)) (
 .K (H9 l (.of (fun z_=>aA8 z_.1 z_.2) 411 [])) fun v=>.R v)
def Q5 (x low high:Int):C prog Bool:=.of Z call363 func363 [.t (tI x),.t (tI low),.t (tI high)] (fun r=>.t (tB r)) (
 .R ((decide (x>=low))&&(decide (x<=high))))
def as7 (x c c2:Int):C prog Bool:=.of Z call412 func412 [.t (tI x),.el (aN3 c),.el (aN3 c2)] (fun r=>.t (tB r)) (
 .K (Q5 x c c2) fun v=>.R (!v))
def ac7 (l:List Int)(low high:Int):C prog Bool:=.of Z call390 func390 [.t (tS aN3 l),.t (tI low),.t (tI high)] (fun r=>.t (tB r)) (
 .Z (.fb 4)<| .Z (.fb 5)<| .K (o7 l (.of (fun z_=>as7 z_ low high) 412 [aN3 low,aN3 high])) fun v=>.R v)
def aw0 (l:List Int):C prog Bool:=.of Z call389 func389 [.t (tS aN3 l)] (fun r=>.t (tB r)) (
 .K (ac7 l (-1280) 3840) fun v=>.R v)
def ax7 (t2:o8):C prog Bool:=.of Z call362 func362 [S6 t2] (fun r=>.t (tB r)) (
 .K (J4 t2.O0) fun v=>.G (!v) (.R true) (.K (P2 t2.ae7) fun v2=>.R (!v2)) fun b2=>.G b2 (.R true) (.K (P2 t2.C3) fun v3=>.R (!v3)) fun b3=>.G b3 (.R true) (.K (aG8 t2.C3.Y) fun v4=>.R (!v4)) fun b4=>.I b4 (.R false) (.K (G0 t2.O0.Z (.of (fun z_=>aw0 z_) 389 [])) fun v5=>.G (!v5) (.K (ac7 t2.ae7.Y 500 10000) fun v6=>.R (!v6)) (.R false) fun b5=>.G b5 (.K (ac7 t2.C3.Y 0 1000) fun v7=>.R (!v7)) (.R false) fun b6=>.R b6))
def aG7 (t2:o8)(B9 M5:Int):C prog (Int×Int):=.of Z call311 func311 [S6 t2,.t (tI B9),.t (tI M5)] (fun r=>.P9 [.t (tI r.1),.t (tI r.2)]) (
 .K (ax7 t2) fun v=>.I (!v) (.R (0,1)) (.K (Q5 B9 0 20000) fun v2=>.G (!v2) (.R true) (.K (Q5 M5 4000 1000000) fun v3=>.R (!v3)) fun b2=>.I b2 (.R (0,2)) (.K (at5 t2.ae7 B9) fun v4=>.R (F5 v4 (o4 (da1 (o4 (3*M5)) 4)),0))))
def aM9 (t2:o8)(o9 A0:Int):C prog (Int×Int):=.of Z call364 func364 [S6 t2,.t (tI o9),.t (tI A0)] (fun r=>.P9 [.t (tI r.1),.t (tI r.2)]) (
 .K (ax7 t2) fun v=>.I (!v) (.R (0,1)) (.K (Q5 o9 0 12000) fun v2=>.G (!v2) (.R true) (.K (Q5 A0 0 1048576) fun v3=>.R (!v3)) fun b2=>.I b2 (.R (0,2)) (.K (X7 t2.O0 o9 A0) fun v4=>.R (v4,0))))
def aG6 (t2:o8)(o9 A0 D6 bj9:Int):C prog (Int×Int):=.of Z call312 func312 [S6 t2,.t (tI o9),.t (tI A0),.t (tI D6),.t (tI bj9)] (fun r=>.P9 [.t (tI r.1),.t (tI r.2)]) (
 .K (aM9 t2 o9 A0) fun r2=>.I (r2.2 !=0) (.R (0,r2.2)) (.K (Q5 D6 (-40) 150) fun v=>.G (!v) (.R true) (.K (Q5 bj9 0 1280) fun v2=>.R (!v2)) fun b2=>.I b2 (.R (0,2)) (.I (decide (D6<20)) (.K (C6 (o4 ((o4 (r2.1+(o4 (2*(o4 (20-D6))))))-bj9)) (-1280) 3840) fun v3=>.R (v3,0)) (.I (decide (D6>100)) (.K (C6 (o4 ((o4 (r2.1-(o4 (8*(o4 (D6-100))))))-bj9)) (-1280) 3840) fun v4=>.R (v4,0)) (.K (C6 (o4 (r2.1-bj9)) (-1280) 3840) fun v5=>.R (v5,0))))))
def ad4 (r3:Int×Int)(i:Int)(f2:o5):M prog o5 (Fl o5 Empty):=
 .D [] []<| .O (.ix I6 f2.c.aa6 i) fun x=>.K (aG6 f2.t f2.i.D2 f2.A0 f2.i.au8 x.as9) fun r4=>.KG (u7 f2 r4.2) [] fun v4=>.O (.ix Pv.cv0 v4.pattern i) fun x2=>.J0 0 (fun(t:Int)=>[.x 70,.x 71,.x 72,.x 74,.x 75,.x 76,.x 77,.x 79,.x 80,.x 81,.x 83,.x 84,.x 85,.x 86,.x 88,.x 89,.x 90,.x 91,.x 100,.x 106,.x 107,.x 108,.x 115,.x 116,.x 117,.c 8 4 [.t (tI t)]]) (.I x2 (.R v4.time) (.R 0)) fun f3=>.Pn 40000<| .D [] [(8,40000)]<| .U (.ap B3 v4.out.O1 ([(⟨o4 (i+1),G7 (-1280) (o4 (r4.1-v4.late)),G7 500 r3.1,5760,f3,0,0⟩:A1)]:List A1) 40000) fun l=>.R (.next ({v4 with out:=(⟨v4.out.J2,l,v4.out.p7⟩:O5)}:o5))
def Z9 (s:o5):CG prog o5:=.of Z call226 func226 [.ptr 1000000 0] [(1000000,.box (av7 (Q6 s) [(63,.own 1000001)])),(1000001,.rs 267 7 s.out.O1 B3)] (fun _=>.P9 []) (fun r=>[(900000,.rs 267 7 r.out.O1 B3),(1000000,.box (av7 (Q6 r) [(63,.own 900000)]))]) [900000] (
 .D [] [(18,1000000)]<| .K (aV1 s.c.aa6 s.i.X0) fun r2=>.KG (u7 ({s with c:=(⟨s.c.I7,s.c.ae6,r2.1,s.c.Q1,s.c.P0,s.c.af2⟩:A7)}:o5) r2.2) [] fun v=>.O (.quo .i64 60000000 (G7 1 v.i.D2)) fun q=>.K (C6 q 4000 1000000) fun v2=>.D [] []<| .K (aG7 v.t v.i.aI6 v2) fun r3=>.KG (u7 v r3.2) [] fun v3=>.I (v3.fail !=0) (.R v3) (.Z (.rn [(1000001,40000)])<|M.QN (v3.e.u6.length:Int) 2 66 (fun(t:o5)=>[.x 10,.x 11,.x 12,.x 13,.x 14,.x 16,.x 17,.x 18,.x 19,.x 24,.x 25,.x 26,.x 27,.x 30,.x 31,.x 32,.x 33,.x 39,.x 40,.x 41,.x 43,.x 44,.x 45,.x 46,.x 52,.x 55,.x 56,.x 57,.x 60,.x 61,.x 62,.x 63,.b 40000 (.rs 267 7 t.out.O1 B3),.b 1000000 (.box (av7 (Q6 t) [(63,.own 40000)]))]) 0 (.e) (ad4 r3) v3 (fun f4=>.R f4) (fun t=>t.elim)))
def aF1 (t2:o8)(e2:o6)(b2:L4)(c:A7)(i:W5):CG prog (A7×O5×Int):=.of Z call146 func146 [S6 t2,at9 e2,aL6 b2,aQ4 c,cZ0 i] [] (fun r=>.P9 [aQ4 r.1,.agg [.t (tI r.2.1.J2),.own 900000,.t (tI r.2.1.p7)],.t (tI r.2.2)]) (fun r=>[(900000,.rs 267 7 r.2.1.O1 B3)]) [900000] (
 .K (ab9 t2) fun v=>.G (!v) (.R true) (.K (aj3 b2) fun v2=>.R (!v2)) fun b3=>.G b3 (.R true) (.K (ap8 e2 c) fun v3=>.R (!v3)) fun b4=>.I b4 (.Z (.nb 11 70000 267 7 [1])<| .R ((⟨(⟨0,0,false⟩:U2),(⟨0⟩:F7),([]:List B8),(⟨false,false,0,0,([]:List aa7)⟩:M8),0,(⟨0,0⟩:Z8)⟩:A7),(⟨0,([]:List A1),0⟩:O5),1)) (.K (av3 i (e2.u6.length:Int)) fun v4=>.I (!v4) (.Z (.nb 11 70000 267 7 [1])<| .R ((⟨(⟨0,0,false⟩:U2),(⟨0⟩:F7),([]:List B8),(⟨false,false,0,0,([]:List aa7)⟩:M8),0,(⟨0,0⟩:Z8)⟩:A7),(⟨0,([]:List A1),0⟩:O5),2)) (.Z (.nb 46 2388 267 7 [63])<| .KG (W7 (⟨t2,e2,b2,c,i,0,0,0,0,([]:List Bool),0,(⟨0,([]:List A1),0⟩:O5),0⟩:o5)) [] fun v5=>.KG (T8 v5) [] fun v6=>.KG (aa0 v6) [] fun v7=>.KG (ad7 v7) [] fun v8=>.KG (Z9 v8) [2448] fun v9=>.I (v9.fail !=0) (.D [] [(6,10),(7,11)]<| .Z (.nb 11 70000 267 7 [1])<| .R ((⟨(⟨0,0,false⟩:U2),(⟨0⟩:F7),([]:List B8),(⟨false,false,0,0,([]:List aa7)⟩:M8),0,(⟨0,0⟩:Z8)⟩:A7),(⟨0,([]:List A1),0⟩:O5),v9.fail)) (.D [] [(8,10)]<| .R (v9.c,v9.out,0)))))
def by7 (old:A7):C prog A7:=.of Z call147 func147 [aQ4 old] (fun r=>.fz 227 [ca0 r]) (
 .Z (.fb 1)<| .R old)
def bD7 (old:O5):C prog O5:=.of Z call148 func148 [dD1 old] (fun r=>.fz 228 [cl8 r]) (
 .Z (.fb 1)<| .R old)
def bp8 (S0:A7)(e2:Int)(c:A7):C prog A7:=.of Z call227 func227 [aQ4 S0,.t (tI e2),.el (ca0 c)] (fun r=>aQ4 r) (
 .I (e2 !=0) (.R c) (.R S0))
def bt9 (S0:O5)(e2:Int)(c:O5):CG prog O5:=.of Z call228 func228 [.agg [.t (tI S0.J2),.own 1000000,.t (tI S0.p7)],.t (tI e2),.el (cl8 c)] [(1000000,.rs 267 7 S0.O1 B3)] (fun r=>.agg [.t (tI r.J2),.own 900000,.t (tI r.p7)]) (fun r=>[(900000,.rs 267 7 r.O1 B3)]) [900000] (
 .I (e2 !=0) (M.N) (.R S0))
def aU1 (s:j9):CG prog j9:=.of Z call81 func81 [.ptr 1000000 0] [(1000000,.box (av7 (G6 s) [(107,.own 1000001),(113,.own 1000002)])),(1000001,.rs 267 7 s.E9.O1 B3),(1000002,.rs 95 3 s.y9 u4)] (fun _=>.P9 []) (fun r=>[(900000,.rs 267 7 r.E9.O1 B3),(1000000,.box (av7 (G6 r) [(107,.own 900000),(113,.own 1000002)])),(1000002,.rs 95 3 r.y9 u4)]) [900000] (
 .D [] []<| .K (D5 s 0) fun v=>.K (D5 s 1) fun v2=>.Mk aN3 (s.u.j3.p6.u6.length:Int) 0 fun l=>.K (bi6 s) fun v3=>.Z (.fr 40)<| .Z (.fr 43)<| .D [] [(17,2504),(24,4),(25,5)]<| .KG (aF1 s.u.u9 s.u.j3.p6 s.u.Y4 s.u.u5 (⟨v,v2,s.o9,s.C1,s.aQ3,13500,s.aJ6,s.D6,l,([v3]:List j2)⟩:W5)) [2504] fun r2=>.D [] []<| .K (by7 s.u.u5) fun v4=>.K (bp8 r2.1 r2.2.2 v4) fun v5=>.Pn 2504<| .D [] [(5,2504)]<| .K (bD7 (⟨0,([]:List A1),0⟩:O5)) fun v6=>.KG (bt9 r2.2.1 r2.2.2 v6) [2504] fun v7=>.R ({s with u:=(⟨s.u.u9,v5,s.u.j3,s.u.Q2,s.u.M7,s.u.H8,s.u.M1,s.u.K3,s.u.J1,s.u.I0,s.u.A6,s.u.Y4,s.u.Time⟩:af3),E9:=v7}:j9))
def U3 (r2:j2):C prog Bool:=.of Z call232 func232 [G8 r2] (fun r=>.t (tB r)) (
 .K (S1 r2) fun v=>.R (!v))
def aq6 (bo2:List Int)(x i below:Int):M prog (Int×Int) (Fl Int Empty):=
 .O (.ix aN3 bo2 i) fun x2=>.I (decide (x2<=x)) (.R (.next i)) (.R (.next below))
def ae2 (bo2:List Int)(x:Int)(s:Int×Int):M prog (Int×Int) ((Int×Int)⊕((Int×Int)⊕Empty)):=
 .I (decide (s.1>=0)) (.O (.ix aN3 bo2 s.1) fun x3=>.I (decide (x3>=x)) (.R (.inl (o4 (s.1-1),s.1))) (.R (.inl (o4 (s.1-1),s.2)))) (.R (.inr (.inl (s.1,s.2))))
def ag1 (bo2:List Int)(x:Int):C prog (Int×Int):=.of Z call315 func315 [.t (tS aN3 bo2),.t (tI x)] (fun r=>.P9 [.t (tI r.1),.t (tI r.2)]) (
 M.QN (bo2.length:Int) 2 11 (fun(t:Int)=>[.t 4 (.t (tI t))]) 0 (.e) (aq6 bo2 x) 0 (fun cJ5=>.L (fun(t:Int×Int)=>[.t 5 (.t (tI t.2)),.t 8 (.t (tI t.1))]) 2 (.e) (ae2 bo2 x) (o4 ((bo2.length:Int)-1),o4 ((bo2.length:Int)-1)) (fun s2=>.O (.ix aN3 bo2 0) fun x4=>.I (decide (x<x4)) (.R (cJ5,0)) (.R (cJ5,s2.2))) (fun t=>t.elim)) (fun t=>t.elim))
def X4 (m2:SMap)(x y:Int):C prog Int:=.of Z call234 func234 [dh8 m2,.t (tI x),.t (tI y)] (fun r=>.t (tI r)) (
 .K (ag1 m2.X x) fun r2=>.K (ag1 m2.Y y) fun r3=>.D [] []<| .O (.ix (do7 aN3) m2.Z r2.1) fun x2=>.O (.ix aN3 x2 r3.1) fun x3=>.W (.hx 1)<| .O (.ix aN3 x2 r3.2) fun x4=>.O (.ix (do7 aN3) m2.Z r2.2) fun x5=>.O (.ix aN3 x5 r3.1) fun x6=>.W (.hx 1)<| .O (.ix aN3 x5 r3.2) fun x7=>.R (G7 (G7 (G7 x3 x4) x6) x7))
def ax4 (r2:j2):C prog Bool:=.of Z call235 func235 [G8 r2] (fun r=>.t (tB r)) (
 .R ((r2.Kind==2)||(r2.Kind==3)))
set_option maxHeartbeats 4000000
def af9 (_:Int)(x:j2)(s:Int×Int):M prog (Int×Int) (Fl (Int×Int) Empty):=
 .W (.hx 0)<| .K (ax4 x) fun v6=>.I (!v6) (.R (.next (s.1,s.2))) (.I (x.N4==1) (.R (.next (G7 s.1 (F5 x.p7 1500),G7 s.2 x.E7))) (.R (.next (s.1,G7 s.2 x.E7))))
def ag0 (s2:Int×Int)(_:Int)(x2:j2)(at8:Int):M prog (Int×Int) (Fl Int Empty):=
 .W (.hx 0)<| .I ((x2.Kind==1)&&(decide (x2.E7>s2.2))) (.R (.next (F5 at8 x2.p7))) (.R (.next at8))
def ae1 (t2:o8)(bg0 o9:Int)(l:List j2):C prog (Int×Int):=.of Z call150 func150 [S6 t2,.t (tI bg0),.t (tI o9),.t (tS C8 l)] (fun r=>.P9 [.t (tI r.1),.t (tI r.2)]) (
 .K (J4 t2.aI4) fun v=>.G (!v) (.R true) (.K (D8 l (.of (fun z_=>U3 z_) 232 [])) fun v2=>.R v2) fun b2=>.I b2 (.R (0,1)) (.I (decide ((l.length:Int)>32)) (.R (0,5)) (.K (N0 bg0 0 1000) fun v3=>.G (!v3) (.R true) (.K (N0 o9 0 12000) fun v4=>.R (!v4)) fun b3=>.I b3 (.R (0,2)) (.K (X4 t2.aI4 o9 bg0) fun v5=>M.Q C8 l 2 49 (fun(t:Int×Int)=>[.t 11 (.t (tI t.1)),.t 12 (.t (tI t.2)),.x 4,.x 19,.x 40,.d 4]) 1 (.e) (af9) ((-5000),(-1)) (fun s2=>M.Q C8 l 2 71 (fun(t:Int)=>[.t 15 (.t (tI t))]) 3 (.e) (ag0 s2) 10000 (fun dI6=>.R (o4 ((G7 0 (F5 dI6 (G7 (F5 (G7 v5 (-5000)) 10000) s2.1)))+100),0)) (fun t=>t.elim)) (fun t=>t.elim)))))
def aq5 (_:Int)(x:A1)(n2:Int):M prog (Int×Int) (Fl Int Empty):=
 .W (.hx 0)<| .I (x.Y5 !=0) (.R (.next (o4 (n2+1)))) (.R (.next n2))
def ax3 (t2:o8)(o9 A0:Int)(l:List A1):C prog (Int×Int):=.of Z call153 func153 [S6 t2,.t (tI o9),.t (tI A0),.t (tS B3 l)] (fun r=>.P9 [.t (tI r.1),.t (tI r.2)]) (
 .K (J4 t2.p7) fun v=>.I (!v) (.R (0,1)) (.I (decide ((l.length:Int)>8)) (.R (0,5)) (.K (N0 o9 0 12000) fun v2=>.G (!v2) (.R true) (.K (N0 A0 0 1048576) fun v3=>.R (!v3)) fun b2=>.I b2 (.R (0,2)) (.I ((l.length:Int)==0) (.R (0,0)) (M.Q B3 l 2 38 (fun(t:Int)=>[.t 10 (.t (tI t)),.x 15]) 1 (.e) (aq5) 0 (fun n3=>.K (X4 t2.p7 o9 A0) fun v4=>.O (.quo .i64 (o4 ((o4 ((o4 ((F5 (G7 v4 0) 10000)*n3))+(l.length:Int)))-1)) (l.length:Int)) fun q=>.R (q,0)) (fun t=>t.elim))))))
def au3 (c:j9):CG prog Int:=.of Z call152 func152 [.ptr 1000000 0] [(1000000,.box [.ptr 1000001 0]),(1000001,.box (av7 (G6 c) [(107,.own 1000002),(113,.own 1000003)])),(1000002,.rs 267 7 c.E9.O1 B3),(1000003,.rs 95 3 c.y9 u4)] (fun r=>.t (tI r)) (fun _=>[(1000000,.box [.ptr 1000001 0]),(1000001,.box (av7 (G6 c) [(107,.own 1000002),(113,.own 1000003)])),(1000002,.rs 267 7 c.E9.O1 B3),(1000003,.rs 95 3 c.y9 u4)]) [] (
 .D [] []<| .K (ax3 c.u.u9 c.o9 c.A0 c.E9.O1) fun r2=>.R r2.1)
def bR4 (old:ah6):C prog ah6:=.of Z call155 func155 [bl4 old] (fun r=>.fz 237 [cN4 r]) (
 .Z (.fb 1)<| .R old)
def bv1 (t2:Int):C prog Bool:=.of Z call238 func238 [.t (tI t2)] (fun r=>.t (tB r)) (
 .K (N0 t2 (-20000) 20000) fun v=>.R v)
def aV5 (g:ah6)(U8 dE0:Int):C prog (ah6×Int):=.of Z call156 func156 [bl4 g,.t (tI U8),.t (tI dE0)] (fun r=>.P9 [bl4 r.1,.t (tI r.2)]) (
 .K (aY6 g) fun v=>.I (!v) (.R ((⟨0,0,false⟩:ah6),1)) (.K (bv1 U8) fun v2=>.G (!v2) (.R true) (.K (bv1 dE0) fun v3=>.R (!v3)) fun b2=>.I b2 (.R ((⟨0,0,false⟩:ah6),2)) (.I (decide (dE0>U8)) (.R ((⟨F5 5 (o4 (g.Over+1)),0,(g.Off||((F5 5 (o4 (g.Over+1)))==5))⟩:ah6),0)) (.R ((⟨0,F5 1000 (o4 (g.Calm+1)),g.Off⟩:ah6),0)))))
def bi4 (S0:ah6)(e2:Int)(c:ah6):C prog ah6:=.of Z call237 func237 [bl4 S0,.t (tI e2),.el (cN4 c)] (fun r=>bl4 r) (
 .I (e2 !=0) (.R c) (.R S0))
def aW8 (i:Int)(f3:List A1):M prog j9 (Fl (List A1) Empty):=
 .O (.ix B3 f3 i) fun x=>.U (.st B3 f3 i ({x with Y5:=0}:A1) 0) fun l2=>.R (.next l2)
def aU2 (s:j9):CG prog j9:=.of Z call82 func82 [.ptr 1000000 0] [(1000000,.box (av7 (G6 s) [(107,.own 1000001),(113,.own 1000002)])),(1000001,.rs 267 7 s.E9.O1 B3),(1000002,.rs 95 3 s.y9 u4)] (fun _=>.P9 []) (fun r=>[(1000000,.box (av7 (G6 r) [(107,.own 1000001),(113,.own 1000002)])),(1000001,.rs 267 7 r.E9.O1 B3),(1000002,.rs 95 3 r.y9 u4)]) [] (
 .K (bi6 s) fun v=>.D [] []<| .K (aw9 s.u.u5.I7.Value s.o9 s.D6) fun v2=>.J0 0 (fun(t:List j2)=>[.t 2 (.own 11),.x 0,.x 9,.x 11,.x 12,.x 13,.x 14,.x 15,.x 16,.x 17,.x 20,.x 21,.x 22,.x 24,.x 25,.x 26,.b 11 (.rs 250 4 t C8)]) (.I v2 (.U (.ap C8 ([v]:List j2) ([(⟨1,2,1500,1⟩:j2)]:List j2) 11) fun l=>.R l) (.R ([v]:List j2))) fun f2=>.D [] [(18,1000000)]<| .K (ae1 s.u.u9 s.u.u5.I7.Value s.o9 f2) fun r2=>.D [] [(24,1000000)]<| .K (aC4 s.u.u9 s.o9 s.C1 s.aQ3) fun r3=>.KG (au3 ({s with U8:=r2.1,A0:=r3.1}:j9)) [] fun v3=>.K (aa9 ({s with U8:=r2.1,A0:=r3.1}:j9) 7) fun r4=>.J0 0 (fun(t:Int×Bool×List A1)=>[.t 5 (.t (tI t.1)),.x 2,.x 4,.x 34,.x 35,.x 36,.x 37,.x 38,.x 41,.x 42,.x 43,.x 45,.x 49,.x 50,.x 52,.x 53,.x 54,.x 55,.x 56,.x 58,.x 59,.x 60,.x 62,.x 63,.x 64,.x 66,.x 67,.x 68,.x 73,.x 74,.x 75,.x 76,.x 79,.x 84,.x 85,.x 86,.c 1000000 112 [.t (tB t.2.1)],.b 1000001 (.rs 267 7 t.2.2 B3),.d 11]) (.I ((decide (v3>r2.1))&&(!r4.2)) (M.QN (s.E9.O1.length:Int) 2 102 (fun(t:List A1)=>[.x 2,.x 34,.x 35,.x 36,.x 37,.x 38,.x 41,.x 42,.x 43,.x 45,.x 49,.x 50,.x 52,.x 53,.x 54,.x 55,.x 56,.x 58,.x 59,.x 60,.x 62,.x 63,.x 64,.x 66,.x 67,.x 68,.x 73,.x 74,.x 75,.x 76,.x 79,.x 84,.x 85,.x 86,.x 93,.x 94,.x 95,.x 96,.x 97,.x 98,.x 99,.x 100,.b 1000001 (.rs 267 7 t B3),.d 11]) 0 (.e) (aW8) s.E9.O1 (fun f4=>.KG (au3 ({s with E9:=(⟨s.E9.J2,f4,s.E9.p7⟩:O5),U8:=r2.1,A0:=r3.1,cut:=true}:j9)) [] fun v4=>.R (v4,true,f4)) (fun t=>t.elim)) (.R (v3,s.cut,s.E9.O1))) fun s2=>.D [] []<| .K (bR4 s.u.M1) fun v5=>.K (aV5 s.u.M1 r2.1 s2.1) fun r5=>.K (bi4 r5.1 r5.2 v5) fun v6=>.R ({s with u:=(⟨s.u.u9,s.u.u5,s.u.j3,s.u.Q2,s.u.M7,s.u.H8,v6,s.u.K3,s.u.J1,s.u.I0,s.u.A6,s.u.Y4,s.u.Time⟩:af3),E9:=(⟨s.E9.J2,s2.2.2,s.E9.p7⟩:O5),U8:=r2.1,A0:=r3.1,cut:=s2.2.1}:j9))
def ab8 (a b2:Int):C prog Int:=.of Z call157 func157 [.t (tI a),.t (tI b2)] (fun r=>.t (tI r)) (
 .I ((b2==0)||(b2==(-1))) (.R 0) (.O (.rem a b2) fun q=>.I ((q !=0)&&(!((decide (q<0))==(decide (b2<0))))) (.R (o4 (q+b2))) (.R q)))
def cx0 (n2:Int):C prog Bool:=.of Z call241 func241 [.t (tI n2)] (fun r=>.t (tB r)) (
 .R ((decide (n2>=0))&&(decide (n2<=65535))))
def dn4 (p2:Int):C prog Bool:=.of Z call318 func318 [.t (tI p2)] (fun r=>.t (tB r)) (
 .K (cx0 p2) fun v=>.R (!v))
def bK4 (l:List Int):C prog Bool:=.of Z call239 func239 [.t (tS aN3 l)] (fun r=>.t (tB r)) (
 .G ((decide ((l.length:Int)>=1))&&(decide ((l.length:Int)<=16))) (.K (o7 l (.of (fun z_=>dn4 z_) 318 [])) fun v=>.R (!v)) (.R false) fun b2=>.R b2)
def bv6 (_ x a:Int):M prog (Int×Int) (Fl Int Empty):=
 .W (.hx 0)<| .R (.next (ad3 .i64 (o4 ((o4 ((o4 (5*a))+x))+1)) 65535))
def bn4 (n2:Int)(l:List Int):C prog (Int×Int):=.of Z call158 func158 [.t (tI n2),.t (tS aN3 l)] (fun r=>.P9 [.t (tI r.1),.t (tI r.2)]) (
 .K (bK4 l) fun v=>.I (!v) (.R (0,1)) (.K (aY8 n2) fun v2=>.I (!v2) (.R (0,2)) (M.Q aN3 l 2 18 (fun(t:Int)=>[.t 6 (.t (tI t))]) 0 (.e) (bv6) n2 (fun a2=>.R (a2,0)) (fun t=>t.elim))))
def bA6 (old:ac8):C prog ac8:=.of Z call159 func159 [aT4 old] (fun r=>.fz 240 [dc2 r]) (
 .Z (.fb 1)<| .R old)
def cS2 (q:ac8)(right:Bool):C prog ac8:=.of Z call242 func242 [aT4 q,.t (tB right)] (fun r=>aT4 r) (
 .J0 0 (fun(t:Int)=>[.x 5,.x 6,.c 2 2 [.t (tI t)]]) (.I right (.R (G7 (o4 (q.T3-1)) 0)) (.R (F5 (o4 (q.T3+2)) 7))) fun f2=>.R (⟨q.Question,0,f2,false,(f2==7)⟩:ac8))
def cf9 (q:ac8)(now answer:Int)(l:List Int):C prog (ac8×Int):=.of Z call160 func160 [aT4 q,.t (tI now),.t (tI answer),.t (tS aN3 l)] (fun r=>.P9 [aT4 r.1,.t (tI r.2)]) (
 .K (bj5 q) fun v=>.G (!v) (.R true) (.K (bK4 l) fun v2=>.R (!v2)) fun b2=>.I b2 (.R ((⟨0,0,0,false,false⟩:ac8),1)) (.K (br3 now) fun v3=>.G (!v3) (.R true) (.K (cx0 answer) fun v4=>.R (!v4)) fun b3=>.I b3 (.R ((⟨0,0,0,false,false⟩:ac8),2)) (.I (!q.Open) (.R ((⟨0,0,0,false,false⟩:ac8),6)) (.I (decide (now<q.ar9)) (.R ((⟨0,0,0,false,false⟩:ac8),16)) (.K (bn4 q.Question l) fun r2=>.K (cS2 q (((r2.1==answer)&&(decide ((o4 (now-q.ar9))>=10000)))&&(decide ((o4 (now-q.ar9))<=20000)))) fun v5=>.R (v5,0))))))
def cw9 (n2:Int):C prog Int:=.of Z call243 func243 [.t (tI n2)] (fun r=>.t (tI r)) (
 .K (aY8 n2) fun v=>.I (!v) (.R 0) (.I ((ad3 .i64 n2 1)==1) (.R (dF0 .i64 (F4 .i64 n2 1) 46080)) (.R (F4 .i64 n2 1))))
def cS0 (q:ac8)(now:Int):C prog (ac8×Int×Int):=.of Z call161 func161 [aT4 q,.t (tI now)] (fun r=>.P9 [aT4 r.1,.t (tI r.2.1),.t (tI r.2.2)]) (
 .K (bj5 q) fun v=>.I (!v) (.R ((⟨0,0,0,false,false⟩:ac8),0,1)) (.K (br3 now) fun v2=>.I (!v2) (.R ((⟨0,0,0,false,false⟩:ac8),0,2)) (.I (q.Open||q.Off) (.R ((⟨0,0,0,false,false⟩:ac8),0,6)) (.K (cw9 q.Question) fun v3=>.D [] [(3,4)]<| .R ((⟨v3,now,q.T3,true,q.Off⟩:ac8),v3,0)))))
def aZ9 (S0:ac8)(e2:Int)(c:ac8):C prog ac8:=.of Z call240 func240 [aT4 S0,.t (tI e2),.el (dc2 c)] (fun r=>aT4 r) (
 .I (e2 !=0) (.R c) (.R S0))
def aF3 (s:j9):CG prog j9:=.of Z call83 func83 [.ptr 1000000 0] [(1000000,.box (av7 (G6 s) [(113,.own 1000001)])),(1000001,.rs 95 3 s.y9 u4)] (fun _=>.P9 []) (fun r=>[(1000000,.box (av7 (G6 r) [(113,.own 1000001)])),(1000001,.rs 95 3 r.y9 u4)]) [] (
 .J0 0 (fun(t:ac8)=>[.x 10,.x 11,.x 12,.x 13,.x 14,.c 1000000 66 [.t (tI t.Question),.t (tI t.ar9),.t (tI t.T3),.t (tB t.Open),.t (tB t.Off)]]) (.I s.u.K3.Open (.D [] []<| .K (ab8 s.U8 65536) fun v=>.K (bn4 s.u.K3.Question ([s.o9,v,7]:List Int)) fun r2=>.K (aa9 s 6) fun r3=>.J0 0 (fun(t:Int)=>[.t 3 (.t (tI t)),.x 10,.x 11,.x 12,.x 13,.x 14,.x 16,.x 17,.x 18,.x 20,.x 21,.x 22,.x 25,.x 27,.x 28,.x 29,.x 30,.x 31,.x 33,.x 38]) (.I r3.2 (.K (ab8 (o4 (r2.1+r3.1)) 65536) fun v2=>.R v2) (.R r2.1)) fun answer=>.D [] []<| .K (bA6 s.u.K3) fun v3=>.K (cf9 s.u.K3 s.t answer ([s.o9,v,7]:List Int)) fun r4=>.K (aZ9 r4.1 r4.2 v3) fun v4=>.R v4) (.R s.u.K3)) fun f2=>.D [] [(15,7)]<| .K (cS0 f2 s.t) fun r5=>.D [] []<| .K (bA6 f2) fun v5=>.K (aZ9 r5.1 r5.2.2 v5) fun v6=>.R ({s with u:=(⟨s.u.u9,s.u.u5,s.u.j3,s.u.Q2,s.u.M7,s.u.H8,s.u.M1,v6,s.u.J1,s.u.I0,s.u.A6,s.u.Y4,s.u.Time⟩:af3)}:j9))
def bR5 (old:ao4):C prog ao4:=.of Z call162 func162 [bl5 old] (fun r=>.fz 244 [bu3 r]) (
 .Z (.fb 1)<| .R old)
def bU8 (key:Bool)(g:ah6)(q:ac8):C prog Int:=.of Z call245 func245 [.t (tB key),bl4 g,aT4 q] (fun r=>.t (tI r)) (
 .I (!key) (.R 1) (.I g.Off (.R 2) (.I q.Off (.R 3) (.R 0))))
def cg8 (s:ao4)(key:Bool)(g:ah6)(q:ac8)(now:Int):C prog (ao4×Int):=.of Z call163 func163 [bl5 s,.t (tB key),bl4 g,aT4 q,.t (tI now)] (fun r=>.P9 [bl5 r.1,.t (tI r.2)]) (
 .K (bn6 s) fun v=>.G (!v) (.R true) (.K (aY6 g) fun v2=>.R (!v2)) fun b2=>.G b2 (.R true) (.K (bj5 q) fun v3=>.R (!v3)) fun b3=>.I b3 (.R ((⟨false,0,0⟩:ao4),1)) (.K (bL0 now) fun v4=>.I (!v4) (.R ((⟨false,0,0⟩:ao4),2)) (.I (decide (now<s.aQ6)) (.R ((⟨false,0,0⟩:ao4),16)) (.D [] []<| .K (bU8 key g q) fun v5=>.I (!((v5==0)==s.K7)) (.R ((⟨(v5==0),v5,now⟩:ao4),0)) (.R ((⟨(v5==0),v5,s.aQ6⟩:ao4),0))))))
def aC9 (old:c8):C prog c8:=.of Z call166 func166 [R8 old] (fun r=>.fz 251 [bf1 r]) (
 .Z (.fb 1)<| .R old)
def am9 (S0:c8)(e2:Int)(c:c8):C prog c8:=.of Z call251 func251 [R8 S0,.t (tI e2),.el (bf1 c)] (fun r=>R8 r) (
 .I (e2 !=0) (.R c) (.R S0))
def aH6 (s:j9)(S0:c8)(l:List j8)(e2:Int):CG prog j9:=.of Z call164 func164 [.ptr 1000000 0,R8 S0,.t (tS u4 l),.t (tI e2)] [(1000000,.box (av7 (G6 s) [(113,.own 1000001)])),(1000001,.rs 95 3 s.y9 u4)] (fun _=>.P9 []) (fun r=>[(900000,.rs 95 3 r.y9 u4),(1000000,.box (av7 (G6 r) [(113,.own 900000)]))]) [900000] (
 .D [] []<| .K (aC9 s.u.j3) fun v=>.K (am9 S0 e2 v) fun v2=>.I (e2==0) (.Z (.rn [(1000001,2232)])<| .U (.ap u4 s.y9 l 2232) fun l2=>.R ({s with u:=(⟨s.u.u9,s.u.u5,v2,s.u.Q2,s.u.M7,s.u.H8,s.u.M1,s.u.K3,s.u.J1,s.u.I0,s.u.A6,s.u.Y4,s.u.Time⟩:af3),y9:=l2}:j9)) (.R ({s with u:=(⟨s.u.u9,s.u.u5,v2,s.u.Q2,s.u.M7,s.u.H8,s.u.M1,s.u.K3,s.u.J1,s.u.I0,s.u.A6,s.u.Y4,s.u.Time⟩:af3)}:j9)))
def T7 (s:List A1):C prog (List A1):=.of Z call253 func253 [.t (tS B3 s)] (fun r=>.t (tS B3 r)) (
 .Nl B3 s (.I true (.R ([]:List A1)) .N) (fun s=>.I false .N (.U (.ap B3 ([]:List A1) s 5) fun l=>.R l)))
def aj5 (s:List A3):CG prog (List A3):=.of Z call319 func319 [.t (tS I3 s)] [] (fun _=>.own 900000) (fun r=>[(900000,.rs 221 7 r I3)]) [900000] (
 .Nl I3 s (.I true (.Z (.np 2 70000 221 7 [])<| .R ([]:List A3)) .N) (fun s=>.I false .N (.U (.ap I3 ([]:List A3) s 5) fun l=>.R l)))
def L6 (s:c8):CG prog c8:=.of Z call246 func246 [R8 s] [] (fun r=>.agg [.t (tS aN3 r.p6.u6),.t (tI r.p6.as0),.t (tB r.B1.V7),.t (tI r.B1.At),.t (tI r.B1.H2),.t (tI r.B1.F9),.t (tI r.B1.aa4),.t (tI r.B1.aj7),.t (tI r.j4.Q7),.t (tS E8 r.j4.j1),.t (tS B3 r.Next),.own 900000,.t (tB r.Cut)]) (fun r=>[(900000,.rs 221 7 r.D1 I3)]) [900000] (
 .KG (aj5 s.D1) [2040] fun v=>.K (T7 s.Next) fun v2=>.R ({s with Next:=v2,D1:=v}:c8))
def ag7 (t2:w9)(channel:Int):CG prog (w9×Int):=.of Z call320 func320 [aN4 t2,.t (tI channel)] [] (fun r=>.P9 [.agg [.t (tI r.1.Q7),.own 900000],.t (tI r.2)]) (fun r=>[(900000,.rs 327 4 r.1.j1 E8)]) [900000] (
 .K (an9 t2) fun v=>.I (!v) (.Z (.nb 4 70000 327 4 [1])<| .R ((⟨0,([]:List j7)⟩:w9),1)) (.I ((decide (channel<0))||(decide (channel>=(t2.j1.length:Int)))) (.Z (.nb 4 70000 327 4 [1])<| .R ((⟨0,([]:List j7)⟩:w9),2)) (.Mk E8 (t2.j1.length:Int) (⟨false,0,false,false⟩:j7) fun l=>.U (.cp E8 l t2.j1) fun l2=>.R ((⟨t2.Q7,l2⟩:w9),0))))
def aH1 (t2:w9)(channel:Int)(level:Bool):C prog (w9×List j8×Int):=.of Z call247 func247 [aN4 t2,.t (tI channel),.t (tB level)] (fun r=>.P9 [aN4 r.1,.t (tS u4 r.2.1),.t (tI r.2.2)]) (
 .KG (ag7 t2 channel) [2112] fun r2=>.I (r2.2 !=0) (.R ((⟨0,([]:List j7)⟩:w9),([]:List j8),r2.2)) (.O (.ix E8 r2.1.j1 channel) fun _=>.U (.st E8 r2.1.j1 channel (⟨false,0,false,level⟩:j7) 0) fun l=>.O (.ix E8 t2.j1 channel) fun x2=>.I (x2.E3==level) (.R ((⟨r2.1.Q7,l⟩:w9),([]:List j8),0)) (.D [] [(7,6)]<| .R ((⟨r2.1.Q7,l⟩:w9),([(⟨t2.Q7,channel,level⟩:j8)]:List j8),0))))
def az9 (t2:w9)(channel:Int):C prog (w9×Int):=.of Z call248 func248 [aN4 t2,.t (tI channel)] (fun r=>.P9 [aN4 r.1,.t (tI r.2)]) (
 .KG (ag7 t2 channel) [2088] fun r2=>.I (r2.2 !=0) (.R ((⟨0,([]:List j7)⟩:w9),r2.2)) (.D [] []<| .O (.ix E8 t2.j1 channel) fun x=>.O (.ix E8 r2.1.j1 channel) fun _=>.U (.st E8 r2.1.j1 channel (⟨false,0,false,x.E3⟩:j7) 0) fun l=>.R ((⟨r2.1.Q7,l⟩:w9),0)))
def as6 (j:A3)(c:Int):C prog Bool:=.of Z call249 func249 [bd7 j,.el (aN3 c)] (fun r=>.t (tB r)) (
 .D [] []<| .K (H4 j.Event) fun v=>.R (v==c))
def aK0 (t2:w9)(channel aZ5:Int)(level:Bool):C prog (w9×Int):=.of Z call250 func250 [aN4 t2,.t (tI channel),.t (tI aZ5),.t (tB level)] (fun r=>.P9 [aN4 r.1,.t (tI r.2)]) (
 .KG (ag7 t2 channel) [2120] fun r2=>.I (r2.2 !=0) (.R ((⟨0,([]:List j7)⟩:w9),r2.2)) (.I (decide (aZ5<=t2.Q7)) (.R ((⟨0,([]:List j7)⟩:w9),16)) (.I (decide (aZ5>1099511627776)) (.R ((⟨0,([]:List j7)⟩:w9),2)) (.D [] []<| .O (.ix E8 t2.j1 channel) fun x=>.O (.ix E8 r2.1.j1 channel) fun _=>.U (.st E8 r2.1.j1 channel (⟨true,aZ5,level,x.E3⟩:j7) 0) fun l=>.R ((⟨r2.1.Q7,l⟩:w9),0)))))
def ac3 (s:c8)(i:Int)(s2:List j8×w9×List A3):M prog (c8×List j8×Int) (Fl (List j8×w9×List A3) Empty):=
 .O (.ix E8 s.j4.j1 i) fun x=>.I (x.E3&&((!((ep0 i 2)==0))||(s.j4.Q7==1099511627776))) (.K (aH1 s2.2.1 i false) fun r2=>.U (.ap u4 s2.1 r2.2.1 2528) fun l=>.R (.next (l,r2.1,s2.2.2))) (.K (az9 s2.2.1 i) fun r3=>.I (!x.E3) (.R (.next (s2.1,r3.1,s2.2.2))) (.Z (.fb 8)<| .K (C2 s.D1 (.of (fun z_=>as6 z_ i) 249 [aN3 i])) fun v3=>.O (.ix I3 s.D1 v3) fun x2=>.J0 0 (fun(t:Int)=>[.x 9,.x 44,.x 68,.x 75,.x 76,.x 79,.x 83,.x 88,.c 17 6 [.t (tI t)],.d 9]) (.I ((!x2.D9)||(decide (x2.At>(o4 (s.j4.Q7+5000))))) (.R (F5 (o4 (s.j4.Q7+5000)) 1099511627776)) (.R x2.At)) fun f2=>.K (aK0 r3.1 i f2 false) fun r4=>.U (.ap I3 s2.2.2 ([(⟨x2.Event,x2.Left,true,f2⟩:A3)]:List A3) 2944) fun l2=>.R (.next (s2.1,r4.1,l2))))
def ao8 (s:c8):C prog (c8×List j8×Int):=.of Z call165 func165 [R8 s] (fun r=>.P9 [R8 r.1,.t (tS u4 r.2.1),.t (tI r.2.2)]) (
 .K (J9 s) fun v=>.I (!v) (.R ((⟨(⟨([]:List Int),0⟩:o6),(⟨false,0,0,0,0,0⟩:D3),(⟨0,([]:List j7)⟩:w9),([]:List A1),([]:List A3),false⟩:c8),([]:List j8),1)) (.K ((L6 s).f rfl (fun _=>rfl)) fun v2=>.I s.Cut (.R (v2,([]:List j8),0)) (.Z (.np 7 2528 95 3 [])<| .Z (.nb 5 2944 221 7 [11])<|M.QN (s.j4.j1.length:Int) 2 36 (fun(t:List j8×w9×List A3)=>[.t 7 (.own 2528),.x 24,.x 27,.x 28,.x 29,.x 30,.x 32,.x 33,.c 5 8 [.t (tI t.2.1.Q7),.t (tS E8 t.2.1.j1)],.b 2528 (.rs 95 3 t.1 u4),.b 2944 (.rs 221 7 t.2.2 I3)]) 0 (.e) (ac3 s) (([]:List j8),v2.j4,([]:List A3)) (fun s3=>.R ((⟨v2.p6,v2.B1,s3.2.1,v2.Next,s3.2.2,true⟩:c8),s3.1,0)) (fun t=>t.elim))))
def ag2 (x:j7):C prog Bool:=.of Z call252 func252 [ba8 x] (fun r=>.t (tB r)) (
 .R x.E3)
def ac4 (s:c8):C prog (c8×Int):=.of Z call167 func167 [R8 s] (fun r=>.P9 [R8 r.1,.t (tI r.2)]) (
 .K (J9 s) fun v=>.I (!v) (.R ((⟨(⟨([]:List Int),0⟩:o6),(⟨false,0,0,0,0,0⟩:D3),(⟨0,([]:List j7)⟩:w9),([]:List A1),([]:List A3),false⟩:c8),1)) (.G (!s.Cut) (.R true) (.K (G4 s.j4.j1 (.of (fun z_=>ag2 z_) 252 [])) fun v2=>.R v2) fun b2=>.I b2 (.R ((⟨(⟨([]:List Int),0⟩:o6),(⟨false,0,0,0,0,0⟩:D3),(⟨0,([]:List j7)⟩:w9),([]:List A1),([]:List A3),false⟩:c8),6)) (.K ((L6 s).f rfl (fun _=>rfl)) fun v3=>.R (({v3 with Cut:=false}:c8),0))))
def aq8 (s:c8)(l:List A1):C prog (c8×Int):=.of Z call168 func168 [R8 s,.t (tS B3 l)] (fun r=>.P9 [R8 r.1,.t (tI r.2)]) (
 .K (J9 s) fun v=>.G (!v) (.R true) (.K (ab1 s.p6 l) fun v2=>.R (!v2)) fun b2=>.I b2 (.R ((⟨(⟨([]:List Int),0⟩:o6),(⟨false,0,0,0,0,0⟩:D3),(⟨0,([]:List j7)⟩:w9),([]:List A1),([]:List A3),false⟩:c8),1)) (.K ((L6 s).f rfl (fun _=>rfl)) fun v3=>.K (T7 l) fun v4=>.R (({v3 with Next:=v4}:c8),0)))
def bi5 (S0:ao4)(e2:Int)(c:ao4):C prog ao4:=.of Z call244 func244 [bl5 S0,.t (tI e2),.el (bu3 c)] (fun r=>bl5 r) (
 .I (e2 !=0) (.R c) (.R S0))
def ba1 (s:j9):CG prog j9:=.of Z call84 func84 [.ptr 1000000 0] [(1000000,.box (av7 (G6 s) [(113,.own 1000001)])),(1000001,.rs 95 3 s.y9 u4)] (fun _=>.P9 []) (fun r=>[(900000,.rs 95 3 r.y9 u4),(1000000,.box (av7 (G6 r) [(113,.own 900000)]))]) [900000] (
 .D [] []<| .K (bR5 s.u.J1) fun v=>.K (cg8 s.u.J1 true s.u.M1 s.u.K3 s.t) fun r2=>.K (bi5 r2.1 r2.2 v) fun v2=>.I (!v2.K7) (.K (ao8 s.u.j3) fun r3=>.KG (aH6 ({s with u:=(⟨s.u.u9,s.u.u5,s.u.j3,s.u.Q2,s.u.M7,s.u.H8,s.u.M1,s.u.K3,v2,s.u.I0,s.u.A6,s.u.Y4,s.u.Time⟩:af3)}:j9) r3.1 r3.2.1 r3.2.2) [2416] fun v3=>.R v3) (.J0 0 (fun(t:c8)=>[.x 2,.x 3,.x 4,.x 5,.x 6,.x 9,.x 10,.x 11,.x 12,.x 14,.x 15,.x 16,.x 17,.x 19,.x 20,.x 21,.x 22,.x 24,.x 25,.x 26,.x 32,.x 33,.x 34,.x 35,.x 36,.x 37,.x 38,.x 39,.x 53,.x 54,.x 55,.x 56,.x 57,.c 1000000 37 [.t (tS aN3 t.p6.u6),.t (tI t.p6.as0),.t (tB t.B1.V7),.t (tI t.B1.At),.t (tI t.B1.H2),.t (tI t.B1.F9),.t (tI t.B1.aa4),.t (tI t.B1.aj7),.t (tI t.j4.Q7),.t (tS E8 t.j4.j1),.t (tS B3 t.Next),.t (tS I3 t.D1),.t (tB t.Cut)]]) (.I s.u.j3.Cut (.D [] []<| .K (aC9 s.u.j3) fun v4=>.K (ac4 s.u.j3) fun r4=>.K (am9 r4.1 r4.2 v4) fun v5=>.R v5) (.R s.u.j3)) fun f2=>.D [] []<| .K (aC9 f2) fun v6=>.K (aq8 f2 s.E9.O1) fun r5=>.K (am9 r5.1 r5.2 v6) fun v7=>.R ({s with u:=(⟨s.u.u9,s.u.u5,v7,s.u.Q2,s.u.M7,s.u.H8,s.u.M1,s.u.K3,v2,s.u.I0,s.u.A6,s.u.Y4,s.u.Time⟩:af3)}:j9)))
def U9 (j:A3)(c:Int):C prog Bool:=.of Z call374 func374 [bd7 j,.el (aN3 c)] (fun r=>.t (tB r)) (
 .D [] []<| .K (H4 j.Event) fun v=>.R (v==c))
def az6 (a b2:Int):C prog Int:=.of Z call375 func375 [.t (tI a),.t (tI b2)] (fun r=>.t (tI r)) (
 .O (.quo .i64 a b2) fun q=>.O (.rem a b2) fun q2=>.I (decide (q2>0)) (.R (o4 (q+1))) (.R q))
def V0 (s:c8)(i:Int)(s2:w9×List A3):M prog c8 (Fl (w9×List A3) Empty):=
 .Z (.fb 2)<| .K (C2 s2.2 (.of (fun z_=>U9 z_ i) 374 [aN3 i])) fun v=>.J0 1 (fun(t:Bool)=>[.t 44 (.t (tB t)),.x 21,.x 22,.x 23,.x 24]) (.D [] []<| .Sp (decide (v<0)) (.R true) (.O (.ix I3 s2.2 v) fun x=>.W (.ly 0)<| .R (decide (x.Left>s.B1.aj7)))) fun v2=>.I v2 (.R (.next (s2.1,s2.2))) (.O (.ix I3 s2.2 v) fun x2=>.D [] []<| .W (.ly 0)<| .K (az6 (o4 (x2.Left*s.B1.F9)) s.B1.aa4) fun v3=>.I (decide ((G7 (o4 (s.B1.At+v3)) (o4 (s2.1.Q7+1)))>1099511627776)) (.R (.next (s2.1,s2.2))) (.D [] [(17,6)]<| .W (.ly 0)<| .K (ar0 x2.Event.Kind) fun v4=>.K (aK0 s2.1 i (G7 (o4 (s.B1.At+v3)) (o4 (s2.1.Q7+1))) v4) fun r2=>.I (r2.2==0) (.U (.st I3 s2.2 v ({x2 with D9:=true}:A3) 0) fun l=>.U (.st I3 l v (⟨x2.Event,x2.Left,true,G7 (o4 (s.B1.At+v3)) (o4 (s2.1.Q7+1))⟩:A3) 0) fun l2=>.R (.next (r2.1,l2))) (.R (.next (s2.1,s2.2)))))
def ak6 (s:c8):CG prog c8:=.of Z call332 func332 [.ptr 1000000 0] [(1000000,.box (av7 (aL7 s) [(11,.own 1000001)])),(1000001,.rs 221 7 s.D1 I3)] (fun _=>.P9 []) (fun r=>[(1000000,.box (av7 (aL7 r) [(11,.own 1000001)])),(1000001,.rs 221 7 r.D1 I3)]) [] (
 .I s.Cut (.R s) (M.QN (s.j4.j1.length:Int) 2 18 (fun(t:w9×List A3)=>[.x 8,.x 9,.x 10,.x 12,.x 13,.x 14,.x 15,.c 1000000 8 [.t (tI t.1.Q7),.t (tS E8 t.1.j1)],.b 1000001 (.rs 221 7 t.2 I3)]) 0 (.e) (V0 s) (s.j4,s.D1) (fun s3=>.R ({s with j4:=s3.1,D1:=s3.2}:c8)) (fun t=>t.elim)))
def aI0 (_:Int)(x:j7)(s:Int×Bool):M prog (Int×Bool) (Fl (Int×Bool) Empty):=
 .W (.hx 0)<| .I (x.D9&&((!s.2)||(decide (x.At<s.1)))) (.R (.next (x.At,true))) (.R (.next (s.1,s.2)))
def aN1 (t2:w9):C prog (Int×Bool):=.of Z call333 func333 [aN4 t2] (fun r=>.P9 [.t (tI r.1),.t (tB r.2)]) (
 .K (an9 t2) fun v=>.I (!v) (.R (0,false)) (M.Q E8 t2.j1 2 14 (fun(t:Int×Bool)=>[.t 4 (.t (tI t.1)),.t 5 (.t (tB t.2)),.x 1,.x 11,.d 1]) 0 (.e) (aI0) (0,false) (fun s2=>.R (s2.1,s2.2)) (fun t=>t.elim)))
def cp2:Go.Shelf.Ren:=⟨fun|6=>376|14=>404|15=>405|20=>424|21=>425|22=>426|23=>427|24=>428|25=>429|26=>430|27=>431|28=>432|29=>433|46=>447|47=>448|48=>449|49=>450|50=>451|57=>465|n=>n,fun|0=>0|3=>3|4=>4|5=>5|9=>9|22=>88|24=>95|25=>454|39=>317|45=>487|46=>488|50=>234|53=>383|55=>386|66=>503|70=>507|76=>516|77=>338|n=>n,fun|n=>n⟩
open Go.Shelf in
theorem ev0:SlLaysF0.n6 prog cp2:={
 mixed:=by kernel_rfl,
 f6:=⟨Tryz.f376.name,by decide,func376.trans (congrArg some (by kernel_rfl))⟩,
 f14:=⟨Tryz.f404.name,by decide,func404.trans (congrArg some (by kernel_rfl))⟩,
 f15:=func405.trans (congrArg some (by kernel_rfl)),
 f20:=⟨Tryz.f424.name,by decide,func424.trans (congrArg some (by kernel_rfl))⟩,
 f21:=⟨Tryz.f425.name,by decide,func425.trans (congrArg some (by kernel_rfl))⟩,
 f22:=⟨Tryz.f426.name,by decide,func426.trans (congrArg some (by kernel_rfl))⟩,
 f23:=⟨Tryz.f427.name,by decide,func427.trans (congrArg some (by kernel_rfl))⟩,
 f24:=⟨Tryz.f428.name,by decide,func428.trans (congrArg some (by kernel_rfl))⟩,
 f25:=⟨Tryz.f429.name,by decide,func429.trans (congrArg some (by kernel_rfl))⟩,
 f26:=⟨Tryz.f430.name,by decide,func430.trans (congrArg some (by kernel_rfl))⟩,
 f27:=⟨Tryz.f431.name,by decide,func431.trans (congrArg some (by kernel_rfl))⟩,
 f28:=func432.trans (congrArg some (by kernel_rfl)),
 f29:=func433.trans (congrArg some (by kernel_rfl)),
 f46:=⟨Tryz.f447.name,by decide,func447.trans (congrArg some (by kernel_rfl))⟩,
 f47:=func448.trans (congrArg some (by kernel_rfl)),
 f48:=func449.trans (congrArg some (by kernel_rfl)),
 f49:=⟨Tryz.f450.name,by decide,func450.trans (congrArg some (by kernel_rfl))⟩,
 f50:=⟨Tryz.f451.name,by decide,func451.trans (congrArg some (by kernel_rfl))⟩,
 f57:=⟨Tryz.f465.name,by decide,func465.trans (congrArg some (by kernel_rfl))⟩,
 t0:=Tryz.underlying0,
 a0:=Tryz.isAgg0,
 z0:=Tryz.sizeOf0,
 v0:=Tryz.zeroValue0,
 t3:=Tryz.underlying3,
 a3:=Tryz.isAgg3,
 z3:=Tryz.sizeOf3,
 v3:=Tryz.zeroValue3,
 t4:=Tryz.underlying4,
 a4:=Tryz.isAgg4,
 z4:=Tryz.sizeOf4,
 v4:=Tryz.zeroValue4,
 t5:=Tryz.underlying5,
 a5:=Tryz.isAgg5,
 z5:=Tryz.sizeOf5,
 v5:=Tryz.zeroValue5,
 t9:=Tryz.underlying9,
 a9:=Tryz.isAgg9,
 z9:=Tryz.sizeOf9,
 v9:=Tryz.zeroValue9,
 t22:=Tryz.underlying88,
 a22:=Tryz.isAgg88,
 z22:=Tryz.sizeOf88,
 v22:=Tryz.zeroValue88,
 t25:=Tryz.underlying454,
 a25:=Tryz.isAgg454,
 z25:=Tryz.sizeOf454,
 v25:=Tryz.zeroValue454,
 t39:=Tryz.underlying317,
 a39:=Tryz.isAgg317,
 z39:=Tryz.sizeOf317,
 v39:=Tryz.zeroValue317,
 t45:=Tryz.underlying487,
 a45:=Tryz.isAgg487,
 z45:=Tryz.sizeOf487,
 v45:=Tryz.zeroValue487,
 t46:=Tryz.underlying488,
 a46:=Tryz.isAgg488,
 z46:=Tryz.sizeOf488,
 v46:=Tryz.zeroValue488,
 t50:=Tryz.underlying234,
 a50:=Tryz.isAgg234,
 z50:=Tryz.sizeOf234,
 v50:=Tryz.zeroValue234,
 t53:=Tryz.underlying383,
 a53:=Tryz.isAgg383,
 z53:=Tryz.sizeOf383,
 v53:=Tryz.zeroValue383,
 t55:=Tryz.underlying386,
 a55:=Tryz.isAgg386,
 z55:=Tryz.sizeOf386,
 v55:=Tryz.zeroValue386,
 t66:=Tryz.underlying503,
 a66:=Tryz.isAgg503,
 z66:=Tryz.sizeOf503,
 v66:=Tryz.zeroValue503,
 t70:=Tryz.underlying507,
 a70:=Tryz.isAgg507,
 z70:=Tryz.sizeOf507,
 v70:=Tryz.zeroValue507,
 t76:=Tryz.underlying516,
 a76:=Tryz.isAgg516,
 z76:=Tryz.sizeOf516,
 v76:=Tryz.zeroValue516,
 t77:=Tryz.underlying338,
 a77:=Tryz.isAgg338,
 z77:=Tryz.sizeOf338,
 v77:=Tryz.zeroValue338}
theorem br4 (s:List j8)(n:Nat)(cs:List (List Tree))(f:j8->j8->Option Int)(h:∀x0 x1,aQ7 prog n ([aB0 x0,aB0 x1]++cs.map T.el) (f x0 x1) (fun r=>.t (tI r))):
  bh4 prog 376 [.own 1000000,.fz n cs] [(1000000,.rows 95 3 s.length (s.map u4))] (bU5 f s) (fun _=>.P9 []) (fun r=>[(1000000,.rows 95 3 r.length (r.map u4))]):=
 cp0 (E:=j8) (enc:=u4) (ρ:=cp2) ev0 (k:=3) (fun x=>[.int .i64 x.At,.int .i64 x.Channel,.bool x.E3]) (fun _=>rfl) (fun _=>rfl) (fun x v hv=>by simp only[ch6,eL8,or_false]at hv;rcases hv with rfl|rfl|rfl<;>rfl) (fun w=>Tryz.isAgg95 w) (fun w=>Tryz.sizeOf95 w) (A:=aB0) (fun _=>rfl) f h s
def X6 (s:List j8)(f:Cl prog (j8×j8) Int (fun x=>[aB0 x.1,aB0 x.2]) (fun r=>.t (tI r))):CG prog (List j8):=
 ⟨376,[.own 1000000,.fz f.n f.cs],[(1000000,.rows 95 3 s.length (s.map u4))],bU5 (fun x y=>f.f (x,y)) s,fun k=>dg1 (fun x y=>f.e k (x,y)) s,fun _=>.P9 [],fun r=>[(1000000,.rows 95 3 r.length (r.map u4))],[],br4 s f.n f.cs _ (fun x y=>f.ok (x,y)),fun k r h=>dA0 (fun x y r h=>f.le k (x,y) r h) h⟩
def ao6 (_ x:Int)(_:Unit):M prog Int (Fl Unit Int):=
 .W (.hx 0)<| .I (x !=0) (.R (.ret x)) (.R (.next ()))
def af6 (bx5:List Int):C prog Int:=.of Z call378 func378 [.t (tS aN3 bx5)] (fun r=>.t (tI r)) (
 M.Q aN3 bx5 2 8 (fun(_:Unit)=>[]) 0 (.one .rt) (ao6) () (fun _=>.R 0) (fun r2=>.R r2))
def W9 (a b2:j8):C prog Int:=.of Z call377 func377 [aB0 a,aB0 b2] (fun r=>.t (tI r)) (
 .D [] []<| .K (F6 a.At b2.At) fun v=>.K (F6 a.Channel b2.Channel) fun v2=>.K (af6 ([v,v2]:List Int)) fun v3=>.R v3)
def au7 (t2:w9)(K5 i:Int)(s:List j8×List j7):M prog (w9×List j8×Int) (Fl (List j8×List j7) Empty):=
 .O (.ix E8 t2.j1 i) fun x=>.I ((!x.D9)||(decide (x.At>K5))) (.R (.next (s.1,s.2))) (.J0 0 (fun(t:List j8)=>[.t 9 (.own 2496),.x 40,.x 49,.x 51,.b 2496 (.rs 95 3 t u4)]) (.I (!(x.Next==x.E3)) (.U (.ap u4 s.1 ([(⟨x.At,i,x.Next⟩:j8)]:List j8) 2496) fun l=>.R l) (.R s.1)) fun f2=>.O (.ix E8 s.2 i) fun _=>.U (.st E8 s.2 i (⟨false,0,false,x.Next⟩:j7) 0) fun l2=>.R (.next (f2,l2)))
def ak7 (t2:w9)(K5:Int):C prog (w9×List j8×Int):=.of Z call334 func334 [aN4 t2,.t (tI K5)] (fun r=>.P9 [aN4 r.1,.t (tS u4 r.2.1),.t (tI r.2.2)]) (
 .KG (ag7 t2 0) [2112] fun r2=>.I (r2.2 !=0) (.R ((⟨0,([]:List j7)⟩:w9),([]:List j8),r2.2)) (.I (decide (K5<t2.Q7)) (.R ((⟨0,([]:List j7)⟩:w9),([]:List j8),16)) (.I (decide (K5>1099511627776)) (.R ((⟨0,([]:List j7)⟩:w9),([]:List j8),2)) (.Z (.np 9 2496 95 3 [])<|M.QN (t2.j1.length:Int) 2 35 (fun(t:List j8×List j7)=>[.t 9 (.own 2496),.x 2,.x 12,.x 14,.x 15,.x 24,.x 32,.b 2112 (.rs 327 4 t.2 E8),.b 2496 (.rs 95 3 t.1 u4),.d 2]) 1 (.e) (au7 t2 K5) (([]:List j8),r2.1.j1) (fun s2=>.KG (X6 s2.1 (.of (fun z_=>W9 z_.1 z_.2) 377 [])) [] fun v=>.R ((⟨K5,s2.2⟩:w9),v,0)) (fun t=>t.elim)))))
def L0 (s:List A3)(del:Cl prog A3 Bool (fun x=>[bd7 x]) (fun r=>.t (tB r))):CG prog (List A3):=⟨335,[.own 1000000,.fz del.n del.cs],[(1000000,.rs 221 7 s I3)],Pv.L0 s (fun x0=>del.f x0),fun _=>dt3 s,(fun _=>.own 900000),(fun r=>[(900000,.rs 221 7 r I3)]),[900000],br2 s del.n del.cs (fun x0=>del.f x0) (fun x0=>del.ok x0),fun _ r h=>bq9 h⟩
def an7 (j:A3)(c:Int):C prog Bool:=.of Z call336 func336 [bd7 j,.el (aN3 c)] (fun r=>.t (tB r)) (
 .R (j.D9&&(j.At==c)))
def Y1 (K5:Int)(s2:List j8×c8):M prog (List j8×c8) ((List j8×c8)⊕((List j8×c8)⊕Empty)):=
 .K (aN1 s2.2.j4) fun r2=>.I ((!r2.2)||(decide (r2.1>K5))) (.R (.inr (.inl (s2.1,s2.2)))) (.D [] [(11,8)]<| .K (ak7 s2.2.j4 r2.1) fun r3=>.U (.ap u4 s2.1 r3.2.1 2360) fun l=>.Z (.fb 6)<| .KG (L0 s2.2.D1 (.of (fun z_=>an7 z_ r2.1) 336 [aN3 r2.1])) [2417] fun v=>.KG (ak6 (⟨s2.2.p6,s2.2.B1,r3.1,s2.2.Next,v,s2.2.Cut⟩:c8)) [] fun v2=>.Z (.rn [(2417,2416)])<| .R (.inl (l,v2)))
def ab2 (s:c8)(K5:Int):CG prog (List j8×c8):=.of Z call269 func269 [.ptr 1000000 0,.t (tI K5)] [(1000000,.box (av7 (aL7 s) [(11,.own 1000001)])),(1000001,.rs 221 7 s.D1 I3)] (fun r=>.t (tS u4 r.1)) (fun r=>[(900000,.rs 221 7 r.2.D1 I3),(1000000,.box (av7 (aL7 r.2) [(11,.own 900000)]))]) [900000] (
 .Z (.np 5 2360 95 3 [])<| .Z (.rn [(1000001,2416)])<| .L (fun(t:List j8×c8)=>[.t 5 (.own 2360),.b 2360 (.rs 95 3 t.1 u4),.b 2416 (.rs 221 7 t.2.D1 I3),.b 1000000 (.box (av7 (aL7 t.2) [(11,.own 2416)]))]) 0 (.e) (Y1 K5) (([]:List j8),s) (fun s3=>.K (ak7 s3.2.j4 K5) fun r4=>.U (.ap u4 s3.1 r4.2.1 2360) fun l2=>.Z (.fr 2360)<| .R (l2,(⟨s3.2.p6,s3.2.B1,r4.1,s3.2.Next,s3.2.D1,s3.2.Cut⟩:c8))) (fun t=>t.elim))
def T1 (s:c8)(K5:Int):C prog (c8×List j8×Int):=.of Z call179 func179 [R8 s,.t (tI K5)] (fun r=>.P9 [R8 r.1,.t (tS u4 r.2.1),.t (tI r.2.2)]) (
 .K (J9 s) fun v=>.I (!v) (.R ((⟨(⟨([]:List Int),0⟩:o6),(⟨false,0,0,0,0,0⟩:D3),(⟨0,([]:List j7)⟩:w9),([]:List A1),([]:List A3),false⟩:c8),([]:List j8),1)) (.I (decide (K5<s.j4.Q7)) (.R ((⟨(⟨([]:List Int),0⟩:o6),(⟨false,0,0,0,0,0⟩:D3),(⟨0,([]:List j7)⟩:w9),([]:List A1),([]:List A3),false⟩:c8),([]:List j8),16)) (.I (decide (K5>1099511627776)) (.R ((⟨(⟨([]:List Int),0⟩:o6),(⟨false,0,0,0,0,0⟩:D3),(⟨0,([]:List j7)⟩:w9),([]:List A1),([]:List A3),false⟩:c8),([]:List j8),2)) (.KG (L6 s) [2208] fun v2=>.KG (ab2 v2 K5) [2224] fun r2=>.R (r2.2,r2.1,0)))))
def aY4 (s:j9)(aZ5:Int):CG prog j9:=.of Z call254 func254 [.ptr 1000000 0,.t (tI aZ5)] [(1000000,.box (av7 (G6 s) [(113,.own 1000001)])),(1000001,.rs 95 3 s.y9 u4)] (fun _=>.P9 []) (fun r=>[(900000,.rs 95 3 r.y9 u4),(1000000,.box (av7 (G6 r) [(113,.own 900000)]))]) [900000] (
 .K (T1 s.u.j3 aZ5) fun r2=>.KG (aH6 s r2.1 r2.2.1 r2.2.2) [2120] fun v=>.K (ao8 v.u.j3) fun r3=>.KG (aH6 v r3.1 r3.2.1 r3.2.2) [2208] fun v2=>.R v2)
def ba2 (s:j9)(S0:Y9)(aZ5:Int):CG prog j9:=.of Z call169 func169 [.ptr 1000000 0,aP5 S0,.t (tI aZ5)] [(1000000,.box (av7 (G6 s) [(113,.own 1000001)])),(1000001,.rs 95 3 s.y9 u4)] (fun _=>.P9 []) (fun r=>[(900000,.rs 95 3 r.y9 u4),(1000000,.box (av7 (G6 r) [(113,.own 900000)]))]) [900000] (
 .I ((s.u.Q2.Mode !=0)&&(S0.Mode==0)) (.K (cw6) fun v=>.KG (aY4 ({s with u:=(⟨s.u.u9,s.u.u5,s.u.j3,S0,v,s.u.H8,s.u.M1,s.u.K3,s.u.J1,s.u.I0,s.u.A6,s.u.Y4,s.u.Time⟩:af3)}:j9) aZ5) [2256] fun v2=>.R v2) (.R ({s with u:=(⟨s.u.u9,s.u.u5,s.u.j3,S0,s.u.M7,s.u.H8,s.u.M1,s.u.K3,s.u.J1,s.u.I0,s.u.A6,s.u.Y4,s.u.Time⟩:af3)}:j9)))
def bA7 (old:Y9):C prog Y9:=.of Z call170 func170 [aP5 old] (fun r=>.fz 255 [dc3 r]) (
 .Z (.fb 1)<| .R old)
def bX8 (w:aI7)(s:Y9):C prog Bool:=.of Z call321 func321 [aC2 w,aP5 s] (fun r=>.t (tB r)) (
 .D [] []<| .K (aT1 w) fun v=>.R (s.ay6==(o4 (v-1))))
def bl2 (w:aI7)(s:Y9):C prog Int:=.of Z call256 func256 [aC2 w,aP5 s] (fun r=>.t (tI r)) (
 .K (bX8 w s) fun v=>.I v (.R (o4 ((o4 (w.aP6+1))*s.N9))) (.R s.N9))
def ch2 (w:aI7)(s:Y9)(now:Int):C prog (Y9×Int):=.of Z call171 func171 [aC2 w,aP5 s,.t (tI now)] (fun r=>.P9 [aP5 r.1,.t (tI r.2)]) (
 .K (bw2 w s) fun v=>.I (!v) (.R ((⟨0,0,0,0,0,0⟩:Y9),1)) (.K (bg4 now) fun v2=>.I (!v2) (.R ((⟨0,0,0,0,0,0⟩:Y9),2)) (.I ((s.Mode !=0)&&(decide (now<s.H0))) (.R ((⟨0,0,0,0,0,0⟩:Y9),16)) (.J0 0 (fun(t:Int)=>[.t 8 (.t (tI t)),.x 3,.x 21,.d 3]) (.I (s.Mode==2) (.K (bl2 w s) fun v3=>.R (o4 (4*v3))) (.I (decide (s.aw3>0)) (.R (o4 (4*s.N9))) (.R 1000000))) fun most=>.I ((s.Mode !=0)&&(decide ((o4 (now-s.H0))>most))) (.R ((⟨0,0,0,0,0,0⟩:Y9),0)) (.R (s,0))))))
def bw4 (p2:Int):C prog Bool:=.of Z call322 func322 [.t (tI p2)] (fun r=>.t (tB r)) (
 .R ((decide (p2>=0))&&(decide (p2<=1099511627776))))
def bk3 (b2:Int)(S0:Cl prog Int Int (fun x=>[.t (tI x)]) (fun r=>.t (tI r)))(s:List Int×Int):M prog (List Int×Int) ((List Int×Int)⊕((List Int×Int)⊕(List Int×Int))):=
 .I (decide (s.2<=b2)) (.I ((s.1.length:Int)==1000) (.R (.inr (.inr (([]:List Int),5)))) (.U (.ap aN3 s.1 ([s.2]:List Int) 2304) fun l=>.K (S0.at s.2) fun v4=>.R (.inl (l,v4)))) (.R (.inr (.inl (s.1,s.2))))
def bl3 (a b2:Int)(S0:Cl prog Int Int (fun x=>[.t (tI x)]) (fun r=>.t (tI r))):C prog (List Int×Int):=.of Z call257 func257 [.t (tI a),.t (tI b2),.fz S0.n S0.cs] (fun r=>.P9 [.t (tS aN3 r.1),.t (tI r.2)]) (
 .K (bw4 a) fun v=>.G (!v) (.R true) (.K (bw4 b2) fun v2=>.R (!v2)) fun b3=>.I (b3||(decide (a>b2))) (.R (([]:List Int),2)) (.K (S0.at a) fun v3=>.Z (.np 8 2304 3 1 [])<| .L (fun(t:List Int×Int)=>[.t 8 (.own 2304),.t 9 (.t (tI t.2)),.b 2304 (.rs 3 1 t.1 aN3)]) 0 (.one .rt) (bk3 b2 S0) (([]:List Int),v3) (fun s2=>.R (s2.1,0)) (fun r2=>.R r2)))
def bd1 (w:aI7):C prog Int:=.of Z call323 func323 [aC2 w] (fun r=>.t (tI r)) (
 .K (aL5 w) fun v=>.I (!v) (.R 0) (.O (.quo .i64 23040 w.aw3) fun q=>.R q))
def ch5 (w:aI7)(p2:Int):C prog (Int×Int):=.of Z call259 func259 [aC2 w,.t (tI p2)] (fun r=>.P9 [.t (tI r.1),.t (tI r.2)]) (
 .K (ab8 p2 23040) fun v=>.K (bd1 w) fun v2=>.O (.quo .i64 (o4 (p2-(o4 (p2-v)))) v2) fun q=>.K (aT1 w) fun v3=>.I (decide ((o4 (q+1))>=v3)) (.R (o4 ((o4 (p2-v))+23040),0)) (.K (bd1 w) fun v4=>.R (o4 ((o4 (p2-v))+(o4 ((o4 (q+1))*v4))),o4 (q+1))))
def ba7 (p2:Int)(c:aI7):C prog Int:=.of Z call258 func258 [.t (tI p2),.el (ce3 c)] (fun r=>.t (tI r)) (
 .K (ch5 c p2) fun r2=>.R r2.1)
def bB5 (w:aI7)(a b2:Int):C prog (List Int×Int):=.of Z call172 func172 [aC2 w,.t (tI a),.t (tI b2)] (fun r=>.P9 [.t (tS aN3 r.1),.t (tI r.2)]) (
 .K (aL5 w) fun v=>.I (!v) (.R (([]:List Int),1)) (.Z (.fb 3)<| .K (bl3 a b2 (.of (fun z_=>ba7 z_ w) 258 [ce3 w])) fun r2=>.R (r2.1,r2.2)))
def aE3 (p2 v _ x:Int)(_:Unit):M prog Int (Fl Unit Int):=
 .W (.hx 0)<| .I (decide ((o4 ((o4 (p2-v))+x))>p2)) (.R (.ret (o4 ((o4 (p2-v))+x)))) (.R (.next ()))
def aN2 (p2:Int)(c:ci3):C prog Int:=.of Z call260 func260 [.t (tI p2),.el (cN3 c)] (fun r=>.t (tI r)) (
 .K (ab8 p2 46080) fun v=>M.Q aN3 c.bx7 2 14 (fun(_:Unit)=>[]) 0 (.one .rt) (aE3 p2 v) () (fun _=>.O (.ix aN3 c.bx7 0) fun x2=>.R (o4 ((o4 ((o4 (p2-v))+46080))+x2))) (fun r2=>.R r2))
def bk2 (c:ci3)(a b2:Int):C prog (List Int×Int):=.of Z call173 func173 [bO0 c,.t (tI a),.t (tI b2)] (fun r=>.P9 [.t (tS aN3 r.1),.t (tI r.2)]) (
 .K (aT2 c) fun v=>.I (!v) (.R (([]:List Int),1)) (.Z (.fb 3)<| .K (bl3 a b2 (.of (fun z_=>aN2 z_ c) 260 [cN3 c])) fun r2=>.R (r2.1,r2.2)))
def aF4 (s:j9)(_ x:Int)(out:List Int):M prog (List Int) (Fl (List Int) Empty):=
 .W (.hx 0)<| .D [] []<| .K (V3 (o4 (s.u.A6.I8-(o4 (65536*x)))) s.u.A6.D2) fun v=>.U (.ap aN3 out ([o4 (s.t-v)]:List Int) 2328) fun l2=>.R (.next l2)
def aw6 (s:j9)(l:List Int):CG prog (List Int):=.of Z call174 func174 [.ptr 1000000 0,.t (tS aN3 l)] [(1000000,.box (av7 (G6 s) [(113,.own 1000001)])),(1000001,.rs 95 3 s.y9 u4)] (fun r=>.t (tS aN3 r)) (fun _=>[(1000000,.box (av7 (G6 s) [(113,.own 1000001)])),(1000001,.rs 95 3 s.y9 u4)]) [] (
 .D [] []<| .Z (.np 7 2328 3 1 [])<|M.Q aN3 l 2 24 (fun(t:List Int)=>[.t 7 (.own 2328),.x 10,.x 11,.x 12,.x 13,.x 14,.x 16,.x 17,.x 18,.x 19,.x 20,.b 2328 (.rs 3 1 t aN3)]) 0 (.e) (aF4 s) ([]:List Int) (fun dm8=>.Z (.fr 2328)<| .R dm8) (fun t=>t.elim))
def bu0 (old:aa8):C prog aa8:=.of Z call176 func176 [aX7 old] (fun r=>.fz 262 [cN6 r]) (
 .Z (.fb 1)<| .R old)
def cw5 (c:ci3)(p2:aa8):C prog (aa8×Int):=.of Z call177 func177 [bO0 c,aX7 p2] (fun r=>.P9 [aX7 r.1,.t (tI r.2)]) (
 .K (bn3 c p2) fun v=>.I (!v) (.R ((⟨false,0,0,false⟩:aa8),1)) (.I p2.Seen (.R (({p2 with E5:=F5 16 (o4 (p2.E5+1))}:aa8),0)) (.R (p2,0))))
def aT8 (S0:aa8)(e2:Int)(c:aa8):C prog aa8:=.of Z call262 func262 [aX7 S0,.t (tI e2),.el (cN6 c)] (fun r=>aX7 r) (
 .I (e2 !=0) (.R c) (.R S0))
def ba3 (c:j9)(c2:List Int):CG prog (j9×List Int):=.of Z call175 func175 [.ptr 1000000 0,.ptr 1000003 0] [(1000000,.box [.ptr 1000001 0]),(1000001,.box (av7 (G6 c) [(113,.own 1000002)])),(1000002,.rs 95 3 c.y9 u4),(1000003,.box [.t (tS aN3 c2)])] (fun _=>.P9 []) (fun r=>[(1000000,.box [.ptr 1000001 0]),(1000001,.box (av7 (G6 r.1) [(113,.own 1000002)])),(1000002,.rs 95 3 r.1.y9 u4),(1000003,.box [.t (tS aN3 r.2)])]) [] (
 .D [] []<| .K (bu0 c.u.M7) fun v=>.K (bD6) fun v2=>.K (cw5 v2 c.u.M7) fun r2=>.K (aT8 r2.1 r2.2 v) fun v3=>.U (.sF aN3 c2 1 (c2.length:Int)) fun l=>.R (({c with u:=(⟨c.u.u9,c.u.u5,c.u.j3,c.u.Q2,v3,c.u.H8,c.u.M1,c.u.K3,c.u.J1,c.u.I0,c.u.A6,c.u.Y4,c.u.Time⟩:af3)}:j9),l))
def ba0 (S0:Y9)(e2:Int)(c:Y9):C prog Y9:=.of Z call255 func255 [aP5 S0,.t (tI e2),.el (dc3 c)] (fun r=>aP5 r) (
 .I (e2 !=0) (.R c) (.R S0))
def bg5 (f2:X8):C prog Int:=.of Z call325 func325 [bc1 f2] (fun r=>.t (tI r)) (
 .K (aH2 f2) fun v=>.I ((!v)||(!f2.Seen)) (.R 0) (.R (G7 20 (o4 (da1 f2.F9 4)))))
def bk1 (f2:X8)(t2:Int):C prog (X8×Bool×Int):=.of Z call263 func263 [bc1 f2,.t (tI t2)] (fun r=>.P9 [bc1 r.1,.t (tB r.2.1),.t (tI r.2.2)]) (
 .K (aH2 f2) fun v=>.I (!v) (.R ((⟨false,0,0⟩:X8),false,1)) (.K (aV9 t2) fun v2=>.I (!v2) (.R ((⟨false,0,0⟩:X8),false,2)) (.I (f2.Seen&&(decide (t2<f2.H0))) (.R ((⟨false,0,0⟩:X8),false,16)) (.J0 1 (fun(t:Bool)=>[.t 28 (.t (tB t)),.x 19]) (.D [] []<| .Sp f2.Seen (.K (bg5 f2) fun v3=>.R (decide ((o4 (t2-f2.H0))<v3))) (.R false)) fun v4=>.I v4 (.R (f2,false,0)) (.I f2.Seen (.R ((⟨true,t2,o4 (t2-f2.H0)⟩:X8),true,0)) (.R ((⟨true,t2,0⟩:X8),true,0)))))))
def bM3 (old:X8):C prog X8:=.of Z call264 func264 [bc1 old] (fun r=>.fz 326 [cz9 r]) (
 .Z (.fb 1)<| .R old)
def dB1 (w:aI7)(normal period:Int):C prog Bool:=.of Z call368 func368 [aC2 w,.t (tI normal),.t (tI period)] (fun r=>.t (tB r)) (
 .I (w.aP6==1) (.R (decide ((o4 (2*period))>(o4 (3*normal))))) (.R (decide (period>(o4 (2*normal))))))
def cx9 (p2 q:Int):C prog Bool:=.of Z call369 func369 [.t (tI p2),.t (tI q)] (fun r=>.t (tB r)) (
 .R (decide ((o4 (4*(G7 (o4 (p2-q)) (o4 (q-p2)))))<=q)))
def cy0 (w:aI7)(s:Y9)(t2:Int):C prog Y9:=.of Z call327 func327 [aC2 w,aP5 s,.t (tI t2)] (fun r=>aP5 r) (
 .I (s.Mode==1) (.G (s.aw3==2) (.K (dB1 w s.N9 (o4 (t2-s.H0))) fun v=>.R v) (.R false) fun b2=>.I b2 (.O (.quo .i64 (o4 (t2-s.H0)) (o4 (w.aP6+1))) fun q=>.R (⟨2,0,t2,o4 (t2-s.H0),q,0⟩:Y9)) (.G (s.aw3 !=0) (.K (cx9 (o4 (t2-s.H0)) s.N9) fun v2=>.R v2) (.R false) fun b3=>.I b3 (.R (⟨1,0,t2,o4 (t2-s.H0),o4 (t2-s.H0),2⟩:Y9)) (.R (⟨1,0,t2,o4 (t2-s.H0),o4 (t2-s.H0),1⟩:Y9)))) (.I (s.Mode==2) (.K (bl2 w s) fun v3=>.K (cx9 (o4 (t2-s.H0)) v3) fun v4=>.I (!v4) (.R (⟨0,0,0,0,0,0⟩:Y9)) (.K (bX8 w s) fun v5=>.I v5 (.O (.quo .i64 (o4 (t2-s.H0)) (o4 (w.aP6+1))) fun q2=>.R (⟨2,0,t2,o4 (t2-s.H0),q2,0⟩:Y9)) (.R (⟨2,o4 (s.ay6+1),t2,o4 (t2-s.H0),o4 (t2-s.H0),0⟩:Y9)))) (.R (⟨1,0,t2,0,0,0⟩:Y9))))
def cx8 (w:aI7)(s:Y9)(t2:Int):C prog (Y9×Int):=.of Z call265 func265 [aC2 w,aP5 s,.t (tI t2)] (fun r=>.P9 [aP5 r.1,.t (tI r.2)]) (
 .K (bw2 w s) fun v=>.I (!v) (.R ((⟨0,0,0,0,0,0⟩:Y9),1)) (.K (bg4 t2) fun v2=>.I (!v2) (.R ((⟨0,0,0,0,0,0⟩:Y9),2)) (.I ((s.Mode !=0)&&(decide (t2<=s.H0))) (.R ((⟨0,0,0,0,0,0⟩:Y9),16)) (.K (cy0 w s t2) fun v3=>.R (v3,0)))))
def bL5 (c:ci3):C prog (Int×Int):=.of Z call328 func328 [bO0 c] (fun r=>.P9 [.t (tI r.1),.t (tI r.2)]) (
 .K (aT2 c) fun v=>.I (!v) (.R (0,0)) (.K (cq6 c) fun r2=>.R (r2.1,r2.2)))
def bJ9 (c:ci3)(p2:aa8):C prog (aa8×Int):=.of Z call266 func266 [bO0 c,aX7 p2] (fun r=>.P9 [aX7 r.1,.t (tI r.2)]) (
 .K (bn3 c p2) fun v=>.I (!v) (.R ((⟨false,0,0,false⟩:aa8),1)) (.I (!p2.Seen) (.R ((⟨false,0,0,true⟩:aa8),0)) (.K (bL5 c) fun r2=>.J0 0 (fun(t:Int)=>[.t 9 (.t (tI t)),.x 2,.x 16,.x 25,.d 2]) (.I (p2.E5==r2.1) (.R 0) (.I (p2.E5==r2.2) (.R 1) (.R (-1)))) fun half=>.I ((decide (half>=0))&&((!p2.aY0)||(p2.bF9==half))) (.R ((⟨true,o4 (1-half),0,true⟩:aa8),0)) (.R ((⟨false,0,0,true⟩:aa8),0)))))
def bV7 (w:aI7)(bV4:Int):C prog (Int×Int):=.of Z call329 func329 [aC2 w,.t (tI bV4)] (fun r=>.P9 [.t (tI r.1),.t (tI r.2)]) (
 .K (aL5 w) fun v=>.I (!v) (.R (0,1)) (.G (decide (bV4<0)) (.R true) (.K (aT1 w) fun v2=>.R (decide (bV4>=v2))) fun b2=>.I b2 (.R (0,2)) (.K (bd1 w) fun v3=>.R (o4 (bV4*v3),0))))
def bO9 (w:aI7)(t2 bV4 half period:Int):C prog (D3×Int):=.of Z call267 func267 [aC2 w,.t (tI t2),.t (tI bV4),.t (tI half),.t (tI period)] (fun r=>.P9 [bB7 r.1,.t (tI r.2)]) (
 .K (aL5 w) fun v=>.I (!v) (.R ((⟨false,0,0,0,0,0⟩:D3),1)) (.K (bV7 w bV4) fun r2=>.G (r2.2 !=0) (.R true) (.K (av1 t2) fun v2=>.R (!v2)) fun b2=>.I ((((b2||(decide (half<0)))||(decide (half>1)))||(decide (period<(o4 (w.aP6+1)))))||(decide (period>1073741824))) (.R ((⟨false,0,0,0,0,0⟩:D3),2)) (.K (bd1 w) fun v3=>.J0 0 (fun(t:Int)=>[.c 15 3 [.t (tI t)]]) (.I (bV4==0) (.O (.quo .i64 period (o4 (w.aP6+1))) fun q=>.R q) (.R period)) fun f2=>.K (aT1 w) fun v4=>.I (bV4==(o4 (v4-1))) (.R ((⟨true,t2,o4 ((o4 (half*23040))+r2.1),f2,v3,o4 (v3*(o4 (w.aP6+1)))⟩:D3),0)) (.R ((⟨true,t2,o4 ((o4 (half*23040))+r2.1),f2,v3,v3⟩:D3),0)))))
def Q8 (bL4 K5:Int):C prog Int:=.of Z call330 func330 [.t (tI bL4),.t (tI K5)] (fun r=>.t (tI r)) (
 .K (ah7 bL4) fun v=>.G (!v) (.R true) (.K (ah7 K5) fun v2=>.R (!v2)) fun b2=>.I b2 (.R (-1)) (.K (ab8 (o4 (K5-bL4)) 46080) fun v3=>.R v3))
def aK7 (c:D3):C prog Int:=.of Z call398 func398 [bB7 c] (fun r=>.t (tI r)) (
 .K (ai9 c) fun v=>.I (!v) (.R 1) (.I (!c.V7) (.R 6) (.R 0)))
def bl8 (a b2:Int):C prog Int:=.of Z call399 func399 [.t (tI a),.t (tI b2)] (fun r=>.t (tI r)) (
 .K (am7 a b2 2) fun r2=>.R r2.1)
def aF0 (c:D3)(bV5:Int):C prog (Int×Int):=.of Z call370 func370 [bB7 c,.t (tI bV5)] (fun r=>.P9 [.t (tI r.1),.t (tI r.2)]) (
 .K (aK7 c) fun v=>.I (v !=0) (.R (0,v)) (.I ((decide (bV5<0))||(decide (bV5>46080))) (.R (0,2)) (.K (bl8 (o4 (bV5*c.F9)) c.aa4) fun v2=>.R (v2,0))))
def ak4 (e2:o6)(aC8:Int):C prog (Int×Bool):=.of Z call400 func400 [at9 e2,.t (tI aC8)] (fun r=>.P9 [.t (tI r.1),.t (tB r.2)]) (
 .K (V6 e2.u6 aC8) fun v=>.D [] []<| .O (.quo .i64 (o4 ((G7 v 0)*46080)) (e2.u6.length:Int)) fun q=>.R (ep0 (o4 (e2.as0+q)) 46080,decide (v>=0)))
def av5 (e2:o6)(aC8:Int):C prog (Int×Int):=.of Z call371 func371 [at9 e2,.t (tI aC8)] (fun r=>.P9 [.t (tI r.1),.t (tI r.2)]) (
 .K (O7 e2) fun v=>.I (!v) (.R (0,1)) (.K (ak4 e2 aC8) fun r2=>.I (!r2.2) (.R (0,7)) (.R (r2.1,0))))
def Y0 (f2:A1)(c:Int):C prog Bool:=.of Z call372 func372 [aP4 f2,.el (aN3 c)] (fun r=>.t (tB r)) (
 .R (f2.u0==c))
def ao7 (f2:A1)(c:o6):C prog Bool:=.of Z call416 func416 [aP4 f2,.el (bR7 c)] (fun r=>.t (tB r)) (
 .K (X1 c f2) fun v=>.R (!v))
def av6 (g c:A1):C prog Bool:=.of Z call417 func417 [aP4 g,.el (B3 c)] (fun r=>.t (tB r)) (
 .R (g.u0==c.u0))
def O6 (aZ5 kind bT4:Int)(c:List B6)(c2:A1):CG prog (List B6):=.of Z call418 func418 [.t (tI aZ5),.t (tI kind),.t (tI bT4),.ptr 1000000 0,.el (B3 c2)] [(1000000,.box [.own 1000001]),(1000001,.rs 219 4 c ay1)] (fun _=>.P9 []) (fun r=>[(900000,.rs 219 4 r ay1),(1000000,.box [.own 900000])]) [900000] (
 .D [] []<| .K (ab8 aZ5 46080) fun v=>.Z (.rn [(1000001,2136)])<| .U (.ap ay1 c ([(⟨v,kind,c2.u0,bT4⟩:B6)]:List B6) 2136) fun l=>.R l)
def K2 (d c:Int):C prog Int:=.of Z call419 func419 [.t (tI d),.el (aN3 c)] (fun r=>.t (tI r)) (
 .O (.quo .i64 (o4 (d*23040)) c) fun q=>.R q)
def ak3 (f2:A1):C prog Int:=.of Z call420 func420 [aP4 f2] (fun r=>.t (tI r)) (
 .I (f2.Y5==0) (.R 0) (.I (f2.Extra==0) (.R 1) (.R 2)))
def cp3:Go.Shelf.Ren:=⟨fun|6=>421|14=>444|15=>405|20=>456|21=>457|22=>458|23=>459|24=>460|25=>461|26=>462|27=>463|28=>432|29=>433|46=>468|47=>448|48=>449|49=>469|50=>470|57=>472|n=>n,fun|0=>0|3=>3|4=>4|5=>5|9=>9|22=>467|24=>219|25=>484|39=>317|45=>487|46=>488|50=>234|53=>383|55=>386|66=>503|70=>507|76=>516|77=>338|n=>n,fun|n=>n⟩
open Go.Shelf in
theorem ev1:SlLaysF0.n6 prog cp3:={
 mixed:=by kernel_rfl,
 f6:=⟨Tryz.f421.name,by decide,func421.trans (congrArg some (by kernel_rfl))⟩,
 f14:=⟨Tryz.f444.name,by decide,func444.trans (congrArg some (by kernel_rfl))⟩,
 f15:=func405.trans (congrArg some (by kernel_rfl)),
 f20:=⟨Tryz.f456.name,by decide,func456.trans (congrArg some (by kernel_rfl))⟩,
 f21:=⟨Tryz.f457.name,by decide,func457.trans (congrArg some (by kernel_rfl))⟩,
 f22:=⟨Tryz.f458.name,by decide,func458.trans (congrArg some (by kernel_rfl))⟩,
 f23:=⟨Tryz.f459.name,by decide,func459.trans (congrArg some (by kernel_rfl))⟩,
 f24:=⟨Tryz.f460.name,by decide,func460.trans (congrArg some (by kernel_rfl))⟩,
 f25:=⟨Tryz.f461.name,by decide,func461.trans (congrArg some (by kernel_rfl))⟩,
 f26:=⟨Tryz.f462.name,by decide,func462.trans (congrArg some (by kernel_rfl))⟩,
 f27:=⟨Tryz.f463.name,by decide,func463.trans (congrArg some (by kernel_rfl))⟩,
 f28:=func432.trans (congrArg some (by kernel_rfl)),
 f29:=func433.trans (congrArg some (by kernel_rfl)),
 f46:=⟨Tryz.f468.name,by decide,func468.trans (congrArg some (by kernel_rfl))⟩,
 f47:=func448.trans (congrArg some (by kernel_rfl)),
 f48:=func449.trans (congrArg some (by kernel_rfl)),
 f49:=⟨Tryz.f469.name,by decide,func469.trans (congrArg some (by kernel_rfl))⟩,
 f50:=⟨Tryz.f470.name,by decide,func470.trans (congrArg some (by kernel_rfl))⟩,
 f57:=⟨Tryz.f472.name,by decide,func472.trans (congrArg some (by kernel_rfl))⟩,
 t0:=Tryz.underlying0,
 a0:=Tryz.isAgg0,
 z0:=Tryz.sizeOf0,
 v0:=Tryz.zeroValue0,
 t3:=Tryz.underlying3,
 a3:=Tryz.isAgg3,
 z3:=Tryz.sizeOf3,
 v3:=Tryz.zeroValue3,
 t4:=Tryz.underlying4,
 a4:=Tryz.isAgg4,
 z4:=Tryz.sizeOf4,
 v4:=Tryz.zeroValue4,
 t5:=Tryz.underlying5,
 a5:=Tryz.isAgg5,
 z5:=Tryz.sizeOf5,
 v5:=Tryz.zeroValue5,
 t9:=Tryz.underlying9,
 a9:=Tryz.isAgg9,
 z9:=Tryz.sizeOf9,
 v9:=Tryz.zeroValue9,
 t22:=Tryz.underlying467,
 a22:=Tryz.isAgg467,
 z22:=Tryz.sizeOf467,
 v22:=Tryz.zeroValue467,
 t25:=Tryz.underlying484,
 a25:=Tryz.isAgg484,
 z25:=Tryz.sizeOf484,
 v25:=Tryz.zeroValue484,
 t39:=Tryz.underlying317,
 a39:=Tryz.isAgg317,
 z39:=Tryz.sizeOf317,
 v39:=Tryz.zeroValue317,
 t45:=Tryz.underlying487,
 a45:=Tryz.isAgg487,
 z45:=Tryz.sizeOf487,
 v45:=Tryz.zeroValue487,
 t46:=Tryz.underlying488,
 a46:=Tryz.isAgg488,
 z46:=Tryz.sizeOf488,
 v46:=Tryz.zeroValue488,
 t50:=Tryz.underlying234,
 a50:=Tryz.isAgg234,
 z50:=Tryz.sizeOf234,
 v50:=Tryz.zeroValue234,
 t53:=Tryz.underlying383,
 a53:=Tryz.isAgg383,
 z53:=Tryz.sizeOf383,
 v53:=Tryz.zeroValue383,
 t55:=Tryz.underlying386,
 a55:=Tryz.isAgg386,
 z55:=Tryz.sizeOf386,
 v55:=Tryz.zeroValue386,
 t66:=Tryz.underlying503,
 a66:=Tryz.isAgg503,
 z66:=Tryz.sizeOf503,
 v66:=Tryz.zeroValue503,
 t70:=Tryz.underlying507,
 a70:=Tryz.isAgg507,
 z70:=Tryz.sizeOf507,
 v70:=Tryz.zeroValue507,
 t76:=Tryz.underlying516,
 a76:=Tryz.isAgg516,
 z76:=Tryz.sizeOf516,
 v76:=Tryz.zeroValue516,
 t77:=Tryz.underlying338,
 a77:=Tryz.isAgg338,
 z77:=Tryz.sizeOf338,
 v77:=Tryz.zeroValue338}
theorem bw3 (s:List B6)(n:Nat)(cs:List (List Tree))(f:B6->B6->Option Int)(h:∀x0 x1,aQ7 prog n ([aX5 x0,aX5 x1]++cs.map T.el) (f x0 x1) (fun r=>.t (tI r))):
  bh4 prog 421 [.own 1000000,.fz n cs] [(1000000,.rows 219 4 s.length (s.map ay1))] (bU5 f s) (fun _=>.P9 []) (fun r=>[(1000000,.rows 219 4 r.length (r.map ay1))]):=
 cp0 (E:=B6) (enc:=ay1) (ρ:=cp3) ev1 (k:=4) (fun x=>[.int .i64 x.H2,.int .i64 x.Kind,.int .i64 x.u0,.int .i64 x.ai8]) (fun _=>rfl) (fun _=>rfl) (fun x v hv=>by simp only[ch6,eL8,or_false]at hv;rcases hv with rfl|rfl|rfl|rfl<;>rfl) (fun w=>Tryz.isAgg219 w) (fun w=>Tryz.sizeOf219 w) (A:=aX5) (fun _=>rfl) f h s
def aa3 (s:List B6)(f:Cl prog (B6×B6) Int (fun x=>[aX5 x.1,aX5 x.2]) (fun r=>.t (tI r))):CG prog (List B6):=
 ⟨421,[.own 1000000,.fz f.n f.cs],[(1000000,.rows 219 4 s.length (s.map ay1))],bU5 (fun x y=>f.f (x,y)) s,fun k=>dg1 (fun x y=>f.e k (x,y)) s,fun _=>.P9 [],fun r=>[(1000000,.rows 219 4 r.length (r.map ay1))],[],bw3 s f.n f.cs _ (fun x y=>f.ok (x,y)),fun k r h=>dA0 (fun x y r h=>f.le k (x,y) r h) h⟩
def al1 (a b2:B6):C prog Int:=.of Z call422 func422 [aX5 a,aX5 b2] (fun r=>.t (tI r)) (
 .D [] []<| .K (F6 a.H2 b2.H2) fun v=>.K (F6 a.u0 b2.u0) fun v2=>.K (F6 a.Kind b2.Kind) fun v3=>.K (F6 a.ai8 b2.ai8) fun v4=>.K (af6 ([v,v2,v3,v4]:List Int)) fun v5=>.R v5)
def aD1 (l:List A1)(i:Int)(_:Unit):M prog (List B6×Int) (Fl Unit (List B6×Int)):=
 .O (.ix B3 l i) fun x=>.U (.sF B3 l 0 i) fun l2=>.Z (.fb 9)<| .K (F2 l2 (.of (fun z_=>av6 z_ x) 417 [B3 x])) fun v4=>.I v4 (.R (.ret (([]:List B6),8))) (.R (.next ()))
def aw7 (e2:o6)(M5 _:Int)(x2:A1)(f2:List B6):M prog (List B6×Int) (Fl (List B6) (List B6×Int)):=
 .W (.hx 0)<| .K (ak4 e2 x2.u0) fun r2=>.Z (.fb 12)<| .KG (O6 (o4 (r2.1-x2.O0)) 2 0 f2 x2) [2512] fun v5=>.K (K2 x2.ae7 M5) fun v6=>.KG (O6 (o4 ((o4 (r2.1-x2.O0))-(F5 v6 23040))) 1 0 v5 x2) [2584] fun v7=>.D [] []<| .K (K2 x2.Y5 M5) fun v8=>.K (K2 x2.Gap M5) fun v9=>.K (K2 x2.Extra M5) fun v10=>.I (decide ((G7 (G7 v8 v9) v10)>23040)) (.R (.ret (([]:List B6),2))) (.K (ak3 x2) fun v11=>.J0 0 (fun(t:List B6)=>[.x 56,.x 62,.x 65,.b 10 (.box [.own 2840]),.b 2840 (.rs 219 4 t ay1),.d 2584]) (.I (decide (v11>0)) (.KG (O6 (o4 (r2.1-x2.End)) 4 1 v7 x2) [2776] fun v12=>.K (K2 x2.Y5 M5) fun v13=>.KG (O6 (o4 ((o4 (r2.1-x2.End))-v13)) 3 1 v12 x2) [2840] fun v14=>.R v14) (.Z (.rn [(2584,2840)])<| .R v7)) fun f3=>.K (ak3 x2) fun v15=>.I (decide (v15>1)) (.K (K2 x2.Gap M5) fun v16=>.KG (O6 (o4 ((o4 (r2.1-x2.End))+v16)) 3 2 f3 x2) [2928] fun v17=>.D [] []<| .K (K2 x2.Gap M5) fun v18=>.K (K2 x2.Extra M5) fun v19=>.KG (O6 (o4 ((o4 ((o4 (r2.1-x2.End))+v18))+v19)) 4 2 v17 x2) [3032] fun v20=>.R (.next v20)) (.Z (.rn [(2840,3032)])<| .R (.next f3)))
def aF5 (e2:o6)(l:List A1)(M5:Int):C prog (List B6×Int):=.of Z call401 func401 [at9 e2,.t (tS B3 l),.t (tI M5)] (fun r=>.P9 [.t (tS ay1 r.1),.t (tI r.2)]) (
 .K (O7 e2) fun v=>.Z (.fb 3)<| .G (!v) (.R true) (.K (F2 l (.of (fun z_=>ao7 z_ e2) 416 [bR7 e2])) fun v2=>.R v2) fun b2=>.I b2 (.R (([]:List B6),1)) (.K (M6 M5 4000 1000000) fun v3=>.I (!v3) (.R (([]:List B6),2)) (M.QN (l.length:Int) 2 32 (fun(_:Unit)=>[]) 0 (.one .rt) (aD1 l) () (fun _=>.Z (.fb 5)<| .Z (.nb 10 3032 219 4 [0])<|M.Q B3 l 2 45 (fun(t:List B6)=>[.b 3032 (.rs 219 4 t ay1)]) 2 (.one .rt) (aw7 e2 M5) ([]:List B6) (fun f4=>.KG (aa3 f4 (.of (fun z_=>al1 z_.1 z_.2) 422 [])) [] fun v21=>.R (v21,0)) (fun r3=>.R r3)) (fun r4=>.R r4))))
def C0 (a:Int)(cmp:Cl prog (a7×a7) Int (fun x=>[A8 x.1,A8 x.2]) (fun r=>.t (tI r)))(s2:Int×List a7):M prog (List a7) ((Int×List a7)⊕((Int×List a7)⊕Empty)):=
 .J0 1 (fun(t:Bool)=>[.t 34 (.t (tB t))]) (.D [] []<| .Sp (decide (s2.1>a)) (.O (.ix A9 s2.2 s2.1) fun x=>.W (.ly 0)<| .O (.ix A9 s2.2 (o4 (s2.1-1))) fun x2=>.W (.ly 0)<| .K (cmp.at (x,x2)) fun v=>.R (decide (v<0))) (.R false)) fun v2=>.I v2 (.D [] [(15,1000000)]<| .O (.ix A9 s2.2 (o4 (s2.1-1))) fun x3=>.W (.ly 0)<| .O (.ix A9 s2.2 s2.1) fun x4=>.W (.ly 0)<| .W (.hx 0)<| .U (.st A9 s2.2 s2.1 x3 0) fun l=>.O (.ix A9 l (o4 (s2.1-1))) fun _=>.U (.st A9 l (o4 (s2.1-1)) x4 0) fun l2=>.R (.inl (o4 (s2.1-1),l2))) (.R (.inr (.inl (s2.1,s2.2))))
def B2 (a b2:Int)(cmp:Cl prog (a7×a7) Int (fun x=>[A8 x.1,A8 x.2]) (fun r=>.t (tI r)))(s:Int×List a7):M prog (List a7) ((Int×List a7)⊕((Int×List a7)⊕Empty)):=
 .I (decide (s.1<b2)) (.L (fun(t:Int×List a7)=>[.t 9 (.t (tI t.1)),.b 1000000 (.rs 450 5 t.2 A9)]) 2 (.e) (C0 a cmp) (s.1,s.2) (fun s3=>.R (.inl (o4 (s.1+1),s3.2))) (fun t=>t.elim)) (.R (.inr (.inl (s.1,s.2))))
def B0 (data:List a7)(a b2:Int)(cmp:Cl prog (a7×a7) Int (fun x=>[A8 x.1,A8 x.2]) (fun r=>.t (tI r))):CG prog (List a7):=.of Z call445 func445 [.own 1000000,.t (tI a),.t (tI b2),.fz cmp.n cmp.cs] [(1000000,.rs 450 5 data A9)] (fun _=>.P9 []) (fun r=>[(1000000,.rs 450 5 r A9)]) [] (
 .L (fun(t:Int×List a7)=>[.t 8 (.t (tI t.1)),.b 1000000 (.rs 450 5 t.2 A9)]) 0 (.e) (B2 a b2 cmp) (o4 (a+1),data) (fun s4=>.R s4.2) (fun t=>t.elim))
def I1 (data:List a7)(a m2 b2:Int)(cmp:Cl prog (a7×a7) Int (fun x=>[A8 x.1,A8 x.2]) (fun r=>.t (tI r))):CG prog (List a7):=⟨446,[.own 1000000,.t (tI a),.t (tI m2),.t (tI b2),.fz cmp.n cmp.cs],[(1000000,.rs 450 5 data A9)],none,fun _=>none,(fun _=>.P9 []),(fun r=>[(1000000,.rs 450 5 r A9)]),[],⟨call446,fun _ h=>by cases h⟩,fun _ _ h=>by cases h⟩
def K0 (n2:Int)(cmp:Cl prog (a7×a7) Int (fun x=>[A8 x.1,A8 x.2]) (fun r=>.t (tI r)))(s:Int×Int×List a7):M prog (List a7) ((Int×Int×List a7)⊕((Int×Int×List a7)⊕Empty)):=
 .I (decide (s.2.1<=n2)) (.KG (B0 s.2.2 s.1 s.2.1 cmp) [] fun v=>.R (.inl (s.2.1,o4 (s.2.1+20),v))) (.R (.inr (.inl (s.1,s.2.1,s.2.2))))
def N3 (n2:Int)(cmp:Cl prog (a7×a7) Int (fun x=>[A8 x.1,A8 x.2]) (fun r=>.t (tI r)))(s3:Int×List a7)(s4:Int×Int×List a7):M prog (List a7) ((Int×Int×List a7)⊕((Int×Int×List a7)⊕Empty)):=
 .I (decide (s4.2.1<=n2)) (.KG (I1 s4.2.2 s4.1 (o4 (s4.1+s3.1)) s4.2.1 cmp) [] fun v3=>.R (.inl (s4.2.1,o4 (s4.2.1+(o4 (2*s3.1))),v3))) (.R (.inr (.inl (s4.1,s4.2.1,s4.2.2))))
def K1 (n2:Int)(cmp:Cl prog (a7×a7) Int (fun x=>[A8 x.1,A8 x.2]) (fun r=>.t (tI r)))(s3:Int×List a7):M prog (List a7) ((Int×List a7)⊕((Int×List a7)⊕Empty)):=
 .I (decide (s3.1<n2)) (.L (fun(t:Int×Int×List a7)=>[.t 7 (.t (tI t.1)),.t 8 (.t (tI t.2.1)),.b 1000000 (.rs 450 5 t.2.2 A9)]) 4 (.e) (N3 n2 cmp s3) (0,o4 (2*s3.1),s3.2) (fun s5=>.I (decide ((o4 (s5.1+s3.1))<n2)) (.KG (I1 s5.2.2 s5.1 (o4 (s5.1+s3.1)) n2 cmp) [] fun v4=>.R (.inl (o4 (s3.1*2),v4))) (.R (.inl (o4 (s3.1*2),s5.2.2)))) (fun t=>t.elim)) (.R (.inr (.inl (s3.1,s3.2))))
def H3 (data:List a7)(n2:Int)(cmp:Cl prog (a7×a7) Int (fun x=>[A8 x.1,A8 x.2]) (fun r=>.t (tI r))):CG prog (List a7):=.of Z call423 func423 [.own 1000000,.t (tI n2),.fz cmp.n cmp.cs] [(1000000,.rs 450 5 data A9)] (fun _=>.P9 []) (fun r=>[(1000000,.rs 450 5 r A9)]) [] (
 .L (fun(t:Int×Int×List a7)=>[.t 7 (.t (tI t.1)),.t 8 (.t (tI t.2.1)),.b 1000000 (.rs 450 5 t.2.2 A9)]) 0 (.e) (K0 n2 cmp) (0,20,data) (fun s2=>.KG (B0 s2.2.2 s2.1 n2 cmp) [] fun v2=>.L (fun(t:Int×List a7)=>[.t 6 (.t (tI t.1)),.x 23,.b 1000000 (.rs 450 5 t.2 A9)]) 2 (.e) (K1 n2 cmp) (20,v2) (fun s6=>.R s6.2) (fun t=>t.elim)) (fun t=>t.elim))
def D0 (x:List a7)(cmp:Cl prog (a7×a7) Int (fun x=>[A8 x.1,A8 x.2]) (fun r=>.t (tI r))):CG prog (List a7):=.of Z call402 func402 [.own 1000000,.fz cmp.n cmp.cs] [(1000000,.rs 450 5 x A9)] (fun _=>.P9 []) (fun r=>[(1000000,.rs 450 5 r A9)]) [] (
 .KG (H3 x (x.length:Int) cmp) [] fun v=>.R v)
def ac5 (a b2:a7):C prog Int:=.of Z call403 func403 [A8 a,A8 b2] (fun r=>.t (tI r)) (
 .D [] []<| .K (F6 a.cE9 b2.cE9) fun v=>.K (H4 a.x) fun v2=>.K (H4 b2.x) fun v3=>.K (F6 v2 v3) fun v4=>.K (af6 ([v,v4]:List Int)) fun v5=>.R v5)
def aj4 (begin _:Int)(x:B6)(out:List a7):M prog (List a7×Bool) (Fl (List a7) Empty):=
 .W (.hx 0)<| .D [] []<| .K (Q8 begin x.H2) fun v=>.U (.ap A9 out ([(⟨x,v⟩:a7)]:List a7) 2368) fun l=>.R (.next l)
def V4 (x2:(Int×Int))(_:Int)(x3:a7)(s:Int×Int×Int):M prog (List a7×Bool) (Fl (Int×Int×Int) (List a7×Bool)):=
 .W (.hx 0)<| .W (.ly 0)<| .I ((x3.x.Kind !=x2.1)&&(x3.x.Kind !=x2.2)) (.R (.next (s.1,s.2.1,s.2.2))) (.I (((x3.x.Kind !=s.2.2)||(decide (x3.cE9<=s.1)))||(decide (x3.x.ai8<s.2.1))) (.R (.ret (([]:List a7),false))) (.D [] []<| .R (.next (x3.cE9,x3.x.ai8,o4 ((o4 (x2.1+x2.2))-s.2.2)))))
def T2 (v2:List a7)(v3:Int):M prog (List a7×Bool) (Int⊕(Int⊕(List a7×Bool))):=
 .I (decide (v3<2)) (.O (.arr (fun y=>.agg [.t (tI y.1),.t (tI y.2)]) ([(1,2),(3,4)]:List (Int×Int)) v3) fun x2=>.D [] []<|M.Q A9 v2 2 60 (fun(t:Int×Int×Int)=>[.t 17 (.t (tI t.1)),.t 18 (.t (tI t.2.1)),.t 19 (.t (tI t.2.2)),.x 56]) 4 (.one .rt) (V4 x2) ((-1),0,x2.1) (fun _=>.R (.inl (o4 (v3+1)))) (fun r3=>.R (.inr (.inr r3)))) (.R (.inr (.inl v3)))
def ar1 (e2:o6)(f2:A1)(begin M5:Int):C prog (List a7×Bool):=.of Z call373 func373 [at9 e2,aP4 f2,.t (tI begin),.t (tI M5)] (fun r=>.P9 [.t (tS A9 r.1),.t (tB r.2)]) (
 .Z (.fr 25)<| .K (aF5 e2 ([f2]:List A1) M5) fun r2=>.I (r2.2 !=0) (.R (([]:List a7),false)) (.Z (.np 12 2368 450 5 [])<|M.Q ay1 r2.1 2 34 (fun(t:List a7)=>[.t 12 (.own 2368),.x 4,.x 5,.b 2368 (.rs 450 5 t A9),.d 4,.d 5]) 0 (.e) (aj4 begin) ([]:List a7) (fun dm8=>.KG (D0 dm8 (.of (fun z_=>ac5 z_.1 z_.2) 403 [])) [] fun v2=>.L (fun(t:Int)=>[.t 53 (.t (tI t)),.x 48]) 2 (.one .rt) (T2 v2) 0 (fun _=>.R (v2,true)) (fun r4=>.R r4)) (fun t=>t.elim)))
def ag4 (v _:Int)(x3:a7)(f3:List A3):M prog c8 (Fl (List A3) Empty):=
 .W (.hx 0)<| .Pn 40000<| .D [] [(13,40000)]<| .U (.ap I3 f3 ([(⟨x3.x,o4 (v+x3.cE9),false,0⟩:A3)]:List A3) 40000) fun l=>.R (.next l)
def ag3 (s:c8)(r2:Int×Int)(_ x:Int)(f2:List A3):M prog c8 (Fl (List A3) Empty):=
 .W (.hx 0)<| .D [] []<| .K (av5 s.p6 x) fun r3=>.K (Q8 s.B1.H2 (ep0 (o4 (r3.1+5760)) 46080)) fun v=>.Z (.fb 5)<| .K (H5 s.Next (.of (fun z_=>Y0 z_ x) 372 [aN3 x])) fun v2=>.I ((decide (v>=s.B1.aj7))||(decide (v2<0))) (.R (.next f2)) (.D [] []<| .O (.ix B3 s.Next v2) fun x2=>.K (ar1 s.p6 x2 (ep0 (o4 (r3.1+5760)) 46080) r2.1) fun r4=>.I (!r4.2) (.R (.next f2)) (M.Q A9 r4.1 2 90 (fun(t:List A3)=>[.x 34,.x 35,.x 36,.x 45,.x 46,.x 47,.x 48,.x 52,.x 53,.x 54,.x 59,.x 60,.x 61,.x 62,.x 70,.x 71,.x 72,.x 74,.x 75,.x 76,.b 40000 (.rs 221 7 t I3)]) 2 (.e) (ag4 v) f2 (fun f4=>.R (.next f4)) (fun t=>t.elim)))
def ah3 (s:c8):CG prog c8:=.of Z call331 func331 [.ptr 1000000 0] [(1000000,.box (av7 (aL7 s) [(11,.own 1000001)])),(1000001,.rs 221 7 s.D1 I3)] (fun _=>.P9 []) (fun r=>[(900000,.rs 221 7 r.D1 I3),(1000000,.box (av7 (aL7 r) [(11,.own 900000)]))]) [900000] (
 .K (aF0 s.B1 23040) fun r2=>.Z (.rn [(1000001,40000)])<|M.Q aN3 s.p6.u6 2 29 (fun(t:List A3)=>[.x 16,.x 17,.x 18,.x 23,.x 24,.x 25,.x 26,.b 40000 (.rs 221 7 t I3)]) 0 (.e) (ag3 s r2) s.D1 (fun f5=>.R ({s with D1:=f5}:c8)) (fun t=>t.elim))
def aa1 (v4 i:Int)(f2:List A3):M prog (c8×List j8×Int) (Fl (List A3) Empty):=
 .D [] []<| .O (.ix I3 f2 i) fun x=>.W (.ly 0)<| .W (.hx 0)<| .U (.st I3 f2 i ({x with Left:=G7 (-1048576) (o4 (x.Left-v4))}:A3) 0) fun l=>.R (.next l)
def al6 (s:c8)(c:D3):C prog (c8×List j8×Int):=.of Z call268 func268 [R8 s,bB7 c] (fun r=>.P9 [R8 r.1,.t (tS u4 r.2.1),.t (tI r.2.2)]) (
 .K (J9 s) fun v=>.G (!v) (.R true) (.K (ai9 c) fun v2=>.R (!v2)) fun b2=>.I b2 (.R ((⟨(⟨([]:List Int),0⟩:o6),(⟨false,0,0,0,0,0⟩:D3),(⟨0,([]:List j7)⟩:w9),([]:List A1),([]:List A3),false⟩:c8),([]:List j8),1)) (.I (!c.V7) (.R ((⟨(⟨([]:List Int),0⟩:o6),(⟨false,0,0,0,0,0⟩:D3),(⟨0,([]:List j7)⟩:w9),([]:List A1),([]:List A3),false⟩:c8),([]:List j8),6)) (.I (decide (c.At<s.j4.Q7)) (.R ((⟨(⟨([]:List Int),0⟩:o6),(⟨false,0,0,0,0,0⟩:D3),(⟨0,([]:List j7)⟩:w9),([]:List A1),([]:List A3),false⟩:c8),([]:List j8),16)) (.KG (L6 s) [2280] fun v3=>.KG (ab2 v3 c.At) [2304] fun r2=>.J0 0 (fun(t:List A3)=>[.x 2,.x 22,.x 27,.x 29,.x 30,.x 36,.x 39,.x 40,.b 2304 (.rs 221 7 t I3),.d 2]) (.I s.B1.V7 (.K (Q8 s.B1.H2 c.H2) fun v4=>M.QN (r2.2.D1.length:Int) 2 51 (fun(t:List A3)=>[.x 2,.x 22,.x 27,.x 29,.x 30,.x 36,.x 39,.x 40,.x 42,.x 43,.x 45,.x 48,.x 49,.b 2304 (.rs 221 7 t I3),.d 2]) 1 (.e) (aa1 v4) r2.2.D1 (fun f3=>.R f3) (fun t=>t.elim)) (.R r2.2.D1)) fun f4=>.I (!r2.2.Cut) (.KG (ah3 (⟨r2.2.p6,c,r2.2.j4,r2.2.Next,f4,r2.2.Cut⟩:c8)) [2592] fun v5=>.I (decide ((v5.D1.length:Int)>200)) (.R ((⟨(⟨([]:List Int),0⟩:o6),(⟨false,0,0,0,0,0⟩:D3),(⟨0,([]:List j7)⟩:w9),([]:List A1),([]:List A3),false⟩:c8),([]:List j8),5)) (.KG (ak6 v5) [] fun v6=>.R (v6,r2.1,0))) (.R ((⟨r2.2.p6,c,r2.2.j4,r2.2.Next,f4,r2.2.Cut⟩:c8),r2.1,0))))))
set_option maxHeartbeats 4000000
def be9 (S0:X8)(e2:Int)(c:X8):C prog X8:=.of Z call326 func326 [bc1 S0,.t (tI e2),.el (cz9 c)] (fun r=>bc1 r) (
 .I (e2 !=0) (.R c) (.R S0))
def bu2 (s:j9)(aZ5:Int):CG prog j9:=.of Z call178 func178 [.ptr 1000000 0,.t (tI aZ5)] [(1000000,.box (av7 (G6 s) [(113,.own 1000001)])),(1000001,.rs 95 3 s.y9 u4)] (fun _=>.P9 []) (fun r=>[(900000,.rs 95 3 r.y9 u4),(1000000,.box (av7 (G6 r) [(113,.own 900000)]))]) [900000] (
 .K (bk1 s.u.H8 aZ5) fun r2=>.D [] []<| .K (bM3 s.u.H8) fun v=>.K (be9 r2.1 r2.2.2 v) fun v2=>.I ((r2.2.2 !=0)||(!r2.2.1)) (.R ({s with u:=(⟨s.u.u9,s.u.u5,s.u.j3,s.u.Q2,s.u.M7,v2,s.u.M1,s.u.K3,s.u.J1,s.u.I0,s.u.A6,s.u.Y4,s.u.Time⟩:af3)}:j9)) (.D [] []<| .K (bA7 s.u.Q2) fun v3=>.K (br7) fun v4=>.K (cx8 v4 s.u.Q2 aZ5) fun r3=>.K (ba0 r3.1 r3.2 v3) fun v5=>.KG (ba2 ({s with u:=(⟨s.u.u9,s.u.u5,s.u.j3,s.u.Q2,s.u.M7,v2,s.u.M1,s.u.K3,s.u.J1,s.u.I0,s.u.A6,s.u.Y4,s.u.Time⟩:af3)}:j9) v5 aZ5) [2464] fun v6=>.I (v6.u.Q2.Mode !=2) (.R v6) (.J0 0 (fun(t:j9)=>[.x 4,.x 10,.x 11,.x 12,.x 13,.x 20,.x 21,.x 22,.x 23,.x 24,.x 30,.x 31,.x 32,.x 39,.x 40,.x 41,.x 42,.x 43,.x 47,.x 48,.x 49,.x 50,.x 59,.x 60,.x 61,.x 62,.x 63,.x 66,.x 67,.x 68,.x 69,.x 70,.b 2816 (.rs 95 3 t.y9 u4),.b 1000000 (.box (av7 (G6 t) [(113,.own 2816)])),.d 4,.d 2464]) (.I (v6.u.Q2.ay6==0) (.D [] []<| .K (bu0 v6.u.M7) fun v7=>.K (bD6) fun v8=>.K (bJ9 v8 v6.u.M7) fun r4=>.K (aT8 r4.1 r4.2 v7) fun v9=>.I (!v9.aY0) (.KG (aY4 ({v6 with u:=(⟨v6.u.u9,v6.u.u5,v6.u.j3,v6.u.Q2,v9,v6.u.H8,v6.u.M1,v6.u.K3,v6.u.J1,v6.u.I0,v6.u.A6,v6.u.Y4,v6.u.Time⟩:af3)}:j9) aZ5) [2816] fun v10=>.R v10) (.Z (.rn [(2464,2816)])<| .R ({v6 with u:=(⟨v6.u.u9,v6.u.u5,v6.u.j3,v6.u.Q2,v9,v6.u.H8,v6.u.M1,v6.u.K3,v6.u.J1,v6.u.I0,v6.u.A6,v6.u.Y4,v6.u.Time⟩:af3)}:j9))) (.Z (.rn [(2464,2816)])<| .R v6)) fun f2=>.I f2.u.M7.aY0 (.D [] [(25,7)]<| .K (br7) fun v11=>.K (bO9 v11 aZ5 f2.u.Q2.ay6 f2.u.M7.bF9 f2.u.Q2.F9) fun r5=>.D [] []<| .K (al6 f2.u.j3 r5.1) fun r6=>.KG (aH6 f2 r6.1 r6.2.1 r6.2.2) [3152] fun v12=>.R v12) (.R f2))))
def aU5 (x:Int)(s3:List Int×j9):M prog j9 ((List Int×j9)⊕((List Int×j9)⊕Empty)):=
 .G (decide ((s3.1.length:Int)>0)) (.O (.ix aN3 s3.1 0) fun x2=>.R (decide (x2<=x))) (.R false) fun b2=>.I b2 (.KG (ba3 s3.2 s3.1) [] fun r5=>.R (.inl (r5.2,r5.1))) (.R (.inr (.inl (s3.1,s3.2))))
def aU4 (_ x:Int)(s2:List Int×j9):M prog j9 (Fl (List Int×j9) Empty):=
 .W (.hx 0)<| .L (fun(t:List Int×j9)=>[.b 10 (.box [.t (tS aN3 t.1)]),.b 2312 (.rs 95 3 t.2.y9 u4),.b 1000000 (.box (av7 (G6 t.2) [(113,.own 2312)]))]) 2 (.e) (aU5 x) (s2.1,s2.2) (fun s4=>.KG (bu2 s4.2 x) [2792] fun v9=>.Z (.rn [(2792,2312)])<| .R (.next (s4.1,v9))) (fun t=>t.elim)
def bi7 (s6:List Int×j9):M prog j9 ((List Int×j9)⊕((List Int×j9)⊕Empty)):=
 .I (decide ((s6.1.length:Int)>0)) (.KG (ba3 s6.2 s6.1) [] fun r6=>.R (.inl (r6.2,r6.1))) (.R (.inr (.inl (s6.1,s6.2))))
def aO7 (s:j9):CG prog j9:=.of Z call85 func85 [.ptr 1000000 0] [(1000000,.box (av7 (G6 s) [(113,.own 1000001)])),(1000001,.rs 95 3 s.y9 u4)] (fun _=>.P9 []) (fun r=>[(900000,.rs 95 3 r.y9 u4),(1000000,.box (av7 (G6 r) [(113,.own 900000)]))]) [900000] (
 .D [] []<| .K (bA7 s.u.Q2) fun v=>.K (br7) fun v2=>.K (ch2 v2 s.u.Q2 s.t) fun r2=>.K (ba0 r2.1 r2.2 v) fun v3=>.KG (ba2 s v3 s.t) [2312] fun v4=>.D [] []<| .K (br7) fun v5=>.K (bB5 v5 (o4 (da1 v4.u.A6.I8 65536)) (o4 (da1 (o4 (v4.u.A6.I8+(o4 (10000*v4.u.A6.D2)))) 65536))) fun r3=>.K (bD6) fun v6=>.K (bk2 v6 (o4 (da1 v4.u.A6.I8 65536)) (o4 (da1 (o4 (v4.u.A6.I8+(o4 (10000*v4.u.A6.D2)))) 65536))) fun r4=>.KG (aw6 v4 r4.1) [] fun v7=>.KG (aw6 v4 r3.1) [] fun v8=>M.Q aN3 v8 2 81 (fun(t:List Int×j9)=>[.x 0,.x 14,.x 15,.x 16,.x 17,.x 18,.x 22,.x 23,.x 24,.x 25,.x 27,.x 28,.x 29,.x 35,.x 36,.x 37,.x 40,.x 41,.x 42,.x 43,.x 44,.x 46,.x 47,.x 48,.x 49,.x 50,.x 73,.x 76,.x 77,.b 10 (.box [.t (tS aN3 t.1)]),.b 2312 (.rs 95 3 t.2.y9 u4),.b 1000000 (.box (av7 (G6 t.2) [(113,.own 2312)]))]) 0 (.e) (aU4) (v7,v4) (fun s5=>.L (fun(t:List Int×j9)=>[.b 10 (.box [.t (tS aN3 t.1)]),.b 2312 (.rs 95 3 t.2.y9 u4),.b 1000000 (.box (av7 (G6 t.2) [(113,.own 2312)]))]) 4 (.e) (bi7) (s5.1,s5.2) (fun s7=>.D [] []<| .K (T1 s7.2.u.j3 (o4 (s7.2.t+10000))) fun r7=>.KG (aH6 s7.2 r7.1 r7.2.1 r7.2.2) [2968] fun v10=>.R v10) (fun t=>t.elim)) (fun t=>t.elim))
def bD8 (f2:A1):C prog Bool:=.of Z call181 func181 [aP4 f2] (fun r=>.t (tB r)) (
 .R (f2.Y5 !=0))
def aA5 (t2:o8)(M5 B9:Int):C prog (Int×Int):=.of Z call182 func182 [S6 t2,.t (tI M5),.t (tI B9)] (fun r=>.P9 [.t (tI r.1),.t (tI r.2)]) (
 .K (aB7 t2 M5 B9) fun r2=>.I (r2.2 !=0) (.R (0,r2.2)) (.R (o4 (3*(G7 0 (o4 (M5-r2.1)))),0)))
def bK0 (b2:L4)(p2:Y6)(fuel air:Int):C prog (Y6×Int×Int):=.of Z call183 func183 [aL6 b2,aX8 p2,.t (tI fuel),.t (tI air)] (fun r=>.P9 [aX8 r.1,.t (tI r.2.1),.t (tI r.2.2)]) (
 .K (bv3 b2 p2) fun v=>.I (!v) (.R ((⟨0,0,0,0,0,([]:List Int)⟩:Y6),0,1)) (.K (F8 fuel 0 1048576) fun v2=>.G (!v2) (.R true) (.K (F8 air 0 1048576) fun v3=>.R (!v3)) fun b3=>.I b3 (.R ((⟨0,0,0,0,0,([]:List Int)⟩:Y6),0,2)) (.D [] []<| .J0 0 (fun(t:Int)=>[.t 14 (.t (tI t)),.x 33,.x 37,.x 39,.x 48,.x 54]) (.I (decide ((o4 ((o4 (fuel-(o4 (da1 (o4 (fuel*b2.P0)) 1024))))+(o4 (da1 (o4 (p2.P0*b2.L2)) 1024))))>0)) (.O (.quo .i64 (o4 (10000*air)) (o4 (147*(o4 ((o4 (fuel-(o4 (da1 (o4 (fuel*b2.P0)) 1024))))+(o4 (da1 (o4 (p2.P0*b2.L2)) 1024))))))) fun q=>.K (C6 q 500 2000) fun v4=>.R v4) (.R 2000)) fun mixture=>.U (.ap aN3 ([]:List Int) p2.Path 63) fun l=>.U (.ap aN3 l ([mixture]:List Int) 63) fun l2=>.J0 0 (fun(t:List Int)=>[.t 15 (.t (tS aN3 t)),.x 4,.x 64,.x 68,.x 69,.x 70,.x 72,.d 4,.d 63,.d 68]) (.I (decide ((l2.length:Int)>(o4 (b2.aX9+1)))) (.Z (.fr 63)<| .U (.sF aN3 l2 1 (l2.length:Int)) fun l3=>.R l3) (.Z (.fr 63)<| .R l2)) fun path=>.R (({p2 with P0:=o4 (p2.P0+(o4 ((o4 (da1 (o4 (fuel*b2.P0)) 1024))-(o4 (da1 (o4 (p2.P0*b2.L2)) 1024))))),Path:=path}:Y6),o4 ((o4 (fuel-(o4 (da1 (o4 (fuel*b2.P0)) 1024))))+(o4 (da1 (o4 (p2.P0*b2.L2)) 1024))),0))))
def bu1 (old:Y6):C prog Y6:=.of Z call184 func184 [aX8 old] (fun r=>.fz 271 [cN7 r]) (
 .Z (.fb 1)<| .R old)
def bg2 (w:ap3)(S9 load M5:Int):CG prog ap3:=.of Z call272 func272 [.ptr 1000000 0,.t (tI S9),.t (tI load),.t (tI M5)] [(1000000,.box (bd8 w))] (fun _=>.P9 []) (fun r=>[(1000000,.box (bd8 r))]) [] (
 .D [] []<| .D [] []<| .K (V3 (o4 ((o4 ((o4 ((o4 (S9-load))-(o4 (da1 (o4 (w.b.ap2*w.A6.D2)) 65536))))*M5))+w.A6.Rest)) w.b.ai7) fun v=>.K (ab8 (o4 ((o4 ((o4 ((o4 (S9-load))-(o4 (da1 (o4 (w.b.ap2*w.A6.D2)) 65536))))*M5))+w.A6.Rest)) w.b.ai7) fun v2=>.J0 0 (fun(t:Int)=>[.t 10 (.t (tI t)),.x 15,.x 16,.x 17,.x 18,.x 20,.x 21,.x 22,.x 23,.x 30,.x 31,.x 32,.x 33,.x 37,.x 38,.x 39,.x 40,.x 44,.x 45,.x 46,.x 47,.x 50,.x 51,.x 52,.x 53]) (.I ((decide ((o4 (w.A6.D2+v))<0))||(decide ((o4 (w.A6.D2+v))>262144))) (.R 0) (.R v2)) fun rest=>.K (C6 (o4 (w.A6.D2+v)) 0 262144) fun v3=>.R (⟨(⟨w.A6.I8,v3,rest,w.A6.L3,w.A6.P0,w.A6.Path⟩:Y6),w.b⟩:ap3))
def aS2 (w:ap3)(bo0 o9 M5:Int):CG prog ap3:=.of Z call273 func273 [.ptr 1000000 0,.t (tI bo0),.t (tI o9),.t (tI M5)] [(1000000,.box (bd8 w))] (fun _=>.P9 []) (fun r=>[(1000000,.box (bd8 r))]) [] (
 .D [] []<| .D [] []<| .K (V3 (o4 ((o4 ((o4 (da1 (o4 ((o4 (w.b.J2*bo0))*(o4 (1013-w.A6.L3)))) 1000))-(o4 (da1 (o4 (o9*w.A6.L3)) 1024))))*M5)) (o4 (65536*w.b.aP2))) fun v=>.K (C6 (o4 (w.A6.L3+v)) 50 1013) fun v2=>.R (⟨(⟨w.A6.I8,w.A6.D2,w.A6.Rest,v2,w.A6.P0,w.A6.Path⟩:Y6),w.b⟩:ap3))
def cf7 (b2:L4)(p2:Y6)(bo0 S9 load M5:Int):C prog (Y6×ef4×Int):=.of Z call185 func185 [aL6 b2,aX8 p2,.t (tI bo0),.t (tI S9),.t (tI load),.t (tI M5)] (fun r=>.P9 [aX8 r.1,eM5 r.2.1,.t (tI r.2.2)]) (
 .K (bv3 b2 p2) fun v=>.I (!v) (.R ((⟨0,0,0,0,0,([]:List Int)⟩:Y6),(⟨0,0⟩:ef4),1)) (.K (F8 bo0 0 1000) fun v2=>.G (!v2) (.R true) (.K (F8 S9 (-5000) 10000) fun v3=>.R (!v3)) fun b3=>.G b3 (.R true) (.K (F8 load (-10000) 10000) fun v4=>.R (!v4)) fun b4=>.G b4 (.R true) (.K (F8 M5 1 10000) fun v5=>.R (!v5)) fun b5=>.I b5 (.R ((⟨0,0,0,0,0,([]:List Int)⟩:Y6),(⟨0,0⟩:ef4),2)) (.U (.ap aN3 ([]:List Int) p2.Path 49) fun l=>.Z (.fr 49)<| .KG (bg2 (⟨({p2 with Path:=l}:Y6),b2⟩:ap3) S9 load M5) [] fun v6=>.D [] []<| .KG (aS2 (⟨(⟨ep0 (o4 (v6.A6.I8+(o4 (p2.D2*M5)))) 3019898880,v6.A6.D2,v6.A6.Rest,v6.A6.L3,v6.A6.P0,v6.A6.Path⟩:Y6),v6.b⟩:ap3) bo0 p2.D2 M5) [] fun v7=>.D [] [(8,12)]<| .R (v7.A6,(⟨M5,p2.D2⟩:ef4),0))))
def aT9 (S0:Y6)(e2:Int)(c:Y6):C prog Y6:=.of Z call271 func271 [aX8 S0,.t (tI e2),.el (cN7 c)] (fun r=>aX8 r) (
 .I (e2 !=0) (.R c) (.R S0))
def bf0 (s:j9):CG prog j9:=.of Z call86 func86 [.ptr 1000000 0] [(1000000,.box (G6 s))] (fun _=>.P9 []) (fun r=>[(1000000,.box (G6 r))]) [] (
 .J0 0 (fun(t:Int)=>[.x 14,.x 15,.x 16,.x 17,.x 18,.x 20,.x 21,.x 22,.c 1000000 114 [.t (tI t)]]) (.I (((!s.cut)&&s.u.J1.K7)&&s.known) (.R s.E9.p7) (.R s.S9)) fun f2=>.J0 0 (fun(t:Y6)=>[.x 42,.x 43,.x 44,.c 1000000 78 [.t (tI t.I8),.t (tI t.D2),.t (tI t.Rest),.t (tI t.L3),.t (tI t.P0),.t (tS aN3 t.Path)]]) (.I (decide (f2>0)) (.K (H5 s.E9.O1 (.of (fun z_=>bD8 z_) 181 [])) fun v=>.J0 0 (fun(t:Int)=>[.t 3 (.t (tI t)),.x 42,.x 43,.x 44,.x 47,.x 48,.x 49,.x 50]) (.I (decide (v>=0)) (.D [] []<| .O (.ix B3 s.E9.O1 v) fun x=>.K (aA5 s.u.u9 x.Y5 13500) fun r2=>.R r2.1) (.R 0)) fun br1=>.D [] [(21,5)]<| .K (bK0 s.u.Y4 s.u.A6 br1 s.A0) fun r3=>.D [] []<| .K (bu1 s.u.A6) fun v2=>.K (aT9 r3.1 r3.2.2 v2) fun v3=>.R v3) (.R s.u.A6)) fun f3=>.J0 0 (fun(t:Int)=>[.t 8 (.t (tI t)),.x 106,.x 107,.x 108,.x 110,.x 111,.x 112]) (.I (decide (s.o9<400)) (.R (o4 (f2+800))) (.R f2)) fun S9=>.J0 0 (fun(t:Int)=>[.t 9 (.t (tI t))]) (.I s.u.J1.K7 (.R s.E9.J2) (.R 0)) fun bo0=>.J0 0 (fun(t:Int)=>[.t 10 (.t (tI t)),.x 123,.x 124,.x 125,.x 126]) (.I (s.d.bO1 !=0) (.D [] []<| .R (o4 (s.d.bO2+s.d.bl6))) (.R 0)) fun load=>.D [] [(21,11),(22,12)]<| .K (cf7 s.u.Y4 f3 bo0 (F5 S9 10000) load 10000) fun r4=>.D [] []<| .K (bu1 f3) fun v4=>.K (aT9 r4.1 r4.2.2 v4) fun v5=>.R ({s with u:=(⟨s.u.u9,s.u.u5,s.u.j3,s.u.Q2,s.u.M7,s.u.H8,s.u.M1,s.u.K3,s.u.J1,s.u.I0,v5,s.u.Y4,s.u.Time⟩:af3),S9:=f2}:j9))
def aZ1 (_:Int)(x:j8)(last:Int):M prog Bool (Fl Int Bool):=
 .W (.hx 0)<| .K (bL0 x.At) fun v=>.I ((((!v)||(decide (x.At<last)))||(decide (x.Channel<0)))||(decide (x.Channel>=16))) (.R (.ret false)) (.R (.next x.At))
def bw0 (l:List j8):C prog Bool:=.of Z call274 func274 [.t (tS u4 l)] (fun r=>.t (tB r)) (
 .I (decide ((l.length:Int)>1000)) (.R false) (M.Q u4 l 2 11 (fun(t:Int)=>[.t 3 (.t (tI t))]) 0 (.one .rt) (aZ1) 0 (fun _=>.R true) (fun r2=>.R r2)))
def N7 (s:List j8)(del:Cl prog j8 Bool (fun x=>[aB0 x]) (fun r=>.t (tB r))):CG prog (List j8):=⟨275,[.own 1000000,.fz del.n del.cs],[(1000000,.rs 95 3 s u4)],Pv.N7 s (fun x0=>del.f x0),fun _=>dt3 s,(fun r=>.t (tS u4 r)),(fun _=>[]),[],bj2 s del.n del.cs (fun x0=>del.f x0) (fun x0=>del.ok x0),fun _ r h=>bi3 h⟩
def aS7 (s:List j8):CG prog (List j8):=.of Z call276 func276 [.t (tS u4 s)] [] (fun _=>.own 900000) (fun r=>[(900000,.rs 95 3 r u4)]) [900000] (
 .Nl u4 s (.I true (.Z (.np 2 70000 95 3 [])<| .R ([]:List j8)) .N) (fun s=>.I false .N (.U (.ap u4 ([]:List j8) s 5) fun l=>.R l)))
def cp4 (x:j8)(c:ao4):C prog Bool:=.of Z call277 func277 [aB0 x,.el (bu3 c)] (fun r=>.t (tB r)) (
 .R (x.E3&&(!c.K7)))
def cg7 (s:ao4)(l:List j8):C prog (List j8×Int):=.of Z call186 func186 [bl5 s,.t (tS u4 l)] (fun r=>.P9 [.t (tS u4 r.1),.t (tI r.2)]) (
 .K (bn6 s) fun v=>.G (!v) (.R true) (.K (bw0 l) fun v2=>.R (!v2)) fun b2=>.I b2 (.R (([]:List j8),1)) (.KG (aS7 l) [2120] fun v3=>.Z (.fb 2)<| .KG (N7 v3 (.of (fun z_=>cp4 z_ s) 277 [bu3 s])) [] fun v4=>.R (v4,0)))
def bo7 (s:j9):CG prog ae8:=.of Z call87 func87 [.ptr 1000000 0] [(1000000,.box (G6 s))] (fun r=>cr5 r) (fun _=>[(1000000,.box (G6 s))]) [] (
 .D [] []<| .K (cg7 s.u.J1 s.y9) fun r2=>.D [] []<| .R (⟨s.t,s.o9,s.S9,s.U8,r2.1,s.Y7,(!s.u.J1.K7)⟩:ae8))
def bR6 (u:af3)(d:N1)(k:List ah5):C prog (af3×ae8):=.of Z call42 func42 [ca9 u,bd6 d,.t (tS aH7 k)] (fun r=>.P9 [ca9 r.1,cr5 r.2]) (
 .K (cf5 u.A6.D2) fun r2=>.Z (.nb 24 2292 267 7 [107])<| .Z (.nb 24 2293 95 3 [113])<| .KG (bk6 (⟨u,d,k,u.Time,r2.1,([]:List W0),0,0,0,0,0,(⟨0,([]:List A1),0⟩:O5),0,0,((u.Q2.Mode==2)&&u.M7.aY0),false,([]:List j8),0⟩:j9)) [] fun v=>.KG (aU1 v) [2304] fun v2=>.KG (aU2 v2) [] fun v3=>.Z (.fr 2304)<| .KG (aF3 v3) [] fun v4=>.KG (ba1 v4) [2352] fun v5=>.KG (aO7 v5) [2368] fun v6=>.Z (.fr 2368)<| .KG (bf0 v6) [] fun v7=>.D [] []<| .KG (bo7 ({v7 with u:=(⟨v7.u.u9,v7.u.u5,v7.u.j3,v7.u.Q2,v7.u.M7,v7.u.H8,v7.u.M1,v7.u.K3,v7.u.J1,v7.u.I0,v7.u.A6,v7.u.Y4,o4 (v7.t+10000)⟩:af3)}:j9)) [] fun v8=>.R ((⟨v7.u.u9,v7.u.u5,v7.u.j3,v7.u.Q2,v7.u.M7,v7.u.H8,v7.u.M1,v7.u.K3,v7.u.J1,v7.u.I0,v7.u.A6,v7.u.Y4,o4 (v7.t+10000)⟩:af3),v8))
def bm6 (u:af3)(d:N1)(k:List ah5):C prog (af3×ae8×Int):=.of Z call20 func20 [ca9 u,bd6 d,.t (tS aH7 k)] (fun r=>.P9 [ca9 r.1,cr5 r.2.1,.t (tI r.2.2)]) (
 .K (bW5 u) fun v=>.G (!v) (.R true) (.K (bI6 k) fun v2=>.R (!v2)) fun b2=>.G b2 (.R true) (.K (cu8 d) fun v3=>.R (!v3)) fun b3=>.I b3 (.R ((⟨(⟨(⟨([]:List Int),([]:List Int),([]:List (List Int))⟩:SMap),(⟨([]:List Int),([]:List Int),([]:List (List Int))⟩:SMap),(⟨([]:List Int),([]:List Int),([]:List (List Int))⟩:SMap),(⟨([]:List Int),([]:List Int),([]:List (List Int))⟩:SMap),(⟨([]:List Int),([]:List Int)⟩:Q0),(⟨([]:List Int),([]:List Int)⟩:Q0),(⟨([]:List Int),([]:List Int)⟩:Q0),(⟨([]:List Int),([]:List Int)⟩:Q0),(⟨0,0,0,0⟩:aW0)⟩:o8),(⟨(⟨0,0,false⟩:U2),(⟨0⟩:F7),([]:List B8),(⟨false,false,0,0,([]:List aa7)⟩:M8),0,(⟨0,0⟩:Z8)⟩:A7),(⟨(⟨([]:List Int),0⟩:o6),(⟨false,0,0,0,0,0⟩:D3),(⟨0,([]:List j7)⟩:w9),([]:List A1),([]:List A3),false⟩:c8),(⟨0,0,0,0,0,0⟩:Y9),(⟨false,0,0,false⟩:aa8),(⟨false,0,0⟩:X8),(⟨0,0,false⟩:ah6),(⟨0,0,0,false,false⟩:ac8),(⟨false,0,0⟩:ao4),(⟨([]:List z8),([]:List A5),0,false⟩:B7),(⟨0,0,0,0,0,([]:List Int)⟩:Y6),(⟨0,0,0,0,0,0,0⟩:L4),0⟩:af3),(⟨0,0,0,0,([]:List j8),([]:List W0),false⟩:ae8),1)) (.I (decide ((o4 (u.Time+10000))>549755813888)) (.R ((⟨(⟨(⟨([]:List Int),([]:List Int),([]:List (List Int))⟩:SMap),(⟨([]:List Int),([]:List Int),([]:List (List Int))⟩:SMap),(⟨([]:List Int),([]:List Int),([]:List (List Int))⟩:SMap),(⟨([]:List Int),([]:List Int),([]:List (List Int))⟩:SMap),(⟨([]:List Int),([]:List Int)⟩:Q0),(⟨([]:List Int),([]:List Int)⟩:Q0),(⟨([]:List Int),([]:List Int)⟩:Q0),(⟨([]:List Int),([]:List Int)⟩:Q0),(⟨0,0,0,0⟩:aW0)⟩:o8),(⟨(⟨0,0,false⟩:U2),(⟨0⟩:F7),([]:List B8),(⟨false,false,0,0,([]:List aa7)⟩:M8),0,(⟨0,0⟩:Z8)⟩:A7),(⟨(⟨([]:List Int),0⟩:o6),(⟨false,0,0,0,0,0⟩:D3),(⟨0,([]:List j7)⟩:w9),([]:List A1),([]:List A3),false⟩:c8),(⟨0,0,0,0,0,0⟩:Y9),(⟨false,0,0,false⟩:aa8),(⟨false,0,0⟩:X8),(⟨0,0,false⟩:ah6),(⟨0,0,0,false,false⟩:ac8),(⟨false,0,0⟩:ao4),(⟨([]:List z8),([]:List A5),0,false⟩:B7),(⟨0,0,0,0,0,([]:List Int)⟩:Y6),(⟨0,0,0,0,0,0,0⟩:L4),0⟩:af3),(⟨0,0,0,0,([]:List j8),([]:List W0),false⟩:ae8),2)) (.K (bR6 u d k) fun r2=>.D [] [(2,6)]<| .R (r2.1,r2.2,0))))
def aM3:C prog Bool:=.of Z call6 func6 [] (fun r=>.t (tB r)) (
 .K (dG7) fun v=>.K (el6) fun v2=>.K (bZ1) fun v3=>.K (bm5) fun v4=>.K (bW4 v v2 v3 v4) fun r2=>.K (bm6 r2.1 (⟨0,0,0,0,0⟩:N1) ([]:List ah5)) fun r3=>.R (((((((r2.2==0)&&(r3.2.2==0))&&(!r3.2.1.Off))&&(r3.2.1.D2==0))&&(r3.2.1.p7==0))&&(decide (r3.1.A6.D2>0)))&&(r3.1.Time==10000)))
def bu8 (l:List Int):C prog Bool:=.of Z call22 func22 [.t (tS aN3 l)] (fun r=>.t (tB r)) (
 .R (decide ((l.length:Int)>40)))
def aW9 (_:Int)(x:SMap)(_:Unit):M prog Bool (Fl Unit Bool):=
 .W (.hx 0)<| .W (.ly 0)<| .G (((decide ((x.X.length:Int)>40))||(decide ((x.Y.length:Int)>40)))||(decide ((x.Z.length:Int)>40))) (.R true) (.K (G0 x.Z (.of (fun z_=>bu8 z_) 22 [])) fun v=>.R v) fun b2=>.I b2 (.R (.ret false)) (.R (.next ()))
def aX0 (_:Int)(x2:Q0)(_:Unit):M prog Bool (Fl Unit Bool):=
 .W (.hx 0)<| .W (.ly 0)<| .I ((decide ((x2.X.length:Int)>40))||(decide ((x2.Y.length:Int)>40))) (.R (.ret false)) (.R (.next ()))
def bi9 (t2:o8):C prog Bool:=.of Z call7 func7 [S6 t2] (fun r=>.t (tB r)) (
 M.Q cN5 ([t2.Air,t2.O0,t2.p7,t2.aI4]:List SMap) 2 17 (fun(_:Unit)=>[.x 7,.x 9,.x 11,.x 13]) 0 (.one .rt) (aW9) () (fun _=>M.Q bI7 ([t2.L7,t2.ae7,t2.aw2,t2.C3]:List Q0) 2 53 (fun(_:Unit)=>[.x 1,.x 43,.x 45,.x 47,.x 49,.d 1]) 2 (.one .rt) (aX0) () (fun _=>.R true) (fun r2=>.R r2)) (fun r3=>.R r3))
def ao5 (x:List N1)(target:Int)(cmp:Cl prog (N1×Int) Int (fun x=>[bd6 x.1,.t (tI x.2)]) (fun r=>.t (tI r)))(s:Int×Int):M prog (Int×Bool) ((Int×Int)⊕((Int×Int)⊕Empty)):=
 .I (decide (s.1<s.2)) (.O (.ix am1 x (o4 (F4 .u64 (aX3.wrap (o4 (s.1+s.2))) 1))) fun x2=>.K (cmp.at (x2,target)) fun v=>.I (decide (v<0)) (.R (.inl (o4 ((o4 (F4 .u64 (aX3.wrap (o4 (s.1+s.2))) 1))+1),s.2))) (.R (.inl (s.1,o4 (F4 .u64 (aX3.wrap (o4 (s.1+s.2))) 1))))) (.R (.inr (.inl (s.1,s.2))))
def au6 (x:List N1)(target:Int)(cmp:Cl prog (N1×Int) Int (fun x=>[bd6 x.1,.t (tI x.2)]) (fun r=>.t (tI r))):C prog (Int×Bool):=.of Z call134 func134 [.t (tS am1 x),.t (tI target),.fz cmp.n cmp.cs] (fun r=>.P9 [.t (tI r.1),.t (tB r.2)]) (
 .L (fun(t:Int×Int)=>[.t 9 (.t (tI t.1)),.t 10 (.t (tI t.2))]) 0 (.e) (ao5 x target cmp) (0,(x.length:Int)) (fun s2=>.G (decide (s2.1<(x.length:Int))) (.O (.ix am1 x s2.1) fun x3=>.K (cmp.at (x3,target)) fun v2=>.R (v2==0)) (.R false) fun b2=>.R (s2.1,b2)) (fun t=>t.elim))
def cl5 (d:N1)(t2:Int):C prog Int:=.of Z call135 func135 [bd6 d,.t (tI t2)] (fun r=>.t (tI r)) (
 .R (o4 (d.At-t2)))
def ce0 (l:List N1)(t2:Int):C prog (Int×Int):=.of Z call78 func78 [.t (tS am1 l),.t (tI t2)] (fun r=>.P9 [.t (tI r.1),.t (tI r.2)]) (
 .K (aA2 l) fun v=>.I (!v) (.R (0,1)) (.I ((decide (t2<0))||(decide (t2>1099511627776))) (.R (0,2)) (.K (au6 l t2 (.of (fun z_=>cl5 z_.1 z_.2) 135 [])) fun r2=>.I (!r2.2) (.R (o4 (r2.1-1),0)) (.R (r2.1,0)))))
def bt8 (l:List N1)(t2:Int):C prog (N1×Int):=.of Z call38 func38 [.t (tS am1 l),.t (tI t2)] (fun r=>.P9 [bd6 r.1,.t (tI r.2)]) (
 .K (ce0 l t2) fun r2=>.I (r2.2 !=0) (.R ((⟨0,0,0,0,0⟩:N1),r2.2)) (.O (.ix am1 l r2.1) fun x=>.R (({x with At:=t2}:N1),0)))
def ce1 (l:List N1)(k:List ah5)(_:Int)(s:List ae8×af3):M prog (List ae8×Int) (Fl (List ae8×af3) (List ae8×Int)):=
 .K (bt8 l s.2.Time) fun r2=>.K (bm6 s.2 r2.1 k) fun r3=>.I (r3.2.2 !=0) (.R (.ret (([]:List ae8),2))) (.U (.ap by8 s.1 ([r3.2.1]:List ae8) 2472) fun l2=>.R (.next (l2,r3.1)))
def cG7 (u:af3)(l:List N1)(k:List ah5)(steps:Int):C prog (List ae8×Int):=.of Z call11 func11 [ca9 u,.t (tS am1 l),.t (tS aH7 k),.t (tI steps)] (fun r=>.P9 [.t (tS by8 r.1),.t (tI r.2)]) (
 .K (bW5 u) fun v=>.G (!v) (.R true) (.K (bI6 k) fun v2=>.R (!v2)) fun b2=>.G b2 (.R true) (.K (aA2 l) fun v3=>.R (!v3)) fun b3=>.I b3 (.R (([]:List ae8),1)) (.I ((decide (steps<0))||(decide (steps>1000))) (.R (([]:List ae8),2)) (.Z (.np 10 2472 91 7 [])<|M.QN steps 2 36 (fun(t:List ae8×af3)=>[.t 10 (.own 2472),.b 4 (.box (eM6 t.2)),.b 2472 (.rs 91 7 t.1 by8)]) 0 (.one .rt) (ce1 l k) (([]:List ae8),u) (fun s2=>.R (s2.1,0)) (fun r4=>.R r4))))
def ao2 (x:ae8)(_:Int)(x2:j8)(s2:Int×List Bool):M prog Bool (Fl (Int×List Bool) Bool):=
 .W (.hx 0)<| .J0 1 (fun(t:Bool)=>[.t 134 (.t (tB t))]) (.D [] []<| .Sp (decide (x2.Channel<0)) (.Sp true (.Sp true (.Sp true (.Sp true (.R true) .N) .N) .N) .N) (.Sp (decide (x2.Channel>=(s2.2.length:Int))) (.Sp true (.Sp true (.Sp true (.R true) .N) .N) .N) (.Sp (decide (x2.At<s2.1)) (.Sp true (.Sp true (.R true) .N) .N) (.Sp (decide (x2.At<x.Time)) (.Sp true (.R true) .N) (.Sp (decide (x2.At>(o4 (x.Time+10000)))) (.R true) (.O (.ix Pv.cv0 s2.2 x2.Channel) fun x3=>.W (.ly 0)<| .R (x2.E3==x3))))))) fun v6=>.I v6 (.R (.ret false)) (.D [] [(8,80)]<| .O (.ix Pv.cv0 s2.2 x2.Channel) fun _=>.U (.st Pv.cv0 s2.2 x2.Channel x2.E3 0) fun l3=>.R (.next (x2.At,l3)))
def az3 (_:Int)(x:ae8)(s:Int×List Bool):M prog Bool (Fl (Int×List Bool) Bool):=
 .W (.hx 0)<|M.Q u4 x.am6 2 90 (fun(t:Int×List Bool)=>[.t 17 (.t (tI t.1)),.x 87,.b 80 (.rs 4 1 t.2 Pv.cv0)]) 2 (.one .rt) (ao2 x) (s.1,s.2) (fun s3=>.R (.next (s3.1,s3.2))) (fun r4=>.R (.ret r4))
def av8 (t2:o8)(b2:L4)(e2:o6)(l:List N1)(steps:Int):C prog Bool:=.of Z call4 func4 [S6 t2,aL6 b2,at9 e2,.t (tS am1 l),.t (tK .u8 steps)] (fun r=>.t (tB r)) (
 .K (aM3) fun v=>.G (!v) (.R true) (.K (bi9 t2) fun v2=>.R (!v2)) fun b3=>.G ((b3||(decide ((e2.u6.length:Int)>20)))||(decide ((l.length:Int)>210))) (.R true) (.K (aA2 l) fun v3=>.R (!v3)) fun b4=>.I b4 (.K (aM3) fun v4=>.R v4) (.D [] [(9,11)]<| .K (bm5) fun v5=>.K (bW4 t2 b2 e2 v5) fun r2=>.I (r2.2 !=0) (.R (r2.2==1)) (.K (cG7 r2.1 l ([]:List ah5) (ep0 (o4 steps) 121)) fun r3=>.I ((r3.2 !=0)||((r3.1.length:Int) !=(ep0 (o4 steps) 121))) (.R false) (.Mk Pv.cv0 (o4 (2*(e2.u6.length:Int))) false fun l2=>M.Q by8 r3.1 2 83 (fun(t:Int×List Bool)=>[.t 17 (.t (tI t.1)),.x 5,.x 6,.x 7,.x 11,.x 76,.x 80,.b 80 (.rs 4 1 t.2 Pv.cv0),.d 5,.d 6,.d 7,.d 11]) 0 (.one .rt) (az3) (0,l2) (fun _=>.R true) (fun r5=>.R r5)))))
end Go.Proofs.YtmhdghdbojdgfaaGreat
namespace Go.Pv
open Go
structure cq4 (x:SMap):Prop where
  X:(wfL (fun n=>(dN9 .i64 n).wf=true)) x.X
  Y:(wfL (fun n=>(dN9 .i64 n).wf=true)) x.Y
  Z:(wfL (wfL (fun n=>(dN9 .i64 n).wf=true))) x.Z
structure bF5 (x:Q0):Prop where
  X:(wfL (fun n=>(dN9 .i64 n).wf=true)) x.X
  Y:(wfL (fun n=>(dN9 .i64 n).wf=true)) x.Y
structure dC2 (x:aW0):Prop where
  P:(fun n=>(dN9 .i64 n).wf=true) x.P
  I:(fun n=>(dN9 .i64 n).wf=true) x.I
  Low:(fun n=>(dN9 .i64 n).wf=true) x.Low
  bs5:(fun n=>(dN9 .i64 n).wf=true) x.bs5
structure ch4 (x:o8):Prop where
  Air:cq4 x.Air
  O0:cq4 x.O0
  p7:cq4 x.p7
  aI4:cq4 x.aI4
  L7:bF5 x.L7
  ae7:bF5 x.ae7
  aw2:bF5 x.aw2
  C3:bF5 x.C3
  ae6:dC2 x.ae6
structure cV4 (x:L4):Prop where
  ai7:(fun n=>(dN9 .i64 n).wf=true) x.ai7
  ap2:(fun n=>(dN9 .i64 n).wf=true) x.ap2
  aP2:(fun n=>(dN9 .i64 n).wf=true) x.aP2
  J2:(fun n=>(dN9 .i64 n).wf=true) x.J2
  P0:(fun n=>(dN9 .i64 n).wf=true) x.P0
  L2:(fun n=>(dN9 .i64 n).wf=true) x.L2
  aX9:(fun n=>(dN9 .i64 n).wf=true) x.aX9
structure ch3 (x:o6):Prop where
  u6:(wfL (fun n=>(dN9 .i64 n).wf=true)) x.u6
  as0:(fun n=>(dN9 .i64 n).wf=true) x.as0
structure bY1 (x:N1):Prop where
  At:(fun n=>(dN9 .i64 n).wf=true) x.At
  I7:(fun n=>(dN9 .i64 n).wf=true) x.I7
  bl6:(fun n=>(dN9 .i64 n).wf=true) x.bl6
  bO1:(fun n=>(dN9 .i64 n).wf=true) x.bO1
  bO2:(fun n=>(dN9 .i64 n).wf=true) x.bO2
end Go.Pv
namespace Go.Proofs.YtmhdghdbojdgfaaGreat
open Go Go.Pv Go.Proofs
theorem aE2:Reads Tryz.prog 3 aN3 (fun n=>(dN9 .i64 n).wf=true):=cx2 Tryz.underlying3 (fun _=>rfl)
theorem bE6:Reads Tryz.prog 22 (do7 aN3) (wfL (fun n=>(dN9 .i64 n).wf=true)):=bT6 (sz:=1) Tryz.underlying22 aE2 (by kernel_rfl) (by decide) (fun _=>rfl)
theorem es8:Reads Tryz.prog 23 (do7 (do7 aN3)) (wfL (wfL (fun n=>(dN9 .i64 n).wf=true))):=bT6 (sz:=1) Tryz.underlying23 bE6 (by kernel_rfl) (by decide) (fun _=>rfl)
theorem co3:Reads Tryz.prog 25 cN5 cq4:=by
  intro H e w fuel cs x h
  obtain⟨xs,n,_,rfl,hl,hlen,hf⟩:=DataW.trod_struct Tryz.underlying25 h
  obtain⟨y0,w0,r0⟩:=S3 hlen hf 0 rfl bE6
  obtain⟨y1,w1,r1⟩:=S3 hlen hf 1 rfl bE6
  obtain⟨y2,w2,r2⟩:=S3 hlen hf 2 rfl es8
  exact⟨⟨y0,y1,y2⟩,⟨w0,w1,w2⟩,S4 (o:=0) (o':=1) r0 (by kernel_rfl) (S4 (o:=1) (o':=2) r1 (by kernel_rfl) (S4 (o:=2) (o':=3) r2 (by kernel_rfl) (bK7 (hl.trans (by kernel_rfl)))))⟩
theorem co4:Reads Tryz.prog 27 bI7 bF5:=by
  intro H e w fuel cs x h
  obtain⟨xs,n,_,rfl,hl,hlen,hf⟩:=DataW.trod_struct Tryz.underlying27 h
  obtain⟨y0,w0,r0⟩:=S3 hlen hf 0 rfl bE6
  obtain⟨y1,w1,r1⟩:=S3 hlen hf 1 rfl bE6
  exact⟨⟨y0,y1⟩,⟨w0,w1⟩,S4 (o:=0) (o':=1) r0 (by kernel_rfl) (S4 (o:=1) (o':=2) r1 (by kernel_rfl) (bK7 (hl.trans (by kernel_rfl))))⟩
theorem es9:Reads Tryz.prog 29 dW7 dC2:=by
  intro H e w fuel cs x h
  obtain⟨xs,n,_,rfl,hl,hlen,hf⟩:=DataW.trod_struct Tryz.underlying29 h
  obtain⟨y0,w0,r0⟩:=S3 hlen hf 0 rfl aE2
  obtain⟨y1,w1,r1⟩:=S3 hlen hf 1 rfl aE2
  obtain⟨y2,w2,r2⟩:=S3 hlen hf 2 rfl aE2
  obtain⟨y3,w3,r3⟩:=S3 hlen hf 3 rfl aE2
  exact⟨⟨y0,y1,y2,y3⟩,⟨w0,w1,w2,w3⟩,S4 (o:=0) (o':=1) r0 (by kernel_rfl) (S4 (o:=1) (o':=2) r1 (by kernel_rfl) (S4 (o:=2) (o':=3) r2 (by kernel_rfl) (S4 (o:=3) (o':=4) r3 (by kernel_rfl) (bK7 (hl.trans (by kernel_rfl))))))⟩
theorem et0:Reads Tryz.prog 31 aR4 ch4:=by
  intro H e w fuel cs x h
  obtain⟨xs,n,_,rfl,hl,hlen,hf⟩:=DataW.trod_struct Tryz.underlying31 h
  obtain⟨y0,w0,r0⟩:=S3 hlen hf 0 rfl co3
  obtain⟨y1,w1,r1⟩:=S3 hlen hf 1 rfl co3
  obtain⟨y2,w2,r2⟩:=S3 hlen hf 2 rfl co3
  obtain⟨y3,w3,r3⟩:=S3 hlen hf 3 rfl co3
  obtain⟨y4,w4,r4⟩:=S3 hlen hf 4 rfl co4
  obtain⟨y5,w5,r5⟩:=S3 hlen hf 5 rfl co4
  obtain⟨y6,w6,r6⟩:=S3 hlen hf 6 rfl co4
  obtain⟨y7,w7,r7⟩:=S3 hlen hf 7 rfl co4
  obtain⟨y8,w8,r8⟩:=S3 hlen hf 8 rfl es9
  exact⟨⟨y0,y1,y2,y3,y4,y5,y6,y7,y8⟩,⟨w0,w1,w2,w3,w4,w5,w6,w7,w8⟩,S4 (o:=0) (o':=3) r0 (by kernel_rfl) (S4 (o:=3) (o':=6) r1 (by kernel_rfl) (S4 (o:=6) (o':=9) r2 (by kernel_rfl) (S4 (o:=9) (o':=12) r3 (by kernel_rfl) (S4 (o:=12) (o':=14) r4 (by kernel_rfl) (S4 (o:=14) (o':=16) r5 (by kernel_rfl) (S4 (o:=16) (o':=18) r6 (by kernel_rfl) (S4 (o:=18) (o':=20) r7 (by kernel_rfl) (S4 (o:=20) (o':=24) r8 (by kernel_rfl) (bK7 (hl.trans (by kernel_rfl)))))))))))⟩
theorem eN4:bZ5 Tryz.prog 31 (fun x=>S6 x) ch4:=cb7 Tryz.underlying31 et0 (fun _=>rfl)
theorem et1:Reads Tryz.prog 33 bD9 cV4:=by
  intro H e w fuel cs x h
  obtain⟨xs,n,_,rfl,hl,hlen,hf⟩:=DataW.trod_struct Tryz.underlying33 h
  obtain⟨y0,w0,r0⟩:=S3 hlen hf 0 rfl aE2
  obtain⟨y1,w1,r1⟩:=S3 hlen hf 1 rfl aE2
  obtain⟨y2,w2,r2⟩:=S3 hlen hf 2 rfl aE2
  obtain⟨y3,w3,r3⟩:=S3 hlen hf 3 rfl aE2
  obtain⟨y4,w4,r4⟩:=S3 hlen hf 4 rfl aE2
  obtain⟨y5,w5,r5⟩:=S3 hlen hf 5 rfl aE2
  obtain⟨y6,w6,r6⟩:=S3 hlen hf 6 rfl aE2
  exact⟨⟨y0,y1,y2,y3,y4,y5,y6⟩,⟨w0,w1,w2,w3,w4,w5,w6⟩,S4 (o:=0) (o':=1) r0 (by kernel_rfl) (S4 (o:=1) (o':=2) r1 (by kernel_rfl) (S4 (o:=2) (o':=3) r2 (by kernel_rfl) (S4 (o:=3) (o':=4) r3 (by kernel_rfl) (S4 (o:=4) (o':=5) r4 (by kernel_rfl) (S4 (o:=5) (o':=6) r5 (by kernel_rfl) (S4 (o:=6) (o':=7) r6 (by kernel_rfl) (bK7 (hl.trans (by kernel_rfl)))))))))⟩
theorem eN5:bZ5 Tryz.prog 33 (fun x=>aL6 x) cV4:=cb7 Tryz.underlying33 et1 (fun _=>rfl)
theorem et2:Reads Tryz.prog 35 bR7 ch3:=by
  intro H e w fuel cs x h
  obtain⟨xs,n,_,rfl,hl,hlen,hf⟩:=DataW.trod_struct Tryz.underlying35 h
  obtain⟨y0,w0,r0⟩:=S3 hlen hf 0 rfl bE6
  obtain⟨y1,w1,r1⟩:=S3 hlen hf 1 rfl aE2
  exact⟨⟨y0,y1⟩,⟨w0,w1⟩,S4 (o:=0) (o':=1) r0 (by kernel_rfl) (S4 (o:=1) (o':=2) r1 (by kernel_rfl) (bK7 (hl.trans (by kernel_rfl))))⟩
theorem eN6:bZ5 Tryz.prog 35 (fun x=>at9 x) ch3:=cb7 Tryz.underlying35 et2 (fun _=>rfl)
theorem eb5:Reads Tryz.prog 101 am1 bY1:=by
  intro H e w fuel cs x h
  obtain⟨xs,n,_,rfl,hl,hlen,hf⟩:=DataW.trod_struct Tryz.underlying101 h
  obtain⟨y0,w0,r0⟩:=S3 hlen hf 0 rfl aE2
  obtain⟨y1,w1,r1⟩:=S3 hlen hf 1 rfl aE2
  obtain⟨y2,w2,r2⟩:=S3 hlen hf 2 rfl aE2
  obtain⟨y3,w3,r3⟩:=S3 hlen hf 3 rfl aE2
  obtain⟨y4,w4,r4⟩:=S3 hlen hf 4 rfl aE2
  exact⟨⟨y0,y1,y2,y3,y4⟩,⟨w0,w1,w2,w3,w4⟩,S4 (o:=0) (o':=1) r0 (by kernel_rfl) (S4 (o:=1) (o':=2) r1 (by kernel_rfl) (S4 (o:=2) (o':=3) r2 (by kernel_rfl) (S4 (o:=3) (o':=4) r3 (by kernel_rfl) (S4 (o:=4) (o':=5) r4 (by kernel_rfl) (bK7 (hl.trans (by kernel_rfl)))))))⟩
theorem et3:Reads Tryz.prog 36 (do7 am1) (wfL bY1):=bT6 (sz:=5) Tryz.underlying36 eb5 (by kernel_rfl) (by decide) (fun _=>rfl)
theorem eN7:bZ5 Tryz.prog 36 (fun x=>.t (tS am1 x)) (wfL bY1):=dU9 Tryz.underlying36 et3 (fun _=>rfl)
theorem eG8:Reads Tryz.prog 5 eP3 (fun n=>(dN9 .u8 n).wf=true):=cx2 Tryz.underlying5 (fun _=>rfl)
theorem eY7:bZ5 Tryz.prog 5 (fun x=>.t (tK .u8 x)) (fun n=>(dN9 .u8 n).wf=true):=dN0 Tryz.underlying5 eG8 (fun _=>rfl) (fun _=>rfl)
theorem et4:Reads Tryz.prog 96 eB7 (fun n=>(dN9 .u16 n).wf=true):=cx2 Tryz.underlying96 (fun _=>rfl)
theorem fh6:bZ5 Tryz.prog 96 (fun x=>.t (tK .u16 x)) (fun n=>(dN9 .u16 n).wf=true):=dN0 Tryz.underlying96 et4 (fun _=>rfl) (fun _=>rfl)
end Go.Proofs.YtmhdghdbojdgfaaGreat

namespace Go.Pv
open Go.RowKit
theorem cU5 {S R:Type}(f:Int->S->Option (Fl S R))(I:Nat->S->Prop):∀(k i:Nat) (s:S),I i s->(∀j,i<=j->j<i+k->∀s,I j s->∃s',f (j:Int) s=some (.next s')/\I (j+1) s')->∃s',aX2 f k (i:Int) s=some (.inl s')/\I (i+k) s'
 |0,i,s,h,_=>⟨s,rfl,h⟩
 |k+1,i,s,h,st=>by
  obtain⟨s1,h1,h2⟩:=st i (Nat.le_refl _) (by omega) s h
  obtain⟨s2,h3,h4⟩:=cU5 f I k (i+1) s1 h2 (fun j a b=>st j (by omega) (by omega))
  refine⟨s2,?_,by rw[show i+(k+1)=i+1+k by omega];exact h4⟩
  simp only[aX2,h1,aH3]
  exact h3
theorem ai6 {S R:Type}(n:Nat)(hn:n<=9223372036854775807)(f:Int->S->Option (Fl S R))(I:Nat->S->Prop)(s:S)(h:I 0 s)(st:∀j,j<n->∀s,I j s->∃s',f (j:Int) s=some (.next s')/\I (j+1) s'):∃s',K9 (n:Int) f s=some (.inl s')/\I n s':=by
 obtain⟨s',h1,h2⟩:=cU5 f I n 0 s h (fun j _ b=>st j (by omega))
 refine⟨s',?_,by simpa using h2⟩
 rw[al5 _ hn]
 exact h1
theorem cv9 {S B:Type}{mb:S->Option (S⊕B)}(I:Nat->S->Prop)(J:B->Prop):∀(n k:Nat) (s:S),I k s->(∀j,k<=j->j<k+n->∀s,I j s->∃s',mb s=some (.inl s')/\I (j+1) s')->(∀s,I (k+n) s->∃b,mb s=some (.inr b)/\J b)->∃b,L5 mb s=some b/\J b
 |0,k,s,h,_,e=>by
  obtain⟨b,h1,h2⟩:=e s h
  exact⟨b,E0 h1,h2⟩
 |n+1,k,s,h,st,e=>by
  obtain⟨s',h1,h2⟩:=st k (Nat.le_refl _) (by omega) s h
  rw[G9 h1]
  exact cv9 I J n (k+1) s' h2 (fun j a b=>st j (by omega) (by omega)) (by rw[show k+1+n=k+(n+1) by omega];exact e)
theorem T6 {α:Type}(l:List α)(i:Nat)(y:α)(h:i<l.length):am4 l (i:Int) y=some (l.set i y):=by
 unfold am4;rw[if_pos ⟨by omega,by omega⟩];rfl
theorem C7 {α:Type}(l:List α)(i:Nat)(h:i<l.length):D4 l (i:Int)=some l[i]:=by rw[T5,List.getElem?_eq_getElem h]
theorem bW9 {α:Type}(n:Nat)(h:n<=1073741824)(z:α):aS0 (n:Int) z=some (List.replicate n z):=by
 unfold aS0;rw[if_pos ⟨by omega,by omega⟩];rfl
theorem H7 {α:Type}(l r:List α)(h:l.length+r.length<=1073741824):U5 l r=some (l++r):=by
 unfold U5;rw[if_pos h]
theorem dG2 {α:Type}(l r:List α)(h:l.length=r.length):aJ2 l r=r:=by
 unfold aJ2;rw[h,List.take_length,<-h,List.drop_length,List.append_nil]
theorem aq7 {α S R:Type}(l:List α)(f:Int->α->S->Option (Fl S R)):cS4 l f=fun p=>bif decide (p.1<(l.length:Int))then((D4 l p.1).bind fun x=>(f p.1 x p.2).bind (az5 p.1))else some (.inr (.inl p.2)):=rfl
theorem M4 {S R:Type}(n:Int)(f:Int->S->Option (Fl S R)):co0 n f=fun p=>bif decide (p.1<n)then(f p.1 p.2).bind (az5 p.1)else some (.inr (.inl p.2)):=rfl
theorem bg {α:Type}(c x y:Bool)(f:Bool->Option α):ai5 (bif c then some x else some y) f=f (bif c then x else y):=by cases c<;>rfl
theorem bga (c x:Bool):(bif c then x else false)=(c&&x):=by cases c<;>rfl
theorem bgo (c x:Bool):(bif c then true else x)=(c||x):=by cases c<;>rfl
theorem bso {α β:Type}(x:α)(f:α->Option β):ai5 (some x) f=f x:=rfl
theorem ci7 {α β:Type}{a:Option α}{x:α}{f:α->Option β}{r:Option β}(h:a=some x)(k:f x=r):a.bind f=r:=by subst h;exact k
theorem bJ3 {α:Type}(l:List α)(hn:l.length<=9223372036854775807)(f:α->Option Bool)(p:α->Bool)(h:∀y∈l,f y=some (p y)):
  (ai5 (ai5 (L5 (fun(s:Int×Unit)=>bif decide (s.1<(l.length:Int))then(ai5 (ai5 (D4 l s.1) fun t=>ai5 (f t) fun t=>bif t then some (Fl.ret s.1)else some (Fl.next ())) (az5 s.1))else some (Sum.inr (Sum.inl s.2))) (0,())) fun(t:Unit⊕Int)=>match t with| .inl _=>(some (-1))| .inr r2=>some r2) fun v=>some (decide (v>=0)))=some (l.any p):=by
 have:=ai0 l hn f p h
 exact this
theorem elE {P:Program}{ρ τ:Type}(t:Empty):(t.elim:M P ρ τ).run=(t.elim:Option τ):=t.elim
theorem bgt {α:Type}(c d:Bool)(x:α):(bif c then some (true,x)else some (d,x))=some (c||d,x):=by cases c<;>rfl
theorem da3 {α β:Type}{a:Option α}{f g:α->Option β}(h:∀y,a=some y->f y=g y):a.bind f=a.bind g:=by cases a;rfl;exact h _ rfl
theorem dN7 {α:Type}{c:Bool}{x y z w:α}(h:x=z)(k:y=w):(bif c then x else y)=(bif c then z else w):=by rw[h,k]
end Go.Pv
namespace Go.Pv.Ec
open Go Go.Pv Go.Proofs Go.Proofs.YtmhdghdbojdgfaaGreat
theorem eS7 {x y:Int}(h:y<x):F5 x y=y:=by unfold F5;rw[if_pos h]
theorem eS6 {x y:Int}(h:x<=y):F5 x y=x:=by unfold F5;rw[if_neg (by omega)]
def ad6 (t:Int):Bool:=decide (t>=0)&&decide (t<=1099511627776)
theorem aH0 {t:Int}:ad6 t=true↔0<=t/\t<=1099511627776:=by simp[ad6]
def tfB (f:X8):Bool:=ad6 f.H0&&ad6 f.F9&&decide (f.F9<=f.H0)&&(f.Seen||((f.H0==0)&&(f.F9==0)))
theorem dT3 (t:Int):(aV9 t).m=some (ad6 t):=rfl
theorem cU9 (f:X8):(aH2 f).m=some (tfB f):=by
 simp only[aH2,C.of,M.run,dT3,aH3]
 cases h:ad6 f.H0<;>simp[tfB,h]
theorem ew8 (f:X8):∃n,(bg5 f).m=some n:=by
 simp only[bg5,C.of,M.run,cU9,aH3]
 cases(!tfB f|| !f.Seen)<;>exact⟨_,rfl⟩
theorem eI4 (f:X8)(t:Int):∃g b e,(bk1 f t).m=some (g,b,e)/\(e=0->tfB f=true/\tfB g=true/\(g.H0=t\/g=f)/\ad6 t=true):=by
 obtain⟨n,hn⟩:=ew8 f
 simp only[bk1,C.of,M.run,cU9,dT3,hn,aH3]
 cases h1:tfB f
 ·exact⟨_,_,_,rfl,fun h=>by cases h⟩
 cases h2:ad6 t
 ·exact⟨_,_,_,rfl,fun h=>by cases h⟩
 have ht:=aH0.1 h2
 simp only[tfB,aJ5,fk4,aH0]at h1
 simp only[aP9,fj6]
 cases h3:(f.Seen&&decide (t<f.H0))
 ·simp only[fj6]
  cases h4:f.Seen
  ·simp only[fj6,aH3]
   refine⟨_,_,_,rfl,fun _=>⟨by simp[tfB],?_,.inl rfl,trivial⟩⟩
   simp[tfB,ad6,ht.1,ht.2]
  ·rw[h4,Bool.true_and]at h3
   have h3:=of_decide_eq_false h3
   simp only[fj8,aH3]
   cases decide (o4 (t-f.H0)<n)
   ·refine⟨_,_,_,rfl,fun _=>⟨by simp[tfB],?_,.inl rfl,trivial⟩⟩
    have:o4 (t-f.H0)=t-f.H0:=j6 (by omega) (by omega)
    simp only[tfB,this,aJ5,fk4,aH0,Bool.true_or,and_true]
    omega
   ·exact⟨_,_,_,rfl,fun _=>⟨by simp[tfB],by simp[tfB,aH0,h1],.inr rfl,trivial⟩⟩
 ·exact⟨_,_,_,rfl,fun h=>by cases h⟩
def grB (g:ah6):Bool:=(((decide (g.Over>=0)&&decide (g.Over<=5))&&(decide (g.Calm>=0)&&decide (g.Calm<=1000)))&&((g.Over==0)||(g.Calm==0)))&&(g.Off||decide (g.Over<5))
theorem dX2 (x a b:Int):(N0 x a b).m=some (decide (x>=a)&&decide (x<=b)):=rfl
theorem cm0 (g:ah6):(aY6 g).m=some (grB g):=by
 simp only[aY6,C.of,M.run,dX2,aH3]
 cases h:(decide (g.Over>=0)&&decide (g.Over<=5))<;>simp[grB,h]
theorem dd4 (t:Int):(bv1 t).m=some (decide (t>= -20000)&&decide (t<=20000)):=rfl
theorem eD3 (g:ah6)(p a:Int):∃h e,(aV5 g p a).m=some (h,e)/\(e=0->grB h=true)/\
  (grB g=true-> -20000<=p->p<=20000-> -20000<=a->a<=20000->e=0/\h=if a>p then⟨F5 5 (g.Over+1),0,g.Off||(F5 5 (g.Over+1)==5)⟩else⟨0,F5 1000 (g.Calm+1),g.Off⟩):=by
 simp only[aV5,C.of,M.run,cm0,dd4,aH3]
 cases h1:grB g
 ·exact⟨_,_,rfl,fun h=>(by cases h),fun h=>(by cases h)⟩
 simp only[grB,aJ5,fk4,cG1,beq_iff_eq]at h1
 have w1:o4 (g.Over+1)=g.Over+1:=j6 (by omega) (by omega)
 have w2:o4 (g.Calm+1)=g.Calm+1:=j6 (by omega) (by omega)
 simp only[aP9,fj6,w1,w2]
 by_cases hb:(-20000<=p/\p<=20000)/\(-20000<=a/\a<=20000)
 ·have e1:(decide (p>= -20000)&&decide (p<=20000))=true:=by simp[hb.1]
  have e2:(decide (a>= -20000)&&decide (a<=20000))=true:=by simp[hb.2]
  rw[e1,e2]
  simp only[aP9,fj6,aH3]
  by_cases ha:a>p
  ·rw[fk0 ha]
   refine⟨_,_,rfl,fun _=>?_,fun _ _ _ _ _=>⟨rfl,by rw[if_pos ha]⟩⟩
   rcases Int.lt_or_le (g.Over+1) 5 with hm|hm
   ·rw[eS7 hm];simp only[grB,aJ5,fk4,cG1,beq_iff_eq];exact⟨⟨by omega,.inr (by trivial)⟩,.inr hm⟩
   ·rw[eS6 hm];simp[grB]
  ·rw[fk3 ha]
   refine⟨_,_,rfl,fun _=>?_,fun _ _ _ _ _=>⟨rfl,by rw[if_neg ha]⟩⟩
   have:0<=F5 1000 (g.Calm+1)/\F5 1000 (g.Calm+1)<=1000:=by unfold F5;split<;>omega
   have h2:=h1.2
   simp only[grB,aJ5,fk4,cG1,beq_iff_eq]
   refine⟨⟨by omega,.inl (by trivial)⟩,?_⟩
   rcases h2 with h2|h2
   ·exact .inl h2
   ·right;omega
 ·cases e1:(decide (p>= -20000)&&decide (p<=20000))
  ·exact⟨_,_,rfl,fun h=>(by cases h),fun _ h1 h2=>(by simp[h1,h2]at e1)⟩
  ·cases e2:(decide (a>= -20000)&&decide (a<=20000))
   ·exact⟨_,_,rfl,fun h=>(by cases h),fun _ _ _ h1 h2=>(by simp[h1,h2]at e2)⟩
   ·simp only[aJ5,fk4]at e1 e2
    exact absurd ⟨⟨e1.1,e1.2⟩,e2.1,e2.2⟩ hb
def quB (n:Int):Bool:=decide (n>=1)&&decide (n<=65535)
def qzB (q:ac8):Bool:=(((((quB q.Question&&ad6 q.ar9)&&(q.Open||(q.ar9==0)))&&decide (q.T3>=0))&&decide (q.T3<=7))&&(q.Off==(q.T3==7)))&& !(q.Open&&q.Off)
theorem bT5 (n:Int):(aY8 n).m=some (quB n):=rfl
theorem cg0 (n:Int):(br3 n).m=some (ad6 n):=rfl
theorem eG6 (n:Int):(cx0 n).m=some (decide (n>=0)&&decide (n<=65535)):=rfl
theorem cn9 (q:ac8):(bj5 q).m=some (qzB q):=by
 simp only[bj5,C.of,M.run,bT5,cg0,aH3]
 cases h:quB q.Question<;>simp[qzB,h]
theorem eg7 (l:List Int)(hl:l.length<=1000000)(f:Cl Tryz.prog Int Bool (fun x=>[.t (tI x)]) (fun r=>.t (tB r)))(p:Int->Bool)(h:∀x∈l,f.f x=some (p x)):(o7 l f).m=some (l.any p):=by
 simp only[o7,T9,V9,C.of,M.run,L1.m,Cl.at]
 refine Eq.trans ?_ (bJ3 l (by omega) f.f p h)
 kernel_rfl
def ptB (l:List Int):Bool:=(decide ((l.length:Int)>=1)&&decide ((l.length:Int)<=16))&& !(l.any fun p=>!(decide (p>=0)&&decide (p<=65535)))
theorem dz0 (l:List Int):(bK4 l).m=some (ptB l):=by
 simp only[bK4,C.of,M.run]
 cases h:(decide ((l.length:Int)>=1)&&decide ((l.length:Int)<=16))
 ·simp[ptB,h]
 ·simp only[aJ5,fk4]at h
  rw[eg7 l (by omega) _ (fun p=>!(decide (p>=0)&&decide (p<=65535))) (fun x _=>rfl)]
  simp[ptB,h]
theorem fk8 (a:Nat)(h:a<32768):dF0 .i64 (a:Int) 46080=((a^^^46080:Nat):Int):=by
 unfold dF0
 have e1:(BitVec.ofInt (eT7 .i64) (a:Int)).toNat=a:=by
  show(BitVec.ofInt 64 (a:Int)).toNat=a
  simp;omega
 have e2:(BitVec.ofInt (eT7 .i64) (46080:Int)).toNat=46080:=by rfl
 rw[BitVec.toNat_xor,e1,e2]
 have:a^^^46080<2^16:=Nat.xor_lt_two_pow (by omega) (by omega)
 exact j6 (by omega) (by omega)
theorem fh5 (a:Nat)(h:a<65536):ad3 .i64 (a:Int) 1=((a%2:Nat):Int):=by
 unfold ad3
 have e1:(BitVec.ofInt (eT7 .i64) (a:Int)).toNat=a:=by
  show(BitVec.ofInt 64 (a:Int)).toNat=a
  simp;omega
 have e2:(BitVec.ofInt (eT7 .i64) (1:Int)).toNat=1:=by rfl
 rw[BitVec.toNat_and,e1,e2,Nat.and_one_is_mod]
 exact j6 (by omega) (by omega)
theorem fk1 (a:Nat):F4 .i64 (a:Int) 1=((a/2:Nat):Int):=by
 unfold F4
 show(a:Int).fdiv 2=_
 rw[Int.fdiv_eq_ediv_of_nonneg _ (by omega)]
 omega
theorem eJ2 (a:Nat)(h:a<32768):0<a^^^46080:=by
 have h1:(a^^^46080).testBit 15=true:=by
  rw[Nat.testBit_xor,Nat.testBit_lt_two_pow (by omega)]
  rfl
 rcases Nat.eq_zero_or_pos (a^^^46080)with h0|h0
 ·rw[h0]at h1;simp at h1
 ·exact h0
theorem eG5 (n:Int)(h:quB n=true):∃m,(cw9 n).m=some m/\quB m=true:=by
 simp only[cw9,C.of,M.run,bT5,h,aH3,aP9,fj6]
 simp only[quB,aJ5,fk4]at h
 obtain⟨a,rfl⟩:∃a:Nat,n=(a:Int):=⟨n.toNat,by omega⟩
 rw[fh5 a (by omega),fk1]
 cases h1:((((a%2:Nat):Int))==1)
 ·simp only[beq_eq_false_iff_ne]at h1
  exact⟨_,rfl,by simp only[quB,aJ5,fk4];omega⟩
 ·rw[fk8 _ (by omega)]
  have h2:a/2^^^46080<2^16:=Nat.xor_lt_two_pow (by omega) (by omega)
  have h3:=eJ2 (a/2) (by omega)
  exact⟨_,rfl,by simp only[quB,aJ5,fk4];omega⟩
theorem eT9 (q:ac8)(b:Bool)(h:qzB q=true):∃r,(cS2 q b).m=some r/\qzB r=true/\r.ar9=0/\r.Open=false/\r.Question=q.Question/\r.T3=(if b then G7 (q.T3-1) 0 else F5 (q.T3+2) 7)/\r.Off=(r.T3==7):=by
 simp only[qzB,aJ5,fk4,cG1,beq_iff_eq,bO4]at h
 have w1:o4 (q.T3-1)=q.T3-1:=j6 (by omega) (by omega)
 have w2:o4 (q.T3+2)=q.T3+2:=j6 (by omega) (by omega)
 simp only[cS2,C.of,M.run,w1,w2]
 have h1:=h.1.1.1.1.1.1
 cases b
 ·refine⟨_,rfl,?_,rfl,rfl,rfl,rfl,rfl⟩
  have:0<=F5 (q.T3+2) 7/\F5 (q.T3+2) 7<=7:=by unfold F5;split<;>omega
  simp[qzB,h1,this,ad6]
 ·refine⟨_,rfl,?_,rfl,rfl,rfl,rfl,rfl⟩
  have:0<=G7 (q.T3-1) 0/\G7 (q.T3-1) 0<=7:=by unfold G7;split<;>omega
  simp[qzB,h1,this,ad6]
theorem es4 (q:ac8)(now:Int):∃r n e,(cS0 q now).m=some (r,n,e)/\(e=0->qzB r=true/\r.ar9=now/\r.Open=true/\r.T3=q.T3/\r.Off=q.Off)/\(qzB q=true->ad6 now=true->q.Open=false->q.Off=false->e=0):=by
 simp only[cS0,C.of,M.run,cn9,cg0,aH3]
 cases h:qzB q
 ·exact⟨_,_,_,rfl,fun h=>(by cases h),fun h=>(by cases h)⟩
 cases h2:ad6 now
 ·exact⟨_,_,_,rfl,fun h=>(by cases h),fun _ h=>(by cases h)⟩
 simp only[aP9,fj6]
 cases h3:(q.Open||q.Off)
 ·simp only[Bool.or_eq_false_iff]at h3
  have h':=h
  simp only[qzB,aJ5,fk4,cG1,beq_iff_eq,bO4]at h
  obtain⟨m,e,hm⟩:=eG5 q.Question h.1.1.1.1.1.1
  refine⟨_,_,_,ci7 e rfl,fun _=>⟨?_,rfl,rfl,rfl,rfl⟩,fun _ _ _ _=>rfl⟩
  have:=h.1.2
  rw[h3.2]at this
  have:q.T3≠7:=by simpa using this.symm
  simp[qzB,hm,h2,h,this]
 ·exact⟨_,_,_,rfl,fun h=>(by cases h),fun _ _ h1 h2=>(by simp[h1,h2]at h3)⟩
def sgB (s:ao4):Bool:=(((decide (s.bs4>=0))&&(decide (s.bs4<=3)))&&(s.K7==(s.bs4==0)))&&ad6 s.aQ6
theorem cH9 (t:Int):(bL0 t).m=some (ad6 t):=rfl
theorem cT5 (s:ao4):(bn6 s).m=some (sgB s):=by
 simp only[bn6,C.of,M.run,cH9,aH3]
 cases h:(((decide (s.bs4>=0))&&(decide (s.bs4<=3)))&&(s.K7==(s.bs4==0)))<;>simp[sgB,h]
def csV (key:Bool)(g:ah6)(q:ac8):Int:=if !key then 1 else if g.Off then 2 else if q.Off then 3 else 0
theorem eu4 (key:Bool)(g:ah6)(q:ac8):(bU8 key g q).m=some (csV key g q):=by
 simp only[bU8,C.of,M.run]
 cases key<;>cases hg:g.Off<;>cases hq:q.Off<;>simp[csV,hg,hq]
theorem eH5 (s:ao4)(key:Bool)(g:ah6)(q:ac8)(now:Int):∃r e,(cg8 s key g q now).m=some (r,e)/\(e=0->sgB r=true/\(r.aQ6=now\/r.aQ6=s.aQ6)/\r.K7=(csV key g q==0))/\
  (sgB s=true->grB g=true->qzB q=true->ad6 now=true->s.aQ6<=now->e=0):=by
 simp only[cg8,C.of,M.run,cT5,cm0,cn9,cH9,eu4,aH3]
 cases h1:sgB s
 ·exact⟨_,_,rfl,fun h=>(by cases h),fun h=>(by cases h)⟩
 cases h2:grB g
 ·exact⟨_,_,rfl,fun h=>(by cases h),fun _ h=>(by cases h)⟩
 cases h3:qzB q
 ·exact⟨_,_,rfl,fun h=>(by cases h),fun _ _ h=>(by cases h)⟩
 cases h4:ad6 now
 ·exact⟨_,_,rfl,fun h=>(by cases h),fun _ _ _ h=>(by cases h)⟩
 simp only[aP9,fj6,aH3]
 by_cases h5:now<s.aQ6
 ·rw[fk0 h5]
  exact⟨_,_,rfl,fun h=>(by cases h),fun _ _ _ _ h=>absurd h5 (by omega)⟩
 ·rw[fk3 h5]
  simp only[fj6]
  have hc:0<=csV key g q/\csV key g q<=3:=by unfold csV;split<;>(try split)<;>(try split)<;>omega
  simp only[sgB,aJ5]at h1
  cases(!((csV key g q==0)==s.K7))
  ·exact⟨_,_,rfl,fun _=>⟨by simp[sgB,hc,h1.2],.inr rfl,rfl⟩,fun _ _ _ _ _=>rfl⟩
  ·exact⟨_,_,rfl,fun _=>⟨by simp[sgB,hc,h4],.inl rfl,rfl⟩,fun _ _ _ _ _=>rfl⟩
abbrev w0:aI7:=⟨60,2⟩
abbrev c0:ci3:=⟨[5000,12000,30000]⟩
theorem cy2:(br7).m=some w0:=rfl
theorem cl7:(bD6).m=some c0:=rfl
theorem bY2:(aL5 w0).m=some true:=(aL5 w0).le 1 _ (by kernel_rfl)
theorem bF6:(aT1 w0).m=some 58:=(aT1 w0).le 1 _ (by kernel_rfl)
theorem cy3:(bd1 w0).m=some 384:=(bd1 w0).le 1 _ (by kernel_rfl)
theorem da5:(aT2 c0).m=some true:=(aT2 c0).le 100 _ (by kernel_rfl)
theorem dF4:(bL5 c0).m=some (2,1):=(bL5 c0).le 100 _ (by kernel_rfl)
theorem es2 {a b:Int}(ha:0<=a)(hb:0<b)(hm:a<=9223372036854775807):bn5 .i64 a b=some (a/b):=by
 unfold bn5
 rw[if_neg (by omega),cr3 ha]
 have h1:a/b<=a:=Int.ediv_le_self b ha
 have h0:0<=a/b:=Int.ediv_nonneg ha (by omega)
 exact congrArg some (j6 (by omega) (by omega))
theorem bf {a b:Int}(h:¬a=b):(a==b)=false:=by simpa using h
theorem bnt {a b:Int}(h:¬a=b):(a !=b)=true:=by simpa using h
def syB (s:Y9):Bool:=
 if s.Mode=0 then(s.ay6==0)&&((s.H0==0)&&((s.F9==0)&&((s.N9==0)&&(s.aw3==0))))
 else if s.Mode=1 then((s.ay6==0)&&ad6 s.H0)&&(if s.aw3=0 then(s.F9==0)&&(s.N9==0)else(((s.aw3==1)||(s.aw3==2))&&decide (s.F9>=1))&&decide (s.F9<=s.H0)&&(s.N9==s.F9))
 else if s.Mode=2 then decide (s.ay6>=0)&&decide (s.ay6<58)&&ad6 s.H0&&decide (s.F9>=1)&&decide (s.F9<=s.H0)&&decide (s.N9>=1)&&decide (s.N9<=s.F9)&&(s.aw3==0)
 else false
theorem ch1 (t:Int):(bg4 t).m=some (ad6 t):=rfl
theorem cU7 (s:Y9):(bw2 w0 s).m=some (syB s):=by
 simp only[bw2,C.of,M.run,bY2,bF6,ch1,aH3,aP9,fj6]
 by_cases h0:s.Mode=0
 ·simp[syB,h0]
 by_cases h1:s.Mode=1
 ·simp only[syB,h1]
  by_cases ht:s.ay6=0
  ·cases hl:ad6 s.H0
   ·simp[ht]
   ·by_cases he:s.aw3=0
    ·simp[ht,he]
    ·simp[ht,he,bf he]
  ·simp[bf ht,bnt ht]
 by_cases h2:s.Mode=2
 ·simp only[syB,h2]
  cases decide (s.ay6>=0)<;>cases decide (s.ay6<58)<;>cases ad6 s.H0<;>cases decide (s.F9>=1)<;>cases decide (s.F9<=s.H0)<;>cases decide (s.N9>=1)<;>simp
 ·simp[syB,h0,h1,h2,bf h0,bf h1,bf h2]
theorem eI1 (p q:Int):(cx9 p q).m=some (decide ((o4 (4*(G7 (o4 (p-q)) (o4 (q-p)))))<=q)):=rfl
theorem eV2 (n p:Int):(dB1 w0 n p).m=some (decide (p>(o4 (2*n)))):=rfl
theorem dT2 (s:Y9):(bX8 w0 s).m=some (s.ay6==57):=by
 simp only[bX8,C.of,M.run,bF6,aH3];rfl
theorem cC1 (s:Y9):(bl2 w0 s).m=some (if s.ay6=57 then o4 (3*s.N9)else s.N9):=by
 simp only[bl2,C.of,M.run,dT2,aH3]
 by_cases h:s.ay6=57
 ·simp only[h,beq_self_eq_true,fj8,if_true];rfl
 ·simp[h,bf h]
abbrev sy0:Y9:=⟨0,0,0,0,0,0⟩
theorem eV1:syB sy0=true:=rfl
theorem ed3 (s:Y9)(t:Int)(hs:syB s=true)(ht:ad6 t=true)(hl:s.Mode≠0->s.H0<t):∃r,(cy0 w0 s t).m=some r/\syB r=true/\(r.H0=t\/r=sy0):=by
 have ht':=aH0.1 ht
 simp only[cy0,C.of,M.run,eI1,eV2,dT2,cC1,aH3,L1.m]
 by_cases h1:s.Mode=1
 ·have hlt:=hl (by omega)
  simp only[syB,h1]at hs
  simp[ad6]at hs
  have wp:o4 (t-s.H0)=t-s.H0:=j6 (by omega) (by omega)
  simp only[h1,beq_self_eq_true,fj8,wp]
  by_cases h2:s.aw3=2
  ·simp[h2]at hs
   have wn:o4 (2*s.N9)=2*s.N9:=j6 (by omega) (by omega)
   simp only[h2,beq_self_eq_true,fj8,aH3,wn]
   by_cases hg:t-s.H0>2*s.N9
   ·rw[fk0 hg]
    simp only[fj8]
    refine⟨_,ci7 (es2 (by omega) (by decide) (by omega)) rfl,?_,.inl rfl⟩
    have:o4 (2+1)=3:=rfl
    simp only[syB,this]
    simp[ad6,ht']
    omega
   ·rw[fk3 hg]
    simp only[fj6]
    cases decide (o4 (4*G7 (o4 (t-s.H0-s.N9)) (o4 (s.N9-(t-s.H0))))<=s.N9)
    ·refine⟨_,rfl,?_,.inl rfl⟩
     simp[syB,ad6,ht'];omega
    ·refine⟨_,rfl,?_,.inl rfl⟩
     simp[syB,ad6,ht'];omega
  ·simp only[show(s.aw3==2)=false by simpa using h2,fj6,aH3]
   cases(s.aw3 !=0)
   ·refine⟨_,rfl,?_,.inl rfl⟩
    simp[syB,ad6,ht'];omega
   ·simp only[fj8,aH3]
    cases decide (o4 (4*G7 (o4 (t-s.H0-s.N9)) (o4 (s.N9-(t-s.H0))))<=s.N9)
    ·refine⟨_,rfl,?_,.inl rfl⟩
     simp[syB,ad6,ht'];omega
    ·refine⟨_,rfl,?_,.inl rfl⟩
     simp[syB,ad6,ht'];omega
 ·simp only[show(s.Mode==1)=false by simpa using h1,fj6]
  by_cases h2:s.Mode=2
  ·have hlt:=hl (by omega)
   simp only[syB,h2]at hs
   simp[ad6]at hs
   have wp:o4 (t-s.H0)=t-s.H0:=j6 (by omega) (by omega)
   simp only[h2,beq_self_eq_true,fj8,wp]
   by_cases h3:s.ay6=57
   ·have w3:o4 (3*s.N9)=3*s.N9:=j6 (by omega) (by omega)
    simp only[h3,if_true,w3,beq_self_eq_true,fj8]
    by_cases hf:o4 (4*G7 (o4 (t-s.H0-3*s.N9)) (o4 (3*s.N9-(t-s.H0))))<=3*s.N9
    ·rw[fk0 hf]
     simp only[aP9,fj6]
     refine⟨_,ci7 (es2 (by omega) (by decide) (by omega)) rfl,?_,.inl rfl⟩
     have:o4 (2+1)=3:=rfl
     have e1:o4 (t-s.H0-3*s.N9)=t-s.H0-3*s.N9:=j6 (by omega) (by omega)
     have e2:o4 (3*s.N9-(t-s.H0))=3*s.N9-(t-s.H0):=j6 (by omega) (by omega)
     rw[e1,e2]at hf
     have hm:3*s.N9-(t-s.H0)<=G7 (t-s.H0-3*s.N9) (3*s.N9-(t-s.H0)):=by unfold G7;split<;>omega
     have hm2:G7 (t-s.H0-3*s.N9) (3*s.N9-(t-s.H0))<=3298534883328:=by unfold G7;split<;>omega
     have hm3:0<=G7 (t-s.H0-3*s.N9) (3*s.N9-(t-s.H0)):=by unfold G7;split<;>omega
     rw[j6 (by omega) (by omega)]at hf
     simp only[syB,this]
     simp[ad6,ht']
     omega
    ·rw[fk3 hf]
     exact⟨_,rfl,rfl,.inr rfl⟩
   ·simp only[if_neg h3,show(s.ay6==57)=false by simpa using h3]
    cases decide (o4 (4*G7 (o4 (t-s.H0-s.N9)) (o4 (s.N9-(t-s.H0))))<=s.N9)
    ·exact⟨_,rfl,rfl,.inr rfl⟩
    ·refine⟨_,rfl,?_,.inl rfl⟩
     have:o4 (s.ay6+1)=s.ay6+1:=j6 (by omega) (by omega)
     simp[syB,ad6,ht',this];omega
  ·simp only[show(s.Mode==2)=false by simpa using h2,fj6]
   refine⟨_,rfl,?_,.inl rfl⟩
   simp[syB,ad6,ht']
theorem eI2 (s:Y9)(t:Int):∃r e,(cx8 w0 s t).m=some (r,e)/\(e=0->syB r=true/\(r.H0=t\/r=sy0)):=by
 simp only[cx8,C.of,M.run,cU7,ch1,aH3]
 cases h1:syB s
 ·exact⟨_,_,rfl,fun h=>(by cases h)⟩
 cases h2:ad6 t
 ·exact⟨_,_,rfl,fun h=>(by cases h)⟩
 simp only[aP9,fj6]
 cases h3:((s.Mode !=0)&&decide (t<=s.H0))
 ·obtain⟨r,hr,h4,h5⟩:=ed3 s t h1 h2 (fun hm=>by
   rcases Int.lt_or_le s.H0 t with h|h
   ·exact h
   ·simp[hm,h]at h3)
  exact⟨_,_,ci7 hr rfl,fun _=>⟨h4,h5⟩⟩
 ·exact⟨_,_,rfl,fun h=>(by cases h)⟩
theorem ew3 (s:Y9)(t:Int):∃r e,(ch2 w0 s t).m=some (r,e)/\(e=0->syB r=true/\(r=s\/r=sy0)):=by
 simp only[ch2,C.of,M.run,cU7,ch1,cC1,aH3]
 cases h1:syB s
 ·exact⟨_,_,rfl,fun h=>(by cases h)⟩
 cases h2:ad6 t
 ·exact⟨_,_,rfl,fun h=>(by cases h)⟩
 simp only[aP9,fj6]
 cases h3:((s.Mode !=0)&&decide (t<s.H0))
 ·obtain⟨m,hm⟩:∃m,(bif s.Mode==2 then some (o4 (4*if s.ay6=57 then o4 (3*s.N9)else s.N9))else bif decide (s.aw3>0)then some (o4 (4*s.N9))else some 1000000)=some m:=by
   cases s.Mode==2<;>cases decide (s.aw3>0)<;>exact⟨_,rfl⟩
  simp only[fj6,hm,aH3]
  cases((s.Mode !=0)&&decide (o4 (t-s.H0)>m))
  ·exact⟨_,_,rfl,fun _=>⟨h1,.inl rfl⟩⟩
  ·exact⟨_,_,rfl,fun _=>⟨rfl,.inr rfl⟩⟩
 ·exact⟨_,_,rfl,fun h=>(by cases h)⟩
def phB (p:aa8):Bool:=!((((decide (p.E5<0))||(decide (p.E5>16)))||(decide (p.bF9<0)))||(decide (p.bF9>1)))&&(!((!p.Seen)&&((p.E5 !=0)||p.aY0))&&(p.aY0||(p.bF9==0)))
theorem ea9 (p:aa8):(bT3 p).m=some (phB p):=by
 simp only[bT3,C.of,M.run]
 cases h:((((decide (p.E5<0))||(decide (p.E5>16)))||(decide (p.bF9<0)))||(decide (p.bF9>1)))<;>cases h2:((!p.Seen)&&((p.E5 !=0)||p.aY0))<;>simp[phB,h,h2]
theorem cR7 (p:aa8):(bn3 c0 p).m=some (phB p):=by
 simp only[bn3,C.of,M.run,da5,ea9,aH3,fj8]
theorem eT5 (p:aa8):∃r e,(cw5 c0 p).m=some (r,e)/\(e=0->phB r=true):=by
 simp only[cw5,C.of,M.run,cR7,aH3]
 cases h:phB p
 ·exact⟨_,_,rfl,fun h=>(by cases h)⟩
 cases hs:p.Seen
 ·exact⟨_,_,rfl,fun _=>h⟩
 ·refine⟨_,_,rfl,fun _=>?_⟩
  simp[phB,hs]at h|-
  rw[j6 (by omega) (by omega)]
  have:0<=F5 16 (p.E5+1)/\F5 16 (p.E5+1)<=16:=by unfold F5;split<;>omega
  exact⟨⟨⟨by omega,by omega⟩,by omega⟩,h.2⟩
theorem eG0 (p:aa8):∃r e,(bJ9 c0 p).m=some (r,e)/\(e=0->phB r=true):=by
 simp only[bJ9,C.of,M.run,cR7,dF4,aH3]
 cases h:phB p
 ·exact⟨_,_,rfl,fun h=>(by cases h)⟩
 cases hs:p.Seen
 ·exact⟨_,_,rfl,fun _=>rfl⟩
 ·simp only[aP9,fj6]
  have key:∀half:Int,-1<=half->half<=1->∃r e,(bif (decide (half>=0))&&((!p.aY0)||(p.bF9==half))then some ((⟨true,o4 (1-half),0,true⟩:aa8),(0:Int))else some ((⟨false,0,0,true⟩:aa8),0))=some (r,e)/\(e=0->phB r=true):=by
   intro half h1 h2
   cases hc:((decide (half>=0))&&((!p.aY0)||(p.bF9==half)))
   ·exact⟨_,_,rfl,fun _=>rfl⟩
   ·simp only[aJ5,fk4]at hc
    refine⟨_,_,rfl,fun _=>?_⟩
    have:o4 (1-half)=1-half:=j6 (by omega) (by omega)
    simp[phB,this];omega
  cases p.E5==2
  ·cases p.E5==1
   ·exact key (-1) (by omega) (by omega)
   ·exact key 1 (by omega) (by omega)
  ·exact key 0 (by omega) (by omega)
theorem eT4:phB ⟨false,0,0,false⟩=true:=rfl
theorem bu7 {S B:Type}{mb:S->Option (S⊕B)}(I:S->Prop)(μ:S->Nat)(J:B->Prop)(h:∀s,I s->(∃s',mb s=some (.inl s')/\I s'/\μ s'<μ s)\/(∃b,mb s=some (.inr b)/\J b)):
  ∀(n:Nat) (s:S),μ s<=n->I s->∃b,L5 mb s=some b/\J b:=by
 intro n
 induction n with
 |zero=>
  intro s hn hI
  rcases h s hI with⟨s',_,_,h3⟩|⟨b,h1,h2⟩
  ·omega
  ·exact⟨b,E0 h1,h2⟩
 |succ n ih=>
  intro s hn hI
  rcases h s hI with⟨s',h1,h2,h3⟩|⟨b,h1,h2⟩
  ·rw[G9 h1];exact ih s' (by omega) h2
  ·exact⟨b,E0 h1,h2⟩
theorem dl9 (p b:Int)(hp:0<=p)(hb:0<b):(ab8 p b).m=some (p%b):=by
 simp only[ab8,C.of,M.run,L1.m]
 rw[show((b==0)||(b==(-1)))=false by simp;omega]
 simp only[fj6]
 have e:cg1 p b=some (p%b):=by unfold cg1;rw[if_neg (by omega),Int.tmod_eq_emod_of_nonneg hp]
 rw[e]
 simp only[aH3]
 have h1:0<=p%b:=Int.emod_nonneg p (by omega)
 rw[show((p%b !=0)&&(!((decide (p%b<0))==(decide (b<0)))))=false by
  rw[fk3 (by omega),fk3 (by omega)];simp]
 rfl
theorem dW2 (p:Int)(h0:0<=p)(h1:p<=1099511627776):∃q,(aN2 p c0).m=some q/\p<q/\q<=p+51080:=by
 have hm:0<=p%46080/\p%46080<46080:=⟨Int.emod_nonneg p (by omega),Int.emod_lt_of_pos p (by omega)⟩
 simp only[aN2,C.of,M.run,dl9 p 46080 h0 (by omega),aH3]
 have e0:o4 (p-p%46080)=p-p%46080:=j6 (by omega) (by omega)
 have key:∃b,ad5 c0.bx7 (fun i x t=>(aE3 p (p%46080) i x t).run) ()=some b/\((b= .inl ()/\p-p%46080+46080>p)\/∃q,b= .inr q/\p<q/\q<=p+46080):=by
  rw[K8 _ (by decide)]
  have st:∀i x,(aE3 p (p%46080) i x ()).run=bif decide (o4 (p-p%46080+x)>p)then some (.ret (o4 (p-p%46080+x)))else some (.next ()):=fun i x=>by
   simp only[aE3,M.run,e0]
  simp only[L9,st]
  have f:∀x:Int,0<=x->x<=46080->o4 (p-p%46080+x)=p-p%46080+x:=fun x _ _=>j6 (by omega) (by omega)
  rw[f 5000 (by omega) (by omega),f 12000 (by omega) (by omega),f 30000 (by omega) (by omega)]
  by_cases g1:p-p%46080+5000>p
  ·rw[fk0 g1];exact⟨_,rfl,.inr ⟨_,rfl,g1,by omega⟩⟩
  rw[fk3 g1]
  by_cases g2:p-p%46080+12000>p
  ·rw[fk0 g2];exact⟨_,rfl,.inr ⟨_,rfl,g2,by omega⟩⟩
  rw[fk3 g2]
  by_cases g3:p-p%46080+30000>p
  ·rw[fk0 g3];exact⟨_,rfl,.inr ⟨_,rfl,g3,by omega⟩⟩
  rw[fk3 g3]
  exact⟨_,rfl,.inl ⟨rfl,by omega⟩⟩
 obtain⟨b,hb,hc⟩:=key
 rcases hc with⟨rfl,_⟩|⟨q,rfl,h2,h3⟩
 ·refine⟨p-p%46080+46080+5000,ci7 hb ?_,by omega,by omega⟩
  show(ai5 (D4 c0.bx7 0) fun t=>some (o4 (o4 (o4 (p-p%46080)+46080)+t)))=_
  rw[e0,show D4 c0.bx7 0=some 5000 from rfl]
  simp only[aH3]
  rw[j6 (n:=p-p%46080+46080) (by omega) (by omega),j6 (by omega) (by omega)]
 ·exact⟨q,ci7 hb rfl,h2,by omega⟩
structure Edg (a b:Int)(l:List Int):Prop where
 len:l.length<=1000
 lo:∀x∈l,a<x
 hi:∀x∈l,x<=b
 asc:l.Pairwise (· <·)
theorem eG3 (p:Int):(bw4 p).m=some (ad6 p):=rfl
theorem eH3 (v:Int)(h0:0<=v)(h1:v<=262144):(cf5 v).m=some (v*60000000/1509949440,0):=by
 simp only[cf5,C.of,M.run]
 rw[show(decide (v<0)||decide (v>524288))=false by simp;omega,j6 (n:=v*60000000) (by omega) (by omega),cr3 (by omega),j6 (by omega) (by omega)]
 rfl
end Go.Pv.Ec

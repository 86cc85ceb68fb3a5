/- A part of the proof of EcuQuiet: Models that know their code, and more. -/
import Derived.Test.YtmhdghdbojdgfaaGreatEcuQuietC
import Derived.Test.YtmhdghdbojdgfaaGreatProg
import Derived.KernelRfl
set_option linter.unusedSimpArgs false
set_option linter.unusedVariables false
set_option maxRecDepth 100000
noncomputable section
open Bool renaming and_eq_true->aI9,not_eq_true'->ck7,not_true->aX3,or_eq_true->cI5
open Int renaming tdiv->db0,tdiv_eq_ediv_of_nonneg->cA0,tmod->ew5
open Go.IntKind renaming bits->eU1,u64->aW6
open List renaming mem_append->do5,mem_cons->cq9,not_mem_nil->eT1
open Go.Lit renaming int->dO9
open Nat renaming le_refl->cw4
open Option renaming bind->ai2,bind_some->aD6
open Go.Pv renaming encI->aJ6,encS->do4
namespace Go.Proofs.YtmhdghdbojdgfaaGreat
open Go Go.Pv Go.Proofs
open Tryz
set_option maxHeartbeats 4000000
def ah4 (a:Int):C prog Bool:=.of Z call88 func88 [.t (tI a)] (fun r=>.t (tB r)) (
 .R ((decide (a>=0))&&(decide (a<46080))))
def an5 (s:List Int)(v i:Int)(_:Unit):M prog Int (Fl Unit Int):=
 .O (.ix aJ6 s i) fun x=>.I (v==x) (.R (.ret i)) (.R (.next ()))
def V5 (s:List Int)(v:Int):C prog Int:=.of Z call187 func187 [.t (tS aJ6 s),.t (tI v)] (fun r=>.t (tI r)) (
 M.QN (s.length:Int) 2 8 (fun(_:Unit)=>[]) 0 (.one .rt) (an5 s v) () (fun _=>.R (-1)) (fun r2=>.R r2))
def P1 (s:List Int)(v:Int):C prog Bool:=.of Z call89 func89 [.t (tS aJ6 s),.t (tI v)] (fun r=>.t (tB r)) (
 .K (V5 s v) fun v2=>.R (decide (v2>=0)))
def ar8 (e2:o4)(i:Int):M prog Bool (Int⊕(Int⊕Bool)):=
 .I (decide (i<=(e2.z8.length:Int))) (.K (P1 e2.z8 i) fun v2=>.I (!v2) (.R (.inr (.inr false))) (.R (.inl (j7 (i+1))))) (.R (.inr (.inl i)))
def O5 (e2:o4):C prog Bool:=.of Z call44 func44 [at5 e2] (fun r=>.t (tB r)) (
 .G ((decide ((e2.z8.length:Int)<1))||(decide ((e2.z8.length:Int)>8))) (.R true) (.K (ah4 e2.ao2) fun v=>.R (!v)) fun b2=>.I b2 (.R false) (.L (fun(t:Int)=>[.t 4 (.t (tI t)),.x 5]) 0 (.one .rt) (ar8 e2) 1 (fun _=>.R true) (fun r2=>.R r2)))
def P3 (x:List B6)(count:Int):C prog (List B6):=⟨90,[.t (tS I3 x),.t (tI count)],Pv.P3 x count,fun _=>eF0 x count,(fun r=>.t (tS I3 r)),bw1 x count,fun _ r h=>bw2 h⟩
def aU2 (n2:Int):C prog (List B6×Int):=.of Z call45 func45 [.t (tI n2)] (fun r=>.P7 [.t (tS I3 r.1),.t (tI r.2)]) (
 .I ((decide (n2<1))||(decide (n2>8))) (.R (([]:List B6),2)) (.Z (.fr 11)<| .K (P3 ([(⟨0,100,0⟩:B6)]:List B6) n2) fun v=>.R (v,0)))
def bi3:C prog U2:=.of Z call46 func46 [] (fun r=>ch2 r) (
 .R (⟨0,0,false⟩:U2))
def aK8:C prog M6:=.of Z call47 func47 [] (fun r=>br2 r) (
 .Mk am8 9 (⟨0,0⟩:aa7) fun l=>.R (⟨false,false,1000,0,l⟩:M6))
def az1 (e2:o4):C prog (A5×Int):=.of Z call23 func23 [at5 e2] (fun r=>.P7 [aQ0 r.1,.t (tI r.2)]) (
 .K (O5 e2) fun v=>.I (!v) (.R ((⟨(⟨0,0,false⟩:U2),(⟨0⟩:F4),([]:List B6),(⟨false,false,0,0,([]:List aa7)⟩:M6),0,(⟨0,0⟩:Z7)⟩:A5),1)) (.K (aU2 (e2.z8.length:Int)) fun r2=>.I (r2.2 !=0) (.R ((⟨(⟨0,0,false⟩:U2),(⟨0⟩:F4),([]:List B6),(⟨false,false,0,0,([]:List aa7)⟩:M6),0,(⟨0,0⟩:Z7)⟩:A5),1)) (.K (bi3) fun v2=>.K (aK8) fun v3=>.R ((⟨v2,(⟨0⟩:F4),r2.1,v3,0,(⟨0,(-1)⟩:Z7)⟩:A5),0))))
def aU8 (n2:Int):C prog (u0×Int):=.of Z call48 func48 [.t (tI n2)] (fun r=>.P7 [aM8 r.1,.t (tI r.2)]) (
 .I ((decide (n2<1))||(decide (n2>16))) (.R ((⟨0,([]:List j5)⟩:u0),2)) (.Mk E5 n2 (⟨false,0,false,false⟩:j5) fun l=>.R ((⟨0,l⟩:u0),0)))
def O0 (s:List Int):C prog (List Int):=.of Z call49 func49 [.t (tS aJ6 s)] (fun r=>.t (tS aJ6 r)) (
 .Nl aJ6 s (.I true (.R ([]:List Int)) .N) (fun s=>.I false .N (.U (.ap aJ6 ([]:List Int) s 5) fun l=>.R l)))
def bb0:C prog D8:=.of Z call50 func50 [] (fun r=>bA5 r) (
 .R (⟨false,0,0,0,0,0⟩:D8))
def ao6 (e2:o4):C prog (c8×Int):=.of Z call24 func24 [at5 e2] (fun r=>.P7 [R5 r.1,.t (tI r.2)]) (
 .K (O5 e2) fun v=>.I (!v) (.R ((⟨(⟨([]:List Int),0⟩:o4),(⟨false,0,0,0,0,0⟩:D8),(⟨0,([]:List j5)⟩:u0),([]:List A0),([]:List A4),false⟩:c8),1)) (.K (aU8 (j7 (2*(e2.z8.length:Int)))) fun r2=>.I (r2.2 !=0) (.R ((⟨(⟨([]:List Int),0⟩:o4),(⟨false,0,0,0,0,0⟩:D8),(⟨0,([]:List j5)⟩:u0),([]:List A0),([]:List A4),false⟩:c8),1)) (.D [] []<| .K (O0 e2.z8) fun v2=>.K (bb0) fun v3=>.R ((⟨(⟨v2,e2.ao2⟩:o4),v3,r2.1,([]:List A0),([]:List A4),false⟩:c8),0))))
def F5 (x low high:Int):C prog Bool:=.of Z call91 func91 [.t (tI x),.t (tI low),.t (tI high)] (fun r=>.t (tB r)) (
 .R ((decide (x>=low))&&(decide (x<=high))))
def ai9 (b2:L0):C prog Bool:=.of Z call51 func51 [aL0 b2] (fun r=>.t (tB r)) (
 .K (F5 b2.ai3 100 1048576) fun v=>.G v (.K (F5 b2.ao9 0 65536) fun v2=>.R v2) (.R false) fun b3=>.G b3 (.K (F5 b2.I6 0 65536) fun v3=>.R v3) (.R false) fun b4=>.G b4 (.K (F5 b2.aO6 1 65536) fun v4=>.R v4) (.R false) fun b5=>.G b5 (.K (F5 b2.O8 0 1023) fun v5=>.R v5) (.R false) fun b6=>.G b6 (.K (F5 b2.K7 1 1024) fun v6=>.R v6) (.R false) fun b7=>.G b7 (.K (F5 b2.aX1 0 20) fun v7=>.R v7) (.R false) fun b8=>.R b8)
def cw8 (b2:L0):C prog (Y5×Int):=.of Z call25 func25 [aL0 b2] (fun r=>.P7 [aX0 r.1,.t (tI r.2)]) (
 .K (ai9 b2) fun v=>.I (!v) (.R ((⟨0,0,0,0,0,([]:List Int)⟩:Y5),1)) (.R ((⟨0,0,0,1013,0,([]:List Int)⟩:Y5),0)))
def W0 (s:List u7)(f2:Cl prog u7 Bool (fun x=>[aN9 x]) (fun r=>.t (tB r)))(i:Int)(_:Unit):M prog Int (Fl Unit Int):=
 .O (.ix L9 s i) fun x=>.K (f2.at x) fun v=>.I v (.R (.ret i)) (.R (.next ()))
def S3 (s:List u7)(f2:Cl prog u7 Bool (fun x=>[aN9 x]) (fun r=>.t (tB r))):C prog Int:=.of Z call92 func92 [.t (tS L9 s),.fz f2.n f2.cs] (fun r=>.t (tI r)) (
 M.QN (s.length:Int) 2 8 (fun(_:Unit)=>[]) 0 (.one .rt) (W0 s f2) () (fun _=>.R (-1)) (fun r2=>.R r2))
def I1 (s:List u7)(f2:Cl prog u7 Bool (fun x=>[aN9 x]) (fun r=>.t (tB r))):C prog Bool:=.of Z call52 func52 [.t (tS L9 s),.fz f2.n f2.cs] (fun r=>.t (tB r)) (
 .K (S3 s f2) fun v=>.R (decide (v>=0)))
def D4 (x low high:Int):C prog Bool:=.of Z call109 func109 [.t (tI x),.t (tI low),.t (tI high)] (fun r=>.t (tB r)) (
 .R ((decide (x>=low))&&(decide (x<=high))))
def ad6 (c:u7):C prog Bool:=.of Z call93 func93 [aN9 c] (fun r=>.t (tB r)) (
 .K (D4 c.Code 1 16777215) fun v=>.G v (.K (D4 c.bg2 1 100) fun v2=>.R v2) (.R false) fun b2=>.G b2 (.K (D4 c.Pass 1 100) fun v3=>.R v3) (.R false) fun b3=>.G b3 (.K (D4 c.cC9 1 100) fun v4=>.R v4) (.R false) fun b4=>.G b4 (.K (D4 c.Age c.cC9 255) fun v5=>.R v5) (.R false) fun b5=>.G b5 (.K (D4 c.E4 0 255) fun v6=>.R v6) (.R false) fun b6=>.G b6 (.K (D4 c.Frame 0 8) fun v7=>.R v7) (.R false) fun b7=>.R b7)
def an2 (c:u7):C prog Bool:=.of Z call53 func53 [aN9 c] (fun r=>.t (tB r)) (
 .K (ad6 c) fun v=>.R (!v))
def aC4 (_:Int)(x:u7)(f2:List (Int×Bool)):M prog Bool (Fl (List (Int×Bool)) Bool):=
 .W (.hx 0)<| .Ml eJ4 f2 x.Code<| .I (cQ5 false f2 x.Code) (.R (.ret false)) (.Mu eJ4 f2 x.Code true<| .R (.next (dl6 f2 x.Code true)))
def am9 (l:List u7):C prog Bool:=.of Z call54 func54 [.t (tS L9 l)] (fun r=>.t (tB r)) (
 .Mm 2048<|M.Q L9 l 2 9 (fun(t:List (Int×Bool))=>[.x 6,.b 2048 (.mp (List.map (ent (fun n:Int=>.int .i64 n) (fun v:Bool=>.bool v)) t))]) 0 (.one .rt) (aC4) ([]:List (Int×Bool)) (fun _=>.R true) (fun r2=>.R r2))
def Z3 (s:List u7):C prog (List u7):=.of Z call55 func55 [.t (tS L9 s)] (fun r=>.t (tS L9 r)) (
 .Nl L9 s (.I true (.R ([]:List u7)) .N) (fun s=>.I false .N (.U (.ap L9 ([]:List u7) s 5) fun l=>.R l)))
def aA6 (l:List u7):C prog (B5×Int):=.of Z call26 func26 [.t (tS L9 l)] (fun r=>.P7 [aA0 r.1,.t (tI r.2)]) (
 .I (decide ((l.length:Int)>64)) (.R ((⟨([]:List u7),([]:List A2),0,false⟩:B5),5)) (.K (I1 l (.of (fun z_=>an2 z_) 53 [])) fun v=>.I v (.R ((⟨([]:List u7),([]:List A2),0,false⟩:B5),1)) (.K (am9 l) fun v2=>.I (!v2) (.R ((⟨([]:List u7),([]:List A2),0,false⟩:B5),8)) (.D [] []<| .K (Z3 l) fun v3=>.Mk F7 (l.length:Int) (⟨0,0,0,0,0,([]:List Int),0⟩:A2) fun l2=>.R ((⟨v3,l2,0,false⟩:B5),0)))))
def V8 (s:List Int)(f2:Cl prog Int Bool (fun x=>[.t (tI x)]) (fun r=>.t (tB r)))(i:Int)(_:Unit):M prog Int (Fl Unit Int):=
 .O (.ix aJ6 s i) fun x=>.K (f2.at x) fun v=>.I v (.R (.ret i)) (.R (.next ()))
def T8 (s:List Int)(f2:Cl prog Int Bool (fun x=>[.t (tI x)]) (fun r=>.t (tB r))):C prog Int:=.of Z call190 func190 [.t (tS aJ6 s),.fz f2.n f2.cs] (fun r=>.t (tI r)) (
 M.QN (s.length:Int) 2 8 (fun(_:Unit)=>[]) 0 (.one .rt) (V8 s f2) () (fun _=>.R (-1)) (fun r2=>.R r2))
def o5 (s:List Int)(f2:Cl prog Int Bool (fun x=>[.t (tI x)]) (fun r=>.t (tB r))):C prog Bool:=.of Z call96 func96 [.t (tS aJ6 s),.fz f2.n f2.cs] (fun r=>.t (tB r)) (
 .K (T8 s f2) fun v=>.R (decide (v>=0)))
def ab5 (n2:Int):C prog Bool:=.of Z call104 func104 [.t (tI n2)] (fun r=>.t (tB r)) (
 .R ((decide (n2>=(-1073741824)))&&(decide (n2<=1073741824))))
def ax8 (l:List Int)(i:Int)(_:Unit):M prog Bool (Fl Unit Bool):=
 .O (.ix aJ6 l i) fun x=>.K (ab5 x) fun v=>.G (!v) (.R true) (.G (decide (i>0)) (.O (.ix aJ6 l (j7 (i-1))) fun x2=>.R (decide (x<=x2))) (.R false) fun b2=>.R b2) fun b3=>.I b3 (.R (.ret false)) (.R (.next ()))
def ar2 (l:List Int):C prog Bool:=.of Z call102 func102 [.t (tS aJ6 l)] (fun r=>.t (tB r)) (
 .I ((decide ((l.length:Int)<2))||(decide ((l.length:Int)>32))) (.R false) (M.QN (l.length:Int) 2 15 (fun(_:Unit)=>[]) 0 (.one .rt) (ax8 l) () (fun _=>.R true) (fun r2=>.R r2)))
def ah2 (z:Int):C prog Bool:=.of Z call103 func103 [.t (tI z)] (fun r=>.t (tB r)) (
 .K (ab5 z) fun v=>.R (!v))
def aB1 (m2:SMap)(_:Int)(x:List Int)(_:Unit):M prog Bool (Fl Unit Bool):=
 .W (.hx 0)<| .G ((x.length:Int) !=(m2.Y.length:Int)) (.R true) (.K (o5 x (.of (fun z_=>ah2 z_) 103 [])) fun v3=>.R v3) fun b3=>.I b3 (.R (.ret false)) (.R (.next ()))
def I8 (m2:SMap):C prog Bool:=.of Z call58 func58 [dh2 m2] (fun r=>.t (tB r)) (
 .K (ar2 m2.X) fun v=>.G (!v) (.R true) (.K (ar2 m2.Y) fun v2=>.R (!v2)) fun b2=>.I (b2||((m2.Z.length:Int) !=(m2.X.length:Int))) (.R false) (M.Q (do4 aJ6) m2.Z 2 27 (fun(_:Unit)=>[.x 5,.x 24]) 0 (.one .rt) (aB1 m2) () (fun _=>.R true) (fun r2=>.R r2)))
def aA5 (n2:Int):C prog Bool:=.of Z call106 func106 [.t (tI n2)] (fun r=>.t (tB r)) (
 .R ((decide (n2<(-1073741824)))||(decide (n2>1073741824))))
def aG5 (l:List Int)(i:Int)(_:Unit):M prog Bool (Fl Unit Bool):=
 .D [] []<| .O (.ix aJ6 l i) fun x=>.O (.ix aJ6 l (j7 (i+1))) fun x2=>.I (decide (x>=x2)) (.R (.ret false)) (.R (.next ()))
def aL4 (l:List Int):C prog Bool:=.of Z call105 func105 [.t (tS aJ6 l)] (fun r=>.t (tB r)) (
 .G ((decide ((l.length:Int)<2))||(decide ((l.length:Int)>32))) (.R true) (.K (o5 l (.of (fun z_=>aA5 z_) 106 [])) fun v=>.R v) fun b2=>.I b2 (.R false) (M.QN (j7 ((l.length:Int)-1)) 2 19 (fun(_:Unit)=>[]) 0 (.one .rt) (aG5 l) () (fun _=>.R true) (fun r2=>.R r2)))
def P0 (c:P8):C prog Bool:=.of Z call59 func59 [ch1 c] (fun r=>.t (tB r)) (
 .G ((c.X.length:Int)==(c.Y.length:Int)) (.K (aL4 c.X) fun v=>.R v) (.R false) fun b2=>.G b2 (.K (o5 c.Y (.of (fun z_=>aA5 z_) 106 [])) fun v2=>.R (!v2)) (.R false) fun b3=>.R b3)
def cmp_isNaN_int (x:Int):C prog Bool:=.of Z call280 func280 [.t (tI x)] (fun r=>.t (tB r)) (
 .R (x !=x))
def cmp_Less_int (x y:Int):C prog Bool:=.of Z call189 func189 [.t (tI x),.t (tI y)] (fun r=>.t (tB r)) (
 .K (cmp_isNaN_int x) fun v=>.G v (.K (cmp_isNaN_int y) fun v2=>.R (!v2)) (.R false) fun b2=>.R (b2||(decide (x<y))))
def Q2 (x:List Int)(i:Int):M prog Bool (Int⊕(Int⊕Bool)):=
 .I (decide (i>0)) (.D [] []<| .O (.ix aJ6 x i) fun x2=>.O (.ix aJ6 x (j7 (i-1))) fun x3=>.K (cmp_Less_int x2 x3) fun v=>.I v (.R (.inr (.inr false))) (.R (.inl (j7 (i-1))))) (.R (.inr (.inl i)))
def P2 (x:List Int):C prog Bool:=.of Z call94 func94 [.t (tS aJ6 x)] (fun r=>.t (tB r)) (
 .L (fun(t:Int)=>[.t 3 (.t (tI t))]) 0 (.one .rt) (Q2 x) (j7 ((x.length:Int)-1)) (fun _=>.R true) (fun r2=>.R r2))
def I2 (n2 low high:Int):C prog Bool:=.of Z call95 func95 [.t (tI n2),.t (tI low),.t (tI high)] (fun r=>.t (tB r)) (
 .R ((decide (n2>=low))&&(decide (n2<=high))))
def aK0 (y:Int):C prog Bool:=.of Z call97 func97 [.t (tI y)] (fun r=>.t (tB r)) (
 .K (I2 y 100 3000) fun v=>.R (!v))
def aS8 (_:Int)(x:List Int)(_:Unit):M prog Bool (Fl Unit Bool):=
 .W (.hx 0)<| .K (P2 x) fun v3=>.G (!v3) (.R true) (.O (.ix aJ6 x 0) fun x2=>.K (I2 x2 0 1048576) fun v4=>.R (!v4)) fun b3=>.G b3 (.R true) (.O (.ix aJ6 x (j7 ((x.length:Int)-1))) fun x3=>.K (I2 x3 0 1048576) fun v5=>.R (!v5)) fun b4=>.I b4 (.R (.ret false)) (.R (.next ()))
def aA2 (t2:o6):C prog Bool:=.of Z call56 func56 [S4 t2] (fun r=>.t (tB r)) (
 .K (I8 t2.Air) fun v=>.G (!v) (.R true) (.K (P0 t2.L3) fun v2=>.R (!v2)) fun b2=>.I b2 (.R false) (M.Q (do4 aJ6) t2.Air.Z 2 19 (fun(_:Unit)=>[.x 5,.x 15,.x 16]) 0 (.one .rt) (aS8) () (fun _=>.K (o5 t2.L3.Y (.of (fun z_=>aK0 z_) 97 [])) fun v6=>.R (!v6)) (fun r2=>.R r2)))
def Z5 (s:List (List Int))(f2:Cl prog (List Int) Bool (fun x=>[.t (tS aJ6 x)]) (fun r=>.t (tB r)))(i:Int)(_:Unit):M prog Int (Fl Unit Int):=
 .O (.ix (do4 aJ6) s i) fun x=>.K (f2.at x) fun v=>.I v (.R (.ret i)) (.R (.next ()))
def V4 (s:List (List Int))(f2:Cl prog (List Int) Bool (fun x=>[.t (tS aJ6 x)]) (fun r=>.t (tB r))):C prog Int:=.of Z call43 func43 [.t (tS (do4 aJ6) s),.fz f2.n f2.cs] (fun r=>.t (tI r)) (
 M.QN (s.length:Int) 2 8 (fun(_:Unit)=>[]) 0 (.one .rt) (Z5 s f2) () (fun _=>.R (-1)) (fun r2=>.R r2))
def F6 (s:List (List Int))(f2:Cl prog (List Int) Bool (fun x=>[.t (tS aJ6 x)]) (fun r=>.t (tB r))):C prog Bool:=.of Z call21 func21 [.t (tS (do4 aJ6) s),.fz f2.n f2.cs] (fun r=>.t (tB r)) (
 .K (V4 s f2) fun v=>.R (decide (v>=0)))
def H3 (x low high:Int):C prog Bool:=.of Z call192 func192 [.t (tI x),.t (tI low),.t (tI high)] (fun r=>.t (tB r)) (
 .R ((decide (x>=low))&&(decide (x<=high))))
def an7 (x c c2:Int):C prog Bool:=.of Z call191 func191 [.t (tI x),.el (aJ6 c),.el (aJ6 c2)] (fun r=>.t (tB r)) (
 .K (H3 x c c2) fun v=>.R (!v))
def ag7 (l:List Int)(low high:Int):C prog Bool:=.of Z call98 func98 [.t (tS aJ6 l),.t (tI low),.t (tI high)] (fun r=>.t (tB r)) (
 .Z (.fb 4)<| .Z (.fb 5)<| .K (o5 l (.of (fun z_=>an7 z_ low high) 191 [aJ6 low,aJ6 high])) fun v=>.R v)
def L4 (x:List Int)(cmp:Cl prog (Int×Int) Int (fun x=>[.t (tI x.1),.t (tI x.2)]) (fun r=>.t (tI r)))(i:Int):M prog Bool (Int⊕(Int⊕Bool)):=
 .I (decide (i>0)) (.D [] []<| .O (.ix aJ6 x i) fun x2=>.O (.ix aJ6 x (j7 (i-1))) fun x3=>.K (cmp.at (x2,x3)) fun v=>.I (decide (v<0)) (.R (.inr (.inr false))) (.R (.inl (j7 (i-1))))) (.R (.inr (.inl i)))
def H7 (x:List Int)(cmp:Cl prog (Int×Int) Int (fun x=>[.t (tI x.1),.t (tI x.2)]) (fun r=>.t (tI r))):C prog Bool:=.of Z call99 func99 [.t (tS aJ6 x),.fz cmp.n cmp.cs] (fun r=>.t (tB r)) (
 .L (fun(t:Int)=>[.t 5 (.t (tI t))]) 0 (.one .rt) (L4 x cmp) (j7 ((x.length:Int)-1)) (fun _=>.R true) (fun r2=>.R r2))
def ab6 (a b2:Int):C prog Int:=.of Z call100 func100 [.t (tI a),.t (tI b2)] (fun r=>.t (tI r)) (
 .R (j7 (b2-a)))
def ak5 (row:List Int):C prog Bool:=.of Z call101 func101 [.t (tS aJ6 row)] (fun r=>.t (tB r)) (
 .K (ag7 row 0 10000) fun v=>.G v (.R true) (.K (P2 row) fun v2=>.R (!v2)) fun b2=>.R b2)
def ah8 (t2:o6):C prog Bool:=.of Z call57 func57 [S4 t2] (fun r=>.t (tB r)) (
 .K (I8 t2.o8) fun v=>.G (!v) (.R true) (.K (P0 t2.C1) fun v2=>.R (!v2)) fun b2=>.G b2 (.R true) (.K (ag7 t2.C1.Y 0 1000) fun v3=>.R v3) fun b3=>.I b3 (.R false) (.K (H7 t2.C1.Y (.of (fun z_=>ab6 z_.1 z_.2) 100 [])) fun v4=>.I (!v4) (.R false) (.K (F6 t2.o8.Z (.of (fun z_=>ak5 z_) 101 [])) fun v5=>.R (!v5))))
def J1 (x low high:Int):C prog Bool:=.of Z call108 func108 [.t (tI x),.t (tI low),.t (tI high)] (fun r=>.t (tB r)) (
 .R ((decide (x>=low))&&(decide (x<=high))))
def az2 (x c c2:Int):C prog Bool:=.of Z call107 func107 [.t (tI x),.el (aJ6 c),.el (aJ6 c2)] (fun r=>.t (tB r)) (
 .K (J1 x c c2) fun v=>.R (!v))
def af4 (l:List Int)(low high:Int):C prog Bool:=.of Z call60 func60 [.t (tS aJ6 l),.t (tI low),.t (tI high)] (fun r=>.t (tB r)) (
 .Z (.fb 4)<| .Z (.fb 5)<| .K (o5 l (.of (fun z_=>az2 z_ low high) 107 [aJ6 low,aJ6 high])) fun v=>.R (!v))
def Q1 (g:aV0):C prog Bool:=.of Z call61 func61 [dh1 g] (fun r=>.t (tB r)) (
 .R (((((((decide (g.P>=0))&&(decide (g.P<=65536)))&&(decide (g.I>=0)))&&(decide (g.I<=65536)))&&(decide (g.Low>=(-1073741824))))&&(decide (g.Low<=g.bn0)))&&(decide (g.bn0<=1073741824))))
def aA4 (_:Int)(x:List Int)(_:Unit):M prog Bool (Fl Unit Bool):=
 .W (.hx 0)<| .K (af4 x (-1280) 3840) fun v7=>.I (!v7) (.R (.ret false)) (.R (.next ()))
def ab8 (t2:o6):C prog Bool:=.of Z call27 func27 [S4 t2] (fun r=>.t (tB r)) (
 .K (aA2 t2) fun v=>.G (!v) (.R true) (.K (ah8 t2) fun v2=>.R (!v2)) fun b2=>.G b2 (.R true) (.K (I8 t2.N8) fun v3=>.R (!v3)) fun b3=>.G b3 (.R true) (.K (I8 t2.aH5) fun v4=>.R (!v4)) fun b4=>.G b4 (.R true) (.K (P0 t2.ae6) fun v5=>.R (!v5)) fun b5=>.G b5 (.R true) (.K (P0 t2.av6) fun v6=>.R (!v6)) fun b6=>.I b6 (.R false) (M.Q (do4 aJ6) t2.N8.Z 2 41 (fun(_:Unit)=>[.x 37,.x 38]) 0 (.one .rt) (aA4) () (fun _=>.K (af4 t2.ae6.Y 500 10000) fun v8=>.G v8 (.K (af4 t2.av6.Y 0 10000) fun v9=>.R v9) (.R false) fun b7=>.G b7 (.K (Q1 t2.ae3) fun v10=>.R v10) (.R false) fun b8=>.R b8) (fun r2=>.R r2)))
def aR1 (x:Int):C prog Bool:=.of Z call282 func282 [.t (tI x)] (fun r=>.t (tB r)) (
 .K (D4 x (-1099511627776) 1099511627776) fun v=>.R v)
def az4 (x:Int):C prog Bool:=.of Z call281 func281 [.t (tI x)] (fun r=>.t (tB r)) (
 .K (aR1 x) fun v=>.R (!v))
def ar9 (c:u7)(l:List Int):C prog Bool:=.of Z call193 func193 [aN9 c,.t (tS aJ6 l)] (fun r=>.t (tB r)) (
 .G ((l.length:Int)==c.Frame) (.K (o5 l (.of (fun z_=>az4 z_) 281 [])) fun v=>.R (!v)) (.R false) fun b2=>.R b2)
def X3 (f2:A2)(bits:Int):C prog Bool:=.of Z call194 func194 [cI8 f2,.t (tI bits)] (fun r=>.t (tB r)) (
 .R ((N2 .i64 f2.F8 bits)==bits))
def aK4 (f2:A2):C prog Bool:=.of Z call195 func195 [cI8 f2] (fun r=>.t (tB r)) (
 .R ((N2 .i64 f2.F8 6) !=0))
def aE8 (c:u7)(f2:A2)(E3:Int):C prog Bool:=.of Z call110 func110 [aN9 c,cI8 f2,.t (tI E3)] (fun r=>.t (tB r)) (
 .K (D4 f2.F8 0 31) fun v=>.G (!v) (.R true) (.K (D4 f2.E0 (j7 (0-c.Pass)) c.bg2) fun v2=>.R (!v2)) fun b2=>.G b2 (.R true) (.K (D4 f2.I9 0 2) fun v3=>.R (!v3)) fun b3=>.G b3 (.R true) (.K (D4 f2.Clean 0 (j7 (c.Age-1))) fun v4=>.R (!v4)) fun b4=>.G b4 (.R true) (.K (D4 f2.y9 0 255) fun v5=>.R (!v5)) fun b5=>.G b5 (.R true) (.K (D4 f2.H0 0 E3) fun v6=>.R (!v6)) fun b6=>.G b6 (.R true) (.G (decide ((f2.Frame.length:Int)>0)) (.K (ar9 c f2.Frame) fun v7=>.R (!v7)) (.R false) fun b7=>.R b7) fun b8=>.I b8 (.R false) (.K (X3 f2 1) fun v8=>.G v8 (.K (X3 f2 10) fun v9=>.R ((!v9)||(f2.H0 !=E3))) (.R false) fun b9=>.I b9 (.R false) (.D [] []<| .K (X3 f2 4) fun v10=>.I (!(v10==(f2.I9==2))) (.R false) (.K (X3 f2 16) fun v11=>.G v11 (.K (X3 f2 4) fun v12=>.R ((!v12)||(!c.cr2))) (.R false) fun b10=>.I b10 (.R false) (.K (X3 f2 2) fun v13=>.I (v13&&(f2.Clean !=0)) (.R false) (.K (aK4 f2) fun v14=>.I v14 (.R ((((decide (f2.y9>=1))&&(decide (f2.I9>=1)))&&(decide (f2.H0>=1)))&&((f2.Frame.length:Int)==c.Frame))) (.R (((((f2.I9==0)&&(f2.Clean==0))&&(f2.y9==0))&&(f2.H0==0))&&((f2.Frame.length:Int)==0)))))))))
def aC3 (f2:B5)(i:Int)(_:Unit):M prog Bool (Fl Unit Bool):=
 .O (.ix F7 f2.L i) fun x=>.D [] []<| .O (.ix L9 f2.S8 i) fun x2=>.K (aE8 x2 x f2.aH2) fun v4=>.I (!v4) (.R (.ret false)) (.R (.next ()))
def Z0 (f2:B5):C prog Bool:=.of Z call62 func62 [aA0 f2] (fun r=>.t (tB r)) (
 .G (decide ((f2.S8.length:Int)>64)) (.R true) (.K (I1 f2.S8 (.of (fun z_=>an2 z_) 53 [])) fun v=>.R v) fun b2=>.G b2 (.R true) (.K (am9 f2.S8) fun v2=>.R (!v2)) fun b3=>.G (b3||((f2.L.length:Int) !=(f2.S8.length:Int))) (.R true) (.K (D4 f2.aH2 0 1073741824) fun v3=>.R (!v3)) fun b4=>.I (b4||(f2.ax1&&(decide (f2.aH2<1)))) (.R false) (M.QN (f2.L.length:Int) 2 47 (fun(_:Unit)=>[.x 5,.x 44]) 0 (.one .rt) (aC3 f2) () (fun _=>.R true) (fun r2=>.R r2)))
def ac8 (s:List A2):CG prog (List A2):=.of Z call111 func111 [.t (tS F7 s)] [] (fun _=>.own 900000) (fun r=>[(900000,.rs 174 7 r F7)]) [900000] (
 .Nl F7 s (.I true (.Z (.np 2 70000 174 7 [])<| .R ([]:List A2)) .N) (fun s=>.I false .N (.U (.ap F7 ([]:List A2) s 5) fun l=>.R l)))
def ax5 (i:Int)(f3:List A2):M prog B5 (Fl (List A2) Empty):=
 .D [] []<| .O (.ix F7 f3 i) fun x=>.W (.ly 0)<| .K (O0 x.Frame) fun v2=>.W (.hx 0)<| .U (.st F7 f3 i ({x with Frame:=v2}:A2) 0) fun l=>.R (.next l)
def ak9 (f2:B5):CG prog B5:=.of Z call63 func63 [aA0 f2] [] (fun r=>.agg [.t (tS L9 r.S8),.own 900000,.t (tI r.aH2),.t (tB r.ax1)]) (fun r=>[(900000,.rs 174 7 r.L F7)]) [900000] (
 .KG (ac8 f2.L) [2048] fun v=>M.QN (v.length:Int) 2 11 (fun(t:List A2)=>[.x 4,.x 6,.x 7,.x 8,.x 9,.b 2048 (.rs 174 7 t F7)]) 0 (.e) (ax5) v (fun f4=>.R ({f2 with L:=f4}:B5)) (fun t=>t.elim))
def aC2 (i:Int)(f3:List A2):M prog (B5×Int) (Fl (List A2) Empty):=
 .O (.ix F7 f3 i) fun x=>.U (.st F7 f3 i ({x with E0:=0}:A2) 0) fun l=>.W (.ly 0)<| .U (.st F7 l i ({x with F8:=aO0 .i64 x.F8 9,E0:=0}:A2) 0) fun l2=>.R (.next l2)
def aw1 (f2:B5):C prog (B5×Int):=.of Z call28 func28 [aA0 f2] (fun r=>.P7 [aA0 r.1,.t (tI r.2)]) (
 .K (Z0 f2) fun v=>.I (!v) (.R ((⟨([]:List u7),([]:List A2),0,false⟩:B5),1)) (.I f2.ax1 (.R ((⟨([]:List u7),([]:List A2),0,false⟩:B5),6)) (.I (f2.aH2==1073741824) (.R ((⟨([]:List u7),([]:List A2),0,false⟩:B5),9)) (.KG (ak9 f2) [2168] fun v2=>M.QN (v2.L.length:Int) 2 30 (fun(t:List A2)=>[.x 12,.x 16,.x 21,.x 22,.x 25,.x 26,.x 27,.x 28,.b 2168 (.rs 174 7 t F7)]) 1 (.e) (aC2) v2.L (fun f4=>.R ((⟨v2.S8,f4,j7 (v2.aH2+1),true⟩:B5),0)) (fun t=>t.elim)))))
def aY0 (n2:Int):C prog Bool:=.of Z call64 func64 [.t (tI n2)] (fun r=>.t (tB r)) (
 .R ((decide (n2>=1))&&(decide (n2<=65535))))
def cS5 (seed:Int):C prog (aa8×Int):=.of Z call29 func29 [.t (tI seed)] (fun r=>.P7 [aS6 r.1,.t (tI r.2)]) (
 .K (aY0 seed) fun v=>.I (!v) (.R ((⟨0,0,0,false,false⟩:aa8),2)) (.R ((⟨seed,0,0,false,false⟩:aa8),0)))
def dA7:C prog aa3:=.of Z call30 func30 [] (fun r=>aO9 r) (
 .R (⟨0,0,0,0,0,0⟩:aa3))
def cw6:C prog ad0:=.of Z call31 func31 [] (fun r=>aW9 r) (
 .R (⟨false,0,0,false⟩:ad0))
def bL7:C prog Z6:=.of Z call32 func32 [] (fun r=>ba9 r) (
 .R (⟨false,0,0⟩:Z6))
def dg0:C prog ao0:=.of Z call33 func33 [] (fun r=>bk6 r) (
 .R (⟨false,1,0⟩:ao0))
def bV4 (t2:o6)(b2:L0)(e2:o4)(l:List u7):C prog (ae5×Int):=.of Z call8 func8 [S4 t2,aL0 b2,at5 e2,.t (tS L9 l)] (fun r=>.P7 [ca1 r.1,.t (tI r.2)]) (
 .K (az1 e2) fun r2=>.K (ao6 e2) fun r3=>.K (cw8 b2) fun r4=>.K (aA6 l) fun r5=>.K (ab8 t2) fun v=>.I ((((((!v)||(r2.2 !=0))||(r3.2 !=0))||(r4.2 !=0))||(r5.2 !=0))||(decide ((l.length:Int)<7))) (.R ((⟨(⟨(⟨([]:List Int),([]:List Int),([]:List (List Int))⟩:SMap),(⟨([]:List Int),([]:List Int),([]:List (List Int))⟩:SMap),(⟨([]:List Int),([]:List Int),([]:List (List Int))⟩:SMap),(⟨([]:List Int),([]:List Int),([]:List (List Int))⟩:SMap),(⟨([]:List Int),([]:List Int)⟩:P8),(⟨([]:List Int),([]:List Int)⟩:P8),(⟨([]:List Int),([]:List Int)⟩:P8),(⟨([]:List Int),([]:List Int)⟩:P8),(⟨0,0,0,0⟩:aV0)⟩:o6),(⟨(⟨0,0,false⟩:U2),(⟨0⟩:F4),([]:List B6),(⟨false,false,0,0,([]:List aa7)⟩:M6),0,(⟨0,0⟩:Z7)⟩:A5),(⟨(⟨([]:List Int),0⟩:o4),(⟨false,0,0,0,0,0⟩:D8),(⟨0,([]:List j5)⟩:u0),([]:List A0),([]:List A4),false⟩:c8),(⟨0,0,0,0,0,0⟩:aa3),(⟨false,0,0,false⟩:ad0),(⟨false,0,0⟩:Z6),(⟨0,0,false⟩:ah3),(⟨0,0,0,false,false⟩:aa8),(⟨false,0,0⟩:ao0),(⟨([]:List u7),([]:List A2),0,false⟩:B5),(⟨0,0,0,0,0,([]:List Int)⟩:Y5),(⟨0,0,0,0,0,0,0⟩:L0),0⟩:ae5),1)) (.K (aw1 r5.1) fun r6=>.K (cS5 1) fun r7=>.D [] []<| .K (dA7) fun v2=>.K (cw6) fun v3=>.K (bL7) fun v4=>.K (dg0) fun v5=>.R ((⟨t2,r2.1,r3.1,v2,v3,v4,(⟨0,0,false⟩:ah3),r7.1,v5,r6.1,r4.1,b2,0⟩:ae5),0)))
def cN6 (s:List u7×Int):M prog (List u7) ((List u7×Int)⊕((List u7×Int)⊕Empty)):=
 .I (decide (s.2<7)) (.U (.ap L9 s.1 ([(⟨j7 (8448+s.2),3,5,3,40,j7 (1+s.2),true,2⟩:u7)]:List u7) 2104) fun l=>.R (.inl (l,j7 (s.2+1)))) (.R (.inr (.inl (s.1,s.2))))
def bl6:C prog (List u7):=.of Z call9 func9 [] (fun r=>.t (tS L9 r)) (
 .Z (.np 1 2104 135 8 [])<| .L (fun(t:List u7×Int)=>[.t 1 (.own 2104),.t 3 (.t (tI t.2)),.b 2104 (.rs 135 8 t.1 L9)]) 0 (.e) (cN6) (([]:List u7),0) (fun s2=>.R s2.1) (fun t=>t.elim))
def dG0:C prog o6:=.of Z call17 func17 [] (fun r=>S4 r) (
 .Z (.fr 7)<| .Z (.fr 8)<| .Z (.fr 9)<| .Z (.fr 10)<| .Z (.fr 18)<| .Z (.fr 19)<| .Z (.fr 20)<| .Z (.fr 21)<| .Z (.fr 35)<| .Z (.fr 36)<| .Z (.fr 37)<| .Z (.fr 38)<| .Z (.fr 43)<| .Z (.fr 44)<| .Z (.fr 45)<| .Z (.fr 46)<| .R (⟨(⟨([0,1000,3000,7000]:List Int),([50,300,700,1050]:List Int),([([5000,90000,250000,400000]:List Int),([8000,100000,280000,430000]:List Int),([10000,110000,300000,460000]:List Int),([8000,95000,270000,420000]:List Int)]:List (List Int))⟩:SMap),(⟨([0,1000,3000,7000]:List Int),([0,100000,300000,500000]:List Int),([([640,600,400,300]:List Int),([900,800,600,500]:List Int),([1900,1600,1300,1100]:List Int),([2400,2100,1800,1600]:List Int)]:List (List Int))⟩:SMap),(⟨([0,1000,3000,7000]:List Int),([0,100000,300000,500000]:List Int),([([0,400,1500,2600]:List Int),([0,500,1800,3000]:List Int),([0,450,1900,3200]:List Int),([0,300,1500,2700]:List Int)]:List (List Int))⟩:SMap),(⟨([0,1000,3000,7000]:List Int),([0,200,600,1000]:List Int),([([100,800,2000,3000]:List Int),([0,700,2000,3200]:List Int),([0,600,1900,3200]:List Int),([0,300,1500,2700]:List Int)]:List (List Int))⟩:SMap),(⟨([(-40),20,100]:List Int),([1200,1000,850]:List Int)⟩:P8),(⟨([6000,14000]:List Int),([6000,3000]:List Int)⟩:P8),(⟨([6000,14000]:List Int),([2500,800]:List Int)⟩:P8),(⟨([0,640,1600,2560]:List Int),([1000,950,700,300]:List Int)⟩:P8),(⟨1024,32,0,800⟩:aV0)⟩:o6))
def ek5:C prog L0:=.of Z call18 func18 [] (fun r=>aL0 r) (
 .R (⟨4000,400,600,9000,200,300,4⟩:L0))
def bY2:C prog o4:=.of Z call19 func19 [] (fun r=>at5 r) (
 .R (⟨([1]:List Int),0⟩:o4))
def bA0 (_ x:Int)(_:Unit):M prog Bool (Fl Unit Bool):=
 .W (.hx 0)<| .K (F5 x 500 2000) fun v7=>.I (!v7) (.R (.ret false)) (.R (.next ()))
def bu3 (b2:L0)(p2:Y5):C prog Bool:=.of Z call65 func65 [aL0 b2,aX0 p2] (fun r=>.t (tB r)) (
 .K (ai9 b2) fun v=>.G (!v) (.R true) (.K (F5 p2.J8 0 3019898879) fun v2=>.R (!v2)) fun b3=>.G b3 (.R true) (.K (F5 p2.D1 0 262144) fun v3=>.R (!v3)) fun b4=>.G b4 (.R true) (.K (F5 p2.Rest 0 (j7 (b2.ai3-1))) fun v4=>.R (!v4)) fun b5=>.G b5 (.R true) (.K (F5 p2.K9 50 1013) fun v5=>.R (!v5)) fun b6=>.G b6 (.R true) (.K (F5 p2.O8 0 2147483648) fun v6=>.R (!v6)) fun b7=>.I (b7||(decide ((p2.Path.length:Int)>(j7 (b2.aX1+1))))) (.R false) (M.Q aJ6 p2.Path 2 55 (fun(_:Unit)=>[.x 2,.x 3,.x 52,.d 2,.d 3]) 0 (.one .rt) (bA0) () (fun _=>.R true) (fun r2=>.R r2)))
def au6 (t2:Int):C prog Bool:=.of Z call196 func196 [.t (tI t2)] (fun r=>.t (tB r)) (
 .R ((decide (t2>=0))&&(decide (t2<=1099511627776))))
def ai5 (c:D8):C prog Bool:=.of Z call112 func112 [bA5 c] (fun r=>.t (tB r)) (
 .I (!c.V6) (.W .eq<| .R ((c.V6==false)&&((c.At==0)&&((c.G7==0)&&((c.E9==0)&&((c.X1==0)&&((c.am3==0)&&true))))))) (.K (au6 c.At) fun v=>.I (((((((!v)||(decide (c.G7<0)))||(decide (c.G7>=46080)))||(decide (c.E9<1)))||(decide (c.E9>1073741824)))||(decide (c.X1<192)))||(decide (c.X1>1920))) (.R false) (.R (((c.am3==c.X1)||(c.am3==(j7 (2*c.X1))))||(c.am3==(j7 (3*c.X1)))))))
def V0 (s:List j5)(f2:Cl prog j5 Bool (fun x=>[aZ9 x]) (fun r=>.t (tB r)))(i:Int)(_:Unit):M prog Int (Fl Unit Int):=
 .O (.ix E5 s i) fun x=>.K (f2.at x) fun v=>.I v (.R (.ret i)) (.R (.next ()))
def Q7 (s:List j5)(f2:Cl prog j5 Bool (fun x=>[aZ9 x]) (fun r=>.t (tB r))):C prog Int:=.of Z call283 func283 [.t (tS E5 s),.fz f2.n f2.cs] (fun r=>.t (tI r)) (
 M.QN (s.length:Int) 2 8 (fun(_:Unit)=>[]) 0 (.one .rt) (V0 s f2) () (fun _=>.R (-1)) (fun r2=>.R r2))
def G1 (s:List j5)(f2:Cl prog j5 Bool (fun x=>[aZ9 x]) (fun r=>.t (tB r))):C prog Bool:=.of Z call197 func197 [.t (tS E5 s),.fz f2.n f2.cs] (fun r=>.t (tB r)) (
 .K (Q7 s f2) fun v=>.R (decide (v>=0)))
def ao7 (c:j5)(c2:u0):C prog Bool:=.of Z call198 func198 [aZ9 c,.el (cO4 c2)] (fun r=>.t (tB r)) (
 .I c.D6 (.R ((decide (c.At<=c2.T1))||(decide (c.At>1099511627776)))) (.R ((c.At !=0)||c.Next)))
def an6 (t2:u0):C prog Bool:=.of Z call113 func113 [aM8 t2] (fun r=>.t (tB r)) (
 .I ((((decide (t2.T1<0))||(decide (t2.T1>1099511627776)))||(decide ((t2.j1.length:Int)<1)))||(decide ((t2.j1.length:Int)>16))) (.R false) (.Z (.fb 1)<| .K (G1 t2.j1 (.of (fun z_=>ao7 z_ t2) 198 [cO4 t2])) fun v=>.R (!v)))
def M3 (x low high:Int):C prog Bool:=.of Z call284 func284 [.t (tI x),.t (tI low),.t (tI high)] (fun r=>.t (tB r)) (
 .R ((decide (x>=low))&&(decide (x<=high))))
def X2 (e2:o4)(f2:A0):C prog Bool:=.of Z call199 func199 [at5 e2,aO8 f2] (fun r=>.t (tB r)) (
 .K (O5 e2) fun v=>.G (!v) (.R true) (.K (P1 e2.z8 f2.o9) fun v2=>.R (!v2)) fun b2=>.G b2 (.R true) (.K (M3 f2.N8 (-1280) 3840) fun v3=>.R (!v3)) fun b3=>.G b3 (.R true) (.K (M3 f2.ae6 500 10000) fun v4=>.R (!v4)) fun b4=>.G b4 (.R true) (.K (M3 f2.End 0 23040) fun v5=>.R (!v5)) fun b5=>.I b5 (.R false) (.G (f2.Y4 !=0) (.K (M3 f2.Y4 200 20000) fun v6=>.R (!v6)) (.R false) fun b6=>.I b6 (.R false) (.G ((f2.Gap==0)&&(f2.Extra==0)) (.R true) (.G (f2.Y4 !=0) (.K (M3 f2.Gap 200 20000) fun v7=>.R v7) (.R false) fun b7=>.G b7 (.K (M3 f2.Extra 200 20000) fun v8=>.R v8) (.R false) fun b8=>.R b8) fun b9=>.R b9)))
def N6 (s:List A0)(f2:Cl prog A0 Bool (fun x=>[aO8 x]) (fun r=>.t (tB r)))(i:Int)(_:Unit):M prog Int (Fl Unit Int):=
 .O (.ix B1 s i) fun x=>.K (f2.at x) fun v=>.I v (.R (.ret i)) (.R (.next ()))
def H2 (s:List A0)(f2:Cl prog A0 Bool (fun x=>[aO8 x]) (fun r=>.t (tB r))):C prog Int:=.of Z call180 func180 [.t (tS B1 s),.fz f2.n f2.cs] (fun r=>.t (tI r)) (
 M.QN (s.length:Int) 2 8 (fun(_:Unit)=>[]) 0 (.one .rt) (N6 s f2) () (fun _=>.R (-1)) (fun r2=>.R r2))
def E7 (s:List A0)(f2:Cl prog A0 Bool (fun x=>[aO8 x]) (fun r=>.t (tB r))):C prog Bool:=.of Z call200 func200 [.t (tS B1 s),.fz f2.n f2.cs] (fun r=>.t (tB r)) (
 .K (H2 s f2) fun v=>.R (decide (v>=0)))
def ae1 (g c:A0):C prog Bool:=.of Z call201 func201 [aO8 g,.el (B1 c)] (fun r=>.t (tB r)) (
 .R (g.o9==c.o9))
def am1 (e2:o4)(l:List A0)(i:Int)(_:Unit):M prog Bool (Fl Unit Bool):=
 .O (.ix B1 l i) fun x=>.K (X2 e2 x) fun v=>.Z (.fb 6)<| .G (!v) (.R true) (.U (.sF B1 l 0 i) fun l2=>.K (E7 l2 (.of (fun z_=>ae1 z_ x) 201 [B1 x])) fun v2=>.R v2) fun b2=>.I b2 (.R (.ret false)) (.R (.next ()))
def ab0 (e2:o4)(l:List A0):C prog Bool:=.of Z call114 func114 [at5 e2,.t (tS B1 l)] (fun r=>.t (tB r)) (
 M.QN (l.length:Int) 2 9 (fun(_:Unit)=>[]) 0 (.one .rt) (am1 e2 l) () (fun _=>.R true) (fun r2=>.R r2))
def O7 (s:List A4)(f2:Cl prog A4 Bool (fun x=>[bc4 x]) (fun r=>.t (tB r)))(i:Int)(_:Unit):M prog Int (Fl Unit Int):=
 .O (.ix I0 s i) fun x=>.K (f2.at x) fun v=>.I v (.R (.ret i)) (.R (.next ()))
def C0 (s:List A4)(f2:Cl prog A4 Bool (fun x=>[bc4 x]) (fun r=>.t (tB r))):C prog Int:=.of Z call202 func202 [.t (tS I0 s),.fz f2.n f2.cs] (fun r=>.t (tI r)) (
 M.QN (s.length:Int) 2 8 (fun(_:Unit)=>[]) 0 (.one .rt) (O7 s f2) () (fun _=>.R (-1)) (fun r2=>.R r2))
def O6 (s:List A4)(f2:Cl prog A4 Bool (fun x=>[bc4 x]) (fun r=>.t (tB r))):C prog Bool:=.of Z call115 func115 [.t (tS I0 s),.fz f2.n f2.cs] (fun r=>.t (tB r)) (
 .K (C0 s f2) fun v=>.R (decide (v>=0)))
def av3 (s:c8)(j:A4):C prog Bool:=.of Z call117 func117 [R5 s,bc4 j] (fun r=>.t (tB r)) (
 .R (((((((((((decide (j.Event.o9>=1))&&(decide (j.Event.o9<=(s.u4.z8.length:Int))))&&(decide (j.Event.Kind>=1)))&&(decide (j.Event.Kind<=4)))&&(decide (j.Event.G7>=0)))&&(decide (j.Event.G7<46080)))&&(decide (j.Event.ai4>=0)))&&(decide (j.Event.ai4<=2)))&&(decide (j.Left>=(-1048576))))&&(decide (j.Left<=1048576)))&&(j.D6||(j.At==0))))
def X9 (j:A4)(c:c8):C prog Bool:=.of Z call116 func116 [bc4 j,.el (bd8 c)] (fun r=>.t (tB r)) (
 .K (av3 c j) fun v=>.R (!v))
def G9 (x:B4):C prog Int:=.of Z call203 func203 [aW7 x] (fun r=>.t (tI r)) (
 .I ((x.Kind==3)||(x.Kind==4)) (.R (j7 ((j7 (2*(j7 (x.o9-1))))+1))) (.R (j7 (2*(j7 (x.o9-1))))))
def aq8 (kind:Int):C prog Bool:=.of Z call204 func204 [.t (tI kind)] (fun r=>.t (tB r)) (
 .R ((kind==1)||(kind==3)))
def Y2 (s:c8)(c:Int)(x:j5)(_:Int)(x2:A4)(s2:Bool×Bool):M prog Bool (Fl (Bool×Bool) Bool):=
 .W (.hx 0)<| .K (G9 x2.Event) fun v=>.I (v !=c) (.R (.next (s2.1,s2.2))) (.K (aq8 x2.Event.Kind) fun v2=>.I (v2==s2.1) (.R (.ret false)) (.J 0 (fun(_:Unit)=>[.x 25,.x 30,.x 31]) (.one .rt) (.I s2.2 (.I ((!(x2.D6==x.D6))||(x2.D6&&((x2.At !=x.At)||(!(x.Next==(!s2.1)))))) (.R (.inr false)) (.R (.inl ()))) (.I (x2.D6||s.Cut) (.R (.inr false)) (.R (.inl ())))) (fun _=>.I (s.Cut&&(((x2.Event.Kind !=2)||(!x2.D6))||(decide (x2.At>(j7 (s.j9.T1+5000)))))) (.R (.ret false)) (.R (.next ((!s2.1),false)))) (fun r2=>.R (.ret r2))))
def aq7 (s:c8)(c:Int):C prog Bool:=.of Z call118 func118 [R5 s,.t (tI c)] (fun r=>.t (tB r)) (
 .O (.ix E5 s.j9.j1 c) fun x=>M.Q I0 s.G3 2 21 (fun(t:Bool×Bool)=>[.t 6 (.t (tB t.1)),.t 7 (.t (tB t.2)),.x 10,.x 11,.x 16,.x 18]) 0 (.one .rt) (Y2 s c x) (x.K2,true) (fun s4=>.R ((!s4.1)&&(!(s4.2&&x.D6)))) (fun r3=>.R r3))
def am0 (s:c8)(i:Int)(_:Unit):M prog Bool (Fl Unit Bool):=
 .K (aq7 s i) fun v6=>.I (!v6) (.R (.ret false)) (.R (.next ()))
def J4 (s:c8):C prog Bool:=.of Z call66 func66 [R5 s] (fun r=>.t (tB r)) (
 .K (O5 s.u4) fun v=>.G (!v) (.R true) (.K (ai5 s.A1) fun v2=>.R (!v2)) fun b2=>.G b2 (.R true) (.K (an6 s.j9) fun v3=>.R (!v3)) fun b3=>.G (b3||((s.j9.j1.length:Int) !=(j7 (2*(s.u4.z8.length:Int))))) (.R true) (.K (ab0 s.u4 s.Next) fun v4=>.R (!v4)) fun b4=>.I b4 (.R false) (.Z (.fb 1)<| .G ((decide ((s.G3.length:Int)>200))||((!s.A1.V6)&&(decide ((s.G3.length:Int)>0)))) (.R true) (.K (O6 s.G3 (.of (fun z_=>X9 z_ s) 116 [bd8 s])) fun v5=>.R v5) fun b5=>.I b5 (.R false) (M.QN (s.j9.j1.length:Int) 2 66 (fun(_:Unit)=>[]) 0 (.one .rt) (am0 s) () (fun _=>.R true) (fun r2=>.R r2))))
def aw9 (p2:U2):C prog Bool:=.of Z call119 func119 [ch2 p2] (fun r=>.t (tB r)) (
 .J0 0 (fun(t:Int)=>[.t 3 (.t (tI t)),.x 4]) (.I p2.aQ1 (.R 200) (.R 1000)) fun most=>.R (((((decide (p2.Value>=0))&&(decide (p2.Value<=most)))&&(decide (p2.ae9>=0)))&&(decide (p2.ae9<=3)))&&(p2.aQ1==(p2.ae9==3))))
def R7 (x low high:Int):C prog Bool:=.of Z call205 func205 [.t (tI x),.t (tI low),.t (tI high)] (fun r=>.t (tB r)) (
 .R ((decide (x>=low))&&(decide (x<=high))))
def ai1 (s:List aa7)(f2:Cl prog aa7 Bool (fun x=>[bV1 x]) (fun r=>.t (tB r)))(i:Int)(_:Unit):M prog Int (Fl Unit Int):=
 .O (.ix am8 s i) fun x=>.K (f2.at x) fun v=>.I v (.R (.ret i)) (.R (.next ()))
def aa1 (s:List aa7)(f2:Cl prog aa7 Bool (fun x=>[bV1 x]) (fun r=>.t (tB r))):C prog Int:=.of Z call285 func285 [.t (tS am8 s),.fz f2.n f2.cs] (fun r=>.t (tI r)) (
 M.QN (s.length:Int) 2 8 (fun(_:Unit)=>[]) 0 (.one .rt) (ai1 s f2) () (fun _=>.R (-1)) (fun r2=>.R r2))
def Q6 (s:List aa7)(f2:Cl prog aa7 Bool (fun x=>[bV1 x]) (fun r=>.t (tB r))):C prog Bool:=.of Z call206 func206 [.t (tS am8 s),.fz f2.n f2.cs] (fun r=>.t (tB r)) (
 .K (aa1 s f2) fun v=>.R (decide (v>=0)))
def aa9 (c:aa7):C prog Bool:=.of Z call207 func207 [bV1 c] (fun r=>.t (tB r)) (
 .K (R7 c.Value (-100) 100) fun v=>.G (!v) (.R true) (.K (R7 c.E0 0 1000) fun v2=>.R (!v2)) fun b2=>.R b2)
def ac0 (p2:M6):C prog Bool:=.of Z call120 func120 [br2 p2] (fun r=>.t (tB r)) (
 .K (R7 p2.aj4 750 1250) fun v=>.G (!v) (.R true) (.K (R7 p2.bc8 0 1000) fun v2=>.R (!v2)) fun b2=>.I (b2||((p2.Cells.length:Int) !=9)) (.R false) (.I ((!p2.al8)&&(((p2.aj4 !=1000)||(p2.bc8 !=0))||p2.bc7)) (.R false) (.K (Q6 p2.Cells (.of (fun z_=>aa9 z_) 207 [])) fun v3=>.R (!v3))))
def ag4 (s:List B6)(f2:Cl prog B6 Bool (fun x=>[aW8 x]) (fun r=>.t (tB r)))(i:Int)(_:Unit):M prog Int (Fl Unit Int):=
 .O (.ix I3 s i) fun x=>.K (f2.at x) fun v=>.I v (.R (.ret i)) (.R (.next ()))
def X6 (s:List B6)(f2:Cl prog B6 Bool (fun x=>[aW8 x]) (fun r=>.t (tB r))):C prog Int:=.of Z call208 func208 [.t (tS I3 s),.fz f2.n f2.cs] (fun r=>.t (tI r)) (
 M.QN (s.length:Int) 2 8 (fun(_:Unit)=>[]) 0 (.one .rt) (ag4 s f2) () (fun _=>.R (-1)) (fun r2=>.R r2))
def I7 (s:List B6)(f2:Cl prog B6 Bool (fun x=>[aW8 x]) (fun r=>.t (tB r))):C prog Bool:=.of Z call121 func121 [.t (tS I3 s),.fz f2.n f2.cs] (fun r=>.t (tB r)) (
 .K (X6 s f2) fun v=>.R (decide (v>=0)))
def ah0 (n2:Int):C prog Bool:=.of Z call209 func209 [.t (tI n2)] (fun r=>.t (tB r)) (
 .R ((decide (n2>=0))&&(decide (n2<=4095))))
def aw4 (k:B6):C prog Bool:=.of Z call123 func123 [aW8 k] (fun r=>.t (tB r)) (
 .G ((decide (k.as4>=0))&&(decide (k.as4<=960))) (.K (ah0 k.aH3) fun v=>.R v) (.R false) fun b2=>.R ((b2&&(decide (k.Quiet>=0)))&&(decide (k.Quiet<100))))
def aj8 (k:B6):C prog Bool:=.of Z call122 func122 [aW8 k] (fun r=>.t (tB r)) (
 .K (aw4 k) fun v=>.R (!v))
def ap5 (e2:o4)(c:A5):C prog Bool:=.of Z call67 func67 [at5 e2,aQ0 c] (fun r=>.t (tB r)) (
 .K (O5 e2) fun v=>.G (!v) (.R true) (.K (aw9 c.I4) fun v2=>.R (!v2)) fun b2=>.G b2 (.R true) (.K (ac0 c.P9) fun v3=>.R (!v3)) fun b3=>.I (b3||((c.aa6.length:Int) !=(e2.z8.length:Int))) (.R false) (.K (I7 c.aa6 (.of (fun z_=>aj8 z_) 122 [])) fun v4=>.I v4 (.R false) (.K (J1 c.ae3.Sum (-4398046511104) 4398046511104) fun v5=>.G v5 (.K (J1 c.O8 0 1073741824) fun v6=>.R v6) (.R false) fun b4=>.G b4 (.K (J1 c.af0.o8 (-5000) 10000) fun v7=>.R v7) (.R false) fun b5=>.G b5 (.K (J1 c.af0.N1 (-1) 15) fun v8=>.R v8) (.R false) fun b6=>.R b6)))
def aU9 (t2:Int):C prog Bool:=.of Z call124 func124 [.t (tI t2)] (fun r=>.t (tB r)) (
 .R ((decide (t2>=0))&&(decide (t2<=1099511627776))))
def aG3 (f2:Z6):C prog Bool:=.of Z call68 func68 [ba9 f2] (fun r=>.t (tB r)) (
 .K (aU9 f2.H0) fun v=>.G v (.K (aU9 f2.E9) fun v2=>.R v2) (.R false) fun b2=>.R ((b2&&(decide (f2.E9<=f2.H0)))&&(f2.Seen||((f2.H0==0)&&(f2.E9==0)))))
def aK9 (w:aI0):C prog Bool:=.of Z call125 func125 [aB2 w] (fun r=>.t (tB r)) (
 .G (((((w.aP0==1)||(w.aP0==2))&&(decide (w.av7>=12)))&&(decide (w.av7<=120)))&&(decide (w.av7>=(j7 (8*w.aP0))))) (.O (.rem 23040 w.av7) fun q=>.R (q==0)) (.R false) fun b2=>.R b2)
def bf3 (t2:Int):C prog Bool:=.of Z call126 func126 [.t (tI t2)] (fun r=>.t (tB r)) (
 .R ((decide (t2>=0))&&(decide (t2<=1099511627776))))
def aS4 (w:aI0):C prog Int:=.of Z call127 func127 [aB2 w] (fun r=>.t (tI r)) (
 .K (aK9 w) fun v=>.I (!v) (.R 0) (.R (j7 (w.av7-w.aP0))))
def bv1 (w:aI0)(s:aa3):C prog Bool:=.of Z call69 func69 [aB2 w,aO9 s] (fun r=>.t (tB r)) (
 .K (aK9 w) fun v=>.I (!v) (.R false) (.I (s.Mode==0) (.W .eq<| .R ((s.Mode==0)&&((s.ax9==0)&&((s.H0==0)&&((s.E9==0)&&((s.N7==0)&&((s.av7==0)&&true))))))) (.I (s.Mode==1) (.G (s.ax9 !=0) (.R true) (.K (bf3 s.H0) fun v2=>.R (!v2)) fun b2=>.I b2 (.R false) (.I (s.av7==0) (.R ((s.E9==0)&&(s.N7==0))) (.R (((((s.av7==1)||(s.av7==2))&&(decide (s.E9>=1)))&&(decide (s.E9<=s.H0)))&&(s.N7==s.E9))))) (.I (s.Mode==2) (.J0 1 (fun(t:Bool)=>[.t 4 (.t (tB t)),.x 2,.x 3,.x 8,.d 2,.d 3]) (.D [] []<| .Sp (decide (s.ax9>=0)) (.K (aS4 w) fun v3=>.Sp (decide (s.ax9<v3)) (.K (bf3 s.H0) fun v4=>.Sp v4 (.Sp (decide (s.E9>=1)) (.Sp (decide (s.E9<=s.H0)) (.Sp (decide (s.N7>=1)) (.R ((decide (s.N7<=s.E9))&&(s.av7==0))) (.R false)) (.Sp false .N (.R false))) (.Sp false .N (.Sp false .N (.R false)))) (.Sp false .N (.Sp false .N (.Sp false .N (.R false))))) (.Sp false .N (.Sp false .N (.Sp false .N (.Sp false .N (.R false)))))) (.Sp false .N (.Sp false .N (.Sp false .N (.Sp false .N (.Sp false .N (.R false))))))) fun v5=>.R v5) (.R false)))))
def bq6:C prog aI0:=.of Z call70 func70 [] (fun r=>aB2 r) (
 .R (⟨60,2⟩:aI0))
def F3 (x y:Int):C prog Int:=.of Z call210 func210 [.t (tI x),.t (tI y)] (fun r=>.t (tI r)) (
 .K (cmp_isNaN_int x) fun v=>.K (cmp_isNaN_int y) fun v2=>.I v (.I v2 (.R 0) (.R (-1))) (.I v2 (.R 1) (.I (decide (x<y)) (.R (-1)) (.I (decide (x>y)) (.R 1) (.R 0)))))
def cG6 (_ x:Int)(s:Int×Int):M prog (Int×Int) (Fl (Int×Int) Empty):=
 .W (.hx 0)<| .I (decide (x<23040)) (.R (.next (j7 (s.1+1),s.2))) (.R (.next (s.1,j7 (s.2+1))))
def cq5 (c:ch7):C prog (Int×Int):=.of Z call211 func211 [bN5 c] (fun r=>.P7 [.t (tI r.1),.t (tI r.2)]) (
 M.Q aJ6 c.bw5 2 9 (fun(t:Int×Int)=>[.t 2 (.t (tI t.1)),.t 3 (.t (tI t.2)),.x 1,.x 6,.d 1]) 0 (.e) (cG6) (0,0) (fun s2=>.R (s2.1,s2.2)) (fun t=>t.elim))
def cq4 (c:ch7)(i:Int)(_:Unit):M prog Bool (Fl Unit Bool):=
 .O (.ix aJ6 c.bw5 i) fun x=>.G ((((decide (x<0))||(decide (x>=46080)))||(decide ((ew5 x 23040)<1920)))||(decide ((ew5 x 23040)>21120))) (.R true) (.G (decide (i>0)) (.O (.ix aJ6 c.bw5 (j7 (i-1))) fun x2=>.R (decide ((j7 (x-x2))<1920))) (.R false) fun b3=>.R b3) fun b4=>.I b4 (.R (.ret false)) (.R (.next ()))
def aS5 (c:ch7):C prog Bool:=.of Z call128 func128 [bN5 c] (fun r=>.t (tB r)) (
 .G ((decide ((c.bw5.length:Int)<1))||(decide ((c.bw5.length:Int)>8))) (.R true) (.K (H7 c.bw5 (.of (fun z_=>F3 z_.1 z_.2) 210 [])) fun v=>.R (!v)) fun b2=>.I b2 (.R false) (M.QN (c.bw5.length:Int) 2 26 (fun(_:Unit)=>[.x 7,.x 23]) 0 (.one .rt) (cq4 c) () (fun _=>.K (cq5 c) fun r2=>.R (r2.1 !=r2.2)) (fun r3=>.R r3)))
def bS5 (p2:ad0):C prog Bool:=.of Z call129 func129 [aW9 p2] (fun r=>.t (tB r)) (
 .I ((((decide (p2.E0<0))||(decide (p2.E0>16)))||(decide (p2.bF2<0)))||(decide (p2.bF2>1))) (.R false) (.I ((!p2.Seen)&&((p2.E0 !=0)||p2.aX2)) (.R false) (.R (p2.aX2||(p2.bF2==0)))))
def bm3 (c:ch7)(p2:ad0):C prog Bool:=.of Z call71 func71 [bN5 c,aW9 p2] (fun r=>.t (tB r)) (
 .K (aS5 c) fun v=>.G v (.K (bS5 p2) fun v2=>.R v2) (.R false) fun b2=>.R b2)
def bC6:C prog ch7:=.of Z call72 func72 [] (fun r=>bN5 r) (
 .R (⟨([5000,12000,30000]:List Int)⟩:ch7))
def M8 (x low high:Int):C prog Bool:=.of Z call130 func130 [.t (tI x),.t (tI low),.t (tI high)] (fun r=>.t (tB r)) (
 .R ((decide (x>=low))&&(decide (x<=high))))
def aX8 (g:ah3):C prog Bool:=.of Z call73 func73 [bk5 g] (fun r=>.t (tB r)) (
 .K (M8 g.Over 0 5) fun v=>.G v (.K (M8 g.Calm 0 1000) fun v2=>.R v2) (.R false) fun b2=>.R ((b2&&((g.Over==0)||(g.Calm==0)))&&(g.Off||(decide (g.Over<5)))))
def bq1 (t2:Int):C prog Bool:=.of Z call131 func131 [.t (tI t2)] (fun r=>.t (tB r)) (
 .R ((decide (t2>=0))&&(decide (t2<=1099511627776))))
def bi5 (q:aa8):C prog Bool:=.of Z call74 func74 [aS6 q] (fun r=>.t (tB r)) (
 .K (aY0 q.Question) fun v=>.G v (.K (bq1 q.as7) fun v2=>.R v2) (.R false) fun b2=>.R (((((b2&&(q.Open||(q.as7==0)))&&(decide (q.U0>=0)))&&(decide (q.U0<=7)))&&(q.Off==(q.U0==7)))&&(!(q.Open&&q.Off))))
def bK1 (t2:Int):C prog Bool:=.of Z call132 func132 [.t (tI t2)] (fun r=>.t (tB r)) (
 .R ((decide (t2>=0))&&(decide (t2<=1099511627776))))
def bm6 (s:ao0):C prog Bool:=.of Z call75 func75 [bk6 s] (fun r=>.t (tB r)) (
 .G (((decide (s.br3>=0))&&(decide (s.br3<=3)))&&(s.T6==(s.br3==0))) (.K (bK1 s.aQ2) fun v=>.R v) (.R false) fun b2=>.R b2)
def bV5 (u:ae5):C prog Bool:=.of Z call36 func36 [ca1 u] (fun r=>.t (tB r)) (
 .J0 1 (fun(t:Bool)=>[.t 49 (.t (tB t))]) (.D [] []<| .K (ab8 u.u6) fun v=>.Sp (!v) (.Sp true (.Sp true (.Sp true (.Sp true (.Sp true (.R true) .N) .N) .N) .N) .N) (.K (bu3 u.aa4 u.A7) fun v2=>.Sp (!v2) (.Sp true (.Sp true (.Sp true (.Sp true (.R true) .N) .N) .N) .N) (.K (J4 u.j3) fun v3=>.Sp (!v3) (.Sp true (.Sp true (.Sp true (.R true) .N) .N) .N) (.K (ap5 u.j3.u4 u.u3) fun v4=>.Sp (!v4) (.Sp true (.Sp true (.R true) .N) .N) (.K (aG3 u.H6) fun v5=>.Sp (!v5) (.Sp true (.R true) .N) (.K (bq6) fun v6=>.K (bv1 v6 u.Q0) fun v7=>.Sp (!v7) (.R true) (.K (bC6) fun v8=>.K (bm3 v8 u.M5) fun v9=>.R (!v9)))))))) fun v10=>.I v10 (.R false) (.K (aX8 u.M4) fun v11=>.G (!v11) (.R true) (.K (bi5 u.K8) fun v12=>.R (!v12)) fun b2=>.G b2 (.R true) (.K (bm6 u.L5) fun v13=>.R (!v13)) fun b3=>.G b3 (.R true) (.K (Z0 u.H4) fun v14=>.R (!v14)) fun b4=>.I ((b4||(decide ((u.H4.L.length:Int)<7)))||(!u.H4.ax1)) (.R false) (.R (((((decide (u.Time>=0))&&(decide (u.Time<=549755813888)))&&((ew5 u.Time 10000)==0))&&(u.j3.j9.T1==u.Time))&&(decide ((G4 (G4 (G4 u.H6.H0 u.Q0.H0) u.L5.aQ2) u.K8.as7)<=u.Time))))))
def aS1 (s:List ae4)(f2:Cl prog ae4 Bool (fun x=>[bN4 x]) (fun r=>.t (tB r)))(i:Int)(_:Unit):M prog Int (Fl Unit Int):=
 .O (.ix aG7 s i) fun x=>.K (f2.at x) fun v=>.I v (.R (.ret i)) (.R (.next ()))
def bb7 (s:List ae4)(f2:Cl prog ae4 Bool (fun x=>[bN4 x]) (fun r=>.t (tB r))):C prog Int:=.of Z call133 func133 [.t (tS aG7 s),.fz f2.n f2.cs] (fun r=>.t (tI r)) (
 M.QN (s.length:Int) 2 8 (fun(_:Unit)=>[]) 0 (.one .rt) (aS1 s f2) () (fun _=>.R (-1)) (fun r2=>.R r2))
def aD1 (s:List ae4)(f2:Cl prog ae4 Bool (fun x=>[bN4 x]) (fun r=>.t (tB r))):C prog Bool:=.of Z call76 func76 [.t (tS aG7 s),.fz f2.n f2.cs] (fun r=>.t (tB r)) (
 .K (bb7 s f2) fun v=>.R (decide (v>=0)))
def cl3 (b2:ae4):C prog Bool:=.of Z call77 func77 [bN4 b2] (fun r=>.t (tB r)) (
 .R ((((((((decide (b2.cW2<0))||(decide (b2.cW2>1099511627776)))||(decide (b2.To<0)))||(decide (b2.To>1099511627776)))||(decide (b2.aO5<0)))||(decide (b2.aO5>7)))||(decide (b2.Value<(-1000000))))||(decide (b2.Value>1000000))))
def bH6 (k:List ae4):C prog Bool:=.of Z call37 func37 [.t (tS aG7 k)] (fun r=>.t (tB r)) (
 .G (decide ((k.length:Int)<=100)) (.K (aD1 k (.of (fun z_=>cl3 z_) 77 [])) fun v=>.R (!v)) (.R false) fun b2=>.R b2)
def bZ1 (d:L6):C prog (Int×Int×Int×Int×Int):=.of Z call34 func34 [bc3 d] (fun r=>dC6 r) (
 .R (d.At,d.I4,d.bk7,d.bN6,d.bN7))
def cz9:C prog (I5×I5×I5×I5×I5):=.of Z call35 func35 [] (fun r=>ca2 r) (
 .R ((⟨(ByteArray.mk #[97,116]),0,1099511627776⟩:I5),(⟨(ByteArray.mk #[112,101,100,97,108]),0,1000⟩:I5),(⟨(ByteArray.mk #[98,114,97,107,101]),0,1000⟩:I5),(⟨(ByteArray.mk #[103,101,97,114]),0,6⟩:I5),(⟨(ByteArray.mk #[108,111,97,100]),(-500),2000⟩:I5)))
def av9 (v2:(Int×Int×Int×Int×Int))(v3:(I5×I5×I5×I5×I5))(v4:Int):M prog Bool (Int⊕(Int⊕Bool)):=
 .I (decide (v4<5)) (.O (.arr (fun y=>.agg [.t (.v (.string y.word)),.t (tI y.low),.t (tI y.high)]) ([v3.1,v3.2.1,v3.2.2.1,v3.2.2.2.1,v3.2.2.2.2]:List I5) v4) fun x4=>.J0 1 (fun(t:Bool)=>[.t 63 (.t (tB t)),.x 7,.d 7]) (.D [] []<| .O (.ax aJ6 ([v2.1,v2.2.1,v2.2.2.1,v2.2.2.2.1,v2.2.2.2.2]:List Int) v4) fun x5=>.Sp (decide (x5<x4.low)) (.R true) (.O (.ax aJ6 ([v2.1,v2.2.1,v2.2.2.1,v2.2.2.2.1,v2.2.2.2.2]:List Int) v4) fun x6=>.R (decide (x6>x4.high)))) fun v5=>.I v5 (.R (.inr (.inr false))) (.R (.inl (j7 (v4+1))))) (.R (.inr (.inl v4)))
def aQ7 (l:List L6)(i:Int)(_:Unit):M prog Bool (Fl Unit Bool):=
 .O (.ix al9 l i) fun x2=>.J0 1 (fun(t:Bool)=>[.t 42 (.t (tB t))]) (.D [] []<| .Sp (decide (i>0)) (.O (.ix al9 l (j7 (i-1))) fun x3=>.R (decide (x2.At<=x3.At))) (.R false)) fun v=>.I v (.R (.ret false)) (.K (bZ1 x2) fun v2=>.K (cz9) fun v3=>.Z (.fb 5)<| .L (fun(t:Int)=>[.t 46 (.t (tI t)),.x 4,.d 4]) 2 (.one .rt) (av9 v2 v3) 0 (fun _=>.R (.next ())) (fun r2=>.R (.ret r2)))
def az3 (l:List L6):C prog Bool:=.of Z call10 func10 [.t (tS al9 l)] (fun r=>.t (tB r)) (
 .G ((decide ((l.length:Int)<1))||(decide ((l.length:Int)>200))) (.R true) (.O (.ix al9 l 0) fun x=>.R (x.At !=0)) fun b2=>.I b2 (.R false) (M.QN (l.length:Int) 2 25 (fun(_:Unit)=>[]) 0 (.one .rt) (aQ7 l) () (fun _=>.R true) (fun r3=>.R r3)))
def cu5 (d:L6):C prog Bool:=.of Z call41 func41 [bc3 d] (fun r=>.t (tB r)) (
 .G ((decide (d.At>=0))&&(decide (d.At<=1099511627776))) (.K (az3 ([({d with At:=0}:L6)]:List L6)) fun v=>.R v) (.R false) fun b2=>.R b2)
def cf1 (o7:Int):C prog (Int×Int):=.of Z call79 func79 [.t (tI o7)] (fun r=>.P7 [.t (tI r.1),.t (tI r.2)]) (
 .I ((decide (o7<0))||(decide (o7>524288))) (.R (0,2)) (.R (j7 (db0 (j7 (o7*60000000)) 1509949440),0)))
def aC0 (s:j8)(bo2 _:Int)(x:ae4)(_:Unit):M prog (Int×Bool) (Fl Unit (Int×Bool)):=
 .W (.hx 0)<| .J0 1 (fun(t:Bool)=>[.t 38 (.t (tB t))]) (.D [] []<| .Sp (x.aO5==bo2) (.Sp (decide (x.cW2<=s.t)) (.R (decide (s.t<x.To))) (.R false)) (.Sp false .N (.R false))) fun v=>.I v (.R (.ret (x.Value,true))) (.R (.next ()))
def W7 (s:j8)(bo2:Int):C prog (Int×Bool):=.of Z call154 func154 [.el (bj8 s),.t (tI bo2)] (fun r=>.P7 [.t (tI r.1),.t (tB r.2)]) (
 M.Q aG7 s.k 2 13 (fun(_:Unit)=>[]) 0 (.one .rt) (aC0 s bo2) () (fun _=>.R (0,false)) (fun r2=>.R r2))
def bJ2 (p2:Y5):C prog Int:=.of Z call213 func213 [aX0 p2] (fun r=>.t (tI r)) (
 .I ((p2.Path.length:Int)==0) (.R 1000) (.O (.ix aJ6 p2.Path 0) fun x=>.R x))
def D2 (s:j8)(bo2:Int):C prog Int:=.of Z call137 func137 [.el (bj8 s),.t (tI bo2)] (fun r=>.t (tI r)) (
 .K (W7 s bo2) fun r2=>.I r2.2 (.R r2.1) (.I (bo2==0) (.R s.d.I4) (.I (bo2==1) (.R (j7 (db0 s.d.I4 2))) (.I (bo2==2) (.R s.u.A7.K9) (.I (bo2==3) (.R 20) (.I (bo2==4) (.R (F2 (j7 (20+(j7 (db0 s.t 1000000)))) 90)) (.K (bJ2 s.u.A7) fun v=>.I (decide (v<1000)) (.R 800) (.R 100))))))))
def C4 (x low high:Int):C prog Int:=.of Z call144 func144 [.t (tI x),.t (tI low),.t (tI high)] (fun r=>.t (tI r)) (
 .R (F2 (G4 x low) high))
def bl7 (x low high:Int):C prog Bool:=.of Z call212 func212 [.t (tI x),.t (tI low),.t (tI high)] (fun r=>.t (tB r)) (
 .R ((decide (x<low))||(decide (x>high))))
def bH7 (s:j8):C prog (Bool×Bool×Bool×Bool×Bool×Bool×Bool):=.of Z call136 func136 [.el (bj8 s)] (fun r=>dp0 r) (
 .K (D2 s 0) fun v=>.K (C4 v 0 1000) fun v2=>.K (D2 s 1) fun v3=>.K (C4 v3 0 500) fun v4=>.D [] []<| .K (D2 s 2) fun v5=>.K (bl7 v5 50 1013) fun v6=>.K (D2 s 3) fun v7=>.K (bl7 v7 (-40) 150) fun v8=>.K (D2 s 4) fun v9=>.K (bl7 v9 (-40) 150) fun v10=>.K (D2 s 5) fun v11=>.K (bl7 v11 50 900) fun v12=>.R (decide ((G4 (j7 (v2-(j7 (2*v4)))) (j7 ((j7 (2*v4))-v2)))>50),v6,v8,v10,v12,s.u.M4.Off,s.u.K8.Off))
def bL3 (old:B5):C prog B5:=.of Z call138 func138 [aA0 old] (fun r=>.fz 214 [aQ8 r]) (
 .Z (.fb 1)<| .R old)
def aE7 (l:List A2)(i:Int)(c:u7)(E3:Int)(frame:List Int):CG prog (List A2):=.of Z call215 func215 [.pe 1000000 (Int.toNat i) 7 0,aN9 c,.t (tI E3),.t (tS aJ6 frame)] [(1000000,.rs 174 7 l F7)] (fun _=>.P7 []) (fun r=>[(1000000,.rs 174 7 r F7)]) [] (
 .A F7 l i fun x2=>.W (.ly 0)<| .K (X3 x2 1) fun v=>.J0 0 (fun(t:List A2)=>[.x 8,.x 9,.b 1000000 (.rs 174 7 t F7)]) (.I (!v) (.W (.ly 0)<| .U (.st F7 l i ({x2 with y9:=F2 255 (j7 (x2.y9+1))}:A2) 0) fun l2=>.W (.ly 0)<| .K (X3 ({x2 with y9:=F2 255 (j7 (x2.y9+1))}:A2) 4) fun v2=>.I (!v2) (.K (O0 frame) fun v3=>.U (.st F7 l2 i ({x2 with y9:=F2 255 (j7 (x2.y9+1)),Frame:=v3}:A2) 0) fun l3=>.R l3) (.R l2)) (.R l)) fun f2=>.A F7 f2 i fun x3=>.W (.ly 0)<| .U (.st F7 f2 i ({x3 with F8:=U4 .i64 x3.F8 11}:A2) 0) fun l4=>.U (.st F7 l4 i ({x3 with F8:=U4 .i64 x3.F8 11,Clean:=0}:A2) 0) fun l5=>.W (.ly 0)<| .I (x3.H0==E3) (.R l5) (.U (.st F7 l5 i ({x3 with F8:=U4 .i64 x3.F8 11,Clean:=0,H0:=E3}:A2) 0) fun l6=>.W (.ly 0)<| .U (.st F7 l6 i (⟨U4 .i64 x3.F8 11,x3.E0,F2 2 (j7 (x3.I9+1)),0,x3.y9,x3.Frame,E3⟩:A2) 0) fun l7=>.W (.ly 0)<| .I (decide ((F2 2 (j7 (x3.I9+1)))<2)) (.R l7) (.W (.ly 0)<| .U (.st F7 l7 i (⟨U4 .i64 (U4 .i64 x3.F8 11) 4,x3.E0,F2 2 (j7 (x3.I9+1)),0,x3.y9,x3.Frame,E3⟩:A2) 0) fun l8=>.I c.cr2 (.W (.ly 0)<| .U (.st F7 l8 i (⟨U4 .i64 (U4 .i64 (U4 .i64 x3.F8 11) 4) 16,x3.E0,F2 2 (j7 (x3.I9+1)),0,x3.y9,x3.Frame,E3⟩:A2) 0) fun l9=>.R l9) (.R l8))))
def ap8 (f2:B5)(i:Int)(bad:Bool)(l:List Int):C prog (B5×Int):=.of Z call139 func139 [aA0 f2,.t (tI i),.t (tB bad),.t (tS aJ6 l)] (fun r=>.P7 [aA0 r.1,.t (tI r.2)]) (
 .K (Z0 f2) fun v=>.I (!v) (.R ((⟨([]:List u7),([]:List A2),0,false⟩:B5),1)) (.I ((decide (i<0))||(decide (i>=(f2.L.length:Int)))) (.R ((⟨([]:List u7),([]:List A2),0,false⟩:B5),2)) (.I (!f2.ax1) (.R ((⟨([]:List u7),([]:List A2),0,false⟩:B5),6)) (.O (.ix L9 f2.S8 i) fun x=>.K (ar9 x l) fun v2=>.I (!v2) (.R ((⟨([]:List u7),([]:List A2),0,false⟩:B5),1)) (.KG (ak9 f2) [2352] fun v3=>.D [] []<| .O (.ix F7 v3.L i) fun x2=>.O (.ix L9 v3.S8 i) fun x3=>.J0 0 (fun(t:List A2)=>[.x 29,.x 34,.x 44,.x 45,.x 46,.x 48,.x 49,.b 2352 (.rs 174 7 t F7)]) (.I bad (.D [] []<| .W (.ly 1)<| .U (.st F7 v3.L i ({x2 with E0:=F2 x3.bg2 (j7 ((G4 x2.E0 0)+1))}:A2) 1) fun l2=>.R l2) (.D [] []<| .W (.ly 1)<| .U (.st F7 v3.L i ({x2 with E0:=G4 (j7 (0-x3.Pass)) (j7 ((F2 x2.E0 0)-1))}:A2) 1) fun l3=>.R l3)) fun f3=>.A F7 f3 i fun x4=>.W (.ly 0)<| .I (x4.E0==x3.bg2) (.KG (aE7 f3 i x3 v3.aH2 l) [] fun v4=>.R (({v3 with L:=v4}:B5),0)) (.I (x4.E0==(j7 (0-x3.Pass))) (.W (.ly 0)<| .U (.st F7 f3 i ({x4 with F8:=U4 .i64 x4.F8 8}:A2) 0) fun l4=>.W (.ly 0)<| .U (.st F7 l4 i ({x4 with F8:=aO0 .i64 (U4 .i64 x4.F8 8) 1}:A2) 0) fun l5=>.R (({v3 with L:=l5}:B5),0)) (.R (({v3 with L:=f3}:B5),0))))))))
def bz2:C prog (List S5):=.of Z call140 func140 [] (fun r=>.t (tS ab9 r)) (
 .Z (.fr 1)<| .Z (.fr 3)<| .Z (.fr 5)<| .Z (.fr 7)<| .Z (.fr 9)<| .Z (.fr 11)<| .Z (.fr 13)<| .R ([(⟨(ByteArray.mk #[108,105,109,112]),0,2,([0]:List Int),600⟩:S5),(⟨(ByteArray.mk #[100,114,111,112]),0,2,([1,4]:List Int),1500⟩:S5),(⟨(ByteArray.mk #[115,116,111,112]),0,9,([5,6]:List Int),0⟩:S5),(⟨(ByteArray.mk #[112,114,101,115,115,117,114,101]),1,0,([1]:List Int),500⟩:S5),(⟨(ByteArray.mk #[97,105,114]),2,0,([2]:List Int),40⟩:S5),(⟨(ByteArray.mk #[99,111,111,108,97,110,116]),3,0,([3]:List Int),90⟩:S5),(⟨(ByteArray.mk #[112,114,111,98,101]),4,0,([4]:List Int),450⟩:S5)]:List S5))
def cx1 (s:ByteArray)(i:Int)(_:Unit):M prog Bool (Fl Unit Bool):=
 .O (.str s i) fun b2=>.G (decide (b2<33)) (.R true) (.O (.str s i) fun b3=>.R (decide (b3>126))) fun b4=>.I b4 (.R (.ret false)) (.R (.next ()))
def cY4 (s:ByteArray):C prog Bool:=.of Z call339 func339 [.t (.v (.string s))] (fun r=>.t (tB r)) (
 .I ((decide ((s.size:Int)<1))||(decide ((s.size:Int)>24))) (.R false) (M.QN (s.size:Int) 2 14 (fun(_:Unit)=>[]) 0 (.one .rt) (cx1 s) () (fun _=>.R true) (fun r2=>.R r2)))
def co0 (r2:S5)(bt4 i:Int)(_:Unit):M prog Bool (Fl Unit Bool):=
 .O (.ix aJ6 r2.ae8 i) fun x=>.G ((decide (x<0))||(decide (x>=bt4))) (.R true) (.G (decide (i>0)) (.O (.ix aJ6 r2.ae8 (j7 (i-1))) fun x2=>.R (decide (x<=x2))) (.R false) fun b2=>.R b2) fun b3=>.I b3 (.R (.ret false)) (.R (.next ()))
def cT0 (r2:S5)(bt4:Int):C prog Bool:=.of Z call288 func288 [cy6 r2,.t (tI bt4)] (fun r=>.t (tB r)) (
 .K (cY4 r2.Name) fun v=>.I (((((((((!v)||(decide (r2.cZ3<0)))||(decide (r2.cZ3>15)))||(decide (r2.E4<0)))||(decide (r2.E4>15)))||(decide ((r2.ae8.length:Int)<1)))||(decide ((r2.ae8.length:Int)>16)))||(decide (r2.ch5<(-5000))))||(decide (r2.ch5>10000))) (.R false) (M.QN (r2.ae8.length:Int) 2 56 (fun(_:Unit)=>[.x 7,.x 53]) 0 (.one .rt) (co0 r2 bt4) () (fun _=>.R true) (fun r3=>.R r3)))
def cn9 (bt4 _:Int)(x:S5)(f2:List (ByteArray×Bool)):M prog Bool (Fl (List (ByteArray×Bool)) Bool):=
 .W (.hx 0)<| .K (cT0 x bt4) fun v=>.G (!v) (.R true) (.Ml eJ5 f2 x.Name<| .R (cQ5 false f2 x.Name)) fun b2=>.I b2 (.R (.ret false)) (.Mu eJ5 f2 x.Name true<| .R (.next (dl6 f2 x.Name true)))
def aJ1 (l:List S5)(bt4:Int):C prog Bool:=.of Z call219 func219 [.t (tS ab9 l),.t (tI bt4)] (fun r=>.t (tB r)) (
 .I (((decide (bt4<0))||(decide (bt4>64)))||(decide ((l.length:Int)>64))) (.R false) (.Mm 2152<|M.Q ab9 l 2 22 (fun(t:List (ByteArray×Bool))=>[.x 19,.b 2152 (.mp (List.map (ent (fun s:ByteArray=>.string s) (fun v:Bool=>.bool v)) t))]) 0 (.one .rt) (cn9 bt4) ([]:List (ByteArray×Bool)) (fun _=>.R true) (fun r2=>.R r2)))
def bu8 (l:List S5)(f2:B5):C prog Bool:=.of Z call216 func216 [.t (tS ab9 l),aA0 f2] (fun r=>.t (tB r)) (
 .K (Z0 f2) fun v=>.G v (.K (aJ1 l (f2.L.length:Int)) fun v2=>.R v2) (.R false) fun b2=>.R b2)
def aD0 (holds:Cl prog Int Bool (fun x=>[.t (tI x)]) (fun r=>.t (tB r)))(_ x:Int)(out:List Int):M prog (List Int) (Fl (List Int) Empty):=
 .W (.hx 0)<| .K (holds.at x) fun v=>.I v (.U (.ap aJ6 out ([x]:List Int) 2168) fun l=>.R (.next l)) (.R (.next out))
def aN8 (r2:S5)(holds:Cl prog Int Bool (fun x=>[.t (tI x)]) (fun r=>.t (tB r))):C prog (List Int):=.of Z call286 func286 [cy6 r2,.fz holds.n holds.cs] (fun r=>.t (tS aJ6 r)) (
 .Z (.np 5 2168 3 1 [])<|M.Q aJ6 r2.ae8 2 11 (fun(t:List Int)=>[.t 5 (.own 2168),.x 2,.x 8,.b 2168 (.rs 3 1 t aJ6),.d 2]) 0 (.e) (aD0 holds) ([]:List Int) (fun dm3=>.R dm3) (fun t=>t.elim))
def ay2 (l:List S5)(holds:Cl prog Int Bool (fun x=>[.t (tI x)]) (fun r=>.t (tB r)))(i:Int)(out:List V9):M prog (List V9) (Fl (List V9) Empty):=
 .O (.ix ab9 l i) fun x=>.K (aN8 x holds) fun v=>.I (decide ((v.length:Int)>0)) (.U (.ap am7 out ([(⟨i,v⟩:V9)]:List V9) 2216) fun l2=>.R (.next l2)) (.R (.next out))
def aJ2 (l:List S5)(holds:Cl prog Int Bool (fun x=>[.t (tI x)]) (fun r=>.t (tB r))):C prog (List V9):=.of Z call217 func217 [.t (tS ab9 l),.fz holds.n holds.cs] (fun r=>.t (tS am7 r)) (
 .Z (.np 5 2216 106 2 [])<|M.QN (l.length:Int) 2 11 (fun(t:List V9)=>[.t 5 (.own 2216),.b 2216 (.rs 106 2 t am7)]) 0 (.e) (ay2 l holds) ([]:List V9) (fun dm3=>.R dm3) (fun t=>t.elim))
def bo1 (f2:B5)(but:Int):C prog (Int×B5):=.of Z call218 func218 [aA0 f2,.t (tI but)] (fun r=>.fz 287 [aJ6 r.1,aQ8 r.2]) (
 .Z (.fb 3)<| .Z (.fb 2)<| .R (but,f2))
def aF6 (i c:Int)(c2:B5):C prog Bool:=.of Z call287 func287 [.t (tI i),.el (aJ6 c),.el (aQ8 c2)] (fun r=>.t (tB r)) (
 .G (i !=c) (.O (.ix F7 c2.L i) fun x=>.R ((N2 .i64 x.F8 5) !=0)) (.R false) fun b2=>.R b2)
def aN7 (l:List S5)(f2:B5):C prog (List V9×Int):=.of Z call141 func141 [.t (tS ab9 l),aA0 f2] (fun r=>.P7 [.t (tS am7 r.1),.t (tI r.2)]) (
 .K (bu8 l f2) fun v=>.I (!v) (.R (([]:List V9),1)) (.K (bo1 f2 (-1)) fun v2=>.K (aJ2 l (.of (fun z_=>aF6 z_ v2.1 v2.2) 287 [aJ6 v2.1,aQ8 v2.2])) fun v3=>.R (v3,0)))
def aP6 (s:List V9)(f2:Cl prog V9 Bool (fun x=>[bV0 x]) (fun r=>.t (tB r)))(i:Int)(_:Unit):M prog Int (Fl Unit Int):=
 .O (.ix am7 s i) fun x=>.K (f2.at x) fun v=>.I v (.R (.ret i)) (.R (.next ()))
def aY2 (s:List V9)(f2:Cl prog V9 Bool (fun x=>[bV0 x]) (fun r=>.t (tB r))):C prog Int:=.of Z call40 func40 [.t (tS am7 s),.fz f2.n f2.cs] (fun r=>.t (tI r)) (
 M.QN (s.length:Int) 2 8 (fun(_:Unit)=>[]) 0 (.one .rt) (aP6 s f2) () (fun _=>.R (-1)) (fun r2=>.R r2))
def ay8 (s:List V9)(f2:Cl prog V9 Bool (fun x=>[bV0 x]) (fun r=>.t (tB r))):C prog Bool:=.of Z call14 func14 [.t (tS am7 s),.fz f2.n f2.cs] (fun r=>.t (tB r)) (
 .K (aY2 s f2) fun v=>.R (decide (v>=0)))
def bi7 (x:V9)(c:List S5):C prog Bool:=.of Z call220 func220 [bV0 x,.el ((do4 ab9) c)] (fun r=>.t (tB r)) (
 .R ((decide (x.T2<0))||(decide (x.T2>=(c.length:Int)))))
def bf2 (l:List S5)(group _:Int)(x:V9)(s:Int×Int):M prog (Int×Int) (Fl (Int×Int) Empty):=
 .W (.hx 0)<| .O (.ix ab9 l x.T2) fun x2=>.I ((x2.cZ3 !=group)||(decide (x2.E4<s.2))) (.R (.next (s.1,s.2))) (.I (decide (x2.E4>s.2)) (.D [] []<| .R (.next (F2 x2.ch5 x2.ch5,x2.E4))) (.R (.next (F2 s.1 x2.ch5,s.2))))
def bu7 (l:List S5)(a:List V9)(group other:Int):C prog (Int×Int):=.of Z call143 func143 [.t (tS ab9 l),.t (tS am7 a),.t (tI group),.t (tI other)] (fun r=>.P7 [.t (tI r.1),.t (tI r.2)]) (
 .K (aJ1 l 64) fun v=>.Z (.fb 4)<| .G ((!v)||(decide ((a.length:Int)>64))) (.R true) (.K (ay8 a (.of (fun z_=>bi7 z_ l) 220 [(do4 ab9) l])) fun v2=>.R v2) fun b2=>.I b2 (.R (0,1)) (.I ((decide (group<0))||(decide (group>15))) (.R (0,2)) (M.Q am7 a 2 37 (fun(t:Int×Int)=>[.t 10 (.t (tI t.1)),.t 11 (.t (tI t.2))]) 0 (.e) (bf2 l group) (other,(-1)) (fun s2=>.R (s2.1,0)) (fun t=>t.elim))))
def ar7 (n2 other:Int)(c:List S5)(c2:j8):CG prog Int:=.of Z call142 func142 [.t (tI n2),.t (tI other),.el ((do4 ab9) c),.ptr 1000000 0] [(1000000,.box [.ptr 1000001 0]),(1000001,.box (av2 (G2 c2) [(107,.own 1000002),(113,.own 1000003)])),(1000002,.rs 267 7 c2.E6.N9 B1),(1000003,.rs 95 3 c2.u9 p7)] (fun r=>.t (tI r)) (fun _=>[(1000000,.box [.ptr 1000001 0]),(1000001,.box (av2 (G2 c2) [(107,.own 1000002),(113,.own 1000003)])),(1000002,.rs 267 7 c2.E6.N9 B1),(1000003,.rs 95 3 c2.u9 p7)]) [] (
 .D [] []<| .K (bu7 c c2.Y6 n2 other) fun r2=>.R r2.1)
set_option maxHeartbeats 4000000
def bd5 (R8:B5)(e2:Int)(c:B5):C prog B5:=.of Z call214 func214 [aA0 R8,.t (tI e2),.el (aQ8 c)] (fun r=>aA0 r) (
 .I (e2 !=0) (.R c) (.R R8))
def aT3 (s:j8)(v:(Bool×Bool×Bool×Bool×Bool×Bool×Bool))(s2:Int×B5):M prog j8 ((Int×B5)⊕((Int×B5)⊕Empty)):=
 .I (decide (s2.1<7)) (.O (.arr (fun y=>.t (tB y)) ([v.1,v.2.1,v.2.2.1,v.2.2.2.1,v.2.2.2.2.1,v.2.2.2.2.2.1,v.2.2.2.2.2.2]:List Bool) s2.1) fun x=>.O (.ix L9 s2.2.S8 s2.1) fun x2=>.Mk aJ6 x2.Frame 0 fun l=>.D [] []<| .K (D2 ({s with u:=(⟨s.u.u6,s.u.u3,s.u.j3,s.u.Q0,s.u.M5,s.u.H6,s.u.M4,s.u.K8,s.u.L5,s2.2,s.u.A7,s.u.aa4,s.u.Time⟩:ae5)}:j8) 2) fun v2=>.U (.cp aJ6 l ([s.o7,v2]:List Int)) fun l2=>.Z (.fr 23)<| .D [] []<| .K (bL3 s2.2) fun v3=>.K (ap8 s2.2 s2.1 x l2) fun r2=>.K (bd5 r2.1 r2.2 v3) fun v4=>.R (.inl (j7 (s2.1+1),v4))) (.R (.inr (.inl (s2.1,s2.2))))
def bj6 (s:j8):CG prog j8:=.of Z call80 func80 [.ptr 1000000 0] [(1000000,.box (av2 (G2 s) [(107,.own 1000001),(113,.own 1000002)])),(1000001,.rs 267 7 s.E6.N9 B1),(1000002,.rs 95 3 s.u9 p7)] (fun _=>.P7 []) (fun r=>[(1000000,.box (av2 (G2 r) [(107,.own 1000001),(113,.own 1000002)])),(1000001,.rs 267 7 r.E6.N9 B1),(1000002,.rs 95 3 r.u9 p7)]) [] (
 .K (bH7 s) fun v=>.L (fun(t:Int×B5)=>[.t 9 (.t (tI t.1)),.x 0,.x 7,.c 1000000 74 [.t (tS L9 t.2.S8),.t (tS F7 t.2.L),.t (tI t.2.aH2),.t (tB t.2.ax1)]]) 0 (.e) (aT3 s v) (0,s.u.H4) (fun s3=>.K (bz2) fun v5=>.D [] [(13,1000000)]<| .K (aN7 v5 s3.2) fun r3=>.Z (.fb 5)<| .D [] []<| .KG (ar7 0 10000 v5 ({s with u:=(⟨s.u.u6,s.u.u3,s.u.j3,s.u.Q0,s.u.M5,s.u.H6,s.u.M4,s.u.K8,s.u.L5,s3.2,s.u.A7,s.u.aa4,s.u.Time⟩:ae5),Y6:=r3.1}:j8)) [] fun v6=>.D [] []<| .K (D2 ({s with u:=(⟨s.u.u6,s.u.u3,s.u.j3,s.u.Q0,s.u.M5,s.u.H6,s.u.M4,s.u.K8,s.u.L5,s3.2,s.u.A7,s.u.aa4,s.u.Time⟩:ae5),Y6:=r3.1,at4:=v6}:j8) 2) fun v7=>.KG (ar7 1 v7 v5 ({s with u:=(⟨s.u.u6,s.u.u3,s.u.j3,s.u.Q0,s.u.M5,s.u.H6,s.u.M4,s.u.K8,s.u.L5,s3.2,s.u.A7,s.u.aa4,s.u.Time⟩:ae5),Y6:=r3.1,at4:=v6}:j8)) [] fun v8=>.K (C4 v8 50 1013) fun v9=>.D [] []<| .K (D2 ({s with u:=(⟨s.u.u6,s.u.u3,s.u.j3,s.u.Q0,s.u.M5,s.u.H6,s.u.M4,s.u.K8,s.u.L5,s3.2,s.u.A7,s.u.aa4,s.u.Time⟩:ae5),Y6:=r3.1,at4:=v6,B9:=v9}:j8) 3) fun v10=>.KG (ar7 2 v10 v5 ({s with u:=(⟨s.u.u6,s.u.u3,s.u.j3,s.u.Q0,s.u.M5,s.u.H6,s.u.M4,s.u.K8,s.u.L5,s3.2,s.u.A7,s.u.aa4,s.u.Time⟩:ae5),Y6:=r3.1,at4:=v6,B9:=v9}:j8)) [] fun v11=>.K (C4 v11 (-40) 150) fun v12=>.D [] []<| .K (D2 ({s with u:=(⟨s.u.u6,s.u.u3,s.u.j3,s.u.Q0,s.u.M5,s.u.H6,s.u.M4,s.u.K8,s.u.L5,s3.2,s.u.A7,s.u.aa4,s.u.Time⟩:ae5),Y6:=r3.1,at4:=v6,B9:=v9,aP8:=v12}:j8) 4) fun v13=>.KG (ar7 3 v13 v5 ({s with u:=(⟨s.u.u6,s.u.u3,s.u.j3,s.u.Q0,s.u.M5,s.u.H6,s.u.M4,s.u.K8,s.u.L5,s3.2,s.u.A7,s.u.aa4,s.u.Time⟩:ae5),Y6:=r3.1,at4:=v6,B9:=v9,aP8:=v12}:j8)) [] fun v14=>.K (C4 v14 (-40) 150) fun v15=>.D [] []<| .K (D2 ({s with u:=(⟨s.u.u6,s.u.u3,s.u.j3,s.u.Q0,s.u.M5,s.u.H6,s.u.M4,s.u.K8,s.u.L5,s3.2,s.u.A7,s.u.aa4,s.u.Time⟩:ae5),Y6:=r3.1,at4:=v6,B9:=v9,aP8:=v12,D3:=v15}:j8) 5) fun v16=>.KG (ar7 4 v16 v5 ({s with u:=(⟨s.u.u6,s.u.u3,s.u.j3,s.u.Q0,s.u.M5,s.u.H6,s.u.M4,s.u.K8,s.u.L5,s3.2,s.u.A7,s.u.aa4,s.u.Time⟩:ae5),Y6:=r3.1,at4:=v6,B9:=v9,aP8:=v12,D3:=v15}:j8)) [] fun v17=>.K (C4 v17 0 20000) fun v18=>.R ({s with u:=(⟨s.u.u6,s.u.u3,s.u.j3,s.u.Q0,s.u.M5,s.u.H6,s.u.M4,s.u.K8,s.u.L5,s3.2,s.u.A7,s.u.aa4,s.u.Time⟩:ae5),Y6:=r3.1,at4:=v6,B9:=v9,aP8:=v12,D3:=v15,aJ0:=v18}:j8)) (fun t=>t.elim))
def bh6 (s:j8):C prog j2:=.of Z call145 func145 [.el (bj8 s)] (fun r=>G5 r) (
 .R (⟨9,1,s.at4,15⟩:j2))
def ab2 (s:List j2)(f2:Cl prog j2 Bool (fun x=>[G5 x]) (fun r=>.t (tB r)))(i:Int)(_:Unit):M prog Int (Fl Unit Int):=
 .O (.ix C6 s i) fun x=>.K (f2.at x) fun v=>.I v (.R (.ret i)) (.R (.next ()))
def U5 (s:List j2)(f2:Cl prog j2 Bool (fun x=>[G5 x]) (fun r=>.t (tB r))):C prog Int:=.of Z call313 func313 [.t (tS C6 s),.fz f2.n f2.cs] (fun r=>.t (tI r)) (
 M.QN (s.length:Int) 2 8 (fun(_:Unit)=>[]) 0 (.one .rt) (ab2 s f2) () (fun _=>.R (-1)) (fun r2=>.R r2))
def D5 (s:List j2)(f2:Cl prog j2 Bool (fun x=>[G5 x]) (fun r=>.t (tB r))):C prog Bool:=.of Z call231 func231 [.t (tS C6 s),.fz f2.n f2.cs] (fun r=>.t (tB r)) (
 .K (U5 s f2) fun v=>.R (decide (v>=0)))
def O9 (t2:Int):C prog Bool:=.of Z call314 func314 [.t (tI t2)] (fun r=>.t (tB r)) (
 .R ((decide (t2>=(-5000)))&&(decide (t2<=10000))))
def R9 (r2:j2):C prog Bool:=.of Z call233 func233 [G5 r2] (fun r=>.t (tB r)) (
 .G ((((decide (r2.N1<0))||(decide (r2.N1>15)))||(decide (r2.E4<0)))||(decide (r2.E4>15))) (.R true) (.K (O9 r2.o8) fun v=>.R (!v)) fun b2=>.I b2 (.R false) (.R ((r2.Kind==1)||((decide (r2.N1<=1))&&((r2.Kind==2)||(r2.Kind==3))))))
def ag9 (r2:j2):C prog Bool:=.of Z call289 func289 [G5 r2] (fun r=>.t (tB r)) (
 .K (R9 r2) fun v=>.R (!v))
def au8 (i:W4)(B2:Int):C prog Bool:=.of Z call221 func221 [cZ1 i,.t (tI B2)] (fun r=>.t (tB r)) (
 .K (J1 B2 1 8) fun v=>.I (((!v)||((i.X0.length:Int) !=B2))||(decide ((i.Requests.length:Int)>30))) (.R false) (.K (J1 i.D1 0 12000) fun v2=>.G v2 (.K (J1 i.K9 50 3000) fun v3=>.R v3) (.R false) fun b2=>.G b2 (.K (J1 i.L3 (-40) 150) fun v4=>.R v4) (.R false) fun b3=>.G b3 (.K (J1 i.au3 (-40) 150) fun v5=>.R v5) (.R false) fun b4=>.G b4 (.K (J1 i.aH9 0 20000) fun v6=>.R v6) (.R false) fun b5=>.G b5 (.K (J1 i.Lambda 0 20000) fun v7=>.R v7) (.R false) fun b6=>.G b6 (.K (af4 i.X0 0 4095) fun v8=>.R v8) (.R false) fun b7=>.G b7 (.K (D5 i.Requests (.of (fun z_=>ag9 z_) 289 [])) fun v9=>.R (!v9)) (.R false) fun b8=>.R b8))
def ai8 (n2:Int):C prog Bool:=.of Z call229 func229 [.t (tI n2)] (fun r=>.t (tB r)) (
 .R ((decide (n2>=0))&&(decide (n2<=12000))))
def aw3 (D3:Int):C prog Int:=.of Z call294 func294 [.t (tI D3)] (fun r=>.t (tI r)) (
 .I (decide (D3<=(-20))) (.R 1200) (.I (decide (D3>=70)) (.R 800) (.R (j7 (1200-(j7 (db0 (j7 (400*(j7 (D3+20)))) 90)))))))
def bb5 (o7 D3:Int):C prog Bool:=.of Z call230 func230 [.t (tI o7),.t (tI D3)] (fun r=>.t (tB r)) (
 .K (aw3 D3) fun v=>.R (decide (o7<(j7 (v+300)))))
def aw2 (be9 o7 D3:Int):C prog Bool:=.of Z call149 func149 [.t (tI be9),.t (tI o7),.t (tI D3)] (fun r=>.t (tB r)) (
 .G ((decide (be9>=0))&&(decide (be9<20))) (.K (ai8 o7) fun v=>.R v) (.R false) fun b2=>.G b2 (.K (bb5 o7 D3) fun v2=>.R v2) (.R false) fun b3=>.R b3)
def aL8 (p2:U2)(first second:Int):C prog (U2×Int):=.of Z call290 func290 [ch2 p2,.t (tI first),.t (tI second)] (fun r=>.P7 [ch2 r.1,.t (tI r.2)]) (
 .K (aw9 p2) fun v=>.I (!v) (.R ((⟨0,0,false⟩:U2),1)) (.K (C4 first 0 1000) fun v2=>.K (C4 second 0 500) fun v3=>.J0 0 (fun(t:Int)=>[.c 11 1 [.t (tI t)]]) (.I (decide ((G4 (j7 (v2-(j7 (2*v3)))) (j7 ((j7 (2*v3))-v2)))>50)) (.R (F2 3 (j7 (p2.ae9+1)))) (.I (!p2.aQ1) (.R 0) (.R p2.ae9))) fun f2=>.I (f2==3) (.R ((⟨F2 (F2 v2 (j7 (2*v3))) 200,f2,(f2==3)⟩:U2),0)) (.I (decide ((G4 (j7 (v2-(j7 (2*v3)))) (j7 ((j7 (2*v3))-v2)))>50)) (.R ((⟨F2 (F2 v2 (j7 (2*v3))) p2.Value,f2,(f2==3)⟩:U2),0)) (.R ((⟨v2,f2,(f2==3)⟩:U2),0)))))
def u5 (s:k6)(e2:Int):CG prog k6:=.of Z call291 func291 [.ptr 1000000 0,.t (tI e2)] [(1000000,.box (av2 (Q4 s) [(63,.own 1000001)])),(1000001,.rs 267 7 s.out.N9 B1)] (fun _=>.P7 []) (fun r=>[(1000000,.box (av2 (Q4 r) [(63,.own 1000001)])),(1000001,.rs 267 7 r.out.N9 B1)]) [] (
 .I (s.fail==0) (.R ({s with fail:=e2}:k6)) (.R s))
def ab3 (f2:Cl prog Int Bool (fun x=>[.t (tI x)]) (fun r=>.t (tB r)))(s:Int×Int):M prog Int ((Int×Int)⊕((Int×Int)⊕Empty)):=
 .I (decide (s.1<s.2)) (.K (f2.at (j7 (D0 .u64 (aW6.wrap (j7 (s.1+s.2))) 1))) fun v=>.I (!v) (.R (.inl (j7 ((j7 (D0 .u64 (aW6.wrap (j7 (s.1+s.2))) 1))+1),s.2))) (.R (.inl (s.1,j7 (D0 .u64 (aW6.wrap (j7 (s.1+s.2))) 1))))) (.R (.inr (.inl (s.1,s.2))))
def P6 (n2:Int)(f2:Cl prog Int Bool (fun x=>[.t (tI x)]) (fun r=>.t (tB r))):C prog Int:=.of Z call343 func343 [.t (tI n2),.fz f2.n f2.cs] (fun r=>.t (tI r)) (
 .L (fun(t:Int×Int)=>[.t 5 (.t (tI t.1)),.t 6 (.t (tI t.2))]) 0 (.e) (ab3 f2) (0,n2) (fun s2=>.R s2.1) (fun t=>t.elim))
def ae2 (i:Int)(c:List Int)(c2:Int):C prog Bool:=.of Z call413 func413 [.t (tI i),.el ((do4 aJ6) c),.el (aJ6 c2)] (fun r=>.t (tB r)) (
 .D [] []<| .O (.ix aJ6 c i) fun x=>.R (decide (x>c2)))
def W8 (l:List Int)(x:Int):C prog (Int×Int):=.of Z call391 func391 [.t (tS aJ6 l),.t (tI x)] (fun r=>.P7 [.t (tI r.1),.t (tI r.2)]) (
 .D [] []<| .O (.ix aJ6 l 0) fun x2=>.O (.ix aJ6 l (j7 ((l.length:Int)-1))) fun x3=>.K (C4 x x2 x3) fun v=>.Z (.fb 2)<| .Z (.fb 3)<| .K (P6 (l.length:Int) (.of (fun z_=>ae2 z_ l v) 413 [(do4 aJ6) l,aJ6 v])) fun v2=>.D [] []<| .R (F2 (j7 (v2-1)) (j7 ((l.length:Int)-2)),v))
def as1 (x y:Int):C prog (Int×Int):=⟨279,[.t (tK .u64 x),.t (tK .u64 y)],cv9 x y,fun _=>cv9 x y,fun r=>.P7 [.t (tK .u64 r.1),.t (tK .u64 r.2)],bm1 x y,fun _ _ h=>h⟩
def U6 (n2:Int):C prog Int:=.of Z call395 func395 [.t (tI n2)] (fun r=>.t (tK .u64 r)) (
 .I (decide (n2<0)) (.R (aW6.wrap ((aW6.wrap (j7 (0-(j7 (n2+1)))))+1))) (.R (aW6.wrap n2)))
def bZ4:Go.Shelf.Ren:=⟨fun|129=>433|n=>n,fun|3=>3|4=>4|5=>5|9=>9|46=>317|53=>386|n=>n,fun|n=>n⟩
open Go.Shelf in
theorem dX7:Lays.n129 prog bZ4:={
 mixed:=by kernel_rfl,
 f129:=func433.trans (congrArg some (by kernel_rfl)),
 t3:=Tryz.underlying3,
 a3:=Tryz.isAgg3,
 z3:=Tryz.sizeOf3,
 v3:=Tryz.zeroValue3,
 t4:=Tryz.underlying4,
 a4:=Tryz.isAgg4,
 z4:=Tryz.sizeOf4,
 v4:=Tryz.zeroValue4,
 t5:=Tryz.underlying5,
 a5:=Tryz.isAgg5,
 z5:=Tryz.sizeOf5,
 v5:=Tryz.zeroValue5,
 t9:=Tryz.underlying9,
 a9:=Tryz.isAgg9,
 z9:=Tryz.sizeOf9,
 v9:=Tryz.zeroValue9,
 t46:=Tryz.underlying317,
 a46:=Tryz.isAgg317,
 z46:=Tryz.sizeOf317,
 v46:=Tryz.zeroValue317,
 t53:=Tryz.underlying386,
 a53:=Tryz.isAgg386,
 z53:=Tryz.sizeOf386,
 v53:=Tryz.zeroValue386}
theorem bY6 (x:Int):aQ3 prog 433 [.t (tK .u64 x)] (cv5 x) (fun r=>.t (tI r)):=
 dX8 (ρ:=bZ4) dX7 call433 x
def aN5 (x:Int):C prog Int:=⟨433,[.t (tK .u64 x)],cv5 x,fun _=>cv5 x,fun r=>.t (tI r),bY6 x,fun _ _ h=>h⟩
def V7 (x:Int):C prog Int:=.of Z call415 func415 [.t (tK .u64 x)] (fun r=>.t (tI r)) (
 .K (aN5 x) fun v=>.R (j7 (64-v)))
def aC7 (q3 q6:Int)(s3:Int×Int):M prog (Int×Int) ((Int×Int)⊕((Int×Int)⊕Empty)):=
 .I ((decide (s3.1>=4294967296))||(decide ((aW6.wrap (s3.1*(N2 .u64 q3 4294967295)))>(aW6.wrap ((aW6.wrap (4294967296*s3.2))+(D0 .u64 q6 32)))))) (.I (decide ((aW6.wrap (s3.2+(D0 .u64 q3 32)))>=4294967296)) (.R (.inr (.inl (aW6.wrap (s3.1-1),aW6.wrap (s3.2+(D0 .u64 q3 32)))))) (.R (.inl (aW6.wrap (s3.1-1),aW6.wrap (s3.2+(D0 .u64 q3 32)))))) (.R (.inr (.inl (s3.1,s3.2))))
def aC8 (q3 q6:Int)(s5:Int×Int):M prog (Int×Int) ((Int×Int)⊕((Int×Int)⊕Empty)):=
 .I ((decide (s5.2>=4294967296))||(decide ((aW6.wrap (s5.2*(N2 .u64 q3 4294967295)))>(aW6.wrap ((aW6.wrap (4294967296*s5.1))+(N2 .u64 q6 4294967295)))))) (.I (decide ((aW6.wrap (s5.1+(D0 .u64 q3 32)))>=4294967296)) (.R (.inr (.inl (aW6.wrap (s5.1+(D0 .u64 q3 32)),aW6.wrap (s5.2-1))))) (.R (.inl (aW6.wrap (s5.1+(D0 .u64 q3 32)),aW6.wrap (s5.2-1))))) (.R (.inr (.inl (s5.1,s5.2))))
def al0 (hi lo y:Int):C prog (Int×Int):=.of Z call396 func396 [.t (tK .u64 hi),.t (tK .u64 lo),.t (tK .u64 y)] (fun r=>.P7 [.t (tK .u64 r.1),.t (tK .u64 r.2)]) (
 .J0 0 (fun(_:Unit)=>[]) (.I (y==0) (M.N) (.R ())) fun _=>.J0 0 (fun(_:Unit)=>[]) (.I (decide (y<=hi)) (M.N) (.R ())) fun _=>.I (hi==0) (.D [] []<| .O (.quo .u64 lo y) fun q=>.O (.rem lo y) fun q2=>.R (q,q2)) (.K (V7 y) fun v=>.O (.shl .u64 y (aW6.wrap v)) fun q3=>.O (.shl .u64 hi (aW6.wrap v)) fun q4=>.O (.shr .u64 lo (aW6.wrap (64-(aW6.wrap v)))) fun q5=>.O (.shl .u64 lo (aW6.wrap v)) fun q6=>.O (.quo .u64 (U4 .u64 q4 q5) (D0 .u64 q3 32)) fun q7=>.L (fun(t:Int×Int)=>[.t 15 (.t (tK .u64 t.1)),.t 16 (.t (tK .u64 t.2))]) 0 (.e) (aC7 q3 q6) (q7,aW6.wrap ((U4 .u64 q4 q5)-(aW6.wrap (q7*(D0 .u64 q3 32))))) (fun s4=>.O (.quo .u64 (aW6.wrap ((aW6.wrap ((aW6.wrap ((U4 .u64 q4 q5)*4294967296))+(D0 .u64 q6 32)))-(aW6.wrap (s4.1*q3)))) (D0 .u64 q3 32)) fun q8=>.L (fun(t:Int×Int)=>[.t 16 (.t (tK .u64 t.1)),.t 18 (.t (tK .u64 t.2))]) 2 (.e) (aC8 q3 q6) (aW6.wrap ((aW6.wrap ((aW6.wrap ((aW6.wrap ((U4 .u64 q4 q5)*4294967296))+(D0 .u64 q6 32)))-(aW6.wrap (s4.1*q3))))-(aW6.wrap (q8*(D0 .u64 q3 32)))),q8) (fun s6=>.O (.shr .u64 (aW6.wrap ((aW6.wrap ((aW6.wrap ((aW6.wrap ((aW6.wrap ((aW6.wrap ((U4 .u64 q4 q5)*4294967296))+(D0 .u64 q6 32)))-(aW6.wrap (s4.1*q3))))*4294967296))+(N2 .u64 q6 4294967295)))-(aW6.wrap (s6.2*q3)))) (aW6.wrap v)) fun q9=>.R (aW6.wrap ((aW6.wrap (s4.1*4294967296))+s6.2),q9)) (fun t=>t.elim)) (fun t=>t.elim)))
def aj7 (r2 c:Int)(negative:Bool)(mode:Int):C prog Bool:=.of Z call397 func397 [.t (tK .u64 r2),.t (tK .u64 c),.t (tB negative),.t (tI mode)] (fun r=>.t (tB r)) (
 .I (mode==1) (.R (negative&&(decide (r2>0)))) (.I (mode==2) (.R ((!negative)&&(decide (r2>0)))) (.I negative (.R (decide (r2>(aW6.wrap (c-r2))))) (.R (decide (r2>=(aW6.wrap (c-r2))))))))
def ay3 (a b2 c mode:Int):C prog (Int×Int):=.of Z call367 func367 [.t (tI a),.t (tI b2),.t (tI c),.t (tI mode)] (fun r=>.P7 [.t (tI r.1),.t (tI r.2)]) (
 .I ((decide (mode<1))||(decide (mode>3))) (.R (0,1)) (.I (c==0) (.R (0,10)) (.K (U6 a) fun v=>.K (U6 b2) fun v2=>.K (as1 v v2) fun r2=>.K (U6 c) fun v3=>.I (decide (r2.1>=v3)) (.R (0,9)) (.K (al0 r2.1 r2.2 v3) fun r3=>.I (decide (r3.1>9223372036854775808)) (.R (0,9)) (.K (aj7 r3.2 v3 (!((!((decide (a<0))==(decide (b2<0))))==(decide (c<0)))) mode) fun v4=>.J0 0 (fun(t:Int)=>[.t 14 (.t (tK .u64 t))]) (.I v4 (.R (aW6.wrap (r3.1+1))) (.R r3.1)) fun q=>.I ((!((!((decide (a<0))==(decide (b2<0))))==(decide (c<0))))&&(decide (q<=9223372036854775808))) (.R (j7 ((j7 (0-(j7 (aW6.wrap (q-1)))))-1),0)) (.I ((!(!((!((decide (a<0))==(decide (b2<0))))==(decide (c<0)))))&&(decide (q<9223372036854775808))) (.R (j7 q,0)) (.R (0,9))))))))
def am4 (a b2 mode:Int):C prog (Int×Int):=.of Z call324 func324 [.t (tI a),.t (tI b2),.t (tI mode)] (fun r=>.P7 [.t (tI r.1),.t (tI r.2)]) (
 .K (ay3 a 1 b2 mode) fun r2=>.R (r2.1,r2.2))
def V1 (a b2:Int):C prog Int:=.of Z call261 func261 [.t (tI a),.t (tI b2)] (fun r=>.t (tI r)) (
 .K (am4 a b2 1) fun r2=>.R r2.1)
def ab4 (x0 x1 y0 y1 x:Int):C prog Int:=.of Z call393 func393 [.t (tI x0),.t (tI x1),.t (tI y0),.t (tI y1),.t (tI x)] (fun r=>.t (tI r)) (
 .K (V1 (j7 ((j7 (x-x0))*(j7 (y1-y0)))) (j7 (x1-x0))) fun v=>.R (j7 (y0+v)))
def ar1 (j:Int)(c:SMap)(c2 c3:Int):C prog Int:=.of Z call392 func392 [.t (tI j),.el (cO1 c),.el (aJ6 c2),.el (aJ6 c3)] (fun r=>.t (tI r)) (
 .D [] []<| .O (.ix aJ6 c.X c2) fun x=>.O (.ix aJ6 c.X (j7 (c2+1))) fun x2=>.O (.ix (do4 aJ6) c.Z c2) fun x3=>.O (.ix aJ6 x3 j) fun x4=>.O (.ix (do4 aJ6) c.Z (j7 (c2+1))) fun x5=>.O (.ix aJ6 x5 j) fun x6=>.K (ab4 x x2 x4 x6 c3) fun v=>.R v)
def aM5 (m2:SMap)(x y:Int):C prog Int:=.of Z call365 func365 [dh2 m2,.t (tI x),.t (tI y)] (fun r=>.t (tI r)) (
 .K (W8 m2.X x) fun r2=>.K (W8 m2.Y y) fun r3=>.Z (.fb 3)<| .Z (.fb 7)<| .Z (.fb 4)<| .D [] []<| .O (.ix aJ6 m2.Y r3.1) fun x2=>.O (.ix aJ6 m2.Y (j7 (r3.1+1))) fun x3=>.K (ar1 r3.1 m2 r2.1 r2.2) fun v=>.K (ar1 (j7 (r3.1+1)) m2 r2.1 r2.2) fun v2=>.K (ab4 x2 x3 v v2 r3.2) fun v3=>.R v3)
def X8 (m2:SMap)(x y:Int):C prog Int:=.of Z call316 func316 [dh2 m2,.t (tI x),.t (tI y)] (fun r=>.t (tI r)) (
 .K (I8 m2) fun v=>.I (!v) (.R 0) (.K (aM5 m2 x y) fun v2=>.R v2))
def aL9 (t2:o6)(value o7:Int):C prog (Int×Int):=.of Z call292 func292 [S4 t2,.t (tI value),.t (tI o7)] (fun r=>.P7 [.t (tI r.1),.t (tI r.2)]) (
 .K (I8 t2.aH5) fun v=>.I (!v) (.R (0,1)) (.I ((((decide (value<0))||(decide (value>1000)))||(decide (o7<0)))||(decide (o7>12000))) (.R (0,2)) (.K (X8 t2.aH5 o7 value) fun v2=>.K (C4 v2 (-5000) 10000) fun v3=>.R (v3,0))))
def ap9 (s:F4)(g:aV0)(e2:Int):C prog (F4×Int×Int):=.of Z call340 func340 [bw4 s,dh1 g,.t (tI e2)] (fun r=>.P7 [bw4 r.1,.t (tI r.2.1),.t (tI r.2.2)]) (
 .K (Q1 g) fun v=>.I (((!v)||(decide (s.Sum<(-4398046511104))))||(decide (s.Sum>4398046511104))) (.R ((⟨0⟩:F4),0,1)) (.I ((decide (e2<(-1048576)))||(decide (e2>1048576))) (.R ((⟨0⟩:F4),0,2)) (.J0 0 (fun(t:Int)=>[.x 33,.x 37,.x 42,.b 3 (.box [.t (tI t)])]) (.I (((decide ((D0 .i64 (j7 ((j7 (g.P*e2))+s.Sum)) 10)<=g.bn0))||(decide (e2<=0)))&&((decide ((D0 .i64 (j7 ((j7 (g.P*e2))+s.Sum)) 10)>=g.Low))||(decide (e2>=0)))) (.K (C4 (j7 (s.Sum+(j7 (g.I*e2)))) (-4398046511104) 4398046511104) fun v2=>.R v2) (.R s.Sum)) fun f2=>.D [] []<| .K (C4 (D0 .i64 (j7 ((j7 (g.P*e2))+s.Sum)) 10) g.Low g.bn0) fun v3=>.R ((⟨f2⟩:F4),v3,0))))
def aE0 (s:F4)(g:aV0)(target o7:Int):C prog (F4×Int×Int):=.of Z call293 func293 [bw4 s,dh1 g,.t (tI target),.t (tI o7)] (fun r=>.P7 [bw4 r.1,.t (tI r.2.1),.t (tI r.2.2)]) (
 .K (Q1 g) fun v=>.I (!v) (.R ((⟨0⟩:F4),0,1)) (.K (ai8 target) fun v2=>.G (!v2) (.R true) (.K (ai8 o7) fun v3=>.R (!v3)) fun b2=>.I b2 (.R ((⟨0⟩:F4),0,2)) (.K (ap9 s g (j7 (target-o7))) fun r2=>.R (r2.1,r2.2.1,r2.2.2))))
def ag8 (r2:j2):C prog Bool:=.of Z call379 func379 [G5 r2] (fun r=>.t (tB r)) (
 .K (R9 r2) fun v=>.R (!v))
def au7 (l:List j2)(low high:Int):C prog Int:=.of Z call341 func341 [.t (tS C6 l),.t (tI low),.t (tI high)] (fun r=>.t (tI r)) (
 .K (D5 l (.of (fun z_=>ag8 z_) 379 [])) fun v=>.I v (.R 1) (.I (decide ((l.length:Int)>32)) (.R 5) (.K (O9 low) fun v2=>.G (!v2) (.R true) (.K (O9 high) fun v3=>.R (!v3)) fun b2=>.I (b2||(decide (low>high))) (.R 2) (.R 0))))
def W3 (s:List j2):CG prog (List j2):=.of Z call380 func380 [.t (tS C6 s)] [] (fun _=>.own 900000) (fun r=>[(900000,.rs 250 4 r C6)]) [900000] (
 .Nl C6 s (.I true (.Z (.np 2 70000 250 4 [])<| .R ([]:List j2)) .N) (fun s=>.I false .N (.U (.ap C6 ([]:List j2) s 5) fun l=>.R l)))
def P5 (a:Int)(cmp:Cl prog (j2×j2) Int (fun x=>[G5 x.1,G5 x.2]) (fun r=>.t (tI r)))(s2:Int×List j2):M prog (List j2) ((Int×List j2)⊕((Int×List j2)⊕Empty)):=
 .J0 1 (fun(t:Bool)=>[.t 34 (.t (tB t))]) (.D [] []<| .Sp (decide (s2.1>a)) (.O (.ix C6 s2.2 s2.1) fun x=>.W (.ly 0)<| .O (.ix C6 s2.2 (j7 (s2.1-1))) fun x2=>.W (.ly 0)<| .K (cmp.at (x,x2)) fun v=>.R (decide (v<0))) (.R false)) fun v2=>.I v2 (.D [] [(15,1000000)]<| .O (.ix C6 s2.2 (j7 (s2.1-1))) fun x3=>.W (.ly 0)<| .O (.ix C6 s2.2 s2.1) fun x4=>.W (.ly 0)<| .W (.hx 0)<| .U (.st C6 s2.2 s2.1 x3 0) fun l=>.O (.ix C6 l (j7 (s2.1-1))) fun _=>.U (.st C6 l (j7 (s2.1-1)) x4 0) fun l2=>.R (.inl (j7 (s2.1-1),l2))) (.R (.inr (.inl (s2.1,s2.2))))
def P4 (a b2:Int)(cmp:Cl prog (j2×j2) Int (fun x=>[G5 x.1,G5 x.2]) (fun r=>.t (tI r)))(s:Int×List j2):M prog (List j2) ((Int×List j2)⊕((Int×List j2)⊕Empty)):=
 .I (decide (s.1<b2)) (.L (fun(t:Int×List j2)=>[.t 9 (.t (tI t.1)),.b 1000000 (.rs 250 4 t.2 C6)]) 2 (.e) (P5 a cmp) (s.1,s.2) (fun s3=>.R (.inl (j7 (s.1+1),s3.2))) (fun t=>t.elim)) (.R (.inr (.inl (s.1,s.2))))
def E8 (data:List j2)(a b2:Int)(cmp:Cl prog (j2×j2) Int (fun x=>[G5 x.1,G5 x.2]) (fun r=>.t (tI r))):CG prog (List j2):=.of Z call434 func434 [.own 1000000,.t (tI a),.t (tI b2),.fz cmp.n cmp.cs] [(1000000,.rs 250 4 data C6)] (fun _=>.P7 []) (fun r=>[(1000000,.rs 250 4 r C6)]) [] (
 .L (fun(t:Int×List j2)=>[.t 8 (.t (tI t.1)),.b 1000000 (.rs 250 4 t.2 C6)]) 0 (.e) (P4 a b2 cmp) (j7 (a+1),data) (fun s4=>.R s4.2) (fun t=>t.elim))
def O2 (data:List j2)(a m2 b2:Int)(cmp:Cl prog (j2×j2) Int (fun x=>[G5 x.1,G5 x.2]) (fun r=>.t (tI r))):CG prog (List j2):=⟨435,[.own 1000000,.t (tI a),.t (tI m2),.t (tI b2),.fz cmp.n cmp.cs],[(1000000,.rs 250 4 data C6)],none,fun _=>none,(fun _=>.P7 []),(fun r=>[(1000000,.rs 250 4 r C6)]),[],⟨call435,fun _ h=>by cases h⟩,fun _ _ h=>by cases h⟩
def Q9 (n2:Int)(cmp:Cl prog (j2×j2) Int (fun x=>[G5 x.1,G5 x.2]) (fun r=>.t (tI r)))(s:Int×Int×List j2):M prog (List j2) ((Int×Int×List j2)⊕((Int×Int×List j2)⊕Empty)):=
 .I (decide (s.2.1<=n2)) (.KG (E8 s.2.2 s.1 s.2.1 cmp) [] fun v=>.R (.inl (s.2.1,j7 (s.2.1+20),v))) (.R (.inr (.inl (s.1,s.2.1,s.2.2))))
def W2 (n2:Int)(cmp:Cl prog (j2×j2) Int (fun x=>[G5 x.1,G5 x.2]) (fun r=>.t (tI r)))(s3:Int×List j2)(s4:Int×Int×List j2):M prog (List j2) ((Int×Int×List j2)⊕((Int×Int×List j2)⊕Empty)):=
 .I (decide (s4.2.1<=n2)) (.KG (O2 s4.2.2 s4.1 (j7 (s4.1+s3.1)) s4.2.1 cmp) [] fun v3=>.R (.inl (s4.2.1,j7 (s4.2.1+(j7 (2*s3.1))),v3))) (.R (.inr (.inl (s4.1,s4.2.1,s4.2.2))))
def R3 (n2:Int)(cmp:Cl prog (j2×j2) Int (fun x=>[G5 x.1,G5 x.2]) (fun r=>.t (tI r)))(s3:Int×List j2):M prog (List j2) ((Int×List j2)⊕((Int×List j2)⊕Empty)):=
 .I (decide (s3.1<n2)) (.L (fun(t:Int×Int×List j2)=>[.t 7 (.t (tI t.1)),.t 8 (.t (tI t.2.1)),.b 1000000 (.rs 250 4 t.2.2 C6)]) 4 (.e) (W2 n2 cmp s3) (0,j7 (2*s3.1),s3.2) (fun s5=>.I (decide ((j7 (s5.1+s3.1))<n2)) (.KG (O2 s5.2.2 s5.1 (j7 (s5.1+s3.1)) n2 cmp) [] fun v4=>.R (.inl (j7 (s3.1*2),v4))) (.R (.inl (j7 (s3.1*2),s5.2.2)))) (fun t=>t.elim)) (.R (.inr (.inl (s3.1,s3.2))))
def M9 (data:List j2)(n2:Int)(cmp:Cl prog (j2×j2) Int (fun x=>[G5 x.1,G5 x.2]) (fun r=>.t (tI r))):CG prog (List j2):=.of Z call406 func406 [.own 1000000,.t (tI n2),.fz cmp.n cmp.cs] [(1000000,.rs 250 4 data C6)] (fun _=>.P7 []) (fun r=>[(1000000,.rs 250 4 r C6)]) [] (
 .L (fun(t:Int×Int×List j2)=>[.t 7 (.t (tI t.1)),.t 8 (.t (tI t.2.1)),.b 1000000 (.rs 250 4 t.2.2 C6)]) 0 (.e) (Q9 n2 cmp) (0,20,data) (fun s2=>.KG (E8 s2.2.2 s2.1 n2 cmp) [] fun v2=>.L (fun(t:Int×List j2)=>[.t 6 (.t (tI t.1)),.x 23,.b 1000000 (.rs 250 4 t.2 C6)]) 2 (.e) (R3 n2 cmp) (20,v2) (fun s6=>.R s6.2) (fun t=>t.elim)) (fun t=>t.elim))
def J2 (x:List j2)(cmp:Cl prog (j2×j2) Int (fun x=>[G5 x.1,G5 x.2]) (fun r=>.t (tI r))):CG prog (List j2):=.of Z call381 func381 [.own 1000000,.fz cmp.n cmp.cs] [(1000000,.rs 250 4 x C6)] (fun _=>.P7 []) (fun r=>[(1000000,.rs 250 4 r C6)]) [] (
 .KG (M9 x (x.length:Int) cmp) [] fun v=>.R v)
def O1 (a b2:j2):C prog Int:=.of Z call382 func382 [G5 a,G5 b2] (fun r=>.t (tI r)) (
 .R (j7 (b2.E4-a.E4)))
def ac7 (s:p6)(t2:Int):CG prog p6:=.of Z call407 func407 [.ptr 1000000 0,.t (tI t2)] [(1000000,.box [.t (tI s.low),.t (tI s.high),.t (tI s.source)])] (fun _=>.P7 []) (fun r=>[(1000000,.box [.t (tI r.low),.t (tI r.high),.t (tI r.source)])]) [] (
 .D [] []<| .R (⟨s.low,G4 s.low (F2 s.high t2),s.source⟩:p6))
def Y8 (s:p6)(t2:Int):CG prog p6:=.of Z call408 func408 [.ptr 1000000 0,.t (tI t2)] [(1000000,.box [.t (tI s.low),.t (tI s.high),.t (tI s.source)])] (fun _=>.P7 []) (fun r=>[(1000000,.box [.t (tI r.low),.t (tI r.high),.t (tI r.source)])]) [] (
 .D [] []<| .R ({s with low:=F2 s.high (G4 s.low t2)}:p6))
def Y9 (s:p6)(t2:Int):CG prog p6:=.of Z call409 func409 [.ptr 1000000 0,.t (tI t2)] [(1000000,.box [.t (tI s.low),.t (tI s.high),.t (tI s.source)])] (fun _=>.P7 []) (fun r=>[(1000000,.box [.t (tI r.low),.t (tI r.high),.t (tI r.source)])]) [] (
 .D [] []<| .K (C4 t2 s.low s.high) fun v=>.R (⟨v,v,s.source⟩:p6))
def W5 (s:p6)(r2:j2):CG prog (Bool×p6):=.of Z call383 func383 [.ptr 1000000 0,G5 r2] [(1000000,.box [.t (tI s.low),.t (tI s.high),.t (tI s.source)])] (fun r=>.t (tB r.1)) (fun r=>[(1000000,.box [.t (tI r.2.low),.t (tI r.2.high),.t (tI r.2.source)])]) [] (
 .J0 0 (fun(t:p6)=>[.x 6,.x 7,.x 9,.b 1000000 (.box [.t (tI t.low),.t (tI t.high),.t (tI t.source)])]) (.I (r2.Kind==1) (.KG (ac7 s r2.o8) [] fun v=>.R v) (.I (r2.Kind==2) (.KG (Y8 s r2.o8) [] fun v2=>.R v2) (.I (r2.Kind==3) (.KG (Y9 s r2.o8) [] fun v3=>.R v3) (.R s)))) fun f2=>.D [] []<| .J0 0 (fun(t:Int)=>[.x 3,.x 29,.x 30,.x 31,.x 33,.c 1000000 2 [.t (tI t)],.d 3]) (.I (f2.low !=s.low) (.R r2.N1) (.R f2.source)) fun f3=>.J0 1 (fun(t:Bool)=>[.t 4 (.t (tB t)),.x 0,.x 5,.d 5]) (.D [] []<| .Sp (f2.low !=s.low) (.R true) (.R (f2.high !=s.high))) fun v4=>.R (v4,(⟨f2.low,f2.high,f3⟩:p6)))
def cp0:Go.Shelf.Ren:=⟨fun|125=>405|128=>432|129=>433|189=>384|215=>280|216=>189|257=>410|294=>436|295=>437|296=>438|297=>439|298=>440|299=>441|300=>442|301=>443|328=>453|329=>448|330=>449|331=>454|332=>455|343=>467|n=>n,fun|0=>0|3=>3|4=>4|5=>5|9=>9|28=>22|46=>317|51=>383|53=>386|131=>234|182=>487|183=>488|218=>503|222=>507|228=>516|229=>338|n=>n,fun|n=>n⟩
open Go.Shelf in
theorem et7:Lays.n189 prog cp0:={
 mixed:=by kernel_rfl,
 f125:=func405.trans (congrArg some (by kernel_rfl)),
 f128:=func432.trans (congrArg some (by kernel_rfl)),
 f129:=func433.trans (congrArg some (by kernel_rfl)),
 f189:=func384.trans (congrArg some (by kernel_rfl)),
 f215:=func280.trans (congrArg some (by kernel_rfl)),
 f216:=func189.trans (congrArg some (by kernel_rfl)),
 f257:=func410.trans (congrArg some (by kernel_rfl)),
 f294:=func436.trans (congrArg some (by kernel_rfl)),
 f295:=func437.trans (congrArg some (by kernel_rfl)),
 f296:=func438.trans (congrArg some (by kernel_rfl)),
 f297:=func439.trans (congrArg some (by kernel_rfl)),
 f298:=func440.trans (congrArg some (by kernel_rfl)),
 f299:=func441.trans (congrArg some (by kernel_rfl)),
 f300:=func442.trans (congrArg some (by kernel_rfl)),
 f301:=func443.trans (congrArg some (by kernel_rfl)),
 f328:=func453.trans (congrArg some (by kernel_rfl)),
 f329:=func448.trans (congrArg some (by kernel_rfl)),
 f330:=func449.trans (congrArg some (by kernel_rfl)),
 f331:=func454.trans (congrArg some (by kernel_rfl)),
 f332:=func455.trans (congrArg some (by kernel_rfl)),
 f343:=func467.trans (congrArg some (by kernel_rfl)),
 t0:=Tryz.underlying0,
 a0:=Tryz.isAgg0,
 z0:=Tryz.sizeOf0,
 v0:=Tryz.zeroValue0,
 t3:=Tryz.underlying3,
 a3:=Tryz.isAgg3,
 z3:=Tryz.sizeOf3,
 v3:=Tryz.zeroValue3,
 t4:=Tryz.underlying4,
 a4:=Tryz.isAgg4,
 z4:=Tryz.sizeOf4,
 v4:=Tryz.zeroValue4,
 t5:=Tryz.underlying5,
 a5:=Tryz.isAgg5,
 z5:=Tryz.sizeOf5,
 v5:=Tryz.zeroValue5,
 t9:=Tryz.underlying9,
 a9:=Tryz.isAgg9,
 z9:=Tryz.sizeOf9,
 v9:=Tryz.zeroValue9,
 t28:=Tryz.underlying22,
 a28:=Tryz.isAgg22,
 z28:=Tryz.sizeOf22,
 v28:=Tryz.zeroValue22,
 t46:=Tryz.underlying317,
 a46:=Tryz.isAgg317,
 z46:=Tryz.sizeOf317,
 v46:=Tryz.zeroValue317,
 t51:=Tryz.underlying383,
 a51:=Tryz.isAgg383,
 z51:=Tryz.sizeOf383,
 v51:=Tryz.zeroValue383,
 t53:=Tryz.underlying386,
 a53:=Tryz.isAgg386,
 z53:=Tryz.sizeOf386,
 v53:=Tryz.zeroValue386,
 t131:=Tryz.underlying234,
 a131:=Tryz.isAgg234,
 z131:=Tryz.sizeOf234,
 v131:=Tryz.zeroValue234,
 t182:=Tryz.underlying487,
 a182:=Tryz.isAgg487,
 z182:=Tryz.sizeOf487,
 v182:=Tryz.zeroValue487,
 t183:=Tryz.underlying488,
 a183:=Tryz.isAgg488,
 z183:=Tryz.sizeOf488,
 v183:=Tryz.zeroValue488,
 t218:=Tryz.underlying503,
 a218:=Tryz.isAgg503,
 z218:=Tryz.sizeOf503,
 v218:=Tryz.zeroValue503,
 t222:=Tryz.underlying507,
 a222:=Tryz.isAgg507,
 z222:=Tryz.sizeOf507,
 v222:=Tryz.zeroValue507,
 t228:=Tryz.underlying516,
 a228:=Tryz.isAgg516,
 z228:=Tryz.sizeOf516,
 v228:=Tryz.zeroValue516,
 t229:=Tryz.underlying338,
 a229:=Tryz.isAgg338,
 z229:=Tryz.sizeOf338,
 v229:=Tryz.zeroValue338}
theorem bU5 (s:List Int):bg4 prog 384 [.own 1000000] [(1000000,.rows 3 1 s.length (s.map aJ6))] (bT6 s) (fun _=>.P7 []) (fun r=>[(1000000,.rows 3 1 r.length (r.map aJ6))]):=
 dn7 (ρ:=cp0) et7 call384 s
def aB0 (s:List Int):CG prog (List Int):=⟨384,[.own 1000000],[(1000000,.rows 3 1 s.length (s.map aJ6))],bT6 s,fun _=>dK2 s,fun _=>.P7 [],fun r=>[(1000000,.rows 3 1 r.length (r.map aJ6))],[],bU5 s,fun _ r h=>eb6 h⟩
def cl0:Go.Shelf.Ren:=⟨fun|20=>385|n=>n,fun|0=>0|3=>3|4=>4|22=>22|n=>n,fun|n=>n⟩
open Go.Shelf in
theorem ej0:Lays2.n20 prog cl0:={
 mixed:=by kernel_rfl,
 f20:=func385.trans (congrArg some (by kernel_rfl)),
 t0:=Tryz.underlying0,
 a0:=Tryz.isAgg0,
 z0:=Tryz.sizeOf0,
 v0:=Tryz.zeroValue0,
 t3:=Tryz.underlying3,
 a3:=Tryz.isAgg3,
 z3:=Tryz.sizeOf3,
 v3:=Tryz.zeroValue3,
 t4:=Tryz.underlying4,
 a4:=Tryz.isAgg4,
 z4:=Tryz.sizeOf4,
 v4:=Tryz.zeroValue4,
 t22:=Tryz.underlying22,
 a22:=Tryz.isAgg22,
 z22:=Tryz.sizeOf22,
 v22:=Tryz.zeroValue22,
 i3:=by kernel_rfl}
theorem bE4 (s:List Int):bg4 prog 385 [.own 1000000] [(1000000,.rows 3 1 s.length (s.map aJ6))] (bl4 s) (fun _=>.own 900000) (fun r=>[(900000,.rows 3 1 r.length (r.map aJ6))]):=
 cF1 (ρ:=cl0) ej0 call385 s
def ar6 (s:List Int):CG prog (List Int):=⟨385,[.own 1000000],[(1000000,.rows 3 1 s.length (s.map aJ6))],bl4 s,fun _=>bl4 s,fun _=>.own 900000,fun r=>[(900000,.rows 3 1 r.length (r.map aJ6))],[900000],bE4 s,fun _ r h=>h⟩
def ai6 (_:Int)(x:j2)(s:List Int×p6):M prog (p6×List Int) (Fl (List Int×p6) Empty):=
 .W (.hx 0)<| .W (.ly 0)<| .KG (W5 s.2 x) [] fun r2=>.I r2.1 (.U (.ap aJ6 s.1 ([x.N1]:List Int) 2248) fun l2=>.R (.next (l2,r2.2))) (.R (.next (s.1,r2.2)))
def ap2 (l:List j2)(low high:Int):C prog (p6×List Int):=.of Z call342 func342 [.t (tS C6 l),.t (tI low),.t (tI high)] (fun r=>.P7 [cC7 r.1,.t (tS aJ6 r.2)]) (
 .KG (W3 l) [2104] fun v=>.KG (J2 v (.of (fun z_=>O1 z_.1 z_.2) 382 [])) [] fun v2=>.Z (.np 9 2248 3 1 [])<|M.Q C6 v2 2 21 (fun(t:List Int×p6)=>[.t 9 (.own 2248),.x 0,.x 13,.x 14,.b 8 (.box [.t (tI t.2.low),.t (tI t.2.high),.t (tI t.2.source)]),.b 2248 (.rs 3 1 t.1 aJ6)]) 0 (.e) (ai6) (([]:List Int),(⟨low,high,(-1)⟩:p6)) (fun s2=>.KG (aB0 s2.1) [] fun v3=>.Pn 2248<| .D [] [(2,2248)]<| .KG (ar6 v3) [2248] fun v4=>.R (s2.2,v4)) (fun t=>t.elim))
def ap1 (g:Z7)(l:List j2)(low high up down:Int):C prog (Z7×Int):=.of Z call295 func295 [do9 g,.t (tS C6 l),.t (tI low),.t (tI high),.t (tI up),.t (tI down)] (fun r=>.P7 [do9 r.1,.t (tI r.2)]) (
 .K (O9 g.o8) fun v=>.I (((!v)||(decide (g.N1<(-1))))||(decide (g.N1>15))) (.R ((⟨0,0⟩:Z7),1)) (.K (au7 l low high) fun v2=>.I (v2 !=0) (.R ((⟨0,0⟩:Z7),v2)) (.I ((((decide (up<0))||(decide (up>20000)))||(decide (down<0)))||(decide (down>20000))) (.R ((⟨0,0⟩:Z7),2)) (.K (ap2 l low high) fun r2=>.R ((⟨G4 (F2 (F2 (G4 r2.1.low (j7 (g.o8-down))) (j7 (g.o8+up))) r2.1.high) low,r2.1.source⟩:Z7),0)))))
def W6 (s:k6):CG prog k6:=.of Z call222 func222 [.ptr 1000000 0] [(1000000,.box (av2 (Q4 s) [(63,.own 1000001)])),(1000001,.rs 267 7 s.out.N9 B1)] (fun _=>.P7 []) (fun r=>[(1000000,.box (av2 (Q4 r) [(63,.own 1000001)])),(1000001,.rs 267 7 r.out.N9 B1)]) [] (
 .D [] [(23,1000000)]<| .K (aL8 s.c.I4 s.i.bF3 s.i.bF4) fun r2=>.KG (u5 ({s with c:=(⟨r2.1,s.c.ae3,s.c.aa6,s.c.P9,s.c.O8,s.c.af0⟩:A5)}:k6) r2.2) [] fun v=>.D [] []<| .K (aL9 v.t v.c.I4.Value v.i.D1) fun r3=>.KG (u5 v r3.2) [] fun v2=>.D [] []<| .K (aw2 v2.c.I4.Value v2.i.D1 v2.i.au3) fun v3=>.J0 0 (fun(t:k6×List j2)=>[.t 4 (.own 56),.x 7,.x 8,.x 9,.x 10,.x 11,.x 13,.x 14,.x 15,.x 16,.x 18,.x 19,.x 20,.x 21,.x 26,.x 27,.x 28,.x 29,.x 33,.x 34,.x 35,.x 37,.x 38,.x 39,.x 40,.x 41,.x 43,.x 44,.x 45,.x 46,.x 51,.x 56,.x 57,.x 58,.x 59,.x 60,.x 61,.x 63,.x 64,.x 65,.x 66,.x 68,.x 69,.x 70,.x 71,.b 56 (.rs 250 4 t.2 C6),.b 1000000 (.box (av2 (Q4 t.1) [(63,.own 1000001)])),.b 1000001 (.rs 267 7 t.1.out.N9 B1)]) (.I v3 (.D [] [(30,1000000)]<| .K (aw3 v2.i.au3) fun v4=>.K (aE0 v2.c.ae3 v2.t.ae3 v4 v2.i.D1) fun r4=>.KG (u5 ({v2 with c:=(⟨v2.c.I4,r4.1,v2.c.aa6,v2.c.P9,v2.c.O8,v2.c.af0⟩:A5)}:k6) r4.2.2) [] fun v5=>.K (C4 r4.2.1 (-5000) 10000) fun v6=>.U (.ap C6 ([(⟨0,3,r3.1,0⟩:j2)]:List j2) ([(⟨1,2,v6,1⟩:j2)]:List j2) 56) fun l=>.R (v5,l)) (.R (({v2 with c:=(⟨v2.c.I4,(⟨0⟩:F4),v2.c.aa6,v2.c.P9,v2.c.O8,v2.c.af0⟩:A5)}:k6),([(⟨0,3,r3.1,0⟩:j2)]:List j2)))) fun s2=>.Pn 56<| .D [] [(12,56),(20,1000000)]<| .U (.ap C6 s2.2 s2.1.i.Requests 56) fun l2=>.K (ap1 s2.1.c.af0 l2 (-5000) 10000 300 1000) fun r5=>.KG (u5 (⟨s2.1.t,s2.1.e,s2.1.b,(⟨s2.1.c.I4,s2.1.c.ae3,s2.1.c.aa6,s2.1.c.P9,s2.1.c.O8,r5.1⟩:A5),s2.1.i,s2.1.wanted,s2.1.w9,s2.1.ad7,s2.1.late,s2.1.pattern,s2.1.time,s2.1.out,s2.1.fail⟩:k6) r5.2) [] fun v7=>.R ({v7 with wanted:=G4 0 v7.c.af0.o8}:k6))
def al5 (i:Int)(c:o6)(c2 c3 c4:Int):C prog Bool:=.of Z call344 func344 [.t (tI i),.el (aQ9 c),.el (aJ6 c2),.el (aJ6 c3),.el (aJ6 c4)] (fun r=>.t (tB r)) (
 .D [] []<| .K (X8 c.o8 c2 (j7 (c3+i))) fun v=>.R (decide (v>=c4)))
def ao8 (t2:o6)(o7 S7:Int):C prog (Int×Int):=.of Z call296 func296 [S4 t2,.t (tI o7),.t (tI S7)] (fun r=>.P7 [.t (tI r.1),.t (tI r.2)]) (
 .K (ah8 t2) fun v=>.I (!v) (.R (0,1)) (.K (H3 o7 0 12000) fun v2=>.I (!v2) (.R (0,2)) (.O (.ix aJ6 t2.o8.Y 0) fun x=>.D [] []<| .O (.ix aJ6 t2.o8.Y (j7 ((t2.o8.Y.length:Int)-1))) fun x2=>.Z (.fb 3)<| .Z (.fb 4)<| .Z (.fb 8)<| .Z (.fb 5)<| .K (P6 (j7 ((j7 (x2-x))+1)) (.of (fun z_=>al5 z_ t2 o7 x S7) 344 [aQ9 t2,aJ6 o7,aJ6 x,aJ6 S7])) fun v3=>.I (v3==(j7 ((j7 (x2-x))+1))) (.R (0,7)) (.R (j7 (x+v3),0)))))
def at7 (x e2 other:Int):C prog Int:=.of Z call297 func297 [.t (tI x),.t (tI e2),.t (tI other)] (fun r=>.t (tI r)) (
 .I (e2 !=0) (.R other) (.R x))
def ak7 (i:Int)(c:P8)(c2:Int):C prog Bool:=.of Z call414 func414 [.t (tI i),.el (bH8 c),.el (aJ6 c2)] (fun r=>.t (tB r)) (
 .D [] []<| .O (.ix aJ6 c.X i) fun x=>.R (decide (x>c2)))
def au9 (c:P8)(x:Int):C prog Int:=.of Z call394 func394 [ch1 c,.t (tI x)] (fun r=>.t (tI r)) (
 .Z (.fb 2)<| .Z (.fb 3)<| .K (P6 (c.X.length:Int) (.of (fun z_=>ak7 z_ c x) 414 [bH8 c,aJ6 x])) fun v=>.R (j7 (v-1)))
def aE4 (c:P8)(x:Int):C prog Int:=.of Z call366 func366 [ch1 c,.t (tI x)] (fun r=>.t (tI r)) (
 .O (.ix aJ6 c.X 0) fun x2=>.I (decide (x<=x2)) (.O (.ix aJ6 c.Y 0) fun x3=>.R x3) (.O (.ix aJ6 c.X (j7 ((c.X.length:Int)-1))) fun x4=>.I (decide (x>=x4)) (.O (.ix aJ6 c.Y (j7 ((c.X.length:Int)-1))) fun x5=>.R x5) (.K (au9 c x) fun v=>.D [] []<| .O (.ix aJ6 c.Y v) fun x6=>.O (.ix aJ6 c.X v) fun x7=>.O (.ix aJ6 c.Y (j7 (v+1))) fun x8=>.W (.hx 2)<| .O (.ix aJ6 c.X (j7 (v+1))) fun x9=>.W (.hx 2)<| .K (V1 (j7 ((j7 (x-x7))*(j7 (x8-x6)))) (j7 (x9-x7))) fun v2=>.R (j7 (x6+v2)))))
def as8 (c:P8)(x:Int):C prog Int:=.of Z call317 func317 [ch1 c,.t (tI x)] (fun r=>.t (tI r)) (
 .K (P0 c) fun v=>.I (!v) (.R 0) (.K (aE4 c x) fun v2=>.R v2))
def aB5 (t2:o6)(o7 B9 K3:Int):C prog Int:=.of Z call236 func236 [S4 t2,.t (tI o7),.t (tI B9),.t (tI K3)] (fun r=>.t (tI r)) (
 .D [] []<| .K (X8 t2.Air o7 B9) fun v=>.K (as8 t2.L3 K3) fun v2=>.K (V1 (j7 (v*v2)) 1000) fun v3=>.R (F2 1048576 v3))
def aj5 (k:Int)(c:o6)(c2 c3 c4:Int):C prog Bool:=.of Z call345 func345 [.t (tI k),.el (aQ9 c),.el (aJ6 c2),.el (aJ6 c3),.el (aJ6 c4)] (fun r=>.t (tB r)) (
 .D [] []<| .K (aB5 c c2 (j7 (50+k)) c3) fun v=>.R (decide (v>=c4)))
def au4 (t2:o6)(o7 want K3:Int):C prog (Int×Int):=.of Z call298 func298 [S4 t2,.t (tI o7),.t (tI want),.t (tI K3)] (fun r=>.P7 [.t (tI r.1),.t (tI r.2)]) (
 .K (aA2 t2) fun v=>.I (!v) (.R (0,1)) (.K (I2 o7 0 12000) fun v2=>.G (!v2) (.R true) (.K (I2 want 0 1048576) fun v3=>.R (!v3)) fun b2=>.G b2 (.R true) (.K (I2 K3 (-40) 150) fun v4=>.R (!v4)) fun b3=>.I b3 (.R (0,2)) (.Z (.fb 4)<| .Z (.fb 5)<| .Z (.fb 7)<| .Z (.fb 6)<| .K (P6 2951 (.of (fun z_=>aj5 z_ t2 o7 K3 want) 345 [aQ9 t2,aJ6 o7,aJ6 K3,aJ6 want])) fun v5=>.I (decide ((j7 (50+v5))>3000)) (.R (0,7)) (.R (j7 (50+v5),0)))))
def aw8 (rpm:Int):C prog (Int×Int):=.of Z call346 func346 [.t (tI rpm)] (fun r=>.P7 [.t (tI r.1),.t (tI r.2)]) (
 .I ((decide (rpm<0))||(decide (rpm>20000))) (.R (0,2)) (.K (am4 (j7 ((j7 (rpm*65536))*23040)) 60000000 2) fun r2=>.R (r2.1,r2.2)))
def bc9 (o7 B9:Int):C prog (Int×Int):=.of Z call299 func299 [.t (tI o7),.t (tI B9)] (fun r=>.P7 [.t (tI r.1),.t (tI r.2)]) (
 .K (I2 o7 0 12000) fun v=>.G (!v) (.R true) (.K (I2 B9 50 3000) fun v2=>.R (!v2)) fun b2=>.I b2 (.R (0,2)) (.K (aw8 o7) fun r2=>.R (j7 (db0 (j7 (r2.1*B9)) 1024),r2.2)))
def aj6 (k:Int)(c:L0)(c2 c3:Int):C prog Bool:=.of Z call347 func347 [.t (tI k),.el (bC9 c),.el (aJ6 c2),.el (aJ6 c3)] (fun r=>.t (tB r)) (
 .R (decide ((j7 (db0 (j7 ((j7 (c.I6*k))*(j7 (1013-c2)))) 1000))>=c3)))
def au5 (b2:L0)(cX6 B9:Int):C prog (Int×Int):=.of Z call300 func300 [aL0 b2,.t (tI cX6),.t (tI B9)] (fun r=>.P7 [.t (tI r.1),.t (tI r.2)]) (
 .K (ai9 b2) fun v=>.I (!v) (.R (0,1)) (.K (I2 cX6 0 1099511627776) fun v2=>.G (!v2) (.R true) (.K (I2 B9 50 1013) fun v3=>.R (!v3)) fun b3=>.I b3 (.R (0,2)) (.Z (.fb 3)<| .Z (.fb 5)<| .Z (.fb 4)<| .K (P6 1001 (.of (fun z_=>aj6 z_ b2 B9 cX6) 347 [bC9 b2,aJ6 B9,aJ6 cX6])) fun v4=>.I (decide (v4>1000)) (.R (0,7)) (.R (v4,0)))))
def T7 (s:k6):CG prog k6:=.of Z call223 func223 [.ptr 1000000 0] [(1000000,.box (av2 (Q4 s) [(63,.own 1000001)])),(1000001,.rs 267 7 s.out.N9 B1)] (fun _=>.P7 []) (fun r=>[(1000000,.box (av2 (Q4 r) [(63,.own 1000001)])),(1000001,.rs 267 7 r.out.N9 B1)]) [] (
 .D [] []<| .K (ao8 s.t s.i.D1 s.wanted) fun r2=>.K (at7 r2.1 r2.2 1048576) fun v=>.D [] []<| .K (au4 s.t s.i.D1 (G4 0 v) s.i.L3) fun r3=>.K (at7 r3.1 r3.2 3000) fun v2=>.K (bc9 s.i.D1 (F2 1012 v2)) fun r4=>.KG (u5 s r4.2) [] fun v3=>.K (au5 v3.b r4.1 (F2 1012 v2)) fun r5=>.K (at7 r5.1 r5.2 1000) fun v4=>.R ({v3 with out:=(⟨v4,v3.out.N9,v3.out.o8⟩:O3)}:k6))
def aB4 (t2:o6)(o7 B9 K3:Int):C prog (Int×Int):=.of Z call151 func151 [S4 t2,.t (tI o7),.t (tI B9),.t (tI K3)] (fun r=>.P7 [.t (tI r.1),.t (tI r.2)]) (
 .K (aA2 t2) fun v=>.I (!v) (.R (0,1)) (.K (I2 o7 0 12000) fun v2=>.G (!v2) (.R true) (.K (I2 B9 50 3000) fun v3=>.R (!v3)) fun b2=>.G b2 (.R true) (.K (I2 K3 (-40) 150) fun v4=>.R (!v4)) fun b3=>.I b3 (.R (0,2)) (.K (aB5 t2 o7 B9 K3) fun v5=>.R (v5,0))))
def ag6 (t2:o6)(o7 w9:Int):C prog (Int×Int):=.of Z call348 func348 [S4 t2,.t (tI o7),.t (tI w9)] (fun r=>.P7 [.t (tI r.1),.t (tI r.2)]) (
 .K (ah8 t2) fun v=>.I (!v) (.R (0,1)) (.K (H3 o7 0 12000) fun v2=>.G (!v2) (.R true) (.K (H3 w9 0 1048576) fun v3=>.R (!v3)) fun b2=>.I b2 (.R (0,2)) (.K (X8 t2.o8 o7 w9) fun v4=>.R (v4,0))))
def Y3 (t2:o6)(bI9 late ad7 B2:Int):C prog Int:=.of Z call349 func349 [S4 t2,.t (tI bI9),.t (tI late),.t (tI ad7),.t (tI B2)] (fun r=>.t (tI r)) (
 .K (as8 t2.C1 late) fun v=>.O (.quo .i64 (j7 ((j7 (bI9*v))*ad7)) (j7 (1000*B2))) fun q=>.R q)
def ak4 (late:Int)(c:o6)(c2 c3 c4 c5:Int):C prog Bool:=.of Z call350 func350 [.t (tI late),.el (aQ9 c),.el (aJ6 c2),.el (aJ6 c3),.el (aJ6 c4),.el (aJ6 c5)] (fun r=>.t (tB r)) (
 .D [] []<| .K (Y3 c c2 late c3 c4) fun v=>.R (decide (v<=c5)))
def al7 (t2:o6)(most B2:Int)(r2:Int×Int)(f2:Int):M prog (Int×Int×Int) (Int⊕(Int⊕Empty)):=
 .I (decide (f2>0)) (.D [] []<| .K (Y3 t2 r2.1 2560 f2 B2) fun v2=>.I (decide (v2<=most)) (.R (.inr (.inl f2))) (.R (.inl (j7 (f2-1))))) (.R (.inr (.inl f2)))
def al6 (t2:o6)(o7 w9 most B2:Int):C prog (Int×Int×Int):=.of Z call301 func301 [S4 t2,.t (tI o7),.t (tI w9),.t (tI most),.t (tI B2)] (fun r=>.P7 [.t (tI r.1),.t (tI r.2.1),.t (tI r.2.2)]) (
 .K (ag6 t2 o7 w9) fun r2=>.I (r2.2 !=0) (.R (0,0,r2.2)) (.K (H3 B2 1 8) fun v=>.I ((!v)||(decide (most<0))) (.R (0,0,2)) (.L (fun(t:Int)=>[.b 10 (.box [.t (tI t)])]) 1 (.e) (al7 t2 most B2 r2) B2 (fun f3=>.Z (.fb 5)<| .Z (.fb 13)<| .Z (.fb 9)<| .Z (.fb 8)<| .K (P6 2560 (.of (fun z_=>ak4 z_ t2 r2.1 f3 B2 most) 350 [aQ9 t2,aJ6 r2.1,aJ6 f3,aJ6 B2,aJ6 most])) fun v3=>.R (f3,v3,0)) (fun t=>t.elim))))
def ar4 (B2 ad7 E3 i:Int)(f2:List Bool):M prog (List Bool×Int) (Fl (List Bool) Empty):=
 .O (.rem (j7 (i+E3)) B2) fun q=>.D [] []<| .O (.quo .i64 (j7 ((j7 (q+1))*ad7)) B2) fun q2=>.O (.quo .i64 (j7 (q*ad7)) B2) fun q3=>.O (.ix Pv.dG2 f2 i) fun _=>.U (.st Pv.dG2 f2 i (decide (q2>q3)) 0) fun l2=>.R (.next l2)
def ar3 (B2 ad7 E3:Int):C prog (List Bool×Int):=.of Z call302 func302 [.t (tI B2),.t (tI ad7),.t (tI E3)] (fun r=>.P7 [.t (tS Pv.dG2 r.1),.t (tI r.2)]) (
 .K (H3 B2 1 8) fun v=>.G (!v) (.R true) (.K (H3 ad7 0 B2) fun v2=>.R (!v2)) fun b2=>.G b2 (.R true) (.K (H3 E3 0 1099511627776) fun v3=>.R (!v3)) fun b3=>.I b3 (.R (([]:List Bool),2)) (.Mk Pv.dG2 B2 false fun l=>M.QN (l.length:Int) 2 29 (fun(t:List Bool)=>[.x 26,.x 27,.b 26 (.rs 4 1 t Pv.dG2)]) 0 (.e) (ar4 B2 ad7 E3) l (fun f3=>.R (f3,0)) (fun t=>t.elim)))
def av5 (t2:o6)(o7 w9 late ad7 B2:Int):C prog (Int×Int):=.of Z call303 func303 [S4 t2,.t (tI o7),.t (tI w9),.t (tI late),.t (tI ad7),.t (tI B2)] (fun r=>.P7 [.t (tI r.1),.t (tI r.2)]) (
 .K (ag6 t2 o7 w9) fun r2=>.I (r2.2 !=0) (.R (0,r2.2)) (.K (H3 late 0 2560) fun v=>.G (!v) (.R true) (.K (H3 B2 1 8) fun v2=>.R (!v2)) fun b2=>.G b2 (.R true) (.K (H3 ad7 0 B2) fun v3=>.R (!v3)) fun b3=>.I b3 (.R (0,2)) (.K (Y3 t2 r2.1 late ad7 B2) fun v4=>.R (v4,0))))
def Z9 (s:k6):CG prog k6:=.of Z call224 func224 [.ptr 1000000 0] [(1000000,.box (av2 (Q4 s) [(63,.own 1000001)])),(1000001,.rs 267 7 s.out.N9 B1)] (fun _=>.P7 []) (fun r=>[(1000000,.box (av2 (Q4 r) [(63,.own 1000001)])),(1000001,.rs 267 7 r.out.N9 B1)]) [] (
 .D [] [(26,1000000)]<| .K (aB4 s.t s.i.D1 s.i.K9 s.i.L3) fun r2=>.KG (u5 ({s with w9:=r2.1}:k6) r2.2) [] fun v=>.D [] [(27,1000000),(30,1000000)]<| .K (al6 v.t v.i.D1 v.w9 v.wanted (s.e.z8.length:Int)) fun r3=>.KG (u5 ({v with ad7:=r3.1,late:=r3.2.1}:k6) r3.2.2) [] fun v2=>.K (ar3 (s.e.z8.length:Int) v2.ad7 0) fun r4=>.KG (u5 ({v2 with pattern:=r4.1}:k6) r4.2) [] fun v3=>.D [] [(30,1000000)]<| .K (av5 v3.t v3.i.D1 v3.w9 v3.late v3.ad7 (s.e.z8.length:Int)) fun r5=>.KG (u5 ({v3 with out:=(⟨v3.out.I6,v3.out.N9,r5.1⟩:O3)}:k6) r5.2) [] fun v4=>.R v4)
def ac1 (o7 w9:Int):C prog Bool:=.of Z call351 func351 [.t (tI o7),.t (tI w9)] (fun r=>.t (tB r)) (
 .K (R7 o7 0 12000) fun v=>.G v (.K (R7 w9 0 1048576) fun v2=>.R v2) (.R false) fun b2=>.R b2)
def ag3 (s:List aa7):C prog (List aa7):=.of Z call386 func386 [.t (tS am8 s)] (fun r=>.t (tS am8 r)) (
 .Nl am8 s (.I true (.R ([]:List aa7)) .N) (fun s=>.I false .N (.U (.ap am8 ([]:List aa7) s 5) fun l=>.R l)))
def aw5 (p2:M6):C prog M6:=.of Z call352 func352 [br2 p2] (fun r=>br2 r) (
 .K (ag3 p2.Cells) fun v=>.R ({p2 with Cells:=v}:M6))
def ay6 (p2:M6)(B7 o7 w9:Int):C prog (M6×Int):=.of Z call304 func304 [br2 p2,.t (tI B7),.t (tI o7),.t (tI w9)] (fun r=>.P7 [br2 r.1,.t (tI r.2)]) (
 .K (ac0 p2) fun v=>.I (!v) (.R ((⟨false,false,0,0,([]:List aa7)⟩:M6),1)) (.K (ac1 o7 w9) fun v2=>.G (!v2) (.R true) (.K (R7 B7 0 20000) fun v3=>.R (!v3)) fun b2=>.I b2 (.R ((⟨false,false,0,0,([]:List aa7)⟩:M6),2)) (.K (aw5 p2) fun v4=>.I (!v4.al8) (.R (({v4 with al8:=((decide (B7<300))||(decide (B7>600))),bc7:=decide (B7>600)}:M6),0)) (.J0 0 (fun(t:Int×Int)=>[.t 11 (.t (tI t.1)),.x 30,.x 55,.c 4 3 [.t (tI t.2)]]) (.I (!(((decide (B7>500))||((decide (B7>=400))&&v4.bc7))==v4.bc7)) (.R (15,0)) (.R (1,F2 1000 (j7 (v4.bc8+1))))) fun s=>.J0 0 (fun(t:Int)=>[.t 11 (.t (tI t))]) (.I ((decide (B7>500))||((decide (B7>=400))&&v4.bc7)) (.R (j7 (0-s.1))) (.R s.1)) fun v_by=>.K (C4 (j7 (v4.aj4+v_by)) 750 1250) fun v5=>.R ((⟨v4.al8,((decide (B7>500))||((decide (B7>=400))&&v4.bc7)),v5,s.2,v4.Cells⟩:M6),0)))))
def aA9 (x _ x2 n2:Int):M prog Int (Fl Int Empty):=
 .W (.hx 0)<| .I (decide (x>=x2)) (.R (.next (j7 (n2+1)))) (.R (.next n2))
def ak1 (x:Int)(ba8:List Int):C prog Int:=.of Z call387 func387 [.t (tI x),.t (tS aJ6 ba8)] (fun r=>.t (tI r)) (
 M.Q aJ6 ba8 2 10 (fun(t:Int)=>[.t 5 (.t (tI t))]) 0 (.e) (aA9 x) 0 (fun n3=>.R n3) (fun t=>t.elim))
def aF4 (o7 w9:Int):C prog Int:=.of Z call353 func353 [.t (tI o7),.t (tI w9)] (fun r=>.t (tI r)) (
 .K (ac1 o7 w9) fun v=>.I (!v) (.R (-1)) (.K (ak1 o7 ([1500,3500]:List Int)) fun v2=>.K (ak1 w9 ([150000,350000]:List Int)) fun v3=>.R (j7 ((j7 (3*v2))+v3))))
def aq2 (p2:M6)(o7 w9:Int):C prog (Int×Int):=.of Z call305 func305 [br2 p2,.t (tI o7),.t (tI w9)] (fun r=>.P7 [.t (tI r.1),.t (tI r.2)]) (
 .K (ac0 p2) fun v=>.I (!v) (.R (0,1)) (.K (ac1 o7 w9) fun v2=>.I (!v2) (.R (0,2)) (.D [] []<| .K (aF4 o7 w9) fun v3=>.O (.ix am8 p2.Cells v3) fun x=>.K (C4 (j7 (p2.aj4+x.Value)) 700 1300) fun v4=>.R (v4,0))))
def ae7 (x low high:Int):C prog Bool:=.of Z call338 func338 [.t (tI x),.t (tI low),.t (tI high)] (fun r=>.t (tB r)) (
 .R ((decide (x>=low))&&(decide (x<=high))))
def aT8 (w9 bH9:Int):C prog (Int×Int):=.of Z call306 func306 [.t (tI w9),.t (tI bH9)] (fun r=>.P7 [.t (tI r.1),.t (tI r.2)]) (
 .K (ae7 w9 0 1048576) fun v=>.G (!v) (.R true) (.K (ae7 bH9 500 2000) fun v2=>.R (!v2)) fun b2=>.I b2 (.R (0,2)) (.O (.quo .i64 (j7 (w9*10000)) (j7 (bH9*147))) fun q=>.R (q,0)))
def aI8 (b2:L0):C prog Bool:=.of Z call354 func354 [aL0 b2] (fun r=>.t (tB r)) (
 .K (ae7 b2.O8 0 1023) fun v=>.G v (.K (ae7 b2.K7 0 1024) fun v2=>.R v2) (.R false) fun b3=>.R b3)
def aM3 (cmp:Cl prog Int Int (fun x=>[.t (tI x)]) (fun r=>.t (tI r)))(s:Int×Int):M prog (Int×Bool) ((Int×Int)⊕((Int×Int)⊕Empty)):=
 .I (decide (s.1<s.2)) (.K (cmp.at (j7 (D0 .u64 (aW6.wrap (j7 (s.1+s.2))) 1))) fun v=>.I (decide (v>0)) (.R (.inl (j7 ((j7 (D0 .u64 (aW6.wrap (j7 (s.1+s.2))) 1))+1),s.2))) (.R (.inl (s.1,j7 (D0 .u64 (aW6.wrap (j7 (s.1+s.2))) 1))))) (.R (.inr (.inl (s.1,s.2))))
def aO4 (n2:Int)(cmp:Cl prog Int Int (fun x=>[.t (tI x)]) (fun r=>.t (tI r))):C prog (Int×Bool):=.of Z call355 func355 [.t (tI n2),.fz cmp.n cmp.cs] (fun r=>.P7 [.t (tI r.1),.t (tB r.2)]) (
 .L (fun(t:Int×Int)=>[.t 4 (.t (tI t.1)),.t 6 (.t (tI t.2))]) 0 (.e) (aM3 cmp) (0,n2) (fun s2=>.G (decide (s2.1<n2)) (.K (cmp.at s2.1) fun v2=>.R (v2==0)) (.R false) fun b2=>.R (s2.1,b2)) (fun t=>t.elim))
def aA8 (b2:L0)(aE9 aG8:Int):C prog (Int×Int):=.of Z call357 func357 [aL0 b2,.t (tI aE9),.t (tI aG8)] (fun r=>.P7 [.t (tI r.1),.t (tI r.2)]) (
 .D [] []<| .R (j7 ((j7 (aG8-(j7 (db0 (j7 (aG8*b2.O8)) 1024))))+(j7 (db0 (j7 (aE9*b2.K7)) 1024))),j7 ((j7 (aE9+(j7 (db0 (j7 (aG8*b2.O8)) 1024))))-(j7 (db0 (j7 (aE9*b2.K7)) 1024)))))
def az7 (i:Int)(c:L0)(c2 c3:Int):C prog Int:=.of Z call356 func356 [.t (tI i),.el (bC9 c),.el (aJ6 c2),.el (aJ6 c3)] (fun r=>.t (tI r)) (
 .K (aA8 c c2 i) fun r2=>.R (j7 (c3-r2.1)))
def aI7 (b2:L0)(aE9 bp9:Int):C prog (Int×Int×Int):=.of Z call307 func307 [aL0 b2,.t (tI aE9),.t (tI bp9)] (fun r=>.P7 [.t (tI r.1),.t (tI r.2.1),.t (tI r.2.2)]) (
 .K (aI8 b2) fun v=>.I (!v) (.R (0,0,1)) (.K (ae7 aE9 0 1073741824) fun v2=>.G (!v2) (.R true) (.K (ae7 bp9 0 1048576) fun v3=>.R (!v3)) fun b3=>.I b3 (.R (0,0,2)) (.Z (.fb 3)<| .Z (.fb 4)<| .Z (.fb 5)<| .K (aO4 1048577 (.of (fun z_=>az7 z_ b2 aE9 bp9) 356 [bC9 b2,aJ6 aE9,aJ6 bp9])) fun r2=>.I (decide (r2.1>1048576)) (.R (0,0,9)) (.K (aA8 b2 aE9 r2.1) fun r3=>.I (decide (r3.2>1073741824)) (.R (0,0,9)) (.R (r2.1,r3.2,0))))))
def aO1 (b2:L0)(aE9 aG8:Int):C prog (Int×Int×Int):=.of Z call308 func308 [aL0 b2,.t (tI aE9),.t (tI aG8)] (fun r=>.P7 [.t (tI r.1),.t (tI r.2.1),.t (tI r.2.2)]) (
 .K (aI8 b2) fun v=>.I (!v) (.R (0,0,1)) (.K (ae7 aE9 0 1073741824) fun v2=>.G (!v2) (.R true) (.K (ae7 aG8 0 1048576) fun v3=>.R (!v3)) fun b3=>.I b3 (.R (0,0,2)) (.K (aA8 b2 aE9 aG8) fun r2=>.I (decide (r2.2>1073741824)) (.R (0,0,9)) (.R (r2.1,r2.2,0)))))
def aF0 (y:Int):C prog Bool:=.of Z call337 func337 [.t (tI y)] (fun r=>.t (tB r)) (
 .K (ae7 y 0 10000) fun v=>.R (!v))
def aA7 (t2:o6)(ca8 B7:Int):C prog (Int×Int):=.of Z call270 func270 [S4 t2,.t (tI ca8),.t (tI B7)] (fun r=>.P7 [.t (tI r.1),.t (tI r.2)]) (
 .K (P0 t2.av6) fun v=>.G (!v) (.R true) (.K (o5 t2.av6.Y (.of (fun z_=>aF0 z_) 337 [])) fun v2=>.R v2) fun b2=>.I b2 (.R (0,1)) (.K (ae7 ca8 0 1048576) fun v3=>.G (!v3) (.R true) (.K (ae7 B7 0 20000) fun v4=>.R (!v4)) fun b3=>.I b3 (.R (0,2)) (.K (as8 t2.av6 B7) fun v5=>.R (v5,0))))
def aO2 (t2:o6)(bp9 B7:Int):C prog (Int×Int):=.of Z call309 func309 [S4 t2,.t (tI bp9),.t (tI B7)] (fun r=>.P7 [.t (tI r.1),.t (tI r.2)]) (
 .K (aA7 t2 bp9 B7) fun r2=>.I ((r2.2 !=0)||(bp9==0)) (.R (0,r2.2)) (.K (am4 bp9 3 2) fun r3=>.R (j7 (r2.1+r3.1),r3.2)))
def ad5 (s:k6):CG prog k6:=.of Z call225 func225 [.ptr 1000000 0] [(1000000,.box (av2 (Q4 s) [(63,.own 1000001)])),(1000001,.rs 267 7 s.out.N9 B1)] (fun _=>.P7 []) (fun r=>[(1000000,.box (av2 (Q4 r) [(63,.own 1000001)])),(1000001,.rs 267 7 r.out.N9 B1)]) [] (
 .D [] [(27,1000000)]<| .K (ay6 s.c.P9 s.i.Lambda s.i.D1 s.w9) fun r2=>.KG (u5 ({s with c:=(⟨s.c.I4,s.c.ae3,s.c.aa6,r2.1,s.c.O8,s.c.af0⟩:A5)}:k6) r2.2) [] fun v=>.D [] []<| .K (aq2 v.c.P9 v.i.D1 v.w9) fun r3=>.KG (u5 v r3.2) [] fun v2=>.K (aT8 v2.w9 1000) fun r4=>.KG (u5 v2 r4.2) [] fun v3=>.D [] []<| .K (aI7 v3.b v3.c.O8 (F2 1048576 (j7 (db0 (j7 (r4.1*r3.1)) 1000)))) fun r5=>.J0 0 (fun(t:Int×Int×k6)=>[.t 5 (.t (tI t.1)),.t 6 (.t (tI t.2.1)),.x 10,.x 11,.x 12,.x 13,.x 14,.x 16,.x 17,.x 18,.x 19,.x 21,.x 22,.x 23,.x 24,.x 26,.x 27,.x 28,.x 33,.x 34,.x 35,.x 36,.x 40,.x 41,.x 42,.x 43,.x 45,.x 46,.x 47,.x 48,.x 50,.x 51,.x 52,.x 57,.x 61,.x 62,.x 63,.x 68,.x 77,.x 78,.x 79,.x 81,.x 82,.x 83,.x 84,.x 91,.x 92,.x 93,.b 1000000 (.box (av2 (Q4 t.2.2) [(63,.own 1000001)])),.b 1000001 (.rs 267 7 t.2.2.out.N9 B1)]) (.I ((v3.ad7==0)||(r5.2.2 !=0)) (.D [] []<| .K (aO1 v3.b v3.c.O8 0) fun r6=>.KG (u5 v3 r6.2.2) [] fun v4=>.R (0,r6.2.1,v4)) (.R (r5.1,r5.2.1,v3))) fun s2=>.I (decide (s2.1>0)) (.D [] []<| .K (aO2 s2.2.2.t s2.1 s2.2.2.i.aH9) fun r7=>.KG (u5 (⟨s2.2.2.t,s2.2.2.e,s2.2.2.b,(⟨s2.2.2.c.I4,s2.2.2.c.ae3,s2.2.2.c.aa6,s2.2.2.c.P9,s2.2.1,s2.2.2.c.af0⟩:A5),s2.2.2.i,s2.2.2.wanted,s2.2.2.w9,s2.2.2.ad7,s2.2.2.late,s2.2.2.pattern,s2.2.2.time,s2.2.2.out,s2.2.2.fail⟩:k6) r7.2) [] fun v5=>.K (C4 r7.1 200 20000) fun v6=>.R ({v5 with time:=v6}:k6)) (.R (⟨s2.2.2.t,s2.2.2.e,s2.2.2.b,(⟨s2.2.2.c.I4,s2.2.2.c.ae3,s2.2.2.c.aa6,s2.2.2.c.P9,s2.2.1,s2.2.2.c.af0⟩:A5),s2.2.2.i,s2.2.2.wanted,s2.2.2.w9,s2.2.2.ad7,s2.2.2.late,s2.2.2.pattern,s2.2.2.time,s2.2.2.out,s2.2.2.fail⟩:k6)))
def az8 (k:B6):C prog Bool:=.of Z call358 func358 [aW8 k] (fun r=>.t (tB r)) (
 .K (aw4 k) fun v=>.R (!v))
def aF2 (n2:Int):C prog Bool:=.of Z call359 func359 [.t (tI n2)] (fun r=>.t (tB r)) (
 .K (ah0 n2) fun v=>.R (!v))
def ac9 (s:List B6):CG prog (List B6):=.of Z call360 func360 [.t (tS I3 s)] [] (fun _=>.own 900000) (fun r=>[(900000,.rs 205 3 r I3)]) [900000] (
 .Nl I3 s (.I true (.Z (.np 2 70000 205 3 [])<| .R ([]:List B6)) .N) (fun s=>.I false .N (.U (.ap I3 ([]:List B6) s 5) fun l=>.R l)))
def aG9 (k:B6)(n2:Int):C prog (B6×Bool):=.of Z call361 func361 [aW8 k,.t (tI n2)] (fun r=>.P7 [aW8 r.1,.t (tB r.2)]) (
 .I (decide (n2>(j7 ((j7 (3*k.aH3))+40)))) (.R ((⟨F2 (j7 (k.as4+96)) 960,k.aH3,0⟩:B6),true)) (.J0 0 (fun(t:Int×Int)=>[.x 7,.x 19,.x 22,.x 23,.b 2 (.box [.t (tI t.1),.t (tI k.aH3),.t (tI t.2)])]) (.I ((j7 (k.Quiet+1))==100) (.R (G4 (j7 (k.as4-16)) 0,0)) (.R (k.as4,j7 (k.Quiet+1)))) fun s=>.D [] []<| .K (V1 (j7 (n2-k.aH3)) 8) fun v=>.R ((⟨s.1,j7 (k.aH3+v),s.2⟩:B6),false)))
def aL6 (l:List B6)(af5:List Int)(i:Int)(f2:List B6):M prog (List B6×Int) (Fl (List B6) Empty):=
 .D [] [(15,2240)]<| .O (.ix I3 l i) fun x=>.O (.ix aJ6 af5 i) fun x2=>.K (aG9 x x2) fun r2=>.O (.ix I3 f2 i) fun _=>.U (.st I3 f2 i r2.1 0) fun l2=>.R (.next l2)
def aU1 (l:List B6)(af5:List Int):C prog (List B6×Int):=.of Z call310 func310 [.t (tS I3 l),.t (tS aJ6 af5)] (fun r=>.P7 [.t (tS I3 r.1),.t (tI r.2)]) (
 .G (((decide ((l.length:Int)<1))||(decide ((l.length:Int)>8)))||((af5.length:Int) !=(l.length:Int))) (.R true) (.K (I7 l (.of (fun z_=>az8 z_) 358 [])) fun v=>.R v) fun b2=>.I b2 (.R (([]:List B6),1)) (.K (o5 af5 (.of (fun z_=>aF2 z_) 359 [])) fun v2=>.I v2 (.R (([]:List B6),2)) (.KG (ac9 l) [2240] fun v3=>M.QN (v3.length:Int) 2 33 (fun(t:List B6)=>[.x 30,.x 31,.b 2240 (.rs 205 3 t I3)]) 0 (.e) (aL6 l af5) v3 (fun f3=>.R (f3,0)) (fun t=>t.elim))))
def az9 (a b2:Int):C prog Int:=.of Z call411 func411 [.t (tI a),.t (tI b2)] (fun r=>.t (tI r)) (
 .R (j7 (b2-a)))
def aG0 (l:List Int):C prog Bool:=.of Z call388 func388 [.t (tS aJ6 l)] (fun r=>.t (tB r)) (
 .K (H7 l (.of (fun z_=>az9 z_.1 z_.2) 411 [])) fun v=>.R v)
def Q3 (x low high:Int):C prog Bool:=.of Z call363 func363 [.t (tI x),.t (tI low),.t (tI high)] (fun r=>.t (tB r)) (
 .R ((decide (x>=low))&&(decide (x<=high))))
def as3 (x c c2:Int):C prog Bool:=.of Z call412 func412 [.t (tI x),.el (aJ6 c),.el (aJ6 c2)] (fun r=>.t (tB r)) (
 .K (Q3 x c c2) fun v=>.R (!v))
def ac6 (l:List Int)(low high:Int):C prog Bool:=.of Z call390 func390 [.t (tS aJ6 l),.t (tI low),.t (tI high)] (fun r=>.t (tB r)) (
 .Z (.fb 4)<| .Z (.fb 5)<| .K (o5 l (.of (fun z_=>as3 z_ low high) 412 [aJ6 low,aJ6 high])) fun v=>.R v)
def av4 (l:List Int):C prog Bool:=.of Z call389 func389 [.t (tS aJ6 l)] (fun r=>.t (tB r)) (
 .K (ac6 l (-1280) 3840) fun v=>.R v)
def ax0 (t2:o6):C prog Bool:=.of Z call362 func362 [S4 t2] (fun r=>.t (tB r)) (
 .K (I8 t2.N8) fun v=>.G (!v) (.R true) (.K (P0 t2.ae6) fun v2=>.R (!v2)) fun b2=>.G b2 (.R true) (.K (P0 t2.C1) fun v3=>.R (!v3)) fun b3=>.G b3 (.R true) (.K (aG0 t2.C1.Y) fun v4=>.R (!v4)) fun b4=>.I b4 (.R false) (.K (F6 t2.N8.Z (.of (fun z_=>av4 z_) 389 [])) fun v5=>.G (!v5) (.K (ac6 t2.ae6.Y 500 10000) fun v6=>.R (!v6)) (.R false) fun b5=>.G b5 (.K (ac6 t2.C1.Y 0 1000) fun v7=>.R (!v7)) (.R false) fun b6=>.R b6))
def aF9 (t2:o6)(B7 M1:Int):C prog (Int×Int):=.of Z call311 func311 [S4 t2,.t (tI B7),.t (tI M1)] (fun r=>.P7 [.t (tI r.1),.t (tI r.2)]) (
 .K (ax0 t2) fun v=>.I (!v) (.R (0,1)) (.K (Q3 B7 0 20000) fun v2=>.G (!v2) (.R true) (.K (Q3 M1 4000 1000000) fun v3=>.R (!v3)) fun b2=>.I b2 (.R (0,2)) (.K (as8 t2.ae6 B7) fun v4=>.R (F2 v4 (j7 (db0 (j7 (3*M1)) 4)),0))))
def aM4 (t2:o6)(o7 w9:Int):C prog (Int×Int):=.of Z call364 func364 [S4 t2,.t (tI o7),.t (tI w9)] (fun r=>.P7 [.t (tI r.1),.t (tI r.2)]) (
 .K (ax0 t2) fun v=>.I (!v) (.R (0,1)) (.K (Q3 o7 0 12000) fun v2=>.G (!v2) (.R true) (.K (Q3 w9 0 1048576) fun v3=>.R (!v3)) fun b2=>.I b2 (.R (0,2)) (.K (X8 t2.N8 o7 w9) fun v4=>.R (v4,0))))
def aF8 (t2:o6)(o7 w9 D3 bi9:Int):C prog (Int×Int):=.of Z call312 func312 [S4 t2,.t (tI o7),.t (tI w9),.t (tI D3),.t (tI bi9)] (fun r=>.P7 [.t (tI r.1),.t (tI r.2)]) (
 .K (aM4 t2 o7 w9) fun r2=>.I (r2.2 !=0) (.R (0,r2.2)) (.K (Q3 D3 (-40) 150) fun v=>.G (!v) (.R true) (.K (Q3 bi9 0 1280) fun v2=>.R (!v2)) fun b2=>.I b2 (.R (0,2)) (.I (decide (D3<20)) (.K (C4 (j7 ((j7 (r2.1+(j7 (2*(j7 (20-D3))))))-bi9)) (-1280) 3840) fun v3=>.R (v3,0)) (.I (decide (D3>100)) (.K (C4 (j7 ((j7 (r2.1-(j7 (8*(j7 (D3-100))))))-bi9)) (-1280) 3840) fun v4=>.R (v4,0)) (.K (C4 (j7 (r2.1-bi9)) (-1280) 3840) fun v5=>.R (v5,0))))))
def ad1 (r3:Int×Int)(i:Int)(f2:k6):M prog k6 (Fl k6 Empty):=
 .D [] []<| .O (.ix I3 f2.c.aa6 i) fun x=>.K (aF8 f2.t f2.i.D1 f2.w9 f2.i.au3 x.as4) fun r4=>.KG (u5 f2 r4.2) [] fun v4=>.O (.ix Pv.dG2 v4.pattern i) fun x2=>.J0 0 (fun(t:Int)=>[.x 70,.x 71,.x 72,.x 74,.x 75,.x 76,.x 77,.x 79,.x 80,.x 81,.x 83,.x 84,.x 85,.x 86,.x 88,.x 89,.x 90,.x 91,.x 100,.x 106,.x 107,.x 108,.x 115,.x 116,.x 117,.c 8 4 [.t (tI t)]]) (.I x2 (.R v4.time) (.R 0)) fun f3=>.Pn 40000<| .D [] [(8,40000)]<| .U (.ap B1 v4.out.N9 ([(⟨j7 (i+1),G4 (-1280) (j7 (r4.1-v4.late)),G4 500 r3.1,5760,f3,0,0⟩:A0)]:List A0) 40000) fun l=>.R (.next ({v4 with out:=(⟨v4.out.I6,l,v4.out.o8⟩:O3)}:k6))
def Z8 (s:k6):CG prog k6:=.of Z call226 func226 [.ptr 1000000 0] [(1000000,.box (av2 (Q4 s) [(63,.own 1000001)])),(1000001,.rs 267 7 s.out.N9 B1)] (fun _=>.P7 []) (fun r=>[(900000,.rs 267 7 r.out.N9 B1),(1000000,.box (av2 (Q4 r) [(63,.own 900000)]))]) [900000] (
 .D [] [(18,1000000)]<| .K (aU1 s.c.aa6 s.i.X0) fun r2=>.KG (u5 ({s with c:=(⟨s.c.I4,s.c.ae3,r2.1,s.c.P9,s.c.O8,s.c.af0⟩:A5)}:k6) r2.2) [] fun v=>.O (.quo .i64 60000000 (G4 1 v.i.D1)) fun q=>.K (C4 q 4000 1000000) fun v2=>.D [] []<| .K (aF9 v.t v.i.aH9 v2) fun r3=>.KG (u5 v r3.2) [] fun v3=>.I (v3.fail !=0) (.R v3) (.Z (.rn [(1000001,40000)])<|M.QN (v3.e.z8.length:Int) 2 66 (fun(t:k6)=>[.x 10,.x 11,.x 12,.x 13,.x 14,.x 16,.x 17,.x 18,.x 19,.x 24,.x 25,.x 26,.x 27,.x 30,.x 31,.x 32,.x 33,.x 39,.x 40,.x 41,.x 43,.x 44,.x 45,.x 46,.x 52,.x 55,.x 56,.x 57,.x 60,.x 61,.x 62,.x 63,.b 40000 (.rs 267 7 t.out.N9 B1),.b 1000000 (.box (av2 (Q4 t) [(63,.own 40000)]))]) 0 (.e) (ad1 r3) v3 (fun f4=>.R f4) (fun t=>t.elim)))
def aE3 (t2:o6)(e2:o4)(b2:L0)(c:A5)(i:W4):CG prog (A5×O3×Int):=.of Z call146 func146 [S4 t2,at5 e2,aL0 b2,aQ0 c,cZ1 i] [] (fun r=>.P7 [aQ0 r.1,.agg [.t (tI r.2.1.I6),.own 900000,.t (tI r.2.1.o8)],.t (tI r.2.2)]) (fun r=>[(900000,.rs 267 7 r.2.1.N9 B1)]) [900000] (
 .K (ab8 t2) fun v=>.G (!v) (.R true) (.K (ai9 b2) fun v2=>.R (!v2)) fun b3=>.G b3 (.R true) (.K (ap5 e2 c) fun v3=>.R (!v3)) fun b4=>.I b4 (.Z (.nb 11 70000 267 7 [1])<| .R ((⟨(⟨0,0,false⟩:U2),(⟨0⟩:F4),([]:List B6),(⟨false,false,0,0,([]:List aa7)⟩:M6),0,(⟨0,0⟩:Z7)⟩:A5),(⟨0,([]:List A0),0⟩:O3),1)) (.K (au8 i (e2.z8.length:Int)) fun v4=>.I (!v4) (.Z (.nb 11 70000 267 7 [1])<| .R ((⟨(⟨0,0,false⟩:U2),(⟨0⟩:F4),([]:List B6),(⟨false,false,0,0,([]:List aa7)⟩:M6),0,(⟨0,0⟩:Z7)⟩:A5),(⟨0,([]:List A0),0⟩:O3),2)) (.Z (.nb 46 2388 267 7 [63])<| .KG (W6 (⟨t2,e2,b2,c,i,0,0,0,0,([]:List Bool),0,(⟨0,([]:List A0),0⟩:O3),0⟩:k6)) [] fun v5=>.KG (T7 v5) [] fun v6=>.KG (Z9 v6) [] fun v7=>.KG (ad5 v7) [] fun v8=>.KG (Z8 v8) [2448] fun v9=>.I (v9.fail !=0) (.D [] [(6,10),(7,11)]<| .Z (.nb 11 70000 267 7 [1])<| .R ((⟨(⟨0,0,false⟩:U2),(⟨0⟩:F4),([]:List B6),(⟨false,false,0,0,([]:List aa7)⟩:M6),0,(⟨0,0⟩:Z7)⟩:A5),(⟨0,([]:List A0),0⟩:O3),v9.fail)) (.D [] [(8,10)]<| .R (v9.c,v9.out,0)))))
def bx5 (old:A5):C prog A5:=.of Z call147 func147 [aQ0 old] (fun r=>.fz 227 [bZ2 r]) (
 .Z (.fb 1)<| .R old)
def bC7 (old:O3):C prog O3:=.of Z call148 func148 [dC5 old] (fun r=>.fz 228 [cl5 r]) (
 .Z (.fb 1)<| .R old)
def bo6 (R8:A5)(e2:Int)(c:A5):C prog A5:=.of Z call227 func227 [aQ0 R8,.t (tI e2),.el (bZ2 c)] (fun r=>aQ0 r) (
 .I (e2 !=0) (.R c) (.R R8))
def bs9 (R8:O3)(e2:Int)(c:O3):CG prog O3:=.of Z call228 func228 [.agg [.t (tI R8.I6),.own 1000000,.t (tI R8.o8)],.t (tI e2),.el (cl5 c)] [(1000000,.rs 267 7 R8.N9 B1)] (fun r=>.agg [.t (tI r.I6),.own 900000,.t (tI r.o8)]) (fun r=>[(900000,.rs 267 7 r.N9 B1)]) [900000] (
 .I (e2 !=0) (M.N) (.R R8))
def aT1 (s:j8):CG prog j8:=.of Z call81 func81 [.ptr 1000000 0] [(1000000,.box (av2 (G2 s) [(107,.own 1000001),(113,.own 1000002)])),(1000001,.rs 267 7 s.E6.N9 B1),(1000002,.rs 95 3 s.u9 p7)] (fun _=>.P7 []) (fun r=>[(900000,.rs 267 7 r.E6.N9 B1),(1000000,.box (av2 (G2 r) [(107,.own 900000),(113,.own 1000002)])),(1000002,.rs 95 3 r.u9 p7)]) [900000] (
 .D [] []<| .K (D2 s 0) fun v=>.K (D2 s 1) fun v2=>.Mk aJ6 (s.u.j3.u4.z8.length:Int) 0 fun l=>.K (bh6 s) fun v3=>.Z (.fr 40)<| .Z (.fr 43)<| .D [] [(17,2504),(24,4),(25,5)]<| .KG (aE3 s.u.u6 s.u.j3.u4 s.u.aa4 s.u.u3 (⟨v,v2,s.o7,s.B9,s.aP8,13500,s.aJ0,s.D3,l,([v3]:List j2)⟩:W4)) [2504] fun r2=>.D [] []<| .K (bx5 s.u.u3) fun v4=>.K (bo6 r2.1 r2.2.2 v4) fun v5=>.Pn 2504<| .D [] [(5,2504)]<| .K (bC7 (⟨0,([]:List A0),0⟩:O3)) fun v6=>.KG (bs9 r2.2.1 r2.2.2 v6) [2504] fun v7=>.R ({s with u:=(⟨s.u.u6,v5,s.u.j3,s.u.Q0,s.u.M5,s.u.H6,s.u.M4,s.u.K8,s.u.L5,s.u.H4,s.u.A7,s.u.aa4,s.u.Time⟩:ae5),E6:=v7}:j8))
def U3 (r2:j2):C prog Bool:=.of Z call232 func232 [G5 r2] (fun r=>.t (tB r)) (
 .K (R9 r2) fun v=>.R (!v))
def aq4 (bn1:List Int)(x i below:Int):M prog (Int×Int) (Fl Int Empty):=
 .O (.ix aJ6 bn1 i) fun x2=>.I (decide (x2<=x)) (.R (.next i)) (.R (.next below))
def ad9 (bn1:List Int)(x:Int)(s:Int×Int):M prog (Int×Int) ((Int×Int)⊕((Int×Int)⊕Empty)):=
 .I (decide (s.1>=0)) (.O (.ix aJ6 bn1 s.1) fun x3=>.I (decide (x3>=x)) (.R (.inl (j7 (s.1-1),s.1))) (.R (.inl (j7 (s.1-1),s.2)))) (.R (.inr (.inl (s.1,s.2))))
def af8 (bn1:List Int)(x:Int):C prog (Int×Int):=.of Z call315 func315 [.t (tS aJ6 bn1),.t (tI x)] (fun r=>.P7 [.t (tI r.1),.t (tI r.2)]) (
 M.QN (bn1.length:Int) 2 11 (fun(t:Int)=>[.t 4 (.t (tI t))]) 0 (.e) (aq4 bn1 x) 0 (fun cK1=>.L (fun(t:Int×Int)=>[.t 5 (.t (tI t.2)),.t 8 (.t (tI t.1))]) 2 (.e) (ad9 bn1 x) (j7 ((bn1.length:Int)-1),j7 ((bn1.length:Int)-1)) (fun s2=>.O (.ix aJ6 bn1 0) fun x4=>.I (decide (x<x4)) (.R (cK1,0)) (.R (cK1,s2.2))) (fun t=>t.elim)) (fun t=>t.elim))
def X5 (m2:SMap)(x y:Int):C prog Int:=.of Z call234 func234 [dh2 m2,.t (tI x),.t (tI y)] (fun r=>.t (tI r)) (
 .K (af8 m2.X x) fun r2=>.K (af8 m2.Y y) fun r3=>.D [] []<| .O (.ix (do4 aJ6) m2.Z r2.1) fun x2=>.O (.ix aJ6 x2 r3.1) fun x3=>.W (.hx 1)<| .O (.ix aJ6 x2 r3.2) fun x4=>.O (.ix (do4 aJ6) m2.Z r2.2) fun x5=>.O (.ix aJ6 x5 r3.1) fun x6=>.W (.hx 1)<| .O (.ix aJ6 x5 r3.2) fun x7=>.R (G4 (G4 (G4 x3 x4) x6) x7))
def aw7 (r2:j2):C prog Bool:=.of Z call235 func235 [G5 r2] (fun r=>.t (tB r)) (
 .R ((r2.Kind==2)||(r2.Kind==3)))
set_option maxHeartbeats 4000000
def af6 (_:Int)(x:j2)(s:Int×Int):M prog (Int×Int) (Fl (Int×Int) Empty):=
 .W (.hx 0)<| .K (aw7 x) fun v6=>.I (!v6) (.R (.next (s.1,s.2))) (.I (x.N1==1) (.R (.next (G4 s.1 (F2 x.o8 1500),G4 s.2 x.E4))) (.R (.next (s.1,G4 s.2 x.E4))))
def af7 (s2:Int×Int)(_:Int)(x2:j2)(at4:Int):M prog (Int×Int) (Fl Int Empty):=
 .W (.hx 0)<| .I ((x2.Kind==1)&&(decide (x2.E4>s2.2))) (.R (.next (F2 at4 x2.o8))) (.R (.next at4))
def ad8 (t2:o6)(be9 o7:Int)(l:List j2):C prog (Int×Int):=.of Z call150 func150 [S4 t2,.t (tI be9),.t (tI o7),.t (tS C6 l)] (fun r=>.P7 [.t (tI r.1),.t (tI r.2)]) (
 .K (I8 t2.aH5) fun v=>.G (!v) (.R true) (.K (D5 l (.of (fun z_=>U3 z_) 232 [])) fun v2=>.R v2) fun b2=>.I b2 (.R (0,1)) (.I (decide ((l.length:Int)>32)) (.R (0,5)) (.K (M8 be9 0 1000) fun v3=>.G (!v3) (.R true) (.K (M8 o7 0 12000) fun v4=>.R (!v4)) fun b3=>.I b3 (.R (0,2)) (.K (X5 t2.aH5 o7 be9) fun v5=>M.Q C6 l 2 49 (fun(t:Int×Int)=>[.t 11 (.t (tI t.1)),.t 12 (.t (tI t.2)),.x 4,.x 19,.x 40,.d 4]) 1 (.e) (af6) ((-5000),(-1)) (fun s2=>M.Q C6 l 2 71 (fun(t:Int)=>[.t 15 (.t (tI t))]) 3 (.e) (af7 s2) 10000 (fun dH7=>.R (j7 ((G4 0 (F2 dH7 (G4 (F2 (G4 v5 (-5000)) 10000) s2.1)))+100),0)) (fun t=>t.elim)) (fun t=>t.elim)))))
def aq3 (_:Int)(x:A0)(n2:Int):M prog (Int×Int) (Fl Int Empty):=
 .W (.hx 0)<| .I (x.Y4 !=0) (.R (.next (j7 (n2+1)))) (.R (.next n2))
def aw6 (t2:o6)(o7 w9:Int)(l:List A0):C prog (Int×Int):=.of Z call153 func153 [S4 t2,.t (tI o7),.t (tI w9),.t (tS B1 l)] (fun r=>.P7 [.t (tI r.1),.t (tI r.2)]) (
 .K (I8 t2.o8) fun v=>.I (!v) (.R (0,1)) (.I (decide ((l.length:Int)>8)) (.R (0,5)) (.K (M8 o7 0 12000) fun v2=>.G (!v2) (.R true) (.K (M8 w9 0 1048576) fun v3=>.R (!v3)) fun b2=>.I b2 (.R (0,2)) (.I ((l.length:Int)==0) (.R (0,0)) (M.Q B1 l 2 38 (fun(t:Int)=>[.t 10 (.t (tI t)),.x 15]) 1 (.e) (aq3) 0 (fun n3=>.K (X5 t2.o8 o7 w9) fun v4=>.O (.quo .i64 (j7 ((j7 ((j7 ((F2 (G4 v4 0) 10000)*n3))+(l.length:Int)))-1)) (l.length:Int)) fun q=>.R (q,0)) (fun t=>t.elim))))))
def at9 (c:j8):CG prog Int:=.of Z call152 func152 [.ptr 1000000 0] [(1000000,.box [.ptr 1000001 0]),(1000001,.box (av2 (G2 c) [(107,.own 1000002),(113,.own 1000003)])),(1000002,.rs 267 7 c.E6.N9 B1),(1000003,.rs 95 3 c.u9 p7)] (fun r=>.t (tI r)) (fun _=>[(1000000,.box [.ptr 1000001 0]),(1000001,.box (av2 (G2 c) [(107,.own 1000002),(113,.own 1000003)])),(1000002,.rs 267 7 c.E6.N9 B1),(1000003,.rs 95 3 c.u9 p7)]) [] (
 .D [] []<| .K (aw6 c.u.u6 c.o7 c.w9 c.E6.N9) fun r2=>.R r2.1)
def bQ6 (old:ah3):C prog ah3:=.of Z call155 func155 [bk5 old] (fun r=>.fz 237 [cO0 r]) (
 .Z (.fb 1)<| .R old)
def bu1 (t2:Int):C prog Bool:=.of Z call238 func238 [.t (tI t2)] (fun r=>.t (tB r)) (
 .K (M8 t2 (-20000) 20000) fun v=>.R v)
def aU5 (g:ah3)(U7 dD5:Int):C prog (ah3×Int):=.of Z call156 func156 [bk5 g,.t (tI U7),.t (tI dD5)] (fun r=>.P7 [bk5 r.1,.t (tI r.2)]) (
 .K (aX8 g) fun v=>.I (!v) (.R ((⟨0,0,false⟩:ah3),1)) (.K (bu1 U7) fun v2=>.G (!v2) (.R true) (.K (bu1 dD5) fun v3=>.R (!v3)) fun b2=>.I b2 (.R ((⟨0,0,false⟩:ah3),2)) (.I (decide (dD5>U7)) (.R ((⟨F2 5 (j7 (g.Over+1)),0,(g.Off||((F2 5 (j7 (g.Over+1)))==5))⟩:ah3),0)) (.R ((⟨0,F2 1000 (j7 (g.Calm+1)),g.Off⟩:ah3),0)))))
def bh4 (R8:ah3)(e2:Int)(c:ah3):C prog ah3:=.of Z call237 func237 [bk5 R8,.t (tI e2),.el (cO0 c)] (fun r=>bk5 r) (
 .I (e2 !=0) (.R c) (.R R8))
def aV9 (i:Int)(f3:List A0):M prog j8 (Fl (List A0) Empty):=
 .O (.ix B1 f3 i) fun x=>.U (.st B1 f3 i ({x with Y4:=0}:A0) 0) fun l2=>.R (.next l2)
def aT2 (s:j8):CG prog j8:=.of Z call82 func82 [.ptr 1000000 0] [(1000000,.box (av2 (G2 s) [(107,.own 1000001),(113,.own 1000002)])),(1000001,.rs 267 7 s.E6.N9 B1),(1000002,.rs 95 3 s.u9 p7)] (fun _=>.P7 []) (fun r=>[(1000000,.box (av2 (G2 r) [(107,.own 1000001),(113,.own 1000002)])),(1000001,.rs 267 7 r.E6.N9 B1),(1000002,.rs 95 3 r.u9 p7)]) [] (
 .K (bh6 s) fun v=>.D [] []<| .K (aw2 s.u.u3.I4.Value s.o7 s.D3) fun v2=>.J0 0 (fun(t:List j2)=>[.t 2 (.own 11),.x 0,.x 9,.x 11,.x 12,.x 13,.x 14,.x 15,.x 16,.x 17,.x 20,.x 21,.x 22,.x 24,.x 25,.x 26,.b 11 (.rs 250 4 t C6)]) (.I v2 (.U (.ap C6 ([v]:List j2) ([(⟨1,2,1500,1⟩:j2)]:List j2) 11) fun l=>.R l) (.R ([v]:List j2))) fun f2=>.D [] [(18,1000000)]<| .K (ad8 s.u.u6 s.u.u3.I4.Value s.o7 f2) fun r2=>.D [] [(24,1000000)]<| .K (aB4 s.u.u6 s.o7 s.B9 s.aP8) fun r3=>.KG (at9 ({s with U7:=r2.1,w9:=r3.1}:j8)) [] fun v3=>.K (W7 ({s with U7:=r2.1,w9:=r3.1}:j8) 7) fun r4=>.J0 0 (fun(t:Int×Bool×List A0)=>[.t 5 (.t (tI t.1)),.x 2,.x 4,.x 34,.x 35,.x 36,.x 37,.x 38,.x 41,.x 42,.x 43,.x 45,.x 49,.x 50,.x 52,.x 53,.x 54,.x 55,.x 56,.x 58,.x 59,.x 60,.x 62,.x 63,.x 64,.x 66,.x 67,.x 68,.x 73,.x 74,.x 75,.x 76,.x 79,.x 84,.x 85,.x 86,.c 1000000 112 [.t (tB t.2.1)],.b 1000001 (.rs 267 7 t.2.2 B1),.d 11]) (.I ((decide (v3>r2.1))&&(!r4.2)) (M.QN (s.E6.N9.length:Int) 2 102 (fun(t:List A0)=>[.x 2,.x 34,.x 35,.x 36,.x 37,.x 38,.x 41,.x 42,.x 43,.x 45,.x 49,.x 50,.x 52,.x 53,.x 54,.x 55,.x 56,.x 58,.x 59,.x 60,.x 62,.x 63,.x 64,.x 66,.x 67,.x 68,.x 73,.x 74,.x 75,.x 76,.x 79,.x 84,.x 85,.x 86,.x 93,.x 94,.x 95,.x 96,.x 97,.x 98,.x 99,.x 100,.b 1000001 (.rs 267 7 t B1),.d 11]) 0 (.e) (aV9) s.E6.N9 (fun f4=>.KG (at9 ({s with E6:=(⟨s.E6.I6,f4,s.E6.o8⟩:O3),U7:=r2.1,w9:=r3.1,cut:=true}:j8)) [] fun v4=>.R (v4,true,f4)) (fun t=>t.elim)) (.R (v3,s.cut,s.E6.N9))) fun s2=>.D [] []<| .K (bQ6 s.u.M4) fun v5=>.K (aU5 s.u.M4 r2.1 s2.1) fun r5=>.K (bh4 r5.1 r5.2 v5) fun v6=>.R ({s with u:=(⟨s.u.u6,s.u.u3,s.u.j3,s.u.Q0,s.u.M5,s.u.H6,v6,s.u.K8,s.u.L5,s.u.H4,s.u.A7,s.u.aa4,s.u.Time⟩:ae5),E6:=(⟨s.E6.I6,s2.2.2,s.E6.o8⟩:O3),U7:=r2.1,w9:=r3.1,cut:=s2.2.1}:j8))
def ab7 (a b2:Int):C prog Int:=.of Z call157 func157 [.t (tI a),.t (tI b2)] (fun r=>.t (tI r)) (
 .I ((b2==0)||(b2==(-1))) (.R 0) (.O (.rem a b2) fun q=>.I ((q !=0)&&(!((decide (q<0))==(decide (b2<0))))) (.R (j7 (q+b2))) (.R q)))
def cx0 (n2:Int):C prog Bool:=.of Z call241 func241 [.t (tI n2)] (fun r=>.t (tB r)) (
 .R ((decide (n2>=0))&&(decide (n2<=65535))))
def dm9 (p2:Int):C prog Bool:=.of Z call318 func318 [.t (tI p2)] (fun r=>.t (tB r)) (
 .K (cx0 p2) fun v=>.R (!v))
def bJ5 (l:List Int):C prog Bool:=.of Z call239 func239 [.t (tS aJ6 l)] (fun r=>.t (tB r)) (
 .G ((decide ((l.length:Int)>=1))&&(decide ((l.length:Int)<=16))) (.K (o5 l (.of (fun z_=>dm9 z_) 318 [])) fun v=>.R (!v)) (.R false) fun b2=>.R b2)
def bu6 (_ x a:Int):M prog (Int×Int) (Fl Int Empty):=
 .W (.hx 0)<| .R (.next (N2 .i64 (j7 ((j7 ((j7 (5*a))+x))+1)) 65535))
def bm4 (n2:Int)(l:List Int):C prog (Int×Int):=.of Z call158 func158 [.t (tI n2),.t (tS aJ6 l)] (fun r=>.P7 [.t (tI r.1),.t (tI r.2)]) (
 .K (bJ5 l) fun v=>.I (!v) (.R (0,1)) (.K (aY0 n2) fun v2=>.I (!v2) (.R (0,2)) (M.Q aJ6 l 2 18 (fun(t:Int)=>[.t 6 (.t (tI t))]) 0 (.e) (bu6) n2 (fun a2=>.R (a2,0)) (fun t=>t.elim))))
def bz3 (old:aa8):C prog aa8:=.of Z call159 func159 [aS6 old] (fun r=>.fz 240 [dc1 r]) (
 .Z (.fb 1)<| .R old)
def cS6 (q:aa8)(right:Bool):C prog aa8:=.of Z call242 func242 [aS6 q,.t (tB right)] (fun r=>aS6 r) (
 .J0 0 (fun(t:Int)=>[.x 5,.x 6,.c 2 2 [.t (tI t)]]) (.I right (.R (G4 (j7 (q.U0-1)) 0)) (.R (F2 (j7 (q.U0+2)) 7))) fun f2=>.R (⟨q.Question,0,f2,false,(f2==7)⟩:aa8))
def cf5 (q:aa8)(now answer:Int)(l:List Int):C prog (aa8×Int):=.of Z call160 func160 [aS6 q,.t (tI now),.t (tI answer),.t (tS aJ6 l)] (fun r=>.P7 [aS6 r.1,.t (tI r.2)]) (
 .K (bi5 q) fun v=>.G (!v) (.R true) (.K (bJ5 l) fun v2=>.R (!v2)) fun b2=>.I b2 (.R ((⟨0,0,0,false,false⟩:aa8),1)) (.K (bq1 now) fun v3=>.G (!v3) (.R true) (.K (cx0 answer) fun v4=>.R (!v4)) fun b3=>.I b3 (.R ((⟨0,0,0,false,false⟩:aa8),2)) (.I (!q.Open) (.R ((⟨0,0,0,false,false⟩:aa8),6)) (.I (decide (now<q.as7)) (.R ((⟨0,0,0,false,false⟩:aa8),16)) (.K (bm4 q.Question l) fun r2=>.K (cS6 q (((r2.1==answer)&&(decide ((j7 (now-q.as7))>=10000)))&&(decide ((j7 (now-q.as7))<=20000)))) fun v5=>.R (v5,0))))))
def cw9 (n2:Int):C prog Int:=.of Z call243 func243 [.t (tI n2)] (fun r=>.t (tI r)) (
 .K (aY0 n2) fun v=>.I (!v) (.R 0) (.I ((N2 .i64 n2 1)==1) (.R (dE5 .i64 (D0 .i64 n2 1) 46080)) (.R (D0 .i64 n2 1))))
def cS4 (q:aa8)(now:Int):C prog (aa8×Int×Int):=.of Z call161 func161 [aS6 q,.t (tI now)] (fun r=>.P7 [aS6 r.1,.t (tI r.2.1),.t (tI r.2.2)]) (
 .K (bi5 q) fun v=>.I (!v) (.R ((⟨0,0,0,false,false⟩:aa8),0,1)) (.K (bq1 now) fun v2=>.I (!v2) (.R ((⟨0,0,0,false,false⟩:aa8),0,2)) (.I (q.Open||q.Off) (.R ((⟨0,0,0,false,false⟩:aa8),0,6)) (.K (cw9 q.Question) fun v3=>.D [] [(3,4)]<| .R ((⟨v3,now,q.U0,true,q.Off⟩:aa8),v3,0)))))
def aZ0 (R8:aa8)(e2:Int)(c:aa8):C prog aa8:=.of Z call240 func240 [aS6 R8,.t (tI e2),.el (dc1 c)] (fun r=>aS6 r) (
 .I (e2 !=0) (.R c) (.R R8))
def aE5 (s:j8):CG prog j8:=.of Z call83 func83 [.ptr 1000000 0] [(1000000,.box (av2 (G2 s) [(113,.own 1000001)])),(1000001,.rs 95 3 s.u9 p7)] (fun _=>.P7 []) (fun r=>[(1000000,.box (av2 (G2 r) [(113,.own 1000001)])),(1000001,.rs 95 3 r.u9 p7)]) [] (
 .J0 0 (fun(t:aa8)=>[.x 10,.x 11,.x 12,.x 13,.x 14,.c 1000000 66 [.t (tI t.Question),.t (tI t.as7),.t (tI t.U0),.t (tB t.Open),.t (tB t.Off)]]) (.I s.u.K8.Open (.D [] []<| .K (ab7 s.U7 65536) fun v=>.K (bm4 s.u.K8.Question ([s.o7,v,7]:List Int)) fun r2=>.K (W7 s 6) fun r3=>.J0 0 (fun(t:Int)=>[.t 3 (.t (tI t)),.x 10,.x 11,.x 12,.x 13,.x 14,.x 16,.x 17,.x 18,.x 20,.x 21,.x 22,.x 25,.x 27,.x 28,.x 29,.x 30,.x 31,.x 33,.x 38]) (.I r3.2 (.K (ab7 (j7 (r2.1+r3.1)) 65536) fun v2=>.R v2) (.R r2.1)) fun answer=>.D [] []<| .K (bz3 s.u.K8) fun v3=>.K (cf5 s.u.K8 s.t answer ([s.o7,v,7]:List Int)) fun r4=>.K (aZ0 r4.1 r4.2 v3) fun v4=>.R v4) (.R s.u.K8)) fun f2=>.D [] [(15,7)]<| .K (cS4 f2 s.t) fun r5=>.D [] []<| .K (bz3 f2) fun v5=>.K (aZ0 r5.1 r5.2.2 v5) fun v6=>.R ({s with u:=(⟨s.u.u6,s.u.u3,s.u.j3,s.u.Q0,s.u.M5,s.u.H6,s.u.M4,v6,s.u.L5,s.u.H4,s.u.A7,s.u.aa4,s.u.Time⟩:ae5)}:j8))
def bQ7 (old:ao0):C prog ao0:=.of Z call162 func162 [bk6 old] (fun r=>.fz 244 [bt3 r]) (
 .Z (.fb 1)<| .R old)
def bU0 (key:Bool)(g:ah3)(q:aa8):C prog Int:=.of Z call245 func245 [.t (tB key),bk5 g,aS6 q] (fun r=>.t (tI r)) (
 .I (!key) (.R 1) (.I g.Off (.R 2) (.I q.Off (.R 3) (.R 0))))
def cg3 (s:ao0)(key:Bool)(g:ah3)(q:aa8)(now:Int):C prog (ao0×Int):=.of Z call163 func163 [bk6 s,.t (tB key),bk5 g,aS6 q,.t (tI now)] (fun r=>.P7 [bk6 r.1,.t (tI r.2)]) (
 .K (bm6 s) fun v=>.G (!v) (.R true) (.K (aX8 g) fun v2=>.R (!v2)) fun b2=>.G b2 (.R true) (.K (bi5 q) fun v3=>.R (!v3)) fun b3=>.I b3 (.R ((⟨false,0,0⟩:ao0),1)) (.K (bK1 now) fun v4=>.I (!v4) (.R ((⟨false,0,0⟩:ao0),2)) (.I (decide (now<s.aQ2)) (.R ((⟨false,0,0⟩:ao0),16)) (.D [] []<| .K (bU0 key g q) fun v5=>.I (!((v5==0)==s.T6)) (.R ((⟨(v5==0),v5,now⟩:ao0),0)) (.R ((⟨(v5==0),v5,s.aQ2⟩:ao0),0))))))
def aB9 (old:c8):C prog c8:=.of Z call166 func166 [R5 old] (fun r=>.fz 251 [bd8 r]) (
 .Z (.fb 1)<| .R old)
def am6 (R8:c8)(e2:Int)(c:c8):C prog c8:=.of Z call251 func251 [R5 R8,.t (tI e2),.el (bd8 c)] (fun r=>R5 r) (
 .I (e2 !=0) (.R c) (.R R8))
def aG6 (s:j8)(R8:c8)(l:List j6)(e2:Int):CG prog j8:=.of Z call164 func164 [.ptr 1000000 0,R5 R8,.t (tS p7 l),.t (tI e2)] [(1000000,.box (av2 (G2 s) [(113,.own 1000001)])),(1000001,.rs 95 3 s.u9 p7)] (fun _=>.P7 []) (fun r=>[(900000,.rs 95 3 r.u9 p7),(1000000,.box (av2 (G2 r) [(113,.own 900000)]))]) [900000] (
 .D [] []<| .K (aB9 s.u.j3) fun v=>.K (am6 R8 e2 v) fun v2=>.I (e2==0) (.Z (.rn [(1000001,2232)])<| .U (.ap p7 s.u9 l 2232) fun l2=>.R ({s with u:=(⟨s.u.u6,s.u.u3,v2,s.u.Q0,s.u.M5,s.u.H6,s.u.M4,s.u.K8,s.u.L5,s.u.H4,s.u.A7,s.u.aa4,s.u.Time⟩:ae5),u9:=l2}:j8)) (.R ({s with u:=(⟨s.u.u6,s.u.u3,v2,s.u.Q0,s.u.M5,s.u.H6,s.u.M4,s.u.K8,s.u.L5,s.u.H4,s.u.A7,s.u.aa4,s.u.Time⟩:ae5)}:j8)))
def T5 (s:List A0):C prog (List A0):=.of Z call253 func253 [.t (tS B1 s)] (fun r=>.t (tS B1 r)) (
 .Nl B1 s (.I true (.R ([]:List A0)) .N) (fun s=>.I false .N (.U (.ap B1 ([]:List A0) s 5) fun l=>.R l)))
def aj1 (s:List A4):CG prog (List A4):=.of Z call319 func319 [.t (tS I0 s)] [] (fun _=>.own 900000) (fun r=>[(900000,.rs 221 7 r I0)]) [900000] (
 .Nl I0 s (.I true (.Z (.np 2 70000 221 7 [])<| .R ([]:List A4)) .N) (fun s=>.I false .N (.U (.ap I0 ([]:List A4) s 5) fun l=>.R l)))
def L2 (s:c8):CG prog c8:=.of Z call246 func246 [R5 s] [] (fun r=>.agg [.t (tS aJ6 r.u4.z8),.t (tI r.u4.ao2),.t (tB r.A1.V6),.t (tI r.A1.At),.t (tI r.A1.G7),.t (tI r.A1.E9),.t (tI r.A1.X1),.t (tI r.A1.am3),.t (tI r.j9.T1),.t (tS E5 r.j9.j1),.t (tS B1 r.Next),.own 900000,.t (tB r.Cut)]) (fun r=>[(900000,.rs 221 7 r.G3 I0)]) [900000] (
 .KG (aj1 s.G3) [2040] fun v=>.K (T5 s.Next) fun v2=>.R ({s with Next:=v2,G3:=v}:c8))
def ag5 (t2:u0)(channel:Int):CG prog (u0×Int):=.of Z call320 func320 [aM8 t2,.t (tI channel)] [] (fun r=>.P7 [.agg [.t (tI r.1.T1),.own 900000],.t (tI r.2)]) (fun r=>[(900000,.rs 327 4 r.1.j1 E5)]) [900000] (
 .K (an6 t2) fun v=>.I (!v) (.Z (.nb 4 70000 327 4 [1])<| .R ((⟨0,([]:List j5)⟩:u0),1)) (.I ((decide (channel<0))||(decide (channel>=(t2.j1.length:Int)))) (.Z (.nb 4 70000 327 4 [1])<| .R ((⟨0,([]:List j5)⟩:u0),2)) (.Mk E5 (t2.j1.length:Int) (⟨false,0,false,false⟩:j5) fun l=>.U (.cp E5 l t2.j1) fun l2=>.R ((⟨t2.T1,l2⟩:u0),0))))
def aG2 (t2:u0)(channel:Int)(level:Bool):C prog (u0×List j6×Int):=.of Z call247 func247 [aM8 t2,.t (tI channel),.t (tB level)] (fun r=>.P7 [aM8 r.1,.t (tS p7 r.2.1),.t (tI r.2.2)]) (
 .KG (ag5 t2 channel) [2112] fun r2=>.I (r2.2 !=0) (.R ((⟨0,([]:List j5)⟩:u0),([]:List j6),r2.2)) (.O (.ix E5 r2.1.j1 channel) fun _=>.U (.st E5 r2.1.j1 channel (⟨false,0,false,level⟩:j5) 0) fun l=>.O (.ix E5 t2.j1 channel) fun x2=>.I (x2.K2==level) (.R ((⟨r2.1.T1,l⟩:u0),([]:List j6),0)) (.D [] [(7,6)]<| .R ((⟨r2.1.T1,l⟩:u0),([(⟨t2.T1,channel,level⟩:j6)]:List j6),0))))
def az0 (t2:u0)(channel:Int):C prog (u0×Int):=.of Z call248 func248 [aM8 t2,.t (tI channel)] (fun r=>.P7 [aM8 r.1,.t (tI r.2)]) (
 .KG (ag5 t2 channel) [2088] fun r2=>.I (r2.2 !=0) (.R ((⟨0,([]:List j5)⟩:u0),r2.2)) (.D [] []<| .O (.ix E5 t2.j1 channel) fun x=>.O (.ix E5 r2.1.j1 channel) fun _=>.U (.st E5 r2.1.j1 channel (⟨false,0,false,x.K2⟩:j5) 0) fun l=>.R ((⟨r2.1.T1,l⟩:u0),0)))
def as2 (j:A4)(c:Int):C prog Bool:=.of Z call249 func249 [bc4 j,.el (aJ6 c)] (fun r=>.t (tB r)) (
 .D [] []<| .K (G9 j.Event) fun v=>.R (v==c))
def aJ5 (t2:u0)(channel aY6:Int)(level:Bool):C prog (u0×Int):=.of Z call250 func250 [aM8 t2,.t (tI channel),.t (tI aY6),.t (tB level)] (fun r=>.P7 [aM8 r.1,.t (tI r.2)]) (
 .KG (ag5 t2 channel) [2120] fun r2=>.I (r2.2 !=0) (.R ((⟨0,([]:List j5)⟩:u0),r2.2)) (.I (decide (aY6<=t2.T1)) (.R ((⟨0,([]:List j5)⟩:u0),16)) (.I (decide (aY6>1099511627776)) (.R ((⟨0,([]:List j5)⟩:u0),2)) (.D [] []<| .O (.ix E5 t2.j1 channel) fun x=>.O (.ix E5 r2.1.j1 channel) fun _=>.U (.st E5 r2.1.j1 channel (⟨true,aY6,level,x.K2⟩:j5) 0) fun l=>.R ((⟨r2.1.T1,l⟩:u0),0)))))
def ac2 (s:c8)(i:Int)(s2:List j6×u0×List A4):M prog (c8×List j6×Int) (Fl (List j6×u0×List A4) Empty):=
 .O (.ix E5 s.j9.j1 i) fun x=>.I (x.K2&&((!((ew5 i 2)==0))||(s.j9.T1==1099511627776))) (.K (aG2 s2.2.1 i false) fun r2=>.U (.ap p7 s2.1 r2.2.1 2528) fun l=>.R (.next (l,r2.1,s2.2.2))) (.K (az0 s2.2.1 i) fun r3=>.I (!x.K2) (.R (.next (s2.1,r3.1,s2.2.2))) (.Z (.fb 8)<| .K (C0 s.G3 (.of (fun z_=>as2 z_ i) 249 [aJ6 i])) fun v3=>.O (.ix I0 s.G3 v3) fun x2=>.J0 0 (fun(t:Int)=>[.x 9,.x 44,.x 68,.x 75,.x 76,.x 79,.x 83,.x 88,.c 17 6 [.t (tI t)],.d 9]) (.I ((!x2.D6)||(decide (x2.At>(j7 (s.j9.T1+5000))))) (.R (F2 (j7 (s.j9.T1+5000)) 1099511627776)) (.R x2.At)) fun f2=>.K (aJ5 r3.1 i f2 false) fun r4=>.U (.ap I0 s2.2.2 ([(⟨x2.Event,x2.Left,true,f2⟩:A4)]:List A4) 2944) fun l2=>.R (.next (s2.1,r4.1,l2))))
def ao5 (s:c8):C prog (c8×List j6×Int):=.of Z call165 func165 [R5 s] (fun r=>.P7 [R5 r.1,.t (tS p7 r.2.1),.t (tI r.2.2)]) (
 .K (J4 s) fun v=>.I (!v) (.R ((⟨(⟨([]:List Int),0⟩:o4),(⟨false,0,0,0,0,0⟩:D8),(⟨0,([]:List j5)⟩:u0),([]:List A0),([]:List A4),false⟩:c8),([]:List j6),1)) (.K ((L2 s).f rfl (fun _=>rfl)) fun v2=>.I s.Cut (.R (v2,([]:List j6),0)) (.Z (.np 7 2528 95 3 [])<| .Z (.nb 5 2944 221 7 [11])<|M.QN (s.j9.j1.length:Int) 2 36 (fun(t:List j6×u0×List A4)=>[.t 7 (.own 2528),.x 24,.x 27,.x 28,.x 29,.x 30,.x 32,.x 33,.c 5 8 [.t (tI t.2.1.T1),.t (tS E5 t.2.1.j1)],.b 2528 (.rs 95 3 t.1 p7),.b 2944 (.rs 221 7 t.2.2 I0)]) 0 (.e) (ac2 s) (([]:List j6),v2.j9,([]:List A4)) (fun s3=>.R ((⟨v2.u4,v2.A1,s3.2.1,v2.Next,s3.2.2,true⟩:c8),s3.1,0)) (fun t=>t.elim))))
def ag0 (x:j5):C prog Bool:=.of Z call252 func252 [aZ9 x] (fun r=>.t (tB r)) (
 .R x.K2)
def ac3 (s:c8):C prog (c8×Int):=.of Z call167 func167 [R5 s] (fun r=>.P7 [R5 r.1,.t (tI r.2)]) (
 .K (J4 s) fun v=>.I (!v) (.R ((⟨(⟨([]:List Int),0⟩:o4),(⟨false,0,0,0,0,0⟩:D8),(⟨0,([]:List j5)⟩:u0),([]:List A0),([]:List A4),false⟩:c8),1)) (.G (!s.Cut) (.R true) (.K (G1 s.j9.j1 (.of (fun z_=>ag0 z_) 252 [])) fun v2=>.R v2) fun b2=>.I b2 (.R ((⟨(⟨([]:List Int),0⟩:o4),(⟨false,0,0,0,0,0⟩:D8),(⟨0,([]:List j5)⟩:u0),([]:List A0),([]:List A4),false⟩:c8),6)) (.K ((L2 s).f rfl (fun _=>rfl)) fun v3=>.R (({v3 with Cut:=false}:c8),0))))
def aq6 (s:c8)(l:List A0):C prog (c8×Int):=.of Z call168 func168 [R5 s,.t (tS B1 l)] (fun r=>.P7 [R5 r.1,.t (tI r.2)]) (
 .K (J4 s) fun v=>.G (!v) (.R true) (.K (ab0 s.u4 l) fun v2=>.R (!v2)) fun b2=>.I b2 (.R ((⟨(⟨([]:List Int),0⟩:o4),(⟨false,0,0,0,0,0⟩:D8),(⟨0,([]:List j5)⟩:u0),([]:List A0),([]:List A4),false⟩:c8),1)) (.K ((L2 s).f rfl (fun _=>rfl)) fun v3=>.K (T5 l) fun v4=>.R (({v3 with Next:=v4}:c8),0)))
def bh5 (R8:ao0)(e2:Int)(c:ao0):C prog ao0:=.of Z call244 func244 [bk6 R8,.t (tI e2),.el (bt3 c)] (fun r=>bk6 r) (
 .I (e2 !=0) (.R c) (.R R8))
def aZ2 (s:j8):CG prog j8:=.of Z call84 func84 [.ptr 1000000 0] [(1000000,.box (av2 (G2 s) [(113,.own 1000001)])),(1000001,.rs 95 3 s.u9 p7)] (fun _=>.P7 []) (fun r=>[(900000,.rs 95 3 r.u9 p7),(1000000,.box (av2 (G2 r) [(113,.own 900000)]))]) [900000] (
 .D [] []<| .K (bQ7 s.u.L5) fun v=>.K (cg3 s.u.L5 true s.u.M4 s.u.K8 s.t) fun r2=>.K (bh5 r2.1 r2.2 v) fun v2=>.I (!v2.T6) (.K (ao5 s.u.j3) fun r3=>.KG (aG6 ({s with u:=(⟨s.u.u6,s.u.u3,s.u.j3,s.u.Q0,s.u.M5,s.u.H6,s.u.M4,s.u.K8,v2,s.u.H4,s.u.A7,s.u.aa4,s.u.Time⟩:ae5)}:j8) r3.1 r3.2.1 r3.2.2) [2416] fun v3=>.R v3) (.J0 0 (fun(t:c8)=>[.x 2,.x 3,.x 4,.x 5,.x 6,.x 9,.x 10,.x 11,.x 12,.x 14,.x 15,.x 16,.x 17,.x 19,.x 20,.x 21,.x 22,.x 24,.x 25,.x 26,.x 32,.x 33,.x 34,.x 35,.x 36,.x 37,.x 38,.x 39,.x 53,.x 54,.x 55,.x 56,.x 57,.c 1000000 37 [.t (tS aJ6 t.u4.z8),.t (tI t.u4.ao2),.t (tB t.A1.V6),.t (tI t.A1.At),.t (tI t.A1.G7),.t (tI t.A1.E9),.t (tI t.A1.X1),.t (tI t.A1.am3),.t (tI t.j9.T1),.t (tS E5 t.j9.j1),.t (tS B1 t.Next),.t (tS I0 t.G3),.t (tB t.Cut)]]) (.I s.u.j3.Cut (.D [] []<| .K (aB9 s.u.j3) fun v4=>.K (ac3 s.u.j3) fun r4=>.K (am6 r4.1 r4.2 v4) fun v5=>.R v5) (.R s.u.j3)) fun f2=>.D [] []<| .K (aB9 f2) fun v6=>.K (aq6 f2 s.E6.N9) fun r5=>.K (am6 r5.1 r5.2 v6) fun v7=>.R ({s with u:=(⟨s.u.u6,s.u.u3,v7,s.u.Q0,s.u.M5,s.u.H6,s.u.M4,s.u.K8,v2,s.u.H4,s.u.A7,s.u.aa4,s.u.Time⟩:ae5)}:j8)))
def U8 (j:A4)(c:Int):C prog Bool:=.of Z call374 func374 [bc4 j,.el (aJ6 c)] (fun r=>.t (tB r)) (
 .D [] []<| .K (G9 j.Event) fun v=>.R (v==c))
def ay7 (a b2:Int):C prog Int:=.of Z call375 func375 [.t (tI a),.t (tI b2)] (fun r=>.t (tI r)) (
 .O (.quo .i64 a b2) fun q=>.O (.rem a b2) fun q2=>.I (decide (q2>0)) (.R (j7 (q+1))) (.R q))
def U9 (s:c8)(i:Int)(s2:u0×List A4):M prog c8 (Fl (u0×List A4) Empty):=
 .Z (.fb 2)<| .K (C0 s2.2 (.of (fun z_=>U8 z_ i) 374 [aJ6 i])) fun v=>.J0 1 (fun(t:Bool)=>[.t 44 (.t (tB t)),.x 21,.x 22,.x 23,.x 24]) (.D [] []<| .Sp (decide (v<0)) (.R true) (.O (.ix I0 s2.2 v) fun x=>.W (.ly 0)<| .R (decide (x.Left>s.A1.am3)))) fun v2=>.I v2 (.R (.next (s2.1,s2.2))) (.O (.ix I0 s2.2 v) fun x2=>.D [] []<| .W (.ly 0)<| .K (ay7 (j7 (x2.Left*s.A1.E9)) s.A1.X1) fun v3=>.I (decide ((G4 (j7 (s.A1.At+v3)) (j7 (s2.1.T1+1)))>1099511627776)) (.R (.next (s2.1,s2.2))) (.D [] [(17,6)]<| .W (.ly 0)<| .K (aq8 x2.Event.Kind) fun v4=>.K (aJ5 s2.1 i (G4 (j7 (s.A1.At+v3)) (j7 (s2.1.T1+1))) v4) fun r2=>.I (r2.2==0) (.U (.st I0 s2.2 v ({x2 with D6:=true}:A4) 0) fun l=>.U (.st I0 l v (⟨x2.Event,x2.Left,true,G4 (j7 (s.A1.At+v3)) (j7 (s2.1.T1+1))⟩:A4) 0) fun l2=>.R (.next (r2.1,l2))) (.R (.next (s2.1,s2.2)))))
def ak2 (s:c8):CG prog c8:=.of Z call332 func332 [.ptr 1000000 0] [(1000000,.box (av2 (aL1 s) [(11,.own 1000001)])),(1000001,.rs 221 7 s.G3 I0)] (fun _=>.P7 []) (fun r=>[(1000000,.box (av2 (aL1 r) [(11,.own 1000001)])),(1000001,.rs 221 7 r.G3 I0)]) [] (
 .I s.Cut (.R s) (M.QN (s.j9.j1.length:Int) 2 18 (fun(t:u0×List A4)=>[.x 8,.x 9,.x 10,.x 12,.x 13,.x 14,.x 15,.c 1000000 8 [.t (tI t.1.T1),.t (tS E5 t.1.j1)],.b 1000001 (.rs 221 7 t.2 I0)]) 0 (.e) (U9 s) (s.j9,s.G3) (fun s3=>.R ({s with j9:=s3.1,G3:=s3.2}:c8)) (fun t=>t.elim)))
def aH1 (_:Int)(x:j5)(s:Int×Bool):M prog (Int×Bool) (Fl (Int×Bool) Empty):=
 .W (.hx 0)<| .I (x.D6&&((!s.2)||(decide (x.At<s.1)))) (.R (.next (x.At,true))) (.R (.next (s.1,s.2)))
def aM6 (t2:u0):C prog (Int×Bool):=.of Z call333 func333 [aM8 t2] (fun r=>.P7 [.t (tI r.1),.t (tB r.2)]) (
 .K (an6 t2) fun v=>.I (!v) (.R (0,false)) (M.Q E5 t2.j1 2 14 (fun(t:Int×Bool)=>[.t 4 (.t (tI t.1)),.t 5 (.t (tB t.2)),.x 1,.x 11,.d 1]) 0 (.e) (aH1) (0,false) (fun s2=>.R (s2.1,s2.2)) (fun t=>t.elim)))
def cp1:Go.Shelf.Ren:=⟨fun|6=>376|14=>404|15=>405|20=>424|21=>425|22=>426|23=>427|24=>428|25=>429|26=>430|27=>431|28=>432|29=>433|46=>447|47=>448|48=>449|49=>450|50=>451|57=>465|n=>n,fun|0=>0|3=>3|4=>4|5=>5|9=>9|22=>88|24=>95|25=>454|39=>317|45=>487|46=>488|50=>234|53=>383|55=>386|66=>503|70=>507|76=>516|77=>338|n=>n,fun|n=>n⟩
open Go.Shelf in
theorem et8:SlLaysF0.n6 prog cp1:={
 mixed:=by kernel_rfl,
 f6:=⟨Tryz.f376.name,by decide,func376.trans (congrArg some (by kernel_rfl))⟩,
 f14:=⟨Tryz.f404.name,by decide,func404.trans (congrArg some (by kernel_rfl))⟩,
 f15:=func405.trans (congrArg some (by kernel_rfl)),
 f20:=⟨Tryz.f424.name,by decide,func424.trans (congrArg some (by kernel_rfl))⟩,
 f21:=⟨Tryz.f425.name,by decide,func425.trans (congrArg some (by kernel_rfl))⟩,
 f22:=⟨Tryz.f426.name,by decide,func426.trans (congrArg some (by kernel_rfl))⟩,
 f23:=⟨Tryz.f427.name,by decide,func427.trans (congrArg some (by kernel_rfl))⟩,
 f24:=⟨Tryz.f428.name,by decide,func428.trans (congrArg some (by kernel_rfl))⟩,
 f25:=⟨Tryz.f429.name,by decide,func429.trans (congrArg some (by kernel_rfl))⟩,
 f26:=⟨Tryz.f430.name,by decide,func430.trans (congrArg some (by kernel_rfl))⟩,
 f27:=⟨Tryz.f431.name,by decide,func431.trans (congrArg some (by kernel_rfl))⟩,
 f28:=func432.trans (congrArg some (by kernel_rfl)),
 f29:=func433.trans (congrArg some (by kernel_rfl)),
 f46:=⟨Tryz.f447.name,by decide,func447.trans (congrArg some (by kernel_rfl))⟩,
 f47:=func448.trans (congrArg some (by kernel_rfl)),
 f48:=func449.trans (congrArg some (by kernel_rfl)),
 f49:=⟨Tryz.f450.name,by decide,func450.trans (congrArg some (by kernel_rfl))⟩,
 f50:=⟨Tryz.f451.name,by decide,func451.trans (congrArg some (by kernel_rfl))⟩,
 f57:=⟨Tryz.f465.name,by decide,func465.trans (congrArg some (by kernel_rfl))⟩,
 t0:=Tryz.underlying0,
 a0:=Tryz.isAgg0,
 z0:=Tryz.sizeOf0,
 v0:=Tryz.zeroValue0,
 t3:=Tryz.underlying3,
 a3:=Tryz.isAgg3,
 z3:=Tryz.sizeOf3,
 v3:=Tryz.zeroValue3,
 t4:=Tryz.underlying4,
 a4:=Tryz.isAgg4,
 z4:=Tryz.sizeOf4,
 v4:=Tryz.zeroValue4,
 t5:=Tryz.underlying5,
 a5:=Tryz.isAgg5,
 z5:=Tryz.sizeOf5,
 v5:=Tryz.zeroValue5,
 t9:=Tryz.underlying9,
 a9:=Tryz.isAgg9,
 z9:=Tryz.sizeOf9,
 v9:=Tryz.zeroValue9,
 t22:=Tryz.underlying88,
 a22:=Tryz.isAgg88,
 z22:=Tryz.sizeOf88,
 v22:=Tryz.zeroValue88,
 t25:=Tryz.underlying454,
 a25:=Tryz.isAgg454,
 z25:=Tryz.sizeOf454,
 v25:=Tryz.zeroValue454,
 t39:=Tryz.underlying317,
 a39:=Tryz.isAgg317,
 z39:=Tryz.sizeOf317,
 v39:=Tryz.zeroValue317,
 t45:=Tryz.underlying487,
 a45:=Tryz.isAgg487,
 z45:=Tryz.sizeOf487,
 v45:=Tryz.zeroValue487,
 t46:=Tryz.underlying488,
 a46:=Tryz.isAgg488,
 z46:=Tryz.sizeOf488,
 v46:=Tryz.zeroValue488,
 t50:=Tryz.underlying234,
 a50:=Tryz.isAgg234,
 z50:=Tryz.sizeOf234,
 v50:=Tryz.zeroValue234,
 t53:=Tryz.underlying383,
 a53:=Tryz.isAgg383,
 z53:=Tryz.sizeOf383,
 v53:=Tryz.zeroValue383,
 t55:=Tryz.underlying386,
 a55:=Tryz.isAgg386,
 z55:=Tryz.sizeOf386,
 v55:=Tryz.zeroValue386,
 t66:=Tryz.underlying503,
 a66:=Tryz.isAgg503,
 z66:=Tryz.sizeOf503,
 v66:=Tryz.zeroValue503,
 t70:=Tryz.underlying507,
 a70:=Tryz.isAgg507,
 z70:=Tryz.sizeOf507,
 v70:=Tryz.zeroValue507,
 t76:=Tryz.underlying516,
 a76:=Tryz.isAgg516,
 z76:=Tryz.sizeOf516,
 v76:=Tryz.zeroValue516,
 t77:=Tryz.underlying338,
 a77:=Tryz.isAgg338,
 z77:=Tryz.sizeOf338,
 v77:=Tryz.zeroValue338}
theorem bq2 (s:List j6)(n:Nat)(cs:List (List Tree))(f:j6->j6->Option Int)(h:∀x0 x1,aQ3 prog n ([aA1 x0,aA1 x1]++cs.map T.el) (f x0 x1) (fun r=>.t (tI r))):
  bg4 prog 376 [.own 1000000,.fz n cs] [(1000000,.rows 95 3 s.length (s.map p7))] (bT7 f s) (fun _=>.P7 []) (fun r=>[(1000000,.rows 95 3 r.length (r.map p7))]):=
 co9 (E:=j6) (enc:=p7) (ρ:=cp1) et8 (k:=3) (fun x=>[.int .i64 x.At,.int .i64 x.Channel,.bool x.K2]) (fun _=>rfl) (fun _=>rfl) (fun x v hv=>by simp only[cq9,eT1,or_false]at hv;rcases hv with rfl|rfl|rfl<;>rfl) (fun w=>Tryz.isAgg95 w) (fun w=>Tryz.sizeOf95 w) (A:=aA1) (fun _=>rfl) f h s
def X7 (s:List j6)(f:Cl prog (j6×j6) Int (fun x=>[aA1 x.1,aA1 x.2]) (fun r=>.t (tI r))):CG prog (List j6):=
 ⟨376,[.own 1000000,.fz f.n f.cs],[(1000000,.rows 95 3 s.length (s.map p7))],bT7 (fun x y=>f.f (x,y)) s,fun k=>df8 (fun x y=>f.e k (x,y)) s,fun _=>.P7 [],fun r=>[(1000000,.rows 95 3 r.length (r.map p7))],[],bq2 s f.n f.cs _ (fun x y=>f.ok (x,y)),fun k r h=>dz7 (fun x y r h=>f.le k (x,y) r h) h⟩
def ao3 (_ x:Int)(_:Unit):M prog Int (Fl Unit Int):=
 .W (.hx 0)<| .I (x !=0) (.R (.ret x)) (.R (.next ()))
def af3 (bw3:List Int):C prog Int:=.of Z call378 func378 [.t (tS aJ6 bw3)] (fun r=>.t (tI r)) (
 M.Q aJ6 bw3 2 8 (fun(_:Unit)=>[]) 0 (.one .rt) (ao3) () (fun _=>.R 0) (fun r2=>.R r2))
def W9 (a b2:j6):C prog Int:=.of Z call377 func377 [aA1 a,aA1 b2] (fun r=>.t (tI r)) (
 .D [] []<| .K (F3 a.At b2.At) fun v=>.K (F3 a.Channel b2.Channel) fun v2=>.K (af3 ([v,v2]:List Int)) fun v3=>.R v3)
def au2 (t2:u0)(K1 i:Int)(s:List j6×List j5):M prog (u0×List j6×Int) (Fl (List j6×List j5) Empty):=
 .O (.ix E5 t2.j1 i) fun x=>.I ((!x.D6)||(decide (x.At>K1))) (.R (.next (s.1,s.2))) (.J0 0 (fun(t:List j6)=>[.t 9 (.own 2496),.x 40,.x 49,.x 51,.b 2496 (.rs 95 3 t p7)]) (.I (!(x.Next==x.K2)) (.U (.ap p7 s.1 ([(⟨x.At,i,x.Next⟩:j6)]:List j6) 2496) fun l=>.R l) (.R s.1)) fun f2=>.O (.ix E5 s.2 i) fun _=>.U (.st E5 s.2 i (⟨false,0,false,x.Next⟩:j5) 0) fun l2=>.R (.next (f2,l2)))
def ak3 (t2:u0)(K1:Int):C prog (u0×List j6×Int):=.of Z call334 func334 [aM8 t2,.t (tI K1)] (fun r=>.P7 [aM8 r.1,.t (tS p7 r.2.1),.t (tI r.2.2)]) (
 .KG (ag5 t2 0) [2112] fun r2=>.I (r2.2 !=0) (.R ((⟨0,([]:List j5)⟩:u0),([]:List j6),r2.2)) (.I (decide (K1<t2.T1)) (.R ((⟨0,([]:List j5)⟩:u0),([]:List j6),16)) (.I (decide (K1>1099511627776)) (.R ((⟨0,([]:List j5)⟩:u0),([]:List j6),2)) (.Z (.np 9 2496 95 3 [])<|M.QN (t2.j1.length:Int) 2 35 (fun(t:List j6×List j5)=>[.t 9 (.own 2496),.x 2,.x 12,.x 14,.x 15,.x 24,.x 32,.b 2112 (.rs 327 4 t.2 E5),.b 2496 (.rs 95 3 t.1 p7),.d 2]) 1 (.e) (au2 t2 K1) (([]:List j6),r2.1.j1) (fun s2=>.KG (X7 s2.1 (.of (fun z_=>W9 z_.1 z_.2) 377 [])) [] fun v=>.R ((⟨K1,s2.2⟩:u0),v,0)) (fun t=>t.elim)))))
def K6 (s:List A4)(del:Cl prog A4 Bool (fun x=>[bc4 x]) (fun r=>.t (tB r))):CG prog (List A4):=⟨335,[.own 1000000,.fz del.n del.cs],[(1000000,.rs 221 7 s I0)],Pv.K6 s (fun x0=>del.f x0),fun _=>dt0 s,(fun _=>.own 900000),(fun r=>[(900000,.rs 221 7 r I0)]),[900000],bq0 s del.n del.cs (fun x0=>del.f x0) (fun x0=>del.ok x0),fun _ r h=>bp7 h⟩
def an4 (j:A4)(c:Int):C prog Bool:=.of Z call336 func336 [bc4 j,.el (aJ6 c)] (fun r=>.t (tB r)) (
 .R (j.D6&&(j.At==c)))
def Y1 (K1:Int)(s2:List j6×c8):M prog (List j6×c8) ((List j6×c8)⊕((List j6×c8)⊕Empty)):=
 .K (aM6 s2.2.j9) fun r2=>.I ((!r2.2)||(decide (r2.1>K1))) (.R (.inr (.inl (s2.1,s2.2)))) (.D [] [(11,8)]<| .K (ak3 s2.2.j9 r2.1) fun r3=>.U (.ap p7 s2.1 r3.2.1 2360) fun l=>.Z (.fb 6)<| .KG (K6 s2.2.G3 (.of (fun z_=>an4 z_ r2.1) 336 [aJ6 r2.1])) [2417] fun v=>.KG (ak2 (⟨s2.2.u4,s2.2.A1,r3.1,s2.2.Next,v,s2.2.Cut⟩:c8)) [] fun v2=>.Z (.rn [(2417,2416)])<| .R (.inl (l,v2)))
def ab1 (s:c8)(K1:Int):CG prog (List j6×c8):=.of Z call269 func269 [.ptr 1000000 0,.t (tI K1)] [(1000000,.box (av2 (aL1 s) [(11,.own 1000001)])),(1000001,.rs 221 7 s.G3 I0)] (fun r=>.t (tS p7 r.1)) (fun r=>[(900000,.rs 221 7 r.2.G3 I0),(1000000,.box (av2 (aL1 r.2) [(11,.own 900000)]))]) [900000] (
 .Z (.np 5 2360 95 3 [])<| .Z (.rn [(1000001,2416)])<| .L (fun(t:List j6×c8)=>[.t 5 (.own 2360),.b 2360 (.rs 95 3 t.1 p7),.b 2416 (.rs 221 7 t.2.G3 I0),.b 1000000 (.box (av2 (aL1 t.2) [(11,.own 2416)]))]) 0 (.e) (Y1 K1) (([]:List j6),s) (fun s3=>.K (ak3 s3.2.j9 K1) fun r4=>.U (.ap p7 s3.1 r4.2.1 2360) fun l2=>.Z (.fr 2360)<| .R (l2,(⟨s3.2.u4,s3.2.A1,r4.1,s3.2.Next,s3.2.G3,s3.2.Cut⟩:c8))) (fun t=>t.elim))
def S9 (s:c8)(K1:Int):C prog (c8×List j6×Int):=.of Z call179 func179 [R5 s,.t (tI K1)] (fun r=>.P7 [R5 r.1,.t (tS p7 r.2.1),.t (tI r.2.2)]) (
 .K (J4 s) fun v=>.I (!v) (.R ((⟨(⟨([]:List Int),0⟩:o4),(⟨false,0,0,0,0,0⟩:D8),(⟨0,([]:List j5)⟩:u0),([]:List A0),([]:List A4),false⟩:c8),([]:List j6),1)) (.I (decide (K1<s.j9.T1)) (.R ((⟨(⟨([]:List Int),0⟩:o4),(⟨false,0,0,0,0,0⟩:D8),(⟨0,([]:List j5)⟩:u0),([]:List A0),([]:List A4),false⟩:c8),([]:List j6),16)) (.I (decide (K1>1099511627776)) (.R ((⟨(⟨([]:List Int),0⟩:o4),(⟨false,0,0,0,0,0⟩:D8),(⟨0,([]:List j5)⟩:u0),([]:List A0),([]:List A4),false⟩:c8),([]:List j6),2)) (.KG (L2 s) [2208] fun v2=>.KG (ab1 v2 K1) [2224] fun r2=>.R (r2.2,r2.1,0)))))
def aX6 (s:j8)(aY6:Int):CG prog j8:=.of Z call254 func254 [.ptr 1000000 0,.t (tI aY6)] [(1000000,.box (av2 (G2 s) [(113,.own 1000001)])),(1000001,.rs 95 3 s.u9 p7)] (fun _=>.P7 []) (fun r=>[(900000,.rs 95 3 r.u9 p7),(1000000,.box (av2 (G2 r) [(113,.own 900000)]))]) [900000] (
 .K (S9 s.u.j3 aY6) fun r2=>.KG (aG6 s r2.1 r2.2.1 r2.2.2) [2120] fun v=>.K (ao5 v.u.j3) fun r3=>.KG (aG6 v r3.1 r3.2.1 r3.2.2) [2208] fun v2=>.R v2)
def aZ3 (s:j8)(R8:aa3)(aY6:Int):CG prog j8:=.of Z call169 func169 [.ptr 1000000 0,aO9 R8,.t (tI aY6)] [(1000000,.box (av2 (G2 s) [(113,.own 1000001)])),(1000001,.rs 95 3 s.u9 p7)] (fun _=>.P7 []) (fun r=>[(900000,.rs 95 3 r.u9 p7),(1000000,.box (av2 (G2 r) [(113,.own 900000)]))]) [900000] (
 .I ((s.u.Q0.Mode !=0)&&(R8.Mode==0)) (.K (cw6) fun v=>.KG (aX6 ({s with u:=(⟨s.u.u6,s.u.u3,s.u.j3,R8,v,s.u.H6,s.u.M4,s.u.K8,s.u.L5,s.u.H4,s.u.A7,s.u.aa4,s.u.Time⟩:ae5)}:j8) aY6) [2256] fun v2=>.R v2) (.R ({s with u:=(⟨s.u.u6,s.u.u3,s.u.j3,R8,s.u.M5,s.u.H6,s.u.M4,s.u.K8,s.u.L5,s.u.H4,s.u.A7,s.u.aa4,s.u.Time⟩:ae5)}:j8)))
def bz4 (old:aa3):C prog aa3:=.of Z call170 func170 [aO9 old] (fun r=>.fz 255 [dc2 r]) (
 .Z (.fb 1)<| .R old)
def bW8 (w:aI0)(s:aa3):C prog Bool:=.of Z call321 func321 [aB2 w,aO9 s] (fun r=>.t (tB r)) (
 .D [] []<| .K (aS4 w) fun v=>.R (s.ax9==(j7 (v-1))))
def bk3 (w:aI0)(s:aa3):C prog Int:=.of Z call256 func256 [aB2 w,aO9 s] (fun r=>.t (tI r)) (
 .K (bW8 w s) fun v=>.I v (.R (j7 ((j7 (w.aP0+1))*s.N7))) (.R s.N7))
def cg7 (w:aI0)(s:aa3)(now:Int):C prog (aa3×Int):=.of Z call171 func171 [aB2 w,aO9 s,.t (tI now)] (fun r=>.P7 [aO9 r.1,.t (tI r.2)]) (
 .K (bv1 w s) fun v=>.I (!v) (.R ((⟨0,0,0,0,0,0⟩:aa3),1)) (.K (bf3 now) fun v2=>.I (!v2) (.R ((⟨0,0,0,0,0,0⟩:aa3),2)) (.I ((s.Mode !=0)&&(decide (now<s.H0))) (.R ((⟨0,0,0,0,0,0⟩:aa3),16)) (.J0 0 (fun(t:Int)=>[.t 8 (.t (tI t)),.x 3,.x 21,.d 3]) (.I (s.Mode==2) (.K (bk3 w s) fun v3=>.R (j7 (4*v3))) (.I (decide (s.av7>0)) (.R (j7 (4*s.N7))) (.R 1000000))) fun most=>.I ((s.Mode !=0)&&(decide ((j7 (now-s.H0))>most))) (.R ((⟨0,0,0,0,0,0⟩:aa3),0)) (.R (s,0))))))
def bv3 (p2:Int):C prog Bool:=.of Z call322 func322 [.t (tI p2)] (fun r=>.t (tB r)) (
 .R ((decide (p2>=0))&&(decide (p2<=1099511627776))))
def bj4 (b2:Int)(R8:Cl prog Int Int (fun x=>[.t (tI x)]) (fun r=>.t (tI r)))(s:List Int×Int):M prog (List Int×Int) ((List Int×Int)⊕((List Int×Int)⊕(List Int×Int))):=
 .I (decide (s.2<=b2)) (.I ((s.1.length:Int)==1000) (.R (.inr (.inr (([]:List Int),5)))) (.U (.ap aJ6 s.1 ([s.2]:List Int) 2304) fun l=>.K (R8.at s.2) fun v4=>.R (.inl (l,v4)))) (.R (.inr (.inl (s.1,s.2))))
def bk4 (a b2:Int)(R8:Cl prog Int Int (fun x=>[.t (tI x)]) (fun r=>.t (tI r))):C prog (List Int×Int):=.of Z call257 func257 [.t (tI a),.t (tI b2),.fz R8.n R8.cs] (fun r=>.P7 [.t (tS aJ6 r.1),.t (tI r.2)]) (
 .K (bv3 a) fun v=>.G (!v) (.R true) (.K (bv3 b2) fun v2=>.R (!v2)) fun b3=>.I (b3||(decide (a>b2))) (.R (([]:List Int),2)) (.K (R8.at a) fun v3=>.Z (.np 8 2304 3 1 [])<| .L (fun(t:List Int×Int)=>[.t 8 (.own 2304),.t 9 (.t (tI t.2)),.b 2304 (.rs 3 1 t.1 aJ6)]) 0 (.one .rt) (bj4 b2 R8) (([]:List Int),v3) (fun s2=>.R (s2.1,0)) (fun r2=>.R r2)))
def bb9 (w:aI0):C prog Int:=.of Z call323 func323 [aB2 w] (fun r=>.t (tI r)) (
 .K (aK9 w) fun v=>.I (!v) (.R 0) (.O (.quo .i64 23040 w.av7) fun q=>.R q))
def ch0 (w:aI0)(p2:Int):C prog (Int×Int):=.of Z call259 func259 [aB2 w,.t (tI p2)] (fun r=>.P7 [.t (tI r.1),.t (tI r.2)]) (
 .K (ab7 p2 23040) fun v=>.K (bb9 w) fun v2=>.O (.quo .i64 (j7 (p2-(j7 (p2-v)))) v2) fun q=>.K (aS4 w) fun v3=>.I (decide ((j7 (q+1))>=v3)) (.R (j7 ((j7 (p2-v))+23040),0)) (.K (bb9 w) fun v4=>.R (j7 ((j7 (p2-v))+(j7 ((j7 (q+1))*v4))),j7 (q+1))))
def aZ8 (p2:Int)(c:aI0):C prog Int:=.of Z call258 func258 [.t (tI p2),.el (cd6 c)] (fun r=>.t (tI r)) (
 .K (ch0 c p2) fun r2=>.R r2.1)
def bA3 (w:aI0)(a b2:Int):C prog (List Int×Int):=.of Z call172 func172 [aB2 w,.t (tI a),.t (tI b2)] (fun r=>.P7 [.t (tS aJ6 r.1),.t (tI r.2)]) (
 .K (aK9 w) fun v=>.I (!v) (.R (([]:List Int),1)) (.Z (.fb 3)<| .K (bk4 a b2 (.of (fun z_=>aZ8 z_ w) 258 [cd6 w])) fun r2=>.R (r2.1,r2.2)))
def aD5 (p2 v _ x:Int)(_:Unit):M prog Int (Fl Unit Int):=
 .W (.hx 0)<| .I (decide ((j7 ((j7 (p2-v))+x))>p2)) (.R (.ret (j7 ((j7 (p2-v))+x)))) (.R (.next ()))
def aM7 (p2:Int)(c:ch7):C prog Int:=.of Z call260 func260 [.t (tI p2),.el (cN9 c)] (fun r=>.t (tI r)) (
 .K (ab7 p2 46080) fun v=>M.Q aJ6 c.bw5 2 14 (fun(_:Unit)=>[]) 0 (.one .rt) (aD5 p2 v) () (fun _=>.O (.ix aJ6 c.bw5 0) fun x2=>.R (j7 ((j7 ((j7 (p2-v))+46080))+x2))) (fun r2=>.R r2))
def bj3 (c:ch7)(a b2:Int):C prog (List Int×Int):=.of Z call173 func173 [bN5 c,.t (tI a),.t (tI b2)] (fun r=>.P7 [.t (tS aJ6 r.1),.t (tI r.2)]) (
 .K (aS5 c) fun v=>.I (!v) (.R (([]:List Int),1)) (.Z (.fb 3)<| .K (bk4 a b2 (.of (fun z_=>aM7 z_ c) 260 [cN9 c])) fun r2=>.R (r2.1,r2.2)))
def aP3 (s:j8)(_ x:Int)(out:List Int):M prog (List Int) (Fl (List Int) Empty):=
 .W (.hx 0)<| .D [] []<| .K (V1 (j7 (s.u.A7.J8-(j7 (65536*x)))) s.u.A7.D1) fun v=>.U (.ap aJ6 out ([j7 (s.t-v)]:List Int) 2328) fun l2=>.R (.next l2)
def aI6 (s:j8)(l:List Int):CG prog (List Int):=.of Z call174 func174 [.ptr 1000000 0,.t (tS aJ6 l)] [(1000000,.box (av2 (G2 s) [(113,.own 1000001)])),(1000001,.rs 95 3 s.u9 p7)] (fun r=>.t (tS aJ6 r)) (fun _=>[(1000000,.box (av2 (G2 s) [(113,.own 1000001)])),(1000001,.rs 95 3 s.u9 p7)]) [] (
 .D [] []<| .Z (.np 7 2328 3 1 [])<|M.Q aJ6 l 2 24 (fun(t:List Int)=>[.t 7 (.own 2328),.x 10,.x 11,.x 12,.x 13,.x 14,.x 16,.x 17,.x 18,.x 19,.x 20,.b 2328 (.rs 3 1 t aJ6)]) 0 (.e) (aP3 s) ([]:List Int) (fun dm3=>.Z (.fr 2328)<| .R dm3) (fun t=>t.elim))
def bt0 (old:ad0):C prog ad0:=.of Z call176 func176 [aW9 old] (fun r=>.fz 262 [cO2 r]) (
 .Z (.fb 1)<| .R old)
def cw5 (c:ch7)(p2:ad0):C prog (ad0×Int):=.of Z call177 func177 [bN5 c,aW9 p2] (fun r=>.P7 [aW9 r.1,.t (tI r.2)]) (
 .K (bm3 c p2) fun v=>.I (!v) (.R ((⟨false,0,0,false⟩:ad0),1)) (.I p2.Seen (.R (({p2 with E0:=F2 16 (j7 (p2.E0+1))}:ad0),0)) (.R (p2,0))))
def aS9 (R8:ad0)(e2:Int)(c:ad0):C prog ad0:=.of Z call262 func262 [aW9 R8,.t (tI e2),.el (cO2 c)] (fun r=>aW9 r) (
 .I (e2 !=0) (.R c) (.R R8))
def aZ4 (c:j8)(c2:List Int):CG prog (j8×List Int):=.of Z call175 func175 [.ptr 1000000 0,.ptr 1000003 0] [(1000000,.box [.ptr 1000001 0]),(1000001,.box (av2 (G2 c) [(113,.own 1000002)])),(1000002,.rs 95 3 c.u9 p7),(1000003,.box [.t (tS aJ6 c2)])] (fun _=>.P7 []) (fun r=>[(1000000,.box [.ptr 1000001 0]),(1000001,.box (av2 (G2 r.1) [(113,.own 1000002)])),(1000002,.rs 95 3 r.1.u9 p7),(1000003,.box [.t (tS aJ6 r.2)])]) [] (
 .D [] []<| .K (bt0 c.u.M5) fun v=>.K (bC6) fun v2=>.K (cw5 v2 c.u.M5) fun r2=>.K (aS9 r2.1 r2.2 v) fun v3=>.U (.sF aJ6 c2 1 (c2.length:Int)) fun l=>.R (({c with u:=(⟨c.u.u6,c.u.u3,c.u.j3,c.u.Q0,v3,c.u.H6,c.u.M4,c.u.K8,c.u.L5,c.u.H4,c.u.A7,c.u.aa4,c.u.Time⟩:ae5)}:j8),l))
def aZ1 (R8:aa3)(e2:Int)(c:aa3):C prog aa3:=.of Z call255 func255 [aO9 R8,.t (tI e2),.el (dc2 c)] (fun r=>aO9 r) (
 .I (e2 !=0) (.R c) (.R R8))
def bf4 (f2:Z6):C prog Int:=.of Z call325 func325 [ba9 f2] (fun r=>.t (tI r)) (
 .K (aG3 f2) fun v=>.I ((!v)||(!f2.Seen)) (.R 0) (.R (G4 20 (j7 (db0 f2.E9 4)))))
def bj2 (f2:Z6)(t2:Int):C prog (Z6×Bool×Int):=.of Z call263 func263 [ba9 f2,.t (tI t2)] (fun r=>.P7 [ba9 r.1,.t (tB r.2.1),.t (tI r.2.2)]) (
 .K (aG3 f2) fun v=>.I (!v) (.R ((⟨false,0,0⟩:Z6),false,1)) (.K (aU9 t2) fun v2=>.I (!v2) (.R ((⟨false,0,0⟩:Z6),false,2)) (.I (f2.Seen&&(decide (t2<f2.H0))) (.R ((⟨false,0,0⟩:Z6),false,16)) (.J0 1 (fun(t:Bool)=>[.t 28 (.t (tB t)),.x 19]) (.D [] []<| .Sp f2.Seen (.K (bf4 f2) fun v3=>.R (decide ((j7 (t2-f2.H0))<v3))) (.R false)) fun v4=>.I v4 (.R (f2,false,0)) (.I f2.Seen (.R ((⟨true,t2,j7 (t2-f2.H0)⟩:Z6),true,0)) (.R ((⟨true,t2,0⟩:Z6),true,0)))))))
def bL4 (old:Z6):C prog Z6:=.of Z call264 func264 [ba9 old] (fun r=>.fz 326 [cA1 r]) (
 .Z (.fb 1)<| .R old)
def dA8 (w:aI0)(normal period:Int):C prog Bool:=.of Z call368 func368 [aB2 w,.t (tI normal),.t (tI period)] (fun r=>.t (tB r)) (
 .I (w.aP0==1) (.R (decide ((j7 (2*period))>(j7 (3*normal))))) (.R (decide (period>(j7 (2*normal))))))
def cx9 (p2 q:Int):C prog Bool:=.of Z call369 func369 [.t (tI p2),.t (tI q)] (fun r=>.t (tB r)) (
 .R (decide ((j7 (4*(G4 (j7 (p2-q)) (j7 (q-p2)))))<=q)))
def cy0 (w:aI0)(s:aa3)(t2:Int):C prog aa3:=.of Z call327 func327 [aB2 w,aO9 s,.t (tI t2)] (fun r=>aO9 r) (
 .I (s.Mode==1) (.G (s.av7==2) (.K (dA8 w s.N7 (j7 (t2-s.H0))) fun v=>.R v) (.R false) fun b2=>.I b2 (.O (.quo .i64 (j7 (t2-s.H0)) (j7 (w.aP0+1))) fun q=>.R (⟨2,0,t2,j7 (t2-s.H0),q,0⟩:aa3)) (.G (s.av7 !=0) (.K (cx9 (j7 (t2-s.H0)) s.N7) fun v2=>.R v2) (.R false) fun b3=>.I b3 (.R (⟨1,0,t2,j7 (t2-s.H0),j7 (t2-s.H0),2⟩:aa3)) (.R (⟨1,0,t2,j7 (t2-s.H0),j7 (t2-s.H0),1⟩:aa3)))) (.I (s.Mode==2) (.K (bk3 w s) fun v3=>.K (cx9 (j7 (t2-s.H0)) v3) fun v4=>.I (!v4) (.R (⟨0,0,0,0,0,0⟩:aa3)) (.K (bW8 w s) fun v5=>.I v5 (.O (.quo .i64 (j7 (t2-s.H0)) (j7 (w.aP0+1))) fun q2=>.R (⟨2,0,t2,j7 (t2-s.H0),q2,0⟩:aa3)) (.R (⟨2,j7 (s.ax9+1),t2,j7 (t2-s.H0),j7 (t2-s.H0),0⟩:aa3)))) (.R (⟨1,0,t2,0,0,0⟩:aa3))))
def cx8 (w:aI0)(s:aa3)(t2:Int):C prog (aa3×Int):=.of Z call265 func265 [aB2 w,aO9 s,.t (tI t2)] (fun r=>.P7 [aO9 r.1,.t (tI r.2)]) (
 .K (bv1 w s) fun v=>.I (!v) (.R ((⟨0,0,0,0,0,0⟩:aa3),1)) (.K (bf3 t2) fun v2=>.I (!v2) (.R ((⟨0,0,0,0,0,0⟩:aa3),2)) (.I ((s.Mode !=0)&&(decide (t2<=s.H0))) (.R ((⟨0,0,0,0,0,0⟩:aa3),16)) (.K (cy0 w s t2) fun v3=>.R (v3,0)))))
def bK6 (c:ch7):C prog (Int×Int):=.of Z call328 func328 [bN5 c] (fun r=>.P7 [.t (tI r.1),.t (tI r.2)]) (
 .K (aS5 c) fun v=>.I (!v) (.R (0,0)) (.K (cq5 c) fun r2=>.R (r2.1,r2.2)))
def bJ0 (c:ch7)(p2:ad0):C prog (ad0×Int):=.of Z call266 func266 [bN5 c,aW9 p2] (fun r=>.P7 [aW9 r.1,.t (tI r.2)]) (
 .K (bm3 c p2) fun v=>.I (!v) (.R ((⟨false,0,0,false⟩:ad0),1)) (.I (!p2.Seen) (.R ((⟨false,0,0,true⟩:ad0),0)) (.K (bK6 c) fun r2=>.J0 0 (fun(t:Int)=>[.t 9 (.t (tI t)),.x 2,.x 16,.x 25,.d 2]) (.I (p2.E0==r2.1) (.R 0) (.I (p2.E0==r2.2) (.R 1) (.R (-1)))) fun half=>.I ((decide (half>=0))&&((!p2.aX2)||(p2.bF2==half))) (.R ((⟨true,j7 (1-half),0,true⟩:ad0),0)) (.R ((⟨false,0,0,true⟩:ad0),0)))))
def bU8 (w:aI0)(cp9:Int):C prog (Int×Int):=.of Z call329 func329 [aB2 w,.t (tI cp9)] (fun r=>.P7 [.t (tI r.1),.t (tI r.2)]) (
 .K (aK9 w) fun v=>.I (!v) (.R (0,1)) (.G (decide (cp9<0)) (.R true) (.K (aS4 w) fun v2=>.R (decide (cp9>=v2))) fun b2=>.I b2 (.R (0,2)) (.K (bb9 w) fun v3=>.R (j7 (cp9*v3),0))))
def bO0 (w:aI0)(t2 cp9 half period:Int):C prog (D8×Int):=.of Z call267 func267 [aB2 w,.t (tI t2),.t (tI cp9),.t (tI half),.t (tI period)] (fun r=>.P7 [bA5 r.1,.t (tI r.2)]) (
 .K (aK9 w) fun v=>.I (!v) (.R ((⟨false,0,0,0,0,0⟩:D8),1)) (.K (bU8 w cp9) fun r2=>.G (r2.2 !=0) (.R true) (.K (au6 t2) fun v2=>.R (!v2)) fun b2=>.I ((((b2||(decide (half<0)))||(decide (half>1)))||(decide (period<(j7 (w.aP0+1)))))||(decide (period>1073741824))) (.R ((⟨false,0,0,0,0,0⟩:D8),2)) (.K (bb9 w) fun v3=>.J0 0 (fun(t:Int)=>[.c 15 3 [.t (tI t)]]) (.I (cp9==0) (.O (.quo .i64 period (j7 (w.aP0+1))) fun q=>.R q) (.R period)) fun f2=>.K (aS4 w) fun v4=>.I (cp9==(j7 (v4-1))) (.R ((⟨true,t2,j7 ((j7 (half*23040))+r2.1),f2,v3,j7 (v3*(j7 (w.aP0+1)))⟩:D8),0)) (.R ((⟨true,t2,j7 ((j7 (half*23040))+r2.1),f2,v3,v3⟩:D8),0)))))
def Q5 (bK5 K1:Int):C prog Int:=.of Z call330 func330 [.t (tI bK5),.t (tI K1)] (fun r=>.t (tI r)) (
 .K (ah4 bK5) fun v=>.G (!v) (.R true) (.K (ah4 K1) fun v2=>.R (!v2)) fun b2=>.I b2 (.R (-1)) (.K (ab7 (j7 (K1-bK5)) 46080) fun v3=>.R v3))
def aK1 (c:D8):C prog Int:=.of Z call398 func398 [bA5 c] (fun r=>.t (tI r)) (
 .K (ai5 c) fun v=>.I (!v) (.R 1) (.I (!c.V6) (.R 6) (.R 0)))
def bk9 (a b2:Int):C prog Int:=.of Z call399 func399 [.t (tI a),.t (tI b2)] (fun r=>.t (tI r)) (
 .K (am4 a b2 2) fun r2=>.R r2.1)
def aE2 (c:D8)(bU6:Int):C prog (Int×Int):=.of Z call370 func370 [bA5 c,.t (tI bU6)] (fun r=>.P7 [.t (tI r.1),.t (tI r.2)]) (
 .K (aK1 c) fun v=>.I (v !=0) (.R (0,v)) (.I ((decide (bU6<0))||(decide (bU6>46080))) (.R (0,2)) (.K (bk9 (j7 (bU6*c.E9)) c.X1) fun v2=>.R (v2,0))))
def ak0 (e2:o4)(aB8:Int):C prog (Int×Bool):=.of Z call400 func400 [at5 e2,.t (tI aB8)] (fun r=>.P7 [.t (tI r.1),.t (tB r.2)]) (
 .K (V5 e2.z8 aB8) fun v=>.D [] []<| .O (.quo .i64 (j7 ((G4 v 0)*46080)) (e2.z8.length:Int)) fun q=>.R (ew5 (j7 (e2.ao2+q)) 46080,decide (v>=0)))
def av0 (e2:o4)(aB8:Int):C prog (Int×Int):=.of Z call371 func371 [at5 e2,.t (tI aB8)] (fun r=>.P7 [.t (tI r.1),.t (tI r.2)]) (
 .K (O5 e2) fun v=>.I (!v) (.R (0,1)) (.K (ak0 e2 aB8) fun r2=>.I (!r2.2) (.R (0,7)) (.R (r2.1,0))))
def Y0 (f2:A0)(c:Int):C prog Bool:=.of Z call372 func372 [aO8 f2,.el (aJ6 c)] (fun r=>.t (tB r)) (
 .R (f2.o9==c))
def ao4 (f2:A0)(c:o4):C prog Bool:=.of Z call416 func416 [aO8 f2,.el (bQ9 c)] (fun r=>.t (tB r)) (
 .K (X2 c f2) fun v=>.R (!v))
def av1 (g c:A0):C prog Bool:=.of Z call417 func417 [aO8 g,.el (B1 c)] (fun r=>.t (tB r)) (
 .R (g.o9==c.o9))
def O4 (aY6 kind bS6:Int)(c:List B4)(c2:A0):CG prog (List B4):=.of Z call418 func418 [.t (tI aY6),.t (tI kind),.t (tI bS6),.ptr 1000000 0,.el (B1 c2)] [(1000000,.box [.own 1000001]),(1000001,.rs 219 4 c ax4)] (fun _=>.P7 []) (fun r=>[(900000,.rs 219 4 r ax4),(1000000,.box [.own 900000])]) [900000] (
 .D [] []<| .K (ab7 aY6 46080) fun v=>.Z (.rn [(1000001,2136)])<| .U (.ap ax4 c ([(⟨v,kind,c2.o9,bS6⟩:B4)]:List B4) 2136) fun l=>.R l)
def J9 (d c:Int):C prog Int:=.of Z call419 func419 [.t (tI d),.el (aJ6 c)] (fun r=>.t (tI r)) (
 .O (.quo .i64 (j7 (d*23040)) c) fun q=>.R q)
def aj9 (f2:A0):C prog Int:=.of Z call420 func420 [aO8 f2] (fun r=>.t (tI r)) (
 .I (f2.Y4==0) (.R 0) (.I (f2.Extra==0) (.R 1) (.R 2)))
def cp2:Go.Shelf.Ren:=⟨fun|6=>421|14=>444|15=>405|20=>456|21=>457|22=>458|23=>459|24=>460|25=>461|26=>462|27=>463|28=>432|29=>433|46=>468|47=>448|48=>449|49=>469|50=>470|57=>472|n=>n,fun|0=>0|3=>3|4=>4|5=>5|9=>9|22=>467|24=>219|25=>484|39=>317|45=>487|46=>488|50=>234|53=>383|55=>386|66=>503|70=>507|76=>516|77=>338|n=>n,fun|n=>n⟩
open Go.Shelf in
theorem et9:SlLaysF0.n6 prog cp2:={
 mixed:=by kernel_rfl,
 f6:=⟨Tryz.f421.name,by decide,func421.trans (congrArg some (by kernel_rfl))⟩,
 f14:=⟨Tryz.f444.name,by decide,func444.trans (congrArg some (by kernel_rfl))⟩,
 f15:=func405.trans (congrArg some (by kernel_rfl)),
 f20:=⟨Tryz.f456.name,by decide,func456.trans (congrArg some (by kernel_rfl))⟩,
 f21:=⟨Tryz.f457.name,by decide,func457.trans (congrArg some (by kernel_rfl))⟩,
 f22:=⟨Tryz.f458.name,by decide,func458.trans (congrArg some (by kernel_rfl))⟩,
 f23:=⟨Tryz.f459.name,by decide,func459.trans (congrArg some (by kernel_rfl))⟩,
 f24:=⟨Tryz.f460.name,by decide,func460.trans (congrArg some (by kernel_rfl))⟩,
 f25:=⟨Tryz.f461.name,by decide,func461.trans (congrArg some (by kernel_rfl))⟩,
 f26:=⟨Tryz.f462.name,by decide,func462.trans (congrArg some (by kernel_rfl))⟩,
 f27:=⟨Tryz.f463.name,by decide,func463.trans (congrArg some (by kernel_rfl))⟩,
 f28:=func432.trans (congrArg some (by kernel_rfl)),
 f29:=func433.trans (congrArg some (by kernel_rfl)),
 f46:=⟨Tryz.f468.name,by decide,func468.trans (congrArg some (by kernel_rfl))⟩,
 f47:=func448.trans (congrArg some (by kernel_rfl)),
 f48:=func449.trans (congrArg some (by kernel_rfl)),
 f49:=⟨Tryz.f469.name,by decide,func469.trans (congrArg some (by kernel_rfl))⟩,
 f50:=⟨Tryz.f470.name,by decide,func470.trans (congrArg some (by kernel_rfl))⟩,
 f57:=⟨Tryz.f472.name,by decide,func472.trans (congrArg some (by kernel_rfl))⟩,
 t0:=Tryz.underlying0,
 a0:=Tryz.isAgg0,
 z0:=Tryz.sizeOf0,
 v0:=Tryz.zeroValue0,
 t3:=Tryz.underlying3,
 a3:=Tryz.isAgg3,
 z3:=Tryz.sizeOf3,
 v3:=Tryz.zeroValue3,
 t4:=Tryz.underlying4,
 a4:=Tryz.isAgg4,
 z4:=Tryz.sizeOf4,
 v4:=Tryz.zeroValue4,
 t5:=Tryz.underlying5,
 a5:=Tryz.isAgg5,
 z5:=Tryz.sizeOf5,
 v5:=Tryz.zeroValue5,
 t9:=Tryz.underlying9,
 a9:=Tryz.isAgg9,
 z9:=Tryz.sizeOf9,
 v9:=Tryz.zeroValue9,
 t22:=Tryz.underlying467,
 a22:=Tryz.isAgg467,
 z22:=Tryz.sizeOf467,
 v22:=Tryz.zeroValue467,
 t25:=Tryz.underlying484,
 a25:=Tryz.isAgg484,
 z25:=Tryz.sizeOf484,
 v25:=Tryz.zeroValue484,
 t39:=Tryz.underlying317,
 a39:=Tryz.isAgg317,
 z39:=Tryz.sizeOf317,
 v39:=Tryz.zeroValue317,
 t45:=Tryz.underlying487,
 a45:=Tryz.isAgg487,
 z45:=Tryz.sizeOf487,
 v45:=Tryz.zeroValue487,
 t46:=Tryz.underlying488,
 a46:=Tryz.isAgg488,
 z46:=Tryz.sizeOf488,
 v46:=Tryz.zeroValue488,
 t50:=Tryz.underlying234,
 a50:=Tryz.isAgg234,
 z50:=Tryz.sizeOf234,
 v50:=Tryz.zeroValue234,
 t53:=Tryz.underlying383,
 a53:=Tryz.isAgg383,
 z53:=Tryz.sizeOf383,
 v53:=Tryz.zeroValue383,
 t55:=Tryz.underlying386,
 a55:=Tryz.isAgg386,
 z55:=Tryz.sizeOf386,
 v55:=Tryz.zeroValue386,
 t66:=Tryz.underlying503,
 a66:=Tryz.isAgg503,
 z66:=Tryz.sizeOf503,
 v66:=Tryz.zeroValue503,
 t70:=Tryz.underlying507,
 a70:=Tryz.isAgg507,
 z70:=Tryz.sizeOf507,
 v70:=Tryz.zeroValue507,
 t76:=Tryz.underlying516,
 a76:=Tryz.isAgg516,
 z76:=Tryz.sizeOf516,
 v76:=Tryz.zeroValue516,
 t77:=Tryz.underlying338,
 a77:=Tryz.isAgg338,
 z77:=Tryz.sizeOf338,
 v77:=Tryz.zeroValue338}
theorem bv2 (s:List B4)(n:Nat)(cs:List (List Tree))(f:B4->B4->Option Int)(h:∀x0 x1,aQ3 prog n ([aW7 x0,aW7 x1]++cs.map T.el) (f x0 x1) (fun r=>.t (tI r))):
  bg4 prog 421 [.own 1000000,.fz n cs] [(1000000,.rows 219 4 s.length (s.map ax4))] (bT7 f s) (fun _=>.P7 []) (fun r=>[(1000000,.rows 219 4 r.length (r.map ax4))]):=
 co9 (E:=B4) (enc:=ax4) (ρ:=cp2) et9 (k:=4) (fun x=>[.int .i64 x.G7,.int .i64 x.Kind,.int .i64 x.o9,.int .i64 x.ai4]) (fun _=>rfl) (fun _=>rfl) (fun x v hv=>by simp only[cq9,eT1,or_false]at hv;rcases hv with rfl|rfl|rfl|rfl<;>rfl) (fun w=>Tryz.isAgg219 w) (fun w=>Tryz.sizeOf219 w) (A:=aW7) (fun _=>rfl) f h s
def aa2 (s:List B4)(f:Cl prog (B4×B4) Int (fun x=>[aW7 x.1,aW7 x.2]) (fun r=>.t (tI r))):CG prog (List B4):=
 ⟨421,[.own 1000000,.fz f.n f.cs],[(1000000,.rows 219 4 s.length (s.map ax4))],bT7 (fun x y=>f.f (x,y)) s,fun k=>df8 (fun x y=>f.e k (x,y)) s,fun _=>.P7 [],fun r=>[(1000000,.rows 219 4 r.length (r.map ax4))],[],bv2 s f.n f.cs _ (fun x y=>f.ok (x,y)),fun k r h=>dz7 (fun x y r h=>f.le k (x,y) r h) h⟩
def ak8 (a b2:B4):C prog Int:=.of Z call422 func422 [aW7 a,aW7 b2] (fun r=>.t (tI r)) (
 .D [] []<| .K (F3 a.G7 b2.G7) fun v=>.K (F3 a.o9 b2.o9) fun v2=>.K (F3 a.Kind b2.Kind) fun v3=>.K (F3 a.ai4 b2.ai4) fun v4=>.K (af3 ([v,v2,v3,v4]:List Int)) fun v5=>.R v5)
def aC1 (l:List A0)(i:Int)(_:Unit):M prog (List B4×Int) (Fl Unit (List B4×Int)):=
 .O (.ix B1 l i) fun x=>.U (.sF B1 l 0 i) fun l2=>.Z (.fb 9)<| .K (E7 l2 (.of (fun z_=>av1 z_ x) 417 [B1 x])) fun v4=>.I v4 (.R (.ret (([]:List B4),8))) (.R (.next ()))
def aw0 (e2:o4)(M1 _:Int)(x2:A0)(f2:List B4):M prog (List B4×Int) (Fl (List B4) (List B4×Int)):=
 .W (.hx 0)<| .K (ak0 e2 x2.o9) fun r2=>.Z (.fb 12)<| .KG (O4 (j7 (r2.1-x2.N8)) 2 0 f2 x2) [2512] fun v5=>.K (J9 x2.ae6 M1) fun v6=>.KG (O4 (j7 ((j7 (r2.1-x2.N8))-(F2 v6 23040))) 1 0 v5 x2) [2584] fun v7=>.D [] []<| .K (J9 x2.Y4 M1) fun v8=>.K (J9 x2.Gap M1) fun v9=>.K (J9 x2.Extra M1) fun v10=>.I (decide ((G4 (G4 v8 v9) v10)>23040)) (.R (.ret (([]:List B4),2))) (.K (aj9 x2) fun v11=>.J0 0 (fun(t:List B4)=>[.x 56,.x 62,.x 65,.b 10 (.box [.own 2840]),.b 2840 (.rs 219 4 t ax4),.d 2584]) (.I (decide (v11>0)) (.KG (O4 (j7 (r2.1-x2.End)) 4 1 v7 x2) [2776] fun v12=>.K (J9 x2.Y4 M1) fun v13=>.KG (O4 (j7 ((j7 (r2.1-x2.End))-v13)) 3 1 v12 x2) [2840] fun v14=>.R v14) (.Z (.rn [(2584,2840)])<| .R v7)) fun f3=>.K (aj9 x2) fun v15=>.I (decide (v15>1)) (.K (J9 x2.Gap M1) fun v16=>.KG (O4 (j7 ((j7 (r2.1-x2.End))+v16)) 3 2 f3 x2) [2928] fun v17=>.D [] []<| .K (J9 x2.Gap M1) fun v18=>.K (J9 x2.Extra M1) fun v19=>.KG (O4 (j7 ((j7 ((j7 (r2.1-x2.End))+v18))+v19)) 4 2 v17 x2) [3032] fun v20=>.R (.next v20)) (.Z (.rn [(2840,3032)])<| .R (.next f3)))
def aE6 (e2:o4)(l:List A0)(M1:Int):C prog (List B4×Int):=.of Z call401 func401 [at5 e2,.t (tS B1 l),.t (tI M1)] (fun r=>.P7 [.t (tS ax4 r.1),.t (tI r.2)]) (
 .K (O5 e2) fun v=>.Z (.fb 3)<| .G (!v) (.R true) (.K (E7 l (.of (fun z_=>ao4 z_ e2) 416 [bQ9 e2])) fun v2=>.R v2) fun b2=>.I b2 (.R (([]:List B4),1)) (.K (M3 M1 4000 1000000) fun v3=>.I (!v3) (.R (([]:List B4),2)) (M.QN (l.length:Int) 2 32 (fun(_:Unit)=>[]) 0 (.one .rt) (aC1 l) () (fun _=>.Z (.fb 5)<| .Z (.nb 10 3032 219 4 [0])<|M.Q B1 l 2 45 (fun(t:List B4)=>[.b 3032 (.rs 219 4 t ax4)]) 2 (.one .rt) (aw0 e2 M1) ([]:List B4) (fun f4=>.KG (aa2 f4 (.of (fun z_=>ak8 z_.1 z_.2) 422 [])) [] fun v21=>.R (v21,0)) (fun r3=>.R r3)) (fun r4=>.R r4))))
def B8 (a:Int)(cmp:Cl prog (a7×a7) Int (fun x=>[A6 x.1,A6 x.2]) (fun r=>.t (tI r)))(s2:Int×List a7):M prog (List a7) ((Int×List a7)⊕((Int×List a7)⊕Empty)):=
 .J0 1 (fun(t:Bool)=>[.t 34 (.t (tB t))]) (.D [] []<| .Sp (decide (s2.1>a)) (.O (.ix A8 s2.2 s2.1) fun x=>.W (.ly 0)<| .O (.ix A8 s2.2 (j7 (s2.1-1))) fun x2=>.W (.ly 0)<| .K (cmp.at (x,x2)) fun v=>.R (decide (v<0))) (.R false)) fun v2=>.I v2 (.D [] [(15,1000000)]<| .O (.ix A8 s2.2 (j7 (s2.1-1))) fun x3=>.W (.ly 0)<| .O (.ix A8 s2.2 s2.1) fun x4=>.W (.ly 0)<| .W (.hx 0)<| .U (.st A8 s2.2 s2.1 x3 0) fun l=>.O (.ix A8 l (j7 (s2.1-1))) fun _=>.U (.st A8 l (j7 (s2.1-1)) x4 0) fun l2=>.R (.inl (j7 (s2.1-1),l2))) (.R (.inr (.inl (s2.1,s2.2))))
def B0 (a b2:Int)(cmp:Cl prog (a7×a7) Int (fun x=>[A6 x.1,A6 x.2]) (fun r=>.t (tI r)))(s:Int×List a7):M prog (List a7) ((Int×List a7)⊕((Int×List a7)⊕Empty)):=
 .I (decide (s.1<b2)) (.L (fun(t:Int×List a7)=>[.t 9 (.t (tI t.1)),.b 1000000 (.rs 450 5 t.2 A8)]) 2 (.e) (B8 a cmp) (s.1,s.2) (fun s3=>.R (.inl (j7 (s.1+1),s3.2))) (fun t=>t.elim)) (.R (.inr (.inl (s.1,s.2))))
def A9 (data:List a7)(a b2:Int)(cmp:Cl prog (a7×a7) Int (fun x=>[A6 x.1,A6 x.2]) (fun r=>.t (tI r))):CG prog (List a7):=.of Z call445 func445 [.own 1000000,.t (tI a),.t (tI b2),.fz cmp.n cmp.cs] [(1000000,.rs 450 5 data A8)] (fun _=>.P7 []) (fun r=>[(1000000,.rs 450 5 r A8)]) [] (
 .L (fun(t:Int×List a7)=>[.t 8 (.t (tI t.1)),.b 1000000 (.rs 450 5 t.2 A8)]) 0 (.e) (B0 a b2 cmp) (j7 (a+1),data) (fun s4=>.R s4.2) (fun t=>t.elim))
def H8 (data:List a7)(a m2 b2:Int)(cmp:Cl prog (a7×a7) Int (fun x=>[A6 x.1,A6 x.2]) (fun r=>.t (tI r))):CG prog (List a7):=⟨446,[.own 1000000,.t (tI a),.t (tI m2),.t (tI b2),.fz cmp.n cmp.cs],[(1000000,.rs 450 5 data A8)],none,fun _=>none,(fun _=>.P7 []),(fun r=>[(1000000,.rs 450 5 r A8)]),[],⟨call446,fun _ h=>by cases h⟩,fun _ _ h=>by cases h⟩
def J5 (n2:Int)(cmp:Cl prog (a7×a7) Int (fun x=>[A6 x.1,A6 x.2]) (fun r=>.t (tI r)))(s:Int×Int×List a7):M prog (List a7) ((Int×Int×List a7)⊕((Int×Int×List a7)⊕Empty)):=
 .I (decide (s.2.1<=n2)) (.KG (A9 s.2.2 s.1 s.2.1 cmp) [] fun v=>.R (.inl (s.2.1,j7 (s.2.1+20),v))) (.R (.inr (.inl (s.1,s.2.1,s.2.2))))
def N0 (n2:Int)(cmp:Cl prog (a7×a7) Int (fun x=>[A6 x.1,A6 x.2]) (fun r=>.t (tI r)))(s3:Int×List a7)(s4:Int×Int×List a7):M prog (List a7) ((Int×Int×List a7)⊕((Int×Int×List a7)⊕Empty)):=
 .I (decide (s4.2.1<=n2)) (.KG (H8 s4.2.2 s4.1 (j7 (s4.1+s3.1)) s4.2.1 cmp) [] fun v3=>.R (.inl (s4.2.1,j7 (s4.2.1+(j7 (2*s3.1))),v3))) (.R (.inr (.inl (s4.1,s4.2.1,s4.2.2))))
def J6 (n2:Int)(cmp:Cl prog (a7×a7) Int (fun x=>[A6 x.1,A6 x.2]) (fun r=>.t (tI r)))(s3:Int×List a7):M prog (List a7) ((Int×List a7)⊕((Int×List a7)⊕Empty)):=
 .I (decide (s3.1<n2)) (.L (fun(t:Int×Int×List a7)=>[.t 7 (.t (tI t.1)),.t 8 (.t (tI t.2.1)),.b 1000000 (.rs 450 5 t.2.2 A8)]) 4 (.e) (N0 n2 cmp s3) (0,j7 (2*s3.1),s3.2) (fun s5=>.I (decide ((j7 (s5.1+s3.1))<n2)) (.KG (H8 s5.2.2 s5.1 (j7 (s5.1+s3.1)) n2 cmp) [] fun v4=>.R (.inl (j7 (s3.1*2),v4))) (.R (.inl (j7 (s3.1*2),s5.2.2)))) (fun t=>t.elim)) (.R (.inr (.inl (s3.1,s3.2))))
def G8 (data:List a7)(n2:Int)(cmp:Cl prog (a7×a7) Int (fun x=>[A6 x.1,A6 x.2]) (fun r=>.t (tI r))):CG prog (List a7):=.of Z call423 func423 [.own 1000000,.t (tI n2),.fz cmp.n cmp.cs] [(1000000,.rs 450 5 data A8)] (fun _=>.P7 []) (fun r=>[(1000000,.rs 450 5 r A8)]) [] (
 .L (fun(t:Int×Int×List a7)=>[.t 7 (.t (tI t.1)),.t 8 (.t (tI t.2.1)),.b 1000000 (.rs 450 5 t.2.2 A8)]) 0 (.e) (J5 n2 cmp) (0,20,data) (fun s2=>.KG (A9 s2.2.2 s2.1 n2 cmp) [] fun v2=>.L (fun(t:Int×List a7)=>[.t 6 (.t (tI t.1)),.x 23,.b 1000000 (.rs 450 5 t.2 A8)]) 2 (.e) (J6 n2 cmp) (20,v2) (fun s6=>.R s6.2) (fun t=>t.elim)) (fun t=>t.elim))
def C8 (x:List a7)(cmp:Cl prog (a7×a7) Int (fun x=>[A6 x.1,A6 x.2]) (fun r=>.t (tI r))):CG prog (List a7):=.of Z call402 func402 [.own 1000000,.fz cmp.n cmp.cs] [(1000000,.rs 450 5 x A8)] (fun _=>.P7 []) (fun r=>[(1000000,.rs 450 5 r A8)]) [] (
 .KG (G8 x (x.length:Int) cmp) [] fun v=>.R v)
def ac4 (a b2:a7):C prog Int:=.of Z call403 func403 [A6 a,A6 b2] (fun r=>.t (tI r)) (
 .D [] []<| .K (F3 a.cF2 b2.cF2) fun v=>.K (G9 a.x) fun v2=>.K (G9 b2.x) fun v3=>.K (F3 v2 v3) fun v4=>.K (af3 ([v,v4]:List Int)) fun v5=>.R v5)
def aj0 (begin _:Int)(x:B4)(out:List a7):M prog (List a7×Bool) (Fl (List a7) Empty):=
 .W (.hx 0)<| .D [] []<| .K (Q5 begin x.G7) fun v=>.U (.ap A8 out ([(⟨x,v⟩:a7)]:List a7) 2368) fun l=>.R (.next l)
def V3 (x2:(Int×Int))(_:Int)(x3:a7)(s:Int×Int×Int):M prog (List a7×Bool) (Fl (Int×Int×Int) (List a7×Bool)):=
 .W (.hx 0)<| .W (.ly 0)<| .I ((x3.x.Kind !=x2.1)&&(x3.x.Kind !=x2.2)) (.R (.next (s.1,s.2.1,s.2.2))) (.I (((x3.x.Kind !=s.2.2)||(decide (x3.cF2<=s.1)))||(decide (x3.x.ai4<s.2.1))) (.R (.ret (([]:List a7),false))) (.D [] []<| .R (.next (x3.cF2,x3.x.ai4,j7 ((j7 (x2.1+x2.2))-s.2.2)))))
def T0 (v2:List a7)(v3:Int):M prog (List a7×Bool) (Int⊕(Int⊕(List a7×Bool))):=
 .I (decide (v3<2)) (.O (.arr (fun y=>.agg [.t (tI y.1),.t (tI y.2)]) ([(1,2),(3,4)]:List (Int×Int)) v3) fun x2=>.D [] []<|M.Q A8 v2 2 60 (fun(t:Int×Int×Int)=>[.t 17 (.t (tI t.1)),.t 18 (.t (tI t.2.1)),.t 19 (.t (tI t.2.2)),.x 56]) 4 (.one .rt) (V3 x2) ((-1),0,x2.1) (fun _=>.R (.inl (j7 (v3+1)))) (fun r3=>.R (.inr (.inr r3)))) (.R (.inr (.inl v3)))
def aq9 (e2:o4)(f2:A0)(begin M1:Int):C prog (List a7×Bool):=.of Z call373 func373 [at5 e2,aO8 f2,.t (tI begin),.t (tI M1)] (fun r=>.P7 [.t (tS A8 r.1),.t (tB r.2)]) (
 .Z (.fr 25)<| .K (aE6 e2 ([f2]:List A0) M1) fun r2=>.I (r2.2 !=0) (.R (([]:List a7),false)) (.Z (.np 12 2368 450 5 [])<|M.Q ax4 r2.1 2 34 (fun(t:List a7)=>[.t 12 (.own 2368),.x 4,.x 5,.b 2368 (.rs 450 5 t A8),.d 4,.d 5]) 0 (.e) (aj0 begin) ([]:List a7) (fun dm3=>.KG (C8 dm3 (.of (fun z_=>ac4 z_.1 z_.2) 403 [])) [] fun v2=>.L (fun(t:Int)=>[.t 53 (.t (tI t)),.x 48]) 2 (.one .rt) (T0 v2) 0 (fun _=>.R (v2,true)) (fun r4=>.R r4)) (fun t=>t.elim)))
def ag2 (v _:Int)(x3:a7)(f3:List A4):M prog c8 (Fl (List A4) Empty):=
 .W (.hx 0)<| .Pn 40000<| .D [] [(13,40000)]<| .U (.ap I0 f3 ([(⟨x3.x,j7 (v+x3.cF2),false,0⟩:A4)]:List A4) 40000) fun l=>.R (.next l)
def ag1 (s:c8)(r2:Int×Int)(_ x:Int)(f2:List A4):M prog c8 (Fl (List A4) Empty):=
 .W (.hx 0)<| .D [] []<| .K (av0 s.u4 x) fun r3=>.K (Q5 s.A1.G7 (ew5 (j7 (r3.1+5760)) 46080)) fun v=>.Z (.fb 5)<| .K (H2 s.Next (.of (fun z_=>Y0 z_ x) 372 [aJ6 x])) fun v2=>.I ((decide (v>=s.A1.am3))||(decide (v2<0))) (.R (.next f2)) (.D [] []<| .O (.ix B1 s.Next v2) fun x2=>.K (aq9 s.u4 x2 (ew5 (j7 (r3.1+5760)) 46080) r2.1) fun r4=>.I (!r4.2) (.R (.next f2)) (M.Q A8 r4.1 2 90 (fun(t:List A4)=>[.x 34,.x 35,.x 36,.x 45,.x 46,.x 47,.x 48,.x 52,.x 53,.x 54,.x 59,.x 60,.x 61,.x 62,.x 70,.x 71,.x 72,.x 74,.x 75,.x 76,.b 40000 (.rs 221 7 t I0)]) 2 (.e) (ag2 v) f2 (fun f4=>.R (.next f4)) (fun t=>t.elim)))
def ah1 (s:c8):CG prog c8:=.of Z call331 func331 [.ptr 1000000 0] [(1000000,.box (av2 (aL1 s) [(11,.own 1000001)])),(1000001,.rs 221 7 s.G3 I0)] (fun _=>.P7 []) (fun r=>[(900000,.rs 221 7 r.G3 I0),(1000000,.box (av2 (aL1 r) [(11,.own 900000)]))]) [900000] (
 .K (aE2 s.A1 23040) fun r2=>.Z (.rn [(1000001,40000)])<|M.Q aJ6 s.u4.z8 2 29 (fun(t:List A4)=>[.x 16,.x 17,.x 18,.x 23,.x 24,.x 25,.x 26,.b 40000 (.rs 221 7 t I0)]) 0 (.e) (ag1 s r2) s.G3 (fun f5=>.R ({s with G3:=f5}:c8)) (fun t=>t.elim))
def aa0 (v4 i:Int)(f2:List A4):M prog (c8×List j6×Int) (Fl (List A4) Empty):=
 .D [] []<| .O (.ix I0 f2 i) fun x=>.W (.ly 0)<| .W (.hx 0)<| .U (.st I0 f2 i ({x with Left:=G4 (-1048576) (j7 (x.Left-v4))}:A4) 0) fun l=>.R (.next l)
def al3 (s:c8)(c:D8):C prog (c8×List j6×Int):=.of Z call268 func268 [R5 s,bA5 c] (fun r=>.P7 [R5 r.1,.t (tS p7 r.2.1),.t (tI r.2.2)]) (
 .K (J4 s) fun v=>.G (!v) (.R true) (.K (ai5 c) fun v2=>.R (!v2)) fun b2=>.I b2 (.R ((⟨(⟨([]:List Int),0⟩:o4),(⟨false,0,0,0,0,0⟩:D8),(⟨0,([]:List j5)⟩:u0),([]:List A0),([]:List A4),false⟩:c8),([]:List j6),1)) (.I (!c.V6) (.R ((⟨(⟨([]:List Int),0⟩:o4),(⟨false,0,0,0,0,0⟩:D8),(⟨0,([]:List j5)⟩:u0),([]:List A0),([]:List A4),false⟩:c8),([]:List j6),6)) (.I (decide (c.At<s.j9.T1)) (.R ((⟨(⟨([]:List Int),0⟩:o4),(⟨false,0,0,0,0,0⟩:D8),(⟨0,([]:List j5)⟩:u0),([]:List A0),([]:List A4),false⟩:c8),([]:List j6),16)) (.KG (L2 s) [2280] fun v3=>.KG (ab1 v3 c.At) [2304] fun r2=>.J0 0 (fun(t:List A4)=>[.x 2,.x 22,.x 27,.x 29,.x 30,.x 36,.x 39,.x 40,.b 2304 (.rs 221 7 t I0),.d 2]) (.I s.A1.V6 (.K (Q5 s.A1.G7 c.G7) fun v4=>M.QN (r2.2.G3.length:Int) 2 51 (fun(t:List A4)=>[.x 2,.x 22,.x 27,.x 29,.x 30,.x 36,.x 39,.x 40,.x 42,.x 43,.x 45,.x 48,.x 49,.b 2304 (.rs 221 7 t I0),.d 2]) 1 (.e) (aa0 v4) r2.2.G3 (fun f3=>.R f3) (fun t=>t.elim)) (.R r2.2.G3)) fun f4=>.I (!r2.2.Cut) (.KG (ah1 (⟨r2.2.u4,c,r2.2.j9,r2.2.Next,f4,r2.2.Cut⟩:c8)) [2592] fun v5=>.I (decide ((v5.G3.length:Int)>200)) (.R ((⟨(⟨([]:List Int),0⟩:o4),(⟨false,0,0,0,0,0⟩:D8),(⟨0,([]:List j5)⟩:u0),([]:List A0),([]:List A4),false⟩:c8),([]:List j6),5)) (.KG (ak2 v5) [] fun v6=>.R (v6,r2.1,0))) (.R ((⟨r2.2.u4,c,r2.2.j9,r2.2.Next,f4,r2.2.Cut⟩:c8),r2.1,0))))))
set_option maxHeartbeats 4000000
def bd6 (R8:Z6)(e2:Int)(c:Z6):C prog Z6:=.of Z call326 func326 [ba9 R8,.t (tI e2),.el (cA1 c)] (fun r=>ba9 r) (
 .I (e2 !=0) (.R c) (.R R8))
def bt2 (s:j8)(aY6:Int):CG prog j8:=.of Z call178 func178 [.ptr 1000000 0,.t (tI aY6)] [(1000000,.box (av2 (G2 s) [(113,.own 1000001)])),(1000001,.rs 95 3 s.u9 p7)] (fun _=>.P7 []) (fun r=>[(900000,.rs 95 3 r.u9 p7),(1000000,.box (av2 (G2 r) [(113,.own 900000)]))]) [900000] (
 .K (bj2 s.u.H6 aY6) fun r2=>.D [] []<| .K (bL4 s.u.H6) fun v=>.K (bd6 r2.1 r2.2.2 v) fun v2=>.I ((r2.2.2 !=0)||(!r2.2.1)) (.R ({s with u:=(⟨s.u.u6,s.u.u3,s.u.j3,s.u.Q0,s.u.M5,v2,s.u.M4,s.u.K8,s.u.L5,s.u.H4,s.u.A7,s.u.aa4,s.u.Time⟩:ae5)}:j8)) (.D [] []<| .K (bz4 s.u.Q0) fun v3=>.K (bq6) fun v4=>.K (cx8 v4 s.u.Q0 aY6) fun r3=>.K (aZ1 r3.1 r3.2 v3) fun v5=>.KG (aZ3 ({s with u:=(⟨s.u.u6,s.u.u3,s.u.j3,s.u.Q0,s.u.M5,v2,s.u.M4,s.u.K8,s.u.L5,s.u.H4,s.u.A7,s.u.aa4,s.u.Time⟩:ae5)}:j8) v5 aY6) [2464] fun v6=>.I (v6.u.Q0.Mode !=2) (.R v6) (.J0 0 (fun(t:j8)=>[.x 4,.x 10,.x 11,.x 12,.x 13,.x 20,.x 21,.x 22,.x 23,.x 24,.x 30,.x 31,.x 32,.x 39,.x 40,.x 41,.x 42,.x 43,.x 47,.x 48,.x 49,.x 50,.x 59,.x 60,.x 61,.x 62,.x 63,.x 66,.x 67,.x 68,.x 69,.x 70,.b 2816 (.rs 95 3 t.u9 p7),.b 1000000 (.box (av2 (G2 t) [(113,.own 2816)])),.d 4,.d 2464]) (.I (v6.u.Q0.ax9==0) (.D [] []<| .K (bt0 v6.u.M5) fun v7=>.K (bC6) fun v8=>.K (bJ0 v8 v6.u.M5) fun r4=>.K (aS9 r4.1 r4.2 v7) fun v9=>.I (!v9.aX2) (.KG (aX6 ({v6 with u:=(⟨v6.u.u6,v6.u.u3,v6.u.j3,v6.u.Q0,v9,v6.u.H6,v6.u.M4,v6.u.K8,v6.u.L5,v6.u.H4,v6.u.A7,v6.u.aa4,v6.u.Time⟩:ae5)}:j8) aY6) [2816] fun v10=>.R v10) (.Z (.rn [(2464,2816)])<| .R ({v6 with u:=(⟨v6.u.u6,v6.u.u3,v6.u.j3,v6.u.Q0,v9,v6.u.H6,v6.u.M4,v6.u.K8,v6.u.L5,v6.u.H4,v6.u.A7,v6.u.aa4,v6.u.Time⟩:ae5)}:j8))) (.Z (.rn [(2464,2816)])<| .R v6)) fun f2=>.I f2.u.M5.aX2 (.D [] [(25,7)]<| .K (bq6) fun v11=>.K (bO0 v11 aY6 f2.u.Q0.ax9 f2.u.M5.bF2 f2.u.Q0.E9) fun r5=>.D [] []<| .K (al3 f2.u.j3 r5.1) fun r6=>.KG (aG6 f2 r6.1 r6.2.1 r6.2.2) [3152] fun v12=>.R v12) (.R f2))))
def aT5 (x:Int)(s3:List Int×j8):M prog j8 ((List Int×j8)⊕((List Int×j8)⊕Empty)):=
 .G (decide ((s3.1.length:Int)>0)) (.O (.ix aJ6 s3.1 0) fun x2=>.R (decide (x2<=x))) (.R false) fun b2=>.I b2 (.KG (aZ4 s3.2 s3.1) [] fun r5=>.R (.inl (r5.2,r5.1))) (.R (.inr (.inl (s3.1,s3.2))))
def aT4 (_ x:Int)(s2:List Int×j8):M prog j8 (Fl (List Int×j8) Empty):=
 .W (.hx 0)<| .L (fun(t:List Int×j8)=>[.b 10 (.box [.t (tS aJ6 t.1)]),.b 2312 (.rs 95 3 t.2.u9 p7),.b 1000000 (.box (av2 (G2 t.2) [(113,.own 2312)]))]) 2 (.e) (aT5 x) (s2.1,s2.2) (fun s4=>.KG (bt2 s4.2 x) [2792] fun v9=>.Z (.rn [(2792,2312)])<| .R (.next (s4.1,v9))) (fun t=>t.elim)
def bh7 (s6:List Int×j8):M prog j8 ((List Int×j8)⊕((List Int×j8)⊕Empty)):=
 .I (decide ((s6.1.length:Int)>0)) (.KG (aZ4 s6.2 s6.1) [] fun r6=>.R (.inl (r6.2,r6.1))) (.R (.inr (.inl (s6.1,s6.2))))
def bj7 (s:j8):CG prog j8:=.of Z call85 func85 [.ptr 1000000 0] [(1000000,.box (av2 (G2 s) [(113,.own 1000001)])),(1000001,.rs 95 3 s.u9 p7)] (fun _=>.P7 []) (fun r=>[(900000,.rs 95 3 r.u9 p7),(1000000,.box (av2 (G2 r) [(113,.own 900000)]))]) [900000] (
 .D [] []<| .K (bz4 s.u.Q0) fun v=>.K (bq6) fun v2=>.K (cg7 v2 s.u.Q0 s.t) fun r2=>.K (aZ1 r2.1 r2.2 v) fun v3=>.KG (aZ3 s v3 s.t) [2312] fun v4=>.D [] []<| .K (bq6) fun v5=>.K (bA3 v5 (j7 (db0 v4.u.A7.J8 65536)) (j7 (db0 (j7 (v4.u.A7.J8+(j7 (10000*v4.u.A7.D1)))) 65536))) fun r3=>.K (bC6) fun v6=>.K (bj3 v6 (j7 (db0 v4.u.A7.J8 65536)) (j7 (db0 (j7 (v4.u.A7.J8+(j7 (10000*v4.u.A7.D1)))) 65536))) fun r4=>.KG (aI6 v4 r4.1) [] fun v7=>.KG (aI6 v4 r3.1) [] fun v8=>M.Q aJ6 v8 2 81 (fun(t:List Int×j8)=>[.x 0,.x 14,.x 15,.x 16,.x 17,.x 18,.x 22,.x 23,.x 24,.x 25,.x 27,.x 28,.x 29,.x 35,.x 36,.x 37,.x 40,.x 41,.x 42,.x 43,.x 44,.x 46,.x 47,.x 48,.x 49,.x 50,.x 73,.x 76,.x 77,.b 10 (.box [.t (tS aJ6 t.1)]),.b 2312 (.rs 95 3 t.2.u9 p7),.b 1000000 (.box (av2 (G2 t.2) [(113,.own 2312)]))]) 0 (.e) (aT4) (v7,v4) (fun s5=>.L (fun(t:List Int×j8)=>[.b 10 (.box [.t (tS aJ6 t.1)]),.b 2312 (.rs 95 3 t.2.u9 p7),.b 1000000 (.box (av2 (G2 t.2) [(113,.own 2312)]))]) 4 (.e) (bh7) (s5.1,s5.2) (fun s7=>.D [] []<| .K (S9 s7.2.u.j3 (j7 (s7.2.t+10000))) fun r7=>.KG (aG6 s7.2 r7.1 r7.2.1 r7.2.2) [2968] fun v10=>.R v10) (fun t=>t.elim)) (fun t=>t.elim))
def bC8 (f2:A0):C prog Bool:=.of Z call181 func181 [aO8 f2] (fun r=>.t (tB r)) (
 .R (f2.Y4 !=0))
def az6 (t2:o6)(M1 B7:Int):C prog (Int×Int):=.of Z call182 func182 [S4 t2,.t (tI M1),.t (tI B7)] (fun r=>.P7 [.t (tI r.1),.t (tI r.2)]) (
 .K (aA7 t2 M1 B7) fun r2=>.I (r2.2 !=0) (.R (0,r2.2)) (.R (j7 (3*(G4 0 (j7 (M1-r2.1)))),0)))
def bJ1 (b2:L0)(p2:Y5)(fuel air:Int):C prog (Y5×Int×Int):=.of Z call183 func183 [aL0 b2,aX0 p2,.t (tI fuel),.t (tI air)] (fun r=>.P7 [aX0 r.1,.t (tI r.2.1),.t (tI r.2.2)]) (
 .K (bu3 b2 p2) fun v=>.I (!v) (.R ((⟨0,0,0,0,0,([]:List Int)⟩:Y5),0,1)) (.K (F5 fuel 0 1048576) fun v2=>.G (!v2) (.R true) (.K (F5 air 0 1048576) fun v3=>.R (!v3)) fun b3=>.I b3 (.R ((⟨0,0,0,0,0,([]:List Int)⟩:Y5),0,2)) (.D [] []<| .J0 0 (fun(t:Int)=>[.t 14 (.t (tI t)),.x 33,.x 37,.x 39,.x 48,.x 54]) (.I (decide ((j7 ((j7 (fuel-(j7 (db0 (j7 (fuel*b2.O8)) 1024))))+(j7 (db0 (j7 (p2.O8*b2.K7)) 1024))))>0)) (.O (.quo .i64 (j7 (10000*air)) (j7 (147*(j7 ((j7 (fuel-(j7 (db0 (j7 (fuel*b2.O8)) 1024))))+(j7 (db0 (j7 (p2.O8*b2.K7)) 1024))))))) fun q=>.K (C4 q 500 2000) fun v4=>.R v4) (.R 2000)) fun mixture=>.U (.ap aJ6 ([]:List Int) p2.Path 63) fun l=>.U (.ap aJ6 l ([mixture]:List Int) 63) fun l2=>.J0 0 (fun(t:List Int)=>[.t 15 (.t (tS aJ6 t)),.x 4,.x 64,.x 68,.x 69,.x 70,.x 72,.d 4,.d 63,.d 68]) (.I (decide ((l2.length:Int)>(j7 (b2.aX1+1)))) (.Z (.fr 63)<| .U (.sF aJ6 l2 1 (l2.length:Int)) fun l3=>.R l3) (.Z (.fr 63)<| .R l2)) fun path=>.R (({p2 with O8:=j7 (p2.O8+(j7 ((j7 (db0 (j7 (fuel*b2.O8)) 1024))-(j7 (db0 (j7 (p2.O8*b2.K7)) 1024))))),Path:=path}:Y5),j7 ((j7 (fuel-(j7 (db0 (j7 (fuel*b2.O8)) 1024))))+(j7 (db0 (j7 (p2.O8*b2.K7)) 1024))),0))))
def bt1 (old:Y5):C prog Y5:=.of Z call184 func184 [aX0 old] (fun r=>.fz 271 [cO3 r]) (
 .Z (.fb 1)<| .R old)
def bf1 (w:ap0)(S7 load M1:Int):CG prog ap0:=.of Z call272 func272 [.ptr 1000000 0,.t (tI S7),.t (tI load),.t (tI M1)] [(1000000,.box (bc5 w))] (fun _=>.P7 []) (fun r=>[(1000000,.box (bc5 r))]) [] (
 .D [] []<| .D [] []<| .K (V1 (j7 ((j7 ((j7 ((j7 (S7-load))-(j7 (db0 (j7 (w.b.ao9*w.A7.D1)) 65536))))*M1))+w.A7.Rest)) w.b.ai3) fun v=>.K (ab7 (j7 ((j7 ((j7 ((j7 (S7-load))-(j7 (db0 (j7 (w.b.ao9*w.A7.D1)) 65536))))*M1))+w.A7.Rest)) w.b.ai3) fun v2=>.J0 0 (fun(t:Int)=>[.t 10 (.t (tI t)),.x 15,.x 16,.x 17,.x 18,.x 20,.x 21,.x 22,.x 23,.x 30,.x 31,.x 32,.x 33,.x 37,.x 38,.x 39,.x 40,.x 44,.x 45,.x 46,.x 47,.x 50,.x 51,.x 52,.x 53]) (.I ((decide ((j7 (w.A7.D1+v))<0))||(decide ((j7 (w.A7.D1+v))>262144))) (.R 0) (.R v2)) fun rest=>.K (C4 (j7 (w.A7.D1+v)) 0 262144) fun v3=>.R (⟨(⟨w.A7.J8,v3,rest,w.A7.K9,w.A7.O8,w.A7.Path⟩:Y5),w.b⟩:ap0))
def aR5 (w:ap0)(bm9 o7 M1:Int):CG prog ap0:=.of Z call273 func273 [.ptr 1000000 0,.t (tI bm9),.t (tI o7),.t (tI M1)] [(1000000,.box (bc5 w))] (fun _=>.P7 []) (fun r=>[(1000000,.box (bc5 r))]) [] (
 .D [] []<| .D [] []<| .K (V1 (j7 ((j7 ((j7 (db0 (j7 ((j7 (w.b.I6*bm9))*(j7 (1013-w.A7.K9)))) 1000))-(j7 (db0 (j7 (o7*w.A7.K9)) 1024))))*M1)) (j7 (65536*w.b.aO6))) fun v=>.K (C4 (j7 (w.A7.K9+v)) 50 1013) fun v2=>.R (⟨(⟨w.A7.J8,w.A7.D1,w.A7.Rest,v2,w.A7.O8,w.A7.Path⟩:Y5),w.b⟩:ap0))
def cf3 (b2:L0)(p2:Y5)(bm9 S7 load M1:Int):C prog (Y5×ee4×Int):=.of Z call185 func185 [aL0 b2,aX0 p2,.t (tI bm9),.t (tI S7),.t (tI load),.t (tI M1)] (fun r=>.P7 [aX0 r.1,eK3 r.2.1,.t (tI r.2.2)]) (
 .K (bu3 b2 p2) fun v=>.I (!v) (.R ((⟨0,0,0,0,0,([]:List Int)⟩:Y5),(⟨0,0⟩:ee4),1)) (.K (F5 bm9 0 1000) fun v2=>.G (!v2) (.R true) (.K (F5 S7 (-5000) 10000) fun v3=>.R (!v3)) fun b3=>.G b3 (.R true) (.K (F5 load (-10000) 10000) fun v4=>.R (!v4)) fun b4=>.G b4 (.R true) (.K (F5 M1 1 10000) fun v5=>.R (!v5)) fun b5=>.I b5 (.R ((⟨0,0,0,0,0,([]:List Int)⟩:Y5),(⟨0,0⟩:ee4),2)) (.U (.ap aJ6 ([]:List Int) p2.Path 49) fun l=>.Z (.fr 49)<| .KG (bf1 (⟨({p2 with Path:=l}:Y5),b2⟩:ap0) S7 load M1) [] fun v6=>.D [] []<| .KG (aR5 (⟨(⟨ew5 (j7 (v6.A7.J8+(j7 (p2.D1*M1)))) 3019898880,v6.A7.D1,v6.A7.Rest,v6.A7.K9,v6.A7.O8,v6.A7.Path⟩:Y5),v6.b⟩:ap0) bm9 p2.D1 M1) [] fun v7=>.D [] [(8,12)]<| .R (v7.A7,(⟨M1,p2.D1⟩:ee4),0))))
def aT0 (R8:Y5)(e2:Int)(c:Y5):C prog Y5:=.of Z call271 func271 [aX0 R8,.t (tI e2),.el (cO3 c)] (fun r=>aX0 r) (
 .I (e2 !=0) (.R c) (.R R8))
def bd7 (s:j8):CG prog j8:=.of Z call86 func86 [.ptr 1000000 0] [(1000000,.box (G2 s))] (fun _=>.P7 []) (fun r=>[(1000000,.box (G2 r))]) [] (
 .J0 0 (fun(t:Int)=>[.x 14,.x 15,.x 16,.x 17,.x 18,.x 20,.x 21,.x 22,.c 1000000 114 [.t (tI t)]]) (.I (((!s.cut)&&s.u.L5.T6)&&s.known) (.R s.E6.o8) (.R s.S7)) fun f2=>.J0 0 (fun(t:Y5)=>[.x 42,.x 43,.x 44,.c 1000000 78 [.t (tI t.J8),.t (tI t.D1),.t (tI t.Rest),.t (tI t.K9),.t (tI t.O8),.t (tS aJ6 t.Path)]]) (.I (decide (f2>0)) (.K (H2 s.E6.N9 (.of (fun z_=>bC8 z_) 181 [])) fun v=>.J0 0 (fun(t:Int)=>[.t 3 (.t (tI t)),.x 42,.x 43,.x 44,.x 47,.x 48,.x 49,.x 50]) (.I (decide (v>=0)) (.D [] []<| .O (.ix B1 s.E6.N9 v) fun x=>.K (az6 s.u.u6 x.Y4 13500) fun r2=>.R r2.1) (.R 0)) fun bp9=>.D [] [(21,5)]<| .K (bJ1 s.u.aa4 s.u.A7 bp9 s.w9) fun r3=>.D [] []<| .K (bt1 s.u.A7) fun v2=>.K (aT0 r3.1 r3.2.2 v2) fun v3=>.R v3) (.R s.u.A7)) fun f3=>.J0 0 (fun(t:Int)=>[.t 8 (.t (tI t)),.x 106,.x 107,.x 108,.x 110,.x 111,.x 112]) (.I (decide (s.o7<400)) (.R (j7 (f2+800))) (.R f2)) fun S7=>.J0 0 (fun(t:Int)=>[.t 9 (.t (tI t))]) (.I s.u.L5.T6 (.R s.E6.I6) (.R 0)) fun bm9=>.J0 0 (fun(t:Int)=>[.t 10 (.t (tI t)),.x 123,.x 124,.x 125,.x 126]) (.I (s.d.bN6 !=0) (.D [] []<| .R (j7 (s.d.bN7+s.d.bk7))) (.R 0)) fun load=>.D [] [(21,11),(22,12)]<| .K (cf3 s.u.aa4 f3 bm9 (F2 S7 10000) load 10000) fun r4=>.D [] []<| .K (bt1 f3) fun v4=>.K (aT0 r4.1 r4.2.2 v4) fun v5=>.R ({s with u:=(⟨s.u.u6,s.u.u3,s.u.j3,s.u.Q0,s.u.M5,s.u.H6,s.u.M4,s.u.K8,s.u.L5,s.u.H4,v5,s.u.aa4,s.u.Time⟩:ae5),S7:=f2}:j8))
def bA2 (_:Int)(x:j6)(last:Int):M prog Bool (Fl Int Bool):=
 .W (.hx 0)<| .K (bK1 x.At) fun v=>.I ((((!v)||(decide (x.At<last)))||(decide (x.Channel<0)))||(decide (x.Channel>=16))) (.R (.ret false)) (.R (.next x.At))
def cg4 (l:List j6):C prog Bool:=.of Z call274 func274 [.t (tS p7 l)] (fun r=>.t (tB r)) (
 .I (decide ((l.length:Int)>1000)) (.R false) (M.Q p7 l 2 11 (fun(t:Int)=>[.t 3 (.t (tI t))]) 0 (.one .rt) (bA2) 0 (fun _=>.R true) (fun r2=>.R r2)))
def N5 (s:List j6)(del:Cl prog j6 Bool (fun x=>[aA1 x]) (fun r=>.t (tB r))):CG prog (List j6):=⟨275,[.own 1000000,.fz del.n del.cs],[(1000000,.rs 95 3 s p7)],Pv.N5 s (fun x0=>del.f x0),fun _=>dt0 s,(fun r=>.t (tS p7 r)),(fun _=>[]),[],bi2 s del.n del.cs (fun x0=>del.f x0) (fun x0=>del.ok x0),fun _ r h=>bh3 h⟩
def aS0 (s:List j6):CG prog (List j6):=.of Z call276 func276 [.t (tS p7 s)] [] (fun _=>.own 900000) (fun r=>[(900000,.rs 95 3 r p7)]) [900000] (
 .Nl p7 s (.I true (.Z (.np 2 70000 95 3 [])<| .R ([]:List j6)) .N) (fun s=>.I false .N (.U (.ap p7 ([]:List j6) s 5) fun l=>.R l)))
def cp3 (x:j6)(c:ao0):C prog Bool:=.of Z call277 func277 [aA1 x,.el (bt3 c)] (fun r=>.t (tB r)) (
 .R (x.K2&&(!c.T6)))
def cg2 (s:ao0)(l:List j6):C prog (List j6×Int):=.of Z call186 func186 [bk6 s,.t (tS p7 l)] (fun r=>.P7 [.t (tS p7 r.1),.t (tI r.2)]) (
 .K (bm6 s) fun v=>.G (!v) (.R true) (.K (cg4 l) fun v2=>.R (!v2)) fun b2=>.I b2 (.R (([]:List j6),1)) (.KG (aS0 l) [2120] fun v3=>.Z (.fb 2)<| .KG (N5 v3 (.of (fun z_=>cp3 z_ s) 277 [bt3 s])) [] fun v4=>.R (v4,0)))
def bn6 (s:j8):CG prog ak6:=.of Z call87 func87 [.ptr 1000000 0] [(1000000,.box (G2 s))] (fun r=>cr1 r) (fun _=>[(1000000,.box (G2 s))]) [] (
 .D [] []<| .K (cg2 s.u.L5 s.u9) fun r2=>.D [] []<| .R (⟨s.t,s.o7,s.S7,s.U7,r2.1,s.Y6,(!s.u.L5.T6)⟩:ak6))
def bQ8 (u:ae5)(d:L6)(k:List ae4):C prog (ae5×ak6):=.of Z call42 func42 [ca1 u,bc3 d,.t (tS aG7 k)] (fun r=>.P7 [ca1 r.1,cr1 r.2]) (
 .K (cf1 u.A7.D1) fun r2=>.Z (.nb 24 2292 267 7 [107])<| .Z (.nb 24 2293 95 3 [113])<| .KG (bj6 (⟨u,d,k,u.Time,r2.1,([]:List V9),0,0,0,0,0,(⟨0,([]:List A0),0⟩:O3),0,0,((u.Q0.Mode==2)&&u.M5.aX2),false,([]:List j6),0⟩:j8)) [] fun v=>.KG (aT1 v) [2304] fun v2=>.KG (aT2 v2) [] fun v3=>.Z (.fr 2304)<| .KG (aE5 v3) [] fun v4=>.KG (aZ2 v4) [2352] fun v5=>.KG (bj7 v5) [2368] fun v6=>.Z (.fr 2368)<| .KG (bd7 v6) [] fun v7=>.D [] []<| .KG (bn6 ({v7 with u:=(⟨v7.u.u6,v7.u.u3,v7.u.j3,v7.u.Q0,v7.u.M5,v7.u.H6,v7.u.M4,v7.u.K8,v7.u.L5,v7.u.H4,v7.u.A7,v7.u.aa4,j7 (v7.t+10000)⟩:ae5)}:j8)) [] fun v8=>.R ((⟨v7.u.u6,v7.u.u3,v7.u.j3,v7.u.Q0,v7.u.M5,v7.u.H6,v7.u.M4,v7.u.K8,v7.u.L5,v7.u.H4,v7.u.A7,v7.u.aa4,j7 (v7.t+10000)⟩:ae5),v8))
def bs8 (u:ae5)(d:L6)(k:List ae4):C prog (ae5×ak6×Int):=.of Z call20 func20 [ca1 u,bc3 d,.t (tS aG7 k)] (fun r=>.P7 [ca1 r.1,cr1 r.2.1,.t (tI r.2.2)]) (
 .K (bV5 u) fun v=>.G (!v) (.R true) (.K (bH6 k) fun v2=>.R (!v2)) fun b2=>.G b2 (.R true) (.K (cu5 d) fun v3=>.R (!v3)) fun b3=>.I b3 (.R ((⟨(⟨(⟨([]:List Int),([]:List Int),([]:List (List Int))⟩:SMap),(⟨([]:List Int),([]:List Int),([]:List (List Int))⟩:SMap),(⟨([]:List Int),([]:List Int),([]:List (List Int))⟩:SMap),(⟨([]:List Int),([]:List Int),([]:List (List Int))⟩:SMap),(⟨([]:List Int),([]:List Int)⟩:P8),(⟨([]:List Int),([]:List Int)⟩:P8),(⟨([]:List Int),([]:List Int)⟩:P8),(⟨([]:List Int),([]:List Int)⟩:P8),(⟨0,0,0,0⟩:aV0)⟩:o6),(⟨(⟨0,0,false⟩:U2),(⟨0⟩:F4),([]:List B6),(⟨false,false,0,0,([]:List aa7)⟩:M6),0,(⟨0,0⟩:Z7)⟩:A5),(⟨(⟨([]:List Int),0⟩:o4),(⟨false,0,0,0,0,0⟩:D8),(⟨0,([]:List j5)⟩:u0),([]:List A0),([]:List A4),false⟩:c8),(⟨0,0,0,0,0,0⟩:aa3),(⟨false,0,0,false⟩:ad0),(⟨false,0,0⟩:Z6),(⟨0,0,false⟩:ah3),(⟨0,0,0,false,false⟩:aa8),(⟨false,0,0⟩:ao0),(⟨([]:List u7),([]:List A2),0,false⟩:B5),(⟨0,0,0,0,0,([]:List Int)⟩:Y5),(⟨0,0,0,0,0,0,0⟩:L0),0⟩:ae5),(⟨0,0,0,0,([]:List j6),([]:List V9),false⟩:ak6),1)) (.I (decide ((j7 (u.Time+10000))>549755813888)) (.R ((⟨(⟨(⟨([]:List Int),([]:List Int),([]:List (List Int))⟩:SMap),(⟨([]:List Int),([]:List Int),([]:List (List Int))⟩:SMap),(⟨([]:List Int),([]:List Int),([]:List (List Int))⟩:SMap),(⟨([]:List Int),([]:List Int),([]:List (List Int))⟩:SMap),(⟨([]:List Int),([]:List Int)⟩:P8),(⟨([]:List Int),([]:List Int)⟩:P8),(⟨([]:List Int),([]:List Int)⟩:P8),(⟨([]:List Int),([]:List Int)⟩:P8),(⟨0,0,0,0⟩:aV0)⟩:o6),(⟨(⟨0,0,false⟩:U2),(⟨0⟩:F4),([]:List B6),(⟨false,false,0,0,([]:List aa7)⟩:M6),0,(⟨0,0⟩:Z7)⟩:A5),(⟨(⟨([]:List Int),0⟩:o4),(⟨false,0,0,0,0,0⟩:D8),(⟨0,([]:List j5)⟩:u0),([]:List A0),([]:List A4),false⟩:c8),(⟨0,0,0,0,0,0⟩:aa3),(⟨false,0,0,false⟩:ad0),(⟨false,0,0⟩:Z6),(⟨0,0,false⟩:ah3),(⟨0,0,0,false,false⟩:aa8),(⟨false,0,0⟩:ao0),(⟨([]:List u7),([]:List A2),0,false⟩:B5),(⟨0,0,0,0,0,([]:List Int)⟩:Y5),(⟨0,0,0,0,0,0,0⟩:L0),0⟩:ae5),(⟨0,0,0,0,([]:List j6),([]:List V9),false⟩:ak6),2)) (.K (bQ8 u d k) fun r2=>.D [] [(2,6)]<| .R (r2.1,r2.2,0))))
def aL7:C prog Bool:=.of Z call6 func6 [] (fun r=>.t (tB r)) (
 .K (dG0) fun v=>.K (ek5) fun v2=>.K (bY2) fun v3=>.K (bl6) fun v4=>.K (bV4 v v2 v3 v4) fun r2=>.K (bs8 r2.1 (⟨0,0,0,0,0⟩:L6) ([]:List ae4)) fun r3=>.R (((((((r2.2==0)&&(r3.2.2==0))&&(!r3.2.1.Off))&&(r3.2.1.D1==0))&&(r3.2.1.o8==0))&&(decide (r3.1.A7.D1>0)))&&(r3.1.Time==10000)))
def bt8 (l:List Int):C prog Bool:=.of Z call22 func22 [.t (tS aJ6 l)] (fun r=>.t (tB r)) (
 .R (decide ((l.length:Int)>40)))
def aW0 (_:Int)(x:SMap)(_:Unit):M prog Bool (Fl Unit Bool):=
 .W (.hx 0)<| .W (.ly 0)<| .G (((decide ((x.X.length:Int)>40))||(decide ((x.Y.length:Int)>40)))||(decide ((x.Z.length:Int)>40))) (.R true) (.K (F6 x.Z (.of (fun z_=>bt8 z_) 22 [])) fun v=>.R v) fun b2=>.I b2 (.R (.ret false)) (.R (.next ()))
def aW1 (_:Int)(x2:P8)(_:Unit):M prog Bool (Fl Unit Bool):=
 .W (.hx 0)<| .W (.ly 0)<| .I ((decide ((x2.X.length:Int)>40))||(decide ((x2.Y.length:Int)>40))) (.R (.ret false)) (.R (.next ()))
def bh9 (t2:o6):C prog Bool:=.of Z call7 func7 [S4 t2] (fun r=>.t (tB r)) (
 M.Q cO1 ([t2.Air,t2.N8,t2.o8,t2.aH5]:List SMap) 2 17 (fun(_:Unit)=>[.x 7,.x 9,.x 11,.x 13]) 0 (.one .rt) (aW0) () (fun _=>M.Q bH8 ([t2.L3,t2.ae6,t2.av6,t2.C1]:List P8) 2 53 (fun(_:Unit)=>[.x 1,.x 43,.x 45,.x 47,.x 49,.d 1]) 2 (.one .rt) (aW1) () (fun _=>.R true) (fun r2=>.R r2)) (fun r3=>.R r3))
def ao1 (x:List L6)(target:Int)(cmp:Cl prog (L6×Int) Int (fun x=>[bc3 x.1,.t (tI x.2)]) (fun r=>.t (tI r)))(s:Int×Int):M prog (Int×Bool) ((Int×Int)⊕((Int×Int)⊕Empty)):=
 .I (decide (s.1<s.2)) (.O (.ix al9 x (j7 (D0 .u64 (aW6.wrap (j7 (s.1+s.2))) 1))) fun x2=>.K (cmp.at (x2,target)) fun v=>.I (decide (v<0)) (.R (.inl (j7 ((j7 (D0 .u64 (aW6.wrap (j7 (s.1+s.2))) 1))+1),s.2))) (.R (.inl (s.1,j7 (D0 .u64 (aW6.wrap (j7 (s.1+s.2))) 1))))) (.R (.inr (.inl (s.1,s.2))))
def au1 (x:List L6)(target:Int)(cmp:Cl prog (L6×Int) Int (fun x=>[bc3 x.1,.t (tI x.2)]) (fun r=>.t (tI r))):C prog (Int×Bool):=.of Z call134 func134 [.t (tS al9 x),.t (tI target),.fz cmp.n cmp.cs] (fun r=>.P7 [.t (tI r.1),.t (tB r.2)]) (
 .L (fun(t:Int×Int)=>[.t 9 (.t (tI t.1)),.t 10 (.t (tI t.2))]) 0 (.e) (ao1 x target cmp) (0,(x.length:Int)) (fun s2=>.G (decide (s2.1<(x.length:Int))) (.O (.ix al9 x s2.1) fun x3=>.K (cmp.at (x3,target)) fun v2=>.R (v2==0)) (.R false) fun b2=>.R (s2.1,b2)) (fun t=>t.elim))
def cl2 (d:L6)(t2:Int):C prog Int:=.of Z call135 func135 [bc3 d,.t (tI t2)] (fun r=>.t (tI r)) (
 .R (j7 (d.At-t2)))
def cd3 (l:List L6)(t2:Int):C prog (Int×Int):=.of Z call78 func78 [.t (tS al9 l),.t (tI t2)] (fun r=>.P7 [.t (tI r.1),.t (tI r.2)]) (
 .K (az3 l) fun v=>.I (!v) (.R (0,1)) (.I ((decide (t2<0))||(decide (t2>1099511627776))) (.R (0,2)) (.K (au1 l t2 (.of (fun z_=>cl2 z_.1 z_.2) 135 [])) fun r2=>.I (!r2.2) (.R (j7 (r2.1-1),0)) (.R (r2.1,0)))))
def bC4 (l:List L6)(t2:Int):C prog (L6×Int):=.of Z call38 func38 [.t (tS al9 l),.t (tI t2)] (fun r=>.P7 [bc3 r.1,.t (tI r.2)]) (
 .K (cd3 l t2) fun r2=>.I (r2.2 !=0) (.R ((⟨0,0,0,0,0⟩:L6),r2.2)) (.O (.ix al9 l r2.1) fun x=>.R (({x with At:=t2}:L6),0)))
def cd4 (l:List L6)(k:List ae4)(_:Int)(s:List ak6×ae5):M prog (List ak6×Int) (Fl (List ak6×ae5) (List ak6×Int)):=
 .K (bC4 l s.2.Time) fun r2=>.K (bs8 s.2 r2.1 k) fun r3=>.I (r3.2.2 !=0) (.R (.ret (([]:List ak6),2))) (.U (.ap bx6 s.1 ([r3.2.1]:List ak6) 2472) fun l2=>.R (.next (l2,r3.1)))
def cH3 (u:ae5)(l:List L6)(k:List ae4)(steps:Int):C prog (List ak6×Int):=.of Z call11 func11 [ca1 u,.t (tS al9 l),.t (tS aG7 k),.t (tI steps)] (fun r=>.P7 [.t (tS bx6 r.1),.t (tI r.2)]) (
 .K (bV5 u) fun v=>.G (!v) (.R true) (.K (bH6 k) fun v2=>.R (!v2)) fun b2=>.G b2 (.R true) (.K (az3 l) fun v3=>.R (!v3)) fun b3=>.I b3 (.R (([]:List ak6),1)) (.I ((decide (steps<0))||(decide (steps>1000))) (.R (([]:List ak6),2)) (.Z (.np 10 2472 91 7 [])<|M.QN steps 2 36 (fun(t:List ak6×ae5)=>[.t 10 (.own 2472),.b 4 (.box (eK4 t.2)),.b 2472 (.rs 91 7 t.1 bx6)]) 0 (.one .rt) (cd4 l k) (([]:List ak6),u) (fun s2=>.R (s2.1,0)) (fun r4=>.R r4))))
def aH0 (r3:List ak6×Int)(i:Int)(_:Unit):M prog Bool (Fl Unit Bool):=
 .O (.ix bx6 r3.1 i) fun x=>.I (((((x.al8.length:Int) !=0)||x.Off)||(x.Time !=(j7 (10000*i))))||(decide (x.cI9<100))) (.R (.ret false)) (.R (.next ()))
def aD2 (t2:o6)(b2:L0)(e2:o4)(l:List L6)(steps:Int):C prog Bool:=.of Z call3 func3 [S4 t2,aL0 b2,at5 e2,.t (tS al9 l),.t (tK .u8 steps)] (fun r=>.t (tB r)) (
 .K (aL7) fun v=>.G (!v) (.R true) (.K (bh9 t2) fun v2=>.R (!v2)) fun b3=>.I ((b3||(decide ((e2.z8.length:Int)>20)))||(decide ((l.length:Int)>210))) (.K (aL7) fun v3=>.R v3) (.D [] [(9,11)]<| .K (bl6) fun v4=>.K (bV4 t2 b2 e2 v4) fun r2=>.I (r2.2 !=0) (.R (r2.2==1)) (.K (az3 l) fun v5=>.I (!v5) (.R true) (.K (cH3 r2.1 l ([]:List ae4) (ew5 (j7 steps) 121)) fun r3=>.I ((r3.2 !=0)||((r3.1.length:Int) !=(ew5 (j7 steps) 121))) (.R false) (M.QN (r3.1.length:Int) 2 72 (fun(_:Unit)=>[.x 5,.x 6,.x 7,.x 11,.d 5,.d 6,.d 7,.d 11]) 0 (.one .rt) (aH0 r3) () (fun _=>.R true) (fun r4=>.R r4))))))
end Go.Proofs.YtmhdghdbojdgfaaGreat
namespace Go.Pv
open Go
structure cq3 (x:SMap):Prop where
  X:(wfL (fun n=>(dO9 .i64 n).wf=true)) x.X
  Y:(wfL (fun n=>(dO9 .i64 n).wf=true)) x.Y
  Z:(wfL (wfL (fun n=>(dO9 .i64 n).wf=true))) x.Z
structure bE7 (x:P8):Prop where
  X:(wfL (fun n=>(dO9 .i64 n).wf=true)) x.X
  Y:(wfL (fun n=>(dO9 .i64 n).wf=true)) x.Y
structure dB7 (x:aV0):Prop where
  P:(fun n=>(dO9 .i64 n).wf=true) x.P
  I:(fun n=>(dO9 .i64 n).wf=true) x.I
  Low:(fun n=>(dO9 .i64 n).wf=true) x.Low
  bn0:(fun n=>(dO9 .i64 n).wf=true) x.bn0
structure cg9 (x:o6):Prop where
  Air:cq3 x.Air
  N8:cq3 x.N8
  o8:cq3 x.o8
  aH5:cq3 x.aH5
  L3:bE7 x.L3
  ae6:bE7 x.ae6
  av6:bE7 x.av6
  C1:bE7 x.C1
  ae3:dB7 x.ae3
structure cV5 (x:L0):Prop where
  ai3:(fun n=>(dO9 .i64 n).wf=true) x.ai3
  ao9:(fun n=>(dO9 .i64 n).wf=true) x.ao9
  aO6:(fun n=>(dO9 .i64 n).wf=true) x.aO6
  I6:(fun n=>(dO9 .i64 n).wf=true) x.I6
  O8:(fun n=>(dO9 .i64 n).wf=true) x.O8
  K7:(fun n=>(dO9 .i64 n).wf=true) x.K7
  aX1:(fun n=>(dO9 .i64 n).wf=true) x.aX1
structure cg8 (x:o4):Prop where
  z8:(wfL (fun n=>(dO9 .i64 n).wf=true)) x.z8
  ao2:(fun n=>(dO9 .i64 n).wf=true) x.ao2
structure bX1 (x:L6):Prop where
  At:(fun n=>(dO9 .i64 n).wf=true) x.At
  I4:(fun n=>(dO9 .i64 n).wf=true) x.I4
  bk7:(fun n=>(dO9 .i64 n).wf=true) x.bk7
  bN6:(fun n=>(dO9 .i64 n).wf=true) x.bN6
  bN7:(fun n=>(dO9 .i64 n).wf=true) x.bN7
end Go.Pv
namespace Go.Proofs.YtmhdghdbojdgfaaGreat
open Go Go.Pv Go.Proofs
theorem aD4:Reads Tryz.prog 3 aJ6 (fun n=>(dO9 .i64 n).wf=true):=cx2 Tryz.underlying3 (fun _=>rfl)
theorem bD9:Reads Tryz.prog 22 (do4 aJ6) (wfL (fun n=>(dO9 .i64 n).wf=true)):=bS8 (sz:=1) Tryz.underlying22 aD4 (by kernel_rfl) (by decide) (fun _=>rfl)
theorem er7:Reads Tryz.prog 23 (do4 (do4 aJ6)) (wfL (wfL (fun n=>(dO9 .i64 n).wf=true))):=bS8 (sz:=1) Tryz.underlying23 bD9 (by kernel_rfl) (by decide) (fun _=>rfl)
theorem co1:Reads Tryz.prog 25 cO1 cq3:=by
  intro H e w fuel cs x h
  obtain⟨xs,n,_,rfl,hl,hlen,hf⟩:=DataW.trod_struct Tryz.underlying25 h
  obtain⟨y0,w0,r0⟩:=S0 hlen hf 0 rfl bD9
  obtain⟨y1,w1,r1⟩:=S0 hlen hf 1 rfl bD9
  obtain⟨y2,w2,r2⟩:=S0 hlen hf 2 rfl er7
  exact⟨⟨y0,y1,y2⟩,⟨w0,w1,w2⟩,S1 (o:=0) (o':=1) r0 (by kernel_rfl) (S1 (o:=1) (o':=2) r1 (by kernel_rfl) (S1 (o:=2) (o':=3) r2 (by kernel_rfl) (bJ8 (hl.trans (by kernel_rfl)))))⟩
theorem co2:Reads Tryz.prog 27 bH8 bE7:=by
  intro H e w fuel cs x h
  obtain⟨xs,n,_,rfl,hl,hlen,hf⟩:=DataW.trod_struct Tryz.underlying27 h
  obtain⟨y0,w0,r0⟩:=S0 hlen hf 0 rfl bD9
  obtain⟨y1,w1,r1⟩:=S0 hlen hf 1 rfl bD9
  exact⟨⟨y0,y1⟩,⟨w0,w1⟩,S1 (o:=0) (o':=1) r0 (by kernel_rfl) (S1 (o:=1) (o':=2) r1 (by kernel_rfl) (bJ8 (hl.trans (by kernel_rfl))))⟩
theorem er8:Reads Tryz.prog 29 dV7 dB7:=by
  intro H e w fuel cs x h
  obtain⟨xs,n,_,rfl,hl,hlen,hf⟩:=DataW.trod_struct Tryz.underlying29 h
  obtain⟨y0,w0,r0⟩:=S0 hlen hf 0 rfl aD4
  obtain⟨y1,w1,r1⟩:=S0 hlen hf 1 rfl aD4
  obtain⟨y2,w2,r2⟩:=S0 hlen hf 2 rfl aD4
  obtain⟨y3,w3,r3⟩:=S0 hlen hf 3 rfl aD4
  exact⟨⟨y0,y1,y2,y3⟩,⟨w0,w1,w2,w3⟩,S1 (o:=0) (o':=1) r0 (by kernel_rfl) (S1 (o:=1) (o':=2) r1 (by kernel_rfl) (S1 (o:=2) (o':=3) r2 (by kernel_rfl) (S1 (o:=3) (o':=4) r3 (by kernel_rfl) (bJ8 (hl.trans (by kernel_rfl))))))⟩
theorem er9:Reads Tryz.prog 31 aQ9 cg9:=by
  intro H e w fuel cs x h
  obtain⟨xs,n,_,rfl,hl,hlen,hf⟩:=DataW.trod_struct Tryz.underlying31 h
  obtain⟨y0,w0,r0⟩:=S0 hlen hf 0 rfl co1
  obtain⟨y1,w1,r1⟩:=S0 hlen hf 1 rfl co1
  obtain⟨y2,w2,r2⟩:=S0 hlen hf 2 rfl co1
  obtain⟨y3,w3,r3⟩:=S0 hlen hf 3 rfl co1
  obtain⟨y4,w4,r4⟩:=S0 hlen hf 4 rfl co2
  obtain⟨y5,w5,r5⟩:=S0 hlen hf 5 rfl co2
  obtain⟨y6,w6,r6⟩:=S0 hlen hf 6 rfl co2
  obtain⟨y7,w7,r7⟩:=S0 hlen hf 7 rfl co2
  obtain⟨y8,w8,r8⟩:=S0 hlen hf 8 rfl er8
  exact⟨⟨y0,y1,y2,y3,y4,y5,y6,y7,y8⟩,⟨w0,w1,w2,w3,w4,w5,w6,w7,w8⟩,S1 (o:=0) (o':=3) r0 (by kernel_rfl) (S1 (o:=3) (o':=6) r1 (by kernel_rfl) (S1 (o:=6) (o':=9) r2 (by kernel_rfl) (S1 (o:=9) (o':=12) r3 (by kernel_rfl) (S1 (o:=12) (o':=14) r4 (by kernel_rfl) (S1 (o:=14) (o':=16) r5 (by kernel_rfl) (S1 (o:=16) (o':=18) r6 (by kernel_rfl) (S1 (o:=18) (o':=20) r7 (by kernel_rfl) (S1 (o:=20) (o':=24) r8 (by kernel_rfl) (bJ8 (hl.trans (by kernel_rfl)))))))))))⟩
theorem eL1:bY7 Tryz.prog 31 (fun x=>S4 x) cg9:=cb0 Tryz.underlying31 er9 (fun _=>rfl)
theorem es0:Reads Tryz.prog 33 bC9 cV5:=by
  intro H e w fuel cs x h
  obtain⟨xs,n,_,rfl,hl,hlen,hf⟩:=DataW.trod_struct Tryz.underlying33 h
  obtain⟨y0,w0,r0⟩:=S0 hlen hf 0 rfl aD4
  obtain⟨y1,w1,r1⟩:=S0 hlen hf 1 rfl aD4
  obtain⟨y2,w2,r2⟩:=S0 hlen hf 2 rfl aD4
  obtain⟨y3,w3,r3⟩:=S0 hlen hf 3 rfl aD4
  obtain⟨y4,w4,r4⟩:=S0 hlen hf 4 rfl aD4
  obtain⟨y5,w5,r5⟩:=S0 hlen hf 5 rfl aD4
  obtain⟨y6,w6,r6⟩:=S0 hlen hf 6 rfl aD4
  exact⟨⟨y0,y1,y2,y3,y4,y5,y6⟩,⟨w0,w1,w2,w3,w4,w5,w6⟩,S1 (o:=0) (o':=1) r0 (by kernel_rfl) (S1 (o:=1) (o':=2) r1 (by kernel_rfl) (S1 (o:=2) (o':=3) r2 (by kernel_rfl) (S1 (o:=3) (o':=4) r3 (by kernel_rfl) (S1 (o:=4) (o':=5) r4 (by kernel_rfl) (S1 (o:=5) (o':=6) r5 (by kernel_rfl) (S1 (o:=6) (o':=7) r6 (by kernel_rfl) (bJ8 (hl.trans (by kernel_rfl)))))))))⟩
theorem eL2:bY7 Tryz.prog 33 (fun x=>aL0 x) cV5:=cb0 Tryz.underlying33 es0 (fun _=>rfl)
theorem es1:Reads Tryz.prog 35 bQ9 cg8:=by
  intro H e w fuel cs x h
  obtain⟨xs,n,_,rfl,hl,hlen,hf⟩:=DataW.trod_struct Tryz.underlying35 h
  obtain⟨y0,w0,r0⟩:=S0 hlen hf 0 rfl bD9
  obtain⟨y1,w1,r1⟩:=S0 hlen hf 1 rfl aD4
  exact⟨⟨y0,y1⟩,⟨w0,w1⟩,S1 (o:=0) (o':=1) r0 (by kernel_rfl) (S1 (o:=1) (o':=2) r1 (by kernel_rfl) (bJ8 (hl.trans (by kernel_rfl))))⟩
theorem eL3:bY7 Tryz.prog 35 (fun x=>at5 x) cg8:=cb0 Tryz.underlying35 es1 (fun _=>rfl)
theorem ea7:Reads Tryz.prog 101 al9 bX1:=by
  intro H e w fuel cs x h
  obtain⟨xs,n,_,rfl,hl,hlen,hf⟩:=DataW.trod_struct Tryz.underlying101 h
  obtain⟨y0,w0,r0⟩:=S0 hlen hf 0 rfl aD4
  obtain⟨y1,w1,r1⟩:=S0 hlen hf 1 rfl aD4
  obtain⟨y2,w2,r2⟩:=S0 hlen hf 2 rfl aD4
  obtain⟨y3,w3,r3⟩:=S0 hlen hf 3 rfl aD4
  obtain⟨y4,w4,r4⟩:=S0 hlen hf 4 rfl aD4
  exact⟨⟨y0,y1,y2,y3,y4⟩,⟨w0,w1,w2,w3,w4⟩,S1 (o:=0) (o':=1) r0 (by kernel_rfl) (S1 (o:=1) (o':=2) r1 (by kernel_rfl) (S1 (o:=2) (o':=3) r2 (by kernel_rfl) (S1 (o:=3) (o':=4) r3 (by kernel_rfl) (S1 (o:=4) (o':=5) r4 (by kernel_rfl) (bJ8 (hl.trans (by kernel_rfl)))))))⟩
theorem es2:Reads Tryz.prog 36 (do4 al9) (wfL bX1):=bS8 (sz:=5) Tryz.underlying36 ea7 (by kernel_rfl) (by decide) (fun _=>rfl)
theorem eL4:bY7 Tryz.prog 36 (fun x=>.t (tS al9 x)) (wfL bX1):=dT8 Tryz.underlying36 es2 (fun _=>rfl)
theorem eE9:Reads Tryz.prog 5 eN0 (fun n=>(dO9 .u8 n).wf=true):=cx2 Tryz.underlying5 (fun _=>rfl)
theorem eV9:bY7 Tryz.prog 5 (fun x=>.t (tK .u8 x)) (fun n=>(dO9 .u8 n).wf=true):=dM0 Tryz.underlying5 eE9 (fun _=>rfl) (fun _=>rfl)
theorem es3:Reads Tryz.prog 96 eA2 (fun n=>(dO9 .u16 n).wf=true):=cx2 Tryz.underlying96 (fun _=>rfl)
theorem fe9:bY7 Tryz.prog 96 (fun x=>.t (tK .u16 x)) (fun n=>(dO9 .u16 n).wf=true):=dM0 Tryz.underlying96 es3 (fun _=>rfl) (fun _=>rfl)
end Go.Proofs.YtmhdghdbojdgfaaGreat

namespace Go.Pv
open Go.RowKit
theorem cU7 {S R:Type}(f:Int->S->Option (Fl S R))(I:Nat->S->Prop):∀(k i:Nat) (s:S),I i s->(∀j,i<=j->j<i+k->∀s,I j s->∃s',f (j:Int) s=some (.next s')/\I (j+1) s')->∃s',aW3 f k (i:Int) s=some (.inl s')/\I (i+k) s'
 |0,i,s,h,_=>⟨s,rfl,h⟩
 |k+1,i,s,h,st=>by
  obtain⟨s1,h1,h2⟩:=st i (cw4 _) (by omega) s h
  obtain⟨s2,h3,h4⟩:=cU7 f I k (i+1) s1 h2 (fun j a b=>st j (by omega) (by omega))
  refine⟨s2,?_,by rw[show i+(k+1)=i+1+k by omega];exact h4⟩
  simp only[aW3,h1,aD6]
  exact h3
theorem af9 {S R:Type}(n:Nat)(hn:n<=9223372036854775807)(f:Int->S->Option (Fl S R))(I:Nat->S->Prop)(s:S)(h:I 0 s)(st:∀j,j<n->∀s,I j s->∃s',f (j:Int) s=some (.next s')/\I (j+1) s'):∃s',K5 (n:Int) f s=some (.inl s')/\I n s':=by
 obtain⟨s',h1,h2⟩:=cU7 f I n 0 s h (fun j _ b=>st j (by omega))
 refine⟨s',?_,by simpa using h2⟩
 rw[al2 _ hn]
 exact h1
theorem cv6 {S B:Type}{mb:S->Option (S⊕B)}(I:Nat->S->Prop)(J:B->Prop):∀(n k:Nat) (s:S),I k s->(∀j,k<=j->j<k+n->∀s,I j s->∃s',mb s=some (.inl s')/\I (j+1) s')->(∀s,I (k+n) s->∃b,mb s=some (.inr b)/\J b)->∃b,J7 mb s=some b/\J b
 |0,k,s,h,_,e=>by
  obtain⟨b,h1,h2⟩:=e s h
  exact⟨b,D7 h1,h2⟩
 |n+1,k,s,h,st,e=>by
  obtain⟨s',h1,h2⟩:=st k (cw4 _) (by omega) s h
  rw[G6 h1]
  exact cv6 I J n (k+1) s' h2 (fun j a b=>st j (by omega) (by omega)) (by rw[show k+1+n=k+(n+1) by omega];exact e)
theorem T4 {α:Type}(l:List α)(i:Nat)(y:α)(h:i<l.length):aj2 l (i:Int) y=some (l.set i y):=by
 unfold aj2;rw[if_pos ⟨by omega,by omega⟩];rfl
theorem C5 {α:Type}(l:List α)(i:Nat)(h:i<l.length):C9 l (i:Int)=some l[i]:=by rw[T3,List.getElem?_eq_getElem h]
theorem bV9 {α:Type}(n:Nat)(h:n<=1073741824)(z:α):aX7 (n:Int) z=some (List.replicate n z):=by
 unfold aX7;rw[if_pos ⟨by omega,by omega⟩];rfl
theorem H5 {α:Type}(l r:List α)(h:l.length+r.length<=1073741824):R6 l r=some (l++r):=by
 unfold R6;rw[if_pos h]
theorem dF5 {α:Type}(l r:List α)(h:l.length=r.length):aI5 l r=r:=by
 unfold aI5;rw[h,List.take_length,<-h,List.drop_length,List.append_nil]
theorem aq5 {α S R:Type}(l:List α)(f:Int->α->S->Option (Fl S R)):cS7 l f=fun p=>bif decide (p.1<(l.length:Int))then((C9 l p.1).bind fun x=>(f p.1 x p.2).bind (aC9 p.1))else some (.inr (.inl p.2)):=rfl
theorem M0 {S R:Type}(n:Int)(f:Int->S->Option (Fl S R)):cn8 n f=fun p=>bif decide (p.1<n)then(f p.1 p.2).bind (aC9 p.1)else some (.inr (.inl p.2)):=rfl
theorem bg {α:Type}(c x y:Bool)(f:Bool->Option α):ai2 (bif c then some x else some y) f=f (bif c then x else y):=by cases c<;>rfl
theorem bga (c x:Bool):(bif c then x else false)=(c&&x):=by cases c<;>rfl
theorem bgo (c x:Bool):(bif c then true else x)=(c||x):=by cases c<;>rfl
theorem bso {α β:Type}(x:α)(f:α->Option β):ai2 (some x) f=f x:=rfl
theorem ci3 {α β:Type}{a:Option α}{x:α}{f:α->Option β}{r:Option β}(h:a=some x)(k:f x=r):a.bind f=r:=by subst h;exact k
theorem bI4 {α:Type}(l:List α)(hn:l.length<=9223372036854775807)(f:α->Option Bool)(p:α->Bool)(h:∀y∈l,f y=some (p y)):
  (ai2 (ai2 (J7 (fun(s:Int×Unit)=>bif decide (s.1<(l.length:Int))then(ai2 (ai2 (C9 l s.1) fun t=>ai2 (f t) fun t=>bif t then some (Fl.ret s.1)else some (Fl.next ())) (aC9 s.1))else some (Sum.inr (Sum.inl s.2))) (0,())) fun(t:Unit⊕Int)=>match t with| .inl _=>(some (-1))| .inr r2=>some r2) fun v=>some (decide (v>=0)))=some (l.any p):=by
 have:=ah7 l hn f p h
 exact this
theorem elE {P:Program}{ρ τ:Type}(t:Empty):(t.elim:M P ρ τ).run=(t.elim:Option τ):=t.elim
theorem bgt {α:Type}(c d:Bool)(x:α):(bif c then some (true,x)else some (d,x))=some (c||d,x):=by cases c<;>rfl
theorem da3 {α β:Type}{a:Option α}{f g:α->Option β}(h:∀y,a=some y->f y=g y):a.bind f=a.bind g:=by cases a;rfl;exact h _ rfl
theorem dM5 {α:Type}{c:Bool}{x y z w:α}(h:x=z)(k:y=w):(bif c then x else y)=(bif c then z else w):=by rw[h,k]
end Go.Pv
namespace Go.Pv.Ec
open Go Go.Pv Go.Proofs Go.Proofs.YtmhdghdbojdgfaaGreat
theorem eQ2 {x y:Int}(h:y<x):F2 x y=y:=by unfold F2;rw[if_pos h]
theorem eQ1 {x y:Int}(h:x<=y):F2 x y=x:=by unfold F2;rw[if_neg (by omega)]
def ad4 (t:Int):Bool:=decide (t>=0)&&decide (t<=1099511627776)
theorem aJ4 {t:Int}:ad4 t=true↔0<=t/\t<=1099511627776:=by simp[ad4]
def tfB (f:Z6):Bool:=ad4 f.H0&&ad4 f.E9&&decide (f.E9<=f.H0)&&(f.Seen||((f.H0==0)&&(f.E9==0)))
theorem dR8 (t:Int):(aU9 t).m=some (ad4 t):=rfl
theorem cV1 (f:Z6):(aG3 f).m=some (tfB f):=by
 simp only[aG3,C.of,M.run,dR8,aD6]
 cases h:ad4 f.H0<;>simp[tfB,h]
theorem ev5 (f:Z6):∃n,(bf4 f).m=some n:=by
 simp only[bf4,C.of,M.run,cV1,aD6]
 cases(!tfB f|| !f.Seen)<;>exact⟨_,rfl⟩
theorem eG6 (f:Z6)(t:Int):∃g b e,(bj2 f t).m=some (g,b,e)/\(e=0->tfB f=true/\tfB g=true/\(g.H0=t\/g=f)/\ad4 t=true):=by
 obtain⟨n,hn⟩:=ev5 f
 simp only[bj2,C.of,M.run,cV1,dR8,hn,aD6]
 cases h1:tfB f
 ·exact⟨_,_,_,rfl,fun h=>by cases h⟩
 cases h2:ad4 t
 ·exact⟨_,_,_,rfl,fun h=>by cases h⟩
 have ht:=aJ4.1 h2
 simp only[tfB,aI9,fi3,aJ4]at h1
 simp only[aX3,fh8]
 cases h3:(f.Seen&&decide (t<f.H0))
 ·simp only[fh8]
  cases h4:f.Seen
  ·simp only[fh8,aD6]
   refine⟨_,_,_,rfl,fun _=>⟨by simp[tfB],?_,.inl rfl,trivial⟩⟩
   simp[tfB,ad4,ht.1,ht.2]
  ·rw[h4,Bool.true_and]at h3
   have h3:=of_decide_eq_false h3
   simp only[fi0,aD6]
   cases decide (j7 (t-f.H0)<n)
   ·refine⟨_,_,_,rfl,fun _=>⟨by simp[tfB],?_,.inl rfl,trivial⟩⟩
    have:j7 (t-f.H0)=t-f.H0:=j4 (by omega) (by omega)
    simp only[tfB,this,aI9,fi3,aJ4,Bool.true_or,and_true]
    omega
   ·exact⟨_,_,_,rfl,fun _=>⟨by simp[tfB],by simp[tfB,aJ4,h1],.inr rfl,trivial⟩⟩
 ·exact⟨_,_,_,rfl,fun h=>by cases h⟩
def grB (g:ah3):Bool:=(((decide (g.Over>=0)&&decide (g.Over<=5))&&(decide (g.Calm>=0)&&decide (g.Calm<=1000)))&&((g.Over==0)||(g.Calm==0)))&&(g.Off||decide (g.Over<5))
theorem dW1 (x a b:Int):(M8 x a b).m=some (decide (x>=a)&&decide (x<=b)):=rfl
theorem cl7 (g:ah3):(aX8 g).m=some (grB g):=by
 simp only[aX8,C.of,M.run,dW1,aD6]
 cases h:(decide (g.Over>=0)&&decide (g.Over<=5))<;>simp[grB,h]
theorem dd0 (t:Int):(bu1 t).m=some (decide (t>= -20000)&&decide (t<=20000)):=rfl
theorem eB9 (g:ah3)(p a:Int):∃h e,(aU5 g p a).m=some (h,e)/\(e=0->grB h=true)/\
  (grB g=true-> -20000<=p->p<=20000-> -20000<=a->a<=20000->e=0/\h=if a>p then⟨F2 5 (g.Over+1),0,g.Off||(F2 5 (g.Over+1)==5)⟩else⟨0,F2 1000 (g.Calm+1),g.Off⟩):=by
 simp only[aU5,C.of,M.run,cl7,dd0,aD6]
 cases h1:grB g
 ·exact⟨_,_,rfl,fun h=>(by cases h),fun h=>(by cases h)⟩
 simp only[grB,aI9,fi3,cI5,beq_iff_eq]at h1
 have w1:j7 (g.Over+1)=g.Over+1:=j4 (by omega) (by omega)
 have w2:j7 (g.Calm+1)=g.Calm+1:=j4 (by omega) (by omega)
 simp only[aX3,fh8,w1,w2]
 by_cases hb:(-20000<=p/\p<=20000)/\(-20000<=a/\a<=20000)
 ·have e1:(decide (p>= -20000)&&decide (p<=20000))=true:=by simp[hb.1]
  have e2:(decide (a>= -20000)&&decide (a<=20000))=true:=by simp[hb.2]
  rw[e1,e2]
  simp only[aX3,fh8,aD6]
  by_cases ha:a>p
  ·rw[fi1 ha]
   refine⟨_,_,rfl,fun _=>?_,fun _ _ _ _ _=>⟨rfl,by rw[if_pos ha]⟩⟩
   rcases Int.lt_or_le (g.Over+1) 5 with hm|hm
   ·rw[eQ2 hm];simp only[grB,aI9,fi3,cI5,beq_iff_eq];exact⟨⟨by omega,.inr (by trivial)⟩,.inr hm⟩
   ·rw[eQ1 hm];simp[grB]
  ·rw[fi2 ha]
   refine⟨_,_,rfl,fun _=>?_,fun _ _ _ _ _=>⟨rfl,by rw[if_neg ha]⟩⟩
   have:0<=F2 1000 (g.Calm+1)/\F2 1000 (g.Calm+1)<=1000:=by unfold F2;split<;>omega
   have h2:=h1.2
   simp only[grB,aI9,fi3,cI5,beq_iff_eq]
   refine⟨⟨by omega,.inl (by trivial)⟩,?_⟩
   rcases h2 with h2|h2
   ·exact .inl h2
   ·right;omega
 ·cases e1:(decide (p>= -20000)&&decide (p<=20000))
  ·exact⟨_,_,rfl,fun h=>(by cases h),fun _ h1 h2=>(by simp[h1,h2]at e1)⟩
  ·cases e2:(decide (a>= -20000)&&decide (a<=20000))
   ·exact⟨_,_,rfl,fun h=>(by cases h),fun _ _ _ h1 h2=>(by simp[h1,h2]at e2)⟩
   ·simp only[aI9,fi3]at e1 e2
    exact absurd ⟨⟨e1.1,e1.2⟩,e2.1,e2.2⟩ hb
def quB (n:Int):Bool:=decide (n>=1)&&decide (n<=65535)
def qzB (q:aa8):Bool:=(((((quB q.Question&&ad4 q.as7)&&(q.Open||(q.as7==0)))&&decide (q.U0>=0))&&decide (q.U0<=7))&&(q.Off==(q.U0==7)))&& !(q.Open&&q.Off)
theorem bS7 (n:Int):(aY0 n).m=some (quB n):=rfl
theorem cf6 (n:Int):(bq1 n).m=some (ad4 n):=rfl
theorem eE7 (n:Int):(cx0 n).m=some (decide (n>=0)&&decide (n<=65535)):=rfl
theorem cn7 (q:aa8):(bi5 q).m=some (qzB q):=by
 simp only[bi5,C.of,M.run,bS7,cf6,aD6]
 cases h:quB q.Question<;>simp[qzB,h]
theorem ef8 (l:List Int)(hl:l.length<=1000000)(f:Cl Tryz.prog Int Bool (fun x=>[.t (tI x)]) (fun r=>.t (tB r)))(p:Int->Bool)(h:∀x∈l,f.f x=some (p x)):(o5 l f).m=some (l.any p):=by
 simp only[o5,T8,V8,C.of,M.run,L1.m,Cl.at]
 refine Eq.trans ?_ (bI4 l (by omega) f.f p h)
 kernel_rfl
def ptB (l:List Int):Bool:=(decide ((l.length:Int)>=1)&&decide ((l.length:Int)<=16))&& !(l.any fun p=>!(decide (p>=0)&&decide (p<=65535)))
theorem dy6 (l:List Int):(bJ5 l).m=some (ptB l):=by
 simp only[bJ5,C.of,M.run]
 cases h:(decide ((l.length:Int)>=1)&&decide ((l.length:Int)<=16))
 ·simp[ptB,h]
 ·simp only[aI9,fi3]at h
  rw[ef8 l (by omega) _ (fun p=>!(decide (p>=0)&&decide (p<=65535))) (fun x _=>rfl)]
  simp[ptB,h]
theorem fh9 (a:Nat)(h:a<32768):dE5 .i64 (a:Int) 46080=((a^^^46080:Nat):Int):=by
 unfold dE5
 have e1:(BitVec.ofInt (eU1 .i64) (a:Int)).toNat=a:=by
  show(BitVec.ofInt 64 (a:Int)).toNat=a
  simp;omega
 have e2:(BitVec.ofInt (eU1 .i64) (46080:Int)).toNat=46080:=by rfl
 rw[BitVec.toNat_xor,e1,e2]
 have:a^^^46080<2^16:=Nat.xor_lt_two_pow (by omega) (by omega)
 exact j4 (by omega) (by omega)
theorem fe8 (a:Nat)(h:a<65536):N2 .i64 (a:Int) 1=((a%2:Nat):Int):=by
 unfold N2
 have e1:(BitVec.ofInt (eU1 .i64) (a:Int)).toNat=a:=by
  show(BitVec.ofInt 64 (a:Int)).toNat=a
  simp;omega
 have e2:(BitVec.ofInt (eU1 .i64) (1:Int)).toNat=1:=by rfl
 rw[BitVec.toNat_and,e1,e2,Nat.and_one_is_mod]
 exact j4 (by omega) (by omega)
theorem fh2 (a:Nat):D0 .i64 (a:Int) 1=((a/2:Nat):Int):=by
 unfold D0
 show(a:Int).fdiv 2=_
 rw[Int.fdiv_eq_ediv_of_nonneg _ (by omega)]
 omega
theorem eH2 (a:Nat)(h:a<32768):0<a^^^46080:=by
 have h1:(a^^^46080).testBit 15=true:=by
  rw[Nat.testBit_xor,Nat.testBit_lt_two_pow (by omega)]
  rfl
 rcases Nat.eq_zero_or_pos (a^^^46080)with h0|h0
 ·rw[h0]at h1;simp at h1
 ·exact h0
theorem eE6 (n:Int)(h:quB n=true):∃m,(cw9 n).m=some m/\quB m=true:=by
 simp only[cw9,C.of,M.run,bS7,h,aD6,aX3,fh8]
 simp only[quB,aI9,fi3]at h
 obtain⟨a,rfl⟩:∃a:Nat,n=(a:Int):=⟨n.toNat,by omega⟩
 rw[fe8 a (by omega),fh2]
 cases h1:((((a%2:Nat):Int))==1)
 ·simp only[beq_eq_false_iff_ne]at h1
  exact⟨_,rfl,by simp only[quB,aI9,fi3];omega⟩
 ·rw[fh9 _ (by omega)]
  have h2:a/2^^^46080<2^16:=Nat.xor_lt_two_pow (by omega) (by omega)
  have h3:=eH2 (a/2) (by omega)
  exact⟨_,rfl,by simp only[quB,aI9,fi3];omega⟩
theorem eR4 (q:aa8)(b:Bool)(h:qzB q=true):∃r,(cS6 q b).m=some r/\qzB r=true/\r.as7=0/\r.Open=false/\r.Question=q.Question/\r.U0=(if b then G4 (q.U0-1) 0 else F2 (q.U0+2) 7)/\r.Off=(r.U0==7):=by
 simp only[qzB,aI9,fi3,cI5,beq_iff_eq,ck7]at h
 have w1:j7 (q.U0-1)=q.U0-1:=j4 (by omega) (by omega)
 have w2:j7 (q.U0+2)=q.U0+2:=j4 (by omega) (by omega)
 simp only[cS6,C.of,M.run,w1,w2]
 have h1:=h.1.1.1.1.1.1
 cases b
 ·refine⟨_,rfl,?_,rfl,rfl,rfl,rfl,rfl⟩
  have:0<=F2 (q.U0+2) 7/\F2 (q.U0+2) 7<=7:=by unfold F2;split<;>omega
  simp[qzB,h1,this,ad4]
 ·refine⟨_,rfl,?_,rfl,rfl,rfl,rfl,rfl⟩
  have:0<=G4 (q.U0-1) 0/\G4 (q.U0-1) 0<=7:=by unfold G4;split<;>omega
  simp[qzB,h1,this,ad4]
theorem er3 (q:aa8)(now:Int):∃r n e,(cS4 q now).m=some (r,n,e)/\(e=0->qzB r=true/\r.as7=now/\r.Open=true/\r.U0=q.U0/\r.Off=q.Off)/\(qzB q=true->ad4 now=true->q.Open=false->q.Off=false->e=0):=by
 simp only[cS4,C.of,M.run,cn7,cf6,aD6]
 cases h:qzB q
 ·exact⟨_,_,_,rfl,fun h=>(by cases h),fun h=>(by cases h)⟩
 cases h2:ad4 now
 ·exact⟨_,_,_,rfl,fun h=>(by cases h),fun _ h=>(by cases h)⟩
 simp only[aX3,fh8]
 cases h3:(q.Open||q.Off)
 ·simp only[Bool.or_eq_false_iff]at h3
  have h':=h
  simp only[qzB,aI9,fi3,cI5,beq_iff_eq,ck7]at h
  obtain⟨m,e,hm⟩:=eE6 q.Question h.1.1.1.1.1.1
  refine⟨_,_,_,ci3 e rfl,fun _=>⟨?_,rfl,rfl,rfl,rfl⟩,fun _ _ _ _=>rfl⟩
  have:=h.1.2
  rw[h3.2]at this
  have:q.U0≠7:=by simpa using this.symm
  simp[qzB,hm,h2,h,this]
 ·exact⟨_,_,_,rfl,fun h=>(by cases h),fun _ _ h1 h2=>(by simp[h1,h2]at h3)⟩
def sgB (s:ao0):Bool:=(((decide (s.br3>=0))&&(decide (s.br3<=3)))&&(s.T6==(s.br3==0)))&&ad4 s.aQ2
theorem dn6 (t:Int):(bK1 t).m=some (ad4 t):=rfl
theorem cT8 (s:ao0):(bm6 s).m=some (sgB s):=by
 simp only[bm6,C.of,M.run,dn6,aD6]
 cases h:(((decide (s.br3>=0))&&(decide (s.br3<=3)))&&(s.T6==(s.br3==0)))<;>simp[sgB,h]
def csV (key:Bool)(g:ah3)(q:aa8):Int:=if !key then 1 else if g.Off then 2 else if q.Off then 3 else 0
theorem et1 (key:Bool)(g:ah3)(q:aa8):(bU0 key g q).m=some (csV key g q):=by
 simp only[bU0,C.of,M.run]
 cases key<;>cases hg:g.Off<;>cases hq:q.Off<;>simp[csV,hg,hq]
theorem eF7 (s:ao0)(key:Bool)(g:ah3)(q:aa8)(now:Int):∃r e,(cg3 s key g q now).m=some (r,e)/\(e=0->sgB r=true/\(r.aQ2=now\/r.aQ2=s.aQ2)/\r.T6=(csV key g q==0))/\
  (sgB s=true->grB g=true->qzB q=true->ad4 now=true->s.aQ2<=now->e=0):=by
 simp only[cg3,C.of,M.run,cT8,cl7,cn7,dn6,et1,aD6]
 cases h1:sgB s
 ·exact⟨_,_,rfl,fun h=>(by cases h),fun h=>(by cases h)⟩
 cases h2:grB g
 ·exact⟨_,_,rfl,fun h=>(by cases h),fun _ h=>(by cases h)⟩
 cases h3:qzB q
 ·exact⟨_,_,rfl,fun h=>(by cases h),fun _ _ h=>(by cases h)⟩
 cases h4:ad4 now
 ·exact⟨_,_,rfl,fun h=>(by cases h),fun _ _ _ h=>(by cases h)⟩
 simp only[aX3,fh8,aD6]
 by_cases h5:now<s.aQ2
 ·rw[fi1 h5]
  exact⟨_,_,rfl,fun h=>(by cases h),fun _ _ _ _ h=>absurd h5 (by omega)⟩
 ·rw[fi2 h5]
  simp only[fh8]
  have hc:0<=csV key g q/\csV key g q<=3:=by unfold csV;split<;>(try split)<;>(try split)<;>omega
  simp only[sgB,aI9]at h1
  cases(!((csV key g q==0)==s.T6))
  ·exact⟨_,_,rfl,fun _=>⟨by simp[sgB,hc,h1.2],.inr rfl,rfl⟩,fun _ _ _ _ _=>rfl⟩
  ·exact⟨_,_,rfl,fun _=>⟨by simp[sgB,hc,h4],.inl rfl,rfl⟩,fun _ _ _ _ _=>rfl⟩
abbrev w0:aI0:=⟨60,2⟩
abbrev c0:ch7:=⟨[5000,12000,30000]⟩
theorem cy2:(bq6).m=some w0:=rfl
theorem cl4:(bC6).m=some c0:=rfl
theorem bX2:(aK9 w0).m=some true:=(aK9 w0).le 1 _ (by kernel_rfl)
theorem bE8:(aS4 w0).m=some 58:=(aS4 w0).le 1 _ (by kernel_rfl)
theorem cy3:(bb9 w0).m=some 384:=(bb9 w0).le 1 _ (by kernel_rfl)
theorem da6:(aS5 c0).m=some true:=(aS5 c0).le 100 _ (by kernel_rfl)
theorem dE9:(bK6 c0).m=some (2,1):=(bK6 c0).le 100 _ (by kernel_rfl)
theorem er1 {a b:Int}(ha:0<=a)(hb:0<b)(hm:a<=9223372036854775807):bm5 .i64 a b=some (a/b):=by
 unfold bm5
 rw[if_neg (by omega),cA0 ha]
 have h1:a/b<=a:=Int.ediv_le_self b ha
 have h0:0<=a/b:=Int.ediv_nonneg ha (by omega)
 exact congrArg some (j4 (by omega) (by omega))
theorem bf {a b:Int}(h:¬a=b):(a==b)=false:=by simpa using h
theorem bnt {a b:Int}(h:¬a=b):(a !=b)=true:=by simpa using h
def syB (s:aa3):Bool:=
 if s.Mode=0 then(s.ax9==0)&&((s.H0==0)&&((s.E9==0)&&((s.N7==0)&&(s.av7==0))))
 else if s.Mode=1 then((s.ax9==0)&&ad4 s.H0)&&(if s.av7=0 then(s.E9==0)&&(s.N7==0)else(((s.av7==1)||(s.av7==2))&&decide (s.E9>=1))&&decide (s.E9<=s.H0)&&(s.N7==s.E9))
 else if s.Mode=2 then decide (s.ax9>=0)&&decide (s.ax9<58)&&ad4 s.H0&&decide (s.E9>=1)&&decide (s.E9<=s.H0)&&decide (s.N7>=1)&&decide (s.N7<=s.E9)&&(s.av7==0)
 else false
theorem cg6 (t:Int):(bf3 t).m=some (ad4 t):=rfl
theorem cU9 (s:aa3):(bv1 w0 s).m=some (syB s):=by
 simp only[bv1,C.of,M.run,bX2,bE8,cg6,aD6,aX3,fh8]
 by_cases h0:s.Mode=0
 ·simp[syB,h0]
 by_cases h1:s.Mode=1
 ·simp only[syB,h1]
  by_cases ht:s.ax9=0
  ·cases hl:ad4 s.H0
   ·simp[ht]
   ·by_cases he:s.av7=0
    ·simp[ht,he]
    ·simp[ht,he,bf he]
  ·simp[bf ht,bnt ht]
 by_cases h2:s.Mode=2
 ·simp only[syB,h2]
  cases decide (s.ax9>=0)<;>cases decide (s.ax9<58)<;>cases ad4 s.H0<;>cases decide (s.E9>=1)<;>cases decide (s.E9<=s.H0)<;>cases decide (s.N7>=1)<;>simp
 ·simp[syB,h0,h1,h2,bf h0,bf h1,bf h2]
theorem eG3 (p q:Int):(cx9 p q).m=some (decide ((j7 (4*(G4 (j7 (p-q)) (j7 (q-p)))))<=q)):=rfl
theorem eS7 (n p:Int):(dA8 w0 n p).m=some (decide (p>(j7 (2*n)))):=rfl
theorem dR7 (s:aa3):(bW8 w0 s).m=some (s.ax9==57):=by
 simp only[bW8,C.of,M.run,bE8,aD6];rfl
theorem cC5 (s:aa3):(bk3 w0 s).m=some (if s.ax9=57 then j7 (3*s.N7)else s.N7):=by
 simp only[bk3,C.of,M.run,dR7,aD6]
 by_cases h:s.ax9=57
 ·simp only[h,beq_self_eq_true,fi0,if_true];rfl
 ·simp[h,bf h]
abbrev sy0:aa3:=⟨0,0,0,0,0,0⟩
theorem eS6:syB sy0=true:=rfl
theorem ec3 (s:aa3)(t:Int)(hs:syB s=true)(ht:ad4 t=true)(hl:s.Mode≠0->s.H0<t):∃r,(cy0 w0 s t).m=some r/\syB r=true/\(r.H0=t\/r=sy0):=by
 have ht':=aJ4.1 ht
 simp only[cy0,C.of,M.run,eG3,eS7,dR7,cC5,aD6,L1.m]
 by_cases h1:s.Mode=1
 ·have hlt:=hl (by omega)
  simp only[syB,h1]at hs
  simp[ad4]at hs
  have wp:j7 (t-s.H0)=t-s.H0:=j4 (by omega) (by omega)
  simp only[h1,beq_self_eq_true,fi0,wp]
  by_cases h2:s.av7=2
  ·simp[h2]at hs
   have wn:j7 (2*s.N7)=2*s.N7:=j4 (by omega) (by omega)
   simp only[h2,beq_self_eq_true,fi0,aD6,wn]
   by_cases hg:t-s.H0>2*s.N7
   ·rw[fi1 hg]
    simp only[fi0]
    refine⟨_,ci3 (er1 (by omega) (by decide) (by omega)) rfl,?_,.inl rfl⟩
    have:j7 (2+1)=3:=rfl
    simp only[syB,this]
    simp[ad4,ht']
    omega
   ·rw[fi2 hg]
    simp only[fh8]
    cases decide (j7 (4*G4 (j7 (t-s.H0-s.N7)) (j7 (s.N7-(t-s.H0))))<=s.N7)
    ·refine⟨_,rfl,?_,.inl rfl⟩
     simp[syB,ad4,ht'];omega
    ·refine⟨_,rfl,?_,.inl rfl⟩
     simp[syB,ad4,ht'];omega
  ·simp only[show(s.av7==2)=false by simpa using h2,fh8,aD6]
   cases(s.av7 !=0)
   ·refine⟨_,rfl,?_,.inl rfl⟩
    simp[syB,ad4,ht'];omega
   ·simp only[fi0,aD6]
    cases decide (j7 (4*G4 (j7 (t-s.H0-s.N7)) (j7 (s.N7-(t-s.H0))))<=s.N7)
    ·refine⟨_,rfl,?_,.inl rfl⟩
     simp[syB,ad4,ht'];omega
    ·refine⟨_,rfl,?_,.inl rfl⟩
     simp[syB,ad4,ht'];omega
 ·simp only[show(s.Mode==1)=false by simpa using h1,fh8]
  by_cases h2:s.Mode=2
  ·have hlt:=hl (by omega)
   simp only[syB,h2]at hs
   simp[ad4]at hs
   have wp:j7 (t-s.H0)=t-s.H0:=j4 (by omega) (by omega)
   simp only[h2,beq_self_eq_true,fi0,wp]
   by_cases h3:s.ax9=57
   ·have w3:j7 (3*s.N7)=3*s.N7:=j4 (by omega) (by omega)
    simp only[h3,if_true,w3,beq_self_eq_true,fi0]
    by_cases hf:j7 (4*G4 (j7 (t-s.H0-3*s.N7)) (j7 (3*s.N7-(t-s.H0))))<=3*s.N7
    ·rw[fi1 hf]
     simp only[aX3,fh8]
     refine⟨_,ci3 (er1 (by omega) (by decide) (by omega)) rfl,?_,.inl rfl⟩
     have:j7 (2+1)=3:=rfl
     have e1:j7 (t-s.H0-3*s.N7)=t-s.H0-3*s.N7:=j4 (by omega) (by omega)
     have e2:j7 (3*s.N7-(t-s.H0))=3*s.N7-(t-s.H0):=j4 (by omega) (by omega)
     rw[e1,e2]at hf
     have hm:3*s.N7-(t-s.H0)<=G4 (t-s.H0-3*s.N7) (3*s.N7-(t-s.H0)):=by unfold G4;split<;>omega
     have hm2:G4 (t-s.H0-3*s.N7) (3*s.N7-(t-s.H0))<=3298534883328:=by unfold G4;split<;>omega
     have hm3:0<=G4 (t-s.H0-3*s.N7) (3*s.N7-(t-s.H0)):=by unfold G4;split<;>omega
     rw[j4 (by omega) (by omega)]at hf
     simp only[syB,this]
     simp[ad4,ht']
     omega
    ·rw[fi2 hf]
     exact⟨_,rfl,rfl,.inr rfl⟩
   ·simp only[if_neg h3,show(s.ax9==57)=false by simpa using h3]
    cases decide (j7 (4*G4 (j7 (t-s.H0-s.N7)) (j7 (s.N7-(t-s.H0))))<=s.N7)
    ·exact⟨_,rfl,rfl,.inr rfl⟩
    ·refine⟨_,rfl,?_,.inl rfl⟩
     have:j7 (s.ax9+1)=s.ax9+1:=j4 (by omega) (by omega)
     simp[syB,ad4,ht',this];omega
  ·simp only[show(s.Mode==2)=false by simpa using h2,fh8]
   refine⟨_,rfl,?_,.inl rfl⟩
   simp[syB,ad4,ht']
theorem eG4 (s:aa3)(t:Int):∃r e,(cx8 w0 s t).m=some (r,e)/\(e=0->syB r=true/\(r.H0=t\/r=sy0)):=by
 simp only[cx8,C.of,M.run,cU9,cg6,aD6]
 cases h1:syB s
 ·exact⟨_,_,rfl,fun h=>(by cases h)⟩
 cases h2:ad4 t
 ·exact⟨_,_,rfl,fun h=>(by cases h)⟩
 simp only[aX3,fh8]
 cases h3:((s.Mode !=0)&&decide (t<=s.H0))
 ·obtain⟨r,hr,h4,h5⟩:=ec3 s t h1 h2 (fun hm=>by
   rcases Int.lt_or_le s.H0 t with h|h
   ·exact h
   ·simp[hm,h]at h3)
  exact⟨_,_,ci3 hr rfl,fun _=>⟨h4,h5⟩⟩
 ·exact⟨_,_,rfl,fun h=>(by cases h)⟩
theorem ev0 (s:aa3)(t:Int):∃r e,(cg7 w0 s t).m=some (r,e)/\(e=0->syB r=true/\(r=s\/r=sy0)):=by
 simp only[cg7,C.of,M.run,cU9,cg6,cC5,aD6]
 cases h1:syB s
 ·exact⟨_,_,rfl,fun h=>(by cases h)⟩
 cases h2:ad4 t
 ·exact⟨_,_,rfl,fun h=>(by cases h)⟩
 simp only[aX3,fh8]
 cases h3:((s.Mode !=0)&&decide (t<s.H0))
 ·obtain⟨m,hm⟩:∃m,(bif s.Mode==2 then some (j7 (4*if s.ax9=57 then j7 (3*s.N7)else s.N7))else bif decide (s.av7>0)then some (j7 (4*s.N7))else some 1000000)=some m:=by
   cases s.Mode==2<;>cases decide (s.av7>0)<;>exact⟨_,rfl⟩
  simp only[fh8,hm,aD6]
  cases((s.Mode !=0)&&decide (j7 (t-s.H0)>m))
  ·exact⟨_,_,rfl,fun _=>⟨h1,.inl rfl⟩⟩
  ·exact⟨_,_,rfl,fun _=>⟨rfl,.inr rfl⟩⟩
 ·exact⟨_,_,rfl,fun h=>(by cases h)⟩
def phB (p:ad0):Bool:=!((((decide (p.E0<0))||(decide (p.E0>16)))||(decide (p.bF2<0)))||(decide (p.bF2>1)))&&(!((!p.Seen)&&((p.E0 !=0)||p.aX2))&&(p.aX2||(p.bF2==0)))
theorem ea0 (p:ad0):(bS5 p).m=some (phB p):=by
 simp only[bS5,C.of,M.run]
 cases h:((((decide (p.E0<0))||(decide (p.E0>16)))||(decide (p.bF2<0)))||(decide (p.bF2>1)))<;>cases h2:((!p.Seen)&&((p.E0 !=0)||p.aX2))<;>simp[phB,h,h2]
theorem cS0 (p:ad0):(bm3 c0 p).m=some (phB p):=by
 simp only[bm3,C.of,M.run,da6,ea0,aD6,fi0]
theorem eR0 (p:ad0):∃r e,(cw5 c0 p).m=some (r,e)/\(e=0->phB r=true):=by
 simp only[cw5,C.of,M.run,cS0,aD6]
 cases h:phB p
 ·exact⟨_,_,rfl,fun h=>(by cases h)⟩
 cases hs:p.Seen
 ·exact⟨_,_,rfl,fun _=>h⟩
 ·refine⟨_,_,rfl,fun _=>?_⟩
  simp[phB,hs]at h|-
  rw[j4 (by omega) (by omega)]
  have:0<=F2 16 (p.E0+1)/\F2 16 (p.E0+1)<=16:=by unfold F2;split<;>omega
  exact⟨⟨⟨by omega,by omega⟩,by omega⟩,h.2⟩
theorem eE1 (p:ad0):∃r e,(bJ0 c0 p).m=some (r,e)/\(e=0->phB r=true):=by
 simp only[bJ0,C.of,M.run,cS0,dE9,aD6]
 cases h:phB p
 ·exact⟨_,_,rfl,fun h=>(by cases h)⟩
 cases hs:p.Seen
 ·exact⟨_,_,rfl,fun _=>rfl⟩
 ·simp only[aX3,fh8]
  have key:∀half:Int,-1<=half->half<=1->∃r e,(bif (decide (half>=0))&&((!p.aX2)||(p.bF2==half))then some ((⟨true,j7 (1-half),0,true⟩:ad0),(0:Int))else some ((⟨false,0,0,true⟩:ad0),0))=some (r,e)/\(e=0->phB r=true):=by
   intro half h1 h2
   cases hc:((decide (half>=0))&&((!p.aX2)||(p.bF2==half)))
   ·exact⟨_,_,rfl,fun _=>rfl⟩
   ·simp only[aI9,fi3]at hc
    refine⟨_,_,rfl,fun _=>?_⟩
    have:j7 (1-half)=1-half:=j4 (by omega) (by omega)
    simp[phB,this];omega
  cases p.E0==2
  ·cases p.E0==1
   ·exact key (-1) (by omega) (by omega)
   ·exact key 1 (by omega) (by omega)
  ·exact key 0 (by omega) (by omega)
theorem eQ9:phB ⟨false,0,0,false⟩=true:=rfl
theorem bt7 {S B:Type}{mb:S->Option (S⊕B)}(I:S->Prop)(μ:S->Nat)(J:B->Prop)(h:∀s,I s->(∃s',mb s=some (.inl s')/\I s'/\μ s'<μ s)\/(∃b,mb s=some (.inr b)/\J b)):
  ∀(n:Nat) (s:S),μ s<=n->I s->∃b,J7 mb s=some b/\J b:=by
 intro n
 induction n with
 |zero=>
  intro s hn hI
  rcases h s hI with⟨s',_,_,h3⟩|⟨b,h1,h2⟩
  ·omega
  ·exact⟨b,D7 h1,h2⟩
 |succ n ih=>
  intro s hn hI
  rcases h s hI with⟨s',h1,h2,h3⟩|⟨b,h1,h2⟩
  ·rw[G6 h1];exact ih s' (by omega) h2
  ·exact⟨b,D7 h1,h2⟩
theorem dl4 (p b:Int)(hp:0<=p)(hb:0<b):(ab7 p b).m=some (p%b):=by
 simp only[ab7,C.of,M.run,L1.m]
 rw[show((b==0)||(b==(-1)))=false by simp;omega]
 simp only[fh8]
 have e:cf7 p b=some (p%b):=by unfold cf7;rw[if_neg (by omega),Int.tmod_eq_emod_of_nonneg hp]
 rw[e]
 simp only[aD6]
 have h1:0<=p%b:=Int.emod_nonneg p (by omega)
 rw[show((p%b !=0)&&(!((decide (p%b<0))==(decide (b<0)))))=false by
  rw[fi2 (by omega),fi2 (by omega)];simp]
 rfl
theorem ep2 (p:Int)(h0:0<=p)(h1:p<=1099511627776):∃q k,(ch0 w0 p).m=some (q,k)/\p<q/\q<=p+23040:=by
 have hm:0<=p%23040/\p%23040<23040:=⟨Int.emod_nonneg p (by omega),Int.emod_lt_of_pos p (by omega)⟩
 simp only[ch0,C.of,M.run,L1.m,dl4 p 23040 h0 (by omega),cy3,bE8,aD6]
 rw[j4 (n:=p-p%23040) (by omega) (by omega),show p-(p-p%23040)=p%23040 by omega,j4 (n:=p%23040) (by omega) (by omega),er1 hm.1 (by omega) (by omega)]
 simp only[aD6]
 rw[j4 (n:=p%23040/384+1) (by omega) (by omega)]
 by_cases hk:p%23040/384+1>=58
 ·rw[fi1 hk]
  refine⟨_,_,rfl,?_,?_⟩
  ·rw[j4 (by omega) (by omega)];omega
  ·rw[j4 (by omega) (by omega)];omega
 ·rw[fi2 hk]
  have e1:j7 ((p%23040/384+1)*384)=(p%23040/384+1)*384:=j4 (by omega) (by omega)
  refine⟨_,_,rfl,?_,?_⟩
  ·rw[e1,j4 (by omega) (by omega)];omega
  ·rw[e1,j4 (by omega) (by omega)];omega
theorem dZ3 (p:Int)(h0:0<=p)(h1:p<=1099511627776):∃q,(aZ8 p w0).m=some q/\p<q/\q<=p+46080:=by
 obtain⟨q,k,e,h2,h3⟩:=ep2 p h0 h1
 simp only[aZ8,C.of,M.run]
 exact⟨q,ci3 e rfl,h2,by omega⟩
theorem dV1 (p:Int)(h0:0<=p)(h1:p<=1099511627776):∃q,(aM7 p c0).m=some q/\p<q/\q<=p+51080:=by
 have hm:0<=p%46080/\p%46080<46080:=⟨Int.emod_nonneg p (by omega),Int.emod_lt_of_pos p (by omega)⟩
 simp only[aM7,C.of,M.run,dl4 p 46080 h0 (by omega),aD6]
 have e0:j7 (p-p%46080)=p-p%46080:=j4 (by omega) (by omega)
 have key:∃b,ad3 c0.bw5 (fun i x t=>(aD5 p (p%46080) i x t).run) ()=some b/\((b= .inl ()/\p-p%46080+46080>p)\/∃q,b= .inr q/\p<q/\q<=p+46080):=by
  rw[K4 _ (by decide)]
  have st:∀i x,(aD5 p (p%46080) i x ()).run=bif decide (j7 (p-p%46080+x)>p)then some (.ret (j7 (p-p%46080+x)))else some (.next ()):=fun i x=>by
   simp only[aD5,M.run,e0]
  simp only[L7,st]
  have f:∀x:Int,0<=x->x<=46080->j7 (p-p%46080+x)=p-p%46080+x:=fun x _ _=>j4 (by omega) (by omega)
  rw[f 5000 (by omega) (by omega),f 12000 (by omega) (by omega),f 30000 (by omega) (by omega)]
  by_cases g1:p-p%46080+5000>p
  ·rw[fi1 g1];exact⟨_,rfl,.inr ⟨_,rfl,g1,by omega⟩⟩
  rw[fi2 g1]
  by_cases g2:p-p%46080+12000>p
  ·rw[fi1 g2];exact⟨_,rfl,.inr ⟨_,rfl,g2,by omega⟩⟩
  rw[fi2 g2]
  by_cases g3:p-p%46080+30000>p
  ·rw[fi1 g3];exact⟨_,rfl,.inr ⟨_,rfl,g3,by omega⟩⟩
  rw[fi2 g3]
  exact⟨_,rfl,.inl ⟨rfl,by omega⟩⟩
 obtain⟨b,hb,hc⟩:=key
 rcases hc with⟨rfl,_⟩|⟨q,rfl,h2,h3⟩
 ·refine⟨p-p%46080+46080+5000,ci3 hb ?_,by omega,by omega⟩
  show(ai2 (C9 c0.bw5 0) fun t=>some (j7 (j7 (j7 (p-p%46080)+46080)+t)))=_
  rw[e0,show C9 c0.bw5 0=some 5000 from rfl]
  simp only[aD6]
  rw[j4 (n:=p-p%46080+46080) (by omega) (by omega),j4 (by omega) (by omega)]
 ·exact⟨q,ci3 hb rfl,h2,by omega⟩
structure Edg (a b:Int)(l:List Int):Prop where
 len:l.length<=1000
 lo:∀x∈l,a<x
 hi:∀x∈l,x<=b
 asc:l.Pairwise (· <·)
theorem eE4 (p:Int):(bv3 p).m=some (ad4 p):=rfl
theorem cz4 (a b:Int)(f:Cl Tryz.prog Int Int (fun x=>[.t (tI x)]) (fun r=>.t (tI r)))(hf:∀p,0<=p->p<=1099511627776->∃q,f.f p=some q/\p<q/\q<=p+100000):
  ∃l e,(bk4 a b f).m=some (l,e)/\Edg a b l:=by
 have enil:Edg a b []:=⟨by simp,by simp,by simp,by simp⟩
 simp only[bk4,C.of,M.run,eE4,aD6,Cl.at]
 cases ha:ad4 a
 ·exact⟨_,_,rfl,enil⟩
 cases hb:ad4 b
 ·exact⟨_,_,rfl,enil⟩
 simp only[aX3,fh8,aD6,Bool.false_or]
 by_cases hab:a>b
 ·rw[fi1 hab];exact⟨_,_,rfl,enil⟩
 rw[fi2 hab]
 have ha:=aJ4.1 ha
 have hb:=aJ4.1 hb
 obtain⟨q,hq,h1,h2⟩:=hf a ha.1 ha.2
 simp only[fh8,hq,aD6]
 obtain⟨r,e,hr⟩:=bt7 (mb:=fun s=>(bj4 b f s).run)
  (fun s=>s.1.length<=1000/\(∀x∈s.1,a<x)/\(∀x∈s.1,x<=b)/\s.1.Pairwise (· <·)/\(∀x∈s.1,x<s.2)/\a<s.2) (fun s=>(b+1-s.2).toNat)
  (fun r=>match r with| .inl s=>Edg a b s.1| .inr t=>Edg a b t.1) (fun s ⟨i1,i2,i3,i4,i5,i6⟩=>by
   obtain⟨l,p⟩:=s
   simp only at i1 i2 i3 i4 i5 i6
   simp only[bj4,M.run,U1.m,Cl.at]
   by_cases hp:p<=b
   ·rw[fi1 hp]
    simp only[fi0]
    by_cases hl:(l.length:Int)=1000
    ·simp only[hl,beq_self_eq_true,fi0]
     exact .inr ⟨_,rfl,enil⟩
    ·simp only[bf hl,fh8]
     obtain⟨q,hq,h1,h2⟩:=hf p (by omega) (by omega)
     rw[H5 _ _ (by simp;omega),hq]
     simp only[aD6]
     refine .inl ⟨_,rfl,⟨?_,?_,?_,?_,?_,by simp only;omega⟩,?_⟩
     ·simp;omega
     ·intro x hx;rcases do5.1 hx with hx|hx
      ·exact i2 x hx
      ·simp at hx;omega
     ·intro x hx;rcases do5.1 hx with hx|hx
      ·exact i3 x hx
      ·simp at hx;omega
     ·refine List.pairwise_append.2 ⟨i4,by simp,fun x hx y hy=>?_⟩
      simp at hy;subst hy;exact i5 x hx
     ·intro x hx;rcases do5.1 hx with hx|hx
      ·have:=i5 x hx;simp only;omega
      ·simp at hx;simp only;omega
     ·simp only;omega
   ·rw[fi2 hp]
    exact .inr ⟨_,rfl,⟨i1,i2,i3,i4⟩⟩) _ ([],q) (cw4 _) ⟨by simp,by simp,by simp,by simp,by simp,by simp only;omega⟩
 rw[e]
 cases r with
 |inl s=>exact⟨_,_,rfl,hr⟩
 |inr t=>exact⟨_,_,rfl,hr⟩
theorem dq3 (a b:Int):∃l e,(bA3 w0 a b).m=some (l,e)/\Edg a b l:=by
 obtain⟨l,e,h1,h2⟩:=cz4 a b (.of (fun z_=>aZ8 z_ w0) _ [cd6 w0]) (fun p h0 h1=>by
  obtain⟨q,e,h2,h3⟩:=dZ3 p h0 h1
  exact⟨q,e,h2,by omega⟩)
 simp only[bA3,C.of,M.run,bX2,aD6,aX3,fh8]
 exact⟨l,e,ci3 h1 rfl,h2⟩
theorem dj2 (a b:Int):∃l e,(bj3 c0 a b).m=some (l,e)/\Edg a b l:=by
 obtain⟨l,e,h1,h2⟩:=cz4 a b (.of (fun z_=>aM7 z_ c0) _ [cN9 c0]) (fun p h0 h1=>by
  obtain⟨q,e,h2,h3⟩:=dV1 p h0 h1
  exact⟨q,e,h2,by omega⟩)
 simp only[bj3,C.of,M.run,da6,aD6,aX3,fh8]
 exact⟨l,e,ci3 h1 rfl,h2⟩
theorem eF4 (v:Int)(h0:0<=v)(h1:v<=262144):(cf1 v).m=some (v*60000000/1509949440,0):=by
 simp only[cf1,C.of,M.run]
 rw[show(decide (v<0)||decide (v>524288))=false by simp;omega,j4 (n:=v*60000000) (by omega) (by omega),cA0 (by omega),j4 (by omega) (by omega)]
 rfl
end Go.Pv.Ec

/- This file joins: Plain Lean: what sort.Search finds, whatever the predicate; axes and their segments. Plain Lean: interpolation between nodes, and in maps. Plain Lean: the value of a map. Plain Lean: curves. Plain Lean: the tables of the torque, and the torque. Plain Lean: what air and torque answer for valid tables. The events' functions, as they compute. Plain Lean. Plain Lean: the states of the control. Plain Lean: what pedal, idle, knock, mixture, fuel and spark answer for valid states. The arbiter's functions, as they compute. Plain Lean. Plain Lean: what a step of all control functions answers. Plain Lean: the reference's quotient rounded down, which divides bit by bit. Plain Lean: the reference's curves and maps give the program's values. Plain Lean: values of maps rise along rising rows; a bisection of the reference finds the least argument. Plain Lean: the reference's air and torque give the program's values. Plain Lean: the reference's interval is the program's span. Plain Lean: the reference's pedal, idle, knock, mixture, fuel and spark give the program's values. Plain Lean: the reference's fuel and spark give the program's values. Plain Lean: the laws of a step of all control functions. -/
import Derived.Test.YtalanclpiojanaaGreatControlStepsI
import Derived.KernelRfl
set_option linter.unusedSimpArgs false
set_option linter.unusedVariables false
set_option linter.unusedSimpArgs false
namespace Go.Pv
open Go
theorem q264 (n:Nat) (hn:n ≤ 2305843009213693951) (f:Int → Option Bool) (p:Nat → Bool) (hf:∀ i,i < n → f (i:Int) = some (p i)) :
  ∃ k:Nat,k ≤ n ∧ q66 (n:Int) f = some (k:Int) ∧ (0 < k → p (k - 1) = false) ∧ (k < n → p k = true):=by
 have key:∀ (m i j:Nat),j - i ≤ m → i ≤ j → j ≤ n → (0 < i → p (i - 1) = false) → (j < n → p j = true) →
   ∃ k:Nat,k ≤ n ∧ loopM (q104 f) ((i:Int),(j:Int)) = some (.inl ((k:Int),(k:Int))) ∧ (0 < k → p (k - 1) = false) ∧ (k < n → p k = true):=by
  intro m
  induction m with
  | zero=>
   intro i j hm hij hjn h1 h2
   have:i = j:=by omega
   subst this
   refine ⟨i,hjn,loopM_out ?_,h1,h2⟩
   unfold q104
   rw [show decide (((i:Int),(i:Int)).1 < ((i:Int),(i:Int)).2) = false from decide_eq_false (by simp)]
   rfl
  | succ m ih=>
   intro i j hm hij hjn h1 h2
   rcases Nat.lt_or_ge i j with hlt | hge
   ·have hh:w64 (bitShr .u64 (IntKind.u64.wrap (w64 ((i:Int) + (j:Int)))) 1) = (((i + j) / 2:Nat):Int):=by
     rw [half_eq (by omega) (by omega)]; omega
    have hi:(i + j) / 2 < n:=by omega
    have hb:q104 f ((i:Int),(j:Int)) = some (bif p ((i + j) / 2) then .inl ((i:Int),(((i + j) / 2:Nat):Int)) else .inl ((((i + j) / 2 + 1:Nat):Int),(j:Int))):=by
     unfold q104
     rw [show decide (((i:Int),(j:Int)).1 < ((i:Int),(j:Int)).2) = true from decide_eq_true (by show (i:Int) < (j:Int); omega)]
     simp only [cond_true,hh,hf _ hi,Option.bind_some]
     cases p ((i + j) / 2)
     ·simp only [Bool.not_false,cond_true,cond_false]
      rw [w64_of (by omega) (by omega)]; rfl
     ·rfl
    cases hp:p ((i + j) / 2)
    ·rw [hp] at hb
     rw [loopM_next hb]
     exact ih ((i + j) / 2 + 1) j (by omega) (by omega) hjn (fun _=>by simpa using hp) h2
    ·rw [hp] at hb
     rw [loopM_next hb]
     exact ih i ((i + j) / 2) (by omega) (by omega) (by omega) h1 (fun _=>hp)
   ·have:i = j:=by omega
    subst this
    exact ih i i (by omega) (Nat.le_refl _) hjn h1 h2
 obtain ⟨k,a,b,c,d⟩:=key n 0 n (by omega) (Nat.zero_le _) (Nat.le_refl _) (fun h=>absurd h (by omega)) (fun h=>absurd h (by omega))
 refine ⟨k,a,?_,c,d⟩
 unfold q66
 rw [show ((0:Nat):Int) = 0 from rfl] at b
 rw [b]
 rfl
end Go.Pv
set_option linter.unusedSimpArgs false
namespace Go.Pv
open Go
theorem minI_eq (a b:Int):minI a b = min a b:=by unfold minI; split <;> omega
theorem maxI_eq (a b:Int):maxI a b = max a b:=by unfold maxI; split <;> omega
def itp (x0 x1 y0 y1 x:Int):Int:=y0 + ((x - x0) * (y1 - y0)) / (x1 - x0)
theorem q312 {x0 x1 y0 y1 x lo hi:Int} (h0:x0 ≤ x) (h1:x ≤ x1) (h:x0 < x1) (a0:lo ≤ y0) (a1:y0 ≤ hi) (b0:lo ≤ y1) (b1:y1 ≤ hi):lo ≤ itp x0 x1 y0 y1 x ∧ itp x0 x1 y0 y1 x ≤ hi:=by
 unfold itp
 have hd:0 < x1 - x0:=by omega
 have e:0 ≤ x - x0:=by omega
 have e2:x - x0 ≤ x1 - x0:=by omega
 constructor
 ·have:lo - y0 ≤ ((x - x0) * (y1 - y0)) / (x1 - x0):=by
   rw [Int.le_ediv_iff_mul_le hd]
   have m1:(x - x0) * (lo - y0) ≤ (x - x0) * (y1 - y0):=Int.mul_le_mul_of_nonneg_left (by omega) e
   have m2:(x1 - x0) * (lo - y0) ≤ (x - x0) * (lo - y0):=Int.mul_le_mul_of_nonpos_right e2 (by omega)
   rw [Int.mul_comm (lo - y0)]
   omega
  omega
 ·have:((x - x0) * (y1 - y0)) / (x1 - x0) ≤ hi - y0:=by
   have m1:(x - x0) * (y1 - y0) ≤ (x - x0) * (hi - y0):=Int.mul_le_mul_of_nonneg_left (by omega) e
   have m2:(x - x0) * (hi - y0) ≤ (x1 - x0) * (hi - y0):=Int.mul_le_mul_of_nonneg_right e2 (by omega)
   have:=Int.ediv_le_ediv hd (Int.le_trans m1 m2)
   rw [Int.mul_ediv_cancel_left _ (by omega)] at this
   exact this
  omega
theorem q692 (x0 x1 y0 y1:Int):itp x0 x1 y0 y1 x0 = y0:=by
 unfold itp; rw [Int.sub_self,Int.zero_mul,Int.zero_ediv,Int.add_zero]
theorem q641 {x0 x1 y0 y1:Int} (h:x0 < x1):itp x0 x1 y0 y1 x1 = y1:=by
 unfold itp; rw [Int.mul_ediv_cancel_left _ (by omega)]; omega
theorem prod31 {a b:Int} (a0:0 ≤ a) (a1:a ≤ 2147483648) (b0:-2147483648 ≤ b) (b1:b ≤ 2147483648):-4611686018427387904 ≤ a * b ∧ a * b ≤ 4611686018427387904:=by
 constructor
 ·have m1:a * (-2147483648) ≤ a * b:=Int.mul_le_mul_of_nonneg_left b0 a0
  omega
 ·have m1:a * b ≤ a * 2147483648:=Int.mul_le_mul_of_nonneg_left b1 a0
  omega
theorem q720 {x0 x1 y0 y1 x:Int} (h0:x0 ≤ x) (h1:x ≤ x1) (h:x0 < x1) (hx0:-1073741824 ≤ x0) (hx1:x1 ≤ 1073741824) (a0:-1073741824 ≤ y0) (a1:y0 ≤ 1073741824) (b0:-1073741824 ≤ y1) (b1:y1 ≤ 1073741824) :
  q229 x0 x1 y0 y1 x = some (itp x0 x1 y0 y1 x):=by
 have hb:=q312 (lo:=-1073741824) (hi:=1073741824) h0 h1 h a0 a1 b0 b1
 have hp:=prod31 (a:=x - x0) (b:=y1 - y0) (by omega) (by omega) (by omega) (by omega)
 unfold q229
 rw [w64_of (n:=x - x0) (by omega) (by omega),w64_of (n:=y1 - y0) (by omega) (by omega),w64_of (n:=x1 - x0) (by omega) (by omega),w64_of (n:=(x - x0) * (y1 - y0)) (by omega) (by omega),
  q614 _ _ (by omega) (by omega) (by omega) (by omega),Option.bind_some]
 unfold itp at hb ⊢
 rw [w64_of (by omega) (by omega)]
theorem q622 {l:List Int} (h:Axis l) (x:Int):∃ i:Nat,SegAt l (lim l x) i ∧ q158 l x = some ((i:Int),lim l x):=by
 have h2:=h.two
 have h3:=h.most
 have hb:=q809 h x
 rw [q541 l (by omega),q432 l (by omega)] at hb
 obtain ⟨k,k1,k2,k3,k4⟩:=q264 l.length (by omega) (fun x0=>q171 x0 l (lim l x)) (fun i=>decide (l.getD i 0 > lim l x)) (fun i hi=>by
  unfold q171
  rw [getI_get l i hi,List.getD_eq_getElem?_getD,List.getElem?_eq_getElem hi]; rfl)
 have gd:∀ i (hi:i < l.length),l.getD i 0 = l[i]:=fun i hi=>by rw [List.getD_eq_getElem?_getD,List.getElem?_eq_getElem hi]; rfl
 have hk0:0 < k:=by
  rcases Nat.eq_zero_or_pos k with h0 | h0
  ·have:=k4 (by omega)
   rw [decide_eq_true_eq,gd k (by omega)] at this
   subst h0
   omega
  ·exact h0
 have hlow:=k3 hk0
 rw [decide_eq_false_iff_not,gd (k - 1) (by omega)] at hlow
 have hseg:q158 l x = some (((min (k - 1) (l.length - 2):Nat):Int),lim l x):=by
  unfold q158
  have e1:getI l 0 = some (l.headD 0):=by
   have:=getI_get l 0 (by omega)
   rw [q541 l (by omega)]; exact this
  have e2:getI l (w64 ((l.length:Int) - 1)) = some (l.getLastD 0):=by
   rw [w64_of (by omega) (by omega),show (l.length:Int) - 1 = ((l.length - 1:Nat):Int) by omega,getI_get l _ (by omega),q432 l (by omega)]
  have e3:minI (maxI x (l.headD 0)) (l.getLastD 0) = lim l x:=by rw [minI_eq,maxI_eq]; rfl
  rw [e1,e2,Option.bind_some,Option.bind_some,q86,Option.bind_some,e3,k2,Option.bind_some,w64_of (by omega) (by omega),w64_of (by omega) (by omega),minI_eq]
  congr 2
  omega
 rcases Nat.lt_or_ge k l.length with hk | hk
 ·have hhi:=k4 hk
  rw [decide_eq_true_eq,gd k hk] at hhi
  have e:min (k - 1) (l.length - 2) = k - 1:=by omega
  rw [e] at hseg
  refine ⟨k - 1,⟨by omega,by omega,?_,.inr ?_⟩,hseg⟩
  ·simp only [Nat.sub_add_cancel (show 1 ≤ k from hk0)]; omega
  ·simp only [Nat.sub_add_cancel (show 1 ≤ k from hk0)]; omega
 ·have e:min (k - 1) (l.length - 2) = l.length - 2:=by omega
  rw [e] at hseg
  have hl:k - 1 = l.length - 1:=by omega
  have hlow':¬ l[l.length - 1] > lim l x:=by simpa only [hl] using hlow
  have hs:l.length - 2 + 1 = l.length - 1:=by omega
  refine ⟨l.length - 2,⟨by omega,?_,?_,.inl (by omega)⟩,hseg⟩
  ·have:=h.le (l.length - 1) (l.length - 2) (by omega) (by omega)
   omega
  ·simp only [hs]; omega
end Go.Pv
set_option linter.unusedSimpArgs false
namespace Go.Pv
open Go
def along (m:SMap) (i:Nat) (v:Int) (j:Nat):Int:=itp (nd m.X i) (nd m.X (i + 1)) (zz m i j) (zz m (i + 1) j) v
def atV (m:SMap) (i j:Nat) (v w:Int):Int:=itp (nd m.Y j) (nd m.Y (j + 1)) (along m i v j) (along m i v (j + 1)) w
theorem SegAt.nd {l:List Int} {v:Int} {i:Nat} (h:SegAt l v i) (ha:Axis l):i + 1 < l.length ∧ nd l i ≤ v ∧ v ≤ nd l (i + 1) ∧ nd l i < nd l (i + 1) ∧ -1073741824 ≤ Pv.nd l i ∧ Pv.nd l (i + 1) ≤ 1073741824:=by
 obtain ⟨h0,h1,h2,_⟩:=h
 rw [nd_get (by omega:i < l.length),nd_get h0]
 exact ⟨h0,h1,h2,ha.asc i h0,(ha.el i (by omega)).1,(ha.el (i + 1) h0).2⟩
theorem q521 {m:SMap} (h:MapOk m) {i j:Nat} {v lo hi:Int} (hi':SegAt m.X v i) (a0:lo ≤ zz m i j) (a1:zz m i j ≤ hi) (b0:lo ≤ zz m (i + 1) j) (b1:zz m (i + 1) j ≤ hi) :
  lo ≤ along m i v j ∧ along m i v j ≤ hi:=by
 obtain ⟨k0,k1,k2,k3,_,_⟩:=hi'.nd h.x
 exact q312 k1 k2 k3 a0 a1 b0 b1
theorem q810 {m:SMap} (h:MapOk m) {i j:Nat} {v w lo hi:Int} (hi':SegAt m.X v i) (hj':SegAt m.Y w j) (hz:∀ i j,i < m.X.length → j < m.Y.length → lo ≤ zz m i j ∧ zz m i j ≤ hi) :
  lo ≤ atV m i j v w ∧ atV m i j v w ≤ hi:=by
 obtain ⟨k0,k1,k2,k3,_,_⟩:=hi'.nd h.x
 obtain ⟨l0,l1,l2,l3,_,_⟩:=hj'.nd h.y
 have a:=fun j hj=>q521 h (j:=j) hi' (hz i j (by omega) hj).1 (hz i j (by omega) hj).2 (hz (i + 1) j (by omega) hj).1 (hz (i + 1) j (by omega) hj).2
 exact q312 l1 l2 l3 (a j (by omega)).1 (a j (by omega)).2 (a (j + 1) (by omega)).1 (a (j + 1) (by omega)).2
theorem at1_eq {m:SMap} (h:MapOk m) {i j:Nat} {v:Int} (hi:SegAt m.X v i) (hj:j < m.Y.length):q346 (j:Int) m (i:Int) v = some (along m i v j):=by
 obtain ⟨k0,k1,k2,k3,k4,k5⟩:=hi.nd h.x
 have lx:=h.x.most
 have hz0:i < m.Z.length:=by have:=h.zl; omega
 have hz1:i + 1 < m.Z.length:=by have:=h.zl; omega
 have r0:=h.rl i hz0
 have r1:=h.rl (i + 1) hz1
 unfold q346
 rw [w64_of (by omega) (by omega),show (i:Int) + 1 = ((i + 1:Nat):Int) from rfl,getI_get m.X i (by omega),Option.bind_some,getI_get m.X (i + 1) k0,Option.bind_some,getI_get m.Z i hz0,Option.bind_some,getI_get _ j (by omega),
  Option.bind_some,getI_get m.Z (i + 1) hz1,Option.bind_some,getI_get _ j (by omega),Option.bind_some,← nd_get (by omega:i < m.X.length),← nd_get k0,← zz_get hz0 (by omega),← zz_get hz1 (by omega)]
 rw [q720 k1 k2 k3 k4 k5 (h.el i j (by omega) hj).1 (h.el i j (by omega) hj).2 (h.el (i + 1) j k0 hj).1 (h.el (i + 1) j k0 hj).2]
 rfl
theorem at_eq {m:SMap} (h:MapOk m) (x y:Int):∃ i j,SegAt m.X (lim m.X x) i ∧ SegAt m.Y (lim m.Y y) j ∧ q501 m x y = some (atV m i j (lim m.X x) (lim m.Y y)):=by
 obtain ⟨i,hi,ei⟩:=q622 h.x x
 obtain ⟨j,hj,ej⟩:=q622 h.y y
 refine ⟨i,j,hi,hj,?_⟩
 obtain ⟨k0,k1,k2,k3,k4,k5⟩:=hi.nd h.x
 obtain ⟨l0,l1,l2,l3,l4,l5⟩:=hj.nd h.y
 have ly:=h.y.most
 have a:=fun j hj=>q521 h (j:=j) hi (h.el i j (by omega) hj).1 (h.el i j (by omega) hj).2 (h.el (i + 1) j (by omega) hj).1 (h.el (i + 1) j (by omega) hj).2
 unfold q501
 rw [ei,ej]
 simp only [Option.bind_some]
 rw [w64_of (by omega) (by omega),show (j:Int) + 1 = ((j + 1:Nat):Int) from rfl,getI_get m.Y j (by omega),Option.bind_some,getI_get m.Y (j + 1) l0,Option.bind_some,at1_eq h hi (by omega),Option.bind_some,at1_eq h hi l0,Option.bind_some,
  ← nd_get (by omega:j < m.Y.length),← nd_get l0,q720 l1 l2 l3 l4 l5 (a j (by omega)).1 (a j (by omega)).2 (a (j + 1) l0).1 (a (j + 1) l0).2]
 rfl
theorem At_eq {m:SMap} (h:mapB m = true) (x y:Int):∃ i j,SegAt m.X (lim m.X x) i ∧ SegAt m.Y (lim m.Y y) j ∧ q137 m x y = some (atV m i j (lim m.X x) (lim m.Y y)):=by
 obtain ⟨i,j,hi,hj,e⟩:=at_eq (mapOk h) x y
 refine ⟨i,j,hi,hj,?_⟩
 unfold q137
 rw [q129,h]
 simp only [Option.bind_some,Bool.not_true,cond_false]
 rw [e]
 rfl
end Go.Pv
set_option linter.unusedSimpArgs false
namespace Go.Pv
open Go
def cuV (c:SCurve) (i:Nat) (v:Int):Int:=itp (nd c.X i) (nd c.X (i + 1)) (nd c.Y i) (nd c.Y (i + 1)) v
theorem q803 {l:List Int} (h:Axis l) (x:Int):∃ i,SegAt l (lim l x) i:=by
 obtain ⟨i,hi,_⟩:=q622 h x
 exact ⟨i,hi⟩
theorem lim_nd {l:List Int} (h:Axis l) (x:Int):lim l x = min (max x (nd l 0)) (nd l (l.length - 1)):=by
 have h2:=h.two
 unfold lim
 rw [q541 l (by omega),q432 l (by omega),nd_get (by omega),nd_get (by omega)]
theorem Axis.nlt {l:List Int} (h:Axis l) {i j:Nat} (h1:i < j) (h2:j < l.length):nd l i < nd l j:=by rw [nd_get h2,nd_get (by omega)]; exact h.lt j i h2 h1
theorem Axis.nle {l:List Int} (h:Axis l) {i j:Nat} (h1:i ≤ j) (h2:j < l.length):nd l i ≤ nd l j:=by rw [nd_get h2,nd_get (by omega)]; exact h.le j i h2 h1
theorem q454 {l:List Int} (h:Axis l) {v:Int} {i:Nat} (hi:SegAt l v i) (f:Nat → Int) {c:Nat} (hc:c < l.length) (e:v = nd l c):itp (nd l i) (nd l (i + 1)) (f i) (f (i + 1)) v = f c:=by
 obtain ⟨k0,k1,k2,k3,_,_⟩:=hi.nd h
 subst e
 have c1:i ≤ c:=by
  rcases Nat.lt_or_ge c i with q | q
  ·have:=h.nlt q (by omega); omega
  ·exact q
 have c2:c ≤ i + 1:=by
  rcases Nat.lt_or_ge (i + 1) c with q | q
  ·have:=h.nlt q hc; omega
  ·exact q
 rcases (show c = i ∨ c = i + 1 by omega) with rfl | rfl
 ·exact q692 ..
 ·exact q641 k3
theorem q851 {c:SCurve} (h:CurOk c) (x:Int):∃ i,SegAt c.X (lim c.X x) i ∧ q465 c x = some (cuV c i (lim c.X x)):=by
 obtain ⟨i,hi⟩:=q803 h.x x
 refine ⟨i,hi,?_⟩
 have h2:=h.x.two
 have h3:=h.x.most
 have hyl:=h.yl
 have hl:=lim_nd h.x x
 have h0l:=h.x.nlt (i:=0) (j:=c.X.length - 1) (by omega) (by omega)
 have gx0:getI c.X 0 = some (nd c.X 0):=by have:=getI_get c.X 0 (by omega); rw [nd_get (by omega)]; exact this
 have gy0:getI c.Y 0 = some (nd c.Y 0):=by have:=getI_get c.Y 0 (by omega); rw [nd_get (by omega)]; exact this
 have ew:w64 ((c.X.length:Int) - 1) = ((c.X.length - 1:Nat):Int):=by rw [w64_of (by omega) (by omega)]; omega
 have gxl:getI c.X ((c.X.length - 1:Nat):Int) = some (nd c.X (c.X.length - 1)):=by rw [getI_get _ _ (by omega),nd_get (by omega)]
 have gyl:getI c.Y ((c.X.length - 1:Nat):Int) = some (nd c.Y (c.X.length - 1)):=by rw [getI_get _ _ (by omega),nd_get (by omega)]
 unfold q465
 rw [gx0,Option.bind_some]
 by_cases q0:x ≤ nd c.X 0
 ·have e:=q454 h.x hi (fun j=>nd c.Y j) (c:=0) (by omega) (by omega)
  rw [decide_eq_true q0,cond_true,gy0]
  unfold cuV
  rw [e]; rfl
 ·rw [decide_eq_false q0,cond_false,ew,gxl,Option.bind_some]
  by_cases q1:x ≥ nd c.X (c.X.length - 1)
  ·have e:=q454 h.x hi (fun j=>nd c.Y j) (c:=c.X.length - 1) (by omega) (by omega)
   rw [decide_eq_true q1,cond_true,gyl]
   unfold cuV
   rw [e]; rfl
  ·have elim:lim c.X x = x:=by omega
   rw [elim] at hi ⊢
   obtain ⟨k0,k1,k2,k3,k4,k5⟩:=hi.nd h.x
   obtain ⟨k,r1,r2,r3,r4⟩:=q264 c.X.length (by omega) (fun x0=>q239 x0 c x) (fun i=>decide (nd c.X i > x)) (fun j hj=>by
    unfold q239
    rw [getI_get c.X j hj,nd_get hj]; rfl)
   have hk:k = i + 1:=by
    have hkl:k < c.X.length:=by
     rcases Nat.lt_or_ge k c.X.length with q | q
     ·exact q
     ·have:=r3 (by omega)
      rw [decide_eq_false_iff_not,show k - 1 = c.X.length - 1 by omega] at this
      omega
    have a1:=r4 hkl
    rw [decide_eq_true_eq] at a1
    have hk0:0 < k:=by
     rcases Nat.eq_zero_or_pos k with q | q
     ·subst q; omega
     ·exact q
    have a2:=r3 hk0
    rw [decide_eq_false_iff_not] at a2
    have b1:i < k:=by
     rcases Nat.lt_or_ge i k with q | q
     ·exact q
     ·have:=h.x.nle q (by omega); omega
    have b2:k - 1 ≤ i:=by
     rcases Nat.lt_or_ge i (k - 1) with q | q
     ·have:=h.x.nle (i:=i + 1) (j:=k - 1) (by omega) (by omega)
      have hseg:=hi.2
      obtain ⟨hh,s1,s2,s3⟩:=hi
      rcases s3 with s3 | s3
      ·omega
      ·rw [← nd_get hh] at s3; omega
     ·exact q
    omega
   have es:q401 c x = some (i:Int):=by
    unfold q401
    rw [r2,Option.bind_some,w64_of (by omega) (by omega),hk]
    congr 1; omega
   have hb:=q312 (lo:=-1073741824) (hi:=1073741824) k1 k2 k3 (h.el i (by omega)).1 (h.el i (by omega)).2 (h.el (i + 1) k0).1 (h.el (i + 1) k0).2
   have y0:=h.el i (by omega)
   have y1:=h.el (i + 1) k0
   have hp:=prod31 (a:=x - nd c.X i) (b:=nd c.Y (i + 1) - nd c.Y i) (by omega) (by omega) (by omega) (by omega)
   rw [decide_eq_false q1,cond_false,es,Option.bind_some,w64_of (n:=(i:Int) + 1) (by omega) (by omega),show (i:Int) + 1 = ((i + 1:Nat):Int) from rfl,getI_get c.Y i (by omega),Option.bind_some,getI_get c.X i (by omega),Option.bind_some,
    getI_get c.Y (i + 1) (by omega),Option.bind_some,getI_get c.X (i + 1) k0,Option.bind_some,← nd_get,← nd_get,← nd_get,← nd_get]
   rw [w64_of (n:=x - nd c.X i) (by omega) (by omega),w64_of (n:=nd c.Y (i + 1) - nd c.Y i) (by omega) (by omega),w64_of (n:=nd c.X (i + 1) - nd c.X i) (by omega) (by omega),w64_of (n:=(x - nd c.X i) * (nd c.Y (i + 1) - nd c.Y i)) (by omega) (by omega),
    q614 _ _ (by omega) (by omega) (by omega) (by omega),Option.bind_some]
   unfold cuV
   unfold itp at hb ⊢
   rw [w64_of (by omega) (by omega)]
theorem q728 {c:SCurve} (h:CurOk c) {v:Int} {i:Nat} {lo hi:Int} (hs:SegAt c.X v i) (hy:∀ j,j < c.X.length → lo ≤ nd c.Y j ∧ nd c.Y j ≤ hi):lo ≤ cuV c i v ∧ cuV c i v ≤ hi:=by
 obtain ⟨k0,k1,k2,k3,k4,k5⟩:=hs.nd h.x
 exact q312 k1 k2 k3 (hy i (by omega)).1 (hy i (by omega)).2 (hy (i + 1) k0).1 (hy (i + 1) k0).2
theorem q366 {c:SCurve} (h:curB c = true) (x:Int):∃ i,SegAt c.X (lim c.X x) i ∧ q263 c x = some (cuV c i (lim c.X x)):=by
 obtain ⟨i,hi,e⟩:=q851 (curOk h) x
 refine ⟨i,hi,?_⟩
 unfold q263
 rw [q100,h]
 simp only [Option.bind_some,Bool.not_true,cond_false]
 rw [e]
 rfl
end Go.Pv
set_option linter.unusedSimpArgs false
namespace Go.Pv
open Go
structure TorOk (t:STables):Prop where
 m:MapOk t.Torque
 c:CurOk t.Efficiency
 e:∀ i,i < t.Efficiency.X.length → 0 ≤ nd t.Efficiency.Y i ∧ nd t.Efficiency.Y i ≤ 1000
 ed:∀ i,i + 1 < t.Efficiency.X.length → nd t.Efficiency.Y (i + 1) ≤ nd t.Efficiency.Y i
 z:∀ i j,i < t.Torque.X.length → j < t.Torque.Y.length → 0 ≤ zz t.Torque i j ∧ zz t.Torque i j ≤ 10000
 za:∀ i j,i < t.Torque.X.length → j + 1 < t.Torque.Y.length → zz t.Torque i j ≤ zz t.Torque i (j + 1)
theorem zz_row {m:SMap} {i j:Nat} (h:i < m.Z.length):zz m i j = nd m.Z[i] j:=by
 have e:m.Z.getD i [] = m.Z[i]:=by rw [List.getD_eq_getElem?_getD,List.getElem?_eq_getElem h]; rfl
 unfold zz nd
 rw [e]
theorem torOk {t:STables} (h:torB t = true):TorOk t:=by
 unfold torB at h
 simp only [Bool.and_eq_true] at h
 obtain ⟨⟨⟨⟨h1,h2⟩,h3⟩,h4⟩,h5⟩:=h
 have hm:=mapOk h1
 have hc:=curOk h2
 rw [List.all_eq_true] at h3 h5
 have zl:=hm.zl
 have yl:=hc.yl
 refine ⟨hm,hc,fun i hi=>?_,fun i hi=>?_,fun i j hi hj=>?_,fun i j hi hj=>?_⟩
 ·rw [nd_get (by omega)]
  have:=h3 _ (List.getElem_mem (by omega:i < t.Efficiency.Y.length))
  simp [inR] at this; omega
 ·have:=q192.1 h4 i (by omega)
  rw [decide_eq_true_eq] at this
  exact this
 ·have hz:i < t.Torque.Z.length:=by omega
  have:=h5 _ (List.getElem_mem hz)
  rw [Bool.and_eq_true,List.all_eq_true] at this
  have lr:=hm.rl i hz
  have:=this.1 _ (List.getElem_mem (by omega:j < t.Torque.Z[i].length))
  rw [zz_row hz,nd_get (by omega)]
  simp [inR] at this; omega
 ·have hz:i < t.Torque.Z.length:=by omega
  have:=h5 _ (List.getElem_mem hz)
  rw [Bool.and_eq_true] at this
  have lr:=hm.rl i hz
  have:=q192.1 this.2 j (by omega)
  rw [decide_eq_true_eq] at this
  rw [zz_row hz,zz_row hz]
  exact this
theorem q453 {t:STables} (h:torB t = true):mapB t.Torque = true:=by
 unfold torB at h
 simp only [Bool.and_eq_true] at h
 exact h.1.1.1.1
theorem q620 {t:STables} (h:torB t = true):curB t.Efficiency = true:=by
 unfold torB at h
 simp only [Bool.and_eq_true] at h
 exact h.1.1.1.2
theorem q748 {t:STables} (h:torB t = true) (late:Int):∃ e,q263 t.Efficiency late = some e ∧ 0 ≤ e ∧ e ≤ 1000 ∧
  ∀ o f c,0 ≤ o → o ≤ 10000 → 0 ≤ f → f ≤ c → 1 ≤ c → c ≤ 8 → q168 t o late f c = some ((o * e * f) / (1000 * c)):=by
 obtain ⟨i,hi,e⟩:=q366 (q620 h) late
 have hb:=q728 (torOk h).c hi (torOk h).e
 refine ⟨_,e,hb.1,hb.2,fun o f c o0 o1 f0 f1 c0 c1=>?_⟩
 generalize cuV t.Efficiency i (lim t.Efficiency.X late) = v at hb e
 have p0:0 ≤ o * v:=Int.mul_nonneg o0 hb.1
 have p1:o * v ≤ 10000 * 1000:=Int.mul_le_mul o1 hb.2 hb.1 (by omega)
 have q0:0 ≤ o * v * f:=Int.mul_nonneg p0 f0
 have q1:o * v * f ≤ 10000 * 1000 * 8:=Int.mul_le_mul p1 (by omega) f0 (by omega)
 unfold q168
 rw [e,Option.bind_some,w64_of (n:=o * v) (by omega) (by omega),w64_of (n:=o * v * f) (by omega) (by omega),w64_of (n:=1000 * c) (by omega) (by omega)]
 unfold quoM
 rw [if_neg (by omega),Option.bind_some,Int.tdiv_eq_ediv_of_nonneg q0]
 have r0:0 ≤ o * v * f / (1000 * c):=Int.ediv_nonneg q0 (by omega)
 have r1:o * v * f / (1000 * c) ≤ o * v * f:=Int.ediv_le_self _ q0
 have:=w64_of (n:=o * v * f / (1000 * c)) (by omega) (by omega)
 unfold w64 at this
 rw [this]
end Go.Pv
set_option linter.unusedSimpArgs false
namespace Go.Pv
open Go
noncomputable def sAt (m:SMap) (x y:Int):Int:=(q137 m x y).getD 0
noncomputable def cAt (c:SCurve) (x:Int):Int:=(q263 c x).getD 0
theorem sAt_eq {m:SMap} (h:mapB m = true) (x y:Int):q137 m x y = some (sAt m x y):=by
 obtain ⟨i,j,_,_,e⟩:=At_eq h x y
 unfold sAt; rw [e]; rfl
theorem cAt_eq {c:SCurve} (h:curB c = true) (x:Int):q263 c x = some (cAt c x):=by
 obtain ⟨i,_,e⟩:=q366 h x
 unfold cAt; rw [e]; rfl
theorem q365 {m:SMap} (h:mapB m = true) (x y:Int) {lo hi:Int} (hz:∀ i j,i < m.X.length → j < m.Y.length → lo ≤ zz m i j ∧ zz m i j ≤ hi):lo ≤ sAt m x y ∧ sAt m x y ≤ hi:=by
 obtain ⟨i,j,a,b,e⟩:=At_eq h x y
 have:=q810 (mapOk h) a b hz
 unfold sAt; rw [e]; exact this
theorem q428 {c:SCurve} (h:curB c = true) (x:Int) {lo hi:Int} (hy:∀ j,j < c.X.length → lo ≤ nd c.Y j ∧ nd c.Y j ≤ hi):lo ≤ cAt c x ∧ cAt c x ≤ hi:=by
 obtain ⟨i,a,e⟩:=q366 h x
 have:=q728 (curOk h) a hy
 unfold cAt; rw [e]; exact this
theorem inR_iff {lo hi x:Int}:inR lo hi x = true ↔ lo ≤ x ∧ x ≤ hi:=by
 unfold inR
 rw [Bool.and_eq_true,decide_eq_true_eq,decide_eq_true_eq]
theorem z_in {m:SMap} (h:mapB m = true) {lo hi:Int} (hz:∀ r ∈ m.Z,r.all (inR lo hi) = true):∀ i j,i < m.X.length → j < m.Y.length → lo ≤ zz m i j ∧ zz m i j ≤ hi:=by
 intro i j hi' hj
 have k:=mapOk h
 have hiz:i < m.Z.length:=by have:=k.zl; omega
 have hjz:j < m.Z[i].length:=by have:=k.rl i hiz; omega
 have:=hz _ (List.getElem_mem hiz)
 rw [List.all_eq_true] at this
 have:=this _ (List.getElem_mem hjz)
 rw [zz_get hiz hjz]
 exact inR_iff.1 this
theorem y_in {c:SCurve} (h:curB c = true) {lo hi:Int} (hy:c.Y.all (inR lo hi) = true):∀ j,j < c.X.length → lo ≤ nd c.Y j ∧ nd c.Y j ≤ hi:=by
 intro j hj
 have k:=curOk h
 have hjy:j < c.Y.length:=by have:=k.yl; omega
 rw [List.all_eq_true] at hy
 rw [nd_get hjy]
 exact inR_iff.1 (hy _ (List.getElem_mem hjy))
structure AirOk (t:STables):Prop where
 m:mapB t.Air = true
 c:curB t.AirTemp = true
 z:∀ i j,i < t.Air.X.length → j < t.Air.Y.length → 0 ≤ zz t.Air i j ∧ zz t.Air i j ≤ 1048576
 y:∀ j,j < t.AirTemp.X.length → 100 ≤ nd t.AirTemp.Y j ∧ nd t.AirTemp.Y j ≤ 3000
theorem airOk {t:STables} (h:airB t = true):AirOk t:=by
 unfold airB at h
 simp only [Bool.and_eq_true] at h
 obtain ⟨⟨⟨h1,h2⟩,h3⟩,h4⟩:=h
 refine ⟨h1,h2,z_in h1 fun r hr=>?_,y_in h2 h4⟩
 have:=List.all_eq_true.1 h3 r hr
 unfold airRow at this
 rw [Bool.and_eq_true] at this
 exact this.1
noncomputable def chV (t:STables) (s p q:Int):Int:=min 1048576 (sAt t.Air s p * cAt t.AirTemp q / 1000)
theorem prod_le {a b A B:Int} (a0:0 ≤ a) (a1:a ≤ A) (b0:0 ≤ b) (b1:b ≤ B):0 ≤ a * b ∧ a * b ≤ A * B:=⟨Int.mul_nonneg a0 b0,Int.mul_le_mul a1 b1 b0 (by omega)⟩
theorem ch_eq {t:STables} (h:airB t = true) (s p q:Int):q430 t s p q = some (chV t s p q) ∧ 0 ≤ chV t s p q ∧ chV t s p q ≤ 1048576:=by
 have k:=airOk h
 have b1:=q365 k.m s p k.z
 have b2:=q428 k.c q k.y
 have b3:=prod_le (A:=1048576) (B:=3000) b1.1 b1.2 (by omega) b2.2
 unfold q430 chV
 rw [sAt_eq k.m,cAt_eq k.c]
 simp only [Option.bind_some]
 rw [w64_of (by omega) (by omega),q614 _ _ (by omega) (by omega) (by omega) (by omega)]
 simp only [Option.bind_some,minI_eq]
 exact ⟨trivial,by omega,by omega⟩
theorem in_true {lo hi x:Int} (h0:lo ≤ x) (h1:x ≤ hi):inR lo hi x = true:=inR_iff.2 ⟨h0,h1⟩
theorem q778 {t:STables} (h:airB t = true) {s p q:Int} (s0:0 ≤ s ∧ s ≤ 12000) (p0:50 ≤ p ∧ p ≤ 3000) (q0:-40 ≤ q ∧ q ≤ 150):q502 t s p q = some (chV t s p q,0):=by
 unfold q502
 rw [q530,h,q58,q58,q58,in_true s0.1 s0.2,in_true p0.1 p0.2,in_true q0.1 q0.2,(ch_eq h s p q).1]
 rfl
structure PrOk (t:STables) (s w q p e:Int):Prop where
 out:e = 0 ∨ e = 2 ∨ e = 7
 ran:e = 2 ↔ ¬ (0 ≤ w ∧ w ≤ 1048576)
 fit:e = 0 → 50 ≤ p ∧ p ≤ 3000 ∧ w ≤ chV t s p q
 low:e = 0 → 50 < p → chV t s (p - 1) q < w
 big:e = 7 → chV t s 3000 q < w
theorem q679 {t:STables} (h:airB t = true) {s w q:Int} (s0:0 ≤ s ∧ s ≤ 12000) (q0:-40 ≤ q ∧ q ≤ 150):∃ p e,q349 t s w q = some (p,e) ∧ PrOk t s w q p e:=by
 unfold q349
 rw [q530,h,q58,q58,q58,in_true s0.1 s0.2,in_true q0.1 q0.2]
 simp only [Option.bind_some,Bool.not_true,cond_false]
 cases hw:inR 0 1048576 w
 ·have hw2:¬ (0 ≤ w ∧ w ≤ 1048576):=fun h2=>by rw [inR_iff.2 h2] at hw; cases hw
  exact ⟨0,2,rfl,.inr (.inl rfl),⟨fun _=>hw2,fun _=>rfl⟩,fun h=>(by cases h),fun h=>(by cases h),fun h=>(by cases h)⟩
 ·have hw2:=inR_iff.1 hw
  simp only [Bool.not_true,cond_false]
  obtain ⟨k,k1,k2,k3,k4⟩:=q264 2951 (by omega) (fun x0=>q193 x0 t s q w) (fun i=>decide (chV t s (50 + (i:Int)) q ≥ w)) (fun i hi=>by
   unfold q193
   rw [w64_of (by omega) (by omega),(ch_eq h s _ q).1]
   rfl)
  have k2':q66 2951 (fun x0=>q193 x0 t s q w) = some (k:Int):=k2
  rw [k2']
  simp only [Option.bind_some]
  rw [w64_of (n:=50 + (k:Int)) (by omega) (by omega)]
  by_cases hk:k = 2951
  ·subst hk
   refine ⟨0,7,rfl,.inr (.inr rfl),⟨fun h=>(by cases h),fun h=>absurd hw2 h⟩,fun h=>(by cases h),fun h=>(by cases h),fun _=>?_⟩
   have:=k3 (by omega)
   rw [decide_eq_false_iff_not] at this
   have e:(50:Int) + ((2951 - 1:Nat):Int) = 3000:=by omega
   rw [e] at this
   omega
  ·have h4:=k4 (by omega)
   rw [decide_eq_true_eq] at h4
   rw [decide_eq_false (show ¬ (50 + (k:Int) > 3000) by omega)]
   refine ⟨50 + (k:Int),0,rfl,.inl rfl,⟨fun h=>(by cases h),fun h=>absurd hw2 h⟩,fun _=>⟨by omega,by omega,by omega⟩,fun _ hp=>?_,fun h=>(by cases h)⟩
   have h3:=k3 (by omega)
   rw [decide_eq_false_iff_not] at h3
   have e:(50:Int) + ((k - 1:Nat):Int) = 50 + (k:Int) - 1:=by omega
   rw [e] at h3
   omega
def rpmV (s:Int):Int:=-((-(s * 65536 * 23040)) / 60000000)
theorem q721 {s:Int} (s0:0 ≤ s ∧ s ≤ 12000):0 ≤ rpmV s ∧ rpmV s ≤ 310000:=by unfold rpmV; omega
def flowV (s p:Int):Int:=rpmV s * p / 1024
theorem flow_eq {s p:Int} (s0:0 ≤ s ∧ s ≤ 12000) (p0:50 ≤ p ∧ p ≤ 3000):q615 s p = some (flowV s p,0) ∧ 0 ≤ flowV s p ∧ flowV s p ≤ 930000000:=by
 have r:=q721 s0
 have b:=prod_le (B:=3000) r.1 r.2 (show 0 ≤ p by omega) p0.2
 unfold q615 q451 q355
 rw [q58,q58,in_true s0.1 s0.2,in_true p0.1 p0.2]
 rw [show ((decide (s < 0)) || (decide (s > 20000))) = false by rw [Bool.or_eq_false_iff]; exact ⟨decide_eq_false (by omega),decide_eq_false (by omega)⟩]
 rw [w64_of (n:=s * 65536) (by omega) (by omega),w64_of (n:=s * 65536 * 23040) (by omega) (by omega),q661 _ _ 2 (by omega) (by omega) (by omega) (by omega) (.inr rfl)]
 simp only [Option.bind_some,Bool.not_true,cond_false]
 rw [if_neg (by decide)]
 have er:-((-(s * 65536 * 23040)) / 60000000) = rpmV s:=rfl
 unfold flowV
 rw [er,w64_of (n:=rpmV s * p) (by omega) (by omega),Int.tdiv_eq_ediv_of_nonneg b.1,w64_of (by omega) (by omega)]
 exact ⟨rfl,by omega,by omega⟩
structure BodyOk (b:SBody):Prop where
 i:100 ≤ b.Inertia ∧ b.Inertia ≤ 1048576
 f:0 ≤ b.Friction ∧ b.Friction ≤ 65536
 t:0 ≤ b.Throttle ∧ b.Throttle ≤ 65536
 v:1 ≤ b.Volume ∧ b.Volume ≤ 65536
 fi:0 ≤ b.Film ∧ b.Film ≤ 1023
 ev:1 ≤ b.Evaporate ∧ b.Evaporate ≤ 1024
 de:0 ≤ b.Delay ∧ b.Delay ≤ 20
def bodyB (b:SBody):Bool:=inR 100 1048576 b.Inertia && inR 0 65536 b.Friction && inR 0 65536 b.Throttle && inR 1 65536 b.Volume && inR 0 1023 b.Film && inR 1 1024 b.Evaporate && inR 0 20 b.Delay
theorem body_eq (b:SBody):q393 b = some (bodyB b):=by
 unfold q393 bodyB
 have e:∀ x lo hi,q113 x lo hi = some (inR lo hi x):=fun _ _ _=>rfl
 simp only [e,Option.bind_some]
 cases inR 100 1048576 b.Inertia <;> cases inR 0 65536 b.Friction <;> cases inR 0 65536 b.Throttle <;> cases inR 1 65536 b.Volume <;> cases inR 0 1023 b.Film <;> cases inR 1 1024 b.Evaporate <;> rfl
theorem bodyOk {b:SBody} (h:bodyB b = true):BodyOk b:=by
 unfold bodyB at h
 simp only [Bool.and_eq_true,inR_iff] at h
 obtain ⟨⟨⟨⟨⟨⟨h1,h2⟩,h3⟩,h4⟩,h5⟩,h6⟩,h7⟩:=h
 exact ⟨h1,h2,h3,h4,h5,h6,h7⟩
structure ThOk (b:SBody) (f p n e:Int):Prop where
 out:e = 0 ∨ e = 7
 fit:e = 0 → 0 ≤ n ∧ n ≤ 1000 ∧ f ≤ b.Throttle * n * (1013 - p) / 1000
 low:e = 0 → 0 < n → b.Throttle * (n - 1) * (1013 - p) / 1000 < f
 big:e = 7 → b.Throttle * 1000 * (1013 - p) / 1000 < f
theorem q681 {b:SBody} (h:bodyB b = true) {f p:Int} (f0:0 ≤ f ∧ f ≤ 1099511627776) (p0:50 ≤ p ∧ p ≤ 1013):∃ n e,q359 b f p = some (n,e) ∧ ThOk b f p n e:=by
 have kb:=(bodyOk h).t
 have v:∀ k:Nat,k ≤ 1000 → (w64 (Int.tdiv (w64 ((w64 (b.Throttle * (k:Int))) * (w64 (1013 - p)))) 1000)) = b.Throttle * (k:Int) * (1013 - p) / 1000:=by
  intro k hk
  have b1:=prod_le (A:=65536) (B:=1000) kb.1 kb.2 (show 0 ≤ (k:Int) by omega) (by omega)
  have b2:=prod_le (A:=65536000) (B:=1000) b1.1 (by omega) (show 0 ≤ 1013 - p by omega) (by omega)
  rw [w64_of (n:=b.Throttle * (k:Int)) (by omega) (by omega),w64_of (n:=1013 - p) (by omega) (by omega),w64_of (n:=b.Throttle * (k:Int) * (1013 - p)) (by omega) (by omega),Int.tdiv_eq_ediv_of_nonneg b2.1,w64_of (by omega) (by omega)]
 unfold q359
 rw [body_eq,h,q58,q58,in_true f0.1 f0.2,in_true p0.1 p0.2]
 simp only [Option.bind_some,Bool.not_true,cond_false]
 obtain ⟨k,k1,k2,k3,k4⟩:=q264 1001 (by omega) (fun x0=>q196 x0 b p f) (fun i=>decide (b.Throttle * (i:Int) * (1013 - p) / 1000 ≥ f)) (fun i hi=>by
  unfold q196
  rw [v i (by omega)])
 have k2':q66 1001 (fun x0=>q196 x0 b p f) = some (k:Int):=k2
 rw [k2']
 simp only [Option.bind_some]
 by_cases hk:k = 1001
 ·subst hk
  refine ⟨0,7,rfl,.inr rfl,fun h=>(by cases h),fun h=>(by cases h),fun _=>?_⟩
  have:=k3 (by omega)
  rw [decide_eq_false_iff_not] at this
  have e:((1001 - 1:Nat):Int) = 1000:=by omega
  rw [e] at this
  omega
 ·have h4:=k4 (by omega)
  rw [decide_eq_true_eq] at h4
  rw [decide_eq_false (show ¬ ((k:Int) > 1000) by omega)]
  refine ⟨(k:Int),0,rfl,.inl rfl,fun _=>⟨by omega,by omega,by omega⟩,fun _ hp=>?_,fun h=>(by cases h)⟩
  have h3:=k3 (by omega)
  rw [decide_eq_false_iff_not] at h3
  have e:((k - 1:Nat):Int) = (k:Int) - 1:=by omega
  rw [e] at h3
  omega
noncomputable def optV (t:STables) (s c:Int):Int:=sAt t.Torque s c
noncomputable def torV (t:STables) (o l f n:Int):Int:=o * cAt t.Efficiency l * f / (1000 * n)
theorem q255 (x lo hi:Int):q50 x lo hi = some (inR lo hi x):=rfl
theorem opt_eq {t:STables} (h:torB t = true) {s c:Int} (s0:0 ≤ s ∧ s ≤ 12000) (c0:0 ≤ c ∧ c ≤ 1048576):q304 t s c = some (optV t s c,0) ∧ 0 ≤ optV t s c ∧ optV t s c ≤ 10000:=by
 have k:=q453 h
 have b:=q365 k s c (torOk h).z
 refine ⟨?_,b.1,b.2⟩
 unfold q304
 rw [q425,h,q255,q255,in_true s0.1 s0.2,in_true c0.1 c0.2,sAt_eq k]
 rfl
theorem q751 {t:STables} (h:torB t = true) (l:Int):0 ≤ cAt t.Efficiency l ∧ cAt t.Efficiency l ≤ 1000:=by
 obtain ⟨e,h1,h2,h3,_⟩:=q748 h l
 unfold cAt; rw [h1]; exact ⟨h2,h3⟩
theorem tor_eq {t:STables} (h:torB t = true) {o l f n:Int} (o0:0 ≤ o ∧ o ≤ 10000) (f0:0 ≤ f ∧ f ≤ n) (n0:1 ≤ n ∧ n ≤ 8):q168 t o l f n = some (torV t o l f n) ∧ 0 ≤ torV t o l f n ∧ torV t o l f n ≤ 10000:=by
 obtain ⟨e,h1,h2,h3,h4⟩:=q748 h l
 unfold torV cAt
 rw [h4 o f n o0.1 o0.2 f0.1 f0.2 n0.1 n0.2,h1]
 have b1:=prod_le (A:=10000) (B:=1000) o0.1 o0.2 h2 h3
 have b2:=prod_le (A:=10000000) b1.1 (by omega) f0.1 f0.2
 refine ⟨rfl,Int.ediv_nonneg b2.1 (by omega),?_⟩
 have:o * e * f / (1000 * n) ≤ 10000000 * n / (1000 * n):=Int.ediv_le_ediv (by omega) b2.2
 rw [show 10000000 * n = 10000 * (1000 * n) by omega,Int.mul_ediv_cancel _ (by omega)] at this
 exact this
theorem q699 {t:STables} (h:torB t = true) {s w:Int} (s0:0 ≤ s ∧ s ≤ 12000):∃ c e,q219 t s w = some (c,e) ∧ (e = 0 ∨ e = 7) ∧
  (e = 0 → nd t.Torque.Y 0 ≤ c ∧ c ≤ nd t.Torque.Y (t.Torque.Y.length - 1) ∧ w ≤ sAt t.Torque s c ∧ (nd t.Torque.Y 0 < c → sAt t.Torque s (c - 1) < w)) ∧ (e = 7 → sAt t.Torque s (nd t.Torque.Y (t.Torque.Y.length - 1)) < w):=by
 have k:=q453 h
 have ky:=(mapOk k).y
 have y2:=ky.two
 have ym:=ky.most
 have e0:=ky.el 0 (by omega)
 have e1:=ky.el (t.Torque.Y.length - 1) (by omega)
 have le:=ky.le (t.Torque.Y.length - 1) 0 (by omega) (by omega)
 rw [← nd_get (by omega:0 < t.Torque.Y.length)] at e0 le
 rw [← nd_get (by omega:t.Torque.Y.length - 1 < t.Torque.Y.length)] at e1 le
 have g0:getI t.Torque.Y 0 = some (nd t.Torque.Y 0):=by have:=getI_get t.Torque.Y 0 (by omega); rw [nd_get (by omega)]; exact this
 have ew:w64 ((t.Torque.Y.length:Int) - 1) = ((t.Torque.Y.length - 1:Nat):Int):=by rw [w64_of (by omega) (by omega)]; omega
 have gl:getI t.Torque.Y ((t.Torque.Y.length - 1:Nat):Int) = some (nd t.Torque.Y (t.Torque.Y.length - 1)):=by rw [getI_get _ _ (by omega),nd_get (by omega)]
 unfold q219
 rw [q425,h,q255,in_true s0.1 s0.2]
 simp only [Option.bind_some,Bool.not_true,cond_false]
 rw [g0,ew]
 simp only [Option.bind_some]
 rw [gl]
 simp only [Option.bind_some]
 generalize nd t.Torque.Y 0 = a at *
 generalize nd t.Torque.Y (t.Torque.Y.length - 1) = b at *
 rw [w64_of (n:=b - a) (by omega) (by omega),w64_of (n:=b - a + 1) (by omega) (by omega)]
 obtain ⟨n,hn⟩:∃ n:Nat,b - a + 1 = n:=⟨(b - a + 1).toNat,by omega⟩
 rw [hn]
 obtain ⟨j,k1,k2,k3,k4⟩:=q264 n (by omega) (fun x0=>q237 x0 t s a w) (fun i=>decide (sAt t.Torque s (a + (i:Int)) ≥ w)) (fun i hi=>by
  unfold q237
  rw [w64_of (by omega) (by omega),sAt_eq k]; rfl)
 rw [k2]
 simp only [Option.bind_some]
 by_cases hj:j = n
 ·subst hj
  refine ⟨0,7,by simp,.inr rfl,fun h=>(by cases h),fun _=>?_⟩
  have:=k3 (by omega)
  rw [decide_eq_false_iff_not,show a + ((j - 1:Nat):Int) = b by omega] at this
  omega
 ·have:((j:Int) == (n:Int)) = false:=by
   rw [beq_eq_false_iff_ne]; omega
  rw [this,w64_of (n:=a + (j:Int)) (by omega) (by omega)]
  have h4:=k4 (by omega)
  rw [decide_eq_true_eq] at h4
  refine ⟨a + (j:Int),0,rfl,.inl rfl,fun _=>⟨by omega,by omega,by omega,fun hp=>?_⟩,fun h=>(by cases h)⟩
  have h3:=k3 (by omega)
  rw [decide_eq_false_iff_not,show a + ((j - 1:Nat):Int) = a + (j:Int) - 1 by omega] at h3
  omega
structure ShOk (t:STables) (o w n f l:Int):Prop where
 f0:0 ≤ f
 f1:f ≤ n
 l0:0 ≤ l
 l1:l ≤ 2560
 fit:f = 0 ∨ torV t o 2560 f n ≤ w
 more:f < n → w < torV t o 2560 (f + 1) n
 late:l < 2560 → torV t o l f n ≤ w
 less:0 < l → w < torV t o (l - 1) f n
theorem q775 (t:STables) (o l n:Int):torV t o l 0 n = 0:=by unfold torV; rw [Int.mul_zero,Int.zero_ediv]
theorem ShOk.most {t:STables} {o w n f l:Int} (h:ShOk t o w n f l) (hw:0 ≤ w):torV t o l f n ≤ w:=by
 by_cases hl:l < 2560
 ·exact h.late hl
 ·have:l = 2560:=by have:=h.l1; omega
  subst this
  rcases h.fit with h0 | h0
  ·rw [h0,q775]; exact hw
  ·exact h0
theorem q732 {t:STables} (h:torB t = true) {o w n:Int} (o0:0 ≤ o ∧ o ≤ 10000) (n0:1 ≤ n ∧ n ≤ 8):∀ k:Nat,(k:Int) ≤ n → ((k:Int) < n → w < torV t o 2560 ((k:Int) + 1) n) →
  ∃ f,loopM (q242 t w n (o,0)) (k:Int) = some (.inl f) ∧ 0 ≤ f ∧ f ≤ n ∧ (f = 0 ∨ torV t o 2560 f n ≤ w) ∧ (f < n → w < torV t o 2560 (f + 1) n)
 | 0,_,hm=>⟨0,loopM_out (by unfold q242; rfl),Int.le_refl _,by omega,.inl rfl,hm⟩
 | k + 1,hk,hm=>by
  have he:=(tor_eq h (l:=2560) (f:=((k + 1:Nat):Int)) o0 ⟨by omega,hk⟩ n0).1
  have hb:q242 t w n (o,0) ((k + 1:Nat):Int) = some (bif decide (torV t o 2560 ((k + 1:Nat):Int) n ≤ w) then .inr (.inl ((k + 1:Nat):Int)) else .inl (k:Int)):=by
   unfold q242
   rw [decide_eq_true (show ((k + 1:Nat):Int) > 0 by omega),he,w64_of (by omega) (by omega),show ((k + 1:Nat):Int) - 1 = (k:Int) by omega]
   simp only [cond_true,Option.bind_some]
   cases decide (torV t o 2560 ((k + 1:Nat):Int) n ≤ w) <;> rfl
  by_cases hc:torV t o 2560 ((k + 1:Nat):Int) n ≤ w
  ·rw [decide_eq_true hc] at hb
   exact ⟨_,loopM_out hb,by omega,hk,.inr hc,hm⟩
  ·rw [decide_eq_false hc] at hb
   rw [loopM_next hb]
   exact q732 h o0 n0 k (by omega) (fun _=>by rw [show (k:Int) + 1 = ((k + 1:Nat):Int) by omega]; omega)
theorem q872 {t:STables} (h:torB t = true) {s c w n:Int} (s0:0 ≤ s ∧ s ≤ 12000) (c0:0 ≤ c ∧ c ≤ 1048576) (w0:0 ≤ w) (n0:1 ≤ n ∧ n ≤ 8):∃ f l,q204 t s c w n = some (f,l,0) ∧ ShOk t (optV t s c) w n f l:=by
 obtain ⟨h1,h2⟩:=opt_eq h s0 c0
 unfold q204
 rw [h1]
 simp only [Option.bind_some]
 rw [show (((0:Int) != 0) = false) from rfl,q255,in_true n0.1 n0.2,decide_eq_false (show ¬ w < 0 by omega)]
 simp only [cond_false,Option.bind_some,Bool.not_true,Bool.or_self]
 generalize optV t s c = o at h2
 obtain ⟨k,hk⟩:∃ k:Nat,n = k:=⟨n.toNat,by omega⟩
 obtain ⟨f,f1,f2,f3,f4,f5⟩:=q732 h (w:=w) h2 n0 k (by omega) (fun h=>by omega)
 rw [← hk] at f1
 rw [f1]
 simp only [Option.bind_some]
 obtain ⟨j,k1,k2,k3,k4⟩:=q264 2560 (by omega) (fun x0=>q194 x0 t o f n w) (fun i=>decide (torV t o (i:Int) f n ≤ w)) (fun i hi=>by
  unfold q194
  rw [(tor_eq h h2 ⟨f2,f3⟩ n0).1]; rfl)
 have k2':q66 2560 (fun x0=>q194 x0 t o f n w) = some (j:Int):=k2
 rw [k2']
 refine ⟨f,(j:Int),rfl,f2,f3,by omega,by omega,f4,f5,fun hl=>?_,fun hl=>?_⟩
 ·have:=k4 (by omega)
  rwa [decide_eq_true_eq] at this
 ·have:=k3 (by omega)
  rw [decide_eq_false_iff_not,show ((j - 1:Nat):Int) = (j:Int) - 1 by omega] at this
  omega
theorem q833 {t:STables} (h:torB t = true) {s c l f n:Int} (s0:0 ≤ s ∧ s ≤ 12000) (c0:0 ≤ c ∧ c ≤ 1048576) (l0:0 ≤ l ∧ l ≤ 2560) (f0:0 ≤ f ∧ f ≤ n) (n0:1 ≤ n ∧ n ≤ 8):q403 t s c l f n = some (torV t (optV t s c) l f n,0):=by
 obtain ⟨h1,h2⟩:=opt_eq h s0 c0
 unfold q403
 rw [h1]
 simp only [Option.bind_some]
 rw [show (((0:Int) != 0) = false) from rfl,q255,q255,q255,in_true l0.1 l0.2,in_true n0.1 n0.2,in_true f0.1 f0.2,(tor_eq h h2 f0 n0).1]
 rfl
def patB (n f i:Int):Bool:=decide ((i + 1) * f / n > i * f / n)
theorem quoE {a b:Int} (ha:0 ≤ a) (hb:0 < b) (hm:a ≤ 9223372036854775807):quoM .i64 a b = some (a / b):=by
 have h1:a / b ≤ a:=Int.ediv_le_self _ ha
 have h2:0 ≤ a / b:=Int.ediv_nonneg ha (by omega)
 unfold quoM
 rw [if_neg (by omega),Int.tdiv_eq_ediv_of_nonneg ha]
 have:=w64_of (n:=a / b) (by omega) (by omega)
 unfold w64 at this
 rw [this]
theorem q799 {n:Nat} {f:Int} (n0:1 ≤ n ∧ n ≤ 8) (f0:0 ≤ f ∧ f ≤ n):q367 (n:Int) f 0 = some ((List.range n).map (fun i:Nat=>patB n f (i:Int)),0):=by
 unfold q367
 rw [q255,q255,q255,in_true (by omega) (by omega),in_true f0.1 f0.2]
 simp only [Option.bind_some,Bool.not_true,cond_false]
 rw [show inR 0 1099511627776 0 = true from rfl,makeM_nat n (by omega)]
 simp only [Option.bind_some,Bool.not_true,cond_false]
 obtain ⟨u,e,hu⟩:=rangeN_inv (List.replicate n false).length (by simp; omega) (q374 (n:Int) f 0) (fun i u=>u.length = n ∧ ∀ j,j < i → u[j]? = some (patB n f (j:Int))) (List.replicate n false) ⟨by simp,fun j hj=>by omega⟩ (fun j hj u hu=>by
  simp only [List.length_replicate] at hj
  obtain ⟨hl,hg⟩:=hu
  unfold q374
  have m1:=prod_le (A:=9) (B:=8) (show 0 ≤ (j:Int) + 1 by omega) (by omega) f0.1 (by omega)
  have m2:=prod_le (A:=9) (B:=8) (show 0 ≤ (j:Int) by omega) (by omega) f0.1 (by omega)
  have er:remM (w64 ((j:Int) + 0)) (n:Int) = some (j:Int):=by
   unfold remM
   rw [if_neg (by omega),Int.add_zero,w64_of (by omega) (by omega),Int.tmod_eq_emod_of_nonneg (by omega),Int.emod_eq_of_lt (by omega) (by omega)]
  rw [er]
  simp only [Option.bind_some]
  rw [w64_of (n:=(j:Int) + 1) (by omega) (by omega),w64_of (n:=((j:Int) + 1) * f) (by omega) (by omega),w64_of (n:=(j:Int) * f) (by omega) (by omega),quoE m1.1 (by omega) (by omega),quoE m2.1 (by omega) (by omega)]
  simp only [Option.bind_some]
  rw [getI_get _ _ (by omega)]
  simp only [Option.bind_some]
  rw [setM_nat _ _ _ (by omega)]
  refine ⟨_,rfl,by simp [hl],fun i hi=>?_⟩
  rcases Nat.lt_or_ge i j with h | h
  ·rw [List.getElem?_set_ne (by omega)]; exact hg i h
  ·have:i = j:=by omega
   subst this
   rw [List.getElem?_set_self (by omega)]; rfl)
 rw [e]
 simp only [List.length_replicate] at hu
 have:u = (List.range n).map (fun i:Nat=>patB n f (i:Int)):=by
  apply List.ext_getElem?
  intro i
  rcases Nat.lt_or_ge i n with h | h
  ·rw [hu.2 i h,List.getElem?_map,List.getElem?_range h]; rfl
  ·rw [List.getElem?_eq_none (by omega),List.getElem?_eq_none (by simp; omega)]
 rw [this]
 rfl
end Go.Pv
set_option linter.unusedSimpArgs false
namespace Go.Pv.Ev
open Go Go.Pv
theorem dec_of {p:Prop} [Decidable p] {b:Bool} (h:p ↔ b = true):decide p = b:=by
 cases b
 ·exact decide_eq_false fun hp=>Bool.noConfusion (h.1 hp)
 ·exact decide_eq_true (h.2 rfl)
theorem q555 {α:Type} [DecidableEq α]:∀ {l m:List α},l.Nodup → (∀ x ∈ l,x ∈ m) → m.length ≤ l.length → l.Perm m
 | [],m,_,_,h=>by
  have:m = []:=List.length_eq_zero_iff.1 (Nat.le_zero.1 h)
  rw [this]
 | x :: l,m,hn,hs,hl=>by
  have hx:x ∈ m:=hs x (List.mem_cons_self ..)
  have hp:=List.perm_cons_erase hx
  rw [List.nodup_cons] at hn
  have hlen:=hp.length_eq
  simp only [List.length_cons] at hlen hl
  refine (List.Perm.cons x (q555 hn.2 (fun y hy=>?_) (by omega))).trans hp.symm
  have hne:y ≠ x:=fun h=>hn.1 (h ▸ hy)
  exact (List.mem_erase_of_ne hne).2 (hs y (List.mem_cons_of_mem _ hy))
theorem q739 {l:List Int}:l.Nodup ↔ ∀ i (h:i < l.length),l[i] ∉ l.take i:=by
 unfold List.Nodup
 rw [List.pairwise_iff_getElem]
 constructor
 ·intro hp i hi hm
  obtain ⟨j,hj,e⟩:=List.mem_iff_getElem.1 hm
  rw [List.length_take] at hj
  rw [List.getElem_take] at e
  exact hp j i (by omega) hi (by omega) e
 ·intro hp i j hi hj hij e
  exact hp j hj (List.mem_iff_getElem.2 ⟨i,by rw [List.length_take]; omega,by rw [List.getElem_take]; exact e⟩)
theorem q841 {l:List Int}:(∀ k,k < l.length → ((k:Int) + 1) ∈ l) ↔ (∀ x ∈ l,1 ≤ x ∧ x ≤ l.length) ∧ l.Nodup:=by
 have hN:((List.range l.length).map (fun k:Nat=>(k:Int) + 1)).Nodup:=by
  unfold List.Nodup
  rw [List.pairwise_map]
  exact List.Pairwise.imp (fun {a b} h=>by omega) List.pairwise_lt_range
 have hm:∀ x:Int,x ∈ (List.range l.length).map (fun k:Nat=>(k:Int) + 1) ↔ 1 ≤ x ∧ x ≤ l.length:=by
  intro x
  rw [List.mem_map]
  constructor
  ·rintro ⟨k,hk,rfl⟩
   rw [List.mem_range] at hk
   omega
  ·intro h
   exact ⟨(x - 1).toNat,by rw [List.mem_range]; omega,by omega⟩
 constructor
 ·intro h
  have hp:((List.range l.length).map (fun k:Nat=>(k:Int) + 1)).Perm l:=q555 hN (fun x hx=>by
   rw [List.mem_map] at hx
   obtain ⟨k,hk,rfl⟩:=hx
   exact h k (List.mem_range.1 hk)) (by simp)
  exact ⟨fun x hx=>(hm x).1 (hp.mem_iff.2 hx),hp.nodup_iff.1 hN⟩
 ·rintro ⟨h1,h2⟩ k hk
  have hp:l.Perm ((List.range l.length).map (fun k:Nat=>(k:Int) + 1)):=q555 h2 (fun x hx=>(hm x).2 (h1 x hx)) (by simp)
  exact hp.mem_iff.2 ((hm _).2 (by omega))
def idx (v:Int):List Int → Nat → Int
 | [],_=>-1
 | x :: l,i=>bif v == x then (i:Int) else idx v l (i + 1)
theorem q770 (v:Int):∀ (l:List Int) (i:Nat),(idx v l i = -1 ∧ v ∉ l) ∨ ∃ k:Nat,idx v l i = ((i + k:Nat):Int) ∧ l[k]? = some v
 | [],i=>.inl ⟨rfl,by simp⟩
 | x :: l,i=>by
  unfold idx
  cases h:v == x
  ·have hne:v ≠ x:=by simpa using h
   rcases q770 v l (i + 1) with ⟨h1,h2⟩ | ⟨k,h1,h2⟩
   ·exact .inl ⟨h1,by simp [hne,h2]⟩
   ·exact .inr ⟨k + 1,by simp only [cond_false]; rw [h1]; omega,by simpa using h2⟩
  ·have:v = x:=by simpa using h
   exact .inr ⟨0,by simp,by simp [this]⟩
theorem idx_mem (v:Int) (l:List Int):decide (idx v l 0 ≥ 0) = decide (v ∈ l):=by
 rcases q770 v l 0 with ⟨h1,h2⟩ | ⟨k,h1,h2⟩
 ·rw [h1]; simp [h2]
 ·rw [h1]; simp [List.mem_of_getElem? h2]
theorem q756 (v:Int):∀ (l:List Int) (i:Nat),(Option.bind (stepsL (fun (i:Int) x (_:Unit)=>bif (v == x) then (some (Fl.ret i)) else (some (Fl.next ()))) l (i:Int) ()) fun (t:Unit ⊕ Int)=>match t with | .inl _=>(some (-1)) | .inr r2=>some r2) = some (idx v l i)
 | [],i=>rfl
 | x :: l,i=>by
  simp only [stepsL,idx]
  cases v == x
  ·simpa using q756 v l (i + 1)
  ·rfl
theorem q857 (s:List Int) (v:Int) (h:s.length ≤ 9223372036854775807):q278 s v = some (idx v s 0):=by
 unfold q278
 have:rangeN (s.length:Int) (q439 s v) () = stepsL (fun (i:Int) x (_:Unit)=>bif (v == x) then (some (Fl.ret i)) else (some (Fl.next ()))) s 0 ():=rangeN_list s h _ ()
 rw [this]
 exact q756 v s 0
theorem q580 (s:List Int) (v:Int) (h:s.length ≤ 9223372036854775807):q188 s v = some (decide (v ∈ s)):=by
 unfold q188
 rw [q857 s v h,Option.bind_some,idx_mem]
def engP (e:SEngine):Prop:=1 ≤ e.Order.length ∧ e.Order.length ≤ 8 ∧ 0 ≤ e.First ∧ e.First < 46080 ∧ (∀ x ∈ e.Order,1 ≤ x ∧ x ≤ (e.Order.length:Int)) ∧ e.Order.Nodup
instance (e:SEngine):Decidable (engP e):=by unfold engP; infer_instance
theorem q781 {e:SEngine} (h:(((decide ((e.Order.length:Int) < 1)) || (decide ((e.Order.length:Int) > 8))) || !((decide (e.First ≥ 0)) && (decide (e.First < 46080)))) = true):¬ engP e:=by
 rintro ⟨h1,h2,h3,h4,_⟩
 simp only [Bool.or_eq_true,Bool.not_eq_true',Bool.and_eq_false_iff,decide_eq_true_eq,decide_eq_false_iff_not] at h
 omega
theorem q779 {e:SEngine} (h:(((decide ((e.Order.length:Int) < 1)) || (decide ((e.Order.length:Int) > 8))) || !((decide (e.First ≥ 0)) && (decide (e.First < 46080)))) = false):1 ≤ e.Order.length ∧ e.Order.length ≤ 8 ∧ 0 ≤ e.First ∧ e.First < 46080:=by
 simp only [Bool.or_eq_false_iff,Bool.not_eq_false',Bool.and_eq_true,decide_eq_true_eq,decide_eq_false_iff_not] at h
 omega
theorem all_range' {n:Nat} {p:Nat → Bool}:(List.range' 0 n).all p = true ↔ ∀ k,k < n → p k = true:=by
 rw [List.all_eq_true]
 constructor
 ·intro h k hk
  exact h k (by rw [List.mem_range'_1]; omega)
 ·intro h k hk
  rw [List.mem_range'_1] at hk
  exact h k (by omega)
theorem q129 (e:SEngine):q350 e = some (decide (engP e)):=by
 unfold q350 q527
 have hb:(Option.bind (bif ((decide ((e.Order.length:Int) < 1)) || (decide ((e.Order.length:Int) > 8))) then (some true) else (Option.bind (some ((decide (e.First ≥ 0)) && (decide (e.First < 46080)))) fun v=>some (!v))):(Bool → Option Bool) → Option Bool) = fun k=>k (((decide ((e.Order.length:Int) < 1)) || (decide ((e.Order.length:Int) > 8))) || !((decide (e.First ≥ 0)) && (decide (e.First < 46080)))):=by
  funext k
  cases ((decide ((e.Order.length:Int) < 1)) || (decide ((e.Order.length:Int) > 8))) <;> rfl
 rw [hb]
 cases hh:(((decide ((e.Order.length:Int) < 1)) || (decide ((e.Order.length:Int) > 8))) || !((decide (e.First ≥ 0)) && (decide (e.First < 46080))))
 ·obtain ⟨h1,h2,h3,h4⟩:=q779 hh
  have k:=loopM_all (mb:=q345 e) (fun i=>(i:Int) + 1) (p:=fun i=>decide (((i:Int) + 1) ∈ e.Order)) (b0:=.inl ((e.Order.length:Int) + 1)) (b1:=.inr false) e.Order.length (by
   unfold q345
   rw [show decide ((e.Order.length:Int) + 1 ≤ (e.Order.length:Int)) = false by simp; omega]; rfl) (fun k hk=>by
   unfold q345
   simp only [show decide ((k:Int) + 1 ≤ (e.Order.length:Int)) = true by simp; omega,cond_true,q580 e.Order _ (by omega),Option.bind_some,w64_of (n:=(k:Int) + 1 + 1) (by omega) (by omega)]
   cases decide (((k:Int) + 1) ∈ e.Order) <;> rfl)
  simp only [show ((0:Nat):Int) + 1 = 1 from rfl] at k
  simp only [cond_false]
  rw [k]
  have hP:engP e ↔ (List.range' 0 e.Order.length).all (fun i=>decide (((i:Int) + 1) ∈ e.Order)) = true:=by
   rw [all_range']
   simp only [decide_eq_true_eq]
   rw [q841]
   unfold engP
   constructor
   ·rintro ⟨_,_,_,_,h5,h6⟩; exact ⟨h5,h6⟩
   ·rintro ⟨h5,h6⟩; exact ⟨h1,h2,h3,h4,h5,h6⟩
  rw [dec_of hP]
  cases (List.range' 0 e.Order.length).all (fun i=>decide (((i:Int) + 1) ∈ e.Order)) <;> rfl
 ·simp only [cond_true]
  rw [decide_eq_false (q781 hh)]
theorem q819 (e:SEngine):q245 e = some (decide (engP e)):=by
 unfold q245 q351
 have hb:(Option.bind (bif ((decide ((e.Order.length:Int) < 1)) || (decide ((e.Order.length:Int) > 8))) then (some true) else (Option.bind (some ((decide (e.First ≥ 0)) && (decide (e.First < 46080)))) fun v=>some (!v))):(Bool → Option Bool) → Option Bool) = fun k=>k (((decide ((e.Order.length:Int) < 1)) || (decide ((e.Order.length:Int) > 8))) || !((decide (e.First ≥ 0)) && (decide (e.First < 46080)))):=by
  funext k
  cases ((decide ((e.Order.length:Int) < 1)) || (decide ((e.Order.length:Int) > 8))) <;> rfl
 rw [hb]
 cases hh:(((decide ((e.Order.length:Int) < 1)) || (decide ((e.Order.length:Int) > 8))) || !((decide (e.First ≥ 0)) && (decide (e.First < 46080))))
 ·obtain ⟨h1,h2,h3,h4⟩:=q779 hh
  have k:=loopM_all (mb:=q144 e) (fun i=>(i:Int)) (p:=fun i=>decide (1 ≤ e.Order.getD i 0 ∧ e.Order.getD i 0 ≤ (e.Order.length:Int)) && (e.Order.take i).all fun y=>!(y == e.Order.getD i 0)) (b0:=.inl (e.Order.length:Int)) (b1:=.inr false) e.Order.length (by
   unfold q144
   rw [show decide ((e.Order.length:Int) < (e.Order.length:Int)) = false by simp]; rfl) (fun k hk=>by
   have hg:e.Order.getD k 0 = e.Order[k]:=by simp [List.getD,List.getElem?_eq_getElem hk]
   have hlt:(e.Order.take k).length = k:=by rw [List.length_take]; omega
   have k2:=loopM_allL (mb:=q151 e (k:Int) e.Order[k]) (fun i=>(i:Int)) (p:=fun y=>!(y == e.Order[k])) (b0:=.inl (k:Int)) (b1:=.inr false) (e.Order.take k) (by
    rw [hlt]
    unfold q151
    rw [show decide ((k:Int) < (k:Int)) = false by simp]; rfl) (fun j y hy=>by
    have hj:j < k:=by have:=(List.getElem?_eq_some_iff.1 hy).1; omega
    have hy2:e.Order[j]? = some y:=by rw [← hy,List.getElem?_take,if_pos hj]
    unfold q151
    simp only [show decide ((j:Int) < (k:Int)) = true by simp; omega,cond_true,getI_nat,hy2,Option.bind_some,w64_of (n:=(j:Int) + 1) (by omega) (by omega)]
    cases y == e.Order[k] <;> rfl)
   rw [show ((0:Nat):Int) = 0 from rfl] at k2
   unfold q144
   simp only [show decide ((k:Int) < (e.Order.length:Int)) = true by simp; omega,cond_true,getI_get _ _ hk,Option.bind_some,hg,w64_of (n:=(k:Int) + 1) (by omega) (by omega),k2]
   have e1:(Option.bind (bif (decide (e.Order[k] < 1)) then (some true) else (some (decide (e.Order[k] > (e.Order.length:Int))))):(Bool → Option (Int ⊕ (Int ⊕ Bool))) → Option (Int ⊕ (Int ⊕ Bool))) = fun f=>f (!decide (1 ≤ e.Order[k] ∧ e.Order[k] ≤ (e.Order.length:Int))):=by
    funext f
    have:(!decide (1 ≤ e.Order[k] ∧ e.Order[k] ≤ (e.Order.length:Int))) = (decide (e.Order[k] < 1) || decide (e.Order[k] > (e.Order.length:Int))):=by
     rw [Bool.eq_iff_iff]; simp only [Bool.not_eq_true',decide_eq_false_iff_not,Bool.or_eq_true,decide_eq_true_eq]; omega
    rw [this]
    cases decide (e.Order[k] < 1) <;> rfl
   rw [e1]
   cases decide (1 ≤ e.Order[k] ∧ e.Order[k] ≤ (e.Order.length:Int))
   ·rfl
   ·simp only [Bool.not_true,cond_false,Bool.true_and]
    cases (e.Order.take k).all fun y=>!(y == e.Order[k]) <;> rfl)
  simp only [show ((0:Nat):Int) = 0 from rfl] at k
  simp only [cond_false]
  rw [k]
  have hP:engP e ↔ (List.range' 0 e.Order.length).all (fun i=>decide (1 ≤ e.Order.getD i 0 ∧ e.Order.getD i 0 ≤ (e.Order.length:Int)) && (e.Order.take i).all fun y=>!(y == e.Order.getD i 0)) = true:=by
   rw [all_range']
   unfold engP
   rw [q739]
   have hg:∀ k (hk:k < e.Order.length),e.Order.getD k 0 = e.Order[k]:=fun k hk=>by simp [List.getD,List.getElem?_eq_getElem hk]
   constructor
   ·rintro ⟨_,_,_,_,h5,h6⟩ k hk
    rw [hg k hk,Bool.and_eq_true,decide_eq_true_eq,List.all_eq_true]
    refine ⟨h5 _ (List.getElem_mem hk),fun y hy=>?_⟩
    simp only [Bool.not_eq_true',beq_eq_false_iff_ne]
    exact fun h=>h6 k hk (h ▸ hy)
   ·intro h
    refine ⟨h1,h2,h3,h4,fun x hx=>?_,fun k hk hm=>?_⟩
    ·obtain ⟨k,hk,rfl⟩:=List.mem_iff_getElem.1 hx
     have:=h k hk
     rw [hg k hk,Bool.and_eq_true,decide_eq_true_eq] at this
     exact this.1
    ·have:=h k hk
     rw [hg k hk,Bool.and_eq_true,List.all_eq_true] at this
     have:=this.2 _ hm
     simp at this
  rw [dec_of hP]
  cases (List.range' 0 e.Order.length).all (fun i=>decide (1 ≤ e.Order.getD i 0 ∧ e.Order.getD i 0 ≤ (e.Order.length:Int)) && (e.Order.take i).all fun y=>!(y == e.Order.getD i 0)) <;> rfl
 ·simp only [cond_true]
  rw [decide_eq_false (q781 hh)]
end Go.Pv.Ev
set_option linter.unusedSimpArgs false
namespace Go.Pv
open Go
def k0:SKnock:=⟨0,100,0⟩
def zeroC:SControls:=⟨⟨0,0,false⟩,⟨0⟩,[],⟨false,false,0,0,[]⟩,0,⟨0,0⟩⟩
def probe0:SProbe:=⟨false,false,1000,0,List.replicate 9 ⟨0,0⟩⟩
def newC (n:Nat):SControls:=⟨⟨0,0,false⟩,⟨0⟩,List.replicate n k0,probe0,0,⟨0,-1⟩⟩
theorem q837 (n:Nat) (h1:1 ≤ n) (h8:n ≤ 8):q181 [k0] (n:Int) = some (List.replicate n k0):=by
 have key:loopM q371 (1,copyL (List.replicate n ⟨0,0,0⟩) [k0]) = some (.inl ((n:Int),List.replicate n k0)):=by
  have:n = 1 ∨ n = 2 ∨ n = 3 ∨ n = 4 ∨ n = 5 ∨ n = 6 ∨ n = 7 ∨ n = 8:=by omega
  rcases this with rfl | rfl | rfl | rfl | rfl | rfl | rfl | rfl
  ·exact loopM_out (by rfl)
  ·exact (loopM_next (s':=(2,[k0,k0])) (by rfl)).trans (loopM_out (by rfl))
  ·exact (loopM_next (s':=(2,[k0,k0,⟨0,0,0⟩])) (by rfl)).trans ((loopM_next (s':=(3,[k0,k0,k0])) (by rfl)).trans (loopM_out (by rfl)))
  ·exact (loopM_next (s':=(2,[k0,k0,⟨0,0,0⟩,⟨0,0,0⟩])) (by rfl)).trans ((loopM_next (s':=(4,[k0,k0,k0,k0])) (by rfl)).trans (loopM_out (by rfl)))
  ·exact (loopM_next (s':=(2,[k0,k0,⟨0,0,0⟩,⟨0,0,0⟩,⟨0,0,0⟩])) (by rfl)).trans ((loopM_next (s':=(4,[k0,k0,k0,k0,⟨0,0,0⟩])) (by rfl)).trans ((loopM_next (s':=(5,[k0,k0,k0,k0,k0])) (by rfl)).trans (loopM_out (by rfl))))
  ·exact (loopM_next (s':=(2,[k0,k0,⟨0,0,0⟩,⟨0,0,0⟩,⟨0,0,0⟩,⟨0,0,0⟩])) (by rfl)).trans ((loopM_next (s':=(4,[k0,k0,k0,k0,⟨0,0,0⟩,⟨0,0,0⟩])) (by rfl)).trans ((loopM_next (s':=(6,[k0,k0,k0,k0,k0,k0])) (by rfl)).trans (loopM_out (by rfl))))
  ·exact (loopM_next (s':=(2,[k0,k0,⟨0,0,0⟩,⟨0,0,0⟩,⟨0,0,0⟩,⟨0,0,0⟩,⟨0,0,0⟩])) (by rfl)).trans ((loopM_next (s':=(4,[k0,k0,k0,k0,⟨0,0,0⟩,⟨0,0,0⟩,⟨0,0,0⟩])) (by rfl)).trans ((loopM_next (s':=(7,[k0,k0,k0,k0,k0,k0,k0])) (by rfl)).trans (loopM_out (by rfl))))
  ·exact (loopM_next (s':=(2,[k0,k0,⟨0,0,0⟩,⟨0,0,0⟩,⟨0,0,0⟩,⟨0,0,0⟩,⟨0,0,0⟩,⟨0,0,0⟩])) (by rfl)).trans ((loopM_next (s':=(4,[k0,k0,k0,k0,⟨0,0,0⟩,⟨0,0,0⟩,⟨0,0,0⟩,⟨0,0,0⟩])) (by rfl)).trans ((loopM_next (s':=(8,[k0,k0,k0,k0,k0,k0,k0,k0])) (by rfl)).trans (loopM_out (by rfl))))
 have a1:q478 (IntKind.u64.wrap (([k0]:List SKnock).length:Int)) (IntKind.u64.wrap (n:Int)) = some (0,(n:Int)):=by
  have:n = 1 ∨ n = 2 ∨ n = 3 ∨ n = 4 ∨ n = 5 ∨ n = 6 ∨ n = 7 ∨ n = 8:=by omega
  rcases this with rfl | rfl | rfl | rfl | rfl | rfl | rfl | rfl <;> rfl
 have a2:makeM (w64 (n:Int)) (⟨0,0,0⟩:SKnock) = some (List.replicate n ⟨0,0,0⟩):=by
  have:n = 1 ∨ n = 2 ∨ n = 3 ∨ n = 4 ∨ n = 5 ∨ n = 6 ∨ n = 7 ∨ n = 8:=by omega
  rcases this with rfl | rfl | rfl | rfl | rfl | rfl | rfl | rfl <;> rfl
 have a3:(((min ([k0]:List SKnock).length (List.replicate n (⟨0,0,0⟩:SKnock)).length:Nat):Int)) = 1:=by rw [List.length_replicate,List.length_singleton]; omega
 unfold q181
 rw [decide_eq_false (by omega),cond_false,Option.bind_some,a1,Option.bind_some]
 simp only
 rw [decide_eq_false (by omega:¬ (0:Int) > 0),decide_eq_false (by omega),Bool.or_false,cond_false,Option.bind_some,a2,Option.bind_some,a3,key]
 rfl
theorem q832:q581 = some probe0:=rfl
theorem q736 (e:SEngine):q462 e = some (bif decide (Ev.engP e) then (newC e.Order.length,0) else (zeroC,1)):=by
 unfold q462
 rw [Ev.q129,Option.bind_some]
 by_cases h:Ev.engP e
 ·rw [decide_eq_true h,Bool.not_true,cond_false]
  have h1:=h.1
  have h8:=h.2.1
  have:q545 (e.Order.length:Int) = some (List.replicate e.Order.length k0,0):=by
   unfold q545
   rw [decide_eq_false (by omega),decide_eq_false (by omega),Bool.or_false,cond_false,show ([(⟨0,100,0⟩:SKnock)]:List SKnock) = [k0] from rfl,q837 _ h1 h8]
   rfl
  rw [this,q832]
  rfl
 ·rw [decide_eq_false h]; rfl
theorem q700 {n:Nat}:((List.range' 0 n).all fun _=>true) = true:=q192.2 fun _ _=>rfl
theorem q812 (p:SProbe) (h:p.Cells.length ≤ 1000):q277 p p = some true:=by
 unfold q277
 rw [up_idx (fun _=>true) p.Cells.length (by unfold q310; rw [ltNN]; rfl) (fun k hk=>by
  unfold q310
  rw [ltN hk,cond_true,getI_get _ k hk,Option.bind_some,Option.bind_some,q47 k (by omega)]
  simp),q700]
 simp
theorem q787 (c:SControls) (h:c.Probe.Cells.length ≤ 1000) (hk:c.Knock.length ≤ 1000):q172 c c = some true:=by
 unfold q172
 rw [q812 _ h,up_idx (fun _=>true) c.Knock.length (by unfold q313; rw [ltNN]; rfl) (fun k hk=>by
  unfold q313
  rw [ltN hk,cond_true,getI_get _ k hk,Option.bind_some,Option.bind_some,q47 k (by omega)]
  simp),q700]
 simp
def pedB (p:SPedal):Bool:=decide (0 ≤ p.Value ∧ p.Value ≤ 1000 ∧ 0 ≤ p.Differ ∧ p.Differ ≤ 3 ∧ (p.Fault = true ↔ p.Differ = 3) ∧ (p.Fault = true → p.Value ≤ 200))
theorem ped_eq (p:SPedal):q394 p = some (pedB p):=by
 obtain ⟨v,d,f⟩:=p
 unfold q394 pedB
 cases f
 ·simp only [cond_false,Option.bind_some,Option.some.injEq]
  apply q109
  by_cases q:d = 3 <;> simp [q] <;> omega
 ·simp only [cond_true,Option.bind_some,Option.some.injEq]
  apply q109
  by_cases q:d = 3 <;> simp [q] <;> omega
theorem rped_eq (p:SPedal):q238 p = some (pedB p):=by
 obtain ⟨v,d,f⟩:=p
 unfold q238 pedB
 simp only
 cases hb:(((((decide (v < 0)) || (decide (v > 1000))) || (decide (d < 0))) || (decide (d > 3))) || (!(f == (d == 3))))
 ·rw [cond_false,Option.some.injEq]
  apply q109
  cases f <;> by_cases q:d = 3 <;> simp [q] at hb ⊢ <;> omega
 ·rw [cond_true,Option.some.injEq]
  symm
  rw [decide_eq_false_iff_not]
  intro h
  cases f <;> by_cases q:d = 3 <;> simp [q] at hb h <;> omega
def cellB (c:SCell):Bool:=inR (-100) 100 c.Value && inR 0 1000 c.Count
def mixB (p:SProbe):Bool:=inR 750 1250 p.Factor && inR 0 1000 p.Wait && decide (p.Cells.length = 9) && (p.Active || (decide (p.Factor = 1000) && decide (p.Wait = 0) && !p.Rich)) && p.Cells.all cellB
theorem q845 (c:SCell):q120 c = some (!cellB c):=by
 unfold q120 cellB
 rw [show q80 c.Value (-100) 100 = some (inR (-100) 100 c.Value) from rfl,show q80 c.Count 0 1000 = some (inR 0 1000 c.Count) from rfl]
 cases inR (-100) 100 c.Value <;> rfl
theorem mix_eq (p:SProbe):q217 p = some (mixB p):=by
 unfold q217 mixB
 rw [show q80 p.Factor 750 1250 = some (inR 750 1250 p.Factor) from rfl,show q80 p.Wait 0 1000 = some (inR 0 1000 p.Wait) from rfl,Option.bind_some]
 cases inR 750 1250 p.Factor
 ·rfl
 cases inR 0 1000 p.Wait
 ·rfl
 by_cases h9:p.Cells.length = 9
 ·have:((p.Cells.length:Int) != 9) = false:=by simp; omega
  have k:q177 p.Cells q120 = some (p.Cells.any fun c=>!cellB c):=index_any p.Cells (by omega) q120 _ (fun c _=>q845 c)
  rw [this,k,decide_eq_true h9,List.any_eq_not_all_not]
  simp only [Bool.not_true,Bool.not_false,cond_false,cond_true,Option.bind_some,Bool.true_and,Bool.or_false,Bool.not_not]
  cases p.Active
  ·have e:((p.Factor != 1000 || p.Wait != 0) || p.Rich) = !(decide (p.Factor = 1000) && decide (p.Wait = 0) && !p.Rich):=by
    cases p.Rich <;> by_cases a:p.Factor = 1000 <;> by_cases b:p.Wait = 0 <;> simp [a,b]
   simp only [Bool.not_false,cond_true,Option.bind_some,Bool.false_or]
   rw [e]
   cases (decide (p.Factor = 1000) && decide (p.Wait = 0) && !p.Rich) <;> rfl
  ·rfl
 ·have:((p.Cells.length:Int) != 9) = true:=by simp; omega
  rw [this,decide_eq_false h9]
  rfl
theorem q262 (x lo hi:Int):q42 x lo hi = some (inR lo hi x):=rfl
theorem rmix_eq (p:SProbe):q99 p = some (mixB p):=by
 unfold q99 mixB
 rw [q262,q262,Option.bind_some]
 cases inR 750 1250 p.Factor
 ·rfl
 cases inR 0 1000 p.Wait
 ·rfl
 by_cases h9:p.Cells.length = 9
 ·have:((p.Cells.length:Int) != 9) = false:=by simp; omega
  rw [this,decide_eq_true h9,up_all cellB p.Cells (by unfold q296; rw [decide_eq_false (by omega)]; rfl) (fun k hk=>by
   unfold q296 cellB
   rw [decide_eq_true (by omega),cond_true,getI_get _ k hk,Option.bind_some,q262,q262,q47 k (by omega)]
   cases inR (-100) 100 p.Cells[k].Value
   ·rfl
   ·cases inR 0 1000 p.Cells[k].Count <;> rfl)]
  simp only [Bool.not_true,Bool.not_false,cond_false,cond_true,Option.bind_some,Bool.true_and,Bool.or_false,Bool.not_not]
  cases p.Cells.all cellB
  ·rw [Bool.and_false]; rfl
  ·rw [Bool.and_true,cond_true]
   simp only
   cases p.Active
   ·have e:((p.Factor == 1000 && p.Wait == 0) && !p.Rich) = (decide (p.Factor = 1000) && decide (p.Wait = 0) && !p.Rich):=by
     cases p.Rich <;> by_cases a:p.Factor = 1000 <;> by_cases b:p.Wait = 0 <;> simp [a,b]
    rw [cond_false,e]; rfl
   ·rfl
 ·have:((p.Cells.length:Int) != 9) = true:=by simp; omega
  rw [this,decide_eq_false h9]
  rfl
def knB (k:SKnock):Bool:=inR 0 960 k.Retard && inR 0 4095 k.Noise && decide (k.Quiet ≥ 0) && decide (k.Quiet ≤ 99)
theorem kn_eq (k:SKnock):q388 k = some (knB k):=by
 unfold q388 knB
 rw [show q339 k.Noise = some (inR 0 4095 k.Noise) from rfl,show (decide (k.Retard ≥ 0) && decide (k.Retard ≤ 960)) = inR 0 960 k.Retard from rfl]
 have e:decide (k.Quiet < 100) = decide (k.Quiet ≤ 99):=by apply q109; rw [decide_eq_true_eq,decide_eq_true_eq]; omega
 rw [e]
 cases inR 0 960 k.Retard <;> rfl
theorem rkn_eq (k:SKnock):q233 k = some (knB k):=by
 unfold q233 knB
 rw [show q92 k.Noise = some (inR 0 4095 k.Noise) from rfl,show (decide (k.Retard ≥ 0) && decide (k.Retard ≤ 960)) = inR 0 960 k.Retard from rfl]
 cases inR 0 960 k.Retard <;> rfl
def goodB (e:SEngine) (c:SControls):Bool:=decide (Ev.engP e) && pedB c.Pedal && mixB c.Probe && decide (c.Knock.length = e.Order.length) && c.Knock.all knB && inR (-4398046511104) 4398046511104 c.Idle.Sum && inR 0 1073741824 c.Film && inR (-5000) 10000 c.Grant.Torque && inR (-1) 15 c.Grant.Source
theorem good_eq (e:SEngine) (c:SControls):q303 e c = some (goodB e c):=by
 unfold q303 goodB
 rw [Ev.q129,ped_eq,mix_eq]
 simp only [Option.bind_some]
 by_cases h:Ev.engP e
 ·rw [decide_eq_true h]
  cases pedB c.Pedal
  ·rfl
  cases mixB c.Probe
  ·rfl
  by_cases hl:c.Knock.length = e.Order.length
  ·have:((c.Knock.length:Int) != (e.Order.length:Int)) = false:=by simp; omega
   have h8:=h.2.1
   have k:q62 c.Knock q197 = some (c.Knock.any fun k=>!knB k):=index_any c.Knock (by omega) q197 _ (fun k _=>by unfold q197; rw [kn_eq]; rfl)
   rw [this,decide_eq_true hl,k,List.any_eq_not_all_not]
   simp only [Bool.not_true,Bool.not_false,cond_false,cond_true,Option.bind_some,Bool.true_and,Bool.or_false,Bool.not_not]
   rw [show q48 c.Idle.Sum (-4398046511104) 4398046511104 = some (inR (-4398046511104) 4398046511104 c.Idle.Sum) from rfl,show q48 c.Film 0 1073741824 = some (inR 0 1073741824 c.Film) from rfl,
    show q48 c.Grant.Torque (-5000) 10000 = some (inR (-5000) 10000 c.Grant.Torque) from rfl,show q48 c.Grant.Source (-1) 15 = some (inR (-1) 15 c.Grant.Source) from rfl]
   cases c.Knock.all knB
   ·rfl
   cases inR (-4398046511104) 4398046511104 c.Idle.Sum
   ·rfl
   cases inR 0 1073741824 c.Film
   ·rfl
   cases inR (-5000) 10000 c.Grant.Torque <;> rfl
  ·have:((c.Knock.length:Int) != (e.Order.length:Int)) = true:=by simp; omega
   rw [this,decide_eq_false hl]; rfl
 ·rw [decide_eq_false h]; rfl
theorem q791 (e:SEngine) (c:SControls):q267 e c = some (goodB e c):=by
 unfold q267 goodB
 rw [Ev.q819,rped_eq,rmix_eq,show q103 c.Idle = some (inR (-4398046511104) 4398046511104 c.Idle.Sum) from rfl,q395,q395,show q128 c.Grant.Torque = some (inR (-5000) 10000 c.Grant.Torque) from rfl]
 simp only [Option.bind_some]
 by_cases h:Ev.engP e
 ·rw [decide_eq_true h]
  cases pedB c.Pedal
  ·rfl
  cases mixB c.Probe
  ·rfl
  by_cases hl:c.Knock.length = e.Order.length
  ·have:((c.Knock.length:Int) != (e.Order.length:Int)) = false:=by simp; omega
   have h8:=h.2.1
   rw [this,decide_eq_true hl,up_all knB c.Knock (by unfold q320; rw [ltNN]; rfl) (fun k hk=>by
    unfold q320
    rw [ltN hk,cond_true,getI_get _ k hk,Option.bind_some,rkn_eq,Option.bind_some,q47 k (by omega)]
    cases knB c.Knock[k] <;> rfl)]
   cases inR (-4398046511104) 4398046511104 c.Idle.Sum
   ·simp
   cases inR 0 1073741824 c.Film
   ·simp
   cases c.Knock.all knB
   ·rfl
   cases inR (-5000) 10000 c.Grant.Torque <;> rfl
  ·have:((c.Knock.length:Int) != (e.Order.length:Int)) = true:=by simp; omega
   rw [this,decide_eq_false hl]
   cases inR (-4398046511104) 4398046511104 c.Idle.Sum <;> rfl
 ·rw [decide_eq_false h]; simp
def reqB (r:SRequest):Bool:=decide (0 ≤ r.Source ∧ r.Source ≤ 15 ∧ 0 ≤ r.Priority ∧ r.Priority ≤ 15 ∧ -5000 ≤ r.Torque ∧ r.Torque ≤ 10000 ∧ (r.Kind = 1 ∨ (r.Source ≤ 1 ∧ (r.Kind = 2 ∨ r.Kind = 3))))
theorem req_eq (r:SRequest):q166 r = some (reqB r):=by
 obtain ⟨s,k,t,p⟩:=r
 unfold q166 reqB q98
 simp only
 cases hb:((((decide (s < 0)) || (decide (s > 15))) || (decide (p < 0))) || (decide (p > 15)))
 ·rw [cond_false,Option.bind_some,Option.bind_some]
  cases ht:(decide (t ≥ -5000) && decide (t ≤ 10000))
  ·rw [Bool.not_false,cond_true,Option.some.injEq]
   symm; rw [decide_eq_false_iff_not]
   simp at hb ht; omega
  ·rw [Bool.not_true,cond_false]
   simp at hb ht
   by_cases q:k = 1
   ·subst q
    simp; omega
   ·have:(k == 1) = false:=by simp; exact q
    rw [this,cond_false]
    by_cases z:s ≤ 1
    ·rw [decide_eq_true z,cond_true,Option.bind_some,Option.bind_some,Option.some.injEq]
     apply q109
     simp; omega
    ·rw [decide_eq_false z,cond_false,Option.bind_some,Option.bind_some,Option.some.injEq]
     symm; rw [decide_eq_false_iff_not]; omega
 ·rw [cond_true,Option.bind_some,cond_true,Option.some.injEq]
  symm; rw [decide_eq_false_iff_not]
  simp at hb; omega
theorem rreq_eq (r:SRequest):q249 r = some (reqB r):=by
 obtain ⟨s,k,t,p⟩:=r
 unfold q249 reqB q128
 simp only
 cases hb:((((decide (s < 0)) || (decide (s > 15))) || (decide (p < 0))) || (decide (p > 15)))
 ·rw [cond_false,Option.bind_some,Option.bind_some]
  cases ht:(decide (t ≥ -5000) && decide (t ≤ 10000))
  ·rw [Bool.not_false,Bool.true_or,Bool.true_or,cond_true,Option.some.injEq]
   symm; rw [decide_eq_false_iff_not]
   simp at hb ht; omega
  ·rw [Bool.not_true,Bool.false_or]
   cases hk:(decide (k < 1) || decide (k > 3))
   ·rw [cond_false,Option.some.injEq]
    apply q109
    simp at hb ht hk ⊢; omega
   ·rw [cond_true,Option.some.injEq]
    symm; rw [decide_eq_false_iff_not]
    simp at hb ht hk; omega
 ·rw [cond_true,Option.bind_some,Bool.true_or,Bool.true_or,cond_true,Option.some.injEq]
  symm; rw [decide_eq_false_iff_not]
  simp at hb; omega
def askB (i:SInputs) (n:Int):Bool:=inR 1 8 n && decide ((i.Intensity.length:Int) = n) && decide (i.Requests.length ≤ 30) && inR 0 12000 i.Speed && inR 50 3000 i.Pressure && inR (-40) 150 i.AirTemp && inR (-40) 150 i.Coolant && inR 0 20000 i.Voltage && inR 0 20000 i.Lambda && i.Intensity.all (inR 0 4095) && i.Requests.all reqB
theorem ctl_in (x lo hi:Int):q48 x lo hi = some (inR lo hi x):=rfl
theorem ask_eq (i:SInputs) (n:Int):q400 i n = some (askB i n):=by
 unfold q400 askB
 simp only [ctl_in,Option.bind_some]
 cases hn:inR 1 8 n
 ·rfl
 have hn':1 ≤ n ∧ n ≤ 8:=by unfold inR at hn; simp at hn; omega
 by_cases hl:(i.Intensity.length:Int) = n
 ·by_cases hr:i.Requests.length ≤ 30
  ·have k:q56 i.Requests q149 = some (i.Requests.any fun k=>!reqB k):=index_any i.Requests (by omega) q149 _ (fun k _=>by unfold q149; rw [req_eq]; rfl)
   have h1:((i.Intensity.length:Int) != n) = false:=by simp; exact hl
   rw [h1,decide_eq_false (by omega),decide_eq_true hl,decide_eq_true hr,k,q361 _ (by omega),List.any_eq_not_all_not]
   simp only [Bool.not_true,Bool.not_false,cond_false,cond_true,Option.bind_some,Bool.true_and,Bool.or_false,Bool.not_not]
   cases inR 0 12000 i.Speed
   ·rfl
   cases inR 50 3000 i.Pressure
   ·rfl
   cases inR (-40) 150 i.AirTemp
   ·rfl
   cases inR (-40) 150 i.Coolant
   ·rfl
   cases inR 0 20000 i.Voltage
   ·rfl
   cases inR 0 20000 i.Lambda
   ·rfl
   cases i.Intensity.all (inR 0 4095) <;> rfl
  ·rw [decide_eq_true (by omega:(i.Requests.length:Int) > 30),decide_eq_false hr,Bool.or_true,Bool.and_false]; rfl
 ·have h1:((i.Intensity.length:Int) != n) = true:=by simp; exact hl
  rw [h1,decide_eq_false hl]; rfl
theorem rask_eq (i:SInputs) (n:Int):q226 i n = some (askB i n):=by
 unfold q226 askB
 simp only [q395,Option.bind_some]
 cases hn:inR 1 8 n
 ·rfl
 have hn':1 ≤ n ∧ n ≤ 8:=by unfold inR at hn; simp at hn; omega
 by_cases hl:(i.Intensity.length:Int) = n
 ·by_cases hr:i.Requests.length ≤ 30
  ·have h1:((i.Intensity.length:Int) != n) = false:=by simp; exact hl
   rw [h1,decide_eq_false (by omega),decide_eq_true hl,decide_eq_true hr,up_all (inR 0 4095) i.Intensity (by unfold q294; rw [decide_eq_false (by omega)]; rfl) (fun k hk=>by
    unfold q294
    rw [decide_eq_true (by omega),cond_true,getI_get _ k hk,Option.bind_some,show q92 i.Intensity[k] = some (inR 0 4095 i.Intensity[k]) from rfl,Option.bind_some,q47 k (by omega)]
    cases inR 0 4095 i.Intensity[k] <;> rfl),up_all reqB i.Requests (by unfold q293; rw [ltNN]; rfl) (fun k hk=>by
    unfold q293
    rw [ltN hk,cond_true,getI_get _ k hk,Option.bind_some,rreq_eq,Option.bind_some,q47 k (by omega)]
    cases reqB i.Requests[k] <;> rfl)]
   simp only [Bool.not_true,Bool.not_false,cond_false,cond_true,Option.bind_some,Bool.true_and,Bool.or_false,Bool.not_not]
   cases inR 0 12000 i.Speed
   ·rfl
   cases inR 50 3000 i.Pressure
   ·rfl
   cases inR (-40) 150 i.AirTemp
   ·rfl
   cases inR (-40) 150 i.Coolant
   ·rfl
   cases inR 0 20000 i.Voltage
   ·rfl
   cases inR 0 20000 i.Lambda
   ·rfl
   cases i.Intensity.all (inR 0 4095)
   ·rfl
   cases i.Requests.all reqB <;> rfl
  ·rw [decide_eq_true (by omega:(i.Requests.length:Int) > 30),decide_eq_false hr,Bool.or_true,Bool.and_false]
   cases inR 0 12000 i.Speed
   ·rfl
   cases inR 50 3000 i.Pressure
   ·rfl
   cases inR (-40) 150 i.AirTemp
   ·rfl
   cases inR (-40) 150 i.Coolant
   ·rfl
   cases inR 0 20000 i.Voltage
   ·rfl
   cases inR 0 20000 i.Lambda <;> rfl
 ·have h1:((i.Intensity.length:Int) != n) = true:=by simp; exact hl
  rw [h1,decide_eq_false hl]
  cases inR 0 12000 i.Speed
  ·rfl
  cases inR 50 3000 i.Pressure
  ·rfl
  cases inR (-40) 150 i.AirTemp
  ·rfl
  cases inR (-40) 150 i.Coolant
  ·rfl
  cases inR 0 20000 i.Voltage
  ·rfl
  cases inR 0 20000 i.Lambda <;> rfl
end Go.Pv
set_option linter.unusedSimpArgs false
namespace Go.Pv
open Go
structure PedOk (p:SPedal):Prop where
 v:0 ≤ p.Value ∧ p.Value ≤ 1000
 d:0 ≤ p.Differ ∧ p.Differ ≤ 3
 f:p.Fault = true ↔ p.Differ = 3
 l:p.Fault = true → p.Value ≤ 200
theorem pedOk {p:SPedal}:pedB p = true ↔ PedOk p:=by
 unfold pedB
 rw [decide_eq_true_eq]
 exact ⟨fun ⟨a,b,c,d,e,f⟩=>⟨⟨a,b⟩,⟨c,d⟩,e,f⟩,fun ⟨⟨a,b⟩,⟨c,d⟩,e,f⟩=>⟨a,b,c,d,e,f⟩⟩
def pedV (p:SPedal) (a b:Int):SPedal:=
 let f:=min (max a 0) 1000
 let s:=2 * min (max b 0) 500
 let w:=decide (max (f - s) (s - f) > 50)
 let d:=if w then min 3 (p.Differ + 1) else if p.Fault then p.Differ else 0
 if d = 3 then ⟨min (min f s) 200,d,true⟩ else if w then ⟨min (min f s) p.Value,d,false⟩ else ⟨f,d,false⟩
theorem q725 {p:SPedal} (h:pedB p = true) (a b:Int):q490 p a b = some (pedV p a b,0) ∧ pedB (pedV p a b) = true:=by
 have k:=pedOk.1 h
 have k1:=k.v; have k2:=k.d; have k3:=k.f; have k4:=k.l
 constructor
 ·unfold q490 pedV
  rw [ped_eq,h,q86,q86]
  simp only [Option.bind_some,Bool.not_true,cond_false,minI_eq,maxI_eq]
  have f0:0 ≤ min (max a 0) 1000 ∧ min (max a 0) 1000 ≤ 1000:=by omega
  have s0:0 ≤ min (max b 0) 500 ∧ min (max b 0) 500 ≤ 500:=by omega
  generalize min (max a 0) 1000 = f at f0
  generalize min (max b 0) 500 = s at s0
  rw [w64_of (n:=2 * s) (by omega) (by omega),w64_of (n:=f - 2 * s) (by omega) (by omega),w64_of (n:=2 * s - f) (by omega) (by omega),w64_of (n:=p.Differ + 1) (by omega) (by omega)]
  cases hw:decide (max (f - 2 * s) (2 * s - f) > 50)
  ·simp only [cond_false,Bool.false_eq_true,if_false]
   cases hf:p.Fault
   ·simp only [Bool.not_false,cond_true,Option.bind_some,Bool.false_eq_true,if_false]
    rfl
   ·have:=k3.1 hf
    simp only [Bool.not_true,cond_false,Option.bind_some,if_true]
    rw [this]
    rfl
  ·simp only [cond_true,Option.bind_some,if_true]
   by_cases hd:min 3 (p.Differ + 1) = 3
   ·rw [hd]; rfl
   ·rw [if_neg hd,show (min 3 (p.Differ + 1) == 3) = false from beq_eq_false_iff_ne.2 hd]; rfl
 ·rw [pedOk]
  unfold pedV
  simp only
  have f0:0 ≤ min (max a 0) 1000 ∧ min (max a 0) 1000 ≤ 1000:=by omega
  have s0:0 ≤ min (max b 0) 500 ∧ min (max b 0) 500 ≤ 500:=by omega
  generalize min (max a 0) 1000 = f at f0
  generalize min (max b 0) 500 = s at s0
  have hd:∀ w:Bool,0 ≤ (if w = true then min 3 (p.Differ + 1) else if p.Fault = true then p.Differ else 0) ∧ (if w = true then min 3 (p.Differ + 1) else if p.Fault = true then p.Differ else 0) ≤ 3:=by
   intro w; split
   ·omega
   ·split <;> omega
  have hd:=hd (decide (max (f - 2 * s) (2 * s - f) > 50))
  generalize (if decide (max (f - 2 * s) (2 * s - f) > 50) = true then min 3 (p.Differ + 1) else if p.Fault = true then p.Differ else 0) = d at hd
  by_cases h3:d = 3
  ·rw [if_pos h3]; exact ⟨by simp only; omega,hd,⟨fun _=>h3,fun _=>rfl⟩,fun _=>by simp only; omega⟩
  ·rw [if_neg h3]
   split
   ·exact ⟨by simp only; omega,hd,⟨fun h=>(by cases h),fun h=>absurd h h3⟩,fun h=>(by cases h)⟩
   ·exact ⟨by simp only; omega,hd,⟨fun h=>(by cases h),fun h=>absurd h h3⟩,fun h=>(by cases h)⟩
noncomputable def wishV (t:STables) (v s:Int):Int:=min (max (sAt t.Wish s v) (-5000)) 10000
theorem wish_eq {t:STables} (h:mapB t.Wish = true) {v s:Int} (v0:0 ≤ v ∧ v ≤ 1000) (s0:0 ≤ s ∧ s ≤ 12000):q492 t v s = some (wishV t v s,0):=by
 unfold q492
 rw [q129,h,sAt_eq h]
 simp only [Option.bind_some,Bool.not_true,cond_false]
 rw [show (((decide (v < 0)) || (decide (v > 1000))) || (decide (s < 0))) = false by simp only [Bool.or_eq_false_iff,decide_eq_false_iff_not]; omega,show decide (s > 12000) = false from decide_eq_false (by omega),q86,minI_eq,maxI_eq]
 rfl
theorem q729 (t:STables) (v s:Int):-5000 ≤ wishV t v s ∧ wishV t v s ≤ 10000:=by unfold wishV; omega
def tgtV (c:Int):Int:=if c ≤ -20 then 1200 else if c ≥ 70 then 800 else 1200 - 400 * (c + 20) / 90
theorem tgt_eq {c:Int} (h:-40 ≤ c ∧ c ≤ 150):q389 c = some (tgtV c) ∧ 800 ≤ tgtV c ∧ tgtV c ≤ 1200:=by
 unfold q389 tgtV
 by_cases h1:c ≤ -20
 ·rw [decide_eq_true h1,if_pos h1]; exact ⟨rfl,by omega,by omega⟩
 ·by_cases h2:c ≥ 70
  ·rw [decide_eq_false h1,decide_eq_true h2,if_neg h1,if_pos h2]; exact ⟨rfl,by omega,by omega⟩
  ·rw [decide_eq_false h1,decide_eq_false h2,if_neg h1,if_neg h2,w64_of (n:=c + 20) (by omega) (by omega),w64_of (n:=400 * (c + 20)) (by omega) (by omega),Int.tdiv_eq_ediv_of_nonneg (by omega),w64_of (n:=400 * (c + 20) / 90) (by omega) (by omega),w64_of (by omega) (by omega)]
   exact ⟨rfl,by omega,by omega⟩
def actV (v s c:Int):Bool:=inR 0 19 v && (inR 0 12000 s && decide (s < tgtV c + 300))
theorem act_eq {v s c:Int} (h:-40 ≤ c ∧ c ≤ 150):q459 v s c = some (actV v s c):=by
 obtain ⟨h1,h2⟩:=tgt_eq h
 unfold q459 q646 actV
 rw [h1,show (decide (v ≥ 0) && decide (v < 20)) = inR 0 19 v by unfold inR; congr 1; rw [decide_eq_decide]; omega,show q135 s = some (inR 0 12000 s) from rfl]
 simp only [Option.bind_some]
 rw [w64_of (by omega) (by omega)]
 cases inR 0 19 v <;> cases inR 0 12000 s <;> rfl
def sumOk (s:SIntegral):Prop:=-4398046511104 ≤ s.Sum ∧ s.Sum ≤ 4398046511104
theorem ictl_eq {s:SIntegral} {g:SGain} (hg:gainB g = true) (hs:sumOk s) {e:Int} (e0:-1048576 ≤ e ∧ e ≤ 1048576):∃ s' u,q198 s g e = some (s',u,0) ∧ sumOk s':=by
 have hs':=hs
 unfold sumOk at hs'
 unfold q198
 rw [show q60 g = some (gainB g) from rfl,hg]
 simp only [Option.bind_some]
 rw [show ((!true || decide (s.Sum < (-4398046511104))) || decide (s.Sum > 4398046511104)) = false by simp only [Bool.not_true,Bool.false_or,Bool.or_eq_false_iff,decide_eq_false_iff_not]; omega]
 rw [show (decide (e < (-1048576)) || decide (e > 1048576)) = false by simp only [Bool.or_eq_false_iff,decide_eq_false_iff_not]; omega]
 simp only [cond_false]
 generalize bitShr .i64 (w64 ((w64 (g.P * e)) + s.Sum)) 10 = u
 generalize (decide (u ≤ g.High) || decide (e ≤ 0)) = A
 generalize (decide (u ≥ g.Low) || decide (e ≥ 0)) = B
 cases A
 ·exact ⟨s,_,rfl,hs⟩
 ·cases B
  ·exact ⟨s,_,rfl,hs⟩
  ·refine ⟨⟨_⟩,_,rfl,?_⟩
   unfold sumOk
   simp only [minI_eq,maxI_eq]
   omega
theorem q868 {s:SIntegral} {g:SGain} (hg:gainB g = true) (hs:sumOk s) {c v:Int} (c0:-40 ≤ c ∧ c ≤ 150) (v0:0 ≤ v ∧ v ≤ 12000):∃ s' u,q250 s g (tgtV c) v = some (s',u,0) ∧ sumOk s':=by
 obtain ⟨_,t0,t1⟩:=tgt_eq c0
 obtain ⟨s',u,h1,h2⟩:=ictl_eq hg hs (e:=tgtV c - v) (by omega)
 refine ⟨s',u,?_,h2⟩
 unfold q250
 rw [show q60 g = some (gainB g) from rfl,hg,show q135 (tgtV c) = some (inR 0 12000 (tgtV c)) from rfl,show q135 v = some (inR 0 12000 v) from rfl,in_true (show 0 ≤ tgtV c by omega) (by omega),in_true v0.1 v0.2,w64_of (by omega) (by omega)]
 simp only [Option.bind_some,Bool.not_true,cond_false]
 rw [h1]; rfl
structure KnOk (k:SKnock):Prop where
 r:0 ≤ k.Retard ∧ k.Retard ≤ 960
 n:0 ≤ k.Noise ∧ k.Noise ≤ 4095
 q:0 ≤ k.Quiet ∧ k.Quiet ≤ 99
theorem knOk {k:SKnock}:knB k = true ↔ KnOk k:=by
 unfold knB
 simp only [Bool.and_eq_true,inR_iff,decide_eq_true_eq]
 exact ⟨fun ⟨⟨⟨a,b⟩,c⟩,d⟩=>⟨a,b,c,d⟩,fun ⟨a,b,c,d⟩=>⟨⟨⟨a,b⟩,c⟩,d⟩⟩
def kst (k:SKnock) (n:Int):SKnock:=
 if n > 3 * k.Noise + 40 then ⟨min (k.Retard + 96) 960,k.Noise,0⟩
 else if k.Quiet + 1 = 100 then ⟨max (k.Retard - 16) 0,k.Noise + (n - k.Noise) / 8,0⟩ else ⟨k.Retard,k.Noise + (n - k.Noise) / 8,k.Quiet + 1⟩
theorem kst_eq {k:SKnock} {n:Int} (h:knB k = true) (n0:inR 0 4095 n = true):(∃ b,q433 k n = some (kst k n,b)) ∧ knB (kst k n) = true:=by
 have o:=knOk.1 h
 have o1:=o.r; have o2:=o.n; have o3:=o.q
 have n1:=inR_iff.1 n0
 constructor
 ·unfold q433 kst
  rw [w64_of (n:=3 * k.Noise) (by omega) (by omega),w64_of (n:=3 * k.Noise + 40) (by omega) (by omega)]
  by_cases h1:n > 3 * k.Noise + 40
  ·rw [decide_eq_true h1,if_pos h1,w64_of (n:=k.Retard + 96) (by omega) (by omega),minI_eq]
   exact ⟨_,rfl⟩
  ·rw [decide_eq_false h1,if_neg h1,w64_of (n:=k.Quiet + 1) (by omega) (by omega),w64_of (n:=k.Retard - 16) (by omega) (by omega),w64_of (n:=n - k.Noise) (by omega) (by omega),q614 _ _ (by omega) (by omega) (by omega) (by omega),maxI_eq]
   by_cases h2:k.Quiet + 1 = 100
   ·rw [show (k.Quiet + 1 == 100) = true from beq_iff_eq.2 h2,if_pos h2]
    simp only [cond_false,cond_true,Option.bind_some]
    rw [w64_of (by omega) (by omega)]
    exact ⟨_,rfl⟩
   ·rw [show (k.Quiet + 1 == 100) = false from beq_eq_false_iff_ne.2 h2,if_neg h2]
    simp only [cond_false,cond_true,Option.bind_some]
    rw [w64_of (by omega) (by omega)]
    exact ⟨_,rfl⟩
 ·rw [knOk]
  unfold kst
  split
  ·exact ⟨by simp only; omega,by simp only; omega,by simp only; omega⟩
  ·split
   ·exact ⟨by simp only; omega,by simp only; omega,by simp only; omega⟩
   ·exact ⟨by simp only; omega,by simp only; omega,by simp only; omega⟩
def ksV (l:List SKnock) (m:List Int):List SKnock:=List.zipWith kst l m
theorem ks_eq {l:List SKnock} {m:List Int} (h:l.all knB = true) (hm:m.all (inR 0 4095) = true) (hl:1 ≤ l.length ∧ l.length ≤ 8) (he:m.length = l.length) :
  q547 l m = some (ksV l m,0) ∧ (ksV l m).all knB = true ∧ (ksV l m).length = l.length:=by
 rw [List.all_eq_true] at h hm
 have hlen:(ksV l m).length = l.length:=by unfold ksV; rw [List.length_zipWith]; omega
 have hget:∀ j (h1:j < l.length) (h2:j < m.length),(ksV l m)[j]? = some (kst l[j] m[j]):=by
  intro j h1 h2
  unfold ksV
  rw [List.getElem?_zipWith,List.getElem?_eq_getElem h1,List.getElem?_eq_getElem h2]
 have hk:∀ j (h1:j < l.length) (h2:j < m.length),(∃ b,q433 l[j] m[j] = some (kst l[j] m[j],b)) ∧ knB (kst l[j] m[j]) = true:=fun j h1 h2=>kst_eq (h _ (List.getElem_mem h1)) (hm _ (List.getElem_mem h2))
 refine ⟨?_,?_,hlen⟩
 ·have a1:q62 l q328 = some (l.any fun k=>!knB k):=index_any l (by omega) q328 _ (fun k _=>by unfold q328; rw [kn_eq]; rfl)
  have a2:q23 m q383 = some (m.any fun k=>!inR 0 4095 k):=q142 m (by omega) q383 _ (fun k _=>rfl)
  have b1:(l.any fun k=>!knB k) = false:=by rw [List.any_eq_false]; intro x hx; rw [h x hx]; simp
  have b2:(m.any fun k=>!inR 0 4095 k) = false:=by rw [List.any_eq_false]; intro x hx; rw [hm x hx]; simp
  unfold q547
  rw [show (((decide ((l.length:Int) < 1)) || (decide ((l.length:Int) > 8))) || ((m.length:Int) != (l.length:Int))) = false by simp; omega,a1,b1,a2,b2]
  simp only [cond_false,Option.bind_some]
  unfold q334
  rw [appendM_ok _ _ (by simp; omega)]
  simp only [Option.bind_some,List.nil_append]
  obtain ⟨u,e,hu⟩:=rangeN_inv l.length (by omega) (q529 l m) (fun i u=>u.length = l.length ∧ ∀ j,j < i → u[j]? = (ksV l m)[j]?) l ⟨rfl,fun j hj=>by omega⟩ (fun j hj u hu=>by
   obtain ⟨⟨b,hb⟩,_⟩:=hk j hj (by omega)
   unfold q529
   rw [getI_get _ _ hj,getI_get _ _ (show j < m.length by omega)]
   simp only [Option.bind_some]
   rw [hb]
   simp only [Option.bind_some]
   rw [getI_get _ _ (by omega)]
   simp only [Option.bind_some]
   rw [setM_nat _ _ _ (by omega)]
   refine ⟨_,rfl,by simp [hu.1],fun i hi=>?_⟩
   rcases Nat.lt_or_ge i j with h | h
   ·rw [List.getElem?_set_ne (by omega)]; exact hu.2 i h
   ·have:i = j:=by omega
    subst this
    rw [List.getElem?_set_self (by omega),hget i hj (by omega)])
  rw [e]
  have:u = ksV l m:=by
   apply List.ext_getElem?
   intro i
   rcases Nat.lt_or_ge i l.length with h | h
   ·exact hu.2 i h
   ·rw [List.getElem?_eq_none (by omega),List.getElem?_eq_none (by omega)]
  rw [this]
  rfl
 ·rw [List.all_eq_true]
  intro x hx
  obtain ⟨j,hj,rfl⟩:=List.mem_iff_getElem.1 hx
  have h1:j < l.length:=by omega
  have:=hget j h1 (by omega)
  rw [List.getElem?_eq_getElem hj] at this
  rw [Option.some.inj this]
  exact (hk j h1 (by omega)).2
structure MixOk (p:SProbe):Prop where
 f:750 ≤ p.Factor ∧ p.Factor ≤ 1250
 w:0 ≤ p.Wait ∧ p.Wait ≤ 1000
 n:p.Cells.length = 9
 a:p.Active = true ∨ (p.Factor = 1000 ∧ p.Wait = 0 ∧ p.Rich = false)
 c:p.Cells.all cellB = true
theorem mixOk {p:SProbe}:mixB p = true ↔ MixOk p:=by
 unfold mixB
 simp only [Bool.and_eq_true,inR_iff,decide_eq_true_eq,Bool.or_eq_true,Bool.not_eq_true']
 exact ⟨fun ⟨⟨⟨⟨a,b⟩,c⟩,d⟩,e⟩=>⟨a,b,c,d.imp_right (fun h=>⟨h.1.1,h.1.2,h.2⟩),e⟩,fun ⟨a,b,c,d,e⟩=>⟨⟨⟨⟨a,b⟩,c⟩,d.imp_right (fun h=>⟨⟨h.1,h.2.1⟩,h.2.2⟩)⟩,e⟩⟩
def mxR (p:SProbe) (m:Int):Bool:=decide (m > 500) || (decide (m ≥ 400) && p.Rich)
def mxV (p:SProbe) (m:Int):SProbe:=
 bif p.Active then
  (bif mxR p m == p.Rich then ⟨true,mxR p m,min (max (p.Factor + bif mxR p m then -1 else 1) 750) 1250,min 1000 (p.Wait + 1),p.Cells⟩
  else ⟨true,mxR p m,min (max (p.Factor + bif mxR p m then -15 else 15) 750) 1250,0,p.Cells⟩)
 else ⟨decide (m < 300) || decide (m > 600),decide (m > 600),p.Factor,p.Wait,p.Cells⟩
theorem m_in (x lo hi:Int):q80 x lo hi = some (inR lo hi x):=rfl
theorem q786 (s c:Int):q216 s c = some (inR 0 12000 s && inR 0 1048576 c):=by
 unfold q216
 rw [m_in,m_in]
 cases inR 0 12000 s <;> rfl
theorem q662 {p:SProbe} (h:mixB p = true) {m s c:Int} (m0:0 ≤ m ∧ m ≤ 20000) (s0:0 ≤ s ∧ s ≤ 12000) (c0:0 ≤ c ∧ c ≤ 1048576):q427 p m s c = some (mxV p m,0) ∧ mixB (mxV p m) = true:=by
 have k:=mixOk.1 h
 have k1:=k.f; have k2:=k.w; have k3:=k.n
 constructor
 ·unfold q427 q452 q352 mxV
  rw [mix_eq,h,q786,in_true s0.1 s0.2,in_true c0.1 c0.2,m_in,in_true m0.1 m0.2,appendM_ok _ _ (by simp; omega)]
  simp only [Option.bind_some,Bool.not_true,cond_false,Bool.and_self,List.nil_append]
  cases ha:p.Active
  ·rfl
  ·simp only [Bool.not_true,cond_false,cond_true]
   have hr:(bif (decide (m > 500)) then (some true) else (some ((decide (m ≥ 400)) && p.Rich))) = some (mxR p m):=by unfold mxR; cases decide (m > 500) <;> rfl
   rw [hr,w64_of (n:=p.Wait + 1) (by omega) (by omega)]
   simp only [Option.bind_some,minI_eq]
   cases mxR p m == p.Rich
   ·simp only [Bool.not_false,cond_true,cond_false,Option.bind_some]
    cases mxR p m
    ·simp only [cond_false,Option.bind_some,q86,minI_eq,maxI_eq]
     rw [w64_of (by omega) (by omega)]
    ·simp only [cond_true,Option.bind_some,q86,minI_eq,maxI_eq]
     rw [w64_of (n:=0 - 15) (by omega) (by omega),w64_of (by omega) (by omega)]
     rfl
   ·simp only [Bool.not_true,cond_true,cond_false,Option.bind_some]
    cases mxR p m
    ·simp only [cond_false,Option.bind_some,q86,minI_eq,maxI_eq]
     rw [w64_of (by omega) (by omega)]
    ·simp only [cond_true,Option.bind_some,q86,minI_eq,maxI_eq]
     rw [w64_of (n:=0 - 1) (by omega) (by omega),w64_of (by omega) (by omega)]
     rfl
 ·rw [mixOk]
  unfold mxV
  cases ha:p.Active
  ·have a:=k.a
   rw [ha] at a
   obtain ⟨a1,a2,a3⟩:=a.resolve_left (by simp)
   refine ⟨k1,k2,k3,?_,k.c⟩
   by_cases hm:m > 600
   ·exact .inl (by show (decide (m < 300) || decide (m > 600)) = true; rw [decide_eq_true hm,Bool.or_true])
   ·exact .inr ⟨a1,a2,decide_eq_false hm⟩
  ·simp only [cond_true]
   cases mxR p m == p.Rich
   ·exact ⟨by simp only [cond_false]; omega,by simp only [cond_false]; omega,k3,.inl rfl,k.c⟩
   ·exact ⟨by simp only [cond_true]; omega,by simp only [cond_true]; omega,k3,.inl rfl,k.c⟩
def clsV (x a b:Int):Nat:=if x ≥ b then 2 else if x ≥ a then 1 else 0
theorem cls_eq (x a b:Int) (hab:a ≤ b):q325 x [a,b] = some (clsV x a b:Int):=by
 have w1:w64 ((0:Int) + 1) = 1:=by decide
 have w2:w64 ((1:Int) + 1) = 2:=by decide
 unfold q325 clsV
 rw [rangeM_steps _ (by simp)]
 simp only [stepsL,q509]
 by_cases h1:x ≥ a
 ·by_cases h2:x ≥ b
  ·rw [decide_eq_true h1,decide_eq_true h2,if_pos h2]
   simp only [cond_true,Option.bind_some,w1,w2]; rfl
  ·rw [decide_eq_true h1,decide_eq_false h2,if_neg h2,if_pos h1]
   simp only [cond_true,cond_false,Option.bind_some,w1]; rfl
 ·have h2:¬ x ≥ b:=by omega
  rw [decide_eq_false h1,decide_eq_false h2,if_neg h2,if_neg h1]
  simp only [cond_false,Option.bind_some]; rfl
theorem q542 (x a b:Int):clsV x a b ≤ 2:=by unfold clsV; split; omega; split <;> omega
def cellV (s c:Int):Nat:=3 * clsV s 1500 3500 + clsV c 150000 350000
def facV (p:SProbe) (s c:Int):Int:=min (max (p.Factor + (p.Cells.getD (cellV s c) ⟨0,0⟩).Value) 700) 1300
theorem fac_eq {p:SProbe} (h:mixB p = true) {s c:Int} (s0:0 ≤ s ∧ s ≤ 12000) (c0:0 ≤ c ∧ c ≤ 1048576):q364 p s c = some (facV p s c,0):=by
 have k:=mixOk.1 h
 have k1:=k.f; have k3:=k.n
 have q1:=q542 s 1500 3500
 have q2:=q542 c 150000 350000
 have hc:cellV s c < p.Cells.length:=by unfold cellV; omega
 have hcell:=List.all_eq_true.1 k.c _ (List.getElem_mem hc)
 unfold cellB at hcell
 rw [Bool.and_eq_true,inR_iff] at hcell
 have hv:=hcell.1
 unfold q364 q515
 rw [mix_eq,h,q786,in_true s0.1 s0.2,in_true c0.1 c0.2,cls_eq _ _ _ (by omega),cls_eq _ _ _ (by omega)]
 simp only [Option.bind_some,Bool.not_true,cond_false,Bool.and_self]
 rw [w64_of (n:=3 * (clsV s 1500 3500:Int)) (by omega) (by omega),w64_of (by omega) (by omega),show 3 * (clsV s 1500 3500:Int) + (clsV c 150000 350000:Int) = ((cellV s c:Nat):Int) by unfold cellV; omega,getI_get _ _ hc]
 simp only [Option.bind_some]
 unfold facV
 rw [w64_of (by omega) (by omega),q86,minI_eq,maxI_eq,List.getD_eq_getElem?_getD,List.getElem?_eq_getElem hc]
 rfl
theorem q754 (p:SProbe) (s c:Int):700 ≤ facV p s c ∧ facV p s c ≤ 1300:=by unfold facV; omega
theorem f_in (x lo hi:Int):fuel_in x lo hi = some (inR lo hi x):=rfl
theorem q842 {c:Int} (c0:0 ≤ c ∧ c ≤ 1048576):q546 c 1000 = some (c * 10000 / 147000,0):=by
 unfold q546
 rw [f_in,f_in,in_true c0.1 c0.2,show inR 500 2000 1000 = true from rfl]
 simp only [Option.bind_some,Bool.not_true,cond_false]
 rw [w64_of (n:=c * 10000) (by omega) (by omega),w64_of (n:=1000 * 147) (by omega) (by omega),quoE (by omega) (by omega) (by omega)]
 rfl
theorem q777 {b:SBody} (h:bodyB b = true):q475 b = some true:=by
 have k:=bodyOk h
 have k1:=k.fi; have k2:=k.ev
 unfold q475
 rw [f_in,f_in,in_true k1.1 k1.2,in_true (show 0 ≤ b.Evaporate by omega) k2.2]
 rfl
def wallV (b:SBody) (i:Int):Int:=i * b.Film / 1024
def leaveV (b:SBody) (f:Int):Int:=f * b.Evaporate / 1024
theorem q322 {b:SBody} (h:bodyB b = true) {i:Int} (i0:0 ≤ i):0 ≤ wallV b i ∧ wallV b i ≤ i:=by
 have k:=(bodyOk h).fi
 have b1:=prod_le (A:=i) i0 (Int.le_refl i) k.1 k.2
 unfold wallV; omega
theorem q191 {b:SBody} (h:bodyB b = true) {i:Int} (i0:0 ≤ i):0 ≤ leaveV b i ∧ leaveV b i ≤ i:=by
 have k:=(bodyOk h).ev
 have b1:=prod_le (A:=i) i0 (Int.le_refl i) (show 0 ≤ b.Evaporate by omega) k.2
 unfold leaveV; omega
theorem q704 {b:SBody} (h:bodyB b = true) {f i:Int} (f0:0 ≤ f ∧ f ≤ 1073741824) (i0:0 ≤ i ∧ i ≤ 1048576):q413 b f i = some (i - wallV b i + leaveV b f,f + wallV b i - leaveV b f):=by
 have k:=bodyOk h
 have k1:=k.fi; have k2:=k.ev
 have b1:=prod_le i0.1 i0.2 k1.1 k1.2
 have b2:=prod_le f0.1 f0.2 (show 0 ≤ b.Evaporate by omega) k2.2
 have r1:=q322 h i0.1
 have r2:=q191 h f0.1
 have e1:w64 (Int.tdiv (w64 (i * b.Film)) 1024) = wallV b i:=by
  unfold wallV at r1 ⊢
  rw [w64_of (n:=i * b.Film) (by omega) (by omega),Int.tdiv_eq_ediv_of_nonneg b1.1,w64_of (by omega) (by omega)]
 have e2:w64 (Int.tdiv (w64 (f * b.Evaporate)) 1024) = leaveV b f:=by
  unfold leaveV at r2 ⊢
  rw [w64_of (n:=f * b.Evaporate) (by omega) (by omega),Int.tdiv_eq_ediv_of_nonneg b2.1,w64_of (by omega) (by omega)]
 unfold q413
 rw [e1,e2,w64_of (n:=i - wallV b i) (by omega) (by omega),w64_of (n:=f + wallV b i) (by omega) (by omega),w64_of (by omega) (by omega),w64_of (by omega) (by omega)]
theorem q876 {b:SBody} (h:bodyB b = true) {f:Int} (f0:0 ≤ f ∧ f ≤ 1073741824):q468 b f 0 = some (leaveV b f,f - leaveV b f,0):=by
 have r2:=q191 h f0.1
 have e0:wallV b 0 = 0:=by unfold wallV; rw [Int.zero_mul]; rfl
 unfold q468
 rw [q777 h,f_in,f_in,in_true f0.1 f0.2,show inR 0 1048576 0 = true from rfl,q704 h f0 ⟨by omega,by omega⟩,e0]
 simp only [Option.bind_some,Bool.not_true,cond_false]
 rw [decide_eq_false (show ¬ (f + 0 - leaveV b f > 1073741824) by omega),show (0:Int) - 0 + leaveV b f = leaveV b f by omega,show f + 0 - leaveV b f = f - leaveV b f by omega]
 rfl
theorem find_b1 (f:Int → Option Int):q514 f = q104 (fun x=>Option.bind (f x) fun v=>some (!decide (v > 0))):=by
 funext s
 unfold q514 q104
 cases decide (s.1 < s.2)
 ·rfl
 ·simp only [cond_true]
  cases f (w64 (bitShr .u64 (IntKind.u64.wrap (w64 (s.1 + s.2))) 1)) with
  | none=>rfl
  | some v=>simp only [Option.bind_some,Bool.not_not]
theorem q824 (n:Nat) (hn:n ≤ 2305843009213693951) (f:Int → Option Int) (g:Nat → Int) (hf:∀ i,i < n → f (i:Int) = some (g i)) :
  ∃ (k:Nat) (b:Bool),k ≤ n ∧ q471 (n:Int) f = some ((k:Int),b) ∧ (0 < k → g (k - 1) > 0) ∧ (k < n → g k ≤ 0):=by
 obtain ⟨k,k1,k2,k3,k4⟩:=q264 n hn (fun x=>Option.bind (f x) fun v=>some (!decide (v > 0))) (fun i=>!decide (g i > 0)) (fun i hi=>by simp only [hf i hi,Option.bind_some])
 unfold q66 at k2
 have h3:0 < k → g (k - 1) > 0:=fun h=>by have:=k3 h; simp at this; omega
 have h4:k < n → g k ≤ 0:=fun h=>by have:=k4 h; simp at this; omega
 unfold q471
 rw [find_b1]
 cases hl:loopM (q104 (fun x=>Option.bind (f x) fun v=>some (!decide (v > 0)))) (0,(n:Int)) with
 | none=>rw [hl] at k2; cases k2
 | some t=>
  rw [hl] at k2
  cases t with
  | inr r=>exact r.elim
  | inl s2=>
   simp only [Option.bind_some,Option.some.injEq] at k2
   simp only [Option.bind_some]
   rw [k2]
   rcases Nat.lt_or_ge k n with h | h
   ·rw [decide_eq_true (show (k:Int) < (n:Int) by omega),hf k h]
    exact ⟨k,_,k1,rfl,h3,h4⟩
   ·rw [decide_eq_false (show ¬ (k:Int) < (n:Int) by omega)]
    exact ⟨k,_,k1,rfl,h3,h4⟩
structure WantOk (b:SBody) (f m i x e:Int):Prop where
 out:e = 0 ∨ e = 9
 inj:e = 0 → 0 ≤ i ∧ i ≤ 1048576
 film:e = 0 → x = f + wallV b i - leaveV b f
 ran:e = 0 → 0 ≤ x ∧ x ≤ 1073741824
 fit:e = 0 → m ≤ i - wallV b i + leaveV b f
 low:e = 0 → 0 < i → (i - 1) - wallV b (i - 1) + leaveV b f < m
 big:e = 9 → 1048576 - wallV b 1048576 + leaveV b f < m ∨ ∃ j,0 ≤ j ∧ j ≤ 1048576 ∧ m ≤ j - wallV b j + leaveV b f ∧ (0 < j → (j - 1) - wallV b (j - 1) + leaveV b f < m) ∧ 1073741824 < f + wallV b j - leaveV b f
theorem q860 {b:SBody} (h:bodyB b = true) {f m:Int} (f0:0 ≤ f ∧ f ≤ 1073741824) (m0:0 ≤ m ∧ m ≤ 1048576):∃ i x e,q414 b f m = some (i,x,e) ∧ WantOk b f m i x e:=by
 have r2:=q191 h f0.1
 have r1:∀ i:Int,0 ≤ i → 0 ≤ wallV b i ∧ wallV b i ≤ i:=fun i hi=>q322 h hi
 unfold q414
 rw [q777 h,f_in,f_in,in_true f0.1 f0.2,in_true m0.1 m0.2]
 simp only [Option.bind_some,Bool.not_true,cond_false]
 obtain ⟨k,q,k1,k2,k3,k4⟩:=q824 1048577 (by omega) (fun x0=>q327 x0 b f m) (fun i=>m - ((i:Int) - wallV b (i:Int) + leaveV b f)) (fun i hi=>by
  have:=r1 (i:Int) (by omega)
  unfold q327
  rw [q704 h f0 ⟨by omega,by omega⟩]
  simp only [Option.bind_some]
  rw [w64_of (by omega) (by omega)])
 have k2':q471 1048577 (fun x0=>q327 x0 b f m) = some ((k:Int),q):=k2
 rw [k2']
 simp only [Option.bind_some]
 by_cases hk:k = 1048577
 ·subst hk
  refine ⟨0,0,9,rfl,.inr rfl,fun h=>(by cases h),fun h=>(by cases h),fun h=>(by cases h),fun h=>(by cases h),fun h=>(by cases h),fun _=>.inl ?_⟩
  have:=k3 (by omega)
  rw [show (((1048577 - 1:Nat):Int)) = 1048576 by omega] at this
  omega
 ·have k4':=k4 (by omega)
  have rk:=r1 (k:Int) (by omega)
  rw [decide_eq_false (show ¬ ((k:Int) > 1048576) by omega),q704 h f0 ⟨by omega,by omega⟩]
  simp only [cond_false,Option.bind_some]
  have hlow:0 < (k:Int) → ((k:Int) - 1) - wallV b ((k:Int) - 1) + leaveV b f < m:=fun hp=>by
   have:=k3 (by omega)
   rw [show ((k - 1:Nat):Int) = (k:Int) - 1 by omega] at this
   omega
  by_cases hb:f + wallV b (k:Int) - leaveV b f > 1073741824
  ·rw [decide_eq_true hb]
   exact ⟨0,0,9,rfl,.inr rfl,fun h=>(by cases h),fun h=>(by cases h),fun h=>(by cases h),fun h=>(by cases h),fun h=>(by cases h),fun _=>.inr ⟨(k:Int),by omega,by omega,by omega,hlow,by omega⟩⟩
  ·rw [decide_eq_false hb]
   exact ⟨(k:Int),_,0,rfl,.inl rfl,fun _=>⟨by omega,by omega⟩,fun _=>rfl,fun _=>⟨by omega,by omega⟩,fun _=>by omega,fun _=>hlow,fun h=>(by cases h)⟩
theorem dead_eq {t:STables} (h:(curB t.Dead && t.Dead.Y.all (inR 0 10000)) = true) {a v:Int} (a0:0 ≤ a ∧ a ≤ 1048576) (v0:0 ≤ v ∧ v ≤ 20000):q544 t a v = some (cAt t.Dead v,0) ∧ 0 ≤ cAt t.Dead v ∧ cAt t.Dead v ≤ 10000:=by
 rw [Bool.and_eq_true] at h
 obtain ⟨h1,h2⟩:=h
 have hl:=(curOk h1).yl
 have hx:=(curOk h1).x.most
 have hb:=q428 h1 v (y_in h1 h2)
 refine ⟨?_,hb⟩
 have e:q23 t.Dead.Y q466 = some (t.Dead.Y.any fun y=>!inR 0 10000 y):=q142 _ (by omega) _ _ (fun y _=>rfl)
 have e2:(t.Dead.Y.any fun y=>!inR 0 10000 y) = false:=by
  rw [List.any_eq_false]
  intro y hy
  rw [List.all_eq_true.1 h2 y hy]; simp
 unfold q544
 rw [q100,h1,e,e2,f_in,f_in,in_true a0.1 a0.2,in_true v0.1 v0.2,cAt_eq h1]
 rfl
def upV3 (m:Int):Int:=-((-m) / 3)
theorem q880 {t:STables} (h:(curB t.Dead && t.Dead.Y.all (inR 0 10000)) = true) {a v:Int} (a0:0 < a ∧ a ≤ 1048576) (v0:0 ≤ v ∧ v ≤ 20000):q467 t a v = some (cAt t.Dead v + upV3 a,0):=by
 obtain ⟨h1,h2⟩:=dead_eq h (a:=a) (by omega) v0
 unfold q467 q355 upV3
 rw [h1,q661 _ _ 2 (by omega) (by omega) (by omega) (by omega) (.inr rfl)]
 simp only [Option.bind_some]
 rw [show (((0:Int) != 0) || (a == 0)) = false by rw [Bool.or_eq_false_iff]; exact ⟨rfl,beq_eq_false_iff_ne.2 (by omega)⟩]
 simp only [cond_false]
 rw [if_neg (by decide),w64_of (by omega) (by omega)]
theorem q458 (x lo hi:Int):q115 x lo hi = some (inR lo hi x):=rfl
theorem q642 (l:List Int) (h:l.length ≤ 9223372036854775807) (lo hi:Int):q218 l lo hi = some (!l.all (inR lo hi)):=by
 unfold q218
 rw [q142 l h (fun x0=>q340 x0 lo hi) (fun x=>!inR lo hi x) (fun y _=>rfl),Option.bind_some,List.any_eq_not_all_not]
 simp only [Bool.not_not]
theorem q783 {t:STables} (h:sparkB t = true) (ht:torB t = true):q396 t = some true:=by
 have hc:=q620 ht
 unfold sparkB at h
 unfold torB at ht
 simp only [Bool.and_eq_true] at h ht
 obtain ⟨⟨⟨h1,h2⟩,h3⟩,h4⟩:=h
 obtain ⟨⟨⟨⟨_,_⟩,t3⟩,t4⟩,_⟩:=ht
 have hm:=mapOk h1
 have zl:=hm.zl
 have xm:=hm.x.most
 have ym:=hm.y.most
 have a1:=(curOk h2).x.most
 have a2:=(curOk h2).yl
 have b0:=curOk hc
 have b1:=b0.x.most
 have b2:=b0.yl
 have hf:q461 t.Efficiency.Y = some true:=by
  have e:q57 t.Efficiency.Y q399 = some (descB t.Efficiency.Y):=q749 t.Efficiency.Y (by omega) (fun i hi=>b0.el i (by omega))
  unfold q461
  rw [e,t4]; rfl
 have hz:q41 t.Spark.Z q323 = some (t.Spark.Z.any fun r=>!r.all (inR (-1280) 3840)):=index_any _ (by omega) _ _ (fun r hr=>by
  obtain ⟨k,hk,rfl⟩:=List.mem_iff_getElem.1 hr
  have rl:=hm.rl k hk
  unfold q323
  rw [q642 _ (by omega)]; rfl)
 have hz2:(t.Spark.Z.any fun r=>!r.all (inR (-1280) 3840)) = false:=by
  rw [List.any_eq_false]
  intro r hr
  rw [List.all_eq_true.1 h3 r hr]; simp
 unfold q396
 rw [q129,h1,q100,h2,q100,hc,hf,hz,hz2,q642 _ (by omega),q642 _ (by omega),h4,t3]
 rfl
noncomputable def dwellV (t:STables) (v k:Int):Int:=min (cAt t.Dwell v) (3 * k / 4)
theorem q866 {t:STables} (h:sparkB t = true) (ht:torB t = true) {v k:Int} (v0:0 ≤ v ∧ v ≤ 20000) (k0:4000 ≤ k ∧ k ≤ 1000000):q464 t v k = some (dwellV t v k,0) ∧ 500 ≤ dwellV t v k ∧ dwellV t v k ≤ 10000:=by
 have hh:=h
 unfold sparkB at hh
 simp only [Bool.and_eq_true] at hh
 have hb:=q428 hh.1.1.2 v (y_in hh.1.1.2 hh.2)
 unfold q464 dwellV
 rw [q783 h ht,q458,q458,in_true v0.1 v0.2,in_true k0.1 k0.2,cAt_eq hh.1.1.2]
 simp only [Option.bind_some,Bool.not_true,cond_false]
 rw [w64_of (n:=3 * k) (by omega) (by omega),Int.tdiv_eq_ediv_of_nonneg (by omega),w64_of (by omega) (by omega),minI_eq]
 exact ⟨rfl,by omega,by omega⟩
noncomputable def angV (t:STables) (s c q r:Int):Int:=
 min (max (sAt t.Spark s c + (if q < 20 then 2 * (20 - q) else if q > 100 then -(8 * (q - 100)) else 0) - r) (-1280)) 3840
theorem q846 {t:STables} (h:sparkB t = true) (ht:torB t = true) {s c q r:Int} (s0:0 ≤ s ∧ s ≤ 12000) (c0:0 ≤ c ∧ c ≤ 1048576) (q0:-40 ≤ q ∧ q ≤ 150) (r0:0 ≤ r ∧ r ≤ 1280):q463 t s c q r = some (angV t s c q r,0):=by
 have hh:=h
 unfold sparkB at hh
 simp only [Bool.and_eq_true] at hh
 have hb:=q365 hh.1.1.1 s c (z_in hh.1.1.1 (fun r hr=>List.all_eq_true.1 hh.1.2 r hr))
 have e:q503 t s c = some (sAt t.Spark s c,0):=by
  unfold q503
  rw [q783 h ht,q458,q458,in_true s0.1 s0.2,in_true c0.1 c0.2,sAt_eq hh.1.1.1]
  rfl
 unfold q463 angV
 rw [e]
 simp only [Option.bind_some]
 rw [show (((0:Int) != 0)) = false from rfl,q458,q458,in_true q0.1 q0.2,in_true r0.1 r0.2]
 simp only [cond_false,Option.bind_some,Bool.not_true]
 generalize sAt t.Spark s c = z at hb
 by_cases h1:q < 20
 ·rw [decide_eq_true h1,if_pos h1]
  simp only [cond_true]
  rw [w64_of (n:=20 - q) (by omega) (by omega),w64_of (n:=2 * (20 - q)) (by omega) (by omega),w64_of (n:=z + 2 * (20 - q)) (by omega) (by omega),w64_of (by omega) (by omega),q86,minI_eq,maxI_eq]
  rfl
 ·rw [decide_eq_false h1,if_neg h1]
  simp only [cond_false]
  by_cases h2:q > 100
  ·rw [decide_eq_true h2,if_pos h2]
   simp only [cond_true]
   rw [w64_of (n:=q - 100) (by omega) (by omega),w64_of (n:=8 * (q - 100)) (by omega) (by omega),w64_of (n:=z - 8 * (q - 100)) (by omega) (by omega),w64_of (by omega) (by omega),q86,minI_eq,maxI_eq]
   rfl
  ·rw [decide_eq_false h2,if_neg h2]
   simp only [cond_false]
   rw [w64_of (by omega) (by omega),q86,minI_eq,maxI_eq,Int.add_zero]
   rfl
theorem q752 (t:STables) (s c q r:Int):-1280 ≤ angV t s c q r ∧ angV t s c q r ≤ 3840:=by unfold angV; omega
end Go.Pv
set_option linter.unusedSimpArgs false
namespace Go.Pv.Ar
open Go Go.Pv
theorem bsome {α:Type} (c:Bool) (x y:α):(bif c then some x else some y) = some (bif c then x else y):=by cases c <;> rfl
def reqP (r:SRequest):Prop:=(0 ≤ r.Source ∧ r.Source ≤ 15) ∧ (0 ≤ r.Priority ∧ r.Priority ≤ 15) ∧ (-5000 ≤ r.Torque ∧ r.Torque ≤ 10000) ∧ (r.Kind = 1 ∨ (r.Source ≤ 1 ∧ (r.Kind = 2 ∨ r.Kind = 3)))
instance (r:SRequest):Decidable (reqP r):=by unfold reqP; infer_instance
theorem q129 (r:SRequest):q166 r = some (decide (reqP r)):=by
 unfold q166 q98
 simp only [Option.bind_some,bsome]
 rw [Option.some.injEq,Bool.eq_iff_iff,decide_eq_true_eq]
 unfold reqP
 simp only [Bool.cond_true_left,Bool.cond_false_left,Bool.cond_true_right,Bool.cond_false_right,Bool.or_eq_true,Bool.and_eq_true,Bool.not_eq_true',Bool.or_eq_false_iff,Bool.and_eq_false_iff,Bool.not_eq_false',decide_eq_true_eq,decide_eq_false_iff_not,bne_iff_ne,bne_eq_false_iff_eq,beq_iff_eq,beq_eq_false_iff_ne,ne_eq,ge_iff_le]
 omega
def torB (t:Int):Bool:=decide (t ≥ -5000) && decide (t ≤ 10000)
def rngB (low high:Int):Bool:=(!torB low || !torB high) || decide (low > high)
def badR (l:List SRequest):Bool:=l.any fun r=>!decide (reqP r)
def chk (l:List SRequest) (low high:Int):Int:=bif badR l then 1 else bif decide ((l.length:Int) > 32) then 5 else bif rngB low high then 2 else 0
theorem tail_eq (low high:Int):(Option.bind (some (torB low)) fun v2=>Option.bind (bif (!v2) then (some true) else (Option.bind (some (torB high)) fun v3=>some (!v3))) fun b2=>bif (b2 || (decide (low > high))) then (some (2:Int)) else (some 0)) = some (bif rngB low high then 2 else 0):=by
 unfold rngB
 cases torB low <;> cases torB high <;> cases decide (low > high) <;> rfl
theorem q863 (l:List SRequest) (low high:Int) (hl:l.length ≤ 1000):q402 l low high = some (chk l low high):=by
 unfold q402 chk
 have k:=index_any l (by omega) q164 (fun r=>!decide (reqP r)) (fun y _=>by unfold q164; rw [q129]; rfl)
 have k':q56 l q164 = some (badR l):=k
 rw [k']
 simp only [Option.bind_some]
 cases badR l
 ·simp only [cond_false]
  cases decide ((l.length:Int) > 32)
  ·simp only [cond_false]
   exact tail_eq low high
  ·rfl
 ·rfl
structure Fine (l:List SRequest) (low high:Int):Prop where
 req:∀ r ∈ l,reqP r
 len:l.length ≤ 32
 lo:-5000 ≤ low
 hi:high ≤ 10000
 ord:low ≤ high
theorem q874 {l:List SRequest} {low high:Int}:chk l low high = 0 ↔ Fine l low high:=by
 have hb:badR l = false ↔ ∀ r ∈ l,reqP r:=by
  unfold badR
  rw [List.any_eq_false]
  constructor
  ·intro h r hr; simpa using h r hr
  ·intro h r hr; simpa using h r hr
 have hr:rngB low high = false ↔ (-5000 ≤ low ∧ low ≤ 10000 ∧ -5000 ≤ high ∧ high ≤ 10000 ∧ low ≤ high):=by
  unfold rngB torB
  simp only [Bool.or_eq_false_iff,Bool.not_eq_false',Bool.and_eq_true,decide_eq_true_eq,decide_eq_false_iff_not]
  omega
 unfold chk
 constructor
 ·intro h
  cases h1:badR l <;> rw [h1] at h
  ·cases h2:decide ((l.length:Int) > 32) <;> rw [h2] at h
   ·cases h3:rngB low high <;> rw [h3] at h
    ·have h4:=hr.1 h3
     have h5:¬ ((l.length:Int) > 32):=of_decide_eq_false h2
     exact ⟨hb.1 h1,by omega,by omega,by omega,by omega⟩
    ·cases h
   ·cases h
  ·cases h
 ·intro h
  rw [hb.2 h.req,hr.2 (by have:=h.lo; have:=h.hi; have:=h.ord; omega),decide_eq_false (show ¬ ((l.length:Int) > 32) by have:=h.len; omega)]
  rfl
def ins (s:Sarbiter_span) (r:SRequest):Int:=maxI s.low (minI s.high r.Torque)
def nlo (s:Sarbiter_span) (r:SRequest):Int:=if r.Kind = 1 then s.low else ins s r
def nhi (s:Sarbiter_span) (r:SRequest):Int:=if r.Kind = 2 then s.high else ins s r
def stp (s:Sarbiter_span) (r:SRequest):Sarbiter_span:=⟨nlo s r,nhi s r,if nlo s r = s.low then s.source else r.Source⟩
def chg (s:Sarbiter_span) (r:SRequest):Bool:=!(decide (nlo s r = s.low) && decide (nhi s r = s.high))
theorem q814 {s:Sarbiter_span} {r:SRequest} (h:s.low ≤ s.high):s.low ≤ ins s r ∧ ins s r ≤ s.high:=by
 unfold ins maxI minI; split <;> split <;> omega
theorem q753 {s:Sarbiter_span} {r:SRequest} (h:s.low ≤ s.high):s.low ≤ (stp s r).low ∧ (stp s r).low ≤ (stp s r).high ∧ (stp s r).high ≤ s.high:=by
 have:=q814 (r:=r) h
 unfold stp nlo nhi
 simp only
 split <;> split <;> omega
theorem q688 (s:Sarbiter_span) (r:SRequest) (lo hi:Int):(Option.bind (bif (lo != s.low) then (some r.Source) else (some s.source)) fun (f3:Int)=>bif (lo != s.low) then (some (true,(⟨lo,hi,f3⟩:Sarbiter_span))) else (some ((hi != s.high),(⟨lo,hi,f3⟩:Sarbiter_span)))) = some (!(decide (lo = s.low) && decide (hi = s.high)),⟨lo,hi,if lo = s.low then s.source else r.Source⟩):=by
 by_cases h1:lo = s.low
 ·rw [show (lo != s.low) = false by simpa using h1,decide_eq_true h1,if_pos h1]; rfl
 ·rw [show (lo != s.low) = true by simpa using h1,decide_eq_false h1,if_neg h1]; rfl
theorem q823 (s:Sarbiter_span) (r:SRequest) (h:s.low ≤ s.high) (hk:r.Kind = 1 ∨ r.Kind = 2 ∨ r.Kind = 3):q211 s r = some (chg s r,stp s r):=by
 have e1:maxI s.low (minI s.high r.Torque) = ins s r:=rfl
 have e2:minI s.high (maxI s.low r.Torque) = ins s r:=by
  unfold ins maxI minI; repeat' split
  all_goals omega
 have e3:minI (maxI r.Torque s.low) s.high = ins s r:=by
  unfold ins maxI minI; repeat' split
  all_goals omega
 unfold q211 q332 q319 q317 q38
 simp only [Option.bind_some]
 rw [e1,e2,e3]
 unfold stp chg nlo nhi
 rcases hk with hk | hk | hk
 ·rw [hk]
  exact q688 s r s.low (ins s r)
 ·rw [hk]
  exact q688 s r (ins s r) s.high
 ·rw [hk]
  exact q688 s r (ins s r) (ins s r)
def lev (l:List SRequest) (j:Nat):List SRequest:=l.filter fun r=>r.Priority == 15 - (j:Int)
def ordK (l:List SRequest) (k:Nat):List SRequest:=(List.range k).flatMap (lev l)
abbrev ordL (l:List SRequest):List SRequest:=ordK l 16
theorem q656 (l:List SRequest) (k:Nat):ordK l (k + 1) = ordK l k ++ lev l k:=by
 unfold ordK; rw [List.range_succ,List.flatMap_append,List.flatMap_singleton]
def DR (r:SRequest):Prop:=0 ≤ r.Priority ∧ r.Priority ≤ 15
theorem lt_dec {x y:SRequest} (hx:DR x) (hy:DR y):ltM q45 x y = decide (y.Priority < x.Priority):=by
 unfold DR at hx hy
 unfold ltM q45
 rw [Option.getD_some,w64_of (by omega) (by omega),decide_eq_decide]
 omega
theorem sw_dec:SW DR q45 where
 ans:=fun x y _ _=>⟨_,rfl⟩
 asym:=fun x y hx hy=>by rw [lt_dec hx hy,lt_dec hy hx,decide_eq_true_eq,decide_eq_false_iff_not]; omega
 ntrans:=fun x y z hx hy hz=>by rw [lt_dec hx hy,lt_dec hy hz,lt_dec hx hz]; simp only [decide_eq_false_iff_not]; omega
theorem eqv_dec {x y:SRequest} (hx:DR x) (hy:DR y):eqv q45 x y = (y.Priority == x.Priority):=by
 unfold eqv
 rw [lt_dec hx hy,lt_dec hy hx,Bool.eq_iff_iff]
 simp only [Bool.and_eq_true,Bool.not_eq_true',decide_eq_false_iff_not,beq_iff_eq]
 omega
theorem q790 {l:List SRequest} {k:Nat} {r:SRequest}:r ∈ ordK l k ↔ r ∈ l ∧ ∃ j,j < k ∧ r.Priority = 15 - (j:Int):=by
 unfold ordK lev
 rw [List.mem_flatMap]
 constructor
 ·rintro ⟨j,hj,h⟩
  rw [List.mem_filter] at h
  exact ⟨h.1,j,List.mem_range.1 hj,by simpa using h.2⟩
 ·rintro ⟨h,j,hj,hp⟩
  exact ⟨j,List.mem_range.2 hj,List.mem_filter.2 ⟨h,by simpa using hp⟩⟩
theorem q697 {l:List SRequest} (h:AllD DR l) {r:SRequest}:r ∈ ordL l ↔ r ∈ l:=by
 rw [q790]
 constructor
 ·exact fun h=>h.1
 ·intro hr
  have:=h r hr
  unfold DR at this
  exact ⟨hr,(15 - r.Priority).toNat,by omega,by omega⟩
theorem q776 {l:List SRequest} (h:AllD DR l):∀ k,Srt q45 (ordK l k)
 | 0=>.nil
 | k + 1=>by
  rw [q656]
  refine Srt.app (q776 h k) ?_ fun a ha b hb=>?_
  ·unfold lev
   rw [Srt,List.pairwise_iff_getElem]
   intro i j hi hj _
   have m1:=List.mem_filter.1 (List.getElem_mem hi)
   have m2:=List.mem_filter.1 (List.getElem_mem hj)
   have p1:=m1.2
   simp only [beq_iff_eq] at p1
   have p2:=m2.2
   simp only [beq_iff_eq] at p2
   rw [lt_dec (h _ m2.1) (h _ m1.1),decide_eq_false_iff_not]
   omega
  ·obtain ⟨ha1,j,hj,hp⟩:=q790.1 ha
   have m2:=List.mem_filter.1 hb
   have p2:=m2.2
   simp only [beq_iff_eq] at p2
   rw [lt_dec (h _ m2.1) (h _ ha1),decide_eq_false_iff_not]
   omega
theorem q683 (l:List SRequest) (p:Int):∀ k,(ordK l k).filter (fun r=>r.Priority == p) = if 15 - (k:Int) < p ∧ p ≤ 15 then l.filter (fun r=>r.Priority == p) else []
 | 0=>by
  rw [if_neg (by omega)]
  rfl
 | k + 1=>by
  rw [q656,List.filter_append,q683 l p k]
  unfold lev
  rw [List.filter_filter]
  by_cases hp:p = 15 - (k:Int)
  ·rw [if_neg (by omega),if_pos (by omega),List.nil_append]
   congr 1
   funext r
   rw [← hp]
   cases r.Priority == p <;> rfl
  ·have:(l.filter fun a=>(a.Priority == p) && (a.Priority == 15 - (k:Int))) = []:=by
    rw [List.filter_eq_nil_iff]
    intro r _ h
    simp only [Bool.and_eq_true,beq_iff_eq] at h
    omega
   rw [this,List.append_nil]
   by_cases h2:15 - (k:Int) < p ∧ p ≤ 15
   ·rw [if_pos h2,if_pos (by omega)]
   ·rw [if_neg h2,if_neg (by omega)]
theorem q619 {l r:List SRequest} (h:AllD DR l) (hs:Srt q45 r) (ht:Sta DR q45 l r):r = ordL l:=by
 refine srt_uniq sw_dec (ht.all h) (fun x hx=>h x ((q697 h).1 hx)) hs (q776 h 16) fun x hx=>?_
 rw [ht.same x hx]
 have e:∀ m:List SRequest,AllD DR m → m.filter (eqv q45 x) = m.filter (fun r=>r.Priority == x.Priority):=fun m hm=>List.filter_congr fun y hy=>eqv_dec hx (hm y hy)
 rw [e l h,e (ordL l) (fun y hy=>h y ((q697 h).1 hy)),q683]
 unfold DR at hx
 rw [if_pos (by omega)]
theorem sm_same:q61 = g_symMergeCmpFunc_s:=by kernel_rfl
theorem q690:∀ fu,q25 fu = g_symMergeCmpFunc fu
 | 0=>rfl
 | fu + 1=>by
  show q61 (q25 fu) = g_symMergeCmpFunc_s (g_symMergeCmpFunc fu)
  rw [q690 fu,sm_same]
theorem q865 (n:Int) (g:SRequest → SRequest → Option Int) (s3:Int × List SRequest):q108 n g s3 = g_stableCmpFunc_b3 n g s3:=by
 funext t
 unfold q108 g_stableCmpFunc_b3
 rw [q690]
theorem q853:q107 = g_stableCmpFunc_b2:=by
 funext n g t
 unfold q107
 simp only [q690,q865]
 kernel_rfl
theorem q873:q79 = g_stableCmpFunc:=by
 funext d n g
 unfold q79
 rw [q853]
 kernel_rfl
theorem st_same (l:List SRequest) (g:SRequest → SRequest → Option Int):q71 l g = g_SortStableFunc l g:=by
 unfold q71 g_SortStableFunc
 rw [q873]
def dec (s:Sarbiter_span):List SRequest → List Int
 | []=>[]
 | r :: l=>(bif chg s r then [r.Source] else []) ++ dec (stp s r) l
theorem dec_len (s:Sarbiter_span):∀ l:List SRequest,(dec s l).length ≤ l.length
 | []=>Nat.le_refl _
 | r :: l=>by
  have:=dec_len (stp s r) l
  unfold dec
  cases chg s r
  ·simp only [cond_false,List.nil_append,List.length_cons]; omega
  ·simp only [cond_true,List.length_append,List.length_cons,List.length_nil]; omega
theorem dloop:∀ (q:List SRequest) (i:Int) (acc:List Int) (s:Sarbiter_span),s.low ≤ s.high → (∀ r ∈ q,r.Kind = 1 ∨ r.Kind = 2 ∨ r.Kind = 3) → acc.length + q.length ≤ 10000 →
  stepsL q281 q i (acc,s) = some (.inl (acc ++ dec s q,q.foldl stp s))
 | [],i,acc,s,_,_,_=>by simp [stepsL,dec]
 | r :: q,i,acc,s,hs,hk,hl=>by
  simp only [List.length_cons] at hl
  have hr:=q753 (r:=r) hs
  have hb:q281 i r (acc,s) = some (.next (acc ++ (bif chg s r then [r.Source] else []),stp s r)):=by
   unfold q281
   simp only
   rw [q823 s r hs (hk r (by simp))]
   simp only [Option.bind_some]
   cases chg s r
   ·simp
   ·simp only [cond_true]
    rw [appendM_ok _ _ (by simp only [List.length_singleton]; omega)]
    rfl
  simp only [stepsL,hb,Option.bind_some]
  rw [dloop q (i + 1) _ (stp s r) (by omega) (fun x hx=>hk x (by simp [hx])) (by rw [List.length_append]; cases chg s r <;> simp <;> omega)]
  simp only [dec,List.foldl_cons,List.append_assoc]
def s0 (low high:Int):Sarbiter_span:=⟨low,high,-1⟩
def fin (l:List SRequest) (low high:Int):Sarbiter_span:=(ordL l).foldl stp (s0 low high)
def srcs (l:List SRequest) (low high:Int):List Int:=compL ((dec (s0 low high) (ordL l)).mergeSort fun x y=>decide (x ≤ y))
theorem Fine.dr {l:List SRequest} {low high:Int} (h:Fine l low high):AllD DR l:=fun r hr=>by
 have:=h.req r hr
 unfold reqP at this
 unfold DR; omega
theorem Fine.kinds {l:List SRequest} {low high:Int} (h:Fine l low high):∀ r ∈ l,r.Kind = 1 ∨ r.Kind = 2 ∨ r.Kind = 3:=fun r hr=>by
 have:=h.req r hr
 unfold reqP at this
 omega
theorem q862 {l:List SRequest} {low high:Int} (h:Fine l low high):(ordL l).length = l.length:=by
 obtain ⟨r,h1,h2,h3⟩:=stable_eq sw_dec l h.dr (by have:=h.len; omega)
 rw [← q619 h.dr h2 h3,h3.len]
theorem q830 {l:List SRequest} {low high:Int} (h:Fine l low high):(ordL l).Perm l:=by
 obtain ⟨r,h1,h2,h3⟩:=stable_eq sw_dec l h.dr (by have:=h.len; omega)
 rw [← q619 h.dr h2 h3]
 exact h3.perm
theorem q815 {l:List SRequest} {low high:Int} (h:Fine l low high):q363 l low high = some (fin l low high,srcs l low high):=by
 unfold q363 q285
 have hl:=h.len
 rw [appendM_ok _ _ (by simp only [List.length_nil]; omega)]
 simp only [Option.bind_some,List.nil_append]
 rw [st_same]
 obtain ⟨r,h1,h2,h3⟩:=stable_eq sw_dec l h.dr (by omega)
 rw [h1,q619 h.dr h2 h3]
 simp only [Option.bind_some]
 have hlen:=q862 h
 rw [rangeM_steps _ (by omega),dloop (ordL l) 0 [] ⟨low,high,-1⟩ h.ord (fun x hx=>h.kinds x ((q697 h.dr).1 hx)) (by simp only [List.length_nil]; omega)]
 simp only [Option.bind_some,List.nil_append]
 unfold q407 q335
 have hd:=dec_len (s0 low high) (ordL l)
 rw [sortIM_ok (show (dec (⟨low,high,-1⟩:Sarbiter_span) (ordL l)).length < 4611686018427387904 by unfold s0 at hd; omega)]
 simp only [Option.bind_some]
 rw [compactM_ok (by rw [List.length_mergeSort]; unfold s0 at hd; omega)]
 rfl
theorem q717:∀ (q:List SRequest) (s:Sarbiter_span),s.low ≤ s.high → s.low ≤ (q.foldl stp s).low ∧ (q.foldl stp s).low ≤ (q.foldl stp s).high ∧ (q.foldl stp s).high ≤ s.high
 | [],s,h=>⟨Int.le_refl _,h,Int.le_refl _⟩
 | r :: q,s,h=>by
  have h1:=q753 (r:=r) h
  have h2:=q717 q (stp s r) (by omega)
  rw [List.foldl_cons]
  omega
theorem q649 {l:List SRequest} {low high:Int} (h:low ≤ high):low ≤ (fin l low high).low ∧ (fin l low high).low ≤ (fin l low high).high ∧ (fin l low high).high ≤ high:=q717 (ordL l) (s0 low high) h
end Go.Pv.Ar
set_option linter.unusedSimpArgs false
namespace Go.Pv
open Go
theorem q852 (r:SRequest):reqB r = decide (Ar.reqP r):=Option.some.inj ((req_eq r).symm.trans (Ar.q129 r))
noncomputable def grantV (g:SGrant) (l:List SRequest):SGrant:=
 ⟨max (min (min (max (Ar.fin l (-5000) 10000).low (g.Torque - 1000)) (g.Torque + 300)) (Ar.fin l (-5000) 10000).high) (-5000),(Ar.fin l (-5000) 10000).source⟩
def granted (g:SGrant):Prop:=(-5000 ≤ g.Torque ∧ g.Torque ≤ 10000) ∧ (-1 ≤ g.Source ∧ g.Source ≤ 15)
theorem q680:∀ (q:List SRequest) (s:Sarbiter_span),(∀ r ∈ q,0 ≤ r.Source ∧ r.Source ≤ 15) → (-1 ≤ s.source ∧ s.source ≤ 15) → -1 ≤ (q.foldl Ar.stp s).source ∧ (q.foldl Ar.stp s).source ≤ 15
 | [],_,_,h=>h
 | r :: q,s,hq,h=>by
  rw [List.foldl_cons]
  refine q680 q _ (fun x hx=>hq x (List.mem_cons_of_mem _ hx)) ?_
  have:=hq r (List.mem_cons_self ..)
  unfold Ar.stp
  simp only
  split <;> omega
theorem q883 {l:List SRequest} (h:Ar.Fine l (-5000) 10000) (g:SGrant):granted (grantV g l):=by
 have r:=Ar.q649 (l:=l) (low:=-5000) (high:=10000) (by omega)
 have s:=q680 (Ar.ordL l) (Ar.s0 (-5000) 10000) (fun x hx=>by
  have:=h.req x ((Ar.q830 h).mem_iff.1 hx)
  exact this.1) (by show -1 ≤ (-1:Int) ∧ (-1:Int) ≤ 15; omega)
 unfold granted grantV
 unfold Ar.fin at r s ⊢
 simp only
 exact ⟨by omega,s⟩
theorem q859 {g:SGrant} {l:List SRequest} (hg:granted g) (h:Ar.Fine l (-5000) 10000):q292 g l (-5000) 10000 300 1000 = some (grantV g l,0):=by
 have r:=Ar.q649 (l:=l) (low:=-5000) (high:=10000) (by omega)
 have hl:=h.len
 unfold granted at hg
 unfold q292
 rw [show q98 g.Torque = some (inR (-5000) 10000 g.Torque) from rfl,in_true hg.1.1 hg.1.2]
 simp only [Option.bind_some]
 rw [show ((!true || decide (g.Source < -1)) || decide (g.Source > 15)) = false by simp only [Bool.not_true,Bool.false_or,Bool.or_eq_false_iff,decide_eq_false_iff_not]; omega,Ar.q863 _ _ _ (by omega),Ar.q874.2 h]
 simp only [cond_false,Option.bind_some]
 rw [show (((0:Int) != 0)) = false from rfl,show (((decide ((300:Int) < 0) || decide ((300:Int) > 20000)) || decide ((1000:Int) < 0)) || decide ((1000:Int) > 20000)) = false from rfl,Ar.q815 h]
 simp only [cond_false,Option.bind_some]
 rw [w64_of (n:=g.Torque - 1000) (by omega) (by omega),w64_of (n:=g.Torque + 300) (by omega) (by omega)]
 simp only [minI_eq,maxI_eq]
 rfl
structure TabC (t:STables):Prop where
 air:airB t = true
 spark:sparkB t = true
 tor:torB t = true
 dead:(curB t.Dead && t.Dead.Y.all (inR 0 10000)) = true
 wish:mapB t.Wish = true
 idle:gainB t.Idle = true
structure Giv (t:STables) (e:SEngine) (b:SBody) (c:SControls) (i:SInputs):Prop where
 t:ctlB t = true
 b:bodyB b = true
 c:goodB e c = true
 i:askB i (e.Order.length:Int) = true
theorem tabOk {t:STables} (h:ctlB t = true):TabC t:=by
 unfold ctlB at h
 have h':=h
 simp only [Bool.and_eq_true] at h'
 exact ⟨h'.1.1.1.1.1,h'.1.1.1.1.2,h'.1.1.1.2,by rw [Bool.and_eq_true]; exact h'.1.1.2,h'.1.2,h'.2⟩
structure GoodC (e:SEngine) (c:SControls):Prop where
 eng:Ev.engP e
 ped:pedB c.Pedal = true
 mix:mixB c.Probe = true
 num:c.Knock.length = e.Order.length
 kno:c.Knock.all knB = true
 sum:sumOk c.Idle
 film:0 ≤ c.Film ∧ c.Film ≤ 1073741824
 gra:granted c.Grant
theorem goodOk {e:SEngine} {c:SControls}:goodB e c = true ↔ GoodC e c:=by
 unfold goodB
 simp only [Bool.and_eq_true,decide_eq_true_eq,inR_iff]
 exact ⟨fun ⟨⟨⟨⟨⟨⟨⟨⟨a,b⟩,d⟩,f⟩,g⟩,h⟩,i⟩,j⟩,k⟩=>⟨a,b,d,f,g,h,i,j,k⟩,fun ⟨a,b,d,f,g,h,i,j,k⟩=>⟨⟨⟨⟨⟨⟨⟨⟨a,b⟩,d⟩,f⟩,g⟩,h⟩,i⟩,j⟩,k⟩⟩
structure AskC (i:SInputs) (n:Nat):Prop where
 num:1 ≤ n ∧ n ≤ 8
 len:i.Intensity.length = n
 few:i.Requests.length ≤ 30
 spd:0 ≤ i.Speed ∧ i.Speed ≤ 12000
 pre:50 ≤ i.Pressure ∧ i.Pressure ≤ 3000
 air:-40 ≤ i.AirTemp ∧ i.AirTemp ≤ 150
 coo:-40 ≤ i.Coolant ∧ i.Coolant ≤ 150
 vol:0 ≤ i.Voltage ∧ i.Voltage ≤ 20000
 lam:0 ≤ i.Lambda ∧ i.Lambda ≤ 20000
 int:i.Intensity.all (inR 0 4095) = true
 req:i.Requests.all reqB = true
theorem askOk {i:SInputs} {n:Nat}:askB i (n:Int) = true ↔ AskC i n:=by
 unfold askB
 simp only [Bool.and_eq_true,decide_eq_true_eq,inR_iff]
 exact ⟨fun ⟨⟨⟨⟨⟨⟨⟨⟨⟨⟨a,b⟩,c⟩,d⟩,e⟩,f⟩,g⟩,h⟩,i⟩,j⟩,k⟩=>⟨by omega,by omega,c,d,e,f,g,h,i,j,k⟩,fun ⟨a,b,c,d,e,f,g,h,i,j,k⟩=>⟨⟨⟨⟨⟨⟨⟨⟨⟨⟨by omega,by omega⟩,c⟩,d⟩,e⟩,f⟩,g⟩,h⟩,i⟩,j⟩,k⟩⟩
noncomputable def idlR (s:SIntegral) (g:SGain) (c v:Int):SIntegral × Int × Int:=(q250 s g (tgtV c) v).getD (⟨0⟩,0,0)
theorem idlR_eq {s:SIntegral} {g:SGain} (hg:gainB g = true) (hs:sumOk s) {c v:Int} (c0:-40 ≤ c ∧ c ≤ 150) (v0:0 ≤ v ∧ v ≤ 12000):q250 s g (tgtV c) v = some ((idlR s g c v).1,(idlR s g c v).2.1,0) ∧ sumOk (idlR s g c v).1:=by
 obtain ⟨s',u,h1,h2⟩:=q868 hg hs c0 v0
 unfold idlR
 rw [h1]
 exact ⟨rfl,h2⟩
section
variable (t:STables) (e:SEngine) (b:SBody) (c:SControls) (i:SInputs)
def pdV:SPedal:=pedV c.Pedal i.Pedal1 i.Pedal2
noncomputable def wsV:Int:=wishV t (pdV c i).Value i.Speed
def acV:Bool:=actV (pdV c i).Value i.Speed i.Coolant
noncomputable def idV:SIntegral:=bif acV c i then (idlR c.Idle t.Idle i.Coolant i.Speed).1 else ⟨0⟩
noncomputable def rqV:List SRequest:=⟨0,3,wsV t c i,0⟩ :: ((bif acV c i then [⟨1,2,min (max (idlR c.Idle t.Idle i.Coolant i.Speed).2.1 (-5000)) 10000,1⟩] else []) ++ i.Requests)
noncomputable def grV:SGrant:=grantV c.Grant (rqV t c i)
noncomputable def wtV:Int:=max 0 (grV t c i).Torque
noncomputable def thV (w:Int):Int:=
 let r2:=(q219 t i.Speed w).getD (0,0)
 let r3:=(q349 t i.Speed (max 0 (bif r2.2 != 0 then 1048576 else r2.1)) i.AirTemp).getD (0,0)
 let p:=min 1012 (bif r3.2 != 0 then 3000 else r3.1)
 let r5:=(q359 b (flowV i.Speed p) p).getD (0,0)
 bif r5.2 != 0 then 1000 else r5.1
noncomputable def cgV:Int:=chV t i.Speed i.Pressure i.AirTemp
noncomputable def shV (w n:Int):Int × Int × Int:=(q204 t i.Speed (cgV t i) w n).getD (0,0,0)
noncomputable def msV:Int:=min 1048576 ((cgV t i * 10000 / 147000) * facV (mxV c.Probe i.Lambda) i.Speed (cgV t i) / 1000)
noncomputable def waV:Int × Int × Int:=(q414 b c.Film (msV t c i)).getD (0,0,0)
noncomputable def inV (f:Int):Int × Int:=bif (f == 0) || ((waV t b c i).2.2 != 0) then (0,c.Film - leaveV b c.Film) else ((waV t b c i).1,(waV t b c i).2.1)
noncomputable def tmV (j:Int):Int:=bif decide (j > 0) then min (max (cAt t.Dead i.Voltage + upV3 j) 200) 20000 else 0
def tkV:Int:=min (max (60000000 / max 1 i.Speed) 4000) 1000000
noncomputable def fiV (n:Nat) (f l tm:Int) (k:Nat):SFire:=
 ⟨(k:Int) + 1,max (-1280) (angV t i.Speed (cgV t i) i.Coolant ((ksV c.Knock i.Intensity).getD k ⟨0,0,0⟩).Retard - l),max 500 (dwellV t i.Voltage (tkV i)),5760,bif patB n f (k:Int) then tm else 0,0,0⟩
end
structure StepOk (t:STables) (e:SEngine) (b:SBody) (c:SControls) (i:SInputs) (f l:Int):Prop where
 sh:shV t i (wtV t c i) (e.Order.length:Int) = (f,l,0)
 ok:ShOk t (optV t i.Speed (cgV t i)) (wtV t c i) (e.Order.length:Int) f l
noncomputable def nxC (t:STables) (b:SBody) (c:SControls) (i:SInputs) (f:Int):SControls:=⟨pdV c i,idV t c i,ksV c.Knock i.Intensity,mxV c.Probe i.Lambda,(inV t b c i f).2,grV t c i⟩
noncomputable def outC (t:STables) (e:SEngine) (b:SBody) (c:SControls) (i:SInputs) (f l:Int):SOutputs:=⟨thV t b i (wtV t c i),(List.range e.Order.length).map (fiV t c i e.Order.length f l (tmV t i (inV t b c i f).1)),torV t (optV t i.Speed (cgV t i)) l f (e.Order.length:Int)⟩
theorem req0 (w:Int) (h:-5000 ≤ w ∧ w ≤ 10000):Ar.reqP ⟨0,3,w,0⟩:=
 ⟨⟨(by decide:(0:Int) ≤ 0),(by decide:(0:Int) ≤ 15)⟩,⟨(by decide:(0:Int) ≤ 0),(by decide:(0:Int) ≤ 15)⟩,h,.inr ⟨(by decide:(0:Int) ≤ 1),.inr rfl⟩⟩
theorem req1 (w:Int) (h:-5000 ≤ w ∧ w ≤ 10000):Ar.reqP ⟨1,2,w,1⟩:=
 ⟨⟨(by decide:(0:Int) ≤ 1),(by decide:(1:Int) ≤ 15)⟩,⟨(by decide:(0:Int) ≤ 1),(by decide:(1:Int) ≤ 15)⟩,h,.inr ⟨(by decide:(1:Int) ≤ 1),.inl rfl⟩⟩
theorem q755 {t:STables} {c:SControls} {i:SInputs} {n:Nat} (hi:AskC i n):Ar.Fine (rqV t c i) (-5000) 10000:=by
 have hw:=q729 t (pdV c i).Value i.Speed
 have hr:=hi.few
 refine ⟨fun r h=>?_,?_,by omega,by omega,by omega⟩
 ·unfold rqV at h
  rcases List.mem_cons.1 h with rfl | h
  ·exact req0 _ hw
  ·rcases List.mem_append.1 h with h | h
   ·cases ha:acV c i
    ·rw [ha] at h; simp at h
    ·rw [ha] at h
     simp only [cond_true,List.mem_cons,List.not_mem_nil,or_false] at h
     subst h
     exact req1 _ ⟨by omega,by omega⟩
   ·have:=List.all_eq_true.1 hi.req r h
    rw [q852,decide_eq_true_eq] at this
    exact this
 ·unfold rqV
  rw [List.length_cons,List.length_append]
  cases acV c i <;> simp <;> omega
theorem q54 (s:Scontrol_step) (h:s.fail = 0):q22 s 0 = some s:=by
 unfold q22
 rw [h]
 simp only [beq_self_eq_true,cond_true]
 cases s
 simp only at h
 subst h
 rfl
theorem q839 {t:STables} {e:SEngine} {b:SBody} {c:SControls} {i:SInputs} {n:Nat} (ht:TabC t) (hc:GoodC e c) (hi:AskC i n) :
  q212 ⟨t,e,b,c,i,0,0,0,0,[],0,⟨0,[],0⟩,0⟩ = some ⟨t,e,b,⟨pdV c i,idV t c i,c.Knock,c.Probe,c.Film,grV t c i⟩,i,wtV t c i,0,0,0,[],0,⟨0,[],0⟩,0⟩:=by
 obtain ⟨p1,p2⟩:=q725 hc.ped i.Pedal1 i.Pedal2
 have p3:=(pedOk.1 p2).v
 have hw:=wish_eq ht.wish (v:=(pedV c.Pedal i.Pedal1 i.Pedal2).Value) p3 hi.spd
 have ha:=act_eq (v:=(pedV c.Pedal i.Pedal1 i.Pedal2).Value) (s:=i.Speed) hi.coo
 obtain ⟨d1,d2⟩:=idlR_eq ht.idle hc.sum hi.coo hi.spd
 have hf:=q755 (t:=t) (c:=c) hi
 have hst:=q859 hc.gra hf
 have hrl:=hi.few
 unfold q212
 simp only
 rw [p1]
 simp only [Option.bind_some]
 rw [q54 _ rfl]
 simp only [Option.bind_some]
 rw [hw]
 simp only [Option.bind_some]
 rw [q54 _ rfl]
 simp only [Option.bind_some]
 rw [ha,(tgt_eq hi.coo).1]
 simp only [Option.bind_some]
 unfold grV wtV grV
 unfold idV rqV acV wsV pdV at *
 cases hac:actV (pedV c.Pedal i.Pedal1 i.Pedal2).Value i.Speed i.Coolant
 ·rw [hac] at hst
  simp only [cond_false,Option.bind_some,List.nil_append] at hst ⊢
  rw [appendM_ok _ _ (by simp only [List.length_cons,List.length_nil]; omega)]
  simp only [Option.bind_some,List.cons_append,List.nil_append]
  show Option.bind (Option.bind (q292 c.Grant _ _ _ _ _) _) _ = _
  rw [hst]
  simp only [Option.bind_some]
  rw [q54 _ rfl]
  simp only [Option.bind_some,maxI_eq]
 ·rw [hac] at hst
  simp only [cond_true,Option.bind_some,List.cons_append,List.nil_append] at hst ⊢
  show Option.bind (Option.bind (Option.bind (q250 c.Idle t.Idle (tgtV i.Coolant) i.Speed) _) _) _ = _
  rw [d1]
  simp only [Option.bind_some]
  rw [q54 _ rfl]
  simp only [Option.bind_some,q86,minI_eq,maxI_eq]
  rw [appendM_ok _ _ (by simp only [List.length_cons,List.length_nil]; omega)]
  simp only [Option.bind_some]
  rw [appendM_ok _ _ (by simp only [List.length_append,List.length_cons,List.length_nil]; omega)]
  simp only [Option.bind_some,List.cons_append,List.nil_append]
  show Option.bind (Option.bind (q292 c.Grant _ _ _ _ _) _) _ = _
  rw [hst]
  simp only [Option.bind_some]
  rw [q54 _ rfl]
  simp only [Option.bind_some,maxI_eq]
theorem or_eq (x e o:Int):q360 x e o = some (bif e != 0 then o else x):=by unfold q360; cases e != 0 <;> rfl
theorem q795 {t:STables} {b:SBody} {i:SInputs} {n:Nat} (ht:TabC t) (hb:bodyB b = true) (hi:AskC i n) (e:SEngine) (c:SControls) (w:Int) :
  q148 ⟨t,e,b,c,i,w,0,0,0,[],0,⟨0,[],0⟩,0⟩ = some ⟨t,e,b,c,i,w,0,0,0,[],0,⟨thV t b i w,[],0⟩,0⟩ ∧ 0 ≤ thV t b i w ∧ thV t b i w ≤ 1000:=by
 obtain ⟨c2,e2,h2,_,_,_⟩:=q699 ht.tor (w:=w) hi.spd
 unfold q148 thV
 simp only
 rw [h2]
 simp only [Option.bind_some,or_eq,Option.getD_some,maxI_eq]
 generalize max 0 (bif e2 != 0 then (1048576:Int) else c2) = x
 obtain ⟨p,e3,h3,k3⟩:=q679 ht.air (w:=x) hi.spd hi.air
 rw [h3]
 simp only [Option.bind_some,or_eq,Option.getD_some,minI_eq]
 have hp:50 ≤ (min 1012 (bif e3 != 0 then (3000:Int) else p)) ∧ (min 1012 (bif e3 != 0 then (3000:Int) else p)) ≤ 1012:=by
  cases he:e3 != 0
  ·have h0:e3 = 0:=by simpa using he
   have:=k3.fit h0
   simp only [cond_false]; omega
  ·simp only [cond_true]; omega
 generalize min 1012 (bif e3 != 0 then (3000:Int) else p) = q at hp
 obtain ⟨f1,f2,f3⟩:=flow_eq (s:=i.Speed) (p:=q) hi.spd (by omega)
 rw [f1]
 simp only [Option.bind_some]
 rw [q54 _ rfl]
 simp only [Option.bind_some]
 obtain ⟨y,e5,h5,k5⟩:=q681 hb (f:=flowV i.Speed q) (p:=q) (by omega) (by omega)
 rw [h5]
 simp only [Option.bind_some,Option.getD_some]
 refine ⟨trivial,?_⟩
 cases he:e5 != 0
 ·have h0:e5 = 0:=by simpa using he
  have:=k5.fit h0
  simp only [cond_false]; omega
 ·simp only [cond_true]; omega
theorem q354 {t:STables} (ht:TabC t) (i:SInputs):0 ≤ cgV t i ∧ cgV t i ≤ 1048576:=(ch_eq ht.air i.Speed i.Pressure i.AirTemp).2
theorem sh_ok {t:STables} {i:SInputs} {n:Nat} (ht:TabC t) (hi:AskC i n) {w:Int} (hw:0 ≤ w):∃ f l,shV t i w (n:Int) = (f,l,0) ∧ q204 t i.Speed (cgV t i) w (n:Int) = some (f,l,0) ∧ ShOk t (optV t i.Speed (cgV t i)) w (n:Int) f l:=by
 have hn:=hi.num
 obtain ⟨f,l,h1,h2⟩:=q872 ht.tor hi.spd (q354 ht i) hw (n:=(n:Int)) (by omega)
 exact ⟨f,l,by unfold shV; rw [h1]; rfl,h1,h2⟩
theorem q879 {t:STables} {i:SInputs} {e:SEngine} (ht:TabC t) (hi:AskC i e.Order.length) {w f l:Int} (h:q204 t i.Speed (cgV t i) w (e.Order.length:Int) = some (f,l,0)) (k:ShOk t (optV t i.Speed (cgV t i)) w (e.Order.length:Int) f l) (b:SBody) (c:SControls) (th:Int) :
  q243 ⟨t,e,b,c,i,w,0,0,0,[],0,⟨th,[],0⟩,0⟩ =
   some ⟨t,e,b,c,i,w,cgV t i,f,l,(List.range e.Order.length).map (fun j:Nat=>patB (e.Order.length:Int) f (j:Int)),0,⟨th,[],torV t (optV t i.Speed (cgV t i)) l f (e.Order.length:Int)⟩,0⟩:=by
 have hn:=hi.num
 have k1:=k.f0; have k2:=k.f1; have k3:=k.l0; have k4:=k.l1
 unfold q243
 simp only
 rw [q778 ht.air hi.spd hi.pre hi.air]
 simp only [Option.bind_some]
 rw [q54 _ rfl]
 simp only [Option.bind_some]
 rw [show chV t i.Speed i.Pressure i.AirTemp = cgV t i from rfl,h]
 simp only [Option.bind_some]
 rw [q54 _ rfl]
 simp only [Option.bind_some]
 rw [q799 hn ⟨k1,k2⟩]
 simp only [Option.bind_some]
 rw [q54 _ rfl]
 simp only [Option.bind_some]
 rw [q833 ht.tor hi.spd (q354 ht i) ⟨k3,k4⟩ ⟨k1,k2⟩ (by omega)]
 simp only [Option.bind_some]
 rw [q54 _ rfl]
 simp only [Option.bind_some]
theorem q693 {t:STables} {c:SControls} {i:SInputs} (ht:TabC t):(0 ≤ cgV t i * 10000 / 147000 ∧ cgV t i * 10000 / 147000 ≤ 80000) ∧ (0 ≤ (cgV t i * 10000 / 147000) * facV (mxV c.Probe i.Lambda) i.Speed (cgV t i) ∧ (cgV t i * 10000 / 147000) * facV (mxV c.Probe i.Lambda) i.Speed (cgV t i) ≤ 80000 * 1300) ∧ 0 ≤ msV t c i ∧ msV t c i ≤ 1048576:=by
 have h1:=q354 ht i
 have h2:=q754 (mxV c.Probe i.Lambda) i.Speed (cgV t i)
 have h3:0 ≤ cgV t i * 10000 / 147000 ∧ cgV t i * 10000 / 147000 ≤ 80000:=by omega
 have h4:=prod_le h3.1 h3.2 (show 0 ≤ facV (mxV c.Probe i.Lambda) i.Speed (cgV t i) by omega) h2.2
 refine ⟨h3,h4,?_⟩
 unfold msV
 omega
theorem want_ok {t:STables} {b:SBody} {e:SEngine} {c:SControls} {i:SInputs} (ht:TabC t) (hb:bodyB b = true) (hc:GoodC e c):q414 b c.Film (msV t c i) = some (waV t b c i) ∧ WantOk b c.Film (msV t c i) (waV t b c i).1 (waV t b c i).2.1 (waV t b c i).2.2:=by
 obtain ⟨j,x,e1,h1,h2⟩:=q860 hb hc.film (q693 (c:=c) (i:=i) ht).2.2
 unfold waV
 rw [h1]
 exact ⟨rfl,h2⟩
theorem q785 {t:STables} {b:SBody} {e:SEngine} {c:SControls} {i:SInputs} (ht:TabC t) (hb:bodyB b = true) (hc:GoodC e c) (f:Int):(0 ≤ (inV t b c i f).1 ∧ (inV t b c i f).1 ≤ 1048576) ∧ (0 ≤ (inV t b c i f).2 ∧ (inV t b c i f).2 ≤ 1073741824):=by
 obtain ⟨_,k⟩:=want_ok (i:=i) ht hb hc
 have hl:=q191 hb hc.film.1
 have hf:=hc.film
 unfold inV
 cases hz:(f == 0) || ((waV t b c i).2.2 != 0)
 ·rw [Bool.or_eq_false_iff] at hz
  have h0:(waV t b c i).2.2 = 0:=by simpa using hz.2
  exact ⟨k.inj h0,k.ran h0⟩
 ·simp only [cond_true]; omega
theorem st_fuel {t:STables} {b:SBody} {e:SEngine} {c:SControls} {i:SInputs} {n:Nat} (ht:TabC t) (hb:bodyB b = true) (hc:GoodC e c) (hi:AskC i n) (pd:SPedal) (id:SIntegral) (gr:SGrant) (w f l:Int) (pt:List Bool) (o:SOutputs) :
  q276 ⟨t,e,b,⟨pd,id,c.Knock,c.Probe,c.Film,gr⟩,i,w,cgV t i,f,l,pt,0,o,0⟩ =
   some ⟨t,e,b,⟨pd,id,c.Knock,mxV c.Probe i.Lambda,(inV t b c i f).2,gr⟩,i,w,cgV t i,f,l,pt,tmV t i (inV t b c i f).1,o,0⟩:=by
 obtain ⟨x1,x2⟩:=q662 hc.mix hi.lam hi.spd (q354 ht i)
 have hf:=fac_eq x2 hi.spd (q354 ht i)
 obtain ⟨m1,m2,m3⟩:=q693 (c:=c) (i:=i) ht
 obtain ⟨w1,w2⟩:=want_ok (i:=i) ht hb hc
 have hr:=(q785 (i:=i) ht hb hc f).1
 have hm:minI 1048576 (w64 (Int.tdiv (w64 ((cgV t i * 10000 / 147000) * facV (mxV c.Probe i.Lambda) i.Speed (cgV t i))) 1000)) = msV t c i:=by
  unfold msV
  rw [w64_of (n:=(cgV t i * 10000 / 147000) * facV (mxV c.Probe i.Lambda) i.Speed (cgV t i)) (by omega) (by omega),Int.tdiv_eq_ediv_of_nonneg m2.1,w64_of (by omega) (by omega),minI_eq]
 unfold q276
 simp only
 rw [x1]
 simp only [Option.bind_some]
 rw [q54 _ rfl]
 simp only [Option.bind_some]
 rw [hf]
 simp only [Option.bind_some]
 rw [q54 _ rfl]
 simp only [Option.bind_some]
 rw [q842 (q354 ht i)]
 simp only [Option.bind_some]
 rw [q54 _ rfl]
 simp only [Option.bind_some]
 rw [hm,w1]
 simp only [Option.bind_some]
 have hin:∀ s:Scontrol_step,s.b = b → s.c.Film = c.Film → s.fail = 0 → (bif ((f == 0) || ((waV t b c i).2.2 != 0)) then (Option.bind (q468 b c.Film 0) fun r6=>Option.bind (q22 s r6.2.2) fun v4=>some (0,r6.2.1,v4)) else (some ((waV t b c i).1,(waV t b c i).2.1,s))) = some ((inV t b c i f).1,(inV t b c i f).2,s):=by
  intro s _ _ hs
  unfold inV
  cases (f == 0) || ((waV t b c i).2.2 != 0)
  ·rfl
  ·simp only [cond_true]
   rw [q876 hb hc.film]
   simp only [Option.bind_some]
   rw [q54 _ hs]
   rfl
 rw [hin _ rfl rfl rfl]
 simp only [Option.bind_some]
 unfold tmV
 cases hj:decide ((inV t b c i f).1 > 0)
 ·rfl
 ·have hj':=of_decide_eq_true hj
  simp only [cond_true]
  show Option.bind (q467 t (inV t b c i f).1 i.Voltage) _ = _
  rw [q880 ht.dead ⟨hj',hr.2⟩ hi.vol]
  simp only [Option.bind_some]
  rw [q54 _ rfl]
  simp only [Option.bind_some,q86,minI_eq,maxI_eq]
theorem q856 {t:STables} {e:SEngine} {c:SControls} {i:SInputs} (ht:TabC t) (hc:GoodC e c) (hi:AskC i e.Order.length) (b:SBody) (pd:SPedal) (id:SIntegral) (pb:SProbe) (fm:Int) (gr:SGrant) (w f l tm th to_:Int) (hl:0 ≤ l ∧ l ≤ 2560) :
  q252 ⟨t,e,b,⟨pd,id,c.Knock,pb,fm,gr⟩,i,w,cgV t i,f,l,(List.range e.Order.length).map (fun j:Nat=>patB (e.Order.length:Int) f (j:Int)),tm,⟨th,[],to_⟩,0⟩ =
   some ⟨t,e,b,⟨pd,id,ksV c.Knock i.Intensity,pb,fm,gr⟩,i,w,cgV t i,f,l,(List.range e.Order.length).map (fun j:Nat=>patB (e.Order.length:Int) f (j:Int)),tm,⟨th,(List.range e.Order.length).map (fiV t c i e.Order.length f l tm),to_⟩,0⟩:=by
 have hn:=hi.num
 have hs:=hi.spd
 obtain ⟨k1,k2,k3⟩:=ks_eq hc.kno hi.int (by rw [hc.num]; exact hn) (by rw [hc.num]; exact hi.len)
 rw [hc.num] at k3
 have hk2:=List.all_eq_true.1 k2
 have hq:0 ≤ 60000000 / max 1 i.Speed ∧ 60000000 / max 1 i.Speed ≤ 60000000:=⟨Int.ediv_nonneg (by omega) (by omega),Int.ediv_le_self _ (by omega)⟩
 have htk:4000 ≤ tkV i ∧ tkV i ≤ 1000000:=by unfold tkV; omega
 obtain ⟨d1,d2,d3⟩:=q866 ht.spark ht.tor hi.vol htk
 unfold q252
 simp only
 rw [k1]
 simp only [Option.bind_some]
 rw [q54 _ rfl]
 simp only [Option.bind_some]
 rw [maxI_eq,quoE (by omega) (by omega) (by omega)]
 simp only [Option.bind_some,q86,minI_eq,maxI_eq]
 rw [show min (max (60000000 / max 1 i.Speed) 4000) 1000000 = tkV i from rfl,d1]
 simp only [Option.bind_some]
 rw [q54 _ rfl]
 simp only [Option.bind_some]
 rw [show (((0:Int) != 0)) = false from rfl]
 simp only [cond_false]
 generalize hP:(List.range e.Order.length).map (fun j:Nat=>patB (e.Order.length:Int) f (j:Int)) = P
 have hPl:P.length = e.Order.length:=by rw [← hP]; simp
 have hPg:∀ j,j < e.Order.length → P[j]? = some (patB (e.Order.length:Int) f (j:Int)):=fun j hj=>by rw [← hP,List.getElem?_map,List.getElem?_range hj]; rfl
 obtain ⟨u,eu,hu⟩:=rangeN_inv e.Order.length (by omega) (q301 (dwellV t i.Voltage (tkV i),0)) (fun k u=>u = ⟨t,e,b,⟨pd,id,ksV c.Knock i.Intensity,pb,fm,gr⟩,i,w,cgV t i,f,l,P,tm,⟨th,(List.range k).map (fiV t c i e.Order.length f l tm),to_⟩,0⟩)
  ⟨t,e,b,⟨pd,id,ksV c.Knock i.Intensity,pb,fm,gr⟩,i,w,cgV t i,f,l,P,tm,⟨th,[],to_⟩,0⟩ rfl (fun j hj u hu=>by
   subst hu
   have hj2:j < (ksV c.Knock i.Intensity).length:=by omega
   have hr:=(knOk.1 (hk2 _ (List.getElem_mem hj2))).r
   have hang:=q752 t i.Speed (cgV t i) i.Coolant (ksV c.Knock i.Intensity)[j].Retard
   unfold q301
   simp only
   rw [getI_get _ _ hj2]
   simp only [Option.bind_some]
   rw [q846 ht.spark ht.tor hi.spd (q354 ht i) hi.coo ⟨hr.1,by omega⟩]
   simp only [Option.bind_some]
   rw [q54 _ rfl]
   simp only [Option.bind_some]
   rw [getI_nat,hPg j hj]
   simp only [Option.bind_some]
   have hb:(bif patB (e.Order.length:Int) f (j:Int) then (some tm) else (some 0)) = some (bif patB (e.Order.length:Int) f (j:Int) then tm else 0):=by cases patB (e.Order.length:Int) f (j:Int) <;> rfl
   rw [hb]
   simp only [Option.bind_some]
   rw [appendM_ok _ _ (by simp only [List.length_map,List.length_range,List.length_cons,List.length_nil]; omega)]
   simp only [Option.bind_some]
   refine ⟨_,rfl,?_⟩
   rw [List.range_succ,List.map_append,List.map_cons,List.map_nil]
   unfold fiV
   rw [w64_of (n:=(j:Int) + 1) (by omega) (by omega),w64_of (by omega) (by omega),maxI_eq,maxI_eq,List.getD_eq_getElem?_getD,List.getElem?_eq_getElem hj2]
   rfl)
 rw [eu,hu]
 rfl
theorem q878 {t:STables} {e:SEngine} {b:SBody} {c:SControls} {i:SInputs} (h:Giv t e b c i):∃ f l,StepOk t e b c i f l ∧ q139 t e b c i = some (nxC t b c i f,outC t e b c i f l,0):=by
 have ht:=tabOk h.t
 have hc:=goodOk.1 h.c
 have hi:=askOk.1 h.i
 obtain ⟨f,l,s1,s2,s3⟩:=sh_ok ht hi (w:=wtV t c i) (by unfold wtV; omega)
 refine ⟨f,l,⟨s1,s3⟩,?_⟩
 unfold q139
 rw [q522,h.t,body_eq,h.b,good_eq,h.c]
 simp only [Option.bind_some,Bool.not_true,cond_false]
 rw [ask_eq,h.i]
 simp only [Option.bind_some,Bool.not_true,cond_false]
 rw [q839 ht hc hi]
 simp only [Option.bind_some]
 rw [(q795 ht h.b hi e _ (wtV t c i)).1]
 simp only [Option.bind_some]
 rw [q879 ht hi s2 s3]
 simp only [Option.bind_some]
 rw [st_fuel ht h.b hc hi]
 simp only [Option.bind_some]
 rw [q856 ht hc hi _ _ _ _ _ _ _ _ _ _ _ _ ⟨s3.l0,s3.l1⟩]
 simp only [Option.bind_some]
 rfl
end Go.Pv
set_option linter.unusedSimpArgs false
namespace Go.Pv.R1
open Go Go.Pv
theorem u64w {n:Int} (h0:0 ≤ n) (h1:n < 18446744073709551616):IntKind.u64.wrap n = n:=by
 unfold IntKind.wrap
 simp only [IntKind.bits,IntKind.signed]
 simp only [show (2:Int) ^ 64 = 18446744073709551616 from rfl,Bool.false_and,Bool.false_eq_true,if_false]
 omega
theorem q608 {n:Nat} (h0:0 < n) (h1:n < 18446744073709551616):IntKind.u64.wrap (-(n:Int)) = 18446744073709551616 - (n:Int):=by
 unfold IntKind.wrap
 simp only [IntKind.bits,IntKind.signed]
 simp only [show (2:Int) ^ 64 = 18446744073709551616 from rfl,Bool.false_and,Bool.false_eq_true,if_false]
 omega
theorem w64_hi {n:Nat} (h0:0 < n) (h1:n ≤ 9223372036854775808):w64 (18446744073709551616 - (n:Int)) = -(n:Int):=by
 unfold w64 IntKind.wrap
 simp only [IntKind.bits,IntKind.signed]
 simp only [show (2:Int) ^ 64 = 18446744073709551616 from rfl,show (2:Int) ^ (64 - 1) = 9223372036854775808 from rfl,Bool.true_and,decide_eq_true_eq]
 split <;> omega
theorem size_eq (a:Int) (h0:-4611686018427387904 ≤ a) (h1:a ≤ 4611686018427387904):q122 a = some (a.natAbs:Int):=by
 unfold q122
 by_cases h:a < 0
 ·rw [decide_eq_true h]
  simp only [cond_true,Option.some.injEq]
  obtain ⟨n,rfl⟩:∃ n:Nat,a = -(n:Int):=⟨a.natAbs,by omega⟩
  rw [q608 (by omega) (by omega)]
  have:(0:Int) - (18446744073709551616 - (n:Int)) = -((18446744073709551616 - n:Nat):Int):=by omega
  rw [this,q608 (by omega) (by omega)]
  omega
 ·rw [decide_eq_false h]
  simp only [cond_false,Option.some.injEq]
  rw [u64w (by omega) (by omega)]
  omega
theorem q607 (x m k:Nat) (hx:x < 18446744073709551616) (hm:m = 2 ^ k - 1) (hk:k ≤ 63):bitAnd .u64 (x:Int) (m:Int) = ((x % 2 ^ k:Nat):Int):=by
 have hp:2 ^ k ≤ 2 ^ 63:=Nat.pow_le_pow_right (by decide) hk
 have hp0:0 < 2 ^ k:=Nat.pow_pos (by decide)
 have e:(BitVec.ofInt 64 (x:Int) &&& BitVec.ofInt 64 (m:Int)).toNat = x % 2 ^ k:=by
  rw [BitVec.toNat_and]
  have e1:(BitVec.ofInt 64 (x:Int)).toNat = x:=by simp [BitVec.toNat_ofInt]; omega
  have e2:(BitVec.ofInt 64 (m:Int)).toNat = m:=by simp [BitVec.toNat_ofInt]; omega
  rw [e1,e2,hm,Nat.and_two_pow_sub_one_eq_mod]
 show IntKind.u64.wrap ((BitVec.ofInt 64 (x:Int) &&& BitVec.ofInt 64 (m:Int)).toNat:Int) = _
 rw [e]
 have:x % 2 ^ k < 2 ^ k:=Nat.mod_lt _ hp0
 exact u64w (by omega) (by omega)
theorem shr_nat (x i:Nat) (hi:i ≤ 63):bitShr .u64 (x:Int) (i:Int) = ((x / 2 ^ i:Nat):Int):=by
 unfold bitShr
 have e:(min (Int.toNat (i:Int)) IntKind.u64.bits) = i:=by show min (Int.toNat (i:Int)) 64 = i; omega
 rw [e]
 have:(2:Int) ^ i = ((2 ^ i:Nat):Int):=by simp
 rw [this]
 rw [Int.fdiv_eq_ediv_of_nonneg (x:Int) (Int.natCast_nonneg _)]
 rfl
theorem shl_nat (x i:Nat) (hi:i ≤ 63) (h:x * 2 ^ i < 18446744073709551616):bitShl .u64 (x:Int) (i:Int) = ((x * 2 ^ i:Nat):Int):=by
 unfold bitShl
 have e:(min (Int.toNat (i:Int)) IntKind.u64.bits) = i:=by show min (Int.toNat (i:Int)) 64 = i; omega
 rw [e]
 have:(x:Int) * (2:Int) ^ i = ((x * 2 ^ i:Nat):Int):=by simp
 rw [this]
 exact u64w (by omega) (by omega)
theorem q829 (x:Nat) (hx:x < 9223372036854775808):q225 (x:Int) 1 = some ⟨0,(x:Int)⟩:=by
 unfold q225
 have a1:bitShr .u64 (x:Int) 32 = ((x / 4294967296:Nat):Int):=shr_nat x 32 (by decide)
 have a2:bitAnd .u64 (x:Int) 4294967295 = ((x % 4294967296:Nat):Int):=q607 x 4294967295 32 (by omega) (by decide) (by decide)
 have a3:bitShr .u64 1 32 = 0:=by decide
 have a4:bitAnd .u64 1 4294967295 = 1:=by decide
 rw [a1,a2,a3,a4]
 generalize hh:x / 4294967296 = h
 generalize hl:x % 4294967296 = l
 have hx2:x = 4294967296 * h + l:=by have:=Nat.div_add_mod x 4294967296; omega
 have hl2:l < 4294967296:=by have:=Nat.mod_lt x (show 4294967296 > 0 by decide); omega
 have hh2:h < 2147483648:=by omega
 simp only [Int.mul_zero,Int.mul_one]
 have e0:IntKind.u64.wrap 0 = 0:=by decide
 have el:IntKind.u64.wrap (l:Int) = (l:Int):=u64w (by omega) (by omega)
 have eh:IntKind.u64.wrap (h:Int) = (h:Int):=u64w (by omega) (by omega)
 rw [el,eh,e0]
 have b1:bitShr .u64 (l:Int) 32 = 0:=by
  have:=shr_nat l 32 (by decide)
  rw [show ((32:Nat):Int) = 32 from rfl,Nat.div_eq_of_lt (by omega)] at this
  exact this
 rw [b1]
 simp only [Int.add_zero]
 rw [eh]
 have b2:bitShr .u64 (h:Int) 32 = 0:=by
  have:=shr_nat h 32 (by decide)
  rw [show ((32:Nat):Int) = 32 from rfl,Nat.div_eq_of_lt (by omega)] at this
  exact this
 have b3:bitAnd .u64 (h:Int) 4294967295 = (h:Int):=by
  have:=q607 h 4294967295 32 (by omega) (by decide) (by decide)
  rw [Nat.mod_eq_of_lt (by omega)] at this
  exact this
 have b4:bitAnd .u64 (l:Int) 4294967295 = (l:Int):=by
  have:=q607 l 4294967295 32 (by omega) (by decide) (by decide)
  rw [Nat.mod_eq_of_lt (by omega)] at this
  exact this
 rw [b2,b3,b4]
 simp only [Int.zero_add,Int.add_zero]
 rw [eh,b2,e0]
 have b5:bitShl .u64 (h:Int) 32 = ((h * 4294967296:Nat):Int):=shl_nat h 32 (by decide) (by omega)
 rw [b5]
 have:(((h * 4294967296:Nat):Int) + (l:Int)) = (x:Int):=by omega
 rw [this]
 have ex:IntKind.u64.wrap (x:Int) = (x:Int):=u64w (by omega) (by omega)
 rw [ex]
 rfl
theorem q817 (x c N:Nat) (i:Nat) (hi:i ≤ 63) (hx:x < 9223372036854775808) (hc0:0 < c) (hc:c ≤ 4611686018427387904) (hN:N = x / 2 ^ (i + 1)) :
  q112 ⟨0,(x:Int)⟩ (c:Int) (((N % c:Nat):Int),((N / c:Nat):Int),(i:Int)) = some (.inl (((x / 2 ^ i % c:Nat):Int),((x / 2 ^ i / c:Nat):Int),(i:Int) - 1)):=by
 have hbit:x / 2 ^ i = 2 * N + x / 2 ^ i % 2:=by
  have h1:x / 2 ^ (i + 1) = x / 2 ^ i / 2:=by rw [Nat.pow_succ,Nat.div_div_eq_div_mul]
  rw [hN,h1]; omega
 have hNx:N ≤ x / 2 ^ i:=by omega
 have hxi:x / 2 ^ i ≤ x:=Nat.div_le_self _ _
 generalize hM:x / 2 ^ i = M at hbit hNx hxi
 have hr:N % c < c:=Nat.mod_lt _ hc0
 have hdm:=Nat.div_add_mod N c
 have hq:N / c ≤ N:=Nat.div_le_self _ _
 generalize hrr:N % c = r at hr hdm
 generalize hqq:N / c = q at hq hdm
 have hb2:M % 2 < 2:=Nat.mod_lt _ (by decide)
 generalize hbb:M % 2 = b at hb2 hbit
 unfold q112
 simp only
 have e1:decide ((i:Int) ≥ 0) = true:=by simp
 have e2:IntKind.u64.wrap (i:Int) = (i:Int):=u64w (by omega) (by omega)
 have e3:shrM .u64 (x:Int) (i:Int) = some ((M:Nat):Int):=by
  unfold shrM
  rw [if_neg (by omega),shr_nat x i hi,hM]
 have e4:bitShr .u64 (r:Int) 63 = 0:=by
  have:=shr_nat r 63 (by decide)
  rw [show ((63:Nat):Int) = 63 from rfl,Nat.div_eq_of_lt (by omega)] at this
  exact this
 have e5:bitShl .u64 (r:Int) 1 = ((r * 2:Nat):Int):=shl_nat r 1 (by decide) (by omega)
 have e6:bitAnd .u64 (M:Int) 1 = ((b:Nat):Int):=by
  have:=q607 M 1 1 (by omega) (by decide) (by decide)
  rw [show ((1:Nat):Int) = 1 from rfl,Nat.pow_one,hbb] at this
  exact this
 have e7:bitShl .u64 (q:Int) 1 = ((q * 2:Nat):Int):=shl_nat q 1 (by decide) (by omega)
 rw [e1,e2,e3]
 simp only [cond_true,Option.bind_some]
 rw [e4,e5,e6,e7]
 have e8:IntKind.u64.wrap (((r * 2:Nat):Int) + (b:Int)) = ((r * 2 + b:Nat):Int):=by rw [u64w (by omega) (by omega)]; omega
 rw [e8,w64_of (n:=(i:Int) - 1) (by omega) (by omega)]
 simp only [show ((0:Int) == 1) = false from rfl,Bool.false_or]
 have hM2:M = c * (2 * q) + (r * 2 + b):=by
  have:c * (2 * q) = 2 * (c * q):=by rw [← Nat.mul_assoc,Nat.mul_comm c 2,Nat.mul_assoc]
  omega
 by_cases hge:r * 2 + b ≥ c
 ·have e9:decide (((r * 2 + b:Nat):Int) ≥ (c:Int)) = true:=by simp; omega
  rw [e9]
  simp only [cond_true]
  have hM3:M = (r * 2 + b - c) + c * (2 * q + 1):=by rw [Nat.mul_add,Nat.mul_one]; omega
  have h1:M % c = r * 2 + b - c:=by rw [hM3,Nat.add_mul_mod_self_left,Nat.mod_eq_of_lt (by omega)]
  have h2:M / c = 2 * q + 1:=by rw [hM3,Nat.add_mul_div_left _ _ hc0,Nat.div_eq_of_lt (by omega)]; omega
  rw [h1,h2,u64w (n:=((r * 2 + b:Nat):Int) - (c:Int)) (by omega) (by omega),u64w (n:=((q * 2:Nat):Int) + 1) (by omega) (by omega)]
  congr 3
  ·omega
  ·congr 1; omega
 ·have e9:decide (((r * 2 + b:Nat):Int) ≥ (c:Int)) = false:=by simp; omega
  rw [e9]
  simp only [cond_false]
  have hM3:M = (r * 2 + b) + c * (2 * q):=by omega
  have h1:M % c = r * 2 + b:=by rw [hM3,Nat.add_mul_mod_self_left,Nat.mod_eq_of_lt (by omega)]
  have h2:M / c = 2 * q:=by rw [hM3,Nat.add_mul_div_left _ _ hc0,Nat.div_eq_of_lt (by omega)]; omega
  rw [h1,h2]
  congr 4
  omega
theorem q747 (x c:Nat) (hx:x < 9223372036854775808) (hc0:0 < c) (hc:c ≤ 4611686018427387904):∀ (k:Nat),k ≤ 64 →
  loopM (q112 ⟨0,(x:Int)⟩ (c:Int)) (((x / 2 ^ k % c:Nat):Int),((x / 2 ^ k / c:Nat):Int),(k:Int) - 1) = some (.inl (((x % c:Nat):Int),((x / c:Nat):Int),-1))
 | 0,_=>by
  simp only [Nat.pow_zero,Nat.div_one]
  refine loopM_out ?_
  unfold q112
  rfl
 | k + 1,hk=>by
  have e:((k + 1:Nat):Int) - 1 = (k:Int):=by omega
  rw [e,loopM_next (q817 x c (x / 2 ^ (k + 1)) k (by omega) hx hc0 hc rfl)]
  exact q747 x c hx hc0 hc k (by omega)
theorem over_eq (x c:Nat) (hx:x < 9223372036854775808) (hc0:0 < c) (hc:c ≤ 4611686018427387904):q270 ⟨0,(x:Int)⟩ (c:Int) = some (((x / c:Nat):Int),((x % c:Nat):Int),true):=by
 unfold q270
 have e:decide ((0:Int) ≥ (c:Int)) = false:=by simp; omega
 simp only [e,cond_false]
 have:=q747 x c hx hc0 hc 64 (by decide)
 have h0:x / 2 ^ 64 = 0:=Nat.div_eq_of_lt (by omega)
 rw [h0,Nat.zero_mod,Nat.zero_div] at this
 rw [show ((64:Nat):Int) - 1 = 63 from rfl,show ((0:Nat):Int) = 0 from rfl] at this
 rw [this]
 rfl
theorem q309 (a c:Int) (h0:-4611686018427387904 ≤ a) (h1:a ≤ 4611686018427387904) (hc0:0 < c) (hc:c ≤ 4611686018427387904):q34 a c = some (a / c):=by
 unfold q34 q405 q333
 have e0:(c == 0) = false:=by simp; omega
 rw [e0,size_eq a h0 h1,size_eq c (by omega) hc,size_eq 1 (by decide) (by decide)]
 obtain ⟨k,rfl⟩:∃ k:Nat,c = k:=⟨c.toNat,by omega⟩
 obtain ⟨m,hm⟩:∃ m:Nat,a.natAbs = m:=⟨_,rfl⟩
 rw [hm]
 have hk:((k:Int).natAbs:Int) = (k:Int):=by omega
 simp only [show (((1:Int) != 1) && ((1:Int) != 2)) = false from rfl,Bool.false_and,cond_false,Option.bind_some,hk,show ((Int.natAbs 1:Nat):Int) = 1 from rfl]
 rw [q829 m (by omega)]
 simp only [Option.bind_some]
 rw [over_eq m k (by omega) (by omega) (by omega)]
 simp only [Option.bind_some,Bool.not_true,cond_false,show ((1:Int) == 1) = true from rfl,cond_true]
 have hq:m / k ≤ m:=Nat.div_le_self _ _
 have hdm:=Nat.div_add_mod m k
 have hr:=Nat.mod_lt m (show k > 0 by omega)
 generalize m / k = q at hq hdm
 generalize m % k = r at hr hdm
 have hck:decide ((k:Int) < 0) = false:=by simp
 have h1':decide ((1:Int) < 0) = false:=rfl
 rw [hck,h1',show ((1:Int) != 0) = true from rfl]
 by_cases ha:a < 0
 ·have e1:decide (a < 0) = true:=by simp [ha]
  have e2:(a != 0) = true:=by simp; omega
  rw [e1,e2]
  simp only [Bool.and_self,show (!((!(true == false)) == false)) = true from rfl,Bool.and_true,Bool.true_and]
  have hneg:a = -((k * q + r:Nat):Int):=by omega
  by_cases hr0:r = 0
  ·subst hr0
   simp only [show decide (((0:Nat):Int) > 0) = false from rfl,cond_false,Option.bind_some,cond_true]
   have e3:decide ((q:Int) > 9223372036854775808) = false:=decide_eq_false (by omega)
   rw [e3]
   simp only [cond_false,Option.bind_some,Option.some.injEq]
   have e4:a / (k:Int) = -(q:Int):=by
    rw [hneg,Nat.add_zero]
    have:(-((k * q:Nat):Int)) = (k:Int) * (-(q:Int)):=by rw [Int.mul_neg]; push_cast; rfl
    rw [this,Int.mul_ediv_cancel_left _ (by omega)]
   rw [e4]
   rcases Nat.eq_zero_or_pos q with hq0 | hq0
   ·subst hq0; decide
   ·rw [show (0:Int) - (q:Int) = -(q:Int) by omega,q608 hq0 (by omega)]
    exact w64_hi hq0 (by omega)
  ·have e3:decide ((r:Int) > 0) = true:=by simp; omega
   rw [e3]
   have e4:((q:Int) == 18446744073709551615) = false:=beq_eq_false_iff_ne.2 (by omega)
   simp only [cond_true,e4,cond_false,Option.bind_some]
   rw [u64w (n:=(q:Int) + 1) (by omega) (by omega)]
   have e5:decide ((q:Int) + 1 > 9223372036854775808) = false:=decide_eq_false (by omega)
   rw [e5]
   simp only [cond_false,Option.bind_some,Option.some.injEq]
   have e6:a / (k:Int) = -(q:Int) - 1:=by
    have:a = (k:Int) * (-(q:Int) - 1) + ((k - r:Nat):Int):=by
     have h5:(k:Int) * (-(q:Int) - 1) = -((k * q:Nat):Int) - (k:Int):=by rw [Int.mul_sub,Int.mul_neg,Int.mul_one]; push_cast; rfl
     rw [h5,hneg]; omega
    rw [this,Int.add_comm,Int.add_mul_ediv_left _ _ (by omega),Int.ediv_eq_zero_of_lt (by omega) (by omega)]
    omega
   rw [e6]
   rw [show (0:Int) - ((q:Int) + 1) = -((q + 1:Nat):Int) by omega,q608 (by omega) (by omega)]
   rw [w64_hi (by omega) (by omega)]
   omega
 ·have e1:decide (a < 0) = false:=by simp; omega
  rw [e1]
  simp only [show (!((!(false == false)) == false)) = false from rfl,Bool.and_false,cond_false,Option.bind_some,Bool.false_and]
  have e3:decide ((q:Int) ≥ 9223372036854775808) = false:=decide_eq_false (by omega)
  rw [e3]
  simp only [cond_false,Option.bind_some,Option.some.injEq]
  rw [w64_of (by omega) (by omega)]
  have:a = ((k * q + r:Nat):Int):=by omega
  rw [this]
  have e4:((k * q + r:Nat):Int) = (r:Int) + (k:Int) * (q:Int):=by push_cast; omega
  rw [e4,Int.add_mul_ediv_left _ _ (by omega),Int.ediv_eq_zero_of_lt (by omega) (by omega)]
  omega
end Go.Pv.R1
set_option linter.unusedSimpArgs false
set_option linter.unusedVariables false
namespace Go.Pv
open Go
theorem getI_nd (l:List Int) (i:Nat) (h:i < l.length):getI l (i:Int) = some (nd l i):=by rw [getI_get l i h,nd_get h]
theorem rloop {mb : Int → Option (Int ⊕ (Int ⊕ Empty))} {xs : List Int} (ha : Axis xs) {x : Int} (hm : ∀ i : Nat, i + 1 < xs.length → mb (i : Int) = some (bif decide (nd xs (i + 1) ≤ x) then .inl ((i + 1 : Nat) : Int) else .inr (.inl (i : Int))))
    (h0 : nd xs 0 ≤ x) (h1 : x < nd xs (xs.length - 1)) : ∃ i : Nat, SegAt xs x i ∧ loopM mb 0 = some (.inl (i : Int)) := by
  have h2 := ha.two
  have key : ∀ k i : Nat, i + k = xs.length - 1 → nd xs i ≤ x → ∃ j : Nat, SegAt xs x j ∧ loopM mb (i : Int) = some (.inl (j : Int)) := by
    intro k
    induction k with
    | zero => intro i hi hx; have : i = xs.length - 1 := by omega
              subst this; omega
    | succ k ih =>
      intro i hi hx
      have e := hm i (by omega)
      by_cases q : nd xs (i + 1) ≤ x
      · rw [decide_eq_true q] at e
        obtain ⟨j, j1, j2⟩ := ih (i + 1) (by omega) q
        exact ⟨j, j1, by rw [loopM_next e]; exact j2⟩
      · rw [decide_eq_false q] at e
        refine ⟨i, ⟨by omega, ?_, ?_, .inr ?_⟩, loopM_out e⟩
        · rw [← nd_get (by omega : i < xs.length)]; exact hx
        · rw [← nd_get (by omega : i + 1 < xs.length)]; omega
        · rw [← nd_get (by omega : i + 1 < xs.length)]; omega
  exact key (xs.length - 1) 0 (by omega) h0
theorem q805 {a c:Int} (h0:-4611686018427387904 ≤ a) (h1:a ≤ 4611686018427387904) (hc0:0 < c) (hc:c ≤ 4611686018427387904):q230 a c = some (a / c):=by
 have q0:-4611686018427387904 ≤ a / c:=by
  rw [Int.le_ediv_iff_mul_le hc0]
  omega
 have q1:a / c ≤ 4611686018427387904:=by
  have:=Int.ediv_le_ediv hc0 h1
  have h3:(4611686018427387904:Int) / c ≤ 4611686018427387904:=Int.ediv_le_self _ (by omega)
  omega
 have hw:∀ n:Int,-4611686018427387905 ≤ n → n ≤ 4611686018427387905 → IntKind.i64.wrap n = n:=fun n a b=>w64_of (by omega) (by omega)
 unfold q230 quoM remM
 rw [if_neg (by omega),if_neg (by omega),Int.tdiv_eq_ediv,Int.tmod_eq_emod]
 have m0:0 ≤ a % c:=Int.emod_nonneg _ (by omega)
 have m1:a % c < c:=Int.emod_lt_of_pos _ hc0
 by_cases hs:0 ≤ a ∨ c ∣ a
 ·have e0:a % c - ((0:Nat):Int) = a % c:=by omega
  rw [if_pos hs,if_pos hs,Int.add_zero,e0]
  simp only [Option.bind_some]
  rw [decide_eq_false (by omega),hw _ (by omega) (by omega)]
  rfl
 ·rw [if_neg hs,if_neg hs,Int.sign_eq_one_of_pos hc0]
  simp only [Option.bind_some]
  rw [decide_eq_true (by omega),hw _ (by omega) (by omega),cond_true,w64_of (by omega) (by omega)]
  congr 1
  omega
section
variable {xs ys:List Int}
theorem q757 (ha:Axis xs) (hy:ys.length = xs.length) (hb:∀ i,i < xs.length → -1073741824 ≤ nd ys i ∧ nd ys i ≤ 1073741824) (x:Int) {i:Nat} (hs:SegAt xs (lim xs x) i) :
  q141 xs ys x = some (itp (nd xs i) (nd xs (i + 1)) (nd ys i) (nd ys (i + 1)) (lim xs x)):=by
 have h2:=ha.two
 have h3:=ha.most
 have hl:=lim_nd ha x
 have h0l:=ha.nlt (i:=0) (j:=xs.length - 1) (by omega) (by omega)
 have ew:w64 ((xs.length:Int) - 1) = ((xs.length - 1:Nat):Int):=by rw [w64_of (by omega) (by omega)]; omega
 unfold q141
 rw [show (0:Int) = ((0:Nat):Int) from rfl,getI_nd xs 0 (by omega),Option.bind_some]
 by_cases q0:x ≤ nd xs 0
 ·have e:=q454 ha hs (fun j=>nd ys j) (c:=0) (by omega) (by omega)
  rw [decide_eq_true q0,cond_true,getI_nd ys 0 (by omega)]
  rw [e]; rfl
 ·rw [decide_eq_false q0,cond_false,ew,getI_nd xs _ (by omega),Option.bind_some]
  by_cases q1:x ≥ nd xs (xs.length - 1)
  ·have e:=q454 ha hs (fun j=>nd ys j) (c:=xs.length - 1) (by omega) (by omega)
   rw [decide_eq_true q1,cond_true,getI_nd ys _ (by omega)]
   rw [e]; rfl
  ·rw [decide_eq_false q1,cond_false]
   have el:lim xs x = x:=by omega
   rw [el] at hs ⊢
   obtain ⟨j,j1,j2⟩:=rloop (mb:=q165 xs x) ha (x:=x) (fun i hi=>by
    unfold q165
    rw [w64_of (by omega) (by omega),show (i:Int) + 1 = ((i + 1:Nat):Int) by omega,getI_nd xs _ hi,Option.bind_some]
    cases decide (nd xs (i + 1) ≤ x) <;> rfl) (by omega) (by omega)
   have hij:=SegAt.uniq ha j1 hs
   subst hij
   obtain ⟨k0,k1,k2,k3,k4,k5⟩:=hs.nd ha
   have b0:=hb j (by omega)
   have b1:=hb (j + 1) (by omega)
   have hp:=prod31 (a:=x - nd xs j) (b:=nd ys (j + 1) - nd ys j) (by omega) (by omega) (by omega) (by omega)
   have hbd:=q312 (lo:=-1073741824) (hi:=1073741824) k1 k2 k3 b0.1 b0.2 b1.1 b1.2
   rw [show loopM (q165 xs x) ((0:Nat):Int) = some (.inl (j:Int)) from j2]
   simp only [Option.bind_some]
   rw [w64_of (n:=(j:Int) + 1) (by omega) (by omega),show (j:Int) + 1 = ((j + 1:Nat):Int) by omega,getI_nd ys j (by omega),getI_nd xs j (by omega),getI_nd ys (j + 1) (by omega),getI_nd xs (j + 1) (by omega)]
   simp only [Option.bind_some]
   rw [w64_of (n:=x - nd xs j) (by omega) (by omega),w64_of (n:=nd ys (j + 1) - nd ys j) (by omega) (by omega),w64_of (n:=nd xs (j + 1) - nd xs j) (by omega) (by omega),w64_of (n:=(x - nd xs j) * (nd ys (j + 1) - nd ys j)) (by omega) (by omega),
    q805 hp.1 hp.2 (by omega) (by omega),Option.bind_some]
   unfold itp at hbd ⊢
   rw [w64_of (by omega) (by omega)]
end
theorem q609 {c:SCurve} (h:curB c = true) (x:Int):q118 c x = some (cAt c x):=by
 obtain ⟨i,hs,e⟩:=q366 h x
 have ec:cAt c x = cuV c i (lim c.X x):=by unfold cAt; rw [e]; rfl
 rw [ec]
 have hc:=curOk h
 have ha:=hc.x
 have h2:=ha.two
 have h3:=ha.most
 have hyl:=hc.yl
 have hl:=lim_nd ha x
 have h0l:=ha.nlt (i:=0) (j:=c.X.length - 1) (by omega) (by omega)
 have ew:w64 ((c.X.length:Int) - 1) = ((c.X.length - 1:Nat):Int):=by rw [w64_of (by omega) (by omega)]; omega
 unfold q118 cuV
 rw [show (0:Int) = ((0:Nat):Int) from rfl,getI_nd c.X 0 (by omega),Option.bind_some]
 by_cases q0:x ≤ nd c.X 0
 ·have e:=q454 ha hs (fun j=>nd c.Y j) (c:=0) (by omega) (by omega)
  rw [decide_eq_true q0,cond_true,getI_nd c.Y 0 (by omega)]
  rw [e]; rfl
 ·rw [decide_eq_false q0,cond_false,ew,getI_nd c.X _ (by omega),Option.bind_some]
  by_cases q1:x ≥ nd c.X (c.X.length - 1)
  ·have e:=q454 ha hs (fun j=>nd c.Y j) (c:=c.X.length - 1) (by omega) (by omega)
   rw [decide_eq_true q1,cond_true,getI_nd c.Y _ (by omega)]
   rw [e]; rfl
  ·rw [decide_eq_false q1,cond_false]
   have el:lim c.X x = x:=by omega
   rw [el] at hs ⊢
   obtain ⟨j,j1,j2⟩:=rloop (mb:=q244 c x) ha (x:=x) (fun i hi=>by
    unfold q244
    rw [w64_of (by omega) (by omega),show (i:Int) + 1 = ((i + 1:Nat):Int) by omega,getI_nd c.X _ hi,Option.bind_some]
    cases decide (nd c.X (i + 1) ≤ x) <;> rfl) (by omega) (by omega)
   have hij:=SegAt.uniq ha j1 hs
   subst hij
   obtain ⟨k0,k1,k2,k3,k4,k5⟩:=hs.nd ha
   have b0:=hc.el j (by omega)
   have b1:=hc.el (j + 1) (by omega)
   have hp:=prod31 (a:=x - nd c.X j) (b:=nd c.Y (j + 1) - nd c.Y j) (by omega) (by omega) (by omega) (by omega)
   have hbd:=q312 (lo:=-1073741824) (hi:=1073741824) k1 k2 k3 b0.1 b0.2 b1.1 b1.2
   rw [show loopM (q244 c x) ((0:Nat):Int) = some (.inl (j:Int)) from j2]
   simp only [Option.bind_some]
   rw [w64_of (n:=(j:Int) + 1) (by omega) (by omega),show (j:Int) + 1 = ((j + 1:Nat):Int) by omega,getI_nd c.Y j (by omega),getI_nd c.X j (by omega),getI_nd c.Y (j + 1) (by omega),getI_nd c.X (j + 1) (by omega)]
   simp only [Option.bind_some]
   rw [w64_of (n:=x - nd c.X j) (by omega) (by omega),w64_of (n:=nd c.Y (j + 1) - nd c.Y j) (by omega) (by omega),w64_of (n:=nd c.X (j + 1) - nd c.X j) (by omega) (by omega),w64_of (n:=(x - nd c.X j) * (nd c.Y (j + 1) - nd c.Y j)) (by omega) (by omega),
    R1.q309 _ _ hp.1 hp.2 (by omega) (by omega),Option.bind_some]
   unfold itp at hbd ⊢
   rw [w64_of (by omega) (by omega)]
theorem q617 {α:Type} (f:Nat → α) (k:Nat):(List.range k).map f ++ [f k] = (List.range (k + 1)).map f:=by rw [List.range_succ,List.map_append]; rfl
theorem nd_map (f:Nat → Int) (n i:Nat) (h:i < n):nd ((List.range n).map f) i = f i:=by unfold nd; rw [List.getD_eq_getElem?_getD,List.getElem?_map,List.getElem?_range h]; rfl
theorem q808 {m:SMap} (h:MapOk m) (x:Int) {i:Nat} (hs:SegAt m.X (lim m.X x) i):q206 m x = some ((List.range m.Y.length).map (along m i (lim m.X x))):=by
 have h2:=h.x.most
 have h3:=h.y.most
 unfold q206
 have key:=loopM_count (mb:=q138 m x) (σ:=fun k:Nat=>((List.range k).map (along m i (lim m.X x)),(k:Int))) (b0:=.inl ((List.range m.Y.length).map (along m i (lim m.X x)),(m.Y.length:Int))) m.Y.length (by
   unfold q138
   rw [decide_eq_false (by simp)]; rfl) (fun j hj=>by
   have inner:=loopM_count (mb:=q132 m ((List.range j).map (along m i (lim m.X x)),(j:Int))) (σ:=fun k:Nat=>((List.range k).map (fun k=>zz m k j),(k:Int))) (b0:=.inl ((List.range m.X.length).map (fun k=>zz m k j),(m.X.length:Int))) m.X.length (by
     unfold q132
     rw [decide_eq_false (by simp)]; rfl) (fun k hk=>by
     have hk':k < m.Z.length:=by rw [h.zl]; exact hk
     have hl:=h.rl k hk'
     unfold q132
     simp only
     rw [decide_eq_true (by omega),cond_true,getI_get m.Z k hk',Option.bind_some,getI_get _ j (by omega),Option.bind_some,appendM_ok _ _ (by simp; omega),Option.bind_some,← zz_get hk' (by omega),q617 (fun k=>zz m k j) k,w64_of (by omega) (by omega)]
     rfl)
   unfold q138
   simp only
   rw [decide_eq_true (by omega),cond_true,show (([]:List Int),(0:Int)) = ((List.range 0).map (fun k=>zz m k j),((0:Nat):Int)) from rfl,inner]
   simp only [Option.bind_some]
   rw [q757 h.x (by simp) (fun k hk=>by rw [nd_map _ _ _ hk]; exact h.el k j hk hj) x hs,Option.bind_some,appendM_ok _ _ (by simp; omega),Option.bind_some,w64_of (by omega) (by omega)]
   obtain ⟨k0,_⟩:=hs.nd h.x
   rw [nd_map _ _ _ (by omega:i < m.X.length),nd_map _ _ _ k0,show itp (nd m.X i) (nd m.X (i + 1)) (zz m i j) (zz m (i + 1) j) (lim m.X x) = along m i (lim m.X x) j from rfl,q617 (along m i (lim m.X x)) j]
   rfl)
 rw [show (([]:List Int),(0:Int)) = ((List.range 0).map (along m i (lim m.X x)),((0:Nat):Int)) from rfl,key]
 rfl
theorem q611 {m:SMap} (h:mapB m = true) (x y:Int):q116 m x y = some (sAt m x y):=by
 obtain ⟨i,j,hi,hj,e⟩:=At_eq h x y
 have ec:sAt m x y = atV m i j (lim m.X x) (lim m.Y y):=by unfold sAt; rw [e]; rfl
 have ho:=mapOk h
 obtain ⟨k0,_⟩:=hi.nd ho.x
 obtain ⟨l0,_⟩:=hj.nd ho.y
 rw [ec]
 unfold q116 q348
 rw [q326,h,Option.bind_some,Bool.not_true,cond_false,q808 ho x hi,Option.bind_some,q757 ho.y (by simp) (fun j hj=>by
  rw [nd_map _ _ _ hj]
  exact q521 ho hi (ho.el i j (by omega) hj).1 (ho.el i j (by omega) hj).2 (ho.el (i + 1) j k0 hj).1 (ho.el (i + 1) j k0 hj).2) y hj,Option.bind_some,Option.bind_some,nd_map _ _ _ (by omega:j < m.Y.length),nd_map _ _ _ l0]
 rfl
end Go.Pv
set_option linter.unusedSimpArgs false
set_option linter.unusedVariables false
namespace Go.Pv
open Go
theorem itp_alt {x0 x1 y0 y1 x:Int} (h:x0 < x1):itp x0 x1 y0 y1 x = (y0 * (x1 - x) + y1 * (x - x0)) / (x1 - x0):=by
 unfold itp
 have e:y0 * (x1 - x) + y1 * (x - x0) = (x - x0) * (y1 - y0) + y0 * (x1 - x0):=by
  simp only [Int.mul_sub,Int.sub_mul,Int.mul_comm x y1,Int.mul_comm x y0,Int.mul_comm x0 y1,Int.mul_comm x0 y0]
  omega
 rw [e,Int.add_mul_ediv_right _ _ (by omega)]
 omega
theorem q827 {x0 x1 y0 y1 z0 z1 x:Int} (h:x0 < x1) (a:x0 ≤ x) (b:x ≤ x1) (h0:y0 ≤ z0) (h1:y1 ≤ z1):itp x0 x1 y0 y1 x ≤ itp x0 x1 z0 z1 x:=by
 rw [itp_alt h,itp_alt h]
 refine Int.ediv_le_ediv (by omega) ?_
 have m1:=Int.mul_le_mul_of_nonneg_right h0 (show 0 ≤ x1 - x by omega)
 have m2:=Int.mul_le_mul_of_nonneg_right h1 (show 0 ≤ x - x0 by omega)
 omega
theorem q654 {x0 x1 y0 y1 x z:Int} (h:x0 < x1) (hy:y0 ≤ y1) (a:x ≤ z):itp x0 x1 y0 y1 x ≤ itp x0 x1 y0 y1 z:=by
 unfold itp
 have:=Int.ediv_le_ediv (show 0 < x1 - x0 by omega) (Int.mul_le_mul_of_nonneg_right (show x - x0 ≤ z - x0 by omega) (show 0 ≤ y1 - y0 by omega))
 omega
theorem q659 {x0 x1 y0 y1 x z:Int} (h:x0 < x1) (hy:y1 ≤ y0) (a:x ≤ z):itp x0 x1 y0 y1 z ≤ itp x0 x1 y0 y1 x:=by
 unfold itp
 have:=Int.ediv_le_ediv (show 0 < x1 - x0 by omega) (Int.mul_le_mul_of_nonpos_right (show x - x0 ≤ z - x0 by omega) (show y1 - y0 ≤ 0 by omega))
 omega
theorem q882 {l:List Int} (ha:Axis l) {f:Nat → Int} (hf:∀ i j,i ≤ j → j < l.length → f i ≤ f j) {v w:Int} (hvw:v ≤ w) {i j:Nat} (hi:SegAt l v i) (hj:SegAt l w j) :
  itp (nd l i) (nd l (i + 1)) (f i) (f (i + 1)) v ≤ itp (nd l j) (nd l (j + 1)) (f j) (f (j + 1)) w:=by
 obtain ⟨a0,a1,a2,a3,_,_⟩:=hi.nd ha
 obtain ⟨b0,b1,b2,b3,_,_⟩:=hj.nd ha
 rcases Nat.lt_trichotomy i j with h | h | h
 ·have e1:=q654 a3 (hf i (i + 1) (by omega) a0) a2
  rw [q641 a3] at e1
  have e2:=q654 b3 (hf j (j + 1) (by omega) b0) b1
  rw [q692] at e2
  have:=hf (i + 1) j (by omega) (by omega)
  omega
 ·subst h
  exact q654 a3 (hf i (i + 1) (by omega) a0) hvw
 ·have:=ha.nle (i:=j + 1) (j:=i) (by omega) (by omega)
  have e:v = w:=by omega
  subst e
  have:=hi.uniq ha hj
  omega
theorem q847 {l:List Int} (ha:Axis l) {f:Nat → Int} (hf:∀ i j,i ≤ j → j < l.length → f j ≤ f i) {v w:Int} (hvw:v ≤ w) {i j:Nat} (hi:SegAt l v i) (hj:SegAt l w j) :
  itp (nd l j) (nd l (j + 1)) (f j) (f (j + 1)) w ≤ itp (nd l i) (nd l (i + 1)) (f i) (f (i + 1)) v:=by
 obtain ⟨a0,a1,a2,a3,_,_⟩:=hi.nd ha
 obtain ⟨b0,b1,b2,b3,_,_⟩:=hj.nd ha
 rcases Nat.lt_trichotomy i j with h | h | h
 ·have e1:=q659 a3 (hf i (i + 1) (by omega) a0) a2
  rw [q641 a3] at e1
  have e2:=q659 b3 (hf j (j + 1) (by omega) b0) b1
  rw [q692] at e2
  have:=hf (i + 1) j (by omega) (by omega)
  omega
 ·subst h
  exact q659 a3 (hf i (i + 1) (by omega) a0) hvw
 ·have:=ha.nle (i:=j + 1) (j:=i) (by omega) (by omega)
  have e:v = w:=by omega
  subst e
  have:=hi.uniq ha hj
  omega
theorem q780 (l:List Int) {x y:Int} (h:x ≤ y):lim l x ≤ lim l y:=by unfold lim; omega
theorem q782 {f : Nat → Int} {n : Nat} (h : ∀ i, i + 1 < n → f i ≤ f (i + 1)) : ∀ i j, i ≤ j → j < n → f i ≤ f j := by
  intro i j
  induction j with
  | zero => intro hi _; have : i = 0 := by omega
            subst this; exact Int.le_refl _
  | succ j ih =>
    intro hi hj
    rcases Nat.lt_or_ge i (j + 1) with q | q
    · have := ih (by omega) (by omega)
      have := h j hj
      omega
    · have : i = j + 1 := by omega
      subst this; exact Int.le_refl _
theorem q850 {f:Nat → Int} {n:Nat} (h:∀ i,i + 1 < n → f (i + 1) ≤ f i):∀ i j,i ≤ j → j < n → f j ≤ f i:=by
 intro i j hi hj
 have:=q782 (f:=fun i=>-f i) (n:=n) (fun i hi=>by have:=h i hi; omega) i j hi hj
 omega
theorem q773 {m:SMap} (h:mapB m = true) (hz:∀ i j,i < m.X.length → j + 1 < m.Y.length → zz m i j ≤ zz m i (j + 1)) (x:Int) {y w:Int} (hyw:y ≤ w):sAt m x y ≤ sAt m x w:=by
 obtain ⟨i,j,hi,hj,e⟩:=At_eq h x y
 obtain ⟨i',k,hi',hk,e'⟩:=At_eq h x w
 have ho:=mapOk h
 have hii:=hi'.uniq ho.x hi
 subst hii
 obtain ⟨k0,k1,k2,k3,_,_⟩:=hi.nd ho.x
 have a:sAt m x y = atV m i' j (lim m.X x) (lim m.Y y):=by unfold sAt; rw [e]; rfl
 have b:sAt m x w = atV m i' k (lim m.X x) (lim m.Y w):=by unfold sAt; rw [e']; rfl
 rw [a,b]
 exact q882 ho.y (f:=along m i' (lim m.X x)) (q782 fun j hj=>q827 k3 k1 k2 (hz i' j (by omega) hj) (hz (i' + 1) j k0 hj)) (q780 _ hyw) hj hk
theorem q848 {c:SCurve} (h:curB c = true) (hy:∀ j,j + 1 < c.X.length → nd c.Y (j + 1) ≤ nd c.Y j) {x y:Int} (hxy:x ≤ y):cAt c y ≤ cAt c x:=by
 obtain ⟨i,hi,e⟩:=q366 h x
 obtain ⟨j,hj,e'⟩:=q366 h y
 have a:cAt c x = cuV c i (lim c.X x):=by unfold cAt; rw [e]; rfl
 have b:cAt c y = cuV c j (lim c.X y):=by unfold cAt; rw [e']; rfl
 rw [a,b]
 exact q847 (curOk h).x (f:=nd c.Y) (q850 hy) (q780 _ hxy) hi hj
theorem q772 {t:STables} (h:torB t = true) (s:Int) {a b:Int} (hab:a ≤ b):sAt t.Torque s a ≤ sAt t.Torque s b:=q773 (q453 h) (torOk h).za s hab
theorem q864 {t:STables} (h:torB t = true) {a b:Int} (hab:a ≤ b):cAt t.Efficiency b ≤ cAt t.Efficiency a:=q848 (q620 h) (torOk h).ed hab
theorem air_za {t:STables} (h:airB t = true):∀ i j,i < t.Air.X.length → j + 1 < t.Air.Y.length → zz t.Air i j ≤ zz t.Air i (j + 1):=by
 intro i j hi hj
 have hm:=mapOk (airOk h).m
 unfold airB at h
 simp only [Bool.and_eq_true,List.all_eq_true] at h
 have hi':i < t.Air.Z.length:=by rw [hm.zl]; exact hi
 have hr:=h.1.2 _ (List.getElem_mem hi')
 unfold airRow at hr
 rw [Bool.and_eq_true] at hr
 have hl:=hm.rl i hi'
 have:=asc_le hr.2 (j + 1) j (by omega) (by omega)
 rwa [nd_get (by omega),nd_get (by omega),← zz_get hi' (by omega),← zz_get hi' (by omega)] at this
theorem ch_mono {t:STables} (h:airB t = true) (s q:Int) {a b:Int} (hab:a ≤ b):chV t s a q ≤ chV t s b q:=by
 unfold chV
 have k:=airOk h
 have m:=q773 k.m (air_za h) s hab
 have c:=(q428 k.c q k.y).1
 have:=Int.ediv_le_ediv (show (0:Int) < 1000 by omega) (Int.mul_le_mul_of_nonneg_right m (show 0 ≤ cAt t.AirTemp q by omega))
 omega
theorem q870 {t:STables} (h:torB t = true) {o f n:Int} (o0:0 ≤ o) (f0:0 ≤ f) (n0:1 ≤ n) {a b:Int} (hab:a ≤ b):torV t o b f n ≤ torV t o a f n:=by
 unfold torV
 refine Int.ediv_le_ediv (by omega) (Int.mul_le_mul_of_nonneg_right (Int.mul_le_mul_of_nonneg_left (q864 h hab) o0) f0)
structure Bis (p:Int → Prop) (lo hi j:Int):Prop where
 a:lo ≤ j
 b:j ≤ hi
 h1:j < hi → p j
 h0:lo < j → ¬ p (j - 1)
theorem Bis.uniq {p:Int → Prop} {lo hi j k:Int} (mono:∀ x y,lo ≤ x → x ≤ y → y < hi → p x → p y) (x:Bis p lo hi j) (y:Bis p lo hi k):j = k:=by
 obtain ⟨a1,b1,c1,d1⟩:=x
 obtain ⟨a2,b2,c2,d2⟩:=y
 rcases Int.lt_trichotomy j k with h | h | h
 ·exact absurd (mono j (k - 1) (by omega) (by omega) (by omega) (c1 (by omega))) (d2 (by omega))
 ·exact h
 ·exact absurd (mono k (j - 1) (by omega) (by omega) (by omega) (c2 (by omega))) (d1 (by omega))
theorem q520 {R:Type} {mb:Int × Int → Option ((Int × Int) ⊕ ((Int × Int) ⊕ R))} {p:Int → Prop} {lo hi:Int} (hm:∀ a b,lo ≤ a → a < b → b ≤ hi → ∃ m,a ≤ m ∧ m < b ∧ ((p m ∧ mb (a,b) = some (.inl (a,m))) ∨ (¬ p m ∧ mb (a,b) = some (.inl (m + 1,b)))))
  (he:∀ a,lo ≤ a → a ≤ hi → mb (a,a) = some (.inr (.inl (a,a)))) (h:lo ≤ hi):∃ j,loopM mb (lo,hi) = some (.inl (j,j)) ∧ Bis p lo hi j:=by
 have key:∀ (n:Nat) (a b:Int),b - a ≤ n → lo ≤ a → a ≤ b → b ≤ hi → (b < hi → p b) → (lo < a → ¬ p (a - 1)) → ∃ j,loopM mb (a,b) = some (.inl (j,j)) ∧ Bis p lo hi j:=by
  intro n
  induction n with
  | zero=>
   intro a b hn h1 h2 h3 h4 h5
   have:a = b:=by omega
   subst this
   exact ⟨a,loopM_out (he a h1 h3),⟨h1,h3,h4,h5⟩⟩
  | succ n ih=>
   intro a b hn h1 h2 h3 h4 h5
   by_cases q:a = b
   ·subst q
    exact ⟨a,loopM_out (he a h1 h3),⟨h1,h3,h4,h5⟩⟩
   ·obtain ⟨m,m1,m2,hmm⟩:=hm a b h1 (by omega) h3
    rcases hmm with ⟨e1,e2⟩ | ⟨e1,e2⟩
    ·rw [loopM_next e2]
     exact ih a m (by omega) h1 m1 (by omega) (fun _=>e1) h5
    ·rw [loopM_next e2]
     exact ih (m + 1) b (by omega) (by omega) (by omega) h3 h4 (fun _=>by rw [show m + 1 - 1 = m by omega]; exact e1)
 exact key (hi - lo).toNat lo hi (by omega) (Int.le_refl _) h (Int.le_refl _) (fun h=>by omega) (fun h=>by omega)
end Go.Pv
set_option linter.unusedSimpArgs false
set_option linter.unusedVariables false
namespace Go.Pv
open Go
theorem min_comm' (a b:Int):min a b = min b a:=by omega
theorem q698 {a b:Int} (ha:-4611686018427387904 ≤ a) (hb:b ≤ 4611686018427387903) (h:a < b) (h0:0 ≤ a):w64 (Int.tdiv (w64 (a + b)) 2) = (a + b) / 2 ∧ a ≤ (a + b) / 2 ∧ (a + b) / 2 < b:=by
 rw [w64_of (n:=a + b) (by omega) (by omega),Int.tdiv_eq_ediv_of_nonneg (by omega),w64_of (by omega) (by omega)]
 exact ⟨rfl,by omega,by omega⟩
theorem q714 {t:STables} (h:airB t = true) (s p q:Int):q127 t s p q = some (chV t s p q):=by
 have k:=airOk h
 have a:=q365 k.m s p k.z
 have c:=q428 k.c q k.y
 have hp:=prod_le a.1 a.2 (show 0 ≤ cAt t.AirTemp q by omega) c.2
 unfold q127 chV
 rw [q611 k.m,Option.bind_some,q609 k.c,Option.bind_some,w64_of (by omega) (by omega),R1.q309 _ _ (by omega) (by omega) (by omega) (by omega),Option.bind_some,minI_eq,min_comm']
theorem q801 {t:STables} (h:airB t = true) {s p q:Int} (s0:0 ≤ s ∧ s ≤ 12000) (p0:50 ≤ p ∧ p ≤ 3000) (q0:-40 ≤ q ∧ q ≤ 150):q208 t s p q = some (chV t s p q,0):=by
 unfold q208
 rw [q448,h,q64,q64,q64,in_true s0.1 s0.2,in_true p0.1 p0.2,in_true q0.1 q0.2,q714 h]
 rfl
theorem q825 {t:STables} (h:airB t = true) {s w q p e:Int} (s0:0 ≤ s ∧ s ≤ 12000) (q0:-40 ≤ q ∧ q ≤ 150) (k:PrOk t s w q p e):∃ p' e',q155 t s w q = some (p',e') ∧ (e' = 0 ↔ e = 0) ∧ (e = 0 → p' = p):=by
 unfold q155
 rw [q448,h,q64,q64,q64,in_true s0.1 s0.2,in_true q0.1 q0.2]
 simp only [Option.bind_some,Bool.not_true,cond_false]
 by_cases hw:0 ≤ w ∧ w ≤ 1048576
 ·rw [in_true hw.1 hw.2]
  simp only [Option.bind_some,Bool.not_true,cond_false]
  have hne:e ≠ 2:=fun he=>(k.ran.1 he) hw
  obtain ⟨j,hl,hb⟩:=q520 (mb:=q111 t s w q) (p:=fun m=>w ≤ chV t s m q) (lo:=50) (hi:=3001) (fun a b h1 h2 h3=>by
   obtain ⟨e1,e2,e3⟩:=q698 (a:=a) (b:=b) (by omega) (by omega) h2 (by omega)
   refine ⟨(a + b) / 2,e2,e3,?_⟩
   unfold q111
   simp only
   rw [decide_eq_true h2,cond_true,e1,q714 h,Option.bind_some]
   by_cases q:w ≤ chV t s ((a + b) / 2) q
   ·exact .inl ⟨q,by rw [decide_eq_true q]; rfl⟩
   ·exact .inr ⟨q,by rw [decide_eq_false q,cond_false,w64_of (by omega) (by omega)]⟩) (fun a h1 h2=>by
   unfold q111
   simp only
   rw [decide_eq_false (by omega)]; rfl) (by omega)
  rw [hl]
  simp only [Option.bind_some]
  have mono:∀ x y,(50:Int) ≤ x → x ≤ y → y < 3001 → w ≤ chV t s x q → w ≤ chV t s y q:=fun x y _ h2 _ h4=>Int.le_trans h4 (ch_mono h s q h2)
  rcases k.out with h0 | h0 | h0
  ·have f:=k.fit h0
   have hj:=Bis.uniq mono hb ⟨f.1,by omega,fun _=>f.2.2,fun hlt=>by have:=k.low h0 hlt; omega⟩
   subst hj
   rw [decide_eq_false (by omega)]
   exact ⟨j,0,rfl,by omega,fun _=>rfl⟩
  ·exact absurd h0 hne
  ·have f:=k.big h0
   have hj:=Bis.uniq mono hb ⟨show (50:Int) ≤ 3001 by omega,Int.le_refl _,fun hlt=>by omega,fun _=>by show ¬ w ≤ chV t s (3001 - 1) q; rw [show (3001:Int) - 1 = 3000 from rfl]; omega⟩
   subst hj
   exact ⟨0,7,rfl,by omega,fun he=>by omega⟩
 ·have he:e = 2:=k.ran.2 hw
  have:inR 0 1048576 w = false:=by
   cases hc:inR 0 1048576 w
   ·rfl
   ·exact absurd (inR_iff.1 hc) hw
  rw [this]
  exact ⟨0,2,rfl,by omega,fun h0=>by omega⟩
theorem q855 {s:Int} (s0:0 ≤ s ∧ s ≤ 12000):q186 s = some (rpmV s):=by
 unfold q186
 obtain ⟨j,hl,hb⟩:=q520 (mb:=q126 s) (p:=fun m=>s ≤ m * 60000000 / 1509949440) (lo:=0) (hi:=1048576) (fun a b h1 h2 h3=>by
  refine ⟨(a + b) / 2,by omega,by omega,?_⟩
  unfold q126 q409
  simp only
  rw [decide_eq_true h2,cond_true,w64_of (by omega) (by omega),R1.q309 _ _ (by omega) (by omega) (by omega) (by omega),Option.bind_some,w64_of (by omega) (by omega),R1.q309 _ _ (by omega) (by omega) (by omega) (by omega)]
  simp only [Option.bind_some]
  by_cases q:s ≤ (a + b) / 2 * 60000000 / 1509949440
  ·exact .inl ⟨q,by rw [decide_eq_true q]; rfl⟩
  ·exact .inr ⟨q,by rw [decide_eq_false q,cond_false,w64_of (by omega) (by omega)]⟩) (fun a h1 h2=>by
  unfold q126
  simp only
  rw [decide_eq_false (by omega)]; rfl) (by omega)
 rw [hl]
 simp only [Option.bind_some,Option.some.injEq]
 refine Bis.uniq (p:=fun m=>s ≤ m * 60000000 / 1509949440) (lo:=0) (hi:=1048576) (fun x y _ h2 _ h4=>by omega) hb ?_
 unfold rpmV
 exact ⟨by omega,by omega,fun _=>by omega,fun _=>by omega⟩
theorem q854 {s p:Int} (s0:0 ≤ s ∧ s ≤ 12000) (p0:50 ≤ p ∧ p ≤ 3000):q275 s p = some (flowV s p,0):=by
 have r:=q721 s0
 have hp:=prod_le r.1 r.2 (show 0 ≤ p by omega) p0.2
 unfold q275 flowV
 rw [q64,q64,in_true s0.1 s0.2,in_true p0.1 p0.2]
 simp only [Option.bind_some,Bool.not_true,cond_false]
 rw [q855 s0,Option.bind_some,w64_of (by omega) (by omega),R1.q309 _ _ (by omega) (by omega) (by omega) (by omega)]
 rfl
theorem q871 (b:SBody):q284 b = some (bodyB b):=by
 unfold q284 bodyB
 simp only [q64,Option.bind_some]
 cases inR 100 1048576 b.Inertia <;> cases inR 0 65536 b.Friction <;> cases inR 0 65536 b.Throttle <;> cases inR 1 65536 b.Volume <;> cases inR 0 1023 b.Film <;> cases inR 1 1024 b.Evaporate <;> cases inR 0 20 b.Delay <;> rfl
theorem q789 {b:SBody} (h:bodyB b = true) {f p n e:Int} (f0:0 ≤ f ∧ f ≤ 1099511627776) (p0:50 ≤ p ∧ p ≤ 1013) (k:ThOk b f p n e):∃ n' e',q159 b f p = some (n',e') ∧ (e' = 0 ↔ e = 0) ∧ (e = 0 → n' = n):=by
 have kb:=(bodyOk h).t
 unfold q159
 rw [q871,h,q64,q64,in_true f0.1 f0.2,in_true p0.1 p0.2]
 simp only [Option.bind_some,Bool.not_true,cond_false]
 have v:∀ x:Int,0 ≤ x → x ≤ 1000 → q46 b f p x = some (bif decide (f ≤ b.Throttle * x * (1013 - p) / 1000) then .inr (.inr (x,0)) else .inl (x + 1)):=fun x x0 x1=>by
  have h1:=prod_le kb.1 kb.2 x0 x1
  have h2:=prod_le h1.1 h1.2 (show 0 ≤ 1013 - p by omega) (show 1013 - p ≤ 1013 by omega)
  unfold q46
  rw [decide_eq_true x1,cond_true,w64_of (n:=b.Throttle * x) (by omega) (by omega),w64_of (n:=1013 - p) (by omega) (by omega),w64_of (by omega) (by omega),R1.q309 _ _ (by omega) (by omega) (by omega) (by omega),Option.bind_some,w64_of (n:=x + 1) (by omega) (by omega)]
  by_cases q:f ≤ b.Throttle * x * (1013 - p) / 1000
  ·rw [decide_eq_true q]; simp only [ge_iff_le,decide_eq_true q,cond_true]
  ·rw [decide_eq_false q]; simp only [ge_iff_le,decide_eq_false q,cond_false]
 have mono:∀ x y:Int,x ≤ y → b.Throttle * x * (1013 - p) / 1000 ≤ b.Throttle * y * (1013 - p) / 1000:=fun x y hxy=>
  Int.ediv_le_ediv (by omega) (Int.mul_le_mul_of_nonneg_right (Int.mul_le_mul_of_nonneg_left hxy kb.1) (by omega))
 have run:∀ (m:Nat) (x:Int),0 ≤ x → (∀ y,x ≤ y → y < x + m → ¬ f ≤ b.Throttle * y * (1013 - p) / 1000) → x + m ≤ 1001 → loopM (q46 b f p) x = loopM (q46 b f p) (x + m):=by
  intro m
  induction m with
  | zero=>intro x _ _ _; rw [show x + ((0:Nat):Int) = x by omega]
  | succ m ih=>
   intro x x0 hx hm
   have e:=v x x0 (by omega)
   rw [decide_eq_false (hx x (Int.le_refl _) (by omega))] at e
   rw [loopM_next e,ih (x + 1) (by omega) (fun y h1 h2=>hx y (by omega) (by omega)) (by omega),show x + 1 + (m:Int) = x + ((m + 1:Nat):Int) by omega]
 rcases k.out with h0 | h0
 ·obtain ⟨n0,n1,n2⟩:=k.fit h0
  have hr:=run n.toNat 0 (Int.le_refl _) (fun y y0 y1 hy=>by
   have:=k.low h0 (by omega)
   have:=mono y (n - 1) (by omega)
   omega) (by omega)
  have e:=v n n0 n1
  rw [decide_eq_true n2] at e
  rw [show (0:Int) + (n.toNat:Int) = n by omega,loopM_out e] at hr
  rw [hr]
  exact ⟨n,0,rfl,by omega,fun _=>rfl⟩
 ·have hb:=k.big h0
  have hr:=run 1001 0 (Int.le_refl _) (fun y y0 y1 hy=>by
   have:=mono y 1000 (by omega)
   omega) (by omega)
  have e:q46 b f p (0 + ((1001:Nat):Int)) = some (.inr (.inl 1001)):=by
   unfold q46; rfl
  rw [loopM_out e] at hr
  rw [hr]
  exact ⟨0,7,rfl,by omega,fun h=>by omega⟩
theorem ropt_eq {t:STables} (h:torB t = true) (s c:Int):q78 t s c = some (optV t s c):=by
 unfold q78 optV
 rw [q611 (q453 h)]; rfl
theorem q719 {t:STables} (h:torB t = true) (s c:Int):0 ≤ optV t s c ∧ optV t s c ≤ 10000:=q365 (q453 h) s c (torOk h).z
theorem rtor_eq {t:STables} (h:torB t = true) (s c l:Int) {f n:Int} (f0:0 ≤ f ∧ f ≤ n) (n0:1 ≤ n ∧ n ≤ 8):q88 t s c l f n = some (torV t (optV t s c) l f n):=by
 have o:=q719 h s c
 have e:=q751 h l
 have h1:=prod_le o.1 o.2 e.1 e.2
 have h2:=prod_le h1.1 h1.2 f0.1 (show f ≤ 8 by omega)
 unfold q88 q215
 rw [ropt_eq h,Option.bind_some,q609 (q620 h)]
 simp only [Option.bind_some]
 rw [w64_of (n:=optV t s c * cAt t.Efficiency l) (by omega) (by omega),w64_of (n:=optV t s c * cAt t.Efficiency l * f) (by omega) (by omega),w64_of (n:=1000 * n) (by omega) (by omega),quoE h2.1 (by omega) (by omega)]
 rfl
theorem q840 {t:STables} (h:torB t = true) {s w c e:Int} (hc:q219 t s w = some (c,e)) (s0:0 ≤ s ∧ s ≤ 12000):∃ c' b,q227 t s w = some (c',b) ∧ (b = true ↔ e = 0) ∧ (e = 0 → c' = c):=by
 obtain ⟨c1,e1,he,h1,h2,h3⟩:=q699 h (w:=w) s0
 rw [he] at hc
 cases hc
 have k:=q453 h
 have ky:=(mapOk k).y
 have y2:=ky.two
 have ym:=ky.most
 have e0:=ky.el 0 (by omega)
 have e1':=ky.el (t.Torque.Y.length - 1) (by omega)
 have le:=ky.le (t.Torque.Y.length - 1) 0 (by omega) (by omega)
 rw [← nd_get (by omega:0 < t.Torque.Y.length)] at e0 le
 rw [← nd_get (by omega:t.Torque.Y.length - 1 < t.Torque.Y.length)] at e1' le
 have ew:w64 ((t.Torque.Y.length:Int) - 1) = ((t.Torque.Y.length - 1:Nat):Int):=by rw [w64_of (by omega) (by omega)]; omega
 unfold q227
 rw [show (0:Int) = ((0:Nat):Int) from rfl,getI_nd _ 0 (by omega),Option.bind_some,ew,getI_nd _ _ (by omega),Option.bind_some,ropt_eq h,Option.bind_some]
 unfold optV
 generalize nd t.Torque.Y 0 = a at *
 generalize nd t.Torque.Y (t.Torque.Y.length - 1) = b at *
 by_cases hb:sAt t.Torque s b < w
 ·rw [decide_eq_true hb]
  refine ⟨_,false,rfl,⟨fun h=>(by cases h),fun h0=>?_⟩,fun h0=>?_⟩
  all_goals
   obtain ⟨q1,q2,q3,_⟩:=h2 h0
   have:=q772 h s q2
   omega
 ·rw [decide_eq_false hb]
  have h0:e = 0:=by
   rcases h1 with h1 | h1
   ·exact h1
   ·exact absurd (h3 h1) hb
  obtain ⟨q1,q2,q3,q4⟩:=h2 h0
  obtain ⟨j,hl,hj⟩:=q520 (mb:=q150 t s w) (p:=fun m=>w ≤ sAt t.Torque s m) (lo:=a) (hi:=b) (fun x y h1 h2 h3=>by
   have em:w64 (x + (w64 (Int.tdiv (w64 (y - x)) 2))) = x + (y - x) / 2:=by
    rw [w64_of (n:=y - x) (by omega) (by omega),Int.tdiv_eq_ediv_of_nonneg (by omega),w64_of (n:=(y - x) / 2) (by omega) (by omega),w64_of (by omega) (by omega)]
   refine ⟨x + (y - x) / 2,by omega,by omega,?_⟩
   unfold q150
   simp only
   rw [decide_eq_true h2,cond_true,em,ropt_eq h,Option.bind_some]
   unfold optV
   by_cases q:w ≤ sAt t.Torque s (x + (y - x) / 2)
   ·exact .inl ⟨q,by rw [decide_eq_true q]; rfl⟩
   ·exact .inr ⟨q,by rw [decide_eq_false q,cond_false,w64_of (by omega) (by omega)]⟩) (fun x h1 h2=>by
   unfold q150
   simp only
   rw [decide_eq_false (by omega)]; rfl) (by omega)
  have hje:=Bis.uniq (p:=fun m=>w ≤ sAt t.Torque s m) (lo:=a) (hi:=b) (fun x y _ h2 _ h4=>Int.le_trans h4 (q772 h s h2)) hj ⟨q1,q2,fun _=>q3,fun hlt=>by have:=q4 hlt; omega⟩
  subst hje
  rw [cond_false,hl]
  exact ⟨j,true,rfl,by simp [h0],fun _=>rfl⟩
theorem q818 {t:STables} (h:torB t = true) {o l n:Int} (o0:0 ≤ o) (n0:1 ≤ n) {a b:Int} (hab:a ≤ b):torV t o l a n ≤ torV t o l b n:=by
 unfold torV
 exact Int.ediv_le_ediv (by omega) (Int.mul_le_mul_of_nonneg_left hab (Int.mul_nonneg o0 (q751 h l).1))
theorem q822 {t:STables} (h:torB t = true) {s c w n f l:Int} (w0:0 ≤ w) (n0:1 ≤ n ∧ n ≤ 8) (k:ShOk t (optV t s c) w n f l):q232 t s c w n = some (f,l):=by
 have o:=q719 h s c
 unfold q232
 have down:∀ m:Nat,f + m ≤ n → loopM (q37 t s c w n) (f + m) = loopM (q37 t s c w n) f:=by
  intro m
  induction m with
  | zero=>intro _; rw [show f + ((0:Nat):Int) = f by omega]
  | succ m ih=>
   intro hm
   have f0:=k.f0
   have hb:q37 t s c w n (f + ((m + 1:Nat):Int)) = some (.inl (f + (m:Int))):=by
    unfold q37
    have m1:=k.more (by omega)
    have m2:=q818 h (l:=2560) o.1 n0.1 (show f + 1 ≤ f + ((m + 1:Nat):Int) by omega)
    rw [decide_eq_true (by omega),cond_true,rtor_eq h s c 2560 (f:=f + ((m + 1:Nat):Int)) (by omega) n0,Option.bind_some,decide_eq_true (by omega),cond_true,w64_of (by omega) (by omega)]
    congr 2
    omega
   rw [loopM_next hb]
   exact ih (by omega)
 have hd:=down (n - f).toNat (by have:=k.f1; omega)
 rw [show f + ((n - f).toNat:Int) = n by have:=k.f1; omega] at hd
 rw [hd]
 by_cases hf:f = 0
 ·have hl:l = 0:=by
   by_cases q:0 < l
   ·have:=k.less q
    rw [hf,q775] at this
    omega
   ·have:=k.l0; omega
  rw [hf,hl]
  rw [show loopM (q37 t s c w n) 0 = some (.inl 0) from loopM_out (by unfold q37; rfl)]
  rfl
 ·have f0:=k.f0
  have f1:=k.f1
  have fit:=k.fit.resolve_left hf
  obtain ⟨j,hl,hj⟩:=q520 (mb:=q156 t s c w n f) (p:=fun m=>torV t (optV t s c) m f n ≤ w) (lo:=0) (hi:=2560) (fun x y h1 h2 h3=>by
   obtain ⟨e1,e2,e3⟩:=q698 (a:=x) (b:=y) (by omega) (by omega) h2 (by omega)
   refine ⟨(x + y) / 2,e2,e3,?_⟩
   unfold q156
   simp only
   rw [decide_eq_true h2,cond_true,e1,rtor_eq h s c _ ⟨f0,f1⟩ n0,Option.bind_some]
   by_cases q:torV t (optV t s c) ((x + y) / 2) f n ≤ w
   ·exact .inl ⟨q,by rw [decide_eq_true q]; rfl⟩
   ·exact .inr ⟨q,by rw [decide_eq_false q,cond_false,w64_of (by omega) (by omega)]⟩) (fun x h1 h2=>by
   unfold q156
   simp only
   rw [decide_eq_false (by omega)]; rfl) (by omega)
  have hje:=Bis.uniq (p:=fun m=>torV t (optV t s c) m f n ≤ w) (lo:=0) (hi:=2560) (fun x y _ h2 _ h4=>Int.le_trans (q870 h o.1 f0 n0.1 h2) h4) hj
   ⟨k.l0,k.l1,fun hlt=>k.late hlt,fun hlt=>by have:=k.less hlt; omega⟩
  subst hje
  have hb:q37 t s c w n f = some (.inr (.inr (f,j))):=by
   unfold q37
   rw [decide_eq_true (by omega),cond_true,rtor_eq h s c 2560 ⟨f0,f1⟩ n0,Option.bind_some,decide_eq_false (by omega),cond_false,hl]
   rfl
  rw [loopM_out hb]
  rfl
theorem q834 {n:Nat} {f:Int} (n0:1 ≤ n ∧ n ≤ 8) (f0:0 ≤ f ∧ f ≤ n) {i:Nat} (hi:i < n):q222 (n:Int) f 0 (i:Int) = some (patB n f (i:Int)):=by
 have h1:=prod_le (a:=(i:Int) + 1) (b:=f) (A:=8) (B:=8) (by omega) (by omega) f0.1 (by omega)
 have h2:=prod_le (a:=(i:Int)) (b:=f) (A:=8) (B:=8) (by omega) (by omega) f0.1 (by omega)
 unfold q222 patB remM
 rw [w64_of (n:=(i:Int) + 0) (by omega) (by omega),if_neg (by omega),Option.bind_some]
 have e:((i:Int) + 0).tmod (n:Int) = (i:Int):=by rw [Int.add_zero,Int.tmod_eq_of_lt (by omega) (by omega)]
 rw [e,w64_of (n:=(i:Int) + 1) (by omega) (by omega),w64_of (n:=((i:Int) + 1) * f) (by omega) (by omega),w64_of (n:=(i:Int) * f) (by omega) (by omega),quoE h1.1 (by omega) (by omega),quoE h2.1 (by omega) (by omega)]
 rfl
end Go.Pv
set_option linter.unusedSimpArgs false
set_option linter.unusedVariables false
namespace Go.Pv.Ar
open Go Go.Pv
theorem q802 (s:Sarbiter_span) (r:SRequest) (hk:r.Kind = 1 ∨ r.Kind = 2 ∨ r.Kind = 3):q209 ⟨s.low,s.high⟩ r = some ⟨nlo s r,nhi s r⟩:=by
 unfold q209 nlo nhi ins
 rcases hk with hk | hk | hk <;> rw [hk] <;> rfl
def mrk (p:Int):Sarbiter_span → List SRequest → List Bool → List Bool
 | s,r :: l,b :: d=>bif r.Priority == p then chg s r :: mrk p (stp s r) l d else b :: mrk p s l d
 | _,_,_=>[]
theorem mrk_len (p:Int):∀ (l:List SRequest) (d:List Bool) (s:Sarbiter_span),d.length = l.length → (mrk p s l d).length = l.length
 | [],[],_,_=>rfl
 | [],b :: d,_,h=>by simp at h
 | r :: l,[],_,h=>by simp at h
 | r :: l,b :: d,s,h=>by
  simp only [List.length_cons,Nat.add_right_cancel_iff] at h
  unfold mrk
  cases r.Priority == p
  ·simp only [cond_false,List.length_cons,mrk_len p l d s h]
  ·simp only [cond_true,List.length_cons,mrk_len p l d _ h]
def rng (s:Sarbiter_span):SRange:=⟨s.low,s.high⟩
theorem q695 (l:List SRequest) (p:Int) (st:Int × Int × SRange × List Bool) (hst:st.2.1 = p) (hl:l.length ≤ 1000) (hk:∀ r ∈ l,r.Kind = 1 ∨ r.Kind = 2 ∨ r.Kind = 3):∀ (rest:List SRequest) (i:Nat) (s:Sarbiter_span) (A d:List Bool),l.drop i = rest → i + rest.length = l.length → A.length = i → d.length = rest.length →
  loopM (q35 l st) (s.source,(i:Int),rng s,A ++ d) = some (.inl (((rest.filter fun r=>r.Priority == p).foldl stp s).source,(l.length:Int),rng ((rest.filter fun r=>r.Priority == p).foldl stp s),A ++ mrk p s rest d))
 | [],i,s,A,d,hd,hi,hA,hdl=>by
  have:d = []:=List.length_eq_zero_iff.1 hdl
  subst this
  simp only [List.length_nil,Nat.add_zero] at hi
  have hb:q35 l st (s.source,(i:Int),rng s,A ++ []) = some (.inr (.inl (s.source,(i:Int),rng s,A ++ []))):=by
   unfold q35
   simp only
   rw [show decide ((i:Int) < (l.length:Int)) = false from decide_eq_false (by omega)]; rfl
  rw [loopM_out hb,hi]
  rfl
 | y :: rest,i,s,A,[],hd,hi,hA,hdl=>by simp at hdl
 | y :: rest,i,s,A,b :: d,hd,hi,hA,hdl=>by
  simp only [List.length_cons,Nat.add_right_cancel_iff] at hdl
  simp only [List.length_cons] at hi
  have hy:l[i]? = some y:=by rw [← List.head?_drop,hd]; rfl
  have hky:=hk y (List.mem_of_getElem? hy)
  have hrest:l.drop (i + 1) = rest:=by rw [← List.drop_drop,hd]; rfl
  rw [List.filter_cons]
  cases hp:y.Priority == p
  ·have hb:q35 l st (s.source,(i:Int),rng s,A ++ b :: d) = some (.inl (s.source,((i + 1:Nat):Int),rng s,(A ++ [b]) ++ d)):=by
    unfold q35
    simp only
    rw [show decide ((i:Int) < (l.length:Int)) = true from decide_eq_true (by omega),getI_nat,hy,hst,w64_of (n:=(i:Int) + 1) (by omega) (by omega)]
    simp only [cond_true,Option.bind_some]
    have:(y.Priority != p) = true:=by unfold bne; rw [hp]; rfl
    rw [this]
    simp
   rw [loopM_next hb,q695 l p st hst hl hk rest (i + 1) s (A ++ [b]) d hrest (by omega) (by simp [hA]) hdl]
   simp [mrk,hp]
  ·have hb:q35 l st (s.source,(i:Int),rng s,A ++ b :: d) = some (.inl ((stp s y).source,((i + 1:Nat):Int),rng (stp s y),(A ++ [chg s y]) ++ d)):=by
    unfold q35
    simp only
    rw [show decide ((i:Int) < (l.length:Int)) = true from decide_eq_true (by omega),getI_nat l,hy,hst,w64_of (n:=(i:Int) + 1) (by omega) (by omega)]
    simp only [cond_true,Option.bind_some]
    have:(y.Priority != p) = false:=by unfold bne; rw [hp]; rfl
    rw [this]
    simp only [cond_false]
    rw [show rng s = ⟨s.low,s.high⟩ from rfl,q802 s y hky]
    simp only [Option.bind_some]
    have hs:(bif (nlo s y != s.low) then (some y.Source) else (some s.source)) = some (stp s y).source:=by
     unfold stp
     by_cases h1:nlo s y = s.low
     ·rw [show (nlo s y != s.low) = false by simpa using h1,if_pos h1]; rfl
     ·rw [show (nlo s y != s.low) = true by simpa using h1,if_neg h1]; rfl
    rw [hs]
    simp only [Option.bind_some]
    rw [getI_mid A b d (by omega)]
    simp only [Option.bind_some]
    rw [setM_mid A b _ d (by omega)]
    simp only [Option.bind_some]
    have hc:(!((nlo s y == s.low) && ((nhi s y == s.high) && true))) = chg s y:=by
     unfold chg; rw [Bool.and_true]; rfl
    rw [hc]
    simp [rng,stp]
   rw [loopM_next hb,q695 l p st hst hl hk rest (i + 1) (stp s y) (A ++ [chg s y]) d hrest (by omega) (by simp [hA]) hdl]
   simp [mrk,hp]
theorem q793 {l:List SRequest} {low high:Int} (h:Fine l low high):∃ d:List Bool,q160 l low high = some (rng (fin l low high),(fin l low high).source,d):=by
 unfold q160
 have hl:=h.len
 rw [makeM_nat _ (by omega)]
 simp only [Option.bind_some]
 obtain ⟨b,h1,d,h2⟩:=loopM_inv (mb:=q110 l) (fun k st=>∃ (s:Sarbiter_span) (d:List Bool),st = (s.source,15 - (k:Int),rng s,d) ∧ s = (ordK l k).foldl stp (s0 low high) ∧ d.length = l.length)
  (fun b=>∃ d:List Bool,b = .inl ((fin l low high).source,(-1:Int),rng (fin l low high),d)) 16 0 (-1,15,⟨low,high⟩,List.replicate l.length false) ⟨s0 low high,List.replicate l.length false,rfl,rfl,by simp⟩ (fun k _ hk st hst=>by
   obtain ⟨s,d,rfl,hs,hd⟩:=hst
   have hin:=q695 l (15 - (k:Int)) (s.source,15 - (k:Int),rng s,d) rfl (by omega) h.kinds l 0 s [] d (by simp) (by simp) rfl hd
   simp only [List.nil_append] at hin
   refine ⟨((((l.filter fun r=>r.Priority == 15 - (k:Int)).foldl stp s).source),15 - ((k + 1:Nat):Int),rng ((l.filter fun r=>r.Priority == 15 - (k:Int)).foldl stp s),mrk (15 - (k:Int)) s l d),?_,_,_,rfl,?_,?_⟩
   ·unfold q110
    simp only
    rw [show decide (15 - (k:Int) ≥ 0) = true from decide_eq_true (by omega),w64_of (n:=15 - (k:Int) - 1) (by omega) (by omega)]
    simp only [cond_true]
    rw [show (0:Int) = ((0:Nat):Int) from rfl,hin]
    simp only [Option.bind_some]
    rw [show 15 - (k:Int) - 1 = 15 - ((k + 1:Nat):Int) by omega]
   ·rw [q656,List.foldl_append,← hs]
    rfl
   ·exact mrk_len _ _ _ _ hd) (fun st hst=>by
   obtain ⟨s,d,rfl,hs,hd⟩:=hst
   simp only [Nat.zero_add] at hs
   refine ⟨.inl (s.source,-1,rng s,d),?_,d,?_⟩
   ·unfold q110
    simp only
    rw [show decide (15 - ((0 + 16:Nat):Int) ≥ 0) = false from decide_eq_false (by omega)]
    rfl
   ·rw [hs]; rfl)
 subst h2
 rw [h1]
 exact ⟨d,rfl⟩
end Go.Pv.Ar
set_option linter.unusedSimpArgs false
set_option linter.unusedVariables false
namespace Go.Pv
open Go
theorem q836 {p:SPedal} (h:pedB p = true) (a b:Int):q269 p a b = some (pedV p a b):=by
 have k:=pedOk.1 h
 have k1:=k.v; have k2:=k.d; have k3:=k.f
 unfold q269 q97 pedV
 simp only [Option.bind_some,minI_eq,maxI_eq]
 generalize hf:min (max a 0) 1000 = f
 generalize hg:min (max b 0) 500 = g
 have f0:0 ≤ f ∧ f ≤ 1000:=by omega
 have g0:0 ≤ g ∧ g ≤ 500:=by omega
 rw [w64_of (n:=2 * g) (by omega) (by omega),w64_of (n:=f - 2 * g) (by omega) (by omega),w64_of (n:=2 * g - f) (by omega) (by omega),w64_of (n:=p.Differ + 1) (by omega) (by omega)]
 have hw:(decide (f - 2 * g > 50) || decide (2 * g - f > 50)) = decide (max (f - 2 * g) (2 * g - f) > 50):=by
  rw [← Bool.decide_or,decide_eq_decide]; omega
 rw [hw]
 by_cases q:max (f - 2 * g) (2 * g - f) > 50
 ·simp only [decide_eq_true q,cond_true,Option.bind_some,if_true]
  rw [show min (p.Differ + 1) 3 = min 3 (p.Differ + 1) by omega]
  by_cases q3:min 3 (p.Differ + 1) = 3
  ·rw [if_pos q3,show (min 3 (p.Differ + 1) == 3) = true by simpa using q3,cond_true]
  ·rw [if_neg q3,show (min 3 (p.Differ + 1) == 3) = false by simpa using q3,cond_false]
 ·simp only [decide_eq_false q,cond_false,Bool.false_eq_true,if_false]
  cases hF:p.Fault
  ·simp only [Bool.not_false,cond_true,Option.bind_some,Bool.false_eq_true,if_false]
   rw [if_neg (by omega)]; rfl
  ·have d3:=k3.1 hF
   simp only [Bool.not_true,cond_false,Option.bind_some,if_true]
   rw [if_pos d3,d3]; rfl
theorem q881 {t:STables} (h:mapB t.Wish = true) {v s:Int} (v0:0 ≤ v ∧ v ≤ 1000) (s0:0 ≤ s ∧ s ≤ 12000):q268 t v s = some (wishV t v s,0):=by
 unfold q268 q97 wishV
 rw [q326,h,decide_eq_false (show ¬ v < 0 by omega),decide_eq_false (show ¬ v > 1000 by omega),decide_eq_false (show ¬ s < 0 by omega),decide_eq_false (show ¬ s > 12000 by omega),q611 h]
 simp only [Option.bind_some,Bool.not_true,cond_false,Bool.or_self,minI_eq,maxI_eq]
theorem rtgt_eq {c:Int} (h:-40 ≤ c ∧ c ≤ 150):q89 c = some (tgtV c):=by
 unfold q89 tgtV
 by_cases h1:c ≤ -20
 ·rw [decide_eq_true h1,if_pos h1]; rfl
 ·by_cases h2:c ≥ 70
  ·rw [decide_eq_false h1,decide_eq_true h2,if_neg h1,if_pos h2]; rfl
  ·rw [decide_eq_false h1,decide_eq_false h2,if_neg h1,if_neg h2,w64_of (n:=c + 20) (by omega) (by omega),w64_of (n:=400 * (c + 20)) (by omega) (by omega),R1.q309 _ _ (by omega) (by omega) (by omega) (by omega)]
   simp only [cond_false,Option.bind_some]
   rw [w64_of (by omega) (by omega)]
theorem ract_eq {v s c:Int} (h:-40 ≤ c ∧ c ≤ 150):q213 v s c = some (actV v s c):=by
 obtain ⟨_,t0,t1⟩:=tgt_eq h
 unfold q213 actV
 rw [rtgt_eq h,show (decide (v ≥ 0) && decide (v < 20)) = inR 0 19 v by unfold inR; congr 1; rw [decide_eq_decide]; omega,show q75 s = some (inR 0 12000 s) from rfl]
 simp only [Option.bind_some]
 rw [w64_of (by omega) (by omega)]
 cases inR 0 19 v <;> cases inR 0 12000 s <;> rfl
theorem shr10 (x:Int):bitShr .i64 x 10 = x / 1024:=by
 unfold bitShr
 rw [show (min (Int.toNat 10) IntKind.i64.bits) = 10 from rfl,show (2:Int) ^ 10 = 1024 from rfl,Int.fdiv_eq_ediv_of_nonneg _ (by omega)]
theorem rctl_eq {s:SIntegral} {g:SGain} (hg:gainB g = true) (hs:sumOk s) {e:Int} (e0:-1048576 ≤ e ∧ e ≤ 1048576) {s':SIntegral} {u:Int} (h:q198 s g e = some (s',u,0)):q178 s g e = some (s',u):=by
 have hs':=hs
 unfold sumOk at hs'
 have hg':=hg
 unfold gainB at hg'
 simp only [Bool.and_eq_true,decide_eq_true_eq] at hg'
 obtain ⟨⟨⟨⟨⟨⟨p0,p1⟩,i0⟩,i1⟩,lo⟩,lh⟩,hi⟩:=hg'
 have hp:-68719476736 ≤ g.P * e ∧ g.P * e ≤ 68719476736:=by
  have m1:g.P * e ≤ g.P * 1048576:=Int.mul_le_mul_of_nonneg_left e0.2 p0
  have m2:g.P * (-1048576) ≤ g.P * e:=Int.mul_le_mul_of_nonneg_left e0.1 p0
  omega
 have hi':-68719476736 ≤ g.I * e ∧ g.I * e ≤ 68719476736:=by
  have m1:g.I * e ≤ g.I * 1048576:=Int.mul_le_mul_of_nonneg_left e0.2 i0
  have m2:g.I * (-1048576) ≤ g.I * e:=Int.mul_le_mul_of_nonneg_left e0.1 i0
  omega
 unfold q198 at h
 rw [show q60 g = some (gainB g) from rfl,hg] at h
 simp only [Option.bind_some] at h
 rw [show ((!true || decide (s.Sum < (-4398046511104))) || decide (s.Sum > 4398046511104)) = false by simp only [Bool.not_true,Bool.false_or,Bool.or_eq_false_iff,decide_eq_false_iff_not]; omega] at h
 rw [show (decide (e < (-1048576)) || decide (e > 1048576)) = false by simp only [Bool.or_eq_false_iff,decide_eq_false_iff_not]; omega,shr10] at h
 simp only [cond_false] at h
 unfold q178
 rw [w64_of (n:=g.P * e) (by omega) (by omega),w64_of (n:=g.P * e + s.Sum) (by omega) (by omega)] at h ⊢
 rw [R1.q309 _ _ (by omega) (by omega) (by omega) (by omega)]
 rw [w64_of (n:=g.I * e) (by omega) (by omega),w64_of (n:=s.Sum + g.I * e) (by omega) (by omega)] at h ⊢
 simp only [Option.bind_some]
 generalize (g.P * e + s.Sum) / 1024 = v at h ⊢
 have fin:∀ f:Int,(Option.bind (bif (decide (v > g.High)) then (some g.High) else (some v)) fun (u:Int)=>bif (decide (u < g.Low)) then (some ((⟨f⟩:SIntegral),g.Low)) else (some ((⟨f⟩:SIntegral),u))) = some (⟨f⟩,min (max v g.Low) g.High):=fun f=>by
  by_cases q1:v > g.High
  ·rw [decide_eq_true q1,cond_true,Option.bind_some,decide_eq_false (by omega),cond_false]
   congr 2; omega
  ·rw [decide_eq_false q1,cond_false,Option.bind_some]
   by_cases q2:v < g.Low
   ·rw [decide_eq_true q2,cond_true]; congr 2; omega
   ·rw [decide_eq_false q2,cond_false]; congr 2; omega
 have cl:∀ x:Int,(Option.bind (bif (decide (x > 4398046511104)) then (some 4398046511104) else (some x)) fun (f3:Int)=>Option.bind (bif (decide (f3 < (-4398046511104))) then (some (-4398046511104)) else (some f3)) fun (f4:Int)=>some (⟨f4⟩,min (max v g.Low) g.High)) = some ((⟨min (max x (-4398046511104)) 4398046511104⟩:SIntegral),min (max v g.Low) g.High):=fun x=>by
  by_cases q1:x > 4398046511104
  ·rw [decide_eq_true q1,cond_true,Option.bind_some,decide_eq_false (by omega),cond_false,Option.bind_some]
   congr 3; omega
  ·rw [decide_eq_false q1,cond_false,Option.bind_some]
   by_cases q2:x < -4398046511104
   ·rw [decide_eq_true q2,cond_true,Option.bind_some]; congr 3; omega
   ·rw [decide_eq_false q2,cond_false,Option.bind_some]; congr 3; omega
 have hA:(decide (v ≤ g.High) || decide (e ≤ 0)) = !(decide (v > g.High) && decide (e > 0)):=by
  rw [Bool.not_and,← decide_not,← decide_not]; congr 1 <;> rw [decide_eq_decide] <;> omega
 have hB:(decide (v ≥ g.Low) || decide (e ≥ 0)) = !(decide (v < g.Low) && decide (e < 0)):=by
  rw [Bool.not_and,← decide_not,← decide_not]; congr 1 <;> rw [decide_eq_decide] <;> omega
 rw [hA,hB] at h
 simp only [fin,cl]
 simp only [q86,Option.bind_some,minI_eq,maxI_eq] at h
 have es:(⟨min (max s.Sum (-4398046511104)) 4398046511104⟩:SIntegral) = ⟨s.Sum⟩:=by congr 1; omega
 revert h
 cases !(decide (v > g.High) && decide (e > 0)) <;> cases !(decide (v < g.Low) && decide (e < 0)) <;> simp only [cond_true,cond_false,Option.bind_some,cl,es,Option.some.injEq,Prod.mk.injEq] <;> exact fun ⟨h1,h2,_⟩=>⟨h1,h2⟩
theorem q798 {s:SIntegral} {g:SGain} (hg:gainB g = true) (hs:sumOk s) {c v:Int} (c0:-40 ≤ c ∧ c ≤ 150) (v0:0 ≤ v ∧ v ≤ 12000):q175 s g (tgtV c) v = some ((idlR s g c v).1,(idlR s g c v).2.1,0):=by
 obtain ⟨_,t0,t1⟩:=tgt_eq c0
 have hs':=hs
 unfold sumOk at hs'
 obtain ⟨s',u,h1,h2⟩:=ictl_eq hg hs (e:=tgtV c - v) (by omega)
 have e1:q250 s g (tgtV c) v = some (s',u,0):=by
  unfold q250
  rw [show q60 g = some (gainB g) from rfl,hg,show q135 (tgtV c) = some (inR 0 12000 (tgtV c)) from rfl,show q135 v = some (inR 0 12000 v) from rfl,in_true (show 0 ≤ tgtV c by omega) (by omega),in_true v0.1 v0.2,w64_of (by omega) (by omega)]
  simp only [Option.bind_some,Bool.not_true,cond_false]
  rw [h1]; rfl
 have e2:idlR s g c v = (s',u,0):=by unfold idlR; rw [e1]; rfl
 rw [e2]
 unfold q175
 rw [show q173 g = some (gainB g) from rfl,hg,show q75 (tgtV c) = some (inR 0 12000 (tgtV c)) from rfl,show q75 v = some (inR 0 12000 v) from rfl,in_true (show 0 ≤ tgtV c by omega) (by omega),in_true v0.1 v0.2,show q103 s = some (inR (-4398046511104) 4398046511104 s.Sum) from rfl,in_true hs'.1 hs'.2,w64_of (by omega) (by omega)]
 simp only [Option.bind_some,Bool.not_true,cond_false]
 rw [rctl_eq hg hs (by omega) h1]
 rfl
theorem q816 {g:SGrant} {l:List SRequest} (hg:granted g) (h:Ar.Fine l (-5000) 10000):q251 g l = some (grantV g l):=by
 obtain ⟨d,hd⟩:=Ar.q793 h
 have r:=Ar.q649 (l:=l) (low:=-5000) (high:=10000) (by omega)
 unfold granted at hg
 unfold q251 q32 grantV
 rw [hd]
 simp only [Option.bind_some,minI_eq,maxI_eq,Ar.rng]
 rw [w64_of (n:=g.Torque - 1000) (by omega) (by omega),w64_of (n:=g.Torque + 300) (by omega) (by omega)]
 congr 2
 omega
theorem rkst_eq {k:SKnock} {n:Int} (h:knB k = true) (n0:inR 0 4095 n = true):∃ b,q280 k n = some (kst k n,b):=by
 have o:=knOk.1 h
 have o1:=o.r; have o2:=o.n; have o3:=o.q
 rw [inR_iff] at n0
 unfold q280 kst
 rw [w64_of (n:=3 * k.Noise) (by omega) (by omega),w64_of (n:=3 * k.Noise + 40) (by omega) (by omega)]
 by_cases q:n > 3 * k.Noise + 40
 ·rw [decide_eq_true q,if_pos q,w64_of (n:=k.Retard + 96) (by omega) (by omega),minI_eq]
  exact ⟨true,rfl⟩
 ·rw [decide_eq_false q,if_neg q,w64_of (n:=k.Quiet + 1) (by omega) (by omega),w64_of (n:=k.Retard - 16) (by omega) (by omega),maxI_eq]
  simp only [cond_false]
  have e1:k.Noise ≤ n → w64 (k.Noise + (w64 (Int.tdiv (w64 (n - k.Noise)) 8))) = k.Noise + (n - k.Noise) / 8:=fun hn=>by
   rw [w64_of (n:=n - k.Noise) (by omega) (by omega),Int.tdiv_eq_ediv_of_nonneg (by omega),w64_of (n:=(n - k.Noise) / 8) (by omega) (by omega),w64_of (by omega) (by omega)]
  have e2:n < k.Noise → w64 (k.Noise - (w64 (Int.tdiv (w64 ((w64 (k.Noise - n)) + 7)) 8))) = k.Noise + (n - k.Noise) / 8:=fun hn=>by
   rw [w64_of (n:=k.Noise - n) (by omega) (by omega),w64_of (n:=k.Noise - n + 7) (by omega) (by omega),Int.tdiv_eq_ediv_of_nonneg (by omega),w64_of (n:=(k.Noise - n + 7) / 8) (by omega) (by omega),w64_of (by omega) (by omega)]
   omega
  by_cases q1:k.Quiet + 1 = 100
  ·rw [show (k.Quiet + 1 == 100) = true by simpa using q1,if_pos q1]
   by_cases q2:n ≥ k.Noise
   ·simp only [cond_true,Option.bind_some,decide_eq_true q2,e1 q2]; exact ⟨false,rfl⟩
   ·simp only [cond_true,Option.bind_some,decide_eq_false q2,cond_false,e2 (by omega)]; exact ⟨false,rfl⟩
  ·rw [show (k.Quiet + 1 == 100) = false by simpa using q1,if_neg q1]
   by_cases q2:n ≥ k.Noise
   ·simp only [cond_false,Option.bind_some,decide_eq_true q2,cond_true,e1 q2]; exact ⟨false,rfl⟩
   ·simp only [cond_false,Option.bind_some,decide_eq_false q2,e2 (by omega)]; exact ⟨false,rfl⟩
theorem q644 (s c:Int):q101 s c = some (inR 0 12000 s && inR 0 1048576 c):=by
 unfold q101
 rw [q262,q262]
 cases inR 0 12000 s <;> rfl
theorem q861 (p:SProbe) (h:p.Cells.length ≤ 1000):q272 p = some p:=by
 unfold q272
 have:=loopM_count (mb:=q184 p) (σ:=fun k:Nat=>((k:Int),p.Cells.take k)) (b0:=.inl ((p.Cells.length:Int),p.Cells.take p.Cells.length)) p.Cells.length (by
  unfold q184
  rw [decide_eq_false (by simp)]; rfl) (fun k hk=>by
  unfold q184
  simp only
  rw [decide_eq_true (by omega),cond_true,getI_get _ _ hk,Option.bind_some,appendM_ok _ _ (by simp; omega),w64_of (by omega) (by omega)]
  simp only [Option.bind_some]
  rw [List.take_append_getElem hk]
  rfl)
 rw [show ((0:Int),([]:List SCell)) = (((0:Nat):Int),p.Cells.take 0) from rfl,this]
 simp only [Option.bind_some,List.take_length]
theorem q807 {p:SProbe} (h:mixB p = true) {m s c:Int} (m0:0 ≤ m ∧ m ≤ 20000) (s0:0 ≤ s ∧ s ≤ 12000) (c0:0 ≤ c ∧ c ≤ 1048576):q273 p m s c = some (mxV p m,0):=by
 have k:=mixOk.1 h
 have k1:=k.f; have k2:=k.w; have k3:=k.n
 unfold q273
 rw [rmix_eq,h,q644,in_true s0.1 s0.2,in_true c0.1 c0.2,q262,in_true m0.1 m0.2,q861 p (by omega)]
 simp only [Option.bind_some,Bool.not_true,cond_false,Bool.and_self]
 unfold mxV
 cases hA:p.Active
 ·rfl
 ·simp only [Bool.not_true,cond_false,cond_true]
  have hr:(Option.bind (bif decide (m > 500) then some true else some p.Rich) fun f2=>Option.bind (bif decide (m < 400) then some false else some f2) fun f3=>some f3) = some (mxR p m):=by
   unfold mxR
   by_cases q1:m > 500
   ·rw [decide_eq_true q1,decide_eq_false (show ¬ m < 400 by omega)]; rfl
   ·rw [decide_eq_false q1]
    by_cases q2:m < 400
    ·rw [decide_eq_true q2,decide_eq_false (show ¬ m ≥ 400 by omega)]; rfl
    ·rw [decide_eq_false q2,decide_eq_true (show m ≥ 400 by omega)]; simp
  have hk:∀ (g:Bool → Option (SProbe × Int)),(Option.bind (bif decide (m > 500) then some true else some p.Rich) fun f2=>Option.bind (bif decide (m < 400) then some false else some f2) fun f3=>g f3) = g (mxR p m):=fun g=>by
   have:(Option.bind (bif decide (m > 500) then some true else some p.Rich) fun f2=>Option.bind (bif decide (m < 400) then some false else some f2) fun f3=>g f3) = Option.bind (Option.bind (bif decide (m > 500) then some true else some p.Rich) fun f2=>Option.bind (bif decide (m < 400) then some false else some f2) fun f3=>some f3) g:=by
    cases decide (m > 500) <;> cases decide (m < 400) <;> rfl
   rw [this,hr]; rfl
  rw [hk]
  cases hq:(mxR p m == p.Rich)
  ·simp only [Bool.not_false,cond_true,cond_false,Option.bind_some]
   cases mxR p m
   ·simp only [cond_false,Option.bind_some]
    rw [w64_of (by omega) (by omega),minI_eq,maxI_eq]
    congr 3
    omega
   ·simp only [cond_true,Option.bind_some]
    rw [show w64 (0 - 15) = -15 from rfl,w64_of (by omega) (by omega),minI_eq,maxI_eq]
    congr 3
    omega
  ·simp only [Bool.not_true,cond_true,cond_false,Option.bind_some]
   rw [w64_of (n:=p.Wait + 1) (by omega) (by omega),minI_eq]
   cases mxR p m
   ·simp only [cond_false,Option.bind_some]
    rw [w64_of (by omega) (by omega),minI_eq,maxI_eq]
    congr 3
    omega
   ·simp only [cond_true,Option.bind_some]
    rw [show w64 (0 - 1) = -1 from rfl,w64_of (by omega) (by omega),minI_eq,maxI_eq]
    congr 3
    omega
theorem rfac_eq {p:SProbe} (h:mixB p = true) {s c:Int} (s0:0 ≤ s ∧ s ≤ 12000) (c0:0 ≤ c ∧ c ≤ 1048576):q207 p s c = some (facV p s c,0):=by
 have k:=mixOk.1 h
 have k1:=k.f; have k3:=k.n
 have q1:=q542 s 1500 3500
 have q2:=q542 c 150000 350000
 have hc:cellV s c < p.Cells.length:=by unfold cellV; omega
 have hcell:=List.all_eq_true.1 k.c _ (List.getElem_mem hc)
 unfold cellB at hcell
 rw [Bool.and_eq_true,inR_iff] at hcell
 have hv:=hcell.1
 have e:q274 s c = some ((cellV s c:Nat):Int):=by
  unfold q274
  rw [q644,in_true s0.1 s0.2,in_true c0.1 c0.2]
  simp only [Option.bind_some,Bool.and_self,Bool.not_true,cond_false]
  unfold cellV clsV
  by_cases a1:s ≥ 3500
  ·rw [if_pos a1,decide_eq_false (show ¬ s < 3500 by omega),decide_eq_false (show ¬ s < 1500 by omega)]
   by_cases b1:c ≥ 350000
   ·rw [if_pos b1,decide_eq_false (show ¬ c < 350000 by omega),decide_eq_false (show ¬ c < 150000 by omega)]; rfl
   ·rw [if_neg b1,decide_eq_true (show c < 350000 by omega)]
    by_cases b2:c ≥ 150000
    ·rw [if_pos b2,decide_eq_false (show ¬ c < 150000 by omega)]; rfl
    ·rw [if_neg b2,decide_eq_true (show c < 150000 by omega)]; rfl
  ·rw [if_neg a1,decide_eq_true (show s < 3500 by omega)]
   by_cases a2:s ≥ 1500
   ·rw [if_pos a2,decide_eq_false (show ¬ s < 1500 by omega)]
    by_cases b1:c ≥ 350000
    ·rw [if_pos b1,decide_eq_false (show ¬ c < 350000 by omega),decide_eq_false (show ¬ c < 150000 by omega)]; rfl
    ·rw [if_neg b1,decide_eq_true (show c < 350000 by omega)]
     by_cases b2:c ≥ 150000
     ·rw [if_pos b2,decide_eq_false (show ¬ c < 150000 by omega)]; rfl
     ·rw [if_neg b2,decide_eq_true (show c < 150000 by omega)]; rfl
   ·rw [if_neg a2,decide_eq_true (show s < 1500 by omega)]
    by_cases b1:c ≥ 350000
    ·rw [if_pos b1,decide_eq_false (show ¬ c < 350000 by omega),decide_eq_false (show ¬ c < 150000 by omega)]; rfl
    ·rw [if_neg b1,decide_eq_true (show c < 350000 by omega)]
     by_cases b2:c ≥ 150000
     ·rw [if_pos b2,decide_eq_false (show ¬ c < 150000 by omega)]; rfl
     ·rw [if_neg b2,decide_eq_true (show c < 150000 by omega)]; rfl
 unfold q207
 rw [rmix_eq,h,q644,in_true s0.1 s0.2,in_true c0.1 c0.2,e]
 simp only [Option.bind_some,Bool.not_true,cond_false,Bool.and_self]
 rw [getI_get _ _ hc,Option.bind_some]
 unfold facV
 rw [w64_of (by omega) (by omega),minI_eq,maxI_eq,List.getD_eq_getElem?_getD,List.getElem?_eq_getElem hc]
 simp only [Option.getD_some]
 congr 2
 omega
end Go.Pv
set_option linter.unusedSimpArgs false
set_option linter.unusedVariables false
namespace Go.Pv
open Go
theorem q821 {c:Int} (c0:0 ≤ c ∧ c ≤ 1048576):q279 c 1000 = some (c * 10000 / 147000,0):=by
 unfold q279
 rw [show q55 c = some (inR 0 1048576 c) from rfl,in_true c0.1 c0.2]
 simp only [Option.bind_some]
 rw [show (!true || decide ((1000:Int) < 500) || decide ((1000:Int) > 2000)) = false from rfl,cond_false,w64_of (by omega) (by omega),show w64 (1000 * 147) = 147000 from rfl,quoE (by omega) (by omega) (by omega)]
 rfl
section
variable {b:SBody} (h:bodyB b = true)
 include h
theorem rbody30:q169 b = some true:=by
 have k:=bodyOk h
 have k1:=k.fi; have k2:=k.ev
 unfold q169
 rw [decide_eq_true (by omega),decide_eq_true (by omega),decide_eq_true (by omega),decide_eq_true (by omega)]; rfl
theorem q705 {i:Int} (i0:0 ≤ i ∧ i ≤ 1048576):q85 b i = some (wallV b i):=by
 have k1:=(bodyOk h).fi
 have b1:=prod_le i0.1 i0.2 k1.1 k1.2
 have r1:=q322 h i0.1
 unfold q85
 unfold wallV at r1 ⊢
 rw [w64_of (n:=i * b.Film) (by omega) (by omega),Int.tdiv_eq_ediv_of_nonneg b1.1,w64_of (by omega) (by omega)]
theorem roff_eq {f:Int} (f0:0 ≤ f ∧ f ≤ 1073741824):q131 b f = some (leaveV b f):=by
 have k2:=(bodyOk h).ev
 have b2:=prod_le f0.1 f0.2 (show 0 ≤ b.Evaporate by omega) k2.2
 have r2:=q191 h f0.1
 unfold q131
 unfold leaveV at r2 ⊢
 rw [w64_of (n:=f * b.Evaporate) (by omega) (by omega),Int.tdiv_eq_ediv_of_nonneg b2.1,w64_of (by omega) (by omega)]
theorem q774 {f i:Int} (f0:0 ≤ f ∧ f ≤ 1073741824) (i0:0 ≤ i ∧ i ≤ 1048576):q121 b f i = some (bif decide (f + wallV b i - leaveV b f > 1073741824) then (0,0,9) else (i - wallV b i + leaveV b f,f + wallV b i - leaveV b f,0)):=by
 have r1:=q322 h i0.1
 have r2:=q191 h f0.1
 unfold q121
 rw [rbody30 h,decide_eq_false (show ¬ f < 0 by omega),decide_eq_false (show ¬ f > 1073741824 by omega),show q55 i = some (inR 0 1048576 i) from rfl,in_true i0.1 i0.2]
 simp only [Option.bind_some,Bool.not_true,cond_false,Bool.or_self]
 rw [q705 h i0,roff_eq h f0]
 simp only [Option.bind_some]
 rw [w64_of (n:=f + wallV b i) (by omega) (by omega),w64_of (n:=f + wallV b i - leaveV b f) (by omega) (by omega),w64_of (n:=i - wallV b i) (by omega) (by omega),w64_of (n:=i - wallV b i + leaveV b f) (by omega) (by omega)]
 cases decide (f + wallV b i - leaveV b f > 1073741824) <;> rfl
theorem q707 {i j:Int} (hij:i ≤ j):i - wallV b i ≤ j - wallV b j:=by
 have k1:=(bodyOk h).fi
 unfold wallV
 have m:(j - i) * b.Film ≤ (j - i) * 1023:=Int.mul_le_mul_of_nonneg_left k1.2 (by omega)
 rw [Int.sub_mul] at m
 omega
theorem q875 {f m i x e:Int} (f0:0 ≤ f ∧ f ≤ 1073741824) (m0:0 ≤ m ∧ m ≤ 1048576) (k:WantOk b f m i x e):∃ i' x' e',q282 b f m = some (i',x',e') ∧ (e' = 0 ↔ e = 0) ∧ (e = 0 → i' = i ∧ x' = x):=by
 have r2:=q191 h f0.1
 have rm:=q322 h (show (0:Int) ≤ 1048576 by omega)
 unfold q282
 rw [rbody30 h,decide_eq_false (show ¬ f < 0 by omega),decide_eq_false (show ¬ f > 1073741824 by omega),show q55 m = some (inR 0 1048576 m) from rfl,in_true m0.1 m0.2]
 simp only [Option.bind_some,Bool.not_true,cond_false,Bool.or_self]
 rw [roff_eq h f0,q705 h (by omega)]
 simp only [Option.bind_some]
 rw [w64_of (n:=m - leaveV b f) (by omega) (by omega),w64_of (n:=1048576 - wallV b 1048576) (by omega) (by omega),maxI_eq]
 generalize hR:max 0 (m - leaveV b f) = R
 by_cases hb:1048576 - wallV b 1048576 < R
 ·rw [decide_eq_true hb]
  refine ⟨0,0,9,rfl,?_,?_⟩
  ·constructor
   ·intro h9; omega
   ·intro h0
    have i0:=k.inj h0
    have:=q707 h i0.2
    have:=k.fit h0
    omega
  ·intro h0
   exfalso
   have i0:=k.inj h0
   have:=q707 h i0.2
   have:=k.fit h0
   omega
 ·rw [decide_eq_false hb,cond_false]
  have hRm:R ≤ 1048576:=by omega
  obtain ⟨j,hl,hj⟩:=q520 (mb:=q185 b m (leaveV b f)) (p:=fun y=>R ≤ y - wallV b y) (lo:=R) (hi:=1048576) (fun p q h1 h2 h3=>by
   obtain ⟨e1,e2,e3⟩:=q698 (a:=p) (b:=q) (by omega) (by omega) h2 (by omega)
   have hw:=q322 h (show 0 ≤ (p + q) / 2 by omega)
   refine ⟨(p + q) / 2,e2,e3,?_⟩
   unfold q185
   simp only
   rw [decide_eq_true h2,cond_true,e1,q705 h (by omega),Option.bind_some,w64_of (n:=(p + q) / 2 - wallV b ((p + q) / 2)) (by omega) (by omega),w64_of (n:=m - leaveV b f) (by omega) (by omega),maxI_eq,hR]
   by_cases q:R ≤ (p + q) / 2 - wallV b ((p + q) / 2)
   ·exact .inl ⟨q,by rw [decide_eq_true q]; rfl⟩
   ·exact .inr ⟨q,by rw [decide_eq_false q,cond_false,w64_of (by omega) (by omega)]⟩) (fun x h1 h2=>by
   unfold q185
   simp only
   rw [decide_eq_false (by omega)]; rfl) hRm
  have mono:∀ x y:Int,R ≤ x → x ≤ y → y < 1048576 → R ≤ x - wallV b x → R ≤ y - wallV b y:=fun x y _ h2 _ h4=>Int.le_trans h4 (q707 h h2)
  have key:∀ y:Int,0 ≤ y → y ≤ 1048576 → m ≤ y - wallV b y + leaveV b f → (0 < y → (y - 1) - wallV b (y - 1) + leaveV b f < m) → y = j:=fun y y0 y1 y2 y3=>by
   have hw:=q322 h y0
   refine Bis.uniq mono ⟨by omega,y1,fun _=>by omega,fun hlt=>?_⟩ hj
   have:=y3 (by omega)
   omega
  rw [hl]
  simp only [Option.bind_some]
  rw [q774 h f0 (show 0 ≤ j ∧ j ≤ 1048576 from ⟨by have:=hj.a; omega,hj.b⟩)]
  simp only [Option.bind_some]
  rcases k.out with h0 | h0
  ·have i0:=k.inj h0
   have hij:=key i i0.1 i0.2 (k.fit h0) (k.low h0)
   subst hij
   have hx:=k.film h0
   have hr:=k.ran h0
   rw [decide_eq_false (show ¬ (f + wallV b i - leaveV b f > 1073741824) by omega)]
   exact ⟨i,f + wallV b i - leaveV b f,0,rfl,by omega,fun _=>⟨rfl,hx.symm⟩⟩
  ·rcases k.big h0 with hb' | ⟨y,y0,y1,y2,y3,y4⟩
   ·omega
   ·have hy:=key y y0 y1 y2 y3
    subst hy
    rw [decide_eq_true (show f + wallV b y - leaveV b f > 1073741824 by omega)]
    exact ⟨0,0,9,rfl,by omega,fun h=>by omega⟩
end
theorem q844 {t:STables} (h:(curB t.Dead && t.Dead.Y.all (inR 0 10000)) = true) {a v:Int} (a0:0 ≤ a ∧ a ≤ 1048576) (v0:0 ≤ v ∧ v ≤ 20000):q283 t a v = some (bif a == 0 then 0 else cAt t.Dead v + upV3 a,0):=by
 have hc:curB t.Dead = true:=by rw [Bool.and_eq_true] at h; exact h.1
 have hb:=(dead_eq h a0 v0).2
 unfold q283 q347
 rw [q627,h,show q55 a = some (inR 0 1048576 a) from rfl,in_true a0.1 a0.2,decide_eq_false (show ¬ v < 0 by omega),decide_eq_false (show ¬ v > 20000 by omega),q609 hc]
 simp only [Option.bind_some,Bool.not_true,cond_false,Bool.or_self]
 rw [show ((0:Int) != 0) = false from rfl]
 simp only [cond_false]
 rw [w64_of (n:=a + 2) (by omega) (by omega),Int.tdiv_eq_ediv_of_nonneg (by omega),w64_of (n:=(a + 2) / 3) (by omega) (by omega),w64_of (by omega) (by omega),show (a + 2) / 3 = upV3 a by unfold upV3; omega]
 cases a == 0 <;> rfl
theorem q750 {t:STables} (h:sparkB t = true):mapB t.Spark = true ∧ curB t.Dwell = true ∧ (∀ r ∈ t.Spark.Z,r.all (inR (-1280) 3840) = true) ∧ t.Dwell.Y.all (inR 500 10000) = true:=by
 unfold sparkB at h
 simp only [Bool.and_eq_true,List.all_eq_true (l:=t.Spark.Z)] at h
 exact ⟨h.1.1.1,h.1.1.2,h.1.2,h.2⟩
theorem q826 {t:STables} (h:sparkB t = true) {s c q r:Int} (q0:-40 ≤ q ∧ q ≤ 150) (r0:0 ≤ r ∧ r ≤ 1280):q248 t s c q r = some (angV t s c q r):=by
 obtain ⟨h1,h2,h3,h4⟩:=q750 h
 have a:=q365 h1 s c (z_in h1 h3)
 unfold q248 q377 angV
 rw [q611 h1]
 simp only [Option.bind_some]
 generalize sAt t.Spark s c = v at a
 rw [w64_of (n:=v - r) (by omega) (by omega),w64_of (n:=20 - q) (by omega) (by omega),w64_of (n:=2 * (20 - q)) (by omega) (by omega),w64_of (n:=v - r + 2 * (20 - q)) (by omega) (by omega),w64_of (n:=q - 100) (by omega) (by omega),w64_of (n:=8 * (q - 100)) (by omega) (by omega)]
 have fin:∀ x:Int,(bif decide (x < -1280) then some (-1280) else bif decide (x > 3840) then some 3840 else some x) = some (min (max x (-1280)) 3840):=fun x=>by
  by_cases q1:x < -1280
  ·rw [decide_eq_true q1,cond_true]; congr 1; omega
  ·rw [decide_eq_false q1,cond_false]
   by_cases q2:x > 3840
   ·rw [decide_eq_true q2,cond_true]; congr 1; omega
   ·rw [decide_eq_false q2,cond_false]; congr 1; omega
 by_cases q1:q < 20
 ·rw [decide_eq_true q1,if_pos q1,decide_eq_false (show ¬ q > 100 by omega)]
  simp only [cond_true,cond_false,Option.bind_some,fin]
  congr 1; omega
 ·rw [decide_eq_false q1,if_neg q1]
  by_cases q2:q > 100
  ·rw [decide_eq_true q2,if_pos q2]
   simp only [cond_true,cond_false,Option.bind_some]
   rw [w64_of (by omega) (by omega),fin]
   congr 1; omega
  ·rw [decide_eq_false q2,if_neg q2]
   simp only [cond_true,cond_false,Option.bind_some,fin]
   congr 1; omega
theorem q813 {t:STables} (h:sparkB t = true) {v k:Int} (k0:4000 ≤ k ∧ k ≤ 1000000):q236 t v k = some (dwellV t v k):=by
 obtain ⟨h1,h2,h3,h4⟩:=q750 h
 unfold q236 dwellV
 rw [q609 h2]
 simp only [Option.bind_some]
 rw [w64_of (n:=3 * k) (by omega) (by omega),Int.tdiv_eq_ediv_of_nonneg (by omega),w64_of (by omega) (by omega)]
 by_cases q:cAt t.Dwell v > 3 * k / 4
 ·rw [decide_eq_true q,cond_true]; congr 1; omega
 ·rw [decide_eq_false q,cond_false]; congr 1; omega
end Go.Pv
set_option linter.unusedSimpArgs false
namespace Go.Pv
open Go
theorem engP1:Ev.engP ⟨[1],0⟩:=by
 have:decide (Ev.engP ⟨[1],0⟩) = true:=by decide
 exact of_decide_eq_true this
theorem awake38:q221 = some true:=by
 unfold q221
 rw [q736,decide_eq_true engP1]
 simp only [cond_true,Option.bind_some,good_eq]
 have g1:goodB ⟨[1],0⟩ (newC 1) = true:=by unfold goodB; rw [decide_eq_true engP1]; decide
 have g2:goodB ⟨[1],0⟩ zeroC = false:=by unfold goodB; rw [decide_eq_true engP1]; decide
 rw [show (([1]:List Int).length) = 1 from rfl]
 rw [show (⟨⟨(newC 1).Pedal.Value,(newC 1).Pedal.Differ,(newC 1).Pedal.Fault⟩,⟨(newC 1).Idle.Sum⟩,(newC 1).Knock,⟨(newC 1).Probe.Active,(newC 1).Probe.Rich,(newC 1).Probe.Factor,(newC 1).Probe.Wait,(newC 1).Probe.Cells⟩,(newC 1).Film,⟨(newC 1).Grant.Torque,(newC 1).Grant.Source⟩⟩:SControls) = newC 1 from rfl,g1]
 rw [show (⟨⟨0,0,false⟩,⟨0⟩,[],⟨false,false,0,0,[]⟩,0,⟨0,0⟩⟩:SControls) = zeroC from rfl,g2]
 rfl
theorem few38 (t:STables):∃ b,q321 t = some b:=by
 have f1:∀ m:SMap,∃ b,q73 m = some b:=fun m=>by
  unfold q73
  cases h:((decide ((m.X.length:Int) > 40) || decide ((m.Y.length:Int) > 40)) || decide ((m.Z.length:Int) > 40))
  ·have hz:m.Z.length ≤ 40:=by simp at h; omega
   have k:q41 m.Z q117 = some (m.Z.any fun l=>decide ((l.length:Int) > 40)):=index_any m.Z (by omega) q117 _ (fun l _=>rfl)
   rw [k]; exact ⟨_,rfl⟩
  ·exact ⟨_,rfl⟩
 have e:∀ (l:List SMap),l.length ≤ 4 → ∃ b,q202 l q73 = some b:=fun l hl=>
  ⟨_,index_any l (by omega) q73 (fun m=>(f1 m).choose) (fun m _=>(f1 m).choose_spec)⟩
 have e2:∀ (l:List SCurve),l.length ≤ 4 → ∃ b,q167 l q143 = some b:=fun l hl=>
  ⟨_,index_any l (by omega) q143 (fun c=>decide ((c.X.length:Int) > 40) || decide ((c.Y.length:Int) > 40)) (fun m _=>rfl)⟩
 unfold q321
 obtain ⟨b,hb⟩:=e [t.Air,t.Spark,t.Torque,t.Wish] (Nat.le_refl _)
 obtain ⟨b2,hb2⟩:=e2 [t.AirTemp,t.Dwell,t.Dead,t.Efficiency] (Nat.le_refl _)
 rw [hb,hb2]
 cases b <;> exact ⟨_,rfl⟩
end Go.Pv

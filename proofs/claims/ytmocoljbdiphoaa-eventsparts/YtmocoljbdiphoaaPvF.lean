/- The value machine, part F: the machine does what the quiet operations' function says. -/
import Derived.Test.YtmocoljbdiphoaaPvE
namespace Go.Pv
open Go.RowKit

def Does (P : Program) (o : Oper) (a : Act) (w : World) (v : Value) (w' : World) : Prop :=
  (execOp a.eval o).run P w = .ok (.value v) w' ∨ ((execOp a.eval o).run P w = .ok .skip w' ∧ v = undef)

theorem sameKind_eq {k k' : IntKind} (h : sameKind k k' = true) : k = k' := by
  cases k <;> cases k' <;> first | rfl | (simp [sameKind] at h)

section
variable {P : Program} {tab : Tab} {w0 : World} {L : Lim} {nt : Nat} {σ σ' : St} {S : Nat → Prop} {E : Nat → Value} {a : Act} {w : World} {t : T}

theorem RV.tv {x y : Value} (h : RV w S E x (.t (.v y))) : x = y := by
  cases h with
  | t h => cases h; rfl

theorem RV.slice {x : Value} {n : Nat} {rs : List (List Tree)} (h : RV w S E x (.t (.sl n rs))) : ∃ a c, x = .slice a n c := by
  cases h with
  | t h => cases h <;> exact ⟨_, _, rfl⟩

theorem arith_ok {op : BinOp} {k k' : IntKind} {x y : Int} {v : Value} (hk : sameKind k k' = true ∨ isShift op = true) (h : arith op k x y = some v) :
    (binOp op 0 (.int k x) (.int k' y)).run P w = .ok v w ∧ ∀ ty, binOp op ty (.int k x) (.int k' y) = binOp op 0 (.int k x) (.int k' y) := by
  cases op <;> simp only [arith, Option.some.injEq, reduceCtorEq] at h
  case quo =>
    split at h <;> simp only [Option.some.injEq, reduceCtorEq] at h
    subst h
    rename_i hy
    obtain rfl := sameKind_eq (hk.resolve_right (by simp [isShift]))
    exact ⟨by simp [binOp, Op.intDiv, hy], fun ty => by simp [binOp]⟩
  case rem =>
    split at h <;> simp only [Option.some.injEq, reduceCtorEq] at h
    subst h
    rename_i hy
    obtain rfl := sameKind_eq (hk.resolve_right (by simp [isShift]))
    exact ⟨by simp [binOp, Op.intDiv, hy], fun ty => by simp [binOp]⟩
  case shl =>
    split at h <;> simp only [Option.some.injEq, reduceCtorEq] at h
    subst h
    rename_i hy
    exact ⟨by simp [binOp, Op.shift, hy], fun ty => by simp [binOp]⟩
  case shr =>
    split at h <;> simp only [Option.some.injEq, reduceCtorEq] at h
    subst h
    rename_i hy
    exact ⟨by simp [binOp, Op.shift, hy], fun ty => by simp [binOp]⟩
  all_goals
    subst h
    obtain rfl := sameKind_eq (hk.resolve_right (by simp [isShift]))
    exact ⟨by simp [binOp, Op.intArith, Op.intCmp, Op.intBits], fun ty => by simp [binOp]⟩

theorem eqGuard_run (op : BinOp) (ty : Nat) (x y : Operand) (v u : Value) (h1 : v ≠ .nilIface) (h2 : ∀ l, v ≠ .agg l) : (eqGuard op ty x y v u).run P w = .ok () w := by
  unfold eqGuard
  cases op <;> simp
  all_goals (cases v <;> first | (simp at h1; done) | (exact absurd rfl (h2 _)) | (cases u <;> simp))

theorem bool_ok (htab : TabOk P tab) {ty : Nat} {n : Nat} {z : List Value} (hl : look tab ty = some ⟨n, .bool, z⟩) (x y : Bool) :
    (Op.equal ty (.bool x) (.bool y)).run P w = .ok (x == y) w := by
  obtain ⟨d, hd, hok⟩ := (htab ty _ hl).run_under w
  simp only [TD.ok] at hok
  subst hok
  show (Op.equalIn (9999 + 1) ty (.bool x) (.bool y)).run P w = _
  rw [Op.equalIn]
  simp [hd]

theorem binT_ok (htab : TabOk P tab) {op : BinOp} {ty : Nat} {x y : Operand} {X Y : Option T} (hx : ∀ t, X = some t → RV w S E (a.eval x) t) (hy : ∀ t, Y = some t → RV w S E (a.eval y) t)
    (h : binT tab op ty X Y = some t) : ∃ v, (do eqGuard op ty x y (a.eval x) (a.eval y); binOp op ty (a.eval x) (a.eval y) : Sem Value).run P w = .ok v w ∧ RV w S E v t := by
  unfold binT at h
  split at h
  · rename_i k i k' j
    have e1 := (hx _ rfl).tv
    have e2 := (hy _ rfl).tv
    cases hk : (sameKind k k' || isShift op) <;> simp only [hk, cond_true, cond_false, reduceCtorEq] at h
    cases ha : arith op k i j with
    | none => simp [ha] at h
    | some v =>
      simp only [ha, Option.map_some, Option.some.injEq] at h
      subst h
      obtain ⟨h1, h2⟩ := arith_ok (P := P) (w := w) (by simpa using hk) ha
      rw [e1, e2]
      refine ⟨v, ?_, .t (.v v)⟩
      simp only [Sem.run_bind, eqGuard_run op ty x y (.int k i) (.int k' j) (by simp) (by simp), Result.andThen_ok, h2, h1]
  · rename_i i j
    have e1 := (hx _ rfl).tv
    have e2 := (hy _ rfl).tv
    rw [e1, e2]
    split at h
    · rename_i n z hl
      have hb := bool_ok (w := w) htab hl i j
      split at h
      · simp only [Option.some.injEq] at h
        subst h
        exact ⟨_, by simp only [Sem.run_bind, eqGuard_run .eql ty x y (.bool i) (.bool j) (by simp) (by simp), Result.andThen_ok]; simp [binOp, hb], .t (.v _)⟩
      · simp only [Option.some.injEq] at h
        subst h
        exact ⟨_, by simp only [Sem.run_bind, eqGuard_run .neq ty x y (.bool i) (.bool j) (by simp) (by simp), Result.andThen_ok]; simp [binOp, hb], .t (.v _)⟩
      · cases h
    · cases h
  · cases h

theorem unT_ok {op : UnOp} {x : Value} {X : Option T} (hx : ∀ t, X = some t → RV w S E x t) (h : unT op X = some t) : ∃ v, (Op.unary op x).run P w = .ok v w ∧ RV w S E v t := by
  unfold unT at h
  split at h
  · have e1 := (hx _ rfl).tv
    subst e1
    split at h
    · cases h; exact ⟨_, by simp [Op.unary], .t (.v _)⟩
    · cases h
  · have e1 := (hx _ rfl).tv
    subst e1
    split at h
    · cases h; exact ⟨_, by simp [Op.unary, Op.intArith], .t (.v _)⟩
    · cases h
  · cases h

theorem pickT_ok {c : Bool} {x y : Value} {X Y : Option T} (hx : ∀ t, X = some t → RV w S E x t) (hy : ∀ t, Y = some t → RV w S E y t) (h : pickT c X Y = some t) : RV w S E (if c then x else y) t := by
  unfold pickT at h
  split at h
  · have e1 := (hx _ rfl).tv
    have e2 := (hy _ rfl).tv
    cases h
    subst e1; subst e2
    cases c <;> exact .t (.v _)
  · cases c
    · exact hy t h
    · exact hx t h

theorem convT_ok (htab : TabOk P tab) {s d : Nat} {x : Value} {X : Option T} (hx : ∀ t, X = some t → RV w S E x t) (h : convT tab d X = some t) (hs : ∃ u, P.underlying s = some u) :
    ∃ v, (convert s d x).run P w = .ok v w ∧ RV w S E v t := by
  unfold convT at h
  split at h
  · have e1 := (hx _ rfl).tv
    subst e1
    split at h
    · rename_i k n z hl
      cases h
      obtain ⟨u, hu, hok⟩ := (htab d _ hl).run_under w
      simp only [TD.ok] at hok
      subst hok
      obtain ⟨u, hus⟩ := hs
      exact ⟨_, by simp [convert, run_underlying hus, hu, Conv.intToInt], .t (.v _)⟩
    · cases h
  · cases h

theorem lenT_ok (htab : TabOk P tab) (hok : Ok w0 L nt σ S E a w) {ty type : Nat} {x : Value} {X : Option T} (hx : ∀ t, X = some t → RV w S E x t) (h : lenT tab σ.hp ty X = some t) :
    ∃ v, (Builtin.len_ #[ty] type #[x]).run P w = .ok v w ∧ RV w S E v t := by
  unfold lenT at h
  split at h
  · rename_i n e z hl
    obtain ⟨d, hd, ho⟩ := (htab ty _ hl).run_under w
    simp only [TD.ok] at ho
    subst ho
    have key : ∀ (a' : Option Addr) (m c : Nat), (Builtin.len_ #[ty] type #[.slice a' m c]).run P w = .ok (.int .i64 m) w := by
      intro a' m c
      simp [Builtin.len_, hd, goInt]
    split at h
    · obtain ⟨a', c, rfl⟩ := (hx _ rfl).slice
      cases h
      exact ⟨_, key _ _ _, .t (.v _)⟩
    · have e1 := (hx _ rfl).tv
      subst e1
      cases h
      exact ⟨_, key _ _ _, .t (.v _)⟩
    · rename_i id
      split at h
      · rename_i el sz m rs hb
        cases h
        have hv := hx _ rfl
        cases hv with
        | own _ _ hEx =>
          subst hEx
          obtain ⟨hn, ⟨hE, hr⟩ | ⟨β, cap, vs, _, hE, _⟩⟩ := hok.hp id _ hb
          · subst hr; simp at hn; subst hn; rw [hE]; exact ⟨_, key _ _ _, .t (.v _)⟩
          · rw [hE]; subst hn; exact ⟨_, key _ _ _, .t (.v _)⟩
      · cases h
    · cases h
  · rename_i n z hl
    obtain ⟨d, hd, ho⟩ := (htab ty _ hl).run_under w
    simp only [TD.ok] at ho
    subst ho
    split at h
    · have e1 := (hx _ rfl).tv
      subst e1
      cases h
      exact ⟨_, by simp [Builtin.len_, hd, goInt], .t (.v _)⟩
    · cases h
  · cases h

theorem foldT_ok {f : Int → Int → Int} {g : Value → Value → Sem Value} (hg : ∀ k x k' y, (g (.int k x) (.int k' y)) = pure (.int k (f x y))) (hok : Ok w0 L nt σ S E a w) :
    ∀ (rest : List Operand) (x : Value) (X : Option T), (∀ t, X = some t → RV w S E x t) → ∀ t, foldT f σ.tm X rest = some t →
      ∃ v, ((rest.map a.eval).foldlM g x).run P w = .ok v w ∧ RV w S E v t
  | [], x, X, hx, t, h => by
    have h : X = some t := by cases X <;> first | exact h | (simp [foldT] at h; done)
    exact ⟨x, by simp, hx t h⟩
  | o :: rest, x, X, hx, t, h => by
    unfold foldT at h
    split at h
    · rename_i heq; cases heq
    · rename_i k i o' rest' heq
      cases heq
      have e1 := (hx _ rfl).tv
      subst e1
      split at h
      · rename_i k' j hv
        have e2 := (hok.val hv).tv
        have ih := foldT_ok hg hok rest (.int k (f i j)) _ (fun t ht => by cases ht; exact .t (.v _)) t h
        obtain ⟨v, hr, hv'⟩ := ih
        refine ⟨v, ?_, hv'⟩
        simp only [List.map_cons, List.foldlM_cons, e2, hg, pure_bind]
        exact hr
      · cases h
    · cases h

theorem vals_ok (hok : Ok w0 L nt σ S E a w) : ∀ (l : List Operand) (r : List T), vals σ.tm l = some r → RVL w S E (l.map a.eval) r
  | [], r, h => by simp [vals] at h; subst h; exact ⟨rfl, fun j h1 => by simp at h1⟩
  | o :: rest, r, h => by
    unfold vals at h
    split at h
    · rename_i x m hx hm
      cases h
      have ih := vals_ok hok rest m hm
      refine ⟨by simp [ih.1], fun j h1 h2 => ?_⟩
      cases j with
      | zero => exact hok.val hx
      | succ j => exact ih.2 j (by simpa using h1) (by simpa using h2)
    · cases h
end
end Go.Pv

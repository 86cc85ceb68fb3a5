/- The value machine, part I: what code does to states, as rules. -/
import Derived.Test.YtmocoljbdiphoaaPvH
namespace Go.Pv
open Go.RowKit

def putT (nt : Nat) (dst : Option Nat) (t : T) (σ : St) : Option St :=
  match dst with
  | none => some σ
  | some d => bif Nat.blt d nt then (match σ with | ⟨tm, hp⟩ => some ⟨(d, t) :: tm, hp⟩) else none

def guardT (all : List Oper) (tm : List (Nat × T)) : Option (Nat × Bool) → Option Bool
  | none => some true
  | some (j, want) => match all[j]? with
    | some o => match o.dst with
      | some d => match look tm d with
        | some (.t (.v (.bool b))) => some (match want with | true => b | false => !b)
        | some (.t (.v (.tuple _))) => some false
        | _ => none
      | none => none
    | none => none

/-- The next n operations, as far as they are quiet. -/
def runOps (tab : Tab) (nt : Nat) (all : List Oper) : Nat → List Oper → St → List Oper × St
  | 0, ops, σ => (ops, σ)
  | _ + 1, [], σ => ([], σ)
  | n + 1, o :: rest, σ => match guardT all σ.tm o.guard with
    | some true => match evalOp tab σ o with
      | some (t, σ') => match putT nt o.dst t σ' with
        | some σ'' => runOps tab nt all n rest σ''
        | none => (o :: rest, σ)
      | none => (o :: rest, σ)
    | some false => match putT nt o.dst (.t (.v undef)) σ with
      | some σ'' => runOps tab nt all n rest σ''
      | none => (o :: rest, σ)
    | none => (o :: rest, σ)

inductive K where
  | c (x : Code)
  | e (id : Nat)

def after (P : Program) : List K → (Exit → Act → World → Prop) → Exit → Act → World → Prop
  | [], Q => Q
  | .c x :: ks, Q => Exit.then (x.wp P (after P ks Q)) (after P ks Q)
  | .e id :: ks, Q => Exit.inBlock id (after P ks Q)

def popTo (id : Nat) : List K → Option (List K)
  | [] => none
  | .c _ :: ks => popTo id ks
  | .e i :: ks => bif Nat.beq id i then some ks else popTo id ks

/-- What stays the same through a function's run: the program, the table of types, the world at the call, the blocks lent to it, how many slots it has. -/
structure Cx where
  P : Program
  tab : Tab
  htab : TabOk P tab
  w0 : World
  L : Lim
  nt : Nat

def Cx.post (X : Cx) (Q : Exit → St → Prop) : Exit → Act → World → Prop := fun e a w => ∃ σ, Sim X.w0 X.L X.nt σ a w ∧ Q e σ

def TieX {ρ : Type} (X : Cx) (ks : List K) (e : Exit) (σ : St) (m : Option ρ) (Q : ρ → Exit → St → Prop) : Prop :=
  ∀ r, m = some r → ∀ a w, Sim X.w0 X.L X.nt σ a w → after X.P ks (X.post (Q r)) e a w

abbrev TieS {ρ : Type} (X : Cx) (ks : List K) (σ : St) (m : Option ρ) (Q : ρ → Exit → St → Prop) : Prop := TieX X ks .normal σ m Q

def TieO {ρ : Type} (X : Cx) (all : Array Oper) (ops : List Oper) (ks : List K) (σ : St) (m : Option ρ) (Q : ρ → Exit → St → Prop) : Prop :=
  ∀ r, m = some r → ∀ a w, Sim X.w0 X.L X.nt σ a w → wpList X.P all (after X.P ks (X.post (Q r))) ops a w

/-- All are pointers to cells that stay. -/
def els : List T → Option (List (List Tree))
  | [] => some []
  | .el c :: r => (els r).map (c :: ·)
  | _ :: _ => none

theorem els_ok : ∀ {l : List T} {r : List (List Tree)}, els l = some r → l = r.map T.el
  | [], r, h => by simp [els] at h; subst h; rfl
  | x :: l, r, h => by
    cases x <;> simp only [els, reduceCtorEq] at h
    rename_i y
    cases hl : els l with
    | none => simp [hl] at h
    | some m =>
      simp only [hl, Option.map_some, Option.some.injEq] at h
      subst h
      simp [els_ok hl]

theorem RV.pf {w : World} {S : Nat → Prop} {E : Nat → Value} {v : Value} {c : List Tree} (h : RV w S E v (.el c)) : PF w S v c := by
  cases h with | el b o _ vs hS hc hr => exact ⟨b, o, vs, rfl, hS, hc, hr⟩
theorem PF.rv {w : World} {S : Nat → Prop} {E : Nat → Value} {v : Value} {c : List Tree} (h : PF w S v c) : RV w S E v (.el c) := by
  obtain ⟨b, o, vs, rfl, hS, hc, hr⟩ := h
  exact .el b o _ vs hS hc hr

theorem RV.to_fz {w : World} {S : Nat → Prop} {E : Nat → Value} {v : Value} {n : Nat} {l : List T} {r : List (List Tree)} (h : RV w S E v (.clo n l)) (hr : els l = some r) : RV w S E v (.fz n r) := by
  have := els_ok hr
  subst this
  cases h with
  | clo _ vs _ hl hv =>
    refine .fz n vs r (by simpa using hl) fun j h1 h2 => ?_
    have := hv j h1 (by simpa using h2)
    simp only [List.getElem_map] at this
    exact this.pf

mutual
/-- x as it is called in u, where u says no more: a nil slice as a slice without rows, anything as anything. -/
def mrg : T → T → T
  | .agg l, u => match u with | .agg l' => .agg (mrgL l l') | .any => .any | _ => .agg l
  | .tup l, u => match u with | .tup l' => .tup (mrgL l l') | .any => .any | _ => .tup l
  | .t x, u => match u with | .t (.sl _ _) => .t (nilTree x) | .any => .any | _ => .t x
  | .clo f l, u => match u with | .fz _ _ => (match els l with | some c => .fz f c | none => .clo f l) | .any => .any | _ => .clo f l
  | x, u => match u with | .any => .any | _ => x
def mrgL : List T → List T → List T
  | [], _ => []
  | x :: l, u => match u with | y :: l' => mrg x y :: mrgL l l' | [] => x :: l
end

mutual
theorem mrg_ok {w : World} {S : Nat → Prop} {E : Nat → Value} : ∀ {t u : T} {v : Value}, RV w S E v t → RV w S E v (mrg t u)
  | .agg l, u, v, h => by
    unfold mrg
    split
    · cases h with | agg vs _ hl hr => have := mrgL_ok (u := ‹List T›) ⟨hl, hr⟩; exact .agg vs _ this.1 this.2
    · exact .any v
    · exact h
  | .tup l, u, v, h => by
    unfold mrg
    split
    · cases h with | tup vs _ hl hr => have := mrgL_ok (u := ‹List T›) ⟨hl, hr⟩; exact .tup vs _ this.1 this.2
    · exact .any v
    · exact h
  | .t x, u, v, h => by
    unfold mrg
    split
    · cases h with | t h => exact .t (nilTree_ok h)
    · exact .any v
    · exact h
  | .clo f l, u, v, h => by
    unfold mrg
    split
    · split
      · exact RV.to_fz h ‹_›
      · exact h
    · exact .any v
    · exact h
  | .el c, u, v, h => by unfold mrg; split <;> first | exact .any v | exact h
  | .ptr i o, u, v, h => by unfold mrg; split <;> first | exact .any v | exact h
  | .own i, u, v, h => by unfold mrg; split <;> first | exact .any v | exact h
  | .pe i a b c, u, v, h => by unfold mrg; split <;> first | exact .any v | exact h
  | .fz n c, u, v, h => by unfold mrg; split <;> first | exact .any v | exact h
  | .any, u, v, h => by unfold mrg; split <;> first | exact .any v | exact h
theorem mrgL_ok {w : World} {S : Nat → Prop} {E : Nat → Value} : ∀ {l u : List T} {vs : List Value}, RVL w S E vs l → RVL w S E vs (mrgL l u)
  | [], u, vs, h => by simp only [mrgL]; exact h
  | x :: l, u, vs, h => by
    unfold mrgL
    split
    · rename_i y l'
      cases vs with
      | nil => have := h.1; simp at this
      | cons v vs =>
        have h1 := mrg_ok (u := y) (t := x) (h.2 0 (by simp) (by simp))
        have h2 := mrgL_ok (u := l') (l := l) (vs := vs) ⟨by simpa using h.1, fun j a b => h.2 (j + 1) (by simpa using a) (by simpa using b)⟩
        refine ⟨by simp [h2.1], fun j a b => ?_⟩
        cases j with
        | zero => exact h1
        | succ j => exact h2.2 j (by simpa using a) (by simpa using b)
    · exact h
end

def mrgB : Blk → Blk → Blk
  | .box l, u => match u with | .box l' => .box (mrgL l l') | _ => .box l
  | x, _ => x

theorem mrgB_ok {w : World} {S : Nat → Prop} {E : Nat → Value} {x : Value} {b u : Blk} (h : BlkOk w S E x b) : BlkOk w S E x (mrgB b u) := by
  cases b with
  | rows => exact h
  | box l =>
    cases u with
    | box l' =>
      obtain ⟨β, vs, elem, h1, h2, h3, h4, h5⟩ := h
      have := mrgL_ok (u := l') (l := l) (vs := vs) ⟨h3, h4⟩
      exact ⟨β, vs, elem, h1, h2, this.1, this.2, h5⟩
    | rows => exact h

def subT : List (Nat × T) → List (Nat × T) → Prop
  | [], _ => True
  | (k, t) :: r, l => (∃ t', look l k = some t' ∧ mrg t' t = t) ∧ subT r l
def subB : List (Nat × Blk) → List (Nat × Blk) → Prop
  | [], _ => True
  | (k, t) :: r, l => (∃ t', look l k = some t' ∧ mrgB t' t = t) ∧ subB r l
/-- σ₁ says no more than σ. -/
def Sub (σ₁ σ : St) : Prop := subT σ₁.tm σ.tm ∧ subB σ₁.hp σ.hp

theorem subT_look : ∀ {l₁ l : List (Nat × T)}, subT l₁ l → ∀ k t, look l₁ k = some t → ∃ t', look l k = some t' ∧ mrg t' t = t
  | [], _, _, k, t, h => by simp [look] at h
  | (k', t') :: r, l, hs, k, t, h => by
    simp only [look] at h
    by_cases hk : k' = k
    · subst hk; simp only [Nat.beq_refl, cond_true, Option.some.injEq] at h; subst h; exact hs.1
    · simp only [beq_ne hk, cond_false] at h; exact subT_look hs.2 k t h
theorem subB_look : ∀ {l₁ l : List (Nat × Blk)}, subB l₁ l → ∀ k t, look l₁ k = some t → ∃ t', look l k = some t' ∧ mrgB t' t = t
  | [], _, _, k, t, h => by simp [look] at h
  | (k', t') :: r, l, hs, k, t, h => by
    simp only [look] at h
    by_cases hk : k' = k
    · subst hk; simp only [Nat.beq_refl, cond_true, Option.some.injEq] at h; subst h; exact hs.1
    · simp only [beq_ne hk, cond_false] at h; exact subB_look hs.2 k t h

def look2 (l : List (Nat × T)) (p : Nat × T) : Option T := match look l p.1 with | some t => some (mrg t p.2) | none => none
def look3 (l : List (Nat × Blk)) (p : Nat × Blk) : Option Blk := match look l p.1 with | some t => some (mrgB t p.2) | none => none

theorem subT_of : ∀ {l₁ l : List (Nat × T)}, l₁.map (look2 l) = l₁.map (fun p => some p.2) → subT l₁ l
  | [], _, _ => trivial
  | (k, t) :: r, l, h => by
    simp only [List.map_cons, List.cons.injEq] at h
    refine ⟨?_, subT_of h.2⟩
    have h1 := h.1
    unfold look2 at h1
    split at h1
    · rename_i t' ht; exact ⟨t', ht, Option.some.inj h1⟩
    · cases h1
theorem subB_of : ∀ {l₁ l : List (Nat × Blk)}, l₁.map (look3 l) = l₁.map (fun p => some p.2) → subB l₁ l
  | [], _, _ => trivial
  | (k, t) :: r, l, h => by
    simp only [List.map_cons, List.cons.injEq] at h
    refine ⟨?_, subB_of h.2⟩
    have h1 := h.1
    unfold look3 at h1
    split at h1
    · rename_i t' ht; exact ⟨t', ht, Option.some.inj h1⟩
    · cases h1
/-- By one look at each name. -/
theorem Sub.of {σ₁ σ : St} (h₁ : σ₁.tm.map (look2 σ.tm) = σ₁.tm.map (fun p => some p.2)) (h₂ : σ₁.hp.map (look3 σ.hp) = σ₁.hp.map (fun p => some p.2)) : Sub σ₁ σ := ⟨subT_of h₁, subB_of h₂⟩

theorem Ok.sub {w0 : World} {L : Lim} {nt : Nat} {σ σ₁ : St} {S : Nat → Prop} {E : Nat → Value} {a : Act} {w : World} (h : Ok w0 L nt σ S E a w) (hs : Sub σ₁ σ) : Ok w0 L nt σ₁ S E a w := { h with
  tm := fun k t ht => by
    obtain ⟨t', h1, h2⟩ := subT_look hs.1 k t ht
    rw [← h2]; exact mrg_ok (h.tm k t' h1)
  hp := fun i b hb => by
    obtain ⟨b', h1, h2⟩ := subB_look hs.2 i b hb
    rw [← h2]; exact mrgB_ok (h.hp i b' h1)
  own := fun i b β hb hβ => by
    obtain ⟨b', h1, _⟩ := subB_look hs.2 i b hb
    exact h.own i b' β h1 hβ
  dist := fun i i' b b' β h1 h2 => by
    obtain ⟨c, h3, _⟩ := subB_look hs.2 i b h1
    obtain ⟨c', h4, _⟩ := subB_look hs.2 i' b' h2
    exact h.dist i i' c c' β h3 h4 }

theorem Sim.sub {w0 : World} {L : Lim} {nt : Nat} {σ σ₁ : St} {a : Act} {w : World} (h : Sim w0 L nt σ a w) (hs : Sub σ₁ σ) : Sim w0 L nt σ₁ a w := by
  obtain ⟨S, E, h⟩ := h
  exact ⟨S, E, h.sub hs⟩

theorem after_mono {P : Program} {Q Q' : Exit → Act → World → Prop} (hq : ∀ e a w, Q e a w → Q' e a w) : ∀ (ks : List K) e a w, after P ks Q e a w → after P ks Q' e a w
  | [], e, a, w, h => hq e a w h
  | .c x :: ks, e, a, w, h => by
    cases e <;> first | exact wp_mono h (after_mono hq ks) | exact after_mono hq ks _ a w h
  | .e id :: ks, e, a, w, h => by
    cases e with
    | exit i =>
      simp only [after, Exit.inBlock] at h ⊢
      split at h
      · rename_i hi; rw [if_pos hi]; exact after_mono hq ks _ a w h
      · rename_i hi; rw [if_neg hi]; exact after_mono hq ks _ a w h
    | _ => exact after_mono hq ks _ a w h

theorem after_ret {P : Program} {Q : Exit → Act → World → Prop} {a : Act} {w : World} : ∀ (ks : List K), Q .ret a w → after P ks Q .ret a w
  | [], h => h
  | .c _ :: ks, h => after_ret ks h
  | .e _ :: ks, h => after_ret ks h

theorem after_exit {P : Program} {Q : Exit → Act → World → Prop} {a : Act} {w : World} {id : Nat} : ∀ {ks ks' : List K}, popTo id ks = some ks' → after P ks' Q .normal a w → after P ks Q (.exit id) a w
  | [], _, h, _ => by simp [popTo] at h
  | .c _ :: ks, ks', h, hq => after_exit (ks := ks) h hq
  | .e i :: ks, ks', h, hq => by
    simp only [popTo] at h
    by_cases hi : id = i
    · subst hi
      simp only [Nat.beq_refl, cond_true, Option.some.injEq] at h
      subst h
      simpa [after, Exit.inBlock] using hq
    · simp only [beq_ne hi, cond_false] at h
      simp only [after, Exit.inBlock, hi, if_false]
      exact after_exit h hq

theorem after_exit_none {P : Program} {Q : Exit → Act → World → Prop} {a : Act} {w : World} {id : Nat} : ∀ {ks : List K}, popTo id ks = none → Q (.exit id) a w → after P ks Q (.exit id) a w
  | [], _, hq => hq
  | .c _ :: ks, h, hq => after_exit_none (ks := ks) h hq
  | .e i :: ks, h, hq => by
    simp only [popTo] at h
    by_cases hi : id = i
    · subst hi; simp at h
    · simp only [beq_ne hi, cond_false] at h
      simp only [after, Exit.inBlock, hi, if_false]
      exact after_exit_none h hq

section rules
variable {ρ τ : Type} {X : Cx} {ks : List K} {σ σ' : St} {m : Option ρ} {Q : ρ → Exit → St → Prop}

theorem TieX.sub {e : Exit} (hs : Sub σ' σ) (h : TieX X ks e σ' m Q) : TieX X ks e σ m Q := fun r hr a w hw => h r hr a w (hw.sub hs)
theorem TieO.sub {all : Array Oper} {ops : List Oper} (hs : Sub σ' σ) (h : TieO X all ops ks σ' m Q) : TieO X all ops ks σ m Q := fun r hr a w hw => h r hr a w (hw.sub hs)
/-- What a model asks for ahead is there. -/
theorem TieX.pre {e : Exit} {m₁ : Option τ} {k : τ → Option ρ} (h : ∀ y, m₁ = some y → TieX X ks e σ (k y) Q) : TieX X ks e σ (m₁.bind k) Q := fun r hr a w hw => by
  cases hm : m₁ with
  | none => simp [hm] at hr
  | some y => exact h y hm r (by simpa [hm] using hr) a w hw
theorem TieX.split {e : Exit} {b : Bool} {m₁ m₂ : Option ρ} (h₁ : b = true → TieX X ks e σ m₁ Q) (h₂ : b = false → TieX X ks e σ m₂ Q) : TieX X ks e σ (bif b then m₁ else m₂) Q := by
  cases b
  · exact h₂ rfl
  · exact h₁ rfl
theorem TieS.fail : TieS X ks σ none Q := fun r hr => by cases hr
theorem TieO.fail {all : Array Oper} {ops : List Oper} : TieO X all ops ks σ none Q := fun r hr => by cases hr
theorem TieS.leaf {r : ρ} (h : Q r .normal σ) : TieS X [] σ (some r) Q := fun r' hr a w hw => by cases hr; exact ⟨σ, hw, h⟩
theorem TieS.ret {r : ρ} (h : Q r .ret σ) : TieS X (.c .ret :: ks) σ (some r) Q := fun r' hr a w hw => by
  cases hr; exact wp_ret (after_ret ks ⟨σ, hw, h⟩)
theorem TieS.skip (h : TieS X ks σ m Q) : TieS X (.c .skip :: ks) σ m Q := fun r hr a w hw => wp_skip (h r hr a w hw)
theorem TieS.seq {x y : Code} (h : TieS X (.c x :: .c y :: ks) σ m Q) : TieS X (.c (.seq x y) :: ks) σ m Q := fun r hr a w hw => wp_seq (h r hr a w hw)
theorem TieS.block {id : Nat} {x : Code} (h : TieS X (.c x :: .e id :: ks) σ m Q) : TieS X (.c (.block id x) :: ks) σ m Q := fun r hr a w hw => wp_block (h r hr a w hw)
theorem TieS.endb {id : Nat} (h : TieS X ks σ m Q) : TieS X (.e id :: ks) σ m Q := fun r hr a w hw => h r hr a w hw
theorem TieS.exit {id : Nat} {ks' : List K} (hp : popTo id ks = some ks') (h : TieS X ks' σ m Q) : TieS X (.c (.exit id) :: ks) σ m Q := fun r hr a w hw => wp_exit (after_exit hp (h r hr a w hw))
theorem TieS.exitOut {id : Nat} {r : ρ} (hp : popTo id ks = .none) (h : Q r (.exit id) σ) : TieS X (.c (.exit id) :: ks) σ (some r) Q := fun r' hr a w hw => by
  cases hr; exact wp_exit (after_exit_none hp ⟨σ, hw, h⟩)
theorem TieX.exit {id : Nat} {ks' : List K} (hp : popTo id ks = some ks') (h : TieS X ks' σ m Q) : TieX X ks (.exit id) σ m Q := fun r hr a w hw => after_exit hp (h r hr a w hw)
theorem TieX.exitOut {id : Nat} {r : ρ} (hp : popTo id ks = .none) (h : Q r (.exit id) σ) : TieX X ks (.exit id) σ (some r) Q := fun r' hr a w hw => by
  cases hr; exact after_exit_none hp ⟨σ, hw, h⟩
theorem TieX.ret {r : ρ} (h : Q r .ret σ) : TieX X ks .ret σ (some r) Q := fun r' hr a w hw => by
  cases hr; exact after_ret ks ⟨σ, hw, h⟩

theorem TieS.cond {c : Operand} {x y : Code} {b : Bool} {m₁ m₂ : Option ρ} (hc : val σ.tm c = some (.t (.v (.bool b)))) (h₁ : TieS X (.c x :: ks) σ m₁ Q) (h₂ : TieS X (.c y :: ks) σ m₂ Q) :
    TieS X (.c (.cond c x y) :: ks) σ (bif b then m₁ else m₂) Q := fun r hr a w hw => by
  obtain ⟨S, E, hk⟩ := hw
  have hv := (hk.val hc).tv
  cases b
  · exact wp_cond_false hv (h₂ r hr a w ⟨S, E, hk⟩)
  · exact wp_cond_true hv (h₁ r hr a w ⟨S, E, hk⟩)

/-- A piece of code that meets the rest in one state. -/
theorem TieS.bind {x : Code} {m₁ : Option τ} {k : τ → Option ρ} {Q₁ : τ → Exit → St → Prop} (h₁ : TieS X [.c x] σ m₁ Q₁) (h₂ : ∀ t e σ', m₁ = some t → Q₁ t e σ' → TieX X ks e σ' (k t) Q) :
    TieS X (.c x :: ks) σ (m₁.bind k) Q := fun r hr a w hw => by
  cases hm : m₁ with
  | none => simp [hm] at hr
  | some t =>
    simp only [hm, Option.bind_some] at hr
    refine wp_mono (h₁ t hm a w hw) fun e a' w' ⟨σ', hs, hq⟩ => ?_
    exact h₂ t e σ' hm hq r hr a' w' hs

theorem TieS.region {id : Nat} {ops : Array Oper} (h : TieO X ops ops.toList ks σ m Q) : TieS X (.c (.region id ops false) :: ks) σ m Q := fun r hr a w hw => wp_region_list (h r hr a w hw)
theorem TieO.nil {all : Array Oper} (h : TieS X ks σ m Q) : TieO X all [] ks σ m Q := fun r hr a w hw => h r hr a w hw

theorem putT_ok {w0 : World} {L : Lim} {nt : Nat} {σ σ' : St} {S : Nat → Prop} {E : Nat → Value} {a : Act} {w : World} {dst : Option Nat} {v : Value} {t : T}
    (h : Ok w0 L nt σ S E a w) (hv : RV w S E v t) (hp : putT nt dst t σ = some σ') : Ok w0 L nt σ' S E (a.put dst v) w := by
  cases dst with
  | none => simp only [putT, Option.some.injEq] at hp; subst hp; exact h
  | some d =>
    simp only [putT] at hp
    cases hd : Nat.blt d nt <;> simp only [hd, cond_true, cond_false, reduceCtorEq, Option.some.injEq] at hp
    subst hp
    exact h.put (Nat.le_of_ble_eq_true hd) hv

theorem guardT_ok {w0 : World} {L : Lim} {nt : Nat} {σ : St} {S : Nat → Prop} {E : Nat → Value} {a : Act} {w : World} {all : Array Oper} {o : Oper} {b : Bool}
    (h : Ok w0 L nt σ S E a w) (hg : guardT all.toList σ.tm o.guard = some b) : Region.wanted o (yielded all a.tmps) = b := by
  unfold Region.wanted
  cases hgd : o.guard with
  | none => rw [hgd] at hg; simp only [guardT, Option.some.injEq] at hg; exact hg
  | some p =>
    obtain ⟨j, want⟩ := p
    rw [hgd] at hg
    simp only [guardT] at hg
    split at hg <;> try (cases hg; done)
    rename_i o' ho'
    split at hg <;> try (cases hg; done)
    rename_i d hd
    have hl : all[j]? = some o' := by simpa using ho'
    have hsz := h.size
    split at hg <;> try (cases hg; done)
    · rename_i x hx
      have hv := (h.tm d _ hx).tv
      have hdlt : a.tmps[d]? = some (.bool x) := by
        cases hq : a.tmps[d]? with
        | none => simp [hq, undef] at hv
        | some y => simp [hq] at hv; rw [hv]
      have hy : yielded all a.tmps j = some x := by simp [yielded, hl, hd, hdlt]
      simp only [hy]
      cases want <;> cases x <;> simp at hg ⊢ <;> first | exact hg | (subst hg; rfl) | assumption
    · rename_i x hx
      have hv := (h.tm d _ hx).tv
      simp only [Option.some.injEq] at hg
      subst hg
      have hy : yielded all a.tmps j = none := by
        simp only [yielded, hl, hd, Option.bind_some]
        cases hq : a.tmps[d]? with
        | none => rfl
        | some y => simp [hq] at hv; rw [hv]
      simp [hy]

theorem TieO.step {all : Array Oper} {o : Oper} {rest : List Oper} {t : T} {σ₁ σ₂ : St} (hg : guardT all.toList σ.tm o.guard = some true) (he : evalOp X.tab σ o = some (t, σ₁)) (hp : putT X.nt o.dst t σ₁ = some σ₂)
    (h : TieO X all rest ks σ₂ m Q) : TieO X all (o :: rest) ks σ m Q := fun r hr a w ⟨S, E, hk⟩ => by
  obtain ⟨v, w', E', hd, hk', hv⟩ := evalOp_ok X.htab hk he
  refine wpList_step fun K hK => ?_
  rw [guardT_ok hk hg, if_pos rfl]
  have hnext : K (a.put o.dst v) w' := hK _ _ (h r hr _ _ ⟨S, E', putT_ok hk' hv hp⟩)
  unfold Oper.wp
  rcases hd with hd | ⟨hd, rfl⟩ <;> rw [hd]
  · exact hnext
  · exact hnext

theorem TieO.pass {all : Array Oper} {o : Oper} {rest : List Oper} {σ₂ : St} (hg : guardT all.toList σ.tm o.guard = some false) (hp : putT X.nt o.dst (.t (.v undef)) σ = some σ₂)
    (h : TieO X all rest ks σ₂ m Q) : TieO X all (o :: rest) ks σ m Q := fun r hr a w ⟨S, E, hk⟩ => by
  refine wpList_step fun K hK => ?_
  rw [guardT_ok hk hg, if_neg (by simp)]
  exact hK _ _ (h r hr _ _ ⟨S, E, putT_ok hk (.t (.v undef)) hp⟩)

theorem TieO.run' {all : Array Oper} : ∀ (n : Nat) (ops ops' : List Oper) (σ σ' : St), runOps X.tab X.nt all.toList n ops σ = (ops', σ') → TieO X all ops' ks σ' m Q → TieO X all ops ks σ m Q
  | 0, ops, ops', σ, σ', he, h => by cases he; exact h
  | _ + 1, [], ops', σ, σ', he, h => by cases he; exact h
  | n + 1, o :: rest, ops', σ, σ', he, h => by
    unfold runOps at he
    split at he
    · rename_i hg
      split at he
      · rename_i t σ₁ hev
        split at he
        · rename_i σ₂ hp
          exact .step hg hev hp (TieO.run' n rest ops' σ₂ σ' he h)
        · cases he; exact h
      · cases he; exact h
    · rename_i hg
      split at he
      · rename_i σ₂ hp
        exact .pass hg hp (TieO.run' n rest ops' σ₂ σ' he h)
      · cases he; exact h
    · cases he; exact h

theorem TieO.run {all : Array Oper} {ops ops' : List Oper} (n : Nat) (he : runOps X.tab X.nt all.toList n ops σ = (ops', σ')) (h : TieO X all ops' ks σ' m Q) : TieO X all ops ks σ m Q := TieO.run' n ops ops' σ σ' he h

/-- A test within a region: decided on both sides. -/
theorem TieO.split {all : Array Oper} {ops : List Oper} {tm : List (Nat × T)} {hp : List (Nat × Blk)} {b : Bool} {m₁ m₂ : Option ρ} (d : Nat) (hd : look tm d = some (.t (.v (.bool b)))) (h₁ : TieO X all ops ks ⟨(d, .t (.v (.bool true))) :: tm, hp⟩ m₁ Q)
    (h₂ : TieO X all ops ks ⟨(d, .t (.v (.bool false))) :: tm, hp⟩ m₂ Q) : TieO X all ops ks ⟨tm, hp⟩ (bif b then m₁ else m₂) Q := fun r hr a w hw => by
  have key : ∀ b', b = b' → Sim X.w0 X.L X.nt ⟨(d, .t (.v (.bool b'))) :: tm, hp⟩ a w := by
    intro b' hb
    subst hb
    obtain ⟨S, E, hk⟩ := hw
    refine ⟨S, E, { hk with tm := fun k t ht => ?_ }⟩
    simp only [look] at ht
    by_cases hkd : d = k
    · subst hkd; simp only [Nat.beq_refl, cond_true, Option.some.injEq] at ht; subst ht; exact hk.tm d _ hd
    · simp only [beq_ne hkd, cond_false] at ht; exact hk.tm k t ht
  cases b
  · exact h₂ r hr a w (key _ rfl)
  · exact h₁ r hr a w (key _ rfl)

theorem wpList_append {P : Program} {all : Array Oper} {Q : Exit → Act → World → Prop} : ∀ (l₁ l₂ : List Oper) (a : Act) (w : World),
    wpList P all (Exit.then (wpList P all Q l₂) Q) l₁ a w → wpList P all Q (l₁ ++ l₂) a w
  | [], l₂, a, w, h => h
  | o :: l₁, l₂, a, w, h => by
    unfold wpList at h
    simp only [List.cons_append]
    unfold wpList
    split at h
    · rename_i hg
      rw [if_pos hg]
      rcases h with h | ⟨h1, h2⟩
      · left
        have ih := fun a w => wpList_append (P := P) (all := all) (Q := Q) l₁ l₂ a w
        unfold Oper.wp at h ⊢
        unfold Oper.upon at h ⊢
        split at h <;> first
          | exact ih _ _ h
          | (refine h.mono fun e w' he => ?_
             cases e <;> first | exact ih _ _ he | exact he)
          | (refine h.mono fun v w' he => ?_; exact ih _ _ he)
          | exact h
          | exact h.elim
      · right
        exact ⟨h1, by obtain ⟨a', w', hq⟩ := h2; exact ⟨a', w', hq⟩⟩
    · rename_i hg
      rw [if_neg hg]
      exact wpList_append l₁ l₂ _ _ h

/-- The first n operations of a region, which meet the rest in one state. -/
theorem TieO.bind {all : Array Oper} {ops : List Oper} {m₁ : Option τ} {k : τ → Option ρ} (n : Nat) (σ₁ : τ → St) (h₁ : TieO X all (ops.take n) [] σ m₁ (fun t e σ' => e = .normal ∧ Sub (σ₁ t) σ'))
    (h₂ : ∀ t, m₁ = some t → TieO X all (ops.drop n) ks (σ₁ t) (k t) Q) : TieO X all ops ks σ (m₁.bind k) Q := fun r hr a w hw => by
  rw [← List.take_append_drop n ops]
  cases hm : m₁ with
  | none => simp [hm] at hr
  | some t =>
    simp only [hm, Option.bind_some] at hr
    refine wpList_append _ _ _ _ ?_
    have h := h₁ t hm a w hw
    have mono : ∀ (l : List Oper) (Q Q' : Exit → Act → World → Prop), (∀ e a w, Q e a w → Q' e a w) → ∀ a w, wpList X.P all Q l a w → wpList X.P all Q' l a w := by
      intro l Q Q' hq
      induction l with
      | nil => intro a w h; exact hq _ _ _ h
      | cons o l ih =>
        intro a w h
        unfold wpList at h ⊢
        split at h
        · rename_i hg
          rw [if_pos hg]
          rcases h with h | ⟨h1, a', w', h2⟩
          · left
            unfold Oper.wp at h ⊢
            unfold Oper.upon at h ⊢
            split at h <;> first
              | exact ih _ _ h
              | (refine h.mono fun e w' he => ?_
                 cases e <;> first | exact ih _ _ he | exact hq _ _ _ he | (obtain ⟨a₀, w₀, h₀⟩ := he; exact ⟨a₀, w₀, hq _ _ _ h₀⟩))
              | (refine h.mono fun v w' he => ?_; exact ih _ _ he)
              | exact hq _ _ _ h
              | exact h.elim
          · right; exact ⟨h1, a', w', hq _ _ _ h2⟩
        · rename_i hg
          rw [if_neg hg]
          exact ih _ _ h
    refine mono _ _ _ ?_ a w h
    rintro e a' w' ⟨σ', hs, rfl, hsub⟩
    exact h₂ t hm r hr a' w' (hs.sub hsub)
end rules
end Go.Pv

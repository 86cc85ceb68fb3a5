/- The value machine, part E: the quiet operations, all in one function, and that the machine does what it says. -/
import Derived.Test.YtmocoljbdiphoaaPvD
namespace Go.Pv
open Go.RowKit

def arith (op : BinOp) (k : IntKind) (x y : Int) : Option Value :=
  match op with
  | .add => some (.int k (k.wrap (x + y)))
  | .sub => some (.int k (k.wrap (x - y)))
  | .mul => some (.int k (k.wrap (x * y)))
  | .eql => some (.bool (x == y))
  | .neq => some (.bool (x != y))
  | .lss => some (.bool (x < y))
  | .leq => some (.bool (x ≤ y))
  | .gtr => some (.bool (x > y))
  | .geq => some (.bool (x ≥ y))
  | .quo => if y = 0 then none else some (.int k (k.wrap (x.tdiv y)))
  | .rem => if y = 0 then none else some (.int k (x.tmod y))
  | .and => some (.int k (k.wrap (BitVec.ofInt k.bits x &&& BitVec.ofInt k.bits y).toNat))
  | .or => some (.int k (k.wrap (BitVec.ofInt k.bits x ||| BitVec.ofInt k.bits y).toNat))
  | .xor => some (.int k (k.wrap (BitVec.ofInt k.bits x ^^^ BitVec.ofInt k.bits y).toNat))
  | .shl => if y < 0 then none else some (.int k (k.wrap (x * 2 ^ (min y.toNat k.bits))))
  | .shr => if y < 0 then none else some (.int k (x.fdiv (2 ^ (min y.toNat k.bits))))
  | _ => none

def sameKind : IntKind → IntKind → Bool
  | .i8, .i8 | .i16, .i16 | .i32, .i32 | .i64, .i64 | .u8, .u8 | .u16, .u16 | .u32, .u32 | .u64, .u64 => true
  | _, _ => false

def isShift : BinOp → Bool
  | .shl | .shr => true
  | _ => false

def binT (tab : Tab) (op : BinOp) (ty : Nat) : Option T → Option T → Option T
  | some (.t (.v (.int k x))), some (.t (.v (.int k' y))) => bif sameKind k k' || isShift op then (arith op k x y).map fun v => .t (.v v) else none
  | some (.t (.v (.bool x))), some (.t (.v (.bool y))) => match look tab ty with
    | some ⟨_, .bool, _⟩ => match op with
      | .eql => some (.t (.v (.bool (x == y))))
      | .neq => some (.t (.v (.bool (!(x == y)))))
      | _ => none
    | _ => none
  | _, _ => none

def unT (op : UnOp) : Option T → Option T
  | some (.t (.v (.bool x))) => match op with | .not => some (.t (.v (.bool (!x)))) | _ => none
  | some (.t (.v (.int k x))) => match op with | .neg => some (.t (.v (.int k (k.wrap (0 - x))))) | _ => none
  | _ => none

def pickT (c : Bool) : Option T → Option T → Option T
  | some (.t (.v (.bool x))), some (.t (.v (.bool y))) => some (.t (.v (.bool (bif c then x else y))))
  | a, b => match c with | true => a | false => b

def convT (tab : Tab) (d : Nat) : Option T → Option T
  | some (.t (.v (.int _ x))) => match look tab d with
    | some ⟨_, .int k, _⟩ => some (.t (.v (.int k (k.wrap x))))
    | _ => none
  | _ => none

def lenT (tab : Tab) (hp : List (Nat × Blk)) (ty : Nat) (x : Option T) : Option T :=
  match look tab ty with
  | some ⟨_, .slice _, _⟩ => match x with
    | some (.t (.sl n _)) => some (.t (.v (.int .i64 n)))
    | some (.t (.v (.slice _ n _))) => some (.t (.v (.int .i64 n)))
    | some (.own id) => match look hp id with
      | some (.rows _ _ n _) => some (.t (.v (.int .i64 n)))
      | _ => none
    | _ => none
  | some ⟨_, .string, _⟩ => match x with
    | some (.t (.v (.string s))) => some (.t (.v (.int .i64 s.size)))
    | _ => none
  | _ => none

def minI (x y : Int) : Int := if y < x then y else x
def maxI (x y : Int) : Int := if y > x then y else x

def foldT (f : Int → Int → Int) (tm : List (Nat × T)) : Option T → List Operand → Option T
  | r, [] => r
  | some (.t (.v (.int k x))), o :: rest => match val tm o with
    | some (.t (.v (.int _ y))) => foldT f tm (some (.t (.v (.int k (f x y))))) rest
    | _ => none
  | _, _ :: _ => none

def vals (tm : List (Nat × T)) : List Operand → Option (List T)
  | [] => some []
  | o :: rest => match val tm o, vals tm rest with
    | some x, some l => some (x :: l)
    | _, _ => none

def funcT (tm : List (Nat × T)) : Fn → List Operand → List Operand → Option T
  | .func f, [], captured => (vals tm captured).map (.clo f ·)
  | _, _, _ => none

def callT (tab : Tab) (σ : St) : Callee → List Operand → List TypeId → Option T
  | .builtin .len, [x], [ty] => lenT tab σ.hp ty (val σ.tm x)
  | .builtin .min, x :: rest, _ => foldT minI σ.tm (val σ.tm x) rest
  | .builtin .max, x :: rest, _ => foldT maxI σ.tm (val σ.tm x) rest
  | _, _, _ => none

/-- A quiet operation: what it gives and the state behind it. d: the slot that it writes. -/
def evalOp0 (tab : Tab) (σ : St) (o : Oper) : Option (T × St) :=
  match o.op with
  | .move x => (val σ.tm x).map (·, σ)
  | .assign x => (val σ.tm x).map (·, σ)
  | .pick c x y => match val σ.tm c with
    | some (.t (.v (.bool b))) => (pickT b (val σ.tm x) (val σ.tm y)).map (·, σ)
    | _ => none
  | .alloc e => match o.dst, look tab e with
    | some d, some ti => bif Nat.blt d big && freshT d σ.tm && freshB d σ.hp && ti.zero.all Value.oneCell' then some (.ptr d 0, ⟨σ.tm, (d, .box (ti.zero.map fun z => .t (.v z))) :: σ.hp⟩) else none
    | _, _ => none
  | .box _ x => match o.dst, (val σ.tm x).bind (cellsT σ.hp) with
    | some d, some l => bif Nat.blt d big && freshT d σ.tm && freshB d σ.hp then some (.ptr d 0, ⟨σ.tm, (d, .box l) :: σ.hp⟩) else none
    | _, _ => none
  | .load t x => match val σ.tm x, look tab t with
    | some (.ptr id off), some ti => match look σ.hp id with
      | some (.box ts) => (takeT ti.desc.isAgg ti.size ts off).map (·, σ)
      | _ => none
    | some (.el cells), some ti => (takeT ti.desc.isAgg ti.size (mapT cells) 0).map (·, σ)
    | _, _ => none
  | .store t x y => match val σ.tm x, look tab t, (val σ.tm y).bind (cellsT σ.hp) with
    | some (.ptr id off), some ti, some l => match look σ.hp id with
      | some (.box ts) => bif Nat.beq l.length ti.size && Nat.ble (off + l.length) ts.length then some (.t (.v undef), ⟨σ.tm, hput σ.hp id (.box (splice ts off l))⟩) else none
      | _ => none
    | _, _, _ => none
  | .fieldAddr s x f => match val σ.tm x, look tab s with
    | some (.ptr id off), some ⟨_, .struct fs, _⟩ => match fs[f]? with
      | some (p, .succ _) => some (.ptr id (off + p), σ)
      | _ => none
    | some (.el cells), some ⟨_, .struct fs, _⟩ => match fs[f]? with
      | some (p, .succ _) => some (.el (cells.drop p), σ)
      | _ => none
    | some (.pe id i sz off), some ⟨_, .struct fs, _⟩ => match fs[f]? with
      | some (p, .succ _) => some (.pe id i sz (off + p), σ)
      | _ => none
    | _, _ => none
  | .nilCheck x => match val σ.tm x with
    | some (.ptr id off) => some (.ptr id off, σ)
    | some (.el cells) => some (.el cells, σ)
    | _ => none
  | .binOp op ty x y _ => (binT tab op ty (val σ.tm x) (val σ.tm y)).map (·, σ)
  | .unOp op _ x => (unT op (val σ.tm x)).map (·, σ)
  | .convert s d x => match look tab s with
    | some _ => (convT tab d (val σ.tm x)).map (·, σ)
    | none => none
  | .extract x k => match val σ.tm x with
    | some (.tup l) => (l[k]?).map (·, σ)
    | _ => none
  | .build t parts => match look tab t with
    | some ⟨_, .struct fs, z⟩ => (fillT σ.hp σ.tm (fs[·]?) (z.map fun x => .t (.v x)) parts.toList).map fun l => (.agg l, σ)
    | some ⟨_, .array _ e, z⟩ => match look tab e with
      | some te => (fillT σ.hp σ.tm (fun i => some (i * te.size, te.size)) (z.map fun x => .t (.v x)) parts.toList).map fun l => (.agg l, σ)
      | none => none
    | _ => none
  | .indexAddr t x ix => match val σ.tm x, look tab t, val σ.tm ix with
    | some (.ptr id off), some ⟨_, .array n e, _⟩, some (.t (.v (.int _ (.ofNat i)))) => match look tab e with
      | some te => bif Nat.blt i n then some (.ptr id (off + i * te.size), σ) else none
      | none => none
    | some (.el cells), some ⟨_, .array n e, _⟩, some (.t (.v (.int _ (.ofNat i)))) => match look tab e with
      | some te => bif Nat.blt i n then some (.el (cells.drop (i * te.size)), σ) else none
      | none => none
    | some (.pe id k sz off), some ⟨_, .array n e, _⟩, some (.t (.v (.int _ (.ofNat i)))) => match look tab e with
      | some te => bif Nat.blt i n then some (.pe id k sz (off + i * te.size), σ) else none
      | none => none
    | _, _, _ => none
  | .index t x ix => match val σ.tm x, look tab t, val σ.tm ix with
    | some (.agg l), some ⟨_, .array n e, _⟩, some (.t (.v (.int _ (.ofNat i)))) => match look tab e with
      | some te => bif Nat.blt i n then (takeT te.desc.isAgg te.size l (i * te.size)).map (·, σ) else none
      | none => none
    | _, _, _ => none
  | .makeFunc fn first captured => (funcT σ.tm fn first.toList captured.toList).map (·, σ)
  | .call c => (callT tab σ c.callee c.args.toList c.argTypes.toList).map (·, σ)
  | .buildSlice t n parts => match o.dst, look tab t with
    | some d, some ⟨_, .slice e, _⟩ => match look tab e with
      | some ti => match fillT σ.hp σ.tm (fun i => some (i * ti.size, ti.size)) ((zeros n ti.zero).map fun x => .t (.v x)) parts.toList with
        | some l => match trees l with
          | some r => bif Nat.blt d big && freshT d σ.tm && freshB d σ.hp && Nat.beq r.length (n * ti.size) && Nat.ble (n * ti.size) 1000000 && Nat.beq ti.zero.length ti.size && Nat.blt 0 ti.size
            then some (.own d, ⟨σ.tm, (d, .rows e ti.size n (chunk ti.size n r)) :: σ.hp⟩) else none
          | none => none
        | none => none
      | none => none
    | _, _ => none
  | _ => none


/-- The same on a state taken apart: so that what it gives is written out. -/
def evalOpC (tab : Tab) (tm : List (Nat × T)) (hp : List (Nat × Blk)) (o : Oper) : Option (T × St) :=
  match o.op with
  | .move x => (val tm x).map (·, ⟨tm, hp⟩)
  | .assign x => (val tm x).map (·, ⟨tm, hp⟩)
  | .pick c x y => match val tm c with
    | some (.t (.v (.bool b))) => (pickT b (val tm x) (val tm y)).map (·, ⟨tm, hp⟩)
    | _ => none
  | .alloc e => match o.dst, look tab e with
    | some d, some ti => bif Nat.blt d big && freshT d tm && freshB d hp && ti.zero.all Value.oneCell' then some (.ptr d 0, ⟨tm, (d, .box (ti.zero.map fun z => .t (.v z))) :: hp⟩) else none
    | _, _ => none
  | .box _ x => match o.dst, (val tm x).bind (cellsT hp) with
    | some d, some l => bif Nat.blt d big && freshT d tm && freshB d hp then some (.ptr d 0, ⟨tm, (d, .box l) :: hp⟩) else none
    | _, _ => none
  | .load t x => match val tm x, look tab t with
    | some (.ptr id off), some ti => match look hp id with
      | some (.box ts) => (takeT ti.desc.isAgg ti.size ts off).map (·, ⟨tm, hp⟩)
      | _ => none
    | some (.el cells), some ti => (takeT ti.desc.isAgg ti.size (mapT cells) 0).map (·, ⟨tm, hp⟩)
    | _, _ => none
  | .store t x y => match val tm x, look tab t, (val tm y).bind (cellsT hp) with
    | some (.ptr id off), some ti, some l => match look hp id with
      | some (.box ts) => bif Nat.beq l.length ti.size && Nat.ble (off + l.length) ts.length then some (.t (.v undef), ⟨tm, hput hp id (.box (splice ts off l))⟩) else none
      | _ => none
    | _, _, _ => none
  | .fieldAddr s x f => match val tm x, look tab s with
    | some (.ptr id off), some ⟨_, .struct fs, _⟩ => match fs[f]? with
      | some (p, .succ _) => some (.ptr id (off + p), ⟨tm, hp⟩)
      | _ => none
    | some (.el cells), some ⟨_, .struct fs, _⟩ => match fs[f]? with
      | some (p, .succ _) => some (.el (cells.drop p), ⟨tm, hp⟩)
      | _ => none
    | some (.pe id i sz off), some ⟨_, .struct fs, _⟩ => match fs[f]? with
      | some (p, .succ _) => some (.pe id i sz (off + p), ⟨tm, hp⟩)
      | _ => none
    | _, _ => none
  | .nilCheck x => match val tm x with
    | some (.ptr id off) => some (.ptr id off, ⟨tm, hp⟩)
    | some (.el cells) => some (.el cells, ⟨tm, hp⟩)
    | _ => none
  | .binOp op ty x y _ => (binT tab op ty (val tm x) (val tm y)).map (·, ⟨tm, hp⟩)
  | .unOp op _ x => (unT op (val tm x)).map (·, ⟨tm, hp⟩)
  | .convert s d x => match look tab s with
    | some _ => (convT tab d (val tm x)).map (·, ⟨tm, hp⟩)
    | none => none
  | .extract x k => match val tm x with
    | some (.tup l) => (l[k]?).map (·, ⟨tm, hp⟩)
    | _ => none
  | .build t parts => match look tab t with
    | some ⟨_, .struct fs, z⟩ => (fillT hp tm (fs[·]?) (z.map fun x => .t (.v x)) parts.toList).map fun l => (.agg l, ⟨tm, hp⟩)
    | some ⟨_, .array _ e, z⟩ => match look tab e with
      | some te => (fillT hp tm (fun i => some (i * te.size, te.size)) (z.map fun x => .t (.v x)) parts.toList).map fun l => (.agg l, ⟨tm, hp⟩)
      | none => none
    | _ => none
  | .indexAddr t x ix => match val tm x, look tab t, val tm ix with
    | some (.ptr id off), some ⟨_, .array n e, _⟩, some (.t (.v (.int _ (.ofNat i)))) => match look tab e with
      | some te => bif Nat.blt i n then some (.ptr id (off + i * te.size), ⟨tm, hp⟩) else none
      | none => none
    | some (.el cells), some ⟨_, .array n e, _⟩, some (.t (.v (.int _ (.ofNat i)))) => match look tab e with
      | some te => bif Nat.blt i n then some (.el (cells.drop (i * te.size)), ⟨tm, hp⟩) else none
      | none => none
    | some (.pe id k sz off), some ⟨_, .array n e, _⟩, some (.t (.v (.int _ (.ofNat i)))) => match look tab e with
      | some te => bif Nat.blt i n then some (.pe id k sz (off + i * te.size), ⟨tm, hp⟩) else none
      | none => none
    | _, _, _ => none
  | .index t x ix => match val tm x, look tab t, val tm ix with
    | some (.agg l), some ⟨_, .array n e, _⟩, some (.t (.v (.int _ (.ofNat i)))) => match look tab e with
      | some te => bif Nat.blt i n then (takeT te.desc.isAgg te.size l (i * te.size)).map (·, ⟨tm, hp⟩) else none
      | none => none
    | _, _, _ => none
  | .makeFunc fn first captured => (funcT tm fn first.toList captured.toList).map (·, ⟨tm, hp⟩)
  | .call c => (callT tab ⟨tm, hp⟩ c.callee c.args.toList c.argTypes.toList).map (·, ⟨tm, hp⟩)
  | .buildSlice t n parts => match o.dst, look tab t with
    | some d, some ⟨_, .slice e, _⟩ => match look tab e with
      | some ti => match fillT hp tm (fun i => some (i * ti.size, ti.size)) ((zeros n ti.zero).map fun x => .t (.v x)) parts.toList with
        | some l => match trees l with
          | some r => bif Nat.blt d big && freshT d tm && freshB d hp && Nat.beq r.length (n * ti.size) && Nat.ble (n * ti.size) 1000000 && Nat.beq ti.zero.length ti.size && Nat.blt 0 ti.size
            then some (.own d, ⟨tm, (d, .rows e ti.size n (chunk ti.size n r)) :: hp⟩) else none
          | none => none
        | none => none
      | none => none
    | _, _ => none
  | _ => none


def evalOp (tab : Tab) (σ : St) (o : Oper) : Option (T × St) := match σ with | ⟨tm, hp⟩ => evalOpC tab tm hp o

theorem evalOp_eq (tab : Tab) (σ : St) (o : Oper) : evalOp tab σ o = evalOp0 tab σ o := by cases σ; rfl

end Go.Pv

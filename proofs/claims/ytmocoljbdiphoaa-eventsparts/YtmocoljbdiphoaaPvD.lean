/- The value machine, part D: the quiet operations, all in one function, and that the machine does what it says. -/
import Derived.Test.YtmocoljbdiphoaaPvC
namespace Go.Pv
open Go.RowKit

def splice {α : Type} (l : List α) (off : Nat) (m : List α) : List α := l.take off ++ m ++ l.drop (off + m.length)

def RVL (w : World) (S : Nat → Prop) (E : Nat → Value) (vs : List Value) (l : List T) : Prop :=
  vs.length = l.length ∧ ∀ j (h1 : j < vs.length) (h2 : j < l.length), RV w S E (vs[j]) (l[j])

section
variable {w : World} {S : Nat → Prop} {E : Nat → Value}

theorem RVL.splice {cs vs : List Value} {ts l : List T} (h : RVL w S E cs ts) (k : RVL w S E vs l) {off : Nat} (hle : off + l.length ≤ ts.length) :
    RVL w S E (splice cs off vs) (splice ts off l) := by
  obtain ⟨hcl, hcr⟩ := h
  obtain ⟨hl, hr⟩ := k
  unfold Pv.splice
  refine ⟨by simp; omega, fun j hj1 hj2 => ?_⟩
  simp only [List.length_append, List.length_take, List.length_drop] at hj1 hj2
  by_cases c1 : j < off
  · have a1 : j < (cs.take off ++ vs).length := by simp; omega
    have a2 : j < (ts.take off ++ l).length := by simp; omega
    rw [List.getElem_append_left a1, List.getElem_append_left a2, List.getElem_append_left (by simp; omega), List.getElem_append_left (by simp; omega)]
    simpa using hcr j (by omega) (by omega)
  · by_cases c2 : j < off + vs.length
    · have a1 : j < (cs.take off ++ vs).length := by simp; omega
      have a2 : j < (ts.take off ++ l).length := by simp; omega
      rw [List.getElem_append_left a1, List.getElem_append_left a2, List.getElem_append_right (by simp; omega), List.getElem_append_right (by simp; omega)]
      have e1 : min off cs.length = off := by omega
      have e2 : min off ts.length = off := by omega
      simp only [List.length_take, e1, e2]
      exact hr (j - off) (by omega) (by omega)
    · rw [List.getElem_append_right (by simp; omega), List.getElem_append_right (by simp; omega)]
      have e1 : min off cs.length = off := by omega
      have e2 : min off ts.length = off := by omega
      simp only [List.length_append, List.length_take, e1, e2, List.getElem_drop]
      have := hcr j (by omega) (by omega)
      have e3 : off + vs.length + (j - (off + vs.length)) = j := by omega
      have e4 : off + l.length + (j - (off + l.length)) = j := by omega
      simpa only [e3, e4] using this

theorem RVL.drop {vs : List Value} {l : List T} (h : RVL w S E vs l) (n : Nat) : RVL w S E (vs.drop n) (l.drop n) := by
  refine ⟨by simp [h.1], fun j h1 h2 => ?_⟩
  simp only [List.length_drop] at h1 h2
  simpa using h.2 (n + j) (by omega) (by omega)
end

theorem splice_get {α : Type} (l : List α) (off : Nat) (m : List α) (h : off + m.length ≤ l.length) (j : Nat) :
    (splice l off m)[j]? = if j < off then l[j]? else if j < off + m.length then m[j - off]? else l[j]? := by
  unfold splice
  have e1 : min off l.length = off := by omega
  by_cases c1 : j < off
  · rw [if_pos c1, List.append_assoc, List.getElem?_append_left (by simp; omega), List.getElem?_take, if_pos c1]
  · rw [if_neg c1, List.append_assoc, List.getElem?_append_right (by simp; omega)]
    simp only [List.length_take, e1]
    by_cases c2 : j < off + m.length
    · rw [if_pos c2, List.getElem?_append_left (by omega)]
    · rw [if_neg c2, List.getElem?_append_right (by omega), List.getElem?_drop]
      congr 1
      omega

theorem splice_length {α : Type} (l : List α) (off : Nat) (m : List α) (h : off + m.length ≤ l.length) : (splice l off m).length = l.length := by
  simp [splice]; omega

theorem foldl_set (off : Nat) : ∀ (xs : List Value) (k : Nat) (cs : Array Value), off + k + xs.length ≤ cs.size →
    (xs.zipIdx k).foldl (fun cs (c, j) => cs.setIfInBounds (off + j) c) cs = (splice cs.toList (off + k) xs).toArray
  | [], k, cs, h => by simp [splice]
  | x :: xs, k, cs, h => by
    simp only [List.length_cons] at h
    rw [List.zipIdx_cons, List.foldl_cons, foldl_set off xs (k + 1) _ (by simp; omega)]
    congr 1
    apply List.ext_getElem?
    intro j
    have hlt : off + k < cs.size := by omega
    rw [splice_get _ _ _ (by simp; omega), splice_get _ _ _ (by simp; omega)]
    simp only [Array.toList_setIfInBounds, List.length_cons, List.getElem?_set]
    by_cases c1 : j < off + k
    · rw [if_pos (by omega), if_pos c1, if_neg (by omega)]
    · by_cases c2 : j = off + k
      · subst c2
        rw [if_pos (by omega)]
        simp [hlt]
      · rw [if_neg (by omega), if_neg c1]
        by_cases c3 : j < off + k + 1 + xs.length
        · rw [if_pos (by omega), if_pos (by omega), show j - (off + k) = (j - (off + (k + 1))) + 1 by omega, List.getElem?_cons_succ]
        · rw [if_neg (by omega), if_neg (by omega), if_neg (by omega)]

/-- Parts laid into cells. -/
def fillT (hp : List (Nat × Blk)) (tm : List (Nat × T)) (place : Nat → Option (Nat × Nat)) (cells : List T) : List (Nat × Operand) → Option (List T)
  | [] => some cells
  | (i, x) :: rest => match place i, (val tm x).bind (cellsT hp) with
    | some (o, n), some l => bif Nat.beq l.length n && Nat.ble (o + l.length) cells.length then fillT hp tm place (splice cells o l) rest else none
    | _, _ => none

section
variable {P : Program} {w0 : World} {L : Lim} {nt : Nat} {σ : St} {S : Nat → Prop} {E : Nat → Value} {a : Act} {w : World}

theorem fill_ok (h : Ok w0 L nt σ S E a w) {place : Nat → Option (Nat × Nat)} : ∀ (parts : List (Nat × Operand)) (cs : Array Value) (ts r : List T), RVL w S E cs.toList ts →
    fillT σ.hp σ.tm place ts parts = some r → ∃ cs', Instr.fill place cs (parts.map fun (i, x) => (i, a.eval x)) = some cs' ∧ RVL w S E cs'.toList r
  | [], cs, ts, r, hr, hx => by
    simp only [fillT, Option.some.injEq] at hx
    subst hx
    exact ⟨cs, rfl, hr⟩
  | (i, x) :: rest, cs, ts, r, hr, hx => by
    simp only [fillT] at hx
    cases hp : place i with
    | none => simp [hp] at hx
    | some p =>
      obtain ⟨o, n⟩ := p
      cases hv : val σ.tm x with
      | none => simp [hp, hv] at hx
      | some t =>
        cases hc : cellsT σ.hp t with
        | none => simp [hp, hv, hc] at hx
        | some l =>
          simp only [hp, hv, hc, Option.bind_some] at hx
          cases hb : (Nat.beq l.length n && Nat.ble (o + l.length) ts.length) <;> simp only [hb, cond_true, cond_false] at hx
          · cases hx
          simp only [Bool.and_eq_true] at hb
          have hn := Nat.eq_of_beq_eq_true hb.1
          have hle := Nat.le_of_ble_eq_true hb.2
          obtain ⟨vs, hvs, hl, hrl, _⟩ := h.cells (h.val hv) hc
          have hsz : cs.size = ts.length := by simpa using hr.1
          have ih := fill_ok h rest (splice cs.toList o vs).toArray (splice ts o l) r (by simpa using hr.splice ⟨hl, hrl⟩ hle) hx
          obtain ⟨cs', h1, h2⟩ := ih
          refine ⟨cs', ?_, h2⟩
          have hf := foldl_set o vs 0 cs (by simp only [Nat.add_zero]; omega)
          simp only [Nat.add_zero] at hf
          rw [← h1]
          simp only [List.map_cons, Instr.fill, hp, hvs]
          rw [if_neg (by simp; omega)]
          congr 1
          rw [← hf]
          simp
end

/-- The zeros of n elements, one behind the other. -/
def zeros : Nat → List Value → List Value
  | 0, _ => []
  | n + 1, z => z ++ zeros n z

theorem zeros_length (n : Nat) (z : List Value) : (zeros n z).length = n * z.length := by
  induction n with
  | zero => simp [zeros]
  | succ n ih => simp [zeros, ih, Nat.succ_mul, Nat.add_comm]

theorem zeros_get (z : List Value) (hz : 0 < z.length) : ∀ (n i : Nat), i < n * z.length → (zeros n z)[i]? = z[i % z.length]?
  | 0, i, h => by simp at h
  | n + 1, i, h => by
    rw [Nat.succ_mul] at h
    simp only [zeros]
    by_cases hi : i < z.length
    · rw [List.getElem?_append_left hi, Nat.mod_eq_of_lt hi]
    · rw [List.getElem?_append_right (by omega), zeros_get z hz n (i - z.length) (by omega)]
      congr 1
      exact (Nat.mod_eq_sub_mod (by omega)).symm

theorem zeros_eq (n : Nat) (z : Array Value) (hz : 0 < z.size) : (Array.range (n * z.size)).map (fun i => z[i % z.size]!) = (zeros n z.toList).toArray := by
  apply Array.ext'
  apply List.ext_getElem?
  intro i
  by_cases hi : i < n * z.size
  · rw [show (zeros n z.toList).toArray.toList = zeros n z.toList from rfl, zeros_get z.toList (by simpa using hz) n i (by simpa using hi)]
    have hm := Nat.mod_lt i hz
    simp [hi, hm, getElem!_pos]
  · rw [List.getElem?_eq_none (by simpa using hi), List.getElem?_eq_none (by simp [zeros_length]; omega)]

def chunk (sz : Nat) : Nat → List Tree → List (List Tree)
  | 0, _ => []
  | n + 1, l => l.take sz :: chunk sz n (l.drop sz)

/-- The nil slice reads as a slice without rows. -/
def nilTree : Tree → Tree
  | .v (.slice none 0 0) => .sl 0 []
  | x => x

theorem nilTree_ok {w : World} {S : Nat → Prop} {v : Value} {x : Tree} (h : RT w S v x) : RT w S v (nilTree x) := by
  unfold nilTree
  split
  · cases h; exact .slE _ _
  · exact h

def nilT : T → T
  | .t x => .t (nilTree x)
  | x => x

theorem nilT_ok {w : World} {S : Nat → Prop} {E : Nat → Value} {v : Value} {x : T} (h : RV w S E v x) : RV w S E v (nilT x) := by
  cases h <;> first | exact .t (nilTree_ok ‹_›) | (simp only [nilT]; constructor <;> assumption)

def trees : List T → Option (List Tree)
  | [] => some []
  | .t x :: r => (trees r).map (nilTree x :: ·)
  | _ :: _ => none

theorem trees_ok : ∀ {l : List T} {r : List Tree}, trees l = some r → l.map nilT = r.map T.t
  | [], r, h => by simp [trees] at h; subst h; rfl
  | x :: l, r, h => by
    cases x <;> simp only [trees, reduceCtorEq] at h
    rename_i y
    cases hl : trees l with
    | none => simp [hl] at h
    | some m =>
      simp only [hl, Option.map_some, Option.some.injEq] at h
      subst h
      simp [trees_ok hl, nilT]

theorem chunk_length (sz : Nat) : ∀ (n : Nat) (l : List Tree), (chunk sz n l).length = n
  | 0, _ => rfl
  | n + 1, l => by simp [chunk, chunk_length sz n]

theorem chunk_sizes (sz : Nat) : ∀ (n : Nat) (l : List Tree), l.length = n * sz → ∀ r ∈ chunk sz n l, r.length = sz
  | 0, _, _, r, h => by simp [chunk] at h
  | n + 1, l, hl, r, h => by
    rw [Nat.succ_mul] at hl
    simp only [chunk, List.mem_cons] at h
    rcases h with rfl | h
    · simp; omega
    · exact chunk_sizes sz n (l.drop sz) (by simp; omega) r h

theorem chunk_get (sz : Nat) : ∀ (n : Nat) (l : List Tree) (_ : l.length = n * sz) (i j : Nat) (hi : i < (chunk sz n l).length) (hj : j < ((chunk sz n l)[i]).length) (hb : i * sz + j < l.length),
    ((chunk sz n l)[i])[j] = l[i * sz + j]
  | 0, _, _, i, j, hi, _, _ => by simp [chunk] at hi
  | n + 1, l, hl, i, j, hi, hj, hb => by
    rw [Nat.succ_mul] at hl
    cases i with
    | zero => simp [chunk]
    | succ i =>
      simp only [chunk, List.getElem_cons_succ] at hj ⊢
      simp only [chunk, List.length_cons, Nat.add_lt_add_iff_right] at hi
      have hb' : i * sz + j < (l.drop sz).length := by rw [Nat.succ_mul] at hb; simp; omega
      rw [chunk_get sz n (l.drop sz) (by simp; omega) i j hi hj hb']
      simp only [List.getElem_drop]
      congr 1
      rw [Nat.succ_mul]; omega
end Go.Pv

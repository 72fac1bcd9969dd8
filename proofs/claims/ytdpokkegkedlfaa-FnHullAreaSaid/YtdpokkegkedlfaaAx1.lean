/- Readings of memory: what a value is known to be, and what memory of the call's own holds. -/
import Derived.Test.YtdpokkegkedlfaaDraw
import Derived.Orders
namespace Go.Proofs.Ytdpokkegkedlfaa
open Go.RowKit
/-- What a slice reads as. -/
inductive Cont
  | ints (l : List Int)
  | pts (l : List Pt)
  | bools (l : List Bool)
  | intss (l : List (List Int))
  | ptss (l : List (List Pt))
  | boolss (l : List (List Bool))
/-- One cell's value, as known. -/
inductive SV
  | top
  | int (n : Int)
  | bool (b : Bool)
  | nil
  | rdr (n : Int)
  | byt (l : List Int)
  | bptr (l : List Int) (i : Int)
  | u8 (n : Int)
  | view (c : Cont)
  | vptr (c : Cont) (i : Int) (o : Nat)
  | ptr (k o : Nat)
  | row (k : Nat)
  | rptr (k sz : Nat) (i : Int) (o : Nat)
  | x (v : Value)
inductive AV
  | s (a : SV)
  | agg (l : List SV)
inductive FV
  | v (a : AV)
  | tup (l : List AV)
/-- Memory of the call's own: a variable, or a slice's row. -/
inductive Bx
  | box (l : List SV)
  | row (e : TypeId) (c : Cont)
  | mp (l : List Pt)
structure Env where
  hd : Nat → Value
  lv : Nat → Prop
  rr : Option Nat
@[irreducible] def ilen {α : Type} (l : List α) : Int := (l.length : Int)
@[irreducible] def geti (l : List Int) (i : Int) : Int := l.getD i.toNat 0
@[irreducible] def getx (l : List Pt) (i : Int) : Int := (l.getD i.toNat (0, 0)).1
@[irreducible] def gety (l : List Pt) (i : Int) : Int := (l.getD i.toNat (0, 0)).2
@[irreducible] def getb (l : List Bool) (i : Int) : Bool := l.getD i.toNat false
@[irreducible] def getl {α : Type} (l : List (List α)) (i : Int) : List α := l.getD i.toNat []
@[irreducible] def seti (l : List Int) (i : Int) (x : Int) : List Int := l.set i.toNat x
@[irreducible] def setx (l : List Pt) (i : Int) (x : Int) : List Pt := l.set i.toNat (x, (l.getD i.toNat (0, 0)).2)
@[irreducible] def sety (l : List Pt) (i : Int) (x : Int) : List Pt := l.set i.toNat ((l.getD i.toNat (0, 0)).1, x)
@[irreducible] def setp (l : List Pt) (i : Int) (x y : Int) : List Pt := l.set i.toNat (x, y)
@[irreducible] def setb (l : List Bool) (i : Int) (x : Bool) : List Bool := l.set i.toNat x
@[irreducible] def iapp {α : Type} (l m : List α) : List α := l ++ m
@[irreducible] def itake {α : Type} (l : List α) (i : Int) : List α := l.take i.toNat
@[irreducible] def idrop {α : Type} (l : List α) (i : Int) : List α := l.drop i.toNat
@[irreducible] def irep {α : Type} (n : Int) (a : α) : List α := List.replicate n.toNat a
@[irreducible] def iadd (a b : Int) : Int := IntKind.i64.wrap (a + b)
@[irreducible] def isub (a b : Int) : Int := IntKind.i64.wrap (a - b)
@[irreducible] def imul (a b : Int) : Int := IntKind.i64.wrap (a * b)
@[irreducible] def iquo (a b : Int) : Int := IntKind.i64.wrap (a.tdiv b)
@[irreducible] def irem (a b : Int) : Int := a.tmod b
@[irreducible] def ineg (a : Int) : Int := IntKind.i64.wrap (-a)
@[irreducible] def imax (a b : Int) : Int := max a b
@[irreducible] def imin (a b : Int) : Int := min a b
@[irreducible] def ilt (a b : Int) : Bool := decide (a < b)
@[irreducible] def ile (a b : Int) : Bool := decide (a ≤ b)
@[irreducible] def ieq (a b : Int) : Bool := decide (a = b)
@[irreducible] def bnot (a : Bool) : Bool := !a
@[irreducible] def band (a b : Bool) : Bool := a && b
@[irreducible] def bxor (a b : Bool) : Bool := a != b
@[irreducible] def bite (c a b : Bool) : Bool := if c then a else b
@[irreducible] def iite (c : Bool) (a b : Int) : Int := if c then a else b
/-- What is owed, as a plain condition. -/
@[irreducible] def NLt (a b : Int) : Prop := a < b
@[irreducible] def NLe (a b : Int) : Prop := a ≤ b
@[irreducible] def NNe (a b : Int) : Prop := a ≠ b
@[irreducible] def NIs (b : Bool) (c : Bool) : Prop := b = c
def Cont.sz : Cont → Nat
  | .pts _ => 2
  | _ => 1
def Cont.len : Cont → Nat
  | .ints l => l.length
  | .pts l => l.length
  | .bools l => l.length
  | .intss l => l.length
  | .ptss l => l.length
  | .boolss l => l.length
def Cont.ilen : Cont → Int
  | .ints l => Ytdpokkegkedlfaa.ilen l
  | .pts l => Ytdpokkegkedlfaa.ilen l
  | .bools l => Ytdpokkegkedlfaa.ilen l
  | .intss l => Ytdpokkegkedlfaa.ilen l
  | .ptss l => Ytdpokkegkedlfaa.ilen l
  | .boolss l => Ytdpokkegkedlfaa.ilen l
theorem Cont.ilen_eq (c : Cont) : c.ilen = (c.len : Int) := by cases c <;> simp [Cont.ilen, Cont.len, Ytdpokkegkedlfaa.ilen]
/-- Cells that read in memory, none of them in a block that may be written. -/
def Flat (L : Nat → Prop) (w : World) (v : Value) (sz n : Nat) (xs : List Value) : Prop :=
  ∃ A cap, v = .slice A n cap ∧ n ≤ cap ∧ cap ≤ maxLen ∧ xs.length = n * sz ∧
    (0 < n → ∃ b off, A = some ⟨b, off, none⟩ ∧ b < w.heap.size ∧ ¬ L b ∧ ∀ j u, xs[j]? = some u → w.cell? ⟨b, off + j, none⟩ = some u)
/-- Bytes that read in memory. -/
def BytesOK (L : Nat → Prop) (w : World) (v : Value) (n : Int) : Prop :=
  ∃ A k c, v = .slice A k c ∧ n = (k : Int) ∧ k ≤ c ∧ c ≤ maxLen ∧
    (0 < k → ∃ b off, A = some ⟨b, off, none⟩ ∧ b < w.heap.size ∧ ¬ L b ∧ ∀ j, j < k → ∃ u : Int, w.cell? ⟨b, off + j, none⟩ = some (.int .u8 u) ∧ 0 ≤ u ∧ u ≤ 255)
/-- Bytes whose contents are told. -/
def BytesL (L : Nat → Prop) (w : World) (v : Value) (l : List Int) : Prop :=
  ∃ A c, v = .slice A l.length c ∧ l.length ≤ c ∧ c ≤ maxLen ∧
    (0 < l.length → ∃ b off, A = some ⟨b, off, none⟩ ∧ b < w.heap.size ∧ ¬ L b ∧ ∀ (j : Nat) (x : Int), l[j]? = some x → w.cell? ⟨b, off + j, none⟩ = some (.int .u8 x))
def ByteP (L : Nat → Prop) (w : World) (v : Value) (x : Int) : Prop := ∃ b off, v = .pointer (some ⟨b, off, none⟩) ∧ b < w.heap.size ∧ ¬ L b ∧ w.cell? ⟨b, off, none⟩ = some (.int .u8 x)
def Cont.nest : Cont → Bool
  | .intss _ | .ptss _ | .boolss _ => true
  | _ => false
def CellsOK (L : Nat → Prop) (w : World) (xs : List Value) : Cont → Prop
  | .ints l => xs = l.map (Value.int .i64)
  | .pts l => xs = ptCells l
  | .bools l => xs = l.map Value.bool
  | .intss l => xs.length = l.length ∧ ∀ (i : Nat) u m, xs[i]? = some u → l[i]? = some m → Flat L w u 1 m.length (m.map (Value.int .i64))
  | .ptss l => xs.length = l.length ∧ ∀ (i : Nat) u m, xs[i]? = some u → l[i]? = some m → Flat L w u 2 m.length (ptCells m)
  | .boolss l => xs.length = l.length ∧ ∀ (i : Nat) u m, xs[i]? = some u → l[i]? = some m → Flat L w u 1 m.length (m.map Value.bool)
def Reads (L : Nat → Prop) (w : World) (v : Value) (c : Cont) : Prop := ∃ xs, Flat L w v c.sz c.len xs ∧ CellsOK L w xs c
def Owned (base : Nat) (L : Nat → Prop) (w : World) (v : Value) (e : TypeId) (c : Cont) : Prop := ∃ xs, w.ownsRow base e c.sz v c.len xs ∧ CellsOK L w xs c
def ptrIn (h : Value) (k : Nat) : Value :=
  match h with
  | .pointer (some a) => .pointer (some ⟨a.block, a.off + k, none⟩)
  | .slice (some a) _ _ => .pointer (some ⟨a.block, a.off + k, none⟩)
  | _ => undef
def blk : Value → Option Nat
  | .pointer (some a) => some a.block
  | .slice (some a) _ _ => some a.block
  | .map (some b) => some b
  | _ => none
def SV.has (E : Env) (w : World) (v : Value) : SV → Prop
  | .top => True
  | .int n => v = .int .i64 n
  | .bool b => v = .bool b
  | .nil => v = .slice none 0 0
  | .rdr n => BytesOK E.lv w v n
  | .byt l => BytesL E.lv w v l
  | .bptr l i => ByteP E.lv w v (geti l i)
  | .u8 n => v = .int .u8 n
  | .view c => Reads E.lv w v c
  | .vptr c i o => ∃ b off n cap, v = .pointer (some ⟨b, off + (i.toNat * c.sz + o), none⟩) ∧ Reads E.lv w (.slice (some ⟨b, off, none⟩) n cap) c ∧ 0 ≤ i ∧ i < c.len
  | .ptr k o => v = ptrIn (E.hd k) o
  | .row k => v = E.hd k
  | .rptr k sz i o => v = ptrIn (E.hd k) (i.toNat * sz + o) ∧ 0 ≤ i
  | .x u => v = u
def hasL (E : Env) (w : World) : List Value → List SV → Prop
  | [], [] => True
  | v :: vs, a :: l => a.has E w v ∧ hasL E w vs l
  | _, _ => False
def AV.has (E : Env) (w : World) (v : Value) : AV → Prop
  | .s a => a.has E w v
  | .agg l => ∃ cs : Array Value, v = .agg cs ∧ hasL E w cs.toList l
def hasA (E : Env) (w : World) : List Value → List AV → Prop
  | [], [] => True
  | v :: vs, a :: l => a.has E w v ∧ hasA E w vs l
  | _, _ => False
def FV.has (E : Env) (w : World) (v : Value) : FV → Prop
  | .v a => a.has E w v
  | .tup l => ∃ cs : Array Value, v = .tuple cs ∧ hasA E w cs.toList l
def mhas : List Pt → Int → Int → Bool
  | k :: _ :: l, a, b => decide ((a, b) = k) || mhas l a b
  | _, _, _ => false
def mget : List Pt → Int → Int → Pt
  | k :: v :: l, a, b => if (a, b) = k then v else mget l a b
  | _, _, _ => (0, 0)
def mput (l : List Pt) (a b c d : Int) : List Pt := l ++ [(a, b), (c, d)]
def pv (p : Pt) : Value := .agg #[.int .i64 p.1, .int .i64 p.2]
/-- Entries of a map, read. -/
def Ents : List MapEntry → List Pt → Prop
  | [], [] => True
  | e :: es, k :: v :: l => e.key = pv k ∧ e.val = pv v ∧ Ents es l
  | _, _ => False
theorem Ents.len : ∀ {es : List MapEntry} {l : List Pt}, Ents es l → l.length = 2 * es.length
  | [], [], _ => rfl
  | e :: es, k :: v :: l, h => by have := Ents.len h.2.2; simp only [List.length_cons]; omega
  | [], _ :: _, h => h.elim
  | _ :: _, [], h => h.elim
  | _ :: _, [_], h => h.elim
theorem Ents.push : ∀ {es : List MapEntry} {l : List Pt} {k v : Pt} (n : Nat), Ents es l → Ents (es ++ [⟨pv k, pv v, n⟩]) (l ++ [k, v])
  | [], [], _, _, _, _ => ⟨rfl, rfl, trivial⟩
  | e :: es, k :: v :: l, _, _, n, h => ⟨h.1, h.2.1, Ents.push n h.2.2⟩
  | [], _ :: _, _, _, _, h => h.elim
  | _ :: _, [], _, _, _, h => h.elim
  | _ :: _, [_], _, _, _, h => h.elim
def Bx.ok (base : Nat) (E : Env) (w : World) (v : Value) : Bx → Prop
  | .box l => ∃ g cs e, v = .pointer (some ⟨g, 0, none⟩) ∧ base ≤ g ∧ w.heap[g]? = some (.cells cs e (0, 0)) ∧ hasL E w cs.toList l
  | .row e c => Owned base E.lv w v e c
  | .mp l => ∃ g es clk, v = .map (some g) ∧ base ≤ g ∧ w.heap[g]? = some (.map es clk) ∧ Ents es.toList l
/-! ### What stays -/
/-- From (E, w) to (E', w'): blocks that may not be written stay; a block that was there is not laid open to writing. -/
structure Evo (E E' : Env) (w w' : World) : Prop where
  size : w.heap.size ≤ w'.heap.size
  keep : ∀ b, b < w.heap.size → ¬ E.lv b → w'.heap[b]? = w.heap[b]?
  lv : ∀ b, b < w.heap.size → E'.lv b → E.lv b
  rr : ∀ r, E.rr = some r → E'.rr = some r
theorem Evo.refl (E : Env) (w : World) : Evo E E w w := ⟨Nat.le_refl _, fun _ _ _ => rfl, fun _ _ h => h, fun _ h => h⟩
theorem Evo.trans {E E' E'' : Env} {w w' w'' : World} (h : Evo E E' w w') (k : Evo E' E'' w' w'') : Evo E E'' w w'' :=
  ⟨Nat.le_trans h.size k.size, fun b hb hl => (k.keep b (Nat.lt_of_lt_of_le hb h.size) (fun hl' => hl (h.lv b hb hl'))).trans (h.keep b hb hl),
   fun b hb hl => h.lv b hb (k.lv b (Nat.lt_of_lt_of_le hb h.size) hl), fun r hr => k.rr r (h.rr r hr)⟩
theorem Flat.evo {E E' : Env} {w w' : World} {v : Value} {sz n : Nat} {xs : List Value} (ev : Evo E E' w w') (h : Flat E.lv w v sz n xs) : Flat E'.lv w' v sz n xs := by
  obtain ⟨A, cap, rfl, h1, h2, h3, h4⟩ := h
  refine ⟨A, cap, rfl, h1, h2, h3, fun hn => ?_⟩
  obtain ⟨b, off, rfl, hb, hl, hc⟩ := h4 hn
  exact ⟨b, off, rfl, Nat.lt_of_lt_of_le hb ev.size, fun hl' => hl (ev.lv b hb hl'), fun j u hu => by
    rw [← hc j u hu]; exact World.cell?_of_block (w := w) (ev.keep b hb hl)⟩
theorem CellsOK.evo {E E' : Env} {w w' : World} {xs : List Value} {c : Cont} (ev : Evo E E' w w') (h : CellsOK E.lv w xs c) : CellsOK E'.lv w' xs c := by
  cases c <;> simp only [CellsOK] at h ⊢ <;> first
    | exact h
    | exact ⟨h.1, fun i u m h1 h2 => (h.2 i u m h1 h2).evo ev⟩
theorem BytesOK.evo {E E' : Env} {w w' : World} {v : Value} {n : Int} (ev : Evo E E' w w') (h : BytesOK E.lv w v n) : BytesOK E'.lv w' v n := by
  obtain ⟨A, k, c, e1, e2, e3, e4, h⟩ := h
  refine ⟨A, k, c, e1, e2, e3, e4, fun hk => ?_⟩
  obtain ⟨b, off, q1, q2, q3, q4⟩ := h hk
  exact ⟨b, off, q1, Nat.lt_of_lt_of_le q2 ev.size, fun hl => q3 (ev.lv b q2 hl), fun j hj => by
    obtain ⟨u, u1, u2⟩ := q4 j hj
    exact ⟨u, by rw [← u1]; exact World.cell?_of_block (w := w) (ev.keep b q2 q3), u2⟩⟩
theorem BytesL.evo {E E' : Env} {w w' : World} {v : Value} {l : List Int} (ev : Evo E E' w w') (h : BytesL E.lv w v l) : BytesL E'.lv w' v l := by
  obtain ⟨A, c, e1, e3, e4, h⟩ := h
  refine ⟨A, c, e1, e3, e4, fun hk => ?_⟩
  obtain ⟨b, off, q1, q2, q3, q4⟩ := h hk
  exact ⟨b, off, q1, Nat.lt_of_lt_of_le q2 ev.size, fun hl => q3 (ev.lv b q2 hl), fun j x hj => by
    rw [← q4 j x hj]; exact World.cell?_of_block (w := w) (ev.keep b q2 q3)⟩
theorem BytesL.less {L L' : Nat → Prop} {w : World} {v : Value} {l : List Int} (h : BytesL L w v l) (hL : ∀ b, L' b → L b) : BytesL L' w v l := by
  obtain ⟨A, c, e1, e3, e4, h⟩ := h
  refine ⟨A, c, e1, e3, e4, fun hk => ?_⟩
  obtain ⟨b, off, q1, q2, q3, q4⟩ := h hk
  exact ⟨b, off, q1, q2, fun hl => q3 (hL b hl), q4⟩
theorem ByteP.evo {E E' : Env} {w w' : World} {v : Value} {x : Int} (ev : Evo E E' w w') (h : ByteP E.lv w v x) : ByteP E'.lv w' v x := by
  obtain ⟨b, off, e1, q2, q3, q4⟩ := h
  exact ⟨b, off, e1, Nat.lt_of_lt_of_le q2 ev.size, fun hl => q3 (ev.lv b q2 hl), by rw [← q4]; exact World.cell?_of_block (w := w) (ev.keep b q2 q3)⟩
theorem ByteP.less {L L' : Nat → Prop} {w : World} {v : Value} {x : Int} (h : ByteP L w v x) (hL : ∀ b, L' b → L b) : ByteP L' w v x := by
  obtain ⟨b, off, e1, q2, q3, q4⟩ := h
  exact ⟨b, off, e1, q2, fun hl => q3 (hL b hl), q4⟩
theorem BytesOK.less {L L' : Nat → Prop} {w : World} {v : Value} {n : Int} (h : BytesOK L w v n) (hL : ∀ b, L' b → L b) : BytesOK L' w v n := by
  obtain ⟨A, k, c, e1, e2, e3, e4, h⟩ := h
  refine ⟨A, k, c, e1, e2, e3, e4, fun hk => ?_⟩
  obtain ⟨b, off, q1, q2, q3, q4⟩ := h hk
  exact ⟨b, off, q1, q2, fun hl => q3 (hL b hl), q4⟩
theorem CellsOK.any {L L' : Nat → Prop} {w : World} {xs : List Value} {c : Cont} (hn : c.nest = false) (h : CellsOK L w xs c) : CellsOK L' w xs c := by
  cases c <;> first | exact h | cases hn
theorem Reads.evo {E E' : Env} {w w' : World} {v : Value} {c : Cont} (ev : Evo E E' w w') (h : Reads E.lv w v c) : Reads E'.lv w' v c := by
  obtain ⟨xs, h1, h2⟩ := h; exact ⟨xs, h1.evo ev, h2.evo ev⟩
/-- The handles on which a fact leans. -/
def SV.on : SV → Nat → Bool
  | .ptr k _, j => k == j
  | .row k, j => k == j
  | .rptr k _ _ _, j => k == j
  | _, _ => false
theorem SV.has_evo {E E' : Env} {w w' : World} {v : Value} {a : SV} (ev : Evo E E' w w') (hh : ∀ k, a.on k = true → E'.hd k = E.hd k) (h : a.has E w v) : a.has E' w' v := by
  cases a <;> simp only [SV.has] at h ⊢ <;> try exact h
  case rdr n => exact BytesOK.evo ev h
  case byt l => exact BytesL.evo ev h
  case bptr l i => exact ByteP.evo ev h
  case view c => exact Reads.evo ev h
  case vptr c i o =>
    obtain ⟨b, off, n, cap, h1, h2, h3, h4⟩ := h
    exact ⟨b, off, n, cap, h1, Reads.evo ev h2, h3, h4⟩
  case ptr k o => rw [hh k (by simp [SV.on])]; exact h
  case row k => rw [hh k (by simp [SV.on])]; exact h
  case rptr k sz i o => rw [hh k (by simp [SV.on])]; exact h
theorem hasL_evo {E E' : Env} {w w' : World} (ev : Evo E E' w w') : ∀ {vs : List Value} {l : List SV}, (∀ a ∈ l, ∀ k, a.on k = true → E'.hd k = E.hd k) → hasL E w vs l → hasL E' w' vs l
  | [], [], _, _ => trivial
  | v :: vs, a :: l, hh, h => ⟨SV.has_evo ev (hh a (List.mem_cons_self ..)) h.1, hasL_evo ev (fun b hb => hh b (List.mem_cons_of_mem _ hb)) h.2⟩
  | [], _ :: _, _, h => h.elim
  | _ :: _, [], _, h => h.elim
def AV.on : AV → Nat → Bool
  | .s a, j => a.on j
  | .agg l, j => l.any (·.on j)
theorem AV.has_evo {E E' : Env} {w w' : World} {v : Value} {a : AV} (ev : Evo E E' w w') (hh : ∀ k, a.on k = true → E'.hd k = E.hd k) (h : a.has E w v) : a.has E' w' v := by
  cases a with
  | s a => exact SV.has_evo ev hh h
  | agg l =>
    obtain ⟨cs, h1, h2⟩ := h
    exact ⟨cs, h1, hasL_evo ev (fun a ha k hk => hh k (List.any_eq_true.2 ⟨a, ha, hk⟩)) h2⟩
theorem hasA_evo {E E' : Env} {w w' : World} (ev : Evo E E' w w') : ∀ {vs : List Value} {l : List AV}, (∀ a ∈ l, ∀ k, a.on k = true → E'.hd k = E.hd k) → hasA E w vs l → hasA E' w' vs l
  | [], [], _, _ => trivial
  | v :: vs, a :: l, hh, h => ⟨AV.has_evo ev (hh a (List.mem_cons_self ..)) h.1, hasA_evo ev (fun b hb => hh b (List.mem_cons_of_mem _ hb)) h.2⟩
  | [], _ :: _, _, h => h.elim
  | _ :: _, [], _, h => h.elim
def FV.on : FV → Nat → Bool
  | .v a, j => a.on j
  | .tup l, j => l.any (·.on j)
theorem FV.has_evo {E E' : Env} {w w' : World} {v : Value} {a : FV} (ev : Evo E E' w w') (hh : ∀ k, a.on k = true → E'.hd k = E.hd k) (h : a.has E w v) : a.has E' w' v := by
  cases a with
  | v a => exact AV.has_evo ev hh h
  | tup l =>
    obtain ⟨cs, h1, h2⟩ := h
    exact ⟨cs, h1, hasA_evo ev (fun a ha k hk => hh k (List.any_eq_true.2 ⟨a, ha, hk⟩)) h2⟩
theorem Owned.evo {E E' : Env} {w w' : World} {base : Nat} {v : Value} {e : TypeId} {c : Cont} (ev : Evo E E' w w') (hb : ∀ b, blk v = some b → w'.heap[b]? = w.heap[b]?) (h : Owned base E.lv w v e c) : Owned base E'.lv w' v e c := by
  obtain ⟨xs, h1, h2⟩ := h
  refine ⟨xs, ⟨h1.1, ?_⟩, h2.evo ev⟩
  rcases h1.2 with h3 | ⟨g, cap, cur, rfl, hg, hh, r⟩
  · exact .inl h3
  · exact .inr ⟨g, cap, cur, rfl, hg, by rw [hb g rfl]; exact hh, r⟩
theorem Bx.ok_evo {E E' : Env} {w w' : World} {base : Nat} {v : Value} {b : Bx} (ev : Evo E E' w w') (hb : ∀ g, blk v = some g → w'.heap[g]? = w.heap[g]?)
    (hh : ∀ l, b = .box l → ∀ a ∈ l, ∀ k, a.on k = true → E'.hd k = E.hd k) (h : b.ok base E w v) : b.ok base E' w' v := by
  cases b with
  | box l =>
    obtain ⟨g, cs, e, rfl, h1, h2, h3⟩ := h
    exact ⟨g, cs, e, rfl, h1, by rw [hb g rfl]; exact h2, hasL_evo ev (hh l rfl) h3⟩
  | row e c => exact Owned.evo ev hb h
  | mp l =>
    obtain ⟨g, es, clk, rfl, h1, h2, h3⟩ := h
    exact ⟨g, es, clk, rfl, h1, by rw [hb g rfl]; exact h2, h3⟩
theorem Owned.lt {base : Nat} {L : Nat → Prop} {w : World} {v : Value} {e : TypeId} {c : Cont} (h : Owned base L w v e c) {b : Nat} (hb : blk v = some b) : base ≤ b ∧ b < w.heap.size := by
  obtain ⟨xs, h1, _⟩ := h
  rcases h1.2 with ⟨rfl, _⟩ | ⟨g, cap, cur, rfl, hg, hh, _⟩
  · simp [blk] at hb
  · simp only [blk, Option.some.injEq] at hb
    subst hb
    exact ⟨hg, heap_lt hh⟩
theorem Bx.ok_lt {base : Nat} {E : Env} {w : World} {v : Value} {b : Bx} (h : b.ok base E w v) {g : Nat} (hg : blk v = some g) : base ≤ g ∧ g < w.heap.size := by
  cases b with
  | box l =>
    obtain ⟨g', cs, e, rfl, h1, h2, h3⟩ := h
    simp only [blk, Option.some.injEq] at hg
    subst hg
    exact ⟨h1, heap_lt h2⟩
  | row e c => exact Owned.lt h hg
  | mp l =>
    obtain ⟨g', es, clk, rfl, h1, h2, h3⟩ := h
    simp only [blk, Option.some.injEq] at hg
    subst hg
    exact ⟨h1, heap_lt h2⟩
/-- What is owned can be read. -/
theorem Owned.flat {base : Nat} {L : Nat → Prop} {w : World} {v : Value} {e : TypeId} {sz n : Nat} {xs : List Value} (h : w.ownsRow base e sz v n xs) (hL : ∀ b, blk v = some b → ¬ L b) : Flat L w v sz n xs := by
  rcases h.2 with ⟨rfl, h0⟩ | ⟨g, cap, cur, rfl, _, hg, hn, hm, _, htake⟩
  · exact ⟨none, 0, by rw [h0], by omega, by unfold maxLen; omega, h.1, fun hn => by omega⟩
  · refine ⟨some ⟨g, 0, none⟩, cap, rfl, hn, hm, h.1, fun _ => ⟨g, 0, rfl, heap_lt hg, hL g rfl, fun j u hu => ?_⟩⟩
    rw [Nat.zero_add, cell_of_row w g j cur e (0, 0) hg]
    rw [← htake, List.getElem?_take] at hu
    split at hu
    · simpa using hu
    · cases hu
theorem Flat.less {L L' : Nat → Prop} {w : World} {v : Value} {sz n : Nat} {xs : List Value} (h : Flat L w v sz n xs) (hL : ∀ b, L' b → L b) : Flat L' w v sz n xs := by
  obtain ⟨A, cap, rfl, h1, h2, h3, h4⟩ := h
  refine ⟨A, cap, rfl, h1, h2, h3, fun hn => ?_⟩
  obtain ⟨b, off, rfl, hb, hl, hc⟩ := h4 hn
  exact ⟨b, off, rfl, hb, fun h => hl (hL b h), hc⟩
theorem CellsOK.less {L L' : Nat → Prop} {w : World} {xs : List Value} {c : Cont} (h : CellsOK L w xs c) (hL : ∀ b, L' b → L b) : CellsOK L' w xs c := by
  cases c <;> simp only [CellsOK] at h ⊢ <;> first
    | exact h
    | exact ⟨h.1, fun i u m h1 h2 => (h.2 i u m h1 h2).less hL⟩
theorem Reads.less {L L' : Nat → Prop} {w : World} {v : Value} {c : Cont} (h : Reads L w v c) (hL : ∀ b, L' b → L b) : Reads L' w v c := by
  obtain ⟨xs, h1, h2⟩ := h; exact ⟨xs, h1.less hL, h2.less hL⟩
theorem Owned.reads {base : Nat} {L : Nat → Prop} {w : World} {v : Value} {e : TypeId} {c : Cont} (h : Owned base L w v e c) : Reads (fun _ => False) w v c := by
  obtain ⟨xs, h1, h2⟩ := h
  exact ⟨xs, Owned.flat h1 (fun _ _ h => h), h2.less (fun _ h => h.elim)⟩
theorem nil_reads (L : Nat → Prop) (w : World) (c : Cont) (h : c.len = 0) : Reads L w (.slice none 0 0) c := by
  refine ⟨[], ⟨none, 0, by rw [h], by omega, by unfold maxLen; omega, by rw [h]; simp, fun hn => by omega⟩, ?_⟩
  cases c <;> simp only [Cont.len] at h <;> simp_all [CellsOK, ptCells]
end Go.Proofs.Ytdpokkegkedlfaa

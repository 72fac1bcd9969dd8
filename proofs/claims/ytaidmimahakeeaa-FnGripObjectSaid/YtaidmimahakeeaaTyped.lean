/- Regions that draw their order and hold calls of the reader: every value keeps its kind and its bounds, whatever the order. -/
import Derived.Test.YtaidmimahakeeaaDraw
import Derived.Orders
import Derived.Deep.Cut
namespace Go.Proofs.Ytaidmimahakeeaa
open Go.RowKit
theorem RdOK.alloc {w : World} {r P : Nat} (h : RdOK w r P) (o : Obj) : RdOK (w.alloc o) r P := by
  have hr := h.lt
  obtain ⟨A, n, c, p, hb, hp, hn, hby⟩ := h
  exact ⟨A, n, c, p, (Below.heap_alloc w o r hr).trans hb, hp, hn, hby.keep fun b o' hlt => World.cell?_alloc_lt w o ⟨b, o', none⟩ (by show b < _; omega)⟩
theorem RdOK.drew {w : World} {r P : Nat} (h : RdOK w r P) : RdOK w.drew r P := h
theorem RdOK.drewN {w : World} {r P : Nat} (h : RdOK w r P) (n : Nat) : RdOK (w.drewN n) r P := h
theorem RdOK.more {w : World} {r P P' : Nat} (h : RdOK w r P) (hP : P ≤ P') : RdOK w r P' := by
  obtain ⟨A, n, c, p, hb, hp, hn, hby⟩ := h; exact ⟨A, n, c, p, hb, by omega, hn, hby⟩
theorem Only.drew {r : Nat} {w w' : World} (h : Only r w w') : Only r w w'.drew := ⟨h.os, h.tape, h.output, h.size, h.block⟩
theorem Only.trans {r : Nat} {a b c : World} (h : Only r a b) (k : Only r b c) : Only r a c :=
  ⟨k.os.trans h.os, k.tape.trans h.tape, k.output.trans h.output, Nat.le_trans h.size k.size, fun i hi hne => (k.block i (Nat.lt_of_lt_of_le hi h.size) hne).trans (h.block i hi hne)⟩
theorem Only.alloc {r : Nat} {a w : World} (h : Only r a w) (o : Obj) : Only r a (w.alloc o) :=
  ⟨h.os, h.tape, h.output, Nat.le_trans h.size (by simp), fun i hi hne => (Below.heap_alloc w o i (Nat.lt_of_lt_of_le hi h.size)).trans (h.block i hi hne)⟩
theorem Only.cell {r : Nat} {a w : World} (h : Only r a w) {g o : Nat} (hg : g < a.heap.size) (hne : g ≠ r) : w.cell? ⟨g, o, none⟩ = a.cell? ⟨g, o, none⟩ :=
  World.cell?_of_block (w := a) (h.block g hg (fun e => hne (by injection e)))
theorem Only.bel {r : Nat} {w0 a w : World} (h0 : Bel w0 a) (h : Only r a w) (hr : w0.heap.size ≤ r) : Bel w0 w :=
  Below.grown h0 h h0.size (fun k hk => by injection hk with hk; omega)

inductive AV where
  | top
  | bo
  | rdr
  | i (lo hi : Int)
  | pt (lo hi : Int)
  | sl (n : Nat) (lo hi : Int)
  | slp (n : Nat) (lo hi : Int)
  | pi (lo hi : Int)
  | pip (lo hi : Int)
def Int1 (lo hi : Int) (v : Value) : Prop := ∃ x, v = .int .i64 x ∧ lo ≤ x ∧ x ≤ hi
def AV.has (r : Nat) (w : World) (v : Value) : AV → Prop
  | .top => True
  | .bo => ∃ b, v = .bool b
  | .rdr => v = .pointer (some ⟨r, 0, none⟩)
  | .i lo hi => Int1 lo hi v
  | .pt lo hi => ∃ x y, v = .agg #[x, y] ∧ Int1 lo hi x ∧ Int1 lo hi y
  | .sl n lo hi => ∃ g, v = .slice (some ⟨g, 0, none⟩) n n ∧ g ≠ r ∧ g < w.heap.size ∧ ∀ j, j < n → ∃ u, w.cell? ⟨g, j, none⟩ = some u ∧ Int1 lo hi u
  | .slp n lo hi => ∃ g, v = .slice (some ⟨g, 0, none⟩) n n ∧ g ≠ r ∧ g < w.heap.size ∧ ∀ j, j < n * 2 → ∃ u, w.cell? ⟨g, j, none⟩ = some u ∧ Int1 lo hi u
  | .pi lo hi => ∃ g o u, v = .pointer (some ⟨g, o, none⟩) ∧ g ≠ r ∧ g < w.heap.size ∧ w.cell? ⟨g, o, none⟩ = some u ∧ Int1 lo hi u
  | .pip lo hi => ∃ g o u u', v = .pointer (some ⟨g, o, none⟩) ∧ g ≠ r ∧ g < w.heap.size ∧ w.cell? ⟨g, o, none⟩ = some u ∧ Int1 lo hi u ∧ w.cell? ⟨g, o + 1, none⟩ = some u' ∧ Int1 lo hi u'
theorem AV.keep {r : Nat} {w w' : World} {v : Value} {t : AV} (ho : Only r w w') (h : t.has r w v) : t.has r w' v := by
  cases t <;> simp only [AV.has] at h ⊢ <;> try exact h
  case sl =>
    obtain ⟨g, h1, h2, h3, h4⟩ := h
    exact ⟨g, h1, h2, Nat.lt_of_lt_of_le h3 ho.size, fun j hj => by rw [ho.cell h3 h2]; exact h4 j hj⟩
  case slp =>
    obtain ⟨g, h1, h2, h3, h4⟩ := h
    exact ⟨g, h1, h2, Nat.lt_of_lt_of_le h3 ho.size, fun j hj => by rw [ho.cell h3 h2]; exact h4 j hj⟩
  case pi =>
    obtain ⟨g, o, u, h1, h2, h3, h4, h5⟩ := h
    exact ⟨g, o, u, h1, h2, Nat.lt_of_lt_of_le h3 ho.size, by rw [ho.cell h3 h2]; exact h4, h5⟩
  case pip =>
    obtain ⟨g, o, u, u', h1, h2, h3, h4, h5, h6, h7⟩ := h
    exact ⟨g, o, u, u', h1, h2, Nat.lt_of_lt_of_le h3 ho.size, by rw [ho.cell h3 h2]; exact h4, h5, by rw [ho.cell h3 h2]; exact h6, h7⟩

/-- Numbers far from the edges. -/
def okI (lo hi : Int) : Bool := decide (-1000000000000 ≤ lo) && decide (lo ≤ hi) && decide (hi ≤ 1000000000000)
def mkI (lo hi : Int) : Option AV := if okI lo hi then some (.i lo hi) else none
def hull0 : List AV → Int → Int → Option (Int × Int)
  | [], lo, hi => some (lo, hi)
  | .i a b :: l, lo, hi => hull0 l (min lo a) (max hi b)
  | .pt a b :: l, lo, hi => hull0 l (min lo a) (max hi b)
  | _ :: _, _, _ => none
def isI : AV → Bool
  | .i _ _ => true
  | _ => false
def isPt : AV → Bool
  | .pt _ _ => true
  | _ => false
def absArgs (G : Operand → AV) (l : List (Nat × Operand)) : List AV := l.map fun p => G p.2
def absOp (sig : FuncId → List AV → Option AV) (G : Operand → AV) : Op → Option AV
  | .move x => some (G x)
  | .assign x => some (G x)
  | .binOp op _ x y _ => match G x, G y with
    | .i a b, .i c d => match op with
      | .add => mkI (a + c) (b + d)
      | .sub => mkI (a - d) (b - c)
      | .mul => if okI a b && okI c d && decide (-1000000 ≤ a) && decide (b ≤ 1000000) && decide (-1000000 ≤ c) && decide (d ≤ 1000000) then
          mkI (min (min (a * c) (a * d)) (min (b * c) (b * d))) (max (max (a * c) (a * d)) (max (b * c) (b * d))) else none
      | .quo => if okI a b && okI c d && decide (1 ≤ c) then mkI (-(max (-a) 0 / c)) (max b 0 / c) else none
      | .rem => if okI a b && okI c d && decide (1 ≤ c) then mkI (if 0 ≤ a then 0 else -d) d else none
      | _ => none
    | _, _ => none
  | .unOp .neg _ x => match G x with
    | .i a b => if okI a b then mkI (-b) (-a) else none
    | _ => none
  | .call ⟨.value (.func f), args, _⟩ => sig f (args.toList.map G)
  | .call ⟨.builtin .max, args, _⟩ => match args.toList.map G with
    | [.i a b, .i c d] => mkI (max a c) (max b d)
    | _ => none
  | .call ⟨.builtin .min, args, _⟩ => match args.toList.map G with
    | [.i a b, .i c d] => mkI (min a c) (min b d)
    | _ => none
  | .buildSlice t n parts =>
    if decide (1 ≤ n) && decide (n ≤ 1000) && parts.toList.all (fun p => decide (p.1 < n)) then
      if t == 51 && (absArgs G parts.toList).all isI then (hull0 (absArgs G parts.toList) 0 0).map fun p => .sl n p.1 p.2
      else none
    else none
  | .indexAddr t x ix => match G x, G ix with
    | .sl n lo hi, .i a b => if t == 51 && decide (0 ≤ a) && decide (b < n) then some (.pi lo hi) else none
    | _, _ => none
  | .load t x => match G x with
    | .pi lo hi => if t == 3 then some (.i lo hi) else none
    | _ => none
  | _ => none
def hasAll (r : Nat) (w : World) : List Value → List AV → Prop
  | [], [] => True
  | v :: vs, t :: ts => t.has r w v ∧ hasAll r w vs ts
  | _, _ => False
def SigOK (r : Nat) (sig : FuncId → List AV → Option AV) : Prop :=
  ∀ f avs τ, sig f avs = some τ → ∀ (args : Array Value) (w : World) (P : Nat), hasAll r w args.toList avs → RdOK w r P → P ≤ 990000 →
    (callFunc f args).run Try.prog w = .ok (.enter f args) w ∧
    Calls Try.prog f args w fun e w' => ∃ v, e = .returned v ∧ τ.has r w' v ∧ RdOK w' r (P + 100) ∧ Only r w w'
theorem hasAll_map {r : Nat} {w : World} {G : Operand → AV} {ρ : Operand → Value} (hG : ∀ x, (G x).has r w (ρ x)) : ∀ l : List Operand, hasAll r w (l.map ρ) (l.map G)
  | [] => trivial
  | x :: l => ⟨hG x, hasAll_map hG l⟩
theorem foldl_good {Good : Value → Prop} (off : Nat) : ∀ (L : List (Value × Nat)) (cs : Array Value), (∀ x ∈ L, Good x.1) → (∀ j (h : j < cs.size), Good cs[j]) →
    (L.foldl (fun cs (x : Value × Nat) => cs.setIfInBounds (off + x.2) x.1) cs).size = cs.size ∧ ∀ j (h : j < (L.foldl (fun cs (x : Value × Nat) => cs.setIfInBounds (off + x.2) x.1) cs).size), Good (L.foldl (fun cs (x : Value × Nat) => cs.setIfInBounds (off + x.2) x.1) cs)[j]
  | [], cs, _, h => ⟨rfl, h⟩
  | x :: L, cs, hL, h => by
    have := foldl_good off L (cs.setIfInBounds (off + x.2) x.1) (fun y hy => hL y (List.mem_cons_of_mem _ hy)) (fun j hj => by
      rw [Array.getElem_setIfInBounds (by simpa using hj)]
      split
      · exact hL x (List.mem_cons_self ..)
      · exact h j (by simpa using hj))
    simpa using this
theorem fill_good {Good : Value → Prop} (sz n : Nat) (pl : Nat → Option (Nat × Nat)) (hpl : ∀ i, pl i = some (i * sz, sz)) : ∀ (l : List (Nat × Value)) (cs : Array Value), cs.size = n * sz → (∀ j (h : j < cs.size), Good cs[j]) →
    (∀ p ∈ l, p.1 < n ∧ p.2.cells.size = sz ∧ ∀ c ∈ p.2.cells, Good c) → ∃ cs', Instr.fill pl cs l = some cs' ∧ cs'.size = n * sz ∧ ∀ j (h : j < cs'.size), Good cs'[j]
  | [], cs, h1, h2, _ => ⟨cs, rfl, h1, h2⟩
  | (i, v) :: l, cs, h1, h2, h3 => by
    obtain ⟨q1, q2, q3⟩ := h3 (i, v) (List.mem_cons_self ..)
    have hle : i * sz + sz ≤ n * sz := by
      have := Nat.mul_le_mul_right sz (show i + 1 ≤ n from q1)
      rw [Nat.add_mul] at this; omega
    have hfold := foldl_good (Good := Good) (i * sz) v.cells.zipIdx.toList cs (fun x hx => q3 x.1 (by
      have := Array.mem_toList_iff.1 hx
      have := (Array.mk_mem_zipIdx_iff_getElem?.1 this)
      exact Array.mem_of_getElem? this)) h2
    have := fill_good sz n pl hpl l _ (hfold.1.trans h1) hfold.2 (fun p hp => h3 p (List.mem_cons_of_mem _ hp))
    obtain ⟨cs', e1, e2⟩ := this
    refine ⟨cs', ?_, e2⟩
    unfold Instr.fill
    rw [hpl i]
    simp only [q2]
    rw [if_neg (by simp; omega)]
    rw [← e1, ← Array.foldl_toList]
section
variable {ρ : Operand → Value} {w : World} {P : Program} (dst : Option Tmp) (ty : TypeId) (pos : String) (af : Array Edge)
theorem x_add (x y : Operand) (n m : Int) (h1 : ρ x = .int .i64 n) (h2 : ρ y = .int .i64 m) (t t' : TypeId) : (execOp ρ ⟨dst, .binOp .add t x y t', ty, pos, af, none⟩).run P w = .ok (.value (.int .i64 (IntKind.i64.wrap (n + m)))) w := by
  unfold execOp
  simp [h1, h2, go_sem]
theorem x_sub (x y : Operand) (n m : Int) (h1 : ρ x = .int .i64 n) (h2 : ρ y = .int .i64 m) (t t' : TypeId) : (execOp ρ ⟨dst, .binOp .sub t x y t', ty, pos, af, none⟩).run P w = .ok (.value (.int .i64 (IntKind.i64.wrap (n - m)))) w := by
  unfold execOp
  simp [h1, h2, go_sem]
theorem x_mul (x y : Operand) (n m : Int) (h1 : ρ x = .int .i64 n) (h2 : ρ y = .int .i64 m) (t t' : TypeId) : (execOp ρ ⟨dst, .binOp .mul t x y t', ty, pos, af, none⟩).run P w = .ok (.value (.int .i64 (IntKind.i64.wrap (n * m)))) w := by
  unfold execOp
  simp [h1, h2, go_sem]
theorem x_quo (x y : Operand) (n m : Int) (h1 : ρ x = .int .i64 n) (h2 : ρ y = .int .i64 m) (hm : 1 ≤ m) (t t' : TypeId) : (execOp ρ ⟨dst, .binOp .quo t x y t', ty, pos, af, none⟩).run P w = .ok (.value (.int .i64 (IntKind.i64.wrap (n.tdiv m)))) w := by
  have h0 : m ≠ 0 := by omega
  unfold execOp
  simp [h1, h2, h0, go_sem]
theorem x_rem (x y : Operand) (n m : Int) (h1 : ρ x = .int .i64 n) (h2 : ρ y = .int .i64 m) (hm : 1 ≤ m) (t t' : TypeId) : (execOp ρ ⟨dst, .binOp .rem t x y t', ty, pos, af, none⟩).run P w = .ok (.value (.int .i64 (n.tmod m))) w := by
  have h0 : m ≠ 0 := by omega
  unfold execOp
  simp [h1, h2, h0, go_sem]
theorem x_neg (x : Operand) (n : Int) (h1 : ρ x = .int .i64 n) (t : TypeId) : (execOp ρ ⟨dst, .unOp .neg t x, ty, pos, af, none⟩).run P w = .ok (.value (.int .i64 (IntKind.i64.wrap (-n)))) w := by
  unfold execOp
  simp [h1, go_sem]
theorem x_max (x y : Operand) (at_ : Array TypeId) (n m : Int) (h1 : ρ x = .int .i64 n) (h2 : ρ y = .int .i64 m) : (execOp ρ ⟨dst, .call ⟨.builtin .max, #[x, y], at_⟩, ty, pos, af, none⟩).run P w = .ok (.value (.int .i64 (max n m))) w := by
  unfold execOp
  simp [h1, h2, go_sem, resolve, invoke]
  split <;> omega
theorem x_min (x y : Operand) (at_ : Array TypeId) (n m : Int) (h1 : ρ x = .int .i64 n) (h2 : ρ y = .int .i64 m) : (execOp ρ ⟨dst, .call ⟨.builtin .min, #[x, y], at_⟩, ty, pos, af, none⟩).run P w = .ok (.value (.int .i64 (min n m))) w := by
  unfold execOp
  simp [h1, h2, go_sem, resolve, invoke]
  split <;> omega
theorem x_bs (parts : Array (Nat × Operand)) (n : Nat) (hn0 : 1 ≤ n) (hn : n ≤ 1000) (cs : Array Value)
    (hf : Instr.fill (fun i => some (i, 1)) (Array.map (fun x => [Value.int IntKind.i64 0][x % 1]?.getD default) (Array.range n)) (List.map (fun x => (x.fst, ρ x.snd)) parts.toList) = some cs) :
    (execOp ρ ⟨dst, .buildSlice 51 n parts, ty, pos, af, none⟩).run Try.prog w = .ok (.value (.slice (some ⟨w.heap.size, 0, none⟩) n n)) (w.alloc (.cells cs 3)) := by
  unfold execOp
  have h1 : ¬ 16777216 < n := by omega
  have h2 : n ≠ 0 := by omega
  simp [go_sem, Instr.buildSlice, h1, h2, hf]
theorem x_idx (x y : Operand) (n : Nat) (m : Int) (g : Nat) (h1 : ρ x = .slice (some ⟨g, 0, none⟩) n n) (h2 : ρ y = .int .i64 m) (hm : 0 ≤ m) (hm2 : m < n) : (execOp ρ ⟨dst, .indexAddr 51 x y, ty, pos, af, none⟩).run Try.prog w = .ok (.value (.pointer (some ⟨g, m.toNat, none⟩))) w := by
  unfold execOp
  simp [h1, h2, hm, hm2, go_sem]
theorem x_load (x : Operand) (g o : Nat) (v : Int) (h1 : ρ x = .pointer (some ⟨g, o, none⟩)) (hc : w.cell? ⟨g, o, none⟩ = some (.int .i64 v)) : (execOp ρ ⟨dst, .load 3 x, ty, pos, af, none⟩).run Try.prog w = .ok (.value (.int .i64 v)) w := by
  unfold execOp
  simp [h1, hc, go_sem]
end
theorem wp_of_run {o : Oper} {a : Act} {w w' : World} {v : Value} {K : Act → World → Prop} {Q : Exit → Act → World → Prop} (h : (execOp a.eval o).run Try.prog w = .ok (.value v) w') (hk : K (a.put o.dst v) w') : o.wp Try.prog a w K Q := by
  unfold Oper.wp; rw [h]; exact hk
theorem okI_iff {lo hi : Int} : okI lo hi = true ↔ -1000000000000 ≤ lo ∧ lo ≤ hi ∧ hi ≤ 1000000000000 := by
  simp [okI, and_assoc]
theorem mkI_some {lo hi : Int} {t : AV} (h : mkI lo hi = some t) : t = .i lo hi ∧ -1000000000000 ≤ lo ∧ lo ≤ hi ∧ hi ≤ 1000000000000 := by
  unfold mkI at h
  split at h
  · rename_i hk; injection h with h; exact ⟨h.symm, okI_iff.1 hk⟩
  · cases h
theorem mul_box {x y a b c d : Int} (h1 : a ≤ x) (h2 : x ≤ b) (h3 : c ≤ y) (h4 : y ≤ d) : min (min (a * c) (a * d)) (min (b * c) (b * d)) ≤ x * y ∧ x * y ≤ max (max (a * c) (a * d)) (max (b * c) (b * d)) := by
  have key : ∀ y : Int, (a * y ≤ x * y ∧ x * y ≤ b * y) ∨ (b * y ≤ x * y ∧ x * y ≤ a * y) := by
    intro y
    rcases Int.le_total 0 y with h | h
    · exact .inl ⟨Int.mul_le_mul_of_nonneg_right h1 h, Int.mul_le_mul_of_nonneg_right h2 h⟩
    · exact .inr ⟨Int.mul_le_mul_of_nonpos_right h2 h, Int.mul_le_mul_of_nonpos_right h1 h⟩
  have lin : ∀ z : Int, (z * c ≤ z * y ∧ z * y ≤ z * d) ∨ (z * d ≤ z * y ∧ z * y ≤ z * c) := by
    intro z
    rcases Int.le_total 0 z with h | h
    · exact .inl ⟨Int.mul_le_mul_of_nonneg_left h3 h, Int.mul_le_mul_of_nonneg_left h4 h⟩
    · exact .inr ⟨Int.mul_le_mul_of_nonpos_left h h4, Int.mul_le_mul_of_nonpos_left h h3⟩
  have k := key y
  have la := lin a
  have lb := lin b
  generalize x * y = q at *
  generalize a * y = ay at *
  generalize b * y = bby at *
  generalize a * c = ac at *
  generalize a * d = ad at *
  generalize b * c = bc at *
  generalize b * d = bd at *
  omega
theorem quo_pos {x b y c : Int} (hx : 0 ≤ x) (hb : x ≤ b) (hc : 1 ≤ c) (hy : c ≤ y) : 0 ≤ x / y ∧ x / y ≤ b / c := by
  have h0 := Int.ediv_nonneg hx (show 0 ≤ y by omega)
  refine ⟨h0, (Int.le_ediv_iff_mul_le (by omega)).2 ?_⟩
  have h1 : x / y * c ≤ x / y * y := Int.mul_le_mul_of_nonneg_left hy h0
  have h2 := Int.ediv_mul_le x (show y ≠ 0 by omega)
  omega
theorem quo_box {x a b y c : Int} (h1 : a ≤ x) (h2 : x ≤ b) (hc : 1 ≤ c) (hy : c ≤ y) : -(max (-a) 0 / c) ≤ x.tdiv y ∧ x.tdiv y ≤ max b 0 / c := by
  rcases Int.le_total 0 x with h0 | h0
  · rw [Int.tdiv_eq_ediv_of_nonneg h0]
    have := quo_pos h0 (show x ≤ max b 0 by omega) hc hy
    have := Int.ediv_nonneg (show 0 ≤ max (-a) 0 by omega) (show 0 ≤ c by omega)
    omega
  · obtain ⟨k, rfl⟩ : ∃ k, x = -k := ⟨-x, by omega⟩
    rw [Int.neg_tdiv, Int.tdiv_eq_ediv_of_nonneg (by omega)]
    have := quo_pos (x := k) (by omega) (show k ≤ max (-a) 0 by omega) hc hy
    have := Int.ediv_nonneg (show 0 ≤ max b 0 by omega) (show 0 ≤ c by omega)
    omega
theorem hull_in {r : Nat} {w : World} : ∀ (l : List (Nat × Operand)) (G : Operand → AV) (ρ : Operand → Value) (lo hi a b : Int), (∀ x, (G x).has r w (ρ x)) → (absArgs G l).all isI = true → hull0 (absArgs G l) lo hi = some (a, b) →
    a ≤ lo ∧ hi ≤ b ∧ ∀ p ∈ l, Int1 a b (ρ p.2)
  | [], _, _, lo, hi, a, b, _, _, h => by
    simp only [absArgs, List.map_nil, hull0, Option.some.injEq, Prod.mk.injEq] at h
    exact ⟨by omega, by omega, by simp⟩
  | p :: l, G, ρ, lo, hi, a, b, hG, hI, h => by
    have hp := hG p.2
    simp only [absArgs, List.map_cons, List.all_cons, Bool.and_eq_true] at hI h
    obtain ⟨hI1, hI2⟩ := hI
    cases hgp : G p.2 with
    | i c d =>
      rw [hgp] at h hp
      have := hull_in l G ρ (min lo c) (max hi d) a b hG hI2 h
      refine ⟨by omega, by omega, fun q hq => ?_⟩
      rcases List.mem_cons.1 hq with rfl | hq
      · obtain ⟨x, hx, h1, h2⟩ := hp
        exact ⟨x, hx, by omega, by omega⟩
      · exact this.2.2 q hq
    | _ => rw [hgp] at hI1; cases hI1
set_option maxHeartbeats 1000000 in
theorem absOp_sound {r : Nat} {sig : FuncId → List AV → Option AV} (hsig : SigOK r sig) {o : Oper} {a : Act} {w : World} {K : Act → World → Prop} {Q : Exit → Act → World → Prop} {G : Operand → AV} {P : Nat} {t : AV}
    (hg : o.guard = none) (h : absOp sig G o.op = some t) (hG : ∀ x, (G x).has r w (a.eval x)) (rd : RdOK w r P) (hP : P ≤ 990000)
    (hK : ∀ v w', t.has r w' v → Only r w w' → RdOK w' r (P + 100) → K (a.put o.dst v) w') : o.wp Try.prog a w K Q := by
  have rd' : RdOK w r (P + 100) := rd.more (by omega)
  obtain ⟨dst, op, ty, pos, af, gd⟩ := o
  subst hg
  cases op with
  | move x =>
    simp only [absOp, Option.some.injEq] at h; subst h
    exact wp_of_run (v := a.eval x) rfl (hK _ _ (hG x) (Only.refl _ _) rd')
  | assign x =>
    simp only [absOp, Option.some.injEq] at h; subst h
    exact wp_of_run (v := a.eval x) rfl (hK _ _ (hG x) (Only.refl _ _) rd')
  | binOp op xt x y yt =>
    simp only [absOp] at h
    have hx := hG x
    have hy := hG y
    cases ex : G x with
    | i l1 h1 =>
      cases ey : G y with
      | i l2 h2 =>
        rw [ex, ey] at h
        rw [ex] at hx
        rw [ey] at hy
        obtain ⟨n, en, bn1, bn2⟩ := hx
        obtain ⟨m, em, bm1, bm2⟩ := hy
        cases op with
        | add =>
          obtain ⟨rfl, q1, q2, q3⟩ := mkI_some h
          refine wp_of_run (x_add dst ty pos af x y n m en em xt yt) (hK _ _ ?_ (Only.refl _ _) rd')
          rw [IntWalk.i64_in _ (by omega)]; exact ⟨_, rfl, by omega, by omega⟩
        | sub =>
          obtain ⟨rfl, q1, q2, q3⟩ := mkI_some h
          refine wp_of_run (x_sub dst ty pos af x y n m en em xt yt) (hK _ _ ?_ (Only.refl _ _) rd')
          rw [IntWalk.i64_in _ (by omega)]; exact ⟨_, rfl, by omega, by omega⟩
        | mul =>
          simp only at h
          split at h
          · obtain ⟨rfl, q1, q2, q3⟩ := mkI_some h
            have hb := mul_box bn1 bn2 bm1 bm2
            refine wp_of_run (x_mul dst ty pos af x y n m en em xt yt) (hK _ _ ?_ (Only.refl _ _) rd')
            rw [IntWalk.i64_in _ (by omega)]; exact ⟨_, rfl, hb.1, hb.2⟩
          · cases h
        | quo =>
          simp only at h
          split at h
          · rename_i hk
            simp only [Bool.and_eq_true, decide_eq_true_eq, okI_iff] at hk
            obtain ⟨rfl, q1, q2, q3⟩ := mkI_some h
            refine wp_of_run (x_quo dst ty pos af x y n m en em (by omega) xt yt) (hK _ _ ?_ (Only.refl _ _) rd')
            have hq := quo_box (x := n) (a := l1) (b := h1) (y := m) (c := l2) bn1 bn2 (by omega) bm1
            rw [IntWalk.i64_in _ (by omega)]; exact ⟨_, rfl, by omega, by omega⟩
          · cases h
        | rem =>
          simp only at h
          split at h
          · rename_i hk
            simp only [Bool.and_eq_true, decide_eq_true_eq, okI_iff] at hk
            obtain ⟨rfl, q1, q2, q3⟩ := mkI_some h
            refine wp_of_run (x_rem dst ty pos af x y n m en em (by omega) xt yt) (hK _ _ ⟨_, rfl, ?_, ?_⟩ (Only.refl _ _) rd')
            · split
              · exact Int.tmod_nonneg _ (by omega)
              · have := Int.lt_tmod_of_pos n (show 0 < m by omega); omega
            · have := Int.tmod_lt_of_pos n (show 0 < m by omega); omega
          · cases h
        | _ => simp at h
      | _ => rw [ex, ey] at h; cases h
    | _ => rw [ex] at h; simp at h
  | unOp u t0 x =>
    cases u with
    | neg =>
      simp only [absOp] at h
      have hx := hG x
      cases ex : G x with
      | i l1 h1 =>
        rw [ex] at h hx
        obtain ⟨n, en, bn1, bn2⟩ := hx
        simp only at h
        split at h
        · obtain ⟨rfl, q1, q2, q3⟩ := mkI_some h
          refine wp_of_run (x_neg dst ty pos af x n en t0) (hK _ _ ?_ (Only.refl _ _) rd')
          rw [IntWalk.i64_in _ (by omega)]; exact ⟨_, rfl, by omega, by omega⟩
        · cases h
      | _ => rw [ex] at h; cases h
    | _ => simp [absOp] at h
  | call c =>
    obtain ⟨callee, args, ats⟩ := c
    cases callee with
    | value fo =>
      cases fo with
      | func f =>
        simp only [absOp] at h
        obtain ⟨e1, e2⟩ := hsig f _ t h (args.map a.eval) w P (by rw [Array.toList_map]; exact hasAll_map hG _) rd hP
        unfold Oper.wp
        rw [show execOp a.eval _ = callFunc f (#[] ++ args.map a.eval ++ #[]) from rfl]
        rw [Array.empty_append, Array.append_empty, e1]
        show Calls Try.prog f (args.map a.eval) w _
        refine e2.mono ?_
        rintro e w' ⟨v, rfl, hv, hr, ho⟩
        exact hK v w' hv ho hr
      | _ => simp [absOp] at h
    | builtin b =>
      cases b with
      | max =>
        simp only [absOp] at h
        obtain ⟨l⟩ := args
        match l, h with
        | [x, y], h =>
          simp only [List.map_cons, List.map_nil] at h
          have hx := hG x
          have hy := hG y
          cases ex : G x with
          | i l1 h1 =>
            cases ey : G y with
            | i l2 h2 =>
              rw [ex, ey] at h
              rw [ex] at hx
              rw [ey] at hy
              obtain ⟨n, en, bn1, bn2⟩ := hx
              obtain ⟨m, em, bm1, bm2⟩ := hy
              obtain ⟨rfl, q1, q2, q3⟩ := mkI_some h
              exact wp_of_run (x_max dst ty pos af x y ats n m en em) (hK _ _ ⟨_, rfl, by omega, by omega⟩ (Only.refl _ _) rd')
            | _ => rw [ex, ey] at h; cases h
          | _ => rw [ex] at h; simp at h
        | [], h => simp at h
        | [x], h => simp at h
        | x :: y :: z :: l, h => simp at h
      | min =>
        simp only [absOp] at h
        obtain ⟨l⟩ := args
        match l, h with
        | [x, y], h =>
          simp only [List.map_cons, List.map_nil] at h
          have hx := hG x
          have hy := hG y
          cases ex : G x with
          | i l1 h1 =>
            cases ey : G y with
            | i l2 h2 =>
              rw [ex, ey] at h
              rw [ex] at hx
              rw [ey] at hy
              obtain ⟨n, en, bn1, bn2⟩ := hx
              obtain ⟨m, em, bm1, bm2⟩ := hy
              obtain ⟨rfl, q1, q2, q3⟩ := mkI_some h
              exact wp_of_run (x_min dst ty pos af x y ats n m en em) (hK _ _ ⟨_, rfl, by omega, by omega⟩ (Only.refl _ _) rd')
            | _ => rw [ex, ey] at h; cases h
          | _ => rw [ex] at h; simp at h
        | [], h => simp at h
        | [x], h => simp at h
        | x :: y :: z :: l, h => simp at h
      | _ => simp [absOp] at h
    | _ => simp [absOp] at h
  | buildSlice t0 n parts =>
    simp only [absOp] at h
    split at h
    · rename_i hk
      simp only [Bool.and_eq_true, decide_eq_true_eq, List.all_eq_true] at hk
      split at h
      · rename_i ht
        simp only [Bool.and_eq_true, beq_iff_eq] at ht
        obtain ⟨rfl, hI⟩ := ht
        cases hh : hull0 (absArgs G parts.toList) 0 0 with
        | none => rw [hh] at h; cases h
        | some p =>
          obtain ⟨lo, hi⟩ := p
          rw [hh] at h
          simp only [Option.map_some, Option.some.injEq] at h
          subst h
          obtain ⟨b1, b2, b3⟩ := hull_in parts.toList G a.eval 0 0 lo hi hG hI hh
          obtain ⟨cs, e1, e2, e3⟩ := fill_good (Good := Int1 lo hi) 1 n (fun i => some (i, 1)) (fun i => by simp)
            (List.map (fun x => (x.fst, a.eval x.snd)) parts.toList) (Array.map (fun x => [Value.int IntKind.i64 0][x % 1]?.getD default) (Array.range n)) (by simp)
            (fun j hj => by simp [Nat.mod_one]; exact ⟨0, rfl, by omega, by omega⟩)
            (fun p hp => by
              obtain ⟨q, hq, rfl⟩ := List.mem_map.1 hp
              obtain ⟨x, hx, h1, h2⟩ := b3 q hq
              refine ⟨by simpa using hk.2 q hq, ?_, ?_⟩ <;> simp [hx, Value.cells]
              exact ⟨x, rfl, h1, h2⟩)
          refine wp_of_run (x_bs dst ty pos af parts n hk.1.1 hk.1.2 cs e1) (hK _ _ ⟨w.heap.size, rfl, ?_, by simp, fun j hj => ?_⟩ ((Only.refl _ _).alloc _) (rd'.alloc _))
          · have := rd.lt; omega
          · refine ⟨cs[j]'(by omega), ?_, e3 j (by omega)⟩
            rw [cell_of_row _ _ _ cs 3 (0, 0) (heap_alloc_new w _)]
            exact Array.getElem?_eq_getElem _
      · cases h
    · cases h
  | indexAddr t0 x ix =>
    simp only [absOp] at h
    have hx := hG x
    have hy := hG ix
    cases ex : G x with
    | sl n lo hi =>
      cases ey : G ix with
      | i l2 h2 =>
        rw [ex, ey] at h
        rw [ex] at hx
        rw [ey] at hy
        obtain ⟨m, em, bm1, bm2⟩ := hy
        obtain ⟨g, eg, g1, g2, g3⟩ := hx
        simp only at h
        split at h
        · rename_i hk
          simp only [Bool.and_eq_true, beq_iff_eq, decide_eq_true_eq] at hk
          obtain ⟨⟨rfl, k1⟩, k2⟩ := hk
          injection h with h; subst h
          obtain ⟨u, hu, hi'⟩ := g3 m.toNat (by omega)
          exact wp_of_run (x_idx dst ty pos af x ix n m g eg em (by omega) (by omega)) (hK _ _ ⟨g, m.toNat, u, rfl, g1, g2, hu, hi'⟩ (Only.refl _ _) rd')
        · cases h
      | _ => rw [ex, ey] at h; cases h
    | _ => rw [ex] at h; simp at h
  | load t0 x =>
    simp only [absOp] at h
    have hx := hG x
    cases ex : G x with
    | pi lo hi =>
      rw [ex] at h hx
      obtain ⟨g, o, u, e1, g1, g2, hc, y, rfl, b1, b2⟩ := hx
      simp only at h
      split at h
      · rename_i hk
        obtain rfl := beq_iff_eq.1 hk
        injection h with h; subst h
        exact wp_of_run (x_load dst ty pos af x g o y e1 hc) (hK _ _ ⟨y, rfl, b1, b2⟩ (Only.refl _ _) rd')
      · cases h
    | _ => rw [ex] at h; cases h
  | _ => simp [absOp] at h
def dstIdx (ops : List Oper) (t : Nat) : Option Nat := ops.findIdx? fun o => o.dst == some t
def constAV : Value → AV
  | .int .i64 n => .i n n
  | .bool _ => .bo
  | _ => .top
def Gof (ops : List Oper) (vals : List AV) (G0 : Nat → AV) (after : Array Edge) : Operand → AV
  | .tmp t => match dstIdx ops t with
    | some j => if after.toList.any (fun e => e.on == j && Region.binds .any e) then vals.getD j .top else .top
    | none => G0 t
  | .const v => constAV v
  | _ => .top
def okOper (ops : List Oper) (i : Nat) (o : Oper) : Bool :=
  o.guard.isNone && o.after.toList.all (fun e => !Region.binds .any e || decide (e.on < i)) && (match o.dst with | some d => dstIdx ops d == some i | none => false)
def absReg (sig : FuncId → List AV → Option AV) (G0 : Nat → AV) (ops : List Oper) : List Oper → Nat → List AV → Option (List AV)
  | [], _, vals => some vals
  | o :: rest, i, vals =>
    if okOper ops i o then
      match absOp sig (Gof ops vals G0 o.after) o.op with
      | some t => absReg sig G0 ops rest (i + 1) (vals ++ [t])
      | none => none
    else none
theorem Gof_ext {ops : List Oper} {G0 : Nat → AV} {vals more : List AV} {after : Array Edge} (h : ∀ e ∈ after, Region.binds .any e = true → e.on < vals.length) : Gof ops vals G0 after = Gof ops (vals ++ more) G0 after := by
  funext x
  unfold Gof
  cases x with
  | tmp t =>
    simp only
    cases hd : dstIdx ops t with
    | none => rfl
    | some j =>
      simp only
      split
      · rename_i hany
        obtain ⟨e, he, h2⟩ := List.any_eq_true.1 hany
        rw [Array.mem_toList_iff] at he
        simp only [Bool.and_eq_true, beq_iff_eq] at h2
        have : j < vals.length := by rw [← h2.1]; exact h e he h2.2
        rw [List.getD_eq_getElem?_getD, List.getD_eq_getElem?_getD, List.getElem?_append_left this]
      · rfl
  | _ => rfl
def OpOK (sig : FuncId → List AV → Option AV) (G0 : Nat → AV) (ops : List Oper) (V : List AV) (i : Nat) (o : Oper) : Prop :=
  o.guard = none ∧ (∀ e ∈ o.after, Region.binds .any e = true → e.on < i) ∧ (∃ d, o.dst = some d ∧ dstIdx ops d = some i) ∧ absOp sig (Gof ops V G0 o.after) o.op = some (V.getD i .top)
theorem absReg_spec {sig : FuncId → List AV → Option AV} {G0 : Nat → AV} {ops : List Oper} : ∀ (rest : List Oper) (vals V : List AV), absReg sig G0 ops rest vals.length vals = some V →
    (∃ more, V = vals ++ more) ∧ V.length = vals.length + rest.length ∧ ∀ k o, rest[k]? = some o → OpOK sig G0 ops V (vals.length + k) o
  | [], vals, V, h => by
    simp only [absReg, Option.some.injEq] at h
    subst h
    exact ⟨⟨[], by simp⟩, by simp, fun k o hk => by simp at hk⟩
  | o :: rest, vals, V, h => by
    unfold absReg at h
    by_cases hc : okOper ops vals.length o = true
    · rw [if_pos hc] at h
      cases ht : absOp sig (Gof ops vals G0 o.after) o.op with
      | none => rw [ht] at h; cases h
      | some t =>
        rw [ht] at h
        have h' : absReg sig G0 ops rest (vals ++ [t]).length (vals ++ [t]) = some V := by simpa using h
        obtain ⟨⟨more, hm⟩, hl, hk⟩ := absReg_spec rest (vals ++ [t]) V h'
        unfold okOper at hc
        simp only [Bool.and_eq_true] at hc
        have haf : ∀ e ∈ o.after, Region.binds .any e = true → e.on < vals.length := by
          intro e he hb
          have := List.all_eq_true.1 hc.1.2 e (Array.mem_toList_iff.2 he)
          rw [hb] at this
          simpa using this
        refine ⟨⟨t :: more, by simp [hm]⟩, by simp at hl ⊢; omega, fun k o' hk' => ?_⟩
        cases k with
        | zero =>
          simp only [List.getElem?_cons_zero, Option.some.injEq] at hk'
          subst hk'
          refine ⟨by simpa using hc.1.1, by simpa using haf, ?_, ?_⟩
          · have := hc.2
            cases hd : o.dst with
            | none => rw [hd] at this; cases this
            | some d => rw [hd] at this; exact ⟨d, rfl, by simpa using this⟩
          · have e1 : Gof ops vals G0 o.after = Gof ops V G0 o.after := by rw [hm, List.append_assoc]; exact Gof_ext haf
            rw [← e1, ht, hm]
            simp [List.getD_eq_getElem?_getD]
        | succ k =>
          have := hk k o' (by simpa using hk')
          rw [show vals.length + (k + 1) = (vals ++ [t]).length + k from by simp; omega]
          exact this
    · rw [if_neg hc] at h; cases h
/-- The state of such a region when the operations 'listed' have been carried out. -/
structure RegJ (r : Nat) (ops : List Oper) (V : List AV) (a0 : Act) (w0 : World) (P : Nat) (listed : Array Bool) (a : Act) (w : World) : Prop where
  size : a.tmps.size = a0.tmps.size
  defers : a.defers = a0.defers
  old : ∀ t, dstIdx ops t = none → a.tmps.getD t undef = a0.tmps.getD t undef
  new : ∀ j d, listed.getD j false = true → dstIdx ops d = some j → (V.getD j .top).has r w (a.tmps.getD d undef)
  only : Only r w0 w
  rd : RdOK w r P
theorem constAV_has {r : Nat} {w : World} (v : Value) : (constAV v).has r w v := by
  unfold constAV
  split
  · exact ⟨_, rfl, Int.le_refl _, Int.le_refl _⟩
  · exact ⟨_, rfl⟩
  · trivial
def unl (listed : Array Bool) (N : Nat) : Nat := ((List.range N).filter fun i => !listed.getD i false).length
theorem unl_set {listed : Array Bool} {N i : Nat} (hi : i < N) (hs : i < listed.size) (hl : listed.getD i false = false) : unl (listed.setIfInBounds i true) N < unl listed N := by
  unfold unl
  have hget : ∀ j, (listed.setIfInBounds i true).getD j false = if j = i then true else listed.getD j false := by
    intro j
    by_cases hj : j = i
    · subst hj; simp [Array.getD_eq_getD_getElem?, hs]
    · rw [if_neg hj]; simp [Array.getD_eq_getD_getElem?, Ne.symm hj]
  have h1 : ((List.range N).filter fun j => !(listed.setIfInBounds i true).getD j false) = ((List.range N).filter fun j => !listed.getD j false).filter (fun j => decide (j ≠ i)) := by
    rw [List.filter_filter]
    congr 1
    funext j
    rw [hget]
    by_cases hj : j = i <;> simp [hj]
  rw [h1]
  have hm : i ∈ (List.range N).filter fun j => !listed.getD j false := List.mem_filter.2 ⟨List.mem_range.2 hi, by rw [hl]; rfl⟩
  have := (List.length_filter_lt_length_iff_exists (p := fun j => decide (j ≠ i))).2 ⟨i, hm, by simp⟩
  exact this
theorem put_getD {a : Act} {d t : Nat} {v : Value} (hd : d < a.tmps.size) : (a.put (some d) v).tmps.getD t undef = if t = d then v else a.tmps.getD t undef := by
  by_cases ht : t = d
  · subst ht; simp [Act.put, Array.getD_eq_getD_getElem?, hd]
  · rw [if_neg ht]; simp [Act.put, Array.getD_eq_getD_getElem?, Ne.symm ht]
set_option maxHeartbeats 1000000 in
theorem region_any {r : Nat} {sig : FuncId → List AV → Option AV} (hsig : SigOK r sig) {ops : Array Oper} {G0 : Nat → AV} {V : List AV} (hV : absReg sig G0 ops.toList ops.toList 0 [] = some V)
    {Q : Exit → Act → World → Prop} {a0 : Act} {w0 : World} {P0 : Nat} (hdst : ∀ o ∈ ops.toList, ∀ d, o.dst = some d → d < a0.tmps.size)
    (hG0 : ∀ t, (G0 t).has r w0 (a0.tmps.getD t undef)) (hP : P0 + 100 * ops.size ≤ 990000)
    (hQ : ∀ a w, RegJ r ops.toList V a0 w0 (P0 + 100 * ops.size) (Array.replicate ops.size true) a w → Q .normal a w) :
    ∀ (fuel : Nat) (listed : Array Bool) (a : Act) (w : World), listed.size = ops.size → unl listed ops.size ≤ fuel → fuel ≤ ops.size → RegJ r ops.toList V a0 w0 (P0 + 100 * (ops.size - fuel)) listed a w → wpAny Try.prog .any ops Q fuel listed a w := by
  obtain ⟨-, hlen, hspec⟩ := absReg_spec (sig := sig) (G0 := G0) (ops := ops.toList) ops.toList [] V hV
  simp only [List.length_nil, Nat.zero_add] at hlen hspec
  -- if nothing is ready, all has been done
  have hdone : ∀ (listed : Array Bool) (a : Act) (w : World) (P : Nat), listed.size = ops.size → P ≤ P0 + 100 * ops.size → RegJ r ops.toList V a0 w0 P listed a w → Region.ready .any ops listed = [] → Q .normal a w := by
    intro listed a w P hls hPP hJ hr
    have hall : ∀ n i, i < n → i < ops.size → listed.getD i false = true := by
      intro n
      induction n with
      | zero => intro i hi; omega
      | succ n ih =>
        intro i hi his
        rcases Nat.lt_or_ge i n with h | h
        · exact ih i h his
        · have : i = n := by omega
          subst this
          cases hli : listed.getD i false with
          | true => rfl
          | false =>
            exfalso
            have hoi : ops[i]? = some ops[i] := Array.getElem?_eq_getElem his
            have hok := hspec i ops[i] (by rw [Array.getElem?_toList]; exact hoi)
            have : i ∈ Region.ready .any ops listed := by
              unfold Region.ready
              rw [List.mem_filter]
              refine ⟨List.mem_range.2 his, ?_⟩
              have hli' : listed.getD i true = false := by
                have : i < listed.size := by omega
                simp [Array.getD_eq_getD_getElem?, this] at hli ⊢
                exact hli
              rw [hli', hoi]
              simp only [Bool.not_false, Bool.true_and, Option.map_some, Option.getD_some]
              rw [Array.all_eq_true']
              intro e he
              cases hb : Region.binds .any e with
              | false => rfl
              | true =>
                rw [ih e.on (hok.2.1 e he hb) (by have := hok.2.1 e he hb; omega)]
                rfl
            rw [hr] at this
            cases this
    refine hQ a w ⟨hJ.size, hJ.defers, hJ.old, fun j d hj hd => ?_, hJ.only, hJ.rd.more hPP⟩
    refine hJ.new j d (hall (j + 1) j (by omega) ?_) hd
    obtain ⟨hlt, _⟩ := List.findIdx?_eq_some_iff_getElem.1 hd
    simpa using hlt
  intro fuel
  induction fuel with
  | zero =>
    intro listed a w hls hu hf hJ
    have hr : Region.ready .any ops listed = [] := by
      unfold unl at hu
      have hnil : ((List.range ops.size).filter fun i => !listed.getD i false) = [] := List.eq_nil_of_length_eq_zero (by omega)
      rw [List.filter_eq_nil_iff] at hnil
      unfold Region.ready
      rw [List.filter_eq_nil_iff]
      intro i hi
      have h1 := hnil i hi
      have h2 : i < listed.size := by rw [hls]; exact List.mem_range.1 hi
      simp [Array.getD_eq_getD_getElem?, h2] at h1 ⊢
      simp [h1]
    exact ⟨hr, hdone listed a w _ hls (by omega) hJ hr⟩
  | succ fuel ih =>
    intro listed a w hls hu hf hJ
    refine ⟨hdone listed a w _ hls (by omega) hJ, fun i hi => ?_⟩
    unfold Region.ready at hi
    rw [List.mem_filter] at hi
    obtain ⟨hi1, hi2⟩ := hi
    have his := List.mem_range.1 hi1
    have hoi : ops[i]? = some ops[i] := Array.getElem?_eq_getElem his
    obtain ⟨hg, haf, ⟨d, hd, hdi⟩, habs⟩ := hspec i ops[i] (by rw [Array.getElem?_toList]; exact hoi)
    rw [hoi] at hi2
    simp only [Option.map_some, Option.getD_some, Bool.and_eq_true, Array.all_eq_true'] at hi2
    obtain ⟨hnl, hready⟩ := hi2
    have hli : listed.getD i false = false := by
      have : i < listed.size := by omega
      simp [Array.getD_eq_getD_getElem?, this] at hnl ⊢
      exact hnl
    unfold wpOp
    rw [hoi]
    simp only [Region.wanted, hg, if_true]
    left
    have hds : d < a.tmps.size := by rw [hJ.size]; exact hdst _ (by simp) d hd
    refine absOp_sound hsig hg habs (fun x => ?_) hJ.rd (by omega) ?_
    · cases x with
      | tmp t =>
        simp only [Gof]
        cases hdt : dstIdx ops.toList t with
        | none => simp only; rw [show a.eval (.tmp t) = a.tmps.getD t undef from rfl, hJ.old t hdt]; exact AV.keep hJ.only (hG0 t)
        | some j =>
          simp only
          split
          · rename_i hany
            obtain ⟨e, he, h2⟩ := List.any_eq_true.1 hany
            rw [Array.mem_toList_iff] at he
            simp only [Bool.and_eq_true, beq_iff_eq] at h2
            have := hready e he
            rw [h2.2] at this
            exact hJ.new j t (by rw [← h2.1]; simpa using this) hdt
          · trivial
      | const v => exact constAV_has v
      | _ => trivial
    · intro v w' hv ho hrd
      rw [hd]
      refine ih _ _ _ (by simpa using hls) (by have := unl_set his (by omega) hli; omega) (by omega) ⟨?_, hJ.defers, fun t ht => ?_, fun j d' hj hd' => ?_, hJ.only.trans ho, hrd.more (by omega)⟩
      · simp [Act.put, hJ.size]
      · rw [put_getD hds, if_neg (by rintro rfl; rw [hdi] at ht; cases ht)]
        exact hJ.old t ht
      · rw [put_getD hds]
        by_cases hdd : d' = d
        · subst hdd
          rw [if_pos rfl]
          rw [hdi] at hd'
          injection hd' with hd'
          subst hd'
          exact hv
        · rw [if_neg hdd]
          have hji : j ≠ i := by
            rintro rfl
            have h1 := (List.findIdx?_eq_some_iff_getElem.1 hd').2.1
            have h2 := (List.findIdx?_eq_some_iff_getElem.1 hdi).2.1
            simp only [beq_iff_eq] at h1 h2
            rw [h1] at h2
            injection h2
            contradiction
          refine AV.keep ho (hJ.new j d' ?_ hd')
          have : (listed.setIfInBounds i true).getD j false = listed.getD j false := by
            simp [Array.getD_eq_getD_getElem?, Ne.symm hji]
          rw [this] at hj
          exact hj
/-- The frame behind such a region: the slots in the given ranges are unknown, all else is as it was. -/
def inR (rs : List (Nat × Nat)) (k : Nat) : Bool := rs.any fun p => decide (p.1 ≤ k) && decide (k ≤ p.2)
def merge (rs : List (Nat × Nat)) (u : Nat → Value) : Nat → List Value → List Value
  | _, [] => []
  | k, v :: l => (if inR rs k = true then u k else v) :: merge rs u (k + 1) l
theorem merge_get {rs : List (Nat × Nat)} {u : Nat → Value} : ∀ (l : List Value) (k t : Nat), (merge rs u k l)[t]? = (l[t]?).map fun v => if inR rs (k + t) = true then u (k + t) else v
  | [], _, _ => by simp [merge]
  | v :: l, k, t => by
    cases t with
    | zero => simp [merge]
    | succ t =>
      have := merge_get (rs := rs) (u := u) l (k + 1) t
      simp only [merge, List.getElem?_cons_succ, this]
      rw [show k + 1 + t = k + (t + 1) from by omega]
def lookA : List (Nat × AV) → Nat → AV
  | [], _ => .top
  | (s, t) :: l, n => if s = n then t else lookA l n
def hasL (r : Nat) (w : World) (get : Nat → Value) : List (Nat × AV) → Prop
  | [] => True
  | (s, t) :: l => t.has r w (get s) ∧ hasL r w get l
def AV.leB : AV → AV → Bool
  | _, .top => true
  | .bo, .bo => true
  | .rdr, .rdr => true
  | .i a b, .i c d => decide (c ≤ a) && decide (b ≤ d)
  | .pt a b, .pt c d => decide (c ≤ a) && decide (b ≤ d)
  | _, _ => false
theorem Int1.mono {a b c d : Int} {v : Value} (h1 : c ≤ a) (h2 : b ≤ d) (h : Int1 a b v) : Int1 c d v := by
  obtain ⟨x, hx, h3, h4⟩ := h; exact ⟨x, hx, by omega, by omega⟩
theorem AV.leB_has {r : Nat} {w : World} {v : Value} {s t : AV} (h : s.leB t = true) (hs : s.has r w v) : t.has r w v := by
  cases t with
  | top => trivial
  | bo => cases s <;> first | exact hs | (simp [AV.leB] at h)
  | rdr => cases s <;> first | exact hs | (simp [AV.leB] at h)
  | i c d =>
    cases s with
    | i a b => simp only [AV.leB, Bool.and_eq_true, decide_eq_true_eq] at h; exact Int1.mono h.1 h.2 hs
    | _ => simp [AV.leB] at h
  | pt c d =>
    cases s with
    | pt a b =>
      simp only [AV.leB, Bool.and_eq_true, decide_eq_true_eq] at h
      obtain ⟨x, y, e, h1, h2⟩ := hs
      exact ⟨x, y, e, Int1.mono h.1 h.2 h1, Int1.mono h.1 h.2 h2⟩
    | _ => simp [AV.leB] at h
  | _ => cases s <;> simp [AV.leB] at h
/-- The check of a whole region, by evaluation: from what the slots in 'have' hold, the slots in 'want' come to hold what is said. -/
def chkReg (sig : FuncId → List AV → Option AV) (ops : List Oper) (hv want : List (Nat × AV)) (rs : List (Nat × Nat)) (size : Nat) : Bool :=
  (match absReg sig (lookA hv) ops ops 0 [] with
  | some V => want.all fun p => match dstIdx ops p.1 with
    | some j => (V.getD j .top).leB p.2
    | none => false
  | none => false) && ops.all fun o => match o.dst with
    | some d => decide (d < size) && inR rs d
    | none => true
theorem lookA_has {r : Nat} {w : World} {get : Nat → Value} : ∀ {l : List (Nat × AV)}, hasL r w get l → ∀ t, (lookA l t).has r w (get t)
  | [], _, _ => trivial
  | (s, t') :: l, h, t => by
    unfold lookA
    split
    · rename_i e; subst e; exact h.1
    · exact lookA_has h.2 t
/-- As region_any, for a region whose order is that of the text. -/
def firstK (N k : Nat) : Array Bool := ((List.range N).map fun j => decide (j < k)).toArray
theorem firstK_get {N k j : Nat} : (firstK N k).getD j false = true ↔ j < N ∧ j < k := by
  unfold firstK
  by_cases hj : j < N <;> simp [Array.getD_eq_getD_getElem?, hj]
set_option maxHeartbeats 1000000 in
theorem region_list {r : Nat} {sig : FuncId → List AV → Option AV} (hsig : SigOK r sig) {ops : Array Oper} {G0 : Nat → AV} {V : List AV} (hV : absReg sig G0 ops.toList ops.toList 0 [] = some V)
    {Q : Exit → Act → World → Prop} {a0 : Act} {w0 : World} {P0 : Nat} (hdst : ∀ o ∈ ops.toList, ∀ d, o.dst = some d → d < a0.tmps.size)
    (hG0 : ∀ t, (G0 t).has r w0 (a0.tmps.getD t undef)) (hP : P0 + 100 * ops.size ≤ 990000)
    (hQ : ∀ a w, RegJ r ops.toList V a0 w0 (P0 + 100 * ops.size) (Array.replicate ops.size true) a w → Q .normal a w) :
    ∀ (n k : Nat) (rest : List Oper) (a : Act) (w : World), rest = ops.toList.drop k → k + n = ops.size → RegJ r ops.toList V a0 w0 (P0 + 100 * k) (firstK ops.size k) a w → wpList Try.prog ops Q rest a w := by
  obtain ⟨-, hlen, hspec⟩ := absReg_spec (sig := sig) (G0 := G0) (ops := ops.toList) ops.toList [] V hV
  simp only [List.length_nil, Nat.zero_add] at hlen hspec
  intro n
  induction n with
  | zero =>
    intro k rest a w hr hk hJ
    have hnil : rest = [] := by rw [hr]; exact List.drop_eq_nil_of_le (by simp; omega)
    subst hnil
    refine wpList_nil (hQ a w ⟨hJ.size, hJ.defers, hJ.old, fun j d hj hd => hJ.new j d ?_ hd, hJ.only, hJ.rd.more (by omega)⟩)
    obtain ⟨hlt, _⟩ := List.findIdx?_eq_some_iff_getElem.1 hd
    have : j < ops.size := by simpa using hlt
    exact firstK_get.2 ⟨this, by omega⟩
  | succ n ih =>
    intro k rest a w hr hk hJ
    have his : k < ops.size := by omega
    have hdrop : rest = ops[k] :: ops.toList.drop (k + 1) := by rw [hr, List.drop_eq_getElem_cons (by simpa using his)]; simp
    obtain ⟨hg, haf, ⟨d, hd, hdi⟩, habs⟩ := hspec k ops[k] (by rw [Array.getElem?_toList]; exact Array.getElem?_eq_getElem his)
    rw [hdrop]
    have hds : d < a.tmps.size := by rw [hJ.size]; exact hdst _ (by simp) d hd
    refine wpList_plain hg fun K hKK => absOp_sound hsig hg habs (fun x => ?_) hJ.rd (by omega) ?_
    · cases x with
      | tmp t =>
        simp only [Gof]
        cases hdt : dstIdx ops.toList t with
        | none => simp only; rw [show a.eval (.tmp t) = a.tmps.getD t undef from rfl, hJ.old t hdt]; exact AV.keep hJ.only (hG0 t)
        | some j =>
          simp only
          split
          · rename_i hany
            obtain ⟨e, he, h2⟩ := List.any_eq_true.1 hany
            rw [Array.mem_toList_iff] at he
            simp only [Bool.and_eq_true, beq_iff_eq] at h2
            have hj := haf e he h2.2
            exact hJ.new j t (firstK_get.2 ⟨by omega, by omega⟩) hdt
          · trivial
      | const v => exact constAV_has v
      | _ => trivial
    · intro v w' hv ho hrd
      rw [hd]
      refine hKK _ _ (ih (k + 1) _ _ _ rfl (by omega) ⟨?_, hJ.defers, fun t ht => ?_, fun j d' hj hd' => ?_, hJ.only.trans ho, hrd.more (by omega)⟩)
      · simp [Act.put, hJ.size]
      · rw [put_getD hds, if_neg (by rintro rfl; rw [hdi] at ht; cases ht)]
        exact hJ.old t ht
      · rw [put_getD hds]
        by_cases hdd : d' = d
        · subst hdd
          rw [if_pos rfl]
          rw [hdi] at hd'
          injection hd' with hd'
          subst hd'
          exact hv
        · rw [if_neg hdd]
          have hji : j ≠ k := by
            rintro rfl
            have h1 := (List.findIdx?_eq_some_iff_getElem.1 hd').2.1
            have h2 := (List.findIdx?_eq_some_iff_getElem.1 hdi).2.1
            simp only [beq_iff_eq] at h1 h2
            rw [h1] at h2
            injection h2
            contradiction
          have := firstK_get.1 hj
          exact AV.keep ho (hJ.new j d' (firstK_get.2 ⟨this.1, by omega⟩) hd')
theorem typed_core {r : Nat} {sig : FuncId → List AV → Option AV} {ops : List Oper} {hv want : List (Nat × AV)} {rs : List (Nat × Nat)} {Q : Exit → Act → World → Prop} {l : List Value} {w0 : World} {P0 : Nat}
    (hchk : chkReg sig ops hv want rs l.length = true)
    (hQ : ∀ (u : Nat → Value) (w : World), hasL r w u want → RdOK w r (P0 + 100 * ops.length) → Only r w0 w → Q .normal ⟨(merge rs u 0 l).toArray, []⟩ w) :
    ∃ V, absReg sig (lookA hv) ops ops 0 [] = some V ∧ (∀ o ∈ ops, ∀ d, o.dst = some d → d < l.length) ∧
      ∀ a w, RegJ r ops V ⟨l.toArray, []⟩ w0 (P0 + 100 * ops.length) (Array.replicate ops.length true) a w → Q .normal a w := by
  unfold chkReg at hchk
  cases hV : absReg sig (lookA hv) ops ops 0 [] with
  | none => rw [hV] at hchk; simp at hchk
  | some V =>
    rw [hV] at hchk
    simp only [Bool.and_eq_true, List.all_eq_true] at hchk
    obtain ⟨hw, hd⟩ := hchk
    refine ⟨V, rfl, ?_, ?_⟩
    · intro o ho d hod
      have := hd o ho
      rw [hod] at this
      simp only [Bool.and_eq_true, decide_eq_true_eq] at this
      exact this.1
    · intro a w hJ
      have hfr : a = ⟨(merge rs (fun t => a.tmps.getD t undef) 0 l).toArray, []⟩ := by
        obtain ⟨tm, df⟩ := a
        have hdf : df = [] := hJ.defers
        subst hdf
        congr 1
        have hsz : tm.size = l.length := by simpa using hJ.size
        apply Array.ext'
        show tm.toList = merge rs (fun t => tm.getD t undef) 0 l
        apply List.ext_getElem?
        intro t
        rw [merge_get]
        by_cases ht : t < l.length
        · have e1 : tm.toList[t]? = some (tm.getD t undef) := by
            rw [Array.getElem?_toList, Array.getElem?_eq_getElem (by omega)]
            simp [Array.getD_eq_getD_getElem?, show t < tm.size by omega]
          have e2 : l[t]? = some (l.toArray.getD t undef) := by
            simp [Array.getD_eq_getD_getElem?, ht]
          rw [e1, e2]
          simp only [Option.map_some, Nat.zero_add]
          cases hdt : dstIdx ops t with
          | some j =>
            have hin : inR rs t = true := by
              obtain ⟨hlt, hj, _⟩ := List.findIdx?_eq_some_iff_getElem.1 hdt
              have h1 := hd ops[j] (List.getElem_mem hlt)
              rw [beq_iff_eq.1 hj] at h1
              simp only [Bool.and_eq_true] at h1
              exact h1.2
            rw [if_pos hin]
          | none => have := hJ.old t hdt; simp only at this; rw [this, ite_self]
        · rw [List.getElem?_eq_none (by simpa using (by omega : tm.size ≤ t)), List.getElem?_eq_none (by omega)]; rfl
      rw [hfr]
      refine hQ _ w ?_ hJ.rd hJ.only
      have : ∀ L : List (Nat × AV), (∀ p ∈ L, p ∈ want) → hasL r w (fun t => a.tmps.getD t undef) L := by
        intro L
        induction L with
        | nil => intro _; trivial
        | cons p L ih =>
          intro hL
          refine ⟨?_, ih fun q hq => hL q (List.mem_cons_of_mem _ hq)⟩
          have hp := hw p (hL p (List.mem_cons_self ..))
          cases hdp : dstIdx ops p.1 with
          | none => rw [hdp] at hp; cases hp
          | some j =>
            rw [hdp] at hp
            refine AV.leB_has hp (hJ.new j p.1 ?_ (by simpa using hdp))
            obtain ⟨hlt, _⟩ := List.findIdx?_eq_some_iff_getElem.1 hdp
            simp [Array.getD_eq_getD_getElem?, hlt]
      exact this want fun _ h => h
theorem region_typed {r : Nat} {sig : FuncId → List AV → Option AV} (hsig : SigOK r sig) {ops : List Oper} (hv want : List (Nat × AV)) (rs : List (Nat × Nat)) {Q : Exit → Act → World → Prop} {l : List Value} {w0 : World} {P0 : Nat} {id : Nat}
    (hm : Try.prog.follows .mixedOrders = true) (hchk : chkReg sig ops hv want rs l.length = true) (rd : RdOK w0 r P0) (hhv : hasL r w0 (fun t => l.toArray.getD t undef) hv) (hP : P0 + 100 * ops.length ≤ 990000)
    (hQ : ∀ (u : Nat → Value) (w : World), hasL r w u want → RdOK w r (P0 + 100 * ops.length) → Only r w0 w → Q .normal ⟨(merge rs u 0 l).toArray, []⟩ w) :
    (Code.region id ops.toArray true).wp Try.prog Q ⟨l.toArray, []⟩ w0 := by
  obtain ⟨V, hV, hd, hQ'⟩ := typed_core hchk hQ
  refine wp_region_any hm ?_
  refine region_any (P0 := P0) hsig (V := V) (G0 := lookA hv) hV (a0 := ⟨l.toArray, []⟩) (w0 := w0) (fun o ho d hod => by simpa using hd o ho d hod) (fun t => lookA_has hhv t) (by simpa using hP) (fun a w hJ => hQ' a w (by simpa using hJ)) _ _ _ _ (by simp) ?_ (Nat.le_refl _) ?_
  · unfold unl
    exact Nat.le_trans (List.length_filter_le _ _) (by simp)
  · exact ⟨rfl, rfl, fun _ _ => rfl, fun j d hj _ => by simp [Array.getD_eq_getD_getElem?, Array.getElem?_replicate] at hj; split at hj <;> simp at hj, Only.drew (Only.refl _ _), by simpa using rd.drew⟩
theorem region_typedL {r : Nat} {sig : FuncId → List AV → Option AV} (hsig : SigOK r sig) {ops : List Oper} (hv want : List (Nat × AV)) (rs : List (Nat × Nat)) {Q : Exit → Act → World → Prop} {l : List Value} {w0 : World} {P0 : Nat} {id : Nat}
    (hchk : chkReg sig ops hv want rs l.length = true) (rd : RdOK w0 r P0) (hhv : hasL r w0 (fun t => l.toArray.getD t undef) hv) (hP : P0 + 100 * ops.length ≤ 990000)
    (hQ : ∀ (u : Nat → Value) (w : World), hasL r w u want → RdOK w r (P0 + 100 * ops.length) → Only r w0 w → Q .normal ⟨(merge rs u 0 l).toArray, []⟩ w) :
    (Code.region id ops.toArray false).wp Try.prog Q ⟨l.toArray, []⟩ w0 := by
  obtain ⟨V, hV, hd, hQ'⟩ := typed_core hchk hQ
  refine wp_region_lit ?_
  refine region_list (P0 := P0) hsig (V := V) (G0 := lookA hv) hV (a0 := ⟨l.toArray, []⟩) (w0 := w0) (fun o ho d hod => by simpa using hd o ho d hod) (fun t => lookA_has hhv t) (by simpa using hP) (fun a w hJ => hQ' a w (by simpa using hJ)) ops.length 0 _ _ _ (by simp) (by simp) ?_
  exact ⟨rfl, rfl, fun _ _ => rfl, fun j d hj _ => absurd (firstK_get.1 hj).2 (by omega), Only.refl _ _, by simpa using rd⟩
end Go.Proofs.Ytaidmimahakeeaa
